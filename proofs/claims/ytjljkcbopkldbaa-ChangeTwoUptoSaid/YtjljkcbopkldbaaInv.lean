/-
  change.Invert: slices.Backward at edits under a loop that appends copies. Condition: what is appended fits.
-/
import Derived.RangeFuncNested
import Derived.RangeFuncBound
import Derived.RangeFuncCalls
import Derived.RangeFuncLeaves
import Derived.RangeFuncBox
import Derived.Shelf.Abstract
import Derived.Shelf.RegionOpen
import Derived.WalkKit
import Derived.OwnWalkIn
import Derived.TacticsInMore
import Derived.LoopNIn
import Derived.LoopIn
import Derived.Maps.AppendAt
import Derived.Test.YtjljkcbopkldbaaX1
namespace Go.Proofs.Ytjljkcbopkldbaa
open Go.RowKit Go.Shelf Go.Proofs.YtjljkcbopkldbaaW.PrintWords Go.Proofs.YtjljkcbopkldbaaW.PrintLast Go.Proofs.YtjljkcbopkldbaaW.PrintMore Go.Proofs.Ytjljkcbopkldbaa.X
attribute [local go_sem] Oper.semAt_some
set_option linter.unusedVariables false
set_option linter.unusedSimpArgs false

/-- the indices that have come when k rounds are over, the last one first -/
def back (n : Nat) : Nat → List (Fin n)
  | 0 => []
  | k + 1 => if h : k < n then back n k ++ [⟨n - 1 - k, by omega⟩] else back n k
theorem back_succ {n k : Nat} (h : k < n) : back n (k + 1) = back n k ++ [⟨n - 1 - k, by omega⟩] := by rw [back, dif_pos h]
theorem back_length {n : Nat} : ∀ {k : Nat}, k ≤ n → (back n k).length = k
  | 0, _ => rfl
  | k + 1, h => by rw [back_succ (by omega), List.length_append, back_length (by omega)]; rfl

/-- what lies at the indices -/
structure Lies (W : World) (ad : Addr) (l : List S84) (a1 a2 : Nat → Option Addr) (k1 k2 : Nat → Nat) : Prop where
  c0 : ∀ i, i < l.length → W.cell? (ad.add (i * 3)) = some (.int .i64 (rd_T84 l (i : Int)).f0)
  c1 : ∀ i, i < l.length → W.cell? ⟨(ad.add (i * 3)).block, (ad.add (i * 3)).off + 1, none⟩ = some (.slice (a1 i) (rd_T84 l (i : Int)).f1.length (k1 i))
  c2 : ∀ i, i < l.length → W.cell? ⟨(ad.add (i * 3)).block, (ad.add (i * 3)).off + 2, none⟩ = some (.slice (a2 i) (rd_T84 l (i : Int)).f2.length (k2 i))

def eAgg (l : List S84) (a1 a2 : Nat → Option Addr) (k1 k2 : Nat → Nat) (i : Nat) : Value :=
  .agg #[.int .i64 (rd_T84 l (i : Int)).f0, .slice (a1 i) (rd_T84 l (i : Int)).f1.length (k1 i), .slice (a2 i) (rd_T84 l (i : Int)).f2.length (k2 i)]

def KpB (n₀ Bs : Nat) (W W' : World) : Prop := Below n₀ W W' ∧ W'.heap[Bs]? = W.heap[Bs]?
theorem KpB.refl (n₀ Bs : Nat) (W : World) : KpB n₀ Bs W W := ⟨Below.refl _ _, rfl⟩
theorem KpB.trans {n₀ Bs : Nat} {A B C : World} (h : KpB n₀ Bs A B) (h' : KpB n₀ Bs B C) : KpB n₀ Bs A C := ⟨h.1.trans h'.1, h'.2.trans h.2⟩

set_option maxRecDepth 100000 in
set_option maxHeartbeats 2000000 in
theorem back_in (F : Fence) (n : Nat) (h95 : F.fn 95) (hro : F.round = none) (hn : 1 ≤ n) (lp Bs n₀ : Nat) (A : Option Addr) (ad : Addr) (cap : Nat) (l : List S84) (a1 a2 : Nat → Option Addr) (k1 k2 : Nat → Nat) (hlm : l.length ≤ 9223372036854775807) (hA : 0 < l.length → A = some ad ∧ ad.block < n₀) (J Jx : List (Fin l.length) → World → Prop)
    (hY : ∀ pre (x : Fin l.length) W, J pre W → pre.length < l.length → YieldAt F (n - 1) Try.prog lp #[.int .i64 (x.1 : Int), eAgg l a1 a2 k1 k2 x.1] W fun e W' =>
      (e = .returned (.bool true) ∧ J (pre ++ [x]) W' ∧ KpB n₀ Bs W W') ∨ (e = .returned (.bool false) ∧ Jx (pre ++ [x]) W'))
    (W : World) (hBs : W.cell? ⟨Bs, 0, none⟩ = some (.slice A l.length cap)) (hc : Lies W ad l a1 a2 k1 k2) (h0 : J [] W) :
    CallsIn F n Try.prog 95 #[.func (.yield lp) #[] #[], .pointer (some ⟨Bs, 0, none⟩)] W fun e W' => (∃ v, e = .returned v) ∧
      ((∃ ys, ys = back l.length l.length ∧ J ys W') ∨ (∃ pre, (∃ k, k ≤ l.length ∧ pre = back l.length k) ∧ Jx pre W')) := by
  have hu84 := Try.underlying84
  refine callsIn_of_wp Try.func95 rfl h95 ?_ hro
  simp only [Try.ntmps95, List.size_toArray, List.length_cons, List.length_nil, Nat.reduceAdd, Nat.reduceSub, Array.replicate_succ, Array.replicate_zero, List.push_toArray, List.append_toArray, List.nil_append, List.cons_append]
  gi_wp2
  gi_loopw [3] (fun i wr => ∃ k : Nat, k ≤ l.length ∧ i = .int .i64 ((l.length : Int) - 1 - k) ∧ J (back l.length k) wr ∧ KpB n₀ Bs W wr)
    (fun i _ => (intOf i + 1).toNat)
  case atStart => exact ⟨0, Nat.zero_le _, by go_num, h0, KpB.refl _ _ _⟩
  case round =>
    obtain ⟨k, hk, rfl, hJs, hkp⟩ := hrel
    have hbx : wr.cell? ⟨Bs, 0, none⟩ = _ := (World.cell?_of_block (a := ⟨Bs, 0, none⟩) hkp.2).trans hBs
    have hnx := hkp.1
    by_cases hlt : k < l.length
    · obtain ⟨hAs, hb⟩ := hA (by omega)
      subst hAs
      have hx0 := (hnx.cell (p := ad.add ((l.length - 1 - k) * 3)) (by rw [add_block]; exact hb)).trans (hc.c0 (l.length - 1 - k) (by omega))
      have hx1 := (hnx.cell (p := ⟨(ad.add ((l.length - 1 - k) * 3)).block, (ad.add ((l.length - 1 - k) * 3)).off + 1, none⟩) (by show (ad.add _).block < n₀; rw [add_block]; exact hb)).trans (hc.c1 (l.length - 1 - k) (by omega))
      have hx2 := (hnx.cell (p := ⟨(ad.add ((l.length - 1 - k) * 3)).block, (ad.add ((l.length - 1 - k) * 3)).off + 2, none⟩) (by show (ad.add _).block < n₀; rw [add_block]; exact hb)).trans (hc.c2 (l.length - 1 - k) (by omega))
      obtain ⟨fn, tmps, assign, body, hy, hR⟩ := hY _ ⟨l.length - 1 - k, by omega⟩ wr hJs (by rw [back_length hk]; exact hlt)
      obtain ⟨j, hj⟩ : ∃ j : Nat, j = l.length - 1 - k := ⟨_, rfl⟩
      have hje : (l.length : Int) - 1 - (k : Int) = (j : Int) := by omega
      simp only [← hj] at hx0 hx1 hx2 hy
      rw [hje]
      unfold eAgg at hy
      have hjl : j < l.length := by omega
      have hjl' : (j : Int) < (l.length : Int) := by omega
      have hji : (j : Int) - 1 = (l.length : Int) - 1 - ((k + 1 : Nat) : Int) := by omega
      have HJI := Aside0.mk hji
      clear hj hje hji
      gi_wp2
      refine hR.mono ?_
      rintro e W3 (⟨rfl, hJ3, hk3⟩ | ⟨rfl, hJx3⟩)
      · gi_wp2
        go_roundw
        case rel => exact ⟨k + 1, by omega, by rw [← HJI.out], by rw [back_succ hlt]; exact hJ3, hkp.trans hk3⟩
        case measure => simp [intOf] <;> omega
      · gi_wp2
        refine bodyPost_ret (results_none rfl _ _ _) rfl ?_
        exact ⟨⟨_, rfl⟩, .inr ⟨_, ⟨k + 1, by omega, (back_succ hlt).symm⟩, hJx3⟩⟩
    · obtain rfl : k = l.length := by omega
      have hneg : ¬ (0 : Int) ≤ (l.length : Int) - 1 - (l.length : Int) := by omega
      gi_wp2
      go_end0
      exact ⟨⟨_, rfl⟩, .inl hJs⟩

def encE (l : List S84) (a1 a2 : Nat → Option Addr) (k1 k2 : Nat → Nat) (x : Fin l.length) : Array Value := #[.int .i64 (x.1 : Int), eAgg l a1 a2 k1 k2 x.1]

theorem Lies.below {W W' : World} {n₀ : Nat} {ad : Addr} {l : List S84} {a1 a2 : Nat → Option Addr} {k1 k2 : Nat → Nat} (h : Lies W ad l a1 a2 k1 k2) (hb : Below n₀ W W') (had : 0 < l.length → ad.block < n₀) : Lies W' ad l a1 a2 k1 k2 :=
  ⟨fun i hi => (hb.cell (by rw [add_block]; exact had (by omega))).trans (h.c0 i hi), fun i hi => (hb.cell (by show (ad.add _).block < n₀; rw [add_block]; exact had (by omega))).trans (h.c1 i hi), fun i hi => (hb.cell (by show (ad.add _).block < n₀; rw [add_block]; exact had (by omega))).trans (h.c2 i hi)⟩

theorem back_stops (F : Fence) (n : Nat) (h95 : F.fn 95) (hro : F.round = none) (hn : 1 ≤ n) (Bs n₀ : Nat) (A : Option Addr) (ad : Addr) (cap : Nat) (l : List S84) (a1 a2 : Nat → Option Addr) (k1 k2 : Nat → Nat) (hlm : l.length ≤ 9223372036854775807) (hA : 0 < l.length → A = some ad ∧ ad.block < n₀)
    (w : World) (hBs : Bs < w.heap.size) (hn₀ : n₀ ≤ w.heap.size) (hc : w.cell? ⟨Bs, 0, none⟩ = some (.slice A l.length cap)) (hL : Lies w ad l a1 a2 k1 k2) :
    SeqStopsK F n Try.prog 95 #[.pointer (some ⟨Bs, 0, none⟩)] (encE l a1 a2 k1 k2) (KpB n₀ Bs) (fun ys => ys = back l.length l.length) (fun pre => ∃ k, k ≤ l.length ∧ pre = back l.length k) l.length w := fun lp J Jx W hW _ _ hY h0 => by
  have hc' := (hW.cell (p := ⟨Bs, 0, none⟩) hBs).trans hc
  exact back_in F n h95 hro hn lp Bs n₀ A ad cap l a1 a2 k1 k2 hlm hA J Jx hY W hc' (hL.below (hW.mono hn₀) (fun h => (hA h).2)) h0

/-- from what is read: functions that tell what lies at each index -/
theorem lies_of_C {w : World} {A : Option Addr} {l : List S84} (h : Kd.C k84 w A l.length l) : ∃ (ad : Addr) (a1 a2 : Nat → Option Addr) (k1 k2 : Nat → Nat), (0 < l.length → A = some ad ∧ ad.block < w.heap.size) ∧ Lies w ad l a1 a2 k1 k2 ∧
    ∀ i, i < l.length → (rd_T84 l (i : Int)).f1.length ≤ k1 i ∧ Kd.C (Kd.int .u8) w (a1 i) (rd_T84 l (i : Int)).f1.length (rd_T84 l (i : Int)).f1 ∧ (rd_T84 l (i : Int)).f2.length ≤ k2 i ∧ Kd.C (Kd.int .u8) w (a2 i) (rd_T84 l (i : Int)).f2.length (rd_T84 l (i : Int)).f2 := by
  by_cases h0 : 0 < l.length
  · obtain ⟨ad, eA, _⟩ := h.2.2 h0
    have hall : ∀ i, i < l.length → ∃ A1 c1 A2 c2, w.cell? (ad.add (i * 3)) = some (.int .i64 (rd_T84 l (i : Int)).f0) ∧ w.cell? ⟨(ad.add (i * 3)).block, (ad.add (i * 3)).off + 1, none⟩ = some (.slice A1 (rd_T84 l (i : Int)).f1.length c1) ∧ w.cell? ⟨(ad.add (i * 3)).block, (ad.add (i * 3)).off + 2, none⟩ = some (.slice A2 (rd_T84 l (i : Int)).f2.length c2) ∧ (rd_T84 l (i : Int)).f1.length ≤ c1 ∧ Kd.C (Kd.int .u8) w A1 (rd_T84 l (i : Int)).f1.length (rd_T84 l (i : Int)).f1 ∧ (rd_T84 l (i : Int)).f2.length ≤ c2 ∧ Kd.C (Kd.int .u8) w A2 (rd_T84 l (i : Int)).f2.length (rd_T84 l (i : Int)).f2 := fun i hi => by
      obtain ⟨ad', A1, c1, A2, c2, e, g0, g1, g2, g3, g4, g5, g6⟩ := at_T84 h (i : Int) (by omega) (by omega)
      rw [eA] at e
      cases e
      rw [Int.toNat_natCast] at g0 g1 g2
      exact ⟨A1, c1, A2, c2, g0, g1, g2, g3, g4, g5, g6⟩
    refine ⟨ad, fun i => if hi : i < l.length then (hall i hi).choose else none, fun i => if hi : i < l.length then (hall i hi).choose_spec.choose_spec.choose else none, fun i => if hi : i < l.length then (hall i hi).choose_spec.choose else 0, fun i => if hi : i < l.length then (hall i hi).choose_spec.choose_spec.choose_spec.choose else 0, fun _ => ⟨eA, ?_⟩, ⟨fun i hi => ?_, fun i hi => ?_, fun i hi => ?_⟩, fun i hi => ?_⟩
    · have := World.block_lt_of_cell? w _ (hall 0 h0).choose_spec.choose_spec.choose_spec.choose_spec.1
      rwa [add_block] at this
    · exact (hall i hi).choose_spec.choose_spec.choose_spec.choose_spec.1
    · simp only [dif_pos hi]; exact (hall i hi).choose_spec.choose_spec.choose_spec.choose_spec.2.1
    · simp only [dif_pos hi]; exact (hall i hi).choose_spec.choose_spec.choose_spec.choose_spec.2.2.1
    · simp only [dif_pos hi]; exact (hall i hi).choose_spec.choose_spec.choose_spec.choose_spec.2.2.2
  · exact ⟨⟨0, 0, none⟩, fun _ => none, fun _ => none, fun _ => 0, fun _ => 0, fun h => absurd h h0, ⟨fun i hi => by omega, fun i hi => by omega, fun i hi => by omega⟩, fun i hi => by omega⟩

def flip (e : S84) : S84 := ⟨e.f0, e.f2, e.f1⟩
def okE (e : S84) : Bool := decide (e.f1.length ≤ 140737488355328) && decide (e.f2.length ≤ 140737488355328)
def change_Invert.f (l : List S84) : Option (List S84) := if l.length < 2513169434916 ∧ l.all okE = true then some (l.reverse.map flip) else none

/-- slices.Backward: the slice value is boxed; the function value captures the box. -/
theorem backward_in (F : Fence) (n : Nat) (h77 : F.fn 77) (hro : F.round = none) (A : Option Addr) (len cap : Nat) (w : World) :
    CallsIn F n Try.prog 77 #[.slice A len cap] w fun e w' => e = .returned (.func (.func 95) #[] #[.pointer (some ⟨w.heap.size, 0, none⟩)]) ∧ w' = w.alloc (.cells #[.slice A len cap] 25) := by
  refine callsIn_of_wp Try.func77 rfl h77 ?_ hro
  simp only [Try.ntmps77, List.size_toArray, List.length_cons, List.length_nil, Nat.reduceAdd, Nat.reduceSub, Array.replicate_succ, Array.replicate_zero, List.push_toArray, List.append_toArray, List.nil_append, List.cons_append]
  gi_wp2
  go_ret
  exact ⟨rfl, rfl⟩

/-- append at edits, as one word: so that the walk takes it by a fact -/
def app25 (x : Array Value) : Sem Value := Builtin.append_ #[25, 25] 25 x
theorem app_fold (x : Array Value) : Builtin.append_ #[25, 25] 25 x = app25 x := rfl

theorem S_run {w0 W : World} {base : Nat} {v : Value} {xs : List S84} {p : S84} {cs : List Value} {ok okp : Nat → Prop} (hp : k84.M W base okp p cs) (hokp : ∀ k, okp k → ok k ∧ some k ≠ v.ownBlock) (hfresh : ∀ k, W.heap.size ≤ k → ok k)
    (HO : Kd.S k84 84 W base (fun k => ok k ∧ ¬ okp k) v xs) (HB : Below base w0 W) (hbase : base ≤ W.heap.size) (hl : (xs.length + 1) * 56 ≤ 140737488355328) :
    ∃ v1 w1, (app25 #[v, .slice (some ⟨W.heap.size, 0, none⟩) 1 1]).run Try.prog (W.alloc (.cells cs.toArray 84)) = .ok v1 w1 ∧ Kd.S k84 84 w1 base ok v1 (xs ++ [p]) ∧ Below base w0 w1 ∧ W.grownBy w1 v.ownBlock := by
  obtain ⟨f, hf, hR⟩ := Kd.S_tag HO xs.length okp (fun _ hk h2 => h2.2 hk)
  obtain ⟨h0, inner, hown, hr⟩ := Kd.R_mono hR (fun _ hk => hk.1)
  rw [List.length_zipIdx] at hown
  obtain ⟨i0, hi, hzz⟩ := Option.map_eq_some_iff.1 info84
  simp only [Prod.mk.injEq] at hzz
  obtain ⟨hz0, hz1, hz2⟩ := hzz
  have hp' : (Kd.tag f k84).M W base okp (p, xs.length) cs := k84.M_mono (fun k hk => ⟨hk, hf k hk⟩) hp
  have hcl : cs.length = 3 := k84.K_len (k84.K_of_M hp)
  have hone : ∀ u ∈ cs, u.oneCell' = true := k84.K_one (k84.K_of_M hp)
  obtain ⟨v1, w1, hrun, hown1, hg, _, hat⟩ := run_append_own_at (P := Try.prog) (w := W.alloc (.cells cs.toArray 84)) base 25 25 84 i0 _ 3 56 Try.underlying25 hi hz0 hz1 hz2 rfl (by decide) v xs.length inner (hown.alloc _) ⟨W.heap.size, 0, none⟩ 1 1 cs (by rw [hcl])
    (by simpa using World.news_of_block (cs := cs.toArray) (t := 84) (fr := (0, 0)) (heap_alloc_new W (.cells cs.toArray 84))) hone (by unfold maxLen; omega) hl (by simp; omega)
  have hg1 : W.grownBy w1 v.ownBlock := World.grownBy.trans (World.grownBy_alloc W _ _) hg
  have hat1 : v1.ownBlock = v.ownBlock ∨ ∃ b, v1.ownBlock = some b ∧ W.heap.size ≤ b := by
    rcases hat with hat | hat
    · exact .inl hat
    · exact .inr ⟨_, hat, by simp⟩
  refine ⟨v1, w1, hrun, ⟨f, ?_⟩, (HB.alloc hbase _).grown hg (by simp; omega) (own_base hown), hg1⟩
  rw [Kd.zip_snoc]
  exact Kd.R_appended h0 hr hp' hokp hfresh (by rw [List.length_zipIdx]; exact hown1) hg1 hat1

attribute [local go_sem ↓] app_fold

/-- a block of the rows' own type that isn't the outer row's is none of its blocks -/
theorem S_but {W : World} {base Be : Nat} {v : Value} {xs : List S84} {cells : Array Value} (h : Kd.S k84 84 W base (fun _ => True) v xs) (hb : W.heap[Be]? = some (.cells cells 84 (0, 0))) (hne : v.ownBlock ≠ some Be) : Kd.S k84 84 W base (fun k => k ≠ Be) v xs := by
  obtain ⟨f, h0, inner, ho, hr⟩ := h
  refine ⟨f, fun k hk e => hne (by rw [hk, e]), inner, ho, hr.imp_ (fun p c hp => (Kd.tag f k84).M_mono (fun k hk => ⟨hk.2, hk.1.2⟩) (Kd.M_types hp hb ?_))⟩
  intro q hq
  have hq' : q ∈ [5, 5] := hq
  simp at hq'
  omega

/-- what has come, turned over -/
def come (l : List S84) (pre : List (Fin l.length)) : List S84 := pre.map fun i => flip (rd_T84 l (i.1 : Int))

theorem back_get {n : Nat} : ∀ {k : Nat} (hk : k ≤ n) (j : Nat) (hj : j < k), (back n k)[j]? = some ⟨n - 1 - j, by omega⟩
  | 0, _, j, hj => by omega
  | k + 1, hk, j, hj => by
    rw [back_succ (by omega)]
    by_cases h : j < k
    · rw [List.getElem?_append_left (by rw [back_length (by omega)]; exact h)]; exact back_get (by omega) j h
    · obtain rfl : j = k := by omega
      rw [List.getElem?_append_right (by rw [back_length (by omega)]; omega), back_length (by omega)]; simp
theorem come_back (l : List S84) : come l (back l.length l.length) = l.reverse.map flip := by
  apply List.ext_getElem?
  intro j
  unfold come
  by_cases hj : j < l.length
  · rw [List.getElem?_map, List.getElem?_map, back_get (Nat.le_refl _) j hj, List.getElem?_reverse hj, List.getElem?_eq_getElem (by omega)]
    simp only [Option.map_some]
    unfold rd_T84
    rw [Int.toNat_natCast]
    simp [List.getD, List.getElem?_eq_getElem (show l.length - 1 - j < l.length by omega)]
  · rw [List.getElem?_eq_none (by rw [List.length_map, back_length (Nat.le_refl _)]; omega), List.getElem?_eq_none (by simp; omega)]

set_option maxRecDepth 100000 in
set_option maxHeartbeats 4000000 in
theorem change_Invert.in_ (A0 : Option Addr) (c0 : Nat) (l0 : List S84) (r : List S84) (w : World) (hr0 : Kd.C k84 w A0 l0.length l0) (hc0 : l0.length ≤ c0) (h : change_Invert.f l0 = some r) :
    CallsIn Fence.wide 3 Try.prog 42 #[.slice A0 l0.length c0] w fun e w' => ∃ v0_ : Value, e = .returned v0_ ∧ Kd.S k84 84 w' w.heap.size (fun _ => True) v0_ r ∧ Below w.heap.size w w' := by
  have hu84 := Try.underlying84
  have hlm : l0.length ≤ 9223372036854775807 := hr0.2.1
  obtain ⟨ad, a1, a2, k1, k2, hA, hL, hE⟩ := lies_of_C hr0
  unfold change_Invert.f at h
  by_cases hcond : l0.length < 2513169434916 ∧ l0.all okE = true
  case neg => rw [if_neg hcond] at h; cases h
  rw [if_pos hcond] at h
  have HR := Aside0.mk (Option.some.inj h)
  have HCO := Aside0.mk hcond
  clear h hcond
  refine callsIn_of_wp_marks Try.func42 rfl trivial ?_ rfl
  simp only [Try.ntmps42, List.size_toArray, List.length_cons, List.length_nil, Nat.reduceAdd, Nat.reduceSub, Array.replicate_succ, Array.replicate_zero, List.push_toArray, List.append_toArray, List.nil_append, List.cons_append]
  gi_wp2_with (refine ⟨trivial, ?_⟩; gi_at_call 77; refine (backward_in Fence.wide 2 trivial rfl _ _ _ _).mono ?_; rintro e w' ⟨rfl, rfl⟩)
  obtain ⟨B, hB⟩ : ∃ B, B = w.heap.size := ⟨_, rfl⟩
  obtain ⟨W0, hW0⟩ : ∃ W0, W0 = (w.alloc (.cells #[.slice none 0 0] 25)).alloc (.cells #[.slice A0 l0.length c0] 25) := ⟨_, rfl⟩
  have hsz0 : (w.alloc (.cells #[.slice none 0 0] 25)).heap.size = B + 1 := by rw [hB]; simp [World.alloc_eq]
  have hsz : W0.heap.size = B + 1 + 1 := by rw [hW0]; simp [World.alloc_eq, hB]
  have hout : Boxed W0 B 25 (.slice none 0 0) := by rw [hW0, hB]; exact (Boxed.new w 25 _).alloc _
  have hbx : W0.cell? ⟨B + 1, 0, none⟩ = some (.slice A0 l0.length c0) := by rw [hW0, ← hsz0]; exact (Boxed.new _ 25 _).cell
  have hbw : Below B w W0 := by rw [hW0]; exact ((Below.refl _ _).alloc (by omega) _).alloc (by omega) _
  have hbs : Boxed W0 (B + 1) 25 (.slice A0 l0.length c0) := by rw [hW0, ← hsz0]; exact Boxed.new _ 25 _
  rw [← hW0, ← hB]
  rw [← hB] at hA
  have hL0 := hL.below hbw (fun h => (hA h).2)
  have hKt : ∀ {A B' C : World}, KpB B (B + 1) A B' → KpB B (B + 1) B' C → KpB B (B + 1) A C := fun h h' => h.trans h'
  have hKb : ∀ (W : World) (l : Nat) (o o' : Obj), W0.heap.size ≤ l → W.heap[l]? = some o → o.isCells = false → o.isWalk = false → KpB B (B + 1) W (W.putObj l o') := fun W l o o' hl ho h1 h2 =>
    ⟨belowK_b (w := W0) (by omega) W l o o' hl ho h1 h2, World.putObj_heap_other (by omega)⟩
  refine wpIn_rangeFunc_ownH rfl (by omega) (gf := 95) (lb := #[.pointer (some ⟨B + 1, 0, none⟩)]) rfl trivial (enters_of Try.func95 (by kernel_rfl) rfl)
    (back_stops Fence.wide (3 - 1) trivial rfl (by omega) (B + 1) B A0 ad c0 l0 a1 a2 k1 k2 hlm hA W0 (by omega) (by omega) hbx hL0) hKt hKb (Below.refl _ _) (fun _ => rfl)
    (fun pre W => ((∃ v, Boxed W B 25 v ∧ Kd.S k84 84 W B (fun _ => True) v (come l0 pre)) ∧ Boxed W (B + 1) 25 (.slice A0 l0.length c0)) ∧ Below B w W)
    (fun _ _ _ => False)
    (OwnFrom.and (OwnFrom.and ?own1 (Own.from (boxed_own _ _ _) _)) (ownFrom_below (Nat.le_of_eq hB) (by omega)))
    (fun _ _ _ _ _ hs _ _ => hs)
    ⟨⟨⟨_, hout, Kd.S_nil _ _ _ _ _⟩, hbs⟩, hbw⟩
    (fun x a' W => ∃ Be, B + 1 < Be ∧ W.heap[Be]? = some (.cells #[.int .i64 (rd_T84 l0 (x.1 : Int)).f0, .slice (a1 x.1) (rd_T84 l0 (x.1 : Int)).f1.length (k1 x.1), .slice (a2 x.1) (rd_T84 l0 (x.1 : Int)).f2.length (k2 x.1)] 84 (0, 0)) ∧ (∃ v, Boxed W B 25 v ∧ v.ownBlock ≠ some Be) ∧ a' = { tmps := #[.slice A0 l0.length c0, undef, .slice none 0 0, .pointer (some ⟨B, 0, none⟩), undef, .pointer (some ⟨Be, 0, none⟩), .slice A0 l0.length c0, .func (.func 95) #[] #[.pointer (some ⟨B + 1, 0, none⟩)], .int .i64 (x.1 : Int), eAgg l0 a1 a2 k1 k2 x.1, undef, undef, undef, undef, undef, undef, undef, undef, undef, undef, undef, undef], defers := [] })
    ?own2 ?assign ?body ?done ?stop
  case own1 =>
    intro s W W' row hs hg hr
    obtain ⟨v, h1, h2⟩ := hs
    have hne : ∀ k o, W.heap[k]? = some o → o.isCells = true → some k ≠ row := fun k o hk ho e => by
      obtain ⟨_, o', h3, h4⟩ := hr k e.symm
      rw [hk] at h3; cases h3; rw [ho] at h4; cases h4
    exact ⟨v, h1.kept hg (hne B _ h1 rfl), Kd.S_mono (Kd.S_grown (Kd.S_bound h2) hg (fun k hk => by
      obtain ⟨_, _, _, q, _, cells, hc⟩ := hk
      exact hne k _ hc rfl)) (fun _ _ => trivial)⟩
  case own2 =>
    intro x a' s W W' row hs hg hr
    obtain ⟨Be, h1, h2, ⟨v, hv, hvb⟩, h3⟩ := hs
    have hne : ∀ k o, W.heap[k]? = some o → o.isCells = true → some k ≠ row := fun k o hk ho e => by
      obtain ⟨_, o', h3, h4⟩ := hr k e.symm
      rw [hk] at h3; cases h3; rw [ho] at h4; cases h4
    exact ⟨Be, h1, (hg.block Be (blk_lt h2) (hne Be _ h2 rfl)).trans h2, ⟨v, hv.kept hg (hne B _ hv rfl), hvb⟩, h3⟩
  case assign =>
    have HBq := Aside0.mk hB
    clear hB
    rintro l pre x W K ⟨⟨⟨v, hv, hS⟩, hb1⟩, hBw⟩ hK
    have hlt1 := hv.lt
    have hlt2 := hb1.lt
    unfold encE eAgg
    gi_wp2
    refine hK _ _ ((KeepsOthers.alloc _ _).from _) ⟨(Below.refl B W).alloc (by omega) _, Below.heap_alloc W _ (B + 1) hlt2⟩ ⟨⟨⟨v, hv.alloc _, Kd.S_alloc hS _⟩, hb1.alloc _⟩, hBw.alloc (by omega) _⟩ ⟨W.heap.size, by omega, blk_new W _, ⟨v, hv.alloc _, fun e => Nat.lt_irrefl _ (Kd.S_lt hS _ e)⟩, rfl⟩
  case body =>
    have HBq := Aside0.mk hB
    clear hB
    rintro l pre x a' W hl hrec ⟨⟨⟨v, hv, hS⟩, hbs1⟩, hBw⟩ ⟨Be, hBe, hbe, ⟨v', hv', hvb⟩, rfl⟩ hlt
    have hvv : v' = v := by
      have := hv'.symm.trans hv
      injection this with this; injection this with this _ _
      injection this with this; injection this
    subst hvv
    have HS := Aside0.mk (S_but hS hbe hvb)
    have hcv := hv.cell
    have hfv := hv.frozen
    have hb0 := blk_cell hbe 0
    have hb1 := blk_cell hbe 1
    have hb2 := blk_cell hbe 2
    have hf0 := blk_frozen hbe 0
    have hf1 := blk_frozen hbe 1
    have hf2 := blk_frozen hbe 2
    simp only [List.getElem?_toArray, List.getElem?_cons_zero, List.getElem?_cons_succ] at hb0 hb1 hb2
    gi_wp2_with fail
    obtain ⟨W2, hW2⟩ : ∃ W2, W2 = ((W.setCell ⟨Be, 1, none⟩ (.slice (a2 x.1) (rd_T84 l0 (x.1 : Int)).f2.length (k2 x.1))).setCell ⟨Be, 2, none⟩ (.slice (a1 x.1) (rd_T84 l0 (x.1 : Int)).f1.length (k1 x.1))) := ⟨_, rfl⟩
    rw [← hW2]
    have hBeB : B ≠ Be := by omega
    have hBeB1 : B + 1 ≠ Be := by omega
    have hv2 : Boxed W2 B 25 v' := by rw [hW2]; exact blk_far (blk_far hv hBeB _) hBeB _
    have hbs2 : Boxed W2 (B + 1) 25 (.slice A0 l0.length c0) := by rw [hW2]; exact blk_far (blk_far hbs1 hBeB1 _) hBeB1 _
    have hbe2 : W2.heap[Be]? = some (.cells #[.int .i64 (rd_T84 l0 (x.1 : Int)).f0, .slice (a2 x.1) (rd_T84 l0 (x.1 : Int)).f2.length (k2 x.1), .slice (a1 x.1) (rd_T84 l0 (x.1 : Int)).f1.length (k1 x.1)] 84 (0, 0)) := by
      rw [hW2]; exact blk_put (blk_put hbe 1 _ rfl) 2 _ rfl
    have HS2 := Aside0.mk (show Kd.S k84 84 W2 B (fun k => k ≠ Be) v' (come l0 pre) by rw [hW2]; exact Kd.S_far (p := ⟨Be, 2, none⟩) (Kd.S_far (p := ⟨Be, 1, none⟩) HS.out (fun _ hk => hk) _) (fun _ hk => hk) _)
    have hkk : Below B W W2 := by rw [hW2]; exact ((Below.refl _ _).setCell (p := ⟨Be, 1, none⟩) (by show B ≤ Be; omega) _).setCell (p := ⟨Be, 2, none⟩) (by show B ≤ Be; omega) _
    have hke : KeepsFrom W0.heap.size W W2 := by rw [hW2]; exact ((KeepsOthers.setCell _ _ _).trans (KeepsOthers.setCell _ _ _)).from _
    have HB2 := Aside0.mk (hBw.trans hkk)
    have HBS1 := Aside0.mk hbs1
    have hBw0 : B = w.heap.size := HBq.out
    have hxl := x.2
    obtain ⟨hq1, hq2, hq3, hq4⟩ := hE x.1 hxl
    have HC1 := Aside0.mk (Kd.C_below hq2 (by rw [← hBw0]; exact HB2.out))
    have HC2 := Aside0.mk (Kd.C_below hq4 (by rw [← hBw0]; exact HB2.out))
    clear hcv hfv hb0 hb1 hb2 hf0 hf1 hf2 hW2 hv hbs1 hbe hv' hvb hBw0 hq2 hq4 HS hS
    have hcv := hv2.cell
    have hfv := hv2.frozen
    have hb0 := blk_cell hbe2 0
    have hb1 := blk_cell hbe2 1
    have hb2 := blk_cell hbe2 2
    simp only [List.getElem?_toArray, List.getElem?_cons_zero, List.getElem?_cons_succ] at hb0 hb1 hb2
    have hmx : Try.prog.follows .mixedOrders = true := by kernel_rfl
    have hcf : change_copied.f (rd_T84 l0 (x.1 : Int)).f0 (rd_T84 l0 (x.1 : Int)).f2 (rd_T84 l0 (x.1 : Int)).f1 = some ((rd_T84 l0 (x.1 : Int)).f0, (rd_T84 l0 (x.1 : Int)).f2, (rd_T84 l0 (x.1 : Int)).f1) := by
      have hmem : rd_T84 l0 (x.1 : Int) ∈ l0 := by
        unfold rd_T84
        rw [Int.toNat_natCast]
        simp [List.getD, List.getElem?_eq_getElem hxl]
      have hok := List.all_eq_true.1 HCO.out.2 _ hmem
      unfold okE at hok
      rw [Bool.and_eq_true] at hok
      have o1 := of_decide_eq_true hok.1
      have o2 := of_decide_eq_true hok.2
      simp [change_copied.f, bytes_Clone.f, o1, o2]
    have hpl : (come l0 pre).length = pre.length := by unfold come; rw [List.length_map]
    have hl56 : ((come l0 pre).length + 1) * 56 ≤ 140737488355328 := by have := HCO.out.1; rw [hpl]; omega
    have step : ∀ (w3 : World) (u1 u2 : Value), Kd.R (Kd.int .u8) 5 w3 W2.heap.size (fun k_ => some k_ ≠ u2.ownBlock) u1 (rd_T84 l0 (x.1 : Int)).f2 → Kd.R (Kd.int .u8) 5 w3 W2.heap.size (fun k_ => some k_ ≠ u1.ownBlock) u2 (rd_T84 l0 (x.1 : Int)).f1 → Below W2.heap.size W2 w3 →
        ∃ Av nv cv w4, (app25 #[v', .slice (some ⟨w3.heap.size, 0, none⟩) 1 1]).run Try.prog (w3.alloc (.cells #[.int .i64 (rd_T84 l0 (x.1 : Int)).f0, u1, u2] 84)) = .ok (.slice Av nv cv) w4 ∧ Kd.S k84 84 w4 B (fun _ => True) (.slice Av nv cv) (come l0 (pre ++ [x])) ∧ Below B W w4 ∧ w3.grownBy w4 v'.ownBlock ∧ Boxed w4 B 25 v' ∧ Boxed w4 (B + 1) 25 (.slice A0 l0.length c0) ∧ (∀ (j : Nat) (o : Obj), v'.ownBlock = some j → w3.heap[j]? = some o → o.isCells = true) ∧ w3.cell? ⟨B, 0, none⟩ = some v' ∧ w4.cell? ⟨B, 0, none⟩ = some v' ∧ w4.frozen? ⟨B, 0, none⟩ = false := fun w3 u1 u2 hr1 hr2 hb3 => by
      have hS3 := Kd.S_below (Kd.S_bound HS2.out) hb3
      have hBsz : B ≤ W2.heap.size := by have := hv2.lt; omega
      have g1 : Kd.R (Kd.int .u8) 5 w3 B (fun k => W2.heap.size ≤ k) u1 (rd_T84 l0 (x.1 : Int)).f2 := Kd.R_lower (Kd.R_mono (Kd.R_bound hr1) (fun k hk => hk.2.1)) hBsz
      have g2 : Kd.R (Kd.int .u8) 5 w3 B (fun k => W2.heap.size ≤ k) u2 (rd_T84 l0 (x.1 : Int)).f1 := Kd.R_lower (Kd.R_mono (Kd.R_bound hr2) (fun k hk => hk.2.1)) hBsz
      obtain ⟨v1, w4, k1_, k2_, k3_, k4_⟩ := S_run (w0 := W) (W := w3) (base := B) (v := v') (xs := come l0 pre) (p := flip (rd_T84 l0 (x.1 : Int))) (cs := [.int .i64 (rd_T84 l0 (x.1 : Int)).f0, u1, u2]) (ok := fun _ => True) (okp := fun k => W2.heap.size ≤ k)
        (k84_mkM w3 B _ (flip (rd_T84 l0 (x.1 : Int))) g1 g2) (fun k hk => ⟨trivial, fun e => by have := Kd.S_lt HS2.out k e.symm; omega⟩) (fun _ _ => trivial)
        (Kd.S_mono hS3 (fun k hk => ⟨trivial, by have := hk.2.2.1; omega⟩)) (hkk.trans (hb3.mono hBsz)) (by have := hb3.size; omega) hl56
      have hv3 : Boxed w3 B 25 v' := blk_below hv2 hb3
      have hv4 : Boxed w4 B 25 v' := hv3.kept k4_ (fun e => by
        obtain ⟨cells, hc⟩ := Kd.S_typed HS2.out B e.symm
        have := hv2.symm.trans hc
        injection this with this; injection this with _ this _; exact absurd this (by decide))
      obtain ⟨Av, cv, rfl, _, _⟩ := Kd.R_reads (Kd.S_R k2_)
      have hs3 : Boxed w3 (B + 1) 25 (.slice A0 l0.length c0) := blk_below hbs2 hb3
      have hs4 : Boxed w4 (B + 1) 25 (.slice A0 l0.length c0) := hs3.kept k4_ (fun e => by
        obtain ⟨cells, hc⟩ := Kd.S_typed HS2.out (B + 1) e.symm
        have := hbs2.symm.trans hc
        injection this with this; injection this with _ this _; exact absurd this (by decide))
      refine ⟨Av, _, cv, w4, k1_, ?_, k3_, k4_, hv4, hs4, fun j o hj ho => by
        obtain ⟨cells, hc⟩ := Kd.S_typed hS3 j hj
        rw [hc] at ho; cases ho; rfl, hv3.cell, hv4.cell, hv4.frozen⟩
      have : come l0 (pre ++ [x]) = come l0 pre ++ [flip (rd_T84 l0 (x.1 : Int))] := by unfold come; rw [List.map_append]; rfl
      rw [this]; exact k2_
    have HSTEP := Aside0.mk step
    clear step
    gi_region_with_o (refine ⟨trivial, ?_⟩; gi_at_call 78; refine (CallsIn.inRound l (callsIn_wide.2 (change_copied.calls _ _ _ _ _ _ _ _ _ _ _ (Kd.C_drew HC2.out) hq3 (Kd.C_drew HC1.out) hq1 hcf))).mono ?_; rintro e w3 ⟨u1, u2, rfl, hr1, hr2, hb3⟩; obtain ⟨Av, nv, cv, w4, hrun, hS4, hB4, hg4, hv4, hs4, hrw, hc3, hc4, hf4⟩ := HSTEP.out w3 u1 u2 hr1 hr2 ((Below.drew (Below.refl _ W2)).trans hb3); have hc3' := fun o => Lib.cell?_alloc_some (W := w3) o hc3; obtain ⟨A1', c1', rfl, hl1', hC1'⟩ := Kd.R_reads hr1; obtain ⟨A2', c2', rfl, hl2', hC2'⟩ := Kd.R_reads hr2)
    all_goals gi_wp2
    all_goals
      have hS5 : Kd.S k84 84 (w4.setCell ⟨B, 0, none⟩ (.slice Av nv cv)) B (fun _ => True) (.slice Av nv cv) (come l0 (pre ++ [x])) := Kd.S_set hS4 hv4 (by intro q hq; have hq' : q ∈ [84, 5, 5] := hq; simp at hq'; omega) 0 _
      exact ⟨hke.trans (((KeepsOthers.drew W2).from _).trans (KeepsFrom.trans ⟨hb3.size, fun k o _ hk _ => (hb3.block k (Array.getElem?_eq_some_iff.1 hk).1).trans hk⟩ ((KeepsOthers.of_grownBy hg4 hrw).from _ |>.trans ((KeepsOthers.setCell _ _ _).from _)))),
        ⟨hB4.setCell (p := ⟨B, 0, none⟩) (Nat.le_refl _) _, ((hs4.other (by omega) _ : Boxed (w4.setCell ⟨B, 0, none⟩ (.slice Av nv cv)) (B + 1) 25 (.slice A0 l0.length c0))).trans HBS1.out.symm⟩,
        ⟨⟨_, hv4.set _, hS5⟩, hs4.other (by omega) _⟩, (hBw.trans hB4).setCell (p := ⟨B, 0, none⟩) (Nat.le_refl _) _⟩
  case done =>
    rintro D ys W hD rfl ⟨⟨⟨v, hv, hS⟩, hbs1⟩, hBw⟩ hK
    have HBq := Aside0.mk hB
    clear hB
    have hcv := hv.cell
    gi_wp2
    refine ⟨by simp, .inl ⟨_, _, rfl, run_takeDeferred hK, ?_⟩⟩
    have hne : ∀ k o, W.heap[k]? = some o → o.isCells = true → some k ≠ some D := fun k o hk ho e => by
      cases e; rw [hK] at hk; cases hk; cases ho
    have hS' := Kd.S_mono (ok' := fun _ => True) (Kd.S_grown (Kd.S_bound hS) (grownBy_putObj' W D (.deferred none)) (fun k hk => by
      obtain ⟨_, _, _, q, _, cells, hc⟩ := hk
      exact hne k _ hc rfl)) (fun _ _ => trivial)
    rw [come_back, HR.out] at hS'
    refine ⟨_, results_tmp rfl _ _ _, ⟨_, rfl, by rw [← HBq.out]; exact hS', ?_⟩⟩
    rw [← HBq.out]
    exact hBw.trans (belowK_b (w := W0) (by omega) W D _ _ hD hK rfl rfl)
  case stop =>
    rintro D c pre W hD hp hIx
    exact hIx.elim

theorem change_Invert.calls (A0 : Option Addr) (c0 : Nat) (l0 : List S84) (r : List S84) (w : World) (hr0 : Kd.C k84 w A0 l0.length l0) (hc0 : l0.length ≤ c0) (h : change_Invert.f l0 = some r) :
    Calls Try.prog 42 #[.slice A0 l0.length c0] w fun e w' => ∃ v0_ : Value, e = .returned v0_ ∧ Kd.S k84 84 w' w.heap.size (fun _ => True) v0_ r ∧ Below w.heap.size w w' :=
  callsIn_wide.1 (change_Invert.in_ A0 c0 l0 r w hr0 hc0 h)

end Go.Proofs.Ytjljkcbopkldbaa
