/-
  change.Apply and the reference's Apply answer by one plain function. Condition: no text on the way is longer than 2^47.
-/
import Derived.Test.YtjljkcbopkldbaaRepc
import Derived.Test.YtjljkcbopkldbaaHp
namespace Go.Proofs.Ytjljkcbopkldbaa
open Go.RowKit Go.Proofs.YtjljkcbopkldbaaW.PrintWords Go.Proofs.YtjljkcbopkldbaaW.PrintLast Go.Proofs.YtjljkcbopkldbaaW.PrintMore Go.Proofs.Ytjljkcbopkldbaa.X
set_option linter.unusedVariables false
set_option linter.unusedSimpArgs false

/-- does the edit fit the text? -/
def fitsB (t : List Int) (e : S84) : Bool := decide (0 ≤ e.f0) && (decide (e.f0 ≤ (t.length : Int)) && Hp.hpB (t.drop e.f0.toNat) e.f1)
/-- the text behind an edit that fits -/
def putE (t : List Int) (e : S84) : List Int := t.take e.f0.toNat ++ e.f2 ++ t.drop (e.f0.toNat + e.f1.length)
def applyL : List S84 → List Int → Option (List Int × Int)
  | [], t => some (t, 0)
  | e :: r, t => if fitsB t e then (if (putE t e).length ≤ 140737488355328 then applyL r (putE t e) else none) else some ([], 170)
def change_Apply.f (l0 : List Int) (l1 : List S84) : Option (List Int × Int) := if l0.length ≤ 140737488355328 then applyL l1 l0 else none

/-- what is read out of a row of bytes, as a source -/
theorem rd_C {w : World} {A : Option Addr} {l : List Int} (h : Kd.C (Kd.int .u8) w A l.length l) {g : Nat} (hg : w.heap.size ≤ g) : 0 < l.length → ∃ ad : Addr, A = some ad ∧ ad.block ≠ g ∧ ∀ j u, (nums .u8 l)[j]? = some u → w.cell? (ad.add j) = some u := fun h0 => by
  obtain ⟨_, _, hr⟩ := Kd.reads_of_C (d := (0 : Int)) h
  obtain ⟨ad, e, hc⟩ := hr h0
  have hcc : ∀ i, i < l.length → w.cell? (ad.add i) = some (.int .u8 (l.getD i 0)) := fun i hi => hc i hi
  refine ⟨ad, e, ?_, fun j u hj => ?_⟩
  · have := World.block_lt_of_cell? w _ (hcc 0 h0)
    rw [add_block] at this
    omega
  · have hjl : j < l.length := by have := (List.getElem?_eq_some_iff.1 hj).1; rwa [nums_length] at this
    rw [hcc j hjl]
    unfold nums at hj
    rw [List.getElem?_map, List.getElem?_eq_getElem hjl] at hj
    simp at hj
    rw [← hj]
    simp [List.getD, List.getElem?_eq_getElem hjl]

/-- the text on the way: a row of the call's own -/
structure OnWay (B : Nat) (w : World) (g cap : Nat) (t : List Int) : Prop where
  ge : B ≤ g
  row : ∃ cur, RowAt w g cur ∧ cur.length = cap ∧ cur.take t.length = nums .u8 t
  le : t.length ≤ cap
  max : cap ≤ maxLen
theorem OnWay.out {B g cap : Nat} {w : World} {t : List Int} (h : OnWay B w g cap t) : w.ownsRow B 5 1 (.slice (some ⟨g, 0, none⟩) t.length cap) t.length (nums .u8 t) := by
  obtain ⟨cur, h1, h2, h3⟩ := h.row
  exact h1.owns h.ge h2 h.le h.max h3
theorem OnWay.of {B g cap n : Nat} {w : World} {t : List Int} (hl : n = t.length) (h : w.ownsRow B 5 1 (.slice (some ⟨g, 0, none⟩) n cap) n (nums .u8 t)) : OnWay B w g cap t := by
  subst hl
  obtain ⟨cur, h1, h2, h3, h4, h5, h6, _⟩ := owns_row h
  exact ⟨h2, ⟨cur, h1, h3, h6⟩, h4, h5⟩
theorem OnWay.below {B g cap : Nat} {w w' : World} {t : List Int} (h : OnWay B w g cap t) (hb : Below w.heap.size w w') : OnWay B w' g cap t := by
  obtain ⟨cur, h1, h2, h3⟩ := h.row
  exact ⟨h.ge, ⟨cur, by unfold RowAt at h1 ⊢; rw [hb.block g (blk_lt h1)]; exact h1, h2, h3⟩, h.le, h.max⟩
theorem R_of_owns {B : Nat} {w : World} {v : Value} {t : List Int} (h : w.ownsRow B 5 1 v t.length (nums .u8 t)) : Kd.R (Kd.int .u8) 5 w B (fun _ => True) v t := Kd.R_of_own (h1 := fun _ => rfl) h (fun _ _ => trivial)

set_option maxHeartbeats 4000000 in
set_option maxRecDepth 100000 in
/-- change.Apply -/
theorem change_Apply.calls (A0 : Option Addr) (c0 : Nat) (l0 : List Int) (A1 : Option Addr) (c1 : Nat) (l1 : List S84) (r0 : List Int) (r1 : Int) (w : World) (hr0 : Kd.C (Kd.int .u8) w A0 l0.length l0) (hc0 : l0.length ≤ c0) (hr1 : Kd.C k84 w A1 l1.length l1) (hc1 : l1.length ≤ c1) (h : change_Apply.f l0 l1 = some (r0, r1)) :
    Calls Try.prog 48 #[.slice A0 l0.length c0, .slice A1 l1.length c1] w fun e w' => ∃ v0_ : Value, e = .returned (.tuple #[v0_, .int .i64 r1]) ∧ Kd.R (Kd.int .u8) 5 w' w.heap.size (fun _ => True) v0_ r0 ∧ Below w.heap.size w w' := by
  unfold change_Apply.f at h
  by_cases hbig : l0.length ≤ 140737488355328
  case neg => rw [if_neg hbig] at h; cases h
  rw [if_pos hbig] at h
  have HR1 := Aside0.mk hr1
  have H := Aside0.mk h
  have hsrc := rd_C hr0 (Nat.le_refl _)
  obtain ⟨i0, hi0, hz0, hzs, hzb⟩ := info_parts inf5
  have hstart : ∀ ty, ∃ v w1, (Builtin.append_ #[72, 72] ty #[.slice (some ⟨w.heap.size, 0, none⟩) 0 0, .slice A0 l0.length c0]).run Try.prog (w.alloc (.cells #[] 5)) = .ok v w1 ∧ ∃ g cap, v = .slice (some ⟨g, 0, none⟩) l0.length cap ∧ OnWay w.heap.size w1 g cap l0 ∧ Below w.heap.size w w1 := fun ty => by
    have hrow : RowAt (w.alloc (.cells #[] 5)) w.heap.size [] := blk_new w _
    have hrd : Rd (w.alloc (.cells #[] 5)) w.heap.size A0 (nums .u8 l0) := fun hl => by
      rw [nums_length] at hl
      obtain ⟨ad, e, hne, hc⟩ := hsrc hl
      exact ⟨ad, e, hne, fun j u hj => Lib.cell?_alloc_some _ (hc j u hj)⟩
    have hb0 : Below w.heap.size w (w.alloc (.cells #[] 5)) := (Below.refl _ w).alloc (Nat.le_refl _) _
    by_cases h0 : l0.length = 0
    · have e0 : l0 = [] := List.length_eq_zero_iff.1 h0
      subst e0
      refine ⟨_, _, append8_room (w.alloc (.cells #[] 5)) w.heap.size w.heap.size 0 0 A0 0 c0 ty [] rfl (by omega) (by simp) hrd (by simp) (by simp), w.heap.size, 0, rfl, ⟨Nat.le_refl _, ⟨[], hrow, rfl, rfl⟩, Nat.le_refl _, by unfold maxLen; omega⟩, hb0⟩
    · have hr := append8_grow (w.alloc (.cells #[] 5)) w.heap.size w.heap.size 0 0 A0 l0.length c0 ty [] (nums .u8 l0) hrow (by simp) (nums_length _ _) (by omega) (by omega) (by omega) (nums_one l0) hrd
      rw [Nat.zero_add] at hr
      have hG := grownCap_ge (w.alloc (.cells #[] 5)) l0.length 0 5
      have hGm := grownCap_le_maxLen (w.alloc (.cells #[] 5)) l0.length 0 5 (by unfold maxLen; omega)
      refine ⟨_, _, hr, _, _, rfl, ⟨Nat.le_of_lt hrow.lt, ⟨nums .u8 l0 ++ List.replicate (grownCap (w.alloc (.cells #[] 5)) l0.length 0 5 - l0.length) (.int .u8 0), ?_, by simp [nums_length]; omega, ?_⟩, hG, hGm⟩, ?_⟩
      · unfold RowAt
        rw [show Builtin.zeroCells (Value.int .u8 0).cells (grownCap (w.alloc (.cells #[] 5)) l0.length 0 5 - l0.length) = (List.replicate (grownCap (w.alloc (.cells #[] 5)) l0.length 0 5 - l0.length) (Value.int .u8 0)).toArray by
          apply Array.ext
          · simp [Builtin.zeroCells, Value.cells]
          · intro t h1 h2; simp [Builtin.zeroCells, Value.cells, Nat.mod_one]]
        rw [List.append_toArray]
        exact blk_new (w.alloc (.cells #[] 5)).drew _
      · rw [List.take_left' (nums_length _ _)]
      · exact Below.alloc (Below.drew hb0) (Nat.le_of_lt hrow.lt) _
  have hlm : l1.length ≤ 9223372036854775807 := hr1.2.1
  clear hsrc hr0 hi0 hz0 hzs hzb hr1 h
  go_enter Try.func48, Try.ntmps48
  obtain ⟨v, w1, hrun, g, cap, rfl, how, hbw⟩ := hstart 72
  go_wp2_with (at_builtin; refine Lib.wpList_append_run _ rfl _ _ _ _ rfl _ _ rfl rfl _ _ hrun ?_)
  have HW := Aside0.mk how
  have HB := Aside0.mk hbw
  clear how hbw hrun hstart
  go_loopg [6, 14] l1.length (fun kq v6 v14 w' => ∃ (i : Nat) (t : List Int) (g cap : Nat), v6 = .slice (some ⟨g, 0, none⟩) t.length cap ∧ v14 = .int .i64 i ∧ Aside0 (kq + i = l1.length) ∧ Aside0 (applyL (l1.drop i) t = some (r0, r1)) ∧ Aside0 (OnWay w.heap.size w' g cap t) ∧ Aside0 (Below w.heap.size w w'))
  case atStart => exact ⟨0, l0, g, cap, rfl, rfl, ⟨rfl⟩, H, HW, HB⟩
  case round =>
    clear H HW HB
    obtain ⟨i, t, g, cap, rfl, rfl, HK, H, HW, HB⟩ := hrel
    by_cases hi : i < l1.length
    · have hii : (i : Int) < (l1.length : Int) := by omega
      obtain ⟨ad, A1_, c1_, A2_, c2_, e1, hx0, hx1, hx2, hl1, hi1, hl2, hi2⟩ := at_T84 HR1.out (i : Int) (by omega) hii
      cases e1
      replace hx0 := (HB.out.cell (World.block_lt_of_cell? w _ hx0)).trans hx0
      replace hx1 := (HB.out.cell (World.block_lt_of_cell? w _ hx1)).trans hx1
      replace hx2 := (HB.out.cell (World.block_lt_of_cell? w _ hx2)).trans hx2
      have HC1 := Aside0.mk hi1
      have HC2 := Aside0.mk hi2
      have HL1 := Aside0.mk hl1
      have HL2 := Aside0.mk hl2
      clear hi1 hi2 hl1 hl2
      obtain ⟨e, he⟩ : ∃ e, e = rd_T84 l1 (i : Int) := ⟨_, rfl⟩
      rw [← he] at hx0 hx1 hx2 HC1 HC2 HL1 HL2
      rw [Int.toNat_natCast] at hx0 hx1 hx2
      have HE := Aside0.mk he
      clear he
      have hp0 : (0 : Int) ≤ (i : Int) := by omega
      have HX0 := Aside0.mk hx0
      go_wp2_with fail
      obtain ⟨W, hW⟩ : ∃ W, W = wr.alloc (.cells #[.int .i64 e.f0, .slice A1_ e.f1.length c1_, .slice A2_ e.f2.length c2_] 84) := ⟨_, rfl⟩
      rw [← hW]
      have hbW : Below wr.heap.size wr W := by rw [hW]; exact (Below.refl _ _).alloc (Nat.le_refl _) _
      have hy0 : W.cell? ⟨wr.heap.size, 0, none⟩ = some (.int .i64 e.f0) := by rw [hW]; exact (World.cell?_alloc_at (w := wr) _ _ _ 0 rfl)
      have hy1 : W.cell? ⟨wr.heap.size, 1, none⟩ = some (.slice A1_ e.f1.length c1_) := by rw [hW]; exact (World.cell?_alloc_at (w := wr) _ _ _ 1 rfl)
      have hy2 : W.cell? ⟨wr.heap.size, 2, none⟩ = some (.slice A2_ e.f2.length c2_) := by rw [hW]; exact (World.cell?_alloc_at (w := wr) _ _ _ 2 rfl)
      have HBW := Aside0.mk (below_step HB.out hbW)
      have HOW := Aside0.mk (HW.out.below hbW)
      have HC1w := Aside0.mk (Kd.C_below HC1.out HBW.out)
      have HC2w := Aside0.mk (Kd.C_below HC2.out HBW.out)
      obtain ⟨b, hb⟩ : ∃ b, b = wr.heap.size := ⟨_, rfl⟩
      rw [← hb] at hy0 hy1 hy2 ⊢
      have HBb := Aside0.mk hb
      clear hb
      clear hbW hx0 hx1 hx2 hW
      have hdrop : l1.drop i = e :: l1.drop (i + 1) := by
        rw [List.drop_eq_getElem_cons hi, HE.out]
        unfold rd_T84
        rw [Int.toNat_natCast]
        simp [List.getD, List.getElem?_eq_getElem hi]
      have H2 := H.out
      rw [hdrop] at H2
      clear hdrop H
      by_cases hneg : e.f0 < 0
      · have h1 : decide (e.f0 < 0) = true := decide_eq_true hneg
        have hf : fitsB t e = false := by unfold fitsB; simp; intro h; omega
        rw [show applyL (e :: l1.drop (i + 1)) t = some ([], 170) by unfold applyL; simp [hf]] at H2
        have HH := Aside0.mk H2
        clear H2 hf
        go_quiet (fail)
        go_wp2
        go_ret2
        have h3 := HH.out
        have h4 : r0 = [] := by injection h3 with h3; injection h3 with h3 h5; exact h3.symm
        have h5 : r1 = 170 := by injection h3 with h3; injection h3 with h3 h5; exact h5.symm
        subst h4; subst h5
        exact ⟨_, rfl, Kd.R_nil _ _ _ _ _, pw_below_drewN HBW.out nq⟩
      have h0 : (0 : Int) ≤ e.f0 := by omega
      have h1 : decide (e.f0 < 0) = false := decide_eq_false hneg
      by_cases hlen : (t.length : Int) < e.f0
      · have h2 : decide ((t.length : Int) < e.f0) = true := decide_eq_true hlen
        have hf : fitsB t e = false := by unfold fitsB; simp; intro h h'; omega
        rw [show applyL (e :: l1.drop (i + 1)) t = some ([], 170) by unfold applyL; simp [hf]] at H2
        have HH := Aside0.mk H2
        clear H2 hf
        go_quiet (fail)
        go_wp2
        go_ret2
        have h3 := HH.out
        have h4 : r0 = [] := by injection h3 with h3; injection h3 with h3 h5; exact h3.symm
        have h5 : r1 = 170 := by injection h3 with h3; injection h3 with h3 h5; exact h5.symm
        subst h4; subst h5
        exact ⟨_, rfl, Kd.R_nil _ _ _ _ _, pw_below_drewN HBW.out nq⟩
      have h2 : decide ((t.length : Int) < e.f0) = false := decide_eq_false hlen
      have h3 : e.f0 ≤ (t.length : Int) := by omega
      obtain ⟨dr, hdr⟩ : ∃ dr, dr = t.drop e.f0.toNat := ⟨_, rfl⟩
      obtain ⟨i07, hi07, _, hsz7, _⟩ := info_parts inf5
      have hRd := Kd.R_reads' (R_of_owns HOW.out.out)
      obtain ⟨A', hcut, hA7, hC7⟩ := print_drop_of (P := Try.prog) (Value.int .u8) 0 72 5 .i64 Try.underlying72 hi07 hsz7 (some ⟨g, 0, none⟩) cap t e.f0 h0 h3 HOW.out.le
      have HRd := Aside0.mk (Kd.C_of_reads (h1 := fun _ => rfl) (hA7 _ (Kd.reads_of_C hRd.2.2)))
      rw [← hdr] at hcut hC7 HRd
      have CP := Aside0.mk (fun n => (Hp.hasPrefix A' _ dr A1_ c1_ e.f1 (W.drewN n) (Kd.C_drewN HRd.out n) hC7 (Kd.C_drewN HC1w.out n) HL1.out).mono (R' := fun e_ w' => e_ = .returned (.bool (Hp.hpB dr e.f1)) ∧ ∃ m, w' = (W.drewN n).drewN m) fun e_ w' ⟨he, hd⟩ => ⟨he, hd.out⟩)
      clear hA7 hi07 hsz7 hRd hC7
      obtain ⟨hp, hhp⟩ : ∃ hp, hp = Hp.hpB dr e.f1 := ⟨_, rfl⟩
      rw [← hhp] at CP
      have hfit : fitsB t e = hp := by
        unfold fitsB
        rw [hhp, hdr, decide_eq_true h0, decide_eq_true h3]
        rfl
      have HHP := Aside0.mk hhp
      have HDR := Aside0.mk hdr
      clear hhp hdr
      cases hp
      · rw [show applyL (e :: l1.drop (i + 1)) t = some ([], 170) by unfold applyL; simp [hfit]] at H2
        have HH := Aside0.mk H2
        clear H2 hfit
        go_quiet (first | (go_at_call 81; with_reducible exact Calls.quiet_of (CP.out _)))
        go_wp2
        go_ret2
        have h3 := HH.out
        have h4 : r0 = [] := by injection h3 with h3; injection h3 with h3 h5; exact h3.symm
        have h5 : r1 = 170 := by injection h3 with h3; injection h3 with h3 h5; exact h5.symm
        subst h4; subst h5
        exact ⟨_, rfl, Kd.R_nil _ _ _ _ _, pw_below_drewN HBW.out nq⟩
      · rw [show applyL (e :: l1.drop (i + 1)) t = (if (putE t e).length ≤ 140737488355328 then applyL (l1.drop (i + 1)) (putE t e) else none) by rw [applyL]; rw [hfit]; rfl] at H2
        by_cases hpl : (putE t e).length ≤ 140737488355328
        case neg => rw [if_neg hpl] at H2; cases H2
        rw [if_pos hpl] at H2
        have HH := Aside0.mk H2
        have HPL := Aside0.mk hpl
        clear H2 hfit hpl
        go_quiet (first | (go_at_call 81; with_reducible exact Calls.quiet_of (CP.out _)))
        go_wp2_with fail
        obtain ⟨p, hp⟩ : ∃ p : Nat, e.f0 = (p : Int) := ⟨e.f0.toNat, by omega⟩
        have hpre : e.f1.length ≤ (t.drop p).length := by
          have h := HHP.out
          unfold Hp.hpB at h
          have h' : decide (e.f1.length ≤ dr.length) = true := by
            cases hd : decide (e.f1.length ≤ dr.length)
            · rw [hd] at h; simp at h
            · rfl
          have h'' := of_decide_eq_true h'
          rw [HDR.out, hp, Int.toNat_natCast] at h''
          exact h''
        rw [List.length_drop] at hpre
        have hp3 : p ≤ t.length := by omega
        have htm : t.length ≤ 9223372036854775807 := by have := HOW.out.le; have := HOW.out.max; unfold maxLen at this; omega
        have hq : wrap64 (e.f0 + (e.f1.length : Int)) = ((p + e.f1.length : Nat) : Int) := by
          rw [hp]; unfold wrap64; omega
        obtain ⟨nt, hnt⟩ : ∃ nt, nt = putE t e := ⟨_, rfl⟩
        have hpl := HPL.out
        rw [← hnt] at HH hpl
        have hcall : Calls Try.prog 82 #[.slice (some ⟨g, 0, none⟩) t.length cap, .int .i64 (p : Int), .int .i64 ((p + e.f1.length : Nat) : Int), .slice A2_ e.f2.length c2_] (W.drewN nq) (Out w.heap.size w nt) := by
          obtain ⟨cur, k1, k2, k3⟩ := HOW.out.row
          have hys : nt = t.take p ++ e.f2 ++ t.drop (p + e.f1.length) := by rw [hnt]; unfold putE; rw [hp, Int.toNat_natCast]
          have hyl : nt.length = p + e.f2.length + (t.length - (p + e.f1.length)) := by rw [hys]; simp; omega
          rw [hys]
          exact replace_out (w := W.drewN nq) HOW.out.ge (pw_below_drewN HBW.out nq) (RowAt.drewN k1 nq) k2 HOW.out.le HOW.out.max k3 rfl (by omega) (by omega) (by omega) (fun hl => by
            obtain ⟨ad, h1, h2, h3⟩ := rd_C HC2.out HOW.out.ge hl
            exact ⟨ad, h1, h2, fun j u hj => ((pw_below_drewN HBW.out nq).cell (World.block_lt_of_cell? w _ (h3 j u hj))).trans (h3 j u hj)⟩)
        rw [hq, hp]
        clear hq hpre htm hp3 hnt
        refine hcall.mono ?_
        rintro e_ w' ⟨g', cap', rfl, ho, hb'⟩
        have HO' := Aside0.mk (OnWay.of rfl ho)
        have HB' := Aside0.mk hb'
        clear ho hb' hcall HOW HBW HB HW HC1 HC2 HC1w HC2w HR1 CP
        cases gk with
        | zero => exact absurd HK.out (by omega)
        | succ k1 =>
          have HK' : Aside0 (k1 + (i + 1) = l1.length) := ⟨by have := HK.out; omega⟩
          go_wp2
          go_roundg k1
          case measure => omega
          case rel => exact ⟨i + 1, nt, g', cap', rfl, by go_num, HK', HH, HO', HB'⟩
    · have hii : ¬ (i : Int) < (l1.length : Int) := by omega
      have hdn : l1.drop i = [] := List.drop_eq_nil_of_le (by omega)
      have h3 := H.out
      rw [hdn] at h3
      have h4 : t = r0 := by injection h3 with h3; injection h3 with h3 h5
      have h5 : r1 = 0 := by injection h3 with h3; injection h3 with h3 h5; exact h5.symm
      subst h4; subst h5
      clear hdn h3 H
      go_wp2
      go_ret2
      exact ⟨_, rfl, R_of_owns HW.out.out, HB.out⟩

end Go.Proofs.Ytjljkcbopkldbaa
