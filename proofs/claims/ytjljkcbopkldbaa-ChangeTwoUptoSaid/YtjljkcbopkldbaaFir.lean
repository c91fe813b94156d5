/-
  change.First: the least At; slices.MinFunc at the edits under it. No condition.
-/
import Derived.Test.YtjljkcbopkldbaaCln
import Derived.Deep.RegionWith
namespace Go.Proofs.Ytjljkcbopkldbaa
open Go.RowKit Go.Proofs.YtjljkcbopkldbaaW.PrintWords Go.Proofs.YtjljkcbopkldbaaW.PrintLast Go.Proofs.YtjljkcbopkldbaaW.PrintMore Go.Proofs.Ytjljkcbopkldbaa.X
set_option linter.unusedVariables false
set_option linter.unusedSimpArgs false

def lessAt (m : Int) (e : S84) : Int := if e.f0 < m then e.f0 else m
def firstL : List S84 → Int
  | [] => 0
  | e :: r => r.foldl lessAt e.f0
def change_First.f (l0 : List S84) : Option Int := some (firstL l0)

def cmpAt (a b : Int) : Int := if a < b then -1 else if b < a then 1 else 0

set_option maxHeartbeats 4000000 in
set_option maxRecDepth 100000 in
theorem cmp_calls (a b : Int) (v1 v2 v3 v4 : Value) (h1 : v1.oneCell' = true) (h2 : v2.oneCell' = true) (h3 : v3.oneCell' = true) (h4 : v4.oneCell' = true) (w : World) :
    Calls Try.prog 86 #[.agg #[.int .i64 a, v1, v2], .agg #[.int .i64 b, v3, v4]] w fun e w' => e = .returned (.int .i64 (cmpAt a b)) ∧ Below w.heap.size w w' := by
  have hu84 := Try.underlying84
  have hb2 : Below w.heap.size w ((w.alloc (.cells #[.int .i64 a, v1, v2] 84)).alloc (.cells #[.int .i64 b, v3, v4] 84)) := (((Below.refl _ _).alloc (Nat.le_refl _) _).alloc (by have := blk_lt (blk_new w (.cells #[.int .i64 a, v1, v2] 84)); omega) _)
  have HB := Aside0.mk hb2
  clear hb2
  by_cases c1 : a < b
  · have HR := Aside0.mk (show cmpAt a b = -1 by unfold cmpAt; rw [if_pos c1])
    go_enter Try.func86, Try.ntmps86
    go_wp2
    go_ret
    exact ⟨by rw [HR.out]; rfl, HB.out⟩
  · by_cases c2 : b < a
    · have HR := Aside0.mk (show cmpAt a b = 1 by unfold cmpAt; rw [if_neg c1, if_pos c2])
      go_enter Try.func86, Try.ntmps86
      go_wp2
      go_ret
      exact ⟨by rw [HR.out]; rfl, HB.out⟩
    · have HR := Aside0.mk (show cmpAt a b = 0 by unfold cmpAt; rw [if_neg c1, if_neg c2])
      go_enter Try.func86, Try.ntmps86
      go_wp2
      go_ret
      exact ⟨by rw [HR.out]; rfl, HB.out⟩

set_option maxHeartbeats 4000000 in
set_option maxRecDepth 100000 in
theorem min_calls (A0 : Option Addr) (c0 : Nat) (e0 : S84) (r : List S84) (l0 : List S84) (hl : l0 = e0 :: r) (w : World) (hr0 : Kd.C k84 w A0 l0.length l0) :
    Calls Try.prog 85 #[.slice A0 l0.length c0, .func (.func 86) #[] #[]] w fun e w' => ∃ v1 v2, e = .returned (.agg #[.int .i64 (r.foldl lessAt e0.f0), v1, v2]) ∧ Below w.heap.size w w' := by
  have hu84 := Try.underlying84
  have hlm : l0.length ≤ 9223372036854775807 := hr0.2.1
  have hl1 : 1 ≤ l0.length := by rw [hl]; simp
  obtain ⟨ad, A1_, c1_, A2_, c2_, e1, hx0, hx1, hx2, hl1_, hi1, hl2, hi2⟩ := at_T84 hr0 0 (by omega) (by omega)
  cases e1
  have e00 : rd_T84 l0 0 = e0 := by unfold rd_T84; rw [hl]; rfl
  rw [e00] at hx0 hx1 hx2
  rw [show ad.add ((0 : Int).toNat * 3) = ad from add_none ad] at hx0 hx1 hx2
  have ho0 : ∀ o, (w.alloc o).cell? ad = _ := fun o => Lib.cell?_alloc_some o hx0
  have ho1 : ∀ o, (w.alloc o).cell? ⟨ad.block, ad.off + 1, none⟩ = _ := fun o => Lib.cell?_alloc_some o hx1
  have ho2 : ∀ o, (w.alloc o).cell? ⟨ad.block, ad.off + 2, none⟩ = _ := fun o => Lib.cell?_alloc_some o hx2
  have HR0 := Aside0.mk hr0
  clear hr0 hl1_ hi1 hl2 hi2 e00
  have hnn : ¬ (l0.length : Int) < 1 := by omega
  have HL := Aside0.mk hl
  clear hl
  go_enter Try.func85, Try.ntmps85
  go_wp2_with fail
  obtain ⟨N, hN⟩ : ∃ N, N = w.heap.size := ⟨_, rfl⟩
  obtain ⟨W, hW⟩ : ∃ W, W = (w.alloc (.cells #[.int .i64 0, .slice none 0 0, .slice none 0 0] 84)).alloc (.cells #[.int .i64 e0.f0, .slice A1_ e0.f1.length c1_, .slice A2_ e0.f2.length c2_] 84) := ⟨_, rfl⟩
  rw [← hW]
  have hsz : (w.alloc (.cells #[.int .i64 0, .slice none 0 0, .slice none 0 0] 84)).heap.size = N + 1 := by rw [hN]; simp [World.alloc_eq]
  have hbl : W.heap[N + 1]? = some (.cells #[.int .i64 e0.f0, .slice A1_ e0.f1.length c1_, .slice A2_ e0.f2.length c2_] 84 (0, 0)) := by rw [hW, ← hsz]; exact blk_new _ _
  have hbr : W.heap[N]? = some (.cells #[.int .i64 0, .slice none 0 0, .slice none 0 0] 84 (0, 0)) := by rw [hW, hN]; exact blk_alloc (blk_new _ _) _
  have hb2 : Below N w W := by rw [hW]; exact ((Below.refl _ _).alloc (by omega) _).alloc (by omega) _
  rw [← hN]
  have HB : Aside0 (Below w.heap.size w W) := ⟨by rw [← hN]; exact hb2⟩
  have HM : Aside0 (W.heap[N + 1]? = some (.cells #[.int .i64 e0.f0, .slice A1_ e0.f1.length c1_, .slice A2_ e0.f2.length c2_] 84 (0, 0))) := ⟨hbl⟩
  have HZ : Aside0 (W.heap[N]? = some (.cells #[.int .i64 0, .slice none 0 0, .slice none 0 0] 84 (0, 0))) := ⟨hbr⟩
  have HN := Aside0.mk hN
  clear hbl hbr hb2 hsz hW hx0 hx1 hx2 ho0 ho1 ho2 hN
  go_loopg [6] l0.length (fun kq v6 w' => ∃ (i : Nat) (m : Int) (B1 B2 : Option Addr) (n1 n2 d1 d2 : Nat), v6 = .int .i64 i ∧ Aside0 (kq + i = l0.length + 1) ∧ Aside0 (1 ≤ i) ∧ Aside0 ((l0.drop i).foldl lessAt m = r.foldl lessAt e0.f0) ∧ Aside0 (w'.heap[N + 1]? = some (.cells #[.int .i64 m, .slice B1 n1 d1, .slice B2 n2 d2] 84 (0, 0))) ∧ Aside0 (w'.heap[N]? = some (.cells #[.int .i64 0, .slice none 0 0, .slice none 0 0] 84 (0, 0))) ∧ Aside0 (Below w.heap.size w w'))
  case atStart => exact ⟨1, e0.f0, _, _, _, _, _, _, rfl, ⟨rfl⟩, ⟨Nat.le_refl _⟩, ⟨by rw [HL.out]; rfl⟩, HM, HZ, HB⟩
  case round =>
    clear HM HB HZ
    obtain ⟨i, m, B1, B2, n1, n2, d1, d2, rfl, HK, HI, HF, HM, HZ, HB⟩ := hrel
    have hm0 := blk_cell HM.out 0
    have hm1 := blk_cell HM.out 1
    have hm2 := blk_cell HM.out 2
    have hf0 := blk_frozen HM.out 0
    have hf1 := blk_frozen HM.out 1
    have hf2 := blk_frozen HM.out 2
    simp only [List.getElem?_toArray, List.getElem?_cons_zero, List.getElem?_cons_succ] at hm0 hm1 hm2
    by_cases hi : i < l0.length
    · have hii : (i : Int) < (l0.length : Int) := by omega
      obtain ⟨ad', A1', c1', A2', c2', e1, hx0, hx1, hx2, _, _, _, _⟩ := at_T84 HR0.out (i : Int) (by omega) hii
      cases e1
      replace hx0 := (HB.out.cell (World.block_lt_of_cell? w _ hx0)).trans hx0
      replace hx1 := (HB.out.cell (World.block_lt_of_cell? w _ hx1)).trans hx1
      replace hx2 := (HB.out.cell (World.block_lt_of_cell? w _ hx2)).trans hx2
      obtain ⟨e, he⟩ : ∃ e, e = rd_T84 l0 (i : Int) := ⟨_, rfl⟩
      rw [← he] at hx0 hx1 hx2
      rw [Int.toNat_natCast] at hx0 hx1 hx2
      have HE := Aside0.mk he
      clear he
      have hp0 : (0 : Int) ≤ (i : Int) := by omega
      go_wp2_with fail
      go_region_with (go_at_call 86; (with_reducible refine (cmp_calls e.f0 m _ _ (.slice B1 n1 d1) (.slice B2 n2 d2) rfl rfl rfl rfl _).mono ?_); rintro e_ w2 ⟨rfl, hb2⟩)
      all_goals
        replace hb2 : Below wr.heap.size wr w2 := (Below.drew (Below.refl _ wr)).trans hb2
        have HM2 := Aside0.mk (blk_below HM.out hb2)
        have HZ2 := Aside0.mk (blk_below HZ.out hb2)
        have HB2 := Aside0.mk (below_step HB.out hb2)
        replace hx0 := (hb2.cell (World.block_lt_of_cell? wr _ hx0)).trans hx0
        replace hx1 := (hb2.cell (World.block_lt_of_cell? wr _ hx1)).trans hx1
        replace hx2 := (hb2.cell (World.block_lt_of_cell? wr _ hx2)).trans hx2
        clear hm0 hm1 hm2 hf0 hf1 hf2 hb2 HM HZ HB
        have hm0 := blk_cell HM2.out 0
        have hm1 := blk_cell HM2.out 1
        have hm2 := blk_cell HM2.out 2
        have hf0 := blk_frozen HM2.out 0
        have hf1 := blk_frozen HM2.out 1
        have hf2 := blk_frozen HM2.out 2
        simp only [List.getElem?_toArray, List.getElem?_cons_zero, List.getElem?_cons_succ] at hm0 hm1 hm2
        have hdrop : l0.drop i = e :: l0.drop (i + 1) := by
          rw [List.drop_eq_getElem_cons hi, HE.out]
          unfold rd_T84
          rw [Int.toNat_natCast]
          simp [List.getD, List.getElem?_eq_getElem hi]
        have hfo := HF.out
        rw [hdrop, List.foldl_cons] at hfo
        clear hdrop HF
        cases gk with
        | zero => exact absurd HK.out (by have := HI.out; omega)
        | succ k1 =>
          have HK' : Aside0 (k1 + (i + 1) = l0.length + 1) := ⟨by have := HK.out; omega⟩
          have HI' : Aside0 (1 ≤ i + 1) := ⟨by omega⟩
          by_cases hc : e.f0 < m
          · have hcm : cmpAt e.f0 m = -1 := by unfold cmpAt; rw [if_pos hc]
            have HF' : Aside0 ((l0.drop (i + 1)).foldl lessAt e.f0 = r.foldl lessAt e0.f0) := ⟨by rw [← hfo]; unfold lessAt; rw [if_pos hc]⟩
            clear hfo hc
            go_wp2
            go_roundg k1
            case measure => have := HK'.out; omega
            case rel =>
              refine ⟨i + 1, e.f0, _, _, _, _, _, _, by go_num, HK', HI', HF', ⟨blk_put (blk_put (blk_put HM2.out 0 _ rfl) 1 _ rfl) 2 _ rfl⟩, ⟨blk_far (blk_far (blk_far HZ2.out (by simp) _) (by simp) _) (by simp) _⟩, ⟨below_set (below_set (below_set HB2.out (by have := HN.out; omega)) (by have := HN.out; omega)) (by have := HN.out; omega)⟩⟩
          · have hcm : cmpAt e.f0 m = 0 ∨ cmpAt e.f0 m = 1 := by unfold cmpAt; rw [if_neg hc]; split <;> simp
            have HF' : Aside0 ((l0.drop (i + 1)).foldl lessAt m = r.foldl lessAt e0.f0) := ⟨by rw [← hfo]; unfold lessAt; rw [if_neg hc]⟩
            clear hfo hc
            rcases hcm with hcm | hcm
            · go_wp2
              go_roundg k1
              case measure => have := HK'.out; omega
              case rel => exact ⟨i + 1, m, B1, B2, n1, n2, d1, d2, by go_num, HK', HI', HF', HM2, HZ2, HB2⟩
            · go_wp2
              go_roundg k1
              case measure => have := HK'.out; omega
              case rel => exact ⟨i + 1, m, B1, B2, n1, n2, d1, d2, by go_num, HK', HI', HF', HM2, HZ2, HB2⟩
    · have hii : ¬ (i : Int) < (l0.length : Int) := by omega
      have hfo := HF.out
      rw [List.drop_eq_nil_of_le (by omega), List.foldl_nil] at hfo
      have hz0 := blk_cell HZ.out 0
      have hz1 := blk_cell HZ.out 1
      have hz2 := blk_cell HZ.out 2
      have hg0 := blk_frozen HZ.out 0
      have hg1 := blk_frozen HZ.out 1
      have hg2 := blk_frozen HZ.out 2
      simp only [List.getElem?_toArray, List.getElem?_cons_zero, List.getElem?_cons_succ] at hz0 hz1 hz2
      have HFO := Aside0.mk hfo
      clear hfo HF
      go_wp2_with fail
      refine bodyPost_ret (results_cell_row rfl _ _ N 84 #[.int .i64 m, .slice B1 n1 d1, .slice B2 n2 d2] (0, 0) _ rfl (blk_put (blk_put (blk_put HZ.out 0 _ rfl) 1 _ rfl) 2 _ rfl) Try.underlying84 rfl (by kernel_rfl)) rfl ?_
      have hNw : w.heap.size ≤ N := Nat.le_of_eq HN.out.symm
      exact ⟨⟨_, _, by rw [← HFO.out]⟩, below_set (g := N) (below_set (g := N) (below_set (g := N) HB.out hNw) hNw) hNw⟩

set_option maxHeartbeats 4000000 in
set_option maxRecDepth 100000 in
theorem change_First.calls (A0 : Option Addr) (c0 : Nat) (l0 : List S84) (r : Int) (w : World) (hr0 : Kd.C k84 w A0 l0.length l0) (hc0 : l0.length ≤ c0) (h : change_First.f l0 = some r) :
    Calls Try.prog 60 #[.slice A0 l0.length c0] w fun e w' => e = .returned (.int .i64 r) ∧ Below w.heap.size w w' := by
  have h1 : firstL l0 = r := Option.some.inj h
  clear h
  cases l0 with
  | nil =>
    subst h1
    go_enter Try.func60, Try.ntmps60
    go_wp2
    go_ret
    exact ⟨rfl, Below.refl _ _⟩
  | cons e0 t =>
    have hu84 := Try.underlying84
    have H := min_calls A0 c0 e0 t (e0 :: t) rfl w hr0
    obtain ⟨n, hn⟩ : ∃ n, n = (e0 :: t).length := ⟨_, rfl⟩
    have hn1 : ¬ ((n : Int) = 0) := by rw [hn]; simp; omega
    rw [← hn] at H ⊢
    have HR := Aside0.mk h1
    clear hr0 hc0 h1 hn
    go_enter Try.func60, Try.ntmps60
    go_wp2_with fail
    refine H.mono ?_
    rintro e w' ⟨v1, v2, rfl, hb⟩
    go_wp2_with fail
    rename_i K hK
    refine hK _ _ ?_
    go_wp2
    first
      | (go_ret; exact ⟨by rw [← HR.out]; rfl, hb⟩)
      | exact ⟨by rw [← HR.out]; rfl, hb⟩

end Go.Proofs.Ytjljkcbopkldbaa
