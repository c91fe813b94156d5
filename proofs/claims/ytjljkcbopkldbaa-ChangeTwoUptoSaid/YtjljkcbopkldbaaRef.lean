/-
  The reference's Apply: the same plain function as change.Apply's. Condition: no text on the way is longer than 2^47.
-/
import Derived.Test.YtjljkcbopkldbaaFit
import Derived.Lib.JoinLaws
namespace Go.Proofs.Ytjljkcbopkldbaa
open Go.RowKit Go.Proofs.YtjljkcbopkldbaaW.PrintWords Go.Proofs.YtjljkcbopkldbaaW.PrintLast Go.Proofs.YtjljkcbopkldbaaW.PrintMore Go.Proofs.Ytjljkcbopkldbaa.X
set_option linter.unusedVariables false
set_option linter.unusedSimpArgs false

def quoinref17_Apply.f (l0 : List Int) (l1 : List S84) : Option (List Int × Int) := change_Apply.f l0 l1

theorem rd_of_C {w W : World} {A : Option Addr} {l : List Int} (h : Kd.C (Kd.int .u8) w A l.length l) (hb : Below w.heap.size w W) {g : Nat} (hg : w.heap.size ≤ g) : Rd W g A (nums .u8 l) := fun hl => by
  rw [nums_length] at hl
  obtain ⟨ad, h1, h2, h3⟩ := rd_C h hg hl
  exact ⟨ad, h1, h2, fun j u hj => (hb.cell (World.block_lt_of_cell? w _ (h3 j u hj))).trans (h3 j u hj)⟩

/-- Three rows behind each other into a row that was made for them. -/
theorem three_rows (w3 : World) (tot : Nat) (xs ys zs : List Int) (A1 A2 A3 : Option Addr) (c1 c2 c3 : Nat) (ht : tot = xs.length + ys.length + zs.length) (hm : tot ≤ maxLen)
    (h1 : Kd.C (Kd.int .u8) w3 A1 xs.length xs) (h2 : Kd.C (Kd.int .u8) w3 A2 ys.length ys) (h3 : Kd.C (Kd.int .u8) w3 A3 zs.length zs) (hbig : tot ≤ 140737488355328) :
    ∃ w4 w5 w6 w7, (Instr.makeSlice 72 (.int .i64 0) (.int .i64 (tot : Int))).run Try.prog w3 = .ok (.slice (some ⟨w3.heap.size, 0, none⟩) 0 tot) w4 ∧
      (∀ ty, (Builtin.append_ #[72, 72] ty #[.slice (some ⟨w3.heap.size, 0, none⟩) 0 tot, .slice A1 xs.length c1]).run Try.prog w4 = .ok (.slice (some ⟨w3.heap.size, 0, none⟩) xs.length tot) w5) ∧
      (∀ ty, (Builtin.append_ #[72, 72] ty #[.slice (some ⟨w3.heap.size, 0, none⟩) xs.length tot, .slice A2 ys.length c2]).run Try.prog w5 = .ok (.slice (some ⟨w3.heap.size, 0, none⟩) (xs.length + ys.length) tot) w6) ∧
      (∀ ty, (Builtin.append_ #[72, 72] ty #[.slice (some ⟨w3.heap.size, 0, none⟩) (xs.length + ys.length) tot, .slice A3 zs.length c3]).run Try.prog w6 = .ok (.slice (some ⟨w3.heap.size, 0, none⟩) tot tot) w7) ∧
      Below w3.heap.size w3 w4 ∧ Below w3.heap.size w3 w5 ∧ Below w3.heap.size w3 w6 ∧ Below w3.heap.size w3 w7 ∧ ∃ cur, RowAt w7 w3.heap.size cur ∧ cur.length = tot ∧ cur = nums .u8 (xs ++ ys ++ zs) := by
  obtain ⟨N, hN⟩ : ∃ N, N = w3.heap.size := ⟨_, rfl⟩
  have hmk := run_make_room (P := Try.prog) 72 5 (.int .u8 0) 1 Try.underlying72 inf5 rfl .i64 .i64 tot (by omega) (by omega) w3
  obtain ⟨row0, hrow0⟩ : ∃ row0 : List Value, row0 = (madeCells #[(.int .u8 0)] tot).toList := ⟨_, rfl⟩
  have hr0l : row0.length = tot := by rw [hrow0]; simp [madeCells]
  have hr4 : RowAt (w3.alloc (.cells (madeCells #[(.int .u8 0)] tot) 5)) N row0 := by
    unfold RowAt
    rw [hrow0, hN]
    simpa using blk_new w3 (.cells (madeCells #[(.int .u8 0)] tot) 5)
  have hb4 : Below w3.heap.size w3 (w3.alloc (.cells (madeCells #[(.int .u8 0)] tot) 5)) := (Below.refl _ _).alloc (Nat.le_refl _) _
  rw [← hN] at hmk ⊢
  obtain ⟨w4, hw4⟩ : ∃ w4, w4 = w3.alloc (.cells (madeCells #[(.int .u8 0)] tot) 5) := ⟨_, rfl⟩
  rw [← hw4] at hmk hr4 hb4
  have hl1 : (nums .u8 xs).length = xs.length := nums_length _ _
  have hl2 : (nums .u8 ys).length = ys.length := nums_length _ _
  have hl3 : (nums .u8 zs).length = zs.length := nums_length _ _
  have ha1 := fun ty => append8_room w4 N N 0 tot A1 xs.length c1 ty (nums .u8 xs) hl1 (by omega) (nums_one xs) (rd_of_C h1 hb4 (by omega)) (fun k hk => by rw [Nat.zero_add]; exact hr4.isSome (by omega)) (fun k hk => hr4.frozen _)
  have hr5 := RowAt.setCells (nums .u8 xs) 0 hr4 (by omega)
  have hr5l : (splice row0 0 (nums .u8 xs)).length = tot := by rw [length_splice _ _ _ (by omega)]; exact hr0l
  have hb5 : Below w3.heap.size w3 (w4.setCells N 0 (nums .u8 xs)) := below_setCells (by omega) _ _ hb4
  have ha2 := fun ty => append8_room (w4.setCells N 0 (nums .u8 xs)) N N xs.length tot A2 ys.length c2 ty (nums .u8 ys) hl2 (by omega) (nums_one ys) (rd_of_C h2 hb5 (by omega)) (fun k hk => hr5.isSome (by omega)) (fun k hk => hr5.frozen _)
  have hr6 := RowAt.setCells (nums .u8 ys) xs.length hr5 (by omega)
  have hr6l : (splice (splice row0 0 (nums .u8 xs)) xs.length (nums .u8 ys)).length = tot := by rw [length_splice _ _ _ (by omega)]; exact hr5l
  have hb6 := below_setCells (g := N) (by omega) (nums .u8 ys) xs.length hb5
  have ha3 := fun ty => append8_room _ N N (xs.length + ys.length) tot A3 zs.length c3 ty (nums .u8 zs) hl3 (by omega) (nums_one zs) (rd_of_C h3 hb6 (by omega)) (fun k hk => hr6.isSome (by omega)) (fun k hk => hr6.frozen _)
  have hr7 := RowAt.setCells (nums .u8 zs) (xs.length + ys.length) hr6 (by omega)
  have hb7 := below_setCells (g := N) (by omega) (nums .u8 zs) (xs.length + ys.length) hb6
  have eB : ∀ {W : World}, Below w3.heap.size w3 W → Below N w3 W := fun h => by rw [hN]; exact h
  refine ⟨w4, _, _, _, hmk, fun ty => by rw [ha1 ty, Nat.zero_add], ha2, fun ty => by rw [ha3 ty, ht], eB hb4, eB hb5, eB hb6, eB hb7, _, hr7, by rw [length_splice _ _ _ (by omega)]; exact hr6l, ?_⟩
  have k1 := splice_take row0 0 (nums .u8 xs) (by omega)
  have k2 := splice_take (splice row0 0 (nums .u8 xs)) xs.length (nums .u8 ys) (by omega)
  have k3 := splice_take (splice (splice row0 0 (nums .u8 xs)) xs.length (nums .u8 ys)) (xs.length + ys.length) (nums .u8 zs) (by omega)
  rw [hl1, Nat.zero_add, List.take_zero, List.nil_append] at k1
  rw [hl2, k1] at k2
  rw [hl3, k2, List.take_of_length_le (by rw [length_splice _ _ _ (by omega)]; omega)] at k3
  rw [k3, nums_app, nums_app]

set_option maxHeartbeats 4000000 in
set_option maxRecDepth 100000 in
/-- the reference's Apply -/
theorem quoinref17_Apply.calls (A0 : Option Addr) (c0 : Nat) (l0 : List Int) (A1 : Option Addr) (c1 : Nat) (l1 : List S84) (r0 : List Int) (r1 : Int) (w : World) (hr0 : Kd.C (Kd.int .u8) w A0 l0.length l0) (hc0 : l0.length ≤ c0) (hr1 : Kd.C k84 w A1 l1.length l1) (hc1 : l1.length ≤ c1) (h : quoinref17_Apply.f l0 l1 = some (r0, r1)) :
    Calls Try.prog 51 #[.slice A0 l0.length c0, .slice A1 l1.length c1] w fun e w' => ∃ v0_ : Value, e = .returned (.tuple #[v0_, .int .i64 r1]) ∧ Kd.R (Kd.int .u8) 5 w' w.heap.size (fun _ => True) v0_ r0 ∧ Below w.heap.size w w' := by
  unfold quoinref17_Apply.f change_Apply.f at h
  by_cases hbig : l0.length ≤ 140737488355328
  case neg => rw [if_neg hbig] at h; cases h
  rw [if_pos hbig] at h
  have HR1 := Aside0.mk hr1
  have H := Aside0.mk h
  have hsrc := rd_C hr0 (Nat.le_refl _)
  obtain ⟨i0, hi0, hz0, hzs, hzb⟩ := info_parts inf5
  have hstart : ∀ ty, ∃ v w1, (Builtin.append_ #[72, 72] ty #[.slice (some ⟨w.heap.size, 0, none⟩) 0 0, .slice A0 l0.length c0]).run Try.prog (w.alloc (.cells #[] 5)) = .ok v w1 ∧ ∃ g cap, v = .slice (some ⟨g, 0, none⟩) l0.length cap ∧ OnWay w.heap.size w1 g cap l0 ∧ Below w.heap.size w w1 := fun ty => by
    have hrow : RowAt (w.alloc (.cells #[] 5)) w.heap.size [] := blk_new w _
    have hrd : Rd (w.alloc (.cells #[] 5)) w.heap.size A0 (nums .u8 l0) := fun hl => by
      rw [nums_length] at hl
      obtain ⟨ad, e, hne, hc⟩ := hsrc hl
      exact ⟨ad, e, hne, fun j u hj => Lib.cell?_alloc_some _ (hc j u hj)⟩
    have hb0 : Below w.heap.size w (w.alloc (.cells #[] 5)) := (Below.refl _ w).alloc (Nat.le_refl _) _
    by_cases h0 : l0.length = 0
    · have e0 : l0 = [] := List.length_eq_zero_iff.1 h0
      subst e0
      refine ⟨_, _, append8_room (w.alloc (.cells #[] 5)) w.heap.size w.heap.size 0 0 A0 0 c0 ty [] rfl (by omega) (by simp) hrd (by simp) (by simp), w.heap.size, 0, rfl, ⟨Nat.le_refl _, ⟨[], hrow, rfl, rfl⟩, Nat.le_refl _, by unfold maxLen; omega⟩, hb0⟩
    · have hr := append8_grow (w.alloc (.cells #[] 5)) w.heap.size w.heap.size 0 0 A0 l0.length c0 ty [] (nums .u8 l0) hrow (by simp) (nums_length _ _) (by omega) (by omega) (by omega) (nums_one l0) hrd
      rw [Nat.zero_add] at hr
      have hG := grownCap_ge (w.alloc (.cells #[] 5)) l0.length 0 5
      have hGm := grownCap_le_maxLen (w.alloc (.cells #[] 5)) l0.length 0 5 (by unfold maxLen; omega)
      refine ⟨_, _, hr, _, _, rfl, ⟨Nat.le_of_lt hrow.lt, ⟨nums .u8 l0 ++ List.replicate (grownCap (w.alloc (.cells #[] 5)) l0.length 0 5 - l0.length) (.int .u8 0), ?_, by simp [nums_length]; omega, ?_⟩, hG, hGm⟩, ?_⟩
      · unfold RowAt
        rw [show Builtin.zeroCells (Value.int .u8 0).cells (grownCap (w.alloc (.cells #[] 5)) l0.length 0 5 - l0.length) = (List.replicate (grownCap (w.alloc (.cells #[] 5)) l0.length 0 5 - l0.length) (Value.int .u8 0)).toArray by
          apply Array.ext
          · simp [Builtin.zeroCells, Value.cells]
          · intro t h1 h2; simp [Builtin.zeroCells, Value.cells, Nat.mod_one]]
        rw [List.append_toArray]
        exact blk_new (w.alloc (.cells #[] 5)).drew _
      · rw [List.take_left' (nums_length _ _)]
      · exact Below.alloc (Below.drew hb0) (Nat.le_of_lt hrow.lt) _
  have hlm : l1.length ≤ 9223372036854775807 := hr1.2.1
  clear hsrc hr0 hi0 hz0 hzs hzb hr1 h
  go_enter Try.func51, Try.ntmps51
  obtain ⟨v, w1, hrun, g, cap, rfl, how, hbw⟩ := hstart 72
  go_wp2_with (at_builtin; refine Lib.wpList_append_run _ rfl _ _ _ _ rfl _ _ rfl rfl _ _ hrun ?_)
  have HW := Aside0.mk how
  have HB := Aside0.mk hbw
  clear how hbw hrun hstart
  go_loopg [6, 7] l1.length (fun kq v6 v14 w' => ∃ (i : Nat) (t : List Int) (g cap : Nat), v6 = .slice (some ⟨g, 0, none⟩) t.length cap ∧ v14 = .int .i64 i ∧ Aside0 (kq + i = l1.length) ∧ Aside0 (applyL (l1.drop i) t = some (r0, r1)) ∧ Aside0 (OnWay w.heap.size w' g cap t) ∧ Aside0 (Below w.heap.size w w'))
  case atStart => exact ⟨0, l0, g, cap, rfl, rfl, ⟨rfl⟩, H, HW, HB⟩
  case round =>
    clear H HW HB
    obtain ⟨i, t, g, cap, rfl, rfl, HK, H, HW, HB⟩ := hrel
    by_cases hi : i < l1.length
    · have hii : (i : Int) < (l1.length : Int) := by omega
      obtain ⟨ad, A1_, c1_, A2_, c2_, e1, hx0, hx1, hx2, hl1, hi1, hl2, hi2⟩ := at_T84 HR1.out (i : Int) (by omega) hii
      cases e1
      replace hx0 := (HB.out.cell (World.block_lt_of_cell? w _ hx0)).trans hx0
      replace hx1 := (HB.out.cell (World.block_lt_of_cell? w _ hx1)).trans hx1
      replace hx2 := (HB.out.cell (World.block_lt_of_cell? w _ hx2)).trans hx2
      have HC1 := Aside0.mk hi1
      have HC2 := Aside0.mk hi2
      have HL1 := Aside0.mk hl1
      have HL2 := Aside0.mk hl2
      clear hi1 hi2 hl1 hl2
      obtain ⟨e, he⟩ : ∃ e, e = rd_T84 l1 (i : Int) := ⟨_, rfl⟩
      rw [← he] at hx0 hx1 hx2 HC1 HC2 HL1 HL2
      rw [Int.toNat_natCast] at hx0 hx1 hx2
      have HE := Aside0.mk he
      clear he
      have hp0 : (0 : Int) ≤ (i : Int) := by omega
      have HX0 := Aside0.mk hx0
      go_wp2_with fail
      obtain ⟨W, hW⟩ : ∃ W, W = wr.alloc (.cells #[.int .i64 e.f0, .slice A1_ e.f1.length c1_, .slice A2_ e.f2.length c2_] 84) := ⟨_, rfl⟩
      rw [← hW]
      have hbW : Below wr.heap.size wr W := by rw [hW]; exact (Below.refl _ _).alloc (Nat.le_refl _) _
      have hy0 : W.cell? ⟨wr.heap.size, 0, none⟩ = some (.int .i64 e.f0) := by rw [hW]; exact (World.cell?_alloc_at (w := wr) _ _ _ 0 rfl)
      have hy1 : W.cell? ⟨wr.heap.size, 1, none⟩ = some (.slice A1_ e.f1.length c1_) := by rw [hW]; exact (World.cell?_alloc_at (w := wr) _ _ _ 1 rfl)
      have hy2 : W.cell? ⟨wr.heap.size, 2, none⟩ = some (.slice A2_ e.f2.length c2_) := by rw [hW]; exact (World.cell?_alloc_at (w := wr) _ _ _ 2 rfl)
      have HBW := Aside0.mk (below_step HB.out hbW)
      have HOW := Aside0.mk (HW.out.below hbW)
      have HC1w := Aside0.mk (Kd.C_below HC1.out HBW.out)
      have HC2w := Aside0.mk (Kd.C_below HC2.out HBW.out)
      obtain ⟨b, hb⟩ : ∃ b, b = wr.heap.size := ⟨_, rfl⟩
      rw [← hb] at hy0 hy1 hy2 ⊢
      have HBb := Aside0.mk hb
      clear hb
      clear hbW hx0 hx1 hx2 hW
      have hdrop : l1.drop i = e :: l1.drop (i + 1) := by
        rw [List.drop_eq_getElem_cons hi, HE.out]
        unfold rd_T84
        rw [Int.toNat_natCast]
        simp [List.getD, List.getElem?_eq_getElem hi]
      have H2 := H.out
      rw [hdrop] at H2
      clear hdrop H
      have hRd := Kd.R_reads' (R_of_owns HOW.out.out)
      refine (fits_calls _ _ t e A1_ A2_ c1_ c2_ W hRd.2.2 HOW.out.le HC1w.out HL1.out).mono ?_
      rintro e_ w3 ⟨rfl, hb3⟩
      replace hy0 := (hb3.cell (World.block_lt_of_cell? W _ hy0)).trans hy0
      replace hy1 := (hb3.cell (World.block_lt_of_cell? W _ hy1)).trans hy1
      replace hy2 := (hb3.cell (World.block_lt_of_cell? W _ hy2)).trans hy2
      have HBW3 := Aside0.mk (below_step HBW.out hb3)
      have HOW3 := Aside0.mk (HOW.out.below hb3)
      have HC13 := Aside0.mk (Kd.C_below HC1.out HBW3.out)
      have HC23 := Aside0.mk (Kd.C_below HC2.out HBW3.out)
      clear hRd hb3 HBW HOW HC1w HC2w
      cases hfit : fitsB t e
      · rw [show applyL (e :: l1.drop (i + 1)) t = some ([], 170) by unfold applyL; simp [hfit]] at H2
        have HH := Aside0.mk H2
        clear H2 hfit
        go_wp2
        go_ret2
        have h3 := HH.out
        have h4 : r0 = [] := by injection h3 with h3; injection h3 with h3 h5; exact h3.symm
        have h5 : r1 = 170 := by injection h3 with h3; injection h3 with h3 h5; exact h5.symm
        subst h4; subst h5
        exact ⟨_, rfl, Kd.R_nil _ _ _ _ _, HBW3.out⟩
      · rw [show applyL (e :: l1.drop (i + 1)) t = (if (putE t e).length ≤ 140737488355328 then applyL (l1.drop (i + 1)) (putE t e) else none) by rw [applyL]; rw [hfit]; rfl] at H2
        by_cases hpl : (putE t e).length ≤ 140737488355328
        case neg => rw [if_neg hpl] at H2; cases H2
        rw [if_pos hpl] at H2
        have hf := hfit
        unfold fitsB at hf
        rw [Bool.and_eq_true, Bool.and_eq_true] at hf
        obtain ⟨hf0, hf1, hf2⟩ := hf
        have hf0 := of_decide_eq_true hf0
        have hf1 := of_decide_eq_true hf1
        unfold Hp.hpB at hf2
        rw [Bool.and_eq_true] at hf2
        have hf2 := of_decide_eq_true hf2.1
        obtain ⟨p, hp⟩ : ∃ p : Nat, e.f0 = (p : Int) := ⟨e.f0.toNat, by omega⟩
        rw [hp, Int.toNat_natCast, List.length_drop] at hf2
        rw [hp] at hf0 hf1 hy0
        have hp3 : p ≤ t.length := by omega
        have htm : t.length ≤ 9223372036854775807 := by have := HOW3.out.le; have := HOW3.out.max; unfold maxLen at this; omega
        have h2m : e.f2.length ≤ 9223372036854775807 := HC2.out.2.1
        obtain ⟨q, hq⟩ : ∃ q, q = p + e.f1.length := ⟨_, rfl⟩
        have hql : q ≤ t.length := by omega
        obtain ⟨nt, hnt⟩ : ∃ nt, nt = putE t e := ⟨_, rfl⟩
        rw [← hnt] at H2 hpl
        have hys : nt = t.take p ++ e.f2 ++ t.drop q := by rw [hnt, hq]; unfold putE; rw [hp, Int.toNat_natCast]
        have hntl : nt.length = p + e.f2.length + (t.length - q) := by rw [hys]; simp; omega
        -- the three parts
        obtain ⟨i07, hi07, _, hsz7, _⟩ := info_parts inf5
        have hRd3 := Kd.R_reads' (R_of_owns HOW3.out.out)
        obtain ⟨hcut1, hA1, hC1⟩ := print_take_of (P := Try.prog) (Value.int .u8) 0 72 5 .i64 Try.underlying72 hi07 hsz7 (some ⟨g, 0, none⟩) cap t (p : Int) hf0 hf1 HOW3.out.le
        obtain ⟨A', hcut2, hA2, hC2⟩ := print_drop_of (P := Try.prog) (Value.int .u8) 0 72 5 .i64 Try.underlying72 hi07 hsz7 (some ⟨g, 0, none⟩) cap t (q : Int) (by omega) (by omega) HOW3.out.le
        rw [Int.toNat_natCast] at hcut1 hA1 hC1 hcut2 hA2 hC2
        have hR1 : Kd.C (Kd.int .u8) w3 (some ⟨g, 0, none⟩) (t.take p).length (t.take p) := Kd.C_of_reads (h1 := fun _ => rfl) (hA1 _ (Kd.reads_of_C hRd3.2.2))
        have hR2 : Kd.C (Kd.int .u8) w3 A' (t.drop q).length (t.drop q) := Kd.C_of_reads (h1 := fun _ => rfl) (hA2 _ (Kd.reads_of_C hRd3.2.2))
        have htot : nt.length = (t.take p).length + e.f2.length + (t.drop q).length := by rw [hys]; simp; omega
        obtain ⟨w4, w5, w6, w7, hmk, ha1, ha2, ha3, hb4, hb5, hb6, hb7, cur', hcr, hcl, hce⟩ := three_rows w3 nt.length (t.take p) e.f2 (t.drop q) (some ⟨g, 0, none⟩) A2_ A' cap c2_ (cap - q) htot (by unfold maxLen; omega) hR1 HC23.out hR2 hpl
        rw [← hys] at hce
        obtain ⟨xs, hxs⟩ : ∃ xs, xs = t.take p := ⟨_, rfl⟩
        obtain ⟨zs, hzs⟩ : ∃ zs, zs = t.drop q := ⟨_, rfl⟩
        rw [← hxs] at hcut1 ha1 ha2 ha3
        rw [← hzs] at hcut2 ha3
        have hxl : xs.length = p := by rw [hxs, List.length_take]; omega
        rw [hxl] at hcut1 ha1 ha2 ha3
        have ht1 : wrap64 ((t.length : Int) - (e.f1.length : Int)) = (t.length : Int) - (e.f1.length : Int) := by unfold wrap64; omega
        have ht2 : wrap64 ((t.length : Int) - (e.f1.length : Int) + (e.f2.length : Int)) = (nt.length : Int) := by unfold wrap64; omega
        have ht3 : wrap64 ((p : Int) + (e.f1.length : Int)) = (q : Int) := by unfold wrap64; omega
        have hz0 := fun (W : World) (h : Below w3.heap.size w3 W) => (h.cell (World.block_lt_of_cell? w3 _ hy0)).trans hy0
        have hz1 := fun (W : World) (h : Below w3.heap.size w3 W) => (h.cell (World.block_lt_of_cell? w3 _ hy1)).trans hy1
        have hz2 := fun (W : World) (h : Below w3.heap.size w3 W) => (h.cell (World.block_lt_of_cell? w3 _ hy2)).trans hy2
        have k40 := hz0 w4 hb4
        have k52 := hz2 w5 hb5
        have k60 := hz0 w6 hb6
        have k61 := hz1 w6 hb6
        have HO' : Aside0 (OnWay w.heap.size w7 w3.heap.size nt.length nt) := ⟨⟨by have := HBW3.out.size; omega, ⟨cur', hcr, hcl, by rw [List.take_of_length_le (by omega)]; exact hce⟩, Nat.le_refl _, by unfold maxLen; omega⟩⟩
        have HB' : Aside0 (Below w.heap.size w w7) := ⟨below_step HBW3.out hb7⟩
        have HH := Aside0.mk H2
        have HK1 := HK
        clear hxl hz0 hz1 hz2 hb4 hb5 hb6 hb7 hcr hcl hce hR1 hR2 htot hA1 hA2 hC1 hC2 hRd3 hi07 hsz7 hys hntl hxs hzs hnt H2 hql hf0 hf1 hf2 hp hfit HOW3 HBW3 HC13 HC23 HB HW HR1 htm h2m hq hp3
        obtain ⟨N, hN⟩ : ∃ N, N = w3.heap.size := ⟨_, rfl⟩
        rw [← hN] at hmk ha1 ha2 ha3 HO'
        clear hN
        go_wp2_with (first | (at_builtin; refine Lib.wpList_append_run _ rfl (.tmp 38) (.tmp 42) _ _ rfl _ _ rfl rfl _ _ (ha1 _) ?_) | (at_builtin; refine Lib.wpList_append_run _ rfl (.tmp 44) (.tmp 46) _ _ rfl _ _ rfl rfl _ _ (ha2 _) ?_) | (at_builtin; refine Lib.wpList_append_run _ rfl (.tmp 48) (.tmp 56) _ _ rfl _ _ rfl rfl _ _ (ha3 _) ?_))
        cases gk with
        | zero => exact absurd HK.out (by omega)
        | succ k1 =>
          have HK' : Aside0 (k1 + (i + 1) = l1.length) := ⟨by have := HK.out; omega⟩
          clear hcut1 hcut2 ha1 ha2 ha3 hmk k40 k52 k60 k61 hy0 hy1 hy2 ht1 ht2 ht3
          go_roundg k1
          case measure => omega
          case rel => exact ⟨i + 1, nt, N, nt.length, rfl, by go_num, HK', HH, HO', HB'⟩
    · have hii : ¬ (i : Int) < (l1.length : Int) := by omega
      have hdn : l1.drop i = [] := List.drop_eq_nil_of_le (by omega)
      have h3 := H.out
      rw [hdn] at h3
      have h4 : t = r0 := by injection h3 with h3; injection h3 with h3 h5
      have h5 : r1 = 0 := by injection h3 with h3; injection h3 with h3 h5; exact h5.symm
      subst h4; subst h5
      clear hdn h3 H
      go_wp2
      go_ret2
      exact ⟨_, rfl, R_of_owns HW.out.out, HB.out⟩

end Go.Proofs.Ytjljkcbopkldbaa
