/-
  ChangeTwo's walk: edits and then edits are both in one list. Condition: all together at most 2^20 long.
-/
import Derived.Test.YtjljkcbopkldbaaPx
import Derived.Test.YtjljkcbopkldbaaPg
import Derived.RegionTactic
import Derived.BigRegion
namespace Go.Proofs.Ytjljkcbopkldbaa
open Go.RowKit Go.Proofs.YtjljkcbopkldbaaW.PrintWords Go.Proofs.YtjljkcbopkldbaaW.PrintLast Go.Proofs.YtjljkcbopkldbaaW.PrintMore Go.Proofs.Ytjljkcbopkldbaa.X Go.Proofs.Ytjljkcbopkldbaa.Pl
set_option linter.unusedVariables false
set_option linter.unusedSimpArgs false

theorem inf84 : (Try.prog.info? 84).map (fun i => (i.zero, i.size, i.bytes)) = some (some (.agg #[.int .i64 0, .slice none 0 0, .slice none 0 0]), 3, 56) := by kernel_rfl

/-- a row of edits of the call's own, whose texts lie where they lay in w -/
def Row84 (w W : World) (base : Nat) (v : Value) (xs : List S84) : Prop := OwnRow (k84.K w) 84 3 W base v xs

theorem row_append {w W : World} {base : Nat} {v : Value} {xs ys : List S84} {A : Option Addr} {c : Nat} (HO : Row84 w W base v xs) (hC : ReadsRow (k84.K w) 3 W A ys.length ys) (hbase : base ≤ W.heap.size) (hl : (xs.length + ys.length) * 56 ≤ 140737488355328) :
    ∃ v1 w1, (app25 #[v, .slice A ys.length c]).run Try.prog W = .ok v1 w1 ∧ Row84 w w1 base v1 (xs ++ ys) ∧ W.grownBy w1 v.ownBlock := by
  obtain ⟨i0, hi, hzz⟩ := Option.map_eq_some_iff.1 inf84
  simp only [Prod.mk.injEq] at hzz
  obtain ⟨hz0, hz1, hz2⟩ := hzz
  obtain ⟨inner, hown, hr⟩ := HO
  show ∃ v1 w1, (Builtin.append_ #[25, 25] 25 #[v, .slice A ys.length c]).run Try.prog W = .ok v1 w1 ∧ Row84 w w1 base v1 (xs ++ ys) ∧ W.grownBy w1 v.ownBlock
  rcases A with _ | ad
  · have h0 : ys.length = 0 := by
      rcases Nat.eq_zero_or_pos ys.length with h0 | h0
      · exact h0
      · obtain ⟨ad, h, _⟩ := hC.2.2 h0; cases h
    have e : ys = [] := List.length_eq_zero_iff.1 h0
    subst e
    refine ⟨v, W, ?_, by rw [List.append_nil]; exact ⟨inner, hown, hr⟩, World.grownBy.refl W _⟩
    rcases hown.2 with ⟨rfl, hn⟩ | ⟨g, cap, cur, rfl, _, _, hnc, _⟩
    · simp [Builtin.append_, run_underlying Try.underlying25, sizeOf, typeInfo, hi, Builtin.lenOf, Builtin.firstCells, hz1]
    · simp [Builtin.append_, run_underlying Try.underlying25, sizeOf, typeInfo, hi, Builtin.lenOf, Builtin.firstCells, hnc, storeCells, hz1]
  · obtain ⟨src, hs1, hs2⟩ := hC.inner_
    have hone : ∀ u ∈ src, u.oneCell' = true := fun u hu => by
      obtain ⟨j, hj, rfl⟩ := List.mem_iff_getElem.1 hu
      have hlen := hs1.1
      have hq : j / 3 < ys.length := by omega
      have hk := hs1.2 (j / 3) _ (List.getElem?_eq_getElem hq)
      refine k84.K_one hk _ ?_
      rw [List.mem_iff_getElem?]
      refine ⟨j % 3, ?_⟩
      rw [List.getElem?_take, if_pos (Nat.mod_lt _ (by omega)), List.getElem?_drop, show j / 3 * 3 + j % 3 = j by omega, List.getElem?_eq_getElem hj]
    obtain ⟨v1, w1, hrun, h2, h3, _, _⟩ := run_append_own_at (P := Try.prog) W base 25 25 84 i0 _ 3 56 Try.underlying25 hi hz0 hz1 hz2 rfl (by omega) v xs.length inner hown ad ys.length c src (by rw [hs1.1]) hs2 hone (by simp only [maxLen]; omega) hl hbase
    refine ⟨v1, w1, hrun, ⟨inner ++ src, by rw [List.length_append]; exact h2, ?_⟩, h3⟩
    -- one row behind the other
    refine ⟨by rw [List.length_append, hr.1, hs1.1, List.length_append]; omega, fun j p hj => ?_⟩
    by_cases hjx : j < xs.length
    · rw [List.getElem?_append_left hjx] at hj
      have := hr.2 j p hj
      rw [List.drop_append_of_le_length (by rw [hr.1]; omega), List.take_append_of_le_length (by rw [List.length_drop, hr.1]; omega)]
      exact this
    · rw [List.getElem?_append_right (by omega)] at hj
      have := hs1.2 (j - xs.length) p hj
      rw [show j * 3 = inner.length + (j - xs.length) * 3 by rw [hr.1]; omega, ← List.drop_drop, List.drop_left]
      exact this

theorem Row84.below {w W W1 : World} {base : Nat} {v : Value} {xs : List S84} (h : Row84 w W base v xs) (hb : Below W.heap.size W W1) : Row84 w W1 base v xs := OwnRow.below h hb
theorem Row84.C {w W : World} {base : Nat} {v : Value} {xs : List S84} (h : Row84 w W base v xs) (hb : Below w.heap.size w W) : ∃ A c, v = .slice A xs.length c ∧ xs.length ≤ c ∧ Kd.C k84 W A xs.length xs := by
  obtain ⟨A, c, e, hc, hr⟩ := OwnRow.reads h
  exact ⟨A, c, e, hc, hr.1, hr.2.1, fun hn => by
    obtain ⟨ad, e, hc⟩ := hr.2.2 hn
    refine ⟨ad, e, fun j p hj => ?_⟩
    obtain ⟨c, hs, hk, hcell⟩ := hc j p hj
    exact ⟨c, hs, k84.K_below hb hk, hcell⟩⟩
theorem reads_moved {w W : World} {A : Option Addr} {xs : List S84} (h : Kd.C k84 w A xs.length xs) (hb : Below w.heap.size w W) : ReadsRow (k84.K w) 3 W A xs.length xs := ReadsRow.imp_ h hb (fun _ _ hk => hk)

/-- the walk's place behind the two appends: the box stands, what came in stands, all stands -/
structure Here (w w2 : World) (B : Nat) (box : Array Value) (W : World) : Prop where
  b : Below w.heap.size w W
  z : Below w2.heap.size w2 W
  k : W.heap[B]? = some (.cells box 86)
theorem Here.step {w w2 W W' : World} {B : Nat} {box : Array Value} (h : Here w w2 B box W) (hb : Below W.heap.size W W') : Here w w2 B box W' := ⟨below_step h.b hb, below_step h.z hb, blk_below h.k hb⟩
theorem Here.drewN {w w2 W : World} {B : Nat} {box : Array Value} (h : Here w w2 B box W) (n : Nat) : Here w w2 B box (W.drewN n) := h.step (pw_below_drewN (Below.refl _ _) n)
theorem Here.drew {w w2 W : World} {B : Nat} {box : Array Value} (h : Here w w2 B box W) : Here w w2 B box W.drew := h.step (below_drew1 (Below.refl _ _))

theorem app_small : ∀ (l : List S84) (t : List Int), (answer (app l t)).1.length ≤ t.length + news l
  | [], t => by simp [app, answer]
  | e :: r, t => by
    rw [news_cons]
    have := put_length t e
    unfold app
    by_cases h : fitsB t e = true
    · rw [if_pos h]; have := app_small r (putE t e); omega
    · rw [if_neg h]; simp [answer]
theorem apply_f (l : List S84) (t : List Int) (h : t.length + news l ≤ 140737488355328) : change_Apply.f t l = some (answer (app l t)) := by
  unfold change_Apply.f
  rw [if_pos (by omega), applyL_eq _ _ h]

theorem cut_here {c : Code} {K : Act → World → Prop} {Q : Exit → Act → World → Prop} {a : Act} {w : World} (I : World → Prop) {act : Act} (h : ∀ K1 : Act → World → Prop, Aside0 (∀ w', I w' → K1 act w') → c.wp Try.prog (Exit.then K1 Q) a w) (k : ∀ w', I w' → K act w') : c.wp Try.prog (Exit.then K Q) a w := h K ⟨k⟩

attribute [local go_sem ↓] app_fold

set_option maxHeartbeats 4000000 in
set_option maxRecDepth 100000 in
theorem two_walk (A0 A1 A2 : Option Addr) (c0 c1 c2 : Nat) (t : List Int) (l1 l2 : List S84) (w : World) (hr0 : Kd.C (Kd.int .u8) w A0 t.length t) (hc0 : t.length ≤ c0) (hr1 : Kd.C k84 w A1 l1.length l1) (hc1 : l1.length ≤ c1) (hr2 : Kd.C k84 w A2 l2.length l2) (hc2 : l2.length ≤ c2)
    (hm : t.length + (l1.length + news l1 + olds l1) + (l2.length + news l2 + olds l2) ≤ 1048576) :
    Calls Try.prog 14 #[.agg #[.slice A0 t.length c0, .slice A1 l1.length c1, .slice A2 l2.length c2]] w fun e w' => e = .returned (.bool true) ∧ Below w.heap.size w w' := by
  have hu86 := Try.underlying86
  have HR0 := Aside0.mk hr0
  have HR1 := Aside0.mk hr1
  have HR2 := Aside0.mk hr2
  have HC0 := Aside0.mk hc0
  have HC1 := Aside0.mk hc1
  have HC2 := Aside0.mk hc2
  have HM := Aside0.mk hm
  clear hr0 hr1 hr2 hc0 hc1 hc2 hm
  obtain ⟨g, hg⟩ := great_ev t (l1 ++ l2) (by have := HM.out; simp; omega)
  obtain ⟨kg, hkg⟩ := hg.rounds
  have HG := Aside0.mk hkg
  clear hg hkg
  go_enter Try.func14, Try.ntmps14
  go_wp2_with fail
  obtain ⟨B, hBz⟩ : ∃ B, B = w.heap.size := ⟨_, rfl⟩
  have bk0 := blk_new w (.cells #[.slice A0 t.length c0, .slice A1 l1.length c1, .slice A2 l2.length c2] 86)
  have hb0 : Below w.heap.size w (w.alloc (.cells #[.slice A0 t.length c0, .slice A1 l1.length c1, .slice A2 l2.length c2] 86)) := below_alloc (Below.refl _ _) _
  refine (quoinlaw17_alive.calls true _ rfl).mono ?_
  rintro e W ⟨rfl, hb1⟩
  have BK := Aside0.mk (blk_below bk0 hb1)
  have HB := Aside0.mk (below_step hb0 hb1)
  clear bk0 hb0 hb1
  rw [← hBz] at BK ⊢
  have HBz := Aside0.mk hBz
  clear hBz
  go_wp2_with fail
  -- both appends
  have hlt : B < W.heap.size := blk_lt BK.out
  obtain ⟨WA, hWA⟩ : ∃ WA, WA = (W.alloc (.cells #[] 84)).drew := ⟨_, rfl⟩
  have hbA : Below W.heap.size W WA := by rw [hWA]; exact Below.drew (below_alloc (Below.refl W.heap.size W) _)
  have F0 : Row84 w WA W.heap.size (.slice (some ⟨W.heap.size, 0, none⟩) 0 0) [] := by
    rw [hWA]; exact ⟨[], World.ownsRow_lit (base := W.heap.size) (e := 84) (size := 3) W #[] 0 (Nat.le_refl _) (by simp [maxLen]) rfl, Reps.none _ _⟩
  have HBA := Aside0.mk (below_step HB.out hbA)
  obtain ⟨l3, hl3⟩ : ∃ l3, l3 = l1 ++ l2 := ⟨_, rfl⟩
  obtain ⟨v1, w1, hrun1, HO1, hg1⟩ := row_append (c := c1) F0 (reads_moved HR1.out HBA.out) hbA.size (by have := HM.out; simp; omega)
  rw [List.nil_append] at HO1
  have hb1 : Below W.heap.size W w1 := hbA.grown hg1 hbA.size (own_base F0.choose_spec.1)
  have HB1 := Aside0.mk (below_step HB.out hb1)
  obtain ⟨v2, w2, hrun2, HO2, hg2⟩ := row_append (c := c2) HO1 (reads_moved HR2.out HB1.out) hb1.size (by have := HM.out; omega)
  rw [← hl3] at HO2
  have hb2 : Below W.heap.size W w2 := hb1.grown hg2 hb1.size (own_base HO1.choose_spec.1)
  have HB2 := Aside0.mk (below_step HB.out hb2)
  obtain ⟨A3, c3, rfl, hc3, hC3⟩ := HO2.C HB2.out
  obtain ⟨A4, c4, rfl, hc4, _⟩ := HO1.C HB1.out
  have BK2 := Aside0.mk (blk_below BK.out hb2)
  have HC3 := Aside0.mk hC3
  have HL3 := Aside0.mk hc3
  have y0 := blk_cell BK.out 1
  have y1 := blk_cell BK.out 2
  have x0 := blk_cell (blk_below BK.out hbA) 1
  have x1 := blk_cell (blk_below BK.out hbA) 2
  have u0 := blk_cell (blk_below BK.out hb1) 1
  have u9 := blk_cell (blk_below BK.out hb1) 2
  simp only [List.getElem?_toArray, List.getElem?_cons_zero, List.getElem?_cons_succ] at y0 y1 x0 x1 u0 u9
  rw [hWA] at hrun1 x0 x1
  have hrun1' : (app25 #[.slice (some ⟨W.heap.size, 0, none⟩) 0 0, .slice A1 l1.length c1]).run Try.prog (W.drew.alloc (.cells #[] 84)) = .ok (.slice A4 l1.length c4) w1 := hrun1
  clear hbA F0 hg1 hg2 hb1 hb2 HO1 HO2 hC3 hc3 hc4 hWA HBA HB1
  have HE := Aside0.mk hl3
  have HZ := Aside0.mk (Below.refl w2.heap.size w2)
  have HW := Aside0.mk (Here.mk HB2.out HZ.out BK2.out)
  clear HZ hl3
  rw [← HE.out] at HG
  -- plain answers
  have hs1 := size_ev l1 (by have := HM.out; omega)
  rw [sizeF_eq l1 (by have := HM.out; omega) (by have := HM.out; omega)] at hs1
  have hs2 := size_ev l2 (by have := HM.out; omega)
  rw [sizeF_eq l2 (by have := HM.out; omega) (by have := HM.out; omega)] at hs2
  have hs3 := size_ev l3 (by have := HM.out; rw [HE.out, List.length_append]; omega)
  rw [sizeF_eq l3 (by have := HM.out; rw [HE.out, news_append]; omega) (by have := HM.out; rw [HE.out, olds_append]; omega)] at hs3
  obtain ⟨K1, k1⟩ := hs1.rounds
  obtain ⟨K2, k2⟩ := hs2.rounds
  obtain ⟨K3, k3⟩ := hs3.rounds
  have S1 := Aside0.mk k1
  have S2 := Aside0.mk k2
  have S3 := Aside0.mk k3
  clear hs1 hs2 hs3 k1 k2 k3
  have hq1 := sizeL_bound l1
  have hq2 := sizeL_bound l2
  have hsum : sizeL l3 = sizeL l1 + sizeL l2 := by rw [HE.out, sizeL_append]
  have hw3 : wrap64 (sizeL l1 + sizeL l2) = sizeL l3 := by rw [hsum]; exact w64 (by have := HM.out; omega) (by have := HM.out; omega)
  clear hsum
  have hne : (sizeL l3 != IntKind.i64.wrap (sizeL l1 + sizeL l2)) = false := by
    have e : IntKind.i64.wrap (sizeL l1 + sizeL l2) = wrap64 (sizeL l1 + sizeL l2) := by rw [IntKind.wrap_i64]; unfold wrap64; omega
    rw [e, hw3]; simp
  clear hw3
  have QQ := Aside0.mk hq1
  have QR := Aside0.mk hq2
  clear hq1 hq2
  have ha1 := apply_f l1 t (by have := HM.out; omega)
  have hz1 := app_small l1 t
  have ha3 := apply_f l3 t (by have := HM.out; rw [HE.out, news_append]; omega)
  obtain ⟨⟨u1, e1⟩, hU1⟩ : ∃ x, x = answer (app l1 t) := ⟨_, rfl⟩
  obtain ⟨⟨u3, e3⟩, hU3⟩ : ∃ x, x = answer (app l3 t) := ⟨_, rfl⟩
  rw [← hU1] at ha1 hz1
  rw [← hU3] at ha3
  have ha2 := apply_f l2 u1 (by have := HM.out; simp only at hz1; omega)
  obtain ⟨⟨u2, e2⟩, hU2⟩ : ∃ x, x = answer (app l2 u1) := ⟨_, rfl⟩
  rw [← hU2] at ha2
  have hlast : (e1 = 0 ∧ e3 = e2 ∧ u3 = u2) ∨ (e1 ≠ 0 ∧ e3 = e1 ∧ u3 = []) := by
    rw [HE.out, app_append] at hU3
    cases hc : app l1 t with
    | none => 
      rw [hc] at hU1 hU3
      simp only [answer, Option.bind_none, Prod.mk.injEq] at hU1 hU3
      exact .inr ⟨by omega, by omega, hU3.1⟩
    | some u =>
      rw [hc] at hU1 hU3
      simp only [answer, Prod.mk.injEq] at hU1
      rw [Option.bind_some, ← hU1.1, ← hU2] at hU3
      simp only [Prod.mk.injEq] at hU3
      exact .inl ⟨hU1.2, hU3.2, hU3.1⟩
  have HA1 := Aside0.mk ha1
  have HA2 := Aside0.mk ha2
  have HA3 := Aside0.mk ha3
  have HLA := Aside0.mk hlast
  clear ha1 ha2 ha3 hz1 hU1 hU2 hU3 hlast
  go_region
  clear y0 y1 x0 x1 u0 u9 hrun1 hrun2 hrun1' hlt
  have y0 := blk_cell HW.out.k 0
  have y1 := blk_cell HW.out.k 1
  have y2 := blk_cell HW.out.k 2
  simp only [List.getElem?_toArray, List.getElem?_cons_zero, List.getElem?_cons_succ] at y0 y1 y2
  go_wp2_with (go_at_call 49; (with_reducible refine (quoinlaw17_great.calls kg A0 c0 t A3 c3 l3 g _ (Kd.C_below HR0.out HW.out.b) HC0.out HC3.out HL3.out HG.out).mono ?_); rintro e W' ⟨rfl, nd, rfl⟩)
  · go_ret
    exact ⟨rfl, (HW.out.drewN nd).b⟩
  have n0_ := Aside0.mk (HW.out.drewN nd)
  clear HW y0 y1 y2
  have HW := n0_
  clear n0_
  obtain ⟨W2, hW2⟩ : ∃ W2, W2 = w2.drewN nd := ⟨_, rfl⟩
  have HC3' := Aside0.mk (Kd.C_drewN HC3.out nd)
  have hz2 : Below w2.heap.size w2 (w2.drewN nd) := pw_below_drewN (Below.refl _ _) nd
  rw [← hW2] at HW ⊢
  clear hW2 hz2 HC3'
  have HW0 := HW
  clear HW
  apply cut_here (Here w w2 B #[.slice A0 t.length c0, .slice A1 l1.length c1, .slice A2 l2.length c2])
  · intro K1_ HK1_
    have HW := Aside0.mk HW0.out
    have y0 := blk_cell HW.out.k 0
    have y1 := blk_cell HW.out.k 1
    have y2 := blk_cell HW.out.k 2
    simp only [List.getElem?_toArray, List.getElem?_cons_zero, List.getElem?_cons_succ] at y0 y1 y2
    go_region_with (first
      | (go_at_call 58; (with_reducible refine (change_Size.calls K3 A3 c3 l3 _ _ (Kd.C_below HC3.out (by repeat (first | (with_reducible first | exact HW.out.z | apply pw_below_drewN | apply below_drew1) | exact HW.out.z))) HL3.out S3.out).mono ?_); rintro e W' ⟨rfl, hb⟩; have n0_ := Aside0.mk (Here.step (by repeat (first | (with_reducible first | exact HW.out | apply Here.drewN | apply Here.drew) | exact HW.out)) hb); clear HW hb y0 y1 y2; have HW := n0_; clear n0_; have y0 := blk_cell HW.out.k 0; have y1 := blk_cell HW.out.k 1; have y2 := blk_cell HW.out.k 2; simp only [List.getElem?_toArray, List.getElem?_cons_zero, List.getElem?_cons_succ] at y0 y1 y2)
      | (go_at_call 58; (with_reducible refine (change_Size.calls K1 A1 c1 l1 _ _ (Kd.C_below HR1.out (by repeat (first | (with_reducible first | exact HW.out.b | apply pw_below_drewN | apply below_drew1) | exact HW.out.b))) HC1.out S1.out).mono ?_); rintro e W' ⟨rfl, hb⟩; have n0_ := Aside0.mk (Here.step (by repeat (first | (with_reducible first | exact HW.out | apply Here.drewN | apply Here.drew) | exact HW.out)) hb); clear HW hb y0 y1 y2; have HW := n0_; clear n0_; have y0 := blk_cell HW.out.k 0; have y1 := blk_cell HW.out.k 1; have y2 := blk_cell HW.out.k 2; simp only [List.getElem?_toArray, List.getElem?_cons_zero, List.getElem?_cons_succ] at y0 y1 y2)
      | (go_at_call 58; (with_reducible refine (change_Size.calls K2 A2 c2 l2 _ _ (Kd.C_below HR2.out (by repeat (first | (with_reducible first | exact HW.out.b | apply pw_below_drewN | apply below_drew1) | exact HW.out.b))) HC2.out S2.out).mono ?_); rintro e W' ⟨rfl, hb⟩; have n0_ := Aside0.mk (Here.step (by repeat (first | (with_reducible first | exact HW.out | apply Here.drewN | apply Here.drew) | exact HW.out)) hb); clear HW hb y0 y1 y2; have HW := n0_; clear n0_; have y0 := blk_cell HW.out.k 0; have y1 := blk_cell HW.out.k 1; have y2 := blk_cell HW.out.k 2; simp only [List.getElem?_toArray, List.getElem?_cons_zero, List.getElem?_cons_succ] at y0 y1 y2))
    all_goals (go_wp2; exact HK1_.out _ HW.out)
  intro W3 hw3
  have HW0 := Aside0.mk hw3
  clear hw3
  rcases HLA.out with ⟨q1, q2, q3⟩ | ⟨q1, q2, q3⟩
  all_goals
    subst q2 q3
    (try subst q1)
    have HW := Aside0.mk HW0.out
    have y0 := blk_cell HW.out.k 0
    have y1 := blk_cell HW.out.k 1
    have y2 := blk_cell HW.out.k 2
    simp only [List.getElem?_toArray, List.getElem?_cons_zero, List.getElem?_cons_succ] at y0 y1 y2
    go_wp2_with (first
      | (go_at_call 48; (with_reducible refine (change_Apply.calls A0 c0 t A1 c1 l1 _ _ _ (Kd.C_below HR0.out HW.out.b) HC0.out (Kd.C_below HR1.out HW.out.b) HC1.out HA1.out).mono ?_); rintro e W4 ⟨v1, rfl, ho, hb⟩; obtain ⟨A5, c5, rfl, hc5, hC5⟩ := Kd.R_reads ho; have HC5 := Aside0.mk hC5; have HL5 := Aside0.mk hc5; clear ho hC5 hc5; have n0_ := Aside0.mk (Here.step (by repeat (first | (with_reducible first | exact HW.out | apply Here.drewN | apply Here.drew) | exact HW.out)) hb); clear HW hb y0 y1 y2; have HW := n0_; clear n0_; have y0 := blk_cell HW.out.k 0; have y1 := blk_cell HW.out.k 1; have y2 := blk_cell HW.out.k 2; simp only [List.getElem?_toArray, List.getElem?_cons_zero, List.getElem?_cons_succ] at y0 y1 y2)
      | (go_at_call 48; (with_reducible refine (change_Apply.calls A5 c5 u1 A2 c2 l2 _ _ _ HC5.out HL5.out (Kd.C_below HR2.out HW.out.b) HC2.out HA2.out).mono ?_); rintro e W5 ⟨v2, rfl, ho, hb⟩; obtain ⟨A6, c6, rfl, hc6, hC6⟩ := Kd.R_reads ho; have HC6 := Aside0.mk hC6; have HL6 := Aside0.mk hc6; clear ho hC6 hc6; have n0_ := Aside0.mk (Here.step (by repeat (first | (with_reducible first | exact HW.out | apply Here.drewN | apply Here.drew) | exact HW.out)) hb); clear HW hb y0 y1 y2; have HW := n0_; clear n0_; have y0 := blk_cell HW.out.k 0; have y1 := blk_cell HW.out.k 1; have y2 := blk_cell HW.out.k 2; simp only [List.getElem?_toArray, List.getElem?_cons_zero, List.getElem?_cons_succ] at y0 y1 y2)
      | (go_at_call 48; (with_reducible refine (change_Apply.calls A0 c0 t A3 c3 l3 _ _ _ (Kd.C_below HR0.out HW.out.b) HC0.out (Kd.C_below HC3.out HW.out.z) HL3.out HA3.out).mono ?_); rintro e W6 ⟨v3, rfl, ho, hb⟩; obtain ⟨A7, c7, rfl, hc7, hC7⟩ := Kd.R_reads ho; have hcv1 := Kd.C_string (P := Try.prog) (A := A7) (c := c7) Try.underlying72 Try.underlying5 Try.underlying9 hC7; have hcv2 := Kd.C_string (P := Try.prog) (A := A6) (c := c6) Try.underlying72 Try.underlying5 Try.underlying9 (Kd.C_below HC6.out hb); clear ho hC7 hc7; have n0_ := Aside0.mk (Here.step (by repeat (first | (with_reducible first | exact HW.out | apply Here.drewN | apply Here.drew) | exact HW.out)) hb); clear HW hb y0 y1 y2; have HW := n0_; clear n0_; have y0 := blk_cell HW.out.k 0; have y1 := blk_cell HW.out.k 1; have y2 := blk_cell HW.out.k 2; simp only [List.getElem?_toArray, List.getElem?_cons_zero, List.getElem?_cons_succ] at y0 y1 y2))
  all_goals
    go_ret
    exact ⟨rfl, HW.out.b⟩

end Go.Proofs.Ytjljkcbopkldbaa
