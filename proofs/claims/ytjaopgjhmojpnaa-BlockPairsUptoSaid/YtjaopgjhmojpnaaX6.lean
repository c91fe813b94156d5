-- Written by wip/printx.py of this claim's session, over the kit's print and contracts proved by hand.
import Derived.Test.YtjaopgjhmojpnaaX0
import Derived.Test.YtjaopgjhmojpnaaGiven
namespace Go.Proofs.Ytjaopgjhmojpnaa.X
open Go.RowKit Go.Proofs.YtjaopgjhmojpnaaW.PrintWords Go.Proofs.YtjaopgjhmojpnaaW.PrintLast Go.Proofs.YtjaopgjhmojpnaaW.PrintMore
attribute [local go_sem] max2_int min2_int max_two min_two max_three min_three max_four min_four   -- for this text's walks alone
set_option linter.unusedVariables false
set_option linter.unusedSimpArgs false

/-! ### quoinref05_Split: function 28 -/
def quoinref05_Split.l0 : Nat → List Int → List (List Int) → Int → Int → Option ((List (List Int)))
  | 0, _, _, _, _ => none
  | k + 1, x0, x3, x4, x5 => if x5 ≤ (x0.length : Int) then (if x5 = (x0.length : Int) then ((some (([] : List Int) : List Int)).bind fun y199 => (if 0 ≤ x4 then (if x4 ≤ x5 then (if y199.length + ((x0.take (x5 : Int).toNat).drop (x4 : Int).toNat).length < 140737488355328 then (if x3.length < 5864062014805 then (quoinref05_Split.l0 k x0 (x3 ++ [(y199 ++ ((x0.take (x5 : Int).toNat).drop (x4 : Int).toNat))]) (wrap64 (x5 + 1)) (wrap64 (x5 + 1))) else (none)) else (none)) else (none)) else (none))) else (if 0 ≤ x5 then (if x5 < (x0.length : Int) then (if (rd x0 x5) = 10 then ((some (([] : List Int) : List Int)).bind fun y210 => (if 0 ≤ x4 then (if x4 ≤ x5 then (if y210.length + ((x0.take (x5 : Int).toNat).drop (x4 : Int).toNat).length < 140737488355328 then (if x3.length < 5864062014805 then (quoinref05_Split.l0 k x0 (x3 ++ [(y210 ++ ((x0.take (x5 : Int).toNat).drop (x4 : Int).toNat))]) (wrap64 (x5 + 1)) (wrap64 (x5 + 1))) else (none)) else (none)) else (none)) else (none))) else (quoinref05_Split.l0 k x0 x3 x4 (wrap64 (x5 + 1)))) else (none)) else (none))) else (some x3)
def quoinref05_Split.f (k : Nat) (l0 : List Int) : Option ((List (List Int))) := quoinref05_Split.l0 k l0 ([] : List (List Int)) 0 0
theorem quoinref05_Split.mono_l : ∀ k, (∀ y0 y1 y2 y3, LeO (quoinref05_Split.l0 k y0 y1 y2 y3) (quoinref05_Split.l0 (k + 1) y0 y1 y2 y3))
  | 0 => fun _ _ _ _ r h => by simp [quoinref05_Split.l0] at h
  | k + 1 => by
    have ih0 := quoinref05_Split.mono_l k
    · intro y0 y1 y2 y3
      unfold quoinref05_Split.l0
      repeat' first
      | (with_reducible exact ih0 _ _ _ _)
      | (with_reducible exact LeO.refl _)
      | (with_reducible exact LeO.none _)
      | (with_reducible refine LeO.ite ?_ ?_)
      | (with_reducible refine LeO.bind ?_ (fun _ => ?_))
      | exact ih0 _ _ _ _
      | exact LeO.none _
      | refine LeO.ite ?_ ?_
      | refine LeO.bind ?_ (fun _ => ?_)
theorem quoinref05_Split.mono : ∀ a0 k, LeO (quoinref05_Split.f k a0) (quoinref05_Split.f (k + 1) a0) := by
  intro a0 k
  have ih0 := quoinref05_Split.mono_l k
  unfold quoinref05_Split.f
  repeat' first
      | (with_reducible exact ih0 _ _ _ _)
      | (with_reducible exact LeO.refl _)
      | (with_reducible exact LeO.none _)
      | (with_reducible refine LeO.ite ?_ ?_)
      | (with_reducible refine LeO.bind ?_ (fun _ => ?_))
      | exact ih0 _ _ _ _
      | exact LeO.none _
      | refine LeO.ite ?_ ?_
      | refine LeO.bind ?_ (fun _ => ?_)
set_option maxHeartbeats 8000000 in
set_option maxRecDepth 100000 in
theorem quoinref05_Split.calls (k : Nat) (A0 : Option Addr) (c0 : Nat) (l0 : List Int) (r : List (List Int)) (w : World) (hr0 : Kd.C (Kd.int .u8) w A0 l0.length l0) (hc0 : l0.length ≤ c0) (h : quoinref05_Split.f k l0 = some r) :
    Calls Try.prog 28 #[.slice A0 l0.length c0] w fun e w' => ∃ v0_ : Value, e = .returned (v0_) ∧ Kd.S (Kd.slice 5 (Kd.int .u8)) 22 w' w.heap.size (fun _ => True) v0_ r ∧ Below w.heap.size w w' := by
  have HR0 := Aside0.mk hr0
  have HC0 := Aside0.mk hc0
  clear hr0 hc0
  have HB := Aside0.mk (Below.refl w.heap.size w)
  have H : (quoinref05_Split.l0 k l0 ([] : List (List Int)) 0 0) = some r := h
  clear h
  have H' := Aside0.mk H
  clear H
  go_enter Try.func28, Try.ntmps28
  go_wp2
  go_loopg [3, 4, 5] k (fun kq v3 v4 v5 w' => ∃ (x3_1 : List (List Int)) (x4_1 : Int) (x5_1 : Int), v4 = .int .i64 x4_1 ∧ v5 = .int .i64 x5_1 ∧ Aside0 (quoinref05_Split.l0 kq l0 x3_1 x4_1 x5_1 = some r) ∧ Aside0 (kq ≤ k) ∧ Aside0 (Kd.S (Kd.slice 5 (Kd.int .u8)) 22 w' w.heap.size (fun _ => True) v3 x3_1) ∧ Aside0 (Below w.heap.size w w'))
  case atStart => exact ⟨(([] : List (List Int))), (0), (0), (by first | rfl | (simp; done) | (simp [*]; done)), (by first | rfl | (simp; done) | (simp [*]; done)), H', ⟨Nat.le_refl _⟩, ⟨by first | exact Kd.S_nil _ _ _ _ _ | exact Kd.N_nil _ _ _ _ _ | exact Kd.V_nil _ _ _ _ _ | exact Kd.Q_nil _ _ _ _ _ | exact Kd.R_nil _ _ _ _ _⟩, ⟨by repeat (first | (with_reducible first | exact HB.out | apply below_alloc | apply pw_below_drewN | apply below_drew1) | exact HB.out)⟩⟩
  case round =>
    clear H'
    obtain ⟨x3_1, x4_1, x5_1, rfl, rfl, HA, HK1, HO_3, HB⟩ := hrel
    cases gk with
    | zero => exact absurd HA.out (by simp [quoinref05_Split.l0])
    | succ k1 =>
      have H := HA.out
      clear HA
      simp only [quoinref05_Split.l0] at H
      by_cases c2 : x5_1 ≤ (l0.length : Int)
      · rw [if_pos c2] at H
        have c2b0 : decide (x5_1 ≤ (l0.length : Int)) = true := decide_eq_true c2
        clear c2
        by_cases c3 : x5_1 = (l0.length : Int)
        · rw [if_pos c3] at H
          have c3b0 : (x5_1 == (l0.length : Int)) = true := beq_iff_eq.mpr c3
          have c3b1 : (x5_1 != (l0.length : Int)) = false := bne_eq_false_iff_eq.mpr c3
          clear c3
          obtain ⟨y199, hy199⟩ : ∃ y_ : List Int, y_ = (([] : List Int)) := ⟨_, rfl⟩
          replace H : (if 0 ≤ x4_1 then (if x4_1 ≤ x5_1 then (if y199.length + ((l0.take (x5_1 : Int).toNat).drop (x4_1 : Int).toNat).length < 140737488355328 then (if x3_1.length < 5864062014805 then (quoinref05_Split.l0 k1 l0 (x3_1 ++ [(y199 ++ ((l0.take (x5_1 : Int).toNat).drop (x4_1 : Int).toNat))]) (wrap64 (x5_1 + 1)) (wrap64 (x5_1 + 1))) else (none)) else (none)) else (none)) else (none)) = some r := by first | (rw [hy199]; with_reducible exact H) | (have H2_ := (Option.bind_some _ _).symm.trans H; rw [hy199]; with_reducible exact H2_) | (have H2_ := (Option.bind_some _ _).symm.trans H; with_reducible exact H2_) | with_reducible exact H | (rw [hy199]; exact H) | exact H
          have Ny199 := Aside0.mk hy199
          clear hy199
          by_cases c4 : 0 ≤ x4_1
          · rw [if_pos c4] at H
            have c4b0 := eq_true c4
            have c4b1 : decide (0 ≤ x4_1) = true := decide_eq_true c4
            clear c4
            by_cases c5 : x4_1 ≤ x5_1
            · rw [if_pos c5] at H
              have c5b0 := eq_true c5
              have c5b1 : decide (x4_1 ≤ x5_1) = true := decide_eq_true c5
              clear c5
              have c6b0 := eq_true (of_decide_eq_true (by first | (with_reducible assumption) | assumption) : x5_1 ≤ (l0.length : Int))
              by_cases c7 : y199.length + ((l0.take (x5_1 : Int).toNat).drop (x4_1 : Int).toNat).length < 140737488355328
              · rw [if_pos c7] at H
                have LMc7 := Aside0.mk c7
                clear c7
                obtain ⟨y203, hy203⟩ : ∃ y_ : List Int, y_ = (y199 ++ ((l0.take (x5_1 : Int).toNat).drop (x4_1 : Int).toNat)) := ⟨_, rfl⟩
                replace H : (if x3_1.length < 5864062014805 then (quoinref05_Split.l0 k1 l0 (x3_1 ++ [y203]) (wrap64 (x5_1 + 1)) (wrap64 (x5_1 + 1))) else (none)) = some r := by first | (rw [hy203]; with_reducible exact H) | (have H2_ := (Option.bind_some _ _).symm.trans H; rw [hy203]; with_reducible exact H2_) | (have H2_ := (Option.bind_some _ _).symm.trans H; with_reducible exact H2_) | with_reducible exact H | (rw [hy203]; exact H) | exact H
                have Ny203 := Aside0.mk hy203
                clear hy203
                by_cases c8 : x3_1.length < 5864062014805
                · rw [if_pos c8] at H
                  have LMc8 := Aside0.mk c8
                  clear c8
                  obtain ⟨y206, hy206⟩ : ∃ y_ : List (List Int), y_ = (x3_1 ++ [y203]) := ⟨_, rfl⟩
                  replace H : (quoinref05_Split.l0 k1 l0 y206 (wrap64 (x5_1 + 1)) (wrap64 (x5_1 + 1))) = some r := by first | (rw [hy206]; with_reducible exact H) | (have H2_ := (Option.bind_some _ _).symm.trans H; rw [hy206]; with_reducible exact H2_) | (have H2_ := (Option.bind_some _ _).symm.trans H; with_reducible exact H2_) | with_reducible exact H | (rw [hy206]; exact H) | exact H
                  have Ny206 := Aside0.mk hy206
                  clear hy206
                  have H' := Aside0.mk H
                  clear H
                  go_wp2_with (first | ((with_reducible refine gate_dst (N := 24) rfl ?_); refine Kd.R_lit (Kd.int .u8) _ 5 ?hg (N := 24) ?hd (xs := ([] : List Int)) (inner := []) (ok := fun _ => True) (okp := fun _ => True) ?hr ?hp (fun _ hk => hk) trivial (Below.refl _ _) (Nat.le_refl _) (by simp) ?_; (case hd => rfl); (case hg => rfl); (case hr => first | (go_simp; done) | (go_simp; rfl)); (case hp => exact (Reps.none _ _)); intro v200 w9 ho10 hb hg_ hnew_; clear hg_ hnew_; (first | rw [← Ny199.out] at ho10 | (simp only [Int.reduceToNat] at ho10; rw [← Ny199.out] at ho10)); have n0_ := Aside0.mk (Kd.S_elder' (by (with_reducible repeat (first | apply Kd.S_alloc | apply Kd.S_drewN | apply Kd.S_drew)); exact HO_3.out) (Kd.R_base ho10) hb); have n1_ := Aside0.mk (Kd.R_lower ho10 (below_size (by repeat (first | (with_reducible first | exact HB.out | apply below_alloc | apply pw_below_drewN | apply below_drew1) | exact HB.out)))); have n2_ := Aside0.mk (below_step (by repeat (first | (with_reducible first | exact HB.out | apply below_alloc | apply pw_below_drewN | apply below_drew1) | exact HB.out)) hb); clear HO_3; clear HB; have HO_3 := n0_; have HO201 := n1_; have HB := n2_; clear n0_ n1_ n2_; clear hb ho10; obtain ⟨i011, hi011, _, hsz11, _⟩ := info_parts info5; obtain ⟨A11, hcut11, hA11, hC11⟩ := print_mid_of (P := Try.prog) (Value.int .u8) 0 22 5 .i64 .i64 Try.underlying22 hi011 hsz11 A0 c0 l0 x4_1 x5_1 (of_decide_eq_true (by first | (with_reducible assumption) | assumption)) (by first | omega | exact of_decide_eq_true (by first | (with_reducible assumption) | assumption)) (of_decide_eq_true (by first | (with_reducible assumption) | assumption)) HC0.out; have HR202 := Aside0.mk (Kd.C_of_reads (h1 := fun _ => rfl) (hA11 _ (Kd.reads_of_C HR0.out))); have HC202 := Aside0.mk hC11; clear hA11 hC11 hi011 hsz11) | ((with_reducible refine gate_builtin (b := .append) (xs := #[.tmp 24, .tmp 28]) rfl ?_); at_builtin; refine Kd.R_append_rows (Kd.int .u8) (w0 := w) w.heap.size rfl (.tmp 24) (.tmp 28) 22 5 (.int .u8 0) 1 rfl Try.underlying22 info5 rfl (by decide) (by omega) v200 y199 ((l0.take (x5_1 : Int).toNat).drop (x4_1 : Int).toNat) _ _ _ (fun _ => True) (fun _ => False) rfl rfl ?aO ?aR (fun _ _ h => h) (fun _ h => h.elim) ?aF ?aB ?aS ?aL ?_; (case aR => first | (rw [← show ((l0.take (x5_1 : Int).toNat).drop (x4_1 : Int).toNat).length = (x5_1.toNat - x4_1.toNat) from (by rw [List.length_drop, List.length_take]; have h_ : (x5_1 : Int) ≤ (l0.length : Int) := of_decide_eq_true (by first | (with_reducible assumption) | assumption); omega)]; repeat (first | exact (Kd.C_below HR202.out HB.out) | (with_reducible refine Kd.C_alloc ?_ _) | (with_reducible refine Kd.C_drewN ?_ _) | (with_reducible refine Kd.C_drew ?_))) | (repeat (first | exact (Kd.C_below HR202.out HB.out) | (with_reducible refine Kd.C_alloc ?_ _) | (with_reducible refine Kd.C_drewN ?_ _) | (with_reducible refine Kd.C_drew ?_)))); (case aB => exact (by repeat (first | (with_reducible first | exact HB.out | apply below_alloc | apply pw_below_drewN | apply below_drew1) | exact HB.out))); (case aF => exact (fun _ _ => trivial)); (case aO => exact (by (with_reducible repeat (first | apply Kd.R_alloc | apply Kd.R_drewN | apply Kd.R_drew)); exact HO201.out)); (case aS => exact (below_size (by repeat (first | (with_reducible first | exact HB.out | apply below_alloc | apply pw_below_drewN | apply below_drew1) | exact HB.out)))); (case aL => have := LMc7.out; have hlx_ := (show ((l0.take (x5_1 : Int).toNat).drop (x4_1 : Int).toNat).length = (x5_1.toNat - x4_1.toNat) from (by rw [List.length_drop, List.length_take]; have h_ : (x5_1 : Int) ≤ (l0.length : Int) := of_decide_eq_true (by first | (with_reducible assumption) | assumption); omega)); omega); intro v204 w12 ho hb hg hat; rw [← Ny203.out] at ho; have n0_ := Aside0.mk (Kd.S_after (ok := (fun _ => True)) (by (with_reducible repeat (first | apply Kd.S_alloc | apply Kd.S_drewN | apply Kd.S_drew)); exact HO_3.out) hg hat); have n1_ := Aside0.mk (hb); have n2_ := Aside0.mk (ho); clear HO_3; clear HB; clear HO201; have HO_3 := n0_; have HB := n1_; have HO205 := n2_; clear n0_ n1_ n2_; clear ho hb hg hat; obtain ⟨Ao14, co14, eo14⟩ := Kd.R_slice HO205.out; subst eo14) | ((with_reducible refine gate_builtin (b := .append) (xs := #[.tmp 30, .tmp 32]) rfl ?_); at_builtin; refine Kd.S_append (Kd.slice 5 (Kd.int .u8)) (w0 := w) w.heap.size rfl (.tmp 30) (.tmp 32) 58 22 (.slice none 0 0) 24 rfl Try.underlying58 info22 rfl (by decide) (by omega) u3 x3_1 y203 [.slice Ao14 y203.length co14] (fun _ => True) (fun k_ => some k_ = (.slice Ao14 y203.length co14 : Value).ownBlock) rfl rfl ?aP (fun k_ hk_ => ((Kd.R_mono (ok' := fun k_ => ((fun _ => True)) k_ ∧ some k_ ≠ (u3 : Value).ownBlock) (Kd.R_apart' (HO205.out) (Kd.S_typed HO_3.out) (by decide)) (fun k_ hk => ⟨trivial, hk.2⟩))).1 k_ hk_.symm) ?aF ?aO ?aB ?aS ?aL ?_; (case aP => exact Kd.M_row (Kd.R_mono (Kd.R_tight rfl (Kd.R_mono (ok' := fun k_ => ((fun _ => True)) k_ ∧ some k_ ≠ (u3 : Value).ownBlock) (Kd.R_apart' (HO205.out) (Kd.S_typed HO_3.out) (by decide)) (fun k_ hk => ⟨trivial, hk.2⟩))) (fun _ h_ => h_))); (case aB => exact (by repeat (first | (with_reducible first | exact HB.out | apply below_alloc | apply pw_below_drewN | apply below_drew1) | exact HB.out))); (case aF => exact (fun _ _ => trivial)); (case aO => exact (by (with_reducible repeat (first | apply Kd.S_alloc | apply Kd.S_drewN | apply Kd.S_drew)); exact Kd.S_mono HO_3.out (fun k_ hk => ⟨trivial, fun e_ => hk.2 e_⟩))); (case aS => exact (below_size (by repeat (first | (with_reducible first | exact HB.out | apply below_alloc | apply pw_below_drewN | apply below_drew1) | exact HB.out)))); (case aL => have := LMc8.out; omega); intro v207 w13 ho hb hg hat; rw [← Ny206.out] at ho; have n0_ := Aside0.mk (hb); have n1_ := Aside0.mk (ho); clear HB; clear HO_3; clear HO205; have HB := n0_; have HO208 := n1_; clear n0_ n1_; clear ho hb hg hat))
                  go_roundg k1
                  case measure => have := HK1.out; omega
                  case rel => exact ⟨(y206), (wrap64 (x5_1 + 1)), (wrap64 (x5_1 + 1)), (by first | rfl | (simp; done) | (simp [*]; done)), (by first | rfl | (simp; done) | (simp [*]; done)), H', ⟨by have := HK1.out; omega⟩, ⟨by (with_reducible repeat (first | apply Kd.S_alloc | apply Kd.S_drewN | apply Kd.S_drew)); exact HO208.out⟩, ⟨by repeat (first | (with_reducible first | exact HB.out | apply below_alloc | apply pw_below_drewN | apply below_drew1) | exact HB.out)⟩⟩
                · rw [if_neg c8] at H
                  exact absurd H (by simp)
              · rw [if_neg c7] at H
                exact absurd H (by simp)
            · rw [if_neg c5] at H
              exact absurd H (by simp)
          · rw [if_neg c4] at H
            exact absurd H (by simp)
        · rw [if_neg c3] at H
          have c3b0 : (x5_1 == (l0.length : Int)) = false := beq_eq_false_iff_ne.mpr c3
          have c3b1 : (x5_1 != (l0.length : Int)) = true := bne_iff_ne.mpr c3
          by_cases c15 : 0 ≤ x5_1
          · rw [if_pos c15] at H
            have c15b0 : decide (0 ≤ x5_1) = true := decide_eq_true c15
            clear c15
            by_cases c16 : x5_1 < (l0.length : Int)
            · rw [if_pos c16] at H
              have c16b0 : decide (x5_1 < (l0.length : Int)) = true := decide_eq_true c16
              clear c16
              by_cases c17 : (rd l0 x5_1) = 10
              · rw [if_pos c17] at H
                have c17b0 : ((rd l0 x5_1) == 10) = true := beq_iff_eq.mpr c17
                have c17b1 : ((rd l0 x5_1) != 10) = false := bne_eq_false_iff_eq.mpr c17
                clear c17
                obtain ⟨y210, hy210⟩ : ∃ y_ : List Int, y_ = (([] : List Int)) := ⟨_, rfl⟩
                replace H : (if 0 ≤ x4_1 then (if x4_1 ≤ x5_1 then (if y210.length + ((l0.take (x5_1 : Int).toNat).drop (x4_1 : Int).toNat).length < 140737488355328 then (if x3_1.length < 5864062014805 then (quoinref05_Split.l0 k1 l0 (x3_1 ++ [(y210 ++ ((l0.take (x5_1 : Int).toNat).drop (x4_1 : Int).toNat))]) (wrap64 (x5_1 + 1)) (wrap64 (x5_1 + 1))) else (none)) else (none)) else (none)) else (none)) = some r := by first | (rw [hy210]; with_reducible exact H) | (have H2_ := (Option.bind_some _ _).symm.trans H; rw [hy210]; with_reducible exact H2_) | (have H2_ := (Option.bind_some _ _).symm.trans H; with_reducible exact H2_) | with_reducible exact H | (rw [hy210]; exact H) | exact H
                have Ny210 := Aside0.mk hy210
                clear hy210
                by_cases c18 : 0 ≤ x4_1
                · rw [if_pos c18] at H
                  have c18b0 := eq_true c18
                  have c18b1 : decide (0 ≤ x4_1) = true := decide_eq_true c18
                  clear c18
                  by_cases c19 : x4_1 ≤ x5_1
                  · rw [if_pos c19] at H
                    have c19b0 := eq_true c19
                    have c19b1 : decide (x4_1 ≤ x5_1) = true := decide_eq_true c19
                    clear c19
                    have c20b0 := eq_true (of_decide_eq_true (by first | (with_reducible assumption) | assumption) : x5_1 ≤ (l0.length : Int))
                    by_cases c21 : y210.length + ((l0.take (x5_1 : Int).toNat).drop (x4_1 : Int).toNat).length < 140737488355328
                    · rw [if_pos c21] at H
                      have LMc21 := Aside0.mk c21
                      clear c21
                      obtain ⟨y214, hy214⟩ : ∃ y_ : List Int, y_ = (y210 ++ ((l0.take (x5_1 : Int).toNat).drop (x4_1 : Int).toNat)) := ⟨_, rfl⟩
                      replace H : (if x3_1.length < 5864062014805 then (quoinref05_Split.l0 k1 l0 (x3_1 ++ [y214]) (wrap64 (x5_1 + 1)) (wrap64 (x5_1 + 1))) else (none)) = some r := by first | (rw [hy214]; with_reducible exact H) | (have H2_ := (Option.bind_some _ _).symm.trans H; rw [hy214]; with_reducible exact H2_) | (have H2_ := (Option.bind_some _ _).symm.trans H; with_reducible exact H2_) | with_reducible exact H | (rw [hy214]; exact H) | exact H
                      have Ny214 := Aside0.mk hy214
                      clear hy214
                      by_cases c22 : x3_1.length < 5864062014805
                      · rw [if_pos c22] at H
                        have LMc22 := Aside0.mk c22
                        clear c22
                        obtain ⟨y217, hy217⟩ : ∃ y_ : List (List Int), y_ = (x3_1 ++ [y214]) := ⟨_, rfl⟩
                        replace H : (quoinref05_Split.l0 k1 l0 y217 (wrap64 (x5_1 + 1)) (wrap64 (x5_1 + 1))) = some r := by first | (rw [hy217]; with_reducible exact H) | (have H2_ := (Option.bind_some _ _).symm.trans H; rw [hy217]; with_reducible exact H2_) | (have H2_ := (Option.bind_some _ _).symm.trans H; with_reducible exact H2_) | with_reducible exact H | (rw [hy217]; exact H) | exact H
                        have Ny217 := Aside0.mk hy217
                        clear hy217
                        have H' := Aside0.mk H
                        clear H
                        have p209 : 0 ≤ (x5_1 : Int) := of_decide_eq_true (by first | (with_reducible assumption) | assumption)
                        have q209 : x5_1 < (l0.length : Int) := of_decide_eq_true (by first | (with_reducible assumption) | assumption)
                        obtain ⟨ad209, e209, hx209_0⟩ := Kd.at_int HR0.out x5_1 p209 q209
                        cases e209
                        replace hx209_0 := (HB.out.cell (World.block_lt_of_cell? w _ hx209_0)).trans hx209_0
                        replace p209 := eq_true p209
                        replace q209 := eq_true q209
                        go_wp2_with (first | ((with_reducible refine gate_dst (N := 24) rfl ?_); refine Kd.R_lit (Kd.int .u8) _ 5 ?hg (N := 24) ?hd (xs := ([] : List Int)) (inner := []) (ok := fun _ => True) (okp := fun _ => True) ?hr ?hp (fun _ hk => hk) trivial (Below.refl _ _) (Nat.le_refl _) (by simp) ?_; (case hd => rfl); (case hg => rfl); (case hr => first | (go_simp; done) | (go_simp; rfl)); (case hp => exact (Reps.none _ _)); intro v211 w23 ho24 hb hg_ hnew_; clear hg_ hnew_; (first | rw [← Ny210.out] at ho24 | (simp only [Int.reduceToNat] at ho24; rw [← Ny210.out] at ho24)); have n0_ := Aside0.mk (Kd.S_elder' (by (with_reducible repeat (first | apply Kd.S_alloc | apply Kd.S_drewN | apply Kd.S_drew)); exact HO_3.out) (Kd.R_base ho24) hb); have n1_ := Aside0.mk (Kd.R_lower ho24 (below_size (by repeat (first | (with_reducible first | exact HB.out | apply below_alloc | apply pw_below_drewN | apply below_drew1) | exact HB.out)))); have n2_ := Aside0.mk (below_step (by repeat (first | (with_reducible first | exact HB.out | apply below_alloc | apply pw_below_drewN | apply below_drew1) | exact HB.out)) hb); clear HO_3; clear HB; have HO_3 := n0_; have HO212 := n1_; have HB := n2_; clear n0_ n1_ n2_; clear hb ho24; obtain ⟨i025, hi025, _, hsz25, _⟩ := info_parts info5; obtain ⟨A25, hcut25, hA25, hC25⟩ := print_mid_of (P := Try.prog) (Value.int .u8) 0 22 5 .i64 .i64 Try.underlying22 hi025 hsz25 (some ad209) c0 l0 x4_1 x5_1 (of_decide_eq_true (by first | (with_reducible assumption) | assumption)) (by first | omega | exact of_decide_eq_true (by first | (with_reducible assumption) | assumption)) (of_decide_eq_true (by first | (with_reducible assumption) | assumption)) HC0.out; have HR213 := Aside0.mk (Kd.C_of_reads (h1 := fun _ => rfl) (hA25 _ (Kd.reads_of_C HR0.out))); have HC213 := Aside0.mk hC25; clear hA25 hC25 hi025 hsz25) | ((with_reducible refine gate_builtin (b := .append) (xs := #[.tmp 24, .tmp 28]) rfl ?_); at_builtin; refine Kd.R_append_rows (Kd.int .u8) (w0 := w) w.heap.size rfl (.tmp 24) (.tmp 28) 22 5 (.int .u8 0) 1 rfl Try.underlying22 info5 rfl (by decide) (by omega) v211 y210 ((l0.take (x5_1 : Int).toNat).drop (x4_1 : Int).toNat) _ _ _ (fun _ => True) (fun _ => False) rfl rfl ?aO ?aR (fun _ _ h => h) (fun _ h => h.elim) ?aF ?aB ?aS ?aL ?_; (case aR => first | (rw [← show ((l0.take (x5_1 : Int).toNat).drop (x4_1 : Int).toNat).length = (x5_1.toNat - x4_1.toNat) from (by rw [List.length_drop, List.length_take]; have h_ : (x5_1 : Int) ≤ (l0.length : Int) := of_decide_eq_true (by first | (with_reducible assumption) | assumption); omega)]; repeat (first | exact (Kd.C_below HR213.out HB.out) | (with_reducible refine Kd.C_alloc ?_ _) | (with_reducible refine Kd.C_drewN ?_ _) | (with_reducible refine Kd.C_drew ?_))) | (repeat (first | exact (Kd.C_below HR213.out HB.out) | (with_reducible refine Kd.C_alloc ?_ _) | (with_reducible refine Kd.C_drewN ?_ _) | (with_reducible refine Kd.C_drew ?_)))); (case aB => exact (by repeat (first | (with_reducible first | exact HB.out | apply below_alloc | apply pw_below_drewN | apply below_drew1) | exact HB.out))); (case aF => exact (fun _ _ => trivial)); (case aO => exact (by (with_reducible repeat (first | apply Kd.R_alloc | apply Kd.R_drewN | apply Kd.R_drew)); exact HO212.out)); (case aS => exact (below_size (by repeat (first | (with_reducible first | exact HB.out | apply below_alloc | apply pw_below_drewN | apply below_drew1) | exact HB.out)))); (case aL => have := LMc21.out; have hlx_ := (show ((l0.take (x5_1 : Int).toNat).drop (x4_1 : Int).toNat).length = (x5_1.toNat - x4_1.toNat) from (by rw [List.length_drop, List.length_take]; have h_ : (x5_1 : Int) ≤ (l0.length : Int) := of_decide_eq_true (by first | (with_reducible assumption) | assumption); omega)); omega); intro v215 w26 ho hb hg hat; rw [← Ny214.out] at ho; have n0_ := Aside0.mk (Kd.S_after (ok := (fun _ => True)) (by (with_reducible repeat (first | apply Kd.S_alloc | apply Kd.S_drewN | apply Kd.S_drew)); exact HO_3.out) hg hat); have n1_ := Aside0.mk (hb); have n2_ := Aside0.mk (ho); clear HO_3; clear HB; clear HO212; have HO_3 := n0_; have HB := n1_; have HO216 := n2_; clear n0_ n1_ n2_; clear ho hb hg hat; obtain ⟨Ao28, co28, eo28⟩ := Kd.R_slice HO216.out; subst eo28) | ((with_reducible refine gate_builtin (b := .append) (xs := #[.tmp 30, .tmp 32]) rfl ?_); at_builtin; refine Kd.S_append (Kd.slice 5 (Kd.int .u8)) (w0 := w) w.heap.size rfl (.tmp 30) (.tmp 32) 58 22 (.slice none 0 0) 24 rfl Try.underlying58 info22 rfl (by decide) (by omega) u3 x3_1 y214 [.slice Ao28 y214.length co28] (fun _ => True) (fun k_ => some k_ = (.slice Ao28 y214.length co28 : Value).ownBlock) rfl rfl ?aP (fun k_ hk_ => ((Kd.R_mono (ok' := fun k_ => ((fun _ => True)) k_ ∧ some k_ ≠ (u3 : Value).ownBlock) (Kd.R_apart' (HO216.out) (Kd.S_typed HO_3.out) (by decide)) (fun k_ hk => ⟨trivial, hk.2⟩))).1 k_ hk_.symm) ?aF ?aO ?aB ?aS ?aL ?_; (case aP => exact Kd.M_row (Kd.R_mono (Kd.R_tight rfl (Kd.R_mono (ok' := fun k_ => ((fun _ => True)) k_ ∧ some k_ ≠ (u3 : Value).ownBlock) (Kd.R_apart' (HO216.out) (Kd.S_typed HO_3.out) (by decide)) (fun k_ hk => ⟨trivial, hk.2⟩))) (fun _ h_ => h_))); (case aB => exact (by repeat (first | (with_reducible first | exact HB.out | apply below_alloc | apply pw_below_drewN | apply below_drew1) | exact HB.out))); (case aF => exact (fun _ _ => trivial)); (case aO => exact (by (with_reducible repeat (first | apply Kd.S_alloc | apply Kd.S_drewN | apply Kd.S_drew)); exact Kd.S_mono HO_3.out (fun k_ hk => ⟨trivial, fun e_ => hk.2 e_⟩))); (case aS => exact (below_size (by repeat (first | (with_reducible first | exact HB.out | apply below_alloc | apply pw_below_drewN | apply below_drew1) | exact HB.out)))); (case aL => have := LMc22.out; omega); intro v218 w27 ho hb hg hat; rw [← Ny217.out] at ho; have n0_ := Aside0.mk (hb); have n1_ := Aside0.mk (ho); clear HB; clear HO_3; clear HO216; have HB := n0_; have HO219 := n1_; clear n0_ n1_; clear ho hb hg hat))
                        go_roundg k1
                        case measure => have := HK1.out; omega
                        case rel => exact ⟨(y217), (wrap64 (x5_1 + 1)), (wrap64 (x5_1 + 1)), (by first | rfl | (simp; done) | (simp [*]; done)), (by first | rfl | (simp; done) | (simp [*]; done)), H', ⟨by have := HK1.out; omega⟩, ⟨by (with_reducible repeat (first | apply Kd.S_alloc | apply Kd.S_drewN | apply Kd.S_drew)); exact HO219.out⟩, ⟨by repeat (first | (with_reducible first | exact HB.out | apply below_alloc | apply pw_below_drewN | apply below_drew1) | exact HB.out)⟩⟩
                      · rw [if_neg c22] at H
                        exact absurd H (by simp)
                    · rw [if_neg c21] at H
                      exact absurd H (by simp)
                  · rw [if_neg c19] at H
                    exact absurd H (by simp)
                · rw [if_neg c18] at H
                  exact absurd H (by simp)
              · rw [if_neg c17] at H
                have c17b0 : ((rd l0 x5_1) == 10) = false := beq_eq_false_iff_ne.mpr c17
                have c17b1 : ((rd l0 x5_1) != 10) = true := bne_iff_ne.mpr c17
                have H' := Aside0.mk H
                clear H
                have p209 : 0 ≤ (x5_1 : Int) := of_decide_eq_true (by first | (with_reducible assumption) | assumption)
                have q209 : x5_1 < (l0.length : Int) := of_decide_eq_true (by first | (with_reducible assumption) | assumption)
                obtain ⟨ad209, e209, hx209_0⟩ := Kd.at_int HR0.out x5_1 p209 q209
                cases e209
                replace hx209_0 := (HB.out.cell (World.block_lt_of_cell? w _ hx209_0)).trans hx209_0
                replace p209 := eq_true p209
                replace q209 := eq_true q209
                go_wp2
                go_roundg k1
                case measure => have := HK1.out; omega
                case rel => exact ⟨(x3_1), (x4_1), (wrap64 (x5_1 + 1)), (by first | rfl | (simp; done) | (simp [*]; done)), (by first | rfl | (simp; done) | (simp [*]; done)), H', ⟨by have := HK1.out; omega⟩, ⟨by (with_reducible repeat (first | apply Kd.S_alloc | apply Kd.S_drewN | apply Kd.S_drew)); exact HO_3.out⟩, ⟨by repeat (first | (with_reducible first | exact HB.out | apply below_alloc | apply pw_below_drewN | apply below_drew1) | exact HB.out)⟩⟩
            · rw [if_neg c16] at H
              exact absurd H (by simp)
          · rw [if_neg c15] at H
            exact absurd H (by simp)
      · rw [if_neg c2] at H
        have c2b0 : decide (x5_1 ≤ (l0.length : Int)) = false := decide_eq_false c2
        clear c2
        obtain rfl := Option.some.inj H
        go_wp2
        go_ret
        exact ⟨_, by first | rfl | (simp [errW_none, errW_some] <;> rfl) | (simp [*, errW_none, errW_some] <;> rfl), by (with_reducible repeat (first | apply Kd.S_alloc | apply Kd.S_drewN | apply Kd.S_drew)); exact HO_3.out, by repeat (first | (with_reducible first | exact HB.out | apply below_alloc | apply pw_below_drewN | apply below_drew1) | exact HB.out)⟩

/-! ### quoinref10_empty: function 29 -/
def quoinref10_empty.f (l0 : List (List Int)) (a1 : Int) : Option (Bool) := if a1 ≥ 0 then (if a1 < (l0.length : Int) then (if 0 ≤ a1 then (some (((rd_L2 l0 a1).length : Int) == 0)) else (none)) else (some false)) else (some false)
set_option maxHeartbeats 8000000 in
set_option maxRecDepth 100000 in
theorem quoinref10_empty.calls (A0 : Option Addr) (c0 : Nat) (l0 : List (List Int)) (a1 : Int) (r : Bool) (w : World) (hr0 : Kd.C (Kd.slice 5 (Kd.int .u8)) w A0 l0.length l0) (hc0 : l0.length ≤ c0) (h : quoinref10_empty.f l0 a1 = some r) :
    Calls Try.prog 29 #[.slice A0 l0.length c0, .int .i64 a1] w fun e w' => e = .returned (.bool r) ∧ Drawn0 w w' := by
  have HR0 := Aside0.mk hr0
  have HC0 := Aside0.mk hc0
  clear hr0 hc0
  have H : (if a1 ≥ 0 then (if a1 < (l0.length : Int) then (if 0 ≤ a1 then (some (((rd_L2 l0 a1).length : Int) == 0)) else (none)) else (some false)) else (some false)) = some r := h
  clear h
  by_cases c3 : a1 ≥ 0
  · rw [if_pos c3] at H
    have c3b0 : decide (0 ≤ a1) = true := decide_eq_true c3
    clear c3
    by_cases c4 : a1 < (l0.length : Int)
    · rw [if_pos c4] at H
      have c4b0 : decide (a1 < (l0.length : Int)) = true := decide_eq_true c4
      clear c4
      by_cases c5 : 0 ≤ a1
      · rw [if_pos c5] at H
        have c5b0 : decide (0 ≤ a1) = true := decide_eq_true c5
        clear c5
        obtain rfl := Option.some.inj H
        have p220 : 0 ≤ (a1 : Int) := of_decide_eq_true (by first | (with_reducible assumption) | assumption)
        have q220 : a1 < (l0.length : Int) := of_decide_eq_true (by first | (with_reducible assumption) | assumption)
        obtain ⟨ad220, A220_0, c220_0, e220, hx220_0, hl220_0, hi220_0⟩ := at_L2 HR0.out a1 p220 q220
        cases e220
        have HR220_0 := Aside0.mk hi220_0
        have HC220_0 := Aside0.mk hl220_0
        clear hi220_0 hl220_0
        replace p220 := eq_true p220
        replace q220 := eq_true q220
        go_enter Try.func29, Try.ntmps29
        go_wp2
        go_ret
        exact ⟨by first | rfl | (simp; done) | (simp [*]; done) | (simp [Int.tdiv_eq_ediv_of_nonneg]; done), by repeat (first | exact Drawn0.refl _ | apply Drawn0.step)⟩
      · rw [if_neg c5] at H
        exact absurd H (by simp)
    · rw [if_neg c4] at H
      have c4b0 : decide (a1 < (l0.length : Int)) = false := decide_eq_false c4
      clear c4
      obtain rfl := Option.some.inj H
      go_enter Try.func29, Try.ntmps29
      go_wp2
      go_ret
      exact ⟨by first | rfl | (simp; done) | (simp [*]; done) | (simp [Int.tdiv_eq_ediv_of_nonneg]; done), by repeat (first | exact Drawn0.refl _ | apply Drawn0.step)⟩
  · rw [if_neg c3] at H
    have c3b0 : decide (0 ≤ a1) = false := decide_eq_false c3
    clear c3
    obtain rfl := Option.some.inj H
    go_enter Try.func29, Try.ntmps29
    go_wp2
    go_ret
    exact ⟨by first | rfl | (simp; done) | (simp [*]; done) | (simp [Int.tdiv_eq_ediv_of_nonneg]; done), by repeat (first | exact Drawn0.refl _ | apply Drawn0.step)⟩

/-! ### quoinref10_Paragraphs: function 18 -/
mutual
def quoinref10_Paragraphs.l0 : Nat → Bool → List (List Int) → List Int → Int → Int → Option (List Int)
  | 0, _, _, _, _, _ => none
  | k + 1, x1, x5, x6, x7, x8 => if x8 < (x5.length : Int) then (if x1 = true then (quoinref10_Paragraphs.j1 k x1 x5 x6 x7 x8 (wrap64 (x8 - 1))) else (quoinref10_Paragraphs.j1 k x1 x5 x6 x7 x8 (wrap64 (x8 + 1)))) else (some x6)
def quoinref10_Paragraphs.j1 : Nat → Bool → List (List Int) → List Int → Int → Int → Int → Option (List Int)
  | 0, _, _, _, _, _, _ => none
  | k + 1, x1, x5, x6, x7, x8, x9 => (quoinref10_empty.f x5 x8).bind fun t224 => (if t224 = true then (if x9 ≥ 0 then (if x9 < (x5.length : Int) then ((quoinref10_empty.f x5 x9).bind fun t225 => (if t225 = true then (if 0 ≤ x8 then (if x8 < (x5.length : Int) then (quoinref10_Paragraphs.l0 k x1 x5 x6 (wrap64 ((wrap64 (x7 + ((rd_L2 x5 x8).length : Int))) + 1)) (wrap64 (x8 + 1))) else (none)) else (none)) else (if x6.length < 17592186044416 then (if 0 ≤ x8 then (if x8 < (x5.length : Int) then (quoinref10_Paragraphs.l0 k x1 x5 (x6 ++ [x7]) (wrap64 ((wrap64 (x7 + ((rd_L2 x5 x8).length : Int))) + 1)) (wrap64 (x8 + 1))) else (none)) else (none)) else (none)))) else (if 0 ≤ x8 then (if x8 < (x5.length : Int) then (quoinref10_Paragraphs.l0 k x1 x5 x6 (wrap64 ((wrap64 (x7 + ((rd_L2 x5 x8).length : Int))) + 1)) (wrap64 (x8 + 1))) else (none)) else (none))) else (if 0 ≤ x8 then (if x8 < (x5.length : Int) then (quoinref10_Paragraphs.l0 k x1 x5 x6 (wrap64 ((wrap64 (x7 + ((rd_L2 x5 x8).length : Int))) + 1)) (wrap64 (x8 + 1))) else (none)) else (none))) else (if 0 ≤ x8 then (if x8 < (x5.length : Int) then (quoinref10_Paragraphs.l0 k x1 x5 x6 (wrap64 ((wrap64 (x7 + ((rd_L2 x5 x8).length : Int))) + 1)) (wrap64 (x8 + 1))) else (none)) else (none)))
end
def quoinref10_Paragraphs.f (k : Nat) (l0 : List Int) (a1 : Bool) : Option (List Int) := (quoinref05_Split.f k l0).bind fun t221 => (quoinref10_Paragraphs.l0 k a1 t221 ([] : List Int) 0 0)
theorem quoinref10_Paragraphs.mono_l : ∀ k, (∀ y0 y1 y2 y3 y4, LeO (quoinref10_Paragraphs.l0 k y0 y1 y2 y3 y4) (quoinref10_Paragraphs.l0 (k + 1) y0 y1 y2 y3 y4)) ∧ (∀ y0 y1 y2 y3 y4 y5, LeO (quoinref10_Paragraphs.j1 k y0 y1 y2 y3 y4 y5) (quoinref10_Paragraphs.j1 (k + 1) y0 y1 y2 y3 y4 y5))
  | 0 => ⟨fun _ _ _ _ _ r h => by simp [quoinref10_Paragraphs.l0] at h, fun _ _ _ _ _ _ r h => by simp [quoinref10_Paragraphs.j1] at h⟩
  | k + 1 => by
    obtain ⟨ih0, ih1⟩ := quoinref10_Paragraphs.mono_l k
    refine ⟨?_, ?_⟩
    · intro y0 y1 y2 y3 y4
      unfold quoinref10_Paragraphs.l0
      repeat' first
      | (with_reducible exact ih0 _ _ _ _ _)
      | (with_reducible exact ih1 _ _ _ _ _ _)
      | (with_reducible exact quoinref05_Split.mono _ _)
      | (with_reducible exact LeO.refl _)
      | (with_reducible exact LeO.none _)
      | (with_reducible refine LeO.ite ?_ ?_)
      | (with_reducible refine LeO.bind ?_ (fun _ => ?_))
      | exact ih0 _ _ _ _ _
      | exact ih1 _ _ _ _ _ _
      | exact quoinref05_Split.mono _ _
      | exact LeO.none _
      | refine LeO.ite ?_ ?_
      | refine LeO.bind ?_ (fun _ => ?_)
    · intro y0 y1 y2 y3 y4 y5
      unfold quoinref10_Paragraphs.j1
      repeat' first
      | (with_reducible exact ih0 _ _ _ _ _)
      | (with_reducible exact ih1 _ _ _ _ _ _)
      | (with_reducible exact quoinref05_Split.mono _ _)
      | (with_reducible exact LeO.refl _)
      | (with_reducible exact LeO.none _)
      | (with_reducible refine LeO.ite ?_ ?_)
      | (with_reducible refine LeO.bind ?_ (fun _ => ?_))
      | exact ih0 _ _ _ _ _
      | exact ih1 _ _ _ _ _ _
      | exact quoinref05_Split.mono _ _
      | exact LeO.none _
      | refine LeO.ite ?_ ?_
      | refine LeO.bind ?_ (fun _ => ?_)
theorem quoinref10_Paragraphs.mono : ∀ a0 a1 k, LeO (quoinref10_Paragraphs.f k a0 a1) (quoinref10_Paragraphs.f (k + 1) a0 a1) := by
  intro a0 a1 k
  obtain ⟨ih0, ih1⟩ := quoinref10_Paragraphs.mono_l k
  unfold quoinref10_Paragraphs.f
  repeat' first
      | (with_reducible exact ih0 _ _ _ _ _)
      | (with_reducible exact ih1 _ _ _ _ _ _)
      | (with_reducible exact quoinref05_Split.mono _ _)
      | (with_reducible exact LeO.refl _)
      | (with_reducible exact LeO.none _)
      | (with_reducible refine LeO.ite ?_ ?_)
      | (with_reducible refine LeO.bind ?_ (fun _ => ?_))
      | exact ih0 _ _ _ _ _
      | exact ih1 _ _ _ _ _ _
      | exact quoinref05_Split.mono _ _
      | exact LeO.none _
      | refine LeO.ite ?_ ?_
      | refine LeO.bind ?_ (fun _ => ?_)
set_option maxHeartbeats 8000000 in
set_option maxRecDepth 100000 in
theorem quoinref10_Paragraphs.calls (k : Nat) (A0 : Option Addr) (c0 : Nat) (l0 : List Int) (a1 : Bool) (r : List Int) (w : World) (hr0 : Kd.C (Kd.int .u8) w A0 l0.length l0) (hc0 : l0.length ≤ c0) (h : quoinref10_Paragraphs.f k l0 a1 = some r) :
    Calls Try.prog 18 #[.slice A0 l0.length c0, .bool a1] w fun e w' => ∃ v0_ : Value, e = .returned (v0_) ∧ Kd.R (Kd.int .i64) 3 w' w.heap.size (fun _ => True) v0_ r ∧ Below w.heap.size w w' := by
  have HR0 := Aside0.mk hr0
  have HC0 := Aside0.mk hc0
  clear hr0 hc0
  have HB := Aside0.mk (Below.refl w.heap.size w)
  have H : ((quoinref05_Split.f k l0).bind fun t221 => (quoinref10_Paragraphs.l0 k a1 t221 ([] : List Int) 0 0)) = some r := h
  clear h
  replace H := Option.bind_eq_some_iff.mp H
  obtain ⟨t221, A30, H⟩ := H
  replace H : (quoinref10_Paragraphs.l0 k a1 t221 ([] : List Int) 0 0) = some r := H
  have A3 := Aside0.mk A30
  clear A30
  have H' := Aside0.mk H
  clear H
  go_enter Try.func18, Try.ntmps18
  go_wp2_with (first | ((with_reducible refine gate_callee (f := 28) rfl ?_); refine goesL_ (some 11) rfl rfl Try.func28 (by kernel_rfl) rfl #[.slice A0 l0.length c0] rfl (by (try simp only [List.map_toArray, List.map_cons, List.map_nil]); first | done | rfl | (simp only [List.length_drop, List.length_take]; rfl)) ?_; (with_reducible refine (quoinref05_Split.calls k _ _ l0 t221 _ ?side1 ?side2 A3.out).mono ?_); (case side1 => repeat (first | exact HR0.out | (with_reducible refine Kd.C_alloc ?_ _) | (with_reducible refine Kd.C_drewN ?_ _) | (with_reducible refine Kd.C_drew ?_))); (case side2 => exact HC0.out); rintro e w4 ⟨v222, rfl, ho0, hb⟩; refine ⟨_, rfl, ?_⟩; have n0_ := Aside0.mk (Kd.S_lower ho0 (below_size (by repeat (first | (with_reducible first | exact HB.out | apply below_alloc | apply pw_below_drewN | apply below_drew1) | exact HB.out)))); have n1_ := Aside0.mk (below_step (by repeat (first | (with_reducible first | exact HB.out | apply below_alloc | apply pw_below_drewN | apply below_drew1) | exact HB.out)) hb); clear HB; have HO223 := n0_; have HB := n1_; clear n0_ n1_; (try clear hb); (try clear hb2); (try clear hk); (try clear hi); (try clear ho0)))
  go_loopg [6, 7, 8] k (fun kq v6 v7 v8 w' => ∃ (x6_1 : List Int) (x7_1 : Int) (x8_1 : Int), v7 = .int .i64 x7_1 ∧ v8 = .int .i64 x8_1 ∧ Aside0 (quoinref10_Paragraphs.l0 kq a1 t221 x6_1 x7_1 x8_1 = some r) ∧ Aside0 (kq ≤ k) ∧ Aside0 (Kd.S (Kd.slice 5 (Kd.int .u8)) 22 w' w.heap.size (fun _ => True) v222 t221) ∧ Aside0 (Kd.R (Kd.int .i64) 3 w' w.heap.size (fun _ => True) v6 x6_1) ∧ Aside0 (Below w.heap.size w w'))
  case atStart => exact ⟨(([] : List Int)), (0), (0), (by first | rfl | (simp; done) | (simp [*]; done)), (by first | rfl | (simp; done) | (simp [*]; done)), H', ⟨Nat.le_refl _⟩, ⟨by (with_reducible repeat (first | apply Kd.S_alloc | apply Kd.S_drewN | apply Kd.S_drew)); exact HO223.out⟩, ⟨by first | exact Kd.R_nil _ _ _ _ _ | exact Kd.N_nil _ _ _ _ _ | exact Kd.V_nil _ _ _ _ _ | exact Kd.Q_nil _ _ _ _ _ | exact Kd.S_nil _ _ _ _ _⟩, ⟨by repeat (first | (with_reducible first | exact HB.out | apply below_alloc | apply pw_below_drewN | apply below_drew1) | exact HB.out)⟩⟩
  case round =>
    clear H'
    try clear c1
    try clear c2
    try clear p2
    obtain ⟨x6_1, x7_1, x8_1, rfl, rfl, HA, HK1, HO_5, HO_6, HB⟩ := hrel
    cases gk with
    | zero => exact absurd HA.out (by simp [quoinref10_Paragraphs.l0])
    | succ k1 =>
      have H := HA.out
      clear HA
      simp only [quoinref10_Paragraphs.l0] at H
      by_cases c5 : x8_1 < (t221.length : Int)
      · rw [if_pos c5] at H
        have c5b0 : decide (x8_1 < (t221.length : Int)) = true := decide_eq_true c5
        clear c5
        have HC6 := Aside0.mk H
        clear H
        obtain ⟨Ao7, co7, eo7⟩ := Kd.S_slice HO_5.out
        subst eo7
        go_upto_if 20 with (fail)
        go_cut [9] (fun v9 wc => ∃ (kq : Nat) (x9_5 : Int), v9 = .int .i64 x9_5 ∧ Aside0 (quoinref10_Paragraphs.j1 kq a1 t221 x6_1 x7_1 x8_1 x9_5 = some r) ∧ Aside0 (kq ≤ k1) ∧ Aside0 (Kd.S (Kd.slice 5 (Kd.int .u8)) 22 wc w.heap.size (fun _ => True) (.slice Ao7 t221.length co7) t221) ∧ Aside0 (Kd.R (Kd.int .i64) 3 wc w.heap.size (fun _ => True) u6 x6_1) ∧ Aside0 (Below w.heap.size w wc))
        case first =>
          have H := HC6.out
          clear HC6
          by_cases c8 : a1 = true
          · subst c8
            have H1 : (quoinref10_Paragraphs.j1 k1 true t221 x6_1 x7_1 x8_1 (wrap64 (x8_1 - 1))) = some r := by rw [if_pos rfl] at H; exact H
            clear H
            have H := H1
            clear H1
            have H' := Aside0.mk H
            clear H
            go_wp2
            go_meet
            case rel => exact ⟨_, (wrap64 (x8_1 - 1)), (by first | rfl | (simp; done) | (simp [*]; done)), H', ⟨by have := HK1.out; first | omega | exact Nat.le_refl _⟩, ⟨by (with_reducible repeat (first | apply Kd.S_alloc | apply Kd.S_drewN | apply Kd.S_drew)); exact HO_5.out⟩, ⟨by (with_reducible repeat (first | apply Kd.R_alloc | apply Kd.R_drewN | apply Kd.R_drew)); exact HO_6.out⟩, ⟨by repeat (first | (with_reducible first | exact HB.out | apply below_alloc | apply pw_below_drewN | apply below_drew1) | exact HB.out)⟩⟩
          · replace c8 := Bool.eq_false_iff.mpr c8
            subst c8
            have H1 : (quoinref10_Paragraphs.j1 k1 false t221 x6_1 x7_1 x8_1 (wrap64 (x8_1 + 1))) = some r := by rw [if_neg (show ¬ (false = true) by decide)] at H; exact H
            clear H
            have H := H1
            clear H1
            have H' := Aside0.mk H
            clear H
            go_wp2
            go_meet
            case rel => exact ⟨_, (wrap64 (x8_1 + 1)), (by first | rfl | (simp; done) | (simp [*]; done)), H', ⟨by have := HK1.out; first | omega | exact Nat.le_refl _⟩, ⟨by (with_reducible repeat (first | apply Kd.S_alloc | apply Kd.S_drewN | apply Kd.S_drew)); exact HO_5.out⟩, ⟨by (with_reducible repeat (first | apply Kd.R_alloc | apply Kd.R_drewN | apply Kd.R_drew)); exact HO_6.out⟩, ⟨by repeat (first | (with_reducible first | exact HB.out | apply below_alloc | apply pw_below_drewN | apply below_drew1) | exact HB.out)⟩⟩
        case rest =>
          clear HC6
          try clear c1
          try clear c2
          try clear p2
          try clear c5
          try clear c5b0
          try clear p6
          try clear c8
          try clear p2
          obtain ⟨kq, x9_5, rfl, HA, HJ5, HO_5, HO_6, HB⟩ := hcut
          cases kq with
          | zero => exact absurd HA.out (by simp [quoinref10_Paragraphs.j1])
          | succ kj5 =>
            have H := HA.out
            clear HA
            simp only [quoinref10_Paragraphs.j1] at H
            replace H := Option.bind_eq_some_iff.mp H
            obtain ⟨t224, A90, H⟩ := H
            replace H : (if t224 = true then (if x9_5 ≥ 0 then (if x9_5 < (t221.length : Int) then ((quoinref10_empty.f t221 x9_5).bind fun t225 => (if t225 = true then (if 0 ≤ x8_1 then (if x8_1 < (t221.length : Int) then (quoinref10_Paragraphs.l0 kj5 a1 t221 x6_1 (wrap64 ((wrap64 (x7_1 + ((rd_L2 t221 x8_1).length : Int))) + 1)) (wrap64 (x8_1 + 1))) else (none)) else (none)) else (if x6_1.length < 17592186044416 then (if 0 ≤ x8_1 then (if x8_1 < (t221.length : Int) then (quoinref10_Paragraphs.l0 kj5 a1 t221 (x6_1 ++ [x7_1]) (wrap64 ((wrap64 (x7_1 + ((rd_L2 t221 x8_1).length : Int))) + 1)) (wrap64 (x8_1 + 1))) else (none)) else (none)) else (none)))) else (if 0 ≤ x8_1 then (if x8_1 < (t221.length : Int) then (quoinref10_Paragraphs.l0 kj5 a1 t221 x6_1 (wrap64 ((wrap64 (x7_1 + ((rd_L2 t221 x8_1).length : Int))) + 1)) (wrap64 (x8_1 + 1))) else (none)) else (none))) else (if 0 ≤ x8_1 then (if x8_1 < (t221.length : Int) then (quoinref10_Paragraphs.l0 kj5 a1 t221 x6_1 (wrap64 ((wrap64 (x7_1 + ((rd_L2 t221 x8_1).length : Int))) + 1)) (wrap64 (x8_1 + 1))) else (none)) else (none))) else (if 0 ≤ x8_1 then (if x8_1 < (t221.length : Int) then (quoinref10_Paragraphs.l0 kj5 a1 t221 x6_1 (wrap64 ((wrap64 (x7_1 + ((rd_L2 t221 x8_1).length : Int))) + 1)) (wrap64 (x8_1 + 1))) else (none)) else (none))) = some r := H
            have A9 := Aside0.mk A90
            clear A90
            by_cases c10 : t224 = true
            · subst c10
              have H1 : (if x9_5 ≥ 0 then (if x9_5 < (t221.length : Int) then ((quoinref10_empty.f t221 x9_5).bind fun t225 => (if t225 = true then (if 0 ≤ x8_1 then (if x8_1 < (t221.length : Int) then (quoinref10_Paragraphs.l0 kj5 a1 t221 x6_1 (wrap64 ((wrap64 (x7_1 + ((rd_L2 t221 x8_1).length : Int))) + 1)) (wrap64 (x8_1 + 1))) else (none)) else (none)) else (if x6_1.length < 17592186044416 then (if 0 ≤ x8_1 then (if x8_1 < (t221.length : Int) then (quoinref10_Paragraphs.l0 kj5 a1 t221 (x6_1 ++ [x7_1]) (wrap64 ((wrap64 (x7_1 + ((rd_L2 t221 x8_1).length : Int))) + 1)) (wrap64 (x8_1 + 1))) else (none)) else (none)) else (none)))) else (if 0 ≤ x8_1 then (if x8_1 < (t221.length : Int) then (quoinref10_Paragraphs.l0 kj5 a1 t221 x6_1 (wrap64 ((wrap64 (x7_1 + ((rd_L2 t221 x8_1).length : Int))) + 1)) (wrap64 (x8_1 + 1))) else (none)) else (none))) else (if 0 ≤ x8_1 then (if x8_1 < (t221.length : Int) then (quoinref10_Paragraphs.l0 kj5 a1 t221 x6_1 (wrap64 ((wrap64 (x7_1 + ((rd_L2 t221 x8_1).length : Int))) + 1)) (wrap64 (x8_1 + 1))) else (none)) else (none))) = some r := by rw [if_pos rfl] at H; exact H
              clear H
              have H := H1
              clear H1
              by_cases c11 : x9_5 ≥ 0
              · rw [if_pos c11] at H
                have c11b0 : decide (0 ≤ x9_5) = true := decide_eq_true c11
                clear c11
                by_cases c12 : x9_5 < (t221.length : Int)
                · rw [if_pos c12] at H
                  have c12b0 : decide (x9_5 < (t221.length : Int)) = true := decide_eq_true c12
                  clear c12
                  replace H := Option.bind_eq_some_iff.mp H
                  obtain ⟨t225, A130, H⟩ := H
                  replace H : (if t225 = true then (if 0 ≤ x8_1 then (if x8_1 < (t221.length : Int) then (quoinref10_Paragraphs.l0 kj5 a1 t221 x6_1 (wrap64 ((wrap64 (x7_1 + ((rd_L2 t221 x8_1).length : Int))) + 1)) (wrap64 (x8_1 + 1))) else (none)) else (none)) else (if x6_1.length < 17592186044416 then (if 0 ≤ x8_1 then (if x8_1 < (t221.length : Int) then (quoinref10_Paragraphs.l0 kj5 a1 t221 (x6_1 ++ [x7_1]) (wrap64 ((wrap64 (x7_1 + ((rd_L2 t221 x8_1).length : Int))) + 1)) (wrap64 (x8_1 + 1))) else (none)) else (none)) else (none))) = some r := H
                  have A13 := Aside0.mk A130
                  clear A130
                  by_cases c14 : t225 = true
                  · subst c14
                    have H1 : (if 0 ≤ x8_1 then (if x8_1 < (t221.length : Int) then (quoinref10_Paragraphs.l0 kj5 a1 t221 x6_1 (wrap64 ((wrap64 (x7_1 + ((rd_L2 t221 x8_1).length : Int))) + 1)) (wrap64 (x8_1 + 1))) else (none)) else (none)) = some r := by rw [if_pos rfl] at H; exact H
                    clear H
                    have H := H1
                    clear H1
                    by_cases c15 : 0 ≤ x8_1
                    · rw [if_pos c15] at H
                      have c15b0 : decide (0 ≤ x8_1) = true := decide_eq_true c15
                      clear c15
                      by_cases c16 : x8_1 < (t221.length : Int)
                      · rw [if_pos c16] at H
                        have c16b0 : decide (x8_1 < (t221.length : Int)) = true := decide_eq_true c16
                        clear c16
                        have H' := Aside0.mk H
                        clear H
                        go_wp2_with (first | ((with_reducible refine gate_callee (f := 29) rfl ?_); refine goesL_ (some 25) rfl rfl Try.func29 (by kernel_rfl) rfl #[.slice Ao7 t221.length co7, .int .i64 x8_1] rfl (by (try simp only [List.map_toArray, List.map_cons, List.map_nil]); first | done | rfl | (simp only [List.length_drop, List.length_take]; rfl)) ?_; (with_reducible refine (quoinref10_empty.calls _ _ t221 x8_1 true _ ?side1 ?side2 A9.out).mono ?_); (case side1 => repeat (first | exact (Kd.S_reads' HO_5.out).2.2 | (with_reducible refine Kd.C_alloc ?_ _) | (with_reducible refine Kd.C_drewN ?_ _) | (with_reducible refine Kd.C_drew ?_))); (case side2 => exact (Kd.S_reads' HO_5.out).2.1); rintro e w' ⟨rfl, ⟨nd, rfl⟩⟩; refine ⟨_, rfl, ?_⟩) | (go_at_call 29; (with_reducible refine (quoinref10_empty.calls _ _ t221 x9_5 true _ ?side1 ?side2 A13.out).mono ?_); (case side1 => repeat (first | exact (Kd.S_reads' HO_5.out).2.2 | (with_reducible refine Kd.C_alloc ?_ _) | (with_reducible refine Kd.C_drewN ?_ _) | (with_reducible refine Kd.C_drew ?_))); (case side2 => exact (Kd.S_reads' HO_5.out).2.1); rintro e w' ⟨rfl, ⟨nd, rfl⟩⟩; have p226 : 0 ≤ (x8_1 : Int) := of_decide_eq_true (by first | (with_reducible assumption) | assumption); have q226 : x8_1 < (t221.length : Int) := of_decide_eq_true (by first | (with_reducible assumption) | assumption); obtain ⟨ad226, A226_0, c226_0, e226, hx226_0, hl226_0, hi226_0⟩ := at_L2 (Kd.S_reads' HO_5.out).2.2 x8_1 p226 q226; cases e226; obtain ⟨ce226, hce226, hMe226, hcc226⟩ := Kd.S_get HO_5.out [] x8_1 p226 (by first | exact q226 | exact of_decide_eq_true (by first | (with_reducible assumption) | assumption) | (have e_ := (Kd.S_reads' HO_5.out).1; omega)); obtain ⟨ve226_0, rfl, ge226_0⟩ := hMe226; have hv226_0 := hcc226 0 _ rfl; rw [Nat.add_zero, show ((Kd.slice 5 (Kd.int .u8))).sz = 1 from rfl, Nat.mul_one] at hv226_0; replace hv226_0 := Option.some.inj (hv226_0.symm.trans hx226_0); rw [hv226_0] at ge226_0; have HL226_0 := Aside0.mk (show Kd.R (Kd.int .u8) 5 _ _ _ _ (rd_L2 t221 x8_1) from ge226_0); clear hv226_0 ge226_0; clear hcc226 hce226; have HR226_0 := Aside0.mk hi226_0; have HC226_0 := Aside0.mk hl226_0; clear hi226_0 hl226_0; replace p226 := eq_true p226; replace q226 := eq_true q226))
                        go_roundg kj5
                        case measure => have := HK1.out; have := HJ5.out; omega
                        case rel => exact ⟨(x6_1), (wrap64 ((wrap64 (x7_1 + ((rd_L2 t221 x8_1).length : Int))) + 1)), (wrap64 (x8_1 + 1)), (by first | rfl | (simp; done) | (simp [*]; done)), (by first | rfl | (simp; done) | (simp [*]; done)), H', ⟨by have := HK1.out; have := HJ5.out; omega⟩, ⟨by (with_reducible repeat (first | apply Kd.S_alloc | apply Kd.S_drewN | apply Kd.S_drew)); exact HO_5.out⟩, ⟨by (with_reducible repeat (first | apply Kd.R_alloc | apply Kd.R_drewN | apply Kd.R_drew)); exact HO_6.out⟩, ⟨by repeat (first | (with_reducible first | exact HB.out | apply below_alloc | apply pw_below_drewN | apply below_drew1) | exact HB.out)⟩⟩
                      · rw [if_neg c16] at H
                        exact absurd H (by simp)
                    · rw [if_neg c15] at H
                      exact absurd H (by simp)
                  · replace c14 := Bool.eq_false_iff.mpr c14
                    subst c14
                    have H1 : (if x6_1.length < 17592186044416 then (if 0 ≤ x8_1 then (if x8_1 < (t221.length : Int) then (quoinref10_Paragraphs.l0 kj5 a1 t221 (x6_1 ++ [x7_1]) (wrap64 ((wrap64 (x7_1 + ((rd_L2 t221 x8_1).length : Int))) + 1)) (wrap64 (x8_1 + 1))) else (none)) else (none)) else (none)) = some r := by rw [if_neg (show ¬ (false = true) by decide)] at H; exact H
                    clear H
                    have H := H1
                    clear H1
                    by_cases c17 : x6_1.length < 17592186044416
                    · rw [if_pos c17] at H
                      have LMc17 := Aside0.mk c17
                      clear c17
                      obtain ⟨y227, hy227⟩ : ∃ y_ : List Int, y_ = (x6_1 ++ [x7_1]) := ⟨_, rfl⟩
                      replace H : (if 0 ≤ x8_1 then (if x8_1 < (t221.length : Int) then (quoinref10_Paragraphs.l0 kj5 a1 t221 y227 (wrap64 ((wrap64 (x7_1 + ((rd_L2 t221 x8_1).length : Int))) + 1)) (wrap64 (x8_1 + 1))) else (none)) else (none)) = some r := by first | (rw [hy227]; with_reducible exact H) | (have H2_ := (Option.bind_some _ _).symm.trans H; rw [hy227]; with_reducible exact H2_) | (have H2_ := (Option.bind_some _ _).symm.trans H; with_reducible exact H2_) | with_reducible exact H | (rw [hy227]; exact H) | exact H
                      have Ny227 := Aside0.mk hy227
                      clear hy227
                      by_cases c18 : 0 ≤ x8_1
                      · rw [if_pos c18] at H
                        have c18b0 : decide (0 ≤ x8_1) = true := decide_eq_true c18
                        clear c18
                        by_cases c19 : x8_1 < (t221.length : Int)
                        · rw [if_pos c19] at H
                          have c19b0 : decide (x8_1 < (t221.length : Int)) = true := decide_eq_true c19
                          clear c19
                          have H' := Aside0.mk H
                          clear H
                          go_wp2_with (first | ((with_reducible refine gate_callee (f := 29) rfl ?_); refine goesL_ (some 25) rfl rfl Try.func29 (by kernel_rfl) rfl #[.slice Ao7 t221.length co7, .int .i64 x8_1] rfl (by (try simp only [List.map_toArray, List.map_cons, List.map_nil]); first | done | rfl | (simp only [List.length_drop, List.length_take]; rfl)) ?_; (with_reducible refine (quoinref10_empty.calls _ _ t221 x8_1 true _ ?side1 ?side2 A9.out).mono ?_); (case side1 => repeat (first | exact (Kd.S_reads' HO_5.out).2.2 | (with_reducible refine Kd.C_alloc ?_ _) | (with_reducible refine Kd.C_drewN ?_ _) | (with_reducible refine Kd.C_drew ?_))); (case side2 => exact (Kd.S_reads' HO_5.out).2.1); rintro e w' ⟨rfl, ⟨nd, rfl⟩⟩; refine ⟨_, rfl, ?_⟩) | (go_at_call 29; (with_reducible refine (quoinref10_empty.calls _ _ t221 x9_5 false _ ?side1 ?side2 A13.out).mono ?_); (case side1 => repeat (first | exact (Kd.S_reads' HO_5.out).2.2 | (with_reducible refine Kd.C_alloc ?_ _) | (with_reducible refine Kd.C_drewN ?_ _) | (with_reducible refine Kd.C_drew ?_))); (case side2 => exact (Kd.S_reads' HO_5.out).2.1); rintro e w' ⟨rfl, ⟨nd, rfl⟩⟩) | ((with_reducible refine gate_builtin (b := .append) (xs := #[.tmp 42, .tmp 44]) rfl ?_); (try (refine gate_guard (by rfl) ?_; dsimp only)); at_builtin; refine Kd.R_append (Kd.int .i64) (w0 := w) w.heap.size rfl (.tmp 42) (.tmp 44) 46 3 (.int .i64 0) 8 rfl Try.underlying46 info3 rfl (by decide) (by omega) u6 x6_1 x7_1 [.int .i64 x7_1] (fun _ => True) (fun _ => False) rfl rfl ?aP (fun _ hk => hk.elim) ?aF ?aO ?aB ?aS ?aL ?_; (case aP => exact rfl); (case aB => exact (by repeat (first | (with_reducible first | exact HB.out | apply below_alloc | apply pw_below_drewN | apply below_drew1) | exact HB.out))); (case aF => exact (fun _ _ => trivial)); (case aO => exact (by (with_reducible repeat (first | apply Kd.R_alloc | apply Kd.R_drewN | apply Kd.R_drew)); exact HO_6.out)); (case aS => exact (below_size (by repeat (first | (with_reducible first | exact HB.out | apply below_alloc | apply pw_below_drewN | apply below_drew1) | exact HB.out)))); (case aL => have := LMc17.out; omega); intro v228 w20 ho hb hg hat; rw [← Ny227.out] at ho; have n0_ := Aside0.mk (Kd.S_over' (by (with_reducible repeat (first | apply Kd.S_alloc | apply Kd.S_drewN | apply Kd.S_drew)); exact HO_5.out) (Kd.R_typed (by (with_reducible repeat (first | apply Kd.R_alloc | apply Kd.R_drewN | apply Kd.R_drew)); exact HO_6.out)) (by decide) hg); have n1_ := Aside0.mk (hb); have n2_ := Aside0.mk (ho); clear HO_5; clear HB; clear HO_6; have HO_5 := n0_; have HB := n1_; have HO229 := n2_; clear n0_ n1_ n2_; clear ho hb hg hat; have p230 : 0 ≤ (x8_1 : Int) := of_decide_eq_true (by first | (with_reducible assumption) | assumption); have q230 : x8_1 < (t221.length : Int) := of_decide_eq_true (by first | (with_reducible assumption) | assumption); obtain ⟨ad230, A230_0, c230_0, e230, hx230_0, hl230_0, hi230_0⟩ := at_L2 (Kd.S_reads' HO_5.out).2.2 x8_1 p230 q230; cases e230; obtain ⟨ce230, hce230, hMe230, hcc230⟩ := Kd.S_get HO_5.out [] x8_1 p230 (by first | exact q230 | exact of_decide_eq_true (by first | (with_reducible assumption) | assumption) | (have e_ := (Kd.S_reads' HO_5.out).1; omega)); obtain ⟨ve230_0, rfl, ge230_0⟩ := hMe230; have hv230_0 := hcc230 0 _ rfl; rw [Nat.add_zero, show ((Kd.slice 5 (Kd.int .u8))).sz = 1 from rfl, Nat.mul_one] at hv230_0; replace hv230_0 := Option.some.inj (hv230_0.symm.trans hx230_0); rw [hv230_0] at ge230_0; have HL230_0 := Aside0.mk (show Kd.R (Kd.int .u8) 5 _ _ _ _ (rd_L2 t221 x8_1) from ge230_0); clear hv230_0 ge230_0; clear hcc230 hce230; have HR230_0 := Aside0.mk hi230_0; have HC230_0 := Aside0.mk hl230_0; clear hi230_0 hl230_0; replace p230 := eq_true p230; replace q230 := eq_true q230))
                          go_roundg kj5
                          case measure => have := HK1.out; have := HJ5.out; omega
                          case rel => exact ⟨(y227), (wrap64 ((wrap64 (x7_1 + ((rd_L2 t221 x8_1).length : Int))) + 1)), (wrap64 (x8_1 + 1)), (by first | rfl | (simp; done) | (simp [*]; done)), (by first | rfl | (simp; done) | (simp [*]; done)), H', ⟨by have := HK1.out; have := HJ5.out; omega⟩, ⟨by (with_reducible repeat (first | apply Kd.S_alloc | apply Kd.S_drewN | apply Kd.S_drew)); exact HO_5.out⟩, ⟨by (with_reducible repeat (first | apply Kd.R_alloc | apply Kd.R_drewN | apply Kd.R_drew)); exact HO229.out⟩, ⟨by repeat (first | (with_reducible first | exact HB.out | apply below_alloc | apply pw_below_drewN | apply below_drew1) | exact HB.out)⟩⟩
                        · rw [if_neg c19] at H
                          exact absurd H (by simp)
                      · rw [if_neg c18] at H
                        exact absurd H (by simp)
                    · rw [if_neg c17] at H
                      exact absurd H (by simp)
                · rw [if_neg c12] at H
                  have c12b0 : decide (x9_5 < (t221.length : Int)) = false := decide_eq_false c12
                  clear c12
                  by_cases c21 : 0 ≤ x8_1
                  · rw [if_pos c21] at H
                    have c21b0 : decide (0 ≤ x8_1) = true := decide_eq_true c21
                    clear c21
                    by_cases c22 : x8_1 < (t221.length : Int)
                    · rw [if_pos c22] at H
                      have c22b0 : decide (x8_1 < (t221.length : Int)) = true := decide_eq_true c22
                      clear c22
                      have H' := Aside0.mk H
                      clear H
                      go_wp2_with (first | ((with_reducible refine gate_callee (f := 29) rfl ?_); refine goesL_ (some 25) rfl rfl Try.func29 (by kernel_rfl) rfl #[.slice Ao7 t221.length co7, .int .i64 x8_1] rfl (by (try simp only [List.map_toArray, List.map_cons, List.map_nil]); first | done | rfl | (simp only [List.length_drop, List.length_take]; rfl)) ?_; (with_reducible refine (quoinref10_empty.calls _ _ t221 x8_1 true _ ?side1 ?side2 A9.out).mono ?_); (case side1 => repeat (first | exact (Kd.S_reads' HO_5.out).2.2 | (with_reducible refine Kd.C_alloc ?_ _) | (with_reducible refine Kd.C_drewN ?_ _) | (with_reducible refine Kd.C_drew ?_))); (case side2 => exact (Kd.S_reads' HO_5.out).2.1); rintro e w' ⟨rfl, ⟨nd, rfl⟩⟩; refine ⟨_, rfl, ?_⟩; have p231 : 0 ≤ (x8_1 : Int) := of_decide_eq_true (by first | (with_reducible assumption) | assumption); have q231 : x8_1 < (t221.length : Int) := of_decide_eq_true (by first | (with_reducible assumption) | assumption); obtain ⟨ad231, A231_0, c231_0, e231, hx231_0, hl231_0, hi231_0⟩ := at_L2 (Kd.S_reads' HO_5.out).2.2 x8_1 p231 q231; cases e231; obtain ⟨ce231, hce231, hMe231, hcc231⟩ := Kd.S_get HO_5.out [] x8_1 p231 (by first | exact q231 | exact of_decide_eq_true (by first | (with_reducible assumption) | assumption) | (have e_ := (Kd.S_reads' HO_5.out).1; omega)); obtain ⟨ve231_0, rfl, ge231_0⟩ := hMe231; have hv231_0 := hcc231 0 _ rfl; rw [Nat.add_zero, show ((Kd.slice 5 (Kd.int .u8))).sz = 1 from rfl, Nat.mul_one] at hv231_0; replace hv231_0 := Option.some.inj (hv231_0.symm.trans hx231_0); rw [hv231_0] at ge231_0; have HL231_0 := Aside0.mk (show Kd.R (Kd.int .u8) 5 _ _ _ _ (rd_L2 t221 x8_1) from ge231_0); clear hv231_0 ge231_0; clear hcc231 hce231; have HR231_0 := Aside0.mk hi231_0; have HC231_0 := Aside0.mk hl231_0; clear hi231_0 hl231_0; replace p231 := eq_true p231; replace q231 := eq_true q231))
                      go_roundg kj5
                      case measure => have := HK1.out; have := HJ5.out; omega
                      case rel => exact ⟨(x6_1), (wrap64 ((wrap64 (x7_1 + ((rd_L2 t221 x8_1).length : Int))) + 1)), (wrap64 (x8_1 + 1)), (by first | rfl | (simp; done) | (simp [*]; done)), (by first | rfl | (simp; done) | (simp [*]; done)), H', ⟨by have := HK1.out; have := HJ5.out; omega⟩, ⟨by (with_reducible repeat (first | apply Kd.S_alloc | apply Kd.S_drewN | apply Kd.S_drew)); exact HO_5.out⟩, ⟨by (with_reducible repeat (first | apply Kd.R_alloc | apply Kd.R_drewN | apply Kd.R_drew)); exact HO_6.out⟩, ⟨by repeat (first | (with_reducible first | exact HB.out | apply below_alloc | apply pw_below_drewN | apply below_drew1) | exact HB.out)⟩⟩
                    · rw [if_neg c22] at H
                      exact absurd H (by simp)
                  · rw [if_neg c21] at H
                    exact absurd H (by simp)
              · rw [if_neg c11] at H
                have c11b0 : decide (0 ≤ x9_5) = false := decide_eq_false c11
                clear c11
                by_cases c23 : 0 ≤ x8_1
                · rw [if_pos c23] at H
                  have c23b0 : decide (0 ≤ x8_1) = true := decide_eq_true c23
                  clear c23
                  by_cases c24 : x8_1 < (t221.length : Int)
                  · rw [if_pos c24] at H
                    have c24b0 : decide (x8_1 < (t221.length : Int)) = true := decide_eq_true c24
                    clear c24
                    have H' := Aside0.mk H
                    clear H
                    go_wp2_with (first | ((with_reducible refine gate_callee (f := 29) rfl ?_); refine goesL_ (some 25) rfl rfl Try.func29 (by kernel_rfl) rfl #[.slice Ao7 t221.length co7, .int .i64 x8_1] rfl (by (try simp only [List.map_toArray, List.map_cons, List.map_nil]); first | done | rfl | (simp only [List.length_drop, List.length_take]; rfl)) ?_; (with_reducible refine (quoinref10_empty.calls _ _ t221 x8_1 true _ ?side1 ?side2 A9.out).mono ?_); (case side1 => repeat (first | exact (Kd.S_reads' HO_5.out).2.2 | (with_reducible refine Kd.C_alloc ?_ _) | (with_reducible refine Kd.C_drewN ?_ _) | (with_reducible refine Kd.C_drew ?_))); (case side2 => exact (Kd.S_reads' HO_5.out).2.1); rintro e w' ⟨rfl, ⟨nd, rfl⟩⟩; refine ⟨_, rfl, ?_⟩; have p232 : 0 ≤ (x8_1 : Int) := of_decide_eq_true (by first | (with_reducible assumption) | assumption); have q232 : x8_1 < (t221.length : Int) := of_decide_eq_true (by first | (with_reducible assumption) | assumption); obtain ⟨ad232, A232_0, c232_0, e232, hx232_0, hl232_0, hi232_0⟩ := at_L2 (Kd.S_reads' HO_5.out).2.2 x8_1 p232 q232; cases e232; obtain ⟨ce232, hce232, hMe232, hcc232⟩ := Kd.S_get HO_5.out [] x8_1 p232 (by first | exact q232 | exact of_decide_eq_true (by first | (with_reducible assumption) | assumption) | (have e_ := (Kd.S_reads' HO_5.out).1; omega)); obtain ⟨ve232_0, rfl, ge232_0⟩ := hMe232; have hv232_0 := hcc232 0 _ rfl; rw [Nat.add_zero, show ((Kd.slice 5 (Kd.int .u8))).sz = 1 from rfl, Nat.mul_one] at hv232_0; replace hv232_0 := Option.some.inj (hv232_0.symm.trans hx232_0); rw [hv232_0] at ge232_0; have HL232_0 := Aside0.mk (show Kd.R (Kd.int .u8) 5 _ _ _ _ (rd_L2 t221 x8_1) from ge232_0); clear hv232_0 ge232_0; clear hcc232 hce232; have HR232_0 := Aside0.mk hi232_0; have HC232_0 := Aside0.mk hl232_0; clear hi232_0 hl232_0; replace p232 := eq_true p232; replace q232 := eq_true q232))
                    go_roundg kj5
                    case measure => have := HK1.out; have := HJ5.out; omega
                    case rel => exact ⟨(x6_1), (wrap64 ((wrap64 (x7_1 + ((rd_L2 t221 x8_1).length : Int))) + 1)), (wrap64 (x8_1 + 1)), (by first | rfl | (simp; done) | (simp [*]; done)), (by first | rfl | (simp; done) | (simp [*]; done)), H', ⟨by have := HK1.out; have := HJ5.out; omega⟩, ⟨by (with_reducible repeat (first | apply Kd.S_alloc | apply Kd.S_drewN | apply Kd.S_drew)); exact HO_5.out⟩, ⟨by (with_reducible repeat (first | apply Kd.R_alloc | apply Kd.R_drewN | apply Kd.R_drew)); exact HO_6.out⟩, ⟨by repeat (first | (with_reducible first | exact HB.out | apply below_alloc | apply pw_below_drewN | apply below_drew1) | exact HB.out)⟩⟩
                  · rw [if_neg c24] at H
                    exact absurd H (by simp)
                · rw [if_neg c23] at H
                  exact absurd H (by simp)
            · replace c10 := Bool.eq_false_iff.mpr c10
              subst c10
              have H1 : (if 0 ≤ x8_1 then (if x8_1 < (t221.length : Int) then (quoinref10_Paragraphs.l0 kj5 a1 t221 x6_1 (wrap64 ((wrap64 (x7_1 + ((rd_L2 t221 x8_1).length : Int))) + 1)) (wrap64 (x8_1 + 1))) else (none)) else (none)) = some r := by rw [if_neg (show ¬ (false = true) by decide)] at H; exact H
              clear H
              have H := H1
              clear H1
              by_cases c25 : 0 ≤ x8_1
              · rw [if_pos c25] at H
                have c25b0 : decide (0 ≤ x8_1) = true := decide_eq_true c25
                clear c25
                by_cases c26 : x8_1 < (t221.length : Int)
                · rw [if_pos c26] at H
                  have c26b0 : decide (x8_1 < (t221.length : Int)) = true := decide_eq_true c26
                  clear c26
                  have H' := Aside0.mk H
                  clear H
                  go_wp2_with (first | ((with_reducible refine gate_callee (f := 29) rfl ?_); refine goesL_ (some 25) rfl rfl Try.func29 (by kernel_rfl) rfl #[.slice Ao7 t221.length co7, .int .i64 x8_1] rfl (by (try simp only [List.map_toArray, List.map_cons, List.map_nil]); first | done | rfl | (simp only [List.length_drop, List.length_take]; rfl)) ?_; (with_reducible refine (quoinref10_empty.calls _ _ t221 x8_1 false _ ?side1 ?side2 A9.out).mono ?_); (case side1 => repeat (first | exact (Kd.S_reads' HO_5.out).2.2 | (with_reducible refine Kd.C_alloc ?_ _) | (with_reducible refine Kd.C_drewN ?_ _) | (with_reducible refine Kd.C_drew ?_))); (case side2 => exact (Kd.S_reads' HO_5.out).2.1); rintro e w' ⟨rfl, ⟨nd, rfl⟩⟩; refine ⟨_, rfl, ?_⟩; have p233 : 0 ≤ (x8_1 : Int) := of_decide_eq_true (by first | (with_reducible assumption) | assumption); have q233 : x8_1 < (t221.length : Int) := of_decide_eq_true (by first | (with_reducible assumption) | assumption); obtain ⟨ad233, A233_0, c233_0, e233, hx233_0, hl233_0, hi233_0⟩ := at_L2 (Kd.S_reads' HO_5.out).2.2 x8_1 p233 q233; cases e233; obtain ⟨ce233, hce233, hMe233, hcc233⟩ := Kd.S_get HO_5.out [] x8_1 p233 (by first | exact q233 | exact of_decide_eq_true (by first | (with_reducible assumption) | assumption) | (have e_ := (Kd.S_reads' HO_5.out).1; omega)); obtain ⟨ve233_0, rfl, ge233_0⟩ := hMe233; have hv233_0 := hcc233 0 _ rfl; rw [Nat.add_zero, show ((Kd.slice 5 (Kd.int .u8))).sz = 1 from rfl, Nat.mul_one] at hv233_0; replace hv233_0 := Option.some.inj (hv233_0.symm.trans hx233_0); rw [hv233_0] at ge233_0; have HL233_0 := Aside0.mk (show Kd.R (Kd.int .u8) 5 _ _ _ _ (rd_L2 t221 x8_1) from ge233_0); clear hv233_0 ge233_0; clear hcc233 hce233; have HR233_0 := Aside0.mk hi233_0; have HC233_0 := Aside0.mk hl233_0; clear hi233_0 hl233_0; replace p233 := eq_true p233; replace q233 := eq_true q233))
                  go_roundg kj5
                  case measure => have := HK1.out; have := HJ5.out; omega
                  case rel => exact ⟨(x6_1), (wrap64 ((wrap64 (x7_1 + ((rd_L2 t221 x8_1).length : Int))) + 1)), (wrap64 (x8_1 + 1)), (by first | rfl | (simp; done) | (simp [*]; done)), (by first | rfl | (simp; done) | (simp [*]; done)), H', ⟨by have := HK1.out; have := HJ5.out; omega⟩, ⟨by (with_reducible repeat (first | apply Kd.S_alloc | apply Kd.S_drewN | apply Kd.S_drew)); exact HO_5.out⟩, ⟨by (with_reducible repeat (first | apply Kd.R_alloc | apply Kd.R_drewN | apply Kd.R_drew)); exact HO_6.out⟩, ⟨by repeat (first | (with_reducible first | exact HB.out | apply below_alloc | apply pw_below_drewN | apply below_drew1) | exact HB.out)⟩⟩
                · rw [if_neg c26] at H
                  exact absurd H (by simp)
              · rw [if_neg c25] at H
                exact absurd H (by simp)
      · rw [if_neg c5] at H
        have c5b0 : decide (x8_1 < (t221.length : Int)) = false := decide_eq_false c5
        clear c5
        obtain rfl := Option.some.inj H
        obtain ⟨Ao27, co27, eo27⟩ := Kd.S_slice HO_5.out
        subst eo27
        go_wp2
        go_ret
        exact ⟨_, by first | rfl | (simp [errW_none, errW_some] <;> rfl) | (simp [*, errW_none, errW_some] <;> rfl), by (with_reducible repeat (first | apply Kd.R_alloc | apply Kd.R_drewN | apply Kd.R_drew)); exact HO_6.out, by repeat (first | (with_reducible first | exact HB.out | apply below_alloc | apply pw_below_drewN | apply below_drew1) | exact HB.out)⟩

/-! ### quoinref10_blank: function 30 -/
def quoinref10_blank.f (a0 : Int) : Option (Bool) := if a0 = 32 then (some true) else (some (a0 == 9))
set_option maxHeartbeats 8000000 in
set_option maxRecDepth 100000 in
theorem quoinref10_blank.calls (a0 : Int) (r : Bool) (w : World) (h : quoinref10_blank.f a0 = some r) :
    Calls Try.prog 30 #[.int .u8 a0] w fun e w' => e = .returned (.bool r) ∧ Drawn0 w w' := by
  have H : (if a0 = 32 then (some true) else (some (a0 == 9))) = some r := h
  clear h
  by_cases c2 : a0 = 32
  · rw [if_pos c2] at H
    have c2b0 : (a0 == 32) = true := beq_iff_eq.mpr c2
    have c2b1 : (a0 != 32) = false := bne_eq_false_iff_eq.mpr c2
    clear c2
    obtain rfl := Option.some.inj H
    go_enter Try.func30, Try.ntmps30
    go_wp2
    go_ret
    exact ⟨by first | rfl | (simp; done) | (simp [*]; done) | (simp [Int.tdiv_eq_ediv_of_nonneg]; done), by repeat (first | exact Drawn0.refl _ | apply Drawn0.step)⟩
  · rw [if_neg c2] at H
    have c2b0 : (a0 == 32) = false := beq_eq_false_iff_ne.mpr c2
    have c2b1 : (a0 != 32) = true := bne_iff_ne.mpr c2
    obtain rfl := Option.some.inj H
    go_enter Try.func30, Try.ntmps30
    go_wp2
    go_ret
    exact ⟨by first | rfl | (simp; done) | (simp [*]; done) | (simp [Int.tdiv_eq_ediv_of_nonneg]; done), by repeat (first | exact Drawn0.refl _ | apply Drawn0.step)⟩

/-! ### quoinref10_closing: function 46 -/
def quoinref10_closing.f (a0 : Int) : Option (Bool) := if a0 = 41 then (some true) else (if a0 = 93 then (some true) else (if a0 = 34 then (some true) else (some (a0 == 39))))
set_option maxHeartbeats 8000000 in
set_option maxRecDepth 100000 in
theorem quoinref10_closing.calls (a0 : Int) (r : Bool) (w : World) (h : quoinref10_closing.f a0 = some r) :
    Calls Try.prog 46 #[.int .u8 a0] w fun e w' => e = .returned (.bool r) ∧ Drawn0 w w' := by
  have H : (if a0 = 41 then (some true) else (if a0 = 93 then (some true) else (if a0 = 34 then (some true) else (some (a0 == 39))))) = some r := h
  clear h
  by_cases c2 : a0 = 41
  · rw [if_pos c2] at H
    have c2b0 : (a0 == 41) = true := beq_iff_eq.mpr c2
    have c2b1 : (a0 != 41) = false := bne_eq_false_iff_eq.mpr c2
    clear c2
    obtain rfl := Option.some.inj H
    go_enter Try.func46, Try.ntmps46
    go_wp2
    go_ret
    exact ⟨by first | rfl | (simp; done) | (simp [*]; done) | (simp [Int.tdiv_eq_ediv_of_nonneg]; done), by repeat (first | exact Drawn0.refl _ | apply Drawn0.step)⟩
  · rw [if_neg c2] at H
    have c2b0 : (a0 == 41) = false := beq_eq_false_iff_ne.mpr c2
    have c2b1 : (a0 != 41) = true := bne_iff_ne.mpr c2
    by_cases c3 : a0 = 93
    · rw [if_pos c3] at H
      have c3b0 : (a0 == 93) = true := beq_iff_eq.mpr c3
      have c3b1 : (a0 != 93) = false := bne_eq_false_iff_eq.mpr c3
      clear c3
      obtain rfl := Option.some.inj H
      go_enter Try.func46, Try.ntmps46
      go_wp2
      go_ret
      exact ⟨by first | rfl | (simp; done) | (simp [*]; done) | (simp [Int.tdiv_eq_ediv_of_nonneg]; done), by repeat (first | exact Drawn0.refl _ | apply Drawn0.step)⟩
    · rw [if_neg c3] at H
      have c3b0 : (a0 == 93) = false := beq_eq_false_iff_ne.mpr c3
      have c3b1 : (a0 != 93) = true := bne_iff_ne.mpr c3
      by_cases c4 : a0 = 34
      · rw [if_pos c4] at H
        have c4b0 : (a0 == 34) = true := beq_iff_eq.mpr c4
        have c4b1 : (a0 != 34) = false := bne_eq_false_iff_eq.mpr c4
        clear c4
        obtain rfl := Option.some.inj H
        go_enter Try.func46, Try.ntmps46
        go_wp2
        go_ret
        exact ⟨by first | rfl | (simp; done) | (simp [*]; done) | (simp [Int.tdiv_eq_ediv_of_nonneg]; done), by repeat (first | exact Drawn0.refl _ | apply Drawn0.step)⟩
      · rw [if_neg c4] at H
        have c4b0 : (a0 == 34) = false := beq_eq_false_iff_ne.mpr c4
        have c4b1 : (a0 != 34) = true := bne_iff_ne.mpr c4
        obtain rfl := Option.some.inj H
        go_enter Try.func46, Try.ntmps46
        go_wp2
        go_ret
        exact ⟨by first | rfl | (simp; done) | (simp [*]; done) | (simp [Int.tdiv_eq_ediv_of_nonneg]; done), by repeat (first | exact Drawn0.refl _ | apply Drawn0.step)⟩

end Go.Proofs.Ytjaopgjhmojpnaa.X
