/-
  The reference's fits: does an edit fit a text? No condition.
-/
import Derived.Test.YtjljkcbopkldbaaApp
namespace Go.Proofs.Ytjljkcbopkldbaa
open Go.RowKit Go.Proofs.YtjljkcbopkldbaaW.PrintWords Go.Proofs.YtjljkcbopkldbaaW.PrintLast Go.Proofs.YtjljkcbopkldbaaW.PrintMore Go.Proofs.Ytjljkcbopkldbaa.X
set_option linter.unusedVariables false
set_option linter.unusedSimpArgs false

set_option maxHeartbeats 4000000 in
set_option maxRecDepth 100000 in
theorem fits_calls (A0 : Option Addr) (c0 : Nat) (t : List Int) (e : S84) (A1 A2 : Option Addr) (c1 c2 : Nat) (w : World) (hr0 : Kd.C (Kd.int .u8) w A0 t.length t) (hc0 : t.length ≤ c0) (hr1 : Kd.C (Kd.int .u8) w A1 e.f1.length e.f1) (hc1 : e.f1.length ≤ c1) :
    Calls Try.prog 83 #[.slice A0 t.length c0, .agg #[.int .i64 e.f0, .slice A1 e.f1.length c1, .slice A2 e.f2.length c2]] w fun e_ w' => e_ = .returned (.bool (fitsB t e)) ∧ Below w.heap.size w w' := by
  have hu84 := Try.underlying84
  have htm : t.length ≤ 9223372036854775807 := hr0.2.1
  have hom : e.f1.length ≤ 9223372036854775807 := hr1.2.1
  have HR0 := Aside0.mk hr0
  have HR1 := Aside0.mk hr1
  have HC0 := Aside0.mk hc0
  have HC1 := Aside0.mk hc1
  clear hr0 hr1 hc0 hc1
  go_enter Try.func83, Try.ntmps83
  go_wp2_with fail
  obtain ⟨W, hW⟩ : ∃ W, W = w.alloc (.cells #[.int .i64 e.f0, .slice A1 e.f1.length c1, .slice A2 e.f2.length c2] 84) := ⟨_, rfl⟩
  rw [← hW]
  have hbW : Below w.heap.size w W := by rw [hW]; exact (Below.refl _ _).alloc (Nat.le_refl _) _
  have hy0 : W.cell? ⟨w.heap.size, 0, none⟩ = some (.int .i64 e.f0) := by rw [hW]; exact (World.cell?_alloc_at (w := w) _ _ _ 0 rfl)
  have hy1 : W.cell? ⟨w.heap.size, 1, none⟩ = some (.slice A1 e.f1.length c1) := by rw [hW]; exact (World.cell?_alloc_at (w := w) _ _ _ 1 rfl)
  have hy2 : W.cell? ⟨w.heap.size, 2, none⟩ = some (.slice A2 e.f2.length c2) := by rw [hW]; exact (World.cell?_alloc_at (w := w) _ _ _ 2 rfl)
  have HBW := Aside0.mk hbW
  have HR0w := Aside0.mk (Kd.C_below HR0.out HBW.out)
  have HR1w := Aside0.mk (Kd.C_below HR1.out HBW.out)
  obtain ⟨b, hb⟩ : ∃ b, b = w.heap.size := ⟨_, rfl⟩
  rw [← hb] at hy0 hy1 hy2 ⊢
  have HBb := Aside0.mk hb
  clear hbW hW hb
  by_cases hneg : (0 : Int) ≤ e.f0
  case neg =>
    have h1 : decide ((0 : Int) ≤ e.f0) = false := decide_eq_false hneg
    have hf : fitsB t e = false := by unfold fitsB; rw [h1]; rfl
    have HF := Aside0.mk hf
    clear hf
    go_quiet (fail)
    go_wp2
    go_ret
    exact ⟨by rw [HF.out]; rfl, pw_below_drewN HBW.out nq⟩
  have h1 : decide ((0 : Int) ≤ e.f0) = true := decide_eq_true hneg
  by_cases hlen : e.f0 ≤ (t.length : Int)
  case neg =>
    have h2 : decide (e.f0 ≤ (t.length : Int)) = false := decide_eq_false hlen
    have hf : fitsB t e = false := by unfold fitsB; rw [h1, h2]; rfl
    have HF := Aside0.mk hf
    clear hf
    go_quiet (fail)
    go_wp2
    go_ret
    exact ⟨by rw [HF.out]; rfl, pw_below_drewN HBW.out nq⟩
  have h2 : decide (e.f0 ≤ (t.length : Int)) = true := decide_eq_true hlen
  have hwr : wrap64 ((t.length : Int) - e.f0) = (t.length : Int) - e.f0 := by unfold wrap64; omega
  by_cases hold : (e.f1.length : Int) ≤ (t.length : Int) - e.f0
  case neg =>
    have h3 : decide ((e.f1.length : Int) ≤ (t.length : Int) - e.f0) = false := decide_eq_false hold
    have hf : fitsB t e = false := by
      unfold fitsB; rw [h1, h2]
      unfold Hp.hpB
      rw [decide_eq_false (by rw [List.length_drop]; omega)]
      rfl
    have HF := Aside0.mk hf
    clear hf
    go_quiet (fail)
    go_wp2
    go_ret
    exact ⟨by rw [HF.out]; rfl, pw_below_drewN HBW.out nq⟩
  have h3 : decide ((e.f1.length : Int) ≤ (t.length : Int) - e.f0) = true := decide_eq_true hold
  have hwa : wrap64 (e.f0 + (e.f1.length : Int)) = e.f0 + (e.f1.length : Int) := by unfold wrap64; omega
  obtain ⟨i07, hi07, _, hsz7, _⟩ := info_parts inf5
  obtain ⟨A', hcut, hA7, hC7⟩ := print_mid_of (P := Try.prog) (Value.int .u8) 0 72 5 .i64 .i64 Try.underlying72 hi07 hsz7 A0 c0 t e.f0 (e.f0 + (e.f1.length : Int)) hneg (by omega) (by omega) HC0.out
  have hmid : (t.take (e.f0 + (e.f1.length : Int)).toNat).drop e.f0.toNat = (t.drop e.f0.toNat).take e.f1.length := by
    rw [List.drop_take, show (e.f0 + (e.f1.length : Int)).toNat - e.f0.toNat = e.f1.length by omega]
  obtain ⟨mid, hmd⟩ : ∃ mid, mid = (t.drop e.f0.toNat).take e.f1.length := ⟨_, rfl⟩
  rw [hmid, ← hmd] at hcut hA7 hC7
  have HRm := Aside0.mk (Kd.C_of_reads (h1 := fun _ => rfl) (hA7 _ (Kd.reads_of_C HR0w.out)))
  have hcv1 := fun n => Kd.C_string (P := Try.prog) (A := A') (c := c0 - e.f0.toNat) Try.underlying72 Try.underlying5 Try.underlying9 (Kd.C_drewN HRm.out n)
  have hcv2 := fun n => Kd.C_string (P := Try.prog) (A := A1) (c := c1) Try.underlying72 Try.underlying5 Try.underlying9 (Kd.C_drewN HR1w.out n)
  have hf : fitsB t e = ((strOfNums mid).toList == (strOfNums e.f1).toList) := by
    unfold fitsB; rw [h1, h2]
    unfold Hp.hpB
    rw [decide_eq_true (by rw [List.length_drop]; omega), hmd]
    rfl
  have HF := Aside0.mk hf
  clear hf hmd hmid hA7 hC7 hi07 hsz7
  go_quiet (fail)
  go_wp2
  go_ret
  exact ⟨by rw [HF.out]; rfl, pw_below_drewN HBW.out nq⟩

end Go.Proofs.Ytjljkcbopkldbaa
