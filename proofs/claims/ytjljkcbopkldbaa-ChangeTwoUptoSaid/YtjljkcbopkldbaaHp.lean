/-
  bytes.Equal, bytes.HasPrefix and the reference's fits, as the print wrote them, ahead of the contracts that lean on them. No condition.
-/
import Derived.Test.YtjljkcbopkldbaaX0
namespace Go.Proofs.Ytjljkcbopkldbaa.Hp
open Go.RowKit Go.Proofs.YtjljkcbopkldbaaW.PrintWords Go.Proofs.YtjljkcbopkldbaaW.PrintLast Go.Proofs.YtjljkcbopkldbaaW.PrintMore Go.Proofs.Ytjljkcbopkldbaa.X
attribute [local go_sem] max2_int min2_int max_two min_two max_three min_three max_four min_four
set_option linter.unusedVariables false
set_option linter.unusedSimpArgs false

/-! ### bytes_Equal: function 79 -/
def bytes_Equal.f (l0 : List Int) (l1 : List Int) : Option (Bool) := some ((strOfNums l0).toList == (strOfNums l1).toList)
set_option maxHeartbeats 8000000 in
set_option maxRecDepth 100000 in
theorem bytes_Equal.calls (A0 : Option Addr) (c0 : Nat) (l0 : List Int) (A1 : Option Addr) (c1 : Nat) (l1 : List Int) (r : Bool) (w : World) (hr0 : Kd.C (Kd.int .u8) w A0 l0.length l0) (hc0 : l0.length ≤ c0) (hr1 : Kd.C (Kd.int .u8) w A1 l1.length l1) (hc1 : l1.length ≤ c1) (h : bytes_Equal.f l0 l1 = some r) :
    Calls Try.prog 79 #[.slice A0 l0.length c0, .slice A1 l1.length c1] w fun e w' => e = .returned (.bool r) ∧ Drawn0 w w' := by
  have HR0 := Aside0.mk hr0
  have HC0 := Aside0.mk hc0
  clear hr0 hc0
  have HR1 := Aside0.mk hr1
  have HC1 := Aside0.mk hc1
  clear hr1 hc1
  have H : (some ((strOfNums l0).toList == (strOfNums l1).toList)) = some r := h
  clear h
  obtain rfl := Option.some.inj H
  have hcv3 := Kd.C_string (P := Try.prog) (A := A0) (c := c0) Try.underlying72 Try.underlying5 Try.underlying9 HR0.out
  have hcv4 := Kd.C_string (P := Try.prog) (A := A1) (c := c1) Try.underlying72 Try.underlying5 Try.underlying9 HR1.out
  go_enter Try.func79, Try.ntmps79
  go_wp2
  go_ret
  exact ⟨by first | rfl | (simp; done) | (simp [*]; done), by repeat (first | exact Drawn0.refl _ | apply Drawn0.step)⟩

def hpB (l0 l1 : List Int) : Bool := decide (l1.length ≤ l0.length) && ((strOfNums (l0.take l1.length)).toList == (strOfNums l1).toList)

set_option maxHeartbeats 8000000 in
set_option maxRecDepth 100000 in
theorem hasPrefix (A0 : Option Addr) (c0 : Nat) (l0 : List Int) (A1 : Option Addr) (c1 : Nat) (l1 : List Int) (w : World) (hr0 : Kd.C (Kd.int .u8) w A0 l0.length l0) (hc0 : l0.length ≤ c0) (hr1 : Kd.C (Kd.int .u8) w A1 l1.length l1) (hc1 : l1.length ≤ c1) :
    Calls Try.prog 81 #[.slice A0 l0.length c0, .slice A1 l1.length c1] w fun e w' => e = .returned (.bool (hpB l0 l1)) ∧ Drawn0 w w' := by
  by_cases c3 : l1.length ≤ l0.length
  · obtain ⟨tk, htk⟩ : ∃ tk, tk = l0.take ((l1.length : Int)).toNat := ⟨_, rfl⟩
    have hres : hpB l0 l1 = ((strOfNums tk).toList == (strOfNums l1).toList) := by
      unfold hpB; rw [htk]; simp [c3]
    rw [hres]
    obtain ⟨i07, hi07, _, hsz7, _⟩ := info_parts info5
    obtain ⟨hcut7, hA7, hC7⟩ := print_take_of (P := Try.prog) (Value.int .u8) 0 72 5 .i64 Try.underlying72 hi07 hsz7 A0 c0 l0 (l1.length : Int) (by omega) (by omega) hc0
    have HR1 := Aside0.mk (Kd.C_of_reads (h1 := fun _ => rfl) (hA7 _ (Kd.reads_of_C hr0)))
    rw [← htk] at hcut7 hC7 HR1
    have HR0 := Aside0.mk hr0
    have HR2 := Aside0.mk hr1
    have HC1 := Aside0.mk hc1
    have HC7 := Aside0.mk hC7
    have ht : (l1.length : Int) ≤ (l0.length : Int) := by omega
    have ht1 : decide ((l1.length : Int) ≤ (l0.length : Int)) = true := decide_eq_true ht
    have ht2 : decide (l1.length ≤ l0.length) = true := decide_eq_true c3
    clear hA7 hi07 hsz7 htk hr0 hr1 hC7 hc1 hres
    go_enter Try.func81, Try.ntmps81
    go_wp2_with fail
    refine (bytes_Equal.calls _ _ tk _ _ l1 _ _ HR1.out HC7.out HR2.out HC1.out rfl).mono ?_
    rintro e w' ⟨rfl, ⟨nd, rfl⟩⟩
    go_wp2
    first | (go_ret; exact ⟨rfl, nd, rfl⟩) | exact ⟨rfl, nd, rfl⟩
  · have hres : hpB l0 l1 = false := by unfold hpB; simp [c3]
    rw [hres]
    have ht1 : decide ((l1.length : Int) ≤ (l0.length : Int)) = false := decide_eq_false (by omega)
    have ht2 : decide (l1.length ≤ l0.length) = false := decide_eq_false c3
    go_enter Try.func81, Try.ntmps81
    go_wp2
    go_ret
    exact ⟨rfl, Drawn0.refl _⟩

end Go.Proofs.Ytjljkcbopkldbaa.Hp
