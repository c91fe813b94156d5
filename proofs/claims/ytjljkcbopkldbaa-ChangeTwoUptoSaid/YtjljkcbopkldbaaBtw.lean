/-
  change_Between: one edit that holds both texts, cut down. No condition.
-/
import Derived.Test.YtjljkcbopkldbaaX3
namespace Go.Proofs.Ytjljkcbopkldbaa
open Go.RowKit Go.Proofs.YtjljkcbopkldbaaW.PrintWords Go.Proofs.YtjljkcbopkldbaaW.PrintLast Go.Proofs.YtjljkcbopkldbaaW.PrintMore Go.Proofs.Ytjljkcbopkldbaa.X
set_option linter.unusedVariables false
set_option linter.unusedSimpArgs false

def change_Between.f (k : Nat) (l0 l1 : List Int) : Option (List S84) := change_Trim.f k [⟨0, l0, l1⟩]
theorem change_Between.mono : ∀ a0 a1 k, LeO (change_Between.f k a0 a1) (change_Between.f (k + 1) a0 a1) := fun a0 a1 k => change_Trim.mono _ k

set_option maxHeartbeats 4000000 in
set_option maxRecDepth 100000 in
theorem change_Between.calls (k : Nat) (A0 : Option Addr) (c0 : Nat) (l0 : List Int) (A1 : Option Addr) (c1 : Nat) (l1 : List Int) (r : List S84) (w : World) (hr0 : Kd.C (Kd.int .u8) w A0 l0.length l0) (hc0 : l0.length ≤ c0) (hr1 : Kd.C (Kd.int .u8) w A1 l1.length l1) (hc1 : l1.length ≤ c1) (h : change_Between.f k l0 l1 = some r) :
    Calls Try.prog 45 #[.slice A0 l0.length c0, .slice A1 l1.length c1] w fun e w' => ∃ v0_ : Value, e = .returned v0_ ∧ Kd.S k84 84 w' w.heap.size (fun _ => True) v0_ r ∧ Below w.heap.size w w' := by
  have hu84 := Try.underlying84
  have hb : Below w.heap.size w (w.alloc (.cells #[.int .i64 0, .slice A0 l0.length c0, .slice A1 l1.length c1] 84)) := (Below.refl _ _).alloc (Nat.le_refl _) _
  have hrow : OwnRow (Kd.K k84 w) 84 3 (w.alloc (.cells #[.int .i64 0, .slice A0 l0.length c0, .slice A1 l1.length c1] 84)) w.heap.size (.slice (some ⟨w.heap.size, 0, none⟩) 1 1) [(⟨0, l0, l1⟩ : S84)] :=
    OwnRow.lit (ps := [(⟨0, l0, l1⟩ : S84)]) w w.heap.size (inner := [.int .i64 0, .slice A0 l0.length c0, .slice A1 l1.length c1]) (Reps.snoc (Reps.none _ _) (k84_mk w ⟨0, l0, l1⟩ hc0 hr0 hc1 hr1) rfl) (Nat.le_refl _) (by simp)
  obtain ⟨A', c', e1, hc', hC'⟩ := hrow.reads
  simp only [List.length_singleton, Value.slice.injEq] at e1
  obtain ⟨rfl, _, rfl⟩ := e1
  have hC : Kd.C k84 (w.alloc (.cells #[.int .i64 0, .slice A0 l0.length c0, .slice A1 l1.length c1] 84)) (some ⟨w.heap.size, 0, none⟩) ([(⟨0, l0, l1⟩ : S84)] : List S84).length [(⟨0, l0, l1⟩ : S84)] :=
    ⟨hC'.1, hC'.2.1, fun hn => by
      obtain ⟨ad, e, hc⟩ := hC'.2.2 hn
      refine ⟨ad, e, fun j p hj => ?_⟩
      obtain ⟨c, hs, hr, hcell⟩ := hc j p hj
      exact ⟨c, hs, k84.K_below hb hr, hcell⟩⟩
  have HC := Aside0.mk hC
  have HB := Aside0.mk hb
  have H := Aside0.mk (show change_Trim.f k [⟨0, l0, l1⟩] = some r from h)
  clear hrow hc' hC' hC hb hr0 hr1 hc0 hc1 h
  go_enter Try.func45, Try.ntmps45
  go_wp2_with fail
  refine (change_Trim.calls k (some ⟨w.heap.size, 0, none⟩) 1 [⟨0, l0, l1⟩] r _ HC.out (Nat.le_refl _) H.out).mono ?_
  rintro e w2 ⟨v, rfl, hS, hb2⟩
  have HS := Aside0.mk hS
  have HB2 := Aside0.mk hb2
  clear hS hb2
  go_wp2
  go_ret
  exact ⟨_, rfl, Kd.S_lower (Kd.S_mono HS.out (fun _ h => h)) HB.out.size, below_step HB.out HB2.out⟩

end Go.Proofs.Ytjljkcbopkldbaa
