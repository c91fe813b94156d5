/-
  ChangeTwo returns true and leaves its arguments as they are, at every input whose reading is of bulk at most 1048576.
-/
import Derived.Test.YtjljkcbopkldbaaRows
import Derived.Test.YtjljkcbopkldbaaWk
import Derived.Test.YtjljkcbopkldbaaTwo
import Derived.WalkKit
import Derived.ProofKit
import Derived.OpenShut
import Derived.ShutString
import Derived.ChangeOld
import Derived.Below
import Derived.SizedLaws
import Derived.JoinedCond
import Derived.Lib.SmallJoins
import Derived.Carry
import Derived.Test.YtjljkcbopkldbaaWSized
namespace Go.Proofs.Ytjljkcbopkldbaa.changeTwo
open Go.ChangeShapes Go.WideShapes Go.ChangeAt Go.RowKit Go.Joins
open Go.ChangeMaps (open_string shut_string)
open Go.Proofs.YtjljkcbopkldbaaW.PrintWords Go.Proofs.YtjljkcbopkldbaaW.PrintLast Go.Proofs.YtjljkcbopkldbaaW.PrintMore
open Go.Proofs.Ytjljkcbopkldbaa.X Go.Proofs.Ytjljkcbopkldbaa.Pl Go.Proofs.YtjljkcbopkldbaaW.PrintMore
set_option linter.unusedVariables false
set_option linter.unusedSimpArgs false
theorem own : ownKnob Try.prog.godebug = none := by kernel_rfl
theorem laidOut : laidOutB Try.prog = true := by kernel_rfl
theorem bulkLen {H : Type} (l : List (DataW H)) : l.length ≤ Rows.uptoBulkAll l := by
  induction l with
  | nil => simp [Rows.uptoBulkAll]
  | cons x r ih =>
    have h1 : 1 ≤ Rows.uptoBulk x := by
      cases x with
      | lit l => cases l <;> simp [Rows.uptoBulk]
      | _ => simp [Rows.uptoBulk]
    simp only [Rows.uptoBulkAll, List.length_cons]; omega
theorem byteRange {l : List Int} (h : ∀ x ∈ l, (Lit.int .u8 x).wf = true) : ∀ x ∈ l, 0 ≤ x ∧ x ≤ 255 := fun x hx => by
  have := h x hx; simpa [Lit.wf, IntKind.min, IntKind.max, IntKind.signed, IntKind.bits] using this
theorem intRange {x : Int} (h : (Lit.int .i64 x).wf = true) : -9223372036854775808 ≤ x ∧ x ≤ 9223372036854775807 := by
  simpa [Lit.wf, IntKind.min, IntKind.max, IntKind.signed, IntKind.bits] using h
theorem cells86 : Try.prog.cellsOf 86 = 3 := by kernel_rfl
set_option maxRecDepth 100000 in
set_option maxHeartbeats 1000000 in
theorem contract (H : Type) (enc : TypeId × Value → H) (W : World) (base : Nat) (args : Array Value) (ds gs : List (DataW H)) (before : List MemPlace)
    (hval : ∀ (j : Nat) t v, Try.f14.params[j]? = some t → args[j]? = some v → Value.okWide Try.prog W .any base t v)
    (hW : DataW.Whole enc Try.prog Try.f14.params.toList Rows.changeTwoSpec.vars false W args.toList ds gs before) (hk : Rows.uptoSmall H (ds ++ gs) = true) :
    Calls Try.prog 14 args W fun e W' => ∃ v, e = .returned v ∧ Rows.changeTwoSpec.post enc Try.prog Try.f14 false true false false W args v W' := by
  have hW' := hW
  obtain ⟨p, q, hA0, hV, rfl, hfz, hnd⟩ := hW
  have hA : DataW.TrodAll enc Try.prog W 0 (fun _ => true) true Try.f14.params.toList args.toList ds p := hA0
  rw [Try.params14] at hA hval
  obtain ⟨v0, vs0, d0, ds0, p0, q0, hargs, rfl, rfl, h0, r0⟩ := trodAll_cons hA
  obtain ⟨rfl, rfl, rfl⟩ := trodAll_nil r0
  obtain rfl : args = #[v0] := by cases args; simp_all
  obtain ⟨rfl, rfl⟩ := trodVars_none hV
  have hbulk : Rows.uptoBulkAll ([d0] : List (DataW H)) ≤ 1048576 := of_decide_eq_true hk
  simp only [Rows.uptoBulkAll] at hbulk
  have k0 := h0
  have lt0 : ∀ x ∈ p0, x.block < W.heap.size := by obtain ⟨m, hm⟩ := k0; exact DataW.trod_lt m _ _ _ hm
  obtain ⟨x0, x1, x2, y0, y1, y2, m0, rfl, rfl, rfl, hs0, hs1, hs2⟩ := open_agg3 Try.underlying86 (by kernel_rfl) cells86 (hval 0 86 v0 rfl rfl) h0
  obtain ⟨l0, hK0, hG0, hU0, hS0⟩ := Opn.opens72.out hs0
  obtain ⟨l1, hK1, hG1, hU1, hS1⟩ := Opn.opens25.out hs1
  obtain ⟨l2, hK2, hG2, hU2, hS2⟩ := Opn.opens25.out hs2
  obtain ⟨A0, c0, hcs0, hc0, hC0⟩ := hK0
  obtain ⟨A1, c1, hcs1, hc1, hC1⟩ := hK1
  obtain ⟨A2, c2, hcs2, hc2, hC2⟩ := hK2
  simp only [List.cons.injEq, and_true] at hcs0 hcs1 hcs2
  subst hcs0 hcs1 hcs2
  simp only [Rows.uptoBulk, Rows.uptoBulkAll] at hbulk
  replace hU0 : _ ≤ Rows.uptoBulk y0.1 := hU0
  replace hU1 : _ ≤ Rows.uptoBulk y1.1 := hU1
  replace hU2 : _ ≤ Rows.uptoBulk y2.1 := hU2
  refine (two_walk A0 A1 A2 c0 c1 c2 l0 l1 l2 W hC0 hc0 hC1 hc1 hC2 hc2 (by omega)).mono fun e W' ⟨he, bel⟩ => ?_
  subst he
  exact ⟨_, rfl, _, _, _, [], _, [], hW', trodAll_mk1 (shut_bool Try.underlying4 _), (trodAll_cons_mk (Below.trod laidOut (by kernel_rfl) (of_decide_eq_true (by kernel_rfl)) k0 bel lt0) trodAll_mk0), rfl, bel.frame _, fun h => by cases h⟩
set_option maxRecDepth 100000 in
theorem lifted (os : Os) (started : os.Started) (H : Type) (enc : TypeId × Value → H) (F : Stop.Interp) :
    ReturnsInHanded {} Try.checked os 14 .any ((Rows.OpenSpec.upto Rows.changeTwoSpec).pre6 enc Try.prog Try.f14 Rows.changeTwoUptoRow.domain false) (((Rows.OpenSpec.upto Rows.changeTwoSpec).at F).post enc Try.prog Try.f14 false true false false) := by
  refine returnsInHanded_of_cond (C := Try.checked) (s := Rows.OpenSpec.upto Rows.changeTwoSpec) (k := Rows.uptoSmall) rfl own started (by kernel_rfl) Try.func14
    (OpenSpec.witness (enc := enc) (C := Try.checked) (s := Rows.OpenSpec.upto Rows.changeTwoSpec) (k := Rows.uptoSmall) rfl false ⟨#[], #[.agg #[.slice none 0 0, .slice none 0 0, .slice none 0 0]], []⟩ 8 (by kernel_rfl) (by kernel_rfl) (by kernel_rfl)
      (x := ([.agg [.nil, .nil, .nil]], [], [])) (by kernel_rfl) rfl (by kernel_rfl)) ?_
  intro W base args ds gs before hval hW _ hk _
  exact contract H enc W base args ds gs before hval hW hk
theorem over : Rows.changeTwoUptoRow.holds Try.pinned (Rows.OpenSpec.upto Rows.changeTwoSpec) :=
  OpenClaim.holds_of_cond 14 Try.f14 rfl rfl rfl rfl rfl rfl rfl ⟨rfl, rfl, rfl, rfl, rfl⟩ rfl rfl rfl rfl rfl (by kernel_rfl) Try.func14 (by kernel_rfl)
    (of_decide_eq_true (by kernel_rfl)) (by unfold Func.isWrapper; first | (rw [if_pos (by decide +kernel)]; kernel_rfl) | (rw [if_neg (by decide +kernel)]; exact ⟨rfl, rfl⟩))
    (fun os started H enc _ F => lifted os started H enc F)
end Go.Proofs.Ytjljkcbopkldbaa.changeTwo
namespace Go.Proofs.Ytjljkcbopkldbaa
theorem changeTwo_holds : Rows.ChangeTwoUptoSaid := changeTwo.over
#print axioms changeTwo_holds
end Go.Proofs.Ytjljkcbopkldbaa
