/-
  For the rows of the claims about block's motions: what a text and what is asked that come in are. No condition.
-/
import Derived.Test.YtjaopgjhmojpnaaOpn
import Derived.Test.YtjaopgjhmojpnaaMv
namespace Go.Proofs.Ytjaopgjhmojpnaa.Opn
open Go.ChangeShapes Go.WideShapes Go.RowKit Go.Proofs.YtjaopgjhmojpnaaW.PrintWords Go.Proofs.YtjaopgjhmojpnaaW.PrintLast Go.Proofs.YtjaopgjhmojpnaaW.PrintMore Go.Proofs.Ytjaopgjhmojpnaa.X Go.Proofs.Ytjaopgjhmojpnaa.Pb Go.Proofs.Ytjaopgjhmojpnaa.Lw
set_option linter.unusedVariables false
set_option linter.unusedSimpArgs false

theorem byteRange {x : Int} (h : (Lit.int .u8 x).wf = true) : 0 ≤ x ∧ x ≤ 255 := by
  simpa [Lit.wf, IntKind.min, IntKind.max, IntKind.signed, IntKind.bits] using h
theorem bytesOf5 : Try.prog.bytesOf 5 = 1 := by kernel_rfl
theorem reach_num : reachBytes = 140737488351232 := rfl
theorem opens22 : Opens Try.prog 22 (Kd.slice 5 (Kd.int .u8)) Bytes (fun l => l.length + 1) (fun l => l.length ≤ 140737488351232) :=
  Opens.imp (opens_slice Try.underlying22 (by kernel_rfl) (by decide) (opens_int Try.underlying5)) (fun l h x hx => byteRange (h x hx)) (fun l => by rw [sumOf_len]; exact Nat.le_refl _) (fun l h => by have := h.1; rw [bytesOf5, reach_num] at this; omega)
theorem opens28 : Opens Try.prog 28 kAsk (fun _ => True) (fun _ => 1) (fun _ => True) :=
  Opens.imp (opens_iso (f := fun x : Lw.Ask => (x.f0, x.f1, x.f2)) (fun p => (⟨p.1, p.2.1, p.2.2⟩ : Lw.Ask)) (fun _ => rfl)
    (opens_struct Try.underlying28 (by kernel_rfl) (opens_cons rfl (by kernel_rfl) (opens_int Try.underlying3) (opens_cons rfl (by kernel_rfl) (opens_int Try.underlying3) (opens_last rfl (by kernel_rfl) (opens_string Try.underlying9))))))
    (fun e h => trivial) (fun e => by simp only; omega) (fun e h => trivial)
theorem opens23 : Opens Try.prog 23 (Kd.slice 28 kAsk) (fun _ => True) (fun l => l.length + 1) (fun _ => True) :=
  Opens.imp (opens_slice Try.underlying23 (by kernel_rfl) (by decide) opens28) (fun l h => trivial) (fun l => by rw [sumOf_len]; exact Nat.le_refl _) (fun l h => trivial)
theorem weights_mem {H : Type} {P : Program} : ∀ (ts : List TypeId) (ds : List (DataW H)) (j : Nat) (t : TypeId) (d : DataW H), ts[j]? = some t → ds[j]? = some d → ∀ n ∈ d.weights P t, n ∈ DataW.weightsEach P ts ds
  | [], ds, j, t, d, h, _, n, _ => by simp at h
  | _ :: _, [], j, t, d, _, h, n, _ => by simp at h
  | t0 :: ts, d0 :: ds, 0, t, d, h, h', n, hn => by
    simp only [List.getElem?_cons_zero, Option.some.injEq] at h h'
    subst h; subst h'
    unfold DataW.weightsEach
    exact List.mem_append_left _ hn
  | t0 :: ts, d0 :: ds, j + 1, t, d, h, h', n, hn => by
    unfold DataW.weightsEach
    exact List.mem_append_right _ (weights_mem ts ds j t d (by simpa using h) (by simpa using h') n hn)
theorem weights_le {H : Type} {P : Program} {ts : List TypeId} {ds : List (DataW H)} (h : (DataW.weightsEach P ts ds).all (· ≤ reachBytes) = true) {j : Nat} {t : TypeId} {d : DataW H} (h1 : ts[j]? = some t) (h2 : ds[j]? = some d) : ∀ n ∈ d.weights P t, n ≤ reachBytes := fun n hn => by
  have := List.all_eq_true.1 h n (weights_mem ts ds j t d h1 h2 n hn)
  exact of_decide_eq_true this

end Go.Proofs.Ytjaopgjhmojpnaa.Opn
