/-
  For the rows of the claims about change: what a list of edits that comes in is, and how large. No condition.
-/
import Derived.Test.YtjljkcbopkldbaaOpn
import Derived.Test.YtjljkcbopkldbaaPu
namespace Go.Proofs.Ytjljkcbopkldbaa.Opn
open Go.ChangeShapes Go.WideShapes Go.RowKit Go.Proofs.YtjljkcbopkldbaaW.PrintWords Go.Proofs.YtjljkcbopkldbaaW.PrintLast Go.Proofs.YtjljkcbopkldbaaW.PrintMore Go.Proofs.Ytjljkcbopkldbaa.X Go.Proofs.Ytjljkcbopkldbaa.Pl
set_option linter.unusedVariables false
set_option linter.unusedSimpArgs false

theorem byteRange {x : Int} (h : (Lit.int .u8 x).wf = true) : 0 ≤ x ∧ x ≤ 255 := by
  simpa [Lit.wf, IntKind.min, IntKind.max, IntKind.signed, IntKind.bits] using h
theorem bytesOf5 : Try.prog.bytesOf 5 = 1 := by kernel_rfl
theorem bytesOf84 : Try.prog.bytesOf 84 = 56 := by kernel_rfl
theorem reach_num : reachBytes = 140737488351232 := rfl

theorem opens72 : Opens Try.prog 72 (Kd.slice 5 (Kd.int .u8)) Bytes (fun l => l.length + 1) (fun l => l.length ≤ 140737488351232) :=
  Opens.imp (opens_slice Try.underlying72 (by kernel_rfl) (by decide) (opens_int Try.underlying5)) (fun l h x hx => byteRange (h x hx)) (fun l => by rw [sumOf_len]; exact Nat.le_refl _) (fun l h => by have := h.1; rw [bytesOf5, reach_num] at this; omega)
theorem opens84 : Opens Try.prog 84 k84 (fun e => Bytes e.f1 ∧ Bytes e.f2) (fun e => e.f1.length + e.f2.length + 1) (fun e => e.f1.length ≤ 140737488351232 ∧ e.f2.length ≤ 140737488351232) :=
  Opens.imp (opens_iso (f := fun x : S84 => (x.f0, x.f1, x.f2)) (fun p => ⟨p.1, p.2.1, p.2.2⟩) (fun _ => rfl)
    (opens_struct Try.underlying84 (by kernel_rfl) (opens_cons rfl (by kernel_rfl) (opens_int Try.underlying3) (opens_cons rfl (by kernel_rfl) opens72 (opens_last rfl (by kernel_rfl) opens72)))))
    (fun e h => h.2) (fun e => by simp only; omega) (fun e h => h.2)
theorem sumOf_edits : ∀ l : List S84, sumOf (fun e : S84 => e.f1.length + e.f2.length + 1) l = l.length + news l + olds l
  | [] => rfl
  | e :: r => by
    have := sumOf_edits r
    simp only [sumOf, List.map_cons, List.sum_cons, List.length_cons] at this ⊢
    rw [news_cons, olds_cons]; omega
/-- a list of edits -/
theorem opens25 : Opens Try.prog 25 (Kd.slice 84 k84) BytesE (fun l => l.length + news l + olds l + 1) (fun l => Small l ∧ l.length < 2513169434916) :=
  Opens.imp (opens_slice Try.underlying25 (by kernel_rfl) (by decide) opens84) (fun l h e he => h e he) (fun l => by rw [sumOf_edits]; exact Nat.le_refl _) (fun l h => ⟨fun e he => h.2 e he, by have := h.1; rw [bytesOf84, reach_num] at this; omega⟩)
theorem small_of_bulk {l : List S84} (h : l.length + news l + olds l ≤ 1048576) : Small l ∧ l.length < 2513169434916 := by
  refine ⟨fun e he => ?_, by omega⟩
  have : ∀ l : List S84, e ∈ l → e.f1.length ≤ olds l ∧ e.f2.length ≤ news l := by
    intro l
    induction l with
    | nil => intro h; simp at h
    | cons x r ih =>
      intro h
      rw [olds_cons, news_cons]
      rcases List.mem_cons.1 h with rfl | h
      · omega
      · have := ih h; omega
  have := this l he
  omega
theorem weights_mem {H : Type} {P : Program} : ∀ (ts : List TypeId) (ds : List (DataW H)) (j : Nat) (t : TypeId) (d : DataW H), ts[j]? = some t → ds[j]? = some d → ∀ n ∈ d.weights P t, n ∈ DataW.weightsEach P ts ds
  | [], ds, j, t, d, h, _, n, _ => by simp at h
  | _ :: _, [], j, t, d, _, h, n, _ => by simp at h
  | t0 :: ts, d0 :: ds, 0, t, d, h, h', n, hn => by
    simp only [List.getElem?_cons_zero, Option.some.injEq] at h h'
    subst h; subst h'
    unfold DataW.weightsEach
    exact List.mem_append_left _ hn
  | t0 :: ts, d0 :: ds, j + 1, t, d, h, h', n, hn => by
    unfold DataW.weightsEach
    exact List.mem_append_right _ (weights_mem ts ds j t d (by simpa using h) (by simpa using h') n hn)
theorem weights_le {H : Type} {P : Program} {ts : List TypeId} {ds : List (DataW H)} (h : (DataW.weightsEach P ts ds).all (· ≤ reachBytes) = true) {j : Nat} {t : TypeId} {d : DataW H} (h1 : ts[j]? = some t) (h2 : ds[j]? = some d) : ∀ n ∈ d.weights P t, n ≤ reachBytes := fun n hn => by
  have := List.all_eq_true.1 h n (weights_mem ts ds j t d h1 h2 n hn)
  exact of_decide_eq_true this
theorem Drawn0.bel {w w' : World} (h : Drawn0 w w') : Below w.heap.size w w' := h.below

end Go.Proofs.Ytjljkcbopkldbaa.Opn
