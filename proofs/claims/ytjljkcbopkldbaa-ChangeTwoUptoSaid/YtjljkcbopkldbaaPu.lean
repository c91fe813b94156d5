/-
  What the statements' own functions and Invert answer, as plain lists. Conditions: each text of an edit is at most 2^47 - 4096 bytes long, of edits there are fewer than 2^47 / 56.
-/
import Derived.Test.YtjljkcbopkldbaaPt
import Derived.Test.YtjljkcbopkldbaaSam
import Derived.Test.YtjljkcbopkldbaaAlv
namespace Go.Proofs.Ytjljkcbopkldbaa.Pl
open Go.RowKit Go.Proofs.YtjljkcbopkldbaaW.PrintWords Go.Proofs.YtjljkcbopkldbaaW.PrintLast Go.Proofs.YtjljkcbopkldbaaW.PrintMore Go.Proofs.Ytjljkcbopkldbaa.X Go.Proofs.Ytjljkcbopkldbaa
set_option linter.unusedVariables false
set_option linter.unusedSimpArgs false

theorem sameL_refl : ∀ l : List S84, sameL l l = true
  | [] => rfl
  | e :: r => by
    unfold sameL
    rw [sameL_refl r, Bool.and_true]
    simp [eqE, eqS]
theorem same_ev (l : List S84) : quoinlaw17_same.f l l = some true := by unfold quoinlaw17_same.f; rw [sameL_refl]
theorem invert_eq (l : List S84) (hs : Small l) (hl : l.length < 2513169434916) : change_Invert.f l = some (l.reverse.map flip) := by
  unfold change_Invert.f
  refine if_pos ⟨hl, ?_⟩
  rw [List.all_eq_true]
  intro e he
  have := hs e he
  unfold okE
  rw [decide_eq_true (by omega), decide_eq_true (by omega)]; rfl
theorem small_back {l : List S84} (h : Small l) : Small (l.reverse.map flip) := by
  intro x hx
  rw [List.mem_map] at hx
  obtain ⟨e, h1, rfl⟩ := hx
  exact (h e (List.mem_reverse.1 h1)).symm
theorem small_trim {l : List S84} (h : Small l) : Small (trimL l) := by
  intro x hx
  obtain ⟨e, h1, _, rfl⟩ := trimL_mem hx
  have he := h e h1
  have h1 : (cutE e).f1.length ≤ e.f1.length := by
    show ((e.f1.drop (cutP e.f1 e.f2)).take (e.f1.length - cutP e.f1 e.f2 - cutS e.f1 e.f2)).length ≤ _
    rw [List.length_take, List.length_drop]; omega
  have h2 : (cutE e).f2.length ≤ e.f2.length := by
    show ((e.f2.drop (cutP e.f1 e.f2)).take (e.f2.length - cutP e.f1 e.f2 - cutS e.f1 e.f2)).length ≤ _
    rw [List.length_take, List.length_drop]; omega
  omega
theorem alive_eq : quoinlaw17_alive.f = some true := rfl

theorem applyL_one (l : List S84) (t u : List Int) (hl : l.length ≤ 1) (h : app l t = some u) (hu : u.length ≤ 140737488355328) : applyL l t = some (u, 0) := by
  match l, hl with
  | [], _ => cases h; rfl
  | [e], _ =>
    unfold app at h
    by_cases hf : fitsB t e = true
    · rw [if_pos hf] at h
      cases h
      unfold applyL
      rw [if_pos hf, if_pos hu]; rfl
    · rw [if_neg hf] at h; cases h
end Go.Proofs.Ytjljkcbopkldbaa.Pl
