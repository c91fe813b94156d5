/-
  ChangeApplies' pure statement. Conditions: what the statement asks for.
-/
import Derived.Test.YtjljkcbopkldbaaPu
namespace Go.Proofs.Ytjljkcbopkldbaa.Pl
open Go.RowKit Go.Proofs.YtjljkcbopkldbaaW.PrintWords Go.Proofs.YtjljkcbopkldbaaW.PrintLast Go.Proofs.YtjljkcbopkldbaaW.PrintMore Go.Proofs.Ytjljkcbopkldbaa.X Go.Proofs.Ytjljkcbopkldbaa
set_option linter.unusedVariables false
set_option linter.unusedSimpArgs false

/-- ChangeApplies -/
theorem applies_law (t : List Int) (l : List S84) (hl : l.length < 2513169434916) (hm : t.length + news l ≤ 140737488355328) : Ev (fun k => quoinlaw17_ChangeApplies.f k t l) true := by
  obtain ⟨g, hg⟩ := great_ev t l hl
  have eA : change_Apply.f t l = some (answer (app l t)) := by
    unfold change_Apply.f
    rw [if_pos (by omega), applyL_eq _ _ hm]
  have eR : quoinref17_Apply.f t l = some (answer (app l t)) := eA
  have eC : change_Check.f t l = some (answer (app l t)).2 := by unfold change_Check.f; rw [eA]; rfl
  obtain ⟨K1, k1⟩ := hg
  refine ⟨K1, fun k hk => ?_⟩
  have q1 := k1 k (by omega)
  simp only at q1
  show quoinlaw17_ChangeApplies.f k t l = some true
  unfold quoinlaw17_ChangeApplies.f
  rw [alive_eq]
  simp only [Option.bind_some]
  rw [if_pos trivial, q1]
  simp only [Option.bind_some]
  cases g with
  | true => rw [if_pos rfl]
  | false =>
    rw [if_neg (by simp), eR]
    simp only [Option.bind_some]
    rw [eA]
    simp only [Option.bind_some]
    rw [if_pos trivial, if_pos trivial, eC]
    simp

end Go.Proofs.Ytjljkcbopkldbaa.Pl
