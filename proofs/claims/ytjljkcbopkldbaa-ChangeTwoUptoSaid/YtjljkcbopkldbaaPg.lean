/-
  What the statements' bound on the work (great) answers: it comes to an end. Condition: of edits there are fewer than 2^47 / 56.
-/
import Derived.Test.YtjljkcbopkldbaaPu
import Derived.Test.YtjljkcbopkldbaaX4
namespace Go.Proofs.Ytjljkcbopkldbaa.Pl
open Go.RowKit Go.Proofs.YtjljkcbopkldbaaW.PrintWords Go.Proofs.YtjljkcbopkldbaaW.PrintLast Go.Proofs.YtjljkcbopkldbaaW.PrintMore Go.Proofs.Ytjljkcbopkldbaa.X Go.Proofs.Ytjljkcbopkldbaa
set_option linter.unusedVariables false
set_option linter.unusedSimpArgs false

theorem great_ev (t : List Int) (l : List S84) (hl : l.length < 2513169434916) : ∃ b, Ev (fun k => quoinlaw17_great.f k t l) b := by
  have loop : ∀ (r : List S84) (i : Nat) (n : Int), l.drop i = r → ∃ b, Ev (fun k => quoinlaw17_great.l0 k l n (i : Int)) b := by
    intro r
    induction r with
    | nil =>
      intro i n h
      have := drop_none h
      by_cases hn : n > 0
      · refine ⟨_, Ev.step (f := fun _ => some (decide ((l.length : Int) > wrap64 ((134217728 : Int) / n)))) (fun k => ?_) (Ev.now _)⟩
        simp only [quoinlaw17_great.l0]; rw [if_neg (by omega), if_pos hn, if_neg (by omega)]
      · refine ⟨_, Ev.step (f := fun _ => some false) (fun k => ?_) (Ev.now _)⟩
        simp only [quoinlaw17_great.l0]; rw [if_neg (by omega), if_neg hn]
    | cons e r ih =>
      intro i n h
      obtain ⟨hi, he, hr⟩ := drop_cons h
      obtain ⟨b, hb⟩ := ih (i + 1) (wrap64 (n + ((rd_T84 l (i : Int)).f2.length : Int))) hr
      refine ⟨b, Ev.step (fun k => ?_) hb⟩
      simp only [quoinlaw17_great.l0]
      rw [if_pos (by omega), if_pos (by omega), w64 (x := (i : Int) + 1) (by omega) (by omega)]; rfl
  exact loop l 0 _ rfl

end Go.Proofs.Ytjljkcbopkldbaa.Pl
