/-
  ChangeBack's pure statement. Conditions: what the statement asks for.
-/
import Derived.Test.YtjljkcbopkldbaaPx
import Derived.Test.YtjljkcbopkldbaaX9
namespace Go.Proofs.Ytjljkcbopkldbaa.Pl
open Go.RowKit Go.Proofs.YtjljkcbopkldbaaW.PrintWords Go.Proofs.YtjljkcbopkldbaaW.PrintLast Go.Proofs.YtjljkcbopkldbaaW.PrintMore Go.Proofs.Ytjljkcbopkldbaa.X Go.Proofs.Ytjljkcbopkldbaa
set_option linter.unusedVariables false
set_option linter.unusedSimpArgs false

/-- ChangeBack -/
theorem back_law (t : List Int) (l : List S84) (ht : Bytes t) (hb : BytesE l) (hs : Small l) (hl : l.length < 2513169434916) (hm : t.length + news l + olds l ≤ 70368744177664) : Ev (fun k => quoinlaw17_ChangeBack.f k t l) true := by
  obtain ⟨g, hg⟩ := great_ev t l hl
  have eI := invert_eq l hs hl
  have eI2 := invert_eq (l.reverse.map flip) (small_back hs) (by simpa using hl)
  rw [back_back] at eI2
  have eA : change_Apply.f t l = some (answer (app l t)) := by
    unfold change_Apply.f
    rw [if_pos (by omega), applyL_eq _ _ (by omega)]
  have eC : change_Check.f t l = some (answer (app l t)).2 := by unfold change_Check.f; rw [eA]; rfl
  have hZ := size_ev l hl
  rw [sizeF_eq l (by omega) (by omega)] at hZ
  have hn : olds (l.reverse.map flip) = news l := by
    have := news_back (l.reverse.map flip)
    rw [back_back] at this
    exact this.symm
  have hZ2 := size_ev (l.reverse.map flip) (by simpa using hl)
  rw [sizeF_eq _ (by rw [news_back]; omega) (by rw [hn]; omega), sizeL_back] at hZ2
  obtain ⟨K1, k1⟩ := hg
  have q2 := same_ev l
  obtain ⟨K3, k3⟩ := hZ
  obtain ⟨K4, k4⟩ := hZ2
  have hzb := sizeL_bound l
  refine ⟨K1 + K3 + K4, fun k hk => ?_⟩
  have q1 := k1 k (by omega)
  have q3 := k3 k (by omega)
  have q4 := k4 k (by omega)
  simp only at q1 q3 q4
  show quoinlaw17_ChangeBack.f k t l = some true
  unfold quoinlaw17_ChangeBack.f
  rw [alive_eq]
  simp only [Option.bind_some]
  rw [if_pos trivial, q1]
  simp only [Option.bind_some]
  cases g with
  | true => rw [if_pos rfl]
  | false =>
    rw [if_neg (by simp), eI]
    simp only [Option.bind_some]
    rw [eI2]
    simp only [Option.bind_some]
    rw [q2]
    simp only [Option.bind_some]
    cases ha : app l t with
    | none =>
      have eA' : change_Apply.f t l = some ([], 170) := by rw [eA, ha]; rfl
      have eC' : change_Check.f t l = some 170 := by rw [eC, ha]; rfl
      rw [if_pos trivial, eA']
      simp only [Option.bind_some]
      rw [if_neg (by omega), if_pos trivial, if_pos (by simp), eC']
      simp
    | some u =>
      have hbk := app_back l t u ht hb ha
      have hlen := app_length l t u ht hb ha
      have eA2 : change_Apply.f u (l.reverse.map flip) = some (t, 0) := by
        unfold change_Apply.f
        rw [if_pos (by omega), applyL_eq _ _ (by rw [news_back]; omega), hbk.1]; rfl
      have eA' : change_Apply.f t l = some (u, 0) := by rw [eA, ha]; rfl
      rw [if_pos trivial, eA']
      simp only [Option.bind_some]
      rw [if_pos trivial, eA2]
      simp only [Option.bind_some]
      rw [if_pos trivial, if_pos trivial, q3]
      simp only [Option.bind_some]
      rw [w64 (by omega) (by omega), if_pos hlen, q4]
      simp only [Option.bind_some]
      rw [w64 (by omega) (by omega)]
      simp

end Go.Proofs.Ytjljkcbopkldbaa.Pl
