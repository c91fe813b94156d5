/-
  ChangePlain's pure statement. Conditions: what the statement asks for.
-/
import Derived.Test.YtjljkcbopkldbaaPr
import Derived.Test.YtjljkcbopkldbaaX8
namespace Go.Proofs.Ytjljkcbopkldbaa.Pl
open Go.RowKit Go.Proofs.YtjljkcbopkldbaaW.PrintWords Go.Proofs.YtjljkcbopkldbaaW.PrintLast Go.Proofs.YtjljkcbopkldbaaW.PrintMore Go.Proofs.Ytjljkcbopkldbaa.X Go.Proofs.Ytjljkcbopkldbaa
set_option linter.unusedVariables false
set_option linter.unusedSimpArgs false

/-- ChangePlain -/
theorem plain_law (l : List S84) (a b : List Int) (hb : BytesE l) (hs : Small l) (hl : l.length < 2513169434916) (ha : Bytes a) (hb' : Bytes b) (h1 : a.length ≤ 140737488351232) (h2 : b.length ≤ 140737488351232) : Ev (fun k => quoinlaw17_ChangePlain.f k l a b) true := by
  have eI := invert_eq l hs hl
  obtain ⟨K1, k1⟩ := refinvert_ev l hs hl
  obtain ⟨K2, k2⟩ := trim_ev l hb hs hl
  obtain ⟨K3, k3⟩ := reftrim_ev l hs hl
  obtain ⟨K4, k4⟩ := between_ev a b ha hb' h1 h2
  obtain ⟨K5, k5⟩ := refbetween_ev a b h1 h2
  obtain ⟨K6, k6⟩ := size_ev l hl
  obtain ⟨K7, k7⟩ := refsize_ev l hl
  obtain ⟨K8, k8⟩ := reffirst_ev l hl
  refine ⟨K1 + K2 + K3 + K4 + K5 + K6 + K7 + K8 + 1, fun k hk => ?_⟩
  have q1 := k1 k (by omega)
  have q2 := k2 k (by omega)
  have q3 := k3 k (by omega)
  have q4 := k4 k (by omega)
  have q5 := k5 k (by omega)
  simp only at q1 q2 q3 q4 q5
  show quoinlaw17_ChangePlain.f k l a b = some true
  unfold quoinlaw17_ChangePlain.f
  rw [alive_eq]
  simp only [Option.bind_some]
  rw [if_pos trivial, eI]
  simp only [Option.bind_some]
  rw [q1]
  simp only [Option.bind_some]
  rw [same_ev]
  simp only [Option.bind_some]
  rw [if_pos trivial, q2]
  simp only [Option.bind_some]
  rw [q3]
  simp only [Option.bind_some]
  rw [same_ev]
  simp only [Option.bind_some]
  rw [if_pos trivial, q4]
  simp only [Option.bind_some]
  rw [q5]
  simp only [Option.bind_some]
  rw [same_ev]
  simp only [Option.bind_some, Bool.not_true]
  obtain ⟨k, rfl⟩ : ∃ m, k = m + 1 := ⟨k - 1, by omega⟩
  have q6 := k6 k (by omega)
  have q7 := k7 k (by omega)
  have q8 := k8 k (by omega)
  simp only at q6 q7 q8
  simp only [quoinlaw17_ChangePlain.j0]
  rw [if_neg (by simp), q6]
  simp only [Option.bind_some]
  rw [q7]
  simp only [Option.bind_some]
  rw [if_pos trivial]
  unfold change_First.f
  simp only [Option.bind_some]
  rw [q8]
  simp

end Go.Proofs.Ytjljkcbopkldbaa.Pl
