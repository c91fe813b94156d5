/-
  ChangeBetween's pure statement. Conditions: what the statement asks for.
-/
import Derived.Test.YtjljkcbopkldbaaPu
namespace Go.Proofs.Ytjljkcbopkldbaa.Pl
open Go.RowKit Go.Proofs.YtjljkcbopkldbaaW.PrintWords Go.Proofs.YtjljkcbopkldbaaW.PrintLast Go.Proofs.YtjljkcbopkldbaaW.PrintMore Go.Proofs.Ytjljkcbopkldbaa.X Go.Proofs.Ytjljkcbopkldbaa
set_option linter.unusedVariables false
set_option linter.unusedSimpArgs false

/-- ChangeBetween -/
theorem between_law (a b : List Int) (ha : Bytes a) (hb : Bytes b) (h1 : a.length ≤ 140737488351232) (h2 : b.length ≤ 140737488351232) : Ev (fun k => quoinlaw17_ChangeBetween.f k a b) true := by
  have hB := between_ev a b ha hb h1 h2
  have hl : BytesE (betweenL a b) := trim_bytes (fun e he => by simp at he; subst he; exact ⟨ha, hb⟩)
  have hs : Small (betweenL a b) := small_trim (fun e he => by simp at he; subst he; exact ⟨h1, h2⟩)
  have hlen := between_length a b
  have hlen1 : (betweenL a b).length ≤ 1 := by rw [hlen]; split <;> omega
  have hT := trim_ev (betweenL a b) hl hs (by omega)
  rw [show trimL (betweenL a b) = betweenL a b from trim_twice _] at hT
  have q3 := same_ev (betweenL a b)
  have hA := app_between a b ha hb (by omega)
  have hN : news (betweenL a b) ≤ b.length := by
    have := news_trim [(⟨0, a, b⟩ : S84)]
    simp only [news, List.map_cons, List.map_nil, List.sum_cons, List.sum_nil] at this ⊢
    exact this
  have hO : olds (betweenL a b) ≤ a.length := by
    have := sizeL_trim [(⟨0, a, b⟩ : S84)]
    unfold betweenL
    rw [trimL_cons]
    split
    · simp [trimL, olds]
    · simp only [trimL, List.filter_nil, List.map_nil, olds, List.map_cons, List.sum_cons, List.sum_nil]
      show ((a.drop _).take _).length + 0 ≤ _
      simp; omega
  have eA : change_Apply.f a (betweenL a b) = some (b, 0) := by
    unfold change_Apply.f
    rw [if_pos (by omega), applyL_one _ _ _ hlen1 hA (by omega)]
  have eI := invert_eq (betweenL a b) hs (by omega)
  have hA2 := (app_back (betweenL a b) a b ha hl hA).1
  have eA2 : change_Apply.f b ((betweenL a b).reverse.map flip) = some (a, 0) := by
    unfold change_Apply.f
    rw [if_pos (by omega), applyL_one _ _ _ (by simpa using hlen1) hA2 (by omega)]
  have hj : Ev (fun k => quoinlaw17_ChangeBetween.j0 k a b (betweenL a b) false) true := by
    refine Ev.step (f := fun _ => some true) (fun k => ?_) (Ev.now _)
    simp only [quoinlaw17_ChangeBetween.j0]
    rw [if_neg (by simp), eA]
    simp only [Option.bind_some]
    rw [eI]
    simp only [Option.bind_some]
    rw [eA2]
    simp only [Option.bind_some]
    simp
  have htest : (((((betweenL a b).length : Int) == 0) != ((strOfNums a).toList == (strOfNums b).toList)) = true) ↔ False := by
    rw [str_eq ha hb, hlen]
    by_cases c : a = b
    · rw [if_pos c, decide_eq_true c]; simp
    · rw [if_neg c, decide_eq_false c]; simp
  obtain ⟨K1, k1⟩ := hB
  obtain ⟨K2, k2⟩ := hT
  obtain ⟨K4, k4⟩ := hj
  refine ⟨K1 + K2 + K4, fun k hk => ?_⟩
  have q1 := k1 k (by omega)
  have q2 := k2 k (by omega)
  have q4 := k4 k (by omega)
  simp only at q1 q2 q4
  show quoinlaw17_ChangeBetween.f k a b = some true
  unfold quoinlaw17_ChangeBetween.f
  rw [alive_eq]
  simp only [Option.bind_some]
  rw [if_pos trivial, q1]
  simp only [Option.bind_some]
  rw [if_neg (by omega), if_neg (by rw [htest]; exact id), q2]
  simp only [Option.bind_some]
  rw [q3]
  simp only [Option.bind_some, Bool.not_true]
  exact q4

end Go.Proofs.Ytjljkcbopkldbaa.Pl
