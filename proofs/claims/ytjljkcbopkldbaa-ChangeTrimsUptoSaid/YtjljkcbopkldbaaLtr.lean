/-
  ChangeTrims' pure statement. Conditions: what the statement asks for.
-/
import Derived.Test.YtjljkcbopkldbaaPx
import Derived.Test.YtjljkcbopkldbaaX8
namespace Go.Proofs.Ytjljkcbopkldbaa.Pl
open Go.RowKit Go.Proofs.YtjljkcbopkldbaaW.PrintWords Go.Proofs.YtjljkcbopkldbaaW.PrintLast Go.Proofs.YtjljkcbopkldbaaW.PrintMore Go.Proofs.Ytjljkcbopkldbaa.X Go.Proofs.Ytjljkcbopkldbaa
set_option linter.unusedVariables false
set_option linter.unusedSimpArgs false

/-- ChangeTrims -/
theorem trims_law (t : List Int) (l : List S84) (ht : Bytes t) (hb : BytesE l) (hs : Small l) (hl : l.length < 2513169434916) (hm : t.length + news l + olds l ≤ 70368744177664) : Ev (fun k => quoinlaw17_ChangeTrims.f k t l) true := by
  obtain ⟨g, hg⟩ := great_ev t l hl
  have hT := trim_ev l hb hs hl
  have hlt := trimL_length l
  have hbt := trim_bytes hb
  have hst := small_trim hs
  have hT2 := trim_ev (trimL l) hbt hst (by omega)
  rw [trim_twice] at hT2
  have q4 := same_ev (trimL l)
  have hZ := size_ev l hl
  rw [sizeF_eq l (by omega) (by omega)] at hZ
  have hnt := news_trim l
  have hot : olds (trimL l) ≤ olds l := by
    have h1 := sizeL_trim l
    have : ∀ x : List S84, (sizeL x : Int) = (news x : Int) - olds x := by
      intro x
      induction x with
      | nil => simp [sizeL, news, olds]
      | cons e r ih => rw [sizeL_cons, news_cons, olds_cons, ih]; omega
    rw [this, this] at h1
    omega
  have hZ2 := size_ev (trimL l) (by omega)
  rw [sizeF_eq _ (by omega) (by omega), sizeL_trim] at hZ2
  have eA : change_Apply.f t l = some (answer (app l t)) := by
    unfold change_Apply.f
    rw [if_pos (by omega), applyL_eq _ _ (by omega)]
  have eA2 : change_Apply.f t (trimL l) = some (answer (app (trimL l) t)) := by
    unfold change_Apply.f
    rw [if_pos (by omega), applyL_eq _ _ (by omega)]
  -- the end behind the loop
  have hend : ((change_Apply.f t l).bind fun bt356 => (if bt356.2 = 0 then ((change_Apply.f t (trimL l)).bind fun bt360 => (if bt360.2 = 0 then (if (strOfNums bt356.1).toList = (strOfNums bt360.1).toList then (if ((trimL l).length : Int) = 0 then (some true) else ((change_First.f (trimL l)).bind fun t364 => ((change_First.f l).bind fun t365 => (some (decide (t364 ≥ t365)))))) else (some false)) else (some false))) else (some true))) = some true := by
    rw [eA]
    simp only [Option.bind_some]
    cases ha : app l t with
    | none => simp [answer]
    | some u =>
      have ha2 := app_trim l t u ht hb (by omega) ha
      rw [eA2, ha2]
      simp only [answer, Option.bind_some]
      rw [if_pos trivial, if_pos trivial, if_pos trivial]
      by_cases c : trimL l = []
      · rw [if_pos (by rw [c]; rfl)]
      · have hf := first_trim l t u ht hb (by omega) ha c
        rw [if_neg (by intro h; exact c (List.length_eq_zero_iff.1 (by omega)))]
        unfold change_First.f
        simp only [Option.bind_some]
        rw [decide_eq_true hf]
  have hloop : ∀ (r : List S84) (i : Nat), (trimL l).drop i = r → Ev (fun k => quoinlaw17_ChangeTrims.l0 k t l (trimL l) (i : Int)) true := by
    intro r
    induction r with
    | nil =>
      intro i h
      have := drop_none h
      refine Ev.step (f := fun _ => some true) (fun k => ?_) (Ev.now _)
      simp only [quoinlaw17_ChangeTrims.l0]
      rw [if_neg (by omega)]
      exact hend
    | cons x r ih =>
      intro i h
      obtain ⟨hi, hx, hr⟩ := drop_cons h
      have hm' : x ∈ trimL l := by rw [← hx, rd84_nat _ i hi]; exact List.getElem_mem hi
      obtain ⟨e, he1, he2, rfl⟩ := trimL_mem hm'
      obtain ⟨p, s, hc⟩ := cut_cut e
      have hsx := hst _ hm'
      have hne : (cutE e).f1.length + (cutE e).f2.length ≠ 0 := by
        intro h0
        have h1 : (cutE e).f1 = [] := List.length_eq_zero_iff.1 (by omega)
        have h2 : (cutE e).f2 = [] := List.length_eq_zero_iff.1 (by omega)
        exact cut_ne he2 (by rw [h1, h2])
      have hw : wrap64 ((i : Int) + 1) = ((i + 1 : Nat) : Int) := by rw [w64 (by omega) (by omega)]; rfl
      refine Ev.step (f := fun k => quoinlaw17_ChangeTrims.l0 k t l (trimL l) ((i + 1 : Nat) : Int)) (fun k => ?_) (ih (i + 1) hr)
      have hp1 := hc.parts
      have hp2 := hc.parts'
      generalize hE : cutE e = y at *
      obtain ⟨y0, y1, y2⟩ := y
      simp only at hsx hne hp1 hp2
      simp only [quoinlaw17_ChangeTrims.l0]
      rw [if_pos (by omega), if_pos (by omega), hx]
      simp only
      rw [w64 (x := (y1.length : Int) + (y2.length : Int)) (by omega) (by omega), if_neg (by omega), hw]
      by_cases c1 : (y1.length : Int) > 0
      · rw [if_pos c1]
        by_cases c2 : (y2.length : Int) > 0
        · rw [if_pos c2, if_pos (by omega), if_pos (by omega)]
          have g1 : ¬ rd y1 0 = rd y2 0 := by
            cases y1 with
            | nil => simp at c1
            | cons a y1 =>
              cases y2 with
              | nil => simp at c2
              | cons b y2 => exact hp1 a y1 b y2 rfl rfl
          rw [if_neg g1, w64 (x := (y1.length : Int) - 1) (by omega) (by omega), w64 (x := (y2.length : Int) - 1) (by omega) (by omega), if_pos (by omega), if_pos (by omega), if_pos (by omega), if_pos (by omega)]
          have g2 : ¬ rd y1 ((y1.length : Int) - 1) = rd y2 ((y2.length : Int) - 1) := by
            obtain ⟨z1, a, rfl⟩ : ∃ z a, y1 = z ++ [a] := ⟨y1.dropLast, y1.getLast (by intro h; subst h; simp at c1), (List.dropLast_concat_getLast _).symm⟩
            obtain ⟨z2, b, rfl⟩ : ∃ z a, y2 = z ++ [a] := ⟨y2.dropLast, y2.getLast (by intro h; subst h; simp at c2), (List.dropLast_concat_getLast _).symm⟩
            have r1 : rd (z1 ++ [a]) (((z1 ++ [a]).length : Int) - 1) = a := by
              rw [show (((z1 ++ [a]).length : Int) - 1) = ((z1.length : Nat) : Int) by simp, rd_nat _ _ (by simp)]; simp
            have r2 : rd (z2 ++ [b]) (((z2 ++ [b]).length : Int) - 1) = b := by
              rw [show (((z2 ++ [b]).length : Int) - 1) = ((z2.length : Nat) : Int) by simp, rd_nat _ _ (by simp)]; simp
            rw [r1, r2]
            rw [List.reverse_append, List.reverse_append] at hp2
            exact hp2 a z1.reverse b z2.reverse rfl rfl
          rw [if_neg g2]
        · rw [if_neg c2]
      · rw [if_neg c1]
  have hj : Ev (fun k => quoinlaw17_ChangeTrims.j0 k t l (trimL l) false) true := by
    refine Ev.step (f := fun k => quoinlaw17_ChangeTrims.l0 k t l (trimL l) ((0 : Nat) : Int)) (fun k => ?_) (hloop _ 0 rfl)
    simp only [quoinlaw17_ChangeTrims.j0]
    rw [if_neg (by simp)]; rfl
  obtain ⟨K1, k1⟩ := hg
  obtain ⟨K2, k2⟩ := hT
  obtain ⟨K3, k3⟩ := hT2
  obtain ⟨K5, k5⟩ := hZ
  obtain ⟨K6, k6⟩ := hZ2
  obtain ⟨K7, k7⟩ := hj
  refine ⟨K1 + K2 + K3 + K5 + K6 + K7, fun k hk => ?_⟩
  have q1 := k1 k (by omega)
  have q2 := k2 k (by omega)
  have q3 := k3 k (by omega)
  have q5 := k5 k (by omega)
  have q6 := k6 k (by omega)
  have q7 := k7 k (by omega)
  simp only at q1 q2 q3 q5 q6 q7
  show quoinlaw17_ChangeTrims.f k t l = some true
  unfold quoinlaw17_ChangeTrims.f
  rw [alive_eq]
  simp only [Option.bind_some]
  rw [if_pos trivial, q1]
  simp only [Option.bind_some]
  cases g with
  | true => rw [if_pos rfl]
  | false =>
    rw [if_neg (by simp), q2]
    simp only [Option.bind_some]
    rw [if_neg (by omega), q3]
    simp only [Option.bind_some]
    rw [q4]
    simp only [Option.bind_some]
    rw [if_pos trivial, q6]
    simp only [Option.bind_some]
    rw [q5]
    simp only [Option.bind_some]
    rw [show (sizeL l != sizeL l) = false by simp]
    exact q7

end Go.Proofs.Ytjljkcbopkldbaa.Pl
