/-
  What the reference's Trim and Between answer, as plain lists. Conditions: each text of an edit is at most 2^47 - 4096 bytes long, of edits there are fewer than 2^47 / 56.
-/
import Derived.Test.YtjljkcbopkldbaaPx
import Derived.Test.YtjljkcbopkldbaaX6
import Derived.Test.YtjljkcbopkldbaaBtr
namespace Go.Proofs.Ytjljkcbopkldbaa.Pl
open Go.RowKit Go.Proofs.YtjljkcbopkldbaaW.PrintWords Go.Proofs.YtjljkcbopkldbaaW.PrintLast Go.Proofs.YtjljkcbopkldbaaW.PrintMore Go.Proofs.Ytjljkcbopkldbaa.X Go.Proofs.Ytjljkcbopkldbaa
set_option linter.unusedVariables false
set_option linter.unusedSimpArgs false

theorem lcp_stop' (x y : List Int) (h1 : lcp x y < x.length) (h2 : lcp x y < y.length) : x[lcp x y]? ≠ y[lcp x y]? := by
  rw [List.getElem?_eq_getElem h1, List.getElem?_eq_getElem h2]
  intro h; exact lcp_stop x y h1 h2 (Option.some.inj h)
theorem reftrim_ev (l : List S84) (hs : Small l) (hl : l.length < 2513169434916) : Ev (fun k => quoinref17_Trim.f k l) (trimL l) := by
  have loop : ∀ (r : List S84) (i : Nat) (acc : List S84), l.drop i = r → acc.length ≤ i → Ev (fun k => quoinref17_Trim.l0 k l acc (i : Int)) (acc ++ trimL r) := by
    intro r
    induction r with
    | nil =>
      intro i acc h ha
      have := drop_none h
      refine Ev.step (f := fun _ => some acc) (fun k => ?_) ?_
      · simp only [quoinref17_Trim.l0]; rw [if_neg (by omega)]
      · simp [trimL]; exact Ev.now _
    | cons e r ih =>
      intro i acc h ha
      obtain ⟨hi, he, hr⟩ := drop_cons h
      have hm := hs e (by rw [← he, rd84_nat l i hi]; exact List.getElem_mem hi)
      have hw : wrap64 ((i : Int) + 1) = ((i + 1 : Nat) : Int) := by rw [w64 (by omega) (by omega)]; rfl
      have hP := lcp_le e.f1 e.f2
      have hS := lcp_le (e.f1.drop (lcp e.f1 e.f2)).reverse (e.f2.drop (lcp e.f1 e.f2)).reverse
      rw [List.length_reverse, List.length_reverse, List.length_drop, List.length_drop] at hS
      have hSg := lcp_get (e.f1.drop (lcp e.f1 e.f2)).reverse (e.f2.drop (lcp e.f1 e.f2)).reverse
      have hSs := lcp_stop' (e.f1.drop (lcp e.f1 e.f2)).reverse (e.f2.drop (lcp e.f1 e.f2)).reverse
      have hcE : cutE e = ⟨wrap64 (e.f0 + ((lcp e.f1 e.f2 : Nat) : Int)), (e.f1.drop (lcp e.f1 e.f2)).take (e.f1.length - lcp e.f1 e.f2 - cutS e.f1 e.f2), (e.f2.drop (lcp e.f1 e.f2)).take (e.f2.length - lcp e.f1 e.f2 - cutS e.f1 e.f2)⟩ := rfl
      have hne : (e.f1 = e.f2) ↔ (e.f1.length = lcp e.f1 e.f2 ∧ e.f2.length = lcp e.f1 e.f2) := by
        constructor
        · intro h
          have : ∀ x : List Int, lcp x x = x.length := by
            intro x
            induction x with
            | nil => rfl
            | cons a x ih => unfold lcp; rw [if_pos rfl, ih]; rfl
          rw [h, this]; exact ⟨rfl, rfl⟩
        · rintro ⟨h1, h2⟩
          have := lcp_take e.f1 e.f2
          rw [List.take_of_length_le (by omega), List.take_of_length_le (by omega)] at this
          exact this
      change lcp (e.f1.drop (lcp e.f1 e.f2)).reverse (e.f2.drop (lcp e.f1 e.f2)).reverse ≤ _ ∧ _ at hS
      obtain ⟨N, hN⟩ : ∃ N, N = lcp e.f1 e.f2 := ⟨_, rfl⟩
      obtain ⟨M, hM⟩ : ∃ M, M = cutS e.f1 e.f2 := ⟨_, rfl⟩
      have hM' : lcp (e.f1.drop (lcp e.f1 e.f2)).reverse (e.f2.drop (lcp e.f1 e.f2)).reverse = M := hM.symm
      simp only [hM'] at hS hSg hSs
      rw [← hN] at hP hcE hne
      rw [← hM] at hcE
      -- behind both counts
      have j5 : Ev (fun k => quoinref17_Trim.j4 k l acc (i : Int) e.f1 e.f2 (N : Int) (M : Int)) (acc ++ trimL (e :: r)) := by
        rw [trimL_cons]
        by_cases hee : e.f1 = e.f2
        · obtain ⟨h1, h2⟩ := hne.1 hee
          rw [if_pos hee]
          refine Ev.step (f := fun k => quoinref17_Trim.j5 k l acc (i : Int) e.f1 e.f2 (N : Int) (M : Int) false) (fun k => ?_) ?_
          · simp only [quoinref17_Trim.j4]; rw [if_pos (by omega), show ((e.f2.length : Int) != (N : Int)) = false by simp; omega]
          · refine Ev.step (f := fun k => quoinref17_Trim.l0 k l acc ((i + 1 : Nat) : Int)) (fun k => ?_) (ih (i + 1) acc hr (by omega))
            simp only [quoinref17_Trim.j5]; rw [if_neg (by simp), hw]
        · rw [if_neg hee]
          have hd : ¬ (e.f1.length = N ∧ e.f2.length = N) := fun h => hee (hne.2 h)
          refine Ev.step (f := fun k => quoinref17_Trim.j5 k l acc (i : Int) e.f1 e.f2 (N : Int) (M : Int) true) (fun k => ?_) ?_
          · simp only [quoinref17_Trim.j4]
            by_cases c : (e.f1.length : Int) = (N : Int)
            · rw [if_pos c, show ((e.f2.length : Int) != (N : Int)) = true by simp; omega]
            · rw [if_neg c]
          · have q1 : wrap64 ((e.f1.length : Int) - (M : Int)) = ((e.f1.length - M : Nat) : Int) := by rw [w64 (by omega) (by omega)]; omega
            have q2 : wrap64 ((e.f2.length : Int) - (M : Int)) = ((e.f2.length - M : Nat) : Int) := by rw [w64 (by omega) (by omega)]; omega
            have t1 : (e.f1.take (e.f1.length - M)).drop N = (e.f1.drop N).take (e.f1.length - N - M) := by rw [List.drop_take, show e.f1.length - M - N = e.f1.length - N - M by omega]
            have t2 : (e.f2.take (e.f2.length - M)).drop N = (e.f2.drop N).take (e.f2.length - N - M) := by rw [List.drop_take, show e.f2.length - M - N = e.f2.length - N - M by omega]
            refine Ev.step (f := fun k => quoinref17_Trim.l0 k l (acc ++ [cutE e]) ((i + 1 : Nat) : Int)) (fun k => ?_) ?_
            · simp only [quoinref17_Trim.j5]
              rw [if_pos trivial, if_pos (by omega), if_pos (by omega), if_pos (by omega), q1, q2, if_pos (by omega), if_pos (by omega), Int.toNat_natCast, Int.toNat_natCast, Int.toNat_natCast, t1, t2, refcopied_eq _ (by simp; omega)]
              simp only [Option.bind_some]
              rw [if_pos (by omega), if_pos (by omega), refcopied_eq _ (by simp; omega)]
              simp only [Option.bind_some]
              rw [if_pos (by omega), hw, he, hcE]
            · have := ih (i + 1) (acc ++ [cutE e]) hr (by simp; omega)
              rw [List.append_assoc, List.singleton_append] at this
              exact this
      -- the count from behind
      have l2 : ∀ (d m : Nat), m + d = M → Ev (fun k => quoinref17_Trim.l2 k l acc (i : Int) e.f1 e.f2 (N : Int) (m : Int)) (acc ++ trimL (e :: r)) := by
        have rev1 : ∀ (x : List Int) (m : Nat), m < x.length - N → (x.drop N).reverse[m]? = x[x.length - 1 - m]? := by
          intro x m h
          rw [List.getElem?_reverse (by rw [List.length_drop]; omega), List.length_drop, List.getElem?_drop]
          congr 1; omega
        have ix : ∀ (x : List Int) (m : Nat), x.length ≤ 140737488351232 → m < x.length → wrap64 (wrap64 ((x.length : Int) - 1) - (m : Int)) = ((x.length - 1 - m : Nat) : Int) := by
          intro x m h h'
          rw [w64 (x := (x.length : Int) - 1) (by omega) (by omega), w64 (by omega) (by omega)]; omega
        intro d
        induction d with
        | zero =>
          intro m hm'
          have hmm : m = M := by omega
          refine Ev.step (f := fun k => quoinref17_Trim.j4 k l acc (i : Int) e.f1 e.f2 (N : Int) (M : Int)) (fun k => ?_) j5
          simp only [quoinref17_Trim.l2]
          rw [w64 (x := (e.f1.length : Int) - (N : Int)) (by omega) (by omega), w64 (x := (e.f2.length : Int) - (N : Int)) (by omega) (by omega), hmm]
          by_cases c1 : (M : Int) < (e.f1.length : Int) - (N : Int)
          · rw [if_pos c1]
            by_cases c2 : (M : Int) < (e.f2.length : Int) - (N : Int)
            · rw [if_pos c2, ix _ _ hm.1 (by omega), ix _ _ hm.2 (by omega), if_pos (by omega), if_pos (by omega), if_pos (by omega), if_pos (by omega), if_neg]
              rw [← hN] at hSs
              have hs' := hSs (by rw [List.length_reverse, List.length_drop]; omega) (by rw [List.length_reverse, List.length_drop]; omega)
              rw [rev1 _ _ (by omega), rev1 _ _ (by omega), List.getElem?_eq_getElem (by omega), List.getElem?_eq_getElem (by omega)] at hs'
              rw [rd_nat _ _ (by omega), rd_nat _ _ (by omega)]
              exact fun hc => hs' (by rw [hc])
            · rw [if_neg c2]
          · rw [if_neg c1]
        | succ d ihd =>
          intro m hm'
          refine Ev.step (f := fun k => quoinref17_Trim.l2 k l acc (i : Int) e.f1 e.f2 (N : Int) ((m + 1 : Nat) : Int)) (fun k => ?_) (ihd (m + 1) (by omega))
          simp only [quoinref17_Trim.l2]
          have hg := hSg m (by omega)
          rw [← hN, rev1 _ _ (by omega), rev1 _ _ (by omega), List.getElem?_eq_getElem (by omega), List.getElem?_eq_getElem (by omega)] at hg
          rw [w64 (x := (e.f1.length : Int) - (N : Int)) (by omega) (by omega), w64 (x := (e.f2.length : Int) - (N : Int)) (by omega) (by omega), if_pos (by omega), if_pos (by omega), ix _ _ hm.1 (by omega), ix _ _ hm.2 (by omega), if_pos (by omega), if_pos (by omega), if_pos (by omega), if_pos (by omega), rd_nat _ _ (by omega), rd_nat _ _ (by omega), if_pos (Option.some.inj hg), w64 (by omega) (by omega)]
          rfl
      have j2 : Ev (fun k => quoinref17_Trim.j2 k l acc (i : Int) e.f1 e.f2 (N : Int)) (acc ++ trimL (e :: r)) := by
        refine Ev.step (f := fun k => quoinref17_Trim.l2 k l acc (i : Int) e.f1 e.f2 (N : Int) ((0 : Nat) : Int)) (fun k => ?_) (l2 M 0 (Nat.zero_add _))
        simp only [quoinref17_Trim.j2]; rfl
      -- the count from ahead
      have l1 : ∀ (d n : Nat), n + d = N → Ev (fun k => quoinref17_Trim.l1 k l acc (i : Int) e.f1 e.f2 (n : Int)) (acc ++ trimL (e :: r)) := by
        intro d
        induction d with
        | zero =>
          intro n hn
          have hnn : n = N := by omega
          refine Ev.step (f := fun k => quoinref17_Trim.j2 k l acc (i : Int) e.f1 e.f2 (N : Int)) (fun k => ?_) j2
          simp only [quoinref17_Trim.l1]
          rw [hnn]
          by_cases c1 : (N : Int) < (e.f1.length : Int)
          · rw [if_pos c1]
            by_cases c2 : (N : Int) < (e.f2.length : Int)
            · rw [if_pos c2, if_pos (by omega), if_neg]
              have hst := lcp_stop e.f1 e.f2 (by omega) (by omega)
              rw [rd_nat _ _ (by omega), rd_nat _ _ (by omega)]
              simp only [← hN] at hst
              exact hst
            · rw [if_neg c2]
          · rw [if_neg c1]
        | succ d ihd =>
          intro n hn
          refine Ev.step (f := fun k => quoinref17_Trim.l1 k l acc (i : Int) e.f1 e.f2 ((n + 1 : Nat) : Int)) (fun k => ?_) (ihd (n + 1) (by omega))
          have hg := lcp_get e.f1 e.f2 n (by omega)
          rw [List.getElem?_eq_getElem (by omega), List.getElem?_eq_getElem (by omega)] at hg
          simp only [quoinref17_Trim.l1]
          rw [if_pos (by omega), if_pos (by omega), if_pos (by omega), rd_nat _ _ (by omega), rd_nat _ _ (by omega), if_pos (Option.some.inj hg), w64 (by omega) (by omega)]
          rfl
      refine Ev.step (f := fun k => quoinref17_Trim.l1 k l acc (i : Int) e.f1 e.f2 ((0 : Nat) : Int)) (fun k => ?_) (l1 N 0 (Nat.zero_add _))
      simp only [quoinref17_Trim.l0]
      rw [if_pos (by omega), if_pos (by omega), he]; rfl
  have := loop l 0 [] rfl (Nat.le_refl _)
  rw [List.nil_append] at this
  exact this
theorem refbetween_ev (a b : List Int) (h1 : a.length ≤ 140737488351232) (h2 : b.length ≤ 140737488351232) : Ev (fun k => quoinref17_Between.f k a b) (betweenL a b) := by
  exact reftrim_ev [⟨0, a, b⟩] (fun e he => by simp at he; subst he; exact ⟨h1, h2⟩) (by simp)

end Go.Proofs.Ytjljkcbopkldbaa.Pl
