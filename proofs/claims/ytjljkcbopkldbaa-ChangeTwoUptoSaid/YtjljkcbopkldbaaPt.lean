/-
  What the printed functions of change answer, as plain lists: cut, Trim, Between. Conditions: each text of an edit is at most 2^47 - 4096 bytes long, of edits there are fewer than 2^47 / 56.
-/
import Derived.Test.YtjljkcbopkldbaaPl
import Derived.Test.YtjljkcbopkldbaaBtw
namespace Go.Proofs.Ytjljkcbopkldbaa.Pl
open Go.RowKit Go.Proofs.YtjljkcbopkldbaaW.PrintWords Go.Proofs.YtjljkcbopkldbaaW.PrintLast Go.Proofs.YtjljkcbopkldbaaW.PrintMore Go.Proofs.Ytjljkcbopkldbaa.X Go.Proofs.Ytjljkcbopkldbaa
set_option linter.unusedVariables false
set_option linter.unusedSimpArgs false

theorem w64 {x : Int} (h0 : -9223372036854775808 ≤ x) (h1 : x ≤ 9223372036854775807) : wrap64 x = x := by
  unfold wrap64; omega
theorem rd_nat (l : List Int) (i : Nat) (h : i < l.length) : rd l (i : Int) = l[i] := by
  simp [rd, List.getD_eq_getElem?_getD, List.getElem?_eq_getElem h]
theorem rd84_nat (l : List S84) (i : Nat) (h : i < l.length) : rd_T84 l (i : Int) = l[i] := by
  simp [rd_T84, List.getD_eq_getElem?_getD, List.getElem?_eq_getElem h]
/-- lengths that a machine holds -/
def Small (l : List S84) : Prop := ∀ e ∈ l, e.f1.length ≤ 140737488351232 ∧ e.f2.length ≤ 140737488351232

/-! cut -/
theorem lcp_get : ∀ (x y : List Int) (i : Nat), i < lcp x y → x[i]? = y[i]?
  | [], y, i, h => by simp [lcp] at h
  | _ :: _, [], i, h => by simp [lcp] at h
  | a :: x, b :: y, i, h => by
    unfold lcp at h
    by_cases e : a = b
    · rw [if_pos e] at h
      cases i with
      | zero => simp [e]
      | succ i => simp only [List.getElem?_cons_succ]; exact lcp_get x y i (by omega)
    · rw [if_neg e] at h; omega
theorem lcp_stop (x y : List Int) (h1 : lcp x y < x.length) (h2 : lcp x y < y.length) : x[lcp x y] ≠ y[lcp x y] := by
  have h := lcp_parts x y
  rw [List.drop_eq_getElem_cons h1, List.drop_eq_getElem_cons h2] at h
  exact h _ _ _ _ rfl rfl
theorem mn_eq (a b : Nat) : mn (a : Int) (b : Int) = ((min a b : Nat) : Int) := by unfold mn; omega

/-- what is left when the common end is off -/
def off (x y : List Int) : List Int × List Int := (x.take (x.length - lcp x.reverse y.reverse), y.take (y.length - lcp x.reverse y.reverse))
theorem off_nil_left (y : List Int) : off [] y = ([], y) := by unfold off; simp [lcp]
theorem off_nil_right (x : List Int) : off x [] = (x, []) := by unfold off; cases x.reverse <;> simp [lcp]
theorem off_same (x y : List Int) (p : Int) : off (x ++ [p]) (y ++ [p]) = off x y := by
  unfold off
  have h1 := lcp_le x.reverse y.reverse
  rw [List.length_reverse, List.length_reverse] at h1
  rw [List.reverse_append, List.reverse_append]
  simp only [List.reverse_singleton, List.singleton_append, lcp, if_true, List.length_append, List.length_singleton]
  rw [show x.length + 1 - (lcp x.reverse y.reverse + 1) = x.length - lcp x.reverse y.reverse by omega, show y.length + 1 - (lcp x.reverse y.reverse + 1) = y.length - lcp x.reverse y.reverse by omega]
  rw [List.take_append_of_le_length (by omega), List.take_append_of_le_length (by omega)]
theorem off_ne (x y : List Int) (p q : Int) (h : p ≠ q) : off (x ++ [p]) (y ++ [q]) = (x ++ [p], y ++ [q]) := by
  unfold off
  rw [List.reverse_append, List.reverse_append]
  simp only [List.reverse_singleton, List.singleton_append, lcp, if_neg h, Nat.sub_zero, List.take_length]
theorem copied_eq (a : Int) (x y : List Int) (hx : x.length ≤ 140737488355328) (hy : y.length ≤ 140737488355328) : change_copied.f a x y = some (a, x, y) := by
  unfold change_copied.f bytes_Clone.f
  rw [if_pos hx, if_pos hy]; rfl

theorem cut_l1 (a : Int) : ∀ (n : Nat) (x y : List Int), x.length = n → x.length ≤ 140737488355328 → y.length ≤ 140737488355328 → Ev (fun k => change_cut.l1 k a x y) (a, (off x y).1, (off x y).2) := by
  intro n
  induction n with
  | zero =>
    intro x y hn hx hy
    have e : x = [] := List.length_eq_zero_iff.1 hn
    subst e
    refine Ev.step (f := fun _ => some (a, ([] : List Int), y)) (fun k => ?_) ?_
    · simp only [change_cut.l1]; rw [if_neg (by simp), copied_eq a _ _ (by simp) hy]; rfl
    · rw [off_nil_left]; exact Ev.now _
  | succ n ih =>
    intro x y hn hx hy
    by_cases hy0 : y = []
    · subst hy0
      refine Ev.step (f := fun _ => some (a, x, ([] : List Int))) (fun k => ?_) ?_
      · simp only [change_cut.l1]; rw [if_pos (by omega), if_neg (by simp), copied_eq a _ _ hx (by simp)]; rfl
      · rw [off_nil_right]; exact Ev.now _
    · have hx0 : x ≠ [] := fun e => by subst e; simp at hn
      obtain ⟨x', p, rfl⟩ : ∃ x' p, x = x' ++ [p] := ⟨x.dropLast, x.getLast hx0, (List.dropLast_concat_getLast hx0).symm⟩
      obtain ⟨y', q, rfl⟩ : ∃ y' q, y = y' ++ [q] := ⟨y.dropLast, y.getLast hy0, (List.dropLast_concat_getLast hy0).symm⟩
      simp only [List.length_append, List.length_singleton] at hn hx hy
      have e1 : wrap64 (((x' ++ [p]).length : Int) - 1) = (x'.length : Int) := by rw [List.length_append, List.length_singleton, w64 (by omega) (by omega)]; omega
      have e2 : wrap64 (((y' ++ [q]).length : Int) - 1) = (y'.length : Int) := by rw [List.length_append, List.length_singleton, w64 (by omega) (by omega)]; omega
      have r1 : rd (x' ++ [p]) (x'.length : Int) = p := by rw [rd_nat _ _ (by simp)]; simp
      have r2 : rd (y' ++ [q]) (y'.length : Int) = q := by rw [rd_nat _ _ (by simp)]; simp
      have l1 : ((x' ++ [p]).length : Int) = x'.length + 1 := by simp
      have l2 : ((y' ++ [q]).length : Int) = y'.length + 1 := by simp
      by_cases hpq : p = q
      · subst hpq
        refine Ev.step (f := fun k => change_cut.l1 k a x' y') (fun k => ?_) ?_
        · simp only [change_cut.l1]
          rw [e1, e2, r1, r2, if_pos (by omega), if_pos (by omega), if_pos (by omega), if_pos (by omega), if_pos (by omega), if_pos (by omega), if_pos rfl, if_pos (by omega), if_pos (by omega), Int.toNat_natCast, Int.toNat_natCast, List.take_left, List.take_left]
        · rw [off_same]; exact ih x' y' (by omega) (by omega) (by omega)
      · refine Ev.step (f := fun _ => some (a, x' ++ [p], y' ++ [q])) (fun k => ?_) ?_
        · simp only [change_cut.l1]
          rw [e1, e2, r1, r2, if_pos (by omega), if_pos (by omega), if_pos (by omega), if_pos (by omega), if_pos (by omega), if_pos (by omega), if_neg hpq, copied_eq a _ _ (by simp; omega) (by simp; omega)]; rfl
        · rw [off_ne _ _ _ _ hpq]; exact Ev.now _
theorem cut_eq_off (e : S84) : ((cutE e).f1, (cutE e).f2) = off (e.f1.drop (lcp e.f1 e.f2)) (e.f2.drop (lcp e.f1 e.f2)) := by
  unfold off
  simp only [cutE, cutP, cutS, List.length_drop]
theorem cut_ev (e : S84) (h1 : e.f1.length ≤ 140737488351232) (h2 : e.f2.length ≤ 140737488351232) : Ev (fun k => change_cut.f k e.f0 e.f1 e.f2) ((cutE e).f0, (cutE e).f1, (cutE e).f2) := by
  have hl := lcp_le e.f1 e.f2
  have tail : Ev (fun k => change_cut.j1 k ((lcp e.f1 e.f2 : Nat) : Int) e.f0 e.f1 e.f2) ((cutE e).f0, (cutE e).f1, (cutE e).f2) := by
    refine Ev.step (f := fun k => change_cut.l1 k (cutE e).f0 (e.f1.drop (lcp e.f1 e.f2)) (e.f2.drop (lcp e.f1 e.f2))) (fun k => ?_) ?_
    · simp only [change_cut.j1]
      rw [if_pos (by omega), if_pos (by omega), if_pos (by omega), Int.toNat_natCast]; rfl
    · have := cut_l1 (cutE e).f0 _ (e.f1.drop (lcp e.f1 e.f2)) (e.f2.drop (lcp e.f1 e.f2)) rfl (by rw [List.length_drop]; omega) (by rw [List.length_drop]; omega)
      rw [← cut_eq_off] at this
      exact this
  have loop : ∀ (d i : Nat), i + d = lcp e.f1 e.f2 → Ev (fun k => change_cut.l0 k (i : Int) e.f0 e.f1 e.f2) ((cutE e).f0, (cutE e).f1, (cutE e).f2) := by
    intro d
    induction d with
    | zero =>
      intro i hi
      have hi' : i = lcp e.f1 e.f2 := by omega
      refine Ev.step (f := fun k => change_cut.j1 k ((lcp e.f1 e.f2 : Nat) : Int) e.f0 e.f1 e.f2) (fun k => ?_) tail
      simp only [change_cut.l0]
      rw [mn_eq, hi']
      by_cases hm : lcp e.f1 e.f2 < min e.f1.length e.f2.length
      · rw [if_pos (by omega), if_pos (by omega), if_pos (by omega), if_pos (by omega), rd_nat _ _ (by omega), rd_nat _ _ (by omega), if_neg (lcp_stop _ _ (by omega) (by omega))]
      · rw [if_neg (by omega)]
    | succ d ih =>
      intro i hi
      refine Ev.step (f := fun k => change_cut.l0 k ((i + 1 : Nat) : Int) e.f0 e.f1 e.f2) (fun k => ?_) (ih (i + 1) (by omega))
      have hg := lcp_get e.f1 e.f2 i (by omega)
      rw [List.getElem?_eq_getElem (by omega), List.getElem?_eq_getElem (by omega)] at hg
      simp only [change_cut.l0]
      rw [mn_eq, if_pos (by omega), if_pos (by omega), if_pos (by omega), if_pos (by omega), rd_nat _ _ (by omega), rd_nat _ _ (by omega), if_pos (Option.some.inj hg), w64 (by omega) (by omega)]
      rfl
  exact loop _ 0 (Nat.zero_add _)

/-! Trim -/
theorem drop_cons {l r : List S84} {i : Nat} {e : S84} (h : l.drop i = e :: r) : i < l.length ∧ rd_T84 l (i : Int) = e ∧ l.drop (i + 1) = r := by
  have hi : i < l.length := by
    by_cases c : i < l.length
    · exact c
    · rw [List.drop_eq_nil_of_le (by omega)] at h; cases h
  rw [List.drop_eq_getElem_cons hi] at h
  simp only [List.cons.injEq] at h
  exact ⟨hi, by rw [rd84_nat l i hi]; exact h.1, h.2⟩
theorem drop_none {l : List S84} {i : Nat} (h : l.drop i = []) : l.length ≤ i := List.drop_eq_nil_iff.1 h
theorem equal_eq {a b : List Int} (ha : Bytes a) (hb : Bytes b) : bytes_Equal.f a b = some (decide (a = b)) := by
  unfold bytes_Equal.f; rw [str_eq ha hb]
theorem trim_ev (l : List S84) (hb : BytesE l) (hs : Small l) (hl : l.length < 2513169434916) : Ev (fun k => change_Trim.f k l) (trimL l) := by
  have loop : ∀ (r : List S84) (i : Nat) (acc : List S84), l.drop i = r → acc.length ≤ i → Ev (fun k => change_Trim.l0 k acc l (l.length : Int) (i : Int)) (acc ++ trimL r) := by
    intro r
    induction r with
    | nil =>
      intro i acc h ha
      have := drop_none h
      refine Ev.step (f := fun _ => some acc) (fun k => ?_) ?_
      · simp only [change_Trim.l0]; rw [if_neg (by omega)]
      · simp [trimL]; exact Ev.now _
    | cons e r ih =>
      intro i acc h ha
      obtain ⟨hi, he, hr⟩ := drop_cons h
      have hm : e ∈ l := by rw [← he, rd84_nat l i hi]; exact List.getElem_mem hi
      have hw : wrap64 ((i : Int) + 1) = ((i + 1 : Nat) : Int) := by rw [w64 (by omega) (by omega)]; rfl
      rw [trimL_cons]
      by_cases hee : e.f1 = e.f2
      · rw [if_pos hee]
        refine Ev.step (f := fun k => change_Trim.l0 k acc l (l.length : Int) ((i + 1 : Nat) : Int)) (fun k => ?_) (ih (i + 1) acc hr (by omega))
        simp only [change_Trim.l0]
        rw [if_pos (by omega), if_pos (by omega), if_pos (by omega), he, equal_eq (hb e hm).1 (hb e hm).2, hee, hw]; simp
      · rw [if_neg hee]
        have c := cut_ev e (hs e hm).1 (hs e hm).2
        refine Ev.step (f := fun k => (change_cut.f k e.f0 e.f1 e.f2).bind fun bt => if acc.length < 2513169434916 then change_Trim.l0 k (acc ++ [(⟨bt.1, bt.2.1, bt.2.2⟩ : S84)]) l (l.length : Int) ((i + 1 : Nat) : Int) else none) (fun k => ?_) (c.bind ?_)
        · simp only [change_Trim.l0]
          rw [if_pos (by omega), if_pos (by omega), if_pos (by omega), he, equal_eq (hb e hm).1 (hb e hm).2, decide_eq_false hee, hw]; simp
        · have := ih (i + 1) (acc ++ [cutE e]) hr (by simp; omega)
          rw [List.append_assoc, List.singleton_append] at this
          refine Ev.congr (fun k => ?_) this
          rw [if_pos (by omega)]
  have := loop l 0 [] rfl (Nat.le_refl _)
  rw [List.nil_append] at this
  exact this
theorem between_ev (a b : List Int) (ha : Bytes a) (hb : Bytes b) (h1 : a.length ≤ 140737488351232) (h2 : b.length ≤ 140737488351232) : Ev (fun k => change_Between.f k a b) (betweenL a b) := by
  exact trim_ev [⟨0, a, b⟩] (fun e he => by simp at he; subst he; exact ⟨ha, hb⟩) (fun e he => by simp at he; subst he; exact ⟨h1, h2⟩) (by simp)

end Go.Proofs.Ytjljkcbopkldbaa.Pl
