/-
  Of two brackets that belong together: from one to the other and back; between them all sorts are even. Plain Lean, no program in sight. No condition.
-/
import Derived.Test.YtjaopgjhmojpnaaPc
namespace Go.Proofs.Ytjaopgjhmojpnaa.Pb
open Go.RowKit Go.Proofs.YtjaopgjhmojpnaaW.PrintWords Go.Proofs.YtjaopgjhmojpnaaW.PrintLast Go.Proofs.YtjaopgjhmojpnaaW.PrintMore
open Go.Proofs.Ytjaopgjhmojpnaa.X Go.Proofs.Ytjaopgjhmojpnaa
set_option linter.unusedVariables false
set_option linter.unusedSimpArgs false

/-- what a byte adds to the count of a sort -/
def cnt (x c : Int) : Int := if (pt c).2.2 = true then (if (pt c).2.1 = true then (if x = c then 1 else 0) else (if x = (pt c).1 then -1 else 0)) else 0
theorem cnt_back {x c : Int} (h : (pt c).2.2 = true) : cnt x (pt c).1 = - cnt x c := by
  obtain ⟨h1, h2, h3⟩ := pt_back h
  unfold cnt
  rw [if_pos h3, if_pos h, h2, h1]
  cases hd : (pt c).2.1
  · simp only [Bool.not_false, if_true, Bool.false_eq_true, if_false]; split <;> rfl
  · simp only [Bool.not_true, if_true, Bool.false_eq_true, if_false]
    split <;> rfl
def sumC (x : Int) (l : List Int) : Int := (l.map (cnt x)).sum
theorem sumC_cons (x c : Int) (l : List Int) : sumC x (c :: l) = cnt x c + sumC x l := by simp [sumC]
theorem sumC_nil (x : Int) : sumC x [] = 0 := rfl
/-- the count of n bytes from p on, in a direction -/
def along (x : Int) (t : List Int) (right : Bool) : Nat → Int → Int
  | 0, _ => 0
  | n + 1, p => cnt x (rd t p) + along x t right n (p + stepOf right)
theorem stepOf_not (right : Bool) : stepOf (!right) = - stepOf right := by cases right <;> rfl
theorem step_eq (right : Bool) : (if right = true then (1 : Int) else -1) = stepOf right := rfl

/-- how many places from p to g -/
def gap (right : Bool) (p g : Int) : Int := if right = true then g - p + 1 else p - g + 1

theorem meet_back (t : List Int) (right : Bool) : ∀ (d : Nat) (st : List Int) (p g : Int), meetP t right d st p = some g → (∀ b ∈ st, (pt b).2.2 = true ∧ (pt b).2.1 = right) → (st = [] → (pt (rd t p)).2.2 = true ∧ (pt (rd t p)).2.1 = right) →
    ∃ n : Nat, (n : Int) = gap right p g ∧ 1 ≤ n ∧ (st = [] → 2 ≤ n) ∧ 0 ≤ g ∧ g < t.length ∧ (pt (rd t g)).2.2 = true ∧ (pt (rd t g)).2.1 = !right ∧ rd t g = (pt ((rd t p :: st).getLast (by simp))).1 ∧ 0 ≤ p ∧ p < t.length ∧
      (∀ D, meetP t (!right) (n + D) [] g = if st = [] then some p else meetP t (!right) D (st.map oth) (p + stepOf (!right))) ∧
      ∀ x, along x t right n p = - sumC x st := by
  intro d
  induction d with
  | zero => intro st p g h; simp [meetP] at h
  | succ d ih =>
    intro st p g h hst h0
    unfold meetP at h
    by_cases hin : 0 ≤ p ∧ p < t.length
    case neg => rw [if_neg hin] at h; cases h
    rw [if_pos hin, step_eq] at h
    by_cases hok : (pt (rd t p)).2.2 = true
    case neg =>
      rw [if_neg hok] at h
      have hne : st ≠ [] := fun he => hok (h0 he).1
      obtain ⟨n, k1, k2, k3, k4, k5, k6, k7, k8, k9, k10, k11, k12⟩ := ih st (p + stepOf right) g h hst (fun he => absurd he hne)
      refine ⟨n + 1, ?_, by omega, fun he => absurd he hne, k4, k5, k6, k7, ?_, hin.1, hin.2, fun D => ?_, fun x => ?_⟩
      · unfold gap stepOf at *; cases right <;> simp at k1 ⊢ <;> omega
      · rw [k8, List.getLast_cons hne, List.getLast_cons hne]
      · rw [if_neg hne, show n + 1 + D = n + (D + 1) by omega, k11 (D + 1), if_neg hne]
        conv => lhs; unfold meetP
        rw [stepOf_not, show p + stepOf right + -stepOf right = p by omega, if_pos hin, if_neg hok, step_eq, stepOf_not]
      · have hc : cnt x (rd t p) = 0 := by unfold cnt; rw [if_neg hok]
        simp only [along]
        rw [hc, k12 x]; omega
    rw [if_pos hok] at h
    by_cases hr : (pt (rd t p)).2.1 = right
    · rw [if_pos hr] at h
      have hst1 : ∀ b ∈ rd t p :: st, (pt b).2.2 = true ∧ (pt b).2.1 = right := fun b hb => by
        rcases List.mem_cons.1 hb with rfl | hb
        · exact ⟨hok, hr⟩
        · exact hst b hb
      obtain ⟨n, k1, k2, k3, k4, k5, k6, k7, k8, k9, k10, k11, k12⟩ := ih (rd t p :: st) (p + stepOf right) g h hst1 (by simp)
      refine ⟨n + 1, ?_, by omega, fun _ => by omega, k4, k5, k6, k7, ?_, hin.1, hin.2, fun D => ?_, fun x => ?_⟩
      · unfold gap stepOf at *; cases right <;> simp at k1 ⊢ <;> omega
      · rw [k8, List.getLast_cons (by simp)]
      · rw [show n + 1 + D = n + (D + 1) by omega, k11 (D + 1), if_neg (by simp)]
        conv => lhs; unfold meetP
        rw [stepOf_not, show p + stepOf right + -stepOf right = p by omega, if_pos hin, if_pos hok, if_neg (by rw [hr]; cases right <;> simp)]
        simp only [List.map_cons]
        rw [if_pos (by rfl)]
        by_cases he : st = []
        · rw [if_pos (by rw [he]; rfl), if_pos he]
        · rw [if_neg (by simpa using he), if_neg he, step_eq, stepOf_not]
      · simp only [along]
        rw [k12 x, sumC_cons]; omega
    · rw [if_neg hr] at h
      have hr' : (pt (rd t p)).2.1 = !right := by cases right <;> cases hq : (pt (rd t p)).2.1 <;> simp_all
      cases st with
      | nil => exact absurd (h0 rfl).2 hr
      | cons b st' =>
        simp only at h
        by_cases hb : b = (pt (rd t p)).1
        case neg => rw [if_neg hb] at h; cases h
        rw [if_pos hb] at h
        have hob : oth b = rd t p := by rw [hb]; exact (pt_back hok).1
        have hcb : ∀ x, cnt x b = - cnt x (rd t p) := fun x => by rw [hb]; exact cnt_back hok
        by_cases he : st' = []
        · rw [if_pos he] at h
          obtain rfl : p = g := Option.some.inj h
          subst he
          refine ⟨1, ?_, Nat.le_refl _, by simp, hin.1, hin.2, hok, hr', ?_, hin.1, hin.2, fun D => ?_, fun x => ?_⟩
          · unfold gap; cases right <;> simp <;> omega
          · simp only [List.getLast_cons_cons, List.getLast_singleton]
            exact hob.symm
          · rw [if_neg (by simp), show 1 + D = D + 1 by omega]
            conv => lhs; unfold meetP
            rw [if_pos hin, if_pos hok, if_pos hr', step_eq]
            simp only [List.map_cons, List.map_nil]
            rw [hob]
          · simp only [along, sumC_cons, sumC_nil]
            rw [hcb x]; omega
        · rw [if_neg he] at h
          obtain ⟨n, k1, k2, k3, k4, k5, k6, k7, k8, k9, k10, k11, k12⟩ := ih st' (p + stepOf right) g h (fun b hb => hst b (List.mem_cons_of_mem _ hb)) (fun h => absurd h he)
          refine ⟨n + 1, ?_, by omega, by simp, k4, k5, k6, k7, ?_, hin.1, hin.2, fun D => ?_, fun x => ?_⟩
          · unfold gap stepOf at *; cases right <;> simp at k1 ⊢ <;> omega
          · rw [k8, List.getLast_cons he, List.getLast_cons (by simp), List.getLast_cons he]
          · rw [if_neg (by simp), show n + 1 + D = n + (D + 1) by omega, k11 (D + 1), if_neg he]
            conv => lhs; unfold meetP
            rw [stepOf_not, show p + stepOf right + -stepOf right = p by omega, if_pos hin, if_pos hok, if_pos hr', step_eq, stepOf_not]
            simp only [List.map_cons]
            rw [hob]
          · simp only [along]
            rw [k12 x, sumC_cons, hcb x]; omega

/-- the sum over a part of the text -/
def part (t : List Int) (lo hi : Nat) : List Int := (t.take hi).drop lo
theorem part_cons (t : List Int) (lo hi : Nat) (h : lo < hi) (hh : hi ≤ t.length) : part t lo hi = rd t lo :: part t (lo + 1) hi := by
  unfold part
  rw [List.drop_eq_getElem_cons (by rw [List.length_take]; omega), List.getElem_take, rd_nat _ _ (by omega)]
theorem part_none (t : List Int) (lo : Nat) : part t lo lo = [] := by unfold part; rw [List.drop_eq_nil_iff, List.length_take]; omega
theorem part_snoc (t : List Int) (lo hi : Nat) (h : lo ≤ hi) (hh : hi < t.length) : part t lo (hi + 1) = part t lo hi ++ [rd t hi] := by
  unfold part
  rw [List.take_succ_eq_append_getElem hh, List.drop_append_of_le_length (by rw [List.length_take]; omega), rd_nat _ _ hh]
theorem sumC_append (x : Int) (a b : List Int) : sumC x (a ++ b) = sumC x a + sumC x b := by simp [sumC]
theorem along_right (x : Int) (t : List Int) : ∀ (n p : Nat), p + n ≤ t.length → along x t true n p = sumC x (part t p (p + n))
  | 0, p, _ => by rw [Nat.add_zero, part_none]; rfl
  | n + 1, p, h => by
    rw [part_cons t p (p + (n + 1)) (by omega) h, sumC_cons]
    have := along_right x t n (p + 1) (by omega)
    rw [show p + (n + 1) = p + 1 + n by omega, ← this]
    rfl
theorem along_left (x : Int) (t : List Int) : ∀ (n p : Nat), n ≤ p → p ≤ t.length → along x t false n ((p : Int) - 1) = sumC x (part t (p - n) p)
  | 0, p, _, _ => by rw [Nat.sub_zero, part_none]; rfl
  | n + 1, p, h, hp => by
    obtain ⟨q, rfl⟩ : ∃ q, p = q + 1 := ⟨p - 1, by omega⟩
    rw [part_snoc t _ q (by omega) (by omega), sumC_append]
    have := along_left x t n q (by omega) (by omega)
    rw [show q + 1 - (n + 1) = q - n by omega, ← this]
    simp only [along, stepOf]
    rw [show ((q + 1 : Nat) : Int) - 1 = (q : Int) by omega, show (q : Int) + (if false = true then 1 else -1) = (q : Int) - 1 by simp; omega, sumC_cons, sumC_nil]
    omega

/-- from a bracket to the one that belongs to it and back; between both all sorts are even -/
theorem pair_back (t : List Int) (q : Nat) (g : Int) (hq : q < t.length) (hok : (pt (rd t q)).2.2 = true) (h : pairOf t q = some g) :
    0 ≤ g ∧ g < t.length ∧ g ≠ q ∧ ((pt (rd t q)).2.1 = true ↔ g > q) ∧ rd t g = (pt (rd t q)).1 ∧ (pt (rd t g)).2.2 = true ∧ pairOf t g.toNat = some (q : Int) ∧ ∀ x, sumC x (part t (min q g.toNat) (max q g.toNat + 1)) = 0 := by
  unfold pairOf at h
  obtain ⟨n, k1, k2, k3, k4, k5, k6, k7, k8, k9, k10, k11, k12⟩ := meet_back t _ _ [] q g h (by simp) (fun _ => ⟨hok, rfl⟩)
  have hn := k3 rfl
  simp only [List.getLast_singleton] at k8
  have hgn : ((g.toNat : Nat) : Int) = g := Int.toNat_of_nonneg k4
  refine ⟨k4, k5, ?_, ?_, k8, k6, ?_, fun x => ?_⟩
  · unfold gap at k1; split at k1 <;> omega
  · unfold gap at k1; split at k1
    · rename_i hr; simp only [hr, true_iff]; omega
    · rename_i hr; constructor
      · intro hr'; exact absurd hr' hr
      · intro; omega
  · unfold pairOf
    rw [hgn, k7]
    have hle : n ≤ left_ t (!(pt (rd t q)).2.1) g := by
      unfold left_
      unfold gap at k1
      cases hr : (pt (rd t q)).2.1 <;> simp [hr] at k1 ⊢ <;> omega
    have := k11 (left_ t (!(pt (rd t q)).2.1) g - n)
    rw [show n + (left_ t (!(pt (rd t q)).2.1) g - n) = left_ t (!(pt (rd t q)).2.1) g by omega] at this
    rw [this, if_pos rfl]
  · have := k12 x
    rw [sumC_nil, Int.neg_zero] at this
    unfold gap at k1
    cases hr : (pt (rd t q)).2.1 with
    | true =>
      rw [hr] at this k1
      simp only [if_true] at k1
      rw [along_right x t n q (by omega)] at this
      rw [show min q g.toNat = q by omega, show max q g.toNat + 1 = q + n by omega]
      exact this
    | false =>
      rw [hr] at this k1
      simp only [Bool.false_eq_true, if_false] at k1
      have h2 := along_left x t n (q + 1) (by omega) (by omega)
      rw [show ((q + 1 : Nat) : Int) - 1 = (q : Int) by omega] at h2
      rw [h2] at this
      rw [show min q g.toNat = q + 1 - n by omega, show max q g.toNat + 1 = q + 1 by omega]
      exact this
theorem percent_back (t : List Int) (p q : Nat) (g : Int) (hp : p ≤ t.length) (hb : brk t (t.length - p) p = some q) (h : pairOf t q = some g) : percent t g.toNat = some (q : Int) := by
  obtain ⟨b1, b2, b3, b4, b5⟩ := brk_some t (t.length - p) p q (by omega) hb
  obtain ⟨k1, k2, k3, k4, k5, k6, k7, k8⟩ := pair_back t q g b2 b3 h
  have hgn : ((g.toNat : Nat) : Int) = g := Int.toNat_of_nonneg k1
  have h1 : brk t (t.length - g.toNat) g.toNat = some g.toNat := by
    obtain ⟨d, hd⟩ : ∃ d, t.length - g.toNat = d + 1 := ⟨t.length - g.toNat - 1, by omega⟩
    rw [hd]
    simp only [brk]
    have hne : rd t (g.toNat : Int) ≠ 10 := fun h10 => by
      rw [hgn] at h10
      rw [h10] at k6
      rw [pt_ten] at k6; cases k6
    rw [if_neg hne, hgn, if_pos k6]
  unfold percent
  rw [h1]
  exact k7

end Go.Proofs.Ytjaopgjhmojpnaa.Pb
