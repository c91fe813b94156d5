/-
  Plain facts about block's functions as numbers and lists: stops lie within the text, a count is so many steps. No program in sight beyond the printed functions. Condition: texts of at most 2^40 bytes.
-/
import Derived.Test.YtjaopgjhmojpnaaX
namespace Go.Proofs.Ytjaopgjhmojpnaa.Pb
open Go.RowKit Go.Proofs.YtjaopgjhmojpnaaW.PrintWords Go.Proofs.YtjaopgjhmojpnaaW.PrintLast Go.Proofs.YtjaopgjhmojpnaaW.PrintMore
open Go.Proofs.Ytjaopgjhmojpnaa.X
set_option linter.unusedVariables false
set_option linter.unusedSimpArgs false

theorem w64 {x : Int} (h0 : -9223372036854775808 ≤ x) (h1 : x ≤ 9223372036854775807) : wrap64 x = x := by
  unfold wrap64; omega

/-- is p the start of an empty line? -/
def em (t : List Int) (p : Int) : Bool := (decide (p = 0) || decide (rd t (p - 1) = 10)) && (decide (p = t.length) || decide (rd t p = 10))

theorem empty_eq (t : List Int) (p : Int) (h0 : 0 ≤ p) (h1 : p ≤ t.length) (hb : t.length ≤ 1099511627776) : block_empty.f t p = some (em t p) := by
  unfold block_empty.f em
  rw [w64 (by omega) (by omega)]
  by_cases c : p = 0
  · subst c
    by_cases c2 : (0 : Int) = t.length
    · simp [← c2]
    · have : (0 : Int) < t.length := by omega
      simp [c2, this]; exact ⟨by omega, rfl⟩
  · rw [if_neg c, if_pos (by omega), if_pos (by omega)]
    by_cases c3 : rd t (p - 1) = 10
    · rw [if_pos c3]
      by_cases c2 : p = t.length
      · rw [if_pos c2]; simp [c2] at c3 ⊢; simp [c3]
      · rw [if_neg c2, if_pos (by omega), if_pos (by omega)]; simp [c, c2, c3]; rfl
    · rw [if_neg c3]; simp [c, c3]

/-- The next stop behind a place, in the list's order, or n. -/
def nextUp (l : List Int) (n at_ : Int) : Int := (l.find? (fun x => decide (at_ < x))).getD n
def downs (l : List Int) (n : Int) : Nat → Int → Option Int
  | 0, p => some p
  | c + 1, p => if p = n then none else downs l n c (nextUp l n p)
def told : Option Int → Int × Int
  | some p => (p, 0)
  | none => (0, 70)

theorem rd_nat (l : List Int) (i : Nat) (h : i < l.length) : rd l (i : Int) = l[i] := by
  simp [rd, List.getD_eq_getElem?_getD, List.getElem?_eq_getElem h]

theorem find_skip (l : List Int) (p : Int) (i : Nat) (h : ∀ j, (hj : j < l.length) → j < i → l[j] ≤ p) :
    l.find? (fun x => decide (p < x)) = (l.drop i).find? (fun x => decide (p < x)) := by
  induction i generalizing l with
  | zero => rfl
  | succ i ih =>
    cases l with
    | nil => rfl
    | cons a l =>
      have ha : ¬ p < a := by have := h 0 (by simp) (by omega); simpa using this
      rw [List.find?_cons_of_neg (by simpa using ha), List.drop_succ_cons]
      exact ih l (fun j hj hi => by have := h (j + 1) (by simpa using hj) (by omega); simpa using this)

theorem nextUp_gt (l : List Int) (n p : Int) (h : p < n) : p < nextUp l n p := by
  unfold nextUp
  cases e : l.find? (fun x => decide (p < x)) with
  | none => simpa using h
  | some x => have := List.find?_some e; simpa using this
theorem nextUp_le (l : List Int) (n p : Int) (hL : ∀ x ∈ l, x ≤ n) : nextUp l n p ≤ n := by
  unfold nextUp
  cases e : l.find? (fun x => decide (p < x)) with
  | none => simp
  | some x => exact hL x (List.mem_of_find?_eq_some e)

theorem down_ev (t : List Int) (l : List Int) (hb : t.length ≤ 1099511627776) (hl : l.length ≤ 1099511627777) (hL : ∀ x ∈ l, x ≤ (t.length : Int)) :
    ∀ (c : Nat), c ≤ 10000 → ∀ (p : Int) (i : Nat), p ≤ t.length → i ≤ l.length → (∀ j, (hj : j < l.length) → j < i → l[j] ≤ p) →
      Ev (fun k => block_down.l0 k t p c l i) (told (downs l t.length c p)) := by
  intro c
  induction c with
  | zero =>
    intro _ p i _ _ _
    refine Ev.step (f := fun _ => some (p, 0)) (fun k => ?_) (Ev.now _)
    simp [block_down.l0]
  | succ c ih =>
    intro hc p i hpn hi hle
    by_cases hp : p = t.length
    · refine Ev.step (f := fun _ => some (0, 70)) (fun k => ?_) ?_
      · simp only [block_down.l0]; rw [if_pos (by omega), if_pos hp]
      · simp only [downs]; rw [if_pos hp]; exact Ev.now _
    · refine Ev.step (f := fun k => block_down.l1 k t p ((c + 1 : Nat) : Int) l i) (fun k => ?_) ?_
      · simp only [block_down.l0]; rw [if_pos (by omega), if_neg hp]
      · simp only [downs]; rw [if_neg hp]
        -- the inner loop
        have inner : ∀ (d i : Nat), i ≤ l.length → l.length - i = d → (∀ j, (hj : j < l.length) → j < i → l[j] ≤ p) →
            Ev (fun k => block_down.l1 k t p ((c + 1 : Nat) : Int) l i) (told (downs l t.length c (nextUp l t.length p))) := by
          intro d
          induction d with
          | zero =>
            intro i hi hd hle
            have hi' : i = l.length := by omega
            have hn : nextUp l t.length p = t.length := by
              unfold nextUp; rw [find_skip l p i hle, hi', List.drop_length]; rfl
            refine Ev.step (f := fun k => block_down.l0 k t t.length (c : Int) l i) (fun k => ?_) ?_
            · simp only [block_down.l1]; rw [if_neg (by omega), w64 (by omega) (by omega)]; congr 1; omega
            · rw [hn]; exact ih (by omega) _ i (by omega) hi (fun j hj hji => hL _ (List.getElem_mem hj))
          | succ d ihd =>
            intro i hi hd hle
            have hil : i < l.length := by omega
            by_cases hx : l[i] ≤ p
            · refine Ev.step (f := fun k => block_down.l1 k t p ((c + 1 : Nat) : Int) l ((i + 1 : Nat) : Int)) (fun k => ?_) ?_
              · simp only [block_down.l1]; rw [if_pos (by omega), if_pos (by omega), rd_nat l i hil, if_pos hx, w64 (by omega) (by omega)]; rfl
              · refine ihd (i + 1) (by omega) (by omega) (fun j hj hji => ?_)
                by_cases hj' : j < i
                · exact hle j hj hj'
                · have : j = i := by omega
                  subst this; exact hx
            · have hn : nextUp l t.length p = l[i] := by
                unfold nextUp; rw [find_skip l p i hle, List.drop_eq_getElem_cons hil, List.find?_cons_of_pos (by simpa using hx)]; rfl
              refine Ev.step (f := fun k => block_down.l0 k t l[i] (c : Int) l i) (fun k => ?_) ?_
              · simp only [block_down.l1]; rw [if_pos (by omega), if_pos (by omega), rd_nat l i hil, if_neg hx, w64 (by omega) (by omega)]; congr 1; omega
              · rw [hn]; exact ih (by omega) _ i (hL _ (List.getElem_mem hil)) hi (fun j hj hji => by have := hle j hj hji; omega)
        exact inner _ i hi rfl hle

/-- The next stop ahead of a place, from the list's end, or 0. -/
def nextDn (l : List Int) (p : Int) : Int := (l.reverse.find? (fun x => decide (x < p))).getD 0
def ups (l : List Int) : Nat → Int → Option Int
  | 0, p => some p
  | c + 1, p => if p = 0 then none else ups l c (nextDn l p)
theorem nextDn_lt (l : List Int) (p : Int) (h : 0 < p) : nextDn l p < p := by
  unfold nextDn
  cases e : l.reverse.find? (fun x => decide (x < p)) with
  | none => simpa using h
  | some x => have := List.find?_some e; simpa using this
theorem nextDn_ge (l : List Int) (p : Int) (hL : ∀ x ∈ l, 0 ≤ x) : 0 ≤ nextDn l p := by
  unfold nextDn
  cases e : l.reverse.find? (fun x => decide (x < p)) with
  | none => simp
  | some x => exact hL x (by have := List.mem_of_find?_eq_some e; simpa using this)

/-- Of the list's end only the first i elements count. -/
theorem find_skip_rev (l : List Int) (p : Int) : ∀ (i : Nat), (∀ j, (hj : j < l.length) → i ≤ j → p ≤ l[j]) →
    l.reverse.find? (fun x => decide (x < p)) = (l.take i).reverse.find? (fun x => decide (x < p)) := by
  intro i h
  have e : l.reverse = (l.drop i).reverse ++ (l.take i).reverse := by rw [← List.reverse_append, List.take_append_drop]
  rw [e, List.find?_append]
  have : (l.drop i).reverse.find? (fun x => decide (x < p)) = none := by
    rw [List.find?_eq_none]
    intro x hx
    rw [List.mem_reverse, List.mem_iff_getElem] at hx
    obtain ⟨j, hj, rfl⟩ := hx
    rw [List.getElem_drop]
    have := h (i + j) (by rw [List.length_drop] at hj; omega) (by omega)
    simp; omega
  rw [this]; rfl

theorem up_ev (l : List Int) (hl : l.length ≤ 1099511627777) (hL : ∀ x ∈ l, 0 ≤ x) :
    ∀ (c : Nat), c ≤ 10000 → ∀ (p : Int) (i : Nat), 0 ≤ p → i ≤ l.length → (∀ j, (hj : j < l.length) → i ≤ j → p ≤ l[j]) →
      Ev (fun k => block_up.l0 k p c l ((i : Int) - 1)) (told (ups l c p)) := by
  intro c
  induction c with
  | zero =>
    intro _ p i _ _ _
    refine Ev.step (f := fun _ => some (p, 0)) (fun k => ?_) (Ev.now _)
    simp [block_up.l0]
  | succ c ih =>
    intro hc p i hpn hi hle
    by_cases hp : p = 0
    · refine Ev.step (f := fun _ => some (0, 70)) (fun k => ?_) ?_
      · simp only [block_up.l0]; rw [if_pos (by omega), if_pos hp]
      · simp only [ups]; rw [if_pos hp]; exact Ev.now _
    · refine Ev.step (f := fun k => block_up.l1 k p ((c + 1 : Nat) : Int) l ((i : Int) - 1)) (fun k => ?_) ?_
      · simp only [block_up.l0]; rw [if_pos (by omega), if_neg hp]
      · simp only [ups]; rw [if_neg hp]
        have inner : ∀ (i : Nat), i ≤ l.length → (∀ j, (hj : j < l.length) → i ≤ j → p ≤ l[j]) →
            Ev (fun k => block_up.l1 k p ((c + 1 : Nat) : Int) l ((i : Int) - 1)) (told (ups l c (nextDn l p))) := by
          intro i
          induction i with
          | zero =>
            intro hi hle
            have hn : nextDn l p = 0 := by
              unfold nextDn; rw [find_skip_rev l p 0 hle]; rfl
            refine Ev.step (f := fun k => block_up.l0 k 0 (c : Int) l (((0 : Nat) : Int) - 1)) (fun k => ?_) ?_
            · simp only [block_up.l1]; rw [if_neg (by omega), w64 (by omega) (by omega)]; congr 1; omega
            · rw [hn]; exact ih (by omega) _ 0 (by omega) hi (fun j hj hji => hL _ (List.getElem_mem hj))
          | succ i ihd =>
            intro hi hle
            have hil : i < l.length := by omega
            have ei : (((i + 1 : Nat) : Int) - 1) = (i : Int) := by omega
            rw [ei]
            by_cases hx : p ≤ l[i]
            · refine Ev.step (f := fun k => block_up.l1 k p ((c + 1 : Nat) : Int) l ((i : Int) - 1)) (fun k => ?_) ?_
              · simp only [block_up.l1]; rw [if_pos (by omega), if_pos (by omega), if_pos (by omega), rd_nat l i hil, if_pos hx, w64 (by omega) (by omega)]
              · refine ihd (by omega) (fun j hj hji => ?_)
                by_cases hj' : i + 1 ≤ j
                · exact hle j hj hj'
                · have : j = i := by omega
                  subst this; exact hx
            · have hn : nextDn l p = l[i] := by
                unfold nextDn; rw [find_skip_rev l p (i + 1) hle, List.take_succ_eq_append_getElem hil, List.reverse_append, List.reverse_singleton, List.singleton_append, List.find?_cons_of_pos (by simpa using hx)]; rfl
              refine Ev.step (f := fun k => block_up.l0 k l[i] (c : Int) l (i : Int)) (fun k => ?_) ?_
              · simp only [block_up.l1]; rw [if_pos (by omega), if_pos (by omega), if_pos (by omega), rd_nat l i hil, if_neg hx, w64 (by omega) (by omega)]; congr 1; omega
              · rw [hn]; have e2 : (i : Int) = ((i + 1 : Nat) : Int) - 1 := by omega
                rw [e2]; exact ih (by omega) _ (i + 1) (hL _ (List.getElem_mem hil)) (by omega) (fun j hj hji => by have := hle j hj hji; omega)
        exact inner i hi hle

/-! stops -/
def stopAt (key : ByteArray) (t : List Int) (p : Int) : Bool :=
  em t p && (if key.toList = ([123] : List UInt8) then decide (p < t.length) && !em t (p + 1) else decide (0 < p) && !em t (p - 1))
def upTo (t : List Int) : Nat → Nat → List Int
  | 0, _ => []
  | d + 1, p => (p : Int) :: upTo t d (p + 1)
def parasFrom (key : ByteArray) (t : List Int) (d p : Nat) : List Int := (upTo t d p).filter (stopAt key t)

theorem upTo_mem (t : List Int) : ∀ (d p : Nat) (x : Int), x ∈ upTo t d p ↔ (p : Int) ≤ x ∧ x < p + d
  | 0, p, x => by simp only [upTo, List.not_mem_nil, false_iff]; omega
  | d + 1, p, x => by simp only [upTo, List.mem_cons, upTo_mem t d (p + 1) x]; omega
theorem upTo_length (t : List Int) : ∀ (d p : Nat), (upTo t d p).length = d
  | 0, p => rfl
  | d + 1, p => by simp [upTo, upTo_length t d (p + 1)]

theorem stops_l0_ev (key : ByteArray) (t : List Int) (hb : t.length ≤ 1099511627776) :
    ∀ (d p : Nat), p + d = t.length + 1 → ∀ acc : List Int, acc.length ≤ p →
      Ev (fun k => block_stops.l0 k t key acc p) (acc ++ parasFrom key t d p) := by
  intro d
  induction d with
  | zero =>
    intro p hp acc ha
    refine Ev.step (f := fun _ => some acc) (fun k => ?_) ?_
    · simp only [block_stops.l0]; rw [if_neg (by omega)]
    · simp [parasFrom, upTo]; exact Ev.now _
  | succ d ih =>
    intro p hp acc ha
    have hp1 : ((p : Int) + 1) = ((p + 1 : Nat) : Int) := by omega
    have hno : stopAt key t p = false → Ev (fun k => block_stops.l0 k t key acc ((p : Int) + 1)) (acc ++ parasFrom key t (d + 1) p) := fun h => by
      have : parasFrom key t (d + 1) p = parasFrom key t d (p + 1) := by simp [parasFrom, upTo, h]
      rw [this, hp1]; exact ih (p + 1) (by omega) acc (by omega)
    have hyes : stopAt key t p = true → Ev (fun k => block_stops.l0 k t key (acc ++ [(p : Int)]) ((p : Int) + 1)) (acc ++ parasFrom key t (d + 1) p) := fun h => by
      have : parasFrom key t (d + 1) p = (p : Int) :: parasFrom key t d (p + 1) := by simp [parasFrom, upTo, h]
      have e : acc ++ parasFrom key t (d + 1) p = (acc ++ [(p : Int)]) ++ parasFrom key t d (p + 1) := by rw [this]; simp
      rw [e, hp1]; exact ih (p + 1) (by omega) (acc ++ [(p : Int)]) (by rw [List.length_append, List.length_singleton]; omega)
    have e0 := empty_eq t p (by omega) (by omega) hb
    by_cases he : em t p = true
    · -- j2 with the flag
      have hj2 : ∀ x7 : Bool, (x7 = (decide (0 < (p : Int)) && !em t (p - 1))) → Ev (fun k => block_stops.j2 k t key acc p x7) (acc ++ parasFrom key t (d + 1) p) := by
        intro x7 hx7
        by_cases hk : key.toList = ([123] : List UInt8)
        · by_cases hl : (p : Int) < t.length
          · have e1 := empty_eq t (p + 1) (by omega) (by omega) hb
            by_cases he1 : em t (p + 1) = true
            · refine Ev.step (f := fun k => block_stops.l0 k t key acc ((p : Int) + 1)) (fun k => ?_) (hno (by simp [stopAt, hk, he1]))
              simp only [block_stops.j2]; rw [if_pos hk, if_pos hl, w64 (by omega) (by omega), e1]; simp [he1]
            · refine Ev.step (f := fun k => block_stops.l0 k t key (acc ++ [(p : Int)]) ((p : Int) + 1)) (fun k => ?_) (hyes (by simp only [Bool.not_eq_true] at he1; simp [stopAt, hk, he1, he]; omega))
              simp only [block_stops.j2]; rw [if_pos hk, if_pos hl, w64 (by omega) (by omega), e1]; simp [he1]; intro; omega
          · refine Ev.step (f := fun k => block_stops.l0 k t key acc ((p : Int) + 1)) (fun k => ?_) (hno (by simp [stopAt, hk]; omega))
            simp only [block_stops.j2]; rw [if_pos hk, if_neg hl, w64 (by omega) (by omega)]
        · cases x7 with
          | true =>
            refine Ev.step (f := fun k => block_stops.l0 k t key (acc ++ [(p : Int)]) ((p : Int) + 1)) (fun k => ?_) (hyes (by simp [stopAt, hk, he]; simpa using hx7.symm))
            simp only [block_stops.j2]; rw [if_neg hk, if_pos trivial, if_pos (by omega), w64 (by omega) (by omega)]
          | false =>
            refine Ev.step (f := fun k => block_stops.l0 k t key acc ((p : Int) + 1)) (fun k => ?_) (hno (by simp only [stopAt, if_neg hk]; rw [← hx7]; simp))
            simp only [block_stops.j2]; rw [if_neg hk, if_neg (by simp), w64 (by omega) (by omega)]
      by_cases h0 : 0 < (p : Int)
      · have e1 := empty_eq t (p - 1) (by omega) (by omega) hb
        refine Ev.step (f := fun k => block_stops.j2 k t key acc p (!em t (p - 1))) (fun k => ?_) (hj2 _ (by rw [decide_eq_true h0, Bool.true_and]))
        simp only [block_stops.l0]; rw [if_pos (by omega), e0]; simp only [Option.bind_some, he, if_true]; rw [if_pos (by omega), w64 (by omega) (by omega), e1]; rfl
      · refine Ev.step (f := fun k => block_stops.j2 k t key acc p false) (fun k => ?_) (hj2 _ (by rw [decide_eq_false h0, Bool.false_and]))
        simp only [block_stops.l0]; rw [if_pos (by omega), e0]; simp only [Option.bind_some, he, if_true]; rw [if_neg (by omega)]
    · refine Ev.step (f := fun k => block_stops.l0 k t key acc ((p : Int) + 1)) (fun k => ?_) (hno (by simp only [Bool.not_eq_true] at he; simp [stopAt, he]))
      simp only [block_stops.l0]; rw [if_pos (by omega), e0]; simp only [Option.bind_some]; rw [if_neg he, w64 (by omega) (by omega)]

def paras (key : ByteArray) (t : List Int) : List Int := parasFrom key t (t.length + 1) 0
theorem stops_para_ev (key : ByteArray) (t : List Int) (hb : t.length ≤ 1099511627776) (h1 : key.toList ≠ ([40] : List UInt8)) (h2 : key.toList ≠ ([41] : List UInt8)) :
    Ev (fun k => block_stops.f k t key) (paras key t) := by
  refine Ev.congr (f := fun k => block_stops.j0 k t key false) (fun k => ?_) ?_
  · unfold block_stops.f; rw [if_neg h1, beq_eq_false_iff_ne.mpr h2]
  · refine Ev.step (f := fun k => block_stops.l0 k t key [] 0) (fun k => ?_) ?_
    · simp only [block_stops.j0]; rw [if_neg (by simp)]
    · exact stops_l0_ev key t hb (t.length + 1) 0 (by omega) [] (Nat.le_refl 0)
theorem paras_mem (key : ByteArray) (t : List Int) (x : Int) : x ∈ paras key t ↔ 0 ≤ x ∧ x ≤ t.length ∧ stopAt key t x = true := by
  unfold paras parasFrom; rw [List.mem_filter, upTo_mem]; constructor
  · rintro ⟨⟨a, b⟩, c⟩; exact ⟨by omega, by omega, c⟩
  · rintro ⟨a, b, c⟩; exact ⟨⟨by omega, by omega⟩, c⟩
theorem paras_length (key : ByteArray) (t : List Int) : (paras key t).length ≤ t.length + 1 := by
  unfold paras parasFrom; exact Nat.le_trans (List.length_filter_le _ _) (by rw [upTo_length]; omega)

/-! sentences -/
def Bytes (t : List Int) : Prop := ∀ x ∈ t, 0 ≤ x ∧ x ≤ 255
def blankB (c : Int) : Bool := decide (c = 10) || decide (c = 32) || decide (c = 9)
def closeB (c : Int) : Bool := decide (c = 41) || decide (c = 93) || decide (c = 34) || decide (c = 39)
def stopB (c : Int) : Bool := decide (c = 46) || decide (c = 33) || decide (c = 63)

theorem close_eq : ∀ n : Nat, n < 256 → (decide (0 ≤ Lib.indexByte [41, 93, 34, 39] n.toUInt8)) = closeB n := by decide +kernel
theorem stop_eq : ∀ n : Nat, n < 256 → (decide (0 ≤ Lib.indexByte [46, 33, 63] n.toUInt8)) = stopB n := by decide +kernel

theorem of_ev (c : Int) (hc : c ≠ 10) (h0 : 0 ≤ c) : Ev (fun k => block_blank.f k c) (blankB c) := by
  by_cases h : c = 32 ∨ c = 9
  · refine Ev.congr (f := fun k => (class_Of.j0 k c false true).bind fun t108 => some (t108 == 0)) (fun k => ?_) ?_
    · unfold block_blank.f class_Of.f; rw [if_neg hc, if_neg hc]
      by_cases h2 : c = 32
      · rw [if_pos h2]
      · rw [if_neg h2]; have : c = 9 := by omega
        simp [this]
    · refine Ev.step (f := fun _ => some true) (fun k => ?_) ?_
      · simp [class_Of.j0]
      · have : blankB c = true := by simp [blankB]; omega
        rw [this]; exact Ev.now _
  · refine Ev.congr (f := fun k => (class_Of.j0 k c false false).bind fun t108 => some (t108 == 0)) (fun k => ?_) ?_
    · unfold block_blank.f class_Of.f; rw [if_neg hc, if_neg hc, if_neg (by omega)]
      have : (c == 9) = false := by simp; omega
      rw [this]
    · refine Ev.step (f := fun _ => some false) (fun k => ?_) ?_
      · simp only [class_Of.j0, class_small.f, class_great.f]
        repeat' split
        all_goals simp_all
        all_goals (repeat' split)
        all_goals simp_all
      · have : blankB c = false := by simp [blankB]; omega
        rw [this]; exact Ev.now _
theorem blank_ev (c : Int) (h0 : 0 ≤ c) : Ev (fun k => block_blank.f k c) (blankB c) := by
  by_cases hc : c = 10
  · refine Ev.congr (f := fun _ => some true) (fun k => ?_) ?_
    · unfold block_blank.f; rw [if_pos hc]
    · subst hc; exact Ev.now _
  · exact of_ev c hc h0

/-- Where sentences stop, as the scan has it: what is left, the place, and the four marks. -/
def sentL (t : List Int) : Nat → Nat → Bool → Bool → Bool → Bool → List Int
  | 0, _, _, _, _, _ => if em t t.length = true then (if (t.length : Int) = 0 ∨ em t (t.length - 1) = false then [(t.length : Int)] else []) else []
  | d + 1, p, first, ended, gap, bare =>
    if blankB (rd t p) = true then
      (if em t p = true then (if (p : Int) = 0 ∨ em t (p - 1) = false then [(p : Int)] else []) ++ sentL t d (p + 1) first ended true true
       else sentL t d (p + 1) first ended true bare)
    else (if (first || (gap && (ended || bare))) = true then [(p : Int)] else []) ++
      sentL t d (p + 1) false (stopB (rd t p) || (closeB (rd t p) && (ended && !gap))) false false

theorem sentL_mem (t : List Int) : ∀ (d p : Nat) (a b c e : Bool), p + d = t.length → ∀ x ∈ sentL t d p a b c e, 0 ≤ x ∧ x ≤ (t.length : Int)
  | 0, p, a, b, c, e, h, x, hx => by
    simp only [sentL] at hx
    split at hx
    · split at hx
      · simp at hx; omega
      · simp at hx
    · simp at hx
  | d + 1, p, a, b, c, e, h, x, hx => by
    have ih := fun a b c e => sentL_mem t d (p + 1) a b c e (by omega) x
    simp only [sentL] at hx
    split at hx
    · split at hx
      · rw [List.mem_append] at hx
        rcases hx with hx | hx
        · split at hx
          · simp at hx; omega
          · simp at hx
        · exact ih _ _ _ _ hx
      · exact ih _ _ _ _ hx
    · rw [List.mem_append] at hx
      rcases hx with hx | hx
      · split at hx
        · simp at hx; omega
        · simp at hx
      · exact ih _ _ _ _ hx
theorem sentL_length (t : List Int) : ∀ (d p : Nat) (a b c e : Bool), (sentL t d p a b c e).length ≤ d + 1
  | 0, p, a, b, c, e => by
    simp only [sentL]; split
    · split <;> simp
    · simp
  | d + 1, p, a, b, c, e => by
    have ih := fun a b c e => sentL_length t d (p + 1) a b c e
    simp only [sentL]
    split
    · split
      · rw [List.length_append]; have := ih a b true true; split <;> simp <;> omega
      · have := ih a b true e; omega
    · rw [List.length_append]; have := ih false (stopB (rd t p) || (closeB (rd t p) && (b && !c))) false false; split <;> simp <;> omega

theorem byte_at (t : List Int) (hB : Bytes t) (p : Nat) (h : p < t.length) : 0 ≤ rd t p ∧ rd t p ≤ 255 := by
  rw [rd_nat t p h]; exact hB _ (List.getElem_mem h)

theorem idx_close (c : Int) (h0 : 0 ≤ c) (h1 : c ≤ 255) : strings_IndexByte.f (⟨#[41, 93, 34, 39]⟩ : ByteArray) c = some (Lib.indexByte [41, 93, 34, 39] c.toNat.toUInt8) ∧ decide (0 ≤ Lib.indexByte [41, 93, 34, 39] c.toNat.toUInt8) = closeB c := by
  refine ⟨rfl, ?_⟩
  have := close_eq c.toNat (by omega)
  rw [this]; congr 1; omega
theorem idx_stop (c : Int) (h0 : 0 ≤ c) (h1 : c ≤ 255) : strings_IndexByte.f (⟨#[46, 33, 63]⟩ : ByteArray) c = some (Lib.indexByte [46, 33, 63] c.toNat.toUInt8) ∧ decide (0 ≤ Lib.indexByte [46, 33, 63] c.toNat.toUInt8) = stopB c := by
  refine ⟨rfl, ?_⟩
  have := stop_eq c.toNat (by omega)
  rw [this]; congr 1; omega

theorem sent_l0_ev (t : List Int) (hb : t.length ≤ 1099511627776) (hB : Bytes t) :
    ∀ (d p : Nat), p + d = t.length → ∀ (acc : List Int) (a b c e : Bool), acc.length ≤ p →
      Ev (fun k => block_sentences.l0 k t acc a b c e t t.length p) (acc ++ sentL t d p a b c e) := by
  intro d
  induction d with
  | zero =>
    intro p hp acc a b c e ha
    have e0 := empty_eq t t.length (by omega) (by omega) hb
    by_cases h1 : em t t.length = true
    · by_cases h2 : (t.length : Int) = 0
      · refine Ev.step (f := fun _ => some (acc ++ [(t.length : Int)])) (fun k => ?_) ?_
        · simp only [block_sentences.l0]; rw [if_neg (by omega), e0]; simp only [Option.bind_some, h1, if_true]; rw [if_pos h2, if_pos (by omega)]
        · simp only [sentL]; rw [if_pos h1, if_pos (.inl h2)]; exact Ev.now _
      · have e1 := empty_eq t (t.length - 1) (by omega) (by omega) hb
        by_cases h3 : em t (t.length - 1) = true
        · refine Ev.step (f := fun _ => some acc) (fun k => ?_) ?_
          · simp only [block_sentences.l0]; rw [if_neg (by omega), e0]; simp only [Option.bind_some, h1, if_true]; rw [if_neg h2, w64 (by omega) (by omega), e1]; simp [h3]
          · simp only [sentL]; rw [if_pos h1, if_neg (by rintro (h | h); exact h2 h; simp [h3] at h), List.append_nil]; exact Ev.now _
        · refine Ev.step (f := fun _ => some (acc ++ [(t.length : Int)])) (fun k => ?_) ?_
          · simp only [block_sentences.l0]; rw [if_neg (by omega), e0]; simp only [Option.bind_some, h1, if_true]; rw [if_neg h2, w64 (by omega) (by omega), e1]; simp only [Option.bind_some]; rw [if_neg h3, if_pos (by omega)]
          · simp only [sentL]; rw [if_pos h1, if_pos (.inr (by simpa using h3))]; exact Ev.now _
    · refine Ev.step (f := fun _ => some acc) (fun k => ?_) ?_
      · simp only [block_sentences.l0]; rw [if_neg (by omega), e0]; simp only [Option.bind_some]; rw [if_neg h1]
      · simp only [sentL]; rw [if_neg h1, List.append_nil]; exact Ev.now _
  | succ d ih =>
    intro p hp acc a b c e ha
    have hlt : p < t.length := by omega
    have hc := byte_at t hB p hlt
    have hp1 : wrap64 ((p : Int) + 1) = ((p + 1 : Nat) : Int) := by rw [w64 (by omega) (by omega)]; omega
    obtain ⟨K, hK0⟩ := blank_ev (rd t p) hc.1
    have hK : ∀ k, K ≤ k → block_blank.f k (rd t p) = some (blankB (rd t p)) := hK0
    -- the first tests of the round
    have head : ∀ {g : Nat → Option (List Int)} {r : List Int}, Ev g r →
        (∀ k, K ≤ k → block_sentences.l0 (k + 1) t acc a b c e t t.length p = g k) → Ev (fun k => block_sentences.l0 k t acc a b c e t t.length p) r := by
      intro g r ⟨K2, h2⟩ h
      refine ⟨max K K2 + 1, fun k hk => ?_⟩
      obtain ⟨k, rfl⟩ : ∃ m, k = m + 1 := ⟨k - 1, by omega⟩
      show block_sentences.l0 (k + 1) t acc a b c e t t.length p = some r
      rw [h k (by omega)]; exact h2 k (by omega)
    by_cases hbl : blankB (rd t p) = true
    · have e0 := empty_eq t p (by omega) (by omega) hb
      by_cases h1 : em t p = true
      · by_cases h2 : (p : Int) = 0
        · have ee : acc ++ sentL t (d + 1) p a b c e = (acc ++ [(p : Int)]) ++ sentL t d (p + 1) a b true true := by
            simp only [sentL]; rw [if_pos hbl, if_pos h1, if_pos (.inl h2), List.append_assoc]
          rw [ee]
          refine head (ih (p + 1) (by omega) (acc ++ [(p : Int)]) a b true true (by rw [List.length_append, List.length_singleton]; omega)) (fun k hk => ?_)
          simp only [block_sentences.l0]; rw [if_pos (by omega), if_pos (by omega), if_pos (by omega), hK k hk]; simp only [Option.bind_some]
          rw [if_pos hbl, e0]; simp only [Option.bind_some]; rw [if_pos h1, if_pos h2, if_pos (by omega), hp1]
        · have e1 := empty_eq t (p - 1) (by omega) (by omega) hb
          by_cases h3 : em t (p - 1) = true
          · have ee : acc ++ sentL t (d + 1) p a b c e = acc ++ sentL t d (p + 1) a b true true := by
              simp only [sentL]; rw [if_pos hbl, if_pos h1, if_neg (by rintro (h | h); exact h2 h; simp [h3] at h), List.nil_append]
            rw [ee]
            refine head (ih (p + 1) (by omega) acc a b true true (by omega)) (fun k hk => ?_)
            simp only [block_sentences.l0]; rw [if_pos (by omega), if_pos (by omega), if_pos (by omega), hK k hk]; simp only [Option.bind_some]
            rw [if_pos hbl, e0]; simp only [Option.bind_some]; rw [if_pos h1, if_neg h2, w64 (x := (p : Int) - 1) (by omega) (by omega), e1]; simp only [Option.bind_some]; rw [if_pos h3, hp1]
          · have ee : acc ++ sentL t (d + 1) p a b c e = (acc ++ [(p : Int)]) ++ sentL t d (p + 1) a b true true := by
              simp only [sentL]; rw [if_pos hbl, if_pos h1, if_pos (.inr (by simpa using h3)), List.append_assoc]
            rw [ee]
            refine head (ih (p + 1) (by omega) (acc ++ [(p : Int)]) a b true true (by rw [List.length_append, List.length_singleton]; omega)) (fun k hk => ?_)
            simp only [block_sentences.l0]; rw [if_pos (by omega), if_pos (by omega), if_pos (by omega), hK k hk]; simp only [Option.bind_some]
            rw [if_pos hbl, e0]; simp only [Option.bind_some]; rw [if_pos h1, if_neg h2, w64 (x := (p : Int) - 1) (by omega) (by omega), e1]; simp only [Option.bind_some]; rw [if_neg h3, if_pos (by omega), hp1]
      · have ee : acc ++ sentL t (d + 1) p a b c e = acc ++ sentL t d (p + 1) a b true e := by
          simp only [sentL]; rw [if_pos hbl, if_neg h1]
        rw [ee]
        refine head (ih (p + 1) (by omega) acc a b true e (by omega)) (fun k hk => ?_)
        simp only [block_sentences.l0]; rw [if_pos (by omega), if_pos (by omega), if_pos (by omega), hK k hk]; simp only [Option.bind_some]
        rw [if_pos hbl, e0]; simp only [Option.bind_some]; rw [if_neg h1, hp1]
    · obtain ⟨i1, i2⟩ := idx_close _ hc.1 hc.2
      obtain ⟨i3, i4⟩ := idx_stop _ hc.1 hc.2
      -- what follows the test of a stop
      have tail : ∀ (acc' : List Int), acc'.length ≤ p + 1 → ∀ K' : Nat,
          Ev (fun k => if Lib.indexByte [46, 33, 63] (rd t p).toNat.toUInt8 ≥ 0 then (block_sentences.l0 k t acc' false true false false t t.length (wrap64 ((p : Int) + 1))) else (if Lib.indexByte [41, 93, 34, 39] (rd t p).toNat.toUInt8 ≥ 0 then (if b = true then (block_sentences.l0 k t acc' false (!c) false false t t.length (wrap64 ((p : Int) + 1))) else (block_sentences.l0 k t acc' false false false false t t.length (wrap64 ((p : Int) + 1)))) else (block_sentences.l0 k t acc' false false false false t t.length (wrap64 ((p : Int) + 1)))))
            (acc' ++ sentL t d (p + 1) false (stopB (rd t p) || (closeB (rd t p) && (b && !c))) false false) := by
        intro acc' ha' _
        rw [hp1]
        by_cases s1 : Lib.indexByte [46, 33, 63] (rd t p).toNat.toUInt8 ≥ 0
        · have : stopB (rd t p) = true := by rw [← i4]; simpa using s1
          rw [this]; refine Ev.congr (fun k => ?_) (ih (p + 1) (by omega) acc' false true false false ha'); rw [if_pos s1]
        · have z1 : stopB (rd t p) = false := by rw [← i4]; simpa using s1
          by_cases s2 : Lib.indexByte [41, 93, 34, 39] (rd t p).toNat.toUInt8 ≥ 0
          · have z2 : closeB (rd t p) = true := by rw [← i2]; simpa using s2
            cases b with
            | true => rw [z1, z2]; refine Ev.congr (fun k => ?_) (ih (p + 1) (by omega) acc' false (!c) false false ha'); rw [if_neg s1, if_pos s2, if_pos rfl]
            | false => rw [z1, z2]; refine Ev.congr (fun k => ?_) (ih (p + 1) (by omega) acc' false false false false ha'); rw [if_neg s1, if_pos s2, if_neg (by simp)]
          · have z2 : closeB (rd t p) = false := by rw [← i2]; simpa using s2
            rw [z1, z2]; refine Ev.congr (fun k => ?_) (ih (p + 1) (by omega) acc' false false false false ha'); rw [if_neg s1, if_neg s2]
      have hj1 : ∀ fl : Bool, Ev (fun k => block_sentences.j1 k t acc b c p (rd t p) t t.length p fl)
          (acc ++ ((if fl = true then [(p : Int)] else []) ++ sentL t d (p + 1) false (stopB (rd t p) || (closeB (rd t p) && (b && !c))) false false)) := by
        intro fl
        cases fl with
        | true =>
          have := tail (acc ++ [(p : Int)]) (by rw [List.length_append, List.length_singleton]; omega) 0
          rw [if_pos rfl, ← List.append_assoc]
          refine Ev.step (fun k => ?_) this
          simp only [block_sentences.j1]; rw [if_pos trivial, if_pos (by omega), i1, i3]; simp only [Option.bind_some]
        | false =>
          have := tail acc (by omega) 0
          rw [if_neg (by simp), List.nil_append]
          refine Ev.step (fun k => ?_) this
          simp only [block_sentences.j1]; rw [if_neg (by simp), i1, i3]; simp only [Option.bind_some]
      have ee : acc ++ sentL t (d + 1) p a b c e = acc ++ ((if (a || (c && (b || e))) = true then [(p : Int)] else []) ++ sentL t d (p + 1) false (stopB (rd t p) || (closeB (rd t p) && (b && !c))) false false) := by
        simp only [sentL]; rw [if_neg hbl]
      rw [ee]
      refine head (hj1 (a || (c && (b || e)))) (fun k hk => ?_)
      simp only [block_sentences.l0]; rw [if_pos (by omega), if_pos (by omega), if_pos (by omega), hK k hk]; simp only [Option.bind_some]
      rw [if_neg hbl]
      cases a <;> cases b <;> cases c <;> simp

def sents (t : List Int) : List Int := sentL t t.length 0 true false false false
theorem sentences_ev (t : List Int) (hb : t.length ≤ 1099511627776) (hB : Bytes t) : Ev (fun k => block_sentences.f k t) (sents t) := by
  have := sent_l0_ev t hb hB t.length 0 (by omega) [] true false false false (Nat.le_refl 0)
  exact this

/-- The stops of a key. -/
def stopsOf (key : ByteArray) (t : List Int) : List Int := if key.toList = ([40] : List UInt8) ∨ key.toList = ([41] : List UInt8) then sents t else paras key t
theorem stops_ev (key : ByteArray) (t : List Int) (hb : t.length ≤ 1099511627776) (hB : Bytes t) : Ev (fun k => block_stops.f k t key) (stopsOf key t) := by
  by_cases h1 : key.toList = ([40] : List UInt8)
  · unfold stopsOf; rw [if_pos (.inl h1)]
    refine Ev.congr (f := fun k => block_stops.j0 k t key true) (fun k => ?_) ?_
    · unfold block_stops.f; rw [if_pos h1]
    · refine Ev.step (fun k => ?_) (sentences_ev t hb hB)
      simp only [block_stops.j0]; rw [if_pos trivial]; simp
  · by_cases h2 : key.toList = ([41] : List UInt8)
    · unfold stopsOf; rw [if_pos (.inr h2)]
      refine Ev.congr (f := fun k => block_stops.j0 k t key true) (fun k => ?_) ?_
      · unfold block_stops.f; rw [if_neg h1, beq_iff_eq.mpr h2]
      · refine Ev.step (fun k => ?_) (sentences_ev t hb hB)
        simp only [block_stops.j0]; rw [if_pos trivial]; simp
    · unfold stopsOf; rw [if_neg (by rintro (h | h); exact h1 h; exact h2 h)]; exact stops_para_ev key t hb h1 h2
theorem stopsOf_mem (key : ByteArray) (t : List Int) : ∀ x ∈ stopsOf key t, 0 ≤ x ∧ x ≤ (t.length : Int) := by
  intro x hx
  unfold stopsOf at hx
  split at hx
  · exact sentL_mem t t.length 0 _ _ _ _ (by omega) x hx
  · have := (paras_mem key t x).1 hx; exact ⟨this.1, this.2.1⟩
theorem stopsOf_length (key : ByteArray) (t : List Int) : (stopsOf key t).length ≤ t.length + 1 := by
  unfold stopsOf
  split
  · exact sentL_length t t.length 0 _ _ _ _
  · exact paras_length key t

/-! Move -/
def moved (a : Int) : Option Int → Int × Int × Int × Int
  | some p => (a, p, 1, 0)
  | none => (0, 0, 0, 70)
def fwd (key : ByteArray) : Bool := key.toList == ([125] : List UInt8) || key.toList == ([41] : List UInt8)
def bwd (key : ByteArray) : Bool := key.toList == ([123] : List UInt8) || key.toList == ([40] : List UInt8)
def goes (key : ByteArray) (t : List Int) (c : Nat) (p : Int) : Option Int := if fwd key = true then downs (stopsOf key t) t.length c p else ups (stopsOf key t) c p

theorem move_j1_fwd (key : ByteArray) (t : List Int) (hb : t.length ≤ 1099511627776) (hB : Bytes t) (a c : Int) (h0 : 0 ≤ a) (h1 : a ≤ t.length) (h2 : 1 ≤ c) (h3 : c ≤ 9999) :
    Ev (fun k => block_Move.j1 k t a c key 1 key true) (moved a (downs (stopsOf key t) t.length c.toNat a)) := by
  have hs := stops_ev key t hb hB
  have hd := down_ev t (stopsOf key t) hb (by have := stopsOf_length key t; omega) (fun x hx => (stopsOf_mem key t x hx).2) c.toNat (by omega) a 0 h1 (by omega) (fun j _ hj => by omega)
  refine Ev.step (f := fun k => (block_stops.f k t key).bind fun t185 => ((block_down.f k t a c t185).bind fun bt188 => (if bt188.2 = 0 then (some (a, bt188.1, 1, 0)) else (some (0, 0, 0, bt188.2))))) (fun k => ?_) ?_
  · simp only [block_Move.j1]; rw [if_pos trivial]
  · refine Ev.bind hs ?_
    refine Ev.bind (g := fun k => block_down.f k t a c (stopsOf key t)) (a := told (downs (stopsOf key t) t.length c.toNat a)) ?_ ?_
    · refine Ev.congr (fun k => ?_) hd
      unfold block_down.f; congr 1; omega
    · cases downs (stopsOf key t) t.length c.toNat a with
      | some p => exact Ev.now _
      | none => exact Ev.now _
theorem move_j2_bwd (key : ByteArray) (t : List Int) (hb : t.length ≤ 1099511627776) (hB : Bytes t) (a c : Int) (h0 : 0 ≤ a) (h1 : a ≤ t.length) (h2 : 1 ≤ c) (h3 : c ≤ 9999) :
    Ev (fun k => block_Move.j2 k t a c key 1 key true) (moved a (ups (stopsOf key t) c.toNat a)) := by
  have hs := stops_ev key t hb hB
  have hd := up_ev (stopsOf key t) (by have := stopsOf_length key t; omega) (fun x hx => (stopsOf_mem key t x hx).1) c.toNat (by omega) a (stopsOf key t).length h0 (Nat.le_refl _) (fun j hj hj' => by omega)
  refine Ev.step (f := fun k => (block_stops.f k t key).bind fun t190 => ((block_up.f k a c t190).bind fun bt193 => (if bt193.2 = 0 then (some (a, bt193.1, 1, 0)) else (some (0, 0, 0, bt193.2))))) (fun k => ?_) ?_
  · simp only [block_Move.j2]; rw [if_pos trivial]
  · refine Ev.bind hs ?_
    refine Ev.bind (g := fun k => block_up.f k a c (stopsOf key t)) (a := told (ups (stopsOf key t) c.toNat a)) ?_ ?_
    · refine Ev.congr (fun k => ?_) hd
      unfold block_up.f; rw [w64 (by omega) (by have := stopsOf_length key t; omega)]; congr 1; omega
    · cases ups (stopsOf key t) c.toNat a with
      | some p => exact Ev.now _
      | none => exact Ev.now _

theorem move_f_j0 (key : ByteArray) (t : List Int) (a c : Int) (h0 : 0 ≤ a) (h1 : a ≤ t.length) (h2 : 1 ≤ c) (h3 : c ≤ 9999) (k : Nat) :
    block_Move.f k t a c key = block_Move.j0 k t a c key false := by
  unfold block_Move.f; rw [if_neg (by omega), if_neg (by omega), if_neg (by omega), decide_eq_false (by omega)]

/-- Each of the four keys goes so many steps. -/
theorem move_ev (key : ByteArray) (t : List Int) (hb : t.length ≤ 1099511627776) (hB : Bytes t) (a c : Int) (h0 : 0 ≤ a) (h1 : a ≤ t.length) (h2 : 1 ≤ c) (h3 : c ≤ 9999) (hk : fwd key = true ∨ bwd key = true) :
    Ev (fun k => block_Move.f k t a c key) (moved a (goes key t c.toNat a)) := by
  refine Ev.congr (move_f_j0 key t a c h0 h1 h2 h3) ?_
  unfold goes
  by_cases hf : fwd key = true
  · rw [if_pos hf]
    have hj := move_j1_fwd key t hb hB a c h0 h1 h2 h3
    refine Ev.step (fun k => ?_) hj
    simp only [block_Move.j0]; rw [if_neg (by simp)]
    by_cases e1 : key.toList = ([125] : List UInt8)
    · rw [if_pos e1, beq_iff_eq.mpr e1]
    · rw [if_neg e1]; have : (key.toList == ([41] : List UInt8)) = true := by simpa [fwd, e1] using hf
      rw [this]
  · rw [if_neg hf]
    have hbw : bwd key = true := hk.resolve_left hf
    have e1 : key.toList ≠ ([125] : List UInt8) := by intro e; apply hf; simp [fwd, e]
    have e2 : key.toList ≠ ([41] : List UInt8) := by intro e; apply hf; simp [fwd, e]
    have hj := move_j2_bwd key t hb hB a c h0 h1 h2 h3
    refine Ev.step (f := fun k => block_Move.j1 k t a c key 1 key false) (fun k => ?_) ?_
    · simp only [block_Move.j0]; rw [if_neg (by simp), if_neg e1, beq_eq_false_iff_ne.mpr e2]
    · refine Ev.step (fun k => ?_) hj
      simp only [block_Move.j1]; rw [if_neg (by simp)]
      by_cases e3 : key.toList = ([123] : List UInt8)
      · rw [if_pos e3, beq_iff_eq.mpr e3]
      · rw [if_neg e3]; have : (key.toList == ([40] : List UInt8)) = true := by simpa [bwd, e3] using hbw
        rw [this]

theorem downs_le (l : List Int) (n : Int) (hL : ∀ x ∈ l, x ≤ n) : ∀ (c : Nat) (p q : Int), p ≤ n → downs l n c p = some q → q ≤ n
  | 0, p, q, h, e => by simp [downs] at e; omega
  | c + 1, p, q, h, e => by
    simp only [downs] at e
    split at e
    · cases e
    · exact downs_le l n hL c _ q (nextUp_le l n p hL) e

/-- A step further: one key, one count. -/
theorem goes_zero (key : ByteArray) (t : List Int) (p : Int) : goes key t 0 p = some p := by unfold goes; split <;> rfl
theorem goes_succ (key : ByteArray) (t : List Int) (c : Nat) (p : Int) : goes key t (c + 1) p = (goes key t 1 p).bind (goes key t c) := by
  unfold goes
  split
  · simp only [downs]; split <;> simp
  · simp only [ups]; split <;> simp
theorem goes_one_fwd (key : ByteArray) (t : List Int) (p q : Int) (hf : fwd key = true) (h1 : p ≤ t.length) (h : goes key t 1 p = some q) : p < q ∧ q ≤ t.length := by
  unfold goes at h; rw [if_pos hf] at h
  simp only [downs] at h
  split at h
  · cases h
  · cases h
    exact ⟨nextUp_gt _ _ _ (by omega), nextUp_le _ _ _ (fun x hx => (stopsOf_mem key t x hx).2)⟩
theorem goes_one_bwd (key : ByteArray) (t : List Int) (p q : Int) (hf : fwd key = false) (h0 : 0 ≤ p) (h : goes key t 1 p = some q) : 0 ≤ q ∧ q < p := by
  unfold goes at h; rw [if_neg (by simp [hf])] at h
  simp only [ups] at h
  split at h
  · cases h
  · cases h
    exact ⟨nextDn_ge _ _ (fun x hx => (stopsOf_mem key t x hx).1), nextDn_lt _ _ (by omega)⟩

end Go.Proofs.Ytjaopgjhmojpnaa.Pb
