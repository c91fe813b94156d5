/-
  Plain facts about lines, paragraphs and sentences: the reference's stops are the program's. Condition: texts of at most 2^40 bytes.
-/
import Derived.Test.YtjaopgjhmojpnaaPc
namespace Go.Proofs.Ytjaopgjhmojpnaa.Pb
open Go.RowKit Go.Proofs.YtjaopgjhmojpnaaW.PrintWords Go.Proofs.YtjaopgjhmojpnaaW.PrintLast Go.Proofs.YtjaopgjhmojpnaaW.PrintMore
open Go.Proofs.Ytjaopgjhmojpnaa.X Go.Proofs.Ytjaopgjhmojpnaa
set_option linter.unusedVariables false
set_option linter.unusedSimpArgs false

/-! lines -/
def glue (pre : List Int) : List (List Int) → List (List Int)
  | [] => [pre]
  | l :: ls => (pre ++ l) :: ls
def linesL : List Int → List (List Int)
  | [] => [[]]
  | c :: r => if c = 10 then [] :: linesL r else glue [c] (linesL r)
theorem glue_glue (a b : List Int) (L : List (List Int)) : glue a (glue b L) = glue (a ++ b) L := by
  cases L <;> simp [glue]
theorem lines_ne : ∀ x : List Int, linesL x ≠ []
  | [] => by simp [linesL]
  | c :: r => by
    unfold linesL
    split
    · simp
    · cases linesL r <;> simp [glue]
theorem glue_nil (L : List (List Int)) (h : L ≠ []) : glue [] L = L := by
  cases L with
  | nil => exact absurd rfl h
  | cons l ls => simp [glue]
theorem lines_cases : ∀ x : List Int, ∃ l, (∀ c ∈ l, c ≠ 10) ∧ ((x = l ∧ linesL x = [l]) ∨ ∃ x', x = l ++ 10 :: x' ∧ linesL x = l :: linesL x')
  | [] => ⟨[], by simp, .inl ⟨rfl, rfl⟩⟩
  | c :: r => by
    by_cases h : c = 10
    · exact ⟨[], by simp, .inr ⟨r, by simp [h], by simp [linesL, h]⟩⟩
    · obtain ⟨l, h1, h2⟩ := lines_cases r
      refine ⟨c :: l, fun x hx => ?_, ?_⟩
      · rcases List.mem_cons.1 hx with rfl | hx
        · exact h
        · exact h1 x hx
      · rcases h2 with ⟨rfl, h2⟩ | ⟨x', rfl, h2⟩
        · left; exact ⟨rfl, by simp [linesL, h, h2, glue]⟩
        · right; exact ⟨x', rfl, by simp only [linesL, if_neg h, h2, glue]; rfl⟩
theorem lines_length : ∀ x : List Int, (linesL x).length ≤ x.length + 1
  | [] => by simp [linesL]
  | c :: r => by
    have := lines_length r
    unfold linesL
    split
    · simp; omega
    · cases h : linesL r with
      | nil => simp [glue]
      | cons a b => rw [h] at this; simp [glue] at this ⊢; omega
theorem split_ev (t : List Int) (hb : t.length ≤ 1099511627776) : Ev (fun k => quoinref05_Split.f k t) (linesL t) := by
  have loop : ∀ (d p s : Nat) (acc : List (List Int)), p + d = t.length → s ≤ p → acc.length ≤ p → Ev (fun k => quoinref05_Split.l0 k t acc (s : Int) (p : Int)) (acc ++ glue ((t.take p).drop s) (linesL (t.drop p))) := by
    intro d
    induction d with
    | zero =>
      intro p s acc hp hs ha
      have hpl : p = t.length := by omega
      have hlen : ((t.take p).drop s).length < 140737488355328 := by rw [List.length_drop, List.length_take]; omega
      refine Ev.step (f := fun k => quoinref05_Split.l0 k t (acc ++ [(t.take p).drop s]) ((p + 1 : Nat) : Int) ((p + 1 : Nat) : Int)) (fun k => ?_) ?_
      · simp only [quoinref05_Split.l0]
        rw [if_pos (by omega), if_pos (by omega)]
        simp only [Option.bind_some, List.length_nil, List.nil_append, Int.toNat_natCast]
        rw [if_pos (by omega), if_pos (by omega), if_pos (by omega), if_pos (by omega), w64 (by omega) (by omega)]; rfl
      · refine Ev.step (f := fun _ => some (acc ++ [(t.take p).drop s])) (fun k => ?_) ?_
        · simp only [quoinref05_Split.l0]; rw [if_neg (by omega)]
        · rw [List.drop_eq_nil_of_le (show t.length ≤ p by omega)]
          simp only [linesL, glue, List.append_nil]; exact Ev.now _
    | succ d ih =>
      intro p s acc hp hs ha
      have hlt : p < t.length := by omega
      have hlen : ((t.take p).drop s).length < 140737488355328 := by rw [List.length_drop, List.length_take]; omega
      rw [List.drop_eq_getElem_cons hlt]
      by_cases h10 : t[p] = 10
      · refine Ev.step (f := fun k => quoinref05_Split.l0 k t (acc ++ [(t.take p).drop s]) ((p + 1 : Nat) : Int) ((p + 1 : Nat) : Int)) (fun k => ?_) ?_
        · simp only [quoinref05_Split.l0]
          rw [if_pos (by omega), if_neg (by omega), if_pos (by omega), if_pos (by omega), rd_nat t p hlt, if_pos h10]
          simp only [Option.bind_some, List.length_nil, List.nil_append, Int.toNat_natCast]
          rw [if_pos (by omega), if_pos (by omega), if_pos (by omega), if_pos (by omega), w64 (by omega) (by omega)]; rfl
        · have := ih (p + 1) (p + 1) (acc ++ [(t.take p).drop s]) (by omega) (Nat.le_refl _) (by simp; omega)
          rw [List.drop_eq_nil_of_le (show (t.take (p + 1)).length ≤ p + 1 by rw [List.length_take]; omega), glue_nil _ (lines_ne _)] at this
          simp only [linesL, if_pos h10, glue, List.append_nil]
          rw [List.append_assoc, List.singleton_append] at this
          exact this
      · refine Ev.step (f := fun k => quoinref05_Split.l0 k t acc (s : Int) ((p + 1 : Nat) : Int)) (fun k => ?_) ?_
        · simp only [quoinref05_Split.l0]
          rw [if_pos (by omega), if_neg (by omega), if_pos (by omega), if_pos (by omega), rd_nat t p hlt, if_neg h10, w64 (by omega) (by omega)]; rfl
        · have := ih (p + 1) s acc (by omega) (by omega) (by omega)
          have e : (t.take (p + 1)).drop s = (t.take p).drop s ++ [t[p]] := by
            rw [List.take_succ_eq_append_getElem hlt, List.drop_append_of_le_length (by rw [List.length_take]; omega)]
          rw [e] at this
          simp only [linesL, if_neg h10, glue_glue]
          exact this
  have := loop t.length 0 0 [] (by omega) (Nat.le_refl _) (Nat.le_refl _)
  simp only [List.drop_zero, List.take_zero, List.nil_append] at this
  rw [glue_nil _ (lines_ne _)] at this
  exact this

theorem empty_line (L : List (List Int)) (i : Nat) (h : i < L.length) : quoinref10_empty.f L i = some (decide (L[i] = [])) := by
  unfold quoinref10_empty.f
  rw [if_pos (by omega), if_pos (by omega), if_pos (by omega)]
  have e : rd_L2 L (i : Int) = L[i] := by simp [rd_L2, List.getD_eq_getElem?_getD, List.getElem?_eq_getElem h]
  rw [e]
  congr 1
  by_cases c : L[i] = []
  · rw [c]; simp
  · rw [decide_eq_false c]
    simp
    intro h0; exact c h0
theorem empty_out (L : List (List Int)) (i : Int) (h : i < 0) : quoinref10_empty.f L i = some false := by
  unfold quoinref10_empty.f
  rw [if_neg (by omega)]

/-- a line of the text: it begins at p; what is known of it -/
structure LineAt (t : List Int) (L : List (List Int)) (i p : Nat) (l : List Int) : Prop where
  idx : i < L.length
  line : L[i]'idx = l
  fits : p + l.length ≤ t.length
  start : p = 0 ∨ rd t (p - 1 : Int) = 10
  no10 : ∀ j : Nat, j < l.length → rd t (p + j : Int) ≠ 10
  get : ∀ j : Nat, j < l.length → rd l j = rd t (p + j : Int)
  prev0 : i = 0 ↔ p = 0
  prev : ∀ h : 0 < i, (L[i - 1]'(by omega) = [] ↔ em t (p - 1 : Int) = true)
  next : (p + l.length = t.length ∧ i + 1 = L.length) ∨ (p + l.length < t.length ∧ rd t (p + l.length : Int) = 10 ∧ ∃ h : i + 1 < L.length, (L[i + 1]'h = [] ↔ em t (p + l.length + 1 : Int) = true))
theorem em_line {t : List Int} {L : List (List Int)} {i p : Nat} {l : List Int} (h : LineAt t L i p l) : em t p = decide (l = []) := by
  unfold em
  have h1 : (decide ((p : Int) = 0) || decide (rd t ((p : Int) - 1) = 10)) = true := by
    rcases h.start with h1 | h1
    · simp [h1]
    · simp [h1]
  rw [h1, Bool.true_and]
  by_cases c : l = []
  · subst c
    rw [decide_eq_true rfl]
    rcases h.next with ⟨h2, _⟩ | ⟨_, h2, _⟩
    · simp at h2; simp [h2]
    · simp at h2; simp [h2]
  · rw [decide_eq_false c]
    have hl : 0 < l.length := List.length_pos_iff.2 c
    have h2 := h.no10 0 hl
    simp at h2
    have := h.fits
    simp [h2]; omega
/-- within a line no place begins one -/
theorem em_inside {t : List Int} {L : List (List Int)} {i p : Nat} {l : List Int} (h : LineAt t L i p l) (q : Nat) (h1 : p < q) (h2 : q ≤ p + l.length) : em t q = false := by
  have h3 := h.no10 (q - 1 - p) (by omega)
  rw [show ((p : Int) + ((q - 1 - p : Nat) : Int)) = (q : Int) - 1 by omega] at h3
  unfold em
  have : (decide ((q : Int) = 0) || decide (rd t ((q : Int) - 1) = 10)) = false := by simp [h3]; omega
  rw [this]; rfl
/-- lines one behind the other -/
inductive Chain (t : List Int) (L : List (List Int)) : Nat → Nat → Prop
  | done {i : Nat} (h : L.length = i) : Chain t L i (t.length + 1)
  | more {i p : Nat} (l : List Int) (h : LineAt t L i p l) (r : Chain t L (i + 1) (p + l.length + 1)) : Chain t L i p

theorem rd_drop (t : List Int) (p j : Nat) : rd (t.drop p) j = rd t (p + j : Int) := by
  have e : ((p : Int) + (j : Int)).toNat = p + j := by omega
  simp [rd, List.getD_eq_getElem?_getD, e]
theorem rd_app_left (l r : List Int) (j : Nat) (h : j < l.length) : rd (l ++ r) j = rd l j := by
  simp [rd, List.getD_eq_getElem?_getD, List.getElem?_append_left h]
theorem chain_from (t : List Int) (L : List (List Int)) : ∀ (n i p : Nat), t.length + 1 - p = n → p ≤ t.length → i < L.length → L.drop i = linesL (t.drop p) → (p = 0 ∨ rd t (p - 1 : Int) = 10) → (i = 0 ↔ p = 0) → (∀ h : 0 < i, ∀ h' : i - 1 < L.length, (L[i - 1]'h' = [] ↔ em t (p - 1 : Int) = true)) → Chain t L i p := by
  intro n
  induction n using Nat.strongRecOn with
  | _ n ih =>
    intro i p hn hp hi hL hs h0 hpv
    obtain ⟨l, hl, hc⟩ := lines_cases (t.drop p)
    have hdl : L.drop i = L[i] :: L.drop (i + 1) := List.drop_eq_getElem_cons hi
    have hno : ∀ r, t.drop p = l ++ r → ∀ j : Nat, j < l.length → rd t (p + j : Int) ≠ 10 ∧ rd l j = rd t (p + j : Int) := fun r hr j hj => by
      have e : rd l j = rd t (p + j : Int) := by rw [← rd_drop, hr, rd_app_left _ _ _ hj]
      refine ⟨?_, e⟩
      rw [← e, rd_nat l j hj]; exact hl _ (List.getElem_mem hj)
    rcases hc with ⟨hx, hcl⟩ | ⟨x', hx, hcl⟩
    · rw [hcl, hdl] at hL
      simp only [List.cons.injEq] at hL
      have hlen : l.length = t.length - p := by rw [← hx, List.length_drop]
      have hL1 : L.length = i + 1 := by have := List.drop_eq_nil_iff.1 hL.2; omega
      have hno' := hno [] (by simpa using hx)
      refine .more l ⟨hi, hL.1, by omega, hs, fun j hj => (hno' j hj).1, fun j hj => (hno' j hj).2, h0, fun h => hpv h (by omega), .inl ⟨by omega, hL1.symm⟩⟩ ?_
      rw [show p + l.length + 1 = t.length + 1 by omega]
      exact .done hL1
    · rw [hcl, hdl] at hL
      simp only [List.cons.injEq] at hL
      have hlen : t.length - p = l.length + 1 + x'.length := by
        have := congrArg List.length hx
        simp only [List.length_drop, List.length_append, List.length_cons] at this; omega
      have hno' := hno (10 :: x') hx
      have hx' : t.drop (p + l.length + 1) = x' := by
        rw [show p + l.length + 1 = p + (l.length + 1) by omega, ← List.drop_drop, hx, ← List.drop_drop, List.drop_left]; rfl
      have h10 : rd t (p + l.length : Int) = 10 := by
        have := rd_drop t p l.length
        rw [← this, hx]
        simp [rd, List.getD_eq_getElem?_getD]
      have hi1 : i + 1 < L.length := by
        apply Classical.byContradiction
        intro hcn
        rw [List.drop_eq_nil_of_le (by omega)] at hL
        exact lines_ne x' hL.2.symm
      have hem : em t ((p + l.length + 1 : Nat) : Int) = decide (p + l.length + 1 = t.length ∨ rd t (p + l.length + 1 : Int) = 10) := by
        unfold em
        have : (decide (((p + l.length + 1 : Nat) : Int) = 0) || decide (rd t (((p + l.length + 1 : Nat) : Int) - 1) = 10)) = true := by
          rw [show (((p + l.length + 1 : Nat) : Int) - 1) = ((p : Int) + l.length) by omega]; simp [h10]
        rw [this, Bool.true_and, ← Bool.decide_or]
        congr 1
        apply propext
        rw [show (((p + l.length + 1 : Nat)) : Int) = (p : Int) + l.length + 1 by omega]
        constructor <;> (rintro (h | h); exact .inl (by omega); exact .inr h)
      have hnext : L[i + 1] = [] ↔ em t (p + l.length + 1 : Int) = true := by
        rw [show ((p : Int) + l.length + 1) = ((p + l.length + 1 : Nat) : Int) by omega, hem, decide_eq_true_iff]
        rw [List.drop_eq_getElem_cons hi1] at hL
        obtain ⟨l2, hl2, hc2⟩ := lines_cases x'
        have e2 : L[i + 1] = l2 := by
          rcases hc2 with ⟨_, h⟩ | ⟨_, _, h⟩ <;> (rw [h] at hL; simp only [List.cons.injEq] at hL; exact hL.2.1)
        rw [e2]
        have hd : rd t ((p : Int) + l.length + 1) = rd x' 0 := by
          have := rd_drop t (p + l.length + 1) 0
          rw [hx'] at this
          rw [show ((p : Int) + l.length + 1) = (((p + l.length + 1 : Nat) : Int) + ((0 : Nat) : Int)) by omega]; exact this.symm
        rw [hd]
        constructor
        · rintro rfl
          rcases hc2 with ⟨h, _⟩ | ⟨x'', h, _⟩
          · left; subst h; simp at hlen; omega
          · right; subst h; simp [rd]
        · rintro (h | h)
          · have : x'.length = 0 := by omega
            have hx0 : x' = [] := List.length_eq_zero_iff.1 this
            rcases hc2 with ⟨h, _⟩ | ⟨x'', h, _⟩
            · rw [← h, hx0]
            · rw [hx0] at h; simp at h
          · cases l2 with
            | nil => rfl
            | cons c l2 =>
              have hc0 := hl2 c (by simp)
              rcases hc2 with ⟨h', _⟩ | ⟨x'', h', _⟩
              · rw [h'] at h; simp [rd] at h; exact absurd h hc0
              · rw [h'] at h; simp [rd] at h; exact absurd h hc0
      have hLA : LineAt t L i p l := ⟨hi, hL.1, by omega, hs, fun j hj => (hno' j hj).1, fun j hj => (hno' j hj).2, h0, fun h => hpv h (by omega), .inr ⟨by omega, h10, hi1, hnext⟩⟩
      refine .more l hLA (ih (t.length + 1 - (p + l.length + 1)) (by omega) (i + 1) (p + l.length + 1) rfl (by omega) hi1 (by rw [hx']; exact hL.2) (.inr ?_) ⟨fun h => by omega, fun h => by omega⟩ (fun h h' => ?_))
      · rw [show (((p + l.length + 1 : Nat) : Int) - 1) = ((p : Int) + l.length) by omega]; exact h10
      · have e1 : (((p + l.length + 1 : Nat) : Int) - 1) = ((p + l.length : Nat) : Int) := by omega
        rw [e1]
        simp only [Nat.add_sub_cancel]
        rw [hL.1]
        by_cases c : l = []
        · subst c
          have := em_line hLA
          rw [decide_eq_true rfl] at this
          simp only [List.length_nil, Nat.add_zero, true_iff]; exact this
        · have hl0 : 0 < l.length := List.length_pos_iff.2 c
          have := em_inside hLA (p + l.length) (by omega) (Nat.le_refl _)
          rw [this]; simp [c]
theorem chain_all (t : List Int) : Chain t (linesL t) 0 0 := by
  refine chain_from t (linesL t) _ 0 0 rfl (by omega) (List.length_pos_iff.2 (lines_ne t)) rfl (.inl rfl) (by simp) (fun h => by omega)

/-! paragraphs -/
def kUp : ByteArray := ⟨#[123]⟩
def kDown : ByteArray := ⟨#[125]⟩
def keyOf (down : Bool) : ByteArray := if down = true then kDown else kUp
theorem stop_down (t : List Int) (p : Int) : stopAt kDown t p = (em t p && (decide (0 < p) && !em t (p - 1))) := by
  unfold stopAt
  rw [if_neg (by simp [kDown, Lib.toList_data])]
theorem stop_up (t : List Int) (p : Int) : stopAt kUp t p = (em t p && (decide (p < t.length) && !em t (p + 1))) := by
  unfold stopAt
  rw [if_pos (by simp [kUp, Lib.toList_data])]
theorem filter_skip (f : Int → Bool) (t : List Int) : ∀ (m d p : Nat), (∀ q : Nat, p ≤ q → q < p + m → f q = false) → (upTo t (m + d) p).filter f = (upTo t d (p + m)).filter f
  | 0, d, p, _ => by simp
  | m + 1, d, p, h => by
    rw [show m + 1 + d = (m + d) + 1 by omega]
    simp only [upTo, List.filter_cons]
    rw [if_neg (by simp [h p (Nat.le_refl _) (by omega)]), filter_skip f t m d (p + 1) (fun q h1 h2 => h q (by omega) (by omega)), show p + 1 + m = p + (m + 1) by omega]
theorem paras_line {t : List Int} {L : List (List Int)} {i p : Nat} {l : List Int} (h : LineAt t L i p l) (down : Bool) :
    parasFrom (keyOf down) t (t.length + 1 - p) p = (if stopAt (keyOf down) t p = true then [(p : Int)] else []) ++ parasFrom (keyOf down) t (t.length + 1 - (p + l.length + 1)) (p + l.length + 1) := by
  have hf := h.fits
  have e : t.length + 1 - p = (l.length + (t.length - (p + l.length))) + 1 := by omega
  unfold parasFrom
  rw [e]
  simp only [upTo, List.filter_cons]
  rw [filter_skip _ t l.length (t.length - (p + l.length)) (p + 1) (fun q h1 h2 => by unfold stopAt; rw [em_inside h q (by omega) (by omega)]; rfl)]
  rw [show t.length + 1 - (p + l.length + 1) = t.length - (p + l.length) by omega, show p + 1 + l.length = p + l.length + 1 by omega]
  split <;> rfl
theorem linelen (L : List (List Int)) (i : Nat) (h : i < L.length) : rd_L2 L (i : Int) = L[i] := by simp [rd_L2, List.getD_eq_getElem?_getD, List.getElem?_eq_getElem h]
theorem paras_loop (t : List Int) (L : List (List Int)) (hb : t.length ≤ 1099511627776) (hLl : L.length ≤ t.length + 1) (down : Bool) : ∀ (i p : Nat), Chain t L i p → ∀ (acc : List Int), acc.length ≤ i →
    Ev (fun k => quoinref10_Paragraphs.l0 k down L acc (p : Int) (i : Int)) (acc ++ parasFrom (keyOf down) t (t.length + 1 - p) p) := by
  intro i p hC
  induction hC with
  | @done i h =>
    intro acc ha
    refine Ev.step (f := fun _ => some acc) (fun k => ?_) ?_
    · simp only [quoinref10_Paragraphs.l0]; rw [if_neg (by omega)]
    · rw [Nat.sub_self]; simp [parasFrom, upTo]; exact Ev.now _
  | @more i p l h r ih =>
    intro acc ha
    have hf := h.fits
    have hi := h.idx
    rw [paras_line h down]
    have hrl := linelen L i h.idx
    rw [h.line] at hrl
    have hw : wrap64 (wrap64 ((p : Int) + (l.length : Int)) + 1) = ((p + l.length + 1 : Nat) : Int) := by rw [w64 (x := (p : Int) + l.length) (by omega) (by omega), w64 (by omega) (by omega)]; omega
    have hwi : wrap64 ((i : Int) + 1) = ((i + 1 : Nat) : Int) := by rw [w64 (by omega) (by omega)]; omega
    have hnext : ∀ b : Bool, b = stopAt (keyOf down) t p → Ev (fun k => if b = true then quoinref10_Paragraphs.l0 k down L (acc ++ [(p : Int)]) ((p + l.length + 1 : Nat) : Int) ((i + 1 : Nat) : Int) else quoinref10_Paragraphs.l0 k down L acc ((p + l.length + 1 : Nat) : Int) ((i + 1 : Nat) : Int)) (acc ++ ((if stopAt (keyOf down) t p = true then [(p : Int)] else []) ++ parasFrom (keyOf down) t (t.length + 1 - (p + l.length + 1)) (p + l.length + 1))) := by
      intro b hb'
      subst hb'
      cases stopAt (keyOf down) t p with
      | true =>
        have := ih (acc ++ [(p : Int)]) (by simp; omega)
        rw [List.append_assoc] at this
        exact this
      | false =>
        have := ih acc (by omega)
        simpa using this
    have e0 := empty_line L i h.idx
    rw [h.line] at e0
    have hem := em_line h
    have hcond : ∀ (o : Int) (ob : Bool), ((if o ≥ 0 then (if o < (L.length : Int) then (quoinref10_empty.f L o).bind fun b => some (!b) else some false) else some false) = some ob) → stopAt (keyOf down) t p = (em t p && ob) →
        Ev (fun k => quoinref10_Paragraphs.j1 k down L acc (p : Int) (i : Int) o) (acc ++ ((if stopAt (keyOf down) t p = true then [(p : Int)] else []) ++ parasFrom (keyOf down) t (t.length + 1 - (p + l.length + 1)) (p + l.length + 1))) := by
      intro o ob ho hst
      refine Ev.step (fun k => ?_) (hnext (em t p && ob) hst.symm)
      simp only [quoinref10_Paragraphs.j1]
      rw [e0, hem]
      simp only [Option.bind_some]
      by_cases c : l = []
      · rw [decide_eq_true c, if_pos rfl, Bool.true_and]
        by_cases c1 : o ≥ 0
        · rw [if_pos c1] at ho ⊢
          by_cases c2 : o < (L.length : Int)
          · rw [if_pos c2] at ho ⊢
            cases hq : quoinref10_empty.f L o with
            | none => rw [hq] at ho; simp at ho
            | some b =>
              rw [hq] at ho
              simp only [Option.bind_some, Option.some.injEq] at ho ⊢
              subst ho
              cases b with
              | true => simp only [if_true, Bool.not_true]; rw [if_pos (by omega), if_pos (by omega), hrl, hw, hwi]; simp
              | false => simp only [Bool.not_false, if_true]; rw [if_neg (by simp), if_pos (by omega), if_pos (by omega), if_pos (by omega), hrl, hw, hwi]
          · rw [if_neg c2] at ho ⊢
            cases ho
            rw [if_pos (by omega), if_pos (by omega), hrl, hw, hwi]; simp
        · rw [if_neg c1] at ho ⊢
          cases ho
          rw [if_pos (by omega), if_pos (by omega), hrl, hw, hwi]; simp
      · rw [decide_eq_false c, if_neg (by simp), if_pos (by omega), if_pos (by omega), hrl, hw, hwi, Bool.false_and]; simp
    cases down with
    | true =>
      refine Ev.step (f := fun k => quoinref10_Paragraphs.j1 k true L acc (p : Int) (i : Int) ((i : Int) - 1)) (fun k => ?_) ?_
      · simp only [quoinref10_Paragraphs.l0]; rw [if_pos (by omega), if_pos trivial, w64 (by omega) (by omega)]
      · by_cases hi0 : i = 0
        · have hp0 := h.prev0.1 hi0
          refine hcond _ false (by rw [if_neg (by omega)]) ?_
          show stopAt kDown t p = _
          rw [stop_down]; simp [hp0]
        · have hpv := h.prev (by omega)
          have hpp : p ≠ 0 := fun e => hi0 (h.prev0.2 e)
          have eo := empty_line L (i - 1) (by omega)
          refine hcond _ (!em t (p - 1 : Int)) ?_ ?_
          · rw [if_pos (by omega), if_pos (by omega), show ((i : Int) - 1) = ((i - 1 : Nat) : Int) by omega, eo]
            simp only [Option.bind_some]
            congr 2
            cases hc : em t ((p : Int) - 1) with
            | true => rw [hc] at hpv; simp at hpv; simp [hpv]
            | false => rw [hc] at hpv; simp at hpv; simp [hpv]
          · show stopAt kDown t p = _
            rw [stop_down, decide_eq_true (by omega), Bool.true_and]
    | false =>
      refine Ev.step (f := fun k => quoinref10_Paragraphs.j1 k false L acc (p : Int) (i : Int) ((i : Int) + 1)) (fun k => ?_) ?_
      · simp only [quoinref10_Paragraphs.l0]; rw [if_pos (by omega), if_neg (by simp), w64 (by omega) (by omega)]
      · by_cases c : l = []
        · have hl0 : l.length = 0 := by rw [c]; rfl
          rcases h.next with ⟨h1, h2⟩ | ⟨h1, h2, h3, h4⟩
          · refine hcond _ false (by rw [if_pos (by omega), if_neg (by omega)]) ?_
            show stopAt kUp t p = _
            rw [stop_up, decide_eq_false (by omega)]; simp
          · have eo := empty_line L (i + 1) h3
            rw [hl0] at h1 h4
            refine hcond _ (!em t (p + 1 : Int)) ?_ ?_
            · rw [if_pos (by omega), if_pos (by omega), show ((i : Int) + 1) = ((i + 1 : Nat) : Int) by omega, eo]
              simp only [Option.bind_some]
              congr 2
              rw [show ((p : Int) + ((0 : Nat) : Int) + 1) = (p : Int) + 1 by omega] at h4
              cases hc : em t ((p : Int) + 1) with
              | true => rw [hc] at h4; simp at h4; simp [h4]
              | false => rw [hc] at h4; simp at h4; simp [h4]
            · show stopAt kUp t p = _
              rw [stop_up, decide_eq_true (by omega), Bool.true_and]
        · have hst : stopAt kUp t p = false := by rw [stop_up, hem, decide_eq_false c]; rfl
          have hk : ∃ ob, (if (i : Int) + 1 ≥ 0 then (if (i : Int) + 1 < (L.length : Int) then (quoinref10_empty.f L ((i : Int) + 1)).bind fun b => some (!b) else some false) else some false) = some ob := by
            by_cases c2 : i + 1 < L.length
            · have eo := empty_line L (i + 1) c2
              refine ⟨!decide (L[i + 1] = []), ?_⟩
              rw [if_pos (by omega), if_pos (by omega), show ((i : Int) + 1) = ((i + 1 : Nat) : Int) by omega, eo]; rfl
            · exact ⟨false, by rw [if_pos (by omega), if_neg (by omega)]⟩
          obtain ⟨ob, hob⟩ := hk
          refine hcond _ ob hob ?_
          show stopAt kUp t p = _
          rw [hst, hem, decide_eq_false c]; rfl
theorem refparas_ev (t : List Int) (hb : t.length ≤ 1099511627776) (down : Bool) : Ev (fun k => quoinref10_Paragraphs.f k t down) (paras (keyOf down) t) := by
  unfold quoinref10_Paragraphs.f
  refine Ev.bind (split_ev t hb) ?_
  have := paras_loop t (linesL t) hb (lines_length t) down 0 0 (chain_all t) [] (Nat.le_refl _)
  simp only [List.nil_append, Nat.sub_zero] at this
  exact this

/-! sentences -/
/-- where the blanks ahead of a place begin; is an empty line among them; does a sentence's end end at a place? -/
def qs (t : List Int) : Nat → Nat
  | 0 => 0
  | p + 1 => if blankB (rd t p) = true then qs t p else p + 1
def bareAt (t : List Int) : Nat → Bool
  | 0 => false
  | p + 1 => if blankB (rd t p) = true then bareAt t p || em t p else false
def fin (t : List Int) : Nat → Bool
  | 0 => false
  | p + 1 => if closeB (rd t p) = true then fin t p else stopB (rd t p)
theorem qs_le (t : List Int) : ∀ p, qs t p ≤ p
  | 0 => Nat.le_refl _
  | p + 1 => by have := qs_le t p; unfold qs; split <;> omega
theorem bare_gap (t : List Int) : ∀ p, bareAt t p = true → qs t p < p
  | 0, h => by simp [bareAt] at h
  | p + 1, h => by
    have := qs_le t p
    unfold bareAt at h
    unfold qs
    by_cases c : blankB (rd t p) = true
    · rw [if_pos c]; omega
    · rw [if_neg c] at h; simp at h
theorem close_blank {c : Int} (h : blankB c = true) : closeB c = false ∧ stopB c = false := by
  simp only [blankB, Bool.or_eq_true, decide_eq_true_eq] at h
  simp only [closeB, stopB]
  constructor <;> simp <;> omega
theorem fin_gap (t : List Int) : ∀ p, qs t p < p → fin t p = false
  | 0, h => by omega
  | p + 1, h => by
    unfold qs at h
    by_cases c : blankB (rd t p) = true
    · unfold fin
      rw [(close_blank c).1, if_neg (by simp), (close_blank c).2]
    · rw [if_neg c] at h; omega
def beginsB (t : List Int) (p : Nat) : Bool := bareAt t p || (decide (qs t p = 0) || (decide (qs t p < p) && fin t (qs t p)))
def refS (t : List Int) (p : Int) : Bool := (em t p && (decide (p = 0) || !em t (p - 1))) || (decide (p < t.length) && (!blankB (rd t p) && beginsB t p.toNat))
theorem em_blank {t : List Int} {p : Nat} (hp : p < t.length) (h : em t p = true) : blankB (rd t p) = true := by
  unfold em at h
  simp only [Bool.and_eq_true, Bool.or_eq_true, decide_eq_true_eq] at h
  have : rd t p = 10 := by
    rcases h.2 with h | h
    · omega
    · exact h
  simp [blankB, this]
theorem sent_ref (t : List Int) : ∀ (d p : Nat), p + d = t.length → sentL t d p (decide (qs t p = 0)) (fin t (qs t p)) (decide (qs t p < p)) (bareAt t p) = (upTo t (d + 1) p).filter (refS t) := by
  intro d
  induction d with
  | zero =>
    intro p hp
    have hpl : p = t.length := by omega
    subst hpl
    simp only [sentL, upTo, List.filter_cons, List.filter_nil]
    unfold refS
    rw [show decide ((t.length : Int) < (t.length : Int)) = false by simp, Bool.false_and, Bool.or_false]
    cases h1 : em t t.length with
    | false => simp
    | true =>
      rw [if_pos rfl, Bool.true_and]
      by_cases h2 : (t.length : Int) = 0
      · rw [if_pos (.inl h2), decide_eq_true h2]; simp
      · cases h3 : em t ((t.length : Int) - 1) with
        | false => rw [if_pos (.inr rfl)]; simp
        | true => rw [if_neg (by rintro (h | h); exact h2 h; simp at h), decide_eq_false h2]; simp
  | succ d ih =>
    intro p hp
    have hlt : p < t.length := by omega
    have hih := ih (p + 1) (by omega)
    rw [show upTo t (d + 1 + 1) p = (p : Int) :: upTo t (d + 1) (p + 1) from rfl, List.filter_cons]
    simp only [sentL]
    by_cases hbl : blankB (rd t p) = true
    · rw [if_pos hbl]
      have q1 : qs t (p + 1) = qs t p := by unfold qs; rw [if_pos hbl]; cases p <;> rfl
      have q2 : bareAt t (p + 1) = (bareAt t p || em t p) := by
        conv => lhs; unfold bareAt
        rw [if_pos hbl]
      have q3 := qs_le t p
      rw [q1, q2, decide_eq_true (show qs t p < p + 1 by omega)] at hih
      have hr : refS t p = (em t p && (decide ((p : Int) = 0) || !em t (p - 1))) := by
        unfold refS; rw [hbl]; simp
      rw [hr]
      cases h1 : em t p with
      | true =>
        rw [h1, Bool.or_true] at hih
        rw [if_pos rfl, hih, Bool.true_and]
        by_cases h2 : (p : Int) = 0
        · rw [if_pos (.inl h2), decide_eq_true h2]; simp
        · cases h3 : em t ((p : Int) - 1) with
          | false => rw [if_pos (.inr rfl)]; simp
          | true => rw [if_neg (by rintro (h | h); exact h2 h; simp at h), decide_eq_false h2]; simp
      | false =>
        rw [h1, Bool.or_false] at hih
        rw [if_neg (by simp), hih]; simp
    · rw [if_neg hbl]
      have q1 : qs t (p + 1) = p + 1 := by unfold qs; rw [if_neg hbl]
      have q2 : bareAt t (p + 1) = false := by unfold bareAt; rw [if_neg hbl]
      have q3 : fin t (p + 1) = (stopB (rd t p) || (closeB (rd t p) && (fin t (qs t p) && !decide (qs t p < p)))) := by
        conv => lhs; unfold fin
        by_cases c : closeB (rd t p) = true
        · rw [if_pos c, c, Bool.true_and]
          have hs : stopB (rd t p) = false := by
            simp only [closeB, Bool.or_eq_true, decide_eq_true_eq] at c
            simp only [stopB]; simp; omega
          rw [hs, Bool.false_or]
          by_cases g : qs t p < p
          · rw [fin_gap t p g, decide_eq_true g]; simp
          · have := qs_le t p
            rw [decide_eq_false g, show qs t p = p by omega]; simp
        · rw [if_neg c]
          have : closeB (rd t p) = false := by simpa using c
          rw [this]; simp
      rw [q1, q2, decide_eq_false (by omega), decide_eq_false (by omega), q3] at hih
      rw [hih]
      have hem : em t p = false := by
        cases h : em t p with
        | false => rfl
        | true => exact absurd (em_blank hlt h) hbl
      have hcond : (decide (qs t p = 0) || (decide (qs t p < p) && (fin t (qs t p) || bareAt t p))) = refS t p := by
        unfold refS beginsB
        rw [hem, Bool.false_and, Bool.false_or, decide_eq_true (show (p : Int) < (t.length : Int) by omega), Bool.true_and, Int.toNat_natCast]
        have : blankB (rd t p) = false := by simpa using hbl
        rw [this]
        simp only [Bool.not_false, Bool.true_and]
        cases hba : bareAt t p with
        | false => simp
        | true => have := bare_gap t p hba; simp [this]
      rw [hcond]
      split <;> simp
theorem sents_ref (t : List Int) : sents t = (upTo t (t.length + 1) 0).filter (refS t) := by
  have := sent_ref t t.length 0 (by omega)
  simp only [qs, fin, bareAt, Nat.lt_irrefl, decide_true, decide_false] at this
  exact this

theorem refblank_eq (c : Int) : quoinref10_blank.f c = some (decide (c = 32) || decide (c = 9)) := by
  unfold quoinref10_blank.f
  by_cases h : c = 32
  · rw [if_pos h, decide_eq_true h]; rfl
  · rw [if_neg h, decide_eq_false h]; simp [BEq.beq]
theorem refclose_eq (c : Int) : quoinref10_closing.f c = some (closeB c) := by
  unfold quoinref10_closing.f closeB
  by_cases h1 : c = 41
  · simp [h1]
  · by_cases h2 : c = 93
    · simp [h2]
    · by_cases h3 : c = 34
      · simp [h3]
      · simp [h1, h2, h3, BEq.beq]
theorem blank_split (c : Int) : blankB c = ((decide (c = 32) || decide (c = 9)) || decide (c = 10)) := by
  unfold blankB
  cases decide (c = 10) <;> cases decide (c = 32) <;> cases decide (c = 9) <;> rfl
theorem finished_ev (t : List Int) (hb : t.length ≤ 1099511627776) (p : Nat) (hp : p < t.length) (hbl : blankB (rd t p) = true) : Ev (fun k => quoinref10_finished.f k t p) (fin t p) := by
  have loop : ∀ p : Nat, p ≤ t.length → Ev (fun k => quoinref10_finished.l0 k t ((p : Int) - 1)) (fin t p) := by
    intro p
    induction p with
    | zero =>
      intro _
      refine Ev.step (f := fun _ => some false) (fun k => ?_) (Ev.now _)
      simp only [quoinref10_finished.l0]; rw [if_neg (by omega)]
    | succ p ih =>
      intro hp
      have e : (((p + 1 : Nat) : Int) - 1) = (p : Int) := by omega
      rw [e]
      unfold fin
      by_cases c : closeB (rd t p) = true
      · rw [if_pos c]
        refine Ev.step (fun k => ?_) (ih (by omega))
        simp only [quoinref10_finished.l0]
        rw [if_pos (by omega), if_pos (by omega), if_pos (by omega), refclose_eq, c]
        simp only [Option.bind_some]
        rw [if_pos trivial, w64 (by omega) (by omega)]
      · rw [if_neg c]
        have c' : closeB (rd t p) = false := by simpa using c
        refine Ev.step (f := fun _ => some (stopB (rd t p))) (fun k => ?_) (Ev.now _)
        simp only [quoinref10_finished.l0]
        rw [if_pos (by omega), if_pos (by omega), if_pos (by omega), refclose_eq, c']
        simp only [Option.bind_some]
        rw [if_neg (by simp)]
        unfold stopB
        by_cases h1 : rd t p = 46
        · simp [h1]
        · by_cases h2 : rd t p = 33
          · simp [h2]
          · simp [h1, h2, BEq.beq]
  have hj : Ev (fun k => quoinref10_finished.j0 k t p false) (fin t p) := by
    refine Ev.step (fun k => ?_) (loop p (by omega))
    simp only [quoinref10_finished.j0]; rw [if_neg (by simp), w64 (by omega) (by omega)]
  refine Ev.congr (fun k => ?_) hj
  unfold quoinref10_finished.f
  rw [if_pos (by omega), if_pos (by omega), refblank_eq]
  simp only [Option.bind_some]
  rw [blank_split] at hbl
  cases h1 : (decide (rd t p = 32) || decide (rd t p = 9)) with
  | true => rw [if_pos rfl]
  | false =>
    rw [h1, Bool.false_or, decide_eq_true_eq] at hbl
    rw [if_neg (by simp), hbl]; rfl
theorem begins_ev (t : List Int) (hb : t.length ≤ 1099511627776) (b : Nat) (hbl : b < t.length) : Ev (fun k => quoinref10_begins.f k t b) (beginsB t b) := by
  have loop : ∀ p : Nat, p ≤ b → qs t b = qs t p → bareAt t b = bareAt t p → (p < b → blankB (rd t p) = true) → Ev (fun k => quoinref10_begins.l0 k t b p) (beginsB t b) := by
    intro p
    induction p with
    | zero =>
      intro hp hq hba _
      have e : beginsB t b = true := by unfold beginsB; rw [hq]; simp [qs]
      rw [e]
      refine Ev.step (f := fun k => quoinref10_begins.j1 k t b 0 false) (fun k => ?_) (Ev.step (f := fun _ => some true) (fun k => ?_) (Ev.now _))
      · simp only [quoinref10_begins.l0]; rw [if_neg (by omega)]; rfl
      · simp only [quoinref10_begins.j1]; rw [if_neg (by simp), if_pos trivial]
    | succ p ih =>
      intro hp hq hba hnb
      have e1 : wrap64 (((p + 1 : Nat) : Int) - 1) = (p : Int) := by rw [w64 (by omega) (by omega)]; omega
      by_cases c : blankB (rd t p) = true
      · have hq' : qs t (p + 1) = qs t p := by
          conv => lhs; unfold qs
          rw [if_pos c]
        have hb' : bareAt t (p + 1) = (bareAt t p || em t p) := by
          conv => lhs; unfold bareAt
          rw [if_pos c]
        refine Ev.step (f := fun k => quoinref10_begins.j1 k t b ((p + 1 : Nat) : Int) true) (fun k => ?_) ?_
        · simp only [quoinref10_begins.l0]
          rw [if_pos (by omega), e1, if_pos (by omega), if_pos (by omega), refblank_eq]
          simp only [Option.bind_some]
          have c2 := c
          rw [blank_split] at c2
          cases h1 : (decide (rd t p = 32) || decide (rd t p = 9)) with
          | true => rw [if_pos rfl]
          | false =>
            rw [h1, Bool.false_or, decide_eq_true_eq] at c2
            rw [if_neg (by simp), c2]; rfl
        · have hcont : em t p = false → Ev (fun k => quoinref10_begins.l0 k t b (p : Int)) (beginsB t b) := fun he => ih (by omega) (by rw [hq, hq']) (by rw [hba, hb', he, Bool.or_false]) (fun _ => c)
          have hyes : em t p = true → beginsB t b = true := fun he => by unfold beginsB; rw [hba, hb', he]; simp
          by_cases h10 : rd t p = 10
          · by_cases hp0 : p = 0
            · have he : em t p = true := by subst hp0; unfold em; simp; right; exact h10
              rw [hyes he]
              refine Ev.step (f := fun _ => some true) (fun k => ?_) (Ev.now _)
              simp only [quoinref10_begins.j1]
              rw [if_pos trivial, e1, if_pos (by omega), if_pos (by omega), if_pos h10, if_pos (by omega)]
            · by_cases h11 : rd t ((p : Int) - 1) = 10
              · have he : em t p = true := by unfold em; simp [h10, h11]
                rw [hyes he]
                refine Ev.step (f := fun _ => some true) (fun k => ?_) (Ev.now _)
                simp only [quoinref10_begins.j1]
                rw [if_pos trivial, e1, if_pos (by omega), if_pos (by omega), if_pos h10, if_neg (by omega), w64 (x := (p : Int) - 1) (by omega) (by omega), if_pos (by omega), if_pos (by omega), if_pos h11]
              · have he : em t p = false := by unfold em; simp [h11]; omega
                refine Ev.step (fun k => ?_) (hcont he)
                simp only [quoinref10_begins.j1]
                rw [if_pos trivial, e1, if_pos (by omega), if_pos (by omega), if_pos h10, if_neg (by omega), w64 (x := (p : Int) - 1) (by omega) (by omega), if_pos (by omega), if_pos (by omega), if_neg h11]
          · have he : em t p = false := by unfold em; simp [h10]; omega
            refine Ev.step (fun k => ?_) (hcont he)
            simp only [quoinref10_begins.j1]
            rw [if_pos trivial, e1, if_pos (by omega), if_pos (by omega), if_neg h10]
      · have hq' : qs t (p + 1) = p + 1 := by unfold qs; rw [if_neg c]
        have hb' : bareAt t (p + 1) = false := by unfold bareAt; rw [if_neg c]
        have cf : blankB (rd t p) = false := by simpa using c
        rw [blank_split] at cf
        simp only [Bool.or_eq_false_iff, decide_eq_false_iff_not] at cf
        have hbg : beginsB t b = (decide (p + 1 < b) && fin t (p + 1)) := by
          unfold beginsB; rw [hba, hb', hq, hq']; simp
        rw [hbg]
        refine Ev.step (f := fun k => quoinref10_begins.j1 k t b ((p + 1 : Nat) : Int) false) (fun k => ?_) ?_
        · simp only [quoinref10_begins.l0]
          rw [if_pos (by omega), e1, if_pos (by omega), if_pos (by omega), refblank_eq]
          simp only [Option.bind_some]
          rw [decide_eq_false cf.1.1, decide_eq_false cf.1.2, if_neg (by simp), show (rd t p == 10) = false by simpa using cf.2]
        · by_cases hlt : p + 1 < b
          · rw [decide_eq_true hlt, Bool.true_and]
            refine Ev.step (f := fun k => (quoinref10_finished.f k t ((p + 1 : Nat) : Int)).bind fun b => some b) (fun k => ?_) (Ev.bind (finished_ev t hb (p + 1) (by omega) (hnb hlt)) (Ev.now _))
            simp only [quoinref10_begins.j1]
            rw [if_neg (by simp), if_neg (by omega), if_pos (by omega)]
          · rw [decide_eq_false hlt, Bool.false_and]
            refine Ev.step (f := fun _ => some false) (fun k => ?_) (Ev.now _)
            simp only [quoinref10_begins.j1]
            rw [if_neg (by simp), if_neg (by omega), if_neg (by omega)]
  refine Ev.congr (fun k => ?_) (loop b (Nat.le_refl _) rfl rfl (fun h => by omega))
  unfold quoinref10_begins.f; rfl

theorem sents_line {t : List Int} {L : List (List Int)} {i p : Nat} {l : List Int} (h : LineAt t L i p l) :
    (upTo t (t.length + 1 - p) p).filter (refS t) = (if (decide (l = []) && (decide (p = 0) || !em t (p - 1))) = true then [(p : Int)] else []) ++ ((upTo t l.length p).filter (refS t) ++ (upTo t (t.length + 1 - (p + l.length + 1)) (p + l.length + 1)).filter (refS t)) := by
  have hf := h.fits
  by_cases c : l = []
  · subst c
    rw [show t.length + 1 - p = (t.length - p) + 1 by omega]
    simp only [upTo, List.filter_cons, List.length_nil, Nat.add_zero, List.filter_nil, List.nil_append, decide_true, Bool.true_and]
    have he := em_line h
    rw [decide_eq_true rfl] at he
    have hr : refS t p = (decide ((p : Int) = 0) || !em t (p - 1)) := by
      unfold refS
      rw [he, Bool.true_and]
      by_cases hlt : p < t.length
      · rw [em_blank hlt he]; simp
      · rw [decide_eq_false (show ¬ (p : Int) < (t.length : Int) by omega)]; simp
    rw [hr, show t.length + 1 - (p + 1) = t.length - p by omega]
    have : decide ((p : Int) = 0) = decide (p = 0) := by congr 1; apply propext; omega
    rw [this]
    split <;> simp
  · have hl0 : 0 < l.length := List.length_pos_iff.2 c
    rw [decide_eq_false c, Bool.false_and, if_neg (by simp), List.nil_append]
    have hend : refS t ((p + l.length : Nat) : Int) = false := by
      unfold refS
      rw [em_inside h (p + l.length) (by omega) (Nat.le_refl _), Bool.false_and, Bool.false_or]
      rcases h.next with ⟨h1, _⟩ | ⟨h1, h2, _⟩
      · rw [decide_eq_false (show ¬ ((p + l.length : Nat) : Int) < (t.length : Int) by omega)]; rfl
      · rw [show (((p + l.length : Nat)) : Int) = (p : Int) + l.length by omega, h2]; simp [blankB]
    have split : ∀ (m d q : Nat), upTo t (m + d) q = upTo t m q ++ upTo t d (q + m) := by
      intro m
      induction m with
      | zero => intro d q; simp [upTo]
      | succ m ih => intro d q; rw [show m + 1 + d = (m + d) + 1 by omega]; simp only [upTo, ih, List.cons_append]; rw [show q + 1 + m = q + (m + 1) by omega]
    rw [show t.length + 1 - p = l.length + ((t.length - (p + l.length)) + 1) by omega, split, List.filter_append]
    congr 1
    simp only [upTo, List.filter_cons]
    rw [hend, if_neg (by simp), show t.length + 1 - (p + l.length + 1) = t.length - (p + l.length) by omega]
theorem filter_len (f : Int → Bool) (t : List Int) (d p : Nat) : ((upTo t d p).filter f).length ≤ d := Nat.le_trans (List.length_filter_le _ _) (by rw [upTo_length]; omega)
theorem sents_inner {t : List Int} {L : List (List Int)} {i p : Nat} {l : List Int} (h : LineAt t L i p l) (hb : t.length ≤ 1099511627776) (hLl : L.length ≤ t.length + 1) (R : List Int)
    (ih : ∀ acc : List Int, acc.length ≤ p + l.length + 1 + (i + 1) → Ev (fun k => quoinref10_Sentences.l0 k t L acc ((p + l.length + 1 : Nat) : Int) ((i + 1 : Nat) : Int)) (acc ++ R)) :
    ∀ (d m : Nat), m + d = l.length → ∀ acc : List Int, acc.length ≤ p + m + i + 1 → Ev (fun k => quoinref10_Sentences.l1 k t L acc (p : Int) (i : Int) (m : Int)) (acc ++ ((upTo t d (p + m)).filter (refS t) ++ R)) := by
  have hf := h.fits
  have hi := h.idx
  have hrl := Aside0.mk (linelen L i h.idx)
  rw [h.line] at hrl
  have hw : Aside0 (wrap64 (wrap64 ((p : Int) + (l.length : Int)) + 1) = ((p + l.length + 1 : Nat) : Int)) := ⟨by rw [w64 (x := (p : Int) + l.length) (by omega) (by omega), w64 (by omega) (by omega)]; omega⟩
  have hwi : Aside0 (wrap64 ((i : Int) + 1) = ((i + 1 : Nat) : Int)) := ⟨by rw [w64 (by omega) (by omega)]; omega⟩
  intro d
  induction d with
  | zero =>
    intro m hm acc ha
    refine Ev.step (f := fun k => quoinref10_Sentences.l0 k t L acc ((p + l.length + 1 : Nat) : Int) ((i + 1 : Nat) : Int)) (fun k => ?_) ?_
    · simp only [quoinref10_Sentences.l1]
      rw [if_pos (by omega), if_pos (by omega), hrl.out, if_neg (by omega), hw.out, hwi.out]
    · simp only [upTo, List.filter_nil, List.nil_append]
      exact ih acc (by omega)
  | succ d ihd =>
    intro m hm acc ha
    have hml : m < l.length := by omega
    have hg := h.get m hml
    have h10 := h.no10 m hml
    have hwm : Aside0 (wrap64 ((m : Int) + 1) = ((m + 1 : Nat) : Int)) := ⟨by rw [w64 (by omega) (by omega)]; omega⟩
    have hpm : Aside0 (wrap64 ((p : Int) + (m : Int)) = ((p + m : Nat) : Int)) := ⟨by rw [w64 (by omega) (by omega)]; omega⟩
    have epm : ((p : Int) + (m : Int)) = ((p + m : Nat) : Int) := by omega
    rw [epm] at hg h10
    simp only [upTo, List.filter_cons]
    have hem : em t ((p + m : Nat) : Int) = false := by
      cases he : em t ((p + m : Nat) : Int) with
      | false => rfl
      | true =>
        unfold em at he
        simp only [Bool.and_eq_true, Bool.or_eq_true, decide_eq_true_eq] at he
        rcases he.2 with he | he
        · omega
        · exact absurd he h10
    have hr : refS t ((p + m : Nat) : Int) = (!blankB (rd t ((p + m : Nat) : Int)) && beginsB t (p + m)) := by
      unfold refS
      rw [hem, Bool.false_and, Bool.false_or, decide_eq_true (show ((p + m : Nat) : Int) < (t.length : Int) by omega), Bool.true_and, Int.toNat_natCast]
    have hbs : blankB (rd t ((p + m : Nat) : Int)) = (decide (rd t ((p + m : Nat) : Int) = 32) || decide (rd t ((p + m : Nat) : Int) = 9)) := by
      rw [blank_split, decide_eq_false h10, Bool.or_false]
    have hskip : refS t ((p + m : Nat) : Int) = false → Ev (fun k => quoinref10_Sentences.l1 k t L acc (p : Int) (i : Int) ((m + 1 : Nat) : Int)) (acc ++ ((if refS t ((p + m : Nat) : Int) = true then ((p + m : Nat) : Int) :: (upTo t d (p + m + 1)).filter (refS t) else (upTo t d (p + m + 1)).filter (refS t)) ++ R)) := fun h0 => by
      rw [h0, if_neg (by simp)]
      exact ihd (m + 1) (by omega) acc (by omega)
    cases hbl : blankB (rd t ((p + m : Nat) : Int)) with
    | true =>
      rw [hbl, Bool.not_true, Bool.false_and] at hr
      refine Ev.step (fun k => ?_) (hskip hr)
      simp only [quoinref10_Sentences.l1]
      rw [if_pos (by omega), if_pos (by omega), hrl.out, if_pos (by omega), if_pos (by omega), hg, refblank_eq, ← hbs, hbl]
      simp only [Option.bind_some]
      rw [if_pos trivial, hwm.out]
    | false =>
      rw [hbl, Bool.not_false, Bool.true_and] at hr
      have hbg := begins_ev t hb (p + m) (by omega)
      refine Ev.step (f := fun k => (quoinref10_begins.f k t ((p + m : Nat) : Int)).bind fun b => if b = true then (if acc.length < 17592186044416 then quoinref10_Sentences.l1 k t L (acc ++ [((p + m : Nat) : Int)]) (p : Int) (i : Int) ((m + 1 : Nat) : Int) else none) else quoinref10_Sentences.l1 k t L acc (p : Int) (i : Int) ((m + 1 : Nat) : Int)) (fun k => ?_) (Ev.bind hbg ?_)
      · simp only [quoinref10_Sentences.l1]
        rw [if_pos (by omega), if_pos (by omega), hrl.out, if_pos (by omega), if_pos (by omega), hg, refblank_eq, ← hbs, hbl]
        simp only [Option.bind_some]
        rw [if_neg (by simp), hpm.out, hwm.out]
      · cases hbb : beginsB t (p + m) with
        | false => simp only [Bool.false_eq_true, if_false]; rw [hbb] at hr; exact hskip hr
        | true =>
          rw [hbb] at hr
          rw [hr, if_pos rfl]
          have := ihd (m + 1) (by omega) (acc ++ [((p + m : Nat) : Int)]) (by simp; omega)
          rw [List.append_assoc, List.singleton_append] at this
          refine Ev.congr (fun k => ?_) this
          rw [if_pos rfl, if_pos (by omega)]
theorem sents_loop (t : List Int) (L : List (List Int)) (hb : t.length ≤ 1099511627776) (hLl : L.length ≤ t.length + 1) : ∀ (i p : Nat), Chain t L i p → ∀ (acc : List Int), acc.length ≤ p + i →
    Ev (fun k => quoinref10_Sentences.l0 k t L acc (p : Int) (i : Int)) (acc ++ (upTo t (t.length + 1 - p) p).filter (refS t)) := by
  intro i p hC
  induction hC with
  | @done i h =>
    intro acc ha
    refine Ev.step (f := fun _ => some acc) (fun k => ?_) ?_
    · simp only [quoinref10_Sentences.l0]; rw [if_neg (by omega)]
    · rw [Nat.sub_self]; simp [upTo]; exact Ev.now _
  | @more i p l h r ih =>
    intro acc ha
    have hf := h.fits
    have hi := h.idx
    rw [sents_line h]
    have inner := sents_inner h hb hLl ((upTo t (t.length + 1 - (p + l.length + 1)) (p + l.length + 1)).filter (refS t)) ih
    have hj2 : ∀ acc : List Int, acc.length ≤ p + i + 1 → Ev (fun k => quoinref10_Sentences.j2 k t L acc (p : Int) (i : Int)) (acc ++ ((upTo t l.length p).filter (refS t) ++ (upTo t (t.length + 1 - (p + l.length + 1)) (p + l.length + 1)).filter (refS t))) := fun acc ha => by
      refine Ev.step (fun k => ?_) (inner l.length 0 (Nat.zero_add _) acc (by omega))
      simp only [quoinref10_Sentences.j2]; rfl
    have hj1 : ∀ b : Bool, b = (decide (l = []) && (decide (p = 0) || !em t (p - 1))) → Ev (fun k => quoinref10_Sentences.j1 k t L acc (p : Int) (i : Int) b) (acc ++ ((if (decide (l = []) && (decide (p = 0) || !em t (p - 1))) = true then [(p : Int)] else []) ++ ((upTo t l.length p).filter (refS t) ++ (upTo t (t.length + 1 - (p + l.length + 1)) (p + l.length + 1)).filter (refS t)))) := fun b hb' => by
      subst hb'
      cases (decide (l = []) && (decide (p = 0) || !em t (p - 1))) with
      | true =>
        have := hj2 (acc ++ [(p : Int)]) (by simp; omega)
        rw [List.append_assoc] at this
        refine Ev.step (fun k => ?_) this
        simp only [quoinref10_Sentences.j1]; rw [if_pos trivial, if_pos (by omega)]
      | false =>
        have := hj2 acc (by omega)
        rw [if_neg (by simp), List.nil_append]
        refine Ev.step (fun k => ?_) this
        simp only [quoinref10_Sentences.j1]; rw [if_neg (by simp)]
    have e0 := empty_line L i h.idx
    rw [h.line] at e0
    refine Ev.step (fun k => ?_) (hj1 _ rfl)
    simp only [quoinref10_Sentences.l0]
    rw [if_pos (by omega), e0]
    simp only [Option.bind_some]
    by_cases c : l = []
    · rw [decide_eq_true c, if_pos rfl, Bool.true_and, w64 (x := (i : Int) - 1) (by omega) (by omega)]
      by_cases hi0 : i = 0
      · rw [empty_out L _ (by omega), decide_eq_true (h.prev0.1 hi0)]; simp
      · have hpv := h.prev (by omega)
        have hpp : p ≠ 0 := fun e => hi0 (h.prev0.2 e)
        rw [show ((i : Int) - 1) = ((i - 1 : Nat) : Int) by omega, empty_line L (i - 1) (by omega), decide_eq_false hpp]
        simp only [Option.bind_some, Bool.false_or]
        congr 2
        cases hc : em t ((p : Int) - 1) with
        | true => rw [hc] at hpv; simp at hpv; simp [hpv]
        | false => rw [hc] at hpv; simp at hpv; simp [hpv]
    · rw [decide_eq_false c, if_neg (by simp), Bool.false_and]
theorem refsents_ev (t : List Int) (hb : t.length ≤ 1099511627776) : Ev (fun k => quoinref10_Sentences.f k t) (sents t) := by
  unfold quoinref10_Sentences.f
  refine Ev.bind (split_ev t hb) ?_
  have := sents_loop t (linesL t) hb (lines_length t) 0 0 (chain_all t) [] (Nat.zero_le _)
  rw [sents_ref]
  simp only [List.nil_append, Nat.sub_zero] at this
  exact this

end Go.Proofs.Ytjaopgjhmojpnaa.Pb
