/-
  Plain facts about brackets: the program's and the reference's partner of a byte, the first bracket in a line, the bracket that belongs to one. Condition: texts of at most 2^40 bytes.
-/
import Derived.Lib.IndexLaws
import Derived.Test.YtjaopgjhmojpnaaPa
namespace Go.Proofs.Ytjaopgjhmojpnaa.Pb
open Go.RowKit Go.Proofs.YtjaopgjhmojpnaaW.PrintWords Go.Proofs.YtjaopgjhmojpnaaW.PrintLast Go.Proofs.YtjaopgjhmojpnaaW.PrintMore
open Go.Proofs.Ytjaopgjhmojpnaa.X Go.Proofs.Ytjaopgjhmojpnaa
set_option linter.unusedVariables false
set_option linter.unusedSimpArgs false

/-! a byte's partner -/
def pt (c : Int) : Int × Bool × Bool :=
  if c = 40 then (41, true, true) else if c = 41 then (40, false, true) else if c = 91 then (93, true, true) else if c = 93 then (91, false, true)
  else if c = 123 then (125, true, true) else if c = 125 then (123, false, true) else (0, false, false)
theorem partner_all : ∀ n : Nat, n < 256 → class_Partner.f (n : Int) = some (pt n) := by decide +kernel
theorem partner_eq {c : Int} (h0 : 0 ≤ c) (h1 : c ≤ 255) : class_Partner.f c = some (pt c) := by
  have := partner_all c.toNat (by omega)
  rwa [show ((c.toNat : Nat) : Int) = c by omega] at this
theorem refpartner_all : ∀ n : Nat, n < 256 → quoinref06_Partner.f 5 (n : Int) = some (pt n) := by decide +kernel
theorem refpartner_ev {c : Int} (h0 : 0 ≤ c) (h1 : c ≤ 255) : Ev (fun k => quoinref06_Partner.f k c) (pt c) := by
  have := refpartner_all c.toNat (by omega)
  rw [show ((c.toNat : Nat) : Int) = c by omega] at this
  exact Ev.of (fun k => quoinref06_Partner.mono c k) this
/-- the partner's partner -/
theorem pt_back {c : Int} (h : (pt c).2.2 = true) : (pt (pt c).1).1 = c ∧ (pt (pt c).1).2.1 = !(pt c).2.1 ∧ (pt (pt c).1).2.2 = true := by
  unfold pt at h ⊢
  repeat' split at h
  all_goals first | (subst_vars; simp) | simp at h
theorem pt_ten : (pt 10).2.2 = false := by simp [pt]

/-! the end of the line -/
def lineEnd (t : List Int) : Nat → Nat → Nat
  | 0, p => p
  | d + 1, p => if rd t p = 10 then p else lineEnd t d (p + 1)
theorem lineEnd_succ (t : List Int) (d p : Nat) : lineEnd t (d + 1) p = if rd t p = 10 then p else lineEnd t d (p + 1) := rfl
theorem lineEnd_le (t : List Int) : ∀ d p, p ≤ lineEnd t d p ∧ lineEnd t d p ≤ p + d
  | 0, p => ⟨Nat.le_refl _, Nat.le_refl _⟩
  | d + 1, p => by
    have := lineEnd_le t d (p + 1)
    unfold lineEnd; split <;> omega
/-- no line end between two places of one line -/
def noTen (t : List Int) (s p : Nat) : Prop := ∀ j : Nat, s ≤ j → j < p → rd t j ≠ 10
theorem lineEnd_skip (t : List Int) : ∀ (i s d : Nat), noTen t s (s + i) → lineEnd t (i + d) s = lineEnd t d (s + i)
  | 0, s, d, _ => by simp
  | i + 1, s, d, h => by
    rw [show i + 1 + d = (i + d) + 1 by omega]
    have h0 := h s (Nat.le_refl _) (by omega)
    unfold lineEnd
    rw [if_neg h0, lineEnd_skip t i (s + 1) d (fun j hj hj' => h j (by omega) (by omega)), show s + 1 + i = s + (i + 1) by omega]
    cases d <;> simp [lineEnd]

theorem byte_u8 {x : Int} (h0 : 0 ≤ x) (h1 : x ≤ 255) : (UInt8.ofNat x.toNat = (10 : Int).toNat.toUInt8) ↔ x = 10 := by
  constructor
  · intro h
    have := congrArg UInt8.toNat h
    simp at this
    omega
  · rintro rfl; rfl
/-- the first line end of what is left, as bytes.IndexByte tells it -/
theorem index_ten (t : List Int) (hB : Bytes t) : ∀ (d s : Nat), s + d = t.length → Lib.indexByte (Lib.bytesOf (t.drop s)) (10 : Int).toNat.toUInt8 = if lineEnd t d s < t.length then ((lineEnd t d s : Nat) : Int) - s else -1 := by
  intro d
  induction d with
  | zero =>
    intro s hs
    rw [List.drop_eq_nil_of_le (by omega)]
    simp [lineEnd, Lib.bytesOf, Lib.indexByte]
    omega
  | succ d ih =>
    intro s hs
    have hlt : s < t.length := by omega
    have hc := byte_at t hB s hlt
    rw [List.drop_eq_getElem_cons hlt]
    rw [rd_nat t s hlt] at hc
    simp only [Lib.bytesOf, List.map_cons, Lib.indexByte]
    by_cases h10 : t[s] = 10
    · rw [if_pos (by rw [beq_iff_eq]; exact (byte_u8 hc.1 hc.2).2 h10)]
      rw [lineEnd_succ, rd_nat t s hlt, if_pos h10, if_pos hlt]; omega
    · rw [if_neg (by rw [beq_iff_eq]; exact fun h => h10 ((byte_u8 hc.1 hc.2).1 h))]
      have := ih (s + 1) (by omega)
      unfold Lib.bytesOf at this
      rw [this]
      have hle := lineEnd_le t d (s + 1)
      rw [lineEnd_succ, rd_nat t s hlt, if_neg h10]
      by_cases hl : lineEnd t d (s + 1) < t.length
      · rw [if_pos hl, if_neg (by simp; omega), if_pos hl]; omega
      · rw [if_neg hl, if_pos (by simp), if_neg hl]

theorem tail_eq (t : List Int) (hb : t.length ≤ 1099511627776) (hB : Bytes t) (s : Nat) (hs : s ≤ t.length) : lines_tail.f t s = some ((lineEnd t (t.length - s) s : Nat) : Int) := by
  unfold lines_tail.f bytes_IndexByte.f
  rw [if_pos (by omega), if_pos (by omega), Int.toNat_natCast, index_ten t hB (t.length - s) s (by omega)]
  simp only [Option.bind_some]
  have hle := lineEnd_le t (t.length - s) s
  by_cases hl : lineEnd t (t.length - s) s < t.length
  · rw [if_pos hl, if_pos (by omega), w64 (by omega) (by omega)]; congr 1; omega
  · rw [if_neg hl, if_neg (by omega)]; congr 1; omega

/-- how many line ends stand between two places -/
def tens (t : List Int) (s p : Nat) : Nat := Lib.countByte (Lib.bytesOf ((t.take p).drop s)) (10 : Int).toNat.toUInt8
theorem tens_next (t : List Int) (hB : Bytes t) (s p : Nat) (h : s < p) (hp : p ≤ t.length) : tens t s p = (if rd t s = 10 then 1 else 0) + tens t (s + 1) p := by
  unfold tens
  have hlt : s < (t.take p).length := by rw [List.length_take]; omega
  have hc := byte_at t hB s (by omega)
  rw [List.drop_eq_getElem_cons hlt]
  rw [rd_nat t s (by omega)] at hc ⊢
  rw [List.getElem_take]
  simp only [Lib.bytesOf, List.map_cons, Lib.countByte, List.count_cons]
  by_cases h10 : t[s] = 10
  · rw [if_pos (by rw [beq_iff_eq]; exact (byte_u8 hc.1 hc.2).2 h10), if_pos h10]; omega
  · rw [if_neg (by rw [beq_iff_eq]; exact fun h => h10 ((byte_u8 hc.1 hc.2).1 h)), if_neg h10]; omega
theorem tens_le (t : List Int) (s p : Nat) : tens t s p ≤ t.length := by
  unfold tens Lib.countByte
  refine Nat.le_trans List.count_le_length ?_
  rw [Lib.bytesOf_length, List.length_drop, List.length_take]; omega
theorem tens_none (t : List Int) (s : Nat) : tens t s s = 0 := by unfold tens; simp [Lib.bytesOf, Lib.countByte]
theorem tens_zero (t : List Int) (hB : Bytes t) (p : Nat) (hp : p ≤ t.length) : ∀ (i s : Nat), s + i = p → (tens t s p = 0 ↔ noTen t s p) := by
  intro i
  induction i with
  | zero =>
    intro s h
    obtain rfl : s = p := by omega
    rw [tens_none]
    exact ⟨fun _ j h1 h2 => by omega, fun _ => rfl⟩
  | succ i ih =>
    intro s h
    rw [tens_next t hB s p (by omega) hp]
    by_cases h10 : rd t s = 10
    · rw [if_pos h10]
      exact ⟨fun h => by omega, fun h' => absurd h10 (h' s (Nat.le_refl _) (by omega))⟩
    · rw [if_neg h10, Nat.zero_add, ih (s + 1) (by omega)]
      constructor
      · intro h' j h1 h2
        by_cases hj : j = s
        · subst hj; exact h10
        · exact h' j (by omega) h2
      · intro h' j h1 h2; exact h' j (by omega) h2
/-- behind the first line end -/
theorem tens_skip (t : List Int) (hB : Bytes t) (p : Nat) (hp : p ≤ t.length) : ∀ (d s : Nat), s + d = t.length → s ≤ p → 0 < tens t s p → lineEnd t d s < p ∧ tens t s p = 1 + tens t (lineEnd t d s + 1) p := by
  intro d
  induction d with
  | zero =>
    intro s h hs h0
    obtain rfl : s = p := by omega
    rw [tens_none] at h0; omega
  | succ d ih =>
    intro s h hs h0
    by_cases hsp : s = p
    · subst hsp; rw [tens_none] at h0; omega
    · have e := tens_next t hB s p (by omega) hp
      rw [lineEnd_succ]
      by_cases h10 : rd t s = 10
      · rw [if_pos h10] at e ⊢; exact ⟨by omega, e⟩
      · rw [if_neg h10] at e ⊢
        have := ih (s + 1) (by omega) (by omega) (by omega)
        exact ⟨this.1, by omega⟩
theorem start_ev (t : List Int) (hb : t.length ≤ 1099511627776) (hB : Bytes t) (p : Nat) (hp : p ≤ t.length) : ∀ (n s : Nat), s ≤ p → tens t s p = n → ∃ s', s' ≤ p ∧ noTen t s' p ∧ Ev (fun k => lines_Start.l0 k t (n : Int) (s : Int)) ((s' : Int), 0) := by
  intro n
  induction n with
  | zero =>
    intro s hs h
    refine ⟨s, hs, (tens_zero t hB p hp (p - s) s (by omega)).1 h, ?_⟩
    refine Ev.step (f := fun _ => some ((s : Int), 0)) (fun k => ?_) (Ev.now _)
    simp only [lines_Start.l0]; rw [if_neg (by omega)]
  | succ n ih =>
    intro s hs h
    obtain ⟨h1, h2⟩ := tens_skip t hB p hp (t.length - s) s (by omega) hs (by omega)
    have hle := lineEnd_le t (t.length - s) s
    have htl := tens_le t s p
    obtain ⟨s', k1, k2, k3⟩ := ih (lineEnd t (t.length - s) s + 1) (by omega) (by omega)
    refine ⟨s', k1, k2, Ev.step (fun k => ?_) k3⟩
    simp only [lines_Start.l0, bytes_IndexByte.f]
    rw [if_pos (by omega), if_pos (by omega), if_pos (by omega), Int.toNat_natCast, index_ten t hB (t.length - s) s (by omega), if_pos (by omega)]
    simp only [Option.bind_some]
    rw [if_neg (by omega), w64 (x := ((lineEnd t (t.length - s) s : Nat) : Int) - s + 1) (by omega) (by omega), w64 (x := (s : Int) + _) (by omega) (by omega), w64 (x := ((n + 1 : Nat) : Int) - 1) (by omega) (by omega)]
    congr 1 <;> omega
/-- the end of a place's line -/
theorem end_ev (t : List Int) (hb : t.length ≤ 1099511627776) (hB : Bytes t) (p : Nat) (hp : p ≤ t.length) : ∃ n, lines_Of.f t p = some (n, 0) ∧ Ev (fun k => lines_End.f k t n) (((lineEnd t (t.length - p) p : Nat) : Int), 0) := by
  obtain ⟨s', k1, k2, k3⟩ := start_ev t hb hB p hp (tens t 0 p) 0 (by omega) rfl
  refine ⟨((tens t 0 p : Nat) : Int), ?_, ?_⟩
  · unfold lines_Of.f lines_has.f bytes_Count.f
    rw [if_pos (by omega), decide_eq_true (by omega)]
    simp only [Option.bind_some]
    rw [if_pos trivial, if_pos (by omega), if_pos (by omega), Int.toNat_natCast]
    simp only [Option.bind_some, tens, List.drop_zero]
  · unfold lines_End.f
    refine Ev.bind (a := ((s' : Int), 0)) (Ev.congr (fun k => ?_) k3) ?_
    · unfold lines_Start.f; rw [if_neg (by omega)]; rfl
    · rw [if_pos rfl, tail_eq t hb hB s' (by omega)]
      simp only [Option.bind_some]
      have := lineEnd_skip t (p - s') s' (t.length - p) (by rw [show s' + (p - s') = p by omega]; exact k2)
      rw [show p - s' + (t.length - p) = t.length - s' by omega, show s' + (p - s') = p by omega] at this
      rw [this]
      exact Ev.now _

/-! the bracket that belongs to one -/
/-- the place where the list of open brackets becomes empty -/
def meetP (t : List Int) (right : Bool) : Nat → List Int → Int → Option Int
  | 0, _, _ => none
  | d + 1, st, p =>
    if 0 ≤ p ∧ p < t.length then
      if (pt (rd t p)).2.2 = true then
        if (pt (rd t p)).2.1 = right then meetP t right d (rd t p :: st) (p + (if right = true then 1 else -1))
        else match st with
          | [] => none
          | b :: st' => if b = (pt (rd t p)).1 then (if st' = [] then some p else meetP t right d st' (p + (if right = true then 1 else -1))) else none
      else meetP t right d st (p + (if right = true then 1 else -1))
    else none
def oth (b : Int) : Int := (pt b).1
def stepOf (right : Bool) : Int := if right = true then 1 else -1
/-- how far the border is -/
def left_ (t : List Int) (right : Bool) (p : Int) : Nat := if right = true then ((t.length : Int) - p).toNat + 1 else (p + 1).toNat + 1

theorem last_rd (st : List Int) (b : Int) : rd (st ++ [b]) (((st ++ [b]).length : Int) - 1) = b := by
  rw [show (((st ++ [b]).length : Int) - 1) = ((st.length : Nat) : Int) by simp, rd_nat _ _ (by simp)]; simp
theorem meet_ev (t : List Int) (hb : t.length ≤ 1099511627776) (hB : Bytes t) (right : Bool) : ∀ (d : Nat) (st : List Int) (p : Int), -1 ≤ p → p ≤ t.length → left_ t right p ≤ d → st.length + d ≤ t.length + 3 → (∀ b ∈ st, (pt b).2.2 = true) → (st = [] → 0 ≤ p ∧ p < t.length ∧ (pt (rd t p)).2.2 = true ∧ (pt (rd t p)).2.1 = right) →
    Ev (fun k => block_meet.l0 k t right (stepOf right) st.reverse p) (told (meetP t right d st p)) ∧ Ev (fun k => quoinref10_Pair.l0 k t right (stepOf right) (st.map oth).reverse p) (told (meetP t right d st p)) := by
  intro d
  induction d with
  | zero => intro st p h0 h1 hd; unfold left_ at hd; split at hd <;> omega
  | succ d ih =>
    intro st p h0 h1 hd hl hst hfirst
    by_cases hin : 0 ≤ p ∧ p < t.length
    case neg =>
      have e : meetP t right (d + 1) st p = none := by unfold meetP; rw [if_neg hin]
      rw [e]
      constructor
      · refine Ev.step (f := fun k => block_meet.j2 k t right (stepOf right) st.reverse p false) (fun k => ?_) ?_
        · simp only [block_meet.l0]
          by_cases hp : p ≥ 0
          · rw [if_pos hp, decide_eq_false (by omega)]
          · rw [if_neg hp]
        · refine Ev.step (f := fun _ => some (0, 70)) (fun k => ?_) (Ev.now _)
          simp only [block_meet.j2]; rw [if_neg (by simp)]
      · refine Ev.step (f := fun k => quoinref10_Pair.j2 k t right (stepOf right) (st.map oth).reverse p false) (fun k => ?_) ?_
        · simp only [quoinref10_Pair.l0]
          by_cases hp : p ≥ 0
          · rw [if_pos hp, decide_eq_false (by omega)]
          · rw [if_neg hp]
        · refine Ev.step (f := fun _ => some (0, 70)) (fun k => ?_) (Ev.now _)
          simp only [quoinref10_Pair.j2]; rw [if_neg (by simp)]
    case pos =>
      obtain ⟨q, rfl⟩ : ∃ q : Nat, p = (q : Int) := ⟨p.toNat, by omega⟩
      have hc := byte_at t hB q (by omega)
      have e1 := partner_eq hc.1 hc.2
      obtain ⟨KR, kR⟩ := refpartner_ev hc.1 hc.2
      have hs : stepOf right = 1 ∨ stepOf right = -1 := by unfold stepOf; split <;> simp
      have hw : wrap64 ((q : Int) + stepOf right) = (q : Int) + stepOf right := w64 (by omega) (by omega)
      have hd' : left_ t right ((q : Int) + stepOf right) ≤ d := by
        unfold left_ stepOf at *
        cases right <;> simp at hd ⊢ <;> omega
      have n1 : -1 ≤ (q : Int) + stepOf right ∧ (q : Int) + stepOf right ≤ t.length := by omega
      -- both loops' head
      have headM : ∀ r, Ev (fun k => block_meet.j2 k t right (stepOf right) st.reverse q true) r → Ev (fun k => block_meet.l0 k t right (stepOf right) st.reverse q) r := fun r h => Ev.step (fun k => by simp only [block_meet.l0]; rw [if_pos hin.1, decide_eq_true hin.2]) h
      have headP : ∀ r, Ev (fun k => quoinref10_Pair.j2 k t right (stepOf right) (st.map oth).reverse q true) r → Ev (fun k => quoinref10_Pair.l0 k t right (stepOf right) (st.map oth).reverse q) r := fun r h => Ev.step (fun k => by simp only [quoinref10_Pair.l0]; rw [if_pos hin.1, decide_eq_true hin.2]) h
      have bodyP : ∀ (g : Nat → Option (Int × Int)) r, Ev g r → (∀ k, KR ≤ k → quoinref10_Pair.j2 (k + 1) t right (stepOf right) (st.map oth).reverse q true = g k) → Ev (fun k => quoinref10_Pair.j2 k t right (stepOf right) (st.map oth).reverse q true) r := fun g r ⟨K2, h2⟩ h => by
        refine ⟨max KR K2 + 1, fun k hk => ?_⟩
        obtain ⟨k, rfl⟩ : ∃ m, k = m + 1 := ⟨k - 1, by omega⟩
        show quoinref10_Pair.j2 (k + 1) t right (stepOf right) (st.map oth).reverse q true = some r
        rw [h k (by omega)]; exact h2 k (by omega)
      unfold meetP
      rw [if_pos hin]
      by_cases hok : (pt (rd t q)).2.2 = true
      case neg =>
        rw [if_neg hok]
        have hne : st ≠ [] := fun e => hok (hfirst e).2.2.1
        have hi := ih st ((q : Int) + stepOf right) n1.1 n1.2 hd' (by omega) hst (fun e => absurd e hne)
        refine ⟨headM _ (Ev.step (fun k => ?_) hi.1), headP _ (bodyP _ _ hi.2 (fun k hk => ?_))⟩
        · simp only [block_meet.j2]
          rw [if_pos trivial, if_pos hin.1, if_pos hin.2, e1]
          simp only [Option.bind_some]
          rw [if_neg hok, hw]
        · have kk := kR k hk
          simp only at kk
          simp only [quoinref10_Pair.j2]
          rw [if_pos trivial, if_pos hin.1, if_pos hin.2, kk]
          simp only [Option.bind_some]
          rw [if_neg hok, hw]
      case pos =>
        rw [if_pos hok]
        by_cases hop : (pt (rd t q)).2.1 = right
        · rw [if_pos hop]
          have hi := ih (rd t q :: st) ((q : Int) + stepOf right) n1.1 n1.2 hd' (by simp; omega) (fun b hb => by
            rcases List.mem_cons.1 hb with rfl | hb
            · exact hok
            · exact hst b hb) (fun e => by simp at e)
          rw [List.reverse_cons, List.map_cons, List.reverse_cons] at hi
          refine ⟨headM _ (Ev.step (fun k => ?_) hi.1), headP _ (bodyP _ _ hi.2 (fun k hk => ?_))⟩
          · simp only [block_meet.j2]
            rw [if_pos trivial, if_pos hin.1, if_pos hin.2, e1]
            simp only [Option.bind_some]
            rw [if_pos hok, if_pos (by simp [hop]), if_pos (by rw [List.length_reverse]; omega), hw]
          · have kk := kR k hk
            simp only at kk
            simp only [quoinref10_Pair.j2]
            rw [if_pos trivial, if_pos hin.1, if_pos hin.2, kk]
            simp only [Option.bind_some]
            rw [if_pos hok, if_pos (by simp [hop]), if_pos (by rw [List.length_reverse, List.length_map]; omega), hw]; rfl
        · rw [if_neg hop]
          cases st with
          | nil => exact absurd (hfirst rfl).2.2.2 hop
          | cons b st' =>
            simp only
            have hbk := hst b (by simp)
            have l1 : (((b :: st').reverse.length : Int) - 1) = (st'.length : Int) := by simp
            have l2 : ((((b :: st').map oth).reverse.length : Int) - 1) = (st'.length : Int) := by simp
            have hln : (st'.length : Int) ≤ 1099511627779 := by simp at hl; omega
            have g1 : rd (b :: st').reverse (st'.length : Int) = b := by rw [List.reverse_cons, rd_nat _ _ (by simp)]; simp
            have g2 : rd ((b :: st').map oth).reverse (st'.length : Int) = oth b := by rw [List.map_cons, List.reverse_cons, rd_nat _ _ (by simp)]; simp
            have t1 : (b :: st').reverse.take st'.length = st'.reverse := by rw [List.reverse_cons, List.take_left' (by simp)]
            have t2 : ((b :: st').map oth).reverse.take st'.length = (st'.map oth).reverse := by rw [List.map_cons, List.reverse_cons, List.take_left' (by simp)]
            have hbo : (b = (pt (rd t q)).1) ↔ (oth b = rd t q) := by
              constructor
              · rintro rfl; exact (pt_back hok).1
              · intro h
                have := (pt_back hbk).1
                unfold oth at h
                rw [h] at this; exact this.symm
            by_cases hm : b = (pt (rd t q)).1
            case neg =>
              rw [if_neg hm]
              have hm' : ¬ oth b = rd t q := fun h => hm (hbo.2 h)
              refine ⟨headM _ (Ev.step (f := fun _ => some (0, 70)) (fun k => ?_) (Ev.now _)), headP _ (bodyP (fun _ => some (0, 70)) _ (Ev.now _) (fun k hk => ?_))⟩
              · simp only [block_meet.j2]
                rw [if_pos trivial, if_pos hin.1, if_pos hin.2, e1]
                simp only [Option.bind_some]
                rw [if_pos hok, if_neg (by simpa using hop), l1, w64 (by omega) (by omega), if_pos (by omega), if_pos (by simp <;> omega), g1, if_neg hm]
              · have kk := kR k hk
                simp only at kk
                simp only [quoinref10_Pair.j2]
                rw [if_pos trivial, if_pos hin.1, if_pos hin.2, kk]
                simp only [Option.bind_some]
                rw [if_pos hok, if_neg (by simpa using hop), l2, w64 (by omega) (by omega), if_pos (by omega), if_pos (by simp <;> omega), g2, if_neg hm']
            case pos =>
              rw [if_pos hm]
              have hm' : oth b = rd t q := hbo.1 hm
              by_cases hst' : st' = []
              · rw [if_pos hst']
                subst hst'
                refine ⟨headM _ (Ev.step (f := fun _ => some ((q : Int), 0)) (fun k => ?_) (Ev.now _)), headP _ (bodyP (fun _ => some ((q : Int), 0)) _ (Ev.now _) (fun k hk => ?_))⟩
                · simp only [block_meet.j2]
                  rw [if_pos trivial, if_pos hin.1, if_pos hin.2, e1]
                  simp only [Option.bind_some]
                  rw [if_pos hok, if_neg (by simpa using hop), l1, w64 (by simp) (by simp), if_pos (by simp), if_pos (by simp <;> omega), g1, if_pos hm, if_pos (by simp)]
                  simp
                · have kk := kR k hk
                  simp only at kk
                  simp only [quoinref10_Pair.j2]
                  rw [if_pos trivial, if_pos hin.1, if_pos hin.2, kk]
                  simp only [Option.bind_some]
                  rw [if_pos hok, if_neg (by simpa using hop), l2, w64 (by simp) (by simp), if_pos (by simp), if_pos (by simp <;> omega), g2, if_pos hm', if_pos (by simp)]
                  simp
              · rw [if_neg hst']
                have hne0 : ¬ (st'.reverse.length : Int) = 0 := fun h => hst' (by
                  rw [List.length_reverse] at h; exact List.length_eq_zero_iff.1 (by omega))
                have hne1 : ¬ ((st'.map oth).reverse.length : Int) = 0 := fun h => hst' (by
                  rw [List.length_reverse, List.length_map] at h; exact List.length_eq_zero_iff.1 (by omega))
                have hi := ih st' ((q : Int) + stepOf right) n1.1 n1.2 hd' (by simp at hl; omega) (fun b hb => hst b (by simp [hb])) (fun e => absurd e hst')
                refine ⟨headM _ (Ev.step (fun k => ?_) hi.1), headP _ (bodyP _ _ hi.2 (fun k hk => ?_))⟩
                · simp only [block_meet.j2]
                  rw [if_pos trivial, if_pos hin.1, if_pos hin.2, e1]
                  simp only [Option.bind_some]
                  rw [if_pos hok, if_neg (by simpa using hop), l1, w64 (by omega) (by omega), if_pos (by omega), if_pos (by simp <;> omega), g1, if_pos hm, if_pos (by simp <;> omega), Int.toNat_natCast, t1, if_neg hne0, hw]
                · have kk := kR k hk
                  simp only at kk
                  simp only [quoinref10_Pair.j2]
                  rw [if_pos trivial, if_pos hin.1, if_pos hin.2, kk]
                  simp only [Option.bind_some]
                  rw [if_pos hok, if_neg (by simpa using hop), l2, w64 (by omega) (by omega), if_pos (by omega), if_pos (by simp <;> omega), g2, if_pos hm', if_pos (by simp <;> omega), Int.toNat_natCast, t2, if_neg hne1, hw]

/-- the first bracket from a place on in its line -/
def brk (t : List Int) : Nat → Nat → Option Nat
  | 0, _ => none
  | d + 1, p => if rd t p = 10 then none else if (pt (rd t p)).2.2 = true then some p else brk t d (p + 1)
theorem brk_some (t : List Int) : ∀ (d p q : Nat), p + d ≤ t.length → brk t d p = some q → p ≤ q ∧ q < t.length ∧ (pt (rd t q)).2.2 = true ∧ noTen t p (q + 1) ∧ ∀ j : Nat, p ≤ j → j < q → (pt (rd t j)).2.2 = false
  | 0, p, q, _, h => by simp [brk] at h
  | d + 1, p, q, hd, h => by
    simp only [brk] at h
    by_cases h10 : rd t p = 10
    · rw [if_pos h10] at h; cases h
    · rw [if_neg h10] at h
      by_cases hok : (pt (rd t p)).2.2 = true
      · rw [if_pos hok] at h; cases h
        refine ⟨Nat.le_refl _, by omega, hok, fun j h1 h2 => ?_, fun j h1 h2 => by omega⟩
        obtain rfl : j = p := by omega
        exact h10
      · rw [if_neg hok] at h
        obtain ⟨k1, k2, k3, k4, k5⟩ := brk_some t d (p + 1) q (by omega) h
        refine ⟨by omega, k2, k3, fun j h1 h2 => ?_, fun j h1 h2 => ?_⟩
        · by_cases hj : j = p
          · subst hj; exact h10
          · exact k4 j (by omega) h2
        · by_cases hj : j = p
          · subst hj; simpa using hok
          · exact k5 j (by omega) h2
def placeOf : Option Nat → Int
  | some q => q
  | none => -1
theorem bracket_ev (t : List Int) (hb : t.length ≤ 1099511627776) (hB : Bytes t) : ∀ (d p : Nat), p + d = t.length → Ev (fun k => quoinref10_bracket.l0 k t (p : Int)) (placeOf (brk t d p)) := by
  intro d
  induction d with
  | zero =>
    intro p hp
    refine Ev.step (f := fun k => quoinref10_bracket.j1 k t p false) (fun k => ?_) ?_
    · simp only [quoinref10_bracket.l0]; rw [if_neg (by omega)]
    · refine Ev.step (f := fun _ => some (-1)) (fun k => ?_) (Ev.now _)
      simp only [quoinref10_bracket.j1]; rw [if_neg (by simp)]
  | succ d ih =>
    intro p hp
    have hlt : p < t.length := by omega
    have hc := byte_at t hB p hlt
    simp only [brk]
    by_cases h10 : rd t p = 10
    · rw [if_pos h10]
      refine Ev.step (f := fun k => quoinref10_bracket.j1 k t p false) (fun k => ?_) ?_
      · simp only [quoinref10_bracket.l0]; rw [if_pos (by omega), if_pos (by omega), h10]; rfl
      · refine Ev.step (f := fun _ => some (-1)) (fun k => ?_) (Ev.now _)
        simp only [quoinref10_bracket.j1]; rw [if_neg (by simp)]
    · rw [if_neg h10]
      refine Ev.step (f := fun k => quoinref10_bracket.j1 k t p true) (fun k => ?_) ?_
      · simp only [quoinref10_bracket.l0]; rw [if_pos (by omega), if_pos (by omega), show (rd t p != 10) = true by simpa using h10]
      · have hr := refpartner_ev hc.1 hc.2
        refine Ev.step (f := fun k => (quoinref06_Partner.f k (rd t p)).bind fun bt => if bt.2.2 = true then some (p : Int) else quoinref10_bracket.l0 k t ((p + 1 : Nat) : Int)) (fun k => ?_) (Ev.bind hr ?_)
        · simp only [quoinref10_bracket.j1]
          rw [if_pos trivial, if_pos (by omega), if_pos (by omega), w64 (by omega) (by omega)]; rfl
        · by_cases hok : (pt (rd t p)).2.2 = true
          · simp only [if_pos hok]; exact Ev.now _
          · simp only [if_neg hok]; exact ih (p + 1) (by omega)
/-- what both answer of a place: the place of the bracket that belongs to the first one -/
def pairOf (t : List Int) (q : Nat) : Option Int := meetP t (pt (rd t q)).2.1 (left_ t (pt (rd t q)).2.1 q) [] q
theorem pair_ev (t : List Int) (hb : t.length ≤ 1099511627776) (hB : Bytes t) (q : Nat) (hq : q < t.length) (hok : (pt (rd t q)).2.2 = true) :
    Ev (fun k => block_meet.f k t q (pt (rd t q)).2.1) (told (pairOf t q)) ∧ Ev (fun k => quoinref10_Pair.f k t q) (told (pairOf t q)) := by
  have hc := byte_at t hB q hq
  have hm := meet_ev t hb hB (pt (rd t q)).2.1 (left_ t (pt (rd t q)).2.1 q) [] q (by omega) (by omega) (Nat.le_refl _) (by unfold left_; split <;> simp <;> omega) (by simp) (fun _ => ⟨by omega, by omega, hok, rfl⟩)
  simp only [List.reverse_nil, List.map_nil] at hm
  have hr := refpartner_ev hc.1 hc.2
  constructor
  · refine Ev.congr (f := fun k => block_meet.j0 k t q (pt (rd t q)).2.1 (stepOf (pt (rd t q)).2.1)) (fun k => ?_) (Ev.step (fun k => ?_) hm.1)
    · unfold block_meet.f stepOf
      cases (pt (rd t q)).2.1 <;> simp
    · simp only [block_meet.j0]
  · refine Ev.congr (f := fun k => (quoinref06_Partner.f k (rd t q)).bind fun bt => quoinref10_Pair.j0 k t q bt.2.1 (stepOf bt.2.1)) (fun k => ?_) (Ev.bind hr (Ev.step (fun k => ?_) hm.2))
    · unfold quoinref10_Pair.f stepOf
      rw [if_pos (by omega), if_pos (by omega)]
      congr 1
      funext bt
      cases bt.2.1 <;> simp
    · simp only [quoinref10_Pair.j0]
/-- % -/
def percent (t : List Int) (p : Nat) : Option Int := (brk t (t.length - p) p).bind (pairOf t)
theorem partner_loop (t : List Int) (hb : t.length ≤ 1099511627776) (hB : Bytes t) (e : Nat) (he : e ≤ t.length) : ∀ (d p : Nat), p + d = t.length → lineEnd t d p = e → Ev (fun k => block_partner.l0 k t (e : Int) (p : Int)) (told ((brk t d p).bind (pairOf t))) := by
  intro d
  induction d with
  | zero =>
    intro p hp hl
    simp only [lineEnd] at hl
    refine Ev.step (f := fun _ => some (0, 70)) (fun k => ?_) (Ev.now _)
    simp only [block_partner.l0]; rw [if_neg (by omega)]
  | succ d ih =>
    intro p hp hl
    have hlt : p < t.length := by omega
    have hc := byte_at t hB p hlt
    rw [lineEnd_succ] at hl
    simp only [brk]
    by_cases h10 : rd t p = 10
    · rw [if_pos h10] at hl ⊢
      refine Ev.step (f := fun _ => some (0, 70)) (fun k => ?_) (Ev.now _)
      simp only [block_partner.l0]; rw [if_neg (by omega)]
    · rw [if_neg h10] at hl ⊢
      have hle := lineEnd_le t d (p + 1)
      have e1 := partner_eq hc.1 hc.2
      by_cases hok : (pt (rd t p)).2.2 = true
      · rw [if_pos hok, Option.bind_some]
        refine Ev.step (f := fun k => (block_meet.f k t p (pt (rd t p)).2.1).bind fun bt => some (bt.1, bt.2)) (fun k => ?_) (Ev.bind (pair_ev t hb hB p hlt hok).1 (Ev.now _))
        simp only [block_partner.l0]
        rw [if_pos (by omega), if_pos (by omega), if_pos (by omega), e1]
        simp only [Option.bind_some]
        rw [if_pos hok]
      · rw [if_neg hok]
        refine Ev.step (fun k => ?_) (ih (p + 1) (by omega) hl)
        simp only [block_partner.l0]
        rw [if_pos (by omega), if_pos (by omega), if_pos (by omega), e1]
        simp only [Option.bind_some]
        rw [if_neg hok, w64 (by omega) (by omega)]; rfl
theorem partner_ev (t : List Int) (hb : t.length ≤ 1099511627776) (hB : Bytes t) (p : Nat) (hp : p ≤ t.length) : Ev (fun k => block_partner.f k t p) (told (percent t p)) := by
  obtain ⟨n, h1, h2⟩ := end_ev t hb hB p hp
  have hle := lineEnd_le t (t.length - p) p
  unfold block_partner.f
  rw [h1]
  simp only [Option.bind_some]
  exact Ev.bind h2 (partner_loop t hb hB _ (by omega) (t.length - p) p (by omega) rfl)
theorem refpercent_ev (t : List Int) (hb : t.length ≤ 1099511627776) (hB : Bytes t) (p : Nat) (hp : p ≤ t.length) (a : Int) : Ev (fun k => (quoinref10_bracket.f k t p).bind fun q => if q ≥ 0 then (quoinref10_Pair.f k t q).bind fun bt => (if bt.2 = 0 then some ((a, bt.1, 2, 0) : Int × Int × Int × Int) else some (0, 0, 0, bt.2)) else some (0, 0, 0, 70)) (match percent t p with | some q => ((a, q, 2, 0) : Int × Int × Int × Int) | none => (0, 0, 0, 70)) := by
  have hbr := bracket_ev t hb hB (t.length - p) p (by omega)
  refine Ev.bind (g := fun k => quoinref10_bracket.f k t p) hbr ?_
  unfold percent
  cases h : brk t (t.length - p) p with
  | none =>
    simp only [placeOf, Option.bind_none]
    exact Ev.now _
  | some q =>
    obtain ⟨k1, k2, k3, _⟩ := brk_some t (t.length - p) p q (by omega) h
    simp only [placeOf, Option.bind_some]
    have hp2 := (pair_ev t hb hB q k2 k3).2
    refine Ev.congr (f := fun k => (quoinref10_Pair.f k t q).bind fun bt => (if bt.2 = 0 then some (a, bt.1, 2, 0) else some (0, 0, 0, bt.2))) (fun k => if_pos (show (q : Int) ≥ 0 by omega)) (Ev.bind hp2 ?_)
    cases pairOf t q with
    | none => exact Ev.now _
    | some r => exact Ev.now _

end Go.Proofs.Ytjaopgjhmojpnaa.Pb
