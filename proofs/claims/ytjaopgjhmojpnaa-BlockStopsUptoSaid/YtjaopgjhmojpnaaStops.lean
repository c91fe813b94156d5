/-
  BlockStops: plain facts on empty lines and stops, the two closures. No condition but texts of up to 2^40 bytes.
-/
import Derived.Test.YtjaopgjhmojpnaaTimes
namespace Go.Proofs.Ytjaopgjhmojpnaa.Lw
open Go.RowKit Go.Proofs.YtjaopgjhmojpnaaW.PrintWords Go.Proofs.YtjaopgjhmojpnaaW.PrintLast Go.Proofs.YtjaopgjhmojpnaaW.PrintMore
open Go.Proofs.Ytjaopgjhmojpnaa.X
open Go.Proofs.Ytjaopgjhmojpnaa.Pb
set_option linter.unusedVariables false
set_option linter.unusedSimpArgs false

def dn (t : List Int) (i : Int) : Bool := decide (2 ≤ i) && decide (rd t (i - 1) = 10) && !decide (rd t (i - 2) = 10) && (decide (i = t.length) || decide (rd t i = 10))
def un (t : List Int) (i : Int) : Bool := decide (i + 1 < t.length) && decide (rd t i = 10) && !decide (rd t (i + 1) = 10) && (decide (i = 0) || decide (rd t (i - 1) = 10))

set_option maxHeartbeats 4000000 in
set_option maxRecDepth 100000 in
theorem dn_calls (b : Nat) (A0 : Option Addr) (c0 : Nat) (t : List Int) (i : Int) (w : World) (hbox : w.cell? ⟨b, 0, none⟩ = some (.slice A0 t.length c0)) (hr : Kd.C (Kd.int .u8) w A0 t.length t) (hc : t.length ≤ c0) (hb : t.length ≤ 1099511627776) (h0 : 0 ≤ i) (h1 : i ≤ t.length) :
    Calls Try.prog 15 #[.int .i64 i, .pointer (some ⟨b, 0, none⟩)] w fun e w' => e = .returned (.bool (dn t i)) ∧ w = w' := by
  by_cases h2 : 2 ≤ i
  · obtain ⟨ad, e, x1⟩ := Kd.at_int hr (i - 1) (by omega) (by omega)
    obtain ⟨ad', e', x2⟩ := Kd.at_int hr (i - 2) (by omega) (by omega)
    subst e; cases e'
    replace x1 : w.cell? (ad.add (i.toNat - 1)) = some (.int .u8 (rd t (i - 1))) := by rw [show i.toNat - 1 = (i - 1).toNat from by omega]; exact x1
    have d2 : decide (2 ≤ i) = true := decide_eq_true h2
    have t1 : 0 ≤ i - 1 := by omega
    have t2 : i - 1 < (t.length : Int) := by omega
    have t3 : 0 ≤ i - 2 := by omega
    have t4 : i - 2 < (t.length : Int) := by omega
    by_cases c1 : rd t (i - 1) = 10
    · have c1b : (rd t (i - 1) == 10) = true := beq_iff_eq.mpr c1
      by_cases c2 : rd t (i - 2) = 10
      · have c2b : (rd t (i - 2) != 10) = false := bne_eq_false_iff_eq.mpr c2
        have hv : dn t i = false := by simp [dn, c2]
        have HV := Aside0.mk hv
        clear hr hv c1 c2
        go_enter Try.func15, Try.ntmps15
        go_wp2
        go_ret
        exact ⟨congrArg (fun b => Ending.returned (Value.bool b)) HV.out.symm, rfl⟩
      · have c2b : (rd t (i - 2) != 10) = true := bne_iff_ne.mpr c2
        by_cases h3 : i = t.length
        · have h3b : (i == (t.length : Int)) = true := beq_iff_eq.mpr h3
          have hv : dn t i = true := by simp [dn, c1, c2, h2, ← h3]
          have HV := Aside0.mk hv
          clear hr hv c1 c2 h3
          go_enter Try.func15, Try.ntmps15
          go_wp2
          go_ret
          exact ⟨congrArg (fun b => Ending.returned (Value.bool b)) HV.out.symm, rfl⟩
        · have h3b : (i == (t.length : Int)) = false := beq_eq_false_iff_ne.mpr h3
          obtain ⟨ad'', e'', x3⟩ := Kd.at_int hr i (by omega) (by omega)
          cases e''
          have t5 : i < (t.length : Int) := by omega
          have hv : dn t i = (rd t i == 10) := by simp only [dn, c1, c2, h2, h3]; simp; rfl
          have HV := Aside0.mk hv
          clear hr hv c1 c2 h3
          go_enter Try.func15, Try.ntmps15
          go_wp2
          go_ret
          exact ⟨congrArg (fun b => Ending.returned (Value.bool b)) HV.out.symm, rfl⟩
    · have c1b : (rd t (i - 1) == 10) = false := beq_eq_false_iff_ne.mpr c1
      have hv : dn t i = false := by simp [dn, c1]
      have HV := Aside0.mk hv
      clear hr hv c1
      go_enter Try.func15, Try.ntmps15
      go_wp2
      go_ret
      exact ⟨congrArg (fun b => Ending.returned (Value.bool b)) HV.out.symm, rfl⟩
  · have d2 : decide (2 ≤ i) = false := decide_eq_false h2
    have hv : dn t i = false := by simp [dn, h2]
    have HV := Aside0.mk hv
    clear hr hv
    go_enter Try.func15, Try.ntmps15
    go_wp2
    go_ret
    exact ⟨congrArg (fun b => Ending.returned (Value.bool b)) HV.out.symm, rfl⟩

set_option maxHeartbeats 4000000 in
set_option maxRecDepth 100000 in
theorem un_calls (b : Nat) (A0 : Option Addr) (c0 : Nat) (t : List Int) (i : Int) (w : World) (hbox : w.cell? ⟨b, 0, none⟩ = some (.slice A0 t.length c0)) (hr : Kd.C (Kd.int .u8) w A0 t.length t) (hc : t.length ≤ c0) (hb : t.length ≤ 1099511627776) (h0 : 0 ≤ i) (h1 : i ≤ t.length) :
    Calls Try.prog 16 #[.int .i64 i, .pointer (some ⟨b, 0, none⟩)] w fun e w' => e = .returned (.bool (un t i)) ∧ w = w' := by
  by_cases h2 : i + 1 < t.length
  · obtain ⟨ad, e, x1⟩ := Kd.at_int hr i (by omega) (by omega)
    obtain ⟨ad', e', x2⟩ := Kd.at_int hr (i + 1) (by omega) (by omega)
    subst e; cases e'
    have x2' : w.cell? (ad.add (i.toNat + 1)) = some (.int .u8 (rd t (i + 1))) := by rw [show i.toNat + 1 = (i + 1).toNat from by omega]; exact x2
    have d2 : decide (i + 1 < (t.length : Int)) = true := decide_eq_true h2
    have t1 : 0 ≤ i + 1 := by omega
    have t3 : i < (t.length : Int) := by omega
    by_cases c1 : rd t i = 10
    · have c1b : (rd t i == 10) = true := beq_iff_eq.mpr c1
      by_cases c2 : rd t (i + 1) = 10
      · have c2b : (rd t (i + 1) != 10) = false := bne_eq_false_iff_eq.mpr c2
        have hv : un t i = false := by simp [un, c2]
        have HV := Aside0.mk hv
        clear hr hv c1 c2
        go_enter Try.func16, Try.ntmps16
        go_wp2
        go_ret
        exact ⟨congrArg (fun b => Ending.returned (Value.bool b)) HV.out.symm, rfl⟩
      · have c2b : (rd t (i + 1) != 10) = true := bne_iff_ne.mpr c2
        by_cases h3 : i = 0
        · have h3b : (i == 0) = true := beq_iff_eq.mpr h3
          have hv : un t i = true := by unfold un; rw [d2, decide_eq_true c1, decide_eq_false c2, decide_eq_true h3]; rfl
          have HV := Aside0.mk hv
          clear hr hv c1 c2 h3
          go_enter Try.func16, Try.ntmps16
          go_wp2
          go_ret
          exact ⟨congrArg (fun b => Ending.returned (Value.bool b)) HV.out.symm, rfl⟩
        · have h3b : (i == 0) = false := beq_eq_false_iff_ne.mpr h3
          obtain ⟨ad'', e'', x3⟩ := Kd.at_int hr (i - 1) (by omega) (by omega)
          cases e''
          replace x3 : w.cell? (ad.add (i.toNat - 1)) = some (.int .u8 (rd t (i - 1))) := by rw [show i.toNat - 1 = (i - 1).toNat from by omega]; exact x3
          have t5 : 0 ≤ i - 1 := by omega
          have t6 : i - 1 < (t.length : Int) := by omega
          have t7 : 1 ≤ i := by omega
          have hv : un t i = (rd t (i - 1) == 10) := by simp only [un, decide_eq_true h2, c1, c2, h3]; simp; rfl
          have HV := Aside0.mk hv
          clear hr hv c1 c2 h3
          go_enter Try.func16, Try.ntmps16
          go_wp2
          go_ret
          exact ⟨congrArg (fun b => Ending.returned (Value.bool b)) HV.out.symm, rfl⟩
    · have c1b : (rd t i == 10) = false := beq_eq_false_iff_ne.mpr c1
      have hv : un t i = false := by simp [un, c1]
      have HV := Aside0.mk hv
      clear hr hv c1
      go_enter Try.func16, Try.ntmps16
      go_wp2
      go_ret
      exact ⟨congrArg (fun b => Ending.returned (Value.bool b)) HV.out.symm, rfl⟩
  · have d2 : decide (i + 1 < (t.length : Int)) = false := decide_eq_false h2
    have hv : un t i = false := by simp only [un, d2]; rfl
    have HV := Aside0.mk hv
    clear hr hv
    go_enter Try.func16, Try.ntmps16
    go_wp2
    go_ret
    exact ⟨congrArg (fun b => Ending.returned (Value.bool b)) HV.out.symm, rfl⟩

theorem stopAt_dn (t : List Int) (i : Int) (h0 : 0 ≤ i) (h1 : i ≤ t.length) : stopAt ⟨#[125]⟩ t i = dn t i := by
  have hk : ¬ (⟨#[125]⟩ : ByteArray).toList = ([123] : List UInt8) := by simp [Lib.toList_data]
  unfold stopAt dn em; rw [if_neg hk, show i - 1 - 1 = i - 2 from by omega]
  by_cases a : 2 ≤ i
  · by_cases b : rd t (i - 1) = 10
    · have : ¬ i - 1 = 0 := by omega
      have : ¬ i = 0 := by omega
      have : ¬ i - 1 = (t.length : Int) := by omega
      have : 0 < i := by omega
      simp [*]; rw [Bool.and_comm]
    · have : ¬ i = 0 := by omega
      simp [*]
  · have e : i = 0 ∨ i = 1 := by omega
    rcases e with rfl | rfl
    · simp
    · simp; intro h2 _ _; exact h2
theorem stopAt_un (t : List Int) (i : Int) (h0 : 0 ≤ i) (h1 : i ≤ t.length) : stopAt ⟨#[123]⟩ t i = un t i := by
  have hk : (⟨#[123]⟩ : ByteArray).toList = ([123] : List UInt8) := by simp [Lib.toList_data]
  unfold stopAt un em; rw [if_pos hk, show i + 1 - 1 = i from by omega]
  by_cases a : i = t.length
  · have : ¬ (t.length : Int) + 1 < t.length := by omega
    simp [a]; omega
  · have b : i < t.length := by omega
    by_cases c : rd t i = 10
    · have : ¬ i + 1 = 0 := by omega
      by_cases d : i + 1 = t.length
      · have : ¬ i + 1 < (t.length : Int) := by omega
        simp [*]
      · have : i + 1 < (t.length : Int) := by omega
        simp [*]; rw [Bool.and_comm]
    · simp [*]

theorem upTo_sorted (t : List Int) : ∀ (d p : Nat), (upTo t d p).Pairwise (· < ·)
  | 0, p => List.Pairwise.nil
  | d + 1, p => List.Pairwise.cons (fun x hx => by rw [upTo_mem] at hx; omega) (upTo_sorted t d (p + 1))
theorem paras_sorted (key : ByteArray) (t : List Int) : (paras key t).Pairwise (· < ·) := by
  unfold paras parasFrom; exact (upTo_sorted t _ _).filter _
theorem nextUp_first (l : List Int) (n p x : Int) (hs : l.Pairwise (· < ·)) (hx : x ∈ l) (hp : p < x) : nextUp l n p ≤ x := by
  induction l with
  | nil => cases hx
  | cons a l ih =>
    unfold nextUp at ih ⊢
    rw [List.pairwise_cons] at hs
    by_cases h : p < a
    · rw [List.find?_cons_of_pos (by simpa using h)]
      rcases List.mem_cons.1 hx with rfl | hx
      · simp
      · have := hs.1 x hx; simp; omega
    · rw [List.find?_cons_of_neg (by simpa using h)]
      rcases List.mem_cons.1 hx with rfl | hx
      · omega
      · exact ih hs.2 hx
theorem nextDn_last (l : List Int) (p x : Int) (hs : l.Pairwise (· < ·)) (hx : x ∈ l) (hp : x < p) : x ≤ nextDn l p := by
  unfold nextDn
  have hs' : l.reverse.Pairwise (· > ·) := by rw [List.pairwise_reverse]; exact hs
  have hx' : x ∈ l.reverse := by simpa using hx
  generalize l.reverse = r at hs' hx'
  clear hs hx
  induction r with
  | nil => cases hx'
  | cons a r ih =>
    rw [List.pairwise_cons] at hs'
    by_cases h : a < p
    · rw [List.find?_cons_of_pos (by simpa using h)]
      rcases List.mem_cons.1 hx' with rfl | hx
      · simp
      · have := hs'.1 x hx; simp; omega
    · rw [List.find?_cons_of_neg (by simpa using h)]
      rcases List.mem_cons.1 hx' with rfl | hx
      · omega
      · exact ih hs'.2 hx
theorem nextUp_mem (l : List Int) (n p : Int) : nextUp l n p = n ∨ nextUp l n p ∈ l := by
  unfold nextUp
  cases e : l.find? (fun x => decide (p < x)) with
  | none => left; rfl
  | some x => right; exact List.mem_of_find?_eq_some e
theorem nextDn_mem (l : List Int) (p : Int) : nextDn l p = 0 ∨ nextDn l p ∈ l := by
  unfold nextDn
  cases e : l.reverse.find? (fun x => decide (x < p)) with
  | none => left; rfl
  | some x => right; have := List.mem_of_find?_eq_some e; simpa using this
theorem goes_dn (t : List Int) (p : Int) : goes ⟨#[125]⟩ t 1 p = if p = t.length then none else some (nextUp (paras ⟨#[125]⟩ t) t.length p) := by
  have e : stopsOf ⟨#[125]⟩ t = paras ⟨#[125]⟩ t := by unfold stopsOf; rw [if_neg (by simp [Lib.toList_data])]
  unfold goes; rw [if_pos kf125, e]; rfl
theorem goes_un (t : List Int) (p : Int) : goes ⟨#[123]⟩ t 1 p = if p = 0 then none else some (nextDn (paras ⟨#[123]⟩ t) p) := by
  have e : stopsOf ⟨#[123]⟩ t = paras ⟨#[123]⟩ t := by unfold stopsOf; rw [if_neg (by simp [Lib.toList_data])]
  unfold goes; rw [if_neg (by simp [kf123]), e]; rfl
/-- What } comes to: no other stop lies between. -/
theorem dn_spec (t : List Int) (p : Int) (h0 : 0 ≤ p) (h1 : p < t.length) : ∃ q, goes ⟨#[125]⟩ t 1 p = some q ∧ p < q ∧ q ≤ t.length ∧ (q = t.length ∨ dn t q = true) ∧ ∀ i, p < i → i < q → dn t i = false := by
  have hm := paras_mem ⟨#[125]⟩ t
  refine ⟨_, by rw [goes_dn, if_neg (by omega)], nextUp_gt _ _ _ h1, nextUp_le _ _ _ (fun x hx => ((hm x).1 hx).2.1), ?_, fun i hi hq => ?_⟩
  · rcases nextUp_mem (paras ⟨#[125]⟩ t) t.length p with h | h
    · exact .inl h
    · right
      have := (hm _).1 h
      rw [← stopAt_dn t _ this.1 this.2.1]; exact this.2.2
  · have hle := nextUp_le (paras ⟨#[125]⟩ t) t.length p (fun x hx => ((hm x).1 hx).2.1)
    cases hd : dn t i with
    | false => rfl
    | true =>
      have hi' : i ∈ paras ⟨#[125]⟩ t := (hm i).2 ⟨by omega, by omega, by rw [stopAt_dn t i (by omega) (by omega)]; exact hd⟩
      have := nextUp_first _ t.length p i (paras_sorted _ t) hi' hi
      omega
theorem un_spec (t : List Int) (p : Int) (h0 : 0 < p) (h1 : p ≤ t.length) : ∃ q, goes ⟨#[123]⟩ t 1 p = some q ∧ q < p ∧ 0 ≤ q ∧ (q = 0 ∨ un t q = true) ∧ ∀ i, q < i → i < p → un t i = false := by
  have hm := paras_mem ⟨#[123]⟩ t
  refine ⟨_, by rw [goes_un, if_neg (by omega)], nextDn_lt _ _ h0, nextDn_ge _ _ (fun x hx => ((hm x).1 hx).1), ?_, fun i hi hq => ?_⟩
  · rcases nextDn_mem (paras ⟨#[123]⟩ t) p with h | h
    · exact .inl h
    · right
      have := (hm _).1 h
      rw [← stopAt_un t _ this.1 this.2.1]; exact this.2.2
  · have hge := nextDn_ge (paras ⟨#[123]⟩ t) p (fun x hx => ((hm x).1 hx).1)
    cases hd : un t i with
    | false => rfl
    | true =>
      have hi' : i ∈ paras ⟨#[123]⟩ t := (hm i).2 ⟨by omega, by omega, by rw [stopAt_un t i (by omega) (by omega)]; exact hd⟩
      have := nextDn_last _ p i (paras_sorted _ t) hi' hq
      omega

end Go.Proofs.Ytjaopgjhmojpnaa.Lw
