/-
  Plain facts about edits as numbers and lists: what fits, what is put, taken back, cut down. No program in sight.
-/
import Derived.Test.YtjljkcbopkldbaaInv
import Derived.Test.YtjljkcbopkldbaaApp
import Derived.Test.YtjljkcbopkldbaaFir
namespace Go.Proofs.Ytjljkcbopkldbaa.Pl
open Go.RowKit Go.Proofs.YtjljkcbopkldbaaW.PrintWords Go.Proofs.YtjljkcbopkldbaaW.PrintLast Go.Proofs.YtjljkcbopkldbaaW.PrintMore Go.Proofs.Ytjljkcbopkldbaa.X Go.Proofs.Ytjljkcbopkldbaa
set_option linter.unusedVariables false
set_option linter.unusedSimpArgs false

def Bytes (t : List Int) : Prop := ∀ x ∈ t, 0 ≤ x ∧ x ≤ 255
def BytesE (l : List S84) : Prop := ∀ e ∈ l, Bytes e.f1 ∧ Bytes e.f2
theorem Bytes.app {a b : List Int} (h : Bytes a) (k : Bytes b) : Bytes (a ++ b) := fun x hx => by
  rcases List.mem_append.1 hx with hx | hx
  · exact h x hx
  · exact k x hx
theorem Bytes.sub {a b : List Int} (h : Bytes b) (k : ∀ x ∈ a, x ∈ b) : Bytes a := fun x hx => h x (k x hx)

theorem toU8_inj {x y : Int} (hx : 0 ≤ x ∧ x ≤ 255) (hy : 0 ≤ y ∧ y ≤ 255) (h : x.toNat.toUInt8 = y.toNat.toUInt8) : x = y := by
  have := congrArg UInt8.toNat h
  simp only [Nat.toUInt8, UInt8.toNat_ofNat'] at this
  omega

theorem str_data (l : List Int) : (strOfNums l).toList = l.map fun x => x.toNat.toUInt8 := by
  unfold strOfNums
  rw [Lib.toList_data]

theorem map_inj_bytes : ∀ (a b : List Int), Bytes a → Bytes b → a.map (fun x => x.toNat.toUInt8) = b.map (fun x => x.toNat.toUInt8) → a = b
  | [], [], _, _, _ => rfl
  | [], _ :: _, _, _, h => by simp at h
  | _ :: _, [], _, _, h => by simp at h
  | x :: a, y :: b, ha, hb, h => by
    simp only [List.map_cons, List.cons.injEq] at h
    have h1 := toU8_inj (ha x (by simp)) (hb y (by simp)) h.1
    have h2 := map_inj_bytes a b (fun z hz => ha z (by simp [hz])) (fun z hz => hb z (by simp [hz])) h.2
    rw [h1, h2]
theorem str_eq {a b : List Int} (ha : Bytes a) (hb : Bytes b) : ((strOfNums a).toList == (strOfNums b).toList) = decide (a = b) := by
  rw [str_data, str_data]
  by_cases h : a = b
  · subst h; simp
  · rw [decide_eq_false h]
    rw [beq_eq_false_iff_ne]
    exact fun e => h (map_inj_bytes a b ha hb e)
theorem str_eq' {a b : List Int} (ha : Bytes a) (hb : Bytes b) : ((strOfNums a).toList = (strOfNums b).toList) ↔ a = b := by
  have := str_eq ha hb
  constructor
  · intro h; rw [h] at this; simp at this; exact this
  · intro h; rw [h]

/-! fits, put -/
theorem fits_split {t : List Int} {e : S84} (ht : Bytes t) (he : Bytes e.f1) (h : fitsB t e = true) : ∃ a b, t = a ++ e.f1 ++ b ∧ e.f0 = (a.length : Int) := by
  unfold fitsB at h
  simp only [Bool.and_eq_true, decide_eq_true_eq] at h
  obtain ⟨h0, h1, h2⟩ := h
  unfold Hp.hpB at h2
  simp only [Bool.and_eq_true, decide_eq_true_eq] at h2
  obtain ⟨h3, h4⟩ := h2
  rw [str_eq ((ht.sub (fun x hx => List.mem_of_mem_drop (List.mem_of_mem_take hx)))) he] at h4
  have h5 := of_decide_eq_true h4
  refine ⟨t.take e.f0.toNat, (t.drop e.f0.toNat).drop e.f1.length, ?_, ?_⟩
  · conv => lhs; rw [← List.take_append_drop e.f0.toNat t, ← List.take_append_drop e.f1.length (t.drop e.f0.toNat), h5]
    rw [List.append_assoc]
  · rw [List.length_take]; omega
theorem fits_of (a b : List Int) (e : S84) (h : e.f0 = (a.length : Int)) : fitsB (a ++ e.f1 ++ b) e = true := by
  unfold fitsB
  simp only [Bool.and_eq_true, decide_eq_true_eq]
  refine ⟨by omega, by simp; omega, ?_⟩
  unfold Hp.hpB
  rw [h, Int.toNat_natCast, List.append_assoc, List.drop_left, List.take_left]
  simp
theorem put_of (a b : List Int) (e : S84) (h : e.f0 = (a.length : Int)) : putE (a ++ e.f1 ++ b) e = a ++ e.f2 ++ b := by
  unfold putE
  rw [h, Int.toNat_natCast]
  rw [show a ++ e.f1 ++ b = a ++ (e.f1 ++ b) from List.append_assoc .., List.take_left]
  rw [show a.length + e.f1.length = (a ++ e.f1).length by simp, ← List.append_assoc a e.f1 b, List.drop_left]
theorem put_length (t : List Int) (e : S84) : (putE t e).length ≤ t.length + e.f2.length := by
  unfold putE; simp; omega

def app : List S84 → List Int → Option (List Int)
  | [], t => some t
  | e :: r, t => if fitsB t e then app r (putE t e) else none
theorem app_append : ∀ (l1 l2 : List S84) (t : List Int), app (l1 ++ l2) t = (app l1 t).bind (app l2)
  | [], l2, t => rfl
  | e :: r, l2, t => by
    rw [List.cons_append]
    unfold app
    by_cases h : fitsB t e = true
    · rw [if_pos h, if_pos h]; exact app_append r l2 (putE t e)
    · rw [if_neg h, if_neg h]; rfl
def news (l : List S84) : Nat := (l.map fun e => e.f2.length).sum
def olds (l : List S84) : Nat := (l.map fun e => e.f1.length).sum
theorem news_cons (e : S84) (l : List S84) : news (e :: l) = e.f2.length + news l := by simp [news]
theorem olds_cons (e : S84) (l : List S84) : olds (e :: l) = e.f1.length + olds l := by simp [olds]
theorem news_append (l l' : List S84) : news (l ++ l') = news l + news l' := by simp [news]
theorem olds_append (l l' : List S84) : olds (l ++ l') = olds l + olds l' := by simp [olds]
def answer (o : Option (List Int)) : List Int × Int := match o with
  | some u => (u, 0)
  | none => ([], 170)
theorem applyL_eq : ∀ (l : List S84) (t : List Int), t.length + news l ≤ 140737488355328 → applyL l t = some (answer (app l t))
  | [], t, _ => rfl
  | e :: r, t, h => by
    rw [news_cons] at h
    have := put_length t e
    unfold applyL app
    by_cases hf : fitsB t e = true
    · rw [if_pos hf, if_pos hf, if_pos (by omega)]; exact applyL_eq r (putE t e) (by omega)
    · rw [if_neg hf, if_neg hf]; rfl

/-- the texts on the way hold bytes -/
theorem app_cons {e : S84} {r : List S84} {t u : List Int} (ht : Bytes t) (hl : BytesE (e :: r)) (h : app (e :: r) t = some u) : ∃ a b, t = a ++ e.f1 ++ b ∧ e.f0 = (a.length : Int) ∧ app r (a ++ e.f2 ++ b) = some u ∧ Bytes (a ++ e.f2 ++ b) ∧ BytesE r := by
  unfold app at h
  by_cases hf : fitsB t e = true
  · rw [if_pos hf] at h
    have he := hl e (by simp)
    obtain ⟨a, b, h1, h2⟩ := fits_split ht he.1 hf
    rw [h1, put_of a b e h2] at h
    refine ⟨a, b, h1, h2, h, ?_, fun x hx => hl x (by simp [hx])⟩
    exact ((ht.sub (fun x hx => by rw [h1]; simp [hx])).app he.2).app (ht.sub (fun x hx => by rw [h1]; simp [hx]))
  · rw [if_neg hf] at h; cases h

theorem app_back : ∀ (l : List S84) (t u : List Int), Bytes t → BytesE l → app l t = some u → app (l.reverse.map flip) u = some t ∧ Bytes u
  | [], t, u, ht, _, h => by cases h; exact ⟨rfl, ht⟩
  | e :: r, t, u, ht, hl, h => by
    obtain ⟨a, b, h1, h2, h3, h4, h5⟩ := app_cons ht hl h
    obtain ⟨k1, k2⟩ := app_back r _ u h4 h5 h3
    refine ⟨?_, k2⟩
    rw [List.reverse_cons, List.map_append, app_append, k1, Option.bind_some]
    show app [flip e] (a ++ e.f2 ++ b) = some t
    unfold app
    have hf := fits_of a b (flip e) h2
    have hp := put_of a b (flip e) h2
    change fitsB (a ++ e.f2 ++ b) (flip e) = true at hf
    change putE (a ++ e.f2 ++ b) (flip e) = a ++ e.f1 ++ b at hp
    rw [if_pos hf, hp, h1]; rfl
theorem flip_flip (e : S84) : flip (flip e) = e := rfl
theorem back_back (l : List S84) : ((l.reverse.map flip).reverse.map flip) = l := by
  rw [← List.map_reverse, List.reverse_reverse, List.map_map]
  conv => rhs; rw [← List.map_id l]
  congr 1

def sizeL (l : List S84) : Int := (l.map fun e => (e.f2.length : Int) - e.f1.length).sum
theorem sizeL_cons (e : S84) (l : List S84) : sizeL (e :: l) = (e.f2.length : Int) - e.f1.length + sizeL l := by simp [sizeL]
theorem sizeL_append : ∀ (l l' : List S84), sizeL (l ++ l') = sizeL l + sizeL l'
  | [], l' => by simp [sizeL]
  | e :: r, l' => by rw [List.cons_append, sizeL_cons, sizeL_cons, sizeL_append r l']; omega
theorem sizeL_flip : ∀ (l : List S84), sizeL (l.map flip) = - sizeL l
  | [] => by simp [sizeL]
  | e :: r => by
    rw [List.map_cons, sizeL_cons, sizeL_cons, sizeL_flip r]
    show (e.f1.length : Int) - e.f2.length + _ = _
    omega
theorem sizeL_reverse : ∀ (l : List S84), sizeL l.reverse = sizeL l
  | [] => rfl
  | e :: r => by rw [List.reverse_cons, sizeL_append, sizeL_reverse r, sizeL_cons, sizeL_cons]; simp [sizeL]; omega
theorem sizeL_back (l : List S84) : sizeL (l.reverse.map flip) = - sizeL l := by rw [sizeL_flip, sizeL_reverse]
theorem sizeL_bound : ∀ (l : List S84), - (olds l : Int) ≤ sizeL l ∧ sizeL l ≤ (news l : Int)
  | [] => by simp [sizeL, olds, news]
  | e :: r => by have := sizeL_bound r; rw [sizeL_cons, olds_cons, news_cons]; omega
theorem app_length : ∀ (l : List S84) (t u : List Int), Bytes t → BytesE l → app l t = some u → (u.length : Int) = t.length + sizeL l
  | [], t, u, _, _, h => by cases h; simp [sizeL]
  | e :: r, t, u, ht, hl, h => by
    obtain ⟨a, b, h1, h2, h3, h4, h5⟩ := app_cons ht hl h
    have := app_length r _ u h4 h5 h3
    rw [this, sizeL_cons, h1]; simp; omega

/-! cutting down -/
def lcp : List Int → List Int → Nat
  | a :: x, b :: y => if a = b then lcp x y + 1 else 0
  | _, _ => 0
theorem lcp_le : ∀ (x y : List Int), lcp x y ≤ x.length ∧ lcp x y ≤ y.length
  | [], y => by simp [lcp]
  | _ :: _, [] => by simp [lcp]
  | a :: x, b :: y => by have := lcp_le x y; unfold lcp; split <;> simp <;> omega
theorem lcp_take : ∀ (x y : List Int), x.take (lcp x y) = y.take (lcp x y)
  | [], y => by simp [lcp]
  | _ :: _, [] => by simp [lcp]
  | a :: x, b :: y => by
    unfold lcp
    by_cases h : a = b
    · rw [if_pos h, h, List.take_succ_cons, List.take_succ_cons, lcp_take x y]
    · rw [if_neg h]; rfl
/-- behind the common beginning the lists part -/
def Parts (x y : List Int) : Prop := ∀ a r b s, x = a :: r → y = b :: s → a ≠ b
theorem lcp_parts : ∀ (x y : List Int), Parts (x.drop (lcp x y)) (y.drop (lcp x y))
  | [], y => by intro a r b s h; simp [lcp] at h
  | _ :: _, [] => by intro a r b s _ h; simp [lcp] at h
  | a :: x, b :: y => by
    unfold lcp
    by_cases h : a = b
    · rw [if_pos h, List.drop_succ_cons, List.drop_succ_cons]; exact lcp_parts x y
    · rw [if_neg h]
      intro a' r b' s h1 h2
      simp at h1 h2
      rw [← h1.1, ← h2.1]; exact h
theorem lcp_zero {x y : List Int} (h : Parts x y) : lcp x y = 0 := by
  cases x with
  | nil => simp [lcp]
  | cons a x =>
    cases y with
    | nil => simp [lcp]
    | cons b y => unfold lcp; rw [if_neg (h a x b y rfl rfl)]

def cutP (x y : List Int) : Nat := lcp x y
def cutS (x y : List Int) : Nat := lcp (x.drop (lcp x y)).reverse (y.drop (lcp x y)).reverse
def cutE (e : S84) : S84 :=
  ⟨wrap64 (e.f0 + (cutP e.f1 e.f2 : Nat)), (e.f1.drop (cutP e.f1 e.f2)).take (e.f1.length - cutP e.f1 e.f2 - cutS e.f1 e.f2), (e.f2.drop (cutP e.f1 e.f2)).take (e.f2.length - cutP e.f1 e.f2 - cutS e.f1 e.f2)⟩

/-- a common end -/
theorem common_end (x y : List Int) : ∃ o n s, x = o ++ s ∧ y = n ++ s ∧ s.length = lcp x.reverse y.reverse ∧ o = x.take (x.length - lcp x.reverse y.reverse) ∧ n = y.take (y.length - lcp x.reverse y.reverse) ∧ Parts o.reverse n.reverse := by
  have h1 := lcp_le x.reverse y.reverse
  have h2 := lcp_take x.reverse y.reverse
  have h3 := lcp_parts x.reverse y.reverse
  rw [List.length_reverse, List.length_reverse] at h1
  generalize hm : lcp x.reverse y.reverse = m at h1 h2 h3
  have ex : x.drop (x.length - m) = (x.reverse.take m).reverse := by rw [List.take_reverse, List.reverse_reverse]
  have ey : y.drop (y.length - m) = (y.reverse.take m).reverse := by rw [List.take_reverse, List.reverse_reverse]
  refine ⟨_, _, x.drop (x.length - m), (List.take_append_drop (x.length - m) x).symm, ?_, ?_, rfl, rfl, ?_⟩
  · rw [ex, h2, ← ey, List.take_append_drop]
  · rw [List.length_drop]; omega
  · rw [List.drop_reverse, List.drop_reverse] at h3; exact h3

structure Cut (e : S84) (p s : List Int) : Prop where
  e1 : e.f1 = p ++ (cutE e).f1 ++ s
  e2 : e.f2 = p ++ (cutE e).f2 ++ s
  e0 : (cutE e).f0 = wrap64 (e.f0 + (p.length : Int))
  parts : Parts (cutE e).f1 (cutE e).f2
  parts' : Parts (cutE e).f1.reverse (cutE e).f2.reverse
theorem take_parts {x y : List Int} (h : Parts x y) (i j : Nat) : Parts (x.take i) (y.take j) := by
  intro a r b s h1 h2
  cases x with
  | nil => simp at h1
  | cons a' x =>
    cases y with
    | nil => simp at h2
    | cons b' y =>
      cases i with
      | zero => simp at h1
      | succ i =>
        cases j with
        | zero => simp at h2
        | succ j =>
          rw [List.take_succ_cons] at h1 h2
          simp only [List.cons.injEq] at h1 h2
          rw [← h1.1, ← h2.1]
          exact h a' x b' y rfl rfl
theorem cut_cut (e : S84) : ∃ p s, Cut e p s := by
  have h1 := lcp_le e.f1 e.f2
  have h2 := lcp_take e.f1 e.f2
  have h3 := lcp_parts e.f1 e.f2
  obtain ⟨o, n, s, k1, k2, k3, k4, k5, k6⟩ := common_end (e.f1.drop (lcp e.f1 e.f2)) (e.f2.drop (lcp e.f1 e.f2))
  have ho : (cutE e).f1 = o := by rw [k4]; simp only [cutE, cutP, cutS]; rw [List.length_drop]
  have hn : (cutE e).f2 = n := by rw [k5]; simp only [cutE, cutP, cutS]; rw [List.length_drop]
  refine ⟨e.f1.take (lcp e.f1 e.f2), s, ?_, ?_, ?_, ?_, ?_⟩
  · rw [ho]; conv => lhs; rw [← List.take_append_drop (lcp e.f1 e.f2) e.f1, k1]
    rw [List.append_assoc]
  · rw [hn, h2]; conv => lhs; rw [← List.take_append_drop (lcp e.f1 e.f2) e.f2, k2]
    rw [List.append_assoc]
  · show wrap64 (e.f0 + (cutP e.f1 e.f2 : Nat)) = _
    rw [List.length_take, Nat.min_eq_left h1.1]; rfl
  · rw [ho, hn, k4, k5]; exact take_parts h3 _ _
  · rw [ho, hn]; exact k6
theorem wrap64_idem (x : Int) : wrap64 (wrap64 x) = wrap64 x := by unfold wrap64; omega
theorem cut_twice (e : S84) : cutE (cutE e) = cutE e := by
  obtain ⟨p, s, h⟩ := cut_cut e
  have hp : cutP (cutE e).f1 (cutE e).f2 = 0 := lcp_zero h.parts
  have hs : cutS (cutE e).f1 (cutE e).f2 = 0 := by
    unfold cutS
    rw [lcp_zero h.parts, List.drop_zero, List.drop_zero]
    exact lcp_zero h.parts'
  have e1 : cutE (cutE e) = ⟨wrap64 ((cutE e).f0 + (cutP (cutE e).f1 (cutE e).f2 : Nat)), ((cutE e).f1.drop (cutP (cutE e).f1 (cutE e).f2)).take ((cutE e).f1.length - cutP (cutE e).f1 (cutE e).f2 - cutS (cutE e).f1 (cutE e).f2), ((cutE e).f2.drop (cutP (cutE e).f1 (cutE e).f2)).take ((cutE e).f2.length - cutP (cutE e).f1 (cutE e).f2 - cutS (cutE e).f1 (cutE e).f2)⟩ := rfl
  rw [e1, hp, hs]
  simp only [List.drop_zero, Nat.sub_zero, List.take_length]
  have : wrap64 ((cutE e).f0 + ((0 : Nat) : Int)) = (cutE e).f0 := by
    rw [h.e0]; rw [show ((0 : Nat) : Int) = 0 from rfl, Int.add_zero, wrap64_idem]
  rw [this]
theorem cut_ne {e : S84} (h : e.f1 ≠ e.f2) : (cutE e).f1 ≠ (cutE e).f2 := by
  obtain ⟨p, s, k⟩ := cut_cut e
  intro h'
  apply h
  rw [k.e1, k.e2, h']

def ne12 (e : S84) : Bool := decide (e.f1 ≠ e.f2)
def trimL (l : List S84) : List S84 := (l.filter ne12).map cutE
theorem trimL_cons (e : S84) (l : List S84) : trimL (e :: l) = if e.f1 = e.f2 then trimL l else cutE e :: trimL l := by
  unfold trimL
  rw [List.filter_cons]
  by_cases h : e.f1 = e.f2
  · rw [if_pos h, if_neg (by simp [ne12, h])]
  · rw [if_neg h, if_pos (by simp [ne12, h]), List.map_cons]
theorem trimL_length (l : List S84) : (trimL l).length ≤ l.length := by
  unfold trimL; rw [List.length_map]; exact List.length_filter_le _ _
theorem trimL_mem {l : List S84} {x : S84} (h : x ∈ trimL l) : ∃ e, e ∈ l ∧ e.f1 ≠ e.f2 ∧ x = cutE e := by
  unfold trimL at h
  rw [List.mem_map] at h
  obtain ⟨e, h1, h2⟩ := h
  rw [List.mem_filter] at h1
  exact ⟨e, h1.1, by have := h1.2; simpa [ne12] using this, h2.symm⟩
theorem trim_twice : ∀ (l : List S84), trimL (trimL l) = trimL l
  | [] => rfl
  | e :: r => by
    rw [trimL_cons]
    by_cases h : e.f1 = e.f2
    · rw [if_pos h]; exact trim_twice r
    · rw [if_neg h, trimL_cons, if_neg (cut_ne h), cut_twice, trim_twice r]
theorem sizeL_trim : ∀ (l : List S84), sizeL (trimL l) = sizeL l
  | [] => rfl
  | e :: r => by
    rw [trimL_cons, sizeL_cons]
    by_cases h : e.f1 = e.f2
    · rw [if_pos h, sizeL_trim r, h]; omega
    · rw [if_neg h, sizeL_cons, sizeL_trim r]
      obtain ⟨p, s, k⟩ := cut_cut e
      have h1 := congrArg List.length k.e1
      have h2 := congrArg List.length k.e2
      simp only [List.length_append] at h1 h2
      omega
theorem trim_bytes {l : List S84} (h : BytesE l) : BytesE (trimL l) := by
  intro x hx
  obtain ⟨e, h1, _, rfl⟩ := trimL_mem hx
  have he := h e h1
  exact ⟨he.1.sub (fun y hy => List.mem_of_mem_drop (List.mem_of_mem_take hy)), he.2.sub (fun y hy => List.mem_of_mem_drop (List.mem_of_mem_take hy))⟩
theorem back_bytes {l : List S84} (h : BytesE l) : BytesE (l.reverse.map flip) := by
  intro x hx
  rw [List.mem_map] at hx
  obtain ⟨e, h1, rfl⟩ := hx
  exact (h e (List.mem_reverse.1 h1)).symm
theorem news_back (l : List S84) : news (l.reverse.map flip) = olds l := by
  unfold news olds
  rw [List.map_map, ← List.sum_reverse, ← List.map_reverse, List.reverse_reverse]
  rfl
theorem news_trim : ∀ (l : List S84), news (trimL l) ≤ news l
  | [] => Nat.le_refl _
  | e :: r => by
    have := news_trim r
    rw [trimL_cons, news_cons]
    by_cases h : e.f1 = e.f2
    · rw [if_pos h]; omega
    · rw [if_neg h, news_cons]
      have h1 : (cutE e).f2.length ≤ e.f2.length := by
        show ((e.f2.drop _).take _).length ≤ _
        simp; omega
      omega
/-- edits that are cut down lead to the same text -/
theorem app_trim : ∀ (l : List S84) (t u : List Int), Bytes t → BytesE l → t.length + news l ≤ 1152921504606846976 → app l t = some u → app (trimL l) t = some u
  | [], t, u, _, _, _, h => h
  | e :: r, t, u, ht, hl, hm, h => by
    obtain ⟨a, b, h1, h2, h3, h4, h5⟩ := app_cons ht hl h
    rw [news_cons] at hm
    have hlen : (a ++ e.f2 ++ b).length ≤ t.length + e.f2.length := by rw [h1]; simp; omega
    have ih := app_trim r _ u h4 h5 (by omega) h3
    rw [trimL_cons]
    by_cases he : e.f1 = e.f2
    · rw [if_pos he, h1, he]; exact ih
    · rw [if_neg he]
      obtain ⟨p, s, k⟩ := cut_cut e
      have et : t = (a ++ p) ++ (cutE e).f1 ++ (s ++ b) := by
        rw [h1]; conv => lhs; rw [k.e1]
        simp [List.append_assoc]
      have hl0 := congrArg List.length et
      simp only [List.length_append] at hl0
      have e0 : (cutE e).f0 = ((a ++ p).length : Int) := by
        rw [k.e0, h2, List.length_append]; unfold wrap64; omega
      have e2 : (a ++ p) ++ (cutE e).f2 ++ (s ++ b) = a ++ e.f2 ++ b := by
        conv => rhs; rw [k.e2]
        simp [List.append_assoc]
      unfold app
      rw [et, if_pos (fits_of _ _ _ e0), put_of _ _ _ e0, e2]
      exact ih
/-- where they fit, each edit's place lies in a text -/
theorem app_places : ∀ (l : List S84) (t u : List Int), Bytes t → BytesE l → t.length + news l ≤ 1152921504606846976 → app l t = some u → ∀ e ∈ l, 0 ≤ e.f0 ∧ e.f0 + e.f1.length ≤ 1152921504606846976
  | [], t, u, _, _, _, _ => fun e he => by simp at he
  | x :: r, t, u, ht, hl, hm, h => by
    obtain ⟨a, b, h1, h2, h3, h4, h5⟩ := app_cons ht hl h
    rw [news_cons] at hm
    have hlen : (a ++ x.f2 ++ b).length ≤ t.length + x.f2.length := by rw [h1]; simp; omega
    have ih := app_places r _ u h4 h5 (by omega) h3
    intro e he
    rcases List.mem_cons.1 he with rfl | he
    · have := congrArg List.length h1
      simp only [List.length_append] at this
      omega
    · exact ih e he

theorem foldl_less : ∀ (r : List S84) (m : Int), (r.foldl lessAt m ≤ m ∧ ∀ e ∈ r, r.foldl lessAt m ≤ e.f0) ∧ (r.foldl lessAt m = m ∨ ∃ e ∈ r, r.foldl lessAt m = e.f0)
  | [], m => by simp
  | x :: r, m => by
    rw [List.foldl_cons]
    obtain ⟨⟨h1, h2⟩, h3⟩ := foldl_less r (lessAt m x)
    have hx : lessAt m x ≤ m ∧ lessAt m x ≤ x.f0 ∧ (lessAt m x = m ∨ lessAt m x = x.f0) := by unfold lessAt; split <;> omega
    refine ⟨⟨by omega, fun e he => ?_⟩, ?_⟩
    · rcases List.mem_cons.1 he with rfl | he
      · omega
      · exact h2 e he
    · rcases h3 with h3 | ⟨e, he, h3⟩
      · rcases hx.2.2 with h | h
        · exact .inl (h3.trans h)
        · exact .inr ⟨x, by simp, h3.trans h⟩
      · exact .inr ⟨e, by simp [he], h3⟩
theorem firstL_le {l : List S84} {e : S84} (h : e ∈ l) : firstL l ≤ e.f0 := by
  cases l with
  | nil => simp at h
  | cons x r =>
    have := (foldl_less r x.f0).1
    rcases List.mem_cons.1 h with rfl | h
    · exact this.1
    · exact this.2 e h
theorem firstL_mem {l : List S84} (h : l ≠ []) : ∃ e ∈ l, firstL l = e.f0 := by
  cases l with
  | nil => exact absurd rfl h
  | cons x r =>
    rcases (foldl_less r x.f0).2 with h | ⟨e, he, h⟩
    · exact ⟨x, by simp, h⟩
    · exact ⟨e, by simp [he], h⟩
theorem first_trim (l : List S84) (t u : List Int) (ht : Bytes t) (hl : BytesE l) (hm : t.length + news l ≤ 1152921504606846976) (h : app l t = some u) (hne : trimL l ≠ []) : firstL l ≤ firstL (trimL l) := by
  obtain ⟨x, hx, e1⟩ := firstL_mem hne
  obtain ⟨e, h1, _, rfl⟩ := trimL_mem hx
  have h2 := app_places l t u ht hl hm h e h1
  have h3 := firstL_le h1
  rw [e1]
  obtain ⟨p, s, k⟩ := cut_cut e
  have h4 := congrArg List.length k.e1
  simp only [List.length_append] at h4
  rw [k.e0]; unfold wrap64; omega

/-- from one text to another -/
def betweenL (a b : List Int) : List S84 := trimL [⟨0, a, b⟩]
theorem between_length (a b : List Int) : (betweenL a b).length = if a = b then 0 else 1 := by
  unfold betweenL; rw [trimL_cons]; split <;> rfl
theorem app_between (a b : List Int) (ha : Bytes a) (hb : Bytes b) (hm : a.length + b.length ≤ 1152921504606846976) : app (betweenL a b) a = some b := by
  unfold betweenL
  refine app_trim _ a b ha (fun e he => by simp at he; subst he; exact ⟨ha, hb⟩) (by simp [news]; omega) ?_
  unfold app
  have h1 := fits_of [] [] ⟨0, a, b⟩ rfl
  have h2 := put_of [] [] ⟨0, a, b⟩ rfl
  simp only [List.nil_append, List.append_nil] at h1 h2
  rw [if_pos h1, h2]; rfl

end Go.Proofs.Ytjljkcbopkldbaa.Pl
