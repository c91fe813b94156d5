/-
  Plainly: the reference's Move and the program's answer the same. Condition: texts of at most 2^40 bytes.
-/
import Derived.Test.YtjaopgjhmojpnaaPd
namespace Go.Proofs.Ytjaopgjhmojpnaa.Pb
open Go.RowKit Go.Proofs.YtjaopgjhmojpnaaW.PrintWords Go.Proofs.YtjaopgjhmojpnaaW.PrintLast Go.Proofs.YtjaopgjhmojpnaaW.PrintMore
open Go.Proofs.Ytjaopgjhmojpnaa.X Go.Proofs.Ytjaopgjhmojpnaa
set_option linter.unusedVariables false
set_option linter.unusedSimpArgs false

theorem find_drop (l : List Int) (p : Int) (j : Nat) (h : j < l.length) : (l.drop j).find? (fun x => decide (p < x)) = if p < l[j] then some l[j] else (l.drop (j + 1)).find? (fun x => decide (p < x)) := by
  rw [List.drop_eq_getElem_cons h, List.find?_cons]
  by_cases c : p < l[j]
  · rw [if_pos c]; simp [c]
  · rw [if_neg c]; simp [c]
theorem above_ev (t : List Int) (l : List Int) (hl : l.length ≤ 1099511627777) (n : Nat) (hn : n ≤ 10000) : ∀ (c i : Nat), i + c = n → ∀ (p : Int), Ev (fun k => quoinref10_above.l0 k t (n : Int) l p (i : Int)) (told (downs l t.length c p)) := by
  intro c
  induction c with
  | zero =>
    intro i hi p
    refine Ev.step (f := fun _ => some (p, 0)) (fun k => ?_) (Ev.now _)
    simp only [quoinref10_above.l0]; rw [if_neg (by omega)]
  | succ c ih =>
    intro i hi p
    by_cases hp : p = t.length
    · refine Ev.step (f := fun _ => some (0, 70)) (fun k => ?_) ?_
      · simp only [quoinref10_above.l0]; rw [if_pos (by omega), if_pos hp]
      · simp only [downs]; rw [if_pos hp]; exact Ev.now _
    · simp only [downs]; rw [if_neg hp]
      have inner : ∀ (j : Nat), j ≤ l.length → Ev (fun k => quoinref10_above.l1 k t (n : Int) l p (i : Int) (((l.drop j).find? (fun x => decide (p < x))).getD t.length) ((j : Int) - 1)) (told (downs l t.length c (nextUp l t.length p))) := by
        intro j
        induction j with
        | zero =>
          intro _
          refine Ev.step (fun k => ?_) (ih (i + 1) (by omega) (nextUp l t.length p))
          simp only [quoinref10_above.l1]
          rw [if_neg (by omega), List.drop_zero, w64 (by omega) (by omega)]; rfl
        | succ j ihj =>
          intro hj
          have hjl : j < l.length := by omega
          have e : (((j + 1 : Nat) : Int) - 1) = (j : Int) := by omega
          rw [e]
          refine Ev.step (fun k => ?_) (ihj (by omega))
          simp only [quoinref10_above.l1]
          rw [if_pos (by omega), if_pos (by omega), if_pos (by omega), rd_nat l j hjl, find_drop l p j hjl, w64 (by omega) (by omega)]
          by_cases c : p < l[j]
          · rw [if_pos c, if_pos c]; rfl
          · rw [if_neg c, if_neg c]
      refine Ev.step (fun k => ?_) (inner l.length (Nat.le_refl _))
      simp only [quoinref10_above.l0]
      rw [if_pos (by omega), if_neg hp, List.drop_length, w64 (by omega) (by omega)]; rfl
theorem find_take (l : List Int) (p : Int) (j : Nat) (h : j < l.length) : (l.take (j + 1)).reverse.find? (fun x => decide (x < p)) = if l[j] < p then some l[j] else (l.take j).reverse.find? (fun x => decide (x < p)) := by
  rw [List.take_succ_eq_append_getElem h, List.reverse_append, List.reverse_singleton, List.singleton_append, List.find?_cons]
  by_cases c : l[j] < p
  · rw [if_pos c]; simp [c]
  · rw [if_neg c]; simp [c]
theorem below_ev (l : List Int) (hl : l.length ≤ 1099511627777) (n : Nat) (hn : n ≤ 10000) : ∀ (c i : Nat), i + c = n → ∀ (p : Int), Ev (fun k => quoinref10_below.l0 k (n : Int) l p (i : Int)) (told (ups l c p)) := by
  intro c
  induction c with
  | zero =>
    intro i hi p
    refine Ev.step (f := fun _ => some (p, 0)) (fun k => ?_) (Ev.now _)
    simp only [quoinref10_below.l0]; rw [if_neg (by omega)]
  | succ c ih =>
    intro i hi p
    by_cases hp : p = 0
    · refine Ev.step (f := fun _ => some (0, 70)) (fun k => ?_) ?_
      · simp only [quoinref10_below.l0]; rw [if_pos (by omega), if_pos hp]
      · simp only [ups]; rw [if_pos hp]; exact Ev.now _
    · simp only [ups]; rw [if_neg hp]
      have inner : ∀ (d j : Nat), j + d = l.length → Ev (fun k => quoinref10_below.l1 k (n : Int) l p (i : Int) (((l.take j).reverse.find? (fun x => decide (x < p))).getD 0) (j : Int)) (told (ups l c (nextDn l p))) := by
        intro d
        induction d with
        | zero =>
          intro j hj
          refine Ev.step (fun k => ?_) (ih (i + 1) (by omega) (nextDn l p))
          simp only [quoinref10_below.l1]
          rw [if_neg (by omega), List.take_of_length_le (by omega), w64 (by omega) (by omega)]; rfl
        | succ d ihd =>
          intro j hj
          have hjl : j < l.length := by omega
          refine Ev.step (fun k => ?_) (ihd (j + 1) (by omega))
          simp only [quoinref10_below.l1]
          rw [if_pos (by omega), if_pos (by omega), rd_nat l j hjl, find_take l p j hjl, w64 (by omega) (by omega)]
          by_cases c : l[j] < p
          · rw [if_pos c, if_pos c]; rfl
          · rw [if_neg c, if_neg c]; rfl
      refine Ev.step (fun k => ?_) (inner l.length 0 (Nat.zero_add _))
      simp only [quoinref10_below.l0]
      rw [if_pos (by omega), if_neg hp]; rfl

/-- what both answer -/
def movedP (a : Int) : Option Int → Int × Int × Int × Int
  | some p => (a, p, 2, 0)
  | none => (0, 0, 0, 70)
def moveP (t : List Int) (a c : Int) (key : ByteArray) : Int × Int × Int × Int :=
  if a < 0 ∨ a > t.length ∨ c < 1 ∨ c > 9999 then (0, 0, 0, 2)
  else if fwd key = true ∨ bwd key = true then moved a (goes key t c.toNat a)
  else if key.toList = ([37] : List UInt8) then movedP a (percent t a.toNat) else (0, 0, 0, 2)

theorem move_all (t : List Int) (hb : t.length ≤ 1099511627776) (hB : Bytes t) (a c : Int) (key : ByteArray) : Ev (fun k => block_Move.f k t a c key) (moveP t a c key) := by
  unfold moveP
  by_cases hr : a < 0 ∨ a > t.length ∨ c < 1 ∨ c > 9999
  · rw [if_pos hr]
    have h0 : Ev (fun k => block_Move.j0 k t a c key true) (0, 0, 0, 2) := Ev.step (f := fun _ => some (0, 0, 0, 2)) (fun k => by simp only [block_Move.j0]; rw [if_pos trivial]) (Ev.now _)
    refine Ev.congr (fun k => ?_) h0
    unfold block_Move.f
    by_cases h1 : a < 0
    · rw [if_pos h1]
    · by_cases h2 : a > t.length
      · rw [if_neg h1, if_pos h2]
      · by_cases h3 : c < 1
        · rw [if_neg h1, if_neg h2, if_pos h3]
        · rw [if_neg h1, if_neg h2, if_neg h3, decide_eq_true (by omega)]
  · rw [if_neg hr]
    by_cases hk : fwd key = true ∨ bwd key = true
    · rw [if_pos hk]
      exact move_ev key t hb hB a c (by omega) (by omega) (by omega) (by omega) hk
    · rw [if_neg hk]
      have hf : fwd key = false := by cases h : fwd key <;> simp_all
      have hbw : bwd key = false := by cases h : bwd key <;> simp_all
      simp only [fwd, Bool.or_eq_false_iff, beq_eq_false_iff_ne] at hf
      simp only [bwd, Bool.or_eq_false_iff, beq_eq_false_iff_ne] at hbw
      refine Ev.congr (move_f_j0 key t a c (by omega) (by omega) (by omega) (by omega)) ?_
      refine Ev.step (f := fun k => block_Move.j1 k t a c key 1 key false) (fun k => ?_) ?_
      · simp only [block_Move.j0]; rw [if_neg (by simp), if_neg hf.1, beq_eq_false_iff_ne.mpr hf.2]
      · refine Ev.step (f := fun k => block_Move.j2 k t a c key 1 key false) (fun k => ?_) ?_
        · simp only [block_Move.j1]; rw [if_neg (by simp), if_neg hbw.1, beq_eq_false_iff_ne.mpr hbw.2]
        · by_cases hp : key.toList = ([37] : List UInt8)
          · rw [if_pos hp]
            have hpe := partner_ev t hb hB a.toNat (by omega)
            rw [show ((a.toNat : Nat) : Int) = a by omega] at hpe
            refine Ev.step (f := fun k => (block_partner.f k t a).bind fun bt => (if bt.2 = 0 then some (a, bt.1, 2, 0) else some (0, 0, 0, bt.2))) (fun k => ?_) (Ev.bind hpe ?_)
            · simp only [block_Move.j2]; rw [if_neg (by simp), if_pos hp]
            · cases percent t a.toNat with
              | none => exact Ev.now _
              | some q => exact Ev.now _
          · rw [if_neg hp]
            refine Ev.step (f := fun _ => some (0, 0, 0, 2)) (fun k => ?_) (Ev.now _)
            simp only [block_Move.j2]; rw [if_neg (by simp), if_neg hp]

theorem key_eq {key : ByteArray} {l : List UInt8} (h : key.toList = l) : key = ⟨l.toArray⟩ := by
  rw [Lib.toList_data] at h
  cases key with
  | mk d => simp at h; subst h; simp
theorem refmove_all (t : List Int) (hb : t.length ≤ 1099511627776) (hB : Bytes t) (a c : Int) (key : ByteArray) : Ev (fun k => quoinref10_Move.f k t a c key) (moveP t a c key) := by
  unfold moveP
  by_cases hr : a < 0 ∨ a > t.length ∨ c < 1 ∨ c > 9999
  · rw [if_pos hr]
    have h0 : Ev (fun k => quoinref10_Move.j0 k t a c key true) (0, 0, 0, 2) := Ev.step (f := fun _ => some (0, 0, 0, 2)) (fun k => by simp only [quoinref10_Move.j0]; rw [if_pos trivial]) (Ev.now _)
    refine Ev.congr (fun k => ?_) h0
    unfold quoinref10_Move.f
    by_cases h1 : a < 0
    · rw [if_pos h1]
    · by_cases h2 : a > t.length
      · rw [if_neg h1, if_pos h2]
      · by_cases h3 : c < 1
        · rw [if_neg h1, if_neg h2, if_pos h3]
        · rw [if_neg h1, if_neg h2, if_neg h3, decide_eq_true (by omega)]
  · rw [if_neg hr]
    obtain ⟨n, rfl⟩ : ∃ n : Nat, c = (n : Int) := ⟨c.toNat, by omega⟩
    have hj : ∀ r, Ev (fun k => quoinref10_Move.j0 k t a n key false) r → Ev (fun k => quoinref10_Move.f k t a n key) r := fun r h => Ev.congr (fun k => by
      unfold quoinref10_Move.f
      rw [if_neg (by omega), if_neg (by omega), if_neg (by omega), decide_eq_false (by omega)]) h
    have lens := fun key => stopsOf_length key t
    rw [Int.toNat_natCast]
    by_cases k1 : key.toList = ([125] : List UInt8)
    · have ek := key_eq k1
      have hfw : fwd key = true := by simp [fwd, k1]
      rw [if_pos (.inl hfw)]
      have hs : stopsOf key t = paras kDown t := by
        unfold stopsOf
        rw [if_neg (by rw [k1]; simp)]
        rw [ek]; rfl
      have hg : goes key t n a = downs (paras kDown t) t.length n a := by unfold goes; rw [if_pos hfw, hs]
      rw [hg]
      refine hj _ (Ev.step (f := fun k => (quoinref10_Paragraphs.f k t true).bind fun l => (quoinref10_above.f k t a n l).bind fun bt => (if bt.2 = 0 then some (a, bt.1, 1, 0) else some (0, 0, 0, bt.2))) (fun k => ?_) (Ev.bind (refparas_ev t hb true) ?_))
      · simp only [quoinref10_Move.j0]; rw [if_neg (by simp), if_pos k1]
      · have hle : (paras kDown t).length ≤ t.length + 1 := paras_length _ _
        refine Ev.bind (g := fun k => quoinref10_above.f k t a n (paras (keyOf true) t)) (Ev.congr (fun k => ?_) (above_ev t (paras kDown t) (by omega) n (by omega) n 0 (by omega) a)) ?_
        · unfold quoinref10_above.f; rfl
        · cases downs (paras kDown t) t.length n a <;> exact Ev.now _
    · by_cases k2 : key.toList = ([41] : List UInt8)
      · have hfw : fwd key = true := by simp [fwd, k2]
        rw [if_pos (.inl hfw)]
        have hs : stopsOf key t = sents t := by unfold stopsOf; rw [if_pos (.inr k2)]
        have hg : goes key t n a = downs (sents t) t.length n a := by unfold goes; rw [if_pos hfw, hs]
        have hle : (sents t).length ≤ t.length + 1 := by rw [← hs]; exact lens key
        rw [hg]
        refine hj _ (Ev.step (f := fun k => (quoinref10_Sentences.f k t).bind fun l => (quoinref10_above.f k t a n l).bind fun bt => (if bt.2 = 0 then some (a, bt.1, 1, 0) else some (0, 0, 0, bt.2))) (fun k => ?_) (Ev.bind (refsents_ev t hb) ?_))
        · simp only [quoinref10_Move.j0]; rw [if_neg (by simp), if_neg k1, if_pos k2]
        · refine Ev.bind (g := fun k => quoinref10_above.f k t a n (sents t)) (Ev.congr (fun k => ?_) (above_ev t (sents t) (by omega) n (by omega) n 0 (by omega) a)) ?_
          · unfold quoinref10_above.f; rfl
          · cases downs (sents t) t.length n a <;> exact Ev.now _
      · have hnf : fwd key = false := by simp [fwd, k1, k2]
        by_cases k3 : key.toList = ([123] : List UInt8)
        · have ek := key_eq k3
          have hbw : bwd key = true := by simp [bwd, k3]
          rw [if_pos (.inr hbw)]
          have hs : stopsOf key t = paras kUp t := by
            unfold stopsOf
            rw [if_neg (by rw [k3]; simp)]
            rw [ek]; rfl
          have hg : goes key t n a = ups (paras kUp t) n a := by unfold goes; rw [if_neg (by rw [hnf]; simp), hs]
          rw [hg]
          refine hj _ (Ev.step (f := fun k => (quoinref10_Paragraphs.f k t false).bind fun l => (quoinref10_below.f k a n l).bind fun bt => (if bt.2 = 0 then some (a, bt.1, 1, 0) else some (0, 0, 0, bt.2))) (fun k => ?_) (Ev.bind (refparas_ev t hb false) ?_))
          · simp only [quoinref10_Move.j0]; rw [if_neg (by simp), if_neg k1, if_neg k2, if_pos k3]
          · have hle : (paras kUp t).length ≤ t.length + 1 := paras_length _ _
            refine Ev.bind (g := fun k => quoinref10_below.f k a n (paras (keyOf false) t)) (Ev.congr (fun k => ?_) (below_ev (paras kUp t) (by omega) n (by omega) n 0 (by omega) a)) ?_
            · unfold quoinref10_below.f; rfl
            · cases ups (paras kUp t) n a <;> exact Ev.now _
        · by_cases k4 : key.toList = ([40] : List UInt8)
          · have hbw : bwd key = true := by simp [bwd, k4]
            rw [if_pos (.inr hbw)]
            have hs : stopsOf key t = sents t := by unfold stopsOf; rw [if_pos (.inl k4)]
            have hg : goes key t n a = ups (sents t) n a := by unfold goes; rw [if_neg (by rw [hnf]; simp), hs]
            have hle : (sents t).length ≤ t.length + 1 := by rw [← hs]; exact lens key
            rw [hg]
            refine hj _ (Ev.step (f := fun k => (quoinref10_Sentences.f k t).bind fun l => (quoinref10_below.f k a n l).bind fun bt => (if bt.2 = 0 then some (a, bt.1, 1, 0) else some (0, 0, 0, bt.2))) (fun k => ?_) (Ev.bind (refsents_ev t hb) ?_))
            · simp only [quoinref10_Move.j0]; rw [if_neg (by simp), if_neg k1, if_neg k2, if_neg k3, if_pos k4]
            · refine Ev.bind (g := fun k => quoinref10_below.f k a n (sents t)) (Ev.congr (fun k => ?_) (below_ev (sents t) (by omega) n (by omega) n 0 (by omega) a)) ?_
              · unfold quoinref10_below.f; rfl
              · cases ups (sents t) n a <;> exact Ev.now _
          · have hnb : bwd key = false := by simp [bwd, k3, k4]
            rw [if_neg (by rw [hnf, hnb]; simp)]
            by_cases k5 : key.toList = ([37] : List UInt8)
            · rw [if_pos k5]
              have hp := refpercent_ev t hb hB a.toNat (by omega) a
              rw [show ((a.toNat : Nat) : Int) = a by omega] at hp
              refine hj _ (Ev.step (fun k => ?_) (r := movedP a (percent t a.toNat)) (f := fun k => (quoinref10_bracket.f k t a).bind fun q => if q ≥ 0 then (quoinref10_Pair.f k t q).bind fun bt => (if bt.2 = 0 then some (a, bt.1, 2, 0) else some (0, 0, 0, bt.2)) else some (0, 0, 0, 70)) ?_)
              · simp only [quoinref10_Move.j0]; rw [if_neg (by simp), if_neg k1, if_neg k2, if_neg k3, if_neg k4, if_pos k5]
              · cases h : percent t a.toNat with
                | none => rw [h] at hp; exact hp
                | some q => rw [h] at hp; exact hp
            · rw [if_neg k5]
              refine hj _ (Ev.step (f := fun _ => some (0, 0, 0, 2)) (fun k => ?_) (Ev.now _))
              simp only [quoinref10_Move.j0]; rw [if_neg (by simp), if_neg k1, if_neg k2, if_neg k3, if_neg k4, if_neg k5]

end Go.Proofs.Ytjaopgjhmojpnaa.Pb
