/-
  BlockPairs' walk, at texts of up to 2^40 bytes.
-/
import Derived.Test.YtjaopgjhmojpnaaPp
import Derived.Test.YtjaopgjhmojpnaaPe
import Derived.Test.YtjaopgjhmojpnaaTimes
import Derived.Laws.Cells
import Derived.ChangeKeysEq
namespace Go.Proofs.Ytjaopgjhmojpnaa.Lw
open Go.RowKit Go.Proofs.YtjaopgjhmojpnaaW.PrintWords Go.Proofs.YtjaopgjhmojpnaaW.PrintLast Go.Proofs.YtjaopgjhmojpnaaW.PrintMore
open Go.Proofs.Ytjaopgjhmojpnaa.X
open Go.Proofs.Ytjaopgjhmojpnaa.Pb
set_option linter.unusedVariables false
set_option linter.unusedSimpArgs false

theorem movePc (t : List Int) (a : Int) (h0 : 0 ≤ a) (h1 : a ≤ t.length) : moveP t a 1 ⟨#[37]⟩ = movedP a (percent t a.toNat) := by
  unfold moveP
  rw [if_neg (by omega), if_neg (by decide +kernel), if_pos (by decide +kernel)]

set_option maxHeartbeats 8000000 in
set_option maxRecDepth 100000 in
/-- no bracket that one belongs to -/
theorem pairs_none (A0 : Option Addr) (c0 : Nat) (t : List Int) (a p : Int) (w : World) (hr : Kd.C (Kd.int .u8) w A0 t.length t) (hc : t.length ≤ c0) (hb : t.length ≤ 1099511627776) (hB : Bytes t)
    (hp : quoinlaw10_place.f a (t.length + 1) = some p) (hp0 : 0 ≤ p) (hp1 : p ≤ t.length) (hn : percent t p.toNat = none) :
    Calls Try.prog 5 #[.slice A0 t.length c0, .int .i64 a] w fun e w' => e = .returned (.bool true) ∧ Below w.heap.size w w' := by
  obtain ⟨k1, hm1⟩ := (move_all t hb hB p 1 ⟨#[37]⟩).rounds
  rw [movePc t p hp0 hp1, hn] at hm1
  have HR := Aside0.mk hr
  have HC := Aside0.mk hc
  have HP := Aside0.mk hp
  have HM1 := Aside0.mk hm1
  clear hr hp hm1 hn hc
  have hu30 := Try.underlying30
  go_enter Try.func5, Try.ntmps5
  go_wp2_with fail
  refine (awake _).mono ?_
  rintro e w1 ⟨rfl, hb1⟩
  have HB1 := Aside0.mk hb1
  clear hb1
  go_wp2_with fail
  refine (quoinlaw10_place.calls a (t.length + 1) p _ HP.out).mono ?_
  rintro e w2 ⟨rfl, ⟨n2, rfl⟩⟩
  go_wp2_with fail
  refine (block_Move.calls k1 A0 c0 t p 1 _ 0 0 0 70 _ (Kd.C_drewN (Kd.C_below HR.out HB1.out) n2) HC.out HM1.out).mono ?_
  rintro e w3 ⟨rfl, hb3⟩
  have HB3 := Aside0.mk (below_step (pw_below_drewN HB1.out n2) hb3)
  have HK3 := Aside0.mk (blk_new w3 (.cells #[.int .i64 0, .int .i64 0, .int .i64 0] 30))
  have HB4 := Aside0.mk (below_alloc HB3.out (.cells #[.int .i64 0, .int .i64 0, .int .i64 0] 30))
  have h0 : (w3.alloc (.cells #[.int .i64 0, .int .i64 0, .int .i64 0] 30)).cell? ⟨w3.heap.size, 0, none⟩ = some (.int .i64 0) := blk_cell HK3.out 0
  have h1 : (w3.alloc (.cells #[.int .i64 0, .int .i64 0, .int .i64 0] 30)).cell? ⟨w3.heap.size, 1, none⟩ = some (.int .i64 0) := blk_cell HK3.out 1
  have h2 : (w3.alloc (.cells #[.int .i64 0, .int .i64 0, .int .i64 0] 30)).cell? ⟨w3.heap.size, 2, none⟩ = some (.int .i64 0) := blk_cell HK3.out 2
  clear hb3 HB1
  go_wp2
  go_ret
  exact ⟨rfl, HB4.out⟩

theorem cnt_small (x c : Int) : -1 ≤ cnt x c ∧ cnt x c ≤ 1 := by
  unfold cnt; repeat' split
  all_goals omega
theorem sumC_small (x : Int) : ∀ l : List Int, -(l.length : Int) ≤ sumC x l ∧ sumC x l ≤ l.length
  | [] => by simp [sumC]
  | c :: r => by
    have h := sumC_small x r
    have k := cnt_small x c
    rw [sumC_cons, List.length_cons]; omega
theorem part_length (t : List Int) (lo hi : Nat) : (Pb.part t lo hi).length ≤ t.length := by unfold Pb.part; rw [List.length_drop, List.length_take]; omega
/-- the counts of all sorts, in 256 cells -/
structure Tally (t : List Int) (lo i B : Nat) (xs : List Int) (W : World) : Prop where
  len : xs.length = 256
  val : ∀ k : Nat, k < 256 → rd xs k = sumC k (Pb.part t lo (lo + i))
  blk : W.heap[B]? = some (.cells (nums .i64 xs).toArray 42)
theorem Tally.drewN {t : List Int} {lo i B : Nat} {xs : List Int} {W : World} (h : Tally t lo i B xs W) (n : Nat) : Tally t lo i B xs (W.drewN n) := ⟨h.len, h.val, h.blk⟩
theorem Tally.cell {t : List Int} {lo i B : Nat} {xs : List Int} {W : World} (h : Tally t lo i B xs W) (k : Nat) (hk : k < 256) : W.cell? ⟨B, k, none⟩ = some (.int .i64 (rd xs k)) := by
  rw [blk_cell h.blk k, rd_nat _ _ (by rw [h.len]; exact hk)]
  simp [nums, h.len, hk]
theorem Tally.small {t : List Int} {lo i B : Nat} {xs : List Int} {W : World} (h : Tally t lo i B xs W) (hb : t.length ≤ 1099511627776) (k : Nat) (hk : k < 256) : -1099511627776 ≤ rd xs k ∧ rd xs k ≤ 1099511627776 := by
  rw [h.val k hk]
  have := sumC_small k (Pb.part t lo (lo + i))
  have := part_length t lo (lo + i)
  omega
theorem Tally.none_ {t : List Int} {lo i B : Nat} {xs : List Int} {W : World} (h : Tally t lo i B xs W) (hi : lo + i < t.length) (hc : (pt (rd t (lo + i : Nat))).2.2 = false) : Tally t lo (i + 1) B xs W := ⟨h.len, fun k hk => by
  rw [h.val k hk, ← Nat.add_assoc, part_snoc t lo (lo + i) (by omega) hi, sumC_append, sumC_cons, sumC_nil]
  have : cnt k (rd t (lo + i : Nat)) = 0 := by unfold cnt; rw [if_neg (by rw [hc]; simp)]
  omega, h.blk⟩
theorem rd_set (xs : List Int) (b k : Nat) (v : Int) (hb : b < xs.length) (hk : k < xs.length) : rd (xs.set b v) k = if k = b then v else rd xs k := by
  rw [rd_nat _ _ (by rw [List.length_set]; exact hk), rd_nat _ _ hk, List.getElem_set]
  by_cases h : b = k
  · rw [if_pos h, if_pos h.symm]
  · rw [if_neg h, if_neg (fun e => h e.symm)]
theorem Tally.store {t : List Int} {lo i B : Nat} {xs : List Int} {W : World} (h : Tally t lo i B xs W) (hi : lo + i < t.length) (b : Nat) (hb : b < 256) (d : Int)
    (hc : ∀ k : Nat, k < 256 → cnt k (rd t (lo + i : Nat)) = if k = b then d else 0) : Tally t lo (i + 1) B (xs.set b (rd xs b + d)) (W.setCell ⟨B, b, none⟩ (.int .i64 (rd xs b + d))) := ⟨by rw [List.length_set, h.len], fun k hk => by
  rw [rd_set xs b k _ (by rw [h.len]; exact hb) (by rw [h.len]; exact hk), ← Nat.add_assoc, part_snoc t lo (lo + i) (by omega) hi, sumC_append, sumC_cons, sumC_nil, hc k hk]
  by_cases hkb : k = b
  · subst hkb; rw [if_pos rfl, if_pos rfl, h.val k hk]; omega
  · rw [if_neg hkb, if_neg hkb, h.val k hk]; omega, by
  refine blk_put h.blk b _ ?_
  simp [nums, List.map_set]⟩
theorem nums_rep (n : Nat) : (nums .i64 (List.replicate n 0)).toArray = Array.replicate n (.int .i64 0) := by simp [nums]
theorem rd_rep (n k : Nat) (h : k < n) : rd (List.replicate n 0) k = 0 := by rw [rd_nat _ _ (by rw [List.length_replicate]; exact h), List.getElem_replicate]
theorem Tally.zero {t : List Int} {lo B : Nat} {zs : Array Value} {W : World} (hz : zs = Array.replicate 256 (.int .i64 0)) (hb : W.heap[B]? = some (.cells zs 42)) : Tally t lo 0 B (List.replicate 256 0) W := ⟨List.length_replicate, fun k hk => by
  rw [Nat.add_zero, part_none, sumC_nil, rd_rep _ _ hk], by rw [hb, hz, nums_rep]⟩
theorem rep_of (xs : List Int) (n : Nat) (hl : xs.length = n) (h : ∀ k : Nat, k < n → rd xs k = 0) : xs = List.replicate n 0 := by
  apply List.ext_getElem (by rw [hl, List.length_replicate])
  intro k h1 h2
  have := h k (by omega)
  rw [rd_nat _ _ h1] at this
  rw [this, List.getElem_replicate]
theorem Tally.done {t : List Int} {lo i B : Nat} {xs : List Int} {W : World} (h : Tally t lo i B xs W) (he : ∀ x, sumC x (Pb.part t lo (lo + i)) = 0) {zs : Array Value} (hz : zs = Array.replicate 256 (.int .i64 0)) : W.heap[B]? = some (.cells zs 42) := by
  have := rep_of xs 256 h.len fun k hk => by rw [h.val k hk, he]
  rw [h.blk, this, hz, nums_rep]

theorem pt_range {c : Int} : 0 ≤ (pt c).1 ∧ (pt c).1 ≤ 255 := by
  unfold pt
  repeat' split
  all_goals simp
theorem cnt_open {b k : Nat} {o : Int} (h : (o, true, true) = pt (b : Int)) : cnt k b = if k = b then 1 else 0 := by
  unfold cnt
  rw [← h, if_pos rfl, if_pos rfl]
  by_cases e : k = b
  · rw [if_pos e, if_pos (by omega)]
  · rw [if_neg e, if_neg (by omega)]
theorem cnt_shut {b k o : Nat} (h : ((o : Int), false, true) = pt (b : Int)) : cnt k b = if k = o then -1 else 0 := by
  unfold cnt
  rw [← h, if_pos rfl, if_neg (by simp)]
  by_cases e : k = o
  · rw [if_pos e, if_pos (by simp only; omega)]
  · rw [if_neg e, if_neg (by simp only; omega)]
theorem size_alloc (w : World) (o : Obj) : (w.alloc o).heap.size = w.heap.size + 1 := by unfold World.alloc; exact Array.size_push _
theorem inf42 : (Try.prog.info? 42).map (fun i => i.zero) = some (some (.agg (Array.replicate 256 (.int .i64 0)))) := by kernel_rfl
theorem zero42 : ∃ zs : Array Value, (∀ W, (zeroValue 42).run Try.prog W = .ok (.agg zs) W) ∧ zs = Array.replicate 256 (.int .i64 0) := by
  obtain ⟨i0, hi, hz⟩ := Option.map_eq_some_iff.1 inf42
  refine ⟨_, fun W => ?_, rfl⟩
  simp [zeroValue, typeInfo, hi, hz]
theorem all42 : (Try.prog.info? 42).map (fun i => (i.zero, i.size)) = some (some (.agg (Array.replicate 256 (.int .i64 0))), 256) := by kernel_rfl
theorem load42 {W : World} {B : Nat} {zs : Array Value} (hz : zs = Array.replicate 256 (.int .i64 0)) (hb : W.heap[B]? = some (.cells zs 42)) : (loadVar 42 ⟨B, 0, none⟩).run Try.prog W = .ok (.agg zs) W := by
  obtain ⟨i0, hi, h2⟩ := Option.map_eq_some_iff.1 all42
  simp only [Prod.mk.injEq] at h2
  have hs : zs.toList.length = 256 := by rw [hz, Array.length_toList, Array.size_replicate]
  have hl := run_loadCells_list (P := Try.prog) W ⟨B, 0, none⟩ zs.toList (fun j v hj => by
    rw [add_plain, blk_cell hb j]; simpa using hj)
  rw [hs] at hl
  simp only [loadVar, isAgg, Sem.run_bind, run_underlying Try.underlying42, Result.andThen_ok, sizeOf, typeInfo]
  simp [hi, h2.2, hl]
theorem wp_load42 {op : Oper} {a : Act} {W : World} {K : Act → World → Prop} {Q : Exit → Act → World → Prop} {B : Nat} {zs : Array Value} (x : Operand) (ho : op.op = .load 42 x)
    (hx : a.eval x = .pointer (some ⟨B, 0, none⟩)) (hl : (loadVar 42 ⟨B, 0, none⟩).run Try.prog W = .ok (.agg zs) W) (h : K (a.put op.dst (.agg zs)) W) : op.wp Try.prog a W K Q := by
  unfold Oper.wp execOp
  simp only [ho, hx, Instr.loadAt, Instr.sureAddr, Sem.run_bind, Sem.run_pure, Result.andThen_ok, hl]
  exact h
theorem items42 {W : World} {zs : Array Value} (hz : zs = Array.replicate 256 (.int .i64 0)) (d : Nat) : ∀ is : List Nat, (∀ i ∈ is, i < 256) → (Op.eqItems (d + 1) 3 1 zs zs is).run Try.prog W = .ok true W
  | [], _ => by simp [Op.eqItems]
  | i :: is, h => by
    have hi : zs[i]? = some (.int .i64 0) := by rw [hz, Array.getElem?_replicate, if_pos (h i (List.mem_cons_self ..))]
    have hp : (Go.part 3 zs (i * 1)).run Try.prog W = .ok (.int .i64 0) W := by
      simp only [Go.part, isAgg, Sem.run_bind, run_underlying Try.underlying3, Result.andThen_ok]
      simp [hi]
    have he : (Op.equalIn (d + 1) 3 (.int .i64 0) (.int .i64 0)).run Try.prog W = .ok true W := by
      simp [Op.equalIn, run_underlying Try.underlying3]
    simp only [Op.eqItems, Sem.run_bind, hp, he, Result.andThen_ok, Bool.not_true, Bool.false_eq_true, if_false]
    exact items42 hz d is (fun i hi => h i (List.mem_cons_of_mem _ hi))
theorem eq42 {W : World} {zs : Array Value} (hz : zs = Array.replicate 256 (.int .i64 0)) (d : Nat) : (Op.equalIn (d + 2) 42 (.agg zs) (.agg zs)).run Try.prog W = .ok true W := by
  obtain ⟨i0, hi, h2⟩ := Option.map_eq_some_iff.1 (show (Try.prog.info? 3).map (fun i => i.size) = some 1 by kernel_rfl)
  rw [run_equalIn_array W (d + 1) zs zs Try.underlying42 hi, show Try.prog.cellsOf 3 = 1 by kernel_rfl]
  exact items42 hz d _ (fun i hi => List.mem_range.1 hi)
set_option maxHeartbeats 8000000 in
set_option maxRecDepth 100000 in
/-- a bracket at q, its partner at g -/
theorem pairs_some (A0 : Option Addr) (c0 : Nat) (t : List Int) (a : Int) (p q g : Nat) (w : World) (hr : Kd.C (Kd.int .u8) w A0 t.length t) (hc : t.length ≤ c0) (hb : t.length ≤ 1099511627776) (hB : Bytes t)
    (hp : quoinlaw10_place.f a (t.length + 1) = some (p : Int)) (hp1 : p ≤ t.length) (hbr : brk t (t.length - p) p = some q) (hpo : pairOf t q = some (g : Int)) :
    Calls Try.prog 5 #[.slice A0 t.length c0, .int .i64 a] w fun e w' => e = .returned (.bool true) ∧ Below w.heap.size w w' := by
  obtain ⟨b1, b2, b3, b4, b5⟩ := brk_some t (t.length - p) p q (by omega) hbr
  obtain ⟨r1, r2, r3, r4, r5, r6, r7, r8⟩ := pair_back t q g b2 b3 hpo
  have hpc : percent t p = some (g : Int) := by unfold percent; rw [hbr]; exact hpo
  have hpb : percent t g = some (q : Int) := percent_back t p q g hp1 hbr hpo
  rw [show ((g : Int)).toNat = g from rfl] at r7 r8
  obtain ⟨k1, hm1⟩ := (move_all t hb hB p 1 ⟨#[37]⟩).rounds
  rw [movePc t p (by omega) (by omega), show ((p : Int)).toNat = p from rfl, hpc] at hm1
  obtain ⟨k2, hm2⟩ := (move_all t hb hB g 1 ⟨#[37]⟩).rounds
  rw [movePc t g (by omega) (by omega), show ((g : Int)).toNat = g from rfl, hpb] at hm2
  simp only [movedP] at hm1 hm2
  have hbq := Pb.byte_at t hB q b2
  obtain ⟨⟨o, op, ok⟩, hpt⟩ : ∃ x, x = pt (rd t q) := ⟨_, rfl⟩
  rw [← hpt] at b3 r4 r5
  simp only at b3 r4 r5
  subst b3
  have hop : op = decide (q < g) := by
    cases op
    · symm; rw [decide_eq_false_iff_not]; intro h; have := r4.2 (by omega); cases this
    · symm; rw [decide_eq_true_iff]; have := r4.1 rfl; omega
  have hgo : (rd t (g : Int) != o) = false := bne_eq_false_iff_eq.mpr r5
  have hpq : class_Partner.f (rd t q) = some (o, op, true) := by rw [partner_eq hbq.1 hbq.2, hpt]
  have hn10 : rd t q ≠ 10 := b4 q b1 (Nat.lt_succ_self q)
  have HR := Aside0.mk hr
  have HC := Aside0.mk hc
  have HP := Aside0.mk hp
  have HM1 := Aside0.mk hm1
  have HM2 := Aside0.mk hm2
  have HB4_1 := Aside0.mk b4
  have HB5 := Aside0.mk b5
  have HS := Aside0.mk r8
  have HPQ := Aside0.mk hpq
  have HBy := Aside0.mk hB
  have HL := Aside0.mk hb
  have HG := Aside0.mk hgo
  have HO := Aside0.mk hop
  have HN := Aside0.mk hn10
  have HPL := Aside0.mk b1
  have HNE := Aside0.mk r3
  clear hr hp hm1 hm2 hc hB b4 b5 r8 hpq r6 r7 hpc hpb hbr hpo r4 r5 hop hgo hn10 hbq hpt r3
  have g1 : decide ((g : Int) < 0) = false := decide_eq_false (by omega)
  have g2 : decide (t.length ≤ g) = false := decide_eq_false (by omega)
  have hu30 := Try.underlying30
  go_enter Try.func5, Try.ntmps5
  go_wp2_with fail
  refine (awake _).mono ?_
  rintro e w1 ⟨rfl, hb1⟩
  have HB1 := Aside0.mk hb1
  clear hb1
  go_wp2_with fail
  refine (quoinlaw10_place.calls a (t.length + 1) p _ HP.out).mono ?_
  rintro e w2 ⟨rfl, ⟨n2, rfl⟩⟩
  go_wp2_with fail
  refine (block_Move.calls k1 A0 c0 t p 1 _ p g 2 0 _ (Kd.C_drewN (Kd.C_below HR.out HB1.out) n2) HC.out HM1.out).mono ?_
  rintro e w3 ⟨rfl, hb3⟩
  have HB3 := Aside0.mk (below_step (pw_below_drewN HB1.out n2) hb3)
  have HK3 := Aside0.mk (blk_new w3 (.cells #[.int .i64 p, .int .i64 g, .int .i64 2] 30))
  have HB4 := Aside0.mk (below_alloc HB3.out (.cells #[.int .i64 p, .int .i64 g, .int .i64 2] 30))
  have h0 : (w3.alloc (.cells #[.int .i64 p, .int .i64 g, .int .i64 2] 30)).cell? ⟨w3.heap.size, 0, none⟩ = some (.int .i64 p) := blk_cell HK3.out 0
  have h1 : (w3.alloc (.cells #[.int .i64 p, .int .i64 g, .int .i64 2] 30)).cell? ⟨w3.heap.size, 1, none⟩ = some (.int .i64 g) := blk_cell HK3.out 1
  have h2 : (w3.alloc (.cells #[.int .i64 p, .int .i64 g, .int .i64 2] 30)).cell? ⟨w3.heap.size, 2, none⟩ = some (.int .i64 2) := blk_cell HK3.out 2
  clear hb3 HB1
  obtain ⟨G, hGz⟩ : ∃ G, G = w3.heap.size := ⟨_, rfl⟩
  go_wp2
  have HK4 := Aside0.mk (show (w3.alloc (.cells #[.int .i64 p, .int .i64 g, .int .i64 2] 30)).heap[G]? = some (.cells #[.int .i64 p, .int .i64 g, .int .i64 2] 30) by rw [hGz]; exact HK3.out)
  rw [← hGz]
  clear h0 h1 h2 HK3 HB3
  go_loopw [8] (fun v wr => ∃ j : Nat, v = .int .i64 j ∧ Aside0 (p ≤ j ∧ j ≤ q) ∧ Aside0 (Below w.heap.size w wr) ∧ Aside0 (wr.heap[G]? = some (.cells #[.int .i64 p, .int .i64 g, .int .i64 2] 30))) (fun v _ => t.length - (intOf v).toNat)
  case atStart => exact ⟨p, rfl, ⟨Nat.le_refl _, HPL.out⟩, HB4, HK4⟩
  case round =>
    clear HB4 HK4 hGz
    obtain ⟨j, rfl, HJ, HBr, HKr⟩ := hrel
    have hjl : (j : Int) < (t.length : Int) := by have := HJ.out; omega
    have hjt : j < t.length := by omega
    have hj0 : (0 : Int) ≤ (j : Int) := by omega
    have hn : rd t j ≠ 10 := HB4_1.out j HJ.out.1 (by have := HJ.out; omega)
    obtain ⟨ad, e1, hx0⟩ := Kd.at_int HR.out j hj0 hjl
    subst e1
    replace hx0 := (HBr.out.cell (World.block_lt_of_cell? w _ hx0)).trans hx0
    rw [Int.toNat_natCast] at hx0
    have hj10 : (rd t j != 10) = true := bne_iff_ne.mpr hn
    have hje : (rd t j == 10) = false := beq_eq_false_iff_ne.mpr hn
    have hbj := Pb.byte_at t HBy.out j hjt
    by_cases hq : j < q
    · have hno := HB5.out j HJ.out.1 hq
      obtain ⟨⟨o1, op1, ok1⟩, hpt1⟩ : ∃ x, x = pt (rd t j) := ⟨_, rfl⟩
      rw [← hpt1] at hno
      simp only at hno
      subst hno
      have hpj : class_Partner.f (rd t j) = some (o1, op1, false) := by rw [partner_eq hbj.1 hbj.2, hpt1]
      have HPJ := Aside0.mk hpj
      clear hpt1 hpj
      go_wp2_with fail
      refine (class_Partner.calls (rd t j) o1 op1 false _ HPJ.out).mono ?_
      rintro e w4 ⟨rfl, ⟨n4, rfl⟩⟩
      go_wp2
      go_roundw
      case rel => exact ⟨j + 1, by go_num, ⟨by have := HJ.out; omega⟩, ⟨pw_below_drewN HBr.out n4⟩, HKr⟩
      case measure => simp [intOf]; omega
    · obtain rfl : j = q := by have := HJ.out; omega
      go_wp2_with fail
      refine (class_Partner.calls (rd t j) o op true _ HPQ.out).mono ?_
      rintro e w4 ⟨rfl, ⟨n4, rfl⟩⟩
      go_wp2_with fail
      refine (class_Partner.calls (rd t j) o op true _ HPQ.out).mono ?_
      rintro e w5 ⟨rfl, ⟨n5, rfl⟩⟩
      have hG1 := blk_cell HKr.out 1
      simp only [List.getElem?_toArray, List.getElem?_cons_zero, List.getElem?_cons_succ] at hG1
      go_wp2_with fail
      refine (block_Move.calls k2 (some ad) c0 t g 1 _ g j 2 0 _ (Kd.C_drewN (Kd.C_below HR.out HBr.out) _) HC.out HM2.out).mono ?_
      rintro e w6 ⟨rfl, hb6⟩
      have HB6 := Aside0.mk (below_step (pw_below_drewN HBr.out _) hb6)
      have bk6 := blk_below (blk_drewN HKr.out _) hb6
      have hs6 : G < w6.heap.size := blk_lt bk6
      have HK6 := Aside0.mk bk6
      clear hb6 bk6 hG1 HKr HBr hx0
      have z1 : ∀ o : Obj, (w6.alloc o).cell? ⟨G, 1, none⟩ = some (.int .i64 g) := fun o => blk_cell (blk_alloc HK6.out o) 1
      obtain ⟨ad', e2, hxg⟩ := Kd.at_int HR.out g r1 r2
      cases e2
      replace hxg := (HB6.out.cell (World.block_lt_of_cell? w _ hxg)).trans hxg
      rw [Int.toNat_natCast] at hxg
      have zg : ∀ o : Obj, (w6.alloc o).cell? (ad.add g) = some (.int .u8 (rd t g)) := fun o => ((below_alloc (Below.refl w6.heap.size w6) o).cell (World.block_lt_of_cell? w6 _ hxg)).trans hxg
      have hgo := HG.out
      obtain ⟨zs, hz42, hzs⟩ := zero42
      have HZ := Aside0.mk hzs
      clear hzs
      have hcc := HC.out
      rcases Nat.lt_or_gt_of_ne (show j ≠ g by have := HNE.out; omega) with hlt | hlt
      · obtain rfl : op = true := by rw [HO.out]; exact decide_eq_true hlt
        have s1 : (j : Int) ≤ (g : Int) := by omega
        have s2 : ¬ ((g : Int) < (j : Int)) := by omega
        have s3 : g + 1 ≤ c0 := by omega
        have s4 : j ≤ g + 1 := by omega
        go_wp2_with fail
        all_goals
          clear zg hxg hgo z1
          obtain ⟨lo, hlo⟩ : ∃ lo : Nat, lo = min j g := ⟨_, rfl⟩
          obtain ⟨n, hn⟩ : ∃ n : Nat, n = max j g + 1 - lo := ⟨_, rfl⟩
          rw [show (min (j : Int) (g : Int)).toNat = lo by omega, show (max (j : Int) (g : Int) + 1).toNat - lo = n by omega]
          have hln : lo + n ≤ t.length := by omega
          have HSU := Aside0.mk (show ∀ x, sumC x (Pb.part t lo (lo + n)) = 0 by
            intro x
            have := HS.out x
            rw [show min j g = lo by omega, show max j g + 1 = lo + n by omega] at this
            exact this)
          have hnew := blk_new (w6.alloc (.cells #[.int .i64 g, .int .i64 j, .int .i64 2] 30)) (.cells zs 42)
          obtain ⟨B, hBz⟩ : ∃ B, B = w6.heap.size + 1 := ⟨_, rfl⟩
          rw [show (w6.alloc (.cells #[.int .i64 g, .int .i64 j, .int .i64 2] 30)).heap.size = B by rw [hBz, size_alloc]] at hnew
          have HBa := Aside0.mk (below_alloc (below_alloc HB6.out (.cells #[.int .i64 g, .int .i64 j, .int .i64 2] 30)) (.cells zs 42))
          have hBge : w.heap.size ≤ B := by have := HB6.out.size; omega
          have HT0 := Aside0.mk (Tally.zero (t := t) (lo := lo) HZ.out hnew)
          rw [← hBz]
          clear hBz hnew HB6 HK6 hs6 hlo hn HS
          go_loopw [154] (fun v wr => ∃ (i : Nat) (xs : List Int), v = .int .i64 i ∧ Aside0 (i ≤ n) ∧ Aside0 (Below w.heap.size w wr) ∧ Aside0 (Tally t lo i B xs wr)) (fun v _ => n - (intOf v).toNat)
          case atStart => exact ⟨0, _, rfl, ⟨Nat.zero_le _⟩, HBa, HT0⟩
          case round =>
            clear HBa HT0
            obtain ⟨i, xs, rfl, HI, HBs, HTs⟩ := hrel
            by_cases hi : i < n
            · have hit : lo + i < t.length := by omega
              have hin : (i : Int) < (n : Int) := by omega
              have hi0 : (0 : Int) ≤ (i : Int) := by omega
              obtain ⟨ad2, e3, hy⟩ := Kd.at_int HR.out ((lo + i : Nat) : Int) (by omega) (by omega)
              cases e3
              replace hy := (HBs.out.cell (World.block_lt_of_cell? w _ hy)).trans hy
              rw [Int.toNat_natCast, ← Addr.add_add] at hy
              have hby := Pb.byte_at t HBy.out (lo + i) hit
              obtain ⟨b, hbb⟩ : ∃ b : Nat, rd t ((lo + i : Nat) : Int) = (b : Int) := ⟨(rd t ((lo + i : Nat) : Int)).toNat, by omega⟩
              rw [hbb] at hy hby
              have hb256 : b < 256 := by omega
              obtain ⟨⟨o1, op1, ok1⟩, hpt1⟩ : ∃ x, x = pt (b : Int) := ⟨_, rfl⟩
              have hpj : class_Partner.f (b : Int) = some (o1, op1, ok1) := by rw [partner_eq hby.1 hby.2, hpt1]
              have HPJ := Aside0.mk hpj
              have HPT := Aside0.mk hpt1
              clear hpj hpt1
              go_wp2_with fail
              refine (class_Partner.calls (b : Int) o1 op1 ok1 _ HPJ.out).mono ?_
              rintro e w8 ⟨rfl, ⟨n8, rfl⟩⟩
              cases ok1 with
              | false =>
                go_wp2
                go_roundw
                case rel => exact ⟨i + 1, xs, by go_num, ⟨by omega⟩, ⟨pw_below_drewN HBs.out n8⟩, ⟨(HTs.out.none_ hit (by rw [hbb, ← HPT.out])).drewN n8⟩⟩
                case measure => simp [intOf]; omega
              | true =>
                cases op1 with
                | true =>
                  have hcell := HTs.out.cell b hb256
                  have hfro := blk_frozen HTs.out.blk b
                  have hsm := HTs.out.small hb b hb256
                  have hst := Aside0.mk ((HTs.out.drewN n8).store hit b hb256 1 (fun k _ => by rw [hbb]; exact cnt_open HPT.out))
                  go_wp2
                  go_roundw
                  case rel => exact ⟨i + 1, _, by go_num, ⟨by omega⟩, ⟨(pw_below_drewN HBs.out n8).setCell hBge _⟩, hst⟩
                  case measure => simp [intOf]; omega
                | false =>
                  have hr1 := @pt_range (b : Int)
                  rw [← HPT.out] at hr1
                  simp only at hr1
                  obtain ⟨o2, ho2⟩ : ∃ o2 : Nat, o1 = (o2 : Int) := ⟨o1.toNat, by omega⟩
                  subst ho2
                  have ho256 : o2 < 256 := by omega
                  have hcell := HTs.out.cell o2 ho256
                  have hfro := blk_frozen HTs.out.blk o2
                  have hsm := HTs.out.small hb o2 ho256
                  have hst := Aside0.mk ((HTs.out.drewN n8).store hit o2 ho256 (-1) (fun k _ => by rw [hbb]; exact cnt_shut HPT.out))
                  rw [← Int.sub_eq_add_neg] at hst
                  go_wp2
                  go_roundw
                  case rel => exact ⟨i + 1, _, by go_num, ⟨by omega⟩, ⟨(pw_below_drewN HBs.out n8).setCell hBge _⟩, hst⟩
                  case measure => simp [intOf]; omega
            · obtain rfl : i = n := by have := HI.out; omega
              have hend := HTs.out.done HSU.out HZ.out
              have hload := load42 HZ.out hend
              have heq := fun (W : World) (d : Nat) => eq42 (W := W) HZ.out d
              go_wp2_with fail
              refine wp_load42 (.tmp 17) rfl rfl hload ?_
              clear hload
              go_wp2_with fail
              go_ret
              exact ⟨rfl, HBs.out⟩
      · obtain rfl : op = false := by rw [HO.out]; exact decide_eq_false (by omega)
        have s0 : ¬ j < g := by omega
        have s1 : (g : Int) ≤ (j : Int) := by omega
        have s2 : ¬ ((j : Int) < (g : Int)) := by omega
        have s3 : j + 1 ≤ c0 := by omega
        have s4 : g ≤ j + 1 := by omega
        go_wp2_with fail
        all_goals
          clear zg hxg hgo z1
          obtain ⟨lo, hlo⟩ : ∃ lo : Nat, lo = min j g := ⟨_, rfl⟩
          obtain ⟨n, hn⟩ : ∃ n : Nat, n = max j g + 1 - lo := ⟨_, rfl⟩
          rw [show (min (j : Int) (g : Int)).toNat = lo by omega, show (max (j : Int) (g : Int) + 1).toNat - lo = n by omega]
          have hln : lo + n ≤ t.length := by omega
          have HSU := Aside0.mk (show ∀ x, sumC x (Pb.part t lo (lo + n)) = 0 by
            intro x
            have := HS.out x
            rw [show min j g = lo by omega, show max j g + 1 = lo + n by omega] at this
            exact this)
          have hnew := blk_new (w6.alloc (.cells #[.int .i64 g, .int .i64 j, .int .i64 2] 30)) (.cells zs 42)
          obtain ⟨B, hBz⟩ : ∃ B, B = w6.heap.size + 1 := ⟨_, rfl⟩
          rw [show (w6.alloc (.cells #[.int .i64 g, .int .i64 j, .int .i64 2] 30)).heap.size = B by rw [hBz, size_alloc]] at hnew
          have HBa := Aside0.mk (below_alloc (below_alloc HB6.out (.cells #[.int .i64 g, .int .i64 j, .int .i64 2] 30)) (.cells zs 42))
          have hBge : w.heap.size ≤ B := by have := HB6.out.size; omega
          have HT0 := Aside0.mk (Tally.zero (t := t) (lo := lo) HZ.out hnew)
          rw [← hBz]
          clear hBz hnew HB6 HK6 hs6 hlo hn HS
          go_loopw [154] (fun v wr => ∃ (i : Nat) (xs : List Int), v = .int .i64 i ∧ Aside0 (i ≤ n) ∧ Aside0 (Below w.heap.size w wr) ∧ Aside0 (Tally t lo i B xs wr)) (fun v _ => n - (intOf v).toNat)
          case atStart => exact ⟨0, _, rfl, ⟨Nat.zero_le _⟩, HBa, HT0⟩
          case round =>
            clear HBa HT0
            obtain ⟨i, xs, rfl, HI, HBs, HTs⟩ := hrel
            by_cases hi : i < n
            · have hit : lo + i < t.length := by omega
              have hin : (i : Int) < (n : Int) := by omega
              have hi0 : (0 : Int) ≤ (i : Int) := by omega
              obtain ⟨ad2, e3, hy⟩ := Kd.at_int HR.out ((lo + i : Nat) : Int) (by omega) (by omega)
              cases e3
              replace hy := (HBs.out.cell (World.block_lt_of_cell? w _ hy)).trans hy
              rw [Int.toNat_natCast, ← Addr.add_add] at hy
              have hby := Pb.byte_at t HBy.out (lo + i) hit
              obtain ⟨b, hbb⟩ : ∃ b : Nat, rd t ((lo + i : Nat) : Int) = (b : Int) := ⟨(rd t ((lo + i : Nat) : Int)).toNat, by omega⟩
              rw [hbb] at hy hby
              have hb256 : b < 256 := by omega
              obtain ⟨⟨o1, op1, ok1⟩, hpt1⟩ : ∃ x, x = pt (b : Int) := ⟨_, rfl⟩
              have hpj : class_Partner.f (b : Int) = some (o1, op1, ok1) := by rw [partner_eq hby.1 hby.2, hpt1]
              have HPJ := Aside0.mk hpj
              have HPT := Aside0.mk hpt1
              clear hpj hpt1
              go_wp2_with fail
              refine (class_Partner.calls (b : Int) o1 op1 ok1 _ HPJ.out).mono ?_
              rintro e w8 ⟨rfl, ⟨n8, rfl⟩⟩
              cases ok1 with
              | false =>
                go_wp2
                go_roundw
                case rel => exact ⟨i + 1, xs, by go_num, ⟨by omega⟩, ⟨pw_below_drewN HBs.out n8⟩, ⟨(HTs.out.none_ hit (by rw [hbb, ← HPT.out])).drewN n8⟩⟩
                case measure => simp [intOf]; omega
              | true =>
                cases op1 with
                | true =>
                  have hcell := HTs.out.cell b hb256
                  have hfro := blk_frozen HTs.out.blk b
                  have hsm := HTs.out.small hb b hb256
                  have hst := Aside0.mk ((HTs.out.drewN n8).store hit b hb256 1 (fun k _ => by rw [hbb]; exact cnt_open HPT.out))
                  go_wp2
                  go_roundw
                  case rel => exact ⟨i + 1, _, by go_num, ⟨by omega⟩, ⟨(pw_below_drewN HBs.out n8).setCell hBge _⟩, hst⟩
                  case measure => simp [intOf]; omega
                | false =>
                  have hr1 := @pt_range (b : Int)
                  rw [← HPT.out] at hr1
                  simp only at hr1
                  obtain ⟨o2, ho2⟩ : ∃ o2 : Nat, o1 = (o2 : Int) := ⟨o1.toNat, by omega⟩
                  subst ho2
                  have ho256 : o2 < 256 := by omega
                  have hcell := HTs.out.cell o2 ho256
                  have hfro := blk_frozen HTs.out.blk o2
                  have hsm := HTs.out.small hb o2 ho256
                  have hst := Aside0.mk ((HTs.out.drewN n8).store hit o2 ho256 (-1) (fun k _ => by rw [hbb]; exact cnt_shut HPT.out))
                  rw [← Int.sub_eq_add_neg] at hst
                  go_wp2
                  go_roundw
                  case rel => exact ⟨i + 1, _, by go_num, ⟨by omega⟩, ⟨(pw_below_drewN HBs.out n8).setCell hBge _⟩, hst⟩
                  case measure => simp [intOf]; omega
            · obtain rfl : i = n := by have := HI.out; omega
              have hend := HTs.out.done HSU.out HZ.out
              have hload := load42 HZ.out hend
              have heq := fun (W : World) (d : Nat) => eq42 (W := W) HZ.out d
              go_wp2_with fail
              refine wp_load42 (.tmp 17) rfl rfl hload ?_
              clear hload
              go_wp2_with fail
              go_ret
              exact ⟨rfl, HBs.out⟩

/-- BlockPairs -/
theorem pairs (A0 : Option Addr) (c0 : Nat) (t : List Int) (a : Int) (w : World) (hr : Kd.C (Kd.int .u8) w A0 t.length t) (hc : t.length ≤ c0) (hb : t.length ≤ 1099511627776) (hB : Bytes t) (ha : -9223372036854775808 ≤ a) (ha' : a ≤ 9223372036854775807) :
    Calls Try.prog 5 #[.slice A0 t.length c0, .int .i64 a] w fun e w' => e = .returned (.bool true) ∧ Below w.heap.size w w' := by
  obtain ⟨p, hp, hp0, hp1⟩ := place_eq a (t.length + 1) (by omega) (by omega) ha ha'
  obtain ⟨p, rfl⟩ := Int.eq_ofNat_of_zero_le hp0
  have hpt : p ≤ t.length := by omega
  cases hbr : brk t (t.length - p) p with
  | none => exact pairs_none A0 c0 t a p w hr hc hb hB hp hp0 (by omega) (by rw [Int.toNat_natCast]; unfold percent; rw [hbr]; rfl)
  | some q =>
    cases hpo : pairOf t q with
    | none => exact pairs_none A0 c0 t a p w hr hc hb hB hp hp0 (by omega) (by rw [Int.toNat_natCast]; unfold percent; rw [hbr]; exact hpo)
    | some g =>
      obtain ⟨b1, b2, b3, b4, b5⟩ := brk_some t (t.length - p) p q (by omega) hbr
      obtain ⟨g, rfl⟩ := Int.eq_ofNat_of_zero_le (pair_back t q g b2 b3 hpo).1
      exact pairs_some A0 c0 t a p q g w hr hc hb hB hp hpt hbr hpo

end Go.Proofs.Ytjaopgjhmojpnaa.Lw
