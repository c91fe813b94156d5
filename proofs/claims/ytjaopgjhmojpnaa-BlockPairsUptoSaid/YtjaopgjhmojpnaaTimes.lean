/-
  BlockTimes' walk: a count of { } ( ) is so many motions one behind the other, at texts of up to 2^40 bytes.
-/
import Derived.Test.YtjaopgjhmojpnaaLw
import Derived.Test.YtjaopgjhmojpnaaPa
namespace Go.Proofs.Ytjaopgjhmojpnaa.Lw
open Go.RowKit Go.Proofs.YtjaopgjhmojpnaaW.PrintWords Go.Proofs.YtjaopgjhmojpnaaW.PrintLast Go.Proofs.YtjaopgjhmojpnaaW.PrintMore
open Go.Proofs.Ytjaopgjhmojpnaa.X
open Go.Proofs.Ytjaopgjhmojpnaa.Pb
set_option linter.unusedVariables false
set_option linter.unusedSimpArgs false

theorem goes_add (key : ByteArray) (t : List Int) : ∀ (i j : Nat) (p : Int), goes key t (i + j) p = (goes key t i p).bind (goes key t j)
  | 0, j, p => by rw [goes_zero, Nat.zero_add]; rfl
  | i + 1, j, p => by
    rw [Nat.add_right_comm, goes_succ, goes_succ key t i]
    cases goes key t 1 p with
    | none => rfl
    | some q => exact goes_add key t i j q
theorem toList_eq (s : ByteArray) (l : List UInt8) (h : s.toList = l) : s = ⟨l.toArray⟩ := by
  rw [Lib.toList_data] at h
  cases s with
  | mk d => simp at h; subst h; simp
theorem kb123 : bwd ⟨#[123]⟩ = true := by simp [bwd, Lib.toList_data]
theorem kf123 : fwd ⟨#[123]⟩ = false := by simp [fwd, Lib.toList_data]
theorem kb125 : bwd ⟨#[125]⟩ = false := by simp [bwd, Lib.toList_data]
theorem kf125 : fwd ⟨#[125]⟩ = true := by simp [fwd, Lib.toList_data]
theorem kb40 : bwd ⟨#[40]⟩ = true := by simp [bwd, Lib.toList_data]
theorem kf40 : fwd ⟨#[40]⟩ = false := by simp [fwd, Lib.toList_data]
theorem kb41 : bwd ⟨#[41]⟩ = false := by simp [bwd, Lib.toList_data]
theorem kf41 : fwd ⟨#[41]⟩ = true := by simp [fwd, Lib.toList_data]
theorem place_eq (i n : Int) (h0 : 0 < n) (h1 : n ≤ 9223372036854775807) (hi : -9223372036854775808 ≤ i) (hi' : i ≤ 9223372036854775807) : ∃ r, quoinlaw10_place.f i n = some r ∧ 0 ≤ r ∧ r < n := by
  unfold quoinlaw10_place.f
  by_cases c : i < 0
  · rw [if_pos c, if_neg (by omega), w64 (x := i + 1) (by omega) (by omega), w64 (by omega) (by omega)]
    refine ⟨_, rfl, ?_⟩
    rw [Int.tmod_eq_emod_of_nonneg (by omega)]
    exact ⟨Int.emod_nonneg _ (by omega), Int.emod_lt_of_pos _ h0⟩
  · rw [if_neg c, if_neg (by omega)]
    refine ⟨_, rfl, ?_⟩
    rw [Int.tmod_eq_emod_of_nonneg (by omega)]
    exact ⟨Int.emod_nonneg _ (by omega), Int.emod_lt_of_pos _ h0⟩

set_option maxHeartbeats 4000000 in
set_option maxRecDepth 100000 in
theorem times_123 (A0 : Option Addr) (c0 : Nat) (t : List Int) (a cn : Int) (key : ByteArray) (w : World) (hr : Kd.C (Kd.int .u8) w A0 t.length t) (hc : t.length ≤ c0) (hb : t.length ≤ 1099511627776) (hB : Bytes t)
    (ha : -9223372036854775808 ≤ a) (ha' : a ≤ 9223372036854775807) (hn : -9223372036854775808 ≤ cn) (hn' : cn ≤ 9223372036854775807) (hk : key = ⟨#[123]⟩) :
    Calls Try.prog 4 #[.slice A0 t.length c0, .agg #[.int .i64 a, .int .i64 cn, .string key]] w fun e w' => e = .returned (.bool true) ∧ Below w.heap.size w w' := by
  subst hk
  obtain ⟨p, hp, hp0, hp1⟩ := place_eq a (t.length + 1) (by omega) (by omega) ha ha'
  obtain ⟨n, hn0, hn1, hn2⟩ := place_eq cn 12 (by omega) (by omega) hn hn'
  obtain ⟨N, hN⟩ : ∃ N : Nat, (N : Int) = n + 1 := ⟨(n + 1).toNat, by omega⟩
  obtain ⟨km, hm⟩ := (move_ev ⟨#[123]⟩ t hb hB p (n + 1) hp0 (by omega) (by omega) (by omega) (.inr kb123)).rounds
  obtain ⟨g1, g2, g3, g4, hG⟩ : ∃ g1 g2 g3 g4, moved p (goes ⟨#[123]⟩ t (n + 1).toNat p) = (g1, g2, g3, g4) := ⟨_, _, _, _, rfl⟩
  rw [hG] at hm
  have HM := Aside0.mk hm
  have HG := Aside0.mk hG
  clear hm hG
  have hu30 := Try.underlying30
  have hu28 := Try.underlying28
  have HR := Aside0.mk hr
  have HP := Aside0.mk hp
  have HN := Aside0.mk hn0
  clear hr hp hn0
  go_enter Try.func4, Try.ntmps4
  go_wp2_with fail
  refine (awake _).mono ?_
  rintro e w1 ⟨rfl, hb1⟩
  have BK1 : w1.heap[w.heap.size]? = some (.cells #[.int .i64 a, .int .i64 cn, .string ⟨#[123]⟩] 28 (0, 0)) := blk_below (blk_new w _) hb1
  have HB1 := Aside0.mk (below_step (below_alloc (Below.refl w.heap.size w) _) hb1)
  have HS1 : w.heap.size < w1.heap.size := blk_lt BK1
  clear hb1
  have z0 : w1.cell? ⟨w.heap.size, 0, none⟩ = some (.int .i64 a) := blk_cell BK1 0
  have z1 : w1.cell? ⟨w.heap.size, 1, none⟩ = some (.int .i64 cn) := blk_cell BK1 1
  have z2 : w1.cell? ⟨w.heap.size, 2, none⟩ = some (.string ⟨#[123]⟩) := blk_cell BK1 2
  have HBK1 := Aside0.mk BK1
  clear BK1
  go_wp2_with fail
  have CP := fun W => (quoinlaw10_place.calls a (t.length + 1) p W HP.out).mono (R' := fun e w' => e = .returned (.int .i64 p) ∧ ∃ m, w' = W.drewN m) fun e w' ⟨he, hd⟩ => ⟨he, hd.out⟩
  have CN := fun W => (quoinlaw10_place.calls cn 12 n W HN.out).mono (R' := fun e w' => e = .returned (.int .i64 n) ∧ ∃ m, w' = W.drewN m) fun e w' ⟨he, hd⟩ => ⟨he, hd.out⟩
  have HCP := Aside0.mk CP
  have HCN := Aside0.mk CN
  clear CP CN
  go_quiet (first | (go_at_call 13; with_reducible exact Calls.quiet_of (HCP.out _)) | (go_at_call 13; with_reducible exact Calls.quiet_of (HCN.out _)))
  go_wp2_with fail
  have HR1 := Aside0.mk (Kd.C_below HR.out HB1.out)
  have hC : Kd.C (Kd.int .u8) (w1.drewN nq) A0 t.length t := Kd.C_drewN HR1.out nq
  refine (block_Move.calls km A0 c0 t p (n + 1) _ g1 g2 g3 g4 _ hC hc HM.out).mono ?_
  rintro e w2 ⟨rfl, hb2⟩
  have HB2 := Aside0.mk (below_step (pw_below_drewN HB1.out nq) hb2)
  have HBK2 := Aside0.mk (blk_below (blk_drewN HBK1.out nq) hb2)
  have HS2 : w.heap.size < w2.heap.size := blk_lt HBK2.out
  clear hb2 hC z0 z1 z2 HB1 HBK1 HS1 HR1
  go_wp2
  have BK3 := Aside0.mk (blk_alloc HBK2.out (.cells #[.int .i64 g1, .int .i64 g2, .int .i64 g3] 30))
  have GK3 := Aside0.mk (blk_new w2 (.cells #[.int .i64 g1, .int .i64 g2, .int .i64 g3] 30))
  have HB3 := Aside0.mk (below_alloc HB2.out (.cells #[.int .i64 g1, .int .i64 g2, .int .i64 g3] 30))
  go_loopw [9, 43] (fun q i wr => ∃ (j : Nat) (qv : Int), (q = .int .i64 qv ∧ i = .int .i64 j) ∧ Aside0 (j ≤ N ∧ goes ⟨#[123]⟩ t j p = some qv ∧ 0 ≤ qv ∧ qv ≤ t.length) ∧ Aside0 (Below w.heap.size w wr) ∧ Aside0 (wr.heap[w.heap.size]? = some (.cells #[.int .i64 a, .int .i64 cn, .string ⟨#[123]⟩] 28 (0, 0))) ∧ Aside0 (wr.heap[w2.heap.size]? = some (.cells #[.int .i64 g1, .int .i64 g2, .int .i64 g3] 30 (0, 0)))) (fun _ i _ => N - (intOf i).toNat)
  case atStart => exact ⟨0, p, ⟨rfl, rfl⟩, ⟨⟨by omega, goes_zero _ _ _, hp0, by omega⟩⟩, HB3, BK3, GK3⟩
  case round =>
    obtain ⟨j, qv, ⟨rfl, rfl⟩, HJ, HBr, BKr, GKr⟩ := hrel
    have hj0 := HJ.out.2.2.1
    have hj1 := HJ.out.2.2.2
    have HRr := Aside0.mk (Kd.C_below HR.out HBr.out)
    have z2 : wr.cell? ⟨w.heap.size, 2, none⟩ = some (.string ⟨#[123]⟩) := blk_cell BKr.out 2
    by_cases hlt : (j : Int) < n + 1
    · obtain ⟨k2, hm2⟩ := (move_ev ⟨#[123]⟩ t hb hB qv 1 hj0 hj1 (by omega) (by omega) (.inr kb123)).rounds
      have e1 : (1 : Int).toNat = 1 := rfl
      rw [e1] at hm2
      clear e1
      cases hg1 : goes ⟨#[123]⟩ t 1 qv with
      | none =>
        rw [hg1] at hm2
        have HM2 := Aside0.mk hm2
        have hall : goes ⟨#[123]⟩ t (n + 1).toNat p = none := by
          have e : (n + 1).toNat = j + (1 + (N - j - 1)) := by omega
          rw [e, goes_add, HJ.out.2.1, Option.bind_some, goes_add, hg1]; rfl
        have hG := HG.out
        rw [hall] at hG
        simp only [moved, Prod.mk.injEq] at hG
        obtain ⟨rfl, rfl, rfl, rfl⟩ := hG
        clear hm2 hg1 hall
        go_wp2_with fail
        refine (block_Move.calls k2 A0 c0 t qv 1 _ 0 0 0 70 _ HRr.out hc HM2.out).mono ?_
        rintro e w4 ⟨rfl, hb4⟩
        have BK4 := blk_below BKr.out hb4
        have GK4 := blk_below GKr.out hb4
        have HB4 := Aside0.mk (below_step HBr.out hb4)
        have hs1 : w.heap.size < w4.heap.size := blk_lt BK4
        have hs2 : w2.heap.size < w4.heap.size := blk_lt GK4
        have z2 : ∀ o : Obj, (w4.alloc o).cell? ⟨w.heap.size, 2, none⟩ = some (.string ⟨#[123]⟩) := fun o => blk_cell (blk_alloc BK4 o) 2
        have y0 : ∀ o : Obj, (w4.alloc o).cell? ⟨w2.heap.size, 0, none⟩ = some (.int .i64 0) := fun o => blk_cell (blk_alloc GK4 o) 0
        have y1 : ∀ o : Obj, (w4.alloc o).cell? ⟨w2.heap.size, 1, none⟩ = some (.int .i64 0) := fun o => blk_cell (blk_alloc GK4 o) 1
        have y2 : ∀ o : Obj, (w4.alloc o).cell? ⟨w2.heap.size, 2, none⟩ = some (.int .i64 0) := fun o => blk_cell (blk_alloc GK4 o) 2
        clear hb4 BK4 GK4
        go_wp2
        go_ret
        exact ⟨rfl, below_alloc HB4.out _⟩
      | some q2 =>
        rw [hg1] at hm2
        have HM2 := Aside0.mk hm2
        have hq2 := goes_one_bwd ⟨#[123]⟩ t qv q2 kf123 hj0 hg1
        have hq20 := hq2.1
        have hq21 := hq2.2
        have hq22 : q2 ≤ t.length := by omega
        have hnext : goes ⟨#[123]⟩ t (j + 1) p = some q2 := by rw [goes_add, HJ.out.2.1]; exact hg1
        have HX := Aside0.mk hnext
        clear hm2 hg1 hnext hq2
        go_wp2_with fail
        refine (block_Move.calls k2 A0 c0 t qv 1 _ qv q2 1 0 _ HRr.out hc HM2.out).mono ?_
        rintro e w4 ⟨rfl, hb4⟩
        have BK4 := blk_below BKr.out hb4
        have GK4 := blk_below GKr.out hb4
        have HB4 := Aside0.mk (below_step HBr.out hb4)
        have hs1 : w.heap.size < w4.heap.size := blk_lt BK4
        have hs2 : w2.heap.size < w4.heap.size := blk_lt GK4
        have z2 : ∀ o : Obj, (w4.alloc o).cell? ⟨w.heap.size, 2, none⟩ = some (.string ⟨#[123]⟩) := fun o => blk_cell (blk_alloc BK4 o) 2
        have BK5 := Aside0.mk BK4
        have GK5 := Aside0.mk GK4
        clear hb4 BK4 GK4
        go_wp2
        go_roundw
        case rel => exact ⟨j + 1, q2, ⟨rfl, by go_num⟩, ⟨⟨by omega, HX.out, hq20, by omega⟩⟩, ⟨below_alloc HB4.out _⟩, ⟨blk_alloc BK5.out _⟩, ⟨blk_alloc GK5.out _⟩⟩
        case measure => simp [intOf]; omega
    · have hj : j = N := by have := HJ.out.1; omega
      subst hj
      have hall := HJ.out.2.1
      have eN : (n + 1).toNat = j := by omega
      have hG := HG.out
      rw [eN, hall] at hG
      simp only [moved, Prod.mk.injEq] at hG
      obtain ⟨rfl, rfl, rfl, rfl⟩ := hG
      have y0 : wr.cell? ⟨w2.heap.size, 0, none⟩ = some (.int .i64 p) := blk_cell GKr.out 0
      have y1 : wr.cell? ⟨w2.heap.size, 1, none⟩ = some (.int .i64 qv) := blk_cell GKr.out 1
      have y2 : wr.cell? ⟨w2.heap.size, 2, none⟩ = some (.int .i64 1) := blk_cell GKr.out 2
      clear hall eN
      go_wp2
      go_ret
      exact ⟨by simp, HBr.out⟩
set_option maxHeartbeats 4000000 in
set_option maxRecDepth 100000 in
theorem times_125 (A0 : Option Addr) (c0 : Nat) (t : List Int) (a cn : Int) (key : ByteArray) (w : World) (hr : Kd.C (Kd.int .u8) w A0 t.length t) (hc : t.length ≤ c0) (hb : t.length ≤ 1099511627776) (hB : Bytes t)
    (ha : -9223372036854775808 ≤ a) (ha' : a ≤ 9223372036854775807) (hn : -9223372036854775808 ≤ cn) (hn' : cn ≤ 9223372036854775807) (hk : key = ⟨#[125]⟩) :
    Calls Try.prog 4 #[.slice A0 t.length c0, .agg #[.int .i64 a, .int .i64 cn, .string key]] w fun e w' => e = .returned (.bool true) ∧ Below w.heap.size w w' := by
  subst hk
  obtain ⟨p, hp, hp0, hp1⟩ := place_eq a (t.length + 1) (by omega) (by omega) ha ha'
  obtain ⟨n, hn0, hn1, hn2⟩ := place_eq cn 12 (by omega) (by omega) hn hn'
  obtain ⟨N, hN⟩ : ∃ N : Nat, (N : Int) = n + 1 := ⟨(n + 1).toNat, by omega⟩
  obtain ⟨km, hm⟩ := (move_ev ⟨#[125]⟩ t hb hB p (n + 1) hp0 (by omega) (by omega) (by omega) (.inl kf125)).rounds
  obtain ⟨g1, g2, g3, g4, hG⟩ : ∃ g1 g2 g3 g4, moved p (goes ⟨#[125]⟩ t (n + 1).toNat p) = (g1, g2, g3, g4) := ⟨_, _, _, _, rfl⟩
  rw [hG] at hm
  have HM := Aside0.mk hm
  have HG := Aside0.mk hG
  clear hm hG
  have hu30 := Try.underlying30
  have hu28 := Try.underlying28
  have HR := Aside0.mk hr
  have HP := Aside0.mk hp
  have HN := Aside0.mk hn0
  clear hr hp hn0
  go_enter Try.func4, Try.ntmps4
  go_wp2_with fail
  refine (awake _).mono ?_
  rintro e w1 ⟨rfl, hb1⟩
  have BK1 : w1.heap[w.heap.size]? = some (.cells #[.int .i64 a, .int .i64 cn, .string ⟨#[125]⟩] 28 (0, 0)) := blk_below (blk_new w _) hb1
  have HB1 := Aside0.mk (below_step (below_alloc (Below.refl w.heap.size w) _) hb1)
  have HS1 : w.heap.size < w1.heap.size := blk_lt BK1
  clear hb1
  have z0 : w1.cell? ⟨w.heap.size, 0, none⟩ = some (.int .i64 a) := blk_cell BK1 0
  have z1 : w1.cell? ⟨w.heap.size, 1, none⟩ = some (.int .i64 cn) := blk_cell BK1 1
  have z2 : w1.cell? ⟨w.heap.size, 2, none⟩ = some (.string ⟨#[125]⟩) := blk_cell BK1 2
  have HBK1 := Aside0.mk BK1
  clear BK1
  go_wp2_with fail
  have CP := fun W => (quoinlaw10_place.calls a (t.length + 1) p W HP.out).mono (R' := fun e w' => e = .returned (.int .i64 p) ∧ ∃ m, w' = W.drewN m) fun e w' ⟨he, hd⟩ => ⟨he, hd.out⟩
  have CN := fun W => (quoinlaw10_place.calls cn 12 n W HN.out).mono (R' := fun e w' => e = .returned (.int .i64 n) ∧ ∃ m, w' = W.drewN m) fun e w' ⟨he, hd⟩ => ⟨he, hd.out⟩
  have HCP := Aside0.mk CP
  have HCN := Aside0.mk CN
  clear CP CN
  go_quiet (first | (go_at_call 13; with_reducible exact Calls.quiet_of (HCP.out _)) | (go_at_call 13; with_reducible exact Calls.quiet_of (HCN.out _)))
  go_wp2_with fail
  have HR1 := Aside0.mk (Kd.C_below HR.out HB1.out)
  have hC : Kd.C (Kd.int .u8) (w1.drewN nq) A0 t.length t := Kd.C_drewN HR1.out nq
  refine (block_Move.calls km A0 c0 t p (n + 1) _ g1 g2 g3 g4 _ hC hc HM.out).mono ?_
  rintro e w2 ⟨rfl, hb2⟩
  have HB2 := Aside0.mk (below_step (pw_below_drewN HB1.out nq) hb2)
  have HBK2 := Aside0.mk (blk_below (blk_drewN HBK1.out nq) hb2)
  have HS2 : w.heap.size < w2.heap.size := blk_lt HBK2.out
  clear hb2 hC z0 z1 z2 HB1 HBK1 HS1 HR1
  go_wp2
  have BK3 := Aside0.mk (blk_alloc HBK2.out (.cells #[.int .i64 g1, .int .i64 g2, .int .i64 g3] 30))
  have GK3 := Aside0.mk (blk_new w2 (.cells #[.int .i64 g1, .int .i64 g2, .int .i64 g3] 30))
  have HB3 := Aside0.mk (below_alloc HB2.out (.cells #[.int .i64 g1, .int .i64 g2, .int .i64 g3] 30))
  go_loopw [9, 43] (fun q i wr => ∃ (j : Nat) (qv : Int), (q = .int .i64 qv ∧ i = .int .i64 j) ∧ Aside0 (j ≤ N ∧ goes ⟨#[125]⟩ t j p = some qv ∧ 0 ≤ qv ∧ qv ≤ t.length) ∧ Aside0 (Below w.heap.size w wr) ∧ Aside0 (wr.heap[w.heap.size]? = some (.cells #[.int .i64 a, .int .i64 cn, .string ⟨#[125]⟩] 28 (0, 0))) ∧ Aside0 (wr.heap[w2.heap.size]? = some (.cells #[.int .i64 g1, .int .i64 g2, .int .i64 g3] 30 (0, 0)))) (fun _ i _ => N - (intOf i).toNat)
  case atStart => exact ⟨0, p, ⟨rfl, rfl⟩, ⟨⟨by omega, goes_zero _ _ _, hp0, by omega⟩⟩, HB3, BK3, GK3⟩
  case round =>
    obtain ⟨j, qv, ⟨rfl, rfl⟩, HJ, HBr, BKr, GKr⟩ := hrel
    have hj0 := HJ.out.2.2.1
    have hj1 := HJ.out.2.2.2
    have HRr := Aside0.mk (Kd.C_below HR.out HBr.out)
    have z2 : wr.cell? ⟨w.heap.size, 2, none⟩ = some (.string ⟨#[125]⟩) := blk_cell BKr.out 2
    by_cases hlt : (j : Int) < n + 1
    · obtain ⟨k2, hm2⟩ := (move_ev ⟨#[125]⟩ t hb hB qv 1 hj0 hj1 (by omega) (by omega) (.inl kf125)).rounds
      have e1 : (1 : Int).toNat = 1 := rfl
      rw [e1] at hm2
      clear e1
      cases hg1 : goes ⟨#[125]⟩ t 1 qv with
      | none =>
        rw [hg1] at hm2
        have HM2 := Aside0.mk hm2
        have hall : goes ⟨#[125]⟩ t (n + 1).toNat p = none := by
          have e : (n + 1).toNat = j + (1 + (N - j - 1)) := by omega
          rw [e, goes_add, HJ.out.2.1, Option.bind_some, goes_add, hg1]; rfl
        have hG := HG.out
        rw [hall] at hG
        simp only [moved, Prod.mk.injEq] at hG
        obtain ⟨rfl, rfl, rfl, rfl⟩ := hG
        clear hm2 hg1 hall
        go_wp2_with fail
        refine (block_Move.calls k2 A0 c0 t qv 1 _ 0 0 0 70 _ HRr.out hc HM2.out).mono ?_
        rintro e w4 ⟨rfl, hb4⟩
        have BK4 := blk_below BKr.out hb4
        have GK4 := blk_below GKr.out hb4
        have HB4 := Aside0.mk (below_step HBr.out hb4)
        have hs1 : w.heap.size < w4.heap.size := blk_lt BK4
        have hs2 : w2.heap.size < w4.heap.size := blk_lt GK4
        have z2 : ∀ o : Obj, (w4.alloc o).cell? ⟨w.heap.size, 2, none⟩ = some (.string ⟨#[125]⟩) := fun o => blk_cell (blk_alloc BK4 o) 2
        have y0 : ∀ o : Obj, (w4.alloc o).cell? ⟨w2.heap.size, 0, none⟩ = some (.int .i64 0) := fun o => blk_cell (blk_alloc GK4 o) 0
        have y1 : ∀ o : Obj, (w4.alloc o).cell? ⟨w2.heap.size, 1, none⟩ = some (.int .i64 0) := fun o => blk_cell (blk_alloc GK4 o) 1
        have y2 : ∀ o : Obj, (w4.alloc o).cell? ⟨w2.heap.size, 2, none⟩ = some (.int .i64 0) := fun o => blk_cell (blk_alloc GK4 o) 2
        clear hb4 BK4 GK4
        go_wp2
        go_ret
        exact ⟨rfl, below_alloc HB4.out _⟩
      | some q2 =>
        rw [hg1] at hm2
        have HM2 := Aside0.mk hm2
        have hq2 := goes_one_fwd ⟨#[125]⟩ t qv q2 kf125 hj1 hg1
        have hq20 := hq2.1
        have hq21 := hq2.2
        have hq22 : 0 ≤ q2 := by omega
        have hnext : goes ⟨#[125]⟩ t (j + 1) p = some q2 := by rw [goes_add, HJ.out.2.1]; exact hg1
        have HX := Aside0.mk hnext
        clear hm2 hg1 hnext hq2
        go_wp2_with fail
        refine (block_Move.calls k2 A0 c0 t qv 1 _ qv q2 1 0 _ HRr.out hc HM2.out).mono ?_
        rintro e w4 ⟨rfl, hb4⟩
        have BK4 := blk_below BKr.out hb4
        have GK4 := blk_below GKr.out hb4
        have HB4 := Aside0.mk (below_step HBr.out hb4)
        have hs1 : w.heap.size < w4.heap.size := blk_lt BK4
        have hs2 : w2.heap.size < w4.heap.size := blk_lt GK4
        have z2 : ∀ o : Obj, (w4.alloc o).cell? ⟨w.heap.size, 2, none⟩ = some (.string ⟨#[125]⟩) := fun o => blk_cell (blk_alloc BK4 o) 2
        have BK5 := Aside0.mk BK4
        have GK5 := Aside0.mk GK4
        clear hb4 BK4 GK4
        go_wp2
        go_roundw
        case rel => exact ⟨j + 1, q2, ⟨rfl, by go_num⟩, ⟨⟨by omega, HX.out, by omega, hq21⟩⟩, ⟨below_alloc HB4.out _⟩, ⟨blk_alloc BK5.out _⟩, ⟨blk_alloc GK5.out _⟩⟩
        case measure => simp [intOf]; omega
    · have hj : j = N := by have := HJ.out.1; omega
      subst hj
      have hall := HJ.out.2.1
      have eN : (n + 1).toNat = j := by omega
      have hG := HG.out
      rw [eN, hall] at hG
      simp only [moved, Prod.mk.injEq] at hG
      obtain ⟨rfl, rfl, rfl, rfl⟩ := hG
      have y0 : wr.cell? ⟨w2.heap.size, 0, none⟩ = some (.int .i64 p) := blk_cell GKr.out 0
      have y1 : wr.cell? ⟨w2.heap.size, 1, none⟩ = some (.int .i64 qv) := blk_cell GKr.out 1
      have y2 : wr.cell? ⟨w2.heap.size, 2, none⟩ = some (.int .i64 1) := blk_cell GKr.out 2
      clear hall eN
      go_wp2
      go_ret
      exact ⟨by simp, HBr.out⟩
set_option maxHeartbeats 4000000 in
set_option maxRecDepth 100000 in
theorem times_40 (A0 : Option Addr) (c0 : Nat) (t : List Int) (a cn : Int) (key : ByteArray) (w : World) (hr : Kd.C (Kd.int .u8) w A0 t.length t) (hc : t.length ≤ c0) (hb : t.length ≤ 1099511627776) (hB : Bytes t)
    (ha : -9223372036854775808 ≤ a) (ha' : a ≤ 9223372036854775807) (hn : -9223372036854775808 ≤ cn) (hn' : cn ≤ 9223372036854775807) (hk : key = ⟨#[40]⟩) :
    Calls Try.prog 4 #[.slice A0 t.length c0, .agg #[.int .i64 a, .int .i64 cn, .string key]] w fun e w' => e = .returned (.bool true) ∧ Below w.heap.size w w' := by
  subst hk
  obtain ⟨p, hp, hp0, hp1⟩ := place_eq a (t.length + 1) (by omega) (by omega) ha ha'
  obtain ⟨n, hn0, hn1, hn2⟩ := place_eq cn 12 (by omega) (by omega) hn hn'
  obtain ⟨N, hN⟩ : ∃ N : Nat, (N : Int) = n + 1 := ⟨(n + 1).toNat, by omega⟩
  obtain ⟨km, hm⟩ := (move_ev ⟨#[40]⟩ t hb hB p (n + 1) hp0 (by omega) (by omega) (by omega) (.inr kb40)).rounds
  obtain ⟨g1, g2, g3, g4, hG⟩ : ∃ g1 g2 g3 g4, moved p (goes ⟨#[40]⟩ t (n + 1).toNat p) = (g1, g2, g3, g4) := ⟨_, _, _, _, rfl⟩
  rw [hG] at hm
  have HM := Aside0.mk hm
  have HG := Aside0.mk hG
  clear hm hG
  have hu30 := Try.underlying30
  have hu28 := Try.underlying28
  have HR := Aside0.mk hr
  have HP := Aside0.mk hp
  have HN := Aside0.mk hn0
  clear hr hp hn0
  go_enter Try.func4, Try.ntmps4
  go_wp2_with fail
  refine (awake _).mono ?_
  rintro e w1 ⟨rfl, hb1⟩
  have BK1 : w1.heap[w.heap.size]? = some (.cells #[.int .i64 a, .int .i64 cn, .string ⟨#[40]⟩] 28 (0, 0)) := blk_below (blk_new w _) hb1
  have HB1 := Aside0.mk (below_step (below_alloc (Below.refl w.heap.size w) _) hb1)
  have HS1 : w.heap.size < w1.heap.size := blk_lt BK1
  clear hb1
  have z0 : w1.cell? ⟨w.heap.size, 0, none⟩ = some (.int .i64 a) := blk_cell BK1 0
  have z1 : w1.cell? ⟨w.heap.size, 1, none⟩ = some (.int .i64 cn) := blk_cell BK1 1
  have z2 : w1.cell? ⟨w.heap.size, 2, none⟩ = some (.string ⟨#[40]⟩) := blk_cell BK1 2
  have HBK1 := Aside0.mk BK1
  clear BK1
  go_wp2_with fail
  have CP := fun W => (quoinlaw10_place.calls a (t.length + 1) p W HP.out).mono (R' := fun e w' => e = .returned (.int .i64 p) ∧ ∃ m, w' = W.drewN m) fun e w' ⟨he, hd⟩ => ⟨he, hd.out⟩
  have CN := fun W => (quoinlaw10_place.calls cn 12 n W HN.out).mono (R' := fun e w' => e = .returned (.int .i64 n) ∧ ∃ m, w' = W.drewN m) fun e w' ⟨he, hd⟩ => ⟨he, hd.out⟩
  have HCP := Aside0.mk CP
  have HCN := Aside0.mk CN
  clear CP CN
  go_quiet (first | (go_at_call 13; with_reducible exact Calls.quiet_of (HCP.out _)) | (go_at_call 13; with_reducible exact Calls.quiet_of (HCN.out _)))
  go_wp2_with fail
  have HR1 := Aside0.mk (Kd.C_below HR.out HB1.out)
  have hC : Kd.C (Kd.int .u8) (w1.drewN nq) A0 t.length t := Kd.C_drewN HR1.out nq
  refine (block_Move.calls km A0 c0 t p (n + 1) _ g1 g2 g3 g4 _ hC hc HM.out).mono ?_
  rintro e w2 ⟨rfl, hb2⟩
  have HB2 := Aside0.mk (below_step (pw_below_drewN HB1.out nq) hb2)
  have HBK2 := Aside0.mk (blk_below (blk_drewN HBK1.out nq) hb2)
  have HS2 : w.heap.size < w2.heap.size := blk_lt HBK2.out
  clear hb2 hC z0 z1 z2 HB1 HBK1 HS1 HR1
  go_wp2
  have BK3 := Aside0.mk (blk_alloc HBK2.out (.cells #[.int .i64 g1, .int .i64 g2, .int .i64 g3] 30))
  have GK3 := Aside0.mk (blk_new w2 (.cells #[.int .i64 g1, .int .i64 g2, .int .i64 g3] 30))
  have HB3 := Aside0.mk (below_alloc HB2.out (.cells #[.int .i64 g1, .int .i64 g2, .int .i64 g3] 30))
  go_loopw [9, 43] (fun q i wr => ∃ (j : Nat) (qv : Int), (q = .int .i64 qv ∧ i = .int .i64 j) ∧ Aside0 (j ≤ N ∧ goes ⟨#[40]⟩ t j p = some qv ∧ 0 ≤ qv ∧ qv ≤ t.length) ∧ Aside0 (Below w.heap.size w wr) ∧ Aside0 (wr.heap[w.heap.size]? = some (.cells #[.int .i64 a, .int .i64 cn, .string ⟨#[40]⟩] 28 (0, 0))) ∧ Aside0 (wr.heap[w2.heap.size]? = some (.cells #[.int .i64 g1, .int .i64 g2, .int .i64 g3] 30 (0, 0)))) (fun _ i _ => N - (intOf i).toNat)
  case atStart => exact ⟨0, p, ⟨rfl, rfl⟩, ⟨⟨by omega, goes_zero _ _ _, hp0, by omega⟩⟩, HB3, BK3, GK3⟩
  case round =>
    obtain ⟨j, qv, ⟨rfl, rfl⟩, HJ, HBr, BKr, GKr⟩ := hrel
    have hj0 := HJ.out.2.2.1
    have hj1 := HJ.out.2.2.2
    have HRr := Aside0.mk (Kd.C_below HR.out HBr.out)
    have z2 : wr.cell? ⟨w.heap.size, 2, none⟩ = some (.string ⟨#[40]⟩) := blk_cell BKr.out 2
    by_cases hlt : (j : Int) < n + 1
    · obtain ⟨k2, hm2⟩ := (move_ev ⟨#[40]⟩ t hb hB qv 1 hj0 hj1 (by omega) (by omega) (.inr kb40)).rounds
      have e1 : (1 : Int).toNat = 1 := rfl
      rw [e1] at hm2
      clear e1
      cases hg1 : goes ⟨#[40]⟩ t 1 qv with
      | none =>
        rw [hg1] at hm2
        have HM2 := Aside0.mk hm2
        have hall : goes ⟨#[40]⟩ t (n + 1).toNat p = none := by
          have e : (n + 1).toNat = j + (1 + (N - j - 1)) := by omega
          rw [e, goes_add, HJ.out.2.1, Option.bind_some, goes_add, hg1]; rfl
        have hG := HG.out
        rw [hall] at hG
        simp only [moved, Prod.mk.injEq] at hG
        obtain ⟨rfl, rfl, rfl, rfl⟩ := hG
        clear hm2 hg1 hall
        go_wp2_with fail
        refine (block_Move.calls k2 A0 c0 t qv 1 _ 0 0 0 70 _ HRr.out hc HM2.out).mono ?_
        rintro e w4 ⟨rfl, hb4⟩
        have BK4 := blk_below BKr.out hb4
        have GK4 := blk_below GKr.out hb4
        have HB4 := Aside0.mk (below_step HBr.out hb4)
        have hs1 : w.heap.size < w4.heap.size := blk_lt BK4
        have hs2 : w2.heap.size < w4.heap.size := blk_lt GK4
        have z2 : ∀ o : Obj, (w4.alloc o).cell? ⟨w.heap.size, 2, none⟩ = some (.string ⟨#[40]⟩) := fun o => blk_cell (blk_alloc BK4 o) 2
        have y0 : ∀ o : Obj, (w4.alloc o).cell? ⟨w2.heap.size, 0, none⟩ = some (.int .i64 0) := fun o => blk_cell (blk_alloc GK4 o) 0
        have y1 : ∀ o : Obj, (w4.alloc o).cell? ⟨w2.heap.size, 1, none⟩ = some (.int .i64 0) := fun o => blk_cell (blk_alloc GK4 o) 1
        have y2 : ∀ o : Obj, (w4.alloc o).cell? ⟨w2.heap.size, 2, none⟩ = some (.int .i64 0) := fun o => blk_cell (blk_alloc GK4 o) 2
        clear hb4 BK4 GK4
        go_wp2
        go_ret
        exact ⟨rfl, below_alloc HB4.out _⟩
      | some q2 =>
        rw [hg1] at hm2
        have HM2 := Aside0.mk hm2
        have hq2 := goes_one_bwd ⟨#[40]⟩ t qv q2 kf40 hj0 hg1
        have hq20 := hq2.1
        have hq21 := hq2.2
        have hq22 : q2 ≤ t.length := by omega
        have hnext : goes ⟨#[40]⟩ t (j + 1) p = some q2 := by rw [goes_add, HJ.out.2.1]; exact hg1
        have HX := Aside0.mk hnext
        clear hm2 hg1 hnext hq2
        go_wp2_with fail
        refine (block_Move.calls k2 A0 c0 t qv 1 _ qv q2 1 0 _ HRr.out hc HM2.out).mono ?_
        rintro e w4 ⟨rfl, hb4⟩
        have BK4 := blk_below BKr.out hb4
        have GK4 := blk_below GKr.out hb4
        have HB4 := Aside0.mk (below_step HBr.out hb4)
        have hs1 : w.heap.size < w4.heap.size := blk_lt BK4
        have hs2 : w2.heap.size < w4.heap.size := blk_lt GK4
        have z2 : ∀ o : Obj, (w4.alloc o).cell? ⟨w.heap.size, 2, none⟩ = some (.string ⟨#[40]⟩) := fun o => blk_cell (blk_alloc BK4 o) 2
        have BK5 := Aside0.mk BK4
        have GK5 := Aside0.mk GK4
        clear hb4 BK4 GK4
        go_wp2
        go_roundw
        case rel => exact ⟨j + 1, q2, ⟨rfl, by go_num⟩, ⟨⟨by omega, HX.out, hq20, by omega⟩⟩, ⟨below_alloc HB4.out _⟩, ⟨blk_alloc BK5.out _⟩, ⟨blk_alloc GK5.out _⟩⟩
        case measure => simp [intOf]; omega
    · have hj : j = N := by have := HJ.out.1; omega
      subst hj
      have hall := HJ.out.2.1
      have eN : (n + 1).toNat = j := by omega
      have hG := HG.out
      rw [eN, hall] at hG
      simp only [moved, Prod.mk.injEq] at hG
      obtain ⟨rfl, rfl, rfl, rfl⟩ := hG
      have y0 : wr.cell? ⟨w2.heap.size, 0, none⟩ = some (.int .i64 p) := blk_cell GKr.out 0
      have y1 : wr.cell? ⟨w2.heap.size, 1, none⟩ = some (.int .i64 qv) := blk_cell GKr.out 1
      have y2 : wr.cell? ⟨w2.heap.size, 2, none⟩ = some (.int .i64 1) := blk_cell GKr.out 2
      clear hall eN
      go_wp2
      go_ret
      exact ⟨by simp, HBr.out⟩
set_option maxHeartbeats 4000000 in
set_option maxRecDepth 100000 in
theorem times_41 (A0 : Option Addr) (c0 : Nat) (t : List Int) (a cn : Int) (key : ByteArray) (w : World) (hr : Kd.C (Kd.int .u8) w A0 t.length t) (hc : t.length ≤ c0) (hb : t.length ≤ 1099511627776) (hB : Bytes t)
    (ha : -9223372036854775808 ≤ a) (ha' : a ≤ 9223372036854775807) (hn : -9223372036854775808 ≤ cn) (hn' : cn ≤ 9223372036854775807) (hk : key = ⟨#[41]⟩) :
    Calls Try.prog 4 #[.slice A0 t.length c0, .agg #[.int .i64 a, .int .i64 cn, .string key]] w fun e w' => e = .returned (.bool true) ∧ Below w.heap.size w w' := by
  subst hk
  obtain ⟨p, hp, hp0, hp1⟩ := place_eq a (t.length + 1) (by omega) (by omega) ha ha'
  obtain ⟨n, hn0, hn1, hn2⟩ := place_eq cn 12 (by omega) (by omega) hn hn'
  obtain ⟨N, hN⟩ : ∃ N : Nat, (N : Int) = n + 1 := ⟨(n + 1).toNat, by omega⟩
  obtain ⟨km, hm⟩ := (move_ev ⟨#[41]⟩ t hb hB p (n + 1) hp0 (by omega) (by omega) (by omega) (.inl kf41)).rounds
  obtain ⟨g1, g2, g3, g4, hG⟩ : ∃ g1 g2 g3 g4, moved p (goes ⟨#[41]⟩ t (n + 1).toNat p) = (g1, g2, g3, g4) := ⟨_, _, _, _, rfl⟩
  rw [hG] at hm
  have HM := Aside0.mk hm
  have HG := Aside0.mk hG
  clear hm hG
  have hu30 := Try.underlying30
  have hu28 := Try.underlying28
  have HR := Aside0.mk hr
  have HP := Aside0.mk hp
  have HN := Aside0.mk hn0
  clear hr hp hn0
  go_enter Try.func4, Try.ntmps4
  go_wp2_with fail
  refine (awake _).mono ?_
  rintro e w1 ⟨rfl, hb1⟩
  have BK1 : w1.heap[w.heap.size]? = some (.cells #[.int .i64 a, .int .i64 cn, .string ⟨#[41]⟩] 28 (0, 0)) := blk_below (blk_new w _) hb1
  have HB1 := Aside0.mk (below_step (below_alloc (Below.refl w.heap.size w) _) hb1)
  have HS1 : w.heap.size < w1.heap.size := blk_lt BK1
  clear hb1
  have z0 : w1.cell? ⟨w.heap.size, 0, none⟩ = some (.int .i64 a) := blk_cell BK1 0
  have z1 : w1.cell? ⟨w.heap.size, 1, none⟩ = some (.int .i64 cn) := blk_cell BK1 1
  have z2 : w1.cell? ⟨w.heap.size, 2, none⟩ = some (.string ⟨#[41]⟩) := blk_cell BK1 2
  have HBK1 := Aside0.mk BK1
  clear BK1
  go_wp2_with fail
  have CP := fun W => (quoinlaw10_place.calls a (t.length + 1) p W HP.out).mono (R' := fun e w' => e = .returned (.int .i64 p) ∧ ∃ m, w' = W.drewN m) fun e w' ⟨he, hd⟩ => ⟨he, hd.out⟩
  have CN := fun W => (quoinlaw10_place.calls cn 12 n W HN.out).mono (R' := fun e w' => e = .returned (.int .i64 n) ∧ ∃ m, w' = W.drewN m) fun e w' ⟨he, hd⟩ => ⟨he, hd.out⟩
  have HCP := Aside0.mk CP
  have HCN := Aside0.mk CN
  clear CP CN
  go_quiet (first | (go_at_call 13; with_reducible exact Calls.quiet_of (HCP.out _)) | (go_at_call 13; with_reducible exact Calls.quiet_of (HCN.out _)))
  go_wp2_with fail
  have HR1 := Aside0.mk (Kd.C_below HR.out HB1.out)
  have hC : Kd.C (Kd.int .u8) (w1.drewN nq) A0 t.length t := Kd.C_drewN HR1.out nq
  refine (block_Move.calls km A0 c0 t p (n + 1) _ g1 g2 g3 g4 _ hC hc HM.out).mono ?_
  rintro e w2 ⟨rfl, hb2⟩
  have HB2 := Aside0.mk (below_step (pw_below_drewN HB1.out nq) hb2)
  have HBK2 := Aside0.mk (blk_below (blk_drewN HBK1.out nq) hb2)
  have HS2 : w.heap.size < w2.heap.size := blk_lt HBK2.out
  clear hb2 hC z0 z1 z2 HB1 HBK1 HS1 HR1
  go_wp2
  have BK3 := Aside0.mk (blk_alloc HBK2.out (.cells #[.int .i64 g1, .int .i64 g2, .int .i64 g3] 30))
  have GK3 := Aside0.mk (blk_new w2 (.cells #[.int .i64 g1, .int .i64 g2, .int .i64 g3] 30))
  have HB3 := Aside0.mk (below_alloc HB2.out (.cells #[.int .i64 g1, .int .i64 g2, .int .i64 g3] 30))
  go_loopw [9, 43] (fun q i wr => ∃ (j : Nat) (qv : Int), (q = .int .i64 qv ∧ i = .int .i64 j) ∧ Aside0 (j ≤ N ∧ goes ⟨#[41]⟩ t j p = some qv ∧ 0 ≤ qv ∧ qv ≤ t.length) ∧ Aside0 (Below w.heap.size w wr) ∧ Aside0 (wr.heap[w.heap.size]? = some (.cells #[.int .i64 a, .int .i64 cn, .string ⟨#[41]⟩] 28 (0, 0))) ∧ Aside0 (wr.heap[w2.heap.size]? = some (.cells #[.int .i64 g1, .int .i64 g2, .int .i64 g3] 30 (0, 0)))) (fun _ i _ => N - (intOf i).toNat)
  case atStart => exact ⟨0, p, ⟨rfl, rfl⟩, ⟨⟨by omega, goes_zero _ _ _, hp0, by omega⟩⟩, HB3, BK3, GK3⟩
  case round =>
    obtain ⟨j, qv, ⟨rfl, rfl⟩, HJ, HBr, BKr, GKr⟩ := hrel
    have hj0 := HJ.out.2.2.1
    have hj1 := HJ.out.2.2.2
    have HRr := Aside0.mk (Kd.C_below HR.out HBr.out)
    have z2 : wr.cell? ⟨w.heap.size, 2, none⟩ = some (.string ⟨#[41]⟩) := blk_cell BKr.out 2
    by_cases hlt : (j : Int) < n + 1
    · obtain ⟨k2, hm2⟩ := (move_ev ⟨#[41]⟩ t hb hB qv 1 hj0 hj1 (by omega) (by omega) (.inl kf41)).rounds
      have e1 : (1 : Int).toNat = 1 := rfl
      rw [e1] at hm2
      clear e1
      cases hg1 : goes ⟨#[41]⟩ t 1 qv with
      | none =>
        rw [hg1] at hm2
        have HM2 := Aside0.mk hm2
        have hall : goes ⟨#[41]⟩ t (n + 1).toNat p = none := by
          have e : (n + 1).toNat = j + (1 + (N - j - 1)) := by omega
          rw [e, goes_add, HJ.out.2.1, Option.bind_some, goes_add, hg1]; rfl
        have hG := HG.out
        rw [hall] at hG
        simp only [moved, Prod.mk.injEq] at hG
        obtain ⟨rfl, rfl, rfl, rfl⟩ := hG
        clear hm2 hg1 hall
        go_wp2_with fail
        refine (block_Move.calls k2 A0 c0 t qv 1 _ 0 0 0 70 _ HRr.out hc HM2.out).mono ?_
        rintro e w4 ⟨rfl, hb4⟩
        have BK4 := blk_below BKr.out hb4
        have GK4 := blk_below GKr.out hb4
        have HB4 := Aside0.mk (below_step HBr.out hb4)
        have hs1 : w.heap.size < w4.heap.size := blk_lt BK4
        have hs2 : w2.heap.size < w4.heap.size := blk_lt GK4
        have z2 : ∀ o : Obj, (w4.alloc o).cell? ⟨w.heap.size, 2, none⟩ = some (.string ⟨#[41]⟩) := fun o => blk_cell (blk_alloc BK4 o) 2
        have y0 : ∀ o : Obj, (w4.alloc o).cell? ⟨w2.heap.size, 0, none⟩ = some (.int .i64 0) := fun o => blk_cell (blk_alloc GK4 o) 0
        have y1 : ∀ o : Obj, (w4.alloc o).cell? ⟨w2.heap.size, 1, none⟩ = some (.int .i64 0) := fun o => blk_cell (blk_alloc GK4 o) 1
        have y2 : ∀ o : Obj, (w4.alloc o).cell? ⟨w2.heap.size, 2, none⟩ = some (.int .i64 0) := fun o => blk_cell (blk_alloc GK4 o) 2
        clear hb4 BK4 GK4
        go_wp2
        go_ret
        exact ⟨rfl, below_alloc HB4.out _⟩
      | some q2 =>
        rw [hg1] at hm2
        have HM2 := Aside0.mk hm2
        have hq2 := goes_one_fwd ⟨#[41]⟩ t qv q2 kf41 hj1 hg1
        have hq20 := hq2.1
        have hq21 := hq2.2
        have hq22 : 0 ≤ q2 := by omega
        have hnext : goes ⟨#[41]⟩ t (j + 1) p = some q2 := by rw [goes_add, HJ.out.2.1]; exact hg1
        have HX := Aside0.mk hnext
        clear hm2 hg1 hnext hq2
        go_wp2_with fail
        refine (block_Move.calls k2 A0 c0 t qv 1 _ qv q2 1 0 _ HRr.out hc HM2.out).mono ?_
        rintro e w4 ⟨rfl, hb4⟩
        have BK4 := blk_below BKr.out hb4
        have GK4 := blk_below GKr.out hb4
        have HB4 := Aside0.mk (below_step HBr.out hb4)
        have hs1 : w.heap.size < w4.heap.size := blk_lt BK4
        have hs2 : w2.heap.size < w4.heap.size := blk_lt GK4
        have z2 : ∀ o : Obj, (w4.alloc o).cell? ⟨w.heap.size, 2, none⟩ = some (.string ⟨#[41]⟩) := fun o => blk_cell (blk_alloc BK4 o) 2
        have BK5 := Aside0.mk BK4
        have GK5 := Aside0.mk GK4
        clear hb4 BK4 GK4
        go_wp2
        go_roundw
        case rel => exact ⟨j + 1, q2, ⟨rfl, by go_num⟩, ⟨⟨by omega, HX.out, by omega, hq21⟩⟩, ⟨below_alloc HB4.out _⟩, ⟨blk_alloc BK5.out _⟩, ⟨blk_alloc GK5.out _⟩⟩
        case measure => simp [intOf]; omega
    · have hj : j = N := by have := HJ.out.1; omega
      subst hj
      have hall := HJ.out.2.1
      have eN : (n + 1).toNat = j := by omega
      have hG := HG.out
      rw [eN, hall] at hG
      simp only [moved, Prod.mk.injEq] at hG
      obtain ⟨rfl, rfl, rfl, rfl⟩ := hG
      have y0 : wr.cell? ⟨w2.heap.size, 0, none⟩ = some (.int .i64 p) := blk_cell GKr.out 0
      have y1 : wr.cell? ⟨w2.heap.size, 1, none⟩ = some (.int .i64 qv) := blk_cell GKr.out 1
      have y2 : wr.cell? ⟨w2.heap.size, 2, none⟩ = some (.int .i64 1) := blk_cell GKr.out 2
      clear hall eN
      go_wp2
      go_ret
      exact ⟨by simp, HBr.out⟩
set_option maxHeartbeats 4000000 in
set_option maxRecDepth 100000 in
theorem times_other (A0 : Option Addr) (c0 : Nat) (t : List Int) (a cn : Int) (key : ByteArray) (w : World)
    (h1 : key.toList ≠ ([123] : List UInt8)) (h2 : key.toList ≠ ([125] : List UInt8)) (h3 : key.toList ≠ ([40] : List UInt8)) (h4 : key.toList ≠ ([41] : List UInt8)) :
    Calls Try.prog 4 #[.slice A0 t.length c0, .agg #[.int .i64 a, .int .i64 cn, .string key]] w fun e w' => e = .returned (.bool true) ∧ Below w.heap.size w w' := by
  have hu28 := Try.underlying28
  have g1 := beq_eq_false_iff_ne.mpr h1
  have g2 := beq_eq_false_iff_ne.mpr h2
  have g3 := beq_eq_false_iff_ne.mpr h3
  have g4 := beq_eq_false_iff_ne.mpr h4
  clear h1 h2 h3 h4
  go_enter Try.func4, Try.ntmps4
  go_wp2_with fail
  refine (awake _).mono ?_
  rintro e w1 ⟨rfl, hb1⟩
  have BK1 : w1.heap[w.heap.size]? = some (.cells #[.int .i64 a, .int .i64 cn, .string key] 28 (0, 0)) := blk_below (blk_new w _) hb1
  have HB1 := Aside0.mk (below_step (below_alloc (Below.refl w.heap.size w) _) hb1)
  have z2 : w1.cell? ⟨w.heap.size, 2, none⟩ = some (.string key) := blk_cell BK1 2
  clear hb1 BK1
  go_wp2
  go_ret
  exact ⟨rfl, HB1.out⟩

theorem times (A0 : Option Addr) (c0 : Nat) (t : List Int) (a cn : Int) (key : ByteArray) (w : World) (hr : Kd.C (Kd.int .u8) w A0 t.length t) (hc : t.length ≤ c0) (hb : t.length ≤ 1099511627776) (hB : Bytes t)
    (ha : -9223372036854775808 ≤ a) (ha' : a ≤ 9223372036854775807) (hn : -9223372036854775808 ≤ cn) (hn' : cn ≤ 9223372036854775807) :
    Calls Try.prog 4 #[.slice A0 t.length c0, .agg #[.int .i64 a, .int .i64 cn, .string key]] w fun e w' => e = .returned (.bool true) ∧ Below w.heap.size w w' := by
  by_cases h1 : key.toList = ([123] : List UInt8)
  · exact times_123 A0 c0 t a cn key w hr hc hb hB ha ha' hn hn' (toList_eq key _ h1)
  by_cases h2 : key.toList = ([125] : List UInt8)
  · exact times_125 A0 c0 t a cn key w hr hc hb hB ha ha' hn hn' (toList_eq key _ h2)
  by_cases h3 : key.toList = ([40] : List UInt8)
  · exact times_40 A0 c0 t a cn key w hr hc hb hB ha ha' hn hn' (toList_eq key _ h3)
  by_cases h4 : key.toList = ([41] : List UInt8)
  · exact times_41 A0 c0 t a cn key w hr hc hb hB ha ha' hn hn' (toList_eq key _ h4)
  exact times_other A0 c0 t a cn key w h1 h2 h3 h4

end Go.Proofs.Ytjaopgjhmojpnaa.Lw
