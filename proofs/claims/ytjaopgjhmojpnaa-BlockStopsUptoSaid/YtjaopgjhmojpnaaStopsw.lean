/-
  BlockStops' walk, a theorem a way, at texts of up to 2^40 bytes.
-/
import Derived.Test.YtjaopgjhmojpnaaStops
namespace Go.Proofs.Ytjaopgjhmojpnaa.Lw
open Go.RowKit Go.Proofs.YtjaopgjhmojpnaaW.PrintWords Go.Proofs.YtjaopgjhmojpnaaW.PrintLast Go.Proofs.YtjaopgjhmojpnaaW.PrintMore
open Go.Proofs.Ytjaopgjhmojpnaa.X
open Go.Proofs.Ytjaopgjhmojpnaa.Pb
set_option linter.unusedVariables false
set_option linter.unusedSimpArgs false

set_option maxHeartbeats 8000000 in
set_option maxRecDepth 100000 in
theorem stops_00 (A0 : Option Addr) (c0 : Nat) (t : List Int) (a p : Int) (w : World) (hr : Kd.C (Kd.int .u8) w A0 t.length t) (hc : t.length ≤ c0) (hb : t.length ≤ 1099511627776) (hB : Bytes t)
    (hp : quoinlaw10_place.f a (t.length + 1) = some p) (hp0 : 0 ≤ p) (hp1 : p ≤ t.length) (hpl : p = t.length) (hpz : p = 0) :
    Calls Try.prog 6 #[.slice A0 t.length c0, .int .i64 a] w fun e w' => e = .returned (.bool true) ∧ Below w.heap.size w w' := by
  obtain ⟨k1, hm1⟩ := (move_ev ⟨#[125]⟩ t hb hB p 1 hp0 hp1 (by omega) (by omega) (.inl kf125)).rounds
  obtain ⟨k2, hm2⟩ := (move_ev ⟨#[123]⟩ t hb hB p 1 hp0 hp1 (by omega) (by omega) (.inr kb123)).rounds
  rw [show (1 : Int).toNat = 1 from rfl] at hm1 hm2
  rw [goes_dn, if_pos hpl] at hm1
  rw [goes_un, if_pos hpz] at hm2
  have HR := Aside0.mk hr
  have HP := Aside0.mk hp
  have HM1 := Aside0.mk hm1
  have HM2 := Aside0.mk hm2
  clear hr hp hm1 hm2
  have hu30 := Try.underlying30
  have tp : (p == (t.length : Int)) = true := beq_iff_eq.mpr hpl
  have tz : (p == 0) = true := beq_iff_eq.mpr hpz
  have HPL := Aside0.mk hpl
  clear hpl
  have HPZ := Aside0.mk hpz
  clear hpz
  go_enter Try.func6, Try.ntmps6
  go_wp2_with fail
  refine (awake _).mono ?_
  rintro e w1 ⟨rfl, hb1⟩
  have BK1 := Aside0.mk (blk_below (blk_new w (.cells #[.slice A0 t.length c0] 22)) hb1)
  have HB1 := Aside0.mk (below_step (below_alloc (Below.refl w.heap.size w) _) hb1)
  have z1 : w1.cell? ⟨w.heap.size, 0, none⟩ = some (.slice A0 t.length c0) := blk_cell BK1.out 0
  clear hb1
  go_wp2_with fail
  refine (quoinlaw10_place.calls a (t.length + 1) p _ HP.out).mono ?_
  rintro e w2 ⟨rfl, ⟨n2, rfl⟩⟩
  go_wp2_with fail
  refine (block_Move.calls k1 A0 c0 t p 1 _ 0 0 0 70 _ (Kd.C_drewN (Kd.C_below HR.out HB1.out) n2) hc HM1.out).mono ?_
  rintro e w3 ⟨rfl, hb3⟩
  have BK3 := Aside0.mk (blk_below (blk_drewN BK1.out n2) hb3)
  have HB3 := Aside0.mk (below_step (pw_below_drewN HB1.out n2) hb3)
  have hs3 : w.heap.size < w3.heap.size := blk_lt BK3.out
  have z3 : ∀ o : Obj, (w3.alloc o).cell? ⟨w.heap.size, 0, none⟩ = some (.slice A0 t.length c0) := fun o => blk_cell (blk_alloc BK3.out o) 0
  clear hb3 BK1 HB1 z1
  go_wp2_with fail
  refine (block_Move.calls k2 A0 c0 t p 1 _ 0 0 0 70 _ (Kd.C_alloc (Kd.C_below HR.out HB3.out) _) hc HM2.out).mono ?_
  rintro e w4 ⟨rfl, hb4⟩
  have BK4 := blk_below (blk_alloc BK3.out _) hb4
  have GK4 := blk_below (blk_new w3 (.cells #[.int .i64 0, .int .i64 0, .int .i64 0] 30)) hb4
  have HB4 := Aside0.mk (below_step (below_alloc HB3.out _) hb4)
  have hs4 : w.heap.size < w4.heap.size := blk_lt BK4
  have hs5 : w3.heap.size < w4.heap.size := blk_lt GK4
  have HW : ∃ w5, w4.alloc (.cells #[.int .i64 0, .int .i64 0, .int .i64 0] 30) = w5 := ⟨_, rfl⟩
  have BK5 := Aside0.mk (blk_alloc BK4 (.cells #[.int .i64 0, .int .i64 0, .int .i64 0] 30))
  have GK5 := Aside0.mk (blk_alloc GK4 (.cells #[.int .i64 0, .int .i64 0, .int .i64 0] 30))
  have HK5 := Aside0.mk (blk_new w4 (.cells #[.int .i64 0, .int .i64 0, .int .i64 0] 30))
  have HB5 := Aside0.mk (below_alloc HB4.out (.cells #[.int .i64 0, .int .i64 0, .int .i64 0] 30))
  have HC5 := Aside0.mk (Kd.C_below HR.out HB5.out)
  clear hb4 BK3 HB3 z3 BK4 GK4 HB4
  have y0 : (w4.alloc (.cells #[.int .i64 0, .int .i64 0, .int .i64 0] 30)).cell? ⟨w.heap.size, 0, none⟩ = some (.slice A0 t.length c0) := blk_cell BK5.out 0
  have g0 : (w4.alloc (.cells #[.int .i64 0, .int .i64 0, .int .i64 0] 30)).cell? ⟨w3.heap.size, 0, none⟩ = some (.int .i64 0) := blk_cell GK5.out 0
  have g1 : (w4.alloc (.cells #[.int .i64 0, .int .i64 0, .int .i64 0] 30)).cell? ⟨w3.heap.size, 1, none⟩ = some (.int .i64 0) := blk_cell GK5.out 1
  have g2 : (w4.alloc (.cells #[.int .i64 0, .int .i64 0, .int .i64 0] 30)).cell? ⟨w3.heap.size, 2, none⟩ = some (.int .i64 0) := blk_cell GK5.out 2
  have h0 : (w4.alloc (.cells #[.int .i64 0, .int .i64 0, .int .i64 0] 30)).cell? ⟨w4.heap.size, 0, none⟩ = some (.int .i64 0) := blk_cell HK5.out 0
  have h1 : (w4.alloc (.cells #[.int .i64 0, .int .i64 0, .int .i64 0] 30)).cell? ⟨w4.heap.size, 1, none⟩ = some (.int .i64 0) := blk_cell HK5.out 1
  have h2 : (w4.alloc (.cells #[.int .i64 0, .int .i64 0, .int .i64 0] 30)).cell? ⟨w4.heap.size, 2, none⟩ = some (.int .i64 0) := blk_cell HK5.out 2
  go_wp2
  go_ret
  exact ⟨rfl, HB5.out⟩

set_option maxHeartbeats 8000000 in
set_option maxRecDepth 100000 in
theorem stops_01 (A0 : Option Addr) (c0 : Nat) (t : List Int) (a p : Int) (w : World) (hr : Kd.C (Kd.int .u8) w A0 t.length t) (hc : t.length ≤ c0) (hb : t.length ≤ 1099511627776) (hB : Bytes t)
    (hp : quoinlaw10_place.f a (t.length + 1) = some p) (hp0 : 0 ≤ p) (hp1 : p ≤ t.length) (hpl : p = t.length) (hpz : 0 < p) (q2 : Int) (hg2 : goes ⟨#[123]⟩ t 1 p = some q2) (hq2a : q2 < p) (hq2b : q2 = 0) (hu : ∀ i, q2 < i → i < p → un t i = false) :
    Calls Try.prog 6 #[.slice A0 t.length c0, .int .i64 a] w fun e w' => e = .returned (.bool true) ∧ Below w.heap.size w w' := by
  obtain ⟨k1, hm1⟩ := (move_ev ⟨#[125]⟩ t hb hB p 1 hp0 hp1 (by omega) (by omega) (.inl kf125)).rounds
  obtain ⟨k2, hm2⟩ := (move_ev ⟨#[123]⟩ t hb hB p 1 hp0 hp1 (by omega) (by omega) (.inr kb123)).rounds
  rw [show (1 : Int).toNat = 1 from rfl] at hm1 hm2
  rw [goes_dn, if_pos hpl] at hm1
  rw [hg2] at hm2
  clear hg2
  have HR := Aside0.mk hr
  have HP := Aside0.mk hp
  have HM1 := Aside0.mk hm1
  have HM2 := Aside0.mk hm2
  clear hr hp hm1 hm2
  have hu30 := Try.underlying30
  have tp : (p == (t.length : Int)) = true := beq_iff_eq.mpr hpl
  have tz : (p == 0) = false := beq_eq_false_iff_ne.mpr (by omega)
  have HPL := Aside0.mk hpl
  clear hpl
  have HU := Aside0.mk hu
  clear hu
  have v1 : decide (p ≤ q2) = false := decide_eq_false (by omega)
  have v2 : decide (q2 < 0) = false := decide_eq_false (by omega)
  have v3 : (q2 != 0) = false := bne_eq_false_iff_eq.mpr hq2b
  have hq2c : 0 ≤ q2 := by omega
  have HQ2 := Aside0.mk hq2b
  clear hq2b
  go_enter Try.func6, Try.ntmps6
  go_wp2_with fail
  refine (awake _).mono ?_
  rintro e w1 ⟨rfl, hb1⟩
  have BK1 := Aside0.mk (blk_below (blk_new w (.cells #[.slice A0 t.length c0] 22)) hb1)
  have HB1 := Aside0.mk (below_step (below_alloc (Below.refl w.heap.size w) _) hb1)
  have z1 : w1.cell? ⟨w.heap.size, 0, none⟩ = some (.slice A0 t.length c0) := blk_cell BK1.out 0
  clear hb1
  go_wp2_with fail
  refine (quoinlaw10_place.calls a (t.length + 1) p _ HP.out).mono ?_
  rintro e w2 ⟨rfl, ⟨n2, rfl⟩⟩
  go_wp2_with fail
  refine (block_Move.calls k1 A0 c0 t p 1 _ 0 0 0 70 _ (Kd.C_drewN (Kd.C_below HR.out HB1.out) n2) hc HM1.out).mono ?_
  rintro e w3 ⟨rfl, hb3⟩
  have BK3 := Aside0.mk (blk_below (blk_drewN BK1.out n2) hb3)
  have HB3 := Aside0.mk (below_step (pw_below_drewN HB1.out n2) hb3)
  have hs3 : w.heap.size < w3.heap.size := blk_lt BK3.out
  have z3 : ∀ o : Obj, (w3.alloc o).cell? ⟨w.heap.size, 0, none⟩ = some (.slice A0 t.length c0) := fun o => blk_cell (blk_alloc BK3.out o) 0
  clear hb3 BK1 HB1 z1
  go_wp2_with fail
  refine (block_Move.calls k2 A0 c0 t p 1 _ p q2 1 0 _ (Kd.C_alloc (Kd.C_below HR.out HB3.out) _) hc HM2.out).mono ?_
  rintro e w4 ⟨rfl, hb4⟩
  have BK4 := blk_below (blk_alloc BK3.out _) hb4
  have GK4 := blk_below (blk_new w3 (.cells #[.int .i64 0, .int .i64 0, .int .i64 0] 30)) hb4
  have HB4 := Aside0.mk (below_step (below_alloc HB3.out _) hb4)
  have hs4 : w.heap.size < w4.heap.size := blk_lt BK4
  have hs5 : w3.heap.size < w4.heap.size := blk_lt GK4
  have HW : ∃ w5, w4.alloc (.cells #[.int .i64 p, .int .i64 q2, .int .i64 1] 30) = w5 := ⟨_, rfl⟩
  have BK5 := Aside0.mk (blk_alloc BK4 (.cells #[.int .i64 p, .int .i64 q2, .int .i64 1] 30))
  have GK5 := Aside0.mk (blk_alloc GK4 (.cells #[.int .i64 p, .int .i64 q2, .int .i64 1] 30))
  have HK5 := Aside0.mk (blk_new w4 (.cells #[.int .i64 p, .int .i64 q2, .int .i64 1] 30))
  have HB5 := Aside0.mk (below_alloc HB4.out (.cells #[.int .i64 p, .int .i64 q2, .int .i64 1] 30))
  have HC5 := Aside0.mk (Kd.C_below HR.out HB5.out)
  clear hb4 BK3 HB3 z3 BK4 GK4 HB4
  have y0 : (w4.alloc (.cells #[.int .i64 p, .int .i64 q2, .int .i64 1] 30)).cell? ⟨w.heap.size, 0, none⟩ = some (.slice A0 t.length c0) := blk_cell BK5.out 0
  have g0 : (w4.alloc (.cells #[.int .i64 p, .int .i64 q2, .int .i64 1] 30)).cell? ⟨w3.heap.size, 0, none⟩ = some (.int .i64 0) := blk_cell GK5.out 0
  have g1 : (w4.alloc (.cells #[.int .i64 p, .int .i64 q2, .int .i64 1] 30)).cell? ⟨w3.heap.size, 1, none⟩ = some (.int .i64 0) := blk_cell GK5.out 1
  have g2 : (w4.alloc (.cells #[.int .i64 p, .int .i64 q2, .int .i64 1] 30)).cell? ⟨w3.heap.size, 2, none⟩ = some (.int .i64 0) := blk_cell GK5.out 2
  have h0 : (w4.alloc (.cells #[.int .i64 p, .int .i64 q2, .int .i64 1] 30)).cell? ⟨w4.heap.size, 0, none⟩ = some (.int .i64 p) := blk_cell HK5.out 0
  have h1 : (w4.alloc (.cells #[.int .i64 p, .int .i64 q2, .int .i64 1] 30)).cell? ⟨w4.heap.size, 1, none⟩ = some (.int .i64 q2) := blk_cell HK5.out 1
  have h2 : (w4.alloc (.cells #[.int .i64 p, .int .i64 q2, .int .i64 1] 30)).cell? ⟨w4.heap.size, 2, none⟩ = some (.int .i64 1) := blk_cell HK5.out 2
  go_wp2_with fail
  go_loop [13] (fun i => ∃ j : Nat, i = .int .i64 (q2 + 1 + j) ∧ q2 + 1 + j ≤ p) (fun i => (p - intOf i).toNat)
  case atStart => exact ⟨0, by simp, by omega⟩
  case round =>
    obtain ⟨j2, rfl, hj2⟩ := hrel
    by_cases hlt2 : q2 + 1 + (j2 : Int) < p
    · go_wp2_with fail
      refine (un_calls w.heap.size A0 c0 t (q2 + 1 + j2) _ y0 HC5.out hc hb (by omega) (by omega)).mono ?_
      rintro e w8 ⟨rfl, rfl⟩
      rw [HU.out (q2 + 1 + j2) (by omega) hlt2]
      go_wp2
      go_round
      case rel => exact ⟨j2 + 1, by go_num, by omega⟩
      case measure => simp [intOf]; omega
    · go_wp2
      go_ret
      exact ⟨rfl, HB5.out⟩

set_option maxHeartbeats 8000000 in
set_option maxRecDepth 100000 in
theorem stops_02 (A0 : Option Addr) (c0 : Nat) (t : List Int) (a p : Int) (w : World) (hr : Kd.C (Kd.int .u8) w A0 t.length t) (hc : t.length ≤ c0) (hb : t.length ≤ 1099511627776) (hB : Bytes t)
    (hp : quoinlaw10_place.f a (t.length + 1) = some p) (hp0 : 0 ≤ p) (hp1 : p ≤ t.length) (hpl : p = t.length) (hpz : 0 < p) (q2 : Int) (hg2 : goes ⟨#[123]⟩ t 1 p = some q2) (hq2a : q2 < p) (hq2b : 0 < q2) (hu1 : un t q2 = true) (hu : ∀ i, q2 < i → i < p → un t i = false) :
    Calls Try.prog 6 #[.slice A0 t.length c0, .int .i64 a] w fun e w' => e = .returned (.bool true) ∧ Below w.heap.size w w' := by
  obtain ⟨k1, hm1⟩ := (move_ev ⟨#[125]⟩ t hb hB p 1 hp0 hp1 (by omega) (by omega) (.inl kf125)).rounds
  obtain ⟨k2, hm2⟩ := (move_ev ⟨#[123]⟩ t hb hB p 1 hp0 hp1 (by omega) (by omega) (.inr kb123)).rounds
  rw [show (1 : Int).toNat = 1 from rfl] at hm1 hm2
  rw [goes_dn, if_pos hpl] at hm1
  rw [hg2] at hm2
  clear hg2
  have HR := Aside0.mk hr
  have HP := Aside0.mk hp
  have HM1 := Aside0.mk hm1
  have HM2 := Aside0.mk hm2
  clear hr hp hm1 hm2
  have hu30 := Try.underlying30
  have tp : (p == (t.length : Int)) = true := beq_iff_eq.mpr hpl
  have tz : (p == 0) = false := beq_eq_false_iff_ne.mpr (by omega)
  have HPL := Aside0.mk hpl
  clear hpl
  have HU := Aside0.mk hu
  clear hu
  have v1 : decide (p ≤ q2) = false := decide_eq_false (by omega)
  have v2 : decide (q2 < 0) = false := decide_eq_false (by omega)
  have v3 : (q2 != 0) = true := bne_iff_ne.mpr (by omega)
  have hq2c : 0 ≤ q2 := by omega
  have HU1 := Aside0.mk hu1
  clear hu1
  go_enter Try.func6, Try.ntmps6
  go_wp2_with fail
  refine (awake _).mono ?_
  rintro e w1 ⟨rfl, hb1⟩
  have BK1 := Aside0.mk (blk_below (blk_new w (.cells #[.slice A0 t.length c0] 22)) hb1)
  have HB1 := Aside0.mk (below_step (below_alloc (Below.refl w.heap.size w) _) hb1)
  have z1 : w1.cell? ⟨w.heap.size, 0, none⟩ = some (.slice A0 t.length c0) := blk_cell BK1.out 0
  clear hb1
  go_wp2_with fail
  refine (quoinlaw10_place.calls a (t.length + 1) p _ HP.out).mono ?_
  rintro e w2 ⟨rfl, ⟨n2, rfl⟩⟩
  go_wp2_with fail
  refine (block_Move.calls k1 A0 c0 t p 1 _ 0 0 0 70 _ (Kd.C_drewN (Kd.C_below HR.out HB1.out) n2) hc HM1.out).mono ?_
  rintro e w3 ⟨rfl, hb3⟩
  have BK3 := Aside0.mk (blk_below (blk_drewN BK1.out n2) hb3)
  have HB3 := Aside0.mk (below_step (pw_below_drewN HB1.out n2) hb3)
  have hs3 : w.heap.size < w3.heap.size := blk_lt BK3.out
  have z3 : ∀ o : Obj, (w3.alloc o).cell? ⟨w.heap.size, 0, none⟩ = some (.slice A0 t.length c0) := fun o => blk_cell (blk_alloc BK3.out o) 0
  clear hb3 BK1 HB1 z1
  go_wp2_with fail
  refine (block_Move.calls k2 A0 c0 t p 1 _ p q2 1 0 _ (Kd.C_alloc (Kd.C_below HR.out HB3.out) _) hc HM2.out).mono ?_
  rintro e w4 ⟨rfl, hb4⟩
  have BK4 := blk_below (blk_alloc BK3.out _) hb4
  have GK4 := blk_below (blk_new w3 (.cells #[.int .i64 0, .int .i64 0, .int .i64 0] 30)) hb4
  have HB4 := Aside0.mk (below_step (below_alloc HB3.out _) hb4)
  have hs4 : w.heap.size < w4.heap.size := blk_lt BK4
  have hs5 : w3.heap.size < w4.heap.size := blk_lt GK4
  have HW : ∃ w5, w4.alloc (.cells #[.int .i64 p, .int .i64 q2, .int .i64 1] 30) = w5 := ⟨_, rfl⟩
  have BK5 := Aside0.mk (blk_alloc BK4 (.cells #[.int .i64 p, .int .i64 q2, .int .i64 1] 30))
  have GK5 := Aside0.mk (blk_alloc GK4 (.cells #[.int .i64 p, .int .i64 q2, .int .i64 1] 30))
  have HK5 := Aside0.mk (blk_new w4 (.cells #[.int .i64 p, .int .i64 q2, .int .i64 1] 30))
  have HB5 := Aside0.mk (below_alloc HB4.out (.cells #[.int .i64 p, .int .i64 q2, .int .i64 1] 30))
  have HC5 := Aside0.mk (Kd.C_below HR.out HB5.out)
  clear hb4 BK3 HB3 z3 BK4 GK4 HB4
  have y0 : (w4.alloc (.cells #[.int .i64 p, .int .i64 q2, .int .i64 1] 30)).cell? ⟨w.heap.size, 0, none⟩ = some (.slice A0 t.length c0) := blk_cell BK5.out 0
  have g0 : (w4.alloc (.cells #[.int .i64 p, .int .i64 q2, .int .i64 1] 30)).cell? ⟨w3.heap.size, 0, none⟩ = some (.int .i64 0) := blk_cell GK5.out 0
  have g1 : (w4.alloc (.cells #[.int .i64 p, .int .i64 q2, .int .i64 1] 30)).cell? ⟨w3.heap.size, 1, none⟩ = some (.int .i64 0) := blk_cell GK5.out 1
  have g2 : (w4.alloc (.cells #[.int .i64 p, .int .i64 q2, .int .i64 1] 30)).cell? ⟨w3.heap.size, 2, none⟩ = some (.int .i64 0) := blk_cell GK5.out 2
  have h0 : (w4.alloc (.cells #[.int .i64 p, .int .i64 q2, .int .i64 1] 30)).cell? ⟨w4.heap.size, 0, none⟩ = some (.int .i64 p) := blk_cell HK5.out 0
  have h1 : (w4.alloc (.cells #[.int .i64 p, .int .i64 q2, .int .i64 1] 30)).cell? ⟨w4.heap.size, 1, none⟩ = some (.int .i64 q2) := blk_cell HK5.out 1
  have h2 : (w4.alloc (.cells #[.int .i64 p, .int .i64 q2, .int .i64 1] 30)).cell? ⟨w4.heap.size, 2, none⟩ = some (.int .i64 1) := blk_cell HK5.out 2
  go_wp2_with fail
  refine (un_calls w.heap.size A0 c0 t q2 _ y0 HC5.out hc hb (by omega) (by omega)).mono ?_
  rintro e w7 ⟨rfl, rfl⟩
  rw [HU1.out]
  go_wp2_with fail
  go_loop [13] (fun i => ∃ j : Nat, i = .int .i64 (q2 + 1 + j) ∧ q2 + 1 + j ≤ p) (fun i => (p - intOf i).toNat)
  case atStart => exact ⟨0, by simp, by omega⟩
  case round =>
    obtain ⟨j2, rfl, hj2⟩ := hrel
    by_cases hlt2 : q2 + 1 + (j2 : Int) < p
    · go_wp2_with fail
      refine (un_calls w.heap.size A0 c0 t (q2 + 1 + j2) _ y0 HC5.out hc hb (by omega) (by omega)).mono ?_
      rintro e w8 ⟨rfl, rfl⟩
      rw [HU.out (q2 + 1 + j2) (by omega) hlt2]
      go_wp2
      go_round
      case rel => exact ⟨j2 + 1, by go_num, by omega⟩
      case measure => simp [intOf]; omega
    · go_wp2
      go_ret
      exact ⟨rfl, HB5.out⟩

set_option maxHeartbeats 8000000 in
set_option maxRecDepth 100000 in
theorem stops_10 (A0 : Option Addr) (c0 : Nat) (t : List Int) (a p : Int) (w : World) (hr : Kd.C (Kd.int .u8) w A0 t.length t) (hc : t.length ≤ c0) (hb : t.length ≤ 1099511627776) (hB : Bytes t)
    (hp : quoinlaw10_place.f a (t.length + 1) = some p) (hp0 : 0 ≤ p) (hp1 : p ≤ t.length) (hpl : p < t.length) (q1 : Int) (hg1 : goes ⟨#[125]⟩ t 1 p = some q1) (hq1a : p < q1) (hq1b : q1 = t.length) (hd : ∀ i, p < i → i < q1 → dn t i = false) (hpz : p = 0) :
    Calls Try.prog 6 #[.slice A0 t.length c0, .int .i64 a] w fun e w' => e = .returned (.bool true) ∧ Below w.heap.size w w' := by
  obtain ⟨k1, hm1⟩ := (move_ev ⟨#[125]⟩ t hb hB p 1 hp0 hp1 (by omega) (by omega) (.inl kf125)).rounds
  obtain ⟨k2, hm2⟩ := (move_ev ⟨#[123]⟩ t hb hB p 1 hp0 hp1 (by omega) (by omega) (.inr kb123)).rounds
  rw [show (1 : Int).toNat = 1 from rfl] at hm1 hm2
  rw [hg1] at hm1
  clear hg1
  rw [goes_un, if_pos hpz] at hm2
  have HR := Aside0.mk hr
  have HP := Aside0.mk hp
  have HM1 := Aside0.mk hm1
  have HM2 := Aside0.mk hm2
  clear hr hp hm1 hm2
  have hu30 := Try.underlying30
  have tp : (p == (t.length : Int)) = false := beq_eq_false_iff_ne.mpr (by omega)
  have tz : (p == 0) = true := beq_iff_eq.mpr hpz
  have HPL := Aside0.mk hpl
  have HPZ := Aside0.mk hpz
  clear hpz
  have HD := Aside0.mk hd
  clear hd
  have u1 : decide (q1 ≤ p) = false := decide_eq_false (by omega)
  have u2 : decide ((t.length : Int) < q1) = false := decide_eq_false (by omega)
  have u3 : (q1 != (t.length : Int)) = false := bne_eq_false_iff_eq.mpr hq1b
  have hq1c : q1 ≤ t.length := by omega
  have HQ1 := Aside0.mk hq1b
  clear hq1b
  go_enter Try.func6, Try.ntmps6
  go_wp2_with fail
  refine (awake _).mono ?_
  rintro e w1 ⟨rfl, hb1⟩
  have BK1 := Aside0.mk (blk_below (blk_new w (.cells #[.slice A0 t.length c0] 22)) hb1)
  have HB1 := Aside0.mk (below_step (below_alloc (Below.refl w.heap.size w) _) hb1)
  have z1 : w1.cell? ⟨w.heap.size, 0, none⟩ = some (.slice A0 t.length c0) := blk_cell BK1.out 0
  clear hb1
  go_wp2_with fail
  refine (quoinlaw10_place.calls a (t.length + 1) p _ HP.out).mono ?_
  rintro e w2 ⟨rfl, ⟨n2, rfl⟩⟩
  go_wp2_with fail
  refine (block_Move.calls k1 A0 c0 t p 1 _ p q1 1 0 _ (Kd.C_drewN (Kd.C_below HR.out HB1.out) n2) hc HM1.out).mono ?_
  rintro e w3 ⟨rfl, hb3⟩
  have BK3 := Aside0.mk (blk_below (blk_drewN BK1.out n2) hb3)
  have HB3 := Aside0.mk (below_step (pw_below_drewN HB1.out n2) hb3)
  have hs3 : w.heap.size < w3.heap.size := blk_lt BK3.out
  have z3 : ∀ o : Obj, (w3.alloc o).cell? ⟨w.heap.size, 0, none⟩ = some (.slice A0 t.length c0) := fun o => blk_cell (blk_alloc BK3.out o) 0
  clear hb3 BK1 HB1 z1
  go_wp2_with fail
  refine (block_Move.calls k2 A0 c0 t p 1 _ 0 0 0 70 _ (Kd.C_alloc (Kd.C_below HR.out HB3.out) _) hc HM2.out).mono ?_
  rintro e w4 ⟨rfl, hb4⟩
  have BK4 := blk_below (blk_alloc BK3.out _) hb4
  have GK4 := blk_below (blk_new w3 (.cells #[.int .i64 p, .int .i64 q1, .int .i64 1] 30)) hb4
  have HB4 := Aside0.mk (below_step (below_alloc HB3.out _) hb4)
  have hs4 : w.heap.size < w4.heap.size := blk_lt BK4
  have hs5 : w3.heap.size < w4.heap.size := blk_lt GK4
  have HW : ∃ w5, w4.alloc (.cells #[.int .i64 0, .int .i64 0, .int .i64 0] 30) = w5 := ⟨_, rfl⟩
  have BK5 := Aside0.mk (blk_alloc BK4 (.cells #[.int .i64 0, .int .i64 0, .int .i64 0] 30))
  have GK5 := Aside0.mk (blk_alloc GK4 (.cells #[.int .i64 0, .int .i64 0, .int .i64 0] 30))
  have HK5 := Aside0.mk (blk_new w4 (.cells #[.int .i64 0, .int .i64 0, .int .i64 0] 30))
  have HB5 := Aside0.mk (below_alloc HB4.out (.cells #[.int .i64 0, .int .i64 0, .int .i64 0] 30))
  have HC5 := Aside0.mk (Kd.C_below HR.out HB5.out)
  clear hb4 BK3 HB3 z3 BK4 GK4 HB4
  have y0 : (w4.alloc (.cells #[.int .i64 0, .int .i64 0, .int .i64 0] 30)).cell? ⟨w.heap.size, 0, none⟩ = some (.slice A0 t.length c0) := blk_cell BK5.out 0
  have g0 : (w4.alloc (.cells #[.int .i64 0, .int .i64 0, .int .i64 0] 30)).cell? ⟨w3.heap.size, 0, none⟩ = some (.int .i64 p) := blk_cell GK5.out 0
  have g1 : (w4.alloc (.cells #[.int .i64 0, .int .i64 0, .int .i64 0] 30)).cell? ⟨w3.heap.size, 1, none⟩ = some (.int .i64 q1) := blk_cell GK5.out 1
  have g2 : (w4.alloc (.cells #[.int .i64 0, .int .i64 0, .int .i64 0] 30)).cell? ⟨w3.heap.size, 2, none⟩ = some (.int .i64 1) := blk_cell GK5.out 2
  have h0 : (w4.alloc (.cells #[.int .i64 0, .int .i64 0, .int .i64 0] 30)).cell? ⟨w4.heap.size, 0, none⟩ = some (.int .i64 0) := blk_cell HK5.out 0
  have h1 : (w4.alloc (.cells #[.int .i64 0, .int .i64 0, .int .i64 0] 30)).cell? ⟨w4.heap.size, 1, none⟩ = some (.int .i64 0) := blk_cell HK5.out 1
  have h2 : (w4.alloc (.cells #[.int .i64 0, .int .i64 0, .int .i64 0] 30)).cell? ⟨w4.heap.size, 2, none⟩ = some (.int .i64 0) := blk_cell HK5.out 2
  go_wp2_with fail
  go_loop [12] (fun i => ∃ j : Nat, i = .int .i64 (p + 1 + j) ∧ p + 1 + j ≤ q1) (fun i => (q1 - intOf i).toNat)
  case atStart => exact ⟨0, by simp, by omega⟩
  case round =>
    obtain ⟨j, rfl, hj⟩ := hrel
    by_cases hlt : p + 1 + (j : Int) < q1
    · go_wp2_with fail
      refine (dn_calls w.heap.size A0 c0 t (p + 1 + j) _ y0 HC5.out hc hb (by omega) (by omega)).mono ?_
      rintro e w6 ⟨rfl, rfl⟩
      rw [HD.out (p + 1 + j) (by omega) hlt]
      go_wp2
      go_round
      case rel => exact ⟨j + 1, by go_num, by omega⟩
      case measure => simp [intOf]; omega
    · go_wp2_with fail
      go_wp2
      go_ret
      exact ⟨rfl, HB5.out⟩

set_option maxHeartbeats 8000000 in
set_option maxRecDepth 100000 in
theorem stops_11 (A0 : Option Addr) (c0 : Nat) (t : List Int) (a p : Int) (w : World) (hr : Kd.C (Kd.int .u8) w A0 t.length t) (hc : t.length ≤ c0) (hb : t.length ≤ 1099511627776) (hB : Bytes t)
    (hp : quoinlaw10_place.f a (t.length + 1) = some p) (hp0 : 0 ≤ p) (hp1 : p ≤ t.length) (hpl : p < t.length) (q1 : Int) (hg1 : goes ⟨#[125]⟩ t 1 p = some q1) (hq1a : p < q1) (hq1b : q1 = t.length) (hd : ∀ i, p < i → i < q1 → dn t i = false) (hpz : 0 < p) (q2 : Int) (hg2 : goes ⟨#[123]⟩ t 1 p = some q2) (hq2a : q2 < p) (hq2b : q2 = 0) (hu : ∀ i, q2 < i → i < p → un t i = false) :
    Calls Try.prog 6 #[.slice A0 t.length c0, .int .i64 a] w fun e w' => e = .returned (.bool true) ∧ Below w.heap.size w w' := by
  obtain ⟨k1, hm1⟩ := (move_ev ⟨#[125]⟩ t hb hB p 1 hp0 hp1 (by omega) (by omega) (.inl kf125)).rounds
  obtain ⟨k2, hm2⟩ := (move_ev ⟨#[123]⟩ t hb hB p 1 hp0 hp1 (by omega) (by omega) (.inr kb123)).rounds
  rw [show (1 : Int).toNat = 1 from rfl] at hm1 hm2
  rw [hg1] at hm1
  clear hg1
  rw [hg2] at hm2
  clear hg2
  have HR := Aside0.mk hr
  have HP := Aside0.mk hp
  have HM1 := Aside0.mk hm1
  have HM2 := Aside0.mk hm2
  clear hr hp hm1 hm2
  have hu30 := Try.underlying30
  have tp : (p == (t.length : Int)) = false := beq_eq_false_iff_ne.mpr (by omega)
  have tz : (p == 0) = false := beq_eq_false_iff_ne.mpr (by omega)
  have HPL := Aside0.mk hpl
  have HD := Aside0.mk hd
  clear hd
  have u1 : decide (q1 ≤ p) = false := decide_eq_false (by omega)
  have u2 : decide ((t.length : Int) < q1) = false := decide_eq_false (by omega)
  have u3 : (q1 != (t.length : Int)) = false := bne_eq_false_iff_eq.mpr hq1b
  have hq1c : q1 ≤ t.length := by omega
  have HQ1 := Aside0.mk hq1b
  clear hq1b
  have HU := Aside0.mk hu
  clear hu
  have v1 : decide (p ≤ q2) = false := decide_eq_false (by omega)
  have v2 : decide (q2 < 0) = false := decide_eq_false (by omega)
  have v3 : (q2 != 0) = false := bne_eq_false_iff_eq.mpr hq2b
  have hq2c : 0 ≤ q2 := by omega
  have HQ2 := Aside0.mk hq2b
  clear hq2b
  go_enter Try.func6, Try.ntmps6
  go_wp2_with fail
  refine (awake _).mono ?_
  rintro e w1 ⟨rfl, hb1⟩
  have BK1 := Aside0.mk (blk_below (blk_new w (.cells #[.slice A0 t.length c0] 22)) hb1)
  have HB1 := Aside0.mk (below_step (below_alloc (Below.refl w.heap.size w) _) hb1)
  have z1 : w1.cell? ⟨w.heap.size, 0, none⟩ = some (.slice A0 t.length c0) := blk_cell BK1.out 0
  clear hb1
  go_wp2_with fail
  refine (quoinlaw10_place.calls a (t.length + 1) p _ HP.out).mono ?_
  rintro e w2 ⟨rfl, ⟨n2, rfl⟩⟩
  go_wp2_with fail
  refine (block_Move.calls k1 A0 c0 t p 1 _ p q1 1 0 _ (Kd.C_drewN (Kd.C_below HR.out HB1.out) n2) hc HM1.out).mono ?_
  rintro e w3 ⟨rfl, hb3⟩
  have BK3 := Aside0.mk (blk_below (blk_drewN BK1.out n2) hb3)
  have HB3 := Aside0.mk (below_step (pw_below_drewN HB1.out n2) hb3)
  have hs3 : w.heap.size < w3.heap.size := blk_lt BK3.out
  have z3 : ∀ o : Obj, (w3.alloc o).cell? ⟨w.heap.size, 0, none⟩ = some (.slice A0 t.length c0) := fun o => blk_cell (blk_alloc BK3.out o) 0
  clear hb3 BK1 HB1 z1
  go_wp2_with fail
  refine (block_Move.calls k2 A0 c0 t p 1 _ p q2 1 0 _ (Kd.C_alloc (Kd.C_below HR.out HB3.out) _) hc HM2.out).mono ?_
  rintro e w4 ⟨rfl, hb4⟩
  have BK4 := blk_below (blk_alloc BK3.out _) hb4
  have GK4 := blk_below (blk_new w3 (.cells #[.int .i64 p, .int .i64 q1, .int .i64 1] 30)) hb4
  have HB4 := Aside0.mk (below_step (below_alloc HB3.out _) hb4)
  have hs4 : w.heap.size < w4.heap.size := blk_lt BK4
  have hs5 : w3.heap.size < w4.heap.size := blk_lt GK4
  have HW : ∃ w5, w4.alloc (.cells #[.int .i64 p, .int .i64 q2, .int .i64 1] 30) = w5 := ⟨_, rfl⟩
  have BK5 := Aside0.mk (blk_alloc BK4 (.cells #[.int .i64 p, .int .i64 q2, .int .i64 1] 30))
  have GK5 := Aside0.mk (blk_alloc GK4 (.cells #[.int .i64 p, .int .i64 q2, .int .i64 1] 30))
  have HK5 := Aside0.mk (blk_new w4 (.cells #[.int .i64 p, .int .i64 q2, .int .i64 1] 30))
  have HB5 := Aside0.mk (below_alloc HB4.out (.cells #[.int .i64 p, .int .i64 q2, .int .i64 1] 30))
  have HC5 := Aside0.mk (Kd.C_below HR.out HB5.out)
  clear hb4 BK3 HB3 z3 BK4 GK4 HB4
  have y0 : (w4.alloc (.cells #[.int .i64 p, .int .i64 q2, .int .i64 1] 30)).cell? ⟨w.heap.size, 0, none⟩ = some (.slice A0 t.length c0) := blk_cell BK5.out 0
  have g0 : (w4.alloc (.cells #[.int .i64 p, .int .i64 q2, .int .i64 1] 30)).cell? ⟨w3.heap.size, 0, none⟩ = some (.int .i64 p) := blk_cell GK5.out 0
  have g1 : (w4.alloc (.cells #[.int .i64 p, .int .i64 q2, .int .i64 1] 30)).cell? ⟨w3.heap.size, 1, none⟩ = some (.int .i64 q1) := blk_cell GK5.out 1
  have g2 : (w4.alloc (.cells #[.int .i64 p, .int .i64 q2, .int .i64 1] 30)).cell? ⟨w3.heap.size, 2, none⟩ = some (.int .i64 1) := blk_cell GK5.out 2
  have h0 : (w4.alloc (.cells #[.int .i64 p, .int .i64 q2, .int .i64 1] 30)).cell? ⟨w4.heap.size, 0, none⟩ = some (.int .i64 p) := blk_cell HK5.out 0
  have h1 : (w4.alloc (.cells #[.int .i64 p, .int .i64 q2, .int .i64 1] 30)).cell? ⟨w4.heap.size, 1, none⟩ = some (.int .i64 q2) := blk_cell HK5.out 1
  have h2 : (w4.alloc (.cells #[.int .i64 p, .int .i64 q2, .int .i64 1] 30)).cell? ⟨w4.heap.size, 2, none⟩ = some (.int .i64 1) := blk_cell HK5.out 2
  go_wp2_with fail
  go_loop [12] (fun i => ∃ j : Nat, i = .int .i64 (p + 1 + j) ∧ p + 1 + j ≤ q1) (fun i => (q1 - intOf i).toNat)
  case atStart => exact ⟨0, by simp, by omega⟩
  case round =>
    obtain ⟨j, rfl, hj⟩ := hrel
    by_cases hlt : p + 1 + (j : Int) < q1
    · go_wp2_with fail
      refine (dn_calls w.heap.size A0 c0 t (p + 1 + j) _ y0 HC5.out hc hb (by omega) (by omega)).mono ?_
      rintro e w6 ⟨rfl, rfl⟩
      rw [HD.out (p + 1 + j) (by omega) hlt]
      go_wp2
      go_round
      case rel => exact ⟨j + 1, by go_num, by omega⟩
      case measure => simp [intOf]; omega
    · go_wp2_with fail
      go_wp2_with fail
      go_loop [13] (fun i => ∃ j : Nat, i = .int .i64 (q2 + 1 + j) ∧ q2 + 1 + j ≤ p) (fun i => (p - intOf i).toNat)
      case atStart => exact ⟨0, by simp, by omega⟩
      case round =>
        obtain ⟨j2, rfl, hj2⟩ := hrel
        by_cases hlt2 : q2 + 1 + (j2 : Int) < p
        · go_wp2_with fail
          refine (un_calls w.heap.size A0 c0 t (q2 + 1 + j2) _ y0 HC5.out hc hb (by omega) (by omega)).mono ?_
          rintro e w8 ⟨rfl, rfl⟩
          rw [HU.out (q2 + 1 + j2) (by omega) hlt2]
          go_wp2
          go_round
          case rel => exact ⟨j2 + 1, by go_num, by omega⟩
          case measure => simp [intOf]; omega
        · go_wp2
          go_ret
          exact ⟨rfl, HB5.out⟩

set_option maxHeartbeats 8000000 in
set_option maxRecDepth 100000 in
theorem stops_12 (A0 : Option Addr) (c0 : Nat) (t : List Int) (a p : Int) (w : World) (hr : Kd.C (Kd.int .u8) w A0 t.length t) (hc : t.length ≤ c0) (hb : t.length ≤ 1099511627776) (hB : Bytes t)
    (hp : quoinlaw10_place.f a (t.length + 1) = some p) (hp0 : 0 ≤ p) (hp1 : p ≤ t.length) (hpl : p < t.length) (q1 : Int) (hg1 : goes ⟨#[125]⟩ t 1 p = some q1) (hq1a : p < q1) (hq1b : q1 = t.length) (hd : ∀ i, p < i → i < q1 → dn t i = false) (hpz : 0 < p) (q2 : Int) (hg2 : goes ⟨#[123]⟩ t 1 p = some q2) (hq2a : q2 < p) (hq2b : 0 < q2) (hu1 : un t q2 = true) (hu : ∀ i, q2 < i → i < p → un t i = false) :
    Calls Try.prog 6 #[.slice A0 t.length c0, .int .i64 a] w fun e w' => e = .returned (.bool true) ∧ Below w.heap.size w w' := by
  obtain ⟨k1, hm1⟩ := (move_ev ⟨#[125]⟩ t hb hB p 1 hp0 hp1 (by omega) (by omega) (.inl kf125)).rounds
  obtain ⟨k2, hm2⟩ := (move_ev ⟨#[123]⟩ t hb hB p 1 hp0 hp1 (by omega) (by omega) (.inr kb123)).rounds
  rw [show (1 : Int).toNat = 1 from rfl] at hm1 hm2
  rw [hg1] at hm1
  clear hg1
  rw [hg2] at hm2
  clear hg2
  have HR := Aside0.mk hr
  have HP := Aside0.mk hp
  have HM1 := Aside0.mk hm1
  have HM2 := Aside0.mk hm2
  clear hr hp hm1 hm2
  have hu30 := Try.underlying30
  have tp : (p == (t.length : Int)) = false := beq_eq_false_iff_ne.mpr (by omega)
  have tz : (p == 0) = false := beq_eq_false_iff_ne.mpr (by omega)
  have HPL := Aside0.mk hpl
  have HD := Aside0.mk hd
  clear hd
  have u1 : decide (q1 ≤ p) = false := decide_eq_false (by omega)
  have u2 : decide ((t.length : Int) < q1) = false := decide_eq_false (by omega)
  have u3 : (q1 != (t.length : Int)) = false := bne_eq_false_iff_eq.mpr hq1b
  have hq1c : q1 ≤ t.length := by omega
  have HQ1 := Aside0.mk hq1b
  clear hq1b
  have HU := Aside0.mk hu
  clear hu
  have v1 : decide (p ≤ q2) = false := decide_eq_false (by omega)
  have v2 : decide (q2 < 0) = false := decide_eq_false (by omega)
  have v3 : (q2 != 0) = true := bne_iff_ne.mpr (by omega)
  have hq2c : 0 ≤ q2 := by omega
  have HU1 := Aside0.mk hu1
  clear hu1
  go_enter Try.func6, Try.ntmps6
  go_wp2_with fail
  refine (awake _).mono ?_
  rintro e w1 ⟨rfl, hb1⟩
  have BK1 := Aside0.mk (blk_below (blk_new w (.cells #[.slice A0 t.length c0] 22)) hb1)
  have HB1 := Aside0.mk (below_step (below_alloc (Below.refl w.heap.size w) _) hb1)
  have z1 : w1.cell? ⟨w.heap.size, 0, none⟩ = some (.slice A0 t.length c0) := blk_cell BK1.out 0
  clear hb1
  go_wp2_with fail
  refine (quoinlaw10_place.calls a (t.length + 1) p _ HP.out).mono ?_
  rintro e w2 ⟨rfl, ⟨n2, rfl⟩⟩
  go_wp2_with fail
  refine (block_Move.calls k1 A0 c0 t p 1 _ p q1 1 0 _ (Kd.C_drewN (Kd.C_below HR.out HB1.out) n2) hc HM1.out).mono ?_
  rintro e w3 ⟨rfl, hb3⟩
  have BK3 := Aside0.mk (blk_below (blk_drewN BK1.out n2) hb3)
  have HB3 := Aside0.mk (below_step (pw_below_drewN HB1.out n2) hb3)
  have hs3 : w.heap.size < w3.heap.size := blk_lt BK3.out
  have z3 : ∀ o : Obj, (w3.alloc o).cell? ⟨w.heap.size, 0, none⟩ = some (.slice A0 t.length c0) := fun o => blk_cell (blk_alloc BK3.out o) 0
  clear hb3 BK1 HB1 z1
  go_wp2_with fail
  refine (block_Move.calls k2 A0 c0 t p 1 _ p q2 1 0 _ (Kd.C_alloc (Kd.C_below HR.out HB3.out) _) hc HM2.out).mono ?_
  rintro e w4 ⟨rfl, hb4⟩
  have BK4 := blk_below (blk_alloc BK3.out _) hb4
  have GK4 := blk_below (blk_new w3 (.cells #[.int .i64 p, .int .i64 q1, .int .i64 1] 30)) hb4
  have HB4 := Aside0.mk (below_step (below_alloc HB3.out _) hb4)
  have hs4 : w.heap.size < w4.heap.size := blk_lt BK4
  have hs5 : w3.heap.size < w4.heap.size := blk_lt GK4
  have HW : ∃ w5, w4.alloc (.cells #[.int .i64 p, .int .i64 q2, .int .i64 1] 30) = w5 := ⟨_, rfl⟩
  have BK5 := Aside0.mk (blk_alloc BK4 (.cells #[.int .i64 p, .int .i64 q2, .int .i64 1] 30))
  have GK5 := Aside0.mk (blk_alloc GK4 (.cells #[.int .i64 p, .int .i64 q2, .int .i64 1] 30))
  have HK5 := Aside0.mk (blk_new w4 (.cells #[.int .i64 p, .int .i64 q2, .int .i64 1] 30))
  have HB5 := Aside0.mk (below_alloc HB4.out (.cells #[.int .i64 p, .int .i64 q2, .int .i64 1] 30))
  have HC5 := Aside0.mk (Kd.C_below HR.out HB5.out)
  clear hb4 BK3 HB3 z3 BK4 GK4 HB4
  have y0 : (w4.alloc (.cells #[.int .i64 p, .int .i64 q2, .int .i64 1] 30)).cell? ⟨w.heap.size, 0, none⟩ = some (.slice A0 t.length c0) := blk_cell BK5.out 0
  have g0 : (w4.alloc (.cells #[.int .i64 p, .int .i64 q2, .int .i64 1] 30)).cell? ⟨w3.heap.size, 0, none⟩ = some (.int .i64 p) := blk_cell GK5.out 0
  have g1 : (w4.alloc (.cells #[.int .i64 p, .int .i64 q2, .int .i64 1] 30)).cell? ⟨w3.heap.size, 1, none⟩ = some (.int .i64 q1) := blk_cell GK5.out 1
  have g2 : (w4.alloc (.cells #[.int .i64 p, .int .i64 q2, .int .i64 1] 30)).cell? ⟨w3.heap.size, 2, none⟩ = some (.int .i64 1) := blk_cell GK5.out 2
  have h0 : (w4.alloc (.cells #[.int .i64 p, .int .i64 q2, .int .i64 1] 30)).cell? ⟨w4.heap.size, 0, none⟩ = some (.int .i64 p) := blk_cell HK5.out 0
  have h1 : (w4.alloc (.cells #[.int .i64 p, .int .i64 q2, .int .i64 1] 30)).cell? ⟨w4.heap.size, 1, none⟩ = some (.int .i64 q2) := blk_cell HK5.out 1
  have h2 : (w4.alloc (.cells #[.int .i64 p, .int .i64 q2, .int .i64 1] 30)).cell? ⟨w4.heap.size, 2, none⟩ = some (.int .i64 1) := blk_cell HK5.out 2
  go_wp2_with fail
  go_loop [12] (fun i => ∃ j : Nat, i = .int .i64 (p + 1 + j) ∧ p + 1 + j ≤ q1) (fun i => (q1 - intOf i).toNat)
  case atStart => exact ⟨0, by simp, by omega⟩
  case round =>
    obtain ⟨j, rfl, hj⟩ := hrel
    by_cases hlt : p + 1 + (j : Int) < q1
    · go_wp2_with fail
      refine (dn_calls w.heap.size A0 c0 t (p + 1 + j) _ y0 HC5.out hc hb (by omega) (by omega)).mono ?_
      rintro e w6 ⟨rfl, rfl⟩
      rw [HD.out (p + 1 + j) (by omega) hlt]
      go_wp2
      go_round
      case rel => exact ⟨j + 1, by go_num, by omega⟩
      case measure => simp [intOf]; omega
    · go_wp2_with fail
      go_wp2_with fail
      refine (un_calls w.heap.size A0 c0 t q2 _ y0 HC5.out hc hb (by omega) (by omega)).mono ?_
      rintro e w7 ⟨rfl, rfl⟩
      rw [HU1.out]
      go_wp2_with fail
      go_loop [13] (fun i => ∃ j : Nat, i = .int .i64 (q2 + 1 + j) ∧ q2 + 1 + j ≤ p) (fun i => (p - intOf i).toNat)
      case atStart => exact ⟨0, by simp, by omega⟩
      case round =>
        obtain ⟨j2, rfl, hj2⟩ := hrel
        by_cases hlt2 : q2 + 1 + (j2 : Int) < p
        · go_wp2_with fail
          refine (un_calls w.heap.size A0 c0 t (q2 + 1 + j2) _ y0 HC5.out hc hb (by omega) (by omega)).mono ?_
          rintro e w8 ⟨rfl, rfl⟩
          rw [HU.out (q2 + 1 + j2) (by omega) hlt2]
          go_wp2
          go_round
          case rel => exact ⟨j2 + 1, by go_num, by omega⟩
          case measure => simp [intOf]; omega
        · go_wp2
          go_ret
          exact ⟨rfl, HB5.out⟩

set_option maxHeartbeats 8000000 in
set_option maxRecDepth 100000 in
theorem stops_20 (A0 : Option Addr) (c0 : Nat) (t : List Int) (a p : Int) (w : World) (hr : Kd.C (Kd.int .u8) w A0 t.length t) (hc : t.length ≤ c0) (hb : t.length ≤ 1099511627776) (hB : Bytes t)
    (hp : quoinlaw10_place.f a (t.length + 1) = some p) (hp0 : 0 ≤ p) (hp1 : p ≤ t.length) (hpl : p < t.length) (q1 : Int) (hg1 : goes ⟨#[125]⟩ t 1 p = some q1) (hq1a : p < q1) (hq1b : q1 < t.length) (hd1 : dn t q1 = true) (hd : ∀ i, p < i → i < q1 → dn t i = false) (hpz : p = 0) :
    Calls Try.prog 6 #[.slice A0 t.length c0, .int .i64 a] w fun e w' => e = .returned (.bool true) ∧ Below w.heap.size w w' := by
  obtain ⟨k1, hm1⟩ := (move_ev ⟨#[125]⟩ t hb hB p 1 hp0 hp1 (by omega) (by omega) (.inl kf125)).rounds
  obtain ⟨k2, hm2⟩ := (move_ev ⟨#[123]⟩ t hb hB p 1 hp0 hp1 (by omega) (by omega) (.inr kb123)).rounds
  rw [show (1 : Int).toNat = 1 from rfl] at hm1 hm2
  rw [hg1] at hm1
  clear hg1
  rw [goes_un, if_pos hpz] at hm2
  have HR := Aside0.mk hr
  have HP := Aside0.mk hp
  have HM1 := Aside0.mk hm1
  have HM2 := Aside0.mk hm2
  clear hr hp hm1 hm2
  have hu30 := Try.underlying30
  have tp : (p == (t.length : Int)) = false := beq_eq_false_iff_ne.mpr (by omega)
  have tz : (p == 0) = true := beq_iff_eq.mpr hpz
  have HPL := Aside0.mk hpl
  have HPZ := Aside0.mk hpz
  clear hpz
  have HD := Aside0.mk hd
  clear hd
  have u1 : decide (q1 ≤ p) = false := decide_eq_false (by omega)
  have u2 : decide ((t.length : Int) < q1) = false := decide_eq_false (by omega)
  have u3 : (q1 != (t.length : Int)) = true := bne_iff_ne.mpr (by omega)
  have hq1c : q1 ≤ t.length := by omega
  have HD1 := Aside0.mk hd1
  clear hd1
  go_enter Try.func6, Try.ntmps6
  go_wp2_with fail
  refine (awake _).mono ?_
  rintro e w1 ⟨rfl, hb1⟩
  have BK1 := Aside0.mk (blk_below (blk_new w (.cells #[.slice A0 t.length c0] 22)) hb1)
  have HB1 := Aside0.mk (below_step (below_alloc (Below.refl w.heap.size w) _) hb1)
  have z1 : w1.cell? ⟨w.heap.size, 0, none⟩ = some (.slice A0 t.length c0) := blk_cell BK1.out 0
  clear hb1
  go_wp2_with fail
  refine (quoinlaw10_place.calls a (t.length + 1) p _ HP.out).mono ?_
  rintro e w2 ⟨rfl, ⟨n2, rfl⟩⟩
  go_wp2_with fail
  refine (block_Move.calls k1 A0 c0 t p 1 _ p q1 1 0 _ (Kd.C_drewN (Kd.C_below HR.out HB1.out) n2) hc HM1.out).mono ?_
  rintro e w3 ⟨rfl, hb3⟩
  have BK3 := Aside0.mk (blk_below (blk_drewN BK1.out n2) hb3)
  have HB3 := Aside0.mk (below_step (pw_below_drewN HB1.out n2) hb3)
  have hs3 : w.heap.size < w3.heap.size := blk_lt BK3.out
  have z3 : ∀ o : Obj, (w3.alloc o).cell? ⟨w.heap.size, 0, none⟩ = some (.slice A0 t.length c0) := fun o => blk_cell (blk_alloc BK3.out o) 0
  clear hb3 BK1 HB1 z1
  go_wp2_with fail
  refine (block_Move.calls k2 A0 c0 t p 1 _ 0 0 0 70 _ (Kd.C_alloc (Kd.C_below HR.out HB3.out) _) hc HM2.out).mono ?_
  rintro e w4 ⟨rfl, hb4⟩
  have BK4 := blk_below (blk_alloc BK3.out _) hb4
  have GK4 := blk_below (blk_new w3 (.cells #[.int .i64 p, .int .i64 q1, .int .i64 1] 30)) hb4
  have HB4 := Aside0.mk (below_step (below_alloc HB3.out _) hb4)
  have hs4 : w.heap.size < w4.heap.size := blk_lt BK4
  have hs5 : w3.heap.size < w4.heap.size := blk_lt GK4
  have HW : ∃ w5, w4.alloc (.cells #[.int .i64 0, .int .i64 0, .int .i64 0] 30) = w5 := ⟨_, rfl⟩
  have BK5 := Aside0.mk (blk_alloc BK4 (.cells #[.int .i64 0, .int .i64 0, .int .i64 0] 30))
  have GK5 := Aside0.mk (blk_alloc GK4 (.cells #[.int .i64 0, .int .i64 0, .int .i64 0] 30))
  have HK5 := Aside0.mk (blk_new w4 (.cells #[.int .i64 0, .int .i64 0, .int .i64 0] 30))
  have HB5 := Aside0.mk (below_alloc HB4.out (.cells #[.int .i64 0, .int .i64 0, .int .i64 0] 30))
  have HC5 := Aside0.mk (Kd.C_below HR.out HB5.out)
  clear hb4 BK3 HB3 z3 BK4 GK4 HB4
  have y0 : (w4.alloc (.cells #[.int .i64 0, .int .i64 0, .int .i64 0] 30)).cell? ⟨w.heap.size, 0, none⟩ = some (.slice A0 t.length c0) := blk_cell BK5.out 0
  have g0 : (w4.alloc (.cells #[.int .i64 0, .int .i64 0, .int .i64 0] 30)).cell? ⟨w3.heap.size, 0, none⟩ = some (.int .i64 p) := blk_cell GK5.out 0
  have g1 : (w4.alloc (.cells #[.int .i64 0, .int .i64 0, .int .i64 0] 30)).cell? ⟨w3.heap.size, 1, none⟩ = some (.int .i64 q1) := blk_cell GK5.out 1
  have g2 : (w4.alloc (.cells #[.int .i64 0, .int .i64 0, .int .i64 0] 30)).cell? ⟨w3.heap.size, 2, none⟩ = some (.int .i64 1) := blk_cell GK5.out 2
  have h0 : (w4.alloc (.cells #[.int .i64 0, .int .i64 0, .int .i64 0] 30)).cell? ⟨w4.heap.size, 0, none⟩ = some (.int .i64 0) := blk_cell HK5.out 0
  have h1 : (w4.alloc (.cells #[.int .i64 0, .int .i64 0, .int .i64 0] 30)).cell? ⟨w4.heap.size, 1, none⟩ = some (.int .i64 0) := blk_cell HK5.out 1
  have h2 : (w4.alloc (.cells #[.int .i64 0, .int .i64 0, .int .i64 0] 30)).cell? ⟨w4.heap.size, 2, none⟩ = some (.int .i64 0) := blk_cell HK5.out 2
  go_wp2_with fail
  refine (dn_calls w.heap.size A0 c0 t q1 _ y0 HC5.out hc hb (by omega) (by omega)).mono ?_
  rintro e w6 ⟨rfl, rfl⟩
  rw [HD1.out]
  go_wp2_with fail
  go_loop [12] (fun i => ∃ j : Nat, i = .int .i64 (p + 1 + j) ∧ p + 1 + j ≤ q1) (fun i => (q1 - intOf i).toNat)
  case atStart => exact ⟨0, by simp, by omega⟩
  case round =>
    obtain ⟨j, rfl, hj⟩ := hrel
    by_cases hlt : p + 1 + (j : Int) < q1
    · go_wp2_with fail
      refine (dn_calls w.heap.size A0 c0 t (p + 1 + j) _ y0 HC5.out hc hb (by omega) (by omega)).mono ?_
      rintro e w6 ⟨rfl, rfl⟩
      rw [HD.out (p + 1 + j) (by omega) hlt]
      go_wp2
      go_round
      case rel => exact ⟨j + 1, by go_num, by omega⟩
      case measure => simp [intOf]; omega
    · go_wp2_with fail
      go_wp2
      go_ret
      exact ⟨rfl, HB5.out⟩

set_option maxHeartbeats 8000000 in
set_option maxRecDepth 100000 in
theorem stops_21 (A0 : Option Addr) (c0 : Nat) (t : List Int) (a p : Int) (w : World) (hr : Kd.C (Kd.int .u8) w A0 t.length t) (hc : t.length ≤ c0) (hb : t.length ≤ 1099511627776) (hB : Bytes t)
    (hp : quoinlaw10_place.f a (t.length + 1) = some p) (hp0 : 0 ≤ p) (hp1 : p ≤ t.length) (hpl : p < t.length) (q1 : Int) (hg1 : goes ⟨#[125]⟩ t 1 p = some q1) (hq1a : p < q1) (hq1b : q1 < t.length) (hd1 : dn t q1 = true) (hd : ∀ i, p < i → i < q1 → dn t i = false) (hpz : 0 < p) (q2 : Int) (hg2 : goes ⟨#[123]⟩ t 1 p = some q2) (hq2a : q2 < p) (hq2b : q2 = 0) (hu : ∀ i, q2 < i → i < p → un t i = false) :
    Calls Try.prog 6 #[.slice A0 t.length c0, .int .i64 a] w fun e w' => e = .returned (.bool true) ∧ Below w.heap.size w w' := by
  obtain ⟨k1, hm1⟩ := (move_ev ⟨#[125]⟩ t hb hB p 1 hp0 hp1 (by omega) (by omega) (.inl kf125)).rounds
  obtain ⟨k2, hm2⟩ := (move_ev ⟨#[123]⟩ t hb hB p 1 hp0 hp1 (by omega) (by omega) (.inr kb123)).rounds
  rw [show (1 : Int).toNat = 1 from rfl] at hm1 hm2
  rw [hg1] at hm1
  clear hg1
  rw [hg2] at hm2
  clear hg2
  have HR := Aside0.mk hr
  have HP := Aside0.mk hp
  have HM1 := Aside0.mk hm1
  have HM2 := Aside0.mk hm2
  clear hr hp hm1 hm2
  have hu30 := Try.underlying30
  have tp : (p == (t.length : Int)) = false := beq_eq_false_iff_ne.mpr (by omega)
  have tz : (p == 0) = false := beq_eq_false_iff_ne.mpr (by omega)
  have HPL := Aside0.mk hpl
  have HD := Aside0.mk hd
  clear hd
  have u1 : decide (q1 ≤ p) = false := decide_eq_false (by omega)
  have u2 : decide ((t.length : Int) < q1) = false := decide_eq_false (by omega)
  have u3 : (q1 != (t.length : Int)) = true := bne_iff_ne.mpr (by omega)
  have hq1c : q1 ≤ t.length := by omega
  have HD1 := Aside0.mk hd1
  clear hd1
  have HU := Aside0.mk hu
  clear hu
  have v1 : decide (p ≤ q2) = false := decide_eq_false (by omega)
  have v2 : decide (q2 < 0) = false := decide_eq_false (by omega)
  have v3 : (q2 != 0) = false := bne_eq_false_iff_eq.mpr hq2b
  have hq2c : 0 ≤ q2 := by omega
  have HQ2 := Aside0.mk hq2b
  clear hq2b
  go_enter Try.func6, Try.ntmps6
  go_wp2_with fail
  refine (awake _).mono ?_
  rintro e w1 ⟨rfl, hb1⟩
  have BK1 := Aside0.mk (blk_below (blk_new w (.cells #[.slice A0 t.length c0] 22)) hb1)
  have HB1 := Aside0.mk (below_step (below_alloc (Below.refl w.heap.size w) _) hb1)
  have z1 : w1.cell? ⟨w.heap.size, 0, none⟩ = some (.slice A0 t.length c0) := blk_cell BK1.out 0
  clear hb1
  go_wp2_with fail
  refine (quoinlaw10_place.calls a (t.length + 1) p _ HP.out).mono ?_
  rintro e w2 ⟨rfl, ⟨n2, rfl⟩⟩
  go_wp2_with fail
  refine (block_Move.calls k1 A0 c0 t p 1 _ p q1 1 0 _ (Kd.C_drewN (Kd.C_below HR.out HB1.out) n2) hc HM1.out).mono ?_
  rintro e w3 ⟨rfl, hb3⟩
  have BK3 := Aside0.mk (blk_below (blk_drewN BK1.out n2) hb3)
  have HB3 := Aside0.mk (below_step (pw_below_drewN HB1.out n2) hb3)
  have hs3 : w.heap.size < w3.heap.size := blk_lt BK3.out
  have z3 : ∀ o : Obj, (w3.alloc o).cell? ⟨w.heap.size, 0, none⟩ = some (.slice A0 t.length c0) := fun o => blk_cell (blk_alloc BK3.out o) 0
  clear hb3 BK1 HB1 z1
  go_wp2_with fail
  refine (block_Move.calls k2 A0 c0 t p 1 _ p q2 1 0 _ (Kd.C_alloc (Kd.C_below HR.out HB3.out) _) hc HM2.out).mono ?_
  rintro e w4 ⟨rfl, hb4⟩
  have BK4 := blk_below (blk_alloc BK3.out _) hb4
  have GK4 := blk_below (blk_new w3 (.cells #[.int .i64 p, .int .i64 q1, .int .i64 1] 30)) hb4
  have HB4 := Aside0.mk (below_step (below_alloc HB3.out _) hb4)
  have hs4 : w.heap.size < w4.heap.size := blk_lt BK4
  have hs5 : w3.heap.size < w4.heap.size := blk_lt GK4
  have HW : ∃ w5, w4.alloc (.cells #[.int .i64 p, .int .i64 q2, .int .i64 1] 30) = w5 := ⟨_, rfl⟩
  have BK5 := Aside0.mk (blk_alloc BK4 (.cells #[.int .i64 p, .int .i64 q2, .int .i64 1] 30))
  have GK5 := Aside0.mk (blk_alloc GK4 (.cells #[.int .i64 p, .int .i64 q2, .int .i64 1] 30))
  have HK5 := Aside0.mk (blk_new w4 (.cells #[.int .i64 p, .int .i64 q2, .int .i64 1] 30))
  have HB5 := Aside0.mk (below_alloc HB4.out (.cells #[.int .i64 p, .int .i64 q2, .int .i64 1] 30))
  have HC5 := Aside0.mk (Kd.C_below HR.out HB5.out)
  clear hb4 BK3 HB3 z3 BK4 GK4 HB4
  have y0 : (w4.alloc (.cells #[.int .i64 p, .int .i64 q2, .int .i64 1] 30)).cell? ⟨w.heap.size, 0, none⟩ = some (.slice A0 t.length c0) := blk_cell BK5.out 0
  have g0 : (w4.alloc (.cells #[.int .i64 p, .int .i64 q2, .int .i64 1] 30)).cell? ⟨w3.heap.size, 0, none⟩ = some (.int .i64 p) := blk_cell GK5.out 0
  have g1 : (w4.alloc (.cells #[.int .i64 p, .int .i64 q2, .int .i64 1] 30)).cell? ⟨w3.heap.size, 1, none⟩ = some (.int .i64 q1) := blk_cell GK5.out 1
  have g2 : (w4.alloc (.cells #[.int .i64 p, .int .i64 q2, .int .i64 1] 30)).cell? ⟨w3.heap.size, 2, none⟩ = some (.int .i64 1) := blk_cell GK5.out 2
  have h0 : (w4.alloc (.cells #[.int .i64 p, .int .i64 q2, .int .i64 1] 30)).cell? ⟨w4.heap.size, 0, none⟩ = some (.int .i64 p) := blk_cell HK5.out 0
  have h1 : (w4.alloc (.cells #[.int .i64 p, .int .i64 q2, .int .i64 1] 30)).cell? ⟨w4.heap.size, 1, none⟩ = some (.int .i64 q2) := blk_cell HK5.out 1
  have h2 : (w4.alloc (.cells #[.int .i64 p, .int .i64 q2, .int .i64 1] 30)).cell? ⟨w4.heap.size, 2, none⟩ = some (.int .i64 1) := blk_cell HK5.out 2
  go_wp2_with fail
  refine (dn_calls w.heap.size A0 c0 t q1 _ y0 HC5.out hc hb (by omega) (by omega)).mono ?_
  rintro e w6 ⟨rfl, rfl⟩
  rw [HD1.out]
  go_wp2_with fail
  go_loop [12] (fun i => ∃ j : Nat, i = .int .i64 (p + 1 + j) ∧ p + 1 + j ≤ q1) (fun i => (q1 - intOf i).toNat)
  case atStart => exact ⟨0, by simp, by omega⟩
  case round =>
    obtain ⟨j, rfl, hj⟩ := hrel
    by_cases hlt : p + 1 + (j : Int) < q1
    · go_wp2_with fail
      refine (dn_calls w.heap.size A0 c0 t (p + 1 + j) _ y0 HC5.out hc hb (by omega) (by omega)).mono ?_
      rintro e w6 ⟨rfl, rfl⟩
      rw [HD.out (p + 1 + j) (by omega) hlt]
      go_wp2
      go_round
      case rel => exact ⟨j + 1, by go_num, by omega⟩
      case measure => simp [intOf]; omega
    · go_wp2_with fail
      go_wp2_with fail
      go_loop [13] (fun i => ∃ j : Nat, i = .int .i64 (q2 + 1 + j) ∧ q2 + 1 + j ≤ p) (fun i => (p - intOf i).toNat)
      case atStart => exact ⟨0, by simp, by omega⟩
      case round =>
        obtain ⟨j2, rfl, hj2⟩ := hrel
        by_cases hlt2 : q2 + 1 + (j2 : Int) < p
        · go_wp2_with fail
          refine (un_calls w.heap.size A0 c0 t (q2 + 1 + j2) _ y0 HC5.out hc hb (by omega) (by omega)).mono ?_
          rintro e w8 ⟨rfl, rfl⟩
          rw [HU.out (q2 + 1 + j2) (by omega) hlt2]
          go_wp2
          go_round
          case rel => exact ⟨j2 + 1, by go_num, by omega⟩
          case measure => simp [intOf]; omega
        · go_wp2
          go_ret
          exact ⟨rfl, HB5.out⟩

set_option maxHeartbeats 8000000 in
set_option maxRecDepth 100000 in
theorem stops_22 (A0 : Option Addr) (c0 : Nat) (t : List Int) (a p : Int) (w : World) (hr : Kd.C (Kd.int .u8) w A0 t.length t) (hc : t.length ≤ c0) (hb : t.length ≤ 1099511627776) (hB : Bytes t)
    (hp : quoinlaw10_place.f a (t.length + 1) = some p) (hp0 : 0 ≤ p) (hp1 : p ≤ t.length) (hpl : p < t.length) (q1 : Int) (hg1 : goes ⟨#[125]⟩ t 1 p = some q1) (hq1a : p < q1) (hq1b : q1 < t.length) (hd1 : dn t q1 = true) (hd : ∀ i, p < i → i < q1 → dn t i = false) (hpz : 0 < p) (q2 : Int) (hg2 : goes ⟨#[123]⟩ t 1 p = some q2) (hq2a : q2 < p) (hq2b : 0 < q2) (hu1 : un t q2 = true) (hu : ∀ i, q2 < i → i < p → un t i = false) :
    Calls Try.prog 6 #[.slice A0 t.length c0, .int .i64 a] w fun e w' => e = .returned (.bool true) ∧ Below w.heap.size w w' := by
  obtain ⟨k1, hm1⟩ := (move_ev ⟨#[125]⟩ t hb hB p 1 hp0 hp1 (by omega) (by omega) (.inl kf125)).rounds
  obtain ⟨k2, hm2⟩ := (move_ev ⟨#[123]⟩ t hb hB p 1 hp0 hp1 (by omega) (by omega) (.inr kb123)).rounds
  rw [show (1 : Int).toNat = 1 from rfl] at hm1 hm2
  rw [hg1] at hm1
  clear hg1
  rw [hg2] at hm2
  clear hg2
  have HR := Aside0.mk hr
  have HP := Aside0.mk hp
  have HM1 := Aside0.mk hm1
  have HM2 := Aside0.mk hm2
  clear hr hp hm1 hm2
  have hu30 := Try.underlying30
  have tp : (p == (t.length : Int)) = false := beq_eq_false_iff_ne.mpr (by omega)
  have tz : (p == 0) = false := beq_eq_false_iff_ne.mpr (by omega)
  have HPL := Aside0.mk hpl
  have HD := Aside0.mk hd
  clear hd
  have u1 : decide (q1 ≤ p) = false := decide_eq_false (by omega)
  have u2 : decide ((t.length : Int) < q1) = false := decide_eq_false (by omega)
  have u3 : (q1 != (t.length : Int)) = true := bne_iff_ne.mpr (by omega)
  have hq1c : q1 ≤ t.length := by omega
  have HD1 := Aside0.mk hd1
  clear hd1
  have HU := Aside0.mk hu
  clear hu
  have v1 : decide (p ≤ q2) = false := decide_eq_false (by omega)
  have v2 : decide (q2 < 0) = false := decide_eq_false (by omega)
  have v3 : (q2 != 0) = true := bne_iff_ne.mpr (by omega)
  have hq2c : 0 ≤ q2 := by omega
  have HU1 := Aside0.mk hu1
  clear hu1
  go_enter Try.func6, Try.ntmps6
  go_wp2_with fail
  refine (awake _).mono ?_
  rintro e w1 ⟨rfl, hb1⟩
  have BK1 := Aside0.mk (blk_below (blk_new w (.cells #[.slice A0 t.length c0] 22)) hb1)
  have HB1 := Aside0.mk (below_step (below_alloc (Below.refl w.heap.size w) _) hb1)
  have z1 : w1.cell? ⟨w.heap.size, 0, none⟩ = some (.slice A0 t.length c0) := blk_cell BK1.out 0
  clear hb1
  go_wp2_with fail
  refine (quoinlaw10_place.calls a (t.length + 1) p _ HP.out).mono ?_
  rintro e w2 ⟨rfl, ⟨n2, rfl⟩⟩
  go_wp2_with fail
  refine (block_Move.calls k1 A0 c0 t p 1 _ p q1 1 0 _ (Kd.C_drewN (Kd.C_below HR.out HB1.out) n2) hc HM1.out).mono ?_
  rintro e w3 ⟨rfl, hb3⟩
  have BK3 := Aside0.mk (blk_below (blk_drewN BK1.out n2) hb3)
  have HB3 := Aside0.mk (below_step (pw_below_drewN HB1.out n2) hb3)
  have hs3 : w.heap.size < w3.heap.size := blk_lt BK3.out
  have z3 : ∀ o : Obj, (w3.alloc o).cell? ⟨w.heap.size, 0, none⟩ = some (.slice A0 t.length c0) := fun o => blk_cell (blk_alloc BK3.out o) 0
  clear hb3 BK1 HB1 z1
  go_wp2_with fail
  refine (block_Move.calls k2 A0 c0 t p 1 _ p q2 1 0 _ (Kd.C_alloc (Kd.C_below HR.out HB3.out) _) hc HM2.out).mono ?_
  rintro e w4 ⟨rfl, hb4⟩
  have BK4 := blk_below (blk_alloc BK3.out _) hb4
  have GK4 := blk_below (blk_new w3 (.cells #[.int .i64 p, .int .i64 q1, .int .i64 1] 30)) hb4
  have HB4 := Aside0.mk (below_step (below_alloc HB3.out _) hb4)
  have hs4 : w.heap.size < w4.heap.size := blk_lt BK4
  have hs5 : w3.heap.size < w4.heap.size := blk_lt GK4
  have HW : ∃ w5, w4.alloc (.cells #[.int .i64 p, .int .i64 q2, .int .i64 1] 30) = w5 := ⟨_, rfl⟩
  have BK5 := Aside0.mk (blk_alloc BK4 (.cells #[.int .i64 p, .int .i64 q2, .int .i64 1] 30))
  have GK5 := Aside0.mk (blk_alloc GK4 (.cells #[.int .i64 p, .int .i64 q2, .int .i64 1] 30))
  have HK5 := Aside0.mk (blk_new w4 (.cells #[.int .i64 p, .int .i64 q2, .int .i64 1] 30))
  have HB5 := Aside0.mk (below_alloc HB4.out (.cells #[.int .i64 p, .int .i64 q2, .int .i64 1] 30))
  have HC5 := Aside0.mk (Kd.C_below HR.out HB5.out)
  clear hb4 BK3 HB3 z3 BK4 GK4 HB4
  have y0 : (w4.alloc (.cells #[.int .i64 p, .int .i64 q2, .int .i64 1] 30)).cell? ⟨w.heap.size, 0, none⟩ = some (.slice A0 t.length c0) := blk_cell BK5.out 0
  have g0 : (w4.alloc (.cells #[.int .i64 p, .int .i64 q2, .int .i64 1] 30)).cell? ⟨w3.heap.size, 0, none⟩ = some (.int .i64 p) := blk_cell GK5.out 0
  have g1 : (w4.alloc (.cells #[.int .i64 p, .int .i64 q2, .int .i64 1] 30)).cell? ⟨w3.heap.size, 1, none⟩ = some (.int .i64 q1) := blk_cell GK5.out 1
  have g2 : (w4.alloc (.cells #[.int .i64 p, .int .i64 q2, .int .i64 1] 30)).cell? ⟨w3.heap.size, 2, none⟩ = some (.int .i64 1) := blk_cell GK5.out 2
  have h0 : (w4.alloc (.cells #[.int .i64 p, .int .i64 q2, .int .i64 1] 30)).cell? ⟨w4.heap.size, 0, none⟩ = some (.int .i64 p) := blk_cell HK5.out 0
  have h1 : (w4.alloc (.cells #[.int .i64 p, .int .i64 q2, .int .i64 1] 30)).cell? ⟨w4.heap.size, 1, none⟩ = some (.int .i64 q2) := blk_cell HK5.out 1
  have h2 : (w4.alloc (.cells #[.int .i64 p, .int .i64 q2, .int .i64 1] 30)).cell? ⟨w4.heap.size, 2, none⟩ = some (.int .i64 1) := blk_cell HK5.out 2
  go_wp2_with fail
  refine (dn_calls w.heap.size A0 c0 t q1 _ y0 HC5.out hc hb (by omega) (by omega)).mono ?_
  rintro e w6 ⟨rfl, rfl⟩
  rw [HD1.out]
  go_wp2_with fail
  go_loop [12] (fun i => ∃ j : Nat, i = .int .i64 (p + 1 + j) ∧ p + 1 + j ≤ q1) (fun i => (q1 - intOf i).toNat)
  case atStart => exact ⟨0, by simp, by omega⟩
  case round =>
    obtain ⟨j, rfl, hj⟩ := hrel
    by_cases hlt : p + 1 + (j : Int) < q1
    · go_wp2_with fail
      refine (dn_calls w.heap.size A0 c0 t (p + 1 + j) _ y0 HC5.out hc hb (by omega) (by omega)).mono ?_
      rintro e w6 ⟨rfl, rfl⟩
      rw [HD.out (p + 1 + j) (by omega) hlt]
      go_wp2
      go_round
      case rel => exact ⟨j + 1, by go_num, by omega⟩
      case measure => simp [intOf]; omega
    · go_wp2_with fail
      go_wp2_with fail
      refine (un_calls w.heap.size A0 c0 t q2 _ y0 HC5.out hc hb (by omega) (by omega)).mono ?_
      rintro e w7 ⟨rfl, rfl⟩
      rw [HU1.out]
      go_wp2_with fail
      go_loop [13] (fun i => ∃ j : Nat, i = .int .i64 (q2 + 1 + j) ∧ q2 + 1 + j ≤ p) (fun i => (p - intOf i).toNat)
      case atStart => exact ⟨0, by simp, by omega⟩
      case round =>
        obtain ⟨j2, rfl, hj2⟩ := hrel
        by_cases hlt2 : q2 + 1 + (j2 : Int) < p
        · go_wp2_with fail
          refine (un_calls w.heap.size A0 c0 t (q2 + 1 + j2) _ y0 HC5.out hc hb (by omega) (by omega)).mono ?_
          rintro e w8 ⟨rfl, rfl⟩
          rw [HU.out (q2 + 1 + j2) (by omega) hlt2]
          go_wp2
          go_round
          case rel => exact ⟨j2 + 1, by go_num, by omega⟩
          case measure => simp [intOf]; omega
        · go_wp2
          go_ret
          exact ⟨rfl, HB5.out⟩

theorem stops_all (A0 : Option Addr) (c0 : Nat) (t : List Int) (a : Int) (w : World) (hr : Kd.C (Kd.int .u8) w A0 t.length t) (hc : t.length ≤ c0) (hb : t.length ≤ 1099511627776) (hB : Bytes t)
    (ha : -9223372036854775808 ≤ a) (ha' : a ≤ 9223372036854775807) :
    Calls Try.prog 6 #[.slice A0 t.length c0, .int .i64 a] w fun e w' => e = .returned (.bool true) ∧ Below w.heap.size w w' := by
  obtain ⟨p, hp, hp0, hp1⟩ := place_eq a (t.length + 1) (by omega) (by omega) ha ha'
  by_cases h1 : p = t.length
  · by_cases h2 : p = 0
    · exact stops_00 A0 c0 t a p w hr hc hb hB hp hp0 (by omega) h1 h2
    · obtain ⟨q2, g2, l2, z2, e2, u2⟩ := un_spec t p (by omega) (by omega)
      by_cases h3 : q2 = 0
      · exact stops_01 A0 c0 t a p w hr hc hb hB hp hp0 (by omega) h1 (by omega) q2 g2 l2 h3 u2
      · exact stops_02 A0 c0 t a p w hr hc hb hB hp hp0 (by omega) h1 (by omega) q2 g2 l2 (by omega) (e2.resolve_left h3) u2
  · obtain ⟨q1, g1, l1, z1, e1, u1⟩ := dn_spec t p (by omega) (by omega)
    by_cases h2 : p = 0
    · by_cases h3 : q1 = t.length
      · exact stops_10 A0 c0 t a p w hr hc hb hB hp hp0 (by omega) (by omega) q1 g1 l1 h3 u1 h2
      · exact stops_20 A0 c0 t a p w hr hc hb hB hp hp0 (by omega) (by omega) q1 g1 l1 (by omega) (e1.resolve_left h3) u1 h2
    · obtain ⟨q2, g2, l2, z2, e2, u2⟩ := un_spec t p (by omega) (by omega)
      by_cases h3 : q1 = t.length
      · by_cases h4 : q2 = 0
        · exact stops_11 A0 c0 t a p w hr hc hb hB hp hp0 (by omega) (by omega) q1 g1 l1 h3 u1 (by omega) q2 g2 l2 h4 u2
        · exact stops_12 A0 c0 t a p w hr hc hb hB hp hp0 (by omega) (by omega) q1 g1 l1 h3 u1 (by omega) q2 g2 l2 (by omega) (e2.resolve_left h4) u2
      · by_cases h4 : q2 = 0
        · exact stops_21 A0 c0 t a p w hr hc hb hB hp hp0 (by omega) (by omega) q1 g1 l1 (by omega) (e1.resolve_left h3) u1 (by omega) q2 g2 l2 h4 u2
        · exact stops_22 A0 c0 t a p w hr hc hb hB hp hp0 (by omega) (by omega) q1 g1 l1 (by omega) (e1.resolve_left h3) u1 (by omega) q2 g2 l2 (by omega) (e2.resolve_left h4) u2

end Go.Proofs.Ytjaopgjhmojpnaa.Lw
