/-
  For BlockMoves: a text lent with marked room behind, and what is asked of it afterwards. Condition: texts of at most 2^14 bytes.
-/
import Derived.Test.YtjaopgjhmojpnaaLw
import Derived.Test.YtjaopgjhmojpnaaPe
namespace Go.Proofs.Ytjaopgjhmojpnaa.Lw
open Go.RowKit Go.Proofs.YtjaopgjhmojpnaaW.PrintWords Go.Proofs.YtjaopgjhmojpnaaW.PrintLast Go.Proofs.YtjaopgjhmojpnaaW.PrintMore
open Go.Proofs.Ytjaopgjhmojpnaa.X
open Go.Proofs.Ytjaopgjhmojpnaa.Pb
set_option linter.unusedVariables false
set_option linter.unusedSimpArgs false

theorem inf5 : (Try.prog.info? 5).map (fun i => (i.zero, i.size, i.bytes)) = some (some (.int .u8 0), 1, 1) := by kernel_rfl

theorem lent_form {w : World} {base : Nat} {v : Value} {t : List Int} (h : w.ownsRow base 5 1 v (t ++ [77, 78]).length (nums .u8 (t ++ [77, 78]))) : ∃ g cap, v = .slice (some ⟨g, 0, none⟩) (t.length + 2) cap ∧ t.length + 2 ≤ cap := by
  rcases h.2 with ⟨rfl, h0⟩ | ⟨g, cap, cur, e, _, _, hn, _⟩
  · simp [nums] at h0
  · exact ⟨g, cap, by simpa using e, by simpa using hn⟩
/-- the row that is lent -/
def Lent (base : Nat) (w : World) (g cap : Nat) (t : List Int) : Prop := w.ownsRow base 5 1 (.slice (some ⟨g, 0, none⟩) (t ++ [77, 78]).length cap) (t ++ [77, 78]).length (nums .u8 (t ++ [77, 78]))

set_option maxHeartbeats 4000000 in
set_option maxRecDepth 100000 in
theorem lent_calls (A0 : Option Addr) (c0 : Nat) (t : List Int) (w : World) (hr : Kd.C (Kd.int .u8) w A0 t.length t) (hc : t.length ≤ c0) (hb : t.length ≤ 1099511627776) :
    Calls Try.prog 9 #[.slice A0 t.length c0] w fun e w' => ∃ g cap, e = .returned (.slice (some ⟨g, 0, none⟩) t.length cap) ∧ Lent w.heap.size w' g cap t ∧ Below w.heap.size w w' := by
  have hrd := readsInt_of.2 (Kd.reads_of_C (d := (0 : Int)) hr)
  have HO : Aside0 ((w.alloc (.cells #[] 5)).ownsRow w.heap.size 5 1 (.slice (some ⟨w.heap.size, 0, none⟩) 0 0) ([] : List Int).length (nums .u8 [])) := ⟨own_lit w w.heap.size 5 .u8 [] (Nat.le_refl _) (by simp)⟩
  have HB : Aside0 (Below w.heap.size w (w.alloc (.cells #[] 5))) := ⟨below_alloc (Below.refl _ _) _⟩
  have HR : Aside0 (ReadsInt (w.alloc (.cells #[] 5)) .u8 A0 t.length t) := ⟨hrd.below HB.out⟩
  have LB := Aside0.mk hb
  clear hr hrd hc hb
  go_enter Try.func9, Try.ntmps9
  go_wp2_with (first | (at_builtin; refine print_append_row (w0 := w) w.heap.size rfl (.tmp 3) (.tmp 4) 22 5 .u8 1 rfl Try.underlying22 inf5 (by decide) _ [] t A0 t.length c0 rfl rfl HO.out HR.out HB.out (by simp) (by have := LB.out; simp; omega) ?_; intro v1 w1 hown1 hb1 hg1 hat1; clear hg1 hat1; rw [List.nil_append] at hown1; have HO1 := Aside0.mk (pw_own_below hown1 (below_alloc (Below.refl w1.heap.size w1) (.cells #[.int .u8 77, .int .u8 78] 5))); have HB1 := Aside0.mk (below_alloc hb1 (.cells #[.int .u8 77, .int .u8 78] 5)); have HR1 := Aside0.mk (readsInt_of.2 (Kd.reads_of_C (d := (0 : Int)) (C_lit w1 [77, 78] 5 (0, 0) (by decide)))); clear hown1 hb1) | (at_builtin; refine print_append_row (w0 := w) w.heap.size rfl (.tmp 5) (.tmp 6) 22 5 .u8 1 rfl Try.underlying22 inf5 (by decide) _ t [77, 78] (some ⟨w1.heap.size, 0, none⟩) 2 2 rfl rfl HO1.out HR1.out HB1.out (by have := HB1.out.size; exact this) (by have := LB.out; omega) ?_; intro v2 w2 hown2 hb2 hg2 hat2; clear hg2 hat2; have HO2 := Aside0.mk hown2; have HB2 := Aside0.mk hb2; clear hown2 hb2; obtain ⟨g, cap, e2, hnc⟩ := lent_form HO2.out; subst e2))
  have hn1 : t.length ≤ cap := by omega
  have hn2 : (t.length : Int) ≤ (cap : Int) := by omega
  go_wp2
  go_ret
  exact ⟨g, cap, rfl, by unfold Lent; simpa using HO2.out, HB2.out⟩

theorem Lent.reads {w : World} {base g cap : Nat} {t : List Int} (h : Lent base w g cap t) : t.length + 2 ≤ cap ∧ cap ≤ maxLen ∧ ReadsInt w .u8 (some ⟨g, 0, none⟩) (t.length + 2) (t ++ [77, 78]) := by
  have e := own_reads h
  obtain ⟨A, c, e1, hr⟩ := e
  simp only [Value.slice.injEq] at e1
  obtain ⟨rfl, _, rfl⟩ := e1
  obtain ⟨g', cap', e2, hn⟩ := lent_form h
  simp only [Value.slice.injEq] at e2
  obtain ⟨_, _, rfl⟩ := e2
  refine ⟨hn, ?_, by simpa using hr⟩
  rcases h.2 with ⟨h1, _⟩ | ⟨g2, cap2, cur, e3, _, _, _, hm, _⟩
  · cases h1
  · simp only [Value.slice.injEq] at e3
    obtain ⟨_, _, rfl⟩ := e3
    exact hm
theorem Lent.text {w : World} {base g cap : Nat} {t : List Int} (h : Lent base w g cap t) : Kd.C (Kd.int .u8) w (some ⟨g, 0, none⟩) t.length t := by
  have := (h.reads).2.2.take_ t.length (by omega)
  rw [List.take_left] at this
  exact Kd.C_of_reads (h1 := fun _ => rfl) (readsInt_of.1 this)
theorem Lent.below {w w1 : World} {base g cap : Nat} {t : List Int} (h : Lent base w g cap t) (hb : Below w.heap.size w w1) : Lent base w1 g cap t := pw_own_below h hb
theorem Lent.mark {w : World} {base g cap : Nat} {t : List Int} (h : Lent base w g cap t) : w.cell? ⟨g, t.length, none⟩ = some (.int .u8 77) ∧ w.cell? ⟨g, t.length + 1, none⟩ = some (.int .u8 78) := by
  have hr := h.reads.2.2
  obtain ⟨ad, e, h1⟩ := hr.at_ (t.length : Int) (by omega) (by omega)
  obtain ⟨ad', e', h2⟩ := hr.at_ ((t.length + 1 : Nat) : Int) (by omega) (by omega)
  cases e; cases e'
  rw [Int.toNat_natCast, add_plain] at h1 h2
  refine ⟨?_, ?_⟩
  · rw [h1]; simp [rd, List.getD_eq_getElem?_getD]
  · rw [h2]; simp [rd, List.getD_eq_getElem?_getD]
set_option maxHeartbeats 4000000 in
set_option maxRecDepth 100000 in
theorem whole_calls (A0 : Option Addr) (c0 : Nat) (t : List Int) (base g cap : Nat) (w : World) (hr : Kd.C (Kd.int .u8) w A0 t.length t) (hc : t.length ≤ c0) (hb : t.length ≤ 1099511627776) (hL : Lent base w g cap t) :
    Calls Try.prog 12 #[.slice (some ⟨g, 0, none⟩) t.length cap, .slice A0 t.length c0] w fun e w' => e = .returned (.bool true) ∧ Below w.heap.size w w' := by
  have s1 := fun n => Kd.C_string (P := Try.prog) (A := A0) (c := c0) Try.underlying22 Try.underlying5 Try.underlying9 (Kd.C_drewN hr n)
  have s2 := fun n => Kd.C_string (P := Try.prog) (A := some ⟨g, 0, none⟩) (c := cap) Try.underlying22 Try.underlying5 Try.underlying9 (Kd.C_drewN hL.text n)
  have s3 := Kd.C_string (P := Try.prog) (A := A0) (c := c0) Try.underlying22 Try.underlying5 Try.underlying9 hr
  have s4 := Kd.C_string (P := Try.prog) (A := some ⟨g, 0, none⟩) (c := cap) Try.underlying22 Try.underlying5 Try.underlying9 hL.text
  obtain ⟨m1, m2⟩ := hL.mark
  have hcp := hL.reads.1
  have h1 : (t.length : Int) + 2 ≤ (cap : Int) := by omega
  have h2 : (t.length : Int) < (t.length : Int) + 2 := by omega
  have h3 : (t.length : Int) + 1 < (t.length : Int) + 2 := by omega
  clear hr hL
  go_enter Try.func12, Try.ntmps12
  go_wp2
  go_ret
  exact ⟨rfl, Below.refl _ _⟩

/-- what is asked -/
structure Ask where
  f0 : Int
  f1 : Int
  f2 : ByteArray
def zAsk : Ask := ⟨0, 0, ByteArray.empty⟩
def kAsk : Kd Ask := Kd.iso (Kd.pair (Kd.int .i64) (Kd.pair (Kd.int .i64) Kd.string)) (fun x : Ask => (x.f0, x.f1, x.f2))
def rdAsk (xs : List Ask) (i : Nat) : Ask := xs.getD i zAsk
theorem at_ask {w : World} {A : Option Addr} {xs : List Ask} (h : Kd.C kAsk w A xs.length xs) (i : Nat) (h1 : i < xs.length) : ∃ ad, A = some ad ∧ w.cell? (ad.add (i * 3)) = some (.int .i64 (rdAsk xs i).f0) ∧ w.cell? ⟨(ad.add (i * 3)).block, (ad.add (i * 3)).off + 1, none⟩ = some (.int .i64 (rdAsk xs i).f1) ∧ w.cell? ⟨(ad.add (i * 3)).block, (ad.add (i * 3)).off + 2, none⟩ = some (.string (rdAsk xs i).f2) := by
  obtain ⟨ad, c, e, _, hK, hc0⟩ := Kd.C_get h zAsk (i : Int) (by omega) (by omega)
  rw [Int.toNat_natCast] at hK hc0
  have hc : ∀ j u, c[j]? = some u → w.cell? (ad.add (i * 3 + j)) = some u := hc0
  obtain ⟨_, _, rfl, rfl, ⟨_, _, rfl, rfl, rfl⟩⟩ := hK
  exact ⟨ad, e, hc 0 _ rfl, by rw [← add_field _ _ 1 (by omega)]; exact hc 1 _ rfl, by rw [← add_field _ _ 2 (by omega)]; exact hc 2 _ rfl⟩

set_option maxHeartbeats 4000000 in
set_option maxRecDepth 100000 in
/-- BlockMoves -/
theorem moves (A0 : Option Addr) (c0 : Nat) (t : List Int) (A1 : Option Addr) (c1 : Nat) (l : List Ask) (w : World) (hr : Kd.C (Kd.int .u8) w A0 t.length t) (hc : t.length ≤ c0) (hB : Bytes t) (hr1 : Kd.C kAsk w A1 l.length l) (hc1 : l.length ≤ c1) :
    Calls Try.prog 3 #[.slice A0 t.length c0, .slice A1 l.length c1] w fun e w' => e = .returned (.bool true) ∧ Below w.heap.size w w' := by
  have hu30 := Try.underlying30
  have hu28 := Try.underlying28
  have hlm : l.length ≤ 9223372036854775807 := hr1.2.1
  have htm : t.length ≤ 9223372036854775807 := hr.2.1
  have HR := Aside0.mk hr
  have HR1 := Aside0.mk hr1
  have HBy := Aside0.mk hB
  have HC := Aside0.mk hc
  clear hr hr1 hB hc hc1
  by_cases hg : t.length > 16384 ∨ l.length > 16384
  · have hgr : quoinlaw10_great.f t (l.length : Int) = some true := by
      unfold quoinlaw10_great.f
      by_cases h1 : (t.length : Int) > 16384
      · rw [if_pos h1]
      · rw [if_neg h1, decide_eq_true (by omega)]
    have HG := Aside0.mk hgr
    clear hgr hg
    go_enter Try.func3, Try.ntmps3
    go_wp2_with fail
    refine (awake _).mono ?_
    rintro e w1 ⟨rfl, hb1⟩
    have HB1 := Aside0.mk hb1
    clear hb1
    go_wp2_with fail
    refine (quoinlaw10_great.calls A0 c0 t (l.length : Int) true _ (Kd.C_below HR.out HB1.out) HC.out HG.out).mono ?_
    rintro e w2 ⟨rfl, hd⟩
    have HB2 := Aside0.mk (below_step HB1.out hd.below)
    clear hd
    go_wp2
    go_ret
    exact ⟨rfl, HB2.out⟩
  · have hgr : quoinlaw10_great.f t (l.length : Int) = some false := by
      unfold quoinlaw10_great.f
      rw [if_neg (by omega), decide_eq_false (by omega)]
    have HG := Aside0.mk hgr
    have HLT : Aside0 (t.length ≤ 1099511627776) := ⟨by omega⟩
    clear hgr hg
    go_enter Try.func3, Try.ntmps3
    go_wp2_with fail
    refine (awake _).mono ?_
    rintro e w1 ⟨rfl, hb1⟩
    have HB1 := Aside0.mk hb1
    clear hb1
    go_wp2_with fail
    refine (quoinlaw10_great.calls A0 c0 t (l.length : Int) false _ (Kd.C_below HR.out HB1.out) HC.out HG.out).mono ?_
    rintro e w2 ⟨rfl, hd⟩
    have HB2 := Aside0.mk (below_step HB1.out hd.below)
    clear hd
    go_wp2_with fail
    refine (lent_calls A0 c0 t _ (Kd.C_below HR.out HB2.out) HC.out HLT.out).mono ?_
    rintro e w3 ⟨g, cap, rfl, hL, hb3⟩
    have HB3 := Aside0.mk (below_step HB2.out hb3)
    have HL3 := Aside0.mk hL
    clear hL hb3 HB1
    obtain ⟨base, hbase⟩ : ∃ base, base = w2.heap.size := ⟨_, rfl⟩
    rw [← hbase] at HL3
    clear hbase HB2
    go_wp2
    go_loopw [22] (fun i wr => ∃ j : Nat, i = .int .i64 j ∧ Aside0 (j ≤ l.length) ∧ Aside0 (Below w.heap.size w wr) ∧ Aside0 (Lent base wr g cap t)) (fun i _ => l.length - (intOf i).toNat)
    case atStart => exact ⟨0, rfl, ⟨Nat.zero_le _⟩, HB3, HL3⟩
    case round =>
      clear HB3 HL3
      obtain ⟨j, rfl, HJ, HBr, HLr⟩ := hrel
      by_cases hj : j < l.length
      · have hjj : (j : Int) < (l.length : Int) := by omega
        have hp0 : (0 : Int) ≤ (j : Int) := by omega
        obtain ⟨ad, e1, hx0, hx1, hx2⟩ := at_ask HR1.out j hj
        subst e1
        replace hx0 := (HBr.out.cell (World.block_lt_of_cell? w _ hx0)).trans hx0
        replace hx1 := (HBr.out.cell (World.block_lt_of_cell? w _ hx1)).trans hx1
        replace hx2 := (HBr.out.cell (World.block_lt_of_cell? w _ hx2)).trans hx2
        obtain ⟨x, hx⟩ : ∃ x, x = rdAsk l j := ⟨_, rfl⟩
        rw [← hx] at hx0 hx1 hx2
        clear hx
        obtain ⟨g1, g2, g3, g4, hG⟩ : ∃ g1 g2 g3 g4, moveP t x.f0 x.f1 x.f2 = (g1, g2, g3, g4) := ⟨_, _, _, _, rfl⟩
        obtain ⟨km, hm⟩ := (move_all t HLT.out HBy.out x.f0 x.f1 x.f2).rounds
        obtain ⟨kr, hrf⟩ := (refmove_all t HLT.out HBy.out x.f0 x.f1 x.f2).rounds
        rw [hG] at hm hrf
        have HM := Aside0.mk hm
        have HRF := Aside0.mk hrf
        clear hm hrf hG
        go_wp2_with fail
        have bk0 := blk_new wr (.cells #[.int .i64 x.f0, .int .i64 x.f1, .string x.f2] 28)
        have HBa := Aside0.mk (below_alloc HBr.out (.cells #[.int .i64 x.f0, .int .i64 x.f1, .string x.f2] 28))
        have HLa := Aside0.mk (HLr.out.below (below_alloc (Below.refl wr.heap.size wr) (.cells #[.int .i64 x.f0, .int .i64 x.f1, .string x.f2] 28)))
        refine (quoinref10_Move.calls kr A0 c0 t x.f0 x.f1 x.f2 g1 g2 g3 g4 _ (Kd.C_below HR.out HBa.out) HC.out HRF.out).mono ?_
        rintro e w4 ⟨rfl, hb4⟩
        have hb4' := Aside0.mk hb4
        have bk4 := Aside0.mk (blk_below bk0 hb4)
        have HB4 := Aside0.mk (below_step HBa.out hb4)
        have HL4 := Aside0.mk (HLa.out.below hb4)
        have hs4 : wr.heap.size < w4.heap.size := blk_lt bk4.out
        clear bk0 hb4 hx0 hx1 hx2 HBr HLr HBa HLa hb4'
        obtain ⟨B, hBz⟩ : ∃ B, B = wr.heap.size := ⟨_, rfl⟩
        rw [← hBz] at bk4 hs4 ⊢
        clear hBz
        have z0 : ∀ o : Obj, (w4.alloc o).cell? ⟨B, 0, none⟩ = some (.int .i64 x.f0) := fun o => blk_cell (blk_alloc bk4.out o) 0
        have z1 : ∀ o : Obj, (w4.alloc o).cell? ⟨B, 1, none⟩ = some (.int .i64 x.f1) := fun o => blk_cell (blk_alloc bk4.out o) 1
        have z2 : ∀ o : Obj, (w4.alloc o).cell? ⟨B, 2, none⟩ = some (.string x.f2) := fun o => blk_cell (blk_alloc bk4.out o) 2
        go_wp2_with fail
        have bk5 := Aside0.mk (blk_new w4 (.cells #[.int .i64 g1, .int .i64 g2, .int .i64 g3] 30))
        have HB5 := Aside0.mk (below_alloc HB4.out (.cells #[.int .i64 g1, .int .i64 g2, .int .i64 g3] 30))
        have HL5 := Aside0.mk (HL4.out.below (below_alloc (Below.refl w4.heap.size w4) (.cells #[.int .i64 g1, .int .i64 g2, .int .i64 g3] 30)))
        refine (block_Move.calls km (some ⟨g, 0, none⟩) cap t x.f0 x.f1 x.f2 g1 g2 g3 g4 _ HL5.out.text (by have := HL5.out.reads.1; omega) HM.out).mono ?_
        rintro e w6 ⟨rfl, hb6⟩
        have HB6 := Aside0.mk (below_step HB5.out hb6)
        have HL6 := Aside0.mk (HL5.out.below hb6)
        have bk6 := Aside0.mk (blk_below bk5.out hb6)
        have hs6 : w4.heap.size < w6.heap.size := blk_lt bk6.out
        clear hb6 bk5 HB5 HL5 HB4 HL4 z0 z1 z2 bk4
        have y0 : ∀ o : Obj, (w6.alloc o).cell? ⟨w4.heap.size, 0, none⟩ = some (.int .i64 g1) := fun o => blk_cell (blk_alloc bk6.out o) 0
        have y1 : ∀ o : Obj, (w6.alloc o).cell? ⟨w4.heap.size, 1, none⟩ = some (.int .i64 g2) := fun o => blk_cell (blk_alloc bk6.out o) 1
        have y2 : ∀ o : Obj, (w6.alloc o).cell? ⟨w4.heap.size, 2, none⟩ = some (.int .i64 g3) := fun o => blk_cell (blk_alloc bk6.out o) 2
        have HB7 := Aside0.mk (below_alloc HB6.out (.cells #[.int .i64 g1, .int .i64 g2, .int .i64 g3] 30))
        have HL7 := Aside0.mk (HL6.out.below (below_alloc (Below.refl w6.heap.size w6) (.cells #[.int .i64 g1, .int .i64 g2, .int .i64 g3] 30)))
        go_wp2
        go_roundw
        case rel => exact ⟨j + 1, by go_num, ⟨by omega⟩, HB7, HL7⟩
        case measure => simp [intOf]; omega
      · have hj' : ¬ (j : Int) < (l.length : Int) := by omega
        go_wp2_with fail
        refine (whole_calls A0 c0 t base g cap _ (Kd.C_below HR.out HBr.out) HC.out HLT.out HLr.out).mono ?_
        rintro e w8 ⟨rfl, hb8⟩
        have HB8 := Aside0.mk (below_step HBr.out hb8)
        clear hb8
        go_wp2
        go_ret
        exact ⟨rfl, HB8.out⟩

end Go.Proofs.Ytjaopgjhmojpnaa.Lw
