-- Written by wip/printx.py of this claim's session, over the kit's print and contracts proved by hand.
import Derived.Test.YtjaopgjhmojpnaaX0
import Derived.Test.YtjaopgjhmojpnaaGiven
namespace Go.Proofs.Ytjaopgjhmojpnaa.X
open Go.RowKit Go.Proofs.YtjaopgjhmojpnaaW.PrintWords Go.Proofs.YtjaopgjhmojpnaaW.PrintLast Go.Proofs.YtjaopgjhmojpnaaW.PrintMore
attribute [local go_sem] max2_int min2_int max_two min_two max_three min_three max_four min_four   -- for this text's walks alone
set_option linter.unusedVariables false
set_option linter.unusedSimpArgs false

/-! ### quoinref06_Partner: function 32 -/
def quoinref06_Partner.l0 : Nat → Int → Int → Option (Int × Bool × Bool)
  | 0, _, _ => none
  | k + 1, x0, x5 => if x5 < 3 then (if 0 ≤ x5 then (if (bt (⟨#[40, 91, 123]⟩ : ByteArray) x5) = x0 then (some (bt (⟨#[41, 93, 125]⟩ : ByteArray) x5, true, true)) else (if (bt (⟨#[41, 93, 125]⟩ : ByteArray) x5) = x0 then (some (bt (⟨#[40, 91, 123]⟩ : ByteArray) x5, false, true)) else (quoinref06_Partner.l0 k x0 (wrap64 (x5 + 1))))) else (none)) else (some (0, false, false))
def quoinref06_Partner.f (k : Nat) (a0 : Int) : Option (Int × Bool × Bool) := quoinref06_Partner.l0 k a0 0
theorem quoinref06_Partner.mono_l : ∀ k, (∀ y0 y1, LeO (quoinref06_Partner.l0 k y0 y1) (quoinref06_Partner.l0 (k + 1) y0 y1))
  | 0 => fun _ _ r h => by simp [quoinref06_Partner.l0] at h
  | k + 1 => by
    have ih0 := quoinref06_Partner.mono_l k
    · intro y0 y1
      unfold quoinref06_Partner.l0
      repeat' first
      | (with_reducible exact ih0 _ _)
      | (with_reducible exact LeO.refl _)
      | (with_reducible exact LeO.none _)
      | (with_reducible refine LeO.ite ?_ ?_)
      | (with_reducible refine LeO.bind ?_ (fun _ => ?_))
      | exact ih0 _ _
      | exact LeO.none _
      | refine LeO.ite ?_ ?_
      | refine LeO.bind ?_ (fun _ => ?_)
theorem quoinref06_Partner.mono : ∀ a0 k, LeO (quoinref06_Partner.f k a0) (quoinref06_Partner.f (k + 1) a0) := by
  intro a0 k
  have ih0 := quoinref06_Partner.mono_l k
  unfold quoinref06_Partner.f
  repeat' first
      | (with_reducible exact ih0 _ _)
      | (with_reducible exact LeO.refl _)
      | (with_reducible exact LeO.none _)
      | (with_reducible refine LeO.ite ?_ ?_)
      | (with_reducible refine LeO.bind ?_ (fun _ => ?_))
      | exact ih0 _ _
      | exact LeO.none _
      | refine LeO.ite ?_ ?_
      | refine LeO.bind ?_ (fun _ => ?_)
set_option maxHeartbeats 8000000 in
set_option maxRecDepth 100000 in
theorem quoinref06_Partner.calls (k : Nat) (a0 : Int) (r1 : Int) (r2 : Bool) (r3 : Bool) (w : World) (h : quoinref06_Partner.f k a0 = some (r1, r2, r3)) :
    Calls Try.prog 32 #[.int .u8 a0] w fun e w' => e = .returned (.tuple #[.int .u8 r1, .bool r2, .bool r3]) ∧ Drawn0 w w' := by
  have H : (quoinref06_Partner.l0 k a0 0) = some (r1, r2, r3) := h
  clear h
  have H' := Aside0.mk H
  clear H
  go_enter Try.func32, Try.ntmps32
  go_wp2
  go_loopg [5] k (fun kq v5 w' => ∃ (x5_1 : Int), v5 = .int .i64 x5_1 ∧ Aside0 (quoinref06_Partner.l0 kq a0 x5_1 = some (r1, r2, r3)) ∧ Aside0 (kq ≤ k) ∧ Drawn0 w w')
  case atStart => exact ⟨(0), (by first | rfl | (simp; done) | (simp [*]; done)), H', ⟨Nat.le_refl _⟩, by repeat (first | exact Drawn0.refl _ | apply Drawn0.step)⟩
  case round =>
    clear H'
    obtain ⟨x5_1, rfl, HA, HK1, ⟨m1, rfl⟩⟩ := hrel
    cases gk with
    | zero => exact absurd HA.out (by simp [quoinref06_Partner.l0])
    | succ k1 =>
      have H := HA.out
      clear HA
      simp only [quoinref06_Partner.l0] at H
      by_cases c2 : x5_1 < 3
      · rw [if_pos c2] at H
        have c2b0 : decide (x5_1 < 3) = true := decide_eq_true c2
        clear c2
        by_cases c3 : 0 ≤ x5_1
        · rw [if_pos c3] at H
          have c3b0 : decide (0 ≤ x5_1) = true := decide_eq_true c3
          clear c3
          by_cases c5 : (bt (⟨#[40, 91, 123]⟩ : ByteArray) x5_1) = a0
          · rw [if_pos c5] at H
            have c5b0 : ((bt (⟨#[40, 91, 123]⟩ : ByteArray) x5_1) == a0) = true := beq_iff_eq.mpr c5
            have c5b1 : ((bt (⟨#[40, 91, 123]⟩ : ByteArray) x5_1) != a0) = false := bne_eq_false_iff_eq.mpr c5
            clear c5
            simp only [Option.some.injEq, Prod.mk.injEq] at H
            obtain ⟨rfl, rfl, rfl⟩ := H
            have p4 : 0 ≤ (x5_1 : Int) := of_decide_eq_true (by first | (with_reducible assumption) | assumption)
            have q4 : x5_1 < (3 : Int) := of_decide_eq_true (by first | (with_reducible assumption) | assumption)
            have hx4 := bt_at (⟨#[40, 91, 123]⟩ : ByteArray) x5_1
            replace p4 := eq_true p4
            replace q4 := eq_true q4
            have p6 : 0 ≤ (x5_1 : Int) := of_decide_eq_true (by first | (with_reducible assumption) | assumption)
            have q6 : x5_1 < (3 : Int) := of_decide_eq_true (by first | (with_reducible assumption) | assumption)
            have hx6 := bt_at (⟨#[41, 93, 125]⟩ : ByteArray) x5_1
            replace p6 := eq_true p6
            replace q6 := eq_true q6
            go_wp2
            go_ret3
            exact ⟨by first | rfl | (simp; done) | (simp [*]; done) | (simp [Int.tdiv_eq_ediv_of_nonneg]; done), by repeat (first | exact Drawn0.refl _ | apply Drawn0.step)⟩
          · rw [if_neg c5] at H
            have c5b0 : ((bt (⟨#[40, 91, 123]⟩ : ByteArray) x5_1) == a0) = false := beq_eq_false_iff_ne.mpr c5
            have c5b1 : ((bt (⟨#[40, 91, 123]⟩ : ByteArray) x5_1) != a0) = true := bne_iff_ne.mpr c5
            by_cases c8 : (bt (⟨#[41, 93, 125]⟩ : ByteArray) x5_1) = a0
            · rw [if_pos c8] at H
              have c8b0 : ((bt (⟨#[41, 93, 125]⟩ : ByteArray) x5_1) == a0) = true := beq_iff_eq.mpr c8
              have c8b1 : ((bt (⟨#[41, 93, 125]⟩ : ByteArray) x5_1) != a0) = false := bne_eq_false_iff_eq.mpr c8
              clear c8
              simp only [Option.some.injEq, Prod.mk.injEq] at H
              obtain ⟨rfl, rfl, rfl⟩ := H
              have p4 : 0 ≤ (x5_1 : Int) := of_decide_eq_true (by first | (with_reducible assumption) | assumption)
              have q4 : x5_1 < (3 : Int) := of_decide_eq_true (by first | (with_reducible assumption) | assumption)
              have hx4 := bt_at (⟨#[40, 91, 123]⟩ : ByteArray) x5_1
              replace p4 := eq_true p4
              replace q4 := eq_true q4
              have p7 : 0 ≤ (x5_1 : Int) := of_decide_eq_true (by first | (with_reducible assumption) | assumption)
              have q7 : x5_1 < (3 : Int) := of_decide_eq_true (by first | (with_reducible assumption) | assumption)
              have hx7 := bt_at (⟨#[41, 93, 125]⟩ : ByteArray) x5_1
              replace p7 := eq_true p7
              replace q7 := eq_true q7
              have p9 : 0 ≤ (x5_1 : Int) := of_decide_eq_true (by first | (with_reducible assumption) | assumption)
              have q9 : x5_1 < (3 : Int) := of_decide_eq_true (by first | (with_reducible assumption) | assumption)
              have hx9 := bt_at (⟨#[40, 91, 123]⟩ : ByteArray) x5_1
              replace p9 := eq_true p9
              replace q9 := eq_true q9
              go_wp2
              go_ret3
              exact ⟨by first | rfl | (simp; done) | (simp [*]; done) | (simp [Int.tdiv_eq_ediv_of_nonneg]; done), by repeat (first | exact Drawn0.refl _ | apply Drawn0.step)⟩
            · rw [if_neg c8] at H
              have c8b0 : ((bt (⟨#[41, 93, 125]⟩ : ByteArray) x5_1) == a0) = false := beq_eq_false_iff_ne.mpr c8
              have c8b1 : ((bt (⟨#[41, 93, 125]⟩ : ByteArray) x5_1) != a0) = true := bne_iff_ne.mpr c8
              have H' := Aside0.mk H
              clear H
              have p4 : 0 ≤ (x5_1 : Int) := of_decide_eq_true (by first | (with_reducible assumption) | assumption)
              have q4 : x5_1 < (3 : Int) := of_decide_eq_true (by first | (with_reducible assumption) | assumption)
              have hx4 := bt_at (⟨#[40, 91, 123]⟩ : ByteArray) x5_1
              replace p4 := eq_true p4
              replace q4 := eq_true q4
              have p7 : 0 ≤ (x5_1 : Int) := of_decide_eq_true (by first | (with_reducible assumption) | assumption)
              have q7 : x5_1 < (3 : Int) := of_decide_eq_true (by first | (with_reducible assumption) | assumption)
              have hx7 := bt_at (⟨#[41, 93, 125]⟩ : ByteArray) x5_1
              replace p7 := eq_true p7
              replace q7 := eq_true q7
              go_wp2
              go_roundg k1
              case measure => have := HK1.out; omega
              case rel => exact ⟨(wrap64 (x5_1 + 1)), (by first | rfl | (simp; done) | (simp [*]; done)), H', ⟨by have := HK1.out; omega⟩, by repeat (first | exact Drawn0.refl _ | apply Drawn0.step)⟩
        · rw [if_neg c3] at H
          exact absurd H (by simp)
      · rw [if_neg c2] at H
        have c2b0 : decide (x5_1 < 3) = false := decide_eq_false c2
        clear c2
        simp only [Option.some.injEq, Prod.mk.injEq] at H
        obtain ⟨rfl, rfl, rfl⟩ := H
        go_wp2
        go_ret3
        exact ⟨by first | rfl | (simp; done) | (simp [*]; done) | (simp [Int.tdiv_eq_ediv_of_nonneg]; done), by repeat (first | exact Drawn0.refl _ | apply Drawn0.step)⟩

/-! ### quoinref10_bracket: function 21 -/
mutual
def quoinref10_bracket.l0 : Nat → List Int → Int → Option (Int)
  | 0, _, _ => none
  | k + 1, x0, x5 => if x5 < (x0.length : Int) then (if 0 ≤ x5 then (quoinref10_bracket.j1 k x0 x5 ((rd x0 x5) != 10)) else (none)) else (quoinref10_bracket.j1 k x0 x5 false)
def quoinref10_bracket.j1 : Nat → List Int → Int → Bool → Option (Int)
  | 0, _, _, _ => none
  | k + 1, x0, x5, x20 => if x20 = true then (if 0 ≤ x5 then (if x5 < (x0.length : Int) then ((quoinref06_Partner.f k (rd x0 x5)).bind fun bt269 => (if bt269.2.2 = true then (some x5) else (quoinref10_bracket.l0 k x0 (wrap64 (x5 + 1))))) else (none)) else (none)) else (some (-1))
end
def quoinref10_bracket.f (k : Nat) (l0 : List Int) (a1 : Int) : Option (Int) := quoinref10_bracket.l0 k l0 a1
theorem quoinref10_bracket.mono_l : ∀ k, (∀ y0 y1, LeO (quoinref10_bracket.l0 k y0 y1) (quoinref10_bracket.l0 (k + 1) y0 y1)) ∧ (∀ y0 y1 y2, LeO (quoinref10_bracket.j1 k y0 y1 y2) (quoinref10_bracket.j1 (k + 1) y0 y1 y2))
  | 0 => ⟨fun _ _ r h => by simp [quoinref10_bracket.l0] at h, fun _ _ _ r h => by simp [quoinref10_bracket.j1] at h⟩
  | k + 1 => by
    obtain ⟨ih0, ih1⟩ := quoinref10_bracket.mono_l k
    refine ⟨?_, ?_⟩
    · intro y0 y1
      unfold quoinref10_bracket.l0
      repeat' first
      | (with_reducible exact ih0 _ _)
      | (with_reducible exact ih1 _ _ _)
      | (with_reducible exact quoinref06_Partner.mono _ _)
      | (with_reducible exact LeO.refl _)
      | (with_reducible exact LeO.none _)
      | (with_reducible refine LeO.ite ?_ ?_)
      | (with_reducible refine LeO.bind ?_ (fun _ => ?_))
      | exact ih0 _ _
      | exact ih1 _ _ _
      | exact quoinref06_Partner.mono _ _
      | exact LeO.none _
      | refine LeO.ite ?_ ?_
      | refine LeO.bind ?_ (fun _ => ?_)
    · intro y0 y1 y2
      unfold quoinref10_bracket.j1
      repeat' first
      | (with_reducible exact ih0 _ _)
      | (with_reducible exact ih1 _ _ _)
      | (with_reducible exact quoinref06_Partner.mono _ _)
      | (with_reducible exact LeO.refl _)
      | (with_reducible exact LeO.none _)
      | (with_reducible refine LeO.ite ?_ ?_)
      | (with_reducible refine LeO.bind ?_ (fun _ => ?_))
      | exact ih0 _ _
      | exact ih1 _ _ _
      | exact quoinref06_Partner.mono _ _
      | exact LeO.none _
      | refine LeO.ite ?_ ?_
      | refine LeO.bind ?_ (fun _ => ?_)
theorem quoinref10_bracket.mono : ∀ a0 a1 k, LeO (quoinref10_bracket.f k a0 a1) (quoinref10_bracket.f (k + 1) a0 a1) := by
  intro a0 a1 k
  obtain ⟨ih0, ih1⟩ := quoinref10_bracket.mono_l k
  unfold quoinref10_bracket.f
  repeat' first
      | (with_reducible exact ih0 _ _)
      | (with_reducible exact ih1 _ _ _)
      | (with_reducible exact quoinref06_Partner.mono _ _)
      | (with_reducible exact LeO.refl _)
      | (with_reducible exact LeO.none _)
      | (with_reducible refine LeO.ite ?_ ?_)
      | (with_reducible refine LeO.bind ?_ (fun _ => ?_))
      | exact ih0 _ _
      | exact ih1 _ _ _
      | exact quoinref06_Partner.mono _ _
      | exact LeO.none _
      | refine LeO.ite ?_ ?_
      | refine LeO.bind ?_ (fun _ => ?_)
set_option maxHeartbeats 8000000 in
set_option maxRecDepth 100000 in
theorem quoinref10_bracket.calls (k : Nat) (A0 : Option Addr) (c0 : Nat) (l0 : List Int) (a1 : Int) (r : Int) (w : World) (hr0 : Kd.C (Kd.int .u8) w A0 l0.length l0) (hc0 : l0.length ≤ c0) (h : quoinref10_bracket.f k l0 a1 = some r) :
    Calls Try.prog 21 #[.slice A0 l0.length c0, .int .i64 a1] w fun e w' => e = .returned (.int .i64 r) ∧ Drawn0 w w' := by
  have HR0 := Aside0.mk hr0
  have HC0 := Aside0.mk hc0
  clear hr0 hc0
  have H : (quoinref10_bracket.l0 k l0 a1) = some r := h
  clear h
  have H' := Aside0.mk H
  clear H
  go_enter Try.func21, Try.ntmps21
  go_wp2
  go_loopg [5] k (fun kq v5 w' => ∃ (x5_1 : Int), v5 = .int .i64 x5_1 ∧ Aside0 (quoinref10_bracket.l0 kq l0 x5_1 = some r) ∧ Aside0 (kq ≤ k) ∧ Drawn0 w w')
  case atStart => exact ⟨(a1), (by first | rfl | (simp; done) | (simp [*]; done)), H', ⟨Nat.le_refl _⟩, by repeat (first | exact Drawn0.refl _ | apply Drawn0.step)⟩
  case round =>
    clear H'
    try clear c2
    try clear p2
    obtain ⟨x5_1, rfl, HA, HK1, ⟨m1, rfl⟩⟩ := hrel
    cases gk with
    | zero => exact absurd HA.out (by simp [quoinref10_bracket.l0])
    | succ k1 =>
      have H := HA.out
      clear HA
      simp only [quoinref10_bracket.l0] at H
      have HC3 := Aside0.mk H
      clear H
      go_upto_region 2 with (fail)
      go_cut [20] (fun v20 wc => ∃ (kq : Nat) (x20_2 : Bool), v20 = .bool x20_2 ∧ Aside0 (quoinref10_bracket.j1 kq l0 x5_1 x20_2 = some r) ∧ Aside0 (kq ≤ k1) ∧ Drawn0 w wc)
      case first =>
        have H := HC3.out
        clear HC3
        by_cases c4 : x5_1 < (l0.length : Int)
        · rw [if_pos c4] at H
          have c4b0 : decide (x5_1 < (l0.length : Int)) = true := decide_eq_true c4
          clear c4
          (first | rw [c4b0] | (simp only [i64_w, i32_w]; rw [c4b0]) | skip)
          by_cases c5 : 0 ≤ x5_1
          · rw [if_pos c5] at H
            have c5b0 : decide (0 ≤ x5_1) = true := decide_eq_true c5
            clear c5
            have H' := Aside0.mk H
            clear H
            have p267 : 0 ≤ (x5_1 : Int) := of_decide_eq_true (by first | (with_reducible assumption) | assumption)
            have q267 : x5_1 < (l0.length : Int) := of_decide_eq_true (by first | (with_reducible assumption) | assumption)
            obtain ⟨ad267, e267, hx267_0⟩ := Kd.at_int HR0.out x5_1 p267 q267
            cases e267
            replace p267 := eq_true p267
            replace q267 := eq_true q267
            go_wp2
            go_meet
            case rel => exact ⟨_, (((rd l0 x5_1) != 10)), (by first | rfl | (simp; done) | (simp [*]; done)), H', ⟨by have := HK1.out; first | omega | exact Nat.le_refl _⟩, by repeat (first | exact Drawn0.refl _ | apply Drawn0.step)⟩
          · rw [if_neg c5] at H
            exact absurd H (by simp)
        · rw [if_neg c4] at H
          have c4b0 : decide (x5_1 < (l0.length : Int)) = false := decide_eq_false c4
          clear c4
          (first | rw [c4b0] | (simp only [i64_w, i32_w]; rw [c4b0]) | skip)
          have H' := Aside0.mk H
          clear H
          go_wp2
          go_meet
          case rel => exact ⟨_, (false), (by first | rfl | (simp; done) | (simp [*]; done)), H', ⟨by have := HK1.out; first | omega | exact Nat.le_refl _⟩, by repeat (first | exact Drawn0.refl _ | apply Drawn0.step)⟩
      case rest =>
        clear HC3
        try clear c2
        try clear p2
        try clear q2
        try clear hx2
        try clear c4
        try clear c4b0
        try clear c5
        try clear c5b0
        try clear hx267_0
        try clear p2
        try clear p267
        try clear q267
        obtain ⟨kq, x20_2, rfl, HA, HJ2, ⟨mc2, rfl⟩⟩ := hcut
        cases kq with
        | zero => exact absurd HA.out (by simp [quoinref10_bracket.j1])
        | succ kj2 =>
          have H := HA.out
          clear HA
          simp only [quoinref10_bracket.j1] at H
          by_cases c6 : x20_2 = true
          · subst c6
            have H1 : (if 0 ≤ x5_1 then (if x5_1 < (l0.length : Int) then ((quoinref06_Partner.f kj2 (rd l0 x5_1)).bind fun bt269 => (if bt269.2.2 = true then (some x5_1) else (quoinref10_bracket.l0 kj2 l0 (wrap64 (x5_1 + 1))))) else (none)) else (none)) = some r := by rw [if_pos rfl] at H; exact H
            clear H
            have H := H1
            clear H1
            by_cases c7 : 0 ≤ x5_1
            · rw [if_pos c7] at H
              have c7b0 : decide (0 ≤ x5_1) = true := decide_eq_true c7
              clear c7
              by_cases c8 : x5_1 < (l0.length : Int)
              · rw [if_pos c8] at H
                have c8b0 : decide (x5_1 < (l0.length : Int)) = true := decide_eq_true c8
                clear c8
                replace H := Option.bind_eq_some_iff.mp H
                obtain ⟨⟨t269, t270, t271⟩, A90, H⟩ := H
                replace H : (if t271 = true then (some x5_1) else (quoinref10_bracket.l0 kj2 l0 (wrap64 (x5_1 + 1)))) = some r := H
                have A9 := Aside0.mk A90
                clear A90
                by_cases c10 : t271 = true
                · subst c10
                  have H1 : (some x5_1) = some r := by rw [if_pos rfl] at H; exact H
                  clear H
                  have H := H1
                  clear H1
                  obtain rfl := Option.some.inj H
                  have p268 : 0 ≤ (x5_1 : Int) := of_decide_eq_true (by first | (with_reducible assumption) | assumption)
                  have q268 : x5_1 < (l0.length : Int) := of_decide_eq_true (by first | (with_reducible assumption) | assumption)
                  obtain ⟨ad268, e268, hx268_0⟩ := Kd.at_int HR0.out x5_1 p268 q268
                  cases e268
                  replace p268 := eq_true p268
                  replace q268 := eq_true q268
                  go_wp2_with (first | ((with_reducible refine gate_callee (f := 32) rfl ?_); refine goesL_ (some 28) rfl rfl Try.func32 (by kernel_rfl) rfl #[.int .u8 (rd l0 x5_1)] rfl (by (try simp only [List.map_toArray, List.map_cons, List.map_nil]); first | done | rfl | (simp only [List.length_drop, List.length_take]; rfl)) ?_; (with_reducible refine (quoinref06_Partner.calls kj2 (rd l0 x5_1) t269 t270 true _ A9.out).mono ?_); rintro e w' ⟨rfl, ⟨nd, rfl⟩⟩; refine ⟨_, rfl, ?_⟩))
                  go_ret
                  exact ⟨by first | rfl | (simp; done) | (simp [*]; done) | (simp [Int.tdiv_eq_ediv_of_nonneg]; done), by repeat (first | exact Drawn0.refl _ | apply Drawn0.step)⟩
                · replace c10 := Bool.eq_false_iff.mpr c10
                  subst c10
                  have H1 : (quoinref10_bracket.l0 kj2 l0 (wrap64 (x5_1 + 1))) = some r := by rw [if_neg (show ¬ (false = true) by decide)] at H; exact H
                  clear H
                  have H := H1
                  clear H1
                  have H' := Aside0.mk H
                  clear H
                  have p268 : 0 ≤ (x5_1 : Int) := of_decide_eq_true (by first | (with_reducible assumption) | assumption)
                  have q268 : x5_1 < (l0.length : Int) := of_decide_eq_true (by first | (with_reducible assumption) | assumption)
                  obtain ⟨ad268, e268, hx268_0⟩ := Kd.at_int HR0.out x5_1 p268 q268
                  cases e268
                  replace p268 := eq_true p268
                  replace q268 := eq_true q268
                  go_wp2_with (first | ((with_reducible refine gate_callee (f := 32) rfl ?_); refine goesL_ (some 28) rfl rfl Try.func32 (by kernel_rfl) rfl #[.int .u8 (rd l0 x5_1)] rfl (by (try simp only [List.map_toArray, List.map_cons, List.map_nil]); first | done | rfl | (simp only [List.length_drop, List.length_take]; rfl)) ?_; (with_reducible refine (quoinref06_Partner.calls kj2 (rd l0 x5_1) t269 t270 false _ A9.out).mono ?_); rintro e w' ⟨rfl, ⟨nd, rfl⟩⟩; refine ⟨_, rfl, ?_⟩))
                  go_roundg kj2
                  case measure => have := HK1.out; have := HJ2.out; omega
                  case rel => exact ⟨(wrap64 (x5_1 + 1)), (by first | rfl | (simp; done) | (simp [*]; done)), H', ⟨by have := HK1.out; have := HJ2.out; omega⟩, by repeat (first | exact Drawn0.refl _ | apply Drawn0.step)⟩
              · rw [if_neg c8] at H
                exact absurd H (by simp)
            · rw [if_neg c7] at H
              exact absurd H (by simp)
          · replace c6 := Bool.eq_false_iff.mpr c6
            subst c6
            have H1 : (some (-1)) = some r := by rw [if_neg (show ¬ (false = true) by decide)] at H; exact H
            clear H
            have H := H1
            clear H1
            obtain rfl := Option.some.inj H
            go_wp2
            go_ret
            exact ⟨by first | rfl | (simp; done) | (simp [*]; done) | (simp [Int.tdiv_eq_ediv_of_nonneg]; done), by repeat (first | exact Drawn0.refl _ | apply Drawn0.step)⟩

/-! ### quoinref10_Pair: function 22 -/
mutual
def quoinref10_Pair.j0 : Nat → List Int → Int → Bool → Int → Option (Int × Int)
  | 0, _, _, _, _ => none
  | k + 1, x0, x1, x7, x9 => quoinref10_Pair.l0 k x0 x7 x9 ([] : List Int) x1
def quoinref10_Pair.l0 : Nat → List Int → Bool → Int → List Int → Int → Option (Int × Int)
  | 0, _, _, _, _, _ => none
  | k + 1, x0, x7, x9, x10, x11 => if x11 ≥ 0 then (quoinref10_Pair.j2 k x0 x7 x9 x10 x11 (decide (x11 < (x0.length : Int)))) else (quoinref10_Pair.j2 k x0 x7 x9 x10 x11 false)
def quoinref10_Pair.j2 : Nat → List Int → Bool → Int → List Int → Int → Bool → Option (Int × Int)
  | 0, _, _, _, _, _, _ => none
  | k + 1, x0, x7, x9, x10, x11, x33 => if x33 = true then (if 0 ≤ x11 then (if x11 < (x0.length : Int) then ((quoinref06_Partner.f k (rd x0 x11)).bind fun bt277 => (if bt277.2.2 = true then (if (bt277.2.1 == x7) = true then (if x10.length < 140737488355328 then (quoinref10_Pair.l0 k x0 x7 x9 (x10 ++ [bt277.1]) (wrap64 (x11 + x9))) else (none)) else (if 0 ≤ (wrap64 ((x10.length : Int) - 1)) then (if (wrap64 ((x10.length : Int) - 1)) < (x10.length : Int) then (if (rd x10 (wrap64 ((x10.length : Int) - 1))) = (rd x0 x11) then (if (wrap64 ((x10.length : Int) - 1)) ≤ (x10.length : Int) then ((some (x10.take ((wrap64 ((x10.length : Int) - 1)) : Int).toNat : List Int)).bind fun y285 => (if (y285.length : Int) = 0 then (some (x11, 0)) else (quoinref10_Pair.l0 k x0 x7 x9 y285 (wrap64 (x11 + x9))))) else (none)) else (some (0, 70))) else (none)) else (none))) else (quoinref10_Pair.l0 k x0 x7 x9 x10 (wrap64 (x11 + x9))))) else (none)) else (none)) else (some (0, 70))
end
def quoinref10_Pair.f (k : Nat) (l0 : List Int) (a1 : Int) : Option (Int × Int) := if 0 ≤ a1 then (if a1 < (l0.length : Int) then ((quoinref06_Partner.f k (rd l0 a1)).bind fun bt273 => (if bt273.2.1 = true then (quoinref10_Pair.j0 k l0 a1 bt273.2.1 1) else (quoinref10_Pair.j0 k l0 a1 bt273.2.1 (-1)))) else (none)) else (none)
theorem quoinref10_Pair.mono_l : ∀ k, (∀ y0 y1 y2 y3, LeO (quoinref10_Pair.j0 k y0 y1 y2 y3) (quoinref10_Pair.j0 (k + 1) y0 y1 y2 y3)) ∧ (∀ y0 y1 y2 y3 y4, LeO (quoinref10_Pair.l0 k y0 y1 y2 y3 y4) (quoinref10_Pair.l0 (k + 1) y0 y1 y2 y3 y4)) ∧ (∀ y0 y1 y2 y3 y4 y5, LeO (quoinref10_Pair.j2 k y0 y1 y2 y3 y4 y5) (quoinref10_Pair.j2 (k + 1) y0 y1 y2 y3 y4 y5))
  | 0 => ⟨fun _ _ _ _ r h => by simp [quoinref10_Pair.j0] at h, fun _ _ _ _ _ r h => by simp [quoinref10_Pair.l0] at h, fun _ _ _ _ _ _ r h => by simp [quoinref10_Pair.j2] at h⟩
  | k + 1 => by
    obtain ⟨ih0, ih1, ih2⟩ := quoinref10_Pair.mono_l k
    refine ⟨?_, ?_, ?_⟩
    · intro y0 y1 y2 y3
      unfold quoinref10_Pair.j0
      repeat' first
      | (with_reducible exact ih0 _ _ _ _)
      | (with_reducible exact ih1 _ _ _ _ _)
      | (with_reducible exact ih2 _ _ _ _ _ _)
      | (with_reducible exact quoinref06_Partner.mono _ _)
      | (with_reducible exact LeO.refl _)
      | (with_reducible exact LeO.none _)
      | (with_reducible refine LeO.ite ?_ ?_)
      | (with_reducible refine LeO.bind ?_ (fun _ => ?_))
      | exact ih0 _ _ _ _
      | exact ih1 _ _ _ _ _
      | exact ih2 _ _ _ _ _ _
      | exact quoinref06_Partner.mono _ _
      | exact LeO.none _
      | refine LeO.ite ?_ ?_
      | refine LeO.bind ?_ (fun _ => ?_)
    · intro y0 y1 y2 y3 y4
      unfold quoinref10_Pair.l0
      repeat' first
      | (with_reducible exact ih0 _ _ _ _)
      | (with_reducible exact ih1 _ _ _ _ _)
      | (with_reducible exact ih2 _ _ _ _ _ _)
      | (with_reducible exact quoinref06_Partner.mono _ _)
      | (with_reducible exact LeO.refl _)
      | (with_reducible exact LeO.none _)
      | (with_reducible refine LeO.ite ?_ ?_)
      | (with_reducible refine LeO.bind ?_ (fun _ => ?_))
      | exact ih0 _ _ _ _
      | exact ih1 _ _ _ _ _
      | exact ih2 _ _ _ _ _ _
      | exact quoinref06_Partner.mono _ _
      | exact LeO.none _
      | refine LeO.ite ?_ ?_
      | refine LeO.bind ?_ (fun _ => ?_)
    · intro y0 y1 y2 y3 y4 y5
      unfold quoinref10_Pair.j2
      repeat' first
      | (with_reducible exact ih0 _ _ _ _)
      | (with_reducible exact ih1 _ _ _ _ _)
      | (with_reducible exact ih2 _ _ _ _ _ _)
      | (with_reducible exact quoinref06_Partner.mono _ _)
      | (with_reducible exact LeO.refl _)
      | (with_reducible exact LeO.none _)
      | (with_reducible refine LeO.ite ?_ ?_)
      | (with_reducible refine LeO.bind ?_ (fun _ => ?_))
      | exact ih0 _ _ _ _
      | exact ih1 _ _ _ _ _
      | exact ih2 _ _ _ _ _ _
      | exact quoinref06_Partner.mono _ _
      | exact LeO.none _
      | refine LeO.ite ?_ ?_
      | refine LeO.bind ?_ (fun _ => ?_)
theorem quoinref10_Pair.mono : ∀ a0 a1 k, LeO (quoinref10_Pair.f k a0 a1) (quoinref10_Pair.f (k + 1) a0 a1) := by
  intro a0 a1 k
  obtain ⟨ih0, ih1, ih2⟩ := quoinref10_Pair.mono_l k
  unfold quoinref10_Pair.f
  repeat' first
      | (with_reducible exact ih0 _ _ _ _)
      | (with_reducible exact ih1 _ _ _ _ _)
      | (with_reducible exact ih2 _ _ _ _ _ _)
      | (with_reducible exact quoinref06_Partner.mono _ _)
      | (with_reducible exact LeO.refl _)
      | (with_reducible exact LeO.none _)
      | (with_reducible refine LeO.ite ?_ ?_)
      | (with_reducible refine LeO.bind ?_ (fun _ => ?_))
      | exact ih0 _ _ _ _
      | exact ih1 _ _ _ _ _
      | exact ih2 _ _ _ _ _ _
      | exact quoinref06_Partner.mono _ _
      | exact LeO.none _
      | refine LeO.ite ?_ ?_
      | refine LeO.bind ?_ (fun _ => ?_)
set_option maxHeartbeats 8000000 in
set_option maxRecDepth 100000 in
theorem quoinref10_Pair.calls (k : Nat) (A0 : Option Addr) (c0 : Nat) (l0 : List Int) (a1 : Int) (r1 : Int) (r2 : Int) (w : World) (hr0 : Kd.C (Kd.int .u8) w A0 l0.length l0) (hc0 : l0.length ≤ c0) (h : quoinref10_Pair.f k l0 a1 = some (r1, r2)) :
    Calls Try.prog 22 #[.slice A0 l0.length c0, .int .i64 a1] w fun e w' => e = .returned (.tuple #[.int .i64 r1, .int .i64 r2]) ∧ Below w.heap.size w w' := by
  have HR0 := Aside0.mk hr0
  have HC0 := Aside0.mk hc0
  clear hr0 hc0
  have HB := Aside0.mk (Below.refl w.heap.size w)
  have H : (if 0 ≤ a1 then (if a1 < (l0.length : Int) then ((quoinref06_Partner.f k (rd l0 a1)).bind fun bt273 => (if bt273.2.1 = true then (quoinref10_Pair.j0 k l0 a1 bt273.2.1 1) else (quoinref10_Pair.j0 k l0 a1 bt273.2.1 (-1)))) else (none)) else (none)) = some (r1, r2) := h
  clear h
  by_cases c3 : 0 ≤ a1
  · rw [if_pos c3] at H
    have c3b0 : decide (0 ≤ a1) = true := decide_eq_true c3
    clear c3
    by_cases c4 : a1 < (l0.length : Int)
    · rw [if_pos c4] at H
      have c4b0 : decide (a1 < (l0.length : Int)) = true := decide_eq_true c4
      clear c4
      replace H := Option.bind_eq_some_iff.mp H
      obtain ⟨⟨t273, t274, t275⟩, A50, H⟩ := H
      replace H : (if t274 = true then (quoinref10_Pair.j0 k l0 a1 t274 1) else (quoinref10_Pair.j0 k l0 a1 t274 (-1))) = some (r1, r2) := H
      have A5 := Aside0.mk A50
      clear A50
      have HC6 := Aside0.mk H
      clear H
      have p272 : 0 ≤ (a1 : Int) := of_decide_eq_true (by first | (with_reducible assumption) | assumption)
      have q272 : a1 < (l0.length : Int) := of_decide_eq_true (by first | (with_reducible assumption) | assumption)
      obtain ⟨ad272, e272, hx272_0⟩ := Kd.at_int HR0.out a1 p272 q272
      cases e272
      replace p272 := eq_true p272
      replace q272 := eq_true q272
      go_enter Try.func22, Try.ntmps22
      go_upto_if 24 with (first | (go_at_call 32; (with_reducible refine (quoinref06_Partner.calls k (rd l0 a1) t273 t274 t275 _ A5.out).mono ?_); rintro e w' ⟨rfl, ⟨nd, rfl⟩⟩; (try first | exact ⟨rfl, _, World.drewN_drewN _ _ _⟩ | exact ⟨rfl, _, Eq.trans (World.drewN_drewN _ _ _) (congrArg (World.drewN _) (Nat.add_assoc _ _ _))⟩)))
      repeat (go_quiet (first | (go_at_call 32; (with_reducible refine (quoinref06_Partner.calls k (rd l0 a1) t273 t274 t275 _ A5.out).mono ?_); rintro e w' ⟨rfl, ⟨nd, rfl⟩⟩; (try first | exact ⟨rfl, _, World.drewN_drewN _ _ _⟩ | exact ⟨rfl, _, Eq.trans (World.drewN_drewN _ _ _) (congrArg (World.drewN _) (Nat.add_assoc _ _ _))⟩))); go_upto_if 24 with (first | (go_at_call 32; (with_reducible refine (quoinref06_Partner.calls k (rd l0 a1) t273 t274 t275 _ A5.out).mono ?_); rintro e w' ⟨rfl, ⟨nd, rfl⟩⟩; (try first | exact ⟨rfl, _, World.drewN_drewN _ _ _⟩ | exact ⟨rfl, _, Eq.trans (World.drewN_drewN _ _ _) (congrArg (World.drewN _) (Nat.add_assoc _ _ _))⟩))))
      (try simp only [Act.put, List.setIfInBounds_toArray, List.set_cons_zero, List.set_cons_succ])
      go_cut [9] (fun v9 wc => ∃ (kq : Nat) (x9_5 : Int), v9 = .int .i64 x9_5 ∧ Aside0 (quoinref10_Pair.j0 kq l0 a1 t274 x9_5 = some (r1, r2)) ∧ Aside0 (kq ≤ k) ∧ Aside0 (Below w.heap.size w wc))
      case first =>
        have H := HC6.out
        clear HC6
        by_cases c7 : t274 = true
        · subst c7
          have H1 : (quoinref10_Pair.j0 k l0 a1 true 1) = some (r1, r2) := by rw [if_pos rfl] at H; exact H
          clear H
          have H := H1
          clear H1
          have H' := Aside0.mk H
          clear H
          go_wp2
          repeat (go_quiet (fail); try go_wp2)
          go_meet
          case rel => exact ⟨_, (1), (by first | rfl | (simp; done) | (simp [*]; done)), H', ⟨by first | omega | exact Nat.le_refl _⟩, ⟨by repeat (first | (with_reducible first | exact HB.out | apply below_alloc | apply pw_below_drewN | apply below_drew1) | exact HB.out)⟩⟩
        · replace c7 := Bool.eq_false_iff.mpr c7
          subst c7
          have H1 : (quoinref10_Pair.j0 k l0 a1 false (-1)) = some (r1, r2) := by rw [if_neg (show ¬ (false = true) by decide)] at H; exact H
          clear H
          have H := H1
          clear H1
          have H' := Aside0.mk H
          clear H
          go_wp2
          repeat (go_quiet (fail); try go_wp2)
          go_meet
          case rel => exact ⟨_, ((-1)), (by first | rfl | (simp; done) | (simp [*]; done)), H', ⟨by first | omega | exact Nat.le_refl _⟩, ⟨by repeat (first | (with_reducible first | exact HB.out | apply below_alloc | apply pw_below_drewN | apply below_drew1) | exact HB.out)⟩⟩
      case rest =>
        clear HC6
        try clear c2
        try clear p2
        try clear q2
        try clear hx2
        try clear c3
        try clear c3b0
        try clear c4
        try clear c4b0
        try clear c7
        try clear hx272_0
        try clear p272
        try clear q272
        obtain ⟨kq, x9_5, rfl, HA, HJ5, HB⟩ := hcut
        cases kq with
        | zero => exact absurd HA.out (by simp [quoinref10_Pair.j0])
        | succ kj5 =>
          have H := HA.out
          clear HA
          simp only [quoinref10_Pair.j0] at H
          have H' := Aside0.mk H
          clear H
          go_wp2
          repeat (go_quiet (fail); try go_wp2)
          go_loopg [10, 11] kj5 (fun kq v10 v11 w' => ∃ (x10_2 : List Int) (x11_2 : Int), v11 = .int .i64 x11_2 ∧ Aside0 (quoinref10_Pair.l0 kq l0 t274 x9_5 x10_2 x11_2 = some (r1, r2)) ∧ Aside0 (kq ≤ kj5) ∧ Aside0 (Kd.R (Kd.int .u8) 5 w' w.heap.size (fun _ => True) v10 x10_2) ∧ Aside0 (Below w.heap.size w w'))
          case atStart => exact ⟨(([] : List Int)), (a1), (by first | rfl | (simp; done) | (simp [*]; done)), H', ⟨Nat.le_refl _⟩, ⟨by first | exact Kd.R_nil _ _ _ _ _ | exact Kd.N_nil _ _ _ _ _ | exact Kd.V_nil _ _ _ _ _ | exact Kd.Q_nil _ _ _ _ _ | exact Kd.S_nil _ _ _ _ _⟩, ⟨by repeat (first | (with_reducible first | exact HB.out | apply below_alloc | apply pw_below_drewN | apply below_drew1) | exact HB.out)⟩⟩
          case round =>
            clear H'
            try clear c2
            try clear p2
            try clear q2
            try clear hx2
            try clear c3
            try clear c3b0
            try clear c4
            try clear c4b0
            try clear c7
            try clear hx272_0
            try clear p2
            try clear p272
            try clear q2
            try clear q272
            obtain ⟨x10_2, x11_2, rfl, HA, HK2, HO_10, HB⟩ := hrel
            cases gk with
            | zero => exact absurd HA.out (by simp [quoinref10_Pair.l0])
            | succ k2 =>
              have H := HA.out
              clear HA
              simp only [quoinref10_Pair.l0] at H
              have HC8 := Aside0.mk H
              clear H
              go_upto_region 7 with (fail)
              repeat (go_quiet (fail); go_upto_region 7 with (fail))
              go_cut [33] (fun v33 wc => ∃ (kq : Nat) (x33_7 : Bool), v33 = .bool x33_7 ∧ Aside0 (quoinref10_Pair.j2 kq l0 t274 x9_5 x10_2 x11_2 x33_7 = some (r1, r2)) ∧ Aside0 (kq ≤ k2) ∧ Aside0 (Kd.R (Kd.int .u8) 5 wc w.heap.size (fun _ => True) u10 x10_2) ∧ Aside0 (Below w.heap.size w wc))
              case first =>
                have H := HC8.out
                clear HC8
                by_cases c9 : x11_2 ≥ 0
                · rw [if_pos c9] at H
                  have c9b0 : decide (0 ≤ x11_2) = true := decide_eq_true c9
                  clear c9
                  (first | rw [c9b0] | (simp only [i64_w, i32_w]; rw [c9b0]) | skip)
                  have H' := Aside0.mk H
                  clear H
                  go_wp2
                  repeat (go_quiet (fail); try go_wp2)
                  go_meet
                  case rel => exact ⟨_, (decide (x11_2 < (l0.length : Int))), (by first | rfl | (simp; done) | (simp [*]; done)), H', ⟨by have := HJ5.out; have := HK2.out; first | omega | exact Nat.le_refl _⟩, ⟨by (with_reducible repeat (first | apply Kd.R_alloc | apply Kd.R_drewN | apply Kd.R_drew)); exact HO_10.out⟩, ⟨by repeat (first | (with_reducible first | exact HB.out | apply below_alloc | apply pw_below_drewN | apply below_drew1) | exact HB.out)⟩⟩
                · rw [if_neg c9] at H
                  have c9b0 : decide (0 ≤ x11_2) = false := decide_eq_false c9
                  clear c9
                  (first | rw [c9b0] | (simp only [i64_w, i32_w]; rw [c9b0]) | skip)
                  have H' := Aside0.mk H
                  clear H
                  go_wp2
                  repeat (go_quiet (fail); try go_wp2)
                  go_meet
                  case rel => exact ⟨_, (false), (by first | rfl | (simp; done) | (simp [*]; done)), H', ⟨by have := HJ5.out; have := HK2.out; first | omega | exact Nat.le_refl _⟩, ⟨by (with_reducible repeat (first | apply Kd.R_alloc | apply Kd.R_drewN | apply Kd.R_drew)); exact HO_10.out⟩, ⟨by repeat (first | (with_reducible first | exact HB.out | apply below_alloc | apply pw_below_drewN | apply below_drew1) | exact HB.out)⟩⟩
              case rest =>
                clear HC8
                try clear c2
                try clear p2
                try clear q2
                try clear hx2
                try clear c3
                try clear c3b0
                try clear c4
                try clear c4b0
                try clear c7
                try clear c9
                try clear c9b0
                try clear hx272_0
                try clear p2
                try clear p272
                try clear q2
                try clear q272
                obtain ⟨kq, x33_7, rfl, HA, HJ7, HO_10, HB⟩ := hcut
                cases kq with
                | zero => exact absurd HA.out (by simp [quoinref10_Pair.j2])
                | succ kj7 =>
                  have H := HA.out
                  clear HA
                  simp only [quoinref10_Pair.j2] at H
                  by_cases c10 : x33_7 = true
                  · subst c10
                    have H1 : (if 0 ≤ x11_2 then (if x11_2 < (l0.length : Int) then ((quoinref06_Partner.f kj7 (rd l0 x11_2)).bind fun bt277 => (if bt277.2.2 = true then (if (bt277.2.1 == t274) = true then (if x10_2.length < 140737488355328 then (quoinref10_Pair.l0 kj7 l0 t274 x9_5 (x10_2 ++ [bt277.1]) (wrap64 (x11_2 + x9_5))) else (none)) else (if 0 ≤ (wrap64 ((x10_2.length : Int) - 1)) then (if (wrap64 ((x10_2.length : Int) - 1)) < (x10_2.length : Int) then (if (rd x10_2 (wrap64 ((x10_2.length : Int) - 1))) = (rd l0 x11_2) then (if (wrap64 ((x10_2.length : Int) - 1)) ≤ (x10_2.length : Int) then ((some (x10_2.take ((wrap64 ((x10_2.length : Int) - 1)) : Int).toNat : List Int)).bind fun y285 => (if (y285.length : Int) = 0 then (some (x11_2, 0)) else (quoinref10_Pair.l0 kj7 l0 t274 x9_5 y285 (wrap64 (x11_2 + x9_5))))) else (none)) else (some (0, 70))) else (none)) else (none))) else (quoinref10_Pair.l0 kj7 l0 t274 x9_5 x10_2 (wrap64 (x11_2 + x9_5))))) else (none)) else (none)) = some (r1, r2) := by rw [if_pos rfl] at H; exact H
                    clear H
                    have H := H1
                    clear H1
                    by_cases c11 : 0 ≤ x11_2
                    · rw [if_pos c11] at H
                      have c11b0 : decide (0 ≤ x11_2) = true := decide_eq_true c11
                      clear c11
                      by_cases c12 : x11_2 < (l0.length : Int)
                      · rw [if_pos c12] at H
                        have c12b0 : decide (x11_2 < (l0.length : Int)) = true := decide_eq_true c12
                        clear c12
                        replace H := Option.bind_eq_some_iff.mp H
                        obtain ⟨⟨t277, t278, t279⟩, A130, H⟩ := H
                        replace H : (if t279 = true then (if (t278 == t274) = true then (if x10_2.length < 140737488355328 then (quoinref10_Pair.l0 kj7 l0 t274 x9_5 (x10_2 ++ [t277]) (wrap64 (x11_2 + x9_5))) else (none)) else (if 0 ≤ (wrap64 ((x10_2.length : Int) - 1)) then (if (wrap64 ((x10_2.length : Int) - 1)) < (x10_2.length : Int) then (if (rd x10_2 (wrap64 ((x10_2.length : Int) - 1))) = (rd l0 x11_2) then (if (wrap64 ((x10_2.length : Int) - 1)) ≤ (x10_2.length : Int) then ((some (x10_2.take ((wrap64 ((x10_2.length : Int) - 1)) : Int).toNat : List Int)).bind fun y285 => (if (y285.length : Int) = 0 then (some (x11_2, 0)) else (quoinref10_Pair.l0 kj7 l0 t274 x9_5 y285 (wrap64 (x11_2 + x9_5))))) else (none)) else (some (0, 70))) else (none)) else (none))) else (quoinref10_Pair.l0 kj7 l0 t274 x9_5 x10_2 (wrap64 (x11_2 + x9_5)))) = some (r1, r2) := H
                        have A13 := Aside0.mk A130
                        clear A130
                        by_cases c14 : t279 = true
                        · subst c14
                          have H1 : (if (t278 == t274) = true then (if x10_2.length < 140737488355328 then (quoinref10_Pair.l0 kj7 l0 t274 x9_5 (x10_2 ++ [t277]) (wrap64 (x11_2 + x9_5))) else (none)) else (if 0 ≤ (wrap64 ((x10_2.length : Int) - 1)) then (if (wrap64 ((x10_2.length : Int) - 1)) < (x10_2.length : Int) then (if (rd x10_2 (wrap64 ((x10_2.length : Int) - 1))) = (rd l0 x11_2) then (if (wrap64 ((x10_2.length : Int) - 1)) ≤ (x10_2.length : Int) then ((some (x10_2.take ((wrap64 ((x10_2.length : Int) - 1)) : Int).toNat : List Int)).bind fun y285 => (if (y285.length : Int) = 0 then (some (x11_2, 0)) else (quoinref10_Pair.l0 kj7 l0 t274 x9_5 y285 (wrap64 (x11_2 + x9_5))))) else (none)) else (some (0, 70))) else (none)) else (none))) = some (r1, r2) := by rw [if_pos rfl] at H; exact H
                          clear H
                          have H := H1
                          clear H1
                          by_cases c15 : (t278 == t274) = true
                          · rw [if_pos c15] at H
                            have c15b0 : (t278 == t274) = true := c15
                            (try (have c15b1 : decide (t278 = t274) = true := by simpa using c15))
                            (try (have c15b2 : (t278 == t274) = true := by simpa using c15))
                            clear c15
                            by_cases c16 : x10_2.length < 140737488355328
                            · rw [if_pos c16] at H
                              have LMc16 := Aside0.mk c16
                              clear c16
                              obtain ⟨y280, hy280⟩ : ∃ y_ : List Int, y_ = (x10_2 ++ [t277]) := ⟨_, rfl⟩
                              replace H : (quoinref10_Pair.l0 kj7 l0 t274 x9_5 y280 (wrap64 (x11_2 + x9_5))) = some (r1, r2) := by first | (rw [hy280]; with_reducible exact H) | (have H2_ := (Option.bind_some _ _).symm.trans H; rw [hy280]; with_reducible exact H2_) | (have H2_ := (Option.bind_some _ _).symm.trans H; with_reducible exact H2_) | with_reducible exact H | (rw [hy280]; exact H) | exact H
                              have Ny280 := Aside0.mk hy280
                              clear hy280
                              have H' := Aside0.mk H
                              clear H
                              have p276 : 0 ≤ (x11_2 : Int) := of_decide_eq_true (by first | (with_reducible assumption) | assumption)
                              have q276 : x11_2 < (l0.length : Int) := of_decide_eq_true (by first | (with_reducible assumption) | assumption)
                              obtain ⟨ad276, e276, hx276_0⟩ := Kd.at_int HR0.out x11_2 p276 q276
                              obtain rfl : ad272 = ad276 := (by injection e276)
                              replace hx276_0 := (HB.out.cell (World.block_lt_of_cell? w _ hx276_0)).trans hx276_0
                              replace p276 := eq_true p276
                              replace q276 := eq_true q276
                              go_wp2_with (first | (go_at_call 32; (with_reducible refine (quoinref06_Partner.calls kj7 (rd l0 x11_2) t277 t278 true _ A13.out).mono ?_); rintro e w' ⟨rfl, ⟨nd, rfl⟩⟩; (try first | exact ⟨rfl, _, World.drewN_drewN _ _ _⟩ | exact ⟨rfl, _, Eq.trans (World.drewN_drewN _ _ _) (congrArg (World.drewN _) (Nat.add_assoc _ _ _))⟩)) | ((with_reducible refine gate_builtin (b := .append) (xs := #[.tmp 51, .tmp 53]) rfl ?_); (try (refine gate_guard (by rfl) ?_; dsimp only)); at_builtin; refine Kd.R_append (Kd.int .u8) (w0 := w) w.heap.size rfl (.tmp 51) (.tmp 53) 22 5 (.int .u8 0) 1 rfl Try.underlying22 info5 rfl (by decide) (by omega) u10 x10_2 t277 [.int .u8 t277] (fun _ => True) (fun _ => False) rfl rfl ?aP (fun _ hk => hk.elim) ?aF ?aO ?aB ?aS ?aL ?_; (case aP => exact rfl); (case aB => exact (by repeat (first | (with_reducible first | exact HB.out | apply below_alloc | apply pw_below_drewN | apply below_drew1) | exact HB.out))); (case aF => exact (fun _ _ => trivial)); (case aO => exact (by (with_reducible repeat (first | apply Kd.R_alloc | apply Kd.R_drewN | apply Kd.R_drew)); exact HO_10.out)); (case aS => exact (below_size (by repeat (first | (with_reducible first | exact HB.out | apply below_alloc | apply pw_below_drewN | apply below_drew1) | exact HB.out)))); (case aL => have := LMc16.out; omega); intro v281 w17 ho hb hg hat; rw [← Ny280.out] at ho; have n0_ := Aside0.mk (hb); have n1_ := Aside0.mk (ho); clear HB; clear HO_10; have HB := n0_; have HO282 := n1_; clear n0_ n1_; clear ho hb hg hat))
                              repeat (go_quiet (first | (go_at_call 32; (with_reducible refine (quoinref06_Partner.calls kj7 (rd l0 x11_2) t277 t278 true _ A13.out).mono ?_); rintro e w' ⟨rfl, ⟨nd, rfl⟩⟩; (try first | exact ⟨rfl, _, World.drewN_drewN _ _ _⟩ | exact ⟨rfl, _, Eq.trans (World.drewN_drewN _ _ _) (congrArg (World.drewN _) (Nat.add_assoc _ _ _))⟩)) | ((with_reducible refine gate_builtin (b := .append) (xs := #[.tmp 51, .tmp 53]) rfl ?_); (try (refine gate_guard (by rfl) ?_; dsimp only)); at_builtin; refine Kd.R_append (Kd.int .u8) (w0 := w) w.heap.size rfl (.tmp 51) (.tmp 53) 22 5 (.int .u8 0) 1 rfl Try.underlying22 info5 rfl (by decide) (by omega) u10 x10_2 t277 [.int .u8 t277] (fun _ => True) (fun _ => False) rfl rfl ?aP (fun _ hk => hk.elim) ?aF ?aO ?aB ?aS ?aL ?_; (case aP => exact rfl); (case aB => exact (by repeat (first | (with_reducible first | exact HB.out | apply below_alloc | apply pw_below_drewN | apply below_drew1) | exact HB.out))); (case aF => exact (fun _ _ => trivial)); (case aO => exact (by (with_reducible repeat (first | apply Kd.R_alloc | apply Kd.R_drewN | apply Kd.R_drew)); exact HO_10.out)); (case aS => exact (below_size (by repeat (first | (with_reducible first | exact HB.out | apply below_alloc | apply pw_below_drewN | apply below_drew1) | exact HB.out)))); (case aL => have := LMc16.out; omega); intro v281 w17 ho hb hg hat; rw [← Ny280.out] at ho; have n0_ := Aside0.mk (hb); have n1_ := Aside0.mk (ho); clear HB; clear HO_10; have HB := n0_; have HO282 := n1_; clear n0_ n1_; clear ho hb hg hat)); try go_wp2_with (first | (go_at_call 32; (with_reducible refine (quoinref06_Partner.calls kj7 (rd l0 x11_2) t277 t278 true _ A13.out).mono ?_); rintro e w' ⟨rfl, ⟨nd, rfl⟩⟩; (try first | exact ⟨rfl, _, World.drewN_drewN _ _ _⟩ | exact ⟨rfl, _, Eq.trans (World.drewN_drewN _ _ _) (congrArg (World.drewN _) (Nat.add_assoc _ _ _))⟩)) | ((with_reducible refine gate_builtin (b := .append) (xs := #[.tmp 51, .tmp 53]) rfl ?_); (try (refine gate_guard (by rfl) ?_; dsimp only)); at_builtin; refine Kd.R_append (Kd.int .u8) (w0 := w) w.heap.size rfl (.tmp 51) (.tmp 53) 22 5 (.int .u8 0) 1 rfl Try.underlying22 info5 rfl (by decide) (by omega) u10 x10_2 t277 [.int .u8 t277] (fun _ => True) (fun _ => False) rfl rfl ?aP (fun _ hk => hk.elim) ?aF ?aO ?aB ?aS ?aL ?_; (case aP => exact rfl); (case aB => exact (by repeat (first | (with_reducible first | exact HB.out | apply below_alloc | apply pw_below_drewN | apply below_drew1) | exact HB.out))); (case aF => exact (fun _ _ => trivial)); (case aO => exact (by (with_reducible repeat (first | apply Kd.R_alloc | apply Kd.R_drewN | apply Kd.R_drew)); exact HO_10.out)); (case aS => exact (below_size (by repeat (first | (with_reducible first | exact HB.out | apply below_alloc | apply pw_below_drewN | apply below_drew1) | exact HB.out)))); (case aL => have := LMc16.out; omega); intro v281 w17 ho hb hg hat; rw [← Ny280.out] at ho; have n0_ := Aside0.mk (hb); have n1_ := Aside0.mk (ho); clear HB; clear HO_10; have HB := n0_; have HO282 := n1_; clear n0_ n1_; clear ho hb hg hat)))
                              go_roundg kj7
                              case measure => have := HJ5.out; have := HK2.out; have := HJ7.out; omega
                              case rel => exact ⟨(y280), (wrap64 (x11_2 + x9_5)), (by first | rfl | (simp; done) | (simp [*]; done)), H', ⟨by have := HJ5.out; have := HK2.out; have := HJ7.out; omega⟩, ⟨by (with_reducible repeat (first | apply Kd.R_alloc | apply Kd.R_drewN | apply Kd.R_drew)); exact HO282.out⟩, ⟨by repeat (first | (with_reducible first | exact HB.out | apply below_alloc | apply pw_below_drewN | apply below_drew1) | exact HB.out)⟩⟩
                            · rw [if_neg c16] at H
                              exact absurd H (by simp)
                          · rw [if_neg c15] at H
                            have c15b0 : (t278 == t274) = false := by simpa using c15
                            (try (have c15b1 : decide (t278 = t274) = false := by simpa using c15))
                            (try (have c15b2 : (t278 == t274) = false := by simpa using c15))
                            (try (have c15b3 : ¬ (t278 = t274) := by simpa using c15))
                            clear c15
                            obtain ⟨ji18, hji18⟩ : ∃ j_ : Int, (wrap64 ((x10_2.length : Int) - 1)) = j_ := ⟨_, rfl⟩
                            replace H : (if 0 ≤ (ji18) then (if (ji18) < (x10_2.length : Int) then (if (rd x10_2 (ji18)) = (rd l0 x11_2) then (if (ji18) ≤ (x10_2.length : Int) then ((some (x10_2.take ((ji18) : Int).toNat : List Int)).bind fun y285 => (if (y285.length : Int) = 0 then (some (x11_2, 0)) else (quoinref10_Pair.l0 kj7 l0 t274 x9_5 y285 (wrap64 (x11_2 + x9_5))))) else (none)) else (some (0, 70))) else (none)) else (none)) = some (r1, r2) := by first | (rw [hji18] at H; exact H) | (simp only [hji18] at H ⊢; exact H)
                            (try rw [hji18] at A13)
                            have hji18w : (IntKind.i64.wrap ((x10_2.length : Int) - 1)) = ji18 := (i64_w _).trans hji18
                            by_cases c19 : 0 ≤ (ji18)
                            · rw [if_pos c19] at H
                              have c19b0 : decide (0 ≤ (ji18)) = true := decide_eq_true c19
                              clear c19
                              by_cases c20 : (ji18) < (x10_2.length : Int)
                              · rw [if_pos c20] at H
                                have c20b0 : decide ((ji18) < (x10_2.length : Int)) = true := decide_eq_true c20
                                clear c20
                                by_cases c21 : (rd x10_2 (ji18)) = (rd l0 x11_2)
                                · rw [if_pos c21] at H
                                  have c21b0 : ((rd x10_2 (ji18)) == (rd l0 x11_2)) = true := beq_iff_eq.mpr c21
                                  have c21b1 : ((rd x10_2 (ji18)) != (rd l0 x11_2)) = false := bne_eq_false_iff_eq.mpr c21
                                  clear c21
                                  by_cases c22 : (ji18) ≤ (x10_2.length : Int)
                                  · rw [if_pos c22] at H
                                    have c22b0 := eq_true c22
                                    have c22b1 : decide ((ji18) ≤ (x10_2.length : Int)) = true := decide_eq_true c22
                                    clear c22
                                    obtain ⟨y285, hy285⟩ : ∃ y_ : List Int, y_ = (x10_2.take ((ji18) : Int).toNat) := ⟨_, rfl⟩
                                    replace H : (if (y285.length : Int) = 0 then (some (x11_2, 0)) else (quoinref10_Pair.l0 kj7 l0 t274 x9_5 y285 (wrap64 (x11_2 + x9_5)))) = some (r1, r2) := by first | (rw [hy285]; with_reducible exact H) | (have H2_ := (Option.bind_some _ _).symm.trans H; rw [hy285]; with_reducible exact H2_) | (have H2_ := (Option.bind_some _ _).symm.trans H; with_reducible exact H2_) | with_reducible exact H | (rw [hy285]; exact H) | exact H
                                    have Ny285 := Aside0.mk hy285
                                    clear hy285
                                    by_cases c23 : (y285.length : Int) = 0
                                    · rw [if_pos c23] at H
                                      have c23b0 : ((y285.length : Int) == 0) = true := beq_iff_eq.mpr c23
                                      have c23b1 : ((y285.length : Int) != 0) = false := bne_eq_false_iff_eq.mpr c23
                                      clear c23
                                      simp only [Option.some.injEq, Prod.mk.injEq] at H
                                      obtain ⟨rfl, rfl⟩ := H
                                      have p276 : 0 ≤ (x11_2 : Int) := of_decide_eq_true (by first | (with_reducible assumption) | assumption)
                                      have q276 : x11_2 < (l0.length : Int) := of_decide_eq_true (by first | (with_reducible assumption) | assumption)
                                      obtain ⟨ad276, e276, hx276_0⟩ := Kd.at_int HR0.out x11_2 p276 q276
                                      obtain rfl : ad272 = ad276 := (by injection e276)
                                      replace hx276_0 := (HB.out.cell (World.block_lt_of_cell? w _ hx276_0)).trans hx276_0
                                      replace p276 := eq_true p276
                                      replace q276 := eq_true q276
                                      go_wp2_with (first | (go_at_call 32; (with_reducible refine (quoinref06_Partner.calls kj7 (rd l0 x11_2) t277 t278 true _ A13.out).mono ?_); rintro e w' ⟨rfl, ⟨nd, rfl⟩⟩; (try first | exact ⟨rfl, _, World.drewN_drewN _ _ _⟩ | exact ⟨rfl, _, Eq.trans (World.drewN_drewN _ _ _) (congrArg (World.drewN _) (Nat.add_assoc _ _ _))⟩); obtain ⟨Ao24, co24, eo24⟩ := Kd.R_slice HO_10.out; subst eo24; have p283 : 0 ≤ ((ji18) : Int) := of_decide_eq_true (by first | (with_reducible assumption) | assumption); have q283 : (ji18) < (x10_2.length : Int) := of_decide_eq_true (by first | (with_reducible assumption) | assumption); obtain ⟨ad283, e283, hx283_0⟩ := Kd.at_int (Kd.R_reads' HO_10.out).2.2 (ji18) p283 q283; cases e283; replace p283 := eq_true p283; replace q283 := eq_true q283; have p284 : 0 ≤ (x11_2 : Int) := of_decide_eq_true (by first | (with_reducible assumption) | assumption); have q284 : x11_2 < (l0.length : Int) := of_decide_eq_true (by first | (with_reducible assumption) | assumption); obtain ⟨ad284, e284, hx284_0⟩ := Kd.at_int HR0.out x11_2 p284 q284; obtain rfl : ad272 = ad284 := (by injection e284); replace hx284_0 := (HB.out.cell (World.block_lt_of_cell? w _ hx284_0)).trans hx284_0; replace p284 := eq_true p284; replace q284 := eq_true q284; have q25 : ((ji18) : Int) ≤ ((x10_2.length : Int) : Int) := of_decide_eq_true (by first | (with_reducible assumption) | assumption); obtain ⟨i025, hi025, _, hsz25, _⟩ := info_parts info5; have hcut25 := cut_to (P := Try.prog) 22 5 .i64 Try.underlying22 hi025 (some ad283) x10_2.length co24 (ji18) (of_decide_eq_true (by first | (with_reducible assumption) | assumption)) q25 (Kd.R_reads' HO_10.out).2.1; have hr25 := Kd.R_take (m := ((ji18) : Int).toNat) HO_10.out (by omega); have hy25 : y285.length = ((ji18) : Int).toNat := (by rw [Ny285.out, List.length_take]; omega); rw [← Ny285.out] at hr25; rw [← hy25] at hr25 hcut25; clear hy25 hi025 hsz25 HO_10; have HO287 := Aside0.mk hr25; clear hr25; replace q25 := eq_true q25))
                                      repeat (go_quiet (first | (go_at_call 32; (with_reducible refine (quoinref06_Partner.calls kj7 (rd l0 x11_2) t277 t278 true _ A13.out).mono ?_); rintro e w' ⟨rfl, ⟨nd, rfl⟩⟩; (try first | exact ⟨rfl, _, World.drewN_drewN _ _ _⟩ | exact ⟨rfl, _, Eq.trans (World.drewN_drewN _ _ _) (congrArg (World.drewN _) (Nat.add_assoc _ _ _))⟩); obtain ⟨Ao24, co24, eo24⟩ := Kd.R_slice HO_10.out; subst eo24; have p283 : 0 ≤ ((ji18) : Int) := of_decide_eq_true (by first | (with_reducible assumption) | assumption); have q283 : (ji18) < (x10_2.length : Int) := of_decide_eq_true (by first | (with_reducible assumption) | assumption); obtain ⟨ad283, e283, hx283_0⟩ := Kd.at_int (Kd.R_reads' HO_10.out).2.2 (ji18) p283 q283; cases e283; replace p283 := eq_true p283; replace q283 := eq_true q283; have p284 : 0 ≤ (x11_2 : Int) := of_decide_eq_true (by first | (with_reducible assumption) | assumption); have q284 : x11_2 < (l0.length : Int) := of_decide_eq_true (by first | (with_reducible assumption) | assumption); obtain ⟨ad284, e284, hx284_0⟩ := Kd.at_int HR0.out x11_2 p284 q284; obtain rfl : ad272 = ad284 := (by injection e284); replace hx284_0 := (HB.out.cell (World.block_lt_of_cell? w _ hx284_0)).trans hx284_0; replace p284 := eq_true p284; replace q284 := eq_true q284; have q25 : ((ji18) : Int) ≤ ((x10_2.length : Int) : Int) := of_decide_eq_true (by first | (with_reducible assumption) | assumption); obtain ⟨i025, hi025, _, hsz25, _⟩ := info_parts info5; have hcut25 := cut_to (P := Try.prog) 22 5 .i64 Try.underlying22 hi025 (some ad283) x10_2.length co24 (ji18) (of_decide_eq_true (by first | (with_reducible assumption) | assumption)) q25 (Kd.R_reads' HO_10.out).2.1; have hr25 := Kd.R_take (m := ((ji18) : Int).toNat) HO_10.out (by omega); have hy25 : y285.length = ((ji18) : Int).toNat := (by rw [Ny285.out, List.length_take]; omega); rw [← Ny285.out] at hr25; rw [← hy25] at hr25 hcut25; clear hy25 hi025 hsz25 HO_10; have HO287 := Aside0.mk hr25; clear hr25; replace q25 := eq_true q25)); try go_wp2_with (first | (go_at_call 32; (with_reducible refine (quoinref06_Partner.calls kj7 (rd l0 x11_2) t277 t278 true _ A13.out).mono ?_); rintro e w' ⟨rfl, ⟨nd, rfl⟩⟩; (try first | exact ⟨rfl, _, World.drewN_drewN _ _ _⟩ | exact ⟨rfl, _, Eq.trans (World.drewN_drewN _ _ _) (congrArg (World.drewN _) (Nat.add_assoc _ _ _))⟩); obtain ⟨Ao24, co24, eo24⟩ := Kd.R_slice HO_10.out; subst eo24; have p283 : 0 ≤ ((ji18) : Int) := of_decide_eq_true (by first | (with_reducible assumption) | assumption); have q283 : (ji18) < (x10_2.length : Int) := of_decide_eq_true (by first | (with_reducible assumption) | assumption); obtain ⟨ad283, e283, hx283_0⟩ := Kd.at_int (Kd.R_reads' HO_10.out).2.2 (ji18) p283 q283; cases e283; replace p283 := eq_true p283; replace q283 := eq_true q283; have p284 : 0 ≤ (x11_2 : Int) := of_decide_eq_true (by first | (with_reducible assumption) | assumption); have q284 : x11_2 < (l0.length : Int) := of_decide_eq_true (by first | (with_reducible assumption) | assumption); obtain ⟨ad284, e284, hx284_0⟩ := Kd.at_int HR0.out x11_2 p284 q284; obtain rfl : ad272 = ad284 := (by injection e284); replace hx284_0 := (HB.out.cell (World.block_lt_of_cell? w _ hx284_0)).trans hx284_0; replace p284 := eq_true p284; replace q284 := eq_true q284; have q25 : ((ji18) : Int) ≤ ((x10_2.length : Int) : Int) := of_decide_eq_true (by first | (with_reducible assumption) | assumption); obtain ⟨i025, hi025, _, hsz25, _⟩ := info_parts info5; have hcut25 := cut_to (P := Try.prog) 22 5 .i64 Try.underlying22 hi025 (some ad283) x10_2.length co24 (ji18) (of_decide_eq_true (by first | (with_reducible assumption) | assumption)) q25 (Kd.R_reads' HO_10.out).2.1; have hr25 := Kd.R_take (m := ((ji18) : Int).toNat) HO_10.out (by omega); have hy25 : y285.length = ((ji18) : Int).toNat := (by rw [Ny285.out, List.length_take]; omega); rw [← Ny285.out] at hr25; rw [← hy25] at hr25 hcut25; clear hy25 hi025 hsz25 HO_10; have HO287 := Aside0.mk hr25; clear hr25; replace q25 := eq_true q25)))
                                      go_ret2
                                      exact ⟨by first | rfl | (simp [errW_none, errW_some] <;> rfl) | (simp only [← hji18]; first | rfl | (simp [errW_none, errW_some] <;> rfl)) | (simp [*, errW_none, errW_some] <;> rfl), by repeat (first | (with_reducible first | exact HB.out | apply below_alloc | apply pw_below_drewN | apply below_drew1) | exact HB.out)⟩
                                    · rw [if_neg c23] at H
                                      have c23b0 : ((y285.length : Int) == 0) = false := beq_eq_false_iff_ne.mpr c23
                                      have c23b1 : ((y285.length : Int) != 0) = true := bne_iff_ne.mpr c23
                                      have c23b2 : ¬ (y285 = []) := fun h_ => c23 (by rw [h_]; rfl)
                                      have H' := Aside0.mk H
                                      clear H
                                      have p276 : 0 ≤ (x11_2 : Int) := of_decide_eq_true (by first | (with_reducible assumption) | assumption)
                                      have q276 : x11_2 < (l0.length : Int) := of_decide_eq_true (by first | (with_reducible assumption) | assumption)
                                      obtain ⟨ad276, e276, hx276_0⟩ := Kd.at_int HR0.out x11_2 p276 q276
                                      obtain rfl : ad272 = ad276 := (by injection e276)
                                      replace hx276_0 := (HB.out.cell (World.block_lt_of_cell? w _ hx276_0)).trans hx276_0
                                      replace p276 := eq_true p276
                                      replace q276 := eq_true q276
                                      go_wp2_with (first | (go_at_call 32; (with_reducible refine (quoinref06_Partner.calls kj7 (rd l0 x11_2) t277 t278 true _ A13.out).mono ?_); rintro e w' ⟨rfl, ⟨nd, rfl⟩⟩; (try first | exact ⟨rfl, _, World.drewN_drewN _ _ _⟩ | exact ⟨rfl, _, Eq.trans (World.drewN_drewN _ _ _) (congrArg (World.drewN _) (Nat.add_assoc _ _ _))⟩); obtain ⟨Ao26, co26, eo26⟩ := Kd.R_slice HO_10.out; subst eo26; have p283 : 0 ≤ ((ji18) : Int) := of_decide_eq_true (by first | (with_reducible assumption) | assumption); have q283 : (ji18) < (x10_2.length : Int) := of_decide_eq_true (by first | (with_reducible assumption) | assumption); obtain ⟨ad283, e283, hx283_0⟩ := Kd.at_int (Kd.R_reads' HO_10.out).2.2 (ji18) p283 q283; cases e283; replace p283 := eq_true p283; replace q283 := eq_true q283; have p284 : 0 ≤ (x11_2 : Int) := of_decide_eq_true (by first | (with_reducible assumption) | assumption); have q284 : x11_2 < (l0.length : Int) := of_decide_eq_true (by first | (with_reducible assumption) | assumption); obtain ⟨ad284, e284, hx284_0⟩ := Kd.at_int HR0.out x11_2 p284 q284; obtain rfl : ad272 = ad284 := (by injection e284); replace hx284_0 := (HB.out.cell (World.block_lt_of_cell? w _ hx284_0)).trans hx284_0; replace p284 := eq_true p284; replace q284 := eq_true q284; have q27 : ((ji18) : Int) ≤ ((x10_2.length : Int) : Int) := of_decide_eq_true (by first | (with_reducible assumption) | assumption); obtain ⟨i027, hi027, _, hsz27, _⟩ := info_parts info5; have hcut27 := cut_to (P := Try.prog) 22 5 .i64 Try.underlying22 hi027 (some ad283) x10_2.length co26 (ji18) (of_decide_eq_true (by first | (with_reducible assumption) | assumption)) q27 (Kd.R_reads' HO_10.out).2.1; have hr27 := Kd.R_take (m := ((ji18) : Int).toNat) HO_10.out (by omega); have hy27 : y285.length = ((ji18) : Int).toNat := (by rw [Ny285.out, List.length_take]; omega); rw [← Ny285.out] at hr27; rw [← hy27] at hr27 hcut27; clear hy27 hi027 hsz27 HO_10; have HO287 := Aside0.mk hr27; clear hr27; replace q27 := eq_true q27))
                                      repeat (go_quiet (first | (go_at_call 32; (with_reducible refine (quoinref06_Partner.calls kj7 (rd l0 x11_2) t277 t278 true _ A13.out).mono ?_); rintro e w' ⟨rfl, ⟨nd, rfl⟩⟩; (try first | exact ⟨rfl, _, World.drewN_drewN _ _ _⟩ | exact ⟨rfl, _, Eq.trans (World.drewN_drewN _ _ _) (congrArg (World.drewN _) (Nat.add_assoc _ _ _))⟩); obtain ⟨Ao26, co26, eo26⟩ := Kd.R_slice HO_10.out; subst eo26; have p283 : 0 ≤ ((ji18) : Int) := of_decide_eq_true (by first | (with_reducible assumption) | assumption); have q283 : (ji18) < (x10_2.length : Int) := of_decide_eq_true (by first | (with_reducible assumption) | assumption); obtain ⟨ad283, e283, hx283_0⟩ := Kd.at_int (Kd.R_reads' HO_10.out).2.2 (ji18) p283 q283; cases e283; replace p283 := eq_true p283; replace q283 := eq_true q283; have p284 : 0 ≤ (x11_2 : Int) := of_decide_eq_true (by first | (with_reducible assumption) | assumption); have q284 : x11_2 < (l0.length : Int) := of_decide_eq_true (by first | (with_reducible assumption) | assumption); obtain ⟨ad284, e284, hx284_0⟩ := Kd.at_int HR0.out x11_2 p284 q284; obtain rfl : ad272 = ad284 := (by injection e284); replace hx284_0 := (HB.out.cell (World.block_lt_of_cell? w _ hx284_0)).trans hx284_0; replace p284 := eq_true p284; replace q284 := eq_true q284; have q27 : ((ji18) : Int) ≤ ((x10_2.length : Int) : Int) := of_decide_eq_true (by first | (with_reducible assumption) | assumption); obtain ⟨i027, hi027, _, hsz27, _⟩ := info_parts info5; have hcut27 := cut_to (P := Try.prog) 22 5 .i64 Try.underlying22 hi027 (some ad283) x10_2.length co26 (ji18) (of_decide_eq_true (by first | (with_reducible assumption) | assumption)) q27 (Kd.R_reads' HO_10.out).2.1; have hr27 := Kd.R_take (m := ((ji18) : Int).toNat) HO_10.out (by omega); have hy27 : y285.length = ((ji18) : Int).toNat := (by rw [Ny285.out, List.length_take]; omega); rw [← Ny285.out] at hr27; rw [← hy27] at hr27 hcut27; clear hy27 hi027 hsz27 HO_10; have HO287 := Aside0.mk hr27; clear hr27; replace q27 := eq_true q27)); try go_wp2_with (first | (go_at_call 32; (with_reducible refine (quoinref06_Partner.calls kj7 (rd l0 x11_2) t277 t278 true _ A13.out).mono ?_); rintro e w' ⟨rfl, ⟨nd, rfl⟩⟩; (try first | exact ⟨rfl, _, World.drewN_drewN _ _ _⟩ | exact ⟨rfl, _, Eq.trans (World.drewN_drewN _ _ _) (congrArg (World.drewN _) (Nat.add_assoc _ _ _))⟩); obtain ⟨Ao26, co26, eo26⟩ := Kd.R_slice HO_10.out; subst eo26; have p283 : 0 ≤ ((ji18) : Int) := of_decide_eq_true (by first | (with_reducible assumption) | assumption); have q283 : (ji18) < (x10_2.length : Int) := of_decide_eq_true (by first | (with_reducible assumption) | assumption); obtain ⟨ad283, e283, hx283_0⟩ := Kd.at_int (Kd.R_reads' HO_10.out).2.2 (ji18) p283 q283; cases e283; replace p283 := eq_true p283; replace q283 := eq_true q283; have p284 : 0 ≤ (x11_2 : Int) := of_decide_eq_true (by first | (with_reducible assumption) | assumption); have q284 : x11_2 < (l0.length : Int) := of_decide_eq_true (by first | (with_reducible assumption) | assumption); obtain ⟨ad284, e284, hx284_0⟩ := Kd.at_int HR0.out x11_2 p284 q284; obtain rfl : ad272 = ad284 := (by injection e284); replace hx284_0 := (HB.out.cell (World.block_lt_of_cell? w _ hx284_0)).trans hx284_0; replace p284 := eq_true p284; replace q284 := eq_true q284; have q27 : ((ji18) : Int) ≤ ((x10_2.length : Int) : Int) := of_decide_eq_true (by first | (with_reducible assumption) | assumption); obtain ⟨i027, hi027, _, hsz27, _⟩ := info_parts info5; have hcut27 := cut_to (P := Try.prog) 22 5 .i64 Try.underlying22 hi027 (some ad283) x10_2.length co26 (ji18) (of_decide_eq_true (by first | (with_reducible assumption) | assumption)) q27 (Kd.R_reads' HO_10.out).2.1; have hr27 := Kd.R_take (m := ((ji18) : Int).toNat) HO_10.out (by omega); have hy27 : y285.length = ((ji18) : Int).toNat := (by rw [Ny285.out, List.length_take]; omega); rw [← Ny285.out] at hr27; rw [← hy27] at hr27 hcut27; clear hy27 hi027 hsz27 HO_10; have HO287 := Aside0.mk hr27; clear hr27; replace q27 := eq_true q27)))
                                      go_roundg kj7
                                      case measure => have := HJ5.out; have := HK2.out; have := HJ7.out; omega
                                      case rel => exact ⟨(y285), (wrap64 (x11_2 + x9_5)), (by first | rfl | (simp; done) | (simp [*]; done)), H', ⟨by have := HJ5.out; have := HK2.out; have := HJ7.out; omega⟩, ⟨by (with_reducible repeat (first | apply Kd.R_alloc | apply Kd.R_drewN | apply Kd.R_drew)); exact HO287.out⟩, ⟨by repeat (first | (with_reducible first | exact HB.out | apply below_alloc | apply pw_below_drewN | apply below_drew1) | exact HB.out)⟩⟩
                                  · rw [if_neg c22] at H
                                    exact absurd H (by simp)
                                · rw [if_neg c21] at H
                                  have c21b0 : ((rd x10_2 (ji18)) == (rd l0 x11_2)) = false := beq_eq_false_iff_ne.mpr c21
                                  have c21b1 : ((rd x10_2 (ji18)) != (rd l0 x11_2)) = true := bne_iff_ne.mpr c21
                                  simp only [Option.some.injEq, Prod.mk.injEq] at H
                                  obtain ⟨rfl, rfl⟩ := H
                                  have p276 : 0 ≤ (x11_2 : Int) := of_decide_eq_true (by first | (with_reducible assumption) | assumption)
                                  have q276 : x11_2 < (l0.length : Int) := of_decide_eq_true (by first | (with_reducible assumption) | assumption)
                                  obtain ⟨ad276, e276, hx276_0⟩ := Kd.at_int HR0.out x11_2 p276 q276
                                  obtain rfl : ad272 = ad276 := (by injection e276)
                                  replace hx276_0 := (HB.out.cell (World.block_lt_of_cell? w _ hx276_0)).trans hx276_0
                                  replace p276 := eq_true p276
                                  replace q276 := eq_true q276
                                  go_wp2_with (first | (go_at_call 32; (with_reducible refine (quoinref06_Partner.calls kj7 (rd l0 x11_2) t277 t278 true _ A13.out).mono ?_); rintro e w' ⟨rfl, ⟨nd, rfl⟩⟩; (try first | exact ⟨rfl, _, World.drewN_drewN _ _ _⟩ | exact ⟨rfl, _, Eq.trans (World.drewN_drewN _ _ _) (congrArg (World.drewN _) (Nat.add_assoc _ _ _))⟩); obtain ⟨Ao28, co28, eo28⟩ := Kd.R_slice HO_10.out; subst eo28; have p283 : 0 ≤ ((ji18) : Int) := of_decide_eq_true (by first | (with_reducible assumption) | assumption); have q283 : (ji18) < (x10_2.length : Int) := of_decide_eq_true (by first | (with_reducible assumption) | assumption); obtain ⟨ad283, e283, hx283_0⟩ := Kd.at_int (Kd.R_reads' HO_10.out).2.2 (ji18) p283 q283; cases e283; replace p283 := eq_true p283; replace q283 := eq_true q283; have p284 : 0 ≤ (x11_2 : Int) := of_decide_eq_true (by first | (with_reducible assumption) | assumption); have q284 : x11_2 < (l0.length : Int) := of_decide_eq_true (by first | (with_reducible assumption) | assumption); obtain ⟨ad284, e284, hx284_0⟩ := Kd.at_int HR0.out x11_2 p284 q284; obtain rfl : ad272 = ad284 := (by injection e284); replace hx284_0 := (HB.out.cell (World.block_lt_of_cell? w _ hx284_0)).trans hx284_0; replace p284 := eq_true p284; replace q284 := eq_true q284))
                                  repeat (go_quiet (first | (go_at_call 32; (with_reducible refine (quoinref06_Partner.calls kj7 (rd l0 x11_2) t277 t278 true _ A13.out).mono ?_); rintro e w' ⟨rfl, ⟨nd, rfl⟩⟩; (try first | exact ⟨rfl, _, World.drewN_drewN _ _ _⟩ | exact ⟨rfl, _, Eq.trans (World.drewN_drewN _ _ _) (congrArg (World.drewN _) (Nat.add_assoc _ _ _))⟩); obtain ⟨Ao28, co28, eo28⟩ := Kd.R_slice HO_10.out; subst eo28; have p283 : 0 ≤ ((ji18) : Int) := of_decide_eq_true (by first | (with_reducible assumption) | assumption); have q283 : (ji18) < (x10_2.length : Int) := of_decide_eq_true (by first | (with_reducible assumption) | assumption); obtain ⟨ad283, e283, hx283_0⟩ := Kd.at_int (Kd.R_reads' HO_10.out).2.2 (ji18) p283 q283; cases e283; replace p283 := eq_true p283; replace q283 := eq_true q283; have p284 : 0 ≤ (x11_2 : Int) := of_decide_eq_true (by first | (with_reducible assumption) | assumption); have q284 : x11_2 < (l0.length : Int) := of_decide_eq_true (by first | (with_reducible assumption) | assumption); obtain ⟨ad284, e284, hx284_0⟩ := Kd.at_int HR0.out x11_2 p284 q284; obtain rfl : ad272 = ad284 := (by injection e284); replace hx284_0 := (HB.out.cell (World.block_lt_of_cell? w _ hx284_0)).trans hx284_0; replace p284 := eq_true p284; replace q284 := eq_true q284)); try go_wp2_with (first | (go_at_call 32; (with_reducible refine (quoinref06_Partner.calls kj7 (rd l0 x11_2) t277 t278 true _ A13.out).mono ?_); rintro e w' ⟨rfl, ⟨nd, rfl⟩⟩; (try first | exact ⟨rfl, _, World.drewN_drewN _ _ _⟩ | exact ⟨rfl, _, Eq.trans (World.drewN_drewN _ _ _) (congrArg (World.drewN _) (Nat.add_assoc _ _ _))⟩); obtain ⟨Ao28, co28, eo28⟩ := Kd.R_slice HO_10.out; subst eo28; have p283 : 0 ≤ ((ji18) : Int) := of_decide_eq_true (by first | (with_reducible assumption) | assumption); have q283 : (ji18) < (x10_2.length : Int) := of_decide_eq_true (by first | (with_reducible assumption) | assumption); obtain ⟨ad283, e283, hx283_0⟩ := Kd.at_int (Kd.R_reads' HO_10.out).2.2 (ji18) p283 q283; cases e283; replace p283 := eq_true p283; replace q283 := eq_true q283; have p284 : 0 ≤ (x11_2 : Int) := of_decide_eq_true (by first | (with_reducible assumption) | assumption); have q284 : x11_2 < (l0.length : Int) := of_decide_eq_true (by first | (with_reducible assumption) | assumption); obtain ⟨ad284, e284, hx284_0⟩ := Kd.at_int HR0.out x11_2 p284 q284; obtain rfl : ad272 = ad284 := (by injection e284); replace hx284_0 := (HB.out.cell (World.block_lt_of_cell? w _ hx284_0)).trans hx284_0; replace p284 := eq_true p284; replace q284 := eq_true q284)))
                                  go_ret2
                                  exact ⟨by first | rfl | (simp [errW_none, errW_some] <;> rfl) | (simp only [← hji18]; first | rfl | (simp [errW_none, errW_some] <;> rfl)) | (simp [*, errW_none, errW_some] <;> rfl), by repeat (first | (with_reducible first | exact HB.out | apply below_alloc | apply pw_below_drewN | apply below_drew1) | exact HB.out)⟩
                              · rw [if_neg c20] at H
                                exact absurd H (by simp)
                            · rw [if_neg c19] at H
                              exact absurd H (by simp)
                        · replace c14 := Bool.eq_false_iff.mpr c14
                          subst c14
                          have H1 : (quoinref10_Pair.l0 kj7 l0 t274 x9_5 x10_2 (wrap64 (x11_2 + x9_5))) = some (r1, r2) := by rw [if_neg (show ¬ (false = true) by decide)] at H; exact H
                          clear H
                          have H := H1
                          clear H1
                          have H' := Aside0.mk H
                          clear H
                          have p276 : 0 ≤ (x11_2 : Int) := of_decide_eq_true (by first | (with_reducible assumption) | assumption)
                          have q276 : x11_2 < (l0.length : Int) := of_decide_eq_true (by first | (with_reducible assumption) | assumption)
                          obtain ⟨ad276, e276, hx276_0⟩ := Kd.at_int HR0.out x11_2 p276 q276
                          obtain rfl : ad272 = ad276 := (by injection e276)
                          replace hx276_0 := (HB.out.cell (World.block_lt_of_cell? w _ hx276_0)).trans hx276_0
                          replace p276 := eq_true p276
                          replace q276 := eq_true q276
                          go_wp2_with (first | (go_at_call 32; (with_reducible refine (quoinref06_Partner.calls kj7 (rd l0 x11_2) t277 t278 false _ A13.out).mono ?_); rintro e w' ⟨rfl, ⟨nd, rfl⟩⟩; (try first | exact ⟨rfl, _, World.drewN_drewN _ _ _⟩ | exact ⟨rfl, _, Eq.trans (World.drewN_drewN _ _ _) (congrArg (World.drewN _) (Nat.add_assoc _ _ _))⟩)))
                          repeat (go_quiet (first | (go_at_call 32; (with_reducible refine (quoinref06_Partner.calls kj7 (rd l0 x11_2) t277 t278 false _ A13.out).mono ?_); rintro e w' ⟨rfl, ⟨nd, rfl⟩⟩; (try first | exact ⟨rfl, _, World.drewN_drewN _ _ _⟩ | exact ⟨rfl, _, Eq.trans (World.drewN_drewN _ _ _) (congrArg (World.drewN _) (Nat.add_assoc _ _ _))⟩))); try go_wp2_with (first | (go_at_call 32; (with_reducible refine (quoinref06_Partner.calls kj7 (rd l0 x11_2) t277 t278 false _ A13.out).mono ?_); rintro e w' ⟨rfl, ⟨nd, rfl⟩⟩; (try first | exact ⟨rfl, _, World.drewN_drewN _ _ _⟩ | exact ⟨rfl, _, Eq.trans (World.drewN_drewN _ _ _) (congrArg (World.drewN _) (Nat.add_assoc _ _ _))⟩))))
                          go_roundg kj7
                          case measure => have := HJ5.out; have := HK2.out; have := HJ7.out; omega
                          case rel => exact ⟨(x10_2), (wrap64 (x11_2 + x9_5)), (by first | rfl | (simp; done) | (simp [*]; done)), H', ⟨by have := HJ5.out; have := HK2.out; have := HJ7.out; omega⟩, ⟨by (with_reducible repeat (first | apply Kd.R_alloc | apply Kd.R_drewN | apply Kd.R_drew)); exact HO_10.out⟩, ⟨by repeat (first | (with_reducible first | exact HB.out | apply below_alloc | apply pw_below_drewN | apply below_drew1) | exact HB.out)⟩⟩
                      · rw [if_neg c12] at H
                        exact absurd H (by simp)
                    · rw [if_neg c11] at H
                      exact absurd H (by simp)
                  · replace c10 := Bool.eq_false_iff.mpr c10
                    subst c10
                    have H1 : (some (0, 70)) = some (r1, r2) := by rw [if_neg (show ¬ (false = true) by decide)] at H; exact H
                    clear H
                    have H := H1
                    clear H1
                    simp only [Option.some.injEq, Prod.mk.injEq] at H
                    obtain ⟨rfl, rfl⟩ := H
                    go_wp2
                    repeat (go_quiet (fail); try go_wp2)
                    go_ret2
                    exact ⟨by first | rfl | (simp [errW_none, errW_some] <;> rfl) | (simp [*, errW_none, errW_some] <;> rfl), by repeat (first | (with_reducible first | exact HB.out | apply below_alloc | apply pw_below_drewN | apply below_drew1) | exact HB.out)⟩
    · rw [if_neg c4] at H
      exact absurd H (by simp)
  · rw [if_neg c3] at H
    exact absurd H (by simp)

end Go.Proofs.Ytjaopgjhmojpnaa.X
