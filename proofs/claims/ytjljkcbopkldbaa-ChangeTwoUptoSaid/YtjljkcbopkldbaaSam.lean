/-
  The statements' own 'same': two lists of edits hold the same. No condition.
-/
import Derived.Test.YtjljkcbopkldbaaX1
namespace Go.Proofs.Ytjljkcbopkldbaa
open Go.RowKit Go.Proofs.YtjljkcbopkldbaaW.PrintWords Go.Proofs.YtjljkcbopkldbaaW.PrintLast Go.Proofs.YtjljkcbopkldbaaW.PrintMore Go.Proofs.Ytjljkcbopkldbaa.X
set_option linter.unusedVariables false
set_option linter.unusedSimpArgs false

def eqS (a b : List Int) : Bool := (strOfNums a).toList == (strOfNums b).toList
def eqE (x y : S84) : Bool := (x.f0 == y.f0) && (eqS x.f1 y.f1 && eqS x.f2 y.f2)
def sameL : List S84 → List S84 → Bool
  | [], [] => true
  | x :: a, y :: b => eqE x y && sameL a b
  | _, _ => false
theorem sameL_len : ∀ (a b : List S84), a.length ≠ b.length → sameL a b = false
  | [], [], h => absurd rfl h
  | [], _ :: _, _ => rfl
  | _ :: _, [], _ => rfl
  | x :: a, y :: b, h => by
    unfold sameL
    rw [sameL_len a b (by simpa using h), Bool.and_false]
def quoinlaw17_same.f (l0 l1 : List S84) : Option Bool := some (sameL l0 l1)

set_option maxHeartbeats 4000000 in
set_option maxRecDepth 100000 in
theorem quoinlaw17_same.calls (A0 : Option Addr) (c0 : Nat) (l0 : List S84) (A1 : Option Addr) (c1 : Nat) (l1 : List S84) (r : Bool) (w : World) (hr0 : Kd.C k84 w A0 l0.length l0) (hc0 : l0.length ≤ c0) (hr1 : Kd.C k84 w A1 l1.length l1) (hc1 : l1.length ≤ c1) (h : quoinlaw17_same.f l0 l1 = some r) :
    Calls Try.prog 46 #[.slice A0 l0.length c0, .slice A1 l1.length c1] w fun e w' => e = .returned (.bool r) ∧ Drawn0 w w' := by
  have h1 : sameL l0 l1 = r := Option.some.inj h
  clear h
  have hm0 : l0.length ≤ 9223372036854775807 := hr0.2.1
  have hm1 : l1.length ≤ 9223372036854775807 := hr1.2.1
  have HR0 := Aside0.mk hr0
  have HR1 := Aside0.mk hr1
  have HC0 := Aside0.mk hc0
  have HC1 := Aside0.mk hc1
  clear hr0 hr1 hc0 hc1
  by_cases hlen : l0.length = l1.length
  case neg =>
    have c3b0 : ((l0.length : Int) == (l1.length : Int)) = false := by simp; omega
    have c3b1 : ((l0.length : Int) != (l1.length : Int)) = true := by simp; omega
    have c3b2 : (l0.length == l1.length) = false := by simpa using hlen
    have HR := Aside0.mk (show r = false by rw [← h1, sameL_len _ _ hlen])
    clear hlen h1
    go_enter Try.func46, Try.ntmps46
    go_wp2
    repeat (go_quiet (fail); try go_wp2)
    go_ret
    exact ⟨by rw [HR.out]; rfl, by repeat (first | exact Drawn0.refl _ | apply Drawn0.step)⟩
  have c3b0 : ((l0.length : Int) == (l1.length : Int)) = true := by simp; omega
  have c3b1 : ((l0.length : Int) != (l1.length : Int)) = false := by simp; omega
  have c3b2 : (l0.length == l1.length) = true := by simpa using hlen
  have HL := Aside0.mk hlen
  have H := Aside0.mk h1
  clear hlen h1
  go_enter Try.func46, Try.ntmps46
  go_wp2
  repeat (go_quiet (fail); try go_wp2)
  go_loopg [5] l0.length (fun kq v5 w' => ∃ i : Nat, v5 = .int .i64 i ∧ Aside0 (kq + i = l0.length) ∧ Aside0 (sameL (l0.drop i) (l1.drop i) = r) ∧ Drawn0 w w')
  case atStart => exact ⟨0, rfl, ⟨rfl⟩, H, by repeat (first | exact Drawn0.refl _ | apply Drawn0.step)⟩
  case round =>
    clear H c3b0 c3b1 c3b2
    obtain ⟨i, rfl, HK, H, ⟨m1, rfl⟩⟩ := hrel
    by_cases hi : i < l0.length
    · have hi1 : i < l1.length := by have := HL.out; omega
      have hii : (i : Int) < (l0.length : Int) := by omega
      have hii1 : (i : Int) < (l1.length : Int) := by omega
      have hp0 : (0 : Int) ≤ (i : Int) := by omega
      obtain ⟨ad0, A1_, k1_, A2_, k2_, e0, hx0, hx1, hx2, hl1, hi1', hl2, hi2'⟩ := at_T84 HR0.out (i : Int) hp0 hii
      cases e0
      obtain ⟨ad1, B1_, j1_, B2_, j2_, e1, hy0, hy1, hy2, hm1', hj1', hm2', hj2'⟩ := at_T84 HR1.out (i : Int) hp0 hii1
      cases e1
      obtain ⟨x, hx⟩ : ∃ x, x = rd_T84 l0 (i : Int) := ⟨_, rfl⟩
      obtain ⟨y, hy⟩ : ∃ y, y = rd_T84 l1 (i : Int) := ⟨_, rfl⟩
      rw [← hx] at hx0 hx1 hx2 hl1 hi1' hl2 hi2'
      rw [← hy] at hy0 hy1 hy2 hm1' hj1' hm2' hj2'
      rw [Int.toNat_natCast] at hx0 hx1 hx2 hy0 hy1 hy2
      have hd0 : l0.drop i = x :: l0.drop (i + 1) := by
        rw [List.drop_eq_getElem_cons hi, hx]; unfold rd_T84; rw [Int.toNat_natCast]; simp [List.getD, List.getElem?_eq_getElem hi]
      have hd1 : l1.drop i = y :: l1.drop (i + 1) := by
        rw [List.drop_eq_getElem_cons hi1, hy]; unfold rd_T84; rw [Int.toNat_natCast]; simp [List.getD, List.getElem?_eq_getElem hi1]
      have H2 := H.out
      rw [hd0, hd1] at H2
      clear hd0 hd1 H
      have HX := Aside0.mk hx
      have HY := Aside0.mk hy
      clear hx hy
      have s1 := fun n => Kd.C_string (P := Try.prog) (A := A1_) (c := k1_) Try.underlying72 Try.underlying5 Try.underlying9 (Kd.C_drewN hi1' n)
      have s2 := fun n => Kd.C_string (P := Try.prog) (A := A2_) (c := k2_) Try.underlying72 Try.underlying5 Try.underlying9 (Kd.C_drewN hi2' n)
      have t1 := fun n => Kd.C_string (P := Try.prog) (A := B1_) (c := j1_) Try.underlying72 Try.underlying5 Try.underlying9 (Kd.C_drewN hj1' n)
      have t2 := fun n => Kd.C_string (P := Try.prog) (A := B2_) (c := j2_) Try.underlying72 Try.underlying5 Try.underlying9 (Kd.C_drewN hj2' n)
      clear hi1' hi2' hj1' hj2' hl1 hl2 hm1' hm2'
      have step : sameL (x :: l0.drop (i + 1)) (y :: l1.drop (i + 1)) = ((x.f0 == y.f0) && (eqS x.f1 y.f1 && eqS x.f2 y.f2) && sameL (l0.drop (i + 1)) (l1.drop (i + 1))) := rfl
      rw [step] at H2
      clear step
      by_cases c0 : x.f0 = y.f0
      case neg =>
        have b0 : (x.f0 == y.f0) = false := by simpa using c0
        have b1 : (x.f0 != y.f0) = true := by simpa using c0
        have HR := Aside0.mk (show r = false by rw [← H2, b0]; rfl)
        clear H2 c0
        go_wp2_with fail
        go_quiet (fail)
        go_wp2
        go_ret
        exact ⟨by rw [HR.out]; rfl, by repeat (first | exact Drawn0.refl _ | apply Drawn0.step)⟩
      have b0 : (x.f0 == y.f0) = true := by simpa using c0
      have b1 : (x.f0 != y.f0) = false := by simpa using c0
      rw [b0, Bool.true_and] at H2
      clear c0
      cases c1 : eqS x.f1 y.f1 with
      | false =>
        have b2 : ((strOfNums x.f1).toList == (strOfNums y.f1).toList) = false := c1
        have b3 : ((strOfNums x.f1).toList != (strOfNums y.f1).toList) = true := by unfold bne; rw [b2]; rfl
        have HR := Aside0.mk (show r = false by rw [← H2, c1]; rfl)
        clear H2 c1
        go_wp2_with fail
        go_quiet (fail)
        go_wp2
        go_ret
        exact ⟨by rw [HR.out]; rfl, by repeat (first | exact Drawn0.refl _ | apply Drawn0.step)⟩
      | true =>
        have b2 : ((strOfNums x.f1).toList == (strOfNums y.f1).toList) = true := c1
        have b3 : ((strOfNums x.f1).toList != (strOfNums y.f1).toList) = false := by unfold bne; rw [b2]; rfl
        rw [c1, Bool.true_and] at H2
        clear c1
        cases c2 : eqS x.f2 y.f2 with
        | false =>
          have b4 : ((strOfNums x.f2).toList == (strOfNums y.f2).toList) = false := c2
          have b5 : ((strOfNums x.f2).toList != (strOfNums y.f2).toList) = true := by unfold bne; rw [b4]; rfl
          have HR := Aside0.mk (show r = false by rw [← H2, c2]; rfl)
          clear H2 c2
          go_wp2_with fail
          go_quiet (fail)
          go_wp2
          go_ret
          exact ⟨by rw [HR.out]; rfl, by repeat (first | exact Drawn0.refl _ | apply Drawn0.step)⟩
        | true =>
          have b4 : ((strOfNums x.f2).toList == (strOfNums y.f2).toList) = true := c2
          have b5 : ((strOfNums x.f2).toList != (strOfNums y.f2).toList) = false := by unfold bne; rw [b4]; rfl
          rw [c2, Bool.true_and] at H2
          have HH := Aside0.mk H2
          clear H2 c2
          go_wp2_with fail
          go_quiet (fail)
          cases gk with
          | zero => exact absurd HK.out (by omega)
          | succ k1 =>
            have HK' : Aside0 (k1 + (i + 1) = l0.length) := ⟨by have := HK.out; omega⟩
            go_wp2
            go_roundg k1
            case measure => omega
            case rel => exact ⟨i + 1, by go_num, HK', HH, by repeat (first | exact Drawn0.refl _ | apply Drawn0.step)⟩
    · have hii : ¬ (i : Int) < (l0.length : Int) := by omega
      have HR := Aside0.mk (show r = true by
        have := H.out
        rw [List.drop_eq_nil_of_le (by omega), List.drop_eq_nil_of_le (by have := HL.out; omega)] at this
        exact this.symm)
      clear H
      go_wp2
      go_ret
      exact ⟨by rw [HR.out]; rfl, by repeat (first | exact Drawn0.refl _ | apply Drawn0.step)⟩

end Go.Proofs.Ytjljkcbopkldbaa
