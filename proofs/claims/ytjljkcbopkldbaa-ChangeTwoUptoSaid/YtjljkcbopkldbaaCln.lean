/-
  bytes.Clone: the same bytes in memory of the call's own. Condition: no more than 2^47 of them.
-/
import Derived.Test.YtjljkcbopkldbaaApp
namespace Go.Proofs.Ytjljkcbopkldbaa
open Go.RowKit Go.Proofs.YtjljkcbopkldbaaW.PrintWords Go.Proofs.YtjljkcbopkldbaaW.PrintLast Go.Proofs.YtjljkcbopkldbaaW.PrintMore Go.Proofs.Ytjljkcbopkldbaa.X
set_option linter.unusedVariables false
set_option linter.unusedSimpArgs false

def bytes_Clone.f (l0 : List Int) : Option (List Int) := if l0.length ≤ 140737488355328 then some l0 else none

theorem start_row (A0 : Option Addr) (c0 : Nat) (l0 : List Int) (w : World) (hr0 : Kd.C (Kd.int .u8) w A0 l0.length l0) (hbig : l0.length ≤ 140737488355328) (ty : Nat) :
    ∃ v w1, (Builtin.append_ #[72, 72] ty #[.slice (some ⟨w.heap.size, 0, none⟩) 0 0, .slice A0 l0.length c0]).run Try.prog (w.alloc (.cells #[] 5)) = .ok v w1 ∧ ∃ g cap, v = .slice (some ⟨g, 0, none⟩) l0.length cap ∧ OnWay w.heap.size w1 g cap l0 ∧ Below w.heap.size w w1 := by
  have hsrc := rd_C hr0 (Nat.le_refl _)
  have hrow : RowAt (w.alloc (.cells #[] 5)) w.heap.size [] := blk_new w _
  have hrd : Rd (w.alloc (.cells #[] 5)) w.heap.size A0 (nums .u8 l0) := fun hl => by
    rw [nums_length] at hl
    obtain ⟨ad, e, hne, hc⟩ := hsrc hl
    exact ⟨ad, e, hne, fun j u hj => Lib.cell?_alloc_some _ (hc j u hj)⟩
  have hb0 : Below w.heap.size w (w.alloc (.cells #[] 5)) := (Below.refl _ w).alloc (Nat.le_refl _) _
  by_cases h0 : l0.length = 0
  · have e0 : l0 = [] := List.length_eq_zero_iff.1 h0
    subst e0
    refine ⟨_, _, append8_room (w.alloc (.cells #[] 5)) w.heap.size w.heap.size 0 0 A0 0 c0 ty [] rfl (by omega) (by simp) hrd (by simp) (by simp), w.heap.size, 0, rfl, ⟨Nat.le_refl _, ⟨[], hrow, rfl, rfl⟩, Nat.le_refl _, by unfold maxLen; omega⟩, hb0⟩
  · have hr := append8_grow (w.alloc (.cells #[] 5)) w.heap.size w.heap.size 0 0 A0 l0.length c0 ty [] (nums .u8 l0) hrow (by simp) (nums_length _ _) (by omega) (by omega) (by omega) (nums_one l0) hrd
    rw [Nat.zero_add] at hr
    have hG := grownCap_ge (w.alloc (.cells #[] 5)) l0.length 0 5
    have hGm := grownCap_le_maxLen (w.alloc (.cells #[] 5)) l0.length 0 5 (by unfold maxLen; omega)
    refine ⟨_, _, hr, _, _, rfl, ⟨Nat.le_of_lt hrow.lt, ⟨nums .u8 l0 ++ List.replicate (grownCap (w.alloc (.cells #[] 5)) l0.length 0 5 - l0.length) (.int .u8 0), ?_, by simp [nums_length]; omega, ?_⟩, hG, hGm⟩, ?_⟩
    · unfold RowAt
      rw [show Builtin.zeroCells (Value.int .u8 0).cells (grownCap (w.alloc (.cells #[] 5)) l0.length 0 5 - l0.length) = (List.replicate (grownCap (w.alloc (.cells #[] 5)) l0.length 0 5 - l0.length) (Value.int .u8 0)).toArray by
        apply Array.ext
        · simp [Builtin.zeroCells, Value.cells]
        · intro t h1 h2; simp [Builtin.zeroCells, Value.cells, Nat.mod_one]]
      rw [List.append_toArray]
      exact blk_new (w.alloc (.cells #[] 5)).drew _
    · rw [List.take_left' (nums_length _ _)]
    · exact Below.alloc (Below.drew hb0) (Nat.le_of_lt hrow.lt) _

set_option maxHeartbeats 4000000 in
set_option maxRecDepth 100000 in
theorem bytes_Clone.calls (A0 : Option Addr) (c0 : Nat) (l0 : List Int) (r : List Int) (w : World) (hr0 : Kd.C (Kd.int .u8) w A0 l0.length l0) (hc0 : l0.length ≤ c0) (h : bytes_Clone.f l0 = some r) :
    Calls Try.prog 96 #[.slice A0 l0.length c0] w fun e w' => ∃ v0_ : Value, e = .returned v0_ ∧ Kd.R (Kd.int .u8) 5 w' w.heap.size (fun _ => True) v0_ r ∧ Below w.heap.size w w' := by
  unfold bytes_Clone.f at h
  by_cases hbig : l0.length ≤ 140737488355328
  case neg => rw [if_neg hbig] at h; cases h
  rw [if_pos hbig] at h
  have h1 : l0 = r := Option.some.inj h
  subst h1
  have q72 : ∀ (w : World) (a : Option Addr) (n c n' c' : Nat), (binOp .eql 72 (.slice a n c) (.slice none n' c')).run Try.prog w = .ok (.bool a.isNone) w := fun w a n c n' c' => Lib.run_eql_slice_nil w _ _ a n c n' c' Try.underlying72
  cases A0 with
  | none =>
    have h0 : l0.length = 0 := by
      by_cases h0 : 0 < l0.length
      · obtain ⟨ad, e, _⟩ := hr0.2.2 h0; cases e
      · omega
    have e0 : l0 = [] := List.length_eq_zero_iff.1 h0
    subst e0
    clear hr0
    go_enter Try.func96, Try.ntmps96
    go_wp2
    go_ret
    exact ⟨_, rfl, Kd.R_nil _ _ _ _ _, Below.refl _ _⟩
  | some ad =>
    obtain ⟨v, w1, hrun, g, cap, rfl, how, hbw⟩ := start_row (some ad) c0 l0 w hr0 hbig 72
    have HW := Aside0.mk how
    have HB := Aside0.mk hbw
    clear hr0 how hbw h
    go_enter Try.func96, Try.ntmps96
    go_wp2_with (at_builtin; refine Lib.wpList_append_run _ rfl _ _ _ _ rfl _ _ rfl rfl _ _ hrun ?_)
    go_ret
    exact ⟨_, rfl, R_of_owns HW.out.out, HB.out⟩

end Go.Proofs.Ytjljkcbopkldbaa
