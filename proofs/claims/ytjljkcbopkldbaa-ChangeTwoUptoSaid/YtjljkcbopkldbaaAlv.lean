/-
  The statements' own examples (alive) answer true. No condition.
-/
import Derived.Lib.SlBytesConst
import Derived.Test.YtjljkcbopkldbaaPt
namespace Go.Proofs.Ytjljkcbopkldbaa
open Go.RowKit Go.Proofs.YtjljkcbopkldbaaW.PrintWords Go.Proofs.YtjljkcbopkldbaaW.PrintLast Go.Proofs.YtjljkcbopkldbaaW.PrintMore Go.Proofs.Ytjljkcbopkldbaa.X Go.Proofs.Ytjljkcbopkldbaa.Pl
set_option linter.unusedVariables false
set_option linter.unusedSimpArgs false

def quoinlaw17_alive.f : Option Bool := some true

theorem C_lit (W : World) (C : List Int) (t : TypeId) (m : Nat × Nat) (h : C.length ≤ 9223372036854775807) : Kd.C (Kd.int .u8) (W.alloc (.cells (C.map (Value.int .u8)).toArray t m)) (some ⟨W.heap.size, 0, none⟩) C.length C := by
  refine Kd.C_of_reads (d := (0 : Int)) (h1 := fun _ => rfl) ⟨rfl, h, fun _ => ⟨_, rfl, fun j hj => ?_⟩⟩
  have e : ((⟨W.heap.size, 0, none⟩ : Addr).add j) = ⟨W.heap.size, j, none⟩ := add_plain _ _
  rw [e]
  unfold World.cell?
  rw [heap_alloc_new]
  simp [List.getElem?_map, List.getElem?_eq_getElem hj]

theorem convert_lit (W : World) (N : Nat) (C : Array Value) (n c : Nat) (h : N = W.heap.size) : (convert 72 72 (.slice (some ⟨N, 0, none⟩) n c)).run Try.prog (W.alloc (.cells C 5)) = .ok (.slice (some ⟨N, 0, none⟩) n c) (W.alloc (.cells C 5 (C.size, C.size + 1))) := by
  subst h
  exact Lib.run_convert_bytes_const (P := Try.prog) W 72 5 C n c Try.underlying72 Try.underlying5

/-- two edits laid one behind the other -/
theorem C_two (W : World) (x y : S84) {A1 A2 B1 B2 : Option Addr} {c1 c2 d1 d2 : Nat} (h1 : x.f1.length ≤ c1) (g1 : Kd.C (Kd.int .u8) W A1 x.f1.length x.f1) (h2 : x.f2.length ≤ c2) (g2 : Kd.C (Kd.int .u8) W A2 x.f2.length x.f2)
    (k1 : y.f1.length ≤ d1) (e1 : Kd.C (Kd.int .u8) W B1 y.f1.length y.f1) (k2 : y.f2.length ≤ d2) (e2 : Kd.C (Kd.int .u8) W B2 y.f2.length y.f2) :
    Kd.C k84 (W.alloc (.cells #[.int .i64 x.f0, .slice A1 x.f1.length c1, .slice A2 x.f2.length c2, .int .i64 y.f0, .slice B1 y.f1.length d1, .slice B2 y.f2.length d2] 84)) (some ⟨W.heap.size, 0, none⟩) ([x, y] : List S84).length [x, y] := by
  have hrow : OwnRow (Kd.K k84 W) 84 3 (W.alloc (.cells #[.int .i64 x.f0, .slice A1 x.f1.length c1, .slice A2 x.f2.length c2, .int .i64 y.f0, .slice B1 y.f1.length d1, .slice B2 y.f2.length d2] 84)) W.heap.size (.slice (some ⟨W.heap.size, 0, none⟩) 2 2) [x, y] :=
    OwnRow.lit (ps := [x, y]) W W.heap.size (inner := [.int .i64 x.f0, .slice A1 x.f1.length c1, .slice A2 x.f2.length c2, .int .i64 y.f0, .slice B1 y.f1.length d1, .slice B2 y.f2.length d2])
      (Reps.snoc (ps := [x]) (cs := [.int .i64 x.f0, .slice A1 x.f1.length c1, .slice A2 x.f2.length c2]) (Reps.snoc (Reps.none _ _) (k84_mk W x h1 g1 h2 g2) rfl) (k84_mk W y k1 e1 k2 e2) rfl) (Nat.le_refl _) (by simp)
  obtain ⟨A', c', q1, hc', hC'⟩ := hrow.reads
  simp only [List.length_cons, List.length_nil, Value.slice.injEq] at q1
  obtain ⟨rfl, _, rfl⟩ := q1
  have hb : Below W.heap.size W (W.alloc (.cells #[.int .i64 x.f0, .slice A1 x.f1.length c1, .slice A2 x.f2.length c2, .int .i64 y.f0, .slice B1 y.f1.length d1, .slice B2 y.f2.length d2] 84)) := (Below.refl _ _).alloc (Nat.le_refl _) _
  exact ⟨hC'.1, hC'.2.1, fun hn => by
      obtain ⟨ad, e, hc⟩ := hC'.2.2 hn
      refine ⟨ad, e, fun j p hj => ?_⟩
      obtain ⟨c, hs, hr, hcell⟩ := hc j p hj
      exact ⟨c, hs, k84.K_below hb hr, hcell⟩⟩

set_option maxHeartbeats 4000000 in
set_option maxRecDepth 100000 in
theorem quoinlaw17_alive.calls (r : Bool) (w : World) (h : quoinlaw17_alive.f = some r) :
    Calls Try.prog 44 #[] w fun e w' => e = .returned (.bool r) ∧ Below w.heap.size w w' := by
  obtain rfl : true = r := Option.some.inj h
  clear h
  have hu84 := Try.underlying84
  have kc := convert_lit
  -- what is answered
  have hbe := between_ev [104, 101, 108, 108, 111] [104, 101, 108, 112] (by intro x hx; simp at hx; omega) (by intro x hx; simp at hx; omega) (by simp) (by simp)
  rw [show betweenL [104, 101, 108, 108, 111] [104, 101, 108, 112] = [⟨3, [108, 111], [112]⟩] by kernel_rfl] at hbe
  obtain ⟨kb, hkb⟩ := hbe.rounds
  have HKB := Aside0.mk hkb
  clear hbe hkb
  have s1 : (strOfNums [97, 120, 121]).toList = [97, 120, 121] := by rw [str_data]; rfl
  have s2 : (strOfNums [112]).toList = [112] := by rw [str_data]; rfl
  -- the first world
  obtain ⟨W1, hW1⟩ : ∃ W1, W1 = w.alloc (.cells #[.int .u8 98] 5 (1, 2)) := ⟨_, rfl⟩
  obtain ⟨W2, hW2⟩ : ∃ W2, W2 = W1.alloc (.cells #[.int .u8 120, .int .u8 121] 5 (2, 3)) := ⟨_, rfl⟩
  obtain ⟨W3, hW3⟩ : ∃ W3, W3 = W2.alloc (.cells #[.int .u8 99] 5 (1, 2)) := ⟨_, rfl⟩
  obtain ⟨W4, hW4⟩ : ∃ W4, W4 = W3.alloc (.cells #[.int .i64 1, .slice (some ⟨w.heap.size, 0, none⟩) 1 1, .slice (some ⟨w.heap.size + 1, 0, none⟩) 2 2, .int .i64 3, .slice (some ⟨w.heap.size + 1 + 1, 0, none⟩) 1 1, .slice none 0 0] 84) := ⟨_, rfl⟩
  obtain ⟨W5, hW5⟩ : ∃ W5, W5 = W4.alloc (.cells #[.int .u8 97, .int .u8 98, .int .u8 99] 5 (3, 4)) := ⟨_, rfl⟩
  have z1 : W1.heap.size = w.heap.size + 1 := by rw [hW1]; simp
  have z2 : W2.heap.size = w.heap.size + 1 + 1 := by rw [hW2]; simp [z1]
  have z3 : W3.heap.size = w.heap.size + 1 + 1 + 1 := by rw [hW3]; simp [z2]
  have z4 : W4.heap.size = w.heap.size + 1 + 1 + 1 + 1 := by rw [hW4]; simp [z3]
  have z5 : W5.heap.size = w.heap.size + 1 + 1 + 1 + 1 + 1 := by rw [hW5]; simp [z4]
  have b5 : Below w.heap.size w W5 := by
    rw [hW5, hW4, hW3, hW2, hW1]
    exact below_alloc (below_alloc (below_alloc (below_alloc (below_alloc (Below.refl _ _) _) _) _) _) _
  have q1 : Kd.C (Kd.int .u8) W3 (some ⟨w.heap.size, 0, none⟩) ([98] : List Int).length [98] := by
    rw [hW3, hW2]; exact Kd.C_alloc (Kd.C_alloc (by rw [hW1]; exact C_lit w [98] 5 (1, 2) (by decide)) _) _
  have q2 : Kd.C (Kd.int .u8) W3 (some ⟨w.heap.size + 1, 0, none⟩) ([120, 121] : List Int).length [120, 121] := by
    rw [hW3, ← z1]; exact Kd.C_alloc (by rw [hW2]; exact C_lit W1 [120, 121] 5 (2, 3) (by decide)) _
  have q3 : Kd.C (Kd.int .u8) W3 (some ⟨w.heap.size + 1 + 1, 0, none⟩) ([99] : List Int).length [99] := by
    rw [hW3, ← z2]; exact C_lit W2 [99] 5 (1, 2) (by decide)
  have q4 : Kd.C (Kd.int .u8) W3 none ([] : List Int).length [] := ⟨rfl, by simp, fun h => absurd h (by simp)⟩
  have l4 : Kd.C k84 W4 (some ⟨w.heap.size + 1 + 1 + 1, 0, none⟩) ([(⟨1, [98], [120, 121]⟩ : S84), ⟨3, [99], []⟩] : List S84).length [(⟨1, [98], [120, 121]⟩ : S84), ⟨3, [99], []⟩] := by
    rw [hW4, ← z3]; exact C_two W3 ⟨1, [98], [120, 121]⟩ ⟨3, [99], []⟩ (Nat.le_refl _) q1 (Nat.le_refl _) q2 (Nat.le_refl _) q3 (Nat.le_refl _) q4
  have l5 : Kd.C k84 W5 (some ⟨w.heap.size + 1 + 1 + 1, 0, none⟩) ([(⟨1, [98], [120, 121]⟩ : S84), ⟨3, [99], []⟩] : List S84).length [(⟨1, [98], [120, 121]⟩ : S84), ⟨3, [99], []⟩] := by
    rw [hW5]; exact Kd.C_alloc l4 _
  have t5 : Kd.C (Kd.int .u8) W5 (some ⟨w.heap.size + 1 + 1 + 1 + 1, 0, none⟩) ([97, 98, 99] : List Int).length [97, 98, 99] := by
    rw [hW5, ← z4]; exact C_lit W4 [97, 98, 99] 5 (3, 4) (by decide)
  have L5 := Aside0.mk l5
  have T5 := Aside0.mk t5
  have B5 := Aside0.mk b5
  have Z5 := Aside0.mk z5
  have HW := Aside0.mk (show W5 = ((((w.alloc (.cells #[.int .u8 98] 5 (1, 2))).alloc (.cells #[.int .u8 120, .int .u8 121] 5 (2, 3))).alloc (.cells #[.int .u8 99] 5 (1, 2))).alloc (.cells #[.int .i64 1, .slice (some ⟨w.heap.size, 0, none⟩) 1 1, .slice (some ⟨w.heap.size + 1, 0, none⟩) 2 2, .int .i64 3, .slice (some ⟨w.heap.size + 1 + 1, 0, none⟩) 1 1, .slice none 0 0] 84)).alloc (.cells #[.int .u8 97, .int .u8 98, .int .u8 99] 5 (3, 4)) by rw [hW5, hW4, hW3, hW2, hW1])
  clear z1 z2 z3 z4 z5 b5 q1 q2 q3 q4 l4 l5 t5 hW1 hW2 hW3 hW4 hW5
  clear W1 W2 W3 W4
  go_enter Try.func44, Try.ntmps44
  go_wp2_with fail
  rw [← HW.out]
  refine (change_Apply.calls (some ⟨w.heap.size + 1 + 1 + 1 + 1, 0, none⟩) 3 [97, 98, 99] (some ⟨w.heap.size + 1 + 1 + 1, 0, none⟩) 2 [⟨1, [98], [120, 121]⟩, ⟨3, [99], []⟩] [97, 120, 121] 0 _ T5.out (Nat.le_refl _) L5.out (Nat.le_refl _) (by kernel_rfl)).mono ?_
  rintro e w6 ⟨v6, rfl, hR6, hb6⟩
  obtain ⟨A6, c6, rfl, hc6, hC6⟩ := Kd.R_reads hR6
  have B6 := Aside0.mk (below_step B5.out hb6)
  have C6 := Aside0.mk hC6
  have L6 := Aside0.mk (Kd.C_below L5.out hb6)
  clear hR6 hb6 hC6 HW L5 T5 B5 Z5
  go_wp2_with fail
  have T6 := C_lit w6 [97, 98, 99] 5 (3, 4) (by decide)
  have D6 := Kd.C_drop (m := 1) (c := 2) (Kd.C_alloc L6.out (.cells #[.int .u8 97, .int .u8 98, .int .u8 99] 5 (3, 4))) (by simp) (by simp)
  refine (change_Apply.calls (some ⟨w6.heap.size, 0, none⟩) 3 [97, 98, 99] (some ⟨w.heap.size + 1 + 1 + 1, 3, none⟩) 1 [⟨3, [99], []⟩] [] 170 _ T6 (Nat.le_refl _) D6 (Nat.le_refl _) (by kernel_rfl)).mono ?_
  rintro e w7 ⟨v7, rfl, hR7, hb7⟩
  have B7 := Aside0.mk (below_step (below_alloc B6.out _) hb7)
  have C7 := Aside0.mk (Kd.C_below (Kd.C_alloc C6.out (.cells #[.int .u8 97, .int .u8 98, .int .u8 99] 5 (3, 4))) hb7)
  have L7 := Aside0.mk (Kd.C_below (Kd.C_alloc L6.out (.cells #[.int .u8 97, .int .u8 98, .int .u8 99] 5 (3, 4))) hb7)
  clear T6 D6 hR7 hb7 B6 C6 L6
  go_wp2_with fail
  have T7 := Kd.C_alloc (C_lit w7 [104, 101, 108, 108, 111] 5 (5, 6) (by decide)) (.cells #[.int .u8 104, .int .u8 101, .int .u8 108, .int .u8 112] 5 (4, 5))
  have U7 := C_lit (w7.alloc (.cells #[.int .u8 104, .int .u8 101, .int .u8 108, .int .u8 108, .int .u8 111] 5 (5, 6))) [104, 101, 108, 112] 5 (4, 5) (by decide)
  rw [World.size_alloc] at U7
  refine (change_Between.calls kb (some ⟨w7.heap.size, 0, none⟩) 5 [104, 101, 108, 108, 111] (some ⟨w7.heap.size + 1, 0, none⟩) 4 [104, 101, 108, 112] _ _ T7 (Nat.le_refl _) U7 (Nat.le_refl _) HKB.out).mono ?_
  rintro e w8 ⟨v8, rfl, hS8, hb8⟩
  obtain ⟨A8, c8, rfl, hc8, hC8⟩ := Kd.S_reads hS8
  have B8 := Aside0.mk (below_step (below_alloc (below_alloc B7.out _) _) hb8)
  have C8 := Aside0.mk (Kd.C_below (Kd.C_alloc (Kd.C_alloc C7.out _) _) hb8)
  have L8 := Aside0.mk (Kd.C_below (Kd.C_alloc (Kd.C_alloc L7.out _) _) hb8)
  obtain ⟨ad, A1_, k1_, A2_, k2_, e8, hx0, hx1, hx2, hl1, hi1, hl2, hi2⟩ := at_T84 hC8 0 (by simp) (by simp)
  subst e8
  have e0 : rd_T84 [(⟨3, [108, 111], [112]⟩ : S84)] 0 = ⟨3, [108, 111], [112]⟩ := rfl
  rw [e0] at hx0 hx1 hx2 hi2
  rw [show ad.add ((0 : Int).toNat * 3) = ad from add_none ad] at hx0 hx1 hx2
  simp only [List.length_cons, List.length_nil, Nat.zero_add, Nat.reduceAdd] at hx0 hx1 hx2 hi2
  have s6 : (convert 72 9 (.slice A6 3 c6)).run Try.prog w8 = .ok (.string ⟨#[97, 120, 121]⟩) w8 := Kd.C_string (P := Try.prog) (A := A6) (c := c6) Try.underlying72 Try.underlying5 Try.underlying9 C8.out
  have s8 : (convert 72 9 (.slice A2_ 1 k2_)).run Try.prog w8 = .ok (.string ⟨#[112]⟩) w8 := Kd.C_string (P := Try.prog) (A := A2_) (c := k2_) Try.underlying72 Try.underlying5 Try.underlying9 hi2
  clear e0 hi1 hi2 hl1 hl2 hS8 hb8 hC8 hc8 hc6 T7 U7 B7 C7 L7 HKB s1 s2 C8
  go_wp2_with fail
  refine (change_Invert.calls (some ⟨w.heap.size + 1 + 1 + 1, 0, none⟩) 2 [⟨1, [98], [120, 121]⟩, ⟨3, [99], []⟩] [⟨3, [], [99]⟩, ⟨1, [120, 121], [98]⟩] _ L8.out (Nat.le_refl _) (by kernel_rfl)).mono ?_
  rintro e w9 ⟨v9, rfl, hS9, hb9⟩
  obtain ⟨A9, c9, rfl, hc9, hC9⟩ := Kd.S_reads hS9
  have B9 := Aside0.mk (below_step B8.out hb9)
  have L9 := Aside0.mk (Kd.C_below L8.out hb9)
  clear hS9 hb9 hC9 hc9 B8 L8 hx0 hx1 hx2 s6 s8
  go_wp2_with fail
  refine (change_First.calls (some ⟨w.heap.size + 1 + 1 + 1, 0, none⟩) 2 [⟨1, [98], [120, 121]⟩, ⟨3, [99], []⟩] 1 _ L9.out (Nat.le_refl _) (by kernel_rfl)).mono ?_
  rintro e w10 ⟨rfl, hb10⟩
  have B10 := Aside0.mk (below_step B9.out hb10)
  clear hb10 B9 L9
  go_wp2
  go_ret
  exact ⟨rfl, B10.out⟩

end Go.Proofs.Ytjljkcbopkldbaa
