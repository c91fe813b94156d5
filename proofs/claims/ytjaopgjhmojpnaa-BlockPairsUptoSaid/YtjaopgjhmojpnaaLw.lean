/-
  What the block laws share: the fixed examples come out as they must, a literal's bytes read as a list. No condition.
-/
import Derived.Test.YtjaopgjhmojpnaaX
import Derived.Lib.SlBytesConst
namespace Go.Proofs.Ytjaopgjhmojpnaa.Lw
open Go.RowKit Go.Proofs.YtjaopgjhmojpnaaW.PrintWords Go.Proofs.YtjaopgjhmojpnaaW.PrintLast Go.Proofs.YtjaopgjhmojpnaaW.PrintMore
open Go.Proofs.Ytjaopgjhmojpnaa.X
set_option linter.unusedVariables false
set_option linter.unusedSimpArgs false

theorem aw1 : block_Move.f 100 [97, 46, 32, 40, 98, 41] 3 1 (⟨#[37]⟩ : ByteArray) = some (3, 5, 2, 0) := by kernel_rfl
theorem aw2 : block_Move.f 100 [97, 46, 32, 40, 98, 41] 0 1 (⟨#[41]⟩ : ByteArray) = some (0, 3, 1, 0) := by kernel_rfl

theorem C_lit (W : World) (C : List Int) (t : TypeId) (m : Nat × Nat) (h : C.length ≤ 9223372036854775807) : Kd.C (Kd.int .u8) (W.alloc (.cells (C.map (Value.int .u8)).toArray t m)) (some ⟨W.heap.size, 0, none⟩) C.length C := by
  refine Kd.C_of_reads (d := (0 : Int)) (h1 := fun _ => rfl) ⟨rfl, h, fun _ => ⟨_, rfl, fun j hj => ?_⟩⟩
  have e : ((⟨W.heap.size, 0, none⟩ : Addr).add j) = ⟨W.heap.size, j, none⟩ := add_plain _ _
  rw [e]
  unfold World.cell?
  rw [heap_alloc_new]
  simp [List.getElem?_map, List.getElem?_eq_getElem hj]

theorem cell_first (w : World) (cs : Array Value) (t : TypeId) (m : Nat × Nat) (o : Obj) (j : Nat) : ((w.alloc (.cells cs t m)).alloc o).cell? ⟨w.heap.size, j, none⟩ = cs[j]? := by
  have h := blk_alloc (blk_new w (.cells cs t m)) o
  unfold World.cell?; rw [h]; simp
theorem kc1 (w : World) (o : Obj) (C : Array Value) (n c : Nat) : (convert 22 22 (.slice (some ⟨w.heap.size + 1, 0, none⟩) n c)).run Try.prog ((w.alloc o).alloc (.cells C 5)) = .ok (.slice (some ⟨w.heap.size + 1, 0, none⟩) n c) ((w.alloc o).alloc (.cells C 5 (C.size, C.size + 1))) := by
  have h := Lib.run_convert_bytes_const (P := Try.prog) (w.alloc o) 22 5 C n c Try.underlying22 Try.underlying5
  rwa [World.size_alloc] at h

set_option maxHeartbeats 4000000 in
set_option maxRecDepth 100000 in
theorem awake (w : World) : Calls Try.prog 7 #[] w fun e w' => e = .returned (.bool true) ∧ Below w.heap.size w w' := by
  have hu30 := Try.underlying30
  have kc := fun (w : World) (C : Array Value) (n c : Nat) => Lib.run_convert_bytes_const (P := Try.prog) w 22 5 C n c Try.underlying22 Try.underlying5
  have kc1 := kc1
  have c1 := C_lit w [97, 46, 32, 40, 98, 41] 5 (6, 7) (by decide)
  go_enter Try.func7, Try.ntmps7
  go_wp2_with fail
  refine (block_Move.calls 100 _ 6 [97, 46, 32, 40, 98, 41] 3 1 _ 3 5 2 0 _ c1 (by decide) aw1).mono ?_
  rintro e w1 ⟨rfl, hb1⟩
  have hz1 := hb1.size
  go_wp2_with fail
  have c2 := C_lit (w1.alloc (Obj.cells #[Value.int IntKind.i64 3, Value.int IntKind.i64 5, Value.int IntKind.i64 2] 30)) [97, 46, 32, 40, 98, 41] 5 (6, 7) (by decide)
  rw [World.size_alloc] at c2
  refine (block_Move.calls 100 _ 6 [97, 46, 32, 40, 98, 41] 0 1 _ 0 3 1 0 _ c2 (by decide) aw2).mono ?_
  rintro e w2 ⟨rfl, hb2⟩
  have hz2 := hb2.size
  simp only [World.size_alloc] at hz2
  have q : ∀ j, w2.cell? ⟨w1.heap.size, j, none⟩ = (#[Value.int IntKind.i64 3, Value.int IntKind.i64 5, Value.int IntKind.i64 2] : Array Value)[j]? := fun j => (hb2.cell (p := ⟨w1.heap.size, j, none⟩) (by simp [World.size_alloc]; omega)).trans (cell_first w1 _ _ _ _ j)
  have q' : ∀ (o : Obj) j, (w2.alloc o).cell? ⟨w1.heap.size, j, none⟩ = (#[Value.int IntKind.i64 3, Value.int IntKind.i64 5, Value.int IntKind.i64 2] : Array Value)[j]? := fun o j => (Below.cell (Below.refl w2.heap.size w2 |>.alloc (Nat.le_refl _) o) (p := ⟨w1.heap.size, j, none⟩) (by simp; omega)).trans (q j)
  have q0 : ∀ o : Obj, (w2.alloc o).cell? ⟨w1.heap.size, 0, none⟩ = some (.int .i64 3) := fun o => q' o 0
  have q1 : ∀ o : Obj, (w2.alloc o).cell? ⟨w1.heap.size, 1, none⟩ = some (.int .i64 5) := fun o => q' o 1
  have q2 : ∀ o : Obj, (w2.alloc o).cell? ⟨w1.heap.size, 2, none⟩ = some (.int .i64 2) := fun o => q' o 2
  clear q'
  clear q
  go_wp2
  go_ret
  refine ⟨rfl, ?_⟩
  have b1 : Below w.heap.size w w1 := below_step (below_alloc (Below.refl _ _) _) hb1
  have b2 : Below w.heap.size w w2 := below_step (below_alloc (below_alloc b1 _) _) hb2
  exact below_alloc b2 _
end Go.Proofs.Ytjaopgjhmojpnaa.Lw
