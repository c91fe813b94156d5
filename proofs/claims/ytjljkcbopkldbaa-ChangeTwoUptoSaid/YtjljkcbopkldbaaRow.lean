/-
  For the claims about change: rows of bytes that the call itself made, as their block stands in memory; what slices.overlaps answers of such a row and another block. No condition.
-/
import Derived.Test.YtjljkcbopkldbaaX0
import Derived.Lib.Overlaps
import Derived.Lib.SliceRun
import Derived.Lib.AppendZerosOnto
import Derived.Laws.CopyOwn
import Derived.Laws.NewBlocks
import Derived.Shelf.Spec.SlicesInsert
import Derived.Deep.AppendSrc
import Derived.Deep.RegionLaw
namespace Go.Proofs.Ytjljkcbopkldbaa
open Go.RowKit Go.Proofs.YtjljkcbopkldbaaW.PrintWords Go.Proofs.YtjljkcbopkldbaaW.PrintLast Go.Proofs.YtjljkcbopkldbaaW.PrintMore
set_option linter.unusedVariables false
set_option linter.unusedSimpArgs false

/-- Block g is a plain row of bytes, and holds these values. -/
def RowAt (w : World) (g : Nat) (cur : List Value) : Prop := w.heap[g]? = some (.cells cur.toArray 5 (0, 0))

theorem RowAt.cell {w : World} {g : Nat} {cur : List Value} (h : RowAt w g cur) {j : Nat} {v : Value} (hj : cur[j]? = some v) : w.cell? ⟨g, j, none⟩ = some v := by
  unfold World.cell?; rw [h]; simpa using hj
theorem RowAt.isSome {w : World} {g : Nat} {cur : List Value} (h : RowAt w g cur) {j : Nat} (hj : j < cur.length) : (w.cell? ⟨g, j, none⟩).isSome = true := by
  rw [h.cell (List.getElem?_eq_getElem hj)]; rfl
theorem RowAt.frozen {w : World} {g : Nat} {cur : List Value} (h : RowAt w g cur) (j : Nat) : w.frozen? ⟨g, j, none⟩ = false := by
  unfold World.frozen?; rw [h]; simp
theorem RowAt.shape {w : World} {g : Nat} {cur : List Value} (h : RowAt w g cur) : w.shape? g = some (5, cur.length) := by
  unfold World.shape?; rw [h]; simp
theorem RowAt.lt {w : World} {g : Nat} {cur : List Value} (h : RowAt w g cur) : g < w.heap.size := blk_lt h
theorem RowAt.drewN {w : World} {g : Nat} {cur : List Value} (h : RowAt w g cur) (n : Nat) : RowAt (w.drewN n) g cur := h

theorem splice_cons (cur : List Value) (o : Nat) (v : Value) (r : List Value) (h : o < cur.length) : splice (cur.set o v) (o + 1) r = splice cur o (v :: r) := by
  unfold splice
  rw [List.drop_set_of_lt (by omega), List.take_succ_eq_append_getElem (by simpa using h), List.take_set_of_le (Nat.le_refl _)]
  simp [List.append_assoc]
  congr 1
  omega

theorem RowAt.setCells {g : Nat} : ∀ (vs : List Value) {w : World} {cur : List Value} (o : Nat), RowAt w g cur → o + vs.length ≤ cur.length → RowAt (w.setCells g o vs) g (splice cur o vs)
  | [], w, cur, o, h, _ => by simpa [splice, World.setCells] using h
  | v :: r, w, cur, o, h, hl => by
    have h1 : RowAt (w.setCell ⟨g, o, none⟩ v) g (cur.set o v) := by
      have := blk_set h o v
      unfold RowAt; rw [this]; simp
    have := RowAt.setCells r (o + 1) h1 (by simp at hl ⊢; omega)
    rw [splice_cons cur o v r (by simp at hl; omega)] at this
    exact this

theorem below_setCells {B g : Nat} {w0 : World} (hBg : B ≤ g) : ∀ (vs : List Value) {w : World} (o : Nat), Below B w0 w → Below B w0 (w.setCells g o vs)
  | [], _, _, h => h
  | v :: r, w, o, h => below_setCells hBg r (o + 1) (h.setCell (p := ⟨g, o, none⟩) hBg v)
theorem heap_setCells_other {g k : Nat} (hk : k ≠ g) : ∀ (vs : List Value) (w : World) (o : Nat), (w.setCells g o vs).heap[k]? = w.heap[k]?
  | [], _, _ => rfl
  | v :: r, w, o => by
    rw [World.setCells, heap_setCells_other hk r]
    exact Below.heap_setCell w ⟨g, o, none⟩ v k hk
theorem heap_setCells_size {g : Nat} : ∀ (vs : List Value) (w : World) (o : Nat), (w.setCells g o vs).heap.size = w.heap.size
  | [], _, _ => rfl
  | v :: r, w, o => by rw [World.setCells, heap_setCells_size r]; simp [World.setCell]

/-- The row's first n values are these numbers: the call owns the slice. -/
theorem RowAt.owns {w : World} {g B cap : Nat} {cur : List Value} {ys : List Int} (h : RowAt w g cur) (hB : B ≤ g) (hc : cur.length = cap) (hn : ys.length ≤ cap) (hm : cap ≤ maxLen) (ht : cur.take ys.length = nums .u8 ys) :
    w.ownsRow B 5 1 (.slice (some ⟨g, 0, none⟩) ys.length cap) ys.length (nums .u8 ys) :=
  ⟨by rw [nums_length]; omega, .inr ⟨g, cap, cur.toArray, rfl, hB, h, hn, hm, by simp [hc], by simpa using ht⟩⟩
theorem owns_row {w : World} {g B n cap : Nat} {ys : List Int} (h : w.ownsRow B 5 1 (.slice (some ⟨g, 0, none⟩) n cap) n (nums .u8 ys)) :
    ∃ cur : List Value, RowAt w g cur ∧ B ≤ g ∧ cur.length = cap ∧ n ≤ cap ∧ cap ≤ maxLen ∧ cur.take n = nums .u8 ys ∧ ys.length = n := by
  obtain ⟨hl, h | ⟨g', cap', cur, e, hB, hg, hn, hm, hs, ht⟩⟩ := h
  · cases h.1
  · cases e
    exact ⟨cur.toList, by unfold RowAt; simpa using hg, hB, by simpa using hs, hn, hm, by simpa using ht, by rw [nums_length] at hl; omega⟩

section
variable {P : Program}
/-- Two slices in two blocks, each with a cell; one of the two is plain memory. -/
theorem run_overlaps2 (w : World) (tS tR e : TypeId) (ht : P.underlying tS = some (.slice e)) (size : Nat) (hz : ∀ w, (Go.sizeOf e).run P w = .ok size w)
    (a b : Addr) (la ca lb cb : Nat) (hne : a.block ≠ b.block) (tA tB : TypeId) (kA kB : Nat)
    (hsa : w.shape? a.block = some (tA, kA)) (hsb : w.shape? b.block = some (tB, kB)) (hkA : kA ≠ 0) (hkB : kB ≠ 0)
    (hp : (w.frozen? a = false ∧ w.frozen? { block := a.block, off := kA } = false) ∨ (w.frozen? b = false ∧ w.frozen? { block := b.block, off := kB } = false)) :
    (Extern.SlicesOverlaps.overlaps #[tS, tS] #[tR] #[.slice (some a) la ca, .slice (some b) lb cb]).run P w = .ok (.bool false) w := by
  have hnb : (a.block != b.block) = true := by simpa using hne
  have hnb' : (a.block == b.block) = false := by simpa using hne
  change Sem.run P (α := Value) (do
    let some t := (#[tS, tS] : Array TypeId)[0]? | stuck "slices.overlaps: no parameter types"
    let .slice elem ← underlying t | stuck "slices.overlaps: slice type expected"
    let size ← sizeOf elem
    match (some a : Option Addr), (some b : Option Addr) with
    | some a, some b =>
      if la = 0 ∨ lb = 0 ∨ size = 0 then pure (Value.bool false)
      else if a.block != b.block && (← frozen a) && (← frozen b) then unsupported .addressObserved
      else do
        if a.block != b.block then do
          noView a; noView b
          if ← mayBeOne a b then return Value.bool ((← choose (.extern "sameAddr.stringBytes" 2)) == 1)
        pure (Value.bool (a.block == b.block && a.off < b.off + lb * size && b.off < a.off + la * size))
    | _, _ => pure (Value.bool false)) w = _
  by_cases h0 : la = 0 ∨ lb = 0 ∨ size = 0
  · simp [run_underlying ht, hz, h0]
  · obtain ⟨kA, rfl⟩ : ∃ k, kA = k + 1 := ⟨kA - 1, by omega⟩
    obtain ⟨kB, rfl⟩ : ∃ k, kB = k + 1 := ⟨kB - 1, by omega⟩
    rcases hp with ⟨hfa, hfe⟩ | ⟨hfa, hfe⟩
    · simp [run_underlying ht, hz, h0, hnb, hnb', frozen, noView, viewAt, mayBeOne, stringish, shape, Sem.run, hsa, hsb, hfa, hfe]
    · cases hfz : w.frozen? a <;> cases hfy : w.frozen? { block := a.block, off := kA + 1 } <;>
        simp [run_underlying ht, hz, h0, hnb, hnb', frozen, noView, viewAt, mayBeOne, stringish, shape, Sem.run, hsa, hsb, hfa, hfe, hfz, hfy]
end

end Go.Proofs.Ytjljkcbopkldbaa
