/-
  For the claims about block's motions: what strings.IndexByte, bytes.IndexByte and bytes.Count (at a separator of one byte) answer, as contracts over this translation. No condition.
-/
import Derived.Test.YtjaopgjhmojpnaaX0
import Derived.Lib.BytesEntry
import Derived.Shelf.Bytes.SlIndexAt
import Derived.Shelf.Bytes.SlCountOne
import Derived.Shelf.Strings.Search1
namespace Go.Proofs.Ytjaopgjhmojpnaa
open Go.RowKit Go.Proofs.YtjaopgjhmojpnaaW.PrintWords Go.Proofs.YtjaopgjhmojpnaaW.PrintLast Go.Proofs.YtjaopgjhmojpnaaW.PrintMore
set_option linter.unusedVariables false
set_option linter.unusedSimpArgs false

def strings_IndexByte.f (s : ByteArray) (c : Int) : Option Int := some (Lib.indexByte s.data.toList c.toNat.toUInt8)
def bytes_IndexByte.f (l0 : List Int) (c : Int) : Option Int := some (Lib.indexByte (Lib.bytesOf l0) c.toNat.toUInt8)
def bytes_Count.f (l0 : List Int) (l1 : List Int) : Option Int := match l1 with
  | [c] => some (Lib.countByte (Lib.bytesOf l0) c.toNat.toUInt8)
  | _ => none

theorem cells_of_C {k : IntKind} {w : World} {A : Option Addr} {l : List Int} (h : Kd.C (Kd.int k) w A l.length l) (h0 : 0 < l.length) :
    ∃ ad, A = some ad ∧ ∀ i, i < l.length → w.cell? (ad.add i) = some (.int k (l.getD i 0)) := by
  obtain ⟨_, _, hr⟩ := Kd.reads_of_C (d := (0 : Int)) h
  obtain ⟨ad, e, hc⟩ := hr h0
  exact ⟨ad, e, fun i hi => hc i hi⟩

set_option maxHeartbeats 2000000 in
set_option maxRecDepth 100000 in
theorem strings_IndexByte.calls (a0 : ByteArray) (a1 : Int) (r : Int) (w : World) (h : strings_IndexByte.f a0 a1 = some r) :
    Calls Try.prog 27 #[.string a0, .int .u8 a1] w fun e w' => e = .returned (.int .i64 r) ∧ Drawn0 w w' := by
  obtain rfl := Option.some.inj h
  clear h
  go_enter Try.func27, Try.ntmps27
  go_wp2
  rw [run_callFunc_extern Try.func45 (by kernel_rfl) (by kernel_rfl) (by kernel_rfl) (e := Extern.BytealgIndexByte.indexByte) (by kernel_rfl), Lib.run_indexByteString a0 a1 w]
  simp only [Result.andThen]
  rw [Oper.upon_value]
  go_wp2
  go_ret
  exact ⟨rfl, Drawn0.refl _⟩

set_option maxHeartbeats 2000000 in
set_option maxRecDepth 100000 in
theorem bytes_IndexByte.some_ (ad : Addr) (c0 : Nat) (l0 : List Int) (a1 : Int) (w : World) (hc : ∀ i, i < l0.length → w.cell? (ad.add i) = some (.int .u8 (l0.getD i 0))) :
    Calls Try.prog 51 #[.slice (some ad) l0.length c0, .int .u8 a1] w fun e w' => e = .returned (.int .i64 (Lib.indexByte (Lib.bytesOf l0) a1.toNat.toUInt8)) ∧ Drawn0 w w' := by
  go_enter Try.func51, Try.ntmps51
  go_wp2
  rw [run_callFunc_extern Try.func59 (by kernel_rfl) (by kernel_rfl) (by kernel_rfl) (e := Extern.BytealgIndexByte.indexByte) (by kernel_rfl), Lib.run_indexByteAt w ad l0.length c0 l0 rfl hc a1]
  simp only [Result.andThen]
  rw [Oper.upon_value]
  go_wp2
  go_ret
  exact ⟨rfl, Drawn0.refl _⟩

theorem run_indexByteNil (n c : Nat) (cv : Int) (w : World) :
    (Extern.BytealgIndexByte.indexByte #[.slice none n c, .int .u8 cv]).run Try.prog w = .ok (.int .i64 (-1)) w := by
  have hs := Lib.run_indexByteString (P := Try.prog) .empty cv w
  exact hs

set_option maxHeartbeats 2000000 in
set_option maxRecDepth 100000 in
theorem bytes_IndexByte.none_ (n c0 : Nat) (a1 : Int) (w : World) :
    Calls Try.prog 51 #[.slice none n c0, .int .u8 a1] w fun e w' => e = .returned (.int .i64 (-1)) ∧ Drawn0 w w' := by
  go_enter Try.func51, Try.ntmps51
  go_wp2
  rw [run_callFunc_extern Try.func59 (by kernel_rfl) (by kernel_rfl) (by kernel_rfl) (e := Extern.BytealgIndexByte.indexByte) (by kernel_rfl), run_indexByteNil n c0 a1 w]
  simp only [Result.andThen]
  rw [Oper.upon_value]
  go_wp2
  go_ret
  exact ⟨rfl, Drawn0.refl _⟩

theorem bytes_IndexByte.calls (A0 : Option Addr) (c0 : Nat) (l0 : List Int) (a1 : Int) (r : Int) (w : World) (hr0 : Kd.C (Kd.int .u8) w A0 l0.length l0) (hc0 : l0.length ≤ c0) (h : bytes_IndexByte.f l0 a1 = some r) :
    Calls Try.prog 51 #[.slice A0 l0.length c0, .int .u8 a1] w fun e w' => e = .returned (.int .i64 r) ∧ Drawn0 w w' := by
  obtain rfl := Option.some.inj h
  clear h
  cases A0 with
  | none =>
    have hn : l0 = [] := by
      rcases Nat.eq_zero_or_pos l0.length with h0 | h0
      · exact List.eq_nil_of_length_eq_zero h0
      · obtain ⟨ad, e, _⟩ := cells_of_C hr0 h0; cases e
    subst hn
    exact bytes_IndexByte.none_ _ _ _ _
  | some ad =>
    refine bytes_IndexByte.some_ ad c0 l0 a1 w (fun i hi => ?_)
    obtain ⟨ad', e, hc⟩ := cells_of_C hr0 (Nat.lt_of_le_of_lt (Nat.zero_le _) hi)
    cases e
    exact hc i hi

set_option maxHeartbeats 2000000 in
set_option maxRecDepth 100000 in
theorem bytes_Count.some_ (ad : Addr) (c0 : Nat) (l0 : List Int) (ad1 : Addr) (c1 : Nat) (x : Int) (w : World) (hc : ∀ i, i < l0.length → w.cell? (ad.add i) = some (.int .u8 (l0.getD i 0))) (h1 : w.cell? ad1 = some (.int .u8 x)) :
    Calls Try.prog 42 #[.slice (some ad) l0.length c0, .slice (some ad1) 1 c1] w fun e w' => e = .returned (.int .i64 (Lib.countByte (Lib.bytesOf l0) x.toNat.toUInt8)) ∧ Drawn0 w w' := by
  go_enter Try.func42, Try.ntmps42
  go_wp2
  rw [run_callFunc_extern Try.func49 (by kernel_rfl) (by kernel_rfl) (by kernel_rfl) (e := Extern.BytealgCount.count) (by kernel_rfl), Lib.run_countAt w ad l0.length c0 l0 rfl hc x]
  simp only [Result.andThen]
  rw [Oper.upon_value]
  go_wp2
  go_ret
  exact ⟨rfl, Drawn0.refl _⟩

set_option maxHeartbeats 2000000 in
set_option maxRecDepth 100000 in
theorem bytes_Count.none_ (n c0 : Nat) (ad1 : Addr) (c1 : Nat) (x : Int) (w : World) (h1 : w.cell? ad1 = some (.int .u8 x)) :
    Calls Try.prog 42 #[.slice none n c0, .slice (some ad1) 1 c1] w fun e w' => e = .returned (.int .i64 0) ∧ Drawn0 w w' := by
  go_enter Try.func42, Try.ntmps42
  go_wp2
  rw [run_callFunc_extern Try.func49 (by kernel_rfl) (by kernel_rfl) (by kernel_rfl) (e := Extern.BytealgCount.count) (by kernel_rfl), Lib.run_countNil w n c0 x]
  simp only [Result.andThen]
  rw [Oper.upon_value]
  go_wp2
  go_ret
  exact ⟨rfl, Drawn0.refl _⟩

theorem bytes_Count.calls (A0 : Option Addr) (c0 : Nat) (l0 : List Int) (A1 : Option Addr) (c1 : Nat) (l1 : List Int) (r : Int) (w : World) (hr0 : Kd.C (Kd.int .u8) w A0 l0.length l0) (hc0 : l0.length ≤ c0) (hr1 : Kd.C (Kd.int .u8) w A1 l1.length l1) (hc1 : l1.length ≤ c1) (h : bytes_Count.f l0 l1 = some r) :
    Calls Try.prog 42 #[.slice A0 l0.length c0, .slice A1 l1.length c1] w fun e w' => e = .returned (.int .i64 r) ∧ Drawn0 w w' := by
  match l1, hr1, hc1, h with
  | [x], hr1, hc1, h =>
    obtain rfl := Option.some.inj h
    clear h
    obtain ⟨ad1, rfl, h1⟩ := cells_of_C hr1 (by simp)
    have hx : w.cell? ad1 = some (.int .u8 x) := by
      have := h1 0 (by simp)
      simpa [Addr.add] using this
    cases A0 with
    | none =>
      have hn : l0 = [] := by
        rcases Nat.eq_zero_or_pos l0.length with h0 | h0
        · exact List.eq_nil_of_length_eq_zero h0
        · obtain ⟨ad, e, _⟩ := cells_of_C hr0 h0; cases e
      subst hn
      exact bytes_Count.none_ _ _ _ _ x _ hx
    | some ad =>
      refine bytes_Count.some_ ad c0 l0 ad1 c1 x w (fun i hi => ?_) hx
      obtain ⟨ad', e, hc⟩ := cells_of_C hr0 (Nat.lt_of_le_of_lt (Nat.zero_le _) hi)
      cases e
      exact hc i hi
  | [], _, _, h => cases h
  | _ :: _ :: _, _, _, h => cases h

end Go.Proofs.Ytjaopgjhmojpnaa
