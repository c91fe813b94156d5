/-
  No cell of these rows narrows 'for every input' (looked for: loops, veiled, ifaces, maps, wideKeys, modest, calm, conditions, laid).
  DERIVED. THE GIVEN ROWS OF THIS SEAT. 14 by the template 'for every input the law returns true; each argument reads behind the call as it read before'; 0 by the template 'total and deterministic' (their statements: YtjljkcbopkldbaaTotals.lean).
  GIVEN WITH THE SEED: the statements are not yours to turn. If you find one false, say at which input.
  Laid BY PROGRAM, IN A SANDBOX (cutbox-rows.mjs): the forced cells as the released guide's own fill.sh prints them over the translation 35157ae19a7d1dda… (all of the seat's roots in one cut). By AI agents, Wed Nov 11 2026. No macro, syntax, notation, axiom, sorry.
-/
import Derived.Test.YtjljkcbopkldbaaChecked
import GoSem.Claim
import GoSem.ClaimJoined
import GoSem.ClaimMapViews
import Derived.JoinedTies
import Derived.KernelRfl
namespace Go.Proofs.Ytjljkcbopkldbaa
/- THE CELL 'sum', in the pinned program and in every row, IS THE sha256 OF THE DUMP (.gsa) THAT YtjljkcbopkldbaaProg.lean LOADS. Nothing in Lean hashes anything: it is a label: what it is worth is what the hold of that sum in a sandbox is worth. -/
noncomputable def Try.pinned : Pinned := { name := "ytjljkcbopkldbaa", sum := "35157ae19a7d1dda62ff6639774393b5fb90f9de46e6a7a4a8433945d3acd2c2", checked := Try.checked }
namespace Rows
def none {H : Type} : Left H := { results := [], args := [] }

/-- 'quoinlaw18.GroveAdds': WHATEVER THE INPUT: true; the input reads as it did. -/
def groveAddsSpec : ChangeSpec := { name := "groveAdds", fn := fun _ => fun
  | [d1, d2] => { results := [.lit (.bool true)], args := [d1, d2] }
  | _ => none }
def groveAddsRow : OpenClaim := { program := "ytjljkcbopkldbaa", sum := "35157ae19a7d1dda62ff6639774393b5fb90f9de46e6a7a4a8433945d3acd2c2", func := "quoin/quoinlaw18.GroveAdds", spec := "groveAdds", unfollowed := true, recurses := true, apart := false }
def GroveAddsSaid : Prop := groveAddsRow.holds Try.pinned (OpenSpec.ofChange groveAddsSpec)

/-- ITS FALSE NEIGHBOUR: 'it returns false'. Refute it at one input. -/
def groveAddsWrong : ChangeSpec := { name := "groveAdds", fn := fun _ => fun
  | [d1, d2] => { results := [.lit (.bool false)], args := [d1, d2] }
  | _ => none }
def GroveAddsWrongFalsely : Prop := groveAddsRow.holds Try.pinned (OpenSpec.ofChange groveAddsWrong)

/-- 'quoinlaw18.GroveKeeps': WHATEVER THE INPUT: true; the input reads as it did. -/
def groveKeepsSpec : ChangeSpec := { name := "groveKeeps", fn := fun _ => fun
  | [d1, d2, d3, d4] => { results := [.lit (.bool true)], args := [d1, d2, d3, d4] }
  | _ => none }
def groveKeepsRow : OpenClaim := { program := "ytjljkcbopkldbaa", sum := "35157ae19a7d1dda62ff6639774393b5fb90f9de46e6a7a4a8433945d3acd2c2", func := "quoin/quoinlaw18.GroveKeeps", spec := "groveKeeps", unfollowed := true, recurses := true, apart := false }
def GroveKeepsSaid : Prop := groveKeepsRow.holds Try.pinned (OpenSpec.ofChange groveKeepsSpec)

/-- ITS FALSE NEIGHBOUR: 'it returns false'. Refute it at one input. -/
def groveKeepsWrong : ChangeSpec := { name := "groveKeeps", fn := fun _ => fun
  | [d1, d2, d3, d4] => { results := [.lit (.bool false)], args := [d1, d2, d3, d4] }
  | _ => none }
def GroveKeepsWrongFalsely : Prop := groveKeepsRow.holds Try.pinned (OpenSpec.ofChange groveKeepsWrong)

/-- 'quoinlaw18.GroveChecks': WHATEVER THE INPUT: true; the input reads as it did. -/
def groveChecksSpec : ChangeSpec := { name := "groveChecks", fn := fun _ => fun
  | [d1, d2, d3] => { results := [.lit (.bool true)], args := [d1, d2, d3] }
  | _ => none }
def groveChecksRow : OpenClaim := { program := "ytjljkcbopkldbaa", sum := "35157ae19a7d1dda62ff6639774393b5fb90f9de46e6a7a4a8433945d3acd2c2", func := "quoin/quoinlaw18.GroveChecks", spec := "groveChecks", unfollowed := true, recurses := true, apart := false }
def GroveChecksSaid : Prop := groveChecksRow.holds Try.pinned (OpenSpec.ofChange groveChecksSpec)

/-- ITS FALSE NEIGHBOUR: 'it returns false'. Refute it at one input. -/
def groveChecksWrong : ChangeSpec := { name := "groveChecks", fn := fun _ => fun
  | [d1, d2, d3] => { results := [.lit (.bool false)], args := [d1, d2, d3] }
  | _ => none }
def GroveChecksWrongFalsely : Prop := groveChecksRow.holds Try.pinned (OpenSpec.ofChange groveChecksWrong)

/-- 'quoinlaw18.GroveCrosses': WHATEVER THE INPUT: true; the input reads as it did. -/
def groveCrossesSpec : ChangeSpec := { name := "groveCrosses", fn := fun _ => fun
  | [d1, d2, d3] => { results := [.lit (.bool true)], args := [d1, d2, d3] }
  | _ => none }
def groveCrossesRow : OpenClaim := { program := "ytjljkcbopkldbaa", sum := "35157ae19a7d1dda62ff6639774393b5fb90f9de46e6a7a4a8433945d3acd2c2", func := "quoin/quoinlaw18.GroveCrosses", spec := "groveCrosses", unfollowed := true, recurses := true, apart := false }
def GroveCrossesSaid : Prop := groveCrossesRow.holds Try.pinned (OpenSpec.ofChange groveCrossesSpec)

/-- ITS FALSE NEIGHBOUR: 'it returns false'. Refute it at one input. -/
def groveCrossesWrong : ChangeSpec := { name := "groveCrosses", fn := fun _ => fun
  | [d1, d2, d3] => { results := [.lit (.bool false)], args := [d1, d2, d3] }
  | _ => none }
def GroveCrossesWrongFalsely : Prop := groveCrossesRow.holds Try.pinned (OpenSpec.ofChange groveCrossesWrong)

/-- 'quoinlaw18.GroveBack': WHATEVER THE INPUT: true; the input reads as it did. -/
def groveBackSpec : ChangeSpec := { name := "groveBack", fn := fun _ => fun
  | [d1, d2] => { results := [.lit (.bool true)], args := [d1, d2] }
  | _ => none }
def groveBackRow : OpenClaim := { program := "ytjljkcbopkldbaa", sum := "35157ae19a7d1dda62ff6639774393b5fb90f9de46e6a7a4a8433945d3acd2c2", func := "quoin/quoinlaw18.GroveBack", spec := "groveBack", unfollowed := true, recurses := true, apart := false }
def GroveBackSaid : Prop := groveBackRow.holds Try.pinned (OpenSpec.ofChange groveBackSpec)

/-- ITS FALSE NEIGHBOUR: 'it returns false'. Refute it at one input. -/
def groveBackWrong : ChangeSpec := { name := "groveBack", fn := fun _ => fun
  | [d1, d2] => { results := [.lit (.bool false)], args := [d1, d2] }
  | _ => none }
def GroveBackWrongFalsely : Prop := groveBackRow.holds Try.pinned (OpenSpec.ofChange groveBackWrong)

/-- 'quoinlaw18.GroveLost': WHATEVER THE INPUT: true; the input reads as it did. -/
def groveLostSpec : ChangeSpec := { name := "groveLost", fn := fun _ => fun
  | [d1, d2, d3, d4] => { results := [.lit (.bool true)], args := [d1, d2, d3, d4] }
  | _ => none }
def groveLostRow : OpenClaim := { program := "ytjljkcbopkldbaa", sum := "35157ae19a7d1dda62ff6639774393b5fb90f9de46e6a7a4a8433945d3acd2c2", func := "quoin/quoinlaw18.GroveLost", spec := "groveLost", unfollowed := true, recurses := true, apart := false }
def GroveLostSaid : Prop := groveLostRow.holds Try.pinned (OpenSpec.ofChange groveLostSpec)

/-- ITS FALSE NEIGHBOUR: 'it returns false'. Refute it at one input. -/
def groveLostWrong : ChangeSpec := { name := "groveLost", fn := fun _ => fun
  | [d1, d2, d3, d4] => { results := [.lit (.bool false)], args := [d1, d2, d3, d4] }
  | _ => none }
def GroveLostWrongFalsely : Prop := groveLostRow.holds Try.pinned (OpenSpec.ofChange groveLostWrong)

/-- 'quoinlaw17.ChangeBetween': WHATEVER THE INPUT: true; the input reads as it did. -/
def changeBetweenSpec : ChangeSpec := { name := "changeBetween", fn := fun _ => fun
  | [d1, d2] => { results := [.lit (.bool true)], args := [d1, d2] }
  | _ => none }
def changeBetweenRow : OpenClaim := { program := "ytjljkcbopkldbaa", sum := "35157ae19a7d1dda62ff6639774393b5fb90f9de46e6a7a4a8433945d3acd2c2", func := "quoin/quoinlaw17.ChangeBetween", spec := "changeBetween", inPlace := ["slices.overlaps[byte]"], unfollowed := true, recurses := true, apart := false }
def ChangeBetweenSaid : Prop := changeBetweenRow.holds Try.pinned (OpenSpec.ofChange changeBetweenSpec)

/-- ITS FALSE NEIGHBOUR: 'it returns false'. Refute it at one input. -/
def changeBetweenWrong : ChangeSpec := { name := "changeBetween", fn := fun _ => fun
  | [d1, d2] => { results := [.lit (.bool false)], args := [d1, d2] }
  | _ => none }
def ChangeBetweenWrongFalsely : Prop := changeBetweenRow.holds Try.pinned (OpenSpec.ofChange changeBetweenWrong)

/-- 'quoinlaw17.ChangeKeeps': WHATEVER THE INPUT: true; the input reads as it did. -/
def changeKeepsSpec : ChangeSpec := { name := "changeKeeps", fn := fun _ => fun
  | [d1, d2] => { results := [.lit (.bool true)], args := [d1, d2] }
  | _ => none }
def changeKeepsRow : OpenClaim := { program := "ytjljkcbopkldbaa", sum := "35157ae19a7d1dda62ff6639774393b5fb90f9de46e6a7a4a8433945d3acd2c2", func := "quoin/quoinlaw17.ChangeKeeps", spec := "changeKeeps", inPlace := ["slices.overlaps[byte]"], unfollowed := true, recurses := true, apart := false }
def ChangeKeepsSaid : Prop := changeKeepsRow.holds Try.pinned (OpenSpec.ofChange changeKeepsSpec)

/-- ITS FALSE NEIGHBOUR: 'it returns false'. Refute it at one input. -/
def changeKeepsWrong : ChangeSpec := { name := "changeKeeps", fn := fun _ => fun
  | [d1, d2] => { results := [.lit (.bool false)], args := [d1, d2] }
  | _ => none }
def ChangeKeepsWrongFalsely : Prop := changeKeepsRow.holds Try.pinned (OpenSpec.ofChange changeKeepsWrong)

/-- 'quoinlaw17.ChangeApplies': WHATEVER THE INPUT: true; the input reads as it did. -/
def changeAppliesSpec : ChangeSpec := { name := "changeApplies", fn := fun _ => fun
  | [d1, d2] => { results := [.lit (.bool true)], args := [d1, d2] }
  | _ => none }
def changeAppliesRow : OpenClaim := { program := "ytjljkcbopkldbaa", sum := "35157ae19a7d1dda62ff6639774393b5fb90f9de46e6a7a4a8433945d3acd2c2", func := "quoin/quoinlaw17.ChangeApplies", spec := "changeApplies", inPlace := ["slices.overlaps[byte]"], unfollowed := true, recurses := true, apart := false }
def ChangeAppliesSaid : Prop := changeAppliesRow.holds Try.pinned (OpenSpec.ofChange changeAppliesSpec)

/-- ITS FALSE NEIGHBOUR: 'it returns false'. Refute it at one input. -/
def changeAppliesWrong : ChangeSpec := { name := "changeApplies", fn := fun _ => fun
  | [d1, d2] => { results := [.lit (.bool false)], args := [d1, d2] }
  | _ => none }
def ChangeAppliesWrongFalsely : Prop := changeAppliesRow.holds Try.pinned (OpenSpec.ofChange changeAppliesWrong)

/-- 'quoinlaw17.ChangePlain': WHATEVER THE INPUT: true; the input reads as it did. -/
def changePlainSpec : ChangeSpec := { name := "changePlain", fn := fun _ => fun
  | [d1, d2, d3] => { results := [.lit (.bool true)], args := [d1, d2, d3] }
  | _ => none }
def changePlainRow : OpenClaim := { program := "ytjljkcbopkldbaa", sum := "35157ae19a7d1dda62ff6639774393b5fb90f9de46e6a7a4a8433945d3acd2c2", func := "quoin/quoinlaw17.ChangePlain", spec := "changePlain", inPlace := ["slices.overlaps[byte]"], unfollowed := true, recurses := true, apart := false }
def ChangePlainSaid : Prop := changePlainRow.holds Try.pinned (OpenSpec.ofChange changePlainSpec)

/-- ITS FALSE NEIGHBOUR: 'it returns false'. Refute it at one input. -/
def changePlainWrong : ChangeSpec := { name := "changePlain", fn := fun _ => fun
  | [d1, d2, d3] => { results := [.lit (.bool false)], args := [d1, d2, d3] }
  | _ => none }
def ChangePlainWrongFalsely : Prop := changePlainRow.holds Try.pinned (OpenSpec.ofChange changePlainWrong)

/-- 'quoinlaw17.ChangeTrims': WHATEVER THE INPUT: true; the input reads as it did. -/
def changeTrimsSpec : ChangeSpec := { name := "changeTrims", fn := fun _ => fun
  | [d1, d2] => { results := [.lit (.bool true)], args := [d1, d2] }
  | _ => none }
def changeTrimsRow : OpenClaim := { program := "ytjljkcbopkldbaa", sum := "35157ae19a7d1dda62ff6639774393b5fb90f9de46e6a7a4a8433945d3acd2c2", func := "quoin/quoinlaw17.ChangeTrims", spec := "changeTrims", inPlace := ["slices.overlaps[byte]"], unfollowed := true, recurses := true, apart := false }
def ChangeTrimsSaid : Prop := changeTrimsRow.holds Try.pinned (OpenSpec.ofChange changeTrimsSpec)

/-- ITS FALSE NEIGHBOUR: 'it returns false'. Refute it at one input. -/
def changeTrimsWrong : ChangeSpec := { name := "changeTrims", fn := fun _ => fun
  | [d1, d2] => { results := [.lit (.bool false)], args := [d1, d2] }
  | _ => none }
def ChangeTrimsWrongFalsely : Prop := changeTrimsRow.holds Try.pinned (OpenSpec.ofChange changeTrimsWrong)

/-- 'quoinlaw17.ChangeTwo': WHATEVER THE INPUT: true; the input reads as it did. -/
def changeTwoSpec : ChangeSpec := { name := "changeTwo", fn := fun _ => fun
  | [d] => { results := [.lit (.bool true)], args := [d] }
  | _ => none }
def changeTwoRow : OpenClaim := { program := "ytjljkcbopkldbaa", sum := "35157ae19a7d1dda62ff6639774393b5fb90f9de46e6a7a4a8433945d3acd2c2", func := "quoin/quoinlaw17.ChangeTwo", spec := "changeTwo", inPlace := ["slices.overlaps[byte]"], unfollowed := true, recurses := true, apart := false }
def ChangeTwoSaid : Prop := changeTwoRow.holds Try.pinned (OpenSpec.ofChange changeTwoSpec)

/-- ITS FALSE NEIGHBOUR: 'it returns false'. Refute it at one input. -/
def changeTwoWrong : ChangeSpec := { name := "changeTwo", fn := fun _ => fun
  | [d] => { results := [.lit (.bool false)], args := [d] }
  | _ => none }
def ChangeTwoWrongFalsely : Prop := changeTwoRow.holds Try.pinned (OpenSpec.ofChange changeTwoWrong)

/-- 'quoinlaw17.ChangeBack': WHATEVER THE INPUT: true; the input reads as it did. -/
def changeBackSpec : ChangeSpec := { name := "changeBack", fn := fun _ => fun
  | [d1, d2] => { results := [.lit (.bool true)], args := [d1, d2] }
  | _ => none }
def changeBackRow : OpenClaim := { program := "ytjljkcbopkldbaa", sum := "35157ae19a7d1dda62ff6639774393b5fb90f9de46e6a7a4a8433945d3acd2c2", func := "quoin/quoinlaw17.ChangeBack", spec := "changeBack", inPlace := ["slices.overlaps[byte]"], unfollowed := true, recurses := true, apart := false }
def ChangeBackSaid : Prop := changeBackRow.holds Try.pinned (OpenSpec.ofChange changeBackSpec)

/-- ITS FALSE NEIGHBOUR: 'it returns false'. Refute it at one input. -/
def changeBackWrong : ChangeSpec := { name := "changeBack", fn := fun _ => fun
  | [d1, d2] => { results := [.lit (.bool false)], args := [d1, d2] }
  | _ => none }
def ChangeBackWrongFalsely : Prop := changeBackRow.holds Try.pinned (OpenSpec.ofChange changeBackWrong)

/-- 'quoinlaw18.GroveTexts': WHATEVER THE INPUT: true; the input reads as it did. -/
def groveTextsSpec : ChangeSpec := { name := "groveTexts", fn := fun _ => fun
  | [d1, d2] => { results := [.lit (.bool true)], args := [d1, d2] }
  | _ => none }
def groveTextsRow : OpenClaim := { program := "ytjljkcbopkldbaa", sum := "35157ae19a7d1dda62ff6639774393b5fb90f9de46e6a7a4a8433945d3acd2c2", func := "quoin/quoinlaw18.GroveTexts", spec := "groveTexts", inPlace := ["slices.overlaps[byte]"], unfollowed := true, recurses := true, apart := false }
def GroveTextsSaid : Prop := groveTextsRow.holds Try.pinned (OpenSpec.ofChange groveTextsSpec)

/-- ITS FALSE NEIGHBOUR: 'it returns false'. Refute it at one input. -/
def groveTextsWrong : ChangeSpec := { name := "groveTexts", fn := fun _ => fun
  | [d1, d2] => { results := [.lit (.bool false)], args := [d1, d2] }
  | _ => none }
def GroveTextsWrongFalsely : Prop := groveTextsRow.holds Try.pinned (OpenSpec.ofChange groveTextsWrong)

/- THE SECOND FORM. 'bulk': how many values and letters a reading holds, each counted each time it is reached (what is shared counts as often as it is met; a slice's spare places count too). A statement '..UptoSaid' is the law's where the arguments, and the package variables that the reading takes, are together of bulk at most 1048576: NARROWER than '..Said'. Prove '..Said' where nothing that the law and all that it calls make is longer than what came in: it says more and counts as full. Else prove '..UptoSaid'. A law counts once. -/
mutual
def uptoBulk {H : Type} : DataW H → Nat
  | .lit (.string bytes) => bytes.length + 1
  | .lit _ => 1
  | .nil => 1
  | .ptr d => uptoBulk d + 1
  | .slice elems spare => uptoBulkAll elems + uptoBulkAll spare + 1
  | .agg parts => uptoBulkAll parts + 1
  | .iface _ d => uptoBulk d + 1
  | .map entries => uptoBulkEntries entries + 1
  | .held _ => 1
def uptoBulkAll {H : Type} : List (DataW H) → Nat
  | [] => 0
  | d :: r => uptoBulk d + uptoBulkAll r
def uptoBulkEntries {H : Type} : List (Lit × DataW H) → Nat
  | [] => 0
  | x :: r => uptoBulkEntry x + uptoBulkEntries r
def uptoBulkEntry {H : Type} : Lit × DataW H → Nat
  | (.string bytes, d) => bytes.length + uptoBulk d + 1
  | (_, d) => uptoBulk d + 1
 end
def uptoSmall : (H : Type) → List (DataW H) → Bool := fun _ ds => decide (uptoBulkAll ds ≤ 1048576)
def OpenSpec.upto (s : _root_.Go.ChangeSpec) : _root_.Go.OpenSpec := { _root_.Go.OpenSpec.ofChange s with cond := some uptoSmall }

/-- 'quoinlaw18.GroveAdds', WHERE WHAT IT READS IS OF BULK AT MOST 1048576: true; the input reads as it did. -/
def groveAddsUptoRow : OpenClaim := { program := "ytjljkcbopkldbaa", sum := "35157ae19a7d1dda62ff6639774393b5fb90f9de46e6a7a4a8433945d3acd2c2", func := "quoin/quoinlaw18.GroveAdds", spec := "groveAdds", unfollowed := true, recurses := true, apart := false, narrowed := true }
def GroveAddsUptoSaid : Prop := groveAddsUptoRow.holds Try.pinned (OpenSpec.upto groveAddsSpec)

/-- 'quoinlaw18.GroveKeeps', WHERE WHAT IT READS IS OF BULK AT MOST 1048576: true; the input reads as it did. -/
def groveKeepsUptoRow : OpenClaim := { program := "ytjljkcbopkldbaa", sum := "35157ae19a7d1dda62ff6639774393b5fb90f9de46e6a7a4a8433945d3acd2c2", func := "quoin/quoinlaw18.GroveKeeps", spec := "groveKeeps", unfollowed := true, recurses := true, apart := false, narrowed := true }
def GroveKeepsUptoSaid : Prop := groveKeepsUptoRow.holds Try.pinned (OpenSpec.upto groveKeepsSpec)

/-- 'quoinlaw18.GroveChecks', WHERE WHAT IT READS IS OF BULK AT MOST 1048576: true; the input reads as it did. -/
def groveChecksUptoRow : OpenClaim := { program := "ytjljkcbopkldbaa", sum := "35157ae19a7d1dda62ff6639774393b5fb90f9de46e6a7a4a8433945d3acd2c2", func := "quoin/quoinlaw18.GroveChecks", spec := "groveChecks", unfollowed := true, recurses := true, apart := false, narrowed := true }
def GroveChecksUptoSaid : Prop := groveChecksUptoRow.holds Try.pinned (OpenSpec.upto groveChecksSpec)

/-- 'quoinlaw18.GroveCrosses', WHERE WHAT IT READS IS OF BULK AT MOST 1048576: true; the input reads as it did. -/
def groveCrossesUptoRow : OpenClaim := { program := "ytjljkcbopkldbaa", sum := "35157ae19a7d1dda62ff6639774393b5fb90f9de46e6a7a4a8433945d3acd2c2", func := "quoin/quoinlaw18.GroveCrosses", spec := "groveCrosses", unfollowed := true, recurses := true, apart := false, narrowed := true }
def GroveCrossesUptoSaid : Prop := groveCrossesUptoRow.holds Try.pinned (OpenSpec.upto groveCrossesSpec)

/-- 'quoinlaw18.GroveBack', WHERE WHAT IT READS IS OF BULK AT MOST 1048576: true; the input reads as it did. -/
def groveBackUptoRow : OpenClaim := { program := "ytjljkcbopkldbaa", sum := "35157ae19a7d1dda62ff6639774393b5fb90f9de46e6a7a4a8433945d3acd2c2", func := "quoin/quoinlaw18.GroveBack", spec := "groveBack", unfollowed := true, recurses := true, apart := false, narrowed := true }
def GroveBackUptoSaid : Prop := groveBackUptoRow.holds Try.pinned (OpenSpec.upto groveBackSpec)

/-- 'quoinlaw18.GroveLost', WHERE WHAT IT READS IS OF BULK AT MOST 1048576: true; the input reads as it did. -/
def groveLostUptoRow : OpenClaim := { program := "ytjljkcbopkldbaa", sum := "35157ae19a7d1dda62ff6639774393b5fb90f9de46e6a7a4a8433945d3acd2c2", func := "quoin/quoinlaw18.GroveLost", spec := "groveLost", unfollowed := true, recurses := true, apart := false, narrowed := true }
def GroveLostUptoSaid : Prop := groveLostUptoRow.holds Try.pinned (OpenSpec.upto groveLostSpec)

/-- 'quoinlaw17.ChangeBetween', WHERE WHAT IT READS IS OF BULK AT MOST 1048576: true; the input reads as it did. -/
def changeBetweenUptoRow : OpenClaim := { program := "ytjljkcbopkldbaa", sum := "35157ae19a7d1dda62ff6639774393b5fb90f9de46e6a7a4a8433945d3acd2c2", func := "quoin/quoinlaw17.ChangeBetween", spec := "changeBetween", inPlace := ["slices.overlaps[byte]"], unfollowed := true, recurses := true, apart := false, narrowed := true }
def ChangeBetweenUptoSaid : Prop := changeBetweenUptoRow.holds Try.pinned (OpenSpec.upto changeBetweenSpec)

/-- 'quoinlaw17.ChangeKeeps', WHERE WHAT IT READS IS OF BULK AT MOST 1048576: true; the input reads as it did. -/
def changeKeepsUptoRow : OpenClaim := { program := "ytjljkcbopkldbaa", sum := "35157ae19a7d1dda62ff6639774393b5fb90f9de46e6a7a4a8433945d3acd2c2", func := "quoin/quoinlaw17.ChangeKeeps", spec := "changeKeeps", inPlace := ["slices.overlaps[byte]"], unfollowed := true, recurses := true, apart := false, narrowed := true }
def ChangeKeepsUptoSaid : Prop := changeKeepsUptoRow.holds Try.pinned (OpenSpec.upto changeKeepsSpec)

/-- 'quoinlaw17.ChangeApplies', WHERE WHAT IT READS IS OF BULK AT MOST 1048576: true; the input reads as it did. -/
def changeAppliesUptoRow : OpenClaim := { program := "ytjljkcbopkldbaa", sum := "35157ae19a7d1dda62ff6639774393b5fb90f9de46e6a7a4a8433945d3acd2c2", func := "quoin/quoinlaw17.ChangeApplies", spec := "changeApplies", inPlace := ["slices.overlaps[byte]"], unfollowed := true, recurses := true, apart := false, narrowed := true }
def ChangeAppliesUptoSaid : Prop := changeAppliesUptoRow.holds Try.pinned (OpenSpec.upto changeAppliesSpec)

/-- 'quoinlaw17.ChangePlain', WHERE WHAT IT READS IS OF BULK AT MOST 1048576: true; the input reads as it did. -/
def changePlainUptoRow : OpenClaim := { program := "ytjljkcbopkldbaa", sum := "35157ae19a7d1dda62ff6639774393b5fb90f9de46e6a7a4a8433945d3acd2c2", func := "quoin/quoinlaw17.ChangePlain", spec := "changePlain", inPlace := ["slices.overlaps[byte]"], unfollowed := true, recurses := true, apart := false, narrowed := true }
def ChangePlainUptoSaid : Prop := changePlainUptoRow.holds Try.pinned (OpenSpec.upto changePlainSpec)

/-- 'quoinlaw17.ChangeTrims', WHERE WHAT IT READS IS OF BULK AT MOST 1048576: true; the input reads as it did. -/
def changeTrimsUptoRow : OpenClaim := { program := "ytjljkcbopkldbaa", sum := "35157ae19a7d1dda62ff6639774393b5fb90f9de46e6a7a4a8433945d3acd2c2", func := "quoin/quoinlaw17.ChangeTrims", spec := "changeTrims", inPlace := ["slices.overlaps[byte]"], unfollowed := true, recurses := true, apart := false, narrowed := true }
def ChangeTrimsUptoSaid : Prop := changeTrimsUptoRow.holds Try.pinned (OpenSpec.upto changeTrimsSpec)

/-- 'quoinlaw17.ChangeTwo', WHERE WHAT IT READS IS OF BULK AT MOST 1048576: true; the input reads as it did. -/
def changeTwoUptoRow : OpenClaim := { program := "ytjljkcbopkldbaa", sum := "35157ae19a7d1dda62ff6639774393b5fb90f9de46e6a7a4a8433945d3acd2c2", func := "quoin/quoinlaw17.ChangeTwo", spec := "changeTwo", inPlace := ["slices.overlaps[byte]"], unfollowed := true, recurses := true, apart := false, narrowed := true }
def ChangeTwoUptoSaid : Prop := changeTwoUptoRow.holds Try.pinned (OpenSpec.upto changeTwoSpec)

/-- 'quoinlaw17.ChangeBack', WHERE WHAT IT READS IS OF BULK AT MOST 1048576: true; the input reads as it did. -/
def changeBackUptoRow : OpenClaim := { program := "ytjljkcbopkldbaa", sum := "35157ae19a7d1dda62ff6639774393b5fb90f9de46e6a7a4a8433945d3acd2c2", func := "quoin/quoinlaw17.ChangeBack", spec := "changeBack", inPlace := ["slices.overlaps[byte]"], unfollowed := true, recurses := true, apart := false, narrowed := true }
def ChangeBackUptoSaid : Prop := changeBackUptoRow.holds Try.pinned (OpenSpec.upto changeBackSpec)

/-- 'quoinlaw18.GroveTexts', WHERE WHAT IT READS IS OF BULK AT MOST 1048576: true; the input reads as it did. -/
def groveTextsUptoRow : OpenClaim := { program := "ytjljkcbopkldbaa", sum := "35157ae19a7d1dda62ff6639774393b5fb90f9de46e6a7a4a8433945d3acd2c2", func := "quoin/quoinlaw18.GroveTexts", spec := "groveTexts", inPlace := ["slices.overlaps[byte]"], unfollowed := true, recurses := true, apart := false, narrowed := true }
def GroveTextsUptoSaid : Prop := groveTextsUptoRow.holds Try.pinned (OpenSpec.upto groveTextsSpec)

end Rows
end Go.Proofs.Ytjljkcbopkldbaa
