/-
  ChangeBetween returns true and leaves its arguments as they are, at every input: its pure statement. No condition.
-/
import Derived.Test.YtjljkcbopkldbaaX4
import Derived.Test.YtjljkcbopkldbaaLbw
namespace Go.Proofs.Ytjljkcbopkldbaa.Pure
open Go.RowKit Go.Proofs.Ytjljkcbopkldbaa.X Go.Proofs.YtjljkcbopkldbaaW.PrintWords Go.Proofs.YtjljkcbopkldbaaW.PrintLast

theorem bytes_of {l : List Int} (h : ∀ x ∈ l, (Lit.int .u8 x).wf = true) : Pl.Bytes l := fun x hx => by
  have := h x hx
  simpa [Lit.wf, IntKind.min, IntKind.max, IntKind.signed, IntKind.bits] using this

theorem ChangeBetween : quoinlaw17_ChangeBetween.Pure := by
  intro a b _ ha hwa _ hb hwb
  exact (Pl.between_law a b (bytes_of hwa) (bytes_of hwb) (by omega) (by omega)).rounds

end Go.Proofs.Ytjljkcbopkldbaa.Pure
