/-
  CLOSED FACTS OF THE PROGRAM, A FEW TO A TEXT: each one by the kernel, with room for it alone.
-/
import Derived.Test.YtdohdcfmcmncfaaGreatDoorRows
import Derived.ProofKit
namespace Go.Proofs.YtdohdcfmcmncfaaGreatDoor
open Go
theorem kWC : (Rows.worldKnownRow.recurses == Tryz.pinned.checked.prog.recurses 4) = true := by kernel_rfl
end Go.Proofs.YtdohdcfmcmncfaaGreatDoor
