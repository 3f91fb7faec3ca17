/-
  CLOSED FACTS OF THE PROGRAM, A FEW TO A TEXT: each one by the kernel, with room for it alone.
-/
import Derived.Test.YtdohdcfmcmncfaaGreatDoorRows
import Derived.ProofKit
namespace Go.Proofs.YtdohdcfmcmncfaaGreatDoor
open Go
theorem kWA : (Rows.worldKnownRow.inPlace == Tryz.pinned.checked.prog.inPlace 4) = true := by kernel_rfl
end Go.Proofs.YtdohdcfmcmncfaaGreatDoor
