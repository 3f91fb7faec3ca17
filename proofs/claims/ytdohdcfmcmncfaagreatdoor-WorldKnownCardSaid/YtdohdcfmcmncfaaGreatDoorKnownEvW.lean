/-
  CLOSED FACTS OF THE PROGRAM, A FEW TO A TEXT: each one by the kernel, with room for it alone.
-/
import Derived.Test.YtdohdcfmcmncfaaGreatDoorAmI
import Derived.Test.YtdohdcfmcmncfaaGreatDoorKnownRun
namespace Go.Proofs.YtdohdcfmcmncfaaGreatDoor
theorem world_yes : yes 4 = true := by kernel_rfl
end Go.Proofs.YtdohdcfmcmncfaaGreatDoor
