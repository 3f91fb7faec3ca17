/-
  CLOSED FACTS OF THE PROGRAM, A FEW TO A TEXT: each one by the kernel, with room for it alone.
-/
import Derived.Test.YtdohdcfmcmncfaaGreatDoorRows
import Derived.ProofKit
import Derived.LaidByTextLater
import Derived.SevenTiedAt
import Derived.Test.YtdohdcfmcmncfaaGreatDoorKfTieB
namespace Go.Proofs.YtdohdcfmcmncfaaGreatDoor
open Go
theorem t6 : varsNamedLaterB Tryz.prog (varsId Tryz.prog) LL = true := by kernel_rfl
end Go.Proofs.YtdohdcfmcmncfaaGreatDoor
