/-
  CLOSED FACTS OF THE PROGRAM, A FEW TO A TEXT: each one by the kernel, with room for it alone.
-/
import Derived.Test.YtdohdcfmcmncfaaGreatDoorRows
import Derived.ProofKit
import Derived.LaidByTextLater
import Derived.SevenTiedAt
import Derived.Test.YtdohdcfmcmncfaaGreatDoorKfTieB
namespace Go.Proofs.YtdohdcfmcmncfaaGreatDoor
open Go
theorem t8 : ∀ os tape, (DataW.laidRun Tryz.prog (varsWorld Tryz.prog 400 (varsId Tryz.prog) os tape).memory 8 (LL.map (·.1))).map (·.1) = some LL := fun _ _ => by kernel_rfl
end Go.Proofs.YtdohdcfmcmncfaaGreatDoor
