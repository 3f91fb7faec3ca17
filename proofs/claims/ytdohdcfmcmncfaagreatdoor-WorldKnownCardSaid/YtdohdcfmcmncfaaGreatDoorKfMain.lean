/-
  CLOSED FACTS OF THE PROGRAM, A FEW TO A TEXT: each one by the kernel, with room for it alone.
-/
import Derived.Test.YtdohdcfmcmncfaaGreatDoorRows
import Derived.SevenTiedAt
namespace Go.Proofs.YtdohdcfmcmncfaaGreatDoor
open Go
theorem main_is : Tryz.pinned.checked.prog.mainIs = some (true, "93f527a7ea6c39d9d05aa9bed2e931cd7998daf144effc54671faf4af7565a40".toList) := by kernel_rfl
theorem looks_are : true = Tryz.pinned.checked.prog.looks [] := by kernel_rfl
end Go.Proofs.YtdohdcfmcmncfaaGreatDoor
