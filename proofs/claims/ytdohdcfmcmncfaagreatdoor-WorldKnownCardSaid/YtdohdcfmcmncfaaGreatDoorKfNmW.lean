/-
  CLOSED FACTS OF THE PROGRAM, A FEW TO A TEXT: each one by the kernel, with room for it alone.
-/
import Derived.Test.YtdohdcfmcmncfaaGreatDoorRows
import Derived.SevenTiedAt
import Derived.ProofKit
namespace Go.Proofs.YtdohdcfmcmncfaaGreatDoor
open Go
theorem namedW : Tryz.pinned.checked.prog.funcNamed "tenement/tenementlaw27.WorldKnown" = some 4 := by kernel_rfl
theorem instW : Tryz.f4.isInstance Tryz.pinned.checked.prog Rows.worldKnownRow.origin Rows.worldKnownRow.targs := of_decide_eq_true (by kernel_rfl)
theorem wrapW : Tryz.f4.isWrapper Tryz.pinned.checked.prog Rows.worldKnownRow.wrapper Rows.worldKnownRow.mainSum := by unfold Func.isWrapper; first | (rw [if_pos (by decide +kernel)]; kernel_rfl) | (rw [if_neg (by decide +kernel)]; exact ⟨rfl, rfl⟩)
end Go.Proofs.YtdohdcfmcmncfaaGreatDoor
