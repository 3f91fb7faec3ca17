/-
  CLOSED FACTS OF THE PROGRAM, A FEW TO A TEXT: each one by the kernel, with room for it alone.
-/
import Derived.Test.YtdohdcfmcmncfaaGreatDoorRows
import Derived.SevenTiedAt
import Derived.ProofKit
namespace Go.Proofs.YtdohdcfmcmncfaaGreatDoor
open Go
theorem namedS : Tryz.pinned.checked.prog.funcNamed "tenement/tenementlaw26.StepKnown" = some 3 := by kernel_rfl
theorem instS : Tryz.f3.isInstance Tryz.pinned.checked.prog Rows.stepKnownRow.origin Rows.stepKnownRow.targs := of_decide_eq_true (by kernel_rfl)
theorem wrapS : Tryz.f3.isWrapper Tryz.pinned.checked.prog Rows.stepKnownRow.wrapper Rows.stepKnownRow.mainSum := by unfold Func.isWrapper; first | (rw [if_pos (by decide +kernel)]; kernel_rfl) | (rw [if_neg (by decide +kernel)]; exact ⟨rfl, rfl⟩)
end Go.Proofs.YtdohdcfmcmncfaaGreatDoor
