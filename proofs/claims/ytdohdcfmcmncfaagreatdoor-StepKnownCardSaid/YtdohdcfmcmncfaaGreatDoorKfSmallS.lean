/-
  CLOSED FACTS OF THE PROGRAM, A FEW TO A TEXT: each one by the kernel, with room for it alone.
-/
import Derived.Test.YtdohdcfmcmncfaaGreatDoorRows
import Derived.ProofKit
namespace Go.Proofs.YtdohdcfmcmncfaaGreatDoor
open Go
theorem sS0 : Rows.stepKnownRow.wf (OpenSpec.ofChange Rows.stepKnownSpec) = true := by kernel_rfl
theorem sS1 : (Tryz.f3.params.all (Tryz.pinned.checked.prog.readableRec ·) && namedTie Tryz.pinned.checked.prog Rows.stepKnownRow.named Rows.stepKnownSpec.vars && (Rows.stepKnownRow.stops == []) && (Tryz.pinned.checked.prog.stops == []) && (Rows.stepKnownRow.knobs == []) && (Tryz.pinned.checked.prog.stopKnobs == [])) = true := by kernel_rfl
theorem sS2 : ((Rows.stepKnownRow.maps == (Tryz.f3.params.toList ++ Rows.stepKnownSpec.plain.varTypes Tryz.pinned.checked.prog).any (Tryz.pinned.checked.prog.mapsRec ·)) && (Rows.stepKnownRow.ifaces == (Tryz.f3.params.toList ++ Rows.stepKnownSpec.plain.varTypes Tryz.pinned.checked.prog).any (Tryz.pinned.checked.prog.ifacesRec ·)) && (Rows.stepKnownRow.mapsOut == Tryz.pinned.checked.prog.mapsAmong Tryz.f3.resultTypes.toList) && (Rows.stepKnownRow.loops == (Tryz.f3.params.toList ++ Rows.stepKnownSpec.plain.varTypes Tryz.pinned.checked.prog).any (Tryz.pinned.checked.prog.loopsFrom ·)) && (Rows.stepKnownRow.wideKeys == (Tryz.f3.params.toList ++ Rows.stepKnownSpec.plain.varTypes Tryz.pinned.checked.prog ++ Tryz.f3.resultTypes.toList).any (Tryz.pinned.checked.prog.wideKeysFrom ·))) = true := by kernel_rfl
theorem sS3 : (Rows.stepKnownSpec.vars.all (Tryz.pinned.checked.prog.varReadable ·) && Tryz.f3.resultTypes.all (fun t => Tryz.pinned.checked.prog.readableRec t && decide (t < Tryz.pinned.checked.prog.types.size)) && (Rows.stepKnownRow.ifacesOut == Tryz.f3.resultTypes.toList.any (Tryz.pinned.checked.prog.ifacesRec ·)) && (Rows.stepKnownRow.loopsOut == Tryz.f3.resultTypes.toList.any (Tryz.pinned.checked.prog.loopsFrom ·))) = true := by kernel_rfl
theorem sS4 : (Rows.stepKnownRow.plainKeys == Tryz.pinned.checked.prog.plainKeys) = true := by kernel_rfl
theorem sS5 : (Rows.stepKnownRow.shortTexts.isNone && Tryz.pinned.checked.prog.stopsHeard && Tryz.pinned.checked.prog.mayEnter) = true := by kernel_rfl
theorem sS6 : (Rows.stepKnownRow.lifted == Tryz.pinned.checked.prog.liftsFinal) = true := by kernel_rfl
theorem sS7 : (Tryz.pinned.checked.prog.make == some Rows.stepKnownRow.make) = true := by kernel_rfl
theorem sS7b : (Rows.stepKnownRow.kinds == (if Rows.stepKnownRow.domain.isEmpty then [] else Tryz.f3.params.toList.map fun t => match Tryz.pinned.checked.prog.underlying t with | some (.int k) => some k | _ => none)) = true := by kernel_rfl
theorem sS8 : (Rows.stepKnownRow.pinned == Rows.stepKnownRow.pinnedBy) = true := by kernel_rfl
theorem sS9 : (Rows.stepKnownRow.veiled == (Tryz.f3.params.toList ++ Rows.stepKnownSpec.plain.varTypes Tryz.pinned.checked.prog ++ Tryz.f3.resultTypes.toList).any (Tryz.pinned.checked.prog.veiledRec ·)) = true := by kernel_rfl
theorem sS10 : Rows.stepKnownRow.veiledFits Tryz.pinned.checked.prog Tryz.f3.params.toList (Tryz.f3.params.toList ++ Rows.stepKnownSpec.plain.varTypes Tryz.pinned.checked.prog ++ Tryz.f3.resultTypes.toList) = true := by kernel_rfl
end Go.Proofs.YtdohdcfmcmncfaaGreatDoor
