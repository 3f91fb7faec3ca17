/-
  CLOSED FACTS OF THE PROGRAM, A FEW TO A TEXT: each one by the kernel, with room for it alone.
-/
import Derived.Test.YtdohdcfmcmncfaaGreatDoorRows
import Derived.ProofKit
namespace Go.Proofs.YtdohdcfmcmncfaaGreatDoor
open Go
theorem sW0 : Rows.worldKnownRow.wf (OpenSpec.ofChange Rows.worldKnownSpec) = true := by kernel_rfl
theorem sW1 : (Tryz.f4.params.all (Tryz.pinned.checked.prog.readableRec ·) && namedTie Tryz.pinned.checked.prog Rows.worldKnownRow.named Rows.worldKnownSpec.vars && (Rows.worldKnownRow.stops == []) && (Tryz.pinned.checked.prog.stops == []) && (Rows.worldKnownRow.knobs == []) && (Tryz.pinned.checked.prog.stopKnobs == [])) = true := by kernel_rfl
theorem sW2 : ((Rows.worldKnownRow.maps == (Tryz.f4.params.toList ++ Rows.worldKnownSpec.plain.varTypes Tryz.pinned.checked.prog).any (Tryz.pinned.checked.prog.mapsRec ·)) && (Rows.worldKnownRow.ifaces == (Tryz.f4.params.toList ++ Rows.worldKnownSpec.plain.varTypes Tryz.pinned.checked.prog).any (Tryz.pinned.checked.prog.ifacesRec ·)) && (Rows.worldKnownRow.mapsOut == Tryz.pinned.checked.prog.mapsAmong Tryz.f4.resultTypes.toList) && (Rows.worldKnownRow.loops == (Tryz.f4.params.toList ++ Rows.worldKnownSpec.plain.varTypes Tryz.pinned.checked.prog).any (Tryz.pinned.checked.prog.loopsFrom ·)) && (Rows.worldKnownRow.wideKeys == (Tryz.f4.params.toList ++ Rows.worldKnownSpec.plain.varTypes Tryz.pinned.checked.prog ++ Tryz.f4.resultTypes.toList).any (Tryz.pinned.checked.prog.wideKeysFrom ·))) = true := by kernel_rfl
theorem sW3 : (Rows.worldKnownSpec.vars.all (Tryz.pinned.checked.prog.varReadable ·) && Tryz.f4.resultTypes.all (fun t => Tryz.pinned.checked.prog.readableRec t && decide (t < Tryz.pinned.checked.prog.types.size)) && (Rows.worldKnownRow.ifacesOut == Tryz.f4.resultTypes.toList.any (Tryz.pinned.checked.prog.ifacesRec ·)) && (Rows.worldKnownRow.loopsOut == Tryz.f4.resultTypes.toList.any (Tryz.pinned.checked.prog.loopsFrom ·))) = true := by kernel_rfl
theorem sW4 : (Rows.worldKnownRow.plainKeys == Tryz.pinned.checked.prog.plainKeys) = true := by kernel_rfl
theorem sW5 : (Rows.worldKnownRow.shortTexts.isNone && Tryz.pinned.checked.prog.stopsHeard && Tryz.pinned.checked.prog.mayEnter) = true := by kernel_rfl
theorem sW6 : (Rows.worldKnownRow.lifted == Tryz.pinned.checked.prog.liftsFinal) = true := by kernel_rfl
theorem sW7 : (Tryz.pinned.checked.prog.make == some Rows.worldKnownRow.make) = true := by kernel_rfl
theorem sW7b : (Rows.worldKnownRow.kinds == (if Rows.worldKnownRow.domain.isEmpty then [] else Tryz.f4.params.toList.map fun t => match Tryz.pinned.checked.prog.underlying t with | some (.int k) => some k | _ => none)) = true := by kernel_rfl
theorem sW8 : (Rows.worldKnownRow.pinned == Rows.worldKnownRow.pinnedBy) = true := by kernel_rfl
theorem sW9 : (Rows.worldKnownRow.veiled == (Tryz.f4.params.toList ++ Rows.worldKnownSpec.plain.varTypes Tryz.pinned.checked.prog ++ Tryz.f4.resultTypes.toList).any (Tryz.pinned.checked.prog.veiledRec ·)) = true := by kernel_rfl
theorem sW10 : Rows.worldKnownRow.veiledFits Tryz.pinned.checked.prog Tryz.f4.params.toList (Tryz.f4.params.toList ++ Rows.worldKnownSpec.plain.varTypes Tryz.pinned.checked.prog ++ Tryz.f4.resultTypes.toList) = true := by kernel_rfl
end Go.Proofs.YtdohdcfmcmncfaaGreatDoor
