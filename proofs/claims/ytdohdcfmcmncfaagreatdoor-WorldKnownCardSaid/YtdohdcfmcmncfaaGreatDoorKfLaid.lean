/-
  CLOSED FACTS OF THE PROGRAM, A FEW TO A TEXT: each one by the kernel, with room for it alone.
-/
import Derived.Test.YtdohdcfmcmncfaaGreatDoorRows
import Derived.ProofKit
namespace Go.Proofs.YtdohdcfmcmncfaaGreatDoor
open Go
theorem lc0 : ((List.range 240).all fun i => rowFine Tryz.pinned.checked.prog i) = true := by kernel_rfl
theorem lcg : (Tryz.pinned.checked.prog.globals.all (fun g => decide (g.type < Tryz.pinned.checked.prog.types.size)) && Tryz.pinned.checked.prog.funcs.all (fun f => f.params.all fun t => decide (t < Tryz.pinned.checked.prog.types.size))) = true := by kernel_rfl
theorem lc1 : ((List.range 240).all fun i => rowFine Tryz.pinned.checked.prog (240 + i)) = true := by kernel_rfl
theorem lc2 : ((List.range 240).all fun i => Nat.ble Tryz.pinned.checked.prog.types.size (480 + i) || rowFine Tryz.pinned.checked.prog (480 + i)) = true := by kernel_rfl
theorem lcs : Nat.ble Tryz.pinned.checked.prog.types.size 720 = true := by kernel_rfl
theorem laid_out : laidOutB Tryz.pinned.checked.prog = true := by
  unfold laidOutB
  have hg := lcg
  simp only [Bool.and_eq_true] at hg
  simp only [Bool.and_eq_true]
  refine ⟨⟨?_, hg.1⟩, hg.2⟩
  rw [List.all_eq_true]
  intro x hx
  have hx : x < Tryz.pinned.checked.prog.types.size := List.mem_range.1 hx
  have hs := Nat.le_of_ble_eq_true lcs
  by_cases h1 : x < 240
  · exact List.all_eq_true.1 lc0 x (List.mem_range.2 h1)
  · by_cases h2 : x < 480
    · have := List.all_eq_true.1 lc1 (x - 240) (List.mem_range.2 (by omega))
      rwa [show 240 + (x - 240) = x by omega] at this
    · have := List.all_eq_true.1 lc2 (x - 480) (List.mem_range.2 (by omega))
      rw [show 480 + (x - 480) = x by omega, Bool.or_eq_true] at this
      rcases this with q | q
      · have := Nat.le_of_ble_eq_true q; omega
      · exact q
end Go.Proofs.YtdohdcfmcmncfaaGreatDoor
