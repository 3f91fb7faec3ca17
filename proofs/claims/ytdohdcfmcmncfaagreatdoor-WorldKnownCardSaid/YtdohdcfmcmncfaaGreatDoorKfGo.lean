/-
  NO TEXT OF THE PROGRAM STARTS A GOROUTINE.
-/
import Derived.Test.YtdohdcfmcmncfaaGreatDoorRows
import Derived.SevenTiedAt
namespace Go.Proofs.YtdohdcfmcmncfaaGreatDoor
open Go
theorem no_goes : Tryz.pinned.checked.prog.funcs.any Func.goes = false := by kernel_rfl
theorem goes_not (Q : Program) (h : Q.funcs.any Func.goes = false) (f : FuncId) : Q.goes f = false := by
  unfold Program.goes
  rw [h, Bool.and_false, Bool.or_false, List.any_eq_false]
  intro g _
  cases hg : Q.funcs[g]? with
  | none => simp
  | some fn =>
    have hm := Array.mem_of_getElem? hg
    rw [Array.any_eq_false'] at h
    simpa using h fn hm
theorem goes_by (Q : Program) (h : Q.funcs.any Func.goes = false) (c : OpenClaim) (hs : c.start = .entering) : false = c.goesBy Q := by
  unfold OpenClaim.goesBy Program.goesAt Program.goesFrom
  rw [hs]
  simp only [Bool.or_false]
  cases Q.funcNamed c.func with
  | none => rfl
  | some f => exact (goes_not Q h f).symm
end Go.Proofs.YtdohdcfmcmncfaaGreatDoor
