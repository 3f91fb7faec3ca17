/-
  THE TIE OF THE LISTED VARIABLES TO THE PROGRAM's TEXT, out of its closed facts.
-/
import Derived.Test.YtdohdcfmcmncfaaGreatDoorKfTieA
import Derived.Test.YtdohdcfmcmncfaaGreatDoorKfTieB
import Derived.Test.YtdohdcfmcmncfaaGreatDoorKfTieC
import Derived.Test.YtdohdcfmcmncfaaGreatDoorKfTieD
import Derived.Test.YtdohdcfmcmncfaaGreatDoorKfTieE
import Derived.Test.YtdohdcfmcmncfaaGreatDoorKfTieF
import Derived.Test.YtdohdcfmcmncfaaGreatDoorKfPin
import Derived.LaidByTextLater
import Derived.SevenTiedAt
namespace Go.Proofs.YtdohdcfmcmncfaaGreatDoor
open Go
theorem tie_listed : Tryz.prog.laidByTextLater [("unicode/utf8.acceptRanges", Rows.laid_unicode_utf8_acceptRanges), ("internal/strconv.uint64pow10", Rows.laid_internal_strconv_uint64pow10), ("math/bits.deBruijn32tab", Rows.laid_math_bits_deBruijn32tab), ("math/bits.deBruijn64tab", Rows.laid_math_bits_deBruijn64tab)] [.data, .data, .data, .data] true :=
  Program.laidByTextLater_by_run 400 8 t1 t2 t3 t4 t5 t6 t7 t8 t9 t10
theorem step_tied : Rows.stepKnownRow.laidByTextAt .later Tryz.pinned [.pinned, .data, .data, .data, .data] true :=
  OpenClaim.laidByTextAt_pinned rfl rfl tie_listed rfl rfl rfl rfl (fun y hy _e => by
    simp only [Rows.stepKnownRow, List.zip_cons_cons, List.zip_nil_right, List.mem_cons, List.mem_nil_iff, or_false] at hy
    rcases hy with rfl | rfl | rfl | rfl | rfl
    · exact ⟨pin_first, by kernel_rfl⟩
    · cases _e
    · cases _e
    · cases _e
    · cases _e) fits_all
theorem world_tied : Rows.worldKnownRow.laidByTextAt .later Tryz.pinned [.pinned, .data, .data, .data, .data] true :=
  OpenClaim.laidByTextAt_pinned rfl rfl tie_listed rfl rfl rfl rfl (fun y hy _e => by
    simp only [Rows.worldKnownRow, List.zip_cons_cons, List.zip_nil_right, List.mem_cons, List.mem_nil_iff, or_false] at hy
    rcases hy with rfl | rfl | rfl | rfl | rfl
    · exact ⟨pin_first, by kernel_rfl⟩
    · cases _e
    · cases _e
    · cases _e
    · cases _e) fits_all
end Go.Proofs.YtdohdcfmcmncfaaGreatDoor
