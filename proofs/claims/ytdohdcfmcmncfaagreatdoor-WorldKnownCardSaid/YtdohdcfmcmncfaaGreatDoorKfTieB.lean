/-
  CLOSED FACTS OF THE PROGRAM, A FEW TO A TEXT: each one by the kernel, with room for it alone.
-/
import Derived.Test.YtdohdcfmcmncfaaGreatDoorRows
import Derived.ProofKit
import Derived.LaidByTextLater
import Derived.SevenTiedAt
namespace Go.Proofs.YtdohdcfmcmncfaaGreatDoor
open Go
noncomputable abbrev LL : List (String × DataW Unit) := [("unicode/utf8.acceptRanges", Rows.laid_unicode_utf8_acceptRanges), ("internal/strconv.uint64pow10", Rows.laid_internal_strconv_uint64pow10), ("math/bits.deBruijn32tab", Rows.laid_math_bits_deBruijn32tab), ("math/bits.deBruijn64tab", Rows.laid_math_bits_deBruijn64tab)]
theorem t4 : LL.map (fun x => Tryz.prog.kindOfLater x.1) = [.data, .data, .data, .data].map some := by kernel_rfl
theorem t5 : (Tryz.prog.funcNamed "gosem.cut.vars").isSome = true := by kernel_rfl
theorem t10 : (LL.all fun x => x.2.handleName?.isNone) = true := by kernel_rfl
end Go.Proofs.YtdohdcfmcmncfaaGreatDoor
