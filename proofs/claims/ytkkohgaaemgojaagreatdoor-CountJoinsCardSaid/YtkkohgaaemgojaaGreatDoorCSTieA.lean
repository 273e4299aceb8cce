/- One closed fact of the program's start, by the kernel. -/
import Derived.Test.YtkkohgaaemgojaaGreatDoorRows
import Derived.LaidByTextLater
namespace Go.Proofs.YtkkohgaaemgojaaGreatDoor
open Go
theorem tie_hw : Tryz.prog.worded (varsWordLater true) = true := by kernel_rfl
theorem tie_hw2 : Tryz.prog.worded (varsWordLater !true) = false := by kernel_rfl
theorem tie_hroot : Tryz.prog.worded rootWordLater = true := by kernel_rfl
theorem tie_hg : (Tryz.prog.funcNamed "gosem.cut.vars").isSome = true := by kernel_rfl
def tieL : List (String × DataW Unit) := [("unicode/utf8.acceptRanges", Rows.laid_unicode_utf8_acceptRanges), ("strconv.ErrSyntax", Rows.laid_strconv_ErrSyntax), ("strconv.ErrRange", Rows.laid_strconv_ErrRange), ("internal/strconv.uint64pow10", Rows.laid_internal_strconv_uint64pow10), ("math/bits.deBruijn32tab", Rows.laid_math_bits_deBruijn32tab), ("math/bits.deBruijn64tab", Rows.laid_math_bits_deBruijn64tab)]
theorem tie_hk : tieL.map (fun x => Tryz.prog.kindOfLater x.1) = ([.data, .sentinel, .sentinel, .data, .data, .data] : List LaidKind).map some := by kernel_rfl
theorem tie_hn : varsNamedLaterB Tryz.prog (varsId Tryz.prog) tieL = true := by kernel_rfl
theorem tie_hp : (tieL.all fun x => x.2.handleName?.isNone) = true := by kernel_rfl
end Go.Proofs.YtkkohgaaemgojaaGreatDoor
