/-
  A part of the tie of the listed variables: one closed fact.
-/
import Derived.Test.YtebpacdbcoacgaaGreatDoorRows
import Derived.LaidByTextLater
namespace Go.Proofs.YtebpacdbcoacgaaGreatDoor
open Go
def tieL : List (String × DataW Unit) := [("unicode/utf8.acceptRanges", Rows.laid_unicode_utf8_acceptRanges), ("internal/strconv.uint64pow10", Rows.laid_internal_strconv_uint64pow10), ("math/bits.deBruijn32tab", Rows.laid_math_bits_deBruijn32tab), ("math/bits.deBruijn64tab", Rows.laid_math_bits_deBruijn64tab), ("strconv.ErrSyntax", Rows.laid_strconv_ErrSyntax), ("strconv.ErrRange", Rows.laid_strconv_ErrRange), ("pyxis/sha.small", Rows.laid_pyxis_sha_small), ("pyxis/sha.great", Rows.laid_pyxis_sha_great), ("errors.errorType", Rows.laid_errors_errorType), ("pyxis/ghash.fold", Rows.laid_pyxis_ghash_fold)]
theorem tie_w : Tryz.prog.worded (varsWordLater true) = true := by kernel_rfl
theorem tie_w' : Tryz.prog.worded (varsWordLater !true) = false := by kernel_rfl
theorem tie_root : Tryz.prog.worded rootWordLater = true := by kernel_rfl
theorem tie_k : tieL.map (fun x => Tryz.prog.kindOfLater x.1) = ([.data, .data, .data, .data, .sentinel, .sentinel, .data, .data, .handle, .data] : List LaidKind).map some := by kernel_rfl
theorem tie_g : (Tryz.prog.funcNamed "gosem.cut.vars").isSome = true := by kernel_rfl
theorem tie_n : varsNamedLaterB Tryz.prog (varsId Tryz.prog) tieL = true := by kernel_rfl
end Go.Proofs.YtebpacdbcoacgaaGreatDoor
