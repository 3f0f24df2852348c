/-
  A part of the tie of the listed variables (the given text of the tie in parts: each within the bound on memory).
-/
import Derived.Test.YtebpacdbcoacgaaGreatDoorT0
import Derived.Test.YtebpacdbcoacgaaGreatDoorT1
import Derived.Test.YtebpacdbcoacgaaGreatDoorT2
import Derived.Test.YtebpacdbcoacgaaGreatDoorT3
import Derived.Test.YtebpacdbcoacgaaGreatDoorT4
import Derived.Test.YtebpacdbcoacgaaGreatDoorT5
import Derived.LaidByTextLater
import Derived.SevenTiedAt
namespace Go.Proofs.YtebpacdbcoacgaaGreatDoor
open Go
theorem tie : Tryz.prog.laidByTextLater [("unicode/utf8.acceptRanges", Rows.laid_unicode_utf8_acceptRanges), ("internal/strconv.uint64pow10", Rows.laid_internal_strconv_uint64pow10), ("math/bits.deBruijn32tab", Rows.laid_math_bits_deBruijn32tab), ("math/bits.deBruijn64tab", Rows.laid_math_bits_deBruijn64tab), ("strconv.ErrSyntax", Rows.laid_strconv_ErrSyntax), ("strconv.ErrRange", Rows.laid_strconv_ErrRange), ("pyxis/sha.small", Rows.laid_pyxis_sha_small), ("pyxis/sha.great", Rows.laid_pyxis_sha_great), ("errors.errorType", Rows.laid_errors_errorType), ("pyxis/ghash.fold", Rows.laid_pyxis_ghash_fold)] [.data, .data, .data, .data, .sentinel, .sentinel, .data, .data, .handle, .data] true :=
  Program.laidByTextLater_by_run_h 400 8 tie_w tie_w' tie_root tie_k tie_g tie_n tie_d tie_h1 tie_h2 tie_h3
theorem scriptMany_row_tie : Rows.scriptManyRow.laidByTextAt .later Tryz.pinned [.pinned, .data, .data, .data, .data, .sentinel, .sentinel, .data, .data, .handle, .data] true :=
  OpenClaim.laidByTextAt_pinned rfl rfl tie rfl rfl rfl rfl (fun y hy _e => by
    simp only [Rows.scriptManyRow, List.zip_cons_cons, List.zip_nil_right, List.mem_cons, List.mem_nil_iff, or_false] at hy
    rcases hy with rfl | rfl | rfl | rfl | rfl | rfl | rfl | rfl | rfl | rfl | rfl
    · exact ⟨pin_laid_unicode_utf8_first, by kernel_rfl⟩
    · cases _e
    · cases _e
    · cases _e
    · cases _e
    · cases _e
    · cases _e
    · cases _e
    · cases _e
    · cases _e
    · cases _e) fits1
theorem scriptNil_row_tie : Rows.scriptNilRow.laidByTextAt .later Tryz.pinned [.pinned, .data, .data, .data, .data, .sentinel, .sentinel, .data, .data, .handle, .data] true :=
  OpenClaim.laidByTextAt_pinned rfl rfl tie rfl rfl rfl rfl (fun y hy _e => by
    simp only [Rows.scriptNilRow, List.zip_cons_cons, List.zip_nil_right, List.mem_cons, List.mem_nil_iff, or_false] at hy
    rcases hy with rfl | rfl | rfl | rfl | rfl | rfl | rfl | rfl | rfl | rfl | rfl
    · exact ⟨pin_laid_unicode_utf8_first, by kernel_rfl⟩
    · cases _e
    · cases _e
    · cases _e
    · cases _e
    · cases _e
    · cases _e
    · cases _e
    · cases _e
    · cases _e
    · cases _e) fits1
end Go.Proofs.YtebpacdbcoacgaaGreatDoor
