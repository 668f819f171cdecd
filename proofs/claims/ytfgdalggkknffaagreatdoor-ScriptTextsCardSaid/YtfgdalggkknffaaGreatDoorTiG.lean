/- The ties of this seat's laid variables, in parts: each by the kernel. No condition. -/
import Derived.Test.YtfgdalggkknffaaGreatDoorTiL
set_option linter.all false
namespace Go.Proofs.YtfgdalggkknffaaGreatDoor
open Go
set_option maxRecDepth 100000
theorem tie_pin_laid_unicode_utf8_first : Tryz.pinned.checked.prog.pinnedFits "unicode/utf8.first" = true := by kernel_rfl
theorem tie_nou : Tryz.pinned.checked.prog.headLifts.contains "ownunsafe" = false := by kernel_rfl
theorem tie_hk : tieL.map (fun x => Tryz.prog.kindOfLater x.1) = ([.data, .sentinel, .sentinel, .data, .data, .data] : List LaidKind).map some := by kernel_rfl
theorem tie_hp : (tieL.all fun x => x.2.handleName?.isNone) = true := by kernel_rfl
theorem tie_fits : Tryz.pinned.checked.prog.listedFits [("unicode/utf8.first", Rows.laid_unicode_utf8_first), ("unicode/utf8.acceptRanges", Rows.laid_unicode_utf8_acceptRanges), ("strconv.ErrSyntax", Rows.laid_strconv_ErrSyntax), ("strconv.ErrRange", Rows.laid_strconv_ErrRange), ("internal/strconv.uint64pow10", Rows.laid_internal_strconv_uint64pow10), ("math/bits.deBruijn32tab", Rows.laid_math_bits_deBruijn32tab), ("math/bits.deBruijn64tab", Rows.laid_math_bits_deBruijn64tab)] = true := by
  unfold Program.listedFits
  rw [tie_nou]
  kernel_rfl
end Go.Proofs.YtfgdalggkknffaaGreatDoor

