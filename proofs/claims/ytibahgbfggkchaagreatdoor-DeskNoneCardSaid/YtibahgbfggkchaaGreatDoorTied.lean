/- The listed variables of 'tracerylaw32.DeskNone' hold what the row lists behind the program's own initialisers: the tie's closed facts, each a theorem of its own. -/
import Derived.Test.YtibahgbfggkchaaGreatDoorRows
import Derived.LaidByTextLater
import Derived.LaidOnce
namespace Go.Proofs.YtibahgbfggkchaaGreatDoor
open Go
noncomputable def laidL : List (String × DataW Unit) := [("strconv.ErrSyntax", Rows.laid_strconv_ErrSyntax), ("strconv.ErrRange", Rows.laid_strconv_ErrRange), ("internal/strconv.uint64pow10", Rows.laid_internal_strconv_uint64pow10), ("math/bits.deBruijn32tab", Rows.laid_math_bits_deBruijn32tab), ("math/bits.deBruijn64tab", Rows.laid_math_bits_deBruijn64tab), ("internal/strconv.optimize", Rows.laid_internal_strconv_optimize), ("internal/strconv.powtab", Rows.laid_internal_strconv_powtab), ("unicode/utf8.acceptRanges", Rows.laid_unicode_utf8_acceptRanges)]
theorem tied_w : Tryz.prog.worded (varsWordLater true) = true := by kernel_rfl
theorem tied_w' : Tryz.prog.worded (varsWordLater !true) = false := by kernel_rfl
theorem tied_root : Tryz.prog.worded rootWordLater = true := by kernel_rfl
theorem tied_kinds : laidL.map (fun x => Tryz.prog.kindOfLater x.1) = [LaidKind.sentinel, .sentinel, .data, .data, .data, .data, .data, .data].map some := by kernel_rfl
theorem tied_there : (Tryz.prog.funcNamed "gosem.cut.vars").isSome = true := by kernel_rfl
theorem tied_named : varsNamedLaterB Tryz.prog (varsId Tryz.prog) laidL = true := by kernel_rfl
end Go.Proofs.YtibahgbfggkchaaGreatDoor
