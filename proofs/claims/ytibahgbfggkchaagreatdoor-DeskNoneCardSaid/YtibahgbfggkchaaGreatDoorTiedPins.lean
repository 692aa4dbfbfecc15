/- The listed variables of 'tracerylaw32.DeskNone': the three pinned tables, and that nothing bars the tie. -/
import Derived.Test.YtibahgbfggkchaaGreatDoorTied
namespace Go.Proofs.YtibahgbfggkchaaGreatDoor
open Go
theorem pin_pow10Tab : Tryz.pinned.checked.prog.pinnedFits "internal/strconv.pow10Tab" = true := by kernel_rfl
theorem pin_leftcheats : Tryz.pinned.checked.prog.pinnedFits "internal/strconv.leftcheats" = true := by kernel_rfl
theorem pin_first : Tryz.pinned.checked.prog.pinnedFits "unicode/utf8.first" = true := by kernel_rfl
theorem no_unsafe : Tryz.pinned.checked.prog.headLifts.contains "ownunsafe" = false := by kernel_rfl
theorem listed_fits : Tryz.pinned.checked.prog.listedFits (Rows.deskNoneRow.laid) = true := by
  unfold Program.listedFits
  rw [no_unsafe]
  kernel_rfl
theorem datum_pow10Tab : Pinned.datum "internal/strconv.pow10Tab" = some Rows.laid_internal_strconv_pow10Tab := by kernel_rfl
theorem datum_leftcheats : Pinned.datum "internal/strconv.leftcheats" = some Rows.laid_internal_strconv_leftcheats := by kernel_rfl
theorem datum_first : Pinned.datum "unicode/utf8.first" = some Rows.laid_unicode_utf8_first := by kernel_rfl
end Go.Proofs.YtibahgbfggkchaaGreatDoor
