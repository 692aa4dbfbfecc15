/- Closed facts of the row of 'tracerylaw32.DeskNone', each a theorem of its own: its form. -/
import Derived.Test.YtibahgbfggkchaaGreatDoorRows
import Derived.JoinedOf
namespace Go.Proofs.YtibahgbfggkchaaGreatDoor
open Go
theorem k1 : Rows.deskNoneRow.wf (OpenSpec.ofChange Rows.deskNoneSpec) = true := by kernel_rfl
theorem k3 : mapsRowed Tryz.prog = true := by kernel_rfl
theorem k4 : Tryz.f3.params.all (Tryz.prog.readableRec ·) = true := by kernel_rfl
theorem k5 : namedTie Tryz.prog Rows.deskNoneRow.named Rows.deskNoneSpec.vars = true := by kernel_rfl
theorem k6 : (Rows.deskNoneRow.stops == []) = true := by kernel_rfl
theorem k7 : (Tryz.prog.stops == []) = true := by kernel_rfl
theorem k8 : (Rows.deskNoneRow.knobs == []) = true := by kernel_rfl
theorem k9 : (Tryz.prog.stopKnobs == []) = true := by kernel_rfl
end Go.Proofs.YtibahgbfggkchaaGreatDoor
