/- Closed facts of the row of 'tracerylaw32.DeskNone', each a theorem of its own (the fourth part). -/
import Derived.Test.YtibahgbfggkchaaGreatDoorRows
import Derived.JoinedOf
namespace Go.Proofs.YtibahgbfggkchaaGreatDoor
open Go
theorem k14 : (Rows.deskNoneRow.maps == (Tryz.f3.params.toList ++ Rows.deskNoneSpec.plain.varTypes Tryz.prog).any (Tryz.prog.mapsRec ·)) = true := by kernel_rfl
theorem k15 : (Rows.deskNoneRow.ifaces == (Tryz.f3.params.toList ++ Rows.deskNoneSpec.plain.varTypes Tryz.prog).any (Tryz.prog.ifacesRec ·)) = true := by kernel_rfl
theorem k16 : (Rows.deskNoneRow.mapsOut == Tryz.prog.mapsAmong Tryz.f3.resultTypes.toList) = true := by kernel_rfl
theorem k17 : (Rows.deskNoneRow.loops == (Tryz.f3.params.toList ++ Rows.deskNoneSpec.plain.varTypes Tryz.prog).any (Tryz.prog.loopsFrom ·)) = true := by kernel_rfl
theorem k17b : (Rows.deskNoneRow.wideKeys == (Tryz.f3.params.toList ++ Rows.deskNoneSpec.plain.varTypes Tryz.prog ++ Tryz.f3.resultTypes.toList).any (Tryz.prog.wideKeysFrom ·)) = true := by kernel_rfl
theorem k18 : Rows.deskNoneSpec.vars.all (Tryz.prog.varReadable ·) = true := by kernel_rfl
theorem k19 : Tryz.f3.resultTypes.all (fun t => Tryz.prog.readableRec t && decide (t < Tryz.prog.types.size)) = true := by kernel_rfl
theorem k20 : (Rows.deskNoneRow.ifacesOut == Tryz.f3.resultTypes.toList.any (Tryz.prog.ifacesRec ·)) = true := by kernel_rfl
theorem k21 : (Rows.deskNoneRow.loopsOut == Tryz.f3.resultTypes.toList.any (Tryz.prog.loopsFrom ·)) = true := by kernel_rfl
theorem k22 : (Rows.deskNoneRow.plainKeys == Tryz.prog.plainKeys) = true := by kernel_rfl
theorem k23 : Rows.deskNoneRow.shortTexts.isNone = true := by kernel_rfl
theorem k23b : Tryz.prog.stopsHeard = true := by kernel_rfl
theorem k24 : Tryz.prog.mayEnter = true := by kernel_rfl
theorem k24b : (Rows.deskNoneRow.lifted == Tryz.prog.liftsFinal) = true := by kernel_rfl
theorem k24c : (Tryz.prog.make == some Rows.deskNoneRow.make) = true := by kernel_rfl
theorem k25 : (Rows.deskNoneRow.kinds == (if Rows.deskNoneRow.domain.isEmpty then [] else Tryz.f3.params.toList.map fun t => match Tryz.prog.underlying t with | some (.int k) => some k | _ => none)) = true := by kernel_rfl
theorem k26 : (Rows.deskNoneRow.pinned == Rows.deskNoneRow.pinnedBy) = true := by kernel_rfl
theorem k27 : (Rows.deskNoneRow.veiled == (Tryz.f3.params.toList ++ Rows.deskNoneSpec.plain.varTypes Tryz.prog ++ Tryz.f3.resultTypes.toList).any (Tryz.prog.veiledRec ·)) = true := by kernel_rfl
theorem k28 : Rows.deskNoneRow.veiledFits Tryz.prog Tryz.f3.params.toList (Tryz.f3.params.toList ++ Rows.deskNoneSpec.plain.varTypes Tryz.prog ++ Tryz.f3.resultTypes.toList) = true := by kernel_rfl
end Go.Proofs.YtibahgbfggkchaaGreatDoor
