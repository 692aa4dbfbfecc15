/- A start that fits the row of 'tracerylaw32.DeskNone': the listed variables laid. Closed facts, each a theorem of its own. -/
import Derived.Test.YtibahgbfggkchaaGreatDoorRows
import Derived.Lay
import Derived.LaidMore
import Derived.ChangeAt
import Derived.ProofKit
namespace Go.Proofs.YtibahgbfggkchaaGreatDoor
open Go Go.ChangeShapes Go.WideShapes Go.ChangeAt Go.RowKit
theorem own : ownKnob Tryz.prog.godebug = none := by kernel_rfl
/-- the input of the start -/
def startArgs : Array Value := #[.agg #[.int .i64 0, .int .i64 0, .int .i64 0, .int .i64 0, .int .u64 0, .string ByteArray.empty, .int .i64 0, .slice none 0 0], .int .i64 0]
noncomputable def startWorld (os : Os) : World := (World.laidAll Tryz.prog os Rows.deskNoneRow.laid).forCall (fun _ _ => 0) { blocks := #[], args := startArgs }
theorem st_zip (os : Os) : World.variablesZipB Tryz.prog (startWorld os) = true := by kernel_rfl
theorem st_rest (os : Os) : List.take ((begin Tryz.prog (fun _ _ => 0) default).world.heap.size - Tryz.prog.globals.size) (List.drop Tryz.prog.globals.size (startWorld os).heap.toList) =
    List.drop Tryz.prog.globals.size (begin Tryz.prog (fun _ _ => 0) default).world.heap.toList := by kernel_rfl
theorem st_fits (os : Os) : Input.okWideB Tryz.prog (startWorld os) 3 { blocks := #[], args := startArgs } = true := by kernel_rfl
theorem st_pre (os : Os) (H : Type) (enc : TypeId × Value → H) : ChangeSpec.preB enc Tryz.prog Tryz.f3 Rows.deskNoneSpec Rows.deskNoneRow.domain false (startWorld os).memory startArgs 8 = true := by kernel_rfl
theorem st_sized (os : Os) (H : Type) (enc : TypeId × Value → H) : ChangeSpec.sizedB enc Tryz.prog Tryz.f3 Rows.deskNoneSpec false (startWorld os).memory startArgs 8 = true := by kernel_rfl
theorem st_plain : (Rows.deskNoneRow.laid.all fun x => x.snd.handleName?.isNone) = true := by kernel_rfl
theorem st_lay (os : Os) : World.layFits Tryz.prog (World.holding Tryz.prog os { blocks := #[], args := #[] }) Rows.deskNoneRow.laid [] = true := by kernel_rfl
theorem st_ifaces (os : Os) : World.layIfaces Tryz.prog (World.holding Tryz.prog os { blocks := #[], args := #[] }) Rows.deskNoneRow.laid (World.laidAll Tryz.prog os Rows.deskNoneRow.laid) = true := by kernel_rfl
end Go.Proofs.YtibahgbfggkchaaGreatDoor
