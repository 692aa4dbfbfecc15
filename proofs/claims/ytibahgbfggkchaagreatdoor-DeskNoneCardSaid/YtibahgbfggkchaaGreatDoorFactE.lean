/- Closed facts of the card of 'tracerylaw32.DeskNone', each a theorem of its own. -/
import Derived.Test.YtibahgbfggkchaaGreatDoorFactB
import GoSem.ClaimSeven
import Derived.SevenTiedAt
namespace Go.Proofs.YtibahgbfggkchaaGreatDoor
open Go
theorem wf_by_text : Rows.deskNoneRow.wfByText (OpenSpec.ofChange Rows.deskNoneSpec) = true := by kernel_rfl
theorem main_is : Tryz.pinned.checked.prog.mainIs = some (true, "3678dc8afdc987d043c76fe0248642f6f3f2c499c77d3454fa6e416b5c56c2bf".toList) := by kernel_rfl
theorem func_named : Tryz.prog.funcNamed "tracery/tracerylaw32.DeskNone" = some 3 := by kernel_rfl
theorem looks_is : true = Tryz.prog.looks [] := by kernel_rfl
theorem goes_reached : (closL.any fun g => (Tryz.prog.funcs[g]?).any Func.goes) = false := by kernel_rfl
theorem goes_any : Tryz.prog.funcs.any Func.goes = false := by kernel_rfl
theorem goes_not : Tryz.prog.goes 3 = false := by
  unfold Program.goes
  rw [closure_is, goes_reached, goes_any, Bool.and_false]
  rfl
theorem goes_is : false = Rows.deskNoneRow.goesBy Tryz.prog := by
  show false = Tryz.prog.goesAt .entering "tracery/tracerylaw32.DeskNone"
  unfold Program.goesAt Program.goesFrom
  rw [func_named, Option.any_some, goes_not]
  rfl
theorem stand_ins : ([27, 3].all fun u => !Tryz.prog.wantsStandIn u) = true := by kernel_rfl
end Go.Proofs.YtibahgbfggkchaaGreatDoor
