/- Closed facts of the row of 'tracerylaw32.DeskNone', each a theorem of its own: what the call comes to. -/
import Derived.Test.YtibahgbfggkchaaGreatDoorLeads
namespace Go.Proofs.YtibahgbfggkchaaGreatDoor
open Go
theorem inPlace_is : Rows.deskNoneRow.inPlace = Tryz.prog.inPlace 3 := by
  unfold Program.inPlace
  rw [closure_is]
  kernel_rfl
theorem unfollowed_is : Tryz.prog.unfollowed 3 = true := by
  unfold Program.unfollowed
  rw [closure_is]
  kernel_rfl
theorem recurses_is : Tryz.prog.recurses 3 = true := by
  unfold Program.recurses
  rw [unfollowed_is, Bool.true_or]
theorem named_is : Rows.deskNoneRow.named = Tryz.prog.varsNamed 3 := by
  unfold Program.varsNamed
  rw [closure_is]
  kernel_rfl
theorem k10 : (Rows.deskNoneRow.inPlace == Tryz.prog.inPlace 3) = true := by rw [← inPlace_is]; exact beq_self_eq_true _
theorem k11 : (Rows.deskNoneRow.unfollowed == Tryz.prog.unfollowed 3) = true := by rw [unfollowed_is]; rfl
theorem k12 : (Rows.deskNoneRow.recurses == Tryz.prog.recurses 3) = true := by rw [recurses_is]; rfl
theorem k13 : (Rows.deskNoneRow.named == Tryz.prog.varsNamed 3) = true := by rw [← named_is]; exact beq_self_eq_true _
end Go.Proofs.YtibahgbfggkchaaGreatDoor
