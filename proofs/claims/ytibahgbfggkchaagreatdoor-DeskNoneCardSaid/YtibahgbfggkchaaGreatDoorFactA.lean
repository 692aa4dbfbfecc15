/- Closed facts of the row of 'tracerylaw32.DeskNone', each a theorem of its own: that its types, variables and functions are laid out. -/
import Derived.Test.YtibahgbfggkchaaGreatDoorRows
import Derived.JoinedOf
namespace Go.Proofs.YtibahgbfggkchaaGreatDoor
open Go
theorem rows_a : (List.range' 0 400).all (rowFine Tryz.prog) = true := by kernel_rfl
theorem rows_b : (List.range' 400 348).all (rowFine Tryz.prog) = true := by kernel_rfl
theorem types_size : Tryz.prog.types.size = 748 := by kernel_rfl
theorem globals_in : Tryz.prog.globals.all (fun g => decide (g.type < 748)) = true := by kernel_rfl
theorem funcs_in : Tryz.prog.funcs.all (fun f => f.params.all fun t => decide (t < 748)) = true := by kernel_rfl
theorem k2 : laidOutB Tryz.prog = true := by
  unfold laidOutB
  rw [types_size, globals_in, funcs_in, List.range_eq_range', show (748 : Nat) = 400 + 348 from rfl, ← List.range'_append_1, List.all_append, rows_a]
  simpa using List.all_eq_true.1 rows_b
end Go.Proofs.YtibahgbfggkchaaGreatDoor
