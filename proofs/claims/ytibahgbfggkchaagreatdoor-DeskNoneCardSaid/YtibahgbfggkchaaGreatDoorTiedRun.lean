/- The listed variables of 'tracerylaw32.DeskNone': the run of the program's own initialisers leaves what the row lists. -/
import Derived.Test.YtibahgbfggkchaaGreatDoorTied
namespace Go.Proofs.YtibahgbfggkchaaGreatDoor
open Go
theorem tied_run : ∀ os tape, doorLeaves Tryz.prog 400 8 65 laidL os tape = some (laidL.filter fun x => x.2.handleName?.isNone, (funcsListed laidL).map (·.2.funcsOut)) := fun _ _ => by kernel_rfl
end Go.Proofs.YtibahgbfggkchaaGreatDoor
