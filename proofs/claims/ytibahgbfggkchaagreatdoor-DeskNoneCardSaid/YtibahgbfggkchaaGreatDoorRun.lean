/- The law 'tracerylaw32.DeskNone' comes to true, whatever it is handed: a run of the abstract evaluator, checked by the kernel. -/
import Derived.Test.YtibahgbfggkchaaGreatDoorProg
import Derived.Test.YtibahgbfggkchaaGreatDoorAevFast
import Derived.KernelRfl
namespace Go.Proofs.YtibahgbfggkchaaGreatDoor
open Go.Aev

/-- has a run come back with true? -/
noncomputable def cameTrue (r : Option (AEnd × AHeap)) : Bool :=
  match r with
  | some (.ret (.bool c), _) => c
  | _ => false

theorem told_true {P : Program} {loops n : Nat} {f : FuncId} {args : List AVal} (hc : callable P f = true) (h : cameTrue (ccall P loops n f args ⟨0, .nil⟩) = true)
    {args' : Array Value} (ha : VRels (fun _ => none) args args'.toList) (w : World) : Calls P f args' w fun e w' => e = .returned (.bool true) ∧ w.Extends w' := by
  refine told_call (loops := loops) (n := n) (b := true) (args := args) hc ?_ ha w
  revert h
  generalize ccall P loops n f args ⟨0, .nil⟩ = r
  intro h
  unfold cameTrue at h
  split at h
  · simp [h]
  · cases h

theorem law_callable : callable Tryz.prog 3 = true := by kernel_rfl

/-- an ask of which nothing is known -/
def anyAsk : AVal := .agg [.other (.int .i64 0), .other (.int .i64 0), .other (.int .i64 0), .other (.int .i64 0), .other (.int .u64 0), .other (.int .i64 0), .other (.int .i64 0), .other (.int .i64 0)]

theorem law_runs : cameTrue (ccall Tryz.prog 100000 100 3 [anyAsk, .other (.int .i64 0)] ⟨0, .nil⟩) = true := by kernel_rfl

theorem law_true (args : Array Value) (ha : VRels (fun _ => none) [anyAsk, .other (.int .i64 0)] args.toList) (w : World) :
    Calls Tryz.prog 3 args w fun e w' => e = .returned (.bool true) ∧ w.Extends w' :=
  told_true law_callable law_runs ha w

end Go.Proofs.YtibahgbfggkchaaGreatDoor
