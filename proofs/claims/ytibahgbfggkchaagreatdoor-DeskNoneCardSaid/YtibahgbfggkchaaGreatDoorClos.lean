/- What a function comes to, reckoned in the kernel from a table of what each function leads to. -/
import Derived.JoinedOf
namespace Go.Proofs.YtibahgbfggkchaaGreatDoor
open Go

/-- the functions that a function comes to, of a table of what each leads to -/
def closT (T : Nat → List Nat) : Nat → List Nat → List Nat → List Nat
  | 0, _, seen => seen.reverse
  | _, [], seen => seen.reverse
  | n + 1, f :: todo, seen => if seen.contains f then closT T n todo seen else closT T n (T f ++ todo) (f :: seen)

theorem closureVia_eq {P : Program} {T : Nat → List Nat} (hT : ∀ f, (P.funcs[f]?).elim [] P.leadsTo = T f) : ∀ (n : Nat) (todo seen : List Nat), P.closureVia n todo seen = closT T n todo seen := by
  intro n
  induction n with
  | zero => intro todo seen; rw [Program.closureVia, closT]
  | succ n ih =>
    intro todo seen
    cases todo with
    | nil => rw [Program.closureVia, closT] <;> exact nofun
    | cons f todo =>
      rw [Program.closureVia, closT, hT, ih, ih]

/-- the same, the set of those that are seen kept as a number's bits beside -/
def closM (T : Nat → List Nat) : Nat → List Nat → Nat → List Nat → List Nat
  | 0, _, _, seen => seen.reverse
  | _, [], _, seen => seen.reverse
  | n + 1, f :: todo, m, seen => if Nat.testBit m f then closM T n todo m seen else closM T n (T f ++ todo) (m ||| 1 <<< f) (f :: seen)

theorem closM_eq (T : Nat → List Nat) : ∀ (n : Nat) (todo : List Nat) (m : Nat) (seen : List Nat), (∀ f, Nat.testBit m f = seen.contains f) → closM T n todo m seen = closT T n todo seen := by
  intro n
  induction n with
  | zero => intro todo m seen _; rw [closM, closT]
  | succ n ih =>
    intro todo m seen h
    cases todo with
    | nil => rw [closM, closT] <;> exact nofun
    | cons f todo =>
      rw [closM, closT, h f]
      split
      · exact ih _ _ _ h
      · refine ih _ _ _ fun g => ?_
        rw [Nat.testBit_or, Nat.one_shiftLeft, Nat.testBit_two_pow, h g, List.contains_cons]
        by_cases e : f = g
        · subst e; simp
        · have e' : ¬ g = f := fun x => e x.symm
          simp [e, e']

theorem elim_leads {P : Program} {L : List (List Nat)} (h : P.funcs.toList.map P.leadsTo = L) (f : Nat) : (P.funcs[f]?).elim [] P.leadsTo = L.getD f [] := by
  subst h
  rw [List.getD, List.getElem?_map, Array.getElem?_toList]
  cases P.funcs[f]? <;> rfl

theorem closure_of {P : Program} {L : List (List Nat)} (h : P.funcs.toList.map P.leadsTo = L) {f fuel : Nat} {C : List Nat} (hf : 1 + (L.map fun l => l.length + 1).sum = fuel)
    (hc : closM (fun f => L.getD f []) fuel [f] 0 [] = C) : P.closure f = C := by
  have e : (P.funcs.toList.map fun g => (P.leadsTo g).length + 1) = L.map fun l => l.length + 1 := by
    rw [← h, List.map_map]; rfl
  unfold Program.closure
  rw [e, hf, closureVia_eq (elim_leads h), ← closM_eq _ _ _ 0 _ (fun f => by simp), hc]
end Go.Proofs.YtibahgbfggkchaaGreatDoor
