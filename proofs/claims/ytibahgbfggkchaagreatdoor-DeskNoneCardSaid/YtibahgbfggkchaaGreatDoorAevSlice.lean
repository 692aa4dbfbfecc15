/- Slices: bounds, parts laid into rows, make, append, copy. -/
import Derived.Test.YtibahgbfggkchaaGreatDoorAevPure
namespace Go.Aev

section
variable {P : Program} {κ : Kap} {h : AHeap} {w : World}

inductive ORelV (κ : Kap) : Option AVal → Option Value → Prop
  | none : ORelV κ none none
  | some {a : AVal} {v : Value} (h : VRel κ a v) : ORelV κ (some a) (some v)

def abound (v : AVal) (y : Nat) : Option Nat :=
  match v with
  | .int _ i => if 0 ≤ i ∧ i ≤ y then some i.toNat else none
  | _ => none

theorem bound_sim {v : AVal} {v' : Value} (hv : VRel κ v v') {y y' n : Nat} (hy : y ≤ y') (code : BoundsCode) (e : abound v y = some n) :
    (Instr.sliceBound v' y' code).run P w = .ok n w ∧ n ≤ y := by
  unfold abound at e
  split at e
  · rename_i k i
    split at e
    · rename_i hb
      cases e; cases hv
      refine ⟨?_, by omega⟩
      have : 0 ≤ i ∧ i ≤ (y' : Int) := by omega
      simp [Instr.sliceBound, asIntOf, this]
    · cases e
  · cases e

theorem abounds_eq (len cap : Nat) (lo hi mx : Option AVal) : abounds len cap lo hi mx =
    match (match mx with | some v => abound v cap | none => some cap) with
    | none => none
    | some m =>
      match (match hi, mx with | some v, _ => abound v m | none, none => some len | none, some _ => none) with
      | none => none
      | some h =>
        match (match lo with | some v => abound v h | none => some 0) with
        | none => none
        | some l => some (l, h, m) := rfl

/-- the bounds: those that are told, and the model's own last one -/
theorem bounds_sim {isS : Bool} {len cap cap' l hh m : Nat} {lo hi mx : Option AVal} {lo' hi' mx' : Option Value} (hlo : ORelV κ lo lo') (hhi : ORelV κ hi hi') (hmx : ORelV κ mx mx')
    (hc : cap ≤ cap') (e : abounds len cap lo hi mx = some (l, hh, m)) :
    ∃ m', (Instr.sliceBounds isS len cap' lo' hi' mx').run P w = .ok (l, hh, m') w ∧ l ≤ hh ∧ m ≤ m' ∧ m' ≤ cap' ∧ (hh ≤ m ∨ (hi = none ∧ hh = len)) ∧
      (mx.isSome = true → m' = m) ∧ (mx = none → m' = cap' ∧ m = cap) := by
  rw [abounds_eq] at e
  cases hmx with
  | none =>
    simp only at e
    cases hhi with
    | none =>
      simp only at e
      cases hlo with
      | none =>
        simp only at e; cases e
        refine ⟨cap', ?_, by omega, hc, by omega, .inr ⟨rfl, rfl⟩, by simp, fun _ => ⟨rfl, rfl⟩⟩
        simp [Instr.sliceBounds]
      | some hl =>
        rename_i a v
        simp only at e
        cases hq : abound a len with
        | none => rw [hq] at e; cases e
        | some n =>
          rw [hq] at e; cases e
          obtain ⟨h1, h2⟩ := bound_sim (P := P) (w := w) hl (Nat.le_refl len) .sliceB hq
          refine ⟨cap', ?_, h2, hc, by omega, .inr ⟨rfl, rfl⟩, by simp, fun _ => ⟨rfl, rfl⟩⟩
          simp [Instr.sliceBounds, h1]
    | some hh' =>
      rename_i a v
      simp only at e
      cases hq : abound a cap with
      | none => rw [hq] at e; cases e
      | some n =>
        rw [hq] at e; simp only at e
        have hB : ∀ code, (Instr.sliceBound v cap' code).run P w = .ok n w ∧ n ≤ cap := fun code => bound_sim hh' hc code hq
        cases hlo with
        | none =>
          simp only at e; cases e
          refine ⟨cap', ?_, by omega, hc, by omega, .inl (hB .sliceAcap).2, by simp, fun _ => ⟨rfl, rfl⟩⟩
          simp [Instr.sliceBounds, (hB _).1]
        | some hl =>
          rename_i a2 v2
          simp only at e
          cases hq2 : abound a2 n with
          | none => rw [hq2] at e; cases e
          | some n2 =>
            rw [hq2] at e; cases e
            obtain ⟨h1, h2⟩ := bound_sim (P := P) (w := w) hl (Nat.le_refl _) .sliceB hq2
            refine ⟨cap', ?_, h2, hc, by omega, .inl (hB .sliceAcap).2, by simp, fun _ => ⟨rfl, rfl⟩⟩
            simp [Instr.sliceBounds, (hB _).1, h1]
  | some hm =>
    rename_i am vm
    simp only at e
    cases hq0 : abound am cap with
    | none => rw [hq0] at e; cases e
    | some m0 =>
      rw [hq0] at e; simp only at e
      have hA : ∀ code, (Instr.sliceBound vm cap' code).run P w = .ok m0 w ∧ m0 ≤ cap := fun code => bound_sim hm hc code hq0
      cases hhi with
      | none => simp only at e; cases e
      | some hh' =>
        rename_i a v
        simp only at e
        cases hq : abound a m0 with
        | none => rw [hq] at e; cases e
        | some n =>
          rw [hq] at e; simp only at e
          have hB : ∀ code, (Instr.sliceBound v m0 code).run P w = .ok n w ∧ n ≤ m0 := fun code => bound_sim hh' (Nat.le_refl _) code hq
          cases hlo with
          | none =>
            simp only at e; cases e
            refine ⟨m, ?_, by omega, Nat.le_refl _, by have := (hA .sliceAcap).2; omega, .inl (hB .sliceAcap).2, fun _ => rfl, by simp⟩
            simp [Instr.sliceBounds, (hA _).1, (hB _).1]
          | some hl =>
            rename_i a2 v2
            simp only at e
            cases hq2 : abound a2 n with
            | none => rw [hq2] at e; cases e
            | some n2 =>
              rw [hq2] at e; cases e
              obtain ⟨h1, h2⟩ := bound_sim (P := P) (w := w) hl (Nat.le_refl _) .slice3C hq2
              refine ⟨m, ?_, h2, Nat.le_refl _, by have := (hA .sliceAcap).2; omega, .inl (hB .sliceAcap).2, fun _ => rfl, by simp⟩
              simp [Instr.sliceBounds, (hA _).1, (hB _).1, h1]

theorem mul_part (o l m c z : Nat) (e : Nat) (h : o + c * z ≤ e) (h1 : l ≤ m) (h2 : m ≤ c) : o + l * z + (m - l) * z ≤ e := by
  have a : l * z + (m - l) * z = m * z := by rw [← Nat.add_mul]; congr 1; omega
  have b : m * z ≤ c * z := Nat.mul_le_mul_right _ h2
  omega

theorem slice_sim {t : TypeId} {x v : AVal} {lo hi mx : Option AVal} {x' : Value} {lo' hi' mx' : Option Value} (hx : VRel κ x x') (hlo : ORelV κ lo lo') (hhi : ORelV κ hi hi')
    (hmx : ORelV κ mx mx') (e : aslice P t x lo hi mx = some v) : ∃ v', (Instr.sliceAt t x' lo' hi' mx').run P w = .ok v' w ∧ VRel κ v v' := by
  unfold aslice at e
  split at e
  · rename_i s hu
    split at e
    · rename_i l hh m hb
      cases e
      cases hmx
      obtain ⟨m', h1, _⟩ := bounds_sim (P := P) (w := w) (isS := false) hlo hhi .none (Nat.le_refl _) hb
      cases hx
      refine ⟨_, ?_, .str _⟩
      simp [Instr.sliceAt, Instr.slice, run_underlying hu, h1]
    · cases e
  · rename_i el hu
    split at e
    · rename_i z r hz hb
      cases e
      obtain ⟨l, hh, m⟩ := r
      cases hx
      obtain ⟨m', h1, h2, h3, h4, h5, _⟩ := bounds_sim (P := P) (w := w) (isS := true) hlo hhi hmx (Nat.le_refl _) hb
      refine ⟨_, ?_, .nilsl⟩
      have e1 : m' = 0 := by omega
      have e3 : hh = 0 := by rcases h5 with h | ⟨_, h⟩ <;> omega
      have e2 : l = 0 := by omega
      subst e1 e2 e3
      simp [Instr.sliceAt, Instr.slice, run_underlying hu, h1, run_sz hz]
    · cases e
  · rename_i el b off len cap ex esz hu
    split at e
    case h_2 => cases e
    rename_i z l hh m hz hb
    split at e
    case isFalse => cases e
    rename_i hze
    subst hze
    cases hx with
    | sl hk hl hc hxx he =>
      rename_i k cap'
      obtain ⟨m', h1, h2, h3, h4, h5, h6, h7⟩ := bounds_sim (P := P) (w := w) (isS := true) hlo hhi hmx hc hb
      have hhm : hh ≤ m := by
        rcases h5 with h | ⟨ha, hb'⟩
        · exact h
        · cases hmx with
          | none => have := (h7 rfl).2; omega
          | some hq => subst ha; rw [abounds_eq] at hb; simp at hb; split at hb <;> cases hb
      have hrun : (Instr.sliceAt t (.slice (some ⟨k.r, k.o + off, none⟩) len cap') lo' hi' mx').run P w =
          .ok (.slice (if m' = l then some ⟨k.r, k.o + off, none⟩ else some ⟨k.r, k.o + off + l * z, none⟩) (hh - l) (m' - l)) w := by
        simp only [Instr.sliceAt, Sem.run_bind, run_underlying hu, Result.andThen_ok, Instr.slice, h1, run_sz hz, Sem.run_pure, Option.map_some, add_lit]
      split at e
      · rename_i hc2
        cases e
        have hs : (ex || mx.isSome) = true ∧ m = l := by simpa using hc2
        have hm' : m' = m := by
          cases hmx with
          | none => have a := h7 rfl; have := hxx (by simpa using hs.1); omega
          | some hq => exact h6 rfl
        have e1 : m' = l := by omega
        refine ⟨_, hrun, ?_⟩
        rw [if_pos e1]
        have e2 : hh - l = 0 := by omega
        have e3 : m' - l = 0 := by omega
        rw [e2, e3]
        exact .slz
      · rename_i hc2
        cases e
        refine ⟨_, hrun, ?_⟩
        by_cases e1 : m' = l
        · rw [if_pos e1]
          have e2 : hh - l = 0 := by omega
          have e3 : m' - l = 0 := by omega
          have e4 : m - l = 0 := by omega
          rw [e2, e3, e4]
          exact .slz
        · rw [if_neg e1, Nat.add_assoc]
          refine .sl hk (by omega) (by omega) ?_ ?_
          · intro hsure
            have : m' = m := by
              cases hmx with
              | none => have a := h7 rfl; have := hxx (by simpa using hsure); omega
              | some hq => exact h6 rfl
            omega
          · have := mul_part (k.o + off) l m' cap' z k.e he (by omega) h4
            omega
    | slz =>
      rename_i a
      obtain ⟨m', h1, h2, h3, h4, h5, h6, h7⟩ := bounds_sim (P := P) (w := w) (isS := true) hlo hhi hmx (Nat.le_refl 0) hb
      have e1 : m' = 0 := by omega
      have e3 : hh = 0 := by rcases h5 with h | ⟨_, h⟩ <;> omega
      have e2 : l = 0 := by omega
      have e4 : m = 0 := by omega
      subst e1 e2 e3 e4
      have hrun : (Instr.sliceAt t (.slice (some a) 0 0) lo' hi' mx').run P w = .ok (.slice (some a) 0 0) w := by
        simp [Instr.sliceAt, Instr.slice, run_underlying hu, h1, run_sz hz]
      refine ⟨_, hrun, ?_⟩
      split at e <;> (cases e; exact .slz)
  · cases e

end
end Go.Aev
