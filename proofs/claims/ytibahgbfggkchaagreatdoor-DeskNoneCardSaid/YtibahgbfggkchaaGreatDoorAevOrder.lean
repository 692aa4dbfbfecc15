/- Regions whose order is drawn: runs of the plan, and what they say of each operation. -/
import Derived.Test.YtibahgbfggkchaaGreatDoorAevDraw
namespace Go.Aev

section
variable {P : Program} {rec : Rec} {ops : Array Oper}

def Run (P : Program) (rec : Rec) (ops : Array Oper) (l : List Nat) (s s' : ASt) : Prop := aops P rec ops l s = some (.normal, s')

theorem aops_append (l1 l2 : List Nat) (s : ASt) : aops P rec ops (l1 ++ l2) s = match aops P rec ops l1 s with
    | some (.normal, s1) => aops P rec ops l2 s1
    | r => r := by
  induction l1 generalizing s with
  | nil => simp [aops]
  | cons i l1 ih =>
    simp only [List.cons_append, aops]
    cases ops[i]? with
    | none => exact ih s
    | some o =>
      simp only
      cases wantedA ops o s.tm with
      | none => rfl
      | some b =>
        cases b with
        | false =>
          simp only
          cases s.put o.dst .undef with
          | none => rfl
          | some s2 => exact ih s2
        | true =>
          simp only
          cases aop P o (aeval s.tm) s.h with
          | none => rfl
          | some res =>
            cases res with
            | val v h =>
              simp only
              cases ASt.put { s with h := h } o.dst v with
              | none => rfl
              | some s2 => exact ih s2
            | skip h =>
              simp only
              cases ASt.put { s with h := h } o.dst .undef with
              | none => rfl
              | some s2 => exact ih s2
            | call f args =>
              simp only
              cases rec f args s.h with
              | none => rfl
              | some q =>
                obtain ⟨en, h⟩ := q
                cases en with
                | panic v => rfl
                | ret v =>
                  simp only
                  cases ASt.put { s with h := h } o.dst v with
                  | none => rfl
                  | some s2 => exact ih s2
            | defer f args =>
              simp only
              cases ASt.put { s with defers := ⟨f, args⟩ :: s.defers } o.dst .undef with
              | none => rfl
              | some s2 => exact ih s2
            | panic v => rfl

theorem run_append {l1 l2 : List Nat} {s s' : ASt} : Run P rec ops (l1 ++ l2) s s' ↔ ∃ m, Run P rec ops l1 s m ∧ Run P rec ops l2 m s' := by
  unfold Run
  rw [aops_append]
  constructor
  · intro h
    split at h
    · rename_i m hm; exact ⟨m, hm, h⟩
    · rename_i hne; exact absurd h (hne _)
  · rintro ⟨m, h1, h2⟩
    rw [h1]; exact h2

theorem run_cons {i : Nat} {l : List Nat} {s s' : ASt} : Run P rec ops (i :: l) s s' ↔ ∃ m, Run P rec ops [i] s m ∧ Run P rec ops l m s' :=
  run_append (l1 := [i])

theorem run_nil {s s' : ASt} : Run P rec ops [] s s' ↔ s' = s := by
  unfold Run; simp [aops, eq_comm]

/-- one operation -/
inductive OneRun (P : Program) (rec : Rec) (ops : Array Oper) (o : Oper) (s : ASt) (s' : ASt) : Prop
  | not (hw : wantedA ops o s.tm = some false) (hp : s.put o.dst .undef = some s')
  | val {v : AVal} {h : AHeap} (hw : wantedA ops o s.tm = some true) (ha : aop P o (aeval s.tm) s.h = some (.val v h)) (hp : ASt.put { s with h := h } o.dst v = some s')
  | skip {h : AHeap} (hw : wantedA ops o s.tm = some true) (ha : aop P o (aeval s.tm) s.h = some (.skip h)) (hp : ASt.put { s with h := h } o.dst .undef = some s')
  | call {f : FuncId} {args : List AVal} {v : AVal} {h : AHeap} (hw : wantedA ops o s.tm = some true) (ha : aop P o (aeval s.tm) s.h = some (.call f args)) (hr : rec f args s.h = some (.ret v, h))
      (hp : ASt.put { s with h := h } o.dst v = some s')
  | defer {f : FuncId} {args : List AVal} (hw : wantedA ops o s.tm = some true) (ha : aop P o (aeval s.tm) s.h = some (.defer f args))
      (hp : ASt.put { s with defers := ⟨f, args⟩ :: s.defers } o.dst .undef = some s')

theorem run_one {i : Nat} {o : Oper} (hi : ops[i]? = some o) {s s' : ASt} : Run P rec ops [i] s s' ↔ OneRun P rec ops o s s' := by
  unfold Run
  simp only [aops, hi]
  constructor
  · intro h
    cases hw : wantedA ops o s.tm with
    | none => rw [hw] at h; cases h
    | some b =>
      rw [hw] at h
      cases b with
      | false =>
        simp only at h
        cases hp : s.put o.dst .undef with
        | none => rw [hp] at h; cases h
        | some s2 => rw [hp] at h; cases h; exact .not hw hp
      | true =>
        simp only at h
        cases ha : aop P o (aeval s.tm) s.h with
        | none => rw [ha] at h; cases h
        | some res =>
          rw [ha] at h
          cases res with
          | val v hh =>
            simp only at h
            cases hp : ASt.put { s with h := hh } o.dst v with
            | none => rw [hp] at h; cases h
            | some s2 => rw [hp] at h; cases h; exact .val hw ha hp
          | skip hh =>
            simp only at h
            cases hp : ASt.put { s with h := hh } o.dst .undef with
            | none => rw [hp] at h; cases h
            | some s2 => rw [hp] at h; cases h; exact .skip hw ha hp
          | call f args =>
            simp only at h
            cases hr : rec f args s.h with
            | none => rw [hr] at h; cases h
            | some q =>
              obtain ⟨en, hh⟩ := q
              rw [hr] at h
              cases en with
              | panic v => cases h
              | ret v =>
                simp only at h
                cases hp : ASt.put { s with h := hh } o.dst v with
                | none => rw [hp] at h; cases h
                | some s2 => rw [hp] at h; cases h; exact .call hw ha hr hp
          | defer f args =>
            simp only at h
            cases hp : ASt.put { s with defers := ⟨f, args⟩ :: s.defers } o.dst .undef with
            | none => rw [hp] at h; cases h
            | some s2 => rw [hp] at h; cases h; exact .defer hw ha hp
          | panic v => cases h
  · intro h
    cases h with
    | not hw hp => simp only [hw, hp]
    | val hw ha hp => simp only [hw, ha, hp]
    | skip hw ha hp => simp only [hw, ha, hp]
    | call hw ha hr hp => simp only [hw, ha, hr, hp]
    | defer hw ha hp => simp only [hw, ha, hp]

theorem put_spec {s s' : ASt} {dst : Option Tmp} {v : AVal} : s.put dst v = some s' ↔ (∀ d, dst = some d → d < s.nt) ∧ s' = { s with tm := match dst with | some d => s.tm.set d v | none => s.tm } := by
  cases dst with
  | none =>
    simp only [ASt.put, Option.some.injEq]
    exact ⟨fun e => ⟨fun d h => by (cases h), e ▸ rfl⟩, fun e => by rw [e.2]⟩
  | some d =>
    simp only [ASt.put]
    constructor
    · intro h
      split at h
      · rename_i hd; cases h; exact ⟨fun d' e => by cases e; exact hd, rfl⟩
      · cases h
    · rintro ⟨h1, rfl⟩
      rw [if_pos (h1 d rfl)]

def ARes.isVal : ARes → Prop
  | .val _ _ => True
  | _ => False

theorem isVal_map {x : Option AVal} {h : AHeap} {res : ARes} (e : x.map (ARes.val · h) = some res) : res.isVal := by
  obtain ⟨v, _, rfl⟩ := map_val e; trivial

theorem builtin_val {b : Builtin} {ats : Array TypeId} {l : List AVal} {h : AHeap} {res : ARes} (e : abuiltin P b ats l h = some res) : res.isVal := by
  unfold abuiltin at e
  split at e
  · unfold aappend at e; (repeat' split at e) <;> first | (cases e; done) | (cases e; trivial) | (simp only at e; (repeat' split at e) <;> first | (cases e; done) | (cases e; trivial))
  · unfold acopy at e; (repeat' split at e) <;> first | (cases e; done) | (cases e; trivial) | (simp only at e; (repeat' split at e) <;> first | (cases e; done) | (cases e; trivial))
  · unfold aclear at e; (repeat' split at e) <;> first | (cases e; done) | (cases e; trivial)
  · exact isVal_map e
  · exact isVal_map e
  · exact isVal_map e
  · exact isVal_map e
  · rename_i m k
    cases hd : adelete P h ats m k with
    | none => rw [hd] at e; cases e
    | some h' => rw [hd] at e; cases e; trivial
  · cases e

theorem defer_form {o : Oper} {ev : Operand → AVal} {h : AHeap} {f : FuncId} {args : List AVal} (e : aop P o ev h = some (.defer f args)) : ∃ c, o.op = .defer c := by
  have no : ∀ {res : ARes}, res = .defer f args → res.isVal → False := by intro res hr hv; subst hr; exact hv
  unfold aop at e
  split at e
  case h_34 c ho => exact ⟨c, ho⟩
  case h_33 c ho =>
    exfalso
    split at e
    · exact no rfl (builtin_val e)
    · split at e
      · split at e <;> cases e
      · cases e
    · cases e
  all_goals
    exfalso
    first
      | (cases e; done)
      | exact no rfl (isVal_map e)
      | (obtain ⟨_, _, hh⟩ := map_skip e; cases hh)
      | ((repeat' split at e) <;> first | (cases e; done) | exact no rfl (isVal_map e) | (obtain ⟨_, _, hh⟩ := map_skip e; cases hh))
      | (unfold abuildSlice at e; (repeat' split at e) <;> (cases e; done))
      | (unfold amakeSlice at e; (repeat' split at e) <;> (cases e; done))
      | (unfold amapEntry at e; (repeat' split at e) <;> (cases e; done))
      | (unfold arange at e; (repeat' split at e) <;> (cases e; done))
      | (unfold anext at e; (repeat' split at e) <;> (cases e; done))

/-- what one operation leaves: its own temporary, the memory -/
theorem one_spec {o : Oper} {s s' : ASt} (h : OneRun P rec ops o s s') (hpl : plainOp o.op = true) :
    ∃ v, (∀ d, o.dst = some d → d < s.nt) ∧ s' = { tm := (match o.dst with | some d => s.tm.set d v | none => s.tm), h := s'.h, nt := s.nt, defers := s.defers } := by
  cases h with
  | not hw hp => obtain ⟨h1, rfl⟩ := put_spec.1 hp; exact ⟨_, h1, rfl⟩
  | val hw ha hp => obtain ⟨h1, rfl⟩ := put_spec.1 hp; exact ⟨_, h1, rfl⟩
  | skip hw ha hp => obtain ⟨h1, rfl⟩ := put_spec.1 hp; exact ⟨_, h1, rfl⟩
  | call hw ha hr hp => obtain ⟨h1, rfl⟩ := put_spec.1 hp; exact ⟨_, h1, rfl⟩
  | defer hw ha hp =>
    obtain ⟨c, hc⟩ := defer_form ha
    rw [hc] at hpl; cases hpl

/-- the same operation from a state that agrees on what it looks at -/
theorem one_congr {i : Nat} {o : Oper} (hi : ops[i]? = some o) {s s' : ASt} {tm : T AVal} (ht : ∀ t ∈ looksAt ops i, tget tm t = tget s.tm t) (hpl : plainOp o.op = true) (h : OneRun P rec ops o s s')
    {D : List ADef} : ∃ v, (∀ d, o.dst = some d → d < s.nt ∧ tget s'.tm d = v) ∧
      OneRun P rec ops o { tm := tm, h := s.h, nt := s.nt, defers := D } { tm := (match o.dst with | some d => tm.set d v | none => tm), h := s'.h, nt := s.nt, defers := D } := by
  have hl : looksAt ops i = o.looksAt ops := by simp [looksAt, hi]
  rw [hl] at ht
  have hev : ∀ x ∈ o.op.operands, aeval tm x = aeval s.tm x := by
    intro x hx
    cases x with
    | tmp t =>
      refine ht t ?_
      unfold Oper.looksAt
      exact List.mem_append_left _ (List.mem_filterMap.2 ⟨.tmp t, by simpa using hx, rfl⟩)
    | _ => rfl
  have hop : ∀ h, aop P o (aeval tm) h = aop P o (aeval s.tm) h := fun h => aop_congr hev
  have hwt : wantedA ops o tm = wantedA ops o s.tm := by
    unfold wantedA
    cases hg : o.guard with
    | none => rfl
    | some jw =>
      obtain ⟨j, want⟩ := jw
      simp only
      cases hd : (ops[j]?).bind (·.dst) with
      | none => rfl
      | some t =>
        have : tget tm t = tget s.tm t := ht t (by unfold Oper.looksAt; rw [hg]; simp [hd])
        simp only [this]
  have hset : ∀ (v : AVal) (d : Tmp), o.dst = some d → tget (match o.dst with | some d => s.tm.set d v | none => s.tm) d = v := by
    intro v d hd
    rw [hd]; simp [tget_set]
  have lt : ∀ {s1 s2 : ASt} {v : AVal}, s1.put o.dst v = some s2 → ∀ d, o.dst = some d → d < s1.nt := fun hp => (put_spec.1 hp).1
  cases h with
  | not hw hp =>
    obtain ⟨h1, rfl⟩ := put_spec.1 hp
    exact ⟨.undef, fun d hd => ⟨h1 d hd, hset _ d hd⟩, .not (by rw [hwt]; exact hw) (put_spec.2 ⟨h1, rfl⟩)⟩
  | val hw ha hp =>
    obtain ⟨h1, rfl⟩ := put_spec.1 hp
    exact ⟨_, fun d hd => ⟨h1 d hd, hset _ d hd⟩, .val (by rw [hwt]; exact hw) (by rw [hop]; exact ha) (put_spec.2 ⟨h1, rfl⟩)⟩
  | skip hw ha hp =>
    obtain ⟨h1, rfl⟩ := put_spec.1 hp
    exact ⟨_, fun d hd => ⟨h1 d hd, hset _ d hd⟩, .skip (by rw [hwt]; exact hw) (by rw [hop]; exact ha) (put_spec.2 ⟨h1, rfl⟩)⟩
  | call hw ha hr hp =>
    obtain ⟨h1, rfl⟩ := put_spec.1 hp
    exact ⟨_, fun d hd => ⟨h1 d hd, hset _ d hd⟩, .call (by rw [hwt]; exact hw) (by rw [hop]; exact ha) hr (put_spec.2 ⟨h1, rfl⟩)⟩
  | defer hw ha hp =>
    obtain ⟨c, hc⟩ := defer_form ha
    rw [hc] at hpl; cases hpl

theorem allPlain {i : Nat} {o : Oper} (hpl : ops.all (fun o => plainOp o.op) = true) (hi : ops[i]? = some o) : plainOp o.op = true :=
  Array.all_eq_true_iff_forall_mem.1 hpl o (Array.mem_of_getElem? hi)

theorem run_none {i : Nat} (hi : ops[i]? = none) {s s' : ASt} : Run P rec ops [i] s s' ↔ s' = s := by
  unfold Run; simp [aops, hi, eq_comm]

theorem run_keep (hpl : ops.all (fun o => plainOp o.op) = true) {l : List Nat} {s s' : ASt} (h : Run P rec ops l s s') :
    s'.nt = s.nt ∧ s'.defers = s.defers ∧ ∀ t, (∀ i ∈ l, dstAt ops i ≠ some t) → tget s'.tm t = tget s.tm t := by
  induction l generalizing s with
  | nil => rw [run_nil] at h; subst h; exact ⟨rfl, rfl, fun _ _ => rfl⟩
  | cons i l ih =>
    obtain ⟨m, h1, h2⟩ := run_cons.1 h
    obtain ⟨a, b, c⟩ := ih h2
    cases hi : ops[i]? with
    | none =>
      rw [run_none hi] at h1; subst h1
      exact ⟨a, b, fun t ht => c t fun j hj => ht j (by simp [hj])⟩
    | some o =>
      obtain ⟨v, _, hm⟩ := one_spec ((run_one hi).1 h1) (allPlain hpl hi)
      have e1 : m.nt = s.nt := by rw [hm]
      have e2 : m.defers = s.defers := by rw [hm]
      refine ⟨a.trans e1, b.trans e2, fun t ht => (c t fun j hj => ht j (by simp [hj])).trans ?_⟩
      have hne := ht i (by simp)
      rw [hm]
      unfold dstAt at hne
      rw [hi] at hne
      simp only [Option.bind_some] at hne
      cases hd : o.dst with
      | none => rfl
      | some d =>
        simp only [tget_set]
        rw [if_neg]
        intro e; subst e; exact hne hd

end
end Go.Aev
