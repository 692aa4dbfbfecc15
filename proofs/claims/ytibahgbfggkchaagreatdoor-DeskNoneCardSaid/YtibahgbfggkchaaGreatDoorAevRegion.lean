/- States; operations one behind the other. -/
import Derived.Test.YtibahgbfggkchaaGreatDoorAevOp
namespace Go.Aev

section
variable (P : Program)

def DRel (κ : Kap) (d : ADef) (d' : Deferred) : Prop := ∃ cap, d'.target = .fn (.func d.f) cap ∧ VRels κ d.args (d'.args ++ cap).toList ∧ callable P d.f = true

inductive DRels (κ : Kap) : List ADef → List Deferred → Prop
  | nil : DRels κ [] []
  | cons {a : ADef} {v : Deferred} {l : List ADef} {l' : List Deferred} (h : DRel P κ a v) (t : DRels κ l l') : DRels κ (a :: l) (v :: l')

structure SRel (κ : Kap) (s : ASt) (a : Act) (w : World) : Prop where
  tm : ∀ t, VRel κ (tget s.tm t) (a.tmps.getD t undef)
  nt : a.tmps.size = s.nt
  w : WRel κ s.h w
  df : DRels P κ s.defers a.defers

def ExRel (κ : Kap) : AExit → Exit → Prop
  | .normal, .normal => True
  | .exit i, .exit j => i = j
  | .ret, .ret => True
  | .panic v, .panic chain => ∃ v', chain = [{ v := v', recovered := false }] ∧ VRel κ v v'
  | _, _ => False

def EndRel (κ : Kap) : AEnd → Ending → Prop
  | .ret v, .returned v' => VRel κ v v'
  | .panic v, .panicked chain => ∃ v', chain = [{ v := v', recovered := false }] ∧ VRel κ v v'
  | _, _ => False

def Post (κ : Kap) (h : AHeap) (w : World) (ex : AExit) (s' : ASt) (e : Exit) (a' : Act) (w' : World) : Prop :=
  ∃ κ', ExRel κ' ex e ∧ SRel P κ' s' a' w' ∧ Stp κ h w κ' s'.h w'

def RecOk (rec : Rec) : Prop :=
  ∀ f args h en h', rec f args h = some (en, h') → ∀ κ (args' : Array Value) w, WRel κ h w → VRels κ args args'.toList → callable P f = true →
    Calls P f args' w fun e w' => ∃ κ', EndRel κ' en e ∧ WRel κ' h' w' ∧ Stp κ h w κ' h' w'

def EvOk (ev : Ev) : Prop :=
  ∀ c s ex s', ev c s = some (ex, s') → ∀ κ a w, SRel P κ s a w → c.wp P (Post P κ s.h w ex s') a w
end

section
variable {P : Program} {κ : Kap}

theorem DRel.mono {κ' : Kap} (e : Ext κ κ') {d : ADef} {d' : Deferred} (h : DRel P κ d d') : DRel P κ' d d' :=
  let ⟨cap, h1, h2, h3⟩ := h; ⟨cap, h1, h2.mono e, h3⟩
theorem DRels.mono {κ' : Kap} (e : Ext κ κ') {l : List ADef} {l' : List Deferred} (h : DRels P κ l l') : DRels P κ' l l' := by
  induction h with
  | nil => exact .nil
  | cons h _ ih => exact .cons (h.mono e) ih

theorem SRel.eval {s : ASt} {a : Act} {w : World} (r : SRel P κ s a w) (x : Operand) : VRel κ (aeval s.tm x) (a.eval x) := by
  cases x with
  | tmp t => exact r.tm t
  | const v => exact .of v
  | global g => exact .other _ id
  | func f => exact .fn .nil .nil

theorem SRel.step {s : ASt} {a : Act} {w w' : World} {κ' : Kap} {h' : AHeap} (r : SRel P κ s a w) (hw : WRel κ' h' w') (hs : Stp κ s.h w κ' h' w') :
    SRel P κ' { s with h := h' } a w' :=
  ⟨fun t => (r.tm t).mono (hs.ext r.w), r.nt, hw, r.df.mono (hs.ext r.w)⟩

theorem tget_set (tm : T AVal) (d t : Nat) (v : AVal) : tget (tm.set d v) t = if t = d then v else tget tm t := by
  unfold tget
  rw [T.get_set]
  split <;> rfl

theorem SRel.put {s s' : ASt} {a : Act} {w : World} (r : SRel P κ s a w) {dst : Option Tmp} {v : AVal} {v' : Value} (hv : VRel κ v v') (e : s.put dst v = some s') : SRel P κ s' (a.put dst v') w := by
  cases dst with
  | none => simp [ASt.put] at e; subst e; exact r
  | some d =>
    simp only [ASt.put] at e
    split at e
    · rename_i hd
      cases e
      refine ⟨fun t => ?_, by simp [Act.put, r.nt], r.w, r.df⟩
      simp only [tget_set, Act.put]
      by_cases ht : t = d
      · subst ht
        rw [if_pos rfl]
        have : t < a.tmps.size := by rw [r.nt]; exact hd
        simpa [this] using hv
      · rw [if_neg ht]
        have h2 : ¬ d = t := fun e => ht e.symm
        have := r.tm t
        simp only [Array.getD_eq_getD_getElem?, Array.getElem?_setIfInBounds, h2, if_false] at this ⊢
        exact this
    · cases e

theorem put_heap {s s' : ASt} {dst : Option Tmp} {v : AVal} (e : s.put dst v = some s') : s'.h = s.h ∧ s'.defers = s.defers ∧ s'.nt = s.nt := by
  cases dst with
  | none => simp [ASt.put] at e; subst e; exact ⟨rfl, rfl, rfl⟩
  | some d =>
    simp only [ASt.put] at e
    split at e
    · cases e; exact ⟨rfl, rfl, rfl⟩
    · cases e

theorem SRel.wanted {s : ASt} {a : Act} {w : World} (r : SRel P κ s a w) {ops : Array Oper} {o : Oper} {b : Bool} (e : wantedA ops o s.tm = some b) :
    Region.wanted o (yielded ops a.tmps) = b := by
  unfold wantedA at e
  unfold Region.wanted
  split at e
  · rename_i hg; cases e; rw [hg]
  · rename_i j want hg
    rw [hg]
    simp only
    unfold yielded
    split at e
    · rename_i hd; cases e; rw [hd]; simp
    · rename_i t hd
      rw [hd]
      have h1 := r.tm t
      simp only [Option.bind_some]
      split at e
      · rename_i b' hb
        cases e
        rw [hb] at h1
        cases ht : a.tmps[t]? with
        | none => simp [Array.getD_eq_getD_getElem?, ht, undef] at h1; cases h1
        | some u =>
          simp [Array.getD_eq_getD_getElem?, ht] at h1
          cases h1
          cases b' <;> cases want <;> rfl
      · rename_i hb
        cases e
        rw [hb] at h1
        cases ht : a.tmps[t]? with
        | none => simp
        | some u =>
          simp [Array.getD_eq_getD_getElem?, ht] at h1
          cases h1
          simp
      · cases e

theorem Post.trans {h h1 : AHeap} {w w1 : World} {κ1 : Kap} {ex : AExit} {s' : ASt} {e : Exit} {a' : Act} {w' : World} (a : Stp κ h w κ1 h1 w1) (p : Post P κ1 h1 w1 ex s' e a' w') : Post P κ h w ex s' e a' w' :=
  let ⟨κ', h1, h2, h3⟩ := p; ⟨κ', h1, h2, a.trans h3⟩

/-- operations one behind the other -/
theorem aops_sim {rec : Rec} (hrec : RecOk P rec) {ops : Array Oper} : ∀ (l : List Nat) (s : ASt) (ex : AExit) (s' : ASt), aops P rec ops l s = some (ex, s') →
    ∀ (κ : Kap) (a : Act) (w : World), SRel P κ s a w → ∀ (Q : Exit → Act → World → Prop), (∀ e a' w', Post P κ s.h w ex s' e a' w' → Q e a' w') →
      ((ex = .normal → ∀ a' w', Post P κ s.h w ex s' .normal a' w' → Q .normal a' w') → wpOps P ops Q l a w) := by
  intro l
  induction l with
  | nil =>
    intro s ex s' e κ a w r Q hQ _
    simp [aops] at e
    obtain ⟨rfl, rfl⟩ := e
    exact hQ _ _ _ ⟨κ, trivial, r, .refl _ _ _⟩
  | cons i rest ih =>
    intro s ex s' e κ a w r Q hQ hN
    simp only [aops] at e
    simp only [wpOps]
    cases ho : ops[i]? with
    | none =>
      rw [ho] at e
      exact ih s ex s' e κ a w r Q hQ hN
    | some o =>
      rw [ho] at e
      simp only at e ⊢
      -- the rest, from a state that has come
      have next : ∀ (κ1 : Kap) (s1 s2 : ASt) (a1 : Act) (w1 : World) (v : AVal) (v' : Value), Stp κ s.h w κ1 s1.h w1 → SRel P κ1 s1 a1 w1 → VRel κ1 v v' → s1.put o.dst v = some s2 →
          aops P rec ops rest s2 = some (ex, s') → wpOps P ops Q rest (a1.put o.dst v') w1 := by
        intro κ1 s1 s2 a1 w1 v v' hst hr hv hput hrest
        have hr2 := hr.put hv hput
        have hh := (put_heap hput).1
        refine ih s2 ex s' hrest κ1 _ w1 hr2 Q (fun e a' w' hp => hQ e a' w' ?_) (fun hn a' w' hp => hN hn a' w' ?_)
        · rw [hh] at hp; exact Post.trans hst hp
        · rw [hh] at hp; exact Post.trans hst hp
      cases hw : wantedA ops o s.tm with
      | none => rw [hw] at e; cases e
      | some b =>
        rw [hw] at e
        have hwant := r.wanted hw
        rw [hwant]
        cases b with
        | false =>
          simp only [Bool.false_eq_true, if_false] at e ⊢
          split at e
          · rename_i s2 hput
            exact next κ s s2 a w .undef undef (.refl _ _ _) r (.tup .nil) hput e
          · cases e
        | true =>
          simp only [if_true] at e ⊢
          refine .inl ?_
          unfold Oper.wp
          cases hop : aop P o (aeval s.tm) s.h with
          | none => rw [hop] at e; cases e
          | some res =>
            rw [hop] at e
            have hok := aop_sim r.w (fun x => r.eval x) hop
            cases res with
            | val v h2 =>
              obtain ⟨v', w', κ', q1, q2, q3, q4⟩ := hok
              rw [q1]
              simp only [Oper.upon] at e ⊢
              split at e
              · rename_i s2 hput
                exact next κ' { s with h := h2 } s2 a w' v v' q4 (r.step q3 q4) q2 hput e
              · cases e
            | skip h2 =>
              obtain ⟨w', κ', q1, q3, q4⟩ := hok
              rw [q1]
              simp only [Oper.upon] at e ⊢
              split at e
              · rename_i s2 hput
                exact next κ' { s with h := h2 } s2 a w' .undef undef q4 (r.step q3 q4) (.tup .nil) hput e
              · cases e
            | call f args =>
              obtain ⟨args', q1, q2, q3⟩ := hok
              rw [q1]
              simp only [Oper.upon] at e ⊢
              cases hc : rec f args s.h with
              | none => rw [hc] at e; cases e
              | some en =>
                obtain ⟨en, h2⟩ := en
                rw [hc] at e
                refine (hrec f args s.h en h2 hc κ args' w r.w q2 q3).mono ?_
                rintro e2 w2 ⟨κ2, p1, p2, p3⟩
                cases en with
                | ret v =>
                  cases e2 <;> simp only [EndRel] at p1
                  rename_i v'
                  simp only at e ⊢
                  split at e
                  · rename_i s2 hput
                    exact next κ2 { s with h := h2 } s2 a w2 v v' p3 (r.step p2 p3) p1 hput e
                  · cases e
                | panic v =>
                  cases e2 <;> simp only [EndRel] at p1
                  simp only at e ⊢
                  cases e
                  obtain ⟨v', rfl, hv⟩ := p1
                  exact hQ _ _ _ ⟨κ2, ⟨v', rfl, hv⟩, r.step p2 p3, p3⟩
            | defer f args =>
              obtain ⟨d, first, cap, q1, q2, q3, q4, q5⟩ := hok
              rw [q1]
              simp only [Oper.upon] at e ⊢
              split at e
              · rename_i s2 hput
                refine next κ { s with defers := ⟨f, args⟩ :: s.defers } s2 { a with defers := d :: a.defers } w .undef undef (.refl _ _ _) ⟨r.tm, r.nt, r.w, .cons ⟨cap, q2, ?_, q5⟩ r.df⟩ (.tup .nil) hput e
                rw [q3]; exact q4
              · cases e
            | panic v =>
              obtain ⟨v', q1, q2⟩ := hok
              rw [q1]
              simp only [Oper.upon] at e ⊢
              cases e
              exact hQ _ _ _ ⟨κ, ⟨v', rfl, q2⟩, r, .refl _ _ _⟩

theorem region_sim {rec : Rec} (hrec : RecOk P rec) {ops : Array Oper} {id : Nat} {s s' : ASt} {ex : AExit} (e : aops P rec ops (List.range ops.size) s = some (ex, s')) {a : Act} {w : World} (r : SRel P κ s a w) :
    (Code.region id ops false).wp P (Post P κ s.h w ex s') a w :=
  wp_region (aops_sim hrec _ _ _ _ e κ a w r _ (fun _ _ _ h => h) (fun _ _ _ h => h))

end
end Go.Aev
