/- Code and calls. -/
import Derived.Test.YtibahgbfggkchaaGreatDoorAevMain
namespace Go.Aev

section
variable {P : Program} {κ : Kap}

theorem ExRel.normal {κ : Kap} {ex : AExit} {e : Exit} (h : ExRel κ ex e) : ex = .normal ↔ e = .normal := by
  cases ex <;> cases e <;> simp_all [ExRel]

theorem wp_of_loop {n : Nat} {c : Code} {Q : Exit → Act → World → Prop} {a : Act} {w : World} (h : Code.rounds P c Q n a w) : (Code.loop c).wp P Q a w := wp_loop_rounds n h

/-! ### results -/

theorem res_sim {s : T AVal} {h : AHeap} {w : World} {tmps : Array Value} (hw : WRel κ h w) (htm : ∀ t, VRel κ (tget s t) (tmps.getD t undef)) {rv : ResultVar} {v : AVal} (e : ares P s h rv = some v) :
    ∃ v', ((match rv with | .tmp t => pure (tmps.getD t undef) | .cell a t => do loadVar t (← asAddr (tmps.getD a undef))) : Sem Value).run P w = .ok v' w ∧ VRel κ v v' := by
  cases rv with
  | tmp t => simp [ares] at e; subst e; exact ⟨_, rfl, htm t⟩
  | cell a t =>
    simp only [ares] at e
    split at e
    · rename_i g n b off hg hn hp
      have h1 := htm a
      rw [hp] at h1
      cases hq : tmps.getD a undef <;> rw [hq] at h1 <;> cases h1
      rename_i k hk
      obtain ⟨v', q1, q2⟩ := load_sim (P := P) hw hg hn hk e
      exact ⟨v', by simp only [hq, asAddr, Sem.run_bind, Sem.run_pure, Result.andThen_ok, q1], q2⟩
    · cases e

theorem optAll_some {l : List (Option AVal)} {vs : List AVal} (e : optAll l = some vs) : l = vs.map some := by
  induction l generalizing vs with
  | nil => simp [optAll] at e; subst e; rfl
  | cons x l ih =>
    cases x with
    | none => simp [optAll] at e
    | some x =>
      simp only [optAll] at e
      cases hl : optAll l with
      | none => rw [hl] at e; cases e
      | some us => rw [hl] at e; cases e; simp [ih hl]

theorem mapM_sim {s : T AVal} {h : AHeap} {w : World} {tmps : Array Value} (hw : WRel κ h w) (htm : ∀ t, VRel κ (tget s t) (tmps.getD t undef)) :
    ∀ (l : List ResultVar) (vs : List AVal), l.map (ares P s h) = vs.map some →
      ∃ vs', (l.mapM (fun rv => match rv with | .tmp t => pure (tmps.getD t undef) | .cell a t => do loadVar t (← asAddr (tmps.getD a undef))) : Sem (List Value)).run P w = .ok vs' w ∧ VRels κ vs vs' := by
  intro l
  induction l with
  | nil => intro vs e; cases vs with
    | nil => exact ⟨[], by simp, .nil⟩
    | cons _ _ => simp at e
  | cons rv l ih =>
    intro vs e
    cases vs with
    | nil => simp at e
    | cons v vs =>
      simp only [List.map_cons, List.cons.injEq] at e
      obtain ⟨v', q1, q2⟩ := res_sim (P := P) hw htm e.1
      obtain ⟨vs', q3, q4⟩ := ih vs e.2
      exact ⟨v' :: vs', by simp only [List.mapM_cons, Sem.run_bind, q1, q3, Result.andThen_ok, Sem.run_pure], .cons q2 q4⟩

theorem results_sim {fn : Func} {s : T AVal} {h : AHeap} {w : World} {tmps : Array Value} (hw : WRel κ h w) (htm : ∀ t, VRel κ (tget s t) (tmps.getD t undef)) {v : AVal} (e : aresults P fn s h = some v) :
    ∃ v', (results fn tmps).run P w = .ok v' w ∧ VRel κ v v' := by
  unfold aresults at e
  cases ho : optAll (fn.results.toList.map (ares P s h)) with
  | none => rw [ho] at e; cases e
  | some vs =>
    rw [ho] at e
    obtain ⟨vs', q1, q2⟩ := mapM_sim (P := P) hw htm _ _ (optAll_some ho)
    have hl := q2.length
    have hrun : (results fn tmps).run P w = .ok (if h : vs'.toArray.size = 1 then vs'.toArray[0] else .tuple vs'.toArray) w := by
      unfold results
      simp only [Sem.run_bind, Array.mapM_eq_mapM_toList, Sem.run_map, Sem.run_pure]
      erw [q1]
      rfl
    refine ⟨_, hrun, ?_⟩
    cases vs with
    | nil => cases q2; cases e; exact .tup .nil
    | cons x xs =>
      cases xs with
      | nil =>
        obtain ⟨u, rfl, hu⟩ := q2.inv1
        cases e
        simpa using hu
      | cons y ys =>
        cases e
        cases q2 with
        | cons h1 t1 =>
        cases t1 with
        | cons h2 t2 =>
        simp only [List.size_toArray, List.length_cons]
        rw [dif_neg (by omega)]
        exact .tup (.cons h1 (.cons h2 t2))

/-! ### arguments -/

theorem setArgs_get : ∀ (args : List AVal) (i : Nat) (t : T AVal) (j : Nat), tget (setArgs args i t) j = if i ≤ j ∧ j < i + args.length then args.getD (j - i) .undef else tget t j := by
  intro args
  induction args with
  | nil => intro i t j; simp [setArgs]; omega
  | cons v args ih =>
    intro i t j
    simp only [setArgs]
    rw [ih, tget_set]
    simp only [List.length_cons]
    by_cases h1 : i + 1 ≤ j ∧ j < i + 1 + args.length
    · rw [if_pos h1, if_pos (by omega)]
      rw [show j - i = (j - (i + 1)) + 1 by omega]
      simp
    · rw [if_neg h1]
      by_cases h2 : j = i
      · subst h2
        rw [if_pos rfl, if_pos (by omega)]
        simp
      · rw [if_neg h2, if_neg (by omega)]

theorem args_rel {args : List AVal} {args' : Array Value} (h : VRels κ args args'.toList) (n : Nat) (t : Nat) :
    VRel κ (tget (setArgs args 0 .nil) t) ((args' ++ Array.replicate (n - args'.size) undef).getD t undef) := by
  rw [setArgs_get]
  have hl := h.length
  simp only [Array.length_toList] at hl
  simp only [Nat.zero_le, true_and, Nat.zero_add, Nat.sub_zero]
  by_cases ht : t < args.length
  · rw [if_pos ht]
    obtain ⟨v, hv, hr⟩ := h.get (List.getElem?_eq_getElem ht)
    rw [Array.getElem?_toList] at hv
    have : args.getD t .undef = args[t] := by simp [List.getD, ht]
    rw [this, Array.getD_eq_getD_getElem?, Array.getElem?_append_left (by omega), hv]
    exact hr
  · rw [if_neg ht]
    have h1 : tget (T.nil : T AVal) t = .undef := rfl
    rw [h1, Array.getD_eq_getD_getElem?, Array.getElem?_append_right (by omega)]
    have : ((Array.replicate (n - args'.size) undef)[t - args'.size]?).getD undef = undef := by
      rw [Array.getElem?_replicate]; split <;> rfl
    rw [this]
    exact .tup .nil

theorem SRel.init {args : List AVal} {args' : Array Value} (h : VRels κ args args'.toList) {hp : AHeap} {w : World} (hw : WRel κ hp w) {n : Nat} (hn : args.length ≤ n) :
    SRel P κ { tm := setArgs args 0 .nil, h := hp, nt := n, defers := [] } { tmps := args' ++ Array.replicate (n - args'.size) undef, defers := [] } w := by
  refine ⟨fun t => args_rel h n t, ?_, hw, .nil⟩
  have hl := h.length
  simp at hl ⊢
  omega

/-! ### what is deferred -/

/-- the mode in which a frame leaves -/
def MRel (κ : Kap) : Option AVal → FrameMode → Prop
  | none, .returning => True
  | some v, .panicking chain => ∃ v', chain = [{ v := v', recovered := false }] ∧ VRel κ v v'
  | _, _ => False

theorem def_sim {ev : Ev} (hev : EvOk P ev) {d : ADef} {mode : Option AVal} {h h' : AHeap} (e : runDef P ev d mode h = some h') {u : FrameMode} {w : World} (hm : MRel κ mode u) (hw : WRel κ h w)
    {args' : Array Value} (ha : VRels κ d.args args'.toList) :
    CallsD P d.f args' u w fun e u' w' => (∃ v, e = .returned v) ∧ settle u' = .returning ∧ ∃ κ', WRel κ' h' w' ∧ Stp κ h w κ' h' w' := by
  unfold runDef at e
  cases hf : P.funcs[d.f]? with
  | none => rw [hf] at e; cases e
  | some fn =>
    rw [hf] at e
    simp only at e
    cases hb : fn.body with
    | none => rw [hb] at e; cases e
    | some c =>
      rw [hb] at e
      simp only [Option.bind_some] at e
      cases hr : recovers c with
      | none => rw [hr] at e; cases e
      | some q =>
        obtain ⟨dst, rest⟩ := q
        rw [hr] at e
        simp only at e
        split at e
        case isFalse => cases e
        rename_i hlen
        split at e
        case h_2 => cases e
        rename_i s hput
        -- the shape of the body
        have hshape : ∃ id ops o c0, c = .seq (.region id ops false) rest ∧ ops = #[o] ∧ o.op = .call c0 ∧ c0.callee = .builtin .recover ∧ o.guard = none ∧ o.dst = dst := by
          unfold recovers at hr
          split at hr
          · rename_i id ops rest'
            split at hr
            · rename_i o ho
              split at hr
              · rename_i hop hg
                cases hr
                refine ⟨id, ops, o, _, rfl, ?_, hop, rfl, hg, rfl⟩
                apply Array.ext'; simpa using ho
              · cases hr
            · cases hr
          · cases hr
        obtain ⟨id, ops, o, c0, rfl, rfl, hop, hcal, hg, hdst⟩ := hshape
        subst hdst
        have r0 := SRel.init (P := P) ha hw hlen
        -- what recover gives
        obtain ⟨v', hv', hrec⟩ : ∃ v', VRel κ (mode.getD .nilifc) v' ∧ ∀ (c₀ : Frame) (cs : List Frame), c₀.mode = u →
            ∃ u', settle u' = .returning ∧ (match recoverD (c₀ :: cs) with
              | some (v, cs') => v = v' ∧ cs' = { c₀ with mode := u' } :: cs
              | none => v' = .nilIface ∧ u' = u) := by
          cases mode with
          | none =>
            cases u <;> simp only [MRel] at hm
            refine ⟨.nilIface, .nilifc, fun c₀ cs hc => ⟨.returning, rfl, ?_⟩⟩
            simp [recoverD, hc]
          | some v =>
            cases u <;> simp only [MRel] at hm
            obtain ⟨v', rfl, hv⟩ := hm
            refine ⟨v', hv, fun c₀ cs hc => ⟨.panicking [{ v := v', recovered := true }], rfl, ?_⟩⟩
            simp [recoverD, hc]
        have r1 := r0.put hv' hput
        cases hrest : ev rest s with
        | none => rw [hrest] at e; cases e
        | some q =>
          obtain ⟨ex, s'⟩ := q
          rw [hrest] at e
          have hwp := hev _ _ _ _ hrest κ _ _ r1
          have hsh := (put_heap hput).1
          rw [hsh] at hwp
          refine callsD_of_wpS hf hb ?_
          intro c₀ cs hc
          obtain ⟨u', hu', hmatch⟩ := hrec c₀ cs hc
          refine wpS_seq ?_
          refine wpS_region ?_
          have hops : (#[o] : Array Oper)[0]? = some o := rfl
          have hrange : List.range (#[o] : Array Oper).size = [0] := rfl
          rw [hrange]
          have hwant : ∀ tm, Region.wanted o (yielded #[o] tm) = true := by intro tm; simp [Region.wanted, hg]
          have hexec : ∀ (ρ : Operand → Value) (w : World), (execOp ρ o).run P w = .ok .recover w := by
            intro ρ w
            simp [execOp, hop, resolve, hcal, invoke, builtin]
          have cont : ∀ cs', cs' = { c₀ with mode := u' } :: cs →
              Code.wpS P rest (bodyPostS P fn c₀ cs fun e u' w' => (∃ v, e = .returned v) ∧ settle u' = .returning ∧ ∃ κ', WRel κ' h' w' ∧ Stp κ h w κ' h' w')
                (Act.put { tmps := args' ++ Array.replicate (fn.ntmps - args'.size) undef, defers := [] } o.dst v') cs' w := by
            intro cs' hcs
            subst hcs
            refine wpS_of_wp (wp_mono hwp ?_)
            rintro e2 a2 w2 ⟨κ2, p1, p2, p3⟩
            have fin : ∀ (hd : s'.defers.isEmpty && (aresults P fn s'.tm s'.h).isSome) (hh : s'.h = h'), a2.defers = [] ∧ ∃ u'', ({ c₀ with mode := u' } :: cs : List Frame) = { c₀ with mode := u'' } :: cs ∧
                ∃ v, (results fn a2.tmps).run P w2 = .ok v w2 ∧ ((∃ v', Ending.returned v = .returned v') ∧ settle u'' = .returning ∧ ∃ κ', WRel κ' h' w2 ∧ Stp κ h w κ' h' w2) := by
              intro hd hh
              simp only [Bool.and_eq_true] at hd
              have hdf : a2.defers = [] := by
                have := p2.df
                cases hs : s'.defers with
                | nil => rw [hs] at this; generalize a2.defers = dd at this; cases this; rfl
                | cons x l => rw [hs] at hd; simp at hd
              obtain ⟨v2, hv2⟩ := Option.isSome_iff_exists.1 hd.2
              obtain ⟨v3, q1, _⟩ := results_sim (P := P) p2.w p2.tm hv2
              subst hh
              exact ⟨hdf, u', rfl, v3, q1, ⟨v3, rfl⟩, hu', κ2, p2.w, p3⟩
            cases ex with
            | normal =>
              simp only at e
              split at e
              · rename_i hd
                cases e
                cases e2 <;> simp only [ExRel] at p1
                exact fin hd rfl
              · cases e
            | ret =>
              simp only at e
              split at e
              · rename_i hd
                cases e
                cases e2 <;> simp only [ExRel] at p1
                exact fin hd rfl
              · cases e
            | exit i => cases e
            | panic v => cases e
          simp only [wpOpsS, hops, hwant, if_true, hexec]
          cases hrc : recoverD (c₀ :: cs) with
          | none =>
            rw [hrc] at hmatch
            simp only at hmatch ⊢
            obtain ⟨h1, h2⟩ := hmatch
            subst h1
            have hc0 : c₀ :: cs = { c₀ with mode := u' } :: cs := by rw [h2, ← hc]
            rw [hc0]
            exact cont _ rfl
          | some q =>
            obtain ⟨v2, cs2⟩ := q
            rw [hrc] at hmatch
            simp only at hmatch ⊢
            obtain ⟨h1, h2⟩ := hmatch
            subst h1
            exact cont _ h2

theorem leave_sim {ev : Ev} (hev : EvOk P ev) {fn : Func} {tm : T AVal} {tmps : Array Value} {R : Ending → World → Prop} {en : AEnd} {h' : AHeap} :
    ∀ (ds : List ADef) (mode : Option AVal) (h : AHeap), aleave P ev fn tm ds mode h = some (en, h') → ∀ (κ : Kap) (w : World) (u : FrameMode) (ds' : List Deferred),
      (∀ t, VRel κ (tget tm t) (tmps.getD t undef)) → MRel κ mode u → WRel κ h w → DRels P κ ds ds' →
      (∀ e w', (∃ κ', EndRel κ' en e ∧ WRel κ' h' w' ∧ Stp κ h w κ' h' w') → R e w') → Leaves P fn tmps R ds' u w := by
  intro ds
  induction ds with
  | nil =>
    intro mode h e κ w u ds' htm hm hw hd hR
    cases hd
    cases mode with
    | none =>
      cases u <;> simp only [MRel] at hm
      simp only [aleave] at e
      cases hr : aresults P fn tm h with
      | none => rw [hr] at e; cases e
      | some v =>
        rw [hr] at e; cases e
        obtain ⟨v', q1, q2⟩ := results_sim (P := P) hw htm hr
        exact ⟨v', q1, hR _ _ ⟨κ, q2, hw, .refl _ _ _⟩⟩
    | some v =>
      cases u <;> simp only [MRel] at hm
      simp only [aleave] at e
      cases e
      exact hR _ _ ⟨κ, hm, hw, .refl _ _ _⟩
  | cons d ds ih =>
    intro mode h e κ w u ds' htm hm hw hd hR
    cases hd with
    | cons hd1 hds =>
    rename_i d' ds'
    obtain ⟨cap, ht, hargs, hcal⟩ := hd1
    simp only [aleave] at e
    cases hr : runDef P ev d mode h with
    | none => rw [hr] at e; cases e
    | some h2 =>
      rw [hr] at e
      simp only at e
      obtain ⟨tgt, dargs⟩ := d'
      simp only at ht hargs
      subst ht
      have hu : u ≠ .run := by
        intro hu; subst hu; cases mode <;> exact hm
      refine leaves_cons (f := d.f) (args := dargs ++ cap) hu ?_ ?_
      · simp only [invoke]; exact run_callFunc hcal _
      · intro c cs hc
        obtain ⟨e2, u', w', fr, ⟨hret, hset, κ', p2, p3⟩, hcomes, hk, hgo⟩ := def_sim hev hr hm hw hargs c cs hc
        refine ⟨e2, u', w', fr, ?_, hcomes, hk, hgo⟩
        obtain ⟨v, rfl⟩ := hret
        simp only
        rw [hset]
        have hext := p3.ext hw
        exact ih none h2 e κ' w' .returning ds' (fun t => (htm t).mono hext) trivial p2 (hds.mono hext) (fun e w2 ⟨κ2, q1, q2, q3⟩ => hR e w2 ⟨κ2, q1, q2, p3.trans q3⟩)

theorem call_sim {ev : Ev} (hev : EvOk P ev) : RecOk P (acall P ev) := by
  intro f args h en h' e κ args' w hw ha _
  unfold acall at e
  cases hf : P.funcs[f]? with
  | none => rw [hf] at e; cases e
  | some fn =>
    rw [hf] at e
    simp only at e
    cases hb : fn.body with
    | none => rw [hb] at e; cases e
    | some c =>
      rw [hb] at e
      simp only at e
      split at e
      case isFalse => cases e
      rename_i hlen
      have r0 := SRel.init (P := P) ha hw hlen
      refine calls_of_wp_defers hf hb ?_
      cases hc : ev c { tm := setArgs args 0 .nil, h := h, nt := fn.ntmps, defers := [] } with
      | none => rw [hc] at e; cases e
      | some q =>
        obtain ⟨ex, s⟩ := q
        rw [hc] at e
        refine wp_mono (hev _ _ _ _ hc κ _ _ r0) ?_
        rintro e2 a2 w2 ⟨κ2, p1, p2, p3⟩
        have fin : ∀ (mode : Option AVal) (u : FrameMode), aleave P ev fn s.tm s.defers mode s.h = some (en, h') → MRel κ2 mode u →
            Leaves P fn a2.tmps (fun e w' => ∃ κ', EndRel κ' en e ∧ WRel κ' h' w' ∧ Stp κ h w κ' h' w') a2.defers u w2 := by
          intro mode u he hm
          exact leave_sim hev s.defers mode s.h he κ2 w2 u a2.defers p2.tm hm p2.w p2.df (fun e w' ⟨κ', q1, q2, q3⟩ => ⟨κ', q1, q2, p3.trans q3⟩)
        cases ex with
        | normal => cases e2 <;> simp only [ExRel] at p1; exact fin none .returning e trivial
        | ret => cases e2 <;> simp only [ExRel] at p1; exact fin none .returning e trivial
        | panic v => cases e2 <;> simp only [ExRel] at p1; exact fin (some v) _ e p1
        | exit i => cases e

/-! ### code -/

theorem code_sim : ∀ (n : Nat), EvOk P (aev P n) := by
  intro n
  induction n using Nat.strongRecOn with
  | _ n ihs =>
  cases n with
  | zero => intro c s ex s' e; simp [aev] at e
  | succ n =>
    have ih := ihs n (Nat.lt_succ_self n)
    have hrec := call_sim ih
    intro c s ex s' e κ a w r
    unfold aev at e
    cases c with
    | skip => cases e; exact wp_skip ⟨κ, trivial, r, .refl _ _ _⟩
    | label l => cases e; exact wp_label ⟨κ, trivial, r, .refl _ _ _⟩
    | ret => cases e; exact wp_ret ⟨κ, trivial, r, .refl _ _ _⟩
    | exit id => cases e; exact wp_exit ⟨κ, rfl, r, .refl _ _ _⟩
    | goto l => cases e
    | refuse why => cases e
    | rangeFunc f ps x y => cases e
    | scope b =>
      simp only at e
      refine wp_scope_straight (wp_mono (ih _ _ _ _ e κ a w r) ?_)
      rintro e2 a2 w2 ⟨κ2, p1, p2, p3⟩
      cases e2 <;> first | exact ⟨κ2, p1, p2, p3⟩ | (cases ex <;> exact p1)
    | cond c x y =>
      simp only at e
      have h1 := r.eval c
      split at e
      · rename_i hc
        rw [hc] at h1
        cases hq : a.eval c <;> rw [hq] at h1 <;> cases h1
        exact wp_cond_true hq (ih _ _ _ _ e κ a w r)
      · rename_i hc
        rw [hc] at h1
        cases hq : a.eval c <;> rw [hq] at h1 <;> cases h1
        exact wp_cond_false hq (ih _ _ _ _ e κ a w r)
      · cases e
    | seq x y =>
      simp only at e
      refine wp_seq ?_
      cases hx : aev P n x s with
      | none => rw [hx] at e; cases e
      | some q =>
        obtain ⟨ex1, s1⟩ := q
        rw [hx] at e
        refine wp_mono (ih _ _ _ _ hx κ a w r) ?_
        rintro e2 a2 w2 ⟨κ2, p1, p2, p3⟩
        cases ex1 with
        | normal =>
          simp only at e
          cases e2 <;> simp only [ExRel] at p1
          exact wp_mono (ih _ _ _ _ e κ2 a2 w2 p2) (fun _ _ _ h => Post.trans p3 h)
        | exit i => cases e; cases e2 <;> simp only [ExRel] at p1; exact ⟨κ2, p1, p2, p3⟩
        | ret => cases e; cases e2 <;> simp only [ExRel] at p1; exact ⟨κ2, trivial, p2, p3⟩
        | panic v => cases e; cases e2 <;> simp only [ExRel] at p1; exact ⟨κ2, p1, p2, p3⟩
    | block id b =>
      simp only at e
      refine wp_block ?_
      cases hx : aev P n b s with
      | none => rw [hx] at e; cases e
      | some q =>
        obtain ⟨ex1, s1⟩ := q
        rw [hx] at e
        refine wp_mono (ih _ _ _ _ hx κ a w r) ?_
        rintro e2 a2 w2 ⟨κ2, p1, p2, p3⟩
        cases ex1 with
        | normal => cases e; cases e2 <;> simp only [ExRel] at p1; exact ⟨κ2, trivial, p2, p3⟩
        | exit i =>
          cases e2 <;> simp only [ExRel] at p1
          subst p1
          simp only at e
          simp only [Exit.inBlock]
          split at e
          · rename_i hi; cases e; rw [if_pos hi]; exact ⟨κ2, trivial, p2, p3⟩
          · rename_i hi; cases e; rw [if_neg hi]; exact ⟨κ2, rfl, p2, p3⟩
        | ret => cases e; cases e2 <;> simp only [ExRel] at p1; exact ⟨κ2, trivial, p2, p3⟩
        | panic v => cases e; cases e2 <;> simp only [ExRel] at p1; exact ⟨κ2, p1, p2, p3⟩
    | loop b =>
      simp only at e
      have key : ∀ (m : Nat), m ≤ n → ∀ (s : ASt) (ex : AExit) (s' : ASt) (κ : Kap) (a : Act) (w : World), (match aev P m b s with
          | some (.normal, s') => aev P m (.loop b) s'
          | r => r) = some (ex, s') → SRel P κ s a w → ∀ (Q : Exit → Act → World → Prop), (∀ e a' w', Post P κ s.h w ex s' e a' w' → Q e a' w') → Code.rounds P b Q (m + 1) a w := by
        intro m
        induction m with
        | zero => intro _ s ex s' κ a w e; simp [aev] at e
        | succ m ihm =>
          intro hm s ex s' κ a w e r Q hQ
          rw [rounds_succ]
          cases hx : aev P (m + 1) b s with
          | none => rw [hx] at e; cases e
          | some q =>
            obtain ⟨ex1, s1⟩ := q
            rw [hx] at e
            refine wp_mono (ihs (m + 1) (by omega) _ _ _ _ hx κ a w r) ?_
            rintro e2 a2 w2 ⟨κ2, p1, p2, p3⟩
            cases ex1 with
            | normal =>
              simp only at e
              cases e2 <;> simp only [ExRel] at p1
              simp only [Exit.then]
              unfold aev at e
              simp only at e
              exact ihm (by omega) s1 ex s' κ2 a2 w2 e p2 Q (fun e a' w' h => hQ e a' w' (Post.trans p3 h))
            | exit i => cases e; cases e2 <;> simp only [ExRel] at p1; exact hQ _ _ _ ⟨κ2, p1, p2, p3⟩
            | ret => cases e; cases e2 <;> simp only [ExRel] at p1; exact hQ _ _ _ ⟨κ2, trivial, p2, p3⟩
            | panic v => cases e; cases e2 <;> simp only [ExRel] at p1; exact hQ _ _ _ ⟨κ2, p1, p2, p3⟩
      exact wp_loop_rounds _ (key n (Nat.le_refl _) s ex s' κ a w e r _ (fun _ _ _ h => h))
    | region id ops draw =>
      simp only at e
      cases draw with
      | true => exact draw_sim hrec e r
      | false => exact region_sim hrec e r

end
end Go.Aev
