/- Maps. -/
import Derived.Test.YtibahgbfggkchaaGreatDoorAevRows
namespace Go.Aev

section
variable {P : Program} {κ : Kap} {h : AHeap} {w : World}

theorem keyInts {kt : TypeId} {a b : AVal} {r : Bool} {n : Nat} {el : TypeId} (hu : P.underlying kt = some (.array n el)) (e : keyEq P kt a b = some r) :
    ∃ u v : List Int, a = .agg (u.map (AVal.int .i64)) ∧ b = .agg (v.map (AVal.int .i64)) ∧ u.length = n ∧ v.length = n ∧ r = (u == v) ∧ P.underlying el = some (.int .i64) ∧ szD P el = some 1 := by
  unfold keyEq at e
  rw [hu] at e
  split at e <;> rename_i hq <;> try (cases hq; done)
  · split at e
    · rename_i m u v hm h1 h2
      split at e
      · rename_i hc
        cases e
        obtain ⟨el', h3, h4, h5⟩ := intArr_spec hm
        rw [hu] at h3
        cases h3
        exact ⟨u, v, by rw [intsOf_rel h1], by rw [intsOf_rel h2], hc.1, hc.2, rfl, h4, h5⟩
      · cases e
    · cases e
  · cases e

/-- two keys held against each other, where the model asks '==' -/
theorem keyEqual_sim {kt : TypeId} {a b : AVal} {r : Bool} {a' b' : Value} (ha : VRel κ a a') (hb : VRel κ b b') (e : keyEq P kt a b = some r) :
    (Op.equal kt a' b').run P w = .ok r w := by
  have e0 := e
  unfold keyEq at e
  split at e
  · rename_i hu
    split at e
    · rename_i hk; subst hk; cases e; cases ha; cases hb
      unfold Op.equal Op.maxDepth Op.equalIn
      simp [run_underlying hu]
    · cases e
  · rename_i hu
    cases e; cases ha; cases hb
    unfold Op.equal Op.maxDepth Op.equalIn
    simp [run_underlying hu]
  · rename_i hu
    cases e; cases ha; cases hb
    unfold Op.equal Op.maxDepth Op.equalIn
    simp [run_underlying hu]
  · rename_i hu
    obtain ⟨u, v, q1, q2, h1, h2, rfl, h3, h4⟩ := keyInts hu e0
    cases q1; cases q2
    cases ha with
    | agg ha =>
    cases hb with
    | agg hb =>
    have f1 := ints_vals ha
    have f2 := ints_vals hb
    have := run_equalIn_ints (P := P) (w := w) 9998 hu h3 h4 u v h1 h2
    rw [← f1, ← f2] at this
    simpa [Op.equal, Op.maxDepth] using this
  · cases e

theorem keyNow {kt : TypeId} {a b : AVal} {r : Bool} {a' b' : Value} {d : TypeDesc} (hu : P.underlying kt = some d) (hd : ∀ n el, d ≠ .array n el) (ha : VRel κ a a') (hb : VRel κ b b')
    (e : keyEq P kt a b = some r) : Instr.sameNow d a' b' = some r := by
  unfold keyEq at e
  rw [hu] at e
  split at e <;> rename_i hq
  · cases hq
    split at e
    · rename_i hk; subst hk; cases e; cases ha; cases hb; simp [Instr.sameNow]
    · cases e
  · cases hq; cases e; cases ha; cases hb; rfl
  · cases hq; cases e; cases ha; cases hb; rfl
  · cases hq; exact absurd rfl (hd _ _)
  · cases e

inductive FRel (κ : Kap) : Option (Nat × AVal) → Option (Nat × Value) → Prop
  | none : FRel κ none none
  | some {i : Nat} {a : AVal} {v : Value} (h : VRel κ a v) : FRel κ (some (i, a)) (some (i, v))

theorem find_asking {kt : TypeId} {k : AVal} {k' : Value} (hk : VRel κ k k') : ∀ {es : List AEnt} {es' : List MapEntry} {i : Nat} {res : Option (Nat × AVal)}, ERels κ es es' →
    findA P kt k es i = some res → ∃ res', (Instr.findAsking kt k' es' i).run P w = .ok res' w ∧ FRel κ res res' := by
  intro es
  induction es with
  | nil => intro es' i res hr e; cases hr; simp [findA] at e; subst e; exact ⟨none, rfl, .none⟩
  | cons x es ih =>
    intro es' i res hr e
    cases hr with
    | cons hx ht =>
    simp only [findA] at e
    cases hq : keyEq P kt k x.key with
    | none => rw [hq] at e; cases e
    | some b =>
      rw [hq] at e
      have hs := keyEqual_sim (P := P) (w := w) hk hx.1 hq
      cases b with
      | true =>
        cases e
        exact ⟨some (i, _), by simp only [Instr.findAsking, Sem.run_bind, hs, Result.andThen_ok]; rfl, .some hx.2.1⟩
      | false =>
        obtain ⟨res', h1, h2⟩ := ih ht e
        exact ⟨res', by simp only [Instr.findAsking, Sem.run_bind, hs, Result.andThen_ok]; exact h1, h2⟩

theorem find_now {kt : TypeId} {k : AVal} {k' : Value} {d : TypeDesc} (hu : P.underlying kt = some d) (hd : ∀ n el, d ≠ .array n el) (hk : VRel κ k k') :
    ∀ {es : List AEnt} {es' : List MapEntry} {i : Nat} {res : Option (Nat × AVal)}, ERels κ es es' →
    findA P kt k es i = some res → ∃ res', Instr.findNow d k' es' i = some res' ∧ FRel κ res res' := by
  intro es
  induction es with
  | nil => intro es' i res hr e; cases hr; simp [findA] at e; subst e; exact ⟨none, rfl, .none⟩
  | cons x es ih =>
    intro es' i res hr e
    cases hr with
    | cons hx ht =>
    simp only [findA] at e
    cases hq : keyEq P kt k x.key with
    | none => rw [hq] at e; cases e
    | some b =>
      rw [hq] at e
      have hs := keyNow hu hd hk hx.1 hq
      cases b with
      | true =>
        cases e
        exact ⟨some (i, _), by simp only [Instr.findNow, hs], .some hx.2.1⟩
      | false =>
        obtain ⟨res', h1, h2⟩ := ih ht e
        exact ⟨res', by simp only [Instr.findNow, hs]; exact h1, h2⟩

theorem find_key {kt : TypeId} {k : AVal} {k' : Value} {d : TypeDesc} (hu : P.underlying kt = some d) (hk : VRel κ k k') {es : List AEnt} {es' : List MapEntry} {res : Option (Nat × AVal)}
    (hr : ERels κ es es') (e : findA P kt k es 0 = some res) : ∃ res', (Instr.findKey kt k' es').run P w = .ok res' w ∧ FRel κ res res' := by
  by_cases hd : ∀ n el, d ≠ .array n el
  · obtain ⟨res', h1, h2⟩ := find_now hu hd hk hr e
    exact ⟨res', by simp [Instr.findKey, run_underlying hu, h1], h2⟩
  · have hd2 : ∃ n el, d = .array n el := by
      cases d <;> first | exact ⟨_, _, rfl⟩ | (exfalso; apply hd; intro n el hh; cases hh)
    obtain ⟨n, el, rfl⟩ := hd2
    obtain ⟨res', h1, h2⟩ := find_asking (P := P) (w := w) hk hr e
    cases hf : Instr.findNow (.array n el) k' es' 0 with
    | none => exact ⟨res', by simp [Instr.findKey, run_underlying hu, hf, h1], h2⟩
    | some q =>
      cases hr with
      | nil =>
        simp [Instr.findNow] at hf; subst hf
        simp [findA] at e; subst e
        exact ⟨none, by simp [Instr.findKey, run_underlying hu, Instr.findNow], .none⟩
      | cons hx ht => simp [Instr.findNow, Instr.sameNow] at hf

theorem run_checkLoop (empty : Bool) (d : Nat) (el : TypeId) (hu : P.underlying el = some (.int .i64)) (hsz : szD P el = some 1) (xs : List Int) :
    ∀ (m i : Nat), i + m = xs.length →
      (forIn (m := Sem) (List.range' i m 1) PUnit.unit fun j _ => do
        let __do_lift ← sizeOf el
        let __do_lift ← part el (xs.map (Value.int .i64)).toArray (j * __do_lift)
        Instr.checkKey empty (d + 1) el __do_lift
        pure (ForInStep.yield PUnit.unit)).run P w = .ok PUnit.unit w := by
  intro m
  induction m with
  | zero => intro i _; simp
  | succ m ih =>
    intro i hi
    have hx : i < xs.length := by omega
    have e1 : (part el (xs.map (Value.int .i64)).toArray (i * 1)).run P w = .ok (.int .i64 xs[i]) w := run_part_one hu rfl _ _ _ (by simp [hx])
    have e2 : (Instr.checkKey empty (d + 1) el (.int .i64 xs[i])).run P w = .ok () w := by
      unfold Instr.checkKey
      simp only [Sem.run_bind, run_underlying hu, Result.andThen_ok]
      rfl
    have h2 := ih (i + 1) (by omega)
    rw [List.range'_succ, List.forIn_cons]
    simp only [Sem.run_bind, run_sz hsz, e1, e2, Result.andThen_ok, Sem.run_pure] at h2 ⊢
    exact h2

theorem check_key {kt : TypeId} {k : AVal} {k' : Value} (hk : VRel κ k k') (e : keyOk P kt k = true) (empty : Bool) : (Instr.checkKey empty 10000 kt k').run P w = .ok () w := by
  unfold keyOk at e
  have e' : keyEq P kt k k = some true := by simpa using e
  have e0 := e'
  unfold keyEq at e'
  split at e'
  · cases hk; unfold Instr.checkKey; simp only [Sem.run_bind, run_underlying (by assumption), Result.andThen_ok]; rfl
  · cases hk; unfold Instr.checkKey; simp only [Sem.run_bind, run_underlying (by assumption), Result.andThen_ok]; rfl
  · cases hk; unfold Instr.checkKey; simp only [Sem.run_bind, run_underlying (by assumption), Result.andThen_ok]; rfl
  · rename_i hu _
    obtain ⟨u, v, q1, _, h1, _, _, h3, h4⟩ := keyInts hu e0
    cases q1
    cases hk with
    | agg ha =>
    have f1 := ints_vals ha
    rename_i arr
    have f2 : arr = (u.map (Value.int .i64)).toArray := by rw [← f1]
    subst f2
    unfold Instr.checkKey
    simp only [Sem.run_bind, run_underlying hu, Result.andThen_ok, Std.Legacy.Range.forIn_eq_forIn_range', Std.Legacy.Range.size, Nat.sub_zero, Nat.add_one_sub_one, Nat.div_one]
    have := run_checkLoop (P := P) (w := w) empty 9998 _ h3 h4 u u.length 0 (by omega)
    subst h1
    rw [this]
    rfl
  · cases e'

/-- the map behind an abstract one -/
theorem WRel.mapAt (r : WRel κ h w) {b : Nat} {es : List AEnt} {clock : Nat} {k : Blk} (hb : h.get b = some (.map es clock)) (hk : κ b = some k) :
    ∃ es' : Array MapEntry, w.heap[k.r]? = some (.map es' clock) ∧ ERels κ es es'.toList := by
  obtain ⟨o', ho, hr⟩ := r.obj b _ k hb hk rfl
  cases o' <;> simp only [ORel] at hr
  obtain ⟨h1, h2⟩ := hr
  subst h2
  exact ⟨_, ho, h1⟩

theorem run_getObj_map {r : Nat} {es : Array MapEntry} {clock : Nat} (hg : w.heap[r]? = some (.map es clock)) : (getObj r).run P w = .ok (.map es clock) w := by
  simp [getObj, Sem.run, hg]

def World.putObj (w : World) (r : Nat) (o : Obj) : World := { w with heap := w.heap.setIfInBounds r o }

theorem run_setObj_map {r : Nat} {es : Array MapEntry} {clock : Nat} (hg : w.heap[r]? = some (.map es clock)) (o : Obj) : (setObj r o).run P w = .ok () (World.putObj w r o) := by
  simp [setObj, Sem.run, hg, World.putObj]

theorem putObj_other (w : World) (r i : Nat) (o : Obj) (h : i ≠ r) : (World.putObj w r o).heap[i]? = w.heap[i]? := by
  simp only [World.putObj, Array.getElem?_setIfInBounds]
  rw [if_neg (by omega)]
theorem putObj_same (w : World) (r : Nat) (o : Obj) (h : r < w.heap.size) : (World.putObj w r o).heap[r]? = some o := by
  simp [World.putObj, h]

/-- the map turns on both sides -/
theorem map_upd (r : WRel κ h w) {b : Nat} {es es2 : List AEnt} {clock clock2 : Nat} {k : Blk} (hb : h.get b = some (.map es clock)) (hk : κ b = some k) {es2' : Array MapEntry} (hr : ERels κ es2 es2'.toList) :
    WRel κ (h.set b (.map es2 clock2)) (World.putObj w k.r (.map es2' clock2)) ∧ Stp κ h w κ (h.set b (.map es2 clock2)) (World.putObj w k.r (.map es2' clock2)) :=
  r.upd hb rfl hk (fun i hi => putObj_other w k.r i _ hi) (by simp [World.putObj]) rfl rfl rfl (putObj_same w k.r _ (r.inb b k hk)) ⟨hr, rfl⟩

theorem lookup_sim (r : WRel κ h w) {t : TypeId} {x i v : AVal} {x' i' : Value} {ok : Bool} (hx : VRel κ x x') (hi : VRel κ i i') (e : alookup P h t x i ok = some v) :
    ∃ v', (Instr.lookup t x' i' ok).run P w = .ok v' w ∧ VRel κ v v' := by
  unfold alookup at e
  split at e
  case h_2 => cases e
  rename_i kt et hu
  split at e
  · cases e
  rename_i hkey
  have hkey' : keyOk P kt i = true := by simpa using hkey
  have hck : ∀ em, (Instr.checkKey em 10000 kt i').run P w = .ok () w := fun em => check_key hi hkey' em
  have hkd : ∃ d, P.underlying kt = some d := by
    cases hq : P.underlying kt with
    | none => simp [keyOk, keyEq, hq] at hkey'
    | some d => exact ⟨d, rfl⟩
  obtain ⟨d, hkd⟩ := hkd
  have main : ∀ (es : List AEnt) (es' : Array MapEntry), ERels κ es es'.toList →
      (match findA P kt i es 0 with
      | some (some (_, v)) => some (if ok then AVal.tup [v, .bool true] else v)
      | some none => match zeroD P et with
        | some v => some (if ok then AVal.tup [v, .bool false] else v)
        | none => none
      | none => none) = some v →
      ∃ v', ((do
        let (v, ok') ← match ← Instr.findKey kt i' es'.toList with
          | some (_, v) => pure (v, true)
          | none => pure (← zeroValue et, false)
        pure (if ok then Value.tuple #[v, .bool ok'] else v) : Sem Value)).run P w = .ok v' w ∧ VRel κ v v' := by
    intro es es' hr e
    cases hf : findA P kt i es 0 with
    | none => rw [hf] at e; cases e
    | some res =>
      rw [hf] at e
      obtain ⟨res', h1, h2⟩ := find_key (P := P) (w := w) hkd hi hr hf
      cases h2 with
      | none =>
        simp only at e
        cases hz : zeroD P et with
        | none => rw [hz] at e; cases e
        | some z =>
          rw [hz] at e; cases e
          obtain ⟨_, zv, _, _, rfl, hrz⟩ := run_zero hz
          refine ⟨if ok then .tuple #[zv, .bool false] else zv, ?_, ?_⟩
          · simp only [Sem.run_bind, h1, Result.andThen_ok, hrz, Sem.run_pure]
          · cases ok with
            | true => exact .tup (.cons (.of zv) (.cons (.bool _) .nil))
            | false => exact .of zv
      | some hv =>
        cases e
        rename_i v'
        refine ⟨if ok then .tuple #[v', .bool true] else v', ?_, ?_⟩
        · simp only [Sem.run_bind, h1, Result.andThen_ok, Sem.run_pure]
        · cases ok with
          | true => exact .tup (.cons hv (.cons (.bool _) .nil))
          | false => exact hv
  cases x <;> simp only at e <;> try (cases e; done)
  case nilmap =>
    cases hx
    obtain ⟨v', h1, h2⟩ := main [] #[] .nil e
    refine ⟨v', ?_, h2⟩
    simp only [Instr.lookup, Sem.run_bind, run_underlying hu, Result.andThen_ok, Sem.run_pure, hck] at h1 ⊢
    exact h1
  case map b =>
    cases hx with
    | map hk =>
    split at e
    · cases e
    · rename_i es he
      split at he
      · rename_i es2 clock hb
        cases he
        obtain ⟨es', hg, hr⟩ := r.mapAt hb hk
        obtain ⟨v', h1, h2⟩ := main es es' hr e
        refine ⟨v', ?_, h2⟩
        simp only [Instr.lookup, Sem.run_bind, run_underlying hu, Result.andThen_ok, Sem.run_pure, hck, run_getObj_map hg] at h1 ⊢
        exact h1
      · cases he

theorem ERels.append {l m : List AEnt} {l' m' : List MapEntry} (a : ERels κ l l') (b : ERels κ m m') : ERels κ (l ++ m) (l' ++ m') := by
  induction a with
  | nil => exact b
  | cons x _ ih => exact .cons x ih

theorem ERels.get {l : List AEnt} {l' : List MapEntry} (hr : ERels κ l l') {i : Nat} {a : AEnt} (ha : l[i]? = some a) : ∃ v, l'[i]? = some v ∧ ERel κ a v := by
  induction hr generalizing i with
  | nil => simp at ha
  | cons x _ ih =>
    cases i with
    | zero => simp at ha; subst ha; exact ⟨_, by simp, x⟩
    | succ i => simp at ha; obtain ⟨v, hv, hr⟩ := ih ha; exact ⟨v, by simpa using hv, hr⟩

theorem ERels.set {l : List AEnt} {l' : List MapEntry} (hr : ERels κ l l') {i : Nat} {k v : AVal} {k' v' : Value} (hk : VRel κ k k') (hv : VRel κ v v') :
    ERels κ (setEnt l i k v) (l'.modify i fun e => { e with key := k', val := v' }) := by
  induction hr generalizing i with
  | nil => simp [setEnt]; exact .nil
  | cons x t ih =>
    cases i with
    | zero => simp [setEnt]; exact .cons ⟨hk, hv, x.2.2⟩ t
    | succ i => simp [setEnt]; exact .cons x ih

theorem ERels.setV {l : List AEnt} {l' : List MapEntry} (hr : ERels κ l l') {i : Nat} {v : AVal} {v' : Value} (hv : VRel κ v v') :
    ERels κ (setVal v l i) (l'.modify i fun e => { e with val := v' }) := by
  induction hr generalizing i with
  | nil => simp [setVal]; exact .nil
  | cons x t ih =>
    cases i with
    | zero => simp [setVal]; exact .cons ⟨x.1, hv, x.2.2⟩ t
    | succ i => simp [setVal]; exact .cons x ih

theorem ERels.erase {l : List AEnt} {l' : List MapEntry} (hr : ERels κ l l') {i : Nat} : ERels κ (l.eraseIdx i) (l'.eraseIdx i) := by
  induction hr generalizing i with
  | nil => simp; exact .nil
  | cons x t ih =>
    cases i with
    | zero => simpa using t
    | succ i => simp; exact .cons x ih

theorem findA_spec {kt : TypeId} {k : AVal} : ∀ {es : List AEnt} {i j : Nat} {v : AVal}, findA P kt k es i = some (some (j, v)) →
    ∃ e, i ≤ j ∧ es[j - i]? = some e ∧ keyEq P kt k e.key = some true ∧ e.val = v := by
  intro es
  induction es with
  | nil => intro i j v e; simp [findA] at e
  | cons x es ih =>
    intro i j v e
    simp only [findA] at e
    cases hq : keyEq P kt k x.key with
    | none => rw [hq] at e; cases e
    | some b =>
      rw [hq] at e
      cases b with
      | true => cases e; exact ⟨x, Nat.le_refl _, by simp, hq, rfl⟩
      | false =>
        obtain ⟨y, h1, h2, h3, h4⟩ := ih e
        refine ⟨y, by omega, ?_, h3, h4⟩
        rw [show j - i = (j - (i + 1)) + 1 by omega]
        simpa using h2

theorem sameBits_ints (d : Nat) (u : List Int) : Instr.sameBits (d + 2) (.agg (u.map (Value.int .i64)).toArray) (.agg (u.map (Value.int .i64)).toArray) = true := by
  unfold Instr.sameBits
  simp only [BEq.rfl, Bool.true_and, List.all_eq_true]
  intro p hp
  have hz : ∀ (l : List Value) (p : Value × Value), p ∈ l.zip l → p.1 = p.2 ∧ p.1 ∈ l := by
    intro l
    induction l with
    | nil => intro p hp; simp at hp
    | cons x l ih =>
      intro p hp
      simp at hp
      rcases hp with rfl | hp
      · exact ⟨rfl, by simp⟩
      · have := ih p hp; exact ⟨this.1, by simp [this.2]⟩
  obtain ⟨h1, h2⟩ := hz _ p hp
  simp at h2
  obtain ⟨n, _, h3⟩ := h2
  obtain ⟨a, b⟩ := p
  simp only at h1 h3 ⊢
  subst h1; subst h3
  simp [Instr.sameBits]

/-- the key that stays is the one that is handed in -/
theorem keyStays {kt : TypeId} {k k2 : AVal} {k' k2' : Value} (hk : VRel κ k k') (hk2 : VRel κ k2 k2') (e : keyEq P kt k k2 = some true) : (Instr.keyThatStays k2' k').run P w = .ok k' w := by
  have hb : Instr.sameBits 10000 k2' k' = true := by
    have e0 := e
    unfold keyEq at e
    split at e
    · split at e
      · rename_i hq; subst hq
        cases hk; cases hk2
        simp only [Option.some.injEq, beq_iff_eq] at e
        subst e
        simp [Instr.sameBits]
      · cases e
    · cases hk; cases hk2
      simp only [Option.some.injEq, beq_toListBytes, beq_iff_eq] at e
      simp [Instr.sameBits, beq_toListBytes, e]
    · cases hk; cases hk2
      simp only [Option.some.injEq, beq_iff_eq] at e
      subst e
      simp [Instr.sameBits]
    · rename_i hu
      obtain ⟨u, v, q1, q2, h1, h2, h3, _⟩ := keyInts hu e0
      cases q1; cases q2
      have huv : u = v := by simpa using h3.symm
      subst huv
      cases hk with
      | agg ha =>
      cases hk2 with
      | agg hb =>
      rename_i a1 a2
      have f1 : a1 = (u.map (Value.int .i64)).toArray := by rw [← ints_vals ha]
      have f2 : a2 = (u.map (Value.int .i64)).toArray := by rw [← ints_vals hb]
      rw [f1, f2]
      exact sameBits_ints 9998 u
    · cases e
  simp [Instr.keyThatStays, hb]

theorem mapType_desc {kt : TypeId} {k : AVal} (e : keyOk P kt k = true) : ∃ d, P.underlying kt = some d := by
  cases hq : P.underlying kt with
  | none => simp [keyOk, keyEq, hq] at e
  | some d => exact ⟨d, rfl⟩

theorem toList_modify' (a : Array MapEntry) (i : Nat) (f : MapEntry → MapEntry) : (a.modify i f).toList = a.toList.modify i f := by simp

theorem mapSet_sim (r : WRel κ h w) {t : TypeId} {m k v : AVal} {m' k' v' : Value} {h' : AHeap} (hm : VRel κ m m') (hk : VRel κ k k') (hv : VRel κ v v') (e : amapSet P h t m k v = some h') :
    ∃ w', (Instr.mapUpdate t m' k' v').run P w = .ok () w' ∧ WRel κ h' w' ∧ Stp κ h w κ h' w' := by
  unfold amapSet at e
  split at e
  case h_2 => cases e
  rename_i kt et b hu
  split at e
  · cases e
  rename_i hkey
  have hkey' : keyOk P kt k = true := by simpa using hkey
  obtain ⟨d, hkd⟩ := mapType_desc hkey'
  cases hm with
  | map hkb =>
  split at e
  case h_2 => cases e
  rename_i es clock hb
  obtain ⟨es', hg, hr⟩ := r.mapAt hb hkb
  cases hf : findA P kt k es 0 with
  | none => rw [hf] at e; cases e
  | some res =>
    rw [hf] at e
    obtain ⟨res', h1, h2⟩ := find_key (P := P) (w := w) hkd hk hr hf
    have hck := check_key (w := w) hk hkey' false
    cases h2 with
    | none =>
      cases e
      refine ⟨_, ?_, map_upd r hb hkb (es2' := es'.push { key := k', val := v', born := clock }) (by rw [Array.toList_push]; exact hr.append (.cons ⟨hk, hv, rfl⟩ .nil))⟩
      simp only [Instr.mapUpdate, Sem.run_bind, run_underlying hu, Result.andThen_ok, run_getObj_map hg, hck, h1]
      exact run_setObj_map hg _
    | some hvi =>
      rename_i i a u
      cases e
      obtain ⟨x, _, hx, hkx, _⟩ := findA_spec hf
      obtain ⟨y, hy, hxy⟩ := hr.get hx
      have hst := keyStays (w := w) hk hxy.1 hkx
      refine ⟨_, ?_, map_upd r hb hkb (es2' := es'.modify i fun e => { e with key := k', val := v' }) (by rw [toList_modify']; exact hr.set hk hv)⟩
      have hyi : (((es'[i]?).map (·.key)).getD k') = y.key := by
        rw [Nat.sub_zero, Array.getElem?_toList] at hy
        simp [hy]
      simp only [Instr.mapUpdate, Sem.run_bind, run_underlying hu, Result.andThen_ok, run_getObj_map hg, hck, h1, hyi, hst]
      exact run_setObj_map hg _

theorem mapEntry_sim (r : WRel κ h w) {t : TypeId} {m k : AVal} {m' k' : Value} {res : ARes} (hm : VRel κ m m') (hk : VRel κ k k') (e : amapEntry P h t m k = some res) :
    ∃ v h' v' w' κ', res = .val v h' ∧ (Instr.mapEntry t m' k').run P w = .ok v' w' ∧ VRel κ' v v' ∧ WRel κ' h' w' ∧ Stp κ h w κ' h' w' := by
  unfold amapEntry at e
  split at e
  case h_2 => cases e
  rename_i kt et b hu
  split at e
  · cases e
  rename_i hkey
  have hkey' : keyOk P kt k = true := by simpa using hkey
  obtain ⟨d, hkd⟩ := mapType_desc hkey'
  cases hm with
  | map hkb =>
  split at e
  case h_2 => cases e
  rename_i es clock hb
  obtain ⟨es', hg, hr⟩ := r.mapAt hb hkb
  cases hf : findA P kt k es 0 with
  | none => rw [hf] at e; cases e
  | some res =>
    rw [hf] at e
    obtain ⟨res', h1, h2⟩ := find_key (P := P) (w := w) hkd hk hr hf
    have hck := check_key (w := w) hk hkey' false
    cases h2 with
    | none =>
      simp only at e
      cases hz : zeroD P et with
      | none => rw [hz] at e; cases e
      | some z =>
        rw [hz] at e; cases e
        obtain ⟨_, zv, _, _, rfl, hrz⟩ := run_zero hz
        have hup := map_upd r hb hkb (clock2 := clock + 1) (es2 := es ++ [{ key := k, val := .of zv, born := clock }]) (es2' := es'.push { key := k', val := zv, born := clock }) (by rw [Array.toList_push]; exact hr.append (.cons ⟨hk, .of zv, rfl⟩ .nil))
        refine ⟨_, _, .tuple #[zv, goInt clock], _, κ, rfl, ?_, .tup (.cons (.of zv) (.cons (.int _ _) .nil)), hup⟩
        simp only [Instr.mapEntry, Sem.run_bind, run_underlying hu, Result.andThen_ok, run_getObj_map hg, hck, h1, hrz, run_setObj_map hg, Sem.run_pure]
    | some hvi =>
      rename_i i a u
      cases e
      obtain ⟨x, _, hx, hkx, hxv⟩ := findA_spec hf
      obtain ⟨y, hy, hxy⟩ := hr.get hx
      have hst := keyStays (w := w) hk hxy.1 hkx
      rw [Nat.sub_zero] at hx hy
      rw [Array.getElem?_toList] at hy
      have hyi : (((es'[i]?).map (·.key)).getD k') = y.key := by simp [hy]
      have hyb : ((es'[i]?).map (fun x => (x.born : Int))).getD 0 = ((((es[i]?).map (·.born)).getD 0 : Nat) : Int) := by simp [hy, hx, hxy.2.2]
      have hmod : ERels κ (setEnt es i k a) (es'.modify i fun e => { e with key := k' }).toList := by
        have h0 := hr.set (i := i) hk (hxv ▸ hxy.2.1)
        rw [toList_modify']
        have : (es'.toList.modify i fun e => { e with key := k', val := y.val }) = es'.toList.modify i fun e => { e with key := k' } := by
          apply List.ext_getElem?
          intro j
          simp only [List.getElem?_modify]
          by_cases hj : i = j
          · subst hj
            rw [Array.getElem?_toList, hy]; simp
          · simp [hj]
        rw [← this]; exact h0
      have hup := map_upd r hb hkb (clock2 := clock) hmod
      refine ⟨_, _, .tuple #[u, .int .i64 ((((es[i]?).map (·.born)).getD 0 : Nat) : Int)], _, κ, rfl, ?_, .tup (.cons hvi (.cons (.int _ _) .nil)), hup⟩
      simp only [Instr.mapEntry, Sem.run_bind, run_underlying hu, Result.andThen_ok, run_getObj_map hg, hck, h1, hyi, hst, run_setObj_map hg, Sem.run_pure, hyb, goInt]

theorem findIdx_born {es : List AEnt} {es' : List MapEntry} (hr : ERels κ es es') (n : Int) : es'.findIdx? (fun e => (e.born : Int) == n) = es.findIdx? (fun e => (e.born : Int) == n) := by
  induction hr with
  | nil => rfl
  | cons x _ ih => simp only [List.findIdx?_cons, x.2.2, ih]

theorem entryStore_sim (r : WRel κ h w) {t : TypeId} {m s v : AVal} {m' s' v' : Value} {h' : AHeap} (hm : VRel κ m m') (hs : VRel κ s s') (hv : VRel κ v v') (e : aentryStore h m s v = some h') :
    ∃ w', (Instr.entryStore t m' s' v').run P w = .ok () w' ∧ WRel κ h' w' ∧ Stp κ h w κ h' w' := by
  unfold aentryStore at e
  split at e
  case h_2 => cases e
  rename_i b kk n
  split at e
  case h_2 => cases e
  rename_i es clock hb
  cases hm with
  | map hkb =>
  cases hs
  obtain ⟨es', hg, hr⟩ := r.mapAt hb hkb
  cases hf : es.findIdx? (fun e => (e.born : Int) == n) with
  | none => rw [hf] at e; cases e
  | some i =>
    rw [hf] at e; cases e
    have hf' : es'.findIdx? (fun e => (e.born : Int) == n) = some i := by
      rw [← hf, ← findIdx_born hr n]
      obtain ⟨l⟩ := es'
      simp
    refine ⟨_, ?_, map_upd r hb hkb (es2' := es'.modify i fun e => { e with val := v' }) (by rw [toList_modify']; exact hr.setV hv)⟩
    simp only [Instr.entryStore, Sem.run_bind, run_getObj_map hg, Result.andThen_ok, Go.asInt, asIntOf, Sem.run_pure, hf']
    exact run_setObj_map hg _

theorem delete_sim (r : WRel κ h w) {ats : Array TypeId} {ty : TypeId} {m k : AVal} {m' k' : Value} {h' : AHeap} (hm : VRel κ m m') (hk : VRel κ k k') (e : adelete P h ats m k = some h') :
    ∃ w', (Builtin.delete_ ats ty #[m', k']).run P w = .ok (.tuple #[]) w' ∧ WRel κ h' w' ∧ Stp κ h w κ h' w' := by
  unfold adelete at e
  cases hat : ats[0]? with
  | none => rw [hat] at e; cases e
  | some dt =>
    rw [hat] at e
    simp only [Option.bind_some] at e
    split at e
    case h_2 => cases e
    rename_i kt et b hu
    split at e
    · cases e
    rename_i hkey
    have hkey' : keyOk P kt k = true := by simpa using hkey
    obtain ⟨d, hkd⟩ := mapType_desc hkey'
    cases hm with
    | map hkb =>
    split at e
    case h_2 => cases e
    rename_i es clock hb
    obtain ⟨es', hg, hr⟩ := r.mapAt hb hkb
    have hck := check_key (w := w) hk hkey' es'.isEmpty
    cases hf : findA P kt k es 0 with
    | none => rw [hf] at e; cases e
    | some res =>
      rw [hf] at e
      obtain ⟨res', h1, h2⟩ := find_key (P := P) (w := w) hkd hk hr hf
      cases h2 with
      | none =>
        cases e
        refine ⟨_, ?_, map_upd r hb hkb (es2' := es') hr⟩
        simp only [Builtin.delete_, hat, List.getElem?_toArray, List.getElem?_cons_zero, List.getElem?_cons_succ, Sem.run_bind, run_underlying hu, Result.andThen_ok, run_getObj_map hg, hck, h1, run_setObj_map hg, Sem.run_pure]
      | some hvi =>
        rename_i i a u
        cases e
        refine ⟨_, ?_, map_upd r hb hkb (es2' := es'.eraseIdxIfInBounds i) (by
          have : (es'.eraseIdxIfInBounds i).toList = es'.toList.eraseIdx i := by simp
          rw [this]; exact hr.erase)⟩
        simp only [Builtin.delete_, hat, List.getElem?_toArray, List.getElem?_cons_zero, List.getElem?_cons_succ, Sem.run_bind, run_underlying hu, Result.andThen_ok, run_getObj_map hg, hck, h1, run_setObj_map hg, Sem.run_pure]

end
end Go.Aev
