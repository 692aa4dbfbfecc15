/- The operations that touch no memory. -/
import Derived.Test.YtibahgbfggkchaaGreatDoorAevOps
namespace Go.Aev

section
variable {P : Program} {κ : Kap} {h : AHeap} {w : World}

theorem intsOf_rel {l : List AVal} {xs : List Int} (e : intsOf l = some xs) : l = xs.map (AVal.int .i64) := by
  induction l generalizing xs with
  | nil => simp [intsOf] at e; subst e; rfl
  | cons a l ih =>
    unfold intsOf at e
    split at e
    · rename_i h; cases h
    · rename_i n r h
      cases h
      cases hl : intsOf l with
      | none => rw [hl] at e; cases e
      | some ys => rw [hl] at e; cases e; simp [ih hl]
    · cases e

theorem ints_vals {xs : List Int} {vs : List Value} (hr : VRels κ (xs.map (AVal.int .i64)) vs) : vs = xs.map (Value.int .i64) := by
  induction xs generalizing vs with
  | nil => cases hr; rfl
  | cons x xs ih =>
    cases hr with
    | cons h t => cases h; simp [ih t]

theorem intArr_spec {t : TypeId} {n : Nat} (e : intArr P t = some n) : ∃ el, P.underlying t = some (.array n el) ∧ P.underlying el = some (.int .i64) ∧ szD P el = some 1 := by
  unfold intArr at e
  split at e
  · rename_i m el hu
    split at e
    · rename_i h1 h2; cases e; exact ⟨el, hu, h1, h2⟩
    · cases e
  · cases e

theorem run_equalIn_int (d : Nat) {t : TypeId} (a b : Int) (hu : P.underlying t = some (.int .i64)) : (Op.equalIn (d + 1) t (.int .i64 a) (.int .i64 b)).run P w = .ok (a == b) w := by
  simp [Op.equalIn, run_underlying hu]

theorem run_part_one {t : TypeId} {d : TypeDesc} (hu : P.underlying t = some d) (hd : (match d with | .struct _ | .array _ _ => true | _ => false) = false) (cs : Array Value) (i : Nat) (v : Value) (hv : cs[i]? = some v) :
    (part t cs i).run P w = .ok v w := by
  have : (isAgg t).run P w = .ok false w := by
    cases d <;> simp at hd <;> simp [isAgg, run_underlying hu]
  simp [part, this, hv]

/-- the loop over an array's elements, held one against the other -/
theorem run_eqLoop (d : Nat) (el : TypeId) (hu : P.underlying el = some (.int .i64)) (xs ys : List Int) (hlen : ys.length = xs.length) :
    ∀ (m i : Nat), i + m = xs.length →
      (forIn (m := Sem) (List.range' i m 1) ((none, ()) : Option Bool × Unit) fun j _ => do
        let __do_lift ← part el (xs.map (Value.int .i64)).toArray (j * 1)
        let __do_lift_1 ← part el (ys.map (Value.int .i64)).toArray (j * 1)
        let r ← Op.equalIn (d + 1) el __do_lift __do_lift_1
        if (!r) = true then pure (ForInStep.done ((some false, ()) : Option Bool × Unit)) else pure (ForInStep.yield (none, ()))).run P w =
      .ok (if (xs.drop i == ys.drop i) then (none, ()) else (some false, ())) w := by
  intro m
  induction m with
  | zero =>
    intro i hi
    have h1 : xs.drop i = [] := List.drop_eq_nil_of_le (by omega)
    have h2 : ys.drop i = [] := List.drop_eq_nil_of_le (by omega)
    simp [h1, h2]
  | succ m ih =>
    intro i hi
    have hx : i < xs.length := by omega
    have hy : i < ys.length := by omega
    have e1 : (part el (xs.map (Value.int .i64)).toArray (i * 1)).run P w = .ok (.int .i64 xs[i]) w := run_part_one hu rfl _ _ _ (by simp [hx])
    have e2 : (part el (ys.map (Value.int .i64)).toArray (i * 1)).run P w = .ok (.int .i64 ys[i]) w := run_part_one hu rfl _ _ _ (by simp [hy])
    have hb : (xs.drop i == ys.drop i) = ((xs[i] == ys[i]) && (xs.drop (i + 1) == ys.drop (i + 1))) := by
      rw [List.drop_eq_getElem_cons hx, List.drop_eq_getElem_cons hy]; rfl
    rw [List.range'_succ, List.forIn_cons, hb]
    simp only [Sem.run_bind, e1, e2, Result.andThen_ok, run_equalIn_int d _ _ hu]
    by_cases he : xs[i] = ys[i]
    · have h2 := ih (i + 1) (by omega)
      have h3 : (xs[i] == ys[i]) = true := by simpa using he
      rw [h3, Bool.true_and]
      exact h2
    · have h3 : (xs[i] == ys[i]) = false := by simpa using he
      rw [h3, Bool.false_and]
      rfl

theorem run_equalIn_ints (d : Nat) {t el : TypeId} {n : Nat} (hu : P.underlying t = some (.array n el)) (hel : P.underlying el = some (.int .i64)) (hsz : szD P el = some 1)
    (xs ys : List Int) (hx : xs.length = n) (hy : ys.length = n) :
    (Op.equalIn (d + 2) t (.agg (xs.map (Value.int .i64)).toArray) (.agg (ys.map (Value.int .i64)).toArray)).run P w = .ok (xs == ys) w := by
  have hl := run_eqLoop (P := P) (w := w) d el hel xs ys (by omega) n 0 (by omega)
  simp only [List.drop_zero] at hl
  unfold Op.equalIn
  simp only [Sem.run_bind, run_underlying hu, Result.andThen_ok, run_sz hsz, Std.Legacy.Range.forIn_eq_forIn_range', Std.Legacy.Range.size, Nat.sub_zero, Nat.add_one_sub_one, Nat.div_one]
  rw [hl]
  by_cases he : xs = ys
  · simp [he]
  · simp [he]

theorem sameAddr_same (a b : Addr) (hb : a.block = b.block) : (sameAddr a b).run P w = .ok (a == b) w := by
  simp [sameAddr, hb]

theorem equal_sim {t : TypeId} {x y : AVal} {b : Bool} {x' y' : Value} (hx : VRel κ x x') (hy : VRel κ y y') (e : aeql P t x y = some b) :
    (Op.equal t x' y').run P w = .ok b w := by
  unfold Op.equal Op.maxDepth
  unfold aeql at e
  split at e
  case h_5 el b1 o1 b2 o2 hu =>
    split at e
    · rename_i hc
      obtain ⟨rfl, h0, h1⟩ := hc
      cases e
      cases hx with
      | ptr hk =>
      cases hy with
      | ptr hk2 =>
      rw [hk] at hk2
      cases hk2
      cases hz : szD P el with
      | none => exact absurd hz h1
      | some z =>
        have hz0 : z ≠ 0 := by intro h; subst h; exact h0 hz
        rename_i k
        have hs : (sameAddr ⟨k.r, k.o + o1, none⟩ ⟨k.r, k.o + o2, none⟩).run P w = .ok (o1 == o2) w := by
          rw [sameAddr_same (P := P) (w := w) (⟨k.r, k.o + o1, none⟩ : Addr) (⟨k.r, k.o + o2, none⟩ : Addr) rfl]
          congr 1
          by_cases ho : o1 = o2
          · subst ho; simp
          · have h1 : (o1 == o2) = false := by simpa using ho
            rw [h1]
            have : ¬ ((⟨k.r, k.o + o1, none⟩ : Addr) = ⟨k.r, k.o + o2, none⟩) := by
              intro h; injection h with _ h2; omega
            simpa using this
        unfold Op.equalIn
        simp only [Sem.run_bind, run_underlying hu, Result.andThen_ok, run_sz hz]
        rw [if_pos hz0]
        exact hs
    · cases e
  all_goals first
    | (cases e; done)
    | (cases e; cases hx <;> cases hy <;> (unfold Op.equalIn; simp only [Sem.run_bind, run_underlying (by assumption), Result.andThen_ok]; rfl))
    | skip
  case h_17 hu =>
    split at e
    · rename_i n u v hn hu1 hv1
      split at e
      · rename_i hc
        cases e
        obtain ⟨el, ht, hel, hsz⟩ := intArr_spec hn
        have e1 := intsOf_rel hu1
        have e2 := intsOf_rel hv1
        cases hx with
        | agg hx =>
        cases hy with
        | agg hy =>
        rw [e1] at hx
        rw [e2] at hy
        have f1 := ints_vals hx
        have f2 := ints_vals hy
        have := run_equalIn_ints (P := P) (w := w) 9998 ht hel hsz u v hc.1 hc.2.1
        rw [← f1, ← f2] at this
        simpa using this
      · cases e
    · cases e

theorem eqGuard_sim {op : BinOp} {t : TypeId} {ox oy : Operand} {x' y' : Value} (h1 : x' ≠ .nilIface ∨ y' ≠ .nilIface) (h2 : (∀ a, x' ≠ .agg a) ∨ (∀ a, y' ≠ .agg a) ∨ P.eqGuardType P.depth t = false) :
    (eqGuard op t ox oy x' y').run P w = .ok () w := by
  by_cases hop : op = .eql ∨ op = .neq
  · have : (match op with | .eql | .neq => true | _ => false) = true := by rcases hop with rfl | rfl <;> rfl
    unfold eqGuard
    rcases hop with rfl | rfl
    all_goals
      simp only [Bool.not_true, Bool.false_eq_true, if_false]
      cases x' <;> cases y' <;> try rfl
      case nilIface.nilIface => exact absurd rfl (h1.resolve_left (fun h => h rfl))
      case agg.agg a b =>
        rcases h2 with h | h | h
        · exact absurd rfl (h a)
        · exact absurd rfl (h b)
        · simp [run_program, h]
  · cases op <;> first | (exact absurd (.inl rfl) hop) | (exact absurd (.inr rfl) hop) | rfl

/-- what is compared by '==' of its type -/
theorem eql_forms {t : TypeId} {x y : AVal} {b : Bool} {x' y' : Value} (hx : VRel κ x x') (hy : VRel κ y y') (e : aeql P t x y = some b) :
    binOp .eql t x' y' = (do pure (.bool (← Op.equal t x' y'))) ∧ binOp .neq t x' y' = (do pure (.bool (!(← Op.equal t x' y')))) ∧
    (∀ op ox oy, (eqGuard op t ox oy x' y').run P w = .ok () w) := by
  unfold aeql at e
  split at e
  case h_17 hu =>
    have hg : P.eqGuardType P.depth t = false := by
      split at e
      · split at e
        · rename_i hc; exact hc.2.2
        · cases e
      · cases e
    cases hx; cases hy
    exact ⟨rfl, rfl, fun op ox oy => eqGuard_sim (.inl (by simp)) (.inr (.inr hg))⟩
  all_goals first
    | (cases e; done)
    | (cases hx <;> cases hy <;> exact ⟨rfl, rfl, fun op ox oy => by cases op <;> rfl⟩)

theorem guardless {op : BinOp} {t : TypeId} {ox oy : Operand} {x' y' : Value} (hg : (eqGuard op t ox oy x' y').run P w = .ok () w) {v : Value} (hb : (binOp op t x' y').run P w = .ok v w) :
    (do eqGuard op t ox oy x' y'; binOp op t x' y' : Sem Value).run P w = .ok v w := by
  simp only [Sem.run_bind, hg, Result.andThen_ok, hb]

theorem bin_sim {op : BinOp} {t : TypeId} {ox oy : Operand} {x y v : AVal} {x' y' : Value} (hx : VRel κ x x') (hy : VRel κ y y') (e : abin P op t ox oy x y = some v)
    (hcx : isConstO ox = true → ∃ c, ox = .const c) (hcy : isConstO oy = true → ∃ c, oy = .const c) :
    ∃ v', (do eqGuard op t ox oy x' y'; binOp op t x' y' : Sem Value).run P w = .ok v' w ∧ VRel κ v v' := by
  unfold abin at e
  split at e
  case h_1 k a yk b =>
    split at e
    · cases e
    · rename_i hb
      cases e; cases hx; cases hy
      refine ⟨_, guardless rfl ?_, .int _ _⟩
      have : ¬ b < 0 := hb
      simp [binOp, Op.shift, this]
  case h_2 k a yk b =>
    split at e
    · cases e
    · rename_i hb
      cases e; cases hx; cases hy
      refine ⟨_, guardless rfl ?_, .int _ _⟩
      have : ¬ b < 0 := hb
      simp [binOp, Op.shift, this]
  case h_3 k a k' b _ _ =>
    split at e
    · cases e
    · rename_i hk
      have hk' : k = k' := Decidable.not_not.1 hk
      subst hk'
      cases hx; cases hy
      cases op <;> simp only [aIntBits] at e <;> try (cases e; done)
      case quo =>
        split at e
        · cases e
        · rename_i hb; cases e
          exact ⟨_, guardless (by rfl) (by simp [binOp, Op.intDiv, hb]), .int _ _⟩
      case rem =>
        split at e
        · cases e
        · rename_i hb; cases e
          exact ⟨_, guardless (by rfl) (by simp [binOp, Op.intDiv, hb]), .int _ _⟩
      case add => cases e; exact ⟨_, guardless rfl (by rw [binOp_add]; rfl), .int _ _⟩
      case sub => cases e; exact ⟨_, guardless rfl (by rw [binOp_sub]; rfl), .int _ _⟩
      case mul => cases e; exact ⟨_, guardless rfl (by rw [binOp_mul]; rfl), .int _ _⟩
      case and => cases e; exact ⟨_, guardless rfl (by rw [binOp_and]; rfl), .int _ _⟩
      case or => cases e; exact ⟨_, guardless rfl (by rw [binOp_or]; rfl), .int _ _⟩
      case xor => cases e; exact ⟨_, guardless rfl (by rw [binOp_xor]; rfl), .int _ _⟩
      case andNot => cases e; exact ⟨_, guardless rfl (by rw [binOp_andNot]; rfl), .int _ _⟩
      case eql => cases e; exact ⟨_, guardless rfl (by rw [binOp_eql]; rfl), .bool _⟩
      case neq => cases e; exact ⟨_, guardless rfl (by rw [binOp_neq]; rfl), .bool _⟩
      case lss => cases e; exact ⟨_, guardless rfl (by rw [binOp_lss]; rfl), .bool _⟩
      case leq => cases e; exact ⟨_, guardless rfl (by rw [binOp_leq]; rfl), .bool _⟩
      case gtr => cases e; exact ⟨_, guardless rfl (by rw [binOp_gtr]; rfl), .bool _⟩
      case geq => cases e; exact ⟨_, guardless rfl (by rw [binOp_geq]; rfl), .bool _⟩
  case h_4 a b _ _ =>
    cases hx; cases hy
    cases op <;> simp only at e <;> try (cases e; done)
    case add =>
      split at e
      · cases e
      · rename_i hb; cases e
        exact ⟨_, guardless (by rfl) (by simp only [binOp, Op.stringOp]; rw [if_neg hb]; rfl), .str _⟩
    all_goals (cases e; exact ⟨_, guardless (by rfl) (by simp only [binOp, Op.stringOp]; rfl), .bool _⟩)
  case h_5 =>
    split at e
    · rename_i hc
      split at e
      · rename_i hu
        cases e; cases hx; cases hy
        refine ⟨.bool true, guardless ?_ ?_, .bool _⟩
        · rcases Bool.or_eq_true_iff.1 hc with h | h
          · obtain ⟨c, rfl⟩ := hcx h; rw [eqGuard_nil_constL]; rfl
          · obtain ⟨c, rfl⟩ := hcy h; rw [eqGuard_nil_constR]; rfl
        · simp only [binOp, Op.equal, Op.maxDepth]
          unfold Op.equalIn
          simp only [Sem.run_bind, run_underlying hu, Result.andThen_ok]
          rfl
      · cases e
    · cases e
  case h_6 =>
    split at e
    · rename_i hc
      split at e
      · rename_i hu
        cases e; cases hx; cases hy
        refine ⟨.bool false, guardless ?_ ?_, .bool _⟩
        · rcases Bool.or_eq_true_iff.1 hc with h | h
          · obtain ⟨c, rfl⟩ := hcx h; rw [eqGuard_nil_constL]; rfl
          · obtain ⟨c, rfl⟩ := hcy h; rw [eqGuard_nil_constR]; rfl
        · simp only [binOp, Op.equal, Op.maxDepth]
          unfold Op.equalIn
          simp only [Sem.run_bind, run_underlying hu, Result.andThen_ok]
          rfl
      · cases e
    · cases e
  case h_7 =>
    cases hq : aeql P t x y with
    | none => rw [hq] at e; cases e
    | some b =>
      rw [hq] at e; cases e
      obtain ⟨h1, _, h3⟩ := eql_forms (w := w) hx hy hq
      refine ⟨_, guardless (h3 _ _ _) ?_, .bool _⟩
      rw [h1]
      simp only [Sem.run_bind, equal_sim hx hy hq, Result.andThen_ok, Sem.run_pure]
  case h_8 =>
    cases hq : aeql P t x y with
    | none => rw [hq] at e; cases e
    | some b =>
      rw [hq] at e; cases e
      obtain ⟨_, h2, h3⟩ := eql_forms (w := w) hx hy hq
      refine ⟨_, guardless (h3 _ _ _) ?_, .bool _⟩
      rw [h2]
      simp only [Sem.run_bind, equal_sim hx hy hq, Result.andThen_ok, Sem.run_pure]
  case h_9 => cases e

theorem un_sim {op : UnOp} {x v : AVal} {x' : Value} (hx : VRel κ x x') (e : aunary op x = some v) : ∃ v', (Op.unary op x').run P w = .ok v' w ∧ VRel κ v v' := by
  unfold aunary at e
  split at e
  · cases e; cases hx; exact ⟨_, rfl, .int _ _⟩
  · cases e; cases hx; exact ⟨_, rfl, .bool _⟩
  · cases e

theorem convert_sim {src dst : TypeId} {x v : AVal} {x' : Value} (hx : VRel κ x x') (e : aconvert P src dst x = some v) : ∃ v', (convert src dst x').run P w = .ok v' w ∧ VRel κ v v' := by
  unfold aconvert at e
  split at e
  · rename_i h1 h2
    cases e; cases hx
    refine ⟨_, ?_, .int _ _⟩
    simp [convert, run_underlying h1, run_underlying h2, Conv.intToInt]
  · rename_i h1 h2
    cases e; cases hx
    refine ⟨_, ?_, .str _⟩
    unfold convert
    simp only [Sem.run_bind, run_underlying h1, run_underlying h2, Result.andThen_ok]
    rfl
  · cases e

/-! ### parts -/

theorem VRel.tupGet {l : List AVal} {t' : Value} (hr : VRel κ (.tup l) t') {i : Nat} {v : AVal} (e : l[i]? = some v) : ∃ v', (Instr.extract t' i).run P w = .ok v' w ∧ VRel κ v v' := by
  cases hr with
  | tup h =>
    obtain ⟨v', hv, hr⟩ := h.get e
    refine ⟨v', ?_, hr⟩
    simp only [Array.getElem?_toList] at hv
    simp [Instr.extract, hv]

theorem part_sim {g : Bool} {n : Nat} {t : TypeId} (hg : aggD P t = some g) (hn : szD P t = some n) {l : List AVal} {cs : Array Value} (hr : VRels κ l cs.toList) {off : Nat} {v : AVal}
    (e : apart g n l off = some v) : ∃ v', (part t cs off).run P w = .ok v' w ∧ VRel κ v v' := by
  unfold apart at e
  cases g with
  | true =>
    simp only [if_true] at e
    cases hs : spanOf l off n with
    | none => rw [hs] at e; cases e
    | some s =>
      rw [hs] at e; cases e
      obtain ⟨hle, rfl, hlen⟩ := span_len hs
      refine ⟨.agg (cs.extract off (off + n)), ?_, .agg ?_⟩
      · simp [part, run_agg hg, run_sz hn]
      · rw [Array.toList_extract, List.extract_eq_take_drop]
        rw [show off + n - off = n by omega]
        exact (hr.drop off).take n
  | false =>
    simp only [Bool.false_eq_true, if_false] at e
    obtain ⟨v', hv, hr'⟩ := hr.get e
    refine ⟨v', ?_, hr'⟩
    simp only [Array.getElem?_toList] at hv
    simp [part, run_agg hg, hv]

theorem field_sim {t : TypeId} {x v : AVal} {f : Nat} {x' : Value} (hx : VRel κ x x') (e : afield P t x f = some v) : ∃ v', (Instr.field t x' f).run P w = .ok v' w ∧ VRel κ v v' := by
  unfold afield at e
  split at e
  · rename_i fs l hu
    split at e
    · rename_i fd hf
      split at e
      · rename_i z g hz hg
        cases hx with
        | agg hr =>
        obtain ⟨v', hv, hr'⟩ := part_sim (P := P) (w := w) hg hz hr e
        refine ⟨v', ?_, hr'⟩
        simp [Instr.field, run_underlying hu, hf, asAgg, hv]
      · cases e
    · cases e
  · cases e

theorem fieldAt_sim {t : TypeId} {x v : AVal} {f : Nat} {x' : Value} (hx : VRel κ x x') (e : afieldAt P t x f = some v) : ∃ v', (Instr.fieldAt t x' f).run P w = .ok v' w ∧ VRel κ v v' := by
  unfold afieldAt at e
  split at e
  · rename_i fs b off hu
    split at e
    · rename_i fd hf
      split at e
      · cases e
      · rename_i z hz0 hz
        cases e
        cases hx with
        | ptr hk =>
        rename_i k
        refine ⟨_, ?_, .ptr hk⟩
        have hne : ¬ z = 0 := fun h => hz0 (by rw [h])
        simp only [Instr.fieldAt, Sem.run_bind, run_underlying hu, Result.andThen_ok, hf, Instr.sureAddr, Sem.run_pure, fieldPlace, run_sz hz]
        rw [if_neg hne]
        simp [add_lit, Nat.add_assoc]
      · cases e
    · cases e
  · cases e

theorem index_sim {t : TypeId} {x i v : AVal} {x' i' : Value} (hx : VRel κ x x') (hi : VRel κ i i') (e : aindex P t x i = some v) : ∃ v', (Instr.index t x' i').run P w = .ok v' w ∧ VRel κ v v' := by
  unfold aindex at e
  split at e
  · rename_i n el l kk k hu
    split at e
    · rename_i z g hz hg
      split at e
      · rename_i hb
        cases hx with
        | agg hr =>
        cases hi
        obtain ⟨v', hv, hr'⟩ := part_sim (P := P) (w := w) hg hz hr e
        refine ⟨v', ?_, hr'⟩
        simp only [Instr.index, asIntOf, Sem.run_bind, Sem.run_pure, Result.andThen_ok, run_underlying hu]
        rw [if_pos hb]
        simp [run_sz hz, hv]
      · cases e
    · cases e
  · rename_i s kk k hu
    split at e
    · rename_i hb
      cases hx; cases hi
      cases hs : s[k.toNat]? with
      | none => rw [hs] at e; cases e
      | some by_ =>
        rw [hs] at e; cases e
        refine ⟨.int .u8 by_.toNat, ?_, .int _ _⟩
        simp only [Instr.index, asIntOf, Sem.run_bind, Sem.run_pure, Result.andThen_ok, run_underlying hu]
        rw [if_pos hb, hs]
        rfl
    · cases e
  · cases e

theorem indexAt_sim {t : TypeId} {x i v : AVal} {x' i' : Value} (hx : VRel κ x x') (hi : VRel κ i i') (e : aindexAt P t x i = some v) : ∃ v', (Instr.indexAt t x' i').run P w = .ok v' w ∧ VRel κ v v' := by
  unfold aindexAt at e
  split at e
  · rename_i n el b off kk k hu
    split at e
    · rename_i z hz
      split at e
      · rename_i hb
        cases e
        cases hx with
        | ptr hk =>
        cases hi
        refine ⟨_, ?_, .ptr hk⟩
        simp only [Instr.indexAt, asIntOf, Sem.run_bind, Sem.run_pure, Result.andThen_ok, run_underlying hu, Instr.sureAddr]
        rw [if_pos hb]
        simp [run_sz hz, add_lit, Nat.add_assoc]
      · cases e
    · cases e
  · rename_i el b off len cap ex esz kk k hu
    split at e
    · rename_i z hz
      split at e
      · rename_i hb
        cases e
        obtain ⟨hb1, hb2, rfl⟩ := hb
        cases hi
        cases hx with
        | sl hk h1 h2 h3 h4 =>
          refine ⟨_, ?_, .ptr hk⟩
          simp only [Instr.indexAt, asIntOf, Sem.run_bind, Sem.run_pure, Result.andThen_ok, run_underlying hu]
          rw [if_pos ⟨hb1, hb2⟩]
          simp [run_sz hz, add_lit, Nat.add_assoc]
        | slz => omega
      · cases e
    · cases e
  · cases e

end
end Go.Aev
