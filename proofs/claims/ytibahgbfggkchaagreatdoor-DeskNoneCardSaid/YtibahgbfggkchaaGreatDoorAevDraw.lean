/- Regions whose order is drawn: whatever order the model takes comes to what the plan comes to. -/
import Derived.Test.YtibahgbfggkchaaGreatDoorAevRegion
namespace Go.Aev

/-! ### an operation depends on its operands alone -/

section
variable {P : Program}

theorem aop_congr {o : Oper} {ev ev' : Operand → AVal} {h : AHeap} (he : ∀ x ∈ o.op.operands, ev x = ev' x) : aop P o ev h = aop P o ev' h := by
  obtain ⟨dst, op, type, pos, after, guard⟩ := o
  simp only at he
  have pairs : ∀ ps : Array (Nat × Operand), (∀ x ∈ (ps.toList.map (·.2)).toArray, ev x = ev' x) →
      (ps.toList.map fun (i, x) => (i, ev x)) = (ps.toList.map fun (i, x) => (i, ev' x)) := fun ps hp =>
    List.map_congr_left fun p hm => by
      obtain ⟨i, x⟩ := p
      simp only [hp x (by simpa using ⟨i, by simpa using hm⟩)]
  have lists : ∀ xs : Array Operand, (∀ x ∈ xs, ev x = ev' x) → xs.toList.map ev = xs.toList.map ev' := fun xs hp =>
    List.map_congr_left fun x hm => hp x (by simpa using hm)
  cases op <;> simp only [Op.operands] at he <;> simp only [aop]
  case build t ps => rw [pairs ps he]
  case buildSlice t n ps => rw [pairs ps he]
  case makeFunc f first cap =>
    cases f <;> simp only
    rw [lists first (fun x hx => he x (by simp [hx])), lists cap (fun x hx => he x (by simp [hx]))]
  case call c =>
    have ha : c.args.toList.map ev = c.args.toList.map ev' := lists _ (fun x hx => he x (by simp [Call.operands, hx]))
    rw [ha]
    cases hc : c.callee with
    | value f => have hf : ev f = ev' f := he f (by simp [Call.operands, hc]); simp only [hf]
    | invoke r m => rfl
    | builtin b => rfl
  case defer c =>
    have ha : c.args.toList.map ev = c.args.toList.map ev' := lists _ (fun x hx => he x (by simp [Call.operands, hx]))
    rw [ha]
    cases hc : c.callee with
    | value f => have hf : ev f = ev' f := he f (by simp [Call.operands, hc]); simp only [hf]
    | invoke r m => rfl
    | builtin b => rfl
  case slice t x lo hi mx =>
    have e1 : lo.map ev = lo.map ev' := by cases lo with | none => rfl | some y => simp only [Option.map_some]; rw [he y (by simp)]
    have e2 : hi.map ev = hi.map ev' := by cases hi with | none => rfl | some y => simp only [Option.map_some]; rw [he y (by simp)]
    have e3 : mx.map ev = mx.map ev' := by cases mx with | none => rfl | some y => simp only [Option.map_some]; rw [he y (by simp)]
    rw [he x (by simp), e1, e2, e3]
  case makeMap t r => cases r <;> rfl
  all_goals first
    | rfl
    | (simp at he; simp only [he])
    | (simp at he; obtain ⟨h1, h2⟩ := he; simp only [h1, h2])
    | (simp at he; obtain ⟨h1, h2, h3⟩ := he; simp only [h1, h2, h3])

/-- what does nothing -/
theorem pure_form {o : Oper} {ev : Operand → AVal} {h : AHeap} {res : ARes} (hk : kindOf o.op = 0) (e : aop P o ev h = some res) :
    ∃ v, res = .val v h ∧ ∀ h', aop P o ev h' = some (.val v h') := by
  obtain ⟨dst, op, type, pos, after, guard⟩ := o
  simp only at hk
  have viaMap : ∀ {x : Option AVal}, x.map (ARes.val · h) = some res → ∃ v, res = .val v h ∧ ∀ h' : AHeap, x.map (ARes.val · h') = some (.val v h') := by
    intro x hx
    obtain ⟨v, hv, rfl⟩ := map_val hx
    exact ⟨v, rfl, fun h' => by rw [hv]; rfl⟩
  cases op <;> simp only [kindOf] at hk <;> try (exact absurd hk (by decide))
  case move x => simp only [aop] at e ⊢; cases e; exact ⟨_, rfl, fun _ => rfl⟩
  case assign x => simp only [aop] at e ⊢; cases e; exact ⟨_, rfl, fun _ => rfl⟩
  case pick c a b =>
    simp only [aop] at e ⊢
    split at e
    · rename_i t ht; cases e; exact ⟨_, rfl, fun _ => rfl⟩
    · cases e
  case nilCheck x =>
    simp only [aop] at e ⊢
    split at e
    · cases e; exact ⟨_, rfl, fun _ => rfl⟩
    · cases e
  case makeInterface t x =>
    simp only [aop] at e ⊢
    split at e
    · cases e
    · rename_i hn; cases e; exact ⟨_, rfl, fun _ => by rw [if_neg hn]⟩
  case makeFunc f first cap =>
    cases f <;> simp only [aop] at e ⊢ <;> try (cases e; done)
    cases e; exact ⟨_, rfl, fun _ => rfl⟩
  case extract t i =>
    simp only [aop] at e ⊢
    split at e
    · exact viaMap e
    · cases e
  case call c =>
    obtain ⟨callee, args, ats⟩ := c
    cases callee <;> first | (exfalso; revert hk; simp; done) | skip
    rename_i b
    cases b <;> first | (exfalso; revert hk; simp; done) | skip
    all_goals
      simp only [aop] at e ⊢
      generalize args.toList.map ev = l at e ⊢
      simp only [abuiltin] at e ⊢
      first
        | exact viaMap e
        | (cases l with
          | nil => cases e
          | cons x l =>
            cases l with
            | nil => exact viaMap e
            | cons _ _ => cases e)
  all_goals (simp only [aop] at e ⊢; exact viaMap e)

theorem cellsAt_mono {h h' : AHeap} (hm : ∀ b x, h.get b = some x → h'.get b = some x) {b : Nat} {l : List AVal} (e : cellsAt h b = some l) : cellsAt h' b = some l := by
  unfold cellsAt at e ⊢
  split at e
  · rename_i l' rw' hb; cases e; rw [hm _ _ hb]
  · cases e

theorem read_form {o : Oper} {ev : Operand → AVal} {h : AHeap} {res : ARes} (hk : kindOf o.op = 1) (e : aop P o ev h = some res) :
    ∃ v, res = .val v h ∧ ∀ h', (∀ b x, h.get b = some x → h'.get b = some x) → aop P o ev h' = some (.val v h') := by
  obtain ⟨dst, op, type, pos, after, guard⟩ := o
  simp only at hk
  cases op <;> simp only [kindOf] at hk <;> try (exact absurd hk (by decide))
  case load t a =>
    simp only [aop] at e ⊢
    split at e
    · rename_i g n b off hg hn ha
      obtain ⟨v, hv, rfl⟩ := map_val e
      refine ⟨v, rfl, fun h' hm => ?_⟩
      have : aload h' g n b off = some v := by
        unfold aload at hv ⊢
        cases hc : cellsAt h b with
        | none => rw [hc] at hv; cases hv
        | some l => rw [hc] at hv; rw [cellsAt_mono hm hc]; exact hv
      rw [this]; rfl
    · cases e
  case lookup t x i ok =>
    simp only [aop] at e ⊢
    obtain ⟨v, hv, rfl⟩ := map_val e
    refine ⟨v, rfl, fun h' hm => ?_⟩
    have : alookup P h' t (ev x) (ev i) ok = some v := by
      unfold alookup at hv ⊢
      split at hv
      · rename_i kt et hu
        split at hv
        · cases hv
        · rename_i hkey
          rw [if_neg hkey]
          cases hx : ev x <;> rw [hx] at hv <;> simp only at hv ⊢ <;> try (cases hv; done)
          · exact hv
          · rename_i b
            cases hb : h.get b with
            | none => rw [hb] at hv; cases hv
            | some ob => rw [hb] at hv; rw [hm _ _ hb]; exact hv
      · cases hv
    rw [this]; rfl
  case call c =>
    obtain ⟨callee, args, ats⟩ := c
    cases callee <;> first | (exfalso; revert hk; simp; done) | skip
    rename_i b
    cases b <;> first | (exfalso; revert hk; simp; done) | skip
    simp only [aop] at e ⊢
    generalize args.toList.map ev = l at e ⊢
    simp only [abuiltin] at e ⊢
    cases l with
    | nil => cases e
    | cons x l =>
      cases l with
      | cons _ _ => cases e
      | nil =>
        simp only at e ⊢
        obtain ⟨v, hv, rfl⟩ := map_val e
        refine ⟨v, rfl, fun h' hm => ?_⟩
        have : alen P h' ats x = some v := by
          unfold alen at hv ⊢
          split at hv <;> simp_all
          rename_i b hu
          cases hb : h.get b with
          | none => rw [hb] at hv; cases hv
          | some ob => rw [hb] at hv; rw [hm _ _ hb]; exact hv
        rw [this]; rfl

/-! ### what makes a block -/

theorem row_made {κ : Kap} {w : World} {l : List AVal} {c : Array Value} {t : TypeId} (hr : VRels κ l c.toList) :
    ∀ (κ' : Kap) (id : Nat), Ext κ κ' → κ' id = some ⟨w.heap.size, 0, c.size⟩ → ORel κ' ⟨w.heap.size, 0, c.size⟩ (.cells l true) (.cells c t) := by
  intro κ' id he _
  have hl := hr.length
  refine ⟨rfl, by simp at hl ⊢; omega, ?_, fun _ => rfl⟩
  simp only [List.drop_zero]
  rw [← hl, List.take_length]
  exact hr.mono he

theorem made_form {o : Oper} {ev : Operand → AVal} {h : AHeap} {res : ARes} (hk : kindOf o.op = 2) (e : aop P o ev h = some res) :
    ∃ (obj : AObj) (addr : Nat → AVal), res = .val (addr h.next) (h.new obj) ∧ (∀ h', aop P o ev h' = some (.val (addr h'.next) (h'.new obj))) ∧ (∀ n, blockOf (addr n) = some n) ∧
      ∀ {κ : Kap} {ev' : Operand → Value} {w : World}, (∀ x, VRel κ (ev x) (ev' x)) →
        ∃ (o' : Obj) (v' : Value) (z : Nat), (execOp ev' o).run P w = .ok (.value v') (w.alloc o') ∧ ∀ (κ' : Kap) (id : Nat), Ext κ κ' → κ' id = some ⟨w.heap.size, 0, z⟩ → ORel κ' ⟨w.heap.size, 0, z⟩ obj o' ∧ VRel κ' (addr id) v' := by
  have lift : ∀ {s : Sem Value} {v' : Value} {w w' : World}, s.run P w = .ok v' w' → (do pure (Next.value (← s)) : Sem Next).run P w = .ok (.value v') w' := by
    intro s v' w w' hs
    simp only [Sem.run_bind, hs, Result.andThen_ok, Sem.run_pure]
  obtain ⟨dst, op, type, pos, after, guard⟩ := o
  simp only at hk
  cases op <;> simp only [kindOf] at hk <;> try (exact absurd hk (by decide))
  case call c =>
    exfalso
    obtain ⟨callee, args, ats⟩ := c
    cases callee <;> first | (revert hk; simp; done) | skip
    rename_i b
    cases b <;> (revert hk; simp)
  case alloc t =>
    simp only [aop] at e ⊢
    split at e
    · rename_i z hz
      cases e
      obtain ⟨i, zv, hi, hzv, rfl, hrz⟩ := run_zero hz
      refine ⟨.cells (AVal.of zv).cells true, fun n => .ptr n 0, rfl, fun h' => rfl, fun _ => rfl, ?_⟩
      intro κ ev' w _
      have hzr := cellsRel (VRel.of (κ := κ) zv) (plain_of zv)
      refine ⟨.cells zv.cells t, .pointer (some ⟨w.heap.size, 0, none⟩), zv.cells.size, ?_, fun κ' id he hid => ⟨row_made hzr κ' id he hid, VRel.ptr (off := 0) hid⟩⟩
      simp only [execOp]
      exact lift (by simp only [Instr.alloc, Sem.run_bind, hrz, Result.andThen_ok, newVar, newRow, run_newObj, World.alloc_eq, Sem.run_pure])
    · cases e
  case box t x =>
    simp only [aop] at e ⊢
    split at e
    case isFalse => cases e
    rename_i hp
    cases e
    refine ⟨.cells (ev x).cells true, fun n => .ptr n 0, rfl, fun h' => by rw [if_pos hp]; rfl, fun _ => rfl, ?_⟩
    intro κ ev' w hev
    have hzr := cellsRel (hev x) hp
    refine ⟨.cells (ev' x).cells t, .pointer (some ⟨w.heap.size, 0, none⟩), (ev' x).cells.size, ?_, fun κ' id he hid => ⟨row_made hzr κ' id he hid, VRel.ptr (off := 0) hid⟩⟩
    simp only [execOp]
    exact lift (by simp only [Instr.box, newVar, newRow, Sem.run_bind, run_newObj, World.alloc_eq, Result.andThen_ok, Sem.run_pure])
  case makeMap t r =>
    cases r <;> simp only [aop] at e ⊢ <;> try (cases e; done)
    cases e
    refine ⟨.map [] 0, fun n => .map n, rfl, fun h' => rfl, fun _ => rfl, ?_⟩
    intro κ ev' w _
    refine ⟨.map #[] 0, .map (some w.heap.size), 0, ?_, fun κ' id he hid => ⟨⟨.nil, rfl⟩, VRel.map hid⟩⟩
    simp only [execOp]
    exact lift (by simp only [Instr.makeMap, Option.map_none, Sem.run_bind, run_newObj, World.alloc_eq, Result.andThen_ok, Sem.run_pure])
  case buildSlice t n parts =>
    simp only [aop] at e ⊢
    unfold abuildSlice at e
    split at e
    case h_2 => cases e
    rename_i el hu
    split at e
    case h_2 => cases e
    rename_i z zero hz hzero
    split at e
    case isFalse => cases e
    rename_i hc
    cases hf : afill (fun i => some (i * z, z)) (rep n zero.cells) (parts.toList.map fun (i, x) => (i, ev x)) with
    | none => rw [hf] at e; cases e
    | some l =>
      rw [hf] at e; cases e
      refine ⟨.cells l true, fun b => .sl b 0 n n true z, rfl, fun h' => ?_, fun _ => rfl, ?_⟩
      · unfold abuildSlice
        rw [hu]; simp only [hz, hzero, if_pos hc, hf]
      · intro κ ev' w hev
        obtain ⟨i, zv, hi, hzv, rfl, hrz⟩ := run_zero hzero
        have hp := PRels.mapEv hev parts.toList
        obtain ⟨cs', q1, q2, q3⟩ := buildSlice_core (P := P) (κ := κ) (w := w) (parts' := parts.map fun (i, x) => (i, ev' x)) (by simpa using hp) hu hz hzero hc hf
        refine ⟨.cells cs' el, .slice (some ⟨w.heap.size, 0, none⟩) n n, cs'.size, ?_, fun κ' id he hid => ⟨row_made q2 κ' id he hid, ?_⟩⟩
        · simp only [execOp]; exact lift q1
        · have := VRel.sl (κ := κ') (b := id) (off := 0) (len := n) (cap := n) (ex := true) (esz := z) (cap' := n) hid (Nat.le_refl _) (Nat.le_refl _) (fun _ => rfl) (by simp [q3])
          simpa using this
  case makeSlice t lo co =>
    simp only [aop] at e ⊢
    have e0 := e
    unfold amakeSlice at e
    split at e
    case h_2 => cases e
    rename_i el kl l kc c hu hel hec
    split at e
    case h_2 => cases e
    rename_i z by_ zero hz hby hzero
    split at e
    case isFalse => cases e
    rename_i hc
    cases e
    refine ⟨.cells (rep c.toNat zero.cells) true, fun b => .sl b 0 l.toNat c.toNat true z, rfl, fun h' => ?_, fun _ => rfl, ?_⟩
    · unfold amakeSlice
      rw [hu, hel, hec]; simp only [hz, hby, hzero, if_pos hc]
    · intro κ ev' w hev
      have h1 := hev lo
      have h2 := hev co
      rw [hel] at h1
      rw [hec] at h2
      obtain ⟨c1, c2, c3, c4, c5⟩ := hc
      obtain ⟨i, zv, hi, hzv, rfl, hrz⟩ := run_zero hzero
      have hsz : i.size = z := by unfold szD at hz; rw [hi] at hz; simpa using hz
      have hbz : i.bytes = by_ := by unfold bytesD at hby; rw [hi] at hby; simpa using hby
      have hzr := cellsRel (VRel.of (κ := κ) zv) (plain_of zv)
      have hzs : zv.cells.size = z := by have := hzr.length; simp at this; omega
      have hrun := run_make (P := P) w t el i zv hu hi hzv kl kc l c c2 c3 (by rw [hbz]; omega) (by omega)
      have hrow := rep_rel hzr c.toNat (c.toNat * i.size) (by rw [hzs, hsz])
      have hmc : (madeCells zv.cells (c.toNat * i.size)).size = c.toNat * z := by rw [size_madeCells, hsz]
      refine ⟨.cells (madeCells zv.cells (c.toNat * i.size)) el, .slice (some ⟨w.heap.size, 0, none⟩) l.toNat c.toNat, (madeCells zv.cells (c.toNat * i.size)).size, ?_, fun κ' id he hid => ⟨row_made hrow κ' id he hid, ?_⟩⟩
      · simp only [execOp]
        cases q1 : ev' lo <;> rw [q1] at h1 <;> cases h1
        cases q2 : ev' co <;> rw [q2] at h2 <;> cases h2
        exact lift hrun
      · have := VRel.sl (κ := κ') (b := id) (off := 0) (len := l.toNat) (cap := c.toNat) (ex := true) (esz := z) (cap' := c.toNat) hid (by omega) (Nat.le_refl _) (fun _ => rfl) (by simp only [hmc]; omega)
        simpa using this

end
end Go.Aev
