/- Each operation of the model comes to what the abstract one comes to. -/
import Derived.Test.YtibahgbfggkchaaGreatDoorAevMaps
namespace Go.Aev

section
variable {P : Program} {κ : Kap} {h : AHeap} {w : World}

theorem run_getObj {r : Nat} {o : Obj} (hg : w.heap[r]? = some o) (ho : (match o with | .cells .. => false | _ => true) = true) : (getObj r).run P w = .ok o w := by
  cases o <;> first | (simp at ho; done) | simp [getObj, Sem.run, hg]

theorem run_setObj {r : Nat} {o : Obj} (hg : w.heap[r]? = some o) (ho : (match o with | .cells .. => false | _ => true) = true) (o2 : Obj) : (setObj r o2).run P w = .ok () (World.putObj w r o2) := by
  cases o <;> first | (simp at ho; done) | simp [setObj, Sem.run, hg, World.putObj]

theorem len_sim (r : WRel κ h w) {ats : Array TypeId} {ty : TypeId} {x v : AVal} {x' : Value} (hx : VRel κ x x') (e : alen P h ats x = some v) :
    ∃ v', (Builtin.len_ ats ty #[x']).run P w = .ok v' w ∧ VRel κ v v' := by
  unfold alen at e
  cases hat : ats[0]? with
  | none => rw [hat] at e; cases e
  | some t =>
    rw [hat] at e
    simp only [Option.bind_some] at e
    split at e
    · rename_i s hu
      cases e; cases hx
      exact ⟨.int .i64 s.size, by simp [Builtin.len_, hat, run_underlying hu, goInt], .int _ _⟩
    · rename_i n el hu
      cases e
      refine ⟨.int .i64 n, ?_, .int _ _⟩
      cases x' <;> simp [Builtin.len_, hat, run_underlying hu, goInt]
    · rename_i el hu
      cases e; cases hx
      exact ⟨.int .i64 0, by simp [Builtin.len_, hat, run_underlying hu, goInt], .int _ _⟩
    · rename_i el b off n c ex z hu
      cases e
      refine ⟨.int .i64 n, ?_, .int _ _⟩
      cases hx <;> simp [Builtin.len_, hat, run_underlying hu, goInt]
    · rename_i kt el hu
      cases e; cases hx
      exact ⟨.int .i64 0, by simp [Builtin.len_, hat, run_underlying hu, goInt], .int _ _⟩
    · rename_i kt el b hu
      split at e
      · rename_i es clock hb
        cases e
        cases hx with
        | map hk =>
        obtain ⟨es', hg, hr⟩ := r.mapAt hb hk
        refine ⟨.int .i64 es'.size, ?_, ?_⟩
        · simp [Builtin.len_, hat, run_underlying hu, run_getObj_map hg, goInt]
        · have := hr.length
          simp at this
          rw [this]; exact .int _ _
      · cases e
    · cases e

theorem cap_sim {ats : Array TypeId} {ty : TypeId} {x v : AVal} {x' : Value} (hx : VRel κ x x') (e : acap P ats x = some v) :
    ∃ v', (Builtin.cap_ ats ty #[x']).run P w = .ok v' w ∧ VRel κ v v' := by
  unfold acap at e
  cases hat : ats[0]? with
  | none => rw [hat] at e; cases e
  | some t =>
    rw [hat] at e
    simp only [Option.bind_some] at e
    split at e
    · rename_i hu
      cases e; cases hx
      exact ⟨.int .i64 0, by simp [Builtin.cap_, hat, run_underlying hu, goInt], .int _ _⟩
    · rename_i el b off n c z hu
      cases e
      refine ⟨.int .i64 c, ?_, .int _ _⟩
      cases hx with
      | sl hk h1 h2 h3 h4 => simp [Builtin.cap_, hat, run_underlying hu, goInt, h3 rfl]
      | slz => simp [Builtin.cap_, hat, run_underlying hu, goInt]
    · cases e

theorem mm_sim (mx : Bool) {k : IntKind} : ∀ {l : List AVal} {l' : List Value} {a : Int} {v : AVal}, VRels κ l l' → amm mx k a l = some v →
    ∃ v', (l'.foldlM (if mx then Builtin.max2 else Builtin.min2) (Value.int k a) : Sem Value).run P w = .ok v' w ∧ VRel κ v v' := by
  intro l
  induction l with
  | nil => intro l' a v hr e; cases hr; simp [amm] at e; subst e; exact ⟨_, rfl, .int _ _⟩
  | cons y l ih =>
    intro l' a v hr e
    cases hr with
    | cons hy ht =>
    cases y <;> simp only [amm] at e <;> try (cases e; done)
    rename_i k' b
    split at e
    · rename_i hk; subst hk
      cases hy
      obtain ⟨v', h1, h2⟩ := ih ht e
      refine ⟨v', ?_, h2⟩
      rw [List.foldlM_cons]
      simp only [Sem.run_bind]
      have hstep : ((if mx then Builtin.max2 else Builtin.min2) (Value.int k a) (Value.int k b)).run P w =
          .ok (Value.int k (if mx then (if a < b then b else a) else (if b < a then b else a))) w := by
        cases mx <;> simp [Builtin.max2, Builtin.min2]
      rw [hstep]
      exact h1
    · cases e

theorem minmax_sim (mx : Bool) {l : List AVal} {l' : List Value} {v : AVal} {ats : Array TypeId} {ty : TypeId} (hl : VRels κ l l') (e : aminmax mx l = some v) :
    ∃ v', (if mx then Builtin.max_ ats ty l'.toArray else Builtin.min_ ats ty l'.toArray).run P w = .ok v' w ∧ VRel κ v v' := by
  cases hl with
  | nil => cases e
  | cons hx ht =>
    rename_i x x' rest rest'
    cases x <;> simp only [aminmax] at e <;> try (cases e; done)
    cases hx
    obtain ⟨v', h1, h2⟩ := mm_sim mx ht e
    refine ⟨v', ?_, h2⟩
    cases mx
    · simpa [Builtin.min_] using h1
    · simpa [Builtin.max_] using h1

/-! ### ranging over a map -/

theorem ERels.filter {l : List AEnt} {l' : List MapEntry} (hr : ERels κ l l') (f : Nat → Bool) : ERels κ (l.filter fun e => f e.born) (l'.filter fun e => f e.born) := by
  induction hr with
  | nil => exact .nil
  | cons x _ ih =>
    simp only [List.filter_cons, x.2.2]
    split
    · exact .cons x ih
    · exact ih

theorem ERels.all {l : List AEnt} {l' : List MapEntry} (hr : ERels κ l l') (f : Nat → Bool) : l'.all (fun e => f e.born) = l.all (fun e => f e.born) := by
  induction hr with
  | nil => rfl
  | cons x _ ih => simp only [List.all_cons, x.2.2, ih]

theorem ERels.find {l : List AEnt} {l' : List MapEntry} (hr : ERels κ l l') (f : Nat → Bool) {a : AEnt} (e : l.find? (fun e => f e.born) = some a) :
    ∃ a', l'.find? (fun e => f e.born) = some a' ∧ ERel κ a a' := by
  induction hr with
  | nil => simp at e
  | cons x _ ih =>
    simp only [List.find?_cons, x.2.2] at e ⊢
    split at e
    · cases e; exact ⟨_, rfl, x⟩
    · exact ih e

theorem range_sim (r : WRel κ h w) {t : TypeId} {x : AVal} {x' : Value} {res : ARes} (hx : VRel κ x x') (e : arange P h t x = some res) :
    ∃ v h' v' w' κ', res = .val v h' ∧ (Instr.range t x').run P w = .ok v' w' ∧ VRel κ' v v' ∧ WRel κ' h' w' ∧ Stp κ h w κ' h' w' := by
  unfold arange at e
  split at e
  · rename_i kt et hu
    cases e; cases hx
    have hnew := r.new (.iter none 0 [] 0) (.mapIter none 0 #[] 0) 0 ⟨trivial, rfl, rfl, rfl, rfl⟩
    refine ⟨_, _, .pointer (some ⟨w.heap.size, 0, none⟩), _, _, rfl, ?_, ?_, hnew.1, hnew.2⟩
    · simp only [Instr.range, Sem.run_bind, run_underlying hu, Result.andThen_ok, Sem.run_pure, run_newObj, World.alloc_eq]
    · exact VRel.ptr (off := 0) (Kap.put_same _ _ _)
  · rename_i kt et m hu
    split at e
    · rename_i es clock hb
      cases e
      cases hx with
      | map hk =>
      rename_i k
      obtain ⟨es', hg, hr⟩ := r.mapAt hb hk
      have hnew := r.new (.iter (some m) clock [] clock) (.mapIter (some k.r) clock #[] clock) 0 ⟨⟨k, Kap.ext_put r _ _ _ hk, rfl⟩, rfl, rfl, rfl, rfl⟩
      refine ⟨_, _, .pointer (some ⟨w.heap.size, 0, none⟩), _, _, rfl, ?_, ?_, hnew.1, hnew.2⟩
      · simp only [Instr.range, Sem.run_bind, run_underlying hu, Result.andThen_ok, Sem.run_pure, run_getObj_map hg, run_newObj, World.alloc_eq]
      · exact VRel.ptr (off := 0) (Kap.put_same _ _ _)
    · cases e
  · cases e

theorem next_sim (r : WRel κ h w) {it : AVal} {it' : Value} {isS : Bool} {ty : TypeId} {res : ARes} (hi : VRel κ it it') (e : anext h it isS = some res) :
    ∃ v h' v' w' κ', res = .val v h' ∧ (Instr.next it' isS ty).run P w = .ok v' w' ∧ VRel κ' v v' ∧ WRel κ' h' w' ∧ Stp κ h w κ' h' w' := by
  unfold anext at e
  split at e
  case h_2 => cases e
  rename_i b
  cases hi with
  | ptr hk =>
  rename_i k
  split at e
  · rename_i since seen last hb
    cases e
    obtain ⟨o', ho, hr⟩ := r.obj b _ k hb hk rfl
    cases o' <;> simp only [ORel] at hr
    rename_i m' since' seen' last'
    obtain ⟨h1, h2, h3, h4, h5⟩ := hr
    cases m' with
    | some m' => exact h1.elim
    | none =>
      refine ⟨_, _, .tuple #[.bool false], w, κ, rfl, ?_, .tup (.cons (.bool _) .nil), r, .refl _ _ _⟩
      have hgo := run_getObj (P := P) ho rfl
      simp only [Instr.next, h5, Nat.add_zero, Sem.run_bind, hgo, Result.andThen_ok, Sem.run_pure]
  · rename_i m since seen last hb
    obtain ⟨o', ho, hr⟩ := r.obj b _ k hb hk rfl
    cases o' <;> simp only [ORel] at hr
    rename_i m' since' seen' last'
    obtain ⟨h1, h2, h3, h4, h5⟩ := hr
    subst h2; subst h4
    cases m' with
    | none => exact h1.elim
    | some m' =>
      obtain ⟨km, hkm, rfl⟩ := h1
      have hgo := run_getObj (P := P) ho rfl
      split at e
      case h_2 => cases e
      rename_i es clock hm
      obtain ⟨es', hg, hr⟩ := r.mapAt hm hkm
      split at e
      · cases e
      rename_i hchk
      have hl := hr.length
      have hchk' : ¬ ((!seen'.isEmpty && !es'.isEmpty && es'.all (fun e => decide (e.born ≥ last'))) = true) := by
        intro hc
        apply hchk
        have ha := hr.all (fun n => decide (n ≥ last'))
        have e1 : seen.isEmpty = seen'.isEmpty := by rw [← h3]; cases seen' with | mk l => cases l <;> rfl
        have e2 : es.isEmpty = es'.isEmpty := by
          cases es' with | mk l => cases l <;> cases es <;> simp at hl ⊢
        have e3 : es'.all (fun e => decide (e.born ≥ last')) = es.all (fun e => decide (last' ≤ e.born)) := by
          have h9 : es'.toList.all (fun e => decide (e.born ≥ last')) = es.all (fun e => decide (e.born ≥ last')) := ha
          rw [Array.all_toList] at h9
          exact h9
        rw [e1, e2, ← e3]
        exact hc
      have hf := hr.filter (fun n => !seen.contains n)
      have hleft : (es'.filter fun e => !seen'.contains e.born).toList = es'.toList.filter fun e => !seen.contains e.born := by
        rw [Array.toList_filter]
        congr 1
        funext e
        rw [← h3]
        simp
      split at e
      · rename_i hnil
        cases e
        rw [hnil] at hf
        have hz : (es'.filter fun e => !seen'.contains e.born) = #[] := by
          apply Array.ext'
          rw [hleft]
          cases hq : es'.toList.filter (fun e => !seen.contains e.born) with
          | nil => rfl
          | cons x l => rw [hq] at hf; cases hf
        refine ⟨_, _, .tuple #[.bool false], w, κ, rfl, ?_, .tup (.cons (.bool _) .nil), r, .refl _ _ _⟩
        simp only [Instr.next, h5, Nat.add_zero, Sem.run_bind, hgo, Result.andThen_ok, run_getObj_map hg, if_neg hchk', hz]
        simp [Question.forced]
      · rename_i en hone
        split at e
        · rename_i hborn
          cases e
          rw [hone] at hf
          have hz : ∃ en', (es'.filter fun e => !seen'.contains e.born) = #[en'] ∧ ERel κ en en' := by
            cases hq : es'.toList.filter (fun e => !seen.contains e.born) with
            | nil => rw [hq] at hf; cases hf
            | cons x l =>
              rw [hq] at hf
              cases hf with
              | cons hx ht =>
                cases ht
                refine ⟨x, ?_, hx⟩
                apply Array.ext'
                rw [hleft, hq]
          obtain ⟨en', hz, hen⟩ := hz
          have hb' : en'.born < since' := by rw [hen.2.2]; exact hborn
          have hb2 : ¬ en'.born ≥ since' := by omega
          have hup := r.upd (o2 := .iter (some m) since' (seen ++ [en.born]) clock) hb rfl hk (fun i hi => putObj_other w k.r i (.mapIter (some km.r) since' (seen'.push en'.born) clock) hi) (by simp [World.putObj]) rfl rfl rfl
            (putObj_same w k.r _ (r.inb b k hk)) ⟨⟨km, hkm, rfl⟩, rfl, by simp [h3, hen.2.2], rfl, h5⟩
          refine ⟨_, _, .tuple #[.bool true, en'.key, en'.val], _, κ, rfl, ?_, .tup (.cons (.bool _) (.cons hen.1 (.cons hen.2.1 .nil))), hup⟩
          simp only [Instr.next, h5, Nat.add_zero, Sem.run_bind, hgo, Result.andThen_ok, run_getObj_map hg, if_neg hchk', hz]
          simp [Question.forced, hb', hb2]
          rw [run_setObj ho rfl]
          rfl
        · cases e
      · cases e
  · cases e

theorem entry_sim (r : WRel κ h w) {it v : AVal} {it' : Value} (hi : VRel κ it it') (e : aentry h it = some v) : ∃ v', (Instr.entry it').run P w = .ok v' w ∧ VRel κ v v' := by
  unfold aentry at e
  split at e
  case h_2 => cases e
  rename_i b
  cases hi with
  | ptr hk =>
  rename_i k
  split at e
  case h_2 => cases e
  rename_i m since seen last hb
  obtain ⟨o', ho, hr⟩ := r.obj b _ k hb hk rfl
  cases o' <;> simp only [ORel] at hr
  rename_i m' since' seen' last'
  obtain ⟨h1, h2, h3, h4, h5⟩ := hr
  subst h2; subst h4
  cases m' with
  | none => exact h1.elim
  | some m' =>
    obtain ⟨km, hkm, rfl⟩ := h1
    have hgo := run_getObj (P := P) ho rfl
    split at e
    case h_2 => cases e
    rename_i stamp es clock hl hm
    obtain ⟨es', hg, hr⟩ := r.mapAt hm hkm
    split at e
    case isFalse => cases e
    rename_i hc
    cases hf : es.find? (fun e => e.born == stamp) with
    | none => rw [hf] at e; cases e
    | some en =>
      rw [hf] at e; cases e
      obtain ⟨en', hf', hen⟩ := hr.find (fun n => n == stamp) hf
      have hback : seen'.back? = some stamp := by
        rw [← hl, ← h3]; cases seen' with | mk l => simp [Array.back?, List.getLast?_eq_getElem?]
      have hfa : es'.find? (fun e => e.born == stamp) = some en' := by rw [← Array.find?_toList]; exact hf'
      refine ⟨.tuple #[en'.key, en'.val], ?_, .tup (.cons hen.1 (.cons hen.2.1 .nil))⟩
      simp only [Instr.entry, h5, Nat.add_zero, Sem.run_bind, hgo, Result.andThen_ok, hback, run_getObj_map hg]
      simp [hc, hfa]

theorem tassert_sim {x v : AVal} {x' : Value} {xt at_ : TypeId} {ok : Bool} (hx : VRel κ x x') (e : atassert P x at_ ok = some v) : ∃ v', (Instr.typeAssert x' xt at_ ok).run P w = .ok v' w ∧ VRel κ v v' := by
  unfold atassert at e
  split at e
  · cases e
  · rename_i d t y hni hu
    cases hx with
    | ifc hy =>
    rename_i y'
    split at e
    · rename_i ht
      subst ht
      cases e
      refine ⟨if ok then .tuple #[y', .bool true] else y', ?_, ?_⟩
      · unfold Instr.typeAssert
        simp only [Sem.run_bind, run_underlying hu, Result.andThen_ok]
        cases d <;> first | (exact (hni _ rfl).elim) | (simp)
      · cases ok with
        | true => exact .tup (.cons hy (.cons (.bool _) .nil))
        | false => exact hy
    · rename_i ht
      split at e
      · rename_i hok
        subst hok
        cases hz : zeroD P at_ with
        | none => rw [hz] at e; cases e
        | some z =>
          rw [hz] at e; cases e
          obtain ⟨_, zv, _, _, rfl, hrz⟩ := run_zero hz
          refine ⟨.tuple #[zv, .bool false], ?_, .tup (.cons (.of zv) (.cons (.bool _) .nil))⟩
          unfold Instr.typeAssert
          simp only [Sem.run_bind, run_underlying hu, Result.andThen_ok]
          cases d <;> first | (exact (hni _ rfl).elim) | (simp [ht, hrz])
      · cases e
  · rename_i d hni hu
    cases hx
    split at e
    · rename_i hok
      subst hok
      cases hz : zeroD P at_ with
      | none => rw [hz] at e; cases e
      | some z =>
        rw [hz] at e; cases e
        obtain ⟨_, zv, _, _, rfl, hrz⟩ := run_zero hz
        refine ⟨.tuple #[zv, .bool false], ?_, .tup (.cons (.of zv) (.cons (.bool _) .nil))⟩
        unfold Instr.typeAssert
        simp only [Sem.run_bind, run_underlying hu, Result.andThen_ok]
        cases d <;> first | (exact (hni _ rfl).elim) | (simp [hrz])
    · cases e
  · cases e

/-! ### the operation -/

/-- what an operation's run owes, by what the abstract one says -/
def OpOk (P : Program) (κ : Kap) (h : AHeap) (w : World) (o : Oper) (ev : Operand → Value) : ARes → Prop
  | .val v h2 => ∃ v' w' κ', (execOp ev o).run P w = .ok (.value v') w' ∧ VRel κ' v v' ∧ WRel κ' h2 w' ∧ Stp κ h w κ' h2 w'
  | .skip h2 => ∃ w' κ', (execOp ev o).run P w = .ok .skip w' ∧ WRel κ' h2 w' ∧ Stp κ h w κ' h2 w'
  | .call f args => ∃ args', (execOp ev o).run P w = .ok (.enter f args') w ∧ VRels κ args args'.toList ∧ callable P f = true
  | .defer f args => ∃ d first cap, (execOp ev o).run P w = .ok (.defer d) w ∧ d.target = .fn (.func f) cap ∧ d.args = first ∧ VRels κ args (first ++ cap).toList ∧ callable P f = true
  | .panic v => ∃ v', (execOp ev o).run P w = .halt (.panic v') w ∧ VRel κ v v'

theorem run_callFunc {f : FuncId} (hc : callable P f = true) (args : Array Value) : (callFunc f args).run P w = .ok (.enter f args) w := by
  unfold callable at hc
  cases hf : P.funcs[f]? with
  | none => rw [hf] at hc; cases hc
  | some fn =>
    rw [hf] at hc
    simp only [Bool.and_eq_true, Bool.not_eq_true'] at hc
    have h1 : fn.body.isNone = false := by cases hb : fn.body <;> simp [hb] at hc ⊢
    simp only [callFunc, Sem.run_bind, run_program, Result.andThen_ok, hf, hc.2, Bool.false_eq_true, if_false, h1, Sem.run_pure]

theorem VRels.inv1 {a : AVal} {l : List Value} (hr : VRels κ [a] l) : ∃ v, l = [v] ∧ VRel κ a v := by
  cases hr with
  | cons h t => cases t; exact ⟨_, rfl, h⟩
theorem VRels.inv2 {a b : AVal} {l : List Value} (hr : VRels κ [a, b] l) : ∃ u v, l = [u, v] ∧ VRel κ a u ∧ VRel κ b v := by
  cases hr with
  | cons h t =>
    cases t with
    | cons h2 t => cases t; exact ⟨_, _, rfl, h, h2⟩

theorem VRels.mapEv {aev : Operand → AVal} {ev : Operand → Value} (hev : ∀ x, VRel κ (aev x) (ev x)) (l : List Operand) : VRels κ (l.map aev) (l.map ev) := by
  induction l with
  | nil => exact .nil
  | cons x l ih => exact .cons (hev x) ih

theorem PRels.mapEv {aev : Operand → AVal} {ev : Operand → Value} (hev : ∀ x, VRel κ (aev x) (ev x)) (l : List (Nat × Operand)) :
    PRels κ (l.map fun (i, x) => (i, aev x)) (l.map fun (i, x) => (i, ev x)) := by
  induction l with
  | nil => exact .nil
  | cons x l ih => exact .cons (hev x.2) ih

theorem ORelV.mapEv {aev : Operand → AVal} {ev : Operand → Value} (hev : ∀ x, VRel κ (aev x) (ev x)) (o : Option Operand) : ORelV κ (o.map aev) (o.map ev) := by
  cases o with
  | none => exact .none
  | some x => exact .some (hev x)

theorem OpOk.pure {o : Oper} {ev : Operand → Value} {v : AVal} (r : WRel κ h w) (e : ∃ v', (execOp ev o).run P w = .ok (.value v') w ∧ VRel κ v v') : OpOk P κ h w o ev (.val v h) :=
  let ⟨v', h1, h2⟩ := e; ⟨v', w, κ, h1, h2, r, .refl _ _ _⟩

theorem map_val {o : Option AVal} {h : AHeap} {res : ARes} (e : o.map (ARes.val · h) = some res) : ∃ v, o = some v ∧ res = .val v h := by
  cases o with
  | none => cases e
  | some v => cases e; exact ⟨v, rfl, rfl⟩

theorem map_skip {o : Option AHeap} {res : ARes} (e : o.map ARes.skip = some res) : ∃ h, o = some h ∧ res = .skip h := by
  cases o with
  | none => cases e
  | some v => cases e; exact ⟨v, rfl, rfl⟩

theorem builtin_sim (r : WRel κ h w) {b : Builtin} {ats : Array TypeId} {ty : TypeId} {consts : Array Bool} {args : List AVal} {args' : List Value} {res : ARes} (ha : VRels κ args args')
    (e : abuiltin P b ats args h = some res) :
    ∃ v h' v' w' κ', res = .val v h' ∧ (builtin b ats ty consts args'.toArray).run P w = .ok (.value v') w' ∧ VRel κ' v v' ∧ WRel κ' h' w' ∧ Stp κ h w κ' h' w' := by
  have lift : ∀ {s : Sem Value} {v' : Value} {w' : World}, s.run P w = .ok v' w' → (do pure (Next.value (← s)) : Sem Next).run P w = .ok (.value v') w' := by
    intro s v' w' hs
    simp only [Sem.run_bind, hs, Result.andThen_ok, Sem.run_pure]
  unfold abuiltin at e
  split at e
  · obtain ⟨_, _, rfl, h1, h2⟩ := ha.inv2
    obtain ⟨v, h', v', w', κ', q1, q2, q3, q4, q5⟩ := append_sim (P := P) (ty := ty) r h1 h2 e
    exact ⟨v, h', v', w', κ', q1, lift q2, q3, q4, q5⟩
  · obtain ⟨_, _, rfl, h1, h2⟩ := ha.inv2
    obtain ⟨v, h', v', w', κ', q1, q2, q3, q4, q5⟩ := copy_sim (P := P) (ty := ty) r h1 h2 e
    exact ⟨v, h', v', w', κ', q1, lift q2, q3, q4, q5⟩
  · obtain ⟨_, rfl, h1⟩ := ha.inv1
    obtain ⟨v, h', v', w', κ', q1, q2, q3, q4, q5⟩ := clear_sim (P := P) (ty := ty) r h1 e
    exact ⟨v, h', v', w', κ', q1, lift q2, q3, q4, q5⟩
  · obtain ⟨_, rfl, h1⟩ := ha.inv1
    obtain ⟨v, hv, rfl⟩ := map_val e
    obtain ⟨v', q1, q2⟩ := len_sim (P := P) (ty := ty) r h1 hv
    exact ⟨v, h, v', w, κ, rfl, lift q1, q2, r, .refl _ _ _⟩
  · obtain ⟨_, rfl, h1⟩ := ha.inv1
    obtain ⟨v, hv, rfl⟩ := map_val e
    obtain ⟨v', q1, q2⟩ := cap_sim (P := P) (w := w) (ty := ty) h1 hv
    exact ⟨v, h, v', w, κ, rfl, lift q1, q2, r, .refl _ _ _⟩
  · obtain ⟨v, hv, rfl⟩ := map_val e
    obtain ⟨v', q1, q2⟩ := minmax_sim (P := P) (w := w) (ats := ats) (ty := ty) false ha hv
    exact ⟨v, h, v', w, κ, rfl, lift q1, q2, r, .refl _ _ _⟩
  · obtain ⟨v, hv, rfl⟩ := map_val e
    obtain ⟨v', q1, q2⟩ := minmax_sim (P := P) (w := w) (ats := ats) (ty := ty) true ha hv
    exact ⟨v, h, v', w, κ, rfl, lift q1, q2, r, .refl _ _ _⟩
  · obtain ⟨_, _, rfl, h1, h2⟩ := ha.inv2
    cases hd : adelete P h ats _ _ with
    | none => rw [hd] at e; cases e
    | some h' =>
      rw [hd] at e; cases e
      obtain ⟨w', q1, q2, q3⟩ := delete_sim (P := P) (ty := ty) r h1 h2 hd
      exact ⟨_, h', _, w', κ, rfl, lift q1, .tup .nil, q2, q3⟩
  · cases e

theorem isConstO_spec (x : Operand) (hx : isConstO x = true) : ∃ c, x = .const c := by
  cases x <;> first | exact ⟨_, rfl⟩ | (simp [isConstO] at hx)

theorem aop_sim (r : WRel κ h w) {o : Oper} {aev : Operand → AVal} {ev : Operand → Value} (hev : ∀ x, VRel κ (aev x) (ev x)) {res : ARes} (e : aop P o aev h = some res) : OpOk P κ h w o ev res := by
  have lift : ∀ {s : Sem Value} {v' : Value} {w' : World}, s.run P w = .ok v' w' → (do pure (Next.value (← s)) : Sem Next).run P w = .ok (.value v') w' := by
    intro s v' w' hs
    simp only [Sem.run_bind, hs, Result.andThen_ok, Sem.run_pure]
  have liftU : ∀ {s : Sem Unit} {w' : World}, s.run P w = .ok () w' → (do s; pure Next.skip : Sem Next).run P w = .ok .skip w' := by
    intro s w' hs
    simp only [Sem.run_bind, hs, Result.andThen_ok, Sem.run_pure]
  unfold aop at e
  split at e
  case h_1 x ho => cases e; exact OpOk.pure r ⟨ev x, by simp [execOp, ho], hev x⟩
  case h_2 x ho => cases e; exact OpOk.pure r ⟨ev x, by simp [execOp, ho], hev x⟩
  case h_3 c a b ho =>
    split at e
    · rename_i t hc
      cases e
      have h1 := hev c
      rw [hc] at h1
      refine OpOk.pure r ⟨if t then ev a else ev b, ?_, ?_⟩
      · cases h1' : ev c <;> rw [h1'] at h1 <;> cases h1
        simp [execOp, ho, h1', Go.asBool]
      · cases t
        · exact hev b
        · exact hev a
    · cases e
  case h_4 t ho =>
    split at e
    · rename_i z hz
      cases e
      obtain ⟨i, zv, hi, hzv, rfl, hrz⟩ := run_zero hz
      have hzr := cellsRel (VRel.of (κ := κ) zv) (plain_of zv)
      have hl := hzr.length
      have hnew := new_sim r (AVal.of zv).cells zv.cells t (by simp at hl; omega) (by rw [← hl, List.take_length]; exact hzr)
      refine ⟨.pointer (some ⟨w.heap.size, 0, none⟩), _, _, ?_, ?_, hnew.1, hnew.2⟩
      · simp only [execOp, ho]
        exact lift (by simp only [Instr.alloc, Sem.run_bind, hrz, Result.andThen_ok, newVar, newRow, run_newObj, World.alloc_eq, Sem.run_pure])
      · exact VRel.ptr (off := 0) (Kap.put_same _ _ _)
    · cases e
  case h_5 t x ho =>
    split at e
    case isFalse => cases e
    rename_i hp
    cases e
    have hzr := cellsRel (hev x) hp
    have hl := hzr.length
    have hnew := new_sim r (aev x).cells (ev x).cells t (by simp at hl; omega) (by rw [← hl, List.take_length]; exact hzr)
    refine ⟨.pointer (some ⟨w.heap.size, 0, none⟩), _, _, ?_, ?_, hnew.1, hnew.2⟩
    · simp only [execOp, ho]
      exact lift (by simp only [Instr.box, newVar, newRow, Sem.run_bind, run_newObj, World.alloc_eq, Result.andThen_ok, Sem.run_pure])
    · exact VRel.ptr (off := 0) (Kap.put_same _ _ _)
  case h_6 t parts ho =>
    obtain ⟨v, hv, rfl⟩ := map_val e
    obtain ⟨v', q1, q2⟩ := build_sim (P := P) (w := w) (parts' := parts.map fun (i, x) => (i, ev x)) (by simpa using PRels.mapEv hev parts.toList) hv
    exact OpOk.pure r ⟨v', by simp only [execOp, ho]; exact lift q1, q2⟩
  case h_7 t n parts ho =>
    obtain ⟨v, h', v', w', κ', rfl, q2, q3, q4, q5⟩ := buildSlice_sim (P := P) r (parts' := parts.map fun (i, x) => (i, ev x)) (by simpa using PRels.mapEv hev parts.toList) e
    exact ⟨v', w', κ', by simp only [execOp, ho]; exact lift q2, q3, q4, q5⟩
  case h_8 t a ho =>
    split at e
    · rename_i g n b off hg hn ha
      obtain ⟨v, hv, rfl⟩ := map_val e
      have h1 := hev a
      rw [ha] at h1
      cases hea : ev a <;> rw [hea] at h1 <;> cases h1
      rename_i k hk
      obtain ⟨v', q1, q2⟩ := load_sim (P := P) r hg hn hk hv
      exact OpOk.pure r ⟨v', by simp only [execOp, ho, hea]; exact lift (by simp only [Instr.loadAt, Instr.sureAddr, Sem.run_bind, Sem.run_pure, Result.andThen_ok, q1]), q2⟩
    · cases e
  case h_9 t a x ho =>
    split at e
    · rename_i n b off hn ha
      split at e
      case isFalse => cases e
      rename_i hpc
      obtain ⟨h', hp, rfl⟩ := map_skip e
      have h1 := hev a
      rw [ha] at h1
      cases hea : ev a <;> rw [hea] at h1 <;> cases h1
      rename_i k hk
      have hcr := cellsRel (hev x) hpc.1
      obtain ⟨w', q1, q2, q3⟩ := put_sim (P := P) r hk hp hcr
      refine ⟨w', κ, ?_, q2, q3⟩
      simp only [execOp, ho, hea]
      have hl := hcr.length
      have hsz : ¬ (ev x).cells.size ≠ n := by simp at hl; omega
      exact liftU (by simp only [Instr.storeAt, Instr.sureAddr, Sem.run_bind, Sem.run_pure, Result.andThen_ok, storeVar, run_sz hn, if_neg hsz, q1])
    · cases e
  case h_10 x ho =>
    split at e
    · rename_i b off hx
      cases e
      have h1 := hev x
      rw [hx] at h1
      cases hex : ev x <;> rw [hex] at h1 <;> cases h1
      rename_i k hk
      exact OpOk.pure r ⟨_, by simp only [execOp, ho, hex]; rfl, .ptr hk⟩
    · cases e
  case h_11 op t x y yt ho =>
    obtain ⟨v, hv, rfl⟩ := map_val e
    obtain ⟨v', q1, q2⟩ := bin_sim (P := P) (w := w) (hev x) (hev y) hv (isConstO_spec x) (isConstO_spec y)
    exact OpOk.pure r ⟨v', by simp only [execOp, ho]; exact lift q1, q2⟩
  case h_12 op t x ho =>
    obtain ⟨v, hv, rfl⟩ := map_val e
    obtain ⟨v', q1, q2⟩ := un_sim (P := P) (w := w) (hev x) hv
    exact OpOk.pure r ⟨v', by simp only [execOp, ho]; exact lift q1, q2⟩
  case h_13 s d x ho =>
    obtain ⟨v, hv, rfl⟩ := map_val e
    obtain ⟨v', q1, q2⟩ := convert_sim (P := P) (w := w) (hev x) hv
    exact OpOk.pure r ⟨v', by simp only [execOp, ho]; exact lift q1, q2⟩
  case h_14 t x ho =>
    split at e
    · cases e
    rename_i hni
    cases e
    refine OpOk.pure r ⟨.iface t (ev x), ?_, .ifc (hev x)⟩
    simp only [execOp, ho]
    refine lift ?_
    unfold anyIface at hni
    cases hu : P.underlying t with
    | none => rw [hu] at hni; simp at hni
    | some d =>
      rw [hu] at hni
      simp only [Instr.makeInterface, Sem.run_bind, run_underlying hu, Result.andThen_ok]
      cases d <;> first | rfl | (simp at hni)
  case h_15 f first cap ho =>
    cases e
    refine OpOk.pure r ⟨.func (.func f) (first.map ev) (cap.map ev), by simp only [execOp, ho]; rfl, .fn ?_ ?_⟩
    · simpa using VRels.mapEv hev first.toList
    · simpa using VRels.mapEv hev cap.toList
  case h_16 t ho =>
    cases e
    have hnew := r.new (.map [] 0) (.map #[] 0) 0 ⟨.nil, rfl⟩
    refine ⟨.map (some w.heap.size), _, _, ?_, ?_, hnew.1, hnew.2⟩
    · simp only [execOp, ho]
      exact lift (by simp only [Instr.makeMap, Option.map_none, Sem.run_bind, run_newObj, World.alloc_eq, Result.andThen_ok, Sem.run_pure])
    · exact VRel.map (k := ⟨w.heap.size, 0, 0⟩) (Kap.put_same _ _ _)
  case h_17 t l c ho =>
    obtain ⟨v, h', v', w', κ', rfl, q2, q3, q4, q5⟩ := makeSlice_sim (P := P) r (hev l) (hev c) e
    exact ⟨v', w', κ', by simp only [execOp, ho]; exact lift q2, q3, q4, q5⟩
  case h_18 t x lo hi mx ho =>
    obtain ⟨v, hv, rfl⟩ := map_val e
    obtain ⟨v', q1, q2⟩ := slice_sim (P := P) (w := w) (hev x) (ORelV.mapEv hev lo) (ORelV.mapEv hev hi) (ORelV.mapEv hev mx) hv
    exact OpOk.pure r ⟨v', by simp only [execOp, ho]; exact lift q1, q2⟩
  case h_19 t x f ho =>
    obtain ⟨v, hv, rfl⟩ := map_val e
    obtain ⟨v', q1, q2⟩ := fieldAt_sim (P := P) (w := w) (hev x) hv
    exact OpOk.pure r ⟨v', by simp only [execOp, ho]; exact lift q1, q2⟩
  case h_20 t x f ho =>
    obtain ⟨v, hv, rfl⟩ := map_val e
    obtain ⟨v', q1, q2⟩ := field_sim (P := P) (w := w) (hev x) hv
    exact OpOk.pure r ⟨v', by simp only [execOp, ho]; exact lift q1, q2⟩
  case h_21 t x i ho =>
    obtain ⟨v, hv, rfl⟩ := map_val e
    obtain ⟨v', q1, q2⟩ := indexAt_sim (P := P) (w := w) (hev x) (hev i) hv
    exact OpOk.pure r ⟨v', by simp only [execOp, ho]; exact lift q1, q2⟩
  case h_22 t x i ho =>
    obtain ⟨v, hv, rfl⟩ := map_val e
    obtain ⟨v', q1, q2⟩ := index_sim (P := P) (w := w) (hev x) (hev i) hv
    exact OpOk.pure r ⟨v', by simp only [execOp, ho]; exact lift q1, q2⟩
  case h_23 t x i ok ho =>
    obtain ⟨v, hv, rfl⟩ := map_val e
    obtain ⟨v', q1, q2⟩ := lookup_sim (P := P) r (hev x) (hev i) hv
    exact OpOk.pure r ⟨v', by simp only [execOp, ho]; exact lift q1, q2⟩
  case h_24 t m k x ho =>
    obtain ⟨h', hp, rfl⟩ := map_skip e
    obtain ⟨w', q1, q2, q3⟩ := mapSet_sim (P := P) r (hev m) (hev k) (hev x) hp
    exact ⟨w', κ, by simp only [execOp, ho]; exact liftU q1, q2, q3⟩
  case h_25 t m k x ho =>
    obtain ⟨h', hp, rfl⟩ := map_skip e
    obtain ⟨w', q1, q2, q3⟩ := mapSet_sim (P := P) r (hev m) (hev k) (hev x) hp
    exact ⟨w', κ, by simp only [execOp, ho]; exact liftU q1, q2, q3⟩
  case h_26 t m k ho =>
    obtain ⟨v, h', v', w', κ', rfl, q2, q3, q4, q5⟩ := mapEntry_sim (P := P) r (hev m) (hev k) e
    exact ⟨v', w', κ', by simp only [execOp, ho]; exact lift q2, q3, q4, q5⟩
  case h_27 t m s x ho =>
    obtain ⟨h', hp, rfl⟩ := map_skip e
    obtain ⟨w', q1, q2, q3⟩ := entryStore_sim (P := P) (t := t) r (hev m) (hev s) (hev x) hp
    exact ⟨w', κ, by simp only [execOp, ho]; exact liftU q1, q2, q3⟩
  case h_28 t x ho =>
    obtain ⟨v, h', v', w', κ', rfl, q2, q3, q4, q5⟩ := range_sim (P := P) r (hev x) e
    exact ⟨v', w', κ', by simp only [execOp, ho]; exact lift q2, q3, q4, q5⟩
  case h_29 it isS ho =>
    obtain ⟨v, h', v', w', κ', rfl, q2, q3, q4, q5⟩ := next_sim (P := P) (ty := o.type) r (hev it) e
    exact ⟨v', w', κ', by simp only [execOp, ho]; exact lift q2, q3, q4, q5⟩
  case h_30 it ho =>
    obtain ⟨v, hv, rfl⟩ := map_val e
    obtain ⟨v', q1, q2⟩ := entry_sim (P := P) r (hev it) hv
    exact OpOk.pure r ⟨v', by simp only [execOp, ho]; exact lift q1, q2⟩
  case h_31 x xt at_ ok ho =>
    obtain ⟨v, hv, rfl⟩ := map_val e
    obtain ⟨v', q1, q2⟩ := tassert_sim (P := P) (w := w) (xt := xt) (hev x) hv
    exact OpOk.pure r ⟨v', by simp only [execOp, ho]; exact lift q1, q2⟩
  case h_32 t i ho =>
    split at e
    · rename_i l hl
      obtain ⟨v, hv, rfl⟩ := map_val e
      have h1 := hev t
      rw [hl] at h1
      obtain ⟨v', q1, q2⟩ := h1.tupGet (P := P) (w := w) hv
      exact OpOk.pure r ⟨v', by simp only [execOp, ho]; exact lift q1, q2⟩
    · cases e
  case h_33 c ho =>
    split at e
    · rename_i b hb
      obtain ⟨v, h', v', w', κ', rfl, q2, q3, q4, q5⟩ := builtin_sim (P := P) (ty := o.type) (consts := c.args.map fun | .const _ => true | _ => false) r (VRels.mapEv hev c.args.toList) e
      refine ⟨v', w', κ', ?_, q3, q4, q5⟩
      simp only [execOp, ho, resolve, hb, Sem.run_bind, Sem.run_pure, Result.andThen_ok, invoke]
      have : (c.args.toList.map ev).toArray = c.args.map ev := by rw [← Array.toList_map]
      rw [this] at q2
      exact q2
    · rename_i f hf
      split at e
      · rename_i g first cap hg
        split at e
        case isFalse => cases e
        rename_i hcall
        cases e
        have h1 := hev f
        rw [hg] at h1
        cases hef : ev f <;> rw [hef] at h1 <;> cases h1
        rename_i first' cap' h1 h2
        refine ⟨first' ++ c.args.map ev ++ cap', ?_, ?_, hcall⟩
        · simp only [execOp, ho, resolve, hf, hef, Deferred.ofValue, Sem.run_bind, Sem.run_pure, Result.andThen_ok, invoke]
          exact run_callFunc hcall _
        · have := (h1.append (VRels.mapEv hev c.args.toList)).append h2
          simpa using this
      · cases e
    · cases e
  case h_34 c ho =>
    split at e
    · rename_i f hf
      split at e
      · rename_i g first cap hg
        split at e
        case isFalse => cases e
        rename_i hcall
        cases e
        have h1 := hev f
        rw [hg] at h1
        cases hef : ev f <;> rw [hef] at h1 <;> cases h1
        rename_i first' cap' h1 h2
        refine ⟨{ target := .fn (.func g) cap', args := first' ++ c.args.map ev }, _, cap', ?_, rfl, rfl, ?_, hcall⟩
        · simp only [execOp, ho, resolve, hf, hef, Deferred.ofValue, Sem.run_bind, Sem.run_pure, Result.andThen_ok]
        · have := (h1.append (VRels.mapEv hev c.args.toList)).append h2
          simpa using this
      · cases e
    · cases e
  case h_35 x ho =>
    split at e
    · rename_i t v hx
      cases e
      have h1 := hev x
      rw [hx] at h1
      cases hex : ev x <;> rw [hex] at h1 <;> cases h1
      rename_i v' h1
      refine ⟨.iface t v', ?_, .ifc h1⟩
      simp only [execOp, ho, hex, Instr.panic, Sem.run_bind, run_goPanic, Result.andThen_halt]
    · cases e
  case h_36 => cases e

end
end Go.Aev
