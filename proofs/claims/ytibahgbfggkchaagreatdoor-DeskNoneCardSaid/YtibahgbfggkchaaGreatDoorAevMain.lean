/- Regions whose order is drawn: the model's order against the plan's. -/
import Derived.Test.YtibahgbfggkchaaGreatDoorAevAny
namespace Go.Aev

section
variable {P : Program} {rec : Rec} {ops : Array Oper} {pre : List (List Nat)} {s0 sF : ASt} {κ0 : Kap} {w0 : World}

def flat (segs : List Seg) : List Nat := segs.flatMap fun g => g.stage ++ [g.act]

theorem flat_cons (g : Seg) (r : List Seg) : flat (g :: r) = g.stage ++ (g.act :: flat r) := by simp [flat]

theorem run_of_plan : ∀ (segs : List Seg) (last : List Nat) (s s' : ASt), adrawRun P rec ops segs last s = some (.normal, s') → Run P rec ops (flat segs ++ last) s s' := by
  intro segs
  induction segs with
  | nil => intro last s s' h; exact h
  | cons g r ih =>
    intro last s s' h
    simp only [adrawRun] at h
    split at h
    · rename_i s1 h1
      split at h
      · rename_i s2 h2
        split at h
        · rw [flat_cons, List.append_assoc, List.cons_append]
          exact run_append.2 ⟨s1, h1, run_cons.2 ⟨s2, h2, ih last s2 s' h⟩⟩
        · cases h
      · cases h
    · cases h

/-- what holds of the model's state, the set S of what it has done, against the plan's state behind 'past' -/
structure Inv (P : Program) (ops : Array Oper) (pre : List (List Nat)) (s0 sF : ASt) (κ0 : Kap) (w0 : World) (past : List Nat) (h : AHeap) (S : List Nat) (κ : Kap) (a : Act) (w : World) : Prop where
  lt : ∀ i ∈ S, i < ops.size
  nd : S.Nodup
  cl : Closed pre S
  sub : ∀ i ∈ S, i ∈ past
  sr : SRel P κ (stA ops s0 sF S h) a w
  st : Stp κ0 s0.h w0 κ h w
  facts : ∀ i ∈ past, i ∉ S → ∀ A, Rdy ops pre A i → OpFact P ops s0 sF i (hyb ops s0 sF A) h
  idn : ∀ i ∈ past, ∀ id, idOf ops sF i = some id → s0.h.next ≤ id ∧ id < h.next
  idd : ∀ i ∈ past, ∀ j ∈ past, ∀ id, idOf ops sF i = some id → idOf ops sF j = some id → i = j
  idu : ∀ i ∈ past, i ∉ S → ∀ id, idOf ops sF i = some id → κ id = none

/-- what the plan does next -/
def Ahead (P : Program) (rec : Rec) (ops : Array Oper) (pre : List (List Nat)) (sF : ASt) (order last acts done past : List Nat) (s1 : ASt) : List Seg → Prop
  | [] => past = order ∧ s1 = sF
  | g :: r => past ++ g.act :: (flat r ++ last) = order ∧ (∃ s2, Run P rec ops [g.act] s1 s2 ∧ g.again.all (again P ops s2) = true ∧ adrawRun P rec ops r last s2 = some (.normal, sF)) ∧
      kindAt ops g.act = 3 ∧ (∀ e ∈ acts, before pre e g.act = true) ∧ (∀ i ∈ done, before pre i g.act = true ∨ kindAt ops i = 0 ∨ i ∈ g.again) ∧
      segsOk ops pre (g.act :: acts) done r last = true

/-- where the plan stands: a stage is done; what acts next -/
structure AtPos (P : Program) (rec : Rec) (ops : Array Oper) (pre : List (List Nat)) (s0 sF : ASt) (order : List Nat) (segs : List Seg) (last acts done past : List Nat) (s1 : ASt) : Prop where
  run : Run P rec ops past s0 s1
  cover : ∀ i ∈ past, i ∈ acts ∨ i ∈ done
  quiet : ∀ i ∈ done, kindAt ops i ≠ 3
  actsP : ∀ i ∈ acts, i ∈ past
  pos : Ahead P rec ops pre sF order last acts done past s1 segs

theorem stageOk_spec {acts l : List Nat} (h : stageOk ops pre acts l = true) : ∀ i ∈ l, kindAt ops i ≠ 3 ∧ ∀ e r, acts = e :: r → before pre e i = true := by
  intro i hi
  have := List.all_eq_true.1 h i hi
  simp only [Bool.and_eq_true, bne_iff_ne, ne_eq] at this
  refine ⟨this.1, fun e r he => ?_⟩
  subst he
  exact this.2

/-- what comes later in the plan comes behind what acts now -/
theorem later : ∀ (r : List Seg) (last acts done : List Nat) (e : Nat), segsOk ops pre (e :: acts) done r last = true → ∀ i ∈ flat r ++ last, before pre e i = true ∨ ∃ g ∈ r, before pre g.act i = true := by
  intro r
  induction r with
  | nil =>
    intro last acts done e h i hi
    simp only [segsOk] at h
    simp [flat] at hi
    exact .inl ((stageOk_spec h i hi).2 e acts rfl)
  | cons g r ih =>
    intro last acts done e h i hi
    simp only [segsOk, Bool.and_eq_true] at h
    obtain ⟨⟨⟨⟨h1, h2⟩, h3⟩, h4⟩, h5⟩ := h
    rw [flat_cons, List.append_assoc, List.cons_append] at hi
    rcases List.mem_append.1 hi with hi | hi
    · exact .inl ((stageOk_spec h1 i hi).2 e acts rfl)
    · rcases List.mem_cons.1 hi with rfl | hi
      · exact .inl (List.all_eq_true.1 h3 e (by simp))
      · rcases ih last (e :: acts) (done ++ g.stage) g.act h5 i hi with h | ⟨g', hg', h⟩
        · exact .inr ⟨g, by simp, h⟩
        · exact .inr ⟨g', by simp [hg'], h⟩

/-- the plan goes through its next stage -/
theorem enter (hpl : ops.all (fun o => plainOp o.op) = true) (hto : tempsOk ops pre = true) {order : List Nat} (hord : ordOk ops pre order [] = true)
    {segs : List Seg} {last acts done past : List Nat} {s : ASt} (hrun : adrawRun P rec ops segs last s = some (.normal, sF)) (hseg : segsOk ops pre acts done segs last = true)
    (heq : past ++ (flat segs ++ last) = order) (hpast : Run P rec ops past s0 s) (hcov : ∀ i ∈ past, i ∈ acts ∨ i ∈ done) (hq : ∀ i ∈ done, kindAt ops i ≠ 3) (hacts : ∀ i ∈ acts, i ∈ past)
    {S : List Nat} (hactsS : ∀ i ∈ acts, i ∈ S) {κ : Kap} {a : Act} {w : World} (inv : Inv P ops pre s0 sF κ0 w0 past s.h S κ a w) :
    ∃ done' past' s1, AtPos P rec ops pre s0 sF order segs last acts done' past' s1 ∧ Inv P ops pre s0 sF κ0 w0 past' s1.h S κ a w := by
  -- the stage that comes
  obtain ⟨l, rest, s1, hl, hr1, hr2, hkl, hpos⟩ : ∃ (l rest : List Nat) (s1 : ASt), past ++ (l ++ rest) = order ∧ Run P rec ops l s s1 ∧ Run P rec ops rest s1 sF ∧ (∀ i ∈ l, kindAt ops i ≠ 3) ∧
      Ahead P rec ops pre sF order last acts (done ++ l) (past ++ l) s1 segs := by
    cases segs with
    | nil =>
      simp only [flat, List.flatMap_nil, List.nil_append] at heq
      simp only [segsOk] at hseg
      refine ⟨last, [], sF, by simpa using heq, hrun, run_nil.2 rfl, fun i hi => (stageOk_spec hseg i hi).1, heq, rfl⟩
    | cons g r =>
      simp only [segsOk, Bool.and_eq_true] at hseg
      obtain ⟨⟨⟨⟨h1, h2⟩, h3⟩, h4⟩, h5⟩ := hseg
      simp only [adrawRun] at hrun
      split at hrun
      case h_2 => cases hrun
      rename_i s1 q1
      split at hrun
      case h_2 => cases hrun
      rename_i s2 q2
      split at hrun
      case isFalse => cases hrun
      rename_i q3
      rw [flat_cons, List.append_assoc, List.cons_append] at heq
      refine ⟨g.stage, g.act :: (flat r ++ last), s1, heq, q1, run_cons.2 ⟨s2, q2, run_of_plan r last s2 sF hrun⟩, fun i hi => (stageOk_spec h1 i hi).1, by simpa using heq, ⟨s2, q2, q3, hrun⟩, by simpa using h2, fun e he => List.all_eq_true.1 h3 e he, fun i hi => ?_, h5⟩
      have := List.all_eq_true.1 h4 i hi
      simp only [Bool.or_eq_true, beq_iff_eq, List.contains_eq_mem, decide_eq_true_eq] at this
      rcases this with (h | h) | h
      · exact .inl h
      · exact .inr (.inl h)
      · exact .inr (.inr h)
  subst hl
  have hdom := inv.sr.w.dom
  obtain ⟨g1, f1, d1, e1⟩ := stage_run hpl hto l past rest s s1 hord hpast hr1 hr2 hdom hkl
  obtain ⟨gw, gs⟩ := g1.wrel inv.sr.w
  have hnd := ord_nodup _ _ hord
  have hfr : ∀ i ∈ l, i ∉ past := by
    intro i hi hp
    exact (List.nodup_append.1 hnd).2.2 i hp i (by simp [hi]) rfl
  refine ⟨done ++ l, past ++ l, s1, ⟨run_append.2 ⟨s, hpast, hr1⟩, ?_, ?_, fun i hi => by simp [hacts i hi], hpos⟩, ?_⟩
  · intro i hi
    rcases List.mem_append.1 hi with hi | hi
    · rcases hcov i hi with h | h
      · exact .inl h
      · exact .inr (by simp [h])
    · exact .inr (by simp [hi])
  · intro i hi
    rcases List.mem_append.1 hi with hi | hi
    · exact hq i hi
    · exact hkl i hi
  · refine ⟨inv.lt, inv.nd, inv.cl, fun i hi => by simp [inv.sub i hi], ⟨inv.sr.tm, inv.sr.nt, gw, inv.sr.df⟩, inv.st.trans gs, ?_, ?_, ?_, ?_⟩
    · intro i hi hS A hA
      rcases List.mem_append.1 hi with hi | hi
      · refine (inv.facts i hi hS A hA).grow g1 hdom ?_
        rcases hcov i hi with h | h
        · exact absurd (hactsS i h) hS
        · exact hq i h
      · exact f1 i hi A hA
    · intro i hi id hid
      rcases List.mem_append.1 hi with hi | hi
      · have := inv.idn i hi id hid; have := g1.next; simp only [stA] at *; omega
      · have := d1 i hi id hid; have := inv.st.next; omega
    · intro i hi j hj id hid hjd
      rcases List.mem_append.1 hi with hi | hi <;> rcases List.mem_append.1 hj with hj | hj
      · exact inv.idd i hi j hj id hid hjd
      · have := inv.idn i hi id hid; have := d1 j hj id hjd; omega
      · have := inv.idn j hj id hjd; have := d1 i hi id hid; omega
      · exact e1 i hi j hj id hid hjd
    · intro i hi hS id hid
      rcases List.mem_append.1 hi with hi | hi
      · exact inv.idu i hi hS id hid
      · exact inv.sr.w.fresh id (d1 i hi id hid).1

theorem nodup_le : ∀ (n : Nat) (S : List Nat), S.Nodup → (∀ i ∈ S, i < n) → S.length ≤ n := by
  intro n
  induction n with
  | zero => intro S _ h; cases S with
    | nil => simp
    | cons x _ => exact absurd (h x (by simp)) (by omega)
  | succ n ih =>
    intro S hn h
    by_cases hm : n ∈ S
    · have h1 := ih (S.erase n) (hn.erase n) (fun i hi => by
        have h2 := (List.Nodup.mem_erase_iff hn).1 hi
        have := h i h2.2
        have := h2.1
        omega)
      rw [List.length_erase_of_mem hm] at h1
      have := List.length_pos_of_mem hm
      omega
    · have := ih S hn (fun i hi => by
        have := h i hi
        have : i ≠ n := fun e => hm (e ▸ hi)
        omega)
      omega

/-- the model has taken one of those that the plan has taken -/
theorem inv_next {past : List Nat} {h : AHeap} {S : List Nat} {κ κ' : Kap} {a a' : Act} {w w' : World} (inv : Inv P ops pre s0 sF κ0 w0 past h S κ a w) {i : Nat} (hi : i ∈ past) (hr : Rdy ops pre S i) (hil : i < ops.size)
    (sr : SRel P κ' (stA ops s0 sF (i :: S) h) a' w') (st : Stp κ0 s0.h w0 κ' h w') (hu : ∀ j ∈ past, j ∉ i :: S → ∀ id, idOf ops sF j = some id → κ' id = none) :
    Inv P ops pre s0 sF κ0 w0 past h (i :: S) κ' a' w' := by
  refine ⟨?_, List.nodup_cons.2 ⟨hr.out, inv.nd⟩, ?_, ?_, sr, st, ?_, inv.idn, inv.idd, hu⟩
  · intro j hj; rcases List.mem_cons.1 hj with rfl | hj
    · exact hil
    · exact inv.lt j hj
  · intro j hj u hb
    rcases List.mem_cons.1 hj with rfl | hj
    · exact List.mem_cons_of_mem _ (hr.rdy u hb)
    · exact List.mem_cons_of_mem _ (inv.cl j hj u hb)
  · intro j hj; rcases List.mem_cons.1 hj with rfl | hj
    · exact hi
    · exact inv.sub j hj
  · intro j hj hS A hA
    exact inv.facts j hj (fun hm => hS (List.mem_cons_of_mem _ hm)) A hA

theorem hyb_cons (i : Nat) (S : List Nat) (o : Oper) (hi : ops[i]? = some o) : hyb ops s0 sF (i :: S) = (match o.dst with | some d => (hyb ops s0 sF S).set d (tget sF.tm d) | none => hyb ops s0 sF S) := by
  simp only [hyb, dstAt_eq hi]
  cases o.dst <;> rfl

/-- a step that the abstract side takes too -/
theorem one_wp (hrec : RecOk P rec) {i : Nat} {s s' : ASt} {κ : Kap} {a : Act} {w : World} (h : Run P rec ops [i] s s') (sr : SRel P κ s a w) {Q : Exit → Act → World → Prop} {K : Act → World → Prop}
    (hK : ∀ a' w' κ', SRel P κ' s' a' w' → Stp κ s.h w κ' s'.h w' → K a' w') : wpOp P ops Q i K a w := by
  have := aops_sim hrec [i] s .normal s' h κ a w sr (fun e a' w' => match e with | .normal => K a' w' | e => Q e a' w') (fun e a' w' hp => by
      obtain ⟨κ', p1, p2, p3⟩ := hp
      cases e <;> simp only [ExRel] at p1
      exact hK a' w' κ' p2 p3) (fun _ a' w' hp => by
      obtain ⟨κ', p1, p2, p3⟩ := hp
      exact hK a' w' κ' p2 p3)
  rw [wpOps_cons] at this
  unfold wpOp at this ⊢
  exact this

/-- the model takes one that the plan has taken -/
theorem past_wp (hrec : RecOk P rec) {past : List Nat} {h : AHeap} {S : List Nat} {κ : Kap} {a : Act} {w : World} (inv : Inv P ops pre s0 sF κ0 w0 past h S κ a w) {i : Nat} (hi : i ∈ past) (hr : Rdy ops pre S i) (hil : i < ops.size)
    {Q : Exit → Act → World → Prop} {K : Act → World → Prop} (hK : ∀ κ' a' w', Inv P ops pre s0 sF κ0 w0 past h (i :: S) κ' a' w' → K a' w') : wpOp P ops Q i K a w := by
  obtain ⟨o, ho, hlt, f⟩ := inv.facts i hi hr.out S hr
  have viaRun : Run P rec ops [i] (stA ops s0 sF S h) (stA ops s0 sF (i :: S) h) → wpOp P ops Q i K a w := by
    intro hrun
    refine one_wp hrec hrun inv.sr fun a' w' κ' sr' st' => hK κ' a' w' (inv_next inv hi hr hil sr' (inv.st.trans st') ?_)
    intro j hj hS id hid
    have hlt := (inv.idn j hj id hid).2
    rw [st'.keep id hlt]
    exact inv.idu j hj (fun hm => hS (List.mem_cons_of_mem _ hm)) id hid
  rcases f with ⟨hw, hv⟩ | ⟨hw, v, hv, f⟩
  · refine viaRun ((run_one ho).2 (.not hw (put_spec.2 ⟨hlt, ?_⟩)))
    simp only [stA, hyb_cons i S o ho]
    congr 1
    cases hd : o.dst with
    | none => rfl
    | some d => simp only; rw [hv d hd]
  · rcases f with ⟨hk, ha⟩ | ⟨hk, id, obj, addr, hall, rfl, hblk, hid, hget⟩
    · refine viaRun ((run_one ho).2 (.val hw ha (put_spec.2 ⟨hlt, ?_⟩)))
      simp only [stA, hyb_cons i S o ho]
      congr 1
      cases hd : o.dst with
      | none => rfl
      | some d => simp only; rw [hv d hd]
    · -- a new block
      have hdd : ∃ d, o.dst = some d ∧ idOf ops sF i = some id ∨ o.dst = none := by
        cases hd : o.dst with
        | none => exact ⟨0, .inr rfl⟩
        | some d => exact ⟨d, .inl ⟨rfl, by simp [idOf, dstAt_eq ho, hd, kindAt_eq ho, hk, hv d hd, hblk]⟩⟩
      obtain ⟨obj2, addr2, hres, hall2, _, hreal⟩ := made_form (P := P) hk (hall h)
      have hobj : obj = obj2 := by
        have h1 := hall2 h
        rw [hall h] at h1
        injection h1 with h1
        injection h1 with _ h2
        have h3 := congrArg (fun x => AHeap.get x h.next) h2
        simp only [get_new, if_true] at h3
        exact Option.some.inj h3
      have haddr : ∀ n, addr n = addr2 n := by
        intro n
        have h1 := hall2 { next := n, t := .nil }
        rw [hall { next := n, t := .nil }] at h1
        injection h1 with h1
        injection h1
      subst hobj
      obtain ⟨o', v', z, q1, q2⟩ := hreal (κ := κ) (ev' := a.eval) (w := w) (fun x => inv.sr.eval x)
      have hwant := inv.sr.wanted hw
      unfold wpOp
      rw [ho]
      simp only [hwant, if_true]
      refine .inl ?_
      unfold Oper.wp
      rw [q1]
      simp only [Oper.upon]
      rcases hdd with ⟨d, ⟨hd, hidi⟩ | hd⟩
      · have hnone := inv.idu i hi hr.out id hidi
        have hext0 : Ext κ (Kap.put κ id ⟨w.heap.size, 0, z⟩) := fun b k hb => by
          unfold Kap.put
          split
          · rename_i e; subst e; rw [hnone] at hb; cases hb
          · exact hb
        obtain ⟨ho2, hv2⟩ := q2 (Kap.put κ id ⟨w.heap.size, 0, z⟩) id hext0 (Kap.put_same _ _ _)
        obtain ⟨hext, hw2⟩ := inv.sr.w.bind hid hnone hget ho2
        refine hK (Kap.put κ id ⟨w.heap.size, 0, z⟩) _ _ (inv_next inv hi hr hil ?_ (inv.st.bind (inv.idn i hi id hidi).1 o') ?_)
        · have sr1 : SRel P (Kap.put κ id ⟨w.heap.size, 0, z⟩) (stA ops s0 sF S h) a (w.alloc o') := ⟨fun t => (inv.sr.tm t).mono hext, inv.sr.nt, hw2, inv.sr.df.mono hext⟩
          refine sr1.put (v := addr id) (by rw [haddr]; exact hv2) (put_spec.2 ⟨hlt, ?_⟩)
          simp only [stA, hyb_cons i S o ho]
          congr 1
          rw [hd]
          simp only
          rw [hv d hd]
        · intro j hj hS id' hid'
          have hne : id' ≠ id := by
            intro e; subst e
            exact hS (by rw [inv.idd j hj i hi id' hid' hidi]; simp)
          unfold Kap.put
          rw [if_neg hne]
          exact inv.idu j hj (fun hm => hS (List.mem_cons_of_mem _ hm)) id' hid'
      · -- nobody keeps it
        have hw2 : WRel κ h (w.alloc o') ∧ Stp κ h w κ h (w.alloc o') := by
          have r := inv.sr.w
          refine ⟨⟨r.dom, r.fresh, fun b k hb => by have := r.inb b k hb; simp; omega, ?_, r.inj⟩, ⟨fun _ _ => rfl, Nat.le_refl _, rfl, rfl, rfl, by simp, fun r' hr' _ => heap_alloc_lt w o' r' hr', fun b o k a b' c _ => ⟨b, o, k, a, b', c, rfl⟩⟩⟩
          intro b x k hb hk' ha'
          obtain ⟨y, hy, hyr⟩ := r.obj b x k hb hk' ha'
          exact ⟨y, by rw [heap_alloc_lt w o' k.r (r.inb b k hk')]; exact hy, hyr⟩
        refine hK κ _ _ (inv_next inv hi hr hil ?_ (inv.st.trans hw2.2) ?_)
        · have hsame : stA ops s0 sF (i :: S) h = stA ops s0 sF S h := by
            simp only [stA, hyb_cons i S o ho, hd]
          rw [hsame, hd]
          exact ⟨inv.sr.tm, inv.sr.nt, hw2.1, inv.sr.df⟩
        · intro j hj hS id' hid'
          exact inv.idu j hj (fun hm => hS (List.mem_cons_of_mem _ hm)) id' hid'

/-! ### what was asked again -/

theorem sameOne_eq {a b : AVal} (h : sameOne a b = true) : a = b := by
  unfold sameOne at h
  split at h <;> first
    | rfl
    | (cases h; done)
    | (simp at h; subst h; rfl)
    | (simp at h; obtain ⟨rfl, rfl⟩ := h; rfl)
    | (simp at h; obtain ⟨⟨⟨⟨⟨rfl, rfl⟩, rfl⟩, rfl⟩, rfl⟩, rfl⟩ := h; rfl)

theorem sameAll_eq : ∀ {l l' : List AVal}, sameAll l l' = true → l = l'
  | [], [], _ => rfl
  | [], _ :: _, h => by simp [sameAll] at h
  | _ :: _, [], h => by simp [sameAll] at h
  | a :: l, b :: l', h => by
    simp only [sameAll, Bool.and_eq_true] at h
    rw [sameOne_eq h.1, sameAll_eq h.2]

theorem sameVal_eq {a b : AVal} (h : sameVal a b = true) : a = b := by
  unfold sameVal at h
  split at h
  · rw [sameAll_eq h]
  · rw [sameAll_eq h]
  · simp only [Bool.and_eq_true, beq_iff_eq] at h
    rw [h.1.1, sameAll_eq h.1.2, sameAll_eq h.2]
  · exact sameOne_eq h

theorem sameCells_eq : ∀ {l l' : List AVal}, sameCells l l' = true → l = l'
  | [], [], _ => rfl
  | [], _ :: _, h => by simp [sameCells] at h
  | _ :: _, [], h => by simp [sameCells] at h
  | a :: l, b :: l', h => by
    simp only [sameCells, Bool.and_eq_true] at h
    rw [sameVal_eq h.1, sameCells_eq h.2]

theorem OpFact.pure0 {i : Nat} {tm : T AVal} {h h' : AHeap} (hk : kindAt ops i = 0) (f : OpFact P ops s0 sF i tm h) : OpFact P ops s0 sF i tm h' := by
  obtain ⟨o, hi, hlt, f⟩ := f
  rw [kindAt_eq hi] at hk
  refine ⟨o, hi, hlt, ?_⟩
  rcases f with f | ⟨hw, v, hv, f⟩
  · exact .inl f
  · refine .inr ⟨hw, v, hv, ?_⟩
    rcases f with ⟨h2, ha⟩ | ⟨h2, _⟩
    · obtain ⟨v2, hv2, hall⟩ := pure_form hk ha
      cases hv2
      exact .inl ⟨h2, hall h'⟩
    · rw [hk] at h2; cases h2

theorem OpFact.again {i : Nat} {tm : T AVal} {h : AHeap} {s2 : ASt} (hag : again P ops s2 i = true) (hk : kindAt ops i = 1 ∨ kindAt ops i = 2) (ht : ∀ t ∈ looksAt ops i, tget s2.tm t = tget tm t)
    (hd : ∀ d, dstAt ops i = some d → tget s2.tm d = tget sF.tm d) (hn : h.next ≤ s2.h.next) (f : OpFact P ops s0 sF i tm h) : OpFact P ops s0 sF i tm s2.h := by
  obtain ⟨o, hi, hlt, f⟩ := f
  obtain ⟨e1, e2⟩ := eval_of_looks (P := P) hi ht
  rw [kindAt_eq hi] at hk
  rw [dstAt_eq hi] at hd
  refine ⟨o, hi, hlt, ?_⟩
  rcases f with f | ⟨hw, v, hv, f⟩
  · exact .inl f
  · refine .inr ⟨hw, v, hv, ?_⟩
    unfold Aev.again at hag
    rw [hi] at hag
    simp only [e2, hw] at hag
    cases hdd : o.dst with
    | none => rw [hdd] at hag; cases hag
    | some d =>
      rw [hdd] at hag
      simp only at hag
      rcases f with ⟨h2, ha⟩ | ⟨h2, id, obj, addr, hall, rfl, hblk, hid, hget⟩
      · have hk1 : kindOf o.op = 1 := hk.resolve_right h2
        rw [if_pos hk1] at hag
        refine .inl ⟨h2, ?_⟩
        rw [e1] at hag
        split at hag
        · rename_i v2 h2' hop
          obtain ⟨v3, hv3, _⟩ := read_form hk1 hop
          cases hv3
          have : v2 = v := by rw [sameVal_eq hag, hd d hdd, hv d hdd]
          subst this
          exact hop
        · cases hag
      · have hk1 : ¬ kindOf o.op = 1 := by rw [h2]; decide
        rw [if_neg hk1] at hag
        refine .inr ⟨h2, id, obj, addr, hall, rfl, hblk, Nat.lt_of_lt_of_le hid hn, ?_⟩
        have hmade : madeBy P o (aeval s2.tm) = some obj := by
          unfold madeBy
          rw [e1, hall]
          simp [get_new]
        have hb : blockOf (tget s2.tm d) = some id := by rw [hd d hdd, hv d hdd]; exact hblk
        rw [hmade, hb] at hag
        split at hag
        · rename_i l b h5 h6
          cases h5; cases h6
          split at hag
          · rename_i l' hl'
            rw [hl', sameCells_eq hag]
          · cases hag
        · rename_i b h5 h6
          cases h5; cases h6
          split at hag
          · rename_i hl'
            exact hl'
          · cases hag
        · cases hag

/-- the model has taken what acts -/
theorem act_inv (hpl : ops.all (fun o => plainOp o.op) = true) (hto : tempsOk ops pre = true) {order : List Nat} (hord : ordOk ops pre order [] = true) {g : Seg} {r : List Seg} {last acts done past : List Nat} {s1 s2 : ASt}
    (hp : AtPos P rec ops pre s0 sF order (g :: r) last acts done past s1) {S : List Nat} (hS : ∀ e ∈ acts, e ∈ S) (h2 : Run P rec ops [g.act] s1 s2) (hag : g.again.all (again P ops s2) = true)
    (h3 : adrawRun P rec ops r last s2 = some (.normal, sF)) {κ κ2 : Kap} {a a2 : Act} {w w2 : World} (inv : Inv P ops pre s0 sF κ0 w0 past s1.h S κ a w) (hr : Rdy ops pre S g.act) (hil : g.act < ops.size)
    (sr : SRel P κ2 (stA ops s0 sF (g.act :: S) s2.h) a2 w2) (st : Stp κ s1.h w κ2 s2.h w2) :
    Inv P ops pre s0 sF κ0 w0 (past ++ [g.act]) s2.h (g.act :: S) κ2 a2 w2 := by
  obtain ⟨heq, _, hk3, _, hdone, _⟩ := hp.pos
  subst heq
  have hrest : Run P rec ops (flat r ++ last) s2 sF := run_of_plan r last s2 sF h3
  have hpast2 : Run P rec ops (past ++ [g.act]) s0 s2 := run_append.2 ⟨s1, hp.run, h2⟩
  have hord2 : ordOk ops pre ((past ++ [g.act]) ++ (flat r ++ last)) [] = true := by simpa using hord
  have htm := tm_eq hpl hto hord2 hpast2 hrest
  obtain ⟨hcl2, hlt2⟩ := past_closed hord2
  have hid3 : idOf ops sF g.act = none := by
    unfold idOf
    cases dstAt ops g.act with
    | none => rfl
    | some d => simp [hk3]
  refine ⟨?_, List.nodup_cons.2 ⟨hr.out, inv.nd⟩, ?_, ?_, sr, inv.st.trans st, ?_, ?_, ?_, ?_⟩
  · intro j hj; rcases List.mem_cons.1 hj with rfl | hj
    · exact hil
    · exact inv.lt j hj
  · intro j hj u hb
    rcases List.mem_cons.1 hj with rfl | hj
    · exact List.mem_cons_of_mem _ (hr.rdy u hb)
    · exact List.mem_cons_of_mem _ (inv.cl j hj u hb)
  · intro j hj; rcases List.mem_cons.1 hj with rfl | hj
    · simp
    · simp [inv.sub j hj]
  · intro i hi hS' A hA
    have hiS : i ∉ S := fun hm => hS' (List.mem_cons_of_mem _ hm)
    have hip : i ∈ past := by
      rcases List.mem_append.1 hi with h | h
      · exact h
      · simp at h; subst h; exact absurd (List.mem_cons_self) hS'
    have hdn : i ∈ done := (hp.cover i hip).resolve_left (fun h => hiS (hS i h))
    have f := inv.facts i hip hiS A hA
    rcases hdone i hdn with h | h | h
    · exact absurd (hr.rdy i h) hiS
    · exact f.pure0 h
    · have hki : kindAt ops i = 0 ∨ kindAt ops i = 1 ∨ kindAt ops i = 2 := by
        have hq := hp.quiet i hdn
        have := hlt2 i hi
        rw [kindAt_eq (Array.getElem?_eq_getElem this)] at hq ⊢
        rcases kind_le (ops[i]).op with k | k | k | k
        · exact .inl k
        · exact .inr (.inl k)
        · exact .inr (.inr k)
        · exact absurd k hq
      rcases hki with hk0 | hk12
      · exact f.pure0 hk0
      · refine f.again (List.all_eq_true.1 hag i h) hk12 (fun t ht => ?_) (fun d hd => ?_) st.next
        · rw [htm t]
          exact agree_done hto (hlt2 i hi) hk12 hcl2 hlt2 hi hA t ht
        · rw [htm d]; exact hyb_in hi hd
  · intro i hi id hid
    rcases List.mem_append.1 hi with h | h
    · have := inv.idn i h id hid; have := st.next; omega
    · simp at h; subst h; rw [hid3] at hid; cases hid
  · intro i hi j hj id hid hjd
    rcases List.mem_append.1 hi with h | h
    · rcases List.mem_append.1 hj with h' | h'
      · exact inv.idd i h j h' id hid hjd
      · simp at h'; subst h'; rw [hid3] at hjd; cases hjd
    · simp at h; subst h; rw [hid3] at hid; cases hid
  · intro i hi hS' id hid
    rcases List.mem_append.1 hi with h | h
    · rw [st.keep id (inv.idn i h id hid).2]
      exact inv.idu i h (fun hm => hS' (List.mem_cons_of_mem _ hm)) id hid
    · simp at h; subst h; rw [hid3] at hid; cases hid

theorem finish (hpl : ops.all (fun o => plainOp o.op) = true) {order : List Nat} (hord : ordOk ops pre order [] = true) {segs : List Seg} {last acts done past : List Nat} {s1 : ASt} {S : List Nat} {κ : Kap} {a : Act} {w : World}
    (hp : AtPos P rec ops pre s0 sF order segs last acts done past s1) (hsg : ∀ g ∈ segs, g.act ∉ S) (inv : Inv P ops pre s0 sF κ0 w0 past s1.h S κ a w) (full : ∀ i, i < ops.size → i ∈ S) :
    Post P κ0 s0.h w0 .normal sF .normal a w := by
  have hlt : ∀ i ∈ order, i < ops.size := (past_closed (past := order) (rest := []) (by simpa using hord)).2
  cases segs with
  | cons g r =>
    exfalso
    obtain ⟨heq, _⟩ := hp.pos
    exact hsg g (by simp) (full g.act (hlt g.act (by rw [← heq]; simp)))
  | nil =>
    obtain ⟨rfl, rfl⟩ := hp.pos
    obtain ⟨k1, k2, k3⟩ := run_keep hpl hp.run
    refine ⟨κ, trivial, ⟨fun t => ?_, ?_, inv.sr.w, ?_⟩, inv.st⟩
    · have h1 := inv.sr.tm t
      simp only [stA] at h1
      by_cases hw : ∃ i ∈ S, dstAt ops i = some t
      · obtain ⟨i, hi, hd⟩ := hw
        rw [hyb_in hi hd] at h1
        exact h1
      · rw [hyb_out fun i hi hd => hw ⟨i, hi, hd⟩] at h1
        rw [k3 t fun i hi hd => hw ⟨i, full i (hlt i hi), hd⟩]
        exact h1
    · rw [k1]; exact inv.sr.nt
    · rw [k2]; exact inv.sr.df

theorem any_sim (hrec : RecOk P rec) (hpl : ops.all (fun o => plainOp o.op) = true) (hto : tempsOk ops pre = true) (hpre : preOk ops pre = true) {order : List Nat} (hord : ordOk ops pre order [] = true)
    (hall : ∀ i, i < ops.size → i ∈ order) : ∀ (fuel : Nat) (segs : List Seg) (last acts done past : List Nat) (s1 : ASt) (S : List Nat) (κ : Kap) (a : Act) (w : World) (listed : Array Bool),
    AtPos P rec ops pre s0 sF order segs last acts done past s1 → (∀ e ∈ acts, e ∈ S) → (∀ g ∈ segs, g.act ∉ S) → Inv P ops pre s0 sF κ0 w0 past s1.h S κ a w →
    listed.size = ops.size → (∀ j, j < ops.size → (listed.getD j false = true ↔ j ∈ S)) → ops.size ≤ fuel + S.length →
    wpAny P .any ops (Post P κ0 s0.h w0 .normal sF) fuel listed a w := by
  intro fuel
  have getTF : ∀ (listed : Array Bool) (j : Nat), j < listed.size → listed.getD j true = listed.getD j false := by
    intro listed j hj; simp [hj]
  have getOut : ∀ (listed : Array Bool) (j : Nat), listed.getD j false = true → j < listed.size := by
    intro listed j h
    rcases Nat.lt_or_ge j listed.size with h' | h'
    · exact h'
    · simp [Array.getElem?_eq_none h'] at h
  induction fuel with
  | zero =>
    intro segs last acts done past s1 S κ a w listed hp hS hsg inv hsz hli hfu
    have full : ∀ i, i < ops.size → i ∈ S := by
      intro i hi
      by_cases hm : i ∈ S
      · exact hm
      · have := nodup_le ops.size (i :: S) (List.nodup_cons.2 ⟨hm, inv.nd⟩) (fun j hj => by
          rcases List.mem_cons.1 hj with rfl | hj
          · exact hi
          · exact inv.lt j hj)
        simp at this; omega
    refine ⟨?_, finish hpl hord hp hsg inv full⟩
    apply List.eq_nil_iff_forall_not_mem.2
    intro j hj
    obtain ⟨h0, o, ho, _⟩ := mem_ready.1 hj
    have hjl : j < ops.size := (Array.getElem?_eq_some_iff.1 ho).1
    rw [getTF listed j (by omega)] at h0
    rw [(hli j hjl).2 (full j hjl)] at h0
    cases h0
  | succ fuel ih =>
    intro segs last acts done past s1 S κ a w listed hp hS hsg inv hsz hli hfu
    refine ⟨fun hnil => ?_, fun i hi => ?_⟩
    · refine finish hpl hord hp hsg inv ?_
      intro i
      induction i using Nat.strongRecOn with
      | _ i ihi =>
        intro hil
        by_cases hm : i ∈ S
        · exact hm
        · exfalso
          have : i ∈ Region.ready .any ops listed := by
            refine mem_ready.2 ⟨?_, ops[i], Array.getElem?_eq_getElem hil, ?_⟩
            · rw [getTF listed i (by omega)]
              cases hq : listed.getD i false with
              | false => rfl
              | true => exact absurd ((hli i hil).1 hq) hm
            · intro e he hb
              have hd : e.on ∈ directOf ops i := by
                simp only [directOf, Array.getElem?_eq_getElem hil, List.mem_map, List.mem_filter]
                exact ⟨e, ⟨by simpa using he, hb⟩, rfl⟩
              have hlt := (direct_before hpre hil hd).1
              exact (hli e.on (by omega)).2 (ihi e.on hlt (by omega))
          rw [hnil] at this
          cases this
    · obtain ⟨h0, o, ho, hed⟩ := mem_ready.1 hi
      have hil : i < ops.size := (Array.getElem?_eq_some_iff.1 ho).1
      rw [getTF listed i (by omega)] at h0
      have hiS : i ∉ S := fun hm => by rw [(hli i hil).2 hm] at h0; cases h0
      have hdir : ∀ u ∈ directOf ops i, u ∈ S := by
        intro u hu
        simp only [directOf, ho, List.mem_map, List.mem_filter] at hu
        obtain ⟨e, ⟨he, hb⟩, rfl⟩ := hu
        have h1 := hed e (by simpa using he) hb
        have h2 := getOut listed e.on h1
        exact (hli e.on (by omega)).1 h1
      have hr : Rdy ops pre S i := by
        refine ⟨inv.cl, inv.lt, hiS, fun u hu => ?_⟩
        have h1 := mem_range_of hpre hil
        simp only [Bool.and_eq_true, List.all_eq_true] at h1
        have hu' : u ∈ pre.getD i [] := by simpa [before] using hu
        have h2 := h1.2 u hu'
        simp only [Bool.or_eq_true, List.contains_eq_mem, decide_eq_true_eq, List.any_eq_true] at h2
        rcases h2 with h2 | ⟨x, hx, hb⟩
        · exact hdir u h2
        · exact inv.cl x (hdir x hx) u hb
      have hsz' : (listed.setIfInBounds i true).size = ops.size := by simpa using hsz
      have hli' : ∀ j, j < ops.size → ((listed.setIfInBounds i true).getD j false = true ↔ j ∈ i :: S) := by
        intro j hj
        rcases Nat.decEq j i with h | h
        · rw [getD_set_ne false (fun e => h e.symm), hli j hj]
          simp [h]
        · subst h
          simp [hsz, hil]
      by_cases hip : i ∈ past
      · refine past_wp hrec inv hip hr hil fun κ' a' w' inv' => ?_
        refine ih segs last acts done past s1 (i :: S) κ' a' w' _ hp (fun e he => List.mem_cons_of_mem _ (hS e he)) ?_ inv' hsz' hli' (by simp; omega)
        intro g hg hm
        rcases List.mem_cons.1 hm with h | h
        · -- what acts has not been taken by the plan
          cases segs with
          | nil => cases hg
          | cons g0 r =>
            obtain ⟨heq, _⟩ := hp.pos
            have hnd := ord_nodup _ _ (heq ▸ hord)
            have hin : g.act ∈ g0.act :: (flat r ++ last) := by
              rcases List.mem_cons.1 hg with rfl | hg
              · simp
              · refine List.mem_cons_of_mem _ (List.mem_append_left _ ?_)
                exact List.mem_flatMap.2 ⟨g, hg, by simp⟩
            rw [h] at hin
            exact (List.nodup_append.1 hnd).2.2 i hip i hin rfl
        · exact hsg g hg h
      · cases segs with
        | nil =>
          exfalso
          obtain ⟨heq, _⟩ := hp.pos
          exact hip (heq ▸ hall i hil)
        | cons g r =>
          have hpos := hp.pos
          obtain ⟨heq, ⟨s2, h2, hag, h3⟩, hk3, hact, hdone, hseg⟩ := hpos
          have hin : i ∈ past ++ g.act :: (flat r ++ last) := heq ▸ hall i hil
          rcases List.mem_append.1 hin with h | h
          · exact absurd h hip
          rcases List.mem_cons.1 h with h | h
          case inr =>
            exfalso
            rcases later r last acts done g.act hseg i h with hb | ⟨g', hg', hb⟩
            · exact hsg g (by simp) (hr.rdy _ hb)
            · exact hsg g' (by simp [hg']) (hr.rdy _ hb)
          subst h
          have hord' : ordOk ops pre (past ++ g.act :: (flat r ++ last)) [] = true := heq ▸ hord
          have hrest : Run P rec ops (flat r ++ last) s2 sF := run_of_plan r last s2 sF h3
          have hrest1 : Run P rec ops (g.act :: (flat r ++ last)) s1 sF := run_cons.2 ⟨s2, h2, hrest⟩
          have htm := tm_eq hpl hto hord' hp.run hrest1
          have hone := (run_one ho).1 h2
          have hagree : ∀ t ∈ looksAt ops g.act, tget (hyb ops s0 sF S) t = tget s1.tm t := by
            intro t ht
            rw [htm t]
            exact (agree hto hil (past_rdy hord') hr t ht).symm
          obtain ⟨v, hv, hone2⟩ := one_congr (P := P) (rec := rec) ho hagree (allPlain hpl ho) hone (D := s0.defers)
          have hnt : s1.nt = s0.nt := (run_keep hpl hp.run).1
          have hfin : ∀ d, o.dst = some d → tget sF.tm d = v := by
            intro d hd
            rw [← (hv d hd).2]
            refine (run_keep hpl hrest).2.2 d fun j hj hjd => ?_
            have hnd := ord_nodup _ _ hord'
            have hne : j ≠ g.act := by
              intro e; subst e
              have := (List.nodup_append.1 hnd).2.1
              exact (List.nodup_cons.1 this).1 hj
            have hjl : j < ops.size := (past_closed (past := past ++ g.act :: (flat r ++ last)) (rest := []) (by simpa using hord')).2 j (by simp [hj])
            exact (temps_spec hto hil hjl (by rw [dstAt_eq ho]; exact hd) hne).1 hjd
          have hrunA : Run P rec ops [g.act] (stA ops s0 sF S s1.h) (stA ops s0 sF (g.act :: S) s2.h) := by
            refine (run_one ho).2 ?_
            rw [hnt] at hone2
            have e2 : stA ops s0 sF (g.act :: S) s2.h = { tm := (match o.dst with | some d => (hyb ops s0 sF S).set d v | none => hyb ops s0 sF S), h := s2.h, nt := s0.nt, defers := s0.defers } := by
              simp only [stA, hyb_cons g.act S o ho]
              congr 1
              cases hd : o.dst with
              | none => rfl
              | some d => simp only; rw [hfin d hd]
            rw [e2]
            exact hone2
          refine one_wp hrec hrunA inv.sr fun a' w' κ' sr' st' => ?_
          have inv2 := act_inv hpl hto hord hp hS h2 hag h3 inv hr hil sr' st'
          have hpast2 : Run P rec ops (past ++ [g.act]) s0 s2 := run_append.2 ⟨s1, hp.run, h2⟩
          obtain ⟨done', past', s1', hp', inv'⟩ := enter hpl hto hord (acts := g.act :: acts) (done := done) (past := past ++ [g.act]) h3 hseg (by simpa using heq) hpast2
            (by
              intro j hj
              rcases List.mem_append.1 hj with hj | hj
              · rcases hp.cover j hj with h | h
                · exact .inl (by simp [h])
                · exact .inr h
              · simp at hj; exact .inl (by simp [hj]))
            hp.quiet
            (by
              intro j hj
              rcases List.mem_cons.1 hj with rfl | hj
              · simp
              · simp [hp.actsP j hj])
            (by
              intro j hj
              rcases List.mem_cons.1 hj with rfl | hj
              · simp
              · exact List.mem_cons_of_mem _ (hS j hj))
            inv2
          refine ih r last (g.act :: acts) done' past' s1' (g.act :: S) κ' a' w' _ hp' ?_ ?_ inv' hsz' hli' (by simp; omega)
          · intro j hj
            rcases List.mem_cons.1 hj with rfl | hj
            · simp
            · exact List.mem_cons_of_mem _ (hS j hj)
          · intro g' hg' hm
            rcases List.mem_cons.1 hm with h | h
            · have hnd := ord_nodup _ _ hord'
              have := (List.nodup_append.1 hnd).2.1
              refine (List.nodup_cons.1 this).1 ?_
              rw [← h]
              exact List.mem_append_left _ (List.mem_flatMap.2 ⟨g', hg', by simp⟩)
            · exact hsg g' (by simp [hg']) h

theorem adraw_normal {segs : List Seg} {last : List Nat} {s s' : ASt} {ex : AExit} (hq : ∀ i ∈ last, kindAt ops i ≠ 3) (h : adrawRun P rec ops segs last s = some (ex, s')) : ex = .normal := by
  have quiet : ∀ (l : List Nat) (s s' : ASt) (ex : AExit), (∀ i ∈ l, kindAt ops i ≠ 3) → aops P rec ops l s = some (ex, s') → ex = .normal := by
    intro l
    induction l with
    | nil => intro s s' ex _ h; simp [aops] at h; exact h.1.symm
    | cons i l ih =>
      intro s s' ex hk h
      have hi := hk i (by simp)
      have hl := fun j hj => hk j (List.mem_cons_of_mem _ hj)
      simp only [aops] at h
      cases ho : ops[i]? with
      | none => rw [ho] at h; exact ih _ _ _ hl h
      | some o =>
        rw [ho] at h
        rw [kindAt_eq ho] at hi
        simp only at h
        split at h
        · split at h
          · split at h
            · exact ih _ _ _ hl h
            · cases h
          · split at h
            · exact ih _ _ _ hl h
            · cases h
          · rename_i f args hop
            exfalso
            rcases kind_le o.op with k | k | k | k
            · obtain ⟨v2, hv2, _⟩ := pure_form k hop; cases hv2
            · obtain ⟨v2, hv2, _⟩ := read_form k hop; cases hv2
            · obtain ⟨_, _, hv2, _⟩ := made_form k hop; cases hv2
            · exact hi k
          · split at h
            · exact ih _ _ _ hl h
            · cases h
          · rename_i v hop
            exfalso
            rcases kind_le o.op with k | k | k | k
            · obtain ⟨v2, hv2, _⟩ := pure_form k hop; cases hv2
            · obtain ⟨v2, hv2, _⟩ := read_form k hop; cases hv2
            · obtain ⟨_, _, hv2, _⟩ := made_form k hop; cases hv2
            · exact hi k
          · cases h
        · split at h
          · exact ih _ _ _ hl h
          · cases h
        · cases h
  induction segs generalizing s with
  | nil => exact quiet last s s' ex hq h
  | cons g r ih =>
    simp only [adrawRun] at h
    split at h
    · split at h
      · split at h
        · exact ih h
        · cases h
      · cases h
    · cases h

theorem segs_last : ∀ (segs : List Seg) (last acts done : List Nat), segsOk ops pre acts done segs last = true → ∀ i ∈ last, kindAt ops i ≠ 3 := by
  intro segs
  induction segs with
  | nil => intro last acts done h i hi; exact (stageOk_spec h i hi).1
  | cons g r ih =>
    intro last acts done h
    simp only [segsOk, Bool.and_eq_true] at h
    exact ih last _ _ h.2

/-- a region whose order is drawn -/
theorem draw_sim {κ : Kap} (hrec : RecOk P rec) {id : Nat} {s s' : ASt} {ex : AExit} (e : adraw P rec ops s = some (ex, s')) {a : Act} {w : World} (r : SRel P κ s a w) :
    (Code.region id ops true).wp P (Post P κ s.h w ex s') a w := by
  unfold adraw at e
  split at e
  case isFalse => cases e
  rename_i hok
  simp only [Bool.and_eq_true] at hok
  obtain ⟨hd, hm⟩ := hok
  unfold drawOk at hd
  simp only [Bool.and_eq_true] at hd
  obtain ⟨⟨⟨⟨⟨hpre, hord⟩, hcov⟩, hseg⟩, hto⟩, hpl⟩ := hd
  have hnorm := adraw_normal (segs_last _ _ _ _ hseg) e
  subst hnorm
  refine wp_region_any hm ?_
  have hw : WRel κ s.h { w with drawn := w.drawn + 1 } := r.w.drew
  have hst : Stp κ s.h w κ s.h { w with drawn := w.drawn + 1 } := .drew κ s.h w
  have inv0 : Inv P ops (preOf ops) s s' κ w [] s.h [] κ a { w with drawn := w.drawn + 1 } :=
    ⟨by simp, List.nodup_nil, by intro i hi; simp at hi, by simp, ⟨r.tm, r.nt, hw, r.df⟩, hst, by simp, by simp, by simp, by simp⟩
  obtain ⟨done', past', s1, hp, inv⟩ := enter hpl hto hord (acts := []) (done := []) (past := []) e hseg (by simp [Plan.order, flat]) (run_nil.2 rfl) (by simp) (by simp) (by simp) (by simp) inv0
  refine any_sim hrec hpl hto hpre hord (fun i hi => by have := mem_range_of hcov hi; simpa using this) ops.size _ _ [] done' past' s1 [] κ a _ _ hp (by simp) (by simp) inv (by simp) ?_ (by simp)
  intro j hj
  simp [hj]

end
end Go.Aev
