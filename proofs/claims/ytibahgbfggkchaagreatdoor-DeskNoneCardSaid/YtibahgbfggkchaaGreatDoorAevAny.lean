/- Regions whose order is drawn: whatever order the model takes comes to what the plan comes to. -/
import Derived.Test.YtibahgbfggkchaaGreatDoorAevPlan
namespace Go.Aev

section
variable {P : Program} {rec : Rec} {ops : Array Oper} {pre : List (List Nat)} {s0 sF : ASt}

/-- a memory with more blocks -/
structure Grow (h h' : AHeap) : Prop where
  next : h.next ≤ h'.next
  old : ∀ b, b < h.next → h'.get b = h.get b
  dom : ∀ b, h'.next ≤ b → h'.get b = none

theorem Grow.refl {h : AHeap} (hd : ∀ b, h.next ≤ b → h.get b = none) : Grow h h := ⟨Nat.le_refl _, fun _ _ => rfl, hd⟩
theorem Grow.trans {a b c : AHeap} (x : Grow a b) (y : Grow b c) : Grow a c :=
  ⟨Nat.le_trans x.next y.next, fun i hi => (y.old i (Nat.lt_of_lt_of_le hi x.next)).trans (x.old i hi), y.dom⟩
theorem Grow.new {h : AHeap} (hd : ∀ b, h.next ≤ b → h.get b = none) (o : AObj) : Grow h (h.new o) :=
  ⟨by rw [next_new]; omega, fun b hb => by rw [get_new, if_neg (by omega)], fun b hb => by rw [next_new] at hb; rw [get_new, if_neg (by omega)]; exact hd b (by omega)⟩
theorem Grow.mono {h h' : AHeap} (g : Grow h h') (hd : ∀ b, h.next ≤ b → h.get b = none) {b : Nat} {x : AObj} (e : h.get b = some x) : h'.get b = some x := by
  rcases Nat.lt_or_ge b h.next with hl | hl
  · rw [g.old b hl]; exact e
  · rw [hd b hl] at e; cases e

theorem Grow.wrel {κ : Kap} {h h' : AHeap} {w : World} (g : Grow h h') (r : WRel κ h w) : WRel κ h' w ∧ Stp κ h w κ h' w := by
  have low : ∀ b k, κ b = some k → b < h.next := fun b k hk => by
    rcases Nat.lt_or_ge b h.next with hl | hl
    · exact hl
    · rw [r.fresh b hl] at hk; cases hk
  refine ⟨⟨g.dom, fun b hb => r.fresh b (Nat.le_trans g.next hb), r.inb, ?_, ?_⟩, ⟨fun _ _ => rfl, g.next, rfl, rfl, rfl, Nat.le_refl _, fun _ _ _ => rfl, ?_⟩⟩
  · intro b o k hb hk ha
    rw [g.old b (low b k hk)] at hb
    exact r.obj b o k hb hk ha
  · intro b b' o o' k k' hb ho hb' ho' hk hk' he
    rw [g.old b (low b k hk)] at hb
    rw [g.old b' (low b' k' hk')] at hb'
    exact r.inj b b' o o' k k' hb ho hb' ho' hk hk' he
  · intro b o k hb ho hk _
    rw [g.old b (low b k hk)] at hb
    exact ⟨b, o, k, hb, ho, hk, rfl⟩

/-- a block of the model's is found for one that had none -/
theorem WRel.bind {κ : Kap} {h : AHeap} {w : World} (r : WRel κ h w) {id z : Nat} {obj : AObj} {o' : Obj} (hid : id < h.next) (hk : κ id = none) (hg : h.get id = some obj)
    (ho : ORel (Kap.put κ id ⟨w.heap.size, 0, z⟩) ⟨w.heap.size, 0, z⟩ obj o') :
    Ext κ (Kap.put κ id ⟨w.heap.size, 0, z⟩) ∧ WRel (Kap.put κ id ⟨w.heap.size, 0, z⟩) h (w.alloc o') := by
  have hext : Ext κ (Kap.put κ id ⟨w.heap.size, 0, z⟩) := fun b k hb => by
    unfold Kap.put
    split
    · rename_i e; subst e; rw [hk] at hb; cases hb
    · exact hb
  have old : ∀ c k, c ≠ id → Kap.put κ id ⟨w.heap.size, 0, z⟩ c = some k → κ c = some k := fun c k hc hk' => by
    unfold Kap.put at hk'; rwa [if_neg hc] at hk'
  refine ⟨hext, r.dom, ?_, ?_, ?_, ?_⟩
  · intro b hb
    unfold Kap.put; rw [if_neg (by omega)]; exact r.fresh b hb
  · intro b k hb
    by_cases e : b = id
    · subst e; rw [Kap.put_same] at hb; cases hb; simp
    · have := r.inb b k (old b k e hb); simp; omega
  · intro b o k hb hk' ha
    by_cases e : b = id
    · subst e
      rw [Kap.put_same] at hk'; cases hk'
      rw [hg] at hb; cases hb
      exact ⟨o', heap_alloc_eq w o', ho⟩
    · obtain ⟨y, hy, hr⟩ := r.obj b o k hb (old b k e hk') ha
      exact ⟨y, by rw [heap_alloc_lt w o' k.r (r.inb b k (old b k e hk'))]; exact hy, hr.mono hext⟩
  · intro b b' o o2 k k' hb ho1 hb' ho2 hk1 hk2 he
    by_cases e1 : b = id
    · by_cases e2 : b' = id
      · rw [e1, e2]
      · exfalso
        subst e1; rw [Kap.put_same] at hk1; cases hk1
        have := r.inb b' k' (old b' k' e2 hk2)
        simp at he; omega
    · by_cases e2 : b' = id
      · exfalso
        subst e2; rw [Kap.put_same] at hk2; cases hk2
        have := r.inb b k (old b k e1 hk1)
        simp at he; omega
      · exact r.inj b b' o o2 k k' hb ho1 hb' ho2 (old b k e1 hk1) (old b' k' e2 hk2) he

theorem Stp.bind {κ0 κ : Kap} {h0 h : AHeap} {w0 w : World} (s : Stp κ0 h0 w0 κ h w) {id z : Nat} (hid : h0.next ≤ id) (o' : Obj) :
    Stp κ0 h0 w0 (Kap.put κ id ⟨w.heap.size, 0, z⟩) h (w.alloc o') where
  keep := fun b hb => by unfold Kap.put; rw [if_neg (by omega)]; exact s.keep b hb
  next := s.next
  os := s.os
  tape := s.tape
  output := s.output
  size := by have := s.size; simp; omega
  frame := fun r hr hn => by rw [heap_alloc_lt w o' r (by have := s.size; omega)]; exact s.frame r hr hn
  own := fun b o k hb ho hk hlt => by
    by_cases e : b = id
    · subst e; rw [Kap.put_same] at hk; cases hk; have := s.size; simp at hlt; omega
    · unfold Kap.put at hk; rw [if_neg e] at hk; exact s.own b o k hb ho hk hlt

/-! ### what is known of an operation that the plan has done and the model has not -/

def OpFact (P : Program) (ops : Array Oper) (s0 sF : ASt) (i : Nat) (tm : T AVal) (h : AHeap) : Prop :=
  ∃ o, ops[i]? = some o ∧ (∀ d, o.dst = some d → d < s0.nt) ∧
    ((wantedA ops o tm = some false ∧ ∀ d, o.dst = some d → tget sF.tm d = .undef) ∨
     (wantedA ops o tm = some true ∧ ∃ v, (∀ d, o.dst = some d → tget sF.tm d = v) ∧
        ((kindOf o.op ≠ 2 ∧ aop P o (aeval tm) h = some (.val v h)) ∨
         (kindOf o.op = 2 ∧ ∃ (id : Nat) (obj : AObj) (addr : Nat → AVal), (∀ h', aop P o (aeval tm) h' = some (.val (addr h'.next) (h'.new obj))) ∧ v = addr id ∧ blockOf v = some id ∧
            id < h.next ∧ h.get id = some obj))))

noncomputable def idOf (ops : Array Oper) (sF : ASt) (i : Nat) : Option Nat :=
  match dstAt ops i with
  | some d => if kindAt ops i = 2 then blockOf (tget sF.tm d) else none
  | none => none

noncomputable def stA (ops : Array Oper) (s0 sF : ASt) (l : List Nat) (h : AHeap) : ASt := { tm := hyb ops s0 sF l, h := h, nt := s0.nt, defers := s0.defers }

theorem kindAt_eq {i : Nat} {o : Oper} (hi : ops[i]? = some o) : kindAt ops i = kindOf o.op := by simp [kindAt, hi]
theorem dstAt_eq {i : Nat} {o : Oper} (hi : ops[i]? = some o) : dstAt ops i = o.dst := by simp [dstAt, hi]

theorem eval_of_looks {i : Nat} {o : Oper} (hi : ops[i]? = some o) {tm tm' : T AVal} (ht : ∀ t ∈ looksAt ops i, tget tm t = tget tm' t) :
    (∀ h, aop P o (aeval tm) h = aop P o (aeval tm') h) ∧ wantedA ops o tm = wantedA ops o tm' := by
  have hl : looksAt ops i = o.looksAt ops := by simp [looksAt, hi]
  rw [hl] at ht
  refine ⟨fun h => aop_congr fun x hx => ?_, ?_⟩
  · cases x with
    | tmp t =>
      refine ht t ?_
      unfold Oper.looksAt
      exact List.mem_append_left _ (List.mem_filterMap.2 ⟨.tmp t, by simpa using hx, rfl⟩)
    | _ => rfl
  · unfold wantedA
    cases hg : o.guard with
    | none => rfl
    | some jw =>
      obtain ⟨j, want⟩ := jw
      simp only
      cases hd : (ops[j]?).bind (·.dst) with
      | none => rfl
      | some t =>
        have : tget tm t = tget tm' t := ht t (by unfold Oper.looksAt; rw [hg]; simp [hd])
        simp only [this]

theorem OpFact.congr {i : Nat} {tm tm' : T AVal} {h : AHeap} (ht : ∀ t ∈ looksAt ops i, tget tm t = tget tm' t) (f : OpFact P ops s0 sF i tm h) : OpFact P ops s0 sF i tm' h := by
  obtain ⟨o, hi, hlt, f⟩ := f
  obtain ⟨h1, h2⟩ := eval_of_looks (P := P) hi ht
  refine ⟨o, hi, hlt, ?_⟩
  rw [← h2]
  simp only [← h1]
  exact f

theorem kind_le (op : Op) : kindOf op = 0 ∨ kindOf op = 1 ∨ kindOf op = 2 ∨ kindOf op = 3 := by
  unfold kindOf; split <;> simp

theorem OpFact.grow {i : Nat} {tm : T AVal} {h h' : AHeap} (g : Grow h h') (hd : ∀ b, h.next ≤ b → h.get b = none) (hk : kindAt ops i ≠ 3) (f : OpFact P ops s0 sF i tm h) : OpFact P ops s0 sF i tm h' := by
  obtain ⟨o, hi, hlt, f⟩ := f
  rw [kindAt_eq hi] at hk
  refine ⟨o, hi, hlt, ?_⟩
  rcases f with f | ⟨hw, v, hv, f⟩
  · exact .inl f
  · refine .inr ⟨hw, v, hv, ?_⟩
    rcases f with ⟨h2, ha⟩ | ⟨h2, id, obj, addr, a, b, c, d, e⟩
    · refine .inl ⟨h2, ?_⟩
      have hk01 : kindOf o.op = 0 ∨ kindOf o.op = 1 := by
        rcases kind_le o.op with k | k | k | k
        · exact .inl k
        · exact .inr k
        · exact absurd k h2
        · exact absurd k hk
      rcases hk01 with hk0 | hk1
      · obtain ⟨v2, hv2, hall⟩ := pure_form hk0 ha
        cases hv2; exact hall h'
      · obtain ⟨v2, hv2, hall⟩ := read_form hk1 ha
        cases hv2; exact hall h' fun b x hb => g.mono hd hb
    · exact .inr ⟨h2, id, obj, addr, a, b, c, Nat.lt_of_lt_of_le d g.next, g.mono hd e⟩

/-- the plan's own step at a quiet operation -/
theorem quiet_step (hpl : ops.all (fun o => plainOp o.op) = true) (hto : tempsOk ops pre = true) {past rest : List Nat} {i : Nat} {s s' : ASt}
    (hord : ordOk ops pre (past ++ i :: rest) [] = true) (h1 : Run P rec ops past s0 s) (h2 : Run P rec ops [i] s s') (h3 : Run P rec ops rest s' sF)
    (hd : ∀ b, s.h.next ≤ b → s.h.get b = none) (hk : kindAt ops i ≠ 3) :
    Grow s.h s'.h ∧ (∀ A, Rdy ops pre A i → OpFact P ops s0 sF i (hyb ops s0 sF A) s'.h) ∧ (∀ id, idOf ops sF i = some id → s.h.next ≤ id ∧ id < s'.h.next) := by
  have hrun2 : Run P rec ops (i :: rest) s sF := run_cons.2 ⟨s', h2, h3⟩
  have htm := tm_eq hpl hto hord h1 hrun2
  have hpr := past_rdy hord
  have hil : i < ops.size := (ord_split past i rest [] hord).1
  obtain ⟨o, hi⟩ : ∃ o, ops[i]? = some o := ⟨ops[i], Array.getElem?_eq_getElem hil⟩
  have hone := (run_one hi).1 h2
  have hkd := kindAt_eq hi
  rw [hkd] at hk
  -- the final value of the own temporary
  have hfin : ∀ d, o.dst = some d → tget sF.tm d = tget s'.tm d := by
    intro d hdd
    refine (run_keep hpl h3).2.2 d fun j hj hjd => ?_
    have hnd := ord_nodup _ _ hord
    have hne : j ≠ i := by
      intro e; subst e
      have := (List.nodup_append.1 hnd).2.1
      exact (List.nodup_cons.1 this).1 hj
    have hjl : j < ops.size := (past_closed (past := past ++ i :: rest) (rest := []) (by simpa using hord)).2 j (by simp [hj])
    exact (temps_spec hto hil hjl (by rw [dstAt_eq hi]; exact hdd) hne).1 hjd
  -- seen from any state that is ready
  have hsee : ∀ A, Rdy ops pre A i → (∀ h, aop P o (aeval s.tm) h = aop P o (aeval (hyb ops s0 sF A)) h) ∧ wantedA ops o s.tm = wantedA ops o (hyb ops s0 sF A) := by
    intro A hA
    refine eval_of_looks hi fun t ht => ?_
    rw [htm t]
    exact agree hto hil hpr hA t ht
  have hnt : s.nt = s0.nt := (run_keep hpl h1).1
  have setv : ∀ (v : AVal) (d : Tmp), o.dst = some d → tget (match o.dst with | some d => s.tm.set d v | none => s.tm) d = v := by
    intro v d hdd; rw [hdd]; simp [tget_set]
  have idk : ∀ id, idOf ops sF i = some id → kindOf o.op = 2 ∧ ∃ d, o.dst = some d ∧ blockOf (tget sF.tm d) = some id := by
    intro id hid
    unfold idOf at hid
    rw [dstAt_eq hi] at hid
    cases hdd : o.dst with
    | none => rw [hdd] at hid; cases hid
    | some d =>
      rw [hdd] at hid
      simp only at hid
      split at hid
      · rename_i hk2; rw [hkd] at hk2; exact ⟨hk2, d, rfl, hid⟩
      · cases hid
  cases hone with
  | not hw hp =>
    obtain ⟨hlt, rfl⟩ := put_spec.1 hp
    refine ⟨.refl hd, fun A hA => ⟨o, hi, fun d hdd => hnt ▸ hlt d hdd, .inl ⟨by rw [← (hsee A hA).2]; exact hw, fun d hdd => by rw [hfin d hdd]; exact setv _ d hdd⟩⟩, fun id hid => ?_⟩
    obtain ⟨_, d, hdd, hb⟩ := idk id hid
    have hq : tget sF.tm d = AVal.undef := (hfin d hdd).trans (setv .undef d hdd)
    rw [hq] at hb
    cases hb
  | val hw ha hp =>
    rename_i v h
    obtain ⟨hlt, rfl⟩ := put_spec.1 hp
    by_cases hk2 : kindOf o.op = 2
    · obtain ⟨obj, addr, hres, hall, hblk, _⟩ := made_form hk2 ha
      cases hres
      have hg := Grow.new hd obj
      refine ⟨hg, fun A hA => ⟨o, hi, fun d hdd => hnt ▸ hlt d hdd, .inr ⟨by rw [← (hsee A hA).2]; exact hw, addr s.h.next, fun d hdd => by rw [hfin d hdd]; exact setv _ d hdd,
        .inr ⟨hk2, s.h.next, obj, addr, fun h' => by rw [← (hsee A hA).1]; exact hall h', rfl, hblk _, by rw [next_new]; omega, by rw [get_new, if_pos rfl]⟩⟩⟩, fun id hid => ?_⟩
      obtain ⟨_, d, hdd, hb⟩ := idk id hid
      have hq : tget sF.tm d = addr s.h.next := (hfin d hdd).trans (setv _ d hdd)
      rw [hq, hblk] at hb
      cases hb
      rw [next_new]
      exact ⟨Nat.le_refl _, Nat.lt_succ_self _⟩
    · have hsame : h = s.h ∧ ∀ h', aop P o (aeval s.tm) h' = some (.val v h') ∨ h' = h' := ⟨by
          rcases kind_le o.op with k | k | k | k
          · obtain ⟨v2, hv2, _⟩ := pure_form k ha; cases hv2; rfl
          · obtain ⟨v2, hv2, _⟩ := read_form k ha; cases hv2; rfl
          · exact absurd k hk2
          · exact absurd k hk, fun _ => .inr rfl⟩
      obtain ⟨rfl, _⟩ := hsame
      refine ⟨.refl hd, fun A hA => ⟨o, hi, fun d hdd => hnt ▸ hlt d hdd, .inr ⟨by rw [← (hsee A hA).2]; exact hw, v, fun d hdd => by rw [hfin d hdd]; exact setv _ d hdd,
        .inl ⟨hk2, by rw [← (hsee A hA).1]; exact ha⟩⟩⟩, fun id hid => ?_⟩
      exact absurd (idk id hid).1 hk2
  | skip hw ha hp =>
    exfalso
    rcases kind_le o.op with k | k | k | k
    · obtain ⟨v2, hv2, _⟩ := pure_form k ha; cases hv2
    · obtain ⟨v2, hv2, _⟩ := read_form k ha; cases hv2
    · obtain ⟨_, _, hv2, _⟩ := made_form k ha; cases hv2
    · exact hk k
  | call hw ha hr hp =>
    exfalso
    rcases kind_le o.op with k | k | k | k
    · obtain ⟨v2, hv2, _⟩ := pure_form k ha; cases hv2
    · obtain ⟨v2, hv2, _⟩ := read_form k ha; cases hv2
    · obtain ⟨_, _, hv2, _⟩ := made_form k ha; cases hv2
    · exact hk k
  | defer hw ha hp =>
    exfalso
    rcases kind_le o.op with k | k | k | k
    · obtain ⟨v2, hv2, _⟩ := pure_form k ha; cases hv2
    · obtain ⟨v2, hv2, _⟩ := read_form k ha; cases hv2
    · obtain ⟨_, _, hv2, _⟩ := made_form k ha; cases hv2
    · exact hk k

/-- a stage of quiet operations -/
theorem stage_run (hpl : ops.all (fun o => plainOp o.op) = true) (hto : tempsOk ops pre = true) : ∀ (l past rest : List Nat) (s s' : ASt),
    ordOk ops pre (past ++ (l ++ rest)) [] = true → Run P rec ops past s0 s → Run P rec ops l s s' → Run P rec ops rest s' sF →
    (∀ b, s.h.next ≤ b → s.h.get b = none) → (∀ i ∈ l, kindAt ops i ≠ 3) →
    Grow s.h s'.h ∧ (∀ i ∈ l, ∀ A, Rdy ops pre A i → OpFact P ops s0 sF i (hyb ops s0 sF A) s'.h) ∧
      (∀ i ∈ l, ∀ id, idOf ops sF i = some id → s.h.next ≤ id ∧ id < s'.h.next) ∧
      (∀ i ∈ l, ∀ j ∈ l, ∀ id, idOf ops sF i = some id → idOf ops sF j = some id → i = j) := by
  intro l
  induction l with
  | nil =>
    intro past rest s s' _ _ h2 _ hd _
    rw [run_nil] at h2; subst h2
    exact ⟨.refl hd, by simp, by simp, by simp⟩
  | cons i l ih =>
    intro past rest s s' hord h1 h2 h3 hd hk
    obtain ⟨m, ha, hb⟩ := run_cons.1 h2
    have hrest : Run P rec ops (l ++ rest) m sF := run_append.2 ⟨s', hb, h3⟩
    have hord1 : ordOk ops pre (past ++ i :: (l ++ rest)) [] = true := by simpa using hord
    obtain ⟨g1, f1, d1⟩ := quiet_step hpl hto hord1 h1 ha hrest hd (hk i (by simp))
    have hpast : Run P rec ops (past ++ [i]) s0 m := run_append.2 ⟨s, h1, ha⟩
    obtain ⟨g2, f2, d2, e2⟩ := ih (past ++ [i]) rest m s' (by simpa using hord) hpast hb h3 g1.dom (fun j hj => hk j (by simp [hj]))
    refine ⟨g1.trans g2, ?_, ?_, ?_⟩
    · intro j hj A hA
      rcases List.mem_cons.1 hj with rfl | hj
      · exact (f1 A hA).grow g2 g1.dom (hk j (by simp))
      · exact f2 j hj A hA
    · intro j hj id hid
      rcases List.mem_cons.1 hj with rfl | hj
      · have := d1 id hid; have := g2.next; omega
      · have := d2 j hj id hid; have := g1.next; omega
    · intro j hj j' hj' id hid hid'
      rcases List.mem_cons.1 hj with q | q <;> rcases List.mem_cons.1 hj' with q' | q'
      · rw [q, q']
      · subst q; have a := d1 id hid; have b := d2 j' q' id hid'; omega
      · subst q'; have a := d1 id hid'; have b := d2 j q id hid; omega
      · exact e2 j q j' q' id hid hid'

end
end Go.Aev
