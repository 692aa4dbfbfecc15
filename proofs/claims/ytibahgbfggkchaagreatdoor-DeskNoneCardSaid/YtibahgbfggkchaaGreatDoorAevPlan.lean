/- Regions whose order is drawn: what the plan's checks give. -/
import Derived.Test.YtibahgbfggkchaaGreatDoorAevOrder
namespace Go.Aev

section
variable {P : Program} {rec : Rec} {ops : Array Oper} {pre : List (List Nat)}

theorem mem_range_of {p : Nat → Bool} {n : Nat} (h : (List.range n).all p = true) {i : Nat} (hi : i < n) : p i = true :=
  List.all_eq_true.1 h i (List.mem_range.2 hi)

/-- a set of operations that holds what must come before each of its own -/
def Closed (pre : List (List Nat)) (A : List Nat) : Prop := ∀ i ∈ A, ∀ u, before pre u i = true → u ∈ A

theorem closed_of_direct (hpre : preOk ops pre = true) {A : List Nat} (hA : ∀ i ∈ A, i < ops.size) (hd : ∀ i ∈ A, ∀ u ∈ directOf ops i, u ∈ A) : Closed pre A := by
  have key : ∀ (n i : Nat), i < n → i ∈ A → ∀ u, before pre u i = true → u ∈ A := by
    intro n
    induction n with
    | zero => intro i h; omega
    | succ n ih =>
      intro i hin hi u hu
      have h1 := mem_range_of hpre (hA i hi)
      simp only [Bool.and_eq_true, List.all_eq_true] at h1
      have hu' : u ∈ pre.getD i [] := by simpa [before] using hu
      have h2 := h1.2 u hu'
      simp only [Bool.or_eq_true, List.contains_eq_mem, decide_eq_true_eq, List.any_eq_true] at h2
      rcases h2 with h2 | ⟨x, hx, hb⟩
      · exact hd i hi u h2
      · have h3 := h1.1 x hx
        simp only [decide_eq_true_eq] at h3
        exact ih x (by omega) (hd i hi x hx) u hb
  exact fun i hi u hu => key (i + 1) i (Nat.lt_succ_self i) hi u hu

theorem direct_before (hpre : preOk ops pre = true) {i u : Nat} (hi : i < ops.size) (hu : u ∈ directOf ops i) : u < i ∧ before pre u i = true := by
  have h1 := mem_range_of hpre hi
  simp only [Bool.and_eq_true, List.all_eq_true] at h1
  have := h1.1 u hu
  simpa using this

theorem ord_split : ∀ (l1 : List Nat) (i : Nat) (l2 seen : List Nat), ordOk ops pre (l1 ++ i :: l2) seen = true →
    i < ops.size ∧ i ∉ l1 ∧ i ∉ seen ∧ ∀ u, before pre u i = true → u ∈ l1 ∨ u ∈ seen := by
  intro l1
  induction l1 with
  | nil =>
    intro i l2 seen h
    simp only [List.nil_append, ordOk, Bool.and_eq_true, decide_eq_true_eq, Bool.not_eq_true', List.all_eq_true, List.contains_eq_mem, decide_eq_false_iff_not] at h
    refine ⟨h.1.1.1, by simp, h.1.1.2, fun u hu => .inr ?_⟩
    have hu' : u ∈ pre.getD i [] := by simpa [before] using hu
    simpa using h.1.2 u hu'
  | cons x l1 ih =>
    intro i l2 seen h
    simp only [List.cons_append, ordOk, Bool.and_eq_true] at h
    obtain ⟨a, b, c, d⟩ := ih i l2 (x :: seen) h.2
    simp only [List.mem_cons, not_or] at c
    refine ⟨a, by simp [b, c.1], c.2, fun u hu => ?_⟩
    rcases d u hu with e | e
    · exact .inl (by simp [e])
    · rcases List.mem_cons.1 e with rfl | e
      · exact .inl (by simp)
      · exact .inr e

theorem ord_nodup : ∀ (l seen : List Nat), ordOk ops pre l seen = true → l.Nodup := by
  intro l
  induction l with
  | nil => intro _ _; exact List.nodup_nil
  | cons x l ih =>
    intro seen h
    have h0 := h
    simp only [ordOk, Bool.and_eq_true] at h
    refine List.nodup_cons.2 ⟨fun hm => ?_, ih _ h.2⟩
    obtain ⟨l1, l2, rfl⟩ := List.append_of_mem hm
    exact (ord_split (x :: l1) x l2 seen h0).2.1 (by simp)

/-- what comes first in the plan's order is closed -/
theorem past_closed {past rest : List Nat} (h : ordOk ops pre (past ++ rest) [] = true) : Closed pre past ∧ ∀ i ∈ past, i < ops.size := by
  refine ⟨fun i hi u hu => ?_, fun i hi => ?_⟩
  all_goals
    obtain ⟨l1, l2, rfl⟩ := List.append_of_mem hi
    rw [List.append_assoc, List.cons_append] at h
    obtain ⟨a, b, c, d⟩ := ord_split l1 i _ [] h
  · rcases d u hu with e | e
    · simp [e]
    · simp at e
  · exact a

/-- ready, but not done -/
structure Rdy (ops : Array Oper) (pre : List (List Nat)) (A : List Nat) (i : Nat) : Prop where
  cl : Closed pre A
  lt : ∀ j ∈ A, j < ops.size
  out : i ∉ A
  rdy : ∀ u, before pre u i = true → u ∈ A

theorem past_rdy {past rest : List Nat} {i : Nat} (h : ordOk ops pre (past ++ i :: rest) [] = true) : Rdy ops pre past i := by
  obtain ⟨a, b, c, d⟩ := ord_split past i rest [] h
  obtain ⟨e, f⟩ := past_closed h
  exact ⟨e, f, b, fun u hu => (d u hu).resolve_right (by simp)⟩

/-- the temporaries where the operations of a list are done -/
noncomputable def hyb (ops : Array Oper) (s0 sF : ASt) : List Nat → T AVal
  | [] => s0.tm
  | i :: l => match dstAt ops i with
    | some d => (hyb ops s0 sF l).set d (tget sF.tm d)
    | none => hyb ops s0 sF l

theorem hyb_in {s0 sF : ASt} {l : List Nat} {i : Nat} {d : Tmp} (hi : i ∈ l) (hd : dstAt ops i = some d) : tget (hyb ops s0 sF l) d = tget sF.tm d := by
  induction l with
  | nil => cases hi
  | cons x l ih =>
    simp only [hyb]
    rcases List.mem_cons.1 hi with rfl | hi
    · rw [hd]; simp [tget_set]
    · cases hx : dstAt ops x with
      | none => exact ih hi
      | some e =>
        simp only [tget_set]
        split
        · rename_i he; rw [he]
        · exact ih hi

theorem hyb_out {s0 sF : ASt} {l : List Nat} {d : Tmp} (h : ∀ i ∈ l, dstAt ops i ≠ some d) : tget (hyb ops s0 sF l) d = tget s0.tm d := by
  induction l with
  | nil => rfl
  | cons x l ih =>
    simp only [hyb]
    have hx := h x (by simp)
    cases hq : dstAt ops x with
    | none => exact ih fun i hi => h i (by simp [hi])
    | some e =>
      simp only [tget_set]
      rw [if_neg]
      · exact ih fun i hi => h i (by simp [hi])
      · intro he; subst he; exact hx hq

theorem temps_spec (ht : tempsOk ops pre = true) {w i : Nat} {d : Tmp} (hw : w < ops.size) (hi : i < ops.size) (hd : dstAt ops w = some d) (hne : i ≠ w) :
    dstAt ops i ≠ some d ∧ (d ∈ looksAt ops i → before pre w i = true ∨ (kindAt ops i ≠ 1 ∧ kindAt ops i ≠ 2 ∧ before pre i w = true)) := by
  have h1 := mem_range_of ht hw
  rw [hd] at h1
  simp only [Bool.and_eq_true] at h1
  have h2 := mem_range_of h1.2 hi
  have hne' : (i == w) = false := by simpa using hne
  simp only [hne', Bool.false_or, Bool.and_eq_true, bne_iff_ne, ne_eq, Bool.or_eq_true, Bool.not_eq_true', List.contains_eq_mem, decide_eq_false_iff_not] at h2
  refine ⟨h2.1, fun hl => ?_⟩
  rcases h2.2 with (h3 | h3) | h3
  · exact absurd hl h3
  · exact .inl h3
  · exact .inr ⟨h3.1.1, h3.1.2, h3.2⟩

theorem temps_own (ht : tempsOk ops pre = true) {w : Nat} (hw : w < ops.size) (hk : kindAt ops w = 1 ∨ kindAt ops w = 2) : ∃ d, dstAt ops w = some d ∧ d ∉ looksAt ops w := by
  have h1 := mem_range_of ht hw
  cases hd : dstAt ops w with
  | none =>
    rw [hd] at h1
    simp only [Bool.and_eq_true, bne_iff_ne, ne_eq] at h1
    rcases hk with hk | hk
    · exact absurd hk h1.1
    · exact absurd hk h1.2
  | some d =>
    rw [hd] at h1
    simp only [Bool.and_eq_true, Bool.or_eq_true, bne_iff_ne, ne_eq, Bool.not_eq_true', List.contains_eq_mem, decide_eq_false_iff_not] at h1
    refine ⟨d, rfl, ?_⟩
    rcases h1.1 with h2 | h2
    · rcases hk with hk | hk
      · exact absurd hk h2.1
      · exact absurd hk h2.2
    · exact h2

/-- ready here and ready there: it sees the same -/
theorem agree {s0 sF : ASt} (ht : tempsOk ops pre = true) {A B : List Nat} {i : Nat} (hi : i < ops.size) (a : Rdy ops pre A i) (b : Rdy ops pre B i) :
    ∀ t ∈ looksAt ops i, tget (hyb ops s0 sF A) t = tget (hyb ops s0 sF B) t := by
  intro t hl
  by_cases hw : ∃ w, w < ops.size ∧ dstAt ops w = some t
  · obtain ⟨w, hwl, hwd⟩ := hw
    have only : ∀ j, j < ops.size → dstAt ops j = some t → j = w := by
      intro j hj hjd
      rcases Nat.decEq j w with h | h
      · exact absurd hjd (temps_spec ht hwl hj hwd h).1
      · exact h
    have outs : ∀ C : List Nat, (∀ j ∈ C, j < ops.size) → w ∉ C → tget (hyb ops s0 sF C) t = tget s0.tm t := by
      intro C hC hwC
      refine hyb_out fun j hj hjd => ?_
      have := only j (hC j hj) hjd
      subst this; exact hwC hj
    rcases Nat.decEq i w with h | h
    · rcases (temps_spec ht hwl hi hwd h).2 hl with h2 | ⟨_, _, h2⟩
      · rw [hyb_in (a.rdy w h2) hwd, hyb_in (b.rdy w h2) hwd]
      · rw [outs A a.lt (fun hm => a.out (a.cl w hm i h2)), outs B b.lt (fun hm => b.out (b.cl w hm i h2))]
    · subst h
      rw [outs A a.lt a.out, outs B b.lt b.out]
  · have no : ∀ C : List Nat, (∀ j ∈ C, j < ops.size) → tget (hyb ops s0 sF C) t = tget s0.tm t := fun C hC => hyb_out fun j hj hjd => hw ⟨j, hC j hj, hjd⟩
    rw [no A a.lt, no B b.lt]

/-- a reading that is done sees what it saw -/
theorem agree_done {s0 sF : ASt} (ht : tempsOk ops pre = true) {A B : List Nat} {i : Nat} (hi : i < ops.size) (hk : kindAt ops i = 1 ∨ kindAt ops i = 2)
    (hA : Closed pre A) (hAl : ∀ j ∈ A, j < ops.size) (hiA : i ∈ A) (b : Rdy ops pre B i) :
    ∀ t ∈ looksAt ops i, tget (hyb ops s0 sF A) t = tget (hyb ops s0 sF B) t := by
  intro t hl
  by_cases hw : ∃ w, w < ops.size ∧ dstAt ops w = some t
  · obtain ⟨w, hwl, hwd⟩ := hw
    rcases Nat.decEq i w with h | h
    · rcases (temps_spec ht hwl hi hwd h).2 hl with h2 | ⟨h3, h4, _⟩
      · rw [hyb_in (hA i hiA w h2) hwd, hyb_in (b.rdy w h2) hwd]
      · rcases hk with hk | hk
        · exact absurd hk h3
        · exact absurd hk h4
    · subst h
      obtain ⟨d, hd, hno⟩ := temps_own ht hi hk
      rw [hwd] at hd; cases hd
      exact absurd hl hno
  · have no : ∀ C : List Nat, (∀ j ∈ C, j < ops.size) → tget (hyb ops s0 sF C) t = tget s0.tm t := fun C hC => hyb_out fun j hj hjd => hw ⟨j, hC j hj, hjd⟩
    rw [no A hAl, no B b.lt]

/-- in the plan's own order the temporaries are as 'hyb' says -/
theorem tm_eq {s0 sF : ASt} (hpl : ops.all (fun o => plainOp o.op) = true) (ht : tempsOk ops pre = true) {past rest : List Nat} (ho : ordOk ops pre (past ++ rest) [] = true) {s : ASt}
    (h1 : Run P rec ops past s0 s) (h2 : Run P rec ops rest s sF) : ∀ t, tget s.tm t = tget (hyb ops s0 sF past) t := by
  intro t
  have hlt : ∀ i ∈ past ++ rest, i < ops.size := by
    have : ordOk ops pre ((past ++ rest) ++ []) [] = true := by simpa using ho
    exact (past_closed this).2
  by_cases hw : ∃ w ∈ past, dstAt ops w = some t
  · obtain ⟨w, hwp, hwd⟩ := hw
    rw [hyb_in hwp hwd]
    refine ((run_keep hpl h2).2.2 t fun j hj hjd => ?_).symm
    have hne : j ≠ w := by
      intro e; subst e
      have := ord_nodup _ _ ho
      exact (List.nodup_append.1 this).2.2 j hwp j hj rfl
    exact (temps_spec ht (hlt w (by simp [hwp])) (hlt j (by simp [hj])) hwd hne).1 hjd
  · have hn : ∀ i ∈ past, dstAt ops i ≠ some t := fun i hi hd => hw ⟨i, hi, hd⟩
    rw [hyb_out hn, (run_keep hpl h1).2.2 t hn]

end
end Go.Aev
