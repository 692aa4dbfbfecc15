/- Each operation of the model comes to what the abstract one comes to: first the laws on memory. -/
import Derived.Test.YtibahgbfggkchaaGreatDoorAevRel
import Derived.Laws.AppendOwn
import Derived.Laws.MakeOwn
import Derived.Laws.StructEq
namespace Go.Aev

section
variable {P : Program} {κ : Kap} {h : AHeap} {w : World}

theorem run_sz {t : TypeId} {n : Nat} (e : szD P t = some n) (w : World) : (sizeOf t).run P w = .ok n w := by
  unfold szD at e
  cases hi : P.info? t with
  | none => simp [hi] at e
  | some i => simp [hi] at e; subst e; simp [sizeOf, typeInfo, hi]

theorem run_agg {t : TypeId} {g : Bool} (e : aggD P t = some g) (w : World) : (isAgg t).run P w = .ok g w := by
  unfold aggD at e
  cases hu : P.underlying t with
  | none => simp [hu] at e
  | some d =>
    rw [hu] at e
    cases d <;> simp at e <;> subst e <;> simp [isAgg, run_underlying hu]

theorem info_of_sz {t : TypeId} {n : Nat} (e : szD P t = some n) : ∃ i, P.info? t = some i ∧ i.size = n := by
  unfold szD at e
  cases hi : P.info? t with
  | none => simp [hi] at e
  | some i => simp [hi] at e; exact ⟨i, rfl, e⟩

theorem run_zero {t : TypeId} {z : AVal} (e : zeroD P t = some z) : ∃ (i : TypeInfo) (v : Value), P.info? t = some i ∧ i.zero = some v ∧ z = AVal.of v ∧ ∀ w, (zeroValue t).run P w = .ok v w := by
  unfold zeroD at e
  cases hi : P.info? t with
  | none => simp [hi] at e
  | some i =>
    cases hz : i.zero with
    | none => simp [hi, hz] at e
    | some v =>
      simp [hi, hz] at e
      exact ⟨i, v, rfl, hz, e.symm, fun w => by simp [zeroValue, typeInfo, hi, hz]⟩

theorem plain_ofOne (v : Value) (h : ∀ cs, v ≠ .agg cs) (h' : ∀ cs, v ≠ .tuple cs) : (AVal.ofOne v).plain = true := by
  cases v <;> try rfl
  case pointer a => cases a <;> rfl
  case slice a n c =>
    cases a with
    | some a => rfl
    | none => cases n with
      | succ n => rfl
      | zero => cases c <;> rfl
  case map r => cases r <;> rfl
  case agg cs => exact absurd rfl (h cs)
  case tuple cs => exact absurd rfl (h' cs)

theorem plain_of (v : Value) : (AVal.of v).plain = true := by
  cases v <;> try (unfold AVal.of; exact plain_ofOne _ (by simp) (by simp))
  case agg cs => rfl
  case tuple cs => rfl
  case iface t v => cases v <;> rfl

theorem cellsRel {κ : Kap} {a : AVal} {v : Value} (hr : VRel κ a v) (hp : a.plain = true) : VRels κ a.cells v.cells.toList := by
  cases hr with
  | other u h =>
    simp only [AVal.plain] at hp
    have h' := h hp
    cases v <;> first
      | (simp [Value.oneCell] at h'; done)
      | (simp only [AVal.cells, Value.cells]; exact .single (.other _ h))
  | agg h => simpa [AVal.cells, Value.cells] using h
  | bool b => exact .single (.bool b)
  | int k n => exact .single (.int k n)
  | float k b => exact .single (.float k b)
  | str s => exact .single (.str s)
  | nilp => exact .single .nilp
  | ptr h => exact .single (.ptr h)
  | nilsl => exact .single .nilsl
  | sl h a b c d => exact .single (.sl h a b c d)
  | slz => exact .single .slz
  | nilmap => exact .single .nilmap
  | map h => exact .single (.map h)
  | fn h1 h2 => exact .single (.fn h1 h2)
  | nilfn => exact .single .nilfn
  | ifc h => exact .single (.ifc h)
  | nilifc => exact .single .nilifc
  | tup h => exact .single (.tup h)

theorem oneCell_eq (v : Value) : v.oneCell' = v.oneCell := by cases v <;> rfl

theorem VRels.allOne {l : List AVal} {l' : List Value} (hr : VRels κ l l') (ho : l.all AVal.one = true) : ∀ v ∈ l', v.oneCell' = true := by
  induction l generalizing l' with
  | nil => cases hr; simp
  | cons a l ih =>
    cases hr with
    | cons h t =>
      simp at ho
      intro v hv
      rcases List.mem_cons.1 hv with rfl | hv
      · rw [oneCell_eq]; exact h.one ho.1
      · exact ih t (by simpa using ho.2) v hv

/-! ### reading cells -/

/-- the block behind an abstract row of cells -/
structure Row (κ : Kap) (w : World) (k : Blk) (l : List AVal) (rw : Bool) (c : Array Value) (t : TypeId) (fr : Nat × Nat) : Prop where
  heap : w.heap[k.r]? = some (.cells c t fr)
  size : c.size = k.e
  fits : k.o + l.length ≤ k.e
  rel : VRels κ l ((c.toList.drop k.o).take l.length)
  wr : rw = true → fr = (0, 0)

theorem WRel.row (r : WRel κ h w) {b : Nat} {l : List AVal} {rw : Bool} {k : Blk} (hb : h.get b = some (.cells l rw)) (hk : κ b = some k) :
    ∃ c t fr, Row κ w k l rw c t fr := by
  obtain ⟨o', ho, hr⟩ := r.obj b _ k hb hk rfl
  cases o' <;> simp only [ORel] at hr
  exact ⟨_, _, _, ⟨ho, hr.1, hr.2.1, hr.2.2.1, hr.2.2.2⟩⟩

theorem add_lit (b o n : Nat) : Addr.add ⟨b, o, none⟩ n = ⟨b, o + n, none⟩ := Addr.add_lit b o n

/-- the cells of a span, as the model holds them -/
def Row.vals {k : Blk} {l : List AVal} (c : Array Value) (off n : Nat) : List Value := ((((c.toList.drop k.o).take l.length).drop off).take n)

theorem span_len {l s : List AVal} {off n : Nat} (e : spanOf l off n = some s) : off + n ≤ l.length ∧ s = (l.drop off).take n ∧ s.length = n := by
  unfold spanOf at e
  split at e
  · rename_i hle
    cases e
    exact ⟨hle, rfl, by simp; omega⟩
  · cases e

theorem Row.cell {k : Blk} {l : List AVal} {rw : Bool} {c : Array Value} {t : TypeId} {fr : Nat × Nat} (R : Row κ w k l rw c t fr) (i : Nat) :
    w.cell? ⟨k.r, k.o + i, none⟩ = c[k.o + i]? := by
  simp [World.cell?, R.heap]

theorem Row.span {k : Blk} {l s : List AVal} {rw : Bool} {c : Array Value} {t : TypeId} {fr : Nat × Nat} (R : Row κ w k l rw c t fr) {off n : Nat}
    (e : spanOf l off n = some s) :
    ∃ vs : List Value, vs.length = n ∧ VRels κ s vs ∧ (∀ j v, vs[j]? = some v → w.cell? ((⟨k.r, k.o + off, none⟩ : Addr).add j) = some v) := by
  obtain ⟨hle, rfl, hlen⟩ := span_len e
  refine ⟨(((c.toList.drop k.o).take l.length).drop off).take n, ?_, (R.rel.drop off).take n, ?_⟩
  · have h1 := R.size
    have h2 := R.fits
    simp; omega
  · intro j v hv
    rw [add_lit, Nat.add_assoc, R.cell]
    rw [List.getElem?_take] at hv
    split at hv
    · rw [List.getElem?_drop, List.getElem?_take] at hv
      split at hv
      · rw [List.getElem?_drop] at hv
        simpa [Nat.add_assoc] using hv
      · cases hv
    · cases hv

theorem run_load_one {a : Addr} {v : Value} (hc : w.cell? a = some v) : (load a).run P w = .ok v w := by simp [hc]

/-- a load -/
theorem load_sim (r : WRel κ h w) {t : TypeId} {g : Bool} {n b off : Nat} {v : AVal} {k : Blk} (hg : aggD P t = some g) (hn : szD P t = some n) (hk : κ b = some k)
    (e : aload h g n b off = some v) : ∃ v', (loadVar t ⟨k.r, k.o + off, none⟩).run P w = .ok v' w ∧ VRel κ v v' := by
  unfold aload at e
  cases hcs : cellsAt h b with
  | none => rw [hcs] at e; cases e
  | some l =>
    rw [hcs] at e
    unfold cellsAt at hcs
    split at hcs
    · rename_i l' rw' hb
      cases hcs
      obtain ⟨c, t', fr, R⟩ := r.row hb hk
      cases g with
      | true =>
        simp only [if_true] at e
        cases hs : spanOf l off n with
        | none => rw [hs] at e; cases e
        | some s =>
          rw [hs] at e; cases e
          obtain ⟨vs, hl, hr, hc⟩ := R.span hs
          refine ⟨.agg vs.toArray, ?_, .agg (by simpa using hr)⟩
          have hl' := run_loadCells_list (P := P) w ⟨k.r, k.o + off, none⟩ vs hc
          rw [hl] at hl'
          simp [loadVar, run_agg hg, run_sz hn, hl']
      | false =>
        simp only [Bool.false_eq_true, if_false] at e
        obtain ⟨v', hv', hr⟩ := R.rel.get e
        refine ⟨v', ?_, hr⟩
        have hc : w.cell? ⟨k.r, k.o + off, none⟩ = some v' := by
          rw [R.cell]
          rw [List.getElem?_take] at hv'
          split at hv'
          · rw [List.getElem?_drop] at hv'; simpa using hv'
          · cases hv'
        simp [loadVar, run_agg hg, hc]
    · cases hcs

/-! ### writing cells -/

theorem put_len {l l' vs : List AVal} {off : Nat} (e : putSpan l off vs = some l') : off + vs.length ≤ l.length ∧ l' = l.take off ++ vs ++ l.drop (off + vs.length) ∧ l'.length = l.length := by
  unfold putSpan at e
  split at e
  · rename_i hle
    cases e
    exact ⟨hle, rfl, by simp; omega⟩
  · cases e

theorem drop_take_splice {α : Type} (c : List α) (o n off : Nat) (vs : List α) (h : off + vs.length ≤ n) (hc : o + n ≤ c.length) :
    ((c.take (o + off) ++ vs ++ c.drop (o + off + vs.length)).drop o).take n =
      ((c.drop o).take n).take off ++ vs ++ ((c.drop o).take n).drop (off + vs.length) := by
  apply List.ext_getElem?
  intro i
  simp only [List.getElem?_take, List.getElem?_drop, List.getElem?_append, List.length_append, List.length_take, List.length_drop]
  by_cases hi : i < n
  · simp only [hi, if_true]
    by_cases h1 : i < off
    · have a1 : o + i < min (o + off) c.length + vs.length := by omega
      have a2 : o + i < min (o + off) c.length := by omega
      have a3 : o + i < o + off := by omega
      have a4 : i < min off (min n (c.length - o)) + vs.length := by omega
      have a5 : i < min off (min n (c.length - o)) := by omega
      simp [a1, a2, a3, a4, a5, h1]
    · by_cases h2 : i < off + vs.length
      · have a1 : o + i < min (o + off) c.length + vs.length := by omega
        have a2 : ¬ o + i < min (o + off) c.length := by omega
        have a4 : i < min off (min n (c.length - o)) + vs.length := by omega
        have a5 : ¬ i < min off (min n (c.length - o)) := by omega
        simp only [a1, a2, a4, a5, if_true, if_false]
        congr 1; omega
      · have a1 : ¬ o + i < min (o + off) c.length + vs.length := by omega
        have a4 : ¬ i < min off (min n (c.length - o)) + vs.length := by omega
        simp only [a1, a4, if_false]
        have a6 : off + vs.length + (i - (min off (min n (c.length - o)) + vs.length)) = i := by omega
        rw [a6]
        simp only [hi, if_true]
        congr 1; omega
  · simp only [hi, if_false]
    have a4 : ¬ i < min off (min n (c.length - o)) + vs.length := by omega
    simp only [a4, if_false]
    have a6 : off + vs.length + (i - (min off (min n (c.length - o)) + vs.length)) = i := by omega
    rw [a6]
    simp [hi]

/-- what is written into an own row -/
theorem put_sim (r : WRel κ h w) {b off : Nat} {vs : List AVal} {h' : AHeap} {k : Blk} {vs' : List Value} (hk : κ b = some k) (e : aput h b off vs = some h') (hv : VRels κ vs vs') :
    ∃ w', (storeCells ⟨k.r, k.o + off, none⟩ vs').run P w = .ok () w' ∧ WRel κ h' w' ∧ Stp κ h w κ h' w' := by
  unfold aput at e
  split at e
  case h_2 => cases e
  rename_i l hb
  split at e
  case isFalse => cases e
  rename_i hone
  cases hp : putSpan l off vs with
  | none => rw [hp] at e; cases e
  | some l' =>
    rw [hp] at e; cases e
    obtain ⟨hle, rfl, hlen⟩ := put_len hp
    obtain ⟨c, t, fr, R⟩ := r.row hb hk
    have hfr := R.wr rfl
    subst hfr
    have hvl := hv.length
    have hst := run_storeCells_at P k.r (k.o + off) t vs' 0 c w R.heap (by have := R.size; have := R.fits; omega) (hv.allOne hone)
    simp only [Nat.add_zero] at hst
    have hlt : k.r < w.heap.size := r.inb b k hk
    refine ⟨_, hst, ?_⟩
    refine r.upd (o1 := .cells l true) hb rfl hk (fun i hi => setRow_other w k.r i _ hi) (by simp [World.setRow]) rfl rfl rfl (setRow_heap w k.r c _ t (0, 0) R.heap) ?_
    have h1 := R.size
    have h2 := R.fits
    refine ⟨by simp; omega, by rw [hlen]; exact h2, ?_, fun _ => rfl⟩
    rw [hlen]
    have := drop_take_splice c.toList k.o l.length off vs' (by omega) (by simp; omega)
    simp only at this ⊢
    rw [this, hvl]
    exact ((R.rel.take off).append hv).append (R.rel.drop _)

/-- a new row -/
theorem new_sim (r : WRel κ h w) (l : List AVal) (c : Array Value) (t : TypeId) (hn : l.length ≤ c.size) (hr : VRels κ l (c.toList.take l.length)) :
    WRel (Kap.put κ h.next ⟨w.heap.size, 0, c.size⟩) (h.new (.cells l true)) (w.alloc (.cells c t)) ∧
      Stp κ h w (Kap.put κ h.next ⟨w.heap.size, 0, c.size⟩) (h.new (.cells l true)) (w.alloc (.cells c t)) := by
  refine r.new _ _ _ ⟨rfl, by simpa using hn, ?_, fun _ => rfl⟩
  simpa using hr.mono (Kap.ext_put r _)

theorem Kap.put_same (κ : Kap) (b : Nat) (k : Blk) : Kap.put κ b k b = some k := by simp [Kap.put]

end
end Go.Aev
