/- Rows that are made or written whole: composite literals, make, append, copy, clear. -/
import Derived.Test.YtibahgbfggkchaaGreatDoorAevSlice
namespace Go.Aev

inductive PRels (κ : Kap) : List (Nat × AVal) → List (Nat × Value) → Prop
  | nil : PRels κ [] []
  | cons {i : Nat} {a : AVal} {v : Value} {l : List (Nat × AVal)} {l' : List (Nat × Value)} (h : VRel κ a v) (t : PRels κ l l') : PRels κ ((i, a) :: l) ((i, v) :: l')

theorem foldl_set (off : Nat) : ∀ (vs : List Value) (k : Nat) (cs : Array Value), off + k + vs.length ≤ cs.size →
    ((vs.zipIdx k).foldl (fun (cs : Array Value) (p : Value × Nat) => cs.setIfInBounds (off + p.2) p.1) cs).toList = cs.toList.take (off + k) ++ vs ++ cs.toList.drop (off + k + vs.length)
  | [], k, cs, _ => by simp
  | v :: vs, k, cs, h => by
    simp only [List.zipIdx_cons, List.foldl_cons]
    rw [foldl_set off vs (k + 1) _ (by simp at h ⊢; omega)]
    have e := list_seg_step cs.toList (off + k) v vs (by simp at h ⊢; omega)
    simp only [Array.toList_setIfInBounds, List.length_cons]
    rw [show off + (k + 1) = off + k + 1 by omega]
    rw [show off + k + (vs.length + 1) = off + k + (vs.length + 1) from rfl]
    simpa [Nat.add_assoc] using e

section
variable {P : Program} {κ : Kap} {h : AHeap} {w : World}

theorem fill_sim (place : Nat → Option (Nat × Nat)) : ∀ {parts : List (Nat × AVal)} {parts' : List (Nat × Value)} {cells l : List AVal} {cs : Array Value},
    PRels κ parts parts' → VRels κ cells cs.toList → afill place cells parts = some l → ∃ cs', Instr.fill place cs parts' = some cs' ∧ VRels κ l cs'.toList ∧ cs'.size = cs.size := by
  intro parts
  induction parts with
  | nil =>
    intro parts' cells l cs hp hc e
    cases hp
    simp [afill] at e; subst e
    exact ⟨cs, rfl, hc, rfl⟩
  | cons p parts ih =>
    intro parts' cells l cs hp hc e
    cases hp with
    | cons hv ht =>
    rename_i i a v parts'
    simp only [afill] at e
    cases hpl : place i with
    | none => rw [hpl] at e; cases e
    | some q =>
      obtain ⟨off, size⟩ := q
      rw [hpl] at e
      simp only at e
      split at e
      · rename_i hpc
        cases hps : putSpan cells off a.cells with
        | none => rw [hps] at e; cases e
        | some c2 =>
          rw [hps] at e
          simp only at e
          obtain ⟨hle, rfl, hlen⟩ := put_len hps
          have hvc := cellsRel hv hpc.1
          have hsz := hvc.length
          have hcl := hc.length
          have hb : ¬ (v.cells.size ≠ size || decide (off + v.cells.size > cs.size)) = true := by
            simp at hsz hcl ⊢; omega
          have hfold : (v.cells.zipIdx.foldl (fun (cs : Array Value) (p : Value × Nat) => cs.setIfInBounds (off + p.2) p.1) cs).toList = cs.toList.take off ++ v.cells.toList ++ cs.toList.drop (off + v.cells.toList.length) := by
            have := foldl_set off v.cells.toList 0 cs (by simp at hsz hcl ⊢; omega)
            rw [← Array.foldl_toList, Array.toList_zipIdx]
            simpa using this
          have hrel : VRels κ (cells.take off ++ a.cells ++ cells.drop (off + a.cells.length)) (v.cells.zipIdx.foldl (fun (cs : Array Value) (p : Value × Nat) => cs.setIfInBounds (off + p.2) p.1) cs).toList := by
            rw [hfold, hsz]
            exact ((hc.take off).append hvc).append (hc.drop _)
          obtain ⟨cs', h1, h2, h3⟩ := ih ht hrel e
          refine ⟨cs', ?_, h2, ?_⟩
          · unfold Instr.fill
            simp only [hpl]
            rw [if_neg hb]
            exact h1
          · rw [h3]
            have h4 := congrArg List.length hfold
            rw [Array.length_toList] at h4
            rw [h4]
            simp only [List.length_append, List.length_take, List.length_drop, Array.length_toList] at hsz hcl ⊢
            omega
      · cases e

theorem build_sim {t : TypeId} {parts : List (Nat × AVal)} {parts' : Array (Nat × Value)} {v : AVal} (hp : PRels κ parts parts'.toList) (e : abuild P t parts = some v) :
    ∃ v', (Instr.build t parts').run P w = .ok v' w ∧ VRel κ v v' := by
  unfold abuild at e
  split at e
  · rename_i fs z hu hz
    obtain ⟨i, zv, hi, hzv, rfl, _⟩ := run_zero hz
    cases hpl : aplaces P fs.toList with
    | none => rw [hpl] at e; cases e
    | some pl =>
      rw [hpl] at e; simp only at e
      cases hf : afill (fun i => pl[i]?) (AVal.of zv).cells parts with
      | none => rw [hf] at e; cases e
      | some l =>
        rw [hf] at e; cases e
        obtain ⟨cs', h1, h2, _⟩ := fill_sim (κ := κ) _ hp (cellsRel (VRel.of zv) (plain_of zv)) hf
        refine ⟨.agg cs', run_build w t parts' cs' ?_, .agg h2⟩
        unfold aplaces at hpl
        simp only [Program.built, hi, hu, hzv, hpl]
        simpa using h1
  · rename_i n el z hu hz
    obtain ⟨i, zv, hi, hzv, rfl, _⟩ := run_zero hz
    cases hn : szD P el with
    | none => rw [hn] at e; cases e
    | some m =>
      rw [hn] at e; simp only at e
      obtain ⟨ie, hie, hm⟩ := info_of_sz hn
      cases hf : afill (fun i => some (i * m, m)) (AVal.of zv).cells parts with
      | none => rw [hf] at e; cases e
      | some l =>
        rw [hf] at e; cases e
        obtain ⟨cs', h1, h2, _⟩ := fill_sim (κ := κ) _ hp (cellsRel (VRel.of zv) (plain_of zv)) hf
        refine ⟨.agg cs', run_build w t parts' cs' ?_, .agg h2⟩
        simp only [Program.built, hi, hu, hzv, hie, hm]
        exact h1
  · cases e

theorem rep_len (n : Nat) (l : List AVal) : (rep n l).length = n * l.length := by
  induction n with
  | zero => simp [rep]
  | succ n ih => simp [rep, ih, Nat.succ_mul, Nat.add_comm]

theorem rep_get (l : List AVal) : ∀ (n i : Nat), i < n * l.length → (rep n l)[i]? = l[i % l.length]? := by
  intro n
  induction n with
  | zero => intro i h; simp at h
  | succ n ih =>
    intro i hi
    simp only [rep]
    rw [List.getElem?_append]
    split
    · rename_i h1; rw [Nat.mod_eq_of_lt h1]
    · rename_i h1
      have h2 : l.length ≤ i := by omega
      rw [Nat.succ_mul] at hi
      rw [ih (i - l.length) (by omega), Nat.mod_eq_sub_mod h2]

/-- a row filled with one value's cells, over and over -/
theorem rep_rel {z : List AVal} {zs : Array Value} (hz : VRels κ z zs.toList) (n m : Nat) (hm : m = n * zs.size) : VRels κ (rep n z) ((Array.range m).map (zs[· % zs.size]!)).toList := by
  subst hm
  have hl : zs.size = z.length := by have := hz.length; simpa using this
  refine VRels.of_get ?_ ?_
  · simp [rep_len, hl]
  · intro i a v ha hv
    rcases Nat.eq_zero_or_pos z.length with h0 | hp
    · have : (rep n z).length = 0 := by rw [rep_len, h0]; simp
      rw [List.getElem?_eq_none (by omega)] at ha; cases ha
    · have hi : i < n * z.length := by
        rcases Nat.lt_or_ge i (rep n z).length with h | h
        · rwa [rep_len] at h
        · rw [List.getElem?_eq_none h] at ha; cases ha
      rw [rep_get z n i hi] at ha
      obtain ⟨v', hv', hr⟩ := hz.get ha
      simp only [Array.toList_map, Array.toList_range, List.getElem?_map, hl, hi, List.getElem?_range, Option.map_some, Option.some.injEq] at hv
      subst hv
      have hmod : i % z.length < zs.size := by rw [hl]; exact Nat.mod_lt _ hp
      rw [Array.getElem?_toList, Array.getElem?_eq_getElem hmod] at hv'
      cases hv'
      rw [getElem!_pos zs _ hmod]
      exact hr

theorem buildSlice_core {t el : TypeId} {n z : Nat} {zero : AVal} {parts : List (Nat × AVal)} {parts' : Array (Nat × Value)} {l : List AVal} (hp : PRels κ parts parts'.toList)
    (hu : P.underlying t = some (.slice el)) (hz : szD P el = some z) (hzero : zeroD P el = some zero) (hc : zero.cells.length = z ∧ n * z ≤ 2 ^ 24)
    (hf : afill (fun i => some (i * z, z)) (rep n zero.cells) parts = some l) :
    ∃ cs' : Array Value, (Instr.buildSlice t n parts').run P w = .ok (.slice (some ⟨w.heap.size, 0, none⟩) n n) (w.alloc (.cells cs' el)) ∧ VRels κ l cs'.toList ∧ cs'.size = n * z := by
  obtain ⟨i, zv, hi, hzv, rfl, hrz⟩ := run_zero hzero
  have hzr := cellsRel (VRel.of (κ := κ) zv) (plain_of zv)
  have hzs : zv.cells.size = z := by have := hzr.length; simp at this; omega
  have hrow := rep_rel hzr n (n * z) (by rw [hzs])
  obtain ⟨cs', h1, h2, h3⟩ := fill_sim (κ := κ) _ hp hrow hf
  refine ⟨cs', ?_, h2, by rw [h3]; simp⟩
  have hle : ¬ n * z > 2 ^ 24 := by omega
  simp only [Instr.buildSlice, Sem.run_bind, run_underlying hu, run_sz hz, Result.andThen_ok, Sem.run_ite, if_neg hle, Sem.run_pure]
  by_cases h0 : n * z = 0
  · have e0 : ∀ zz : Array Value, ((Array.range (n * z)).map (zz[· % zz.size]!)) = #[] := by intro zz; simp [h0, Array.range_zero']
    simp only [if_pos h0]
    rw [e0 #[], ← e0 zv.cells, h1]
    rfl
  · simp only [if_neg h0, hrz, Result.andThen_ok, h1]
    rfl

theorem buildSlice_sim (r : WRel κ h w) {t : TypeId} {n : Nat} {parts : List (Nat × AVal)} {parts' : Array (Nat × Value)} {res : ARes} (hp : PRels κ parts parts'.toList)
    (e : abuildSlice P h t n parts = some res) :
    ∃ v h' v' w' κ', res = .val v h' ∧ (Instr.buildSlice t n parts').run P w = .ok v' w' ∧ VRel κ' v v' ∧ WRel κ' h' w' ∧ Stp κ h w κ' h' w' := by
  unfold abuildSlice at e
  split at e
  case h_2 => cases e
  rename_i el hu
  split at e
  case h_2 => cases e
  rename_i z zero hz hzero
  split at e
  case isFalse => cases e
  rename_i hc
  cases hf : afill (fun i => some (i * z, z)) (rep n zero.cells) parts with
  | none => rw [hf] at e; cases e
  | some l =>
    rw [hf] at e; cases e
    obtain ⟨cs', h1, h2, h3⟩ := buildSlice_core (P := P) (w := w) hp hu hz hzero hc hf
    have hlen := h2.length
    have hnew := new_sim r l cs' el (by simp at hlen; omega) (by rw [← hlen, List.take_length]; exact h2)
    refine ⟨_, _, .slice (some ⟨w.heap.size, 0, none⟩) n n, _, _, rfl, h1, ?_, hnew.1, hnew.2⟩
    have := VRel.sl (κ := Kap.put κ h.next ⟨w.heap.size, 0, cs'.size⟩) (b := h.next) (off := 0) (len := n) (cap := n) (ex := true) (esz := z) (cap' := n) (Kap.put_same _ _ _) (Nat.le_refl _) (Nat.le_refl _) (fun _ => rfl) (by simp [h3])
    simpa using this

theorem makeSlice_sim (r : WRel κ h w) {t : TypeId} {len cap : AVal} {len' cap' : Value} {res : ARes} (hl : VRel κ len len') (hcp : VRel κ cap cap')
    (e : amakeSlice P h t len cap = some res) :
    ∃ v h' v' w' κ', res = .val v h' ∧ (Instr.makeSlice t len' cap').run P w = .ok v' w' ∧ VRel κ' v v' ∧ WRel κ' h' w' ∧ Stp κ h w κ' h' w' := by
  unfold amakeSlice at e
  split at e
  case h_2 => cases e
  rename_i el kl l kc c hu
  split at e
  case h_2 => cases e
  rename_i z by_ zero hz hby hzero
  split at e
  case isFalse => cases e
  rename_i hc
  obtain ⟨c1, c2, c3, c4, c5⟩ := hc
  cases e; cases hl; cases hcp
  obtain ⟨i, zv, hi, hzv, rfl, hrz⟩ := run_zero hzero
  have hsz : i.size = z := by unfold szD at hz; rw [hi] at hz; simpa using hz
  have hbz : i.bytes = by_ := by unfold bytesD at hby; rw [hi] at hby; simpa using hby
  have hzr := cellsRel (VRel.of (κ := κ) zv) (plain_of zv)
  have hzs : zv.cells.size = z := by have := hzr.length; simp at this; omega
  have hrun := run_make (P := P) w t el i zv hu hi hzv kl kc l c c2 c3 (by rw [hbz]; omega) (by omega)
  have hrow := rep_rel hzr c.toNat (c.toNat * i.size) (by rw [hzs, hsz])
  have hlen : (rep c.toNat (AVal.of zv).cells).length = c.toNat * z := by rw [rep_len, c1]
  have hmc : (madeCells zv.cells (c.toNat * i.size)).size = c.toNat * z := by rw [size_madeCells, hsz]
  have hnew := new_sim r (rep c.toNat (AVal.of zv).cells) (madeCells zv.cells (c.toNat * i.size)) el (by omega) (by
    rw [hlen, ← hmc]
    have : (madeCells zv.cells (c.toNat * i.size)).toList.take (madeCells zv.cells (c.toNat * i.size)).size = (madeCells zv.cells (c.toNat * i.size)).toList := by
      apply List.take_of_length_le; simp
    rw [this]; exact hrow)
  refine ⟨_, _, _, _, _, rfl, hrun, ?_, hnew.1, hnew.2⟩
  have := VRel.sl (κ := Kap.put κ h.next ⟨w.heap.size, 0, (madeCells zv.cells (c.toNat * i.size)).size⟩) (b := h.next) (off := 0) (len := l.toNat) (cap := c.toNat) (ex := true) (esz := z) (cap' := c.toNat) (Kap.put_same _ _ _) (by omega) (Nat.le_refl _) (fun _ => rfl) (by simp only [hmc]; omega)
  simpa using this

/-! ### the elements of a slice -/

theorem elems_sim (r : WRel κ h w) {z n : Nat} {x : AVal} {x' : Value} {l : List AVal} (hx : VRel κ x x') (e : elemsOf h z n x = some l) :
    ∃ vs : List Value, vs.length = n * z ∧ VRels κ l vs ∧ (∀ w2 : World, w2.heap = w.heap → (Builtin.firstCells z n x').run P w2 = .ok vs.toArray w2) := by
  unfold elemsOf at e
  split at e
  · split at e
    · rename_i h0
      cases e; cases hx; subst h0
      exact ⟨[], by simp, .nil, fun w2 _ => by simp [Builtin.firstCells]⟩
    · cases e
  · rename_i b off len cap ex esz
    split at e
    · rename_i h0
      cases e; subst h0
      refine ⟨[], by simp, .nil, fun w2 _ => ?_⟩
      cases hx <;> simp [Builtin.firstCells, loadCells, loadCellsFrom]
    · rename_i h0
      split at e
      case isFalse => cases e
      rename_i hc
      cases hcs : cellsAt h b with
      | none => rw [hcs] at e; cases e
      | some row =>
        rw [hcs] at e; simp only at e
        unfold cellsAt at hcs
        split at hcs
        · rename_i l' rw' hb
          cases hcs
          cases hx with
          | sl hk h1 h2 h3 h4 =>
            obtain ⟨c, t', fr, R⟩ := r.row hb hk
            obtain ⟨vs, hl, hr, hcell⟩ := R.span e
            refine ⟨vs, hl, hr, fun w2 hw => ?_⟩
            exact run_firstCells_some (P := P) w2 z n _ _ _ vs hl (fun j v hv => by
              have := hcell j v hv
              unfold World.cell? at this ⊢
              rw [hw]; exact this)
          | slz => omega
        · cases hcs
  · cases e

theorem lenOf_sim {x : AVal} {x' : Value} {n : Nat} (hx : VRel κ x x') (e : lenA x = some n) : (Builtin.lenOf x').run P w = .ok n w := by
  unfold lenA at e
  split at e <;> first
    | (cases e; done)
    | (cases e; cases hx <;> rfl)

theorem copy_sim (r : WRel κ h w) {ats : Array TypeId} {ty : TypeId} {d s : AVal} {d' s' : Value} {res : ARes} (hd : VRel κ d d') (hs : VRel κ s s') (e : acopy P h ats d s = some res) :
    ∃ v h' v' w' κ', res = .val v h' ∧ (Builtin.copy_ ats ty #[d', s']).run P w = .ok v' w' ∧ VRel κ' v v' ∧ WRel κ' h' w' ∧ Stp κ h w κ' h' w' := by
  unfold acopy at e
  cases hat : ats[0]? with
  | none => rw [hat] at e; cases e
  | some dt =>
    rw [hat] at e
    simp only [Option.bind_some] at e
    split at e
    case h_2 => cases e
    rename_i el hu
    split at e
    case h_2 => cases e
    rename_i z dl sl hz hdl hsl
    have hls := lenOf_sim (P := P) (w := w) hs hsl
    split at e
    · rename_i h0
      have hfc : (Builtin.firstCells z 0 s').run P w = .ok #[] w := by
        unfold lenA at hsl
        split at hsl <;> first
          | (cases hsl; done)
          | (cases hsl; cases hs <;> simp [Builtin.firstCells, loadCells, loadCellsFrom] <;> rfl)
      split at e
      · cases e; cases hd
        simp only [lenA] at hdl
        refine ⟨_, _, .int .i64 0, w, κ, rfl, ?_, .int _ _, r, .refl _ _ _⟩
        simp [Builtin.copy_, hat, run_underlying hu, hls, run_sz hz, hfc, goInt]
      · cases e
        simp only [lenA] at hdl
        cases hdl
        cases hd with
        | sl hk h1 h2 h3 h4 =>
          refine ⟨_, _, .int .i64 0, w, κ, rfl, ?_, .int _ _, r, .refl _ _ _⟩
          have : sl.min dl = 0 := h0
          simp [Builtin.copy_, hat, run_underlying hu, hls, run_sz hz, this, hfc, storeCells, goInt]
        | slz =>
          refine ⟨_, _, .int .i64 0, w, κ, rfl, ?_, .int _ _, r, .refl _ _ _⟩
          simp [Builtin.copy_, hat, run_underlying hu, hls, run_sz hz, hfc, storeCells, goInt]
      · cases e
    · rename_i h0
      split at e
      case h_2 => cases e
      rename_i l b off len cap ex esz hel
      split at e
      case isFalse => cases e
      rename_i hez
      subst hez
      cases hput : aput h b off l with
      | none => rw [hput] at e; cases e
      | some h' =>
        rw [hput] at e; cases e
        simp only [lenA] at hdl
        cases hdl
        obtain ⟨vs, hvl, hvr, hfc⟩ := elems_sim (P := P) r hs hel
        cases hd with
        | sl hk h1 h2 h3 h4 =>
          obtain ⟨w', hst, hw', hstp⟩ := put_sim (P := P) r hk hput hvr
          refine ⟨_, _, .int .i64 (min sl dl : Nat), w', κ, rfl, ?_, .int _ _, hw', hstp⟩
          have hfc' := hfc w rfl
          have hmin : sl.min dl = min sl dl := rfl
          simp [Builtin.copy_, hat, run_underlying hu, hls, run_sz hz, hmin, hfc', hst, goInt]
        | slz => simp at h0

theorem zeroRow {zv : Value} {n z : Nat} (hzs : zv.cells.size = z) : (Builtin.zeroCells zv.cells n) = (Array.range (n * z)).map (zv.cells[· % zv.cells.size]!) := by
  simp [Builtin.zeroCells, hzs]

theorem clear_sim (r : WRel κ h w) {ats : Array TypeId} {ty : TypeId} {x : AVal} {x' : Value} {res : ARes} (hx : VRel κ x x') (e : aclear P h ats x = some res) :
    ∃ v h' v' w' κ', res = .val v h' ∧ (Builtin.clear_ ats ty #[x']).run P w = .ok v' w' ∧ VRel κ' v v' ∧ WRel κ' h' w' ∧ Stp κ h w κ' h' w' := by
  unfold aclear at e
  cases hat : ats[0]? with
  | none => rw [hat] at e; cases e
  | some dt =>
    rw [hat] at e
    simp only [Option.bind_some] at e
    split at e
    · rename_i el hu
      cases e; cases hx
      refine ⟨_, _, .tuple #[], w, κ, rfl, ?_, .tup .nil, r, .refl _ _ _⟩
      simp [Builtin.clear_, hat, run_underlying hu]
    · rename_i el b off len cap ex esz hu
      split at e
      · rename_i h0
        cases e; subst h0
        refine ⟨_, _, .tuple #[], w, κ, rfl, ?_, .tup .nil, r, .refl _ _ _⟩
        cases hx <;> simp [Builtin.clear_, hat, run_underlying hu]
      · rename_i h0
        cases hz : zeroD P el with
        | none => rw [hz] at e; cases e
        | some zero =>
          rw [hz] at e; simp only at e
          split at e
          case isFalse => cases e
          rename_i hez
          obtain ⟨i, zv, hi, hzv, rfl, hrz⟩ := run_zero hz
          cases hput : aput h b off (rep len (AVal.of zv).cells) with
          | none => rw [hput] at e; cases e
          | some h' =>
            rw [hput] at e; cases e
            have hzr := cellsRel (VRel.of (κ := κ) zv) (plain_of zv)
            have hzs : zv.cells.size = esz := by have := hzr.length; simp at this; omega
            cases hx with
            | sl hk h1 h2 h3 h4 =>
              have hrow := rep_rel hzr len (len * esz) (by rw [hzs])
              rw [← zeroRow hzs] at hrow
              obtain ⟨w', hst, hw', hstp⟩ := put_sim (P := P) r hk hput hrow
              refine ⟨_, _, .tuple #[], w', κ, rfl, ?_, .tup .nil, hw', hstp⟩
              cases len with
              | zero => exact absurd rfl h0
              | succ len => simp [Builtin.clear_, hat, run_underlying hu, hrz, hst]
            | slz => exact absurd rfl h0
    · cases e

/-! ### append -/

theorem run_append_head {ats : Array TypeId} {ty st xt el xel : TypeId} {z n : Nat} (h0 : ats[0]? = some st) (h1 : ats[1]? = some xt) (hu : P.underlying st = some (.slice el)) (hx : P.underlying xt = some (.slice xel))
    (hz : szD P el = some z) (base : Option Addr) (sLen sCap : Nat) (x' : Value) (hn : (Builtin.lenOf x').run P w = .ok n w) (hroom : sLen + n ≤ sCap) :
    (Builtin.append_ ats ty #[.slice base sLen sCap, x']).run P w = ((Builtin.firstCells z n x').run P w).andThen fun new w1 =>
      ((match base with | some a => storeCells (a.add (sLen * z)) new.toList | none => pure ()).run P w1).andThen fun _ w2 => .ok (.slice base (sLen + n) sCap) w2 := by
  simp only [Builtin.append_, h0, h1, List.getElem?_toArray, List.getElem?_cons_zero, List.getElem?_cons_succ, Sem.run_bind, run_underlying hu, run_underlying hx, run_sz hz, hn, Result.andThen_ok, Sem.run_pure, Bool.false_eq_true, if_false, Bool.not_false, if_true, Sem.run_ite, if_pos hroom]
  cases base with
  | none => rfl
  | some a => simp only [Sem.run_bind, Sem.run_pure]

theorem run_append_tail {ats : Array TypeId} {ty st xt el xel : TypeId} {z n by_ : Nat} {zv : Value} (h0 : ats[0]? = some st) (h1 : ats[1]? = some xt) (hu : P.underlying st = some (.slice el)) (hx : P.underlying xt = some (.slice xel))
    (hz : szD P el = some z) (hb : bytesD P el = some by_) (hzv : (zeroValue el).run P w.drew = .ok zv w.drew) (base : Option Addr) (sLen sCap : Nat) (x' : Value) (hn : (Builtin.lenOf x').run P w = .ok n w)
    (hroom : ¬ sLen + n ≤ sCap) (hlim : by_ * (sLen + n) ≤ 2 ^ 46) (hlim2 : sLen + n ≤ 2 ^ 46) (olds news : List Value)
    (ho : (Builtin.firstCells z sLen (.slice base sLen sCap)).run P w.drew = .ok olds.toArray w.drew) (hw : (Builtin.firstCells z n x').run P w.drew = .ok news.toArray w.drew) :
    (Builtin.append_ ats ty #[.slice base sLen sCap, x']).run P w =
      .ok (.slice (some ⟨w.heap.size, 0, none⟩) (sLen + n) (grownCap w (sLen + n) sCap el))
        (w.drew.alloc (.cells (olds.toArray ++ news.toArray ++ Builtin.zeroCells zv.cells (grownCap w (sLen + n) sCap el - (sLen + n))) el)) := by
  obtain ⟨i, hi, _⟩ := info_of_sz hz
  have hbi : i.bytes = by_ := by unfold bytesD at hb; rw [hi] at hb; simpa using hb
  have n1 : ¬ (((sLen + n : Nat) : Int) > IntKind.i64.max ∧ (False ∨ i.bytes = 0)) := by
    rw [IntKind.max_i64]; intro h; omega
  have n2 : ¬ (Builtin.nextslicecap (sLen + n) sCap * i.bytes > 2 ^ 48) := by
    have h1 := growslice_fits (need := sLen + n) (old := sCap) (bytes := by_) (by omega) (by rw [Nat.mul_comm]; omega)
    rw [hbi]; omega
  simp only [Builtin.append_, h0, h1, List.getElem?_toArray, List.getElem?_cons_zero, List.getElem?_cons_succ, Sem.run_bind, run_underlying hu, run_underlying hx, run_sz hz, hn, Result.andThen_ok, Sem.run_pure, Bool.false_eq_true, if_false, Bool.not_false, if_true, Sem.run_ite, if_neg hroom, typeInfo, run_program, hi, n1, n2, run_choose, Question.forced, World.drew_eq, run_askRoom, ho, hw, hzv, newRow, run_newObj, World.alloc_eq, grownCap]
  rfl

theorem WRel.move (r : WRel κ h w) {w' : World} {b : Nat} {o1 o2 : AObj} {k k2 : Blk} (hb : h.get b = some o1) (hown : o1.own = true) (hk : κ b = some k)
    (hw : ∀ i, i ≠ k.r → w'.heap[i]? = w.heap[i]?) (hs : w'.heap.size = w.heap.size)
    (hos : w'.os = w.os) (htape : w'.tape = w.tape) (hout : w'.output = w.output) (h2 : k2.r = k.r)
    {o' : Obj} (ho' : w'.heap[k.r]? = some o') (ho : ORel (Kap.put κ h.next k2) k2 o2 o') :
    WRel (Kap.put κ h.next k2) ((h.set b .dead).new o2) w' ∧ Stp κ h w (Kap.put κ h.next k2) ((h.set b .dead).new o2) w' := by
  have hbn : b < h.next := by
    rcases Nat.lt_or_ge b h.next with hlt | hge
    · exact hlt
    · rw [r.fresh b hge] at hk; cases hk
  have hext := Kap.ext_put r k2
  have old : ∀ c k', c ≠ h.next → Kap.put κ h.next k2 c = some k' → κ c = some k' := fun c k' hc hk' => by
    unfold Kap.put at hk'; rwa [if_neg hc] at hk'
  have new : ∀ k', Kap.put κ h.next k2 h.next = some k' → k' = k2 := fun k' hk' => by
    rw [Kap.put_same] at hk'; cases hk'; rfl
  have getO : ∀ c o, c ≠ h.next → ((h.set b .dead).new o2).get c = some o → (c = b ∧ o = .dead) ∨ (c ≠ b ∧ h.get c = some o) := fun c o hc hg => by
    rw [get_new, next_set, if_neg hc, get_set] at hg
    by_cases e : c = b
    · rw [if_pos e] at hg; cases hg; exact .inl ⟨e, rfl⟩
    · rw [if_neg e] at hg; exact .inr ⟨e, hg⟩
  have getN : ∀ o, ((h.set b .dead).new o2).get h.next = some o → o = o2 := fun o hg => by
    rw [get_new, next_set, if_pos rfl] at hg; cases hg; rfl
  have aliveOf : ∀ o : AObj, o.own = true → o.alive = true := by intro o; cases o <;> simp [AObj.own, AObj.alive]
  refine ⟨⟨?_, ?_, ?_, ?_, ?_⟩, ⟨?_, ?_, hos, htape, hout, by omega, ?_, ?_⟩⟩
  · intro c hc
    rw [next_new, next_set] at hc
    rw [get_new, next_set, if_neg (by omega), get_set, if_neg (by omega)]
    exact r.dom c (by omega)
  · intro c hc
    rw [next_new, next_set] at hc
    unfold Kap.put; rw [if_neg (by omega)]; exact r.fresh c (by omega)
  · intro c k' hc
    rw [hs]
    by_cases e : c = h.next
    · subst e; rw [new k' hc, h2]; exact r.inb b k hk
    · exact r.inb c k' (old c k' e hc)
  · intro c o k' hc hk' ha
    by_cases e : c = h.next
    · subst e
      rw [getN o hc, new k' hk', h2]
      exact ⟨o', ho', ho⟩
    · rcases getO c o e hc with ⟨rfl, rfl⟩ | ⟨e2, hc⟩
      · simp [AObj.alive] at ha
      · obtain ⟨y, hy, hr⟩ := r.obj c o k' hc (old c k' e hk') ha
        refine ⟨y, ?_, hr.mono hext⟩
        rw [hw _ (fun e3 => e2 (r.inj b c o1 o k k' hb hown hc ha hk (old c k' e hk') e3.symm).symm)]
        exact hy
  · intro c c' o o3 k1 k3 hc ho1 hc' ho3 hk1 hk3 he
    by_cases e : c = h.next
    · by_cases e' : c' = h.next
      · rw [e, e']
      · exfalso
        subst e
        rcases getO c' o3 e' hc' with ⟨rfl, rfl⟩ | ⟨e2, hc'⟩
        · simp [AObj.alive] at ho3
        · rw [new k1 hk1, h2] at he
          exact e2 (r.inj b c' o1 o3 k k3 hb hown hc' ho3 hk (old c' k3 e' hk3) he).symm
    · rcases getO c o e hc with ⟨rfl, rfl⟩ | ⟨e2, hc⟩
      · simp [AObj.own] at ho1
      · by_cases e' : c' = h.next
        · exfalso
          subst e'
          rw [new k3 hk3, h2] at he
          exact e2 (r.inj c b o o1 k1 k hc ho1 hb (aliveOf _ hown) (old c k1 e hk1) hk he)
        · rcases getO c' o3 e' hc' with ⟨rfl, rfl⟩ | ⟨e3, hc'⟩
          · simp [AObj.alive] at ho3
          · exact r.inj c c' o o3 k1 k3 hc ho1 hc' ho3 (old c k1 e hk1) (old c' k3 e' hk3) he
  · intro c hc
    unfold Kap.put; rw [if_neg (by omega)]
  · rw [next_new, next_set]; omega
  · intro i _ hn
    exact hw i (fun e => hn b o1 k hb hown hk e.symm)
  · intro c o k' hc ho1 hk' hlt
    by_cases e : c = h.next
    · subst e
      rw [new k' hk']
      exact ⟨b, o1, k, hb, hown, hk, h2.symm⟩
    · rcases getO c o e hc with ⟨rfl, rfl⟩ | ⟨e2, hc⟩
      · simp [AObj.own] at ho1
      · exact ⟨c, o, k', hc, ho1, old c k' e hk', rfl⟩

/-- what append makes anew -/
theorem grown_sim (r : WRel κ h w) {el : TypeId} {z need sCap : Nat} {zv : Value} {old new : List AVal} {olds news : List Value} (hzs : zv.cells.size = z)
    (ho : VRels κ old olds) (hn : VRels κ new news) (hlen : olds.length + news.length = need * z) :
    let c := olds.toArray ++ news.toArray ++ Builtin.zeroCells zv.cells (grownCap w need sCap el - need)
    ∃ κ', VRel κ' (.sl h.next 0 need need false z) (.slice (some ⟨w.heap.size, 0, none⟩) need (grownCap w need sCap el)) ∧
      WRel κ' (h.new (.cells (old ++ new) true)) (w.drew.alloc (.cells c el)) ∧ Stp κ h w κ' (h.new (.cells (old ++ new) true)) (w.drew.alloc (.cells c el)) := by
  intro c
  have hge := grownCap_ge w need sCap el
  have hcs : c.size = grownCap w need sCap el * z := by
    simp only [c, Array.size_append, List.size_toArray, size_zeroCells, hzs]
    rw [hlen, ← Nat.add_mul]; congr 1; omega
  have hrel := ho.append hn
  have hl2 := hrel.length
  have hnew := new_sim (r.drew) (old ++ new) c el (by
      rw [hcs, ← hl2, List.length_append, hlen]; exact Nat.mul_le_mul_right _ hge) (by
      have : c.toList.take (old ++ new).length = olds ++ news := by
        rw [← hl2]
        simp only [c, Array.toList_append]
        rw [List.take_left]
      rw [this]; exact hrel)
  refine ⟨_, ?_, hnew.1, (Stp.drew κ h w).trans hnew.2⟩
  have := VRel.sl (κ := Kap.put κ h.next ⟨w.drew.heap.size, 0, c.size⟩) (b := h.next) (off := 0) (len := need) (cap := need) (ex := false) (esz := z) (cap' := grownCap w need sCap el)
    (Kap.put_same _ _ _) (Nat.le_refl _) hge (by simp) (by simp [hcs])
  simpa using this

theorem append_sim (r : WRel κ h w) {ats : Array TypeId} {ty : TypeId} {s x : AVal} {s' x' : Value} {res : ARes} (hs : VRel κ s s') (hx : VRel κ x x') (e : aappend P h ats s x = some res) :
    ∃ v h' v' w' κ', res = .val v h' ∧ (Builtin.append_ ats ty #[s', x']).run P w = .ok v' w' ∧ VRel κ' v v' ∧ WRel κ' h' w' ∧ Stp κ h w κ' h' w' := by
  unfold aappend at e
  split at e
  case h_2 => cases e
  rename_i st xt h0 h1
  split at e
  case h_2 => cases e
  rename_i el xel hu hxu
  split at e
  case h_2 => cases e
  rename_i z by_ n zero hz hb hln hzero
  split at e
  case isTrue => cases e
  rename_i hzl
  have hzl' : zero.cells.length = z := Decidable.not_not.1 hzl
  obtain ⟨i, zv, hi, hzv, rfl, hrz⟩ := run_zero hzero
  have hzr := cellsRel (VRel.of (κ := κ) zv) (plain_of zv)
  have hzs : zv.cells.size = z := by have := hzr.length; simp at this; omega
  have hlo := lenOf_sim (P := P) (w := w) hx hln
  cases hel : elemsOf h z n x with
  | none => rw [hel] at e; cases e
  | some new =>
    rw [hel] at e; simp only at e
    obtain ⟨news, hnl, hnr, hnf⟩ := elems_sim (P := P) r hx hel
    have same0 : ∀ (base : Option Addr) (len cap' : Nat), n = 0 → len ≤ cap' → (Builtin.append_ ats ty #[.slice base len cap', x']).run P w = .ok (.slice base len cap') w := by
      intro base len cap' hn0 hle
      subst hn0
      have : news = [] := List.eq_nil_of_length_eq_zero (by omega)
      subst this
      rw [run_append_head h0 h1 hu hxu hz base len cap' x' hlo (by omega), hnf w rfl]
      cases base <;> simp [storeCells]
    split at e
    · -- a nil slice
      cases hs
      split at e
      · rename_i hn0
        cases e
        exact ⟨_, _, _, w, κ, rfl, same0 none 0 0 hn0 (Nat.le_refl _), .nilsl, r, .refl _ _ _⟩
      · rename_i hn0
        split at e
        case isFalse => cases e
        rename_i hlim
        cases e
        have hrun := run_append_tail (P := P) (w := w) (ty := ty) h0 h1 hu hxu hz hb (hrz _) none 0 0 x' hlo (by omega) (by simpa using hlim.1) (by omega) [] news (by simp [Builtin.firstCells]) (hnf w.drew rfl)
        obtain ⟨κ', hv, hw', hst⟩ := grown_sim r (el := el) (z := z) (need := 0 + n) (sCap := 0) hzs (.nil : VRels κ [] []) hnr (by simp [hnl])
        simp only [Nat.zero_add] at hv hrun hw' hst
        exact ⟨_, _, _, _, κ', rfl, hrun, hv, hw', hst⟩
    · -- a slice
      rename_i b off len cap ex esz
      split at e
      case isTrue => cases e
      rename_i hez
      have hez' : esz = z := Decidable.not_not.1 hez
      subst hez'
      split at e
      · rename_i hn0
        cases e
        cases hs with
        | sl hk a1 a2 a3 a4 => exact ⟨_, _, _, w, κ, rfl, same0 _ _ _ hn0 (by omega), .sl hk a1 a2 a3 a4, r, .refl _ _ _⟩
        | slz => exact ⟨_, _, _, w, κ, rfl, same0 _ _ _ hn0 (by omega), .slz, r, .refl _ _ _⟩
      · rename_i hn0
        split at e
        · rename_i hroom
          cases hput : aput h b (off + len * esz) new with
          | none => rw [hput] at e; cases e
          | some h' =>
            rw [hput] at e; cases e
            cases hs with
            | sl hk a1 a2 a3 a4 =>
              rename_i k cap'
              obtain ⟨w', hst, hw', hstp⟩ := put_sim (P := P) r hk hput hnr
              refine ⟨_, _, .slice (some ⟨k.r, k.o + off, none⟩) (len + n) cap', w', κ, rfl, ?_, .sl hk (by omega) a2 a3 a4, hw', hstp⟩
              rw [run_append_head h0 h1 hu hxu hz _ len cap' x' hlo (by omega), hnf w rfl]
              simp only [Result.andThen_ok, add_lit, Nat.add_assoc]
              rw [hst]
              rfl
            | slz => omega
        · rename_i hroom
          split at e
          case isFalse => cases e
          rename_i hlim
          cases hold : elemsOf h esz len (.sl b off len cap ex esz) with
          | none => rw [hold] at e; cases e
          | some old =>
            rw [hold] at e; simp only at e
            obtain ⟨olds, hol, hor, hof⟩ := elems_sim (P := P) r hs hold
            have tail : ∀ (h2 : AHeap) (κ2 : Kap) (base : Option Addr) (cap' : Nat), WRel κ h2 w → Stp κ h w κ h2 w → s' = .slice base len cap' → ¬ len + n ≤ cap' →
                ∃ v' w' κ', (Builtin.append_ ats ty #[s', x']).run P w = .ok v' w' ∧ VRel κ' (.sl h2.next 0 (len + n) (len + n) false esz) v' ∧ WRel κ' (h2.new (.cells (old ++ new) true)) w' ∧ Stp κ h w κ' (h2.new (.cells (old ++ new) true)) w' := by
              intro h2 κ2 base cap' r2 st2 hse hnr'
              subst hse
              have hrun := run_append_tail (P := P) (w := w) (ty := ty) h0 h1 hu hxu hz hb (hrz _) base len cap' x' hlo hnr' hlim.1 hlim.2 olds news (hof w.drew rfl) (hnf w.drew rfl)
              obtain ⟨κ', hv, hw', hst⟩ := grown_sim r2 (el := el) (z := esz) (need := len + n) (sCap := cap') hzs hor hnr (by rw [hol, hnl, ← Nat.add_mul])
              exact ⟨_, _, κ', hrun, hv, hw', st2.trans hst⟩
            split at e
            · rename_i hex
              cases e
              cases hs with
              | sl hk a1 a2 a3 a4 =>
                obtain ⟨v', w', κ', q1, q2, q3, q4⟩ := tail h κ _ _ r (.refl _ _ _) rfl (by have := a3 hex; omega)
                exact ⟨_, _, v', w', κ', rfl, q1, q2, q3, q4⟩
              | slz =>
                obtain ⟨v', w', κ', q1, q2, q3, q4⟩ := tail h κ _ _ r (.refl _ _ _) rfl (by omega)
                exact ⟨_, _, v', w', κ', rfl, q1, q2, q3, q4⟩
            · rename_i hex
              split at e
              case h_2 => cases e
              rename_i l hbl
              split at e
              case isFalse => cases e
              rename_i hchk
              cases e
              have hkill := r.kill b (by rw [hbl]; rfl)
              cases hs with
              | sl hk a1 a2 a3 a4 =>
                rename_i k cap'
                by_cases hroom' : len + n ≤ cap'
                · -- in place, behind the end of what is told
                  obtain ⟨c, t, fr, R⟩ := r.row hbl hk
                  have hfr := R.wr rfl
                  subst hfr
                  have hone : new.all AVal.one = true := by
                    have := hchk; simp only [Bool.and_eq_true] at this; exact this.1
                  have hfit : k.o + off + len * esz + news.length ≤ c.size := by
                    rw [hnl, R.size]
                    have : (len + n) * esz ≤ cap' * esz := Nat.mul_le_mul_right _ hroom'
                    rw [Nat.add_mul] at this
                    omega
                  have hst := run_storeCells_at P k.r (k.o + off + len * esz) t news 0 c w R.heap (by simpa using hfit) (hnr.allOne hone)
                  simp only [Nat.add_zero] at hst
                  have hlen2 := (hor.append hnr).length
                  have htake : (c.toList.drop (k.o + off)).take (len * esz) = olds := by
                    have := hof w rfl
                    by_cases hl0 : len = 0
                    · subst hl0
                      have : olds = [] := List.eq_nil_of_length_eq_zero (by omega)
                      subst this; simp
                    · simp only [elemsOf, hl0, if_false] at hold
                      have hcs : cellsAt h b = some l := by simp [cellsAt, hbl]
                      rw [hcs] at hold
                      simp only [true_and, Nat.le_refl, if_true] at hold
                      obtain ⟨hle, _, _⟩ := span_len hold
                      have hcell : ∀ j v, ((c.toList.drop (k.o + off)).take (len * esz))[j]? = some v → w.cell? ((⟨k.r, k.o + off, none⟩ : Addr).add j) = some v := by
                        intro j v hv
                        rw [add_lit, Nat.add_assoc, R.cell]
                        rw [List.getElem?_take] at hv
                        split at hv
                        · rw [List.getElem?_drop] at hv; simpa [Nat.add_assoc] using hv
                        · cases hv
                      have hl3 : ((c.toList.drop (k.o + off)).take (len * esz)).length = len * esz := by
                        have := R.fits; have := R.size
                        simp; omega
                      have := run_firstCells_some (P := P) w esz len ⟨k.r, k.o + off, none⟩ len cap' _ hl3 hcell
                      have h2 := hof w rfl
                      rw [this] at h2
                      injection h2 with h3
                      simpa using congrArg Array.toList h3
                  have mv := WRel.move (κ := κ) (h := h) (w := w) r (k2 := ⟨k.r, k.o + off, k.e⟩) (o2 := .cells (old ++ new) true) hbl rfl hk
                    (fun i hi => setRow_other w k.r i _ hi) (by simp [World.setRow]) rfl rfl rfl rfl (setRow_heap w k.r c
                      (c.toList.take (k.o + off + len * esz) ++ news ++ c.toList.drop (k.o + off + len * esz + news.length)).toArray t (0, 0) R.heap) (by
                      refine ⟨?_, ?_, ?_, fun _ => rfl⟩
                      · have := R.size; simp; omega
                      · rw [← hlen2, List.length_append, hol, hnl]
                        have : (len + n) * esz ≤ cap' * esz := Nat.mul_le_mul_right _ hroom'
                        rw [Nat.add_mul] at this
                        simp only; omega
                      · have : ((c.toList.take (k.o + off + len * esz) ++ news ++ c.toList.drop (k.o + off + len * esz + news.length)).drop (k.o + off)).take (old ++ new).length = olds ++ news := by
                          rw [← hlen2, List.length_append, hol]
                          have hd : (c.toList.take (k.o + off + len * esz)).length = k.o + off + len * esz := by
                            have := R.size; simp; omega
                          rw [List.append_assoc, List.drop_append_of_le_length (by omega), List.take_append, List.drop_take]
                          rw [show k.o + off + len * esz - (k.o + off) = len * esz by omega, htake]
                          rw [hol]
                          rw [List.take_of_length_le (by omega : olds.length ≤ len * esz + news.length)]
                          rw [show len * esz + news.length - len * esz = news.length by omega, List.take_left]
                        simp only at this ⊢
                        rw [this]
                        exact (hor.append hnr).mono (Kap.ext_put r _))
                  refine ⟨_, _, .slice (some ⟨k.r, k.o + off, none⟩) (len + n) cap', _, _, rfl, ?_, ?_, mv.1, mv.2⟩
                  · rw [run_append_head h0 h1 hu hxu hz _ len cap' x' hlo hroom', hnf w rfl]
                    simp only [Result.andThen_ok, add_lit]
                    rw [hst]
                    rfl
                  · have := VRel.sl (κ := Kap.put κ h.next ⟨k.r, k.o + off, k.e⟩) (b := h.next) (off := 0) (len := len + n) (cap := len + n) (ex := false) (esz := esz) (cap' := cap') (Kap.put_same _ _ _) (Nat.le_refl _) hroom' (by simp) (by simpa using a4)
                    simpa using this
                · obtain ⟨v', w', κ', q1, q2, q3, q4⟩ := tail (h.set b .dead) κ _ _ hkill.1 hkill.2 rfl hroom'
                  exact ⟨_, _, v', w', κ', rfl, q1, q2, q3, q4⟩
              | slz =>
                obtain ⟨v', w', κ', q1, q2, q3, q4⟩ := tail (h.set b .dead) κ _ _ hkill.1 hkill.2 rfl (by omega)
                exact ⟨_, _, v', w', κ', rfl, q1, q2, q3, q4⟩
    · cases e

end
end Go.Aev
