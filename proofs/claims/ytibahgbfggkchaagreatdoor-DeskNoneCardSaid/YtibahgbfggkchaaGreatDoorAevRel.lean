/- The tie between the abstract memory and the model's: values, blocks, worlds; what one step keeps. -/
import Derived.Test.YtibahgbfggkchaaGreatDoorAevDef
import Derived.Below
import Derived.Laws.Tables
import Derived.Laws.CopyRow
namespace Go.Aev

theorem bifb {α : Type} (a b : Nat) (x y : α) : (Bool.rec (motive := fun _ => α) y x (Nat.beq a b)) = if a = b then x else y := by
  by_cases h : a = b
  · subst h
    rw [if_pos rfl]
    have : Nat.beq a a = true := by simp
    rw [this]
  · have : Nat.beq a b = false := by
      cases hq : Nat.beq a b with
      | false => rfl
      | true => exact absurd (Nat.eq_of_beq_eq_true hq) h
    rw [if_neg h, this]

theorem T.get_nil {α : Type} (k : Nat) : (T.nil : T α).get k = none := rfl
theorem T.get_node {α : Type} (v : Option α) (l r : T α) (k : Nat) : (T.node v l r).get k = if k = 0 then v else if k % 2 = 1 then l.get (k / 2) else r.get (k / 2 - 1) := by
  rw [← bifb, ← bifb]; rfl
theorem T.one_succ {α : Type} (v : α) (n k : Nat) : T.one v (n + 1) k = if k = 0 then .node (some v) .nil .nil else if k % 2 = 1 then .node none (T.one v n (k / 2)) .nil else .node none .nil (T.one v n (k / 2 - 1)) := by
  rw [← bifb, ← bifb]; rfl
theorem T.set_nil {α : Type} (v : α) (k : Nat) : (T.nil : T α).set k v = T.one v (k + 1) k := rfl
theorem T.set_node {α : Type} (v : α) (u : Option α) (l r : T α) (k : Nat) : (T.node u l r).set k v = if k = 0 then .node (some v) l r else if k % 2 = 1 then .node u (l.set (k / 2) v) r else .node u l (r.set (k / 2 - 1) v) := by
  rw [← bifb, ← bifb]; rfl

theorem T.get_one {α : Type} (v : α) : ∀ (n k j : Nat), k < n → (T.one v n k).get j = if j = k then some v else none := by
  intro n
  induction n with
  | zero => intro k j h; omega
  | succ n ih =>
    intro k j h
    rw [T.one_succ]
    by_cases hk : k = 0
    · subst hk
      simp only [if_true, T.get_node, T.get_nil]
      by_cases hj : j = 0
      · simp [hj]
      · simp [hj]
    · simp only [hk, if_false]
      by_cases ho : k % 2 = 1
      · simp only [ho, if_true, T.get_node, T.get_nil]
        by_cases hj : j = 0
        · subst hj; rw [if_neg (fun e : 0 = k => hk e.symm)]; simp
        · simp only [hj, if_false]
          by_cases hjo : j % 2 = 1
          · simp only [hjo, if_true]
            rw [ih _ _ (by omega)]
            have : j / 2 = k / 2 ↔ j = k := by omega
            simp [this]
          · have : ¬ j = k := by intro e; subst e; exact hjo ho
            simp [hjo, this]
      · simp only [ho, if_false, T.get_node, T.get_nil]
        by_cases hj : j = 0
        · subst hj; rw [if_neg (fun e : 0 = k => hk e.symm)]; simp
        · simp only [hj, if_false]
          by_cases hjo : j % 2 = 1
          · have : ¬ j = k := by intro e; subst e; exact ho hjo
            simp [hjo, this]
          · simp only [hjo, if_false]
            rw [ih _ _ (by omega)]
            have : j / 2 - 1 = k / 2 - 1 ↔ j = k := by omega
            simp [this]

theorem T.get_set {α : Type} (t : T α) (k j : Nat) (v : α) : (t.set k v).get j = if j = k then some v else t.get j := by
  induction t generalizing k j with
  | nil => rw [T.set_nil, T.get_one v _ k j (by omega)]; rfl
  | node u l r ihl ihr =>
    rw [T.set_node]
    by_cases hk : k = 0
    · subst hk
      simp only [if_true, T.get_node]
      by_cases hj : j = 0 <;> simp [hj]
    · simp only [hk, if_false]
      by_cases ho : k % 2 = 1
      · simp only [ho, if_true, T.get_node]
        by_cases hj : j = 0
        · subst hj; rw [if_neg (fun e : 0 = k => hk e.symm)]; simp
        · simp only [hj, if_false]
          by_cases hjo : j % 2 = 1
          · simp only [hjo, if_true]
            rw [ihl]
            have : j / 2 = k / 2 ↔ j = k := by omega
            simp [this]
          · have : ¬ j = k := by intro e; subst e; exact hjo ho
            simp [hjo, this]
      · simp only [ho, if_false, T.get_node]
        by_cases hj : j = 0
        · subst hj; rw [if_neg (fun e : 0 = k => hk e.symm)]; simp
        · simp only [hj, if_false]
          by_cases hjo : j % 2 = 1
          · have : ¬ j = k := by intro e; subst e; exact ho hjo
            simp [hjo, this]
          · simp only [hjo, if_false]
            rw [ihr]
            have : j / 2 - 1 = k / 2 - 1 ↔ j = k := by omega
            simp [this]

theorem get_set (h : AHeap) (b c : Nat) (o : AObj) : (h.set b o).get c = if c = b then some o else h.get c := T.get_set _ _ _ _
theorem get_new (h : AHeap) (c : Nat) (o : AObj) : (h.new o).get c = if c = h.next then some o else h.get c := T.get_set _ _ _ _
theorem next_set (h : AHeap) (b : Nat) (o : AObj) : (h.set b o).next = h.next := rfl
theorem next_new (h : AHeap) (o : AObj) : (h.new o).next = h.next + 1 := rfl

structure Blk where
  r : Nat
  o : Nat
  e : Nat

abbrev Kap := Nat → Option Blk

mutual
inductive VRel (κ : Kap) : AVal → Value → Prop
  | bool (b : Bool) : VRel κ (.bool b) (.bool b)
  | int (k : IntKind) (n : Int) : VRel κ (.int k n) (.int k n)
  | float (k : FloatKind) (b : Nat) : VRel κ (.float k b) (.float k b)
  | str (s : ByteArray) : VRel κ (.str s) (.string s)
  | nilp : VRel κ .nilp (.pointer none)
  | ptr {b off : Nat} {k : Blk} (h : κ b = some k) : VRel κ (.ptr b off) (.pointer (some ⟨k.r, k.o + off, none⟩))
  | nilsl : VRel κ .nilsl (.slice none 0 0)
  | sl {b off len cap : Nat} {ex : Bool} {esz : Nat} {k : Blk} {cap' : Nat} (h : κ b = some k) (hl : len ≤ cap) (hc : cap ≤ cap')
      (hx : ex = true → cap' = cap) (he : k.o + off + cap' * esz ≤ k.e) :
      VRel κ (.sl b off len cap ex esz) (.slice (some ⟨k.r, k.o + off, none⟩) len cap')
  | slz {b off : Nat} {ex : Bool} {esz : Nat} {a : Addr} : VRel κ (.sl b off 0 0 ex esz) (.slice (some a) 0 0)
  | nilmap : VRel κ .nilmap (.map none)
  | map {b : Nat} {k : Blk} (h : κ b = some k) : VRel κ (.map b) (.map (some k.r))
  | fn {f : FuncId} {first cap : List AVal} {first' cap' : Array Value} (h1 : VRels κ first first'.toList) (h2 : VRels κ cap cap'.toList) :
      VRel κ (.fn f first cap) (.func (.func f) first' cap')
  | nilfn : VRel κ .nilfn .nilFunc
  | ifc {t : TypeId} {v : AVal} {v' : Value} (h : VRel κ v v') : VRel κ (.ifc t v) (.iface t v')
  | nilifc : VRel κ .nilifc .nilIface
  | agg {l : List AVal} {a : Array Value} (h : VRels κ l a.toList) : VRel κ (.agg l) (.agg a)
  | tup {l : List AVal} {a : Array Value} (h : VRels κ l a.toList) : VRel κ (.tup l) (.tuple a)
  /-- any value at all that takes one cell, if this one does -/
  | other (v : Value) {u : Value} (h : v.oneCell = true → u.oneCell = true) : VRel κ (.other v) u
inductive VRels (κ : Kap) : List AVal → List Value → Prop
  | nil : VRels κ [] []
  | cons {a : AVal} {v : Value} {l : List AVal} {l' : List Value} (h : VRel κ a v) (t : VRels κ l l') : VRels κ (a :: l) (v :: l')
end

def Ext (κ κ' : Kap) : Prop := ∀ b k, κ b = some k → κ' b = some k

mutual
theorem VRel.mono {κ κ' : Kap} (e : Ext κ κ') : ∀ {a : AVal} {v : Value}, VRel κ a v → VRel κ' a v
  | _, _, .bool b => .bool b
  | _, _, .int k n => .int k n
  | _, _, .float k b => .float k b
  | _, _, .str s => .str s
  | _, _, .nilp => .nilp
  | _, _, .ptr h => .ptr (e _ _ h)
  | _, _, .nilsl => .nilsl
  | _, _, .sl h a b c d => .sl (e _ _ h) a b c d
  | _, _, .slz => .slz
  | _, _, .nilmap => .nilmap
  | _, _, .map h => .map (e _ _ h)
  | _, _, .fn h1 h2 => .fn (VRels.mono e h1) (VRels.mono e h2)
  | _, _, .nilfn => .nilfn
  | _, _, .ifc h => .ifc (VRel.mono e h)
  | _, _, .nilifc => .nilifc
  | _, _, .agg h => .agg (VRels.mono e h)
  | _, _, .tup h => .tup (VRels.mono e h)
  | _, _, .other v h => .other v h
theorem VRels.mono {κ κ' : Kap} (e : Ext κ κ') : ∀ {l : List AVal} {l' : List Value}, VRels κ l l' → VRels κ' l l'
  | _, _, .nil => .nil
  | _, _, .cons h t => .cons (VRel.mono e h) (VRels.mono e t)
end

section
variable {κ : Kap}

theorem VRels.length {l : List AVal} {l' : List Value} (h : VRels κ l l') : l'.length = l.length := by
  induction l generalizing l' with
  | nil => cases h; rfl
  | cons a l ih => cases h with | cons h t => simp [ih t]

theorem VRels.get {l : List AVal} {l' : List Value} (h : VRels κ l l') {i : Nat} {a : AVal} (ha : l[i]? = some a) : ∃ v, l'[i]? = some v ∧ VRel κ a v := by
  induction l generalizing l' i with
  | nil => simp at ha
  | cons x l ih =>
    cases h with
    | cons h t =>
      cases i with
      | zero => simp at ha; subst ha; exact ⟨_, by simp, h⟩
      | succ i => simp at ha; obtain ⟨v, hv, hr⟩ := ih t ha; exact ⟨v, by simpa using hv, hr⟩

theorem VRels.of_get {l : List AVal} {l' : List Value} (hl : l'.length = l.length) (h : ∀ (i : Nat) (a : AVal) (v : Value), l[i]? = some a → l'[i]? = some v → VRel κ a v) : VRels κ l l' := by
  induction l generalizing l' with
  | nil => cases l' with
    | nil => exact .nil
    | cons _ _ => simp at hl
  | cons a l ih => cases l' with
    | nil => simp at hl
    | cons v l' => exact .cons (h 0 a v (by simp) (by simp)) (ih (by simpa using hl) fun i a v ha hv => h (i + 1) a v (by simpa using ha) (by simpa using hv))

theorem VRels.append {l m : List AVal} {l' m' : List Value} (h : VRels κ l l') (g : VRels κ m m') : VRels κ (l ++ m) (l' ++ m') := by
  induction l generalizing l' with
  | nil => cases h; exact g
  | cons a l ih => cases h with | cons h t => exact .cons h (ih t)

theorem VRels.take {l : List AVal} {l' : List Value} (n : Nat) (h : VRels κ l l') : VRels κ (l.take n) (l'.take n) := by
  induction n generalizing l l' with
  | zero => simp; exact .nil
  | succ n ih => cases h with
    | nil => simp; exact .nil
    | cons h t => simp; exact .cons h (ih t)

theorem VRels.drop {l : List AVal} {l' : List Value} (n : Nat) (h : VRels κ l l') : VRels κ (l.drop n) (l'.drop n) := by
  induction n generalizing l l' with
  | zero => simpa using h
  | succ n ih => cases h with
    | nil => simp; exact .nil
    | cons h t => simpa using ih t

theorem VRels.single {a : AVal} {v : Value} (h : VRel κ a v) : VRels κ [a] [v] := .cons h .nil

/-- a value's cells -/
theorem VRel.cells {a : AVal} {v : Value} (h : VRel κ a v) (ho : ∀ u, a ≠ .other u) : VRels κ a.cells v.cells.toList := by
  cases h <;> first
    | exact absurd rfl (ho _)
    | (simp only [AVal.cells, Value.cells]; assumption)
    | (simp only [AVal.cells, Value.cells]; exact .single (by constructor <;> assumption))
    | (simp only [AVal.cells, Value.cells]; exact .single (by first | exact .slz | exact .bool _ | exact .int _ _ | exact .float _ _ | exact .str _ | exact .nilp | exact .nilsl | exact .nilmap | exact .nilfn | exact .nilifc))

theorem VRel.one {a : AVal} {v : Value} (h : VRel κ a v) (ho : a.one = true) : v.oneCell = true := by
  cases h <;> first | rfl | (simp [AVal.one] at ho; done) | exact ho | (rename_i h; exact h ho)

theorem VRel.ofOne (v : Value) : VRel κ (AVal.ofOne v) v := by
  cases v <;> try (first | exact .bool _ | exact .int _ _ | exact .float _ _ | exact .str _ | exact .nilFunc | exact .nilfn | exact .nilifc | exact .other _ id)
  case pointer a => cases a with
    | none => exact .nilp
    | some a => exact .other _ id
  case slice a n c =>
    cases a with
    | some a => exact .other _ id
    | none => cases n with
      | succ n => exact .other _ id
      | zero => cases c with
        | succ c => exact .other _ id
        | zero => exact .nilsl
  case map r => cases r with
    | none => exact .nilmap
    | some a => exact .other _ id

theorem VRels.ofOne (l : List Value) : VRels κ (l.map AVal.ofOne) l := by
  induction l with
  | nil => exact .nil
  | cons v l ih => exact .cons (.ofOne v) ih

theorem VRel.of (v : Value) : VRel κ (AVal.of v) v := by
  cases v
  case agg cs => exact .agg (VRels.ofOne _)
  case tuple cs => exact .tup (VRels.ofOne _)
  case iface t v =>
    cases v <;> first
      | exact .ifc (.agg (VRels.ofOne _))
      | exact .ifc (VRel.ofOne _)
  all_goals (unfold AVal.of; exact VRel.ofOne _)
end

/-! ### worlds -/

def AObj.own : AObj → Bool
  | .cells _ rw => rw
  | .map .. | .iter .. | .siter .. => true
  | .dead => false

def AObj.alive : AObj → Bool
  | .dead => false
  | _ => true

def ERel (κ : Kap) (e : AEnt) (e' : MapEntry) : Prop := VRel κ e.key e'.key ∧ VRel κ e.val e'.val ∧ e'.born = e.born

inductive ERels (κ : Kap) : List AEnt → List MapEntry → Prop
  | nil : ERels κ [] []
  | cons {a : AEnt} {v : MapEntry} {l : List AEnt} {l' : List MapEntry} (h : ERel κ a v) (t : ERels κ l l') : ERels κ (a :: l) (v :: l')

theorem ERel.mono {κ κ' : Kap} (e : Ext κ κ') {a : AEnt} {v : MapEntry} (h : ERel κ a v) : ERel κ' a v := ⟨h.1.mono e, h.2.1.mono e, h.2.2⟩
theorem ERels.mono {κ κ' : Kap} (e : Ext κ κ') {l : List AEnt} {l' : List MapEntry} (h : ERels κ l l') : ERels κ' l l' := by
  induction h with
  | nil => exact .nil
  | cons h _ ih => exact .cons (h.mono e) ih
theorem ERels.length {κ : Kap} {l : List AEnt} {l' : List MapEntry} (h : ERels κ l l') : l'.length = l.length := by
  induction h with
  | nil => rfl
  | cons _ _ ih => simp [ih]

/-- a block of the model is as an object says -/
def ORel (κ : Kap) (k : Blk) : AObj → Obj → Prop
  | .cells l rw, .cells c _ fr => c.size = k.e ∧ k.o + l.length ≤ k.e ∧ VRels κ l ((c.toList.drop k.o).take l.length) ∧ (rw = true → fr = (0, 0))
  | .map es clock, .map es' clock' => ERels κ es es'.toList ∧ clock' = clock
  | .iter m since seen last, .mapIter m' since' seen' last' =>
    (match m, m' with
      | none, none => True
      | some b, some r => ∃ k2, κ b = some k2 ∧ k2.r = r
      | _, _ => False) ∧ since' = since ∧ seen'.toList = seen ∧ last' = last ∧ k.o = 0
  | .siter s pos, .stringIter s' pos' => s' = s ∧ pos' = pos ∧ k.o = 0
  | .dead, _ => True
  | _, _ => False

theorem ORel.mono {κ κ' : Kap} (e : Ext κ κ') {k : Blk} {o : AObj} {o' : Obj} (h : ORel κ k o o') : ORel κ' k o o' := by
  cases o <;> cases o' <;> simp only [ORel] at h ⊢ <;> try exact h
  · exact ⟨h.1, h.2.1, h.2.2.1.mono e, h.2.2.2⟩
  · exact ⟨h.1.mono e, h.2⟩
  · rename_i m _ _ _ m' _ _ _
    refine ⟨?_, h.2⟩
    have h1 := h.1
    cases m <;> cases m' <;> simp only at h1 ⊢
    obtain ⟨k2, a, b⟩ := h1
    exact ⟨k2, e _ _ a, b⟩

structure WRel (κ : Kap) (h : AHeap) (w : World) : Prop where
  dom : ∀ b, h.next ≤ b → h.get b = none
  fresh : ∀ b, h.next ≤ b → κ b = none
  inb : ∀ b k, κ b = some k → k.r < w.heap.size
  obj : ∀ b o k, h.get b = some o → κ b = some k → o.alive = true → ∃ o', w.heap[k.r]? = some o' ∧ ORel κ k o o'
  inj : ∀ b b' o o' k k', h.get b = some o → o.own = true → h.get b' = some o' → o'.alive = true → κ b = some k → κ b' = some k' → k.r = k'.r → b = b'

structure Stp (κ : Kap) (h : AHeap) (w : World) (κ' : Kap) (h' : AHeap) (w' : World) : Prop where
  keep : ∀ b, b < h.next → κ' b = κ b
  next : h.next ≤ h'.next
  os : w'.os = w.os
  tape : w'.tape = w.tape
  output : w'.output = w.output
  size : w.heap.size ≤ w'.heap.size
  frame : ∀ r, r < w.heap.size → (∀ b o k, h.get b = some o → o.own = true → κ b = some k → k.r ≠ r) → w'.heap[r]? = w.heap[r]?
  own : ∀ b' o k, h'.get b' = some o → o.own = true → κ' b' = some k → k.r < w.heap.size → ∃ b o' k', h.get b = some o' ∧ o'.own = true ∧ κ b = some k' ∧ k'.r = k.r

theorem Stp.refl (κ : Kap) (h : AHeap) (w : World) : Stp κ h w κ h w :=
  ⟨fun _ _ => rfl, Nat.le_refl _, rfl, rfl, rfl, Nat.le_refl _, fun _ _ _ => rfl, fun b o k a b' c _ => ⟨b, o, k, a, b', c, rfl⟩⟩

theorem Stp.trans {κ κ' κ2 : Kap} {h h' h2 : AHeap} {w w' w2 : World} (a : Stp κ h w κ' h' w') (b : Stp κ' h' w' κ2 h2 w2) : Stp κ h w κ2 h2 w2 where
  keep := fun x hx => (b.keep x (Nat.lt_of_lt_of_le hx a.next)).trans (a.keep x hx)
  next := Nat.le_trans a.next b.next
  os := b.os.trans a.os
  tape := b.tape.trans a.tape
  output := b.output.trans a.output
  size := Nat.le_trans a.size b.size
  frame := fun r hr hn => by
    rw [b.frame r (Nat.lt_of_lt_of_le hr a.size) ?_, a.frame r hr hn]
    intro x o k hx ho hk he
    obtain ⟨y, o', k', hy, ho', hk', he'⟩ := a.own x o k hx ho hk (by omega)
    exact hn y o' k' hy ho' hk' (by omega)
  own := fun x o k hx ho hk hr => by
    obtain ⟨y, o', k', hy, ho', hk', he'⟩ := b.own x o k hx ho hk (by have := a.size; omega)
    obtain ⟨z, o2, k2, hz, ho2, hk2, he2⟩ := a.own y o' k' hy ho' hk' (by omega)
    exact ⟨z, o2, k2, hz, ho2, hk2, by omega⟩

theorem Stp.ext {κ κ' : Kap} {h h' : AHeap} {w w' : World} (s : Stp κ h w κ' h' w') (r : WRel κ h w) : Ext κ κ' := fun b k hb => by
  rcases Nat.lt_or_ge b h.next with hlt | hge
  · rw [s.keep b hlt]; exact hb
  · rw [r.fresh b hge] at hb; cases hb

/-- the world turned at nothing but what it has drawn -/
theorem Stp.drew (κ : Kap) (h : AHeap) (w : World) : Stp κ h w κ h w.drew :=
  ⟨fun _ _ => rfl, Nat.le_refl _, rfl, rfl, rfl, Nat.le_refl _, fun _ _ _ => rfl, fun b o k a b' c _ => ⟨b, o, k, a, b', c, rfl⟩⟩
theorem WRel.drew {κ : Kap} {h : AHeap} {w : World} (r : WRel κ h w) : WRel κ h w.drew := ⟨r.dom, r.fresh, r.inb, r.obj, r.inj⟩

def Kap.put (κ : Kap) (b : Nat) (k : Blk) : Kap := fun c => if c = b then some k else κ c

theorem Kap.ext_put {κ : Kap} {h : AHeap} {w : World} (r : WRel κ h w) (k : Blk) : Ext κ (Kap.put κ h.next k) := fun b k' hb => by
  unfold Kap.put
  split
  · rename_i e; subst e; rw [r.fresh _ (Nat.le_refl _)] at hb; cases hb
  · exact hb

theorem heap_alloc_lt (w : World) (o : Obj) (i : Nat) (h : i < w.heap.size) : (w.alloc o).heap[i]? = w.heap[i]? := by
  simp only [World.alloc, Array.getElem?_push]; rw [if_neg (by omega)]
theorem heap_alloc_eq (w : World) (o : Obj) : (w.alloc o).heap[w.heap.size]? = some o := by
  simp only [World.alloc, Array.getElem?_push, if_true]

/-- a new block on both sides -/
theorem WRel.new {κ : Kap} {h : AHeap} {w : World} (r : WRel κ h w) (o : AObj) (o' : Obj) (e : Nat)
    (ho : ORel (Kap.put κ h.next ⟨w.heap.size, 0, e⟩) ⟨w.heap.size, 0, e⟩ o o') :
    WRel (Kap.put κ h.next ⟨w.heap.size, 0, e⟩) (h.new o) (w.alloc o') ∧ Stp κ h w (Kap.put κ h.next ⟨w.heap.size, 0, e⟩) (h.new o) (w.alloc o') := by
  have hext := Kap.ext_put r ⟨w.heap.size, 0, e⟩
  have old : ∀ c k, c ≠ h.next → Kap.put κ h.next ⟨w.heap.size, 0, e⟩ c = some k → κ c = some k := fun c k hc hk => by
    unfold Kap.put at hk; rwa [if_neg hc] at hk
  refine ⟨⟨?_, ?_, ?_, ?_, ?_⟩, ⟨?_, ?_, rfl, rfl, rfl, ?_, ?_, ?_⟩⟩
  · intro b hb
    rw [next_new] at hb
    rw [get_new, if_neg (by omega)]
    exact r.dom b (by omega)
  · intro b hb
    rw [next_new] at hb
    unfold Kap.put
    rw [if_neg (by omega)]
    exact r.fresh b (by omega)
  · intro b k hk
    unfold Kap.put at hk
    split at hk
    · cases hk; simp
    · have := r.inb b k hk; simp; omega
  · intro b x k hb hk ha
    rw [get_new] at hb
    by_cases e1 : b = h.next
    · subst e1
      simp at hb; subst hb
      unfold Kap.put at hk; simp at hk; subst hk
      exact ⟨o', heap_alloc_eq w o', ho⟩
    · rw [if_neg e1] at hb
      have hk' := old b k e1 hk
      obtain ⟨y, hy, hr⟩ := r.obj b x k hb hk' ha
      exact ⟨y, by rw [heap_alloc_lt w o' k.r (r.inb b k hk')]; exact hy, hr.mono hext⟩
  · intro b b' x x' k k' hb hx hb' hx' hk hk' he
    rw [get_new] at hb hb'
    by_cases e1 : b = h.next
    · by_cases e2 : b' = h.next
      · rw [e1, e2]
      · have := r.inb b' k' (old b' k' e2 hk')
        subst e1
        unfold Kap.put at hk; simp at hk; subst hk
        simp at he; omega
    · by_cases e2 : b' = h.next
      · have := r.inb b k (old b k e1 hk)
        subst e2
        unfold Kap.put at hk'; simp at hk'; subst hk'
        simp at he; omega
      · rw [if_neg e1] at hb
        rw [if_neg e2] at hb'
        exact r.inj b b' x x' k k' hb hx hb' hx' (old b k e1 hk) (old b' k' e2 hk') he
  · intro b hb
    unfold Kap.put; rw [if_neg (by omega)]
  · rw [next_new]; omega
  · simp
  · intro i hi _; exact heap_alloc_lt w o' i hi
  · intro b' x k hb hx hk hr
    rw [get_new] at hb
    by_cases e1 : b' = h.next
    · subst e1
      unfold Kap.put at hk; simp at hk; subst hk
      simp at hr
    · rw [if_neg e1] at hb
      exact ⟨b', x, k, hb, hx, old b' k e1 hk, rfl⟩

/-- an object that is owned turns on both sides -/
theorem WRel.upd {κ : Kap} {h : AHeap} {w w' : World} (r : WRel κ h w) {b : Nat} {o1 o2 : AObj} {k : Blk} (hb : h.get b = some o1) (hown : o1.own = true)
    (hk : κ b = some k) (hw : ∀ i, i ≠ k.r → w'.heap[i]? = w.heap[i]?) (hs : w'.heap.size = w.heap.size)
    (hos : w'.os = w.os) (htape : w'.tape = w.tape) (hout : w'.output = w.output)
    {o' : Obj} (ho' : w'.heap[k.r]? = some o') (ho : ORel κ k o2 o') :
    WRel κ (h.set b o2) w' ∧ Stp κ h w κ (h.set b o2) w' := by
  have aliveOf : ∀ o : AObj, o.own = true → o.alive = true := by
    intro o; cases o <;> simp [AObj.own, AObj.alive]
  refine ⟨⟨?_, ?_, ?_, ?_, ?_⟩, ⟨fun _ _ => rfl, Nat.le_refl _, hos, htape, hout, by omega, ?_, ?_⟩⟩
  · intro c hc
    rw [next_set] at hc
    have := r.dom c hc
    rw [get_set]
    by_cases e : c = b
    · subst e; rw [this] at hb; cases hb
    · rw [if_neg e]; exact this
  · exact r.fresh
  · intro c k' hc; rw [hs]; exact r.inb c k' hc
  · intro c x k' hc hk' ha
    rw [get_set] at hc
    by_cases e : c = b
    · subst e
      simp at hc; subst hc
      rw [hk] at hk'; cases hk'
      exact ⟨o', ho', ho⟩
    · rw [if_neg e] at hc
      obtain ⟨y, hy, hr⟩ := r.obj c x k' hc hk' ha
      refine ⟨y, ?_, hr⟩
      rw [hw _ (fun e2 => e (r.inj b c o1 x k k' hb hown hc ha hk hk' e2.symm).symm)]
      exact hy
  · intro c c' x x' k1 k2 hc hx hc' hx' hk1 hk2 he
    rw [get_set] at hc hc'
    by_cases e1 : c = b
    · by_cases e2 : c' = b
      · rw [e1, e2]
      · rw [if_neg e2] at hc'
        subst e1
        exact r.inj c c' o1 x' k1 k2 hb hown hc' hx' hk1 hk2 he
    · rw [if_neg e1] at hc
      by_cases e2 : c' = b
      · subst e2
        exact r.inj c c' x o1 k1 k2 hc hx hb (aliveOf _ hown) hk1 hk2 he
      · rw [if_neg e2] at hc'
        exact r.inj c c' x x' k1 k2 hc hx hc' hx' hk1 hk2 he
  · intro i hi hn
    exact hw i (fun e => hn b o1 k hb hown hk e.symm)
  · intro c x k' hc hx hk' hr
    rw [get_set] at hc
    by_cases e : c = b
    · subst e; exact ⟨c, o1, k', hb, hown, hk', rfl⟩
    · rw [if_neg e] at hc; exact ⟨c, x, k', hc, hx, hk', rfl⟩

/-- a block that nobody names any more: what it held is given up on the abstract side -/
theorem WRel.kill {κ : Kap} {h : AHeap} {w : World} (r : WRel κ h w) (b : Nat) (hb : (h.get b).isSome = true) : WRel κ (h.set b .dead) w ∧ Stp κ h w κ (h.set b .dead) w := by
  refine ⟨⟨?_, r.fresh, r.inb, ?_, ?_⟩, ⟨fun _ _ => rfl, Nat.le_refl _, rfl, rfl, rfl, Nat.le_refl _, fun _ _ _ => rfl, ?_⟩⟩
  · intro c hc
    rw [next_set] at hc
    have := r.dom c hc
    rw [get_set]
    by_cases e : c = b
    · subst e; rw [this] at hb; cases hb
    · rw [if_neg e]; exact this
  · intro c x k hc hk ha
    rw [get_set] at hc
    by_cases e : c = b
    · subst e; simp at hc; subst hc; simp [AObj.alive] at ha
    · rw [if_neg e] at hc; exact r.obj c x k hc hk ha
  · intro c c' x x' k1 k2 hc hx hc' hx' hk1 hk2 he
    rw [get_set] at hc hc'
    by_cases e1 : c = b
    · subst e1; simp at hc; subst hc; simp [AObj.own] at hx
    · rw [if_neg e1] at hc
      by_cases e2 : c' = b
      · subst e2; simp at hc'; subst hc'; simp [AObj.alive] at hx'
      · rw [if_neg e2] at hc'; exact r.inj c c' x x' k1 k2 hc hx hc' hx' hk1 hk2 he
  · intro c x k hc hx hk _
    rw [get_set] at hc
    by_cases e : c = b
    · subst e; simp at hc; subst hc; simp [AObj.own] at hx
    · rw [if_neg e] at hc; exact ⟨c, x, k, hc, hx, hk, rfl⟩

end Go.Aev
