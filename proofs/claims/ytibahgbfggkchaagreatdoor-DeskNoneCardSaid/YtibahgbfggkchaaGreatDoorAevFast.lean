/- The same reading, laid out so that the kernel runs it quickly: what does not hang on the state is read once. -/
import Derived.Test.YtibahgbfggkchaaGreatDoorAevCode
namespace Go.Aev

noncomputable section
structure GFn where
  run : T AVal → Option AVal

/-- the way to one temporary, read once -/
def gfn : Nat → Nat → GFn
  | 0, k => ⟨fun t => t.get k⟩
  | n + 1, k => Bool.rec (Bool.rec ⟨fun t => T.rec none (fun _ _ r _ _ => (gfn n (Nat.sub (Nat.div k 2) 1)).run r) t⟩ ⟨fun t => T.rec none (fun _ l _ _ _ => (gfn n (Nat.div k 2)).run l) t⟩ (Nat.beq (Nat.mod k 2) 1))
      ⟨fun t => T.rec none (fun v _ _ _ _ => v) t⟩ (Nat.beq k 0)

theorem gfn_eq : ∀ (n k : Nat) (t : T AVal), (gfn n k).run t = t.get k := by
  intro n
  induction n with
  | zero => intro k t; rfl
  | succ n ih =>
    intro k t
    rw [gfn]
    cases t with
    | nil =>
      cases Nat.beq k 0 with
      | true => rfl
      | false => cases Nat.beq (Nat.mod k 2) 1 with
        | true => rfl
        | false => rfl
    | node v l r =>
      show _ = Bool.rec (motive := fun _ => Option AVal) (Bool.rec (motive := fun _ => Option AVal) (r.get (Nat.sub (Nat.div k 2) 1)) (l.get (Nat.div k 2)) (Nat.beq (Nat.mod k 2) 1)) v (Nat.beq k 0)
      cases Nat.beq k 0 with
      | true => rfl
      | false => cases Nat.beq (Nat.mod k 2) 1 with
        | true => exact ih _ _
        | false => exact ih _ _

structure VFn where
  run : T AVal → AVal

def orUndef (o : Option AVal) : AVal := Option.rec .undef (fun v => v) o

def cval : Operand → VFn
  | .tmp t => ⟨fun tm => orUndef ((gfn 16 t).run tm)⟩
  | x => ⟨fun _ => aeval .nil x⟩

theorem cval_eq (x : Operand) (tm : T AVal) : (cval x).run tm = aeval tm x := by
  cases x with
  | tmp t =>
    show orUndef ((gfn 16 t).run tm) = _
    rw [gfn_eq]
    show orUndef _ = (tm.get t).getD .undef
    cases tm.get t <;> rfl
  | const v => rfl
  | global g => rfl
  | func f => rfl

/-- every second one, from this one on or from the next -/
def alt {α : Type} (l : List α) : Bool → List α :=
  List.rec (motive := fun _ => Bool → List α) (fun _ => []) (fun a _ g b => Bool.rec (g true) (a :: g false) b) l

theorem alt_get {α : Type} : ∀ (l : List α) (j : Nat), (alt l true)[j]? = l[2 * j]? ∧ (alt l false)[j]? = l[2 * j + 1]? := by
  intro l
  induction l with
  | nil => intro j; exact ⟨by simp [alt], by simp [alt]⟩
  | cons a r ih =>
    intro j
    constructor
    · show (a :: alt r false)[j]? = _
      cases j with
      | zero => rfl
      | succ j =>
        have : 2 * (j + 1) = 2 * j + 1 + 1 := by omega
        rw [this, List.getElem?_cons_succ, List.getElem?_cons_succ]
        exact (ih j).2
    · show (alt r true)[j]? = _
      rw [List.getElem?_cons_succ]
      exact (ih j).1

/-- a list's tree, laid out as it is asked for -/
def treeOf {α : Type} (n : Nat) : List α → T α :=
  Nat.rec (fun _ => .nil) (fun _ g l => List.rec .nil (fun a r _ => .node (some a) (g (alt r true)) (g (alt r false))) l) n

theorem treeOf_get {α : Type} : ∀ (n : Nat) (l : List α) (k : Nat) (a : α), (treeOf n l).get k = some a → l[k]? = some a := by
  intro n
  induction n with
  | zero => intro l k a h; cases h
  | succ n ih =>
    intro l k a h
    cases l with
    | nil => cases h
    | cons x r =>
      have h' : (T.node (some x) (treeOf n (alt r true)) (treeOf n (alt r false))).get k = some a := h
      rw [T.get_node] at h'
      split at h'
      · rename_i hk; subst hk; simpa using h'
      · rename_i hk
        split at h'
        · rename_i ho
          have := ih _ _ _ h'
          rw [(alt_get r _).1] at this
          have e : k = 2 * (k / 2) + 1 := by omega
          rw [e, List.getElem?_cons_succ]; exact this
        · rename_i ho
          have := ih _ _ _ h'
          rw [(alt_get r _).2] at this
          have e : k = 2 * (k / 2 - 1) + 1 + 1 := by omega
          rw [e, List.getElem?_cons_succ]; exact this

/-- a program's function, found quickly -/
def funOf (P : Program) (f : FuncId) : Option Func :=
  Option.rec (P.funcs[f]?) (fun fn => some fn) ((treeOf 16 P.funcs.toList).get f)

theorem funOf_eq (P : Program) (f : FuncId) : funOf P f = P.funcs[f]? := by
  unfold funOf
  cases h : (treeOf 16 P.funcs.toList).get f with
  | none => rfl
  | some fn =>
    have := treeOf_get _ _ _ _ h
    have e : P.funcs[f]? = some fn := by rw [← this]; simp
    rw [e]

def callableF (P : Program) (f : FuncId) : Bool :=
  match funOf P f with
  | some fn => fn.body.isSome && !(fn.name == "runtime.NumGoroutine")
  | none => false

theorem callableF_eq (P : Program) (f : FuncId) : callableF P f = callable P f := by
  unfold callableF callable; rw [funOf_eq]; cases P.funcs[f]? <;> rfl

structure OFn where
  run : T AVal → AHeap → Option ARes

end

structure SFn where
  run : Rec → ASt → Option (AExit × ASt)

structure Env where
  loops : Nat
  calls : Rec

structure CFn where
  run : Env → ASt → Option (AExit × ASt)

structure FFn where
  run : Env → List AVal → AHeap → Option (AEnd × AHeap)

noncomputable section
variable (P : Program)

/-- is it a pointer? -/
def AVal.asPtr (v : AVal) : Option (Nat × Nat) :=
  AVal.rec (motive_1 := fun _ => Option (Nat × Nat)) (motive_2 := fun _ => Unit) (fun _ => none) (fun _ _ => none) (fun _ _ => none) (fun _ => none) none (fun b o => some (b, o)) none (fun _ _ _ _ _ _ => none) none (fun _ => none) (fun _ _ _ _ _ => none) none
    (fun _ _ _ => none) none (fun _ _ => none) (fun _ _ => none) (fun _ => none) () (fun _ _ _ _ => ()) v

/-- is it a bool? -/
def AVal.asBool (v : AVal) : Option Bool :=
  AVal.rec (motive_1 := fun _ => Option Bool) (motive_2 := fun _ => Unit) (fun b => some b) (fun _ _ => none) (fun _ _ => none) (fun _ => none) none (fun _ _ => none) none (fun _ _ _ _ _ _ => none) none (fun _ => none) (fun _ _ _ _ _ => none) none
    (fun _ _ _ => none) none (fun _ _ => none) (fun _ _ => none) (fun _ => none) () (fun _ _ _ _ => ()) v

/-- is it an int of 64 bits, not below nought? -/
def AVal.asNat (v : AVal) : Option Nat :=
  AVal.rec (motive_1 := fun _ => Option Nat) (motive_2 := fun _ => Unit) (fun _ => none) (fun k n => IntKind.rec (motive := fun _ => Option Nat) none none none (Int.rec (fun m => some m) (fun _ => none) n) none none none none k) (fun _ _ => none) (fun _ => none) none (fun _ _ => none) none (fun _ _ _ _ _ _ => none) none (fun _ => none) (fun _ _ _ _ _ => none) none
    (fun _ _ _ => none) none (fun _ _ => none) (fun _ _ => none) (fun _ => none) () (fun _ _ _ _ => ()) v

theorem asNat_some {v : AVal} {m : Nat} (h : v.asNat = some m) : v = .int .i64 m := by
  cases v <;> try (cases h; done)
  rename_i k n
  cases k <;> try (cases h; done)
  cases n <;> cases h
  rfl

/-- sums and comparisons of small numbers, done at once -/
def nbin (op : BinOp) (slow : Option ARes) (h : AHeap) (a b : Nat) : Option ARes :=
  match op with
  | .add => Bool.rec slow (some (.val (.int .i64 (Int.ofNat (Nat.add a b))) h)) (Nat.blt (Nat.add a b) 4294967296)
  | .eql => some (.val (.bool (Nat.beq a b)) h)
  | .neq => some (.val (.bool (not (Nat.beq a b))) h)
  | .lss => some (.val (.bool (Nat.blt a b)) h)
  | .leq => some (.val (.bool (Nat.ble a b)) h)
  | .gtr => some (.val (.bool (Nat.blt b a)) h)
  | .geq => some (.val (.bool (Nat.ble b a)) h)
  | _ => slow

def cop (o : Oper) : OFn :=
  match o.op with
  | .move x => ⟨fun tm h => some (.val ((cval x).run tm) h)⟩
  | .assign x => ⟨fun tm h => some (.val ((cval x).run tm) h)⟩
  | .pick c a b => ⟨fun tm h => match ((cval c).run tm).asBool with
    | some t => some (.val (if t then (cval a).run tm else (cval b).run tm) h)
    | none => none⟩
  | .load t a => match aggD P t, szD P t with
    | some g, some n => ⟨fun tm h => match ((cval a).run tm).asPtr with
      | some p => (aload h g n p.1 p.2).map (.val · h)
      | none => none⟩
    | _, _ => ⟨fun _ _ => none⟩
  | .store t a x => match szD P t with
    | some n => ⟨fun tm h => match ((cval a).run tm).asPtr with
      | some p => if ((cval x).run tm).plain = true ∧ ((cval x).run tm).cells.length = n then (aput h p.1 p.2 ((cval x).run tm).cells).map .skip else none
      | none => none⟩
    | none => ⟨fun _ _ => none⟩
  | .nilCheck x => ⟨fun tm h => match ((cval x).run tm).asPtr with
    | some p => some (.val (.ptr p.1 p.2) h)
    | none => none⟩
  | .binOp op t x y _ => ⟨fun tm h => match ((cval x).run tm).asNat, ((cval y).run tm).asNat with
    | some a, some b => nbin op ((abin P op t x y ((cval x).run tm) ((cval y).run tm)).map (.val · h)) h a b
    | _, _ => (abin P op t x y ((cval x).run tm) ((cval y).run tm)).map (.val · h)⟩
  | .fieldAddr t x f => ⟨fun tm h => (afieldAt P t ((cval x).run tm) f).map (.val · h)⟩
  | .field t x f => ⟨fun tm h => (afield P t ((cval x).run tm) f).map (.val · h)⟩
  | .indexAddr t x i => ⟨fun tm h => (aindexAt P t ((cval x).run tm) ((cval i).run tm)).map (.val · h)⟩
  | .index t x i => ⟨fun tm h => (aindex P t ((cval x).run tm) ((cval i).run tm)).map (.val · h)⟩
  | .extract t i => ⟨fun tm h => match (cval t).run tm with
    | .tup l => (l[i]?).map (.val · h)
    | _ => none⟩
  | .call c =>
    match c.callee with
    | .builtin b => ⟨fun tm h => abuiltin P b c.argTypes (c.args.toList.map fun x => (cval x).run tm) h⟩
    | .value f => ⟨fun tm _ => match (cval f).run tm with
      | .fn g first cap => if callableF P g then some (.call g (first ++ (c.args.toList.map fun x => (cval x).run tm) ++ cap)) else none
      | _ => none⟩
    | .invoke .. => ⟨fun _ _ => none⟩
  | .alloc t => match zeroD P t with
    | some z => ⟨fun _ h => some (.val (anew h z.cells).1 (anew h z.cells).2)⟩
    | none => ⟨fun _ _ => none⟩
  | .box _ x => ⟨fun tm h => if ((cval x).run tm).plain then some (.val (anew h ((cval x).run tm).cells).1 (anew h ((cval x).run tm).cells).2) else none⟩
  | .build t parts => ⟨fun tm h => (abuild P t (parts.toList.map fun x => (x.1, (cval x.2).run tm))).map (.val · h)⟩
  | .buildSlice t n parts => ⟨fun tm h => abuildSlice P h t n (parts.toList.map fun x => (x.1, (cval x.2).run tm))⟩
  | .unOp op _ x => ⟨fun tm h => (aunary op ((cval x).run tm)).map (.val · h)⟩
  | .convert s d x => ⟨fun tm h => (aconvert P s d ((cval x).run tm)).map (.val · h)⟩
  | .makeMap _ none => ⟨fun _ h => some (.val (.map h.next) (h.new (.map [] 0)))⟩
  | .makeSlice t l c => ⟨fun tm h => amakeSlice P h t ((cval l).run tm) ((cval c).run tm)⟩
  | .slice t x lo hi mx => ⟨fun tm h => (aslice P t ((cval x).run tm) (lo.map fun x => (cval x).run tm) (hi.map fun x => (cval x).run tm) (mx.map fun x => (cval x).run tm)).map (.val · h)⟩
  | .lookup t x i ok => ⟨fun tm h => (alookup P h t ((cval x).run tm) ((cval i).run tm) ok).map (.val · h)⟩
  | .mapUpdate t m k x => ⟨fun tm h => (amapSet P h t ((cval m).run tm) ((cval k).run tm) ((cval x).run tm)).map .skip⟩
  | .panic x => ⟨fun tm _ => match (cval x).run tm with
    | .ifc t v => some (.panic (.ifc t v))
    | _ => none⟩
  | .makeFunc (.func f) first cap => ⟨fun tm h => some (.val (.fn f (first.toList.map fun x => (cval x).run tm) (cap.toList.map fun x => (cval x).run tm)) h)⟩
  | _ => ⟨fun tm h => aop P o (aeval tm) h⟩

theorem nbin_eq (op : BinOp) (t : TypeId) (x y : Operand) (h : AHeap) (a b : Nat) :
    nbin op ((abin P op t x y (.int .i64 a) (.int .i64 b)).map (.val · h)) h a b = (abin P op t x y (.int .i64 a) (.int .i64 b)).map (.val · h) := by
  have hb : ∀ a b : Nat, Nat.blt a b = decide ((a : Int) < b) := by
    intro a b
    cases hq : Nat.blt a b with
    | true => have := Nat.blt_eq.mp hq; symm; exact decide_eq_true (by omega)
    | false =>
      have : ¬ a < b := fun hl => by rw [Nat.blt_eq.mpr hl] at hq; cases hq
      symm; exact decide_eq_false (by omega)
  have hl : ∀ a b : Nat, Nat.ble a b = decide ((a : Int) ≤ b) := by
    intro a b
    cases hq : Nat.ble a b with
    | true => have := Nat.le_of_ble_eq_true hq; symm; exact decide_eq_true (by omega)
    | false =>
      have : ¬ a ≤ b := fun hl => by rw [Nat.ble_eq_true_of_le hl] at hq; cases hq
      symm; exact decide_eq_false (by omega)
  have he : ∀ a b : Nat, Nat.beq a b = ((a : Int) == b) := by
    intro a b
    cases hq : Nat.beq a b with
    | true => have := Nat.eq_of_beq_eq_true hq; subst this; symm; exact beq_self_eq_true _
    | false =>
      have : ¬ a = b := fun hl => by subst hl; simp at hq
      symm; exact beq_eq_false_iff_ne.mpr (by omega)
  cases op <;> try rfl
  case add =>
    unfold nbin
    simp only
    cases hq : Nat.blt (Nat.add a b) 4294967296 with
    | false => rfl
    | true =>
      have h1 := Nat.blt_eq.mp hq
      have h1' : a + b < 4294967296 := h1
      have h2 : IntKind.wrap .i64 ((a : Int) + b) = ((a + b : Nat) : Int) := by
        rw [IntKind.wrap_i64]; omega
      simp only [abin, ne_eq, not_true_eq_false, if_false, h2, Option.map_some]
      rfl
  case eql => simp only [nbin, abin, ne_eq, not_true_eq_false, if_false, Option.map_some, he]
  case neq => simp only [nbin, abin, ne_eq, not_true_eq_false, if_false, Option.map_some, he, bne]
  case lss => simp only [nbin, abin, ne_eq, not_true_eq_false, if_false, Option.map_some, hb]
  case leq => simp only [nbin, abin, ne_eq, not_true_eq_false, if_false, Option.map_some, hl]
  case gtr => simp only [nbin, abin, ne_eq, not_true_eq_false, if_false, Option.map_some, hb, gt_iff_lt]
  case geq => simp only [nbin, abin, ne_eq, not_true_eq_false, if_false, Option.map_some, hl, ge_iff_le]

theorem cop_eq (o : Oper) (tm : T AVal) (h : AHeap) : (cop P o).run tm h = aop P o (aeval tm) h := by
  unfold cop
  split
  case h_1 x ho => unfold aop; rw [ho]; simp only [cval_eq]
  case h_2 x ho => unfold aop; rw [ho]; simp only [cval_eq]
  case h_3 c a b ho => unfold aop; rw [ho]; simp only [cval_eq]; cases aeval tm c <;> rfl
  case h_4 t a ho =>
    unfold aop; rw [ho]
    simp only
    cases aggD P t <;> cases szD P t <;> first
      | rfl
      | (simp only [cval_eq]; cases aeval tm a <;> rfl)
  case h_5 t a x ho =>
    unfold aop; rw [ho]
    simp only
    cases szD P t <;> first
      | rfl
      | (simp only [cval_eq]; cases aeval tm a <;> rfl)
  case h_6 x ho => unfold aop; rw [ho]; simp only [cval_eq]; cases aeval tm x <;> rfl
  case h_7 op t x y pos ho =>
    unfold aop; rw [ho]; simp only [cval_eq]
    split
    · rename_i a b h1 h2
      rw [asNat_some h1, asNat_some h2]
      exact nbin_eq P op t x y h a b
    · rfl
  case h_8 ho => unfold aop; rw [ho]; simp only [cval_eq]
  case h_9 ho => unfold aop; rw [ho]; simp only [cval_eq]
  case h_10 ho => unfold aop; rw [ho]; simp only [cval_eq]
  case h_11 ho => unfold aop; rw [ho]; simp only [cval_eq]
  case h_12 t i ho => unfold aop; rw [ho]; simp only [cval_eq]; cases aeval tm t <;> rfl
  case h_13 c ho =>
    have hm : (c.args.toList.map fun x => (cval x).run tm) = c.args.toList.map (aeval tm) := by
      congr 1; funext x; exact cval_eq x tm
    unfold aop; rw [ho]
    simp only
    cases c.callee with
    | builtin b => rw [← hm]
    | value f => simp only [cval_eq, callableF_eq]; cases aeval tm f <;> rfl
    | invoke _ _ => rfl
  case h_14 t ho => unfold aop; rw [ho]; simp only; cases zeroD P t <;> rfl
  case h_15 ho => unfold aop; rw [ho]; simp only [cval_eq]
  case h_16 ho => unfold aop; rw [ho]; simp only [cval_eq]
  case h_17 ho => unfold aop; rw [ho]; simp only [cval_eq]
  case h_18 ho => unfold aop; rw [ho]; simp only [cval_eq]
  case h_19 ho => unfold aop; rw [ho]; simp only [cval_eq]
  case h_20 ho => unfold aop; rw [ho]
  case h_21 ho => unfold aop; rw [ho]; simp only [cval_eq]
  case h_22 ho => unfold aop; rw [ho]; simp only [cval_eq]
  case h_23 ho => unfold aop; rw [ho]; simp only [cval_eq]
  case h_24 ho => unfold aop; rw [ho]; simp only [cval_eq]
  case h_25 x ho => unfold aop; rw [ho]; simp only [cval_eq]; cases aeval tm x <;> rfl
  case h_26 ho => unfold aop; rw [ho]; simp only [cval_eq]
  case h_27 => rfl

structure NFn where
  run : Rec → ASt → AHeap → AVal → Option (AExit × ASt)

/-- what came is put where it belongs, and the rest follows -/
def cnext (dst : Option Tmp) (k : SFn) : NFn :=
  match dst with
  | none => ⟨fun rec s h _ => k.run rec ⟨s.tm, h, s.nt, s.defers⟩⟩
  | some d => ⟨fun rec s h v => Bool.rec none (k.run rec ⟨s.tm.set d v, h, s.nt, s.defers⟩) (Nat.blt d s.nt)⟩

def cback (n : NFn) (rec : Rec) (s : ASt) : Option (AEnd × AHeap) → Option (AExit × ASt)
  | some (.ret v, h) => n.run rec s h v
  | some (.panic v, h) => some (.panic v, { s with h := h })
  | none => none

def cfin (rec : Rec) (n : NFn) (s : ASt) : Option ARes → Option (AExit × ASt)
  | some (.val v h) => n.run rec s h v
  | some (.skip h) => n.run rec s h .undef
  | some (.call f args) => cback n rec s (rec f args s.h)
  | some (.defer f args) => n.run rec { s with defers := ⟨f, args⟩ :: s.defers } s.h .undef
  | some (.panic v) => some (.panic v, s)
  | none => none

structure WFn where
  run : T AVal → Option Bool

def cwant (ops : Array Oper) (o : Oper) : WFn :=
  match o.guard with
  | none => ⟨fun _ => some true⟩
  | some (j, want) =>
    match (ops[j]?).bind (·.dst) with
    | none => ⟨fun _ => some false⟩
    | some t => ⟨fun tm => match orUndef ((gfn 16 t).run tm) with
      | .bool b => some (b == want)
      | .tup [] => some false
      | _ => none⟩

theorem cwant_eq (ops : Array Oper) (o : Oper) (tm : T AVal) : (cwant ops o).run tm = wantedA ops o tm := by
  unfold cwant wantedA
  cases o.guard with
  | none => rfl
  | some jw =>
    obtain ⟨j, want⟩ := jw
    simp only
    cases (ops[j]?).bind (·.dst) with
    | none => rfl
    | some t =>
      simp only
      have : orUndef ((gfn 16 t).run tm) = tget tm t := by
        rw [gfn_eq]; unfold tget orUndef; cases tm.get t <;> rfl
      rw [this]
      cases tget tm t <;> first
        | rfl
        | (rename_i l; cases l <;> rfl)

def cops (ops : Array Oper) : List Nat → SFn
  | [] => ⟨fun _ s => some (.normal, s)⟩
  | i :: rest =>
    match ops[i]? with
    | none => cops ops rest
    | some o =>
      match o.guard with
      | none => ⟨fun rec s => cfin rec (cnext o.dst (cops ops rest)) s ((cop P o).run s.tm s.h)⟩
      | some _ => ⟨fun rec s =>
        match (cwant ops o).run s.tm with
        | some true => cfin rec (cnext o.dst (cops ops rest)) s ((cop P o).run s.tm s.h)
        | some false => (cnext o.dst (cops ops rest)).run rec s s.h .undef
        | none => none⟩

theorem cnext_eq (dst : Option Tmp) (k : SFn) (rec : Rec) (s : ASt) (h : AHeap) (v : AVal) : (cnext dst k).run rec s h v = (match ASt.put { s with h := h } dst v with | some s' => k.run rec s' | none => none) := by
  cases dst with
  | none => rfl
  | some d =>
    simp only [cnext, ASt.put]
    cases hq : Nat.blt d s.nt with
    | true => rw [if_pos (Nat.blt_eq.mp hq)]
    | false =>
      rw [if_neg (fun hl => by rw [Nat.blt_eq.mpr hl] at hq; cases hq)]

theorem cops_eq (ops : Array Oper) (rec : Rec) : ∀ (l : List Nat) (s : ASt), (cops P ops l).run rec s = aops P rec ops l s := by
  intro l
  induction l with
  | nil => intro s; rfl
  | cons i rest ih =>
    intro s
    simp only [cops, aops]
    cases ops[i]? with
    | none => exact ih s
    | some o =>
      simp only
      have main : cfin rec (cnext o.dst (cops P ops rest)) s ((cop P o).run s.tm s.h) = (match aop P o (aeval s.tm) s.h with
        | some (.val v h) => match ASt.put { s with h := h } o.dst v with
          | some s' => aops P rec ops rest s'
          | none => none
        | some (.skip h) => match ASt.put { s with h := h } o.dst .undef with
          | some s' => aops P rec ops rest s'
          | none => none
        | some (.call f args) => match rec f args s.h with
          | some (.ret v, h) => match ASt.put { s with h := h } o.dst v with
            | some s' => aops P rec ops rest s'
            | none => none
          | some (.panic v, h) => some (.panic v, { s with h := h })
          | none => none
        | some (.defer f args) => match ASt.put { s with defers := ⟨f, args⟩ :: s.defers } o.dst .undef with
          | some s' => aops P rec ops rest s'
          | none => none
        | some (.panic v) => some (.panic v, s)
        | none => none) := by
        rw [cop_eq]
        cases aop P o (aeval s.tm) s.h with
        | none => rfl
        | some res =>
          cases res with
          | val v h => simp only [cfin, cnext_eq, ih]
          | skip h => simp only [cfin, cnext_eq, ih]
          | call f args =>
            simp only [cfin]
            cases rec f args s.h with
            | none => rfl
            | some q =>
              obtain ⟨en, h⟩ := q
              cases en with
              | ret v => simp only [cback, cnext_eq, ih]
              | panic v => rfl
          | defer f args => simp only [cfin, cnext_eq, ih]
          | panic v => rfl
      cases hg : o.guard with
      | none =>
        simp only
        have hw : wantedA ops o s.tm = some true := by simp [wantedA, hg]
        rw [hw]
        exact main
      | some jw =>
        simp only [cwant_eq]
        cases wantedA ops o s.tm with
        | none => rfl
        | some b =>
          cases b with
          | true => exact main
          | false =>
            simp only [cnext_eq, ih]
            obtain ⟨t, h, nt, df⟩ := s
            simp only
            cases ASt.put ⟨t, h, nt, df⟩ o.dst .undef <;> rfl

structure BFn where
  run : T AVal → AHeap → Bool

def cread (g : GFn) (tm : T AVal) : Option ARes → Bool
  | some (.val v _) => sameVal v (orUndef (g.run tm))
  | _ => false

def cagain (ops : Array Oper) (i : Nat) : BFn :=
  match ops[i]? with
  | none => ⟨fun _ _ => false⟩
  | some o =>
    match o.dst with
    | none => ⟨fun tm h => again P ops ⟨tm, h, 0, []⟩ i⟩
    | some d =>
      if kindOf o.op = 1 then ⟨fun tm h => match (cwant ops o).run tm with
        | some false => true
        | none => false
        | some true => cread (gfn 16 d) tm ((cop P o).run tm h)⟩
      else ⟨fun tm h => again P ops ⟨tm, h, 0, []⟩ i⟩

theorem cagain_eq (ops : Array Oper) (i : Nat) (s : ASt) : (cagain P ops i).run s.tm s.h = again P ops s i := by
  unfold cagain
  cases ho : ops[i]? with
  | none => simp [again, ho]
  | some o =>
    simp only
    cases hd : o.dst with
    | none => simp only [again]
    | some d =>
      simp only
      split
      · rename_i hk
        simp only [again, ho, hd, hk, if_true, cwant_eq]
        cases wantedA ops o s.tm with
        | none => rfl
        | some b =>
          cases b with
          | false => rfl
          | true =>
            simp only [cop_eq]
            cases aop P o (aeval s.tm) s.h with
            | none => rfl
            | some r =>
              cases r <;> try rfl
              simp only [cread]
              have : orUndef ((gfn 16 d).run s.tm) = tget s.tm d := by
                rw [gfn_eq]; unfold tget orUndef; cases s.tm.get d <;> rfl
              rw [this]
      · simp only [again]

def callAgain (ops : Array Oper) : List Nat → BFn
  | [] => ⟨fun _ _ => true⟩
  | i :: r => ⟨fun tm h => Bool.rec false ((callAgain ops r).run tm h) ((cagain P ops i).run tm h)⟩

theorem callAgain_eq (ops : Array Oper) (s : ASt) : ∀ l, (callAgain P ops l).run s.tm s.h = l.all (again P ops s) := by
  intro l
  induction l with
  | nil => rfl
  | cons i r ih =>
    simp only [callAgain, List.all_cons, cagain_eq, ih]
    cases again P ops s i <;> rfl

def cdr (ops : Array Oper) : List Seg → List Nat → SFn
  | [], last => cops P ops last
  | g :: r, last => ⟨fun rec s =>
    match (cops P ops g.stage).run rec s with
    | some (.normal, s1) =>
      match (cops P ops [g.act]).run rec s1 with
      | some (.normal, s2) => if (callAgain P ops g.again).run s2.tm s2.h then (cdr ops r last).run rec s2 else none
      | _ => none
    | _ => none⟩

theorem cdr_eq (ops : Array Oper) (rec : Rec) : ∀ (segs : List Seg) (last : List Nat) (s : ASt), (cdr P ops segs last).run rec s = adrawRun P rec ops segs last s := by
  intro segs
  induction segs with
  | nil => intro last s; exact cops_eq P ops rec last s
  | cons g r ih => 
    intro last s
    simp only [cdr, adrawRun, cops_eq, ih, callAgain_eq]
    cases aops P rec ops g.stage s with
    | none => rfl
    | some q =>
      obtain ⟨e1, s1⟩ := q
      cases e1 <;> first
        | rfl
        | (simp only; cases aops P rec ops [g.act] s1 with
          | none => rfl
          | some q2 => cases q2 with
            | mk e2 s2 => cases e2 <;> rfl)

def cdraw (ops : Array Oper) : SFn :=
  if drawOk ops && P.follows .mixedOrders then cdr P ops (planOf ops (preOf ops)).segs (planOf ops (preOf ops)).last else ⟨fun _ _ => none⟩

theorem cdraw_eq (ops : Array Oper) (rec : Rec) (s : ASt) : (cdraw P ops).run rec s = adraw P rec ops s := by
  unfold cdraw adraw
  split
  · exact cdr_eq P ops rec _ _ s
  · rfl

def loopN (f : CFn) (e : Env) : Nat → ASt → Option (AExit × ASt)
  | 0, _ => none
  | n + 1, s => match f.run e s with
    | some (.normal, s') => loopN f e n s'
    | r => r

def comp : Code → CFn
  | .skip => ⟨fun _ s => some (.normal, s)⟩
  | .label _ => ⟨fun _ s => some (.normal, s)⟩
  | .seq a b => ⟨fun e s => match (comp a).run e s with
    | some (.normal, s') => (comp b).run e s'
    | r => r⟩
  | .cond c a b => ⟨fun e s => match aeval s.tm c with
    | .bool true => (comp a).run e s
    | .bool false => (comp b).run e s
    | _ => none⟩
  | .block id b => ⟨fun e s => match (comp b).run e s with
    | some (.exit id', s') => if id' = id then some (.normal, s') else some (.exit id', s')
    | r => r⟩
  | .loop b => ⟨fun e s => loopN (comp b) e e.loops s⟩
  | .exit id => ⟨fun _ s => some (.exit id, s)⟩
  | .scope b => ⟨fun e s => (comp b).run e s⟩
  | .ret => ⟨fun _ s => some (.ret, s)⟩
  | .region _ ops draw => if draw then ⟨fun e s => (cdraw P ops).run e.calls s⟩ else ⟨fun e s => (cops P ops (List.range ops.size)).run e.calls s⟩
  | _ => ⟨fun _ _ => none⟩

def cfun (f : FuncId) : FFn :=
  match funOf P f with
  | some fn => match fn.body with
    | some c => ⟨fun e args h =>
      if args.length ≤ fn.ntmps then
        match (comp P c).run e { tm := setArgs args 0 .nil, h := h, nt := fn.ntmps, defers := [] } with
        | some (.normal, s) | some (.ret, s) => aleave P (fun c s => (comp P c).run e s) fn s.tm s.defers none s.h
        | some (.panic v, s) => aleave P (fun c s => (comp P c).run e s) fn s.tm s.defers (some v) s.h
        | _ => none
      else none⟩
    | none => ⟨fun _ _ _ => none⟩
  | none => ⟨fun _ _ _ => none⟩

def ccall (loops : Nat) : Nat → Rec
  | 0 => fun _ _ _ => none
  | n + 1 => fun f args h => (cfun P f).run ⟨loops, ccall loops n⟩ args h

theorem cfun_eq (f : FuncId) (e : Env) (args : List AVal) (h : AHeap) : (cfun P f).run e args h = acall P (fun c s => (comp P c).run e s) f args h := by
  unfold cfun acall
  rw [funOf_eq]
  cases P.funcs[f]? with
  | none => rfl
  | some fn => simp only; cases fn.body <;> rfl
end

noncomputable section
variable {P : Program}

theorem comp_ok {e : Env} (hrec : RecOk P e.calls) : EvOk P (fun c s => (comp P c).run e s) := by
  intro c
  induction c with
  | skip => intro s ex s' h κ a w r; cases h; exact wp_skip ⟨κ, trivial, r, .refl _ _ _⟩
  | label l => intro s ex s' h κ a w r; cases h; exact wp_label ⟨κ, trivial, r, .refl _ _ _⟩
  | ret => intro s ex s' h κ a w r; cases h; exact wp_ret ⟨κ, trivial, r, .refl _ _ _⟩
  | exit id => intro s ex s' h κ a w r; cases h; exact wp_exit ⟨κ, rfl, r, .refl _ _ _⟩
  | goto l => intro s ex s' h; cases h
  | refuse why => intro s ex s' h; cases h
  | rangeFunc f ps x y => intro s ex s' h; cases h
  | scope b ih =>
    intro s ex s' h κ a w r
    refine wp_scope_straight (wp_mono (ih _ _ _ h κ a w r) ?_)
    rintro e2 a2 w2 ⟨κ2, p1, p2, p3⟩
    cases e2 <;> first | exact ⟨κ2, p1, p2, p3⟩ | (cases ex <;> exact p1)
  | cond c x y ihx ihy =>
    intro s ex s' h κ a w r
    simp only [comp] at h
    have h1 := r.eval c
    split at h
    · rename_i hc
      rw [hc] at h1
      cases hq : a.eval c <;> rw [hq] at h1 <;> cases h1
      exact wp_cond_true hq (ihx _ _ _ h κ a w r)
    · rename_i hc
      rw [hc] at h1
      cases hq : a.eval c <;> rw [hq] at h1 <;> cases h1
      exact wp_cond_false hq (ihy _ _ _ h κ a w r)
    · cases h
  | seq x y ihx ihy =>
    intro s ex s' h κ a w r
    simp only [comp] at h
    refine wp_seq ?_
    cases hx : (comp P x).run e s with
    | none => rw [hx] at h; cases h
    | some q =>
      obtain ⟨ex1, s1⟩ := q
      rw [hx] at h
      refine wp_mono (ihx _ _ _ hx κ a w r) ?_
      rintro e2 a2 w2 ⟨κ2, p1, p2, p3⟩
      cases ex1 with
      | normal =>
        simp only at h
        cases e2 <;> simp only [ExRel] at p1
        exact wp_mono (ihy _ _ _ h κ2 a2 w2 p2) (fun _ _ _ h => Post.trans p3 h)
      | exit i => cases h; cases e2 <;> simp only [ExRel] at p1; exact ⟨κ2, p1, p2, p3⟩
      | ret => cases h; cases e2 <;> simp only [ExRel] at p1; exact ⟨κ2, trivial, p2, p3⟩
      | panic v => cases h; cases e2 <;> simp only [ExRel] at p1; exact ⟨κ2, p1, p2, p3⟩
  | block id b ih =>
    intro s ex s' h κ a w r
    simp only [comp] at h
    refine wp_block ?_
    cases hx : (comp P b).run e s with
    | none => rw [hx] at h; cases h
    | some q =>
      obtain ⟨ex1, s1⟩ := q
      rw [hx] at h
      refine wp_mono (ih _ _ _ hx κ a w r) ?_
      rintro e2 a2 w2 ⟨κ2, p1, p2, p3⟩
      cases ex1 with
      | normal => cases h; cases e2 <;> simp only [ExRel] at p1; exact ⟨κ2, trivial, p2, p3⟩
      | exit i =>
        cases e2 <;> simp only [ExRel] at p1
        subst p1
        simp only at h
        simp only [Exit.inBlock]
        split at h
        · rename_i hi; cases h; rw [if_pos hi]; exact ⟨κ2, trivial, p2, p3⟩
        · rename_i hi; cases h; rw [if_neg hi]; exact ⟨κ2, rfl, p2, p3⟩
      | ret => cases h; cases e2 <;> simp only [ExRel] at p1; exact ⟨κ2, trivial, p2, p3⟩
      | panic v => cases h; cases e2 <;> simp only [ExRel] at p1; exact ⟨κ2, p1, p2, p3⟩
  | loop b ih =>
    intro s ex s' h κ a w r
    simp only [comp] at h
    have key : ∀ (m : Nat) (s : ASt) (ex : AExit) (s' : ASt) (κ : Kap) (a : Act) (w : World), loopN (comp P b) e m s = some (ex, s') → SRel P κ s a w →
        ∀ (Q : Exit → Act → World → Prop), (∀ e a' w', Post P κ s.h w ex s' e a' w' → Q e a' w') → Code.rounds P b Q m a w := by
      intro m
      induction m with
      | zero => intro s ex s' κ a w h; cases h
      | succ m ihm =>
        intro s ex s' κ a w h r Q hQ
        rw [rounds_succ]
        simp only [loopN] at h
        cases hx : (comp P b).run e s with
        | none => rw [hx] at h; cases h
        | some q =>
          obtain ⟨ex1, s1⟩ := q
          rw [hx] at h
          refine wp_mono (ih _ _ _ hx κ a w r) ?_
          rintro e2 a2 w2 ⟨κ2, p1, p2, p3⟩
          cases ex1 with
          | normal =>
            simp only at h
            cases e2 <;> simp only [ExRel] at p1
            exact ihm s1 ex s' κ2 a2 w2 h p2 Q (fun e a' w' h => hQ e a' w' (Post.trans p3 h))
          | exit i => cases h; cases e2 <;> simp only [ExRel] at p1; exact hQ _ _ _ ⟨κ2, p1, p2, p3⟩
          | ret => cases h; cases e2 <;> simp only [ExRel] at p1; exact hQ _ _ _ ⟨κ2, trivial, p2, p3⟩
          | panic v => cases h; cases e2 <;> simp only [ExRel] at p1; exact hQ _ _ _ ⟨κ2, p1, p2, p3⟩
    exact wp_loop_rounds _ (key _ s ex s' κ a w h r _ (fun _ _ _ h => h))
  | region id ops draw =>
    intro s ex s' h κ a w r
    cases draw with
    | true => exact draw_sim hrec ((cdraw_eq P ops e.calls s).symm.trans h) r
    | false => exact region_sim hrec ((cops_eq P ops e.calls _ s).symm.trans h) r

theorem ccall_ok (loops : Nat) : ∀ n, RecOk P (ccall P loops n) := by
  intro n
  induction n with
  | zero => intro f args h en h' e; cases e
  | succ n ih =>
    intro f args h en h' e κ args' w hw ha hc
    have e' : acall P (fun c s => (comp P c).run ⟨loops, ccall P loops n⟩ s) f args h = some (en, h') := by
      rw [← cfun_eq]; exact e
    exact call_sim (comp_ok (e := ⟨loops, ccall P loops n⟩) ih) f args h en h' e' κ args' w hw ha hc

/-- a call in an empty memory of its own: what is handed over is told, or stands for any value -/
theorem told_call {loops n : Nat} {f : FuncId} {b : Bool} {args : List AVal} (hc : callable P f = true) (h : (match ccall P loops n f args ⟨0, .nil⟩ with | some (.ret (.bool c), _) => c == b | _ => false) = true)
    {args' : Array Value} (ha : VRels (fun _ => none) args args'.toList) (w : World) :
    Calls P f args' w fun e w' => e = .returned (.bool b) ∧ w.Extends w' := by
  cases hq : ccall P loops n f args ⟨0, .nil⟩ with
  | none => rw [hq] at h; cases h
  | some q =>
    obtain ⟨en, h'⟩ := q
    rw [hq] at h
    cases en with
    | panic v => cases h
    | ret v =>
      cases v <;> simp only at h <;> try (cases h; done)
      rename_i c
      have hcb : c = b := by simpa using h
      subst hcb
      have hw : WRel (fun _ => none) ⟨0, .nil⟩ w := ⟨fun _ _ => rfl, fun _ _ => rfl, (fun _ _ h => by cases h), (fun _ _ _ h => by cases h), (fun _ _ _ _ _ _ h => by cases h)⟩
      refine (ccall_ok loops n f args ⟨0, .nil⟩ _ h' hq (fun _ => none) args' w hw ha hc).mono ?_
      rintro e w' ⟨κ', p1, p2, p3⟩
      cases e <;> simp only [EndRel] at p1
      cases p1
      have hb : ∀ i, i < w.heap.size → w'.heap[i]? = w.heap[i]? := fun i hi => p3.frame i hi (fun b o k h => by cases h)
      exact ⟨rfl, p3.os, p3.tape, p3.output, p3.size, fun a ha => World.cell?_of_block (hb a.block ha), fun a ha => World.frozen?_of_block (hb a.block ha), hb⟩

/-- a call without arguments, in an empty memory of its own -/
theorem closed_call {loops n : Nat} {f : FuncId} {b : Bool} (hc : callable P f = true) (h : (match ccall P loops n f [] ⟨0, .nil⟩ with | some (.ret (.bool c), _) => c == b | _ => false) = true) (w : World) :
    Calls P f #[] w fun e w' => e = .returned (.bool b) ∧ w.Extends w' := told_call hc h .nil w

end
end Go.Aev
