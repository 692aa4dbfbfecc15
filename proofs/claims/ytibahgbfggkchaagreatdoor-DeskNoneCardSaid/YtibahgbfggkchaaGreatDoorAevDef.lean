/- A deterministic reading of the model's code over abstract memory: the definitions alone. Blocks are numbered from 0; a value names a block by that number. -/
import Derived.Recover
import Derived.Orders
import Derived.Scope
import Derived.LoopN
import Derived.Wp
namespace Go.Aev

inductive AVal where
  | bool (b : Bool)
  | int (k : IntKind) (n : Int)
  | float (k : FloatKind) (bits : Nat)
  | str (s : ByteArray)
  | nilp
  | ptr (b off : Nat)
  | nilsl
  | sl (b off len cap : Nat) (ex : Bool) (esz : Nat)
  | nilmap
  | map (b : Nat)
  | fn (f : FuncId) (first cap : List AVal)
  | nilfn
  | ifc (t : TypeId) (v : AVal)
  | nilifc
  | agg (l : List AVal)
  | tup (l : List AVal)
  | other (v : Value)
  deriving Inhabited

structure AEnt where
  key : AVal
  val : AVal
  born : Nat
  deriving Inhabited

inductive AObj where
  | cells (l : List AVal) (rw : Bool)
  | map (es : List AEnt) (clock : Nat)
  | iter (m : Option Nat) (since : Nat) (seen : List Nat) (last : Nat)
  | siter (s : ByteArray) (pos : Nat)
  | dead
  deriving Inhabited

/-- a map from numbers -/
inductive T (α : Type) where
  | nil
  | node (v : Option α) (l r : T α)
  deriving Inhabited

noncomputable section

/-- read by the recursor itself: the kernel is quick at that -/
def T.get {α : Type} (t : T α) : Nat → Option α :=
  T.rec (fun _ => none) (fun v _ _ gl gr k => Bool.rec (Bool.rec (gr (Nat.sub (Nat.div k 2) 1)) (gl (Nat.div k 2)) (Nat.beq (Nat.mod k 2) 1)) v (Nat.beq k 0)) t

/-- a tree with one entry -/
def T.one {α : Type} (v : α) (n : Nat) : Nat → T α :=
  Nat.rec (fun _ => .nil) (fun _ g k => Bool.rec (Bool.rec (.node none .nil (g (Nat.sub (Nat.div k 2) 1))) (.node none (g (Nat.div k 2)) .nil) (Nat.beq (Nat.mod k 2) 1)) (.node (some v) .nil .nil) (Nat.beq k 0)) n

def T.set {α : Type} (t : T α) (k : Nat) (v : α) : T α :=
  T.rec (motive := fun _ => Nat → T α) (fun k => T.one v (Nat.succ k) k) (fun u l r gl gr k => Bool.rec (Bool.rec (.node u l (gr (Nat.sub (Nat.div k 2) 1))) (.node u (gl (Nat.div k 2)) r) (Nat.beq (Nat.mod k 2) 1)) (.node (some v) l r) (Nat.beq k 0)) t k

structure AHeap where
  next : Nat
  t : T AObj
  deriving Inhabited

def AHeap.get (h : AHeap) (b : Nat) : Option AObj := h.t.get b
def AHeap.set (h : AHeap) (b : Nat) (o : AObj) : AHeap := { h with t := h.t.set b o }
def AHeap.new (h : AHeap) (o : AObj) : AHeap := { next := h.next + 1, t := h.t.set h.next o }

def AVal.undef : AVal := .tup []

def AVal.cells : AVal → List AVal
  | .agg l => l
  | v => [v]

def AVal.one : AVal → Bool
  | .agg _ | .tup _ => false
  | .other v => v.oneCell
  | _ => true

/-- a value whose cells are told -/
def AVal.plain : AVal → Bool
  | .other v => v.oneCell
  | _ => true

/-- a constant's cell, read off -/
def AVal.ofOne : Value → AVal
  | .bool b => .bool b
  | .int k n => .int k n
  | .float k b => .float k b
  | .string s => .str s
  | .pointer none => .nilp
  | .slice none 0 0 => .nilsl
  | .map none => .nilmap
  | .nilFunc => .nilfn
  | .nilIface => .nilifc
  | v => .other v

def AVal.of : Value → AVal
  | .agg cs => .agg (cs.toList.map AVal.ofOne)
  | .tuple cs => .tup (cs.toList.map AVal.ofOne)
  | .iface t (.agg cs) => .ifc t (.agg (cs.toList.map AVal.ofOne))
  | .iface t v => .ifc t (.ofOne v)
  | v => .ofOne v

structure ADef where
  f : FuncId
  args : List AVal
  deriving Inhabited

structure ASt where
  tm : T AVal
  h : AHeap
  nt : Nat
  defers : List ADef
  deriving Inhabited

def tget (tm : T AVal) (t : Nat) : AVal := (tm.get t).getD .undef

def aeval (tm : T AVal) : Operand → AVal
  | .tmp t => tget tm t
  | .const v => .of v
  | .global g => .other (.pointer (some ⟨g, 0, none⟩))
  | .func f => .fn f [] []

inductive ARes where
  | val (v : AVal) (h : AHeap)
  | skip (h : AHeap)
  | call (f : FuncId) (args : List AVal)
  | defer (f : FuncId) (args : List AVal)
  | panic (v : AVal)
  deriving Inhabited

section
variable (P : Program)

def szD (t : TypeId) : Option Nat := (P.info? t).map (·.size)
def bytesD (t : TypeId) : Option Nat := (P.info? t).map (·.bytes)
def zeroD (t : TypeId) : Option AVal := ((P.info? t).bind (·.zero)).map AVal.of
def aggD (t : TypeId) : Option Bool :=
  match P.underlying t with
  | some (.struct _) | some (.array _ _) => some true
  | some _ => some false
  | none => none

def callable (f : FuncId) : Bool :=
  match P.funcs[f]? with
  | some fn => fn.body.isSome && !(fn.name == "runtime.NumGoroutine")
  | none => false

/-- the cells of a block -/
def cellsAt (h : AHeap) (b : Nat) : Option (List AVal) :=
  match h.get b with
  | some (.cells l _) => some l
  | _ => none

def spanOf (l : List AVal) (off n : Nat) : Option (List AVal) :=
  if off + n ≤ l.length then some ((l.drop off).take n) else none

def putSpan (l : List AVal) (off : Nat) (vs : List AVal) : Option (List AVal) :=
  if off + vs.length ≤ l.length then some (l.take off ++ vs ++ l.drop (off + vs.length)) else none

def aload (h : AHeap) (agg : Bool) (n : Nat) (b off : Nat) : Option AVal :=
  match cellsAt h b with
  | some l => if agg then (spanOf l off n).map .agg else l[off]?
  | none => none

/-- cells written into a block that may be written -/
def aput (h : AHeap) (b off : Nat) (vs : List AVal) : Option AHeap :=
  match h.get b with
  | some (.cells l true) =>
    if vs.all AVal.one then (putSpan l off vs).map fun l' => h.set b (.cells l' true) else none
  | _ => none

def anew (h : AHeap) (l : List AVal) : AVal × AHeap := (.ptr h.next 0, h.new (.cells l true))

def apart (agg : Bool) (n : Nat) (l : List AVal) (off : Nat) : Option AVal :=
  if agg then (spanOf l off n).map .agg else l[off]?

/-- parts laid into cells -/
def afill (place : Nat → Option (Nat × Nat)) (cells : List AVal) : List (Nat × AVal) → Option (List AVal)
  | [] => some cells
  | (i, v) :: rest =>
    match place i with
    | none => none
    | some (off, size) =>
      if v.plain = true ∧ v.cells.length = size then
        match putSpan cells off v.cells with
        | some c => afill place c rest
        | none => none
      else none

def optAll {α : Type} : List (Option α) → Option (List α)
  | [] => some []
  | none :: _ => none
  | some x :: r => match optAll r with | some l => some (x :: l) | none => none

def rep (n : Nat) (l : List AVal) : List AVal :=
  match n with
  | 0 => []
  | n + 1 => l ++ rep n l

def asInt : AVal → Option Int
  | .int _ n => some n
  | _ => none

def intsOf : List AVal → Option (List Int)
  | [] => some []
  | .int .i64 n :: r => match intsOf r with | some l => some (n :: l) | none => none
  | _ => none

/-- is a type an array of plain ints, or a struct of one kind of such fields? its number of cells -/
def intArr (t : TypeId) : Option Nat :=
  match P.underlying t with
  | some (.array n e) => match P.underlying e, szD P e with
    | some (.int .i64), some 1 => some n
    | _, _ => none
  | _ => none

/-- are two keys of a type the same? -/
def keyEq (kt : TypeId) (a b : AVal) : Option Bool :=
  match P.underlying kt, a, b with
  | some (.int _), .int k x, .int k' y => if k = k' then some (x == y) else none
  | some .string, .str x, .str y => some (x == y)
  | some .bool, .bool x, .bool y => some (x == y)
  | some (.array _ _), .agg x, .agg y =>
    match intArr P kt, intsOf x, intsOf y with
    | some n, some u, some v => if u.length = n ∧ v.length = n then some (u == v) else none
    | _, _, _ => none
  | _, _, _ => none

def keyOk (kt : TypeId) (a : AVal) : Bool := keyEq P kt a a == some true

def findA (kt : TypeId) (k : AVal) : List AEnt → Nat → Option (Option (Nat × AVal))
  | [], _ => some none
  | e :: es, i =>
    match keyEq P kt k e.key with
    | some true => some (some (i, e.val))
    | some false => findA kt k es (i + 1)
    | none => none

def aeql (t : TypeId) (x y : AVal) : Option Bool :=
  match P.underlying t, x, y with
  | some .bool, .bool a, .bool b => some (a == b)
  | some (.pointer _), .nilp, .nilp => some true
  | some (.pointer _), .nilp, .ptr _ _ | some (.pointer _), .ptr _ _, .nilp => some false
  | some (.pointer e), .ptr b o, .ptr b' o' => if b = b' ∧ szD P e ≠ some 0 ∧ szD P e ≠ none then some (o == o') else none
  | some (.slice _), .nilsl, .nilsl => some true
  | some (.slice _), .nilsl, .sl .. | some (.slice _), .sl .., .nilsl => some false
  | some (.map _ _), .nilmap, .nilmap => some true
  | some (.map _ _), .nilmap, .map _ | some (.map _ _), .map _, .nilmap => some false
  | some (.func ..), .nilfn, .nilfn => some true
  | some (.func ..), .nilfn, .fn .. | some (.func ..), .fn .., .nilfn => some false
  | some (.interface _), .nilifc, .ifc .. | some (.interface _), .ifc .., .nilifc => some false
  | some (.array _ _), .agg a, .agg b =>
    match intArr P t, intsOf a, intsOf b with
    | some n, some u, some v => if u.length = n ∧ v.length = n ∧ P.eqGuardType P.depth t = false then some (u == v) else none
    | _, _, _ => none
  | _, _, _ => none

def isConstO : Operand → Bool
  | .const _ => true
  | _ => false

def aIntBits (op : BinOp) (k : IntKind) (x y : Int) : Option AVal :=
  let a := BitVec.ofInt k.bits x
  let b := BitVec.ofInt k.bits y
  match op with
  | .and => some (.int k (k.wrap (a &&& b).toNat))
  | .or => some (.int k (k.wrap (a ||| b).toNat))
  | .xor => some (.int k (k.wrap (a ^^^ b).toNat))
  | .andNot => some (.int k (k.wrap (a &&& ~~~b).toNat))
  | _ => none

def abin (op : BinOp) (t : TypeId) (ox oy : Operand) (x y : AVal) : Option AVal :=
  match op, x, y with
  | .shl, .int k a, .int _ b => if b < 0 then none else some (.int k (k.wrap (a * 2 ^ (min b.toNat k.bits))))
  | .shr, .int k a, .int _ b => if b < 0 then none else some (.int k (a.fdiv (2 ^ (min b.toNat k.bits))))
  | op, .int k a, .int k' b =>
    if k ≠ k' then none else
    match op with
    | .add => some (.int k (k.wrap (a + b)))
    | .sub => some (.int k (k.wrap (a - b)))
    | .mul => some (.int k (k.wrap (a * b)))
    | .quo => if b = 0 then none else some (.int k (k.wrap (a.tdiv b)))
    | .rem => if b = 0 then none else some (.int k (a.tmod b))
    | .and | .or | .xor | .andNot => aIntBits op k a b
    | .eql => some (.bool (a == b))
    | .neq => some (.bool (a != b))
    | .lss => some (.bool (a < b))
    | .leq => some (.bool (a ≤ b))
    | .gtr => some (.bool (a > b))
    | .geq => some (.bool (a ≥ b))
    | _ => none
  | op, .str a, .str b =>
    match op with
    | .add => if ((a.size + b.size : Nat) : Int) > IntKind.i64.max then none else some (.str (a ++ b))
    | .eql => some (.bool (a.toList == b.toList))
    | .neq => some (.bool !(a.toList == b.toList))
    | .lss => some (.bool (Op.bytesLess a.toList b.toList))
    | .leq => some (.bool (Op.bytesLess a.toList b.toList || a.toList == b.toList))
    | .gtr => some (.bool !(Op.bytesLess a.toList b.toList || a.toList == b.toList))
    | .geq => some (.bool !(Op.bytesLess a.toList b.toList))
    | _ => none
  | .eql, .nilifc, .nilifc => if isConstO ox || isConstO oy then (match P.underlying t with | some (.interface _) => some (.bool true) | _ => none) else none
  | .neq, .nilifc, .nilifc => if isConstO ox || isConstO oy then (match P.underlying t with | some (.interface _) => some (.bool false) | _ => none) else none
  | .eql, x, y => (aeql P t x y).map .bool
  | .neq, x, y => (aeql P t x y).map fun b => .bool !b
  | _, _, _ => none

def aunary (op : UnOp) (x : AVal) : Option AVal :=
  match op, x with
  | .neg, .int k n => some (.int k (k.wrap (0 - n)))
  | .not, .bool b => some (.bool !b)
  | _, _ => none

def aconvert (src dst : TypeId) (x : AVal) : Option AVal :=
  match P.underlying src, P.underlying dst, x with
  | some _, some (.int k), .int _ n => some (.int k (k.wrap n))
  | some _, some .string, .str s => some (.str s)
  | _, _, _ => none

/-- the bounds of a slice expression -/
def abounds (len cap : Nat) (lo hi mx : Option AVal) : Option (Nat × Nat × Nat) :=
  let bound (v : AVal) (y : Nat) : Option Nat :=
    match v with
    | .int _ i => if 0 ≤ i ∧ i ≤ y then some i.toNat else none
    | _ => none
  match (match mx with | some v => bound v cap | none => some cap) with
  | none => none
  | some m =>
    match (match hi, mx with | some v, _ => bound v m | none, none => some len | none, some _ => none) with
    | none => none
    | some h =>
      match (match lo with | some v => bound v h | none => some 0) with
      | none => none
      | some l => some (l, h, m)

def aslice (t : TypeId) (x : AVal) (lo hi mx : Option AVal) : Option AVal :=
  match P.underlying t, x with
  | some .string, .str s =>
    match mx, abounds s.size s.size lo hi none with
    | none, some (l, h, _) => some (.str (s.extract l h))
    | _, _ => none
  | some (.slice e), .nilsl =>
    match szD P e, abounds 0 0 lo hi mx with
    | some _, some _ => some .nilsl
    | _, _ => none
  | some (.slice e), .sl b off len cap ex esz =>
    match szD P e, abounds len cap lo hi mx with
    | some z, some (l, h, m) =>
      if z = esz then
        if (ex || mx.isSome) && m == l then some (.sl b off (h - l) 0 true esz)
        else some (.sl b (off + l * esz) (h - l) (m - l) (ex || mx.isSome) esz)
      else none
    | _, _ => none
  | _, _ => none

def aindexAt (t : TypeId) (x i : AVal) : Option AVal :=
  match P.underlying t, x, i with
  | some (.array n e), .ptr b off, .int _ k =>
    match szD P e with
    | some z => if 0 ≤ k ∧ k < n then some (.ptr b (off + k.toNat * z)) else none
    | none => none
  | some (.slice e), .sl b off len _ _ esz, .int _ k =>
    match szD P e with
    | some z => if 0 ≤ k ∧ k < len ∧ z = esz then some (.ptr b (off + k.toNat * esz)) else none
    | none => none
  | _, _, _ => none

def aindex (t : TypeId) (x i : AVal) : Option AVal :=
  match P.underlying t, x, i with
  | some (.array n e), .agg l, .int _ k =>
    match szD P e, aggD P e with
    | some z, some g => if 0 ≤ k ∧ k < n then apart g z l (k.toNat * z) else none
    | _, _ => none
  | some .string, .str s, .int _ k =>
    if 0 ≤ k then (s[k.toNat]?).map fun b => .int .u8 b.toNat else none
  | _, _, _ => none

def afield (t : TypeId) (x : AVal) (f : Nat) : Option AVal :=
  match P.underlying t, x with
  | some (.struct fs), .agg l =>
    match fs[f]? with
    | some fd => match szD P fd.type, aggD P fd.type with
      | some z, some g => apart g z l fd.offset
      | _, _ => none
    | none => none
  | _, _ => none

def afieldAt (t : TypeId) (x : AVal) (f : Nat) : Option AVal :=
  match P.underlying t, x with
  | some (.struct fs), .ptr b off =>
    match fs[f]? with
    | some fd => match szD P fd.type with
      | some 0 => none
      | some _ => some (.ptr b (off + fd.offset))
      | none => none
    | none => none
  | _, _ => none

def aplaces (fs : List Field) : Option (List (Nat × Nat)) := fs.mapM fun f => (P.info? f.type).map fun i => (f.offset, i.size)

def abuild (t : TypeId) (parts : List (Nat × AVal)) : Option AVal :=
  match P.underlying t, zeroD P t with
  | some (.struct fs), some z =>
    match aplaces P fs.toList with
    | some pl => (afill (fun i => pl[i]?) z.cells parts).map .agg
    | none => none
  | some (.array _ e), some z =>
    match szD P e with
    | some n => (afill (fun i => some (i * n, n)) z.cells parts).map .agg
    | none => none
  | _, _ => none

def abuildSlice (h : AHeap) (t : TypeId) (len : Nat) (parts : List (Nat × AVal)) : Option ARes :=
  match P.underlying t with
  | some (.slice e) =>
    match szD P e, zeroD P e with
    | some z, some zero =>
      if zero.cells.length = z ∧ len * z ≤ 2 ^ 24 then
        match afill (fun i => some (i * z, z)) (rep len zero.cells) parts with
        | some l => some (.val (.sl h.next 0 len len true z) (h.new (.cells l true)))
        | none => none
      else none
    | _, _ => none
  | _ => none

def amakeSlice (h : AHeap) (t : TypeId) (len cap : AVal) : Option ARes :=
  match P.underlying t, len, cap with
  | some (.slice e), .int _ l, .int _ c =>
    match szD P e, bytesD P e, zeroD P e with
    | some z, some by_, some zero =>
      if zero.cells.length = z ∧ 0 ≤ l ∧ l ≤ c ∧ c < 2 ^ 62 ∧ by_ * c ≤ 2 ^ 47 then
        some (.val (.sl h.next 0 l.toNat c.toNat true z) (h.new (.cells (rep c.toNat zero.cells) true)))
      else none
    | _, _, _ => none
  | _, _, _ => none

/-- the first n elements of a slice -/
def elemsOf (h : AHeap) (z : Nat) (n : Nat) : AVal → Option (List AVal)
  | .nilsl => if n = 0 then some [] else none
  | .sl b off len _ _ esz =>
    if n = 0 then some [] else
    if esz = z ∧ n ≤ len then match cellsAt h b with
      | some l => spanOf l off (n * z)
      | none => none
    else none
  | _ => none

def lenA : AVal → Option Nat
  | .nilsl => some 0
  | .sl _ _ len _ _ _ => some len
  | .str s => some s.size
  | _ => none

def aappend (h : AHeap) (argTypes : Array TypeId) (s x : AVal) : Option ARes :=
  match argTypes[0]?, argTypes[1]? with
  | some st, some xt =>
    match P.underlying st, P.underlying xt with
    | some (.slice e), some (.slice _) =>
      match szD P e, bytesD P e, lenA x, zeroD P e with
      | some z, some by_, some n, some zero =>
        if zero.cells.length ≠ z then none else
        match elemsOf h z n x with
        | none => none
        | some new =>
          match s with
          | .nilsl =>
            if n = 0 then some (.val .nilsl h) else
            if by_ * n ≤ 2 ^ 46 ∧ n ≤ 2 ^ 46 then some (.val (.sl h.next 0 n n false z) (h.new (.cells new true))) else none
          | .sl b off len cap ex esz =>
            if esz ≠ z then none else
            let need := len + n
            if n = 0 then some (.val (.sl b off len cap ex esz) h) else
            if need ≤ cap then
              match aput h b (off + len * z) new with
              | some h' => some (.val (.sl b off need cap ex esz) h')
              | none => none
            else if by_ * need ≤ 2 ^ 46 ∧ need ≤ 2 ^ 46 then
              match elemsOf h z len s with
              | none => none
              | some old =>
                if ex then some (.val (.sl h.next 0 need need false z) (h.new (.cells (old ++ new) true)))
                else match h.get b with
                  | some (.cells l true) =>
                    if new.all AVal.one && decide (off + len * z ≤ l.length) then some (.val (.sl h.next 0 need need false z) ((h.set b .dead).new (.cells (old ++ new) true))) else none
                  | _ => none
            else none
          | _ => none
      | _, _, _, _ => none
    | _, _ => none
  | _, _ => none

def acopy (h : AHeap) (argTypes : Array TypeId) (d s : AVal) : Option ARes :=
  match (argTypes[0]?).bind P.underlying with
  | some (.slice e) =>
    match szD P e, lenA d, lenA s with
    | some z, some dl, some sl =>
      let n := min sl dl
      if n = 0 then (match d with | .nilsl | .sl .. => some (.val (.int .i64 0) h) | _ => none) else
      match elemsOf h z n s, d with
      | some l, .sl b off _ _ _ esz =>
        if esz = z then match aput h b off l with
          | some h' => some (.val (.int .i64 n) h')
          | none => none
        else none
      | _, _ => none
    | _, _, _ => none
  | _ => none

def aclear (h : AHeap) (argTypes : Array TypeId) (x : AVal) : Option ARes :=
  match (argTypes[0]?).bind P.underlying, x with
  | some (.slice _), .nilsl => some (.val (.tup []) h)
  | some (.slice e), .sl b off len _ _ esz =>
    if len = 0 then some (.val (.tup []) h) else
    match zeroD P e with
    | some zero =>
      if zero.cells.length = esz then match aput h b off (rep len zero.cells) with
        | some h' => some (.val (.tup []) h')
        | none => none
      else none
    | none => none
  | _, _ => none

def alen (h : AHeap) (argTypes : Array TypeId) (x : AVal) : Option AVal :=
  match (argTypes[0]?).bind P.underlying, x with
  | some .string, .str s => some (.int .i64 s.size)
  | some (.array n _), _ => some (.int .i64 n)
  | some (.slice _), .nilsl => some (.int .i64 0)
  | some (.slice _), .sl _ _ n _ _ _ => some (.int .i64 n)
  | some (.map _ _), .nilmap => some (.int .i64 0)
  | some (.map _ _), .map b => match h.get b with
    | some (.map es _) => some (.int .i64 es.length)
    | _ => none
  | _, _ => none

def acap (argTypes : Array TypeId) (x : AVal) : Option AVal :=
  match (argTypes[0]?).bind P.underlying, x with
  | some (.slice _), .nilsl => some (.int .i64 0)
  | some (.slice _), .sl _ _ _ c true _ => some (.int .i64 c)
  | _, _ => none

def amm (mx : Bool) (k : IntKind) : Int → List AVal → Option AVal
  | a, [] => some (.int k a)
  | a, .int k' b :: r => if k = k' then amm mx k (if mx then (if a < b then b else a) else (if b < a then b else a)) r else none
  | _, _ => none

def aminmax (mx : Bool) : List AVal → Option AVal
  | .int k a :: r => amm mx k a r
  | _ => none

def alookup (h : AHeap) (t : TypeId) (x i : AVal) (ok : Bool) : Option AVal :=
  match P.underlying t with
  | some (.map kt et) =>
    if !keyOk P kt i then none else
    match (match x with
      | .nilmap => some []
      | .map b => match h.get b with
        | some (.map es _) => some es
        | _ => none
      | _ => none) with
    | none => none
    | some es =>
      match findA P kt i es 0 with
      | some (some (_, v)) => some (if ok then .tup [v, .bool true] else v)
      | some none => match zeroD P et with
        | some v => some (if ok then .tup [v, .bool false] else v)
        | none => none
      | none => none
  | _ => none

def setEnt (l : List AEnt) (i : Nat) (k v : AVal) : List AEnt :=
  match l, i with
  | [], _ => []
  | e :: r, 0 => { e with key := k, val := v } :: r
  | e :: r, i + 1 => e :: setEnt r i k v

def amapSet (h : AHeap) (t : TypeId) (m k v : AVal) : Option AHeap :=
  match P.underlying t, m with
  | some (.map kt _), .map b =>
    if !keyOk P kt k then none else
    match h.get b with
    | some (.map es clock) =>
      match findA P kt k es 0 with
      | some (some (i, _)) => some (h.set b (.map (setEnt es i k v) clock))
      | some none => some (h.set b (.map (es ++ [{ key := k, val := v, born := clock }]) (clock + 1)))
      | none => none
    | _ => none
  | _, _ => none

def amapEntry (h : AHeap) (t : TypeId) (m k : AVal) : Option ARes :=
  match P.underlying t, m with
  | some (.map kt et), .map b =>
    if !keyOk P kt k then none else
    match h.get b with
    | some (.map es clock) =>
      match findA P kt k es 0 with
      | some (some (i, v)) => some (.val (.tup [v, .int .i64 (((es[i]?).map (·.born)).getD 0 : Nat)]) (h.set b (.map (setEnt es i k v) clock)))
      | some none => match zeroD P et with
        | some z => some (.val (.tup [z, .int .i64 clock]) (h.set b (.map (es ++ [{ key := k, val := z, born := clock }]) (clock + 1))))
        | none => none
      | none => none
    | _ => none
  | _, _ => none

def setVal (v : AVal) : List AEnt → Nat → List AEnt
  | [], _ => []
  | e :: r, 0 => { e with val := v } :: r
  | e :: r, i + 1 => e :: setVal v r i

def aentryStore (h : AHeap) (m stamp v : AVal) : Option AHeap :=
  match m, stamp with
  | .map b, .int _ n =>
    match h.get b with
    | some (.map es clock) =>
      match es.findIdx? (fun e => (e.born : Int) == n) with
      | some i => some (h.set b (.map (setVal v es i) clock))
      | none => none
    | _ => none
  | _, _ => none

def adelete (h : AHeap) (argTypes : Array TypeId) (m k : AVal) : Option AHeap :=
  match (argTypes[0]?).bind P.underlying, m with
  | some (.map kt _), .map b =>
    if !keyOk P kt k then none else
    match h.get b with
    | some (.map es clock) =>
      match findA P kt k es 0 with
      | some (some (i, _)) => some (h.set b (.map (es.eraseIdx i) clock))
      | some none => some (h.set b (.map es clock))
      | none => none
    | _ => none
  | _, _ => none

def anext (h : AHeap) (it : AVal) (isString : Bool) : Option ARes :=
  match it, isString with
  | .ptr b 0, false =>
    match h.get b with
    | some (.iter none _ _ _) => some (.val (.tup [.bool false]) h)
    | some (.iter (some m) since seen last) =>
      match h.get m with
      | some (.map es clock) =>
        if !seen.isEmpty && !es.isEmpty && es.all (fun e => decide (last ≤ e.born)) then none else
        match es.filter fun e => !seen.contains e.born with
        | [] => some (.val (.tup [.bool false]) h)
        | [e] => if e.born < since then some (.val (.tup [.bool true, e.key, e.val]) (h.set b (.iter (some m) since (seen ++ [e.born]) clock))) else none
        | _ => none
      | _ => none
    | _ => none
  | _, _ => none

def aentry (h : AHeap) (it : AVal) : Option AVal :=
  match it with
  | .ptr b 0 =>
    match h.get b with
    | some (.iter (some m) _ seen stepped) =>
      match seen.getLast?, h.get m with
      | some stamp, some (.map es clock) =>
        if clock = stepped then (es.find? fun e => e.born == stamp).map fun e => .tup [e.key, e.val] else none
      | _, _ => none
    | _ => none
  | _ => none

def arange (h : AHeap) (t : TypeId) (x : AVal) : Option ARes :=
  match P.underlying t, x with
  | some (.map _ _), .nilmap => some (.val (.ptr h.next 0) (h.new (.iter none 0 [] 0)))
  | some (.map _ _), .map m => match h.get m with
    | some (.map _ clock) => some (.val (.ptr h.next 0) (h.new (.iter (some m) clock [] clock)))
    | _ => none
  | _, _ => none

def atassert (x : AVal) (asserted : TypeId) (ok : Bool) : Option AVal :=
  match P.underlying asserted, x with
  | some (.interface _), _ => none
  | some _, .ifc t v => if t = asserted then some (if ok then .tup [v, .bool true] else v)
    else if ok then (zeroD P asserted).map fun z => .tup [z, .bool false] else none
  | some _, .nilifc => if ok then (zeroD P asserted).map fun z => .tup [z, .bool false] else none
  | _, _ => none

def abuiltin (b : Builtin) (argTypes : Array TypeId) (args : List AVal) (h : AHeap) : Option ARes :=
  match b, args with
  | .append, [s, x] => aappend P h argTypes s x
  | .copy, [d, s] => acopy P h argTypes d s
  | .clear, [x] => aclear P h argTypes x
  | .len, [x] => (alen P h argTypes x).map (.val · h)
  | .cap, [x] => (acap P argTypes x).map (.val · h)
  | .min, l => (aminmax false l).map (.val · h)
  | .max, l => (aminmax true l).map (.val · h)
  | .delete, [m, k] => (adelete P h argTypes m k).map (.val (.tup []) ·)
  | _, _ => none

def anyIface (t : TypeId) : Bool :=
  match P.underlying t with
  | some (.interface _) => true
  | some _ => false
  | none => true

/-- one operation -/
def aop (o : Oper) (ev : Operand → AVal) (h : AHeap) : Option ARes :=
  match o.op with
  | .move x | .assign x => some (.val (ev x) h)
  | .pick c a b => match ev c with
    | .bool t => some (.val (if t then ev a else ev b) h)
    | _ => none
  | .alloc t => match zeroD P t with
    | some z => some (.val (anew h z.cells).1 (anew h z.cells).2)
    | none => none
  | .box _ x => if (ev x).plain then some (.val (anew h (ev x).cells).1 (anew h (ev x).cells).2) else none
  | .build t parts => (abuild P t (parts.toList.map fun (i, x) => (i, ev x))).map (.val · h)
  | .buildSlice t n parts => abuildSlice P h t n (parts.toList.map fun (i, x) => (i, ev x))
  | .load t a => match aggD P t, szD P t, ev a with
    | some g, some n, .ptr b off => (aload h g n b off).map (.val · h)
    | _, _, _ => none
  | .store t a x => match szD P t, ev a with
    | some n, .ptr b off => if (ev x).plain = true ∧ (ev x).cells.length = n then (aput h b off (ev x).cells).map .skip else none
    | _, _ => none
  | .nilCheck x => match ev x with
    | .ptr b off => some (.val (.ptr b off) h)
    | _ => none
  | .binOp op t x y _ => (abin P op t x y (ev x) (ev y)).map (.val · h)
  | .unOp op _ x => (aunary op (ev x)).map (.val · h)
  | .convert s d x => (aconvert P s d (ev x)).map (.val · h)
  | .makeInterface t x => if anyIface P t then none else some (.val (.ifc t (ev x)) h)
  | .makeFunc (.func f) first cap => some (.val (.fn f (first.toList.map ev) (cap.toList.map ev)) h)
  | .makeMap _ none => some (.val (.map h.next) (h.new (.map [] 0)))
  | .makeSlice t l c => amakeSlice P h t (ev l) (ev c)
  | .slice t x lo hi mx => (aslice P t (ev x) (lo.map ev) (hi.map ev) (mx.map ev)).map (.val · h)
  | .fieldAddr t x f => (afieldAt P t (ev x) f).map (.val · h)
  | .field t x f => (afield P t (ev x) f).map (.val · h)
  | .indexAddr t x i => (aindexAt P t (ev x) (ev i)).map (.val · h)
  | .index t x i => (aindex P t (ev x) (ev i)).map (.val · h)
  | .lookup t x i ok => (alookup P h t (ev x) (ev i) ok).map (.val · h)
  | .mapUpdate t m k x | .insert t m k x => (amapSet P h t (ev m) (ev k) (ev x)).map .skip
  | .mapEntry t m k => amapEntry P h t (ev m) (ev k)
  | .entryStore _ m s x => (aentryStore h (ev m) (ev s) (ev x)).map .skip
  | .range t x => arange P h t (ev x)
  | .next it isString => anext h (ev it) isString
  | .entry it => (aentry h (ev it)).map (.val · h)
  | .typeAssert x _ asserted ok => (atassert P (ev x) asserted ok).map (.val · h)
  | .extract t i => match ev t with
    | .tup l => (l[i]?).map (.val · h)
    | _ => none
  | .call c =>
    match c.callee with
    | .builtin b => abuiltin P b c.argTypes (c.args.toList.map ev) h
    | .value f => match ev f with
      | .fn g first cap => if callable P g then some (.call g (first ++ c.args.toList.map ev ++ cap)) else none
      | _ => none
    | .invoke .. => none
  | .defer c =>
    match c.callee with
    | .value f => match ev f with
      | .fn g first cap => if callable P g then some (.defer g (first ++ c.args.toList.map ev ++ cap)) else none
      | _ => none
    | _ => none
  | .panic x => match ev x with
    | .ifc t v => some (.panic (.ifc t v))
    | _ => none
  | _ => none

inductive AExit where
  | normal
  | exit (id : Nat)
  | ret
  | panic (v : AVal)
  deriving Inhabited

inductive AEnd where
  | ret (v : AVal)
  | panic (v : AVal)
  deriving Inhabited

def ASt.put (s : ASt) (dst : Option Tmp) (v : AVal) : Option ASt :=
  match dst with
  | none => some s
  | some d => if d < s.nt then some { s with tm := s.tm.set d v } else none

/-- is an operation to be done? (its guard, if it has one, must have come to a bool, or not have been done) -/
def wantedA (ops : Array Oper) (o : Oper) (tm : T AVal) : Option Bool :=
  match o.guard with
  | none => some true
  | some (j, want) =>
    match (ops[j]?).bind (·.dst) with
    | none => some false
    | some t => match tget tm t with
      | .bool b => some (b == want)
      | .tup [] => some false
      | _ => none

abbrev Rec := FuncId → List AVal → AHeap → Option (AEnd × AHeap)

/-- operations, one behind the other -/
def aops (rec : Rec) (ops : Array Oper) : List Nat → ASt → Option (AExit × ASt)
  | [], s => some (.normal, s)
  | i :: rest, s =>
    match ops[i]? with
    | none => aops rec ops rest s
    | some o =>
      match wantedA ops o s.tm with
      | some true =>
        match aop P o (aeval s.tm) s.h with
        | some (.val v h) => match ASt.put { s with h := h } o.dst v with
          | some s' => aops rec ops rest s'
          | none => none
        | some (.skip h) => match ASt.put { s with h := h } o.dst .undef with
          | some s' => aops rec ops rest s'
          | none => none
        | some (.call f args) => match rec f args s.h with
          | some (.ret v, h) => match ASt.put { s with h := h } o.dst v with
            | some s' => aops rec ops rest s'
            | none => none
          | some (.panic v, h) => some (.panic v, { s with h := h })
          | none => none
        | some (.defer f args) => match ASt.put { s with defers := ⟨f, args⟩ :: s.defers } o.dst .undef with
          | some s' => aops rec ops rest s'
          | none => none
        | some (.panic v) => some (.panic v, s)
        | none => none
      | some false => match s.put o.dst .undef with
        | some s' => aops rec ops rest s'
        | none => none
      | none => none

/-! ### regions whose order is drawn -/

/-- 0 pure, 1 reads, 2 makes a block, 3 acts -/
def kindOf : Op → Nat
  | .move _ | .assign _ | .pick .. | .build .. | .nilCheck _ | .binOp .. | .unOp .. | .convert .. | .makeInterface .. | .makeFunc .. | .slice ..
  | .fieldAddr .. | .field .. | .indexAddr .. | .index .. | .typeAssert .. | .extract .. => 0
  | .load .. | .lookup .. => 1
  | .alloc _ | .box .. | .buildSlice .. | .makeMap .. | .makeSlice .. => 2
  | .call { callee := .builtin .len, .. } => 1
  | .call { callee := .builtin .cap, .. } => 0
  | .call { callee := .builtin .min, .. } => 0
  | .call { callee := .builtin .max, .. } => 0
  | _ => 3

/-- plain values that are the same -/
def sameOne : AVal → AVal → Bool
  | .bool a, .bool b => a == b
  | .int k a, .int k' b => decide (k = k') && a == b
  | .str a, .str b => decide (a = b)
  | .nilp, .nilp | .nilsl, .nilsl | .nilmap, .nilmap | .nilfn, .nilfn | .nilifc, .nilifc => true
  | .ptr b o, .ptr b' o' => b == b' && o == o'
  | .sl b o l c e z, .sl b' o' l' c' e' z' => b == b' && o == o' && l == l' && c == c' && e == e' && z == z'
  | .map b, .map b' => b == b'
  | .float k a, .float k' b => decide (k = k') && a == b
  | _, _ => false

def sameAll : List AVal → List AVal → Bool
  | [], [] => true
  | a :: x, b :: y => sameOne a b && sameAll x y
  | _, _ => false

/-- a value that may be a function of plain ones, or a row of plain ones -/
def sameVal : AVal → AVal → Bool
  | .agg a, .agg b => sameAll a b
  | .tup a, .tup b => sameAll a b
  | .fn f a c, .fn f' a' c' => f == f' && sameAll a a' && sameAll c c'
  | a, b => sameOne a b

def sameCells : List AVal → List AVal → Bool
  | [], [] => true
  | a :: x, b :: y => sameVal a b && sameCells x y
  | _, _ => false

/-- what an operation that makes a block lays into it -/
def madeBy (o : Oper) (ev : Operand → AVal) : Option AObj :=
  match aop P o ev { next := 0, t := .nil } with
  | some (.val _ h) => h.get 0
  | _ => none

def blockOf : AVal → Option Nat
  | .ptr b 0 => some b
  | .sl b 0 _ _ _ _ => some b
  | .map b => some b
  | _ => none

/-- would it come to the same now? -/
def again (ops : Array Oper) (s : ASt) (i : Nat) : Bool :=
  match ops[i]? with
  | none => false
  | some o =>
    match wantedA ops o s.tm with
    | some false => true
    | none => false
    | some true =>
      match o.dst with
      | none => false
      | some d =>
        if kindOf o.op = 1 then
          match aop P o (aeval s.tm) s.h with
          | some (.val v _) => sameVal v (tget s.tm d)
          | _ => false
        else
          match madeBy P o (aeval s.tm), blockOf (tget s.tm d) with
          | some (.cells l true), some b => match s.h.get b with
            | some (.cells l' true) => sameCells l l'
            | _ => false
          | some (.map [] 0), some b => match s.h.get b with
            | some (.map [] 0) => true
            | _ => false
          | _, _ => false

/-- a drawn region's plan: operations that act on nothing, then one that acts, then what is asked again behind it -/
structure Seg where
  stage : List Nat
  act : Nat
  again : List Nat
  deriving Inhabited

structure Plan where
  segs : List Seg
  last : List Nat
  deriving Inhabited

def kindAt (ops : Array Oper) (i : Nat) : Nat := match ops[i]? with | some o => kindOf o.op | none => 3

/-- the operations that must come before, by number -/
def directOf (ops : Array Oper) (i : Nat) : List Nat :=
  match ops[i]? with
  | some o => (o.after.toList.filter fun e => Region.binds .any e).map (·.on)
  | none => []

def preFrom (ops : Array Oper) : Nat → List (List Nat) → List (List Nat)
  | 0, acc => acc
  | n + 1, acc => preFrom ops n (acc ++ [((directOf ops acc.length).flatMap fun u => u :: acc.getD u []).eraseDups])

def preOf (ops : Array Oper) : List (List Nat) := preFrom ops ops.size []

def before (pre : List (List Nat)) (w i : Nat) : Bool := (pre.getD i []).contains w

def planOf (ops : Array Oper) (pre : List (List Nat)) : Plan :=
  let es := (List.range ops.size).filter fun i => kindAt ops i == 3
  let level (i : Nat) : Nat := (es.filter fun e => before pre e i).length
  let others := (List.range ops.size).filter fun i => kindAt ops i != 3
  let stage (j : Nat) : List Nat := others.filter fun i => level i == j
  { segs := es.zipIdx.map fun (e, j) =>
      { stage := stage j, act := e, again := others.filter fun i => decide (level i ≤ j) && kindAt ops i != 0 && !before pre i e }
    last := stage es.length }

def Plan.order (p : Plan) : List Nat := p.segs.flatMap (fun g => g.stage ++ [g.act]) ++ p.last

/-- each once, each behind those that must come before -/
def ordOk (ops : Array Oper) (pre : List (List Nat)) : List Nat → List Nat → Bool
  | [], _ => true
  | i :: r, seen => decide (i < ops.size) && !seen.contains i && (pre.getD i []).all seen.contains && ordOk ops pre r (i :: seen)

def stageOk (ops : Array Oper) (pre : List (List Nat)) (acts l : List Nat) : Bool :=
  l.all fun i => kindAt ops i != 3 && (match acts with | [] => true | e :: _ => before pre e i)

def segsOk (ops : Array Oper) (pre : List (List Nat)) : List Nat → List Nat → List Seg → List Nat → Bool
  | acts, _, [], last => stageOk ops pre acts last
  | acts, done, g :: r, last =>
    stageOk ops pre acts g.stage && kindAt ops g.act == 3 && acts.all (fun e => before pre e g.act) &&
      (done ++ g.stage).all (fun i => before pre i g.act || kindAt ops i == 0 || g.again.contains i) &&
      segsOk ops pre (g.act :: acts) (done ++ g.stage) r last

def dstAt (ops : Array Oper) (i : Nat) : Option Tmp := (ops[i]?).bind (·.dst)
def looksAt (ops : Array Oper) (i : Nat) : List Tmp := match ops[i]? with | some o => o.looksAt ops | none => []

/-- temporaries: written once; read only where the order of reading and writing is sure -/
def tempsOk (ops : Array Oper) (pre : List (List Nat)) : Bool :=
  (List.range ops.size).all fun w => match dstAt ops w with
    | none => kindAt ops w != 1 && kindAt ops w != 2
    | some d => ((kindAt ops w != 1 && kindAt ops w != 2) || !(looksAt ops w).contains d) && (List.range ops.size).all fun i => i == w ||
        (dstAt ops i != some d && (!(looksAt ops i).contains d || before pre w i || (kindAt ops i != 1 && kindAt ops i != 2 && before pre i w)))

def preOk (ops : Array Oper) (pre : List (List Nat)) : Bool :=
  (List.range ops.size).all fun i =>
    (directOf ops i).all (fun u => decide (u < i) && before pre u i) &&
    (pre.getD i []).all fun w => (directOf ops i).contains w || (directOf ops i).any fun u => before pre w u

def plainOp : Op → Bool
  | .defer _ | .select .. => false
  | _ => true

def drawOk (ops : Array Oper) : Bool :=
  let pre := preOf ops
  let p := planOf ops pre
  preOk ops pre && ordOk ops pre p.order [] && (List.range ops.size).all p.order.contains && segsOk ops pre [] [] p.segs p.last && tempsOk ops pre &&
    ops.all fun o => plainOp o.op

def adrawRun (rec : Rec) (ops : Array Oper) : List Seg → List Nat → ASt → Option (AExit × ASt)
  | [], last, s => aops P rec ops last s
  | g :: r, last, s =>
    match aops P rec ops g.stage s with
    | some (.normal, s1) =>
      match aops P rec ops [g.act] s1 with
      | some (.normal, s2) => if g.again.all (again P ops s2) then adrawRun rec ops r last s2 else none
      | _ => none
    | _ => none

def adraw (rec : Rec) (ops : Array Oper) (s : ASt) : Option (AExit × ASt) :=
  if drawOk ops && P.follows .mixedOrders then adrawRun P rec ops (planOf ops (preOf ops)).segs (planOf ops (preOf ops)).last s else none

/-! ### code and calls -/

def ares (s : T AVal) (h : AHeap) : ResultVar → Option AVal
  | .tmp t => some (tget s t)
  | .cell a t => match aggD P t, szD P t, tget s a with
    | some g, some n, .ptr b off => aload h g n b off
    | _, _, _ => none

def aresults (fn : Func) (tm : T AVal) (h : AHeap) : Option AVal :=
  match optAll (fn.results.toList.map (ares P tm h)) with
  | some [v] => some v
  | some l => some (.tup l)
  | none => none

def setArgs : List AVal → Nat → T AVal → T AVal
  | [], _, t => t
  | v :: r, i, t => setArgs r (i + 1) (t.set i v)

/-- a deferred function that asks recover first, and no more -/
def recovers : Code → Option (Option Tmp × Code)
  | .seq (.region _ ops false) rest =>
    match ops.toList with
    | [o] => match o.op, o.guard with
      | .call { callee := .builtin .recover, .. }, none => some (o.dst, rest)
      | _, _ => none
    | _ => none
  | _ => none

abbrev Ev := Code → ASt → Option (AExit × ASt)

def runDef (ev : Ev) (d : ADef) (mode : Option AVal) (h : AHeap) : Option AHeap :=
  match P.funcs[d.f]? with
  | some fn => match fn.body.bind recovers with
    | some (dst, rest) =>
      if d.args.length ≤ fn.ntmps then
        match ASt.put { tm := setArgs d.args 0 .nil, h := h, nt := fn.ntmps, defers := [] } dst (mode.getD .nilifc) with
        | some s => match ev rest s with
          | some (.normal, s') | some (.ret, s') => if s'.defers.isEmpty && (aresults P fn s'.tm s'.h).isSome then some s'.h else none
          | _ => none
        | none => none
      else none
    | none => none
  | none => none

/-- what is deferred, and the results -/
def aleave (ev : Ev) (fn : Func) (tm : T AVal) : List ADef → Option AVal → AHeap → Option (AEnd × AHeap)
  | [], none, h => (aresults P fn tm h).map fun v => (.ret v, h)
  | [], some v, h => some (.panic v, h)
  | d :: ds, mode, h => match runDef P ev d mode h with
    | some h' => aleave ev fn tm ds none h'
    | none => none

def acall (ev : Ev) (f : FuncId) (args : List AVal) (h : AHeap) : Option (AEnd × AHeap) :=
  match P.funcs[f]? with
  | some fn => match fn.body with
    | some c =>
      if args.length ≤ fn.ntmps then
        match ev c { tm := setArgs args 0 .nil, h := h, nt := fn.ntmps, defers := [] } with
        | some (.normal, s) | some (.ret, s) => aleave P ev fn s.tm s.defers none s.h
        | some (.panic v, s) => aleave P ev fn s.tm s.defers (some v) s.h
        | _ => none
      else none
    | none => none
  | none => none

def aev : Nat → Code → ASt → Option (AExit × ASt)
  | 0, _, _ => none
  | n + 1, c, s =>
    match c with
    | .skip | .label _ => some (.normal, s)
    | .seq a b => match aev n a s with
      | some (.normal, s') => aev n b s'
      | r => r
    | .cond c a b => match aeval s.tm c with
      | .bool true => aev n a s
      | .bool false => aev n b s
      | _ => none
    | .block id b => match aev n b s with
      | some (.exit id', s') => if id' = id then some (.normal, s') else some (.exit id', s')
      | r => r
    | .loop b => match aev n b s with
      | some (.normal, s') => aev n (.loop b) s'
      | r => r
    | .exit id => some (.exit id, s)
    | .scope b => aev n b s
    | .ret => some (.ret, s)
    | .region _ ops draw => if draw then adraw P (acall P (aev n)) ops s else aops P (acall P (aev n)) ops (List.range ops.size) s
    | _ => none

end
end
end Go.Aev
