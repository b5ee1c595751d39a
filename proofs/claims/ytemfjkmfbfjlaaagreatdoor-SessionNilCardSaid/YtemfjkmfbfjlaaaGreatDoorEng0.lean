/- An ideal machine for the translated code, and that the model answers as it does: part 0. -/
import Derived.Orders
import GoSem.Extern.Table
import Derived.Laws.Sem
import Derived.Laws.Tables
import Derived.Laws.Append
import Derived.Laws.Cells
import Derived.Lib.FrozenHead
import Derived.Laws.Slices
set_option linter.all false
/- The ideal machine: a deterministic interpreter for the translated code over a heap with its own block numbers. Definitions alone; nothing is claimed here. -/
namespace Go.Ideal
open Go

/- A block of the ideal heap: cells (with the size of an element where the block was made by append and may have room behind it in the machine; else 0), cells that are read alone, a map's entries, a string's iterator. -/
inductive IObj where
  | cells (cs : List Value) (esz : Nat)
  | ro (cs : List Value)
  | map (es : List (Value × Value))
  | iter (s : ByteArray) (pos : Nat)

inductive T (α : Type) where
  | leaf
  | node (v : Option α) (l r : T α)

def T.get {α : Type} : T α → Nat → Option α
  | .leaf, _ => none
  | .node v l r, n => match n with
    | 0 => v
    | m + 1 => if m % 2 == 0 then l.get (m / 2) else r.get (m / 2)

def T.set {α : Type} : Nat → T α → Nat → Option α → T α
  | 0, t, _, _ => t
  | f + 1, t, n, v => match t with
    | .leaf => match n with
      | 0 => .node v .leaf .leaf
      | m + 1 => if m % 2 == 0 then .node none (T.set f .leaf (m / 2) v) .leaf else .node none .leaf (T.set f .leaf (m / 2) v)
    | .node v0 l r => match n with
      | 0 => .node v l r
      | m + 1 => if m % 2 == 0 then .node v0 (T.set f l (m / 2) v) r else .node v0 l (T.set f r (m / 2) v)

theorem T.get_leaf {α : Type} (n : Nat) : (T.leaf : T α).get n = none := rfl

theorem T.get_set {α : Type} : ∀ (f : Nat) (t : T α) (n : Nat) (v : Option α) (m : Nat), n < f → (T.set f t n v).get m = if m = n then v else t.get m
  | 0, _, n, _, _, h => absurd h (Nat.not_lt_zero _)
  | f + 1, t, n, v, m, h => by
    cases t with
    | leaf => cases n with
      | zero => cases m <;> simp [T.set, T.get]
      | succ n =>
        have ih := T.get_set f (.leaf : T α) (n / 2) v (m := (m - 1) / 2) (by omega)
        cases m with
        | zero => simp only [T.set]; split <;> simp [T.get]
        | succ m =>
          simp only [Nat.add_sub_cancel] at ih
          simp only [T.set]
          by_cases hn : n % 2 = 0
          · simp only [hn, beq_self_eq_true, if_true, T.get]
            by_cases hm : m % 2 = 0
            · simp only [hm, beq_self_eq_true, if_true, ih, T.get]; congr 1; simp only [eq_iff_iff]; omega
            · have : (m % 2 == 0) = false := by simpa using hm
              simp only [this, Bool.false_eq_true, if_false]; rw [if_neg (by omega)]
          · have hn' : (n % 2 == 0) = false := by simpa using hn
            simp only [hn', Bool.false_eq_true, if_false, T.get]
            by_cases hm : m % 2 = 0
            · simp only [hm, beq_self_eq_true, if_true]; rw [if_neg (by omega)]
            · have : (m % 2 == 0) = false := by simpa using hm
              simp only [this, Bool.false_eq_true, if_false, ih, T.get]; congr 1; simp only [eq_iff_iff]; omega
    | node v0 l r => cases n with
      | zero => cases m <;> simp [T.set, T.get]
      | succ n =>
        have ihl := T.get_set f l (n / 2) v (m := (m - 1) / 2) (by omega)
        have ihr := T.get_set f r (n / 2) v (m := (m - 1) / 2) (by omega)
        cases m with
        | zero => simp only [T.set]; split <;> simp [T.get]
        | succ m =>
          simp only [Nat.add_sub_cancel] at ihl ihr
          simp only [T.set]
          by_cases hn : n % 2 = 0
          · simp only [hn, beq_self_eq_true, if_true, T.get]
            by_cases hm : m % 2 = 0
            · simp only [hm, beq_self_eq_true, if_true, ihl]; congr 1; simp only [eq_iff_iff]; omega
            · have : (m % 2 == 0) = false := by simpa using hm
              simp only [this, Bool.false_eq_true, if_false]; rw [if_neg (by omega)]
          · have hn' : (n % 2 == 0) = false := by simpa using hn
            simp only [hn', Bool.false_eq_true, if_false, T.get]
            by_cases hm : m % 2 = 0
            · simp only [hm, beq_self_eq_true, if_true]; rw [if_neg (by omega)]
            · have : (m % 2 == 0) = false := by simpa using hm
              simp only [this, Bool.false_eq_true, if_false, ihr]; congr 1; simp only [eq_iff_iff]; omega

structure IHeap where
  next : Nat
  wr : Nat
  t : T IObj

def IHeap.get (h : IHeap) (b : Nat) : Option IObj := h.t.get b
def IHeap.live (h : IHeap) (b : Nat) : Prop := h.get b ≠ none
def IHeap.put (h : IHeap) (b : Nat) (o : Option IObj) : IHeap := { next := h.next, wr := h.wr ||| 2 ^ b, t := T.set (b + 1) h.t b o }
/- has the block been written? -/
def IHeap.wrote (h : IHeap) (b : Nat) : Bool := h.wr.testBit b
def IHeap.new (h : IHeap) (o : IObj) : IHeap := { next := h.next + 1, wr := h.wr, t := T.set (h.next + 1) h.t h.next (some o) }
def IHeap.empty : IHeap := ⟨0, 0, .leaf⟩

/- What of a program the operations ask. -/
structure Env where
  info : TypeId → Option TypeInfo
  und : TypeId → Option TypeDesc
  fn : FuncId → Option Func
  stood : TypeId → Bool
  guard : TypeId → Bool
  ext : FuncId → Bool

/- the library's look whether two slices share cells, at slices of one type whose elements have a size -/
def overlapsB (P : Program) (fn : Func) : Bool :=
  fn.body.isNone && !(fn.name == "runtime.NumGoroutine") && fn.origin == "slices.overlaps" && (Extern.findNext fn).isNone &&
  (Extern.allGenericRows.lookup fn.name).isNone && (Extern.allTypedRows.lookup fn.name).isNone && (Extern.allRows.lookup fn.name).isNone &&
  match fn.params.toList with
  | [t, t'] => t == t' && (match P.underlying t with | some (.slice e) => (P.info? e).isSome | _ => false)
  | _ => false

def Env.of (P : Program) : Env where
  info := fun t => P.info? t
  und := P.underlying
  fn := fun f => P.funcs[f]?
  stood := P.stoodInHeld
  guard := P.eqGuardType P.depth
  ext := fun f => match P.funcs[f]? with | some fn => overlapsB P fn | none => false

def isAggT (E : Env) (t : TypeId) : Option Bool := match E.und t with | some (.struct _) | some (.array _ _) => some true | some _ => some false | none => none
def szT (E : Env) (t : TypeId) : Option Nat := match E.info t with | some i => some i.size | none => none

def oneB : Value → Bool | .agg _ | .tuple _ => false | _ => true

/- A value without an address in it. -/
def cleanB : Nat → Value → Bool
  | 0, _ => false
  | n + 1, v => match v with
    | .bool _ | .int _ _ | .string _ | .nilFunc | .nilIface => true
    | .pointer a => a.isNone
    | .map r => r.isNone
    | .slice none l c => l == 0 && c == 0
    | .agg cs => cs.toList.all fun c => oneB c && cleanB n c
    | .tuple cs => cs.toList.all (cleanB n)
    | .iface _ v => cleanB n v
    | .func (.func _) f c => f.toList.all (cleanB n) && c.toList.all (cleanB n)
    | _ => false

def depthB : Nat := 6

def noTuple : Value → Bool | .tuple _ => false | _ => true

/- a type's zero value: it holds no address and has the type's size -/
def zeroT (E : Env) (t : TypeId) : Option Value :=
  match E.info t with
  | some i => match i.zero with
    | some z => if cleanB depthB z && noTuple z && z.cells.toList.length == i.size then some z else none
    | none => none
  | none => none

/- integers -/
def iint (op : BinOp) (k : IntKind) (x y : Int) : Option Value :=
  match op with
  | .add => some (.int k (k.wrap (x + y)))
  | .sub => some (.int k (k.wrap (x - y)))
  | .mul => some (.int k (k.wrap (x * y)))
  | .quo => if y = 0 then none else some (.int k (k.wrap (x.tdiv y)))
  | .rem => if y = 0 then none else some (.int k (x.tmod y))
  | .and => some (.int k (k.wrap ((BitVec.ofInt k.bits x &&& BitVec.ofInt k.bits y).toNat : Nat)))
  | .or => some (.int k (k.wrap ((BitVec.ofInt k.bits x ||| BitVec.ofInt k.bits y).toNat : Nat)))
  | .xor => some (.int k (k.wrap ((BitVec.ofInt k.bits x ^^^ BitVec.ofInt k.bits y).toNat : Nat)))
  | .andNot => some (.int k (k.wrap ((BitVec.ofInt k.bits x &&& ~~~ BitVec.ofInt k.bits y).toNat : Nat)))
  | .eql => some (.bool (x == y))
  | .neq => some (.bool (x != y))
  | .lss => some (.bool (x < y))
  | .leq => some (.bool (x ≤ y))
  | .gtr => some (.bool (x > y))
  | .geq => some (.bool (x ≥ y))
  | _ => none

def ishift (op : BinOp) (k : IntKind) (x y : Int) : Option Value :=
  if y < 0 then none else
  match op with
  | .shl => some (.int k (k.wrap (x * 2 ^ (min y.toNat k.bits))))
  | .shr => some (.int k (x.fdiv (2 ^ (min y.toNat k.bits))))
  | _ => none

def istring (op : BinOp) (x y : ByteArray) : Option Value :=
  match op with
  | .add => if x.size + y.size ≤ 9223372036854775807 then some (.string (x ++ y)) else none
  | .eql => some (.bool (x.toList == y.toList))
  | .neq => some (.bool !(x.toList == y.toList))
  | .lss => some (.bool (Op.bytesLess x.toList y.toList))
  | .leq => some (.bool (Op.bytesLess x.toList y.toList || x.toList == y.toList))
  | .gtr => some (.bool !(Op.bytesLess x.toList y.toList || x.toList == y.toList))
  | .geq => some (.bool !(Op.bytesLess x.toList y.toList))
  | _ => none

def iunary (op : UnOp) (x : Value) : Option Value :=
  match op, x with
  | .neg, .int k n => iint .sub k 0 n
  | .xor, .int k n => iint .xor k (if k.signed then -1 else k.max) n
  | .not, .bool b => some (.bool !b)
  | _, _ => none

def ieval (tm : List Value) : Operand → Value
  | .tmp t => tm.getD t undef
  | .const v => v
  | .global g => .pointer (some ⟨g, 0, none⟩)
  | .func f => .func (.func f) #[] #[]

def iput (tm : List Value) (dst : Option Tmp) (v : Value) : List Value := match dst with | some d => tm.set d v | none => tm

def IObj.row : IObj → Option (List Value)
  | .cells cs _ => some cs
  | .ro cs => some cs
  | _ => none

def IHeap.row (h : IHeap) (b : Nat) : Option (List Value) := match h.get b with | some o => o.row | none => none

/- n cells from off on -/
def cellsAt (h : IHeap) (b off n : Nat) : Option (List Value) :=
  match h.row b with
  | some cs => if off + n ≤ cs.length then some ((cs.drop off).take n) else none
  | none => none

def iload (E : Env) (t : TypeId) (x : Value) (h : IHeap) : Option Value :=
  match x with
  | .pointer (some ⟨b, off, none⟩) =>
    match h.row b with
    | some cs =>
      match isAggT E t with
      | some true => match szT E t with
        | some n => if off + n ≤ cs.length then some (.agg ((cs.drop off).take n).toArray) else none
        | none => none
      | some false => cs[off]?
      | none => none
    | none => none
  | _ => none

def splice (cs : List Value) (off : Nat) (vs : List Value) : List Value := cs.take off ++ (vs ++ cs.drop (off + vs.length))

def storeAt (h : IHeap) (b off : Nat) (vs : List Value) : Option IHeap :=
  match h.get b with
  | some (.cells cs e) => if off + vs.length ≤ cs.length then some (h.put b (some (.cells (splice cs off vs) e))) else none
  | _ => none

def istore (E : Env) (t : TypeId) (x v : Value) (h : IHeap) : Option IHeap :=
  match x with
  | .pointer (some ⟨b, off, none⟩) =>
    match szT E t with
    | some n => if v.cells.toList.length == n && noTuple v then storeAt h b off v.cells.toList else none
    | none => none
  | _ => none

def ifieldAddr (E : Env) (s : TypeId) (x : Value) (f : Nat) : Option Value :=
  match x, E.und s with
  | .pointer (some ⟨b, off, none⟩), some (.struct fs) =>
    match fs[f]? with
    | some fd => match szT E fd.type with
      | some (_ + 1) => some (.pointer (some ⟨b, off + fd.offset, none⟩))
      | _ => none
    | none => none
  | _, _ => none

def ipart (E : Env) (t : TypeId) (cs : List Value) (off : Nat) : Option Value :=
  match isAggT E t with
  | some true => match szT E t with
    | some n => if off + n ≤ cs.length then some (.agg ((cs.drop off).take n).toArray) else none
    | none => none
  | some false => cs[off]?
  | none => none

def ifield (E : Env) (s : TypeId) (x : Value) (f : Nat) : Option Value :=
  match x, E.und s with
  | .agg cs, some (.struct fs) =>
    match fs[f]? with
    | some fd => ipart E fd.type cs.toList fd.offset
    | none => none
  | _, _ => none

def iindexAddr (E : Env) (t : TypeId) (x ix : Value) : Option Value :=
  match ix with
  | .int _ i =>
    match E.und t, x with
    | some (.slice e), .slice (some ⟨b, off, none⟩) len _ =>
      if 0 ≤ i ∧ i < (len : Int) then
        match szT E e with
        | some n => some (.pointer (some ⟨b, off + i.toNat * n, none⟩))
        | none => none
      else none
    | some (.array len e), .pointer (some ⟨b, off, none⟩) =>
      if 0 ≤ i ∧ i < (len : Int) then
        match szT E e with
        | some n => some (.pointer (some ⟨b, off + i.toNat * n, none⟩))
        | none => none
      else none
    | _, _ => none
  | _ => none

def iindex (E : Env) (t : TypeId) (x ix : Value) : Option Value :=
  match ix with
  | .int _ i =>
    match E.und t, x with
    | some (.array len e), .agg cs =>
      if 0 ≤ i ∧ i < (len : Int) then
        match szT E e with
        | some n => ipart E e cs.toList (i.toNat * n)
        | none => none
      else none
    | some .string, .string s =>
      if 0 ≤ i then match s[i.toNat]? with
        | some b => some (.int .u8 b.toNat)
        | none => none
      else none
    | _, _ => none
  | _ => none

def ibound (x : Option Value) (dflt : Nat) (most : Nat) : Option Nat :=
  match x with
  | none => some dflt
  | some (.int _ i) => if 0 ≤ i ∧ i ≤ (most : Int) then some i.toNat else none
  | some _ => none

/- low, high, max of a slice expression -/
def ibounds (len cap : Nat) (lo hi mx : Option Value) : Option (Nat × Nat × Nat) :=
  match ibound mx cap cap with
  | none => none
  | some m =>
    if mx.isSome && hi.isNone then none else
    match ibound hi len m with
    | none => none
    | some hh =>
      match ibound lo 0 hh with
      | none => none
      | some l => if hh ≤ m then some (l, hh, m) else none

/- may a slice of elements of size n lie in the block? (a block with room behind it holds elements of one size) -/
def fitsE (h : IHeap) (b n : Nat) : Bool := match h.get b with | some (.cells _ e) => e == 0 || e == n | some (.ro _) => true | _ => false

def islice (E : Env) (t : TypeId) (x : Value) (lo hi mx : Option Value) (h : IHeap) : Option Value :=
  match E.und t, x with
  | some .string, .string s =>
    if mx.isSome then none else
    match ibounds s.size s.size lo hi none with
    | some (l, hh, _) => some (.string (s.extract l hh))
    | none => none
  | some (.slice e), .slice (some ⟨b, off, none⟩) len cap =>
    match ibounds len cap lo hi mx with
    | some (l, hh, m) => match szT E e with
      | some n => if fitsE h b n then some (.slice (some ⟨b, off + l * n, none⟩) (hh - l) (m - l)) else none
      | none => none
    | none => none
  | some (.slice e), .slice none 0 0 =>
    match ibounds 0 0 lo hi mx with
    | some _ => match szT E e with
      | some _ => some (.slice none 0 0)
      | none => none
    | none => none
  | some (.array k e), .pointer (some ⟨b, off, none⟩) =>
    match ibounds k k lo hi mx with
    | some (l, hh, m) => match szT E e with
      | some n => some (.slice (some ⟨b, off + l * n, none⟩) (hh - l) (m - l))
      | none => none
    | none => none
  | _, _ => none

/- equality of values that hold no address -/
def ieqFields (eq : TypeId → Value → Value → Option Bool) (E : Env) (xs ys : List Value) : List Field → Option Bool
  | [] => some true
  | f :: fs =>
    if f.name ≠ "_" then
      match ipart E f.type xs f.offset, ipart E f.type ys f.offset with
      | some x, some y => match eq f.type x y with
        | some true => ieqFields eq E xs ys fs
        | some false => some false
        | none => none
      | _, _ => none
    else ieqFields eq E xs ys fs

def ieq (E : Env) : Nat → TypeId → Value → Value → Option Bool
  | 0, _, _, _ => none
  | d + 1, t, x, y =>
    match E.und t, x, y with
    | some .bool, .bool a, .bool b => some (a == b)
    | some (.int _), .int k a, .int k' b => if k = k' then some (a == b) else none
    | some .string, .string a, .string b => some (a == b)
    | some (.struct fs), .agg xs, .agg ys => if E.stood t then none else ieqFields (ieq E d) E xs.toList ys.toList fs.toList
    | _, _, _ => none

def isNilV : Value → Option Bool
  | .pointer a => some a.isNone
  | .slice a _ _ => some a.isNone
  | .map r => some r.isNone
  | .nilFunc => some true
  | .func _ _ _ => some false
  | .nilIface => some true
  | .iface _ _ => some false
  | _ => none

def isNilable (E : Env) (t : TypeId) : Value → Value → Bool
  | .pointer _, .pointer _ => match E.und t with | some (.pointer _) => true | _ => false
  | .slice _ _ _, .slice _ _ _ => match E.und t with | some (.slice _) => true | _ => false
  | .map _, .map _ => match E.und t with | some (.map _ _) => true | _ => false
  | .nilFunc, .func _ _ _ | .func _ _ _, .nilFunc | .nilFunc, .nilFunc => match E.und t with | some (.func _ _ _) => true | _ => false
  | .nilIface, .iface _ _ | .iface _ _, .nilIface => match E.und t with | some (.interface _) => true | _ => false
  | _, _ => false

def iequal (E : Env) (t : TypeId) (x y : Value) : Option Bool :=
  match x, y with
  | .agg _, .agg _ => if E.guard t then none else ieq E 10000 t x y
  | _, _ =>
    if isNilable E t x y then
      match isNilV x, isNilV y with
      | some true, some b => some b
      | some b, some true => some b
      | _, _ => none
    else none

def ibin (E : Env) (op : BinOp) (t : TypeId) (x y : Value) : Option Value :=
  match x, y with
  | .int k a, .int k' b => match op with
    | .shl | .shr => ishift op k a b
    | _ => if k = k' then iint op k a b else none
  | .string a, .string b => istring op a b
  | .bool a, .bool b => match op, E.und t with
    | .eql, some .bool => some (.bool (a == b))
    | .neq, some .bool => some (.bool (!(a == b)))
    | _, _ => none
  | _, _ => match op with
    | .eql => match iequal E t x y with | some b => some (.bool b) | none => none
    | .neq => match iequal E t x y with | some b => some (.bool (!b)) | none => none
    | _ => none

/- cells into places -/
def iplace (E : Env) (t : TypeId) : Option (Nat → Option (Nat × Nat)) :=
  match E.und t with
  | some (.struct fs) => if fs.toList.all fun f => (szT E f.type).isSome then some fun i => match fs[i]? with
    | some f => match szT E f.type with | some n => some (f.offset, n) | none => none
    | none => none
    else none
  | some (.array _ e) => match szT E e with | some n => some fun i => some (i * n, n) | none => none
  | _ => none

def ifill (place : Nat → Option (Nat × Nat)) (cells : List Value) : List (Nat × Value) → Option (List Value)
  | [] => some cells
  | (i, v) :: rest =>
    match place i with
    | none => none
    | some (off, n) =>
      if v.cells.toList.length == n && noTuple v && decide (off + n ≤ cells.length) then ifill place (splice cells off v.cells.toList) rest else none

def ibuild (E : Env) (t : TypeId) (parts : List (Nat × Value)) : Option Value :=
  match zeroT E t, iplace E t with
  | some z, some place => match ifill place z.cells.toList parts with
    | some cs => some (.agg cs.toArray)
    | none => none
  | _, _ => none

def repeatL (zero : List Value) : Nat → List Value
  | 0 => []
  | n + 1 => zero ++ repeatL zero n

def ibuildSlice (E : Env) (t : TypeId) (len : Nat) (parts : List (Nat × Value)) (h : IHeap) : Option (Value × IHeap) :=
  match E.und t with
  | some (.slice e) => match szT E e, zeroT E e with
    | some n, some z =>
      if len * n ≤ 1000000 then
        match ifill (fun i => some (i * n, n)) (repeatL z.cells.toList len) parts with
        | some cs => some (.slice (some ⟨h.next, 0, none⟩) len len, h.new (.cells cs 0))
        | none => none
      else none
    | _, _ => none
  | _ => none

def imakeSlice (E : Env) (t : TypeId) (len cap : Value) (h : IHeap) : Option (Value × IHeap) :=
  match E.und t, len, cap with
  | some (.slice e), .int _ l, .int _ c =>
    match szT E e, zeroT E e, E.info e with
    | some n, some z, some i =>
      if 0 ≤ l ∧ l ≤ c ∧ c ≤ 9223372036854775807 ∧ (i.bytes : Int) * c ≤ 281474976710656 then
        some (.slice (some ⟨h.next, 0, none⟩) l.toNat c.toNat, h.new (.cells (repeatL z.cells.toList c.toNat) 0))
      else none
    | _, _, _ => none
  | _, _, _ => none

/- the cells that a slice or a string holds -/
def isource (h : IHeap) (size n : Nat) : Value → Option (List Value)
  | .slice (some ⟨b, off, none⟩) _ _ => cellsAt h b off (n * size)
  | .slice none _ _ => some []
  | .string s => some ((s.data.toList.take n).map fun b => .int .u8 b.toNat)
  | _ => none

def ilen : Value → Option Nat
  | .slice _ n _ => some n
  | .string s => some s.size
  | _ => none

def roomMost : Nat := 35184372088832

def iappendTo (E : Env) (e : TypeId) (size bytes : Nat) (base : Option Addr) (sLen sCap n : Nat) (new : List Value) (h : IHeap) : Option (Value × IHeap) :=
  let need := sLen + n
  if need ≤ sCap then
    match base with
    | some ⟨b, off, none⟩ => if n * size = 0 then some (.slice base need sCap, h) else match storeAt h b (off + sLen * size) new with
      | some h' => some (.slice base need sCap, h')
      | none => none
    | none => if n = 0 ∧ sLen = 0 ∧ sCap = 0 then some (.slice none 0 0, h) else none
    | _ => none
  else if bytes = 0 ∨ need * bytes > roomMost ∨ size = 0 then none
  else
    match zeroT E e with
    | none => none
    | some _ =>
      match base with
      | none => some (.slice (some ⟨h.next, 0, none⟩) need need, h.new (.cells new size))
      | some ⟨b, off, none⟩ =>
        match h.get b with
        | some (.ro cs) => if off + sLen * size ≤ cs.length then some (.slice (some ⟨h.next, 0, none⟩) need need, h.new (.cells ((cs.drop off).take (sLen * size) ++ new) size)) else none
        | some (.cells cs esz) =>
          if off + sLen * size ≤ cs.length then
            let all := (cs.drop off).take (sLen * size) ++ new
            let h' := h.new (.cells all size)
            if esz = 0 then some (.slice (some ⟨h.next, 0, none⟩) need need, h')
            else if esz = size then
              if off + sCap * size = cs.length then some (.slice (some ⟨h.next, 0, none⟩) need need, h'.put b none)
              else some (.slice (some ⟨h.next, 0, none⟩) need need, h')
            else none
          else none
        | _ => none
      | _ => none

def iappend (E : Env) (argTypes : List TypeId) (args : List Value) (h : IHeap) : Option (Value × IHeap) :=
  match argTypes, args with
  | [sT, xT], [.slice base sLen sCap, x] =>
    match E.und sT, E.und xT with
    | some (.slice e), some xD =>
      match szT E e, E.info e with
      | some size, some i =>
        match xD, x with
        | .int _, .int _ l =>
          match zeroT E e with
          | some z => if 0 ≤ l ∧ l ≤ 1000000 ∧ i.bytes ≤ 1000000 then iappendTo E e size i.bytes base sLen sCap l.toNat (repeatL z.cells.toList l.toNat) h else none
          | none => none
        | .int _, _ => none
        | _, x => match ilen x with
          | some n => match isource h size n x with
            | some new => if new.length = n * size then iappendTo E e size i.bytes base sLen sCap n new h else none
            | none => none
          | none => none
      | _, _ => none
    | _, _ => none
  | _, _ => none

def icopy (E : Env) (argTypes : List TypeId) (args : List Value) (h : IHeap) : Option (Value × IHeap) :=
  match argTypes, args with
  | dT :: _, [.slice base dLen _, src] =>
    match E.und dT with
    | some (.slice e) =>
      match szT E e, ilen src with
      | some size, some m =>
        let n := min m dLen
        match isource h size n src with
        | some cs => match base with
          | none => if dLen = 0 then some (.int .i64 0, h) else none
          | some ⟨b, off, none⟩ => if cs.length = 0 then some (.int .i64 n, h) else if cs.length = n * size then match storeAt h b off cs with
            | some h' => some (.int .i64 n, h')
            | none => none
            else none
          | _ => none
        | none => none
      | _, _ => none
    | _ => none
  | _, _ => none

def iclear (E : Env) (argTypes : List TypeId) (args : List Value) (h : IHeap) : Option (Value × IHeap) :=
  match argTypes, args with
  | [t], [.slice (some ⟨b, off, none⟩) n _] =>
    match E.und t with
    | some (.slice e) =>
      if n = 0 then some (.tuple #[], h) else
      match zeroT E e, szT E e with
      | some z, some _ => match storeAt h b off (repeatL z.cells.toList n) with
        | some h' => some (.tuple #[], h')
        | none => none
      | _, _ => none
    | _ => none
  | [t], [.slice none 0 0] => match E.und t with
    | some (.slice _) => some (.tuple #[], h)
    | _ => none
  | _, _ => none

/- a map's entry by an integer or string key -/
def sameKey : Value → Value → Option Bool
  | .int k a, .int k' b => if k = k' then some (a == b) else none
  | .string a, .string b => some (a == b)
  | _, _ => none

def findE (key : Value) : List (Value × Value) → Nat → Option (Option (Nat × Value))
  | [], _ => some none
  | (k, v) :: es, i => match sameKey key k with
    | some true => some (some (i, v))
    | some false => findE key es (i + 1)
    | none => none

def keyT (E : Env) (k : TypeId) (key : Value) : Bool :=
  match E.und k, key with
  | some (.int _), .int _ _ => true
  | some .string, .string _ => true
  | _, _ => false

def ilookup (E : Env) (t : TypeId) (x key : Value) (ok : Bool) (h : IHeap) : Option Value :=
  match E.und t, x with
  | some (.map kt et), .map r =>
    if keyT E kt key then
      match (match r with | none => some none | some b => match h.get b with | some (.map es) => findE key es 0 | _ => none : Option (Option (Nat × Value))), zeroT E et with
      | some (some (_, v)), _ => some (if ok then .tuple #[v, .bool true] else v)
      | some none, some z => some (if ok then .tuple #[z, .bool false] else z)
      | _, _ => none
    else none
  | _, _ => none

def imapUpdate (E : Env) (t : TypeId) (x key v : Value) (h : IHeap) : Option IHeap :=
  match E.und t, x with
  | some (.map kt _), .map (some b) =>
    if keyT E kt key then
      match h.get b with
      | some (.map es) => match findE key es 0 with
        | some (some (i, _)) => some (h.put b (some (.map (es.set i (key, v)))))
        | some none => some (h.put b (some (.map (es ++ [(key, v)]))))
        | none => none
      | _ => none
    else none
  | _, _ => none

def idelete (E : Env) (argTypes : List TypeId) (args : List Value) (h : IHeap) : Option (Value × IHeap) :=
  match argTypes, args with
  | t :: _, [.map (some b), key] =>
    match E.und t with
    | some (.map kt _) =>
      if keyT E kt key then
        match h.get b with
        | some (.map es) => match findE key es 0 with
          | some (some (i, _)) => some (.tuple #[], h.put b (some (.map (es.eraseIdx i))))
          | some none => some (.tuple #[], h.put b (some (.map es)))
          | none => none
        | _ => none
      else none
    | _ => none
  | _, _ => none

def ilenB (E : Env) (argTypes : List TypeId) (args : List Value) (h : IHeap) : Option Value :=
  match argTypes, args with
  | t :: _, x :: _ =>
    match E.und t, x with
    | some .string, .string s => some (.int .i64 s.size)
    | some (.array n _), _ => some (.int .i64 n)
    | some (.slice _), .slice _ n _ => some (.int .i64 n)
    | some (.map _ _), .map none => some (.int .i64 0)
    | some (.map _ _), .map (some b) => match h.get b with | some (.map es) => some (.int .i64 es.length) | _ => none
    | _, _ => none
  | _, _ => none

def icap (E : Env) (argTypes : List TypeId) (args : List Value) (h : IHeap) : Option Value :=
  match argTypes, args with
  | t :: _, x :: _ =>
    match E.und t, x with
    | some (.slice _), .slice none _ n => some (.int .i64 n)
    | some (.slice _), .slice (some ⟨b, _, none⟩) _ n => match h.get b with
      | some (.cells _ 0) | some (.ro _) => some (.int .i64 n)
      | _ => none
    | _, _ => none
  | _, _ => none

def imin : List Value → Option Value
  | .int k x :: .int k' y :: rest => if k = k' then imin' (.int k (if y < x then y else x)) rest else none
  | _ => none
  where imin' : Value → List Value → Option Value
  | v, [] => some v
  | .int k x, .int k' y :: rest => if k = k' then imin' (.int k (if y < x then y else x)) rest else none
  | _, _ => none

def imax : List Value → Option Value
  | .int k x :: .int k' y :: rest => if k = k' then imax' (.int k (if y > x then y else x)) rest else none
  | _ => none
  where imax' : Value → List Value → Option Value
  | v, [] => some v
  | .int k x, .int k' y :: rest => if k = k' then imax' (.int k (if y > x then y else x)) rest else none
  | _, _ => none

def byteOfV : Value → Option UInt8
  | .int .u8 n => some (UInt8.ofNat n.toNat)
  | _ => none

def bytesOfVs : List Value → Option (List UInt8)
  | [] => some []
  | v :: vs => match byteOfV v, bytesOfVs vs with
    | some b, some bs => some (b :: bs)
    | _, _ => none

def iconvert (E : Env) (src dst : TypeId) (x : Value) (h : IHeap) : Option (Value × IHeap) :=
  match E.und src, E.und dst, x with
  | some _, some (.int k), .int _ n => some (.int k (k.wrap n), h)
  | some _, some .string, .string s => some (.string s, h)
  | some (.slice e), some .string, .slice none 0 0 => match E.und e with
    | some (.int .u8) => some (.string .empty, h)
    | _ => none
  | some (.slice e), some .string, .slice (some ⟨b, off, none⟩) len _ => match E.und e with
    | some (.int .u8) => match cellsAt h b off len with
      | some cs => match bytesOfVs cs with
        | some bs => some (.string ⟨bs.toArray⟩, h)
        | none => none
      | none => none
    | _ => none
  | _, _, _ => none

def itypeAssert (E : Env) (x : Value) (asserted : TypeId) (ok : Bool) : Option Value :=
  match E.und asserted, x with
  | some (.interface _), _ => none
  | some _, .iface t v =>
    if t = asserted then some (if ok then .tuple #[v, .bool true] else v)
    else if ok then match zeroT E asserted with | some z => some (.tuple #[z, .bool false]) | none => none
    else none
  | some _, .nilIface => if ok then match zeroT E asserted with | some z => some (.tuple #[z, .bool false]) | none => none else none
  | _, _ => none

def inext (it : Value) (h : IHeap) : Option (Value × IHeap) :=
  match it with
  | .pointer (some ⟨b, 0, none⟩) => match h.get b with
    | some (.iter s pos) =>
      if pos < s.size then
        some (.tuple #[.bool true, .int .i64 pos, .int .i32 (Utf8.decode s pos).1], h.put b (some (.iter s (pos + (Utf8.decode s pos).2))))
      else some (.tuple #[.bool false], h)
    | _ => none
  | _ => none

abbrev ICall := FuncId → List Value → IHeap → Option (Value × IHeap)

def goesOn (E : Env) (f : FuncId) : Bool :=
  match E.fn f with
  | some fn => fn.body.isSome && !(fn.name == "runtime.NumGoroutine")
  | none => false

/- two slices in two blocks of cells share none -/
def iapart (args : List Value) (h : IHeap) : Option (Value × IHeap) :=
  match args with
  | [.slice (some ⟨b, _, none⟩) _ _, .slice (some ⟨b', _, none⟩) _ _] =>
    if b = b' then none else
    match h.get b, h.get b' with
    | some (.cells _ _), some (.cells cs _) => if 0 < cs.length then some (.bool false, h) else none
    | _, _ => none
  | _ => none

def ibuiltin (E : Env) (b : Builtin) (argTypes : List TypeId) (args : List Value) (h : IHeap) : Option (Value × IHeap) :=
  match b with
  | .append => iappend E argTypes args h
  | .copy => icopy E argTypes args h
  | .clear => iclear E argTypes args h
  | .delete => idelete E argTypes args h
  | .len => match ilenB E argTypes args h with | some v => some (v, h) | none => none
  | .cap => match icap E argTypes args h with | some v => some (v, h) | none => none
  | .min => match imin args with | some v => some (v, h) | none => none
  | .max => match imax args with | some v => some (v, h) | none => none
  | _ => none

def pureV (v : Option Value) (h : IHeap) : Option (Value × IHeap) := match v with | some v => some (v, h) | none => none
def unitV (h : Option IHeap) : Option (Value × IHeap) := match h with | some h => some (undef, h) | none => none

def iop (E : Env) (call : ICall) (ρ : Operand → Value) (o : Op) (h : IHeap) : Option (Value × IHeap) :=
  match o with
  | .move x | .assign x => some (ρ x, h)
  | .pick c a b => match ρ c with
    | .bool t => some (if t then ρ a else ρ b, h)
    | _ => none
  | .alloc e => match zeroT E e with
    | some z => some (.pointer (some ⟨h.next, 0, none⟩), h.new (.cells z.cells.toList 0))
    | none => none
  | .box _ x => if noTuple (ρ x) then some (.pointer (some ⟨h.next, 0, none⟩), h.new (.cells (ρ x).cells.toList 0)) else none
  | .build t parts => pureV (ibuild E t (parts.toList.map fun p => (p.1, ρ p.2))) h
  | .buildSlice t len parts => ibuildSlice E t len (parts.toList.map fun p => (p.1, ρ p.2)) h
  | .load t a => pureV (iload E t (ρ a) h) h
  | .store t a x => unitV (istore E t (ρ a) (ρ x) h)
  | .nilCheck x => match ρ x with
    | .pointer (some a) => some (.pointer (some a), h)
    | .func (.func f) p q => some (.func (.func f) p q, h)
    | _ => none
  | .binOp op t x y _ => pureV (ibin E op t (ρ x) (ρ y)) h
  | .unOp op _ x => pureV (iunary op (ρ x)) h
  | .convert s d x => iconvert E s d (ρ x) h
  | .makeInterface t x => match E.und t with
    | some (.interface _) => none
    | some _ => some (.iface t (ρ x), h)
    | none => none
  | .makeFunc (.func f) first captured => some (.func (.func f) (first.toList.map ρ).toArray (captured.toList.map ρ).toArray, h)
  | .makeMap t none => some (.map (some h.next), h.new (.map []))
  | .makeMap t (some r) => match E.und t, ρ r with
    | some (.map _ _), .int _ _ => some (.map (some h.next), h.new (.map []))
    | _, _ => none
  | .makeSlice t l c => imakeSlice E t (ρ l) (ρ c) h
  | .slice t x lo hi mx => pureV (islice E t (ρ x) (lo.map ρ) (hi.map ρ) (mx.map ρ) h) h
  | .fieldAddr s x f => pureV (ifieldAddr E s (ρ x) f) h
  | .field t x f => pureV (ifield E t (ρ x) f) h
  | .indexAddr t x ix => pureV (iindexAddr E t (ρ x) (ρ ix)) h
  | .index t x ix => pureV (iindex E t (ρ x) (ρ ix)) h
  | .lookup t x ix ok => pureV (ilookup E t (ρ x) (ρ ix) ok h) h
  | .mapUpdate t m k x | .insert t m k x => unitV (imapUpdate E t (ρ m) (ρ k) (ρ x) h)
  | .range t x => match E.und t, ρ x with
    | some .string, .string s => some (.pointer (some ⟨h.next, 0, none⟩), h.new (.iter s 0))
    | _, _ => none
  | .next it true => inext (ρ it) h
  | .typeAssert x _ asserted ok => pureV (itypeAssert E (ρ x) asserted ok) h
  | .extract t i => match ρ t with
    | .tuple vs => match vs.toList[i]? with
      | some v => some (v, h)
      | none => none
    | _ => none
  | .call ⟨.builtin b, args, argTypes⟩ => ibuiltin E b argTypes.toList (args.toList.map ρ) h
  | .call ⟨.value f, args, _⟩ => match ρ f with
    | .func (.func f) first captured => if goesOn E f then call f (first.toList ++ (args.toList.map ρ) ++ captured.toList) h
      else if E.ext f then iapart (first.toList ++ (args.toList.map ρ) ++ captured.toList) h else none
    | _ => none
  | _ => none

/- operations that neither read nor write the heap -/
def pureOp (E : Env) : Op → Bool
  | .call ⟨.builtin .min, _, _⟩ => true
  | .call ⟨.builtin .max, _, _⟩ => true
  | .call ⟨.builtin .len, _, ts⟩ => match ts.toList with
    | t :: _ => match E.und t with | some (.slice _) | some .string | some (.array _ _) => true | _ => false
    | [] => false
  | .convert _ d _ => match E.und d with | some (.int _) => true | _ => false
  | .move _ | .assign _ | .pick .. | .build .. | .nilCheck _ | .binOp .. | .unOp .. | .makeInterface .. | .makeFunc .. | .fieldAddr .. | .field .. | .indexAddr .. | .index .. | .typeAssert .. | .extract .. => true
  | _ => false

def iyielded (ops : List Oper) (tm : List Value) (j : Nat) : Option Bool :=
  match ops[j]? with
  | some o => match o.dst with
    | some d => match tm[d]? with
      | some (.bool b) => some b
      | _ => none
    | none => none
  | none => none

def iwanted (ops : List Oper) (tm : List Value) (o : Oper) : Bool :=
  match o.guard with
  | none => true
  | some (j, want) => iyielded ops tm j == some want

/- an operand without an address of the text's own -/
def constOK : Operand → Bool
  | .tmp _ => true
  | .func _ => true
  | .const v => cleanB depthB v
  | .global _ => false

def operOK (o : Op) : Bool := o.operands.toList.all constOK

def irun (E : Env) (call : ICall) (ops : List Oper) : List Oper → List Value → IHeap → Option (List Value × IHeap)
  | [], tm, h => some (tm, h)
  | o :: rest, tm, h =>
    if iwanted ops tm o then
      if operOK o.op then
        match iop E call (ieval tm) o.op h with
        | some (v, h') => irun E call ops rest (iput tm o.dst v) h'
        | none => none
      else none
    else irun E call ops rest (iput tm o.dst undef) h

/- is the operation i ahead of the operation j by the edges that bind in any order? -/
def ordered (ops : List Oper) : Nat → Nat → Nat → Bool
  | 0, _, _ => false
  | f + 1, i, j =>
    match ops[j]? with
    | some o => (o.after.toList.any fun e => Region.binds .any e && e.on == i) || (o.after.toList.any fun e => Region.binds .any e && ordered ops f i e.on)
    | none => false

def looks (ops : List Oper) (o : Oper) : List Tmp :=
  (o.op.operands.toList.filterMap fun | .tmp t => some t | _ => none) ++
  (match o.guard with
   | some (g, _) => match ops[g]? with | some x => x.dst.toList | none => []
   | none => [])

/- the temporaries of a region whose order is drawn are written and read in the order of the text, whatever order is drawn -/
def tempsOK (ops : List Oper) : Bool :=
  (List.range ops.length).all fun i =>
    match ops[i]? with
    | some o => match o.dst with
      | some t => (List.range ops.length).all fun j => i == j || (match ops[j]? with
        | some x => !(x.dst == some t || (looks ops x).contains t) || ordered ops 40 (min i j) (max i j)
        | none => true)
      | none => true
    | none => true

def edgesOK (ops : List Oper) : Bool :=
  (List.range ops.length).all fun j =>
    match ops[j]? with
    | some o => o.after.toList.all fun e => !Region.binds .any e || Nat.blt e.on j
    | none => true

def drawOK (ops : List Oper) : Bool := tempsOK ops && edgesOK ops

def isLoad : Op → Bool | .load _ _ => true | _ => false
/- operations that make a block and look at no memory -/
def allocOp : Op → Bool | .alloc _ | .box _ _ | .buildSlice _ _ _ | .makeMap _ none => true | _ => false

/- may the operation j, which changes what was there, stand in a region whose order is drawn? (loads are looked at apart) -/
def barrier (E : Env) (ops : List Oper) (j : Nat) : Bool :=
  (List.range ops.length).all fun i =>
    i == j || (match ops[i]? with
      | some o => pureOp E o.op || isLoad o.op || allocOp o.op || ordered ops 40 (min i j) (max i j)
      | none => true)

/- the block that a load reads, or that is made -/
def loadsOf (ρ : Operand → Value) (next : Nat) : Op → Option Nat
  | .alloc _ | .box _ _ | .buildSlice _ _ _ | .makeMap _ none => some next
  | .load _ a => match ρ a with | .pointer (some a) => some a.block | _ => none
  | _ => none

/- st: the first number of a block that the region makes; rd: the loads and makings so far, with their blocks; mu: the operations so far that changed what was there, with the blocks that they wrote -/
def irunDraw (E : Env) (call : ICall) (ops : List Oper) (st : Nat) : List Oper → Nat → List (Nat × Nat) → List (Nat × Nat) → List Value → IHeap → Option (List Value × IHeap)
  | [], _, _, _, tm, h => some (tm, h)
  | o :: rest, j, rd, mu, tm, h =>
    if iwanted ops tm o then
      if operOK o.op then
        match iop E call (ieval tm) o.op { next := h.next, wr := 0, t := h.t } with
        | some (v, h') =>
          match loadsOf (ieval tm) h.next o.op with
          | some b =>
            if (allocOp o.op || mu.isEmpty || Nat.blt b st) && mu.all fun x => ordered ops 40 x.1 j || !x.2.testBit b then
              irunDraw E call ops st rest (j + 1) ((j, b) :: rd) mu (iput tm o.dst v) { next := h'.next, wr := h.wr ||| h'.wr, t := h'.t }
            else none
          | none =>
            if h'.wr % 2 ^ h.next == 0 then irunDraw E call ops st rest (j + 1) rd mu (iput tm o.dst v) { next := h'.next, wr := h.wr ||| h'.wr, t := h'.t }
            else if barrier E ops j && rd.all fun x => ordered ops 40 x.1 j || !h'.wr.testBit x.2 then
              irunDraw E call ops st rest (j + 1) rd ((j, h'.wr) :: mu) (iput tm o.dst v) { next := h'.next, wr := h.wr ||| h'.wr, t := h'.t }
            else none
        | none => none
      else none
    else irunDraw E call ops st rest (j + 1) rd mu (iput tm o.dst undef) h

inductive IEx where
  | normal
  | exit (id : Nat)
  | ret

def iresult1 (E : Env) (tm : List Value) (h : IHeap) : ResultVar → Option Value
  | .tmp t => some (tm.getD t undef)
  | .cell a t => iload E t (tm.getD a undef) h

def iresultL (E : Env) (tm : List Value) (h : IHeap) : List ResultVar → Option (List Value)
  | [] => some []
  | r :: rs => match iresult1 E tm h r, iresultL E tm h rs with
    | some v, some vs => some (v :: vs)
    | _, _ => none

def iresults (E : Env) (fn : Func) (tm : List Value) (h : IHeap) : Option Value :=
  match iresultL E tm h fn.results.toList with
  | some [v] => some v
  | some vs => some (.tuple vs.toArray)
  | none => none

/- functions of the library that the ideal machine does by itself -/
abbrev Prims := FuncId → Option (List Value → IHeap → Option (Value × IHeap))

def icallBy (E : Env) (pr : Prims) (run : Code → List Value → IHeap → Option (IEx × List Value × IHeap)) : ICall := fun f args h =>
  match pr f with
  | some g => g args h
  | none =>
  match E.fn f with
  | some fn => match fn.body with
    | some c => match run c (args ++ List.replicate (fn.ntmps - args.length) undef) h with
      | some (.normal, tm, h') => match iresults E fn tm h' with | some v => some (v, h') | none => none
      | some (.ret, tm, h') => match iresults E fn tm h' with | some v => some (v, h') | none => none
      | _ => none
    | none => none
  | none => none

def icode (E : Env) (pr : Prims) : Nat → Code → List Value → IHeap → Option (IEx × List Value × IHeap)
  | 0, _, _, _ => none
  | n + 1, c, tm, h =>
    match c with
    | .skip => some (.normal, tm, h)
    | .label _ => some (.normal, tm, h)
    | .region _ ops draw =>
      match (if draw then (if drawOK ops.toList then irunDraw E (icallBy E pr (icode E pr n)) ops.toList h.next ops.toList 0 [] [] tm h else none) else irun E (icallBy E pr (icode E pr n)) ops.toList ops.toList tm h) with
      | some (tm', h') => some (.normal, tm', h')
      | none => none
    | .seq a b =>
      match icode E pr n a tm h with
      | some (.normal, tm', h') => icode E pr n b tm' h'
      | r => r
    | .cond c x y =>
      match ieval tm c with
      | .bool true => icode E pr n x tm h
      | .bool false => icode E pr n y tm h
      | _ => none
    | .block id b =>
      match icode E pr n b tm h with
      | some (.exit id', tm', h') => if id' = id then some (.normal, tm', h') else some (.exit id', tm', h')
      | r => r
    | .loop b =>
      match icode E pr n b tm h with
      | some (.normal, tm', h') => icode E pr n (.loop b) tm' h'
      | r => r
    | .exit id => some (.exit id, tm, h)
    | .ret => some (.ret, tm, h)
    | _ => none

def icall (E : Env) (pr : Prims) (n : Nat) : ICall := icallBy E pr (icode E pr n)

end Go.Ideal

/- The relation between the ideal machine's values and heaps and the model's, and how a step carries it on. -/
namespace Go.Ideal
open Go

/- where an ideal block lies in the machine: the block, the first cell, how many cells there and here, the size of an element -/
structure Pos where
  r : Nat
  base : Nat
  isize : Nat
  rsize : Nat
  esz : Nat

abbrev Emb := Nat → Option Pos

inductive VRel (φ : Emb) : Value → Value → Prop
  | bool (b : Bool) : VRel φ (.bool b) (.bool b)
  | int (k : IntKind) (n : Int) : VRel φ (.int k n) (.int k n)
  | string (s : ByteArray) : VRel φ (.string s) (.string s)
  | ptrNil : VRel φ (.pointer none) (.pointer none)
  | ptr (b off : Nat) (p : Pos) (h : φ b = some p) : VRel φ (.pointer (some ⟨b, off, none⟩)) (.pointer (some ⟨p.r, p.base + off, none⟩))
  | sliceNil : VRel φ (.slice none 0 0) (.slice none 0 0)
  | slice (b off len cap : Nat) (p : Pos) (h : φ b = some p) : VRel φ (.slice (some ⟨b, off, none⟩) len cap) (.slice (some ⟨p.r, p.base + off, none⟩) len cap)
  | sliceGrow (b off len cap cap' : Nat) (p : Pos) (h : φ b = some p) (hs : 0 < p.esz) (hc : cap ≤ cap') (h1 : off + cap * p.esz = p.isize) (h2 : p.base + off + cap' * p.esz = p.rsize) :
      VRel φ (.slice (some ⟨b, off, none⟩) len cap) (.slice (some ⟨p.r, p.base + off, none⟩) len cap')
  | sliceEmpty (b off : Nat) (a : Addr) : VRel φ (.slice (some ⟨b, off, none⟩) 0 0) (.slice (some a) 0 0)
  | mapNil : VRel φ (.map none) (.map none)
  | map (b : Nat) (p : Pos) (h : φ b = some p) : VRel φ (.map (some b)) (.map (some p.r))
  | func (f : FuncId) (xs ys us vs : Array Value) (h1 : xs.size = ys.size) (h2 : ∀ (i : Nat) (v v' : Value), xs[i]? = some v → ys[i]? = some v' → VRel φ v v')
      (h3 : us.size = vs.size) (h4 : ∀ (i : Nat) (v v' : Value), us[i]? = some v → vs[i]? = some v' → VRel φ v v') : VRel φ (.func (.func f) xs us) (.func (.func f) ys vs)
  | nilFunc : VRel φ .nilFunc .nilFunc
  | iface (t : TypeId) (v v' : Value) (h : VRel φ v v') : VRel φ (.iface t v) (.iface t v')
  | nilIface : VRel φ .nilIface .nilIface
  | agg (xs ys : Array Value) (h1 : xs.size = ys.size) (h2 : ∀ (i : Nat) (v v' : Value), xs[i]? = some v → ys[i]? = some v' → VRel φ v v') (h3 : ∀ v ∈ xs, oneB v = true) : VRel φ (.agg xs) (.agg ys)
  | tuple (xs ys : Array Value) (h1 : xs.size = ys.size) (h2 : ∀ (i : Nat) (v v' : Value), xs[i]? = some v → ys[i]? = some v' → VRel φ v v') : VRel φ (.tuple xs) (.tuple ys)

def LRel (φ : Emb) (xs ys : List Value) : Prop := xs.length = ys.length ∧ ∀ (i : Nat) (v v' : Value), xs[i]? = some v → ys[i]? = some v' → VRel φ v v'

theorem LRel.nil (φ : Emb) : LRel φ [] [] := ⟨rfl, fun i v v' h => by simp at h⟩
theorem LRel.cons {φ : Emb} {v v' : Value} {xs ys : List Value} (h : VRel φ v v') (hl : LRel φ xs ys) : LRel φ (v :: xs) (v' :: ys) := by
  refine ⟨by simp [hl.1], fun i u u' h1 h2 => ?_⟩
  cases i with
  | zero => simp at h1 h2; subst h1 h2; exact h
  | succ i => exact hl.2 i u u' (by simpa using h1) (by simpa using h2)
theorem LRel.head {φ : Emb} {v v' : Value} {xs ys : List Value} (h : LRel φ (v :: xs) (v' :: ys)) : VRel φ v v' := h.2 0 v v' (by simp) (by simp)
theorem LRel.tail {φ : Emb} {v v' : Value} {xs ys : List Value} (h : LRel φ (v :: xs) (v' :: ys)) : LRel φ xs ys :=
  ⟨by simpa using h.1, fun i u u' h1 h2 => h.2 (i + 1) u u' (by simpa using h1) (by simpa using h2)⟩
theorem LRel.nil_left {φ : Emb} {ys : List Value} (h : LRel φ [] ys) : ys = [] := List.eq_nil_of_length_eq_zero (by simpa using h.1.symm)
theorem LRel.cons_left {φ : Emb} {v : Value} {xs ys : List Value} (h : LRel φ (v :: xs) ys) : ∃ v' ys', ys = v' :: ys' ∧ VRel φ v v' ∧ LRel φ xs ys' := by
  cases ys with
  | nil => simp [LRel] at h
  | cons v' ys' => exact ⟨v', ys', rfl, h.head, h.tail⟩
theorem LRel.get {φ : Emb} {xs ys : List Value} (h : LRel φ xs ys) {i : Nat} {v : Value} (hv : xs[i]? = some v) : ∃ v', ys[i]? = some v' ∧ VRel φ v v' := by
  have hi : i < xs.length := (List.getElem?_eq_some_iff.1 hv).1
  have hi' : i < ys.length := h.1 ▸ hi
  exact ⟨ys[i], List.getElem?_eq_getElem hi', h.2 i v _ hv (List.getElem?_eq_getElem hi')⟩
theorem LRel.append {φ : Emb} {xs ys us vs : List Value} (h : LRel φ xs ys) (h' : LRel φ us vs) : LRel φ (xs ++ us) (ys ++ vs) := by
  induction xs generalizing ys with
  | nil => rw [h.nil_left]; exact h'
  | cons v xs ih => obtain ⟨v', ys', rfl, h1, h2⟩ := h.cons_left; exact (ih h2).cons h1
theorem LRel.take {φ : Emb} {xs ys : List Value} (h : LRel φ xs ys) (n : Nat) : LRel φ (xs.take n) (ys.take n) := by
  refine ⟨by simp [h.1], fun i v v' h1 h2 => ?_⟩
  rw [List.getElem?_take] at h1 h2
  split at h1
  · rename_i hi; rw [if_pos hi] at h2; exact h.2 i v v' h1 h2
  · cases h1
theorem LRel.drop {φ : Emb} {xs ys : List Value} (h : LRel φ xs ys) (n : Nat) : LRel φ (xs.drop n) (ys.drop n) :=
  ⟨by simp [h.1], fun i v v' h1 h2 => h.2 (n + i) v v' (by simpa using h1) (by simpa using h2)⟩
theorem LRel.mono {φ ψ : Emb} {xs ys : List Value} (hm : ∀ v v', VRel φ v v' → VRel ψ v v') (h : LRel φ xs ys) : LRel ψ xs ys := ⟨h.1, fun i v v' h1 h2 => hm _ _ (h.2 i v v' h1 h2)⟩
theorem LRel.set {φ : Emb} {xs ys : List Value} (h : LRel φ xs ys) (n : Nat) {v v' : Value} (hv : VRel φ v v') : LRel φ (xs.set n v) (ys.set n v') := by
  refine ⟨by simp [h.1], fun i u u' h1 h2 => ?_⟩
  rw [List.getElem?_set] at h1 h2
  split at h1
  · rename_i hi; rw [if_pos hi] at h2
    split at h1
    · rename_i hn; rw [if_pos (h.1 ▸ hn)] at h2; simp at h1 h2; subst h1 h2; exact hv
    · cases h1
  · rename_i hi; rw [if_neg hi] at h2; exact h.2 i u u' h1 h2
theorem LRel.map {φ : Emb} {α : Type} (f g : α → Value) (l : List α) (h : ∀ x ∈ l, VRel φ (f x) (g x)) : LRel φ (l.map f) (l.map g) := by
  induction l with
  | nil => exact .nil φ
  | cons x l ih => exact (ih fun y hy => h y (by simp [hy])).cons (h x (by simp))
theorem LRel.replicate {φ : Emb} (n : Nat) {v v' : Value} (h : VRel φ v v') : LRel φ (List.replicate n v) (List.replicate n v') := by
  induction n with
  | zero => exact .nil φ
  | succ n ih => exact ih.cons h
theorem LRel.toArray {φ : Emb} {xs ys : List Value} (h : LRel φ xs ys) : xs.toArray.size = ys.toArray.size ∧ ∀ (i : Nat) (v v' : Value), xs.toArray[i]? = some v → ys.toArray[i]? = some v' → VRel φ v v' :=
  ⟨by simpa using h.1, fun i v v' h1 h2 => h.2 i v v' (by simpa using h1) (by simpa using h2)⟩
theorem LRel.ofArray {φ : Emb} {xs ys : Array Value} (h1 : xs.size = ys.size) (h2 : ∀ (i : Nat) (v v' : Value), xs[i]? = some v → ys[i]? = some v' → VRel φ v v') : LRel φ xs.toList ys.toList :=
  ⟨by simpa using h1, fun i v v' e1 e2 => h2 i v v' (by simpa using e1) (by simpa using e2)⟩
theorem VRel.agg' {φ : Emb} {xs ys : List Value} (h : LRel φ xs ys) (h1 : ∀ v ∈ xs, oneB v = true) : VRel φ (.agg xs.toArray) (.agg ys.toArray) :=
  .agg _ _ h.toArray.1 h.toArray.2 (by simpa using h1)
theorem VRel.tuple' {φ : Emb} {xs ys : List Value} (h : LRel φ xs ys) : VRel φ (.tuple xs.toArray) (.tuple ys.toArray) := .tuple _ _ h.toArray.1 h.toArray.2
theorem VRel.func' {φ : Emb} (f : FuncId) {xs ys us vs : List Value} (h : LRel φ xs ys) (h' : LRel φ us vs) : VRel φ (.func (.func f) xs.toArray us.toArray) (.func (.func f) ys.toArray vs.toArray) :=
  .func f _ _ _ _ h.toArray.1 h.toArray.2 h'.toArray.1 h'.toArray.2

def Emb.le (φ ψ : Emb) : Prop := ∀ b p, φ b = some p → ψ b = some p


theorem Emb.le_refl (φ : Emb) : φ.le φ := fun _ _ h => h
theorem Emb.le_trans {φ ψ χ : Emb} (a : φ.le ψ) (b : ψ.le χ) : φ.le χ := fun x p h => b x p (a x p h)

theorem VRel.ext {φ ψ : Emb} (he : φ.le ψ) {v v' : Value} (h : VRel φ v v') : VRel ψ v v' := by
  induction h with
  | bool b => exact .bool b
  | int k n => exact .int k n
  | string s => exact .string s
  | ptrNil => exact .ptrNil
  | ptr b off p h => exact .ptr b off p (he _ _ h)
  | sliceNil => exact .sliceNil
  | slice b off len cap p h => exact .slice b off len cap p (he _ _ h)
  | sliceGrow b off len cap cap' p h hs hc h1 h2 => exact .sliceGrow b off len cap cap' p (he _ _ h) hs hc h1 h2
  | sliceEmpty b off a => exact .sliceEmpty b off a
  | mapNil => exact .mapNil
  | map b p h => exact .map b p (he _ _ h)
  | func f xs ys us vs h1 _ h3 _ ih1 ih2 => exact .func f xs ys us vs h1 ih1 h3 ih2
  | nilFunc => exact .nilFunc
  | iface t v v' _ ih => exact .iface t v v' ih
  | nilIface => exact .nilIface
  | agg xs ys h1 _ h3 ih => exact .agg xs ys h1 ih h3
  | tuple xs ys h1 _ ih => exact .tuple xs ys h1 ih

theorem array_eq_of_rel {xs ys : Array Value} (h1 : xs.size = ys.size) (h2 : ∀ (i : Nat) (v v' : Value), xs[i]? = some v → ys[i]? = some v' → v' = v) : ys = xs := by
  apply Array.ext h1.symm
  intro i hi hi'
  exact h2 i _ _ (Array.getElem?_eq_getElem hi') (Array.getElem?_eq_getElem hi)

theorem VRel.clean {φ : Emb} {v v' : Value} (h : VRel φ v v') : ∀ n, cleanB n v = true → v' = v := by
  induction h with
  | ptr b off p h => intro n hn; cases n <;> simp [cleanB] at hn
  | slice b off len cap p h => intro n hn; cases n <;> simp [cleanB] at hn
  | sliceGrow b off len cap cap' p h hs hc h1 h2 => intro n hn; cases n <;> simp [cleanB] at hn
  | sliceEmpty b off a => intro n hn; cases n <;> simp [cleanB] at hn
  | map b p h => intro n hn; cases n <;> simp [cleanB] at hn
  | func f xs ys us vs h1 _ h3 _ ih1 ih2 =>
    intro n hn
    cases n with
    | zero => simp [cleanB] at hn
    | succ n =>
      simp only [cleanB, Bool.and_eq_true, List.all_eq_true] at hn
      have e1 := array_eq_of_rel h1 fun i v v' hv hv' => ih1 i v v' hv hv' n (hn.1 v (by simpa using Array.mem_of_getElem? hv))
      have e2 := array_eq_of_rel h3 fun i v v' hv hv' => ih2 i v v' hv hv' n (hn.2 v (by simpa using Array.mem_of_getElem? hv))
      rw [e1, e2]
  | iface t v v' _ ih =>
    intro n hn
    cases n with
    | zero => simp [cleanB] at hn
    | succ n => rw [ih n (by simpa [cleanB] using hn)]
  | agg xs ys h1 _ h3 ih =>
    intro n hn
    cases n with
    | zero => simp [cleanB] at hn
    | succ n =>
      simp only [cleanB, List.all_eq_true, Bool.and_eq_true] at hn
      rw [array_eq_of_rel h1 fun i v v' hv hv' => ih i v v' hv hv' n (hn v (by simpa using Array.mem_of_getElem? hv)).2]
  | tuple xs ys h1 _ ih =>
    intro n hn
    cases n with
    | zero => simp [cleanB] at hn
    | succ n =>
      simp only [cleanB, List.all_eq_true] at hn
      rw [array_eq_of_rel h1 fun i v v' hv hv' => ih i v v' hv hv' n (hn v (by simpa using Array.mem_of_getElem? hv))]
  | _ => intro n _; rfl

theorem VRel.of_clean (φ : Emb) : ∀ (n : Nat) (v : Value), cleanB n v = true → VRel φ v v
  | 0, v, h => by simp [cleanB] at h
  | n + 1, v, h => by
    have self : ∀ (xs : Array Value), (∀ v ∈ xs, cleanB n v = true) → ∀ (i : Nat) (v v' : Value), xs[i]? = some v → xs[i]? = some v' → VRel φ v v' := by
      intro xs hx i v v' h1 h2
      rw [h1] at h2; cases h2
      exact VRel.of_clean φ n v (hx v (Array.mem_of_getElem? h1))
    cases v with
    | bool b => exact .bool b
    | int k m => exact .int k m
    | string s => exact .string s
    | pointer a => cases a with | none => exact .ptrNil | some a => simp [cleanB] at h
    | map r => cases r with | none => exact .mapNil | some a => simp [cleanB] at h
    | slice a l c => cases a with
      | none => simp [cleanB] at h; obtain ⟨rfl, rfl⟩ := h; exact .sliceNil
      | some a => simp [cleanB] at h
    | nilFunc => exact .nilFunc
    | nilIface => exact .nilIface
    | agg cs => simp only [cleanB, List.all_eq_true, Bool.and_eq_true] at h; exact .agg _ _ rfl (self cs fun v hv => (h v (by simpa using hv)).2) fun v hv => (h v (by simpa using hv)).1
    | tuple cs => simp only [cleanB, List.all_eq_true] at h; exact .tuple _ _ rfl (self cs fun v hv => h v (by simpa using hv))
    | iface t v => exact .iface t v v (VRel.of_clean φ n v (by simpa [cleanB] using h))
    | func f x c => cases f with
      | func f => simp only [cleanB, List.all_eq_true, Bool.and_eq_true] at h; exact .func f _ _ _ _ rfl (self x fun v hv => h.1 v (by simpa using hv)) rfl (self c fun v hv => h.2 v (by simpa using hv))
      | _ => simp [cleanB] at h
    | _ => simp [cleanB] at h

theorem VRel.undef (φ : Emb) : VRel φ undef undef := .tuple _ _ rfl fun i v v' h => by simp at h

/- cells of one cell each -/
theorem oneB_eq (v : Value) : v.oneCell' = oneB v := by cases v <;> rfl
theorem VRel.one {φ : Emb} {v v' : Value} (h : VRel φ v v') : oneB v' = oneB v := by cases h <;> rfl

theorem LRel.ones {φ : Emb} {xs ys : List Value} (h : LRel φ xs ys) (h1 : ∀ v ∈ xs, oneB v = true) : ∀ v ∈ ys, oneB v = true := by
  intro v hv
  obtain ⟨i, hi⟩ := List.getElem?_of_mem hv
  have hi' : i < xs.length := by have := (List.getElem?_eq_some_iff.1 hi).1; have := h.1; omega
  rw [(h.2 i xs[i] v (List.getElem?_eq_getElem hi') hi).one]
  exact h1 _ (List.getElem_mem hi')

/- entries of a map -/
def ERel (φ : Emb) (es : List (Value × Value)) (ms : List MapEntry) : Prop :=
  es.length = ms.length ∧ ∀ (i : Nat) (x : Value × Value) (m : MapEntry), es[i]? = some x → ms[i]? = some m → m.key = x.1 ∧ VRel φ x.2 m.val

def IObj.writes : IObj → Bool | .ro _ => false | _ => true

def ORel (φ : Emb) (w : World) (p : Pos) : IObj → Prop
  | .cells cs e => ∃ rcs el, w.heap[p.r]? = some (.cells rcs el (0, 0)) ∧ rcs.size = p.rsize ∧ cs.length = p.isize ∧ e = p.esz ∧ p.base + p.isize ≤ p.rsize ∧
      LRel φ cs ((rcs.toList.drop p.base).take p.isize) ∧ (∀ v ∈ cs, oneB v = true) ∧ ∀ v ∈ rcs.toList.drop (p.base + p.isize), oneB v = true ∧ cleanB depthB v = true
  | .ro cs => p.esz = 0 ∧ ∀ (i : Nat) (v : Value), cs[i]? = some v → oneB v = true ∧ ∃ v', w.cell? ⟨p.r, p.base + i, none⟩ = some v' ∧ VRel φ v v'
  | .map es => ∃ ms clock, w.heap[p.r]? = some (.map ms clock) ∧ ERel φ es ms.toList
  | .iter s pos => p.base = 0 ∧ w.heap[p.r]? = some (.stringIter s pos)

theorem ERel.ext {φ ψ : Emb} (he : φ.le ψ) {es : List (Value × Value)} {ms : List MapEntry} (h : ERel φ es ms) : ERel ψ es ms :=
  ⟨h.1, fun i x m h1 h2 => ⟨(h.2 i x m h1 h2).1, (h.2 i x m h1 h2).2.ext he⟩⟩

theorem ORel.keep {φ ψ : Emb} (he : φ.le ψ) {w w' : World} {p : Pos} {o : IObj} (h : ORel φ w p o) (hh : w'.heap[p.r]? = w.heap[p.r]?) : ORel ψ w' p o := by
  cases o with
  | cells cs e =>
    obtain ⟨rcs, el, h1, h2, h3, h4, h5, h6, h7, h8⟩ := h
    exact ⟨rcs, el, by rw [hh, h1], h2, h3, h4, h5, h6.mono fun _ _ h => h.ext he, h7, h8⟩
  | ro cs =>
    refine ⟨h.1, fun i v hv => ?_⟩
    obtain ⟨h1, v', h2, h3⟩ := h.2 i v hv
    exact ⟨h1, v', by simpa [World.cell?, hh] using h2, h3.ext he⟩
  | map es => obtain ⟨ms, c, h1, h2⟩ := h; exact ⟨ms, c, by rw [hh, h1], h2.ext he⟩
  | iter s pos => exact ⟨h.1, hh.trans h.2⟩

theorem ORel.cold {φ : Emb} {w : World} {p : Pos} {o : IObj} (h : ORel φ w p o) (hk : o.writes = true) (a : Addr) (ha : a.block = p.r) : w.frozen? a = false := by
  unfold World.frozen?
  rw [ha]
  cases o with
  | cells cs e =>
    obtain ⟨rcs, el, h1, _⟩ := h
    rw [h1]; simp
  | ro cs => cases hk
  | map es => obtain ⟨ms, c, h1, _⟩ := h; rw [h1]
  | iter s pos => rw [h.2]

theorem frozen_same {w w' : World} {a : Addr} (h : w'.heap[a.block]? = w.heap[a.block]?) : w'.frozen? a = w.frozen? a := by unfold World.frozen?; rw [h]

structure HRel (φ : Emb) (h : IHeap) (w : World) : Prop where
  obj : ∀ b p o, φ b = some p → h.get b = some o → ORel φ w p o
  lt : ∀ b p, φ b = some p → h.live b → p.r < w.heap.size
  inj : ∀ b b' p p' o, φ b = some p → φ b' = some p' → h.get b = some o → o.writes = true → h.live b' → p.r = p'.r → b = b'

/- what is so of the ideal heap behind a step -/
structure IMono (h h' : IHeap) : Prop where
  next : h.next ≤ h'.next
  wr : ∀ b, h.wrote b = true → h'.wrote b = true
  same : ∀ b, b < h.next → h'.wrote b = false → h'.get b = h.get b
  dead : ∀ b o', b < h.next → h'.get b = some o' → ∃ o, h.get b = some o ∧ o.writes = o'.writes

def IHeap.wf (h : IHeap) : Prop := ∀ b, h.next ≤ b → h.get b = none

structure Step (φ : Emb) (h : IHeap) (w : World) (φ' : Emb) (h' : IHeap) (w' : World) : Prop where
  mono : IMono h h'
  wf : h'.wf
  ext : φ.le φ'
  fresh : ∀ b p, φ b = none → φ' b = some p → h.next ≤ b ∧ b < h'.next ∧ (w.heap.size ≤ p.r ∨ ∃ b0 p0 o, φ b0 = some p0 ∧ p0.r = p.r ∧ h.get b0 = some o ∧ o.writes = true ∧ h'.wrote b0 = true)
  size : w.heap.size ≤ w'.heap.size
  frame : ∀ r, r < w.heap.size → (∀ b p o, φ b = some p → p.r = r → h.get b = some o → o.writes = true → h'.wrote b = false) → w'.heap[r]? = w.heap[r]?
  rel : HRel φ' h' w'
  calm : w'.os = w.os ∧ w'.output = w.output
  cold : ∀ a, w'.frozen? a = w.frozen? a

/- no block that is yet to be made is placed -/
def Room (φ : Emb) (h h' : IHeap) : Prop := ∀ b, h.next ≤ b → b < h'.next → φ b = none

theorem IMono.refl (h : IHeap) : IMono h h := ⟨Nat.le_refl _, fun _ e => e, fun _ _ _ => rfl, fun _ o' _ e => ⟨o', e, rfl⟩⟩

theorem IMono.unwrote {h h' : IHeap} (m : IMono h h') {b : Nat} (e : h'.wrote b = false) : h.wrote b = false := by
  cases e' : h.wrote b with
  | false => rfl
  | true => rw [m.wr b e'] at e; cases e

theorem IMono.trans {h h1 h2 : IHeap} (a : IMono h h1) (b : IMono h1 h2) : IMono h h2 where
  next := Nat.le_trans a.next b.next
  wr := fun x e => b.wr x (a.wr x e)
  same := fun x h1' h2' => by rw [b.same x (Nat.lt_of_lt_of_le h1' a.next) h2', a.same x h1' (b.unwrote h2')]
  dead := fun x o' hx e => by
    obtain ⟨o1, e1, k1⟩ := b.dead x o' (Nat.lt_of_lt_of_le hx a.next) e
    obtain ⟨o, e0, k0⟩ := a.dead x o1 hx e1
    exact ⟨o, e0, k0.trans k1⟩


theorem Step.refl {φ : Emb} {h : IHeap} {w : World} (hw : h.wf) (hr : HRel φ h w) : Step φ h w φ h w where
  mono := .refl h
  wf := hw
  ext := φ.le_refl
  fresh := fun b p e e' => by rw [e] at e'; cases e'
  size := Nat.le_refl _
  frame := fun _ _ _ => rfl
  rel := hr
  calm := ⟨rfl, rfl⟩
  cold := fun _ => rfl

theorem HRel.heap {φ : Emb} {h : IHeap} {w w' : World} (hr : HRel φ h w) (e : w'.heap = w.heap) : HRel φ h w' where
  obj := fun b p o h1 h2 => (hr.obj b p o h1 h2).keep φ.le_refl (by rw [e])
  lt := by rw [e]; exact hr.lt
  inj := hr.inj

theorem Step.still {φ : Emb} {h : IHeap} {w w' : World} (hw : h.wf) (hr : HRel φ h w) (e : w'.heap = w.heap) (es : w'.os = w.os ∧ w'.output = w.output := by exact ⟨rfl, rfl⟩) : Step φ h w φ h w' where
  mono := .refl h
  wf := hw
  ext := φ.le_refl
  fresh := fun b p e e' => by rw [e] at e'; cases e'
  size := by rw [e]; exact Nat.le_refl _
  frame := fun _ _ _ => by rw [e]
  rel := hr.heap e
  calm := es
  cold := fun _ => frozen_same (by rw [e])

theorem Room.left {φ : Emb} {h h1 h2 : IHeap} (hr : Room φ h h2) (m : h1.next ≤ h2.next) : Room φ h h1 := fun b a c => hr b a (Nat.lt_of_lt_of_le c m)

theorem Step.room {φ φ1 : Emb} {h h1 h2 : IHeap} {w w1 : World} (s : Step φ h w φ1 h1 w1) (hr : Room φ h h2) : Room φ1 h1 h2 := by
  intro b a c
  cases e : φ1 b with
  | none => rfl
  | some p =>
    have e0 := hr b (Nat.le_trans s.mono.next a) c
    have := (s.fresh b p e0 e).2.1
    exact absurd this (Nat.not_lt.2 a)

theorem Step.back {φ φ1 : Emb} {h h1 : IHeap} {w w1 : World} (s : Step φ h w φ1 h1 w1) (hr : Room φ h h1) (b : Nat) (p : Pos) (o1 : IObj) (hb : φ b = some p) (hg : h1.get b = some o1) : b < h.next ∧ ∃ o, h.get b = some o ∧ o.writes = o1.writes := by
  have hlt : b < h1.next := by
    rcases Nat.lt_or_ge b h1.next with h | h
    · exact h
    · rw [s.wf b h] at hg; cases hg
  have hlt' : b < h.next := by
    rcases Nat.lt_or_ge b h.next with h' | h'
    · exact h'
    · rw [hr b h' hlt] at hb; cases hb
  exact ⟨hlt', s.mono.dead b o1 hlt' hg⟩

theorem Step.trans {φ φ1 φ2 : Emb} {h h1 h2 : IHeap} {w w1 w2 : World} (a : Step φ h w φ1 h1 w1) (b : Step φ1 h1 w1 φ2 h2 w2) (hr : Room φ h h1) : Step φ h w φ2 h2 w2 where
  mono := a.mono.trans b.mono
  wf := b.wf
  ext := Emb.le_trans a.ext b.ext
  fresh := by
    intro x p e e2
    cases e1 : φ1 x with
    | none =>
      obtain ⟨k1, k2, k3⟩ := b.fresh x p e1 e2
      refine ⟨Nat.le_trans a.mono.next k1, k2, ?_⟩
      rcases k3 with k3 | ⟨b0, p0, o, f1, f2, f3, f4, f5⟩
      · exact .inl (Nat.le_trans a.size k3)
      · cases e0 : φ b0 with
        | some q =>
          have := a.ext b0 q e0
          rw [f1] at this; cases this
          obtain ⟨_, o0, g1, g2⟩ := a.back hr b0 p0 o e0 f3
          exact .inr ⟨b0, p0, o0, e0, f2, g1, by rw [g2, f4], f5⟩
        | none =>
          obtain ⟨_, _, j⟩ := a.fresh b0 p0 e0 f1
          rcases j with j | ⟨b1, p1, o1, g1, g2, g3, g4, g5⟩
          · exact .inl (f2 ▸ j)
          · exact .inr ⟨b1, p1, o1, g1, g2.trans f2, g3, g4, b.mono.wr _ g5⟩
    | some q =>
      have := b.ext x q e1
      rw [e2] at this; cases this
      obtain ⟨k1, k2, k3⟩ := a.fresh x p e e1
      refine ⟨k1, Nat.lt_of_lt_of_le k2 b.mono.next, ?_⟩
      rcases k3 with k3 | ⟨b0, p0, o, f1, f2, f3, f4, f5⟩
      · exact .inl k3
      · exact .inr ⟨b0, p0, o, f1, f2, f3, f4, b.mono.wr _ f5⟩
  size := Nat.le_trans a.size b.size
  frame := by
    intro r hlt hc
    have h1' := a.frame r hlt fun x p o e1 e2 e3 e4 => b.mono.unwrote (hc x p o e1 e2 e3 e4)
    rw [← h1']
    refine b.frame r (Nat.lt_of_lt_of_le hlt a.size) fun x p o e1 e2 e3 e4 => ?_
    cases e0 : φ x with
    | some q =>
      have := a.ext x q e0
      rw [e1] at this; cases this
      obtain ⟨_, o0, g1, g2⟩ := a.back hr x p o e0 e3
      exact hc x p o0 e0 e2 g1 (by rw [g2, e4])
    | none =>
      obtain ⟨_, _, j⟩ := a.fresh x p e0 e1
      rcases j with j | ⟨b1, p1, o1, g1, g2, g3, g4, g5⟩
      · omega
      · have k1 := hc b1 p1 o1 g1 (g2.trans e2) g3 g4
        have k2 := b.mono.wr _ g5
        rw [k1] at k2; cases k2
  rel := b.rel
  calm := ⟨b.calm.1.trans a.calm.1, b.calm.2.trans a.calm.2⟩
  cold := fun x => (b.cold x).trans (a.cold x)

/- reading a heap behind its changes -/
theorem IHeap.get_put (h : IHeap) (b : Nat) (o : Option IObj) (x : Nat) : (h.put b o).get x = if x = b then o else h.get x := by
  unfold IHeap.put IHeap.get
  exact T.get_set _ _ _ _ _ (Nat.lt_succ_self _)
theorem IHeap.get_new (h : IHeap) (o : IObj) (x : Nat) : (h.new o).get x = if x = h.next then some o else h.get x := by
  unfold IHeap.new IHeap.get
  exact T.get_set _ _ _ _ _ (Nat.lt_succ_self _)
@[simp] theorem IHeap.next_put (h : IHeap) (b : Nat) (o : Option IObj) : (h.put b o).next = h.next := rfl
@[simp] theorem IHeap.next_new (h : IHeap) (o : IObj) : (h.new o).next = h.next + 1 := rfl
@[simp] theorem IHeap.wrote_new (h : IHeap) (o : IObj) (x : Nat) : (h.new o).wrote x = h.wrote x := rfl
@[simp] theorem IHeap.wrote_put (h : IHeap) (b : Nat) (o : Option IObj) (x : Nat) : (h.put b o).wrote x = (h.wrote x || decide (b = x)) := by
  simp only [IHeap.wrote, IHeap.put, Nat.testBit_or, Nat.testBit_two_pow]

theorem IHeap.wf.new {h : IHeap} (hw : h.wf) (o : IObj) : (h.new o).wf := by
  intro b hb
  simp only [IHeap.next_new] at hb
  rw [IHeap.get_new, if_neg (by omega)]; exact hw b (by omega)
theorem IHeap.wf.put {h : IHeap} (hw : h.wf) {b : Nat} (hb : b < h.next) (o : Option IObj) : (h.put b o).wf := by
  intro x hx
  simp only [IHeap.next_put] at hx
  rw [IHeap.get_put, if_neg (by omega)]; exact hw x hx
theorem IHeap.wf.lt {h : IHeap} (hw : h.wf) {b : Nat} {o : IObj} (hb : h.get b = some o) : b < h.next := by
  rcases Nat.lt_or_ge b h.next with h' | h'
  · exact h'
  · rw [hw b h'] at hb; cases hb

theorem IMono.new (h : IHeap) (o : IObj) : IMono h (h.new o) where
  next := Nat.le_succ _
  wr := fun _ e => e
  same := fun b hb _ => by rw [IHeap.get_new, if_neg (by omega)]
  dead := fun b o' hb e => by rw [IHeap.get_new, if_neg (by omega)] at e; exact ⟨o', e, rfl⟩
theorem IMono.put (h : IHeap) (b : Nat) (o : IObj) (o' : Option IObj) (hb : h.get b = some o) (hk : ∀ x, o' = some x → o.writes = x.writes) : IMono h (h.put b o') where
  next := Nat.le_refl _
  wr := fun x e => by simp [e]
  same := fun x _ hx => by
    simp only [IHeap.wrote_put, Bool.or_eq_false_iff, decide_eq_false_iff_not] at hx
    rw [IHeap.get_put, if_neg (Ne.symm hx.2)]
  dead := fun x y _ e => by
    rw [IHeap.get_put] at e
    split at e
    · rename_i hx; subst hx; exact ⟨o, hb, hk y e⟩
    · exact ⟨y, e, rfl⟩

def Emb.add (φ : Emb) (b : Nat) (p : Pos) : Emb := fun x => if x = b then some p else φ x
theorem Emb.add_self (φ : Emb) (b : Nat) (p : Pos) : φ.add b p b = some p := by simp [Emb.add]
theorem Emb.add_le {φ : Emb} {b : Nat} (h : φ b = none) (p : Pos) : φ.le (φ.add b p) := by
  intro x q hx
  unfold Emb.add
  split
  · rename_i e; subst e; rw [h] at hx; cases hx
  · exact hx

theorem IHeap.live_of {h : IHeap} {b : Nat} {o : IObj} (e : h.get b = some o) : h.live b := by unfold IHeap.live; rw [e]; simp

theorem Step.new {φ : Emb} {h : IHeap} {w w' : World} (hw : h.wf) (hr : HRel φ h w) (hf : φ h.next = none) {obj : Obj} (hh : w'.heap = w.heap.push obj) (o : IObj) (p : Pos) (hp : p.r = w.heap.size)
    (ho : ORel (φ.add h.next p) w' p o) (es : w'.os = w.os ∧ w'.output = w.output := by exact ⟨rfl, rfl⟩) (hk : o.writes = true := by rfl) : Step φ h w (φ.add h.next p) (h.new o) w' := by
  have hle := Emb.add_le hf p
  have hold : ∀ b q, b ≠ h.next → φ.add h.next p b = some q → φ b = some q := by
    intro b q hb e; simpa [Emb.add, hb] using e
  have hkeep : ∀ r, r < w.heap.size → w'.heap[r]? = w.heap[r]? := by
    intro r hlt; rw [hh, Array.getElem?_push_lt hlt, Array.getElem?_eq_getElem hlt]
  exact {
    mono := .new h o
    wf := hw.new o
    ext := hle
    fresh := by
      intro b q e e'
      by_cases hb : b = h.next
      · subst hb
        simp only [Emb.add_self, Option.some.injEq] at e'; subst e'
        exact ⟨Nat.le_refl _, Nat.lt_succ_self _, .inl (by omega)⟩
      · have := hold b q hb e'; rw [e] at this; cases this
    size := by rw [hh, Array.size_push]; omega
    frame := fun r hlt _ => hkeep r hlt
    calm := es
    cold := by
      intro a
      rcases Nat.lt_trichotomy a.block w.heap.size with hlt | heq | hgt
      · exact frozen_same (hkeep _ hlt)
      · rw [ho.cold hk a (heq.trans hp.symm)]
        unfold World.frozen?
        rw [Array.getElem?_eq_none (by omega)]
      · exact frozen_same (by rw [Array.getElem?_eq_none (by rw [hh, Array.size_push]; omega), Array.getElem?_eq_none (by omega)])
    rel := {
      obj := by
        intro b q o' e e'
        rw [IHeap.get_new] at e'
        by_cases hb : b = h.next
        · subst hb
          simp only [Emb.add_self, Option.some.injEq] at e; subst e
          simp only [if_true, Option.some.injEq] at e'; subst e'
          exact ho
        · rw [if_neg hb] at e'
          have e0 := hold b q hb e
          exact (hr.obj b q o' e0 e').keep hle (hkeep _ (hr.lt b q e0 (IHeap.live_of e')))
      lt := by
        intro b q e hl
        rw [hh, Array.size_push]
        by_cases hb : b = h.next
        · subst hb
          simp only [Emb.add_self, Option.some.injEq] at e; subst e; omega
        · have e0 := hold b q hb e
          have := hr.lt b q e0 (by unfold IHeap.live at hl ⊢; rw [IHeap.get_new, if_neg hb] at hl; exact hl)
          omega
      inj := by
        intro b b' q q' o' e e' g k l er
        rw [IHeap.get_new] at g
        unfold IHeap.live at l
        rw [IHeap.get_new] at l
        by_cases hb : b = h.next
        · by_cases hb' : b' = h.next
          · rw [hb, hb']
          · rw [if_neg hb'] at l
            have e0 := hold b' q' hb' e'
            have := hr.lt b' q' e0 l
            subst hb
            simp only [Emb.add_self, Option.some.injEq] at e; subst e
            omega
        · rw [if_neg hb] at g
          have e0 := hold b q hb e
          by_cases hb' : b' = h.next
          · have := hr.lt b q e0 (IHeap.live_of g)
            subst hb'
            simp only [Emb.add_self, Option.some.injEq] at e'; subst e'
            omega
          · rw [if_neg hb'] at l
            exact hr.inj b b' q q' o' e0 (hold b' q' hb' e') g k l er } }

theorem Step.write {φ : Emb} {h : IHeap} {w w' : World} (hw : h.wf) (hr : HRel φ h w) {b : Nat} {p : Pos} {o : IObj} (hb : φ b = some p) (hg : h.get b = some o) (hk : o.writes = true)
    (o' : IObj) (hk' : o'.writes = true) (hs : w'.heap.size = w.heap.size) (hf : ∀ k, k ≠ p.r → w'.heap[k]? = w.heap[k]?) (ho : ORel φ w' p o') (es : w'.os = w.os ∧ w'.output = w.output := by exact ⟨rfl, rfl⟩) :
    Step φ h w φ (h.put b (some o')) w' where
  mono := .put h b o (some o') hg fun x e => by cases e; rw [hk, hk']
  wf := hw.put (hw.lt hg) _
  ext := φ.le_refl
  fresh := fun x q e e' => by rw [e] at e'; cases e'
  size := by omega
  frame := by
    intro r _ hc
    refine hf r fun e => ?_
    have := hc b p o hb e.symm hg hk
    simp at this
  calm := es
  cold := by
    intro a
    by_cases e : a.block = p.r
    · rw [ho.cold hk' a e, (hr.obj b p o hb hg).cold hk a e]
    · exact frozen_same (hf _ e)
  rel := {
    obj := by
      intro x q y e e'
      rw [IHeap.get_put] at e'
      split at e'
      · rename_i hx; subst hx; rw [hb] at e; cases e; cases e'; exact ho
      · rename_i hx
        refine (hr.obj x q y e e').keep φ.le_refl (hf _ fun er => hx ?_)
        exact (hr.inj b x p q o hb e hg hk (IHeap.live_of e') er.symm).symm
    lt := by
      intro x q e hl
      rw [hs]
      refine hr.lt x q e ?_
      unfold IHeap.live at hl ⊢
      rw [IHeap.get_put] at hl
      split at hl
      · rename_i hx; subst hx; rw [hg]; simp
      · exact hl
    inj := by
      intro x x' q q' y e e' g k l er
      unfold IHeap.live at l
      rw [IHeap.get_put] at g l
      have l' : h.live x' := by
        unfold IHeap.live
        split at l
        · rename_i hx; subst hx; rw [hg]; simp
        · exact l
      split at g
      · rename_i hx; subst hx; exact hr.inj x x' q q' o e e' hg hk l' er
      · exact hr.inj x x' q q' y e e' g k l' er }

/- a block is buried -/
theorem Step.bury {φ : Emb} {h : IHeap} {w : World} (hw : h.wf) (hr : HRel φ h w) {b : Nat} {o : IObj} (hg : h.get b = some o) : Step φ h w φ (h.put b none) w where
  mono := .put h b o none hg fun x e => by cases e
  wf := hw.put (hw.lt hg) _
  ext := φ.le_refl
  fresh := fun x q e e' => by rw [e] at e'; cases e'
  size := Nat.le_refl _
  frame := fun _ _ _ => rfl
  calm := ⟨rfl, rfl⟩
  cold := fun _ => rfl
  rel := {
    obj := by
      intro x q y e e'
      rw [IHeap.get_put] at e'
      split at e'
      · cases e'
      · exact hr.obj x q y e e'
    lt := by
      intro x q e hl
      refine hr.lt x q e ?_
      unfold IHeap.live at hl ⊢
      rw [IHeap.get_put] at hl
      split at hl
      · exact absurd rfl hl
      · exact hl
    inj := by
      intro x x' q q' y e e' g k l er
      unfold IHeap.live at l
      rw [IHeap.get_put] at g l
      split at g
      · cases g
      · split at l
        · exact absurd rfl l
        · exact hr.inj x x' q q' y e e' g k l er }

/- append in the machine's room: the ideal machine's new block lies where the buried one lay -/
theorem Step.grow {φ : Emb} {h : IHeap} {w w' : World} (hw : h.wf) (hr : HRel φ h w) (hfr : φ h.next = none) {b : Nat} {p : Pos} {o : IObj} (hb : φ b = some p) (hg : h.get b = some o) (hk : o.writes = true)
    (o' : IObj) (p' : Pos) (hp : p'.r = p.r) (hs : w'.heap.size = w.heap.size) (hf : ∀ k, k ≠ p.r → w'.heap[k]? = w.heap[k]?) (ho : ORel (φ.add h.next p') w' p' o') (es : w'.os = w.os ∧ w'.output = w.output := by exact ⟨rfl, rfl⟩) (hk' : o'.writes = true := by rfl) :
    Step φ h w (φ.add h.next p') ((h.new o').put b none) w' := by
  have hle := Emb.add_le hfr p'
  have hbn : b ≠ h.next := by have := hw.lt hg; omega
  have hold : ∀ x q, x ≠ h.next → φ.add h.next p' x = some q → φ x = some q := by
    intro x q hx e; simpa [Emb.add, hx] using e
  exact {
    mono := (IMono.new h o').trans (.put _ b o none (by rw [IHeap.get_new, if_neg hbn, hg]) fun x e => by cases e)
    wf := (hw.new o').put (by have := hw.lt hg; simp; omega) _
    ext := hle
    fresh := by
      intro x q e e'
      by_cases hx : x = h.next
      · subst hx
        simp only [Emb.add_self, Option.some.injEq] at e'; subst e'
        exact ⟨Nat.le_refl _, Nat.lt_succ_self _, .inr ⟨b, p, o, hb, hp.symm, hg, hk, by simp⟩⟩
      · have := hold x q hx e'; rw [e] at this; cases this
    size := by omega
    frame := by
      intro r _ hc
      refine hf r fun e => ?_
      have := hc b p o hb e.symm hg hk
      simp at this
    calm := es
    cold := by
      intro a
      by_cases e : a.block = p.r
      · rw [ho.cold hk' a (e.trans hp.symm), (hr.obj b p o hb hg).cold hk a e]
      · exact frozen_same (hf _ e)
    rel := {
      obj := by
        intro x q y e e'
        rw [IHeap.get_put] at e'
        split at e'
        · cases e'
        · rename_i hxb
          rw [IHeap.get_new] at e'
          by_cases hx : x = h.next
          · subst hx
            simp only [Emb.add_self, Option.some.injEq] at e; subst e
            simp only [if_true, Option.some.injEq] at e'; subst e'
            exact ho
          · rw [if_neg hx] at e'
            have e0 := hold x q hx e
            refine (hr.obj x q y e0 e').keep hle (hf _ fun er => hxb ?_)
            exact (hr.inj b x p q o hb e0 hg hk (IHeap.live_of e') er.symm).symm
      lt := by
        intro x q e hl
        rw [hs]
        unfold IHeap.live at hl
        rw [IHeap.get_put] at hl
        split at hl
        · exact absurd rfl hl
        · rw [IHeap.get_new] at hl
          by_cases hx : x = h.next
          · subst hx
            simp only [Emb.add_self, Option.some.injEq] at e; subst e
            rw [hp]; exact hr.lt b p hb (IHeap.live_of hg)
          · rw [if_neg hx] at hl
            exact hr.lt x q (hold x q hx e) hl
      inj := by
        intro x x' q q' y e e' g k l er
        unfold IHeap.live at l
        rw [IHeap.get_put] at g l
        split at g
        · cases g
        · rename_i hxb
          split at l
          · exact absurd rfl l
          · rename_i hxb'
            rw [IHeap.get_new] at g l
            by_cases hx : x = h.next
            · by_cases hx' : x' = h.next
              · rw [hx, hx']
              · rw [if_neg hx'] at l
                subst hx
                simp only [Emb.add_self, Option.some.injEq] at e; subst e
                exact absurd (hr.inj b x' p q' o hb (hold x' q' hx' e') hg hk l (by omega)) (Ne.symm hxb')
            · rw [if_neg hx] at g
              have e0 := hold x q hx e
              by_cases hx' : x' = h.next
              · subst hx'
                simp only [Emb.add_self, Option.some.injEq] at e'; subst e'
                exact absurd (hr.inj x b q p y e0 hb g k (IHeap.live_of hg) (by omega)) hxb
              · rw [if_neg hx'] at l
                exact hr.inj x x' q q' y e0 (hold x' q' hx' e') g k l er } }

end Go.Ideal

/- What one operation of the ideal machine does, the model's operation does. -/
namespace Go.Ideal
open Go

section
variable {P : Program} {w : World}

theorem und_of {t : TypeId} {d : TypeDesc} (h : (Env.of P).und t = some d) : (underlying t).run P w = .ok d w := run_underlying h w
theorem info_of {t : TypeId} {i : TypeInfo} (h : (Env.of P).info t = some i) : (typeInfo t).run P w = .ok i w := by
  have : P.info? t = some i := h
  simp [typeInfo, this]
theorem size_of {t : TypeId} {n : Nat} (h : szT (Env.of P) t = some n) : (sizeOf t).run P w = .ok n w := by
  unfold szT at h
  split at h
  · rename_i i hi; cases h; simp [sizeOf, info_of hi]
  · cases h
theorem info_size {t : TypeId} {n : Nat} (h : szT (Env.of P) t = some n) : (P.info? t).map (·.size) = some n := by
  unfold szT at h
  split at h
  · rename_i i hi; cases h; have : P.info? t = some i := hi; simp [this]
  · cases h
theorem zero_spec {t : TypeId} {z : Value} (h : zeroT (Env.of P) t = some z) : ∃ i, P.info? t = some i ∧ i.zero = some z ∧ cleanB depthB z = true ∧ noTuple z = true ∧ z.cells.toList.length = i.size := by
  unfold zeroT at h
  split at h
  · rename_i i hi
    split at h
    · rename_i z' hz
      split at h
      · rename_i hc; cases h
        simp only [Bool.and_eq_true, beq_iff_eq] at hc
        exact ⟨i, hi, hz, hc.1.1, hc.1.2, hc.2⟩
      · cases h
    · cases h
  · cases h
theorem zero_of {t : TypeId} {z : Value} (h : zeroT (Env.of P) t = some z) : (zeroValue t).run P w = .ok z w := by
  obtain ⟨i, hi, hz, _⟩ := zero_spec h
  have : (typeInfo t).run P w = .ok i w := info_of hi
  simp [zeroValue, this, hz]
theorem zero_size {t : TypeId} {z : Value} {n : Nat} (h : zeroT (Env.of P) t = some z) (hn : szT (Env.of P) t = some n) : z.cells.toList.length = n := by
  obtain ⟨i, hi, _, _, _, h4⟩ := zero_spec h
  have := info_size hn
  rw [hi] at this; simp at this; omega
theorem zero_rel {t : TypeId} {z : Value} (φ : Emb) (h : zeroT (Env.of P) t = some z) : VRel φ z z := by
  obtain ⟨i, _, _, hc, _⟩ := zero_spec h; exact .of_clean φ _ _ hc

theorem agg_of {t : TypeId} {b : Bool} (h : isAggT (Env.of P) t = some b) : (isAgg t).run P w = .ok b w := by
  unfold isAggT at h
  split at h <;> first | cases h | skip
  · rename_i d hd; simp [isAgg, und_of hd]
  · rename_i d hd; simp [isAgg, und_of hd]
  · rename_i d h1 h2 hd
    simp only [isAgg, Sem.run_bind, und_of hd, Result.andThen_ok]
    rfl

/- one cell, several cells -/
theorem VRel.cells {φ : Emb} {v v' : Value} (h : VRel φ v v') (ht : noTuple v = true) : LRel φ v.cells.toList v'.cells.toList ∧ (∀ x ∈ v.cells.toList, oneB x = true) ∧ noTuple v' = true := by
  cases h with
  | agg xs ys h1 h2 h3 => exact ⟨.ofArray h1 h2, by simpa [Value.cells] using h3, rfl⟩
  | tuple xs ys h1 h2 => cases ht
  | bool b => exact ⟨.cons (.bool b) (.nil φ), by simp [Value.cells, oneB], rfl⟩
  | int k n => exact ⟨.cons (.int k n) (.nil φ), by simp [Value.cells, oneB], rfl⟩
  | string s => exact ⟨.cons (.string s) (.nil φ), by simp [Value.cells, oneB], rfl⟩
  | ptrNil => exact ⟨.cons .ptrNil (.nil φ), by simp [Value.cells, oneB], rfl⟩
  | ptr b off p h => exact ⟨.cons (.ptr b off p h) (.nil φ), by simp [Value.cells, oneB], rfl⟩
  | sliceNil => exact ⟨.cons .sliceNil (.nil φ), by simp [Value.cells, oneB], rfl⟩
  | slice b off len cap p h => exact ⟨.cons (.slice b off len cap p h) (.nil φ), by simp [Value.cells, oneB], rfl⟩
  | sliceGrow b off len cap cap' p h hs hc h1 h2 => exact ⟨.cons (.sliceGrow b off len cap cap' p h hs hc h1 h2) (.nil φ), by simp [Value.cells, oneB], rfl⟩
  | sliceEmpty b off a => exact ⟨.cons (.sliceEmpty b off a) (.nil φ), by simp [Value.cells, oneB], rfl⟩
  | mapNil => exact ⟨.cons .mapNil (.nil φ), by simp [Value.cells, oneB], rfl⟩
  | map b p h => exact ⟨.cons (.map b p h) (.nil φ), by simp [Value.cells, oneB], rfl⟩
  | func f xs ys us vs h1 h2 h3 h4 => exact ⟨.cons (.func f xs ys us vs h1 h2 h3 h4) (.nil φ), by simp [Value.cells, oneB], rfl⟩
  | nilFunc => exact ⟨.cons .nilFunc (.nil φ), by simp [Value.cells, oneB], rfl⟩
  | iface t v v' h => exact ⟨.cons (.iface t v v' h) (.nil φ), by simp [Value.cells, oneB], rfl⟩
  | nilIface => exact ⟨.cons .nilIface (.nil φ), by simp [Value.cells, oneB], rfl⟩

/- the cells of a row behind a placed block -/
theorem HRel.row {φ : Emb} {h : IHeap} (hr : HRel φ h w) {b : Nat} {p : Pos} {cs : List Value} (hb : φ b = some p) (hg : h.row b = some cs) :
    ∀ (i : Nat) (v : Value), cs[i]? = some v → oneB v = true ∧ ∃ v', w.cell? ⟨p.r, p.base + i, none⟩ = some v' ∧ VRel φ v v' := by
  unfold IHeap.row at hg
  split at hg
  · rename_i o ho
    have := hr.obj b p o hb ho
    cases o with
    | cells c e =>
      simp only [IObj.row, Option.some.injEq] at hg; subst hg
      obtain ⟨rcs, el, h1, h2, h3, h4, h5, h6, h7, _⟩ := this
      intro i v hv
      refine ⟨h7 v (List.mem_of_getElem? hv), ?_⟩
      obtain ⟨v', hv', hrel⟩ := h6.get hv
      refine ⟨v', ?_, hrel⟩
      rw [List.getElem?_take] at hv'
      split at hv'
      · simp [World.cell?, h1]
        simpa using hv'
      · cases hv'
    | ro c => simp only [IObj.row, Option.some.injEq] at hg; subst hg; exact this.2
    | map es => cases hg
    | iter s pos => cases hg
  · cases hg

theorem add_eq (r o i : Nat) : (⟨r, o, none⟩ : Addr).add i = ⟨r, o + i, none⟩ := by unfold Addr.add; split <;> simp_all

theorem take_drop_get {α : Type} (l : List α) (off n i : Nat) : ((l.drop off).take n)[i]? = if i < n then l[off + i]? else none := by
  rw [List.getElem?_take]; split <;> simp

/- loading n cells -/
theorem HRel.loads {φ : Emb} {h : IHeap} (hr : HRel φ h w) {b off n : Nat} {p : Pos} {cs : List Value} (hb : φ b = some p) (hg : h.row b = some cs) (hl : off + n ≤ cs.length) :
    ∃ vs : List Value, (loadCells ⟨p.r, p.base + off, none⟩ n).run P w = .ok vs.toArray w ∧ LRel φ ((cs.drop off).take n) vs ∧ (∀ v ∈ (cs.drop off).take n, oneB v = true) ∧ vs.length = n ∧
      ∀ j v, vs[j]? = some v → w.cell? ((⟨p.r, p.base + off, none⟩ : Addr).add j) = some v := by
  have key : ∀ j, j < n → ∃ v', w.cell? ⟨p.r, p.base + off + j, none⟩ = some v' ∧ ∀ v, cs[off + j]? = some v → VRel φ v v' := by
    intro j hj
    obtain ⟨_, v', h1, h2⟩ := hr.row hb hg (off + j) cs[off + j] (List.getElem?_eq_getElem (by omega))
    refine ⟨v', by rw [Nat.add_assoc]; exact h1, fun v hv => ?_⟩
    rw [List.getElem?_eq_getElem (by omega)] at hv; cases hv; exact h2
  let f : Nat → Value := fun j => (w.cell? ⟨p.r, p.base + off + j, none⟩).getD undef
  have hf : ∀ j, j < n → w.cell? ⟨p.r, p.base + off + j, none⟩ = some (f j) := by
    intro j hj
    obtain ⟨v', h1, _⟩ := key j hj
    simp [f, h1]
  have hlen : ((List.range n).map f).length = n := by simp
  refine ⟨(List.range n).map f, ?_, ⟨?_, ?_⟩, ?_, hlen, ?_⟩
  · exact run_loadCells w _ n f fun j hj => by rw [add_eq]; exact hf j hj
  · simp; omega
  · intro i v v' h1 h2
    rw [take_drop_get] at h1
    split at h1
    · rename_i hi
      obtain ⟨u, e1, e2⟩ := key i hi
      rw [List.getElem?_map, List.getElem?_range hi] at h2
      simp only [Option.map_some, Option.some.injEq] at h2
      rw [hf i hi] at e1
      cases e1
      rw [← h2]; exact e2 v h1
    · cases h1
  · intro v hv
    obtain ⟨i, hi⟩ := List.getElem?_of_mem hv
    rw [take_drop_get] at hi
    split at hi
    · exact (hr.row hb hg _ _ hi).1
    · cases hi
  · intro j v hv
    have hj : j < n := by
      have := (List.getElem?_eq_some_iff.1 hv).1
      simpa using this
    rw [List.getElem?_map, List.getElem?_range hj] at hv
    simp only [Option.map_some, Option.some.injEq] at hv
    rw [add_eq, hf j hj, hv]

/- load -/
theorem load_sim {φ : Emb} {h : IHeap} (hr : HRel φ h w) {t : TypeId} {x x' v : Value} (hx : VRel φ x x') (hl : iload (Env.of P) t x h = some v) :
    ∃ v', (Instr.loadAt t x').run P w = .ok v' w ∧ VRel φ v v' := by
  cases hx with
  | ptr b off p hb =>
    simp only [iload] at hl
    cases hg : h.row b with
    | none => rw [hg] at hl; cases hl
    | some cs =>
      rw [hg] at hl
      simp only at hl
      cases ha : isAggT (Env.of P) t with
      | none => rw [ha] at hl; cases hl
      | some a =>
        rw [ha] at hl
        cases a with
        | true =>
          simp only at hl
          cases hs : szT (Env.of P) t with
          | none => rw [hs] at hl; cases hl
          | some n =>
            rw [hs] at hl
            simp only at hl
            split at hl
            · rename_i hle
              cases hl
              obtain ⟨vs, h1, h2, h3, h4, _⟩ := hr.loads (P := P) hb hg hle
              refine ⟨.agg vs.toArray, ?_, .agg' h2 h3⟩
              simp [Instr.loadAt, Instr.sureAddr, loadVar, agg_of ha, size_of hs, h1]
            · cases hl
        | false =>
          simp only at hl
          obtain ⟨_, v', h1, h2⟩ := hr.row hb hg off v hl
          refine ⟨v', ?_, h2⟩
          simp [Instr.loadAt, Instr.sureAddr, loadVar, agg_of ha, h1]
  | ptrNil => cases hl
  | _ => cases hl

theorem splice_get (cs vs : List Value) (off i : Nat) (h : off + vs.length ≤ cs.length) :
    (splice cs off vs)[i]? = if i < off then cs[i]? else if i < off + vs.length then vs[i - off]? else cs[i]? := by
  unfold splice
  have ht : (cs.take off).length = off := by simp; omega
  by_cases h1 : i < off
  · rw [if_pos h1, List.getElem?_append_left (by omega), List.getElem?_take, if_pos h1]
  · rw [if_neg h1, List.getElem?_append_right (by omega), ht]
    by_cases h2 : i < off + vs.length
    · rw [if_pos h2, List.getElem?_append_left (by omega)]
    · rw [if_neg h2, List.getElem?_append_right (by omega), List.getElem?_drop]
      congr 1; omega

theorem splice_length (cs vs : List Value) (off : Nat) (h : off + vs.length ≤ cs.length) : (splice cs off vs).length = cs.length := by
  unfold splice; simp; omega

theorem LRel.splice {φ : Emb} {cs rs vs us : List Value} (h : LRel φ cs rs) (h' : LRel φ vs us) (off : Nat) : LRel φ (Ideal.splice cs off vs) (Ideal.splice rs off us) := by
  unfold Ideal.splice
  rw [h'.1]
  exact (h.take _).append (h'.append (h.drop _))

theorem mem_splice {cs vs : List Value} {off : Nat} {v : Value} (h : v ∈ splice cs off vs) : v ∈ cs ∨ v ∈ vs := by
  unfold splice at h
  simp only [List.mem_append] at h
  rcases h with h | h | h
  · exact .inl (List.mem_of_mem_take h)
  · exact .inr h
  · exact .inl (List.mem_of_mem_drop h)

theorem window_splice (R us : List Value) (base off n : Nat) (h1 : off + us.length ≤ n) (h2 : base + n ≤ R.length) :
    ((R.take (base + off) ++ us ++ R.drop (base + off + us.length)).drop base).take n = splice ((R.drop base).take n) off us := by
  have hlen : ((R.drop base).take n).length = n := by simp; omega
  have e : R.take (base + off) ++ us ++ R.drop (base + off + us.length) = splice R (base + off) us := by simp [splice]
  rw [e]
  apply List.ext_getElem?
  intro i
  rw [take_drop_get, splice_get _ _ _ _ (by omega), splice_get _ _ _ _ (by omega), take_drop_get]
  by_cases hi : i < n
  · rw [if_pos hi, if_pos hi]
    by_cases a : i < off
    · rw [if_pos a, if_pos (by omega)]
    · rw [if_neg a, if_neg (by omega)]
      by_cases b : i < off + us.length
      · rw [if_pos b, if_pos (by omega)]; congr 1; omega
      · rw [if_neg b, if_neg (by omega)]
  · rw [if_neg hi, if_neg hi, if_neg (by omega), if_neg (by omega)]

/- storing -/
theorem storeAt_sim {φ : Emb} {h h' : IHeap} (hw : h.wf) (hr : HRel φ h w) {b off : Nat} {p : Pos} (hb : φ b = some p) {vs vs' : List Value} (hs : storeAt h b off vs = some h') (hv : LRel φ vs vs')
    (h1 : ∀ v ∈ vs, oneB v = true) : ∃ w', (storeCells ⟨p.r, p.base + off, none⟩ vs').run P w = .ok () w' ∧ Step φ h w φ h' w' := by
  unfold storeAt at hs
  split at hs
  · rename_i cs e hg
    split at hs
    · rename_i hle
      cases hs
      obtain ⟨rcs, el, e1, e2, e3, e4, e5, e6, e7, e8⟩ := hr.obj b p _ hb hg
      have hlen := hv.1
      have hones : ∀ v ∈ vs', v.oneCell' = true := by
        intro v hv'
        obtain ⟨i, hi⟩ := List.getElem?_of_mem hv'
        have hi' : i < vs.length := by have := (List.getElem?_eq_some_iff.1 hi).1; omega
        rw [oneB_eq, (hv.2 i vs[i] v (List.getElem?_eq_getElem hi') hi).one]
        exact h1 _ (List.getElem_mem hi')
      have hst := run_storeCells_atF P p.r (p.base + off) el (0, 0) vs' 0 rcs w e1 (by simp) (by omega) hones
      simp only [Nat.add_zero] at hst
      refine ⟨_, hst, Step.write hw hr hb hg rfl (.cells (splice cs off vs) e) rfl (by simp) (fun k hk => setRow_other w p.r k _ hk) ?_⟩
      refine ⟨_, el, setRow_heap w p.r rcs _ el (0, 0) e1, ?_, ?_, e4, e5, ?_, ?_, ?_⟩
      · simp; omega
      · rw [splice_length _ _ _ hle, e3]
      · have hws := window_splice rcs.toList vs' p.base off p.isize (by omega) (by simp; omega)
        simp only [hws]
        exact e6.splice hv off
      · intro v hv'
        rcases mem_splice hv' with h | h
        · exact e7 v h
        · exact h1 v h
      · intro v hv'
        refine e8 v ?_
        have hd : (rcs.toList.take (p.base + off) ++ vs' ++ rcs.toList.drop (p.base + off + vs'.length)).drop (p.base + p.isize) = rcs.toList.drop (p.base + p.isize) := by
          have hl1 : (rcs.toList.take (p.base + off) ++ vs').length = p.base + off + vs'.length := by simp; omega
          rw [List.drop_append, List.drop_of_length_le (by rw [hl1]; omega), List.nil_append, List.drop_drop, hl1]
          congr 1; omega
        simp only at hv'
        rw [hd] at hv'
        exact hv'
    · cases hs
  · cases hs

theorem store_sim {φ : Emb} {h h' : IHeap} (hw : h.wf) (hr : HRel φ h w) {t : TypeId} {x x' v v' : Value} (hx : VRel φ x x') (hv : VRel φ v v') (hs : istore (Env.of P) t x v h = some h') :
    ∃ w', (Instr.storeAt t x' v').run P w = .ok () w' ∧ Step φ h w φ h' w' := by
  cases hx with
  | ptr b off p hb =>
    simp only [istore] at hs
    cases hn : szT (Env.of P) t with
    | none => rw [hn] at hs; cases hs
    | some n =>
      rw [hn] at hs
      simp only [Bool.and_eq_true, beq_iff_eq] at hs
      split at hs
      · rename_i hc
        obtain ⟨hr1, hr2, _⟩ := hv.cells hc.2
        obtain ⟨w', e1, e2⟩ := storeAt_sim (P := P) hw hr hb hs hr1 hr2
        refine ⟨w', ?_, e2⟩
        have hsz : v'.cells.size = n := by have := hr1.1; simp at this hc; omega
        simp [Instr.storeAt, Instr.sureAddr, storeVar, size_of hn, hsz, e1]
      · cases hs
  | _ => cases hs

end
end Go.Ideal

/- Operations of the ideal machine, one by one (second part). -/
namespace Go.Ideal
open Go

section
variable {P : Program} {w : World}

/- a cell of a zero value -/
theorem zero_cell {t : TypeId} {z v : Value} (h : zeroT (Env.of P) t = some z) (hv : v ∈ z.cells.toList) : oneB v = true ∧ cleanB depthB v = true := by
  obtain ⟨i, _, _, hc, hn, _⟩ := zero_spec h
  have up : ∀ n v, cleanB n v = true → cleanB (n + 1) v = true := by
    intro n
    induction n with
    | zero => intro v h; simp [cleanB] at h
    | succ n ih =>
      intro v h
      cases v with
      | func f x c =>
        cases f with
        | func f =>
          simp only [cleanB, List.all_eq_true, Bool.and_eq_true] at h ⊢
          exact ⟨fun a ha => ih a (h.1 a ha), fun a ha => ih a (h.2 a ha)⟩
        | _ => simp [cleanB] at h
      | slice a l c => cases a <;> simpa [cleanB] using h
      | iface t v => simp only [cleanB] at h ⊢; exact ih v h
      | agg cs => simp only [cleanB, List.all_eq_true, Bool.and_eq_true] at h ⊢; exact fun a ha => ⟨(h a ha).1, ih a (h a ha).2⟩
      | tuple cs => simp only [cleanB, List.all_eq_true] at h ⊢; exact fun a ha => ih a (h a ha)
      | _ => simpa [cleanB] using h
  unfold depthB at hc ⊢
  cases z with
  | agg cs =>
    simp only [cleanB, List.all_eq_true, Bool.and_eq_true] at hc
    exact ⟨(hc v hv).1, up 5 v (hc v hv).2⟩
  | tuple cs => cases hn
  | _ => simp only [Value.cells, List.mem_singleton] at hv; subst hv; exact ⟨rfl, hc⟩

/- a new block of cells, with some more behind it in the machine -/
theorem newCells_step {φ : Emb} {h : IHeap} {w w' : World} (hw : h.wf) (hr : HRel φ h w) (hf : φ h.next = none) {cs rcs : List Value} (rest : List Value) (el : TypeId) (e : Nat)
    (hh : w'.heap = w.heap.push (.cells (rcs ++ rest).toArray el)) (hl : LRel φ cs rcs) (h1 : ∀ v ∈ cs, oneB v = true) (hrest : ∀ v ∈ rest, oneB v = true ∧ cleanB depthB v = true) (es : w'.os = w.os ∧ w'.output = w.output := by exact ⟨rfl, rfl⟩) :
    Step φ h w (φ.add h.next ⟨w.heap.size, 0, cs.length, (rcs ++ rest).length, e⟩) (h.new (.cells cs e)) w' := by
  refine Step.new hw hr hf hh (.cells cs e) _ rfl ⟨(rcs ++ rest).toArray, el, ?_, by simp, rfl, rfl, ?_, ?_, h1, ?_⟩ es
  rotate_left 3
  · intro v hv
    have e : (0 : Nat) + cs.length = rcs.length := by rw [hl.1]; simp
    simp only [e, List.drop_left] at hv
    exact hrest v hv
  · rw [hh]; simp
  · have := hl.1; simp; omega
  · simp only [List.drop_zero]
    have : (rcs ++ rest).take cs.length = rcs := by rw [hl.1]; simp
    rw [this]
    exact hl.mono fun _ _ h => h.ext (Emb.add_le hf _)

theorem newCells0_step {φ : Emb} {h : IHeap} {w : World} (hw : h.wf) (hr : HRel φ h w) (hf : φ h.next = none) {cs rcs : List Value} (el : TypeId) (hl : LRel φ cs rcs) (h1 : ∀ v ∈ cs, oneB v = true) :
    Step φ h w (φ.add h.next ⟨w.heap.size, 0, cs.length, rcs.length, 0⟩) (h.new (.cells cs 0)) { w with heap := w.heap.push (.cells rcs.toArray el) } := by
  have := newCells_step (w' := { w with heap := w.heap.push (.cells rcs.toArray el) }) hw hr hf [] el 0 (by simp) hl h1 (fun _ h => nomatch h)
  simpa using this

/- a part of an aggregate -/
theorem part_sim {φ : Emb} {t : TypeId} {xs ys : Array Value} {off : Nat} {v : Value} (h1 : xs.size = ys.size) (h2 : ∀ (i : Nat) (v v' : Value), xs[i]? = some v → ys[i]? = some v' → VRel φ v v')
    (h3 : ∀ v ∈ xs, oneB v = true) (hp : ipart (Env.of P) t xs.toList off = some v) : ∃ v', (part t ys off).run P w = .ok v' w ∧ VRel φ v v' := by
  unfold ipart at hp
  cases ha : isAggT (Env.of P) t with
  | none => rw [ha] at hp; cases hp
  | some a =>
    rw [ha] at hp
    cases a with
    | true =>
      simp only at hp
      cases hs : szT (Env.of P) t with
      | none => rw [hs] at hp; cases hp
      | some n =>
        rw [hs] at hp
        simp only at hp
        split at hp
        · cases hp
          refine ⟨.agg (ys.extract off (off + n)), by simp [part, agg_of ha, size_of hs], ?_⟩
          have e : (ys.extract off (off + n)) = ((ys.toList.drop off).take n).toArray := by
            apply Array.ext'
            simp
          rw [e]
          refine .agg' (((LRel.ofArray h1 h2).drop off).take n) fun v hv => h3 v ?_
          simpa using List.mem_of_mem_drop (List.mem_of_mem_take hv)
        · cases hp
    | false =>
      simp only at hp
      have hp' : xs[off]? = some v := by simpa using hp
      have hi : off < ys.size := by rw [← h1]; exact (Array.getElem?_eq_some_iff.1 hp').1
      refine ⟨ys[off], by simp [part, agg_of ha, hi], h2 off v _ hp' (Array.getElem?_eq_getElem hi)⟩

theorem field_sim {φ : Emb} {t : TypeId} {x x' v : Value} {f : Nat} (hx : VRel φ x x') (h : ifield (Env.of P) t x f = some v) : ∃ v', (Instr.field t x' f).run P w = .ok v' w ∧ VRel φ v v' := by
  cases hx with
  | agg xs ys h1 h2 h3 =>
    simp only [ifield] at h
    split at h
    · rename_i fs hc hu
      cases hc
      split at h
      · rename_i fd hfd
        obtain ⟨v', e1, e2⟩ := part_sim (P := P) (w := w) h1 h2 h3 h
        refine ⟨v', ?_, e2⟩
        simp [Instr.field, und_of hu, hfd, asAgg, e1]
      · cases h
    · cases h
  | _ => simp [ifield] at h

theorem fieldAddr_sim {φ : Emb} {t : TypeId} {x x' v : Value} {f : Nat} (hx : VRel φ x x') (h : ifieldAddr (Env.of P) t x f = some v) : ∃ v', (Instr.fieldAt t x' f).run P w = .ok v' w ∧ VRel φ v v' := by
  cases hx with
  | ptr b off p hb =>
    simp only [ifieldAddr] at h
    split at h
    · rename_i fs hc hu
      cases hc
      split at h
      · rename_i fd hfd
        split at h
        · rename_i n hn
          cases h
          refine ⟨.pointer (some ⟨p.r, p.base + (off + fd.offset), none⟩), ?_, .ptr b _ p hb⟩
          simp [Instr.fieldAt, und_of hu, hfd, Instr.sureAddr, fieldPlace, size_of hn, add_eq, Nat.add_assoc]
        · cases h
      · cases h
    · cases h
  | _ => simp [ifieldAddr] at h

theorem indexAddr_sim {φ : Emb} {t : TypeId} {x x' ix ix' v : Value} (hx : VRel φ x x') (hi : VRel φ ix ix') (h : iindexAddr (Env.of P) t x ix = some v) :
    ∃ v', (Instr.indexAt t x' ix').run P w = .ok v' w ∧ VRel φ v v' := by
  cases hi with
  | int k i =>
    simp only [iindexAddr] at h
    split at h
    · rename_i e b off len cap hu
      split at h
      · rename_i hlt
        split at h
        · rename_i n hn
          cases h
          cases hx with
          | slice _ _ _ _ p hb =>
            exact ⟨.pointer (some ⟨p.r, p.base + (off + i.toNat * n), none⟩), by simp [Instr.indexAt, asIntOf, und_of hu, size_of hn, hlt, add_eq, Nat.add_assoc], .ptr _ _ p hb⟩
          | sliceGrow _ _ _ _ cap' p hb =>
            exact ⟨.pointer (some ⟨p.r, p.base + (off + i.toNat * n), none⟩), by simp [Instr.indexAt, asIntOf, und_of hu, size_of hn, hlt, add_eq, Nat.add_assoc], .ptr _ _ p hb⟩
          | sliceEmpty => omega
        · cases h
      · cases h
    · rename_i len e b off hu
      split at h
      · rename_i hlt
        split at h
        · rename_i n hn
          cases h
          cases hx with
          | ptr _ _ p hb =>
            exact ⟨.pointer (some ⟨p.r, p.base + (off + i.toNat * n), none⟩), by simp [Instr.indexAt, asIntOf, und_of hu, size_of hn, hlt, add_eq, Nat.add_assoc, Instr.sureAddr], .ptr _ _ p hb⟩
        · cases h
      · cases h
    · cases h
  | _ => simp [iindexAddr] at h

theorem index_sim {φ : Emb} {t : TypeId} {x x' ix ix' v : Value} (hx : VRel φ x x') (hi : VRel φ ix ix') (h : iindex (Env.of P) t x ix = some v) :
    ∃ v', (Instr.index t x' ix').run P w = .ok v' w ∧ VRel φ v v' := by
  cases hi with
  | int k i =>
    simp only [iindex] at h
    split at h
    · rename_i len e cs hu
      split at h
      · rename_i hlt
        split at h
        · rename_i n hn
          cases hx with
          | agg xs ys h1 h2 h3 =>
            obtain ⟨v', e1, e2⟩ := part_sim (P := P) (w := w) h1 h2 h3 h
            exact ⟨v', by simp [Instr.index, asIntOf, und_of hu, size_of hn, hlt, e1], e2⟩
        · cases h
      · cases h
    · rename_i s hu
      cases hx with
      | string =>
        split at h
        · rename_i h0
          split at h
          · rename_i b hb
            cases h
            exact ⟨_, by simp [Instr.index, asIntOf, und_of hu, h0, hb], .int _ _⟩
          · cases h
        · cases h
    · cases h
  | _ => simp [iindex] at h

/- bounds of a slice expression -/
inductive OVRel (φ : Emb) : Option Value → Option Value → Prop
  | none : OVRel φ none none
  | some {v v' : Value} (h : VRel φ v v') : OVRel φ (some v) (some v')

theorem ibound_rel {φ : Emb} {x x' : Option Value} {d m r : Nat} (hx : OVRel φ x x') (h : ibound x d m = some r) : x' = x := by
  cases hx with
  | none => rfl
  | some hv => cases hv with
    | int => rfl
    | _ => simp [ibound] at h

theorem ibounds_sim {φ : Emb} {lo lo' hi hi' mx mx' : Option Value} (hlo : OVRel φ lo lo') (hhi : OVRel φ hi hi') (hmx : OVRel φ mx mx') {len cap cap' l hh m : Nat} (b : Bool) (hc : cap ≤ cap')
    (h : ibounds len cap lo hi mx = some (l, hh, m)) :
    (Instr.sliceBounds b len cap' lo' hi' mx').run P w = .ok (l, hh, if mx.isSome then m else cap') w ∧ l ≤ hh ∧ hh ≤ m ∧ m ≤ cap ∧ (mx = none → m = cap) := by
  unfold ibounds at h
  cases hm : ibound mx cap cap with
  | none => rw [hm] at h; cases h
  | some m0 =>
    rw [hm] at h
    simp only at h
    split at h
    · cases h
    · rename_i hmh
      cases hb : ibound hi len m0 with
      | none => rw [hb] at h; cases h
      | some h0 =>
        rw [hb] at h
        simp only at h
        cases hl : ibound lo 0 h0 with
        | none => rw [hl] at h; cases h
        | some l0 =>
          rw [hl] at h
          simp only at h
          split at h
          · rename_i hle
            simp only [Option.some.injEq, Prod.mk.injEq] at h
            obtain ⟨rfl, rfl, rfl⟩ := h
            have elo := ibound_rel hlo hl
            have ehi := ibound_rel hhi hb
            have emx := ibound_rel hmx hm
            subst elo ehi emx
            clear hlo hhi hmx
            have bound : ∀ (k : IntKind) (i : Int) (y : Nat) (c : BoundsCode), 0 ≤ i ∧ i ≤ (y : Int) → (Instr.sliceBound (.int k i) y c).run P w = .ok i.toNat w := by
              intro k i y c hi
              simp [Instr.sliceBound, asIntOf, hi]
            cases mx' with
            | none =>
              simp only [ibound, Option.some.injEq] at hm; subst hm
              cases hi' with
              | none =>
                simp only [ibound, Option.some.injEq] at hb; subst hb
                cases lo' with
                | none => simp only [ibound, Option.some.injEq] at hl; subst hl; exact ⟨by simp [Instr.sliceBounds], by omega, by omega, by omega, fun _ => rfl⟩
                | some vv => cases vv with
                  | int k i =>
                    simp only [ibound] at hl
                    split at hl
                    · rename_i hc'; cases hl
                      exact ⟨by simp [Instr.sliceBounds, bound _ _ _ _ hc'], by omega, by omega, by omega, fun _ => rfl⟩
                    · cases hl
                  | _ => simp [ibound] at hl
              | some vv => cases vv with
                | int k i =>
                  simp only [ibound] at hb
                  split at hb
                  · rename_i hc1; cases hb
                    have hc1' : 0 ≤ i ∧ i ≤ (cap' : Int) := ⟨hc1.1, by omega⟩
                    cases lo' with
                    | none => simp only [ibound, Option.some.injEq] at hl; subst hl; exact ⟨by simp [Instr.sliceBounds, bound _ _ _ _ hc1'], by omega, by omega, by omega, fun _ => rfl⟩
                    | some vv => cases vv with
                      | int k2 i2 =>
                        simp only [ibound] at hl
                        split at hl
                        · rename_i hc2; cases hl
                          exact ⟨by simp [Instr.sliceBounds, bound _ _ _ _ hc1', bound _ _ _ _ hc2], by omega, by omega, by omega, fun _ => rfl⟩
                        · cases hl
                      | _ => simp [ibound] at hl
                  · cases hb
                | _ => simp [ibound] at hb
            | some vv => cases vv with
              | int k i =>
                simp only [ibound] at hm
                split at hm
                · rename_i hc1; cases hm
                  have hc1' : 0 ≤ i ∧ i ≤ (cap' : Int) := ⟨hc1.1, by omega⟩
                  cases hi' with
                  | none => simp at hmh
                  | some vv => cases vv with
                    | int k2 i2 =>
                      simp only [ibound] at hb
                      split at hb
                      · rename_i hc2; cases hb
                        cases lo' with
                        | none =>
                          simp only [ibound, Option.some.injEq] at hl; subst hl
                          exact ⟨by simp [Instr.sliceBounds, bound _ _ _ _ hc1', bound _ _ _ _ hc2], by omega, by omega, by omega, fun h => by cases h⟩
                        | some vv => cases vv with
                          | int k3 i3 =>
                            simp only [ibound] at hl
                            split at hl
                            · rename_i hc3; cases hl
                              exact ⟨by simp [Instr.sliceBounds, bound _ _ _ _ hc1', bound _ _ _ _ hc2, bound _ _ _ _ hc3], by omega, by omega, by omega, fun h => by cases h⟩
                            · cases hl
                          | _ => simp [ibound] at hl
                      · cases hb
                    | _ => simp [ibound] at hb
                · cases hm
              | _ => simp [ibound] at hm
          · cases h

end
end Go.Ideal

/- Operations of the ideal machine, one by one (third part): slices, arithmetic, equality. -/
namespace Go.Ideal
open Go

section
variable {P : Program} {w : World}

theorem slice_sim {φ : Emb} {h : IHeap} (hr : HRel φ h w) {t : TypeId} {x x' : Value} {lo lo' hi hi' mx mx' : Option Value} (hx : VRel φ x x') (hlo : OVRel φ lo lo') (hhi : OVRel φ hi hi') (hmx : OVRel φ mx mx')
    {v : Value} (hs : islice (Env.of P) t x lo hi mx h = some v) : ∃ v', (Instr.sliceAt t x' lo' hi' mx').run P w = .ok v' w ∧ VRel φ v v' := by
  unfold islice at hs
  split at hs
  · -- a string
    rename_i s hu
    cases hx
    split at hs
    · cases hs
    · rename_i hm
      cases hmx with
      | some _ => simp at hm
      | none =>
        split at hs
        · rename_i l hh m hb
          cases hs
          obtain ⟨e1, _, _, _, e5⟩ := ibounds_sim (P := P) (w := w) hlo hhi (.none : OVRel φ none none) false (Nat.le_refl _) hb
          refine ⟨_, ?_, .string _⟩
          simp only [Option.isSome_none, Bool.false_eq_true, if_false] at e1
          simp [Instr.sliceAt, Instr.slice, und_of hu, e1]
        · cases hs
  · -- a slice
    rename_i e b off len cap hu
    split at hs
    · rename_i l hh m hb
      split at hs
      · rename_i n hn
        split at hs
        · rename_i hf
          cases hs
          cases hx with
          | slice _ _ _ _ p hp =>
            obtain ⟨e1, e2, e3, e4, e5⟩ := ibounds_sim (P := P) (w := w) hlo hhi hmx true (Nat.le_refl _) hb
            have hm' : (if mx.isSome = true then m else cap) = m := by cases mx with | none => simp [e5 rfl] | some _ => simp
            rw [hm'] at e1
            by_cases hml : m = l
            · subst hml
              refine ⟨_, by simp [Instr.sliceAt, Instr.slice, und_of hu, size_of hn, e1]; rfl, ?_⟩
              have : hh - m = 0 := by omega
              rw [this, Nat.sub_self]; exact .sliceEmpty _ _ _
            · refine ⟨.slice (some ⟨p.r, p.base + (off + l * n), none⟩) (hh - l) (m - l), by simp [Instr.sliceAt, Instr.slice, und_of hu, size_of hn, e1, hml, add_eq, Nat.add_assoc], .slice _ _ _ _ p hp⟩
          | sliceGrow _ _ _ _ cap' p hp hs1 hc h1 h2 =>
            obtain ⟨e1, e2, e3, e4, e5⟩ := ibounds_sim (P := P) (w := w) hlo hhi hmx true hc hb
            cases mx with
            | some vm =>
              simp only [Option.isSome_some, if_true] at e1
              by_cases hml : m = l
              · subst hml
                refine ⟨_, by simp [Instr.sliceAt, Instr.slice, und_of hu, size_of hn, e1]; rfl, ?_⟩
                have : hh - m = 0 := by omega
                rw [this, Nat.sub_self]; exact .sliceEmpty _ _ _
              · refine ⟨.slice (some ⟨p.r, p.base + (off + l * n), none⟩) (hh - l) (m - l), by simp [Instr.sliceAt, Instr.slice, und_of hu, size_of hn, e1, hml, add_eq, Nat.add_assoc], .slice _ _ _ _ p hp⟩
            | none =>
              simp only [Option.isSome_none, Bool.false_eq_true, if_false] at e1
              have hmc := e5 rfl
              subst hmc
              by_cases hml : cap' = l
              · subst hml
                have hm0 : m = cap' := by omega
                refine ⟨_, by simp [Instr.sliceAt, Instr.slice, und_of hu, size_of hn, e1]; rfl, ?_⟩
                have k1 : hh - cap' = 0 := by omega
                have k2 : m - cap' = 0 := by omega
                rw [k1, k2]; first | exact .sliceEmpty _ _ _ | (rw [Nat.sub_self]; exact .sliceEmpty _ _ _)
              · refine ⟨.slice (some ⟨p.r, p.base + (off + l * n), none⟩) (hh - l) (cap' - l), by simp [Instr.sliceAt, Instr.slice, und_of hu, size_of hn, e1, hml, add_eq, Nat.add_assoc], ?_⟩
                have hne : n = p.esz := by
                  unfold fitsE at hf
                  split at hf
                  · rename_i cs ee hg
                    obtain ⟨_, _, _, _, _, k4, _⟩ := hr.obj _ p _ hp hg
                    simp only [Bool.or_eq_true, beq_iff_eq] at hf
                    omega
                  · rename_i cs hg
                    have := (hr.obj _ p _ hp hg).1
                    omega
                  · cases hf
                subst hne
                have hl1 : l * p.esz ≤ m * p.esz := Nat.mul_le_mul_right _ (by omega)
                have hl2 : l * p.esz ≤ cap' * p.esz := Nat.mul_le_mul_right _ (by omega)
                exact .sliceGrow _ _ _ _ _ p hp hs1 (by omega) (by rw [Nat.sub_mul]; omega) (by rw [Nat.sub_mul]; omega)
          | sliceEmpty _ _ a =>
            obtain ⟨e1, e2, e3, e4, e5⟩ := ibounds_sim (P := P) (w := w) hlo hhi hmx true (Nat.le_refl _) hb
            have hm' : (if mx.isSome = true then m else 0) = m := by cases mx with | none => simp [e5 rfl] | some _ => simp
            rw [hm'] at e1
            have k1 : m = 0 := by omega
            have k2 : hh = 0 := by omega
            have k3 : l = 0 := by omega
            subst k1 k2 k3
            exact ⟨_, by simp [Instr.sliceAt, Instr.slice, und_of hu, size_of hn, e1]; rfl, .sliceEmpty _ _ _⟩
        · cases hs
      · cases hs
    · cases hs
  · -- a nil slice
    rename_i e hu
    cases hx
    split at hs
    · rename_i r hb
      obtain ⟨l, hh, m⟩ := r
      split at hs
      · rename_i n hn
        cases hs
        obtain ⟨e1, e2, e3, e4, e5⟩ := ibounds_sim (P := P) (w := w) hlo hhi hmx true (Nat.le_refl _) hb
        have hm' : (if mx.isSome = true then m else 0) = m := by cases mx with | none => simp [e5 rfl] | some _ => simp
        rw [hm'] at e1
        have k1 : m = 0 := by omega
        have k2 : hh = 0 := by omega
        have k3 : l = 0 := by omega
        subst k1 k2 k3
        exact ⟨.slice none 0 0, by simp [Instr.sliceAt, Instr.slice, und_of hu, size_of hn, e1], .sliceNil⟩
      · cases hs
    · cases hs
  · -- an array
    rename_i k e b off hu
    cases hx with
    | ptr _ _ p hp =>
      split at hs
      · rename_i l hh m hb
        split at hs
        · rename_i n hn
          cases hs
          obtain ⟨e1, e2, e3, e4, e5⟩ := ibounds_sim (P := P) (w := w) hlo hhi hmx false (Nat.le_refl _) hb
          have hm' : (if mx.isSome = true then m else k) = m := by cases mx with | none => simp [e5 rfl] | some _ => simp
          rw [hm'] at e1
          by_cases hml : m = l
          · subst hml
            refine ⟨_, by simp [Instr.sliceAt, und_of hu, size_of hn, e1, Instr.sureAddr]; rfl, ?_⟩
            have : hh - m = 0 := by omega
            rw [this, Nat.sub_self]; exact .sliceEmpty _ _ _
          · exact ⟨.slice (some ⟨p.r, p.base + (off + l * n), none⟩) (hh - l) (m - l), by simp [Instr.sliceAt, und_of hu, size_of hn, e1, hml, add_eq, Nat.add_assoc, Instr.sureAddr], .slice _ _ _ _ p hp⟩
        · cases hs
      · cases hs
  · cases hs

/- numbers and strings -/
theorem int_sim {op : BinOp} {t : TypeId} {k : IntKind} {a b : Int} {v : Value} (h : iint op k a b = some v) : (binOp op t (.int k a) (.int k b)).run P w = .ok v w := by
  unfold iint at h
  split at h
  all_goals first | (cases h; simp [binOp, Op.intArith, Op.intBits, Op.intCmp]; done) | skip
  · split at h
    · cases h
    · cases h; simp [binOp, Op.intDiv, *]
  · split at h
    · cases h
    · cases h; simp [binOp, Op.intDiv, *]
  · cases h

theorem shift_sim {op : BinOp} {t : TypeId} {k k' : IntKind} {a b : Int} {v : Value} (h : ishift op k a b = some v) : (binOp op t (.int k a) (.int k' b)).run P w = .ok v w := by
  unfold ishift at h
  split at h
  · cases h
  · rename_i hb
    split at h
    · cases h; simp [binOp, Op.shift, hb]
    · cases h; simp [binOp, Op.shift, hb]
    · cases h

theorem string_sim {op : BinOp} {t : TypeId} {a b : ByteArray} {v : Value} (h : istring op a b = some v) : (binOp op t (.string a) (.string b)).run P w = .ok v w := by
  unfold istring at h
  split at h
  all_goals first | (cases h; simp [binOp, Op.stringOp]; done) | skip
  · split at h
    · rename_i hle
      cases h
      have : ¬ ((a.size + b.size : Nat) : Int) > IntKind.i64.max := by
        have : IntKind.i64.max = 9223372036854775807 := by decide
        rw [this]; omega
      simp only [binOp, Op.stringOp, if_neg this]
      rfl
    · cases h
  · cases h

/- equality -/
theorem ieqFields_sim {φ : Emb} (eq : TypeId → Value → Value → Option Bool) (req : TypeId → Value → Value → Sem Bool)
    (heq : ∀ t x y x' y' b, VRel φ x x' → VRel φ y y' → eq t x y = some b → (req t x' y').run P w = .ok b w)
    {xs ys xs' ys' : Array Value} (h1 : xs.size = xs'.size) (h2 : ∀ (i : Nat) (v v' : Value), xs[i]? = some v → xs'[i]? = some v' → VRel φ v v') (h3 : ∀ v ∈ xs, oneB v = true)
    (g1 : ys.size = ys'.size) (g2 : ∀ (i : Nat) (v v' : Value), ys[i]? = some v → ys'[i]? = some v' → VRel φ v v') (g3 : ∀ v ∈ ys, oneB v = true) (fs : List Field) (b : Bool)
    (h : ieqFields eq (Env.of P) xs.toList ys.toList fs = some b) :
    ∃ r : Option Bool × PUnit.{1}, (forIn fs (none, PUnit.unit) fun (f : Field) (_ : Option Bool × PUnit.{1}) =>
      if f.name ≠ "_" then do
        let x ← part f.type xs' f.offset
        let y ← part f.type ys' f.offset
        let c ← req f.type x y
        if (!c) = true then pure (ForInStep.done (some false, PUnit.unit)) else do pure PUnit.unit; pure (ForInStep.yield (none, PUnit.unit))
      else do pure PUnit.unit; pure (ForInStep.yield (none, PUnit.unit)) : Sem (Option Bool × PUnit.{1})).run P w = .ok r w ∧ r.1 = if b then none else some false := by
  induction fs with
  | nil => simp only [ieqFields, Option.some.injEq] at h; subst h; exact ⟨(none, PUnit.unit), rfl, rfl⟩
  | cons f fs ih =>
    simp only [ieqFields] at h
    simp only [List.forIn_cons, Sem.run_bind]
    by_cases hn : f.name ≠ "_"
    · rw [if_pos hn] at h
      simp only [if_pos hn]
      cases hx : ipart (Env.of P) f.type xs.toList f.offset with
      | none => rw [hx] at h; cases h
      | some x =>
        cases hy : ipart (Env.of P) f.type ys.toList f.offset with
        | none => rw [hx, hy] at h; cases h
        | some y =>
          rw [hx, hy] at h
          simp only at h
          obtain ⟨x', ex, rx⟩ := part_sim (P := P) (w := w) h1 h2 h3 hx
          obtain ⟨y', ey, ry⟩ := part_sim (P := P) (w := w) g1 g2 g3 hy
          cases hc : eq f.type x y with
          | none => rw [hc] at h; cases h
          | some c =>
            rw [hc] at h
            have er := heq _ _ _ _ _ _ rx ry hc
            simp only [Sem.run_bind, ex, ey, er, Result.andThen_ok]
            cases c with
            | false => simp only [Option.some.injEq] at h; subst h; exact ⟨(some false, PUnit.unit), by simp, rfl⟩
            | true => simpa using ih h
    · rw [if_neg hn] at h
      simp only [if_neg hn, Sem.run_pure, Result.andThen_ok]
      exact ih h

theorem ieq_sim (d : Nat) : ∀ {φ : Emb} (t : TypeId) (x y x' y' : Value) (b : Bool), VRel φ x x' → VRel φ y y' → ieq (Env.of P) d t x y = some b → (Op.equalIn d t x' y').run P w = .ok b w := by
  induction d with
  | zero => intro φ t x y x' y' b _ _ h; cases h
  | succ d ih =>
    intro φ t x y x' y' b hx hy h
    simp only [ieq] at h
    split at h
    · rename_i a c hu; cases h; cases hx; cases hy; simp [Op.equalIn, und_of hu]
    · rename_i k0 k a k' c hu
      split at h
      · rename_i hk; cases h; cases hx; cases hy; simp [Op.equalIn, und_of hu, hk]
      · cases h
    · rename_i a c hu; cases h; cases hx; cases hy; simp [Op.equalIn, und_of hu]
    · rename_i fs xs ys hu
      split at h
      · cases h
      · rename_i hst
        cases hx with
        | agg _ xs' h1 h2 h3 =>
          cases hy with
          | agg _ ys' g1 g2 g3 =>
            have hst' : P.stoodInHeld t = false := by simpa [Env.of] using hst
            obtain ⟨r, e1, e2⟩ := ieqFields_sim (P := P) (w := w) (φ := φ) (ieq (Env.of P) d) (Op.equalIn d) (fun t x y x' y' b => ih t x y x' y' b) h1 h2 h3 g1 g2 g3 fs.toList b h
            simp only [Op.equalIn, Sem.run_bind, und_of hu, Result.andThen_ok, run_program, hst']
            simp only [Bool.false_eq_true, if_false, Sem.run_bind, ← Array.forIn_toList]
            erw [e1]
            obtain ⟨r1, r2⟩ := r
            simp only at e2
            subst e2
            cases b <;> rfl
    · cases h

theorem nil_rel {φ : Emb} {x x' : Value} (h : VRel φ x x') : isNilV x' = isNilV x := by cases h <;> rfl

/- two values one of which is nil -/
theorem nils_sim {φ : Emb} {t : TypeId} {x y x' y' : Value} (hx : VRel φ x x') (hy : VRel φ y y') (hn : isNilable (Env.of P) t x y = true) {b : Bool}
    (h : (match isNilV x, isNilV y with | some true, some b => some b | some b, some true => some b | _, _ => none : Option Bool) = some b) : (Op.equal t x' y').run P w = .ok b w := by
  have hxn := nil_rel hx
  have hyn := nil_rel hy
  have hd : Op.maxDepth = 9999 + 1 := rfl
  unfold Op.equal
  rw [hd]
  generalize 9999 = d
  clear hd hxn hyn
  cases x with
  | pointer a => cases y with
    | pointer c =>
      simp only [isNilable] at hn
      split at hn
      rotate_left
      · cases hn
      rename_i e hu
      cases a <;> cases c <;> cases hx <;> cases hy <;> simp [isNilV] at h <;> subst h <;> simp [Op.equalIn, und_of hu]
    | _ => simp [isNilable] at hn
  | slice a l c => cases y with
    | slice a' l' c' =>
      simp only [isNilable] at hn
      split at hn
      rotate_left
      · cases hn
      rename_i e hu
      cases a <;> cases a' <;> cases hx <;> cases hy <;> simp [isNilV] at h <;> subst h <;> simp [Op.equalIn, und_of hu]
    | _ => simp [isNilable] at hn
  | map r => cases y with
    | map r' =>
      simp only [isNilable] at hn
      split at hn
      rotate_left
      · cases hn
      rename_i e hu
      cases r <;> cases r' <;> cases hx <;> cases hy <;> simp [isNilV] at h <;> subst h <;> simp [Op.equalIn, und_of hu]
    | _ => simp [isNilable] at hn
  | nilFunc => cases y with
    | func f p q =>
      simp only [isNilable] at hn
      split at hn
      rotate_left
      · cases hn
      rename_i e hu
      cases hx; cases hy; simp [isNilV] at h; subst h; simp [Op.equalIn, und_of hu]
    | nilFunc =>
      simp only [isNilable] at hn
      split at hn
      rotate_left
      · cases hn
      rename_i e hu
      cases hx; cases hy; simp [isNilV] at h; subst h; simp [Op.equalIn, und_of hu]
    | _ => simp [isNilable] at hn
  | func f p q => cases y with
    | nilFunc =>
      simp only [isNilable] at hn
      split at hn
      rotate_left
      · cases hn
      rename_i e hu
      cases hx; cases hy; simp [isNilV] at h; subst h; simp [Op.equalIn, und_of hu]
    | _ => simp [isNilable] at hn
  | nilIface => cases y with
    | iface u v =>
      simp only [isNilable] at hn
      split at hn
      rotate_left
      · cases hn
      rename_i e hu
      cases hx; cases hy; simp [isNilV] at h; subst h; simp [Op.equalIn, und_of hu]
    | _ => simp [isNilable] at hn
  | iface u v => cases y with
    | nilIface =>
      simp only [isNilable] at hn
      split at hn
      rotate_left
      · cases hn
      rename_i e hu
      cases hx; cases hy; simp [isNilV] at h; subst h; simp [Op.equalIn, und_of hu]
    | _ => simp [isNilable] at hn
  | _ => simp [isNilable] at hn

theorem guard_none (op : BinOp) (t : TypeId) (x y : Operand) (a b : Value) (h : ∀ u v, a = .agg u → b = .agg v → P.eqGuardType P.depth t = false) (h2 : a = .nilIface → b = .nilIface → False) :
    (eqGuard op t x y a b).run P w = .ok () w := by
  unfold eqGuard
  cases op <;> first | rfl | skip
  all_goals
    cases a <;> first | rfl | (cases b <;> first | rfl | exact (h2 rfl rfl).elim | simp [h _ _ rfl rfl])

theorem binOp_eql {t : TypeId} {x y : Value} (hx : ∀ k n, x ≠ .int k n) (hs : ∀ s, x ≠ .string s) (hf : ∀ k n, x ≠ .float k n) (hc : ∀ k a b, x ≠ .complex k a b) :
    binOp .eql t x y = (do pure (.bool (← Op.equal t x y)) : Sem Value) ∧ binOp .neq t x y = (do pure (.bool (!(← Op.equal t x y))) : Sem Value) := by
  cases x with
  | int k n => exact absurd rfl (hx k n)
  | string s => exact absurd rfl (hs s)
  | float k n => exact absurd rfl (hf k n)
  | complex k a b => exact absurd rfl (hc k a b)
  | _ => cases y <;> exact ⟨rfl, rfl⟩

theorem bin_sim {φ : Emb} {op : BinOp} {t : TypeId} {ox oy : Operand} {x y x' y' v : Value} (hx : VRel φ x x') (hy : VRel φ y y') (h : ibin (Env.of P) op t x y = some v) :
    ((do eqGuard op t ox oy x' y'; binOp op t x' y') : Sem Value).run P w = .ok v w ∧ VRel φ v v := by
  have hb : ∀ c : Bool, VRel φ (.bool c) (.bool c) := fun c => .bool c
  unfold ibin at h
  split at h
  · -- two integers
    rename_i k a k' b
    cases hx; cases hy
    have hg : (eqGuard op t ox oy (.int k a) (.int k' b)).run P w = .ok () w := guard_none op t ox oy _ _ (fun u v h => by cases h) (fun h => by cases h)
    simp only [Sem.run_bind, hg, Result.andThen_ok]
    split at h
    · exact ⟨shift_sim h, by unfold ishift at h; split at h; · cases h
                             · split at h <;> cases h <;> exact .int _ _⟩
    · exact ⟨shift_sim h, by unfold ishift at h; split at h; · cases h
                             · split at h <;> cases h <;> exact .int _ _⟩
    · split at h
      · rename_i hk
        subst hk
        refine ⟨int_sim h, ?_⟩
        unfold iint at h
        split at h
        all_goals first | (cases h; exact .int _ _) | (cases h; exact .bool _) | (split at h <;> first | cases h | skip) | cases h
        all_goals exact .int _ _
      · cases h
  · -- two strings
    rename_i a b
    cases hx; cases hy
    have hg : (eqGuard op t ox oy (.string a) (.string b)).run P w = .ok () w := guard_none op t ox oy _ _ (fun u v h => by cases h) (fun h => by cases h)
    simp only [Sem.run_bind, hg, Result.andThen_ok]
    refine ⟨string_sim h, ?_⟩
    unfold istring at h
    split at h
    all_goals first | (cases h; exact .string _) | (cases h; exact .bool _) | (split at h <;> first | cases h | skip) | cases h
    all_goals exact .string _
  · -- two bools
    rename_i a b
    cases hx; cases hy
    have hg : (eqGuard op t ox oy (.bool a) (.bool b)).run P w = .ok () w := guard_none op t ox oy _ _ (fun u v h => by cases h) (fun h => by cases h)
    simp only [Sem.run_bind, hg, Result.andThen_ok]
    have hd : Op.maxDepth = 9999 + 1 := rfl
    split at h
    · rename_i hu
      cases h
      refine ⟨?_, .bool _⟩
      show (binOp .eql t (.bool a) (.bool b)).run P w = _
      simp only [binOp, Op.equal, hd]
      generalize 9999 = d
      simp [Op.equalIn, und_of hu]
    · rename_i hu
      cases h
      refine ⟨?_, .bool _⟩
      show (binOp .neq t (.bool a) (.bool b)).run P w = _
      simp only [binOp, Op.equal, hd]
      generalize 9999 = d
      simp [Op.equalIn, und_of hu]
    · cases h
  · -- equality of other values
    rename_i n1 n2 n3
    have key : ∀ c, iequal (Env.of P) t x y = some c → (eqGuard op t ox oy x' y').run P w = .ok () w ∧ (Op.equal t x' y').run P w = .ok c w := by
      intro c hc
      unfold iequal at hc
      split at hc
      · rename_i u v
        cases hx with
        | agg _ u' a1 a2 a3 =>
          cases hy with
          | agg _ v' c1 c2 c3 =>
            split at hc
            · cases hc
            · rename_i hgd
              have hgd' : P.eqGuardType P.depth t = false := by simpa [Env.of] using hgd
              exact ⟨guard_none op t ox oy _ _ (fun _ _ _ _ => hgd') (fun h => by cases h), ieq_sim (P := P) (w := w) 10000 t _ _ _ _ _ (.agg _ _ a1 a2 a3) (.agg _ _ c1 c2 c3) hc⟩
      · split at hc
        · rename_i hn
          refine ⟨guard_none op t ox oy _ _ ?_ ?_, nils_sim hx hy hn hc⟩
          · intro u v e1 e2
            subst e1 e2
            cases hx; cases hy
            simp [isNilable] at hn
          · intro e1 e2
            subst e1 e2
            cases hx; cases hy
            simp [isNilable] at hn
        · cases hc
    have sides : ∀ c, iequal (Env.of P) t x y = some c → (∀ k n, x' ≠ .int k n) ∧ (∀ s, x' ≠ .string s) ∧ (∀ k n, x' ≠ .float k n) ∧ (∀ k a b, x' ≠ .complex k a b) := by
      intro c hc
      cases hx <;> simp_all [iequal, isNilable]
    split at h
    · cases hc : iequal (Env.of P) t x y with
      | none => rw [hc] at h; cases h
      | some c =>
        rw [hc] at h; cases h
        obtain ⟨k1, k2⟩ := key c hc
        obtain ⟨s1, s2, s3, s4⟩ := sides c hc
        refine ⟨?_, .bool _⟩
        rw [(binOp_eql (t := t) (y := y') s1 s2 s3 s4).1]
        simp [k1, k2]
    · cases hc : iequal (Env.of P) t x y with
      | none => rw [hc] at h; cases h
      | some c =>
        rw [hc] at h; cases h
        obtain ⟨k1, k2⟩ := key c hc
        obtain ⟨s1, s2, s3, s4⟩ := sides c hc
        refine ⟨?_, .bool _⟩
        rw [(binOp_eql (t := t) (y := y') s1 s2 s3 s4).2]
        simp [k1, k2]
    · cases h

end
end Go.Ideal

/- Operations of the ideal machine, one by one (fourth part): composites, conversions, maps, strings. -/
namespace Go.Ideal
open Go

section
variable {P : Program} {w : World}

theorem unary_sim {φ : Emb} {op : UnOp} {x x' v : Value} (hx : VRel φ x x') (h : iunary op x = some v) : (Op.unary op x').run P w = .ok v w ∧ VRel φ v v := by
  unfold iunary at h
  split at h
  · rename_i k n; cases hx; simp only [iint] at h; cases h; exact ⟨by simp [Op.unary, Op.intArith], .int _ _⟩
  · rename_i k n; cases hx; simp only [iint] at h; cases h; exact ⟨by simp [Op.unary, Op.intBits], .int _ _⟩
  · rename_i b; cases hx; cases h; exact ⟨by simp [Op.unary], .bool _⟩
  · cases h

/- min, max -/
theorem imin'_sim (l : List Value) : ∀ (x v : Value), imin.imin' x l = some v → (l.foldlM Builtin.min2 x).run P w = .ok v w := by
  induction l with
  | nil => intro x v h; unfold imin.imin' at h; cases x <;> cases h <;> rfl
  | cons y l ih =>
    intro x v h
    cases x with
    | int k a => cases y with
      | int k' b =>
        simp only [imin.imin'] at h
        split at h
        · simp only [List.foldlM_cons, Builtin.min2, Sem.run_bind, Sem.run_pure, Result.andThen_ok]; exact ih _ _ h
        · cases h
      | _ => simp [imin.imin'] at h
    | _ => simp [imin.imin'] at h
theorem imax'_sim (l : List Value) : ∀ (x v : Value), imax.imax' x l = some v → (l.foldlM Builtin.max2 x).run P w = .ok v w := by
  induction l with
  | nil => intro x v h; unfold imax.imax' at h; cases x <;> cases h <;> rfl
  | cons y l ih =>
    intro x v h
    cases x with
    | int k a => cases y with
      | int k' b =>
        simp only [imax.imax'] at h
        split at h
        · simp only [List.foldlM_cons, Builtin.max2, Sem.run_bind, Sem.run_pure, Result.andThen_ok]; exact ih _ _ h
        · cases h
      | _ => simp [imax.imax'] at h
    | _ => simp [imax.imax'] at h
theorem imin'_int (l : List Value) : ∀ (k : IntKind) (a : Int) (v : Value), imin.imin' (.int k a) l = some v → ∃ k n, v = .int k n := by
  induction l with
  | nil => intro k a v h; cases h; exact ⟨_, _, rfl⟩
  | cons y l ih =>
    intro k a v h
    cases y with
    | int k' b =>
      simp only [imin.imin'] at h
      split at h
      · exact ih _ _ _ h
      · cases h
    | _ => simp [imin.imin'] at h
theorem imax'_int (l : List Value) : ∀ (k : IntKind) (a : Int) (v : Value), imax.imax' (.int k a) l = some v → ∃ k n, v = .int k n := by
  induction l with
  | nil => intro k a v h; cases h; exact ⟨_, _, rfl⟩
  | cons y l ih =>
    intro k a v h
    cases y with
    | int k' b =>
      simp only [imax.imax'] at h
      split at h
      · exact ih _ _ _ h
      · cases h
    | _ => simp [imax.imax'] at h
theorem ints_rel {φ : Emb} {l l' : List Value} (hl : LRel φ l l') : ∀ (x v : Value), (imin.imin' x l = some v ∨ imax.imax' x l = some v) → l' = l := by
  induction l generalizing l' with
  | nil => intro _ _ _; exact hl.nil_left
  | cons y l ih =>
    intro x v h
    obtain ⟨y', l2, rfl, h1, h2⟩ := hl.cons_left
    cases x with
    | int k a => cases y with
      | int k' b =>
        cases h1
        rcases h with h | h
        · simp only [imin.imin'] at h; split at h
          · rw [ih h2 _ _ (.inl h)]
          · cases h
        · simp only [imax.imax'] at h; split at h
          · rw [ih h2 _ _ (.inr h)]
          · cases h
      | _ => rcases h with h | h <;> simp [imin.imin', imax.imax'] at h
    | _ => rcases h with h | h <;> simp [imin.imin', imax.imax'] at h
theorem min_sim {φ : Emb} {l l' : List Value} {v : Value} (hl : LRel φ l l') (h : imin l = some v) (ts : Array TypeId) (t : TypeId) : (Builtin.min_ ts t l'.toArray).run P w = .ok v w ∧ VRel φ v v := by
  unfold imin at h
  split at h
  · rename_i k a k' b rest
    split at h
    · rename_i hk
      obtain ⟨y1, l1, rfl, h1, h2⟩ := hl.cons_left
      obtain ⟨y2, l2, rfl, h3, h4⟩ := h2.cons_left
      cases h1; cases h3
      have := ints_rel h4 _ _ (.inl h)
      subst this
      obtain ⟨kk, nn, rfl⟩ := imin'_int _ _ _ _ h
      refine ⟨?_, .int _ _⟩
      simp only [Builtin.min_, List.foldlM_cons, Builtin.min2, Sem.run_bind, Sem.run_pure, Result.andThen_ok]
      exact imin'_sim _ _ _ h
    · cases h
  · cases h
theorem max_sim {φ : Emb} {l l' : List Value} {v : Value} (hl : LRel φ l l') (h : imax l = some v) (ts : Array TypeId) (t : TypeId) : (Builtin.max_ ts t l'.toArray).run P w = .ok v w ∧ VRel φ v v := by
  unfold imax at h
  split at h
  · rename_i k a k' b rest
    split at h
    · rename_i hk
      obtain ⟨y1, l1, rfl, h1, h2⟩ := hl.cons_left
      obtain ⟨y2, l2, rfl, h3, h4⟩ := h2.cons_left
      cases h1; cases h3
      have := ints_rel h4 _ _ (.inr h)
      subst this
      obtain ⟨kk, nn, rfl⟩ := imax'_int _ _ _ _ h
      refine ⟨?_, .int _ _⟩
      simp only [Builtin.max_, List.foldlM_cons, Builtin.max2, Sem.run_bind, Sem.run_pure, Result.andThen_ok]
      exact imax'_sim _ _ _ h
    · cases h
  · cases h

/- length and capacity -/
theorem len_sim {φ : Emb} {h : IHeap} (hr : HRel φ h w) {ts : List TypeId} {l l' : List Value} {v : Value} (hl : LRel φ l l') (he : ilenB (Env.of P) ts l h = some v) (t : TypeId) :
    (Builtin.len_ ts.toArray t l'.toArray).run P w = .ok v w ∧ VRel φ v v := by
  unfold ilenB at he
  split at he
  · rename_i t0 ts0 x rest
    obtain ⟨y1, l1, rfl, h1, h2⟩ := hl.cons_left
    split at he
    · rename_i s hu; cases he; cases h1; exact ⟨by simp [Builtin.len_, und_of hu, goInt], .int _ _⟩
    · rename_i n e hu; cases he; exact ⟨by simp [Builtin.len_, und_of hu, goInt], .int _ _⟩
    · rename_i e a n c hu; cases he; cases h1 <;> exact ⟨by simp [Builtin.len_, und_of hu, goInt], .int _ _⟩
    · rename_i hu; cases he; cases h1; exact ⟨by simp [Builtin.len_, und_of hu, goInt], .int _ _⟩
    · rename_i b hu
      cases h1 with
      | map _ p hp =>
        split at he
        · rename_i es hg
          cases he
          obtain ⟨ms, c, e1, e2⟩ := hr.obj _ p _ hp hg
          have hgo : (getObj p.r).run P w = .ok (.map ms c) w := by simp [getObj, Sem.run, e1]
          refine ⟨?_, .int _ _⟩
          have := e2.1
          simp at this
          simp [Builtin.len_, und_of hu, goInt, hgo, this]
        · cases he
    · cases he
  · cases he

theorem cap_sim {φ : Emb} {h : IHeap} (hr : HRel φ h w) {ts : List TypeId} {l l' : List Value} {v : Value} (hl : LRel φ l l') (he : icap (Env.of P) ts l h = some v) (t : TypeId) :
    (Builtin.cap_ ts.toArray t l'.toArray).run P w = .ok v w ∧ VRel φ v v := by
  unfold icap at he
  split at he
  · rename_i t0 ts0 x rest
    obtain ⟨y1, l1, rfl, h1, h2⟩ := hl.cons_left
    split at he
    · rename_i e n c hu; cases he; cases h1; exact ⟨by simp [Builtin.cap_, und_of hu, goInt], .int _ _⟩
    · rename_i e b off n c hu
      have hex : ∀ p, φ b = some p → v = .int .i64 c → p.esz = 0 → (Builtin.cap_ (t0 :: ts0).toArray t (y1 :: l1).toArray).run P w = .ok v w ∧ VRel φ v v := by
        intro p hp hv h0
        subst hv
        cases h1 with
        | slice _ _ _ _ q hq => exact ⟨by simp [Builtin.cap_, und_of hu, goInt], .int _ _⟩
        | sliceGrow _ _ _ _ cap' q hq hs => rw [hp] at hq; cases hq; omega
        | sliceEmpty => exact ⟨by simp [Builtin.cap_, und_of hu, goInt], .int _ _⟩
      have hemp : c = 0 → n = 0 → v = .int .i64 c → (∃ a, y1 = .slice (some a) 0 0) → (Builtin.cap_ (t0 :: ts0).toArray t (y1 :: l1).toArray).run P w = .ok v w ∧ VRel φ v v := by
        intro hc hn hv ⟨a, ha⟩
        subst hc hv ha
        exact ⟨by simp [Builtin.cap_, und_of hu, goInt], .int _ _⟩
      split at he
      · rename_i cs hg
        cases he
        cases h1 with
        | slice _ _ _ _ q hq => exact ⟨by simp [Builtin.cap_, und_of hu, goInt], .int _ _⟩
        | sliceGrow _ _ _ _ cap' q hq hs =>
          obtain ⟨_, _, _, _, _, k4, _⟩ := hr.obj _ q _ hq hg
          omega
        | sliceEmpty => exact ⟨by simp [Builtin.cap_, und_of hu, goInt], .int _ _⟩
      · rename_i cs hg
        cases he
        cases h1 with
        | slice _ _ _ _ q hq => exact ⟨by simp [Builtin.cap_, und_of hu, goInt], .int _ _⟩
        | sliceGrow _ _ _ _ cap' q hq hs =>
          have := (hr.obj _ q _ hq hg).1
          omega
        | sliceEmpty => exact ⟨by simp [Builtin.cap_, und_of hu, goInt], .int _ _⟩
      · cases he
    · cases he
  · cases he

/- interface values, function values, tuples -/
theorem typeAssert_sim {φ : Emb} {x x' v : Value} {xt at' : TypeId} {ok : Bool} (hx : VRel φ x x') (h : itypeAssert (Env.of P) x at' ok = some v) :
    ∃ v', (Instr.typeAssert x' xt at' ok).run P w = .ok v' w ∧ VRel φ v v' := by
  have pair : ∀ {a a' : Value} (b : Bool), VRel φ a a' → VRel φ (.tuple #[a, .bool b]) (.tuple #[a', .bool b]) := fun b h => .tuple' (.cons h (.cons (.bool b) (.nil φ)))
  unfold itypeAssert at h
  split at h
  · cases h
  · rename_i d t0 v0 hni hu
    have hni' : ∀ ms, d ≠ .interface ms := fun ms e => hni ms (by rw [e])
    cases hx with
    | iface _ _ v1 hv =>
      split at h
      · rename_i ht
        subst ht
        cases h
        refine ⟨if ok then .tuple #[v1, .bool true] else v1, ?_, by cases ok <;> simp <;> first | exact hv | exact pair true hv⟩
        simp only [Instr.typeAssert, Sem.run_bind, und_of hu, Result.andThen_ok]
        cases d <;> first | (exact absurd rfl (hni' _)) | simp
      · rename_i ht
        split at h
        · rename_i hok
          split at h
          · rename_i z hz
            cases h
            refine ⟨.tuple #[z, .bool false], ?_, pair false (zero_rel φ hz)⟩
            simp only [Instr.typeAssert, Sem.run_bind, und_of hu, Result.andThen_ok]
            cases d <;> first | (exact absurd rfl (hni' _)) | simp [ht, hok, zero_of hz]
          · cases h
        · cases h
  · rename_i d hni hu
    have hni' : ∀ ms, d ≠ .interface ms := fun ms e => hni ms (by rw [e])
    cases hx
    split at h
    · rename_i hok
      split at h
      · rename_i z hz
        cases h
        refine ⟨.tuple #[z, .bool false], ?_, pair false (zero_rel φ hz)⟩
        simp only [Instr.typeAssert, Sem.run_bind, und_of hu, Result.andThen_ok]
        cases d <;> first | (exact absurd rfl (hni' _)) | simp [hok, zero_of hz]
      · cases h
    · cases h
  · cases h

end
end Go.Ideal

/- Operations of the ideal machine, one by one (fifth part): what makes memory, maps, strings. -/
namespace Go.Ideal
open Go

section
variable {P : Program} {w : World}

theorem newVar_sim {φ : Emb} {h : IHeap} (hw : h.wf) (hr : HRel φ h w) (hf : φ h.next = none) {v v' : Value} (hv : VRel φ v v') (ht : noTuple v = true) (e : TypeId) :
    ∃ φ' v'' w', ((do pure (.pointer (some (← newVar e v'))) : Sem Value).run P w = .ok v'' w') ∧ VRel φ' (.pointer (some ⟨h.next, 0, none⟩)) v'' ∧ Step φ h w φ' (h.new (.cells v.cells.toList 0)) w' := by
  obtain ⟨h1, h2, _⟩ := hv.cells ht
  have hs := newCells0_step hw hr hf e h1 h2
  refine ⟨_, .pointer (some ⟨w.heap.size, 0, none⟩), _, ?_, ?_, hs⟩
  · simp [newVar, newRow]
  · exact .ptr h.next 0 _ (Emb.add_self φ _ _)

theorem alloc_sim {φ : Emb} {h : IHeap} (hw : h.wf) (hr : HRel φ h w) (hf : φ h.next = none) {e : TypeId} {z : Value} (hz : zeroT (Env.of P) e = some z) :
    ∃ φ' v' w', (Instr.alloc e true (.tuple #[])).run P w = .ok v' w' ∧ VRel φ' (.pointer (some ⟨h.next, 0, none⟩)) v' ∧ Step φ h w φ' (h.new (.cells z.cells.toList 0)) w' := by
  obtain ⟨i, _, _, _, ht, _⟩ := zero_spec hz
  obtain ⟨φ', v', w', e1, e2, e3⟩ := newVar_sim (P := P) hw hr hf (zero_rel φ hz) ht e
  refine ⟨φ', v', w', ?_, e2, e3⟩
  simp only [Instr.alloc, Sem.run_bind, zero_of hz, Result.andThen_ok]
  simpa using e1

theorem box_sim {φ : Emb} {h : IHeap} (hw : h.wf) (hr : HRel φ h w) (hf : φ h.next = none) {e : TypeId} {v v' : Value} (hv : VRel φ v v') (ht : noTuple v = true) :
    ∃ φ' v'' w', (Instr.box e v').run P w = .ok v'' w' ∧ VRel φ' (.pointer (some ⟨h.next, 0, none⟩)) v'' ∧ Step φ h w φ' (h.new (.cells v.cells.toList 0)) w' :=
  newVar_sim (P := P) hw hr hf hv ht e

/- filling places -/
theorem zipIdx_fill (off : Nat) (l : List Value) : ∀ (k : Nat) (arr : Array Value), off + k + l.length ≤ arr.size →
    ((l.zipIdx k).foldl (fun cs (x : Value × Nat) => cs.setIfInBounds (off + x.2) x.1) arr).toList = splice arr.toList (off + k) l := by
  induction l with
  | nil => intro k arr _; simp [splice]
  | cons v l ih =>
    intro k arr hl
    simp only [List.length_cons] at hl
    simp only [List.zipIdx_cons, List.foldl_cons]
    rw [ih (k + 1) _ (by simp; omega)]
    apply List.ext_getElem?
    intro i
    have g1 : off + (k + 1) + l.length ≤ (arr.setIfInBounds (off + k) v).toList.length := by simp; omega
    have g2 : off + k + (v :: l).length ≤ arr.toList.length := by simp; omega
    rw [splice_get _ _ _ _ g1, splice_get _ _ _ _ g2]
    simp only [Array.toList_setIfInBounds, List.length_cons]
    by_cases a : i < off + k
    · rw [if_pos (show i < off + (k + 1) by omega), if_pos a, List.getElem?_set_ne (show off + k ≠ i by omega)]
    · rw [if_neg a]
      by_cases b : i = off + k
      · subst b
        have hlt : off + k < arr.toList.length := by simp; omega
        rw [if_pos (show off + k < off + (k + 1) by omega), if_pos (show off + k < off + k + (l.length + 1) by omega), List.getElem?_set_self hlt]
        simp
      · rw [if_neg (show ¬ i < off + (k + 1) by omega)]
        by_cases c : i < off + k + (l.length + 1)
        · rw [if_pos (show i < off + (k + 1) + l.length by omega), if_pos c]
          obtain ⟨j, rfl⟩ : ∃ j, i = off + k + 1 + j := ⟨i - (off + k + 1), by omega⟩
          have e1 : off + k + 1 + j - (off + (k + 1)) = j := by omega
          have e2 : off + k + 1 + j - (off + k) = j + 1 := by omega
          rw [e1, e2]; simp
        · rw [if_neg (show ¬ i < off + (k + 1) + l.length by omega), if_neg c, List.getElem?_set_ne (show off + k ≠ i by omega)]

def PRel (φ : Emb) (ps ps' : List (Nat × Value)) : Prop := ps.length = ps'.length ∧ ∀ (i : Nat) (x x' : Nat × Value), ps[i]? = some x → ps'[i]? = some x' → x.1 = x'.1 ∧ VRel φ x.2 x'.2
theorem PRel.cons_left {φ : Emb} {x : Nat × Value} {ps ps' : List (Nat × Value)} (h : PRel φ (x :: ps) ps') : ∃ x' t, ps' = x' :: t ∧ x.1 = x'.1 ∧ VRel φ x.2 x'.2 ∧ PRel φ ps t := by
  cases ps' with
  | nil => simp [PRel] at h
  | cons x' t => exact ⟨x', t, rfl, (h.2 0 x x' (by simp) (by simp)).1, (h.2 0 x x' (by simp) (by simp)).2, by simpa using h.1, fun i y y' h1 h2 => h.2 (i + 1) y y' (by simpa using h1) (by simpa using h2)⟩
theorem PRel.map {φ : Emb} {α : Type} (l : List (Nat × α)) (f g : α → Value) (h : ∀ x ∈ l, VRel φ (f x.2) (g x.2)) : PRel φ (l.map fun p => (p.1, f p.2)) (l.map fun p => (p.1, g p.2)) := by
  refine ⟨by simp, fun i x x' h1 h2 => ?_⟩
  rw [List.getElem?_map] at h1 h2
  cases hl : l[i]? with
  | none => rw [hl] at h1; cases h1
  | some y => rw [hl] at h1 h2; cases h1; cases h2; exact ⟨rfl, h y (List.mem_of_getElem? hl)⟩

theorem fill_sim {φ : Emb} {place place' : Nat → Option (Nat × Nat)} (hp : ∀ i x, place i = some x → place' i = some x) (ps : List (Nat × Value)) : ∀ (ps' : List (Nat × Value)) (cells cs : List Value) (arr : Array Value),
    PRel φ ps ps' → LRel φ cells arr.toList → (∀ v ∈ cells, oneB v = true) → ifill place cells ps = some cs → ∃ rs : Array Value, Instr.fill place' arr ps' = some rs ∧ LRel φ cs rs.toList ∧ (∀ v ∈ cs, oneB v = true) ∧ cs.length = cells.length := by
  induction ps with
  | nil =>
    intro ps' cells cs arr hps hc h1 h
    have : ps' = [] := List.eq_nil_of_length_eq_zero (by simpa using hps.1.symm)
    subst this
    simp only [ifill, Option.some.injEq] at h; subst h
    exact ⟨arr, rfl, hc, h1, rfl⟩
  | cons x ps ih =>
    intro ps' cells cs arr hps hc h1 h
    obtain ⟨x', t, rfl, e1, e2, e3⟩ := hps.cons_left
    obtain ⟨i, v⟩ := x
    obtain ⟨i', v'⟩ := x'
    simp only at e1 e2
    subst e1
    simp only [ifill] at h
    cases hpl : place i with
    | none => rw [hpl] at h; cases h
    | some y =>
      obtain ⟨off, n⟩ := y
      rw [hpl] at h
      simp only [Bool.and_eq_true, beq_iff_eq, decide_eq_true_eq] at h
      split at h
      · rename_i hcnd
        obtain ⟨⟨c1, c2⟩, c3⟩ := hcnd
        obtain ⟨k1, k2, _⟩ := e2.cells c2
        have hlen := k1.1
        have hlen2 := hc.1
        simp only [Array.length_toList] at hlen hlen2 c1
        simp only [Instr.fill, hp _ _ hpl]
        have hz : (v'.cells.zipIdx.foldl (fun cs (x : Value × Nat) => cs.setIfInBounds (off + x.2) x.1) arr).toList = splice arr.toList off v'.cells.toList := by
          have := zipIdx_fill off v'.cells.toList 0 arr (by simp; omega)
          rw [← Array.foldl_toList]
          simpa using this
        have hcond : (decide (v'.cells.size ≠ n) || decide (off + v'.cells.size > arr.size)) = false := by simp; omega
        simp only [hcond, Bool.false_eq_true, if_false]
        obtain ⟨rs, r1, r2, r3, r4⟩ := ih t _ cs (v'.cells.zipIdx.foldl (fun cs (x : Value × Nat) => cs.setIfInBounds (off + x.2) x.1) arr) e3 (by rw [hz]; exact hc.splice k1 off)
          (fun u hu => (mem_splice hu).elim (h1 u) (k2 u)) h
        exact ⟨rs, r1, r2, r3, by rw [r4, splice_length _ _ _ (by simp; omega)]⟩
      · cases h

theorem mapM_run {α β : Type} (g : α → Sem β) (r : α → β) (l : List α) (h : ∀ x ∈ l, (g x).run P w = .ok (r x) w) : (l.mapM g).run P w = .ok (l.map r) w := by
  induction l with
  | nil => rfl
  | cons x l ih =>
    simp only [List.mapM_cons, Sem.run_bind, h x (by simp), Result.andThen_ok, ih fun y hy => h y (by simp [hy]), Sem.run_pure, List.map_cons]

theorem build_sim {φ : Emb} {t : TypeId} {ps ps' : List (Nat × Value)} {v : Value} (hps : PRel φ ps ps') (h : ibuild (Env.of P) t ps = some v) :
    ∃ v', (Instr.build t ps'.toArray).run P w = .ok v' w ∧ VRel φ v v' := by
  unfold ibuild at h
  split at h
  · rename_i z place hz hpl
    split at h
    · rename_i cs hfill
      cases h
      obtain ⟨i, _, _, hcl, hnt, _⟩ := zero_spec hz
      obtain ⟨z1, z2, _⟩ := (zero_rel φ hz).cells hnt
      unfold iplace at hpl
      split at hpl
      · rename_i fs hu
        split at hpl
        · rename_i hall
          cases hpl
          have hrun : (fs.mapM fun f => do pure (f.offset, ← sizeOf f.type) : Sem (Array (Nat × Nat))).run P w = .ok ((fs.toList.map fun f => (f.offset, (szT (Env.of P) f.type).getD 0)).toArray) w := by
            rw [Array.mapM_eq_mapM_toList]
            simp only [Sem.run_map]
            rw [mapM_run (P := P) (w := w) _ (fun f : Field => (f.offset, (szT (Env.of P) f.type).getD 0)) fs.toList]
            · rfl
            · intro f hf
              have := List.all_eq_true.1 hall f hf
              obtain ⟨n, hn⟩ := Option.isSome_iff_exists.1 this
              simp [size_of hn, hn]
          obtain ⟨rs, r1, r2, r3, _⟩ := fill_sim (φ := φ) (place' := fun i => ((fs.toList.map fun f => (f.offset, (szT (Env.of P) f.type).getD 0)).toArray)[i]?) (by
            intro i x hx
            split at hx
            · rename_i f hf
              split at hx
              · rename_i n hn
                cases hx
                have : fs.toList[i]? = some f := by simpa using hf
                simp [this, hn]
              · cases hx
            · cases hx) ps ps' z.cells.toList cs z.cells hps z1 z2 hfill
          refine ⟨.agg rs, ?_, ?_⟩
          · simp only [Instr.build, Sem.run_bind, zero_of hz, Result.andThen_ok, und_of hu, hrun, r1, Sem.run_pure]
          · have := VRel.agg' r2 r3; simpa using this
        · cases hpl
      · rename_i n e hu
        split at hpl
        · rename_i k hk
          cases hpl
          obtain ⟨rs, r1, r2, r3, _⟩ := fill_sim (φ := φ) (place' := fun i => some (i * k, k)) (fun i x hx => hx) ps ps' z.cells.toList cs z.cells hps z1 z2 hfill
          refine ⟨.agg rs, ?_, ?_⟩
          · simp only [Instr.build, Sem.run_bind, zero_of hz, Result.andThen_ok, und_of hu, size_of hk, r1, Sem.run_pure]
          · have := VRel.agg' r2 r3; simpa using this
        · cases hpl
      · cases hpl
    · cases h
  · cases h

/- zeros in a row -/
theorem repeatL_length (z : List Value) (k : Nat) : (repeatL z k).length = k * z.length := by
  induction k with
  | zero => simp [repeatL]
  | succ k ih => simp [repeatL, ih, Nat.succ_mul]; omega
theorem repeatL_get (z : List Value) (k i : Nat) : (repeatL z k)[i]? = if i < k * z.length then z[i % z.length]? else none := by
  induction k generalizing i with
  | zero => simp [repeatL]
  | succ k ih =>
    simp only [repeatL]
    by_cases h : i < z.length
    · rw [List.getElem?_append_left h, if_pos (by rw [Nat.succ_mul]; omega), Nat.mod_eq_of_lt h]
    · rw [List.getElem?_append_right (by omega), ih]
      have e : i = (i - z.length) + z.length := by omega
      by_cases c : i - z.length < k * z.length
      · rw [if_pos c, if_pos (by rw [Nat.succ_mul]; omega)]
        conv => rhs; rw [e, Nat.add_mod_right]
      · rw [if_neg c, if_neg (by rw [Nat.succ_mul]; omega)]
theorem repeatL_mem {z : List Value} {k : Nat} {v : Value} (h : v ∈ repeatL z k) : v ∈ z := by
  induction k with
  | zero => simp [repeatL] at h
  | succ k ih => simp only [repeatL, List.mem_append] at h; exact h.elim id ih
theorem repeatL_rel {φ : Emb} {z z' : List Value} (h : LRel φ z z') (k : Nat) : LRel φ (repeatL z k) (repeatL z' k) := by
  induction k with
  | zero => exact .nil φ
  | succ k ih => exact h.append ih
theorem range_zeros (z : Array Value) (k : Nat) : ((Array.range (k * z.size)).map (fun i => z[i % z.size]!)) = (repeatL z.toList k).toArray := by
  apply Array.ext'
  apply List.ext_getElem?
  intro i
  simp only [Array.toList_map, Array.toList_range, List.getElem?_map]
  rw [repeatL_get]
  by_cases h : i < k * z.size
  · have hz : 0 < z.size := Nat.pos_of_ne_zero fun e => by rw [e] at h; simp at h
    have hm : i % z.size < z.size := Nat.mod_lt _ hz
    rw [List.getElem?_range h]
    simp [h, hm]
  · rw [List.getElem?_eq_none (by simpa using h)]
    simp [h]

theorem buildSlice_sim {φ : Emb} {h h' : IHeap} (hw : h.wf) (hr : HRel φ h w) (hf : φ h.next = none) {t : TypeId} {len : Nat} {ps ps' : List (Nat × Value)} {v : Value} (hps : PRel φ ps ps')
    (hb : ibuildSlice (Env.of P) t len ps h = some (v, h')) : ∃ φ' v' w', (Instr.buildSlice t len ps'.toArray).run P w = .ok v' w' ∧ VRel φ' v v' ∧ Step φ h w φ' h' w' := by
  unfold ibuildSlice at hb
  split at hb
  · rename_i e hu
    split at hb
    · rename_i n z hn hz
      split at hb
      · rename_i hle
        split at hb
        · rename_i cs hfill
          cases hb
          obtain ⟨i, _, _, hcl, hnt, _⟩ := zero_spec hz
          obtain ⟨z1, z2, _⟩ := (zero_rel φ hz).cells hnt
          have hzn : z.cells.size = n := by simpa using zero_size hz hn
          obtain ⟨rs, r1, r2, r3, r4⟩ := fill_sim (φ := φ) (place' := fun i => some (i * n, n)) (fun i x hx => hx) ps ps' (repeatL z.cells.toList len) cs (repeatL z.cells.toList len).toArray hps
            (by simpa using repeatL_rel z1 len) (fun u hu => z2 u (repeatL_mem hu)) hfill
          have hs := newCells0_step hw hr hf e r2 r3
          refine ⟨_, .slice (some ⟨w.heap.size, 0, none⟩) len len, _, ?_, .slice _ _ _ _ _ (Emb.add_self φ _ _), hs⟩
          have hbig : ¬ len * n > 2 ^ 24 := by omega
          by_cases h0 : len * n = 0
          · have hl0 : (repeatL z.cells.toList len) = [] := List.eq_nil_of_length_eq_zero (by rw [repeatL_length]; simpa [hzn] using h0)
            have e0 : ∀ f : Nat → Value, Array.map f (Array.range (len * n)) = (repeatL z.cells.toList len).toArray := by intro f; rw [h0, hl0]; simp
            simp only [Instr.buildSlice, Sem.run_bind, und_of hu, Result.andThen_ok, size_of hn, if_neg hbig, if_pos h0, Sem.run_pure, e0, r1, newRow, run_newObj]
          · have hrange : Array.map (fun i => z.cells[i % z.cells.size]!) (Array.range (len * n)) = (repeatL z.cells.toList len).toArray := by rw [← hzn]; exact range_zeros z.cells len
            simp only [Instr.buildSlice, Sem.run_bind, und_of hu, Result.andThen_ok, size_of hn, if_neg hbig, if_neg h0, zero_of hz, Sem.run_pure, hrange, r1, newRow, run_newObj]
        · cases hb
      · cases hb
    · cases hb
  · cases hb

theorem makeSlice_sim {φ : Emb} {h h' : IHeap} (hw : h.wf) (hr : HRel φ h w) (hf : φ h.next = none) {t : TypeId} {l l' c c' v : Value} (hl : VRel φ l l') (hc : VRel φ c c')
    (hb : imakeSlice (Env.of P) t l c h = some (v, h')) : ∃ φ' v' w', (Instr.makeSlice t l' c').run P w = .ok v' w' ∧ VRel φ' v v' ∧ Step φ h w φ' h' w' := by
  unfold imakeSlice at hb
  split at hb
  · rename_i e k1 li k2 ci hu
    cases hl; cases hc
    split at hb
    · rename_i n z i hn hz hi
      split at hb
      · rename_i hcnd
        obtain ⟨c1, c2, c3, c4⟩ := hcnd
        cases hb
        obtain ⟨i', hi', _, hcl, hnt, _⟩ := zero_spec hz
        obtain ⟨z1, z2, _⟩ := (zero_rel φ hz).cells hnt
        have hzn : z.cells.size = n := by simpa using zero_size hz hn
        have hs := newCells0_step hw hr hf (cs := repeatL z.cells.toList ci.toNat) e (repeatL_rel z1 ci.toNat) (fun u hu => z2 u (repeatL_mem hu))
        refine ⟨_, .slice (some ⟨w.heap.size, 0, none⟩) li.toNat ci.toNat, _, ?_, .slice _ _ _ _ _ (Emb.add_self φ _ _), hs⟩
        have hwrap : ∀ x : Int, 0 ≤ x → x ≤ 9223372036854775807 → IntKind.i64.wrap x = x := by
          intro x h0 h1
          have e1 : IntKind.i64.signed = true := rfl
          have e2 : IntKind.i64.bits = 64 := rfl
          simp only [IntKind.wrap, e1, e2]
          have : x % 2 ^ 64 = x := Int.emod_eq_of_lt h0 (by omega)
          rw [this]
          simp
          omega
        have t1 : (decide (ci < 0) || decide ((i.bytes : Int) * ci > 2 ^ 48)) = false := by simp; omega
        have t2 : (decide (li < 0) || decide (li > ci)) = false := by simp; omega
        by_cases h0 : ci.toNat * n = 0
        · have hl0 : (repeatL z.cells.toList ci.toNat) = [] := List.eq_nil_of_length_eq_zero (by rw [repeatL_length]; simpa [hzn] using h0)
          have e0 : ∀ f : Nat → Value, Array.map f (Array.range (ci.toNat * n)) = (repeatL z.cells.toList ci.toNat).toArray := by intro f; rw [h0, hl0]; simp
          simp only [Instr.makeSlice, Sem.run_bind, und_of hu, Result.andThen_ok, asInt, asIntOf, info_of hi, Sem.run_pure, hwrap _ (by omega : (0:Int) ≤ li) (by omega), hwrap _ (by omega : (0:Int) ≤ ci) (by omega)]
          rw [if_neg (by simp; omega)]
          simp only [Sem.run_bind, run_askRoom, Result.andThen_ok, size_of hn, if_pos h0, Sem.run_pure, e0, newRow, run_newObj]
        · have hrange : Array.map (fun i => z.cells[i % z.cells.size]!) (Array.range (ci.toNat * n)) = (repeatL z.cells.toList ci.toNat).toArray := by rw [← hzn]; exact range_zeros z.cells ci.toNat
          simp only [Instr.makeSlice, Sem.run_bind, und_of hu, Result.andThen_ok, asInt, asIntOf, info_of hi, Sem.run_pure, hwrap _ (by omega : (0:Int) ≤ li) (by omega), hwrap _ (by omega : (0:Int) ≤ ci) (by omega)]
          rw [if_neg (by simp; omega)]
          simp only [Sem.run_bind, run_askRoom, Result.andThen_ok, size_of hn, if_neg h0, zero_of hz, Sem.run_pure, hrange, newRow, run_newObj]
      · cases hb
    · cases hb
  · cases hb

end
end Go.Ideal

/- Operations of the ideal machine, one by one (sixth part): append, copy, clear. -/
namespace Go.Ideal
open Go

section
variable {P : Program} {w : World}

/- how many a slice or a string holds -/
def lenV : Value → Nat
  | .slice _ n _ => n
  | .string s => s.size
  | _ => 0

theorem ilen_sim {φ : Emb} {x x' : Value} {n : Nat} (hx : VRel φ x x') (h : ilen x = some n) : (∀ w1 : World, (Builtin.lenOf x').run P w1 = .ok n w1) ∧ lenV x = n := by
  unfold ilen at h
  split at h
  · rename_i a m c; cases h; cases hx <;> exact ⟨fun w1 => rfl, rfl⟩
  · rename_i s; cases h; cases hx; exact ⟨fun w1 => rfl, rfl⟩
  · cases h

/- the cells of a source -/
theorem source_sim {φ : Emb} {h : IHeap} (hr : HRel φ h w) {x x' : Value} {size n : Nat} {cs : List Value} (hx : VRel φ x x') (hn : n ≤ lenV x) (hs : isource h size n x = some cs) :
    ∃ rs : List Value, LRel φ cs rs ∧ (∀ v ∈ cs, oneB v = true) ∧ ∀ w1 : World, w1.heap = w.heap → (Builtin.firstCells size n x').run P w1 = .ok rs.toArray w1 := by
  unfold isource at hs
  split at hs
  · rename_i b off len cap
    unfold cellsAt at hs
    split at hs
    · rename_i row hrow
      split at hs
      · rename_i hle
        cases hs
        have main : ∀ p, φ b = some p → (∃ len' cap', x' = .slice (some ⟨p.r, p.base + off, none⟩) len' cap') → ∃ rs : List Value, LRel φ ((row.drop off).take (n * size)) rs ∧ (∀ v ∈ (row.drop off).take (n * size), oneB v = true) ∧
            ∀ w1 : World, w1.heap = w.heap → (Builtin.firstCells size n x').run P w1 = .ok rs.toArray w1 := by
          intro p hp ⟨len', cap', hx'⟩
          obtain ⟨vs, h1, h2, h3, h4, h5⟩ := hr.loads (P := P) hp hrow hle
          refine ⟨vs, h2, h3, fun w1 hw1 => ?_⟩
          subst hx'
          exact run_firstCells_some w1 size n _ _ _ vs h4 fun j v hv => by
            have := h5 j v hv
            simpa [World.cell?, hw1] using this
        cases hx with
        | slice _ _ _ _ p hp => exact main p hp ⟨_, _, rfl⟩
        | sliceGrow _ _ _ _ cap' p hp => exact main p hp ⟨_, _, rfl⟩
        | sliceEmpty _ _ a =>
          have h0 : n = 0 := by simpa [lenV] using hn
          subst h0
          refine ⟨[], by simpa using LRel.nil φ, by simp, fun w1 _ => ?_⟩
          exact run_firstCells_some w1 size 0 a 0 0 [] (by simp) (by simp)
      · cases hs
    · cases hs
  · rename_i len cap
    cases hs
    cases hx
    exact ⟨[], .nil φ, by simp, fun w1 _ => by simp [Builtin.firstCells]⟩
  · rename_i s
    cases hs
    cases hx
    refine ⟨(s.data.toList.take n).map fun b => .int .u8 b.toNat, .map _ _ _ fun x _ => .int _ _, fun v hv => by obtain ⟨b, _, rfl⟩ := List.mem_map.1 hv; rfl, fun w1 _ => ?_⟩
    simp only [Builtin.firstCells, Sem.run_pure]
    congr 1
    apply Array.ext'
    simp
  · cases hs

theorem zeroCells_toList (z : Array Value) (n : Nat) : Builtin.zeroCells z n = (repeatL z.toList n).toArray := range_zeros z n

/- what append adds: read from a source, or zeros -/
inductive Src (P : Program) (w : World) (e : TypeId) (bytes size : Nat) (xT : TypeId) (x' : Value) (n : Nat) (rs : List Value) : Prop
  | cells (d : TypeDesc) (hu : P.underlying xT = some d) (hd : ∀ k, d ≠ .int k) (hl : ∀ w1 : World, (Builtin.lenOf x').run P w1 = .ok n w1) (hf : ∀ w1 : World, w1.heap = w.heap → (Builtin.firstCells size n x').run P w1 = .ok rs.toArray w1)
  | zeros (k0 k : IntKind) (l : Int) (z : Value) (hu : P.underlying xT = some (.int k0)) (hx : x' = .int k l) (h0 : 0 ≤ l) (h1 : l ≤ 1000000) (h2 : bytes ≤ 1000000) (hn : n = l.toNat) (hz : zeroT (Env.of P) e = some z) (hs : z.cells.size = size) (hr : rs = repeatL z.cells.toList n)

theorem wrap_small (x : Int) (h0 : 0 ≤ x) (h1 : x ≤ 9223372036854775807) : IntKind.i64.wrap x = x := by
  have e1 : IntKind.i64.signed = true := rfl
  have e2 : IntKind.i64.bits = 64 := rfl
  simp only [IntKind.wrap, e1, e2]
  have : x % 2 ^ 64 = x := Int.emod_eq_of_lt h0 (by omega)
  rw [this]
  simp
  omega

theorem append_room {e size xT sT ty : TypeId} {i : TypeInfo} {base : Option Addr} {sLen sCap n : Nat} {x' : Value} {rs : List Value} {w' : World} (hu : P.underlying sT = some (.slice e)) (hi : P.info? e = some i) (hsz : i.size = size)
    (hsrc : Src P w e i.bytes size xT x' n rs) (hroom : sLen + n ≤ sCap) (hst : (match base with | some a => (storeCells (a.add (sLen * size)) rs).run P w = .ok () w' | none => w' = w)) :
    (Builtin.append_ #[sT, xT] ty #[.slice base sLen sCap, x']).run P w = .ok (.slice base (sLen + n) sCap) w' := by
  have hui : ∀ w1 : World, (underlying sT).run P w1 = .ok (.slice e) w1 := fun w1 => run_underlying hu w1
  have hsi : ∀ w1 : World, (sizeOf e).run P w1 = .ok size w1 := fun w1 => by simp [sizeOf, typeInfo, hi, hsz]
  have hti : ∀ w1 : World, (typeInfo e).run P w1 = .ok i w1 := fun w1 => by simp [typeInfo, hi]
  cases hsrc with
  | cells d hux hd hl hf =>
    have hxi : ∀ w1 : World, (underlying xT).run P w1 = .ok d w1 := fun w1 => run_underlying hux w1
    have hm : (match d with | .int _ => true | _ => false) = false := by cases d <;> first | rfl | (exact absurd rfl (hd _))
    cases base with
    | none =>
      simp only at hst; subst hst
      simp [Builtin.append_, hui, hsi, hxi, hl, hroom, hf _ rfl]
    | some a =>
      simp only at hst
      simp [Builtin.append_, hui, hsi, hxi, hl, hroom, hf _ rfl, hst]
  | zeros k0 k l z hux hx h0 h1 h2 hn hz hs hr =>
    have hxi : ∀ w1 : World, (underlying xT).run P w1 = .ok (.int k0) w1 := fun w1 => run_underlying hux w1
    subst hx
    have hw := wrap_small l h0 (by omega)
    have hb : ¬ (281474976710656 < l * (i.bytes : Int)) := by
      have : l * (i.bytes : Int) ≤ 1000000 * 1000000 := Int.mul_le_mul h1 (by omega) (by omega) (by omega)
      omega
    have hneg : ¬ l < 0 := by omega
    have hzz : (zeroValue e).run P w = .ok z w := zero_of hz
    have happ : (if n * size = 0 then (Result.ok #[] w) else Result.ok (Builtin.zeroCells z.cells n) w) = Result.ok rs.toArray w := by
      split
      · rename_i h00
        have : rs = [] := List.eq_nil_of_length_eq_zero (by rw [hr, repeatL_length]; simpa [hs] using h00)
        rw [this]
      · rw [zeroCells_toList, hr]
    have hnn : l.toNat = n := hn.symm
    cases base with
    | none =>
      simp only at hst; subst hst
      by_cases h00 : n * size = 0
      · simp only [if_pos h00] at happ
        simp [Builtin.append_, hui, hsi, hxi, asInt, asIntOf, hw, hneg, hti, hb, hnn, hroom, h00]
      · simp [Builtin.append_, hui, hsi, hxi, asInt, asIntOf, hw, hneg, hti, hb, hnn, hroom, h00, hzz]
    | some a =>
      simp only at hst
      by_cases h00 : n * size = 0
      · have : rs = [] := List.eq_nil_of_length_eq_zero (by rw [hr, repeatL_length]; simpa [hs] using h00)
        subst this
        simp [Builtin.append_, hui, hsi, hxi, asInt, asIntOf, hw, hneg, hti, hb, hnn, hroom, h00, hst]
      · simp [Builtin.append_, hui, hsi, hxi, asInt, asIntOf, hw, hneg, hti, hb, hnn, hroom, h00, hzz, zeroCells_toList, ← hr, hst]

theorem append_grow {e size xT sT ty : TypeId} {i : TypeInfo} {base : Option Addr} {sLen sCap n : Nat} {x' z : Value} {rs old : List Value} (hu : P.underlying sT = some (.slice e)) (hi : P.info? e = some i) (hsz : i.size = size)
    (hsrc : Src P w e i.bytes size xT x' n rs) (hroom : ¬ sLen + n ≤ sCap) (hb0 : i.bytes ≠ 0) (hb : (sLen + n) * i.bytes ≤ roomMost) (hz : zeroT (Env.of P) e = some z)
    (hold : ∀ w1 : World, w1.heap = w.heap → (Builtin.firstCells size sLen (.slice base sLen sCap)).run P w1 = .ok old.toArray w1) :
    ∃ (newCap : Nat) (w' : World), sLen + n ≤ newCap ∧ w'.heap = w.heap.push (.cells (old ++ rs ++ repeatL z.cells.toList (newCap - (sLen + n))).toArray e) ∧ (w'.os = w.os ∧ w'.output = w.output) ∧
      (Builtin.append_ #[sT, xT] ty #[.slice base sLen sCap, x']).run P w = .ok (.slice (some ⟨w.heap.size, 0, none⟩) (sLen + n) newCap) w' := by
  have hui : ∀ w1 : World, (underlying sT).run P w1 = .ok (.slice e) w1 := fun w1 => run_underlying hu w1
  have hsi : ∀ w1 : World, (sizeOf e).run P w1 = .ok size w1 := fun w1 => by simp [sizeOf, typeInfo, hi, hsz]
  have hti : ∀ w1 : World, (typeInfo e).run P w1 = .ok i w1 := fun w1 => by simp [typeInfo, hi]
  have hzz : ∀ w1 : World, (zeroValue e).run P w1 = .ok z w1 := fun w1 => zero_of hz
  have hgrow : ¬ Builtin.nextslicecap (sLen + n) sCap * i.bytes > 2 ^ 48 := by
    have := growslice_fits (need := sLen + n) (old := sCap) (bytes := i.bytes) (by omega) (by unfold roomMost at hb; omega)
    omega
  have hneed : sLen + n ≤ 35184372088832 := by
    unfold roomMost at hb
    have : (sLen + n) * 1 ≤ (sLen + n) * i.bytes := Nat.mul_le_mul_left _ (by omega)
    omega
  have hmax : ¬ (((sLen + n : Nat) : Int) > IntKind.i64.max) := by
    have : IntKind.i64.max = 9223372036854775807 := by decide
    rw [this]; omega
  let w1 : World := { w with drawn := w.drawn + 1 }
  let cap := (Question.appendCap (sLen + n) sCap e).cut (w.tape w.drawn (.appendCap (sLen + n) sCap e))
  have hcap : sLen + n ≤ cap := by simp only [cap, Question.cut]; omega
  have hch : (choose (.appendCap (sLen + n) sCap e)).run P w = .ok cap w1 := by simp [Question.forced, cap, w1]
  have hw1 : w1.heap = w.heap := rfl
  refine ⟨cap, { w1 with heap := w1.heap.push (.cells (old ++ rs ++ repeatL z.cells.toList (cap - (sLen + n))).toArray e) }, hcap, rfl, ⟨rfl, rfl⟩, ?_⟩
  have hmax' : ¬ ((sLen : Int) + (n : Int) > IntKind.i64.max) := by simpa using hmax
  cases hsrc with
  | cells d hux hd hl hf =>
    have hxi : ∀ w1 : World, (underlying xT).run P w1 = .ok d w1 := fun w1 => run_underlying hux w1
    have hm : (match d with | .int _ => true | _ => false) = false := by cases d <;> first | rfl | (exact absurd rfl (hd _))
    simp [Builtin.append_, hui, hsi, hxi, hl, hroom, hti, hgrow, hb0, hch, hold w1 hw1, hf w1 hw1, hzz, newRow, zeroCells_toList, -run_choose]
    rfl
  | zeros k0 k l z' hux hx h0 h1 h2 hn hz' hs hr =>
    have hxi : ∀ w1 : World, (underlying xT).run P w1 = .ok (.int k0) w1 := fun w1 => run_underlying hux w1
    rw [hz] at hz'; cases hz'
    subst hx
    have hw := wrap_small l h0 (by omega)
    have hbb : ¬ (281474976710656 < l * (i.bytes : Int)) := by
      have : l * (i.bytes : Int) ≤ 1000000 * 1000000 := Int.mul_le_mul h1 (by omega) (by omega) (by omega)
      omega
    have hneg : ¬ l < 0 := by omega
    have hnn : l.toNat = n := hn.symm
    by_cases h00 : n * size = 0
    · have : rs = [] := List.eq_nil_of_length_eq_zero (by rw [hr, repeatL_length]; simpa [hs] using h00)
      subst this
      simp [Builtin.append_, hui, hsi, hxi, asInt, asIntOf, hw, hneg, hti, hbb, hnn, hroom, hgrow, hch, hold w1 hw1, h00, hzz, newRow, zeroCells_toList, -run_choose]
      rw [if_neg (by omega)]
    · simp [Builtin.append_, hui, hsi, hxi, asInt, asIntOf, hw, hneg, hti, hbb, hnn, hroom, hgrow, hch, hold w1 hw1, h00, hzz, newRow, zeroCells_toList, ← hr, -run_choose]
      rw [if_neg (by omega)]

/- the ideal machine's append -/
theorem appendTo_sim {φ : Emb} {h h' : IHeap} (hw : h.wf) (hr : HRel φ h w) (hroom : Room φ h h') {e size xT sT ty : TypeId} {i : TypeInfo} {base : Option Addr} {sLen sCap n : Nat} {s' x' v : Value} {new rs : List Value}
    (hu : P.underlying sT = some (.slice e)) (hi : P.info? e = some i) (hsz : i.size = size) (hx : VRel φ (.slice base sLen sCap) s') (hsrc : Src P w e i.bytes size xT x' n rs) (hrel : LRel φ new rs)
    (hone : ∀ u ∈ new, oneB u = true) (hlen : new.length = n * size) (ha : iappendTo (Env.of P) e size i.bytes base sLen sCap n new h = some (v, h')) :
    ∃ φ' v' w', (Builtin.append_ #[sT, xT] ty #[s', x']).run P w = .ok v' w' ∧ VRel φ' v v' ∧ Step φ h w φ' h' w' := by
  unfold iappendTo at ha
  simp only at ha
  have hlr : rs.length = n * size := by rw [← hrel.1]; exact hlen
  split at ha
  · -- there is room
    rename_i hfit
    split at ha
    · rename_i b off
      split at ha
      · rename_i h0
        cases ha
        have hnil : rs = [] := List.eq_nil_of_length_eq_zero (by omega)
        subst hnil
        have st : ∀ a : Addr, (match some a with | some a => (storeCells (a.add (sLen * size)) []).run P w = .ok () w | none => w = w) := fun a => rfl
        cases hx with
        | slice _ _ _ _ p hp => exact ⟨φ, _, w, append_room hu hi hsz hsrc hfit (st _), .slice _ _ _ _ p hp, .refl hw hr⟩
        | sliceGrow _ _ _ _ cap' p hp k1 k2 k3 k4 => exact ⟨φ, _, w, append_room hu hi hsz hsrc (by omega) (st _), .sliceGrow _ _ _ _ _ p hp k1 k2 k3 k4, .refl hw hr⟩
        | sliceEmpty _ _ a =>
          have hn0 : n = 0 := by omega
          subst hn0
          exact ⟨φ, _, w, append_room hu hi hsz hsrc hfit (st _), .sliceEmpty _ _ _, .refl hw hr⟩
      · rename_i h0
        split at ha
        · rename_i h2 hst
          cases ha
          cases hx with
          | slice _ _ _ _ p hp =>
            obtain ⟨w', e1, e2⟩ := storeAt_sim (P := P) hw hr hp hst hrel hone
            refine ⟨φ, _, w', append_room hu hi hsz hsrc hfit ?_, .slice _ _ _ _ p hp, e2⟩
            simp only [add_eq]; rw [Nat.add_assoc]; exact e1
          | sliceGrow _ _ _ _ cap' p hp k1 k2 k3 k4 =>
            obtain ⟨w', e1, e2⟩ := storeAt_sim (P := P) hw hr hp hst hrel hone
            refine ⟨φ, _, w', append_room hu hi hsz hsrc (by omega) ?_, .sliceGrow _ _ _ _ _ p hp k1 k2 k3 k4, e2⟩
            simp only [add_eq]; rw [Nat.add_assoc]; exact e1
          | sliceEmpty _ _ a =>
            exfalso
            have hn0 : n = 0 := by omega
            subst hn0
            simp at h0
        · cases ha
    · split at ha
      · rename_i h0
        obtain ⟨rfl, rfl, rfl⟩ := h0
        cases ha
        cases hx
        exact ⟨φ, _, w, append_room hu hi hsz hsrc hfit rfl, .sliceNil, .refl hw hr⟩
      · cases ha
    · cases ha
  · rename_i hfit
    split at ha
    · cases ha
    · rename_i hcnd
      have hb0 : i.bytes ≠ 0 := fun e => hcnd (.inl e)
      have hbm : (sLen + n) * i.bytes ≤ roomMost := Nat.le_of_not_lt fun e => hcnd (.inr (.inl e))
      have hs0 : 0 < size := Nat.pos_of_ne_zero fun e => hcnd (.inr (.inr e))
      split at ha
      · cases ha
      · rename_i z hz
        obtain ⟨i', hi', _, _, _, hzl⟩ := zero_spec hz
        have hzs : z.cells.toList.length = size := by rw [hi] at hi'; cases hi'; omega
        -- a new block in both
        have fresh : ∀ (all old : List Value), LRel φ all (old ++ rs) → (∀ u ∈ all, oneB u = true) → all.length = (sLen + n) * size → φ h.next = none → ∀ (base' : Option Addr) (cap' : Nat), ¬ sLen + n ≤ cap' →
            (∀ w1 : World, w1.heap = w.heap → (Builtin.firstCells size sLen (.slice base' sLen cap')).run P w1 = .ok old.toArray w1) →
            ∃ φ' v' w', (Builtin.append_ #[sT, xT] ty #[.slice base' sLen cap', x']).run P w = .ok v' w' ∧ VRel φ' (.slice (some ⟨h.next, 0, none⟩) (sLen + n) (sLen + n)) v' ∧ Step φ h w φ' (h.new (.cells all size)) w' := by
          intro all old hall hones hal hf base' cap' hno hold
          obtain ⟨newCap, w', g1, g2, g4, g3⟩ := append_grow (ty := ty) hu hi hsz hsrc hno hb0 hbm hz hold
          have hs := newCells_step hw hr hf (repeatL z.cells.toList (newCap - (sLen + n))) e size g2 hall hones (fun u hu => zero_cell hz (repeatL_mem hu)) g4
          refine ⟨_, _, w', g3, ?_, hs⟩
          have hl : (old ++ rs ++ repeatL z.cells.toList (newCap - (sLen + n))).length = newCap * size := by
            rw [List.length_append, ← hall.1, hal, repeatL_length, hzs, ← Nat.add_mul]
            congr 1; omega
          exact .sliceGrow h.next 0 (sLen + n) (sLen + n) newCap _ (Emb.add_self φ _ _) hs0 g1 (by simp only [hal]; omega) (by simp only [hl]; omega)
        have hadd : ∀ a : Nat, a * size + n * size = (a + n) * size := fun a => (Nat.add_mul _ _ _).symm
        split at ha
        · -- nil
          cases ha
          cases hx
          have hf := hroom h.next (Nat.le_refl _) (Nat.lt_succ_self _)
          obtain ⟨φ', v', w', r1, r2, r3⟩ := fresh new [] (by simpa using hrel) hone (by rw [hlen]; simp) hf none 0 hfit (fun w1 _ => by simp [Builtin.firstCells])
          exact ⟨φ', v', w', r1, r2, r3⟩
        · rename_i b off
          split at ha
          · -- cells that are read alone
            rename_i cs hg
            split at ha
            · rename_i hle
              cases ha
              have hf := hroom h.next (Nat.le_refl _) (Nat.lt_succ_self _)
              have hrow : h.row b = some cs := by unfold IHeap.row; rw [hg]; rfl
              have hsl := source_sim (P := P) hr (size := size) (n := sLen) (cs := (cs.drop off).take (sLen * size)) hx (Nat.le_refl _) (by simp [isource, cellsAt, hrow, hle])
              obtain ⟨old, o1, o2, o3⟩ := hsl
              have hal : ((cs.drop off).take (sLen * size) ++ new).length = (sLen + n) * size := by simp [hlen]; rw [← hadd]; omega
              have hones : ∀ u ∈ (cs.drop off).take (sLen * size) ++ new, oneB u = true := fun u hu => (List.mem_append.1 hu).elim (o2 u) (hone u)
              cases hx with
              | slice _ _ _ _ p hp => exact fresh _ old (o1.append hrel) hones hal hf _ _ hfit o3
              | sliceGrow _ _ _ _ cap' p hp k1 => have := (hr.obj _ p _ hp hg).1; omega
              | sliceEmpty _ _ a => exact fresh _ old (o1.append hrel) hones hal hf _ _ hfit o3
            · cases ha
          · rename_i cs esz hg
            split at ha
            · rename_i hle
              have hlt := hw.lt hg
              have hf : φ h.next = none := by
                refine hroom h.next (Nat.le_refl _) ?_
                split at ha
                · cases ha; exact Nat.lt_succ_self _
                · split at ha
                  · split at ha
                    · cases ha; exact Nat.lt_succ_self _
                    · cases ha; exact Nat.lt_succ_self _
                  · cases ha
              have hrow : h.row b = some cs := by unfold IHeap.row; rw [hg]; rfl
              have hsl := source_sim (P := P) hr (size := size) (n := sLen) (cs := (cs.drop off).take (sLen * size)) hx (Nat.le_refl _) (by simp [isource, cellsAt, hrow, hle])
              obtain ⟨old, o1, o2, o3⟩ := hsl
              have hal : ((cs.drop off).take (sLen * size) ++ new).length = (sLen + n) * size := by simp [hlen]; rw [← hadd]; omega
              have hones : ∀ u ∈ (cs.drop off).take (sLen * size) ++ new, oneB u = true := fun u hu => (List.mem_append.1 hu).elim (o2 u) (hone u)
              -- the machine makes a new block
              have made : ∀ cap', s' = .slice (match s' with | .slice a _ _ => a | _ => none) sLen cap' → ¬ sLen + n ≤ cap' →
                  ∃ φ' v' w', (Builtin.append_ #[sT, xT] ty #[s', x']).run P w = .ok v' w' ∧ VRel φ' (.slice (some ⟨h.next, 0, none⟩) (sLen + n) (sLen + n)) v' ∧ Step φ h w φ' (h.new (.cells ((cs.drop off).take (sLen * size) ++ new) size)) w' := by
                intro cap' hs' hno
                rw [hs'] at o3 ⊢
                exact fresh _ old (o1.append hrel) hones hal hf _ _ hno o3
              -- .. and buries the old one
              have bury : (∃ φ' v' w', (Builtin.append_ #[sT, xT] ty #[s', x']).run P w = .ok v' w' ∧ VRel φ' (.slice (some ⟨h.next, 0, none⟩) (sLen + n) (sLen + n)) v' ∧ Step φ h w φ' (h.new (.cells ((cs.drop off).take (sLen * size) ++ new) size)) w') →
                  ∃ φ' v' w', (Builtin.append_ #[sT, xT] ty #[s', x']).run P w = .ok v' w' ∧ VRel φ' (.slice (some ⟨h.next, 0, none⟩) (sLen + n) (sLen + n)) v' ∧ Step φ h w φ' ((h.new (.cells ((cs.drop off).take (sLen * size) ++ new) size)).put b none) w' := by
                rintro ⟨φ', v', w', r1, r2, r3⟩
                refine ⟨φ', v', w', r1, r2, r3.trans (Step.bury r3.wf r3.rel (b := b) (o := .cells cs esz) ?_) ?_⟩
                · rw [IHeap.get_new, if_neg (by omega)]; exact hg
                · intro x hx1 hx2
                  have : x = h.next := by simp only [IHeap.next_new] at hx2; omega
                  rw [this]; exact hf
              split at ha
              · rename_i he0
                cases ha
                cases hx with
                | slice _ _ _ _ p hp => exact made sCap rfl hfit
                | sliceGrow _ _ _ _ cap' p hp k1 => obtain ⟨_, _, _, _, _, k5, _⟩ := hr.obj _ p _ hp hg; omega
                | sliceEmpty _ _ a => exact made 0 rfl hfit
              · rename_i he0
                split at ha
                · rename_i hes
                  split at ha
                  · rename_i hend
                    cases ha
                    cases hx with
                    | slice _ _ _ _ p hp => exact bury (made sCap rfl hfit)
                    | sliceEmpty _ _ a => exact bury (made 0 rfl hfit)
                    | sliceGrow _ _ _ _ cap' p hp k1 k2 k3 k4 =>
                      by_cases hno : sLen + n ≤ cap'
                      · -- in the machine there is room
                        obtain ⟨rcs, el, q1, q2, q3, q4, q5, q6, q7, q8⟩ := hr.obj _ p _ hp hg
                        have hpe : p.esz = size := by omega
                        rw [hpe] at k3 k4
                        have hmul : (sLen + n) * size ≤ cap' * size := Nat.mul_le_mul_right _ hno
                        rw [Nat.add_mul] at hmul
                        have hones' : ∀ u ∈ rs, u.oneCell' = true := by
                          intro u hu'
                          obtain ⟨j, hj⟩ := List.getElem?_of_mem hu'
                          have hj' : j < new.length := by have := (List.getElem?_eq_some_iff.1 hj).1; rw [hrel.1]; exact this
                          rw [oneB_eq, (hrel.2 j new[j] u (List.getElem?_eq_getElem hj') hj).one]
                          exact hone _ (List.getElem_mem hj')
                        have hst := run_storeCells_atF P p.r (p.base + off + sLen * size) el (0, 0) rs 0 rcs w q1 (by simp) (by omega) hones'
                        simp only [Nat.add_zero] at hst
                        refine ⟨φ.add h.next ⟨p.r, p.base + off, ((cs.drop off).take (sLen * size) ++ new).length, p.rsize, size⟩, _, _, append_room hu hi hsz hsrc hno (w' := _) (by simp only [add_eq]; exact hst), ?_, ?_⟩
                        · exact .sliceGrow h.next 0 (sLen + n) (sLen + n) cap' _ (Emb.add_self φ _ _) hs0 hno (by simp only [hal]; omega) (by simp only; omega)
                        · refine Step.grow hw hr hf hp hg rfl (.cells ((cs.drop off).take (sLen * size) ++ new) size) _ rfl (by simp) (fun k hk => setRow_other w p.r k _ hk) ?_
                          refine ⟨_, el, setRow_heap w p.r rcs _ el (0, 0) q1, by simp; omega, rfl, rfl, by simp only [hal, Nat.add_mul]; omega, ?_, hones, ?_⟩
                          rotate_left
                          · intro u hu
                            simp only [hal] at hu
                            refine q8 u ?_
                            have hlt : (rcs.toList.take (p.base + off + sLen * size) ++ rs).length ≤ p.base + off + (sLen + n) * size := by simp [hlr]; rw [Nat.add_mul]; omega
                            rw [List.drop_append, List.drop_of_length_le hlt, List.nil_append, List.drop_drop] at hu
                            refine List.mem_of_mem_drop (i := p.base + off + (sLen + n) * size - (p.base + p.isize)) ?_
                            rw [List.drop_drop]
                            have hl1 : (rcs.toList.take (p.base + off + sLen * size) ++ rs).length = p.base + off + sLen * size + rs.length := by simp; omega
                            have hk : p.base + p.isize + (p.base + off + (sLen + n) * size - (p.base + p.isize)) = p.base + off + sLen * size + rs.length + (p.base + off + (sLen + n) * size - (rcs.toList.take (p.base + off + sLen * size) ++ rs).length) := by
                              have hge : sCap * size ≤ (sLen + n) * size := Nat.mul_le_mul_right _ (by omega)
                              rw [Nat.add_mul] at hge
                              rw [hl1, hlr, Nat.add_mul]
                              omega
                            rw [hk]
                            exact hu
                          simp only [hal]
                          have hR : rcs.toList.length = p.rsize := by simpa using q2
                          have e1 : ((rcs.toList.take (p.base + off + sLen * size) ++ rs ++ rcs.toList.drop (p.base + off + sLen * size + rs.length)).drop (p.base + off)).take ((sLen + n) * size) =
                              ((rcs.toList.drop (p.base + off)).take (sLen * size)) ++ rs := by
                            have := window_splice rcs.toList rs (p.base + off) (sLen * size) ((sLen + n) * size) (by rw [hlr, Nat.add_mul]; omega) (by rw [hR, Nat.add_mul]; omega)
                            rw [this]
                            unfold splice
                            have hd : ((rcs.toList.drop (p.base + off)).take ((sLen + n) * size)).drop (sLen * size + rs.length) = [] := by
                              apply List.eq_nil_of_length_eq_zero
                              simp [hlr]; rw [Nat.add_mul]; omega
                            rw [hd, List.append_nil, List.take_take]
                            congr 2
                            rw [Nat.add_mul]; omega
                          rw [e1]
                          refine (LRel.append ?_ hrel).mono fun _ _ h => h.ext (Emb.add_le hf _)
                          have q6' := (q6.drop off).take (sLen * size)
                          have e2 : (((rcs.toList.drop p.base).take p.isize).drop off).take (sLen * size) = (rcs.toList.drop (p.base + off)).take (sLen * size) := by
                            rw [List.drop_take, List.take_take, List.drop_drop]
                            congr 1
                            omega
                          rw [e2] at q6'
                          exact q6'
                      · exact bury (made cap' rfl hno)
                  · rename_i hend
                    cases ha
                    cases hx with
                    | slice _ _ _ _ p hp => exact made sCap rfl hfit
                    | sliceEmpty _ _ a => exact made 0 rfl hfit
                    | sliceGrow _ _ _ _ cap' p hp k1 k2 k3 k4 =>
                      obtain ⟨_, _, _, _, k6, k5, _⟩ := hr.obj _ p _ hp hg
                      exact absurd (by rw [k6, ← k3, ← k5, hes]) hend
                · cases ha
            · cases ha
          · cases ha
        · cases ha

theorem append_sim {φ : Emb} {h h' : IHeap} (hw : h.wf) (hr : HRel φ h w) (hroom : Room φ h h') {ts : List TypeId} {l l' : List Value} {v : Value} (ty : TypeId) (hl : LRel φ l l') (ha : iappend (Env.of P) ts l h = some (v, h')) :
    ∃ φ' v' w', (Builtin.append_ ts.toArray ty l'.toArray).run P w = .ok v' w' ∧ VRel φ' v v' ∧ Step φ h w φ' h' w' := by
  unfold iappend at ha
  split at ha
  · rename_i sT xT base sLen sCap x
    obtain ⟨s', l1, rfl, hs, hl1⟩ := hl.cons_left
    obtain ⟨x', l2, rfl, hx, hl2⟩ := hl1.cons_left
    rw [hl2.nil_left]
    split at ha
    · rename_i e xD hu hux
      split at ha
      · rename_i size i hsz hi
        have hsz' : i.size = size := by
          have := info_size hsz
          have hi' : P.info? e = some i := hi
          rw [hi'] at this; simpa using this
        split at ha
        · rename_i k0 k n
          split at ha
          · rename_i z hz
            split at ha
            · rename_i hc
              cases hx
              have hzs := zero_size hz hsz
              obtain ⟨_, _, _, hcl, hnt, _⟩ := zero_spec hz
              obtain ⟨z1, z2, _⟩ := (zero_rel φ hz).cells hnt
              exact appendTo_sim hw hr hroom hu hi hsz' hs (.zeros k0 k n z hux rfl hc.1 hc.2.1 hc.2.2 rfl hz (by simpa using hzs) rfl) (repeatL_rel z1 n.toNat) (fun u hu => z2 u (repeatL_mem hu))
                (by rw [repeatL_length, hzs]) ha
            · cases ha
          · cases ha
        · cases ha
        · rename_i x0 hni1 hni2
          split at ha
          · rename_i n hln
            split at ha
            · rename_i new hsrc
              split at ha
              · rename_i hlen
                obtain ⟨a1, a2⟩ := ilen_sim (P := P) hx hln
                obtain ⟨rs, b1, b2, b3⟩ := source_sim (P := P) hr hx (by omega) hsrc
                refine appendTo_sim hw hr hroom hu hi hsz' hs (.cells xD hux ?_ a1 b3) b1 b2 hlen ha
                intro k e
                subst e
                exact hni1 k rfl
              · cases ha
            · cases ha
          · cases ha
      · cases ha
    · cases ha
  · cases ha

theorem copy_sim {φ : Emb} {h h' : IHeap} (hw : h.wf) (hr : HRel φ h w) {ts : List TypeId} {l l' : List Value} {v : Value} (ty : TypeId) (hl : LRel φ l l') (ha : icopy (Env.of P) ts l h = some (v, h')) :
    ∃ v' w', (Builtin.copy_ ts.toArray ty l'.toArray).run P w = .ok v' w' ∧ VRel φ v v' ∧ Step φ h w φ h' w' := by
  unfold icopy at ha
  split at ha
  · rename_i dT ts0 base dLen dCap src
    obtain ⟨s', l1, rfl, hs, hl1⟩ := hl.cons_left
    obtain ⟨x', l2, rfl, hx, hl2⟩ := hl1.cons_left
    rw [hl2.nil_left]
    split at ha
    · rename_i e hu
      split at ha
      · rename_i size m hsz hln
        simp only at ha
        split at ha
        · rename_i cs hsrc
          obtain ⟨a1, a2⟩ := ilen_sim (P := P) hx hln
          obtain ⟨rs, b1, b2, b3⟩ := source_sim (P := P) hr hx (by rw [a2]; exact Nat.min_le_left _ _) hsrc
          have hmin : Nat.min m dLen = min m dLen := rfl
          split at ha
          · split at ha
            · rename_i h0
              cases ha
              cases hs
              refine ⟨_, w, ?_, .int _ _, .refl hw hr⟩
              have := b3 w rfl
              simp only [Nat.min_zero] at this ⊢
              simp [Builtin.copy_, und_of hu, a1, size_of hsz, this, goInt]
            · cases ha
          · rename_i b off
            split at ha
            · rename_i h0
              cases ha
              have hnil : rs = [] := List.eq_nil_of_length_eq_zero (by rw [← b1.1]; exact h0)
              subst hnil
              have := b3 w rfl
              cases hs with
              | slice => exact ⟨_, w, by simp [Builtin.copy_, und_of hu, a1, size_of hsz, this, goInt, hmin, storeCells], .int _ _, .refl hw hr⟩
              | sliceGrow => exact ⟨_, w, by simp [Builtin.copy_, und_of hu, a1, size_of hsz, this, goInt, hmin, storeCells], .int _ _, .refl hw hr⟩
              | sliceEmpty =>
                simp only [Nat.min_zero] at this
                exact ⟨_, w, by simp [Builtin.copy_, und_of hu, a1, size_of hsz, this, goInt, storeCells], .int _ _, .refl hw hr⟩
            · rename_i hne
              split at ha
              · rename_i hcl
                split at ha
                · rename_i h2 hst
                  cases ha
                  have := b3 w rfl
                  cases hs with
                  | slice _ _ _ _ p hp =>
                    obtain ⟨w', e1, e2⟩ := storeAt_sim (P := P) hw hr hp hst b1 b2
                    exact ⟨_, w', by simp [Builtin.copy_, und_of hu, a1, size_of hsz, this, goInt, hmin, e1], .int _ _, e2⟩
                  | sliceGrow _ _ _ _ cap' p hp =>
                    obtain ⟨w', e1, e2⟩ := storeAt_sim (P := P) hw hr hp hst b1 b2
                    exact ⟨_, w', by simp [Builtin.copy_, und_of hu, a1, size_of hsz, this, goInt, hmin, e1], .int _ _, e2⟩
                  | sliceEmpty => exact absurd (by simpa using hcl) hne
                · cases ha
              · cases ha
          · cases ha
        · cases ha
      · cases ha
    · cases ha
  · cases ha

end
end Go.Ideal
