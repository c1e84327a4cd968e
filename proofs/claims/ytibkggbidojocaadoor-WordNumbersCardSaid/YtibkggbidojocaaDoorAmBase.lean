/- The abstract machine: values with abstract block numbers, frame-local blocks, and what each operation makes of them. -/
import Derived.Orders
import Derived.LoopN
namespace Go.Am
set_option linter.unusedSimpArgs false
set_option linter.unusedVariables false
set_option linter.unusedSectionVars false

inductive V where
  | bool (b : Bool)
  | int (k : IntKind) (n : Int)
  | str (s : ByteArray)
  | ptr (p : Option (Nat × Nat))
  | slice (p : Option (Nat × Nat)) (len cap : Nat)
  | map (r : Option Nat)
  | func (f : FuncId) (captured : List V)
  | nilFunc
  | iface (t : TypeId) (v : V)
  | nilIface
  | agg (cs : List V)
  | tuple (vs : List V)
  | hole
  deriving Inhabited

namespace V
def none : V := .tuple []
def getBool : V → Bool | .bool b => b | _ => false
def getInt : V → Int | .int _ n => n | _ => 0
def getStr : V → ByteArray | .str s => s | _ => ByteArray.empty
def getPtr : V → Option (Nat × Nat) | .ptr p => p | _ => Option.none
def slPtr : V → Option (Nat × Nat) | .slice p _ _ => p | _ => Option.none
def slLen : V → Nat | .slice _ n _ => n | _ => 0
def slCap : V → Nat | .slice _ _ c => c | _ => 0
def getMap : V → Option Nat | .map r => r | _ => Option.none
def aggCells : V → List V | .agg cs => cs | _ => []
def vals : V → List V | .tuple vs => vs | _ => []
def cells : V → List V | .agg cs => cs | v => [v]
def fnId : V → FuncId | .func f _ => f | _ => 0
def fnCap : V → List V | .func _ c => c | _ => []
def isFn : V → Bool | .func .. => true | _ => false
def isAgg : V → Bool | .agg _ => true | _ => false
def isTuple (n : Nat) : V → Bool | .tuple vs => vs.length == n | _ => false
def isNilFunc : V → Bool | .nilFunc => true | _ => false
def isNilIface : V → Bool | .nilIface => true | _ => false
def ifType : V → TypeId | .iface t _ => t | _ => 0
def ifVal : V → V | .iface _ v => v | v => v
/-- A value of one cell. -/
def one : V → Bool | .agg _ | .tuple _ | .hole => false | _ => true
end V

def ikNum : IntKind → Nat
  | .i8 => 0 | .i16 => 1 | .i32 => 2 | .i64 => 3 | .u8 => 4 | .u16 => 5 | .u32 => 6 | .u64 => 7

def ikBeq (a b : IntKind) : Bool := Nat.beq (ikNum a) (ikNum b)

@[simp] theorem ikBeq_eq (a b : IntKind) : ikBeq a b = decide (a = b) := by cases a <;> cases b <;> decide

/-- Is it what is wanted? -/
def beqB : Bool → Bool → Bool
  | true, b => b
  | false, b => !b

theorem beqB_eq (w b : Bool) : beqB w b = (b == w) := by cases w <;> cases b <;> rfl

inductive Kind where
  | bool | int (k : IntKind) | str | ptr | slice | map | func | iface | other
  deriving DecidableEq, Inhabited

def V.kind : V → Kind
  | .bool _ => .bool | .int k _ => .int k | .str _ => .str | .ptr _ => .ptr | .slice .. => .slice | .map _ => .map
  | .func .. | .nilFunc => .func | .iface .. | .nilIface => .iface | _ => .other

def V.isK : Kind → V → Bool
  | .bool, .bool _ => true
  | .int k, .int k' _ => ikBeq k k'
  | .str, .str _ => true
  | .ptr, .ptr _ => true
  | .slice, .slice .. => true
  | .map, .map _ => true
  | .func, .func .. => true
  | .func, .nilFunc => true
  | .iface, .iface .. => true
  | .iface, .nilIface => true
  | _, _ => false

/-- The value with its head laid open, if it is of the kind. -/
def V.asK : Kind → V → V
  | .bool, v => .bool v.getBool
  | .int k, v => .int k v.getInt
  | .str, v => .str v.getStr
  | .ptr, v => .ptr v.getPtr
  | .slice, v => .slice v.slPtr v.slLen v.slCap
  | .map, v => .map v.getMap
  | _, v => v

theorem V.asK_eq {k : Kind} {v : V} (h : v.isK k = true) : v.asK k = v := by
  cases k <;> cases v <;> simp_all [V.isK, V.asK, getBool, getInt, getStr, getPtr, slPtr, slLen, slCap, getMap]

theorem V.one_of_isK {k : Kind} {v : V} (h : v.isK k = true) : v.one = true := by
  cases k <;> cases v <;> simp_all [V.isK, V.one]

def nthV : List V → Nat → V
  | [], _ => .none
  | x :: _, 0 => x
  | _ :: l, n + 1 => nthV l n

def fits : List Kind → List V → Bool
  | [], [] => true
  | k :: ks, v :: vs => v.isK k && fits ks vs
  | _, _ => false

def expand : List Kind → List V → Nat → List V
  | [], _, _ => []
  | k :: ks, cs, j => (nthV cs j).asK k :: expand ks cs (j + 1)

/-- One of two values, its head laid open where both have one head. -/
def condV (c : Bool) : V → V → V
  | .int k x, .int k' y => bif ikBeq k k' then .int k (bif c then x else y) else (bif c then .int k x else .int k' y)
  | .bool x, .bool y => .bool (bif c then x else y)
  | .str x, .str y => .str (bif c then x else y)
  | a, b => bif c then a else b

theorem condV_eq (c : Bool) (a b : V) : condV c a b = if c then a else b := by
  unfold condV
  split
  · rename_i k x k' y
    by_cases h : k = k'
    · subst h; cases c <;> simp
    · cases c <;> simp [h]
  · cases c <;> rfl
  · cases c <;> rfl
  · cases c <;> rfl

/-- The j-th of the cells from place j on is v, if j is the number n. -/
def mergeVs (c : Bool) : List V → List V → Option (List V)
  | [], [] => some []
  | x :: l, y :: m => match mergeVs c l m with | some r => some (condV c x y :: r) | none => none
  | _, _ => none

/-- As condV; of cells cell by cell. -/
def mergeV (c : Bool) : V → V → V
  | .agg xs, .agg ys => match mergeVs c xs ys with | some r => .agg r | none => bif c then .agg xs else .agg ys
  | a, b => condV c a b

theorem mergeVs_eq {c : Bool} : ∀ {xs ys r : List V}, mergeVs c xs ys = some r → r = if c then xs else ys
  | [], [], r, h => by cases h; cases c <;> rfl
  | x :: l, y :: m, r, h => by
    simp only [mergeVs] at h
    split at h
    · rename_i r' h'
      cases h
      rw [condV_eq, mergeVs_eq h']
      cases c <;> rfl
    · cases h
  | [], _ :: _, _, h => by cases h
  | _ :: _, [], _, h => by cases h

theorem mergeV_eq (c : Bool) (a b : V) : mergeV c a b = if c then a else b := by
  unfold mergeV
  split
  · split
    · rename_i r h
      rw [mergeVs_eq h]
      cases c <;> rfl
    · cases c <;> rfl
  · exact condV_eq c _ _

def setV : List V → Nat → Nat → V → List V
  | [], _, _, _ => []
  | x :: l, j, n, v => condV (Nat.beq j n) v x :: setV l (j + 1) n v

def setMany : List V → Nat → List V → List V
  | cs, _, [] => cs
  | cs, off, v :: vs => setMany (setV cs 0 off v) (off + 1) vs

inductive T where
  | v (x : V)
  | lp (s off : Nat)
  | undef
  deriving Inhabited

inductive Loc where
  | cells (e : TypeId) (cs : List V)
  | iter (s : ByteArray) (pos : Nat)
  deriving Inhabited

inductive Obj where
  | cells (e : TypeId) (cs : List V) (ro : Bool)
  | map (es : List (V × V × Nat)) (clock : Nat)
  deriving Inhabited

/-- The blocks of the variables that are known by their numbers. -/
def globs : List Nat := [0, 1, 2]

structure Heap where
  get : Nat → Option Obj
  next : Nat

namespace Heap
def cs (H : Heap) (id : Nat) : List V := match H.get id with | some (.cells _ cs _) => cs | _ => []
/-- Are there n cells from off on? -/
def inb (H : Heap) (id off n : Nat) : Bool := match H.get id with | some (.cells _ cs _) => Nat.ble (off + n) cs.length | _ => false
def wr (H : Heap) (id off n : Nat) : Bool := match H.get id with | some (.cells _ cs ro) => !ro && Nat.ble (off + n) cs.length | _ => false
def cell (H : Heap) (id off : Nat) : V := nthV (H.cs id) off
def sub (H : Heap) (id off n : Nat) : List V := ((H.cs id).drop off).take n
def put (H : Heap) (id : Nat) (o : Obj) : Heap := { H with get := fun j => bif Nat.beq j id then some o else H.get j }
def store (H : Heap) (id off : Nat) (vs : List V) : Heap :=
  match H.get id with
  | some (.cells e cs ro) => H.put id (.cells e (setMany cs off vs) ro)
  | _ => H
def alloc (H : Heap) (o : Obj) : Heap := { get := fun j => bif Nat.beq j H.next then some o else H.get j, next := H.next + 1 }
end Heap

structure St where
  tm : Nat → Option T
  lo : Nat → Option Loc
  hp : Heap

def St.setT (S : St) (d : Nat) (x : T) : St := { S with tm := fun t => bif Nat.beq t d then some x else S.tm t }
def St.setL (S : St) (s : Nat) (x : Loc) : St := { S with lo := fun t => bif Nat.beq t s then some x else S.lo t }

def look {α : Type} : List (Nat × α) → Nat → Option α
  | [], _ => none
  | (k, x) :: l, n => bif Nat.beq n k then some x else look l n

inductive Shape where
  | bool | int (k : IntKind) | str | ptr (e : TypeId) | slice (e : TypeId) | map (k e : TypeId) | func | iface
  | arr (n : Nat) (e : TypeId) | struct (fs : List (Nat × TypeId)) | tuple (ts : List TypeId) | other
  deriving DecidableEq, Inhabited

structure TI where
  sh : Shape
  size : Nat
  bytes : Nat
  zero : Option V
  deriving Inhabited

def ofValue : Value → Option V
  | .bool b => some (.bool b)
  | .int k n => some (.int k n)
  | .string s => some (.str s)
  | .pointer none => some (.ptr none)
  | .slice none 0 0 => some (.slice none 0 0)
  | .map none => some (.map none)
  | .nilFunc => some .nilFunc
  | .nilIface => some .nilIface
  | _ => none

def ofValues : List Value → Option (List V)
  | [] => some []
  | x :: l => match ofValue x, ofValues l with
    | some y, some m => some (y :: m)
    | _, _ => none

def ofValueA : Value → Option V
  | .agg cs => match ofValues cs.toList with | some l => some (.agg l) | none => none
  | v => ofValue v

def shapeOf : TypeDesc → Shape
  | .bool => .bool
  | .int k => .int k
  | .string => .str
  | .pointer e => .ptr e
  | .slice e => .slice e
  | .map k e => .map k e
  | .func .. => .func
  | .interface _ => .iface
  | .array n e => .arr n e
  | .struct fs => .struct (fs.toList.map fun f => (f.offset, f.type))
  | .tuple ts => .tuple ts.toList
  | _ => .other

def tiOf (P : Program) (t : TypeId) : Option TI :=
  match P.info? t, P.underlying t with
  | some i, some d => some { sh := shapeOf d, size := i.size, bytes := i.bytes, zero := i.zero.bind ofValueA }
  | _, _ => none

/-- Where a loop is entered, what is kept; how it is laid open behind. -/
inductive KT where
  | k (k : Kind)
  | agg (ks : List Kind)
  | lp (s : Nat)
  | undef
  deriving Inhabited

structure Keep where
  inT : List Nat := []
  inL : List Nat := []
  outT : List (Nat × KT) := []
  outL : List (Nat × TypeId × List Kind) := []
  retT : List (Nat × KT) := []
  retL : List (Nat × TypeId × List Kind) := []
  exits : List Nat := []
  mg : Bool := false
  dl : Bool := false
  wT : List Nat := []
  wL : List Nat := []
  deriving Inhabited

structure Ann where
  locals : List Nat := []
  base : List (Nat × Nat) := []
  keeps : List (Nat × Keep) := []
  blocks : List (Nat × Keep) := []
  deriving Inhabited

def memNat (n : Nat) : List Nat → Bool
  | [] => false
  | x :: l => Nat.beq n x || memNat n l

def flatFields (g : TypeId → Option (List Kind)) : List Field → Nat → Option (List Kind)
  | [], _ => some []
  | f :: l, o => bif f.name != "_" && Nat.beq f.offset o then (match g f.type with
    | some ks => (match flatFields g l (o + ks.length) with | some r => some (ks ++ r) | none => none)
    | none => none) else none

def repK : Nat → List Kind → List Kind
  | 0, _ => []
  | n + 1, ks => ks ++ repK n ks

/-- The cells of a type whose '==' goes cell by cell. -/
def flatOk (P : Program) : Nat → TypeId → Option (List Kind)
  | 0, _ => none
  | d + 1, t => match P.underlying t with
    | some .bool => some [.bool]
    | some (.int k) => some [.int k]
    | some .string => some [.str]
    | some (.struct fs) => bif P.stoodInHeld t then none else match flatFields (flatOk P d) fs.toList 0 with
      | some ks => bif Nat.beq (P.cellsOf t) ks.length then some ks else none
      | none => none
    | some (.array n e) => match flatOk P d e with
      | some ks => bif Nat.beq (P.cellsOf e) ks.length && Nat.beq (P.cellsOf t) (n * ks.length) then some (repK n ks) else none
      | none => none
    | _ => none

def aggD : TypeDesc → Bool
  | .struct _ => true
  | .array _ _ => true
  | _ => false

def eqOk (P : Program) (t : TypeId) (ks : List Kind) : Bool :=
  !P.eqGuardType P.depth t && decide (flatOk P 50 t = some ks) && (match P.underlying t with | some d => aggD d | none => false)

/-- What a library function does, as a predicate on what is asked of its end. -/
structure Ext where
  run : List V → Heap → (V → Heap → Prop) → Prop
  mono : ∀ args H (K K' : V → Heap → Prop), (∀ v H', K v H' → K' v H') → run args H K → run args H K'
  strict : ∀ args H (K : V → Heap → Prop), run args H K → ∃ v H', K v H'

structure Env where
  P : Program
  ext : Nat → Option Ext := fun _ => none
  fn : Nat → Option Func
  fn_ok : ∀ f x, fn f = some x → P.funcs[f]? = some x
  ti : Nat → Option TI
  ti_ok : ∀ t x, ti t = some x → tiOf P t = some x
  ann : Nat → Ann
  eqt : List (TypeId × List Kind)
  eq_ok : ∀ t ks, look eqt t = some ks → eqOk P t ks = true
  names : P.funcs.toList.all (fun fn => !(fn.name == "runtime.NumGoroutine")) = true

/-- What a deterministic operation comes to: the first thing where c holds, else the second; all that if rq holds. -/
structure Dec (α : Type) where
  rq : Bool
  c : Bool
  x : α
  y : α

def Dec.one {α : Type} (rq : Bool) (x : α) : Dec α := ⟨rq, true, x, x⟩

abbrev Ev := Operand → Option T

def evalO (tm : Nat → Option T) : Operand → Option T
  | .tmp t => tm t
  | .const v => match ofValue v with | some x => some (.v x) | none => none
  | .func f => some (.v (.func f []))
  | .global _ => none

def evV (ev : Ev) (x : Operand) : Option V := match ev x with | some (.v y) => some y | _ => none

def evVs (ev : Ev) : List Operand → Option (List V)
  | [] => some []
  | x :: l => match evV ev x, evVs ev l with
    | some y, some m => some (y :: m)
    | _, _ => none

def shapeK : Shape → Option Kind
  | .bool => some .bool
  | .int k => some (.int k)
  | .str => some .str
  | .ptr _ => some .ptr
  | .slice _ => some .slice
  | .map .. => some .map
  | .func => some .func
  | .iface => some .iface
  | _ => none

section ops
variable (E : Env)

def size (t : TypeId) : Option Nat := match E.ti t with | some i => some i.size | none => none

/-- A type's kind, if it is of one cell. -/
def kindOf (t : TypeId) : Option Kind :=
  match E.ti t with
  | some i => shapeK i.sh
  | none => none

/-- The kinds of a struct's or an array's cells. -/
def kindsOf (t : TypeId) : Option (List Kind) :=
  match E.ti t with
  | some i => match i.sh, i.zero with
    | .arr .., some (.agg z) => some (z.map V.kind)
    | .struct _, some (.agg z) => some (z.map V.kind)
    | _, _ => none
  | none => none

/-- A value of a type, its head laid open. -/
def open1 (t : TypeId) (v : V) : Option (Bool × V) :=
  match kindOf E t with
  | some k => some (v.isK k, v.asK k)
  | none => match kindsOf E t with
    | some ks => some (v.isAgg && fits ks v.aggCells, .agg (expand ks v.aggCells 0))
    | none => none

def openAll : List TypeId → V → Nat → Option (Bool × List V)
  | [], _, _ => some (true, [])
  | t :: ts, v, j => match open1 E t (nthV v.vals j), openAll ts v (j + 1) with
    | some (b, x), some (c, l) => some (b && c, x :: l)
    | _, _ => none

/-- What a call has answered, its head laid open. -/
def openV (t : TypeId) (v : V) : Option (Bool × V) :=
  match E.ti t with
  | some i => match i.sh with
    | .tuple [] => some (true, v)
    | .tuple ts => match openAll E ts v 0 with
      | some (b, l) => some (v.isTuple ts.length && b, .tuple l)
      | none => none
    | _ => open1 E t v
  | none => none

/-- How far a shift goes. -/
def shiftBy (y : Int) (n : Nat) : Nat := min y.toNat n

def binInt (op : BinOp) (k : IntKind) (x y : Int) : Option (Bool × V) :=
  match op with
  | .add => some (true, .int k (k.wrap (x + y)))
  | .sub => some (true, .int k (k.wrap (x - y)))
  | .mul => some (true, .int k (k.wrap (x * y)))
  | .quo => some (!(y == 0), .int k (k.wrap (x.tdiv y)))
  | .rem => some (!(y == 0), .int k (x.tmod y))
  | .and => some (true, .int k (k.wrap (BitVec.ofInt k.bits x &&& BitVec.ofInt k.bits y).toNat))
  | .or => some (true, .int k (k.wrap (BitVec.ofInt k.bits x ||| BitVec.ofInt k.bits y).toNat))
  | .xor => some (true, .int k (k.wrap (BitVec.ofInt k.bits x ^^^ BitVec.ofInt k.bits y).toNat))
  | .andNot => some (true, .int k (k.wrap (BitVec.ofInt k.bits x &&& ~~~ BitVec.ofInt k.bits y).toNat))
  | .eql => some (true, .bool (x == y))
  | .neq => some (true, .bool (x != y))
  | .lss => some (true, .bool (decide (x < y)))
  | .leq => some (true, .bool (decide (x ≤ y)))
  | .gtr => some (true, .bool (decide (x > y)))
  | .geq => some (true, .bool (decide (x ≥ y)))
  | .shl => some (decide (0 ≤ y), .int k (k.wrap (x * 2 ^ (shiftBy y k.bits))))
  | .shr => some (decide (0 ≤ y), .int k (x.fdiv (2 ^ (shiftBy y k.bits))))

/-- Are two texts one? -/
def strEq (x y : ByteArray) : Bool := x.toList == y.toList

/-- One text behind another; has that room? -/
def joinS (x y : ByteArray) : ByteArray := x ++ y
def joinOk (x y : ByteArray) : Bool := Nat.ble (x.size + y.size) 9223372036854775807

def binStr (op : BinOp) (x y : ByteArray) : Option (Bool × V) :=
  match op with
  | .add => some (joinOk x y, .str (joinS x y))
  | .eql => some (true, .bool (strEq x y))
  | .neq => some (true, .bool (!(strEq x y)))
  | .lss => some (true, .bool (Op.bytesLess x.toList y.toList))
  | .leq => some (true, .bool (Op.bytesLess x.toList y.toList || x.toList == y.toList))
  | .gtr => some (true, .bool (!(Op.bytesLess x.toList y.toList || x.toList == y.toList)))
  | .geq => some (true, .bool (!Op.bytesLess x.toList y.toList))
  | _ => none

/-- Cells of integers, bools and strings: are they alike? -/
def eqCells : List V → List V → Option Bool
  | [], [] => some true
  | .int k x :: l, .int k' y :: m => bif ikBeq k k' then (match eqCells l m with | some b => some (x == y && b) | none => none) else none
  | .bool x :: l, .bool y :: m => match eqCells l m with | some b => some (x == y && b) | none => none
  | .str x :: l, .str y :: m => match eqCells l m with | some b => some (x == y && b) | none => none
  | _, _ => none

def cellsEq (xs ys : List V) : Bool := match eqCells xs ys with | some b => b | none => false

/-- The cells that a variable of the type takes. -/
def cellsFor (t : TypeId) (v : V) : Option (Bool × List V) :=
  match size E t with
  | none => none
  | some n => match kindOf E t with
    | some k => bif Nat.beq n 1 then some (v.isK k, [v]) else none
    | none => match kindsOf E t with
      | some _ => match v with
        | .agg cs => some (Nat.beq cs.length n, cs)
        | _ => none
      | none => none

def isConstNil : Operand → Bool
  | .const .nilIface => true
  | _ => false

/-- '==' of two values that are no numbers and no strings. -/
def eqOther (t : TypeId) (nils : Bool) : V → V → Option (Bool × Bool)
  | .bool x, .bool y => match kindOf E t with | some .bool => some (true, x == y) | _ => none
  | .ptr p, .ptr none => match kindOf E t with | some .ptr => some (true, p.isNone) | _ => none
  | .ptr none, .ptr p => match kindOf E t with | some .ptr => some (true, p.isNone) | _ => none
  | .slice p _ _, .slice none _ _ => match kindOf E t with | some .slice => some (true, p.isNone) | _ => none
  | .slice none _ _, .slice p _ _ => match kindOf E t with | some .slice => some (true, p.isNone) | _ => none
  | .map p, .map none => match kindOf E t with | some .map => some (true, p.isNone) | _ => none
  | .map none, .map p => match kindOf E t with | some .map => some (true, p.isNone) | _ => none
  | .agg xs, .agg ys => match look E.eqt t, eqCells xs ys with | some ks, some _ => some (fits ks xs && fits ks ys, cellsEq xs ys) | _, _ => none
  | v, .nilFunc => match kindOf E t with | some .func => some (v.isK .func, v.isNilFunc) | _ => none
  | .nilFunc, v => match kindOf E t with | some .func => some (v.isK .func, v.isNilFunc) | _ => none
  | v, .nilIface => bif nils then (match kindOf E t with | some .iface => some (v.isK .iface, v.isNilIface) | _ => none) else none
  | _, _ => none

def binV (op : BinOp) (t : TypeId) (nils : Bool) : V → V → Option (Bool × V)
  | .int k x, .int k' y =>
    match op with
    | .shl | .shr => binInt op k x y
    | _ => bif ikBeq k k' then binInt op k x y else none
  | .str x, .str y => binStr op x y
  | x, y => match op with
    | .eql => match eqOther E t nils x y with | some (r, b) => some (r, .bool b) | none => none
    | .neq => match eqOther E t nils x y with | some (r, b) => some (r, .bool (!b)) | none => none
    | _ => none

/-- Is a value of an interface nil? -/
def eqNil (t : TypeId) (v : V) : Option (Bool × Bool) := match kindOf E t with | some .iface => some (v.isK .iface, v.isNilIface) | _ => none

def binQ (op : BinOp) (t : TypeId) (nils : Bool) (a b : V) : Option (Bool × V) :=
  match b with
  | .nilIface => match nils with
    | true => match op with
      | .eql => match eqNil E t a with | some (r, b) => some (r, .bool b) | none => none
      | .neq => match eqNil E t a with | some (r, b) => some (r, .bool (!b)) | none => none
      | _ => none
    | false => binV E op t false a .nilIface
  | b => binV E op t nils a b

def unV : UnOp → V → Option V
  | .not, .bool b => some (.bool (!b))
  | .neg, .int k n => some (.int k (k.wrap (0 - n)))
  | .xor, .int k n => some (.int k (k.wrap (BitVec.ofInt k.bits (bif k.signed then -1 else k.max) ^^^ BitVec.ofInt k.bits n).toNat))
  | _, _ => none

/-- A part of a struct's or an array's cells. -/
def partOf (t : TypeId) (cs : List V) (off : Nat) : Option (Bool × V) :=
  match kindOf E t with
  | some k => some (Nat.blt off cs.length && (nthV cs off).isK k, (nthV cs off).asK k)
  | none => match kindsOf E t, size E t with
    | some _, some n => some (Nat.ble (off + n) cs.length, .agg ((cs.drop off).take n))
    | _, _ => none

def byteAt (s : ByteArray) (i : Nat) : Int := ((s.data.toList.getD i 0).toNat : Int)

def fieldAt? (t : TypeId) (f : Nat) : Option (Nat × TypeId) :=
  match E.ti t with
  | some i => match i.sh with
    | .struct fs => fs[f]?
    | _ => none
  | none => none

def natPos : Nat → Bool
  | 0 => false
  | _ => true

def bound (x : Operand) (ev : Ev) : Option Int := match evV ev x with | some (.int _ i) => some i | _ => none

/-- One bound of a slice expression; whether it is within. -/
def bound1 (ev : Ev) (x : Option Operand) (dflt most : Nat) : Option (Bool × Nat) :=
  match x with
  | none => some (true, dflt)
  | some y => match bound y ev with
    | some i => some (decide (0 ≤ i) && decide (i ≤ (most : Int)), i.toNat)
    | none => none

/-- The bounds of a slice expression: low, high, max; whether each is within the next. -/
def bounds3 (ev : Ev) (len cap : Nat) (lo hi mx : Option Operand) : Option (Bool × Nat × Nat × Nat) :=
  bif hi.isNone && mx.isSome then none else
  match bound1 ev mx cap cap with
  | some m => match bound1 ev hi len m.2 with
    | some h => match bound1 ev lo 0 h.2 with
      | some l => some (m.1 && h.1 && l.1, l.2, h.2, m.2)
      | none => none
    | none => none
  | none => none

def ptrAdd (p : Option (Nat × Nat)) (n : Nat) : Option (Nat × Nat) := match p with | some (id, off) => some (id, off + n) | none => none

def minInts (mx : Bool) : List V → Option V
  | [.int k x] => some (.int k x)
  | [.int k x, .int k' y] => bif ikBeq k k' then some (.int k (bif mx then (bif decide (y > x) then y else x) else (bif decide (y < x) then y else x))) else none
  | _ => none

def pureCall (b : Builtin) (args : List V) (t : TypeId) : Option (Dec T) :=
  match b, args with
  | .len, [.str s] => match kindOf E t with | some .str => some (.one true (.v (.int .i64 (s.size : Int)))) | _ => none
  | .len, [.slice _ n _] => match kindOf E t with | some .slice => some (.one true (.v (.int .i64 (n : Int)))) | _ => none
  | .cap, [.slice _ _ c] => match kindOf E t with | some .slice => some (.one true (.v (.int .i64 (c : Int)))) | _ => none
  | .min, vs => match minInts false vs with | some v => some (.one true (.v v)) | none => none
  | .max, vs => match minInts true vs with | some v => some (.one true (.v v)) | none => none
  | _, _ => none

def lift1 (x : Option (Bool × V)) : Option (Dec T) := match x with | some (r, v) => some (.one r (.v v)) | none => none

def fillAll (place : Nat → Option (Nat × TypeId)) (cells : List V) : List (Nat × V) → Option (Bool × List V)
  | [] => some (true, cells)
  | (i, v) :: rest =>
    match place i with
    | none => none
    | some (off, t) =>
      match cellsFor E t v, size E t with
      | some (r, vs), some n => bif Nat.beq vs.length n && Nat.ble (off + n) cells.length then
          (match fillAll place (setMany cells off vs) rest with
          | some (r', cs) => some (r && r', cs)
          | none => none) else none
      | _, _ => none

def evParts (ev : Ev) : List (Nat × Operand) → Option (List (Nat × V))
  | [] => some []
  | (i, x) :: l => match evV ev x, evParts ev l with
    | some y, some m => some ((i, y) :: m)
    | _, _ => none

def sizesOk : List (Nat × TypeId) → Bool
  | [] => true
  | (_, t) :: l => (size E t).isSome && sizesOk l

def placesOf (t : TypeId) : Option (Nat → Option (Nat × TypeId)) :=
  match E.ti t with
  | some i => match i.sh with
    | .struct fs => bif sizesOk E fs then some fun j => fs[j]? else none
    | .arr _ e => match size E e with | some n => some fun j => some (j * n, e) | none => none
    | _ => none
  | none => none

def pureOp (o : Op) (ev : Ev) : Option (Dec T) :=
  match o with
  | .move x | .assign x => match ev x with | some y => some (.one true y) | none => none
  | .pick c a b =>
    match ev c with
    | some (.v (.bool t)) =>
      match ev a, ev b with
      | some (.v (.bool x)), some (.v (.bool y)) => some (.one true (.v (.bool (bif t then x else y))))
      | a', b' => match t with
        | true => (match a' with | some y => some (.one true y) | none => none)
        | false => (match b' with | some y => some (.one true y) | none => none)
    | _ => none
  | .binOp op t x y _ => match evV ev x, evV ev y with | some a, some b => lift1 (binQ E op t (isConstNil y) a b) | _, _ => none
  | .unOp op _ x => match evV ev x with | some a => (match unV op a with | some v => some (.one true (.v v)) | none => none) | none => none
  | .convert s d x =>
    match E.ti s, kindOf E d, evV ev x with
    | some _, some (.int k), some (.int _ n) => some (.one true (.v (.int k (k.wrap n))))
    | some _, some .str, some (.str s) => some (.one true (.v (.str s)))
    | some _, some .str, some (.int _ n) => some (.one true (.v (.str (Utf8.encode n))))
    | _, _, _ => none
  | .nilCheck x =>
    match ev x with
    | some (.v (.ptr p)) => some (.one p.isSome (.v (.ptr (some ((p.getD (0, 0)).1, (p.getD (0, 0)).2)))))
    | some (.lp s off) => some (.one true (.lp s off))
    | _ => none
  | .fieldAddr t x f =>
    match fieldAt? E t f with
    | some (o, ft) => match size E ft with
      | some n => bif natPos n then (match ev x with
        | some (.v (.ptr (some (id, off)))) => some (.one true (.v (.ptr (some (id, off + o)))))
        | some (.lp s off) => some (.one true (.lp s (off + o)))
        | _ => none) else none
      | none => none
    | none => none
  | .field t x f =>
    match fieldAt? E t f, evV ev x with
    | some (o, ft), some (.agg cs) => lift1 (partOf E ft cs o)
    | _, _ => none
  | .indexAddr t x i =>
    match bound i ev, E.ti t with
    | some n, some ti => match ti.sh with
      | .arr len e => match size E e, ev x with
        | some sz, some (.v (.ptr (some (id, off)))) => some (.one (decide (0 ≤ n) && decide (n < (len : Int))) (.v (.ptr (some (id, off + n.toNat * sz)))))
        | some sz, some (.lp s off) => some (.one (decide (0 ≤ n) && decide (n < (len : Int))) (.lp s (off + n.toNat * sz)))
        | _, _ => none
      | .slice e => match size E e, ev x with
        | some sz, some (.v (.slice p len _)) => some (.one (decide (0 ≤ n) && decide (n < (len : Int)) && p.isSome) (.v (.ptr (some ((p.getD (0, 0)).1, (p.getD (0, 0)).2 + n.toNat * sz)))))
        | _, _ => none
      | _ => none
    | _, _ => none
  | .index t x i =>
    match bound i ev, E.ti t, evV ev x with
    | some n, some ti, some v => match ti.sh, v with
      | .arr len e, .agg cs => match size E e with
        | some sz => match partOf E e cs (n.toNat * sz) with
          | some (r, y) => some (.one (decide (0 ≤ n) && decide (n < (len : Int)) && r) (.v y))
          | none => none
        | none => none
      | .str, .str s => some (.one (decide (0 ≤ n) && decide (n < (s.size : Int))) (.v (.int .u8 (byteAt s n.toNat))))
      | _, _ => none
    | _, _, _ => none
  | .slice t x lo hi mx =>
    match E.ti t, ev x with
    | some ti, some (.v (.str s)) =>
      match ti.sh, mx with
      | .str, none => match bounds3 ev s.size s.size lo hi none with
        | some (r, l, h, _) => some (.one r (.v (.str (s.extract l h))))
        | none => none
      | _, _ => none
    | some ti, some (.v (.slice p len cap)) =>
      match ti.sh with
      | .slice e => match bounds3 ev len cap lo hi mx, size E e with
        | some (r, l, h, m), some sz => some (.one (r && Nat.ble h m) (.v (.slice (ptrAdd p (l * sz)) (h - l) (m - l))))
        | _, _ => none
      | _ => none
    | some ti, some (.v (.ptr (some (id, off)))) =>
      match ti.sh with
      | .arr n e => match bounds3 ev n n lo hi mx, size E e with
        | some (r, l, h, m), some sz => some (.one (r && Nat.ble h m) (.v (.slice (some (id, off + l * sz)) (h - l) (m - l))))
        | _, _ => none
      | _ => none
    | _, _ => none
  | .makeInterface t x =>
    match kindOf E t, evV ev x with
    | some .iface, _ => none
    | _, some v => match E.ti t with | some _ => some (.one true (.v (.iface t v))) | none => none
    | _, _ => none
  | .makeFunc (.func f) first captured =>
    match first.toList, evVs ev captured.toList with
    | [], some cs => some (.one true (.v (.func f cs)))
    | _, _ => none
  | .extract x i =>
    match evV ev x with
    | some (.tuple vs) => match vs[i]? with | some v => some (.one true (.v v)) | none => none
    | _ => none
  | .build t parts =>
    match E.ti t, placesOf E t, evParts ev parts.toList with
    | some ti, some pl, some ps => match ti.zero with
      | some (.agg z) => match fillAll E pl z ps with | some (r, cs) => some (.one r (.v (.agg cs))) | none => none
      | _ => none
    | _, _, _ => none
  | .typeAssert x _ d ok =>
    match evV ev x, E.ti d with
    | some v, some ti => match ti.sh with
      | .iface => none
      | _ => match open1 E d v.ifVal, ti.zero with
        | some (r, y), some z =>
          let t : Bool := !v.isNilIface && Nat.beq v.ifType d
          match ok with
          | true =>
            some ⟨v.isK .iface && (!t || r), t, .v (.tuple [y, .bool true]), .v (.tuple [z, .bool false])⟩
          | false => some (.one (v.isK .iface && t && r) (.v y))
        | _, _ => none
    | _, _ => none
  | .call c =>
    match c.callee with
    | .builtin b => match evVs ev c.args.toList, c.argTypes.toList[0]? with | some vs, some t => pureCall E b vs t | _, _ => none
    | _ => none
  | _ => none

/-- A load out of a frame-local block. -/
def lloadOp (o : Op) (ev : Ev) (s : Nat) (L : Option Loc) : Option (Dec T) :=
  match o with
  | .load t a =>
    match ev a, L with
    | some (.lp s' off), some (.cells _ cs) => bif Nat.beq s s' then lift1 (partOf E t cs off) else none
    | _, _ => none
  | _ => none

/-- The cells with their heads laid open. -/
def typedCells (e : TypeId) (cs : List V) : Bool × List V :=
  match kindsOf E e with
  | some ks => (fits ks cs, expand ks cs 0)
  | none => (true, cs)

/-- A store into a frame-local block; the next step of an iterator. -/
def lstoreOp (o : Op) (ev : Ev) (s : Nat) (L : Option Loc) : Option (Dec (Loc × T)) :=
  match o with
  | .store t a x =>
    match ev a, evV ev x, L with
    | some (.lp s' off), some v, some (.cells e cs) =>
      match cellsFor E t v with
      | some (r, vs) => bif Nat.beq s s' then
          some (.one (r && Nat.ble (off + vs.length) cs.length && (typedCells E e (setMany cs off vs)).1) (.cells e (typedCells E e (setMany cs off vs)).2, .undef)) else none
      | none => none
    | _, _, _ => none
  | .next it true =>
    match ev it, L with
    | some (.lp s' 0), some (.iter str pos) =>
      bif Nat.beq s s' then
        some ⟨true, Nat.blt pos str.size, (.iter str (pos + (Utf8.decode str pos).2), .v (.tuple [.bool true, .int .i64 (pos : Int), .int .i32 ((Utf8.decode str pos).1 : Int)])),
          (.iter str pos, .v (.tuple [.bool false]))⟩
      else none
    | _, _ => none
  | _ => none

/-- A frame-local block is made. -/
def lnewOp (o : Op) (ev : Ev) : Option (Bool × Loc) :=
  match o with
  | .alloc t => match E.ti t with
    | some i => match i.zero with | some z => some (true, .cells t z.cells) | none => none
    | none => none
  | .box t x => match evV ev x with
    | some v => match cellsFor E t v with | some (r, vs) => some (r, .cells t vs) | none => none
    | none => none
  | .range t x => match kindOf E t, evV ev x with
    | some .str, some (.str s) => some (true, .iter s 0)
    | _, _ => none
  | _ => none

end ops
end Go.Am
