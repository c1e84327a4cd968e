/- The abstract machine: what a body of code comes to, as a predicate on what is asked of its end. -/
import Derived.Test.YtibkggbidojocaaDoorAmBase
namespace Go.Am
set_option linter.unusedSimpArgs false
set_option linter.unusedVariables false
set_option linter.unusedSectionVars false

/-- Both ways of a test. -/
def br (c : Bool) (X Y : Prop) : Prop := match c with | true => X | false => Y
/-- What must hold, and what is asked then. -/
def req (c : Bool) (X : Prop) : Prop := match c with | true => X | false => False
/-- Ways that meet again. -/
def joinP {α : Type} (A : (α → Prop) → Prop) (Q : α → Prop) : Prop := A Q

structure Rec where
  call : FuncId → List V → Heap → (V → Heap → Prop) → Prop
  loop : Code → FuncId → Nat → St → (St → Prop) → (Nat → St → Prop) → Prop

inductive Ex where
  | normal | exit (id : Nat) | ret

def Dec.run {α : Type} (d : Dec α) (K : α → Prop) : Prop := req d.rq (br d.c (K d.x) (K d.y))

inductive Cls where
  | pure | lload (s : Nat) | lstore (s : Nat) | lnew | hread | hwrite

def baseOf (ann : Ann) : Operand → Option Nat
  | .tmp t => look ann.base t
  | _ => none

def cls (E : Env) (ann : Ann) (o : Oper) : Cls :=
  match o.op with
  | .alloc _ => match o.dst with | some d => bif memNat d ann.locals then .lnew else .hwrite | none => .hwrite
  | .box _ _ => match o.dst with | some d => bif memNat d ann.locals then .lnew else .hwrite | none => .hwrite
  | .range _ _ => match o.dst with | some d => bif memNat d ann.locals then .lnew else .hwrite | none => .hwrite
  | .load _ a => match baseOf ann a with | some s => .lload s | none => .hread
  | .store _ a _ => match baseOf ann a with | some s => .lstore s | none => .hwrite
  | .next it true => match baseOf ann it with | some s => .lstore s | none => .hwrite
  | .next _ false => .hwrite
  | .makeMap .. => .hwrite
  | .makeSlice .. => .hwrite
  | .buildSlice .. => .hwrite
  | .mapUpdate .. => .hwrite
  | .insert .. => .hwrite
  | .mapEntry .. => .hwrite
  | .entryStore .. => .hwrite
  | .lookup .. => .hread
  | .convert s d _ => match kindOf E s, kindOf E d with
    | some .slice, some .slice => .hwrite
    | some .slice, _ => .hread
    | _, some .slice => .hwrite
    | _, _ => .pure
  | .call c => match c.callee with
    | .builtin .len => match c.argTypes.toList[0]? with
      | some t => match kindOf E t with | some .map => .hread | _ => .pure
      | none => .pure
    | .builtin .cap => .pure
    | .builtin .min => .pure
    | .builtin .max => .pure
    | _ => .hwrite
  | _ => .pure

section
variable (E : Env)

def bytesOfCells : List V → ByteArray → ByteArray
  | [], acc => acc
  | v :: l, acc => bytesOfCells l (acc.push (UInt8.ofNat v.getInt.toNat))

def allK (k : Kind) : List V → Bool
  | [] => true
  | v :: l => v.isK k && allK k l

/-- A row of bytes as a text: can it be read; what it is. -/
def strOk (H : Heap) (p : Option (Nat × Nat)) (len : Nat) : Bool :=
  p.isNone || Nat.beq len 0 || (H.inb (p.getD (0, 0)).1 (p.getD (0, 0)).2 len && allK (.int .u8) (H.sub (p.getD (0, 0)).1 (p.getD (0, 0)).2 len))
def strAt (H : Heap) (p : Option (Nat × Nat)) (len : Nat) : ByteArray :=
  bif p.isNone || Nat.beq len 0 then ByteArray.empty else bytesOfCells (H.sub (p.getD (0, 0)).1 (p.getD (0, 0)).2 len) ByteArray.empty

/-- An operation that reads the heap. -/
def hreadOp (o : Op) (ev : Ev) (H : Heap) : Option (Dec T) :=
  match o with
  | .load t a =>
    match ev a with
    | some (.v (.ptr (some (id, off)))) =>
      match kindOf E t with
      | some k => some (.one (H.inb id off 1 && (H.cell id off).isK k) (.v ((H.cell id off).asK k)))
      | none => match kindsOf E t, size E t with
        | some ks, some n => some (.one (H.inb id off n && fits ks (H.sub id off n)) (.v (.agg (expand ks (H.sub id off n) 0))))
        | _, _ => none
    | _ => none
  | .convert s d x =>
    match E.ti s, kindOf E d, evV ev x with
    | some ti, some .str, some (.slice p len _) =>
      match ti.sh with
      | .slice e => match kindOf E e with
        | some (.int .u8) =>
          some (.one (strOk H p len) (.v (.str (strAt H p len))))
        | _ => none
      | _ => none
    | _, _, _ => none
  | _ => none

def repV : Nat → List V → List V
  | 0, _ => []
  | n + 1, l => l ++ repV n l

/-- Are all of one cell? -/
def allOne : List V → Bool
  | [] => true
  | v :: l => v.one && allOne l

def catV (a b : List V) : List V := a ++ b

/-- So many elements. -/
def rowV (n : Nat) (z : List V) : List V := repV n z

def strCells (s : ByteArray) : List V := s.data.toList.map fun b => .int .u8 b.toNat

/-- Has a slice so many elements in memory? -/
def rowOk (H : Heap) (n : Nat) (p : Option (Nat × Nat)) (m : Nat) : Bool :=
  Nat.beq m 0 || (p.isSome && (H.inb (p.getD (0, 0)).1 (p.getD (0, 0)).2 (m * n) && allOne (H.sub (p.getD (0, 0)).1 (p.getD (0, 0)).2 (m * n))))

/-- The elements of a slice, or a string: how many; are they there; their cells. -/
def srcOf (H : Heap) (n : Nat) : V → Option (Nat × (Nat → Bool) × (Nat → List V))
  | .slice p len _ => some (len, fun m => rowOk H n p m, fun m => bif Nat.beq m 0 then [] else H.sub (p.getD (0, 0)).1 (p.getD (0, 0)).2 (m * n))
  | .str s => some (s.size, fun _ => Nat.beq n 1, fun m => (strCells s).take m)
  | _ => none

/-- For every number from one to another. -/
def anyN (lo hi : Nat) (K : Nat → Prop) : Prop := ∀ c, lo ≤ c → c ≤ hi → K c

def notInt : Option Kind → Bool
  | some .slice => true
  | some .str => true
  | _ => false

/-- The element's type, its cells, its bytes, its zero value's cells. -/
def elemOf (t : TypeId) : Option (TypeId × Nat × Nat × List V) :=
  match E.ti t with
  | some ti => match ti.sh with
    | .slice el => match E.ti el with
      | some ei => match ei.zero with
        | some z => bif Nat.beq z.cells.length ei.size && natPos ei.size then some (el, ei.size, ei.bytes, z.cells) else none
        | none => none
      | none => none
    | _ => none
  | none => none

/-- What is laid behind a row: may it be asked for; how many; are they there; their cells. -/
def appSrc (H : Heap) (n by' : Nat) (z : List V) (k : Option Kind) (x : V) : Option (Bool × Nat × (Nat → Bool) × (Nat → List V)) :=
  match k with
  | some (.int .i64) => match x with
    | .int .i64 m => some (decide (0 ≤ m) && decide (m * (by' + 1) ≤ 70368744177664), m.toNat, fun _ => true, fun j => rowV j z)
    | _ => none
  | k => match notInt k with
    | true => (match srcOf H n x with | some (m, ok, cs) => some (true, m, ok, cs) | none => none)
    | false => none

def appendOp (ts : List TypeId) (args : List V) (H : Heap) (K : Option (Nat × Nat) → Nat → Nat → Heap → Prop) : Prop :=
  match ts, args with
  | [t, u], [.slice p l cp, x] =>
    match elemOf E t with
    | some (el, n, by', z) => match appSrc H n by' z (kindOf E u) x with
      | some (r, m, ok, cs) => req r
        (br (Nat.ble (l + m) cp)
          (req (Nat.beq m 0 || (p.isSome && (ok m && H.wr (p.getD (0, 0)).1 ((p.getD (0, 0)).2 + l * n) (m * n))))
            (K p (l + m) cp (bif Nat.beq m 0 then H else H.store (p.getD (0, 0)).1 ((p.getD (0, 0)).2 + l * n) (cs m))))
          (req (rowOk H n p l && (ok m && Nat.ble ((l + m) * (by' + 1)) 70368744177664))
            (anyN (l + m) 9223372036854775807 fun c => K (some (H.next, 0)) (l + m) c
              (H.alloc (.cells el (catV (bif Nat.beq l 0 then [] else H.sub (p.getD (0, 0)).1 (p.getD (0, 0)).2 (l * n)) (catV (cs m) (rowV (c - (l + m)) z))) false)))))
      | none => False
    | none => False
  | _, _ => False

/-- Elements over others: may they be laid; memory then. -/
def copyOk (H : Heap) (n : Nat) (p : Option (Nat × Nat)) (l : Nat) (x : V) : Bool := match srcOf H n x with
  | some (m, ok, cs) => Nat.beq (Nat.min m l) 0 || (p.isSome && (ok (Nat.min m l) && H.wr (p.getD (0, 0)).1 (p.getD (0, 0)).2 (Nat.min m l * n)))
  | none => false
def copyTo (H : Heap) (n : Nat) (p : Option (Nat × Nat)) (l : Nat) (x : V) : Heap := match srcOf H n x with
  | some (m, ok, cs) => bif Nat.beq (Nat.min m l) 0 then H else H.store (p.getD (0, 0)).1 (p.getD (0, 0)).2 (cs (Nat.min m l))
  | none => H

/-- What a call of a library function comes to. -/
def extCall (g : FuncId) (args : List V) (H : Heap) (K : V → Heap → Prop) : Prop :=
  match E.ext g with
  | some x => x.run args H K
  | none => False

/-- A call of a function's value. -/
def callV (R : Rec) (fv : V) (args : List V) (H : Heap) (K : V → Heap → Prop) : Prop :=
  match fv with
  | .func g cap => match (E.ext g).isSome with
    | true => extCall E g (args ++ cap) H K
    | false => R.call g (args ++ cap) H K
  | _ => False

/-- An operation that writes the heap, or makes memory, in one way: what it asks for, what comes of it. -/
def hsimpleOp (o : Op) (ev : Ev) (H : Heap) : Option (Bool × T × Heap) :=
  match o with
  | .buildSlice t len parts =>
    match E.ti t, evParts ev parts.toList with
    | some ti, some ps => match ti.sh with
      | .slice el => match size E el, E.ti el with
        | some n, some ei => match ei.zero with
          | some z => bif Nat.beq z.cells.length n && natPos n && Nat.ble (len * n) 16777216 then
              (match fillAll E (fun j => some (j * n, el)) (repV len z.cells) ps with
              | some (r, cs) => some (r, .v (.slice (some (H.next, 0)) len len), H.alloc (.cells el cs false))
              | none => none) else none
          | none => none
        | _, _ => none
      | _ => none
    | _, _ => none
  | .makeSlice t len cap =>
    match elemOf E t, evV ev len, evV ev cap with
    | some (el, _, by', z), some (.int _ l), some (.int _ c) =>
      some (decide (0 ≤ l) && (decide (l ≤ c) && decide (c * (by' + 1) ≤ 70368744177664)), .v (.slice (some (H.next, 0)) l.toNat c.toNat), H.alloc (.cells el (rowV c.toNat z) false))
    | _, _, _ => none
  | .convert s d x =>
    match kindOf E s, evV ev x, E.ti d with
    | some .slice, some (.slice p len cap), some ti => match ti.sh with
      | .slice e => match kindOf E e with
        | some (.int .u8) => some (Nat.beq s d && (p.isSome && (!Nat.beq cap 0 && H.wr (p.getD (0, 0)).1 0 0)), .v (.slice p len cap), H)
        | _ => none
      | _ => none
    | _, _, _ => none
  | .call c =>
    match c.callee, c.argTypes.toList, evVs ev c.args.toList with
    | .builtin .copy, t :: _, some [.slice p l _, x] =>
      match elemOf E t with
      | some (_, n, _, _) => match srcOf H n x with
        | some (m, _, _) => some (copyOk H n p l x, .v (.int .i64 (Nat.min m l)), copyTo H n p l x)
        | none => none
      | none => none
    | .builtin .clear, t :: _, some [.slice p l _] =>
      match elemOf E t with
      | some (_, n, _, z) =>
        some (p.isNone || Nat.beq l 0 || H.wr (p.getD (0, 0)).1 (p.getD (0, 0)).2 (l * n), .v (.tuple []),
          bif p.isNone || Nat.beq l 0 then H else H.store (p.getD (0, 0)).1 (p.getD (0, 0)).2 (rowV l z))
      | none => none
    | _, _, _ => none
  | _ => none

/-- An operation that writes the heap, makes memory, or calls. -/
def hwriteOp (R : Rec) (o : Op) (rt : TypeId) (ev : Ev) (H : Heap) (K : T → Heap → Prop) : Prop :=
  match o with
  | .alloc t => match E.ti t with
    | some i => match i.zero with | some z => K (.v (.ptr (some (H.next, 0)))) (H.alloc (.cells t z.cells false)) | none => False
    | none => False
  | .box t x => match evV ev x with
    | some v => match cellsFor E t v with
      | some (r, vs) => req r (K (.v (.ptr (some (H.next, 0)))) (H.alloc (.cells t vs false)))
      | none => False
    | none => False
  | .store t a x =>
    match ev a, evV ev x with
    | some (.v (.ptr (some (id, off)))), some v =>
      match cellsFor E t v with
      | some (r, vs) => req (r && H.wr id off vs.length) (K .undef (H.store id off vs))
      | none => False
    | _, _ => False
  | .call c =>
    match c.callee, evVs ev c.args.toList with
    | .value f, some args =>
      match evV ev f with
      | some fv => callV E R fv args H fun v H' => match openV E rt v with | some (b, v') => req b (K (.v v') H') | none => False
      | none => False
    | .builtin .append, some args => appendOp E c.argTypes.toList args H fun q n c H' => K (.v (.slice q n c)) H'
    | _, _ => match hsimpleOp E (.call c) ev H with
      | some (r, x, H') => req r (K x H')
      | none => False
  | .convert s d x =>
    match kindOf E s, evV ev x, E.ti d with
    | some .str, some (.str b), some ti => match ti.sh with
      | .slice el => match kindOf E el with
        | some (.int .u8) => req (Nat.ble b.size 70368744177664) (anyN b.size 9223372036854775807 fun c =>
            K (.v (.slice (some (H.next, 0)) b.size c)) (H.alloc (.cells el (catV (strCells b) (rowV (c - b.size) [.int .u8 0])) false)))
        | _ => False
      | _ => False
    | _, _, _ => match hsimpleOp E (.convert s d x) ev H with
      | some (r, x, H') => req r (K x H')
      | none => False
  | o => match hsimpleOp E o ev H with
    | some (r, x, H') => req r (K x H')
    | none => False

def yieldedA (ops : List Oper) (tm : Nat → Option T) (j : Nat) : Option T :=
  match ops[j]? with
  | some o => match o.dst with | some d => tm d | none => none
  | none => none

def kill (ann : Ann) (d : Nat) (S : St) : St :=
  { S with tm := fun t => match look ann.base t with | some s => bif Nat.beq s d then none else S.tm t | none => S.tm t }

/-- A value is laid into a slot. -/
def putK (ann : Ann) (N : Nat) (dst : Option Tmp) (x : T) (S : St) (K : St → Prop) : Prop :=
  match dst with
  | none => K S
  | some d => req (Nat.blt d N) (match x with
    | .lp s _ => (match look ann.base d with | some s' => bif Nat.beq s s' then K (S.setT d x) else False | none => False)
    | _ => K (S.setT d x))

def coreO (R : Rec) (ann : Ann) (N : Nat) (o : Oper) (S : St) (K : St → Prop) : Prop :=
  match cls E ann o with
  | .pure => match pureOp E o.op (evalO S.tm) with | some d => d.run fun x => putK ann N o.dst x S K | none => False
  | .lload s => match lloadOp E o.op (evalO S.tm) s (S.lo s) with | some d => d.run fun x => putK ann N o.dst x S K | none => False
  | .lstore s => match lstoreOp E o.op (evalO S.tm) s (S.lo s) with | some d => d.run fun x => putK ann N o.dst x.2 (S.setL s x.1) K | none => False
  | .lnew => match o.dst, lnewOp E o.op (evalO S.tm) with
    | some d, some (r, L) => req r (putK ann N (some d) (.lp d 0) ((kill ann d S).setL d L) K)
    | _, _ => False
  | .hread => match hreadOp E o.op (evalO S.tm) S.hp with | some d => d.run fun x => putK ann N o.dst x S K | none => False
  | .hwrite => hwriteOp E R o.op o.type (evalO S.tm) S.hp fun x H' => putK ann N o.dst x { S with hp := H' } K

def stepO (R : Rec) (ann : Ann) (N : Nat) (ops : List Oper) (o : Oper) (S : St) (K : St → Prop) : Prop :=
  match o.guard with
  | none => coreO E R ann N o S K
  | some (j, want) =>
    match yieldedA ops S.tm j with
    | some (.v (.bool b)) => br (b == want) (coreO E R ann N o S K) (putK ann N o.dst .undef S K)
    | some .undef => putK ann N o.dst .undef S K
    | _ => False

def stepsO (R : Rec) (ann : Ann) (N : Nat) (ops : List Oper) : List Oper → St → (St → Prop) → Prop
  | [], S, K => K S
  | o :: l, S, K => stepO E R ann N ops o S fun S' => stepsO R ann N ops l S' K

/-- The slot that an operation's guard reads. -/
def slotOf (ops : List Oper) (j : Nat) : Option Nat :=
  match ops[j]? with
  | some o => o.dst
  | none => none

/-- As stepO; on each way the guard's slot holds what it is there. -/
def stepB (R : Rec) (ann : Ann) (N : Nat) (ops : List Oper) (o : Oper) (S : St) (K : St → Prop) : Prop :=
  match o.guard with
  | none => coreO E R ann N o S K
  | some (j, want) =>
    match slotOf ops j with
    | none => False
    | some s =>
      match S.tm s with
      | some (.v (.bool b)) => br (beqB want b) (coreO E R ann N o (S.setT s (.v (.bool want))) K) (putK ann N o.dst .undef (S.setT s (.v (.bool (!want)))) K)
      | some .undef => putK ann N o.dst .undef S K
      | _ => False

def stepsB (R : Rec) (ann : Ann) (N : Nat) (ops : List Oper) : List Oper → St → (St → Prop) → Prop
  | [], S, K => K S
  | o :: l, S, K => stepB E R ann N ops o S fun S' => stepsB R ann N ops l S' K

def cnt : Code → Nat
  | .seq a b => cnt a + cnt b
  | .cond _ a b => 1 + cnt a + cnt b
  | .block _ b => cnt b
  | .scope b => cnt b
  | .loop b => 1 + cnt b
  | .region .. => 1
  | _ => 0

def normT (tm : Nat → Option T) : List Nat → Option (List (Nat × T))
  | [] => some []
  | t :: l => match tm t, normT tm l with
    | some x, some m => some ((t, x) :: m)
    | _, _ => none

def normL (lo : Nat → Option Loc) : List Nat → Option (List (Nat × Loc))
  | [] => some []
  | t :: l => match lo t, normL lo l with
    | some x, some m => some ((t, x) :: m)
    | _, _ => none

/-- The state, but only what is kept. -/
def normK (ts ls : List Nat) (S : St) (K : St → Prop) : Prop :=
  match normT S.tm ts, normL S.lo ls with
  | some a, some b => K ⟨look a, look b, S.hp⟩
  | _, _ => False

/-- Ways that part, as a value. -/
inductive Tree (α : Type) where
  | leaf (a : α)
  | br (c : Bool) (x y : Tree α)
  | req (c : Bool) (x : Tree α)
  | fail

def Tree.run {α : Type} (K : α → Prop) : Tree α → Prop
  | .leaf a => K a
  | .br c x y => Am.br c (x.run K) (y.run K)
  | .req c x => Am.req c (x.run K)
  | .fail => False

def Tree.bind {α β : Type} : Tree α → (α → Tree β) → Tree β
  | .leaf a, k => k a
  | .br c x y, k => .br c (x.bind k) (y.bind k)
  | .req c x, k => .req c (x.bind k)
  | .fail, _ => .fail

/-- What has changed since a state; which guards were looked at. -/
structure MS where
  U : List (Nat × T)
  W : List (Nat × Loc)
  kn : List Nat

def getU (S : St) (U : List (Nat × T)) (t : Nat) : Option T := match look U t with | some x => some x | none => S.tm t
def getW (S : St) (W : List (Nat × Loc)) (t : Nat) : Option Loc := match look W t with | some x => some x | none => S.lo t
def MS.st (S : St) (M : MS) : St := ⟨getU S M.U, getW S M.W, S.hp⟩

def putM (ann : Ann) (N : Nat) (dst : Option Tmp) (x : T) (M : MS) : Tree MS :=
  match dst with
  | none => .leaf M
  | some d => .req (Nat.blt d N) (match x with
    | .lp s _ => (match look ann.base d with | some s' => bif Nat.beq s s' then .leaf { M with U := (d, x) :: M.U } else .fail | none => .fail)
    | _ => .leaf { M with U := (d, x) :: M.U })

def coreM (ann : Ann) (N : Nat) (o : Oper) (S : St) (M : MS) : Tree MS :=
  match cls E ann o with
  | .pure => match pureOp E o.op (evalO (getU S M.U)) with | some d => .req (d.rq && d.c) (putM ann N o.dst d.x M) | none => .fail
  | .lload s => match lloadOp E o.op (evalO (getU S M.U)) s (getW S M.W s) with | some d => .req (d.rq && d.c) (putM ann N o.dst d.x M) | none => .fail
  | .lstore s => match lstoreOp E o.op (evalO (getU S M.U)) s (getW S M.W s) with | some d => .req (d.rq && d.c) (putM ann N o.dst d.x.2 { M with W := (s, d.x.1) :: M.W }) | none => .fail
  | .hread => match hreadOp E o.op (evalO (getU S M.U)) S.hp with | some d => .req (d.rq && d.c) (putM ann N o.dst d.x M) | none => .fail
  | _ => .fail

def stepM (ann : Ann) (N : Nat) (ops : List Oper) (o : Oper) (S : St) (M : MS) : Tree MS :=
  match o.guard with
  | none => coreM E ann N o S M
  | some (j, want) =>
    match slotOf ops j with
    | none => .fail
    | some s =>
      match getU S M.U s with
      | some (.v (.bool b)) =>
        match memNat s M.kn with
        | true => match beqB want b with
          | true => coreM E ann N o S M
          | false => putM ann N o.dst .undef M
        | false => .br (beqB want b) (coreM E ann N o S { M with U := (s, .v (.bool want)) :: M.U, kn := s :: M.kn })
            (putM ann N o.dst .undef { M with U := (s, .v (.bool (!want))) :: M.U, kn := s :: M.kn })
      | some .undef => putM ann N o.dst .undef M
      | _ => .fail

def stepsT (ann : Ann) (N : Nat) (ops : List Oper) : List Oper → St → MS → Tree MS
  | [], _, M => .leaf M
  | o :: l, S, M => (stepM E ann N ops o S M).bind (stepsT ann N ops l S)

def mergeR (c r1 r2 : Bool) : Bool := match r1, r2 with
  | true, true => true
  | r1, r2 => bif c then r1 else r2

def mergeT1 (c : Bool) : T → T → Option T
  | .v x, .v y => some (.v (mergeV c x y))
  | .lp s o, .lp s' o' => bif Nat.beq s s' && Nat.beq o o' then some (.lp s o) else none
  | .undef, .undef => some .undef
  | _, _ => none

def mergeL1 (c : Bool) : Loc → Loc → Option Loc
  | .cells e cs, .cells e' cs' => bif Nat.beq e e' then (match mergeVs c cs cs' with | some r => some (.cells e r) | none => none) else none
  | _, _ => none

/-- What has changed on one way, or the other. -/
def mergeA {α : Type} (g : Nat → Option α) (f : α → α → Option α) (A B : List (Nat × α)) : List Nat → Option (List (Nat × α))
  | [] => some []
  | t :: l => match mergeA g f A B l with
    | none => none
    | some r => match look A t, look B t with
      | none, none => some r
      | some a, some b => match f a b with | some m => some ((t, m) :: r) | none => none
      | some a, none => match g t with | some b => (match f a b with | some m => some ((t, m) :: r) | none => none) | none => none
      | none, some b => match g t with | some a => (match f a b with | some m => some ((t, m) :: r) | none => none) | none => none

def keysIn {α : Type} (a b : List Nat) : List (Nat × α) → Bool
  | [] => true
  | (t, _) :: l => (memNat t a || memNat t b) && keysIn a b l

def merge (S : St) (ts ls dT dL : List Nat) : Tree MS → Option (Bool × List (Nat × T) × List (Nat × Loc))
  | .leaf M => bif keysIn ts dT M.U && keysIn ls dL M.W then some (true, M.U, M.W) else none
  | .req c x => match merge S ts ls dT dL x with | some (r, U, W) => some (c && r, U, W) | none => none
  | .br c x y => match merge S ts ls dT dL x, merge S ts ls dT dL y with
    | some (r1, U1, W1), some (r2, U2, W2) =>
      match mergeA S.tm (mergeT1 c) U1 U2 ts, mergeA S.lo (mergeL1 c) W1 W2 ls with
      | some U, some W => some (mergeR c r1 r2, U, W)
      | _, _ => none
    | _, _ => none
  | .fail => none

/-- The state without what is dead. -/
def cutS (dT dL : List Nat) (S : St) : St :=
  ⟨fun t => bif memNat t dT then none else S.tm t, fun s => bif memNat s dL then none else S.lo s, S.hp⟩

/-- The ways are laid into one. -/
def mergeK (ts ls dT dL : List Nat) (tr : Tree MS) (S : St) (K : St → Prop) : Prop :=
  match merge S ts ls dT dL tr with
  | some (r, U, W) => req r (K (cutS dT dL ⟨getU S U, getW S W, S.hp⟩))
  | none => False

def stepsM (R : Rec) (ann : Ann) (N : Nat) (ts ls dT dL : List Nat) (ops : List Oper) : List Oper → St → (St → Prop) → Prop
  | [], S, K => K (cutS dT dL S)
  | o :: l, S, K => match o.guard with
    | none => stepB E R ann N ops o S fun S' => stepsM R ann N ts ls dT dL ops l S' K
    | some _ => mergeK ts ls dT dL (stepsT E ann N ops (o :: l) S ⟨[], [], []⟩) S K

def T.val : Option T → V
  | some (.v x) => x
  | _ => .none

def isKT : KT → Option T → Bool
  | .k k, some (.v x) => x.isK k
  | .agg ks, some (.v x) => x.isAgg && fits ks x.aggCells
  | .lp s, some (.lp s' 0) => Nat.beq s s'
  | .undef, some .undef => true
  | _, _ => false

def asKT : KT → Option T → T
  | .k k, x => .v ((T.val x).asK k)
  | .agg ks, x => .v (.agg (expand ks (T.val x).aggCells 0))
  | .lp s, _ => .lp s 0
  | .undef, _ => .undef

def locCells : Option Loc → List V
  | some (.cells _ cs) => cs
  | _ => []

def isLK (e : TypeId) (ks : List Kind) : Option Loc → Bool
  | some (.cells e' cs) => Nat.beq e e' && fits ks cs
  | _ => false

def openT (S : St) : List (Nat × KT) → Bool × List (Nat × T)
  | [] => (true, [])
  | (t, k) :: l => (isKT k (S.tm t) && (openT S l).1, (t, asKT k (S.tm t)) :: (openT S l).2)

def openL (S : St) : List (Nat × TypeId × List Kind) → Bool × List (Nat × Loc)
  | [] => (true, [])
  | (s, e, ks) :: l => (isLK e ks (S.lo s) && (openL S l).1, (s, .cells e (expand ks (locCells (S.lo s)) 0)) :: (openL S l).2)

/-- A state of which nothing is known is laid open. -/
def openS (ts : List (Nat × KT)) (ls : List (Nat × TypeId × List Kind)) (S : St) (K : St → Prop) : Prop :=
  req ((openT S ts).1 && (openL S ls).1) (K ⟨look (openT S ts).2, look (openL S ls).2, S.hp⟩)

def keepOf (ann : Ann) (n : Nat) : Option Keep := look ann.keeps n

def outs {α β : Type} : List (α × β) → List α
  | [] => []
  | (a, _) :: l => a :: outs l

def exitsK (kp : Keep) (K : Ex → St → Prop) : List Nat → Nat → St → Prop
  | [], _, _ => False
  | j :: l, id, S => br (Nat.beq id j) (openS kp.outT kp.outL S (K (.exit j))) (exitsK kp K l id S)

/-- The operations' footprints: which of the others may be done ahead of one. -/
def slotsOf : List Operand → List Nat
  | [] => []
  | .tmp t :: l => t :: slotsOf l
  | _ :: l => slotsOf l

structure Foot where
  rt : List Nat
  wt : List Nat
  rl : List Nat
  wl : List Nat
  rh : Bool
  wh : Bool

def basedOn (d : Nat) : List (Nat × Nat) → List Nat
  | [] => []
  | (t, s) :: l => bif Nat.beq s d then t :: basedOn d l else basedOn d l

def guardSlots (ops : List Oper) (o : Oper) : List Nat :=
  match o.guard with
  | some (j, _) => (match ops[j]? with | some q => q.dst.toList | none => [])
  | none => []

def rtOf (ops : List Oper) (o : Oper) : List Nat := slotsOf o.op.operands.toList ++ guardSlots ops o

def killed (ann : Ann) (o : Oper) : List Nat := match o.dst with | some d => basedOn d ann.base | none => []

def footOf : Cls → List Nat → List Nat → List Nat → Foot
  | .pure, rt, wt, _ => ⟨rt, wt, [], [], false, false⟩
  | .lload s, rt, wt, _ => ⟨rt, wt, [s], [], false, false⟩
  | .lstore s, rt, wt, _ => ⟨rt, wt, [s], [s], false, false⟩
  | .lnew, rt, wt, ex => ⟨rt, wt ++ ex, [], wt, false, false⟩
  | .hread, rt, wt, _ => ⟨rt, wt, [], [], true, false⟩
  | .hwrite, rt, wt, _ => ⟨rt, wt, [], [], true, true⟩

def foot (ann : Ann) (ops : List Oper) (o : Oper) : Foot := footOf (cls E ann o) (rtOf ops o) o.dst.toList (killed ann o)

def meetN : List Nat → List Nat → Bool
  | [], _ => false
  | x :: l, m => memNat x m || meetN l m

def apart (a b : Foot) : Bool :=
  !meetN a.wt b.rt && !meetN a.wt b.wt && !meetN b.wt a.rt && !meetN a.wl b.rl && !meetN a.wl b.wl && !meetN b.wl a.rl
    && !(a.wh && b.rh) && !(b.wh && a.rh)

/-- The places of the operations that must stand before, by the edges; of all of them, one list each. -/
def before1 (acc : List (List Nat)) : List Edge → List Nat
  | [] => []
  | e :: l => bif Region.binds .any e then e.on :: (acc[e.on]?.getD [] ++ before1 acc l) else before1 acc l

def befores : List Oper → List (List Nat) → List (List Nat)
  | [], acc => acc
  | o :: l, acc => befores l (acc ++ [before1 acc o.after.toList])

def edges1 (i : Nat) : List Edge → Bool
  | [] => true
  | e :: l => (!Region.binds .any e || Nat.blt e.on i) && edges1 i l

def edgesOk : List Oper → Nat → Bool
  | [], _ => true
  | o :: l, i => edges1 i o.after.toList && edgesOk l (i + 1)

def drawOk1 (fs : List Foot) (bs : List (List Nat)) (i : Nat) (f : Foot) : Nat → Bool
  | 0 => true
  | j + 1 => (match fs[j]?, bs[i]? with | some g, some b => memNat j b || apart f g | _, _ => false) && drawOk1 fs bs i f j

def drawOkAll (fs : List Foot) (bs : List (List Nat)) : List Foot → Nat → Bool
  | [], _ => true
  | f :: l, i => drawOk1 fs bs i f i && drawOkAll fs bs l (i + 1)

/-- May a region's operations be done in the order of the text, whatever the order? -/
def drawOk (ann : Ann) (ops : List Oper) : Bool :=
  let fs := ops.map (foot E ann ops)
  edgesOk ops 0 && drawOkAll fs (befores ops []) fs 0

/-- In which order a region's operations may be done, up to those that are apart. -/
inductive Sched where
  | nil | fail
  | one (i : Nat) (r : Sched)
  | both (a b : Sched)
  deriving Inhabited

def delN (n : Nat) : List Nat → List Nat
  | [] => []
  | x :: l => bif Nat.beq n x then delN n l else x :: delN n l

def beforeOf (bs : List (List Nat)) (i : Nat) : List Nat := bs[i]?.getD []

def readyIn (bs : List (List Nat)) (rem : List Nat) (i : Nat) : Bool := !meetN (beforeOf bs i) rem

/-- Is it apart from every other one that is not behind it? -/
def clashFree (fs : List Foot) (bs : List (List Nat)) (i : Nat) (f : Foot) : List Nat → Bool
  | [] => true
  | j :: l => (Nat.beq i j || memNat i (beforeOf bs j) || (match fs[j]? with | some g => apart g f && apart f g | none => false)) && clashFree fs bs i f l

def pickIn (fs : List Foot) (bs : List (List Nat)) (rem : List Nat) : List Nat → Option Nat
  | [] => none
  | i :: l => match readyIn bs rem i, fs[i]? with
    | true, some f => bif clashFree fs bs i f rem then some i else pickIn fs bs rem l
    | _, _ => pickIn fs bs rem l

def allS (f : Nat → Sched) : List Nat → Sched
  | [] => .fail
  | [i] => .one i (f i)
  | i :: l => .both (.one i (f i)) (allS f l)

def readyOf (bs : List (List Nat)) (rem : List Nat) : List Nat → List Nat
  | [] => []
  | i :: l => bif readyIn bs rem i then i :: readyOf bs rem l else readyOf bs rem l

def sched (fs : List Foot) (bs : List (List Nat)) : Nat → List Nat → Sched
  | _, [] => .nil
  | 0, _ => .fail
  | n + 1, rem => match pickIn fs bs rem rem with
    | some i => .one i (sched fs bs n (delN i rem))
    | none => allS (fun i => sched fs bs n (delN i rem)) (readyOf bs rem rem)

def schedK (step : Nat → St → (St → Prop) → Prop) : Sched → St → (St → Prop) → Prop
  | .nil, S, K => K S
  | .fail, _, _ => False
  | .one i r, S, K => step i S fun S' => schedK step r S' K
  | .both a b, S, K => schedK step a S K ∧ schedK step b S K

def joinK (kp : Option Keep) (A : (Ex → St → Prop) → Prop) (K : Ex → St → Prop) : Prop :=
  match kp with
  | none => A K
  | some kp => joinP (fun Q => A fun e S => match e with | .normal => normK (outs kp.outT) (outs kp.outL) S Q | e => K e S) fun S => openS kp.outT kp.outL S (K .normal)

/-- What was there, but where it has been written. -/
def over {α : Type} (l : List (Nat × α)) (dr : List Nat) (g : Nat → Option α) : Nat → Option α :=
  fun t => match look l t with | some x => some x | none => bif memNat t dr then none else g t

/-- Ways that meet again; what is written nowhere on them is as it was. -/
def joinD (kp : Keep) (S0 : St) (A : (Ex → St → Prop) → Prop) (K : Ex → St → Prop) : Prop :=
  joinP (fun Q => A fun e S => match e with | .normal => normK (outs kp.outT) (outs kp.outL) S Q | e => K e S)
    fun S => req ((openT S kp.outT).1 && (openL S kp.outL).1) (K .normal ⟨over (openT S kp.outT).2 kp.wT S0.tm, over (openL S kp.outL).2 kp.wL S0.lo, S.hp⟩)

def subN : List Nat → List Nat → Bool
  | [], _ => true
  | x :: l, m => memNat x m && subN l m

def wOk1 (ann : Ann) (wT wL : List Nat) (o : Oper) : Bool :=
  subN o.dst.toList wT && subN (killed ann o) wT && (match cls E ann o with
    | .lstore s => memNat s wL
    | .lnew => subN o.dst.toList wL
    | _ => true)

def wOkAll (ann : Ann) (wT wL : List Nat) : List Oper → Bool
  | [] => true
  | o :: l => wOk1 E ann wT wL o && wOkAll ann wT wL l

def wOkK (wT wL : List Nat) (kp : Keep) : Bool := subN kp.wT wT && subN kp.wL wL && subN (outs kp.outT) wT && subN (outs kp.outL) wL

def wOkJ (wT wL : List Nat) : Option Keep → Bool
  | none => true
  | some kp => kp.dl && wOkK wT wL kp

/-- Is nothing else written? -/
def wOk (ann : Ann) (wT wL : List Nat) : Code → Nat → Bool
  | .skip, _ => true
  | .seq a b, n => wOk ann wT wL a n && wOk ann wT wL b (n + cnt a)
  | .cond _ x y, n => wOkJ wT wL (keepOf ann n) && (wOk ann wT wL x (n + 1) && wOk ann wT wL y (n + 1 + cnt x))
  | .block id b, n => wOkJ wT wL (look ann.blocks id) && wOk ann wT wL b n
  | .scope b, n => wOk ann wT wL b n
  | .label _, _ => true
  | .exit _, _ => true
  | .ret, _ => true
  | .region _ ops _, n => wOkAll E ann wT wL ops.toList && (match keepOf ann n with
    | none => true
    | some kp => match kp.mg with
      | true => subN kp.inT wT && subN kp.inL wL && subN kp.wT wT && subN kp.wL wL
      | false => kp.dl && wOkK wT wL kp)
  | _, _ => false

def joinW (ok : Keep → Bool) (kp : Option Keep) (S0 : St) (A : (Ex → St → Prop) → Prop) (K : Ex → St → Prop) : Prop :=
  match kp with
  | none => A K
  | some kp => match kp.dl with
    | true => req (ok kp) (joinD kp S0 A K)
    | false => joinK (some kp) A K

def stepIB (R : Rec) (ann : Ann) (N : Nat) (ops : List Oper) (i : Nat) (S : St) (K : St → Prop) : Prop :=
  match ops[i]? with
  | some o => stepB E R ann N ops o S K
  | none => False

/-- A region's operations, one behind the other; or in each order that matters. -/
def regionB (R : Rec) (ann : Ann) (N : Nat) (ops : List Oper) (draw : Bool) (S : St) (K : St → Prop) : Prop :=
  match !draw || drawOk E ann ops with
  | true => stepsB E R ann N ops ops S K
  | false => req (edgesOk ops 0) (schedK (stepIB E R ann N ops) (sched (ops.map (foot E ann ops)) (befores ops []) ops.length (List.range ops.length)) S K)

def exec (R : Rec) (f : FuncId) (ann : Ann) (N : Nat) : Code → Nat → St → (Ex → St → Prop) → Prop
  | .skip, _, S, K => K .normal S
  | .seq a b, n, S, K => exec R f ann N a n S fun e S' => match e with | .normal => exec R f ann N b (n + cnt a) S' K | e => K e S'
  | .cond c x y, n, S, K =>
    match evalO S.tm c with
    | some (.v (.bool t)) => joinW (fun kp => wOk E ann kp.wT kp.wL x (n + 1) && wOk E ann kp.wT kp.wL y (n + 1 + cnt x)) (keepOf ann n) S
        (fun K => br t (exec R f ann N x (n + 1) S K) (exec R f ann N y (n + 1 + cnt x) S K)) K
    | _ => False
  | .block id b, n, S, K => joinW (fun kp => wOk E ann kp.wT kp.wL b n) (look ann.blocks id) S (fun K => exec R f ann N b n S fun e S' => match e with
    | .exit j => br (Nat.beq j id) (K .normal S') (K (.exit j) S')
    | e => K e S') K
  | .exit id, _, S, K => K (.exit id) S
  | .ret, _, S, K => K .ret S
  | .region _ ops draw, n, S, K =>
    match keepOf ann n with
    | none => regionB E R ann N ops.toList draw S (K .normal)
    | some kp => match kp.mg with
      | true => req (!draw || drawOk E ann ops.toList) (stepsM E R ann N kp.inT kp.inL kp.wT kp.wL ops.toList ops.toList S (K .normal))
      | false => joinW (fun kp => wOkAll E ann kp.wT kp.wL ops.toList) (some kp) S (fun K => regionB E R ann N ops.toList draw S (K .normal)) K
  | .loop c, n, S, K =>
    match keepOf ann n with
    | some kp => normK kp.inT kp.inL S fun S0 => R.loop c f n S0 (fun S' => openS kp.retT kp.retL S' (K .ret)) (exitsK kp K kp.exits)
    | none => False
  | .scope b, n, S, K => exec R f ann N b n S K
  | .label _, _, S, K => K .normal S
  | _, _, _, _ => False

/-- What a function's results read as at its end. -/
def result1 (S : St) : ResultVar → (V → Prop) → Prop
  | .tmp t, K => match S.tm t with | some (.v x) => K x | _ => False
  | .cell a t, K => match S.tm a with
    | some (.lp s off) => match S.lo s with
      | some (.cells _ cs) => match partOf E t cs off with | some (r, v) => req r (K v) | none => False
      | _ => False
    | _ => match hreadOp E (.load t (.tmp a)) (evalO S.tm) S.hp with
      | some d => d.run fun x => match x with | .v v => K v | _ => False
      | none => False

def resultsA (S : St) : List ResultVar → (List V → Prop) → Prop
  | [], K => K []
  | r :: l, K => result1 E S r fun v => resultsA S l fun vs => K (v :: vs)

def retK (fn : Func) (K : V → Heap → Prop) (S : St) : Prop :=
  resultsA E S fn.results.toList fun vs => match vs with | [v] => K v S.hp | vs => K (.tuple vs) S.hp

def argsT : List V → Nat → Nat → Option T
  | [], _, _ => none
  | v :: l, j, t => bif Nat.beq t j then some (.v v) else argsT l (j + 1) t

/-- One step of the least fixpoint: a call; a loop's round. -/
def F (R : Rec) : Rec where
  call f args H K :=
    match E.fn f with
    | some fn => match fn.body with
      | some c => req (Nat.ble args.length fn.ntmps)
          (exec E R f (E.ann f) fn.ntmps c 0 ⟨argsT args 0, fun _ => none, H⟩ fun e S => match e with | .exit _ => False | _ => retK E fn K S)
      | none => False
    | none => False
  loop c f n S Kr Ke :=
    match E.fn f, keepOf (E.ann f) n with
    | some fn, some kp => exec E R f (E.ann f) fn.ntmps c (n + 1) S fun e S' => match e with
      | .normal => normK kp.inT kp.inL S' fun S0 => R.loop c f n S0 Kr Ke
      | .exit id => normK (outs kp.outT) (outs kp.outL) S' (Ke id)
      | .ret => normK (outs kp.retT) (outs kp.retL) S' Kr
    | _, _ => False

structure Rec.le (A B : Rec) : Prop where
  call : ∀ f args H K K', (∀ v H', K v H' → K' v H') → A.call f args H K → B.call f args H K'
  loop : ∀ c f n S Kr Kr' Ke Ke', (∀ S', Kr S' → Kr' S') → (∀ id S', Ke id S' → Ke' id S') → A.loop c f n S Kr Ke → B.loop c f n S Kr' Ke'

/-- The least one that its own step leads into. -/
def Run : Rec where
  call f args H K := ∀ R : Rec, R.le R → (F E R).le R → R.call f args H K
  loop c f n S Kr Ke := ∀ R : Rec, R.le R → (F E R).le R → R.loop c f n S Kr Ke

end
end Go.Am
