/- Part 1 of what the law UnitFalls wants. -/
import Derived.Orders
import Derived.LoopN
import Derived.Laws.IdiomCopy
import Derived.ChangeKeysEq
import Derived.Laws.Append
import Derived.Laws.AppendOwn
import Derived.IntWalk
import Derived.Maps.RangeRun
set_option maxRecDepth 100000
set_option linter.unusedSimpArgs false
set_option linter.unusedVariables false
set_option linter.unusedSectionVars false
open List Option
section
namespace Go.Am
abbrev Oq:=Option (Nat×Nat)
inductive V where
 |bool (b:Bool)
 |int (k:IntKind) (n:Int)
 |cL (s:ByteArray)
 |ay (p:Oq)
 |slice (p:Oq) (len cap:Nat)
 |map (r:Option Nat)
 |func (f:FuncId) (dO:List V)
 |pn (f:FuncId) (first:List V)
 |dV (t:TypeId) (id:Nat)
 |nilFunc
 |iface (t:TypeId) (v:V)
 |nilIface
 |agg (cs:List V)
 |tuple (vs:List V)
 |cB
 deriving Inhabited
namespace V
def none:V:=.tuple []
def aq:V→Bool| .bool b=>b|_=>false
def aa:V→Int| .int _ n=>n|_=>0
def jx:V→ByteArray| .cL s=>s|_=>ByteArray.empty
def ak:V→Oq| .ay p=>p|_=>Option.none
def aj:V→Oq| .slice p _ _=>p|_=>Option.none
def an:V→Nat| .slice _ n _=>n|_=>0
def aC:V→Nat| .slice _ _ c=>c|_=>0
def dE:V→Option Nat| .map r=>r|_=>Option.none
def ag:V→List V| .agg cs=>cs|_=>[]
def aw:V→List V| .tuple vs=>vs|_=>[]
def cells:V→List V| .agg cs=>cs|v=>[v]
def isAgg:V→Bool| .agg _=>true|_=>false
def aO (n:Nat):V→Bool| .tuple vs=>vs.length == n|_=>false
def gU:V→Bool| .nilFunc=>true|_=>false
def fu:V→Bool| .nilIface=>true|_=>false
def CT:V→TypeId| .iface t _=>t|_=>0
def Ny:V→V| .iface _ v=>v|v=>v
def one:V→Bool| .agg _| .tuple _| .cB=>false|_=>true
end V
def TA:IntKind→Nat
 | .i8=>0| .i16=>1| .i32=>2| .i64=>3| .u8=>4| .u16=>5| .u32=>6| .u64=>7
def pG (a b:IntKind):Bool:=Nat.beq (TA a) (TA b)
@[simp] theorem nk (a b:IntKind):pG a b=decide (a=b):=by cases a<;>cases b<;>decide
def RB:Bool→Bool→Bool
 |true,b=>b
 |false,b=> !b
theorem RC (w b:Bool):RB w b=(b == w):=by cases w<;>cases b<;>rfl
inductive cA where
 |bool|int (k:IntKind)|cL|ay|slice|map|func|iface|my
 deriving DecidableEq,Inhabited
def V.da:V→cA
 | .bool _=>.bool| .int k _=>.int k| .cL _=>.cL| .ay _=>.ay| .slice .. =>.slice| .map _=>.map
 | .func .. | .pn .. | .nilFunc=>.func| .iface .. | .nilIface=>.iface|_=>.my
def V.ax:cA→V→Bool
 | .bool,.bool _=>true
 | .int k,.int k' _=>pG k k'
 | .cL,.cL _=>true
 | .ay,.ay _=>true
 | .slice,.slice .. =>true
 | .map,.map _=>true
 | .func,.func .. =>true
 | .func,.pn .. =>true
 | .func,.nilFunc=>true
 | .iface,.iface .. =>true
 | .iface,.nilIface=>true
 |_,_=>false
def V.TB:cA→V→V
 | .bool,v=>.bool v.aq
 | .int k,v=>.int k v.aa
 | .cL,v=>.cL v.jx
 | .ay,v=>.ay v.ak
 | .slice,v=>.slice v.aj v.an v.aC
 | .map,v=>.map v.dE
 |_,v=>v
theorem V.sx {k:cA} {v:V} (h:v.ax k=true):v.TB k=v:=by
 cases k<;>cases v<;>simp_all [V.ax,V.TB,aq,aa,jx,ak,aj,an,aC,dE]
theorem V.sy {k:cA} {v:V} (h:v.ax k=true):v.one=true:=by
 cases k<;>cases v<;>simp_all [V.ax,V.one]
def ae:List V→Nat→V
 |[],_=>.none
 |x::_,0=>x
 |_::l,n+1=>ae l n
def aM:List cA→List V→Bool
 |[],[]=>true
 |k::ks,v::vs=>v.ax k&&aM ks vs
 |_,_=>false
def oi:List cA→List V→Nat→List V
 |[],_,_=>[]
 |k::ks,cs,j=>(ae cs j).TB k::oi ks cs (j+1)
def bU (c:Bool):V→V→V
 | .int k x,.int k' y=>bif pG k k' then .int k (bif c then x else y) else (bif c then .int k x else .int k' y)
 | .bool x,.bool y=>.bool (bif c then x else y)
 | .cL x,.cL y=>.cL (bif c then x else y)
 |a,b=>bif c then a else b
theorem nn (c:Bool) (a b:V):bU c a b=if c then a else b:=by
 unfold bU;split
 ·rename_i k x k' y;by_cases h:k=k'
  ·subst h;cases c<;>simp
  ·cases c<;>simp [h]
 ·cases c<;>rfl
 ·cases c<;>rfl
 ·cases c<;>rfl
def tP (c:Bool):List V→List V→Option (List V)
 |[],[]=>some []
 |x::l,y::m=>match tP c l m with|some r=>some (bU c x y::r)|none=>none
 |_,_=>none
def HC (c:Bool):V→V→V
 | .agg xs,.agg ys=>match tP c xs ys with|some r=>.agg r|none=>bif c then .agg xs else .agg ys
 |a,b=>bU c a b
theorem sA {c:Bool}:∀{xs ys r:List V},tP c xs ys=some r→r=if c then xs else ys
 |[],[],r,h=>by cases h;cases c<;>rfl
 |x::l,y::m,r,h=>by
  simp only[tP] at h;split at h
  ·rename_i r' h';cases h;rw[nn,sA h'];cases c<;>rfl
  ·cases h
 |[],_::_,_,h=>by cases h
 |_::_,[],_,h=>by cases h
theorem Lo (c:Bool) (a b:V):HC c a b=if c then a else b:=by
 unfold HC;split
 ·split
  ·rename_i r h;rw[sA h];cases c<;>rfl
  ·cases c<;>rfl
 ·exact nn c _ _
def yn:List V→Nat→Nat→V→List V
 |[],_,_,_=>[]
 |x::l,j,n,v=>bU (Nat.beq j n) v x::yn l (j+1) n v
def bH:List V→Nat→List V→List V
 |cs,_,[]=>cs
 |cs,off,v::vs=>bH (yn cs 0 off v) (off+1) vs
inductive T where
 |v (x:V)
 |lp (s off:Nat)
 |undef
 deriving Inhabited
inductive aU where
 |cells (e:TypeId) (cs:List V)
 |dV (s:ByteArray) (jr:Nat)
 deriving Inhabited
inductive Obj where
 |cells (e:TypeId) (cs:List V) (ro:Bool)
 |map (es:List (V×V×Nat)) (clock:Nat)
 |dV (m:Option Nat) (cd:Nat) (seen:List Nat) (tQ:Nat)
 deriving Inhabited
def sB (k:IntKind):List (V×V×Nat)→Bool
 |[]=>true
 |e::l=>e.1.ax (.int k)&&sB k l
def np (n:Int):List (V×V×Nat)→Option V
 |[]=>none
 |e::l=>bif decide (e.1.aa=n) then some e.2.1 else np n l
def E8 (n:Int) (v:V):List (V×V×Nat)→List (V×V×Nat)
 |[]=>[]
 |e::l=>bif decide (e.1.aa=n) then (e.1,v,e.2.2)::l else e::E8 n v l
def yo (n:Int):List (V×V×Nat)→List (V×V×Nat)
 |[]=>[]
 |e::l=>bif decide (e.1.aa=n) then l else e::yo n l
def Br (b:Nat):List (V×V×Nat)→Option (V×V)
 |[]=>none
 |e::l=>bif Nat.beq e.2.2 b then some (e.1,e.2.1) else Br b l
def oj (cd:Nat):List (V×V×Nat)→Bool
 |[]=>true
 |e::l=>Nat.blt e.2.2 cd&&oj cd l
def tT (n:Nat):List Nat→Bool
 |[]=>false
 |x::l=>Nat.beq n x||tT n l
def lz (seen:List Nat):List (V×V×Nat)→List Nat
 |[]=>[]
 |e::l=>bif tT e.2.2 seen then lz seen l else e.2.2::lz seen l
def Bs:List Nat→Option Nat
 |[]=>none
 |[x]=>some x
 |_::l=>Bs l
def Nz:List Nat:=[]
structure ai where
 get:Nat→Option Obj
 next:Nat
namespace ai
def cs (H:ai) (id:Nat):List V:=match H.get id with|some (.cells _ cs _)=>cs|_=>[]
def inb (H:ai) (id off n:Nat):Bool:=match H.get id with|some (.cells _ cs _)=>Nat.ble (off+n) cs.length|_=>false
def wr (H:ai) (id off n:Nat):Bool:=match H.get id with|some (.cells _ cs ro)=> !ro&&Nat.ble (off+n) cs.length|_=>false
def cell (H:ai) (id off:Nat):V:=ae (H.cs id) off
def sub (H:ai) (id off n:Nat):List V:=((H.cs id).drop off).take n
def put (H:ai) (id:Nat) (o:Obj):ai:={H with get:=fun j=>bif Nat.beq j id then some o else H.get j}
def store (H:ai) (id off:Nat) (vs:List V):ai:=
 match H.get id with
 |some (.cells e cs ro)=>H.put id (.cells e (bH cs off vs) ro)
 |_=>H
def alloc (H:ai) (o:Obj):ai:={get:=fun j=>bif Nat.beq j H.next then some o else H.get j,next:=H.next+1}
def ents (H:ai) (id:Nat):List (V×V×Nat):=match H.get id with|some (.map es _)=>es|_=>[]
def isMap (H:ai) (id:Nat):Bool:=match H.get id with|some (.map _ _)=>true|_=>false
def clock (H:ai) (id:Nat):Nat:=match H.get id with|some (.map _ c)=>c|_=>0
end ai
def eM (H:ai) (k:IntKind) (r:Option Nat):Bool:=r.isNone||(H.isMap (r.getD 0)&&sB k (H.ents (r.getD 0)))
def lA (H:ai) (r:Option Nat) (n:Int):Bool:=r.isSome&&(np n (H.ents (r.getD 0))).isSome
def cC (H:ai) (r:Option Nat) (n:Int) (z:V):V:=bif r.isNone then z else (np n (H.ents (r.getD 0))).getD z
def yp (H:ai) (r:Option Nat):Nat:=bif r.isNone then 0 else (H.ents (r.getD 0)).length
def iq (H:ai) (k:IntKind) (id:Nat) (n:Int) (v:V):ai:=
 bif (np n (H.ents id)).isSome then H.put id (.map (E8 n v (H.ents id)) (H.clock id))
 else H.put id (.map (H.ents id++[(.int k n,v,H.clock id)]) (H.clock id+1))
def pH (H:ai) (r:Option Nat) (n:Int):ai:=bif r.isNone then H else H.put (r.getD 0) (.map (yo n (H.ents (r.getD 0))) (H.clock (r.getD 0)))
def mapIter (H:ai) (r:Option Nat):Obj:=bif r.isNone then .dV none 0 [] 0 else .dV r (H.clock (r.getD 0)) [] (H.clock (r.getD 0))
def mapNext (H:ai) (id:Nat) (K1:Prop) (K2:ai→Prop):Prop:=
 match H.get id with
 |some (.dV none _ _ _)=>K1
 |some (.dV (some m) cd seen tQ)=>
  match H.get m with
  |some (.map es c)=>
   bif oj cd es&&Nat.ble cd tQ then
    (match lz seen es with
    |[]=>K1
    |x::l=>∀b,b∈x::l→K2 (H.put id (.dV (some m) cd (seen++[b]) c)))
   else False
  |_=>False
 |_=>False
def vE (H:ai) (id:Nat):Option (V×V):=
 match H.get id with
 |some (.dV (some m) _ seen tQ)=>
  match H.get m,Bs seen with
  |some (.map es c),some b=>bif Nat.beq c tQ then Br b es else none
  |_,_=>none
 |_=>none
def sC (H:ai) (id:Nat):Bool:=(vE H id).isSome
def kR (H:ai) (id:Nat):V:=((vE H id).getD (.cB,.cB)).1
def iO (H:ai) (id:Nat):V:=((vE H id).getD (.cB,.cB)).2
structure St where
 tm:Nat→Option T
 lo:Nat→Option aU
 hp:ai
def St.setT (S:St) (d:Nat) (x:T):St:={S with tm:=fun t=>bif Nat.beq t d then some x else S.tm t}
def St.setL (S:St) (s:Nat) (x:aU):St:={S with lo:=fun t=>bif Nat.beq t s then some x else S.lo t}
def ab {α:Type}:List (Nat×α)→Nat→Option α
 |[],_=>none
 |(k,x)::l,n=>bif Nat.beq n k then some x else ab l n
inductive NA where
 |bool|int (k:IntKind)|cL|ay (e:TypeId)|slice (e:TypeId)|map (k e:TypeId)|func|iface
 |arr (n:Nat) (e:TypeId)|struct (fs:List (Nat×TypeId))|tuple (ts:List TypeId)|my
 deriving DecidableEq,Inhabited
structure TI where
 sh:NA
 size:Nat
 bytes:Nat
 zero:Option V
 deriving Inhabited
def ofValue:Value→Option V
 | .bool b=>some (.bool b)
 | .int k n=>some (.int k n)
 | .string s=>some (.cL s)
 | .pointer none=>some (.ay none)
 | .slice none 0 0=>some (.slice none 0 0)
 | .map none=>some (.map none)
 | .nilFunc=>some .nilFunc
 | .nilIface=>some .nilIface
 |_=>none
def jU:List Value→Option (List V)
 |[]=>some []
 |x::l=>match ofValue x,jU l with
  |some y,some m=>some (y::m)
  |_,_=>none
def lB:Value→Option V
 | .agg cs=>match jU cs.toList with|some l=>some (.agg l)|none=>none
 |v=>ofValue v
def bw:TypeDesc→NA
 | .bool=>.bool
 | .int k=>.int k
 | .string=>.cL
 | .pointer e=>.ay e
 | .slice e=>.slice e
 | .map k e=>.map k e
 | .func .. =>.func
 | .interface _=>.iface
 | .array n e=>.arr n e
 | .struct fs=>.struct (fs.toList.map fun f=>(f.offset,f.type))
 | .tuple ts=>.tuple ts.toList
 |_=>.my
def RD (P:Program) (t:TypeId):Option TI:=
 match P.info? t,P.underlying t with
 |some i,some d=>some {sh:=bw d,size:=i.size,bytes:=i.bytes,zero:=i.zero.bind lB}
 |_,_=>none
inductive KT where
 |k (k:cA)
 |agg (ks:List cA)
 |lp (s:Nat)
 |undef
 deriving Inhabited
structure jy where
 cQ:List Nat:=[]
 tU:List Nat:=[]
 cj:List (Nat×KT):=[]
 hJ:List (Nat×TypeId×List cA):=[]
 kS:List (Nat×KT):=[]
 UF:List (Nat×TypeId×List cA):=[]
 cD:List Nat:=[]
 mg:Bool:=false
 dl:Bool:=false
 wT:List Nat:=[]
 wL:List Nat:=[]
 deriving Inhabited
structure bS where
 aZ:List Nat:=[]
 aX:List (Nat×Nat):=[]
 bg:List (Nat×jy):=[]
 aG:List (Nat×jy):=[]
 deriving Inhabited
def bI (n:Nat):List Nat→Bool
 |[]=>false
 |x::l=>Nat.beq n x||bI n l
def lC (g:TypeId→Option (List cA)):List Field→Nat→Option (List cA)
 |[],_=>some []
 |f::l,o=>bif f.name != "_" &&Nat.beq f.offset o then (match g f.type with
  |some ks=>(match lC g l (o+ks.length) with|some r=>some (ks++r)|none=>none)
  |none=>none) else none
def AS:Nat→List cA→List cA
 |0,_=>[]
 |n+1,ks=>ks++AS n ks
def lD (P:Program):Nat→TypeId→Option (List cA)
 |0,_=>none
 |d+1,t=>match P.underlying t with
  |some .bool=>some [.bool]
  |some (.int k)=>some [.int k]
  |some .string=>some [.cL]
  |some (.struct fs)=>bif P.stoodInHeld t then none else match lC (lD P d) fs.toList 0 with
   |some ks=>bif Nat.beq (P.cellsOf t) ks.length then some ks else none
   |none=>none
  |some (.array n e)=>match lD P d e with
   |some ks=>bif Nat.beq (P.cellsOf e) ks.length&&Nat.beq (P.cellsOf t) (n*ks.length) then some (AS n ks) else none
   |none=>none
  |_=>none
def iP:TypeDesc→Bool
 | .struct _=>true
 | .array _ _=>true
 |_=>false
def Lp (P:Program) (t:TypeId) (ks:List cA):Bool:=
 !P.eqGuardType P.depth t&&decide (lD P 50 t=some ks)&&(match P.underlying t with|some d=>iP d|none=>false)
structure Ext where
 run:List V→ai→(V→ai→Prop)→Prop
 mono:∀args H (K K':V→ai→Prop),(∀v H',K v H'→K' v H')→run args H K→run args H K'
 vF:∀args H (K:V→ai→Prop),run args H K→∃v H',K v H'
structure kG where
 P:Program
 ext:Nat→Option Ext:=fun _=>none
 fn:Nat→Option Func
 fn_ok:∀f x,fn f=some x→P.funcs[f]? =some x
 ti:Nat→Option TI
 ti_ok:∀t x,ti t=some x→RD P t=some x
 ann:Nat→bS
 eqt:List (TypeId×List cA)
 eq_ok:∀t ks,ab eqt t=some ks→Lp P t ks=true
 names:P.funcs.toList.all (fun fn=> !(fn.name == "runtime.NumGoroutine"))=true
structure fS (α:Type) where
 rq:Bool
 c:Bool
 x:α
 y:α
def fS.one {α:Type} (rq:Bool) (x:α):fS α:=⟨rq,true,x,x⟩
abbrev Ev:=Operand→Option T
def cY (tm:Nat→Option T):Operand→Option T
 | .tmp t=>tm t
 | .const v=>match ofValue v with|some x=>some (.v x)|none=>none
 | .func f=>some (.v (.func f []))
 | .global _=>none
def ji (ev:Ev) (x:Operand):Option V:=match ev x with|some (.v y)=>some y|_=>none
def sD (ev:Ev):List Operand→Option (List V)
 |[]=>some []
 |x::l=>match ji ev x,sD ev l with
  |some y,some m=>some (y::m)
  |_,_=>none
def cU:NA→Option cA
 | .bool=>some .bool
 | .int k=>some (.int k)
 | .cL=>some .cL
 | .ay _=>some .ay
 | .slice _=>some .slice
 | .map .. =>some .map
 | .func=>some .func
 | .iface=>some .iface
 |_=>none
section aJ
variable (E:kG)
def size (t:TypeId):Option Nat:=match E.ti t with|some i=>some i.size|none=>none
def bq (t:TypeId):Option cA:=
 match E.ti t with
 |some i=>cU i.sh
 |none=>none
def om (t:TypeId):Option (List cA):=
 match E.ti t with
 |some i=>match i.sh,i.zero with
  | .arr ..,some (.agg z)=>some (z.map V.da)
  | .struct _,some (.agg z)=>some (z.map V.da)
  |_,_=>none
 |none=>none
def tV (t:TypeId) (v:V):Option (Bool×V):=
 match bq E t with
 |some k=>some (v.ax k,v.TB k)
 |none=>match om E t with
  |some ks=>some (v.isAgg&&aM ks v.ag,.agg (oi ks v.ag 0))
  |none=>none
def tW:List TypeId→V→Nat→Option (Bool×List V)
 |[],_,_=>some (true,[])
 |t::ts,v,j=>match tV E t (ae v.aw j),tW ts v (j+1) with
  |some (b,x),some (c,l)=>some (b&&c,x::l)
  |_,_=>none
def tX (t:TypeId) (v:V):Option (Bool×V):=
 match E.ti t with
 |some i=>match i.sh with
  | .tuple []=>some (true,v)
  | .tuple ts=>match tW E ts v 0 with
    |some (b,l)=>some (v.aO ts.length&&b,.tuple l)
    |none=>none
  |_=>tV E t v
 |none=>none
def kT (y:Int) (n:Nat):Nat:=min y.toNat n
def vG (op:BinOp) (k:IntKind) (x y:Int):Option (Bool×V):=
 match op with
 | .add=>some (true,.int k (k.wrap (x+y)))
 | .sub=>some (true,.int k (k.wrap (x-y)))
 | .mul=>some (true,.int k (k.wrap (x*y)))
 | .quo=>some (!(y == 0),.int k (k.wrap (x.tdiv y)))
 | .rem=>some (!(y == 0),.int k (x.tmod y))
 | .and=>some (true,.int k (k.wrap (BitVec.ofInt k.bits x &&& BitVec.ofInt k.bits y).toNat))
 | .or=>some (true,.int k (k.wrap (BitVec.ofInt k.bits x ||| BitVec.ofInt k.bits y).toNat))
 | .xor=>some (true,.int k (k.wrap (BitVec.ofInt k.bits x ^^^ BitVec.ofInt k.bits y).toNat))
 | .andNot=>some (true,.int k (k.wrap (BitVec.ofInt k.bits x &&& ~~~ BitVec.ofInt k.bits y).toNat))
 | .eql=>some (true,.bool (x == y))
 | .neq=>some (true,.bool (x != y))
 | .lss=>some (true,.bool (decide (x<y)))
 | .leq=>some (true,.bool (decide (x≤y)))
 | .gtr=>some (true,.bool (decide (x>y)))
 | .geq=>some (true,.bool (decide (x≥y)))
 | .shl=>some (decide (0≤y),.int k (k.wrap (x*2 ^ (kT y k.bits))))
 | .shr=>some (decide (0≤y),.int k (x.fdiv (2 ^ (kT y k.bits))))
def mz (x y:ByteArray):Bool:=x.toList == y.toList
def Ya (x y:ByteArray):ByteArray:=x++y
def NB (x y:ByteArray):Bool:=Nat.ble (x.size+y.size) 9223372036854775807
def HD (op:BinOp) (x y:ByteArray):Option (Bool×V):=
 match op with
 | .add=>some (NB x y,.cL (Ya x y))
 | .eql=>some (true,.bool (mz x y))
 | .neq=>some (true,.bool (!(mz x y)))
 | .lss=>some (true,.bool (Op.bytesLess x.toList y.toList))
 | .leq=>some (true,.bool (Op.bytesLess x.toList y.toList||x.toList == y.toList))
 | .gtr=>some (true,.bool (!(Op.bytesLess x.toList y.toList||x.toList == y.toList)))
 | .geq=>some (true,.bool (!Op.bytesLess x.toList y.toList))
 |_=>none
def eH:List V→List V→Option Bool
 |[],[]=>some true
 | .int k x::l,.int k' y::m=>bif pG k k' then (match eH l m with|some b=>some (x == y&&b)|none=>none) else none
 | .bool x::l,.bool y::m=>match eH l m with|some b=>some (x == y&&b)|none=>none
 | .cL x::l,.cL y::m=>match eH l m with|some b=>some (x == y&&b)|none=>none
 |_,_=>none
def dm (xs ys:List V):Bool:=match eH xs ys with|some b=>b|none=>false
def hZ (t:TypeId) (v:V):Option (Bool×List V):=
 match size E t with
 |none=>none
 |some n=>match bq E t with
  |some k=>bif Nat.beq n 1 then some (v.ax k,[v]) else none
  |none=>match om E t with
   |some _=>match v with
    | .agg cs=>some (Nat.beq cs.length n,cs)
    |_=>none
   |none=>none
def sE:Operand→Bool
 | .const .nilIface=>true
 |_=>false
def iQ (t:TypeId) (nils:Bool):V→V→Option (Bool×Bool)
 | .bool x,.bool y=>match bq E t with|some .bool=>some (true,x == y)|_=>none
 | .ay p,.ay none=>match bq E t with|some .ay=>some (true,p.isNone)|_=>none
 | .ay none,.ay p=>match bq E t with|some .ay=>some (true,p.isNone)|_=>none
 | .slice p _ _,.slice none _ _=>match bq E t with|some .slice=>some (true,p.isNone)|_=>none
 | .slice none _ _,.slice p _ _=>match bq E t with|some .slice=>some (true,p.isNone)|_=>none
 | .map p,.map none=>match bq E t with|some .map=>some (true,p.isNone)|_=>none
 | .map none,.map p=>match bq E t with|some .map=>some (true,p.isNone)|_=>none
 | .agg xs,.agg ys=>match ab E.eqt t,eH xs ys with|some ks,some _=>some (aM ks xs&&aM ks ys,dm xs ys)|_,_=>none
 |v,.nilFunc=>match bq E t with|some .func=>some (v.ax .func,v.gU)|_=>none
 | .nilFunc,v=>match bq E t with|some .func=>some (v.ax .func,v.gU)|_=>none
 |v,.nilIface=>bif nils then (match bq E t with|some .iface=>some (v.ax .iface,v.fu)|_=>none) else none
 |_,_=>none
def CU (op:BinOp) (t:TypeId) (nils:Bool):V→V→Option (Bool×V)
 | .int k x,.int k' y=>
   match op with
   | .shl| .shr=>vG op k x y
   |_=>bif pG k k' then vG op k x y else none
 | .cL x,.cL y=>HD op x y
 |x,y=>match op with
  | .eql=>match iQ E t nils x y with|some (r,b)=>some (r,.bool b)|none=>none
  | .neq=>match iQ E t nils x y with|some (r,b)=>some (r,.bool (!b))|none=>none
  |_=>none
def Jq (t:TypeId) (v:V):Option (Bool×Bool):=match bq E t with|some .iface=>some (v.ax .iface,v.fu)|_=>none
def CV (t:TypeId) (v:V):Option (Bool×Bool):=match bq E t with|some .func=>some (v.ax .func,v.gU)|_=>none
def UG (op:BinOp) (t:TypeId) (nils:Bool) (a b:V):Option (Bool×V):=
 match b with
 | .nilIface=>match nils with
   |true=>match op with
    | .eql=>match Jq E t a with|some (r,b)=>some (r,.bool b)|none=>none
    | .neq=>match Jq E t a with|some (r,b)=>some (r,.bool (!b))|none=>none
    |_=>none
   |false=>CU E op t false a .nilIface
 | .nilFunc=>match op with
   | .eql=>match CV E t a with|some (r,b)=>some (r,.bool b)|none=>none
   | .neq=>match CV E t a with|some (r,b)=>some (r,.bool (!b))|none=>none
   |_=>none
 |b=>CU E op t nils a b
def unV:UnOp→V→Option V
 | .not,.bool b=>some (.bool (!b))
 | .neg,.int k n=>some (.int k (k.wrap (0-n)))
 | .xor,.int k n=>some (.int k (k.wrap (BitVec.ofInt k.bits (bif k.signed then-1 else k.max) ^^^ BitVec.ofInt k.bits n).toNat))
 |_,_=>none
def mS (t:TypeId) (cs:List V) (off:Nat):Option (Bool×V):=
 match bq E t with
 |some k=>some (Nat.blt off cs.length&&(ae cs off).ax k,(ae cs off).TB k)
 |none=>match om E t,size E t with
  |some _,some n=>some (Nat.ble (off+n) cs.length,.agg ((cs.drop off).take n))
  |_,_=>none
def HE (s:ByteArray) (i:Nat):Int:=((s.data.toList.getD i 0).toNat:Int)
def tY (t:TypeId) (f:Nat):Option (Nat×TypeId):=
 match E.ti t with
 |some i=>match i.sh with
  | .struct fs=>fs[f]?
  |_=>none
 |none=>none
def sF:Nat→Bool
 |0=>false
 |_=>true
def rZ (x:Operand) (ev:Ev):Option Int:=match ji ev x with|some (.int _ i)=>some i|_=>none
def mT (ev:Ev) (x:Option Operand) (dflt most:Nat):Option (Bool×Nat):=
 match x with
 |none=>some (true,dflt)
 |some y=>match rZ y ev with
  |some i=>some (decide (0≤i)&&decide (i≤(most:Int)),i.toNat)
  |none=>none
def gx (ev:Ev) (len cap:Nat) (lo hi mx:Option Operand):Option (Bool×Nat×Nat×Nat):=
 bif hi.isNone&&mx.isSome then none else
 match mT ev mx cap cap with
 |some m=>match mT ev hi len m.2 with
  |some h=>match mT ev lo 0 h.2 with
   |some l=>some (m.1&&h.1&&l.1,l.2,h.2,m.2)
   |none=>none
  |none=>none
 |none=>none
def bT (p:Oq) (n:Nat):Oq:=match p with|some (id,off)=>some (id,off+n)|none=>none
def xR (mx:Bool):List V→Option V
 |[.int k x]=>some (.int k x)
 |[.int k x,.int k' y]=>bif pG k k' then some (.int k (bif mx then (bif decide (y>x) then y else x) else (bif decide (y<x) then y else x))) else none
 |_=>none
def E9 (b:Builtin) (args:List V) (t:TypeId):Option (fS T):=
 match b,args with
 | .len,[.cL s]=>match bq E t with|some .cL=>some (.one true (.v (.int .i64 (s.size:Int))))|_=>none
 | .len,[.slice _ n _]=>match bq E t with|some .slice=>some (.one true (.v (.int .i64 (n:Int))))|_=>none
 | .cap,[.slice _ _ c]=>match bq E t with|some .slice=>some (.one true (.v (.int .i64 (c:Int))))|_=>none
 | .min,vs=>match xR false vs with|some v=>some (.one true (.v v))|none=>none
 | .max,vs=>match xR true vs with|some v=>some (.one true (.v v))|none=>none
 |_,_=>none
def Bt (x:Option (Bool×V)):Option (fS T):=match x with|some (r,v)=>some (.one r (.v v))|none=>none
def qL (place:Nat→Option (Nat×TypeId)) (cells:List V):List (Nat×V)→Option (Bool×List V)
 |[]=>some (true,cells)
 |(i,v)::rest=>
  match place i with
  |none=>none
  |some (off,t)=>
   match hZ E t v,size E t with
   |some (r,vs),some n=>bif Nat.beq vs.length n&&Nat.ble (off+n) cells.length then
    (match qL place (bH cells off vs) rest with
    |some (r',cs)=>some (r&&r',cs)
    |none=>none) else none
   |_,_=>none
def kU (ev:Ev):List (Nat×Operand)→Option (List (Nat×V))
 |[]=>some []
 |(i,x)::l=>match ji ev x,kU ev l with
  |some y,some m=>some ((i,y)::m)
  |_,_=>none
def tZ:List (Nat×TypeId)→Bool
 |[]=>true
 |(_,t)::l=>(size E t).isSome&&tZ l
def Fa (t:TypeId):Option (Nat→Option (Nat×TypeId)):=
 match E.ti t with
 |some i=>match i.sh with
  | .struct fs=>bif tZ E fs then some fun j=>fs[j]? else none
  | .arr _ e=>match size E e with|some n=>some fun j=>some (j*n,e)|none=>none
  |_=>none
 |none=>none
def bj (o:Op) (ev:Ev):Option (fS T):=
 match o with
 | .move x| .assign x=>match ev x with|some y=>some (.one true y)|none=>none
 | .pick c a b=>
   match ev c with
   |some (.v (.bool t))=>
    match ev a,ev b with
    |some (.v (.bool x)),some (.v (.bool y))=>some (.one true (.v (.bool (bif t then x else y))))
    |a',b'=>match t with
     |true=>(match a' with|some y=>some (.one true y)|none=>none)
     |false=>(match b' with|some y=>some (.one true y)|none=>none)
   |_=>none
 | .binOp op t x y _=>match ji ev x,ji ev y with|some a,some b=>Bt (UG E op t (sE y) a b)|_,_=>none
 | .unOp op _ x=>match ji ev x with|some a=>(match unV op a with|some v=>some (.one true (.v v))|none=>none)|none=>none
 | .convert s d x=>
   match E.ti s,bq E d,ji ev x with
   |some _,some (.int k),some (.int _ n)=>some (.one true (.v (.int k (k.wrap n))))
   |some _,some .cL,some (.cL s)=>some (.one true (.v (.cL s)))
   |some _,some .cL,some (.int _ n)=>some (.one true (.v (.cL (Utf8.encode n))))
   |_,_,_=>none
 | .nilCheck x=>
   match ev x with
   |some (.v (.ay p))=>some (.one p.isSome (.v (.ay (some ((p.getD (0,0)).1,(p.getD (0,0)).2)))))
   |some (.lp s off)=>some (.one true (.lp s off))
   |_=>none
 | .fieldAddr t x f=>
   match tY E t f with
   |some (o,ft)=>match size E ft with
    |some n=>bif sF n then (match ev x with
     |some (.v (.ay (some (id,off))))=>some (.one true (.v (.ay (some (id,off+o)))))
     |some (.lp s off)=>some (.one true (.lp s (off+o)))
     |_=>none) else none
    |none=>none
   |none=>none
 | .field t x f=>
   match tY E t f,ji ev x with
   |some (o,ft),some (.agg cs)=>Bt (mS E ft cs o)
   |_,_=>none
 | .indexAddr t x i=>
   match rZ i ev,E.ti t with
   |some n,some ti=>match ti.sh with
    | .arr len e=>match size E e,ev x with
      |some sz,some (.v (.ay (some (id,off))))=>some (.one (decide (0≤n)&&decide (n<(len:Int))) (.v (.ay (some (id,off+n.toNat*sz)))))
      |some sz,some (.lp s off)=>some (.one (decide (0≤n)&&decide (n<(len:Int))) (.lp s (off+n.toNat*sz)))
      |_,_=>none
    | .slice e=>match size E e,ev x with
      |some sz,some (.v (.slice p len _))=>some (.one (decide (0≤n)&&decide (n<(len:Int))&&p.isSome) (.v (.ay (some ((p.getD (0,0)).1,(p.getD (0,0)).2+n.toNat*sz)))))
      |_,_=>none
    |_=>none
   |_,_=>none
 | .index t x i=>
   match rZ i ev,E.ti t,ji ev x with
   |some n,some ti,some v=>match ti.sh,v with
    | .arr len e,.agg cs=>match size E e with
      |some sz=>match mS E e cs (n.toNat*sz) with
       |some (r,y)=>some (.one (decide (0≤n)&&decide (n<(len:Int))&&r) (.v y))
       |none=>none
      |none=>none
    | .cL,.cL s=>some (.one (decide (0≤n)&&decide (n<(s.size:Int))) (.v (.int .u8 (HE s n.toNat))))
    |_,_=>none
   |_,_,_=>none
 | .slice t x lo hi mx=>
   match E.ti t,ev x with
   |some ti,some (.v (.cL s))=>
    match ti.sh,mx with
    | .cL,none=>match gx ev s.size s.size lo hi none with
      |some (r,l,h,_)=>some (.one r (.v (.cL (s.extract l h))))
      |none=>none
    |_,_=>none
   |some ti,some (.v (.slice p len cap))=>
    match ti.sh with
    | .slice e=>match gx ev len cap lo hi mx,size E e with
      |some (r,l,h,m),some sz=>some (.one (r&&Nat.ble h m) (.v (.slice (bT p (l*sz)) (h-l) (m-l))))
      |_,_=>none
    |_=>none
   |some ti,some (.v (.ay (some (id,off))))=>
    match ti.sh with
    | .arr n e=>match gx ev n n lo hi mx,size E e with
      |some (r,l,h,m),some sz=>some (.one (r&&Nat.ble h m) (.v (.slice (some (id,off+l*sz)) (h-l) (m-l))))
      |_,_=>none
    |_=>none
   |_,_=>none
 | .makeInterface t x=>
   match bq E t,ji ev x with
   |some .iface,_=>none
   |_,some v=>match E.ti t with|some _=>some (.one true (.v (.iface t v)))|none=>none
   |_,_=>none
 | .makeFunc (.func f) first dO=>
   match first.toList,dO.toList with
   |[],_=>match sD ev dO.toList with
    |some cs=>some (.one true (.v (.func f cs)))
    |none=>none
   |x::l,[]=>match sD ev (x::l) with
    |some cs=>some (.one true (.v (.pn f cs)))
    |none=>none
   |_,_=>none
 | .extract x i=>
   match ji ev x with
   |some (.tuple vs)=>match vs[i]? with|some v=>some (.one true (.v v))|none=>none
   |_=>none
 | .build t parts=>
   match E.ti t,Fa E t,kU ev parts.toList with
   |some ti,some pl,some ps=>match ti.zero with
    |some (.agg z)=>match qL E pl z ps with|some (r,cs)=>some (.one r (.v (.agg cs)))|none=>none
    |_=>none
   |_,_,_=>none
 | .typeAssert x _ d ok=>
   match ji ev x,E.ti d with
   |some v,some ti=>match ti.sh with
    | .iface=>none
    |_=>match tV E d v.Ny,ti.zero with
     |some (r,y),some z=>
      let t:Bool:= !v.fu&&Nat.beq v.CT d
      match ok with
      |true=>
       some ⟨v.ax .iface&&(!t||r),t,.v (.tuple [y,.bool true]),.v (.tuple [z,.bool false])⟩
      |false=>some (.one (v.ax .iface&&t&&r) (.v y))
     |_,_=>none
   |_,_=>none
 | .call c=>
   match c.callee with
   | .builtin b=>match sD ev c.args.toList,c.argTypes.toList[0]? with|some vs,some t=>E9 E b vs t|_,_=>none
   |_=>none
 |_=>none
def gV (o:Op) (ev:Ev) (s:Nat) (L:Option aU):Option (fS T):=
 match o with
 | .load t a=>
   match ev a,L with
   |some (.lp s' off),some (.cells _ cs)=>bif Nat.beq s s' then Bt (mS E t cs off) else none
   |_,_=>none
 |_=>none
def lE (e:TypeId) (cs:List V):Bool×List V:=
 match om E e with
 |some ks=>(aM ks cs,oi ks cs 0)
 |none=>(true,cs)
def ey (o:Op) (ev:Ev) (s:Nat) (L:Option aU):Option (fS (aU×T)):=
 match o with
 | .store t a x=>
   match ev a,ji ev x,L with
   |some (.lp s' off),some v,some (.cells e cs)=>
    match hZ E t v with
    |some (r,vs)=>bif Nat.beq s s' then
     some (.one (r&&Nat.ble (off+vs.length) cs.length&&(lE E e (bH cs off vs)).1) (.cells e (lE E e (bH cs off vs)).2,.undef)) else none
    |none=>none
   |_,_,_=>none
 | .next it true=>
   match ev it,L with
   |some (.lp s' 0),some (.dV cL jr)=>
    bif Nat.beq s s' then
     some ⟨true,Nat.blt jr cL.size,(.dV cL (jr+(Utf8.decode cL jr).2),.v (.tuple [.bool true,.int .i64 (jr:Int),.int .i32 ((Utf8.decode cL jr).1:Int)])),
      (.dV cL jr,.v (.tuple [.bool false]))⟩
    else none
   |_,_=>none
 |_=>none
def iR (o:Op) (ev:Ev):Option (Bool×aU):=
 match o with
 | .alloc t=>match E.ti t with
   |some i=>match i.zero with|some z=>some (true,.cells t z.cells)|none=>none
   |none=>none
 | .box t x=>match ji ev x with
   |some v=>match hZ E t v with|some (r,vs)=>some (r,.cells t vs)|none=>none
   |none=>none
 | .range t x=>match bq E t,ji ev x with
   |some .cL,some (.cL s)=>some (true,.dV s 0)
   |_,_=>none
 |_=>none
end aJ
def br (c:Bool) (X Y:Prop):Prop:=match c with|true=>X|false=>Y
def af (c:Bool) (X:Prop):Prop:=match c with|true=>X|false=>False
def pb (p:Oq):Nat:=(p.getD (0,0)).1
def po (p:Oq):Nat:=(p.getD (0,0)).2
theorem CX (a b:Nat):pb (some (a,b))=a:=rfl
theorem CY (a b:Nat):po (some (a,b))=b:=rfl
theorem nq (p:Oq):pb p=(p.getD (0,0)).1:=rfl
theorem nr (p:Oq):po p=(p.getD (0,0)).2:=rfl
def nm {α:Type} (a:α) (K:α→Prop):Prop:=K a
theorem ns {α:Type} (a:α) (K:α→Prop):nm a K=K a:=rfl
def cg {α:Type} (A:(α→Prop)→Prop) (Q:α→Prop):Prop:=A Q
structure mA where
 call:FuncId→List V→ai→(V→ai→Prop)→Prop
 loop:Code→FuncId→Nat→St→(St→Prop)→(Nat→St→Prop)→Prop
inductive Ex where
 |normal|exit (id:Nat)|ret
def fS.run {α:Type} (d:fS α) (K:α→Prop):Prop:=af d.rq (br d.c (K d.x) (K d.y))
inductive Cls where
 |pure|o5 (s:Nat)|iS (s:Nat)|ua|kQ|dF|ub
def CZ (ann:bS):Operand→Option Nat
 | .tmp t=>ab ann.aX t
 |_=>none
def Fb (ann:bS):List Operand→Bool
 |[]=>false
 |x::l=>(CZ ann x).isSome||Fb ann l
def HF (E:kG) (ann:bS) (o:Oper):Cls:=
 match o.op with
 | .makeFunc _ _ dO=>bif Fb ann dO.toList then .ub else .pure
 | .alloc _=>match o.dst with|some d=>bif bI d ann.aZ then .ua else .dF|none=>.dF
 | .box _ _=>match o.dst with|some d=>bif bI d ann.aZ then .ua else .dF|none=>.dF
 | .range _ _=>match o.dst with|some d=>bif bI d ann.aZ then .ua else .dF|none=>.dF
 | .load _ a=>match CZ ann a with|some s=>.o5 s|none=>.kQ
 | .store _ a _=>match CZ ann a with|some s=>.iS s|none=>.dF
 | .next it true=>match CZ ann it with|some s=>.iS s|none=>.dF
 | .next _ false=>.dF
 | .makeMap .. =>.dF
 | .makeSlice .. =>.dF
 | .buildSlice .. =>.dF
 | .mapUpdate .. =>.dF
 | .insert .. =>.dF
 | .mapEntry .. =>.dF
 | .entryStore .. =>.dF
 | .lookup .. =>.kQ
 | .entry _=>.kQ
 | .convert s d _=>match bq E s,bq E d with
   |some .slice,some .slice=>.dF
   |some .slice,_=>.kQ
   |_,some .slice=>.dF
   |_,_=>.pure
 | .call c=>match c.callee with
   | .builtin .len=>match c.argTypes.toList[0]? with
     |some t=>match bq E t with|some .map=>.kQ|_=>.pure
     |none=>.pure
   | .builtin .cap=>.pure
   | .builtin .min=>.pure
   | .builtin .max=>.pure
   |_=>.dF
 |_=>.pure
section
variable (E:kG)
def dG:List V→ByteArray→ByteArray
 |[],acc=>acc
 |v::l,acc=>dG l (acc.push (UInt8.ofNat v.aa.toNat))
def HG (k:cA):List V→Bool
 |[]=>true
 |v::l=>v.ax k&&HG k l
def eY (H:ai) (p:Oq) (len:Nat):Bool:=
 p.isNone||Nat.beq len 0||(H.inb (p.getD (0,0)).1 (p.getD (0,0)).2 len&&HG (.int .u8) (H.sub (p.getD (0,0)).1 (p.getD (0,0)).2 len))
def eZ (H:ai) (p:Oq) (len:Nat):ByteArray:=
 bif p.isNone||Nat.beq len 0 then ByteArray.empty else dG (H.sub (p.getD (0,0)).1 (p.getD (0,0)).2 len) ByteArray.empty
def dM (o:Op) (ev:Ev) (H:ai):Option (fS T):=
 match o with
 | .load t a=>
   match ev a with
   |some (.v (.ay (some (id,off))))=>
    match bq E t with
    |some k=>some (.one (H.inb id off 1&&(H.cell id off).ax k) (.v ((H.cell id off).TB k)))
    |none=>match om E t,size E t with
     |some ks,some n=>some (.one (H.inb id off n&&aM ks (H.sub id off n)) (.v (.agg (oi ks (H.sub id off n) 0))))
     |_,_=>none
   |_=>none
 | .convert s d x=>
   match E.ti s,bq E d,ji ev x with
   |some ti,some .cL,some (.slice p len _)=>
    match ti.sh with
    | .slice e=>match bq E e with
      |some (.int .u8)=>
       some (.one (eY H p len) (.v (.cL (eZ H p len))))
      |_=>none
    |_=>none
   |_,_,_=>none
 | .lookup t x i commaOk=>
   match E.ti t,ji ev x,ji ev i with
   |some ti,some (.map r),some (.int k n)=>match ti.sh with
    | .map kt et=>match bq E kt,E.ti et with
      |some (.int k'),some ei=>match ei.zero with
       |some z=>match tV E et (cC H r n z) with
        |some (b,y)=>match commaOk with
         |true=>some (.one (pG k k'&&(eM H k r&&b)) (.v (.tuple [y,.bool (lA H r n)])))
         |false=>some (.one (pG k k'&&(eM H k r&&b)) (.v y))
        |none=>none
       |none=>none
      |_,_=>none
    |_=>none
   |_,_,_=>none
 | .entry it=>
   match ev it with
   |some (.v (.dV t id))=>match E.ti t with
    |some ti=>match ti.sh with
     | .map kt et=>match tV E kt (kR H id),tV E et (iO H id) with
       |some (a,x),some (b,y)=>some (.one (sC H id&&(a&&b)) (.v (.tuple [x,y])))
       |_,_=>none
     |_=>none
    |none=>none
   |_=>none
 | .call c=>
   match c.callee,c.argTypes.toList,sD ev c.args.toList with
   | .builtin .len,t::_,some [.map r]=>match bq E t with
     |some .map=>some (.one (r.isNone||H.isMap (r.getD 0)) (.v (.int .i64 (yp H r))))
     |_=>none
   |_,_,_=>none
 |_=>none
def ia:Nat→List V→List V
 |0,_=>[]
 |n+1,l=>l++ia n l
def vH:List V→Bool
 |[]=>true
 |v::l=>v.one&&vH l
def yq (a b:List V):List V:=a++b
def ef (n:Nat) (z:List V):List V:=ia n z
def fc (s:ByteArray):List V:=s.data.toList.map fun b=>.int .u8 b.toNat
def pI (H:ai) (n:Nat) (p:Oq) (m:Nat):Bool:=
 Nat.beq m 0||(p.isSome&&(H.inb (p.getD (0,0)).1 (p.getD (0,0)).2 (m*n)&&vH (H.sub (p.getD (0,0)).1 (p.getD (0,0)).2 (m*n))))
def lF (H:ai) (n:Nat):V→Option (Nat×(Nat→Bool)×(Nat→List V))
 | .slice p len _=>some (len,fun m=>pI H n p m,fun m=>bif Nat.beq m 0 then [] else H.sub (p.getD (0,0)).1 (p.getD (0,0)).2 (m*n))
 | .cL s=>some (s.size,fun _=>Nat.beq n 1,fun m=>(fc s).take m)
 |_=>none
def RE (lo hi:Nat) (K:Nat→Prop):Prop:=∀c,lo≤c→c≤hi→K c
def ir:Option cA→Bool
 |some .slice=>true
 |some .cL=>true
 |_=>false
def fw (t:TypeId):Option (TypeId×Nat×Nat×List V):=
 match E.ti t with
 |some ti=>match ti.sh with
  | .slice el=>match E.ti el with
    |some ei=>match ei.zero with
     |some z=>bif Nat.beq z.cells.length ei.size&&sF ei.size then some (el,ei.size,ei.bytes,z.cells) else none
     |none=>none
    |none=>none
  |_=>none
 |none=>none
def mU (H:ai) (n cT:Nat) (z:List V) (k:Option cA) (x:V):Option (Bool×Nat×(Nat→Bool)×(Nat→List V)):=
 match k with
 |some (.int .i64)=>match x with
  | .int .i64 m=>some (decide (0≤m)&&decide (m*(cT+1)≤70368744177664),m.toNat,fun _=>true,fun j=>ef j z)
  |_=>none
 |k=>match ir k with
  |true=>(match lF H n x with|some (m,ok,cs)=>some (true,m,ok,cs)|none=>none)
  |false=>none
def aD (ts:List TypeId) (args:List V) (H:ai) (K:Oq→Nat→Nat→ai→Prop):Prop:=
 match ts,args with
 |[t,u],[.slice p l cp,x]=>
  match fw E t with
  |some (el,n,cT,z)=>match mU H n cT z (bq E u) x with
   |some (r,m,ok,cs)=>af r
    (br (Nat.ble (l+m) cp)
     (af (Nat.beq m 0||(p.isSome&&(ok m&&H.wr (p.getD (0,0)).1 ((p.getD (0,0)).2+l*n) (m*n))))
      (K p (l+m) cp (bif Nat.beq m 0 then H else H.store (p.getD (0,0)).1 ((p.getD (0,0)).2+l*n) (cs m))))
     (af (pI H n p l&&(ok m&&Nat.ble ((l+m)*(cT+1)) 70368744177664))
      (RE (l+m) 9223372036854775807 fun c=>K (some (H.next,0)) (l+m) c
       (H.alloc (.cells el (yq (bif Nat.beq l 0 then [] else H.sub (p.getD (0,0)).1 (p.getD (0,0)).2 (l*n)) (yq (cs m) (ef (c-(l+m)) z))) false)))))
   |none=>False
  |none=>False
 |_,_=>False
def kH (H:ai) (n:Nat) (p:Oq) (l:Nat) (x:V):Bool:=match lF H n x with
 |some (m,ok,cs)=>Nat.beq (Nat.min m l) 0||(p.isSome&&(ok (Nat.min m l)&&H.wr (p.getD (0,0)).1 (p.getD (0,0)).2 (Nat.min m l*n)))
 |none=>false
def kI (H:ai) (n:Nat) (p:Oq) (l:Nat) (x:V):ai:=match lF H n x with
 |some (m,ok,cs)=>bif Nat.beq (Nat.min m l) 0 then H else H.store (p.getD (0,0)).1 (p.getD (0,0)).2 (cs (Nat.min m l))
 |none=>H
def iT (g:FuncId) (args:List V) (H:ai) (K:V→ai→Prop):Prop:=
 match E.ext g with
 |some x=>x.run args H K
 |none=>False
def jV (R:mA) (fv:V) (args:List V) (H:ai) (K:V→ai→Prop):Prop:=
 match fv with
 | .func g cap=>match (E.ext g).isSome with
   |true=>iT E g (args++cap) H K
   |false=>R.call g (args++cap) H K
 | .pn g first=>match (E.ext g).isSome with
   |true=>iT E g (first++args) H K
   |false=>R.call g (first++args) H K
 |_=>False
def cn (o:Op) (ev:Ev) (H:ai):Option (Bool×T×ai):=
 match o with
 | .buildSlice t len parts=>
   match E.ti t,kU ev parts.toList with
   |some ti,some ps=>match ti.sh with
    | .slice el=>match size E el,E.ti el with
      |some n,some ei=>match ei.zero with
       |some z=>bif Nat.beq z.cells.length n&&sF n&&Nat.ble (len*n) 16777216 then
        (match qL E (fun j=>some (j*n,el)) (ia len z.cells) ps with
        |some (r,cs)=>some (r,.v (.slice (some (H.next,0)) len len),H.alloc (.cells el cs false))
        |none=>none) else none
       |none=>none
      |_,_=>none
    |_=>none
   |_,_=>none
 | .makeSlice t len cap=>
   match fw E t,ji ev len,ji ev cap with
   |some (el,_,cT,z),some (.int _ l),some (.int _ c)=>
    some (decide (0≤l)&&(decide (l≤c)&&decide (c*(cT+1)≤70368744177664)),.v (.slice (some (H.next,0)) l.toNat c.toNat),H.alloc (.cells el (ef c.toNat z) false))
   |_,_,_=>none
 | .convert s d x=>
   match bq E s,ji ev x,E.ti d with
   |some .slice,some (.slice p len cap),some ti=>match ti.sh with
    | .slice e=>match bq E e with
      |some (.int .u8)=>some (Nat.beq s d&&(p.isSome&&(!Nat.beq cap 0&&H.wr (p.getD (0,0)).1 0 0)),.v (.slice p len cap),H)
      |_=>none
    |_=>none
   |_,_,_=>none
 | .call c=>
   match c.callee,c.argTypes.toList,sD ev c.args.toList with
   | .builtin .copy,t::_,some [.slice p l _,x]=>
     match fw E t with
     |some (_,n,_,_)=>match lF H n x with
      |some (m,_,_)=>some (kH H n p l x,.v (.int .i64 (Nat.min m l)),kI H n p l x)
      |none=>none
     |none=>none
   | .builtin .delete,t::_,some [.map r,.int k n]=>
     match E.ti t with
     |some ti=>match ti.sh with
      | .map kt _=>match bq E kt with
        |some (.int k')=>some (pG k k'&&eM H k r,.v (.tuple []),pH H r n)
        |_=>none
      |_=>none
     |none=>none
   | .builtin .clear,t::_,some [.slice p l _]=>
     match fw E t with
     |some (_,n,_,z)=>
      some (p.isNone||Nat.beq l 0||H.wr (p.getD (0,0)).1 (p.getD (0,0)).2 (l*n),.v (.tuple []),
       bif p.isNone||Nat.beq l 0 then H else H.store (p.getD (0,0)).1 (p.getD (0,0)).2 (ef l z))
     |none=>none
   |_,_,_=>none
 | .makeMap t none=>match bq E t with
   |some .map=>some (true,.v (.map (some H.next)),H.alloc (.map [] 0))
   |_=>none
 | .range t x=>
   match E.ti t,ji ev x with
   |some ti,some (.map r)=>match ti.sh with
    | .map _ _=>some (r.isNone||H.isMap (r.getD 0),.v (.dV t H.next),H.alloc (mapIter H r))
    |_=>none
   |_,_=>none
 |_=>none
def bQ (R:mA) (o:Op) (rt:TypeId) (ev:Ev) (H:ai) (K:T→ai→Prop):Prop:=
 match o with
 | .alloc t=>match E.ti t with
   |some i=>match i.zero with|some z=>K (.v (.ay (some (H.next,0)))) (H.alloc (.cells t z.cells false))|none=>False
   |none=>False
 | .box t x=>match ji ev x with
   |some v=>match hZ E t v with
    |some (r,vs)=>af r (K (.v (.ay (some (H.next,0)))) (H.alloc (.cells t vs false)))
    |none=>False
   |none=>False
 | .store t a x=>
   match ev a,ji ev x with
   |some (.v (.ay (some (id,off)))),some v=>
    match hZ E t v with
    |some (r,vs)=>af (r&&H.wr id off vs.length) (K .undef (H.store id off vs))
    |none=>False
   |_,_=>False
 | .mapUpdate t m x v=>
   match E.ti t,ji ev m,ji ev x,ji ev v with
   |some ti,some (.map r),some (.int k n),some v=>match ti.sh with
    | .map kt et=>match bq E kt,tV E et v with
      |some (.int k'),some (b,_)=>af (pG k k'&&(r.isSome&&(eM H k r&&b))) (K .undef (iq H k (r.getD 0) n v))
      |_,_=>False
    |_=>False
   |_,_,_,_=>False
 | .call c=>
   match c.callee,sD ev c.args.toList with
   | .value f,some args=>
     match ji ev f with
     |some fv=>jV E R fv args H fun v H'=>match tX E rt v with|some (b,v')=>af b (K (.v v') H')|none=>False
     |none=>False
   | .builtin .append,some args=>aD E c.argTypes.toList args H fun q n c H'=>K (.v (.slice q n c)) H'
   |_,_=>match cn E (.call c) ev H with
    |some (r,x,H')=>af r (K x H')
    |none=>False
 | .convert s d x=>
   match bq E s,ji ev x,E.ti d with
   |some .cL,some (.cL b),some ti=>match ti.sh with
    | .slice el=>match bq E el with
      |some (.int .u8)=>af (Nat.ble b.size 70368744177664) (RE b.size 9223372036854775807 fun c=>
       K (.v (.slice (some (H.next,0)) b.size c)) (H.alloc (.cells el (yq (fc b) (ef (c-b.size) [.int .u8 0])) false)))
      |_=>False
    |_=>False
   |_,_,_=>match cn E (.convert s d x) ev H with
    |some (r,x,H')=>af r (K x H')
    |none=>False
 | .next it false=>
   match ev it with
   |some (.v (.dV _ id))=>mapNext H id (K (.v (.tuple [.bool false])) H) fun H'=>K (.v (.tuple [.bool true,.cB,.cB])) H'
   |_=>False
 |o=>match cn E o ev H with
  |some (r,x,H')=>af r (K x H')
  |none=>False
def ga (aJ:List Oper) (tm:Nat→Option T) (j:Nat):Option T:=
 match aJ[j]? with
 |some o=>match o.dst with|some d=>tm d|none=>none
 |none=>none
def sG (ann:bS) (d:Nat) (S:St):St:=
 {S with tm:=fun t=>match ab ann.aX t with|some s=>bif Nat.beq s d then none else S.tm t|none=>S.tm t}
def jz (ann:bS) (N:Nat) (dst:Option Tmp) (x:T) (S:St) (K:St→Prop):Prop:=
 match dst with
 |none=>K S
 |some d=>af (Nat.blt d N) (match x with
  | .lp s _=>(match ab ann.aX d with|some s'=>bif Nat.beq s s' then K (S.setT d x) else False|none=>False)
  |_=>K (S.setT d x))
def pJ (ann:bS) (s:Nat) (e:TypeId) (cs:List V) (S:St):St:=
 {sG ann s S with lo:=fun t=>bif Nat.beq t s then none else S.lo t,hp:=S.hp.alloc (.cells e cs false)}
def qM (ann:bS):List Operand→St→Option (List V×St)
 |[],S=>some ([],S)
 |x::l,S=>match cY S.tm x with
  |some (.v v)=>match qM ann l S with|some (vs,S')=>some (v::vs,S')|none=>none
  |some (.lp s 0)=>match S.lo s with
   |some (.cells e cs)=>match qM ann l (pJ ann s e cs S) with|some (vs,S')=>some (.ay (some (S.hp.next,0))::vs,S')|none=>none
   |_=>none
  |_=>none
def Jr (ann:bS) (N:Nat) (o:Oper) (S:St) (K:St→Prop):Prop:=
 match o.op with
 | .makeFunc (.func f) first dO=>match first.toList,qM ann dO.toList S with
   |[],some (vs,S')=>jz ann N o.dst (.v (.func f vs)) S' K
   |_,_=>False
 |_=>False
def js (R:mA) (ann:bS) (N:Nat) (o:Oper) (S:St) (K:St→Prop):Prop:=
 match HF E ann o with
 | .pure=>match bj E o.op (cY S.tm) with|some d=>d.run fun x=>jz ann N o.dst x S K|none=>False
 | .o5 s=>match gV E o.op (cY S.tm) s (S.lo s) with|some d=>d.run fun x=>jz ann N o.dst x S K|none=>False
 | .iS s=>match ey E o.op (cY S.tm) s (S.lo s) with|some d=>d.run fun x=>jz ann N o.dst x.2 (S.setL s x.1) K|none=>False
 | .ua=>match o.dst,iR E o.op (cY S.tm) with
   |some d,some (r,L)=>af r (jz ann N (some d) (.lp d 0) ((sG ann d S).setL d L) K)
   |_,_=>False
 | .kQ=>match dM E o.op (cY S.tm) S.hp with|some d=>d.run fun x=>jz ann N o.dst x S K|none=>False
 | .dF=>bQ E R o.op o.type (cY S.tm) S.hp fun x H'=>jz ann N o.dst x {S with hp:=H'} K
 | .ub=>Jr ann N o S K
def cq (R:mA) (ann:bS) (N:Nat) (aJ:List Oper) (o:Oper) (S:St) (K:St→Prop):Prop:=
 match o.guard with
 |none=>js E R ann N o S K
 |some (j,want)=>
  match ga aJ S.tm j with
  |some (.v (.bool b))=>br (b == want) (js E R ann N o S K) (jz ann N o.dst .undef S K)
  |some .undef=>jz ann N o.dst .undef S K
  |_=>False
def lG (R:mA) (ann:bS) (N:Nat) (aJ:List Oper):List Oper→St→(St→Prop)→Prop
 |[],S,K=>K S
 |o::l,S,K=>cq E R ann N aJ o S fun S'=>lG R ann N aJ l S' K
def C0 (aJ:List Oper) (j:Nat):Option Nat:=
 match aJ[j]? with
 |some o=>o.dst
 |none=>none
def ud (R:mA) (ann:bS) (N:Nat) (aJ:List Oper) (o:Oper) (S:St) (K:St→Prop):Prop:=
 match o.guard with
 |none=>js E R ann N o S K
 |some (j,want)=>
  match C0 aJ j with
  |none=>False
  |some s=>
   match S.tm s with
   |some (.v (.bool b))=>br (RB want b) (js E R ann N o (S.setT s (.v (.bool want))) K) (jz ann N o.dst .undef (S.setT s (.v (.bool (!want)))) K)
   |some .undef=>jz ann N o.dst .undef S K
   |_=>False
def sH (R:mA) (ann:bS) (N:Nat) (aJ:List Oper):List Oper→St→(St→Prop)→Prop
 |[],S,K=>K S
 |o::l,S,K=>ud E R ann N aJ o S fun S'=>sH R ann N aJ l S' K
def eu:Code→Nat
 | .seq a b=>eu a+eu b
 | .cond _ a b=>1+eu a+eu b
 | .block _ b=>eu b
 | .scope b=>eu b
 | .loop b=>1+eu b
 | .region .. =>1
 |_=>0
def Fc (tm:Nat→Option T):List Nat→Option (List (Nat×T))
 |[]=>some []
 |t::l=>match tm t,Fc tm l with
  |some x,some m=>some ((t,x)::m)
  |_,_=>none
def Fe (lo:Nat→Option aU):List Nat→Option (List (Nat×aU))
 |[]=>some []
 |t::l=>match lo t,Fe lo l with
  |some x,some m=>some ((t,x)::m)
  |_,_=>none
def lH (ts ls:List Nat) (S:St) (K:St→Prop):Prop:=
 match Fc S.tm ts,Fe S.lo ls with
 |some a,some b=>K ⟨ab a,ab b,S.hp⟩
 |_,_=>False
inductive fP (α:Type) where
 |leaf (a:α)
 |br (c:Bool) (x y:fP α)
 |af (c:Bool) (x:fP α)
 |aV
def fP.run {α:Type} (K:α→Prop):fP α→Prop
 | .leaf a=>K a
 | .br c x y=>Am.br c (x.run K) (y.run K)
 | .af c x=>Am.af c (x.run K)
 | .aV=>False
def fP.bind {α β:Type}:fP α→(α→fP β)→fP β
 | .leaf a,k=>k a
 | .br c x y,k=>.br c (x.bind k) (y.bind k)
 | .af c x,k=>.af c (x.bind k)
 | .aV,_=>.aV
structure MS where
 U:List (Nat×T)
 W:List (Nat×aU)
 kn:List Nat
def pq (S:St) (U:List (Nat×T)) (t:Nat):Option T:=match ab U t with|some x=>some x|none=>S.tm t
def yr (S:St) (W:List (Nat×aU)) (t:Nat):Option aU:=match ab W t with|some x=>some x|none=>S.lo t
def MS.st (S:St) (M:MS):St:=⟨pq S M.U,yr S M.W,S.hp⟩
def C1 (ann:bS) (N:Nat) (dst:Option Tmp) (x:T) (M:MS):fP MS:=
 match dst with
 |none=>.leaf M
 |some d=>.af (Nat.blt d N) (match x with
  | .lp s _=>(match ab ann.aX d with|some s'=>bif Nat.beq s s' then .leaf {M with U:=(d,x)::M.U} else .aV|none=>.aV)
  |_=>.leaf {M with U:=(d,x)::M.U})
def Ff (ann:bS) (N:Nat) (o:Oper) (S:St) (M:MS):fP MS:=
 match HF E ann o with
 | .pure=>match bj E o.op (cY (pq S M.U)) with|some d=>.af (d.rq&&d.c) (C1 ann N o.dst d.x M)|none=>.aV
 | .o5 s=>match gV E o.op (cY (pq S M.U)) s (yr S M.W s) with|some d=>.af (d.rq&&d.c) (C1 ann N o.dst d.x M)|none=>.aV
 | .iS s=>match ey E o.op (cY (pq S M.U)) s (yr S M.W s) with|some d=>.af (d.rq&&d.c) (C1 ann N o.dst d.x.2 {M with W:=(s,d.x.1)::M.W})|none=>.aV
 | .kQ=>match dM E o.op (cY (pq S M.U)) S.hp with|some d=>.af (d.rq&&d.c) (C1 ann N o.dst d.x M)|none=>.aV
 |_=>.aV
def NC (ann:bS) (N:Nat) (aJ:List Oper) (o:Oper) (S:St) (M:MS):fP MS:=
 match o.guard with
 |none=>Ff E ann N o S M
 |some (j,want)=>
  match C0 aJ j with
  |none=>.aV
  |some s=>
   match pq S M.U s with
   |some (.v (.bool b))=>
    match bI s M.kn with
    |true=>match RB want b with
     |true=>Ff E ann N o S M
     |false=>C1 ann N o.dst .undef M
    |false=>.br (RB want b) (Ff E ann N o S {M with U:=(s,.v (.bool want))::M.U,kn:=s::M.kn})
     (C1 ann N o.dst .undef {M with U:=(s,.v (.bool (!want)))::M.U,kn:=s::M.kn})
   |some .undef=>C1 ann N o.dst .undef M
   |_=>.aV
def C2 (ann:bS) (N:Nat) (aJ:List Oper):List Oper→St→MS→fP MS
 |[],_,M=>.leaf M
 |o::l,S,M=>(NC E ann N aJ o S M).bind (C2 ann N aJ l S)
def aN (c r1 r2:Bool):Bool:=match r1,r2 with
 |true,true=>true
 |r1,r2=>bif c then r1 else r2
def C3 (c:Bool):T→T→Option T
 | .v x,.v y=>some (.v (HC c x y))
 | .lp s o,.lp s' o'=>bif Nat.beq s s'&&Nat.beq o o' then some (.lp s o) else none
 | .undef,.undef=>some .undef
 |_,_=>none
def C4 (c:Bool):aU→aU→Option aU
 | .cells e cs,.cells e' cs'=>bif Nat.beq e e' then (match tP c cs cs' with|some r=>some (.cells e r)|none=>none) else none
 |_,_=>none
def oo {α:Type} (g:Nat→Option α) (f:α→α→Option α) (A B:List (Nat×α)):List Nat→Option (List (Nat×α))
 |[]=>some []
 |t::l=>match oo g f A B l with
  |none=>none
  |some r=>match ab A t,ab B t with
   |none,none=>some r
   |some a,some b=>match f a b with|some m=>some ((t,m)::r)|none=>none
   |some a,none=>match g t with|some b=>(match f a b with|some m=>some ((t,m)::r)|none=>none)|none=>none
   |none,some b=>match g t with|some a=>(match f a b with|some m=>some ((t,m)::r)|none=>none)|none=>none
def oq {α:Type} (a b:List Nat):List (Nat×α)→Bool
 |[]=>true
 |(t,_)::l=>(bI t a||bI t b)&&oq a b l
def o6 (S:St) (ts ls dT dL:List Nat):fP MS→Option (Bool×List (Nat×T)×List (Nat×aU))
 | .leaf M=>bif oq ts dT M.U&&oq ls dL M.W then some (true,M.U,M.W) else none
 | .af c x=>match o6 S ts ls dT dL x with|some (r,U,W)=>some (c&&r,U,W)|none=>none
 | .br c x y=>match o6 S ts ls dT dL x,o6 S ts ls dT dL y with
   |some (r1,U1,W1),some (r2,U2,W2)=>
    match oo S.tm (C3 c) U1 U2 ts,oo S.lo (C4 c) W1 W2 ls with
    |some U,some W=>some (aN c r1 r2,U,W)
    |_,_=>none
   |_,_=>none
 | .aV=>none
def rP (dT dL:List Nat) (S:St):St:=
 ⟨fun t=>bif bI t dT then none else S.tm t,fun s=>bif bI s dL then none else S.lo s,S.hp⟩
def pK (ts ls dT dL:List Nat) (tr:fP MS) (S:St) (K:St→Prop):Prop:=
 match o6 S ts ls dT dL tr with
 |some (r,U,W)=>af r (K (rP dT dL ⟨pq S U,yr S W,S.hp⟩))
 |none=>False
def kJ (R:mA) (ann:bS) (N:Nat) (ts ls dT dL:List Nat) (aJ:List Oper):List Oper→St→(St→Prop)→Prop
 |[],S,K=>K (rP dT dL S)
 |o::l,S,K=>match o.guard with
  |none=>ud E R ann N aJ o S fun S'=>kJ R ann N ts ls dT dL aJ l S' K
  |some _=>pK ts ls dT dL (C2 E ann N aJ (o::l) S ⟨[],[],[]⟩) S K
def T.val:Option T→V
 |some (.v x)=>x
 |_=>.none
def aF:KT→Option T→Bool
 | .k k,some (.v x)=>x.ax k
 | .agg ks,some (.v x)=>x.isAgg&&aM ks x.ag
 | .lp s,some (.lp s' 0)=>Nat.beq s s'
 | .undef,some .undef=>true
 |_,_=>false
def RF:KT→Option T→T
 | .k k,x=>.v ((T.val x).TB k)
 | .agg ks,x=>.v (.agg (oi ks (T.val x).ag 0))
 | .lp s,_=>.lp s 0
 | .undef,_=>.undef
def av:Option aU→List V
 |some (.cells _ cs)=>cs
 |_=>[]
def eC (e:TypeId) (ks:List cA):Option aU→Bool
 |some (.cells e' cs)=>Nat.beq e e'&&aM ks cs
 |_=>false
def lI (S:St):List (Nat×KT)→Bool×List (Nat×T)
 |[]=>(true,[])
 |(t,k)::l=>(aF k (S.tm t)&&(lI S l).1,(t,RF k (S.tm t))::(lI S l).2)
def lJ (S:St):List (Nat×TypeId×List cA)→Bool×List (Nat×aU)
 |[]=>(true,[])
 |(s,e,ks)::l=>(eC e ks (S.lo s)&&(lJ S l).1,(s,.cells e (oi ks (av (S.lo s)) 0))::(lJ S l).2)
def Bu (ts:List (Nat×KT)) (ls:List (Nat×TypeId×List cA)) (S:St) (K:St→Prop):Prop:=
 af ((lI S ts).1&&(lJ S ls).1) (K ⟨ab (lI S ts).2,ab (lJ S ls).2,S.hp⟩)
def sI (ann:bS) (n:Nat):Option jy:=ab ann.bg n
def pL {α β:Type}:List (α×β)→List α
 |[]=>[]
 |(a,_)::l=>a::pL l
def vI (kp:jy) (K:Ex→St→Prop):List Nat→Nat→St→Prop
 |[],_,_=>False
 |j::l,id,S=>br (Nat.beq id j) (Bu kp.cj kp.hJ S (K (.exit j))) (vI kp K l id S)
def ot:List Operand→List Nat
 |[]=>[]
 | .tmp t::l=>t::ot l
 |_::l=>ot l
structure jW where
 rt:List Nat
 wt:List Nat
 rl:List Nat
 wl:List Nat
 rh:Bool
 wh:Bool
 no:Bool
def kW (d:Nat):List (Nat×Nat)→List Nat
 |[]=>[]
 |(t,s)::l=>bif Nat.beq s d then t::kW d l else kW d l
def yu (aJ:List Oper) (o:Oper):List Nat:=
 match o.guard with
 |some (j,_)=>(match aJ[j]? with|some q=>q.dst.toList|none=>[])
 |none=>[]
def Yb (aJ:List Oper) (o:Oper):List Nat:=ot o.op.operands.toList++yu aJ o
def C5 (ann:bS) (o:Oper):List Nat:=match o.dst with|some d=>kW d ann.aX|none=>[]
def mV:Cls→List Nat→List Nat→List Nat→jW
 | .pure,rt,wt,_=>⟨rt,wt,[],[],false,false,false⟩
 | .o5 s,rt,wt,_=>⟨rt,wt,[s],[],false,false,false⟩
 | .iS s,rt,wt,_=>⟨rt,wt,[s],[s],false,false,false⟩
 | .ua,rt,wt,ex=>⟨rt,wt++ex,[],wt,false,false,false⟩
 | .kQ,rt,wt,_=>⟨rt,wt,[],[],true,false,false⟩
 | .dF,rt,wt,_=>⟨rt,wt,[],[],true,true,false⟩
 | .ub,rt,wt,_=>⟨rt,wt,[],[],true,true,true⟩
def dj (ann:bS) (aJ:List Oper) (o:Oper):jW:=mV (HF E ann o) (Yb aJ o) o.dst.toList (C5 ann o)
def jt:List Nat→List Nat→Bool
 |[],_=>false
 |x::l,m=>bI x m||jt l m
def gy (a b:jW):Bool:=
 !jt a.wt b.rt&& !jt a.wt b.wt&& !jt b.wt a.rt&& !jt a.wl b.rl&& !jt a.wl b.wl&& !jt b.wl a.rl
  && !(a.wh&&b.rh)&& !(b.wh&&a.rh)&&(!a.no&& !b.no)
def qN (acc:List (List Nat)):List Edge→List Nat
 |[]=>[]
 |e::l=>bif Region.binds .any e then e.on::(acc[e.on]?.getD []++qN acc l) else qN acc l
def iU:List Oper→List (List Nat)→List (List Nat)
 |[],acc=>acc
 |o::l,acc=>iU l (acc++[qN acc o.after.toList])
def C6 (i:Nat):List Edge→Bool
 |[]=>true
 |e::l=>(!Region.binds .any e||Nat.blt e.on i)&&C6 i l
def ov:List Oper→Nat→Bool
 |[],_=>true
 |o::l,i=>C6 i o.after.toList&&ov l (i+1)
def ue (fs:List jW) (bs:List (List Nat)) (i:Nat) (f:jW):Nat→Bool
 |0=>true
 |j+1=>(match fs[j]?,bs[i]? with|some g,some b=>bI j b||gy f g|_,_=>false)&&ue fs bs i f j
def qO (fs:List jW) (bs:List (List Nat)):List jW→Nat→Bool
 |[],_=>true
 |f::l,i=>ue fs bs i f i&&qO fs bs l (i+1)
def yw (ann:bS) (aJ:List Oper):Bool:=
 let fs:=aJ.map (dj E ann aJ)
 ov aJ 0&&qO fs (iU aJ []) fs 0
inductive r6 where
 |nil|aV
 |one (i:Nat) (r:r6)
 |ND (a b:r6)
 deriving Inhabited
def jA (n:Nat):List Nat→List Nat
 |[]=>[]
 |x::l=>bif Nat.beq n x then jA n l else x::jA n l
def nt (bs:List (List Nat)) (i:Nat):List Nat:=bs[i]?.getD []
def gz (bs:List (List Nat)) (rem:List Nat) (i:Nat):Bool:= !jt (nt bs i) rem
def eg (fs:List jW) (bs:List (List Nat)) (i:Nat) (f:jW):List Nat→Bool
 |[]=>true
 |j::l=>(Nat.beq i j||bI i (nt bs j)||(match fs[j]? with|some g=>gy g f&&gy f g|none=>false))&&eg fs bs i f l
def ox (fs:List jW) (bs:List (List Nat)) (rem:List Nat):List Nat→Option Nat
 |[]=>none
 |i::l=>match gz bs rem i,fs[i]? with
  |true,some f=>bif eg fs bs i f rem then some i else ox fs bs rem l
  |_,_=>ox fs bs rem l
def RG (f:Nat→r6):List Nat→r6
 |[]=>.aV
 |[i]=>.one i (f i)
 |i::l=>.ND (.one i (f i)) (RG f l)
def qP (bs:List (List Nat)) (rem:List Nat):List Nat→List Nat
 |[]=>[]
 |i::l=>bif gz bs rem i then i::qP bs rem l else qP bs rem l
def Bv (fs:List jW) (bs:List (List Nat)):Nat→List Nat→r6
 |_,[]=>.nil
 |0,_=>.aV
 |n+1,rem=>match ox fs bs rem rem with
  |some i=>.one i (Bv fs bs n (jA i rem))
  |none=>RG (fun i=>Bv fs bs n (jA i rem)) (qP bs rem rem)
def iu (step:Nat→St→(St→Prop)→Prop):r6→St→(St→Prop)→Prop
 | .nil,S,K=>K S
 | .aV,_,_=>False
 | .one i r,S,K=>step i S fun S'=>iu step r S' K
 | .ND a b,S,K=>iu step a S K∧iu step b S K
def wO (kp:Option jy) (A:(Ex→St→Prop)→Prop) (K:Ex→St→Prop):Prop:=
 match kp with
 |none=>A K
 |some kp=>cg (fun Q=>A fun e S=>match e with| .normal=>lH (pL kp.cj) (pL kp.hJ) S Q|e=>K e S) fun S=>Bu kp.cj kp.hJ S (K .normal)
def over {α:Type} (l:List (Nat×α)) (dr:List Nat) (g:Nat→Option α):Nat→Option α:=
 fun t=>match ab l t with|some x=>some x|none=>bif bI t dr then none else g t
def Fg (kp:jy) (S0:St) (A:(Ex→St→Prop)→Prop) (K:Ex→St→Prop):Prop:=
 cg (fun Q=>A fun e S=>match e with| .normal=>lH (pL kp.cj) (pL kp.hJ) S Q|e=>K e S)
  fun S=>af ((lI S kp.cj).1&&(lJ S kp.hJ).1) (K .normal ⟨over (lI S kp.cj).2 kp.wT S0.tm,over (lJ S kp.hJ).2 kp.wL S0.lo,S.hp⟩)
def jB:List Nat→List Nat→Bool
 |[],_=>true
 |x::l,m=>bI x m&&jB l m
def Lq (ann:bS) (wT wL:List Nat) (o:Oper):Bool:=
 jB o.dst.toList wT&&jB (C5 ann o) wT&&(match HF E ann o with
  | .iS s=>bI s wL
  | .ua=>jB o.dst.toList wL
  | .ub=>false
  |_=>true)
def jC (ann:bS) (wT wL:List Nat):List Oper→Bool
 |[]=>true
 |o::l=>Lq E ann wT wL o&&jC ann wT wL l
def UH (wT wL:List Nat) (kp:jy):Bool:=jB kp.wT wT&&jB kp.wL wL&&jB (pL kp.cj) wT&&jB (pL kp.hJ) wL
def NF (wT wL:List Nat):Option jy→Bool
 |none=>true
 |some kp=>kp.dl&&UH wT wL kp
def C7 (ann:bS) (wT wL:List Nat):Code→Nat→Bool
 | .skip,_=>true
 | .seq a b,n=>C7 ann wT wL a n&&C7 ann wT wL b (n+eu a)
 | .cond _ x y,n=>NF wT wL (sI ann n)&&(C7 ann wT wL x (n+1)&&C7 ann wT wL y (n+1+eu x))
 | .block id b,n=>NF wT wL (ab ann.aG id)&&C7 ann wT wL b n
 | .scope b,n=>C7 ann wT wL b n
 | .label _,_=>true
 | .exit _,_=>true
 | .ret,_=>true
 | .region _ aJ _,n=>jC E ann wT wL aJ.toList&&(match sI ann n with
   |none=>true
   |some kp=>match kp.mg with
    |true=>jB kp.cQ wT&&jB kp.tU wL&&jB kp.wT wT&&jB kp.wL wL
    |false=>kp.dl&&UH wT wL kp)
 |_,_=>false
def mB (ok:jy→Bool) (kp:Option jy) (S0:St) (A:(Ex→St→Prop)→Prop) (K:Ex→St→Prop):Prop:=
 match kp with
 |none=>A K
 |some kp=>match kp.dl with
  |true=>af (ok kp) (Fg kp S0 A K)
  |false=>wO (some kp) A K
def fT (R:mA) (ann:bS) (N:Nat) (aJ:List Oper) (i:Nat) (S:St) (K:St→Prop):Prop:=
 match aJ[i]? with
 |some o=>ud E R ann N aJ o S K
 |none=>False
def gW (R:mA) (ann:bS) (N:Nat) (aJ:List Oper) (draw:Bool) (S:St) (K:St→Prop):Prop:=
 match !draw||yw E ann aJ with
 |true=>sH E R ann N aJ aJ S K
 |false=>af (ov aJ 0) (iu (fT E R ann N aJ) (Bv (aJ.map (dj E ann aJ)) (iU aJ []) aJ.length (List.range aJ.length)) S K)
def gr (R:mA) (f:FuncId) (ann:bS) (N:Nat):Code→Nat→St→(Ex→St→Prop)→Prop
 | .skip,_,S,K=>K .normal S
 | .seq a b,n,S,K=>gr R f ann N a n S fun e S'=>match e with| .normal=>gr R f ann N b (n+eu a) S' K|e=>K e S'
 | .cond c x y,n,S,K=>
   match cY S.tm c with
   |some (.v (.bool t))=>mB (fun kp=>C7 E ann kp.wT kp.wL x (n+1)&&C7 E ann kp.wT kp.wL y (n+1+eu x)) (sI ann n) S
    (fun K=>br t (gr R f ann N x (n+1) S K) (gr R f ann N y (n+1+eu x) S K)) K
   |_=>False
 | .block id b,n,S,K=>mB (fun kp=>C7 E ann kp.wT kp.wL b n) (ab ann.aG id) S (fun K=>gr R f ann N b n S fun e S'=>match e with
   | .exit j=>br (Nat.beq j id) (K .normal S') (K (.exit j) S')
   |e=>K e S') K
 | .exit id,_,S,K=>K (.exit id) S
 | .ret,_,S,K=>K .ret S
 | .region _ aJ draw,n,S,K=>
   match sI ann n with
   |none=>gW E R ann N aJ.toList draw S (K .normal)
   |some kp=>match kp.mg with
    |true=>af (!draw||yw E ann aJ.toList) (kJ E R ann N kp.cQ kp.tU kp.wT kp.wL aJ.toList aJ.toList S (K .normal))
    |false=>mB (fun kp=>jC E ann kp.wT kp.wL aJ.toList) (some kp) S (fun K=>gW E R ann N aJ.toList draw S (K .normal)) K
 | .loop c,n,S,K=>
   match sI ann n with
   |some kp=>lH kp.cQ kp.tU S fun S0=>R.loop c f n S0 (fun S'=>Bu kp.kS kp.UF S' (K .ret)) (vI kp K kp.cD)
   |none=>False
 | .scope b,n,S,K=>gr R f ann N b n S K
 | .label _,_,S,K=>K .normal S
 |_,_,_,_=>False
def mC (S:St):ResultVar→(V→Prop)→Prop
 | .tmp t,K=>match S.tm t with|some (.v x)=>K x|_=>False
 | .cell a t,K=>match S.tm a with
   |some (.lp s off)=>match S.lo s with
    |some (.cells _ cs)=>match mS E t cs off with|some (r,v)=>af r (K v)|none=>False
    |_=>False
   |_=>match dM E (.load t (.tmp a)) (cY S.tm) S.hp with
    |some d=>d.run fun x=>match x with| .v v=>K v|_=>False
    |none=>False
def nu (S:St):List ResultVar→(List V→Prop)→Prop
 |[],K=>K []
 |r::l,K=>mC E S r fun v=>nu S l fun vs=>K (v::vs)
def Lr (fn:Func) (K:V→ai→Prop) (S:St):Prop:=
 nu E S fn.results.toList fun vs=>match vs with|[v]=>K v S.hp|vs=>K (.tuple vs) S.hp
def Fh:List V→Nat→Nat→Option T
 |[],_,_=>none
 |v::l,j,t=>bif Nat.beq t j then some (.v v) else Fh l (j+1) t
def F (R:mA):mA where
 call f args H K:=
  match E.fn f with
  |some fn=>match fn.body with
   |some c=>af (Nat.ble args.length fn.ntmps)
    (gr E R f (E.ann f) fn.ntmps c 0 ⟨Fh args 0,fun _=>none,H⟩ fun e S=>match e with| .exit _=>False|_=>Lr E fn K S)
   |none=>False
  |none=>False
 loop c f n S Kr Ke:=
  match E.fn f,sI (E.ann f) n with
  |some fn,some kp=>gr E R f (E.ann f) fn.ntmps c (n+1) S fun e S'=>match e with
   | .normal=>lH kp.cQ kp.tU S' fun S0=>R.loop c f n S0 Kr Ke
   | .exit id=>lH (pL kp.cj) (pL kp.hJ) S' (Ke id)
   | .ret=>lH (pL kp.kS) (pL kp.UF) S' Kr
  |_,_=>False
structure mA.le (A B:mA):Prop where
 call:∀f args H K K',(∀v H',K v H'→K' v H')→A.call f args H K→B.call f args H K'
 loop:∀c f n S Kr QI Ke QJ,(∀S',Kr S'→QI S')→(∀id S',Ke id S'→QJ id S')→A.loop c f n S Kr Ke→B.loop c f n S QI QJ
def qQ:mA where
 call f args H K:=∀R:mA,R.le R→(F E R).le R→R.call f args H K
 loop c f n S Kr Ke:=∀R:mA,R.le R→(F E R).le R→R.loop c f n S Kr Ke
end
theorem ff {c:Bool} {X X' Y Y':Prop} (hx:X→X') (hy:Y→Y') (h:br c X Y):br c X' Y':=by
 cases c
 ·exact hy h
 ·exact hx h
theorem bY {c:Bool} {X X':Prop} (hx:X→X') (h:af c X):af c X':=by
 cases c
 ·exact h
 ·exact hx h
theorem aW {c:Bool} {X:Prop} (h:af c X):c=true∧X:=by
 cases c
 ·exact h.elim
 ·exact⟨rfl,h⟩
theorem gA {c:Bool} {X Y:Prop} (h:br c X Y):(c=true∧X)∨(c=false∧Y):=by
 cases c
 ·exact .inr ⟨rfl,h⟩
 ·exact .inl ⟨rfl,h⟩
theorem fS.cJ {α:Type} {d:fS α} {K K':α→Prop} (h:∀x,K x→K' x) (hd:d.run K):d.run K':=
 bY (ff (h _) (h _)) hd
theorem fS.fg {α:Type} {d:fS α} {K:α→Prop} (h:d.run K):d.rq=true∧K (if d.c then d.x else d.y):=by
 obtain⟨h1,h2⟩:=aW h;refine⟨h1, ?_⟩;rcases gA h2 with⟨hc,h⟩|⟨hc,h⟩<;>simpa [hc] using h
section
variable {E:kG} {A B:mA} {ann:bS} {N:Nat} {f:FuncId}
theorem eV {dst:Option Tmp} {x:T} {S:St} {K K':St→Prop} (h:∀S,K S→K' S) (hp:jz ann N dst x S K):jz ann N dst x S K':=by
 cases dst with
 |none=>exact h _ hp
 |some d=>
  refine bY ?_ hp
  cases x with
  |v y=>exact h _
  |undef=>exact h _
  |lp s off=>
   simp only[]
   cases ab ann.aX d with
   |none=>exact id
   |some s'=>cases hs:Nat.beq s s'<;>simp [hs];exact h _
theorem Bw {lo hi:Nat} {K K':Nat→Prop} (h:∀c,K c→K' c) (ha:RE lo hi K):RE lo hi K':=fun c h1 h2=>h _ (ha c h1 h2)
theorem AT {ts:List TypeId} {args:List V} {H:ai} {K K':Oq→Nat→Nat→ai→Prop} (h:∀q n c H',K q n c H'→K' q n c H') (ho:aD E ts args H K):aD E ts args H K':=by
 unfold aD at ho⊢;split at ho
 ·split at ho
  ·split at ho
   ·exact bY (ff (bY (h _ _ _ _)) (bY (Bw fun c=>h _ _ _ _))) ho
   ·exact ho
  ·exact ho
 ·exact ho
theorem uf {g:FuncId} {args:List V} {H:ai} {K K':V→ai→Prop} (h:∀v H',K v H'→K' v H') (ho:iT E g args H K):iT E g args H K':=by
 unfold iT at ho⊢;split at ho
 ·rename_i x _;exact x.mono _ _ _ _ h ho
 ·exact ho
theorem HH (hR:A.le B) {fv:V} {args:List V} {H:ai} {K K':V→ai→Prop} (h:∀v H',K v H'→K' v H') (ho:jV E A fv args H K):jV E B fv args H K':=by
 unfold jV at ho⊢;split at ho
 ·split at ho
  ·exact uf h ho
  ·exact hR.call _ _ _ _ _ h ho
 ·split at ho
  ·exact uf h ho
  ·exact hR.call _ _ _ _ _ h ho
 ·exact ho
theorem C8 {H:ai} {id:Nat} {K1 K1':Prop} {K2 K2':ai→Prop} (h1:K1→K1') (h2:∀H',K2 H'→K2' H') (ho:mapNext H id K1 K2):mapNext H id K1' K2':=by
 unfold mapNext at ho⊢;split at ho
 ·exact h1 ho
 ·split at ho
  ·rename_i es c _;revert ho;cases oj _ es&&Nat.ble _ _
   ·exact fun ho=>ho
   ·simp only[cond_true];split
    ·exact h1
    ·exact fun ho b hb=>h2 _ (ho b hb)
  ·exact ho
 ·exact ho
theorem C9 {rt:TypeId} {K K':T→ai→Prop} (h:∀x H',K x H'→K' x H') (v:V) (H':ai) (hv:match tX E rt v with|some (b,v')=>af b (K (.v v') H')|none=>False):match tX E rt v with|some (b,v')=>af b (K' (.v v') H')|none=>False:=by
 revert hv;split
 ·exact bY (h _ _)
 ·exact id
theorem jQ (hR:A.le B) {o:Op} {rt:TypeId} {ev:Ev} {H:ai} {K K':T→ai→Prop} (h:∀x H',K x H'→K' x H') (ho:bQ E A o rt ev H K):bQ E B o rt ev H K':=by
 have simple:∀o':Op,(match cn E o' ev H with|some (r,x,H')=>af r (K x H')|none=>False)→
  (match cn E o' ev H with|some (r,x,H')=>af r (K' x H')|none=>False):=by
  intro o' ho;revert ho;split
  ·exact bY (h _ _)
  ·exact id
 unfold bQ at ho⊢;split at ho
 ·split at ho
  ·split at ho
   ·exact h _ _ ho
   ·exact ho
  ·exact ho
 ·split at ho
  ·split at ho
   ·exact bY (h _ _) ho
   ·exact ho
  ·exact ho
 ·split at ho
  ·split at ho
   ·exact bY (h _ _) ho
   ·exact ho
  ·exact ho
 ·split at ho
  ·split at ho
   ·split at ho
    ·exact bY (h _ _) ho
    ·exact ho
   ·exact ho
  ·exact ho
 ·split at ho
  ·split at ho
   ·exact HH hR (C9 h) ho
   ·exact ho
  ·exact AT (fun _ _ _ _=>h _ _) ho
  ·exact simple _ ho
 ·split at ho
  ·split at ho
   ·split at ho
    ·exact bY (Bw fun c=>h _ _) ho
    ·exact ho
   ·exact ho
  ·exact simple _ ho
 ·split at ho
  ·exact C8 (h _ _) (fun _=>h _ _) ho
  ·exact ho
 ·exact simple _ ho
theorem yx (hR:A.le B) {o:Oper} {S:St} {K K':St→Prop} (h:∀S,K S→K' S) (ho:js E A ann N o S K):js E B ann N o S K':=by
 unfold js at ho⊢;split at ho
 ·split at ho
  ·exact fS.cJ (fun x=>eV h) ho
  ·exact ho
 ·split at ho
  ·exact fS.cJ (fun x=>eV h) ho
  ·exact ho
 ·split at ho
  ·exact fS.cJ (fun x=>eV h) ho
  ·exact ho
 ·split at ho
  ·exact bY (eV h) ho
  ·exact ho
 ·split at ho
  ·exact fS.cJ (fun x=>eV h) ho
  ·exact ho
 ·exact jQ hR (fun x H'=>eV h) ho
 ·unfold Jr at ho⊢;split at ho
  ·split at ho
   ·exact eV h ho
   ·exact ho
  ·exact ho
theorem eS (hR:A.le B) {aJ:List Oper} {o:Oper} {S:St} {K K':St→Prop} (h:∀S,K S→K' S) (ho:cq E A ann N aJ o S K):cq E B ann N aJ o S K':=by
 unfold cq at ho⊢;split at ho
 ·exact yx hR h ho
 ·split at ho
  ·exact ff (yx hR h) (eV h) ho
  ·exact eV h ho
  ·exact ho
theorem pM (hR:A.le B) {aJ:List Oper}:∀(l:List Oper) {S:St} {K K':St→Prop},(∀S,K S→K' S)→lG E A ann N aJ l S K→lG E B ann N aJ l S K'
 |[],_,_,_,h,ho=>h _ ho
 |_::l,_,_,_,h,ho=>eS hR (fun _=>pM hR l h) ho
theorem Bx {S:St} {s:Nat} {x:T} (h:S.tm s=some x):S.setT s x=S:=by
 have:(fun t=>bif Nat.beq t s then some x else S.tm t)=S.tm:=by
  funext t;cases hb:Nat.beq t s
  ·rfl
  ·rw[Nat.eq_of_beq_eq_true hb,h];rfl
 cases S;simp only[St.setT,St.mk.injEq,and_true];exact this
theorem ib {aJ:List Oper} {o:Oper} {S:St} {K:St→Prop}:ud E A ann N aJ o S K=cq E A ann N aJ o S K:=by
 unfold ud cq
 cases o.guard with
 |none=>rfl
 |some p=>
  obtain⟨j,want⟩:=p;simp only[C0,ga]
  cases aJ[j]? with
  |none=>rfl
  |some q=>
   simp only[]
   cases q.dst with
   |none=>rfl
   |some s=>
    simp only[]
    cases ht:S.tm s with
    |none=>rfl
    |some t=>cases t with
     |undef=>rfl
     |lp s' off=>rfl
     |v x=>cases x with
      |bool b=>
       simp only[RC];by_cases hb:b=want
       ·subst hb;simp only[beq_self_eq_true,br,Bx ht]
       ·have hw:(b == want)=false:=by simpa using hb
        have hn:(!want)=b:=by cases b<;>cases want<;>simp_all
        simp only[hw,br,hn,Bx ht]
      |_=>rfl
theorem lh {aJ:List Oper}:∀(l:List Oper) {S:St} {K:St→Prop},sH E A ann N aJ l S K=lG E A ann N aJ l S K
 |[],_,_=>rfl
 |o::l,S,K=>by
  simp only[sH,lG,ib];congr 1;funext S';exact lh l
theorem iv {ts ls:List Nat} {S:St} {K K':St→Prop} (h:∀S,K S→K' S) (hn:lH ts ls S K):lH ts ls S K':=by
 unfold lH at hn⊢;split at hn
 ·exact h _ hn
 ·exact hn
theorem sJ {ts:List (Nat×KT)} {ls:List (Nat×TypeId×List cA)} {S:St} {K K':St→Prop} (h:∀S,K S→K' S) (hn:Bu ts ls S K):Bu ts ls S K':=
 bY (h _) hn
theorem wP {kp:jy} {K K':Ex→St→Prop} (h:∀e S,K e S→K' e S):∀(l:List Nat) (id:Nat) (S:St),vI kp K l id S→vI kp K' l id S
 |[],_,_,hn=>hn
 |_::l,id,S,hn=>ff (sJ (h _)) (wP h l id S) hn
theorem HI {kp:Option jy} {A A':(Ex→St→Prop)→Prop} {K K':Ex→St→Prop} (h:∀e S,K e S→K' e S) (hA:∀K K',(∀e S,K e S→K' e S)→A K→A' K') (hj:wO kp A K):wO kp A' K':=by
 unfold wO at hj⊢
 cases kp with
 |none=>exact hA _ _ h hj
 |some kp=>
  refine hA _ _ ?_ hj;intro e S
  cases e with
  |normal=>exact iv fun S=>sJ (h _)
  |exit id=>exact h _ _
  |ret=>exact h _ _
theorem Fi {ts ls dT dL:List Nat} {tr:fP MS} {S:St} {K K':St→Prop} (h:∀S,K S→K' S) (hm:pK ts ls dT dL tr S K):pK ts ls dT dL tr S K':=by
 unfold pK at hm⊢;split at hm
 ·exact bY (h _) hm
 ·exact hm
theorem pN (hR:A.le B) {aJ:List Oper} {ts ls dT dL:List Nat} {K K':St→Prop} (h:∀S,K S→K' S):∀(l:List Oper) {S:St},kJ E A ann N ts ls dT dL aJ l S K→kJ E B ann N ts ls dT dL aJ l S K'
 |[],S,hx=>h _ hx
 |o::l,S,hx=>by
  unfold kJ at hx⊢;split at hx
  ·rw[ib] at hx⊢;exact eS hR (fun _=>pN hR h l) hx
  ·exact Fi h hx
theorem HJ {kp:jy} {S0:St} {A A':(Ex→St→Prop)→Prop} {K K':Ex→St→Prop} (h:∀e S,K e S→K' e S) (hA:∀K K',(∀e S,K e S→K' e S)→A K→A' K') (hj:Fg kp S0 A K):Fg kp S0 A' K':=by
 unfold Fg at hj⊢;refine hA _ _ ?_ hj;intro e S
 cases e with
 |normal=>exact iv fun S=>bY (h _ _)
 |exit id=>exact h _ _
 |ret=>exact h _ _
theorem sK {ok:jy→Bool} {kp:Option jy} {S0:St} {A A':(Ex→St→Prop)→Prop} {K K':Ex→St→Prop} (h:∀e S,K e S→K' e S) (hA:∀K K',(∀e S,K e S→K' e S)→A K→A' K') (hj:mB ok kp S0 A K):mB ok kp S0 A' K':=by
 unfold mB at hj⊢
 cases kp with
 |none=>exact hA _ _ h hj
 |some kp=>
  simp only[] at hj⊢;split at hj
  ·exact bY (HJ h hA) hj
  ·exact HI h hA hj
theorem jX {st st':Nat→St→(St→Prop)→Prop} (hs:∀i S K K',(∀S,K S→K' S)→st i S K→st' i S K'):∀(t:r6) {S:St} {K K':St→Prop},(∀S,K S→K' S)→iu st t S K→iu st' t S K'
 | .nil,S,K,K',h,hx=>h _ hx
 | .aV,S,K,K',h,hx=>hx
 | .one i r,S,K,K',h,hx=>hs _ _ _ _ (fun S' hk=>jX hs r h hk) hx
 | .ND a b,S,K,K',h,hx=>⟨jX hs a h hx.1,jX hs b h hx.2⟩
theorem oy (hR:A.le B) {aJ:List Oper} {draw:Bool} {S:St} {K K':St→Prop} (h:∀S,K S→K' S) (hx:gW E A ann N aJ draw S K):gW E B ann N aJ draw S K':=by
 unfold gW at hx⊢;revert hx;split
 ·simp only[lh];exact pM hR _ h
 ·refine bY (jX (fun i S K K' h hx=> ?_) _ h);unfold fT at hx⊢;split at hx
  ·rw[ib] at hx⊢;exact eS hR h hx
  ·exact hx
theorem gX (hR:A.le B):∀(c:Code) (n:Nat) (S:St) (K K':Ex→St→Prop),(∀e S,K e S→K' e S)→gr E A f ann N c n S K→gr E B f ann N c n S K':=by
 intro c
 induction c with
 |skip=>intro n S K K' h hx;exact h _ _ hx
 |seq a b iha ihb=>
  intro n S K K' h hx;refine iha _ _ _ _ ?_ hx;intro e S'
  cases e with
  |normal=>exact ihb _ _ _ _ h
  |exit id=>exact h _ _
  |ret=>exact h _ _
 |cond c x y ihx ihy=>
  intro n S K K' h hx;simp only[gr] at hx⊢;split at hx
  ·exact sK h (fun K K' h=>ff (ihx _ _ _ _ h) (ihy _ _ _ _ h)) hx
  ·exact hx
 |block id b ih=>
  intro n S K K' h hx;simp only[gr] at hx⊢;refine sK h ?_ hx;intro K K' h hx;refine ih _ _ _ _ ?_ hx;intro e S'
  cases e with
  |normal=>exact h _ _
  |exit j=>exact ff (h _ _) (h _ _)
  |ret=>exact h _ _
 |loop c ih=>
  intro n S K K' h hx;simp only[gr] at hx⊢;split at hx
  ·exact iv (fun S0=>hR.loop _ _ _ _ _ _ _ _ (fun S'=>sJ (h _)) (fun id S'=>wP h _ id S')) hx
  ·exact hx
 |exit id=>intro n S K K' h hx;exact h _ _ hx
 |ret=>intro n S K K' h hx;exact h _ _ hx
 |region id aJ draw=>
  intro n S K K' h hx;simp only[gr] at hx⊢;revert hx;split
  ·exact oy hR (h _)
  ·split
   ·exact bY (pN hR (h _) _)
   ·exact sK h (fun K K' h=>oy hR (h _))
 |rangeFunc=>intro n S K K' h hx;exact hx
 |scope b ih=>intro n S K K' h hx;simp only[gr] at hx⊢;exact ih _ _ _ _ h hx
 |label=>intro n S K K' h hx;simp only[gr] at hx⊢;exact h _ _ hx
 |goto=>intro n S K K' h hx;exact hx
 |refuse=>intro n S K K' h hx;exact hx
theorem Da {S:St} {r:ResultVar} {K K':V→Prop} (h:∀v,K v→K' v) (hx:mC E S r K):mC E S r K':=by
 unfold mC at hx⊢;split at hx
 ·split at hx
  ·exact h _ hx
  ·exact hx
 ·split at hx
  ·split at hx
   ·split at hx
    ·exact bY (h _) hx
    ·exact hx
   ·exact hx
  ·split at hx
   ·refine fS.cJ ?_ hx;intro x
    cases x with
    |v y=>exact h _
    |_=>exact id
   ·exact hx
theorem r7 {S:St}:∀(l:List ResultVar) {K K':List V→Prop},(∀v,K v→K' v)→nu E S l K→nu E S l K'
 |[],_,_,h,hx=>h _ hx
 |_::l,_,_,h,hx=>Da (fun _=>r7 l fun _=>h _) hx
theorem By {fn:Func} {K K':V→ai→Prop} (h:∀v H,K v H→K' v H) {S:St} (hx:Lr E fn K S):Lr E fn K' S:=by
 refine r7 _ ?_ hx;intro vs;split
 ·exact h _ _
 ·exact h _ _
theorem vJ (hR:A.le B):(F E A).le (F E B) where
 call f args H K K' h hx:=by
  simp only[F] at hx⊢;split at hx
  ·split at hx
   ·refine bY (gX hR _ _ _ _ _ ?_) hx;intro e S
    cases e with
    |normal=>exact By h
    |exit id=>exact fun h=>h
    |ret=>exact By h
   ·exact hx
  ·exact hx
 loop c f n S Kr QI Ke QJ hr he hx:=by
  simp only[F] at hx⊢;split at hx
  ·refine gX hR _ _ _ _ _ ?_ hx;intro e S
   cases e with
   |normal=>exact iv fun S0=>hR.loop _ _ _ _ _ _ _ _ hr he
   |exit id=>exact iv (he id)
   |ret=>exact iv hr
  ·exact hx
theorem nv:(qQ E).le (qQ E):=
 ⟨fun f args H _ _ hk hx R hm hp=>hm.call f args H _ _ hk (hx R hm hp),
  fun c f n S _ _ _ _ hr he hx R hm hp=>hm.loop c f n S _ _ _ _ hr he (hx R hm hp)⟩
theorem yy {R:mA} (hm:R.le R) (hp:(F E R).le R):(qQ E).le R:=
 ⟨fun f args H _ _ hk hx=>hm.call f args H _ _ hk (hx R hm hp),
  fun c f n S _ _ _ _ hr he hx=>hm.loop c f n S _ _ _ _ hr he (hx R hm hp)⟩
theorem pO:(F E (qQ E)).le (qQ E):=
 ⟨fun f args H _ _ hk hx R hm hp=>hp.call f args H _ _ hk ((vJ (yy hm hp)).call f args H _ _ (fun _ _=>id) hx),
  fun c f n S _ _ _ _ hr he hx R hm hp=>hp.loop c f n S _ _ _ _ hr he ((vJ (yy hm hp)).loop c f n S _ _ _ _ (fun _=>id) (fun _ _=>id) hx)⟩
theorem Fj:(qQ E).le (F E (qQ E)):=yy (vJ nv) (vJ pO)
theorem NG {args:List V} {H:ai} {K:V→ai→Prop}:(qQ E).call f args H K=(F E (qQ E)).call f args H K:=
 propext ⟨Fj.call _ _ _ _ _ fun _ _=>id,pO.call _ _ _ _ _ fun _ _=>id⟩
theorem NH {c:Code} {n:Nat} {S:St} {Kr:St→Prop} {Ke:Nat→St→Prop}:(qQ E).loop c f n S Kr Ke=(F E (qQ E)).loop c f n S Kr Ke:=
 propext ⟨Fj.loop _ _ _ _ _ _ _ _ (fun _=>id) fun _ _=>id,pO.loop _ _ _ _ _ _ _ _ (fun _=>id) fun _ _=>id⟩
structure iw (R:mA):Prop where
 call:∀f args H K,R.call f args H K→∃v H',K v H'
 loop:∀c f n S Kr Ke,R.loop c f n S Kr Ke→(∃S',Kr S')∨∃id S',Ke id S'
theorem fh {dst:Option Tmp} {x:T} {S:St} {K:St→Prop} (hp:jz ann N dst x S K):∃S',K S':=by
 cases dst with
 |none=>exact⟨_,hp⟩
 |some d=>
  have h:=(aW hp).2
  cases x with
  |v y=>exact⟨_,h⟩
  |undef=>exact⟨_,h⟩
  |lp s off=>
   simp only[] at h
   cases hl:ab ann.aX d with
   |none=>rw[hl] at h;exact h.elim
   |some s'=>
    rw[hl] at h;cases hs:Nat.beq s s'<;>simp [hs] at h
    exact⟨_,h⟩
theorem xw {ts:List TypeId} {args:List V} {H:ai} {K:Oq→Nat→Nat→ai→Prop} (ho:aD E ts args H K):∃q n c H',K q n c H':=by
 unfold aD at ho;split at ho
 ·rename_i t u p l cp x;split at ho
  ·rename_i el n cT z _
   split at ho
   ·rename_i r m ok cs _;rcases gA (aW ho).2 with⟨_,h⟩|⟨_,h⟩
    ·exact⟨_,_,_,_,(aW h).2⟩
    ·obtain⟨hr,h⟩:=aW h;simp only[Bool.and_eq_true] at hr;have hb:=Nat.le_of_ble_eq_true hr.2.2;refine⟨_,_,_,_,h _ (Nat.le_refl _) ?_⟩;have:l+m≤(l+m)*(cT+1):=Nat.le_mul_of_pos_right _ (by omega);omega
   ·exact ho.elim
  ·exact ho.elim
 ·exact ho.elim
theorem Db (hR:iw A) {fv:V} {args:List V} {H:ai} {K:V→ai→Prop} (ho:jV E A fv args H K):∃v H',K v H':=by
 unfold jV at ho;split at ho
 ·split at ho
  ·unfold iT at ho;split at ho
   ·rename_i x _;exact x.vF _ _ _ ho
   ·exact ho.elim
  ·exact hR.call _ _ _ _ ho
 ·split at ho
  ·unfold iT at ho;split at ho
   ·rename_i x _;exact x.vF _ _ _ ho
   ·exact ho.elim
  ·exact hR.call _ _ _ _ ho
 ·exact ho.elim
theorem yz {H:ai} {id:Nat} {K1:Prop} {K2:ai→Prop} (ho:mapNext H id K1 K2):K1∨∃H',K2 H':=by
 unfold mapNext at ho;split at ho
 ·exact .inl ho
 ·split at ho
  ·rename_i es c _;revert ho;cases oj _ es&&Nat.ble _ _
   ·exact fun ho=>ho.elim
   ·simp only[cond_true];split
    ·exact .inl
    ·exact fun ho=>.inr ⟨_,ho _ (mem_cons_self)⟩
  ·exact ho.elim
 ·exact ho.elim
theorem yA {rt:TypeId} {K:T→ai→Prop} (v:V) (H':ai) (hv:match tX E rt v with|some (b,v')=>af b (K (.v v') H')|none=>False):∃x H',K x H':=by
 revert hv;split
 ·exact fun hv=>⟨_,_,(aW hv).2⟩
 ·exact fun hv=>hv.elim
theorem o7 (hR:iw A) {o:Op} {rt:TypeId} {ev:Ev} {H:ai} {K:T→ai→Prop} (ho:bQ E A o rt ev H K):∃x H',K x H':=by
 have simple:∀o':Op,(match cn E o' ev H with|some (r,x,H')=>af r (K x H')|none=>False)→∃x H',K x H':=by
  intro o' ho;revert ho;split
  ·exact fun ho=>⟨_,_,(aW ho).2⟩
  ·exact fun ho=>ho.elim
 unfold bQ at ho;split at ho
 ·split at ho
  ·split at ho
   ·exact⟨_,_,ho⟩
   ·exact ho.elim
  ·exact ho.elim
 ·split at ho
  ·split at ho
   ·exact⟨_,_,(aW ho).2⟩
   ·exact ho.elim
  ·exact ho.elim
 ·split at ho
  ·split at ho
   ·exact⟨_,_,(aW ho).2⟩
   ·exact ho.elim
  ·exact ho.elim
 ·split at ho
  ·split at ho
   ·split at ho
    ·exact⟨_,_,(aW ho).2⟩
    ·exact ho.elim
   ·exact ho.elim
  ·exact ho.elim
 ·split at ho
  ·split at ho
   ·obtain⟨v,H',hv⟩:=Db hR ho;exact yA v H' hv
   ·exact ho.elim
  ·obtain⟨q,n,c,H',hk⟩:=xw ho;exact⟨_,_,hk⟩
  ·exact simple _ ho
 ·split at ho
  ·split at ho
   ·split at ho
    ·obtain⟨hr,h⟩:=aW ho;have hb:=Nat.le_of_ble_eq_true hr;exact⟨_,_,h _ (Nat.le_refl _) (by omega)⟩
    ·exact ho.elim
   ·exact ho.elim
  ·exact simple _ ho
 ·split at ho
  ·rcases yz ho with h|⟨H',h⟩
   ·exact⟨_,_,h⟩
   ·exact⟨_,_,h⟩
  ·exact ho.elim
 ·exact simple _ ho
theorem ug (hR:iw A) {o:Oper} {S:St} {K:St→Prop} (ho:js E A ann N o S K):∃S',K S':=by
 unfold js at ho;split at ho
 ·split at ho
  ·exact fh (fS.fg ho).2
  ·exact ho.elim
 ·split at ho
  ·exact fh (fS.fg ho).2
  ·exact ho.elim
 ·split at ho
  ·exact fh (fS.fg ho).2
  ·exact ho.elim
 ·split at ho
  ·exact fh (aW ho).2
  ·exact ho.elim
 ·split at ho
  ·exact fh (fS.fg ho).2
  ·exact ho.elim
 ·obtain⟨x,H',h⟩:=o7 hR ho;exact fh h
 ·unfold Jr at ho;split at ho
  ·split at ho
   ·exact fh ho
   ·exact ho.elim
  ·exact ho.elim
theorem oz (hR:iw A) {aJ:List Oper} {o:Oper} {S:St} {K:St→Prop} (ho:cq E A ann N aJ o S K):∃S',K S':=by
 unfold cq at ho;split at ho
 ·exact ug hR ho
 ·split at ho
  ·rcases gA ho with⟨_,h⟩|⟨_,h⟩
   ·exact ug hR h
   ·exact fh h
  ·exact fh ho
  ·exact ho.elim
theorem r8 (hR:iw A) {aJ:List Oper}:∀(l:List Oper) {S:St} {K:St→Prop},lG E A ann N aJ l S K→∃S',K S'
 |[],_,_,ho=>⟨_,ho⟩
 |_::l,_,_,ho=>let ⟨_,h⟩:=oz hR ho;r8 hR l h
theorem gY {ts ls:List Nat} {S:St} {K:St→Prop} (h:lH ts ls S K):∃S',K S':=by
 unfold lH at h;split at h
 ·exact⟨_,h⟩
 ·exact h.elim
theorem sa {kp:jy} {K:Ex→St→Prop}:∀(l:List Nat) (id:Nat) (S:St),vI kp K l id S→∃e S',K e S'
 |[],_,_,h=>h.elim
 |_::l,id,S,h=>by
  rcases gA h with⟨_,h⟩|⟨_,h⟩
  ·exact⟨_,_,(aW h).2⟩
  ·exact sa l id S h
theorem Dc {kp:Option jy} {Q:(Ex→St→Prop)→Prop} {K:Ex→St→Prop} (hQ:∀K,Q K→∃e S,K e S) (h:wO kp Q K):∃e S,K e S:=by
 unfold wO at h
 cases kp with
 |none=>exact hQ _ h
 |some kp=>
  obtain⟨e,S,h⟩:=hQ _ h
  cases e with
  |normal=>obtain⟨S',h⟩:=gY h;exact⟨_,_,(aW h).2⟩
  |exit id=>exact⟨_,_,h⟩
  |ret=>exact⟨_,_,h⟩
theorem oA {ok:jy→Bool} {kp:Option jy} {S0:St} {Q:(Ex→St→Prop)→Prop} {K:Ex→St→Prop} (hQ:∀K,Q K→∃e S,K e S) (h:mB ok kp S0 Q K):∃e S,K e S:=by
 unfold mB at h
 cases kp with
 |none=>exact hQ _ h
 |some kp=>
  simp only[] at h;split at h
  ·obtain⟨e,S,h⟩:=hQ _ (aW h).2
   cases e with
   |normal=>obtain⟨S',h⟩:=gY h;exact⟨_,_,(aW h).2⟩
   |exit id=>exact⟨_,_,h⟩
   |ret=>exact⟨_,_,h⟩
  ·exact Dc hQ h
theorem sb (hR:iw A) {aJ:List Oper} {ts ls dT dL:List Nat} {K:St→Prop}:∀(l:List Oper) {S:St},kJ E A ann N ts ls dT dL aJ l S K→∃S',K S'
 |[],S,hx=>⟨_,hx⟩
 |o::l,S,hx=>by
  unfold kJ at hx;split at hx
  ·rw[ib] at hx;obtain⟨S',h⟩:=oz hR hx;exact sb hR l h
  ·unfold pK at hx;split at hx
   ·exact⟨_,(aW hx).2⟩
   ·exact hx.elim
theorem mW {st:Nat→St→(St→Prop)→Prop} (hs:∀i S K,st i S K→∃S',K S'):∀(t:r6) {S:St} {K:St→Prop},iu st t S K→∃S',K S'
 | .nil,S,K,hx=>⟨_,hx⟩
 | .aV,S,K,hx=>hx.elim
 | .one i r,S,K,hx=>by
   obtain⟨S',h⟩:=hs _ _ _ hx;exact mW hs r h
 | .ND a b,S,K,hx=>mW hs a hx.1
theorem pP (hR:iw A) {aJ:List Oper} {draw:Bool} {S:St} {K:St→Prop} (hx:gW E A ann N aJ draw S K):∃S',K S':=by
 unfold gW at hx;revert hx;split
 ·rw[lh];exact r8 hR _
 ·intro hx;refine mW (fun i S K h=> ?_) _ (aW hx).2;unfold fT at h;split at h
  ·rw[ib] at h;exact oz hR h
  ·exact h.elim
theorem wQ (hR:iw A):∀(c:Code) (n:Nat) (S:St) (K:Ex→St→Prop),gr E A f ann N c n S K→∃e S',K e S':=by
 intro c
 induction c with
 |skip=>intro n S K hx;exact⟨_,_,hx⟩
 |seq a b iha ihb=>
  intro n S K hx;obtain⟨e,S',h⟩:=iha _ _ _ hx
  cases e with
  |normal=>exact ihb _ _ _ h
  |exit id=>exact⟨_,_,h⟩
  |ret=>exact⟨_,_,h⟩
 |cond c x y ihx ihy=>
  intro n S K hx;simp only[gr] at hx;split at hx
  ·refine oA ?_ hx;intro K h;rcases gA h with⟨_,h⟩|⟨_,h⟩
   ·exact ihx _ _ _ h
   ·exact ihy _ _ _ h
  ·exact hx.elim
 |block id b ih=>
  intro n S K hx;simp only[gr] at hx;refine oA ?_ hx;intro K hx;obtain⟨e,S',h⟩:=ih _ _ _ hx
  cases e with
  |normal=>exact⟨_,_,h⟩
  |exit j=>rcases gA h with⟨_,h⟩|⟨_,h⟩<;>exact⟨_,_,h⟩
  |ret=>exact⟨_,_,h⟩
 |loop c ih=>
  intro n S K hx;simp only[gr] at hx;split at hx
  ·obtain⟨S0,h⟩:=gY hx;rcases hR.loop _ _ _ _ _ _ h with⟨S',h⟩|⟨id,S',h⟩
   ·exact⟨_,_,(aW h).2⟩
   ·exact sa _ _ _ h
  ·exact hx.elim
 |exit id=>intro n S K hx;exact⟨_,_,hx⟩
 |ret=>intro n S K hx;exact⟨_,_,hx⟩
 |region id aJ draw=>
  intro n S K hx;simp only[gr] at hx;revert hx;split
  ·intro hx;obtain⟨S',h⟩:=pP hR hx;exact⟨_,_,h⟩
  ·split
   ·intro hx;obtain⟨S',h⟩:=sb hR _ (aW hx).2;exact⟨_,_,h⟩
   ·intro hx;refine oA ?_ hx;intro K h;obtain⟨S',h⟩:=pP hR h;exact⟨_,_,h⟩
 |rangeFunc=>intro n S K hx;exact hx.elim
 |scope b ih=>intro n S K hx;simp only[gr] at hx;exact ih _ _ _ hx
 |label=>intro n S K hx;simp only[gr] at hx;exact⟨_,_,hx⟩
 |goto=>intro n S K hx;exact hx.elim
 |refuse=>intro n S K hx;exact hx.elim
theorem yB {S:St} {r:ResultVar} {K:V→Prop} (hx:mC E S r K):∃v,K v:=by
 unfold mC at hx;split at hx
 ·split at hx
  ·exact⟨_,hx⟩
  ·exact hx.elim
 ·split at hx
  ·split at hx
   ·split at hx
    ·exact⟨_,(aW hx).2⟩
    ·exact hx.elim
   ·exact hx.elim
  ·split at hx
   ·have h:=(fS.fg hx).2;revert h;split
    ·exact fun h=>⟨_,h⟩
    ·exact fun h=>h.elim
   ·exact hx.elim
theorem o8 {S:St}:∀(l:List ResultVar) {K:List V→Prop},nu E S l K→∃v,K v
 |[],_,hx=>⟨_,hx⟩
 |_::l,_,hx=>let ⟨_,h⟩:=yB hx;let ⟨_,h⟩:=o8 l h;⟨_,h⟩
theorem wR {fn:Func} {K:V→ai→Prop} {S:St} (hx:Lr E fn K S):∃v H',K v H':=by
 obtain⟨vs,h⟩:=o8 _ hx;revert h;split
 ·exact fun h=>⟨_,_,h⟩
 ·exact fun h=>⟨_,_,h⟩
theorem Fk (hR:iw A):iw (F E A) where
 call f args H K hx:=by
  simp only[F] at hx;split at hx
  ·split at hx
   ·obtain⟨e,S,h⟩:=wQ hR _ _ _ _ (aW hx).2
    cases e with
    |normal=>exact wR h
    |exit id=>exact h.elim
    |ret=>exact wR h
   ·exact hx.elim
  ·exact hx.elim
 loop c f n S Kr Ke hx:=by
  simp only[F] at hx;split at hx
  ·obtain⟨e,S,h⟩:=wQ hR _ _ _ _ hx
   cases e with
   |normal=>obtain⟨S',h⟩:=gY h;exact hR.loop _ _ _ _ _ _ h
   |exit id=>obtain⟨S',h⟩:=gY h;exact .inr ⟨_,_,h⟩
   |ret=>obtain⟨S',h⟩:=gY h;exact .inl ⟨_,h⟩
  ·exact hx.elim
def Js:mA where
 call _ _ _ K:=∃v H',K v H'
 loop _ _ _ _ Kr Ke:=(∃S',Kr S')∨∃id S',Ke id S'
theorem uh:iw Js:=⟨fun _ _ _ _ h=>h,fun _ _ _ _ _ _ h=>h⟩
theorem sL:Js.le Js:=
 ⟨fun _ _ _ _ _ h ⟨v,H',hk⟩=>⟨v,H',h _ _ hk⟩,
  fun _ _ _ _ _ _ _ _ hr he h=>h.imp (fun⟨S',h⟩=>⟨S',hr _ h⟩) fun⟨id,S',h⟩=>⟨id,S',he _ _ h⟩⟩
theorem sM:iw (qQ E):=by
 have h:(qQ E).le Js:=yy sL
  ⟨fun f args H K K' hk hx=>sL.call f args H _ _ hk ((Fk uh).call f args H K hx),
   fun c f n S Kr QI Ke QJ hr he hx=>sL.loop c f n S _ _ _ _ hr he ((Fk uh).loop c f n S Kr Ke hx)⟩
 exact⟨fun f args H K hx=>h.call f args H _ _ (fun _ _=>id) hx,fun c f n S Kr Ke hx=>h.loop c f n S _ _ _ _ (fun _=>id) (fun _ _=>id) hx⟩
end
theorem jD {n:Nat}:∀{l:List Nat},bI n l=true↔n∈l
 |[]=>by simp [bI]
 |x::l=>by
  rw[bI,Bool.or_eq_true,jD,mem_cons];exact⟨fun h=>h.imp Nat.eq_of_beq_eq_true id,fun h=>h.imp (fun e=>by subst e;exact Nat.beq_refl n) id⟩
theorem fQ {l m:List Nat} (h:jt l m=false):∀x∈l,x∉m:=by
 induction l with
 |nil=>intro x hx;cases hx
 |cons y l ih=>
  rw[jt,Bool.or_eq_false_iff] at h;intro x hx hm;rcases mem_cons.1 hx with rfl|hx
  ·have:=jD.2 hm;rw[h.1] at this;cases this
  ·exact ih h.2 x hx hm
structure jj where
 x:T
 RH:Option (Nat×aU):=none
 kd:Option Nat:=none
 hp:Option ai:=none
def jj.apply (ann:bS) (dst:Option Tmp) (u:jj) (S:St):St where
 tm:=fun t=>if dst=some t then some u.x else if u.kd.isSome=true∧ab ann.aX t=u.kd then none else S.tm t
 lo:=fun s=>match u.RH with|some (s',L)=>if s=s' then some L else S.lo s|none=>S.lo s
 hp:=u.hp.getD S.hp
def Ls (ann:bS) (N:Nat) (dst:Option Tmp) (x:T):Prop:=
 ∀d,dst=some d→Nat.blt d N=true∧∀s off,x=.lp s off→ab ann.aX d=some s
def gZ (dst:Option Tmp) (x:T) (S:St):St:=match dst with|some d=>S.setT d x|none=>S
theorem eD {ann:bS} {N:Nat} {dst:Option Tmp} {x:T} {S:St} {K:St→Prop}:jz ann N dst x S K↔Ls ann N dst x∧K (gZ dst x S):=by
 cases dst with
 |none=>simp [jz,Ls,gZ]
 |some d=>
  by_cases hb:d<N
  ·have hb':Nat.blt d N=true:=by simpa using hb
   cases x with
   |v y=>simp [jz,Ls,af,hb',gZ,hb]
   |undef=>simp [jz,Ls,af,hb',gZ,hb]
   |lp s off=>
    cases hl:ab ann.aX d with
    |none=>simp [jz,Ls,af,hb',hl]
    |some s'=>
     cases hs:Nat.beq s s'
     ·have:s'≠s:=fun e=>by subst e;rw[Nat.beq_refl] at hs;cases hs
      simp [jz,Ls,af,hb',hl,hs,this]
     ·have:s'=s:=(Nat.eq_of_beq_eq_true hs).symm;simp [jz,Ls,af,hb',hl,gZ,this,hb]
  ·have hb':Nat.blt d N=false:=by
    cases h:Nat.blt d N
    ·rfl
    ·exact(hb (by simpa using h)).elim
   simp [jz,Ls,af,hb',hb]
theorem St.ext' {S S':St} (h1:∀t,S.tm t=S'.tm t) (h2:∀t,S.lo t=S'.lo t) (h3:S.hp=S'.hp):S=S':=by
 cases S;cases S';simp only[St.mk.injEq];exact⟨funext h1,funext h2,h3⟩
theorem aY {a b:Nat}:Nat.beq a b=decide (a=b):=by
 cases h:Nat.beq a b
 ·rw[eq_comm,decide_eq_false_iff_not];intro e;subst e;rw[Nat.beq_refl] at h;cases h
 ·rw[eq_comm,decide_eq_true_iff];exact Nat.eq_of_beq_eq_true h
section
variable {E:kG} {R:mA} {ann:bS} {N:Nat} {aJ:List Oper}
def pr (E:kG) (R:mA) (ann:bS) (o:Oper) (S:St) (P:jj→Prop):Prop:=
 match HF E ann o with
 | .pure=>match bj E o.op (cY S.tm) with|some d=>d.run fun x=>P {x}|none=>False
 | .o5 s=>match gV E o.op (cY S.tm) s (S.lo s) with|some d=>d.run fun x=>P {x}|none=>False
 | .iS s=>match ey E o.op (cY S.tm) s (S.lo s) with|some d=>d.run fun x=>P {x:=x.2,RH:=some (s,x.1)}|none=>False
 | .ua=>match o.dst,iR E o.op (cY S.tm) with
   |some d,some (r,L)=>af r (P {x:=.lp d 0,RH:=some (d,L),kd:=some d})
   |_,_=>False
 | .kQ=>match dM E o.op (cY S.tm) S.hp with|some d=>d.run fun x=>P {x}|none=>False
 | .dF=>bQ E R o.op o.type (cY S.tm) S.hp fun x H'=>P {x,hp:=some H'}
 | .ub=>False
def mr (E:kG) (R:mA) (ann:bS) (aJ:List Oper) (o:Oper) (S:St) (P:jj→Prop):Prop:=
 match o.guard with
 |none=>pr E R ann o S P
 |some (j,want)=>
  match ga aJ S.tm j with
  |some (.v (.bool b))=>br (b == want) (pr E R ann o S P) (P {x:=.undef})
  |some .undef=>P {x:=.undef}
  |_=>False
theorem ny (dst:Option Tmp) (x:T) (S:St):({x:jj}).apply ann dst S=gZ dst x S:=by
 cases dst with
 |none=>exact St.ext' (fun t=>by simp [jj.apply,gZ]) (fun t=>by simp [jj.apply,gZ]) (by simp [jj.apply,gZ])
 |some d=>
  refine St.ext' (fun t=> ?_) (fun t=>by simp [jj.apply,gZ,St.setT]) (by simp [jj.apply,gZ,St.setT]);by_cases h:d=t<;>simp [jj.apply,gZ,St.setT,aY,h,eq_comm]
theorem Lt (dst:Option Tmp) (x:T) (s:Nat) (L:aU) (S:St):({x,RH:=some (s,L):jj}).apply ann dst S=gZ dst x (S.setL s L):=by
 cases dst with
 |none=>exact St.ext' (fun t=>by simp [jj.apply,gZ,St.setL]) (fun t=>by by_cases h:t=s<;>simp [jj.apply,gZ,St.setL,aY,h]) (by simp [jj.apply,gZ,St.setL])
 |some d=>
  refine St.ext' (fun t=> ?_) (fun t=>by by_cases h:t=s<;>simp [jj.apply,gZ,St.setL,St.setT,aY,h]) (by simp [jj.apply,gZ,St.setT,St.setL]);by_cases h:d=t<;>simp [jj.apply,gZ,St.setT,St.setL,aY,h,eq_comm]
theorem Lu (d:Nat) (x:T) (L:aU) (S:St):({x,RH:=some (d,L),kd:=some d:jj}).apply ann (some d) S=gZ (some d) x ((sG ann d S).setL d L):=by
 refine St.ext' (fun t=> ?_) (fun t=>by by_cases h:t=d<;>simp [jj.apply,gZ,St.setL,St.setT,sG,aY,h]) (by simp [jj.apply,gZ,St.setT,St.setL,sG]);by_cases h:d=t
 ·simp [jj.apply,gZ,St.setT,aY,h]
 ·have h':¬t=d:=fun e=>h e.symm
  simp only[jj.apply,gZ,St.setT,St.setL,sG,aY,h,h',some.injEq,decide_false,cond_false,if_false,isSome_some,true_and]
  cases hl:ab ann.aX t with
  |none=>simp
  |some s=>by_cases hs:s=d<;>simp [hs]
theorem NI (dst:Option Tmp) (x:T) (H:ai) (S:St):({x,hp:=some H:jj}).apply ann dst S=gZ dst x {S with hp:=H}:=by
 cases dst with
 |none=>exact St.ext' (fun t=>by simp [jj.apply,gZ]) (fun t=>by simp [jj.apply,gZ]) (by simp [jj.apply,gZ])
 |some d=>
  refine St.ext' (fun t=> ?_) (fun t=>by simp [jj.apply,gZ,St.setT]) (by simp [jj.apply,gZ,St.setT]);by_cases h:d=t<;>simp [jj.apply,gZ,St.setT,aY,h,eq_comm]
theorem Bz {o:Oper} {S:St} {K:St→Prop} (hno:(dj E ann aJ o).no=false):js E R ann N o S K↔pr E R ann o S fun u=>Ls ann N o.dst u.x∧K (u.apply ann o.dst S):=by
 unfold dj at hno;unfold js pr
 cases wM:HF E ann o with
 |ub=>rw[wM] at hno;cases hno
 |pure=>simp only[];cases bj E o.op (cY S.tm) with
  |none=>exact Iff.rfl
  |some d=>simp only[eD,ny]
 |o5 s=>simp only[];cases gV E o.op (cY S.tm) s (S.lo s) with
  |none=>exact Iff.rfl
  |some d=>simp only[eD,ny]
 |iS s=>simp only[];cases ey E o.op (cY S.tm) s (S.lo s) with
  |none=>exact Iff.rfl
  |some d=>simp only[eD,Lt]
 |ua=>cases hd:o.dst with
  |none=>exact Iff.rfl
  |some d=>simp only[];cases iR E o.op (cY S.tm) with
   |none=>exact Iff.rfl
   |some p=>simp only[eD,Lu]
 |kQ=>simp only[];cases dM E o.op (cY S.tm) S.hp with
  |none=>exact Iff.rfl
  |some d=>simp only[eD,ny]
 |dF=>simp only[eD,NI]
theorem nA {o:Oper} {S:St} {K:St→Prop} (hno:(dj E ann aJ o).no=false):cq E R ann N aJ o S K↔mr E R ann aJ o S fun u=>Ls ann N o.dst u.x∧K (u.apply ann o.dst S):=by
 unfold cq mr
 cases o.guard with
 |none=>exact Bz hno
 |some p=>
  obtain⟨j,want⟩:=p;simp only[]
  cases ga aJ S.tm j with
  |none=>exact Iff.rfl
  |some t=>cases t with
   |undef=>simp only[eD,ny]
   |lp s off=>exact Iff.rfl
   |v x=>cases x with
    |bool b=>
     simp only[br]
     cases b == want with
     |true=>exact Bz hno
     |false=>simp only[eD,ny]
    |_=>exact Iff.rfl
theorem BA (hR:R.le R) {o:Oper} {S:St} {P P':jj→Prop} (h:∀u,P u→P' u) (ho:pr E R ann o S P):pr E R ann o S P':=by
 unfold pr at ho⊢;split at ho
 ·split at ho
  ·exact fS.cJ (fun x=>h _) ho
  ·exact ho
 ·split at ho
  ·exact fS.cJ (fun x=>h _) ho
  ·exact ho
 ·split at ho
  ·exact fS.cJ (fun x=>h _) ho
  ·exact ho
 ·split at ho
  ·exact bY (h _) ho
  ·exact ho
 ·split at ho
  ·exact fS.cJ (fun x=>h _) ho
  ·exact ho
 ·exact jQ hR (fun x H'=>h _) ho
 ·exact ho
theorem qR (hR:R.le R) {o:Oper} {S:St} {P P':jj→Prop} (h:∀u,P u→P' u) (ho:mr E R ann aJ o S P):mr E R ann aJ o S P':=by
 unfold mr at ho⊢;split at ho
 ·exact BA hR h ho
 ·split at ho
  ·exact ff (BA hR h) (h _) ho
  ·exact h _ ho
  ·exact ho
theorem Fl (hR:iw R) {o:Oper} {S:St} {P:jj→Prop} (ho:mr E R ann aJ o S P):∃u,P u:=by
 have key:pr E R ann o S P→∃u,P u:=by
  intro ho;unfold pr at ho;split at ho
  ·split at ho
   ·exact⟨_,(fS.fg ho).2⟩
   ·exact ho.elim
  ·split at ho
   ·exact⟨_,(fS.fg ho).2⟩
   ·exact ho.elim
  ·split at ho
   ·exact⟨_,(fS.fg ho).2⟩
   ·exact ho.elim
  ·split at ho
   ·exact⟨_,(aW ho).2⟩
   ·exact ho.elim
  ·split at ho
   ·exact⟨_,(fS.fg ho).2⟩
   ·exact ho.elim
  ·obtain⟨x,H',h⟩:=o7 hR ho;exact⟨_,h⟩
  ·exact ho.elim
 unfold mr at ho;split at ho
 ·exact key ho
 ·split at ho
  ·rcases gA ho with⟨_,h⟩|⟨_,h⟩
   ·exact key h
   ·exact⟨_,h⟩
  ·exact⟨_,ho⟩
  ·exact ho.elim
theorem fS.xS {α:Type} {d:fS α} {K:α→Prop} (h:d.run K):∃x,∀K':α→Prop,d.run K'↔K' x:=by
 obtain⟨h1,h2⟩:=aW h;rcases gA h2 with⟨hc,h⟩|⟨hc,h⟩
 ·exact⟨d.x,fun K'=>by simp [fS.run,af,br,h1,hc]⟩
 ·exact⟨d.y,fun K'=>by simp [fS.run,af,br,h1,hc]⟩
theorem Fm {o:Oper} {S:St} {P:jj→Prop} (hw:(dj E ann aJ o).wh=false) (ho:mr E R ann aJ o S P):∃u,∀P':jj→Prop,mr E R ann aJ o S P'↔P' u:=by
 have key:pr E R ann o S P→∃u,∀P':jj→Prop,pr E R ann o S P'↔P' u:=by
  intro ho;unfold pr at ho⊢;unfold dj at hw
  cases hc:HF E ann o with
  |pure=>
   simp only[hc] at ho⊢
   cases hp:bj E o.op (cY S.tm) with
   |none=>simp only[hp] at ho
   |some d=>simp only[hp] at ho⊢;obtain⟨x,h⟩:=fS.xS ho;exact⟨_,fun P'=>h fun x=>P' {x}⟩
  |o5 s=>
   simp only[hc] at ho⊢
   cases hp:gV E o.op (cY S.tm) s (S.lo s) with
   |none=>simp only[hp] at ho
   |some d=>simp only[hp] at ho⊢;obtain⟨x,h⟩:=fS.xS ho;exact⟨_,fun P'=>h fun x=>P' {x}⟩
  |iS s=>
   simp only[hc] at ho⊢
   cases hp:ey E o.op (cY S.tm) s (S.lo s) with
   |none=>simp only[hp] at ho
   |some d=>simp only[hp] at ho⊢;obtain⟨x,h⟩:=fS.xS ho;exact⟨_,fun P'=>h fun x=>P' {x:=x.2,RH:=some (s,x.1)}⟩
  |ua=>
   simp only[hc] at ho⊢
   cases hd:o.dst with
   |none=>simp only[hd] at ho
   |some d=>
    cases hp:iR E o.op (cY S.tm) with
    |none=>simp only[hd,hp] at ho
    |some p=>
     simp only[hd,hp] at ho⊢;exact⟨{x:=.lp d 0,RH:=some (d,p.2),kd:=some d},fun P'=>by simp only[af,(aW ho).1]⟩
  |kQ=>
   simp only[hc] at ho⊢
   cases hp:dM E o.op (cY S.tm) S.hp with
   |none=>simp only[hp] at ho
   |some d=>simp only[hp] at ho⊢;obtain⟨x,h⟩:=fS.xS ho;exact⟨_,fun P'=>h fun x=>P' {x}⟩
  |dF=>rw[hc] at hw;cases hw
  |ub=>rw[hc] at hw;cases hw
 unfold mr at ho⊢
 cases hg:o.guard with
 |none=>simp only[hg] at ho⊢;exact key ho
 |some p=>
  obtain⟨j,want⟩:=p;simp only[hg] at ho⊢
  cases hy:ga aJ S.tm j with
  |none=>simp only[hy] at ho
  |some t=>cases t with
   |undef=>simp only[];exact⟨{x:=.undef},fun P'=>Iff.rfl⟩
   |lp s off=>simp only[hy] at ho
   |v x=>cases x with
    |bool b=>
     simp only[hy] at ho⊢;rcases gA ho with⟨hb,h⟩|⟨hb,h⟩
     ·obtain⟨u,h⟩:=key h;exact⟨u,fun P'=>by simp only[br,hb];exact h _⟩
     ·exact⟨{x:=.undef},fun P'=>by simp only[br,hb]⟩
    |_=>simp only[hy] at ho
def jj.kK (ann:bS) (f:jW) (dst:Option Tmp) (u:jj):Prop:=
 (∀t,dst=some t→t∈f.wt)∧(∀s L,u.RH=some (s,L)→s∈f.wl)∧(u.hp.isSome=true→f.wh=true)∧
  (∀d,u.kd=some d→∀t,ab ann.aX t=some d→t∈f.wt)
theorem Fo {t d:Nat}:∀{l:List (Nat×Nat)},ab l t=some d→t∈kW d l
 |[],h=>by cases h
 |(k,x)::l,h=>by
  simp only[ab,aY] at h;simp only[kW,aY];by_cases hk:t=k
  ·simp only[hk,decide_true,cond_true,some.injEq] at h;simp [h,hk]
  ·simp only[hk,decide_false,cond_false] at h;have:=Fo h;by_cases hx:x=d<;>simp [hx,this]
theorem NJ {o:Oper} {t:Nat} (ht:o.dst=some t):t∈(dj E ann aJ o).wt:=by
 unfold dj;cases HF E ann o<;>simp [mV,ht]
theorem wS (hR:R.le R) {o:Oper} {S:St} {P:jj→Prop} (ho:mr E R ann aJ o S P):mr E R ann aJ o S fun u=>P u∧u.kK ann (dj E ann aJ o) o.dst:=by
 have hd:∀t,o.dst=some t→t∈(dj E ann aJ o).wt:=fun t ht=>NJ ht
 have plain:∀x:T,({x:jj}).kK ann (dj E ann aJ o) o.dst:=
  fun x=>⟨hd,fun _ _ h=>by simp at h,fun h=>by simp at h,fun _ h=>by simp at h⟩
 have key:pr E R ann o S P→pr E R ann o S fun u=>P u∧u.kK ann (dj E ann aJ o) o.dst:=by
  intro ho;unfold pr at ho⊢
  cases hc:HF E ann o with
  |pure=>
   simp only[hc] at ho⊢
   cases hp:bj E o.op (cY S.tm) with
   |none=>simp only[hp] at ho
   |some d=>simp only[hp] at ho⊢;exact fS.cJ (fun x h=>⟨h,plain _⟩) ho
  |o5 s=>
   simp only[hc] at ho⊢
   cases hp:gV E o.op (cY S.tm) s (S.lo s) with
   |none=>simp only[hp] at ho
   |some d=>simp only[hp] at ho⊢;exact fS.cJ (fun x h=>⟨h,plain _⟩) ho
  |iS s=>
   simp only[hc] at ho⊢
   cases hp:ey E o.op (cY S.tm) s (S.lo s) with
   |none=>simp only[hp] at ho
   |some d=>
    simp only[hp] at ho⊢;refine fS.cJ (fun x h=>⟨h,hd,fun s' L h=> ?_,fun h=>by simp at h,fun _ h=>by simp at h⟩) ho;simp only[some.injEq,Prod.mk.injEq] at h;simp [dj,mV,hc,h.1]
  |ua=>
   simp only[hc] at ho⊢
   cases xM:o.dst with
   |none=>simp only[xM] at ho
   |some d=>
    cases hp:iR E o.op (cY S.tm) with
    |none=>simp only[xM,hp] at ho
    |some p=>
     simp only[xM,hp] at ho⊢;refine bY (fun h=>⟨h,fun t ht=>hd t (xM▸ht),fun s' L h=> ?_,fun h=>by simp at h,fun d' h t ht=> ?_⟩) ho
     ·simp only[some.injEq,Prod.mk.injEq] at h;simp [dj,mV,hc,xM,h.1]
     ·cases h;simp [dj,mV,hc,xM,C5,Fo ht]
  |kQ=>
   simp only[hc] at ho⊢
   cases hp:dM E o.op (cY S.tm) S.hp with
   |none=>simp only[hp] at ho
   |some d=>simp only[hp] at ho⊢;exact fS.cJ (fun x h=>⟨h,plain _⟩) ho
  |dF=>
   simp only[hc] at ho⊢;exact jQ hR (fun x H' h=>⟨h,hd,fun _ _ h=>by simp at h,fun _=>by simp [dj,mV,hc],fun _ h=>by simp at h⟩) ho
  |ub=>simp only[hc] at ho
 unfold mr at ho⊢
 cases hg:o.guard with
 |none=>simp only[hg] at ho⊢;exact key ho
 |some p=>
  obtain⟨j,want⟩:=p;simp only[hg] at ho⊢
  cases hy:ga aJ S.tm j with
  |none=>simp only[hy] at ho
  |some t=>cases t with
   |undef=>simp only[hy] at ho⊢;exact⟨ho,plain _⟩
   |lp s off=>simp only[hy] at ho
   |v x=>cases x with
    |bool b=>simp only[hy] at ho⊢;exact ff key (fun h=>⟨h,plain _⟩) ho
    |_=>simp only[hy] at ho
theorem ix {ev ev':Ev}:∀{l:List Operand},(∀x∈l,ev x=ev' x)→sD ev l=sD ev' l
 |[],_=>rfl
 |x::l,h=>by
  simp only[sD,ji,h x (mem_cons_self ..),ix (l:=l) fun y hy=>h y (mem_cons_of_mem _ hy)]
theorem mX {ev ev':Ev}:∀{l:List (Nat×Operand)},(∀x∈l.map (·.2),ev x=ev' x)→kU ev l=kU ev' l
 |[],_=>rfl
 |(i,x)::l,h=>by
  simp only[kU,ji,h x (by simp),mX (l:=l) fun y hy=>h y (by simp only[map_cons,mem_cons];exact .inr hy)]
theorem Fp {ev ev':Ev} {x:Operand} (h:ev x=ev' x):rZ x ev=rZ x ev':=by simp only[rZ,ji,h]
theorem oB {ev ev':Ev} {x:Option Operand} {d m:Nat} (h:∀y,x=some y→ev y=ev' y):mT ev x d m=mT ev' x d m:=by
 cases x with
 |none=>rfl
 |some y=>simp only[mT,Fp (h y rfl)]
theorem sd {ev ev':Ev} {len cap:Nat} {lo hi mx:Option Operand} (h1:∀x,lo=some x→ev x=ev' x) (h2:∀x,hi=some x→ev x=ev' x) (h3:∀x,mx=some x→ev x=ev' x):gx ev len cap lo hi mx=gx ev' len cap lo hi mx:=by
 simp only[gx,oB h1,oB h2,oB h3]
theorem Dd {o:Op} {ev ev':Ev} (h:∀x∈o.operands.toList,ev x=ev' x):bj E o ev=bj E o ev':=by
 cases o with
 |move x=>simp only[bj,h x (by simp [Op.operands])]
 |assign x=>simp only[bj,h x (by simp [Op.operands])]
 |pick c a b=>simp only[bj,h c (by simp [Op.operands]),h a (by simp [Op.operands]),h b (by simp [Op.operands])]
 |binOp op t x y _=>simp only[bj,ji,h x (by simp [Op.operands]),h y (by simp [Op.operands])]
 |unOp op t x=>simp only[bj,ji,h x (by simp [Op.operands])]
 |convert s d x=>simp only[bj,ji,h x (by simp [Op.operands])]
 |nilCheck x=>simp only[bj,h x (by simp [Op.operands])]
 |fieldAddr t x f=>simp only[bj,h x (by simp [Op.operands])]
 |field t x f=>simp only[bj,ji,h x (by simp [Op.operands])]
 |indexAddr t x i=>simp only[bj,rZ,ji,h x (by simp [Op.operands]),h i (by simp [Op.operands])]
 |index t x i=>simp only[bj,rZ,ji,h x (by simp [Op.operands]),h i (by simp [Op.operands])]
 |slice t x lo hi mx=>
  have hb:∀len cap,gx ev len cap lo hi mx=gx ev' len cap lo hi mx:=fun len cap=>
   sd (fun y hy=>h y (by subst hy;simp [Op.operands])) (fun y hy=>h y (by subst hy;simp [Op.operands])) (fun y hy=>h y (by subst hy;simp [Op.operands]))
  have hb':∀len cap,gx ev len cap lo hi none=gx ev' len cap lo hi none:=fun len cap=>
   sd (fun y hy=>h y (by subst hy;simp [Op.operands])) (fun y hy=>h y (by subst hy;simp [Op.operands])) (fun y hy=>by cases hy)
  simp only[bj,hb,hb',h x (by simp [Op.operands])]
 |makeInterface t x=>simp only[bj,ji,h x (by simp [Op.operands])]
 |makeFunc f first dO=>
  cases f with
  |func f=>
   have h1:=ix (ev:=ev) (ev':=ev') (l:=dO.toList) fun x hx=>h x (by simp only[Op.operands,Array.toList_append,mem_append];exact .inr hx)
   have h2:=ix (ev:=ev) (ev':=ev') (l:=first.toList) fun x hx=>h x (by simp only[Op.operands,Array.toList_append,mem_append];exact .inl hx)
   simp only[bj]
   cases hf:first.toList with
   |nil=>simp only[h1]
   |cons x l=>
    rw[hf] at h2
    cases dO.toList with
    |nil=>simp only[h2]
    |cons y m=>rfl
  |_=>rfl
 |extract x i=>simp only[bj,ji,h x (by simp [Op.operands])]
 |build t parts=>
  have h1:=mX (ev:=ev) (ev':=ev') (l:=parts.toList) fun x hx=>h x (by simpa only[Op.operands] using hx)
  simp only[bj,h1]
 |typeAssert x xt d ok=>simp only[bj,ji,h x (by simp [Op.operands])]
 |call c=>
  have h1:=ix (ev:=ev) (ev':=ev') (l:=c.args.toList) fun x hx=>h x (by
   simp only[Op.operands,Call.operands,Array.toList_append,mem_append];exact .inr hx)
  simp only[bj,h1]
 |_=>rfl
theorem AU {o:Op} {ev ev':Ev} {s:Nat} {L:Option aU} (h:∀x∈o.operands.toList,ev x=ev' x):gV E o ev s L=gV E o ev' s L:=by
 cases o with
 |load t a=>simp only[gV,h a (by simp [Op.operands])]
 |_=>rfl
theorem yC {o:Op} {ev ev':Ev} {s:Nat} {L:Option aU} (h:∀x∈o.operands.toList,ev x=ev' x):ey E o ev s L=ey E o ev' s L:=by
 cases o with
 |store t a x=>simp only[ey,ji,h a (by simp [Op.operands]),h x (by simp [Op.operands])]
 |next it b=>cases b with
  |true=>simp only[ey,h it (by simp [Op.operands])]
  |false=>rfl
 |_=>rfl
theorem Df {o:Op} {ev ev':Ev} (h:∀x∈o.operands.toList,ev x=ev' x):iR E o ev=iR E o ev':=by
 cases o with
 |box t x=>simp only[iR,ji,h x (by simp [Op.operands])]
 |range t x=>simp only[iR,ji,h x (by simp [Op.operands])]
 |_=>rfl
theorem AV {o:Op} {ev ev':Ev} {H:ai} (h:∀x∈o.operands.toList,ev x=ev' x):dM E o ev H=dM E o ev' H:=by
 cases o with
 |load t a=>simp only[dM,h a (by simp [Op.operands])]
 |convert s d x=>simp only[dM,ji,h x (by simp [Op.operands])]
 |lookup t x i ok=>simp only[dM,ji,h x (by simp [Op.operands]),h i (by simp [Op.operands])]
 |entry it=>simp only[dM,h it (by simp [Op.operands])]
 |call c=>
  have h1:=ix (ev:=ev) (ev':=ev') (l:=c.args.toList) fun x hx=>h x (by
   simp only[Op.operands,Call.operands,Array.toList_append,mem_append];exact .inr hx)
  simp only[dM,h1]
 |_=>rfl
theorem il {o:Op} {ev ev':Ev} {H:ai} (h:∀x∈o.operands.toList,ev x=ev' x):cn E o ev H=cn E o ev' H:=by
 cases o with
 |buildSlice t len parts=>
  simp only[cn];rw[mX (ev:=ev) (ev':=ev') fun x hx=>h x (by simp only[Op.operands];simpa using hx)]
 |makeSlice t len cap=>simp only[cn,ji,h len (by simp [Op.operands]),h cap (by simp [Op.operands])]
 |convert s d x=>simp only[cn,ji,h x (by simp [Op.operands])]
 |call c=>
  have h1:=ix (ev:=ev) (ev':=ev') (l:=c.args.toList) fun x hx=>h x (by
   simp only[Op.operands,Call.operands,Array.toList_append,mem_append];exact .inr hx)
  simp only[cn,h1]
 |range t x=>simp only[cn,ji,h x (by simp [Op.operands])]
 |makeMap t r=>cases r<;>rfl
 |_=>rfl
theorem yD {o:Op} {rt:TypeId} {ev ev':Ev} {H:ai} {K:T→ai→Prop} (h:∀x∈o.operands.toList,ev x=ev' x):bQ E R o rt ev H K=bQ E R o rt ev' H K:=by
 cases o with
 |box t x=>simp only[bQ,ji,h x (by simp [Op.operands])]
 |store t a x=>simp only[bQ,ji,h a (by simp [Op.operands]),h x (by simp [Op.operands])]
 |convert s d x=>simp only[bQ,cn,ji,h x (by simp [Op.operands])]
 |makeSlice t len cap=>simp only[bQ];rw[il h]
 |call c=>
  have h0:=il (E:=E) (H:=H) h
  have h1:=ix (ev:=ev) (ev':=ev') (l:=c.args.toList) fun x hx=>h x (by
   simp only[Op.operands,Call.operands,Array.toList_append,mem_append];exact .inr hx)
  cases hc:c.callee with
  |value f=>
   have h2:ev f=ev' f:=h f (by simp [Op.operands,Call.operands,hc]);have h3:ji ev f=ji ev' f:=by simp only[ji,h2]
   simp only[bQ,hc];rw[h1]
   cases sD ev' c.args.toList with
   |none=>simp only[h0]
   |some args=>simp only[h3]
  |invoke r m=>simp only[bQ,hc,h0]
  |builtin b=>
   simp only[bQ,hc,h0,h1];cases b<;>cases sD ev' c.args.toList<;>rfl
 |buildSlice t len parts=>simp only[bQ];rw[il h]
 |mapUpdate t m x v=>simp only[bQ,ji,h m (by simp [Op.operands]),h x (by simp [Op.operands]),h v (by simp [Op.operands])]
 |range t x=>simp only[bQ];rw[il h]
 |makeMap t r=>cases r<;>rfl
 |next it b=>cases b with
  |true=>rfl
  |false=>simp only[bQ,h it (by simp [Op.operands])]
 |_=>rfl
theorem wU {t:Nat}:∀{l:List Operand},Operand.tmp t∈l→t∈ot l
 |[],h=>by cases h
 |x::l,h=>by
  rcases mem_cons.1 h with rfl|h
  ·simp [ot]
  ·have:=wU h;cases x<;>simp [ot,this]
theorem Fq {o:Oper}:(dj E ann aJ o).rt=Yb aJ o:=by
 unfold dj;cases HF E ann o<;>rfl
theorem RI {o:Oper} {t:Nat} (h:t∈ot o.op.operands.toList):t∈(dj E ann aJ o).rt:=by
 rw[Fq];exact mem_append.2 (.inl h)
theorem HK {o:Oper} {j:Nat} {want:Bool} {q:Oper} {d:Nat} (hg:o.guard=some (j,want)) (hq:aJ[j]? =some q) (hd:q.dst=some d):d∈(dj E ann aJ o).rt:=by
 rw[Fq];exact mem_append.2 (.inr (by simp [yu,hg,hq,hd]))
theorem yE {o:Oper} {S S':St} {P:jj→Prop} (ht:∀t∈(dj E ann aJ o).rt,S.tm t=S'.tm t) (hl:∀s∈(dj E ann aJ o).rl,S.lo s=S'.lo s) (hh:(dj E ann aJ o).rh=true→S.hp=S'.hp):mr E R ann aJ o S P=mr E R ann aJ o S' P:=by
 have di:∀x∈o.op.operands.toList,cY S.tm x=cY S'.tm x:=by
  intro x hx
  cases x with
  |tmp t=>exact ht t (RI (wU hx))
  |_=>rfl
 have key:pr E R ann o S P=pr E R ann o S' P:=by
  unfold pr
  cases hc:HF E ann o with
  |pure=>simp only[Dd di]
  |o5 s=>simp only[AU di,hl s (by simp [dj,mV,hc])]
  |iS s=>simp only[yC di,hl s (by simp [dj,mV,hc])]
  |ua=>simp only[Df di]
  |kQ=>simp only[AV di,hh (by simp [dj,mV,hc])]
  |dF=>simp only[yD di,hh (by simp [dj,mV,hc])]
  |ub=>rfl
 unfold mr
 cases hg:o.guard with
 |none=>exact key
 |some p=>
  obtain⟨j,want⟩:=p
  have hy:ga aJ S.tm j=ga aJ S'.tm j:=by
   unfold ga
   cases hq:aJ[j]? with
   |none=>rfl
   |some q=>cases hd:q.dst with
    |none=>simp only[hd]
    |some d=>simp only[hd];exact ht d (HK hg hq hd)
  simp only[hy,key]
theorem yF {a b:jW} (h:gy a b=true):(∀x∈a.wt,x∉b.rt)∧(∀x∈a.wt,x∉b.wt)∧(∀x∈b.wt,x∉a.rt)∧(∀x∈a.wl,x∉b.rl)∧(∀x∈a.wl,x∉b.wl)∧(∀x∈b.wl,x∉a.rl)∧(a.wh=true→b.rh=false)∧(b.wh=true→a.rh=false):=by
 simp only[gy,Bool.and_eq_true,Bool.not_eq_true'] at h;obtain⟨⟨⟨⟨⟨⟨⟨⟨h1,h2⟩,h3⟩,h4⟩,h5⟩,h6⟩,h7⟩,h8⟩,_⟩:=h;refine⟨fQ h1,fQ h2,fQ h3,fQ h4,fQ h5,fQ h6,fun h=> ?_,fun h=> ?_⟩
 ·rw[h] at h7;simpa using h7
 ·rw[h] at h8;simpa using h8
theorem NK {a b:jW} (h:gy a b=true):a.no=false∧b.no=false:=by
 simp only[gy,Bool.and_eq_true,Bool.not_eq_true'] at h;exact h.2
theorem TC {o:Oper} (h:(dj E ann aJ o).wh=true):(dj E ann aJ o).rh=true:=by
 unfold dj at h⊢;cases hc:HF E ann o<;>rw[hc] at h<;>first|rfl|cases h
theorem nB {o:Oper} {u:jj} {S:St} {t:Nat} (hu:u.kK ann (dj E ann aJ o) o.dst) (ht:t∉(dj E ann aJ o).wt):(u.apply ann o.dst S).tm t=S.tm t:=by
 have h1:¬o.dst=some t:=fun e=>ht (hu.1 t e)
 have h2:¬(u.kd.isSome=true∧ab ann.aX t=u.kd):=by
  rintro⟨h,e⟩
  cases hk:u.kd with
  |none=>rw[hk] at h;cases h
  |some d=>exact ht (hu.2.2.2 d hk t (e.trans hk))
 simp only[jj.apply,if_neg h1,if_neg h2]
theorem jY {o:Oper} {u:jj} {S:St} {s:Nat} (hu:u.kK ann (dj E ann aJ o) o.dst) (hs:s∉(dj E ann aJ o).wl):(u.apply ann o.dst S).lo s=S.lo s:=by
 simp only[jj.apply]
 cases hl:u.RH with
 |none=>rfl
 |some p=>
  have:s≠p.1:=fun e=>hs (e▸hu.2.1 p.1 p.2 hl)
  simp [this]
theorem lj {o:Oper} {u:jj} {S:St} (hu:u.kK ann (dj E ann aJ o) o.dst) (hs:(dj E ann aJ o).wh=false):(u.apply ann o.dst S).hp=S.hp:=by
 simp only[jj.apply]
 cases hh:u.hp with
 |none=>rfl
 |some H=>have:=hu.2.2.1 (by simp [hh]);rw[hs] at this;cases this
theorem HL {p q:Oper} {u v:jj} {S:St} (ha:gy (dj E ann aJ p) (dj E ann aJ q)=true) (hu:u.kK ann (dj E ann aJ p) p.dst) (hv:v.kK ann (dj E ann aJ q) q.dst):v.apply ann q.dst (u.apply ann p.dst S)=u.apply ann p.dst (v.apply ann q.dst S):=by
 obtain⟨_,h2,_,_,h5,_,h7,_⟩:=yF ha;refine St.ext' (fun t=> ?_) (fun s=> ?_) ?_
 ·by_cases ht:t∈(dj E ann aJ p).wt
  ·rw[nB hv (h2 t ht)];simp only[jj.apply];split
   ·rfl
   ·split
    ·rfl
    ·exact(nB hv (h2 t ht)).symm
  ·rw[nB hu ht];simp only[jj.apply];split
   ·rfl
   ·split
    ·rfl
    ·exact nB hu ht
 ·by_cases hs:s∈(dj E ann aJ p).wl
  ·rw[jY hv (h5 s hs)];simp only[jj.apply];split
   ·split
    ·rfl
    ·exact(jY hv (h5 s hs)).symm
   ·exact(jY hv (h5 s hs)).symm
  ·rw[jY hu hs];simp only[jj.apply];split
   ·split
    ·rfl
    ·exact jY hu hs
   ·exact jY hu hs
 ·cases hw:(dj E ann aJ p).wh
  ·rw[lj hu hw];simp only[jj.apply];have:=lj (S:=S) hu hw;simp only[jj.apply] at this;rw[this]
  ·have hq:(dj E ann aJ q).wh=false:=by
    cases hq:(dj E ann aJ q).wh
    ·rfl
    ·have:=h7 hw;rw[TC hq] at this;cases this
   rw[lj hv hq];simp only[jj.apply];have:=lj (S:=S) hv hq;simp only[jj.apply] at this;rw[this]
theorem yG (hm:R.le R) (hs:iw R) {p q:Oper} {S:St} {K:St→Prop} (ha:gy (dj E ann aJ p) (dj E ann aJ q)=true) (h:cq E R ann N aJ p S fun S'=>cq E R ann N aJ q S' K):cq E R ann N aJ q S fun S'=>cq E R ann N aJ p S' K:=by
 obtain⟨h1,h2,h3,h4,h5,h6,h7,h8⟩:=yF ha;obtain⟨n1,n2⟩:=NK ha;rw[nA n1] at h;rw[nA n2]
 have eq1:∀u:jj,u.kK ann (dj E ann aJ p) p.dst→∀P,mr E R ann aJ q (u.apply ann p.dst S) P=mr E R ann aJ q S P:=fun u hu P=>
  yE (fun t ht=>nB hu fun hw=>h1 t hw ht) (fun s hs=>jY hu fun hw=>h4 s hw hs) (fun hr=>by
   cases hw:(dj E ann aJ p).wh
   ·exact lj hu hw
   ·have:=h7 hw;rw[hr] at this;cases this)
 have eq2:∀u:jj,u.kK ann (dj E ann aJ q) q.dst→∀P,mr E R ann aJ p (u.apply ann q.dst S) P=mr E R ann aJ p S P:=fun u hu P=>
  yE (fun t ht=>nB hu fun hw=>h3 t hw ht) (fun s hs=>jY hu fun hw=>h6 s hw hs) (fun hr=>by
   cases hw:(dj E ann aJ q).wh
   ·exact lj hu hw
   ·have:=h8 hw;rw[hr] at this;cases this)
 have h':=wS hm h
 have main:mr E R ann aJ p S fun u=>Ls ann N p.dst u.x∧u.kK ann (dj E ann aJ p) p.dst∧
  mr E R ann aJ q S fun v=>Ls ann N q.dst v.x∧v.kK ann (dj E ann aJ q) q.dst∧K (u.apply ann p.dst (v.apply ann q.dst S)):=by
  refine qR hm ?_ h';rintro u ⟨⟨hok,hq⟩,hu⟩;refine⟨hok,hu, ?_⟩;rw[nA n2,eq1 u hu] at hq;refine qR hm ?_ (wS hm hq);rintro v ⟨⟨pF,M6⟩,hv⟩;exact⟨pF,hv,HL ha hu hv▸M6⟩
 cases hw:(dj E ann aJ p).wh
 ·obtain⟨u,M7⟩:=Fm hw main;obtain⟨hok,hu,hq⟩:=(M7 _).1 main;refine qR hm ?_ hq;rintro v ⟨pF,hv,hk⟩;refine⟨pF, ?_⟩;rw[nA n1,eq2 v hv];exact(M7 _).2 ⟨hok,hk⟩
 ·have hwq:(dj E ann aJ q).wh=false:=by
   cases hq:(dj E ann aJ q).wh
   ·rfl
   ·have:=h7 hw;rw[TC hq] at this;cases this
  obtain⟨u,_,_,hq⟩:=Fl hs main;obtain⟨v,M7⟩:=Fm hwq hq;obtain⟨pF,hv,_⟩:=(M7 _).1 hq;refine(M7 _).2 ⟨pF, ?_⟩;rw[nA n1,eq2 v hv];refine qR hm ?_ main;rintro u ⟨hok,hu,hq⟩;exact⟨hok,((M7 _).1 hq).2.2⟩
end
abbrev dK:=Nat→Option Nat
inductive VR (ρ:dK):V→Value→Prop where
 |bool (b:Bool):VR ρ (.bool b) (.bool b)
 |int (k:IntKind) (n:Int):VR ρ (.int k n) (.int k n)
 |cL (s:ByteArray):VR ρ (.cL s) (.string s)
 |Dg:VR ρ (.ay none) (.pointer none)
 |ay {id off b:Nat} (h:ρ id=some b):VR ρ (.ay (some (id,off))) (.pointer (some ⟨b,off,none⟩))
 |nC (n c:Nat):VR ρ (.slice none n c) (.slice none n c)
 |slice {id off b:Nat} (n c:Nat) (h:ρ id=some b):VR ρ (.slice (some (id,off)) n c) (.slice (some ⟨b,off,none⟩) n c)
 |pQ (p:Nat×Nat) (a:Addr):VR ρ (.slice (some p) 0 0) (.slice (some a) 0 0)
 |yH:VR ρ (.map none) (.map none)
 |map {id b:Nat} (h:ρ id=some b):VR ρ (.map (some id)) (.map (some b))
 |func (f:FuncId) {cs:List V} {cs':Array Value} (hl:cs.length=cs'.size) (h:∀(i:Nat) (x:V) (y:Value),cs[i]? =some x→cs'[i]? =some y→VR ρ x y):
  VR ρ (.func f cs) (.func (.func f) #[] cs')
 |pn (f:FuncId) {cs:List V} {cs':Array Value} (hl:cs.length=cs'.size) (h:∀(i:Nat) (x:V) (y:Value),cs[i]? =some x→cs'[i]? =some y→VR ρ x y):
  VR ρ (.pn f cs) (.func (.func f) cs' #[])
 |dV (t:TypeId) {id b:Nat} (h:ρ id=some b):VR ρ (.dV t id) (.pointer (some ⟨b,0,none⟩))
 |nilFunc:VR ρ .nilFunc .nilFunc
 |iface (t:TypeId) {v:V} {v':Value} (h:VR ρ v v'):VR ρ (.iface t v) (.iface t v')
 |nilIface:VR ρ .nilIface .nilIface
 |agg {cs:List V} {cs':Array Value} (h1:∀c∈cs,c.one=true) (hl:cs.length=cs'.size) (h:∀(i:Nat) (x:V) (y:Value),cs[i]? =some x→cs'[i]? =some y→VR ρ x y):VR ρ (.agg cs) (.agg cs')
 |cB (x:Value):VR ρ .cB x
 |tuple {cs:List V} {cs':Array Value} (hl:cs.length=cs'.size) (h:∀(i:Nat) (x:V) (y:Value),cs[i]? =some x→cs'[i]? =some y→VR ρ x y):VR ρ (.tuple cs) (.tuple cs')
def bn (cs:List V):Prop:=∀v∈cs,v.one=true
def eU (ρ:dK) (l:List V) (m:List Value):Prop:=l.length=m.length∧∀(i:Nat) (x:V) (y:Value),l[i]? =some x→m[i]? =some y→VR ρ x y
def dK.le (ρ ρ':dK):Prop:=∀id b,ρ id=some b→ρ' id=some b
theorem dK.le.refl (ρ:dK):ρ.le ρ:=fun _ _ h=>h
theorem dK.le.trans {a b c:dK} (h:a.le b) (k:b.le c):a.le c:=fun id x hx=>k id x (h id x hx)
theorem VR.mono {ρ ρ':dK} (h:ρ.le ρ') {v:V} {x:Value} (hv:VR ρ v x):VR ρ' v x:=by
 induction hv with
 |bool b=>exact .bool b
 |int k n=>exact .int k n
 |cL s=>exact .cL s
 |Dg=>exact .Dg
 |ay hb=>exact .ay (h _ _ hb)
 |nC n c=>exact .nC n c
 |slice n c hb=>exact .slice n c (h _ _ hb)
 |pQ p a=>exact .pQ p a
 |yH=>exact .yH
 |map hb=>exact .map (h _ _ hb)
 |func f hl _ ih=>exact .func f hl ih
 |pn f hl _ ih=>exact .pn f hl ih
 |dV t hb=>exact .dV t (h _ _ hb)
 |nilFunc=>exact .nilFunc
 |iface t _ ih=>exact .iface t ih
 |nilIface=>exact .nilIface
 |agg h1 hl _ ih=>exact .agg h1 hl ih
 |cB x=>exact .cB x
 |tuple hl _ ih=>exact .tuple hl ih
theorem eU.mono {ρ ρ':dK} (h:ρ.le ρ') {l:List V} {m:List Value} (hv:eU ρ l m):eU ρ' l m:=
 ⟨hv.1,fun i x y hx hy=>(hv.2 i x y hx hy).mono h⟩
theorem eU.nil (ρ:dK):eU ρ [] []:=⟨rfl,fun i x y h=>by simp at h⟩
theorem eU.cons {ρ:dK} {x:V} {y:Value} {l:List V} {m:List Value} (h:VR ρ x y) (hl:eU ρ l m):eU ρ (x::l) (y::m):=by
 refine⟨by simp [hl.1],fun i=> ?_⟩
 cases i with
 |zero=>intro a b ha hb;simp at ha hb;subst ha;subst hb;exact h
 |succ i=>intro a b ha hb;exact hl.2 i a b (by simpa using ha) (by simpa using hb)
theorem eU.dB {ρ:dK} {x:V} {l:List V} {m:List Value} (h:eU ρ (x::l) m):∃y m',m=y::m'∧VR ρ x y∧eU ρ l m':=by
 cases m with
 |nil=>simp [eU] at h
 |cons y m'=>
  refine⟨y,m',rfl,h.2 0 x y rfl rfl,by simpa using h.1,fun i a b ha hb=>h.2 (i+1) a b (by simpa using ha) (by simpa using hb)⟩
theorem eU.gu {ρ:dK} {m:List Value} (h:eU ρ [] m):m=[]:=by
 cases m with
 |nil=>rfl
 |cons y m'=>simp [eU] at h
theorem eU.append {ρ:dK} {l l':List V} {m m':List Value} (h:eU ρ l m) (h':eU ρ l' m'):eU ρ (l++l') (m++m'):=by
 refine⟨by simp [h.1,h'.1],fun i x y hx hy=> ?_⟩;by_cases hi:i<l.length
 ·rw[List.getElem?_append_left hi] at hx;rw[List.getElem?_append_left (h.1▸hi)] at hy;exact h.2 i x y hx hy
 ·rw[List.getElem?_append_right (by omega)] at hx;rw[List.getElem?_append_right (by have:=h.1;omega)] at hy;exact h'.2 _ x y hx (by rwa [←h.1] at hy)
theorem eU.take {ρ:dK} {l:List V} {m:List Value} (h:eU ρ l m) (n:Nat):eU ρ (l.take n) (m.take n):=by
 refine⟨by simp [h.1],fun i x y hx hy=> ?_⟩;rw[List.getElem?_take] at hx hy;split at hx
 ·rename_i hi;rw[if_pos hi] at hy;exact h.2 i x y hx hy
 ·cases hx
theorem eU.drop {ρ:dK} {l:List V} {m:List Value} (h:eU ρ l m) (n:Nat):eU ρ (l.drop n) (m.drop n):=by
 refine⟨by simp [h.1],fun i x y hx hy=> ?_⟩;rw[List.getElem?_drop] at hx hy;exact h.2 _ x y hx hy
theorem qS:∀{l:List V} {n:Nat},n<l.length→l[n]? =some (ae l n)
 |[],_,h=>by simp at h
 |_::_,0,_=>rfl
 |_::l,n+1,h=>by rw[List.getElem?_cons_succ];exact qS (l:=l) (by simpa using h)
theorem eU.nth {ρ:dK} {l:List V} {m:List Value} (h:eU ρ l m) {n:Nat} (hn:n<l.length):∃y,m[n]? =some y∧VR ρ (ae l n) y:=by
 have hm:n<m.length:=h.1▸hn;exact⟨m[n],List.getElem?_eq_getElem hm,h.2 n _ _ (qS hn) (List.getElem?_eq_getElem hm)⟩
theorem VR.oC {ρ:dK} {cs:List V} {x:Value} (h:VR ρ (.agg cs) x):∃cs',x=.agg cs'∧eU ρ cs cs'.toList∧bn cs:=by
 cases h with
 |agg h1 hl h=>exact⟨_,rfl,⟨by simpa using hl,fun i a b ha hb=>h i a b ha (by simpa using hb)⟩,h1⟩
theorem VR.vK {ρ:dK} {cs:List V} {cs':Array Value} (h1:bn cs) (h:eU ρ cs cs'.toList):VR ρ (.agg cs) (.agg cs'):=
 .agg h1 (by simpa using h.1) fun i a b ha hb=>h.2 i a b ha (by simpa using hb)
theorem VR.Lv {ρ:dK} {cs:List V} {x:Value} (h:VR ρ (.tuple cs) x):∃cs',x=.tuple cs'∧eU ρ cs cs'.toList:=by
 cases h with
 |tuple hl h=>exact⟨_,rfl,by simpa using hl,fun i a b ha hb=>h i a b ha (by simpa using hb)⟩
theorem VR.gF {ρ:dK} {cs:List V} {cs':Array Value} (h:eU ρ cs cs'.toList):VR ρ (.tuple cs) (.tuple cs'):=
 .tuple (by simpa using h.1) fun i a b ha hb=>h.2 i a b ha (by simpa using hb)
theorem VR.NL {ρ:dK} {f:FuncId} {cs:List V} {x:Value} (h:VR ρ (.func f cs) x):∃cs',x=.func (.func f) #[] cs'∧eU ρ cs cs'.toList:=by
 cases h with
 |func f hl h=>exact⟨_,rfl,by simpa using hl,fun i a b ha hb=>h i a b ha (by simpa using hb)⟩
theorem VR.NM {ρ:dK} {f:FuncId} {cs:List V} {x:Value} (h:VR ρ (.pn f cs) x):∃cs',x=.func (.func f) cs' #[]∧eU ρ cs cs'.toList:=by
 cases h with
 |pn f hl h=>exact⟨_,rfl,by simpa using hl,fun i a b ha hb=>h i a b ha (by simpa using hb)⟩
theorem VR.RJ {ρ:dK} {f:FuncId} {cs:List V} {cs':Array Value} (h:eU ρ cs cs'.toList):VR ρ (.pn f cs) (.func (.func f) cs' #[]):=
 .pn f (by simpa using h.1) fun i a b ha hb=>h.2 i a b ha (by simpa using hb)
theorem VR.Fs {ρ:dK} {t:TypeId} {id:Nat} {x:Value} (h:VR ρ (.dV t id) x):∃b,ρ id=some b∧x=.pointer (some ⟨b,0,none⟩):=by
 cases h with|dV t h=>exact⟨_,h,rfl⟩
theorem VR.Jt {ρ:dK} {f:FuncId} {cs:List V} {cs':Array Value} (h:eU ρ cs cs'.toList):VR ρ (.func f cs) (.func (.func f) #[] cs'):=
 .func f (by simpa using h.1) fun i a b ha hb=>h.2 i a b ha (by simpa using hb)
theorem VR.iy {ρ:dK} {k:IntKind} {n:Int} {x:Value} (h:VR ρ (.int k n) x):x=.int k n:=by cases h;rfl
theorem VR.Dh {ρ:dK} {b:Bool} {x:Value} (h:VR ρ (.bool b) x):x=.bool b:=by cases h;rfl
theorem VR.vL {ρ:dK} {s:ByteArray} {x:Value} (h:VR ρ (.cL s) x):x=.string s:=by cases h;rfl
theorem VR.vM {ρ:dK} {id off:Nat} {x:Value} (h:VR ρ (.ay (some (id,off))) x):∃b,ρ id=some b∧x=.pointer (some ⟨b,off,none⟩):=by
 cases h with|ay h=>exact⟨_,h,rfl⟩
theorem VR.fj {ρ:dK} {id off n c:Nat} {x:Value} (h:VR ρ (.slice (some (id,off)) n c) x):(∃b,ρ id=some b∧x=.slice (some ⟨b,off,none⟩) n c)∨(n=0∧c=0∧∃a,x=.slice (some a) 0 0):=by
 cases h with
 |slice _ _ h=>exact .inl ⟨_,h,rfl⟩
 |pQ p a=>exact .inr ⟨rfl,rfl,a,rfl⟩
theorem VR.lK {ρ:dK} {n c:Nat} {x:Value} (h:VR ρ (.slice none n c) x):x=.slice none n c:=by cases h;rfl
theorem VR.one {ρ:dK} {v:V} {x:Value} (h:VR ρ v x) (h1:v.one=true):x.oneCell'=true:=by
 cases h<;>simp_all [V.one,Value.oneCell']
theorem VR.cells {ρ:dK} {v:V} {x:Value} (h:VR ρ v x) (hh:v≠ .cB):eU ρ v.cells x.cells.toList:=by
 by_cases hv:∃cs,v=.agg cs
 ·obtain⟨cs,rfl⟩:=hv;obtain⟨cs',rfl,h',_⟩:=h.oC;exact h'
 ·have h1:v.cells=[v]:=by cases v<;>first|rfl|exact(hv ⟨_,rfl⟩).elim
  have h2:x.cells= #[x]:=by cases h<;>first|rfl|exact(hv ⟨_,rfl⟩).elim|exact(hh rfl).elim
  rw[h1,h2];exact .cons h (.nil ρ)
theorem sN {ρ:dK} {x:Value} {v:V} (h:ofValue x=some v):VR ρ v x:=by
 unfold ofValue at h;split at h<;>first|(cases h)|skip
 ·exact .bool _
 ·exact .int _ _
 ·exact .cL _
 ·exact .Dg
 ·exact .nC _ _
 ·exact .yH
 ·exact .nilFunc
 ·exact .nilIface
theorem ui {ρ:dK}:∀{l:List Value} {m:List V},jU l=some m→eU ρ m l
 |[],m,h=>by simp only[jU,some.injEq] at h;subst h;exact .nil ρ
 |x::l,m,h=>by
  simp only[jU] at h;split at h
  ·rename_i y m' hy hm;cases h;exact .cons (sN hy) (ui hm)
  ·cases h
theorem wV {x:Value} {v:V} (h:ofValue x=some v):v.one=true:=by
 unfold ofValue at h;split at h<;>first|(cases h;done)|(cases h;rfl)|cases h
theorem oD:∀{l:List Value} {m:List V},jU l=some m→∀v∈m,v.one=true
 |[],m,h=>by simp only[jU,some.injEq] at h;subst h;intro v hv;cases hv
 |x::l,m,h=>by
  simp only[jU] at h;split at h
  ·rename_i y m' hy hm;cases h;intro v hv;rcases mem_cons.1 hv with rfl|hv
   ·exact wV hy
   ·exact oD hm v hv
  ·cases h
theorem iF {ρ:dK} {x:Value} {v:V} (h:lB x=some v):VR ρ v x:=by
 unfold lB at h;split at h
 ·split at h
  ·rename_i cs l hl;cases h;exact .vK (oD hl) (ui hl)
  ·cases h
 ·exact sN h
theorem kX {x:Value} {v:V} (h:lB x=some v):∀c∈v.cells,c.one=true:=by
 unfold lB at h;split at h
 ·split at h
  ·rename_i cs l hl;cases h;exact oD hl
  ·cases h
 ·have h1:=wV h;have:v.cells=[v]:=by cases v<;>first|rfl|(simp [V.one] at h1)
  intro c hc;rw[this] at hc;rcases mem_cons.1 hc with rfl|hc
  ·exact h1
  ·cases hc
inductive TR (ρ lam:dK):T→Value→Prop where
 |v {x:V} {y:Value} (h:VR ρ x y):TR ρ lam (.v x) y
 |lp {s off b:Nat} (h:lam s=some b):TR ρ lam (.lp s off) (.pointer (some ⟨b,off,none⟩))
 |undef:TR ρ lam .undef (.tuple #[])
def pR (ρ lam:dK) (ev:Ev) (e:Operand→Value):Prop:=∀x t,ev x=some t→TR ρ lam t (e x)
theorem pR.v {ρ lam:dK} {ev:Ev} {e:Operand→Value} (h:pR ρ lam ev e) {x:Operand} {v:V} (hx:ji ev x=some v):VR ρ v (e x):=by
 unfold ji at hx;split at hx
 ·rename_i y hy;cases hx;have:=h _ _ hy
  cases this with
  |v h=>exact h
 ·cases hx
theorem pR.lp {ρ lam:dK} {ev:Ev} {e:Operand→Value} (h:pR ρ lam ev e) {x:Operand} {s off:Nat} (hx:ev x=some (.lp s off)):∃b,lam s=some b∧e x=.pointer (some ⟨b,off,none⟩):=by
 have:=h _ _ hx;generalize e x=y at this
 cases this with
 |lp h=>exact⟨_,h,rfl⟩
theorem pR.tv {ρ lam:dK} {ev:Ev} {e:Operand→Value} (h:pR ρ lam ev e) {x:Operand} {v:V} (hx:ev x=some (.v v)):VR ρ v (e x):=by
 have:=h _ _ hx;generalize e x=y at this
 cases this with
 |v h=>exact h
theorem pR.vs {ρ lam:dK} {ev:Ev} {e:Operand→Value} (h:pR ρ lam ev e):∀{l:List Operand} {vs:List V},sD ev l=some vs→eU ρ vs (l.map e)
 |[],vs,hx=>by simp only[sD,some.injEq] at hx;subst hx;exact .nil ρ
 |x::l,vs,hx=>by
  simp only[sD] at hx;split at hx
  ·rename_i y m hy hm;cases hx;exact .cons (h.v hy) (h.vs hm)
  ·cases hx
def fU (ρ:dK) (e:TypeId) (cs:List V) (rw:Bool) (o:Option Go.Obj):Prop:=
 ∃cs' fz,o=some (.cells cs' e fz)∧eU ρ cs cs'.toList∧(rw=true→bn cs)∧(rw=true→fz.1=fz.2∨cs'.size≤fz.1)
def ju (ρ:dK):List (V×V×Nat)→List MapEntry→Prop
 |[],[]=>True
 |x::l,y::m=>(VR ρ x.1 y.key∧VR ρ x.2.1 y.val∧x.2.2=y.born)∧ju ρ l m
 |_,_=>False
theorem ju.mono {ρ ρ':dK} (h:ρ.le ρ'):∀{l:List (V×V×Nat)} {m:List MapEntry},ju ρ l m→ju ρ' l m
 |[],[],_=>trivial
 |x::l,y::m,hl=>⟨⟨hl.1.1.mono h,hl.1.2.1.mono h,hl.1.2.2⟩,ju.mono h hl.2⟩
 |[],_::_,hl=>hl.elim
 |_::_,[],hl=>hl.elim
def Fu (ρ:dK):Obj→Option Go.Obj→Prop
 | .cells e cs ro,o=>fU ρ e cs (!ro) o
 | .map es clock,o=>∃es':Array MapEntry,o=some (.map es' clock)∧ju ρ es es'.toList
 | .dV m cd seen tQ,o=>∃m',o=some (.mapIter m' cd seen.toArray tQ)∧VR ρ (.map m) (.map m')
def vN (ρ:dK):aU→Option Go.Obj→Prop
 | .cells e cs,o=>fU ρ e cs true o
 | .dV s jr,o=>o=some (.stringIter s jr)
def Obj.rw :Obj→Bool
 | .cells _ _ ro=> !ro
 | .map .. =>true
 | .dV .. =>true
def iV (H:ai) (ρ:dK) (b:Nat):Prop:=∃id o,H.get id=some o∧ρ id=some b
def mD (H:ai) (ρ:dK) (b:Nat):Prop:=∃id o,H.get id=some o∧o.rw =true∧ρ id=some b
structure HR (ρ:dK) (H:ai) (w:World):Prop where
 wW:∀id o,H.get id=some o→∃b,ρ id=some b∧Fu ρ o w.heap[b]?
 inj:∀id id' o o' b,H.get id=some o→H.get id'=some o'→o.rw =true→ρ id=some b→ρ id'=some b→id=id'
 lt:∀id b,ρ id=some b→id<H.next∧b<w.heap.size
 gl:∀g∈Nz,ρ g=some g
structure lL (H0:ai) (ρ0:dK) (w0:World) (H:ai) (ρ:dK) (w:World):Prop where
 le:ρ0.le ρ
 frame:∀b,b<w0.heap.size→¬mD H0 ρ0 b→w.heap[b]? =w0.heap[b]?
 iV:∀b,iV H ρ b→iV H0 ρ0 b∨w0.heap.size≤b
 mD:∀b,mD H ρ b→mD H0 ρ0 b∨w0.heap.size≤b
 size:w0.heap.size≤w.heap.size
 os:w.os=w0.os
 tape:w.tape=w0.tape
 output:w.output=w0.output
theorem lL.refl (H:ai) (ρ:dK) (w:World):lL H ρ w H ρ w:=
 ⟨.refl ρ,fun _ _ _=>rfl,fun _ h=>.inl h,fun _ h=>.inl h,Nat.le_refl _,rfl,rfl,rfl⟩
theorem lL.trans {H0 H1 H2:ai} {ρ0 ρ1 ρ2:dK} {w0 w1 w2:World} (h:lL H0 ρ0 w0 H1 ρ1 w1) (k:lL H1 ρ1 w1 H2 ρ2 w2):lL H0 ρ0 w0 H2 ρ2 w2 where
 le:=h.le.trans k.le
 frame:=fun b hb ho=>by
  have h1:¬Am.mD H1 ρ1 b:=fun h1=>(h.mD b h1).elim ho fun h=>by omega
  rw[k.frame b (by have:=h.size;omega) h1,h.frame b hb ho]
 iV:=fun b hb=>(k.iV b hb).elim (h.iV b) fun h'=>.inr (by have:=h.size;omega)
 mD:=fun b hb=>(k.mD b hb).elim (h.mD b) fun h'=>.inr (by have:=h.size;omega)
 size:=Nat.le_trans h.size k.size
 os:=k.os.trans h.os
 tape:=k.tape.trans h.tape
 output:=k.output.trans h.output
structure SR (H0:ai) (ρ0:dK) (w0:World) (ann:bS) (N:Nat) (ρ lam:dK) (S:St) (a:Act) (w:World):Prop where
 defers:a.defers=[]
 size:a.tmps.size=N
 tm:∀t x,S.tm t=some x→TR ρ lam x (a.tmps.getD t undef)
 Lw:∀t s off,S.tm t=some (.lp s off)→ab ann.aX t=some s
 lo:∀s L,S.lo s=some L→∃b,lam s=some b∧vN ρ L w.heap[b]? ∧b<w.heap.size∧w0.heap.size≤b∧¬iV S.hp ρ b
 uj:∀s s' L L' b,S.lo s=some L→S.lo s'=some L'→lam s=some b→lam s'=some b→s=s'
 hr:HR ρ S.hp w
 cd:lL H0 ρ0 w0 S.hp ρ w
theorem SR.ev {H0:ai} {ρ0:dK} {w0:World} {ann:bS} {N:Nat} {ρ lam:dK} {S:St} {a:Act} {w:World} (h:SR H0 ρ0 w0 ann N ρ lam S a w):pR ρ lam (cY S.tm) a.eval:=by
 intro x t hx
 cases x with
 |tmp s=>exact h.tm s t hx
 |const v=>
  simp only[cY] at hx;split at hx
  ·rename_i y hy;cases hx;exact .v (sN hy)
  ·cases hx
 |func f=>simp only[cY,some.injEq] at hx;subst hx;exact .v (.func f rfl fun i x y hx=>by simp at hx)
 |global g=>cases hx
theorem jR {E:kG} {t:Nat} {i:TI} (h:E.ti t=some i):∃dC d,E.P.info? t=some dC∧E.P.underlying t=some d∧bw d=i.sh∧dC.size=i.size∧dC.bytes=i.bytes∧dC.zero.bind lB=i.zero:=by
 have h:=E.ti_ok t i h;unfold RD at h;split at h
 ·rename_i dC d h1 h2;cases h;exact⟨dC,d,h1,h2,rfl,rfl,rfl,rfl⟩
 ·cases h
theorem jE {P:Program} {t:TypeId} {d:TypeDesc} (h:P.underlying t=some d) (w:World):(isAgg t).run P w=.ok (iP d) w:=by
 simp only[isAgg,Sem.run_bind,run_underlying h,Result.andThen_ok];cases d<;>rfl
theorem HM {d:TypeDesc} {k:cA} (h:cU (bw d)=some k):iP d=false:=by
 cases d<;>simp_all [bw,cU,iP]
def Ju (P:Program) (t:TypeId) (cs:List Value) (x:Value):Prop:=
 ∃d,P.underlying t=some d∧((iP d=true∧x=.agg cs.toArray)∨(iP d=false∧cs=[x]))
theorem Di {P:Program} {t:TypeId} {d:TypeDesc} {dC:TypeInfo} (hu:P.underlying t=some d) (hi:P.info? t=some dC) (cs:Array Value) (off n:Nat) (hn:off+n≤cs.size) (hs:dC.size=n) (h1:iP d=false→n=1) (w:World):∃x,(part t cs off).run P w=.ok x w∧Ju P t ((cs.toList.drop off).take n) x:=by
 cases ha:iP d
 ·have XW:=h1 ha;subst XW;have hlt:off<cs.size:=by omega
  refine⟨cs[off], ?_,d,hu,.inr ⟨ha, ?_⟩⟩
  ·simp [part,jE hu,ha,Array.getElem?_eq_getElem hlt]
  ·have:cs.toList.drop off=cs[off]::cs.toList.drop (off+1):=by
    rw[drop_eq_getElem_cons (by simpa using hlt)];rfl
   rw[this];rfl
 ·refine⟨.agg (cs.extract off (off+n)), ?_,d,hu,.inl ⟨ha, ?_⟩⟩
  ·simp [part,jE hu,ha,run_sizeOf w hi,Program.cellsOf,hi,hs]
  ·congr 1;apply Array.ext';simp [extract_eq_take_drop]
theorem lM:∀{a c:List V} (b d:List V) {r:Bool},a.length=c.length→eH (a++b) (c++d)=some r→∃x y,eH a c=some x∧eH b d=some y∧r=(x&&y)
 |[],[],b,d,r,_,h=>⟨true,r,rfl,h,by simp⟩
 |x::l,y::m,b,d,r,hl,h=>by
  have ih:∀{r},eH (l++b) (m++d)=some r→_:=fun h=>lM (a:=l) (c:=m) b d (by simpa using hl) h
  cases x<;>cases y<;>simp only[cons_append,eH] at h⊢ <;>try (cases h;done)
  ·split at h
   ·rename_i e q hq;obtain⟨u,v,h1,h2,rfl⟩:=ih hq;simp only[some.injEq] at h;exact⟨_,v,by rw[h1],h2,by rw[←h,Bool.and_assoc]⟩
   ·cases h
  ·rename_i k p k' q;by_cases hk:k=k'
   ·simp only[hk,nk,decide_true,cond_true] at h⊢;split at h
    ·rename_i e s hs;obtain⟨u,v,h1,h2,rfl⟩:=ih hs;simp only[some.injEq] at h;exact⟨_,v,by rw[h1],h2,by rw[←h,Bool.and_assoc]⟩
    ·cases h
   ·simp [hk] at h
  ·split at h
   ·rename_i e q hq;obtain⟨u,v,h1,h2,rfl⟩:=ih hq;simp only[some.injEq] at h;exact⟨_,v,by rw[h1],h2,by rw[←h,Bool.and_assoc]⟩
   ·cases h
theorem fk:∀{ks:List cA} {vs:List V},aM ks vs=true→ks.length=vs.length
 |[],[],_=>rfl
 |[],_::_,h=>by simp [aM] at h
 |_::_,[],h=>by simp [aM] at h
 |_::ks,_::vs,h=>by rw[aM,Bool.and_eq_true] at h;simp [fk h.2]
theorem jZ:∀{a b:List cA} {vs:List V},aM (a++b) vs=true→aM a (vs.take a.length)=true∧aM b (vs.drop a.length)=true
 |[],b,vs,h=>by simpa [aM] using h
 |k::a,b,[],h=>by simp [aM] at h
 |k::a,b,v::vs,h=>by
  rw[cons_append,aM,Bool.and_eq_true] at h;obtain⟨h1,h2⟩:=jZ h.2;simp [aM,h.1,h1,h2]
theorem NN (n:Nat) (ks:List cA):(AS n ks).length=n*ks.length:=by
 induction n with
 |zero=>simp [AS]
 |succ n ih=>simp [AS,ih,Nat.add_mul];omega
section
variable {P:Program} {ρ:dK}
def RK (P:Program) (ρ:dK) (D:Nat) (t:TypeId) (ks:List cA):Prop:=
 ∀(w:World) (xv yv:List V) (xs ys:List Value) (x y:Value) (b:Bool),aM ks xv=true→aM ks yv=true→eU ρ xv xs→eU ρ yv ys→eH xv yv=some b→
  Ju P t xs x→Ju P t ys y→(Op.equalIn D t x y).run P w=.ok b w
theorem im {α:Type} (l:List α) (a n:Nat):l.drop a=(l.drop a).take n++l.drop (a+n):=by
 rw[←drop_drop,take_append_drop]
theorem TD {d:Nat} {t:TypeId} {ks:List cA} (h:lD P d t=some ks):∃D,P.underlying t=some D∧(iP D=false→ks.length=1)∧(iP D=true→P.cellsOf t=ks.length):=by
 cases d with
 |zero=>cases h
 |succ d=>
  unfold lD at h;split at h
  ·rename_i hu;cases h;exact⟨_,hu,fun _=>rfl,fun h=>by simp [iP] at h⟩
  ·rename_i hu;cases h;exact⟨_,hu,fun _=>rfl,fun h=>by simp [iP] at h⟩
  ·rename_i hu;cases h;exact⟨_,hu,fun _=>rfl,fun h=>by simp [iP] at h⟩
  ·rename_i hu;refine⟨_,hu,fun h=>by simp [iP] at h,fun _=> ?_⟩;cases hp:P.stoodInHeld t
   ·simp only[hp,cond_false] at h;split at h
    ·rename_i m _;by_cases hc:P.cellsOf t=m.length
     ·simp only[aY,hc,decide_true,cond_true,some.injEq] at h;rw[←h,hc]
     ·simp [aY,hc] at h
    ·cases h
   ·simp [hp] at h
  ·rename_i k e hu;refine⟨_,hu,fun h=>by simp [iP] at h,fun _=> ?_⟩;split at h
   ·rename_i m _;by_cases Hh:P.cellsOf e=m.length
    ·by_cases Hi:P.cellsOf t=k*m.length
     ·simp only[aY,Hh,Hi,decide_true,Bool.and_self,cond_true,some.injEq] at h;rw[←h,NN,Hi]
     ·simp [aY,Hi] at h
    ·simp [aY,Hh] at h
   ·cases h
  ·cases h
theorem jS {d:Nat} {t:TypeId} {ks:List cA} (h:lD P d t=some ks) (cs:Array Value) (off:Nat) (hn:off+ks.length≤cs.size) (w:World):∃x,(part t cs off).run P w=.ok x w∧Ju P t ((cs.toList.drop off).take ks.length) x:=by
 obtain⟨D,hu,h1,h2⟩:=TD h;obtain⟨dC,hi⟩:=info_of_underlying hu;cases ha:iP D
 ·have XW:=h1 ha;have hlt:off<cs.size:=by omega
  refine⟨cs[off], ?_,D,hu,.inr ⟨ha, ?_⟩⟩
  ·simp [part,jE hu,ha,Array.getElem?_eq_getElem hlt]
  ·have:cs.toList.drop off=cs[off]::cs.toList.drop (off+1):=by
    rw[drop_eq_getElem_cons (by simpa using hlt)];rfl
   rw[this,XW];rfl
 ·exact Di hu hi cs off _ hn (by have:=h2 ha;simpa [Program.cellsOf,hi] using this) (fun h=>by rw[ha] at h;cases h) w
theorem yI {d D:Nat} (ih:∀t ks,lD P d t=some ks→RK P ρ D t ks) (xs ys:Array Value) (w:World):∀(l:List Field) (o:Nat) (ks:List cA) (xv yv:List V) (b:Bool),lC (lD P d) l o=some ks→o≤xv.length→o≤yv.length→aM ks (xv.drop o)=true→aM ks (yv.drop o)=true→eU ρ xv xs.toList→eU ρ yv ys.toList→eH (xv.drop o) (yv.drop o)=some b→(Op.eqFields D xs ys l).run P w=.ok b w
 |[],o,ks,xv,yv,b,h,hx,hy,fx,fy,_,_,he=>by
  simp only[lC,some.injEq] at h;subst h;have l1:=fk fx;have l2:=fk fy;rw[eq_nil_of_length_eq_zero l1.symm,eq_nil_of_length_eq_zero l2.symm] at he;simp only[eH,some.injEq] at he;subst he;simp [Op.eqFields]
 |f::l,o,ks,xv,yv,b,h,hx,hy,fx,fy,M8,M9,he=>by
  unfold lC at h;cases hc:(f.name != "_" &&Nat.beq f.offset o)
  ·simp [hc] at h
  ·simp only[hc,cond_true] at h;rw[Bool.and_eq_true] at hc;have hname:f.name≠ "_" :=by simpa using hc.1
   have hoff:f.offset=o:=Nat.eq_of_beq_eq_true hc.2;split at h
   ·rename_i m hm;split at h
    ·rename_i r hr;cases h;have l1:=fk fx;have l2:=fk fy;simp only[length_append,length_drop] at l1 l2;obtain⟨fx1,fx2⟩:=jZ fx;obtain⟨fy1,fy2⟩:=jZ fy;rw[drop_drop] at fx2 fy2;have hxs:xs.size=xv.length:=by have:=M8.1;simp at this;omega
     have hys:ys.size=yv.length:=by have:=M9.1;simp at this;omega
     obtain⟨x,hx1,vD⟩:=jS hm xs o (by omega) w;obtain⟨y,hy1,Ul⟩:=jS hm ys o (by omega) w;rw[im xv o m.length,im yv o m.length] at he;obtain⟨u,v,h1,h2,rfl⟩:=lM _ _ (by simp;omega) he;have e1:=ih _ _ hm w _ _ _ _ x y u fx1 fy1 ((M8.drop o).take m.length) ((M9.drop o).take m.length) h1 vD Ul;have e2:=yI ih xs ys w l (o+m.length) r xv yv v hr (by omega) (by omega) fx2 fy2 M8 M9 h2;rw[Op.eqFields];simp only[if_pos hname,Sem.run_bind,hoff,hx1,hy1,e1,Result.andThen_ok];cases u
     ·simp
     ·simpa using e2
    ·cases h
   ·cases h
theorem BB {d D:Nat} {m:List cA} {e:TypeId} (ih:RK P ρ D e m) (hm:lD P d e=some m) (xs ys:Array Value) (w:World):∀(k i:Nat) (xv yv:List V) (b:Bool),i*m.length≤xv.length→i*m.length≤yv.length→aM (AS k m) (xv.drop (i*m.length))=true→aM (AS k m) (yv.drop (i*m.length))=true→eU ρ xv xs.toList→eU ρ yv ys.toList→eH (xv.drop (i*m.length)) (yv.drop (i*m.length))=some b→(Op.eqItems D e m.length xs ys (List.range' i k)).run P w=.ok b w
 |0,i,xv,yv,b,hx,hy,fx,fy,_,_,he=>by
  have l1:=fk fx;have l2:=fk fy;rw[AS,length_nil] at l1 l2;rw[eq_nil_of_length_eq_zero l1.symm,eq_nil_of_length_eq_zero l2.symm] at he;simp only[eH,some.injEq] at he;subst he;simp [Op.eqItems]
 |k+1,i,xv,yv,b,hx,hy,fx,fy,M8,M9,he=>by
  rw[AS] at fx fy;have l1:=fk fx;have l2:=fk fy;simp only[length_append,length_drop] at l1 l2;obtain⟨fx1,fx2⟩:=jZ fx;obtain⟨fy1,fy2⟩:=jZ fy;have hs:i*m.length+m.length=(i+1)*m.length:=by rw[Nat.add_mul,Nat.one_mul]
  rw[drop_drop,hs] at fx2 fy2;have hxs:xs.size=xv.length:=by have:=M8.1;simp at this;omega
  have hys:ys.size=yv.length:=by have:=M9.1;simp at this;omega
  obtain⟨x,hx1,vD⟩:=jS hm xs (i*m.length) (by omega) w;obtain⟨y,hy1,Ul⟩:=jS hm ys (i*m.length) (by omega) w;rw[im xv (i*m.length) m.length,im yv (i*m.length) m.length] at he;obtain⟨u,v,h1,h2,rfl⟩:=lM _ _ (by simp;omega) he;have e1:=ih w _ _ _ _ x y u fx1 fy1 ((M8.drop _).take _) ((M9.drop _).take _) h1 vD Ul;rw[hs] at h2;have e2:=BB ih hm xs ys w k (i+1) xv yv v (by omega) (by omega) fx2 fy2 M8 M9 h2;rw[range'_succ];simp only[Op.eqItems,Sem.run_bind,hx1,hy1,e1,Result.andThen_ok];cases u
  ·simp
  ·simpa using e2
theorem vO {t:TypeId} {d:TypeDesc} {k:cA} {D:Nat} (hu:P.underlying t=some d) (ha:iP d=false) (hk:∀(w:World) (p q:V) (x y:Value) (b:Bool),p.ax k=true→q.ax k=true→VR ρ p x→VR ρ q y→eH [p] [q]=some b→(Op.equalIn D t x y).run P w=.ok b w):RK P ρ D t [k]:=by
 intro w xv yv xs ys x y b fx fy M8 M9 he W8 hiy;obtain⟨dx,Um,hcx⟩:=W8;obtain⟨dy,Uo,hcy⟩:=hiy;rw[hu] at Um Uo;cases Um;cases Uo;rcases hcx with⟨h',_⟩|⟨_,rfl⟩
 ·rw[ha] at h';cases h'
 rcases hcy with⟨h',_⟩|⟨_,rfl⟩
 ·rw[ha] at h';cases h'
 match xv,yv,fx,fy with
 |[p],[q],fx,fy=>
  simp only[aM,Bool.and_true] at fx fy;exact hk w p q x y b fx fy (M8.2 0 p x rfl rfl) (M9.2 0 q y rfl rfl) he
 |[],_,fx,_=>simp [aM] at fx
 |_::_::_,_,fx,_=>simp [aM] at fx
 |[_],[],_,fy=>simp [aM] at fy
 |[_],_::_::_,_,fy=>simp [aM] at fy
theorem RL:∀(d:Nat) (t:TypeId) (ks:List cA),lD P d t=some ks→∀D,d≤D→RK P ρ D t ks:=by
 intro d
 induction d with
 |zero=>intro t ks h;cases h
 |succ d ih=>
  intro t ks h D hD;obtain⟨D,rfl⟩:∃D',D=D'+1:=⟨D-1,by omega⟩;unfold lD at h;split at h
  ·rename_i hu;cases h;refine vO hu rfl fun w p q x y b kp kq hp hq he=> ?_
   cases hp<;>simp [V.ax] at kp
   cases hq<;>simp [V.ax] at kq
   simp [eH] at he;simp [Op.equalIn,run_underlying hu,he]
  ·rename_i k hu;cases h;refine vO hu rfl fun w p q x y b kp kq hp hq he=> ?_
   cases hp<;>simp [V.ax] at kp
   cases hq<;>simp [V.ax] at kq
   subst kp;subst kq;simp [eH] at he;simp [Op.equalIn,run_underlying hu,he]
  ·rename_i hu;cases h;refine vO hu rfl fun w p q x y b kp kq hp hq he=> ?_
   cases hp<;>simp [V.ax] at kp
   cases hq<;>simp [V.ax] at kq
   simp [eH] at he;simp [Op.equalIn,run_underlying hu,he]
  ·rename_i fs hu;intro w xv yv xs ys x y b fx fy M8 M9 he W8 hiy;cases hp:P.stoodInHeld t
   ·simp only[hp,cond_false] at h;split at h
    ·rename_i m hm
     have hmn:m=ks:=by
      by_cases hc:P.cellsOf t=m.length
      ·simpa [aY,hc] using h
      ·simp [aY,hc] at h
     subst hmn;obtain⟨dx,Um,hcx⟩:=W8;obtain⟨dy,Uo,hcy⟩:=hiy;rw[hu] at Um Uo;cases Um;cases Uo;rcases hcx with⟨_,rfl⟩|⟨h',_⟩
     ·rcases hcy with⟨_,rfl⟩|⟨h',_⟩
      ·have hf:P.fieldsOf t=fs:=by simp [Program.fieldsOf,hu]
       rw[run_equalIn_struct (P:=P) w D t _ _ (by rw[hf];exact hu) hp,hf];exact yI (fun t n h=>ih t n h D (by omega)) _ _ w fs.toList 0 m xv yv b hm (by omega) (by omega) (by simpa using fx) (by simpa using fy) (by simpa using M8) (by simpa using M9) (by simpa using he)
      ·simp [iP] at h'
     ·simp [iP] at h'
    ·cases h
   ·simp [hp] at h
  ·rename_i k e hu;intro w xv yv xs ys x y b fx fy M8 M9 he W8 hiy;split at h
   ·rename_i m hm
    have hc:P.cellsOf e=m.length∧ks=AS k m:=by
     by_cases Hh:P.cellsOf e=m.length
     ·by_cases Hi:P.cellsOf t=k*m.length
      ·simp only[aY,Hh,Hi,decide_true,Bool.and_self,cond_true,some.injEq] at h;exact⟨Hh,h.symm⟩
      ·simp [aY,Hi] at h
     ·simp [aY,Hh] at h
    obtain⟨Hh,rfl⟩:=hc;obtain⟨dx,Um,hcx⟩:=W8;obtain⟨dy,Uo,hcy⟩:=hiy;rw[hu] at Um Uo;cases Um;cases Uo;rcases hcx with⟨_,rfl⟩|⟨h',_⟩
    ·rcases hcy with⟨_,rfl⟩|⟨h',_⟩
     ·obtain⟨De,Tf,_⟩:=TD hm;obtain⟨dC,hi⟩:=info_of_underlying Tf;rw[run_equalIn_array w D _ _ hu hi,Hh,range_eq_range'];exact BB (ih e m hm D (by omega)) hm _ _ w k 0 xv yv b (by omega) (by omega) (by simpa using fx) (by simpa using fy) (by simpa using M8) (by simpa using M9) (by simpa using he)
     ·simp [iP] at h'
    ·simp [iP] at h'
   ·cases h
  ·cases h
end
section
variable {E:kG} {ρ lam:dK} {w:World}
theorem vP {t:TypeId} {k:cA} (h:bq E t=some k):∃d dC,E.P.underlying t=some d∧E.P.info? t=some dC∧cU (bw d)=some k∧iP d=false:=by
 unfold bq at h;split at h
 ·rename_i i hi;obtain⟨dC,d,h1,h2,h3,_⟩:=jR hi;exact⟨d,dC,h2,h1,by rw[h3];exact h,HM (by rw[h3];exact h)⟩
 ·cases h
theorem yJ {t:TypeId} {ks:List cA} (h:om E t=some ks):∃d dC z,E.P.underlying t=some d∧E.P.info? t=some dC∧iP d=true∧dC.zero.bind lB=some (.agg z)∧ks=z.map V.da:=by
 unfold om at h;split at h
 ·rename_i i hi;obtain⟨dC,d,h1,h2,h3,h4,h5,h6⟩:=jR hi;split at h
  ·rename_i n e z hs hz;simp only[some.injEq] at h;refine⟨d,dC,z,h2,h1, ?_,by rw[h6,hz],h.symm⟩;rw[hs] at h3;cases d<;>simp_all [bw,iP]
  ·rename_i fs z hs hz;simp only[some.injEq] at h;refine⟨d,dC,z,h2,h1, ?_,by rw[h6,hz],h.symm⟩;rw[hs] at h3;cases d<;>simp_all [bw,iP]
  ·cases h
 ·cases h
theorem Lx {t:TypeId} {n:Nat} (h:size E t=some n):∃dC,E.P.info? t=some dC∧dC.size=n:=by
 unfold size at h;split at h
 ·rename_i i hi;obtain⟨dC,d,h1,h2,h3,h4,h5,h6⟩:=jR hi;simp only[some.injEq] at h;exact⟨dC,h1,by omega⟩
 ·cases h
theorem fl {t:TypeId} {n:Nat} (h:size E t=some n) (w:World):(sizeOf t).run E.P w=.ok n w:=by
 obtain⟨dC,h1,h2⟩:=Lx h;simp [sizeOf,typeInfo,h1,h2]
theorem lk:∀{ks:List cA} {cs:List V} {l:List V} {j:Nat},aM ks cs=true→l.drop j=cs→oi ks l j=cs
 |[],[],_,_,_,_=>rfl
 |[],_::_,_,_,h,_=>by simp [aM] at h
 |_::_,[],_,_,h,_=>by simp [aM] at h
 |k::ks,c::cs,l,j,h,hl=>by
  rw[aM,Bool.and_eq_true] at h
  have hj:j<l.length:=by
   rcases Nat.lt_or_ge j l.length with h|h
   ·exact h
   ·rw[drop_eq_nil_of_le h] at hl;cases hl
  have h0:ae l j=c:=by
   have h1:=qS hj
   have h2:l[j]? =some c:=by
    have:(l.drop j)[0]? =some c:=by rw[hl];rfl
    simpa using this
   rw[h1] at h2;exact Option.some.inj h2
  rw[oi,h0,V.sx h.1,lk (j:=j+1) h.2 (by rw[←drop_drop,hl];rfl)]
theorem uk {v:V} (h:v.isAgg=true):v=.agg v.ag:=by cases v<;>simp_all [V.isAgg,V.ag]
theorem lN {t:TypeId} {v y:V} {r:Bool} (h:tV E t v=some (r,y)) (hr:r=true):y=v:=by
 unfold tV at h;split at h
 ·simp only[some.injEq,Prod.mk.injEq] at h;rw[←h.2];exact V.sx (h.1.trans hr)
 ·split at h
  ·simp only[some.injEq,Prod.mk.injEq] at h;have h1:=h.1.trans hr;rw[Bool.and_eq_true] at h1;rw[←h.2,lk h1.2 rfl];exact(uk h1.1).symm
  ·cases h
theorem yK:∀{ts:List TypeId} {v:V} {j:Nat} {r:Bool} {l:List V},tW E ts v j=some (r,l)→r=true→v.aw.length=j+ts.length→l=v.aw.drop j
 |[],v,j,r,l,h,_,hl=>by
  simp only[tW,some.injEq,Prod.mk.injEq] at h;rw[←h.2,drop_eq_nil_of_le (by simp at hl;omega)]
 |t::ts,v,j,r,l,h,hr,hl=>by
  simp only[tW] at h;split at h
  ·rename_i b x c l' h1 h2;simp only[some.injEq,Prod.mk.injEq] at h;have hb:=h.1.trans hr;rw[Bool.and_eq_true] at hb;have e1:=lN h1 hb.1;have e2:=yK h2 hb.2 (by simp at hl;omega);have hj:j<v.aw.length:=by simp at hl;omega
   rw[←h.2,e1,e2];have:=qS hj;rw[List.getElem?_eq_getElem hj] at this;rw[drop_eq_getElem_cons hj, ←Option.some.inj this]
  ·cases h
theorem NO {t:TypeId} {v y:V} {r:Bool} (h:tX E t v=some (r,y)) (hr:r=true):y=v:=by
 unfold tX at h;split at h
 ·split at h
  ·simp only[some.injEq,Prod.mk.injEq] at h;exact h.2.symm
  ·split at h
   ·rename_i ts _ _ _ b l h1;simp only[some.injEq,Prod.mk.injEq] at h;have hb:=h.1.trans hr;rw[Bool.and_eq_true] at hb
    have hv:v=.tuple v.aw∧v.aw.length=ts.length:=by
     cases v<;>simp_all [V.aO,V.aw]
    have:=yK h1 hb.2 (by omega);rw[←h.2,this,drop_zero];exact hv.1.symm
   ·cases h
  ·exact lN h hr
 ·cases h
theorem yL {t:TypeId} {cs:List V} {off:Nat} {r:Bool} {v:V} {cs':Array Value} (h:mS E t cs off=some (r,v)) (hr:r=true) (h1:bn cs) (hcs:eU ρ cs cs'.toList) (w:World):∃v',(part t cs' off).run E.P w=.ok v' w∧VR ρ v v':=by
 unfold mS at h;split at h
 ·rename_i k hk;obtain⟨d,dC,hu,hi,_,ha⟩:=vP hk;simp only[some.injEq,Prod.mk.injEq] at h;have xu:=h.1.trans hr;rw[Bool.and_eq_true] at xu;have hlt:off<cs.length:=by simpa using xu.1
  obtain⟨y,hy,hv⟩:=hcs.nth hlt;refine⟨y, ?_,by rw[←h.2,V.sx xu.2];exact hv⟩;have hy':cs'[off]? =some y:=by simpa using hy
  simp [part,jE hu,ha,hy']
 ·split at h
  ·rename_i ks n hks hn;obtain⟨d,dC,z,hu,hi,ha,_⟩:=yJ hks;simp only[some.injEq,Prod.mk.injEq] at h;refine⟨.agg (cs'.extract off (off+n)), ?_, ?_⟩
   ·simp [part,jE hu,ha,fl hn]
   ·rw[←h.2];refine .vK (fun c hc=>h1 c (mem_of_mem_drop (mem_of_mem_take hc))) ?_;have:=(hcs.drop off).take n;simpa [extract_eq_take_drop] using this
  ·cases h
theorem NP {op:BinOp} {k:IntKind} {x y:Int} {r:Bool} {v:V} (h:vG op k x y=some (r,v)) (hr:r=true) (t:TypeId):∃v',(binOp op t (.int k x) (.int k y)).run E.P w=.ok v' w∧VR ρ v v':=by
 subst hr
 cases op<;>simp only[vG,some.injEq,Prod.mk.injEq] at h<;>obtain⟨h1,rfl⟩:=h<;>
  simp only[binOp,ne_eq,not_true,if_false,Op.intArith,Op.intCmp,Op.intBits,Op.intDiv,Op.shift]<;>
  first
   |exact⟨_,rfl,.int _ _⟩
   |exact⟨_,rfl,.bool _⟩
   |(have h1:¬y=0:=by simpa using h1
     rw[if_neg h1];exact⟨_,rfl,.int _ _⟩)
   |(have h1:¬y<0:=by simpa using h1
     rw[if_neg h1];exact⟨_,rfl,.int _ _⟩)
theorem yM {op:BinOp} (hop:op=.shl∨op=.shr) {k k':IntKind} {x y:Int} {r:Bool} {v:V} (h:vG op k x y=some (r,v)) (hr:r=true) (t:TypeId):∃v',(binOp op t (.int k x) (.int k' y)).run E.P w=.ok v' w∧VR ρ v v':=by
 subst hr
 rcases hop with rfl|rfl<;>simp only[vG,some.injEq,Prod.mk.injEq] at h<;>obtain⟨h1,rfl⟩:=h<;>
  simp only[binOp,Op.shift]<;>
  (have h1:¬y<0:=by simpa using h1
   rw[if_neg h1];exact⟨_,rfl,.int _ _⟩)
theorem RM:IntKind.i64.max=9223372036854775807:=by decide
theorem NR {op:BinOp} {x y:ByteArray} {r:Bool} {v:V} (h:HD op x y=some (r,v)) (hr:r=true) (t:TypeId):∃v',(binOp op t (.string x) (.string y)).run E.P w=.ok v' w∧VR ρ v v':=by
 subst hr
 cases op<;>simp only[HD,some.injEq,Prod.mk.injEq] at h<;>first
  |(cases h;done)
  |(obtain⟨h1,rfl⟩:=h
    simp only[binOp,Op.stringOp,mz]
    first
     |exact⟨_,rfl,.bool _⟩
     |(have h1:¬((x.size+y.size:Nat):Int)>IntKind.i64.max:=by rw[RM];unfold NB at h1;have:=Nat.le_of_ble_eq_true h1;omega
       rw[if_neg h1];exact⟨_,rfl,.cL _⟩))
theorem bR {t:TypeId} {k:cA} (h:bq E t=some k):∃d,E.P.underlying t=some d∧cU (bw d)=some k:=by
 obtain⟨d,_,h1,_,h2,_⟩:=vP h;exact⟨d,h1,h2⟩
set_option maxHeartbeats 2000000 in
theorem se {t:TypeId} {nils:Bool} {a b:V} {a' b':Value} {x y:Operand} {op:BinOp} {r q:Bool} (hc:nils=true→∃v,y=.const v)
 {D:Nat} (hD:50≤D+1) (ha:VR ρ a a') (hb:VR ρ b b') (h:iQ E t nils a b=some (r,q)) (hr:r=true):
 (eqGuard op t x y a' b').run E.P w=.ok () w∧(Op.equalIn (D+1) t a' b').run E.P w=.ok q w:=by
 subst hr;unfold iQ at h;split at h
 ·split at h
  ·rename_i hk;obtain⟨d,hu,hd⟩:=bR hk;simp only[some.injEq,Prod.mk.injEq,true_and] at h;cases ha;cases hb;cases d<;>simp [bw,cU] at hd
   refine⟨by cases op<;>simp [eqGuard],by simp [Op.equalIn,run_underlying hu, ←h]⟩
  ·cases h
 ·split at h
  ·rename_i hk;obtain⟨d,hu,hd⟩:=bR hk;simp only[some.injEq,Prod.mk.injEq,true_and] at h;cases hb;cases d<;>simp [bw,cU] at hd
   cases ha<;>exact⟨by cases op<;>simp [eqGuard],by simp [Op.equalIn,run_underlying hu, ←h]⟩
  ·cases h
 ·split at h
  ·rename_i hk;obtain⟨d,hu,hd⟩:=bR hk;simp only[some.injEq,Prod.mk.injEq,true_and] at h;cases ha;cases d<;>simp [bw,cU] at hd
   cases hb<;>exact⟨by cases op<;>simp [eqGuard],by simp [Op.equalIn,run_underlying hu, ←h]⟩
  ·cases h
 ·split at h
  ·rename_i hk;obtain⟨d,hu,hd⟩:=bR hk;simp only[some.injEq,Prod.mk.injEq,true_and] at h;cases hb;cases d<;>simp [bw,cU] at hd
   cases ha<;>exact⟨by cases op<;>simp [eqGuard],by simp [Op.equalIn,run_underlying hu, ←h]⟩
  ·cases h
 ·split at h
  ·rename_i hk;obtain⟨d,hu,hd⟩:=bR hk;simp only[some.injEq,Prod.mk.injEq,true_and] at h;cases ha;cases d<;>simp [bw,cU] at hd
   cases hb<;>exact⟨by cases op<;>simp [eqGuard],by simp [Op.equalIn,run_underlying hu, ←h]⟩
  ·cases h
 ·split at h
  ·rename_i hk;obtain⟨d,hu,hd⟩:=bR hk;simp only[some.injEq,Prod.mk.injEq,true_and] at h;cases hb;cases d<;>simp [bw,cU] at hd
   cases ha<;>exact⟨by cases op<;>simp [eqGuard],by simp [Op.equalIn,run_underlying hu, ←h]⟩
  ·cases h
 ·split at h
  ·rename_i hk;obtain⟨d,hu,hd⟩:=bR hk;simp only[some.injEq,Prod.mk.injEq,true_and] at h;cases ha;cases d<;>simp [bw,cU] at hd
   cases hb<;>exact⟨by cases op<;>simp [eqGuard],by simp [Op.equalIn,run_underlying hu, ←h]⟩
  ·cases h
 ·rename_i xs ys;split at h
  ·rename_i ks b hk hb';simp only[some.injEq,Prod.mk.injEq,Bool.and_eq_true,dm,hb'] at h;obtain⟨⟨h1,h2⟩,rfl⟩:=h;have hq:=E.eq_ok t ks hk;simp only[Lp,Bool.and_eq_true,Bool.not_eq_true',decide_eq_true_eq] at hq;obtain⟨xs',rfl,hx,_⟩:=ha.oC;obtain⟨ys',rfl,hy,_⟩:=hb.oC;refine⟨run_eqGuard_agg w op t x y _ _ hq.1.1, ?_⟩;have key:=RL (P:=E.P) (ρ:=ρ) 50 t ks hq.1.2 (D+1) hD w xs ys xs'.toList ys'.toList (.agg xs') (.agg ys') b h1 h2 hx hy hb';have Nn:=hq.2;split at Nn
   ·rename_i d hu;exact key ⟨d,hu,.inl ⟨Nn,by simp⟩⟩ ⟨d,hu,.inl ⟨Nn,by simp⟩⟩
   ·cases Nn
  ·cases h
 ·split at h
  ·rename_i hk;obtain⟨d,hu,hd⟩:=bR hk;simp only[some.injEq,Prod.mk.injEq] at h;obtain⟨h1,h⟩:=h;cases hb;cases d<;>simp [bw,cU] at hd
   cases ha<;>simp [V.ax] at h1<;>exact⟨by cases op<;>simp [eqGuard],by simp [Op.equalIn,run_underlying hu, ←h,V.gU]⟩
  ·cases h
 ·split at h
  ·rename_i hk;obtain⟨d,hu,hd⟩:=bR hk;simp only[some.injEq,Prod.mk.injEq] at h;obtain⟨h1,h⟩:=h;cases ha;cases d<;>simp [bw,cU] at hd
   cases hb<;>simp [V.ax] at h1<;>exact⟨by cases op<;>simp [eqGuard],by simp [Op.equalIn,run_underlying hu, ←h,V.gU]⟩
  ·cases h
 ·cases nils
  ·simp at h
  ·simp only[cond_true] at h;split at h
   ·rename_i hk;obtain⟨d,hu,hd⟩:=bR hk;obtain⟨c,rfl⟩:=hc rfl;simp only[some.injEq,Prod.mk.injEq] at h;obtain⟨h1,h⟩:=h;cases hb;cases d<;>simp [bw,cU] at hd
    cases ha<;>simp [V.ax] at h1<;>exact⟨by cases op<;>simp [eqGuard],by simp [Op.equalIn,run_underlying hu, ←h,V.fu]⟩
   ·cases h
 ·cases h
theorem sf {t:TypeId} {a b:Value} {q:Bool} (h:(Op.equalIn 10000 t a b).run E.P w=.ok q w) (hn:∀k n k' n',¬(a=.int k n∧b=.int k' n')) (hs:∀x y,¬(a=.string x∧b=.string y)) (hf:∀k x k' y,¬(a=.float k x∧b=.float k' y)) (hx:∀k x y k' x' y',¬(a=.complex k x y∧b=.complex k' x' y')):(binOp .eql t a b).run E.P w=.ok (.bool q) w∧(binOp .neq t a b).run E.P w=.ok (.bool (!q)) w:=by
 have he:(Op.equal t a b).run E.P w=.ok q w:=h
 cases a<;>cases b<;>first
  |exact(hn _ _ _ _ ⟨rfl,rfl⟩).elim
  |exact(hs _ _ ⟨rfl,rfl⟩).elim
  |exact(hf _ _ _ _ ⟨rfl,rfl⟩).elim
  |exact(hx _ _ _ _ _ _ ⟨rfl,rfl⟩).elim
  |(constructor<;>simp [binOp,he])
theorem um {t:TypeId} {nils q:Bool} {a b:V} (h:iQ E t nils a b=some (true,q)):a≠ .cB∧b≠ .cB:=by
 constructor
 ·rintro rfl;cases b<;>simp only[iQ] at h<;>first|cases h|(split at h<;>first|cases h|(split at h<;>simp [V.ax] at h)|simp [V.ax] at h)|skip
  all_goals (revert h;cases nils<;>simp [];try (split<;>simp))
 ·rintro rfl;cases a<;>simp only[iQ] at h<;>first|cases h|(split at h<;>first|cases h|simp [V.ax] at h)|skip
theorem Ly {op:BinOp} {t:TypeId} {nils r:Bool} {a b v:V} {a' b':Value} {x y:Operand} (hc:nils=true→∃c,y=.const c) (ha:VR ρ a a') (hb:VR ρ b b') (h:CU E op t nils a b=some (r,v)) (hr:r=true):∃v',(eqGuard op t x y a' b').run E.P w=.ok () w∧(binOp op t a' b').run E.P w=.ok v' w∧VR ρ v v':=by
 unfold CU at h;split at h
 ·rename_i k n k' n';cases ha;cases hb;have hg:(eqGuard op t x y (.int k n) (.int k' n')).run E.P w=.ok () w:=by cases op<;>simp [eqGuard]
  split at h
  ·obtain⟨v',h1,h2⟩:=yM (w:=w) (ρ:=ρ) (.inl rfl) (k':=k') h hr t;exact⟨v',hg,h1,h2⟩
  ·obtain⟨v',h1,h2⟩:=yM (w:=w) (ρ:=ρ) (.inr rfl) (k':=k') h hr t;exact⟨v',hg,h1,h2⟩
  ·by_cases hk:k=k'
   ·subst hk;simp only[nk,decide_true,cond_true] at h;obtain⟨v',h1,h2⟩:=NP (w:=w) (ρ:=ρ) h hr t;exact⟨v',hg,h1,h2⟩
   ·simp [hk] at h
 ·rename_i s s';cases ha;cases hb;obtain⟨v',h1,h2⟩:=NR (w:=w) (ρ:=ρ) h hr t;exact⟨v',by cases op<;>simp [eqGuard],h1,h2⟩
 ·rename_i h1 h2
  have hh:a≠ .cB∧b≠ .cB:=by
   split at h
   ·split at h
    ·rename_i r' q he;simp only[some.injEq,Prod.mk.injEq] at h;exact um (he.trans (by rw[h.1,hr]))
    ·cases h
   ·split at h
    ·rename_i r' q he;simp only[some.injEq,Prod.mk.injEq] at h;exact um (he.trans (by rw[h.1,hr]))
    ·cases h
   ·cases h
  have hn:∀k n k' n',¬(a'=.int k n∧b'=.int k' n'):=by
   rintro k n k' n' ⟨rfl,rfl⟩
   cases ha with
   |cB=>exact hh.1 rfl
   |int=>cases hb with
    |cB=>exact hh.2 rfl
    |int=>exact h1 _ _ _ _ rfl rfl
  have hs:∀x y,¬(a'=.string x∧b'=.string y):=by
   rintro x y ⟨rfl,rfl⟩
   cases ha with
   |cB=>exact hh.1 rfl
   |cL=>cases hb with
    |cB=>exact hh.2 rfl
    |cL=>exact h2 _ _ rfl rfl
  have hf:∀k x k' y,¬(a'=.float k x∧b'=.float k' y):=by
   rintro k x k' y ⟨rfl,rfl⟩
   cases ha with
   |cB=>exact hh.1 rfl
  have hx:∀k x y k' x' y',¬(a'=.complex k x y∧b'=.complex k' x' y'):=by
   rintro k x y k' x' y' ⟨rfl,rfl⟩
   cases ha with
   |cB=>exact hh.1 rfl
  split at h
  ·split at h
   ·rename_i r' q he;simp only[some.injEq,Prod.mk.injEq] at h;obtain⟨rfl,rfl⟩:=h;obtain⟨hg,h3⟩:=se (w:=w) (x:=x) (op:=.eql) (D:=9999) hc (by omega) ha hb he hr;exact⟨.bool q,hg,(sf h3 hn hs hf hx).1,.bool _⟩
   ·cases h
  ·split at h
   ·rename_i r' q he;simp only[some.injEq,Prod.mk.injEq] at h;obtain⟨rfl,rfl⟩:=h;obtain⟨hg,h3⟩:=se (w:=w) (x:=x) (op:=.neq) (D:=9999) hc (by omega) ha hb he hr;exact⟨.bool (!q),hg,(sf h3 hn hs hf hx).2,.bool _⟩
   ·cases h
  ·cases h
theorem Dj (c:Bool) (x y:Int):(bif c then x else y)=if c=true then x else y:=by cases c<;>rfl
theorem NT {op:UnOp} {a v:V} {a':Value} (ha:VR ρ a a') (h:unV op a=some v):∃v',(Op.unary op a').run E.P w=.ok v' w∧VR ρ v v':=by
 unfold unV at h;split at h
 ·cases ha;cases h;exact⟨_,rfl,.bool _⟩
 ·cases ha;cases h;exact⟨_,rfl,.int _ _⟩
 ·cases ha;cases h;exact⟨_,rfl,by rw[Dj];exact .int _ _⟩
 ·cases h
theorem yN {t ft:TypeId} {f o:Nat} (h:tY E t f=some (o,ft)):∃fs fd,E.P.underlying t=some (.struct fs)∧fs[f]? =some fd∧fd.offset=o∧fd.type=ft:=by
 unfold tY at h;split at h
 ·rename_i i hi;obtain⟨dC,d,h1,h2,h3,_⟩:=jR hi;split at h
  ·rename_i fs hs;rw[hs] at h3;cases d<;>simp [bw] at h3
   rename_i fields;subst h3;simp only[List.getElem?_map,map_eq_some_iff,Prod.mk.injEq] at h;obtain⟨fd,h4,h5,h6⟩:=h;exact⟨fields,fd,h2,by simpa using h4,h5,h6⟩
  ·cases h
 ·cases h
theorem sO {ev:Ev} {e:Operand→Value} (di:pR ρ lam ev e) {x:Operand} {i:Int} (h:rZ x ev=some i):∃k,e x=.int k i:=by
 unfold rZ at h;split at h
 ·rename_i k j hx;cases h;exact⟨k,(di.v hx).iy⟩
 ·cases h
theorem yO {k:IntKind} {i:Int} {y:Nat} {code:BoundsCode} (h0:0≤i) (h1:i≤(y:Int)) (w:World):(Instr.sliceBound (.int k i) y code).run E.P w=.ok i.toNat w:=by
 simp [Instr.sliceBound,asIntOf,h0,h1]
theorem oE {ev:Ev} {e:Operand→Value} (di:pR ρ lam ev e) {isS:Bool} {len cap l h m:Nat} {lo hi mx:Option Operand} {r:Bool} (hb:gx ev len cap lo hi mx=some (r,l,h,m)) (hr:r=true) (w:World):(Instr.sliceBounds isS len cap (lo.map e) (hi.map e) (mx.map e)).run E.P w=.ok (l,h,m) w:=by
 unfold gx at hb;cases hq:(hi.isNone&&mx.isSome)
 ·simp only[hq,cond_false] at hb;split at hb
  ·rename_i m1 hm;split at hb
   ·rename_i h1 hh;split at hb
    ·rename_i l1 hl;simp only[some.injEq,Prod.mk.injEq] at hb;obtain⟨CL,rfl,rfl,rfl⟩:=hb;rw[hr] at CL;simp only[Bool.and_eq_true] at CL;obtain⟨⟨r1,r2⟩,r3⟩:=CL
     have key:∀{x:Option Operand} {d most:Nat} {q:Bool×Nat},mT ev x d most=some q→q.1=true→
      (x=none∧q.2=d)∨∃y k i,x=some y∧e y=.int k i∧0≤i∧i≤(most:Int)∧q.2=i.toNat:=by
      intro x d most q hx hq;unfold mT at hx;split at hx
      ·cases hx;exact .inl ⟨rfl,rfl⟩
      ·split at hx
       ·rename_i y _ i hy;cases hx;simp only[Bool.and_eq_true,decide_eq_true_eq] at hq;obtain⟨k,hk⟩:=sO di hy;exact .inr ⟨y,k,i,rfl,hk,hq.1,hq.2,rfl⟩
       ·cases hx
     unfold Instr.sliceBounds
     rcases key hm r1 with⟨rfl,e1⟩|⟨y1,k1,i1,rfl,he1,a1,b1,e1⟩<;>
      rcases key hh r2 with⟨rfl,e2⟩|⟨y2,k2,i2,rfl,Tg,a2,b2,e2⟩<;>
       rcases key hl r3 with⟨rfl,e3⟩|⟨y3,k3,i3,rfl,he3,a3,b3,e3⟩<;>
        simp_all [yO]
    ·cases hb
   ·cases hb
  ·cases hb
 ·simp [hq] at hb
theorem Fv {x:Value} {v:V} (h:VR ρ v x):∀{cs:List V} {cs':List Value} {off:Nat},eU ρ cs cs'→eU ρ (yn cs 0 off v) (cs'.set off x):=by
 have key:∀(cs:List V) (cs':List Value) (j off:Nat),eU ρ cs cs'→eU ρ (yn cs j off v) (if off<j then cs' else cs'.set (off-j) x):=by
  intro cs
  induction cs with
  |nil=>intro cs' j off hc;rw[hc.gu];simpa [yn] using eU.nil ρ
  |cons c cs ih=>
   intro cs' j off hc;obtain⟨y,m,rfl,h1,h2⟩:=hc.dB;have:=ih m (j+1) off h2;rw[yn,nn,aY];by_cases hlt:off<j
   ·rw[if_pos (by omega)] at this;rw[if_pos hlt,if_neg (by simp;omega)];exact .cons h1 this
   ·rw[if_neg hlt];by_cases he:j=off
    ·subst he;rw[if_pos (by omega)] at this;simp only[decide_true,if_true,Nat.sub_self,set_cons_zero];exact .cons h this
    ·rw[if_neg (by omega)] at this;obtain⟨q,hq⟩:∃q,off-j=q+1:=⟨off-j-1,by omega⟩;rw[hq,set_cons_succ,if_neg (by simp;omega)];rw[show off-(j+1)=q by omega] at this;exact .cons h1 this
 intro cs cs' off hc;have:=key cs cs' 0 off hc;simpa using this
theorem AW {y:Operand} (h:sE y=true):∃v,y=.const v:=by
 cases y with
 |const v=>exact⟨v,rfl⟩
 |_=>simp [sE] at h
theorem dP {t:TypeId} {i:TI} (h:E.ti t=some i):∃d,E.P.underlying t=some d∧bw d=i.sh:=by
 obtain⟨dC,d,_,h2,h3,_⟩:=jR h;exact⟨d,h2,h3⟩
theorem uo {d:TypeDesc} {n e:Nat} (h:bw d=.arr n e):d=.array n e:=by cases d<;>simp_all [bw]
theorem iz {d:TypeDesc} {e:Nat} (h:bw d=.slice e):d=.slice e:=by cases d<;>simp_all [bw]
theorem Fw {d:TypeDesc} (h:bw d=.cL):d=.string:=by cases d<;>simp_all [bw]
theorem Fx {d:TypeDesc} {fs:List (Nat×TypeId)} (h:bw d=.struct fs):∃f,d=.struct f∧fs=f.toList.map fun f=>(f.offset,f.type):=by
 cases d<;>simp_all [bw]
theorem gb (b o n:Nat):(⟨b,o,none⟩:Addr).add n=⟨b,o+n,none⟩:=by unfold Addr.add;split<;>simp_all
def gv (E:kG) (ρ lam:dK) (w:World) (o:Oper) (e:Operand→Value) (x:T):Prop:=
 ∃v,(execOp e o).run E.P w=.ok (.value v) w∧TR ρ lam x v
theorem Fy {p:Oq} (h:p.isSome=true):p=some ((p.getD (0,0)).1,(p.getD (0,0)).2):=by
 cases p with
 |none=>cases h
 |some q=>rfl
variable {dst:Option Tmp} {type:TypeId} {jr:String} {after:Array Edge} {guard:Option (Nat×Bool)} {ev:Ev} {e:Operand→Value} {d:fS T}
theorem Lz {x:Operand} (di:pR ρ lam ev e) (h:bj E (.move x) ev=some d):gv E ρ lam w ⟨dst,.move x,type,jr,after,guard⟩ e (if d.c=true then d.x else d.y):=by
 simp only[bj] at h;split at h
 ·rename_i y hy;cases h;exact⟨e x,rfl,di x y hy⟩
 ·cases h
theorem Fz {x:Operand} (di:pR ρ lam ev e) (h:bj E (.assign x) ev=some d):gv E ρ lam w ⟨dst,.assign x,type,jr,after,guard⟩ e (if d.c=true then d.x else d.y):=by
 simp only[bj] at h;split at h
 ·rename_i y hy;cases h;exact⟨e x,rfl,di x y hy⟩
 ·cases h
theorem LA {c a b:Operand} (di:pR ρ lam ev e) (h:bj E (.pick c a b) ev=some d):gv E ρ lam w ⟨dst,.pick c a b,type,jr,after,guard⟩ e (if d.c=true then d.x else d.y):=by
 simp only[bj] at h;split at h
 ·rename_i t hc;have rW:=(di.tv hc).Dh;have hrun:(execOp e ⟨dst,.pick c a b,type,jr,after,guard⟩).run E.P w=.ok (.value (if t=true then e a else e b)) w:=by simp [execOp,asBool,rW]
  split at h
  ·rename_i x y ha hb;cases h;refine⟨_,hrun, ?_⟩;simp only[fS.one,if_true];cases t
   ·exact .v (di.tv hb)
   ·exact .v (di.tv ha)
  ·cases t with
   |true=>
    simp only[] at h;split at h
    ·rename_i y hy;cases h;exact⟨_,hrun,di _ _ hy⟩
    ·cases h
   |false=>
    simp only[] at h;split at h
    ·rename_i y hy;cases h;exact⟨_,hrun,di _ _ hy⟩
    ·cases h
 ·cases h
theorem UI {op:BinOp} {t:TypeId} {nils:Bool} {a b:V} {r:Bool} {v:V} (h:UG E op t nils a b=some (r,v)) (hr:r=true):CU E op t nils a b=some (r,v):=by
 unfold UG at h;split at h
 ·split at h
  ·have key:∀{r x},Jq E t a=some (r,x)→r=true→iQ E t true a .nilIface=some (r,x):=by
    intro r x he hr;unfold Jq at he;split at he
    ·rename_i hk;simp only[some.injEq,Prod.mk.injEq] at he;obtain⟨rfl,rfl⟩:=he;cases a<;>simp_all [V.ax,iQ]
    ·cases he
   split at h
   ·split at h
    ·rename_i r' b' he;simp only[some.injEq,Prod.mk.injEq] at h;obtain⟨rfl,rfl⟩:=h;have:=key he hr;cases a<;>simp_all [CU]
    ·cases h
   ·split at h
    ·rename_i r' b' he;simp only[some.injEq,Prod.mk.injEq] at h;obtain⟨rfl,rfl⟩:=h;have:=key he hr;cases a<;>simp_all [CU]
    ·cases h
   ·cases h
  ·exact h
 ·have key:∀{r x},CV E t a=some (r,x)→iQ E t nils a .nilFunc=some (r,x):=by
   intro r x he;unfold CV at he;split at he
   ·rename_i hk;cases a<;>simp_all [V.ax,iQ]
   ·cases he
  split at h
  ·split at h
   ·rename_i r' b' he;simp only[some.injEq,Prod.mk.injEq] at h;obtain⟨rfl,rfl⟩:=h;have:=key he;cases a<;>simp_all [CU]
   ·cases h
  ·split at h
   ·rename_i r' b' he;simp only[some.injEq,Prod.mk.injEq] at h;obtain⟨rfl,rfl⟩:=h;have:=key he;cases a<;>simp_all [CU]
   ·cases h
  ·cases h
 ·exact h
theorem NU {op:BinOp} {t yt:TypeId} {x y:Operand} (di:pR ρ lam ev e) (h:bj E (.binOp op t x y yt) ev=some d) (hr:d.rq=true):gv E ρ lam w ⟨dst,.binOp op t x y yt,type,jr,after,guard⟩ e (if d.c=true then d.x else d.y):=by
 simp only[bj] at h;split at h
 ·rename_i a b ha hb;unfold Bt at h;split at h
  ·rename_i r v hv;cases h;obtain⟨v',h1,h2,h3⟩:=Ly (w:=w) (x:=x) AW (di.v ha) (di.v hb) (UI hv hr) hr;exact⟨v',by simp [execOp,h1,h2],.v h3⟩
  ·cases h
 ·cases h
theorem RN {op:UnOp} {t:TypeId} {x:Operand} (di:pR ρ lam ev e) (h:bj E (.unOp op t x) ev=some d):gv E ρ lam w ⟨dst,.unOp op t x,type,jr,after,guard⟩ e (if d.c=true then d.x else d.y):=by
 simp only[bj] at h;split at h
 ·rename_i a ha;split at h
  ·rename_i v hv;cases h;obtain⟨v',h1,h2⟩:=NT (E:=E) (w:=w) (di.v ha) hv;exact⟨v',by simp [execOp,h1],.v h2⟩
  ·cases h
 ·cases h
theorem Dk {s t:TypeId} {x:Operand} (di:pR ρ lam ev e) (h:bj E (.convert s t x) ev=some d):gv E ρ lam w ⟨dst,.convert s t x,type,jr,after,guard⟩ e (if d.c=true then d.x else d.y):=by
 simp only[bj] at h;split at h
 ·rename_i ti k k' n nj hk hx;obtain⟨ds,hds,_⟩:=dP nj;obtain⟨dt,hu,hd⟩:=bR hk;cases h;cases dt<;>simp [bw,cU] at hd
  subst hd;refine⟨_, ?_,.v (.int _ _)⟩;simp [execOp,convert,run_underlying hds,run_underlying hu,(di.v hx).iy,Conv.intToInt]
 ·rename_i ti s' nj hk hx;obtain⟨ds,hds,_⟩:=dP nj;obtain⟨dt,hu,hd⟩:=bR hk;cases h;cases dt<;>simp [bw,cU] at hd
  exact⟨.string s',by simp [execOp,convert,run_underlying hds,run_underlying hu,(di.v hx).vL],.v (.cL _)⟩
 ·rename_i ti k' n nj hk hx;obtain⟨ds,hds,_⟩:=dP nj;obtain⟨dt,hu,hd⟩:=bR hk;cases h;cases dt<;>simp [bw,cU] at hd
  exact⟨.string (Utf8.encode n),by simp [execOp,convert,run_underlying hds,run_underlying hu,(di.v hx).iy,Conv.intToString],.v (.cL _)⟩
 ·cases h
theorem AX {x:Operand} (di:pR ρ lam ev e) (h:bj E (.nilCheck x) ev=some d) (hr:d.rq=true):gv E ρ lam w ⟨dst,.nilCheck x,type,jr,after,guard⟩ e (if d.c=true then d.x else d.y):=by
 simp only[bj] at h;split at h
 ·rename_i p hp;cases h;have:=Fy (p:=p) hr;rw[this] at hp;obtain⟨b,hb,he⟩:=(di.tv hp).vM;exact⟨.pointer (some ⟨b,(p.getD (0,0)).2,none⟩),by simp [execOp,he],.v (.ay hb)⟩
 ·rename_i s off hx;cases h;obtain⟨b,hb,he⟩:=di.lp hx;exact⟨.pointer (some ⟨b,off,none⟩),by simp [execOp,he],.lp hb⟩
 ·cases h
theorem yP {t:TypeId} {x:Operand} {f:Nat} (di:pR ρ lam ev e) (h:bj E (.fieldAddr t x f) ev=some d):gv E ρ lam w ⟨dst,.fieldAddr t x f,type,jr,after,guard⟩ e (if d.c=true then d.x else d.y):=by
 simp only[bj] at h;split at h
 ·rename_i o ft hf;obtain⟨fs,fd,hu,HB,ho,hft⟩:=yN hf;split at h
  ·rename_i n hn;cases hz:sF n
   ·simp [hz] at h
   ·simp only[hz,cond_true] at h;have hn0:¬n=0:=by rintro rfl;simp [sF] at hz
    have key:∀b off,(Instr.fieldAt t (.pointer (some ⟨b,off,none⟩)) f).run E.P w=.ok (.pointer (some ⟨b,off+o,none⟩)) w:=by
     intro b off;simp [Instr.fieldAt,run_underlying hu,HB,Instr.sureAddr,fieldPlace,hft,fl hn,hn0,gb,ho]
    split at h
    ·rename_i id off hx;cases h;obtain⟨b,hb,he⟩:=(di.tv hx).vM;exact⟨.pointer (some ⟨b,off+o,none⟩),by simp [execOp,he,key],.v (.ay hb)⟩
    ·rename_i s off hx;cases h;obtain⟨b,hb,he⟩:=di.lp hx;exact⟨.pointer (some ⟨b,off+o,none⟩),by simp [execOp,he,key],.lp hb⟩
    ·cases h
  ·cases h
 ·cases h
theorem HN {t:TypeId} {x:Operand} {f:Nat} (di:pR ρ lam ev e) (h:bj E (.field t x f) ev=some d) (hr:d.rq=true):gv E ρ lam w ⟨dst,.field t x f,type,jr,after,guard⟩ e (if d.c=true then d.x else d.y):=by
 simp only[bj] at h;split at h
 ·rename_i o ft cs hf hx;obtain⟨fs,fd,hu,HB,ho,hft⟩:=yN hf;unfold Bt at h;split at h
  ·rename_i r v hv;cases h;obtain⟨cs',he,hcs,h1c⟩:=(di.v hx).oC;obtain⟨v',h1,h2⟩:=yL hv hr h1c hcs w;exact⟨v',by simp [execOp,Instr.field,run_underlying hu,HB,he,asAgg,ho,hft,h1],.v h2⟩
  ·cases h
 ·cases h
theorem yQ {t:TypeId} {x i:Operand} (di:pR ρ lam ev e) (h:bj E (.indexAddr t x i) ev=some d) (hr:d.rq=true):gv E ρ lam w ⟨dst,.indexAddr t x i,type,jr,after,guard⟩ e (if d.c=true then d.x else d.y):=by
 simp only[bj] at h;split at h
 ·rename_i n ti hn nj;obtain⟨k,hi⟩:=sO di hn;obtain⟨dt,hu,hd⟩:=dP nj;split at h
  ·rename_i len el hs;rw[hs] at hd;cases uo hd;split at h
   ·rename_i sz id off hsz hx;cases h;simp only[fS.one,Bool.and_eq_true,decide_eq_true_eq] at hr;obtain⟨b,hb,he⟩:=(di.tv hx).vM;exact⟨.pointer (some ⟨b,off+n.toNat*sz,none⟩),by simp [execOp,Instr.indexAt,hi,asIntOf,run_underlying hu,he,Instr.sureAddr,hr,fl hsz,gb],.v (.ay hb)⟩
   ·rename_i sz s off hsz hx;cases h;simp only[fS.one,Bool.and_eq_true,decide_eq_true_eq] at hr;obtain⟨b,hb,he⟩:=di.lp hx;exact⟨.pointer (some ⟨b,off+n.toNat*sz,none⟩),by simp [execOp,Instr.indexAt,hi,asIntOf,run_underlying hu,he,Instr.sureAddr,hr,fl hsz,gb],.lp hb⟩
   ·cases h
  ·rename_i el hs;rw[hs] at hd;cases iz hd;split at h
   ·rename_i sz p len _ hsz hx;cases h;simp only[fS.one,Bool.and_eq_true,decide_eq_true_eq] at hr;rw[Fy hr.2] at hx;rcases (di.tv hx).fj with⟨b,hb,he⟩|⟨h0,_,_⟩;rotate_left
    ·omega
    exact⟨.pointer (some ⟨b,(p.getD (0,0)).2+n.toNat*sz,none⟩),by simp [execOp,Instr.indexAt,hi,asIntOf,run_underlying hu,he,hr.1,fl hsz,gb],.v (.ay hb)⟩
   ·cases h
  ·cases h
 ·cases h
theorem HO {t:TypeId} {x i:Operand} (di:pR ρ lam ev e) (h:bj E (.index t x i) ev=some d) (hr:d.rq=true):gv E ρ lam w ⟨dst,.index t x i,type,jr,after,guard⟩ e (if d.c=true then d.x else d.y):=by
 simp only[bj] at h;split at h
 ·rename_i n ti v hn nj hx;obtain⟨k,hi⟩:=sO di hn;obtain⟨dt,hu,hd⟩:=dP nj;split at h
  ·rename_i len el cs hs;rw[hs] at hd;cases uo hd;split at h
   ·rename_i sz hsz;split at h
    ·rename_i r y hp;cases h;simp only[fS.one,Bool.and_eq_true,decide_eq_true_eq] at hr;obtain⟨cs',he,hcs,h1c⟩:=(di.v hx).oC;obtain⟨v',h1,h2⟩:=yL hp hr.2 h1c hcs w;exact⟨v',by simp [execOp,Instr.index,hi,asIntOf,run_underlying hu,he,hr.1,fl hsz,h1],.v h2⟩
    ·cases h
   ·cases h
  ·rename_i s hs;rw[hs] at hd;cases Fw hd;cases h;simp only[fS.one,Bool.and_eq_true,decide_eq_true_eq] at hr;have hlt:n.toNat<s.size:=by omega
   refine⟨.int .u8 s[n.toNat].toNat, ?_, ?_⟩
   ·simp [execOp,Instr.index,hi,asIntOf,run_underlying hu,(di.v hx).vL,hr.1,getElem?_pos s n.toNat hlt]
   ·have:HE s n.toNat=(s[n.toNat].toNat:Int):=by
     have hl:n.toNat<s.data.toList.length:=by simpa using hlt
     simp only[HE,getD_eq_getElem?_getD,List.getElem?_eq_getElem hl,getD_some];rfl
    simp only[if_true,fS.one,this];exact .v (.int _ _)
  ·cases h
 ·cases h
end
section
variable {E:kG} {ρ lam:dK} {w:World}
variable {dst:Option Tmp} {type:TypeId} {jr:String} {after:Array Edge} {guard:Option (Nat×Bool)} {ev:Ev} {e:Operand→Value} {d:fS T}
theorem oF {p:Oq} {len cap:Nat} {x:Value} (h:VR ρ (.slice p len cap) x):∃a:Option Addr,x=.slice a len cap∧∀n l c,(len=0→cap=0→l=0∧c=0)→VR ρ (.slice (bT p n) l c) (.slice (a.map (·.add n)) l c)∧VR ρ (.slice p l c) (.slice a l c):=by
 cases p with
 |none=>exact⟨none,h.lK,fun n l c _=>⟨.nC l c,.nC l c⟩⟩
 |some q=>
  obtain⟨id,off⟩:=q;rcases h.fj with⟨b,hb,hx⟩|⟨h0,h1,a,hx⟩
  ·exact⟨_,hx,fun n l c _=>⟨by simp only[bT,map_some,gb];exact .slice l c hb,.slice l c hb⟩⟩
  ·subst h0 h1;refine⟨_,hx,fun n l c hz=> ?_⟩;obtain⟨rfl,rfl⟩:=hz rfl rfl;exact⟨.pQ _ _,.pQ _ _⟩
theorem FA {ev:Ev} {lo hi mx:Option Operand} {r:Bool} {l h m:Nat} (hb:gx ev 0 0 lo hi mx=some (r,l,h,m)) (hr:r=true):h-l=0∧m-l=0:=by
 unfold gx at hb;cases hq:(hi.isNone&&mx.isSome)
 ·simp only[hq,cond_false] at hb;split at hb
  ·rename_i m1 hm;split at hb
   ·rename_i h1 hh;split at hb
    ·rename_i l1 hl;simp only[some.injEq,Prod.mk.injEq] at hb;obtain⟨CL,rfl,rfl,rfl⟩:=hb;rw[hr] at CL;simp only[Bool.and_eq_true] at CL
     have key:∀{x:Option Operand} {d most:Nat} {q:Bool×Nat},mT ev x d most=some q→q.1=true→q.2=d∨q.2≤most:=by
      intro x d most q hx hq;unfold mT at hx;split at hx
      ·cases hx;exact .inl rfl
      ·split at hx
       ·cases hx;simp only[Bool.and_eq_true,decide_eq_true_eq] at hq;exact .inr (by simp only;omega)
       ·cases hx
     have k1:=key hm CL.1.1;have k2:=key hh CL.1.2;omega
    ·cases hb
   ·cases hb
  ·cases hb
 ·simp [hq] at hb
theorem HP {t:TypeId} {x:Operand} {lo hi mx:Option Operand} (di:pR ρ lam ev e) (h:bj E (.slice t x lo hi mx) ev=some d) (hr:d.rq=true):gv E ρ lam w ⟨dst,.slice t x lo hi mx,type,jr,after,guard⟩ e (if d.c=true then d.x else d.y):=by
 simp only[bj] at h;split at h
 ·rename_i ti s nj hx;obtain⟨dt,hu,hd⟩:=dP nj;split at h
  ·rename_i hs;rw[hs] at hd;cases Fw hd;split at h
   ·rename_i r l hh m hb;cases h;have hb':=oE (E:=E) (isS:=false) di hb hr w;simp only[map_none] at hb';exact⟨.string (s.extract l hh),by simp [execOp,Instr.sliceAt,Instr.slice,run_underlying hu,(di.tv hx).vL,hb'],.v (.cL _)⟩
   ·cases h
  ·cases h
 ·rename_i ti p len cap nj hx;obtain⟨dt,hu,hd⟩:=dP nj;split at h
  ·rename_i el hs;rw[hs] at hd;cases iz hd;split at h
   ·rename_i r l hh m sz hb hsz;cases h;simp only[fS.one,Bool.and_eq_true] at hr;have hle:=Nat.le_of_ble_eq_true hr.2;have hb':=oE (E:=E) (isS:=true) di hb hr.1 w;obtain⟨a,he,hv⟩:=oF (di.tv hx);obtain⟨h1,h2⟩:=hv (l*sz) (hh-l) (m-l) (fun h0 h1=>by subst h0 h1;exact FA hb hr.1);refine⟨.slice (if m=l then a else a.map (·.add (l*sz))) (hh-l) (m-l),by simp [execOp,Instr.sliceAt,Instr.slice,run_underlying hu,he,hb',fl hsz], ?_⟩;simp only[fS.one,if_true];by_cases hml:m=l
    ·rw[if_pos hml];have e1:hh-l=0:=by omega
     have e2:m-l=0:=by omega
     rw[e1,e2] at h2⊢
     cases p with
     |none=>exact .v h2
     |some q=>
      obtain⟨id,off⟩:=q
      cases a with
      |none=>cases h2
      |some a=>exact .v (.pQ _ _)
    ·rw[if_neg hml];exact .v h1
   ·cases h
  ·cases h
 ·rename_i ti id off nj hx;obtain⟨dt,hu,hd⟩:=dP nj;split at h
  ·rename_i n el hs;rw[hs] at hd;cases uo hd;split at h
   ·rename_i r l hh m sz hb hsz;cases h;simp only[fS.one,Bool.and_eq_true] at hr;have hle:=Nat.le_of_ble_eq_true hr.2;have hb':=oE (E:=E) (isS:=false) di hb hr.1 w;obtain⟨b,yk,he⟩:=(di.tv hx).vM;refine⟨.slice (some (if m=l then ⟨b,off,none⟩ else ⟨b,off+l*sz,none⟩)) (hh-l) (m-l),by simp [execOp,Instr.sliceAt,run_underlying hu,he,Instr.sureAddr,hb',fl hsz,gb], ?_⟩;simp only[fS.one,if_true];by_cases hml:m=l
    ·have e1:hh-l=0:=by omega
     have e2:m-l=0:=by omega
     rw[e1,e2];exact .v (.pQ _ _)
    ·rw[if_neg hml];exact .v (.slice _ _ yk)
   ·cases h
  ·cases h
 ·cases h
theorem sP {t:TypeId} {x:Operand} (di:pR ρ lam ev e) (h:bj E (.makeInterface t x) ev=some d):gv E ρ lam w ⟨dst,.makeInterface t x,type,jr,after,guard⟩ e (if d.c=true then d.x else d.y):=by
 simp only[bj] at h;split at h
 ·cases h
 ·rename_i v hx hk;split at h
  ·rename_i ti nj;cases h;obtain⟨dt,hu,hd⟩:=dP nj
   have hni:∀ms,dt≠ .interface ms:=by
    rintro ms rfl;apply hk;simp [bq,nj, ←hd,bw,cU]
   refine⟨.iface t (e x), ?_,.v (.iface t (di.v hx))⟩;cases dt<;>simp [execOp,Instr.makeInterface,run_underlying hu]
   exact(hni _ rfl).elim
  ·cases h
 ·cases h
theorem AY {f:Fn} {first dO:Array Operand} (di:pR ρ lam ev e) (h:bj E (.makeFunc f first dO) ev=some d):gv E ρ lam w ⟨dst,.makeFunc f first dO,type,jr,after,guard⟩ e (if d.c=true then d.x else d.y):=by
 cases f with
 |func f=>
  simp only[bj] at h;split at h
  ·rename_i hf;split at h
   ·rename_i cs hc;cases h;have h1:first= #[]:=by apply Array.ext';simpa using hf
    refine⟨.func (.func f) #[] (dO.map e),by simp [execOp,Instr.makeFunc,h1],.v (.Jt ?_)⟩;simpa using di.vs hc
   ·cases h
  ·rename_i x l hf hcap;split at h
   ·rename_i cs hc;cases h;have h1:dO= #[]:=by apply Array.ext';simpa using hcap
    refine⟨.func (.func f) (first.map e) #[],by simp [execOp,Instr.makeFunc,h1],.v (.RJ ?_)⟩;rw[Array.toList_map,hf];exact di.vs hc
   ·cases h
  ·cases h
 |_=>simp [bj] at h
theorem Dl {x:Operand} {i:Nat} (di:pR ρ lam ev e) (h:bj E (.extract x i) ev=some d):gv E ρ lam w ⟨dst,.extract x i,type,jr,after,guard⟩ e (if d.c=true then d.x else d.y):=by
 simp only[bj] at h;split at h
 ·rename_i vs hx;split at h
  ·rename_i v hv;cases h;obtain⟨vs',he,hvs⟩:=(di.v hx).Lv
   have hlt:i<vs.length:=by
    rcases Nat.lt_or_ge i vs.length with h|h
    ·exact h
    ·rw[List.getElem?_eq_none h] at hv;cases hv
   have hlt':i<vs'.size:=by have:=hvs.1;simp at this;omega
   refine⟨vs'[i],by simp [execOp,Instr.extract,he,Array.getElem?_eq_getElem hlt'],.v (hvs.2 i _ _ hv ?_)⟩;simp [Array.getElem?_eq_getElem hlt']
  ·cases h
 ·cases h
theorem xx {x:Operand} {xt t:TypeId} {ok:Bool} (di:pR ρ lam ev e) (h:bj E (.typeAssert x xt t ok) ev=some d) (hr:d.rq=true):gv E ρ lam w ⟨dst,.typeAssert x xt t ok,type,jr,after,guard⟩ e (if d.c=true then d.x else d.y):=by
 simp only[bj] at h;split at h
 ·rename_i v ti hx nj;obtain⟨dC,dt,hi,hu,hd,_,_,hz⟩:=jR nj;split at h
  ·cases h
  ·rename_i hni;split at h
   ·rename_i r y z hy Lj;rw[Lj] at hz;obtain⟨z',EO,yl⟩:=bind_eq_some_iff.1 hz;have hzero:(zeroValue t).run E.P w=.ok z' w:=by simp [zeroValue,typeInfo,hi,EO]
    have hint:∀ms,dt≠ .interface ms:=by
     rintro ms rfl;exact hni (by rw[←hd];rfl)
    have hv:=di.v hx
    have key:v.ax .iface=true→(v.fu=true∧v=.nilIface)∨∃t' u,v=.iface t' u:=by
     intro hk;cases v<;>simp_all [V.ax,V.fu]
    cases ok with
    |true=>
     cases h;simp only[Bool.and_eq_true,Bool.or_eq_true,Bool.not_eq_true'] at hr;rcases key hr.1 with⟨_,rfl⟩|⟨t',u,rfl⟩
     ·have he:e x=.nilIface:=by generalize e x=q at hv;cases hv;rfl
      refine⟨.tuple #[z',.bool false], ?_, ?_⟩
      ·cases dt<;>first|(exact(hint _ rfl).elim)|simp [execOp,Instr.typeAssert,run_underlying hu,he,hzero]
      ·simp only[V.fu,Bool.not_true,Bool.false_and,Bool.false_eq_true,if_false];exact .v (.gF (.cons (iF yl) (.cons (.bool _) (.nil ρ))))
     ·obtain⟨u',he,hu'⟩:∃u',e x=.iface t' u'∧VR ρ u u':=by generalize e x=q at hv;cases hv with|iface _ h=>exact⟨_,rfl,h⟩
      by_cases ht:t'=t
      ·subst ht;have xN:r=true:=by simpa [V.fu,V.CT,Nat.beq_refl] using hr.2
       have:=lN hy xN;refine⟨.tuple #[u',.bool true], ?_, ?_⟩
       ·cases dt<;>first|(exact(hint _ rfl).elim)|simp [execOp,Instr.typeAssert,run_underlying hu,he]
       ·simp only[V.fu,V.CT,Nat.beq_refl,Bool.not_false,Bool.true_and,if_true,this,V.Ny];exact .v (.gF (.cons hu' (.cons (.bool _) (.nil ρ))))
      ·have hb:Nat.beq t' t=false:=by rw[aY];simpa using ht
       refine⟨.tuple #[z',.bool false], ?_, ?_⟩
       ·cases dt<;>first|(exact(hint _ rfl).elim)|simp [execOp,Instr.typeAssert,run_underlying hu,he,ht,hzero]
       ·simp only[V.fu,V.CT,hb,Bool.and_false,Bool.false_eq_true,if_false];exact .v (.gF (.cons (iF yl) (.cons (.bool _) (.nil ρ))))
    |false=>
     cases h;simp only[fS.one,Bool.and_eq_true,Bool.not_eq_true'] at hr;rcases key hr.1.1 with⟨h1,rfl⟩|⟨t',u,rfl⟩
     ·rw[hr.1.2.1] at h1;cases h1
     ·obtain⟨u',he,hu'⟩:∃u',e x=.iface t' u'∧VR ρ u u':=by generalize e x=q at hv;cases hv with|iface _ h=>exact⟨_,rfl,h⟩
      have ht:t'=t:=Nat.eq_of_beq_eq_true hr.1.2.2;subst ht;have:=lN hy hr.2;refine⟨u', ?_, ?_⟩
      ·cases dt<;>first|(exact(hint _ rfl).elim)|simp [execOp,Instr.typeAssert,run_underlying hu,he]
      ·simp only[fS.one,if_true,this,V.Ny];exact .v hu'
   ·cases h
 ·cases h
theorem LB {c:Call} (di:pR ρ lam ev e) (h:bj E (.call c) ev=some d):gv E ρ lam w ⟨dst,.call c,type,jr,after,guard⟩ e (if d.c=true then d.x else d.y):=by
 simp only[bj] at h;split at h
 ·rename_i b hb;split at h
  ·rename_i vs t hvs ht0;have ht:c.argTypes[0]? =some t:=by simpa using ht0
   have Hj:=di.vs hvs;obtain⟨aS,has⟩:∃aS,c.args.toList.map e=aS:=⟨_,rfl⟩;rw[has] at Hj;have hargs:c.args.map e=aS.toArray:=by apply Array.ext';simp [has]
   have hrun:∀v,(∀con,(builtin b c.argTypes type con aS.toArray).run E.P w=.ok (.value v) w)→(execOp e ⟨dst,.call c,type,jr,after,guard⟩).run E.P w=.ok (.value v) w:=by
    intro v hv;simp [execOp,resolve,hb,invoke,hargs,hv]
   unfold E9 at h;split at h
   ·split at h
    ·rename_i s _ hk;obtain⟨dt,hu,hd⟩:=bR hk;cases h;obtain⟨y,m,rfl,h1,h2⟩:=Hj.dB;have:=h2.gu;subst this;cases dt<;>simp [bw,cU] at hd
     exact⟨.int .i64 (s.size:Int),hrun _ fun con=>by simp [builtin,Builtin.len_,ht,run_underlying hu,h1.vL,goInt],.v (.int _ _)⟩
    ·cases h
   ·split at h
    ·rename_i p n cp _ hk;obtain⟨dt,hu,hd⟩:=bR hk;cases h;obtain⟨y,m,rfl,h1,h2⟩:=Hj.dB;have:=h2.gu;subst this;obtain⟨a,rfl,_⟩:=oF h1;cases dt<;>simp [bw,cU] at hd
     exact⟨.int .i64 (n:Int),hrun _ fun con=>by simp [builtin,Builtin.len_,ht,run_underlying hu,goInt],.v (.int _ _)⟩
    ·cases h
   ·split at h
    ·rename_i p n cp _ hk;obtain⟨dt,hu,hd⟩:=bR hk;cases h;obtain⟨y,m,rfl,h1,h2⟩:=Hj.dB;have:=h2.gu;subst this;obtain⟨a,rfl,_⟩:=oF h1;cases dt<;>simp [bw,cU] at hd
     exact⟨.int .i64 (cp:Int),hrun _ fun con=>by simp [builtin,Builtin.cap_,ht,run_underlying hu,goInt],.v (.int _ _)⟩
    ·cases h
   ·split at h
    ·rename_i v hv;cases h;unfold xR at hv;split at hv
     ·cases hv;obtain⟨y,m,rfl,h1,h2⟩:=Hj.dB;have:=h2.gu;subst this;exact⟨y,hrun _ fun con=>by simp [builtin,Builtin.min_],.v h1⟩
     ·rename_i k x k' y;by_cases hk:k=k'
      ·simp only[hk,nk,decide_true,cond_true,cond_false,some.injEq] at hv;subst hv;obtain⟨p,m,rfl,h1,h2⟩:=Hj.dB;obtain⟨q,m,rfl,h3,h4⟩:=h2.dB;have:=h4.gu;subst this;refine⟨.int k' (if y<x then y else x),hrun _ fun con=>by simp [builtin,Builtin.min_,h1.iy,h3.iy,Builtin.min2,hk],.v ?_⟩;rw[Dj];simpa using VR.int k' _
      ·simp [hk] at hv
     ·cases hv
    ·cases h
   ·split at h
    ·rename_i v hv;cases h;unfold xR at hv;split at hv
     ·cases hv;obtain⟨y,m,rfl,h1,h2⟩:=Hj.dB;have:=h2.gu;subst this;exact⟨y,hrun _ fun con=>by simp [builtin,Builtin.max_],.v h1⟩
     ·rename_i k x k' y;by_cases hk:k=k'
      ·simp only[hk,nk,decide_true,cond_true,some.injEq] at hv;subst hv;obtain⟨p,m,rfl,h1,h2⟩:=Hj.dB;obtain⟨q,m,rfl,h3,h4⟩:=h2.dB;have:=h4.gu;subst this;refine⟨.int k' (if y>x then y else x),hrun _ fun con=>by simp [builtin,Builtin.max_,h1.iy,h3.iy,Builtin.max2,hk],.v ?_⟩;rw[Dj];simpa using VR.int k' _
      ·simp [hk] at hv
     ·cases hv
    ·cases h
   ·cases h
  ·cases h
 ·cases h
end
def iW:List Value→Nat→List Value→List Value
 |cs,_,[]=>cs
 |cs,off,v::vs=>iW (cs.set off v) (off+1) vs
theorem pS {ρ:dK}:∀{vs:List V} {us:List Value} {cs:List V} {cs':List Value} {off:Nat},eU ρ vs us→eU ρ cs cs'→eU ρ (bH cs off vs) (iW cs' off us)
 |[],us,cs,cs',off,h,hc=>by rw[h.gu];exact hc
 |v::vs,us,cs,cs',off,h,hc=>by
  obtain⟨u,m,rfl,h1,h2⟩:=h.dB;have:=pS (off:=off+1) h2 (Fv (off:=off) h1 hc);exact this
theorem o9:∀(us:List Value) (cs:List Value) (off:Nat),(iW cs off us).length=cs.length
 |[],_,_=>rfl
 |u::us,cs,off=>by rw[iW,o9 us];simp
theorem BC (off:Nat):∀(us:List Value) (k:Nat) (cells:Array Value),((us.zipIdx k).foldl (fun(cs:Array Value) (p:Value×Nat)=>cs.setIfInBounds (off+p.2) p.1) cells).toList=iW cells.toList (off+k) us
 |[],_,_=>rfl
 |u::us,k,cells=>by
  rw[zipIdx_cons,foldl_cons,BC off us (k+1),iW];simp [Nat.add_assoc]
theorem HQ (off:Nat) (us cells:Array Value):(us.zipIdx.foldl (fun(cs:Array Value) (p:Value×Nat)=>cs.setIfInBounds (off+p.2) p.1) cells).toList=iW cells.toList off us.toList:=by
 rw[←Array.foldl_toList];have:=BC off us.toList 0 cells;simpa using this
section
variable {E:kG} {ρ lam:dK} {w:World}
theorem FB {v:V} (hv:v.one=true):∀{cs:List V} {j n:Nat},bn cs→bn (yn cs j n v)
 |[],_,_,h=>h
 |c::cs,j,n,h=>by
  intro x hx;rw[yn,nn] at hx;rcases mem_cons.1 hx with rfl|hx
  ·split
   ·exact hv
   ·exact h c (mem_cons_self ..)
  ·exact FB hv (fun y hy=>h y (mem_cons_of_mem _ hy)) x hx
theorem mE:∀{vs cs:List V} {off:Nat},bn vs→bn cs→bn (bH cs off vs)
 |[],_,_,_,h=>h
 |v::vs,cs,off,hv,h=>by
  have:=mE (vs:=vs) (off:=off+1) (fun y hy=>hv y (mem_cons_of_mem _ hy)) (FB (n:=off) (j:=0) (hv v (mem_cons_self ..)) h);exact this
theorem iX {t:TypeId} {v:V} {x:Value} {r:Bool} {vs:List V} (hv:VR ρ v x) (h:hZ E t v=some (r,vs)) (hr:r=true):eU ρ vs x.cells.toList∧bn vs:=by
 unfold hZ at h;split at h
 ·cases h
 ·rename_i n hn;split at h
  ·rename_i k hk;cases hb:Nat.beq n 1
   ·simp [hb] at h
   ·simp only[hb,cond_true,some.injEq,Prod.mk.injEq] at h;obtain⟨h1,rfl⟩:=h;have h1:=V.sy (h1.trans hr);have h2:v.cells=[v]:=by cases v<;>first|rfl|simp [V.one] at h1
    refine⟨h2▸hv.cells (fun e=>by rw[e] at h1;cases h1),fun c hc=> ?_⟩;simp only[mem_singleton] at hc;subst hc;exact h1
  ·split at h
   ·split at h
    ·simp only[some.injEq,Prod.mk.injEq] at h;obtain⟨h1,rfl⟩:=h;obtain⟨cs',rfl,h2,h3⟩:=hv.oC;exact⟨h2,h3⟩
    ·cases h
   ·cases h
theorem AZ {t:TypeId} {v:V} {r:Bool} {vs:List V} (h:hZ E t v=some (r,vs)) (hr:r=true):size E t=some vs.length:=by
 unfold hZ at h;split at h
 ·cases h
 ·rename_i n hn;rw[hn];split at h
  ·cases hb:Nat.beq n 1
   ·simp [hb] at h
   ·simp only[hb,cond_true,some.injEq,Prod.mk.injEq] at h;rw[←h.2,Nat.eq_of_beq_eq_true hb];rfl
  ·split at h
   ·split at h
    ·simp only[some.injEq,Prod.mk.injEq] at h;rw[←h.2,Nat.eq_of_beq_eq_true (h.1.trans hr)]
    ·cases h
   ·cases h
theorem oG {place:Nat→Option (Nat×TypeId)} {place':Nat→Oq} (abk:∀i off t n,place i=some (off,t)→size E t=some n→place' i=some (off,n)):∀{ps:List (Nat×V)} {ps':List (Nat×Value)} {cs out:List V} {cs':Array Value} {r:Bool},ps.map (·.1)=ps'.map (·.1)→eU ρ (ps.map (·.2)) (ps'.map (·.2))→eU ρ cs cs'.toList→bn cs→qL E place cs ps=some (r,out)→r=true→∃out',Instr.fill place' cs' ps'=some out'∧eU ρ out out'.toList∧bn out
 |[],ps',cs,out,cs',r,h1,h2,hc,ho,h,hr=>by
  cases ps' with
  |nil=>simp only[qL,some.injEq,Prod.mk.injEq] at h;obtain⟨_,rfl⟩:=h;exact⟨cs',rfl,hc,ho⟩
  |cons p l=>simp at h1
 |(i,v)::ps,ps',cs,out,cs',r,h1,h2,hc,ho,h,hr=>by
  cases ps' with
  |nil=>simp at h1
  |cons p l=>
   obtain⟨j,u⟩:=p;simp only[map_cons,List.cons.injEq] at h1 h2;obtain⟨rfl,h1⟩:=h1;obtain⟨u',m,he,hu,hm⟩:=h2.dB;simp only[List.cons.injEq] at he;obtain⟨rfl,rfl⟩:=he;simp only[qL] at h;split at h
   ·cases h
   ·rename_i off t wN;split at h
    ·rename_i r1 vs n W9 hsz;cases hb:(Nat.beq vs.length n&&Nat.ble (off+n) cs.length)
     ·simp [hb] at h
     ·simp only[hb,cond_true] at h;split at h
      ·rename_i r2 cs2 og;simp only[some.injEq,Prod.mk.injEq] at h;obtain⟨CL,rfl⟩:=h;rw[hr,Bool.and_eq_true] at CL;rw[Bool.and_eq_true] at hb;have ym:vs.length=n:=Nat.eq_of_beq_eq_true hb.1;have nh:off+n≤cs.length:=Nat.le_of_ble_eq_true hb.2;obtain⟨hvs,hone⟩:=iX hu W9 CL.1;have rO:u.cells.size=n:=by have:=hvs.1;simp at this;omega
       have hcs:cs'.size=cs.length:=by have:=hc.1;simp at this;omega
       obtain⟨out',h3,h4,h5⟩:=oG abk (cs':=u.cells.zipIdx.foldl (fun(cs:Array Value) (p:Value×Nat)=>cs.setIfInBounds (off+p.2) p.1) cs') h1 hm
        (by rw[HQ];exact pS hvs hc) (mE hone ho) og CL.2
       refine⟨out', ?_,h4,h5⟩;simp only[Instr.fill,abk _ _ _ _ wN hsz];rw[if_neg (by simp [rO,hcs];omega)];exact h3
      ·cases h
    ·cases h
theorem mY {ev:Ev} {e:Operand→Value} (di:pR ρ lam ev e):∀{l:List (Nat×Operand)} {ps:List (Nat×V)},kU ev l=some ps→ps.map (·.1)=(l.map fun p=>(p.1,e p.2)).map (·.1)∧eU ρ (ps.map (·.2)) ((l.map fun p=>(p.1,e p.2)).map (·.2))
 |[],ps,h=>by simp only[kU,some.injEq] at h;subst h;exact⟨rfl,.nil ρ⟩
 |(i,x)::l,ps,h=>by
  simp only[kU] at h;split at h
  ·rename_i y m hy hm;cases h;obtain⟨h1,h2⟩:=mY di hm;exact⟨by simp [h1],.cons (di.v hy) h2⟩
  ·cases h
theorem wX {w:World}:∀{l:List Field},tZ E (l.map fun f=>(f.offset,f.type))=true→(l.mapM fun f=>(do pure (f.offset, ←sizeOf f.type):Sem (Nat×Nat))).run E.P w=.ok (l.map fun f=>(f.offset,(size E f.type).getD 0)) w
 |[],h=>by simp
 |f::l,h=>by
  simp only[map_cons,tZ,Bool.and_eq_true] at h;obtain⟨n,hn⟩:=isSome_iff_exists.1 h.1;have ih:=wX (w:=w) h.2;simp only[mapM_cons,Sem.run_bind,fl hn,Result.andThen_ok,Sem.run_pure,ih,hn,map_cons,getD_some]
variable {dst:Option Tmp} {type:TypeId} {jr:String} {after:Array Edge} {guard:Option (Nat×Bool)} {ev:Ev} {e:Operand→Value} {d:fS T}
theorem HS {t:TypeId} {parts:Array (Nat×Operand)} (di:pR ρ lam ev e) (h:bj E (.build t parts) ev=some d) (hr:d.rq=true):gv E ρ lam w ⟨dst,.build t parts,type,jr,after,guard⟩ e (if d.c=true then d.x else d.y):=by
 simp only[bj] at h;split at h
 ·rename_i ti pl ps nj wN hps;obtain⟨dC,dt,hi,hu,hd,_,_,hz⟩:=jR nj;split at h
  ·rename_i z Lj;rw[Lj] at hz;obtain⟨z',EO,yl⟩:=bind_eq_some_iff.1 hz;have hzero:(zeroValue t).run E.P w=.ok z' w:=by simp [zeroValue,typeInfo,hi,EO]
   obtain⟨zc,rfl,Na,abl⟩:=(iF (ρ:=ρ) yl).oC;split at h
   ·rename_i r cs hcs;cases h;obtain⟨h1,h2⟩:=mY di hps;have ER:(parts.map fun p=>(p.1,e p.2)).toList=parts.toList.map fun p=>(p.1,e p.2):=by simp
    unfold Fa at wN;rw[nj] at wN;simp only[] at wN;split at wN
    ·rename_i fs hs;rw[hs] at hd;obtain⟨f,rfl,rfl⟩:=Fx hd;cases hok:tZ E (f.toList.map fun f=>(f.offset,f.type))
     ·simp [hok] at wN
     ·simp only[hok,cond_true,some.injEq] at wN;subst wN
      obtain⟨out',h3,h4,h5⟩:=oG (place':=fun j=>(f.toList.map fun f=>(f.offset,(size E f.type).getD 0))[j]?) (by
       intro i off t n hp hn;simp only[List.getElem?_map,map_eq_some_iff,Prod.mk.injEq] at hp⊢;obtain⟨fd,h1,h2,h3⟩:=hp
       exact⟨fd,h1,h2,by rw[h3,hn];rfl⟩) h1 h2 Na abl hcs hr
      refine⟨.agg out', ?_,.v (.vK h5 h4)⟩;have hm:=wX (E:=E) (w:=w) hok
      have hm':(f.mapM fun f=>(do pure (f.offset, ←sizeOf f.type):Sem (Nat×Nat))).run E.P w=.ok (f.toList.map fun f=>(f.offset,(size E f.type).getD 0)).toArray w:=by
       rw[←Array.toArray_toList (xs:=f),mapM_toArray];simp only[Sem.run_map,hm,Result.andThen_ok]
      have Uq:Instr.fill (fun x=>(f.toList.map fun f=>(f.offset,(size E f.type).getD 0)).toArray[x]?) zc (parts.map fun p=>(p.1,e p.2)).toList=some out':=by
       rw[ER, ←h3];congr 1;funext x;simp
      simp only[Instr.build,execOp,Sem.run_bind,hzero,Result.andThen_ok,run_underlying hu,hm',Value.cells];simp only[Uq,Sem.run_pure,Result.andThen_ok]
    ·rename_i n el hs;rw[hs] at hd;cases uo hd;split at wN
     ·rename_i sz hsz;cases wN
      obtain⟨out',h3,h4,h5⟩:=oG (place':=fun j=>some (j*sz,sz)) (by
       intro i off t n hp hn;simp only[some.injEq,Prod.mk.injEq] at hp⊢;obtain⟨h1,rfl⟩:=hp;rw[hsz] at hn
       exact⟨h1,Option.some.inj hn⟩) h1 h2 Na abl hcs hr
      refine⟨.agg out', ?_,.v (.vK h5 h4)⟩;rw[←ER] at h3;simp only[Instr.build,execOp,Sem.run_bind,hzero,Result.andThen_ok,run_underlying hu,fl hsz,Value.cells];simp only[h3,Sem.run_pure,Result.andThen_ok]
     ·cases wN
    ·cases wN
   ·cases h
  ·cases h
 ·cases h
theorem Dm {o:Oper} (di:pR ρ lam ev e) (h:bj E o.op ev=some d) (hr:d.rq=true):∃v,(execOp e o).run E.P w=.ok (.value v) w∧TR ρ lam (if d.c=true then d.x else d.y) v:=by
 obtain⟨dst,op,type,jr,after,guard⟩:=o
 cases op with
 |move x=>exact Lz di h
 |assign x=>exact Fz di h
 |pick c a b=>exact LA di h
 |binOp op t x y yt=>exact NU di h hr
 |unOp op t x=>exact RN di h
 |convert s t x=>exact Dk di h
 |nilCheck x=>exact AX di h hr
 |fieldAddr t x f=>exact yP di h
 |field t x f=>exact HN di h hr
 |indexAddr t x i=>exact yQ di h hr
 |index t x i=>exact HO di h hr
 |slice t x lo hi mx=>exact HP di h hr
 |makeInterface t x=>exact sP di h
 |makeFunc f first dO=>exact AY di h
 |extract x i=>exact Dl di h
 |build t parts=>exact HS di h hr
 |typeAssert x xt t ok=>exact xx di h hr
 |call c=>exact LB di h
 |_=>simp [bj] at h
end
theorem gf:∀{ks:List cA} {cs:List V},aM ks cs=true→bn cs
 |[],[],_=>fun v hv=>by cases hv
 |k::ks,v::vs,h=>by
  simp only[aM,Bool.and_eq_true] at h;intro x hx;rcases mem_cons.1 hx with rfl|hx
  ·exact V.sy h.1
  ·exact gf h.2 x hx
 |[],_::_,h=>by cases h
 |_::_,[],h=>by cases h
structure pt (b:Nat) (w w':World):Prop where
 my:∀b',b'≠b→w'.heap[b']? =w.heap[b']?
 size:w'.heap.size=w.heap.size
 os:w'.os=w.os
 tape:w'.tape=w.tape
 output:w'.output=w.output
theorem pt.refl (b:Nat) (w:World):pt b w w:=⟨fun _ _=>rfl,rfl,rfl,rfl,rfl⟩
theorem pt.trans {b:Nat} {x y z:World} (h:pt b x y) (k:pt b y z):pt b x z:=
 ⟨fun b' hb=>(k.my b' hb).trans (h.my b' hb),k.size.trans h.size,k.os.trans h.os,k.tape.trans h.tape,k.output.trans h.output⟩
theorem Dn (w:World) (b o:Nat) (v:Value):pt b w (w.setCell ⟨b,o,none⟩ v) where
 my:=fun b' hb=>by simp only[World.setCell,Array.getElem?_modify];rw[if_neg (fun e=>hb e.symm)]
 size:=by simp [World.setCell]
 os:=rfl
 tape:=rfl
 output:=rfl
theorem Dp {w:World} {b:Nat} {cs:Array Value} {e:TypeId} {fz:Nat×Nat} (h:w.heap[b]? =some (.cells cs e fz)) (o:Nat) (v:Value):(w.setCell ⟨b,o,none⟩ v).heap[b]? =some (.cells (cs.setIfInBounds o v) e fz):=by
 simp [World.setCell,Array.getElem?_modify,h]
theorem sg:∀(vs:List Value) {w:World} {b:Nat} {cs:Array Value} {e:TypeId} {fz:Nat×Nat} (o:Nat),w.heap[b]? =some (.cells cs e fz)→∃cs',(w.setCells b o vs).heap[b]? =some (.cells cs' e fz)∧cs'.toList=iW cs.toList o vs∧pt b w (w.setCells b o vs)
 |[],w,b,cs,e,fz,o,h=>⟨cs,h,rfl,.refl b w⟩
 |v::vs,w,b,cs,e,fz,o,h=>by
  obtain⟨cs',h1,h2,h3⟩:=sg vs (o+1) (Dp h o v);refine⟨cs',h1, ?_,(Dn w b o v).trans h3⟩;rw[h2,iW];simp
theorem qT {w:World} {b:Nat} {cs:Array Value} {e:TypeId} {fz:Nat×Nat} (h:w.heap[b]? =some (.cells cs e fz)) (o:Nat):w.cell? ⟨b,o,none⟩=cs[o]? :=by
 simp [World.cell?,h]
theorem LC {w:World} {b:Nat} {cs:Array Value} {e:TypeId} {fz:Nat×Nat} (h:w.heap[b]? =some (.cells cs e fz)) (o:Nat):w.frozen? ⟨b,o,none⟩=(decide (fz.1≤o)&&decide (o<fz.2)):=by
 simp [World.frozen?,h]
section
variable {E:kG} {ρ lam:dK} {w:World}
theorem sQ {P:Program} {t:TypeId} {d:TypeDesc} (hu:P.underlying t=some d) (ha:iP d=false) {a:Addr} {x:Value} (h:w.cell? a=some x):(loadVar t a).run P w=.ok x w:=by
 simp [loadVar,jE hu,ha,h]
theorem oH {t e:TypeId} {cs:List V} {off b:Nat} {r rw:Bool} {v:V} (hc:fU ρ e cs rw w.heap[b]?) (h:mS E t cs off=some (r,v)) (hr:r=true) (ho:∀cs',v=.agg cs'→rw=true∨bn cs'):∃v',(loadVar t ⟨b,off,none⟩).run E.P w=.ok v' w∧VR ρ v v':=by
 obtain⟨cs',fz,hb,hvs,hone,_⟩:=hc;unfold mS at h;split at h
 ·rename_i k hk;obtain⟨d,dC,hu,hi,_,ha⟩:=vP hk;simp only[some.injEq,Prod.mk.injEq] at h;have xu:=h.1.trans hr;rw[Bool.and_eq_true] at xu;have hlt:off<cs.length:=by simpa using xu.1
  obtain⟨y,hy,hv⟩:=hvs.nth hlt;exact⟨y,sQ hu ha (by rw[qT hb];simpa using hy),by rw[←h.2,V.sx xu.2];exact hv⟩
 ·split at h
  ·rename_i ks n hks hn;obtain⟨d,dC,z,hu,hi,ha,_⟩:=yJ hks;simp only[some.injEq,Prod.mk.injEq] at h;have hle:off+n≤cs.length:=Nat.le_of_ble_eq_true (h.1.trans hr);have hlen:cs'.size=cs.length:=by have:=hvs.1;simp at this;omega
   have hrun:=run_loadCells_list (P:=E.P) w ⟨b,off,none⟩ ((cs'.toList.drop off).take n) (by
    intro j v hv;rw[gb,qT hb];rw[List.getElem?_take] at hv;split at hv
    ·rw[List.getElem?_drop] at hv;simpa using hv
    ·cases hv)
   have hl:((cs'.toList.drop off).take n).length=n:=by simp;omega
   rw[hl] at hrun;refine⟨.agg ((cs'.toList.drop off).take n).toArray,by simp [loadVar,jE hu,ha,fl hn,hrun], ?_⟩;rw[←h.2];have hp:bn ((cs.drop off).take n):=(ho _ h.2.symm).elim (fun hrw c hc=>hone hrw c (mem_of_mem_drop (mem_of_mem_take hc))) id;exact .vK hp (by simpa using (hvs.drop off).take n)
  ·cases h
theorem eU.abX {l:List V} {m:List Value} (h:eU ρ l m) (h1:bn l):∀v∈m,v.oneCell'=true:=by
 intro v hv;obtain⟨i,hi,rfl⟩:=getElem_of_mem hv;have hi':i<l.length:=by have:=h.1;omega
 exact(h.2 i l[i] m[i] (List.getElem?_eq_getElem hi') (List.getElem?_eq_getElem hi)).one (h1 _ (getElem_mem hi'))
theorem mF {e:TypeId} {cs vs:List V} {xs:List Value} {off b:Nat} (hc:fU ρ e cs true w.heap[b]?) (h1:eU ρ vs xs) (h2:bn vs) (hle:off+vs.length≤cs.length):∃w',(storeCells ⟨b,off,none⟩ xs).run E.P w=.ok () w'∧fU ρ e (bH cs off vs) true w'.heap[b]? ∧pt b w w':=by
 obtain⟨cs',fz,hb,hvs,hone,hfz⟩:=hc;have hlen:cs'.size=cs.length:=by have:=hvs.1;simp at this;omega
 have hxl:xs.length=vs.length:=h1.1.symm
 have hst:=run_storeCells_cells (P:=E.P) b off xs 0 w (by
  intro j hj
  rw[qT hb,Array.getElem?_eq_getElem (by omega)];rfl) (by
  intro j hj;rw[LC hb];have:=hfz rfl;simp only[Bool.and_eq_false_iff,decide_eq_false_iff_not]
  omega) (h1.abX h2)
 obtain⟨cs2,h3,h4,h5⟩:=sg xs (off+0) hb;refine⟨_, ?_,⟨cs2,fz,h3, ?_,fun _=>mE h2 (hone rfl), ?_⟩,h5⟩
 ·simpa using hst
 ·rw[h4];exact pS h1 hvs
 ·intro _
  have hsz:cs2.size=cs'.size:=by
   have:=congrArg List.length h4;rw[o9] at this;simpa using this
  rw[hsz];exact hfz rfl
theorem wY {t e:TypeId} {cs:List V} {off b:Nat} {r:Bool} {v:V} {x:Value} {vs:List V} (hc:fU ρ e cs true w.heap[b]?) (hv:VR ρ v x) (h:hZ E t v=some (r,vs)) (hr:r=true) (hle:off+vs.length≤cs.length):∃w',(storeVar t ⟨b,off,none⟩ x).run E.P w=.ok () w'∧fU ρ e (bH cs off vs) true w'.heap[b]? ∧pt b w w':=by
 obtain⟨h1,h2⟩:=iX hv h hr;have hn:=AZ h hr;have hxl:x.cells.size=vs.length:=by have:=h1.1;simp at this;omega
 obtain⟨w',h3,h4,h5⟩:=mF (E:=E) hc h1 h2 hle;exact⟨w',by simp [storeVar,fl hn,hxl,h3],h4,h5⟩
end
section
variable {E:kG} {H0:ai} {ρ0:dK} {w0:World} {ann:bS} {N:Nat} {ρ lam:dK} {S:St} {a:Act} {w:World}
theorem NV {t d:Nat} {v:Value} (a:Act):(a.put (some d) v).tmps.getD t undef=if d=t∧d<a.tmps.size then v else a.tmps.getD t undef:=by
 simp only[Act.put,Array.getD_eq_getD_getElem?,Array.getElem?_setIfInBounds];by_cases h:d=t
 ·subst h;by_cases h2:d<a.tmps.size
  ·simp [h2]
  ·simp [h2]
 ·simp [h]
theorem SR.put (h:SR H0 ρ0 w0 ann N ρ lam S a w) {dst:Option Tmp} {x:T} {v:Value} (hx:TR ρ lam x v) (hok:Ls ann N dst x):SR H0 ρ0 w0 ann N ρ lam (gZ dst x S) (a.put dst v) w:=by
 cases dst with
 |none=>exact h
 |some d=>
  obtain⟨h1,h2⟩:=hok d rfl;have hd:d<a.tmps.size:=by rw[h.size];simpa using h1
  refine⟨h.defers,by simp [Act.put,h.size], ?_, ?_,h.lo,h.uj,h.hr,h.cd⟩
  ·intro t y hy;rw[NV];simp only[gZ,St.setT,aY] at hy;by_cases ht:t=d
   ·simp only[ht,decide_true,cond_true,some.injEq] at hy;subst hy;rw[if_pos ⟨ht.symm,hd⟩];exact hx
   ·simp only[ht,decide_false,cond_false] at hy;rw[if_neg (fun e=>ht e.1.symm)];exact h.tm t y hy
  ·intro t s off hy;simp only[gZ,St.setT,aY] at hy;by_cases ht:t=d
   ·simp only[ht,decide_true,cond_true,some.injEq] at hy;rw[ht];exact h2 s off hy
   ·simp only[ht,decide_false,cond_false] at hy;exact h.Lw t s off hy
theorem HR.only {b:Nat} {w':World} {H:ai} (h:HR ρ H w) (ho:pt b w w') (hb:¬iV H ρ b):HR ρ H w' where
 wW:=fun id o hid=>by
  obtain⟨b',h1,h2⟩:=h.wW id o hid;refine⟨b',h1, ?_⟩;rw[ho.my b' (fun e=>hb (e▸⟨id,o,hid,h1⟩))];exact h2
 inj:=h.inj
 lt:=fun id b' hid=>by rw[ho.size];exact h.lt id b' hid
 gl:=h.gl
theorem SR.setL (h:SR H0 ρ0 w0 ann N ρ lam S a w) {s b:Nat} {L L':aU} {w':World} (hs:S.lo s=some L) (hl:lam s=some b) (ho:pt b w w') (hL:vN ρ L' w'.heap[b]?):SR H0 ρ0 w0 ann N ρ lam (S.setL s L') a w':=by
 obtain⟨b',hb',_,hlt,hge,QK⟩:=h.lo s L hs;rw[hl] at hb';cases hb';refine⟨h.defers,h.size,h.tm,h.Lw, ?_, ?_,h.hr.only ho QK, ?_⟩
 ·intro s' M hM;simp only[St.setL,aY] at hM;by_cases he:s'=s
  ·simp only[he,decide_true,cond_true,some.injEq] at hM;subst hM;exact⟨b,by rw[he];exact hl,hL,by rw[ho.size];exact hlt,hge,QK⟩
  ·simp only[he,decide_false,cond_false] at hM;obtain⟨b2,h1,h2,h3,h4,h5⟩:=h.lo s' M hM;have hne:b2≠b:=fun e=>he (h.uj s' s M L b hM hs (e▸h1) hl)
   exact⟨b2,h1,by rw[ho.my b2 hne];exact h2,by rw[ho.size];exact h3,h4,h5⟩
 ·intro s1 s2 L1 L2 b2 h1 h2 e1 e2
  have key:∀s3 L3,(S.setL s L').lo s3=some L3→∃M,S.lo s3=some M:=by
   intro s3 L3 h3;simp only[St.setL,aY] at h3;by_cases he:s3=s
   ·exact⟨L,he▸hs⟩
   ·simp only[he,decide_false,cond_false] at h3;exact⟨_,h3⟩
  obtain⟨M1,hM1⟩:=key _ _ h1;obtain⟨M2,hM2⟩:=key _ _ h2;exact h.uj s1 s2 M1 M2 b2 hM1 hM2 e1 e2
 ·exact⟨h.cd.le,fun b2 nh hno=>by rw[ho.my b2 (by omega)];exact h.cd.frame b2 nh hno,h.cd.iV,h.cd.mD,by rw[ho.size];exact h.cd.size,
   ho.os.trans h.cd.os,ho.tape.trans h.cd.tape,ho.output.trans h.cd.output⟩
theorem fU.mono {ρ':dK} (h:ρ.le ρ') {e:TypeId} {cs:List V} {rw:Bool} {o:Option Go.Obj} (hc:fU ρ e cs rw o):fU ρ' e cs rw o:=by
 obtain⟨cs',fz,h1,h2,h3⟩:=hc;exact⟨cs',fz,h1,h2.mono h,h3⟩
theorem vN.mono {ρ':dK} (h:ρ.le ρ') {L:aU} {o:Option Go.Obj} (hc:vN ρ L o):vN ρ' L o:=by
 cases L with
 |cells e cs=>exact fU.mono h hc
 |dV s jr=>exact hc
theorem Fu.mono {ρ':dK} (h:ρ.le ρ') {L:Obj} {o:Option Go.Obj} (hc:Fu ρ L o):Fu ρ' L o:=by
 cases L with
 |cells e cs ro=>exact fU.mono h hc
 |map es clock=>
  obtain⟨es',h1,h2⟩:=hc;exact⟨es',h1,h2.mono h⟩
 |dV m cd seen tQ=>
  obtain⟨m',h1,h2⟩:=hc;exact⟨m',h1,h2.mono h⟩
theorem TR.mono {ρ':dK} (h:ρ.le ρ') {x:T} {v:Value} (hx:TR ρ lam x v):TR ρ' lam x v:=by
 cases hx with
 |v h'=>exact .v (h'.mono h)
 |lp h'=>exact .lp h'
 |undef=>exact .undef
structure iA (o:Go.Obj) (w w':World):Prop where
 heap:w'.heap=w.heap.push o
 os:w'.os=w.os
 tape:w'.tape=w.tape
 output:w'.output=w.output
theorem iA.old {o:Go.Obj} {w w':World} (h:iA o w w') {b:Nat} (hb:b<w.heap.size):w'.heap[b]? =w.heap[b]? :=by
 rw[h.heap,Array.getElem?_push,if_neg (by omega)]
theorem iA.new {o:Go.Obj} {w w':World} (h:iA o w w'):w'.heap[w.heap.size]? =some o:=by
 rw[h.heap,Array.getElem?_push,if_pos rfl]
theorem iA.size {o:Go.Obj} {w w':World} (h:iA o w w'):w'.heap.size=w.heap.size+1:=by rw[h.heap];simp
theorem HR.Dq {o:Go.Obj} {w':World} {H:ai} (h:HR ρ H w) (hp:iA o w w'):HR ρ H w' where
 wW:=fun id x hid=>by
  obtain⟨b,h1,h2⟩:=h.wW id x hid;exact⟨b,h1,by rw[hp.old (h.lt id b h1).2];exact h2⟩
 inj:=h.inj
 lt:=fun id b hid=>⟨(h.lt id b hid).1,by rw[hp.size];have:=(h.lt id b hid).2;omega⟩
 gl:=h.gl
theorem lL.Dq {o:Go.Obj} {w':World} {H:ai} (h:lL H0 ρ0 w0 H ρ w) (hp:iA o w w'):lL H0 ρ0 w0 H ρ w' where
 le:=h.le
 frame:=fun b hb ho=>by rw[hp.old (by have:=h.size;omega)];exact h.frame b hb ho
 iV:=h.iV
 mD:=h.mD
 size:=by rw[hp.size];have:=h.size;omega
 os:=hp.os.trans h.os
 tape:=hp.tape.trans h.tape
 output:=hp.output.trans h.output
def eI (lam:dK) (d b:Nat):dK:=fun s=>if s=d then some b else lam s
theorem Jv {d t:Nat} {x:T} (h:(sG ann d S).tm t=some x):S.tm t=some x∧ab ann.aX t≠some d:=by
 simp only[sG] at h;split at h
 ·rename_i s hs;simp only[aY] at h;by_cases he:s=d
  ·simp [he] at h
  ·simp only[he,decide_false,cond_false] at h;exact⟨h,by rw[hs];simpa using he⟩
 ·rename_i hs;exact⟨h,by rw[hs];simp⟩
theorem SR.abY (h:SR H0 ρ0 w0 ann N ρ lam S a w) {d:Nat} {L:aU} {o:Go.Obj} {w':World} (hp:iA o w w') (hL:vN ρ L (some o)):SR H0 ρ0 w0 ann N ρ (eI lam d w.heap.size) ((sG ann d S).setL d L) a w' where
 defers:=h.defers
 size:=h.size
 tm:=fun t x hx=>by
  obtain⟨h1,h2⟩:=Jv (S:=S) hx;have h3:=h.tm t x h1
  cases x with
  |v y=>generalize a.tmps.getD t undef=q at h3;cases h3 with|v h=>exact .v h
  |undef=>generalize a.tmps.getD t undef=q at h3;cases h3 with|undef=>exact .undef
  |lp s off=>
   have h4:=h.Lw t s off h1;generalize a.tmps.getD t undef=q at h3
   cases h3 with
   |lp hl=>
    have hne:¬s=d:=fun e=>h2 (by rw[←e];exact h4)
    exact .lp (by rw[eI,if_neg hne];exact hl)
 Lw:=fun t s off hx=>h.Lw t s off (Jv (S:=S) hx).1
 lo:=fun s M hM=>by
  simp only[St.setL,sG,aY] at hM;by_cases he:s=d
  ·simp only[he,decide_true,cond_true,some.injEq] at hM;subst hM;refine⟨w.heap.size,by rw[eI,if_pos he],by rw[hp.new];exact hL,by rw[hp.size];omega,h.cd.size, ?_⟩;rintro⟨id,x,h1,h2⟩;have:=(h.hr.lt id _ h2).2;omega
  ·simp only[he,decide_false,cond_false] at hM;obtain⟨b,h1,h2,h3,h4,h5⟩:=h.lo s M hM;exact⟨b,by rw[eI,if_neg he];exact h1,by rw[hp.old h3];exact h2,by rw[hp.size];omega,h4,h5⟩
 uj:=by
  intro s1 s2 L1 L2 b h1 h2 e1 e2
  have key:∀s M,((sG ann d S).setL d L).lo s=some M→(s=d)∨(s≠d∧S.lo s=some M):=by
   intro s M hM;simp only[St.setL,sG,aY] at hM;by_cases he:s=d
   ·exact .inl he
   ·simp only[he,decide_false,cond_false] at hM;exact .inr ⟨he,hM⟩
  rcases key _ _ h1 with r1|⟨n1,r1⟩<;>rcases key _ _ h2 with r2|⟨n2,r2⟩
  ·rw[r1,r2]
  ·obtain⟨b2,k1,_,k3,_⟩:=h.lo s2 L2 r2;rw[eI,if_neg n2,k1] at e2;rw[eI,if_pos r1] at e1;cases e1;cases e2;omega
  ·obtain⟨b2,k1,_,k3,_⟩:=h.lo s1 L1 r1;rw[eI,if_neg n1,k1] at e1;rw[eI,if_pos r2] at e2;cases e1;cases e2;omega
  ·rw[eI,if_neg n1] at e1;rw[eI,if_neg n2] at e2;exact h.uj _ _ _ _ _ r1 r2 e1 e2
 hr:=h.hr.Dq hp
 cd:=h.cd.Dq hp
theorem LD {H:ai} (h:HR ρ H w):ρ H.next=none:=by
 cases hn:ρ H.next with
 |none=>rfl
 |some b=>have:=(h.lt _ _ hn).1;omega
theorem RO {H:ai} (h:HR ρ H w) (b:Nat):ρ.le (eI ρ H.next b):=by
 intro id b' hid;rw[eI,if_neg]
 ·exact hid
 ·rintro rfl;rw[LD h] at hid;cases hid
theorem gp {H:ai} {o o':Obj} {id:Nat} (h:(H.alloc o).get id=some o'):(id=H.next∧o'=o)∨(id≠H.next∧H.get id=some o'):=by
 simp only[ai.alloc,aY] at h;by_cases he:id=H.next
 ·simp only[he,decide_true,cond_true,some.injEq] at h;exact .inl ⟨he,h.symm⟩
 ·simp only[he,decide_false,cond_false] at h;exact .inr ⟨he,h⟩
theorem SR.Dr (h:SR H0 ρ0 w0 ann N ρ lam S a w) {o:Go.Obj} {x:Obj} {w':World} (hp:iA o w w') (hx:Fu ρ x (some o)):SR H0 ρ0 w0 ann N (eI ρ S.hp.next w.heap.size) lam {S with hp:=S.hp.alloc x} a w':=by
 have hle:=RO h.hr w.heap.size
 have old:∀{id b},id≠S.hp.next→eI ρ S.hp.next w.heap.size id=some b→ρ id=some b:=by
  intro id b hid h;rwa [eI,if_neg hid] at h
 have lv:∀b,iV (S.hp.alloc x) (eI ρ S.hp.next w.heap.size) b→b=w.heap.size∨iV S.hp ρ b:=by
  rintro b ⟨id,o',h1,h2⟩;rcases gp h1 with⟨rfl,rfl⟩|⟨hn,h1⟩
  ·rw[eI,if_pos rfl] at h2;exact .inl (Option.some.inj h2).symm
  ·exact .inr ⟨id,o',h1,old hn h2⟩
 have ow:∀b,mD (S.hp.alloc x) (eI ρ S.hp.next w.heap.size) b→b=w.heap.size∨mD S.hp ρ b:=by
  rintro b ⟨id,o',h1,hr,h2⟩;rcases gp h1 with⟨rfl,rfl⟩|⟨hn,h1⟩
  ·rw[eI,if_pos rfl] at h2;exact .inl (Option.some.inj h2).symm
  ·exact .inr ⟨id,o',h1,hr,old hn h2⟩
 refine⟨h.defers,h.size,fun t y hy=>(h.tm t y hy).mono hle,h.Lw, ?_,h.uj,⟨?_, ?_, ?_,fun g hg=>hle _ _ (h.hr.gl g hg)⟩, ?_⟩
 ·intro s M hM;obtain⟨b,h1,h2,h3,h4,h5⟩:=h.lo s M hM;refine⟨b,h1,by rw[hp.old h3];exact h2.mono hle,by rw[hp.size];omega,h4,fun hl=> ?_⟩;rcases lv b hl with rfl|hl
  ·omega
  ·exact h5 hl
 ·intro id o' hid;rcases gp hid with⟨rfl,rfl⟩|⟨hn,hid⟩
  ·exact⟨w.heap.size,by rw[eI,if_pos rfl],by rw[hp.new];exact hx.mono hle⟩
  ·obtain⟨b,h1,h2⟩:=h.hr.wW id o' hid;exact⟨b,hle _ _ h1,by rw[hp.old (h.hr.lt id b h1).2];exact h2.mono hle⟩
 ·intro id id' o1 o2 b h1 h2 hr e1 e2;rcases gp h1 with⟨r1,_⟩|⟨n1,k1⟩<;>rcases gp h2 with⟨r2,_⟩|⟨n2,k2⟩
  ·rw[r1,r2]
  ·rw[eI,if_pos r1] at e1;have:=(h.hr.lt _ _ (old n2 e2)).2;cases e1;omega
  ·rw[eI,if_pos r2] at e2;have:=(h.hr.lt _ _ (old n1 e1)).2;cases e2;omega
  ·exact h.hr.inj id id' o1 o2 b k1 k2 hr (old n1 e1) (old n2 e2)
 ·intro id b hid;by_cases hn:id=S.hp.next
  ·rw[eI,if_pos hn] at hid;cases hid;exact⟨by simp [ai.alloc,hn],by rw[hp.size];omega⟩
  ·have:=h.hr.lt _ _ (old hn hid);exact⟨by simp [ai.alloc];omega,by rw[hp.size];omega⟩
 ·have hs:=h.cd.Dq hp;refine⟨hs.le.trans hle,hs.frame,fun b hb=> ?_,fun b hb=> ?_,hs.size,hs.os,hs.tape,hs.output⟩
  ·rcases lv b hb with rfl|hb
   ·exact .inr h.cd.size
   ·exact hs.iV b hb
  ·rcases ow b hb with rfl|hb
   ·exact .inr h.cd.size
   ·exact hs.mD b hb
theorem ur {H:ai} {o o':Obj} {i id:Nat} (h:(H.put i o).get id=some o'):(id=i∧o'=o)∨(id≠i∧H.get id=some o'):=by
 simp only[ai.put,aY] at h;by_cases he:id=i
 ·simp only[he,decide_true,cond_true,some.injEq] at h;exact .inl ⟨he,h.symm⟩
 ·simp only[he,decide_false,cond_false] at h;exact .inr ⟨he,h⟩
theorem SR.Ds (h:SR H0 ρ0 w0 ann N ρ lam S a w) {id b:Nat} {x y:Obj} {w':World} (hid:S.hp.get id=some x) (hrw:x.rw =true) (hy:y.rw =true) (hb:ρ id=some b) (ho:pt b w w') (hx:Fu ρ y w'.heap[b]?):SR H0 ρ0 w0 ann N ρ lam {S with hp:=S.hp.put id y} a w':=by
 have lv:∀b,iV (S.hp.put id y) ρ b→iV S.hp ρ b:=by
  rintro b ⟨i,o',h1,h2⟩;rcases ur h1 with⟨rfl,rfl⟩|⟨hn,h1⟩
  ·exact⟨i,x,hid,h2⟩
  ·exact⟨i,o',h1,h2⟩
 have ow:∀b,mD (S.hp.put id y) ρ b→mD S.hp ρ b:=by
  rintro b ⟨i,o',h1,hr,h2⟩;rcases ur h1 with⟨rfl,rfl⟩|⟨hn,h1⟩
  ·exact⟨i,x,hid,hrw,h2⟩
  ·exact⟨i,o',h1,hr,h2⟩
 have hown:mD S.hp ρ b:=⟨id,x,hid,hrw,hb⟩;refine⟨h.defers,h.size,h.tm,h.Lw, ?_,h.uj,⟨?_, ?_, ?_,h.hr.gl⟩, ?_⟩
 ·intro s M hM;obtain⟨b2,h1,h2,h3,h4,h5⟩:=h.lo s M hM;have hne:b2≠b:=fun e=>h5 (e▸⟨id,x,hid,hb⟩)
  exact⟨b2,h1,by rw[ho.my b2 hne];exact h2,by rw[ho.size];exact h3,h4,fun hl=>h5 (lv b2 hl)⟩
 ·intro i o' hi;rcases ur hi with⟨rfl,rfl⟩|⟨hn,hi⟩
  ·exact⟨b,hb,hx⟩
  ·obtain⟨b2,h1,h2⟩:=h.hr.wW i o' hi;have hne:b2≠b:=fun e=>hn (h.hr.inj id i x o' b hid hi hrw hb (e▸h1)).symm
   exact⟨b2,h1,by rw[ho.my b2 hne];exact h2⟩
 ·intro i i' o1 o2 b2 h1 h2 hr e1 e2;rcases ur h1 with⟨r1,_⟩|⟨n1,k1⟩<;>rcases ur h2 with⟨r2,_⟩|⟨n2,k2⟩
  ·rw[r1,r2]
  ·rw[r1] at e1⊢;exact h.hr.inj id i' x o2 b2 hid k2 hrw e1 e2
  ·rw[r2] at e2⊢;exact(h.hr.inj id i x o1 b2 hid k1 hrw e2 e1).symm
  ·exact h.hr.inj i i' o1 o2 b2 k1 k2 hr e1 e2
 ·intro i b2 hi;rw[ho.size];exact h.hr.lt i b2 hi
 ·refine⟨h.cd.le,fun b2 nh hno=> ?_,fun b2 nh=>h.cd.iV b2 (lv b2 nh),fun b2 nh=>h.cd.mD b2 (ow b2 nh),by rw[ho.size];exact h.cd.size,
   ho.os.trans h.cd.os,ho.tape.trans h.cd.tape,ho.output.trans h.cd.output⟩
  have hne:b2≠b:=by
   rintro rfl;rcases h.cd.mD b2 hown with h1|h1
   ·exact hno h1
   ·omega
  rw[ho.my b2 hne];exact h.cd.frame b2 nh hno
theorem SR.call (h:SR H0 ρ0 w0 ann N ρ lam S a w) {H':ai} {ρ':dK} {w':World} (hs:lL S.hp ρ w H' ρ' w') (hr:HR ρ' H' w'):SR H0 ρ0 w0 ann N ρ' lam {S with hp:=H'} a w' where
 defers:=h.defers
 size:=h.size
 tm:=fun t y hy=>(h.tm t y hy).mono hs.le
 Lw:=h.Lw
 lo:=fun s M hM=>by
  obtain⟨b,h1,h2,h3,h4,h5⟩:=h.lo s M hM;have hno:¬mD S.hp ρ b:=fun⟨id,o,k1,_,k2⟩=>h5 ⟨id,o,k1,k2⟩
  refine⟨b,h1,by rw[hs.frame b h3 hno];exact h2.mono hs.le,by have:=hs.size;omega,h4,fun hl=> ?_⟩;rcases hs.iV b hl with h|h
  ·exact h5 h
  ·omega
 uj:=h.uj
 hr:=hr
 cd:=h.cd.trans hs
theorem SR.ub (h:SR H0 ρ0 w0 ann N ρ lam S a w) {s b:Nat} {e:TypeId} {cs:List V} (hs:S.lo s=some (.cells e cs)) (hb:lam s=some b):SR H0 ρ0 w0 ann N (eI ρ S.hp.next b) lam (pJ ann s e cs S) a w:=by
 obtain⟨b',hb',hc,hlt,hge,QK⟩:=h.lo s _ hs;rw[hb] at hb';cases hb'
 have hle:ρ.le (eI ρ S.hp.next b):=by
  intro id b2 hid;have hne:id≠S.hp.next:=by have:=(h.hr.lt id b2 hid).1;omega
  rw[eI,if_neg hne];exact hid
 have old:∀{id b2},id≠S.hp.next→eI ρ S.hp.next b id=some b2→ρ id=some b2:=by
  intro id b2 hn h2
  rwa [eI,if_neg hn] at h2
 have lv:∀b2,iV (S.hp.alloc (.cells e cs false)) (eI ρ S.hp.next b) b2→b2=b∨iV S.hp ρ b2:=by
  rintro b2 ⟨id,o',h1,h2⟩;rcases gp h1 with⟨rfl,rfl⟩|⟨hn,h1⟩
  ·rw[eI,if_pos rfl] at h2;exact .inl (Option.some.inj h2).symm
  ·exact .inr ⟨id,o',h1,old hn h2⟩
 have ow:∀b2,mD (S.hp.alloc (.cells e cs false)) (eI ρ S.hp.next b) b2→b2=b∨mD S.hp ρ b2:=by
  rintro b2 ⟨id,o',h1,hr,h2⟩;rcases gp h1 with⟨rfl,rfl⟩|⟨hn,h1⟩
  ·rw[eI,if_pos rfl] at h2;exact .inl (Option.some.inj h2).symm
  ·exact .inr ⟨id,o',h1,hr,old hn h2⟩
 have hlo:∀{t L},(pJ ann s e cs S).lo t=some L→t≠s∧S.lo t=some L:=by
  intro t L ht;simp only[pJ,aY] at ht;by_cases hts:t=s
  ·simp [hts] at ht
  ·simp only[hts,decide_false,cond_false] at ht;exact⟨hts,ht⟩
 have htm:∀{t x},(pJ ann s e cs S).tm t=some x→S.tm t=some x:=by
  intro t x ht;simp only[pJ,sG] at ht;split at ht
  ·rename_i s' hs';cases hq:Nat.beq s' s
   ·simpa [hq] using ht
   ·simp [hq] at ht
  ·exact ht
 refine⟨h.defers,h.size,fun t y hy=>(h.tm t y (htm hy)).mono hle,fun t s' off hy=>h.Lw t s' off (htm hy), ?_, ?_,⟨?_, ?_, ?_,fun g hg=>hle _ _ (h.hr.gl g hg)⟩, ?_⟩
 ·intro s' M hM;obtain⟨hne,hM⟩:=hlo hM;obtain⟨b2,h1,h2,h3,h4,h5⟩:=h.lo s' M hM;refine⟨b2,h1,h2.mono hle,h3,h4,fun hl=> ?_⟩;rcases lv b2 hl with rfl|hl
  ·exact hne (h.uj s' s M _ b2 hM hs h1 hb)
  ·exact h5 hl
 ·intro s1 s2 L1 L2 b2 h1 h2 e1 e2;exact h.uj s1 s2 L1 L2 b2 (hlo h1).2 (hlo h2).2 e1 e2
 ·intro id o' hid;rcases gp hid with⟨rfl,rfl⟩|⟨hn,hid⟩
  ·exact⟨b,by rw[eI,if_pos rfl],fU.mono hle hc⟩
  ·obtain⟨b2,h1,h2⟩:=h.hr.wW id o' hid;exact⟨b2,hle _ _ h1,h2.mono hle⟩
 ·intro id id' o1 o2 b2 h1 h2 hr e1 e2;rcases gp h1 with⟨r1,_⟩|⟨n1,k1⟩<;>rcases gp h2 with⟨r2,_⟩|⟨n2,k2⟩
  ·rw[r1,r2]
  ·rw[eI,if_pos r1] at e1;cases e1;exact(QK ⟨id',o2,k2,old n2 e2⟩).elim
  ·rw[eI,if_pos r2] at e2;cases e2;exact(QK ⟨id,o1,k1,old n1 e1⟩).elim
  ·exact h.hr.inj id id' o1 o2 b2 k1 k2 hr (old n1 e1) (old n2 e2)
 ·intro id b2 hid;by_cases hn:id=S.hp.next
  ·rw[eI,if_pos hn] at hid;cases hid;exact⟨by simp [pJ,ai.alloc,hn],hlt⟩
  ·have:=h.hr.lt _ _ (old hn hid);exact⟨by simp [pJ,ai.alloc];omega,this.2⟩
 ·have hq:=h.cd;refine⟨hq.le.trans hle,hq.frame,fun b2 nh=> ?_,fun b2 nh=> ?_,hq.size,hq.os,hq.tape,hq.output⟩
  ·rcases lv b2 nh with rfl|nh
   ·exact .inr hge
   ·exact hq.iV b2 nh
  ·rcases ow b2 nh with rfl|nh
   ·exact .inr hge
   ·exact hq.mD b2 nh
theorem mZ:∀{l:List Operand} {S S':St} {ρ:dK} {vs:List V},SR H0 ρ0 w0 ann N ρ lam S a w→qM ann l S=some (vs,S')→∃ρ',SR H0 ρ0 w0 ann N ρ' lam S' a w∧eU ρ' vs (l.map a.eval)∧ρ.le ρ'
 |[],S,S',ρ,vs,h,hl=>by
  simp only[qM,some.injEq,Prod.mk.injEq] at hl;obtain⟨rfl,rfl⟩:=hl;exact⟨ρ,h,.nil ρ,.refl ρ⟩
 |x::l,S,S',ρ,vs,h,hl=>by
  simp only[qM] at hl;split at hl
  ·rename_i v hx;split at hl
   ·rename_i ws S2 h2;simp only[some.injEq,Prod.mk.injEq] at hl;obtain⟨rfl,rfl⟩:=hl;obtain⟨ρ',k1,k2,k3⟩:=mZ h h2;exact⟨ρ',k1,.cons ((h.ev.tv hx).mono k3) k2,k3⟩
   ·cases hl
  ·rename_i s hx;split at hl
   ·rename_i e cs hs;split at hl
    ·rename_i ws S2 h2;simp only[some.injEq,Prod.mk.injEq] at hl;obtain⟨rfl,rfl⟩:=hl;obtain⟨b,hb,he⟩:=h.ev.lp hx
     have hle:ρ.le (eI ρ S.hp.next b):=by
      intro id b2 hid;have hne:id≠S.hp.next:=by have:=(h.hr.lt id b2 hid).1;omega
      rw[eI,if_neg hne];exact hid
     obtain⟨ρ',k1,k2,k3⟩:=mZ (h.ub hs hb) h2;refine⟨ρ',k1,.cons ?_ k2,hle.trans k3⟩;rw[he];exact .ay (k3 _ _ (by rw[eI,if_pos rfl]))
    ·cases hl
   ·cases hl
  ·cases hl
theorem SR.drew (h:SR H0 ρ0 w0 ann N ρ lam S a w) (n:Nat):SR H0 ρ0 w0 ann N ρ lam S a {w with drawn:=n}:=
 ⟨h.defers,h.size,h.tm,h.Lw,h.lo,h.uj,⟨h.hr.wW,h.hr.inj,h.hr.lt,h.hr.gl⟩,⟨h.cd.le,h.cd.frame,h.cd.iV,h.cd.mD,h.cd.size,h.cd.os,h.cd.tape,h.cd.output⟩⟩
end
def yR (H:ai) (ρ:dK) (w:World) (K:V→ai→Prop) (e:Ending) (w':World):Prop:=
 ∃v v' H' ρ',e=.returned v'∧K v H'∧VR ρ' v v'∧HR ρ' H' w'∧lL H ρ w H' ρ' w'
def iG (E:kG) (f:FuncId) (args:List V) (H:ai) (K:V→ai→Prop):Prop:=
 ∀(ρ:dK) (w:World) (aS:Array Value),HR ρ H w→eU ρ args aS.toList→Calls E.P f aS w (yR H ρ w K)
def j9 (E:kG):Prop:=∀g x,E.ext g=some x→∀args H K,x.run args H K→∀(ρ:dK) (w:World) (aS:Array Value),HR ρ H w→eU ρ args aS.toList→
 (∃v v' w' H' ρ',(callFunc g aS).run E.P w=.ok (.value v') w'∧K v H'∧VR ρ' v v'∧HR ρ' H' w'∧lL H ρ w H' ρ' w')∨
 ((callFunc g aS).run E.P w=.ok (.enter g aS) w∧Calls E.P g aS w (yR H ρ w K))
section
variable {E:kG} {H0:ai} {ρ0:dK} {w0:World} {ann:bS} {N:Nat} {ρ lam:dK} {S:St} {a:Act} {w:World}
theorem vQ {t:TypeId} {i:TI} {z:V} (h:E.ti t=some i) (hz:i.zero=some z) (ρ:dK) (w:World):∃z',(zeroValue t).run E.P w=.ok z' w∧eU ρ z.cells z'.cells.toList∧bn z.cells:=by
 obtain⟨dC,dt,hi,hu,hd,_,_,Lj⟩:=jR h;rw[hz] at Lj;obtain⟨z',EO,yl⟩:=bind_eq_some_iff.1 Lj;exact⟨z',by simp [zeroValue,typeInfo,hi,EO],(iF yl).cells (fun e=>by have:=kX yl;rw[e] at this;have:=this .cB (by simp [V.cells]);cases this),kX yl⟩
theorem iH {e:TypeId} {cs:List V} {cs':Array Value} {rw:Bool} (h:eU ρ cs cs'.toList) (h1:bn cs):fU ρ e cs rw (some (.cells cs' e)):=
 ⟨cs',(0,0),rfl,h,fun _=>h1,fun _=>.inl rfl⟩
theorem HT {o:Oper} {ev:Ev} {e:Operand→Value} (di:pR ρ lam ev e) {r:Bool} {L:aU} (h:iR E o.op ev=some (r,L)) (hr:r=true):∃(x:Go.Obj) (w':World),(execOp e o).run E.P w=.ok (.value (.pointer (some ⟨w.heap.size,0,none⟩))) w'∧iA x w w'∧vN ρ L (some x):=by
 obtain⟨dst,op,type,jr,after,guard⟩:=o
 cases op with
 |alloc t=>
  simp only[iR] at h;split at h
  ·rename_i i hi;split at h
   ·rename_i z hz;simp only[some.injEq,Prod.mk.injEq] at h;obtain⟨_,rfl⟩:=h;obtain⟨z',h1,h2,h3⟩:=vQ hi hz ρ w;refine⟨.cells z'.cells t,{w with heap:=w.heap.push (.cells z'.cells t)}, ?_,⟨rfl,rfl,rfl,rfl⟩,iH h2 h3⟩;simp [execOp,Instr.alloc,h1,newVar,newRow]
   ·cases h
  ·cases h
 |box t x=>
  simp only[iR] at h;split at h
  ·rename_i v hv;split at h
   ·rename_i r' vs hvs;simp only[some.injEq,Prod.mk.injEq] at h;obtain⟨rfl,rfl⟩:=h;obtain⟨h2,h3⟩:=iX (di.v hv) hvs hr;refine⟨.cells (e x).cells t,{w with heap:=w.heap.push (.cells (e x).cells t)}, ?_,⟨rfl,rfl,rfl,rfl⟩,iH h2 h3⟩;simp [execOp,Instr.box,newVar,newRow]
   ·cases h
  ·cases h
 |range t x=>
  simp only[iR] at h;split at h
  ·rename_i s hk hx;obtain⟨dt,hu,hd⟩:=bR hk;simp only[some.injEq,Prod.mk.injEq] at h;obtain⟨_,rfl⟩:=h;cases dt<;>simp [bw,cU] at hd
   refine⟨.stringIter s 0,{w with heap:=w.heap.push (.stringIter s 0)}, ?_,⟨rfl,rfl,rfl,rfl⟩,rfl⟩;simp [execOp,Instr.range,run_underlying hu,(di.v hx).vL]
  ·cases h
 |_=>simp [iR] at h
theorem FC {o:Oper} {ev:Ev} {e:Operand→Value} (di:pR ρ lam ev e) {s:Nat} {L:Option aU} {d:fS T} (h:gV E o.op ev s L=some d) (hr:d.rq=true) (hL:∀M,L=some M→∃b,lam s=some b∧vN ρ M w.heap[b]?):∃v,(execOp e o).run E.P w=.ok (.value v) w∧TR ρ lam (if d.c=true then d.x else d.y) v:=by
 obtain⟨dst,op,type,jr,after,guard⟩:=o
 cases op with
 |load t a=>
  simp only[gV] at h;split at h
  ·rename_i s' off el cs ha;obtain⟨b,hb,hc⟩:=hL _ rfl;by_cases hs:s=s'
   ·subst hs;simp only[Nat.beq_refl,cond_true] at h;unfold Bt at h;split at h
    ·rename_i r v hv;cases h;obtain⟨b',hb',he⟩:=di.lp ha;rw[hb] at hb';cases hb';obtain⟨v',h1,h2⟩:=oH hc hv hr (fun _ _=>.inl rfl);exact⟨v',by simp [execOp,Instr.loadAt,he,Instr.sureAddr,h1],.v h2⟩
    ·cases h
   ·rw[show Nat.beq s s'=false by rw[aY];simpa using hs] at h;simp at h
  ·cases h
 |_=>simp [gV] at h
theorem wZ {w:World} {b:Nat} {s:ByteArray} {p:Nat} (h:w.heap[b]? =some (.stringIter s p)):(getObj b).run E.P w=.ok (.stringIter s p) w:=by
 simp [getObj,Sem.run,h]
theorem FD {w:World} {b:Nat} {s:ByteArray} {p q:Nat} (h:w.heap[b]? =some (.stringIter s p)):(setObj b (.stringIter s q)).run E.P w=.ok () {w with heap:=w.heap.setIfInBounds b (.stringIter s q)}:=by
 simp [setObj,Sem.run,h]
theorem A0 {t:TypeId} {cs:List V} (h:(lE E t cs).1=true):(lE E t cs).2=cs:=by
 unfold lE at h⊢;split
 ·rename_i ks hk;rw[hk] at h;exact lk h rfl
 ·rfl
theorem Dt {o:Oper} {ev:Ev} {e:Operand→Value} (di:pR ρ lam ev e) {s:Nat} {L:Option aU} {d:fS (aU×T)} (h:ey E o.op ev s L=some d) (hr:d.rq=true) (hL:∀M,L=some M→∃b,lam s=some b∧vN ρ M w.heap[b]?):∃M b w' v,L=some M∧lam s=some b∧pt b w w'∧vN ρ (if d.c=true then d.x else d.y).1 w'.heap[b]? ∧TR ρ lam (if d.c=true then d.x else d.y).2 v∧((execOp e o).run E.P w=.ok (.value v) w'∨(v=undef∧(execOp e o).run E.P w=.ok .skip w')):=by
 obtain⟨dst,op,type,jr,after,guard⟩:=o
 cases op with
 |store t a x=>
  simp only[ey] at h;split at h
  ·rename_i s' off v el cs ha hx;obtain⟨b,hb,hc⟩:=hL _ rfl;split at h
   ·rename_i r vs hvs;by_cases hs:s=s'
    ·subst hs;simp only[Nat.beq_refl,cond_true,some.injEq] at h;subst h;obtain⟨b',hb',he⟩:=di.lp ha;rw[hb] at hb';cases hb';simp only[fS.one,Bool.and_eq_true] at hr;obtain⟨w',h1,h2,h3⟩:=wY hc (di.v hx) hvs hr.1.1 (Nat.le_of_ble_eq_true hr.1.2);rw[A0 hr.2];exact⟨_,b,w',undef,rfl,hb,h3,h2,.undef,.inr ⟨rfl,by simp [execOp,Instr.storeAt,he,Instr.sureAddr,h1]⟩⟩
    ·rw[show Nat.beq s s'=false by rw[aY];simpa using hs] at h;simp at h
   ·cases h
  ·cases h
 |next it isStr=>
  cases isStr with
  |false=>simp [ey] at h
  |true=>
   simp only[ey] at h;split at h
   ·rename_i s' cL p ha;obtain⟨b,hb,hc⟩:=hL _ rfl;by_cases hs:s=s'
    ·subst hs;simp only[Nat.beq_refl,cond_true,some.injEq] at h;subst h;obtain⟨b',hb',he⟩:=di.lp ha;rw[hb] at hb';cases hb';have hc:w.heap[b]? =some (.stringIter cL p):=hc
     have hlt:b<w.heap.size:=by
      rcases Nat.lt_or_ge b w.heap.size with h|h
      ·exact h
      ·rw[Array.getElem?_eq_none h] at hc;cases hc
     by_cases hp:p<cL.size
     ·have AA:Nat.blt p cL.size=true:=by simpa using hp
      refine⟨_,b,{w with heap:=w.heap.setIfInBounds b (.stringIter cL (p+(Utf8.decode cL p).2))},
       .tuple #[.bool true,.int .i64 (p:Int),.int .i32 ((Utf8.decode cL p).1:Int)],rfl,hb,⟨?_,by simp,rfl,rfl,rfl⟩, ?_, ?_,.inl ?_⟩
      ·intro b' hne;simp [Ne.symm hne]
      ·simp [vN,AA,hlt]
      ·simp only[AA,if_true];exact .v (.gF (.cons (.bool _) (.cons (.int _ _) (.cons (.int _ _) (.nil ρ)))))
      ·simp only[execOp,he,Instr.next,Sem.run_bind,wZ hc,Result.andThen_ok,hp,if_true];rw[FD hc];simp [goInt]
     ·have AA:Nat.blt p cL.size=false:=by
       cases hh:Nat.blt p cL.size
       ·rfl
       ·exact(hp (by simpa using hh)).elim
      refine⟨_,b,w,.tuple #[.bool false],rfl,hb,.refl b w, ?_, ?_,.inl ?_⟩
      ·simpa [vN,AA] using hc
      ·simp only[AA,Bool.false_eq_true,if_false];exact .v (.gF (.cons (.bool _) (.nil ρ)))
      ·simp only[execOp,he,Instr.next,Sem.run_bind,wZ hc,Result.andThen_ok,hp,if_false];simp
    ·rw[show Nat.beq s s'=false by rw[aY];simpa using hs] at h;simp at h
   ·cases h
 |_=>simp [ey] at h
theorem yS {H:ai} (hr:HR ρ H w) {id off n:Nat} (h:H.inb id off n=true):∃e cs ro,H.get id=some (.cells e cs ro)∧off+n≤cs.length∧∃b,ρ id=some b∧fU ρ e cs (!ro) w.heap[b]? :=by
 unfold ai.inb at h;split at h
 ·rename_i e cs ro hg;obtain⟨b,h1,h2⟩:=hr.wW id _ hg;exact⟨e,cs,ro,hg,Nat.le_of_ble_eq_true h,b,h1,h2⟩
 ·cases h
theorem gg:∀(n:Nat) (l:List V),(ia n l).length=n*l.length
 |0,l=>by simp [ia]
 |n+1,l=>by simp [ia,gg n l,Nat.add_mul];omega
theorem gG {l:List V} (h:bn l):∀n:Nat,bn (ia n l)
 |0=>fun v hv=>by simp [ia] at hv
 |n+1=>fun v hv=>by
  simp only[ia,mem_append] at hv;exact hv.elim (h v) (gG h n v)
theorem yT {l:List V} (hl:0<l.length):∀(n i:Nat),i<n*l.length→(ia n l)[i]? =l[i % l.length]?
 |0,i,h=>by simp at h
 |n+1,i,h=>by
  by_cases hi:i<l.length
  ·rw[ia,List.getElem?_append_left hi,Nat.mod_eq_of_lt hi]
  ·have hi:l.length≤i:=by omega
   rw[ia,List.getElem?_append_right hi,yT hl n (i-l.length) (by rw[Nat.add_mul] at h;omega), ←Nat.mod_eq_sub_mod hi]
theorem FE {z:List V} {z':Array Value} {n k:Nat} (hz:eU ρ z z'.toList) (hn:z.length=n) (hp:0<n):eU ρ (ia k z) ((Array.range (k*n)).map (z'[· % z'.size]!)).toList:=by
 have hs:z'.size=n:=by have:=hz.1;simp at this;omega
 refine⟨by simp [gg,hn], ?_⟩;intro i x y hx hy
 have hi:i<k*n:=by
  rcases Nat.lt_or_ge i (k*n) with h|h
  ·exact h
  ·rw[List.getElem?_eq_none (by rw[gg,hn];exact h)] at hx;cases hx
 rw[yT (by omega) k i (by rw[hn];exact hi),hn] at hx;have hm:i % n<n:=Nat.mod_lt _ hp;refine hz.2 (i % n) x y hx ?_;have hy':z'[i % z'.size]! =y:=by simpa [hi] using hy
 rw[hs,getElem!_pos z' (i % n) (by omega)] at hy';rw[←hy',Array.getElem?_toList,Array.getElem?_eq_getElem (by omega)]
theorem sR:∀{l:List V},vH l=true↔bn l
 |[]=>by simp [vH,bn]
 |v::l=>by
  rw[vH,Bool.and_eq_true,sR];simp [bn]
theorem bn.append {l m:List V} (h:bn l) (k:bn m):bn (l++m):=by
 intro v hv;rcases mem_append.1 hv with hv|hv
 ·exact h v hv
 ·exact k v hv
theorem uu (s:ByteArray):bn (fc s):=by
 intro v hv;simp only[fc,mem_map] at hv;obtain⟨b,_,rfl⟩:=hv;rfl
theorem uv (ρ:dK) (s:ByteArray):eU ρ (fc s) (s.data.map fun b=>Value.int .u8 b.toNat).toList:=by
 refine⟨by simp [fc], ?_⟩;intro i x y hx hy;simp only[fc,List.getElem?_map,Array.toList_map,map_eq_some_iff] at hx hy;obtain⟨b,hb,rfl⟩:=hx;obtain⟨b',hb',rfl⟩:=hy;rw[hb] at hb';cases hb';exact .int _ _
theorem Du (s:ByteArray):(fc s).length=s.size:=by
 unfold fc;rw[length_map];rfl
theorem RP {H:ai} {id off n:Nat} (h:H.inb id off n=true):(H.sub id off n).length=n:=by
 unfold ai.inb at h;split at h
 ·rename_i e cs ro hg;have:=Nat.le_of_ble_eq_true h;simp [ai.sub,ai.cs,hg];omega
 ·cases h
theorem xy {H:ai} (hr:HR ρ H w) {id off n b:Nat} (hb:ρ id=some b) (h:H.inb id off n=true):∃xs,(loadCells ⟨b,off,none⟩ n).run E.P w=.ok xs w∧eU ρ (H.sub id off n) xs.toList:=by
 obtain⟨e,cs,ro,hg,hle,b',hb',cs',fz,hcell,hvs,_,_⟩:=yS hr h;rw[hb] at hb';cases hb';have hsub:H.sub id off n=(cs.drop off).take n:=by simp [ai.sub,ai.cs,hg]
 have hlen:cs'.size=cs.length:=by have:=hvs.1;simp at this;omega
 have hrun:=run_loadCells_list (P:=E.P) w ⟨b,off,none⟩ ((cs'.toList.drop off).take n) (by
  intro j v hv;rw[gb,qT hcell];rw[List.getElem?_take] at hv;split at hv
  ·rw[List.getElem?_drop] at hv;simpa using hv
  ·cases hv)
 have hl:((cs'.toList.drop off).take n).length=n:=by simp;omega
 rw[hl] at hrun;exact⟨_,hrun,by rw[hsub];simpa using (hvs.drop off).take n⟩
theorem xz {n:Nat} {x:Value} {m:Nat} (hx:Builtin.lenOf x=pure m):(Builtin.firstCells n 0 x).run E.P w=.ok #[] w:=by
 cases x with
 |string s=>simp [Builtin.firstCells]
 |slice p l c=>cases p<;>simp [Builtin.firstCells,loadCells,loadCellsFrom]
 |_=>exact absurd hx (by simp [Builtin.lenOf,stuck])
theorem vR {H:ai} (hr:HR ρ H w) {x:V} {x':Value} (hx:VR ρ x x') {n m:Nat} {ok:Nat→Bool} {cs:Nat→List V} (hs:lF H n x=some (m,ok,cs)):Builtin.lenOf x'=pure m∧∀k,k≤m→(k=0∨ok k=true)→∃xs,(Builtin.firstCells n k x').run E.P w=.ok xs w∧eU ρ (cs k) xs.toList∧bn (cs k)∧(cs k).length=k*n:=by
 cases x with
 |slice p len cap=>
  simp only[lF,some.injEq,Prod.mk.injEq] at hs;obtain⟨rfl,rfl,rfl⟩:=hs;have hl:Builtin.lenOf x'=pure len:=by cases hx<;>rfl
  refine⟨hl,fun k hk hok=> ?_⟩;by_cases h0:k=0
  ·subst h0;exact⟨#[],xz hl,by simpa using eU.nil ρ,fun v hv=>by simp at hv,by simp⟩
  ·have hz:Nat.beq k 0=false:=by rw[aY];simp [h0]
   have hok:=hok.resolve_left h0;simp only[pI,hz,Bool.false_or,Bool.and_eq_true] at hok;obtain⟨hp,hi,ho⟩:=hok;simp only[hz,cond_false]
   cases p with
   |none=>cases hp
   |some q=>
    obtain⟨id,off⟩:=q;rcases hx.fj with⟨b,hb,rfl⟩|⟨h1,_,_⟩
    ·obtain⟨xs,h1,h2⟩:=xy (E:=E) hr hb hi;exact⟨xs,h1,h2,sR.1 ho,RP hi⟩
    ·omega
 |cL s=>
  simp only[lF,some.injEq,Prod.mk.injEq] at hs;obtain⟨rfl,rfl,rfl⟩:=hs;cases hx;refine⟨rfl,fun k hk hok=> ?_⟩
  have adQ:((s.extract 0 k).data.map fun b=>Value.int .u8 b.toNat).toList=((s.data.map fun b=>Value.int .u8 b.toNat).toList).take k:=by
   simp [ByteArray.data_extract]
  refine⟨_,rfl, ?_,fun v hv=>uu s v (mem_of_mem_take hv), ?_⟩
  ·rw[adQ];exact(uv ρ s).take k
  ·rcases hok with rfl|hok
   ·simp
   ·have:n=1:=Nat.eq_of_beq_eq_true hok;subst this;simp [Du];omega
 |_=>simp [lF] at hs
theorem qU {t el n cT:Nat} {z:List V} (h:fw E t=some (el,n,cT,z)):∃dC z',E.P.underlying t=some (.slice el)∧E.P.info? el=some dC∧
 dC.zero=some z'∧dC.size=n∧dC.bytes=cT∧z.length=n∧0<n∧z'.cells.size=n∧bn z∧∀ρ,eU ρ z z'.cells.toList:=by
 unfold fw at h;split at h
 ·rename_i ti nj;obtain⟨ds,rO,hds⟩:=dP nj;split at h
  ·rename_i e hsh;rw[hsh] at hds;cases iz hds;split at h
   ·rename_i ei hei;obtain⟨dC,dt,hi,hu,hd,hsz,hby,Lj⟩:=jR hei;split at h
    ·rename_i zv hz
     cases hb:(Nat.beq zv.cells.length ei.size&&sF ei.size) with
     |false=>simp [hb] at h
     |true=>
      simp only[hb,cond_true,some.injEq,Prod.mk.injEq] at h;obtain⟨rfl,rfl,rfl,rfl⟩:=h;rw[Bool.and_eq_true] at hb;have hn:zv.cells.length=ei.size:=Nat.eq_of_beq_eq_true hb.1
      have hp:0<ei.size:=by
       have:=hb.2
       cases h:ei.size with
       |zero=>rw[h] at this;cases this
       |succ n=>omega
      rw[hz] at Lj;obtain⟨z',EO,yl⟩:=bind_eq_some_iff.1 Lj;have Nb:∀ρ,eU ρ zv.cells z'.cells.toList:=fun ρ=>(iF yl).cells (fun e=>by have:=kX yl;rw[e] at this;have:=this .cB (by simp [V.cells]);cases this)
      refine⟨dC,z',rO,hi,EO,hsz,hby,hn,hp, ?_,kX yl,Nb⟩;have:=(Nb (fun _=>none)).1;simp at this;omega
    ·cases h
   ·cases h
  ·cases h
 ·cases h
theorem mG {z:List V} {z':Array Value} {n:Nat} (hz:eU ρ z z'.toList) (hn:z.length=n) (hp:0<n) (k:Nat):eU ρ (ia k z) (Builtin.zeroCells z' k).toList:=by
 have hs:z'.size=n:=by have:=hz.1;simp at this;omega
 unfold Builtin.zeroCells;rw[hs];simpa [hs] using FE hz hn hp (k:=k)
theorem pT (a:Addr):(storeCells a []).run E.P w=.ok () w:=by simp [storeCells]
theorem RQ {u:TypeId} (h:ir (bq E u)=true):∃d,E.P.underlying u=some d∧(d=.string∨∃e,d=.slice e):=by
 cases hk:bq E u with
 |none=>rw[hk] at h;cases h
 |some k=>
  obtain⟨d,hu,hd⟩:=bR hk;refine⟨d,hu, ?_⟩;rw[hk] at h;cases d<;>simp [bw,cU] at hd<;>first|(exact .inl rfl)|(exact .inr ⟨_,rfl⟩)|(subst hd;cases h)
theorem A7 {t u el ty:TypeId} {du:TypeDesc} {dC:TypeInfo} (lg:E.P.underlying t=some (.slice el)) (E5:E.P.underlying u=some du) (Rr:du=.string∨∃e,du=.slice e) (hi:E.P.info? el=some dC) {aX:Option Addr} {l cp m:Nat} {x':Value} (hlen:Builtin.lenOf x'=pure m) (hroom:l+m≤cp) {xs:Array Value} (hf:(Builtin.firstCells dC.size m x').run E.P w=.ok xs w) {w':World} (hst:(match aX with|some a=>storeCells (a.add (l*dC.size)) xs.toList|none=>pure ()).run E.P w=.ok () w'):(Builtin.append_ #[t,u] ty #[.slice aX l cp,x']).run E.P w=.ok (.slice aX (l+m) cp) w':=by
 cases aX with
 |none=>
  simp at hst;subst hst;rcases Rr with rfl|⟨e,rfl⟩<;>simp [Builtin.append_,run_underlying lg,run_underlying E5,sizeOf,typeInfo,hi,hlen,hroom,hf]
 |some ad=>
  rcases Rr with rfl|⟨e,rfl⟩<;>simp [Builtin.append_,run_underlying lg,run_underlying E5,sizeOf,typeInfo,hi,hlen,hroom,hf,hst]
theorem yU {t u el ty:TypeId} {du:TypeDesc} {dC:TypeInfo} {z':Value} (lg:E.P.underlying t=some (.slice el)) (E5:E.P.underlying u=some du) (Rr:du=.string∨∃e,du=.slice e) (hi:E.P.info? el=some dC) (hz:dC.zero=some z') {aX:Option Addr} {l cp m:Nat} {x':Value} (hlen:Builtin.lenOf x'=pure m) (hroom:¬l+m≤cp) (ik:(l+m)*(dC.bytes+1)≤70368744177664) {os xs:Array Value} (hfo:(Builtin.firstCells dC.size l (.slice aX l cp)).run E.P w.drew=.ok os w.drew) (hf:(Builtin.firstCells dC.size m x').run E.P w.drew=.ok xs w.drew):(Builtin.append_ #[t,u] ty #[.slice aX l cp,x']).run E.P w=.ok (.slice (some ⟨w.heap.size,0,none⟩) (l+m) (grownCap w (l+m) cp el)) (w.drew.alloc (.cells (os++xs++Builtin.zeroCells z'.cells (grownCap w (l+m) cp el-(l+m))) el)):=by
 have h1:(l+m)*dC.bytes≤70368744177664:=Nat.le_trans (Nat.mul_le_mul_left _ (by omega)) ik;have h2:l+m≤70368744177664:=Nat.le_trans (Nat.le_mul_of_pos_right _ (by omega)) ik;have h63':¬(9223372036854775807<((l:Int)+(m:Int))):=by omega
 have hg:=growslice_fits (need:=l+m) (old:=cp) (bytes:=dC.bytes) (by omega) (by omega);have QL:¬(281474976710656<Builtin.nextslicecap (l+m) cp*dC.bytes):=by omega
 rcases Rr with rfl|⟨e,rfl⟩<;>simp [Builtin.append_,run_underlying lg,run_underlying E5,sizeOf,typeInfo,zeroValue,hi,hz,hlen,hroom,h63',QL,Question.forced,hf,hfo,newRow,grownCap]
theorem yV {t u el ty:TypeId} {dC:TypeInfo} {z':Value} (lg:E.P.underlying t=some (.slice el)) (E5:E.P.underlying u=some (.int .i64)) (hi:E.P.info? el=some dC) (hz:dC.zero=some z') (hpos:0<dC.size) {aX:Option Addr} {l cp:Nat} {m:Int} (h0:0≤m) (hb:m*(dC.bytes+1)≤70368744177664) (hroom:l+m.toNat≤cp) {w':World} (hst:(match aX with|some a=>storeCells (a.add (l*dC.size)) (Builtin.zeroCells z'.cells m.toNat).toList|none=>pure ()).run E.P w=.ok () w'):(Builtin.append_ #[t,u] ty #[.slice aX l cp,.int .i64 m]).run E.P w=.ok (.slice aX (l+m.toNat) cp) w':=by
 have Ur:m*1≤m*(dC.bytes+1):=Int.mul_le_mul_of_nonneg_left (by omega) h0;have hm2:m*dC.bytes≤m*(dC.bytes+1):=Int.mul_le_mul_of_nonneg_left (by omega) h0;have hw1:IntKind.i64.wrap m=m:=IntWalk.i64_in _ ⟨by omega,by omega⟩;have e1:¬(281474976710656<m*(dC.bytes:Int)):=by omega
 have e3:¬m<0:=by omega
 by_cases hn:m.toNat*dC.size=0
 ·have hm0:m.toNat=0:=by
   rcases Nat.mul_eq_zero.1 hn with h|h
   ·exact h
   ·omega
  have Na:Builtin.zeroCells z'.cells 0= #[]:=by simp [Builtin.zeroCells]
  rw[hm0,Na] at hst
  cases aX with
  |none=>
   simp at hst;subst hst;simp [Builtin.append_,run_underlying lg,run_underlying E5,sizeOf,typeInfo,zeroValue,hi,hz,hw1,e1,e3,hm0,asInt,asIntOf];omega
  |some ad=>
   simp at hst;simp [Builtin.append_,run_underlying lg,run_underlying E5,sizeOf,typeInfo,zeroValue,hi,hz,hw1,e1,e3,hm0,asInt,asIntOf,hst];omega
 ·cases aX with
  |none=>
   simp at hst;subst hst;simp [Builtin.append_,run_underlying lg,run_underlying E5,sizeOf,typeInfo,zeroValue,hi,hz,hw1,e1,e3,hroom,asInt,asIntOf]
  |some ad=>
   simp [Builtin.append_,run_underlying lg,run_underlying E5,sizeOf,typeInfo,zeroValue,hi,hz,hw1,e1,e3,hn,hroom,asInt,asIntOf,hst]
theorem xA {t u el ty:TypeId} {dC:TypeInfo} {z':Value} (lg:E.P.underlying t=some (.slice el)) (E5:E.P.underlying u=some (.int .i64)) (hi:E.P.info? el=some dC) (hz:dC.zero=some z') (hpos:0<dC.size) {aX:Option Addr} {l cp:Nat} {m:Int} (h0:0≤m) (hb:m*(dC.bytes+1)≤70368744177664) (hroom:¬l+m.toNat≤cp) (ik:(l+m.toNat)*(dC.bytes+1)≤70368744177664) {os:Array Value} (hfo:(Builtin.firstCells dC.size l (.slice aX l cp)).run E.P w.drew=.ok os w.drew):(Builtin.append_ #[t,u] ty #[.slice aX l cp,.int .i64 m]).run E.P w=.ok (.slice (some ⟨w.heap.size,0,none⟩) (l+m.toNat) (grownCap w (l+m.toNat) cp el)) (w.drew.alloc (.cells (os++Builtin.zeroCells z'.cells m.toNat++Builtin.zeroCells z'.cells (grownCap w (l+m.toNat) cp el-(l+m.toNat))) el)):=by
 have Ur:m*1≤m*(dC.bytes+1):=Int.mul_le_mul_of_nonneg_left (by omega) h0;have hm2:m*dC.bytes≤m*(dC.bytes+1):=Int.mul_le_mul_of_nonneg_left (by omega) h0;have hw1:IntKind.i64.wrap m=m:=IntWalk.i64_in _ ⟨by omega,by omega⟩;have e1:¬(281474976710656<m*(dC.bytes:Int)):=by omega
 have e3:¬m<0:=by omega
 have h1:(l+m.toNat)*dC.bytes≤70368744177664:=Nat.le_trans (Nat.mul_le_mul_left _ (by omega)) ik;have h2:l+m.toNat≤70368744177664:=Nat.le_trans (Nat.le_mul_of_pos_right _ (by omega)) ik;have h63':¬(9223372036854775807<((l:Int)+(m.toNat:Int))):=by omega
 have h63:¬(9223372036854775807<((l:Int)+max m 0)):=by omega
 have hg:=growslice_fits (need:=l+m.toNat) (old:=cp) (bytes:=dC.bytes) (by omega) (by omega);have QL:¬(281474976710656<Builtin.nextslicecap (l+m.toNat) cp*dC.bytes):=by omega
 by_cases hn:m.toNat*dC.size=0
 ·have hm0:m.toNat=0:=by
   rcases Nat.mul_eq_zero.1 hn with h|h
   ·exact h
   ·omega
  have Na:Builtin.zeroCells z'.cells 0= #[]:=by simp [Builtin.zeroCells]
  rw[hm0] at hroom h63' QL⊢;have adR:m=0:=by omega
  subst adR;have Xa:¬l≤cp:=by simpa using hroom
  have adS:¬(9223372036854775807:Int)<(l:Int):=by simpa using h63'
  have adT:¬(281474976710656<Builtin.nextslicecap l cp*dC.bytes):=by simpa using QL
  simp [Builtin.append_,Xa,adS,adT,run_underlying lg,run_underlying E5,sizeOf,typeInfo,zeroValue,hi,hz,hw1,Question.forced,hfo,newRow,grownCap,asInt,asIntOf,Na]
 ·simp [Builtin.append_,run_underlying lg,run_underlying E5,sizeOf,typeInfo,zeroValue,hi,hz,hw1,e1,e3,hn,hroom,h63,QL,Question.forced,hfo,newRow,grownCap,asInt,asIntOf]
theorem UJ {x:Value} {k:IntKind} {n:Int} (h:VR ρ (.int k n) x):x=.int k n:=h.iy
structure Yc (E:kG) (t u ty el:TypeId) (dC:TypeInfo) (z':Value) (x':Value) (m:Nat) (A:World→Array Value→Prop):Prop where
 inn:∀{w w':World} {aX:Option Addr} {l cp:Nat} {xs:Array Value},l+m≤cp→A w xs→(match aX with|some a=>storeCells (a.add (l*dC.size)) xs.toList|none=>pure ()).run E.P w=.ok () w'→
  (Builtin.append_ #[t,u] ty #[.slice aX l cp,x']).run E.P w=.ok (.slice aX (l+m) cp) w'
 out:∀{w:World} {aX:Option Addr} {l cp:Nat} {os xs:Array Value},¬l+m≤cp→(l+m)*(dC.bytes+1)≤70368744177664→(Builtin.firstCells dC.size l (.slice aX l cp)).run E.P w.drew=.ok os w.drew→A w.drew xs→
  (Builtin.append_ #[t,u] ty #[.slice aX l cp,x']).run E.P w=.ok (.slice (some ⟨w.heap.size,0,none⟩) (l+m) (grownCap w (l+m) cp el))
   (w.drew.alloc (.cells (os++xs++Builtin.zeroCells z'.cells (grownCap w (l+m) cp el-(l+m))) el))
theorem Dv {H:ai} {t u ty el n cT:Nat} {z:List V} {dC:TypeInfo} {z':Value} (lg:E.P.underlying t=some (.slice el)) (hi:E.P.info? el=some dC) (hz:dC.zero=some z') (hsz:dC.size=n) (hby:dC.bytes=cT)
 (hzl:z.length=n) (hpos:0<n) (hzs:z'.cells.size=n) (Th:bn z) (QM:∀ρ,eU ρ z z'.cells.toList) {x:V} {x':Value} (hx:VR ρ x x') {r:Bool} {m:Nat} {ok:Nat→Bool} {cs:Nat→List V}
 (hs:mU H n cT z (bq E u) x=some (r,m,ok,cs)) (hr:r=true):∃A:World→Array Value→Prop,Yc E t u ty el dC z' x' m A∧
  ∀w,HR ρ H w→(m=0∨ok m=true)→∃xs,A w xs∧eU ρ (cs m) xs.toList∧bn (cs m)∧(cs m).length=m*n:=by
 subst hr;subst hsz;subst hby
 have key:ir (bq E u)=true→lF H dC.size x=some (m,ok,cs)→∃A:World→Array Value→Prop,Yc E t u ty el dC z' x' m A∧
  ∀w,HR ρ H w→(m=0∨ok m=true)→∃xs,A w xs∧eU ρ (cs m) xs.toList∧bn (cs m)∧(cs m).length=m*dC.size:=by
  intro hu hsrc;obtain⟨du,E5,Rr⟩:=RQ hu
  have hlen:Builtin.lenOf x'=pure m:=by
   cases x with
   |slice p len cap=>
    simp only[lF,some.injEq,Prod.mk.injEq] at hsrc;obtain⟨rfl,_,_⟩:=hsrc;cases hx<;>rfl
   |cL s=>
    simp only[lF,some.injEq,Prod.mk.injEq] at hsrc;obtain⟨rfl,_,_⟩:=hsrc;cases hx;rfl
   |_=>simp [lF] at hsrc
  refine⟨fun w xs=>(Builtin.firstCells dC.size m x').run E.P w=.ok xs w,⟨fun hroom hf hst=>A7 lg E5 Rr hi hlen hroom hf hst,fun hroom ik hfo hf=>yU lg E5 Rr hi hz hlen hroom ik hfo hf⟩,fun w hw hok=> ?_⟩;obtain⟨_,tJ⟩:=vR (E:=E) hw hx hsrc;exact tJ m (Nat.le_refl _) hok
 unfold mU at hs;split at hs
 ·rename_i hk;obtain⟨d,E5,hd⟩:=bR hk;split at hs
  ·rename_i mi;simp only[some.injEq,Prod.mk.injEq,Bool.and_eq_true,decide_eq_true_eq] at hs;obtain⟨⟨h0,hb⟩,rfl,rfl,rfl⟩:=hs;have hx':=UJ hx;subst hx';cases d<;>simp [bw,cU] at hd
   subst hd;refine⟨fun w xs=>xs=Builtin.zeroCells z'.cells mi.toNat,⟨fun hroom hf hst=> ?_,fun hroom ik hfo hf=> ?_⟩,fun w hw hok=>⟨_,rfl, ?_, ?_, ?_⟩⟩
   ·subst hf;exact yV lg E5 hi hz hpos h0 hb hroom hst
   ·subst hf;exact xA lg E5 hi hz hpos h0 hb hroom ik hfo
   ·exact mG (QM ρ) hzl hpos _
   ·exact gG Th _
   ·show (ia _ z).length=_
    rw[gg,hzl]
  ·cases hs
 ·split at hs
  ·rename_i hu;split at hs
   ·rename_i m' ok' cs' hsrc;simp only[some.injEq,Prod.mk.injEq,true_and] at hs;obtain⟨rfl,rfl,rfl⟩:=hs;exact key hu hsrc
   ·cases hs
  ·cases hs
theorem Dw (h:SR H0 ρ0 w0 ann N ρ lam S a w) {ts:List TypeId} {args:List V} {args':Array Value} {ty:TypeId} {K:Oq→Nat→Nat→ai→Prop} (ha:eU ρ args args'.toList) (ho:aD E ts args S.hp K):∃q n c H' ρ' v w',K q n c H'∧(Builtin.append_ ts.toArray ty args').run E.P w=.ok v w'∧SR H0 ρ0 w0 ann N ρ' lam {S with hp:=H'} a w'∧TR ρ' lam (.v (.slice q n c)) v:=by
 unfold aD at ho;split at ho
 ·rename_i t u p l cp x;split at ho
  ·rename_i el n cT z hel
   split at ho
   ·rename_i r0 m ok cs hsrc;obtain⟨hr0,ho⟩:=aW ho;obtain⟨s',r1,vy,hs',og⟩:=ha.dB;obtain⟨x',r2,xN,hx',tK⟩:=og.dB;have QN:=tK.gu;subst QN;subst xN
    obtain rfl:args'= #[s',x']:=by
     apply Array.ext';rw[vy]
    obtain⟨dC,z',lg,hi,hz,hsz,hby,hzl,hpos,hzs,Th,QM⟩:=qU hel;obtain⟨A,hA,tJ⟩:=Dv (ty:=ty) lg hi hz hsz hby hzl hpos hzs Th QM hx' hsrc hr0;subst hsz;subst hby
    have hbase:∃aX,s'=.slice aX l cp∧(p=none→aX=none)∧(∀id off,p=some (id,off)→(∃b,ρ id=some b∧aX=some ⟨b,off,none⟩)∨(l=0∧cp=0∧∃ad,aX=some ad)):=by
     cases p with
     |none=>exact⟨none,hs'.lK,fun _=>rfl,fun _ _ h=>by cases h⟩
     |some q=>
      obtain⟨id,off⟩:=q;rcases hs'.fj with⟨b,hb,he⟩|⟨h0,h1,ad,he⟩
      ·exact⟨_,he,fun h=>by(cases h),fun id' off' h=>by cases h;exact .inl ⟨b,hb,rfl⟩⟩
      ·exact⟨_,by rw[he,h0,h1],fun h=>by(cases h),fun id' off' h=>.inr ⟨h0,h1,ad,rfl⟩⟩
    obtain⟨aX,rfl,hb0,ym⟩:=hbase;rcases gA ho with⟨hroom,ho⟩|⟨hroom,ho⟩
    ·have hroom:l+m≤cp:=Nat.le_of_ble_eq_true hroom;obtain⟨hr,ho⟩:=aW ho;by_cases hm:m=0
     ·obtain⟨xs,h1,h2,h3,h4⟩:=tJ w h.hr (.inl hm)
      have hxs:xs= #[]:=by
       have:=h2.1;rw[h4,hm] at this;apply Array.eq_empty_of_size_eq_zero;simpa using this.symm
      subst hxs;have hz0:Nat.beq m 0=true:=by rw[aY];simp [hm]
      simp only[hz0,cond_true] at ho;refine⟨_,_,_,_,ρ,.slice aX (l+m) cp,w,ho,hA.inn hroom h1 ?_,h,.v ?_⟩
      ·cases aX<;>simp [pT]
      ·rw[hm];simpa using hs'
     ·have hz0:Nat.beq m 0=false:=by rw[aY];simp [hm]
      simp only[hz0,Bool.false_or,Bool.and_eq_true,cond_false] at hr ho;obtain⟨hp,hok,ES⟩:=hr
      cases p with
      |none=>cases hp
      |some q=>
       obtain⟨id,off⟩:=q;simp only[getD_some] at ES ho;rcases ym id off rfl with⟨b,hb,rfl⟩|⟨h0,h1,_⟩
       ·obtain⟨xs,h1,h2,h3,h4⟩:=tJ w h.hr (.inr hok);unfold ai.wr at ES;split at ES
        ·rename_i e ccs ro hg;rw[Bool.and_eq_true] at ES;have hro:ro=false:=by simpa using ES.1
         subst hro;obtain⟨b',hb',hc⟩:=h.hr.wW id _ hg;rw[hb] at hb';cases hb';obtain⟨w',g1,g2,g3⟩:=mF (E:=E) (off:=off+l*dC.size) hc h2 h3 (by rw[h4];exact Nat.le_of_ble_eq_true ES.2);have hst:S.hp.store id (off+l*dC.size) (cs m)=S.hp.put id (.cells e (bH ccs (off+l*dC.size) (cs m)) false):=by simp [ai.store,hg]
         rw[hst] at ho;exact⟨_,_,_,_,ρ,_,w',ho,hA.inn hroom h1 (by simpa [gb] using g1),h.Ds hg rfl rfl hb g3 g2,.v (.slice _ _ hb)⟩
        ·cases ES
       ·omega
    ·have Xb:¬l+m≤cp:=by
      intro hc;rw[Nat.ble_eq_true_of_le hc] at hroom;cases hroom
     obtain⟨hr,ho⟩:=aW ho;simp only[Bool.and_eq_true] at hr;obtain⟨hrow,hok,ik⟩:=hr;have ik:=Nat.le_of_ble_eq_true ik;have hd:HR ρ S.hp w.drew:=⟨h.hr.wW,h.hr.inj,h.hr.lt,h.hr.gl⟩
     obtain⟨_,hold⟩:=vR (E:=E) hd hs' (n:=dC.size) (m:=l) (ok:=fun m=>pI S.hp dC.size p m)
      (cs:=fun m=>bif Nat.beq m 0 then [] else S.hp.sub (p.getD (0,0)).1 (p.getD (0,0)).2 (m*dC.size)) rfl
     obtain⟨xs,h1,h2,h3,h4⟩:=tJ w.drew hd (.inr hok);obtain⟨os,k1,k2,k3,k4⟩:=hold l (Nat.le_refl _) (.inr hrow);have aek:l+m≤70368744177664:=Nat.le_trans (Nat.le_mul_of_pos_right _ (by omega)) ik;have QO:=grownCap_ge w (l+m) cp el;have QP:=grownCap_le_maxLen w (l+m) cp el (by simp only[maxLen];omega);have hk:=ho (grownCap w (l+m) cp el) QO (by simp only[maxLen] at QP;omega);have Nb:=(k2.append h2).append (mG (QM ρ) hzl hpos (grownCap w (l+m) cp el-(l+m)));refine⟨_,_,_,_,_,_,_,hk,hA.out Xb ik k1 h1,h.Dr ⟨rfl,rfl,rfl,rfl⟩ (iH ?_ ?_),.v (.slice _ _ (by rw[eI,if_pos rfl]))⟩
     ·simpa [yq,ef,append_assoc] using Nb
     ·exact k3.append (h3.append (gG Th _))
   ·exact ho.elim
  ·exact ho.elim
 ·exact ho.elim
theorem A8 {t el cT:Nat} {n:Nat} {z:List V} {dC:TypeInfo} {z':Value} (lg:E.P.underlying t=some (.slice el)) (hi:E.P.info? el=some dC) (hz:dC.zero=some z')
 (hzs:z'.cells.size=dC.size) (hpos:0<dC.size) {k k':IntKind} {l c:Int} (h0:0≤l) (h1:l≤c) (h2:c*(dC.bytes+1)≤70368744177664):
 (Instr.makeSlice t (.int k l) (.int k' c)).run E.P w=.ok (.slice (some ⟨w.heap.size,0,none⟩) l.toNat c.toNat)
  (w.alloc (.cells (Builtin.zeroCells z'.cells c.toNat) el)):=by
 have hc:0≤c:=by omega
 have Ur:c*1≤c*(dC.bytes+1):=Int.mul_le_mul_of_nonneg_left (by omega) hc;have hm2:c*dC.bytes≤c*(dC.bytes+1):=Int.mul_le_mul_of_nonneg_left (by omega) hc;have hw1:IntKind.i64.wrap l=l:=IntWalk.i64_in _ ⟨by omega,by omega⟩;have XX:IntKind.i64.wrap c=c:=IntWalk.i64_in _ ⟨by omega,by omega⟩;have e1:¬(281474976710656<(dC.bytes:Int)*c):=by rw[Int.mul_comm];omega
 have e2:¬c<0:=by omega
 have e3:¬l<0:=by omega
 have e4:¬c<l:=by omega
 have hroom:¬roomBytes<c.toNat*dC.bytes:=by
  have:((c.toNat*dC.bytes:Nat):Int)=c*dC.bytes:=by rw[Int.natCast_mul,Int.toNat_of_nonneg hc]
  unfold roomBytes;omega
 have hz0:z'.cells.size≠0:=by omega
 by_cases hn:c.toNat*dC.size=0
 ·have hcn:c.toNat=0:=by
   rcases Nat.mul_eq_zero.1 hn with h|h
   ·exact h
   ·omega
  simp [Instr.makeSlice,run_underlying lg,typeInfo,sizeOf,hi,hw1,XX,e1,e2,e3,e4,askRoom,hcn,newRow,Builtin.zeroCells,asInt,asIntOf,hzs];have hr:Array.range 0= #[]:=by simp
  rw[hr,Array.map_empty,Array.map_empty]
 ·simp [Instr.makeSlice,run_underlying lg,typeInfo,sizeOf,zeroValue,hi,hz,hw1,XX,e1,e2,e3,e4,askRoom,hn,newRow,Builtin.zeroCells,asInt,asIntOf,hzs]
theorem yW {e:TypeId} {cs:List V} {off b:Nat} (hc:fU ρ e cs true w.heap[b]?):∃w',(markStringish ⟨b,off,none⟩).run E.P w=.ok () w'∧fU ρ e cs true w'.heap[b]? ∧pt b w w':=by
 obtain⟨cs',fz,hb,hvs,hone,hfz⟩:=hc;have hsh:w.shape? b=some (e,cs'.size):=by simp [World.shape?,hb]
 refine⟨w.freeze ⟨b,cs'.size,none⟩ 1,by simp [markStringish,shape,freeze,Sem.run,hsh], ?_, ?_⟩
 ·refine⟨cs',if fz.1 == fz.2 then (cs'.size,cs'.size+1) else (min fz.1 cs'.size,max fz.2 (cs'.size+1)), ?_,hvs,hone,fun _=>.inr ?_⟩
  ·simp [World.freeze,Array.getElem?_modify,hb]
  ·have:=hfz rfl;split
   ·simp
   ·rename_i hne;have hne:fz.1≠fz.2:=by simpa using hne
    simp only[Nat.le_min];omega
 ·refine⟨fun b' hb'=> ?_,by simp [World.freeze],rfl,rfl,rfl⟩;simp only[World.freeze];rw[if_neg (by decide)];simp only[Array.getElem?_modify];rw[if_neg (fun e=>hb' e.symm)]
theorem uw {H:ai} {id:Nat} {o:Obj} (h:H.get id=some o):H.put id o=H:=by
 unfold ai.put;congr 1;funext j;rw[aY];by_cases hj:j=id
 ·subst hj;simp [h]
 ·simp [hj]
theorem Dx {H:ai} (hr:HR ρ H w) {id off n:Nat} (h:H.wr id off n=true):∃e cs b,H.get id=some (.cells e cs false)∧off+n≤cs.length∧ρ id=some b∧fU ρ e cs true w.heap[b]? :=by
 unfold ai.wr at h;split at h
 ·rename_i e cs ro hg;rw[Bool.and_eq_true] at h;have hro:ro=false:=by simpa using h.1
  subst hro;obtain⟨b,h1,h2⟩:=hr.wW id _ hg;exact⟨e,cs,b,hg,Nat.le_of_ble_eq_true h.2,h1,h2⟩
 ·cases h
theorem ux {d:TypeDesc} {k e:TypeId} (h:bw d=.map k e):d=.map k e:=by cases d<;>simp_all [bw]
theorem RR {t:TypeId} {i:TI} {z:V} (h:E.ti t=some i) (hz:i.zero=some z) (ρ:dK) (w:World):∃z',(zeroValue t).run E.P w=.ok z' w∧VR ρ z z':=by
 obtain⟨dC,dt,hi,hu,hd,_,_,Lj⟩:=jR h;rw[hz] at Lj;obtain⟨z',EO,yl⟩:=bind_eq_some_iff.1 Lj;exact⟨z',by simp [zeroValue,typeInfo,hi,EO],iF yl⟩
theorem fo {em:Bool} {kt:TypeId} {k kd:IntKind} {n:Int} (h:E.P.underlying kt=some (.int kd)):(Instr.checkKey em 10000 kt (.int k n)).run E.P w=.ok () w:=by
 have:∀m,(Instr.checkKey em (m+1) kt (.int k n)).run E.P w=.ok () w:=by
  intro m;simp [Instr.checkKey,run_underlying h]
 exact this 9999
theorem uy {kd k:IntKind} {n:Int}:∀{es:List (V×V×Nat)} {es':List MapEntry} (i:Nat),ju ρ es es'→sB k es=true→(np n es=none∧Instr.findNow (.int kd) (.int k n) es' i=some none)∨∃v j e,np n es=some v∧Instr.findNow (.int kd) (.int k n) es' i=some (some (i+j,e.val))∧es'[j]? =some e∧VR ρ v e.val∧e.key=.int k n∧(∀v2 x2,VR ρ v2 x2→ju ρ (E8 n v2 es) (es'.modify j fun e=>{e with key:=.int k n,val:=x2}))∧ju ρ (yo n es) (es'.eraseIdx j)
 |[],[],i,_,_=>.inl ⟨rfl,rfl⟩
 |[],_::_,_,h,_=>h.elim
 |_::_,[],_,h,_=>h.elim
 |x::l,y::m,i,h,hk=>by
  obtain⟨⟨h1,h2,h3⟩,h4⟩:=h;rw[sB,Bool.and_eq_true] at hk;obtain⟨hx,hk⟩:=hk;have hx':x.1=.int k x.1.aa:=(V.sx hx).symm;have hy:y.key=.int k x.1.aa:=VR.iy (hx'▸h1);by_cases hn:x.1.aa=n
  ·right;rw[hn] at hx' hy;refine⟨x.2.1,0,y,by simp [np,hn],by simp [Instr.findNow,Instr.sameNow,hy],rfl,h2,hy,fun v2 x2 hv=> ?_, ?_⟩
   ·simp only[E8,hn,decide_true,cond_true,modify_zero_cons];exact⟨⟨by rw[hx'];exact .int k n,hv,h3⟩,h4⟩
   ·simp only[yo,hn,decide_true,cond_true,eraseIdx_cons_zero];exact h4
  ·have hn':¬n=x.1.aa:=fun e=>hn e.symm
   have hb:(n == x.1.aa)=false:=by simpa using hn'
   rcases uy (kd:=kd) (n:=n) (i+1) h4 hk with⟨g1,g2⟩|⟨v,j,e,g1,g2,g3,g4,g5,g6,g7⟩
   ·exact .inl ⟨by simp [np,hn,g1],by simp [Instr.findNow,Instr.sameNow,hy,hb,g2]⟩
   ·refine .inr ⟨v,j+1,e,by simp [np,hn,g1], ?_,by simpa using g3,g4,g5,fun v2 x2 hv=> ?_, ?_⟩
    ·simp only[Instr.findNow,Instr.sameNow,hy,hb,if_true,g2];rw[Nat.add_assoc,Nat.add_comm 1 j]
    ·simp only[E8,hn,decide_false,cond_false,modify_succ_cons];exact⟨⟨h1,h2,h3⟩,g6 v2 x2 hv⟩
    ·simp only[yo,hn,decide_false,cond_false,eraseIdx_cons_succ];exact⟨⟨h1,h2,h3⟩,g7⟩
theorem sS {H:ai} {id:Nat} (h:H.isMap id=true):H.get id=some (.map (H.ents id) (H.clock id)):=by
 unfold ai.isMap at h;split at h
 ·rename_i es c hg;simp [ai.ents,ai.clock,hg]
 ·cases h
theorem g8 {w:World} {b:Nat} {es:Array MapEntry} {c:Nat} (h:w.heap[b]? =some (.map es c)):(getObj b).run E.P w=.ok (.map es c) w:=by
 simp [getObj,Sem.run,h]
theorem BD {w:World} {b:Nat} {m:Option Nat} {s l:Nat} {seen:Array Nat} (h:w.heap[b]? =some (.mapIter m s seen l)):(getObj b).run E.P w=.ok (.mapIter m s seen l) w:=by
 simp [getObj,Sem.run,h]
theorem qV {w:World} {b:Nat} {es:Array MapEntry} {c:Nat} {o':Go.Obj} (h:w.heap[b]? =some (.map es c)):(setObj b o').run E.P w=.ok () {w with heap:=w.heap.setIfInBounds b o'}:=by
 simp [setObj,Sem.run,h]
theorem pU (w:World) (b:Nat) (o:Go.Obj):pt b w {w with heap:=w.heap.setIfInBounds b o}:=
 ⟨fun b' hb=>by simp [Ne.symm hb],by simp,rfl,rfl,rfl⟩
theorem yX {w:World} {b:Nat} {x o:Go.Obj} (h:w.heap[b]? =some x):({w with heap:=w.heap.setIfInBounds b o}:World).heap[b]? =some o:=by
 have:b<w.heap.size:=by
  rcases Nat.lt_or_ge b w.heap.size with g|g
  ·exact g
  ·rw[Array.getElem?_eq_none g] at h;cases h
 simp [this]
theorem yY {H:ai} (hr:HR ρ H w) {k:IntKind} {id:Nat} {x:Value} (hx:VR ρ (.map (some id)) x) (hok:eM H k (some id)=true):∃b es',ρ id=some b∧x=.map (some b)∧H.get id=some (.map (H.ents id) (H.clock id))∧w.heap[b]? =some (.map es' (H.clock id))∧ju ρ (H.ents id) es'.toList∧sB k (H.ents id)=true:=by
 simp only[eM,isNone_some,Bool.false_or,getD_some,Bool.and_eq_true] at hok;have hg:=sS hok.1;obtain⟨b,hb,es',he,Hk⟩:=hr.wW id _ hg
 cases hx with
 |map hb'=>
  rw[hb] at hb';cases hb';exact⟨b,es',hb,rfl,hg,he,Hk,hok.2⟩
theorem Dy {t kt et:TypeId} {k:IntKind} (lg:E.P.underlying t=some (.map kt et)) (Hl:E.P.underlying kt=some (.int k)) {z:V} {z':Value} (hz:(zeroValue et).run E.P w=.ok z' w) (hzv:VR ρ z z') {H:ai} (hr:HR ρ H w) {r:Option Nat} {x:Value} (hx:VR ρ (.map r) x) {n:Int} (hok:eM H k r=true) (c:Bool):∃v',VR ρ (cC H r n z) v'∧(Instr.lookup t x (.int k n) c).run E.P w=.ok (if c then .tuple #[v',.bool (lA H r n)] else v') w:=by
 cases r with
 |none=>
  cases hx;refine⟨z',hzv, ?_⟩;cases c<;>simp [Instr.lookup,run_underlying lg,fo (E:=E) Hl,Instr.findKey,run_underlying Hl,Instr.findNow,hz,lA]
 |some id=>
  obtain⟨b,es',hb,rfl,hg,he,Hk,QQ⟩:=yY hr hx hok;rcases uy (kd:=k) (n:=n) 0 Hk QQ with⟨g1,g2⟩|⟨v,j,e,g1,g2,g3,g4,g5,g6,g7⟩
  ·refine⟨z',by simpa [cC,g1] using hzv, ?_⟩;cases c<;>simp [Instr.lookup,run_underlying lg,g8 (E:=E) he,fo (E:=E) Hl,Instr.findKey,run_underlying Hl,g2,hz,lA,g1]
  ·refine⟨e.val,by simpa [cC,g1] using g4, ?_⟩;cases c<;>simp [Instr.lookup,run_underlying lg,g8 (E:=E) he,fo (E:=E) Hl,Instr.findKey,run_underlying Hl,g2,lA,g1]
theorem ju.Yd {x:V×V×Nat} {y:MapEntry} (h:VR ρ x.1 y.key∧VR ρ x.2.1 y.val∧x.2.2=y.born):∀{l:List (V×V×Nat)} {m:List MapEntry},ju ρ l m→ju ρ (l++[x]) (m++[y])
 |[],[],_=>⟨h,trivial⟩
 |_::_,_::_,hl=>⟨hl.1,ju.Yd h hl.2⟩
 |[],_::_,hl=>hl.elim
 |_::_,[],hl=>hl.elim
theorem xB {t kt et:TypeId} {k:IntKind} (lg:E.P.underlying t=some (.map kt et)) (Hl:E.P.underlying kt=some (.int k)) {H:ai} (hr:HR ρ H w) {id:Nat} {x:Value} (hx:VR ρ (.map (some id)) x) {n:Int} (hok:eM H k (some id)=true) {v:V} {y:Value} (hv:VR ρ v y):∃b w' o,ρ id=some b∧(Instr.mapUpdate t x (.int k n) y).run E.P w=.ok () w'∧pt b w w'∧H.get id=some (.map (H.ents id) (H.clock id))∧iq H k id n v=H.put id o∧o.rw =true∧Fu ρ o w'.heap[b]? :=by
 obtain⟨b,es',hb,rfl,hg,he,Hk,QQ⟩:=yY hr hx hok;rcases uy (kd:=k) (n:=n) 0 Hk QQ with⟨g1,g2⟩|⟨v0,j,e,g1,g2,g3,g4,g5,g6,g7⟩
 ·refine⟨b,_,.map (H.ents id++[(.int k n,v,H.clock id)]) (H.clock id+1),hb, ?_,pU w b (.map (es'.push {key:=.int k n,val:=y,born:=H.clock id}) (H.clock id+1)),hg, ?_,rfl, ?_⟩
  ·simp [Instr.mapUpdate,run_underlying lg,g8 (E:=E) he,fo (E:=E) Hl,Instr.findKey,run_underlying Hl,g2,qV (E:=E) he]
  ·simp [iq,g1]
  ·exact⟨_,yX he,by rw[Array.toList_push];exact Hk.Yd ⟨.int k n,hv,rfl⟩⟩
 ·have hj:es'[j]? =some e:=by simpa using g3
  refine⟨b,_,.map (E8 n v (H.ents id)) (H.clock id),hb, ?_,pU w b (.map (es'.modify j fun e=>{e with key:=.int k n,val:=y}) (H.clock id)),hg, ?_,rfl, ?_⟩
  ·simp [Instr.mapUpdate,run_underlying lg,g8 (E:=E) he,fo (E:=E) Hl,Instr.findKey,run_underlying Hl,g2,qV (E:=E) he,hj,g5,Instr.keyThatStays,Instr.sameBits]
  ·simp [iq,g1]
  ·exact⟨_,yX he,by rw[Array.toList_modify];exact g6 v y hv⟩
theorem Dz {t kt et u ty:TypeId} {k:IntKind} (lg:E.P.underlying t=some (.map kt et)) (Hl:E.P.underlying kt=some (.int k)) {H:ai} (hr:HR ρ H w) {id:Nat} {x:Value} (hx:VR ρ (.map (some id)) x) {n:Int} (hok:eM H k (some id)=true) {ts:Array TypeId} (hts:ts[0]? =some t):∃b w' o,ρ id=some b∧(Builtin.delete_ ts ty #[x,.int k n]).run E.P w=.ok (.tuple #[]) w'∧pt b w w'∧H.get id=some (.map (H.ents id) (H.clock id))∧pH H (some id) n=H.put id o∧o.rw =true∧Fu ρ o w'.heap[b]? :=by
 obtain⟨b,es',hb,rfl,hg,he,Hk,QQ⟩:=yY hr hx hok
 have ET:∀l:List (V×V×Nat),np n l=none→yo n l=l:=by
  intro l
  induction l with
  |nil=>intro _;rfl
  |cons x l ih=>
   intro h;simp only[np] at h;by_cases hn:x.1.aa=n
   ·simp [hn] at h
   ·simp only[hn,decide_false,cond_false] at h;simp [yo,hn,ih h]
 rcases uy (kd:=k) (n:=n) 0 Hk QQ with⟨g1,g2⟩|⟨v0,j,e,g1,g2,g3,g4,g5,g6,g7⟩
 ·refine⟨b,_,.map (yo n (H.ents id)) (H.clock id),hb, ?_,pU w b (.map es' (H.clock id)),hg, ?_,rfl, ?_⟩
  ·simp [Builtin.delete_,hts,run_underlying lg,g8 (E:=E) he,fo (E:=E) Hl,Instr.findKey,run_underlying Hl,g2,qV (E:=E) he]
  ·simp [pH]
  ·exact⟨_,yX he,by rw[ET _ g1];exact Hk⟩
 ·refine⟨b,_,.map (yo n (H.ents id)) (H.clock id),hb, ?_,pU w b (.map (es'.eraseIdxIfInBounds j) (H.clock id)),hg, ?_,rfl, ?_⟩
  ·simp [Builtin.delete_,hts,run_underlying lg,g8 (E:=E) he,fo (E:=E) Hl,Instr.findKey,run_underlying Hl,g2,qV (E:=E) he]
  ·simp [pH]
  ·refine⟨_,yX he, ?_⟩;have:(es'.eraseIdxIfInBounds j).toList=es'.toList.eraseIdx j:=by simp
   rw[this];exact g7
theorem FF:∀{l:List (V×V×Nat)} {m:List MapEntry},ju ρ l m→l.length=m.length
 |[],[],_=>rfl
 |_::_,_::_,hl=>by simp [FF hl.2]
 |[],_::_,hl=>hl.elim
 |_::_,[],hl=>hl.elim
theorem yZ {n:Nat}:∀{l:List Nat},tT n l=true↔n∈l
 |[]=>by simp [tT]
 |x::l=>by
  rw[tT,Bool.or_eq_true,yZ,mem_cons];exact⟨fun h=>h.imp Nat.eq_of_beq_eq_true id,fun h=>h.imp (fun e=>by subst e;exact Nat.beq_refl n) id⟩
theorem y8 {cd:Nat}:∀{l:List (V×V×Nat)} {m:List MapEntry},ju ρ l m→oj cd l=true→∀x∈m,x.born<cd
 |[],[],_,_=>by simp
 |x::l,y::m,hl,ha=>by
  rw[oj,Bool.and_eq_true] at ha;intro z hz;rcases mem_cons.1 hz with rfl|hz
  ·rw[←hl.1.2.2];simpa using ha.1
  ·exact y8 hl.2 ha.2 z hz
 |[],_::_,hl,_=>hl.elim
 |_::_,[],hl,_=>hl.elim
theorem FG {seen:List Nat}:∀{l:List (V×V×Nat)} {m:List MapEntry},ju ρ l m→lz seen l=(m.filter fun e=> !seen.toArray.contains e.born).map (·.born)
 |[],[],_=>rfl
 |x::l,y::m,hl=>by
  have ih:=FG (seen:=seen) hl.2;have hb:=hl.1.2.2
  have hc:seen.toArray.contains y.born=tT x.2.2 seen:=by
   rw[hb];cases h:tT y.born seen
   ·have:¬y.born∈seen:=fun e=>by rw[yZ.2 e] at h;cases h
    simpa using this
   ·have:y.born∈seen:=yZ.1 h;simpa using this
  simp only[lz,filter_cons,hc];cases tT x.2.2 seen
  ·simp [hb,ih]
  ·simp [ih]
 |[],_::_,hl=>hl.elim
 |_::_,[],hl=>hl.elim
theorem FH {b:Nat}:∀{l:List (V×V×Nat)} {m:List MapEntry} {k v:V},ju ρ l m→Br b l=some (k,v)→∃e,m.find? (·.born == b)=some e∧VR ρ k e.key∧VR ρ v e.val
 |[],[],_,_,_,h=>by cases h
 |x::l,y::m,k,v,hl,h=>by
  have hb:=hl.1.2.2;simp only[Br,aY] at h;by_cases hx:x.2.2=b
  ·simp only[hx,decide_true,cond_true,some.injEq,Prod.mk.injEq] at h;obtain⟨rfl,rfl⟩:=h;exact⟨y,by simp [←hb,hx],hl.1.1,hl.1.2.1⟩
  ·simp only[hx,decide_false,cond_false] at h;obtain⟨e,h1,h2⟩:=FH hl.2 h;have hy:(y.born == b)=false:=by rw[←hb];simpa using hx
   exact⟨e,by rw[List.find?_cons,hy];exact h1,h2⟩
 |[],_::_,_,_,hl,_=>hl.elim
 |_::_,[],_,_,hl,_=>hl.elim
theorem FI:∀{l:List Nat} {b:Nat},Bs l=some b→l.toArray.back?=some b
 |[],_,h=>by cases h
 |[x],b,h=>by simpa [Bs] using h
 |x::y::l,b,h=>by
  have:=FI (l:=y::l) h;simpa using this
theorem A9 (h:SR H0 ρ0 w0 ann N ρ lam S a w) {id b:Nat} {ty:TypeId} (hb:ρ id=some b) {K1:Prop} {K2:ai→Prop} (ho:mapNext S.hp id K1 K2):(K1∧(Instr.next (.pointer (some ⟨b,0,none⟩)) false ty).run E.P w=.ok (.tuple #[.bool false]) w)∨∃H' w' k v,K2 H'∧(Instr.next (.pointer (some ⟨b,0,none⟩)) false ty).run E.P w=.ok (.tuple #[.bool true,k,v]) w'∧SR H0 ρ0 w0 ann N ρ lam {S with hp:=H'} a w':=by
 unfold mapNext at ho;split at ho
 ·rename_i cd seen tQ hg;obtain⟨b',hb',m',he,hm⟩:=h.hr.wW id _ hg;rw[hb] at hb';cases hb';cases hm;exact .inl ⟨ho,by simp [Instr.next,BD (E:=E) he]⟩
 ·rename_i m cd seen tQ hg;split at ho
  ·rename_i es c hgm;obtain⟨b',hb',m',he,hm⟩:=h.hr.wW id _ hg;rw[hb] at hb';cases hb';obtain⟨bm,XY,es',hem,Hk⟩:=h.hr.wW m _ hgm
   cases hm with
   |map QR=>
    rw[XY] at QR;cases QR
    cases hc:(oj cd es&&Nat.ble cd tQ) with
    |false=>simp only[hc,cond_false] at ho
    |true=>
     simp only[hc,cond_true] at ho;rw[Bool.and_eq_true] at hc;have hold:=y8 Hk hc.1;have hleft:=FG (seen:=seen) Hk;have hlo:(leftOf es' seen.toArray).toList=es'.toList.filter fun e=> !seen.toArray.contains e.born:=by simp [leftOf]
     rcases run_next_at (P:=E.P) w ty b bm cd tQ seen.toArray es' c he hem hold (Nat.le_of_ble_eq_true hc.2) with⟨h1,h2⟩|⟨e,h1,w1,h2,h3⟩
     ·have h0:lz seen es=[]:=by
       rw[hleft, ←hlo]
       have:(leftOf es' seen.toArray).toList=[]:=by
        apply eq_nil_of_length_eq_zero;simpa using h1
       rw[this];rfl
      rw[h0] at ho;exact .inl ⟨ho,h2⟩
     ·rw[hlo] at h1
      have hmem:e.born∈lz seen es:=by
       rw[hleft];exact mem_map.2 ⟨e,h1,rfl⟩
      have hk:K2 (S.hp.put id (.dV (some m) cd (seen++[e.born]) c)):=by
       cases hl:lz seen es with
       |nil=>rw[hl] at hmem;cases hmem
       |cons x l=>
        rw[hl] at ho hmem;exact ho _ hmem
      refine .inr ⟨_,_,_,_,hk,h3, ?_⟩
      have key:∀w2:World,SR H0 ρ0 w0 ann N ρ lam S a w2→w2.heap=w.heap→SR H0 ρ0 w0 ann N ρ lam {S with hp:=S.hp.put id (.dV (some m) cd (seen++[e.born]) c)} a
       (Go.ChangeMaps.setBlock w2 b (.mapIter (some bm) cd (seen.toArray.push e.born) c)):=by
       intro w2 hs hw;have Tg:w2.heap[b]? =some (.mapIter (some bm) cd seen.toArray tQ):=by rw[hw];exact he
       refine hs.Ds hg rfl rfl hb (pU w2 b _) ?_;exact⟨_,by unfold Go.ChangeMaps.setBlock;rw[yX Tg];simp,.map XY⟩
      rcases h2 with rfl|rfl
      ·exact key _ h rfl
      ·exact key _ (h.drew _) rfl
  ·exact ho.elim
 ·exact ho.elim
theorem DA {H:ai} (hr:HR ρ H w) {id b:Nat} (hb:ρ id=some b) (h:sC H id=true):∃k v,(Instr.entry (.pointer (some ⟨b,0,none⟩))).run E.P w=.ok (.tuple #[k,v]) w∧VR ρ (kR H id) k∧VR ρ (iO H id) v:=by
 unfold sC at h;obtain⟨p,hp⟩:=isSome_iff_exists.1 h;have hk:kR H id=p.1:=by simp [kR,hp]
 have hv:iO H id=p.2:=by simp [iO,hp]
 rw[hk,hv];unfold vE at hp;split at hp
 ·rename_i m cd seen tQ hg;split at hp
  ·rename_i es c s hgm hl;obtain⟨b',hb',m',he,hm⟩:=hr.wW id _ hg;rw[hb] at hb';cases hb';obtain⟨bm,XY,es',hem,Hk⟩:=hr.wW m _ hgm
   cases hm with
   |map QR=>
    rw[XY] at QR;cases QR;simp only[aY] at hp;by_cases hc:c=tQ
    ·subst hc;simp only[decide_true,cond_true] at hp;obtain⟨e,h1,h2,h3⟩:=FH (k:=p.1) (v:=p.2) Hk hp;have xu:es'.find? (·.born == s)=some e:=by rw[←Array.find?_toList];exact h1
     refine⟨e.key,e.val, ?_,h2,h3⟩;simp [Instr.entry,BD (E:=E) he,g8 (E:=E) hem,FI hl,xu]
    ·simp only[hc,decide_false,cond_false] at hp;cases hp
  ·cases hp
 ·cases hp
end
end Go.Am
end
