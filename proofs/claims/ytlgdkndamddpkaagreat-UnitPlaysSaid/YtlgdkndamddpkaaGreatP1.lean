/- Part 1 of the texts behind the law UnitPlays: what its row needs (an abstract machine, its equations, and what the program computes). -/
import Derived.Orders
import Derived.LoopN
import Derived.Laws.IdiomCopy
import Derived.ChangeKeysEq
import Derived.Laws.Append
import Derived.Laws.AppendOwn
import Derived.IntWalk
import Derived.Maps.RangeRun
set_option maxRecDepth 100000
set_option linter.unusedSimpArgs false
set_option linter.unusedVariables false
set_option linter.unusedSectionVars false
section
namespace Go.Am
abbrev Oq:=Option (Nat×Nat)
inductive V where
 |bool (b:Bool)
 |int (k:IntKind) (n:Int)
 |cG (s:ByteArray)
 |aj (p:Oq)
 |slice (p:Oq) (len cap:Nat)
 |map (r:Option Nat)
 |func (f:FuncId) (dG:List V)
 |o9 (f:FuncId) (first:List V)
 |dO (t:TypeId) (id:Nat)
 |nilFunc
 |iface (t:TypeId) (v:V)
 |nilIface
 |agg (cs:List V)
 |tuple (vs:List V)
 |cx
 deriving Inhabited
namespace V
def none:V:=.tuple []
def an:V→Bool| .bool b=>b|_=>false
def aa:V→Int| .int _ n=>n|_=>0
def ju:V→ByteArray| .cG s=>s|_=>ByteArray.empty
def ay:V→Oq| .aj p=>p|_=>Option.none
def au:V→Oq| .slice p _ _=>p|_=>Option.none
def ax:V→Nat| .slice _ n _=>n|_=>0
def aD:V→Nat| .slice _ _ c=>c|_=>0
def cL:V→Option Nat| .map r=>r|_=>Option.none
def af:V→List V| .agg cs=>cs|_=>[]
def ar:V→List V| .tuple vs=>vs|_=>[]
def cells:V→List V| .agg cs=>cs|v=>[v]
def isAgg:V→Bool| .agg _=>true|_=>false
def aL (n:Nat):V→Bool| .tuple vs=>vs.length == n|_=>false
def nn:V→Bool| .nilFunc=>true|_=>false
def fw:V→Bool| .nilIface=>true|_=>false
def CR:V→TypeId| .iface t _=>t|_=>0
def Nb:V→V| .iface _ v=>v|v=>v
def one:V→Bool| .agg _| .tuple _| .cx=>false|_=>true
end V
def SZ:IntKind→Nat
 | .i8=>0| .i16=>1| .i32=>2| .i64=>3| .u8=>4| .u16=>5| .u32=>6| .u64=>7
def py (a b:IntKind):Bool:=Nat.beq (SZ a) (SZ b)
@[simp] theorem np (a b:IntKind):py a b=decide (a=b):=by cases a<;>cases b<;>decide
def QR:Bool→Bool→Bool
 |true,b=>b
 |false,b=> !b
theorem QS (w b:Bool):QR w b=(b == w):=by cases w<;>cases b<;>rfl
inductive cj where
 |bool|int (k:IntKind)|cG|aj|slice|map|func|iface|mu
 deriving DecidableEq,Inhabited
def V.cU:V→cj
 | .bool _=>.bool| .int k _=>.int k| .cG _=>.cG| .aj _=>.aj| .slice .. =>.slice| .map _=>.map
 | .func .. | .o9 .. | .nilFunc=>.func| .iface .. | .nilIface=>.iface|_=>.mu
def V.av:cj→V→Bool
 | .bool,.bool _=>true
 | .int k,.int k' _=>py k k'
 | .cG,.cG _=>true
 | .aj,.aj _=>true
 | .slice,.slice .. =>true
 | .map,.map _=>true
 | .func,.func .. =>true
 | .func,.o9 .. =>true
 | .func,.nilFunc=>true
 | .iface,.iface .. =>true
 | .iface,.nilIface=>true
 |_,_=>false
def V.S3:cj→V→V
 | .bool,v=>.bool v.an
 | .int k,v=>.int k v.aa
 | .cG,v=>.cG v.ju
 | .aj,v=>.aj v.ay
 | .slice,v=>.slice v.au v.ax v.aD
 | .map,v=>.map v.cL
 |_,v=>v
theorem V.sr {k:cj} {v:V} (h:v.av k=true):v.S3 k=v:=by
 cases k<;>cases v<;>simp_all [V.av,V.S3,an,aa,ju,ay,au,ax,aD,cL]
theorem V.ss {k:cj} {v:V} (h:v.av k=true):v.one=true:=by
 cases k<;>cases v<;>simp_all [V.av,V.one]
def ae:List V→Nat→V
 |[],_=>.none
 |x::_,0=>x
 |_::l,n+1=>ae l n
def aI:List cj→List V→Bool
 |[],[]=>true
 |k::ks,v::vs=>v.av k&&aI ks vs
 |_,_=>false
def n9:List cj→List V→Nat→List V
 |[],_,_=>[]
 |k::ks,cs,j=>(ae cs j).S3 k::n9 ks cs (j+1)
def bQ (c:Bool):V→V→V
 | .int k x,.int k' y=>bif py k k' then .int k (bif c then x else y) else (bif c then .int k x else .int k' y)
 | .bool x,.bool y=>.bool (bif c then x else y)
 | .cG x,.cG y=>.cG (bif c then x else y)
 |a,b=>bif c then a else b
theorem nq (c:Bool) (a b:V):bQ c a b=if c then a else b:=by
 unfold bQ;split
 ·rename_i k x k' y;by_cases h:k=k'
  ·subst h;cases c<;>simp
  ·cases c<;>simp [h]
 ·cases c<;>rfl
 ·cases c<;>rfl
 ·cases c<;>rfl
def tN (c:Bool):List V→List V→Option (List V)
 |[],[]=>some []
 |x::l,y::m=>match tN c l m with|some r=>some (bQ c x y::r)|none=>none
 |_,_=>none
def Hr (c:Bool):V→V→V
 | .agg xs,.agg ys=>match tN c xs ys with|some r=>.agg r|none=>bif c then .agg xs else .agg ys
 |a,b=>bQ c a b
theorem sv {c:Bool}:∀{xs ys r:List V},tN c xs ys=some r→r=if c then xs else ys
 |[],[],r,h=>by cases h;cases c<;>rfl
 |x::l,y::m,r,h=>by
  simp only[tN] at h;split at h
  ·rename_i r' h';cases h;rw[nq,sv h'];cases c<;>rfl
  ·cases h
 |[],_::_,_,h=>by cases h
 |_::_,[],_,h=>by cases h
theorem KZ (c:Bool) (a b:V):Hr c a b=if c then a else b:=by
 unfold Hr;split
 ·split
  ·rename_i r h;rw[sv h];cases c<;>rfl
  ·cases c<;>rfl
 ·exact nq c _ _
def yb:List V→Nat→Nat→V→List V
 |[],_,_,_=>[]
 |x::l,j,n,v=>bQ (Nat.beq j n) v x::yb l (j+1) n v
def bI:List V→Nat→List V→List V
 |cs,_,[]=>cs
 |cs,off,v::vs=>bI (yb cs 0 off v) (off+1) vs
inductive T where
 |v (x:V)
 |lp (s off:Nat)
 |undef
 deriving Inhabited
inductive aR where
 |cells (e:TypeId) (cs:List V)
 |dO (s:ByteArray) (jo:Nat)
 deriving Inhabited
inductive Obj where
 |cells (e:TypeId) (cs:List V) (ro:Bool)
 |map (es:List (V×V×Nat)) (clock:Nat)
 |dO (m:Option Nat) (bW:Nat) (seen:List Nat) (tO:Nat)
 deriving Inhabited
def sw (k:IntKind):List (V×V×Nat)→Bool
 |[]=>true
 |e::l=>e.1.av (.int k)&&sw k l
def nr (n:Int):List (V×V×Nat)→Option V
 |[]=>none
 |e::l=>bif decide (e.1.aa=n) then some e.2.1 else nr n l
def EY (n:Int) (v:V):List (V×V×Nat)→List (V×V×Nat)
 |[]=>[]
 |e::l=>bif decide (e.1.aa=n) then (e.1,v,e.2.2)::l else e::EY n v l
def yc (n:Int):List (V×V×Nat)→List (V×V×Nat)
 |[]=>[]
 |e::l=>bif decide (e.1.aa=n) then l else e::yc n l
def Bt (b:Nat):List (V×V×Nat)→Option (V×V)
 |[]=>none
 |e::l=>bif Nat.beq e.2.2 b then some (e.1,e.2.1) else Bt b l
def oa (bW:Nat):List (V×V×Nat)→Bool
 |[]=>true
 |e::l=>Nat.blt e.2.2 bW&&oa bW l
def tP (n:Nat):List Nat→Bool
 |[]=>false
 |x::l=>Nat.beq n x||tP n l
def lg (seen:List Nat):List (V×V×Nat)→List Nat
 |[]=>[]
 |e::l=>bif tP e.2.2 seen then lg seen l else e.2.2::lg seen l
def Bu:List Nat→Option Nat
 |[]=>none
 |[x]=>some x
 |_::l=>Bu l
def Nc:List Nat:=[]
structure ag where
 get:Nat→Option Obj
 next:Nat
namespace ag
def cs (H:ag) (id:Nat):List V:=match H.get id with|some (.cells _ cs _)=>cs|_=>[]
def inb (H:ag) (id off n:Nat):Bool:=match H.get id with|some (.cells _ cs _)=>Nat.ble (off+n) cs.length|_=>false
def wr (H:ag) (id off n:Nat):Bool:=match H.get id with|some (.cells _ cs ro)=> !ro&&Nat.ble (off+n) cs.length|_=>false
def cell (H:ag) (id off:Nat):V:=ae (H.cs id) off
def sub (H:ag) (id off n:Nat):List V:=((H.cs id).drop off).take n
def put (H:ag) (id:Nat) (o:Obj):ag:={H with get:=fun j=>bif Nat.beq j id then some o else H.get j}
def store (H:ag) (id off:Nat) (vs:List V):ag:=
 match H.get id with
 |some (.cells e cs ro)=>H.put id (.cells e (bI cs off vs) ro)
 |_=>H
def alloc (H:ag) (o:Obj):ag:={get:=fun j=>bif Nat.beq j H.next then some o else H.get j,next:=H.next+1}
def ents (H:ag) (id:Nat):List (V×V×Nat):=match H.get id with|some (.map es _)=>es|_=>[]
def isMap (H:ag) (id:Nat):Bool:=match H.get id with|some (.map _ _)=>true|_=>false
def clock (H:ag) (id:Nat):Nat:=match H.get id with|some (.map _ c)=>c|_=>0
end ag
def eD (H:ag) (k:IntKind) (r:Option Nat):Bool:=r.isNone||(H.isMap (r.getD 0)&&sw k (H.ents (r.getD 0)))
def lh (H:ag) (r:Option Nat) (n:Int):Bool:=r.isSome&&(nr n (H.ents (r.getD 0))).isSome
def cq (H:ag) (r:Option Nat) (n:Int) (z:V):V:=bif r.isNone then z else (nr n (H.ents (r.getD 0))).getD z
def yd (H:ag) (r:Option Nat):Nat:=bif r.isNone then 0 else (H.ents (r.getD 0)).length
def il (H:ag) (k:IntKind) (id:Nat) (n:Int) (v:V):ag:=
 bif (nr n (H.ents id)).isSome then H.put id (.map (EY n v (H.ents id)) (H.clock id))
 else H.put id (.map (H.ents id++[(.int k n,v,H.clock id)]) (H.clock id+1))
def pA (H:ag) (r:Option Nat) (n:Int):ag:=bif r.isNone then H else H.put (r.getD 0) (.map (yc n (H.ents (r.getD 0))) (H.clock (r.getD 0)))
def mapIter (H:ag) (r:Option Nat):Obj:=bif r.isNone then .dO none 0 [] 0 else .dO r (H.clock (r.getD 0)) [] (H.clock (r.getD 0))
def mapNext (H:ag) (id:Nat) (K1:Prop) (K2:ag→Prop):Prop:=
 match H.get id with
 |some (.dO none _ _ _)=>K1
 |some (.dO (some m) bW seen tO)=>
  match H.get m with
  |some (.map es c)=>
   bif oa bW es&&Nat.ble bW tO then
    (match lg seen es with
    |[]=>K1
    |x::l=>∀b,b∈x::l→K2 (H.put id (.dO (some m) bW (seen++[b]) c)))
   else False
  |_=>False
 |_=>False
def vE (H:ag) (id:Nat):Option (V×V):=
 match H.get id with
 |some (.dO (some m) _ seen tO)=>
  match H.get m,Bu seen with
  |some (.map es c),some b=>bif Nat.beq c tO then Bt b es else none
  |_,_=>none
 |_=>none
def sx (H:ag) (id:Nat):Bool:=(vE H id).isSome
def kJ (H:ag) (id:Nat):V:=((vE H id).getD (.cx,.cx)).1
def iO (H:ag) (id:Nat):V:=((vE H id).getD (.cx,.cx)).2
structure St where
 tm:Nat→Option T
 lo:Nat→Option aR
 hp:ag
def St.setT (S:St) (d:Nat) (x:T):St:={S with tm:=fun t=>bif Nat.beq t d then some x else S.tm t}
def St.setL (S:St) (s:Nat) (x:aR):St:={S with lo:=fun t=>bif Nat.beq t s then some x else S.lo t}
def ab {α:Type}:List (Nat×α)→Nat→Option α
 |[],_=>none
 |(k,x)::l,n=>bif Nat.beq n k then some x else ab l n
inductive Nd where
 |bool|int (k:IntKind)|cG|aj (e:TypeId)|slice (e:TypeId)|map (k e:TypeId)|func|iface
 |arr (n:Nat) (e:TypeId)|struct (fs:List (Nat×TypeId))|tuple (ts:List TypeId)|mu
 deriving DecidableEq,Inhabited
structure TI where
 sh:Nd
 size:Nat
 bytes:Nat
 zero:Option V
 deriving Inhabited
def ofValue:Value→Option V
 | .bool b=>some (.bool b)
 | .int k n=>some (.int k n)
 | .string s=>some (.cG s)
 | .pointer none=>some (.aj none)
 | .slice none 0 0=>some (.slice none 0 0)
 | .map none=>some (.map none)
 | .nilFunc=>some .nilFunc
 | .nilIface=>some .nilIface
 |_=>none
def jS:List Value→Option (List V)
 |[]=>some []
 |x::l=>match ofValue x,jS l with
  |some y,some m=>some (y::m)
  |_,_=>none
def lj:Value→Option V
 | .agg cs=>match jS cs.toList with|some l=>some (.agg l)|none=>none
 |v=>ofValue v
def bo:TypeDesc→Nd
 | .bool=>.bool
 | .int k=>.int k
 | .string=>.cG
 | .pointer e=>.aj e
 | .slice e=>.slice e
 | .map k e=>.map k e
 | .func .. =>.func
 | .interface _=>.iface
 | .array n e=>.arr n e
 | .struct fs=>.struct (fs.toList.map fun f=>(f.offset,f.type))
 | .tuple ts=>.tuple ts.toList
 |_=>.mu
def QT (P:Program) (t:TypeId):Option TI:=
 match P.info? t,P.underlying t with
 |some i,some d=>some {sh:=bo d,size:=i.size,bytes:=i.bytes,zero:=i.zero.bind lj}
 |_,_=>none
inductive KT where
 |k (k:cj)
 |agg (ks:List cj)
 |lp (s:Nat)
 |undef
 deriving Inhabited
structure jv where
 cV:List Nat:=[]
 vA:List Nat:=[]
 cd:List (Nat×KT):=[]
 hI:List (Nat×TypeId×List cj):=[]
 mj:List (Nat×KT):=[]
 TW:List (Nat×TypeId×List cj):=[]
 cC:List Nat:=[]
 mg:Bool:=false
 dl:Bool:=false
 wT:List Nat:=[]
 wL:List Nat:=[]
 deriving Inhabited
structure bO where
 aX:List Nat:=[]
 aV:List (Nat×Nat):=[]
 bg:List (Nat×jv):=[]
 aE:List (Nat×jv):=[]
 deriving Inhabited
def bD (n:Nat):List Nat→Bool
 |[]=>false
 |x::l=>Nat.beq n x||bD n l
def lk (g:TypeId→Option (List cj)):List Field→Nat→Option (List cj)
 |[],_=>some []
 |f::l,o=>bif f.name != "_" &&Nat.beq f.offset o then (match g f.type with
  |some ks=>(match lk g l (o+ks.length) with|some r=>some (ks++r)|none=>none)
  |none=>none) else none
def AQ:Nat→List cj→List cj
 |0,_=>[]
 |n+1,ks=>ks++AQ n ks
def ll (P:Program):Nat→TypeId→Option (List cj)
 |0,_=>none
 |d+1,t=>match P.underlying t with
  |some .bool=>some [.bool]
  |some (.int k)=>some [.int k]
  |some .string=>some [.cG]
  |some (.struct fs)=>bif P.stoodInHeld t then none else match lk (ll P d) fs.toList 0 with
   |some ks=>bif Nat.beq (P.cellsOf t) ks.length then some ks else none
   |none=>none
  |some (.array n e)=>match ll P d e with
   |some ks=>bif Nat.beq (P.cellsOf e) ks.length&&Nat.beq (P.cellsOf t) (n*ks.length) then some (AQ n ks) else none
   |none=>none
  |_=>none
def iP:TypeDesc→Bool
 | .struct _=>true
 | .array _ _=>true
 |_=>false
def K3 (P:Program) (t:TypeId) (ks:List cj):Bool:=
 !P.eqGuardType P.depth t&&decide (ll P 50 t=some ks)&&(match P.underlying t with|some d=>iP d|none=>false)
structure Ext where
 run:List V→ag→(V→ag→Prop)→Prop
 mono:∀args H (K K':V→ag→Prop),(∀v H',K v H'→K' v H')→run args H K→run args H K'
 vF:∀args H (K:V→ag→Prop),run args H K→∃v H',K v H'
structure ku where
 P:Program
 ext:Nat→Option Ext:=fun _=>none
 fn:Nat→Option Func
 fn_ok:∀f x,fn f=some x→P.funcs[f]? =some x
 ti:Nat→Option TI
 ti_ok:∀t x,ti t=some x→QT P t=some x
 ann:Nat→bO
 eqt:List (TypeId×List cj)
 eq_ok:∀t ks,ab eqt t=some ks→K3 P t ks=true
 names:P.funcs.toList.all (fun fn=> !(fn.name == "runtime.NumGoroutine"))=true
structure fR (α:Type) where
 rq:Bool
 c:Bool
 x:α
 y:α
def fR.one {α:Type} (rq:Bool) (x:α):fR α:=⟨rq,true,x,x⟩
abbrev Ev:=Operand→Option T
def cS (tm:Nat→Option T):Operand→Option T
 | .tmp t=>tm t
 | .const v=>match ofValue v with|some x=>some (.v x)|none=>none
 | .func f=>some (.v (.func f []))
 | .global _=>none
def jh (ev:Ev) (x:Operand):Option V:=match ev x with|some (.v y)=>some y|_=>none
def sy (ev:Ev):List Operand→Option (List V)
 |[]=>some []
 |x::l=>match jh ev x,sy ev l with
  |some y,some m=>some (y::m)
  |_,_=>none
def cN:Nd→Option cj
 | .bool=>some .bool
 | .int k=>some (.int k)
 | .cG=>some .cG
 | .aj _=>some .aj
 | .slice _=>some .slice
 | .map .. =>some .map
 | .func=>some .func
 | .iface=>some .iface
 |_=>none
section aG
variable (E:ku)
def size (t:TypeId):Option Nat:=match E.ti t with|some i=>some i.size|none=>none
def bh (t:TypeId):Option cj:=
 match E.ti t with
 |some i=>cN i.sh
 |none=>none
def od (t:TypeId):Option (List cj):=
 match E.ti t with
 |some i=>match i.sh,i.zero with
  | .arr ..,some (.agg z)=>some (z.map V.cU)
  | .struct _,some (.agg z)=>some (z.map V.cU)
  |_,_=>none
 |none=>none
def tQ (t:TypeId) (v:V):Option (Bool×V):=
 match bh E t with
 |some k=>some (v.av k,v.S3 k)
 |none=>match od E t with
  |some ks=>some (v.isAgg&&aI ks v.af,.agg (n9 ks v.af 0))
  |none=>none
def tT:List TypeId→V→Nat→Option (Bool×List V)
 |[],_,_=>some (true,[])
 |t::ts,v,j=>match tQ E t (ae v.ar j),tT ts v (j+1) with
  |some (b,x),some (c,l)=>some (b&&c,x::l)
  |_,_=>none
def tU (t:TypeId) (v:V):Option (Bool×V):=
 match E.ti t with
 |some i=>match i.sh with
  | .tuple []=>some (true,v)
  | .tuple ts=>match tT E ts v 0 with
    |some (b,l)=>some (v.aL ts.length&&b,.tuple l)
    |none=>none
  |_=>tQ E t v
 |none=>none
def kK (y:Int) (n:Nat):Nat:=min y.toNat n
def vG (op:BinOp) (k:IntKind) (x y:Int):Option (Bool×V):=
 match op with
 | .add=>some (true,.int k (k.wrap (x+y)))
 | .sub=>some (true,.int k (k.wrap (x-y)))
 | .mul=>some (true,.int k (k.wrap (x*y)))
 | .quo=>some (!(y == 0),.int k (k.wrap (x.tdiv y)))
 | .rem=>some (!(y == 0),.int k (x.tmod y))
 | .and=>some (true,.int k (k.wrap (BitVec.ofInt k.bits x &&& BitVec.ofInt k.bits y).toNat))
 | .or=>some (true,.int k (k.wrap (BitVec.ofInt k.bits x ||| BitVec.ofInt k.bits y).toNat))
 | .xor=>some (true,.int k (k.wrap (BitVec.ofInt k.bits x ^^^ BitVec.ofInt k.bits y).toNat))
 | .andNot=>some (true,.int k (k.wrap (BitVec.ofInt k.bits x &&& ~~~ BitVec.ofInt k.bits y).toNat))
 | .eql=>some (true,.bool (x == y))
 | .neq=>some (true,.bool (x != y))
 | .lss=>some (true,.bool (decide (x<y)))
 | .leq=>some (true,.bool (decide (x≤y)))
 | .gtr=>some (true,.bool (decide (x>y)))
 | .geq=>some (true,.bool (decide (x≥y)))
 | .shl=>some (decide (0≤y),.int k (k.wrap (x*2 ^ (kK y k.bits))))
 | .shr=>some (decide (0≤y),.int k (x.fdiv (2 ^ (kK y k.bits))))
def mv (x y:ByteArray):Bool:=x.toList == y.toList
def Xk (x y:ByteArray):ByteArray:=x++y
def Nf (x y:ByteArray):Bool:=Nat.ble (x.size+y.size) 9223372036854775807
def Hs (op:BinOp) (x y:ByteArray):Option (Bool×V):=
 match op with
 | .add=>some (Nf x y,.cG (Xk x y))
 | .eql=>some (true,.bool (mv x y))
 | .neq=>some (true,.bool (!(mv x y)))
 | .lss=>some (true,.bool (Op.bytesLess x.toList y.toList))
 | .leq=>some (true,.bool (Op.bytesLess x.toList y.toList||x.toList == y.toList))
 | .gtr=>some (true,.bool (!(Op.bytesLess x.toList y.toList||x.toList == y.toList)))
 | .geq=>some (true,.bool (!Op.bytesLess x.toList y.toList))
 |_=>none
def eu:List V→List V→Option Bool
 |[],[]=>some true
 | .int k x::l,.int k' y::m=>bif py k k' then (match eu l m with|some b=>some (x == y&&b)|none=>none) else none
 | .bool x::l,.bool y::m=>match eu l m with|some b=>some (x == y&&b)|none=>none
 | .cG x::l,.cG y::m=>match eu l m with|some b=>some (x == y&&b)|none=>none
 |_,_=>none
def cO (xs ys:List V):Bool:=match eu xs ys with|some b=>b|none=>false
def hJ (t:TypeId) (v:V):Option (Bool×List V):=
 match size E t with
 |none=>none
 |some n=>match bh E t with
  |some k=>bif Nat.beq n 1 then some (v.av k,[v]) else none
  |none=>match od E t with
   |some _=>match v with
    | .agg cs=>some (Nat.beq cs.length n,cs)
    |_=>none
   |none=>none
def sA:Operand→Bool
 | .const .nilIface=>true
 |_=>false
def iQ (t:TypeId) (nils:Bool):V→V→Option (Bool×Bool)
 | .bool x,.bool y=>match bh E t with|some .bool=>some (true,x == y)|_=>none
 | .aj p,.aj none=>match bh E t with|some .aj=>some (true,p.isNone)|_=>none
 | .aj none,.aj p=>match bh E t with|some .aj=>some (true,p.isNone)|_=>none
 | .slice p _ _,.slice none _ _=>match bh E t with|some .slice=>some (true,p.isNone)|_=>none
 | .slice none _ _,.slice p _ _=>match bh E t with|some .slice=>some (true,p.isNone)|_=>none
 | .map p,.map none=>match bh E t with|some .map=>some (true,p.isNone)|_=>none
 | .map none,.map p=>match bh E t with|some .map=>some (true,p.isNone)|_=>none
 | .agg xs,.agg ys=>match ab E.eqt t,eu xs ys with|some ks,some _=>some (aI ks xs&&aI ks ys,cO xs ys)|_,_=>none
 |v,.nilFunc=>match bh E t with|some .func=>some (v.av .func,v.nn)|_=>none
 | .nilFunc,v=>match bh E t with|some .func=>some (v.av .func,v.nn)|_=>none
 |v,.nilIface=>bif nils then (match bh E t with|some .iface=>some (v.av .iface,v.fw)|_=>none) else none
 |_,_=>none
def CS (op:BinOp) (t:TypeId) (nils:Bool):V→V→Option (Bool×V)
 | .int k x,.int k' y=>
   match op with
   | .shl| .shr=>vG op k x y
   |_=>bif py k k' then vG op k x y else none
 | .cG x,.cG y=>Hs op x y
 |x,y=>match op with
  | .eql=>match iQ E t nils x y with|some (r,b)=>some (r,.bool b)|none=>none
  | .neq=>match iQ E t nils x y with|some (r,b)=>some (r,.bool (!b))|none=>none
  |_=>none
def Jb (t:TypeId) (v:V):Option (Bool×Bool):=match bh E t with|some .iface=>some (v.av .iface,v.fw)|_=>none
def CT (t:TypeId) (v:V):Option (Bool×Bool):=match bh E t with|some .func=>some (v.av .func,v.nn)|_=>none
def TX (op:BinOp) (t:TypeId) (nils:Bool) (a b:V):Option (Bool×V):=
 match b with
 | .nilIface=>match nils with
   |true=>match op with
    | .eql=>match Jb E t a with|some (r,b)=>some (r,.bool b)|none=>none
    | .neq=>match Jb E t a with|some (r,b)=>some (r,.bool (!b))|none=>none
    |_=>none
   |false=>CS E op t false a .nilIface
 | .nilFunc=>match op with
   | .eql=>match CT E t a with|some (r,b)=>some (r,.bool b)|none=>none
   | .neq=>match CT E t a with|some (r,b)=>some (r,.bool (!b))|none=>none
   |_=>none
 |b=>CS E op t nils a b
def unV:UnOp→V→Option V
 | .not,.bool b=>some (.bool (!b))
 | .neg,.int k n=>some (.int k (k.wrap (0-n)))
 | .xor,.int k n=>some (.int k (k.wrap (BitVec.ofInt k.bits (bif k.signed then-1 else k.max) ^^^ BitVec.ofInt k.bits n).toNat))
 |_,_=>none
def mR (t:TypeId) (cs:List V) (off:Nat):Option (Bool×V):=
 match bh E t with
 |some k=>some (Nat.blt off cs.length&&(ae cs off).av k,(ae cs off).S3 k)
 |none=>match od E t,size E t with
  |some _,some n=>some (Nat.ble (off+n) cs.length,.agg ((cs.drop off).take n))
  |_,_=>none
def Ht (s:ByteArray) (i:Nat):Int:=((s.data.toList.getD i 0).toNat:Int)
def tV (t:TypeId) (f:Nat):Option (Nat×TypeId):=
 match E.ti t with
 |some i=>match i.sh with
  | .struct fs=>fs[f]?
  |_=>none
 |none=>none
def sB:Nat→Bool
 |0=>false
 |_=>true
def rU (x:Operand) (ev:Ev):Option Int:=match jh ev x with|some (.int _ i)=>some i|_=>none
def mS (ev:Ev) (x:Option Operand) (dflt most:Nat):Option (Bool×Nat):=
 match x with
 |none=>some (true,dflt)
 |some y=>match rU y ev with
  |some i=>some (decide (0≤i)&&decide (i≤(most:Int)),i.toNat)
  |none=>none
def gw (ev:Ev) (len cap:Nat) (lo hi mx:Option Operand):Option (Bool×Nat×Nat×Nat):=
 bif hi.isNone&&mx.isSome then none else
 match mS ev mx cap cap with
 |some m=>match mS ev hi len m.2 with
  |some h=>match mS ev lo 0 h.2 with
   |some l=>some (m.1&&h.1&&l.1,l.2,h.2,m.2)
   |none=>none
  |none=>none
 |none=>none
def bP (p:Oq) (n:Nat):Oq:=match p with|some (id,off)=>some (id,off+n)|none=>none
def xL (mx:Bool):List V→Option V
 |[.int k x]=>some (.int k x)
 |[.int k x,.int k' y]=>bif py k k' then some (.int k (bif mx then (bif decide (y>x) then y else x) else (bif decide (y<x) then y else x))) else none
 |_=>none
def EZ (b:Builtin) (args:List V) (t:TypeId):Option (fR T):=
 match b,args with
 | .len,[.cG s]=>match bh E t with|some .cG=>some (.one true (.v (.int .i64 (s.size:Int))))|_=>none
 | .len,[.slice _ n _]=>match bh E t with|some .slice=>some (.one true (.v (.int .i64 (n:Int))))|_=>none
 | .cap,[.slice _ _ c]=>match bh E t with|some .slice=>some (.one true (.v (.int .i64 (c:Int))))|_=>none
 | .min,vs=>match xL false vs with|some v=>some (.one true (.v v))|none=>none
 | .max,vs=>match xL true vs with|some v=>some (.one true (.v v))|none=>none
 |_,_=>none
def Bv (x:Option (Bool×V)):Option (fR T):=match x with|some (r,v)=>some (.one r (.v v))|none=>none
def qL (place:Nat→Option (Nat×TypeId)) (cells:List V):List (Nat×V)→Option (Bool×List V)
 |[]=>some (true,cells)
 |(i,v)::rest=>
  match place i with
  |none=>none
  |some (off,t)=>
   match hJ E t v,size E t with
   |some (r,vs),some n=>bif Nat.beq vs.length n&&Nat.ble (off+n) cells.length then
    (match qL place (bI cells off vs) rest with
    |some (r',cs)=>some (r&&r',cs)
    |none=>none) else none
   |_,_=>none
def kL (ev:Ev):List (Nat×Operand)→Option (List (Nat×V))
 |[]=>some []
 |(i,x)::l=>match jh ev x,kL ev l with
  |some y,some m=>some ((i,y)::m)
  |_,_=>none
def tW:List (Nat×TypeId)→Bool
 |[]=>true
 |(_,t)::l=>(size E t).isSome&&tW l
def E0 (t:TypeId):Option (Nat→Option (Nat×TypeId)):=
 match E.ti t with
 |some i=>match i.sh with
  | .struct fs=>bif tW E fs then some fun j=>fs[j]? else none
  | .arr _ e=>match size E e with|some n=>some fun j=>some (j*n,e)|none=>none
  |_=>none
 |none=>none
def bd (o:Op) (ev:Ev):Option (fR T):=
 match o with
 | .move x| .assign x=>match ev x with|some y=>some (.one true y)|none=>none
 | .pick c a b=>
   match ev c with
   |some (.v (.bool t))=>
    match ev a,ev b with
    |some (.v (.bool x)),some (.v (.bool y))=>some (.one true (.v (.bool (bif t then x else y))))
    |a',b'=>match t with
     |true=>(match a' with|some y=>some (.one true y)|none=>none)
     |false=>(match b' with|some y=>some (.one true y)|none=>none)
   |_=>none
 | .binOp op t x y _=>match jh ev x,jh ev y with|some a,some b=>Bv (TX E op t (sA y) a b)|_,_=>none
 | .unOp op _ x=>match jh ev x with|some a=>(match unV op a with|some v=>some (.one true (.v v))|none=>none)|none=>none
 | .convert s d x=>
   match E.ti s,bh E d,jh ev x with
   |some _,some (.int k),some (.int _ n)=>some (.one true (.v (.int k (k.wrap n))))
   |some _,some .cG,some (.cG s)=>some (.one true (.v (.cG s)))
   |some _,some .cG,some (.int _ n)=>some (.one true (.v (.cG (Utf8.encode n))))
   |_,_,_=>none
 | .nilCheck x=>
   match ev x with
   |some (.v (.aj p))=>some (.one p.isSome (.v (.aj (some ((p.getD (0,0)).1,(p.getD (0,0)).2)))))
   |some (.lp s off)=>some (.one true (.lp s off))
   |_=>none
 | .fieldAddr t x f=>
   match tV E t f with
   |some (o,ft)=>match size E ft with
    |some n=>bif sB n then (match ev x with
     |some (.v (.aj (some (id,off))))=>some (.one true (.v (.aj (some (id,off+o)))))
     |some (.lp s off)=>some (.one true (.lp s (off+o)))
     |_=>none) else none
    |none=>none
   |none=>none
 | .field t x f=>
   match tV E t f,jh ev x with
   |some (o,ft),some (.agg cs)=>Bv (mR E ft cs o)
   |_,_=>none
 | .indexAddr t x i=>
   match rU i ev,E.ti t with
   |some n,some ti=>match ti.sh with
    | .arr len e=>match size E e,ev x with
      |some sz,some (.v (.aj (some (id,off))))=>some (.one (decide (0≤n)&&decide (n<(len:Int))) (.v (.aj (some (id,off+n.toNat*sz)))))
      |some sz,some (.lp s off)=>some (.one (decide (0≤n)&&decide (n<(len:Int))) (.lp s (off+n.toNat*sz)))
      |_,_=>none
    | .slice e=>match size E e,ev x with
      |some sz,some (.v (.slice p len _))=>some (.one (decide (0≤n)&&decide (n<(len:Int))&&p.isSome) (.v (.aj (some ((p.getD (0,0)).1,(p.getD (0,0)).2+n.toNat*sz)))))
      |_,_=>none
    |_=>none
   |_,_=>none
 | .index t x i=>
   match rU i ev,E.ti t,jh ev x with
   |some n,some ti,some v=>match ti.sh,v with
    | .arr len e,.agg cs=>match size E e with
      |some sz=>match mR E e cs (n.toNat*sz) with
       |some (r,y)=>some (.one (decide (0≤n)&&decide (n<(len:Int))&&r) (.v y))
       |none=>none
      |none=>none
    | .cG,.cG s=>some (.one (decide (0≤n)&&decide (n<(s.size:Int))) (.v (.int .u8 (Ht s n.toNat))))
    |_,_=>none
   |_,_,_=>none
 | .slice t x lo hi mx=>
   match E.ti t,ev x with
   |some ti,some (.v (.cG s))=>
    match ti.sh,mx with
    | .cG,none=>match gw ev s.size s.size lo hi none with
      |some (r,l,h,_)=>some (.one r (.v (.cG (s.extract l h))))
      |none=>none
    |_,_=>none
   |some ti,some (.v (.slice p len cap))=>
    match ti.sh with
    | .slice e=>match gw ev len cap lo hi mx,size E e with
      |some (r,l,h,m),some sz=>some (.one (r&&Nat.ble h m) (.v (.slice (bP p (l*sz)) (h-l) (m-l))))
      |_,_=>none
    |_=>none
   |some ti,some (.v (.aj (some (id,off))))=>
    match ti.sh with
    | .arr n e=>match gw ev n n lo hi mx,size E e with
      |some (r,l,h,m),some sz=>some (.one (r&&Nat.ble h m) (.v (.slice (some (id,off+l*sz)) (h-l) (m-l))))
      |_,_=>none
    |_=>none
   |_,_=>none
 | .makeInterface t x=>
   match bh E t,jh ev x with
   |some .iface,_=>none
   |_,some v=>match E.ti t with|some _=>some (.one true (.v (.iface t v)))|none=>none
   |_,_=>none
 | .makeFunc (.func f) first dG=>
   match first.toList,dG.toList with
   |[],_=>match sy ev dG.toList with
    |some cs=>some (.one true (.v (.func f cs)))
    |none=>none
   |x::l,[]=>match sy ev (x::l) with
    |some cs=>some (.one true (.v (.o9 f cs)))
    |none=>none
   |_,_=>none
 | .extract x i=>
   match jh ev x with
   |some (.tuple vs)=>match vs[i]? with|some v=>some (.one true (.v v))|none=>none
   |_=>none
 | .build t parts=>
   match E.ti t,E0 E t,kL ev parts.toList with
   |some ti,some pl,some ps=>match ti.zero with
    |some (.agg z)=>match qL E pl z ps with|some (r,cs)=>some (.one r (.v (.agg cs)))|none=>none
    |_=>none
   |_,_,_=>none
 | .typeAssert x _ d ok=>
   match jh ev x,E.ti d with
   |some v,some ti=>match ti.sh with
    | .iface=>none
    |_=>match tQ E d v.Nb,ti.zero with
     |some (r,y),some z=>
      let t:Bool:= !v.fw&&Nat.beq v.CR d
      match ok with
      |true=>
       some ⟨v.av .iface&&(!t||r),t,.v (.tuple [y,.bool true]),.v (.tuple [z,.bool false])⟩
      |false=>some (.one (v.av .iface&&t&&r) (.v y))
     |_,_=>none
   |_,_=>none
 | .call c=>
   match c.callee with
   | .builtin b=>match sy ev c.args.toList,c.argTypes.toList[0]? with|some vs,some t=>EZ E b vs t|_,_=>none
   |_=>none
 |_=>none
def gP (o:Op) (ev:Ev) (s:Nat) (L:Option aR):Option (fR T):=
 match o with
 | .load t a=>
   match ev a,L with
   |some (.lp s' off),some (.cells _ cs)=>bif Nat.beq s s' then Bv (mR E t cs off) else none
   |_,_=>none
 |_=>none
def ln (e:TypeId) (cs:List V):Bool×List V:=
 match od E e with
 |some ks=>(aI ks cs,n9 ks cs 0)
 |none=>(true,cs)
def ee (o:Op) (ev:Ev) (s:Nat) (L:Option aR):Option (fR (aR×T)):=
 match o with
 | .store t a x=>
   match ev a,jh ev x,L with
   |some (.lp s' off),some v,some (.cells e cs)=>
    match hJ E t v with
    |some (r,vs)=>bif Nat.beq s s' then
     some (.one (r&&Nat.ble (off+vs.length) cs.length&&(ln E e (bI cs off vs)).1) (.cells e (ln E e (bI cs off vs)).2,.undef)) else none
    |none=>none
   |_,_,_=>none
 | .next it true=>
   match ev it,L with
   |some (.lp s' 0),some (.dO cG jo)=>
    bif Nat.beq s s' then
     some ⟨true,Nat.blt jo cG.size,(.dO cG (jo+(Utf8.decode cG jo).2),.v (.tuple [.bool true,.int .i64 (jo:Int),.int .i32 ((Utf8.decode cG jo).1:Int)])),
      (.dO cG jo,.v (.tuple [.bool false]))⟩
    else none
   |_,_=>none
 |_=>none
def iR (o:Op) (ev:Ev):Option (Bool×aR):=
 match o with
 | .alloc t=>match E.ti t with
   |some i=>match i.zero with|some z=>some (true,.cells t z.cells)|none=>none
   |none=>none
 | .box t x=>match jh ev x with
   |some v=>match hJ E t v with|some (r,vs)=>some (r,.cells t vs)|none=>none
   |none=>none
 | .range t x=>match bh E t,jh ev x with
   |some .cG,some (.cG s)=>some (true,.dO s 0)
   |_,_=>none
 |_=>none
end aG
def br (c:Bool) (X Y:Prop):Prop:=match c with|true=>X|false=>Y
def ah (c:Bool) (X:Prop):Prop:=match c with|true=>X|false=>False
def pb (p:Oq):Nat:=(p.getD (0,0)).1
def po (p:Oq):Nat:=(p.getD (0,0)).2
theorem CU (a b:Nat):pb (some (a,b))=a:=rfl
theorem CV (a b:Nat):po (some (a,b))=b:=rfl
theorem oU (p:Oq):pb p=(p.getD (0,0)).1:=rfl
theorem oV (p:Oq):po p=(p.getD (0,0)).2:=rfl
def nm {α:Type} (a:α) (K:α→Prop):Prop:=K a
theorem oW {α:Type} (a:α) (K:α→Prop):nm a K=K a:=rfl
def ct {α:Type} (A:(α→Prop)→Prop) (Q:α→Prop):Prop:=A Q
structure mw where
 call:FuncId→List V→ag→(V→ag→Prop)→Prop
 loop:Code→FuncId→Nat→St→(St→Prop)→(Nat→St→Prop)→Prop
inductive Ex where
 |normal|exit (id:Nat)|ret
def fR.run {α:Type} (d:fR α) (K:α→Prop):Prop:=ah d.rq (br d.c (K d.x) (K d.y))
inductive Cls where
 |pure|oX (s:Nat)|iS (s:Nat)|tX|kH|dv|tY
def CX (ann:bO):Operand→Option Nat
 | .tmp t=>ab ann.aV t
 |_=>none
def E1 (ann:bO):List Operand→Bool
 |[]=>false
 |x::l=>(CX ann x).isSome||E1 ann l
def Hu (E:ku) (ann:bO) (o:Oper):Cls:=
 match o.op with
 | .makeFunc _ _ dG=>bif E1 ann dG.toList then .tY else .pure
 | .alloc _=>match o.dst with|some d=>bif bD d ann.aX then .tX else .dv|none=>.dv
 | .box _ _=>match o.dst with|some d=>bif bD d ann.aX then .tX else .dv|none=>.dv
 | .range _ _=>match o.dst with|some d=>bif bD d ann.aX then .tX else .dv|none=>.dv
 | .load _ a=>match CX ann a with|some s=>.oX s|none=>.kH
 | .store _ a _=>match CX ann a with|some s=>.iS s|none=>.dv
 | .next it true=>match CX ann it with|some s=>.iS s|none=>.dv
 | .next _ false=>.dv
 | .makeMap .. =>.dv
 | .makeSlice .. =>.dv
 | .buildSlice .. =>.dv
 | .mapUpdate .. =>.dv
 | .insert .. =>.dv
 | .mapEntry .. =>.dv
 | .entryStore .. =>.dv
 | .lookup .. =>.kH
 | .entry _=>.kH
 | .convert s d _=>match bh E s,bh E d with
   |some .slice,some .slice=>.dv
   |some .slice,_=>.kH
   |_,some .slice=>.dv
   |_,_=>.pure
 | .call c=>match c.callee with
   | .builtin .len=>match c.argTypes.toList[0]? with
     |some t=>match bh E t with|some .map=>.kH|_=>.pure
     |none=>.pure
   | .builtin .cap=>.pure
   | .builtin .min=>.pure
   | .builtin .max=>.pure
   |_=>.dv
 |_=>.pure
section
variable (E:ku)
def dz:List V→ByteArray→ByteArray
 |[],acc=>acc
 |v::l,acc=>dz l (acc.push (UInt8.ofNat v.aa.toNat))
def Hv (k:cj):List V→Bool
 |[]=>true
 |v::l=>v.av k&&Hv k l
def eY (H:ag) (p:Oq) (len:Nat):Bool:=
 p.isNone||Nat.beq len 0||(H.inb (p.getD (0,0)).1 (p.getD (0,0)).2 len&&Hv (.int .u8) (H.sub (p.getD (0,0)).1 (p.getD (0,0)).2 len))
def eZ (H:ag) (p:Oq) (len:Nat):ByteArray:=
 bif p.isNone||Nat.beq len 0 then ByteArray.empty else dz (H.sub (p.getD (0,0)).1 (p.getD (0,0)).2 len) ByteArray.empty
def dD (o:Op) (ev:Ev) (H:ag):Option (fR T):=
 match o with
 | .load t a=>
   match ev a with
   |some (.v (.aj (some (id,off))))=>
    match bh E t with
    |some k=>some (.one (H.inb id off 1&&(H.cell id off).av k) (.v ((H.cell id off).S3 k)))
    |none=>match od E t,size E t with
     |some ks,some n=>some (.one (H.inb id off n&&aI ks (H.sub id off n)) (.v (.agg (n9 ks (H.sub id off n) 0))))
     |_,_=>none
   |_=>none
 | .convert s d x=>
   match E.ti s,bh E d,jh ev x with
   |some ti,some .cG,some (.slice p len _)=>
    match ti.sh with
    | .slice e=>match bh E e with
      |some (.int .u8)=>
       some (.one (eY H p len) (.v (.cG (eZ H p len))))
      |_=>none
    |_=>none
   |_,_,_=>none
 | .lookup t x i commaOk=>
   match E.ti t,jh ev x,jh ev i with
   |some ti,some (.map r),some (.int k n)=>match ti.sh with
    | .map kt et=>match bh E kt,E.ti et with
      |some (.int k'),some ei=>match ei.zero with
       |some z=>match tQ E et (cq H r n z) with
        |some (b,y)=>match commaOk with
         |true=>some (.one (py k k'&&(eD H k r&&b)) (.v (.tuple [y,.bool (lh H r n)])))
         |false=>some (.one (py k k'&&(eD H k r&&b)) (.v y))
        |none=>none
       |none=>none
      |_,_=>none
    |_=>none
   |_,_,_=>none
 | .entry it=>
   match ev it with
   |some (.v (.dO t id))=>match E.ti t with
    |some ti=>match ti.sh with
     | .map kt et=>match tQ E kt (kJ H id),tQ E et (iO H id) with
       |some (a,x),some (b,y)=>some (.one (sx H id&&(a&&b)) (.v (.tuple [x,y])))
       |_,_=>none
     |_=>none
    |none=>none
   |_=>none
 | .call c=>
   match c.callee,c.argTypes.toList,sy ev c.args.toList with
   | .builtin .len,t::_,some [.map r]=>match bh E t with
     |some .map=>some (.one (r.isNone||H.isMap (r.getD 0)) (.v (.int .i64 (yd H r))))
     |_=>none
   |_,_,_=>none
 |_=>none
def hO:Nat→List V→List V
 |0,_=>[]
 |n+1,l=>l++hO n l
def vH:List V→Bool
 |[]=>true
 |v::l=>v.one&&vH l
def ye (a b:List V):List V:=a++b
def dU (n:Nat) (z:List V):List V:=hO n z
def fc (s:ByteArray):List V:=s.data.toList.map fun b=>.int .u8 b.toNat
def pB (H:ag) (n:Nat) (p:Oq) (m:Nat):Bool:=
 Nat.beq m 0||(p.isSome&&(H.inb (p.getD (0,0)).1 (p.getD (0,0)).2 (m*n)&&vH (H.sub (p.getD (0,0)).1 (p.getD (0,0)).2 (m*n))))
def lq (H:ag) (n:Nat):V→Option (Nat×(Nat→Bool)×(Nat→List V))
 | .slice p len _=>some (len,fun m=>pB H n p m,fun m=>bif Nat.beq m 0 then [] else H.sub (p.getD (0,0)).1 (p.getD (0,0)).2 (m*n))
 | .cG s=>some (s.size,fun _=>Nat.beq n 1,fun m=>(fc s).take m)
 |_=>none
def QU (lo hi:Nat) (K:Nat→Prop):Prop:=∀c,lo≤c→c≤hi→K c
def iT:Option cj→Bool
 |some .slice=>true
 |some .cG=>true
 |_=>false
def fH (t:TypeId):Option (TypeId×Nat×Nat×List V):=
 match E.ti t with
 |some ti=>match ti.sh with
  | .slice el=>match E.ti el with
    |some ei=>match ei.zero with
     |some z=>bif Nat.beq z.cells.length ei.size&&sB ei.size then some (el,ei.size,ei.bytes,z.cells) else none
     |none=>none
    |none=>none
  |_=>none
 |none=>none
def mT (H:ag) (n cM:Nat) (z:List V) (k:Option cj) (x:V):Option (Bool×Nat×(Nat→Bool)×(Nat→List V)):=
 match k with
 |some (.int .i64)=>match x with
  | .int .i64 m=>some (decide (0≤m)&&decide (m*(cM+1)≤70368744177664),m.toNat,fun _=>true,fun j=>dU j z)
  |_=>none
 |k=>match iT k with
  |true=>(match lq H n x with|some (m,ok,cs)=>some (true,m,ok,cs)|none=>none)
  |false=>none
def aP (ts:List TypeId) (args:List V) (H:ag) (K:Oq→Nat→Nat→ag→Prop):Prop:=
 match ts,args with
 |[t,u],[.slice p l cp,x]=>
  match fH E t with
  |some (el,n,cM,z)=>match mT H n cM z (bh E u) x with
   |some (r,m,ok,cs)=>ah r
    (br (Nat.ble (l+m) cp)
     (ah (Nat.beq m 0||(p.isSome&&(ok m&&H.wr (p.getD (0,0)).1 ((p.getD (0,0)).2+l*n) (m*n))))
      (K p (l+m) cp (bif Nat.beq m 0 then H else H.store (p.getD (0,0)).1 ((p.getD (0,0)).2+l*n) (cs m))))
     (ah (pB H n p l&&(ok m&&Nat.ble ((l+m)*(cM+1)) 70368744177664))
      (QU (l+m) 9223372036854775807 fun c=>K (some (H.next,0)) (l+m) c
       (H.alloc (.cells el (ye (bif Nat.beq l 0 then [] else H.sub (p.getD (0,0)).1 (p.getD (0,0)).2 (l*n)) (ye (cs m) (dU (c-(l+m)) z))) false)))))
   |none=>False
  |none=>False
 |_,_=>False
def kv (H:ag) (n:Nat) (p:Oq) (l:Nat) (x:V):Bool:=match lq H n x with
 |some (m,ok,cs)=>Nat.beq (Nat.min m l) 0||(p.isSome&&(ok (Nat.min m l)&&H.wr (p.getD (0,0)).1 (p.getD (0,0)).2 (Nat.min m l*n)))
 |none=>false
def kx (H:ag) (n:Nat) (p:Oq) (l:Nat) (x:V):ag:=match lq H n x with
 |some (m,ok,cs)=>bif Nat.beq (Nat.min m l) 0 then H else H.store (p.getD (0,0)).1 (p.getD (0,0)).2 (cs (Nat.min m l))
 |none=>H
def iU (g:FuncId) (args:List V) (H:ag) (K:V→ag→Prop):Prop:=
 match E.ext g with
 |some x=>x.run args H K
 |none=>False
def lu (R:mw) (fv:V) (args:List V) (H:ag) (K:V→ag→Prop):Prop:=
 match fv with
 | .func g cap=>match (E.ext g).isSome with
   |true=>iU E g (args++cap) H K
   |false=>R.call g (args++cap) H K
 | .o9 g first=>match (E.ext g).isSome with
   |true=>iU E g (first++args) H K
   |false=>R.call g (first++args) H K
 |_=>False
def bY (o:Op) (ev:Ev) (H:ag):Option (Bool×T×ag):=
 match o with
 | .buildSlice t len parts=>
   match E.ti t,kL ev parts.toList with
   |some ti,some ps=>match ti.sh with
    | .slice el=>match size E el,E.ti el with
      |some n,some ei=>match ei.zero with
       |some z=>bif Nat.beq z.cells.length n&&sB n&&Nat.ble (len*n) 16777216 then
        (match qL E (fun j=>some (j*n,el)) (hO len z.cells) ps with
        |some (r,cs)=>some (r,.v (.slice (some (H.next,0)) len len),H.alloc (.cells el cs false))
        |none=>none) else none
       |none=>none
      |_,_=>none
    |_=>none
   |_,_=>none
 | .makeSlice t len cap=>
   match fH E t,jh ev len,jh ev cap with
   |some (el,_,cM,z),some (.int _ l),some (.int _ c)=>
    some (decide (0≤l)&&(decide (l≤c)&&decide (c*(cM+1)≤70368744177664)),.v (.slice (some (H.next,0)) l.toNat c.toNat),H.alloc (.cells el (dU c.toNat z) false))
   |_,_,_=>none
 | .convert s d x=>
   match bh E s,jh ev x,E.ti d with
   |some .slice,some (.slice p len cap),some ti=>match ti.sh with
    | .slice e=>match bh E e with
      |some (.int .u8)=>some (Nat.beq s d&&(p.isSome&&(!Nat.beq cap 0&&H.wr (p.getD (0,0)).1 0 0)),.v (.slice p len cap),H)
      |_=>none
    |_=>none
   |_,_,_=>none
 | .call c=>
   match c.callee,c.argTypes.toList,sy ev c.args.toList with
   | .builtin .copy,t::_,some [.slice p l _,x]=>
     match fH E t with
     |some (_,n,_,_)=>match lq H n x with
      |some (m,_,_)=>some (kv H n p l x,.v (.int .i64 (Nat.min m l)),kx H n p l x)
      |none=>none
     |none=>none
   | .builtin .delete,t::_,some [.map r,.int k n]=>
     match E.ti t with
     |some ti=>match ti.sh with
      | .map kt _=>match bh E kt with
        |some (.int k')=>some (py k k'&&eD H k r,.v (.tuple []),pA H r n)
        |_=>none
      |_=>none
     |none=>none
   | .builtin .clear,t::_,some [.slice p l _]=>
     match fH E t with
     |some (_,n,_,z)=>
      some (p.isNone||Nat.beq l 0||H.wr (p.getD (0,0)).1 (p.getD (0,0)).2 (l*n),.v (.tuple []),
       bif p.isNone||Nat.beq l 0 then H else H.store (p.getD (0,0)).1 (p.getD (0,0)).2 (dU l z))
     |none=>none
   |_,_,_=>none
 | .makeMap t none=>match bh E t with
   |some .map=>some (true,.v (.map (some H.next)),H.alloc (.map [] 0))
   |_=>none
 | .range t x=>
   match E.ti t,jh ev x with
   |some ti,some (.map r)=>match ti.sh with
    | .map _ _=>some (r.isNone||H.isMap (r.getD 0),.v (.dO t H.next),H.alloc (mapIter H r))
    |_=>none
   |_,_=>none
 |_=>none
def bL (R:mw) (o:Op) (rt:TypeId) (ev:Ev) (H:ag) (K:T→ag→Prop):Prop:=
 match o with
 | .alloc t=>match E.ti t with
   |some i=>match i.zero with|some z=>K (.v (.aj (some (H.next,0)))) (H.alloc (.cells t z.cells false))|none=>False
   |none=>False
 | .box t x=>match jh ev x with
   |some v=>match hJ E t v with
    |some (r,vs)=>ah r (K (.v (.aj (some (H.next,0)))) (H.alloc (.cells t vs false)))
    |none=>False
   |none=>False
 | .store t a x=>
   match ev a,jh ev x with
   |some (.v (.aj (some (id,off)))),some v=>
    match hJ E t v with
    |some (r,vs)=>ah (r&&H.wr id off vs.length) (K .undef (H.store id off vs))
    |none=>False
   |_,_=>False
 | .mapUpdate t m x v=>
   match E.ti t,jh ev m,jh ev x,jh ev v with
   |some ti,some (.map r),some (.int k n),some v=>match ti.sh with
    | .map kt et=>match bh E kt,tQ E et v with
      |some (.int k'),some (b,_)=>ah (py k k'&&(r.isSome&&(eD H k r&&b))) (K .undef (il H k (r.getD 0) n v))
      |_,_=>False
    |_=>False
   |_,_,_,_=>False
 | .call c=>
   match c.callee,sy ev c.args.toList with
   | .value f,some args=>
     match jh ev f with
     |some fv=>lu E R fv args H fun v H'=>match tU E rt v with|some (b,v')=>ah b (K (.v v') H')|none=>False
     |none=>False
   | .builtin .append,some args=>aP E c.argTypes.toList args H fun q n c H'=>K (.v (.slice q n c)) H'
   |_,_=>match bY E (.call c) ev H with
    |some (r,x,H')=>ah r (K x H')
    |none=>False
 | .convert s d x=>
   match bh E s,jh ev x,E.ti d with
   |some .cG,some (.cG b),some ti=>match ti.sh with
    | .slice el=>match bh E el with
      |some (.int .u8)=>ah (Nat.ble b.size 70368744177664) (QU b.size 9223372036854775807 fun c=>
       K (.v (.slice (some (H.next,0)) b.size c)) (H.alloc (.cells el (ye (fc b) (dU (c-b.size) [.int .u8 0])) false)))
      |_=>False
    |_=>False
   |_,_,_=>match bY E (.convert s d x) ev H with
    |some (r,x,H')=>ah r (K x H')
    |none=>False
 | .next it false=>
   match ev it with
   |some (.v (.dO _ id))=>mapNext H id (K (.v (.tuple [.bool false])) H) fun H'=>K (.v (.tuple [.bool true,.cx,.cx])) H'
   |_=>False
 |o=>match bY E o ev H with
  |some (r,x,H')=>ah r (K x H')
  |none=>False
def fZ (aG:List Oper) (tm:Nat→Option T) (j:Nat):Option T:=
 match aG[j]? with
 |some o=>match o.dst with|some d=>tm d|none=>none
 |none=>none
def sC (ann:bO) (d:Nat) (S:St):St:=
 {S with tm:=fun t=>match ab ann.aV t with|some s=>bif Nat.beq s d then none else S.tm t|none=>S.tm t}
def jw (ann:bO) (N:Nat) (dst:Option Tmp) (x:T) (S:St) (K:St→Prop):Prop:=
 match dst with
 |none=>K S
 |some d=>ah (Nat.blt d N) (match x with
  | .lp s _=>(match ab ann.aV d with|some s'=>bif Nat.beq s s' then K (S.setT d x) else False|none=>False)
  |_=>K (S.setT d x))
def pC (ann:bO) (s:Nat) (e:TypeId) (cs:List V) (S:St):St:=
 {sC ann s S with lo:=fun t=>bif Nat.beq t s then none else S.lo t,hp:=S.hp.alloc (.cells e cs false)}
def qM (ann:bO):List Operand→St→Option (List V×St)
 |[],S=>some ([],S)
 |x::l,S=>match cS S.tm x with
  |some (.v v)=>match qM ann l S with|some (vs,S')=>some (v::vs,S')|none=>none
  |some (.lp s 0)=>match S.lo s with
   |some (.cells e cs)=>match qM ann l (pC ann s e cs S) with|some (vs,S')=>some (.aj (some (S.hp.next,0))::vs,S')|none=>none
   |_=>none
  |_=>none
def Jc (ann:bO) (N:Nat) (o:Oper) (S:St) (K:St→Prop):Prop:=
 match o.op with
 | .makeFunc (.func f) first dG=>match first.toList,qM ann dG.toList S with
   |[],some (vs,S')=>jw ann N o.dst (.v (.func f vs)) S' K
   |_,_=>False
 |_=>False
def jq (R:mw) (ann:bO) (N:Nat) (o:Oper) (S:St) (K:St→Prop):Prop:=
 match Hu E ann o with
 | .pure=>match bd E o.op (cS S.tm) with|some d=>d.run fun x=>jw ann N o.dst x S K|none=>False
 | .oX s=>match gP E o.op (cS S.tm) s (S.lo s) with|some d=>d.run fun x=>jw ann N o.dst x S K|none=>False
 | .iS s=>match ee E o.op (cS S.tm) s (S.lo s) with|some d=>d.run fun x=>jw ann N o.dst x.2 (S.setL s x.1) K|none=>False
 | .tX=>match o.dst,iR E o.op (cS S.tm) with
   |some d,some (r,L)=>ah r (jw ann N (some d) (.lp d 0) ((sC ann d S).setL d L) K)
   |_,_=>False
 | .kH=>match dD E o.op (cS S.tm) S.hp with|some d=>d.run fun x=>jw ann N o.dst x S K|none=>False
 | .dv=>bL E R o.op o.type (cS S.tm) S.hp fun x H'=>jw ann N o.dst x {S with hp:=H'} K
 | .tY=>Jc ann N o S K
def ff (R:mw) (ann:bO) (N:Nat) (aG:List Oper) (o:Oper) (S:St) (K:St→Prop):Prop:=
 match o.guard with
 |none=>jq E R ann N o S K
 |some (j,want)=>
  match fZ aG S.tm j with
  |some (.v (.bool b))=>br (b == want) (jq E R ann N o S K) (jw ann N o.dst .undef S K)
  |some .undef=>jw ann N o.dst .undef S K
  |_=>False
def ly (R:mw) (ann:bO) (N:Nat) (aG:List Oper):List Oper→St→(St→Prop)→Prop
 |[],S,K=>K S
 |o::l,S,K=>ff E R ann N aG o S fun S'=>ly R ann N aG l S' K
def CY (aG:List Oper) (j:Nat):Option Nat:=
 match aG[j]? with
 |some o=>o.dst
 |none=>none
def tZ (R:mw) (ann:bO) (N:Nat) (aG:List Oper) (o:Oper) (S:St) (K:St→Prop):Prop:=
 match o.guard with
 |none=>jq E R ann N o S K
 |some (j,want)=>
  match CY aG j with
  |none=>False
  |some s=>
   match S.tm s with
   |some (.v (.bool b))=>br (QR want b) (jq E R ann N o (S.setT s (.v (.bool want))) K) (jw ann N o.dst .undef (S.setT s (.v (.bool (!want)))) K)
   |some .undef=>jw ann N o.dst .undef S K
   |_=>False
def sD (R:mw) (ann:bO) (N:Nat) (aG:List Oper):List Oper→St→(St→Prop)→Prop
 |[],S,K=>K S
 |o::l,S,K=>tZ E R ann N aG o S fun S'=>sD R ann N aG l S' K
def ea:Code→Nat
 | .seq a b=>ea a+ea b
 | .cond _ a b=>1+ea a+ea b
 | .block _ b=>ea b
 | .scope b=>ea b
 | .loop b=>1+ea b
 | .region .. =>1
 |_=>0
def E2 (tm:Nat→Option T):List Nat→Option (List (Nat×T))
 |[]=>some []
 |t::l=>match tm t,E2 tm l with
  |some x,some m=>some ((t,x)::m)
  |_,_=>none
def E3 (lo:Nat→Option aR):List Nat→Option (List (Nat×aR))
 |[]=>some []
 |t::l=>match lo t,E3 lo l with
  |some x,some m=>some ((t,x)::m)
  |_,_=>none
def lz (ts ls:List Nat) (S:St) (K:St→Prop):Prop:=
 match E2 S.tm ts,E3 S.lo ls with
 |some a,some b=>K ⟨ab a,ab b,S.hp⟩
 |_,_=>False
inductive fN (α:Type) where
 |leaf (a:α)
 |br (c:Bool) (x y:fN α)
 |ah (c:Bool) (x:fN α)
 |aT
def fN.run {α:Type} (K:α→Prop):fN α→Prop
 | .leaf a=>K a
 | .br c x y=>Am.br c (x.run K) (y.run K)
 | .ah c x=>Am.ah c (x.run K)
 | .aT=>False
def fN.bind {α β:Type}:fN α→(α→fN β)→fN β
 | .leaf a,k=>k a
 | .br c x y,k=>.br c (x.bind k) (y.bind k)
 | .ah c x,k=>.ah c (x.bind k)
 | .aT,_=>.aT
structure MS where
 U:List (Nat×T)
 W:List (Nat×aR)
 kn:List Nat
def pd (S:St) (U:List (Nat×T)) (t:Nat):Option T:=match ab U t with|some x=>some x|none=>S.tm t
def yf (S:St) (W:List (Nat×aR)) (t:Nat):Option aR:=match ab W t with|some x=>some x|none=>S.lo t
def MS.st (S:St) (M:MS):St:=⟨pd S M.U,yf S M.W,S.hp⟩
def CZ (ann:bO) (N:Nat) (dst:Option Tmp) (x:T) (M:MS):fN MS:=
 match dst with
 |none=>.leaf M
 |some d=>.ah (Nat.blt d N) (match x with
  | .lp s _=>(match ab ann.aV d with|some s'=>bif Nat.beq s s' then .leaf {M with U:=(d,x)::M.U} else .aT|none=>.aT)
  |_=>.leaf {M with U:=(d,x)::M.U})
def E4 (ann:bO) (N:Nat) (o:Oper) (S:St) (M:MS):fN MS:=
 match Hu E ann o with
 | .pure=>match bd E o.op (cS (pd S M.U)) with|some d=>.ah (d.rq&&d.c) (CZ ann N o.dst d.x M)|none=>.aT
 | .oX s=>match gP E o.op (cS (pd S M.U)) s (yf S M.W s) with|some d=>.ah (d.rq&&d.c) (CZ ann N o.dst d.x M)|none=>.aT
 | .iS s=>match ee E o.op (cS (pd S M.U)) s (yf S M.W s) with|some d=>.ah (d.rq&&d.c) (CZ ann N o.dst d.x.2 {M with W:=(s,d.x.1)::M.W})|none=>.aT
 | .kH=>match dD E o.op (cS (pd S M.U)) S.hp with|some d=>.ah (d.rq&&d.c) (CZ ann N o.dst d.x M)|none=>.aT
 |_=>.aT
def Ng (ann:bO) (N:Nat) (aG:List Oper) (o:Oper) (S:St) (M:MS):fN MS:=
 match o.guard with
 |none=>E4 E ann N o S M
 |some (j,want)=>
  match CY aG j with
  |none=>.aT
  |some s=>
   match pd S M.U s with
   |some (.v (.bool b))=>
    match bD s M.kn with
    |true=>match QR want b with
     |true=>E4 E ann N o S M
     |false=>CZ ann N o.dst .undef M
    |false=>.br (QR want b) (E4 E ann N o S {M with U:=(s,.v (.bool want))::M.U,kn:=s::M.kn})
     (CZ ann N o.dst .undef {M with U:=(s,.v (.bool (!want)))::M.U,kn:=s::M.kn})
   |some .undef=>CZ ann N o.dst .undef M
   |_=>.aT
def C0 (ann:bO) (N:Nat) (aG:List Oper):List Oper→St→MS→fN MS
 |[],_,M=>.leaf M
 |o::l,S,M=>(Ng E ann N aG o S M).bind (C0 ann N aG l S)
def aJ (c r1 r2:Bool):Bool:=match r1,r2 with
 |true,true=>true
 |r1,r2=>bif c then r1 else r2
def C1 (c:Bool):T→T→Option T
 | .v x,.v y=>some (.v (Hr c x y))
 | .lp s o,.lp s' o'=>bif Nat.beq s s'&&Nat.beq o o' then some (.lp s o) else none
 | .undef,.undef=>some .undef
 |_,_=>none
def C2 (c:Bool):aR→aR→Option aR
 | .cells e cs,.cells e' cs'=>bif Nat.beq e e' then (match tN c cs cs' with|some r=>some (.cells e r)|none=>none) else none
 |_,_=>none
def oe {α:Type} (g:Nat→Option α) (f:α→α→Option α) (A B:List (Nat×α)):List Nat→Option (List (Nat×α))
 |[]=>some []
 |t::l=>match oe g f A B l with
  |none=>none
  |some r=>match ab A t,ab B t with
   |none,none=>some r
   |some a,some b=>match f a b with|some m=>some ((t,m)::r)|none=>none
   |some a,none=>match g t with|some b=>(match f a b with|some m=>some ((t,m)::r)|none=>none)|none=>none
   |none,some b=>match g t with|some a=>(match f a b with|some m=>some ((t,m)::r)|none=>none)|none=>none
def og {α:Type} (a b:List Nat):List (Nat×α)→Bool
 |[]=>true
 |(t,_)::l=>(bD t a||bD t b)&&og a b l
def oY (S:St) (ts ls dT dL:List Nat):fN MS→Option (Bool×List (Nat×T)×List (Nat×aR))
 | .leaf M=>bif og ts dT M.U&&og ls dL M.W then some (true,M.U,M.W) else none
 | .ah c x=>match oY S ts ls dT dL x with|some (r,U,W)=>some (c&&r,U,W)|none=>none
 | .br c x y=>match oY S ts ls dT dL x,oY S ts ls dT dL y with
   |some (r1,U1,W1),some (r2,U2,W2)=>
    match oe S.tm (C1 c) U1 U2 ts,oe S.lo (C2 c) W1 W2 ls with
    |some U,some W=>some (aJ c r1 r2,U,W)
    |_,_=>none
   |_,_=>none
 | .aT=>none
def rN (dT dL:List Nat) (S:St):St:=
 ⟨fun t=>bif bD t dT then none else S.tm t,fun s=>bif bD s dL then none else S.lo s,S.hp⟩
def pD (ts ls dT dL:List Nat) (tr:fN MS) (S:St) (K:St→Prop):Prop:=
 match oY S ts ls dT dL tr with
 |some (r,U,W)=>ah r (K (rN dT dL ⟨pd S U,yf S W,S.hp⟩))
 |none=>False
def kz (R:mw) (ann:bO) (N:Nat) (ts ls dT dL:List Nat) (aG:List Oper):List Oper→St→(St→Prop)→Prop
 |[],S,K=>K (rN dT dL S)
 |o::l,S,K=>match o.guard with
  |none=>tZ E R ann N aG o S fun S'=>kz R ann N ts ls dT dL aG l S' K
  |some _=>pD ts ls dT dL (C0 E ann N aG (o::l) S ⟨[],[],[]⟩) S K
def T.val:Option T→V
 |some (.v x)=>x
 |_=>.none
def aC:KT→Option T→Bool
 | .k k,some (.v x)=>x.av k
 | .agg ks,some (.v x)=>x.isAgg&&aI ks x.af
 | .lp s,some (.lp s' 0)=>Nat.beq s s'
 | .undef,some .undef=>true
 |_,_=>false
def QV:KT→Option T→T
 | .k k,x=>.v ((T.val x).S3 k)
 | .agg ks,x=>.v (.agg (n9 ks (T.val x).af 0))
 | .lp s,_=>.lp s 0
 | .undef,_=>.undef
def aq:Option aR→List V
 |some (.cells _ cs)=>cs
 |_=>[]
def ey (e:TypeId) (ks:List cj):Option aR→Bool
 |some (.cells e' cs)=>Nat.beq e e'&&aI ks cs
 |_=>false
def lA (S:St):List (Nat×KT)→Bool×List (Nat×T)
 |[]=>(true,[])
 |(t,k)::l=>(aC k (S.tm t)&&(lA S l).1,(t,QV k (S.tm t))::(lA S l).2)
def lB (S:St):List (Nat×TypeId×List cj)→Bool×List (Nat×aR)
 |[]=>(true,[])
 |(s,e,ks)::l=>(ey e ks (S.lo s)&&(lB S l).1,(s,.cells e (n9 ks (aq (S.lo s)) 0))::(lB S l).2)
def Bw (ts:List (Nat×KT)) (ls:List (Nat×TypeId×List cj)) (S:St) (K:St→Prop):Prop:=
 ah ((lA S ts).1&&(lB S ls).1) (K ⟨ab (lA S ts).2,ab (lB S ls).2,S.hp⟩)
def sE (ann:bO) (n:Nat):Option jv:=ab ann.bg n
def pE {α β:Type}:List (α×β)→List α
 |[]=>[]
 |(a,_)::l=>a::pE l
def vI (kp:jv) (K:Ex→St→Prop):List Nat→Nat→St→Prop
 |[],_,_=>False
 |j::l,id,S=>br (Nat.beq id j) (Bw kp.cd kp.hI S (K (.exit j))) (vI kp K l id S)
def oh:List Operand→List Nat
 |[]=>[]
 | .tmp t::l=>t::oh l
 |_::l=>oh l
structure jT where
 rt:List Nat
 wt:List Nat
 rl:List Nat
 wl:List Nat
 rh:Bool
 wh:Bool
 no:Bool
def kM (d:Nat):List (Nat×Nat)→List Nat
 |[]=>[]
 |(t,s)::l=>bif Nat.beq s d then t::kM d l else kM d l
def yg (aG:List Oper) (o:Oper):List Nat:=
 match o.guard with
 |some (j,_)=>(match aG[j]? with|some q=>q.dst.toList|none=>[])
 |none=>[]
def Xl (aG:List Oper) (o:Oper):List Nat:=oh o.op.operands.toList++yg aG o
def C3 (ann:bO) (o:Oper):List Nat:=match o.dst with|some d=>kM d ann.aV|none=>[]
def mU:Cls→List Nat→List Nat→List Nat→jT
 | .pure,rt,wt,_=>⟨rt,wt,[],[],false,false,false⟩
 | .oX s,rt,wt,_=>⟨rt,wt,[s],[],false,false,false⟩
 | .iS s,rt,wt,_=>⟨rt,wt,[s],[s],false,false,false⟩
 | .tX,rt,wt,ex=>⟨rt,wt++ex,[],wt,false,false,false⟩
 | .kH,rt,wt,_=>⟨rt,wt,[],[],true,false,false⟩
 | .dv,rt,wt,_=>⟨rt,wt,[],[],true,true,false⟩
 | .tY,rt,wt,_=>⟨rt,wt,[],[],true,true,true⟩
def cX (ann:bO) (aG:List Oper) (o:Oper):jT:=mU (Hu E ann o) (Xl aG o) o.dst.toList (C3 ann o)
def jr:List Nat→List Nat→Bool
 |[],_=>false
 |x::l,m=>bD x m||jr l m
def gx (a b:jT):Bool:=
 !jr a.wt b.rt&& !jr a.wt b.wt&& !jr b.wt a.rt&& !jr a.wl b.rl&& !jr a.wl b.wl&& !jr b.wl a.rl
  && !(a.wh&&b.rh)&& !(b.wh&&a.rh)&&(!a.no&& !b.no)
def qN (acc:List (List Nat)):List Edge→List Nat
 |[]=>[]
 |e::l=>bif Region.binds .any e then e.on::(acc[e.on]?.getD []++qN acc l) else qN acc l
def iV:List Oper→List (List Nat)→List (List Nat)
 |[],acc=>acc
 |o::l,acc=>iV l (acc++[qN acc o.after.toList])
def C4 (i:Nat):List Edge→Bool
 |[]=>true
 |e::l=>(!Region.binds .any e||Nat.blt e.on i)&&C4 i l
def oi:List Oper→Nat→Bool
 |[],_=>true
 |o::l,i=>C4 i o.after.toList&&oi l (i+1)
def ua (fs:List jT) (bs:List (List Nat)) (i:Nat) (f:jT):Nat→Bool
 |0=>true
 |j+1=>(match fs[j]?,bs[i]? with|some g,some b=>bD j b||gx f g|_,_=>false)&&ua fs bs i f j
def qO (fs:List jT) (bs:List (List Nat)):List jT→Nat→Bool
 |[],_=>true
 |f::l,i=>ua fs bs i f i&&qO fs bs l (i+1)
def yh (ann:bO) (aG:List Oper):Bool:=
 let fs:=aG.map (cX E ann aG)
 oi aG 0&&qO fs (iV aG []) fs 0
inductive rV where
 |nil|aT
 |one (i:Nat) (r:rV)
 |Nh (a b:rV)
 deriving Inhabited
def jx (n:Nat):List Nat→List Nat
 |[]=>[]
 |x::l=>bif Nat.beq n x then jx n l else x::jx n l
def ns (bs:List (List Nat)) (i:Nat):List Nat:=bs[i]?.getD []
def gy (bs:List (List Nat)) (rem:List Nat) (i:Nat):Bool:= !jr (ns bs i) rem
def dV (fs:List jT) (bs:List (List Nat)) (i:Nat) (f:jT):List Nat→Bool
 |[]=>true
 |j::l=>(Nat.beq i j||bD i (ns bs j)||(match fs[j]? with|some g=>gx g f&&gx f g|none=>false))&&dV fs bs i f l
def oj (fs:List jT) (bs:List (List Nat)) (rem:List Nat):List Nat→Option Nat
 |[]=>none
 |i::l=>match gy bs rem i,fs[i]? with
  |true,some f=>bif dV fs bs i f rem then some i else oj fs bs rem l
  |_,_=>oj fs bs rem l
def QW (f:Nat→rV):List Nat→rV
 |[]=>.aT
 |[i]=>.one i (f i)
 |i::l=>.Nh (.one i (f i)) (QW f l)
def qP (bs:List (List Nat)) (rem:List Nat):List Nat→List Nat
 |[]=>[]
 |i::l=>bif gy bs rem i then i::qP bs rem l else qP bs rem l
def Bx (fs:List jT) (bs:List (List Nat)):Nat→List Nat→rV
 |_,[]=>.nil
 |0,_=>.aT
 |n+1,rem=>match oj fs bs rem rem with
  |some i=>.one i (Bx fs bs n (jx i rem))
  |none=>QW (fun i=>Bx fs bs n (jx i rem)) (qP bs rem rem)
def im (step:Nat→St→(St→Prop)→Prop):rV→St→(St→Prop)→Prop
 | .nil,S,K=>K S
 | .aT,_,_=>False
 | .one i r,S,K=>step i S fun S'=>im step r S' K
 | .Nh a b,S,K=>im step a S K∧im step b S K
def wJ (kp:Option jv) (A:(Ex→St→Prop)→Prop) (K:Ex→St→Prop):Prop:=
 match kp with
 |none=>A K
 |some kp=>ct (fun Q=>A fun e S=>match e with| .normal=>lz (pE kp.cd) (pE kp.hI) S Q|e=>K e S) fun S=>Bw kp.cd kp.hI S (K .normal)
def over {α:Type} (l:List (Nat×α)) (dr:List Nat) (g:Nat→Option α):Nat→Option α:=
 fun t=>match ab l t with|some x=>some x|none=>bif bD t dr then none else g t
def E5 (kp:jv) (S0:St) (A:(Ex→St→Prop)→Prop) (K:Ex→St→Prop):Prop:=
 ct (fun Q=>A fun e S=>match e with| .normal=>lz (pE kp.cd) (pE kp.hI) S Q|e=>K e S)
  fun S=>ah ((lA S kp.cd).1&&(lB S kp.hI).1) (K .normal ⟨over (lA S kp.cd).2 kp.wT S0.tm,over (lB S kp.hI).2 kp.wL S0.lo,S.hp⟩)
def jy:List Nat→List Nat→Bool
 |[],_=>true
 |x::l,m=>bD x m&&jy l m
def K4 (ann:bO) (wT wL:List Nat) (o:Oper):Bool:=
 jy o.dst.toList wT&&jy (C3 ann o) wT&&(match Hu E ann o with
  | .iS s=>bD s wL
  | .tX=>jy o.dst.toList wL
  | .tY=>false
  |_=>true)
def jz (ann:bO) (wT wL:List Nat):List Oper→Bool
 |[]=>true
 |o::l=>K4 E ann wT wL o&&jz ann wT wL l
def TY (wT wL:List Nat) (kp:jv):Bool:=jy kp.wT wT&&jy kp.wL wL&&jy (pE kp.cd) wT&&jy (pE kp.hI) wL
def Ni (wT wL:List Nat):Option jv→Bool
 |none=>true
 |some kp=>kp.dl&&TY wT wL kp
def C5 (ann:bO) (wT wL:List Nat):Code→Nat→Bool
 | .skip,_=>true
 | .seq a b,n=>C5 ann wT wL a n&&C5 ann wT wL b (n+ea a)
 | .cond _ x y,n=>Ni wT wL (sE ann n)&&(C5 ann wT wL x (n+1)&&C5 ann wT wL y (n+1+ea x))
 | .block id b,n=>Ni wT wL (ab ann.aE id)&&C5 ann wT wL b n
 | .scope b,n=>C5 ann wT wL b n
 | .label _,_=>true
 | .exit _,_=>true
 | .ret,_=>true
 | .region _ aG _,n=>jz E ann wT wL aG.toList&&(match sE ann n with
   |none=>true
   |some kp=>match kp.mg with
    |true=>jy kp.cV wT&&jy kp.vA wL&&jy kp.wT wT&&jy kp.wL wL
    |false=>kp.dl&&TY wT wL kp)
 |_,_=>false
def my (ok:jv→Bool) (kp:Option jv) (S0:St) (A:(Ex→St→Prop)→Prop) (K:Ex→St→Prop):Prop:=
 match kp with
 |none=>A K
 |some kp=>match kp.dl with
  |true=>ah (ok kp) (E5 kp S0 A K)
  |false=>wJ (some kp) A K
def fS (R:mw) (ann:bO) (N:Nat) (aG:List Oper) (i:Nat) (S:St) (K:St→Prop):Prop:=
 match aG[i]? with
 |some o=>tZ E R ann N aG o S K
 |none=>False
def gQ (R:mw) (ann:bO) (N:Nat) (aG:List Oper) (draw:Bool) (S:St) (K:St→Prop):Prop:=
 match !draw||yh E ann aG with
 |true=>sD E R ann N aG aG S K
 |false=>ah (oi aG 0) (im (fS E R ann N aG) (Bx (aG.map (cX E ann aG)) (iV aG []) aG.length (List.range aG.length)) S K)
def gq (R:mw) (f:FuncId) (ann:bO) (N:Nat):Code→Nat→St→(Ex→St→Prop)→Prop
 | .skip,_,S,K=>K .normal S
 | .seq a b,n,S,K=>gq R f ann N a n S fun e S'=>match e with| .normal=>gq R f ann N b (n+ea a) S' K|e=>K e S'
 | .cond c x y,n,S,K=>
   match cS S.tm c with
   |some (.v (.bool t))=>my (fun kp=>C5 E ann kp.wT kp.wL x (n+1)&&C5 E ann kp.wT kp.wL y (n+1+ea x)) (sE ann n) S
    (fun K=>br t (gq R f ann N x (n+1) S K) (gq R f ann N y (n+1+ea x) S K)) K
   |_=>False
 | .block id b,n,S,K=>my (fun kp=>C5 E ann kp.wT kp.wL b n) (ab ann.aE id) S (fun K=>gq R f ann N b n S fun e S'=>match e with
   | .exit j=>br (Nat.beq j id) (K .normal S') (K (.exit j) S')
   |e=>K e S') K
 | .exit id,_,S,K=>K (.exit id) S
 | .ret,_,S,K=>K .ret S
 | .region _ aG draw,n,S,K=>
   match sE ann n with
   |none=>gQ E R ann N aG.toList draw S (K .normal)
   |some kp=>match kp.mg with
    |true=>ah (!draw||yh E ann aG.toList) (kz E R ann N kp.cV kp.vA kp.wT kp.wL aG.toList aG.toList S (K .normal))
    |false=>my (fun kp=>jz E ann kp.wT kp.wL aG.toList) (some kp) S (fun K=>gQ E R ann N aG.toList draw S (K .normal)) K
 | .loop c,n,S,K=>
   match sE ann n with
   |some kp=>lz kp.cV kp.vA S fun S0=>R.loop c f n S0 (fun S'=>Bw kp.mj kp.TW S' (K .ret)) (vI kp K kp.cC)
   |none=>False
 | .scope b,n,S,K=>gq R f ann N b n S K
 | .label _,_,S,K=>K .normal S
 |_,_,_,_=>False
def mz (S:St):ResultVar→(V→Prop)→Prop
 | .tmp t,K=>match S.tm t with|some (.v x)=>K x|_=>False
 | .cell a t,K=>match S.tm a with
   |some (.lp s off)=>match S.lo s with
    |some (.cells _ cs)=>match mR E t cs off with|some (r,v)=>ah r (K v)|none=>False
    |_=>False
   |_=>match dD E (.load t (.tmp a)) (cS S.tm) S.hp with
    |some d=>d.run fun x=>match x with| .v v=>K v|_=>False
    |none=>False
def nt (S:St):List ResultVar→(List V→Prop)→Prop
 |[],K=>K []
 |r::l,K=>mz E S r fun v=>nt S l fun vs=>K (v::vs)
def K5 (fn:Func) (K:V→ag→Prop) (S:St):Prop:=
 nt E S fn.results.toList fun vs=>match vs with|[v]=>K v S.hp|vs=>K (.tuple vs) S.hp
def E6:List V→Nat→Nat→Option T
 |[],_,_=>none
 |v::l,j,t=>bif Nat.beq t j then some (.v v) else E6 l (j+1) t
def F (R:mw):mw where
 call f args H K:=
  match E.fn f with
  |some fn=>match fn.body with
   |some c=>ah (Nat.ble args.length fn.ntmps)
    (gq E R f (E.ann f) fn.ntmps c 0 ⟨E6 args 0,fun _=>none,H⟩ fun e S=>match e with| .exit _=>False|_=>K5 E fn K S)
   |none=>False
  |none=>False
 loop c f n S Kr Ke:=
  match E.fn f,sE (E.ann f) n with
  |some fn,some kp=>gq E R f (E.ann f) fn.ntmps c (n+1) S fun e S'=>match e with
   | .normal=>lz kp.cV kp.vA S' fun S0=>R.loop c f n S0 Kr Ke
   | .exit id=>lz (pE kp.cd) (pE kp.hI) S' (Ke id)
   | .ret=>lz (pE kp.mj) (pE kp.TW) S' Kr
  |_,_=>False
structure mw.le (A B:mw):Prop where
 call:∀f args H K K',(∀v H',K v H'→K' v H')→A.call f args H K→B.call f args H K'
 loop:∀c f n S Kr Qh Ke Qi,(∀S',Kr S'→Qh S')→(∀id S',Ke id S'→Qi id S')→A.loop c f n S Kr Ke→B.loop c f n S Qh Qi
def rW:mw where
 call f args H K:=∀R:mw,R.le R→(F E R).le R→R.call f args H K
 loop c f n S Kr Ke:=∀R:mw,R.le R→(F E R).le R→R.loop c f n S Kr Ke
end
theorem fg {c:Bool} {X X' Y Y':Prop} (hx:X→X') (hy:Y→Y') (h:br c X Y):br c X' Y':=by
 cases c
 ·exact hy h
 ·exact hx h
theorem bU {c:Bool} {X X':Prop} (hx:X→X') (h:ah c X):ah c X':=by
 cases c
 ·exact h
 ·exact hx h
theorem aQ {c:Bool} {X:Prop} (h:ah c X):c=true∧X:=by
 cases c
 ·exact h.elim
 ·exact⟨rfl,h⟩
theorem gz {c:Bool} {X Y:Prop} (h:br c X Y):(c=true∧X)∨(c=false∧Y):=by
 cases c
 ·exact .inr ⟨rfl,h⟩
 ·exact .inl ⟨rfl,h⟩
theorem fR.cD {α:Type} {d:fR α} {K K':α→Prop} (h:∀x,K x→K' x) (hd:d.run K):d.run K':=
 bU (fg (h _) (h _)) hd
theorem fR.fh {α:Type} {d:fR α} {K:α→Prop} (h:d.run K):d.rq=true∧K (if d.c then d.x else d.y):=by
 obtain⟨h1,h2⟩:=aQ h;refine⟨h1, ?_⟩;rcases gz h2 with⟨hc,h⟩|⟨hc,h⟩<;>simpa [hc] using h
section
variable {E:ku} {A B:mw} {ann:bO} {N:Nat} {f:FuncId}
theorem eU {dst:Option Tmp} {x:T} {S:St} {K K':St→Prop} (h:∀S,K S→K' S) (hp:jw ann N dst x S K):jw ann N dst x S K':=by
 cases dst with
 |none=>exact h _ hp
 |some d=>
  refine bU ?_ hp
  cases x with
  |v y=>exact h _
  |undef=>exact h _
  |lp s off=>
   simp only[]
   cases ab ann.aV d with
   |none=>exact id
   |some s'=>cases hs:Nat.beq s s'<;>simp [hs];exact h _
theorem By {lo hi:Nat} {K K':Nat→Prop} (h:∀c,K c→K' c) (ha:QU lo hi K):QU lo hi K':=fun c h1 h2=>h _ (ha c h1 h2)
theorem AR {ts:List TypeId} {args:List V} {H:ag} {K K':Oq→Nat→Nat→ag→Prop} (h:∀q n c H',K q n c H'→K' q n c H') (ho:aP E ts args H K):aP E ts args H K':=by
 unfold aP at ho⊢;split at ho
 ·split at ho
  ·split at ho
   ·exact bU (fg (bU (h _ _ _ _)) (bU (By fun c=>h _ _ _ _))) ho
   ·exact ho
  ·exact ho
 ·exact ho
theorem ub {g:FuncId} {args:List V} {H:ag} {K K':V→ag→Prop} (h:∀v H',K v H'→K' v H') (ho:iU E g args H K):iU E g args H K':=by
 unfold iU at ho⊢;split at ho
 ·rename_i x _;exact x.mono _ _ _ _ h ho
 ·exact ho
theorem Hw (hR:A.le B) {fv:V} {args:List V} {H:ag} {K K':V→ag→Prop} (h:∀v H',K v H'→K' v H') (ho:lu E A fv args H K):lu E B fv args H K':=by
 unfold lu at ho⊢;split at ho
 ·split at ho
  ·exact ub h ho
  ·exact hR.call _ _ _ _ _ h ho
 ·split at ho
  ·exact ub h ho
  ·exact hR.call _ _ _ _ _ h ho
 ·exact ho
theorem C6 {H:ag} {id:Nat} {K1 K1':Prop} {K2 K2':ag→Prop} (h1:K1→K1') (h2:∀H',K2 H'→K2' H') (ho:mapNext H id K1 K2):mapNext H id K1' K2':=by
 unfold mapNext at ho⊢;split at ho
 ·exact h1 ho
 ·split at ho
  ·rename_i es c _;revert ho;cases oa _ es&&Nat.ble _ _
   ·exact fun ho=>ho
   ·simp only[cond_true];split
    ·exact h1
    ·exact fun ho b hb=>h2 _ (ho b hb)
  ·exact ho
 ·exact ho
theorem C7 {rt:TypeId} {K K':T→ag→Prop} (h:∀x H',K x H'→K' x H') (v:V) (H':ag) (hv:match tU E rt v with|some (b,v')=>ah b (K (.v v') H')|none=>False):match tU E rt v with|some (b,v')=>ah b (K' (.v v') H')|none=>False:=by
 revert hv;split
 ·exact bU (h _ _)
 ·exact id
theorem jN (hR:A.le B) {o:Op} {rt:TypeId} {ev:Ev} {H:ag} {K K':T→ag→Prop} (h:∀x H',K x H'→K' x H') (ho:bL E A o rt ev H K):bL E B o rt ev H K':=by
 have simple:∀o':Op,(match bY E o' ev H with|some (r,x,H')=>ah r (K x H')|none=>False)→
  (match bY E o' ev H with|some (r,x,H')=>ah r (K' x H')|none=>False):=by
  intro o' ho;revert ho;split
  ·exact bU (h _ _)
  ·exact id
 unfold bL at ho⊢;split at ho
 ·split at ho
  ·split at ho
   ·exact h _ _ ho
   ·exact ho
  ·exact ho
 ·split at ho
  ·split at ho
   ·exact bU (h _ _) ho
   ·exact ho
  ·exact ho
 ·split at ho
  ·split at ho
   ·exact bU (h _ _) ho
   ·exact ho
  ·exact ho
 ·split at ho
  ·split at ho
   ·split at ho
    ·exact bU (h _ _) ho
    ·exact ho
   ·exact ho
  ·exact ho
 ·split at ho
  ·split at ho
   ·exact Hw hR (C7 h) ho
   ·exact ho
  ·exact AR (fun _ _ _ _=>h _ _) ho
  ·exact simple _ ho
 ·split at ho
  ·split at ho
   ·split at ho
    ·exact bU (By fun c=>h _ _) ho
    ·exact ho
   ·exact ho
  ·exact simple _ ho
 ·split at ho
  ·exact C6 (h _ _) (fun _=>h _ _) ho
  ·exact ho
 ·exact simple _ ho
theorem yi (hR:A.le B) {o:Oper} {S:St} {K K':St→Prop} (h:∀S,K S→K' S) (ho:jq E A ann N o S K):jq E B ann N o S K':=by
 unfold jq at ho⊢;split at ho
 ·split at ho
  ·exact fR.cD (fun x=>eU h) ho
  ·exact ho
 ·split at ho
  ·exact fR.cD (fun x=>eU h) ho
  ·exact ho
 ·split at ho
  ·exact fR.cD (fun x=>eU h) ho
  ·exact ho
 ·split at ho
  ·exact bU (eU h) ho
  ·exact ho
 ·split at ho
  ·exact fR.cD (fun x=>eU h) ho
  ·exact ho
 ·exact jN hR (fun x H'=>eU h) ho
 ·unfold Jc at ho⊢;split at ho
  ·split at ho
   ·exact eU h ho
   ·exact ho
  ·exact ho
theorem eI (hR:A.le B) {aG:List Oper} {o:Oper} {S:St} {K K':St→Prop} (h:∀S,K S→K' S) (ho:ff E A ann N aG o S K):ff E B ann N aG o S K':=by
 unfold ff at ho⊢;split at ho
 ·exact yi hR h ho
 ·split at ho
  ·exact fg (yi hR h) (eU h) ho
  ·exact eU h ho
  ·exact ho
theorem pF (hR:A.le B) {aG:List Oper}:∀(l:List Oper) {S:St} {K K':St→Prop},(∀S,K S→K' S)→ly E A ann N aG l S K→ly E B ann N aG l S K'
 |[],_,_,_,h,ho=>h _ ho
 |_::l,_,_,_,h,ho=>eI hR (fun _=>pF hR l h) ho
theorem Bz {S:St} {s:Nat} {x:T} (h:S.tm s=some x):S.setT s x=S:=by
 have:(fun t=>bif Nat.beq t s then some x else S.tm t)=S.tm:=by
  funext t;cases hb:Nat.beq t s
  ·rfl
  ·rw[Nat.eq_of_beq_eq_true hb,h];rfl
 cases S;simp only[St.setT,St.mk.injEq,and_true];exact this
theorem hT {aG:List Oper} {o:Oper} {S:St} {K:St→Prop}:tZ E A ann N aG o S K=ff E A ann N aG o S K:=by
 unfold tZ ff
 cases o.guard with
 |none=>rfl
 |some p=>
  obtain⟨j,want⟩:=p;simp only[CY,fZ]
  cases aG[j]? with
  |none=>rfl
  |some q=>
   simp only[]
   cases q.dst with
   |none=>rfl
   |some s=>
    simp only[]
    cases ht:S.tm s with
    |none=>rfl
    |some t=>cases t with
     |undef=>rfl
     |lp s' off=>rfl
     |v x=>cases x with
      |bool b=>
       simp only[QS];by_cases hb:b=want
       ·subst hb;simp only[beq_self_eq_true,br,Bz ht]
       ·have hw:(b == want)=false:=by simpa using hb
        have hn:(!want)=b:=by cases b<;>cases want<;>simp_all
        simp only[hw,br,hn,Bz ht]
      |_=>rfl
theorem kX {aG:List Oper}:∀(l:List Oper) {S:St} {K:St→Prop},sD E A ann N aG l S K=ly E A ann N aG l S K
 |[],_,_=>rfl
 |o::l,S,K=>by
  simp only[sD,ly,hT];congr 1;funext S';exact kX l
theorem iq {ts ls:List Nat} {S:St} {K K':St→Prop} (h:∀S,K S→K' S) (hn:lz ts ls S K):lz ts ls S K':=by
 unfold lz at hn⊢;split at hn
 ·exact h _ hn
 ·exact hn
theorem sF {ts:List (Nat×KT)} {ls:List (Nat×TypeId×List cj)} {S:St} {K K':St→Prop} (h:∀S,K S→K' S) (hn:Bw ts ls S K):Bw ts ls S K':=
 bU (h _) hn
theorem wK {kp:jv} {K K':Ex→St→Prop} (h:∀e S,K e S→K' e S):∀(l:List Nat) (id:Nat) (S:St),vI kp K l id S→vI kp K' l id S
 |[],_,_,hn=>hn
 |_::l,id,S,hn=>fg (sF (h _)) (wK h l id S) hn
theorem Hx {kp:Option jv} {A A':(Ex→St→Prop)→Prop} {K K':Ex→St→Prop} (h:∀e S,K e S→K' e S) (hA:∀K K',(∀e S,K e S→K' e S)→A K→A' K') (hj:wJ kp A K):wJ kp A' K':=by
 unfold wJ at hj⊢
 cases kp with
 |none=>exact hA _ _ h hj
 |some kp=>
  refine hA _ _ ?_ hj;intro e S
  cases e with
  |normal=>exact iq fun S=>sF (h _)
  |exit id=>exact h _ _
  |ret=>exact h _ _
theorem E7 {ts ls dT dL:List Nat} {tr:fN MS} {S:St} {K K':St→Prop} (h:∀S,K S→K' S) (hm:pD ts ls dT dL tr S K):pD ts ls dT dL tr S K':=by
 unfold pD at hm⊢;split at hm
 ·exact bU (h _) hm
 ·exact hm
theorem pG (hR:A.le B) {aG:List Oper} {ts ls dT dL:List Nat} {K K':St→Prop} (h:∀S,K S→K' S):∀(l:List Oper) {S:St},kz E A ann N ts ls dT dL aG l S K→kz E B ann N ts ls dT dL aG l S K'
 |[],S,hx=>h _ hx
 |o::l,S,hx=>by
  unfold kz at hx⊢;split at hx
  ·rw[hT] at hx⊢;exact eI hR (fun _=>pG hR h l) hx
  ·exact E7 h hx
theorem Hy {kp:jv} {S0:St} {A A':(Ex→St→Prop)→Prop} {K K':Ex→St→Prop} (h:∀e S,K e S→K' e S) (hA:∀K K',(∀e S,K e S→K' e S)→A K→A' K') (hj:E5 kp S0 A K):E5 kp S0 A' K':=by
 unfold E5 at hj⊢;refine hA _ _ ?_ hj;intro e S
 cases e with
 |normal=>exact iq fun S=>bU (h _ _)
 |exit id=>exact h _ _
 |ret=>exact h _ _
theorem sG {ok:jv→Bool} {kp:Option jv} {S0:St} {A A':(Ex→St→Prop)→Prop} {K K':Ex→St→Prop} (h:∀e S,K e S→K' e S) (hA:∀K K',(∀e S,K e S→K' e S)→A K→A' K') (hj:my ok kp S0 A K):my ok kp S0 A' K':=by
 unfold my at hj⊢
 cases kp with
 |none=>exact hA _ _ h hj
 |some kp=>
  simp only[] at hj⊢;split at hj
  ·exact bU (Hy h hA) hj
  ·exact Hx h hA hj
theorem jU {st st':Nat→St→(St→Prop)→Prop} (hs:∀i S K K',(∀S,K S→K' S)→st i S K→st' i S K'):∀(t:rV) {S:St} {K K':St→Prop},(∀S,K S→K' S)→im st t S K→im st' t S K'
 | .nil,S,K,K',h,hx=>h _ hx
 | .aT,S,K,K',h,hx=>hx
 | .one i r,S,K,K',h,hx=>hs _ _ _ _ (fun S' hk=>jU hs r h hk) hx
 | .Nh a b,S,K,K',h,hx=>⟨jU hs a h hx.1,jU hs b h hx.2⟩
theorem om (hR:A.le B) {aG:List Oper} {draw:Bool} {S:St} {K K':St→Prop} (h:∀S,K S→K' S) (hx:gQ E A ann N aG draw S K):gQ E B ann N aG draw S K':=by
 unfold gQ at hx⊢;revert hx;split
 ·simp only[kX];exact pF hR _ h
 ·refine bU (jU (fun i S K K' h hx=> ?_) _ h);unfold fS at hx⊢;split at hx
  ·rw[hT] at hx⊢;exact eI hR h hx
  ·exact hx
theorem gR (hR:A.le B):∀(c:Code) (n:Nat) (S:St) (K K':Ex→St→Prop),(∀e S,K e S→K' e S)→gq E A f ann N c n S K→gq E B f ann N c n S K':=by
 intro c
 induction c with
 |skip=>intro n S K K' h hx;exact h _ _ hx
 |seq a b iha ihb=>
  intro n S K K' h hx;refine iha _ _ _ _ ?_ hx;intro e S'
  cases e with
  |normal=>exact ihb _ _ _ _ h
  |exit id=>exact h _ _
  |ret=>exact h _ _
 |cond c x y ihx ihy=>
  intro n S K K' h hx;simp only[gq] at hx⊢;split at hx
  ·exact sG h (fun K K' h=>fg (ihx _ _ _ _ h) (ihy _ _ _ _ h)) hx
  ·exact hx
 |block id b ih=>
  intro n S K K' h hx;simp only[gq] at hx⊢;refine sG h ?_ hx;intro K K' h hx;refine ih _ _ _ _ ?_ hx;intro e S'
  cases e with
  |normal=>exact h _ _
  |exit j=>exact fg (h _ _) (h _ _)
  |ret=>exact h _ _
 |loop c ih=>
  intro n S K K' h hx;simp only[gq] at hx⊢;split at hx
  ·exact iq (fun S0=>hR.loop _ _ _ _ _ _ _ _ (fun S'=>sF (h _)) (fun id S'=>wK h _ id S')) hx
  ·exact hx
 |exit id=>intro n S K K' h hx;exact h _ _ hx
 |ret=>intro n S K K' h hx;exact h _ _ hx
 |region id aG draw=>
  intro n S K K' h hx;simp only[gq] at hx⊢;revert hx;split
  ·exact om hR (h _)
  ·split
   ·exact bU (pG hR (h _) _)
   ·exact sG h (fun K K' h=>om hR (h _))
 |rangeFunc=>intro n S K K' h hx;exact hx
 |scope b ih=>intro n S K K' h hx;simp only[gq] at hx⊢;exact ih _ _ _ _ h hx
 |label=>intro n S K K' h hx;simp only[gq] at hx⊢;exact h _ _ hx
 |goto=>intro n S K K' h hx;exact hx
 |refuse=>intro n S K K' h hx;exact hx
theorem C8 {S:St} {r:ResultVar} {K K':V→Prop} (h:∀v,K v→K' v) (hx:mz E S r K):mz E S r K':=by
 unfold mz at hx⊢;split at hx
 ·split at hx
  ·exact h _ hx
  ·exact hx
 ·split at hx
  ·split at hx
   ·split at hx
    ·exact bU (h _) hx
    ·exact hx
   ·exact hx
  ·split at hx
   ·refine fR.cD ?_ hx;intro x
    cases x with
    |v y=>exact h _
    |_=>exact id
   ·exact hx
theorem rX {S:St}:∀(l:List ResultVar) {K K':List V→Prop},(∀v,K v→K' v)→nt E S l K→nt E S l K'
 |[],_,_,h,hx=>h _ hx
 |_::l,_,_,h,hx=>C8 (fun _=>rX l fun _=>h _) hx
theorem BA {fn:Func} {K K':V→ag→Prop} (h:∀v H,K v H→K' v H) {S:St} (hx:K5 E fn K S):K5 E fn K' S:=by
 refine rX _ ?_ hx;intro vs;split
 ·exact h _ _
 ·exact h _ _
theorem vJ (hR:A.le B):(F E A).le (F E B) where
 call f args H K K' h hx:=by
  simp only[F] at hx⊢;split at hx
  ·split at hx
   ·refine bU (gR hR _ _ _ _ _ ?_) hx;intro e S
    cases e with
    |normal=>exact BA h
    |exit id=>exact fun h=>h
    |ret=>exact BA h
   ·exact hx
  ·exact hx
 loop c f n S Kr Qh Ke Qi hr he hx:=by
  simp only[F] at hx⊢;split at hx
  ·refine gR hR _ _ _ _ _ ?_ hx;intro e S
   cases e with
   |normal=>exact iq fun S0=>hR.loop _ _ _ _ _ _ _ _ hr he
   |exit id=>exact iq (he id)
   |ret=>exact iq hr
  ·exact hx
theorem nu:(rW E).le (rW E):=
 ⟨fun f args H _ _ hk hx R hm hp=>hm.call f args H _ _ hk (hx R hm hp),
  fun c f n S _ _ _ _ hr he hx R hm hp=>hm.loop c f n S _ _ _ _ hr he (hx R hm hp)⟩
theorem yj {R:mw} (hm:R.le R) (hp:(F E R).le R):(rW E).le R:=
 ⟨fun f args H _ _ hk hx=>hm.call f args H _ _ hk (hx R hm hp),
  fun c f n S _ _ _ _ hr he hx=>hm.loop c f n S _ _ _ _ hr he (hx R hm hp)⟩
theorem pH:(F E (rW E)).le (rW E):=
 ⟨fun f args H _ _ hk hx R hm hp=>hp.call f args H _ _ hk ((vJ (yj hm hp)).call f args H _ _ (fun _ _=>id) hx),
  fun c f n S _ _ _ _ hr he hx R hm hp=>hp.loop c f n S _ _ _ _ hr he ((vJ (yj hm hp)).loop c f n S _ _ _ _ (fun _=>id) (fun _ _=>id) hx)⟩
theorem E8:(rW E).le (F E (rW E)):=yj (vJ nu) (vJ pH)
theorem Nj {args:List V} {H:ag} {K:V→ag→Prop}:(rW E).call f args H K=(F E (rW E)).call f args H K:=
 propext ⟨E8.call _ _ _ _ _ fun _ _=>id,pH.call _ _ _ _ _ fun _ _=>id⟩
theorem Nk {c:Code} {n:Nat} {S:St} {Kr:St→Prop} {Ke:Nat→St→Prop}:(rW E).loop c f n S Kr Ke=(F E (rW E)).loop c f n S Kr Ke:=
 propext ⟨E8.loop _ _ _ _ _ _ _ _ (fun _=>id) fun _ _=>id,pH.loop _ _ _ _ _ _ _ _ (fun _=>id) fun _ _=>id⟩
structure ir (R:mw):Prop where
 call:∀f args H K,R.call f args H K→∃v H',K v H'
 loop:∀c f n S Kr Ke,R.loop c f n S Kr Ke→(∃S',Kr S')∨∃id S',Ke id S'
theorem fj {dst:Option Tmp} {x:T} {S:St} {K:St→Prop} (hp:jw ann N dst x S K):∃S',K S':=by
 cases dst with
 |none=>exact⟨_,hp⟩
 |some d=>
  have h:=(aQ hp).2
  cases x with
  |v y=>exact⟨_,h⟩
  |undef=>exact⟨_,h⟩
  |lp s off=>
   simp only[] at h
   cases hl:ab ann.aV d with
   |none=>rw[hl] at h;exact h.elim
   |some s'=>
    rw[hl] at h;cases hs:Nat.beq s s'<;>simp [hs] at h
    exact⟨_,h⟩
theorem xl {ts:List TypeId} {args:List V} {H:ag} {K:Oq→Nat→Nat→ag→Prop} (ho:aP E ts args H K):∃q n c H',K q n c H':=by
 unfold aP at ho;split at ho
 ·rename_i t u p l cp x;split at ho
  ·rename_i el n cM z _
   split at ho
   ·rename_i r m ok cs _;rcases gz (aQ ho).2 with⟨_,h⟩|⟨_,h⟩
    ·exact⟨_,_,_,_,(aQ h).2⟩
    ·obtain⟨hr,h⟩:=aQ h;simp only[Bool.and_eq_true] at hr;have hb:=Nat.le_of_ble_eq_true hr.2.2;refine⟨_,_,_,_,h _ (Nat.le_refl _) ?_⟩;have:l+m≤(l+m)*(cM+1):=Nat.le_mul_of_pos_right _ (by omega);omega
   ·exact ho.elim
  ·exact ho.elim
 ·exact ho.elim
theorem C9 (hR:ir A) {fv:V} {args:List V} {H:ag} {K:V→ag→Prop} (ho:lu E A fv args H K):∃v H',K v H':=by
 unfold lu at ho;split at ho
 ·split at ho
  ·unfold iU at ho;split at ho
   ·rename_i x _;exact x.vF _ _ _ ho
   ·exact ho.elim
  ·exact hR.call _ _ _ _ ho
 ·split at ho
  ·unfold iU at ho;split at ho
   ·rename_i x _;exact x.vF _ _ _ ho
   ·exact ho.elim
  ·exact hR.call _ _ _ _ ho
 ·exact ho.elim
theorem yk {H:ag} {id:Nat} {K1:Prop} {K2:ag→Prop} (ho:mapNext H id K1 K2):K1∨∃H',K2 H':=by
 unfold mapNext at ho;split at ho
 ·exact .inl ho
 ·split at ho
  ·rename_i es c _;revert ho;cases oa _ es&&Nat.ble _ _
   ·exact fun ho=>ho.elim
   ·simp only[cond_true];split
    ·exact .inl
    ·exact fun ho=>.inr ⟨_,ho _ (List.mem_cons_self)⟩
  ·exact ho.elim
 ·exact ho.elim
theorem yl {rt:TypeId} {K:T→ag→Prop} (v:V) (H':ag) (hv:match tU E rt v with|some (b,v')=>ah b (K (.v v') H')|none=>False):∃x H',K x H':=by
 revert hv;split
 ·exact fun hv=>⟨_,_,(aQ hv).2⟩
 ·exact fun hv=>hv.elim
theorem oZ (hR:ir A) {o:Op} {rt:TypeId} {ev:Ev} {H:ag} {K:T→ag→Prop} (ho:bL E A o rt ev H K):∃x H',K x H':=by
 have simple:∀o':Op,(match bY E o' ev H with|some (r,x,H')=>ah r (K x H')|none=>False)→∃x H',K x H':=by
  intro o' ho;revert ho;split
  ·exact fun ho=>⟨_,_,(aQ ho).2⟩
  ·exact fun ho=>ho.elim
 unfold bL at ho;split at ho
 ·split at ho
  ·split at ho
   ·exact⟨_,_,ho⟩
   ·exact ho.elim
  ·exact ho.elim
 ·split at ho
  ·split at ho
   ·exact⟨_,_,(aQ ho).2⟩
   ·exact ho.elim
  ·exact ho.elim
 ·split at ho
  ·split at ho
   ·exact⟨_,_,(aQ ho).2⟩
   ·exact ho.elim
  ·exact ho.elim
 ·split at ho
  ·split at ho
   ·split at ho
    ·exact⟨_,_,(aQ ho).2⟩
    ·exact ho.elim
   ·exact ho.elim
  ·exact ho.elim
 ·split at ho
  ·split at ho
   ·obtain⟨v,H',hv⟩:=C9 hR ho;exact yl v H' hv
   ·exact ho.elim
  ·obtain⟨q,n,c,H',hk⟩:=xl ho;exact⟨_,_,hk⟩
  ·exact simple _ ho
 ·split at ho
  ·split at ho
   ·split at ho
    ·obtain⟨hr,h⟩:=aQ ho;have hb:=Nat.le_of_ble_eq_true hr;exact⟨_,_,h _ (Nat.le_refl _) (by omega)⟩
    ·exact ho.elim
   ·exact ho.elim
  ·exact simple _ ho
 ·split at ho
  ·rcases yk ho with h|⟨H',h⟩
   ·exact⟨_,_,h⟩
   ·exact⟨_,_,h⟩
  ·exact ho.elim
 ·exact simple _ ho
theorem ud (hR:ir A) {o:Oper} {S:St} {K:St→Prop} (ho:jq E A ann N o S K):∃S',K S':=by
 unfold jq at ho;split at ho
 ·split at ho
  ·exact fj (fR.fh ho).2
  ·exact ho.elim
 ·split at ho
  ·exact fj (fR.fh ho).2
  ·exact ho.elim
 ·split at ho
  ·exact fj (fR.fh ho).2
  ·exact ho.elim
 ·split at ho
  ·exact fj (aQ ho).2
  ·exact ho.elim
 ·split at ho
  ·exact fj (fR.fh ho).2
  ·exact ho.elim
 ·obtain⟨x,H',h⟩:=oZ hR ho;exact fj h
 ·unfold Jc at ho;split at ho
  ·split at ho
   ·exact fj ho
   ·exact ho.elim
  ·exact ho.elim
theorem oo (hR:ir A) {aG:List Oper} {o:Oper} {S:St} {K:St→Prop} (ho:ff E A ann N aG o S K):∃S',K S':=by
 unfold ff at ho;split at ho
 ·exact ud hR ho
 ·split at ho
  ·rcases gz ho with⟨_,h⟩|⟨_,h⟩
   ·exact ud hR h
   ·exact fj h
  ·exact fj ho
  ·exact ho.elim
theorem rY (hR:ir A) {aG:List Oper}:∀(l:List Oper) {S:St} {K:St→Prop},ly E A ann N aG l S K→∃S',K S'
 |[],_,_,ho=>⟨_,ho⟩
 |_::l,_,_,ho=>let ⟨_,h⟩:=oo hR ho;rY hR l h
theorem gS {ts ls:List Nat} {S:St} {K:St→Prop} (h:lz ts ls S K):∃S',K S':=by
 unfold lz at h;split at h
 ·exact⟨_,h⟩
 ·exact h.elim
theorem rZ {kp:jv} {K:Ex→St→Prop}:∀(l:List Nat) (id:Nat) (S:St),vI kp K l id S→∃e S',K e S'
 |[],_,_,h=>h.elim
 |_::l,id,S,h=>by
  rcases gz h with⟨_,h⟩|⟨_,h⟩
  ·exact⟨_,_,(aQ h).2⟩
  ·exact rZ l id S h
theorem Da {kp:Option jv} {Q:(Ex→St→Prop)→Prop} {K:Ex→St→Prop} (hQ:∀K,Q K→∃e S,K e S) (h:wJ kp Q K):∃e S,K e S:=by
 unfold wJ at h
 cases kp with
 |none=>exact hQ _ h
 |some kp=>
  obtain⟨e,S,h⟩:=hQ _ h
  cases e with
  |normal=>obtain⟨S',h⟩:=gS h;exact⟨_,_,(aQ h).2⟩
  |exit id=>exact⟨_,_,h⟩
  |ret=>exact⟨_,_,h⟩
theorem oq {ok:jv→Bool} {kp:Option jv} {S0:St} {Q:(Ex→St→Prop)→Prop} {K:Ex→St→Prop} (hQ:∀K,Q K→∃e S,K e S) (h:my ok kp S0 Q K):∃e S,K e S:=by
 unfold my at h
 cases kp with
 |none=>exact hQ _ h
 |some kp=>
  simp only[] at h;split at h
  ·obtain⟨e,S,h⟩:=hQ _ (aQ h).2
   cases e with
   |normal=>obtain⟨S',h⟩:=gS h;exact⟨_,_,(aQ h).2⟩
   |exit id=>exact⟨_,_,h⟩
   |ret=>exact⟨_,_,h⟩
  ·exact Da hQ h
theorem r6 (hR:ir A) {aG:List Oper} {ts ls dT dL:List Nat} {K:St→Prop}:∀(l:List Oper) {S:St},kz E A ann N ts ls dT dL aG l S K→∃S',K S'
 |[],S,hx=>⟨_,hx⟩
 |o::l,S,hx=>by
  unfold kz at hx;split at hx
  ·rw[hT] at hx;obtain⟨S',h⟩:=oo hR hx;exact r6 hR l h
  ·unfold pD at hx;split at hx
   ·exact⟨_,(aQ hx).2⟩
   ·exact hx.elim
theorem mV {st:Nat→St→(St→Prop)→Prop} (hs:∀i S K,st i S K→∃S',K S'):∀(t:rV) {S:St} {K:St→Prop},im st t S K→∃S',K S'
 | .nil,S,K,hx=>⟨_,hx⟩
 | .aT,S,K,hx=>hx.elim
 | .one i r,S,K,hx=>by
   obtain⟨S',h⟩:=hs _ _ _ hx;exact mV hs r h
 | .Nh a b,S,K,hx=>mV hs a hx.1
theorem pI (hR:ir A) {aG:List Oper} {draw:Bool} {S:St} {K:St→Prop} (hx:gQ E A ann N aG draw S K):∃S',K S':=by
 unfold gQ at hx;revert hx;split
 ·rw[kX];exact rY hR _
 ·intro hx;refine mV (fun i S K h=> ?_) _ (aQ hx).2;unfold fS at h;split at h
  ·rw[hT] at h;exact oo hR h
  ·exact h.elim
theorem wM (hR:ir A):∀(c:Code) (n:Nat) (S:St) (K:Ex→St→Prop),gq E A f ann N c n S K→∃e S',K e S':=by
 intro c
 induction c with
 |skip=>intro n S K hx;exact⟨_,_,hx⟩
 |seq a b iha ihb=>
  intro n S K hx;obtain⟨e,S',h⟩:=iha _ _ _ hx
  cases e with
  |normal=>exact ihb _ _ _ h
  |exit id=>exact⟨_,_,h⟩
  |ret=>exact⟨_,_,h⟩
 |cond c x y ihx ihy=>
  intro n S K hx;simp only[gq] at hx;split at hx
  ·refine oq ?_ hx;intro K h;rcases gz h with⟨_,h⟩|⟨_,h⟩
   ·exact ihx _ _ _ h
   ·exact ihy _ _ _ h
  ·exact hx.elim
 |block id b ih=>
  intro n S K hx;simp only[gq] at hx;refine oq ?_ hx;intro K hx;obtain⟨e,S',h⟩:=ih _ _ _ hx
  cases e with
  |normal=>exact⟨_,_,h⟩
  |exit j=>rcases gz h with⟨_,h⟩|⟨_,h⟩<;>exact⟨_,_,h⟩
  |ret=>exact⟨_,_,h⟩
 |loop c ih=>
  intro n S K hx;simp only[gq] at hx;split at hx
  ·obtain⟨S0,h⟩:=gS hx;rcases hR.loop _ _ _ _ _ _ h with⟨S',h⟩|⟨id,S',h⟩
   ·exact⟨_,_,(aQ h).2⟩
   ·exact rZ _ _ _ h
  ·exact hx.elim
 |exit id=>intro n S K hx;exact⟨_,_,hx⟩
 |ret=>intro n S K hx;exact⟨_,_,hx⟩
 |region id aG draw=>
  intro n S K hx;simp only[gq] at hx;revert hx;split
  ·intro hx;obtain⟨S',h⟩:=pI hR hx;exact⟨_,_,h⟩
  ·split
   ·intro hx;obtain⟨S',h⟩:=r6 hR _ (aQ hx).2;exact⟨_,_,h⟩
   ·intro hx;refine oq ?_ hx;intro K h;obtain⟨S',h⟩:=pI hR h;exact⟨_,_,h⟩
 |rangeFunc=>intro n S K hx;exact hx.elim
 |scope b ih=>intro n S K hx;simp only[gq] at hx;exact ih _ _ _ hx
 |label=>intro n S K hx;simp only[gq] at hx;exact⟨_,_,hx⟩
 |goto=>intro n S K hx;exact hx.elim
 |refuse=>intro n S K hx;exact hx.elim
theorem ym {S:St} {r:ResultVar} {K:V→Prop} (hx:mz E S r K):∃v,K v:=by
 unfold mz at hx;split at hx
 ·split at hx
  ·exact⟨_,hx⟩
  ·exact hx.elim
 ·split at hx
  ·split at hx
   ·split at hx
    ·exact⟨_,(aQ hx).2⟩
    ·exact hx.elim
   ·exact hx.elim
  ·split at hx
   ·have h:=(fR.fh hx).2;revert h;split
    ·exact fun h=>⟨_,h⟩
    ·exact fun h=>h.elim
   ·exact hx.elim
theorem o0 {S:St}:∀(l:List ResultVar) {K:List V→Prop},nt E S l K→∃v,K v
 |[],_,hx=>⟨_,hx⟩
 |_::l,_,hx=>let ⟨_,h⟩:=ym hx;let ⟨_,h⟩:=o0 l h;⟨_,h⟩
theorem wN {fn:Func} {K:V→ag→Prop} {S:St} (hx:K5 E fn K S):∃v H',K v H':=by
 obtain⟨vs,h⟩:=o0 _ hx;revert h;split
 ·exact fun h=>⟨_,_,h⟩
 ·exact fun h=>⟨_,_,h⟩
theorem E9 (hR:ir A):ir (F E A) where
 call f args H K hx:=by
  simp only[F] at hx;split at hx
  ·split at hx
   ·obtain⟨e,S,h⟩:=wM hR _ _ _ _ (aQ hx).2
    cases e with
    |normal=>exact wN h
    |exit id=>exact h.elim
    |ret=>exact wN h
   ·exact hx.elim
  ·exact hx.elim
 loop c f n S Kr Ke hx:=by
  simp only[F] at hx;split at hx
  ·obtain⟨e,S,h⟩:=wM hR _ _ _ _ hx
   cases e with
   |normal=>obtain⟨S',h⟩:=gS h;exact hR.loop _ _ _ _ _ _ h
   |exit id=>obtain⟨S',h⟩:=gS h;exact .inr ⟨_,_,h⟩
   |ret=>obtain⟨S',h⟩:=gS h;exact .inl ⟨_,h⟩
  ·exact hx.elim
def Jd:mw where
 call _ _ _ K:=∃v H',K v H'
 loop _ _ _ _ Kr Ke:=(∃S',Kr S')∨∃id S',Ke id S'
theorem ue:ir Jd:=⟨fun _ _ _ _ h=>h,fun _ _ _ _ _ _ h=>h⟩
theorem sH:Jd.le Jd:=
 ⟨fun _ _ _ _ _ h ⟨v,H',hk⟩=>⟨v,H',h _ _ hk⟩,
  fun _ _ _ _ _ _ _ _ hr he h=>h.imp (fun⟨S',h⟩=>⟨S',hr _ h⟩) fun⟨id,S',h⟩=>⟨id,S',he _ _ h⟩⟩
theorem sI:ir (rW E):=by
 have h:(rW E).le Jd:=yj sH
  ⟨fun f args H K K' hk hx=>sH.call f args H _ _ hk ((E9 ue).call f args H K hx),
   fun c f n S Kr Qh Ke Qi hr he hx=>sH.loop c f n S _ _ _ _ hr he ((E9 ue).loop c f n S Kr Ke hx)⟩
 exact⟨fun f args H K hx=>h.call f args H _ _ (fun _ _=>id) hx,fun c f n S Kr Ke hx=>h.loop c f n S _ _ _ _ (fun _=>id) (fun _ _=>id) hx⟩
end
theorem jA {n:Nat}:∀{l:List Nat},bD n l=true↔n∈l
 |[]=>by simp [bD]
 |x::l=>by
  rw[bD,Bool.or_eq_true,jA,List.mem_cons];exact⟨fun h=>h.imp Nat.eq_of_beq_eq_true id,fun h=>h.imp (fun e=>by subst e;exact Nat.beq_refl n) id⟩
theorem fO {l m:List Nat} (h:jr l m=false):∀x∈l,x∉m:=by
 induction l with
 |nil=>intro x hx;cases hx
 |cons y l ih=>
  rw[jr,Bool.or_eq_false_iff] at h;intro x hx hm;rcases List.mem_cons.1 hx with rfl|hx
  ·have:=jA.2 hm;rw[h.1] at this;cases this
  ·exact ih h.2 x hx hm
structure ji where
 x:T
 QX:Option (Nat×aR):=none
 kd:Option Nat:=none
 hp:Option ag:=none
def ji.apply (ann:bO) (dst:Option Tmp) (u:ji) (S:St):St where
 tm:=fun t=>if dst=some t then some u.x else if u.kd.isSome=true∧ab ann.aV t=u.kd then none else S.tm t
 lo:=fun s=>match u.QX with|some (s',L)=>if s=s' then some L else S.lo s|none=>S.lo s
 hp:=u.hp.getD S.hp
def K6 (ann:bO) (N:Nat) (dst:Option Tmp) (x:T):Prop:=
 ∀d,dst=some d→Nat.blt d N=true∧∀s off,x=.lp s off→ab ann.aV d=some s
def gT (dst:Option Tmp) (x:T) (S:St):St:=match dst with|some d=>S.setT d x|none=>S
theorem ef {ann:bO} {N:Nat} {dst:Option Tmp} {x:T} {S:St} {K:St→Prop}:jw ann N dst x S K↔K6 ann N dst x∧K (gT dst x S):=by
 cases dst with
 |none=>simp [jw,K6,gT]
 |some d=>
  by_cases hb:d<N
  ·have hb':Nat.blt d N=true:=by simpa using hb
   cases x with
   |v y=>simp [jw,K6,ah,hb',gT,hb]
   |undef=>simp [jw,K6,ah,hb',gT,hb]
   |lp s off=>
    cases hl:ab ann.aV d with
    |none=>simp [jw,K6,ah,hb',hl]
    |some s'=>
     cases hs:Nat.beq s s'
     ·have:s'≠s:=fun e=>by subst e;rw[Nat.beq_refl] at hs;cases hs
      simp [jw,K6,ah,hb',hl,hs,this]
     ·have:s'=s:=(Nat.eq_of_beq_eq_true hs).symm;simp [jw,K6,ah,hb',hl,gT,this,hb]
  ·have hb':Nat.blt d N=false:=by
    cases h:Nat.blt d N
    ·rfl
    ·exact(hb (by simpa using h)).elim
   simp [jw,K6,ah,hb',hb]
theorem St.ext' {S S':St} (h1:∀t,S.tm t=S'.tm t) (h2:∀t,S.lo t=S'.lo t) (h3:S.hp=S'.hp):S=S':=by
 cases S;cases S';simp only[St.mk.injEq];exact⟨funext h1,funext h2,h3⟩
theorem aW {a b:Nat}:Nat.beq a b=decide (a=b):=by
 cases h:Nat.beq a b
 ·rw[eq_comm,decide_eq_false_iff_not];intro e;subst e;rw[Nat.beq_refl] at h;cases h
 ·rw[eq_comm,decide_eq_true_iff];exact Nat.eq_of_beq_eq_true h
section
variable {E:ku} {R:mw} {ann:bO} {N:Nat} {aG:List Oper}
def pe (E:ku) (R:mw) (ann:bO) (o:Oper) (S:St) (P:ji→Prop):Prop:=
 match Hu E ann o with
 | .pure=>match bd E o.op (cS S.tm) with|some d=>d.run fun x=>P {x}|none=>False
 | .oX s=>match gP E o.op (cS S.tm) s (S.lo s) with|some d=>d.run fun x=>P {x}|none=>False
 | .iS s=>match ee E o.op (cS S.tm) s (S.lo s) with|some d=>d.run fun x=>P {x:=x.2,QX:=some (s,x.1)}|none=>False
 | .tX=>match o.dst,iR E o.op (cS S.tm) with
   |some d,some (r,L)=>ah r (P {x:=.lp d 0,QX:=some (d,L),kd:=some d})
   |_,_=>False
 | .kH=>match dD E o.op (cS S.tm) S.hp with|some d=>d.run fun x=>P {x}|none=>False
 | .dv=>bL E R o.op o.type (cS S.tm) S.hp fun x H'=>P {x,hp:=some H'}
 | .tY=>False
def ml (E:ku) (R:mw) (ann:bO) (aG:List Oper) (o:Oper) (S:St) (P:ji→Prop):Prop:=
 match o.guard with
 |none=>pe E R ann o S P
 |some (j,want)=>
  match fZ aG S.tm j with
  |some (.v (.bool b))=>br (b == want) (pe E R ann o S P) (P {x:=.undef})
  |some .undef=>P {x:=.undef}
  |_=>False
theorem nv (dst:Option Tmp) (x:T) (S:St):({x:ji}).apply ann dst S=gT dst x S:=by
 cases dst with
 |none=>exact St.ext' (fun t=>by simp [ji.apply,gT]) (fun t=>by simp [ji.apply,gT]) (by simp [ji.apply,gT])
 |some d=>
  refine St.ext' (fun t=> ?_) (fun t=>by simp [ji.apply,gT,St.setT]) (by simp [ji.apply,gT,St.setT]);by_cases h:d=t<;>simp [ji.apply,gT,St.setT,aW,h,eq_comm]
theorem K7 (dst:Option Tmp) (x:T) (s:Nat) (L:aR) (S:St):({x,QX:=some (s,L):ji}).apply ann dst S=gT dst x (S.setL s L):=by
 cases dst with
 |none=>exact St.ext' (fun t=>by simp [ji.apply,gT,St.setL]) (fun t=>by by_cases h:t=s<;>simp [ji.apply,gT,St.setL,aW,h]) (by simp [ji.apply,gT,St.setL])
 |some d=>
  refine St.ext' (fun t=> ?_) (fun t=>by by_cases h:t=s<;>simp [ji.apply,gT,St.setL,St.setT,aW,h]) (by simp [ji.apply,gT,St.setT,St.setL]);by_cases h:d=t<;>simp [ji.apply,gT,St.setT,St.setL,aW,h,eq_comm]
theorem K8 (d:Nat) (x:T) (L:aR) (S:St):({x,QX:=some (d,L),kd:=some d:ji}).apply ann (some d) S=gT (some d) x ((sC ann d S).setL d L):=by
 refine St.ext' (fun t=> ?_) (fun t=>by by_cases h:t=d<;>simp [ji.apply,gT,St.setL,St.setT,sC,aW,h]) (by simp [ji.apply,gT,St.setT,St.setL,sC]);by_cases h:d=t
 ·simp [ji.apply,gT,St.setT,aW,h]
 ·have h':¬t=d:=fun e=>h e.symm
  simp only[ji.apply,gT,St.setT,St.setL,sC,aW,h,h',Option.some.injEq,decide_false,cond_false,if_false,Option.isSome_some,true_and]
  cases hl:ab ann.aV t with
  |none=>simp
  |some s=>by_cases hs:s=d<;>simp [hs]
theorem Nl (dst:Option Tmp) (x:T) (H:ag) (S:St):({x,hp:=some H:ji}).apply ann dst S=gT dst x {S with hp:=H}:=by
 cases dst with
 |none=>exact St.ext' (fun t=>by simp [ji.apply,gT]) (fun t=>by simp [ji.apply,gT]) (by simp [ji.apply,gT])
 |some d=>
  refine St.ext' (fun t=> ?_) (fun t=>by simp [ji.apply,gT,St.setT]) (by simp [ji.apply,gT,St.setT]);by_cases h:d=t<;>simp [ji.apply,gT,St.setT,aW,h,eq_comm]
theorem BB {o:Oper} {S:St} {K:St→Prop} (hno:(cX E ann aG o).no=false):jq E R ann N o S K↔pe E R ann o S fun u=>K6 ann N o.dst u.x∧K (u.apply ann o.dst S):=by
 unfold cX at hno;unfold jq pe
 cases wI:Hu E ann o with
 |tY=>rw[wI] at hno;cases hno
 |pure=>simp only[];cases bd E o.op (cS S.tm) with
  |none=>exact Iff.rfl
  |some d=>simp only[ef,nv]
 |oX s=>simp only[];cases gP E o.op (cS S.tm) s (S.lo s) with
  |none=>exact Iff.rfl
  |some d=>simp only[ef,nv]
 |iS s=>simp only[];cases ee E o.op (cS S.tm) s (S.lo s) with
  |none=>exact Iff.rfl
  |some d=>simp only[ef,K7]
 |tX=>cases hd:o.dst with
  |none=>exact Iff.rfl
  |some d=>simp only[];cases iR E o.op (cS S.tm) with
   |none=>exact Iff.rfl
   |some p=>simp only[ef,K8]
 |kH=>simp only[];cases dD E o.op (cS S.tm) S.hp with
  |none=>exact Iff.rfl
  |some d=>simp only[ef,nv]
 |dv=>simp only[ef,Nl]
theorem ny {o:Oper} {S:St} {K:St→Prop} (hno:(cX E ann aG o).no=false):ff E R ann N aG o S K↔ml E R ann aG o S fun u=>K6 ann N o.dst u.x∧K (u.apply ann o.dst S):=by
 unfold ff ml
 cases o.guard with
 |none=>exact BB hno
 |some p=>
  obtain⟨j,want⟩:=p;simp only[]
  cases fZ aG S.tm j with
  |none=>exact Iff.rfl
  |some t=>cases t with
   |undef=>simp only[ef,nv]
   |lp s off=>exact Iff.rfl
   |v x=>cases x with
    |bool b=>
     simp only[br]
     cases b == want with
     |true=>exact BB hno
     |false=>simp only[ef,nv]
    |_=>exact Iff.rfl
theorem BC (hR:R.le R) {o:Oper} {S:St} {P P':ji→Prop} (h:∀u,P u→P' u) (ho:pe E R ann o S P):pe E R ann o S P':=by
 unfold pe at ho⊢;split at ho
 ·split at ho
  ·exact fR.cD (fun x=>h _) ho
  ·exact ho
 ·split at ho
  ·exact fR.cD (fun x=>h _) ho
  ·exact ho
 ·split at ho
  ·exact fR.cD (fun x=>h _) ho
  ·exact ho
 ·split at ho
  ·exact bU (h _) ho
  ·exact ho
 ·split at ho
  ·exact fR.cD (fun x=>h _) ho
  ·exact ho
 ·exact jN hR (fun x H'=>h _) ho
 ·exact ho
theorem qQ (hR:R.le R) {o:Oper} {S:St} {P P':ji→Prop} (h:∀u,P u→P' u) (ho:ml E R ann aG o S P):ml E R ann aG o S P':=by
 unfold ml at ho⊢;split at ho
 ·exact BC hR h ho
 ·split at ho
  ·exact fg (BC hR h) (h _) ho
  ·exact h _ ho
  ·exact ho
theorem Fa (hR:ir R) {o:Oper} {S:St} {P:ji→Prop} (ho:ml E R ann aG o S P):∃u,P u:=by
 have key:pe E R ann o S P→∃u,P u:=by
  intro ho;unfold pe at ho;split at ho
  ·split at ho
   ·exact⟨_,(fR.fh ho).2⟩
   ·exact ho.elim
  ·split at ho
   ·exact⟨_,(fR.fh ho).2⟩
   ·exact ho.elim
  ·split at ho
   ·exact⟨_,(fR.fh ho).2⟩
   ·exact ho.elim
  ·split at ho
   ·exact⟨_,(aQ ho).2⟩
   ·exact ho.elim
  ·split at ho
   ·exact⟨_,(fR.fh ho).2⟩
   ·exact ho.elim
  ·obtain⟨x,H',h⟩:=oZ hR ho;exact⟨_,h⟩
  ·exact ho.elim
 unfold ml at ho;split at ho
 ·exact key ho
 ·split at ho
  ·rcases gz ho with⟨_,h⟩|⟨_,h⟩
   ·exact key h
   ·exact⟨_,h⟩
  ·exact⟨_,ho⟩
  ·exact ho.elim
theorem fR.xM {α:Type} {d:fR α} {K:α→Prop} (h:d.run K):∃x,∀K':α→Prop,d.run K'↔K' x:=by
 obtain⟨h1,h2⟩:=aQ h;rcases gz h2 with⟨hc,h⟩|⟨hc,h⟩
 ·exact⟨d.x,fun K'=>by simp [fR.run,ah,br,h1,hc]⟩
 ·exact⟨d.y,fun K'=>by simp [fR.run,ah,br,h1,hc]⟩
theorem Fb {o:Oper} {S:St} {P:ji→Prop} (hw:(cX E ann aG o).wh=false) (ho:ml E R ann aG o S P):∃u,∀P':ji→Prop,ml E R ann aG o S P'↔P' u:=by
 have key:pe E R ann o S P→∃u,∀P':ji→Prop,pe E R ann o S P'↔P' u:=by
  intro ho;unfold pe at ho⊢;unfold cX at hw
  cases hc:Hu E ann o with
  |pure=>
   simp only[hc] at ho⊢
   cases hp:bd E o.op (cS S.tm) with
   |none=>simp only[hp] at ho
   |some d=>simp only[hp] at ho⊢;obtain⟨x,h⟩:=fR.xM ho;exact⟨_,fun P'=>h fun x=>P' {x}⟩
  |oX s=>
   simp only[hc] at ho⊢
   cases hp:gP E o.op (cS S.tm) s (S.lo s) with
   |none=>simp only[hp] at ho
   |some d=>simp only[hp] at ho⊢;obtain⟨x,h⟩:=fR.xM ho;exact⟨_,fun P'=>h fun x=>P' {x}⟩
  |iS s=>
   simp only[hc] at ho⊢
   cases hp:ee E o.op (cS S.tm) s (S.lo s) with
   |none=>simp only[hp] at ho
   |some d=>simp only[hp] at ho⊢;obtain⟨x,h⟩:=fR.xM ho;exact⟨_,fun P'=>h fun x=>P' {x:=x.2,QX:=some (s,x.1)}⟩
  |tX=>
   simp only[hc] at ho⊢
   cases hd:o.dst with
   |none=>simp only[hd] at ho
   |some d=>
    cases hp:iR E o.op (cS S.tm) with
    |none=>simp only[hd,hp] at ho
    |some p=>
     simp only[hd,hp] at ho⊢;exact⟨{x:=.lp d 0,QX:=some (d,p.2),kd:=some d},fun P'=>by simp only[ah,(aQ ho).1]⟩
  |kH=>
   simp only[hc] at ho⊢
   cases hp:dD E o.op (cS S.tm) S.hp with
   |none=>simp only[hp] at ho
   |some d=>simp only[hp] at ho⊢;obtain⟨x,h⟩:=fR.xM ho;exact⟨_,fun P'=>h fun x=>P' {x}⟩
  |dv=>rw[hc] at hw;cases hw
  |tY=>rw[hc] at hw;cases hw
 unfold ml at ho⊢
 cases hg:o.guard with
 |none=>simp only[hg] at ho⊢;exact key ho
 |some p=>
  obtain⟨j,want⟩:=p;simp only[hg] at ho⊢
  cases hy:fZ aG S.tm j with
  |none=>simp only[hy] at ho
  |some t=>cases t with
   |undef=>simp only[];exact⟨{x:=.undef},fun P'=>Iff.rfl⟩
   |lp s off=>simp only[hy] at ho
   |v x=>cases x with
    |bool b=>
     simp only[hy] at ho⊢;rcases gz ho with⟨hb,h⟩|⟨hb,h⟩
     ·obtain⟨u,h⟩:=key h;exact⟨u,fun P'=>by simp only[br,hb];exact h _⟩
     ·exact⟨{x:=.undef},fun P'=>by simp only[br,hb]⟩
    |_=>simp only[hy] at ho
def ji.kC (ann:bO) (f:jT) (dst:Option Tmp) (u:ji):Prop:=
 (∀t,dst=some t→t∈f.wt)∧(∀s L,u.QX=some (s,L)→s∈f.wl)∧(u.hp.isSome=true→f.wh=true)∧
  (∀d,u.kd=some d→∀t,ab ann.aV t=some d→t∈f.wt)
theorem Fc {t d:Nat}:∀{l:List (Nat×Nat)},ab l t=some d→t∈kM d l
 |[],h=>by cases h
 |(k,x)::l,h=>by
  simp only[ab,aW] at h;simp only[kM,aW];by_cases hk:t=k
  ·simp only[hk,decide_true,cond_true,Option.some.injEq] at h;simp [h,hk]
  ·simp only[hk,decide_false,cond_false] at h;have:=Fc h;by_cases hx:x=d<;>simp [hx,this]
theorem Nm {o:Oper} {t:Nat} (ht:o.dst=some t):t∈(cX E ann aG o).wt:=by
 unfold cX;cases Hu E ann o<;>simp [mU,ht]
theorem wO (hR:R.le R) {o:Oper} {S:St} {P:ji→Prop} (ho:ml E R ann aG o S P):ml E R ann aG o S fun u=>P u∧u.kC ann (cX E ann aG o) o.dst:=by
 have hd:∀t,o.dst=some t→t∈(cX E ann aG o).wt:=fun t ht=>Nm ht
 have plain:∀x:T,({x:ji}).kC ann (cX E ann aG o) o.dst:=
  fun x=>⟨hd,fun _ _ h=>by simp at h,fun h=>by simp at h,fun _ h=>by simp at h⟩
 have key:pe E R ann o S P→pe E R ann o S fun u=>P u∧u.kC ann (cX E ann aG o) o.dst:=by
  intro ho;unfold pe at ho⊢
  cases hc:Hu E ann o with
  |pure=>
   simp only[hc] at ho⊢
   cases hp:bd E o.op (cS S.tm) with
   |none=>simp only[hp] at ho
   |some d=>simp only[hp] at ho⊢;exact fR.cD (fun x h=>⟨h,plain _⟩) ho
  |oX s=>
   simp only[hc] at ho⊢
   cases hp:gP E o.op (cS S.tm) s (S.lo s) with
   |none=>simp only[hp] at ho
   |some d=>simp only[hp] at ho⊢;exact fR.cD (fun x h=>⟨h,plain _⟩) ho
  |iS s=>
   simp only[hc] at ho⊢
   cases hp:ee E o.op (cS S.tm) s (S.lo s) with
   |none=>simp only[hp] at ho
   |some d=>
    simp only[hp] at ho⊢;refine fR.cD (fun x h=>⟨h,hd,fun s' L h=> ?_,fun h=>by simp at h,fun _ h=>by simp at h⟩) ho;simp only[Option.some.injEq,Prod.mk.injEq] at h;simp [cX,mU,hc,h.1]
  |tX=>
   simp only[hc] at ho⊢
   cases xF:o.dst with
   |none=>simp only[xF] at ho
   |some d=>
    cases hp:iR E o.op (cS S.tm) with
    |none=>simp only[xF,hp] at ho
    |some p=>
     simp only[xF,hp] at ho⊢;refine bU (fun h=>⟨h,fun t ht=>hd t (xF▸ht),fun s' L h=> ?_,fun h=>by simp at h,fun d' h t ht=> ?_⟩) ho
     ·simp only[Option.some.injEq,Prod.mk.injEq] at h;simp [cX,mU,hc,xF,h.1]
     ·simp only[Option.some.injEq] at h;subst h;simp [cX,mU,hc,xF,C3,Fc ht]
  |kH=>
   simp only[hc] at ho⊢
   cases hp:dD E o.op (cS S.tm) S.hp with
   |none=>simp only[hp] at ho
   |some d=>simp only[hp] at ho⊢;exact fR.cD (fun x h=>⟨h,plain _⟩) ho
  |dv=>
   simp only[hc] at ho⊢;exact jN hR (fun x H' h=>⟨h,hd,fun _ _ h=>by simp at h,fun _=>by simp [cX,mU,hc],fun _ h=>by simp at h⟩) ho
  |tY=>simp only[hc] at ho
 unfold ml at ho⊢
 cases hg:o.guard with
 |none=>simp only[hg] at ho⊢;exact key ho
 |some p=>
  obtain⟨j,want⟩:=p;simp only[hg] at ho⊢
  cases hy:fZ aG S.tm j with
  |none=>simp only[hy] at ho
  |some t=>cases t with
   |undef=>simp only[hy] at ho⊢;exact⟨ho,plain _⟩
   |lp s off=>simp only[hy] at ho
   |v x=>cases x with
    |bool b=>simp only[hy] at ho⊢;exact fg key (fun h=>⟨h,plain _⟩) ho
    |_=>simp only[hy] at ho
end
section
variable {E:ku} {R:mw} {ann:bO} {N:Nat} {aG:List Oper}
theorem iu {ev ev':Ev}:∀{l:List Operand},(∀x∈l,ev x=ev' x)→sy ev l=sy ev' l
 |[],_=>rfl
 |x::l,h=>by
  simp only[sy,jh,h x (List.mem_cons_self ..),iu (l:=l) fun y hy=>h y (List.mem_cons_of_mem _ hy)]
theorem mW {ev ev':Ev}:∀{l:List (Nat×Operand)},(∀x∈l.map (·.2),ev x=ev' x)→kL ev l=kL ev' l
 |[],_=>rfl
 |(i,x)::l,h=>by
  simp only[kL,jh,h x (by simp),mW (l:=l) fun y hy=>h y (by simp only[List.map_cons,List.mem_cons];exact .inr hy)]
theorem Fe {ev ev':Ev} {x:Operand} (h:ev x=ev' x):rU x ev=rU x ev':=by simp only[rU,jh,h]
theorem ot {ev ev':Ev} {x:Option Operand} {d m:Nat} (h:∀y,x=some y→ev y=ev' y):mS ev x d m=mS ev' x d m:=by
 cases x with
 |none=>rfl
 |some y=>simp only[mS,Fe (h y rfl)]
theorem r7 {ev ev':Ev} {len cap:Nat} {lo hi mx:Option Operand} (h1:∀x,lo=some x→ev x=ev' x) (h2:∀x,hi=some x→ev x=ev' x) (h3:∀x,mx=some x→ev x=ev' x):gw ev len cap lo hi mx=gw ev' len cap lo hi mx:=by
 simp only[gw,ot h1,ot h2,ot h3]
theorem Db {o:Op} {ev ev':Ev} (h:∀x∈o.operands.toList,ev x=ev' x):bd E o ev=bd E o ev':=by
 cases o with
 |move x=>simp only[bd,h x (by simp [Op.operands])]
 |assign x=>simp only[bd,h x (by simp [Op.operands])]
 |pick c a b=>simp only[bd,h c (by simp [Op.operands]),h a (by simp [Op.operands]),h b (by simp [Op.operands])]
 |binOp op t x y _=>simp only[bd,jh,h x (by simp [Op.operands]),h y (by simp [Op.operands])]
 |unOp op t x=>simp only[bd,jh,h x (by simp [Op.operands])]
 |convert s d x=>simp only[bd,jh,h x (by simp [Op.operands])]
 |nilCheck x=>simp only[bd,h x (by simp [Op.operands])]
 |fieldAddr t x f=>simp only[bd,h x (by simp [Op.operands])]
 |field t x f=>simp only[bd,jh,h x (by simp [Op.operands])]
 |indexAddr t x i=>simp only[bd,rU,jh,h x (by simp [Op.operands]),h i (by simp [Op.operands])]
 |index t x i=>simp only[bd,rU,jh,h x (by simp [Op.operands]),h i (by simp [Op.operands])]
 |slice t x lo hi mx=>
  have hb:∀len cap,gw ev len cap lo hi mx=gw ev' len cap lo hi mx:=fun len cap=>
   r7 (fun y hy=>h y (by subst hy;simp [Op.operands])) (fun y hy=>h y (by subst hy;simp [Op.operands])) (fun y hy=>h y (by subst hy;simp [Op.operands]))
  have hb':∀len cap,gw ev len cap lo hi none=gw ev' len cap lo hi none:=fun len cap=>
   r7 (fun y hy=>h y (by subst hy;simp [Op.operands])) (fun y hy=>h y (by subst hy;simp [Op.operands])) (fun y hy=>by cases hy)
  simp only[bd,hb,hb',h x (by simp [Op.operands])]
 |makeInterface t x=>simp only[bd,jh,h x (by simp [Op.operands])]
 |makeFunc f first dG=>
  cases f with
  |func f=>
   have h1:=iu (ev:=ev) (ev':=ev') (l:=dG.toList) fun x hx=>h x (by simp only[Op.operands,Array.toList_append,List.mem_append];exact .inr hx)
   have h2:=iu (ev:=ev) (ev':=ev') (l:=first.toList) fun x hx=>h x (by simp only[Op.operands,Array.toList_append,List.mem_append];exact .inl hx)
   simp only[bd]
   cases hf:first.toList with
   |nil=>simp only[h1]
   |cons x l=>
    rw[hf] at h2
    cases dG.toList with
    |nil=>simp only[h2]
    |cons y m=>rfl
  |_=>rfl
 |extract x i=>simp only[bd,jh,h x (by simp [Op.operands])]
 |build t parts=>
  have h1:=mW (ev:=ev) (ev':=ev') (l:=parts.toList) fun x hx=>h x (by simpa only[Op.operands] using hx)
  simp only[bd,h1]
 |typeAssert x xt d ok=>simp only[bd,jh,h x (by simp [Op.operands])]
 |call c=>
  have h1:=iu (ev:=ev) (ev':=ev') (l:=c.args.toList) fun x hx=>h x (by
   simp only[Op.operands,Call.operands,Array.toList_append,List.mem_append];exact .inr hx)
  simp only[bd,h1]
 |_=>rfl
theorem AS {o:Op} {ev ev':Ev} {s:Nat} {L:Option aR} (h:∀x∈o.operands.toList,ev x=ev' x):gP E o ev s L=gP E o ev' s L:=by
 cases o with
 |load t a=>simp only[gP,h a (by simp [Op.operands])]
 |_=>rfl
theorem yn {o:Op} {ev ev':Ev} {s:Nat} {L:Option aR} (h:∀x∈o.operands.toList,ev x=ev' x):ee E o ev s L=ee E o ev' s L:=by
 cases o with
 |store t a x=>simp only[ee,jh,h a (by simp [Op.operands]),h x (by simp [Op.operands])]
 |next it b=>cases b with
  |true=>simp only[ee,h it (by simp [Op.operands])]
  |false=>rfl
 |_=>rfl
theorem Dc {o:Op} {ev ev':Ev} (h:∀x∈o.operands.toList,ev x=ev' x):iR E o ev=iR E o ev':=by
 cases o with
 |box t x=>simp only[iR,jh,h x (by simp [Op.operands])]
 |range t x=>simp only[iR,jh,h x (by simp [Op.operands])]
 |_=>rfl
theorem AT {o:Op} {ev ev':Ev} {H:ag} (h:∀x∈o.operands.toList,ev x=ev' x):dD E o ev H=dD E o ev' H:=by
 cases o with
 |load t a=>simp only[dD,h a (by simp [Op.operands])]
 |convert s d x=>simp only[dD,jh,h x (by simp [Op.operands])]
 |lookup t x i ok=>simp only[dD,jh,h x (by simp [Op.operands]),h i (by simp [Op.operands])]
 |entry it=>simp only[dD,h it (by simp [Op.operands])]
 |call c=>
  have h1:=iu (ev:=ev) (ev':=ev') (l:=c.args.toList) fun x hx=>h x (by
   simp only[Op.operands,Call.operands,Array.toList_append,List.mem_append];exact .inr hx)
  simp only[dD,h1]
 |_=>rfl
theorem ig {o:Op} {ev ev':Ev} {H:ag} (h:∀x∈o.operands.toList,ev x=ev' x):bY E o ev H=bY E o ev' H:=by
 cases o with
 |buildSlice t len parts=>
  simp only[bY];rw[mW (ev:=ev) (ev':=ev') fun x hx=>h x (by simp only[Op.operands];simpa using hx)]
 |makeSlice t len cap=>simp only[bY,jh,h len (by simp [Op.operands]),h cap (by simp [Op.operands])]
 |convert s d x=>simp only[bY,jh,h x (by simp [Op.operands])]
 |call c=>
  have h1:=iu (ev:=ev) (ev':=ev') (l:=c.args.toList) fun x hx=>h x (by
   simp only[Op.operands,Call.operands,Array.toList_append,List.mem_append];exact .inr hx)
  simp only[bY,h1]
 |range t x=>simp only[bY,jh,h x (by simp [Op.operands])]
 |makeMap t r=>cases r<;>rfl
 |_=>rfl
theorem yo {o:Op} {rt:TypeId} {ev ev':Ev} {H:ag} {K:T→ag→Prop} (h:∀x∈o.operands.toList,ev x=ev' x):bL E R o rt ev H K=bL E R o rt ev' H K:=by
 cases o with
 |box t x=>simp only[bL,jh,h x (by simp [Op.operands])]
 |store t a x=>simp only[bL,jh,h a (by simp [Op.operands]),h x (by simp [Op.operands])]
 |convert s d x=>simp only[bL,bY,jh,h x (by simp [Op.operands])]
 |makeSlice t len cap=>simp only[bL];rw[ig h]
 |call c=>
  have h0:=ig (E:=E) (H:=H) h
  have h1:=iu (ev:=ev) (ev':=ev') (l:=c.args.toList) fun x hx=>h x (by
   simp only[Op.operands,Call.operands,Array.toList_append,List.mem_append];exact .inr hx)
  cases hc:c.callee with
  |value f=>
   have h2:ev f=ev' f:=h f (by simp [Op.operands,Call.operands,hc]);have h3:jh ev f=jh ev' f:=by simp only[jh,h2]
   simp only[bL,hc];rw[h1]
   cases sy ev' c.args.toList with
   |none=>simp only[h0]
   |some args=>simp only[h3]
  |invoke r m=>simp only[bL,hc,h0]
  |builtin b=>
   simp only[bL,hc,h0,h1];cases b<;>cases sy ev' c.args.toList<;>rfl
 |buildSlice t len parts=>simp only[bL];rw[ig h]
 |mapUpdate t m x v=>simp only[bL,jh,h m (by simp [Op.operands]),h x (by simp [Op.operands]),h v (by simp [Op.operands])]
 |range t x=>simp only[bL];rw[ig h]
 |makeMap t r=>cases r<;>rfl
 |next it b=>cases b with
  |true=>rfl
  |false=>simp only[bL,h it (by simp [Op.operands])]
 |_=>rfl
theorem wP {t:Nat}:∀{l:List Operand},Operand.tmp t∈l→t∈oh l
 |[],h=>by cases h
 |x::l,h=>by
  rcases List.mem_cons.1 h with rfl|h
  ·simp [oh]
  ·have:=wP h;cases x<;>simp [oh,this]
theorem Ff {o:Oper}:(cX E ann aG o).rt=Xl aG o:=by
 unfold cX;cases Hu E ann o<;>rfl
theorem QY {o:Oper} {t:Nat} (h:t∈oh o.op.operands.toList):t∈(cX E ann aG o).rt:=by
 rw[Ff];exact List.mem_append.2 (.inl h)
theorem Hz {o:Oper} {j:Nat} {want:Bool} {q:Oper} {d:Nat} (hg:o.guard=some (j,want)) (hq:aG[j]? =some q) (hd:q.dst=some d):d∈(cX E ann aG o).rt:=by
 rw[Ff];exact List.mem_append.2 (.inr (by simp [yg,hg,hq,hd]))
theorem yp {o:Oper} {S S':St} {P:ji→Prop} (ht:∀t∈(cX E ann aG o).rt,S.tm t=S'.tm t) (hl:∀s∈(cX E ann aG o).rl,S.lo s=S'.lo s) (hh:(cX E ann aG o).rh=true→S.hp=S'.hp):ml E R ann aG o S P=ml E R ann aG o S' P:=by
 have cW:∀x∈o.op.operands.toList,cS S.tm x=cS S'.tm x:=by
  intro x hx
  cases x with
  |tmp t=>exact ht t (QY (wP hx))
  |_=>rfl
 have key:pe E R ann o S P=pe E R ann o S' P:=by
  unfold pe
  cases hc:Hu E ann o with
  |pure=>simp only[Db cW]
  |oX s=>simp only[AS cW,hl s (by simp [cX,mU,hc])]
  |iS s=>simp only[yn cW,hl s (by simp [cX,mU,hc])]
  |tX=>simp only[Dc cW]
  |kH=>simp only[AT cW,hh (by simp [cX,mU,hc])]
  |dv=>simp only[yo cW,hh (by simp [cX,mU,hc])]
  |tY=>rfl
 unfold ml
 cases hg:o.guard with
 |none=>exact key
 |some p=>
  obtain⟨j,want⟩:=p
  have hy:fZ aG S.tm j=fZ aG S'.tm j:=by
   unfold fZ
   cases hq:aG[j]? with
   |none=>rfl
   |some q=>cases hd:q.dst with
    |none=>simp only[hd]
    |some d=>simp only[hd];exact ht d (Hz hg hq hd)
  simp only[hy,key]
theorem yq {a b:jT} (h:gx a b=true):(∀x∈a.wt,x∉b.rt)∧(∀x∈a.wt,x∉b.wt)∧(∀x∈b.wt,x∉a.rt)∧(∀x∈a.wl,x∉b.rl)∧(∀x∈a.wl,x∉b.wl)∧(∀x∈b.wl,x∉a.rl)∧(a.wh=true→b.rh=false)∧(b.wh=true→a.rh=false):=by
 simp only[gx,Bool.and_eq_true,Bool.not_eq_true'] at h;obtain⟨⟨⟨⟨⟨⟨⟨⟨h1,h2⟩,h3⟩,h4⟩,h5⟩,h6⟩,h7⟩,h8⟩,_⟩:=h;refine⟨fO h1,fO h2,fO h3,fO h4,fO h5,fO h6,fun h=> ?_,fun h=> ?_⟩
 ·rw[h] at h7;simpa using h7
 ·rw[h] at h8;simpa using h8
theorem Nn {a b:jT} (h:gx a b=true):a.no=false∧b.no=false:=by
 simp only[gx,Bool.and_eq_true,Bool.not_eq_true'] at h;exact h.2
theorem S4 {o:Oper} (h:(cX E ann aG o).wh=true):(cX E ann aG o).rh=true:=by
 unfold cX at h⊢;cases hc:Hu E ann o<;>rw[hc] at h<;>first|rfl|cases h
theorem nA {o:Oper} {u:ji} {S:St} {t:Nat} (hu:u.kC ann (cX E ann aG o) o.dst) (ht:t∉(cX E ann aG o).wt):(u.apply ann o.dst S).tm t=S.tm t:=by
 have h1:¬o.dst=some t:=fun e=>ht (hu.1 t e)
 have h2:¬(u.kd.isSome=true∧ab ann.aV t=u.kd):=by
  rintro⟨h,e⟩
  cases hk:u.kd with
  |none=>rw[hk] at h;cases h
  |some d=>exact ht (hu.2.2.2 d hk t (e.trans hk))
 simp only[ji.apply,if_neg h1,if_neg h2]
theorem jV {o:Oper} {u:ji} {S:St} {s:Nat} (hu:u.kC ann (cX E ann aG o) o.dst) (hs:s∉(cX E ann aG o).wl):(u.apply ann o.dst S).lo s=S.lo s:=by
 simp only[ji.apply]
 cases hl:u.QX with
 |none=>rfl
 |some p=>
  have:s≠p.1:=fun e=>hs (e▸hu.2.1 p.1 p.2 hl)
  simp [this]
theorem kY {o:Oper} {u:ji} {S:St} (hu:u.kC ann (cX E ann aG o) o.dst) (hs:(cX E ann aG o).wh=false):(u.apply ann o.dst S).hp=S.hp:=by
 simp only[ji.apply]
 cases hh:u.hp with
 |none=>rfl
 |some H=>have:=hu.2.2.1 (by simp [hh]);rw[hs] at this;cases this
theorem HA {p q:Oper} {u v:ji} {S:St} (ha:gx (cX E ann aG p) (cX E ann aG q)=true) (hu:u.kC ann (cX E ann aG p) p.dst) (hv:v.kC ann (cX E ann aG q) q.dst):v.apply ann q.dst (u.apply ann p.dst S)=u.apply ann p.dst (v.apply ann q.dst S):=by
 obtain⟨_,h2,_,_,h5,_,h7,_⟩:=yq ha;refine St.ext' (fun t=> ?_) (fun s=> ?_) ?_
 ·by_cases ht:t∈(cX E ann aG p).wt
  ·rw[nA hv (h2 t ht)];simp only[ji.apply];split
   ·rfl
   ·split
    ·rfl
    ·exact(nA hv (h2 t ht)).symm
  ·rw[nA hu ht];simp only[ji.apply];split
   ·rfl
   ·split
    ·rfl
    ·exact nA hu ht
 ·by_cases hs:s∈(cX E ann aG p).wl
  ·rw[jV hv (h5 s hs)];simp only[ji.apply];split
   ·split
    ·rfl
    ·exact(jV hv (h5 s hs)).symm
   ·exact(jV hv (h5 s hs)).symm
  ·rw[jV hu hs];simp only[ji.apply];split
   ·split
    ·rfl
    ·exact jV hu hs
   ·exact jV hu hs
 ·cases hw:(cX E ann aG p).wh
  ·rw[kY hu hw];simp only[ji.apply];have:=kY (S:=S) hu hw;simp only[ji.apply] at this;rw[this]
  ·have hq:(cX E ann aG q).wh=false:=by
    cases hq:(cX E ann aG q).wh
    ·rfl
    ·have:=h7 hw;rw[S4 hq] at this;cases this
   rw[kY hv hq];simp only[ji.apply];have:=kY (S:=S) hv hq;simp only[ji.apply] at this;rw[this]
theorem yr (hm:R.le R) (hs:ir R) {p q:Oper} {S:St} {K:St→Prop} (ha:gx (cX E ann aG p) (cX E ann aG q)=true) (h:ff E R ann N aG p S fun S'=>ff E R ann N aG q S' K):ff E R ann N aG q S fun S'=>ff E R ann N aG p S' K:=by
 obtain⟨h1,h2,h3,h4,h5,h6,h7,h8⟩:=yq ha;obtain⟨n1,n2⟩:=Nn ha;rw[ny n1] at h;rw[ny n2]
 have eq1:∀u:ji,u.kC ann (cX E ann aG p) p.dst→∀P,ml E R ann aG q (u.apply ann p.dst S) P=ml E R ann aG q S P:=fun u hu P=>
  yp (fun t ht=>nA hu fun hw=>h1 t hw ht) (fun s hs=>jV hu fun hw=>h4 s hw hs) (fun hr=>by
   cases hw:(cX E ann aG p).wh
   ·exact kY hu hw
   ·have:=h7 hw;rw[hr] at this;cases this)
 have eq2:∀u:ji,u.kC ann (cX E ann aG q) q.dst→∀P,ml E R ann aG p (u.apply ann q.dst S) P=ml E R ann aG p S P:=fun u hu P=>
  yp (fun t ht=>nA hu fun hw=>h3 t hw ht) (fun s hs=>jV hu fun hw=>h6 s hw hs) (fun hr=>by
   cases hw:(cX E ann aG q).wh
   ·exact kY hu hw
   ·have:=h8 hw;rw[hr] at this;cases this)
 have h':=wO hm h
 have main:ml E R ann aG p S fun u=>K6 ann N p.dst u.x∧u.kC ann (cX E ann aG p) p.dst∧
  ml E R ann aG q S fun v=>K6 ann N q.dst v.x∧v.kC ann (cX E ann aG q) q.dst∧K (u.apply ann p.dst (v.apply ann q.dst S)):=by
  refine qQ hm ?_ h';rintro u ⟨⟨hok,hq⟩,hu⟩;refine⟨hok,hu, ?_⟩;rw[ny n2,eq1 u hu] at hq;refine qQ hm ?_ (wO hm hq);rintro v ⟨⟨px,MG⟩,hv⟩;exact⟨px,hv,HA ha hu hv▸MG⟩
 cases hw:(cX E ann aG p).wh
 ·obtain⟨u,MH⟩:=Fb hw main;obtain⟨hok,hu,hq⟩:=(MH _).1 main;refine qQ hm ?_ hq;rintro v ⟨px,hv,hk⟩;refine⟨px, ?_⟩;rw[ny n1,eq2 v hv];exact(MH _).2 ⟨hok,hk⟩
 ·have hwq:(cX E ann aG q).wh=false:=by
   cases hq:(cX E ann aG q).wh
   ·rfl
   ·have:=h7 hw;rw[S4 hq] at this;cases this
  obtain⟨u,_,_,hq⟩:=Fa hs main;obtain⟨v,MH⟩:=Fb hwq hq;obtain⟨px,hv,_⟩:=(MH _).1 hq;refine(MH _).2 ⟨px, ?_⟩;rw[ny n1,eq2 v hv];refine qQ hm ?_ main;rintro u ⟨hok,hu,hq⟩;exact⟨hok,((MH _).1 hq).2.2⟩
end
abbrev dC:=Nat→Option Nat
inductive VR (ρ:dC):V→Value→Prop where
 |bool (b:Bool):VR ρ (.bool b) (.bool b)
 |int (k:IntKind) (n:Int):VR ρ (.int k n) (.int k n)
 |cG (s:ByteArray):VR ρ (.cG s) (.string s)
 |Dd:VR ρ (.aj none) (.pointer none)
 |aj {id off b:Nat} (h:ρ id=some b):VR ρ (.aj (some (id,off))) (.pointer (some ⟨b,off,none⟩))
 |nB (n c:Nat):VR ρ (.slice none n c) (.slice none n c)
 |slice {id off b:Nat} (n c:Nat) (h:ρ id=some b):VR ρ (.slice (some (id,off)) n c) (.slice (some ⟨b,off,none⟩) n c)
 |pJ (p:Nat×Nat) (a:Addr):VR ρ (.slice (some p) 0 0) (.slice (some a) 0 0)
 |yu:VR ρ (.map none) (.map none)
 |map {id b:Nat} (h:ρ id=some b):VR ρ (.map (some id)) (.map (some b))
 |func (f:FuncId) {cs:List V} {cs':Array Value} (hl:cs.length=cs'.size) (h:∀(i:Nat) (x:V) (y:Value),cs[i]? =some x→cs'[i]? =some y→VR ρ x y):
  VR ρ (.func f cs) (.func (.func f) #[] cs')
 |o9 (f:FuncId) {cs:List V} {cs':Array Value} (hl:cs.length=cs'.size) (h:∀(i:Nat) (x:V) (y:Value),cs[i]? =some x→cs'[i]? =some y→VR ρ x y):
  VR ρ (.o9 f cs) (.func (.func f) cs' #[])
 |dO (t:TypeId) {id b:Nat} (h:ρ id=some b):VR ρ (.dO t id) (.pointer (some ⟨b,0,none⟩))
 |nilFunc:VR ρ .nilFunc .nilFunc
 |iface (t:TypeId) {v:V} {v':Value} (h:VR ρ v v'):VR ρ (.iface t v) (.iface t v')
 |nilIface:VR ρ .nilIface .nilIface
 |agg {cs:List V} {cs':Array Value} (h1:∀c∈cs,c.one=true) (hl:cs.length=cs'.size) (h:∀(i:Nat) (x:V) (y:Value),cs[i]? =some x→cs'[i]? =some y→VR ρ x y):VR ρ (.agg cs) (.agg cs')
 |cx (x:Value):VR ρ .cx x
 |tuple {cs:List V} {cs':Array Value} (hl:cs.length=cs'.size) (h:∀(i:Nat) (x:V) (y:Value),cs[i]? =some x→cs'[i]? =some y→VR ρ x y):VR ρ (.tuple cs) (.tuple cs')
def bf (cs:List V):Prop:=∀v∈cs,v.one=true
def eO (ρ:dC) (l:List V) (m:List Value):Prop:=l.length=m.length∧∀(i:Nat) (x:V) (y:Value),l[i]? =some x→m[i]? =some y→VR ρ x y
def dC.le (ρ ρ':dC):Prop:=∀id b,ρ id=some b→ρ' id=some b
theorem dC.le.refl (ρ:dC):ρ.le ρ:=fun _ _ h=>h
theorem dC.le.trans {a b c:dC} (h:a.le b) (k:b.le c):a.le c:=fun id x hx=>k id x (h id x hx)
theorem VR.mono {ρ ρ':dC} (h:ρ.le ρ') {v:V} {x:Value} (hv:VR ρ v x):VR ρ' v x:=by
 induction hv with
 |bool b=>exact .bool b
 |int k n=>exact .int k n
 |cG s=>exact .cG s
 |Dd=>exact .Dd
 |aj hb=>exact .aj (h _ _ hb)
 |nB n c=>exact .nB n c
 |slice n c hb=>exact .slice n c (h _ _ hb)
 |pJ p a=>exact .pJ p a
 |yu=>exact .yu
 |map hb=>exact .map (h _ _ hb)
 |func f hl _ ih=>exact .func f hl ih
 |o9 f hl _ ih=>exact .o9 f hl ih
 |dO t hb=>exact .dO t (h _ _ hb)
 |nilFunc=>exact .nilFunc
 |iface t _ ih=>exact .iface t ih
 |nilIface=>exact .nilIface
 |agg h1 hl _ ih=>exact .agg h1 hl ih
 |cx x=>exact .cx x
 |tuple hl _ ih=>exact .tuple hl ih
theorem eO.mono {ρ ρ':dC} (h:ρ.le ρ') {l:List V} {m:List Value} (hv:eO ρ l m):eO ρ' l m:=
 ⟨hv.1,fun i x y hx hy=>(hv.2 i x y hx hy).mono h⟩
theorem eO.nil (ρ:dC):eO ρ [] []:=⟨rfl,fun i x y h=>by simp at h⟩
theorem eO.cons {ρ:dC} {x:V} {y:Value} {l:List V} {m:List Value} (h:VR ρ x y) (hl:eO ρ l m):eO ρ (x::l) (y::m):=by
 refine⟨by simp [hl.1],fun i=> ?_⟩
 cases i with
 |zero=>intro a b ha hb;simp at ha hb;subst ha;subst hb;exact h
 |succ i=>intro a b ha hb;exact hl.2 i a b (by simpa using ha) (by simpa using hb)
theorem eO.di {ρ:dC} {x:V} {l:List V} {m:List Value} (h:eO ρ (x::l) m):∃y m',m=y::m'∧VR ρ x y∧eO ρ l m':=by
 cases m with
 |nil=>simp [eO] at h
 |cons y m'=>
  refine⟨y,m',rfl,h.2 0 x y rfl rfl,by simpa using h.1,fun i a b ha hb=>h.2 (i+1) a b (by simpa using ha) (by simpa using hb)⟩
theorem eO.gr {ρ:dC} {m:List Value} (h:eO ρ [] m):m=[]:=by
 cases m with
 |nil=>rfl
 |cons y m'=>simp [eO] at h
theorem eO.append {ρ:dC} {l l':List V} {m m':List Value} (h:eO ρ l m) (h':eO ρ l' m'):eO ρ (l++l') (m++m'):=by
 refine⟨by simp [h.1,h'.1],fun i x y hx hy=> ?_⟩;by_cases hi:i<l.length
 ·rw[List.getElem?_append_left hi] at hx;rw[List.getElem?_append_left (h.1▸hi)] at hy;exact h.2 i x y hx hy
 ·rw[List.getElem?_append_right (by omega)] at hx;rw[List.getElem?_append_right (by have:=h.1;omega)] at hy;exact h'.2 _ x y hx (by rwa [←h.1] at hy)
theorem eO.take {ρ:dC} {l:List V} {m:List Value} (h:eO ρ l m) (n:Nat):eO ρ (l.take n) (m.take n):=by
 refine⟨by simp [h.1],fun i x y hx hy=> ?_⟩;rw[List.getElem?_take] at hx hy;split at hx
 ·rename_i hi;rw[if_pos hi] at hy;exact h.2 i x y hx hy
 ·cases hx
theorem eO.drop {ρ:dC} {l:List V} {m:List Value} (h:eO ρ l m) (n:Nat):eO ρ (l.drop n) (m.drop n):=by
 refine⟨by simp [h.1],fun i x y hx hy=> ?_⟩;rw[List.getElem?_drop] at hx hy;exact h.2 _ x y hx hy
theorem qR:∀{l:List V} {n:Nat},n<l.length→l[n]? =some (ae l n)
 |[],_,h=>by simp at h
 |_::_,0,_=>rfl
 |_::l,n+1,h=>by rw[List.getElem?_cons_succ];exact qR (l:=l) (by simpa using h)
theorem eO.nth {ρ:dC} {l:List V} {m:List Value} (h:eO ρ l m) {n:Nat} (hn:n<l.length):∃y,m[n]? =some y∧VR ρ (ae l n) y:=by
 have hm:n<m.length:=h.1▸hn;exact⟨m[n],List.getElem?_eq_getElem hm,h.2 n _ _ (qR hn) (List.getElem?_eq_getElem hm)⟩
theorem VR.ov {ρ:dC} {cs:List V} {x:Value} (h:VR ρ (.agg cs) x):∃cs',x=.agg cs'∧eO ρ cs cs'.toList∧bf cs:=by
 cases h with
 |agg h1 hl h=>exact⟨_,rfl,⟨by simpa using hl,fun i a b ha hb=>h i a b ha (by simpa using hb)⟩,h1⟩
theorem VR.vK {ρ:dC} {cs:List V} {cs':Array Value} (h1:bf cs) (h:eO ρ cs cs'.toList):VR ρ (.agg cs) (.agg cs'):=
 .agg h1 (by simpa using h.1) fun i a b ha hb=>h.2 i a b ha (by simpa using hb)
theorem VR.K9 {ρ:dC} {cs:List V} {x:Value} (h:VR ρ (.tuple cs) x):∃cs',x=.tuple cs'∧eO ρ cs cs'.toList:=by
 cases h with
 |tuple hl h=>exact⟨_,rfl,by simpa using hl,fun i a b ha hb=>h i a b ha (by simpa using hb)⟩
theorem VR.gE {ρ:dC} {cs:List V} {cs':Array Value} (h:eO ρ cs cs'.toList):VR ρ (.tuple cs) (.tuple cs'):=
 .tuple (by simpa using h.1) fun i a b ha hb=>h.2 i a b ha (by simpa using hb)
theorem VR.No {ρ:dC} {f:FuncId} {cs:List V} {x:Value} (h:VR ρ (.func f cs) x):∃cs',x=.func (.func f) #[] cs'∧eO ρ cs cs'.toList:=by
 cases h with
 |func f hl h=>exact⟨_,rfl,by simpa using hl,fun i a b ha hb=>h i a b ha (by simpa using hb)⟩
theorem VR.Np {ρ:dC} {f:FuncId} {cs:List V} {x:Value} (h:VR ρ (.o9 f cs) x):∃cs',x=.func (.func f) cs' #[]∧eO ρ cs cs'.toList:=by
 cases h with
 |o9 f hl h=>exact⟨_,rfl,by simpa using hl,fun i a b ha hb=>h i a b ha (by simpa using hb)⟩
theorem VR.QZ {ρ:dC} {f:FuncId} {cs:List V} {cs':Array Value} (h:eO ρ cs cs'.toList):VR ρ (.o9 f cs) (.func (.func f) cs' #[]):=
 .o9 f (by simpa using h.1) fun i a b ha hb=>h.2 i a b ha (by simpa using hb)
theorem VR.Fg {ρ:dC} {t:TypeId} {id:Nat} {x:Value} (h:VR ρ (.dO t id) x):∃b,ρ id=some b∧x=.pointer (some ⟨b,0,none⟩):=by
 cases h with|dO t h=>exact⟨_,h,rfl⟩
theorem VR.Je {ρ:dC} {f:FuncId} {cs:List V} {cs':Array Value} (h:eO ρ cs cs'.toList):VR ρ (.func f cs) (.func (.func f) #[] cs'):=
 .func f (by simpa using h.1) fun i a b ha hb=>h.2 i a b ha (by simpa using hb)
theorem VR.iv {ρ:dC} {k:IntKind} {n:Int} {x:Value} (h:VR ρ (.int k n) x):x=.int k n:=by cases h;rfl
theorem VR.Df {ρ:dC} {b:Bool} {x:Value} (h:VR ρ (.bool b) x):x=.bool b:=by cases h;rfl
theorem VR.vL {ρ:dC} {s:ByteArray} {x:Value} (h:VR ρ (.cG s) x):x=.string s:=by cases h;rfl
theorem VR.vM {ρ:dC} {id off:Nat} {x:Value} (h:VR ρ (.aj (some (id,off))) x):∃b,ρ id=some b∧x=.pointer (some ⟨b,off,none⟩):=by
 cases h with|aj h=>exact⟨_,h,rfl⟩
theorem VR.fk {ρ:dC} {id off n c:Nat} {x:Value} (h:VR ρ (.slice (some (id,off)) n c) x):(∃b,ρ id=some b∧x=.slice (some ⟨b,off,none⟩) n c)∨(n=0∧c=0∧∃a,x=.slice (some a) 0 0):=by
 cases h with
 |slice _ _ h=>exact .inl ⟨_,h,rfl⟩
 |pJ p a=>exact .inr ⟨rfl,rfl,a,rfl⟩
theorem VR.lC {ρ:dC} {n c:Nat} {x:Value} (h:VR ρ (.slice none n c) x):x=.slice none n c:=by cases h;rfl
theorem VR.one {ρ:dC} {v:V} {x:Value} (h:VR ρ v x) (h1:v.one=true):x.oneCell'=true:=by
 cases h<;>simp_all [V.one,Value.oneCell']
theorem VR.cells {ρ:dC} {v:V} {x:Value} (h:VR ρ v x) (hh:v≠ .cx):eO ρ v.cells x.cells.toList:=by
 by_cases hv:∃cs,v=.agg cs
 ·obtain⟨cs,rfl⟩:=hv;obtain⟨cs',rfl,h',_⟩:=h.ov;exact h'
 ·have h1:v.cells=[v]:=by cases v<;>first|rfl|exact(hv ⟨_,rfl⟩).elim
  have h2:x.cells= #[x]:=by cases h<;>first|rfl|exact(hv ⟨_,rfl⟩).elim|exact(hh rfl).elim
  rw[h1,h2];exact .cons h (.nil ρ)
theorem sJ {ρ:dC} {x:Value} {v:V} (h:ofValue x=some v):VR ρ v x:=by
 unfold ofValue at h;split at h<;>first|(cases h)|skip
 ·exact .bool _
 ·exact .int _ _
 ·exact .cG _
 ·exact .Dd
 ·exact .nB _ _
 ·exact .yu
 ·exact .nilFunc
 ·exact .nilIface
theorem uf {ρ:dC}:∀{l:List Value} {m:List V},jS l=some m→eO ρ m l
 |[],m,h=>by simp only[jS,Option.some.injEq] at h;subst h;exact .nil ρ
 |x::l,m,h=>by
  simp only[jS] at h;split at h
  ·rename_i y m' hy hm;simp only[Option.some.injEq] at h;subst h;exact .cons (sJ hy) (uf hm)
  ·cases h
theorem wQ {x:Value} {v:V} (h:ofValue x=some v):v.one=true:=by
 unfold ofValue at h;split at h<;>first|(cases h;done)|(simp only[Option.some.injEq] at h;subst h;rfl)|cases h
theorem ox:∀{l:List Value} {m:List V},jS l=some m→∀v∈m,v.one=true
 |[],m,h=>by simp only[jS,Option.some.injEq] at h;subst h;intro v hv;cases hv
 |x::l,m,h=>by
  simp only[jS] at h;split at h
  ·rename_i y m' hy hm;simp only[Option.some.injEq] at h;subst h;intro v hv;rcases List.mem_cons.1 hv with rfl|hv
   ·exact wQ hy
   ·exact ox hm v hv
  ·cases h
theorem iC {ρ:dC} {x:Value} {v:V} (h:lj x=some v):VR ρ v x:=by
 unfold lj at h;split at h
 ·split at h
  ·rename_i cs l hl;simp only[Option.some.injEq] at h;subst h;exact .vK (ox hl) (uf hl)
  ·cases h
 ·exact sJ h
theorem kN {x:Value} {v:V} (h:lj x=some v):∀c∈v.cells,c.one=true:=by
 unfold lj at h;split at h
 ·split at h
  ·rename_i cs l hl;simp only[Option.some.injEq] at h;subst h;exact ox hl
  ·cases h
 ·have h1:=wQ h;have:v.cells=[v]:=by cases v<;>first|rfl|(simp [V.one] at h1)
  intro c hc;rw[this] at hc;rcases List.mem_cons.1 hc with rfl|hc
  ·exact h1
  ·cases hc
inductive TR (ρ lam:dC):T→Value→Prop where
 |v {x:V} {y:Value} (h:VR ρ x y):TR ρ lam (.v x) y
 |lp {s off b:Nat} (h:lam s=some b):TR ρ lam (.lp s off) (.pointer (some ⟨b,off,none⟩))
 |undef:TR ρ lam .undef (.tuple #[])
def pK (ρ lam:dC) (ev:Ev) (e:Operand→Value):Prop:=∀x t,ev x=some t→TR ρ lam t (e x)
theorem pK.v {ρ lam:dC} {ev:Ev} {e:Operand→Value} (h:pK ρ lam ev e) {x:Operand} {v:V} (hx:jh ev x=some v):VR ρ v (e x):=by
 unfold jh at hx;split at hx
 ·rename_i y hy;cases hx;have:=h _ _ hy
  cases this with
  |v h=>exact h
 ·cases hx
theorem pK.lp {ρ lam:dC} {ev:Ev} {e:Operand→Value} (h:pK ρ lam ev e) {x:Operand} {s off:Nat} (hx:ev x=some (.lp s off)):∃b,lam s=some b∧e x=.pointer (some ⟨b,off,none⟩):=by
 have:=h _ _ hx;generalize e x=y at this
 cases this with
 |lp h=>exact⟨_,h,rfl⟩
theorem pK.tv {ρ lam:dC} {ev:Ev} {e:Operand→Value} (h:pK ρ lam ev e) {x:Operand} {v:V} (hx:ev x=some (.v v)):VR ρ v (e x):=by
 have:=h _ _ hx;generalize e x=y at this
 cases this with
 |v h=>exact h
theorem pK.vs {ρ lam:dC} {ev:Ev} {e:Operand→Value} (h:pK ρ lam ev e):∀{l:List Operand} {vs:List V},sy ev l=some vs→eO ρ vs (l.map e)
 |[],vs,hx=>by simp only[sy,Option.some.injEq] at hx;subst hx;exact .nil ρ
 |x::l,vs,hx=>by
  simp only[sy] at hx;split at hx
  ·rename_i y m hy hm;simp only[Option.some.injEq] at hx;subst hx;exact .cons (h.v hy) (h.vs hm)
  ·cases hx
def fT (ρ:dC) (e:TypeId) (cs:List V) (rw:Bool) (o:Option Go.Obj):Prop:=
 ∃cs' fz,o=some (.cells cs' e fz)∧eO ρ cs cs'.toList∧(rw=true→bf cs)∧(rw=true→fz.1=fz.2∨cs'.size≤fz.1)
def js (ρ:dC):List (V×V×Nat)→List MapEntry→Prop
 |[],[]=>True
 |x::l,y::m=>(VR ρ x.1 y.key∧VR ρ x.2.1 y.val∧x.2.2=y.born)∧js ρ l m
 |_,_=>False
theorem js.mono {ρ ρ':dC} (h:ρ.le ρ'):∀{l:List (V×V×Nat)} {m:List MapEntry},js ρ l m→js ρ' l m
 |[],[],_=>trivial
 |x::l,y::m,hl=>⟨⟨hl.1.1.mono h,hl.1.2.1.mono h,hl.1.2.2⟩,js.mono h hl.2⟩
 |[],_::_,hl=>hl.elim
 |_::_,[],hl=>hl.elim
def Fh (ρ:dC):Obj→Option Go.Obj→Prop
 | .cells e cs ro,o=>fT ρ e cs (!ro) o
 | .map es clock,o=>∃es':Array MapEntry,o=some (.map es' clock)∧js ρ es es'.toList
 | .dO m bW seen tO,o=>∃m',o=some (.mapIter m' bW seen.toArray tO)∧VR ρ (.map m) (.map m')
def vN (ρ:dC):aR→Option Go.Obj→Prop
 | .cells e cs,o=>fT ρ e cs true o
 | .dO s jo,o=>o=some (.stringIter s jo)
def Obj.rw :Obj→Bool
 | .cells _ _ ro=> !ro
 | .map .. =>true
 | .dO .. =>true
def iW (H:ag) (ρ:dC) (b:Nat):Prop:=∃id o,H.get id=some o∧ρ id=some b
def n8 (H:ag) (ρ:dC) (b:Nat):Prop:=∃id o,H.get id=some o∧o.rw =true∧ρ id=some b
structure HR (ρ:dC) (H:ag) (w:World):Prop where
 wR:∀id o,H.get id=some o→∃b,ρ id=some b∧Fh ρ o w.heap[b]?
 inj:∀id id' o o' b,H.get id=some o→H.get id'=some o'→o.rw =true→ρ id=some b→ρ id'=some b→id=id'
 lt:∀id b,ρ id=some b→id<H.next∧b<w.heap.size
 gl:∀g∈Nc,ρ g=some g
structure lD (H0:ag) (ρ0:dC) (w0:World) (H:ag) (ρ:dC) (w:World):Prop where
 le:ρ0.le ρ
 frame:∀b,b<w0.heap.size→¬n8 H0 ρ0 b→w.heap[b]? =w0.heap[b]?
 iW:∀b,iW H ρ b→iW H0 ρ0 b∨w0.heap.size≤b
 n8:∀b,n8 H ρ b→n8 H0 ρ0 b∨w0.heap.size≤b
 size:w0.heap.size≤w.heap.size
 os:w.os=w0.os
 tape:w.tape=w0.tape
 output:w.output=w0.output
theorem lD.refl (H:ag) (ρ:dC) (w:World):lD H ρ w H ρ w:=
 ⟨.refl ρ,fun _ _ _=>rfl,fun _ h=>.inl h,fun _ h=>.inl h,Nat.le_refl _,rfl,rfl,rfl⟩
theorem lD.trans {H0 H1 H2:ag} {ρ0 ρ1 ρ2:dC} {w0 w1 w2:World} (h:lD H0 ρ0 w0 H1 ρ1 w1) (k:lD H1 ρ1 w1 H2 ρ2 w2):lD H0 ρ0 w0 H2 ρ2 w2 where
 le:=h.le.trans k.le
 frame:=fun b hb ho=>by
  have h1:¬Am.n8 H1 ρ1 b:=fun h1=>(h.n8 b h1).elim ho fun h=>by omega
  rw[k.frame b (by have:=h.size;omega) h1,h.frame b hb ho]
 iW:=fun b hb=>(k.iW b hb).elim (h.iW b) fun h'=>.inr (by have:=h.size;omega)
 n8:=fun b hb=>(k.n8 b hb).elim (h.n8 b) fun h'=>.inr (by have:=h.size;omega)
 size:=Nat.le_trans h.size k.size
 os:=k.os.trans h.os
 tape:=k.tape.trans h.tape
 output:=k.output.trans h.output
structure SR (H0:ag) (ρ0:dC) (w0:World) (ann:bO) (N:Nat) (ρ lam:dC) (S:St) (a:Act) (w:World):Prop where
 defers:a.defers=[]
 size:a.tmps.size=N
 tm:∀t x,S.tm t=some x→TR ρ lam x (a.tmps.getD t undef)
 La:∀t s off,S.tm t=some (.lp s off)→ab ann.aV t=some s
 lo:∀s L,S.lo s=some L→∃b,lam s=some b∧vN ρ L w.heap[b]? ∧b<w.heap.size∧w0.heap.size≤b∧¬iW S.hp ρ b
 ug:∀s s' L L' b,S.lo s=some L→S.lo s'=some L'→lam s=some b→lam s'=some b→s=s'
 hr:HR ρ S.hp w
 bW:lD H0 ρ0 w0 S.hp ρ w
theorem SR.ev {H0:ag} {ρ0:dC} {w0:World} {ann:bO} {N:Nat} {ρ lam:dC} {S:St} {a:Act} {w:World} (h:SR H0 ρ0 w0 ann N ρ lam S a w):pK ρ lam (cS S.tm) a.eval:=by
 intro x t hx
 cases x with
 |tmp s=>exact h.tm s t hx
 |const v=>
  simp only[cS] at hx;split at hx
  ·rename_i y hy;cases hx;exact .v (sJ hy)
  ·cases hx
 |func f=>simp only[cS,Option.some.injEq] at hx;subst hx;exact .v (.func f rfl fun i x y hx=>by simp at hx)
 |global g=>cases hx
theorem jO {E:ku} {t:Nat} {i:TI} (h:E.ti t=some i):∃dj d,E.P.info? t=some dj∧E.P.underlying t=some d∧bo d=i.sh∧dj.size=i.size∧dj.bytes=i.bytes∧dj.zero.bind lj=i.zero:=by
 have h:=E.ti_ok t i h;unfold QT at h;split at h
 ·rename_i dj d h1 h2;simp only[Option.some.injEq] at h;subst h;exact⟨dj,d,h1,h2,rfl,rfl,rfl,rfl⟩
 ·cases h
theorem jB {P:Program} {t:TypeId} {d:TypeDesc} (h:P.underlying t=some d) (w:World):(isAgg t).run P w=.ok (iP d) w:=by
 simp only[isAgg,Sem.run_bind,run_underlying h,Result.andThen_ok];cases d<;>rfl
theorem HB {d:TypeDesc} {k:cj} (h:cN (bo d)=some k):iP d=false:=by
 cases d<;>simp_all [bo,cN,iP]
def Jf (P:Program) (t:TypeId) (cs:List Value) (x:Value):Prop:=
 ∃d,P.underlying t=some d∧((iP d=true∧x=.agg cs.toArray)∨(iP d=false∧cs=[x]))
theorem Dg {P:Program} {t:TypeId} {d:TypeDesc} {dj:TypeInfo} (hu:P.underlying t=some d) (hi:P.info? t=some dj) (cs:Array Value) (off n:Nat) (hn:off+n≤cs.size) (hs:dj.size=n) (h1:iP d=false→n=1) (w:World):∃x,(part t cs off).run P w=.ok x w∧Jf P t ((cs.toList.drop off).take n) x:=by
 cases ha:iP d
 ·have hn1:=h1 ha;subst hn1;have hlt:off<cs.size:=by omega
  refine⟨cs[off], ?_,d,hu,.inr ⟨ha, ?_⟩⟩
  ·simp [part,jB hu,ha,Array.getElem?_eq_getElem hlt]
  ·have:cs.toList.drop off=cs[off]::cs.toList.drop (off+1):=by
    rw[List.drop_eq_getElem_cons (by simpa using hlt)];rfl
   rw[this];rfl
 ·refine⟨.agg (cs.extract off (off+n)), ?_,d,hu,.inl ⟨ha, ?_⟩⟩
  ·simp [part,jB hu,ha,run_sizeOf w hi,Program.cellsOf,hi,hs]
  ·congr 1;apply Array.ext';simp [List.extract_eq_take_drop]
theorem lE:∀{a c:List V} (b d:List V) {r:Bool},a.length=c.length→eu (a++b) (c++d)=some r→∃x y,eu a c=some x∧eu b d=some y∧r=(x&&y)
 |[],[],b,d,r,_,h=>⟨true,r,rfl,h,by simp⟩
 |x::l,y::m,b,d,r,hl,h=>by
  have ih:∀{r},eu (l++b) (m++d)=some r→_:=fun h=>lE (a:=l) (c:=m) b d (by simpa using hl) h
  cases x<;>cases y<;>simp only[List.cons_append,eu] at h⊢ <;>try (cases h;done)
  ·split at h
   ·rename_i e q hq;obtain⟨u,v,h1,h2,rfl⟩:=ih hq;simp only[Option.some.injEq] at h;exact⟨_,v,by rw[h1],h2,by rw[←h,Bool.and_assoc]⟩
   ·cases h
  ·rename_i k p k' q;by_cases hk:k=k'
   ·simp only[hk,np,decide_true,cond_true] at h⊢;split at h
    ·rename_i e s hs;obtain⟨u,v,h1,h2,rfl⟩:=ih hs;simp only[Option.some.injEq] at h;exact⟨_,v,by rw[h1],h2,by rw[←h,Bool.and_assoc]⟩
    ·cases h
   ·simp [hk] at h
  ·split at h
   ·rename_i e q hq;obtain⟨u,v,h1,h2,rfl⟩:=ih hq;simp only[Option.some.injEq] at h;exact⟨_,v,by rw[h1],h2,by rw[←h,Bool.and_assoc]⟩
   ·cases h
theorem fl:∀{ks:List cj} {vs:List V},aI ks vs=true→ks.length=vs.length
 |[],[],_=>rfl
 |[],_::_,h=>by simp [aI] at h
 |_::_,[],h=>by simp [aI] at h
 |_::ks,_::vs,h=>by rw[aI,Bool.and_eq_true] at h;simp [fl h.2]
theorem jW:∀{a b:List cj} {vs:List V},aI (a++b) vs=true→aI a (vs.take a.length)=true∧aI b (vs.drop a.length)=true
 |[],b,vs,h=>by simpa [aI] using h
 |k::a,b,[],h=>by simp [aI] at h
 |k::a,b,v::vs,h=>by
  rw[List.cons_append,aI,Bool.and_eq_true] at h;obtain⟨h1,h2⟩:=jW h.2;simp [aI,h.1,h1,h2]
theorem Nq (n:Nat) (ks:List cj):(AQ n ks).length=n*ks.length:=by
 induction n with
 |zero=>simp [AQ]
 |succ n ih=>simp [AQ,ih,Nat.add_mul];omega
section
variable {P:Program} {ρ:dC}
def Q0 (P:Program) (ρ:dC) (D:Nat) (t:TypeId) (ks:List cj):Prop:=
 ∀(w:World) (xv yv:List V) (xs ys:List Value) (x y:Value) (b:Bool),aI ks xv=true→aI ks yv=true→eO ρ xv xs→eO ρ yv ys→eu xv yv=some b→
  Jf P t xs x→Jf P t ys y→(Op.equalIn D t x y).run P w=.ok b w
theorem ij {α:Type} (l:List α) (a n:Nat):l.drop a=(l.drop a).take n++l.drop (a+n):=by
 rw[←List.drop_drop,List.take_append_drop]
theorem S5 {d:Nat} {t:TypeId} {ks:List cj} (h:ll P d t=some ks):∃D,P.underlying t=some D∧(iP D=false→ks.length=1)∧(iP D=true→P.cellsOf t=ks.length):=by
 cases d with
 |zero=>cases h
 |succ d=>
  unfold ll at h;split at h
  ·rename_i hu;simp only[Option.some.injEq] at h;subst h;exact⟨_,hu,fun _=>rfl,fun h=>by simp [iP] at h⟩
  ·rename_i hu;simp only[Option.some.injEq] at h;subst h;exact⟨_,hu,fun _=>rfl,fun h=>by simp [iP] at h⟩
  ·rename_i hu;simp only[Option.some.injEq] at h;subst h;exact⟨_,hu,fun _=>rfl,fun h=>by simp [iP] at h⟩
  ·rename_i hu;refine⟨_,hu,fun h=>by simp [iP] at h,fun _=> ?_⟩;cases hp:P.stoodInHeld t
   ·simp only[hp,cond_false] at h;split at h
    ·rename_i m _;by_cases hc:P.cellsOf t=m.length
     ·simp only[aW,hc,decide_true,cond_true,Option.some.injEq] at h;rw[←h,hc]
     ·simp [aW,hc] at h
    ·cases h
   ·simp [hp] at h
  ·rename_i k e hu;refine⟨_,hu,fun h=>by simp [iP] at h,fun _=> ?_⟩;split at h
   ·rename_i m _;by_cases G2:P.cellsOf e=m.length
    ·by_cases Hl:P.cellsOf t=k*m.length
     ·simp only[aW,G2,Hl,decide_true,Bool.and_self,cond_true,Option.some.injEq] at h;rw[←h,Nq,Hl]
     ·simp [aW,Hl] at h
    ·simp [aW,G2] at h
   ·cases h
  ·cases h
theorem jP {d:Nat} {t:TypeId} {ks:List cj} (h:ll P d t=some ks) (cs:Array Value) (off:Nat) (hn:off+ks.length≤cs.size) (w:World):∃x,(part t cs off).run P w=.ok x w∧Jf P t ((cs.toList.drop off).take ks.length) x:=by
 obtain⟨D,hu,h1,h2⟩:=S5 h;obtain⟨dj,hi⟩:=info_of_underlying hu;cases ha:iP D
 ·have hn1:=h1 ha;have hlt:off<cs.size:=by omega
  refine⟨cs[off], ?_,D,hu,.inr ⟨ha, ?_⟩⟩
  ·simp [part,jB hu,ha,Array.getElem?_eq_getElem hlt]
  ·have:cs.toList.drop off=cs[off]::cs.toList.drop (off+1):=by
    rw[List.drop_eq_getElem_cons (by simpa using hlt)];rfl
   rw[this,hn1];rfl
 ·exact Dg hu hi cs off _ hn (by have:=h2 ha;simpa [Program.cellsOf,hi] using this) (fun h=>by rw[ha] at h;cases h) w
theorem yw {d D:Nat} (ih:∀t ks,ll P d t=some ks→Q0 P ρ D t ks) (xs ys:Array Value) (w:World):∀(l:List Field) (o:Nat) (ks:List cj) (xv yv:List V) (b:Bool),lk (ll P d) l o=some ks→o≤xv.length→o≤yv.length→aI ks (xv.drop o)=true→aI ks (yv.drop o)=true→eO ρ xv xs.toList→eO ρ yv ys.toList→eu (xv.drop o) (yv.drop o)=some b→(Op.eqFields D xs ys l).run P w=.ok b w
 |[],o,ks,xv,yv,b,h,hx,hy,fx,fy,_,_,he=>by
  simp only[lk,Option.some.injEq] at h;subst h;have l1:=fl fx;have l2:=fl fy;rw[List.eq_nil_of_length_eq_zero l1.symm,List.eq_nil_of_length_eq_zero l2.symm] at he;simp only[eu,Option.some.injEq] at he;subst he;simp [Op.eqFields]
 |f::l,o,ks,xv,yv,b,h,hx,hy,fx,fy,MI,MJ,he=>by
  unfold lk at h;cases hc:(f.name != "_" &&Nat.beq f.offset o)
  ·simp [hc] at h
  ·simp only[hc,cond_true] at h;rw[Bool.and_eq_true] at hc;have hname:f.name≠ "_" :=by simpa using hc.1
   have hoff:f.offset=o:=Nat.eq_of_beq_eq_true hc.2;split at h
   ·rename_i m hm;split at h
    ·rename_i r hr;simp only[Option.some.injEq] at h;subst h;have l1:=fl fx;have l2:=fl fy;simp only[List.length_append,List.length_drop] at l1 l2;obtain⟨fx1,fx2⟩:=jW fx;obtain⟨fy1,fy2⟩:=jW fy;rw[List.drop_drop] at fx2 fy2;have hxs:xs.size=xv.length:=by have:=MI.1;simp at this;omega
     have hys:ys.size=yv.length:=by have:=MJ.1;simp at this;omega
     obtain⟨x,hx1,tL⟩:=jP hm xs o (by omega) w;obtain⟨y,hy1,Tz⟩:=jP hm ys o (by omega) w;rw[ij xv o m.length,ij yv o m.length] at he;obtain⟨u,v,h1,h2,rfl⟩:=lE _ _ (by simp;omega) he;have e1:=ih _ _ hm w _ _ _ _ x y u fx1 fy1 ((MI.drop o).take m.length) ((MJ.drop o).take m.length) h1 tL Tz;have e2:=yw ih xs ys w l (o+m.length) r xv yv v hr (by omega) (by omega) fx2 fy2 MI MJ h2;rw[Op.eqFields];simp only[if_pos hname,Sem.run_bind,hoff,hx1,hy1,e1,Result.andThen_ok];cases u
     ·simp
     ·simpa using e2
    ·cases h
   ·cases h
theorem BD {d D:Nat} {m:List cj} {e:TypeId} (ih:Q0 P ρ D e m) (hm:ll P d e=some m) (xs ys:Array Value) (w:World):∀(k i:Nat) (xv yv:List V) (b:Bool),i*m.length≤xv.length→i*m.length≤yv.length→aI (AQ k m) (xv.drop (i*m.length))=true→aI (AQ k m) (yv.drop (i*m.length))=true→eO ρ xv xs.toList→eO ρ yv ys.toList→eu (xv.drop (i*m.length)) (yv.drop (i*m.length))=some b→(Op.eqItems D e m.length xs ys (List.range' i k)).run P w=.ok b w
 |0,i,xv,yv,b,hx,hy,fx,fy,_,_,he=>by
  have l1:=fl fx;have l2:=fl fy;rw[AQ,List.length_nil] at l1 l2;rw[List.eq_nil_of_length_eq_zero l1.symm,List.eq_nil_of_length_eq_zero l2.symm] at he;simp only[eu,Option.some.injEq] at he;subst he;simp [Op.eqItems]
 |k+1,i,xv,yv,b,hx,hy,fx,fy,MI,MJ,he=>by
  rw[AQ] at fx fy;have l1:=fl fx;have l2:=fl fy;simp only[List.length_append,List.length_drop] at l1 l2;obtain⟨fx1,fx2⟩:=jW fx;obtain⟨fy1,fy2⟩:=jW fy;have hs:i*m.length+m.length=(i+1)*m.length:=by rw[Nat.add_mul,Nat.one_mul]
  rw[List.drop_drop,hs] at fx2 fy2;have hxs:xs.size=xv.length:=by have:=MI.1;simp at this;omega
  have hys:ys.size=yv.length:=by have:=MJ.1;simp at this;omega
  obtain⟨x,hx1,tL⟩:=jP hm xs (i*m.length) (by omega) w;obtain⟨y,hy1,Tz⟩:=jP hm ys (i*m.length) (by omega) w;rw[ij xv (i*m.length) m.length,ij yv (i*m.length) m.length] at he;obtain⟨u,v,h1,h2,rfl⟩:=lE _ _ (by simp;omega) he;have e1:=ih w _ _ _ _ x y u fx1 fy1 ((MI.drop _).take _) ((MJ.drop _).take _) h1 tL Tz;rw[hs] at h2;have e2:=BD ih hm xs ys w k (i+1) xv yv v (by omega) (by omega) fx2 fy2 MI MJ h2;rw[List.range'_succ];simp only[Op.eqItems,Sem.run_bind,hx1,hy1,e1,Result.andThen_ok];cases u
  ·simp
  ·simpa using e2
theorem vO {t:TypeId} {d:TypeDesc} {k:cj} {D:Nat} (hu:P.underlying t=some d) (ha:iP d=false) (hk:∀(w:World) (p q:V) (x y:Value) (b:Bool),p.av k=true→q.av k=true→VR ρ p x→VR ρ q y→eu [p] [q]=some b→(Op.equalIn D t x y).run P w=.ok b w):Q0 P ρ D t [k]:=by
 intro w xv yv xs ys x y b fx fy MI MJ he Wi hiy;obtain⟨dx,TA,hcx⟩:=Wi;obtain⟨dy,TB,hcy⟩:=hiy;rw[hu] at TA TB;cases TA;cases TB;rcases hcx with⟨h',_⟩|⟨_,rfl⟩
 ·rw[ha] at h';cases h'
 rcases hcy with⟨h',_⟩|⟨_,rfl⟩
 ·rw[ha] at h';cases h'
 match xv,yv,fx,fy with
 |[p],[q],fx,fy=>
  simp only[aI,Bool.and_true] at fx fy;exact hk w p q x y b fx fy (MI.2 0 p x rfl rfl) (MJ.2 0 q y rfl rfl) he
 |[],_,fx,_=>simp [aI] at fx
 |_::_::_,_,fx,_=>simp [aI] at fx
 |[_],[],_,fy=>simp [aI] at fy
 |[_],_::_::_,_,fy=>simp [aI] at fy
theorem Q1:∀(d:Nat) (t:TypeId) (ks:List cj),ll P d t=some ks→∀D,d≤D→Q0 P ρ D t ks:=by
 intro d
 induction d with
 |zero=>intro t ks h;cases h
 |succ d ih=>
  intro t ks h D hD;obtain⟨D,rfl⟩:∃D',D=D'+1:=⟨D-1,by omega⟩;unfold ll at h;split at h
  ·rename_i hu;simp only[Option.some.injEq] at h;subst h;refine vO hu rfl fun w p q x y b kp kq hp hq he=> ?_
   cases hp<;>simp [V.av] at kp
   cases hq<;>simp [V.av] at kq
   simp [eu] at he;simp [Op.equalIn,run_underlying hu,he]
  ·rename_i k hu;simp only[Option.some.injEq] at h;subst h;refine vO hu rfl fun w p q x y b kp kq hp hq he=> ?_
   cases hp<;>simp [V.av] at kp
   cases hq<;>simp [V.av] at kq
   subst kp;subst kq;simp [eu] at he;simp [Op.equalIn,run_underlying hu,he]
  ·rename_i hu;simp only[Option.some.injEq] at h;subst h;refine vO hu rfl fun w p q x y b kp kq hp hq he=> ?_
   cases hp<;>simp [V.av] at kp
   cases hq<;>simp [V.av] at kq
   simp [eu] at he;simp [Op.equalIn,run_underlying hu,he]
  ·rename_i fs hu;intro w xv yv xs ys x y b fx fy MI MJ he Wi hiy;cases hp:P.stoodInHeld t
   ·simp only[hp,cond_false] at h;split at h
    ·rename_i m hm
     have hmn:m=ks:=by
      by_cases hc:P.cellsOf t=m.length
      ·simpa [aW,hc] using h
      ·simp [aW,hc] at h
     subst hmn;obtain⟨dx,TA,hcx⟩:=Wi;obtain⟨dy,TB,hcy⟩:=hiy;rw[hu] at TA TB;cases TA;cases TB;rcases hcx with⟨_,rfl⟩|⟨h',_⟩
     ·rcases hcy with⟨_,rfl⟩|⟨h',_⟩
      ·have hf:P.fieldsOf t=fs:=by simp [Program.fieldsOf,hu]
       rw[run_equalIn_struct (P:=P) w D t _ _ (by rw[hf];exact hu) hp,hf];exact yw (fun t n h=>ih t n h D (by omega)) _ _ w fs.toList 0 m xv yv b hm (by omega) (by omega) (by simpa using fx) (by simpa using fy) (by simpa using MI) (by simpa using MJ) (by simpa using he)
      ·simp [iP] at h'
     ·simp [iP] at h'
    ·cases h
   ·simp [hp] at h
  ·rename_i k e hu;intro w xv yv xs ys x y b fx fy MI MJ he Wi hiy;split at h
   ·rename_i m hm
    have hc:P.cellsOf e=m.length∧ks=AQ k m:=by
     by_cases G2:P.cellsOf e=m.length
     ·by_cases Hl:P.cellsOf t=k*m.length
      ·simp only[aW,G2,Hl,decide_true,Bool.and_self,cond_true,Option.some.injEq] at h;exact⟨G2,h.symm⟩
      ·simp [aW,Hl] at h
     ·simp [aW,G2] at h
    obtain⟨G2,rfl⟩:=hc;obtain⟨dx,TA,hcx⟩:=Wi;obtain⟨dy,TB,hcy⟩:=hiy;rw[hu] at TA TB;cases TA;cases TB;rcases hcx with⟨_,rfl⟩|⟨h',_⟩
    ·rcases hcy with⟨_,rfl⟩|⟨h',_⟩
     ·obtain⟨De,SC,_⟩:=S5 hm;obtain⟨dj,hi⟩:=info_of_underlying SC;rw[run_equalIn_array w D _ _ hu hi,G2,List.range_eq_range'];exact BD (ih e m hm D (by omega)) hm _ _ w k 0 xv yv b (by omega) (by omega) (by simpa using fx) (by simpa using fy) (by simpa using MI) (by simpa using MJ) (by simpa using he)
     ·simp [iP] at h'
    ·simp [iP] at h'
   ·cases h
  ·cases h
end
section
variable {E:ku} {ρ lam:dC} {w:World}
theorem vP {t:TypeId} {k:cj} (h:bh E t=some k):∃d dj,E.P.underlying t=some d∧E.P.info? t=some dj∧cN (bo d)=some k∧iP d=false:=by
 unfold bh at h;split at h
 ·rename_i i hi;obtain⟨dj,d,h1,h2,h3,_⟩:=jO hi;exact⟨d,dj,h2,h1,by rw[h3];exact h,HB (by rw[h3];exact h)⟩
 ·cases h
theorem yx {t:TypeId} {ks:List cj} (h:od E t=some ks):∃d dj z,E.P.underlying t=some d∧E.P.info? t=some dj∧iP d=true∧dj.zero.bind lj=some (.agg z)∧ks=z.map V.cU:=by
 unfold od at h;split at h
 ·rename_i i hi;obtain⟨dj,d,h1,h2,h3,h4,h5,h6⟩:=jO hi;split at h
  ·rename_i n e z hs hz;simp only[Option.some.injEq] at h;refine⟨d,dj,z,h2,h1, ?_,by rw[h6,hz],h.symm⟩;rw[hs] at h3;cases d<;>simp_all [bo,iP]
  ·rename_i fs z hs hz;simp only[Option.some.injEq] at h;refine⟨d,dj,z,h2,h1, ?_,by rw[h6,hz],h.symm⟩;rw[hs] at h3;cases d<;>simp_all [bo,iP]
  ·cases h
 ·cases h
theorem Lb {t:TypeId} {n:Nat} (h:size E t=some n):∃dj,E.P.info? t=some dj∧dj.size=n:=by
 unfold size at h;split at h
 ·rename_i i hi;obtain⟨dj,d,h1,h2,h3,h4,h5,h6⟩:=jO hi;simp only[Option.some.injEq] at h;exact⟨dj,h1,by omega⟩
 ·cases h
theorem fo {t:TypeId} {n:Nat} (h:size E t=some n) (w:World):(sizeOf t).run E.P w=.ok n w:=by
 obtain⟨dj,h1,h2⟩:=Lb h;simp [sizeOf,typeInfo,h1,h2]
theorem kZ:∀{ks:List cj} {cs:List V} {l:List V} {j:Nat},aI ks cs=true→l.drop j=cs→n9 ks l j=cs
 |[],[],_,_,_,_=>rfl
 |[],_::_,_,_,h,_=>by simp [aI] at h
 |_::_,[],_,_,h,_=>by simp [aI] at h
 |k::ks,c::cs,l,j,h,hl=>by
  rw[aI,Bool.and_eq_true] at h
  have hj:j<l.length:=by
   rcases Nat.lt_or_ge j l.length with h|h
   ·exact h
   ·rw[List.drop_eq_nil_of_le h] at hl;cases hl
  have h0:ae l j=c:=by
   have h1:=qR hj
   have h2:l[j]? =some c:=by
    have:(l.drop j)[0]? =some c:=by rw[hl];rfl
    simpa using this
   rw[h1] at h2;exact Option.some.inj h2
  rw[n9,h0,V.sr h.1,kZ (j:=j+1) h.2 (by rw[←List.drop_drop,hl];rfl)]
theorem uh {v:V} (h:v.isAgg=true):v=.agg v.af:=by cases v<;>simp_all [V.isAgg,V.af]
theorem lF {t:TypeId} {v y:V} {r:Bool} (h:tQ E t v=some (r,y)) (hr:r=true):y=v:=by
 unfold tQ at h;split at h
 ·simp only[Option.some.injEq,Prod.mk.injEq] at h;rw[←h.2];exact V.sr (h.1.trans hr)
 ·split at h
  ·simp only[Option.some.injEq,Prod.mk.injEq] at h;have h1:=h.1.trans hr;rw[Bool.and_eq_true] at h1;rw[←h.2,kZ h1.2 rfl];exact(uh h1.1).symm
  ·cases h
theorem yy:∀{ts:List TypeId} {v:V} {j:Nat} {r:Bool} {l:List V},tT E ts v j=some (r,l)→r=true→v.ar.length=j+ts.length→l=v.ar.drop j
 |[],v,j,r,l,h,_,hl=>by
  simp only[tT,Option.some.injEq,Prod.mk.injEq] at h;rw[←h.2,List.drop_eq_nil_of_le (by simp at hl;omega)]
 |t::ts,v,j,r,l,h,hr,hl=>by
  simp only[tT] at h;split at h
  ·rename_i b x c l' h1 h2;simp only[Option.some.injEq,Prod.mk.injEq] at h;have hb:=h.1.trans hr;rw[Bool.and_eq_true] at hb;have e1:=lF h1 hb.1;have e2:=yy h2 hb.2 (by simp at hl;omega);have hj:j<v.ar.length:=by simp at hl;omega
   rw[←h.2,e1,e2];have:=qR hj;rw[List.getElem?_eq_getElem hj] at this;rw[List.drop_eq_getElem_cons hj, ←Option.some.inj this]
  ·cases h
theorem Nr {t:TypeId} {v y:V} {r:Bool} (h:tU E t v=some (r,y)) (hr:r=true):y=v:=by
 unfold tU at h;split at h
 ·split at h
  ·simp only[Option.some.injEq,Prod.mk.injEq] at h;exact h.2.symm
  ·split at h
   ·rename_i ts _ _ _ b l h1;simp only[Option.some.injEq,Prod.mk.injEq] at h;have hb:=h.1.trans hr;rw[Bool.and_eq_true] at hb
    have hv:v=.tuple v.ar∧v.ar.length=ts.length:=by
     cases v<;>simp_all [V.aL,V.ar]
    have:=yy h1 hb.2 (by omega);rw[←h.2,this,List.drop_zero];exact hv.1.symm
   ·cases h
  ·exact lF h hr
 ·cases h
theorem yz {t:TypeId} {cs:List V} {off:Nat} {r:Bool} {v:V} {cs':Array Value} (h:mR E t cs off=some (r,v)) (hr:r=true) (h1:bf cs) (hcs:eO ρ cs cs'.toList) (w:World):∃v',(part t cs' off).run E.P w=.ok v' w∧VR ρ v v':=by
 unfold mR at h;split at h
 ·rename_i k hk;obtain⟨d,dj,hu,hi,_,ha⟩:=vP hk;simp only[Option.some.injEq,Prod.mk.injEq] at h;have xk:=h.1.trans hr;rw[Bool.and_eq_true] at xk;have hlt:off<cs.length:=by simpa using xk.1
  obtain⟨y,hy,hv⟩:=hcs.nth hlt;refine⟨y, ?_,by rw[←h.2,V.sr xk.2];exact hv⟩;have hy':cs'[off]? =some y:=by simpa using hy
  simp [part,jB hu,ha,hy']
 ·split at h
  ·rename_i ks n hks hn;obtain⟨d,dj,z,hu,hi,ha,_⟩:=yx hks;simp only[Option.some.injEq,Prod.mk.injEq] at h;refine⟨.agg (cs'.extract off (off+n)), ?_, ?_⟩
   ·simp [part,jB hu,ha,fo hn]
   ·rw[←h.2];refine .vK (fun c hc=>h1 c (List.mem_of_mem_drop (List.mem_of_mem_take hc))) ?_;have:=(hcs.drop off).take n;simpa [List.extract_eq_take_drop] using this
  ·cases h
theorem Ns {op:BinOp} {k:IntKind} {x y:Int} {r:Bool} {v:V} (h:vG op k x y=some (r,v)) (hr:r=true) (t:TypeId):∃v',(binOp op t (.int k x) (.int k y)).run E.P w=.ok v' w∧VR ρ v v':=by
 subst hr
 cases op<;>simp only[vG,Option.some.injEq,Prod.mk.injEq] at h<;>obtain⟨h1,rfl⟩:=h<;>
  simp only[binOp,ne_eq,not_true,if_false,Op.intArith,Op.intCmp,Op.intBits,Op.intDiv,Op.shift]<;>
  first
   |exact⟨_,rfl,.int _ _⟩
   |exact⟨_,rfl,.bool _⟩
   |(have h1:¬y=0:=by simpa using h1
     rw[if_neg h1];exact⟨_,rfl,.int _ _⟩)
   |(have h1:¬y<0:=by simpa using h1
     rw[if_neg h1];exact⟨_,rfl,.int _ _⟩)
theorem yA {op:BinOp} (hop:op=.shl∨op=.shr) {k k':IntKind} {x y:Int} {r:Bool} {v:V} (h:vG op k x y=some (r,v)) (hr:r=true) (t:TypeId):∃v',(binOp op t (.int k x) (.int k' y)).run E.P w=.ok v' w∧VR ρ v v':=by
 subst hr
 rcases hop with rfl|rfl<;>simp only[vG,Option.some.injEq,Prod.mk.injEq] at h<;>obtain⟨h1,rfl⟩:=h<;>
  simp only[binOp,Op.shift]<;>
  (have h1:¬y<0:=by simpa using h1
   rw[if_neg h1];exact⟨_,rfl,.int _ _⟩)
theorem Q2:IntKind.i64.max=9223372036854775807:=by decide
theorem Nt {op:BinOp} {x y:ByteArray} {r:Bool} {v:V} (h:Hs op x y=some (r,v)) (hr:r=true) (t:TypeId):∃v',(binOp op t (.string x) (.string y)).run E.P w=.ok v' w∧VR ρ v v':=by
 subst hr
 cases op<;>simp only[Hs,Option.some.injEq,Prod.mk.injEq] at h<;>first
  |(cases h;done)
  |(obtain⟨h1,rfl⟩:=h
    simp only[binOp,Op.stringOp,mv]
    first
     |exact⟨_,rfl,.bool _⟩
     |(have h1:¬((x.size+y.size:Nat):Int)>IntKind.i64.max:=by rw[Q2];unfold Nf at h1;have:=Nat.le_of_ble_eq_true h1;omega
       rw[if_neg h1];exact⟨_,rfl,.cG _⟩))
theorem bM {t:TypeId} {k:cj} (h:bh E t=some k):∃d,E.P.underlying t=some d∧cN (bo d)=some k:=by
 obtain⟨d,_,h1,_,h2,_⟩:=vP h;exact⟨d,h1,h2⟩
set_option maxHeartbeats 2000000 in
theorem r8 {t:TypeId} {nils:Bool} {a b:V} {a' b':Value} {x y:Operand} {op:BinOp} {r q:Bool} (hc:nils=true→∃v,y=.const v)
 {D:Nat} (hD:50≤D+1) (ha:VR ρ a a') (hb:VR ρ b b') (h:iQ E t nils a b=some (r,q)) (hr:r=true):
 (eqGuard op t x y a' b').run E.P w=.ok () w∧(Op.equalIn (D+1) t a' b').run E.P w=.ok q w:=by
 subst hr;unfold iQ at h;split at h
 ·split at h
  ·rename_i hk;obtain⟨d,hu,hd⟩:=bM hk;simp only[Option.some.injEq,Prod.mk.injEq,true_and] at h;cases ha;cases hb;cases d<;>simp [bo,cN] at hd
   refine⟨by cases op<;>simp [eqGuard],by simp [Op.equalIn,run_underlying hu, ←h]⟩
  ·cases h
 ·split at h
  ·rename_i hk;obtain⟨d,hu,hd⟩:=bM hk;simp only[Option.some.injEq,Prod.mk.injEq,true_and] at h;cases hb;cases d<;>simp [bo,cN] at hd
   cases ha<;>exact⟨by cases op<;>simp [eqGuard],by simp [Op.equalIn,run_underlying hu, ←h]⟩
  ·cases h
 ·split at h
  ·rename_i hk;obtain⟨d,hu,hd⟩:=bM hk;simp only[Option.some.injEq,Prod.mk.injEq,true_and] at h;cases ha;cases d<;>simp [bo,cN] at hd
   cases hb<;>exact⟨by cases op<;>simp [eqGuard],by simp [Op.equalIn,run_underlying hu, ←h]⟩
  ·cases h
 ·split at h
  ·rename_i hk;obtain⟨d,hu,hd⟩:=bM hk;simp only[Option.some.injEq,Prod.mk.injEq,true_and] at h;cases hb;cases d<;>simp [bo,cN] at hd
   cases ha<;>exact⟨by cases op<;>simp [eqGuard],by simp [Op.equalIn,run_underlying hu, ←h]⟩
  ·cases h
 ·split at h
  ·rename_i hk;obtain⟨d,hu,hd⟩:=bM hk;simp only[Option.some.injEq,Prod.mk.injEq,true_and] at h;cases ha;cases d<;>simp [bo,cN] at hd
   cases hb<;>exact⟨by cases op<;>simp [eqGuard],by simp [Op.equalIn,run_underlying hu, ←h]⟩
  ·cases h
 ·split at h
  ·rename_i hk;obtain⟨d,hu,hd⟩:=bM hk;simp only[Option.some.injEq,Prod.mk.injEq,true_and] at h;cases hb;cases d<;>simp [bo,cN] at hd
   cases ha<;>exact⟨by cases op<;>simp [eqGuard],by simp [Op.equalIn,run_underlying hu, ←h]⟩
  ·cases h
 ·split at h
  ·rename_i hk;obtain⟨d,hu,hd⟩:=bM hk;simp only[Option.some.injEq,Prod.mk.injEq,true_and] at h;cases ha;cases d<;>simp [bo,cN] at hd
   cases hb<;>exact⟨by cases op<;>simp [eqGuard],by simp [Op.equalIn,run_underlying hu, ←h]⟩
  ·cases h
 ·rename_i xs ys;split at h
  ·rename_i ks b hk hb';simp only[Option.some.injEq,Prod.mk.injEq,Bool.and_eq_true,cO,hb'] at h;obtain⟨⟨h1,h2⟩,rfl⟩:=h;have hq:=E.eq_ok t ks hk;simp only[K3,Bool.and_eq_true,Bool.not_eq_true',decide_eq_true_eq] at hq;obtain⟨xs',rfl,hx,_⟩:=ha.ov;obtain⟨ys',rfl,hy,_⟩:=hb.ov;refine⟨run_eqGuard_agg w op t x y _ _ hq.1.1, ?_⟩;have key:=Q1 (P:=E.P) (ρ:=ρ) 50 t ks hq.1.2 (D+1) hD w xs ys xs'.toList ys'.toList (.agg xs') (.agg ys') b h1 h2 hx hy hb';have QL:=hq.2;split at QL
   ·rename_i d hu;exact key ⟨d,hu,.inl ⟨QL,by simp⟩⟩ ⟨d,hu,.inl ⟨QL,by simp⟩⟩
   ·cases QL
  ·cases h
 ·split at h
  ·rename_i hk;obtain⟨d,hu,hd⟩:=bM hk;simp only[Option.some.injEq,Prod.mk.injEq] at h;obtain⟨h1,h⟩:=h;cases hb;cases d<;>simp [bo,cN] at hd
   cases ha<;>simp [V.av] at h1<;>exact⟨by cases op<;>simp [eqGuard],by simp [Op.equalIn,run_underlying hu, ←h,V.nn]⟩
  ·cases h
 ·split at h
  ·rename_i hk;obtain⟨d,hu,hd⟩:=bM hk;simp only[Option.some.injEq,Prod.mk.injEq] at h;obtain⟨h1,h⟩:=h;cases ha;cases d<;>simp [bo,cN] at hd
   cases hb<;>simp [V.av] at h1<;>exact⟨by cases op<;>simp [eqGuard],by simp [Op.equalIn,run_underlying hu, ←h,V.nn]⟩
  ·cases h
 ·cases nils
  ·simp at h
  ·simp only[cond_true] at h;split at h
   ·rename_i hk;obtain⟨d,hu,hd⟩:=bM hk;obtain⟨c,rfl⟩:=hc rfl;simp only[Option.some.injEq,Prod.mk.injEq] at h;obtain⟨h1,h⟩:=h;cases hb;cases d<;>simp [bo,cN] at hd
    cases ha<;>simp [V.av] at h1<;>exact⟨by cases op<;>simp [eqGuard],by simp [Op.equalIn,run_underlying hu, ←h,V.fw]⟩
   ·cases h
 ·cases h
end
section
variable {E:ku} {ρ lam:dC} {w:World}
theorem sa {t:TypeId} {a b:Value} {q:Bool} (h:(Op.equalIn 10000 t a b).run E.P w=.ok q w) (hn:∀k n k' n',¬(a=.int k n∧b=.int k' n')) (hs:∀x y,¬(a=.string x∧b=.string y)) (hf:∀k x k' y,¬(a=.float k x∧b=.float k' y)) (hx:∀k x y k' x' y',¬(a=.complex k x y∧b=.complex k' x' y')):(binOp .eql t a b).run E.P w=.ok (.bool q) w∧(binOp .neq t a b).run E.P w=.ok (.bool (!q)) w:=by
 have he:(Op.equal t a b).run E.P w=.ok q w:=h
 cases a<;>cases b<;>first
  |exact(hn _ _ _ _ ⟨rfl,rfl⟩).elim
  |exact(hs _ _ ⟨rfl,rfl⟩).elim
  |exact(hf _ _ _ _ ⟨rfl,rfl⟩).elim
  |exact(hx _ _ _ _ _ _ ⟨rfl,rfl⟩).elim
  |(constructor<;>simp [binOp,he])
theorem ui {t:TypeId} {nils q:Bool} {a b:V} (h:iQ E t nils a b=some (true,q)):a≠ .cx∧b≠ .cx:=by
 constructor
 ·rintro rfl;cases b<;>simp only[iQ] at h<;>first|cases h|(split at h<;>first|cases h|(split at h<;>simp [V.av] at h)|simp [V.av] at h)|skip
  all_goals (revert h;cases nils<;>simp [V.av];try (split<;>simp))
 ·rintro rfl;cases a<;>simp only[iQ] at h<;>first|cases h|(split at h<;>first|cases h|simp [V.av] at h)|skip
theorem Lc {op:BinOp} {t:TypeId} {nils r:Bool} {a b v:V} {a' b':Value} {x y:Operand} (hc:nils=true→∃c,y=.const c) (ha:VR ρ a a') (hb:VR ρ b b') (h:CS E op t nils a b=some (r,v)) (hr:r=true):∃v',(eqGuard op t x y a' b').run E.P w=.ok () w∧(binOp op t a' b').run E.P w=.ok v' w∧VR ρ v v':=by
 unfold CS at h;split at h
 ·rename_i k n k' n';cases ha;cases hb;have hg:(eqGuard op t x y (.int k n) (.int k' n')).run E.P w=.ok () w:=by cases op<;>simp [eqGuard]
  split at h
  ·obtain⟨v',h1,h2⟩:=yA (w:=w) (ρ:=ρ) (.inl rfl) (k':=k') h hr t;exact⟨v',hg,h1,h2⟩
  ·obtain⟨v',h1,h2⟩:=yA (w:=w) (ρ:=ρ) (.inr rfl) (k':=k') h hr t;exact⟨v',hg,h1,h2⟩
  ·by_cases hk:k=k'
   ·subst hk;simp only[np,decide_true,cond_true] at h;obtain⟨v',h1,h2⟩:=Ns (w:=w) (ρ:=ρ) h hr t;exact⟨v',hg,h1,h2⟩
   ·simp [hk] at h
 ·rename_i s s';cases ha;cases hb;obtain⟨v',h1,h2⟩:=Nt (w:=w) (ρ:=ρ) h hr t;exact⟨v',by cases op<;>simp [eqGuard],h1,h2⟩
 ·rename_i h1 h2
  have hh:a≠ .cx∧b≠ .cx:=by
   split at h
   ·split at h
    ·rename_i r' q he;simp only[Option.some.injEq,Prod.mk.injEq] at h;exact ui (he.trans (by rw[h.1,hr]))
    ·cases h
   ·split at h
    ·rename_i r' q he;simp only[Option.some.injEq,Prod.mk.injEq] at h;exact ui (he.trans (by rw[h.1,hr]))
    ·cases h
   ·cases h
  have hn:∀k n k' n',¬(a'=.int k n∧b'=.int k' n'):=by
   rintro k n k' n' ⟨rfl,rfl⟩
   cases ha with
   |cx=>exact hh.1 rfl
   |int=>cases hb with
    |cx=>exact hh.2 rfl
    |int=>exact h1 _ _ _ _ rfl rfl
  have hs:∀x y,¬(a'=.string x∧b'=.string y):=by
   rintro x y ⟨rfl,rfl⟩
   cases ha with
   |cx=>exact hh.1 rfl
   |cG=>cases hb with
    |cx=>exact hh.2 rfl
    |cG=>exact h2 _ _ rfl rfl
  have hf:∀k x k' y,¬(a'=.float k x∧b'=.float k' y):=by
   rintro k x k' y ⟨rfl,rfl⟩
   cases ha with
   |cx=>exact hh.1 rfl
  have hx:∀k x y k' x' y',¬(a'=.complex k x y∧b'=.complex k' x' y'):=by
   rintro k x y k' x' y' ⟨rfl,rfl⟩
   cases ha with
   |cx=>exact hh.1 rfl
  split at h
  ·split at h
   ·rename_i r' q he;simp only[Option.some.injEq,Prod.mk.injEq] at h;obtain⟨rfl,rfl⟩:=h;obtain⟨hg,h3⟩:=r8 (w:=w) (x:=x) (op:=.eql) (D:=9999) hc (by omega) ha hb he hr;exact⟨.bool q,hg,(sa h3 hn hs hf hx).1,.bool _⟩
   ·cases h
  ·split at h
   ·rename_i r' q he;simp only[Option.some.injEq,Prod.mk.injEq] at h;obtain⟨rfl,rfl⟩:=h;obtain⟨hg,h3⟩:=r8 (w:=w) (x:=x) (op:=.neq) (D:=9999) hc (by omega) ha hb he hr;exact⟨.bool (!q),hg,(sa h3 hn hs hf hx).2,.bool _⟩
   ·cases h
  ·cases h
theorem Dh (c:Bool) (x y:Int):(bif c then x else y)=if c=true then x else y:=by cases c<;>rfl
theorem Nu {op:UnOp} {a v:V} {a':Value} (ha:VR ρ a a') (h:unV op a=some v):∃v',(Op.unary op a').run E.P w=.ok v' w∧VR ρ v v':=by
 unfold unV at h;split at h
 ·cases ha;simp only[Option.some.injEq] at h;subst h;exact⟨_,rfl,.bool _⟩
 ·cases ha;simp only[Option.some.injEq] at h;subst h;exact⟨_,rfl,.int _ _⟩
 ·cases ha;simp only[Option.some.injEq] at h;subst h;exact⟨_,rfl,by rw[Dh];exact .int _ _⟩
 ·cases h
theorem yB {t ft:TypeId} {f o:Nat} (h:tV E t f=some (o,ft)):∃fs fd,E.P.underlying t=some (.struct fs)∧fs[f]? =some fd∧fd.offset=o∧fd.type=ft:=by
 unfold tV at h;split at h
 ·rename_i i hi;obtain⟨dj,d,h1,h2,h3,_⟩:=jO hi;split at h
  ·rename_i fs hs;rw[hs] at h3;cases d<;>simp [bo] at h3
   rename_i fields;subst h3;simp only[List.getElem?_map,Option.map_eq_some_iff,Prod.mk.injEq] at h;obtain⟨fd,h4,h5,h6⟩:=h;exact⟨fields,fd,h2,by simpa using h4,h5,h6⟩
  ·cases h
 ·cases h
theorem sK {ev:Ev} {e:Operand→Value} (cW:pK ρ lam ev e) {x:Operand} {i:Int} (h:rU x ev=some i):∃k,e x=.int k i:=by
 unfold rU at h;split at h
 ·rename_i k j hx;simp only[Option.some.injEq] at h;subst h;exact⟨k,(cW.v hx).iv⟩
 ·cases h
theorem yC {k:IntKind} {i:Int} {y:Nat} {code:BoundsCode} (h0:0≤i) (h1:i≤(y:Int)) (w:World):(Instr.sliceBound (.int k i) y code).run E.P w=.ok i.toNat w:=by
 simp [Instr.sliceBound,asIntOf,h0,h1]
theorem oy {ev:Ev} {e:Operand→Value} (cW:pK ρ lam ev e) {isS:Bool} {len cap l h m:Nat} {lo hi mx:Option Operand} {r:Bool} (hb:gw ev len cap lo hi mx=some (r,l,h,m)) (hr:r=true) (w:World):(Instr.sliceBounds isS len cap (lo.map e) (hi.map e) (mx.map e)).run E.P w=.ok (l,h,m) w:=by
 unfold gw at hb;cases hq:(hi.isNone&&mx.isSome)
 ·simp only[hq,cond_false] at hb;split at hb
  ·rename_i m1 hm;split at hb
   ·rename_i h1 hh;split at hb
    ·rename_i l1 hl;simp only[Option.some.injEq,Prod.mk.injEq] at hb;obtain⟨CL,rfl,rfl,rfl⟩:=hb;rw[hr] at CL;simp only[Bool.and_eq_true] at CL;obtain⟨⟨r1,r2⟩,r3⟩:=CL
     have key:∀{x:Option Operand} {d most:Nat} {q:Bool×Nat},mS ev x d most=some q→q.1=true→
      (x=none∧q.2=d)∨∃y k i,x=some y∧e y=.int k i∧0≤i∧i≤(most:Int)∧q.2=i.toNat:=by
      intro x d most q hx hq;unfold mS at hx;split at hx
      ·simp only[Option.some.injEq] at hx;subst hx;exact .inl ⟨rfl,rfl⟩
      ·split at hx
       ·rename_i y _ i hy;simp only[Option.some.injEq] at hx;subst hx;simp only[Bool.and_eq_true,decide_eq_true_eq] at hq;obtain⟨k,hk⟩:=sK cW hy;exact .inr ⟨y,k,i,rfl,hk,hq.1,hq.2,rfl⟩
       ·cases hx
     unfold Instr.sliceBounds
     rcases key hm r1 with⟨rfl,e1⟩|⟨y1,k1,i1,rfl,he1,a1,b1,e1⟩<;>
      rcases key hh r2 with⟨rfl,e2⟩|⟨y2,k2,i2,rfl,SD,a2,b2,e2⟩<;>
       rcases key hl r3 with⟨rfl,e3⟩|⟨y3,k3,i3,rfl,he3,a3,b3,e3⟩<;>
        simp_all [yC]
    ·cases hb
   ·cases hb
  ·cases hb
 ·simp [hq] at hb
theorem Fi {x:Value} {v:V} (h:VR ρ v x):∀{cs:List V} {cs':List Value} {off:Nat},eO ρ cs cs'→eO ρ (yb cs 0 off v) (cs'.set off x):=by
 have key:∀(cs:List V) (cs':List Value) (j off:Nat),eO ρ cs cs'→eO ρ (yb cs j off v) (if off<j then cs' else cs'.set (off-j) x):=by
  intro cs
  induction cs with
  |nil=>intro cs' j off hc;rw[hc.gr];simpa [yb] using eO.nil ρ
  |cons c cs ih=>
   intro cs' j off hc;obtain⟨y,m,rfl,h1,h2⟩:=hc.di;have:=ih m (j+1) off h2;rw[yb,nq,aW];by_cases hlt:off<j
   ·rw[if_pos (by omega)] at this;rw[if_pos hlt,if_neg (by simp;omega)];exact .cons h1 this
   ·rw[if_neg hlt];by_cases he:j=off
    ·subst he;rw[if_pos (by omega)] at this;simp only[decide_true,if_true,Nat.sub_self,List.set_cons_zero];exact .cons h this
    ·rw[if_neg (by omega)] at this;obtain⟨q,hq⟩:∃q,off-j=q+1:=⟨off-j-1,by omega⟩;rw[hq,List.set_cons_succ,if_neg (by simp;omega)];rw[show off-(j+1)=q by omega] at this;exact .cons h1 this
 intro cs cs' off hc;have:=key cs cs' 0 off hc;simpa using this
end
section
variable {E:ku} {ρ lam:dC} {w:World}
theorem AU {y:Operand} (h:sA y=true):∃v,y=.const v:=by
 cases y with
 |const v=>exact⟨v,rfl⟩
 |_=>simp [sA] at h
theorem dH {t:TypeId} {i:TI} (h:E.ti t=some i):∃d,E.P.underlying t=some d∧bo d=i.sh:=by
 obtain⟨dj,d,_,h2,h3,_⟩:=jO h;exact⟨d,h2,h3⟩
theorem uj {d:TypeDesc} {n e:Nat} (h:bo d=.arr n e):d=.array n e:=by cases d<;>simp_all [bo]
theorem iw {d:TypeDesc} {e:Nat} (h:bo d=.slice e):d=.slice e:=by cases d<;>simp_all [bo]
theorem Fj {d:TypeDesc} (h:bo d=.cG):d=.string:=by cases d<;>simp_all [bo]
theorem Fk {d:TypeDesc} {fs:List (Nat×TypeId)} (h:bo d=.struct fs):∃f,d=.struct f∧fs=f.toList.map fun f=>(f.offset,f.type):=by
 cases d<;>simp_all [bo]
theorem ga (b o n:Nat):(⟨b,o,none⟩:Addr).add n=⟨b,o+n,none⟩:=by unfold Addr.add;split<;>simp_all
def gu (E:ku) (ρ lam:dC) (w:World) (o:Oper) (e:Operand→Value) (x:T):Prop:=
 ∃v,(execOp e o).run E.P w=.ok (.value v) w∧TR ρ lam x v
theorem Fl {p:Oq} (h:p.isSome=true):p=some ((p.getD (0,0)).1,(p.getD (0,0)).2):=by
 cases p with
 |none=>cases h
 |some q=>rfl
variable {dst:Option Tmp} {type:TypeId} {jo:String} {after:Array Edge} {guard:Option (Nat×Bool)} {ev:Ev} {e:Operand→Value} {d:fR T}
theorem Ld {x:Operand} (cW:pK ρ lam ev e) (h:bd E (.move x) ev=some d):gu E ρ lam w ⟨dst,.move x,type,jo,after,guard⟩ e (if d.c=true then d.x else d.y):=by
 simp only[bd] at h;split at h
 ·rename_i y hy;simp only[Option.some.injEq] at h;subst h;exact⟨e x,rfl,cW x y hy⟩
 ·cases h
theorem Fm {x:Operand} (cW:pK ρ lam ev e) (h:bd E (.assign x) ev=some d):gu E ρ lam w ⟨dst,.assign x,type,jo,after,guard⟩ e (if d.c=true then d.x else d.y):=by
 simp only[bd] at h;split at h
 ·rename_i y hy;simp only[Option.some.injEq] at h;subst h;exact⟨e x,rfl,cW x y hy⟩
 ·cases h
theorem Le {c a b:Operand} (cW:pK ρ lam ev e) (h:bd E (.pick c a b) ev=some d):gu E ρ lam w ⟨dst,.pick c a b,type,jo,after,guard⟩ e (if d.c=true then d.x else d.y):=by
 simp only[bd] at h;split at h
 ·rename_i t hc;have tG:=(cW.tv hc).Df;have hrun:(execOp e ⟨dst,.pick c a b,type,jo,after,guard⟩).run E.P w=.ok (.value (if t=true then e a else e b)) w:=by simp [execOp,asBool,tG]
  split at h
  ·rename_i x y ha hb;simp only[Option.some.injEq] at h;subst h;refine⟨_,hrun, ?_⟩;simp only[fR.one,if_true];cases t
   ·exact .v (cW.tv hb)
   ·exact .v (cW.tv ha)
  ·cases t with
   |true=>
    simp only[] at h;split at h
    ·rename_i y hy;simp only[Option.some.injEq] at h;subst h;exact⟨_,hrun,cW _ _ hy⟩
    ·cases h
   |false=>
    simp only[] at h;split at h
    ·rename_i y hy;simp only[Option.some.injEq] at h;subst h;exact⟨_,hrun,cW _ _ hy⟩
    ·cases h
 ·cases h
theorem TZ {op:BinOp} {t:TypeId} {nils:Bool} {a b:V} {r:Bool} {v:V} (h:TX E op t nils a b=some (r,v)) (hr:r=true):CS E op t nils a b=some (r,v):=by
 unfold TX at h;split at h
 ·split at h
  ·have key:∀{r x},Jb E t a=some (r,x)→r=true→iQ E t true a .nilIface=some (r,x):=by
    intro r x he hr;unfold Jb at he;split at he
    ·rename_i hk;simp only[Option.some.injEq,Prod.mk.injEq] at he;obtain⟨rfl,rfl⟩:=he;cases a<;>simp_all [V.av,iQ]
    ·cases he
   split at h
   ·split at h
    ·rename_i r' b' he;simp only[Option.some.injEq,Prod.mk.injEq] at h;obtain⟨rfl,rfl⟩:=h;have:=key he hr;cases a<;>simp_all [CS]
    ·cases h
   ·split at h
    ·rename_i r' b' he;simp only[Option.some.injEq,Prod.mk.injEq] at h;obtain⟨rfl,rfl⟩:=h;have:=key he hr;cases a<;>simp_all [CS]
    ·cases h
   ·cases h
  ·exact h
 ·have key:∀{r x},CT E t a=some (r,x)→iQ E t nils a .nilFunc=some (r,x):=by
   intro r x he;unfold CT at he;split at he
   ·rename_i hk;cases a<;>simp_all [V.av,iQ]
   ·cases he
  split at h
  ·split at h
   ·rename_i r' b' he;simp only[Option.some.injEq,Prod.mk.injEq] at h;obtain⟨rfl,rfl⟩:=h;have:=key he;cases a<;>simp_all [CS]
   ·cases h
  ·split at h
   ·rename_i r' b' he;simp only[Option.some.injEq,Prod.mk.injEq] at h;obtain⟨rfl,rfl⟩:=h;have:=key he;cases a<;>simp_all [CS]
   ·cases h
  ·cases h
 ·exact h
theorem Nv {op:BinOp} {t yt:TypeId} {x y:Operand} (cW:pK ρ lam ev e) (h:bd E (.binOp op t x y yt) ev=some d) (hr:d.rq=true):gu E ρ lam w ⟨dst,.binOp op t x y yt,type,jo,after,guard⟩ e (if d.c=true then d.x else d.y):=by
 simp only[bd] at h;split at h
 ·rename_i a b ha hb;unfold Bv at h;split at h
  ·rename_i r v hv;simp only[Option.some.injEq] at h;subst h;obtain⟨v',h1,h2,h3⟩:=Lc (w:=w) (x:=x) AU (cW.v ha) (cW.v hb) (TZ hv hr) hr;exact⟨v',by simp [execOp,h1,h2],.v h3⟩
  ·cases h
 ·cases h
theorem Q3 {op:UnOp} {t:TypeId} {x:Operand} (cW:pK ρ lam ev e) (h:bd E (.unOp op t x) ev=some d):gu E ρ lam w ⟨dst,.unOp op t x,type,jo,after,guard⟩ e (if d.c=true then d.x else d.y):=by
 simp only[bd] at h;split at h
 ·rename_i a ha;split at h
  ·rename_i v hv;simp only[Option.some.injEq] at h;subst h;obtain⟨v',h1,h2⟩:=Nu (E:=E) (w:=w) (cW.v ha) hv;exact⟨v',by simp [execOp,h1],.v h2⟩
  ·cases h
 ·cases h
theorem Di {s t:TypeId} {x:Operand} (cW:pK ρ lam ev e) (h:bd E (.convert s t x) ev=some d):gu E ρ lam w ⟨dst,.convert s t x,type,jo,after,guard⟩ e (if d.c=true then d.x else d.y):=by
 simp only[bd] at h;split at h
 ·rename_i ti k k' n nk hk hx;obtain⟨ds,hds,_⟩:=dH nk;obtain⟨dt,hu,hd⟩:=bM hk;simp only[Option.some.injEq] at h;subst h;cases dt<;>simp [bo,cN] at hd
  subst hd;refine⟨_, ?_,.v (.int _ _)⟩;simp [execOp,convert,run_underlying hds,run_underlying hu,(cW.v hx).iv,Conv.intToInt]
 ·rename_i ti s' nk hk hx;obtain⟨ds,hds,_⟩:=dH nk;obtain⟨dt,hu,hd⟩:=bM hk;simp only[Option.some.injEq] at h;subst h;cases dt<;>simp [bo,cN] at hd
  exact⟨.string s',by simp [execOp,convert,run_underlying hds,run_underlying hu,(cW.v hx).vL],.v (.cG _)⟩
 ·rename_i ti k' n nk hk hx;obtain⟨ds,hds,_⟩:=dH nk;obtain⟨dt,hu,hd⟩:=bM hk;simp only[Option.some.injEq] at h;subst h;cases dt<;>simp [bo,cN] at hd
  exact⟨.string (Utf8.encode n),by simp [execOp,convert,run_underlying hds,run_underlying hu,(cW.v hx).iv,Conv.intToString],.v (.cG _)⟩
 ·cases h
theorem AV {x:Operand} (cW:pK ρ lam ev e) (h:bd E (.nilCheck x) ev=some d) (hr:d.rq=true):gu E ρ lam w ⟨dst,.nilCheck x,type,jo,after,guard⟩ e (if d.c=true then d.x else d.y):=by
 simp only[bd] at h;split at h
 ·rename_i p hp;simp only[Option.some.injEq] at h;subst h;have:=Fl (p:=p) hr;rw[this] at hp;obtain⟨b,hb,he⟩:=(cW.tv hp).vM;exact⟨.pointer (some ⟨b,(p.getD (0,0)).2,none⟩),by simp [execOp,he],.v (.aj hb)⟩
 ·rename_i s off hx;simp only[Option.some.injEq] at h;subst h;obtain⟨b,hb,he⟩:=cW.lp hx;exact⟨.pointer (some ⟨b,off,none⟩),by simp [execOp,he],.lp hb⟩
 ·cases h
theorem yD {t:TypeId} {x:Operand} {f:Nat} (cW:pK ρ lam ev e) (h:bd E (.fieldAddr t x f) ev=some d):gu E ρ lam w ⟨dst,.fieldAddr t x f,type,jo,after,guard⟩ e (if d.c=true then d.x else d.y):=by
 simp only[bd] at h;split at h
 ·rename_i o ft hf;obtain⟨fs,fd,hu,Hm,ho,hft⟩:=yB hf;split at h
  ·rename_i n hn;cases hz:sB n
   ·simp [hz] at h
   ·simp only[hz,cond_true] at h;have hn0:¬n=0:=by rintro rfl;simp [sB] at hz
    have key:∀b off,(Instr.fieldAt t (.pointer (some ⟨b,off,none⟩)) f).run E.P w=.ok (.pointer (some ⟨b,off+o,none⟩)) w:=by
     intro b off;simp [Instr.fieldAt,run_underlying hu,Hm,Instr.sureAddr,fieldPlace,hft,fo hn,hn0,ga,ho]
    split at h
    ·rename_i id off hx;simp only[Option.some.injEq] at h;subst h;obtain⟨b,hb,he⟩:=(cW.tv hx).vM;exact⟨.pointer (some ⟨b,off+o,none⟩),by simp [execOp,he,key],.v (.aj hb)⟩
    ·rename_i s off hx;simp only[Option.some.injEq] at h;subst h;obtain⟨b,hb,he⟩:=cW.lp hx;exact⟨.pointer (some ⟨b,off+o,none⟩),by simp [execOp,he,key],.lp hb⟩
    ·cases h
  ·cases h
 ·cases h
theorem HC {t:TypeId} {x:Operand} {f:Nat} (cW:pK ρ lam ev e) (h:bd E (.field t x f) ev=some d) (hr:d.rq=true):gu E ρ lam w ⟨dst,.field t x f,type,jo,after,guard⟩ e (if d.c=true then d.x else d.y):=by
 simp only[bd] at h;split at h
 ·rename_i o ft cs hf hx;obtain⟨fs,fd,hu,Hm,ho,hft⟩:=yB hf;unfold Bv at h;split at h
  ·rename_i r v hv;simp only[Option.some.injEq] at h;subst h;obtain⟨cs',he,hcs,h1c⟩:=(cW.v hx).ov;obtain⟨v',h1,h2⟩:=yz hv hr h1c hcs w;exact⟨v',by simp [execOp,Instr.field,run_underlying hu,Hm,he,asAgg,ho,hft,h1],.v h2⟩
  ·cases h
 ·cases h
theorem yE {t:TypeId} {x i:Operand} (cW:pK ρ lam ev e) (h:bd E (.indexAddr t x i) ev=some d) (hr:d.rq=true):gu E ρ lam w ⟨dst,.indexAddr t x i,type,jo,after,guard⟩ e (if d.c=true then d.x else d.y):=by
 simp only[bd] at h;split at h
 ·rename_i n ti hn nk;obtain⟨k,hi⟩:=sK cW hn;obtain⟨dt,hu,hd⟩:=dH nk;split at h
  ·rename_i len el hs;rw[hs] at hd;cases uj hd;split at h
   ·rename_i sz id off hsz hx;simp only[Option.some.injEq] at h;subst h;simp only[fR.one,Bool.and_eq_true,decide_eq_true_eq] at hr;obtain⟨b,hb,he⟩:=(cW.tv hx).vM;exact⟨.pointer (some ⟨b,off+n.toNat*sz,none⟩),by simp [execOp,Instr.indexAt,hi,asIntOf,run_underlying hu,he,Instr.sureAddr,hr,fo hsz,ga],.v (.aj hb)⟩
   ·rename_i sz s off hsz hx;simp only[Option.some.injEq] at h;subst h;simp only[fR.one,Bool.and_eq_true,decide_eq_true_eq] at hr;obtain⟨b,hb,he⟩:=cW.lp hx;exact⟨.pointer (some ⟨b,off+n.toNat*sz,none⟩),by simp [execOp,Instr.indexAt,hi,asIntOf,run_underlying hu,he,Instr.sureAddr,hr,fo hsz,ga],.lp hb⟩
   ·cases h
  ·rename_i el hs;rw[hs] at hd;cases iw hd;split at h
   ·rename_i sz p len _ hsz hx;simp only[Option.some.injEq] at h;subst h;simp only[fR.one,Bool.and_eq_true,decide_eq_true_eq] at hr;rw[Fl hr.2] at hx;rcases (cW.tv hx).fk with⟨b,hb,he⟩|⟨h0,_,_⟩;rotate_left
    ·omega
    exact⟨.pointer (some ⟨b,(p.getD (0,0)).2+n.toNat*sz,none⟩),by simp [execOp,Instr.indexAt,hi,asIntOf,run_underlying hu,he,hr.1,fo hsz,ga],.v (.aj hb)⟩
   ·cases h
  ·cases h
 ·cases h
theorem HD {t:TypeId} {x i:Operand} (cW:pK ρ lam ev e) (h:bd E (.index t x i) ev=some d) (hr:d.rq=true):gu E ρ lam w ⟨dst,.index t x i,type,jo,after,guard⟩ e (if d.c=true then d.x else d.y):=by
 simp only[bd] at h;split at h
 ·rename_i n ti v hn nk hx;obtain⟨k,hi⟩:=sK cW hn;obtain⟨dt,hu,hd⟩:=dH nk;split at h
  ·rename_i len el cs hs;rw[hs] at hd;cases uj hd;split at h
   ·rename_i sz hsz;split at h
    ·rename_i r y hp;simp only[Option.some.injEq] at h;subst h;simp only[fR.one,Bool.and_eq_true,decide_eq_true_eq] at hr;obtain⟨cs',he,hcs,h1c⟩:=(cW.v hx).ov;obtain⟨v',h1,h2⟩:=yz hp hr.2 h1c hcs w;exact⟨v',by simp [execOp,Instr.index,hi,asIntOf,run_underlying hu,he,hr.1,fo hsz,h1],.v h2⟩
    ·cases h
   ·cases h
  ·rename_i s hs;rw[hs] at hd;cases Fj hd;simp only[Option.some.injEq] at h;subst h;simp only[fR.one,Bool.and_eq_true,decide_eq_true_eq] at hr;have hlt:n.toNat<s.size:=by omega
   refine⟨.int .u8 s[n.toNat].toNat, ?_, ?_⟩
   ·simp [execOp,Instr.index,hi,asIntOf,run_underlying hu,(cW.v hx).vL,hr.1,getElem?_pos s n.toNat hlt]
   ·have:Ht s n.toNat=(s[n.toNat].toNat:Int):=by
     have hl:n.toNat<s.data.toList.length:=by simpa using hlt
     simp only[Ht,List.getD_eq_getElem?_getD,List.getElem?_eq_getElem hl,Option.getD_some];rfl
    simp only[if_true,fR.one,this];exact .v (.int _ _)
  ·cases h
 ·cases h
end
section
variable {E:ku} {ρ lam:dC} {w:World}
variable {dst:Option Tmp} {type:TypeId} {jo:String} {after:Array Edge} {guard:Option (Nat×Bool)} {ev:Ev} {e:Operand→Value} {d:fR T}
theorem oz {p:Oq} {len cap:Nat} {x:Value} (h:VR ρ (.slice p len cap) x):∃a:Option Addr,x=.slice a len cap∧∀n l c,(len=0→cap=0→l=0∧c=0)→VR ρ (.slice (bP p n) l c) (.slice (a.map (·.add n)) l c)∧VR ρ (.slice p l c) (.slice a l c):=by
 cases p with
 |none=>exact⟨none,h.lC,fun n l c _=>⟨.nB l c,.nB l c⟩⟩
 |some q=>
  obtain⟨id,off⟩:=q;rcases h.fk with⟨b,hb,hx⟩|⟨h0,h1,a,hx⟩
  ·exact⟨_,hx,fun n l c _=>⟨by simp only[bP,Option.map_some,ga];exact .slice l c hb,.slice l c hb⟩⟩
  ·subst h0 h1;refine⟨_,hx,fun n l c hz=> ?_⟩;obtain⟨rfl,rfl⟩:=hz rfl rfl;exact⟨.pJ _ _,.pJ _ _⟩
theorem Fo {ev:Ev} {lo hi mx:Option Operand} {r:Bool} {l h m:Nat} (hb:gw ev 0 0 lo hi mx=some (r,l,h,m)) (hr:r=true):h-l=0∧m-l=0:=by
 unfold gw at hb;cases hq:(hi.isNone&&mx.isSome)
 ·simp only[hq,cond_false] at hb;split at hb
  ·rename_i m1 hm;split at hb
   ·rename_i h1 hh;split at hb
    ·rename_i l1 hl;simp only[Option.some.injEq,Prod.mk.injEq] at hb;obtain⟨CL,rfl,rfl,rfl⟩:=hb;rw[hr] at CL;simp only[Bool.and_eq_true] at CL
     have key:∀{x:Option Operand} {d most:Nat} {q:Bool×Nat},mS ev x d most=some q→q.1=true→q.2=d∨q.2≤most:=by
      intro x d most q hx hq;unfold mS at hx;split at hx
      ·simp only[Option.some.injEq] at hx;subst hx;exact .inl rfl
      ·split at hx
       ·simp only[Option.some.injEq] at hx;subst hx;simp only[Bool.and_eq_true,decide_eq_true_eq] at hq;exact .inr (by simp only;omega)
       ·cases hx
     have k1:=key hm CL.1.1;have k2:=key hh CL.1.2;omega
    ·cases hb
   ·cases hb
  ·cases hb
 ·simp [hq] at hb
theorem HE {t:TypeId} {x:Operand} {lo hi mx:Option Operand} (cW:pK ρ lam ev e) (h:bd E (.slice t x lo hi mx) ev=some d) (hr:d.rq=true):gu E ρ lam w ⟨dst,.slice t x lo hi mx,type,jo,after,guard⟩ e (if d.c=true then d.x else d.y):=by
 simp only[bd] at h;split at h
 ·rename_i ti s nk hx;obtain⟨dt,hu,hd⟩:=dH nk;split at h
  ·rename_i hs;rw[hs] at hd;cases Fj hd;split at h
   ·rename_i r l hh m hb;simp only[Option.some.injEq] at h;subst h;have hb':=oy (E:=E) (isS:=false) cW hb hr w;simp only[Option.map_none] at hb';exact⟨.string (s.extract l hh),by simp [execOp,Instr.sliceAt,Instr.slice,run_underlying hu,(cW.tv hx).vL,hb'],.v (.cG _)⟩
   ·cases h
  ·cases h
 ·rename_i ti p len cap nk hx;obtain⟨dt,hu,hd⟩:=dH nk;split at h
  ·rename_i el hs;rw[hs] at hd;cases iw hd;split at h
   ·rename_i r l hh m sz hb hsz;simp only[Option.some.injEq] at h;subst h;simp only[fR.one,Bool.and_eq_true] at hr;have hle:=Nat.le_of_ble_eq_true hr.2;have hb':=oy (E:=E) (isS:=true) cW hb hr.1 w;obtain⟨a,he,hv⟩:=oz (cW.tv hx);obtain⟨h1,h2⟩:=hv (l*sz) (hh-l) (m-l) (fun h0 h1=>by subst h0 h1;exact Fo hb hr.1);refine⟨.slice (if m=l then a else a.map (·.add (l*sz))) (hh-l) (m-l),by simp [execOp,Instr.sliceAt,Instr.slice,run_underlying hu,he,hb',fo hsz], ?_⟩;simp only[fR.one,if_true];by_cases hml:m=l
    ·rw[if_pos hml];have e1:hh-l=0:=by omega
     have e2:m-l=0:=by omega
     rw[e1,e2] at h2⊢
     cases p with
     |none=>exact .v h2
     |some q=>
      obtain⟨id,off⟩:=q
      cases a with
      |none=>cases h2
      |some a=>exact .v (.pJ _ _)
    ·rw[if_neg hml];exact .v h1
   ·cases h
  ·cases h
 ·rename_i ti id off nk hx;obtain⟨dt,hu,hd⟩:=dH nk;split at h
  ·rename_i n el hs;rw[hs] at hd;cases uj hd;split at h
   ·rename_i r l hh m sz hb hsz;simp only[Option.some.injEq] at h;subst h;simp only[fR.one,Bool.and_eq_true] at hr;have hle:=Nat.le_of_ble_eq_true hr.2;have hb':=oy (E:=E) (isS:=false) cW hb hr.1 w;obtain⟨b,Bp,he⟩:=(cW.tv hx).vM;refine⟨.slice (some (if m=l then ⟨b,off,none⟩ else ⟨b,off+l*sz,none⟩)) (hh-l) (m-l),by simp [execOp,Instr.sliceAt,run_underlying hu,he,Instr.sureAddr,hb',fo hsz,ga], ?_⟩;simp only[fR.one,if_true];by_cases hml:m=l
    ·have e1:hh-l=0:=by omega
     have e2:m-l=0:=by omega
     rw[e1,e2];exact .v (.pJ _ _)
    ·rw[if_neg hml];exact .v (.slice _ _ Bp)
   ·cases h
  ·cases h
 ·cases h
theorem sL {t:TypeId} {x:Operand} (cW:pK ρ lam ev e) (h:bd E (.makeInterface t x) ev=some d):gu E ρ lam w ⟨dst,.makeInterface t x,type,jo,after,guard⟩ e (if d.c=true then d.x else d.y):=by
 simp only[bd] at h;split at h
 ·cases h
 ·rename_i v hx hk;split at h
  ·rename_i ti nk;simp only[Option.some.injEq] at h;subst h;obtain⟨dt,hu,hd⟩:=dH nk
   have hni:∀ms,dt≠ .interface ms:=by
    rintro ms rfl;apply hk;simp [bh,nk, ←hd,bo,cN]
   refine⟨.iface t (e x), ?_,.v (.iface t (cW.v hx))⟩;cases dt<;>simp [execOp,Instr.makeInterface,run_underlying hu]
   exact(hni _ rfl).elim
  ·cases h
 ·cases h
theorem AW {f:Fn} {first dG:Array Operand} (cW:pK ρ lam ev e) (h:bd E (.makeFunc f first dG) ev=some d):gu E ρ lam w ⟨dst,.makeFunc f first dG,type,jo,after,guard⟩ e (if d.c=true then d.x else d.y):=by
 cases f with
 |func f=>
  simp only[bd] at h;split at h
  ·rename_i hf;split at h
   ·rename_i cs hc;simp only[Option.some.injEq] at h;subst h;have h1:first= #[]:=by apply Array.ext';simpa using hf
    refine⟨.func (.func f) #[] (dG.map e),by simp [execOp,Instr.makeFunc,h1],.v (.Je ?_)⟩;simpa using cW.vs hc
   ·cases h
  ·rename_i x l hf hcap;split at h
   ·rename_i cs hc;simp only[Option.some.injEq] at h;subst h;have h1:dG= #[]:=by apply Array.ext';simpa using hcap
    refine⟨.func (.func f) (first.map e) #[],by simp [execOp,Instr.makeFunc,h1],.v (.QZ ?_)⟩;rw[Array.toList_map,hf];exact cW.vs hc
   ·cases h
  ·cases h
 |_=>simp [bd] at h
theorem Dj {x:Operand} {i:Nat} (cW:pK ρ lam ev e) (h:bd E (.extract x i) ev=some d):gu E ρ lam w ⟨dst,.extract x i,type,jo,after,guard⟩ e (if d.c=true then d.x else d.y):=by
 simp only[bd] at h;split at h
 ·rename_i vs hx;split at h
  ·rename_i v hv;simp only[Option.some.injEq] at h;subst h;obtain⟨vs',he,hvs⟩:=(cW.v hx).K9
   have hlt:i<vs.length:=by
    rcases Nat.lt_or_ge i vs.length with h|h
    ·exact h
    ·rw[List.getElem?_eq_none h] at hv;cases hv
   have hlt':i<vs'.size:=by have:=hvs.1;simp at this;omega
   refine⟨vs'[i],by simp [execOp,Instr.extract,he,Array.getElem?_eq_getElem hlt'],.v (hvs.2 i _ _ hv ?_)⟩;simp [Array.getElem?_eq_getElem hlt']
  ·cases h
 ·cases h
theorem xm {x:Operand} {xt t:TypeId} {ok:Bool} (cW:pK ρ lam ev e) (h:bd E (.typeAssert x xt t ok) ev=some d) (hr:d.rq=true):gu E ρ lam w ⟨dst,.typeAssert x xt t ok,type,jo,after,guard⟩ e (if d.c=true then d.x else d.y):=by
 simp only[bd] at h;split at h
 ·rename_i v ti hx nk;obtain⟨dj,dt,hi,hu,hd,_,_,hz⟩:=jO nk;split at h
  ·cases h
  ·rename_i hni;split at h
   ·rename_i r y z hy KS;rw[KS] at hz;obtain⟨z',EG,ya⟩:=Option.bind_eq_some_iff.1 hz;have hzero:(zeroValue t).run E.P w=.ok z' w:=by simp [zeroValue,typeInfo,hi,EG]
    have hint:∀ms,dt≠ .interface ms:=by
     rintro ms rfl;exact hni (by rw[←hd];rfl)
    have hv:=cW.v hx
    have key:v.av .iface=true→(v.fw=true∧v=.nilIface)∨∃t' u,v=.iface t' u:=by
     intro hk;cases v<;>simp_all [V.av,V.fw]
    cases ok with
    |true=>
     simp only[Option.some.injEq] at h;subst h;simp only[Bool.and_eq_true,Bool.or_eq_true,Bool.not_eq_true'] at hr;rcases key hr.1 with⟨_,rfl⟩|⟨t',u,rfl⟩
     ·have he:e x=.nilIface:=by generalize e x=q at hv;cases hv;rfl
      refine⟨.tuple #[z',.bool false], ?_, ?_⟩
      ·cases dt<;>first|(exact(hint _ rfl).elim)|simp [execOp,Instr.typeAssert,run_underlying hu,he,hzero]
      ·simp only[V.fw,Bool.not_true,Bool.false_and,Bool.false_eq_true,if_false];exact .v (.gE (.cons (iC ya) (.cons (.bool _) (.nil ρ))))
     ·obtain⟨u',he,hu'⟩:∃u',e x=.iface t' u'∧VR ρ u u':=by generalize e x=q at hv;cases hv with|iface _ h=>exact⟨_,rfl,h⟩
      by_cases ht:t'=t
      ·subst ht;have xG:r=true:=by simpa [V.fw,V.CR,Nat.beq_refl] using hr.2
       have:=lF hy xG;refine⟨.tuple #[u',.bool true], ?_, ?_⟩
       ·cases dt<;>first|(exact(hint _ rfl).elim)|simp [execOp,Instr.typeAssert,run_underlying hu,he]
       ·simp only[V.fw,V.CR,Nat.beq_refl,Bool.not_false,Bool.true_and,if_true,this,V.Nb];exact .v (.gE (.cons hu' (.cons (.bool _) (.nil ρ))))
      ·have hb:Nat.beq t' t=false:=by rw[aW];simpa using ht
       refine⟨.tuple #[z',.bool false], ?_, ?_⟩
       ·cases dt<;>first|(exact(hint _ rfl).elim)|simp [execOp,Instr.typeAssert,run_underlying hu,he,ht,hzero]
       ·simp only[V.fw,V.CR,hb,Bool.and_false,Bool.false_eq_true,if_false];exact .v (.gE (.cons (iC ya) (.cons (.bool _) (.nil ρ))))
    |false=>
     simp only[Option.some.injEq] at h;subst h;simp only[fR.one,Bool.and_eq_true,Bool.not_eq_true'] at hr;rcases key hr.1.1 with⟨h1,rfl⟩|⟨t',u,rfl⟩
     ·rw[hr.1.2.1] at h1;cases h1
     ·obtain⟨u',he,hu'⟩:∃u',e x=.iface t' u'∧VR ρ u u':=by generalize e x=q at hv;cases hv with|iface _ h=>exact⟨_,rfl,h⟩
      have ht:t'=t:=Nat.eq_of_beq_eq_true hr.1.2.2;subst ht;have:=lF hy hr.2;refine⟨u', ?_, ?_⟩
      ·cases dt<;>first|(exact(hint _ rfl).elim)|simp [execOp,Instr.typeAssert,run_underlying hu,he]
      ·simp only[fR.one,if_true,this,V.Nb];exact .v hu'
   ·cases h
 ·cases h
theorem Lf {c:Call} (cW:pK ρ lam ev e) (h:bd E (.call c) ev=some d):gu E ρ lam w ⟨dst,.call c,type,jo,after,guard⟩ e (if d.c=true then d.x else d.y):=by
 simp only[bd] at h;split at h
 ·rename_i b hb;split at h
  ·rename_i vs t hvs ht0;have ht:c.argTypes[0]? =some t:=by simpa using ht0
   have G3:=cW.vs hvs;obtain⟨aS,has⟩:∃aS,c.args.toList.map e=aS:=⟨_,rfl⟩;rw[has] at G3;have hargs:c.args.map e=aS.toArray:=by apply Array.ext';simp [has]
   have hrun:∀v,(∀con,(builtin b c.argTypes type con aS.toArray).run E.P w=.ok (.value v) w)→(execOp e ⟨dst,.call c,type,jo,after,guard⟩).run E.P w=.ok (.value v) w:=by
    intro v hv;simp [execOp,resolve,hb,invoke,hargs,hv]
   unfold EZ at h;split at h
   ·split at h
    ·rename_i s _ hk;obtain⟨dt,hu,hd⟩:=bM hk;simp only[Option.some.injEq] at h;subst h;obtain⟨y,m,rfl,h1,h2⟩:=G3.di;have:=h2.gr;subst this;cases dt<;>simp [bo,cN] at hd
     exact⟨.int .i64 (s.size:Int),hrun _ fun con=>by simp [builtin,Builtin.len_,ht,run_underlying hu,h1.vL,goInt],.v (.int _ _)⟩
    ·cases h
   ·split at h
    ·rename_i p n cp _ hk;obtain⟨dt,hu,hd⟩:=bM hk;simp only[Option.some.injEq] at h;subst h;obtain⟨y,m,rfl,h1,h2⟩:=G3.di;have:=h2.gr;subst this;obtain⟨a,rfl,_⟩:=oz h1;cases dt<;>simp [bo,cN] at hd
     exact⟨.int .i64 (n:Int),hrun _ fun con=>by simp [builtin,Builtin.len_,ht,run_underlying hu,goInt],.v (.int _ _)⟩
    ·cases h
   ·split at h
    ·rename_i p n cp _ hk;obtain⟨dt,hu,hd⟩:=bM hk;simp only[Option.some.injEq] at h;subst h;obtain⟨y,m,rfl,h1,h2⟩:=G3.di;have:=h2.gr;subst this;obtain⟨a,rfl,_⟩:=oz h1;cases dt<;>simp [bo,cN] at hd
     exact⟨.int .i64 (cp:Int),hrun _ fun con=>by simp [builtin,Builtin.cap_,ht,run_underlying hu,goInt],.v (.int _ _)⟩
    ·cases h
   ·split at h
    ·rename_i v hv;simp only[Option.some.injEq] at h;subst h;unfold xL at hv;split at hv
     ·simp only[Option.some.injEq] at hv;subst hv;obtain⟨y,m,rfl,h1,h2⟩:=G3.di;have:=h2.gr;subst this;exact⟨y,hrun _ fun con=>by simp [builtin,Builtin.min_],.v h1⟩
     ·rename_i k x k' y;by_cases hk:k=k'
      ·simp only[hk,np,decide_true,cond_true,cond_false,Option.some.injEq] at hv;subst hv;obtain⟨p,m,rfl,h1,h2⟩:=G3.di;obtain⟨q,m,rfl,h3,h4⟩:=h2.di;have:=h4.gr;subst this;refine⟨.int k' (if y<x then y else x),hrun _ fun con=>by simp [builtin,Builtin.min_,h1.iv,h3.iv,Builtin.min2,hk],.v ?_⟩;rw[Dh];simpa using VR.int k' _
      ·simp [hk] at hv
     ·cases hv
    ·cases h
   ·split at h
    ·rename_i v hv;simp only[Option.some.injEq] at h;subst h;unfold xL at hv;split at hv
     ·simp only[Option.some.injEq] at hv;subst hv;obtain⟨y,m,rfl,h1,h2⟩:=G3.di;have:=h2.gr;subst this;exact⟨y,hrun _ fun con=>by simp [builtin,Builtin.max_],.v h1⟩
     ·rename_i k x k' y;by_cases hk:k=k'
      ·simp only[hk,np,decide_true,cond_true,cond_false,Option.some.injEq] at hv;subst hv;obtain⟨p,m,rfl,h1,h2⟩:=G3.di;obtain⟨q,m,rfl,h3,h4⟩:=h2.di;have:=h4.gr;subst this;refine⟨.int k' (if y>x then y else x),hrun _ fun con=>by simp [builtin,Builtin.max_,h1.iv,h3.iv,Builtin.max2,hk],.v ?_⟩;rw[Dh];simpa using VR.int k' _
      ·simp [hk] at hv
     ·cases hv
    ·cases h
   ·cases h
  ·cases h
 ·cases h
end
def iX:List Value→Nat→List Value→List Value
 |cs,_,[]=>cs
 |cs,off,v::vs=>iX (cs.set off v) (off+1) vs
theorem pL {ρ:dC}:∀{vs:List V} {us:List Value} {cs:List V} {cs':List Value} {off:Nat},eO ρ vs us→eO ρ cs cs'→eO ρ (bI cs off vs) (iX cs' off us)
 |[],us,cs,cs',off,h,hc=>by rw[h.gr];exact hc
 |v::vs,us,cs,cs',off,h,hc=>by
  obtain⟨u,m,rfl,h1,h2⟩:=h.di;have:=pL (off:=off+1) h2 (Fi (off:=off) h1 hc);exact this
theorem o4:∀(us:List Value) (cs:List Value) (off:Nat),(iX cs off us).length=cs.length
 |[],_,_=>rfl
 |u::us,cs,off=>by rw[iX,o4 us];simp
theorem BE (off:Nat):∀(us:List Value) (k:Nat) (cells:Array Value),((us.zipIdx k).foldl (fun(cs:Array Value) (p:Value×Nat)=>cs.setIfInBounds (off+p.2) p.1) cells).toList=iX cells.toList (off+k) us
 |[],_,_=>rfl
 |u::us,k,cells=>by
  rw[List.zipIdx_cons,List.foldl_cons,BE off us (k+1),iX];simp [Nat.add_assoc]
theorem HF (off:Nat) (us cells:Array Value):(us.zipIdx.foldl (fun(cs:Array Value) (p:Value×Nat)=>cs.setIfInBounds (off+p.2) p.1) cells).toList=iX cells.toList off us.toList:=by
 rw[←Array.foldl_toList];have:=BE off us.toList 0 cells;simpa using this
section
variable {E:ku} {ρ lam:dC} {w:World}
theorem Fp {v:V} (hv:v.one=true):∀{cs:List V} {j n:Nat},bf cs→bf (yb cs j n v)
 |[],_,_,h=>h
 |c::cs,j,n,h=>by
  intro x hx;rw[yb,nq] at hx;rcases List.mem_cons.1 hx with rfl|hx
  ·split
   ·exact hv
   ·exact h c (List.mem_cons_self ..)
  ·exact Fp hv (fun y hy=>h y (List.mem_cons_of_mem _ hy)) x hx
theorem mA:∀{vs cs:List V} {off:Nat},bf vs→bf cs→bf (bI cs off vs)
 |[],_,_,_,h=>h
 |v::vs,cs,off,hv,h=>by
  have:=mA (vs:=vs) (off:=off+1) (fun y hy=>hv y (List.mem_cons_of_mem _ hy)) (Fp (n:=off) (j:=0) (hv v (List.mem_cons_self ..)) h);exact this
theorem iY {t:TypeId} {v:V} {x:Value} {r:Bool} {vs:List V} (hv:VR ρ v x) (h:hJ E t v=some (r,vs)) (hr:r=true):eO ρ vs x.cells.toList∧bf vs:=by
 unfold hJ at h;split at h
 ·cases h
 ·rename_i n hn;split at h
  ·rename_i k hk;cases hb:Nat.beq n 1
   ·simp [hb] at h
   ·simp only[hb,cond_true,Option.some.injEq,Prod.mk.injEq] at h;obtain⟨h1,rfl⟩:=h;have h1:=V.ss (h1.trans hr);have h2:v.cells=[v]:=by cases v<;>first|rfl|simp [V.one] at h1
    refine⟨h2▸hv.cells (fun e=>by rw[e] at h1;cases h1),fun c hc=> ?_⟩;simp only[List.mem_singleton] at hc;subst hc;exact h1
  ·split at h
   ·split at h
    ·simp only[Option.some.injEq,Prod.mk.injEq] at h;obtain⟨h1,rfl⟩:=h;obtain⟨cs',rfl,h2,h3⟩:=hv.ov;exact⟨h2,h3⟩
    ·cases h
   ·cases h
theorem AX {t:TypeId} {v:V} {r:Bool} {vs:List V} (h:hJ E t v=some (r,vs)) (hr:r=true):size E t=some vs.length:=by
 unfold hJ at h;split at h
 ·cases h
 ·rename_i n hn;rw[hn];split at h
  ·cases hb:Nat.beq n 1
   ·simp [hb] at h
   ·simp only[hb,cond_true,Option.some.injEq,Prod.mk.injEq] at h;rw[←h.2,Nat.eq_of_beq_eq_true hb];rfl
  ·split at h
   ·split at h
    ·simp only[Option.some.injEq,Prod.mk.injEq] at h;rw[←h.2,Nat.eq_of_beq_eq_true (h.1.trans hr)]
    ·cases h
   ·cases h
theorem oA {place:Nat→Option (Nat×TypeId)} {place':Nat→Oq} (aan:∀i off t n,place i=some (off,t)→size E t=some n→place' i=some (off,n)):∀{ps:List (Nat×V)} {ps':List (Nat×Value)} {cs out:List V} {cs':Array Value} {r:Bool},ps.map (·.1)=ps'.map (·.1)→eO ρ (ps.map (·.2)) (ps'.map (·.2))→eO ρ cs cs'.toList→bf cs→qL E place cs ps=some (r,out)→r=true→∃out',Instr.fill place' cs' ps'=some out'∧eO ρ out out'.toList∧bf out
 |[],ps',cs,out,cs',r,h1,h2,hc,ho,h,hr=>by
  cases ps' with
  |nil=>simp only[qL,Option.some.injEq,Prod.mk.injEq] at h;obtain⟨_,rfl⟩:=h;exact⟨cs',rfl,hc,ho⟩
  |cons p l=>simp at h1
 |(i,v)::ps,ps',cs,out,cs',r,h1,h2,hc,ho,h,hr=>by
  cases ps' with
  |nil=>simp at h1
  |cons p l=>
   obtain⟨j,u⟩:=p;simp only[List.map_cons,List.cons.injEq] at h1 h2;obtain⟨rfl,h1⟩:=h1;obtain⟨u',m,he,hu,hm⟩:=h2.di;simp only[List.cons.injEq] at he;obtain⟨rfl,rfl⟩:=he;simp only[qL] at h;split at h
   ·cases h
   ·rename_i off t At;split at h
    ·rename_i r1 vs n Wj hsz;cases hb:(Nat.beq vs.length n&&Nat.ble (off+n) cs.length)
     ·simp [hb] at h
     ·simp only[hb,cond_true] at h;split at h
      ·rename_i r2 cs2 n5;simp only[Option.some.injEq,Prod.mk.injEq] at h;obtain⟨CL,rfl⟩:=h;rw[hr,Bool.and_eq_true] at CL;rw[Bool.and_eq_true] at hb;have Au:vs.length=n:=Nat.eq_of_beq_eq_true hb.1;have nh:off+n≤cs.length:=Nat.le_of_ble_eq_true hb.2;obtain⟨hvs,hone⟩:=iY hu Wj CL.1;have rM:u.cells.size=n:=by have:=hvs.1;simp at this;omega
       have hcs:cs'.size=cs.length:=by have:=hc.1;simp at this;omega
       obtain⟨out',h3,h4,h5⟩:=oA aan (cs':=u.cells.zipIdx.foldl (fun(cs:Array Value) (p:Value×Nat)=>cs.setIfInBounds (off+p.2) p.1) cs') h1 hm
        (by rw[HF];exact pL hvs hc) (mA hone ho) n5 CL.2
       refine⟨out', ?_,h4,h5⟩;simp only[Instr.fill,aan _ _ _ _ At hsz];rw[if_neg (by simp [rM,hcs];omega)];exact h3
      ·cases h
    ·cases h
theorem mX {ev:Ev} {e:Operand→Value} (cW:pK ρ lam ev e):∀{l:List (Nat×Operand)} {ps:List (Nat×V)},kL ev l=some ps→ps.map (·.1)=(l.map fun p=>(p.1,e p.2)).map (·.1)∧eO ρ (ps.map (·.2)) ((l.map fun p=>(p.1,e p.2)).map (·.2))
 |[],ps,h=>by simp only[kL,Option.some.injEq] at h;subst h;exact⟨rfl,.nil ρ⟩
 |(i,x)::l,ps,h=>by
  simp only[kL] at h;split at h
  ·rename_i y m hy hm;simp only[Option.some.injEq] at h;subst h;obtain⟨h1,h2⟩:=mX cW hm;exact⟨by simp [h1],.cons (cW.v hy) h2⟩
  ·cases h
theorem wS {w:World}:∀{l:List Field},tW E (l.map fun f=>(f.offset,f.type))=true→(l.mapM fun f=>(do pure (f.offset, ←sizeOf f.type):Sem (Nat×Nat))).run E.P w=.ok (l.map fun f=>(f.offset,(size E f.type).getD 0)) w
 |[],h=>by simp
 |f::l,h=>by
  simp only[List.map_cons,tW,Bool.and_eq_true] at h;obtain⟨n,hn⟩:=Option.isSome_iff_exists.1 h.1;have ih:=wS (w:=w) h.2;simp only[List.mapM_cons,Sem.run_bind,fo hn,Result.andThen_ok,Sem.run_pure,ih,hn,List.map_cons,Option.getD_some]
variable {dst:Option Tmp} {type:TypeId} {jo:String} {after:Array Edge} {guard:Option (Nat×Bool)} {ev:Ev} {e:Operand→Value} {d:fR T}
theorem HG {t:TypeId} {parts:Array (Nat×Operand)} (cW:pK ρ lam ev e) (h:bd E (.build t parts) ev=some d) (hr:d.rq=true):gu E ρ lam w ⟨dst,.build t parts,type,jo,after,guard⟩ e (if d.c=true then d.x else d.y):=by
 simp only[bd] at h;split at h
 ·rename_i ti pl ps nk At hps;obtain⟨dj,dt,hi,hu,hd,_,_,hz⟩:=jO nk;split at h
  ·rename_i z KS;rw[KS] at hz;obtain⟨z',EG,ya⟩:=Option.bind_eq_some_iff.1 hz;have hzero:(zeroValue t).run E.P w=.ok z' w:=by simp [zeroValue,typeInfo,hi,EG]
   obtain⟨zc,rfl,MK,aao⟩:=(iC (ρ:=ρ) ya).ov;split at h
   ·rename_i r cs hcs;simp only[Option.some.injEq] at h;subst h;obtain⟨h1,h2⟩:=mX cW hps;have EH:(parts.map fun p=>(p.1,e p.2)).toList=parts.toList.map fun p=>(p.1,e p.2):=by simp
    unfold E0 at At;rw[nk] at At;simp only[] at At;split at At
    ·rename_i fs hs;rw[hs] at hd;obtain⟨f,rfl,rfl⟩:=Fk hd;cases hok:tW E (f.toList.map fun f=>(f.offset,f.type))
     ·simp [hok] at At
     ·simp only[hok,cond_true,Option.some.injEq] at At;subst At
      obtain⟨out',h3,h4,h5⟩:=oA (place':=fun j=>(f.toList.map fun f=>(f.offset,(size E f.type).getD 0))[j]?) (by
       intro i off t n hp hn;simp only[List.getElem?_map,Option.map_eq_some_iff,Prod.mk.injEq] at hp⊢;obtain⟨fd,h1,h2,h3⟩:=hp
       exact⟨fd,h1,h2,by rw[h3,hn];rfl⟩) h1 h2 MK aao hcs hr
      refine⟨.agg out', ?_,.v (.vK h5 h4)⟩;have hm:=wS (E:=E) (w:=w) hok
      have hm':(f.mapM fun f=>(do pure (f.offset, ←sizeOf f.type):Sem (Nat×Nat))).run E.P w=.ok (f.toList.map fun f=>(f.offset,(size E f.type).getD 0)).toArray w:=by
       rw[←Array.toArray_toList (xs:=f),List.mapM_toArray];simp only[Sem.run_map,hm,Result.andThen_ok]
      have TC:Instr.fill (fun x=>(f.toList.map fun f=>(f.offset,(size E f.type).getD 0)).toArray[x]?) zc (parts.map fun p=>(p.1,e p.2)).toList=some out':=by
       rw[EH, ←h3];congr 1;funext x;simp
      simp only[Instr.build,execOp,Sem.run_bind,hzero,Result.andThen_ok,run_underlying hu,hm',Value.cells];simp only[TC,Sem.run_pure,Result.andThen_ok]
    ·rename_i n el hs;rw[hs] at hd;cases uj hd;split at At
     ·rename_i sz hsz;simp only[Option.some.injEq] at At;subst At
      obtain⟨out',h3,h4,h5⟩:=oA (place':=fun j=>some (j*sz,sz)) (by
       intro i off t n hp hn;simp only[Option.some.injEq,Prod.mk.injEq] at hp⊢;obtain⟨h1,rfl⟩:=hp;rw[hsz] at hn
       exact⟨h1,Option.some.inj hn⟩) h1 h2 MK aao hcs hr
      refine⟨.agg out', ?_,.v (.vK h5 h4)⟩;rw[←EH] at h3;simp only[Instr.build,execOp,Sem.run_bind,hzero,Result.andThen_ok,run_underlying hu,fo hsz,Value.cells];simp only[h3,Sem.run_pure,Result.andThen_ok]
     ·cases At
    ·cases At
   ·cases h
  ·cases h
 ·cases h
theorem Dk {o:Oper} (cW:pK ρ lam ev e) (h:bd E o.op ev=some d) (hr:d.rq=true):∃v,(execOp e o).run E.P w=.ok (.value v) w∧TR ρ lam (if d.c=true then d.x else d.y) v:=by
 obtain⟨dst,op,type,jo,after,guard⟩:=o
 cases op with
 |move x=>exact Ld cW h
 |assign x=>exact Fm cW h
 |pick c a b=>exact Le cW h
 |binOp op t x y yt=>exact Nv cW h hr
 |unOp op t x=>exact Q3 cW h
 |convert s t x=>exact Di cW h
 |nilCheck x=>exact AV cW h hr
 |fieldAddr t x f=>exact yD cW h
 |field t x f=>exact HC cW h hr
 |indexAddr t x i=>exact yE cW h hr
 |index t x i=>exact HD cW h hr
 |slice t x lo hi mx=>exact HE cW h hr
 |makeInterface t x=>exact sL cW h
 |makeFunc f first dG=>exact AW cW h
 |extract x i=>exact Dj cW h
 |build t parts=>exact HG cW h hr
 |typeAssert x xt t ok=>exact xm cW h hr
 |call c=>exact Lf cW h
 |_=>simp [bd] at h
end
theorem gb:∀{ks:List cj} {cs:List V},aI ks cs=true→bf cs
 |[],[],_=>fun v hv=>by cases hv
 |k::ks,v::vs,h=>by
  simp only[aI,Bool.and_eq_true] at h;intro x hx;rcases List.mem_cons.1 hx with rfl|hx
  ·exact V.ss h.1
  ·exact gb h.2 x hx
 |[],_::_,h=>by cases h
 |_::_,[],h=>by cases h
structure pf (b:Nat) (w w':World):Prop where
 mu:∀b',b'≠b→w'.heap[b']? =w.heap[b']?
 size:w'.heap.size=w.heap.size
 os:w'.os=w.os
 tape:w'.tape=w.tape
 output:w'.output=w.output
theorem pf.refl (b:Nat) (w:World):pf b w w:=⟨fun _ _=>rfl,rfl,rfl,rfl,rfl⟩
theorem pf.trans {b:Nat} {x y z:World} (h:pf b x y) (k:pf b y z):pf b x z:=
 ⟨fun b' hb=>(k.mu b' hb).trans (h.mu b' hb),k.size.trans h.size,k.os.trans h.os,k.tape.trans h.tape,k.output.trans h.output⟩
theorem Dl (w:World) (b o:Nat) (v:Value):pf b w (w.setCell ⟨b,o,none⟩ v) where
 mu:=fun b' hb=>by simp only[World.setCell,Array.getElem?_modify];rw[if_neg (fun e=>hb e.symm)]
 size:=by simp [World.setCell]
 os:=rfl
 tape:=rfl
 output:=rfl
theorem Dm {w:World} {b:Nat} {cs:Array Value} {e:TypeId} {fz:Nat×Nat} (h:w.heap[b]? =some (.cells cs e fz)) (o:Nat) (v:Value):(w.setCell ⟨b,o,none⟩ v).heap[b]? =some (.cells (cs.setIfInBounds o v) e fz):=by
 simp [World.setCell,Array.getElem?_modify,h]
theorem sb:∀(vs:List Value) {w:World} {b:Nat} {cs:Array Value} {e:TypeId} {fz:Nat×Nat} (o:Nat),w.heap[b]? =some (.cells cs e fz)→∃cs',(w.setCells b o vs).heap[b]? =some (.cells cs' e fz)∧cs'.toList=iX cs.toList o vs∧pf b w (w.setCells b o vs)
 |[],w,b,cs,e,fz,o,h=>⟨cs,h,rfl,.refl b w⟩
 |v::vs,w,b,cs,e,fz,o,h=>by
  obtain⟨cs',h1,h2,h3⟩:=sb vs (o+1) (Dm h o v);refine⟨cs',h1, ?_,(Dl w b o v).trans h3⟩;rw[h2,iX];simp
theorem qS {w:World} {b:Nat} {cs:Array Value} {e:TypeId} {fz:Nat×Nat} (h:w.heap[b]? =some (.cells cs e fz)) (o:Nat):w.cell? ⟨b,o,none⟩=cs[o]? :=by
 simp [World.cell?,h]
theorem Lg {w:World} {b:Nat} {cs:Array Value} {e:TypeId} {fz:Nat×Nat} (h:w.heap[b]? =some (.cells cs e fz)) (o:Nat):w.frozen? ⟨b,o,none⟩=(decide (fz.1≤o)&&decide (o<fz.2)):=by
 simp [World.frozen?,h]
section
variable {E:ku} {ρ lam:dC} {w:World}
theorem sM {P:Program} {t:TypeId} {d:TypeDesc} (hu:P.underlying t=some d) (ha:iP d=false) {a:Addr} {x:Value} (h:w.cell? a=some x):(loadVar t a).run P w=.ok x w:=by
 simp [loadVar,jB hu,ha,h]
theorem oB {t e:TypeId} {cs:List V} {off b:Nat} {r rw:Bool} {v:V} (hc:fT ρ e cs rw w.heap[b]?) (h:mR E t cs off=some (r,v)) (hr:r=true) (ho:∀cs',v=.agg cs'→rw=true∨bf cs'):∃v',(loadVar t ⟨b,off,none⟩).run E.P w=.ok v' w∧VR ρ v v':=by
 obtain⟨cs',fz,hb,hvs,hone,_⟩:=hc;unfold mR at h;split at h
 ·rename_i k hk;obtain⟨d,dj,hu,hi,_,ha⟩:=vP hk;simp only[Option.some.injEq,Prod.mk.injEq] at h;have xk:=h.1.trans hr;rw[Bool.and_eq_true] at xk;have hlt:off<cs.length:=by simpa using xk.1
  obtain⟨y,hy,hv⟩:=hvs.nth hlt;exact⟨y,sM hu ha (by rw[qS hb];simpa using hy),by rw[←h.2,V.sr xk.2];exact hv⟩
 ·split at h
  ·rename_i ks n hks hn;obtain⟨d,dj,z,hu,hi,ha,_⟩:=yx hks;simp only[Option.some.injEq,Prod.mk.injEq] at h;have hle:off+n≤cs.length:=Nat.le_of_ble_eq_true (h.1.trans hr);have hlen:cs'.size=cs.length:=by have:=hvs.1;simp at this;omega
   have hrun:=run_loadCells_list (P:=E.P) w ⟨b,off,none⟩ ((cs'.toList.drop off).take n) (by
    intro j v hv;rw[ga,qS hb];rw[List.getElem?_take] at hv;split at hv
    ·rw[List.getElem?_drop] at hv;simpa using hv
    ·cases hv)
   have hl:((cs'.toList.drop off).take n).length=n:=by simp;omega
   rw[hl] at hrun;refine⟨.agg ((cs'.toList.drop off).take n).toArray,by simp [loadVar,jB hu,ha,fo hn,hrun], ?_⟩;rw[←h.2];have hp:bf ((cs.drop off).take n):=(ho _ h.2.symm).elim (fun hrw c hc=>hone hrw c (List.mem_of_mem_drop (List.mem_of_mem_take hc))) id;exact .vK hp (by simpa using (hvs.drop off).take n)
  ·cases h
theorem eO.aaW {l:List V} {m:List Value} (h:eO ρ l m) (h1:bf l):∀v∈m,v.oneCell'=true:=by
 intro v hv;obtain⟨i,hi,rfl⟩:=List.getElem_of_mem hv;have hi':i<l.length:=by have:=h.1;omega
 exact(h.2 i l[i] m[i] (List.getElem?_eq_getElem hi') (List.getElem?_eq_getElem hi)).one (h1 _ (List.getElem_mem hi'))
theorem mB {e:TypeId} {cs vs:List V} {xs:List Value} {off b:Nat} (hc:fT ρ e cs true w.heap[b]?) (h1:eO ρ vs xs) (h2:bf vs) (hle:off+vs.length≤cs.length):∃w',(storeCells ⟨b,off,none⟩ xs).run E.P w=.ok () w'∧fT ρ e (bI cs off vs) true w'.heap[b]? ∧pf b w w':=by
 obtain⟨cs',fz,hb,hvs,hone,hfz⟩:=hc;have hlen:cs'.size=cs.length:=by have:=hvs.1;simp at this;omega
 have hxl:xs.length=vs.length:=h1.1.symm
 have hst:=run_storeCells_cells (P:=E.P) b off xs 0 w (by
  intro j hj
  rw[qS hb,Array.getElem?_eq_getElem (by omega)];rfl) (by
  intro j hj;rw[Lg hb];have:=hfz rfl;simp only[Bool.and_eq_false_iff,decide_eq_false_iff_not]
  omega) (h1.aaW h2)
 obtain⟨cs2,h3,h4,h5⟩:=sb xs (off+0) hb;refine⟨_, ?_,⟨cs2,fz,h3, ?_,fun _=>mA h2 (hone rfl), ?_⟩,h5⟩
 ·simpa using hst
 ·rw[h4];exact pL h1 hvs
 ·intro _
  have hsz:cs2.size=cs'.size:=by
   have:=congrArg List.length h4;rw[o4] at this;simpa using this
  rw[hsz];exact hfz rfl
theorem wU {t e:TypeId} {cs:List V} {off b:Nat} {r:Bool} {v:V} {x:Value} {vs:List V} (hc:fT ρ e cs true w.heap[b]?) (hv:VR ρ v x) (h:hJ E t v=some (r,vs)) (hr:r=true) (hle:off+vs.length≤cs.length):∃w',(storeVar t ⟨b,off,none⟩ x).run E.P w=.ok () w'∧fT ρ e (bI cs off vs) true w'.heap[b]? ∧pf b w w':=by
 obtain⟨h1,h2⟩:=iY hv h hr;have hn:=AX h hr;have hxl:x.cells.size=vs.length:=by have:=h1.1;simp at this;omega
 obtain⟨w',h3,h4,h5⟩:=mB (E:=E) hc h1 h2 hle;exact⟨w',by simp [storeVar,fo hn,hxl,h3],h4,h5⟩
end
section
variable {E:ku} {H0:ag} {ρ0:dC} {w0:World} {ann:bO} {N:Nat} {ρ lam:dC} {S:St} {a:Act} {w:World}
theorem Nx {t d:Nat} {v:Value} (a:Act):(a.put (some d) v).tmps.getD t undef=if d=t∧d<a.tmps.size then v else a.tmps.getD t undef:=by
 simp only[Act.put,Array.getD_eq_getD_getElem?,Array.getElem?_setIfInBounds];by_cases h:d=t
 ·subst h;by_cases h2:d<a.tmps.size
  ·simp [h2]
  ·simp [h2]
 ·simp [h]
theorem SR.put (h:SR H0 ρ0 w0 ann N ρ lam S a w) {dst:Option Tmp} {x:T} {v:Value} (hx:TR ρ lam x v) (hok:K6 ann N dst x):SR H0 ρ0 w0 ann N ρ lam (gT dst x S) (a.put dst v) w:=by
 cases dst with
 |none=>exact h
 |some d=>
  obtain⟨h1,h2⟩:=hok d rfl;have hd:d<a.tmps.size:=by rw[h.size];simpa using h1
  refine⟨h.defers,by simp [Act.put,h.size], ?_, ?_,h.lo,h.ug,h.hr,h.bW⟩
  ·intro t y hy;rw[Nx];simp only[gT,St.setT,aW] at hy;by_cases ht:t=d
   ·simp only[ht,decide_true,cond_true,Option.some.injEq] at hy;subst hy;rw[if_pos ⟨ht.symm,hd⟩];exact hx
   ·simp only[ht,decide_false,cond_false] at hy;rw[if_neg (fun e=>ht e.1.symm)];exact h.tm t y hy
  ·intro t s off hy;simp only[gT,St.setT,aW] at hy;by_cases ht:t=d
   ·simp only[ht,decide_true,cond_true,Option.some.injEq] at hy;rw[ht];exact h2 s off hy
   ·simp only[ht,decide_false,cond_false] at hy;exact h.La t s off hy
theorem HR.only {b:Nat} {w':World} {H:ag} (h:HR ρ H w) (ho:pf b w w') (hb:¬iW H ρ b):HR ρ H w' where
 wR:=fun id o hid=>by
  obtain⟨b',h1,h2⟩:=h.wR id o hid;refine⟨b',h1, ?_⟩;rw[ho.mu b' (fun e=>hb (e▸⟨id,o,hid,h1⟩))];exact h2
 inj:=h.inj
 lt:=fun id b' hid=>by rw[ho.size];exact h.lt id b' hid
 gl:=h.gl
theorem SR.setL (h:SR H0 ρ0 w0 ann N ρ lam S a w) {s b:Nat} {L L':aR} {w':World} (hs:S.lo s=some L) (hl:lam s=some b) (ho:pf b w w') (hL:vN ρ L' w'.heap[b]?):SR H0 ρ0 w0 ann N ρ lam (S.setL s L') a w':=by
 obtain⟨b',hb',_,hlt,hge,TD⟩:=h.lo s L hs;rw[hl] at hb';cases hb';refine⟨h.defers,h.size,h.tm,h.La, ?_, ?_,h.hr.only ho TD, ?_⟩
 ·intro s' M hM;simp only[St.setL,aW] at hM;by_cases he:s'=s
  ·simp only[he,decide_true,cond_true,Option.some.injEq] at hM;subst hM;exact⟨b,by rw[he];exact hl,hL,by rw[ho.size];exact hlt,hge,TD⟩
  ·simp only[he,decide_false,cond_false] at hM;obtain⟨b2,h1,h2,h3,h4,h5⟩:=h.lo s' M hM;have hne:b2≠b:=fun e=>he (h.ug s' s M L b hM hs (e▸h1) hl)
   exact⟨b2,h1,by rw[ho.mu b2 hne];exact h2,by rw[ho.size];exact h3,h4,h5⟩
 ·intro s1 s2 L1 L2 b2 h1 h2 e1 e2
  have key:∀s3 L3,(S.setL s L').lo s3=some L3→∃M,S.lo s3=some M:=by
   intro s3 L3 h3;simp only[St.setL,aW] at h3;by_cases he:s3=s
   ·exact⟨L,he▸hs⟩
   ·simp only[he,decide_false,cond_false] at h3;exact⟨_,h3⟩
  obtain⟨M1,hM1⟩:=key _ _ h1;obtain⟨M2,hM2⟩:=key _ _ h2;exact h.ug s1 s2 M1 M2 b2 hM1 hM2 e1 e2
 ·exact⟨h.bW.le,fun b2 nh hno=>by rw[ho.mu b2 (by omega)];exact h.bW.frame b2 nh hno,h.bW.iW,h.bW.n8,by rw[ho.size];exact h.bW.size,
   ho.os.trans h.bW.os,ho.tape.trans h.bW.tape,ho.output.trans h.bW.output⟩
theorem fT.mono {ρ':dC} (h:ρ.le ρ') {e:TypeId} {cs:List V} {rw:Bool} {o:Option Go.Obj} (hc:fT ρ e cs rw o):fT ρ' e cs rw o:=by
 obtain⟨cs',fz,h1,h2,h3⟩:=hc;exact⟨cs',fz,h1,h2.mono h,h3⟩
theorem vN.mono {ρ':dC} (h:ρ.le ρ') {L:aR} {o:Option Go.Obj} (hc:vN ρ L o):vN ρ' L o:=by
 cases L with
 |cells e cs=>exact fT.mono h hc
 |dO s jo=>exact hc
theorem Fh.mono {ρ':dC} (h:ρ.le ρ') {L:Obj} {o:Option Go.Obj} (hc:Fh ρ L o):Fh ρ' L o:=by
 cases L with
 |cells e cs ro=>exact fT.mono h hc
 |map es clock=>
  obtain⟨es',h1,h2⟩:=hc;exact⟨es',h1,h2.mono h⟩
 |dO m bW seen tO=>
  obtain⟨m',h1,h2⟩:=hc;exact⟨m',h1,h2.mono h⟩
theorem TR.mono {ρ':dC} (h:ρ.le ρ') {x:T} {v:Value} (hx:TR ρ lam x v):TR ρ' lam x v:=by
 cases hx with
 |v h'=>exact .v (h'.mono h)
 |lp h'=>exact .lp h'
 |undef=>exact .undef
structure ix (o:Go.Obj) (w w':World):Prop where
 heap:w'.heap=w.heap.push o
 os:w'.os=w.os
 tape:w'.tape=w.tape
 output:w'.output=w.output
theorem ix.old {o:Go.Obj} {w w':World} (h:ix o w w') {b:Nat} (hb:b<w.heap.size):w'.heap[b]? =w.heap[b]? :=by
 rw[h.heap,Array.getElem?_push,if_neg (by omega)]
theorem ix.new {o:Go.Obj} {w w':World} (h:ix o w w'):w'.heap[w.heap.size]? =some o:=by
 rw[h.heap,Array.getElem?_push,if_pos rfl]
theorem ix.size {o:Go.Obj} {w w':World} (h:ix o w w'):w'.heap.size=w.heap.size+1:=by rw[h.heap];simp
theorem HR.Dn {o:Go.Obj} {w':World} {H:ag} (h:HR ρ H w) (hp:ix o w w'):HR ρ H w' where
 wR:=fun id x hid=>by
  obtain⟨b,h1,h2⟩:=h.wR id x hid;exact⟨b,h1,by rw[hp.old (h.lt id b h1).2];exact h2⟩
 inj:=h.inj
 lt:=fun id b hid=>⟨(h.lt id b hid).1,by rw[hp.size];have:=(h.lt id b hid).2;omega⟩
 gl:=h.gl
theorem lD.Dn {o:Go.Obj} {w':World} {H:ag} (h:lD H0 ρ0 w0 H ρ w) (hp:ix o w w'):lD H0 ρ0 w0 H ρ w' where
 le:=h.le
 frame:=fun b hb ho=>by rw[hp.old (by have:=h.size;omega)];exact h.frame b hb ho
 iW:=h.iW
 n8:=h.n8
 size:=by rw[hp.size];have:=h.size;omega
 os:=hp.os.trans h.os
 tape:=hp.tape.trans h.tape
 output:=hp.output.trans h.output
def eC (lam:dC) (d b:Nat):dC:=fun s=>if s=d then some b else lam s
theorem Jg {d t:Nat} {x:T} (h:(sC ann d S).tm t=some x):S.tm t=some x∧ab ann.aV t≠some d:=by
 simp only[sC] at h;split at h
 ·rename_i s hs;simp only[aW] at h;by_cases he:s=d
  ·simp [he] at h
  ·simp only[he,decide_false,cond_false] at h;exact⟨h,by rw[hs];simpa using he⟩
 ·rename_i hs;exact⟨h,by rw[hs];simp⟩
theorem SR.aaX (h:SR H0 ρ0 w0 ann N ρ lam S a w) {d:Nat} {L:aR} {o:Go.Obj} {w':World} (hp:ix o w w') (hL:vN ρ L (some o)):SR H0 ρ0 w0 ann N ρ (eC lam d w.heap.size) ((sC ann d S).setL d L) a w' where
 defers:=h.defers
 size:=h.size
 tm:=fun t x hx=>by
  obtain⟨h1,h2⟩:=Jg (S:=S) hx;have h3:=h.tm t x h1
  cases x with
  |v y=>generalize a.tmps.getD t undef=q at h3;cases h3 with|v h=>exact .v h
  |undef=>generalize a.tmps.getD t undef=q at h3;cases h3 with|undef=>exact .undef
  |lp s off=>
   have h4:=h.La t s off h1;generalize a.tmps.getD t undef=q at h3
   cases h3 with
   |lp hl=>
    have hne:¬s=d:=fun e=>h2 (by rw[←e];exact h4)
    exact .lp (by rw[eC,if_neg hne];exact hl)
 La:=fun t s off hx=>h.La t s off (Jg (S:=S) hx).1
 lo:=fun s M hM=>by
  simp only[St.setL,sC,aW] at hM;by_cases he:s=d
  ·simp only[he,decide_true,cond_true,Option.some.injEq] at hM;subst hM;refine⟨w.heap.size,by rw[eC,if_pos he],by rw[hp.new];exact hL,by rw[hp.size];omega,h.bW.size, ?_⟩;rintro⟨id,x,h1,h2⟩;have:=(h.hr.lt id _ h2).2;omega
  ·simp only[he,decide_false,cond_false] at hM;obtain⟨b,h1,h2,h3,h4,h5⟩:=h.lo s M hM;exact⟨b,by rw[eC,if_neg he];exact h1,by rw[hp.old h3];exact h2,by rw[hp.size];omega,h4,h5⟩
 ug:=by
  intro s1 s2 L1 L2 b h1 h2 e1 e2
  have key:∀s M,((sC ann d S).setL d L).lo s=some M→(s=d)∨(s≠d∧S.lo s=some M):=by
   intro s M hM;simp only[St.setL,sC,aW] at hM;by_cases he:s=d
   ·exact .inl he
   ·simp only[he,decide_false,cond_false] at hM;exact .inr ⟨he,hM⟩
  rcases key _ _ h1 with r1|⟨n1,r1⟩<;>rcases key _ _ h2 with r2|⟨n2,r2⟩
  ·rw[r1,r2]
  ·obtain⟨b2,k1,_,k3,_⟩:=h.lo s2 L2 r2;rw[eC,if_neg n2,k1] at e2;rw[eC,if_pos r1] at e1;cases e1;cases e2;omega
  ·obtain⟨b2,k1,_,k3,_⟩:=h.lo s1 L1 r1;rw[eC,if_neg n1,k1] at e1;rw[eC,if_pos r2] at e2;cases e1;cases e2;omega
  ·rw[eC,if_neg n1] at e1;rw[eC,if_neg n2] at e2;exact h.ug _ _ _ _ _ r1 r2 e1 e2
 hr:=h.hr.Dn hp
 bW:=h.bW.Dn hp
theorem Lh {H:ag} (h:HR ρ H w):ρ H.next=none:=by
 cases hn:ρ H.next with
 |none=>rfl
 |some b=>have:=(h.lt _ _ hn).1;omega
theorem Q4 {H:ag} (h:HR ρ H w) (b:Nat):ρ.le (eC ρ H.next b):=by
 intro id b' hid;rw[eC,if_neg]
 ·exact hid
 ·rintro rfl;rw[Lh h] at hid;cases hid
theorem gm {H:ag} {o o':Obj} {id:Nat} (h:(H.alloc o).get id=some o'):(id=H.next∧o'=o)∨(id≠H.next∧H.get id=some o'):=by
 simp only[ag.alloc,aW] at h;by_cases he:id=H.next
 ·simp only[he,decide_true,cond_true,Option.some.injEq] at h;exact .inl ⟨he,h.symm⟩
 ·simp only[he,decide_false,cond_false] at h;exact .inr ⟨he,h⟩
theorem SR.Dp (h:SR H0 ρ0 w0 ann N ρ lam S a w) {o:Go.Obj} {x:Obj} {w':World} (hp:ix o w w') (hx:Fh ρ x (some o)):SR H0 ρ0 w0 ann N (eC ρ S.hp.next w.heap.size) lam {S with hp:=S.hp.alloc x} a w':=by
 have hle:=Q4 h.hr w.heap.size
 have old:∀{id b},id≠S.hp.next→eC ρ S.hp.next w.heap.size id=some b→ρ id=some b:=by
  intro id b hid h;rwa [eC,if_neg hid] at h
 have lv:∀b,iW (S.hp.alloc x) (eC ρ S.hp.next w.heap.size) b→b=w.heap.size∨iW S.hp ρ b:=by
  rintro b ⟨id,o',h1,h2⟩;rcases gm h1 with⟨rfl,rfl⟩|⟨hn,h1⟩
  ·rw[eC,if_pos rfl] at h2;exact .inl (Option.some.inj h2).symm
  ·exact .inr ⟨id,o',h1,old hn h2⟩
 have ow:∀b,n8 (S.hp.alloc x) (eC ρ S.hp.next w.heap.size) b→b=w.heap.size∨n8 S.hp ρ b:=by
  rintro b ⟨id,o',h1,hr,h2⟩;rcases gm h1 with⟨rfl,rfl⟩|⟨hn,h1⟩
  ·rw[eC,if_pos rfl] at h2;exact .inl (Option.some.inj h2).symm
  ·exact .inr ⟨id,o',h1,hr,old hn h2⟩
 refine⟨h.defers,h.size,fun t y hy=>(h.tm t y hy).mono hle,h.La, ?_,h.ug,⟨?_, ?_, ?_,fun g hg=>hle _ _ (h.hr.gl g hg)⟩, ?_⟩
 ·intro s M hM;obtain⟨b,h1,h2,h3,h4,h5⟩:=h.lo s M hM;refine⟨b,h1,by rw[hp.old h3];exact h2.mono hle,by rw[hp.size];omega,h4,fun hl=> ?_⟩;rcases lv b hl with rfl|hl
  ·omega
  ·exact h5 hl
 ·intro id o' hid;rcases gm hid with⟨rfl,rfl⟩|⟨hn,hid⟩
  ·exact⟨w.heap.size,by rw[eC,if_pos rfl],by rw[hp.new];exact hx.mono hle⟩
  ·obtain⟨b,h1,h2⟩:=h.hr.wR id o' hid;exact⟨b,hle _ _ h1,by rw[hp.old (h.hr.lt id b h1).2];exact h2.mono hle⟩
 ·intro id id' o1 o2 b h1 h2 hr e1 e2;rcases gm h1 with⟨r1,_⟩|⟨n1,k1⟩<;>rcases gm h2 with⟨r2,_⟩|⟨n2,k2⟩
  ·rw[r1,r2]
  ·rw[eC,if_pos r1] at e1;have:=(h.hr.lt _ _ (old n2 e2)).2;cases e1;omega
  ·rw[eC,if_pos r2] at e2;have:=(h.hr.lt _ _ (old n1 e1)).2;cases e2;omega
  ·exact h.hr.inj id id' o1 o2 b k1 k2 hr (old n1 e1) (old n2 e2)
 ·intro id b hid;by_cases hn:id=S.hp.next
  ·rw[eC,if_pos hn] at hid;cases hid;exact⟨by simp [ag.alloc,hn],by rw[hp.size];omega⟩
  ·have:=h.hr.lt _ _ (old hn hid);exact⟨by simp [ag.alloc];omega,by rw[hp.size];omega⟩
 ·have hs:=h.bW.Dn hp;refine⟨hs.le.trans hle,hs.frame,fun b hb=> ?_,fun b hb=> ?_,hs.size,hs.os,hs.tape,hs.output⟩
  ·rcases lv b hb with rfl|hb
   ·exact .inr h.bW.size
   ·exact hs.iW b hb
  ·rcases ow b hb with rfl|hb
   ·exact .inr h.bW.size
   ·exact hs.n8 b hb
theorem uk {H:ag} {o o':Obj} {i id:Nat} (h:(H.put i o).get id=some o'):(id=i∧o'=o)∨(id≠i∧H.get id=some o'):=by
 simp only[ag.put,aW] at h;by_cases he:id=i
 ·simp only[he,decide_true,cond_true,Option.some.injEq] at h;exact .inl ⟨he,h.symm⟩
 ·simp only[he,decide_false,cond_false] at h;exact .inr ⟨he,h⟩
theorem SR.Dq (h:SR H0 ρ0 w0 ann N ρ lam S a w) {id b:Nat} {x y:Obj} {w':World} (hid:S.hp.get id=some x) (hrw:x.rw =true) (hy:y.rw =true) (hb:ρ id=some b) (ho:pf b w w') (hx:Fh ρ y w'.heap[b]?):SR H0 ρ0 w0 ann N ρ lam {S with hp:=S.hp.put id y} a w':=by
 have lv:∀b,iW (S.hp.put id y) ρ b→iW S.hp ρ b:=by
  rintro b ⟨i,o',h1,h2⟩;rcases uk h1 with⟨rfl,rfl⟩|⟨hn,h1⟩
  ·exact⟨i,x,hid,h2⟩
  ·exact⟨i,o',h1,h2⟩
 have ow:∀b,n8 (S.hp.put id y) ρ b→n8 S.hp ρ b:=by
  rintro b ⟨i,o',h1,hr,h2⟩;rcases uk h1 with⟨rfl,rfl⟩|⟨hn,h1⟩
  ·exact⟨i,x,hid,hrw,h2⟩
  ·exact⟨i,o',h1,hr,h2⟩
 have hown:n8 S.hp ρ b:=⟨id,x,hid,hrw,hb⟩;refine⟨h.defers,h.size,h.tm,h.La, ?_,h.ug,⟨?_, ?_, ?_,h.hr.gl⟩, ?_⟩
 ·intro s M hM;obtain⟨b2,h1,h2,h3,h4,h5⟩:=h.lo s M hM;have hne:b2≠b:=fun e=>h5 (e▸⟨id,x,hid,hb⟩)
  exact⟨b2,h1,by rw[ho.mu b2 hne];exact h2,by rw[ho.size];exact h3,h4,fun hl=>h5 (lv b2 hl)⟩
 ·intro i o' hi;rcases uk hi with⟨rfl,rfl⟩|⟨hn,hi⟩
  ·exact⟨b,hb,hx⟩
  ·obtain⟨b2,h1,h2⟩:=h.hr.wR i o' hi;have hne:b2≠b:=fun e=>hn (h.hr.inj id i x o' b hid hi hrw hb (e▸h1)).symm
   exact⟨b2,h1,by rw[ho.mu b2 hne];exact h2⟩
 ·intro i i' o1 o2 b2 h1 h2 hr e1 e2;rcases uk h1 with⟨r1,_⟩|⟨n1,k1⟩<;>rcases uk h2 with⟨r2,_⟩|⟨n2,k2⟩
  ·rw[r1,r2]
  ·rw[r1] at e1⊢;exact h.hr.inj id i' x o2 b2 hid k2 hrw e1 e2
  ·rw[r2] at e2⊢;exact(h.hr.inj id i x o1 b2 hid k1 hrw e2 e1).symm
  ·exact h.hr.inj i i' o1 o2 b2 k1 k2 hr e1 e2
 ·intro i b2 hi;rw[ho.size];exact h.hr.lt i b2 hi
 ·refine⟨h.bW.le,fun b2 nh hno=> ?_,fun b2 nh=>h.bW.iW b2 (lv b2 nh),fun b2 nh=>h.bW.n8 b2 (ow b2 nh),by rw[ho.size];exact h.bW.size,
   ho.os.trans h.bW.os,ho.tape.trans h.bW.tape,ho.output.trans h.bW.output⟩
  have hne:b2≠b:=by
   rintro rfl;rcases h.bW.n8 b2 hown with h1|h1
   ·exact hno h1
   ·omega
  rw[ho.mu b2 hne];exact h.bW.frame b2 nh hno
theorem SR.call (h:SR H0 ρ0 w0 ann N ρ lam S a w) {H':ag} {ρ':dC} {w':World} (hs:lD S.hp ρ w H' ρ' w') (hr:HR ρ' H' w'):SR H0 ρ0 w0 ann N ρ' lam {S with hp:=H'} a w' where
 defers:=h.defers
 size:=h.size
 tm:=fun t y hy=>(h.tm t y hy).mono hs.le
 La:=h.La
 lo:=fun s M hM=>by
  obtain⟨b,h1,h2,h3,h4,h5⟩:=h.lo s M hM;have hno:¬n8 S.hp ρ b:=fun⟨id,o,k1,_,k2⟩=>h5 ⟨id,o,k1,k2⟩
  refine⟨b,h1,by rw[hs.frame b h3 hno];exact h2.mono hs.le,by have:=hs.size;omega,h4,fun hl=> ?_⟩;rcases hs.iW b hl with h|h
  ·exact h5 h
  ·omega
 ug:=h.ug
 hr:=hr
 bW:=h.bW.trans hs
theorem SR.tY (h:SR H0 ρ0 w0 ann N ρ lam S a w) {s b:Nat} {e:TypeId} {cs:List V} (hs:S.lo s=some (.cells e cs)) (hb:lam s=some b):SR H0 ρ0 w0 ann N (eC ρ S.hp.next b) lam (pC ann s e cs S) a w:=by
 obtain⟨b',hb',hc,hlt,hge,TD⟩:=h.lo s _ hs;rw[hb] at hb';cases hb'
 have hle:ρ.le (eC ρ S.hp.next b):=by
  intro id b2 hid;have hne:id≠S.hp.next:=by have:=(h.hr.lt id b2 hid).1;omega
  rw[eC,if_neg hne];exact hid
 have old:∀{id b2},id≠S.hp.next→eC ρ S.hp.next b id=some b2→ρ id=some b2:=by
  intro id b2 hn h2
  rwa [eC,if_neg hn] at h2
 have lv:∀b2,iW (S.hp.alloc (.cells e cs false)) (eC ρ S.hp.next b) b2→b2=b∨iW S.hp ρ b2:=by
  rintro b2 ⟨id,o',h1,h2⟩;rcases gm h1 with⟨rfl,rfl⟩|⟨hn,h1⟩
  ·rw[eC,if_pos rfl] at h2;exact .inl (Option.some.inj h2).symm
  ·exact .inr ⟨id,o',h1,old hn h2⟩
 have ow:∀b2,n8 (S.hp.alloc (.cells e cs false)) (eC ρ S.hp.next b) b2→b2=b∨n8 S.hp ρ b2:=by
  rintro b2 ⟨id,o',h1,hr,h2⟩;rcases gm h1 with⟨rfl,rfl⟩|⟨hn,h1⟩
  ·rw[eC,if_pos rfl] at h2;exact .inl (Option.some.inj h2).symm
  ·exact .inr ⟨id,o',h1,hr,old hn h2⟩
 have hlo:∀{t L},(pC ann s e cs S).lo t=some L→t≠s∧S.lo t=some L:=by
  intro t L ht;simp only[pC,aW] at ht;by_cases hts:t=s
  ·simp [hts] at ht
  ·simp only[hts,decide_false,cond_false] at ht;exact⟨hts,ht⟩
 have htm:∀{t x},(pC ann s e cs S).tm t=some x→S.tm t=some x:=by
  intro t x ht;simp only[pC,sC] at ht;split at ht
  ·rename_i s' hs';cases hq:Nat.beq s' s
   ·simpa [hq] using ht
   ·simp [hq] at ht
  ·exact ht
 refine⟨h.defers,h.size,fun t y hy=>(h.tm t y (htm hy)).mono hle,fun t s' off hy=>h.La t s' off (htm hy), ?_, ?_,⟨?_, ?_, ?_,fun g hg=>hle _ _ (h.hr.gl g hg)⟩, ?_⟩
 ·intro s' M hM;obtain⟨hne,hM⟩:=hlo hM;obtain⟨b2,h1,h2,h3,h4,h5⟩:=h.lo s' M hM;refine⟨b2,h1,h2.mono hle,h3,h4,fun hl=> ?_⟩;rcases lv b2 hl with rfl|hl
  ·exact hne (h.ug s' s M _ b2 hM hs h1 hb)
  ·exact h5 hl
 ·intro s1 s2 L1 L2 b2 h1 h2 e1 e2;exact h.ug s1 s2 L1 L2 b2 (hlo h1).2 (hlo h2).2 e1 e2
 ·intro id o' hid;rcases gm hid with⟨rfl,rfl⟩|⟨hn,hid⟩
  ·exact⟨b,by rw[eC,if_pos rfl],fT.mono hle hc⟩
  ·obtain⟨b2,h1,h2⟩:=h.hr.wR id o' hid;exact⟨b2,hle _ _ h1,h2.mono hle⟩
 ·intro id id' o1 o2 b2 h1 h2 hr e1 e2;rcases gm h1 with⟨r1,_⟩|⟨n1,k1⟩<;>rcases gm h2 with⟨r2,_⟩|⟨n2,k2⟩
  ·rw[r1,r2]
  ·rw[eC,if_pos r1] at e1;cases e1;exact(TD ⟨id',o2,k2,old n2 e2⟩).elim
  ·rw[eC,if_pos r2] at e2;cases e2;exact(TD ⟨id,o1,k1,old n1 e1⟩).elim
  ·exact h.hr.inj id id' o1 o2 b2 k1 k2 hr (old n1 e1) (old n2 e2)
 ·intro id b2 hid;by_cases hn:id=S.hp.next
  ·rw[eC,if_pos hn] at hid;cases hid;exact⟨by simp [pC,ag.alloc,hn],hlt⟩
  ·have:=h.hr.lt _ _ (old hn hid);exact⟨by simp [pC,ag.alloc];omega,this.2⟩
 ·have hq:=h.bW;refine⟨hq.le.trans hle,hq.frame,fun b2 nh=> ?_,fun b2 nh=> ?_,hq.size,hq.os,hq.tape,hq.output⟩
  ·rcases lv b2 nh with rfl|nh
   ·exact .inr hge
   ·exact hq.iW b2 nh
  ·rcases ow b2 nh with rfl|nh
   ·exact .inr hge
   ·exact hq.n8 b2 nh
theorem mY:∀{l:List Operand} {S S':St} {ρ:dC} {vs:List V},SR H0 ρ0 w0 ann N ρ lam S a w→qM ann l S=some (vs,S')→∃ρ',SR H0 ρ0 w0 ann N ρ' lam S' a w∧eO ρ' vs (l.map a.eval)∧ρ.le ρ'
 |[],S,S',ρ,vs,h,hl=>by
  simp only[qM,Option.some.injEq,Prod.mk.injEq] at hl;obtain⟨rfl,rfl⟩:=hl;exact⟨ρ,h,.nil ρ,.refl ρ⟩
 |x::l,S,S',ρ,vs,h,hl=>by
  simp only[qM] at hl;split at hl
  ·rename_i v hx;split at hl
   ·rename_i ws S2 h2;simp only[Option.some.injEq,Prod.mk.injEq] at hl;obtain⟨rfl,rfl⟩:=hl;obtain⟨ρ',k1,k2,k3⟩:=mY h h2;exact⟨ρ',k1,.cons ((h.ev.tv hx).mono k3) k2,k3⟩
   ·cases hl
  ·rename_i s hx;split at hl
   ·rename_i e cs hs;split at hl
    ·rename_i ws S2 h2;simp only[Option.some.injEq,Prod.mk.injEq] at hl;obtain⟨rfl,rfl⟩:=hl;obtain⟨b,hb,he⟩:=h.ev.lp hx
     have hle:ρ.le (eC ρ S.hp.next b):=by
      intro id b2 hid;have hne:id≠S.hp.next:=by have:=(h.hr.lt id b2 hid).1;omega
      rw[eC,if_neg hne];exact hid
     obtain⟨ρ',k1,k2,k3⟩:=mY (h.tY hs hb) h2;refine⟨ρ',k1,.cons ?_ k2,hle.trans k3⟩;rw[he];exact .aj (k3 _ _ (by rw[eC,if_pos rfl]))
    ·cases hl
   ·cases hl
  ·cases hl
theorem SR.drew (h:SR H0 ρ0 w0 ann N ρ lam S a w) (n:Nat):SR H0 ρ0 w0 ann N ρ lam S a {w with drawn:=n}:=
 ⟨h.defers,h.size,h.tm,h.La,h.lo,h.ug,⟨h.hr.wR,h.hr.inj,h.hr.lt,h.hr.gl⟩,⟨h.bW.le,h.bW.frame,h.bW.iW,h.bW.n8,h.bW.size,h.bW.os,h.bW.tape,h.bW.output⟩⟩
end
def yF (H:ag) (ρ:dC) (w:World) (K:V→ag→Prop) (e:Ending) (w':World):Prop:=
 ∃v v' H' ρ',e=.returned v'∧K v H'∧VR ρ' v v'∧HR ρ' H' w'∧lD H ρ w H' ρ' w'
def iD (E:ku) (f:FuncId) (args:List V) (H:ag) (K:V→ag→Prop):Prop:=
 ∀(ρ:dC) (w:World) (aS:Array Value),HR ρ H w→eO ρ args aS.toList→Calls E.P f aS w (yF H ρ w K)
def jX (E:ku):Prop:=∀g x,E.ext g=some x→∀args H K,x.run args H K→∀(ρ:dC) (w:World) (aS:Array Value),HR ρ H w→eO ρ args aS.toList→
 (∃v v' w' H' ρ',(callFunc g aS).run E.P w=.ok (.value v') w'∧K v H'∧VR ρ' v v'∧HR ρ' H' w'∧lD H ρ w H' ρ' w')∨
 ((callFunc g aS).run E.P w=.ok (.enter g aS) w∧Calls E.P g aS w (yF H ρ w K))
section
variable {E:ku} {H0:ag} {ρ0:dC} {w0:World} {ann:bO} {N:Nat} {ρ lam:dC} {S:St} {a:Act} {w:World}
theorem vQ {t:TypeId} {i:TI} {z:V} (h:E.ti t=some i) (hz:i.zero=some z) (ρ:dC) (w:World):∃z',(zeroValue t).run E.P w=.ok z' w∧eO ρ z.cells z'.cells.toList∧bf z.cells:=by
 obtain⟨dj,dt,hi,hu,hd,_,_,KS⟩:=jO h;rw[hz] at KS;obtain⟨z',EG,ya⟩:=Option.bind_eq_some_iff.1 KS;exact⟨z',by simp [zeroValue,typeInfo,hi,EG],(iC ya).cells (fun e=>by have:=kN ya;rw[e] at this;have:=this .cx (by simp [V.cells]);cases this),kN ya⟩
theorem iE {e:TypeId} {cs:List V} {cs':Array Value} {rw:Bool} (h:eO ρ cs cs'.toList) (h1:bf cs):fT ρ e cs rw (some (.cells cs' e)):=
 ⟨cs',(0,0),rfl,h,fun _=>h1,fun _=>.inl rfl⟩
theorem HH {o:Oper} {ev:Ev} {e:Operand→Value} (cW:pK ρ lam ev e) {r:Bool} {L:aR} (h:iR E o.op ev=some (r,L)) (hr:r=true):∃(x:Go.Obj) (w':World),(execOp e o).run E.P w=.ok (.value (.pointer (some ⟨w.heap.size,0,none⟩))) w'∧ix x w w'∧vN ρ L (some x):=by
 obtain⟨dst,op,type,jo,after,guard⟩:=o
 cases op with
 |alloc t=>
  simp only[iR] at h;split at h
  ·rename_i i hi;split at h
   ·rename_i z hz;simp only[Option.some.injEq,Prod.mk.injEq] at h;obtain⟨_,rfl⟩:=h;obtain⟨z',h1,h2,h3⟩:=vQ hi hz ρ w;refine⟨.cells z'.cells t,{w with heap:=w.heap.push (.cells z'.cells t)}, ?_,⟨rfl,rfl,rfl,rfl⟩,iE h2 h3⟩;simp [execOp,Instr.alloc,h1,newVar,newRow]
   ·cases h
  ·cases h
 |box t x=>
  simp only[iR] at h;split at h
  ·rename_i v hv;split at h
   ·rename_i r' vs hvs;simp only[Option.some.injEq,Prod.mk.injEq] at h;obtain⟨rfl,rfl⟩:=h;obtain⟨h2,h3⟩:=iY (cW.v hv) hvs hr;refine⟨.cells (e x).cells t,{w with heap:=w.heap.push (.cells (e x).cells t)}, ?_,⟨rfl,rfl,rfl,rfl⟩,iE h2 h3⟩;simp [execOp,Instr.box,newVar,newRow]
   ·cases h
  ·cases h
 |range t x=>
  simp only[iR] at h;split at h
  ·rename_i s hk hx;obtain⟨dt,hu,hd⟩:=bM hk;simp only[Option.some.injEq,Prod.mk.injEq] at h;obtain⟨_,rfl⟩:=h;cases dt<;>simp [bo,cN] at hd
   refine⟨.stringIter s 0,{w with heap:=w.heap.push (.stringIter s 0)}, ?_,⟨rfl,rfl,rfl,rfl⟩,rfl⟩;simp [execOp,Instr.range,run_underlying hu,(cW.v hx).vL]
  ·cases h
 |_=>simp [iR] at h
theorem Fq {o:Oper} {ev:Ev} {e:Operand→Value} (cW:pK ρ lam ev e) {s:Nat} {L:Option aR} {d:fR T} (h:gP E o.op ev s L=some d) (hr:d.rq=true) (hL:∀M,L=some M→∃b,lam s=some b∧vN ρ M w.heap[b]?):∃v,(execOp e o).run E.P w=.ok (.value v) w∧TR ρ lam (if d.c=true then d.x else d.y) v:=by
 obtain⟨dst,op,type,jo,after,guard⟩:=o
 cases op with
 |load t a=>
  simp only[gP] at h;split at h
  ·rename_i s' off el cs ha;obtain⟨b,hb,hc⟩:=hL _ rfl;by_cases hs:s=s'
   ·subst hs;simp only[Nat.beq_refl,cond_true] at h;unfold Bv at h;split at h
    ·rename_i r v hv;simp only[Option.some.injEq] at h;subst h;obtain⟨b',hb',he⟩:=cW.lp ha;rw[hb] at hb';cases hb';obtain⟨v',h1,h2⟩:=oB hc hv hr (fun _ _=>.inl rfl);exact⟨v',by simp [execOp,Instr.loadAt,he,Instr.sureAddr,h1],.v h2⟩
    ·cases h
   ·rw[show Nat.beq s s'=false by rw[aW];simpa using hs] at h;simp at h
  ·cases h
 |_=>simp [gP] at h
theorem wV {w:World} {b:Nat} {s:ByteArray} {p:Nat} (h:w.heap[b]? =some (.stringIter s p)):(getObj b).run E.P w=.ok (.stringIter s p) w:=by
 simp [getObj,Sem.run,h]
theorem Fs {w:World} {b:Nat} {s:ByteArray} {p q:Nat} (h:w.heap[b]? =some (.stringIter s p)):(setObj b (.stringIter s q)).run E.P w=.ok () {w with heap:=w.heap.setIfInBounds b (.stringIter s q)}:=by
 simp [setObj,Sem.run,h]
theorem AY {t:TypeId} {cs:List V} (h:(ln E t cs).1=true):(ln E t cs).2=cs:=by
 unfold ln at h⊢;split
 ·rename_i ks hk;rw[hk] at h;exact kZ h rfl
 ·rfl
theorem Dr {o:Oper} {ev:Ev} {e:Operand→Value} (cW:pK ρ lam ev e) {s:Nat} {L:Option aR} {d:fR (aR×T)} (h:ee E o.op ev s L=some d) (hr:d.rq=true) (hL:∀M,L=some M→∃b,lam s=some b∧vN ρ M w.heap[b]?):∃M b w' v,L=some M∧lam s=some b∧pf b w w'∧vN ρ (if d.c=true then d.x else d.y).1 w'.heap[b]? ∧TR ρ lam (if d.c=true then d.x else d.y).2 v∧((execOp e o).run E.P w=.ok (.value v) w'∨(v=undef∧(execOp e o).run E.P w=.ok .skip w')):=by
 obtain⟨dst,op,type,jo,after,guard⟩:=o
 cases op with
 |store t a x=>
  simp only[ee] at h;split at h
  ·rename_i s' off v el cs ha hx;obtain⟨b,hb,hc⟩:=hL _ rfl;split at h
   ·rename_i r vs hvs;by_cases hs:s=s'
    ·subst hs;simp only[Nat.beq_refl,cond_true,Option.some.injEq] at h;subst h;obtain⟨b',hb',he⟩:=cW.lp ha;rw[hb] at hb';cases hb';simp only[fR.one,Bool.and_eq_true] at hr;obtain⟨w',h1,h2,h3⟩:=wU hc (cW.v hx) hvs hr.1.1 (Nat.le_of_ble_eq_true hr.1.2);rw[AY hr.2];exact⟨_,b,w',undef,rfl,hb,h3,h2,.undef,.inr ⟨rfl,by simp [execOp,Instr.storeAt,he,Instr.sureAddr,h1]⟩⟩
    ·rw[show Nat.beq s s'=false by rw[aW];simpa using hs] at h;simp at h
   ·cases h
  ·cases h
 |next it isStr=>
  cases isStr with
  |false=>simp [ee] at h
  |true=>
   simp only[ee] at h;split at h
   ·rename_i s' cG p ha;obtain⟨b,hb,hc⟩:=hL _ rfl;by_cases hs:s=s'
    ·subst hs;simp only[Nat.beq_refl,cond_true,Option.some.injEq] at h;subst h;obtain⟨b',hb',he⟩:=cW.lp ha;rw[hb] at hb';cases hb';have hc:w.heap[b]? =some (.stringIter cG p):=hc
     have hlt:b<w.heap.size:=by
      rcases Nat.lt_or_ge b w.heap.size with h|h
      ·exact h
      ·rw[Array.getElem?_eq_none h] at hc;cases hc
     by_cases hp:p<cG.size
     ·have AO:Nat.blt p cG.size=true:=by simpa using hp
      refine⟨_,b,{w with heap:=w.heap.setIfInBounds b (.stringIter cG (p+(Utf8.decode cG p).2))},
       .tuple #[.bool true,.int .i64 (p:Int),.int .i32 ((Utf8.decode cG p).1:Int)],rfl,hb,⟨?_,by simp,rfl,rfl,rfl⟩, ?_, ?_,.inl ?_⟩
      ·intro b' hne;simp [Array.getElem?_setIfInBounds,Ne.symm hne]
      ·simp [vN,AO,hlt]
      ·simp only[AO,if_true];exact .v (.gE (.cons (.bool _) (.cons (.int _ _) (.cons (.int _ _) (.nil ρ)))))
      ·simp only[execOp,he,Instr.next,Sem.run_bind,wV hc,Result.andThen_ok,hp,if_true];rw[Fs hc];simp [goInt]
     ·have AO:Nat.blt p cG.size=false:=by
       cases hh:Nat.blt p cG.size
       ·rfl
       ·exact(hp (by simpa using hh)).elim
      refine⟨_,b,w,.tuple #[.bool false],rfl,hb,.refl b w, ?_, ?_,.inl ?_⟩
      ·simpa [vN,AO] using hc
      ·simp only[AO,Bool.false_eq_true,if_false];exact .v (.gE (.cons (.bool _) (.nil ρ)))
      ·simp only[execOp,he,Instr.next,Sem.run_bind,wV hc,Result.andThen_ok,hp,if_false];simp
    ·rw[show Nat.beq s s'=false by rw[aW];simpa using hs] at h;simp at h
   ·cases h
 |_=>simp [ee] at h
end
section
variable {E:ku} {H0:ag} {ρ0:dC} {w0:World} {ann:bO} {N:Nat} {ρ lam:dC} {S:St} {a:Act} {w:World}
theorem yG {H:ag} (hr:HR ρ H w) {id off n:Nat} (h:H.inb id off n=true):∃e cs ro,H.get id=some (.cells e cs ro)∧off+n≤cs.length∧∃b,ρ id=some b∧fT ρ e cs (!ro) w.heap[b]? :=by
 unfold ag.inb at h;split at h
 ·rename_i e cs ro hg;obtain⟨b,h1,h2⟩:=hr.wR id _ hg;exact⟨e,cs,ro,hg,Nat.le_of_ble_eq_true h,b,h1,h2⟩
 ·cases h
theorem gf:∀(n:Nat) (l:List V),(hO n l).length=n*l.length
 |0,l=>by simp [hO]
 |n+1,l=>by simp [hO,gf n l,Nat.add_mul];omega
theorem gF {l:List V} (h:bf l):∀n:Nat,bf (hO n l)
 |0=>fun v hv=>by simp [hO] at hv
 |n+1=>fun v hv=>by
  simp only[hO,List.mem_append] at hv;exact hv.elim (h v) (gF h n v)
theorem yH {l:List V} (hl:0<l.length):∀(n i:Nat),i<n*l.length→(hO n l)[i]? =l[i % l.length]?
 |0,i,h=>by simp at h
 |n+1,i,h=>by
  by_cases hi:i<l.length
  ·rw[hO,List.getElem?_append_left hi,Nat.mod_eq_of_lt hi]
  ·have hi:l.length≤i:=by omega
   rw[hO,List.getElem?_append_right hi,yH hl n (i-l.length) (by rw[Nat.add_mul] at h;omega), ←Nat.mod_eq_sub_mod hi]
theorem Fu {z:List V} {z':Array Value} {n k:Nat} (hz:eO ρ z z'.toList) (hn:z.length=n) (hp:0<n):eO ρ (hO k z) ((Array.range (k*n)).map (z'[· % z'.size]!)).toList:=by
 have hs:z'.size=n:=by have:=hz.1;simp at this;omega
 refine⟨by simp [gf,hn], ?_⟩;intro i x y hx hy
 have hi:i<k*n:=by
  rcases Nat.lt_or_ge i (k*n) with h|h
  ·exact h
  ·rw[List.getElem?_eq_none (by rw[gf,hn];exact h)] at hx;cases hx
 rw[yH (by omega) k i (by rw[hn];exact hi),hn] at hx;have hm:i % n<n:=Nat.mod_lt _ hp;refine hz.2 (i % n) x y hx ?_;have hy':z'[i % z'.size]! =y:=by simpa [hi] using hy
 rw[hs,getElem!_pos z' (i % n) (by omega)] at hy';rw[←hy',Array.getElem?_toList,Array.getElem?_eq_getElem (by omega)]
theorem sN:∀{l:List V},vH l=true↔bf l
 |[]=>by simp [vH,bf]
 |v::l=>by
  rw[vH,Bool.and_eq_true,sN];simp [bf]
theorem bf.append {l m:List V} (h:bf l) (k:bf m):bf (l++m):=by
 intro v hv;rcases List.mem_append.1 hv with hv|hv
 ·exact h v hv
 ·exact k v hv
theorem um (s:ByteArray):bf (fc s):=by
 intro v hv;simp only[fc,List.mem_map] at hv;obtain⟨b,_,rfl⟩:=hv;rfl
theorem uo (ρ:dC) (s:ByteArray):eO ρ (fc s) (s.data.map fun b=>Value.int .u8 b.toNat).toList:=by
 refine⟨by simp [fc], ?_⟩;intro i x y hx hy;simp only[fc,List.getElem?_map,Array.toList_map,Option.map_eq_some_iff] at hx hy;obtain⟨b,hb,rfl⟩:=hx;obtain⟨b',hb',rfl⟩:=hy;rw[hb] at hb';cases hb';exact .int _ _
theorem Ds (s:ByteArray):(fc s).length=s.size:=by
 unfold fc;rw[List.length_map];rfl
theorem Q5 {H:ag} {id off n:Nat} (h:H.inb id off n=true):(H.sub id off n).length=n:=by
 unfold ag.inb at h;split at h
 ·rename_i e cs ro hg;have:=Nat.le_of_ble_eq_true h;simp [ag.sub,ag.cs,hg];omega
 ·cases h
theorem xn {H:ag} (hr:HR ρ H w) {id off n b:Nat} (hb:ρ id=some b) (h:H.inb id off n=true):∃xs,(loadCells ⟨b,off,none⟩ n).run E.P w=.ok xs w∧eO ρ (H.sub id off n) xs.toList:=by
 obtain⟨e,cs,ro,hg,hle,b',hb',cs',fz,hcell,hvs,_,_⟩:=yG hr h;rw[hb] at hb';cases hb';have hsub:H.sub id off n=(cs.drop off).take n:=by simp [ag.sub,ag.cs,hg]
 have hlen:cs'.size=cs.length:=by have:=hvs.1;simp at this;omega
 have hrun:=run_loadCells_list (P:=E.P) w ⟨b,off,none⟩ ((cs'.toList.drop off).take n) (by
  intro j v hv;rw[ga,qS hcell];rw[List.getElem?_take] at hv;split at hv
  ·rw[List.getElem?_drop] at hv;simpa using hv
  ·cases hv)
 have hl:((cs'.toList.drop off).take n).length=n:=by simp;omega
 rw[hl] at hrun;exact⟨_,hrun,by rw[hsub];simpa using (hvs.drop off).take n⟩
theorem xo {n:Nat} {x:Value} {m:Nat} (hx:Builtin.lenOf x=pure m):(Builtin.firstCells n 0 x).run E.P w=.ok #[] w:=by
 cases x with
 |string s=>simp [Builtin.firstCells]
 |slice p l c=>cases p<;>simp [Builtin.firstCells,loadCells,loadCellsFrom]
 |_=>exact absurd hx (by simp [Builtin.lenOf,stuck])
theorem vR {H:ag} (hr:HR ρ H w) {x:V} {x':Value} (hx:VR ρ x x') {n m:Nat} {ok:Nat→Bool} {cs:Nat→List V} (hs:lq H n x=some (m,ok,cs)):Builtin.lenOf x'=pure m∧∀k,k≤m→(k=0∨ok k=true)→∃xs,(Builtin.firstCells n k x').run E.P w=.ok xs w∧eO ρ (cs k) xs.toList∧bf (cs k)∧(cs k).length=k*n:=by
 cases x with
 |slice p len cap=>
  simp only[lq,Option.some.injEq,Prod.mk.injEq] at hs;obtain⟨rfl,rfl,rfl⟩:=hs;have hl:Builtin.lenOf x'=pure len:=by cases hx<;>rfl
  refine⟨hl,fun k hk hok=> ?_⟩;by_cases h0:k=0
  ·subst h0;exact⟨#[],xo hl,by simpa using eO.nil ρ,fun v hv=>by simp at hv,by simp⟩
  ·have hz:Nat.beq k 0=false:=by rw[aW];simp [h0]
   have hok:=hok.resolve_left h0;simp only[pB,hz,Bool.false_or,Bool.and_eq_true] at hok;obtain⟨hp,hi,ho⟩:=hok;simp only[hz,cond_false]
   cases p with
   |none=>cases hp
   |some q=>
    obtain⟨id,off⟩:=q;rcases hx.fk with⟨b,hb,rfl⟩|⟨h1,_,_⟩
    ·obtain⟨xs,h1,h2⟩:=xn (E:=E) hr hb hi;exact⟨xs,h1,h2,sN.1 ho,Q5 hi⟩
    ·omega
 |cG s=>
  simp only[lq,Option.some.injEq,Prod.mk.injEq] at hs;obtain⟨rfl,rfl,rfl⟩:=hs;cases hx;refine⟨rfl,fun k hk hok=> ?_⟩
  have acO:((s.extract 0 k).data.map fun b=>Value.int .u8 b.toNat).toList=((s.data.map fun b=>Value.int .u8 b.toNat).toList).take k:=by
   simp [ByteArray.data_extract,List.map_take]
  refine⟨_,rfl, ?_,fun v hv=>um s v (List.mem_of_mem_take hv), ?_⟩
  ·rw[acO];exact(uo ρ s).take k
  ·rcases hok with rfl|hok
   ·simp
   ·have:n=1:=Nat.eq_of_beq_eq_true hok;subst this;simp [Ds];omega
 |_=>simp [lq] at hs
theorem qT {t el n cM:Nat} {z:List V} (h:fH E t=some (el,n,cM,z)):∃dj z',E.P.underlying t=some (.slice el)∧E.P.info? el=some dj∧
 dj.zero=some z'∧dj.size=n∧dj.bytes=cM∧z.length=n∧0<n∧z'.cells.size=n∧bf z∧∀ρ,eO ρ z z'.cells.toList:=by
 unfold fH at h;split at h
 ·rename_i ti nk;obtain⟨ds,rM,hds⟩:=dH nk;split at h
  ·rename_i e hsh;rw[hsh] at hds;cases iw hds;split at h
   ·rename_i ei hei;obtain⟨dj,dt,hi,hu,hd,hsz,hby,KS⟩:=jO hei;split at h
    ·rename_i zv hz
     cases hb:(Nat.beq zv.cells.length ei.size&&sB ei.size) with
     |false=>simp [hb] at h
     |true=>
      simp only[hb,cond_true,Option.some.injEq,Prod.mk.injEq] at h;obtain⟨rfl,rfl,rfl,rfl⟩:=h;rw[Bool.and_eq_true] at hb;have hn:zv.cells.length=ei.size:=Nat.eq_of_beq_eq_true hb.1
      have hp:0<ei.size:=by
       have:=hb.2
       cases h:ei.size with
       |zero=>rw[h] at this;cases this
       |succ n=>omega
      rw[hz] at KS;obtain⟨z',EG,ya⟩:=Option.bind_eq_some_iff.1 KS;have ML:∀ρ,eO ρ zv.cells z'.cells.toList:=fun ρ=>(iC ya).cells (fun e=>by have:=kN ya;rw[e] at this;have:=this .cx (by simp [V.cells]);cases this)
      refine⟨dj,z',rM,hi,EG,hsz,hby,hn,hp, ?_,kN ya,ML⟩;have:=(ML (fun _=>none)).1;simp at this;omega
    ·cases h
   ·cases h
  ·cases h
 ·cases h
theorem mC {z:List V} {z':Array Value} {n:Nat} (hz:eO ρ z z'.toList) (hn:z.length=n) (hp:0<n) (k:Nat):eO ρ (hO k z) (Builtin.zeroCells z' k).toList:=by
 have hs:z'.size=n:=by have:=hz.1;simp at this;omega
 unfold Builtin.zeroCells;rw[hs];simpa [hs] using Fu hz hn hp (k:=k)
theorem pM (a:Addr):(storeCells a []).run E.P w=.ok () w:=by simp [storeCells]
theorem Q6 {u:TypeId} (h:iT (bh E u)=true):∃d,E.P.underlying u=some d∧(d=.string∨∃e,d=.slice e):=by
 cases hk:bh E u with
 |none=>rw[hk] at h;cases h
 |some k=>
  obtain⟨d,hu,hd⟩:=bM hk;refine⟨d,hu, ?_⟩;rw[hk] at h;cases d<;>simp [bo,cN] at hd<;>first|(exact .inl rfl)|(exact .inr ⟨_,rfl⟩)|(subst hd;cases h)
theorem AZ {t u el ty:TypeId} {du:TypeDesc} {dj:TypeInfo} (kW:E.P.underlying t=some (.slice el)) (EW:E.P.underlying u=some du) (QM:du=.string∨∃e,du=.slice e) (hi:E.P.info? el=some dj) {aV:Option Addr} {l cp m:Nat} {x':Value} (hlen:Builtin.lenOf x'=pure m) (hroom:l+m≤cp) {xs:Array Value} (hf:(Builtin.firstCells dj.size m x').run E.P w=.ok xs w) {w':World} (hst:(match aV with|some a=>storeCells (a.add (l*dj.size)) xs.toList|none=>pure ()).run E.P w=.ok () w'):(Builtin.append_ #[t,u] ty #[.slice aV l cp,x']).run E.P w=.ok (.slice aV (l+m) cp) w':=by
 cases aV with
 |none=>
  simp at hst;subst hst;rcases QM with rfl|⟨e,rfl⟩<;>simp [Builtin.append_,run_underlying kW,run_underlying EW,sizeOf,typeInfo,hi,hlen,hroom,hf]
 |some ad=>
  rcases QM with rfl|⟨e,rfl⟩<;>simp [Builtin.append_,run_underlying kW,run_underlying EW,sizeOf,typeInfo,hi,hlen,hroom,hf,hst]
theorem yI {t u el ty:TypeId} {du:TypeDesc} {dj:TypeInfo} {z':Value} (kW:E.P.underlying t=some (.slice el)) (EW:E.P.underlying u=some du) (QM:du=.string∨∃e,du=.slice e) (hi:E.P.info? el=some dj) (hz:dj.zero=some z') {aV:Option Addr} {l cp m:Nat} {x':Value} (hlen:Builtin.lenOf x'=pure m) (hroom:¬l+m≤cp) (ie:(l+m)*(dj.bytes+1)≤70368744177664) {os xs:Array Value} (hfo:(Builtin.firstCells dj.size l (.slice aV l cp)).run E.P w.drew=.ok os w.drew) (hf:(Builtin.firstCells dj.size m x').run E.P w.drew=.ok xs w.drew):(Builtin.append_ #[t,u] ty #[.slice aV l cp,x']).run E.P w=.ok (.slice (some ⟨w.heap.size,0,none⟩) (l+m) (grownCap w (l+m) cp el)) (w.drew.alloc (.cells (os++xs++Builtin.zeroCells z'.cells (grownCap w (l+m) cp el-(l+m))) el)):=by
 have h1:(l+m)*dj.bytes≤70368744177664:=Nat.le_trans (Nat.mul_le_mul_left _ (by omega)) ie;have h2:l+m≤70368744177664:=Nat.le_trans (Nat.le_mul_of_pos_right _ (by omega)) ie;have h63':¬(9223372036854775807<((l:Int)+(m:Int))):=by omega
 have hg:=growslice_fits (need:=l+m) (old:=cp) (bytes:=dj.bytes) (by omega) (by omega);have MM:¬(281474976710656<Builtin.nextslicecap (l+m) cp*dj.bytes):=by omega
 rcases QM with rfl|⟨e,rfl⟩<;>simp [Builtin.append_,run_underlying kW,run_underlying EW,sizeOf,typeInfo,zeroValue,hi,hz,hlen,hroom,h63',MM,Question.forced,hf,hfo,newRow,grownCap]
theorem yJ {t u el ty:TypeId} {dj:TypeInfo} {z':Value} (kW:E.P.underlying t=some (.slice el)) (EW:E.P.underlying u=some (.int .i64)) (hi:E.P.info? el=some dj) (hz:dj.zero=some z') (hpos:0<dj.size) {aV:Option Addr} {l cp:Nat} {m:Int} (h0:0≤m) (hb:m*(dj.bytes+1)≤70368744177664) (hroom:l+m.toNat≤cp) {w':World} (hst:(match aV with|some a=>storeCells (a.add (l*dj.size)) (Builtin.zeroCells z'.cells m.toNat).toList|none=>pure ()).run E.P w=.ok () w'):(Builtin.append_ #[t,u] ty #[.slice aV l cp,.int .i64 m]).run E.P w=.ok (.slice aV (l+m.toNat) cp) w':=by
 have TE:m*1≤m*(dj.bytes+1):=Int.mul_le_mul_of_nonneg_left (by omega) h0;have hm2:m*dj.bytes≤m*(dj.bytes+1):=Int.mul_le_mul_of_nonneg_left (by omega) h0;have hw1:IntKind.i64.wrap m=m:=IntWalk.i64_in _ ⟨by omega,by omega⟩;have e1:¬(281474976710656<m*(dj.bytes:Int)):=by omega
 have e3:¬m<0:=by omega
 by_cases hn:m.toNat*dj.size=0
 ·have hm0:m.toNat=0:=by
   rcases Nat.mul_eq_zero.1 hn with h|h
   ·exact h
   ·omega
  have MK:Builtin.zeroCells z'.cells 0= #[]:=by simp [Builtin.zeroCells]
  rw[hm0,MK] at hst
  cases aV with
  |none=>
   simp at hst;subst hst;simp [Builtin.append_,run_underlying kW,run_underlying EW,sizeOf,typeInfo,zeroValue,hi,hz,hw1,e1,e3,hm0,hroom,asInt,asIntOf];omega
  |some ad=>
   simp at hst;simp [Builtin.append_,run_underlying kW,run_underlying EW,sizeOf,typeInfo,zeroValue,hi,hz,hw1,e1,e3,hm0,hroom,asInt,asIntOf,hst];omega
 ·cases aV with
  |none=>
   simp at hst;subst hst;simp [Builtin.append_,run_underlying kW,run_underlying EW,sizeOf,typeInfo,zeroValue,hi,hz,hw1,e1,e3,hn,hroom,asInt,asIntOf]
  |some ad=>
   simp [Builtin.append_,run_underlying kW,run_underlying EW,sizeOf,typeInfo,zeroValue,hi,hz,hw1,e1,e3,hn,hroom,asInt,asIntOf,hst]
theorem xp {t u el ty:TypeId} {dj:TypeInfo} {z':Value} (kW:E.P.underlying t=some (.slice el)) (EW:E.P.underlying u=some (.int .i64)) (hi:E.P.info? el=some dj) (hz:dj.zero=some z') (hpos:0<dj.size) {aV:Option Addr} {l cp:Nat} {m:Int} (h0:0≤m) (hb:m*(dj.bytes+1)≤70368744177664) (hroom:¬l+m.toNat≤cp) (ie:(l+m.toNat)*(dj.bytes+1)≤70368744177664) {os:Array Value} (hfo:(Builtin.firstCells dj.size l (.slice aV l cp)).run E.P w.drew=.ok os w.drew):(Builtin.append_ #[t,u] ty #[.slice aV l cp,.int .i64 m]).run E.P w=.ok (.slice (some ⟨w.heap.size,0,none⟩) (l+m.toNat) (grownCap w (l+m.toNat) cp el)) (w.drew.alloc (.cells (os++Builtin.zeroCells z'.cells m.toNat++Builtin.zeroCells z'.cells (grownCap w (l+m.toNat) cp el-(l+m.toNat))) el)):=by
 have TE:m*1≤m*(dj.bytes+1):=Int.mul_le_mul_of_nonneg_left (by omega) h0;have hm2:m*dj.bytes≤m*(dj.bytes+1):=Int.mul_le_mul_of_nonneg_left (by omega) h0;have hw1:IntKind.i64.wrap m=m:=IntWalk.i64_in _ ⟨by omega,by omega⟩;have e1:¬(281474976710656<m*(dj.bytes:Int)):=by omega
 have e3:¬m<0:=by omega
 have h1:(l+m.toNat)*dj.bytes≤70368744177664:=Nat.le_trans (Nat.mul_le_mul_left _ (by omega)) ie;have h2:l+m.toNat≤70368744177664:=Nat.le_trans (Nat.le_mul_of_pos_right _ (by omega)) ie;have h63':¬(9223372036854775807<((l:Int)+(m.toNat:Int))):=by omega
 have h63:¬(9223372036854775807<((l:Int)+max m 0)):=by omega
 have hg:=growslice_fits (need:=l+m.toNat) (old:=cp) (bytes:=dj.bytes) (by omega) (by omega);have MM:¬(281474976710656<Builtin.nextslicecap (l+m.toNat) cp*dj.bytes):=by omega
 by_cases hn:m.toNat*dj.size=0
 ·have hm0:m.toNat=0:=by
   rcases Nat.mul_eq_zero.1 hn with h|h
   ·exact h
   ·omega
  have MK:Builtin.zeroCells z'.cells 0= #[]:=by simp [Builtin.zeroCells]
  rw[hm0] at hroom h63' MM⊢;have acP:m=0:=by omega
  subst acP;have Wk:¬l≤cp:=by simpa using hroom
  have acQ:¬(9223372036854775807:Int)<(l:Int):=by simpa using h63'
  have acR:¬(281474976710656<Builtin.nextslicecap l cp*dj.bytes):=by simpa using MM
  simp [Builtin.append_,Wk,acQ,acR,run_underlying kW,run_underlying EW,sizeOf,typeInfo,zeroValue,hi,hz,hw1,hroom,h63',MM,Question.forced,hfo,newRow,grownCap,asInt,asIntOf,MK]
 ·simp [Builtin.append_,run_underlying kW,run_underlying EW,sizeOf,typeInfo,zeroValue,hi,hz,hw1,e1,e3,hn,hroom,h63',h63,MM,Question.forced,hfo,newRow,grownCap,asInt,asIntOf]
theorem T0 {x:Value} {k:IntKind} {n:Int} (h:VR ρ (.int k n) x):x=.int k n:=h.iv
structure Xm (E:ku) (t u ty el:TypeId) (dj:TypeInfo) (z':Value) (x':Value) (m:Nat) (A:World→Array Value→Prop):Prop where
 inn:∀{w w':World} {aV:Option Addr} {l cp:Nat} {xs:Array Value},l+m≤cp→A w xs→(match aV with|some a=>storeCells (a.add (l*dj.size)) xs.toList|none=>pure ()).run E.P w=.ok () w'→
  (Builtin.append_ #[t,u] ty #[.slice aV l cp,x']).run E.P w=.ok (.slice aV (l+m) cp) w'
 out:∀{w:World} {aV:Option Addr} {l cp:Nat} {os xs:Array Value},¬l+m≤cp→(l+m)*(dj.bytes+1)≤70368744177664→(Builtin.firstCells dj.size l (.slice aV l cp)).run E.P w.drew=.ok os w.drew→A w.drew xs→
  (Builtin.append_ #[t,u] ty #[.slice aV l cp,x']).run E.P w=.ok (.slice (some ⟨w.heap.size,0,none⟩) (l+m) (grownCap w (l+m) cp el))
   (w.drew.alloc (.cells (os++xs++Builtin.zeroCells z'.cells (grownCap w (l+m) cp el-(l+m))) el))
theorem Dt {H:ag} {t u ty el n cM:Nat} {z:List V} {dj:TypeInfo} {z':Value} (kW:E.P.underlying t=some (.slice el)) (hi:E.P.info? el=some dj) (hz:dj.zero=some z') (hsz:dj.size=n) (hby:dj.bytes=cM)
 (hzl:z.length=n) (hpos:0<n) (hzs:z'.cells.size=n) (SE:bf z) (Qj:∀ρ,eO ρ z z'.cells.toList) {x:V} {x':Value} (hx:VR ρ x x') {r:Bool} {m:Nat} {ok:Nat→Bool} {cs:Nat→List V}
 (hs:mT H n cM z (bh E u) x=some (r,m,ok,cs)) (hr:r=true):∃A:World→Array Value→Prop,Xm E t u ty el dj z' x' m A∧
  ∀w,HR ρ H w→(m=0∨ok m=true)→∃xs,A w xs∧eO ρ (cs m) xs.toList∧bf (cs m)∧(cs m).length=m*n:=by
 subst hr;subst hsz;subst hby
 have key:iT (bh E u)=true→lq H dj.size x=some (m,ok,cs)→∃A:World→Array Value→Prop,Xm E t u ty el dj z' x' m A∧
  ∀w,HR ρ H w→(m=0∨ok m=true)→∃xs,A w xs∧eO ρ (cs m) xs.toList∧bf (cs m)∧(cs m).length=m*dj.size:=by
  intro hu hsrc;obtain⟨du,EW,QM⟩:=Q6 hu
  have hlen:Builtin.lenOf x'=pure m:=by
   cases x with
   |slice p len cap=>
    simp only[lq,Option.some.injEq,Prod.mk.injEq] at hsrc;obtain⟨rfl,_,_⟩:=hsrc;cases hx<;>rfl
   |cG s=>
    simp only[lq,Option.some.injEq,Prod.mk.injEq] at hsrc;obtain⟨rfl,_,_⟩:=hsrc;cases hx;rfl
   |_=>simp [lq] at hsrc
  refine⟨fun w xs=>(Builtin.firstCells dj.size m x').run E.P w=.ok xs w,⟨fun hroom hf hst=>AZ kW EW QM hi hlen hroom hf hst,fun hroom ie hfo hf=>yI kW EW QM hi hz hlen hroom ie hfo hf⟩,fun w hw hok=> ?_⟩;obtain⟨_,tH⟩:=vR (E:=E) hw hx hsrc;exact tH m (Nat.le_refl _) hok
 unfold mT at hs;split at hs
 ·rename_i hk;obtain⟨d,EW,hd⟩:=bM hk;split at hs
  ·rename_i mi;simp only[Option.some.injEq,Prod.mk.injEq,Bool.and_eq_true,decide_eq_true_eq] at hs;obtain⟨⟨h0,hb⟩,rfl,rfl,rfl⟩:=hs;have hx':=T0 hx;subst hx';cases d<;>simp [bo,cN] at hd
   subst hd;refine⟨fun w xs=>xs=Builtin.zeroCells z'.cells mi.toNat,⟨fun hroom hf hst=> ?_,fun hroom ie hfo hf=> ?_⟩,fun w hw hok=>⟨_,rfl, ?_, ?_, ?_⟩⟩
   ·subst hf;exact yJ kW EW hi hz hpos h0 hb hroom hst
   ·subst hf;exact xp kW EW hi hz hpos h0 hb hroom ie hfo
   ·exact mC (Qj ρ) hzl hpos _
   ·exact gF SE _
   ·show (hO _ z).length=_
    rw[gf,hzl]
  ·cases hs
 ·split at hs
  ·rename_i hu;split at hs
   ·rename_i m' ok' cs' hsrc;simp only[Option.some.injEq,Prod.mk.injEq,true_and] at hs;obtain⟨rfl,rfl,rfl⟩:=hs;exact key hu hsrc
   ·cases hs
  ·cases hs
theorem Du (h:SR H0 ρ0 w0 ann N ρ lam S a w) {ts:List TypeId} {args:List V} {args':Array Value} {ty:TypeId} {K:Oq→Nat→Nat→ag→Prop} (ha:eO ρ args args'.toList) (ho:aP E ts args S.hp K):∃q n c H' ρ' v w',K q n c H'∧(Builtin.append_ ts.toArray ty args').run E.P w=.ok v w'∧SR H0 ρ0 w0 ann N ρ' lam {S with hp:=H'} a w'∧TR ρ' lam (.v (.slice q n c)) v:=by
 unfold aP at ho;split at ho
 ·rename_i t u p l cp x;split at ho
  ·rename_i el n cM z hel
   split at ho
   ·rename_i r0 m ok cs hsrc;obtain⟨hr0,ho⟩:=aQ ho;obtain⟨s',r1,xH,hs',n5⟩:=ha.di;obtain⟨x',r2,xG,hx',tI⟩:=n5.di;have Qk:=tI.gr;subst Qk;subst xG
    obtain rfl:args'= #[s',x']:=by
     apply Array.ext';rw[xH]
    obtain⟨dj,z',kW,hi,hz,hsz,hby,hzl,hpos,hzs,SE,Qj⟩:=qT hel;obtain⟨A,hA,tH⟩:=Dt (ty:=ty) kW hi hz hsz hby hzl hpos hzs SE Qj hx' hsrc hr0;subst hsz;subst hby
    have hbase:∃aV,s'=.slice aV l cp∧(p=none→aV=none)∧(∀id off,p=some (id,off)→(∃b,ρ id=some b∧aV=some ⟨b,off,none⟩)∨(l=0∧cp=0∧∃ad,aV=some ad)):=by
     cases p with
     |none=>exact⟨none,hs'.lC,fun _=>rfl,fun _ _ h=>by cases h⟩
     |some q=>
      obtain⟨id,off⟩:=q;rcases hs'.fk with⟨b,hb,he⟩|⟨h0,h1,ad,he⟩
      ·exact⟨_,he,fun h=>by(cases h),fun id' off' h=>by cases h;exact .inl ⟨b,hb,rfl⟩⟩
      ·exact⟨_,by rw[he,h0,h1],fun h=>by(cases h),fun id' off' h=>.inr ⟨h0,h1,ad,rfl⟩⟩
    obtain⟨aV,rfl,hb0,Au⟩:=hbase;rcases gz ho with⟨hroom,ho⟩|⟨hroom,ho⟩
    ·have hroom:l+m≤cp:=Nat.le_of_ble_eq_true hroom;obtain⟨hr,ho⟩:=aQ ho;by_cases hm:m=0
     ·obtain⟨xs,h1,h2,h3,h4⟩:=tH w h.hr (.inl hm)
      have hxs:xs= #[]:=by
       have:=h2.1;rw[h4,hm] at this;apply Array.eq_empty_of_size_eq_zero;simpa using this.symm
      subst hxs;have hz0:Nat.beq m 0=true:=by rw[aW];simp [hm]
      simp only[hz0,cond_true] at ho;refine⟨_,_,_,_,ρ,.slice aV (l+m) cp,w,ho,hA.inn hroom h1 ?_,h,.v ?_⟩
      ·cases aV<;>simp [pM]
      ·rw[hm];simpa using hs'
     ·have hz0:Nat.beq m 0=false:=by rw[aW];simp [hm]
      simp only[hz0,Bool.false_or,Bool.and_eq_true,cond_false] at hr ho;obtain⟨hp,hok,EI⟩:=hr
      cases p with
      |none=>cases hp
      |some q=>
       obtain⟨id,off⟩:=q;simp only[Option.getD_some] at EI ho;rcases Au id off rfl with⟨b,hb,rfl⟩|⟨h0,h1,_⟩
       ·obtain⟨xs,h1,h2,h3,h4⟩:=tH w h.hr (.inr hok);unfold ag.wr at EI;split at EI
        ·rename_i e ccs ro hg;rw[Bool.and_eq_true] at EI;have hro:ro=false:=by simpa using EI.1
         subst hro;obtain⟨b',hb',hc⟩:=h.hr.wR id _ hg;rw[hb] at hb';cases hb';obtain⟨w',g1,g2,g3⟩:=mB (E:=E) (off:=off+l*dj.size) hc h2 h3 (by rw[h4];exact Nat.le_of_ble_eq_true EI.2);have hst:S.hp.store id (off+l*dj.size) (cs m)=S.hp.put id (.cells e (bI ccs (off+l*dj.size) (cs m)) false):=by simp [ag.store,hg]
         rw[hst] at ho;exact⟨_,_,_,_,ρ,_,w',ho,hA.inn hroom h1 (by simpa [ga] using g1),h.Dq hg rfl rfl hb g3 g2,.v (.slice _ _ hb)⟩
        ·cases EI
       ·omega
    ·have Wl:¬l+m≤cp:=by
      intro hc;rw[Nat.ble_eq_true_of_le hc] at hroom;cases hroom
     obtain⟨hr,ho⟩:=aQ ho;simp only[Bool.and_eq_true] at hr;obtain⟨hrow,hok,ie⟩:=hr;have ie:=Nat.le_of_ble_eq_true ie;have hd:HR ρ S.hp w.drew:=⟨h.hr.wR,h.hr.inj,h.hr.lt,h.hr.gl⟩
     obtain⟨_,hold⟩:=vR (E:=E) hd hs' (n:=dj.size) (m:=l) (ok:=fun m=>pB S.hp dj.size p m)
      (cs:=fun m=>bif Nat.beq m 0 then [] else S.hp.sub (p.getD (0,0)).1 (p.getD (0,0)).2 (m*dj.size)) rfl
     obtain⟨xs,h1,h2,h3,h4⟩:=tH w.drew hd (.inr hok);obtain⟨os,k1,k2,k3,k4⟩:=hold l (Nat.le_refl _) (.inr hrow);have adh:l+m≤70368744177664:=Nat.le_trans (Nat.le_mul_of_pos_right _ (by omega)) ie;have Ql:=grownCap_ge w (l+m) cp el;have Qm:=grownCap_le_maxLen w (l+m) cp el (by simp only[maxLen];omega);have hk:=ho (grownCap w (l+m) cp el) Ql (by simp only[maxLen] at Qm;omega);have ML:=(k2.append h2).append (mC (Qj ρ) hzl hpos (grownCap w (l+m) cp el-(l+m)));refine⟨_,_,_,_,_,_,_,hk,hA.out Wl ie k1 h1,h.Dp ⟨rfl,rfl,rfl,rfl⟩ (iE ?_ ?_),.v (.slice _ _ (by rw[eC,if_pos rfl]))⟩
     ·simpa [ye,dU,List.append_assoc] using ML
     ·exact k3.append (h3.append (gF SE _))
   ·exact ho.elim
  ·exact ho.elim
 ·exact ho.elim
theorem A0 {t el cM:Nat} {n:Nat} {z:List V} {dj:TypeInfo} {z':Value} (kW:E.P.underlying t=some (.slice el)) (hi:E.P.info? el=some dj) (hz:dj.zero=some z')
 (hzs:z'.cells.size=dj.size) (hpos:0<dj.size) {k k':IntKind} {l c:Int} (h0:0≤l) (h1:l≤c) (h2:c*(dj.bytes+1)≤70368744177664):
 (Instr.makeSlice t (.int k l) (.int k' c)).run E.P w=.ok (.slice (some ⟨w.heap.size,0,none⟩) l.toNat c.toNat)
  (w.alloc (.cells (Builtin.zeroCells z'.cells c.toNat) el)):=by
 have hc:0≤c:=by omega
 have TE:c*1≤c*(dj.bytes+1):=Int.mul_le_mul_of_nonneg_left (by omega) hc;have hm2:c*dj.bytes≤c*(dj.bytes+1):=Int.mul_le_mul_of_nonneg_left (by omega) hc;have hw1:IntKind.i64.wrap l=l:=IntWalk.i64_in _ ⟨by omega,by omega⟩;have hw2:IntKind.i64.wrap c=c:=IntWalk.i64_in _ ⟨by omega,by omega⟩;have e1:¬(281474976710656<(dj.bytes:Int)*c):=by rw[Int.mul_comm];omega
 have e2:¬c<0:=by omega
 have e3:¬l<0:=by omega
 have e4:¬c<l:=by omega
 have hroom:¬roomBytes<c.toNat*dj.bytes:=by
  have:((c.toNat*dj.bytes:Nat):Int)=c*dj.bytes:=by rw[Int.natCast_mul,Int.toNat_of_nonneg hc]
  unfold roomBytes;omega
 have hz0:z'.cells.size≠0:=by omega
 by_cases hn:c.toNat*dj.size=0
 ·have hcn:c.toNat=0:=by
   rcases Nat.mul_eq_zero.1 hn with h|h
   ·exact h
   ·omega
  simp [Instr.makeSlice,run_underlying kW,typeInfo,sizeOf,hi,hw1,hw2,e1,e2,e3,e4,askRoom,hroom,hn,hcn,newRow,Builtin.zeroCells,asInt,asIntOf,hzs];have hr:Array.range 0= #[]:=by simp
  rw[hr,Array.map_empty,Array.map_empty]
 ·simp [Instr.makeSlice,run_underlying kW,typeInfo,sizeOf,zeroValue,hi,hz,hw1,hw2,e1,e2,e3,e4,askRoom,hroom,hn,newRow,Builtin.zeroCells,asInt,asIntOf,hzs]
theorem yK {e:TypeId} {cs:List V} {off b:Nat} (hc:fT ρ e cs true w.heap[b]?):∃w',(markStringish ⟨b,off,none⟩).run E.P w=.ok () w'∧fT ρ e cs true w'.heap[b]? ∧pf b w w':=by
 obtain⟨cs',fz,hb,hvs,hone,hfz⟩:=hc;have hsh:w.shape? b=some (e,cs'.size):=by simp [World.shape?,hb]
 refine⟨w.freeze ⟨b,cs'.size,none⟩ 1,by simp [markStringish,shape,freeze,Sem.run,hsh], ?_, ?_⟩
 ·refine⟨cs',if fz.1 == fz.2 then (cs'.size,cs'.size+1) else (min fz.1 cs'.size,max fz.2 (cs'.size+1)), ?_,hvs,hone,fun _=>.inr ?_⟩
  ·simp [World.freeze,Array.getElem?_modify,hb]
  ·have:=hfz rfl;split
   ·simp
   ·rename_i hne;have hne:fz.1≠fz.2:=by simpa using hne
    simp only[Nat.le_min];omega
 ·refine⟨fun b' hb'=> ?_,by simp [World.freeze],rfl,rfl,rfl⟩;simp only[World.freeze,Array.getElem?_modify];rw[if_neg (by decide)];simp only[Array.getElem?_modify];rw[if_neg (fun e=>hb' e.symm)]
theorem ur {H:ag} {id:Nat} {o:Obj} (h:H.get id=some o):H.put id o=H:=by
 unfold ag.put;congr 1;funext j;rw[aW];by_cases hj:j=id
 ·subst hj;simp [h]
 ·simp [hj]
theorem Dv {H:ag} (hr:HR ρ H w) {id off n:Nat} (h:H.wr id off n=true):∃e cs b,H.get id=some (.cells e cs false)∧off+n≤cs.length∧ρ id=some b∧fT ρ e cs true w.heap[b]? :=by
 unfold ag.wr at h;split at h
 ·rename_i e cs ro hg;rw[Bool.and_eq_true] at h;have hro:ro=false:=by simpa using h.1
  subst hro;obtain⟨b,h1,h2⟩:=hr.wR id _ hg;exact⟨e,cs,b,hg,Nat.le_of_ble_eq_true h.2,h1,h2⟩
 ·cases h
end
section
variable {E:ku} {H0:ag} {ρ0:dC} {w0:World} {ann:bO} {N:Nat} {ρ lam:dC} {S:St} {a:Act} {w:World}
theorem uu {d:TypeDesc} {k e:TypeId} (h:bo d=.map k e):d=.map k e:=by cases d<;>simp_all [bo]
theorem Q7 {t:TypeId} {i:TI} {z:V} (h:E.ti t=some i) (hz:i.zero=some z) (ρ:dC) (w:World):∃z',(zeroValue t).run E.P w=.ok z' w∧VR ρ z z':=by
 obtain⟨dj,dt,hi,hu,hd,_,_,KS⟩:=jO h;rw[hz] at KS;obtain⟨z',EG,ya⟩:=Option.bind_eq_some_iff.1 KS;exact⟨z',by simp [zeroValue,typeInfo,hi,EG],iC ya⟩
theorem fp {em:Bool} {kt:TypeId} {k kd:IntKind} {n:Int} (h:E.P.underlying kt=some (.int kd)):(Instr.checkKey em 10000 kt (.int k n)).run E.P w=.ok () w:=by
 have:∀m,(Instr.checkKey em (m+1) kt (.int k n)).run E.P w=.ok () w:=by
  intro m;simp [Instr.checkKey,run_underlying h]
 exact this 9999
theorem uv {kd k:IntKind} {n:Int}:∀{es:List (V×V×Nat)} {es':List MapEntry} (i:Nat),js ρ es es'→sw k es=true→(nr n es=none∧Instr.findNow (.int kd) (.int k n) es' i=some none)∨∃v j e,nr n es=some v∧Instr.findNow (.int kd) (.int k n) es' i=some (some (i+j,e.val))∧es'[j]? =some e∧VR ρ v e.val∧e.key=.int k n∧(∀v2 x2,VR ρ v2 x2→js ρ (EY n v2 es) (es'.modify j fun e=>{e with key:=.int k n,val:=x2}))∧js ρ (yc n es) (es'.eraseIdx j)
 |[],[],i,_,_=>.inl ⟨rfl,rfl⟩
 |[],_::_,_,h,_=>h.elim
 |_::_,[],_,h,_=>h.elim
 |x::l,y::m,i,h,hk=>by
  obtain⟨⟨h1,h2,h3⟩,h4⟩:=h;rw[sw,Bool.and_eq_true] at hk;obtain⟨hx,hk⟩:=hk;have hx':x.1=.int k x.1.aa:=(V.sr hx).symm;have hy:y.key=.int k x.1.aa:=VR.iv (hx'▸h1);by_cases hn:x.1.aa=n
  ·right;rw[hn] at hx' hy;refine⟨x.2.1,0,y,by simp [nr,hn],by simp [Instr.findNow,Instr.sameNow,hy],rfl,h2,hy,fun v2 x2 hv=> ?_, ?_⟩
   ·simp only[EY,hn,decide_true,cond_true,List.modify_zero_cons];exact⟨⟨by rw[hx'];exact .int k n,hv,h3⟩,h4⟩
   ·simp only[yc,hn,decide_true,cond_true,List.eraseIdx_cons_zero];exact h4
  ·have hn':¬n=x.1.aa:=fun e=>hn e.symm
   have hb:(n == x.1.aa)=false:=by simpa using hn'
   rcases uv (kd:=kd) (n:=n) (i+1) h4 hk with⟨g1,g2⟩|⟨v,j,e,g1,g2,g3,g4,g5,g6,g7⟩
   ·exact .inl ⟨by simp [nr,hn,g1],by simp [Instr.findNow,Instr.sameNow,hy,hb,g2]⟩
   ·refine .inr ⟨v,j+1,e,by simp [nr,hn,g1], ?_,by simpa using g3,g4,g5,fun v2 x2 hv=> ?_, ?_⟩
    ·simp only[Instr.findNow,Instr.sameNow,hy,hb,if_true,g2];rw[Nat.add_assoc,Nat.add_comm 1 j]
    ·simp only[EY,hn,decide_false,cond_false,List.modify_succ_cons];exact⟨⟨h1,h2,h3⟩,g6 v2 x2 hv⟩
    ·simp only[yc,hn,decide_false,cond_false,List.eraseIdx_cons_succ];exact⟨⟨h1,h2,h3⟩,g7⟩
theorem sO {H:ag} {id:Nat} (h:H.isMap id=true):H.get id=some (.map (H.ents id) (H.clock id)):=by
 unfold ag.isMap at h;split at h
 ·rename_i es c hg;simp [ag.ents,ag.clock,hg]
 ·cases h
theorem gU {w:World} {b:Nat} {es:Array MapEntry} {c:Nat} (h:w.heap[b]? =some (.map es c)):(getObj b).run E.P w=.ok (.map es c) w:=by
 simp [getObj,Sem.run,h]
theorem BF {w:World} {b:Nat} {m:Option Nat} {s l:Nat} {seen:Array Nat} (h:w.heap[b]? =some (.mapIter m s seen l)):(getObj b).run E.P w=.ok (.mapIter m s seen l) w:=by
 simp [getObj,Sem.run,h]
theorem qU {w:World} {b:Nat} {es:Array MapEntry} {c:Nat} {o':Go.Obj} (h:w.heap[b]? =some (.map es c)):(setObj b o').run E.P w=.ok () {w with heap:=w.heap.setIfInBounds b o'}:=by
 simp [setObj,Sem.run,h]
theorem pN (w:World) (b:Nat) (o:Go.Obj):pf b w {w with heap:=w.heap.setIfInBounds b o}:=
 ⟨fun b' hb=>by simp [Array.getElem?_setIfInBounds,Ne.symm hb],by simp,rfl,rfl,rfl⟩
theorem yL {w:World} {b:Nat} {x o:Go.Obj} (h:w.heap[b]? =some x):({w with heap:=w.heap.setIfInBounds b o}:World).heap[b]? =some o:=by
 have:b<w.heap.size:=by
  rcases Nat.lt_or_ge b w.heap.size with g|g
  ·exact g
  ·rw[Array.getElem?_eq_none g] at h;cases h
 simp [Array.getElem?_setIfInBounds,this]
theorem yM {H:ag} (hr:HR ρ H w) {k:IntKind} {id:Nat} {x:Value} (hx:VR ρ (.map (some id)) x) (hok:eD H k (some id)=true):∃b es',ρ id=some b∧x=.map (some b)∧H.get id=some (.map (H.ents id) (H.clock id))∧w.heap[b]? =some (.map es' (H.clock id))∧js ρ (H.ents id) es'.toList∧sw k (H.ents id)=true:=by
 simp only[eD,Option.isNone_some,Bool.false_or,Option.getD_some,Bool.and_eq_true] at hok;have hg:=sO hok.1;obtain⟨b,hb,es',he,G4⟩:=hr.wR id _ hg
 cases hx with
 |map hb'=>
  rw[hb] at hb';cases hb';exact⟨b,es',hb,rfl,hg,he,G4,hok.2⟩
theorem Dw {t kt et:TypeId} {k:IntKind} (kW:E.P.underlying t=some (.map kt et)) (G5:E.P.underlying kt=some (.int k)) {z:V} {z':Value} (hz:(zeroValue et).run E.P w=.ok z' w) (hzv:VR ρ z z') {H:ag} (hr:HR ρ H w) {r:Option Nat} {x:Value} (hx:VR ρ (.map r) x) {n:Int} (hok:eD H k r=true) (c:Bool):∃v',VR ρ (cq H r n z) v'∧(Instr.lookup t x (.int k n) c).run E.P w=.ok (if c then .tuple #[v',.bool (lh H r n)] else v') w:=by
 cases r with
 |none=>
  cases hx;refine⟨z',hzv, ?_⟩;cases c<;>simp [Instr.lookup,run_underlying kW,fp (E:=E) G5,Instr.findKey,run_underlying G5,Instr.findNow,hz,lh]
 |some id=>
  obtain⟨b,es',hb,rfl,hg,he,G4,Qn⟩:=yM hr hx hok;rcases uv (kd:=k) (n:=n) 0 G4 Qn with⟨g1,g2⟩|⟨v,j,e,g1,g2,g3,g4,g5,g6,g7⟩
  ·refine⟨z',by simpa [cq,g1] using hzv, ?_⟩;cases c<;>simp [Instr.lookup,run_underlying kW,gU (E:=E) he,fp (E:=E) G5,Instr.findKey,run_underlying G5,g2,hz,lh,g1]
  ·refine⟨e.val,by simpa [cq,g1] using g4, ?_⟩;cases c<;>simp [Instr.lookup,run_underlying kW,gU (E:=E) he,fp (E:=E) G5,Instr.findKey,run_underlying G5,g2,hz,lh,g1]
theorem js.Xn {x:V×V×Nat} {y:MapEntry} (h:VR ρ x.1 y.key∧VR ρ x.2.1 y.val∧x.2.2=y.born):∀{l:List (V×V×Nat)} {m:List MapEntry},js ρ l m→js ρ (l++[x]) (m++[y])
 |[],[],_=>⟨h,trivial⟩
 |_::_,_::_,hl=>⟨hl.1,js.Xn h hl.2⟩
 |[],_::_,hl=>hl.elim
 |_::_,[],hl=>hl.elim
theorem xq {t kt et:TypeId} {k:IntKind} (kW:E.P.underlying t=some (.map kt et)) (G5:E.P.underlying kt=some (.int k)) {H:ag} (hr:HR ρ H w) {id:Nat} {x:Value} (hx:VR ρ (.map (some id)) x) {n:Int} (hok:eD H k (some id)=true) {v:V} {y:Value} (hv:VR ρ v y):∃b w' o,ρ id=some b∧(Instr.mapUpdate t x (.int k n) y).run E.P w=.ok () w'∧pf b w w'∧H.get id=some (.map (H.ents id) (H.clock id))∧il H k id n v=H.put id o∧o.rw =true∧Fh ρ o w'.heap[b]? :=by
 obtain⟨b,es',hb,rfl,hg,he,G4,Qn⟩:=yM hr hx hok;rcases uv (kd:=k) (n:=n) 0 G4 Qn with⟨g1,g2⟩|⟨v0,j,e,g1,g2,g3,g4,g5,g6,g7⟩
 ·refine⟨b,_,.map (H.ents id++[(.int k n,v,H.clock id)]) (H.clock id+1),hb, ?_,pN w b (.map (es'.push {key:=.int k n,val:=y,born:=H.clock id}) (H.clock id+1)),hg, ?_,rfl, ?_⟩
  ·simp [Instr.mapUpdate,run_underlying kW,gU (E:=E) he,fp (E:=E) G5,Instr.findKey,run_underlying G5,g2,qU (E:=E) he]
  ·simp [il,g1]
  ·exact⟨_,yL he,by rw[Array.toList_push];exact G4.Xn ⟨.int k n,hv,rfl⟩⟩
 ·have hj:es'[j]? =some e:=by simpa using g3
  refine⟨b,_,.map (EY n v (H.ents id)) (H.clock id),hb, ?_,pN w b (.map (es'.modify j fun e=>{e with key:=.int k n,val:=y}) (H.clock id)),hg, ?_,rfl, ?_⟩
  ·simp [Instr.mapUpdate,run_underlying kW,gU (E:=E) he,fp (E:=E) G5,Instr.findKey,run_underlying G5,g2,qU (E:=E) he,hj,g5,Instr.keyThatStays,Instr.sameBits]
  ·simp [il,g1]
  ·exact⟨_,yL he,by rw[Array.toList_modify];exact g6 v y hv⟩
theorem Dx {t kt et u ty:TypeId} {k:IntKind} (kW:E.P.underlying t=some (.map kt et)) (G5:E.P.underlying kt=some (.int k)) {H:ag} (hr:HR ρ H w) {id:Nat} {x:Value} (hx:VR ρ (.map (some id)) x) {n:Int} (hok:eD H k (some id)=true) {ts:Array TypeId} (hts:ts[0]? =some t):∃b w' o,ρ id=some b∧(Builtin.delete_ ts ty #[x,.int k n]).run E.P w=.ok (.tuple #[]) w'∧pf b w w'∧H.get id=some (.map (H.ents id) (H.clock id))∧pA H (some id) n=H.put id o∧o.rw =true∧Fh ρ o w'.heap[b]? :=by
 obtain⟨b,es',hb,rfl,hg,he,G4,Qn⟩:=yM hr hx hok
 have EJ:∀l:List (V×V×Nat),nr n l=none→yc n l=l:=by
  intro l
  induction l with
  |nil=>intro _;rfl
  |cons x l ih=>
   intro h;simp only[nr] at h;by_cases hn:x.1.aa=n
   ·simp [hn] at h
   ·simp only[hn,decide_false,cond_false] at h;simp [yc,hn,ih h]
 rcases uv (kd:=k) (n:=n) 0 G4 Qn with⟨g1,g2⟩|⟨v0,j,e,g1,g2,g3,g4,g5,g6,g7⟩
 ·refine⟨b,_,.map (yc n (H.ents id)) (H.clock id),hb, ?_,pN w b (.map es' (H.clock id)),hg, ?_,rfl, ?_⟩
  ·simp [Builtin.delete_,hts,run_underlying kW,gU (E:=E) he,fp (E:=E) G5,Instr.findKey,run_underlying G5,g2,qU (E:=E) he]
  ·simp [pA]
  ·exact⟨_,yL he,by rw[EJ _ g1];exact G4⟩
 ·refine⟨b,_,.map (yc n (H.ents id)) (H.clock id),hb, ?_,pN w b (.map (es'.eraseIdxIfInBounds j) (H.clock id)),hg, ?_,rfl, ?_⟩
  ·simp [Builtin.delete_,hts,run_underlying kW,gU (E:=E) he,fp (E:=E) G5,Instr.findKey,run_underlying G5,g2,qU (E:=E) he]
  ·simp [pA]
  ·refine⟨_,yL he, ?_⟩;have:(es'.eraseIdxIfInBounds j).toList=es'.toList.eraseIdx j:=by simp
   rw[this];exact g7
theorem Fv:∀{l:List (V×V×Nat)} {m:List MapEntry},js ρ l m→l.length=m.length
 |[],[],_=>rfl
 |_::_,_::_,hl=>by simp [Fv hl.2]
 |[],_::_,hl=>hl.elim
 |_::_,[],hl=>hl.elim
theorem yN {n:Nat}:∀{l:List Nat},tP n l=true↔n∈l
 |[]=>by simp [tP]
 |x::l=>by
  rw[tP,Bool.or_eq_true,yN,List.mem_cons];exact⟨fun h=>h.imp Nat.eq_of_beq_eq_true id,fun h=>h.imp (fun e=>by subst e;exact Nat.beq_refl n) id⟩
theorem yO {bW:Nat}:∀{l:List (V×V×Nat)} {m:List MapEntry},js ρ l m→oa bW l=true→∀x∈m,x.born<bW
 |[],[],_,_=>by simp
 |x::l,y::m,hl,ha=>by
  rw[oa,Bool.and_eq_true] at ha;intro z hz;rcases List.mem_cons.1 hz with rfl|hz
  ·rw[←hl.1.2.2];simpa using ha.1
  ·exact yO hl.2 ha.2 z hz
 |[],_::_,hl,_=>hl.elim
 |_::_,[],hl,_=>hl.elim
theorem Fw {seen:List Nat}:∀{l:List (V×V×Nat)} {m:List MapEntry},js ρ l m→lg seen l=(m.filter fun e=> !seen.toArray.contains e.born).map (·.born)
 |[],[],_=>rfl
 |x::l,y::m,hl=>by
  have ih:=Fw (seen:=seen) hl.2;have hb:=hl.1.2.2
  have hc:seen.toArray.contains y.born=tP x.2.2 seen:=by
   rw[hb];cases h:tP y.born seen
   ·have:¬y.born∈seen:=fun e=>by rw[yN.2 e] at h;cases h
    simpa using this
   ·have:y.born∈seen:=yN.1 h;simpa using this
  simp only[lg,List.filter_cons,hc];cases tP x.2.2 seen
  ·simp [hb,ih]
  ·simp [ih]
 |[],_::_,hl=>hl.elim
 |_::_,[],hl=>hl.elim
theorem Fx {b:Nat}:∀{l:List (V×V×Nat)} {m:List MapEntry} {k v:V},js ρ l m→Bt b l=some (k,v)→∃e,m.find? (·.born == b)=some e∧VR ρ k e.key∧VR ρ v e.val
 |[],[],_,_,_,h=>by cases h
 |x::l,y::m,k,v,hl,h=>by
  have hb:=hl.1.2.2;simp only[Bt,aW] at h;by_cases hx:x.2.2=b
  ·simp only[hx,decide_true,cond_true,Option.some.injEq,Prod.mk.injEq] at h;obtain⟨rfl,rfl⟩:=h;exact⟨y,by simp [←hb,hx],hl.1.1,hl.1.2.1⟩
  ·simp only[hx,decide_false,cond_false] at h;obtain⟨e,h1,h2⟩:=Fx hl.2 h;have hy:(y.born == b)=false:=by rw[←hb];simpa using hx
   exact⟨e,by rw[List.find?_cons,hy];exact h1,h2⟩
 |[],_::_,_,_,hl,_=>hl.elim
 |_::_,[],_,_,hl,_=>hl.elim
theorem Fy:∀{l:List Nat} {b:Nat},Bu l=some b→l.toArray.back?=some b
 |[],_,h=>by cases h
 |[x],b,h=>by simpa [Bu] using h
 |x::y::l,b,h=>by
  have:=Fy (l:=y::l) h;simpa using this
theorem A7 (h:SR H0 ρ0 w0 ann N ρ lam S a w) {id b:Nat} {ty:TypeId} (hb:ρ id=some b) {K1:Prop} {K2:ag→Prop} (ho:mapNext S.hp id K1 K2):(K1∧(Instr.next (.pointer (some ⟨b,0,none⟩)) false ty).run E.P w=.ok (.tuple #[.bool false]) w)∨∃H' w' k v,K2 H'∧(Instr.next (.pointer (some ⟨b,0,none⟩)) false ty).run E.P w=.ok (.tuple #[.bool true,k,v]) w'∧SR H0 ρ0 w0 ann N ρ lam {S with hp:=H'} a w':=by
 unfold mapNext at ho;split at ho
 ·rename_i bW seen tO hg;obtain⟨b',hb',m',he,hm⟩:=h.hr.wR id _ hg;rw[hb] at hb';cases hb';cases hm;exact .inl ⟨ho,by simp [Instr.next,BF (E:=E) he]⟩
 ·rename_i m bW seen tO hg;split at ho
  ·rename_i es c hgm;obtain⟨b',hb',m',he,hm⟩:=h.hr.wR id _ hg;rw[hb] at hb';cases hb';obtain⟨bm,W5,es',hem,G4⟩:=h.hr.wR m _ hgm
   cases hm with
   |map Qo=>
    rw[W5] at Qo;cases Qo
    cases hc:(oa bW es&&Nat.ble bW tO) with
    |false=>simp only[hc,cond_false] at ho
    |true=>
     simp only[hc,cond_true] at ho;rw[Bool.and_eq_true] at hc;have hold:=yO G4 hc.1;have hleft:=Fw (seen:=seen) G4;have hlo:(leftOf es' seen.toArray).toList=es'.toList.filter fun e=> !seen.toArray.contains e.born:=by simp [leftOf]
     rcases run_next_at (P:=E.P) w ty b bm bW tO seen.toArray es' c he hem hold (Nat.le_of_ble_eq_true hc.2) with⟨h1,h2⟩|⟨e,h1,w1,h2,h3⟩
     ·have h0:lg seen es=[]:=by
       rw[hleft, ←hlo]
       have:(leftOf es' seen.toArray).toList=[]:=by
        apply List.eq_nil_of_length_eq_zero;simpa using h1
       rw[this];rfl
      rw[h0] at ho;exact .inl ⟨ho,h2⟩
     ·rw[hlo] at h1
      have hmem:e.born∈lg seen es:=by
       rw[hleft];exact List.mem_map.2 ⟨e,h1,rfl⟩
      have hk:K2 (S.hp.put id (.dO (some m) bW (seen++[e.born]) c)):=by
       cases hl:lg seen es with
       |nil=>rw[hl] at hmem;cases hmem
       |cons x l=>
        rw[hl] at ho hmem;exact ho _ hmem
      refine .inr ⟨_,_,_,_,hk,h3, ?_⟩
      have key:∀w2:World,SR H0 ρ0 w0 ann N ρ lam S a w2→w2.heap=w.heap→SR H0 ρ0 w0 ann N ρ lam {S with hp:=S.hp.put id (.dO (some m) bW (seen++[e.born]) c)} a
       (Go.ChangeMaps.setBlock w2 b (.mapIter (some bm) bW (seen.toArray.push e.born) c)):=by
       intro w2 hs hw;have SD:w2.heap[b]? =some (.mapIter (some bm) bW seen.toArray tO):=by rw[hw];exact he
       refine hs.Dq hg rfl rfl hb (pN w2 b _) ?_;exact⟨_,by unfold Go.ChangeMaps.setBlock;rw[yL SD];simp,.map W5⟩
      rcases h2 with rfl|rfl
      ·exact key _ h rfl
      ·exact key _ (h.drew _) rfl
  ·exact ho.elim
 ·exact ho.elim
theorem Dy {H:ag} (hr:HR ρ H w) {id b:Nat} (hb:ρ id=some b) (h:sx H id=true):∃k v,(Instr.entry (.pointer (some ⟨b,0,none⟩))).run E.P w=.ok (.tuple #[k,v]) w∧VR ρ (kJ H id) k∧VR ρ (iO H id) v:=by
 unfold sx at h;obtain⟨p,hp⟩:=Option.isSome_iff_exists.1 h;have hk:kJ H id=p.1:=by simp [kJ,hp]
 have hv:iO H id=p.2:=by simp [iO,hp]
 rw[hk,hv];unfold vE at hp;split at hp
 ·rename_i m bW seen tO hg;split at hp
  ·rename_i es c s hgm hl;obtain⟨b',hb',m',he,hm⟩:=hr.wR id _ hg;rw[hb] at hb';cases hb';obtain⟨bm,W5,es',hem,G4⟩:=hr.wR m _ hgm
   cases hm with
   |map Qo=>
    rw[W5] at Qo;cases Qo;simp only[aW] at hp;by_cases hc:c=tO
    ·subst hc;simp only[decide_true,cond_true] at hp;obtain⟨e,h1,h2,h3⟩:=Fx (k:=p.1) (v:=p.2) G4 hp;have xk:es'.find? (·.born == s)=some e:=by rw[←Array.find?_toList];exact h1
     refine⟨e.key,e.val, ?_,h2,h3⟩;simp [Instr.entry,BF (E:=E) he,gU (E:=E) hem,Fy hl,xk]
    ·simp only[hc,decide_false,cond_false] at hp;cases hp
  ·cases hp
 ·cases hp
end
end Go.Am
end
