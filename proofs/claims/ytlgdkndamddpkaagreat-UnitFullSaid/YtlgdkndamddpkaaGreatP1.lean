/- Part 1 of the texts behind the law UnitFull: what its row needs (an abstract machine, its equations, and what the program computes). -/
import Derived.Orders
import Derived.LoopN
import Derived.Laws.IdiomCopy
import Derived.ChangeKeysEq
import Derived.Laws.Append
import Derived.Laws.AppendOwn
import Derived.IntWalk
import Derived.Maps.RangeRun
set_option maxRecDepth 100000
set_option linter.unusedSimpArgs false
set_option linter.unusedVariables false
set_option linter.unusedSectionVars false
section
namespace Go.Am
abbrev Oq:=Option (Nat×Nat)
inductive V where
 |bool (b:Bool)
 |int (k:IntKind) (n:Int)
 |cI (s:ByteArray)
 |aj (p:Oq)
 |slice (p:Oq) (len cap:Nat)
 |map (r:Option Nat)
 |func (f:FuncId) (dF:List V)
 |o8 (f:FuncId) (first:List V)
 |dN (t:TypeId) (id:Nat)
 |nilFunc
 |iface (t:TypeId) (v:V)
 |nilIface
 |agg (cs:List V)
 |tuple (vs:List V)
 |cx
 deriving Inhabited
namespace V
def none:V:=.tuple []
def ak:V→Bool| .bool b=>b|_=>false
def aa:V→Int| .int _ n=>n|_=>0
def jr:V→ByteArray| .cI s=>s|_=>ByteArray.empty
def ay:V→Oq| .aj p=>p|_=>Option.none
def au:V→Oq| .slice p _ _=>p|_=>Option.none
def aw:V→Nat| .slice _ n _=>n|_=>0
def aC:V→Nat| .slice _ _ c=>c|_=>0
def dv:V→Option Nat| .map r=>r|_=>Option.none
def af:V→List V| .agg cs=>cs|_=>[]
def aq:V→List V| .tuple vs=>vs|_=>[]
def cells:V→List V| .agg cs=>cs|v=>[v]
def isAgg:V→Bool| .agg _=>true|_=>false
def aL (n:Nat):V→Bool| .tuple vs=>vs.length == n|_=>false
def nc:V→Bool| .nilFunc=>true|_=>false
def fA:V→Bool| .nilIface=>true|_=>false
def CE:V→TypeId| .iface t _=>t|_=>0
def M9:V→V| .iface _ v=>v|v=>v
def one:V→Bool| .agg _| .tuple _| .cx=>false|_=>true
end V
def SV:IntKind→Nat
 | .i8=>0| .i16=>1| .i32=>2| .i64=>3| .u8=>4| .u16=>5| .u32=>6| .u64=>7
def pw (a b:IntKind):Bool:=Nat.beq (SV a) (SV b)
@[simp] theorem nf (a b:IntKind):pw a b=decide (a=b):=by cases a<;>cases b<;>decide
def QN:Bool→Bool→Bool
 |true,b=>b
 |false,b=> !b
theorem QO (w b:Bool):QN w b=(b == w):=by cases w<;>cases b<;>rfl
inductive cq where
 |bool|int (k:IntKind)|cI|aj|slice|map|func|iface|mr
 deriving DecidableEq,Inhabited
def V.cU:V→cq
 | .bool _=>.bool| .int k _=>.int k| .cI _=>.cI| .aj _=>.aj| .slice .. =>.slice| .map _=>.map
 | .func .. | .o8 .. | .nilFunc=>.func| .iface .. | .nilIface=>.iface|_=>.mr
def V.ax:cq→V→Bool
 | .bool,.bool _=>true
 | .int k,.int k' _=>pw k k'
 | .cI,.cI _=>true
 | .aj,.aj _=>true
 | .slice,.slice .. =>true
 | .map,.map _=>true
 | .func,.func .. =>true
 | .func,.o8 .. =>true
 | .func,.nilFunc=>true
 | .iface,.iface .. =>true
 | .iface,.nilIface=>true
 |_,_=>false
def V.SW:cq→V→V
 | .bool,v=>.bool v.ak
 | .int k,v=>.int k v.aa
 | .cI,v=>.cI v.jr
 | .aj,v=>.aj v.ay
 | .slice,v=>.slice v.au v.aw v.aC
 | .map,v=>.map v.dv
 |_,v=>v
theorem V.sb {k:cq} {v:V} (h:v.ax k=true):v.SW k=v:=by
 cases k<;>cases v<;>simp_all [V.ax,V.SW,ak,aa,jr,ay,au,aw,aC,dv]
theorem V.sd {k:cq} {v:V} (h:v.ax k=true):v.one=true:=by
 cases k<;>cases v<;>simp_all [V.ax,V.one]
def ae:List V→Nat→V
 |[],_=>.none
 |x::_,0=>x
 |_::l,n+1=>ae l n
def aI:List cq→List V→Bool
 |[],[]=>true
 |k::ks,v::vs=>v.ax k&&aI ks vs
 |_,_=>false
def nZ:List cq→List V→Nat→List V
 |[],_,_=>[]
 |k::ks,cs,j=>(ae cs j).SW k::nZ ks cs (j+1)
def bS (c:Bool):V→V→V
 | .int k x,.int k' y=>bif pw k k' then .int k (bif c then x else y) else (bif c then .int k x else .int k' y)
 | .bool x,.bool y=>.bool (bif c then x else y)
 | .cI x,.cI y=>.cI (bif c then x else y)
 |a,b=>bif c then a else b
theorem ng (c:Bool) (a b:V):bS c a b=if c then a else b:=by
 unfold bS;split
 ·rename_i k x k' y;by_cases h:k=k'
  ·subst h;cases c<;>simp
  ·cases c<;>simp [h]
 ·cases c<;>rfl
 ·cases c<;>rfl
 ·cases c<;>rfl
def tC (c:Bool):List V→List V→Option (List V)
 |[],[]=>some []
 |x::l,y::m=>match tC c l m with|some r=>some (bS c x y::r)|none=>none
 |_,_=>none
def Hm (c:Bool):V→V→V
 | .agg xs,.agg ys=>match tC c xs ys with|some r=>.agg r|none=>bif c then .agg xs else .agg ys
 |a,b=>bS c a b
theorem se {c:Bool}:∀{xs ys r:List V},tC c xs ys=some r→r=if c then xs else ys
 |[],[],r,h=>by cases h;cases c<;>rfl
 |x::l,y::m,r,h=>by
  simp only[tC] at h;split at h
  ·rename_i r' h';cases h;rw[ng,se h'];cases c<;>rfl
  ·cases h
 |[],_::_,_,h=>by cases h
 |_::_,[],_,h=>by cases h
theorem KZ (c:Bool) (a b:V):Hm c a b=if c then a else b:=by
 unfold Hm;split
 ·split
  ·rename_i r h;rw[se h];cases c<;>rfl
  ·cases c<;>rfl
 ·exact ng c _ _
def x7:List V→Nat→Nat→V→List V
 |[],_,_,_=>[]
 |x::l,j,n,v=>bS (Nat.beq j n) v x::x7 l (j+1) n v
def bI:List V→Nat→List V→List V
 |cs,_,[]=>cs
 |cs,off,v::vs=>bI (x7 cs 0 off v) (off+1) vs
inductive T where
 |v (x:V)
 |lp (s off:Nat)
 |undef
 deriving Inhabited
inductive aU where
 |cells (e:TypeId) (cs:List V)
 |dN (s:ByteArray) (jj:Nat)
 deriving Inhabited
inductive Obj where
 |cells (e:TypeId) (cs:List V) (ro:Bool)
 |map (es:List (V×V×Nat)) (clock:Nat)
 |dN (m:Option Nat) (bW:Nat) (seen:List Nat) (tD:Nat)
 deriving Inhabited
def sf (k:IntKind):List (V×V×Nat)→Bool
 |[]=>true
 |e::l=>e.1.ax (.int k)&&sf k l
def nh (n:Int):List (V×V×Nat)→Option V
 |[]=>none
 |e::l=>bif decide (e.1.aa=n) then some e.2.1 else nh n l
def ES (n:Int) (v:V):List (V×V×Nat)→List (V×V×Nat)
 |[]=>[]
 |e::l=>bif decide (e.1.aa=n) then (e.1,v,e.2.2)::l else e::ES n v l
def x9 (n:Int):List (V×V×Nat)→List (V×V×Nat)
 |[]=>[]
 |e::l=>bif decide (e.1.aa=n) then l else e::x9 n l
def Bb (b:Nat):List (V×V×Nat)→Option (V×V)
 |[]=>none
 |e::l=>bif Nat.beq e.2.2 b then some (e.1,e.2.1) else Bb b l
def n5 (bW:Nat):List (V×V×Nat)→Bool
 |[]=>true
 |e::l=>Nat.blt e.2.2 bW&&n5 bW l
def tE (n:Nat):List Nat→Bool
 |[]=>false
 |x::l=>Nat.beq n x||tE n l
def lh (seen:List Nat):List (V×V×Nat)→List Nat
 |[]=>[]
 |e::l=>bif tE e.2.2 seen then lh seen l else e.2.2::lh seen l
def Bc:List Nat→Option Nat
 |[]=>none
 |[x]=>some x
 |_::l=>Bc l
def Na:List Nat:=[]
structure ag where
 get:Nat→Option Obj
 next:Nat
namespace ag
def cs (H:ag) (id:Nat):List V:=match H.get id with|some (.cells _ cs _)=>cs|_=>[]
def inb (H:ag) (id off n:Nat):Bool:=match H.get id with|some (.cells _ cs _)=>Nat.ble (off+n) cs.length|_=>false
def wr (H:ag) (id off n:Nat):Bool:=match H.get id with|some (.cells _ cs ro)=> !ro&&Nat.ble (off+n) cs.length|_=>false
def cell (H:ag) (id off:Nat):V:=ae (H.cs id) off
def sub (H:ag) (id off n:Nat):List V:=((H.cs id).drop off).take n
def put (H:ag) (id:Nat) (o:Obj):ag:={H with get:=fun j=>bif Nat.beq j id then some o else H.get j}
def store (H:ag) (id off:Nat) (vs:List V):ag:=
 match H.get id with
 |some (.cells e cs ro)=>H.put id (.cells e (bI cs off vs) ro)
 |_=>H
def alloc (H:ag) (o:Obj):ag:={get:=fun j=>bif Nat.beq j H.next then some o else H.get j,next:=H.next+1}
def ents (H:ag) (id:Nat):List (V×V×Nat):=match H.get id with|some (.map es _)=>es|_=>[]
def isMap (H:ag) (id:Nat):Bool:=match H.get id with|some (.map _ _)=>true|_=>false
def clock (H:ag) (id:Nat):Nat:=match H.get id with|some (.map _ c)=>c|_=>0
end ag
def eG (H:ag) (k:IntKind) (r:Option Nat):Bool:=r.isNone||(H.isMap (r.getD 0)&&sf k (H.ents (r.getD 0)))
def lj (H:ag) (r:Option Nat) (n:Int):Bool:=r.isSome&&(nh n (H.ents (r.getD 0))).isSome
def cu (H:ag) (r:Option Nat) (n:Int) (z:V):V:=bif r.isNone then z else (nh n (H.ents (r.getD 0))).getD z
def ya (H:ag) (r:Option Nat):Nat:=bif r.isNone then 0 else (H.ents (r.getD 0)).length
def ij (H:ag) (k:IntKind) (id:Nat) (n:Int) (v:V):ag:=
 bif (nh n (H.ents id)).isSome then H.put id (.map (ES n v (H.ents id)) (H.clock id))
 else H.put id (.map (H.ents id++[(.int k n,v,H.clock id)]) (H.clock id+1))
def px (H:ag) (r:Option Nat) (n:Int):ag:=bif r.isNone then H else H.put (r.getD 0) (.map (x9 n (H.ents (r.getD 0))) (H.clock (r.getD 0)))
def mapIter (H:ag) (r:Option Nat):Obj:=bif r.isNone then .dN none 0 [] 0 else .dN r (H.clock (r.getD 0)) [] (H.clock (r.getD 0))
def mapNext (H:ag) (id:Nat) (K1:Prop) (K2:ag→Prop):Prop:=
 match H.get id with
 |some (.dN none _ _ _)=>K1
 |some (.dN (some m) bW seen tD)=>
  match H.get m with
  |some (.map es c)=>
   bif n5 bW es&&Nat.ble bW tD then
    (match lh seen es with
    |[]=>K1
    |x::l=>∀b,b∈x::l→K2 (H.put id (.dN (some m) bW (seen++[b]) c)))
   else False
  |_=>False
 |_=>False
def vn (H:ag) (id:Nat):Option (V×V):=
 match H.get id with
 |some (.dN (some m) _ seen tD)=>
  match H.get m,Bc seen with
  |some (.map es c),some b=>bif Nat.beq c tD then Bb b es else none
  |_,_=>none
 |_=>none
def sg (H:ag) (id:Nat):Bool:=(vn H id).isSome
def kK (H:ag) (id:Nat):V:=((vn H id).getD (.cx,.cx)).1
def iJ (H:ag) (id:Nat):V:=((vn H id).getD (.cx,.cx)).2
structure St where
 tm:Nat→Option T
 lo:Nat→Option aU
 hp:ag
def St.setT (S:St) (d:Nat) (x:T):St:={S with tm:=fun t=>bif Nat.beq t d then some x else S.tm t}
def St.setL (S:St) (s:Nat) (x:aU):St:={S with lo:=fun t=>bif Nat.beq t s then some x else S.lo t}
def ab {α:Type}:List (Nat×α)→Nat→Option α
 |[],_=>none
 |(k,x)::l,n=>bif Nat.beq n k then some x else ab l n
inductive Nb where
 |bool|int (k:IntKind)|cI|aj (e:TypeId)|slice (e:TypeId)|map (k e:TypeId)|func|iface
 |arr (n:Nat) (e:TypeId)|struct (fs:List (Nat×TypeId))|tuple (ts:List TypeId)|mr
 deriving DecidableEq,Inhabited
structure TI where
 sh:Nb
 size:Nat
 bytes:Nat
 zero:Option V
 deriving Inhabited
def ofValue:Value→Option V
 | .bool b=>some (.bool b)
 | .int k n=>some (.int k n)
 | .string s=>some (.cI s)
 | .pointer none=>some (.aj none)
 | .slice none 0 0=>some (.slice none 0 0)
 | .map none=>some (.map none)
 | .nilFunc=>some .nilFunc
 | .nilIface=>some .nilIface
 |_=>none
def jQ:List Value→Option (List V)
 |[]=>some []
 |x::l=>match ofValue x,jQ l with
  |some y,some m=>some (y::m)
  |_,_=>none
def lk:Value→Option V
 | .agg cs=>match jQ cs.toList with|some l=>some (.agg l)|none=>none
 |v=>ofValue v
def bq:TypeDesc→Nb
 | .bool=>.bool
 | .int k=>.int k
 | .string=>.cI
 | .pointer e=>.aj e
 | .slice e=>.slice e
 | .map k e=>.map k e
 | .func .. =>.func
 | .interface _=>.iface
 | .array n e=>.arr n e
 | .struct fs=>.struct (fs.toList.map fun f=>(f.offset,f.type))
 | .tuple ts=>.tuple ts.toList
 |_=>.mr
def QP (P:Program) (t:TypeId):Option TI:=
 match P.info? t,P.underlying t with
 |some i,some d=>some {sh:=bq d,size:=i.size,bytes:=i.bytes,zero:=i.zero.bind lk}
 |_,_=>none
inductive KT where
 |k (k:cq)
 |agg (ks:List cq)
 |lp (s:Nat)
 |undef
 deriving Inhabited
structure js where
 cT:List Nat:=[]
 vo:List Nat:=[]
 cj:List (Nat×KT):=[]
 hI:List (Nat×TypeId×List cq):=[]
 mj:List (Nat×KT):=[]
 TZ:List (Nat×TypeId×List cq):=[]
 cA:List Nat:=[]
 mg:Bool:=false
 dl:Bool:=false
 wT:List Nat:=[]
 wL:List Nat:=[]
 deriving Inhabited
structure bQ where
 aY:List Nat:=[]
 aW:List (Nat×Nat):=[]
 bg:List (Nat×js):=[]
 aE:List (Nat×js):=[]
 deriving Inhabited
def bD (n:Nat):List Nat→Bool
 |[]=>false
 |x::l=>Nat.beq n x||bD n l
def ll (g:TypeId→Option (List cq)):List Field→Nat→Option (List cq)
 |[],_=>some []
 |f::l,o=>bif f.name != "_" &&Nat.beq f.offset o then (match g f.type with
  |some ks=>(match ll g l (o+ks.length) with|some r=>some (ks++r)|none=>none)
  |none=>none) else none
def Ay:Nat→List cq→List cq
 |0,_=>[]
 |n+1,ks=>ks++Ay n ks
def ln (P:Program):Nat→TypeId→Option (List cq)
 |0,_=>none
 |d+1,t=>match P.underlying t with
  |some .bool=>some [.bool]
  |some (.int k)=>some [.int k]
  |some .string=>some [.cI]
  |some (.struct fs)=>bif P.stoodInHeld t then none else match ll (ln P d) fs.toList 0 with
   |some ks=>bif Nat.beq (P.cellsOf t) ks.length then some ks else none
   |none=>none
  |some (.array n e)=>match ln P d e with
   |some ks=>bif Nat.beq (P.cellsOf e) ks.length&&Nat.beq (P.cellsOf t) (n*ks.length) then some (Ay n ks) else none
   |none=>none
  |_=>none
def iK:TypeDesc→Bool
 | .struct _=>true
 | .array _ _=>true
 |_=>false
def K3 (P:Program) (t:TypeId) (ks:List cq):Bool:=
 !P.eqGuardType P.depth t&&decide (ln P 50 t=some ks)&&(match P.underlying t with|some d=>iK d|none=>false)
structure Ext where
 run:List V→ag→(V→ag→Prop)→Prop
 mono:∀args H (K K':V→ag→Prop),(∀v H',K v H'→K' v H')→run args H K→run args H K'
 vp:∀args H (K:V→ag→Prop),run args H K→∃v H',K v H'
structure kv where
 P:Program
 ext:Nat→Option Ext:=fun _=>none
 fn:Nat→Option Func
 fn_ok:∀f x,fn f=some x→P.funcs[f]? =some x
 ti:Nat→Option TI
 ti_ok:∀t x,ti t=some x→QP P t=some x
 ann:Nat→bQ
 eqt:List (TypeId×List cq)
 eq_ok:∀t ks,ab eqt t=some ks→K3 P t ks=true
 names:P.funcs.toList.all (fun fn=> !(fn.name == "runtime.NumGoroutine"))=true
structure fR (α:Type) where
 rq:Bool
 c:Bool
 x:α
 y:α
def fR.one {α:Type} (rq:Bool) (x:α):fR α:=⟨rq,true,x,x⟩
abbrev Ev:=Operand→Option T
def cS (tm:Nat→Option T):Operand→Option T
 | .tmp t=>tm t
 | .const v=>match ofValue v with|some x=>some (.v x)|none=>none
 | .func f=>some (.v (.func f []))
 | .global _=>none
def jc (ev:Ev) (x:Operand):Option V:=match ev x with|some (.v y)=>some y|_=>none
def si (ev:Ev):List Operand→Option (List V)
 |[]=>some []
 |x::l=>match jc ev x,si ev l with
  |some y,some m=>some (y::m)
  |_,_=>none
def cO:Nb→Option cq
 | .bool=>some .bool
 | .int k=>some (.int k)
 | .cI=>some .cI
 | .aj _=>some .aj
 | .slice _=>some .slice
 | .map .. =>some .map
 | .func=>some .func
 | .iface=>some .iface
 |_=>none
section aF
variable (E:kv)
def size (t:TypeId):Option Nat:=match E.ti t with|some i=>some i.size|none=>none
def bh (t:TypeId):Option cq:=
 match E.ti t with
 |some i=>cO i.sh
 |none=>none
def n9 (t:TypeId):Option (List cq):=
 match E.ti t with
 |some i=>match i.sh,i.zero with
  | .arr ..,some (.agg z)=>some (z.map V.cU)
  | .struct _,some (.agg z)=>some (z.map V.cU)
  |_,_=>none
 |none=>none
def tF (t:TypeId) (v:V):Option (Bool×V):=
 match bh E t with
 |some k=>some (v.ax k,v.SW k)
 |none=>match n9 E t with
  |some ks=>some (v.isAgg&&aI ks v.af,.agg (nZ ks v.af 0))
  |none=>none
def tG:List TypeId→V→Nat→Option (Bool×List V)
 |[],_,_=>some (true,[])
 |t::ts,v,j=>match tF E t (ae v.aq j),tG ts v (j+1) with
  |some (b,x),some (c,l)=>some (b&&c,x::l)
  |_,_=>none
def tH (t:TypeId) (v:V):Option (Bool×V):=
 match E.ti t with
 |some i=>match i.sh with
  | .tuple []=>some (true,v)
  | .tuple ts=>match tG E ts v 0 with
    |some (b,l)=>some (v.aL ts.length&&b,.tuple l)
    |none=>none
  |_=>tF E t v
 |none=>none
def kL (y:Int) (n:Nat):Nat:=min y.toNat n
def vq (op:BinOp) (k:IntKind) (x y:Int):Option (Bool×V):=
 match op with
 | .add=>some (true,.int k (k.wrap (x+y)))
 | .sub=>some (true,.int k (k.wrap (x-y)))
 | .mul=>some (true,.int k (k.wrap (x*y)))
 | .quo=>some (!(y == 0),.int k (k.wrap (x.tdiv y)))
 | .rem=>some (!(y == 0),.int k (x.tmod y))
 | .and=>some (true,.int k (k.wrap (BitVec.ofInt k.bits x &&& BitVec.ofInt k.bits y).toNat))
 | .or=>some (true,.int k (k.wrap (BitVec.ofInt k.bits x ||| BitVec.ofInt k.bits y).toNat))
 | .xor=>some (true,.int k (k.wrap (BitVec.ofInt k.bits x ^^^ BitVec.ofInt k.bits y).toNat))
 | .andNot=>some (true,.int k (k.wrap (BitVec.ofInt k.bits x &&& ~~~ BitVec.ofInt k.bits y).toNat))
 | .eql=>some (true,.bool (x == y))
 | .neq=>some (true,.bool (x != y))
 | .lss=>some (true,.bool (decide (x<y)))
 | .leq=>some (true,.bool (decide (x≤y)))
 | .gtr=>some (true,.bool (decide (x>y)))
 | .geq=>some (true,.bool (decide (x≥y)))
 | .shl=>some (decide (0≤y),.int k (k.wrap (x*2 ^ (kL y k.bits))))
 | .shr=>some (decide (0≤y),.int k (x.fdiv (2 ^ (kL y k.bits))))
def mu (x y:ByteArray):Bool:=x.toList == y.toList
def Xs (x y:ByteArray):ByteArray:=x++y
def Nc (x y:ByteArray):Bool:=Nat.ble (x.size+y.size) 9223372036854775807
def Hn (op:BinOp) (x y:ByteArray):Option (Bool×V):=
 match op with
 | .add=>some (Nc x y,.cI (Xs x y))
 | .eql=>some (true,.bool (mu x y))
 | .neq=>some (true,.bool (!(mu x y)))
 | .lss=>some (true,.bool (Op.bytesLess x.toList y.toList))
 | .leq=>some (true,.bool (Op.bytesLess x.toList y.toList||x.toList == y.toList))
 | .gtr=>some (true,.bool (!(Op.bytesLess x.toList y.toList||x.toList == y.toList)))
 | .geq=>some (true,.bool (!Op.bytesLess x.toList y.toList))
 |_=>none
def eC:List V→List V→Option Bool
 |[],[]=>some true
 | .int k x::l,.int k' y::m=>bif pw k k' then (match eC l m with|some b=>some (x == y&&b)|none=>none) else none
 | .bool x::l,.bool y::m=>match eC l m with|some b=>some (x == y&&b)|none=>none
 | .cI x::l,.cI y::m=>match eC l m with|some b=>some (x == y&&b)|none=>none
 |_,_=>none
def da (xs ys:List V):Bool:=match eC xs ys with|some b=>b|none=>false
def hJ (t:TypeId) (v:V):Option (Bool×List V):=
 match size E t with
 |none=>none
 |some n=>match bh E t with
  |some k=>bif Nat.beq n 1 then some (v.ax k,[v]) else none
  |none=>match n9 E t with
   |some _=>match v with
    | .agg cs=>some (Nat.beq cs.length n,cs)
    |_=>none
   |none=>none
def sj:Operand→Bool
 | .const .nilIface=>true
 |_=>false
def iL (t:TypeId) (nils:Bool):V→V→Option (Bool×Bool)
 | .bool x,.bool y=>match bh E t with|some .bool=>some (true,x == y)|_=>none
 | .aj p,.aj none=>match bh E t with|some .aj=>some (true,p.isNone)|_=>none
 | .aj none,.aj p=>match bh E t with|some .aj=>some (true,p.isNone)|_=>none
 | .slice p _ _,.slice none _ _=>match bh E t with|some .slice=>some (true,p.isNone)|_=>none
 | .slice none _ _,.slice p _ _=>match bh E t with|some .slice=>some (true,p.isNone)|_=>none
 | .map p,.map none=>match bh E t with|some .map=>some (true,p.isNone)|_=>none
 | .map none,.map p=>match bh E t with|some .map=>some (true,p.isNone)|_=>none
 | .agg xs,.agg ys=>match ab E.eqt t,eC xs ys with|some ks,some _=>some (aI ks xs&&aI ks ys,da xs ys)|_,_=>none
 |v,.nilFunc=>match bh E t with|some .func=>some (v.ax .func,v.nc)|_=>none
 | .nilFunc,v=>match bh E t with|some .func=>some (v.ax .func,v.nc)|_=>none
 |v,.nilIface=>bif nils then (match bh E t with|some .iface=>some (v.ax .iface,v.fA)|_=>none) else none
 |_,_=>none
def CF (op:BinOp) (t:TypeId) (nils:Bool):V→V→Option (Bool×V)
 | .int k x,.int k' y=>
   match op with
   | .shl| .shr=>vq op k x y
   |_=>bif pw k k' then vq op k x y else none
 | .cI x,.cI y=>Hn op x y
 |x,y=>match op with
  | .eql=>match iL E t nils x y with|some (r,b)=>some (r,.bool b)|none=>none
  | .neq=>match iL E t nils x y with|some (r,b)=>some (r,.bool (!b))|none=>none
  |_=>none
def Jc (t:TypeId) (v:V):Option (Bool×Bool):=match bh E t with|some .iface=>some (v.ax .iface,v.fA)|_=>none
def CG (t:TypeId) (v:V):Option (Bool×Bool):=match bh E t with|some .func=>some (v.ax .func,v.nc)|_=>none
def T0 (op:BinOp) (t:TypeId) (nils:Bool) (a b:V):Option (Bool×V):=
 match b with
 | .nilIface=>match nils with
   |true=>match op with
    | .eql=>match Jc E t a with|some (r,b)=>some (r,.bool b)|none=>none
    | .neq=>match Jc E t a with|some (r,b)=>some (r,.bool (!b))|none=>none
    |_=>none
   |false=>CF E op t false a .nilIface
 | .nilFunc=>match op with
   | .eql=>match CG E t a with|some (r,b)=>some (r,.bool b)|none=>none
   | .neq=>match CG E t a with|some (r,b)=>some (r,.bool (!b))|none=>none
   |_=>none
 |b=>CF E op t nils a b
def unV:UnOp→V→Option V
 | .not,.bool b=>some (.bool (!b))
 | .neg,.int k n=>some (.int k (k.wrap (0-n)))
 | .xor,.int k n=>some (.int k (k.wrap (BitVec.ofInt k.bits (bif k.signed then-1 else k.max) ^^^ BitVec.ofInt k.bits n).toNat))
 |_,_=>none
def mL (t:TypeId) (cs:List V) (off:Nat):Option (Bool×V):=
 match bh E t with
 |some k=>some (Nat.blt off cs.length&&(ae cs off).ax k,(ae cs off).SW k)
 |none=>match n9 E t,size E t with
  |some _,some n=>some (Nat.ble (off+n) cs.length,.agg ((cs.drop off).take n))
  |_,_=>none
def Ho (s:ByteArray) (i:Nat):Int:=((s.data.toList.getD i 0).toNat:Int)
def tI (t:TypeId) (f:Nat):Option (Nat×TypeId):=
 match E.ti t with
 |some i=>match i.sh with
  | .struct fs=>fs[f]?
  |_=>none
 |none=>none
def sk:Nat→Bool
 |0=>false
 |_=>true
def rK (x:Operand) (ev:Ev):Option Int:=match jc ev x with|some (.int _ i)=>some i|_=>none
def mM (ev:Ev) (x:Option Operand) (dflt most:Nat):Option (Bool×Nat):=
 match x with
 |none=>some (true,dflt)
 |some y=>match rK y ev with
  |some i=>some (decide (0≤i)&&decide (i≤(most:Int)),i.toNat)
  |none=>none
def gx (ev:Ev) (len cap:Nat) (lo hi mx:Option Operand):Option (Bool×Nat×Nat×Nat):=
 bif hi.isNone&&mx.isSome then none else
 match mM ev mx cap cap with
 |some m=>match mM ev hi len m.2 with
  |some h=>match mM ev lo 0 h.2 with
   |some l=>some (m.1&&h.1&&l.1,l.2,h.2,m.2)
   |none=>none
  |none=>none
 |none=>none
def bP (p:Oq) (n:Nat):Oq:=match p with|some (id,off)=>some (id,off+n)|none=>none
def xG (mx:Bool):List V→Option V
 |[.int k x]=>some (.int k x)
 |[.int k x,.int k' y]=>bif pw k k' then some (.int k (bif mx then (bif decide (y>x) then y else x) else (bif decide (y<x) then y else x))) else none
 |_=>none
def ET (b:Builtin) (args:List V) (t:TypeId):Option (fR T):=
 match b,args with
 | .len,[.cI s]=>match bh E t with|some .cI=>some (.one true (.v (.int .i64 (s.size:Int))))|_=>none
 | .len,[.slice _ n _]=>match bh E t with|some .slice=>some (.one true (.v (.int .i64 (n:Int))))|_=>none
 | .cap,[.slice _ _ c]=>match bh E t with|some .slice=>some (.one true (.v (.int .i64 (c:Int))))|_=>none
 | .min,vs=>match xG false vs with|some v=>some (.one true (.v v))|none=>none
 | .max,vs=>match xG true vs with|some v=>some (.one true (.v v))|none=>none
 |_,_=>none
def Bd (x:Option (Bool×V)):Option (fR T):=match x with|some (r,v)=>some (.one r (.v v))|none=>none
def qC (place:Nat→Option (Nat×TypeId)) (cells:List V):List (Nat×V)→Option (Bool×List V)
 |[]=>some (true,cells)
 |(i,v)::rest=>
  match place i with
  |none=>none
  |some (off,t)=>
   match hJ E t v,size E t with
   |some (r,vs),some n=>bif Nat.beq vs.length n&&Nat.ble (off+n) cells.length then
    (match qC place (bI cells off vs) rest with
    |some (r',cs)=>some (r&&r',cs)
    |none=>none) else none
   |_,_=>none
def kM (ev:Ev):List (Nat×Operand)→Option (List (Nat×V))
 |[]=>some []
 |(i,x)::l=>match jc ev x,kM ev l with
  |some y,some m=>some ((i,y)::m)
  |_,_=>none
def tJ:List (Nat×TypeId)→Bool
 |[]=>true
 |(_,t)::l=>(size E t).isSome&&tJ l
def EU (t:TypeId):Option (Nat→Option (Nat×TypeId)):=
 match E.ti t with
 |some i=>match i.sh with
  | .struct fs=>bif tJ E fs then some fun j=>fs[j]? else none
  | .arr _ e=>match size E e with|some n=>some fun j=>some (j*n,e)|none=>none
  |_=>none
 |none=>none
def ba (o:Op) (ev:Ev):Option (fR T):=
 match o with
 | .move x| .assign x=>match ev x with|some y=>some (.one true y)|none=>none
 | .pick c a b=>
   match ev c with
   |some (.v (.bool t))=>
    match ev a,ev b with
    |some (.v (.bool x)),some (.v (.bool y))=>some (.one true (.v (.bool (bif t then x else y))))
    |a',b'=>match t with
     |true=>(match a' with|some y=>some (.one true y)|none=>none)
     |false=>(match b' with|some y=>some (.one true y)|none=>none)
   |_=>none
 | .binOp op t x y _=>match jc ev x,jc ev y with|some a,some b=>Bd (T0 E op t (sj y) a b)|_,_=>none
 | .unOp op _ x=>match jc ev x with|some a=>(match unV op a with|some v=>some (.one true (.v v))|none=>none)|none=>none
 | .convert s d x=>
   match E.ti s,bh E d,jc ev x with
   |some _,some (.int k),some (.int _ n)=>some (.one true (.v (.int k (k.wrap n))))
   |some _,some .cI,some (.cI s)=>some (.one true (.v (.cI s)))
   |some _,some .cI,some (.int _ n)=>some (.one true (.v (.cI (Utf8.encode n))))
   |_,_,_=>none
 | .nilCheck x=>
   match ev x with
   |some (.v (.aj p))=>some (.one p.isSome (.v (.aj (some ((p.getD (0,0)).1,(p.getD (0,0)).2)))))
   |some (.lp s off)=>some (.one true (.lp s off))
   |_=>none
 | .fieldAddr t x f=>
   match tI E t f with
   |some (o,ft)=>match size E ft with
    |some n=>bif sk n then (match ev x with
     |some (.v (.aj (some (id,off))))=>some (.one true (.v (.aj (some (id,off+o)))))
     |some (.lp s off)=>some (.one true (.lp s (off+o)))
     |_=>none) else none
    |none=>none
   |none=>none
 | .field t x f=>
   match tI E t f,jc ev x with
   |some (o,ft),some (.agg cs)=>Bd (mL E ft cs o)
   |_,_=>none
 | .indexAddr t x i=>
   match rK i ev,E.ti t with
   |some n,some ti=>match ti.sh with
    | .arr len e=>match size E e,ev x with
      |some sz,some (.v (.aj (some (id,off))))=>some (.one (decide (0≤n)&&decide (n<(len:Int))) (.v (.aj (some (id,off+n.toNat*sz)))))
      |some sz,some (.lp s off)=>some (.one (decide (0≤n)&&decide (n<(len:Int))) (.lp s (off+n.toNat*sz)))
      |_,_=>none
    | .slice e=>match size E e,ev x with
      |some sz,some (.v (.slice p len _))=>some (.one (decide (0≤n)&&decide (n<(len:Int))&&p.isSome) (.v (.aj (some ((p.getD (0,0)).1,(p.getD (0,0)).2+n.toNat*sz)))))
      |_,_=>none
    |_=>none
   |_,_=>none
 | .index t x i=>
   match rK i ev,E.ti t,jc ev x with
   |some n,some ti,some v=>match ti.sh,v with
    | .arr len e,.agg cs=>match size E e with
      |some sz=>match mL E e cs (n.toNat*sz) with
       |some (r,y)=>some (.one (decide (0≤n)&&decide (n<(len:Int))&&r) (.v y))
       |none=>none
      |none=>none
    | .cI,.cI s=>some (.one (decide (0≤n)&&decide (n<(s.size:Int))) (.v (.int .u8 (Ho s n.toNat))))
    |_,_=>none
   |_,_,_=>none
 | .slice t x lo hi mx=>
   match E.ti t,ev x with
   |some ti,some (.v (.cI s))=>
    match ti.sh,mx with
    | .cI,none=>match gx ev s.size s.size lo hi none with
      |some (r,l,h,_)=>some (.one r (.v (.cI (s.extract l h))))
      |none=>none
    |_,_=>none
   |some ti,some (.v (.slice p len cap))=>
    match ti.sh with
    | .slice e=>match gx ev len cap lo hi mx,size E e with
      |some (r,l,h,m),some sz=>some (.one (r&&Nat.ble h m) (.v (.slice (bP p (l*sz)) (h-l) (m-l))))
      |_,_=>none
    |_=>none
   |some ti,some (.v (.aj (some (id,off))))=>
    match ti.sh with
    | .arr n e=>match gx ev n n lo hi mx,size E e with
      |some (r,l,h,m),some sz=>some (.one (r&&Nat.ble h m) (.v (.slice (some (id,off+l*sz)) (h-l) (m-l))))
      |_,_=>none
    |_=>none
   |_,_=>none
 | .makeInterface t x=>
   match bh E t,jc ev x with
   |some .iface,_=>none
   |_,some v=>match E.ti t with|some _=>some (.one true (.v (.iface t v)))|none=>none
   |_,_=>none
 | .makeFunc (.func f) first dF=>
   match first.toList,dF.toList with
   |[],_=>match si ev dF.toList with
    |some cs=>some (.one true (.v (.func f cs)))
    |none=>none
   |x::l,[]=>match si ev (x::l) with
    |some cs=>some (.one true (.v (.o8 f cs)))
    |none=>none
   |_,_=>none
 | .extract x i=>
   match jc ev x with
   |some (.tuple vs)=>match vs[i]? with|some v=>some (.one true (.v v))|none=>none
   |_=>none
 | .build t parts=>
   match E.ti t,EU E t,kM ev parts.toList with
   |some ti,some pl,some ps=>match ti.zero with
    |some (.agg z)=>match qC E pl z ps with|some (r,cs)=>some (.one r (.v (.agg cs)))|none=>none
    |_=>none
   |_,_,_=>none
 | .typeAssert x _ d ok=>
   match jc ev x,E.ti d with
   |some v,some ti=>match ti.sh with
    | .iface=>none
    |_=>match tF E d v.M9,ti.zero with
     |some (r,y),some z=>
      let t:Bool:= !v.fA&&Nat.beq v.CE d
      match ok with
      |true=>
       some ⟨v.ax .iface&&(!t||r),t,.v (.tuple [y,.bool true]),.v (.tuple [z,.bool false])⟩
      |false=>some (.one (v.ax .iface&&t&&r) (.v y))
     |_,_=>none
   |_,_=>none
 | .call c=>
   match c.callee with
   | .builtin b=>match si ev c.args.toList,c.argTypes.toList[0]? with|some vs,some t=>ET E b vs t|_,_=>none
   |_=>none
 |_=>none
def gQ (o:Op) (ev:Ev) (s:Nat) (L:Option aU):Option (fR T):=
 match o with
 | .load t a=>
   match ev a,L with
   |some (.lp s' off),some (.cells _ cs)=>bif Nat.beq s s' then Bd (mL E t cs off) else none
   |_,_=>none
 |_=>none
def lq (e:TypeId) (cs:List V):Bool×List V:=
 match n9 E e with
 |some ks=>(aI ks cs,nZ ks cs 0)
 |none=>(true,cs)
def eg (o:Op) (ev:Ev) (s:Nat) (L:Option aU):Option (fR (aU×T)):=
 match o with
 | .store t a x=>
   match ev a,jc ev x,L with
   |some (.lp s' off),some v,some (.cells e cs)=>
    match hJ E t v with
    |some (r,vs)=>bif Nat.beq s s' then
     some (.one (r&&Nat.ble (off+vs.length) cs.length&&(lq E e (bI cs off vs)).1) (.cells e (lq E e (bI cs off vs)).2,.undef)) else none
    |none=>none
   |_,_,_=>none
 | .next it true=>
   match ev it,L with
   |some (.lp s' 0),some (.dN cI jj)=>
    bif Nat.beq s s' then
     some ⟨true,Nat.blt jj cI.size,(.dN cI (jj+(Utf8.decode cI jj).2),.v (.tuple [.bool true,.int .i64 (jj:Int),.int .i32 ((Utf8.decode cI jj).1:Int)])),
      (.dN cI jj,.v (.tuple [.bool false]))⟩
    else none
   |_,_=>none
 |_=>none
def iM (o:Op) (ev:Ev):Option (Bool×aU):=
 match o with
 | .alloc t=>match E.ti t with
   |some i=>match i.zero with|some z=>some (true,.cells t z.cells)|none=>none
   |none=>none
 | .box t x=>match jc ev x with
   |some v=>match hJ E t v with|some (r,vs)=>some (r,.cells t vs)|none=>none
   |none=>none
 | .range t x=>match bh E t,jc ev x with
   |some .cI,some (.cI s)=>some (true,.dN s 0)
   |_,_=>none
 |_=>none
end aF
def br (c:Bool) (X Y:Prop):Prop:=match c with|true=>X|false=>Y
def ah (c:Bool) (X:Prop):Prop:=match c with|true=>X|false=>False
def pb (p:Oq):Nat:=(p.getD (0,0)).1
def po (p:Oq):Nat:=(p.getD (0,0)).2
theorem CH (a b:Nat):pb (some (a,b))=a:=rfl
theorem CI (a b:Nat):po (some (a,b))=b:=rfl
theorem ni (p:Oq):pb p=(p.getD (0,0)).1:=rfl
theorem nj (p:Oq):po p=(p.getD (0,0)).2:=rfl
def nm {α:Type} (a:α) (K:α→Prop):Prop:=K a
theorem oU {α:Type} (a:α) (K:α→Prop):nm a K=K a:=rfl
def cy {α:Type} (A:(α→Prop)→Prop) (Q:α→Prop):Prop:=A Q
structure mv where
 call:FuncId→List V→ag→(V→ag→Prop)→Prop
 loop:Code→FuncId→Nat→St→(St→Prop)→(Nat→St→Prop)→Prop
inductive Ex where
 |normal|exit (id:Nat)|ret
def fR.run {α:Type} (d:fR α) (K:α→Prop):Prop:=ah d.rq (br d.c (K d.x) (K d.y))
inductive Cls where
 |pure|oV (s:Nat)|iN (s:Nat)|tK|kJ|dz|tL
def CJ (ann:bQ):Operand→Option Nat
 | .tmp t=>ab ann.aW t
 |_=>none
def EV (ann:bQ):List Operand→Bool
 |[]=>false
 |x::l=>(CJ ann x).isSome||EV ann l
def Hq (E:kv) (ann:bQ) (o:Oper):Cls:=
 match o.op with
 | .makeFunc _ _ dF=>bif EV ann dF.toList then .tL else .pure
 | .alloc _=>match o.dst with|some d=>bif bD d ann.aY then .tK else .dz|none=>.dz
 | .box _ _=>match o.dst with|some d=>bif bD d ann.aY then .tK else .dz|none=>.dz
 | .range _ _=>match o.dst with|some d=>bif bD d ann.aY then .tK else .dz|none=>.dz
 | .load _ a=>match CJ ann a with|some s=>.oV s|none=>.kJ
 | .store _ a _=>match CJ ann a with|some s=>.iN s|none=>.dz
 | .next it true=>match CJ ann it with|some s=>.iN s|none=>.dz
 | .next _ false=>.dz
 | .makeMap .. =>.dz
 | .makeSlice .. =>.dz
 | .buildSlice .. =>.dz
 | .mapUpdate .. =>.dz
 | .insert .. =>.dz
 | .mapEntry .. =>.dz
 | .entryStore .. =>.dz
 | .lookup .. =>.kJ
 | .entry _=>.kJ
 | .convert s d _=>match bh E s,bh E d with
   |some .slice,some .slice=>.dz
   |some .slice,_=>.kJ
   |_,some .slice=>.dz
   |_,_=>.pure
 | .call c=>match c.callee with
   | .builtin .len=>match c.argTypes.toList[0]? with
     |some t=>match bh E t with|some .map=>.kJ|_=>.pure
     |none=>.pure
   | .builtin .cap=>.pure
   | .builtin .min=>.pure
   | .builtin .max=>.pure
   |_=>.dz
 |_=>.pure
section
variable (E:kv)
def dA:List V→ByteArray→ByteArray
 |[],acc=>acc
 |v::l,acc=>dA l (acc.push (UInt8.ofNat v.aa.toNat))
def Hr (k:cq):List V→Bool
 |[]=>true
 |v::l=>v.ax k&&Hr k l
def eY (H:ag) (p:Oq) (len:Nat):Bool:=
 p.isNone||Nat.beq len 0||(H.inb (p.getD (0,0)).1 (p.getD (0,0)).2 len&&Hr (.int .u8) (H.sub (p.getD (0,0)).1 (p.getD (0,0)).2 len))
def eZ (H:ag) (p:Oq) (len:Nat):ByteArray:=
 bif p.isNone||Nat.beq len 0 then ByteArray.empty else dA (H.sub (p.getD (0,0)).1 (p.getD (0,0)).2 len) ByteArray.empty
def dD (o:Op) (ev:Ev) (H:ag):Option (fR T):=
 match o with
 | .load t a=>
   match ev a with
   |some (.v (.aj (some (id,off))))=>
    match bh E t with
    |some k=>some (.one (H.inb id off 1&&(H.cell id off).ax k) (.v ((H.cell id off).SW k)))
    |none=>match n9 E t,size E t with
     |some ks,some n=>some (.one (H.inb id off n&&aI ks (H.sub id off n)) (.v (.agg (nZ ks (H.sub id off n) 0))))
     |_,_=>none
   |_=>none
 | .convert s d x=>
   match E.ti s,bh E d,jc ev x with
   |some ti,some .cI,some (.slice p len _)=>
    match ti.sh with
    | .slice e=>match bh E e with
      |some (.int .u8)=>
       some (.one (eY H p len) (.v (.cI (eZ H p len))))
      |_=>none
    |_=>none
   |_,_,_=>none
 | .lookup t x i commaOk=>
   match E.ti t,jc ev x,jc ev i with
   |some ti,some (.map r),some (.int k n)=>match ti.sh with
    | .map kt et=>match bh E kt,E.ti et with
      |some (.int k'),some ei=>match ei.zero with
       |some z=>match tF E et (cu H r n z) with
        |some (b,y)=>match commaOk with
         |true=>some (.one (pw k k'&&(eG H k r&&b)) (.v (.tuple [y,.bool (lj H r n)])))
         |false=>some (.one (pw k k'&&(eG H k r&&b)) (.v y))
        |none=>none
       |none=>none
      |_,_=>none
    |_=>none
   |_,_,_=>none
 | .entry it=>
   match ev it with
   |some (.v (.dN t id))=>match E.ti t with
    |some ti=>match ti.sh with
     | .map kt et=>match tF E kt (kK H id),tF E et (iJ H id) with
       |some (a,x),some (b,y)=>some (.one (sg H id&&(a&&b)) (.v (.tuple [x,y])))
       |_,_=>none
     |_=>none
    |none=>none
   |_=>none
 | .call c=>
   match c.callee,c.argTypes.toList,si ev c.args.toList with
   | .builtin .len,t::_,some [.map r]=>match bh E t with
     |some .map=>some (.one (r.isNone||H.isMap (r.getD 0)) (.v (.int .i64 (ya H r))))
     |_=>none
   |_,_,_=>none
 |_=>none
def hO:Nat→List V→List V
 |0,_=>[]
 |n+1,l=>l++hO n l
def vr:List V→Bool
 |[]=>true
 |v::l=>v.one&&vr l
def yb (a b:List V):List V:=a++b
def dU (n:Nat) (z:List V):List V:=hO n z
def fc (s:ByteArray):List V:=s.data.toList.map fun b=>.int .u8 b.toNat
def py (H:ag) (n:Nat) (p:Oq) (m:Nat):Bool:=
 Nat.beq m 0||(p.isSome&&(H.inb (p.getD (0,0)).1 (p.getD (0,0)).2 (m*n)&&vr (H.sub (p.getD (0,0)).1 (p.getD (0,0)).2 (m*n))))
def lu (H:ag) (n:Nat):V→Option (Nat×(Nat→Bool)×(Nat→List V))
 | .slice p len _=>some (len,fun m=>py H n p m,fun m=>bif Nat.beq m 0 then [] else H.sub (p.getD (0,0)).1 (p.getD (0,0)).2 (m*n))
 | .cI s=>some (s.size,fun _=>Nat.beq n 1,fun m=>(fc s).take m)
 |_=>none
def QQ (lo hi:Nat) (K:Nat→Prop):Prop:=∀c,lo≤c→c≤hi→K c
def ik:Option cq→Bool
 |some .slice=>true
 |some .cI=>true
 |_=>false
def fB (t:TypeId):Option (TypeId×Nat×Nat×List V):=
 match E.ti t with
 |some ti=>match ti.sh with
  | .slice el=>match E.ti el with
    |some ei=>match ei.zero with
     |some z=>bif Nat.beq z.cells.length ei.size&&sk ei.size then some (el,ei.size,ei.bytes,z.cells) else none
     |none=>none
    |none=>none
  |_=>none
 |none=>none
def mN (H:ag) (n cN:Nat) (z:List V) (k:Option cq) (x:V):Option (Bool×Nat×(Nat→Bool)×(Nat→List V)):=
 match k with
 |some (.int .i64)=>match x with
  | .int .i64 m=>some (decide (0≤m)&&decide (m*(cN+1)≤70368744177664),m.toNat,fun _=>true,fun j=>dU j z)
  |_=>none
 |k=>match ik k with
  |true=>(match lu H n x with|some (m,ok,cs)=>some (true,m,ok,cs)|none=>none)
  |false=>none
def aO (ts:List TypeId) (args:List V) (H:ag) (K:Oq→Nat→Nat→ag→Prop):Prop:=
 match ts,args with
 |[t,u],[.slice p l cp,x]=>
  match fB E t with
  |some (el,n,cN,z)=>match mN H n cN z (bh E u) x with
   |some (r,m,ok,cs)=>ah r
    (br (Nat.ble (l+m) cp)
     (ah (Nat.beq m 0||(p.isSome&&(ok m&&H.wr (p.getD (0,0)).1 ((p.getD (0,0)).2+l*n) (m*n))))
      (K p (l+m) cp (bif Nat.beq m 0 then H else H.store (p.getD (0,0)).1 ((p.getD (0,0)).2+l*n) (cs m))))
     (ah (py H n p l&&(ok m&&Nat.ble ((l+m)*(cN+1)) 70368744177664))
      (QQ (l+m) 9223372036854775807 fun c=>K (some (H.next,0)) (l+m) c
       (H.alloc (.cells el (yb (bif Nat.beq l 0 then [] else H.sub (p.getD (0,0)).1 (p.getD (0,0)).2 (l*n)) (yb (cs m) (dU (c-(l+m)) z))) false)))))
   |none=>False
  |none=>False
 |_,_=>False
def kx (H:ag) (n:Nat) (p:Oq) (l:Nat) (x:V):Bool:=match lu H n x with
 |some (m,ok,cs)=>Nat.beq (Nat.min m l) 0||(p.isSome&&(ok (Nat.min m l)&&H.wr (p.getD (0,0)).1 (p.getD (0,0)).2 (Nat.min m l*n)))
 |none=>false
def kz (H:ag) (n:Nat) (p:Oq) (l:Nat) (x:V):ag:=match lu H n x with
 |some (m,ok,cs)=>bif Nat.beq (Nat.min m l) 0 then H else H.store (p.getD (0,0)).1 (p.getD (0,0)).2 (cs (Nat.min m l))
 |none=>H
def iO (g:FuncId) (args:List V) (H:ag) (K:V→ag→Prop):Prop:=
 match E.ext g with
 |some x=>x.run args H K
 |none=>False
def ly (R:mv) (fv:V) (args:List V) (H:ag) (K:V→ag→Prop):Prop:=
 match fv with
 | .func g cap=>match (E.ext g).isSome with
   |true=>iO E g (args++cap) H K
   |false=>R.call g (args++cap) H K
 | .o8 g first=>match (E.ext g).isSome with
   |true=>iO E g (first++args) H K
   |false=>R.call g (first++args) H K
 |_=>False
def bY (o:Op) (ev:Ev) (H:ag):Option (Bool×T×ag):=
 match o with
 | .buildSlice t len parts=>
   match E.ti t,kM ev parts.toList with
   |some ti,some ps=>match ti.sh with
    | .slice el=>match size E el,E.ti el with
      |some n,some ei=>match ei.zero with
       |some z=>bif Nat.beq z.cells.length n&&sk n&&Nat.ble (len*n) 16777216 then
        (match qC E (fun j=>some (j*n,el)) (hO len z.cells) ps with
        |some (r,cs)=>some (r,.v (.slice (some (H.next,0)) len len),H.alloc (.cells el cs false))
        |none=>none) else none
       |none=>none
      |_,_=>none
    |_=>none
   |_,_=>none
 | .makeSlice t len cap=>
   match fB E t,jc ev len,jc ev cap with
   |some (el,_,cN,z),some (.int _ l),some (.int _ c)=>
    some (decide (0≤l)&&(decide (l≤c)&&decide (c*(cN+1)≤70368744177664)),.v (.slice (some (H.next,0)) l.toNat c.toNat),H.alloc (.cells el (dU c.toNat z) false))
   |_,_,_=>none
 | .convert s d x=>
   match bh E s,jc ev x,E.ti d with
   |some .slice,some (.slice p len cap),some ti=>match ti.sh with
    | .slice e=>match bh E e with
      |some (.int .u8)=>some (Nat.beq s d&&(p.isSome&&(!Nat.beq cap 0&&H.wr (p.getD (0,0)).1 0 0)),.v (.slice p len cap),H)
      |_=>none
    |_=>none
   |_,_,_=>none
 | .call c=>
   match c.callee,c.argTypes.toList,si ev c.args.toList with
   | .builtin .copy,t::_,some [.slice p l _,x]=>
     match fB E t with
     |some (_,n,_,_)=>match lu H n x with
      |some (m,_,_)=>some (kx H n p l x,.v (.int .i64 (Nat.min m l)),kz H n p l x)
      |none=>none
     |none=>none
   | .builtin .delete,t::_,some [.map r,.int k n]=>
     match E.ti t with
     |some ti=>match ti.sh with
      | .map kt _=>match bh E kt with
        |some (.int k')=>some (pw k k'&&eG H k r,.v (.tuple []),px H r n)
        |_=>none
      |_=>none
     |none=>none
   | .builtin .clear,t::_,some [.slice p l _]=>
     match fB E t with
     |some (_,n,_,z)=>
      some (p.isNone||Nat.beq l 0||H.wr (p.getD (0,0)).1 (p.getD (0,0)).2 (l*n),.v (.tuple []),
       bif p.isNone||Nat.beq l 0 then H else H.store (p.getD (0,0)).1 (p.getD (0,0)).2 (dU l z))
     |none=>none
   |_,_,_=>none
 | .makeMap t none=>match bh E t with
   |some .map=>some (true,.v (.map (some H.next)),H.alloc (.map [] 0))
   |_=>none
 | .range t x=>
   match E.ti t,jc ev x with
   |some ti,some (.map r)=>match ti.sh with
    | .map _ _=>some (r.isNone||H.isMap (r.getD 0),.v (.dN t H.next),H.alloc (mapIter H r))
    |_=>none
   |_,_=>none
 |_=>none
def bL (R:mv) (o:Op) (rt:TypeId) (ev:Ev) (H:ag) (K:T→ag→Prop):Prop:=
 match o with
 | .alloc t=>match E.ti t with
   |some i=>match i.zero with|some z=>K (.v (.aj (some (H.next,0)))) (H.alloc (.cells t z.cells false))|none=>False
   |none=>False
 | .box t x=>match jc ev x with
   |some v=>match hJ E t v with
    |some (r,vs)=>ah r (K (.v (.aj (some (H.next,0)))) (H.alloc (.cells t vs false)))
    |none=>False
   |none=>False
 | .store t a x=>
   match ev a,jc ev x with
   |some (.v (.aj (some (id,off)))),some v=>
    match hJ E t v with
    |some (r,vs)=>ah (r&&H.wr id off vs.length) (K .undef (H.store id off vs))
    |none=>False
   |_,_=>False
 | .mapUpdate t m x v=>
   match E.ti t,jc ev m,jc ev x,jc ev v with
   |some ti,some (.map r),some (.int k n),some v=>match ti.sh with
    | .map kt et=>match bh E kt,tF E et v with
      |some (.int k'),some (b,_)=>ah (pw k k'&&(r.isSome&&(eG H k r&&b))) (K .undef (ij H k (r.getD 0) n v))
      |_,_=>False
    |_=>False
   |_,_,_,_=>False
 | .call c=>
   match c.callee,si ev c.args.toList with
   | .value f,some args=>
     match jc ev f with
     |some fv=>ly E R fv args H fun v H'=>match tH E rt v with|some (b,v')=>ah b (K (.v v') H')|none=>False
     |none=>False
   | .builtin .append,some args=>aO E c.argTypes.toList args H fun q n c H'=>K (.v (.slice q n c)) H'
   |_,_=>match bY E (.call c) ev H with
    |some (r,x,H')=>ah r (K x H')
    |none=>False
 | .convert s d x=>
   match bh E s,jc ev x,E.ti d with
   |some .cI,some (.cI b),some ti=>match ti.sh with
    | .slice el=>match bh E el with
      |some (.int .u8)=>ah (Nat.ble b.size 70368744177664) (QQ b.size 9223372036854775807 fun c=>
       K (.v (.slice (some (H.next,0)) b.size c)) (H.alloc (.cells el (yb (fc b) (dU (c-b.size) [.int .u8 0])) false)))
      |_=>False
    |_=>False
   |_,_,_=>match bY E (.convert s d x) ev H with
    |some (r,x,H')=>ah r (K x H')
    |none=>False
 | .next it false=>
   match ev it with
   |some (.v (.dN _ id))=>mapNext H id (K (.v (.tuple [.bool false])) H) fun H'=>K (.v (.tuple [.bool true,.cx,.cx])) H'
   |_=>False
 |o=>match bY E o ev H with
  |some (r,x,H')=>ah r (K x H')
  |none=>False
def ga (aF:List Oper) (tm:Nat→Option T) (j:Nat):Option T:=
 match aF[j]? with
 |some o=>match o.dst with|some d=>tm d|none=>none
 |none=>none
def sl (ann:bQ) (d:Nat) (S:St):St:=
 {S with tm:=fun t=>match ab ann.aW t with|some s=>bif Nat.beq s d then none else S.tm t|none=>S.tm t}
def jt (ann:bQ) (N:Nat) (dst:Option Tmp) (x:T) (S:St) (K:St→Prop):Prop:=
 match dst with
 |none=>K S
 |some d=>ah (Nat.blt d N) (match x with
  | .lp s _=>(match ab ann.aW d with|some s'=>bif Nat.beq s s' then K (S.setT d x) else False|none=>False)
  |_=>K (S.setT d x))
def pA (ann:bQ) (s:Nat) (e:TypeId) (cs:List V) (S:St):St:=
 {sl ann s S with lo:=fun t=>bif Nat.beq t s then none else S.lo t,hp:=S.hp.alloc (.cells e cs false)}
def qD (ann:bQ):List Operand→St→Option (List V×St)
 |[],S=>some ([],S)
 |x::l,S=>match cS S.tm x with
  |some (.v v)=>match qD ann l S with|some (vs,S')=>some (v::vs,S')|none=>none
  |some (.lp s 0)=>match S.lo s with
   |some (.cells e cs)=>match qD ann l (pA ann s e cs S) with|some (vs,S')=>some (.aj (some (S.hp.next,0))::vs,S')|none=>none
   |_=>none
  |_=>none
def Jd (ann:bQ) (N:Nat) (o:Oper) (S:St) (K:St→Prop):Prop:=
 match o.op with
 | .makeFunc (.func f) first dF=>match first.toList,qD ann dF.toList S with
   |[],some (vs,S')=>jt ann N o.dst (.v (.func f vs)) S' K
   |_,_=>False
 |_=>False
def jk (R:mv) (ann:bQ) (N:Nat) (o:Oper) (S:St) (K:St→Prop):Prop:=
 match Hq E ann o with
 | .pure=>match ba E o.op (cS S.tm) with|some d=>d.run fun x=>jt ann N o.dst x S K|none=>False
 | .oV s=>match gQ E o.op (cS S.tm) s (S.lo s) with|some d=>d.run fun x=>jt ann N o.dst x S K|none=>False
 | .iN s=>match eg E o.op (cS S.tm) s (S.lo s) with|some d=>d.run fun x=>jt ann N o.dst x.2 (S.setL s x.1) K|none=>False
 | .tK=>match o.dst,iM E o.op (cS S.tm) with
   |some d,some (r,L)=>ah r (jt ann N (some d) (.lp d 0) ((sl ann d S).setL d L) K)
   |_,_=>False
 | .kJ=>match dD E o.op (cS S.tm) S.hp with|some d=>d.run fun x=>jt ann N o.dst x S K|none=>False
 | .dz=>bL E R o.op o.type (cS S.tm) S.hp fun x H'=>jt ann N o.dst x {S with hp:=H'} K
 | .tL=>Jd ann N o S K
def dj (R:mv) (ann:bQ) (N:Nat) (aF:List Oper) (o:Oper) (S:St) (K:St→Prop):Prop:=
 match o.guard with
 |none=>jk E R ann N o S K
 |some (j,want)=>
  match ga aF S.tm j with
  |some (.v (.bool b))=>br (b == want) (jk E R ann N o S K) (jt ann N o.dst .undef S K)
  |some .undef=>jt ann N o.dst .undef S K
  |_=>False
def lz (R:mv) (ann:bQ) (N:Nat) (aF:List Oper):List Oper→St→(St→Prop)→Prop
 |[],S,K=>K S
 |o::l,S,K=>dj E R ann N aF o S fun S'=>lz R ann N aF l S' K
def CK (aF:List Oper) (j:Nat):Option Nat:=
 match aF[j]? with
 |some o=>o.dst
 |none=>none
def tM (R:mv) (ann:bQ) (N:Nat) (aF:List Oper) (o:Oper) (S:St) (K:St→Prop):Prop:=
 match o.guard with
 |none=>jk E R ann N o S K
 |some (j,want)=>
  match CK aF j with
  |none=>False
  |some s=>
   match S.tm s with
   |some (.v (.bool b))=>br (QN want b) (jk E R ann N o (S.setT s (.v (.bool want))) K) (jt ann N o.dst .undef (S.setT s (.v (.bool (!want)))) K)
   |some .undef=>jt ann N o.dst .undef S K
   |_=>False
def so (R:mv) (ann:bQ) (N:Nat) (aF:List Oper):List Oper→St→(St→Prop)→Prop
 |[],S,K=>K S
 |o::l,S,K=>tM E R ann N aF o S fun S'=>so R ann N aF l S' K
def ef:Code→Nat
 | .seq a b=>ef a+ef b
 | .cond _ a b=>1+ef a+ef b
 | .block _ b=>ef b
 | .scope b=>ef b
 | .loop b=>1+ef b
 | .region .. =>1
 |_=>0
def EW (tm:Nat→Option T):List Nat→Option (List (Nat×T))
 |[]=>some []
 |t::l=>match tm t,EW tm l with
  |some x,some m=>some ((t,x)::m)
  |_,_=>none
def EX (lo:Nat→Option aU):List Nat→Option (List (Nat×aU))
 |[]=>some []
 |t::l=>match lo t,EX lo l with
  |some x,some m=>some ((t,x)::m)
  |_,_=>none
def lA (ts ls:List Nat) (S:St) (K:St→Prop):Prop:=
 match EW S.tm ts,EX S.lo ls with
 |some a,some b=>K ⟨ab a,ab b,S.hp⟩
 |_,_=>False
inductive fN (α:Type) where
 |leaf (a:α)
 |br (c:Bool) (x y:fN α)
 |ah (c:Bool) (x:fN α)
 |aP
def fN.run {α:Type} (K:α→Prop):fN α→Prop
 | .leaf a=>K a
 | .br c x y=>Am.br c (x.run K) (y.run K)
 | .ah c x=>Am.ah c (x.run K)
 | .aP=>False
def fN.bind {α β:Type}:fN α→(α→fN β)→fN β
 | .leaf a,k=>k a
 | .br c x y,k=>.br c (x.bind k) (y.bind k)
 | .ah c x,k=>.ah c (x.bind k)
 | .aP,_=>.aP
structure MS where
 U:List (Nat×T)
 W:List (Nat×aU)
 kn:List Nat
def o9 (S:St) (U:List (Nat×T)) (t:Nat):Option T:=match ab U t with|some x=>some x|none=>S.tm t
def yc (S:St) (W:List (Nat×aU)) (t:Nat):Option aU:=match ab W t with|some x=>some x|none=>S.lo t
def MS.st (S:St) (M:MS):St:=⟨o9 S M.U,yc S M.W,S.hp⟩
def CL (ann:bQ) (N:Nat) (dst:Option Tmp) (x:T) (M:MS):fN MS:=
 match dst with
 |none=>.leaf M
 |some d=>.ah (Nat.blt d N) (match x with
  | .lp s _=>(match ab ann.aW d with|some s'=>bif Nat.beq s s' then .leaf {M with U:=(d,x)::M.U} else .aP|none=>.aP)
  |_=>.leaf {M with U:=(d,x)::M.U})
def EY (ann:bQ) (N:Nat) (o:Oper) (S:St) (M:MS):fN MS:=
 match Hq E ann o with
 | .pure=>match ba E o.op (cS (o9 S M.U)) with|some d=>.ah (d.rq&&d.c) (CL ann N o.dst d.x M)|none=>.aP
 | .oV s=>match gQ E o.op (cS (o9 S M.U)) s (yc S M.W s) with|some d=>.ah (d.rq&&d.c) (CL ann N o.dst d.x M)|none=>.aP
 | .iN s=>match eg E o.op (cS (o9 S M.U)) s (yc S M.W s) with|some d=>.ah (d.rq&&d.c) (CL ann N o.dst d.x.2 {M with W:=(s,d.x.1)::M.W})|none=>.aP
 | .kJ=>match dD E o.op (cS (o9 S M.U)) S.hp with|some d=>.ah (d.rq&&d.c) (CL ann N o.dst d.x M)|none=>.aP
 |_=>.aP
def Nd (ann:bQ) (N:Nat) (aF:List Oper) (o:Oper) (S:St) (M:MS):fN MS:=
 match o.guard with
 |none=>EY E ann N o S M
 |some (j,want)=>
  match CK aF j with
  |none=>.aP
  |some s=>
   match o9 S M.U s with
   |some (.v (.bool b))=>
    match bD s M.kn with
    |true=>match QN want b with
     |true=>EY E ann N o S M
     |false=>CL ann N o.dst .undef M
    |false=>.br (QN want b) (EY E ann N o S {M with U:=(s,.v (.bool want))::M.U,kn:=s::M.kn})
     (CL ann N o.dst .undef {M with U:=(s,.v (.bool (!want)))::M.U,kn:=s::M.kn})
   |some .undef=>CL ann N o.dst .undef M
   |_=>.aP
def CM (ann:bQ) (N:Nat) (aF:List Oper):List Oper→St→MS→fN MS
 |[],_,M=>.leaf M
 |o::l,S,M=>(Nd E ann N aF o S M).bind (CM ann N aF l S)
def aJ (c r1 r2:Bool):Bool:=match r1,r2 with
 |true,true=>true
 |r1,r2=>bif c then r1 else r2
def CN (c:Bool):T→T→Option T
 | .v x,.v y=>some (.v (Hm c x y))
 | .lp s o,.lp s' o'=>bif Nat.beq s s'&&Nat.beq o o' then some (.lp s o) else none
 | .undef,.undef=>some .undef
 |_,_=>none
def CO (c:Bool):aU→aU→Option aU
 | .cells e cs,.cells e' cs'=>bif Nat.beq e e' then (match tC c cs cs' with|some r=>some (.cells e r)|none=>none) else none
 |_,_=>none
def oa {α:Type} (g:Nat→Option α) (f:α→α→Option α) (A B:List (Nat×α)):List Nat→Option (List (Nat×α))
 |[]=>some []
 |t::l=>match oa g f A B l with
  |none=>none
  |some r=>match ab A t,ab B t with
   |none,none=>some r
   |some a,some b=>match f a b with|some m=>some ((t,m)::r)|none=>none
   |some a,none=>match g t with|some b=>(match f a b with|some m=>some ((t,m)::r)|none=>none)|none=>none
   |none,some b=>match g t with|some a=>(match f a b with|some m=>some ((t,m)::r)|none=>none)|none=>none
def od {α:Type} (a b:List Nat):List (Nat×α)→Bool
 |[]=>true
 |(t,_)::l=>(bD t a||bD t b)&&od a b l
def oW (S:St) (ts ls dT dL:List Nat):fN MS→Option (Bool×List (Nat×T)×List (Nat×aU))
 | .leaf M=>bif od ts dT M.U&&od ls dL M.W then some (true,M.U,M.W) else none
 | .ah c x=>match oW S ts ls dT dL x with|some (r,U,W)=>some (c&&r,U,W)|none=>none
 | .br c x y=>match oW S ts ls dT dL x,oW S ts ls dT dL y with
   |some (r1,U1,W1),some (r2,U2,W2)=>
    match oa S.tm (CN c) U1 U2 ts,oa S.lo (CO c) W1 W2 ls with
    |some U,some W=>some (aJ c r1 r2,U,W)
    |_,_=>none
   |_,_=>none
 | .aP=>none
def rz (dT dL:List Nat) (S:St):St:=
 ⟨fun t=>bif bD t dT then none else S.tm t,fun s=>bif bD s dL then none else S.lo s,S.hp⟩
def pB (ts ls dT dL:List Nat) (tr:fN MS) (S:St) (K:St→Prop):Prop:=
 match oW S ts ls dT dL tr with
 |some (r,U,W)=>ah r (K (rz dT dL ⟨o9 S U,yc S W,S.hp⟩))
 |none=>False
def kC (R:mv) (ann:bQ) (N:Nat) (ts ls dT dL:List Nat) (aF:List Oper):List Oper→St→(St→Prop)→Prop
 |[],S,K=>K (rz dT dL S)
 |o::l,S,K=>match o.guard with
  |none=>tM E R ann N aF o S fun S'=>kC R ann N ts ls dT dL aF l S' K
  |some _=>pB ts ls dT dL (CM E ann N aF (o::l) S ⟨[],[],[]⟩) S K
def T.val:Option T→V
 |some (.v x)=>x
 |_=>.none
def aB:KT→Option T→Bool
 | .k k,some (.v x)=>x.ax k
 | .agg ks,some (.v x)=>x.isAgg&&aI ks x.af
 | .lp s,some (.lp s' 0)=>Nat.beq s s'
 | .undef,some .undef=>true
 |_,_=>false
def QR:KT→Option T→T
 | .k k,x=>.v ((T.val x).SW k)
 | .agg ks,x=>.v (.agg (nZ ks (T.val x).af 0))
 | .lp s,_=>.lp s 0
 | .undef,_=>.undef
def ao:Option aU→List V
 |some (.cells _ cs)=>cs
 |_=>[]
def eD (e:TypeId) (ks:List cq):Option aU→Bool
 |some (.cells e' cs)=>Nat.beq e e'&&aI ks cs
 |_=>false
def lB (S:St):List (Nat×KT)→Bool×List (Nat×T)
 |[]=>(true,[])
 |(t,k)::l=>(aB k (S.tm t)&&(lB S l).1,(t,QR k (S.tm t))::(lB S l).2)
def lC (S:St):List (Nat×TypeId×List cq)→Bool×List (Nat×aU)
 |[]=>(true,[])
 |(s,e,ks)::l=>(eD e ks (S.lo s)&&(lC S l).1,(s,.cells e (nZ ks (ao (S.lo s)) 0))::(lC S l).2)
def Be (ts:List (Nat×KT)) (ls:List (Nat×TypeId×List cq)) (S:St) (K:St→Prop):Prop:=
 ah ((lB S ts).1&&(lC S ls).1) (K ⟨ab (lB S ts).2,ab (lC S ls).2,S.hp⟩)
def sr (ann:bQ) (n:Nat):Option js:=ab ann.bg n
def pC {α β:Type}:List (α×β)→List α
 |[]=>[]
 |(a,_)::l=>a::pC l
def vt (kp:js) (K:Ex→St→Prop):List Nat→Nat→St→Prop
 |[],_,_=>False
 |j::l,id,S=>br (Nat.beq id j) (Be kp.cj kp.hI S (K (.exit j))) (vt kp K l id S)
def oe:List Operand→List Nat
 |[]=>[]
 | .tmp t::l=>t::oe l
 |_::l=>oe l
structure jR where
 rt:List Nat
 wt:List Nat
 rl:List Nat
 wl:List Nat
 rh:Bool
 wh:Bool
 no:Bool
def kN (d:Nat):List (Nat×Nat)→List Nat
 |[]=>[]
 |(t,s)::l=>bif Nat.beq s d then t::kN d l else kN d l
def yd (aF:List Oper) (o:Oper):List Nat:=
 match o.guard with
 |some (j,_)=>(match aF[j]? with|some q=>q.dst.toList|none=>[])
 |none=>[]
def Xt (aF:List Oper) (o:Oper):List Nat:=oe o.op.operands.toList++yd aF o
def CP (ann:bQ) (o:Oper):List Nat:=match o.dst with|some d=>kN d ann.aW|none=>[]
def mO:Cls→List Nat→List Nat→List Nat→jR
 | .pure,rt,wt,_=>⟨rt,wt,[],[],false,false,false⟩
 | .oV s,rt,wt,_=>⟨rt,wt,[s],[],false,false,false⟩
 | .iN s,rt,wt,_=>⟨rt,wt,[s],[s],false,false,false⟩
 | .tK,rt,wt,ex=>⟨rt,wt++ex,[],wt,false,false,false⟩
 | .kJ,rt,wt,_=>⟨rt,wt,[],[],true,false,false⟩
 | .dz,rt,wt,_=>⟨rt,wt,[],[],true,true,false⟩
 | .tL,rt,wt,_=>⟨rt,wt,[],[],true,true,true⟩
def cY (ann:bQ) (aF:List Oper) (o:Oper):jR:=mO (Hq E ann o) (Xt aF o) o.dst.toList (CP ann o)
def jl:List Nat→List Nat→Bool
 |[],_=>false
 |x::l,m=>bD x m||jl l m
def gy (a b:jR):Bool:=
 !jl a.wt b.rt&& !jl a.wt b.wt&& !jl b.wt a.rt&& !jl a.wl b.rl&& !jl a.wl b.wl&& !jl b.wl a.rl
  && !(a.wh&&b.rh)&& !(b.wh&&a.rh)&&(!a.no&& !b.no)
def qE (acc:List (List Nat)):List Edge→List Nat
 |[]=>[]
 |e::l=>bif Region.binds .any e then e.on::(acc[e.on]?.getD []++qE acc l) else qE acc l
def iP:List Oper→List (List Nat)→List (List Nat)
 |[],acc=>acc
 |o::l,acc=>iP l (acc++[qE acc o.after.toList])
def CQ (i:Nat):List Edge→Bool
 |[]=>true
 |e::l=>(!Region.binds .any e||Nat.blt e.on i)&&CQ i l
def og:List Oper→Nat→Bool
 |[],_=>true
 |o::l,i=>CQ i o.after.toList&&og l (i+1)
def tN (fs:List jR) (bs:List (List Nat)) (i:Nat) (f:jR):Nat→Bool
 |0=>true
 |j+1=>(match fs[j]?,bs[i]? with|some g,some b=>bD j b||gy f g|_,_=>false)&&tN fs bs i f j
def qF (fs:List jR) (bs:List (List Nat)):List jR→Nat→Bool
 |[],_=>true
 |f::l,i=>tN fs bs i f i&&qF fs bs l (i+1)
def ye (ann:bQ) (aF:List Oper):Bool:=
 let fs:=aF.map (cY E ann aF)
 og aF 0&&qF fs (iP aF []) fs 0
inductive rL where
 |nil|aP
 |one (i:Nat) (r:rL)
 |Nf (a b:rL)
 deriving Inhabited
def ju (n:Nat):List Nat→List Nat
 |[]=>[]
 |x::l=>bif Nat.beq n x then ju n l else x::ju n l
def nk (bs:List (List Nat)) (i:Nat):List Nat:=bs[i]?.getD []
def gz (bs:List (List Nat)) (rem:List Nat) (i:Nat):Bool:= !jl (nk bs i) rem
def dW (fs:List jR) (bs:List (List Nat)) (i:Nat) (f:jR):List Nat→Bool
 |[]=>true
 |j::l=>(Nat.beq i j||bD i (nk bs j)||(match fs[j]? with|some g=>gy g f&&gy f g|none=>false))&&dW fs bs i f l
def oh (fs:List jR) (bs:List (List Nat)) (rem:List Nat):List Nat→Option Nat
 |[]=>none
 |i::l=>match gz bs rem i,fs[i]? with
  |true,some f=>bif dW fs bs i f rem then some i else oh fs bs rem l
  |_,_=>oh fs bs rem l
def QS (f:Nat→rL):List Nat→rL
 |[]=>.aP
 |[i]=>.one i (f i)
 |i::l=>.Nf (.one i (f i)) (QS f l)
def qG (bs:List (List Nat)) (rem:List Nat):List Nat→List Nat
 |[]=>[]
 |i::l=>bif gz bs rem i then i::qG bs rem l else qG bs rem l
def Bf (fs:List jR) (bs:List (List Nat)):Nat→List Nat→rL
 |_,[]=>.nil
 |0,_=>.aP
 |n+1,rem=>match oh fs bs rem rem with
  |some i=>.one i (Bf fs bs n (ju i rem))
  |none=>QS (fun i=>Bf fs bs n (ju i rem)) (qG bs rem rem)
def il (step:Nat→St→(St→Prop)→Prop):rL→St→(St→Prop)→Prop
 | .nil,S,K=>K S
 | .aP,_,_=>False
 | .one i r,S,K=>step i S fun S'=>il step r S' K
 | .Nf a b,S,K=>il step a S K∧il step b S K
def wA (kp:Option js) (A:(Ex→St→Prop)→Prop) (K:Ex→St→Prop):Prop:=
 match kp with
 |none=>A K
 |some kp=>cy (fun Q=>A fun e S=>match e with| .normal=>lA (pC kp.cj) (pC kp.hI) S Q|e=>K e S) fun S=>Be kp.cj kp.hI S (K .normal)
def over {α:Type} (l:List (Nat×α)) (dr:List Nat) (g:Nat→Option α):Nat→Option α:=
 fun t=>match ab l t with|some x=>some x|none=>bif bD t dr then none else g t
def EZ (kp:js) (S0:St) (A:(Ex→St→Prop)→Prop) (K:Ex→St→Prop):Prop:=
 cy (fun Q=>A fun e S=>match e with| .normal=>lA (pC kp.cj) (pC kp.hI) S Q|e=>K e S)
  fun S=>ah ((lB S kp.cj).1&&(lC S kp.hI).1) (K .normal ⟨over (lB S kp.cj).2 kp.wT S0.tm,over (lC S kp.hI).2 kp.wL S0.lo,S.hp⟩)
def jv:List Nat→List Nat→Bool
 |[],_=>true
 |x::l,m=>bD x m&&jv l m
def K4 (ann:bQ) (wT wL:List Nat) (o:Oper):Bool:=
 jv o.dst.toList wT&&jv (CP ann o) wT&&(match Hq E ann o with
  | .iN s=>bD s wL
  | .tK=>jv o.dst.toList wL
  | .tL=>false
  |_=>true)
def jw (ann:bQ) (wT wL:List Nat):List Oper→Bool
 |[]=>true
 |o::l=>K4 E ann wT wL o&&jw ann wT wL l
def T1 (wT wL:List Nat) (kp:js):Bool:=jv kp.wT wT&&jv kp.wL wL&&jv (pC kp.cj) wT&&jv (pC kp.hI) wL
def Ng (wT wL:List Nat):Option js→Bool
 |none=>true
 |some kp=>kp.dl&&T1 wT wL kp
def CR (ann:bQ) (wT wL:List Nat):Code→Nat→Bool
 | .skip,_=>true
 | .seq a b,n=>CR ann wT wL a n&&CR ann wT wL b (n+ef a)
 | .cond _ x y,n=>Ng wT wL (sr ann n)&&(CR ann wT wL x (n+1)&&CR ann wT wL y (n+1+ef x))
 | .block id b,n=>Ng wT wL (ab ann.aE id)&&CR ann wT wL b n
 | .scope b,n=>CR ann wT wL b n
 | .label _,_=>true
 | .exit _,_=>true
 | .ret,_=>true
 | .region _ aF _,n=>jw E ann wT wL aF.toList&&(match sr ann n with
   |none=>true
   |some kp=>match kp.mg with
    |true=>jv kp.cT wT&&jv kp.vo wL&&jv kp.wT wT&&jv kp.wL wL
    |false=>kp.dl&&T1 wT wL kp)
 |_,_=>false
def mw (ok:js→Bool) (kp:Option js) (S0:St) (A:(Ex→St→Prop)→Prop) (K:Ex→St→Prop):Prop:=
 match kp with
 |none=>A K
 |some kp=>match kp.dl with
  |true=>ah (ok kp) (EZ kp S0 A K)
  |false=>wA (some kp) A K
def fS (R:mv) (ann:bQ) (N:Nat) (aF:List Oper) (i:Nat) (S:St) (K:St→Prop):Prop:=
 match aF[i]? with
 |some o=>tM E R ann N aF o S K
 |none=>False
def gR (R:mv) (ann:bQ) (N:Nat) (aF:List Oper) (draw:Bool) (S:St) (K:St→Prop):Prop:=
 match !draw||ye E ann aF with
 |true=>so E R ann N aF aF S K
 |false=>ah (og aF 0) (il (fS E R ann N aF) (Bf (aF.map (cY E ann aF)) (iP aF []) aF.length (List.range aF.length)) S K)
def gr (R:mv) (f:FuncId) (ann:bQ) (N:Nat):Code→Nat→St→(Ex→St→Prop)→Prop
 | .skip,_,S,K=>K .normal S
 | .seq a b,n,S,K=>gr R f ann N a n S fun e S'=>match e with| .normal=>gr R f ann N b (n+ef a) S' K|e=>K e S'
 | .cond c x y,n,S,K=>
   match cS S.tm c with
   |some (.v (.bool t))=>mw (fun kp=>CR E ann kp.wT kp.wL x (n+1)&&CR E ann kp.wT kp.wL y (n+1+ef x)) (sr ann n) S
    (fun K=>br t (gr R f ann N x (n+1) S K) (gr R f ann N y (n+1+ef x) S K)) K
   |_=>False
 | .block id b,n,S,K=>mw (fun kp=>CR E ann kp.wT kp.wL b n) (ab ann.aE id) S (fun K=>gr R f ann N b n S fun e S'=>match e with
   | .exit j=>br (Nat.beq j id) (K .normal S') (K (.exit j) S')
   |e=>K e S') K
 | .exit id,_,S,K=>K (.exit id) S
 | .ret,_,S,K=>K .ret S
 | .region _ aF draw,n,S,K=>
   match sr ann n with
   |none=>gR E R ann N aF.toList draw S (K .normal)
   |some kp=>match kp.mg with
    |true=>ah (!draw||ye E ann aF.toList) (kC E R ann N kp.cT kp.vo kp.wT kp.wL aF.toList aF.toList S (K .normal))
    |false=>mw (fun kp=>jw E ann kp.wT kp.wL aF.toList) (some kp) S (fun K=>gR E R ann N aF.toList draw S (K .normal)) K
 | .loop c,n,S,K=>
   match sr ann n with
   |some kp=>lA kp.cT kp.vo S fun S0=>R.loop c f n S0 (fun S'=>Be kp.mj kp.TZ S' (K .ret)) (vt kp K kp.cA)
   |none=>False
 | .scope b,n,S,K=>gr R f ann N b n S K
 | .label _,_,S,K=>K .normal S
 |_,_,_,_=>False
def my (S:St):ResultVar→(V→Prop)→Prop
 | .tmp t,K=>match S.tm t with|some (.v x)=>K x|_=>False
 | .cell a t,K=>match S.tm a with
   |some (.lp s off)=>match S.lo s with
    |some (.cells _ cs)=>match mL E t cs off with|some (r,v)=>ah r (K v)|none=>False
    |_=>False
   |_=>match dD E (.load t (.tmp a)) (cS S.tm) S.hp with
    |some d=>d.run fun x=>match x with| .v v=>K v|_=>False
    |none=>False
def nn (S:St):List ResultVar→(List V→Prop)→Prop
 |[],K=>K []
 |r::l,K=>my E S r fun v=>nn S l fun vs=>K (v::vs)
def K5 (fn:Func) (K:V→ag→Prop) (S:St):Prop:=
 nn E S fn.results.toList fun vs=>match vs with|[v]=>K v S.hp|vs=>K (.tuple vs) S.hp
def E0:List V→Nat→Nat→Option T
 |[],_,_=>none
 |v::l,j,t=>bif Nat.beq t j then some (.v v) else E0 l (j+1) t
def F (R:mv):mv where
 call f args H K:=
  match E.fn f with
  |some fn=>match fn.body with
   |some c=>ah (Nat.ble args.length fn.ntmps)
    (gr E R f (E.ann f) fn.ntmps c 0 ⟨E0 args 0,fun _=>none,H⟩ fun e S=>match e with| .exit _=>False|_=>K5 E fn K S)
   |none=>False
  |none=>False
 loop c f n S Kr Ke:=
  match E.fn f,sr (E.ann f) n with
  |some fn,some kp=>gr E R f (E.ann f) fn.ntmps c (n+1) S fun e S'=>match e with
   | .normal=>lA kp.cT kp.vo S' fun S0=>R.loop c f n S0 Kr Ke
   | .exit id=>lA (pC kp.cj) (pC kp.hI) S' (Ke id)
   | .ret=>lA (pC kp.mj) (pC kp.TZ) S' Kr
  |_,_=>False
structure mv.le (A B:mv):Prop where
 call:∀f args H K K',(∀v H',K v H'→K' v H')→A.call f args H K→B.call f args H K'
 loop:∀c f n S Kr P9 Ke Qa,(∀S',Kr S'→P9 S')→(∀id S',Ke id S'→Qa id S')→A.loop c f n S Kr Ke→B.loop c f n S P9 Qa
def rM:mv where
 call f args H K:=∀R:mv,R.le R→(F E R).le R→R.call f args H K
 loop c f n S Kr Ke:=∀R:mv,R.le R→(F E R).le R→R.loop c f n S Kr Ke
end
theorem ff {c:Bool} {X X' Y Y':Prop} (hx:X→X') (hy:Y→Y') (h:br c X Y):br c X' Y':=by
 cases c
 ·exact hy h
 ·exact hx h
theorem bU {c:Bool} {X X':Prop} (hx:X→X') (h:ah c X):ah c X':=by
 cases c
 ·exact h
 ·exact hx h
theorem aT {c:Bool} {X:Prop} (h:ah c X):c=true∧X:=by
 cases c
 ·exact h.elim
 ·exact⟨rfl,h⟩
theorem gA {c:Bool} {X Y:Prop} (h:br c X Y):(c=true∧X)∨(c=false∧Y):=by
 cases c
 ·exact .inr ⟨rfl,h⟩
 ·exact .inl ⟨rfl,h⟩
theorem fR.cE {α:Type} {d:fR α} {K K':α→Prop} (h:∀x,K x→K' x) (hd:d.run K):d.run K':=
 bU (ff (h _) (h _)) hd
theorem fR.fg {α:Type} {d:fR α} {K:α→Prop} (h:d.run K):d.rq=true∧K (if d.c then d.x else d.y):=by
 obtain⟨h1,h2⟩:=aT h;refine⟨h1, ?_⟩;rcases gA h2 with⟨hc,h⟩|⟨hc,h⟩<;>simpa [hc] using h
section
variable {E:kv} {A B:mv} {ann:bQ} {N:Nat} {f:FuncId}
theorem eW {dst:Option Tmp} {x:T} {S:St} {K K':St→Prop} (h:∀S,K S→K' S) (hp:jt ann N dst x S K):jt ann N dst x S K':=by
 cases dst with
 |none=>exact h _ hp
 |some d=>
  refine bU ?_ hp
  cases x with
  |v y=>exact h _
  |undef=>exact h _
  |lp s off=>
   simp only[]
   cases ab ann.aW d with
   |none=>exact id
   |some s'=>cases hs:Nat.beq s s'<;>simp [hs];exact h _
theorem Bg {lo hi:Nat} {K K':Nat→Prop} (h:∀c,K c→K' c) (ha:QQ lo hi K):QQ lo hi K':=fun c h1 h2=>h _ (ha c h1 h2)
theorem Az {ts:List TypeId} {args:List V} {H:ag} {K K':Oq→Nat→Nat→ag→Prop} (h:∀q n c H',K q n c H'→K' q n c H') (ho:aO E ts args H K):aO E ts args H K':=by
 unfold aO at ho⊢;split at ho
 ·split at ho
  ·split at ho
   ·exact bU (ff (bU (h _ _ _ _)) (bU (Bg fun c=>h _ _ _ _))) ho
   ·exact ho
  ·exact ho
 ·exact ho
theorem tO {g:FuncId} {args:List V} {H:ag} {K K':V→ag→Prop} (h:∀v H',K v H'→K' v H') (ho:iO E g args H K):iO E g args H K':=by
 unfold iO at ho⊢;split at ho
 ·rename_i x _;exact x.mono _ _ _ _ h ho
 ·exact ho
theorem Hs (hR:A.le B) {fv:V} {args:List V} {H:ag} {K K':V→ag→Prop} (h:∀v H',K v H'→K' v H') (ho:ly E A fv args H K):ly E B fv args H K':=by
 unfold ly at ho⊢;split at ho
 ·split at ho
  ·exact tO h ho
  ·exact hR.call _ _ _ _ _ h ho
 ·split at ho
  ·exact tO h ho
  ·exact hR.call _ _ _ _ _ h ho
 ·exact ho
theorem CS {H:ag} {id:Nat} {K1 K1':Prop} {K2 K2':ag→Prop} (h1:K1→K1') (h2:∀H',K2 H'→K2' H') (ho:mapNext H id K1 K2):mapNext H id K1' K2':=by
 unfold mapNext at ho⊢;split at ho
 ·exact h1 ho
 ·split at ho
  ·rename_i es c _;revert ho;cases n5 _ es&&Nat.ble _ _
   ·exact fun ho=>ho
   ·simp only[cond_true];split
    ·exact h1
    ·exact fun ho b hb=>h2 _ (ho b hb)
  ·exact ho
 ·exact ho
theorem CT {rt:TypeId} {K K':T→ag→Prop} (h:∀x H',K x H'→K' x H') (v:V) (H':ag) (hv:match tH E rt v with|some (b,v')=>ah b (K (.v v') H')|none=>False):match tH E rt v with|some (b,v')=>ah b (K' (.v v') H')|none=>False:=by
 revert hv;split
 ·exact bU (h _ _)
 ·exact id
theorem jM (hR:A.le B) {o:Op} {rt:TypeId} {ev:Ev} {H:ag} {K K':T→ag→Prop} (h:∀x H',K x H'→K' x H') (ho:bL E A o rt ev H K):bL E B o rt ev H K':=by
 have simple:∀o':Op,(match bY E o' ev H with|some (r,x,H')=>ah r (K x H')|none=>False)→
  (match bY E o' ev H with|some (r,x,H')=>ah r (K' x H')|none=>False):=by
  intro o' ho;revert ho;split
  ·exact bU (h _ _)
  ·exact id
 unfold bL at ho⊢;split at ho
 ·split at ho
  ·split at ho
   ·exact h _ _ ho
   ·exact ho
  ·exact ho
 ·split at ho
  ·split at ho
   ·exact bU (h _ _) ho
   ·exact ho
  ·exact ho
 ·split at ho
  ·split at ho
   ·exact bU (h _ _) ho
   ·exact ho
  ·exact ho
 ·split at ho
  ·split at ho
   ·split at ho
    ·exact bU (h _ _) ho
    ·exact ho
   ·exact ho
  ·exact ho
 ·split at ho
  ·split at ho
   ·exact Hs hR (CT h) ho
   ·exact ho
  ·exact Az (fun _ _ _ _=>h _ _) ho
  ·exact simple _ ho
 ·split at ho
  ·split at ho
   ·split at ho
    ·exact bU (Bg fun c=>h _ _) ho
    ·exact ho
   ·exact ho
  ·exact simple _ ho
 ·split at ho
  ·exact CS (h _ _) (fun _=>h _ _) ho
  ·exact ho
 ·exact simple _ ho
theorem yf (hR:A.le B) {o:Oper} {S:St} {K K':St→Prop} (h:∀S,K S→K' S) (ho:jk E A ann N o S K):jk E B ann N o S K':=by
 unfold jk at ho⊢;split at ho
 ·split at ho
  ·exact fR.cE (fun x=>eW h) ho
  ·exact ho
 ·split at ho
  ·exact fR.cE (fun x=>eW h) ho
  ·exact ho
 ·split at ho
  ·exact fR.cE (fun x=>eW h) ho
  ·exact ho
 ·split at ho
  ·exact bU (eW h) ho
  ·exact ho
 ·split at ho
  ·exact fR.cE (fun x=>eW h) ho
  ·exact ho
 ·exact jM hR (fun x H'=>eW h) ho
 ·unfold Jd at ho⊢;split at ho
  ·split at ho
   ·exact eW h ho
   ·exact ho
  ·exact ho
theorem eM (hR:A.le B) {aF:List Oper} {o:Oper} {S:St} {K K':St→Prop} (h:∀S,K S→K' S) (ho:dj E A ann N aF o S K):dj E B ann N aF o S K':=by
 unfold dj at ho⊢;split at ho
 ·exact yf hR h ho
 ·split at ho
  ·exact ff (yf hR h) (eW h) ho
  ·exact eW h ho
  ·exact ho
theorem pD (hR:A.le B) {aF:List Oper}:∀(l:List Oper) {S:St} {K K':St→Prop},(∀S,K S→K' S)→lz E A ann N aF l S K→lz E B ann N aF l S K'
 |[],_,_,_,h,ho=>h _ ho
 |_::l,_,_,_,h,ho=>eM hR (fun _=>pD hR l h) ho
theorem Bh {S:St} {s:Nat} {x:T} (h:S.tm s=some x):S.setT s x=S:=by
 have:(fun t=>bif Nat.beq t s then some x else S.tm t)=S.tm:=by
  funext t;cases hb:Nat.beq t s
  ·rfl
  ·rw[Nat.eq_of_beq_eq_true hb,h];rfl
 cases S;simp only[St.setT,St.mk.injEq,and_true];exact this
theorem hT {aF:List Oper} {o:Oper} {S:St} {K:St→Prop}:tM E A ann N aF o S K=dj E A ann N aF o S K:=by
 unfold tM dj
 cases o.guard with
 |none=>rfl
 |some p=>
  obtain⟨j,want⟩:=p;simp only[CK,ga]
  cases aF[j]? with
  |none=>rfl
  |some q=>
   simp only[]
   cases q.dst with
   |none=>rfl
   |some s=>
    simp only[]
    cases ht:S.tm s with
    |none=>rfl
    |some t=>cases t with
     |undef=>rfl
     |lp s' off=>rfl
     |v x=>cases x with
      |bool b=>
       simp only[QO];by_cases hb:b=want
       ·subst hb;simp only[beq_self_eq_true,br,Bh ht]
       ·have hw:(b == want)=false:=by simpa using hb
        have hn:(!want)=b:=by cases b<;>cases want<;>simp_all
        simp only[hw,br,hn,Bh ht]
      |_=>rfl
theorem kY {aF:List Oper}:∀(l:List Oper) {S:St} {K:St→Prop},so E A ann N aF l S K=lz E A ann N aF l S K
 |[],_,_=>rfl
 |o::l,S,K=>by
  simp only[so,lz,hT];congr 1;funext S';exact kY l
theorem im {ts ls:List Nat} {S:St} {K K':St→Prop} (h:∀S,K S→K' S) (hn:lA ts ls S K):lA ts ls S K':=by
 unfold lA at hn⊢;split at hn
 ·exact h _ hn
 ·exact hn
theorem ss {ts:List (Nat×KT)} {ls:List (Nat×TypeId×List cq)} {S:St} {K K':St→Prop} (h:∀S,K S→K' S) (hn:Be ts ls S K):Be ts ls S K':=
 bU (h _) hn
theorem wB {kp:js} {K K':Ex→St→Prop} (h:∀e S,K e S→K' e S):∀(l:List Nat) (id:Nat) (S:St),vt kp K l id S→vt kp K' l id S
 |[],_,_,hn=>hn
 |_::l,id,S,hn=>ff (ss (h _)) (wB h l id S) hn
theorem Ht {kp:Option js} {A A':(Ex→St→Prop)→Prop} {K K':Ex→St→Prop} (h:∀e S,K e S→K' e S) (hA:∀K K',(∀e S,K e S→K' e S)→A K→A' K') (hj:wA kp A K):wA kp A' K':=by
 unfold wA at hj⊢
 cases kp with
 |none=>exact hA _ _ h hj
 |some kp=>
  refine hA _ _ ?_ hj;intro e S
  cases e with
  |normal=>exact im fun S=>ss (h _)
  |exit id=>exact h _ _
  |ret=>exact h _ _
theorem E1 {ts ls dT dL:List Nat} {tr:fN MS} {S:St} {K K':St→Prop} (h:∀S,K S→K' S) (hm:pB ts ls dT dL tr S K):pB ts ls dT dL tr S K':=by
 unfold pB at hm⊢;split at hm
 ·exact bU (h _) hm
 ·exact hm
theorem pE (hR:A.le B) {aF:List Oper} {ts ls dT dL:List Nat} {K K':St→Prop} (h:∀S,K S→K' S):∀(l:List Oper) {S:St},kC E A ann N ts ls dT dL aF l S K→kC E B ann N ts ls dT dL aF l S K'
 |[],S,hx=>h _ hx
 |o::l,S,hx=>by
  unfold kC at hx⊢;split at hx
  ·rw[hT] at hx⊢;exact eM hR (fun _=>pE hR h l) hx
  ·exact E1 h hx
theorem Hu {kp:js} {S0:St} {A A':(Ex→St→Prop)→Prop} {K K':Ex→St→Prop} (h:∀e S,K e S→K' e S) (hA:∀K K',(∀e S,K e S→K' e S)→A K→A' K') (hj:EZ kp S0 A K):EZ kp S0 A' K':=by
 unfold EZ at hj⊢;refine hA _ _ ?_ hj;intro e S
 cases e with
 |normal=>exact im fun S=>bU (h _ _)
 |exit id=>exact h _ _
 |ret=>exact h _ _
theorem sv {ok:js→Bool} {kp:Option js} {S0:St} {A A':(Ex→St→Prop)→Prop} {K K':Ex→St→Prop} (h:∀e S,K e S→K' e S) (hA:∀K K',(∀e S,K e S→K' e S)→A K→A' K') (hj:mw ok kp S0 A K):mw ok kp S0 A' K':=by
 unfold mw at hj⊢
 cases kp with
 |none=>exact hA _ _ h hj
 |some kp=>
  simp only[] at hj⊢;split at hj
  ·exact bU (Hu h hA) hj
  ·exact Ht h hA hj
theorem jS {st st':Nat→St→(St→Prop)→Prop} (hs:∀i S K K',(∀S,K S→K' S)→st i S K→st' i S K'):∀(t:rL) {S:St} {K K':St→Prop},(∀S,K S→K' S)→il st t S K→il st' t S K'
 | .nil,S,K,K',h,hx=>h _ hx
 | .aP,S,K,K',h,hx=>hx
 | .one i r,S,K,K',h,hx=>hs _ _ _ _ (fun S' hk=>jS hs r h hk) hx
 | .Nf a b,S,K,K',h,hx=>⟨jS hs a h hx.1,jS hs b h hx.2⟩
theorem oi (hR:A.le B) {aF:List Oper} {draw:Bool} {S:St} {K K':St→Prop} (h:∀S,K S→K' S) (hx:gR E A ann N aF draw S K):gR E B ann N aF draw S K':=by
 unfold gR at hx⊢;revert hx;split
 ·simp only[kY];exact pD hR _ h
 ·refine bU (jS (fun i S K K' h hx=> ?_) _ h);unfold fS at hx⊢;split at hx
  ·rw[hT] at hx⊢;exact eM hR h hx
  ·exact hx
theorem gS (hR:A.le B):∀(c:Code) (n:Nat) (S:St) (K K':Ex→St→Prop),(∀e S,K e S→K' e S)→gr E A f ann N c n S K→gr E B f ann N c n S K':=by
 intro c
 induction c with
 |skip=>intro n S K K' h hx;exact h _ _ hx
 |seq a b iha ihb=>
  intro n S K K' h hx;refine iha _ _ _ _ ?_ hx;intro e S'
  cases e with
  |normal=>exact ihb _ _ _ _ h
  |exit id=>exact h _ _
  |ret=>exact h _ _
 |cond c x y ihx ihy=>
  intro n S K K' h hx;simp only[gr] at hx⊢;split at hx
  ·exact sv h (fun K K' h=>ff (ihx _ _ _ _ h) (ihy _ _ _ _ h)) hx
  ·exact hx
 |block id b ih=>
  intro n S K K' h hx;simp only[gr] at hx⊢;refine sv h ?_ hx;intro K K' h hx;refine ih _ _ _ _ ?_ hx;intro e S'
  cases e with
  |normal=>exact h _ _
  |exit j=>exact ff (h _ _) (h _ _)
  |ret=>exact h _ _
 |loop c ih=>
  intro n S K K' h hx;simp only[gr] at hx⊢;split at hx
  ·exact im (fun S0=>hR.loop _ _ _ _ _ _ _ _ (fun S'=>ss (h _)) (fun id S'=>wB h _ id S')) hx
  ·exact hx
 |exit id=>intro n S K K' h hx;exact h _ _ hx
 |ret=>intro n S K K' h hx;exact h _ _ hx
 |region id aF draw=>
  intro n S K K' h hx;simp only[gr] at hx⊢;revert hx;split
  ·exact oi hR (h _)
  ·split
   ·exact bU (pE hR (h _) _)
   ·exact sv h (fun K K' h=>oi hR (h _))
 |rangeFunc=>intro n S K K' h hx;exact hx
 |scope b ih=>intro n S K K' h hx;simp only[gr] at hx⊢;exact ih _ _ _ _ h hx
 |label=>intro n S K K' h hx;simp only[gr] at hx⊢;exact h _ _ hx
 |goto=>intro n S K K' h hx;exact hx
 |refuse=>intro n S K K' h hx;exact hx
theorem CU {S:St} {r:ResultVar} {K K':V→Prop} (h:∀v,K v→K' v) (hx:my E S r K):my E S r K':=by
 unfold my at hx⊢;split at hx
 ·split at hx
  ·exact h _ hx
  ·exact hx
 ·split at hx
  ·split at hx
   ·split at hx
    ·exact bU (h _) hx
    ·exact hx
   ·exact hx
  ·split at hx
   ·refine fR.cE ?_ hx;intro x
    cases x with
    |v y=>exact h _
    |_=>exact id
   ·exact hx
theorem rN {S:St}:∀(l:List ResultVar) {K K':List V→Prop},(∀v,K v→K' v)→nn E S l K→nn E S l K'
 |[],_,_,h,hx=>h _ hx
 |_::l,_,_,h,hx=>CU (fun _=>rN l fun _=>h _) hx
theorem Bi {fn:Func} {K K':V→ag→Prop} (h:∀v H,K v H→K' v H) {S:St} (hx:K5 E fn K S):K5 E fn K' S:=by
 refine rN _ ?_ hx;intro vs;split
 ·exact h _ _
 ·exact h _ _
theorem vu (hR:A.le B):(F E A).le (F E B) where
 call f args H K K' h hx:=by
  simp only[F] at hx⊢;split at hx
  ·split at hx
   ·refine bU (gS hR _ _ _ _ _ ?_) hx;intro e S
    cases e with
    |normal=>exact Bi h
    |exit id=>exact fun h=>h
    |ret=>exact Bi h
   ·exact hx
  ·exact hx
 loop c f n S Kr P9 Ke Qa hr he hx:=by
  simp only[F] at hx⊢;split at hx
  ·refine gS hR _ _ _ _ _ ?_ hx;intro e S
   cases e with
   |normal=>exact im fun S0=>hR.loop _ _ _ _ _ _ _ _ hr he
   |exit id=>exact im (he id)
   |ret=>exact im hr
  ·exact hx
theorem np:(rM E).le (rM E):=
 ⟨fun f args H _ _ hk hx R hm hp=>hm.call f args H _ _ hk (hx R hm hp),
  fun c f n S _ _ _ _ hr he hx R hm hp=>hm.loop c f n S _ _ _ _ hr he (hx R hm hp)⟩
theorem yg {R:mv} (hm:R.le R) (hp:(F E R).le R):(rM E).le R:=
 ⟨fun f args H _ _ hk hx=>hm.call f args H _ _ hk (hx R hm hp),
  fun c f n S _ _ _ _ hr he hx=>hm.loop c f n S _ _ _ _ hr he (hx R hm hp)⟩
theorem pF:(F E (rM E)).le (rM E):=
 ⟨fun f args H _ _ hk hx R hm hp=>hp.call f args H _ _ hk ((vu (yg hm hp)).call f args H _ _ (fun _ _=>id) hx),
  fun c f n S _ _ _ _ hr he hx R hm hp=>hp.loop c f n S _ _ _ _ hr he ((vu (yg hm hp)).loop c f n S _ _ _ _ (fun _=>id) (fun _ _=>id) hx)⟩
theorem E2:(rM E).le (F E (rM E)):=yg (vu np) (vu pF)
theorem Nh {args:List V} {H:ag} {K:V→ag→Prop}:(rM E).call f args H K=(F E (rM E)).call f args H K:=
 propext ⟨E2.call _ _ _ _ _ fun _ _=>id,pF.call _ _ _ _ _ fun _ _=>id⟩
theorem Ni {c:Code} {n:Nat} {S:St} {Kr:St→Prop} {Ke:Nat→St→Prop}:(rM E).loop c f n S Kr Ke=(F E (rM E)).loop c f n S Kr Ke:=
 propext ⟨E2.loop _ _ _ _ _ _ _ _ (fun _=>id) fun _ _=>id,pF.loop _ _ _ _ _ _ _ _ (fun _=>id) fun _ _=>id⟩
structure iq (R:mv):Prop where
 call:∀f args H K,R.call f args H K→∃v H',K v H'
 loop:∀c f n S Kr Ke,R.loop c f n S Kr Ke→(∃S',Kr S')∨∃id S',Ke id S'
theorem fh {dst:Option Tmp} {x:T} {S:St} {K:St→Prop} (hp:jt ann N dst x S K):∃S',K S':=by
 cases dst with
 |none=>exact⟨_,hp⟩
 |some d=>
  have h:=(aT hp).2
  cases x with
  |v y=>exact⟨_,h⟩
  |undef=>exact⟨_,h⟩
  |lp s off=>
   simp only[] at h
   cases hl:ab ann.aW d with
   |none=>rw[hl] at h;exact h.elim
   |some s'=>
    rw[hl] at h;cases hs:Nat.beq s s'<;>simp [hs] at h
    exact⟨_,h⟩
theorem xh {ts:List TypeId} {args:List V} {H:ag} {K:Oq→Nat→Nat→ag→Prop} (ho:aO E ts args H K):∃q n c H',K q n c H':=by
 unfold aO at ho;split at ho
 ·rename_i t u p l cp x;split at ho
  ·rename_i el n cN z _
   split at ho
   ·rename_i r m ok cs _;rcases gA (aT ho).2 with⟨_,h⟩|⟨_,h⟩
    ·exact⟨_,_,_,_,(aT h).2⟩
    ·obtain⟨hr,h⟩:=aT h;simp only[Bool.and_eq_true] at hr;have hb:=Nat.le_of_ble_eq_true hr.2.2;refine⟨_,_,_,_,h _ (Nat.le_refl _) ?_⟩;have:l+m≤(l+m)*(cN+1):=Nat.le_mul_of_pos_right _ (by omega);omega
   ·exact ho.elim
  ·exact ho.elim
 ·exact ho.elim
theorem CV (hR:iq A) {fv:V} {args:List V} {H:ag} {K:V→ag→Prop} (ho:ly E A fv args H K):∃v H',K v H':=by
 unfold ly at ho;split at ho
 ·split at ho
  ·unfold iO at ho;split at ho
   ·rename_i x _;exact x.vp _ _ _ ho
   ·exact ho.elim
  ·exact hR.call _ _ _ _ ho
 ·split at ho
  ·unfold iO at ho;split at ho
   ·rename_i x _;exact x.vp _ _ _ ho
   ·exact ho.elim
  ·exact hR.call _ _ _ _ ho
 ·exact ho.elim
theorem yh {H:ag} {id:Nat} {K1:Prop} {K2:ag→Prop} (ho:mapNext H id K1 K2):K1∨∃H',K2 H':=by
 unfold mapNext at ho;split at ho
 ·exact .inl ho
 ·split at ho
  ·rename_i es c _;revert ho;cases n5 _ es&&Nat.ble _ _
   ·exact fun ho=>ho.elim
   ·simp only[cond_true];split
    ·exact .inl
    ·exact fun ho=>.inr ⟨_,ho _ (List.mem_cons_self)⟩
  ·exact ho.elim
 ·exact ho.elim
theorem yi {rt:TypeId} {K:T→ag→Prop} (v:V) (H':ag) (hv:match tH E rt v with|some (b,v')=>ah b (K (.v v') H')|none=>False):∃x H',K x H':=by
 revert hv;split
 ·exact fun hv=>⟨_,_,(aT hv).2⟩
 ·exact fun hv=>hv.elim
theorem oX (hR:iq A) {o:Op} {rt:TypeId} {ev:Ev} {H:ag} {K:T→ag→Prop} (ho:bL E A o rt ev H K):∃x H',K x H':=by
 have simple:∀o':Op,(match bY E o' ev H with|some (r,x,H')=>ah r (K x H')|none=>False)→∃x H',K x H':=by
  intro o' ho;revert ho;split
  ·exact fun ho=>⟨_,_,(aT ho).2⟩
  ·exact fun ho=>ho.elim
 unfold bL at ho;split at ho
 ·split at ho
  ·split at ho
   ·exact⟨_,_,ho⟩
   ·exact ho.elim
  ·exact ho.elim
 ·split at ho
  ·split at ho
   ·exact⟨_,_,(aT ho).2⟩
   ·exact ho.elim
  ·exact ho.elim
 ·split at ho
  ·split at ho
   ·exact⟨_,_,(aT ho).2⟩
   ·exact ho.elim
  ·exact ho.elim
 ·split at ho
  ·split at ho
   ·split at ho
    ·exact⟨_,_,(aT ho).2⟩
    ·exact ho.elim
   ·exact ho.elim
  ·exact ho.elim
 ·split at ho
  ·split at ho
   ·obtain⟨v,H',hv⟩:=CV hR ho;exact yi v H' hv
   ·exact ho.elim
  ·obtain⟨q,n,c,H',hk⟩:=xh ho;exact⟨_,_,hk⟩
  ·exact simple _ ho
 ·split at ho
  ·split at ho
   ·split at ho
    ·obtain⟨hr,h⟩:=aT ho;have hb:=Nat.le_of_ble_eq_true hr;exact⟨_,_,h _ (Nat.le_refl _) (by omega)⟩
    ·exact ho.elim
   ·exact ho.elim
  ·exact simple _ ho
 ·split at ho
  ·rcases yh ho with h|⟨H',h⟩
   ·exact⟨_,_,h⟩
   ·exact⟨_,_,h⟩
  ·exact ho.elim
 ·exact simple _ ho
theorem tP (hR:iq A) {o:Oper} {S:St} {K:St→Prop} (ho:jk E A ann N o S K):∃S',K S':=by
 unfold jk at ho;split at ho
 ·split at ho
  ·exact fh (fR.fg ho).2
  ·exact ho.elim
 ·split at ho
  ·exact fh (fR.fg ho).2
  ·exact ho.elim
 ·split at ho
  ·exact fh (fR.fg ho).2
  ·exact ho.elim
 ·split at ho
  ·exact fh (aT ho).2
  ·exact ho.elim
 ·split at ho
  ·exact fh (fR.fg ho).2
  ·exact ho.elim
 ·obtain⟨x,H',h⟩:=oX hR ho;exact fh h
 ·unfold Jd at ho;split at ho
  ·split at ho
   ·exact fh ho
   ·exact ho.elim
  ·exact ho.elim
theorem oj (hR:iq A) {aF:List Oper} {o:Oper} {S:St} {K:St→Prop} (ho:dj E A ann N aF o S K):∃S',K S':=by
 unfold dj at ho;split at ho
 ·exact tP hR ho
 ·split at ho
  ·rcases gA ho with⟨_,h⟩|⟨_,h⟩
   ·exact tP hR h
   ·exact fh h
  ·exact fh ho
  ·exact ho.elim
theorem rO (hR:iq A) {aF:List Oper}:∀(l:List Oper) {S:St} {K:St→Prop},lz E A ann N aF l S K→∃S',K S'
 |[],_,_,ho=>⟨_,ho⟩
 |_::l,_,_,ho=>let ⟨_,h⟩:=oj hR ho;rO hR l h
theorem gT {ts ls:List Nat} {S:St} {K:St→Prop} (h:lA ts ls S K):∃S',K S':=by
 unfold lA at h;split at h
 ·exact⟨_,h⟩
 ·exact h.elim
theorem rP {kp:js} {K:Ex→St→Prop}:∀(l:List Nat) (id:Nat) (S:St),vt kp K l id S→∃e S',K e S'
 |[],_,_,h=>h.elim
 |_::l,id,S,h=>by
  rcases gA h with⟨_,h⟩|⟨_,h⟩
  ·exact⟨_,_,(aT h).2⟩
  ·exact rP l id S h
theorem CX {kp:Option js} {Q:(Ex→St→Prop)→Prop} {K:Ex→St→Prop} (hQ:∀K,Q K→∃e S,K e S) (h:wA kp Q K):∃e S,K e S:=by
 unfold wA at h
 cases kp with
 |none=>exact hQ _ h
 |some kp=>
  obtain⟨e,S,h⟩:=hQ _ h
  cases e with
  |normal=>obtain⟨S',h⟩:=gT h;exact⟨_,_,(aT h).2⟩
  |exit id=>exact⟨_,_,h⟩
  |ret=>exact⟨_,_,h⟩
theorem om {ok:js→Bool} {kp:Option js} {S0:St} {Q:(Ex→St→Prop)→Prop} {K:Ex→St→Prop} (hQ:∀K,Q K→∃e S,K e S) (h:mw ok kp S0 Q K):∃e S,K e S:=by
 unfold mw at h
 cases kp with
 |none=>exact hQ _ h
 |some kp=>
  simp only[] at h;split at h
  ·obtain⟨e,S,h⟩:=hQ _ (aT h).2
   cases e with
   |normal=>obtain⟨S',h⟩:=gT h;exact⟨_,_,(aT h).2⟩
   |exit id=>exact⟨_,_,h⟩
   |ret=>exact⟨_,_,h⟩
  ·exact CX hQ h
theorem rQ (hR:iq A) {aF:List Oper} {ts ls dT dL:List Nat} {K:St→Prop}:∀(l:List Oper) {S:St},kC E A ann N ts ls dT dL aF l S K→∃S',K S'
 |[],S,hx=>⟨_,hx⟩
 |o::l,S,hx=>by
  unfold kC at hx;split at hx
  ·rw[hT] at hx;obtain⟨S',h⟩:=oj hR hx;exact rQ hR l h
  ·unfold pB at hx;split at hx
   ·exact⟨_,(aT hx).2⟩
   ·exact hx.elim
theorem mP {st:Nat→St→(St→Prop)→Prop} (hs:∀i S K,st i S K→∃S',K S'):∀(t:rL) {S:St} {K:St→Prop},il st t S K→∃S',K S'
 | .nil,S,K,hx=>⟨_,hx⟩
 | .aP,S,K,hx=>hx.elim
 | .one i r,S,K,hx=>by
   obtain⟨S',h⟩:=hs _ _ _ hx;exact mP hs r h
 | .Nf a b,S,K,hx=>mP hs a hx.1
theorem pG (hR:iq A) {aF:List Oper} {draw:Bool} {S:St} {K:St→Prop} (hx:gR E A ann N aF draw S K):∃S',K S':=by
 unfold gR at hx;revert hx;split
 ·rw[kY];exact rO hR _
 ·intro hx;refine mP (fun i S K h=> ?_) _ (aT hx).2;unfold fS at h;split at h
  ·rw[hT] at h;exact oj hR h
  ·exact h.elim
theorem wC (hR:iq A):∀(c:Code) (n:Nat) (S:St) (K:Ex→St→Prop),gr E A f ann N c n S K→∃e S',K e S':=by
 intro c
 induction c with
 |skip=>intro n S K hx;exact⟨_,_,hx⟩
 |seq a b iha ihb=>
  intro n S K hx;obtain⟨e,S',h⟩:=iha _ _ _ hx
  cases e with
  |normal=>exact ihb _ _ _ h
  |exit id=>exact⟨_,_,h⟩
  |ret=>exact⟨_,_,h⟩
 |cond c x y ihx ihy=>
  intro n S K hx;simp only[gr] at hx;split at hx
  ·refine om ?_ hx;intro K h;rcases gA h with⟨_,h⟩|⟨_,h⟩
   ·exact ihx _ _ _ h
   ·exact ihy _ _ _ h
  ·exact hx.elim
 |block id b ih=>
  intro n S K hx;simp only[gr] at hx;refine om ?_ hx;intro K hx;obtain⟨e,S',h⟩:=ih _ _ _ hx
  cases e with
  |normal=>exact⟨_,_,h⟩
  |exit j=>rcases gA h with⟨_,h⟩|⟨_,h⟩<;>exact⟨_,_,h⟩
  |ret=>exact⟨_,_,h⟩
 |loop c ih=>
  intro n S K hx;simp only[gr] at hx;split at hx
  ·obtain⟨S0,h⟩:=gT hx;rcases hR.loop _ _ _ _ _ _ h with⟨S',h⟩|⟨id,S',h⟩
   ·exact⟨_,_,(aT h).2⟩
   ·exact rP _ _ _ h
  ·exact hx.elim
 |exit id=>intro n S K hx;exact⟨_,_,hx⟩
 |ret=>intro n S K hx;exact⟨_,_,hx⟩
 |region id aF draw=>
  intro n S K hx;simp only[gr] at hx;revert hx;split
  ·intro hx;obtain⟨S',h⟩:=pG hR hx;exact⟨_,_,h⟩
  ·split
   ·intro hx;obtain⟨S',h⟩:=rQ hR _ (aT hx).2;exact⟨_,_,h⟩
   ·intro hx;refine om ?_ hx;intro K h;obtain⟨S',h⟩:=pG hR h;exact⟨_,_,h⟩
 |rangeFunc=>intro n S K hx;exact hx.elim
 |scope b ih=>intro n S K hx;simp only[gr] at hx;exact ih _ _ _ hx
 |label=>intro n S K hx;simp only[gr] at hx;exact⟨_,_,hx⟩
 |goto=>intro n S K hx;exact hx.elim
 |refuse=>intro n S K hx;exact hx.elim
theorem yj {S:St} {r:ResultVar} {K:V→Prop} (hx:my E S r K):∃v,K v:=by
 unfold my at hx;split at hx
 ·split at hx
  ·exact⟨_,hx⟩
  ·exact hx.elim
 ·split at hx
  ·split at hx
   ·split at hx
    ·exact⟨_,(aT hx).2⟩
    ·exact hx.elim
   ·exact hx.elim
  ·split at hx
   ·have h:=(fR.fg hx).2;revert h;split
    ·exact fun h=>⟨_,h⟩
    ·exact fun h=>h.elim
   ·exact hx.elim
theorem oY {S:St}:∀(l:List ResultVar) {K:List V→Prop},nn E S l K→∃v,K v
 |[],_,hx=>⟨_,hx⟩
 |_::l,_,hx=>let ⟨_,h⟩:=yj hx;let ⟨_,h⟩:=oY l h;⟨_,h⟩
theorem wD {fn:Func} {K:V→ag→Prop} {S:St} (hx:K5 E fn K S):∃v H',K v H':=by
 obtain⟨vs,h⟩:=oY _ hx;revert h;split
 ·exact fun h=>⟨_,_,h⟩
 ·exact fun h=>⟨_,_,h⟩
theorem E3 (hR:iq A):iq (F E A) where
 call f args H K hx:=by
  simp only[F] at hx;split at hx
  ·split at hx
   ·obtain⟨e,S,h⟩:=wC hR _ _ _ _ (aT hx).2
    cases e with
    |normal=>exact wD h
    |exit id=>exact h.elim
    |ret=>exact wD h
   ·exact hx.elim
  ·exact hx.elim
 loop c f n S Kr Ke hx:=by
  simp only[F] at hx;split at hx
  ·obtain⟨e,S,h⟩:=wC hR _ _ _ _ hx
   cases e with
   |normal=>obtain⟨S',h⟩:=gT h;exact hR.loop _ _ _ _ _ _ h
   |exit id=>obtain⟨S',h⟩:=gT h;exact .inr ⟨_,_,h⟩
   |ret=>obtain⟨S',h⟩:=gT h;exact .inl ⟨_,h⟩
  ·exact hx.elim
def Je:mv where
 call _ _ _ K:=∃v H',K v H'
 loop _ _ _ _ Kr Ke:=(∃S',Kr S')∨∃id S',Ke id S'
theorem tQ:iq Je:=⟨fun _ _ _ _ h=>h,fun _ _ _ _ _ _ h=>h⟩
theorem sw:Je.le Je:=
 ⟨fun _ _ _ _ _ h ⟨v,H',hk⟩=>⟨v,H',h _ _ hk⟩,
  fun _ _ _ _ _ _ _ _ hr he h=>h.imp (fun⟨S',h⟩=>⟨S',hr _ h⟩) fun⟨id,S',h⟩=>⟨id,S',he _ _ h⟩⟩
theorem sx:iq (rM E):=by
 have h:(rM E).le Je:=yg sw
  ⟨fun f args H K K' hk hx=>sw.call f args H _ _ hk ((E3 tQ).call f args H K hx),
   fun c f n S Kr P9 Ke Qa hr he hx=>sw.loop c f n S _ _ _ _ hr he ((E3 tQ).loop c f n S Kr Ke hx)⟩
 exact⟨fun f args H K hx=>h.call f args H _ _ (fun _ _=>id) hx,fun c f n S Kr Ke hx=>h.loop c f n S _ _ _ _ (fun _=>id) (fun _ _=>id) hx⟩
end
theorem jx {n:Nat}:∀{l:List Nat},bD n l=true↔n∈l
 |[]=>by simp [bD]
 |x::l=>by
  rw[bD,Bool.or_eq_true,jx,List.mem_cons];exact⟨fun h=>h.imp Nat.eq_of_beq_eq_true id,fun h=>h.imp (fun e=>by subst e;exact Nat.beq_refl n) id⟩
theorem fP {l m:List Nat} (h:jl l m=false):∀x∈l,x∉m:=by
 induction l with
 |nil=>intro x hx;cases hx
 |cons y l ih=>
  rw[jl,Bool.or_eq_false_iff] at h;intro x hx hm;rcases List.mem_cons.1 hx with rfl|hx
  ·have:=jx.2 hm;rw[h.1] at this;cases this
  ·exact ih h.2 x hx hm
structure jd where
 x:T
 QT:Option (Nat×aU):=none
 kd:Option Nat:=none
 hp:Option ag:=none
def jd.apply (ann:bQ) (dst:Option Tmp) (u:jd) (S:St):St where
 tm:=fun t=>if dst=some t then some u.x else if u.kd.isSome=true∧ab ann.aW t=u.kd then none else S.tm t
 lo:=fun s=>match u.QT with|some (s',L)=>if s=s' then some L else S.lo s|none=>S.lo s
 hp:=u.hp.getD S.hp
def K6 (ann:bQ) (N:Nat) (dst:Option Tmp) (x:T):Prop:=
 ∀d,dst=some d→Nat.blt d N=true∧∀s off,x=.lp s off→ab ann.aW d=some s
def gU (dst:Option Tmp) (x:T) (S:St):St:=match dst with|some d=>S.setT d x|none=>S
theorem eh {ann:bQ} {N:Nat} {dst:Option Tmp} {x:T} {S:St} {K:St→Prop}:jt ann N dst x S K↔K6 ann N dst x∧K (gU dst x S):=by
 cases dst with
 |none=>simp [jt,K6,gU]
 |some d=>
  by_cases hb:d<N
  ·have hb':Nat.blt d N=true:=by simpa using hb
   cases x with
   |v y=>simp [jt,K6,ah,hb',gU,hb]
   |undef=>simp [jt,K6,ah,hb',gU,hb]
   |lp s off=>
    cases hl:ab ann.aW d with
    |none=>simp [jt,K6,ah,hb',hl]
    |some s'=>
     cases hs:Nat.beq s s'
     ·have:s'≠s:=fun e=>by subst e;rw[Nat.beq_refl] at hs;cases hs
      simp [jt,K6,ah,hb',hl,hs,this]
     ·have:s'=s:=(Nat.eq_of_beq_eq_true hs).symm;simp [jt,K6,ah,hb',hl,gU,this,hb]
  ·have hb':Nat.blt d N=false:=by
    cases h:Nat.blt d N
    ·rfl
    ·exact(hb (by simpa using h)).elim
   simp [jt,K6,ah,hb',hb]
theorem St.ext' {S S':St} (h1:∀t,S.tm t=S'.tm t) (h2:∀t,S.lo t=S'.lo t) (h3:S.hp=S'.hp):S=S':=by
 cases S;cases S';simp only[St.mk.injEq];exact⟨funext h1,funext h2,h3⟩
theorem aX {a b:Nat}:Nat.beq a b=decide (a=b):=by
 cases h:Nat.beq a b
 ·rw[eq_comm,decide_eq_false_iff_not];intro e;subst e;rw[Nat.beq_refl] at h;cases h
 ·rw[eq_comm,decide_eq_true_iff];exact Nat.eq_of_beq_eq_true h
section
variable {E:kv} {R:mv} {ann:bQ} {N:Nat} {aF:List Oper}
def pd (E:kv) (R:mv) (ann:bQ) (o:Oper) (S:St) (P:jd→Prop):Prop:=
 match Hq E ann o with
 | .pure=>match ba E o.op (cS S.tm) with|some d=>d.run fun x=>P {x}|none=>False
 | .oV s=>match gQ E o.op (cS S.tm) s (S.lo s) with|some d=>d.run fun x=>P {x}|none=>False
 | .iN s=>match eg E o.op (cS S.tm) s (S.lo s) with|some d=>d.run fun x=>P {x:=x.2,QT:=some (s,x.1)}|none=>False
 | .tK=>match o.dst,iM E o.op (cS S.tm) with
   |some d,some (r,L)=>ah r (P {x:=.lp d 0,QT:=some (d,L),kd:=some d})
   |_,_=>False
 | .kJ=>match dD E o.op (cS S.tm) S.hp with|some d=>d.run fun x=>P {x}|none=>False
 | .dz=>bL E R o.op o.type (cS S.tm) S.hp fun x H'=>P {x,hp:=some H'}
 | .tL=>False
def ml (E:kv) (R:mv) (ann:bQ) (aF:List Oper) (o:Oper) (S:St) (P:jd→Prop):Prop:=
 match o.guard with
 |none=>pd E R ann o S P
 |some (j,want)=>
  match ga aF S.tm j with
  |some (.v (.bool b))=>br (b == want) (pd E R ann o S P) (P {x:=.undef})
  |some .undef=>P {x:=.undef}
  |_=>False
theorem nq (dst:Option Tmp) (x:T) (S:St):({x:jd}).apply ann dst S=gU dst x S:=by
 cases dst with
 |none=>exact St.ext' (fun t=>by simp [jd.apply,gU]) (fun t=>by simp [jd.apply,gU]) (by simp [jd.apply,gU])
 |some d=>
  refine St.ext' (fun t=> ?_) (fun t=>by simp [jd.apply,gU,St.setT]) (by simp [jd.apply,gU,St.setT]);by_cases h:d=t<;>simp [jd.apply,gU,St.setT,aX,h,eq_comm]
theorem K7 (dst:Option Tmp) (x:T) (s:Nat) (L:aU) (S:St):({x,QT:=some (s,L):jd}).apply ann dst S=gU dst x (S.setL s L):=by
 cases dst with
 |none=>exact St.ext' (fun t=>by simp [jd.apply,gU,St.setL]) (fun t=>by by_cases h:t=s<;>simp [jd.apply,gU,St.setL,aX,h]) (by simp [jd.apply,gU,St.setL])
 |some d=>
  refine St.ext' (fun t=> ?_) (fun t=>by by_cases h:t=s<;>simp [jd.apply,gU,St.setL,St.setT,aX,h]) (by simp [jd.apply,gU,St.setT,St.setL]);by_cases h:d=t<;>simp [jd.apply,gU,St.setT,St.setL,aX,h,eq_comm]
theorem K8 (d:Nat) (x:T) (L:aU) (S:St):({x,QT:=some (d,L),kd:=some d:jd}).apply ann (some d) S=gU (some d) x ((sl ann d S).setL d L):=by
 refine St.ext' (fun t=> ?_) (fun t=>by by_cases h:t=d<;>simp [jd.apply,gU,St.setL,St.setT,sl,aX,h]) (by simp [jd.apply,gU,St.setT,St.setL,sl]);by_cases h:d=t
 ·simp [jd.apply,gU,St.setT,aX,h]
 ·have h':¬t=d:=fun e=>h e.symm
  simp only[jd.apply,gU,St.setT,St.setL,sl,aX,h,h',Option.some.injEq,decide_false,cond_false,if_false,Option.isSome_some,true_and]
  cases hl:ab ann.aW t with
  |none=>simp
  |some s=>by_cases hs:s=d<;>simp [hs]
theorem Nj (dst:Option Tmp) (x:T) (H:ag) (S:St):({x,hp:=some H:jd}).apply ann dst S=gU dst x {S with hp:=H}:=by
 cases dst with
 |none=>exact St.ext' (fun t=>by simp [jd.apply,gU]) (fun t=>by simp [jd.apply,gU]) (by simp [jd.apply,gU])
 |some d=>
  refine St.ext' (fun t=> ?_) (fun t=>by simp [jd.apply,gU,St.setT]) (by simp [jd.apply,gU,St.setT]);by_cases h:d=t<;>simp [jd.apply,gU,St.setT,aX,h,eq_comm]
theorem Bj {o:Oper} {S:St} {K:St→Prop} (hno:(cY E ann aF o).no=false):jk E R ann N o S K↔pd E R ann o S fun u=>K6 ann N o.dst u.x∧K (u.apply ann o.dst S):=by
 unfold cY at hno;unfold jk pd
 cases wx:Hq E ann o with
 |tL=>rw[wx] at hno;cases hno
 |pure=>simp only[];cases ba E o.op (cS S.tm) with
  |none=>exact Iff.rfl
  |some d=>simp only[eh,nq]
 |oV s=>simp only[];cases gQ E o.op (cS S.tm) s (S.lo s) with
  |none=>exact Iff.rfl
  |some d=>simp only[eh,nq]
 |iN s=>simp only[];cases eg E o.op (cS S.tm) s (S.lo s) with
  |none=>exact Iff.rfl
  |some d=>simp only[eh,K7]
 |tK=>cases hd:o.dst with
  |none=>exact Iff.rfl
  |some d=>simp only[];cases iM E o.op (cS S.tm) with
   |none=>exact Iff.rfl
   |some p=>simp only[eh,K8]
 |kJ=>simp only[];cases dD E o.op (cS S.tm) S.hp with
  |none=>exact Iff.rfl
  |some d=>simp only[eh,nq]
 |dz=>simp only[eh,Nj]
theorem nr {o:Oper} {S:St} {K:St→Prop} (hno:(cY E ann aF o).no=false):dj E R ann N aF o S K↔ml E R ann aF o S fun u=>K6 ann N o.dst u.x∧K (u.apply ann o.dst S):=by
 unfold dj ml
 cases o.guard with
 |none=>exact Bj hno
 |some p=>
  obtain⟨j,want⟩:=p;simp only[]
  cases ga aF S.tm j with
  |none=>exact Iff.rfl
  |some t=>cases t with
   |undef=>simp only[eh,nq]
   |lp s off=>exact Iff.rfl
   |v x=>cases x with
    |bool b=>
     simp only[br]
     cases b == want with
     |true=>exact Bj hno
     |false=>simp only[eh,nq]
    |_=>exact Iff.rfl
theorem Bl (hR:R.le R) {o:Oper} {S:St} {P P':jd→Prop} (h:∀u,P u→P' u) (ho:pd E R ann o S P):pd E R ann o S P':=by
 unfold pd at ho⊢;split at ho
 ·split at ho
  ·exact fR.cE (fun x=>h _) ho
  ·exact ho
 ·split at ho
  ·exact fR.cE (fun x=>h _) ho
  ·exact ho
 ·split at ho
  ·exact fR.cE (fun x=>h _) ho
  ·exact ho
 ·split at ho
  ·exact bU (h _) ho
  ·exact ho
 ·split at ho
  ·exact fR.cE (fun x=>h _) ho
  ·exact ho
 ·exact jM hR (fun x H'=>h _) ho
 ·exact ho
theorem qH (hR:R.le R) {o:Oper} {S:St} {P P':jd→Prop} (h:∀u,P u→P' u) (ho:ml E R ann aF o S P):ml E R ann aF o S P':=by
 unfold ml at ho⊢;split at ho
 ·exact Bl hR h ho
 ·split at ho
  ·exact ff (Bl hR h) (h _) ho
  ·exact h _ ho
  ·exact ho
theorem E4 (hR:iq R) {o:Oper} {S:St} {P:jd→Prop} (ho:ml E R ann aF o S P):∃u,P u:=by
 have key:pd E R ann o S P→∃u,P u:=by
  intro ho;unfold pd at ho;split at ho
  ·split at ho
   ·exact⟨_,(fR.fg ho).2⟩
   ·exact ho.elim
  ·split at ho
   ·exact⟨_,(fR.fg ho).2⟩
   ·exact ho.elim
  ·split at ho
   ·exact⟨_,(fR.fg ho).2⟩
   ·exact ho.elim
  ·split at ho
   ·exact⟨_,(aT ho).2⟩
   ·exact ho.elim
  ·split at ho
   ·exact⟨_,(fR.fg ho).2⟩
   ·exact ho.elim
  ·obtain⟨x,H',h⟩:=oX hR ho;exact⟨_,h⟩
  ·exact ho.elim
 unfold ml at ho;split at ho
 ·exact key ho
 ·split at ho
  ·rcases gA ho with⟨_,h⟩|⟨_,h⟩
   ·exact key h
   ·exact⟨_,h⟩
  ·exact⟨_,ho⟩
  ·exact ho.elim
theorem fR.xH {α:Type} {d:fR α} {K:α→Prop} (h:d.run K):∃x,∀K':α→Prop,d.run K'↔K' x:=by
 obtain⟨h1,h2⟩:=aT h;rcases gA h2 with⟨hc,h⟩|⟨hc,h⟩
 ·exact⟨d.x,fun K'=>by simp [fR.run,ah,br,h1,hc]⟩
 ·exact⟨d.y,fun K'=>by simp [fR.run,ah,br,h1,hc]⟩
theorem E5 {o:Oper} {S:St} {P:jd→Prop} (hw:(cY E ann aF o).wh=false) (ho:ml E R ann aF o S P):∃u,∀P':jd→Prop,ml E R ann aF o S P'↔P' u:=by
 have key:pd E R ann o S P→∃u,∀P':jd→Prop,pd E R ann o S P'↔P' u:=by
  intro ho;unfold pd at ho⊢;unfold cY at hw
  cases hc:Hq E ann o with
  |pure=>
   simp only[hc] at ho⊢
   cases hp:ba E o.op (cS S.tm) with
   |none=>simp only[hp] at ho
   |some d=>simp only[hp] at ho⊢;obtain⟨x,h⟩:=fR.xH ho;exact⟨_,fun P'=>h fun x=>P' {x}⟩
  |oV s=>
   simp only[hc] at ho⊢
   cases hp:gQ E o.op (cS S.tm) s (S.lo s) with
   |none=>simp only[hp] at ho
   |some d=>simp only[hp] at ho⊢;obtain⟨x,h⟩:=fR.xH ho;exact⟨_,fun P'=>h fun x=>P' {x}⟩
  |iN s=>
   simp only[hc] at ho⊢
   cases hp:eg E o.op (cS S.tm) s (S.lo s) with
   |none=>simp only[hp] at ho
   |some d=>simp only[hp] at ho⊢;obtain⟨x,h⟩:=fR.xH ho;exact⟨_,fun P'=>h fun x=>P' {x:=x.2,QT:=some (s,x.1)}⟩
  |tK=>
   simp only[hc] at ho⊢
   cases hd:o.dst with
   |none=>simp only[hd] at ho
   |some d=>
    cases hp:iM E o.op (cS S.tm) with
    |none=>simp only[hd,hp] at ho
    |some p=>
     simp only[hd,hp] at ho⊢;exact⟨{x:=.lp d 0,QT:=some (d,p.2),kd:=some d},fun P'=>by simp only[ah,(aT ho).1]⟩
  |kJ=>
   simp only[hc] at ho⊢
   cases hp:dD E o.op (cS S.tm) S.hp with
   |none=>simp only[hp] at ho
   |some d=>simp only[hp] at ho⊢;obtain⟨x,h⟩:=fR.xH ho;exact⟨_,fun P'=>h fun x=>P' {x}⟩
  |dz=>rw[hc] at hw;cases hw
  |tL=>rw[hc] at hw;cases hw
 unfold ml at ho⊢
 cases hg:o.guard with
 |none=>simp only[hg] at ho⊢;exact key ho
 |some p=>
  obtain⟨j,want⟩:=p;simp only[hg] at ho⊢
  cases hy:ga aF S.tm j with
  |none=>simp only[hy] at ho
  |some t=>cases t with
   |undef=>simp only[];exact⟨{x:=.undef},fun P'=>Iff.rfl⟩
   |lp s off=>simp only[hy] at ho
   |v x=>cases x with
    |bool b=>
     simp only[hy] at ho⊢;rcases gA ho with⟨hb,h⟩|⟨hb,h⟩
     ·obtain⟨u,h⟩:=key h;exact⟨u,fun P'=>by simp only[br,hb];exact h _⟩
     ·exact⟨{x:=.undef},fun P'=>by simp only[br,hb]⟩
    |_=>simp only[hy] at ho
def jd.kD (ann:bQ) (f:jR) (dst:Option Tmp) (u:jd):Prop:=
 (∀t,dst=some t→t∈f.wt)∧(∀s L,u.QT=some (s,L)→s∈f.wl)∧(u.hp.isSome=true→f.wh=true)∧
  (∀d,u.kd=some d→∀t,ab ann.aW t=some d→t∈f.wt)
theorem E6 {t d:Nat}:∀{l:List (Nat×Nat)},ab l t=some d→t∈kN d l
 |[],h=>by cases h
 |(k,x)::l,h=>by
  simp only[ab,aX] at h;simp only[kN,aX];by_cases hk:t=k
  ·simp only[hk,decide_true,cond_true,Option.some.injEq] at h;simp [h,hk]
  ·simp only[hk,decide_false,cond_false] at h;have:=E6 h;by_cases hx:x=d<;>simp [hx,this]
theorem Nk {o:Oper} {t:Nat} (ht:o.dst=some t):t∈(cY E ann aF o).wt:=by
 unfold cY;cases Hq E ann o<;>simp [mO,ht]
theorem wE (hR:R.le R) {o:Oper} {S:St} {P:jd→Prop} (ho:ml E R ann aF o S P):ml E R ann aF o S fun u=>P u∧u.kD ann (cY E ann aF o) o.dst:=by
 have hd:∀t,o.dst=some t→t∈(cY E ann aF o).wt:=fun t ht=>Nk ht
 have plain:∀x:T,({x:jd}).kD ann (cY E ann aF o) o.dst:=
  fun x=>⟨hd,fun _ _ h=>by simp at h,fun h=>by simp at h,fun _ h=>by simp at h⟩
 have key:pd E R ann o S P→pd E R ann o S fun u=>P u∧u.kD ann (cY E ann aF o) o.dst:=by
  intro ho;unfold pd at ho⊢
  cases hc:Hq E ann o with
  |pure=>
   simp only[hc] at ho⊢
   cases hp:ba E o.op (cS S.tm) with
   |none=>simp only[hp] at ho
   |some d=>simp only[hp] at ho⊢;exact fR.cE (fun x h=>⟨h,plain _⟩) ho
  |oV s=>
   simp only[hc] at ho⊢
   cases hp:gQ E o.op (cS S.tm) s (S.lo s) with
   |none=>simp only[hp] at ho
   |some d=>simp only[hp] at ho⊢;exact fR.cE (fun x h=>⟨h,plain _⟩) ho
  |iN s=>
   simp only[hc] at ho⊢
   cases hp:eg E o.op (cS S.tm) s (S.lo s) with
   |none=>simp only[hp] at ho
   |some d=>
    simp only[hp] at ho⊢;refine fR.cE (fun x h=>⟨h,hd,fun s' L h=> ?_,fun h=>by simp at h,fun _ h=>by simp at h⟩) ho;simp only[Option.some.injEq,Prod.mk.injEq] at h;simp [cY,mO,hc,h.1]
  |tK=>
   simp only[hc] at ho⊢
   cases xA:o.dst with
   |none=>simp only[xA] at ho
   |some d=>
    cases hp:iM E o.op (cS S.tm) with
    |none=>simp only[xA,hp] at ho
    |some p=>
     simp only[xA,hp] at ho⊢;refine bU (fun h=>⟨h,fun t ht=>hd t (xA▸ht),fun s' L h=> ?_,fun h=>by simp at h,fun d' h t ht=> ?_⟩) ho
     ·simp only[Option.some.injEq,Prod.mk.injEq] at h;simp [cY,mO,hc,xA,h.1]
     ·simp only[Option.some.injEq] at h;subst h;simp [cY,mO,hc,xA,CP,E6 ht]
  |kJ=>
   simp only[hc] at ho⊢
   cases hp:dD E o.op (cS S.tm) S.hp with
   |none=>simp only[hp] at ho
   |some d=>simp only[hp] at ho⊢;exact fR.cE (fun x h=>⟨h,plain _⟩) ho
  |dz=>
   simp only[hc] at ho⊢;exact jM hR (fun x H' h=>⟨h,hd,fun _ _ h=>by simp at h,fun _=>by simp [cY,mO,hc],fun _ h=>by simp at h⟩) ho
  |tL=>simp only[hc] at ho
 unfold ml at ho⊢
 cases hg:o.guard with
 |none=>simp only[hg] at ho⊢;exact key ho
 |some p=>
  obtain⟨j,want⟩:=p;simp only[hg] at ho⊢
  cases hy:ga aF S.tm j with
  |none=>simp only[hy] at ho
  |some t=>cases t with
   |undef=>simp only[hy] at ho⊢;exact⟨ho,plain _⟩
   |lp s off=>simp only[hy] at ho
   |v x=>cases x with
    |bool b=>simp only[hy] at ho⊢;exact ff key (fun h=>⟨h,plain _⟩) ho
    |_=>simp only[hy] at ho
end
section
variable {E:kv} {R:mv} {ann:bQ} {N:Nat} {aF:List Oper}
theorem ir {ev ev':Ev}:∀{l:List Operand},(∀x∈l,ev x=ev' x)→si ev l=si ev' l
 |[],_=>rfl
 |x::l,h=>by
  simp only[si,jc,h x (List.mem_cons_self ..),ir (l:=l) fun y hy=>h y (List.mem_cons_of_mem _ hy)]
theorem mR {ev ev':Ev}:∀{l:List (Nat×Operand)},(∀x∈l.map (·.2),ev x=ev' x)→kM ev l=kM ev' l
 |[],_=>rfl
 |(i,x)::l,h=>by
  simp only[kM,jc,h x (by simp),mR (l:=l) fun y hy=>h y (by simp only[List.map_cons,List.mem_cons];exact .inr hy)]
theorem E7 {ev ev':Ev} {x:Operand} (h:ev x=ev' x):rK x ev=rK x ev':=by simp only[rK,jc,h]
theorem oo {ev ev':Ev} {x:Option Operand} {d m:Nat} (h:∀y,x=some y→ev y=ev' y):mM ev x d m=mM ev' x d m:=by
 cases x with
 |none=>rfl
 |some y=>simp only[mM,E7 (h y rfl)]
theorem rR {ev ev':Ev} {len cap:Nat} {lo hi mx:Option Operand} (h1:∀x,lo=some x→ev x=ev' x) (h2:∀x,hi=some x→ev x=ev' x) (h3:∀x,mx=some x→ev x=ev' x):gx ev len cap lo hi mx=gx ev' len cap lo hi mx:=by
 simp only[gx,oo h1,oo h2,oo h3]
theorem CY {o:Op} {ev ev':Ev} (h:∀x∈o.operands.toList,ev x=ev' x):ba E o ev=ba E o ev':=by
 cases o with
 |move x=>simp only[ba,h x (by simp [Op.operands])]
 |assign x=>simp only[ba,h x (by simp [Op.operands])]
 |pick c a b=>simp only[ba,h c (by simp [Op.operands]),h a (by simp [Op.operands]),h b (by simp [Op.operands])]
 |binOp op t x y _=>simp only[ba,jc,h x (by simp [Op.operands]),h y (by simp [Op.operands])]
 |unOp op t x=>simp only[ba,jc,h x (by simp [Op.operands])]
 |convert s d x=>simp only[ba,jc,h x (by simp [Op.operands])]
 |nilCheck x=>simp only[ba,h x (by simp [Op.operands])]
 |fieldAddr t x f=>simp only[ba,h x (by simp [Op.operands])]
 |field t x f=>simp only[ba,jc,h x (by simp [Op.operands])]
 |indexAddr t x i=>simp only[ba,rK,jc,h x (by simp [Op.operands]),h i (by simp [Op.operands])]
 |index t x i=>simp only[ba,rK,jc,h x (by simp [Op.operands]),h i (by simp [Op.operands])]
 |slice t x lo hi mx=>
  have hb:∀len cap,gx ev len cap lo hi mx=gx ev' len cap lo hi mx:=fun len cap=>
   rR (fun y hy=>h y (by subst hy;simp [Op.operands])) (fun y hy=>h y (by subst hy;simp [Op.operands])) (fun y hy=>h y (by subst hy;simp [Op.operands]))
  have hb':∀len cap,gx ev len cap lo hi none=gx ev' len cap lo hi none:=fun len cap=>
   rR (fun y hy=>h y (by subst hy;simp [Op.operands])) (fun y hy=>h y (by subst hy;simp [Op.operands])) (fun y hy=>by cases hy)
  simp only[ba,hb,hb',h x (by simp [Op.operands])]
 |makeInterface t x=>simp only[ba,jc,h x (by simp [Op.operands])]
 |makeFunc f first dF=>
  cases f with
  |func f=>
   have h1:=ir (ev:=ev) (ev':=ev') (l:=dF.toList) fun x hx=>h x (by simp only[Op.operands,Array.toList_append,List.mem_append];exact .inr hx)
   have h2:=ir (ev:=ev) (ev':=ev') (l:=first.toList) fun x hx=>h x (by simp only[Op.operands,Array.toList_append,List.mem_append];exact .inl hx)
   simp only[ba]
   cases hf:first.toList with
   |nil=>simp only[h1]
   |cons x l=>
    rw[hf] at h2
    cases dF.toList with
    |nil=>simp only[h2]
    |cons y m=>rfl
  |_=>rfl
 |extract x i=>simp only[ba,jc,h x (by simp [Op.operands])]
 |build t parts=>
  have h1:=mR (ev:=ev) (ev':=ev') (l:=parts.toList) fun x hx=>h x (by simpa only[Op.operands] using hx)
  simp only[ba,h1]
 |typeAssert x xt d ok=>simp only[ba,jc,h x (by simp [Op.operands])]
 |call c=>
  have h1:=ir (ev:=ev) (ev':=ev') (l:=c.args.toList) fun x hx=>h x (by
   simp only[Op.operands,Call.operands,Array.toList_append,List.mem_append];exact .inr hx)
  simp only[ba,h1]
 |_=>rfl
theorem AA {o:Op} {ev ev':Ev} {s:Nat} {L:Option aU} (h:∀x∈o.operands.toList,ev x=ev' x):gQ E o ev s L=gQ E o ev' s L:=by
 cases o with
 |load t a=>simp only[gQ,h a (by simp [Op.operands])]
 |_=>rfl
theorem yk {o:Op} {ev ev':Ev} {s:Nat} {L:Option aU} (h:∀x∈o.operands.toList,ev x=ev' x):eg E o ev s L=eg E o ev' s L:=by
 cases o with
 |store t a x=>simp only[eg,jc,h a (by simp [Op.operands]),h x (by simp [Op.operands])]
 |next it b=>cases b with
  |true=>simp only[eg,h it (by simp [Op.operands])]
  |false=>rfl
 |_=>rfl
theorem CZ {o:Op} {ev ev':Ev} (h:∀x∈o.operands.toList,ev x=ev' x):iM E o ev=iM E o ev':=by
 cases o with
 |box t x=>simp only[iM,jc,h x (by simp [Op.operands])]
 |range t x=>simp only[iM,jc,h x (by simp [Op.operands])]
 |_=>rfl
theorem AB {o:Op} {ev ev':Ev} {H:ag} (h:∀x∈o.operands.toList,ev x=ev' x):dD E o ev H=dD E o ev' H:=by
 cases o with
 |load t a=>simp only[dD,h a (by simp [Op.operands])]
 |convert s d x=>simp only[dD,jc,h x (by simp [Op.operands])]
 |lookup t x i ok=>simp only[dD,jc,h x (by simp [Op.operands]),h i (by simp [Op.operands])]
 |entry it=>simp only[dD,h it (by simp [Op.operands])]
 |call c=>
  have h1:=ir (ev:=ev) (ev':=ev') (l:=c.args.toList) fun x hx=>h x (by
   simp only[Op.operands,Call.operands,Array.toList_append,List.mem_append];exact .inr hx)
  simp only[dD,h1]
 |_=>rfl
theorem ie {o:Op} {ev ev':Ev} {H:ag} (h:∀x∈o.operands.toList,ev x=ev' x):bY E o ev H=bY E o ev' H:=by
 cases o with
 |buildSlice t len parts=>
  simp only[bY];rw[mR (ev:=ev) (ev':=ev') fun x hx=>h x (by simp only[Op.operands];simpa using hx)]
 |makeSlice t len cap=>simp only[bY,jc,h len (by simp [Op.operands]),h cap (by simp [Op.operands])]
 |convert s d x=>simp only[bY,jc,h x (by simp [Op.operands])]
 |call c=>
  have h1:=ir (ev:=ev) (ev':=ev') (l:=c.args.toList) fun x hx=>h x (by
   simp only[Op.operands,Call.operands,Array.toList_append,List.mem_append];exact .inr hx)
  simp only[bY,h1]
 |range t x=>simp only[bY,jc,h x (by simp [Op.operands])]
 |makeMap t r=>cases r<;>rfl
 |_=>rfl
theorem yl {o:Op} {rt:TypeId} {ev ev':Ev} {H:ag} {K:T→ag→Prop} (h:∀x∈o.operands.toList,ev x=ev' x):bL E R o rt ev H K=bL E R o rt ev' H K:=by
 cases o with
 |box t x=>simp only[bL,jc,h x (by simp [Op.operands])]
 |store t a x=>simp only[bL,jc,h a (by simp [Op.operands]),h x (by simp [Op.operands])]
 |convert s d x=>simp only[bL,bY,jc,h x (by simp [Op.operands])]
 |makeSlice t len cap=>simp only[bL];rw[ie h]
 |call c=>
  have h0:=ie (E:=E) (H:=H) h
  have h1:=ir (ev:=ev) (ev':=ev') (l:=c.args.toList) fun x hx=>h x (by
   simp only[Op.operands,Call.operands,Array.toList_append,List.mem_append];exact .inr hx)
  cases hc:c.callee with
  |value f=>
   have h2:ev f=ev' f:=h f (by simp [Op.operands,Call.operands,hc]);have h3:jc ev f=jc ev' f:=by simp only[jc,h2]
   simp only[bL,hc];rw[h1]
   cases si ev' c.args.toList with
   |none=>simp only[h0]
   |some args=>simp only[h3]
  |invoke r m=>simp only[bL,hc,h0]
  |builtin b=>
   simp only[bL,hc,h0,h1];cases b<;>cases si ev' c.args.toList<;>rfl
 |buildSlice t len parts=>simp only[bL];rw[ie h]
 |mapUpdate t m x v=>simp only[bL,jc,h m (by simp [Op.operands]),h x (by simp [Op.operands]),h v (by simp [Op.operands])]
 |range t x=>simp only[bL];rw[ie h]
 |makeMap t r=>cases r<;>rfl
 |next it b=>cases b with
  |true=>rfl
  |false=>simp only[bL,h it (by simp [Op.operands])]
 |_=>rfl
theorem wF {t:Nat}:∀{l:List Operand},Operand.tmp t∈l→t∈oe l
 |[],h=>by cases h
 |x::l,h=>by
  rcases List.mem_cons.1 h with rfl|h
  ·simp [oe]
  ·have:=wF h;cases x<;>simp [oe,this]
theorem E8 {o:Oper}:(cY E ann aF o).rt=Xt aF o:=by
 unfold cY;cases Hq E ann o<;>rfl
theorem QU {o:Oper} {t:Nat} (h:t∈oe o.op.operands.toList):t∈(cY E ann aF o).rt:=by
 rw[E8];exact List.mem_append.2 (.inl h)
theorem Hv {o:Oper} {j:Nat} {want:Bool} {q:Oper} {d:Nat} (hg:o.guard=some (j,want)) (hq:aF[j]? =some q) (hd:q.dst=some d):d∈(cY E ann aF o).rt:=by
 rw[E8];exact List.mem_append.2 (.inr (by simp [yd,hg,hq,hd]))
theorem ym {o:Oper} {S S':St} {P:jd→Prop} (ht:∀t∈(cY E ann aF o).rt,S.tm t=S'.tm t) (hl:∀s∈(cY E ann aF o).rl,S.lo s=S'.lo s) (hh:(cY E ann aF o).rh=true→S.hp=S'.hp):ml E R ann aF o S P=ml E R ann aF o S' P:=by
 have cX:∀x∈o.op.operands.toList,cS S.tm x=cS S'.tm x:=by
  intro x hx
  cases x with
  |tmp t=>exact ht t (QU (wF hx))
  |_=>rfl
 have key:pd E R ann o S P=pd E R ann o S' P:=by
  unfold pd
  cases hc:Hq E ann o with
  |pure=>simp only[CY cX]
  |oV s=>simp only[AA cX,hl s (by simp [cY,mO,hc])]
  |iN s=>simp only[yk cX,hl s (by simp [cY,mO,hc])]
  |tK=>simp only[CZ cX]
  |kJ=>simp only[AB cX,hh (by simp [cY,mO,hc])]
  |dz=>simp only[yl cX,hh (by simp [cY,mO,hc])]
  |tL=>rfl
 unfold ml
 cases hg:o.guard with
 |none=>exact key
 |some p=>
  obtain⟨j,want⟩:=p
  have hy:ga aF S.tm j=ga aF S'.tm j:=by
   unfold ga
   cases hq:aF[j]? with
   |none=>rfl
   |some q=>cases hd:q.dst with
    |none=>simp only[hd]
    |some d=>simp only[hd];exact ht d (Hv hg hq hd)
  simp only[hy,key]
theorem yn {a b:jR} (h:gy a b=true):(∀x∈a.wt,x∉b.rt)∧(∀x∈a.wt,x∉b.wt)∧(∀x∈b.wt,x∉a.rt)∧(∀x∈a.wl,x∉b.rl)∧(∀x∈a.wl,x∉b.wl)∧(∀x∈b.wl,x∉a.rl)∧(a.wh=true→b.rh=false)∧(b.wh=true→a.rh=false):=by
 simp only[gy,Bool.and_eq_true,Bool.not_eq_true'] at h;obtain⟨⟨⟨⟨⟨⟨⟨⟨h1,h2⟩,h3⟩,h4⟩,h5⟩,h6⟩,h7⟩,h8⟩,_⟩:=h;refine⟨fP h1,fP h2,fP h3,fP h4,fP h5,fP h6,fun h=> ?_,fun h=> ?_⟩
 ·rw[h] at h7;simpa using h7
 ·rw[h] at h8;simpa using h8
theorem Nl {a b:jR} (h:gy a b=true):a.no=false∧b.no=false:=by
 simp only[gy,Bool.and_eq_true,Bool.not_eq_true'] at h;exact h.2
theorem SX {o:Oper} (h:(cY E ann aF o).wh=true):(cY E ann aF o).rh=true:=by
 unfold cY at h⊢;cases hc:Hq E ann o<;>rw[hc] at h<;>first|rfl|cases h
theorem ns {o:Oper} {u:jd} {S:St} {t:Nat} (hu:u.kD ann (cY E ann aF o) o.dst) (ht:t∉(cY E ann aF o).wt):(u.apply ann o.dst S).tm t=S.tm t:=by
 have h1:¬o.dst=some t:=fun e=>ht (hu.1 t e)
 have h2:¬(u.kd.isSome=true∧ab ann.aW t=u.kd):=by
  rintro⟨h,e⟩
  cases hk:u.kd with
  |none=>rw[hk] at h;cases h
  |some d=>exact ht (hu.2.2.2 d hk t (e.trans hk))
 simp only[jd.apply,if_neg h1,if_neg h2]
theorem jT {o:Oper} {u:jd} {S:St} {s:Nat} (hu:u.kD ann (cY E ann aF o) o.dst) (hs:s∉(cY E ann aF o).wl):(u.apply ann o.dst S).lo s=S.lo s:=by
 simp only[jd.apply]
 cases hl:u.QT with
 |none=>rfl
 |some p=>
  have:s≠p.1:=fun e=>hs (e▸hu.2.1 p.1 p.2 hl)
  simp [this]
theorem kZ {o:Oper} {u:jd} {S:St} (hu:u.kD ann (cY E ann aF o) o.dst) (hs:(cY E ann aF o).wh=false):(u.apply ann o.dst S).hp=S.hp:=by
 simp only[jd.apply]
 cases hh:u.hp with
 |none=>rfl
 |some H=>have:=hu.2.2.1 (by simp [hh]);rw[hs] at this;cases this
theorem Hw {p q:Oper} {u v:jd} {S:St} (ha:gy (cY E ann aF p) (cY E ann aF q)=true) (hu:u.kD ann (cY E ann aF p) p.dst) (hv:v.kD ann (cY E ann aF q) q.dst):v.apply ann q.dst (u.apply ann p.dst S)=u.apply ann p.dst (v.apply ann q.dst S):=by
 obtain⟨_,h2,_,_,h5,_,h7,_⟩:=yn ha;refine St.ext' (fun t=> ?_) (fun s=> ?_) ?_
 ·by_cases ht:t∈(cY E ann aF p).wt
  ·rw[ns hv (h2 t ht)];simp only[jd.apply];split
   ·rfl
   ·split
    ·rfl
    ·exact(ns hv (h2 t ht)).symm
  ·rw[ns hu ht];simp only[jd.apply];split
   ·rfl
   ·split
    ·rfl
    ·exact ns hu ht
 ·by_cases hs:s∈(cY E ann aF p).wl
  ·rw[jT hv (h5 s hs)];simp only[jd.apply];split
   ·split
    ·rfl
    ·exact(jT hv (h5 s hs)).symm
   ·exact(jT hv (h5 s hs)).symm
  ·rw[jT hu hs];simp only[jd.apply];split
   ·split
    ·rfl
    ·exact jT hu hs
   ·exact jT hu hs
 ·cases hw:(cY E ann aF p).wh
  ·rw[kZ hu hw];simp only[jd.apply];have:=kZ (S:=S) hu hw;simp only[jd.apply] at this;rw[this]
  ·have hq:(cY E ann aF q).wh=false:=by
    cases hq:(cY E ann aF q).wh
    ·rfl
    ·have:=h7 hw;rw[SX hq] at this;cases this
   rw[kZ hv hq];simp only[jd.apply];have:=kZ (S:=S) hv hq;simp only[jd.apply] at this;rw[this]
theorem yo (hm:R.le R) (hs:iq R) {p q:Oper} {S:St} {K:St→Prop} (ha:gy (cY E ann aF p) (cY E ann aF q)=true) (h:dj E R ann N aF p S fun S'=>dj E R ann N aF q S' K):dj E R ann N aF q S fun S'=>dj E R ann N aF p S' K:=by
 obtain⟨h1,h2,h3,h4,h5,h6,h7,h8⟩:=yn ha;obtain⟨n1,n2⟩:=Nl ha;rw[nr n1] at h;rw[nr n2]
 have eq1:∀u:jd,u.kD ann (cY E ann aF p) p.dst→∀P,ml E R ann aF q (u.apply ann p.dst S) P=ml E R ann aF q S P:=fun u hu P=>
  ym (fun t ht=>ns hu fun hw=>h1 t hw ht) (fun s hs=>jT hu fun hw=>h4 s hw hs) (fun hr=>by
   cases hw:(cY E ann aF p).wh
   ·exact kZ hu hw
   ·have:=h7 hw;rw[hr] at this;cases this)
 have eq2:∀u:jd,u.kD ann (cY E ann aF q) q.dst→∀P,ml E R ann aF p (u.apply ann q.dst S) P=ml E R ann aF p S P:=fun u hu P=>
  ym (fun t ht=>ns hu fun hw=>h3 t hw ht) (fun s hs=>jT hu fun hw=>h6 s hw hs) (fun hr=>by
   cases hw:(cY E ann aF q).wh
   ·exact kZ hu hw
   ·have:=h8 hw;rw[hr] at this;cases this)
 have h':=wE hm h
 have main:ml E R ann aF p S fun u=>K6 ann N p.dst u.x∧u.kD ann (cY E ann aF p) p.dst∧
  ml E R ann aF q S fun v=>K6 ann N q.dst v.x∧v.kD ann (cY E ann aF q) q.dst∧K (u.apply ann p.dst (v.apply ann q.dst S)):=by
  refine qH hm ?_ h';rintro u ⟨⟨hok,hq⟩,hu⟩;refine⟨hok,hu, ?_⟩;rw[nr n2,eq1 u hu] at hq;refine qH hm ?_ (wE hm hq);rintro v ⟨⟨pt,ME⟩,hv⟩;exact⟨pt,hv,Hw ha hu hv▸ME⟩
 cases hw:(cY E ann aF p).wh
 ·obtain⟨u,MF⟩:=E5 hw main;obtain⟨hok,hu,hq⟩:=(MF _).1 main;refine qH hm ?_ hq;rintro v ⟨pt,hv,hk⟩;refine⟨pt, ?_⟩;rw[nr n1,eq2 v hv];exact(MF _).2 ⟨hok,hk⟩
 ·have hwq:(cY E ann aF q).wh=false:=by
   cases hq:(cY E ann aF q).wh
   ·rfl
   ·have:=h7 hw;rw[SX hq] at this;cases this
  obtain⟨u,_,_,hq⟩:=E4 hs main;obtain⟨v,MF⟩:=E5 hwq hq;obtain⟨pt,hv,_⟩:=(MF _).1 hq;refine(MF _).2 ⟨pt, ?_⟩;rw[nr n1,eq2 v hv];refine qH hm ?_ main;rintro u ⟨hok,hu,hq⟩;exact⟨hok,((MF _).1 hq).2.2⟩
end
abbrev dC:=Nat→Option Nat
inductive VR (ρ:dC):V→Value→Prop where
 |bool (b:Bool):VR ρ (.bool b) (.bool b)
 |int (k:IntKind) (n:Int):VR ρ (.int k n) (.int k n)
 |cI (s:ByteArray):VR ρ (.cI s) (.string s)
 |C0:VR ρ (.aj none) (.pointer none)
 |aj {id off b:Nat} (h:ρ id=some b):VR ρ (.aj (some (id,off))) (.pointer (some ⟨b,off,none⟩))
 |nt (n c:Nat):VR ρ (.slice none n c) (.slice none n c)
 |slice {id off b:Nat} (n c:Nat) (h:ρ id=some b):VR ρ (.slice (some (id,off)) n c) (.slice (some ⟨b,off,none⟩) n c)
 |pH (p:Nat×Nat) (a:Addr):VR ρ (.slice (some p) 0 0) (.slice (some a) 0 0)
 |yp:VR ρ (.map none) (.map none)
 |map {id b:Nat} (h:ρ id=some b):VR ρ (.map (some id)) (.map (some b))
 |func (f:FuncId) {cs:List V} {cs':Array Value} (hl:cs.length=cs'.size) (h:∀(i:Nat) (x:V) (y:Value),cs[i]? =some x→cs'[i]? =some y→VR ρ x y):
  VR ρ (.func f cs) (.func (.func f) #[] cs')
 |o8 (f:FuncId) {cs:List V} {cs':Array Value} (hl:cs.length=cs'.size) (h:∀(i:Nat) (x:V) (y:Value),cs[i]? =some x→cs'[i]? =some y→VR ρ x y):
  VR ρ (.o8 f cs) (.func (.func f) cs' #[])
 |dN (t:TypeId) {id b:Nat} (h:ρ id=some b):VR ρ (.dN t id) (.pointer (some ⟨b,0,none⟩))
 |nilFunc:VR ρ .nilFunc .nilFunc
 |iface (t:TypeId) {v:V} {v':Value} (h:VR ρ v v'):VR ρ (.iface t v) (.iface t v')
 |nilIface:VR ρ .nilIface .nilIface
 |agg {cs:List V} {cs':Array Value} (h1:∀c∈cs,c.one=true) (hl:cs.length=cs'.size) (h:∀(i:Nat) (x:V) (y:Value),cs[i]? =some x→cs'[i]? =some y→VR ρ x y):VR ρ (.agg cs) (.agg cs')
 |cx (x:Value):VR ρ .cx x
 |tuple {cs:List V} {cs':Array Value} (hl:cs.length=cs'.size) (h:∀(i:Nat) (x:V) (y:Value),cs[i]? =some x→cs'[i]? =some y→VR ρ x y):VR ρ (.tuple cs) (.tuple cs')
def bd (cs:List V):Prop:=∀v∈cs,v.one=true
def eT (ρ:dC) (l:List V) (m:List Value):Prop:=l.length=m.length∧∀(i:Nat) (x:V) (y:Value),l[i]? =some x→m[i]? =some y→VR ρ x y
def dC.le (ρ ρ':dC):Prop:=∀id b,ρ id=some b→ρ' id=some b
theorem dC.le.refl (ρ:dC):ρ.le ρ:=fun _ _ h=>h
theorem dC.le.trans {a b c:dC} (h:a.le b) (k:b.le c):a.le c:=fun id x hx=>k id x (h id x hx)
theorem VR.mono {ρ ρ':dC} (h:ρ.le ρ') {v:V} {x:Value} (hv:VR ρ v x):VR ρ' v x:=by
 induction hv with
 |bool b=>exact .bool b
 |int k n=>exact .int k n
 |cI s=>exact .cI s
 |C0=>exact .C0
 |aj hb=>exact .aj (h _ _ hb)
 |nt n c=>exact .nt n c
 |slice n c hb=>exact .slice n c (h _ _ hb)
 |pH p a=>exact .pH p a
 |yp=>exact .yp
 |map hb=>exact .map (h _ _ hb)
 |func f hl _ ih=>exact .func f hl ih
 |o8 f hl _ ih=>exact .o8 f hl ih
 |dN t hb=>exact .dN t (h _ _ hb)
 |nilFunc=>exact .nilFunc
 |iface t _ ih=>exact .iface t ih
 |nilIface=>exact .nilIface
 |agg h1 hl _ ih=>exact .agg h1 hl ih
 |cx x=>exact .cx x
 |tuple hl _ ih=>exact .tuple hl ih
theorem eT.mono {ρ ρ':dC} (h:ρ.le ρ') {l:List V} {m:List Value} (hv:eT ρ l m):eT ρ' l m:=
 ⟨hv.1,fun i x y hx hy=>(hv.2 i x y hx hy).mono h⟩
theorem eT.nil (ρ:dC):eT ρ [] []:=⟨rfl,fun i x y h=>by simp at h⟩
theorem eT.cons {ρ:dC} {x:V} {y:Value} {l:List V} {m:List Value} (h:VR ρ x y) (hl:eT ρ l m):eT ρ (x::l) (y::m):=by
 refine⟨by simp [hl.1],fun i=> ?_⟩
 cases i with
 |zero=>intro a b ha hb;simp at ha hb;subst ha;subst hb;exact h
 |succ i=>intro a b ha hb;exact hl.2 i a b (by simpa using ha) (by simpa using hb)
theorem eT.df {ρ:dC} {x:V} {l:List V} {m:List Value} (h:eT ρ (x::l) m):∃y m',m=y::m'∧VR ρ x y∧eT ρ l m':=by
 cases m with
 |nil=>simp [eT] at h
 |cons y m'=>
  refine⟨y,m',rfl,h.2 0 x y rfl rfl,by simpa using h.1,fun i a b ha hb=>h.2 (i+1) a b (by simpa using ha) (by simpa using hb)⟩
theorem eT.gu {ρ:dC} {m:List Value} (h:eT ρ [] m):m=[]:=by
 cases m with
 |nil=>rfl
 |cons y m'=>simp [eT] at h
theorem eT.append {ρ:dC} {l l':List V} {m m':List Value} (h:eT ρ l m) (h':eT ρ l' m'):eT ρ (l++l') (m++m'):=by
 refine⟨by simp [h.1,h'.1],fun i x y hx hy=> ?_⟩;by_cases hi:i<l.length
 ·rw[List.getElem?_append_left hi] at hx;rw[List.getElem?_append_left (h.1▸hi)] at hy;exact h.2 i x y hx hy
 ·rw[List.getElem?_append_right (by omega)] at hx;rw[List.getElem?_append_right (by have:=h.1;omega)] at hy;exact h'.2 _ x y hx (by rwa [←h.1] at hy)
theorem eT.take {ρ:dC} {l:List V} {m:List Value} (h:eT ρ l m) (n:Nat):eT ρ (l.take n) (m.take n):=by
 refine⟨by simp [h.1],fun i x y hx hy=> ?_⟩;rw[List.getElem?_take] at hx hy;split at hx
 ·rename_i hi;rw[if_pos hi] at hy;exact h.2 i x y hx hy
 ·cases hx
theorem eT.drop {ρ:dC} {l:List V} {m:List Value} (h:eT ρ l m) (n:Nat):eT ρ (l.drop n) (m.drop n):=by
 refine⟨by simp [h.1],fun i x y hx hy=> ?_⟩;rw[List.getElem?_drop] at hx hy;exact h.2 _ x y hx hy
theorem qI:∀{l:List V} {n:Nat},n<l.length→l[n]? =some (ae l n)
 |[],_,h=>by simp at h
 |_::_,0,_=>rfl
 |_::l,n+1,h=>by rw[List.getElem?_cons_succ];exact qI (l:=l) (by simpa using h)
theorem eT.nth {ρ:dC} {l:List V} {m:List Value} (h:eT ρ l m) {n:Nat} (hn:n<l.length):∃y,m[n]? =some y∧VR ρ (ae l n) y:=by
 have hm:n<m.length:=h.1▸hn;exact⟨m[n],List.getElem?_eq_getElem hm,h.2 n _ _ (qI hn) (List.getElem?_eq_getElem hm)⟩
theorem VR.oq {ρ:dC} {cs:List V} {x:Value} (h:VR ρ (.agg cs) x):∃cs',x=.agg cs'∧eT ρ cs cs'.toList∧bd cs:=by
 cases h with
 |agg h1 hl h=>exact⟨_,rfl,⟨by simpa using hl,fun i a b ha hb=>h i a b ha (by simpa using hb)⟩,h1⟩
theorem VR.vv {ρ:dC} {cs:List V} {cs':Array Value} (h1:bd cs) (h:eT ρ cs cs'.toList):VR ρ (.agg cs) (.agg cs'):=
 .agg h1 (by simpa using h.1) fun i a b ha hb=>h.2 i a b ha (by simpa using hb)
theorem VR.K9 {ρ:dC} {cs:List V} {x:Value} (h:VR ρ (.tuple cs) x):∃cs',x=.tuple cs'∧eT ρ cs cs'.toList:=by
 cases h with
 |tuple hl h=>exact⟨_,rfl,by simpa using hl,fun i a b ha hb=>h i a b ha (by simpa using hb)⟩
theorem VR.gE {ρ:dC} {cs:List V} {cs':Array Value} (h:eT ρ cs cs'.toList):VR ρ (.tuple cs) (.tuple cs'):=
 .tuple (by simpa using h.1) fun i a b ha hb=>h.2 i a b ha (by simpa using hb)
theorem VR.Nm {ρ:dC} {f:FuncId} {cs:List V} {x:Value} (h:VR ρ (.func f cs) x):∃cs',x=.func (.func f) #[] cs'∧eT ρ cs cs'.toList:=by
 cases h with
 |func f hl h=>exact⟨_,rfl,by simpa using hl,fun i a b ha hb=>h i a b ha (by simpa using hb)⟩
theorem VR.Nn {ρ:dC} {f:FuncId} {cs:List V} {x:Value} (h:VR ρ (.o8 f cs) x):∃cs',x=.func (.func f) cs' #[]∧eT ρ cs cs'.toList:=by
 cases h with
 |o8 f hl h=>exact⟨_,rfl,by simpa using hl,fun i a b ha hb=>h i a b ha (by simpa using hb)⟩
theorem VR.QV {ρ:dC} {f:FuncId} {cs:List V} {cs':Array Value} (h:eT ρ cs cs'.toList):VR ρ (.o8 f cs) (.func (.func f) cs' #[]):=
 .o8 f (by simpa using h.1) fun i a b ha hb=>h.2 i a b ha (by simpa using hb)
theorem VR.E9 {ρ:dC} {t:TypeId} {id:Nat} {x:Value} (h:VR ρ (.dN t id) x):∃b,ρ id=some b∧x=.pointer (some ⟨b,0,none⟩):=by
 cases h with|dN t h=>exact⟨_,h,rfl⟩
theorem VR.Jf {ρ:dC} {f:FuncId} {cs:List V} {cs':Array Value} (h:eT ρ cs cs'.toList):VR ρ (.func f cs) (.func (.func f) #[] cs'):=
 .func f (by simpa using h.1) fun i a b ha hb=>h.2 i a b ha (by simpa using hb)
theorem VR.iu {ρ:dC} {k:IntKind} {n:Int} {x:Value} (h:VR ρ (.int k n) x):x=.int k n:=by cases h;rfl
theorem VR.C1 {ρ:dC} {b:Bool} {x:Value} (h:VR ρ (.bool b) x):x=.bool b:=by cases h;rfl
theorem VR.vx {ρ:dC} {s:ByteArray} {x:Value} (h:VR ρ (.cI s) x):x=.string s:=by cases h;rfl
theorem VR.vy {ρ:dC} {id off:Nat} {x:Value} (h:VR ρ (.aj (some (id,off))) x):∃b,ρ id=some b∧x=.pointer (some ⟨b,off,none⟩):=by
 cases h with|aj h=>exact⟨_,h,rfl⟩
theorem VR.fj {ρ:dC} {id off n c:Nat} {x:Value} (h:VR ρ (.slice (some (id,off)) n c) x):(∃b,ρ id=some b∧x=.slice (some ⟨b,off,none⟩) n c)∨(n=0∧c=0∧∃a,x=.slice (some a) 0 0):=by
 cases h with
 |slice _ _ h=>exact .inl ⟨_,h,rfl⟩
 |pH p a=>exact .inr ⟨rfl,rfl,a,rfl⟩
theorem VR.lD {ρ:dC} {n c:Nat} {x:Value} (h:VR ρ (.slice none n c) x):x=.slice none n c:=by cases h;rfl
theorem VR.one {ρ:dC} {v:V} {x:Value} (h:VR ρ v x) (h1:v.one=true):x.oneCell'=true:=by
 cases h<;>simp_all [V.one,Value.oneCell']
theorem VR.cells {ρ:dC} {v:V} {x:Value} (h:VR ρ v x) (hh:v≠ .cx):eT ρ v.cells x.cells.toList:=by
 by_cases hv:∃cs,v=.agg cs
 ·obtain⟨cs,rfl⟩:=hv;obtain⟨cs',rfl,h',_⟩:=h.oq;exact h'
 ·have h1:v.cells=[v]:=by cases v<;>first|rfl|exact(hv ⟨_,rfl⟩).elim
  have h2:x.cells= #[x]:=by cases h<;>first|rfl|exact(hv ⟨_,rfl⟩).elim|exact(hh rfl).elim
  rw[h1,h2];exact .cons h (.nil ρ)
theorem sy {ρ:dC} {x:Value} {v:V} (h:ofValue x=some v):VR ρ v x:=by
 unfold ofValue at h;split at h<;>first|(cases h)|skip
 ·exact .bool _
 ·exact .int _ _
 ·exact .cI _
 ·exact .C0
 ·exact .nt _ _
 ·exact .yp
 ·exact .nilFunc
 ·exact .nilIface
theorem tT {ρ:dC}:∀{l:List Value} {m:List V},jQ l=some m→eT ρ m l
 |[],m,h=>by simp only[jQ,Option.some.injEq] at h;subst h;exact .nil ρ
 |x::l,m,h=>by
  simp only[jQ] at h;split at h
  ·rename_i y m' hy hm;simp only[Option.some.injEq] at h;subst h;exact .cons (sy hy) (tT hm)
  ·cases h
theorem wG {x:Value} {v:V} (h:ofValue x=some v):v.one=true:=by
 unfold ofValue at h;split at h<;>first|(cases h;done)|(simp only[Option.some.injEq] at h;subst h;rfl)|cases h
theorem ot:∀{l:List Value} {m:List V},jQ l=some m→∀v∈m,v.one=true
 |[],m,h=>by simp only[jQ,Option.some.injEq] at h;subst h;intro v hv;cases hv
 |x::l,m,h=>by
  simp only[jQ] at h;split at h
  ·rename_i y m' hy hm;simp only[Option.some.injEq] at h;subst h;intro v hv;rcases List.mem_cons.1 hv with rfl|hv
   ·exact wG hy
   ·exact ot hm v hv
  ·cases h
theorem iA {ρ:dC} {x:Value} {v:V} (h:lk x=some v):VR ρ v x:=by
 unfold lk at h;split at h
 ·split at h
  ·rename_i cs l hl;simp only[Option.some.injEq] at h;subst h;exact .vv (ot hl) (tT hl)
  ·cases h
 ·exact sy h
theorem kO {x:Value} {v:V} (h:lk x=some v):∀c∈v.cells,c.one=true:=by
 unfold lk at h;split at h
 ·split at h
  ·rename_i cs l hl;simp only[Option.some.injEq] at h;subst h;exact ot hl
  ·cases h
 ·have h1:=wG h;have:v.cells=[v]:=by cases v<;>first|rfl|(simp [V.one] at h1)
  intro c hc;rw[this] at hc;rcases List.mem_cons.1 hc with rfl|hc
  ·exact h1
  ·cases hc
inductive TR (ρ lam:dC):T→Value→Prop where
 |v {x:V} {y:Value} (h:VR ρ x y):TR ρ lam (.v x) y
 |lp {s off b:Nat} (h:lam s=some b):TR ρ lam (.lp s off) (.pointer (some ⟨b,off,none⟩))
 |undef:TR ρ lam .undef (.tuple #[])
def pI (ρ lam:dC) (ev:Ev) (e:Operand→Value):Prop:=∀x t,ev x=some t→TR ρ lam t (e x)
theorem pI.v {ρ lam:dC} {ev:Ev} {e:Operand→Value} (h:pI ρ lam ev e) {x:Operand} {v:V} (hx:jc ev x=some v):VR ρ v (e x):=by
 unfold jc at hx;split at hx
 ·rename_i y hy;cases hx;have:=h _ _ hy
  cases this with
  |v h=>exact h
 ·cases hx
theorem pI.lp {ρ lam:dC} {ev:Ev} {e:Operand→Value} (h:pI ρ lam ev e) {x:Operand} {s off:Nat} (hx:ev x=some (.lp s off)):∃b,lam s=some b∧e x=.pointer (some ⟨b,off,none⟩):=by
 have:=h _ _ hx;generalize e x=y at this
 cases this with
 |lp h=>exact⟨_,h,rfl⟩
theorem pI.tv {ρ lam:dC} {ev:Ev} {e:Operand→Value} (h:pI ρ lam ev e) {x:Operand} {v:V} (hx:ev x=some (.v v)):VR ρ v (e x):=by
 have:=h _ _ hx;generalize e x=y at this
 cases this with
 |v h=>exact h
theorem pI.vs {ρ lam:dC} {ev:Ev} {e:Operand→Value} (h:pI ρ lam ev e):∀{l:List Operand} {vs:List V},si ev l=some vs→eT ρ vs (l.map e)
 |[],vs,hx=>by simp only[si,Option.some.injEq] at hx;subst hx;exact .nil ρ
 |x::l,vs,hx=>by
  simp only[si] at hx;split at hx
  ·rename_i y m hy hm;simp only[Option.some.injEq] at hx;subst hx;exact .cons (h.v hy) (h.vs hm)
  ·cases hx
def fT (ρ:dC) (e:TypeId) (cs:List V) (rw:Bool) (o:Option Go.Obj):Prop:=
 ∃cs' fz,o=some (.cells cs' e fz)∧eT ρ cs cs'.toList∧(rw=true→bd cs)∧(rw=true→fz.1=fz.2∨cs'.size≤fz.1)
def jm (ρ:dC):List (V×V×Nat)→List MapEntry→Prop
 |[],[]=>True
 |x::l,y::m=>(VR ρ x.1 y.key∧VR ρ x.2.1 y.val∧x.2.2=y.born)∧jm ρ l m
 |_,_=>False
theorem jm.mono {ρ ρ':dC} (h:ρ.le ρ'):∀{l:List (V×V×Nat)} {m:List MapEntry},jm ρ l m→jm ρ' l m
 |[],[],_=>trivial
 |x::l,y::m,hl=>⟨⟨hl.1.1.mono h,hl.1.2.1.mono h,hl.1.2.2⟩,jm.mono h hl.2⟩
 |[],_::_,hl=>hl.elim
 |_::_,[],hl=>hl.elim
def Fa (ρ:dC):Obj→Option Go.Obj→Prop
 | .cells e cs ro,o=>fT ρ e cs (!ro) o
 | .map es clock,o=>∃es':Array MapEntry,o=some (.map es' clock)∧jm ρ es es'.toList
 | .dN m bW seen tD,o=>∃m',o=some (.mapIter m' bW seen.toArray tD)∧VR ρ (.map m) (.map m')
def vz (ρ:dC):aU→Option Go.Obj→Prop
 | .cells e cs,o=>fT ρ e cs true o
 | .dN s jj,o=>o=some (.stringIter s jj)
def Obj.rw :Obj→Bool
 | .cells _ _ ro=> !ro
 | .map .. =>true
 | .dN .. =>true
def iQ (H:ag) (ρ:dC) (b:Nat):Prop:=∃id o,H.get id=some o∧ρ id=some b
def ov (H:ag) (ρ:dC) (b:Nat):Prop:=∃id o,H.get id=some o∧o.rw =true∧ρ id=some b
structure HR (ρ:dC) (H:ag) (w:World):Prop where
 wH:∀id o,H.get id=some o→∃b,ρ id=some b∧Fa ρ o w.heap[b]?
 inj:∀id id' o o' b,H.get id=some o→H.get id'=some o'→o.rw =true→ρ id=some b→ρ id'=some b→id=id'
 lt:∀id b,ρ id=some b→id<H.next∧b<w.heap.size
 gl:∀g∈Na,ρ g=some g
structure lE (H0:ag) (ρ0:dC) (w0:World) (H:ag) (ρ:dC) (w:World):Prop where
 le:ρ0.le ρ
 frame:∀b,b<w0.heap.size→¬ov H0 ρ0 b→w.heap[b]? =w0.heap[b]?
 iQ:∀b,iQ H ρ b→iQ H0 ρ0 b∨w0.heap.size≤b
 ov:∀b,ov H ρ b→ov H0 ρ0 b∨w0.heap.size≤b
 size:w0.heap.size≤w.heap.size
 os:w.os=w0.os
 tape:w.tape=w0.tape
 output:w.output=w0.output
theorem lE.refl (H:ag) (ρ:dC) (w:World):lE H ρ w H ρ w:=
 ⟨.refl ρ,fun _ _ _=>rfl,fun _ h=>.inl h,fun _ h=>.inl h,Nat.le_refl _,rfl,rfl,rfl⟩
theorem lE.trans {H0 H1 H2:ag} {ρ0 ρ1 ρ2:dC} {w0 w1 w2:World} (h:lE H0 ρ0 w0 H1 ρ1 w1) (k:lE H1 ρ1 w1 H2 ρ2 w2):lE H0 ρ0 w0 H2 ρ2 w2 where
 le:=h.le.trans k.le
 frame:=fun b hb ho=>by
  have h1:¬Am.ov H1 ρ1 b:=fun h1=>(h.ov b h1).elim ho fun h=>by omega
  rw[k.frame b (by have:=h.size;omega) h1,h.frame b hb ho]
 iQ:=fun b hb=>(k.iQ b hb).elim (h.iQ b) fun h'=>.inr (by have:=h.size;omega)
 ov:=fun b hb=>(k.ov b hb).elim (h.ov b) fun h'=>.inr (by have:=h.size;omega)
 size:=Nat.le_trans h.size k.size
 os:=k.os.trans h.os
 tape:=k.tape.trans h.tape
 output:=k.output.trans h.output
structure SR (H0:ag) (ρ0:dC) (w0:World) (ann:bQ) (N:Nat) (ρ lam:dC) (S:St) (a:Act) (w:World):Prop where
 defers:a.defers=[]
 size:a.tmps.size=N
 tm:∀t x,S.tm t=some x→TR ρ lam x (a.tmps.getD t undef)
 La:∀t s off,S.tm t=some (.lp s off)→ab ann.aW t=some s
 lo:∀s L,S.lo s=some L→∃b,lam s=some b∧vz ρ L w.heap[b]? ∧b<w.heap.size∧w0.heap.size≤b∧¬iQ S.hp ρ b
 tU:∀s s' L L' b,S.lo s=some L→S.lo s'=some L'→lam s=some b→lam s'=some b→s=s'
 hr:HR ρ S.hp w
 bW:lE H0 ρ0 w0 S.hp ρ w
theorem SR.ev {H0:ag} {ρ0:dC} {w0:World} {ann:bQ} {N:Nat} {ρ lam:dC} {S:St} {a:Act} {w:World} (h:SR H0 ρ0 w0 ann N ρ lam S a w):pI ρ lam (cS S.tm) a.eval:=by
 intro x t hx
 cases x with
 |tmp s=>exact h.tm s t hx
 |const v=>
  simp only[cS] at hx;split at hx
  ·rename_i y hy;cases hx;exact .v (sy hy)
  ·cases hx
 |func f=>simp only[cS,Option.some.injEq] at hx;subst hx;exact .v (.func f rfl fun i x y hx=>by simp at hx)
 |global g=>cases hx
theorem jN {E:kv} {t:Nat} {i:TI} (h:E.ti t=some i):∃dh d,E.P.info? t=some dh∧E.P.underlying t=some d∧bq d=i.sh∧dh.size=i.size∧dh.bytes=i.bytes∧dh.zero.bind lk=i.zero:=by
 have h:=E.ti_ok t i h;unfold QP at h;split at h
 ·rename_i dh d h1 h2;simp only[Option.some.injEq] at h;subst h;exact⟨dh,d,h1,h2,rfl,rfl,rfl,rfl⟩
 ·cases h
theorem jy {P:Program} {t:TypeId} {d:TypeDesc} (h:P.underlying t=some d) (w:World):(isAgg t).run P w=.ok (iK d) w:=by
 simp only[isAgg,Sem.run_bind,run_underlying h,Result.andThen_ok];cases d<;>rfl
theorem Hx {d:TypeDesc} {k:cq} (h:cO (bq d)=some k):iK d=false:=by
 cases d<;>simp_all [bq,cO,iK]
def Jg (P:Program) (t:TypeId) (cs:List Value) (x:Value):Prop:=
 ∃d,P.underlying t=some d∧((iK d=true∧x=.agg cs.toArray)∨(iK d=false∧cs=[x]))
theorem C2 {P:Program} {t:TypeId} {d:TypeDesc} {dh:TypeInfo} (hu:P.underlying t=some d) (hi:P.info? t=some dh) (cs:Array Value) (off n:Nat) (hn:off+n≤cs.size) (hs:dh.size=n) (h1:iK d=false→n=1) (w:World):∃x,(part t cs off).run P w=.ok x w∧Jg P t ((cs.toList.drop off).take n) x:=by
 cases ha:iK d
 ·have Xd:=h1 ha;subst Xd;have hlt:off<cs.size:=by omega
  refine⟨cs[off], ?_,d,hu,.inr ⟨ha, ?_⟩⟩
  ·simp [part,jy hu,ha,Array.getElem?_eq_getElem hlt]
  ·have:cs.toList.drop off=cs[off]::cs.toList.drop (off+1):=by
    rw[List.drop_eq_getElem_cons (by simpa using hlt)];rfl
   rw[this];rfl
 ·refine⟨.agg (cs.extract off (off+n)), ?_,d,hu,.inl ⟨ha, ?_⟩⟩
  ·simp [part,jy hu,ha,run_sizeOf w hi,Program.cellsOf,hi,hs]
  ·congr 1;apply Array.ext';simp [List.extract_eq_take_drop]
theorem lF:∀{a c:List V} (b d:List V) {r:Bool},a.length=c.length→eC (a++b) (c++d)=some r→∃x y,eC a c=some x∧eC b d=some y∧r=(x&&y)
 |[],[],b,d,r,_,h=>⟨true,r,rfl,h,by simp⟩
 |x::l,y::m,b,d,r,hl,h=>by
  have ih:∀{r},eC (l++b) (m++d)=some r→_:=fun h=>lF (a:=l) (c:=m) b d (by simpa using hl) h
  cases x<;>cases y<;>simp only[List.cons_append,eC] at h⊢ <;>try (cases h;done)
  ·split at h
   ·rename_i e q hq;obtain⟨u,v,h1,h2,rfl⟩:=ih hq;simp only[Option.some.injEq] at h;exact⟨_,v,by rw[h1],h2,by rw[←h,Bool.and_assoc]⟩
   ·cases h
  ·rename_i k p k' q;by_cases hk:k=k'
   ·simp only[hk,nf,decide_true,cond_true] at h⊢;split at h
    ·rename_i e s hs;obtain⟨u,v,h1,h2,rfl⟩:=ih hs;simp only[Option.some.injEq] at h;exact⟨_,v,by rw[h1],h2,by rw[←h,Bool.and_assoc]⟩
    ·cases h
   ·simp [hk] at h
  ·split at h
   ·rename_i e q hq;obtain⟨u,v,h1,h2,rfl⟩:=ih hq;simp only[Option.some.injEq] at h;exact⟨_,v,by rw[h1],h2,by rw[←h,Bool.and_assoc]⟩
   ·cases h
theorem fk:∀{ks:List cq} {vs:List V},aI ks vs=true→ks.length=vs.length
 |[],[],_=>rfl
 |[],_::_,h=>by simp [aI] at h
 |_::_,[],h=>by simp [aI] at h
 |_::ks,_::vs,h=>by rw[aI,Bool.and_eq_true] at h;simp [fk h.2]
theorem jU:∀{a b:List cq} {vs:List V},aI (a++b) vs=true→aI a (vs.take a.length)=true∧aI b (vs.drop a.length)=true
 |[],b,vs,h=>by simpa [aI] using h
 |k::a,b,[],h=>by simp [aI] at h
 |k::a,b,v::vs,h=>by
  rw[List.cons_append,aI,Bool.and_eq_true] at h;obtain⟨h1,h2⟩:=jU h.2;simp [aI,h.1,h1,h2]
theorem No (n:Nat) (ks:List cq):(Ay n ks).length=n*ks.length:=by
 induction n with
 |zero=>simp [Ay]
 |succ n ih=>simp [Ay,ih,Nat.add_mul];omega
section
variable {P:Program} {ρ:dC}
def QW (P:Program) (ρ:dC) (D:Nat) (t:TypeId) (ks:List cq):Prop:=
 ∀(w:World) (xv yv:List V) (xs ys:List Value) (x y:Value) (b:Bool),aI ks xv=true→aI ks yv=true→eT ρ xv xs→eT ρ yv ys→eC xv yv=some b→
  Jg P t xs x→Jg P t ys y→(Op.equalIn D t x y).run P w=.ok b w
theorem ig {α:Type} (l:List α) (a n:Nat):l.drop a=(l.drop a).take n++l.drop (a+n):=by
 rw[←List.drop_drop,List.take_append_drop]
theorem SY {d:Nat} {t:TypeId} {ks:List cq} (h:ln P d t=some ks):∃D,P.underlying t=some D∧(iK D=false→ks.length=1)∧(iK D=true→P.cellsOf t=ks.length):=by
 cases d with
 |zero=>cases h
 |succ d=>
  unfold ln at h;split at h
  ·rename_i hu;simp only[Option.some.injEq] at h;subst h;exact⟨_,hu,fun _=>rfl,fun h=>by simp [iK] at h⟩
  ·rename_i hu;simp only[Option.some.injEq] at h;subst h;exact⟨_,hu,fun _=>rfl,fun h=>by simp [iK] at h⟩
  ·rename_i hu;simp only[Option.some.injEq] at h;subst h;exact⟨_,hu,fun _=>rfl,fun h=>by simp [iK] at h⟩
  ·rename_i hu;refine⟨_,hu,fun h=>by simp [iK] at h,fun _=> ?_⟩;cases hp:P.stoodInHeld t
   ·simp only[hp,cond_false] at h;split at h
    ·rename_i m _;by_cases hc:P.cellsOf t=m.length
     ·simp only[aX,hc,decide_true,cond_true,Option.some.injEq] at h;rw[←h,hc]
     ·simp [aX,hc] at h
    ·cases h
   ·simp [hp] at h
  ·rename_i k e hu;refine⟨_,hu,fun h=>by simp [iK] at h,fun _=> ?_⟩;split at h
   ·rename_i m _;by_cases GY:P.cellsOf e=m.length
    ·by_cases Hh:P.cellsOf t=k*m.length
     ·simp only[aX,GY,Hh,decide_true,Bool.and_self,cond_true,Option.some.injEq] at h;rw[←h,No,Hh]
     ·simp [aX,Hh] at h
    ·simp [aX,GY] at h
   ·cases h
  ·cases h
theorem jO {d:Nat} {t:TypeId} {ks:List cq} (h:ln P d t=some ks) (cs:Array Value) (off:Nat) (hn:off+ks.length≤cs.size) (w:World):∃x,(part t cs off).run P w=.ok x w∧Jg P t ((cs.toList.drop off).take ks.length) x:=by
 obtain⟨D,hu,h1,h2⟩:=SY h;obtain⟨dh,hi⟩:=info_of_underlying hu;cases ha:iK D
 ·have Xd:=h1 ha;have hlt:off<cs.size:=by omega
  refine⟨cs[off], ?_,D,hu,.inr ⟨ha, ?_⟩⟩
  ·simp [part,jy hu,ha,Array.getElem?_eq_getElem hlt]
  ·have:cs.toList.drop off=cs[off]::cs.toList.drop (off+1):=by
    rw[List.drop_eq_getElem_cons (by simpa using hlt)];rfl
   rw[this,Xd];rfl
 ·exact C2 hu hi cs off _ hn (by have:=h2 ha;simpa [Program.cellsOf,hi] using this) (fun h=>by rw[ha] at h;cases h) w
theorem yq {d D:Nat} (ih:∀t ks,ln P d t=some ks→QW P ρ D t ks) (xs ys:Array Value) (w:World):∀(l:List Field) (o:Nat) (ks:List cq) (xv yv:List V) (b:Bool),ll (ln P d) l o=some ks→o≤xv.length→o≤yv.length→aI ks (xv.drop o)=true→aI ks (yv.drop o)=true→eT ρ xv xs.toList→eT ρ yv ys.toList→eC (xv.drop o) (yv.drop o)=some b→(Op.eqFields D xs ys l).run P w=.ok b w
 |[],o,ks,xv,yv,b,h,hx,hy,fx,fy,_,_,he=>by
  simp only[ll,Option.some.injEq] at h;subst h;have l1:=fk fx;have l2:=fk fy;rw[List.eq_nil_of_length_eq_zero l1.symm,List.eq_nil_of_length_eq_zero l2.symm] at he;simp only[eC,Option.some.injEq] at he;subst he;simp [Op.eqFields]
 |f::l,o,ks,xv,yv,b,h,hx,hy,fx,fy,MG,MH,he=>by
  unfold ll at h;cases hc:(f.name != "_" &&Nat.beq f.offset o)
  ·simp [hc] at h
  ·simp only[hc,cond_true] at h;rw[Bool.and_eq_true] at hc;have hname:f.name≠ "_" :=by simpa using hc.1
   have hoff:f.offset=o:=Nat.eq_of_beq_eq_true hc.2;split at h
   ·rename_i m hm;split at h
    ·rename_i r hr;simp only[Option.some.injEq] at h;subst h;have l1:=fk fx;have l2:=fk fy;simp only[List.length_append,List.length_drop] at l1 l2;obtain⟨fx1,fx2⟩:=jU fx;obtain⟨fy1,fy2⟩:=jU fy;rw[List.drop_drop] at fx2 fy2;have hxs:xs.size=xv.length:=by have:=MG.1;simp at this;omega
     have hys:ys.size=yv.length:=by have:=MH.1;simp at this;omega
     obtain⟨x,hx1,vm⟩:=jO hm xs o (by omega) w;obtain⟨y,hy1,TD⟩:=jO hm ys o (by omega) w;rw[ig xv o m.length,ig yv o m.length] at he;obtain⟨u,v,h1,h2,rfl⟩:=lF _ _ (by simp;omega) he;have e1:=ih _ _ hm w _ _ _ _ x y u fx1 fy1 ((MG.drop o).take m.length) ((MH.drop o).take m.length) h1 vm TD;have e2:=yq ih xs ys w l (o+m.length) r xv yv v hr (by omega) (by omega) fx2 fy2 MG MH h2;rw[Op.eqFields];simp only[if_pos hname,Sem.run_bind,hoff,hx1,hy1,e1,Result.andThen_ok];cases u
     ·simp
     ·simpa using e2
    ·cases h
   ·cases h
theorem Bm {d D:Nat} {m:List cq} {e:TypeId} (ih:QW P ρ D e m) (hm:ln P d e=some m) (xs ys:Array Value) (w:World):∀(k i:Nat) (xv yv:List V) (b:Bool),i*m.length≤xv.length→i*m.length≤yv.length→aI (Ay k m) (xv.drop (i*m.length))=true→aI (Ay k m) (yv.drop (i*m.length))=true→eT ρ xv xs.toList→eT ρ yv ys.toList→eC (xv.drop (i*m.length)) (yv.drop (i*m.length))=some b→(Op.eqItems D e m.length xs ys (List.range' i k)).run P w=.ok b w
 |0,i,xv,yv,b,hx,hy,fx,fy,_,_,he=>by
  have l1:=fk fx;have l2:=fk fy;rw[Ay,List.length_nil] at l1 l2;rw[List.eq_nil_of_length_eq_zero l1.symm,List.eq_nil_of_length_eq_zero l2.symm] at he;simp only[eC,Option.some.injEq] at he;subst he;simp [Op.eqItems]
 |k+1,i,xv,yv,b,hx,hy,fx,fy,MG,MH,he=>by
  rw[Ay] at fx fy;have l1:=fk fx;have l2:=fk fy;simp only[List.length_append,List.length_drop] at l1 l2;obtain⟨fx1,fx2⟩:=jU fx;obtain⟨fy1,fy2⟩:=jU fy;have hs:i*m.length+m.length=(i+1)*m.length:=by rw[Nat.add_mul,Nat.one_mul]
  rw[List.drop_drop,hs] at fx2 fy2;have hxs:xs.size=xv.length:=by have:=MG.1;simp at this;omega
  have hys:ys.size=yv.length:=by have:=MH.1;simp at this;omega
  obtain⟨x,hx1,vm⟩:=jO hm xs (i*m.length) (by omega) w;obtain⟨y,hy1,TD⟩:=jO hm ys (i*m.length) (by omega) w;rw[ig xv (i*m.length) m.length,ig yv (i*m.length) m.length] at he;obtain⟨u,v,h1,h2,rfl⟩:=lF _ _ (by simp;omega) he;have e1:=ih w _ _ _ _ x y u fx1 fy1 ((MG.drop _).take _) ((MH.drop _).take _) h1 vm TD;rw[hs] at h2;have e2:=Bm ih hm xs ys w k (i+1) xv yv v (by omega) (by omega) fx2 fy2 MG MH h2;rw[List.range'_succ];simp only[Op.eqItems,Sem.run_bind,hx1,hy1,e1,Result.andThen_ok];cases u
  ·simp
  ·simpa using e2
theorem vA {t:TypeId} {d:TypeDesc} {k:cq} {D:Nat} (hu:P.underlying t=some d) (ha:iK d=false) (hk:∀(w:World) (p q:V) (x y:Value) (b:Bool),p.ax k=true→q.ax k=true→VR ρ p x→VR ρ q y→eC [p] [q]=some b→(Op.equalIn D t x y).run P w=.ok b w):QW P ρ D t [k]:=by
 intro w xv yv xs ys x y b fx fy MG MH he Wq hiy;obtain⟨dx,TE,hcx⟩:=Wq;obtain⟨dy,TF,hcy⟩:=hiy;rw[hu] at TE TF;cases TE;cases TF;rcases hcx with⟨h',_⟩|⟨_,rfl⟩
 ·rw[ha] at h';cases h'
 rcases hcy with⟨h',_⟩|⟨_,rfl⟩
 ·rw[ha] at h';cases h'
 match xv,yv,fx,fy with
 |[p],[q],fx,fy=>
  simp only[aI,Bool.and_true] at fx fy;exact hk w p q x y b fx fy (MG.2 0 p x rfl rfl) (MH.2 0 q y rfl rfl) he
 |[],_,fx,_=>simp [aI] at fx
 |_::_::_,_,fx,_=>simp [aI] at fx
 |[_],[],_,fy=>simp [aI] at fy
 |[_],_::_::_,_,fy=>simp [aI] at fy
theorem QX:∀(d:Nat) (t:TypeId) (ks:List cq),ln P d t=some ks→∀D,d≤D→QW P ρ D t ks:=by
 intro d
 induction d with
 |zero=>intro t ks h;cases h
 |succ d ih=>
  intro t ks h D hD;obtain⟨D,rfl⟩:∃D',D=D'+1:=⟨D-1,by omega⟩;unfold ln at h;split at h
  ·rename_i hu;simp only[Option.some.injEq] at h;subst h;refine vA hu rfl fun w p q x y b kp kq hp hq he=> ?_
   cases hp<;>simp [V.ax] at kp
   cases hq<;>simp [V.ax] at kq
   simp [eC] at he;simp [Op.equalIn,run_underlying hu,he]
  ·rename_i k hu;simp only[Option.some.injEq] at h;subst h;refine vA hu rfl fun w p q x y b kp kq hp hq he=> ?_
   cases hp<;>simp [V.ax] at kp
   cases hq<;>simp [V.ax] at kq
   subst kp;subst kq;simp [eC] at he;simp [Op.equalIn,run_underlying hu,he]
  ·rename_i hu;simp only[Option.some.injEq] at h;subst h;refine vA hu rfl fun w p q x y b kp kq hp hq he=> ?_
   cases hp<;>simp [V.ax] at kp
   cases hq<;>simp [V.ax] at kq
   simp [eC] at he;simp [Op.equalIn,run_underlying hu,he]
  ·rename_i fs hu;intro w xv yv xs ys x y b fx fy MG MH he Wq hiy;cases hp:P.stoodInHeld t
   ·simp only[hp,cond_false] at h;split at h
    ·rename_i m hm
     have hmn:m=ks:=by
      by_cases hc:P.cellsOf t=m.length
      ·simpa [aX,hc] using h
      ·simp [aX,hc] at h
     subst hmn;obtain⟨dx,TE,hcx⟩:=Wq;obtain⟨dy,TF,hcy⟩:=hiy;rw[hu] at TE TF;cases TE;cases TF;rcases hcx with⟨_,rfl⟩|⟨h',_⟩
     ·rcases hcy with⟨_,rfl⟩|⟨h',_⟩
      ·have hf:P.fieldsOf t=fs:=by simp [Program.fieldsOf,hu]
       rw[run_equalIn_struct (P:=P) w D t _ _ (by rw[hf];exact hu) hp,hf];exact yq (fun t n h=>ih t n h D (by omega)) _ _ w fs.toList 0 m xv yv b hm (by omega) (by omega) (by simpa using fx) (by simpa using fy) (by simpa using MG) (by simpa using MH) (by simpa using he)
      ·simp [iK] at h'
     ·simp [iK] at h'
    ·cases h
   ·simp [hp] at h
  ·rename_i k e hu;intro w xv yv xs ys x y b fx fy MG MH he Wq hiy;split at h
   ·rename_i m hm
    have hc:P.cellsOf e=m.length∧ks=Ay k m:=by
     by_cases GY:P.cellsOf e=m.length
     ·by_cases Hh:P.cellsOf t=k*m.length
      ·simp only[aX,GY,Hh,decide_true,Bool.and_self,cond_true,Option.some.injEq] at h;exact⟨GY,h.symm⟩
      ·simp [aX,Hh] at h
     ·simp [aX,GY] at h
    obtain⟨GY,rfl⟩:=hc;obtain⟨dx,TE,hcx⟩:=Wq;obtain⟨dy,TF,hcy⟩:=hiy;rw[hu] at TE TF;cases TE;cases TF;rcases hcx with⟨_,rfl⟩|⟨h',_⟩
    ·rcases hcy with⟨_,rfl⟩|⟨h',_⟩
     ·obtain⟨De,Sx,_⟩:=SY hm;obtain⟨dh,hi⟩:=info_of_underlying Sx;rw[run_equalIn_array w D _ _ hu hi,GY,List.range_eq_range'];exact Bm (ih e m hm D (by omega)) hm _ _ w k 0 xv yv b (by omega) (by omega) (by simpa using fx) (by simpa using fy) (by simpa using MG) (by simpa using MH) (by simpa using he)
     ·simp [iK] at h'
    ·simp [iK] at h'
   ·cases h
  ·cases h
end
section
variable {E:kv} {ρ lam:dC} {w:World}
theorem vB {t:TypeId} {k:cq} (h:bh E t=some k):∃d dh,E.P.underlying t=some d∧E.P.info? t=some dh∧cO (bq d)=some k∧iK d=false:=by
 unfold bh at h;split at h
 ·rename_i i hi;obtain⟨dh,d,h1,h2,h3,_⟩:=jN hi;exact⟨d,dh,h2,h1,by rw[h3];exact h,Hx (by rw[h3];exact h)⟩
 ·cases h
theorem yr {t:TypeId} {ks:List cq} (h:n9 E t=some ks):∃d dh z,E.P.underlying t=some d∧E.P.info? t=some dh∧iK d=true∧dh.zero.bind lk=some (.agg z)∧ks=z.map V.cU:=by
 unfold n9 at h;split at h
 ·rename_i i hi;obtain⟨dh,d,h1,h2,h3,h4,h5,h6⟩:=jN hi;split at h
  ·rename_i n e z hs hz;simp only[Option.some.injEq] at h;refine⟨d,dh,z,h2,h1, ?_,by rw[h6,hz],h.symm⟩;rw[hs] at h3;cases d<;>simp_all [bq,iK]
  ·rename_i fs z hs hz;simp only[Option.some.injEq] at h;refine⟨d,dh,z,h2,h1, ?_,by rw[h6,hz],h.symm⟩;rw[hs] at h3;cases d<;>simp_all [bq,iK]
  ·cases h
 ·cases h
theorem Lb {t:TypeId} {n:Nat} (h:size E t=some n):∃dh,E.P.info? t=some dh∧dh.size=n:=by
 unfold size at h;split at h
 ·rename_i i hi;obtain⟨dh,d,h1,h2,h3,h4,h5,h6⟩:=jN hi;simp only[Option.some.injEq] at h;exact⟨dh,h1,by omega⟩
 ·cases h
theorem fl {t:TypeId} {n:Nat} (h:size E t=some n) (w:World):(sizeOf t).run E.P w=.ok n w:=by
 obtain⟨dh,h1,h2⟩:=Lb h;simp [sizeOf,typeInfo,h1,h2]
theorem k5:∀{ks:List cq} {cs:List V} {l:List V} {j:Nat},aI ks cs=true→l.drop j=cs→nZ ks l j=cs
 |[],[],_,_,_,_=>rfl
 |[],_::_,_,_,h,_=>by simp [aI] at h
 |_::_,[],_,_,h,_=>by simp [aI] at h
 |k::ks,c::cs,l,j,h,hl=>by
  rw[aI,Bool.and_eq_true] at h
  have hj:j<l.length:=by
   rcases Nat.lt_or_ge j l.length with h|h
   ·exact h
   ·rw[List.drop_eq_nil_of_le h] at hl;cases hl
  have h0:ae l j=c:=by
   have h1:=qI hj
   have h2:l[j]? =some c:=by
    have:(l.drop j)[0]? =some c:=by rw[hl];rfl
    simpa using this
   rw[h1] at h2;exact Option.some.inj h2
  rw[nZ,h0,V.sb h.1,k5 (j:=j+1) h.2 (by rw[←List.drop_drop,hl];rfl)]
theorem tV {v:V} (h:v.isAgg=true):v=.agg v.af:=by cases v<;>simp_all [V.isAgg,V.af]
theorem lG {t:TypeId} {v y:V} {r:Bool} (h:tF E t v=some (r,y)) (hr:r=true):y=v:=by
 unfold tF at h;split at h
 ·simp only[Option.some.injEq,Prod.mk.injEq] at h;rw[←h.2];exact V.sb (h.1.trans hr)
 ·split at h
  ·simp only[Option.some.injEq,Prod.mk.injEq] at h;have h1:=h.1.trans hr;rw[Bool.and_eq_true] at h1;rw[←h.2,k5 h1.2 rfl];exact(tV h1.1).symm
  ·cases h
theorem yu:∀{ts:List TypeId} {v:V} {j:Nat} {r:Bool} {l:List V},tG E ts v j=some (r,l)→r=true→v.aq.length=j+ts.length→l=v.aq.drop j
 |[],v,j,r,l,h,_,hl=>by
  simp only[tG,Option.some.injEq,Prod.mk.injEq] at h;rw[←h.2,List.drop_eq_nil_of_le (by simp at hl;omega)]
 |t::ts,v,j,r,l,h,hr,hl=>by
  simp only[tG] at h;split at h
  ·rename_i b x c l' h1 h2;simp only[Option.some.injEq,Prod.mk.injEq] at h;have hb:=h.1.trans hr;rw[Bool.and_eq_true] at hb;have e1:=lG h1 hb.1;have e2:=yu h2 hb.2 (by simp at hl;omega);have hj:j<v.aq.length:=by simp at hl;omega
   rw[←h.2,e1,e2];have:=qI hj;rw[List.getElem?_eq_getElem hj] at this;rw[List.drop_eq_getElem_cons hj, ←Option.some.inj this]
  ·cases h
theorem Np {t:TypeId} {v y:V} {r:Bool} (h:tH E t v=some (r,y)) (hr:r=true):y=v:=by
 unfold tH at h;split at h
 ·split at h
  ·simp only[Option.some.injEq,Prod.mk.injEq] at h;exact h.2.symm
  ·split at h
   ·rename_i ts _ _ _ b l h1;simp only[Option.some.injEq,Prod.mk.injEq] at h;have hb:=h.1.trans hr;rw[Bool.and_eq_true] at hb
    have hv:v=.tuple v.aq∧v.aq.length=ts.length:=by
     cases v<;>simp_all [V.aL,V.aq]
    have:=yu h1 hb.2 (by omega);rw[←h.2,this,List.drop_zero];exact hv.1.symm
   ·cases h
  ·exact lG h hr
 ·cases h
theorem yw {t:TypeId} {cs:List V} {off:Nat} {r:Bool} {v:V} {cs':Array Value} (h:mL E t cs off=some (r,v)) (hr:r=true) (h1:bd cs) (hcs:eT ρ cs cs'.toList) (w:World):∃v',(part t cs' off).run E.P w=.ok v' w∧VR ρ v v':=by
 unfold mL at h;split at h
 ·rename_i k hk;obtain⟨d,dh,hu,hi,_,ha⟩:=vB hk;simp only[Option.some.injEq,Prod.mk.injEq] at h;have xB:=h.1.trans hr;rw[Bool.and_eq_true] at xB;have hlt:off<cs.length:=by simpa using xB.1
  obtain⟨y,hy,hv⟩:=hcs.nth hlt;refine⟨y, ?_,by rw[←h.2,V.sb xB.2];exact hv⟩;have hy':cs'[off]? =some y:=by simpa using hy
  simp [part,jy hu,ha,hy']
 ·split at h
  ·rename_i ks n hks hn;obtain⟨d,dh,z,hu,hi,ha,_⟩:=yr hks;simp only[Option.some.injEq,Prod.mk.injEq] at h;refine⟨.agg (cs'.extract off (off+n)), ?_, ?_⟩
   ·simp [part,jy hu,ha,fl hn]
   ·rw[←h.2];refine .vv (fun c hc=>h1 c (List.mem_of_mem_drop (List.mem_of_mem_take hc))) ?_;have:=(hcs.drop off).take n;simpa [List.extract_eq_take_drop] using this
  ·cases h
theorem Nq {op:BinOp} {k:IntKind} {x y:Int} {r:Bool} {v:V} (h:vq op k x y=some (r,v)) (hr:r=true) (t:TypeId):∃v',(binOp op t (.int k x) (.int k y)).run E.P w=.ok v' w∧VR ρ v v':=by
 subst hr
 cases op<;>simp only[vq,Option.some.injEq,Prod.mk.injEq] at h<;>obtain⟨h1,rfl⟩:=h<;>
  simp only[binOp,ne_eq,not_true,if_false,Op.intArith,Op.intCmp,Op.intBits,Op.intDiv,Op.shift]<;>
  first
   |exact⟨_,rfl,.int _ _⟩
   |exact⟨_,rfl,.bool _⟩
   |(have h1:¬y=0:=by simpa using h1
     rw[if_neg h1];exact⟨_,rfl,.int _ _⟩)
   |(have h1:¬y<0:=by simpa using h1
     rw[if_neg h1];exact⟨_,rfl,.int _ _⟩)
theorem yx {op:BinOp} (hop:op=.shl∨op=.shr) {k k':IntKind} {x y:Int} {r:Bool} {v:V} (h:vq op k x y=some (r,v)) (hr:r=true) (t:TypeId):∃v',(binOp op t (.int k x) (.int k' y)).run E.P w=.ok v' w∧VR ρ v v':=by
 subst hr
 rcases hop with rfl|rfl<;>simp only[vq,Option.some.injEq,Prod.mk.injEq] at h<;>obtain⟨h1,rfl⟩:=h<;>
  simp only[binOp,Op.shift]<;>
  (have h1:¬y<0:=by simpa using h1
   rw[if_neg h1];exact⟨_,rfl,.int _ _⟩)
theorem QY:IntKind.i64.max=9223372036854775807:=by decide
theorem Nr {op:BinOp} {x y:ByteArray} {r:Bool} {v:V} (h:Hn op x y=some (r,v)) (hr:r=true) (t:TypeId):∃v',(binOp op t (.string x) (.string y)).run E.P w=.ok v' w∧VR ρ v v':=by
 subst hr
 cases op<;>simp only[Hn,Option.some.injEq,Prod.mk.injEq] at h<;>first
  |(cases h;done)
  |(obtain⟨h1,rfl⟩:=h
    simp only[binOp,Op.stringOp,mu]
    first
     |exact⟨_,rfl,.bool _⟩
     |(have h1:¬((x.size+y.size:Nat):Int)>IntKind.i64.max:=by rw[QY];unfold Nc at h1;have:=Nat.le_of_ble_eq_true h1;omega
       rw[if_neg h1];exact⟨_,rfl,.cI _⟩))
theorem bM {t:TypeId} {k:cq} (h:bh E t=some k):∃d,E.P.underlying t=some d∧cO (bq d)=some k:=by
 obtain⟨d,_,h1,_,h2,_⟩:=vB h;exact⟨d,h1,h2⟩
set_option maxHeartbeats 2000000 in
theorem rS {t:TypeId} {nils:Bool} {a b:V} {a' b':Value} {x y:Operand} {op:BinOp} {r q:Bool} (hc:nils=true→∃v,y=.const v)
 {D:Nat} (hD:50≤D+1) (ha:VR ρ a a') (hb:VR ρ b b') (h:iL E t nils a b=some (r,q)) (hr:r=true):
 (eqGuard op t x y a' b').run E.P w=.ok () w∧(Op.equalIn (D+1) t a' b').run E.P w=.ok q w:=by
 subst hr;unfold iL at h;split at h
 ·split at h
  ·rename_i hk;obtain⟨d,hu,hd⟩:=bM hk;simp only[Option.some.injEq,Prod.mk.injEq,true_and] at h;cases ha;cases hb;cases d<;>simp [bq,cO] at hd
   refine⟨by cases op<;>simp [eqGuard],by simp [Op.equalIn,run_underlying hu, ←h]⟩
  ·cases h
 ·split at h
  ·rename_i hk;obtain⟨d,hu,hd⟩:=bM hk;simp only[Option.some.injEq,Prod.mk.injEq,true_and] at h;cases hb;cases d<;>simp [bq,cO] at hd
   cases ha<;>exact⟨by cases op<;>simp [eqGuard],by simp [Op.equalIn,run_underlying hu, ←h]⟩
  ·cases h
 ·split at h
  ·rename_i hk;obtain⟨d,hu,hd⟩:=bM hk;simp only[Option.some.injEq,Prod.mk.injEq,true_and] at h;cases ha;cases d<;>simp [bq,cO] at hd
   cases hb<;>exact⟨by cases op<;>simp [eqGuard],by simp [Op.equalIn,run_underlying hu, ←h]⟩
  ·cases h
 ·split at h
  ·rename_i hk;obtain⟨d,hu,hd⟩:=bM hk;simp only[Option.some.injEq,Prod.mk.injEq,true_and] at h;cases hb;cases d<;>simp [bq,cO] at hd
   cases ha<;>exact⟨by cases op<;>simp [eqGuard],by simp [Op.equalIn,run_underlying hu, ←h]⟩
  ·cases h
 ·split at h
  ·rename_i hk;obtain⟨d,hu,hd⟩:=bM hk;simp only[Option.some.injEq,Prod.mk.injEq,true_and] at h;cases ha;cases d<;>simp [bq,cO] at hd
   cases hb<;>exact⟨by cases op<;>simp [eqGuard],by simp [Op.equalIn,run_underlying hu, ←h]⟩
  ·cases h
 ·split at h
  ·rename_i hk;obtain⟨d,hu,hd⟩:=bM hk;simp only[Option.some.injEq,Prod.mk.injEq,true_and] at h;cases hb;cases d<;>simp [bq,cO] at hd
   cases ha<;>exact⟨by cases op<;>simp [eqGuard],by simp [Op.equalIn,run_underlying hu, ←h]⟩
  ·cases h
 ·split at h
  ·rename_i hk;obtain⟨d,hu,hd⟩:=bM hk;simp only[Option.some.injEq,Prod.mk.injEq,true_and] at h;cases ha;cases d<;>simp [bq,cO] at hd
   cases hb<;>exact⟨by cases op<;>simp [eqGuard],by simp [Op.equalIn,run_underlying hu, ←h]⟩
  ·cases h
 ·rename_i xs ys;split at h
  ·rename_i ks b hk hb';simp only[Option.some.injEq,Prod.mk.injEq,Bool.and_eq_true,da,hb'] at h;obtain⟨⟨h1,h2⟩,rfl⟩:=h;have hq:=E.eq_ok t ks hk;simp only[K3,Bool.and_eq_true,Bool.not_eq_true',decide_eq_true_eq] at hq;obtain⟨xs',rfl,hx,_⟩:=ha.oq;obtain⟨ys',rfl,hy,_⟩:=hb.oq;refine⟨run_eqGuard_agg w op t x y _ _ hq.1.1, ?_⟩;have key:=QX (P:=E.P) (ρ:=ρ) 50 t ks hq.1.2 (D+1) hD w xs ys xs'.toList ys'.toList (.agg xs') (.agg ys') b h1 h2 hx hy hb';have QI:=hq.2;split at QI
   ·rename_i d hu;exact key ⟨d,hu,.inl ⟨QI,by simp⟩⟩ ⟨d,hu,.inl ⟨QI,by simp⟩⟩
   ·cases QI
  ·cases h
 ·split at h
  ·rename_i hk;obtain⟨d,hu,hd⟩:=bM hk;simp only[Option.some.injEq,Prod.mk.injEq] at h;obtain⟨h1,h⟩:=h;cases hb;cases d<;>simp [bq,cO] at hd
   cases ha<;>simp [V.ax] at h1<;>exact⟨by cases op<;>simp [eqGuard],by simp [Op.equalIn,run_underlying hu, ←h,V.nc]⟩
  ·cases h
 ·split at h
  ·rename_i hk;obtain⟨d,hu,hd⟩:=bM hk;simp only[Option.some.injEq,Prod.mk.injEq] at h;obtain⟨h1,h⟩:=h;cases ha;cases d<;>simp [bq,cO] at hd
   cases hb<;>simp [V.ax] at h1<;>exact⟨by cases op<;>simp [eqGuard],by simp [Op.equalIn,run_underlying hu, ←h,V.nc]⟩
  ·cases h
 ·cases nils
  ·simp at h
  ·simp only[cond_true] at h;split at h
   ·rename_i hk;obtain⟨d,hu,hd⟩:=bM hk;obtain⟨c,rfl⟩:=hc rfl;simp only[Option.some.injEq,Prod.mk.injEq] at h;obtain⟨h1,h⟩:=h;cases hb;cases d<;>simp [bq,cO] at hd
    cases ha<;>simp [V.ax] at h1<;>exact⟨by cases op<;>simp [eqGuard],by simp [Op.equalIn,run_underlying hu, ←h,V.fA]⟩
   ·cases h
 ·cases h
end
section
variable {E:kv} {ρ lam:dC} {w:World}
theorem rT {t:TypeId} {a b:Value} {q:Bool} (h:(Op.equalIn 10000 t a b).run E.P w=.ok q w) (hn:∀k n k' n',¬(a=.int k n∧b=.int k' n')) (hs:∀x y,¬(a=.string x∧b=.string y)) (hf:∀k x k' y,¬(a=.float k x∧b=.float k' y)) (hx:∀k x y k' x' y',¬(a=.complex k x y∧b=.complex k' x' y')):(binOp .eql t a b).run E.P w=.ok (.bool q) w∧(binOp .neq t a b).run E.P w=.ok (.bool (!q)) w:=by
 have he:(Op.equal t a b).run E.P w=.ok q w:=h
 cases a<;>cases b<;>first
  |exact(hn _ _ _ _ ⟨rfl,rfl⟩).elim
  |exact(hs _ _ ⟨rfl,rfl⟩).elim
  |exact(hf _ _ _ _ ⟨rfl,rfl⟩).elim
  |exact(hx _ _ _ _ _ _ ⟨rfl,rfl⟩).elim
  |(constructor<;>simp [binOp,he])
theorem tW {t:TypeId} {nils q:Bool} {a b:V} (h:iL E t nils a b=some (true,q)):a≠ .cx∧b≠ .cx:=by
 constructor
 ·rintro rfl;cases b<;>simp only[iL] at h<;>first|cases h|(split at h<;>first|cases h|(split at h<;>simp [V.ax] at h)|simp [V.ax] at h)|skip
  all_goals (revert h;cases nils<;>simp [];try (split<;>simp))
 ·rintro rfl;cases a<;>simp only[iL] at h<;>first|cases h|(split at h<;>first|cases h|simp [V.ax] at h)|skip
theorem Lc {op:BinOp} {t:TypeId} {nils r:Bool} {a b v:V} {a' b':Value} {x y:Operand} (hc:nils=true→∃c,y=.const c) (ha:VR ρ a a') (hb:VR ρ b b') (h:CF E op t nils a b=some (r,v)) (hr:r=true):∃v',(eqGuard op t x y a' b').run E.P w=.ok () w∧(binOp op t a' b').run E.P w=.ok v' w∧VR ρ v v':=by
 unfold CF at h;split at h
 ·rename_i k n k' n';cases ha;cases hb;have hg:(eqGuard op t x y (.int k n) (.int k' n')).run E.P w=.ok () w:=by cases op<;>simp [eqGuard]
  split at h
  ·obtain⟨v',h1,h2⟩:=yx (w:=w) (ρ:=ρ) (.inl rfl) (k':=k') h hr t;exact⟨v',hg,h1,h2⟩
  ·obtain⟨v',h1,h2⟩:=yx (w:=w) (ρ:=ρ) (.inr rfl) (k':=k') h hr t;exact⟨v',hg,h1,h2⟩
  ·by_cases hk:k=k'
   ·subst hk;simp only[nf,decide_true,cond_true] at h;obtain⟨v',h1,h2⟩:=Nq (w:=w) (ρ:=ρ) h hr t;exact⟨v',hg,h1,h2⟩
   ·simp [hk] at h
 ·rename_i s s';cases ha;cases hb;obtain⟨v',h1,h2⟩:=Nr (w:=w) (ρ:=ρ) h hr t;exact⟨v',by cases op<;>simp [eqGuard],h1,h2⟩
 ·rename_i h1 h2
  have hh:a≠ .cx∧b≠ .cx:=by
   split at h
   ·split at h
    ·rename_i r' q he;simp only[Option.some.injEq,Prod.mk.injEq] at h;exact tW (he.trans (by rw[h.1,hr]))
    ·cases h
   ·split at h
    ·rename_i r' q he;simp only[Option.some.injEq,Prod.mk.injEq] at h;exact tW (he.trans (by rw[h.1,hr]))
    ·cases h
   ·cases h
  have hn:∀k n k' n',¬(a'=.int k n∧b'=.int k' n'):=by
   rintro k n k' n' ⟨rfl,rfl⟩
   cases ha with
   |cx=>exact hh.1 rfl
   |int=>cases hb with
    |cx=>exact hh.2 rfl
    |int=>exact h1 _ _ _ _ rfl rfl
  have hs:∀x y,¬(a'=.string x∧b'=.string y):=by
   rintro x y ⟨rfl,rfl⟩
   cases ha with
   |cx=>exact hh.1 rfl
   |cI=>cases hb with
    |cx=>exact hh.2 rfl
    |cI=>exact h2 _ _ rfl rfl
  have hf:∀k x k' y,¬(a'=.float k x∧b'=.float k' y):=by
   rintro k x k' y ⟨rfl,rfl⟩
   cases ha with
   |cx=>exact hh.1 rfl
  have hx:∀k x y k' x' y',¬(a'=.complex k x y∧b'=.complex k' x' y'):=by
   rintro k x y k' x' y' ⟨rfl,rfl⟩
   cases ha with
   |cx=>exact hh.1 rfl
  split at h
  ·split at h
   ·rename_i r' q he;simp only[Option.some.injEq,Prod.mk.injEq] at h;obtain⟨rfl,rfl⟩:=h;obtain⟨hg,h3⟩:=rS (w:=w) (x:=x) (op:=.eql) (D:=9999) hc (by omega) ha hb he hr;exact⟨.bool q,hg,(rT h3 hn hs hf hx).1,.bool _⟩
   ·cases h
  ·split at h
   ·rename_i r' q he;simp only[Option.some.injEq,Prod.mk.injEq] at h;obtain⟨rfl,rfl⟩:=h;obtain⟨hg,h3⟩:=rS (w:=w) (x:=x) (op:=.neq) (D:=9999) hc (by omega) ha hb he hr;exact⟨.bool (!q),hg,(rT h3 hn hs hf hx).2,.bool _⟩
   ·cases h
  ·cases h
theorem C3 (c:Bool) (x y:Int):(bif c then x else y)=if c=true then x else y:=by cases c<;>rfl
theorem Ns {op:UnOp} {a v:V} {a':Value} (ha:VR ρ a a') (h:unV op a=some v):∃v',(Op.unary op a').run E.P w=.ok v' w∧VR ρ v v':=by
 unfold unV at h;split at h
 ·cases ha;simp only[Option.some.injEq] at h;subst h;exact⟨_,rfl,.bool _⟩
 ·cases ha;simp only[Option.some.injEq] at h;subst h;exact⟨_,rfl,.int _ _⟩
 ·cases ha;simp only[Option.some.injEq] at h;subst h;exact⟨_,rfl,by rw[C3];exact .int _ _⟩
 ·cases h
theorem yy {t ft:TypeId} {f o:Nat} (h:tI E t f=some (o,ft)):∃fs fd,E.P.underlying t=some (.struct fs)∧fs[f]? =some fd∧fd.offset=o∧fd.type=ft:=by
 unfold tI at h;split at h
 ·rename_i i hi;obtain⟨dh,d,h1,h2,h3,_⟩:=jN hi;split at h
  ·rename_i fs hs;rw[hs] at h3;cases d<;>simp [bq] at h3
   rename_i fields;subst h3;simp only[List.getElem?_map,Option.map_eq_some_iff,Prod.mk.injEq] at h;obtain⟨fd,h4,h5,h6⟩:=h;exact⟨fields,fd,h2,by simpa using h4,h5,h6⟩
  ·cases h
 ·cases h
theorem sA {ev:Ev} {e:Operand→Value} (cX:pI ρ lam ev e) {x:Operand} {i:Int} (h:rK x ev=some i):∃k,e x=.int k i:=by
 unfold rK at h;split at h
 ·rename_i k j hx;simp only[Option.some.injEq] at h;subst h;exact⟨k,(cX.v hx).iu⟩
 ·cases h
theorem yz {k:IntKind} {i:Int} {y:Nat} {code:BoundsCode} (h0:0≤i) (h1:i≤(y:Int)) (w:World):(Instr.sliceBound (.int k i) y code).run E.P w=.ok i.toNat w:=by
 simp [Instr.sliceBound,asIntOf,h0,h1]
theorem ox {ev:Ev} {e:Operand→Value} (cX:pI ρ lam ev e) {isS:Bool} {len cap l h m:Nat} {lo hi mx:Option Operand} {r:Bool} (hb:gx ev len cap lo hi mx=some (r,l,h,m)) (hr:r=true) (w:World):(Instr.sliceBounds isS len cap (lo.map e) (hi.map e) (mx.map e)).run E.P w=.ok (l,h,m) w:=by
 unfold gx at hb;cases hq:(hi.isNone&&mx.isSome)
 ·simp only[hq,cond_false] at hb;split at hb
  ·rename_i m1 hm;split at hb
   ·rename_i h1 hh;split at hb
    ·rename_i l1 hl;simp only[Option.some.injEq,Prod.mk.injEq] at hb;obtain⟨Cx,rfl,rfl,rfl⟩:=hb;rw[hr] at Cx;simp only[Bool.and_eq_true] at Cx;obtain⟨⟨r1,r2⟩,r3⟩:=Cx
     have key:∀{x:Option Operand} {d most:Nat} {q:Bool×Nat},mM ev x d most=some q→q.1=true→
      (x=none∧q.2=d)∨∃y k i,x=some y∧e y=.int k i∧0≤i∧i≤(most:Int)∧q.2=i.toNat:=by
      intro x d most q hx hq;unfold mM at hx;split at hx
      ·simp only[Option.some.injEq] at hx;subst hx;exact .inl ⟨rfl,rfl⟩
      ·split at hx
       ·rename_i y _ i hy;simp only[Option.some.injEq] at hx;subst hx;simp only[Bool.and_eq_true,decide_eq_true_eq] at hq;obtain⟨k,hk⟩:=sA cX hy;exact .inr ⟨y,k,i,rfl,hk,hq.1,hq.2,rfl⟩
       ·cases hx
     unfold Instr.sliceBounds
     rcases key hm r1 with⟨rfl,e1⟩|⟨y1,k1,i1,rfl,he1,a1,b1,e1⟩<;>
      rcases key hh r2 with⟨rfl,e2⟩|⟨y2,k2,i2,rfl,Sy,a2,b2,e2⟩<;>
       rcases key hl r3 with⟨rfl,e3⟩|⟨y3,k3,i3,rfl,he3,a3,b3,e3⟩<;>
        simp_all [yz]
    ·cases hb
   ·cases hb
  ·cases hb
 ·simp [hq] at hb
theorem Fb {x:Value} {v:V} (h:VR ρ v x):∀{cs:List V} {cs':List Value} {off:Nat},eT ρ cs cs'→eT ρ (x7 cs 0 off v) (cs'.set off x):=by
 have key:∀(cs:List V) (cs':List Value) (j off:Nat),eT ρ cs cs'→eT ρ (x7 cs j off v) (if off<j then cs' else cs'.set (off-j) x):=by
  intro cs
  induction cs with
  |nil=>intro cs' j off hc;rw[hc.gu];simpa [x7] using eT.nil ρ
  |cons c cs ih=>
   intro cs' j off hc;obtain⟨y,m,rfl,h1,h2⟩:=hc.df;have:=ih m (j+1) off h2;rw[x7,ng,aX];by_cases hlt:off<j
   ·rw[if_pos (by omega)] at this;rw[if_pos hlt,if_neg (by simp;omega)];exact .cons h1 this
   ·rw[if_neg hlt];by_cases he:j=off
    ·subst he;rw[if_pos (by omega)] at this;simp only[decide_true,if_true,Nat.sub_self,List.set_cons_zero];exact .cons h this
    ·rw[if_neg (by omega)] at this;obtain⟨q,hq⟩:∃q,off-j=q+1:=⟨off-j-1,by omega⟩;rw[hq,List.set_cons_succ,if_neg (by simp;omega)];rw[show off-(j+1)=q by omega] at this;exact .cons h1 this
 intro cs cs' off hc;have:=key cs cs' 0 off hc;simpa using this
end
section
variable {E:kv} {ρ lam:dC} {w:World}
theorem AD {y:Operand} (h:sj y=true):∃v,y=.const v:=by
 cases y with
 |const v=>exact⟨v,rfl⟩
 |_=>simp [sj] at h
theorem dG {t:TypeId} {i:TI} (h:E.ti t=some i):∃d,E.P.underlying t=some d∧bq d=i.sh:=by
 obtain⟨dh,d,_,h2,h3,_⟩:=jN h;exact⟨d,h2,h3⟩
theorem tX {d:TypeDesc} {n e:Nat} (h:bq d=.arr n e):d=.array n e:=by cases d<;>simp_all [bq]
theorem iv {d:TypeDesc} {e:Nat} (h:bq d=.slice e):d=.slice e:=by cases d<;>simp_all [bq]
theorem Fc {d:TypeDesc} (h:bq d=.cI):d=.string:=by cases d<;>simp_all [bq]
theorem Fe {d:TypeDesc} {fs:List (Nat×TypeId)} (h:bq d=.struct fs):∃f,d=.struct f∧fs=f.toList.map fun f=>(f.offset,f.type):=by
 cases d<;>simp_all [bq]
theorem gb (b o n:Nat):(⟨b,o,none⟩:Addr).add n=⟨b,o+n,none⟩:=by unfold Addr.add;split<;>simp_all
def gv (E:kv) (ρ lam:dC) (w:World) (o:Oper) (e:Operand→Value) (x:T):Prop:=
 ∃v,(execOp e o).run E.P w=.ok (.value v) w∧TR ρ lam x v
theorem Ff {p:Oq} (h:p.isSome=true):p=some ((p.getD (0,0)).1,(p.getD (0,0)).2):=by
 cases p with
 |none=>cases h
 |some q=>rfl
variable {dst:Option Tmp} {type:TypeId} {jj:String} {after:Array Edge} {guard:Option (Nat×Bool)} {ev:Ev} {e:Operand→Value} {d:fR T}
theorem Ld {x:Operand} (cX:pI ρ lam ev e) (h:ba E (.move x) ev=some d):gv E ρ lam w ⟨dst,.move x,type,jj,after,guard⟩ e (if d.c=true then d.x else d.y):=by
 simp only[ba] at h;split at h
 ·rename_i y hy;simp only[Option.some.injEq] at h;subst h;exact⟨e x,rfl,cX x y hy⟩
 ·cases h
theorem Fg {x:Operand} (cX:pI ρ lam ev e) (h:ba E (.assign x) ev=some d):gv E ρ lam w ⟨dst,.assign x,type,jj,after,guard⟩ e (if d.c=true then d.x else d.y):=by
 simp only[ba] at h;split at h
 ·rename_i y hy;simp only[Option.some.injEq] at h;subst h;exact⟨e x,rfl,cX x y hy⟩
 ·cases h
theorem Le {c a b:Operand} (cX:pI ρ lam ev e) (h:ba E (.pick c a b) ev=some d):gv E ρ lam w ⟨dst,.pick c a b,type,jj,after,guard⟩ e (if d.c=true then d.x else d.y):=by
 simp only[ba] at h;split at h
 ·rename_i t hc;have tq:=(cX.tv hc).C1;have hrun:(execOp e ⟨dst,.pick c a b,type,jj,after,guard⟩).run E.P w=.ok (.value (if t=true then e a else e b)) w:=by simp [execOp,asBool,tq]
  split at h
  ·rename_i x y ha hb;simp only[Option.some.injEq] at h;subst h;refine⟨_,hrun, ?_⟩;simp only[fR.one,if_true];cases t
   ·exact .v (cX.tv hb)
   ·exact .v (cX.tv ha)
  ·cases t with
   |true=>
    simp only[] at h;split at h
    ·rename_i y hy;simp only[Option.some.injEq] at h;subst h;exact⟨_,hrun,cX _ _ hy⟩
    ·cases h
   |false=>
    simp only[] at h;split at h
    ·rename_i y hy;simp only[Option.some.injEq] at h;subst h;exact⟨_,hrun,cX _ _ hy⟩
    ·cases h
 ·cases h
theorem T2 {op:BinOp} {t:TypeId} {nils:Bool} {a b:V} {r:Bool} {v:V} (h:T0 E op t nils a b=some (r,v)) (hr:r=true):CF E op t nils a b=some (r,v):=by
 unfold T0 at h;split at h
 ·split at h
  ·have key:∀{r x},Jc E t a=some (r,x)→r=true→iL E t true a .nilIface=some (r,x):=by
    intro r x he hr;unfold Jc at he;split at he
    ·rename_i hk;simp only[Option.some.injEq,Prod.mk.injEq] at he;obtain⟨rfl,rfl⟩:=he;cases a<;>simp_all [V.ax,iL]
    ·cases he
   split at h
   ·split at h
    ·rename_i r' b' he;simp only[Option.some.injEq,Prod.mk.injEq] at h;obtain⟨rfl,rfl⟩:=h;have:=key he hr;cases a<;>simp_all [CF]
    ·cases h
   ·split at h
    ·rename_i r' b' he;simp only[Option.some.injEq,Prod.mk.injEq] at h;obtain⟨rfl,rfl⟩:=h;have:=key he hr;cases a<;>simp_all [CF]
    ·cases h
   ·cases h
  ·exact h
 ·have key:∀{r x},CG E t a=some (r,x)→iL E t nils a .nilFunc=some (r,x):=by
   intro r x he;unfold CG at he;split at he
   ·rename_i hk;cases a<;>simp_all [V.ax,iL]
   ·cases he
  split at h
  ·split at h
   ·rename_i r' b' he;simp only[Option.some.injEq,Prod.mk.injEq] at h;obtain⟨rfl,rfl⟩:=h;have:=key he;cases a<;>simp_all [CF]
   ·cases h
  ·split at h
   ·rename_i r' b' he;simp only[Option.some.injEq,Prod.mk.injEq] at h;obtain⟨rfl,rfl⟩:=h;have:=key he;cases a<;>simp_all [CF]
   ·cases h
  ·cases h
 ·exact h
theorem Nt {op:BinOp} {t yt:TypeId} {x y:Operand} (cX:pI ρ lam ev e) (h:ba E (.binOp op t x y yt) ev=some d) (hr:d.rq=true):gv E ρ lam w ⟨dst,.binOp op t x y yt,type,jj,after,guard⟩ e (if d.c=true then d.x else d.y):=by
 simp only[ba] at h;split at h
 ·rename_i a b ha hb;unfold Bd at h;split at h
  ·rename_i r v hv;simp only[Option.some.injEq] at h;subst h;obtain⟨v',h1,h2,h3⟩:=Lc (w:=w) (x:=x) AD (cX.v ha) (cX.v hb) (T2 hv hr) hr;exact⟨v',by simp [execOp,h1,h2],.v h3⟩
  ·cases h
 ·cases h
theorem QZ {op:UnOp} {t:TypeId} {x:Operand} (cX:pI ρ lam ev e) (h:ba E (.unOp op t x) ev=some d):gv E ρ lam w ⟨dst,.unOp op t x,type,jj,after,guard⟩ e (if d.c=true then d.x else d.y):=by
 simp only[ba] at h;split at h
 ·rename_i a ha;split at h
  ·rename_i v hv;simp only[Option.some.injEq] at h;subst h;obtain⟨v',h1,h2⟩:=Ns (E:=E) (w:=w) (cX.v ha) hv;exact⟨v',by simp [execOp,h1],.v h2⟩
  ·cases h
 ·cases h
theorem C4 {s t:TypeId} {x:Operand} (cX:pI ρ lam ev e) (h:ba E (.convert s t x) ev=some d):gv E ρ lam w ⟨dst,.convert s t x,type,jj,after,guard⟩ e (if d.c=true then d.x else d.y):=by
 simp only[ba] at h;split at h
 ·rename_i ti k k' n m9 hk hx;obtain⟨ds,hds,_⟩:=dG m9;obtain⟨dt,hu,hd⟩:=bM hk;simp only[Option.some.injEq] at h;subst h;cases dt<;>simp [bq,cO] at hd
  subst hd;refine⟨_, ?_,.v (.int _ _)⟩;simp [execOp,convert,run_underlying hds,run_underlying hu,(cX.v hx).iu,Conv.intToInt]
 ·rename_i ti s' m9 hk hx;obtain⟨ds,hds,_⟩:=dG m9;obtain⟨dt,hu,hd⟩:=bM hk;simp only[Option.some.injEq] at h;subst h;cases dt<;>simp [bq,cO] at hd
  exact⟨.string s',by simp [execOp,convert,run_underlying hds,run_underlying hu,(cX.v hx).vx],.v (.cI _)⟩
 ·rename_i ti k' n m9 hk hx;obtain⟨ds,hds,_⟩:=dG m9;obtain⟨dt,hu,hd⟩:=bM hk;simp only[Option.some.injEq] at h;subst h;cases dt<;>simp [bq,cO] at hd
  exact⟨.string (Utf8.encode n),by simp [execOp,convert,run_underlying hds,run_underlying hu,(cX.v hx).iu,Conv.intToString],.v (.cI _)⟩
 ·cases h
theorem AE {x:Operand} (cX:pI ρ lam ev e) (h:ba E (.nilCheck x) ev=some d) (hr:d.rq=true):gv E ρ lam w ⟨dst,.nilCheck x,type,jj,after,guard⟩ e (if d.c=true then d.x else d.y):=by
 simp only[ba] at h;split at h
 ·rename_i p hp;simp only[Option.some.injEq] at h;subst h;have:=Ff (p:=p) hr;rw[this] at hp;obtain⟨b,hb,he⟩:=(cX.tv hp).vy;exact⟨.pointer (some ⟨b,(p.getD (0,0)).2,none⟩),by simp [execOp,he],.v (.aj hb)⟩
 ·rename_i s off hx;simp only[Option.some.injEq] at h;subst h;obtain⟨b,hb,he⟩:=cX.lp hx;exact⟨.pointer (some ⟨b,off,none⟩),by simp [execOp,he],.lp hb⟩
 ·cases h
theorem yA {t:TypeId} {x:Operand} {f:Nat} (cX:pI ρ lam ev e) (h:ba E (.fieldAddr t x f) ev=some d):gv E ρ lam w ⟨dst,.fieldAddr t x f,type,jj,after,guard⟩ e (if d.c=true then d.x else d.y):=by
 simp only[ba] at h;split at h
 ·rename_i o ft hf;obtain⟨fs,fd,hu,Hi,ho,hft⟩:=yy hf;split at h
  ·rename_i n hn;cases hz:sk n
   ·simp [hz] at h
   ·simp only[hz,cond_true] at h;have hn0:¬n=0:=by rintro rfl;simp [sk] at hz
    have key:∀b off,(Instr.fieldAt t (.pointer (some ⟨b,off,none⟩)) f).run E.P w=.ok (.pointer (some ⟨b,off+o,none⟩)) w:=by
     intro b off;simp [Instr.fieldAt,run_underlying hu,Hi,Instr.sureAddr,fieldPlace,hft,fl hn,hn0,gb,ho]
    split at h
    ·rename_i id off hx;simp only[Option.some.injEq] at h;subst h;obtain⟨b,hb,he⟩:=(cX.tv hx).vy;exact⟨.pointer (some ⟨b,off+o,none⟩),by simp [execOp,he,key],.v (.aj hb)⟩
    ·rename_i s off hx;simp only[Option.some.injEq] at h;subst h;obtain⟨b,hb,he⟩:=cX.lp hx;exact⟨.pointer (some ⟨b,off+o,none⟩),by simp [execOp,he,key],.lp hb⟩
    ·cases h
  ·cases h
 ·cases h
theorem Hy {t:TypeId} {x:Operand} {f:Nat} (cX:pI ρ lam ev e) (h:ba E (.field t x f) ev=some d) (hr:d.rq=true):gv E ρ lam w ⟨dst,.field t x f,type,jj,after,guard⟩ e (if d.c=true then d.x else d.y):=by
 simp only[ba] at h;split at h
 ·rename_i o ft cs hf hx;obtain⟨fs,fd,hu,Hi,ho,hft⟩:=yy hf;unfold Bd at h;split at h
  ·rename_i r v hv;simp only[Option.some.injEq] at h;subst h;obtain⟨cs',he,hcs,h1c⟩:=(cX.v hx).oq;obtain⟨v',h1,h2⟩:=yw hv hr h1c hcs w;exact⟨v',by simp [execOp,Instr.field,run_underlying hu,Hi,he,asAgg,ho,hft,h1],.v h2⟩
  ·cases h
 ·cases h
theorem yB {t:TypeId} {x i:Operand} (cX:pI ρ lam ev e) (h:ba E (.indexAddr t x i) ev=some d) (hr:d.rq=true):gv E ρ lam w ⟨dst,.indexAddr t x i,type,jj,after,guard⟩ e (if d.c=true then d.x else d.y):=by
 simp only[ba] at h;split at h
 ·rename_i n ti hn m9;obtain⟨k,hi⟩:=sA cX hn;obtain⟨dt,hu,hd⟩:=dG m9;split at h
  ·rename_i len el hs;rw[hs] at hd;cases tX hd;split at h
   ·rename_i sz id off hsz hx;simp only[Option.some.injEq] at h;subst h;simp only[fR.one,Bool.and_eq_true,decide_eq_true_eq] at hr;obtain⟨b,hb,he⟩:=(cX.tv hx).vy;exact⟨.pointer (some ⟨b,off+n.toNat*sz,none⟩),by simp [execOp,Instr.indexAt,hi,asIntOf,run_underlying hu,he,Instr.sureAddr,hr,fl hsz,gb],.v (.aj hb)⟩
   ·rename_i sz s off hsz hx;simp only[Option.some.injEq] at h;subst h;simp only[fR.one,Bool.and_eq_true,decide_eq_true_eq] at hr;obtain⟨b,hb,he⟩:=cX.lp hx;exact⟨.pointer (some ⟨b,off+n.toNat*sz,none⟩),by simp [execOp,Instr.indexAt,hi,asIntOf,run_underlying hu,he,Instr.sureAddr,hr,fl hsz,gb],.lp hb⟩
   ·cases h
  ·rename_i el hs;rw[hs] at hd;cases iv hd;split at h
   ·rename_i sz p len _ hsz hx;simp only[Option.some.injEq] at h;subst h;simp only[fR.one,Bool.and_eq_true,decide_eq_true_eq] at hr;rw[Ff hr.2] at hx;rcases (cX.tv hx).fj with⟨b,hb,he⟩|⟨h0,_,_⟩;rotate_left
    ·omega
    exact⟨.pointer (some ⟨b,(p.getD (0,0)).2+n.toNat*sz,none⟩),by simp [execOp,Instr.indexAt,hi,asIntOf,run_underlying hu,he,hr.1,fl hsz,gb],.v (.aj hb)⟩
   ·cases h
  ·cases h
 ·cases h
theorem Hz {t:TypeId} {x i:Operand} (cX:pI ρ lam ev e) (h:ba E (.index t x i) ev=some d) (hr:d.rq=true):gv E ρ lam w ⟨dst,.index t x i,type,jj,after,guard⟩ e (if d.c=true then d.x else d.y):=by
 simp only[ba] at h;split at h
 ·rename_i n ti v hn m9 hx;obtain⟨k,hi⟩:=sA cX hn;obtain⟨dt,hu,hd⟩:=dG m9;split at h
  ·rename_i len el cs hs;rw[hs] at hd;cases tX hd;split at h
   ·rename_i sz hsz;split at h
    ·rename_i r y hp;simp only[Option.some.injEq] at h;subst h;simp only[fR.one,Bool.and_eq_true,decide_eq_true_eq] at hr;obtain⟨cs',he,hcs,h1c⟩:=(cX.v hx).oq;obtain⟨v',h1,h2⟩:=yw hp hr.2 h1c hcs w;exact⟨v',by simp [execOp,Instr.index,hi,asIntOf,run_underlying hu,he,hr.1,fl hsz,h1],.v h2⟩
    ·cases h
   ·cases h
  ·rename_i s hs;rw[hs] at hd;cases Fc hd;simp only[Option.some.injEq] at h;subst h;simp only[fR.one,Bool.and_eq_true,decide_eq_true_eq] at hr;have hlt:n.toNat<s.size:=by omega
   refine⟨.int .u8 s[n.toNat].toNat, ?_, ?_⟩
   ·simp [execOp,Instr.index,hi,asIntOf,run_underlying hu,(cX.v hx).vx,hr.1,getElem?_pos s n.toNat hlt]
   ·have:Ho s n.toNat=(s[n.toNat].toNat:Int):=by
     have hl:n.toNat<s.data.toList.length:=by simpa using hlt
     simp only[Ho,List.getD_eq_getElem?_getD,List.getElem?_eq_getElem hl,Option.getD_some];rfl
    simp only[if_true,fR.one,this];exact .v (.int _ _)
  ·cases h
 ·cases h
end
section
variable {E:kv} {ρ lam:dC} {w:World}
variable {dst:Option Tmp} {type:TypeId} {jj:String} {after:Array Edge} {guard:Option (Nat×Bool)} {ev:Ev} {e:Operand→Value} {d:fR T}
theorem oy {p:Oq} {len cap:Nat} {x:Value} (h:VR ρ (.slice p len cap) x):∃a:Option Addr,x=.slice a len cap∧∀n l c,(len=0→cap=0→l=0∧c=0)→VR ρ (.slice (bP p n) l c) (.slice (a.map (·.add n)) l c)∧VR ρ (.slice p l c) (.slice a l c):=by
 cases p with
 |none=>exact⟨none,h.lD,fun n l c _=>⟨.nt l c,.nt l c⟩⟩
 |some q=>
  obtain⟨id,off⟩:=q;rcases h.fj with⟨b,hb,hx⟩|⟨h0,h1,a,hx⟩
  ·exact⟨_,hx,fun n l c _=>⟨by simp only[bP,Option.map_some,gb];exact .slice l c hb,.slice l c hb⟩⟩
  ·subst h0 h1;refine⟨_,hx,fun n l c hz=> ?_⟩;obtain⟨rfl,rfl⟩:=hz rfl rfl;exact⟨.pH _ _,.pH _ _⟩
theorem Fh {ev:Ev} {lo hi mx:Option Operand} {r:Bool} {l h m:Nat} (hb:gx ev 0 0 lo hi mx=some (r,l,h,m)) (hr:r=true):h-l=0∧m-l=0:=by
 unfold gx at hb;cases hq:(hi.isNone&&mx.isSome)
 ·simp only[hq,cond_false] at hb;split at hb
  ·rename_i m1 hm;split at hb
   ·rename_i h1 hh;split at hb
    ·rename_i l1 hl;simp only[Option.some.injEq,Prod.mk.injEq] at hb;obtain⟨Cx,rfl,rfl,rfl⟩:=hb;rw[hr] at Cx;simp only[Bool.and_eq_true] at Cx
     have key:∀{x:Option Operand} {d most:Nat} {q:Bool×Nat},mM ev x d most=some q→q.1=true→q.2=d∨q.2≤most:=by
      intro x d most q hx hq;unfold mM at hx;split at hx
      ·simp only[Option.some.injEq] at hx;subst hx;exact .inl rfl
      ·split at hx
       ·simp only[Option.some.injEq] at hx;subst hx;simp only[Bool.and_eq_true,decide_eq_true_eq] at hq;exact .inr (by simp only;omega)
       ·cases hx
     have k1:=key hm Cx.1.1;have k2:=key hh Cx.1.2;omega
    ·cases hb
   ·cases hb
  ·cases hb
 ·simp [hq] at hb
theorem HA {t:TypeId} {x:Operand} {lo hi mx:Option Operand} (cX:pI ρ lam ev e) (h:ba E (.slice t x lo hi mx) ev=some d) (hr:d.rq=true):gv E ρ lam w ⟨dst,.slice t x lo hi mx,type,jj,after,guard⟩ e (if d.c=true then d.x else d.y):=by
 simp only[ba] at h;split at h
 ·rename_i ti s m9 hx;obtain⟨dt,hu,hd⟩:=dG m9;split at h
  ·rename_i hs;rw[hs] at hd;cases Fc hd;split at h
   ·rename_i r l hh m hb;simp only[Option.some.injEq] at h;subst h;have hb':=ox (E:=E) (isS:=false) cX hb hr w;simp only[Option.map_none] at hb';exact⟨.string (s.extract l hh),by simp [execOp,Instr.sliceAt,Instr.slice,run_underlying hu,(cX.tv hx).vx,hb'],.v (.cI _)⟩
   ·cases h
  ·cases h
 ·rename_i ti p len cap m9 hx;obtain⟨dt,hu,hd⟩:=dG m9;split at h
  ·rename_i el hs;rw[hs] at hd;cases iv hd;split at h
   ·rename_i r l hh m sz hb hsz;simp only[Option.some.injEq] at h;subst h;simp only[fR.one,Bool.and_eq_true] at hr;have hle:=Nat.le_of_ble_eq_true hr.2;have hb':=ox (E:=E) (isS:=true) cX hb hr.1 w;obtain⟨a,he,hv⟩:=oy (cX.tv hx);obtain⟨h1,h2⟩:=hv (l*sz) (hh-l) (m-l) (fun h0 h1=>by subst h0 h1;exact Fh hb hr.1);refine⟨.slice (if m=l then a else a.map (·.add (l*sz))) (hh-l) (m-l),by simp [execOp,Instr.sliceAt,Instr.slice,run_underlying hu,he,hb',fl hsz], ?_⟩;simp only[fR.one,if_true];by_cases hml:m=l
    ·rw[if_pos hml];have e1:hh-l=0:=by omega
     have e2:m-l=0:=by omega
     rw[e1,e2] at h2⊢
     cases p with
     |none=>exact .v h2
     |some q=>
      obtain⟨id,off⟩:=q
      cases a with
      |none=>cases h2
      |some a=>exact .v (.pH _ _)
    ·rw[if_neg hml];exact .v h1
   ·cases h
  ·cases h
 ·rename_i ti id off m9 hx;obtain⟨dt,hu,hd⟩:=dG m9;split at h
  ·rename_i n el hs;rw[hs] at hd;cases tX hd;split at h
   ·rename_i r l hh m sz hb hsz;simp only[Option.some.injEq] at h;subst h;simp only[fR.one,Bool.and_eq_true] at hr;have hle:=Nat.le_of_ble_eq_true hr.2;have hb':=ox (E:=E) (isS:=false) cX hb hr.1 w;obtain⟨b,A9,he⟩:=(cX.tv hx).vy;refine⟨.slice (some (if m=l then ⟨b,off,none⟩ else ⟨b,off+l*sz,none⟩)) (hh-l) (m-l),by simp [execOp,Instr.sliceAt,run_underlying hu,he,Instr.sureAddr,hb',fl hsz,gb], ?_⟩;simp only[fR.one,if_true];by_cases hml:m=l
    ·have e1:hh-l=0:=by omega
     have e2:m-l=0:=by omega
     rw[e1,e2];exact .v (.pH _ _)
    ·rw[if_neg hml];exact .v (.slice _ _ A9)
   ·cases h
  ·cases h
 ·cases h
theorem sB {t:TypeId} {x:Operand} (cX:pI ρ lam ev e) (h:ba E (.makeInterface t x) ev=some d):gv E ρ lam w ⟨dst,.makeInterface t x,type,jj,after,guard⟩ e (if d.c=true then d.x else d.y):=by
 simp only[ba] at h;split at h
 ·cases h
 ·rename_i v hx hk;split at h
  ·rename_i ti m9;simp only[Option.some.injEq] at h;subst h;obtain⟨dt,hu,hd⟩:=dG m9
   have hni:∀ms,dt≠ .interface ms:=by
    rintro ms rfl;apply hk;simp [bh,m9, ←hd,bq,cO]
   refine⟨.iface t (e x), ?_,.v (.iface t (cX.v hx))⟩;cases dt<;>simp [execOp,Instr.makeInterface,run_underlying hu]
   exact(hni _ rfl).elim
  ·cases h
 ·cases h
theorem AF {f:Fn} {first dF:Array Operand} (cX:pI ρ lam ev e) (h:ba E (.makeFunc f first dF) ev=some d):gv E ρ lam w ⟨dst,.makeFunc f first dF,type,jj,after,guard⟩ e (if d.c=true then d.x else d.y):=by
 cases f with
 |func f=>
  simp only[ba] at h;split at h
  ·rename_i hf;split at h
   ·rename_i cs hc;simp only[Option.some.injEq] at h;subst h;have h1:first= #[]:=by apply Array.ext';simpa using hf
    refine⟨.func (.func f) #[] (dF.map e),by simp [execOp,Instr.makeFunc,h1],.v (.Jf ?_)⟩;simpa using cX.vs hc
   ·cases h
  ·rename_i x l hf hcap;split at h
   ·rename_i cs hc;simp only[Option.some.injEq] at h;subst h;have h1:dF= #[]:=by apply Array.ext';simpa using hcap
    refine⟨.func (.func f) (first.map e) #[],by simp [execOp,Instr.makeFunc,h1],.v (.QV ?_)⟩;rw[Array.toList_map,hf];exact cX.vs hc
   ·cases h
  ·cases h
 |_=>simp [ba] at h
theorem C5 {x:Operand} {i:Nat} (cX:pI ρ lam ev e) (h:ba E (.extract x i) ev=some d):gv E ρ lam w ⟨dst,.extract x i,type,jj,after,guard⟩ e (if d.c=true then d.x else d.y):=by
 simp only[ba] at h;split at h
 ·rename_i vs hx;split at h
  ·rename_i v hv;simp only[Option.some.injEq] at h;subst h;obtain⟨vs',he,hvs⟩:=(cX.v hx).K9
   have hlt:i<vs.length:=by
    rcases Nat.lt_or_ge i vs.length with h|h
    ·exact h
    ·rw[List.getElem?_eq_none h] at hv;cases hv
   have hlt':i<vs'.size:=by have:=hvs.1;simp at this;omega
   refine⟨vs'[i],by simp [execOp,Instr.extract,he,Array.getElem?_eq_getElem hlt'],.v (hvs.2 i _ _ hv ?_)⟩;simp [Array.getElem?_eq_getElem hlt']
  ·cases h
 ·cases h
theorem xi {x:Operand} {xt t:TypeId} {ok:Bool} (cX:pI ρ lam ev e) (h:ba E (.typeAssert x xt t ok) ev=some d) (hr:d.rq=true):gv E ρ lam w ⟨dst,.typeAssert x xt t ok,type,jj,after,guard⟩ e (if d.c=true then d.x else d.y):=by
 simp only[ba] at h;split at h
 ·rename_i v ti hx m9;obtain⟨dh,dt,hi,hu,hd,_,_,hz⟩:=jN m9;split at h
  ·cases h
  ·rename_i hni;split at h
   ·rename_i r y z hy KU;rw[KU] at hz;obtain⟨z',EA,xY⟩:=Option.bind_eq_some_iff.1 hz;have hzero:(zeroValue t).run E.P w=.ok z' w:=by simp [zeroValue,typeInfo,hi,EA]
    have hint:∀ms,dt≠ .interface ms:=by
     rintro ms rfl;exact hni (by rw[←hd];rfl)
    have hv:=cX.v hx
    have key:v.ax .iface=true→(v.fA=true∧v=.nilIface)∨∃t' u,v=.iface t' u:=by
     intro hk;cases v<;>simp_all [V.ax,V.fA]
    cases ok with
    |true=>
     simp only[Option.some.injEq] at h;subst h;simp only[Bool.and_eq_true,Bool.or_eq_true,Bool.not_eq_true'] at hr;rcases key hr.1 with⟨_,rfl⟩|⟨t',u,rfl⟩
     ·have he:e x=.nilIface:=by generalize e x=q at hv;cases hv;rfl
      refine⟨.tuple #[z',.bool false], ?_, ?_⟩
      ·cases dt<;>first|(exact(hint _ rfl).elim)|simp [execOp,Instr.typeAssert,run_underlying hu,he,hzero]
      ·simp only[V.fA,Bool.not_true,Bool.false_and,Bool.false_eq_true,if_false];exact .v (.gE (.cons (iA xY) (.cons (.bool _) (.nil ρ))))
     ·obtain⟨u',he,hu'⟩:∃u',e x=.iface t' u'∧VR ρ u u':=by generalize e x=q at hv;cases hv with|iface _ h=>exact⟨_,rfl,h⟩
      by_cases ht:t'=t
      ·subst ht;have xC:r=true:=by simpa [V.fA,V.CE,Nat.beq_refl] using hr.2
       have:=lG hy xC;refine⟨.tuple #[u',.bool true], ?_, ?_⟩
       ·cases dt<;>first|(exact(hint _ rfl).elim)|simp [execOp,Instr.typeAssert,run_underlying hu,he]
       ·simp only[V.fA,V.CE,Nat.beq_refl,Bool.not_false,Bool.true_and,if_true,this,V.M9];exact .v (.gE (.cons hu' (.cons (.bool _) (.nil ρ))))
      ·have hb:Nat.beq t' t=false:=by rw[aX];simpa using ht
       refine⟨.tuple #[z',.bool false], ?_, ?_⟩
       ·cases dt<;>first|(exact(hint _ rfl).elim)|simp [execOp,Instr.typeAssert,run_underlying hu,he,ht,hzero]
       ·simp only[V.fA,V.CE,hb,Bool.and_false,Bool.false_eq_true,if_false];exact .v (.gE (.cons (iA xY) (.cons (.bool _) (.nil ρ))))
    |false=>
     simp only[Option.some.injEq] at h;subst h;simp only[fR.one,Bool.and_eq_true,Bool.not_eq_true'] at hr;rcases key hr.1.1 with⟨h1,rfl⟩|⟨t',u,rfl⟩
     ·rw[hr.1.2.1] at h1;cases h1
     ·obtain⟨u',he,hu'⟩:∃u',e x=.iface t' u'∧VR ρ u u':=by generalize e x=q at hv;cases hv with|iface _ h=>exact⟨_,rfl,h⟩
      have ht:t'=t:=Nat.eq_of_beq_eq_true hr.1.2.2;subst ht;have:=lG hy hr.2;refine⟨u', ?_, ?_⟩
      ·cases dt<;>first|(exact(hint _ rfl).elim)|simp [execOp,Instr.typeAssert,run_underlying hu,he]
      ·simp only[fR.one,if_true,this,V.M9];exact .v hu'
   ·cases h
 ·cases h
theorem Lf {c:Call} (cX:pI ρ lam ev e) (h:ba E (.call c) ev=some d):gv E ρ lam w ⟨dst,.call c,type,jj,after,guard⟩ e (if d.c=true then d.x else d.y):=by
 simp only[ba] at h;split at h
 ·rename_i b hb;split at h
  ·rename_i vs t hvs ht0;have ht:c.argTypes[0]? =some t:=by simpa using ht0
   have GZ:=cX.vs hvs;obtain⟨aS,has⟩:∃aS,c.args.toList.map e=aS:=⟨_,rfl⟩;rw[has] at GZ;have hargs:c.args.map e=aS.toArray:=by apply Array.ext';simp [has]
   have hrun:∀v,(∀con,(builtin b c.argTypes type con aS.toArray).run E.P w=.ok (.value v) w)→(execOp e ⟨dst,.call c,type,jj,after,guard⟩).run E.P w=.ok (.value v) w:=by
    intro v hv;simp [execOp,resolve,hb,invoke,hargs,hv]
   unfold ET at h;split at h
   ·split at h
    ·rename_i s _ hk;obtain⟨dt,hu,hd⟩:=bM hk;simp only[Option.some.injEq] at h;subst h;obtain⟨y,m,rfl,h1,h2⟩:=GZ.df;have:=h2.gu;subst this;cases dt<;>simp [bq,cO] at hd
     exact⟨.int .i64 (s.size:Int),hrun _ fun con=>by simp [builtin,Builtin.len_,ht,run_underlying hu,h1.vx,goInt],.v (.int _ _)⟩
    ·cases h
   ·split at h
    ·rename_i p n cp _ hk;obtain⟨dt,hu,hd⟩:=bM hk;simp only[Option.some.injEq] at h;subst h;obtain⟨y,m,rfl,h1,h2⟩:=GZ.df;have:=h2.gu;subst this;obtain⟨a,rfl,_⟩:=oy h1;cases dt<;>simp [bq,cO] at hd
     exact⟨.int .i64 (n:Int),hrun _ fun con=>by simp [builtin,Builtin.len_,ht,run_underlying hu,goInt],.v (.int _ _)⟩
    ·cases h
   ·split at h
    ·rename_i p n cp _ hk;obtain⟨dt,hu,hd⟩:=bM hk;simp only[Option.some.injEq] at h;subst h;obtain⟨y,m,rfl,h1,h2⟩:=GZ.df;have:=h2.gu;subst this;obtain⟨a,rfl,_⟩:=oy h1;cases dt<;>simp [bq,cO] at hd
     exact⟨.int .i64 (cp:Int),hrun _ fun con=>by simp [builtin,Builtin.cap_,ht,run_underlying hu,goInt],.v (.int _ _)⟩
    ·cases h
   ·split at h
    ·rename_i v hv;simp only[Option.some.injEq] at h;subst h;unfold xG at hv;split at hv
     ·simp only[Option.some.injEq] at hv;subst hv;obtain⟨y,m,rfl,h1,h2⟩:=GZ.df;have:=h2.gu;subst this;exact⟨y,hrun _ fun con=>by simp [builtin,Builtin.min_],.v h1⟩
     ·rename_i k x k' y;by_cases hk:k=k'
      ·simp only[hk,nf,decide_true,cond_true,cond_false,Option.some.injEq] at hv;subst hv;obtain⟨p,m,rfl,h1,h2⟩:=GZ.df;obtain⟨q,m,rfl,h3,h4⟩:=h2.df;have:=h4.gu;subst this;refine⟨.int k' (if y<x then y else x),hrun _ fun con=>by simp [builtin,Builtin.min_,h1.iu,h3.iu,Builtin.min2,hk],.v ?_⟩;rw[C3];simpa using VR.int k' _
      ·simp [hk] at hv
     ·cases hv
    ·cases h
   ·split at h
    ·rename_i v hv;simp only[Option.some.injEq] at h;subst h;unfold xG at hv;split at hv
     ·simp only[Option.some.injEq] at hv;subst hv;obtain⟨y,m,rfl,h1,h2⟩:=GZ.df;have:=h2.gu;subst this;exact⟨y,hrun _ fun con=>by simp [builtin,Builtin.max_],.v h1⟩
     ·rename_i k x k' y;by_cases hk:k=k'
      ·simp only[hk,nf,decide_true,cond_true,Option.some.injEq] at hv;subst hv;obtain⟨p,m,rfl,h1,h2⟩:=GZ.df;obtain⟨q,m,rfl,h3,h4⟩:=h2.df;have:=h4.gu;subst this;refine⟨.int k' (if y>x then y else x),hrun _ fun con=>by simp [builtin,Builtin.max_,h1.iu,h3.iu,Builtin.max2,hk],.v ?_⟩;rw[C3];simpa using VR.int k' _
      ·simp [hk] at hv
     ·cases hv
    ·cases h
   ·cases h
  ·cases h
 ·cases h
end
def iR:List Value→Nat→List Value→List Value
 |cs,_,[]=>cs
 |cs,off,v::vs=>iR (cs.set off v) (off+1) vs
theorem pJ {ρ:dC}:∀{vs:List V} {us:List Value} {cs:List V} {cs':List Value} {off:Nat},eT ρ vs us→eT ρ cs cs'→eT ρ (bI cs off vs) (iR cs' off us)
 |[],us,cs,cs',off,h,hc=>by rw[h.gu];exact hc
 |v::vs,us,cs,cs',off,h,hc=>by
  obtain⟨u,m,rfl,h1,h2⟩:=h.df;have:=pJ (off:=off+1) h2 (Fb (off:=off) h1 hc);exact this
theorem oZ:∀(us:List Value) (cs:List Value) (off:Nat),(iR cs off us).length=cs.length
 |[],_,_=>rfl
 |u::us,cs,off=>by rw[iR,oZ us];simp
theorem Bn (off:Nat):∀(us:List Value) (k:Nat) (cells:Array Value),((us.zipIdx k).foldl (fun(cs:Array Value) (p:Value×Nat)=>cs.setIfInBounds (off+p.2) p.1) cells).toList=iR cells.toList (off+k) us
 |[],_,_=>rfl
 |u::us,k,cells=>by
  rw[List.zipIdx_cons,List.foldl_cons,Bn off us (k+1),iR];simp [Nat.add_assoc]
theorem HB (off:Nat) (us cells:Array Value):(us.zipIdx.foldl (fun(cs:Array Value) (p:Value×Nat)=>cs.setIfInBounds (off+p.2) p.1) cells).toList=iR cells.toList off us.toList:=by
 rw[←Array.foldl_toList];have:=Bn off us.toList 0 cells;simpa using this
section
variable {E:kv} {ρ lam:dC} {w:World}
theorem Fi {v:V} (hv:v.one=true):∀{cs:List V} {j n:Nat},bd cs→bd (x7 cs j n v)
 |[],_,_,h=>h
 |c::cs,j,n,h=>by
  intro x hx;rw[x7,ng] at hx;rcases List.mem_cons.1 hx with rfl|hx
  ·split
   ·exact hv
   ·exact h c (List.mem_cons_self ..)
  ·exact Fi hv (fun y hy=>h y (List.mem_cons_of_mem _ hy)) x hx
theorem mz:∀{vs cs:List V} {off:Nat},bd vs→bd cs→bd (bI cs off vs)
 |[],_,_,_,h=>h
 |v::vs,cs,off,hv,h=>by
  have:=mz (vs:=vs) (off:=off+1) (fun y hy=>hv y (List.mem_cons_of_mem _ hy)) (Fi (n:=off) (j:=0) (hv v (List.mem_cons_self ..)) h);exact this
theorem iS {t:TypeId} {v:V} {x:Value} {r:Bool} {vs:List V} (hv:VR ρ v x) (h:hJ E t v=some (r,vs)) (hr:r=true):eT ρ vs x.cells.toList∧bd vs:=by
 unfold hJ at h;split at h
 ·cases h
 ·rename_i n hn;split at h
  ·rename_i k hk;cases hb:Nat.beq n 1
   ·simp [hb] at h
   ·simp only[hb,cond_true,Option.some.injEq,Prod.mk.injEq] at h;obtain⟨h1,rfl⟩:=h;have h1:=V.sd (h1.trans hr);have h2:v.cells=[v]:=by cases v<;>first|rfl|simp [V.one] at h1
    refine⟨h2▸hv.cells (fun e=>by rw[e] at h1;cases h1),fun c hc=> ?_⟩;simp only[List.mem_singleton] at hc;subst hc;exact h1
  ·split at h
   ·split at h
    ·simp only[Option.some.injEq,Prod.mk.injEq] at h;obtain⟨h1,rfl⟩:=h;obtain⟨cs',rfl,h2,h3⟩:=hv.oq;exact⟨h2,h3⟩
    ·cases h
   ·cases h
theorem AG {t:TypeId} {v:V} {r:Bool} {vs:List V} (h:hJ E t v=some (r,vs)) (hr:r=true):size E t=some vs.length:=by
 unfold hJ at h;split at h
 ·cases h
 ·rename_i n hn;rw[hn];split at h
  ·cases hb:Nat.beq n 1
   ·simp [hb] at h
   ·simp only[hb,cond_true,Option.some.injEq,Prod.mk.injEq] at h;rw[←h.2,Nat.eq_of_beq_eq_true hb];rfl
  ·split at h
   ·split at h
    ·simp only[Option.some.injEq,Prod.mk.injEq] at h;rw[←h.2,Nat.eq_of_beq_eq_true (h.1.trans hr)]
    ·cases h
   ·cases h
theorem oz {place:Nat→Option (Nat×TypeId)} {place':Nat→Oq} (aau:∀i off t n,place i=some (off,t)→size E t=some n→place' i=some (off,n)):∀{ps:List (Nat×V)} {ps':List (Nat×Value)} {cs out:List V} {cs':Array Value} {r:Bool},ps.map (·.1)=ps'.map (·.1)→eT ρ (ps.map (·.2)) (ps'.map (·.2))→eT ρ cs cs'.toList→bd cs→qC E place cs ps=some (r,out)→r=true→∃out',Instr.fill place' cs' ps'=some out'∧eT ρ out out'.toList∧bd out
 |[],ps',cs,out,cs',r,h1,h2,hc,ho,h,hr=>by
  cases ps' with
  |nil=>simp only[qC,Option.some.injEq,Prod.mk.injEq] at h;obtain⟨_,rfl⟩:=h;exact⟨cs',rfl,hc,ho⟩
  |cons p l=>simp at h1
 |(i,v)::ps,ps',cs,out,cs',r,h1,h2,hc,ho,h,hr=>by
  cases ps' with
  |nil=>simp at h1
  |cons p l=>
   obtain⟨j,u⟩:=p;simp only[List.map_cons,List.cons.injEq] at h1 h2;obtain⟨rfl,h1⟩:=h1;obtain⟨u',m,he,hu,hm⟩:=h2.df;simp only[List.cons.injEq] at he;obtain⟨rfl,rfl⟩:=he;simp only[qC] at h;split at h
   ·cases h
   ·rename_i off t Ag;split at h
    ·rename_i r1 vs n Wr hsz;cases hb:(Nat.beq vs.length n&&Nat.ble (off+n) cs.length)
     ·simp [hb] at h
     ·simp only[hb,cond_true] at h;split at h
      ·rename_i r2 cs2 nX;simp only[Option.some.injEq,Prod.mk.injEq] at h;obtain⟨Cx,rfl⟩:=h;rw[hr,Bool.and_eq_true] at Cx;rw[Bool.and_eq_true] at hb;have Ah:vs.length=n:=Nat.eq_of_beq_eq_true hb.1;have m7:off+n≤cs.length:=Nat.le_of_ble_eq_true hb.2;obtain⟨hvs,hone⟩:=iS hu Wr Cx.1;have ry:u.cells.size=n:=by have:=hvs.1;simp at this;omega
       have hcs:cs'.size=cs.length:=by have:=hc.1;simp at this;omega
       obtain⟨out',h3,h4,h5⟩:=oz aau (cs':=u.cells.zipIdx.foldl (fun(cs:Array Value) (p:Value×Nat)=>cs.setIfInBounds (off+p.2) p.1) cs') h1 hm
        (by rw[HB];exact pJ hvs hc) (mz hone ho) nX Cx.2
       refine⟨out', ?_,h4,h5⟩;simp only[Instr.fill,aau _ _ _ _ Ag hsz];rw[if_neg (by simp [ry,hcs];omega)];exact h3
      ·cases h
    ·cases h
theorem mS {ev:Ev} {e:Operand→Value} (cX:pI ρ lam ev e):∀{l:List (Nat×Operand)} {ps:List (Nat×V)},kM ev l=some ps→ps.map (·.1)=(l.map fun p=>(p.1,e p.2)).map (·.1)∧eT ρ (ps.map (·.2)) ((l.map fun p=>(p.1,e p.2)).map (·.2))
 |[],ps,h=>by simp only[kM,Option.some.injEq] at h;subst h;exact⟨rfl,.nil ρ⟩
 |(i,x)::l,ps,h=>by
  simp only[kM] at h;split at h
  ·rename_i y m hy hm;simp only[Option.some.injEq] at h;subst h;obtain⟨h1,h2⟩:=mS cX hm;exact⟨by simp [h1],.cons (cX.v hy) h2⟩
  ·cases h
theorem wI {w:World}:∀{l:List Field},tJ E (l.map fun f=>(f.offset,f.type))=true→(l.mapM fun f=>(do pure (f.offset, ←sizeOf f.type):Sem (Nat×Nat))).run E.P w=.ok (l.map fun f=>(f.offset,(size E f.type).getD 0)) w
 |[],h=>by simp
 |f::l,h=>by
  simp only[List.map_cons,tJ,Bool.and_eq_true] at h;obtain⟨n,hn⟩:=Option.isSome_iff_exists.1 h.1;have ih:=wI (w:=w) h.2;simp only[List.mapM_cons,Sem.run_bind,fl hn,Result.andThen_ok,Sem.run_pure,ih,hn,List.map_cons,Option.getD_some]
variable {dst:Option Tmp} {type:TypeId} {jj:String} {after:Array Edge} {guard:Option (Nat×Bool)} {ev:Ev} {e:Operand→Value} {d:fR T}
theorem HC {t:TypeId} {parts:Array (Nat×Operand)} (cX:pI ρ lam ev e) (h:ba E (.build t parts) ev=some d) (hr:d.rq=true):gv E ρ lam w ⟨dst,.build t parts,type,jj,after,guard⟩ e (if d.c=true then d.x else d.y):=by
 simp only[ba] at h;split at h
 ·rename_i ti pl ps m9 Ag hps;obtain⟨dh,dt,hi,hu,hd,_,_,hz⟩:=jN m9;split at h
  ·rename_i z KU;rw[KU] at hz;obtain⟨z',EA,xY⟩:=Option.bind_eq_some_iff.1 hz;have hzero:(zeroValue t).run E.P w=.ok z' w:=by simp [zeroValue,typeInfo,hi,EA]
   obtain⟨zc,rfl,MI,aav⟩:=(iA (ρ:=ρ) xY).oq;split at h
   ·rename_i r cs hcs;simp only[Option.some.injEq] at h;subst h;obtain⟨h1,h2⟩:=mS cX hps;have EB:(parts.map fun p=>(p.1,e p.2)).toList=parts.toList.map fun p=>(p.1,e p.2):=by simp
    unfold EU at Ag;rw[m9] at Ag;simp only[] at Ag;split at Ag
    ·rename_i fs hs;rw[hs] at hd;obtain⟨f,rfl,rfl⟩:=Fe hd;cases hok:tJ E (f.toList.map fun f=>(f.offset,f.type))
     ·simp [hok] at Ag
     ·simp only[hok,cond_true,Option.some.injEq] at Ag;subst Ag
      obtain⟨out',h3,h4,h5⟩:=oz (place':=fun j=>(f.toList.map fun f=>(f.offset,(size E f.type).getD 0))[j]?) (by
       intro i off t n hp hn;simp only[List.getElem?_map,Option.map_eq_some_iff,Prod.mk.injEq] at hp⊢;obtain⟨fd,h1,h2,h3⟩:=hp
       exact⟨fd,h1,h2,by rw[h3,hn];rfl⟩) h1 h2 MI aav hcs hr
      refine⟨.agg out', ?_,.v (.vv h5 h4)⟩;have hm:=wI (E:=E) (w:=w) hok
      have hm':(f.mapM fun f=>(do pure (f.offset, ←sizeOf f.type):Sem (Nat×Nat))).run E.P w=.ok (f.toList.map fun f=>(f.offset,(size E f.type).getD 0)).toArray w:=by
       rw[←Array.toArray_toList (xs:=f),List.mapM_toArray];simp only[Sem.run_map,hm,Result.andThen_ok]
      have TG:Instr.fill (fun x=>(f.toList.map fun f=>(f.offset,(size E f.type).getD 0)).toArray[x]?) zc (parts.map fun p=>(p.1,e p.2)).toList=some out':=by
       rw[EB, ←h3];congr 1;funext x;simp
      simp only[Instr.build,execOp,Sem.run_bind,hzero,Result.andThen_ok,run_underlying hu,hm',Value.cells];simp only[TG,Sem.run_pure,Result.andThen_ok]
    ·rename_i n el hs;rw[hs] at hd;cases tX hd;split at Ag
     ·rename_i sz hsz;simp only[Option.some.injEq] at Ag;subst Ag
      obtain⟨out',h3,h4,h5⟩:=oz (place':=fun j=>some (j*sz,sz)) (by
       intro i off t n hp hn;simp only[Option.some.injEq,Prod.mk.injEq] at hp⊢;obtain⟨h1,rfl⟩:=hp;rw[hsz] at hn
       exact⟨h1,Option.some.inj hn⟩) h1 h2 MI aav hcs hr
      refine⟨.agg out', ?_,.v (.vv h5 h4)⟩;rw[←EB] at h3;simp only[Instr.build,execOp,Sem.run_bind,hzero,Result.andThen_ok,run_underlying hu,fl hsz,Value.cells];simp only[h3,Sem.run_pure,Result.andThen_ok]
     ·cases Ag
    ·cases Ag
   ·cases h
  ·cases h
 ·cases h
theorem C6 {o:Oper} (cX:pI ρ lam ev e) (h:ba E o.op ev=some d) (hr:d.rq=true):∃v,(execOp e o).run E.P w=.ok (.value v) w∧TR ρ lam (if d.c=true then d.x else d.y) v:=by
 obtain⟨dst,op,type,jj,after,guard⟩:=o
 cases op with
 |move x=>exact Ld cX h
 |assign x=>exact Fg cX h
 |pick c a b=>exact Le cX h
 |binOp op t x y yt=>exact Nt cX h hr
 |unOp op t x=>exact QZ cX h
 |convert s t x=>exact C4 cX h
 |nilCheck x=>exact AE cX h hr
 |fieldAddr t x f=>exact yA cX h
 |field t x f=>exact Hy cX h hr
 |indexAddr t x i=>exact yB cX h hr
 |index t x i=>exact Hz cX h hr
 |slice t x lo hi mx=>exact HA cX h hr
 |makeInterface t x=>exact sB cX h
 |makeFunc f first dF=>exact AF cX h
 |extract x i=>exact C5 cX h
 |build t parts=>exact HC cX h hr
 |typeAssert x xt t ok=>exact xi cX h hr
 |call c=>exact Lf cX h
 |_=>simp [ba] at h
end
theorem gf:∀{ks:List cq} {cs:List V},aI ks cs=true→bd cs
 |[],[],_=>fun v hv=>by cases hv
 |k::ks,v::vs,h=>by
  simp only[aI,Bool.and_eq_true] at h;intro x hx;rcases List.mem_cons.1 hx with rfl|hx
  ·exact V.sd h.1
  ·exact gf h.2 x hx
 |[],_::_,h=>by cases h
 |_::_,[],h=>by cases h
structure pe (b:Nat) (w w':World):Prop where
 mr:∀b',b'≠b→w'.heap[b']? =w.heap[b']?
 size:w'.heap.size=w.heap.size
 os:w'.os=w.os
 tape:w'.tape=w.tape
 output:w'.output=w.output
theorem pe.refl (b:Nat) (w:World):pe b w w:=⟨fun _ _=>rfl,rfl,rfl,rfl,rfl⟩
theorem pe.trans {b:Nat} {x y z:World} (h:pe b x y) (k:pe b y z):pe b x z:=
 ⟨fun b' hb=>(k.mr b' hb).trans (h.mr b' hb),k.size.trans h.size,k.os.trans h.os,k.tape.trans h.tape,k.output.trans h.output⟩
theorem C7 (w:World) (b o:Nat) (v:Value):pe b w (w.setCell ⟨b,o,none⟩ v) where
 mr:=fun b' hb=>by simp only[World.setCell,Array.getElem?_modify];rw[if_neg (fun e=>hb e.symm)]
 size:=by simp [World.setCell]
 os:=rfl
 tape:=rfl
 output:=rfl
theorem C8 {w:World} {b:Nat} {cs:Array Value} {e:TypeId} {fz:Nat×Nat} (h:w.heap[b]? =some (.cells cs e fz)) (o:Nat) (v:Value):(w.setCell ⟨b,o,none⟩ v).heap[b]? =some (.cells (cs.setIfInBounds o v) e fz):=by
 simp [World.setCell,Array.getElem?_modify,h]
theorem rU:∀(vs:List Value) {w:World} {b:Nat} {cs:Array Value} {e:TypeId} {fz:Nat×Nat} (o:Nat),w.heap[b]? =some (.cells cs e fz)→∃cs',(w.setCells b o vs).heap[b]? =some (.cells cs' e fz)∧cs'.toList=iR cs.toList o vs∧pe b w (w.setCells b o vs)
 |[],w,b,cs,e,fz,o,h=>⟨cs,h,rfl,.refl b w⟩
 |v::vs,w,b,cs,e,fz,o,h=>by
  obtain⟨cs',h1,h2,h3⟩:=rU vs (o+1) (C8 h o v);refine⟨cs',h1, ?_,(C7 w b o v).trans h3⟩;rw[h2,iR];simp
theorem qJ {w:World} {b:Nat} {cs:Array Value} {e:TypeId} {fz:Nat×Nat} (h:w.heap[b]? =some (.cells cs e fz)) (o:Nat):w.cell? ⟨b,o,none⟩=cs[o]? :=by
 simp [World.cell?,h]
theorem Lg {w:World} {b:Nat} {cs:Array Value} {e:TypeId} {fz:Nat×Nat} (h:w.heap[b]? =some (.cells cs e fz)) (o:Nat):w.frozen? ⟨b,o,none⟩=(decide (fz.1≤o)&&decide (o<fz.2)):=by
 simp [World.frozen?,h]
section
variable {E:kv} {ρ lam:dC} {w:World}
theorem sC {P:Program} {t:TypeId} {d:TypeDesc} (hu:P.underlying t=some d) (ha:iK d=false) {a:Addr} {x:Value} (h:w.cell? a=some x):(loadVar t a).run P w=.ok x w:=by
 simp [loadVar,jy hu,ha,h]
theorem oA {t e:TypeId} {cs:List V} {off b:Nat} {r rw:Bool} {v:V} (hc:fT ρ e cs rw w.heap[b]?) (h:mL E t cs off=some (r,v)) (hr:r=true) (ho:∀cs',v=.agg cs'→rw=true∨bd cs'):∃v',(loadVar t ⟨b,off,none⟩).run E.P w=.ok v' w∧VR ρ v v':=by
 obtain⟨cs',fz,hb,hvs,hone,_⟩:=hc;unfold mL at h;split at h
 ·rename_i k hk;obtain⟨d,dh,hu,hi,_,ha⟩:=vB hk;simp only[Option.some.injEq,Prod.mk.injEq] at h;have xB:=h.1.trans hr;rw[Bool.and_eq_true] at xB;have hlt:off<cs.length:=by simpa using xB.1
  obtain⟨y,hy,hv⟩:=hvs.nth hlt;exact⟨y,sC hu ha (by rw[qJ hb];simpa using hy),by rw[←h.2,V.sb xB.2];exact hv⟩
 ·split at h
  ·rename_i ks n hks hn;obtain⟨d,dh,z,hu,hi,ha,_⟩:=yr hks;simp only[Option.some.injEq,Prod.mk.injEq] at h;have hle:off+n≤cs.length:=Nat.le_of_ble_eq_true (h.1.trans hr);have hlen:cs'.size=cs.length:=by have:=hvs.1;simp at this;omega
   have hrun:=run_loadCells_list (P:=E.P) w ⟨b,off,none⟩ ((cs'.toList.drop off).take n) (by
    intro j v hv;rw[gb,qJ hb];rw[List.getElem?_take] at hv;split at hv
    ·rw[List.getElem?_drop] at hv;simpa using hv
    ·cases hv)
   have hl:((cs'.toList.drop off).take n).length=n:=by simp;omega
   rw[hl] at hrun;refine⟨.agg ((cs'.toList.drop off).take n).toArray,by simp [loadVar,jy hu,ha,fl hn,hrun], ?_⟩;rw[←h.2];have hp:bd ((cs.drop off).take n):=(ho _ h.2.symm).elim (fun hrw c hc=>hone hrw c (List.mem_of_mem_drop (List.mem_of_mem_take hc))) id;exact .vv hp (by simpa using (hvs.drop off).take n)
  ·cases h
theorem eT.aa2 {l:List V} {m:List Value} (h:eT ρ l m) (h1:bd l):∀v∈m,v.oneCell'=true:=by
 intro v hv;obtain⟨i,hi,rfl⟩:=List.getElem_of_mem hv;have hi':i<l.length:=by have:=h.1;omega
 exact(h.2 i l[i] m[i] (List.getElem?_eq_getElem hi') (List.getElem?_eq_getElem hi)).one (h1 _ (List.getElem_mem hi'))
theorem mA {e:TypeId} {cs vs:List V} {xs:List Value} {off b:Nat} (hc:fT ρ e cs true w.heap[b]?) (h1:eT ρ vs xs) (h2:bd vs) (hle:off+vs.length≤cs.length):∃w',(storeCells ⟨b,off,none⟩ xs).run E.P w=.ok () w'∧fT ρ e (bI cs off vs) true w'.heap[b]? ∧pe b w w':=by
 obtain⟨cs',fz,hb,hvs,hone,hfz⟩:=hc;have hlen:cs'.size=cs.length:=by have:=hvs.1;simp at this;omega
 have hxl:xs.length=vs.length:=h1.1.symm
 have hst:=run_storeCells_cells (P:=E.P) b off xs 0 w (by
  intro j hj
  rw[qJ hb,Array.getElem?_eq_getElem (by omega)];rfl) (by
  intro j hj;rw[Lg hb];have:=hfz rfl;simp only[Bool.and_eq_false_iff,decide_eq_false_iff_not]
  omega) (h1.aa2 h2)
 obtain⟨cs2,h3,h4,h5⟩:=rU xs (off+0) hb;refine⟨_, ?_,⟨cs2,fz,h3, ?_,fun _=>mz h2 (hone rfl), ?_⟩,h5⟩
 ·simpa using hst
 ·rw[h4];exact pJ h1 hvs
 ·intro _
  have hsz:cs2.size=cs'.size:=by
   have:=congrArg List.length h4;rw[oZ] at this;simpa using this
  rw[hsz];exact hfz rfl
theorem wJ {t e:TypeId} {cs:List V} {off b:Nat} {r:Bool} {v:V} {x:Value} {vs:List V} (hc:fT ρ e cs true w.heap[b]?) (hv:VR ρ v x) (h:hJ E t v=some (r,vs)) (hr:r=true) (hle:off+vs.length≤cs.length):∃w',(storeVar t ⟨b,off,none⟩ x).run E.P w=.ok () w'∧fT ρ e (bI cs off vs) true w'.heap[b]? ∧pe b w w':=by
 obtain⟨h1,h2⟩:=iS hv h hr;have hn:=AG h hr;have hxl:x.cells.size=vs.length:=by have:=h1.1;simp at this;omega
 obtain⟨w',h3,h4,h5⟩:=mA (E:=E) hc h1 h2 hle;exact⟨w',by simp [storeVar,fl hn,hxl,h3],h4,h5⟩
end
section
variable {E:kv} {H0:ag} {ρ0:dC} {w0:World} {ann:bQ} {N:Nat} {ρ lam:dC} {S:St} {a:Act} {w:World}
theorem Nu {t d:Nat} {v:Value} (a:Act):(a.put (some d) v).tmps.getD t undef=if d=t∧d<a.tmps.size then v else a.tmps.getD t undef:=by
 simp only[Act.put,Array.getD_eq_getD_getElem?,Array.getElem?_setIfInBounds];by_cases h:d=t
 ·subst h;by_cases h2:d<a.tmps.size
  ·simp [h2]
  ·simp [h2]
 ·simp [h]
theorem SR.put (h:SR H0 ρ0 w0 ann N ρ lam S a w) {dst:Option Tmp} {x:T} {v:Value} (hx:TR ρ lam x v) (hok:K6 ann N dst x):SR H0 ρ0 w0 ann N ρ lam (gU dst x S) (a.put dst v) w:=by
 cases dst with
 |none=>exact h
 |some d=>
  obtain⟨h1,h2⟩:=hok d rfl;have hd:d<a.tmps.size:=by rw[h.size];simpa using h1
  refine⟨h.defers,by simp [Act.put,h.size], ?_, ?_,h.lo,h.tU,h.hr,h.bW⟩
  ·intro t y hy;rw[Nu];simp only[gU,St.setT,aX] at hy;by_cases ht:t=d
   ·simp only[ht,decide_true,cond_true,Option.some.injEq] at hy;subst hy;rw[if_pos ⟨ht.symm,hd⟩];exact hx
   ·simp only[ht,decide_false,cond_false] at hy;rw[if_neg (fun e=>ht e.1.symm)];exact h.tm t y hy
  ·intro t s off hy;simp only[gU,St.setT,aX] at hy;by_cases ht:t=d
   ·simp only[ht,decide_true,cond_true,Option.some.injEq] at hy;rw[ht];exact h2 s off hy
   ·simp only[ht,decide_false,cond_false] at hy;exact h.La t s off hy
theorem HR.only {b:Nat} {w':World} {H:ag} (h:HR ρ H w) (ho:pe b w w') (hb:¬iQ H ρ b):HR ρ H w' where
 wH:=fun id o hid=>by
  obtain⟨b',h1,h2⟩:=h.wH id o hid;refine⟨b',h1, ?_⟩;rw[ho.mr b' (fun e=>hb (e▸⟨id,o,hid,h1⟩))];exact h2
 inj:=h.inj
 lt:=fun id b' hid=>by rw[ho.size];exact h.lt id b' hid
 gl:=h.gl
theorem SR.setL (h:SR H0 ρ0 w0 ann N ρ lam S a w) {s b:Nat} {L L':aU} {w':World} (hs:S.lo s=some L) (hl:lam s=some b) (ho:pe b w w') (hL:vz ρ L' w'.heap[b]?):SR H0 ρ0 w0 ann N ρ lam (S.setL s L') a w':=by
 obtain⟨b',hb',_,hlt,hge,Qb⟩:=h.lo s L hs;rw[hl] at hb';cases hb';refine⟨h.defers,h.size,h.tm,h.La, ?_, ?_,h.hr.only ho Qb, ?_⟩
 ·intro s' M hM;simp only[St.setL,aX] at hM;by_cases he:s'=s
  ·simp only[he,decide_true,cond_true,Option.some.injEq] at hM;subst hM;exact⟨b,by rw[he];exact hl,hL,by rw[ho.size];exact hlt,hge,Qb⟩
  ·simp only[he,decide_false,cond_false] at hM;obtain⟨b2,h1,h2,h3,h4,h5⟩:=h.lo s' M hM;have hne:b2≠b:=fun e=>he (h.tU s' s M L b hM hs (e▸h1) hl)
   exact⟨b2,h1,by rw[ho.mr b2 hne];exact h2,by rw[ho.size];exact h3,h4,h5⟩
 ·intro s1 s2 L1 L2 b2 h1 h2 e1 e2
  have key:∀s3 L3,(S.setL s L').lo s3=some L3→∃M,S.lo s3=some M:=by
   intro s3 L3 h3;simp only[St.setL,aX] at h3;by_cases he:s3=s
   ·exact⟨L,he▸hs⟩
   ·simp only[he,decide_false,cond_false] at h3;exact⟨_,h3⟩
  obtain⟨M1,hM1⟩:=key _ _ h1;obtain⟨M2,hM2⟩:=key _ _ h2;exact h.tU s1 s2 M1 M2 b2 hM1 hM2 e1 e2
 ·exact⟨h.bW.le,fun b2 m7 hno=>by rw[ho.mr b2 (by omega)];exact h.bW.frame b2 m7 hno,h.bW.iQ,h.bW.ov,by rw[ho.size];exact h.bW.size,
   ho.os.trans h.bW.os,ho.tape.trans h.bW.tape,ho.output.trans h.bW.output⟩
theorem fT.mono {ρ':dC} (h:ρ.le ρ') {e:TypeId} {cs:List V} {rw:Bool} {o:Option Go.Obj} (hc:fT ρ e cs rw o):fT ρ' e cs rw o:=by
 obtain⟨cs',fz,h1,h2,h3⟩:=hc;exact⟨cs',fz,h1,h2.mono h,h3⟩
theorem vz.mono {ρ':dC} (h:ρ.le ρ') {L:aU} {o:Option Go.Obj} (hc:vz ρ L o):vz ρ' L o:=by
 cases L with
 |cells e cs=>exact fT.mono h hc
 |dN s jj=>exact hc
theorem Fa.mono {ρ':dC} (h:ρ.le ρ') {L:Obj} {o:Option Go.Obj} (hc:Fa ρ L o):Fa ρ' L o:=by
 cases L with
 |cells e cs ro=>exact fT.mono h hc
 |map es clock=>
  obtain⟨es',h1,h2⟩:=hc;exact⟨es',h1,h2.mono h⟩
 |dN m bW seen tD=>
  obtain⟨m',h1,h2⟩:=hc;exact⟨m',h1,h2.mono h⟩
theorem TR.mono {ρ':dC} (h:ρ.le ρ') {x:T} {v:Value} (hx:TR ρ lam x v):TR ρ' lam x v:=by
 cases hx with
 |v h'=>exact .v (h'.mono h)
 |lp h'=>exact .lp h'
 |undef=>exact .undef
structure iw (o:Go.Obj) (w w':World):Prop where
 heap:w'.heap=w.heap.push o
 os:w'.os=w.os
 tape:w'.tape=w.tape
 output:w'.output=w.output
theorem iw.old {o:Go.Obj} {w w':World} (h:iw o w w') {b:Nat} (hb:b<w.heap.size):w'.heap[b]? =w.heap[b]? :=by
 rw[h.heap,Array.getElem?_push,if_neg (by omega)]
theorem iw.new {o:Go.Obj} {w w':World} (h:iw o w w'):w'.heap[w.heap.size]? =some o:=by
 rw[h.heap,Array.getElem?_push,if_pos rfl]
theorem iw.size {o:Go.Obj} {w w':World} (h:iw o w w'):w'.heap.size=w.heap.size+1:=by rw[h.heap];simp
theorem HR.C9 {o:Go.Obj} {w':World} {H:ag} (h:HR ρ H w) (hp:iw o w w'):HR ρ H w' where
 wH:=fun id x hid=>by
  obtain⟨b,h1,h2⟩:=h.wH id x hid;exact⟨b,h1,by rw[hp.old (h.lt id b h1).2];exact h2⟩
 inj:=h.inj
 lt:=fun id b hid=>⟨(h.lt id b hid).1,by rw[hp.size];have:=(h.lt id b hid).2;omega⟩
 gl:=h.gl
theorem lE.C9 {o:Go.Obj} {w':World} {H:ag} (h:lE H0 ρ0 w0 H ρ w) (hp:iw o w w'):lE H0 ρ0 w0 H ρ w' where
 le:=h.le
 frame:=fun b hb ho=>by rw[hp.old (by have:=h.size;omega)];exact h.frame b hb ho
 iQ:=h.iQ
 ov:=h.ov
 size:=by rw[hp.size];have:=h.size;omega
 os:=hp.os.trans h.os
 tape:=hp.tape.trans h.tape
 output:=hp.output.trans h.output
def eE (lam:dC) (d b:Nat):dC:=fun s=>if s=d then some b else lam s
theorem Jh {d t:Nat} {x:T} (h:(sl ann d S).tm t=some x):S.tm t=some x∧ab ann.aW t≠some d:=by
 simp only[sl] at h;split at h
 ·rename_i s hs;simp only[aX] at h;by_cases he:s=d
  ·simp [he] at h
  ·simp only[he,decide_false,cond_false] at h;exact⟨h,by rw[hs];simpa using he⟩
 ·rename_i hs;exact⟨h,by rw[hs];simp⟩
theorem SR.aa3 (h:SR H0 ρ0 w0 ann N ρ lam S a w) {d:Nat} {L:aU} {o:Go.Obj} {w':World} (hp:iw o w w') (hL:vz ρ L (some o)):SR H0 ρ0 w0 ann N ρ (eE lam d w.heap.size) ((sl ann d S).setL d L) a w' where
 defers:=h.defers
 size:=h.size
 tm:=fun t x hx=>by
  obtain⟨h1,h2⟩:=Jh (S:=S) hx;have h3:=h.tm t x h1
  cases x with
  |v y=>generalize a.tmps.getD t undef=q at h3;cases h3 with|v h=>exact .v h
  |undef=>generalize a.tmps.getD t undef=q at h3;cases h3 with|undef=>exact .undef
  |lp s off=>
   have h4:=h.La t s off h1;generalize a.tmps.getD t undef=q at h3
   cases h3 with
   |lp hl=>
    have hne:¬s=d:=fun e=>h2 (by rw[←e];exact h4)
    exact .lp (by rw[eE,if_neg hne];exact hl)
 La:=fun t s off hx=>h.La t s off (Jh (S:=S) hx).1
 lo:=fun s M hM=>by
  simp only[St.setL,sl,aX] at hM;by_cases he:s=d
  ·simp only[he,decide_true,cond_true,Option.some.injEq] at hM;subst hM;refine⟨w.heap.size,by rw[eE,if_pos he],by rw[hp.new];exact hL,by rw[hp.size];omega,h.bW.size, ?_⟩;rintro⟨id,x,h1,h2⟩;have:=(h.hr.lt id _ h2).2;omega
  ·simp only[he,decide_false,cond_false] at hM;obtain⟨b,h1,h2,h3,h4,h5⟩:=h.lo s M hM;exact⟨b,by rw[eE,if_neg he];exact h1,by rw[hp.old h3];exact h2,by rw[hp.size];omega,h4,h5⟩
 tU:=by
  intro s1 s2 L1 L2 b h1 h2 e1 e2
  have key:∀s M,((sl ann d S).setL d L).lo s=some M→(s=d)∨(s≠d∧S.lo s=some M):=by
   intro s M hM;simp only[St.setL,sl,aX] at hM;by_cases he:s=d
   ·exact .inl he
   ·simp only[he,decide_false,cond_false] at hM;exact .inr ⟨he,hM⟩
  rcases key _ _ h1 with r1|⟨n1,r1⟩<;>rcases key _ _ h2 with r2|⟨n2,r2⟩
  ·rw[r1,r2]
  ·obtain⟨b2,k1,_,k3,_⟩:=h.lo s2 L2 r2;rw[eE,if_neg n2,k1] at e2;rw[eE,if_pos r1] at e1;cases e1;cases e2;omega
  ·obtain⟨b2,k1,_,k3,_⟩:=h.lo s1 L1 r1;rw[eE,if_neg n1,k1] at e1;rw[eE,if_pos r2] at e2;cases e1;cases e2;omega
  ·rw[eE,if_neg n1] at e1;rw[eE,if_neg n2] at e2;exact h.tU _ _ _ _ _ r1 r2 e1 e2
 hr:=h.hr.C9 hp
 bW:=h.bW.C9 hp
theorem Lh {H:ag} (h:HR ρ H w):ρ H.next=none:=by
 cases hn:ρ H.next with
 |none=>rfl
 |some b=>have:=(h.lt _ _ hn).1;omega
theorem Q0 {H:ag} (h:HR ρ H w) (b:Nat):ρ.le (eE ρ H.next b):=by
 intro id b' hid;rw[eE,if_neg]
 ·exact hid
 ·rintro rfl;rw[Lh h] at hid;cases hid
theorem gp {H:ag} {o o':Obj} {id:Nat} (h:(H.alloc o).get id=some o'):(id=H.next∧o'=o)∨(id≠H.next∧H.get id=some o'):=by
 simp only[ag.alloc,aX] at h;by_cases he:id=H.next
 ·simp only[he,decide_true,cond_true,Option.some.injEq] at h;exact .inl ⟨he,h.symm⟩
 ·simp only[he,decide_false,cond_false] at h;exact .inr ⟨he,h⟩
theorem SR.Da (h:SR H0 ρ0 w0 ann N ρ lam S a w) {o:Go.Obj} {x:Obj} {w':World} (hp:iw o w w') (hx:Fa ρ x (some o)):SR H0 ρ0 w0 ann N (eE ρ S.hp.next w.heap.size) lam {S with hp:=S.hp.alloc x} a w':=by
 have hle:=Q0 h.hr w.heap.size
 have old:∀{id b},id≠S.hp.next→eE ρ S.hp.next w.heap.size id=some b→ρ id=some b:=by
  intro id b hid h;rwa [eE,if_neg hid] at h
 have lv:∀b,iQ (S.hp.alloc x) (eE ρ S.hp.next w.heap.size) b→b=w.heap.size∨iQ S.hp ρ b:=by
  rintro b ⟨id,o',h1,h2⟩;rcases gp h1 with⟨rfl,rfl⟩|⟨hn,h1⟩
  ·rw[eE,if_pos rfl] at h2;exact .inl (Option.some.inj h2).symm
  ·exact .inr ⟨id,o',h1,old hn h2⟩
 have ow:∀b,ov (S.hp.alloc x) (eE ρ S.hp.next w.heap.size) b→b=w.heap.size∨ov S.hp ρ b:=by
  rintro b ⟨id,o',h1,hr,h2⟩;rcases gp h1 with⟨rfl,rfl⟩|⟨hn,h1⟩
  ·rw[eE,if_pos rfl] at h2;exact .inl (Option.some.inj h2).symm
  ·exact .inr ⟨id,o',h1,hr,old hn h2⟩
 refine⟨h.defers,h.size,fun t y hy=>(h.tm t y hy).mono hle,h.La, ?_,h.tU,⟨?_, ?_, ?_,fun g hg=>hle _ _ (h.hr.gl g hg)⟩, ?_⟩
 ·intro s M hM;obtain⟨b,h1,h2,h3,h4,h5⟩:=h.lo s M hM;refine⟨b,h1,by rw[hp.old h3];exact h2.mono hle,by rw[hp.size];omega,h4,fun hl=> ?_⟩;rcases lv b hl with rfl|hl
  ·omega
  ·exact h5 hl
 ·intro id o' hid;rcases gp hid with⟨rfl,rfl⟩|⟨hn,hid⟩
  ·exact⟨w.heap.size,by rw[eE,if_pos rfl],by rw[hp.new];exact hx.mono hle⟩
  ·obtain⟨b,h1,h2⟩:=h.hr.wH id o' hid;exact⟨b,hle _ _ h1,by rw[hp.old (h.hr.lt id b h1).2];exact h2.mono hle⟩
 ·intro id id' o1 o2 b h1 h2 hr e1 e2;rcases gp h1 with⟨r1,_⟩|⟨n1,k1⟩<;>rcases gp h2 with⟨r2,_⟩|⟨n2,k2⟩
  ·rw[r1,r2]
  ·rw[eE,if_pos r1] at e1;have:=(h.hr.lt _ _ (old n2 e2)).2;cases e1;omega
  ·rw[eE,if_pos r2] at e2;have:=(h.hr.lt _ _ (old n1 e1)).2;cases e2;omega
  ·exact h.hr.inj id id' o1 o2 b k1 k2 hr (old n1 e1) (old n2 e2)
 ·intro id b hid;by_cases hn:id=S.hp.next
  ·rw[eE,if_pos hn] at hid;cases hid;exact⟨by simp [ag.alloc,hn],by rw[hp.size];omega⟩
  ·have:=h.hr.lt _ _ (old hn hid);exact⟨by simp [ag.alloc];omega,by rw[hp.size];omega⟩
 ·have hs:=h.bW.C9 hp;refine⟨hs.le.trans hle,hs.frame,fun b hb=> ?_,fun b hb=> ?_,hs.size,hs.os,hs.tape,hs.output⟩
  ·rcases lv b hb with rfl|hb
   ·exact .inr h.bW.size
   ·exact hs.iQ b hb
  ·rcases ow b hb with rfl|hb
   ·exact .inr h.bW.size
   ·exact hs.ov b hb
theorem tY {H:ag} {o o':Obj} {i id:Nat} (h:(H.put i o).get id=some o'):(id=i∧o'=o)∨(id≠i∧H.get id=some o'):=by
 simp only[ag.put,aX] at h;by_cases he:id=i
 ·simp only[he,decide_true,cond_true,Option.some.injEq] at h;exact .inl ⟨he,h.symm⟩
 ·simp only[he,decide_false,cond_false] at h;exact .inr ⟨he,h⟩
theorem SR.Db (h:SR H0 ρ0 w0 ann N ρ lam S a w) {id b:Nat} {x y:Obj} {w':World} (hid:S.hp.get id=some x) (hrw:x.rw =true) (hy:y.rw =true) (hb:ρ id=some b) (ho:pe b w w') (hx:Fa ρ y w'.heap[b]?):SR H0 ρ0 w0 ann N ρ lam {S with hp:=S.hp.put id y} a w':=by
 have lv:∀b,iQ (S.hp.put id y) ρ b→iQ S.hp ρ b:=by
  rintro b ⟨i,o',h1,h2⟩;rcases tY h1 with⟨rfl,rfl⟩|⟨hn,h1⟩
  ·exact⟨i,x,hid,h2⟩
  ·exact⟨i,o',h1,h2⟩
 have ow:∀b,ov (S.hp.put id y) ρ b→ov S.hp ρ b:=by
  rintro b ⟨i,o',h1,hr,h2⟩;rcases tY h1 with⟨rfl,rfl⟩|⟨hn,h1⟩
  ·exact⟨i,x,hid,hrw,h2⟩
  ·exact⟨i,o',h1,hr,h2⟩
 have hown:ov S.hp ρ b:=⟨id,x,hid,hrw,hb⟩;refine⟨h.defers,h.size,h.tm,h.La, ?_,h.tU,⟨?_, ?_, ?_,h.hr.gl⟩, ?_⟩
 ·intro s M hM;obtain⟨b2,h1,h2,h3,h4,h5⟩:=h.lo s M hM;have hne:b2≠b:=fun e=>h5 (e▸⟨id,x,hid,hb⟩)
  exact⟨b2,h1,by rw[ho.mr b2 hne];exact h2,by rw[ho.size];exact h3,h4,fun hl=>h5 (lv b2 hl)⟩
 ·intro i o' hi;rcases tY hi with⟨rfl,rfl⟩|⟨hn,hi⟩
  ·exact⟨b,hb,hx⟩
  ·obtain⟨b2,h1,h2⟩:=h.hr.wH i o' hi;have hne:b2≠b:=fun e=>hn (h.hr.inj id i x o' b hid hi hrw hb (e▸h1)).symm
   exact⟨b2,h1,by rw[ho.mr b2 hne];exact h2⟩
 ·intro i i' o1 o2 b2 h1 h2 hr e1 e2;rcases tY h1 with⟨r1,_⟩|⟨n1,k1⟩<;>rcases tY h2 with⟨r2,_⟩|⟨n2,k2⟩
  ·rw[r1,r2]
  ·rw[r1] at e1⊢;exact h.hr.inj id i' x o2 b2 hid k2 hrw e1 e2
  ·rw[r2] at e2⊢;exact(h.hr.inj id i x o1 b2 hid k1 hrw e2 e1).symm
  ·exact h.hr.inj i i' o1 o2 b2 k1 k2 hr e1 e2
 ·intro i b2 hi;rw[ho.size];exact h.hr.lt i b2 hi
 ·refine⟨h.bW.le,fun b2 m7 hno=> ?_,fun b2 m7=>h.bW.iQ b2 (lv b2 m7),fun b2 m7=>h.bW.ov b2 (ow b2 m7),by rw[ho.size];exact h.bW.size,
   ho.os.trans h.bW.os,ho.tape.trans h.bW.tape,ho.output.trans h.bW.output⟩
  have hne:b2≠b:=by
   rintro rfl;rcases h.bW.ov b2 hown with h1|h1
   ·exact hno h1
   ·omega
  rw[ho.mr b2 hne];exact h.bW.frame b2 m7 hno
theorem SR.call (h:SR H0 ρ0 w0 ann N ρ lam S a w) {H':ag} {ρ':dC} {w':World} (hs:lE S.hp ρ w H' ρ' w') (hr:HR ρ' H' w'):SR H0 ρ0 w0 ann N ρ' lam {S with hp:=H'} a w' where
 defers:=h.defers
 size:=h.size
 tm:=fun t y hy=>(h.tm t y hy).mono hs.le
 La:=h.La
 lo:=fun s M hM=>by
  obtain⟨b,h1,h2,h3,h4,h5⟩:=h.lo s M hM;have hno:¬ov S.hp ρ b:=fun⟨id,o,k1,_,k2⟩=>h5 ⟨id,o,k1,k2⟩
  refine⟨b,h1,by rw[hs.frame b h3 hno];exact h2.mono hs.le,by have:=hs.size;omega,h4,fun hl=> ?_⟩;rcases hs.iQ b hl with h|h
  ·exact h5 h
  ·omega
 tU:=h.tU
 hr:=hr
 bW:=h.bW.trans hs
theorem SR.tL (h:SR H0 ρ0 w0 ann N ρ lam S a w) {s b:Nat} {e:TypeId} {cs:List V} (hs:S.lo s=some (.cells e cs)) (hb:lam s=some b):SR H0 ρ0 w0 ann N (eE ρ S.hp.next b) lam (pA ann s e cs S) a w:=by
 obtain⟨b',hb',hc,hlt,hge,Qb⟩:=h.lo s _ hs;rw[hb] at hb';cases hb'
 have hle:ρ.le (eE ρ S.hp.next b):=by
  intro id b2 hid;have hne:id≠S.hp.next:=by have:=(h.hr.lt id b2 hid).1;omega
  rw[eE,if_neg hne];exact hid
 have old:∀{id b2},id≠S.hp.next→eE ρ S.hp.next b id=some b2→ρ id=some b2:=by
  intro id b2 hn h2
  rwa [eE,if_neg hn] at h2
 have lv:∀b2,iQ (S.hp.alloc (.cells e cs false)) (eE ρ S.hp.next b) b2→b2=b∨iQ S.hp ρ b2:=by
  rintro b2 ⟨id,o',h1,h2⟩;rcases gp h1 with⟨rfl,rfl⟩|⟨hn,h1⟩
  ·rw[eE,if_pos rfl] at h2;exact .inl (Option.some.inj h2).symm
  ·exact .inr ⟨id,o',h1,old hn h2⟩
 have ow:∀b2,ov (S.hp.alloc (.cells e cs false)) (eE ρ S.hp.next b) b2→b2=b∨ov S.hp ρ b2:=by
  rintro b2 ⟨id,o',h1,hr,h2⟩;rcases gp h1 with⟨rfl,rfl⟩|⟨hn,h1⟩
  ·rw[eE,if_pos rfl] at h2;exact .inl (Option.some.inj h2).symm
  ·exact .inr ⟨id,o',h1,hr,old hn h2⟩
 have hlo:∀{t L},(pA ann s e cs S).lo t=some L→t≠s∧S.lo t=some L:=by
  intro t L ht;simp only[pA,aX] at ht;by_cases hts:t=s
  ·simp [hts] at ht
  ·simp only[hts,decide_false,cond_false] at ht;exact⟨hts,ht⟩
 have htm:∀{t x},(pA ann s e cs S).tm t=some x→S.tm t=some x:=by
  intro t x ht;simp only[pA,sl] at ht;split at ht
  ·rename_i s' hs';cases hq:Nat.beq s' s
   ·simpa [hq] using ht
   ·simp [hq] at ht
  ·exact ht
 refine⟨h.defers,h.size,fun t y hy=>(h.tm t y (htm hy)).mono hle,fun t s' off hy=>h.La t s' off (htm hy), ?_, ?_,⟨?_, ?_, ?_,fun g hg=>hle _ _ (h.hr.gl g hg)⟩, ?_⟩
 ·intro s' M hM;obtain⟨hne,hM⟩:=hlo hM;obtain⟨b2,h1,h2,h3,h4,h5⟩:=h.lo s' M hM;refine⟨b2,h1,h2.mono hle,h3,h4,fun hl=> ?_⟩;rcases lv b2 hl with rfl|hl
  ·exact hne (h.tU s' s M _ b2 hM hs h1 hb)
  ·exact h5 hl
 ·intro s1 s2 L1 L2 b2 h1 h2 e1 e2;exact h.tU s1 s2 L1 L2 b2 (hlo h1).2 (hlo h2).2 e1 e2
 ·intro id o' hid;rcases gp hid with⟨rfl,rfl⟩|⟨hn,hid⟩
  ·exact⟨b,by rw[eE,if_pos rfl],fT.mono hle hc⟩
  ·obtain⟨b2,h1,h2⟩:=h.hr.wH id o' hid;exact⟨b2,hle _ _ h1,h2.mono hle⟩
 ·intro id id' o1 o2 b2 h1 h2 hr e1 e2;rcases gp h1 with⟨r1,_⟩|⟨n1,k1⟩<;>rcases gp h2 with⟨r2,_⟩|⟨n2,k2⟩
  ·rw[r1,r2]
  ·rw[eE,if_pos r1] at e1;cases e1;exact(Qb ⟨id',o2,k2,old n2 e2⟩).elim
  ·rw[eE,if_pos r2] at e2;cases e2;exact(Qb ⟨id,o1,k1,old n1 e1⟩).elim
  ·exact h.hr.inj id id' o1 o2 b2 k1 k2 hr (old n1 e1) (old n2 e2)
 ·intro id b2 hid;by_cases hn:id=S.hp.next
  ·rw[eE,if_pos hn] at hid;cases hid;exact⟨by simp [pA,ag.alloc,hn],hlt⟩
  ·have:=h.hr.lt _ _ (old hn hid);exact⟨by simp [pA,ag.alloc];omega,this.2⟩
 ·have hq:=h.bW;refine⟨hq.le.trans hle,hq.frame,fun b2 m7=> ?_,fun b2 m7=> ?_,hq.size,hq.os,hq.tape,hq.output⟩
  ·rcases lv b2 m7 with rfl|m7
   ·exact .inr hge
   ·exact hq.iQ b2 m7
  ·rcases ow b2 m7 with rfl|m7
   ·exact .inr hge
   ·exact hq.ov b2 m7
theorem mT:∀{l:List Operand} {S S':St} {ρ:dC} {vs:List V},SR H0 ρ0 w0 ann N ρ lam S a w→qD ann l S=some (vs,S')→∃ρ',SR H0 ρ0 w0 ann N ρ' lam S' a w∧eT ρ' vs (l.map a.eval)∧ρ.le ρ'
 |[],S,S',ρ,vs,h,hl=>by
  simp only[qD,Option.some.injEq,Prod.mk.injEq] at hl;obtain⟨rfl,rfl⟩:=hl;exact⟨ρ,h,.nil ρ,.refl ρ⟩
 |x::l,S,S',ρ,vs,h,hl=>by
  simp only[qD] at hl;split at hl
  ·rename_i v hx;split at hl
   ·rename_i ws S2 h2;simp only[Option.some.injEq,Prod.mk.injEq] at hl;obtain⟨rfl,rfl⟩:=hl;obtain⟨ρ',k1,k2,k3⟩:=mT h h2;exact⟨ρ',k1,.cons ((h.ev.tv hx).mono k3) k2,k3⟩
   ·cases hl
  ·rename_i s hx;split at hl
   ·rename_i e cs hs;split at hl
    ·rename_i ws S2 h2;simp only[Option.some.injEq,Prod.mk.injEq] at hl;obtain⟨rfl,rfl⟩:=hl;obtain⟨b,hb,he⟩:=h.ev.lp hx
     have hle:ρ.le (eE ρ S.hp.next b):=by
      intro id b2 hid;have hne:id≠S.hp.next:=by have:=(h.hr.lt id b2 hid).1;omega
      rw[eE,if_neg hne];exact hid
     obtain⟨ρ',k1,k2,k3⟩:=mT (h.tL hs hb) h2;refine⟨ρ',k1,.cons ?_ k2,hle.trans k3⟩;rw[he];exact .aj (k3 _ _ (by rw[eE,if_pos rfl]))
    ·cases hl
   ·cases hl
  ·cases hl
theorem SR.drew (h:SR H0 ρ0 w0 ann N ρ lam S a w) (n:Nat):SR H0 ρ0 w0 ann N ρ lam S a {w with drawn:=n}:=
 ⟨h.defers,h.size,h.tm,h.La,h.lo,h.tU,⟨h.hr.wH,h.hr.inj,h.hr.lt,h.hr.gl⟩,⟨h.bW.le,h.bW.frame,h.bW.iQ,h.bW.ov,h.bW.size,h.bW.os,h.bW.tape,h.bW.output⟩⟩
end
def yC (H:ag) (ρ:dC) (w:World) (K:V→ag→Prop) (e:Ending) (w':World):Prop:=
 ∃v v' H' ρ',e=.returned v'∧K v H'∧VR ρ' v v'∧HR ρ' H' w'∧lE H ρ w H' ρ' w'
def iB (E:kv) (f:FuncId) (args:List V) (H:ag) (K:V→ag→Prop):Prop:=
 ∀(ρ:dC) (w:World) (aS:Array Value),HR ρ H w→eT ρ args aS.toList→Calls E.P f aS w (yC H ρ w K)
def jV (E:kv):Prop:=∀g x,E.ext g=some x→∀args H K,x.run args H K→∀(ρ:dC) (w:World) (aS:Array Value),HR ρ H w→eT ρ args aS.toList→
 (∃v v' w' H' ρ',(callFunc g aS).run E.P w=.ok (.value v') w'∧K v H'∧VR ρ' v v'∧HR ρ' H' w'∧lE H ρ w H' ρ' w')∨
 ((callFunc g aS).run E.P w=.ok (.enter g aS) w∧Calls E.P g aS w (yC H ρ w K))
section
variable {E:kv} {H0:ag} {ρ0:dC} {w0:World} {ann:bQ} {N:Nat} {ρ lam:dC} {S:St} {a:Act} {w:World}
theorem vC {t:TypeId} {i:TI} {z:V} (h:E.ti t=some i) (hz:i.zero=some z) (ρ:dC) (w:World):∃z',(zeroValue t).run E.P w=.ok z' w∧eT ρ z.cells z'.cells.toList∧bd z.cells:=by
 obtain⟨dh,dt,hi,hu,hd,_,_,KU⟩:=jN h;rw[hz] at KU;obtain⟨z',EA,xY⟩:=Option.bind_eq_some_iff.1 KU;exact⟨z',by simp [zeroValue,typeInfo,hi,EA],(iA xY).cells (fun e=>by have:=kO xY;rw[e] at this;have:=this .cx (by simp [V.cells]);cases this),kO xY⟩
theorem iC {e:TypeId} {cs:List V} {cs':Array Value} {rw:Bool} (h:eT ρ cs cs'.toList) (h1:bd cs):fT ρ e cs rw (some (.cells cs' e)):=
 ⟨cs',(0,0),rfl,h,fun _=>h1,fun _=>.inl rfl⟩
theorem HD {o:Oper} {ev:Ev} {e:Operand→Value} (cX:pI ρ lam ev e) {r:Bool} {L:aU} (h:iM E o.op ev=some (r,L)) (hr:r=true):∃(x:Go.Obj) (w':World),(execOp e o).run E.P w=.ok (.value (.pointer (some ⟨w.heap.size,0,none⟩))) w'∧iw x w w'∧vz ρ L (some x):=by
 obtain⟨dst,op,type,jj,after,guard⟩:=o
 cases op with
 |alloc t=>
  simp only[iM] at h;split at h
  ·rename_i i hi;split at h
   ·rename_i z hz;simp only[Option.some.injEq,Prod.mk.injEq] at h;obtain⟨_,rfl⟩:=h;obtain⟨z',h1,h2,h3⟩:=vC hi hz ρ w;refine⟨.cells z'.cells t,{w with heap:=w.heap.push (.cells z'.cells t)}, ?_,⟨rfl,rfl,rfl,rfl⟩,iC h2 h3⟩;simp [execOp,Instr.alloc,h1,newVar,newRow]
   ·cases h
  ·cases h
 |box t x=>
  simp only[iM] at h;split at h
  ·rename_i v hv;split at h
   ·rename_i r' vs hvs;simp only[Option.some.injEq,Prod.mk.injEq] at h;obtain⟨rfl,rfl⟩:=h;obtain⟨h2,h3⟩:=iS (cX.v hv) hvs hr;refine⟨.cells (e x).cells t,{w with heap:=w.heap.push (.cells (e x).cells t)}, ?_,⟨rfl,rfl,rfl,rfl⟩,iC h2 h3⟩;simp [execOp,Instr.box,newVar,newRow]
   ·cases h
  ·cases h
 |range t x=>
  simp only[iM] at h;split at h
  ·rename_i s hk hx;obtain⟨dt,hu,hd⟩:=bM hk;simp only[Option.some.injEq,Prod.mk.injEq] at h;obtain⟨_,rfl⟩:=h;cases dt<;>simp [bq,cO] at hd
   refine⟨.stringIter s 0,{w with heap:=w.heap.push (.stringIter s 0)}, ?_,⟨rfl,rfl,rfl,rfl⟩,rfl⟩;simp [execOp,Instr.range,run_underlying hu,(cX.v hx).vx]
  ·cases h
 |_=>simp [iM] at h
theorem Fj {o:Oper} {ev:Ev} {e:Operand→Value} (cX:pI ρ lam ev e) {s:Nat} {L:Option aU} {d:fR T} (h:gQ E o.op ev s L=some d) (hr:d.rq=true) (hL:∀M,L=some M→∃b,lam s=some b∧vz ρ M w.heap[b]?):∃v,(execOp e o).run E.P w=.ok (.value v) w∧TR ρ lam (if d.c=true then d.x else d.y) v:=by
 obtain⟨dst,op,type,jj,after,guard⟩:=o
 cases op with
 |load t a=>
  simp only[gQ] at h;split at h
  ·rename_i s' off el cs ha;obtain⟨b,hb,hc⟩:=hL _ rfl;by_cases hs:s=s'
   ·subst hs;simp only[Nat.beq_refl,cond_true] at h;unfold Bd at h;split at h
    ·rename_i r v hv;simp only[Option.some.injEq] at h;subst h;obtain⟨b',hb',he⟩:=cX.lp ha;rw[hb] at hb';cases hb';obtain⟨v',h1,h2⟩:=oA hc hv hr (fun _ _=>.inl rfl);exact⟨v',by simp [execOp,Instr.loadAt,he,Instr.sureAddr,h1],.v h2⟩
    ·cases h
   ·rw[show Nat.beq s s'=false by rw[aX];simpa using hs] at h;simp at h
  ·cases h
 |_=>simp [gQ] at h
theorem wK {w:World} {b:Nat} {s:ByteArray} {p:Nat} (h:w.heap[b]? =some (.stringIter s p)):(getObj b).run E.P w=.ok (.stringIter s p) w:=by
 simp [getObj,Sem.run,h]
theorem Fk {w:World} {b:Nat} {s:ByteArray} {p q:Nat} (h:w.heap[b]? =some (.stringIter s p)):(setObj b (.stringIter s q)).run E.P w=.ok () {w with heap:=w.heap.setIfInBounds b (.stringIter s q)}:=by
 simp [setObj,Sem.run,h]
theorem AH {t:TypeId} {cs:List V} (h:(lq E t cs).1=true):(lq E t cs).2=cs:=by
 unfold lq at h⊢;split
 ·rename_i ks hk;rw[hk] at h;exact k5 h rfl
 ·rfl
theorem Dc {o:Oper} {ev:Ev} {e:Operand→Value} (cX:pI ρ lam ev e) {s:Nat} {L:Option aU} {d:fR (aU×T)} (h:eg E o.op ev s L=some d) (hr:d.rq=true) (hL:∀M,L=some M→∃b,lam s=some b∧vz ρ M w.heap[b]?):∃M b w' v,L=some M∧lam s=some b∧pe b w w'∧vz ρ (if d.c=true then d.x else d.y).1 w'.heap[b]? ∧TR ρ lam (if d.c=true then d.x else d.y).2 v∧((execOp e o).run E.P w=.ok (.value v) w'∨(v=undef∧(execOp e o).run E.P w=.ok .skip w')):=by
 obtain⟨dst,op,type,jj,after,guard⟩:=o
 cases op with
 |store t a x=>
  simp only[eg] at h;split at h
  ·rename_i s' off v el cs ha hx;obtain⟨b,hb,hc⟩:=hL _ rfl;split at h
   ·rename_i r vs hvs;by_cases hs:s=s'
    ·subst hs;simp only[Nat.beq_refl,cond_true,Option.some.injEq] at h;subst h;obtain⟨b',hb',he⟩:=cX.lp ha;rw[hb] at hb';cases hb';simp only[fR.one,Bool.and_eq_true] at hr;obtain⟨w',h1,h2,h3⟩:=wJ hc (cX.v hx) hvs hr.1.1 (Nat.le_of_ble_eq_true hr.1.2);rw[AH hr.2];exact⟨_,b,w',undef,rfl,hb,h3,h2,.undef,.inr ⟨rfl,by simp [execOp,Instr.storeAt,he,Instr.sureAddr,h1]⟩⟩
    ·rw[show Nat.beq s s'=false by rw[aX];simpa using hs] at h;simp at h
   ·cases h
  ·cases h
 |next it isStr=>
  cases isStr with
  |false=>simp [eg] at h
  |true=>
   simp only[eg] at h;split at h
   ·rename_i s' cI p ha;obtain⟨b,hb,hc⟩:=hL _ rfl;by_cases hs:s=s'
    ·subst hs;simp only[Nat.beq_refl,cond_true,Option.some.injEq] at h;subst h;obtain⟨b',hb',he⟩:=cX.lp ha;rw[hb] at hb';cases hb';have hc:w.heap[b]? =some (.stringIter cI p):=hc
     have hlt:b<w.heap.size:=by
      rcases Nat.lt_or_ge b w.heap.size with h|h
      ·exact h
      ·rw[Array.getElem?_eq_none h] at hc;cases hc
     by_cases hp:p<cI.size
     ·have Ai:Nat.blt p cI.size=true:=by simpa using hp
      refine⟨_,b,{w with heap:=w.heap.setIfInBounds b (.stringIter cI (p+(Utf8.decode cI p).2))},
       .tuple #[.bool true,.int .i64 (p:Int),.int .i32 ((Utf8.decode cI p).1:Int)],rfl,hb,⟨?_,by simp,rfl,rfl,rfl⟩, ?_, ?_,.inl ?_⟩
      ·intro b' hne;simp [Ne.symm hne]
      ·simp [vz,Ai,hlt]
      ·simp only[Ai,if_true];exact .v (.gE (.cons (.bool _) (.cons (.int _ _) (.cons (.int _ _) (.nil ρ)))))
      ·simp only[execOp,he,Instr.next,Sem.run_bind,wK hc,Result.andThen_ok,hp,if_true];rw[Fk hc];simp [goInt]
     ·have Ai:Nat.blt p cI.size=false:=by
       cases hh:Nat.blt p cI.size
       ·rfl
       ·exact(hp (by simpa using hh)).elim
      refine⟨_,b,w,.tuple #[.bool false],rfl,hb,.refl b w, ?_, ?_,.inl ?_⟩
      ·simpa [vz,Ai] using hc
      ·simp only[Ai,Bool.false_eq_true,if_false];exact .v (.gE (.cons (.bool _) (.nil ρ)))
      ·simp only[execOp,he,Instr.next,Sem.run_bind,wK hc,Result.andThen_ok,hp,if_false];simp
    ·rw[show Nat.beq s s'=false by rw[aX];simpa using hs] at h;simp at h
   ·cases h
 |_=>simp [eg] at h
end
section
variable {E:kv} {H0:ag} {ρ0:dC} {w0:World} {ann:bQ} {N:Nat} {ρ lam:dC} {S:St} {a:Act} {w:World}
theorem yD {H:ag} (hr:HR ρ H w) {id off n:Nat} (h:H.inb id off n=true):∃e cs ro,H.get id=some (.cells e cs ro)∧off+n≤cs.length∧∃b,ρ id=some b∧fT ρ e cs (!ro) w.heap[b]? :=by
 unfold ag.inb at h;split at h
 ·rename_i e cs ro hg;obtain⟨b,h1,h2⟩:=hr.wH id _ hg;exact⟨e,cs,ro,hg,Nat.le_of_ble_eq_true h,b,h1,h2⟩
 ·cases h
theorem gg:∀(n:Nat) (l:List V),(hO n l).length=n*l.length
 |0,l=>by simp [hO]
 |n+1,l=>by simp [hO,gg n l,Nat.add_mul];omega
theorem gF {l:List V} (h:bd l):∀n:Nat,bd (hO n l)
 |0=>fun v hv=>by simp [hO] at hv
 |n+1=>fun v hv=>by
  simp only[hO,List.mem_append] at hv;exact hv.elim (h v) (gF h n v)
theorem yE {l:List V} (hl:0<l.length):∀(n i:Nat),i<n*l.length→(hO n l)[i]? =l[i % l.length]?
 |0,i,h=>by simp at h
 |n+1,i,h=>by
  by_cases hi:i<l.length
  ·rw[hO,List.getElem?_append_left hi,Nat.mod_eq_of_lt hi]
  ·have hi:l.length≤i:=by omega
   rw[hO,List.getElem?_append_right hi,yE hl n (i-l.length) (by rw[Nat.add_mul] at h;omega), ←Nat.mod_eq_sub_mod hi]
theorem Fl {z:List V} {z':Array Value} {n k:Nat} (hz:eT ρ z z'.toList) (hn:z.length=n) (hp:0<n):eT ρ (hO k z) ((Array.range (k*n)).map (z'[· % z'.size]!)).toList:=by
 have hs:z'.size=n:=by have:=hz.1;simp at this;omega
 refine⟨by simp [gg,hn], ?_⟩;intro i x y hx hy
 have hi:i<k*n:=by
  rcases Nat.lt_or_ge i (k*n) with h|h
  ·exact h
  ·rw[List.getElem?_eq_none (by rw[gg,hn];exact h)] at hx;cases hx
 rw[yE (by omega) k i (by rw[hn];exact hi),hn] at hx;have hm:i % n<n:=Nat.mod_lt _ hp;refine hz.2 (i % n) x y hx ?_;have hy':z'[i % z'.size]! =y:=by simpa [hi] using hy
 rw[hs,getElem!_pos z' (i % n) (by omega)] at hy';rw[←hy',Array.getElem?_toList,Array.getElem?_eq_getElem (by omega)]
theorem sD:∀{l:List V},vr l=true↔bd l
 |[]=>by simp [vr,bd]
 |v::l=>by
  rw[vr,Bool.and_eq_true,sD];simp [bd]
theorem bd.append {l m:List V} (h:bd l) (k:bd m):bd (l++m):=by
 intro v hv;rcases List.mem_append.1 hv with hv|hv
 ·exact h v hv
 ·exact k v hv
theorem tZ (s:ByteArray):bd (fc s):=by
 intro v hv;simp only[fc,List.mem_map] at hv;obtain⟨b,_,rfl⟩:=hv;rfl
theorem ua (ρ:dC) (s:ByteArray):eT ρ (fc s) (s.data.map fun b=>Value.int .u8 b.toNat).toList:=by
 refine⟨by simp [fc], ?_⟩;intro i x y hx hy;simp only[fc,List.getElem?_map,Array.toList_map,Option.map_eq_some_iff] at hx hy;obtain⟨b,hb,rfl⟩:=hx;obtain⟨b',hb',rfl⟩:=hy;rw[hb] at hb';cases hb';exact .int _ _
theorem Dd (s:ByteArray):(fc s).length=s.size:=by
 unfold fc;rw[List.length_map];rfl
theorem Q1 {H:ag} {id off n:Nat} (h:H.inb id off n=true):(H.sub id off n).length=n:=by
 unfold ag.inb at h;split at h
 ·rename_i e cs ro hg;have:=Nat.le_of_ble_eq_true h;simp [ag.sub,ag.cs,hg];omega
 ·cases h
theorem xj {H:ag} (hr:HR ρ H w) {id off n b:Nat} (hb:ρ id=some b) (h:H.inb id off n=true):∃xs,(loadCells ⟨b,off,none⟩ n).run E.P w=.ok xs w∧eT ρ (H.sub id off n) xs.toList:=by
 obtain⟨e,cs,ro,hg,hle,b',hb',cs',fz,hcell,hvs,_,_⟩:=yD hr h;rw[hb] at hb';cases hb';have hsub:H.sub id off n=(cs.drop off).take n:=by simp [ag.sub,ag.cs,hg]
 have hlen:cs'.size=cs.length:=by have:=hvs.1;simp at this;omega
 have hrun:=run_loadCells_list (P:=E.P) w ⟨b,off,none⟩ ((cs'.toList.drop off).take n) (by
  intro j v hv;rw[gb,qJ hcell];rw[List.getElem?_take] at hv;split at hv
  ·rw[List.getElem?_drop] at hv;simpa using hv
  ·cases hv)
 have hl:((cs'.toList.drop off).take n).length=n:=by simp;omega
 rw[hl] at hrun;exact⟨_,hrun,by rw[hsub];simpa using (hvs.drop off).take n⟩
theorem xk {n:Nat} {x:Value} {m:Nat} (hx:Builtin.lenOf x=pure m):(Builtin.firstCells n 0 x).run E.P w=.ok #[] w:=by
 cases x with
 |string s=>simp [Builtin.firstCells]
 |slice p l c=>cases p<;>simp [Builtin.firstCells,loadCells,loadCellsFrom]
 |_=>exact absurd hx (by simp [Builtin.lenOf,stuck])
theorem vD {H:ag} (hr:HR ρ H w) {x:V} {x':Value} (hx:VR ρ x x') {n m:Nat} {ok:Nat→Bool} {cs:Nat→List V} (hs:lu H n x=some (m,ok,cs)):Builtin.lenOf x'=pure m∧∀k,k≤m→(k=0∨ok k=true)→∃xs,(Builtin.firstCells n k x').run E.P w=.ok xs w∧eT ρ (cs k) xs.toList∧bd (cs k)∧(cs k).length=k*n:=by
 cases x with
 |slice p len cap=>
  simp only[lu,Option.some.injEq,Prod.mk.injEq] at hs;obtain⟨rfl,rfl,rfl⟩:=hs;have hl:Builtin.lenOf x'=pure len:=by cases hx<;>rfl
  refine⟨hl,fun k hk hok=> ?_⟩;by_cases h0:k=0
  ·subst h0;exact⟨#[],xk hl,by simpa using eT.nil ρ,fun v hv=>by simp at hv,by simp⟩
  ·have hz:Nat.beq k 0=false:=by rw[aX];simp [h0]
   have hok:=hok.resolve_left h0;simp only[py,hz,Bool.false_or,Bool.and_eq_true] at hok;obtain⟨hp,hi,ho⟩:=hok;simp only[hz,cond_false]
   cases p with
   |none=>cases hp
   |some q=>
    obtain⟨id,off⟩:=q;rcases hx.fj with⟨b,hb,rfl⟩|⟨h1,_,_⟩
    ·obtain⟨xs,h1,h2⟩:=xj (E:=E) hr hb hi;exact⟨xs,h1,h2,sD.1 ho,Q1 hi⟩
    ·omega
 |cI s=>
  simp only[lu,Option.some.injEq,Prod.mk.injEq] at hs;obtain⟨rfl,rfl,rfl⟩:=hs;cases hx;refine⟨rfl,fun k hk hok=> ?_⟩
  have acS:((s.extract 0 k).data.map fun b=>Value.int .u8 b.toNat).toList=((s.data.map fun b=>Value.int .u8 b.toNat).toList).take k:=by
   simp [ByteArray.data_extract]
  refine⟨_,rfl, ?_,fun v hv=>tZ s v (List.mem_of_mem_take hv), ?_⟩
  ·rw[acS];exact(ua ρ s).take k
  ·rcases hok with rfl|hok
   ·simp
   ·have:n=1:=Nat.eq_of_beq_eq_true hok;subst this;simp [Dd];omega
 |_=>simp [lu] at hs
theorem qK {t el n cN:Nat} {z:List V} (h:fB E t=some (el,n,cN,z)):∃dh z',E.P.underlying t=some (.slice el)∧E.P.info? el=some dh∧
 dh.zero=some z'∧dh.size=n∧dh.bytes=cN∧z.length=n∧0<n∧z'.cells.size=n∧bd z∧∀ρ,eT ρ z z'.cells.toList:=by
 unfold fB at h;split at h
 ·rename_i ti m9;obtain⟨ds,ry,hds⟩:=dG m9;split at h
  ·rename_i e hsh;rw[hsh] at hds;cases iv hds;split at h
   ·rename_i ei hei;obtain⟨dh,dt,hi,hu,hd,hsz,hby,KU⟩:=jN hei;split at h
    ·rename_i zv hz
     cases hb:(Nat.beq zv.cells.length ei.size&&sk ei.size) with
     |false=>simp [hb] at h
     |true=>
      simp only[hb,cond_true,Option.some.injEq,Prod.mk.injEq] at h;obtain⟨rfl,rfl,rfl,rfl⟩:=h;rw[Bool.and_eq_true] at hb;have hn:zv.cells.length=ei.size:=Nat.eq_of_beq_eq_true hb.1
      have hp:0<ei.size:=by
       have:=hb.2
       cases h:ei.size with
       |zero=>rw[h] at this;cases this
       |succ n=>omega
      rw[hz] at KU;obtain⟨z',EA,xY⟩:=Option.bind_eq_some_iff.1 KU;have MJ:∀ρ,eT ρ zv.cells z'.cells.toList:=fun ρ=>(iA xY).cells (fun e=>by have:=kO xY;rw[e] at this;have:=this .cx (by simp [V.cells]);cases this)
      refine⟨dh,z',ry,hi,EA,hsz,hby,hn,hp, ?_,kO xY,MJ⟩;have:=(MJ (fun _=>none)).1;simp at this;omega
    ·cases h
   ·cases h
  ·cases h
 ·cases h
theorem mB {z:List V} {z':Array Value} {n:Nat} (hz:eT ρ z z'.toList) (hn:z.length=n) (hp:0<n) (k:Nat):eT ρ (hO k z) (Builtin.zeroCells z' k).toList:=by
 have hs:z'.size=n:=by have:=hz.1;simp at this;omega
 unfold Builtin.zeroCells;rw[hs];simpa [hs] using Fl hz hn hp (k:=k)
theorem pK (a:Addr):(storeCells a []).run E.P w=.ok () w:=by simp [storeCells]
theorem Q2 {u:TypeId} (h:ik (bh E u)=true):∃d,E.P.underlying u=some d∧(d=.string∨∃e,d=.slice e):=by
 cases hk:bh E u with
 |none=>rw[hk] at h;cases h
 |some k=>
  obtain⟨d,hu,hd⟩:=bM hk;refine⟨d,hu, ?_⟩;rw[hk] at h;cases d<;>simp [bq,cO] at hd<;>first|(exact .inl rfl)|(exact .inr ⟨_,rfl⟩)|(subst hd;cases h)
theorem AI {t u el ty:TypeId} {du:TypeDesc} {dh:TypeInfo} (kX:E.P.underlying t=some (.slice el)) (EO:E.P.underlying u=some du) (QJ:du=.string∨∃e,du=.slice e) (hi:E.P.info? el=some dh) {aW:Option Addr} {l cp m:Nat} {x':Value} (hlen:Builtin.lenOf x'=pure m) (hroom:l+m≤cp) {xs:Array Value} (hf:(Builtin.firstCells dh.size m x').run E.P w=.ok xs w) {w':World} (hst:(match aW with|some a=>storeCells (a.add (l*dh.size)) xs.toList|none=>pure ()).run E.P w=.ok () w'):(Builtin.append_ #[t,u] ty #[.slice aW l cp,x']).run E.P w=.ok (.slice aW (l+m) cp) w':=by
 cases aW with
 |none=>
  simp at hst;subst hst;rcases QJ with rfl|⟨e,rfl⟩<;>simp [Builtin.append_,run_underlying kX,run_underlying EO,sizeOf,typeInfo,hi,hlen,hroom,hf]
 |some ad=>
  rcases QJ with rfl|⟨e,rfl⟩<;>simp [Builtin.append_,run_underlying kX,run_underlying EO,sizeOf,typeInfo,hi,hlen,hroom,hf,hst]
theorem yF {t u el ty:TypeId} {du:TypeDesc} {dh:TypeInfo} {z':Value} (kX:E.P.underlying t=some (.slice el)) (EO:E.P.underlying u=some du) (QJ:du=.string∨∃e,du=.slice e) (hi:E.P.info? el=some dh) (hz:dh.zero=some z') {aW:Option Addr} {l cp m:Nat} {x':Value} (hlen:Builtin.lenOf x'=pure m) (hroom:¬l+m≤cp) (ic:(l+m)*(dh.bytes+1)≤70368744177664) {os xs:Array Value} (hfo:(Builtin.firstCells dh.size l (.slice aW l cp)).run E.P w.drew=.ok os w.drew) (hf:(Builtin.firstCells dh.size m x').run E.P w.drew=.ok xs w.drew):(Builtin.append_ #[t,u] ty #[.slice aW l cp,x']).run E.P w=.ok (.slice (some ⟨w.heap.size,0,none⟩) (l+m) (grownCap w (l+m) cp el)) (w.drew.alloc (.cells (os++xs++Builtin.zeroCells z'.cells (grownCap w (l+m) cp el-(l+m))) el)):=by
 have h1:(l+m)*dh.bytes≤70368744177664:=Nat.le_trans (Nat.mul_le_mul_left _ (by omega)) ic;have h2:l+m≤70368744177664:=Nat.le_trans (Nat.le_mul_of_pos_right _ (by omega)) ic;have h63':¬(9223372036854775807<((l:Int)+(m:Int))):=by omega
 have hg:=growslice_fits (need:=l+m) (old:=cp) (bytes:=dh.bytes) (by omega) (by omega);have Qc:¬(281474976710656<Builtin.nextslicecap (l+m) cp*dh.bytes):=by omega
 rcases QJ with rfl|⟨e,rfl⟩<;>simp [Builtin.append_,run_underlying kX,run_underlying EO,sizeOf,typeInfo,zeroValue,hi,hz,hlen,hroom,h63',Qc,Question.forced,hf,hfo,newRow,grownCap]
theorem yG {t u el ty:TypeId} {dh:TypeInfo} {z':Value} (kX:E.P.underlying t=some (.slice el)) (EO:E.P.underlying u=some (.int .i64)) (hi:E.P.info? el=some dh) (hz:dh.zero=some z') (hpos:0<dh.size) {aW:Option Addr} {l cp:Nat} {m:Int} (h0:0≤m) (hb:m*(dh.bytes+1)≤70368744177664) (hroom:l+m.toNat≤cp) {w':World} (hst:(match aW with|some a=>storeCells (a.add (l*dh.size)) (Builtin.zeroCells z'.cells m.toNat).toList|none=>pure ()).run E.P w=.ok () w'):(Builtin.append_ #[t,u] ty #[.slice aW l cp,.int .i64 m]).run E.P w=.ok (.slice aW (l+m.toNat) cp) w':=by
 have TH:m*1≤m*(dh.bytes+1):=Int.mul_le_mul_of_nonneg_left (by omega) h0;have hm2:m*dh.bytes≤m*(dh.bytes+1):=Int.mul_le_mul_of_nonneg_left (by omega) h0;have hw1:IntKind.i64.wrap m=m:=IntWalk.i64_in _ ⟨by omega,by omega⟩;have e1:¬(281474976710656<m*(dh.bytes:Int)):=by omega
 have e3:¬m<0:=by omega
 by_cases hn:m.toNat*dh.size=0
 ·have hm0:m.toNat=0:=by
   rcases Nat.mul_eq_zero.1 hn with h|h
   ·exact h
   ·omega
  have MI:Builtin.zeroCells z'.cells 0= #[]:=by simp [Builtin.zeroCells]
  rw[hm0,MI] at hst
  cases aW with
  |none=>
   simp at hst;subst hst;simp [Builtin.append_,run_underlying kX,run_underlying EO,sizeOf,typeInfo,zeroValue,hi,hz,hw1,e1,e3,hm0,asInt,asIntOf];omega
  |some ad=>
   simp at hst;simp [Builtin.append_,run_underlying kX,run_underlying EO,sizeOf,typeInfo,zeroValue,hi,hz,hw1,e1,e3,hm0,asInt,asIntOf,hst];omega
 ·cases aW with
  |none=>
   simp at hst;subst hst;simp [Builtin.append_,run_underlying kX,run_underlying EO,sizeOf,typeInfo,zeroValue,hi,hz,hw1,e1,e3,hroom,asInt,asIntOf]
  |some ad=>
   simp [Builtin.append_,run_underlying kX,run_underlying EO,sizeOf,typeInfo,zeroValue,hi,hz,hw1,e1,e3,hn,hroom,asInt,asIntOf,hst]
theorem xl {t u el ty:TypeId} {dh:TypeInfo} {z':Value} (kX:E.P.underlying t=some (.slice el)) (EO:E.P.underlying u=some (.int .i64)) (hi:E.P.info? el=some dh) (hz:dh.zero=some z') (hpos:0<dh.size) {aW:Option Addr} {l cp:Nat} {m:Int} (h0:0≤m) (hb:m*(dh.bytes+1)≤70368744177664) (hroom:¬l+m.toNat≤cp) (ic:(l+m.toNat)*(dh.bytes+1)≤70368744177664) {os:Array Value} (hfo:(Builtin.firstCells dh.size l (.slice aW l cp)).run E.P w.drew=.ok os w.drew):(Builtin.append_ #[t,u] ty #[.slice aW l cp,.int .i64 m]).run E.P w=.ok (.slice (some ⟨w.heap.size,0,none⟩) (l+m.toNat) (grownCap w (l+m.toNat) cp el)) (w.drew.alloc (.cells (os++Builtin.zeroCells z'.cells m.toNat++Builtin.zeroCells z'.cells (grownCap w (l+m.toNat) cp el-(l+m.toNat))) el)):=by
 have TH:m*1≤m*(dh.bytes+1):=Int.mul_le_mul_of_nonneg_left (by omega) h0;have hm2:m*dh.bytes≤m*(dh.bytes+1):=Int.mul_le_mul_of_nonneg_left (by omega) h0;have hw1:IntKind.i64.wrap m=m:=IntWalk.i64_in _ ⟨by omega,by omega⟩;have e1:¬(281474976710656<m*(dh.bytes:Int)):=by omega
 have e3:¬m<0:=by omega
 have h1:(l+m.toNat)*dh.bytes≤70368744177664:=Nat.le_trans (Nat.mul_le_mul_left _ (by omega)) ic;have h2:l+m.toNat≤70368744177664:=Nat.le_trans (Nat.le_mul_of_pos_right _ (by omega)) ic;have h63':¬(9223372036854775807<((l:Int)+(m.toNat:Int))):=by omega
 have h63:¬(9223372036854775807<((l:Int)+max m 0)):=by omega
 have hg:=growslice_fits (need:=l+m.toNat) (old:=cp) (bytes:=dh.bytes) (by omega) (by omega);have Qc:¬(281474976710656<Builtin.nextslicecap (l+m.toNat) cp*dh.bytes):=by omega
 by_cases hn:m.toNat*dh.size=0
 ·have hm0:m.toNat=0:=by
   rcases Nat.mul_eq_zero.1 hn with h|h
   ·exact h
   ·omega
  have MI:Builtin.zeroCells z'.cells 0= #[]:=by simp [Builtin.zeroCells]
  rw[hm0] at hroom h63' Qc⊢;have acT:m=0:=by omega
  subst acT;have Ws:¬l≤cp:=by simpa using hroom
  have acU:¬(9223372036854775807:Int)<(l:Int):=by simpa using h63'
  have acV:¬(281474976710656<Builtin.nextslicecap l cp*dh.bytes):=by simpa using Qc
  simp [Builtin.append_,Ws,acU,acV,run_underlying kX,run_underlying EO,sizeOf,typeInfo,zeroValue,hi,hz,hw1,Question.forced,hfo,newRow,grownCap,asInt,asIntOf,MI]
 ·simp [Builtin.append_,run_underlying kX,run_underlying EO,sizeOf,typeInfo,zeroValue,hi,hz,hw1,e1,e3,hn,hroom,h63,Qc,Question.forced,hfo,newRow,grownCap,asInt,asIntOf]
theorem T3 {x:Value} {k:IntKind} {n:Int} (h:VR ρ (.int k n) x):x=.int k n:=h.iu
structure Xu (E:kv) (t u ty el:TypeId) (dh:TypeInfo) (z':Value) (x':Value) (m:Nat) (A:World→Array Value→Prop):Prop where
 inn:∀{w w':World} {aW:Option Addr} {l cp:Nat} {xs:Array Value},l+m≤cp→A w xs→(match aW with|some a=>storeCells (a.add (l*dh.size)) xs.toList|none=>pure ()).run E.P w=.ok () w'→
  (Builtin.append_ #[t,u] ty #[.slice aW l cp,x']).run E.P w=.ok (.slice aW (l+m) cp) w'
 out:∀{w:World} {aW:Option Addr} {l cp:Nat} {os xs:Array Value},¬l+m≤cp→(l+m)*(dh.bytes+1)≤70368744177664→(Builtin.firstCells dh.size l (.slice aW l cp)).run E.P w.drew=.ok os w.drew→A w.drew xs→
  (Builtin.append_ #[t,u] ty #[.slice aW l cp,x']).run E.P w=.ok (.slice (some ⟨w.heap.size,0,none⟩) (l+m) (grownCap w (l+m) cp el))
   (w.drew.alloc (.cells (os++xs++Builtin.zeroCells z'.cells (grownCap w (l+m) cp el-(l+m))) el))
theorem Df {H:ag} {t u ty el n cN:Nat} {z:List V} {dh:TypeInfo} {z':Value} (kX:E.P.underlying t=some (.slice el)) (hi:E.P.info? el=some dh) (hz:dh.zero=some z') (hsz:dh.size=n) (hby:dh.bytes=cN)
 (hzl:z.length=n) (hpos:0<n) (hzs:z'.cells.size=n) (Sz:bd z) (Qd:∀ρ,eT ρ z z'.cells.toList) {x:V} {x':Value} (hx:VR ρ x x') {r:Bool} {m:Nat} {ok:Nat→Bool} {cs:Nat→List V}
 (hs:mN H n cN z (bh E u) x=some (r,m,ok,cs)) (hr:r=true):∃A:World→Array Value→Prop,Xu E t u ty el dh z' x' m A∧
  ∀w,HR ρ H w→(m=0∨ok m=true)→∃xs,A w xs∧eT ρ (cs m) xs.toList∧bd (cs m)∧(cs m).length=m*n:=by
 subst hr;subst hsz;subst hby
 have key:ik (bh E u)=true→lu H dh.size x=some (m,ok,cs)→∃A:World→Array Value→Prop,Xu E t u ty el dh z' x' m A∧
  ∀w,HR ρ H w→(m=0∨ok m=true)→∃xs,A w xs∧eT ρ (cs m) xs.toList∧bd (cs m)∧(cs m).length=m*dh.size:=by
  intro hu hsrc;obtain⟨du,EO,QJ⟩:=Q2 hu
  have hlen:Builtin.lenOf x'=pure m:=by
   cases x with
   |slice p len cap=>
    simp only[lu,Option.some.injEq,Prod.mk.injEq] at hsrc;obtain⟨rfl,_,_⟩:=hsrc;cases hx<;>rfl
   |cI s=>
    simp only[lu,Option.some.injEq,Prod.mk.injEq] at hsrc;obtain⟨rfl,_,_⟩:=hsrc;cases hx;rfl
   |_=>simp [lu] at hsrc
  refine⟨fun w xs=>(Builtin.firstCells dh.size m x').run E.P w=.ok xs w,⟨fun hroom hf hst=>AI kX EO QJ hi hlen hroom hf hst,fun hroom ic hfo hf=>yF kX EO QJ hi hz hlen hroom ic hfo hf⟩,fun w hw hok=> ?_⟩;obtain⟨_,tt⟩:=vD (E:=E) hw hx hsrc;exact tt m (Nat.le_refl _) hok
 unfold mN at hs;split at hs
 ·rename_i hk;obtain⟨d,EO,hd⟩:=bM hk;split at hs
  ·rename_i mi;simp only[Option.some.injEq,Prod.mk.injEq,Bool.and_eq_true,decide_eq_true_eq] at hs;obtain⟨⟨h0,hb⟩,rfl,rfl,rfl⟩:=hs;have hx':=T3 hx;subst hx';cases d<;>simp [bq,cO] at hd
   subst hd;refine⟨fun w xs=>xs=Builtin.zeroCells z'.cells mi.toNat,⟨fun hroom hf hst=> ?_,fun hroom ic hfo hf=> ?_⟩,fun w hw hok=>⟨_,rfl, ?_, ?_, ?_⟩⟩
   ·subst hf;exact yG kX EO hi hz hpos h0 hb hroom hst
   ·subst hf;exact xl kX EO hi hz hpos h0 hb hroom ic hfo
   ·exact mB (Qd ρ) hzl hpos _
   ·exact gF Sz _
   ·show (hO _ z).length=_
    rw[gg,hzl]
  ·cases hs
 ·split at hs
  ·rename_i hu;split at hs
   ·rename_i m' ok' cs' hsrc;simp only[Option.some.injEq,Prod.mk.injEq,true_and] at hs;obtain⟨rfl,rfl,rfl⟩:=hs;exact key hu hsrc
   ·cases hs
  ·cases hs
theorem Dg (h:SR H0 ρ0 w0 ann N ρ lam S a w) {ts:List TypeId} {args:List V} {args':Array Value} {ty:TypeId} {K:Oq→Nat→Nat→ag→Prop} (ha:eT ρ args args'.toList) (ho:aO E ts args S.hp K):∃q n c H' ρ' v w',K q n c H'∧(Builtin.append_ ts.toArray ty args').run E.P w=.ok v w'∧SR H0 ρ0 w0 ann N ρ' lam {S with hp:=H'} a w'∧TR ρ' lam (.v (.slice q n c)) v:=by
 unfold aO at ho;split at ho
 ·rename_i t u p l cp x;split at ho
  ·rename_i el n cN z hel
   split at ho
   ·rename_i r0 m ok cs hsrc;obtain⟨hr0,ho⟩:=aT ho;obtain⟨s',r1,wz,hs',nX⟩:=ha.df;obtain⟨x',r2,xC,hx',tu⟩:=nX.df;have Qe:=tu.gu;subst Qe;subst xC
    obtain rfl:args'= #[s',x']:=by
     apply Array.ext';rw[wz]
    obtain⟨dh,z',kX,hi,hz,hsz,hby,hzl,hpos,hzs,Sz,Qd⟩:=qK hel;obtain⟨A,hA,tt⟩:=Df (ty:=ty) kX hi hz hsz hby hzl hpos hzs Sz Qd hx' hsrc hr0;subst hsz;subst hby
    have hbase:∃aW,s'=.slice aW l cp∧(p=none→aW=none)∧(∀id off,p=some (id,off)→(∃b,ρ id=some b∧aW=some ⟨b,off,none⟩)∨(l=0∧cp=0∧∃ad,aW=some ad)):=by
     cases p with
     |none=>exact⟨none,hs'.lD,fun _=>rfl,fun _ _ h=>by cases h⟩
     |some q=>
      obtain⟨id,off⟩:=q;rcases hs'.fj with⟨b,hb,he⟩|⟨h0,h1,ad,he⟩
      ·exact⟨_,he,fun h=>by(cases h),fun id' off' h=>by cases h;exact .inl ⟨b,hb,rfl⟩⟩
      ·exact⟨_,by rw[he,h0,h1],fun h=>by(cases h),fun id' off' h=>.inr ⟨h0,h1,ad,rfl⟩⟩
    obtain⟨aW,rfl,hb0,Ah⟩:=hbase;rcases gA ho with⟨hroom,ho⟩|⟨hroom,ho⟩
    ·have hroom:l+m≤cp:=Nat.le_of_ble_eq_true hroom;obtain⟨hr,ho⟩:=aT ho;by_cases hm:m=0
     ·obtain⟨xs,h1,h2,h3,h4⟩:=tt w h.hr (.inl hm)
      have hxs:xs= #[]:=by
       have:=h2.1;rw[h4,hm] at this;apply Array.eq_empty_of_size_eq_zero;simpa using this.symm
      subst hxs;have hz0:Nat.beq m 0=true:=by rw[aX];simp [hm]
      simp only[hz0,cond_true] at ho;refine⟨_,_,_,_,ρ,.slice aW (l+m) cp,w,ho,hA.inn hroom h1 ?_,h,.v ?_⟩
      ·cases aW<;>simp [pK]
      ·rw[hm];simpa using hs'
     ·have hz0:Nat.beq m 0=false:=by rw[aX];simp [hm]
      simp only[hz0,Bool.false_or,Bool.and_eq_true,cond_false] at hr ho;obtain⟨hp,hok,EC⟩:=hr
      cases p with
      |none=>cases hp
      |some q=>
       obtain⟨id,off⟩:=q;simp only[Option.getD_some] at EC ho;rcases Ah id off rfl with⟨b,hb,rfl⟩|⟨h0,h1,_⟩
       ·obtain⟨xs,h1,h2,h3,h4⟩:=tt w h.hr (.inr hok);unfold ag.wr at EC;split at EC
        ·rename_i e ccs ro hg;rw[Bool.and_eq_true] at EC;have hro:ro=false:=by simpa using EC.1
         subst hro;obtain⟨b',hb',hc⟩:=h.hr.wH id _ hg;rw[hb] at hb';cases hb';obtain⟨w',g1,g2,g3⟩:=mA (E:=E) (off:=off+l*dh.size) hc h2 h3 (by rw[h4];exact Nat.le_of_ble_eq_true EC.2);have hst:S.hp.store id (off+l*dh.size) (cs m)=S.hp.put id (.cells e (bI ccs (off+l*dh.size) (cs m)) false):=by simp [ag.store,hg]
         rw[hst] at ho;exact⟨_,_,_,_,ρ,_,w',ho,hA.inn hroom h1 (by simpa [gb] using g1),h.Db hg rfl rfl hb g3 g2,.v (.slice _ _ hb)⟩
        ·cases EC
       ·omega
    ·have Wt:¬l+m≤cp:=by
      intro hc;rw[Nat.ble_eq_true_of_le hc] at hroom;cases hroom
     obtain⟨hr,ho⟩:=aT ho;simp only[Bool.and_eq_true] at hr;obtain⟨hrow,hok,ic⟩:=hr;have ic:=Nat.le_of_ble_eq_true ic;have hd:HR ρ S.hp w.drew:=⟨h.hr.wH,h.hr.inj,h.hr.lt,h.hr.gl⟩
     obtain⟨_,hold⟩:=vD (E:=E) hd hs' (n:=dh.size) (m:=l) (ok:=fun m=>py S.hp dh.size p m)
      (cs:=fun m=>bif Nat.beq m 0 then [] else S.hp.sub (p.getD (0,0)).1 (p.getD (0,0)).2 (m*dh.size)) rfl
     obtain⟨xs,h1,h2,h3,h4⟩:=tt w.drew hd (.inr hok);obtain⟨os,k1,k2,k3,k4⟩:=hold l (Nat.le_refl _) (.inr hrow);have adk:l+m≤70368744177664:=Nat.le_trans (Nat.le_mul_of_pos_right _ (by omega)) ic;have Qf:=grownCap_ge w (l+m) cp el;have Qg:=grownCap_le_maxLen w (l+m) cp el (by simp only[maxLen];omega);have hk:=ho (grownCap w (l+m) cp el) Qf (by simp only[maxLen] at Qg;omega);have MJ:=(k2.append h2).append (mB (Qd ρ) hzl hpos (grownCap w (l+m) cp el-(l+m)));refine⟨_,_,_,_,_,_,_,hk,hA.out Wt ic k1 h1,h.Da ⟨rfl,rfl,rfl,rfl⟩ (iC ?_ ?_),.v (.slice _ _ (by rw[eE,if_pos rfl]))⟩
     ·simpa [yb,dU,List.append_assoc] using MJ
     ·exact k3.append (h3.append (gF Sz _))
   ·exact ho.elim
  ·exact ho.elim
 ·exact ho.elim
theorem AL {t el cN:Nat} {n:Nat} {z:List V} {dh:TypeInfo} {z':Value} (kX:E.P.underlying t=some (.slice el)) (hi:E.P.info? el=some dh) (hz:dh.zero=some z')
 (hzs:z'.cells.size=dh.size) (hpos:0<dh.size) {k k':IntKind} {l c:Int} (h0:0≤l) (h1:l≤c) (h2:c*(dh.bytes+1)≤70368744177664):
 (Instr.makeSlice t (.int k l) (.int k' c)).run E.P w=.ok (.slice (some ⟨w.heap.size,0,none⟩) l.toNat c.toNat)
  (w.alloc (.cells (Builtin.zeroCells z'.cells c.toNat) el)):=by
 have hc:0≤c:=by omega
 have TH:c*1≤c*(dh.bytes+1):=Int.mul_le_mul_of_nonneg_left (by omega) hc;have hm2:c*dh.bytes≤c*(dh.bytes+1):=Int.mul_le_mul_of_nonneg_left (by omega) hc;have hw1:IntKind.i64.wrap l=l:=IntWalk.i64_in _ ⟨by omega,by omega⟩;have hw2:IntKind.i64.wrap c=c:=IntWalk.i64_in _ ⟨by omega,by omega⟩;have e1:¬(281474976710656<(dh.bytes:Int)*c):=by rw[Int.mul_comm];omega
 have e2:¬c<0:=by omega
 have e3:¬l<0:=by omega
 have e4:¬c<l:=by omega
 have hroom:¬roomBytes<c.toNat*dh.bytes:=by
  have:((c.toNat*dh.bytes:Nat):Int)=c*dh.bytes:=by rw[Int.natCast_mul,Int.toNat_of_nonneg hc]
  unfold roomBytes;omega
 have hz0:z'.cells.size≠0:=by omega
 by_cases hn:c.toNat*dh.size=0
 ·have hcn:c.toNat=0:=by
   rcases Nat.mul_eq_zero.1 hn with h|h
   ·exact h
   ·omega
  simp [Instr.makeSlice,run_underlying kX,typeInfo,sizeOf,hi,hw1,hw2,e1,e2,e3,e4,askRoom,hcn,newRow,Builtin.zeroCells,asInt,asIntOf,hzs];have hr:Array.range 0= #[]:=by simp
  rw[hr,Array.map_empty,Array.map_empty]
 ·simp [Instr.makeSlice,run_underlying kX,typeInfo,sizeOf,zeroValue,hi,hz,hw1,hw2,e1,e2,e3,e4,askRoom,hn,newRow,Builtin.zeroCells,asInt,asIntOf,hzs]
theorem yH {e:TypeId} {cs:List V} {off b:Nat} (hc:fT ρ e cs true w.heap[b]?):∃w',(markStringish ⟨b,off,none⟩).run E.P w=.ok () w'∧fT ρ e cs true w'.heap[b]? ∧pe b w w':=by
 obtain⟨cs',fz,hb,hvs,hone,hfz⟩:=hc;have hsh:w.shape? b=some (e,cs'.size):=by simp [World.shape?,hb]
 refine⟨w.freeze ⟨b,cs'.size,none⟩ 1,by simp [markStringish,shape,freeze,Sem.run,hsh], ?_, ?_⟩
 ·refine⟨cs',if fz.1 == fz.2 then (cs'.size,cs'.size+1) else (min fz.1 cs'.size,max fz.2 (cs'.size+1)), ?_,hvs,hone,fun _=>.inr ?_⟩
  ·simp [World.freeze,Array.getElem?_modify,hb]
  ·have:=hfz rfl;split
   ·simp
   ·rename_i hne;have hne:fz.1≠fz.2:=by simpa using hne
    simp only[Nat.le_min];omega
 ·refine⟨fun b' hb'=> ?_,by simp [World.freeze],rfl,rfl,rfl⟩;simp only[World.freeze];rw[if_neg (by decide)];simp only[Array.getElem?_modify];rw[if_neg (fun e=>hb' e.symm)]
theorem ub {H:ag} {id:Nat} {o:Obj} (h:H.get id=some o):H.put id o=H:=by
 unfold ag.put;congr 1;funext j;rw[aX];by_cases hj:j=id
 ·subst hj;simp [h]
 ·simp [hj]
theorem Dh {H:ag} (hr:HR ρ H w) {id off n:Nat} (h:H.wr id off n=true):∃e cs b,H.get id=some (.cells e cs false)∧off+n≤cs.length∧ρ id=some b∧fT ρ e cs true w.heap[b]? :=by
 unfold ag.wr at h;split at h
 ·rename_i e cs ro hg;rw[Bool.and_eq_true] at h;have hro:ro=false:=by simpa using h.1
  subst hro;obtain⟨b,h1,h2⟩:=hr.wH id _ hg;exact⟨e,cs,b,hg,Nat.le_of_ble_eq_true h.2,h1,h2⟩
 ·cases h
end
section
variable {E:kv} {H0:ag} {ρ0:dC} {w0:World} {ann:bQ} {N:Nat} {ρ lam:dC} {S:St} {a:Act} {w:World}
theorem ud {d:TypeDesc} {k e:TypeId} (h:bq d=.map k e):d=.map k e:=by cases d<;>simp_all [bq]
theorem Q3 {t:TypeId} {i:TI} {z:V} (h:E.ti t=some i) (hz:i.zero=some z) (ρ:dC) (w:World):∃z',(zeroValue t).run E.P w=.ok z' w∧VR ρ z z':=by
 obtain⟨dh,dt,hi,hu,hd,_,_,KU⟩:=jN h;rw[hz] at KU;obtain⟨z',EA,xY⟩:=Option.bind_eq_some_iff.1 KU;exact⟨z',by simp [zeroValue,typeInfo,hi,EA],iA xY⟩
theorem fo {em:Bool} {kt:TypeId} {k kd:IntKind} {n:Int} (h:E.P.underlying kt=some (.int kd)):(Instr.checkKey em 10000 kt (.int k n)).run E.P w=.ok () w:=by
 have:∀m,(Instr.checkKey em (m+1) kt (.int k n)).run E.P w=.ok () w:=by
  intro m;simp [Instr.checkKey,run_underlying h]
 exact this 9999
theorem ue {kd k:IntKind} {n:Int}:∀{es:List (V×V×Nat)} {es':List MapEntry} (i:Nat),jm ρ es es'→sf k es=true→(nh n es=none∧Instr.findNow (.int kd) (.int k n) es' i=some none)∨∃v j e,nh n es=some v∧Instr.findNow (.int kd) (.int k n) es' i=some (some (i+j,e.val))∧es'[j]? =some e∧VR ρ v e.val∧e.key=.int k n∧(∀v2 x2,VR ρ v2 x2→jm ρ (ES n v2 es) (es'.modify j fun e=>{e with key:=.int k n,val:=x2}))∧jm ρ (x9 n es) (es'.eraseIdx j)
 |[],[],i,_,_=>.inl ⟨rfl,rfl⟩
 |[],_::_,_,h,_=>h.elim
 |_::_,[],_,h,_=>h.elim
 |x::l,y::m,i,h,hk=>by
  obtain⟨⟨h1,h2,h3⟩,h4⟩:=h;rw[sf,Bool.and_eq_true] at hk;obtain⟨hx,hk⟩:=hk;have hx':x.1=.int k x.1.aa:=(V.sb hx).symm;have hy:y.key=.int k x.1.aa:=VR.iu (hx'▸h1);by_cases hn:x.1.aa=n
  ·right;rw[hn] at hx' hy;refine⟨x.2.1,0,y,by simp [nh,hn],by simp [Instr.findNow,Instr.sameNow,hy],rfl,h2,hy,fun v2 x2 hv=> ?_, ?_⟩
   ·simp only[ES,hn,decide_true,cond_true,List.modify_zero_cons];exact⟨⟨by rw[hx'];exact .int k n,hv,h3⟩,h4⟩
   ·simp only[x9,hn,decide_true,cond_true,List.eraseIdx_cons_zero];exact h4
  ·have hn':¬n=x.1.aa:=fun e=>hn e.symm
   have hb:(n == x.1.aa)=false:=by simpa using hn'
   rcases ue (kd:=kd) (n:=n) (i+1) h4 hk with⟨g1,g2⟩|⟨v,j,e,g1,g2,g3,g4,g5,g6,g7⟩
   ·exact .inl ⟨by simp [nh,hn,g1],by simp [Instr.findNow,Instr.sameNow,hy,hb,g2]⟩
   ·refine .inr ⟨v,j+1,e,by simp [nh,hn,g1], ?_,by simpa using g3,g4,g5,fun v2 x2 hv=> ?_, ?_⟩
    ·simp only[Instr.findNow,Instr.sameNow,hy,hb,if_true,g2];rw[Nat.add_assoc,Nat.add_comm 1 j]
    ·simp only[ES,hn,decide_false,cond_false,List.modify_succ_cons];exact⟨⟨h1,h2,h3⟩,g6 v2 x2 hv⟩
    ·simp only[x9,hn,decide_false,cond_false,List.eraseIdx_cons_succ];exact⟨⟨h1,h2,h3⟩,g7⟩
theorem sE {H:ag} {id:Nat} (h:H.isMap id=true):H.get id=some (.map (H.ents id) (H.clock id)):=by
 unfold ag.isMap at h;split at h
 ·rename_i es c hg;simp [ag.ents,ag.clock,hg]
 ·cases h
theorem gV {w:World} {b:Nat} {es:Array MapEntry} {c:Nat} (h:w.heap[b]? =some (.map es c)):(getObj b).run E.P w=.ok (.map es c) w:=by
 simp [getObj,Sem.run,h]
theorem Bo {w:World} {b:Nat} {m:Option Nat} {s l:Nat} {seen:Array Nat} (h:w.heap[b]? =some (.mapIter m s seen l)):(getObj b).run E.P w=.ok (.mapIter m s seen l) w:=by
 simp [getObj,Sem.run,h]
theorem qL {w:World} {b:Nat} {es:Array MapEntry} {c:Nat} {o':Go.Obj} (h:w.heap[b]? =some (.map es c)):(setObj b o').run E.P w=.ok () {w with heap:=w.heap.setIfInBounds b o'}:=by
 simp [setObj,Sem.run,h]
theorem pL (w:World) (b:Nat) (o:Go.Obj):pe b w {w with heap:=w.heap.setIfInBounds b o}:=
 ⟨fun b' hb=>by simp [Ne.symm hb],by simp,rfl,rfl,rfl⟩
theorem yI {w:World} {b:Nat} {x o:Go.Obj} (h:w.heap[b]? =some x):({w with heap:=w.heap.setIfInBounds b o}:World).heap[b]? =some o:=by
 have:b<w.heap.size:=by
  rcases Nat.lt_or_ge b w.heap.size with g|g
  ·exact g
  ·rw[Array.getElem?_eq_none g] at h;cases h
 simp [this]
theorem yJ {H:ag} (hr:HR ρ H w) {k:IntKind} {id:Nat} {x:Value} (hx:VR ρ (.map (some id)) x) (hok:eG H k (some id)=true):∃b es',ρ id=some b∧x=.map (some b)∧H.get id=some (.map (H.ents id) (H.clock id))∧w.heap[b]? =some (.map es' (H.clock id))∧jm ρ (H.ents id) es'.toList∧sf k (H.ents id)=true:=by
 simp only[eG,Option.isNone_some,Bool.false_or,Option.getD_some,Bool.and_eq_true] at hok;have hg:=sE hok.1;obtain⟨b,hb,es',he,G0⟩:=hr.wH id _ hg
 cases hx with
 |map hb'=>
  rw[hb] at hb';cases hb';exact⟨b,es',hb,rfl,hg,he,G0,hok.2⟩
theorem Di {t kt et:TypeId} {k:IntKind} (kX:E.P.underlying t=some (.map kt et)) (G1:E.P.underlying kt=some (.int k)) {z:V} {z':Value} (hz:(zeroValue et).run E.P w=.ok z' w) (hzv:VR ρ z z') {H:ag} (hr:HR ρ H w) {r:Option Nat} {x:Value} (hx:VR ρ (.map r) x) {n:Int} (hok:eG H k r=true) (c:Bool):∃v',VR ρ (cu H r n z) v'∧(Instr.lookup t x (.int k n) c).run E.P w=.ok (if c then .tuple #[v',.bool (lj H r n)] else v') w:=by
 cases r with
 |none=>
  cases hx;refine⟨z',hzv, ?_⟩;cases c<;>simp [Instr.lookup,run_underlying kX,fo (E:=E) G1,Instr.findKey,run_underlying G1,Instr.findNow,hz,lj]
 |some id=>
  obtain⟨b,es',hb,rfl,hg,he,G0,Qh⟩:=yJ hr hx hok;rcases ue (kd:=k) (n:=n) 0 G0 Qh with⟨g1,g2⟩|⟨v,j,e,g1,g2,g3,g4,g5,g6,g7⟩
  ·refine⟨z',by simpa [cu,g1] using hzv, ?_⟩;cases c<;>simp [Instr.lookup,run_underlying kX,gV (E:=E) he,fo (E:=E) G1,Instr.findKey,run_underlying G1,g2,hz,lj,g1]
  ·refine⟨e.val,by simpa [cu,g1] using g4, ?_⟩;cases c<;>simp [Instr.lookup,run_underlying kX,gV (E:=E) he,fo (E:=E) G1,Instr.findKey,run_underlying G1,g2,lj,g1]
theorem jm.Xv {x:V×V×Nat} {y:MapEntry} (h:VR ρ x.1 y.key∧VR ρ x.2.1 y.val∧x.2.2=y.born):∀{l:List (V×V×Nat)} {m:List MapEntry},jm ρ l m→jm ρ (l++[x]) (m++[y])
 |[],[],_=>⟨h,trivial⟩
 |_::_,_::_,hl=>⟨hl.1,jm.Xv h hl.2⟩
 |[],_::_,hl=>hl.elim
 |_::_,[],hl=>hl.elim
theorem xm {t kt et:TypeId} {k:IntKind} (kX:E.P.underlying t=some (.map kt et)) (G1:E.P.underlying kt=some (.int k)) {H:ag} (hr:HR ρ H w) {id:Nat} {x:Value} (hx:VR ρ (.map (some id)) x) {n:Int} (hok:eG H k (some id)=true) {v:V} {y:Value} (hv:VR ρ v y):∃b w' o,ρ id=some b∧(Instr.mapUpdate t x (.int k n) y).run E.P w=.ok () w'∧pe b w w'∧H.get id=some (.map (H.ents id) (H.clock id))∧ij H k id n v=H.put id o∧o.rw =true∧Fa ρ o w'.heap[b]? :=by
 obtain⟨b,es',hb,rfl,hg,he,G0,Qh⟩:=yJ hr hx hok;rcases ue (kd:=k) (n:=n) 0 G0 Qh with⟨g1,g2⟩|⟨v0,j,e,g1,g2,g3,g4,g5,g6,g7⟩
 ·refine⟨b,_,.map (H.ents id++[(.int k n,v,H.clock id)]) (H.clock id+1),hb, ?_,pL w b (.map (es'.push {key:=.int k n,val:=y,born:=H.clock id}) (H.clock id+1)),hg, ?_,rfl, ?_⟩
  ·simp [Instr.mapUpdate,run_underlying kX,gV (E:=E) he,fo (E:=E) G1,Instr.findKey,run_underlying G1,g2,qL (E:=E) he]
  ·simp [ij,g1]
  ·exact⟨_,yI he,by rw[Array.toList_push];exact G0.Xv ⟨.int k n,hv,rfl⟩⟩
 ·have hj:es'[j]? =some e:=by simpa using g3
  refine⟨b,_,.map (ES n v (H.ents id)) (H.clock id),hb, ?_,pL w b (.map (es'.modify j fun e=>{e with key:=.int k n,val:=y}) (H.clock id)),hg, ?_,rfl, ?_⟩
  ·simp [Instr.mapUpdate,run_underlying kX,gV (E:=E) he,fo (E:=E) G1,Instr.findKey,run_underlying G1,g2,qL (E:=E) he,hj,g5,Instr.keyThatStays,Instr.sameBits]
  ·simp [ij,g1]
  ·exact⟨_,yI he,by rw[Array.toList_modify];exact g6 v y hv⟩
theorem Dj {t kt et u ty:TypeId} {k:IntKind} (kX:E.P.underlying t=some (.map kt et)) (G1:E.P.underlying kt=some (.int k)) {H:ag} (hr:HR ρ H w) {id:Nat} {x:Value} (hx:VR ρ (.map (some id)) x) {n:Int} (hok:eG H k (some id)=true) {ts:Array TypeId} (hts:ts[0]? =some t):∃b w' o,ρ id=some b∧(Builtin.delete_ ts ty #[x,.int k n]).run E.P w=.ok (.tuple #[]) w'∧pe b w w'∧H.get id=some (.map (H.ents id) (H.clock id))∧px H (some id) n=H.put id o∧o.rw =true∧Fa ρ o w'.heap[b]? :=by
 obtain⟨b,es',hb,rfl,hg,he,G0,Qh⟩:=yJ hr hx hok
 have ED:∀l:List (V×V×Nat),nh n l=none→x9 n l=l:=by
  intro l
  induction l with
  |nil=>intro _;rfl
  |cons x l ih=>
   intro h;simp only[nh] at h;by_cases hn:x.1.aa=n
   ·simp [hn] at h
   ·simp only[hn,decide_false,cond_false] at h;simp [x9,hn,ih h]
 rcases ue (kd:=k) (n:=n) 0 G0 Qh with⟨g1,g2⟩|⟨v0,j,e,g1,g2,g3,g4,g5,g6,g7⟩
 ·refine⟨b,_,.map (x9 n (H.ents id)) (H.clock id),hb, ?_,pL w b (.map es' (H.clock id)),hg, ?_,rfl, ?_⟩
  ·simp [Builtin.delete_,hts,run_underlying kX,gV (E:=E) he,fo (E:=E) G1,Instr.findKey,run_underlying G1,g2,qL (E:=E) he]
  ·simp [px]
  ·exact⟨_,yI he,by rw[ED _ g1];exact G0⟩
 ·refine⟨b,_,.map (x9 n (H.ents id)) (H.clock id),hb, ?_,pL w b (.map (es'.eraseIdxIfInBounds j) (H.clock id)),hg, ?_,rfl, ?_⟩
  ·simp [Builtin.delete_,hts,run_underlying kX,gV (E:=E) he,fo (E:=E) G1,Instr.findKey,run_underlying G1,g2,qL (E:=E) he]
  ·simp [px]
  ·refine⟨_,yI he, ?_⟩;have:(es'.eraseIdxIfInBounds j).toList=es'.toList.eraseIdx j:=by simp
   rw[this];exact g7
theorem Fm:∀{l:List (V×V×Nat)} {m:List MapEntry},jm ρ l m→l.length=m.length
 |[],[],_=>rfl
 |_::_,_::_,hl=>by simp [Fm hl.2]
 |[],_::_,hl=>hl.elim
 |_::_,[],hl=>hl.elim
theorem yK {n:Nat}:∀{l:List Nat},tE n l=true↔n∈l
 |[]=>by simp [tE]
 |x::l=>by
  rw[tE,Bool.or_eq_true,yK,List.mem_cons];exact⟨fun h=>h.imp Nat.eq_of_beq_eq_true id,fun h=>h.imp (fun e=>by subst e;exact Nat.beq_refl n) id⟩
theorem yL {bW:Nat}:∀{l:List (V×V×Nat)} {m:List MapEntry},jm ρ l m→n5 bW l=true→∀x∈m,x.born<bW
 |[],[],_,_=>by simp
 |x::l,y::m,hl,ha=>by
  rw[n5,Bool.and_eq_true] at ha;intro z hz;rcases List.mem_cons.1 hz with rfl|hz
  ·rw[←hl.1.2.2];simpa using ha.1
  ·exact yL hl.2 ha.2 z hz
 |[],_::_,hl,_=>hl.elim
 |_::_,[],hl,_=>hl.elim
theorem Fo {seen:List Nat}:∀{l:List (V×V×Nat)} {m:List MapEntry},jm ρ l m→lh seen l=(m.filter fun e=> !seen.toArray.contains e.born).map (·.born)
 |[],[],_=>rfl
 |x::l,y::m,hl=>by
  have ih:=Fo (seen:=seen) hl.2;have hb:=hl.1.2.2
  have hc:seen.toArray.contains y.born=tE x.2.2 seen:=by
   rw[hb];cases h:tE y.born seen
   ·have:¬y.born∈seen:=fun e=>by rw[yK.2 e] at h;cases h
    simpa using this
   ·have:y.born∈seen:=yK.1 h;simpa using this
  simp only[lh,List.filter_cons,hc];cases tE x.2.2 seen
  ·simp [hb,ih]
  ·simp [ih]
 |[],_::_,hl=>hl.elim
 |_::_,[],hl=>hl.elim
theorem Fp {b:Nat}:∀{l:List (V×V×Nat)} {m:List MapEntry} {k v:V},jm ρ l m→Bb b l=some (k,v)→∃e,m.find? (·.born == b)=some e∧VR ρ k e.key∧VR ρ v e.val
 |[],[],_,_,_,h=>by cases h
 |x::l,y::m,k,v,hl,h=>by
  have hb:=hl.1.2.2;simp only[Bb,aX] at h;by_cases hx:x.2.2=b
  ·simp only[hx,decide_true,cond_true,Option.some.injEq,Prod.mk.injEq] at h;obtain⟨rfl,rfl⟩:=h;exact⟨y,by simp [←hb,hx],hl.1.1,hl.1.2.1⟩
  ·simp only[hx,decide_false,cond_false] at h;obtain⟨e,h1,h2⟩:=Fp hl.2 h;have hy:(y.born == b)=false:=by rw[←hb];simpa using hx
   exact⟨e,by rw[List.find?_cons,hy];exact h1,h2⟩
 |[],_::_,_,_,hl,_=>hl.elim
 |_::_,[],_,_,hl,_=>hl.elim
theorem Fq:∀{l:List Nat} {b:Nat},Bc l=some b→l.toArray.back?=some b
 |[],_,h=>by cases h
 |[x],b,h=>by simpa [Bc] using h
 |x::y::l,b,h=>by
  have:=Fq (l:=y::l) h;simpa using this
theorem AO (h:SR H0 ρ0 w0 ann N ρ lam S a w) {id b:Nat} {ty:TypeId} (hb:ρ id=some b) {K1:Prop} {K2:ag→Prop} (ho:mapNext S.hp id K1 K2):(K1∧(Instr.next (.pointer (some ⟨b,0,none⟩)) false ty).run E.P w=.ok (.tuple #[.bool false]) w)∨∃H' w' k v,K2 H'∧(Instr.next (.pointer (some ⟨b,0,none⟩)) false ty).run E.P w=.ok (.tuple #[.bool true,k,v]) w'∧SR H0 ρ0 w0 ann N ρ lam {S with hp:=H'} a w':=by
 unfold mapNext at ho;split at ho
 ·rename_i bW seen tD hg;obtain⟨b',hb',m',he,hm⟩:=h.hr.wH id _ hg;rw[hb] at hb';cases hb';cases hm;exact .inl ⟨ho,by simp [Instr.next,Bo (E:=E) he]⟩
 ·rename_i m bW seen tD hg;split at ho
  ·rename_i es c hgm;obtain⟨b',hb',m',he,hm⟩:=h.hr.wH id _ hg;rw[hb] at hb';cases hb';obtain⟨bm,Xe,es',hem,G0⟩:=h.hr.wH m _ hgm
   cases hm with
   |map Qi=>
    rw[Xe] at Qi;cases Qi
    cases hc:(n5 bW es&&Nat.ble bW tD) with
    |false=>simp only[hc,cond_false] at ho
    |true=>
     simp only[hc,cond_true] at ho;rw[Bool.and_eq_true] at hc;have hold:=yL G0 hc.1;have hleft:=Fo (seen:=seen) G0;have hlo:(leftOf es' seen.toArray).toList=es'.toList.filter fun e=> !seen.toArray.contains e.born:=by simp [leftOf]
     rcases run_next_at (P:=E.P) w ty b bm bW tD seen.toArray es' c he hem hold (Nat.le_of_ble_eq_true hc.2) with⟨h1,h2⟩|⟨e,h1,w1,h2,h3⟩
     ·have h0:lh seen es=[]:=by
       rw[hleft, ←hlo]
       have:(leftOf es' seen.toArray).toList=[]:=by
        apply List.eq_nil_of_length_eq_zero;simpa using h1
       rw[this];rfl
      rw[h0] at ho;exact .inl ⟨ho,h2⟩
     ·rw[hlo] at h1
      have hmem:e.born∈lh seen es:=by
       rw[hleft];exact List.mem_map.2 ⟨e,h1,rfl⟩
      have hk:K2 (S.hp.put id (.dN (some m) bW (seen++[e.born]) c)):=by
       cases hl:lh seen es with
       |nil=>rw[hl] at hmem;cases hmem
       |cons x l=>
        rw[hl] at ho hmem;exact ho _ hmem
      refine .inr ⟨_,_,_,_,hk,h3, ?_⟩
      have key:∀w2:World,SR H0 ρ0 w0 ann N ρ lam S a w2→w2.heap=w.heap→SR H0 ρ0 w0 ann N ρ lam {S with hp:=S.hp.put id (.dN (some m) bW (seen++[e.born]) c)} a
       (Go.ChangeMaps.setBlock w2 b (.mapIter (some bm) bW (seen.toArray.push e.born) c)):=by
       intro w2 hs hw;have Sy:w2.heap[b]? =some (.mapIter (some bm) bW seen.toArray tD):=by rw[hw];exact he
       refine hs.Db hg rfl rfl hb (pL w2 b _) ?_;exact⟨_,by unfold Go.ChangeMaps.setBlock;rw[yI Sy];simp,.map Xe⟩
      rcases h2 with rfl|rfl
      ·exact key _ h rfl
      ·exact key _ (h.drew _) rfl
  ·exact ho.elim
 ·exact ho.elim
theorem Dk {H:ag} (hr:HR ρ H w) {id b:Nat} (hb:ρ id=some b) (h:sg H id=true):∃k v,(Instr.entry (.pointer (some ⟨b,0,none⟩))).run E.P w=.ok (.tuple #[k,v]) w∧VR ρ (kK H id) k∧VR ρ (iJ H id) v:=by
 unfold sg at h;obtain⟨p,hp⟩:=Option.isSome_iff_exists.1 h;have hk:kK H id=p.1:=by simp [kK,hp]
 have hv:iJ H id=p.2:=by simp [iJ,hp]
 rw[hk,hv];unfold vn at hp;split at hp
 ·rename_i m bW seen tD hg;split at hp
  ·rename_i es c s hgm hl;obtain⟨b',hb',m',he,hm⟩:=hr.wH id _ hg;rw[hb] at hb';cases hb';obtain⟨bm,Xe,es',hem,G0⟩:=hr.wH m _ hgm
   cases hm with
   |map Qi=>
    rw[Xe] at Qi;cases Qi;simp only[aX] at hp;by_cases hc:c=tD
    ·subst hc;simp only[decide_true,cond_true] at hp;obtain⟨e,h1,h2,h3⟩:=Fp (k:=p.1) (v:=p.2) G0 hp;have xB:es'.find? (·.born == s)=some e:=by rw[←Array.find?_toList];exact h1
     refine⟨e.key,e.val, ?_,h2,h3⟩;simp [Instr.entry,Bo (E:=E) he,gV (E:=E) hem,Fq hl,xB]
    ·simp only[hc,decide_false,cond_false] at hp;cases hp
  ·cases hp
 ·cases hp
end
end Go.Am
end
