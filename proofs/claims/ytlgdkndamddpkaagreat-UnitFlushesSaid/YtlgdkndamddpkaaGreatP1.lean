/- Part 1 of the texts behind the law UnitFlushes: what its row needs (an abstract machine, its equations, and what the program computes). -/
import Derived.Orders
import Derived.LoopN
import Derived.Laws.IdiomCopy
import Derived.ChangeKeysEq
import Derived.Laws.Append
import Derived.Laws.AppendOwn
import Derived.IntWalk
import Derived.Maps.RangeRun
set_option maxRecDepth 100000
set_option linter.unusedSimpArgs false
set_option linter.unusedVariables false
set_option linter.unusedSectionVars false
section
namespace Go.Am
abbrev Oq:=Option (Nat×Nat)
inductive V where
 |bool (b:Bool)
 |int (k:IntKind) (n:Int)
 |cH (s:ByteArray)
 |aj (p:Oq)
 |slice (p:Oq) (len cap:Nat)
 |map (r:Option Nat)
 |func (f:FuncId) (dF:List V)
 |o9 (f:FuncId) (first:List V)
 |dM (t:TypeId) (id:Nat)
 |nilFunc
 |iface (t:TypeId) (v:V)
 |nilIface
 |agg (cs:List V)
 |tuple (vs:List V)
 |cw
 deriving Inhabited
namespace V
def none:V:=.tuple []
def ak:V→Bool| .bool b=>b|_=>false
def aa:V→Int| .int _ n=>n|_=>0
def ku:V→ByteArray| .cH s=>s|_=>ByteArray.empty
def aw:V→Oq| .aj p=>p|_=>Option.none
def au:V→Oq| .slice p _ _=>p|_=>Option.none
def ax:V→Nat| .slice _ n _=>n|_=>0
def aC:V→Nat| .slice _ _ c=>c|_=>0
def cJ:V→Option Nat| .map r=>r|_=>Option.none
def af:V→List V| .agg cs=>cs|_=>[]
def ar:V→List V| .tuple vs=>vs|_=>[]
def cells:V→List V| .agg cs=>cs|v=>[v]
def isAgg:V→Bool| .agg _=>true|_=>false
def aL (n:Nat):V→Bool| .tuple vs=>vs.length == n|_=>false
def nj:V→Bool| .nilFunc=>true|_=>false
def fp:V→Bool| .nilIface=>true|_=>false
def CR:V→TypeId| .iface t _=>t|_=>0
def M9:V→V| .iface _ v=>v|v=>v
def one:V→Bool| .agg _| .tuple _| .cw=>false|_=>true
end V
def SS:IntKind→Nat
 | .i8=>0| .i16=>1| .i32=>2| .i64=>3| .u8=>4| .u16=>5| .u32=>6| .u64=>7
def py (a b:IntKind):Bool:=Nat.beq (SS a) (SS b)
@[simp] theorem nk (a b:IntKind):py a b=decide (a=b):=by cases a<;>cases b<;>decide
def QM:Bool→Bool→Bool
 |true,b=>b
 |false,b=> !b
theorem QN (w b:Bool):QM w b=(b == w):=by cases w<;>cases b<;>rfl
inductive cg where
 |bool|int (k:IntKind)|cH|aj|slice|map|func|iface|ml
 deriving DecidableEq,Inhabited
def V.cU:V→cg
 | .bool _=>.bool| .int k _=>.int k| .cH _=>.cH| .aj _=>.aj| .slice .. =>.slice| .map _=>.map
 | .func .. | .o9 .. | .nilFunc=>.func| .iface .. | .nilIface=>.iface|_=>.ml
def V.av:cg→V→Bool
 | .bool,.bool _=>true
 | .int k,.int k' _=>py k k'
 | .cH,.cH _=>true
 | .aj,.aj _=>true
 | .slice,.slice .. =>true
 | .map,.map _=>true
 | .func,.func .. =>true
 | .func,.o9 .. =>true
 | .func,.nilFunc=>true
 | .iface,.iface .. =>true
 | .iface,.nilIface=>true
 |_,_=>false
def V.SU:cg→V→V
 | .bool,v=>.bool v.ak
 | .int k,v=>.int k v.aa
 | .cH,v=>.cH v.ku
 | .aj,v=>.aj v.aw
 | .slice,v=>.slice v.au v.ax v.aC
 | .map,v=>.map v.cJ
 |_,v=>v
theorem V.sj {k:cg} {v:V} (h:v.av k=true):v.SU k=v:=by
 cases k<;>cases v<;>simp_all [V.av,V.SU,ak,aa,ku,aw,au,ax,aC,cJ]
theorem V.sk {k:cg} {v:V} (h:v.av k=true):v.one=true:=by
 cases k<;>cases v<;>simp_all [V.av,V.one]
def ae:List V→Nat→V
 |[],_=>.none
 |x::_,0=>x
 |_::l,n+1=>ae l n
def aI:List cg→List V→Bool
 |[],[]=>true
 |k::ks,v::vs=>v.av k&&aI ks vs
 |_,_=>false
def n8:List cg→List V→Nat→List V
 |[],_,_=>[]
 |k::ks,cs,j=>(ae cs j).SU k::n8 ks cs (j+1)
def bQ (c:Bool):V→V→V
 | .int k x,.int k' y=>bif py k k' then .int k (bif c then x else y) else (bif c then .int k x else .int k' y)
 | .bool x,.bool y=>.bool (bif c then x else y)
 | .cH x,.cH y=>.cH (bif c then x else y)
 |a,b=>bif c then a else b
theorem nn (c:Bool) (a b:V):bQ c a b=if c then a else b:=by
 unfold bQ;split
 ·rename_i k x k' y;by_cases h:k=k'
  ·subst h;cases c<;>simp
  ·cases c<;>simp [h]
 ·cases c<;>rfl
 ·cases c<;>rfl
 ·cases c<;>rfl
def tJ (c:Bool):List V→List V→Option (List V)
 |[],[]=>some []
 |x::l,y::m=>match tJ c l m with|some r=>some (bQ c x y::r)|none=>none
 |_,_=>none
def Ht (c:Bool):V→V→V
 | .agg xs,.agg ys=>match tJ c xs ys with|some r=>.agg r|none=>bif c then .agg xs else .agg ys
 |a,b=>bQ c a b
theorem sl {c:Bool}:∀{xs ys r:List V},tJ c xs ys=some r→r=if c then xs else ys
 |[],[],r,h=>by cases h;cases c<;>rfl
 |x::l,y::m,r,h=>by
  simp only[tJ] at h;split at h
  ·rename_i r' h';cases h;rw[nn,sl h'];cases c<;>rfl
  ·cases h
 |[],_::_,_,h=>by cases h
 |_::_,[],_,h=>by cases h
theorem KY (c:Bool) (a b:V):Ht c a b=if c then a else b:=by
 unfold Ht;split
 ·split
  ·rename_i r h;rw[sl h];cases c<;>rfl
  ·cases c<;>rfl
 ·exact nn c _ _
def yf:List V→Nat→Nat→V→List V
 |[],_,_,_=>[]
 |x::l,j,n,v=>bQ (Nat.beq j n) v x::yf l (j+1) n v
def bM:List V→Nat→List V→List V
 |cs,_,[]=>cs
 |cs,off,v::vs=>bM (yf cs 0 off v) (off+1) vs
inductive T where
 |v (x:V)
 |lp (s off:Nat)
 |undef
 deriving Inhabited
inductive aO where
 |cells (e:TypeId) (cs:List V)
 |dM (s:ByteArray) (jl:Nat)
 deriving Inhabited
inductive Obj where
 |cells (e:TypeId) (cs:List V) (ro:Bool)
 |map (es:List (V×V×Nat)) (clock:Nat)
 |dM (m:Option Nat) (bV:Nat) (seen:List Nat) (tK:Nat)
 deriving Inhabited
def so (k:IntKind):List (V×V×Nat)→Bool
 |[]=>true
 |e::l=>e.1.av (.int k)&&so k l
def np (n:Int):List (V×V×Nat)→Option V
 |[]=>none
 |e::l=>bif decide (e.1.aa=n) then some e.2.1 else np n l
def EZ (n:Int) (v:V):List (V×V×Nat)→List (V×V×Nat)
 |[]=>[]
 |e::l=>bif decide (e.1.aa=n) then (e.1,v,e.2.2)::l else e::EZ n v l
def yg (n:Int):List (V×V×Nat)→List (V×V×Nat)
 |[]=>[]
 |e::l=>bif decide (e.1.aa=n) then l else e::yg n l
def Bs (b:Nat):List (V×V×Nat)→Option (V×V)
 |[]=>none
 |e::l=>bif Nat.beq e.2.2 b then some (e.1,e.2.1) else Bs b l
def n9 (bV:Nat):List (V×V×Nat)→Bool
 |[]=>true
 |e::l=>Nat.blt e.2.2 bV&&n9 bV l
def tL (n:Nat):List Nat→Bool
 |[]=>false
 |x::l=>Nat.beq n x||tL n l
def lg (seen:List Nat):List (V×V×Nat)→List Nat
 |[]=>[]
 |e::l=>bif tL e.2.2 seen then lg seen l else e.2.2::lg seen l
def Bt:List Nat→Option Nat
 |[]=>none
 |[x]=>some x
 |_::l=>Bt l
def Na:List Nat:=[]
structure ag where
 get:Nat→Option Obj
 next:Nat
namespace ag
def cs (H:ag) (id:Nat):List V:=match H.get id with|some (.cells _ cs _)=>cs|_=>[]
def inb (H:ag) (id off n:Nat):Bool:=match H.get id with|some (.cells _ cs _)=>Nat.ble (off+n) cs.length|_=>false
def wr (H:ag) (id off n:Nat):Bool:=match H.get id with|some (.cells _ cs ro)=> !ro&&Nat.ble (off+n) cs.length|_=>false
def cell (H:ag) (id off:Nat):V:=ae (H.cs id) off
def sub (H:ag) (id off n:Nat):List V:=((H.cs id).drop off).take n
def put (H:ag) (id:Nat) (o:Obj):ag:={H with get:=fun j=>bif Nat.beq j id then some o else H.get j}
def store (H:ag) (id off:Nat) (vs:List V):ag:=
 match H.get id with
 |some (.cells e cs ro)=>H.put id (.cells e (bM cs off vs) ro)
 |_=>H
def alloc (H:ag) (o:Obj):ag:={get:=fun j=>bif Nat.beq j H.next then some o else H.get j,next:=H.next+1}
def ents (H:ag) (id:Nat):List (V×V×Nat):=match H.get id with|some (.map es _)=>es|_=>[]
def isMap (H:ag) (id:Nat):Bool:=match H.get id with|some (.map _ _)=>true|_=>false
def clock (H:ag) (id:Nat):Nat:=match H.get id with|some (.map _ c)=>c|_=>0
end ag
def eC (H:ag) (k:IntKind) (r:Option Nat):Bool:=r.isNone||(H.isMap (r.getD 0)&&so k (H.ents (r.getD 0)))
def lh (H:ag) (r:Option Nat) (n:Int):Bool:=r.isSome&&(np n (H.ents (r.getD 0))).isSome
def cn (H:ag) (r:Option Nat) (n:Int) (z:V):V:=bif r.isNone then z else (np n (H.ents (r.getD 0))).getD z
def yh (H:ag) (r:Option Nat):Nat:=bif r.isNone then 0 else (H.ents (r.getD 0)).length
def im (H:ag) (k:IntKind) (id:Nat) (n:Int) (v:V):ag:=
 bif (np n (H.ents id)).isSome then H.put id (.map (EZ n v (H.ents id)) (H.clock id))
 else H.put id (.map (H.ents id++[(.int k n,v,H.clock id)]) (H.clock id+1))
def pA (H:ag) (r:Option Nat) (n:Int):ag:=bif r.isNone then H else H.put (r.getD 0) (.map (yg n (H.ents (r.getD 0))) (H.clock (r.getD 0)))
def mapIter (H:ag) (r:Option Nat):Obj:=bif r.isNone then .dM none 0 [] 0 else .dM r (H.clock (r.getD 0)) [] (H.clock (r.getD 0))
def mapNext (H:ag) (id:Nat) (K1:Prop) (K2:ag→Prop):Prop:=
 match H.get id with
 |some (.dM none _ _ _)=>K1
 |some (.dM (some m) bV seen tK)=>
  match H.get m with
  |some (.map es c)=>
   bif n9 bV es&&Nat.ble bV tK then
    (match lg seen es with
    |[]=>K1
    |x::l=>∀b,b∈x::l→K2 (H.put id (.dM (some m) bV (seen++[b]) c)))
   else False
  |_=>False
 |_=>False
def vB (H:ag) (id:Nat):Option (V×V):=
 match H.get id with
 |some (.dM (some m) _ seen tK)=>
  match H.get m,Bt seen with
  |some (.map es c),some b=>bif Nat.beq c tK then Bs b es else none
  |_,_=>none
 |_=>none
def sr (H:ag) (id:Nat):Bool:=(vB H id).isSome
def kK (H:ag) (id:Nat):V:=((vB H id).getD (.cw,.cw)).1
def iL (H:ag) (id:Nat):V:=((vB H id).getD (.cw,.cw)).2
structure St where
 tm:Nat→Option T
 lo:Nat→Option aO
 hp:ag
def St.setT (S:St) (d:Nat) (x:T):St:={S with tm:=fun t=>bif Nat.beq t d then some x else S.tm t}
def St.setL (S:St) (s:Nat) (x:aO):St:={S with lo:=fun t=>bif Nat.beq t s then some x else S.lo t}
def ab {α:Type}:List (Nat×α)→Nat→Option α
 |[],_=>none
 |(k,x)::l,n=>bif Nat.beq n k then some x else ab l n
inductive Nb where
 |bool|int (k:IntKind)|cH|aj (e:TypeId)|slice (e:TypeId)|map (k e:TypeId)|func|iface
 |vx (n:Nat) (e:TypeId)|struct (fs:List (Nat×TypeId))|tuple (ts:List TypeId)|ml
 deriving DecidableEq,Inhabited
structure TI where
 sh:Nb
 size:Nat
 bytes:Nat
 zero:Option V
 deriving Inhabited
def ofValue:Value→Option V
 | .bool b=>some (.bool b)
 | .int k n=>some (.int k n)
 | .string s=>some (.cH s)
 | .pointer none=>some (.aj none)
 | .slice none 0 0=>some (.slice none 0 0)
 | .map none=>some (.map none)
 | .nilFunc=>some .nilFunc
 | .nilIface=>some .nilIface
 |_=>none
def jR:List Value→Option (List V)
 |[]=>some []
 |x::l=>match ofValue x,jR l with
  |some y,some m=>some (y::m)
  |_,_=>none
def lj:Value→Option V
 | .agg cs=>match jR cs.toList with|some l=>some (.agg l)|none=>none
 |v=>ofValue v
def bo:TypeDesc→Nb
 | .bool=>.bool
 | .int k=>.int k
 | .string=>.cH
 | .pointer e=>.aj e
 | .slice e=>.slice e
 | .map k e=>.map k e
 | .func .. =>.func
 | .interface _=>.iface
 | .array n e=>.vx n e
 | .struct fs=>.struct (fs.toList.map fun f=>(f.offset,f.type))
 | .tuple ts=>.tuple ts.toList
 |_=>.ml
def QO (P:Program) (t:TypeId):Option TI:=
 match P.info? t,P.underlying t with
 |some i,some d=>some {sh:=bo d,size:=i.size,bytes:=i.bytes,zero:=i.zero.bind lj}
 |_,_=>none
inductive KT where
 |k (k:cg)
 |agg (ks:List cg)
 |lp (s:Nat)
 |undef
 deriving Inhabited
structure ju where
 cW:List Nat:=[]
 vy:List Nat:=[]
 cj:List (Nat×KT):=[]
 g8:List (Nat×TypeId×List cg):=[]
 mM:List (Nat×KT):=[]
 TN:List (Nat×TypeId×List cg):=[]
 cC:List Nat:=[]
 mg:Bool:=false
 dl:Bool:=false
 wT:List Nat:=[]
 wL:List Nat:=[]
 deriving Inhabited
structure bP where
 aX:List Nat:=[]
 aV:List (Nat×Nat):=[]
 bg:List (Nat×ju):=[]
 aD:List (Nat×ju):=[]
 deriving Inhabited
def bC (n:Nat):List Nat→Bool
 |[]=>false
 |x::l=>Nat.beq n x||bC n l
def lk (g:TypeId→Option (List cg)):List Field→Nat→Option (List cg)
 |[],_=>some []
 |f::l,o=>bif f.name != "_" &&Nat.beq f.offset o then (match g f.type with
  |some ks=>(match lk g l (o+ks.length) with|some r=>some (ks++r)|none=>none)
  |none=>none) else none
def AT:Nat→List cg→List cg
 |0,_=>[]
 |n+1,ks=>ks++AT n ks
def ll (P:Program):Nat→TypeId→Option (List cg)
 |0,_=>none
 |d+1,t=>match P.underlying t with
  |some .bool=>some [.bool]
  |some (.int k)=>some [.int k]
  |some .string=>some [.cH]
  |some (.struct fs)=>bif P.stoodInHeld t then none else match lk (ll P d) fs.toList 0 with
   |some ks=>bif Nat.beq (P.cellsOf t) ks.length then some ks else none
   |none=>none
  |some (.array n e)=>match ll P d e with
   |some ks=>bif Nat.beq (P.cellsOf e) ks.length&&Nat.beq (P.cellsOf t) (n*ks.length) then some (AT n ks) else none
   |none=>none
  |_=>none
def iM:TypeDesc→Bool
 | .struct _=>true
 | .array _ _=>true
 |_=>false
def KZ (P:Program) (t:TypeId) (ks:List cg):Bool:=
 !P.eqGuardType P.depth t&&decide (ll P 50 t=some ks)&&(match P.underlying t with|some d=>iM d|none=>false)
structure Ext where
 run:List V→ag→(V→ag→Prop)→Prop
 mono:∀args H (K K':V→ag→Prop),(∀v H',K v H'→K' v H')→run args H K→run args H K'
 vC:∀args H (K:V→ag→Prop),run args H K→∃v H',K v H'
structure kv where
 P:Program
 ext:Nat→Option Ext:=fun _=>none
 fn:Nat→Option Func
 fn_ok:∀f x,fn f=some x→P.funcs[f]? =some x
 ti:Nat→Option TI
 ti_ok:∀t x,ti t=some x→QO P t=some x
 ann:Nat→bP
 eqt:List (TypeId×List cg)
 eq_ok:∀t ks,ab eqt t=some ks→KZ P t ks=true
 names:P.funcs.toList.all (fun fn=> !(fn.name == "runtime.NumGoroutine"))=true
structure fR (α:Type) where
 rq:Bool
 c:Bool
 x:α
 y:α
def fR.one {α:Type} (rq:Bool) (x:α):fR α:=⟨rq,true,x,x⟩
abbrev Ev:=Operand→Option T
def cS (tm:Nat→Option T):Operand→Option T
 | .tmp t=>tm t
 | .const v=>match ofValue v with|some x=>some (.v x)|none=>none
 | .func f=>some (.v (.func f []))
 | .global _=>none
def jd (ev:Ev) (x:Operand):Option V:=match ev x with|some (.v y)=>some y|_=>none
def ss (ev:Ev):List Operand→Option (List V)
 |[]=>some []
 |x::l=>match jd ev x,ss ev l with
  |some y,some m=>some (y::m)
  |_,_=>none
def cM:Nb→Option cg
 | .bool=>some .bool
 | .int k=>some (.int k)
 | .cH=>some .cH
 | .aj _=>some .aj
 | .slice _=>some .slice
 | .map .. =>some .map
 | .func=>some .func
 | .iface=>some .iface
 |_=>none
section aF
variable (E:kv)
def size (t:TypeId):Option Nat:=match E.ti t with|some i=>some i.size|none=>none
def bh (t:TypeId):Option cg:=
 match E.ti t with
 |some i=>cM i.sh
 |none=>none
def oa (t:TypeId):Option (List cg):=
 match E.ti t with
 |some i=>match i.sh,i.zero with
  | .vx ..,some (.agg z)=>some (z.map V.cU)
  | .struct _,some (.agg z)=>some (z.map V.cU)
  |_,_=>none
 |none=>none
def tM (t:TypeId) (v:V):Option (Bool×V):=
 match bh E t with
 |some k=>some (v.av k,v.SU k)
 |none=>match oa E t with
  |some ks=>some (v.isAgg&&aI ks v.af,.agg (n8 ks v.af 0))
  |none=>none
def tN:List TypeId→V→Nat→Option (Bool×List V)
 |[],_,_=>some (true,[])
 |t::ts,v,j=>match tM E t (ae v.ar j),tN ts v (j+1) with
  |some (b,x),some (c,l)=>some (b&&c,x::l)
  |_,_=>none
def tO (t:TypeId) (v:V):Option (Bool×V):=
 match E.ti t with
 |some i=>match i.sh with
  | .tuple []=>some (true,v)
  | .tuple ts=>match tN E ts v 0 with
    |some (b,l)=>some (v.aL ts.length&&b,.tuple l)
    |none=>none
  |_=>tM E t v
 |none=>none
def kL (y:Int) (n:Nat):Nat:=min y.toNat n
def vD (op:BinOp) (k:IntKind) (x y:Int):Option (Bool×V):=
 match op with
 | .add=>some (true,.int k (k.wrap (x+y)))
 | .sub=>some (true,.int k (k.wrap (x-y)))
 | .mul=>some (true,.int k (k.wrap (x*y)))
 | .quo=>some (!(y == 0),.int k (k.wrap (x.tdiv y)))
 | .rem=>some (!(y == 0),.int k (x.tmod y))
 | .and=>some (true,.int k (k.wrap (BitVec.ofInt k.bits x &&& BitVec.ofInt k.bits y).toNat))
 | .or=>some (true,.int k (k.wrap (BitVec.ofInt k.bits x ||| BitVec.ofInt k.bits y).toNat))
 | .xor=>some (true,.int k (k.wrap (BitVec.ofInt k.bits x ^^^ BitVec.ofInt k.bits y).toNat))
 | .andNot=>some (true,.int k (k.wrap (BitVec.ofInt k.bits x &&& ~~~ BitVec.ofInt k.bits y).toNat))
 | .eql=>some (true,.bool (x == y))
 | .neq=>some (true,.bool (x != y))
 | .lss=>some (true,.bool (decide (x<y)))
 | .leq=>some (true,.bool (decide (x≤y)))
 | .gtr=>some (true,.bool (decide (x>y)))
 | .geq=>some (true,.bool (decide (x≥y)))
 | .shl=>some (decide (0≤y),.int k (k.wrap (x*2 ^ (kL y k.bits))))
 | .shr=>some (decide (0≤y),.int k (x.fdiv (2 ^ (kL y k.bits))))
def nq (x y:ByteArray):Bool:=x.toList == y.toList
def Xe (x y:ByteArray):ByteArray:=x++y
def Nc (x y:ByteArray):Bool:=Nat.ble (x.size+y.size) 9223372036854775807
def Hu (op:BinOp) (x y:ByteArray):Option (Bool×V):=
 match op with
 | .add=>some (Nc x y,.cH (Xe x y))
 | .eql=>some (true,.bool (nq x y))
 | .neq=>some (true,.bool (!(nq x y)))
 | .lss=>some (true,.bool (Op.bytesLess x.toList y.toList))
 | .leq=>some (true,.bool (Op.bytesLess x.toList y.toList||x.toList == y.toList))
 | .gtr=>some (true,.bool (!(Op.bytesLess x.toList y.toList||x.toList == y.toList)))
 | .geq=>some (true,.bool (!Op.bytesLess x.toList y.toList))
 |_=>none
def eu:List V→List V→Option Bool
 |[],[]=>some true
 | .int k x::l,.int k' y::m=>bif py k k' then (match eu l m with|some b=>some (x == y&&b)|none=>none) else none
 | .bool x::l,.bool y::m=>match eu l m with|some b=>some (x == y&&b)|none=>none
 | .cH x::l,.cH y::m=>match eu l m with|some b=>some (x == y&&b)|none=>none
 |_,_=>none
def db (xs ys:List V):Bool:=match eu xs ys with|some b=>b|none=>false
def hO (t:TypeId) (v:V):Option (Bool×List V):=
 match size E t with
 |none=>none
 |some n=>match bh E t with
  |some k=>bif Nat.beq n 1 then some (v.av k,[v]) else none
  |none=>match oa E t with
   |some _=>match v with
    | .agg cs=>some (Nat.beq cs.length n,cs)
    |_=>none
   |none=>none
def sv:Operand→Bool
 | .const .nilIface=>true
 |_=>false
def iN (t:TypeId) (nils:Bool):V→V→Option (Bool×Bool)
 | .bool x,.bool y=>match bh E t with|some .bool=>some (true,x == y)|_=>none
 | .aj p,.aj none=>match bh E t with|some .aj=>some (true,p.isNone)|_=>none
 | .aj none,.aj p=>match bh E t with|some .aj=>some (true,p.isNone)|_=>none
 | .slice p _ _,.slice none _ _=>match bh E t with|some .slice=>some (true,p.isNone)|_=>none
 | .slice none _ _,.slice p _ _=>match bh E t with|some .slice=>some (true,p.isNone)|_=>none
 | .map p,.map none=>match bh E t with|some .map=>some (true,p.isNone)|_=>none
 | .map none,.map p=>match bh E t with|some .map=>some (true,p.isNone)|_=>none
 | .agg xs,.agg ys=>match ab E.eqt t,eu xs ys with|some ks,some _=>some (aI ks xs&&aI ks ys,db xs ys)|_,_=>none
 |v,.nilFunc=>match bh E t with|some .func=>some (v.av .func,v.nj)|_=>none
 | .nilFunc,v=>match bh E t with|some .func=>some (v.av .func,v.nj)|_=>none
 |v,.nilIface=>bif nils then (match bh E t with|some .iface=>some (v.av .iface,v.fp)|_=>none) else none
 |_,_=>none
def CS (op:BinOp) (t:TypeId) (nils:Bool):V→V→Option (Bool×V)
 | .int k x,.int k' y=>
   match op with
   | .shl| .shr=>vD op k x y
   |_=>bif py k k' then vD op k x y else none
 | .cH x,.cH y=>Hu op x y
 |x,y=>match op with
  | .eql=>match iN E t nils x y with|some (r,b)=>some (r,.bool b)|none=>none
  | .neq=>match iN E t nils x y with|some (r,b)=>some (r,.bool (!b))|none=>none
  |_=>none
def Jb (t:TypeId) (v:V):Option (Bool×Bool):=match bh E t with|some .iface=>some (v.av .iface,v.fp)|_=>none
def CT (t:TypeId) (v:V):Option (Bool×Bool):=match bh E t with|some .func=>some (v.av .func,v.nj)|_=>none
def TO (op:BinOp) (t:TypeId) (nils:Bool) (a b:V):Option (Bool×V):=
 match b with
 | .nilIface=>match nils with
   |true=>match op with
    | .eql=>match Jb E t a with|some (r,b)=>some (r,.bool b)|none=>none
    | .neq=>match Jb E t a with|some (r,b)=>some (r,.bool (!b))|none=>none
    |_=>none
   |false=>CS E op t false a .nilIface
 | .nilFunc=>match op with
   | .eql=>match CT E t a with|some (r,b)=>some (r,.bool b)|none=>none
   | .neq=>match CT E t a with|some (r,b)=>some (r,.bool (!b))|none=>none
   |_=>none
 |b=>CS E op t nils a b
def unV:UnOp→V→Option V
 | .not,.bool b=>some (.bool (!b))
 | .neg,.int k n=>some (.int k (k.wrap (0-n)))
 | .xor,.int k n=>some (.int k (k.wrap (BitVec.ofInt k.bits (bif k.signed then-1 else k.max) ^^^ BitVec.ofInt k.bits n).toNat))
 |_,_=>none
def mN (t:TypeId) (cs:List V) (off:Nat):Option (Bool×V):=
 match bh E t with
 |some k=>some (Nat.blt off cs.length&&(ae cs off).av k,(ae cs off).SU k)
 |none=>match oa E t,size E t with
  |some _,some n=>some (Nat.ble (off+n) cs.length,.agg ((cs.drop off).take n))
  |_,_=>none
def Hv (s:ByteArray) (i:Nat):Int:=((s.data.toList.getD i 0).toNat:Int)
def tP (t:TypeId) (f:Nat):Option (Nat×TypeId):=
 match E.ti t with
 |some i=>match i.sh with
  | .struct fs=>fs[f]?
  |_=>none
 |none=>none
def sw:Nat→Bool
 |0=>false
 |_=>true
def rP (x:Operand) (ev:Ev):Option Int:=match jd ev x with|some (.int _ i)=>some i|_=>none
def mO (ev:Ev) (x:Option Operand) (dflt most:Nat):Option (Bool×Nat):=
 match x with
 |none=>some (true,dflt)
 |some y=>match rP y ev with
  |some i=>some (decide (0≤i)&&decide (i≤(most:Int)),i.toNat)
  |none=>none
def gw (ev:Ev) (len cap:Nat) (lo hi mx:Option Operand):Option (Bool×Nat×Nat×Nat):=
 bif hi.isNone&&mx.isSome then none else
 match mO ev mx cap cap with
 |some m=>match mO ev hi len m.2 with
  |some h=>match mO ev lo 0 h.2 with
   |some l=>some (m.1&&h.1&&l.1,l.2,h.2,m.2)
   |none=>none
  |none=>none
 |none=>none
def bN (p:Oq) (n:Nat):Oq:=match p with|some (id,off)=>some (id,off+n)|none=>none
def xN (mx:Bool):List V→Option V
 |[.int k x]=>some (.int k x)
 |[.int k x,.int k' y]=>bif py k k' then some (.int k (bif mx then (bif decide (y>x) then y else x) else (bif decide (y<x) then y else x))) else none
 |_=>none
def E0 (b:Builtin) (args:List V) (t:TypeId):Option (fR T):=
 match b,args with
 | .len,[.cH s]=>match bh E t with|some .cH=>some (.one true (.v (.int .i64 (s.size:Int))))|_=>none
 | .len,[.slice _ n _]=>match bh E t with|some .slice=>some (.one true (.v (.int .i64 (n:Int))))|_=>none
 | .cap,[.slice _ _ c]=>match bh E t with|some .slice=>some (.one true (.v (.int .i64 (c:Int))))|_=>none
 | .min,vs=>match xN false vs with|some v=>some (.one true (.v v))|none=>none
 | .max,vs=>match xN true vs with|some v=>some (.one true (.v v))|none=>none
 |_,_=>none
def Bu (x:Option (Bool×V)):Option (fR T):=match x with|some (r,v)=>some (.one r (.v v))|none=>none
def qI (place:Nat→Option (Nat×TypeId)) (cells:List V):List (Nat×V)→Option (Bool×List V)
 |[]=>some (true,cells)
 |(i,v)::rest=>
  match place i with
  |none=>none
  |some (off,t)=>
   match hO E t v,size E t with
   |some (r,vs),some n=>bif Nat.beq vs.length n&&Nat.ble (off+n) cells.length then
    (match qI place (bM cells off vs) rest with
    |some (r',cs)=>some (r&&r',cs)
    |none=>none) else none
   |_,_=>none
def kM (ev:Ev):List (Nat×Operand)→Option (List (Nat×V))
 |[]=>some []
 |(i,x)::l=>match jd ev x,kM ev l with
  |some y,some m=>some ((i,y)::m)
  |_,_=>none
def tQ:List (Nat×TypeId)→Bool
 |[]=>true
 |(_,t)::l=>(size E t).isSome&&tQ l
def E1 (t:TypeId):Option (Nat→Option (Nat×TypeId)):=
 match E.ti t with
 |some i=>match i.sh with
  | .struct fs=>bif tQ E fs then some fun j=>fs[j]? else none
  | .vx _ e=>match size E e with|some n=>some fun j=>some (j*n,e)|none=>none
  |_=>none
 |none=>none
def aZ (o:Op) (ev:Ev):Option (fR T):=
 match o with
 | .move x| .assign x=>match ev x with|some y=>some (.one true y)|none=>none
 | .pick c a b=>
   match ev c with
   |some (.v (.bool t))=>
    match ev a,ev b with
    |some (.v (.bool x)),some (.v (.bool y))=>some (.one true (.v (.bool (bif t then x else y))))
    |a',b'=>match t with
     |true=>(match a' with|some y=>some (.one true y)|none=>none)
     |false=>(match b' with|some y=>some (.one true y)|none=>none)
   |_=>none
 | .binOp op t x y _=>match jd ev x,jd ev y with|some a,some b=>Bu (TO E op t (sv y) a b)|_,_=>none
 | .unOp op _ x=>match jd ev x with|some a=>(match unV op a with|some v=>some (.one true (.v v))|none=>none)|none=>none
 | .convert s d x=>
   match E.ti s,bh E d,jd ev x with
   |some _,some (.int k),some (.int _ n)=>some (.one true (.v (.int k (k.wrap n))))
   |some _,some .cH,some (.cH s)=>some (.one true (.v (.cH s)))
   |some _,some .cH,some (.int _ n)=>some (.one true (.v (.cH (Utf8.encode n))))
   |_,_,_=>none
 | .nilCheck x=>
   match ev x with
   |some (.v (.aj p))=>some (.one p.isSome (.v (.aj (some ((p.getD (0,0)).1,(p.getD (0,0)).2)))))
   |some (.lp s off)=>some (.one true (.lp s off))
   |_=>none
 | .fieldAddr t x f=>
   match tP E t f with
   |some (o,ft)=>match size E ft with
    |some n=>bif sw n then (match ev x with
     |some (.v (.aj (some (id,off))))=>some (.one true (.v (.aj (some (id,off+o)))))
     |some (.lp s off)=>some (.one true (.lp s (off+o)))
     |_=>none) else none
    |none=>none
   |none=>none
 | .field t x f=>
   match tP E t f,jd ev x with
   |some (o,ft),some (.agg cs)=>Bu (mN E ft cs o)
   |_,_=>none
 | .indexAddr t x i=>
   match rP i ev,E.ti t with
   |some n,some ti=>match ti.sh with
    | .vx len e=>match size E e,ev x with
      |some sz,some (.v (.aj (some (id,off))))=>some (.one (decide (0≤n)&&decide (n<(len:Int))) (.v (.aj (some (id,off+n.toNat*sz)))))
      |some sz,some (.lp s off)=>some (.one (decide (0≤n)&&decide (n<(len:Int))) (.lp s (off+n.toNat*sz)))
      |_,_=>none
    | .slice e=>match size E e,ev x with
      |some sz,some (.v (.slice p len _))=>some (.one (decide (0≤n)&&decide (n<(len:Int))&&p.isSome) (.v (.aj (some ((p.getD (0,0)).1,(p.getD (0,0)).2+n.toNat*sz)))))
      |_,_=>none
    |_=>none
   |_,_=>none
 | .index t x i=>
   match rP i ev,E.ti t,jd ev x with
   |some n,some ti,some v=>match ti.sh,v with
    | .vx len e,.agg cs=>match size E e with
      |some sz=>match mN E e cs (n.toNat*sz) with
       |some (r,y)=>some (.one (decide (0≤n)&&decide (n<(len:Int))&&r) (.v y))
       |none=>none
      |none=>none
    | .cH,.cH s=>some (.one (decide (0≤n)&&decide (n<(s.size:Int))) (.v (.int .u8 (Hv s n.toNat))))
    |_,_=>none
   |_,_,_=>none
 | .slice t x lo hi mx=>
   match E.ti t,ev x with
   |some ti,some (.v (.cH s))=>
    match ti.sh,mx with
    | .cH,none=>match gw ev s.size s.size lo hi none with
      |some (r,l,h,_)=>some (.one r (.v (.cH (s.extract l h))))
      |none=>none
    |_,_=>none
   |some ti,some (.v (.slice p len cap))=>
    match ti.sh with
    | .slice e=>match gw ev len cap lo hi mx,size E e with
      |some (r,l,h,m),some sz=>some (.one (r&&Nat.ble h m) (.v (.slice (bN p (l*sz)) (h-l) (m-l))))
      |_,_=>none
    |_=>none
   |some ti,some (.v (.aj (some (id,off))))=>
    match ti.sh with
    | .vx n e=>match gw ev n n lo hi mx,size E e with
      |some (r,l,h,m),some sz=>some (.one (r&&Nat.ble h m) (.v (.slice (some (id,off+l*sz)) (h-l) (m-l))))
      |_,_=>none
    |_=>none
   |_,_=>none
 | .makeInterface t x=>
   match bh E t,jd ev x with
   |some .iface,_=>none
   |_,some v=>match E.ti t with|some _=>some (.one true (.v (.iface t v)))|none=>none
   |_,_=>none
 | .makeFunc (.func f) first dF=>
   match first.toList,dF.toList with
   |[],_=>match ss ev dF.toList with
    |some cs=>some (.one true (.v (.func f cs)))
    |none=>none
   |x::l,[]=>match ss ev (x::l) with
    |some cs=>some (.one true (.v (.o9 f cs)))
    |none=>none
   |_,_=>none
 | .extract x i=>
   match jd ev x with
   |some (.tuple vs)=>match vs[i]? with|some v=>some (.one true (.v v))|none=>none
   |_=>none
 | .build t parts=>
   match E.ti t,E1 E t,kM ev parts.toList with
   |some ti,some pl,some ps=>match ti.zero with
    |some (.agg z)=>match qI E pl z ps with|some (r,cs)=>some (.one r (.v (.agg cs)))|none=>none
    |_=>none
   |_,_,_=>none
 | .typeAssert x _ d ok=>
   match jd ev x,E.ti d with
   |some v,some ti=>match ti.sh with
    | .iface=>none
    |_=>match tM E d v.M9,ti.zero with
     |some (r,y),some z=>
      let t:Bool:= !v.fp&&Nat.beq v.CR d
      match ok with
      |true=>
       some ⟨v.av .iface&&(!t||r),t,.v (.tuple [y,.bool true]),.v (.tuple [z,.bool false])⟩
      |false=>some (.one (v.av .iface&&t&&r) (.v y))
     |_,_=>none
   |_,_=>none
 | .call c=>
   match c.callee with
   | .builtin b=>match ss ev c.args.toList,c.argTypes.toList[0]? with|some vs,some t=>E0 E b vs t|_,_=>none
   |_=>none
 |_=>none
def gR (o:Op) (ev:Ev) (s:Nat) (L:Option aO):Option (fR T):=
 match o with
 | .load t a=>
   match ev a,L with
   |some (.lp s' off),some (.cells _ cs)=>bif Nat.beq s s' then Bu (mN E t cs off) else none
   |_,_=>none
 |_=>none
def ln (e:TypeId) (cs:List V):Bool×List V:=
 match oa E e with
 |some ks=>(aI ks cs,n8 ks cs 0)
 |none=>(true,cs)
def dZ (o:Op) (ev:Ev) (s:Nat) (L:Option aO):Option (fR (aO×T)):=
 match o with
 | .store t a x=>
   match ev a,jd ev x,L with
   |some (.lp s' off),some v,some (.cells e cs)=>
    match hO E t v with
    |some (r,vs)=>bif Nat.beq s s' then
     some (.one (r&&Nat.ble (off+vs.length) cs.length&&(ln E e (bM cs off vs)).1) (.cells e (ln E e (bM cs off vs)).2,.undef)) else none
    |none=>none
   |_,_,_=>none
 | .next it true=>
   match ev it,L with
   |some (.lp s' 0),some (.dM cH jl)=>
    bif Nat.beq s s' then
     some ⟨true,Nat.blt jl cH.size,(.dM cH (jl+(Utf8.decode cH jl).2),.v (.tuple [.bool true,.int .i64 (jl:Int),.int .i32 ((Utf8.decode cH jl).1:Int)])),
      (.dM cH jl,.v (.tuple [.bool false]))⟩
    else none
   |_,_=>none
 |_=>none
def iO (o:Op) (ev:Ev):Option (Bool×aO):=
 match o with
 | .alloc t=>match E.ti t with
   |some i=>match i.zero with|some z=>some (true,.cells t z.cells)|none=>none
   |none=>none
 | .box t x=>match jd ev x with
   |some v=>match hO E t v with|some (r,vs)=>some (r,.cells t vs)|none=>none
   |none=>none
 | .range t x=>match bh E t,jd ev x with
   |some .cH,some (.cH s)=>some (true,.dM s 0)
   |_,_=>none
 |_=>none
end aF
def br (c:Bool) (X Y:Prop):Prop:=match c with|true=>X|false=>Y
def ah (c:Bool) (X:Prop):Prop:=match c with|true=>X|false=>False
def pb (p:Oq):Nat:=(p.getD (0,0)).1
def po (p:Oq):Nat:=(p.getD (0,0)).2
theorem CU (a b:Nat):pb (some (a,b))=a:=rfl
theorem CV (a b:Nat):po (some (a,b))=b:=rfl
theorem oT (p:Oq):pb p=(p.getD (0,0)).1:=rfl
theorem oU (p:Oq):po p=(p.getD (0,0)).2:=rfl
def nm {α:Type} (a:α) (K:α→Prop):Prop:=K a
theorem oV {α:Type} (a:α) (K:α→Prop):nm a K=K a:=rfl
def cv {α:Type} (A:(α→Prop)→Prop) (Q:α→Prop):Prop:=A Q
structure mn where
 call:FuncId→List V→ag→(V→ag→Prop)→Prop
 loop:Code→FuncId→Nat→St→(St→Prop)→(Nat→St→Prop)→Prop
inductive Ex where
 |normal|exit (id:Nat)|ret
def fR.run {α:Type} (d:fR α) (K:α→Prop):Prop:=ah d.rq (br d.c (K d.x) (K d.y))
inductive Cls where
 |pure|oW (s:Nat)|iP (s:Nat)|tT|kI|dm|tU
def CX (ann:bP):Operand→Option Nat
 | .tmp t=>ab ann.aV t
 |_=>none
def E2 (ann:bP):List Operand→Bool
 |[]=>false
 |x::l=>(CX ann x).isSome||E2 ann l
def Hw (E:kv) (ann:bP) (o:Oper):Cls:=
 match o.op with
 | .makeFunc _ _ dF=>bif E2 ann dF.toList then .tU else .pure
 | .alloc _=>match o.dst with|some d=>bif bC d ann.aX then .tT else .dm|none=>.dm
 | .box _ _=>match o.dst with|some d=>bif bC d ann.aX then .tT else .dm|none=>.dm
 | .range _ _=>match o.dst with|some d=>bif bC d ann.aX then .tT else .dm|none=>.dm
 | .load _ a=>match CX ann a with|some s=>.oW s|none=>.kI
 | .store _ a _=>match CX ann a with|some s=>.iP s|none=>.dm
 | .next it true=>match CX ann it with|some s=>.iP s|none=>.dm
 | .next _ false=>.dm
 | .makeMap .. =>.dm
 | .makeSlice .. =>.dm
 | .buildSlice .. =>.dm
 | .mapUpdate .. =>.dm
 | .insert .. =>.dm
 | .mapEntry .. =>.dm
 | .entryStore .. =>.dm
 | .lookup .. =>.kI
 | .entry _=>.kI
 | .convert s d _=>match bh E s,bh E d with
   |some .slice,some .slice=>.dm
   |some .slice,_=>.kI
   |_,some .slice=>.dm
   |_,_=>.pure
 | .call c=>match c.callee with
   | .builtin .len=>match c.argTypes.toList[0]? with
     |some t=>match bh E t with|some .map=>.kI|_=>.pure
     |none=>.pure
   | .builtin .cap=>.pure
   | .builtin .min=>.pure
   | .builtin .max=>.pure
   |_=>.dm
 |_=>.pure
section
variable (E:kv)
def dv:List V→ByteArray→ByteArray
 |[],acc=>acc
 |v::l,acc=>dv l (acc.push (UInt8.ofNat v.aa.toNat))
def Hx (k:cg):List V→Bool
 |[]=>true
 |v::l=>v.av k&&Hx k l
def fG (H:ag) (p:Oq) (len:Nat):Bool:=
 p.isNone||Nat.beq len 0||(H.inb (p.getD (0,0)).1 (p.getD (0,0)).2 len&&Hx (.int .u8) (H.sub (p.getD (0,0)).1 (p.getD (0,0)).2 len))
def fH (H:ag) (p:Oq) (len:Nat):ByteArray:=
 bif p.isNone||Nat.beq len 0 then ByteArray.empty else dv (H.sub (p.getD (0,0)).1 (p.getD (0,0)).2 len) ByteArray.empty
def dC (o:Op) (ev:Ev) (H:ag):Option (fR T):=
 match o with
 | .load t a=>
   match ev a with
   |some (.v (.aj (some (id,off))))=>
    match bh E t with
    |some k=>some (.one (H.inb id off 1&&(H.cell id off).av k) (.v ((H.cell id off).SU k)))
    |none=>match oa E t,size E t with
     |some ks,some n=>some (.one (H.inb id off n&&aI ks (H.sub id off n)) (.v (.agg (n8 ks (H.sub id off n) 0))))
     |_,_=>none
   |_=>none
 | .convert s d x=>
   match E.ti s,bh E d,jd ev x with
   |some ti,some .cH,some (.slice p len _)=>
    match ti.sh with
    | .slice e=>match bh E e with
      |some (.int .u8)=>
       some (.one (fG H p len) (.v (.cH (fH H p len))))
      |_=>none
    |_=>none
   |_,_,_=>none
 | .lookup t x i commaOk=>
   match E.ti t,jd ev x,jd ev i with
   |some ti,some (.map r),some (.int k n)=>match ti.sh with
    | .map kt et=>match bh E kt,E.ti et with
      |some (.int k'),some ei=>match ei.zero with
       |some z=>match tM E et (cn H r n z) with
        |some (b,y)=>match commaOk with
         |true=>some (.one (py k k'&&(eC H k r&&b)) (.v (.tuple [y,.bool (lh H r n)])))
         |false=>some (.one (py k k'&&(eC H k r&&b)) (.v y))
        |none=>none
       |none=>none
      |_,_=>none
    |_=>none
   |_,_,_=>none
 | .entry it=>
   match ev it with
   |some (.v (.dM t id))=>match E.ti t with
    |some ti=>match ti.sh with
     | .map kt et=>match tM E kt (kK H id),tM E et (iL H id) with
       |some (a,x),some (b,y)=>some (.one (sr H id&&(a&&b)) (.v (.tuple [x,y])))
       |_,_=>none
     |_=>none
    |none=>none
   |_=>none
 | .call c=>
   match c.callee,c.argTypes.toList,ss ev c.args.toList with
   | .builtin .len,t::_,some [.map r]=>match bh E t with
     |some .map=>some (.one (r.isNone||H.isMap (r.getD 0)) (.v (.int .i64 (yh H r))))
     |_=>none
   |_,_,_=>none
 |_=>none
def hT:Nat→List V→List V
 |0,_=>[]
 |n+1,l=>l++hT n l
def vE:List V→Bool
 |[]=>true
 |v::l=>v.one&&vE l
def yi (a b:List V):List V:=a++b
def dU (n:Nat) (z:List V):List V:=hT n z
def eX (s:ByteArray):List V:=s.data.toList.map fun b=>.int .u8 b.toNat
def pB (H:ag) (n:Nat) (p:Oq) (m:Nat):Bool:=
 Nat.beq m 0||(p.isSome&&(H.inb (p.getD (0,0)).1 (p.getD (0,0)).2 (m*n)&&vE (H.sub (p.getD (0,0)).1 (p.getD (0,0)).2 (m*n))))
def lq (H:ag) (n:Nat):V→Option (Nat×(Nat→Bool)×(Nat→List V))
 | .slice p len _=>some (len,fun m=>pB H n p m,fun m=>bif Nat.beq m 0 then [] else H.sub (p.getD (0,0)).1 (p.getD (0,0)).2 (m*n))
 | .cH s=>some (s.size,fun _=>Nat.beq n 1,fun m=>(eX s).take m)
 |_=>none
def QP (lo hi:Nat) (K:Nat→Prop):Prop:=∀c,lo≤c→c≤hi→K c
def iQ:Option cg→Bool
 |some .slice=>true
 |some .cH=>true
 |_=>false
def fI (t:TypeId):Option (TypeId×Nat×Nat×List V):=
 match E.ti t with
 |some ti=>match ti.sh with
  | .slice el=>match E.ti el with
    |some ei=>match ei.zero with
     |some z=>bif Nat.beq z.cells.length ei.size&&sw ei.size then some (el,ei.size,ei.bytes,z.cells) else none
     |none=>none
    |none=>none
  |_=>none
 |none=>none
def mP (H:ag) (n cL:Nat) (z:List V) (k:Option cg) (x:V):Option (Bool×Nat×(Nat→Bool)×(Nat→List V)):=
 match k with
 |some (.int .i64)=>match x with
  | .int .i64 m=>some (decide (0≤m)&&decide (m*(cL+1)≤70368744177664),m.toNat,fun _=>true,fun j=>dU j z)
  |_=>none
 |k=>match iQ k with
  |true=>(match lq H n x with|some (m,ok,cs)=>some (true,m,ok,cs)|none=>none)
  |false=>none
def aP (ts:List TypeId) (args:List V) (H:ag) (K:Oq→Nat→Nat→ag→Prop):Prop:=
 match ts,args with
 |[t,u],[.slice p l cp,x]=>
  match fI E t with
  |some (el,n,cL,z)=>match mP H n cL z (bh E u) x with
   |some (r,m,ok,cs)=>ah r
    (br (Nat.ble (l+m) cp)
     (ah (Nat.beq m 0||(p.isSome&&(ok m&&H.wr (p.getD (0,0)).1 ((p.getD (0,0)).2+l*n) (m*n))))
      (K p (l+m) cp (bif Nat.beq m 0 then H else H.store (p.getD (0,0)).1 ((p.getD (0,0)).2+l*n) (cs m))))
     (ah (pB H n p l&&(ok m&&Nat.ble ((l+m)*(cL+1)) 70368744177664))
      (QP (l+m) 9223372036854775807 fun c=>K (some (H.next,0)) (l+m) c
       (H.alloc (.cells el (yi (bif Nat.beq l 0 then [] else H.sub (p.getD (0,0)).1 (p.getD (0,0)).2 (l*n)) (yi (cs m) (dU (c-(l+m)) z))) false)))))
   |none=>False
  |none=>False
 |_,_=>False
def kx (H:ag) (n:Nat) (p:Oq) (l:Nat) (x:V):Bool:=match lq H n x with
 |some (m,ok,cs)=>Nat.beq (Nat.min m l) 0||(p.isSome&&(ok (Nat.min m l)&&H.wr (p.getD (0,0)).1 (p.getD (0,0)).2 (Nat.min m l*n)))
 |none=>false
def kz (H:ag) (n:Nat) (p:Oq) (l:Nat) (x:V):ag:=match lq H n x with
 |some (m,ok,cs)=>bif Nat.beq (Nat.min m l) 0 then H else H.store (p.getD (0,0)).1 (p.getD (0,0)).2 (cs (Nat.min m l))
 |none=>H
def iR (g:FuncId) (args:List V) (H:ag) (K:V→ag→Prop):Prop:=
 match E.ext g with
 |some x=>x.run args H K
 |none=>False
def lu (R:mn) (fv:V) (args:List V) (H:ag) (K:V→ag→Prop):Prop:=
 match fv with
 | .func g cap=>match (E.ext g).isSome with
   |true=>iR E g (args++cap) H K
   |false=>R.call g (args++cap) H K
 | .o9 g first=>match (E.ext g).isSome with
   |true=>iR E g (first++args) H K
   |false=>R.call g (first++args) H K
 |_=>False
def bX (o:Op) (ev:Ev) (H:ag):Option (Bool×T×ag):=
 match o with
 | .buildSlice t len parts=>
   match E.ti t,kM ev parts.toList with
   |some ti,some ps=>match ti.sh with
    | .slice el=>match size E el,E.ti el with
      |some n,some ei=>match ei.zero with
       |some z=>bif Nat.beq z.cells.length n&&sw n&&Nat.ble (len*n) 16777216 then
        (match qI E (fun j=>some (j*n,el)) (hT len z.cells) ps with
        |some (r,cs)=>some (r,.v (.slice (some (H.next,0)) len len),H.alloc (.cells el cs false))
        |none=>none) else none
       |none=>none
      |_,_=>none
    |_=>none
   |_,_=>none
 | .makeSlice t len cap=>
   match fI E t,jd ev len,jd ev cap with
   |some (el,_,cL,z),some (.int _ l),some (.int _ c)=>
    some (decide (0≤l)&&(decide (l≤c)&&decide (c*(cL+1)≤70368744177664)),.v (.slice (some (H.next,0)) l.toNat c.toNat),H.alloc (.cells el (dU c.toNat z) false))
   |_,_,_=>none
 | .convert s d x=>
   match bh E s,jd ev x,E.ti d with
   |some .slice,some (.slice p len cap),some ti=>match ti.sh with
    | .slice e=>match bh E e with
      |some (.int .u8)=>some (Nat.beq s d&&(p.isSome&&(!Nat.beq cap 0&&H.wr (p.getD (0,0)).1 0 0)),.v (.slice p len cap),H)
      |_=>none
    |_=>none
   |_,_,_=>none
 | .call c=>
   match c.callee,c.argTypes.toList,ss ev c.args.toList with
   | .builtin .copy,t::_,some [.slice p l _,x]=>
     match fI E t with
     |some (_,n,_,_)=>match lq H n x with
      |some (m,_,_)=>some (kx H n p l x,.v (.int .i64 (Nat.min m l)),kz H n p l x)
      |none=>none
     |none=>none
   | .builtin .delete,t::_,some [.map r,.int k n]=>
     match E.ti t with
     |some ti=>match ti.sh with
      | .map kt _=>match bh E kt with
        |some (.int k')=>some (py k k'&&eC H k r,.v (.tuple []),pA H r n)
        |_=>none
      |_=>none
     |none=>none
   | .builtin .clear,t::_,some [.slice p l _]=>
     match fI E t with
     |some (_,n,_,z)=>
      some (p.isNone||Nat.beq l 0||H.wr (p.getD (0,0)).1 (p.getD (0,0)).2 (l*n),.v (.tuple []),
       bif p.isNone||Nat.beq l 0 then H else H.store (p.getD (0,0)).1 (p.getD (0,0)).2 (dU l z))
     |none=>none
   |_,_,_=>none
 | .makeMap t none=>match bh E t with
   |some .map=>some (true,.v (.map (some H.next)),H.alloc (.map [] 0))
   |_=>none
 | .range t x=>
   match E.ti t,jd ev x with
   |some ti,some (.map r)=>match ti.sh with
    | .map _ _=>some (r.isNone||H.isMap (r.getD 0),.v (.dM t H.next),H.alloc (mapIter H r))
    |_=>none
   |_,_=>none
 |_=>none
def bJ (R:mn) (o:Op) (rt:TypeId) (ev:Ev) (H:ag) (K:T→ag→Prop):Prop:=
 match o with
 | .alloc t=>match E.ti t with
   |some i=>match i.zero with|some z=>K (.v (.aj (some (H.next,0)))) (H.alloc (.cells t z.cells false))|none=>False
   |none=>False
 | .box t x=>match jd ev x with
   |some v=>match hO E t v with
    |some (r,vs)=>ah r (K (.v (.aj (some (H.next,0)))) (H.alloc (.cells t vs false)))
    |none=>False
   |none=>False
 | .store t a x=>
   match ev a,jd ev x with
   |some (.v (.aj (some (id,off)))),some v=>
    match hO E t v with
    |some (r,vs)=>ah (r&&H.wr id off vs.length) (K .undef (H.store id off vs))
    |none=>False
   |_,_=>False
 | .mapUpdate t m x v=>
   match E.ti t,jd ev m,jd ev x,jd ev v with
   |some ti,some (.map r),some (.int k n),some v=>match ti.sh with
    | .map kt et=>match bh E kt,tM E et v with
      |some (.int k'),some (b,_)=>ah (py k k'&&(r.isSome&&(eC H k r&&b))) (K .undef (im H k (r.getD 0) n v))
      |_,_=>False
    |_=>False
   |_,_,_,_=>False
 | .call c=>
   match c.callee,ss ev c.args.toList with
   | .value f,some args=>
     match jd ev f with
     |some fv=>lu E R fv args H fun v H'=>match tO E rt v with|some (b,v')=>ah b (K (.v v') H')|none=>False
     |none=>False
   | .builtin .append,some args=>aP E c.argTypes.toList args H fun q n c H'=>K (.v (.slice q n c)) H'
   |_,_=>match bX E (.call c) ev H with
    |some (r,x,H')=>ah r (K x H')
    |none=>False
 | .convert s d x=>
   match bh E s,jd ev x,E.ti d with
   |some .cH,some (.cH b),some ti=>match ti.sh with
    | .slice el=>match bh E el with
      |some (.int .u8)=>ah (Nat.ble b.size 70368744177664) (QP b.size 9223372036854775807 fun c=>
       K (.v (.slice (some (H.next,0)) b.size c)) (H.alloc (.cells el (yi (eX b) (dU (c-b.size) [.int .u8 0])) false)))
      |_=>False
    |_=>False
   |_,_,_=>match bX E (.convert s d x) ev H with
    |some (r,x,H')=>ah r (K x H')
    |none=>False
 | .next it false=>
   match ev it with
   |some (.v (.dM _ id))=>mapNext H id (K (.v (.tuple [.bool false])) H) fun H'=>K (.v (.tuple [.bool true,.cw,.cw])) H'
   |_=>False
 |o=>match bX E o ev H with
  |some (r,x,H')=>ah r (K x H')
  |none=>False
def ga (aF:List Oper) (tm:Nat→Option T) (j:Nat):Option T:=
 match aF[j]? with
 |some o=>match o.dst with|some d=>tm d|none=>none
 |none=>none
def sx (ann:bP) (d:Nat) (S:St):St:=
 {S with tm:=fun t=>match ab ann.aV t with|some s=>bif Nat.beq s d then none else S.tm t|none=>S.tm t}
def jv (ann:bP) (N:Nat) (dst:Option Tmp) (x:T) (S:St) (K:St→Prop):Prop:=
 match dst with
 |none=>K S
 |some d=>ah (Nat.blt d N) (match x with
  | .lp s _=>(match ab ann.aV d with|some s'=>bif Nat.beq s s' then K (S.setT d x) else False|none=>False)
  |_=>K (S.setT d x))
def pC (ann:bP) (s:Nat) (e:TypeId) (cs:List V) (S:St):St:=
 {sx ann s S with lo:=fun t=>bif Nat.beq t s then none else S.lo t,hp:=S.hp.alloc (.cells e cs false)}
def qJ (ann:bP):List Operand→St→Option (List V×St)
 |[],S=>some ([],S)
 |x::l,S=>match cS S.tm x with
  |some (.v v)=>match qJ ann l S with|some (vs,S')=>some (v::vs,S')|none=>none
  |some (.lp s 0)=>match S.lo s with
   |some (.cells e cs)=>match qJ ann l (pC ann s e cs S) with|some (vs,S')=>some (.aj (some (S.hp.next,0))::vs,S')|none=>none
   |_=>none
  |_=>none
def Jc (ann:bP) (N:Nat) (o:Oper) (S:St) (K:St→Prop):Prop:=
 match o.op with
 | .makeFunc (.func f) first dF=>match first.toList,qJ ann dF.toList S with
   |[],some (vs,S')=>jv ann N o.dst (.v (.func f vs)) S' K
   |_,_=>False
 |_=>False
def jm (R:mn) (ann:bP) (N:Nat) (o:Oper) (S:St) (K:St→Prop):Prop:=
 match Hw E ann o with
 | .pure=>match aZ E o.op (cS S.tm) with|some d=>d.run fun x=>jv ann N o.dst x S K|none=>False
 | .oW s=>match gR E o.op (cS S.tm) s (S.lo s) with|some d=>d.run fun x=>jv ann N o.dst x S K|none=>False
 | .iP s=>match dZ E o.op (cS S.tm) s (S.lo s) with|some d=>d.run fun x=>jv ann N o.dst x.2 (S.setL s x.1) K|none=>False
 | .tT=>match o.dst,iO E o.op (cS S.tm) with
   |some d,some (r,L)=>ah r (jv ann N (some d) (.lp d 0) ((sx ann d S).setL d L) K)
   |_,_=>False
 | .kI=>match dC E o.op (cS S.tm) S.hp with|some d=>d.run fun x=>jv ann N o.dst x S K|none=>False
 | .dm=>bJ E R o.op o.type (cS S.tm) S.hp fun x H'=>jv ann N o.dst x {S with hp:=H'} K
 | .tU=>Jc ann N o S K
def eQ (R:mn) (ann:bP) (N:Nat) (aF:List Oper) (o:Oper) (S:St) (K:St→Prop):Prop:=
 match o.guard with
 |none=>jm E R ann N o S K
 |some (j,want)=>
  match ga aF S.tm j with
  |some (.v (.bool b))=>br (b == want) (jm E R ann N o S K) (jv ann N o.dst .undef S K)
  |some .undef=>jv ann N o.dst .undef S K
  |_=>False
def ly (R:mn) (ann:bP) (N:Nat) (aF:List Oper):List Oper→St→(St→Prop)→Prop
 |[],S,K=>K S
 |o::l,S,K=>eQ E R ann N aF o S fun S'=>ly R ann N aF l S' K
def CY (aF:List Oper) (j:Nat):Option Nat:=
 match aF[j]? with
 |some o=>o.dst
 |none=>none
def tV (R:mn) (ann:bP) (N:Nat) (aF:List Oper) (o:Oper) (S:St) (K:St→Prop):Prop:=
 match o.guard with
 |none=>jm E R ann N o S K
 |some (j,want)=>
  match CY aF j with
  |none=>False
  |some s=>
   match S.tm s with
   |some (.v (.bool b))=>br (QM want b) (jm E R ann N o (S.setT s (.v (.bool want))) K) (jv ann N o.dst .undef (S.setT s (.v (.bool (!want)))) K)
   |some .undef=>jv ann N o.dst .undef S K
   |_=>False
def sy (R:mn) (ann:bP) (N:Nat) (aF:List Oper):List Oper→St→(St→Prop)→Prop
 |[],S,K=>K S
 |o::l,S,K=>tV E R ann N aF o S fun S'=>sy R ann N aF l S' K
def dY:Code→Nat
 | .seq a b=>dY a+dY b
 | .cond _ a b=>1+dY a+dY b
 | .block _ b=>dY b
 | .scope b=>dY b
 | .loop b=>1+dY b
 | .region .. =>1
 |_=>0
def E3 (tm:Nat→Option T):List Nat→Option (List (Nat×T))
 |[]=>some []
 |t::l=>match tm t,E3 tm l with
  |some x,some m=>some ((t,x)::m)
  |_,_=>none
def E4 (lo:Nat→Option aO):List Nat→Option (List (Nat×aO))
 |[]=>some []
 |t::l=>match lo t,E4 lo l with
  |some x,some m=>some ((t,x)::m)
  |_,_=>none
def lz (ts ls:List Nat) (S:St) (K:St→Prop):Prop:=
 match E3 S.tm ts,E4 S.lo ls with
 |some a,some b=>K ⟨ab a,ab b,S.hp⟩
 |_,_=>False
inductive fO (α:Type) where
 |leaf (a:α)
 |br (c:Bool) (x y:fO α)
 |ah (c:Bool) (x:fO α)
 |aT
def fO.run {α:Type} (K:α→Prop):fO α→Prop
 | .leaf a=>K a
 | .br c x y=>Am.br c (x.run K) (y.run K)
 | .ah c x=>Am.ah c (x.run K)
 | .aT=>False
def fO.bind {α β:Type}:fO α→(α→fO β)→fO β
 | .leaf a,k=>k a
 | .br c x y,k=>.br c (x.bind k) (y.bind k)
 | .ah c x,k=>.ah c (x.bind k)
 | .aT,_=>.aT
structure MS where
 U:List (Nat×T)
 W:List (Nat×aO)
 kn:List Nat
def pd (S:St) (U:List (Nat×T)) (t:Nat):Option T:=match ab U t with|some x=>some x|none=>S.tm t
def yj (S:St) (W:List (Nat×aO)) (t:Nat):Option aO:=match ab W t with|some x=>some x|none=>S.lo t
def MS.st (S:St) (M:MS):St:=⟨pd S M.U,yj S M.W,S.hp⟩
def CZ (ann:bP) (N:Nat) (dst:Option Tmp) (x:T) (M:MS):fO MS:=
 match dst with
 |none=>.leaf M
 |some d=>.ah (Nat.blt d N) (match x with
  | .lp s _=>(match ab ann.aV d with|some s'=>bif Nat.beq s s' then .leaf {M with U:=(d,x)::M.U} else .aT|none=>.aT)
  |_=>.leaf {M with U:=(d,x)::M.U})
def E5 (ann:bP) (N:Nat) (o:Oper) (S:St) (M:MS):fO MS:=
 match Hw E ann o with
 | .pure=>match aZ E o.op (cS (pd S M.U)) with|some d=>.ah (d.rq&&d.c) (CZ ann N o.dst d.x M)|none=>.aT
 | .oW s=>match gR E o.op (cS (pd S M.U)) s (yj S M.W s) with|some d=>.ah (d.rq&&d.c) (CZ ann N o.dst d.x M)|none=>.aT
 | .iP s=>match dZ E o.op (cS (pd S M.U)) s (yj S M.W s) with|some d=>.ah (d.rq&&d.c) (CZ ann N o.dst d.x.2 {M with W:=(s,d.x.1)::M.W})|none=>.aT
 | .kI=>match dC E o.op (cS (pd S M.U)) S.hp with|some d=>.ah (d.rq&&d.c) (CZ ann N o.dst d.x M)|none=>.aT
 |_=>.aT
def Nd (ann:bP) (N:Nat) (aF:List Oper) (o:Oper) (S:St) (M:MS):fO MS:=
 match o.guard with
 |none=>E5 E ann N o S M
 |some (j,want)=>
  match CY aF j with
  |none=>.aT
  |some s=>
   match pd S M.U s with
   |some (.v (.bool b))=>
    match bC s M.kn with
    |true=>match QM want b with
     |true=>E5 E ann N o S M
     |false=>CZ ann N o.dst .undef M
    |false=>.br (QM want b) (E5 E ann N o S {M with U:=(s,.v (.bool want))::M.U,kn:=s::M.kn})
     (CZ ann N o.dst .undef {M with U:=(s,.v (.bool (!want)))::M.U,kn:=s::M.kn})
   |some .undef=>CZ ann N o.dst .undef M
   |_=>.aT
def C0 (ann:bP) (N:Nat) (aF:List Oper):List Oper→St→MS→fO MS
 |[],_,M=>.leaf M
 |o::l,S,M=>(Nd E ann N aF o S M).bind (C0 ann N aF l S)
def aJ (c r1 r2:Bool):Bool:=match r1,r2 with
 |true,true=>true
 |r1,r2=>bif c then r1 else r2
def C1 (c:Bool):T→T→Option T
 | .v x,.v y=>some (.v (Ht c x y))
 | .lp s o,.lp s' o'=>bif Nat.beq s s'&&Nat.beq o o' then some (.lp s o) else none
 | .undef,.undef=>some .undef
 |_,_=>none
def C2 (c:Bool):aO→aO→Option aO
 | .cells e cs,.cells e' cs'=>bif Nat.beq e e' then (match tJ c cs cs' with|some r=>some (.cells e r)|none=>none) else none
 |_,_=>none
def od {α:Type} (g:Nat→Option α) (f:α→α→Option α) (A B:List (Nat×α)):List Nat→Option (List (Nat×α))
 |[]=>some []
 |t::l=>match od g f A B l with
  |none=>none
  |some r=>match ab A t,ab B t with
   |none,none=>some r
   |some a,some b=>match f a b with|some m=>some ((t,m)::r)|none=>none
   |some a,none=>match g t with|some b=>(match f a b with|some m=>some ((t,m)::r)|none=>none)|none=>none
   |none,some b=>match g t with|some a=>(match f a b with|some m=>some ((t,m)::r)|none=>none)|none=>none
def oe {α:Type} (a b:List Nat):List (Nat×α)→Bool
 |[]=>true
 |(t,_)::l=>(bC t a||bC t b)&&oe a b l
def oX (S:St) (ts ls dT dL:List Nat):fO MS→Option (Bool×List (Nat×T)×List (Nat×aO))
 | .leaf M=>bif oe ts dT M.U&&oe ls dL M.W then some (true,M.U,M.W) else none
 | .ah c x=>match oX S ts ls dT dL x with|some (r,U,W)=>some (c&&r,U,W)|none=>none
 | .br c x y=>match oX S ts ls dT dL x,oX S ts ls dT dL y with
   |some (r1,U1,W1),some (r2,U2,W2)=>
    match od S.tm (C1 c) U1 U2 ts,od S.lo (C2 c) W1 W2 ls with
    |some U,some W=>some (aJ c r1 r2,U,W)
    |_,_=>none
   |_,_=>none
 | .aT=>none
def rJ (dT dL:List Nat) (S:St):St:=
 ⟨fun t=>bif bC t dT then none else S.tm t,fun s=>bif bC s dL then none else S.lo s,S.hp⟩
def pD (ts ls dT dL:List Nat) (tr:fO MS) (S:St) (K:St→Prop):Prop:=
 match oX S ts ls dT dL tr with
 |some (r,U,W)=>ah r (K (rJ dT dL ⟨pd S U,yj S W,S.hp⟩))
 |none=>False
def kC (R:mn) (ann:bP) (N:Nat) (ts ls dT dL:List Nat) (aF:List Oper):List Oper→St→(St→Prop)→Prop
 |[],S,K=>K (rJ dT dL S)
 |o::l,S,K=>match o.guard with
  |none=>tV E R ann N aF o S fun S'=>kC R ann N ts ls dT dL aF l S' K
  |some _=>pD ts ls dT dL (C0 E ann N aF (o::l) S ⟨[],[],[]⟩) S K
def T.val:Option T→V
 |some (.v x)=>x
 |_=>.none
def aB:KT→Option T→Bool
 | .k k,some (.v x)=>x.av k
 | .agg ks,some (.v x)=>x.isAgg&&aI ks x.af
 | .lp s,some (.lp s' 0)=>Nat.beq s s'
 | .undef,some .undef=>true
 |_,_=>false
def QQ:KT→Option T→T
 | .k k,x=>.v ((T.val x).SU k)
 | .agg ks,x=>.v (.agg (n8 ks (T.val x).af 0))
 | .lp s,_=>.lp s 0
 | .undef,_=>.undef
def an:Option aO→List V
 |some (.cells _ cs)=>cs
 |_=>[]
def ea (e:TypeId) (ks:List cg):Option aO→Bool
 |some (.cells e' cs)=>Nat.beq e e'&&aI ks cs
 |_=>false
def lA (S:St):List (Nat×KT)→Bool×List (Nat×T)
 |[]=>(true,[])
 |(t,k)::l=>(aB k (S.tm t)&&(lA S l).1,(t,QQ k (S.tm t))::(lA S l).2)
def lB (S:St):List (Nat×TypeId×List cg)→Bool×List (Nat×aO)
 |[]=>(true,[])
 |(s,e,ks)::l=>(ea e ks (S.lo s)&&(lB S l).1,(s,.cells e (n8 ks (an (S.lo s)) 0))::(lB S l).2)
def Bv (ts:List (Nat×KT)) (ls:List (Nat×TypeId×List cg)) (S:St) (K:St→Prop):Prop:=
 ah ((lA S ts).1&&(lB S ls).1) (K ⟨ab (lA S ts).2,ab (lB S ls).2,S.hp⟩)
def sA (ann:bP) (n:Nat):Option ju:=ab ann.bg n
def pE {α β:Type}:List (α×β)→List α
 |[]=>[]
 |(a,_)::l=>a::pE l
def vF (kp:ju) (K:Ex→St→Prop):List Nat→Nat→St→Prop
 |[],_,_=>False
 |j::l,id,S=>br (Nat.beq id j) (Bv kp.cj kp.g8 S (K (.exit j))) (vF kp K l id S)
def og:List Operand→List Nat
 |[]=>[]
 | .tmp t::l=>t::og l
 |_::l=>og l
structure jS where
 rt:List Nat
 wt:List Nat
 rl:List Nat
 wl:List Nat
 rh:Bool
 wh:Bool
 no:Bool
def kN (d:Nat):List (Nat×Nat)→List Nat
 |[]=>[]
 |(t,s)::l=>bif Nat.beq s d then t::kN d l else kN d l
def yk (aF:List Oper) (o:Oper):List Nat:=
 match o.guard with
 |some (j,_)=>(match aF[j]? with|some q=>q.dst.toList|none=>[])
 |none=>[]
def Xf (aF:List Oper) (o:Oper):List Nat:=og o.op.operands.toList++yk aF o
def C3 (ann:bP) (o:Oper):List Nat:=match o.dst with|some d=>kN d ann.aV|none=>[]
def mR:Cls→List Nat→List Nat→List Nat→jS
 | .pure,rt,wt,_=>⟨rt,wt,[],[],false,false,false⟩
 | .oW s,rt,wt,_=>⟨rt,wt,[s],[],false,false,false⟩
 | .iP s,rt,wt,_=>⟨rt,wt,[s],[s],false,false,false⟩
 | .tT,rt,wt,ex=>⟨rt,wt++ex,[],wt,false,false,false⟩
 | .kI,rt,wt,_=>⟨rt,wt,[],[],true,false,false⟩
 | .dm,rt,wt,_=>⟨rt,wt,[],[],true,true,false⟩
 | .tU,rt,wt,_=>⟨rt,wt,[],[],true,true,true⟩
def cY (ann:bP) (aF:List Oper) (o:Oper):jS:=mR (Hw E ann o) (Xf aF o) o.dst.toList (C3 ann o)
def jn:List Nat→List Nat→Bool
 |[],_=>false
 |x::l,m=>bC x m||jn l m
def gx (a b:jS):Bool:=
 !jn a.wt b.rt&& !jn a.wt b.wt&& !jn b.wt a.rt&& !jn a.wl b.rl&& !jn a.wl b.wl&& !jn b.wl a.rl
  && !(a.wh&&b.rh)&& !(b.wh&&a.rh)&&(!a.no&& !b.no)
def qK (acc:List (List Nat)):List Edge→List Nat
 |[]=>[]
 |e::l=>bif Region.binds .any e then e.on::(acc[e.on]?.getD []++qK acc l) else qK acc l
def iS:List Oper→List (List Nat)→List (List Nat)
 |[],acc=>acc
 |o::l,acc=>iS l (acc++[qK acc o.after.toList])
def C4 (i:Nat):List Edge→Bool
 |[]=>true
 |e::l=>(!Region.binds .any e||Nat.blt e.on i)&&C4 i l
def oh:List Oper→Nat→Bool
 |[],_=>true
 |o::l,i=>C4 i o.after.toList&&oh l (i+1)
def tW (fs:List jS) (bs:List (List Nat)) (i:Nat) (f:jS):Nat→Bool
 |0=>true
 |j+1=>(match fs[j]?,bs[i]? with|some g,some b=>bC j b||gx f g|_,_=>false)&&tW fs bs i f j
def qL (fs:List jS) (bs:List (List Nat)):List jS→Nat→Bool
 |[],_=>true
 |f::l,i=>tW fs bs i f i&&qL fs bs l (i+1)
def yl (ann:bP) (aF:List Oper):Bool:=
 let fs:=aF.map (cY E ann aF)
 oh aF 0&&qL fs (iS aF []) fs 0
inductive rQ where
 |nil|aT
 |one (i:Nat) (r:rQ)
 |Nf (a b:rQ)
 deriving Inhabited
def jw (n:Nat):List Nat→List Nat
 |[]=>[]
 |x::l=>bif Nat.beq n x then jw n l else x::jw n l
def nr (bs:List (List Nat)) (i:Nat):List Nat:=bs[i]?.getD []
def gy (bs:List (List Nat)) (rem:List Nat) (i:Nat):Bool:= !jn (nr bs i) rem
def dV (fs:List jS) (bs:List (List Nat)) (i:Nat) (f:jS):List Nat→Bool
 |[]=>true
 |j::l=>(Nat.beq i j||bC i (nr bs j)||(match fs[j]? with|some g=>gx g f&&gx f g|none=>false))&&dV fs bs i f l
def oi (fs:List jS) (bs:List (List Nat)) (rem:List Nat):List Nat→Option Nat
 |[]=>none
 |i::l=>match gy bs rem i,fs[i]? with
  |true,some f=>bif dV fs bs i f rem then some i else oi fs bs rem l
  |_,_=>oi fs bs rem l
def QR (f:Nat→rQ):List Nat→rQ
 |[]=>.aT
 |[i]=>.one i (f i)
 |i::l=>.Nf (.one i (f i)) (QR f l)
def qM (bs:List (List Nat)) (rem:List Nat):List Nat→List Nat
 |[]=>[]
 |i::l=>bif gy bs rem i then i::qM bs rem l else qM bs rem l
def Bw (fs:List jS) (bs:List (List Nat)):Nat→List Nat→rQ
 |_,[]=>.nil
 |0,_=>.aT
 |n+1,rem=>match oi fs bs rem rem with
  |some i=>.one i (Bw fs bs n (jw i rem))
  |none=>QR (fun i=>Bw fs bs n (jw i rem)) (qM bs rem rem)
def iq (step:Nat→St→(St→Prop)→Prop):rQ→St→(St→Prop)→Prop
 | .nil,S,K=>K S
 | .aT,_,_=>False
 | .one i r,S,K=>step i S fun S'=>iq step r S' K
 | .Nf a b,S,K=>iq step a S K∧iq step b S K
def wJ (kp:Option ju) (A:(Ex→St→Prop)→Prop) (K:Ex→St→Prop):Prop:=
 match kp with
 |none=>A K
 |some kp=>cv (fun Q=>A fun e S=>match e with| .normal=>lz (pE kp.cj) (pE kp.g8) S Q|e=>K e S) fun S=>Bv kp.cj kp.g8 S (K .normal)
def over {α:Type} (l:List (Nat×α)) (dr:List Nat) (g:Nat→Option α):Nat→Option α:=
 fun t=>match ab l t with|some x=>some x|none=>bif bC t dr then none else g t
def E6 (kp:ju) (S0:St) (A:(Ex→St→Prop)→Prop) (K:Ex→St→Prop):Prop:=
 cv (fun Q=>A fun e S=>match e with| .normal=>lz (pE kp.cj) (pE kp.g8) S Q|e=>K e S)
  fun S=>ah ((lA S kp.cj).1&&(lB S kp.g8).1) (K .normal ⟨over (lA S kp.cj).2 kp.wT S0.tm,over (lB S kp.g8).2 kp.wL S0.lo,S.hp⟩)
def jx:List Nat→List Nat→Bool
 |[],_=>true
 |x::l,m=>bC x m&&jx l m
def K3 (ann:bP) (wT wL:List Nat) (o:Oper):Bool:=
 jx o.dst.toList wT&&jx (C3 ann o) wT&&(match Hw E ann o with
  | .iP s=>bC s wL
  | .tT=>jx o.dst.toList wL
  | .tU=>false
  |_=>true)
def jy (ann:bP) (wT wL:List Nat):List Oper→Bool
 |[]=>true
 |o::l=>K3 E ann wT wL o&&jy ann wT wL l
def TP (wT wL:List Nat) (kp:ju):Bool:=jx kp.wT wT&&jx kp.wL wL&&jx (pE kp.cj) wT&&jx (pE kp.g8) wL
def Ng (wT wL:List Nat):Option ju→Bool
 |none=>true
 |some kp=>kp.dl&&TP wT wL kp
def C5 (ann:bP) (wT wL:List Nat):Code→Nat→Bool
 | .skip,_=>true
 | .seq a b,n=>C5 ann wT wL a n&&C5 ann wT wL b (n+dY a)
 | .cond _ x y,n=>Ng wT wL (sA ann n)&&(C5 ann wT wL x (n+1)&&C5 ann wT wL y (n+1+dY x))
 | .block id b,n=>Ng wT wL (ab ann.aD id)&&C5 ann wT wL b n
 | .scope b,n=>C5 ann wT wL b n
 | .label _,_=>true
 | .exit _,_=>true
 | .ret,_=>true
 | .region _ aF _,n=>jy E ann wT wL aF.toList&&(match sA ann n with
   |none=>true
   |some kp=>match kp.mg with
    |true=>jx kp.cW wT&&jx kp.vy wL&&jx kp.wT wT&&jx kp.wL wL
    |false=>kp.dl&&TP wT wL kp)
 |_,_=>false
def mq (ok:ju→Bool) (kp:Option ju) (S0:St) (A:(Ex→St→Prop)→Prop) (K:Ex→St→Prop):Prop:=
 match kp with
 |none=>A K
 |some kp=>match kp.dl with
  |true=>ah (ok kp) (E6 kp S0 A K)
  |false=>wJ (some kp) A K
def fS (R:mn) (ann:bP) (N:Nat) (aF:List Oper) (i:Nat) (S:St) (K:St→Prop):Prop:=
 match aF[i]? with
 |some o=>tV E R ann N aF o S K
 |none=>False
def gS (R:mn) (ann:bP) (N:Nat) (aF:List Oper) (draw:Bool) (S:St) (K:St→Prop):Prop:=
 match !draw||yl E ann aF with
 |true=>sy E R ann N aF aF S K
 |false=>ah (oh aF 0) (iq (fS E R ann N aF) (Bw (aF.map (cY E ann aF)) (iS aF []) aF.length (List.range aF.length)) S K)
def gq (R:mn) (f:FuncId) (ann:bP) (N:Nat):Code→Nat→St→(Ex→St→Prop)→Prop
 | .skip,_,S,K=>K .normal S
 | .seq a b,n,S,K=>gq R f ann N a n S fun e S'=>match e with| .normal=>gq R f ann N b (n+dY a) S' K|e=>K e S'
 | .cond c x y,n,S,K=>
   match cS S.tm c with
   |some (.v (.bool t))=>mq (fun kp=>C5 E ann kp.wT kp.wL x (n+1)&&C5 E ann kp.wT kp.wL y (n+1+dY x)) (sA ann n) S
    (fun K=>br t (gq R f ann N x (n+1) S K) (gq R f ann N y (n+1+dY x) S K)) K
   |_=>False
 | .block id b,n,S,K=>mq (fun kp=>C5 E ann kp.wT kp.wL b n) (ab ann.aD id) S (fun K=>gq R f ann N b n S fun e S'=>match e with
   | .exit j=>br (Nat.beq j id) (K .normal S') (K (.exit j) S')
   |e=>K e S') K
 | .exit id,_,S,K=>K (.exit id) S
 | .ret,_,S,K=>K .ret S
 | .region _ aF draw,n,S,K=>
   match sA ann n with
   |none=>gS E R ann N aF.toList draw S (K .normal)
   |some kp=>match kp.mg with
    |true=>ah (!draw||yl E ann aF.toList) (kC E R ann N kp.cW kp.vy kp.wT kp.wL aF.toList aF.toList S (K .normal))
    |false=>mq (fun kp=>jy E ann kp.wT kp.wL aF.toList) (some kp) S (fun K=>gS E R ann N aF.toList draw S (K .normal)) K
 | .loop c,n,S,K=>
   match sA ann n with
   |some kp=>lz kp.cW kp.vy S fun S0=>R.loop c f n S0 (fun S'=>Bv kp.mM kp.TN S' (K .ret)) (vF kp K kp.cC)
   |none=>False
 | .scope b,n,S,K=>gq R f ann N b n S K
 | .label _,_,S,K=>K .normal S
 |_,_,_,_=>False
def mr (S:St):ResultVar→(V→Prop)→Prop
 | .tmp t,K=>match S.tm t with|some (.v x)=>K x|_=>False
 | .cell a t,K=>match S.tm a with
   |some (.lp s off)=>match S.lo s with
    |some (.cells _ cs)=>match mN E t cs off with|some (r,v)=>ah r (K v)|none=>False
    |_=>False
   |_=>match dC E (.load t (.tmp a)) (cS S.tm) S.hp with
    |some d=>d.run fun x=>match x with| .v v=>K v|_=>False
    |none=>False
def ns (S:St):List ResultVar→(List V→Prop)→Prop
 |[],K=>K []
 |r::l,K=>mr E S r fun v=>ns S l fun vs=>K (v::vs)
def K4 (fn:Func) (K:V→ag→Prop) (S:St):Prop:=
 ns E S fn.results.toList fun vs=>match vs with|[v]=>K v S.hp|vs=>K (.tuple vs) S.hp
def E7:List V→Nat→Nat→Option T
 |[],_,_=>none
 |v::l,j,t=>bif Nat.beq t j then some (.v v) else E7 l (j+1) t
def F (R:mn):mn where
 call f args H K:=
  match E.fn f with
  |some fn=>match fn.body with
   |some c=>ah (Nat.ble args.length fn.ntmps)
    (gq E R f (E.ann f) fn.ntmps c 0 ⟨E7 args 0,fun _=>none,H⟩ fun e S=>match e with| .exit _=>False|_=>K4 E fn K S)
   |none=>False
  |none=>False
 loop c f n S Kr Ke:=
  match E.fn f,sA (E.ann f) n with
  |some fn,some kp=>gq E R f (E.ann f) fn.ntmps c (n+1) S fun e S'=>match e with
   | .normal=>lz kp.cW kp.vy S' fun S0=>R.loop c f n S0 Kr Ke
   | .exit id=>lz (pE kp.cj) (pE kp.g8) S' (Ke id)
   | .ret=>lz (pE kp.mM) (pE kp.TN) S' Kr
  |_,_=>False
structure mn.le (A B:mn):Prop where
 call:∀f args H K K',(∀v H',K v H'→K' v H')→A.call f args H K→B.call f args H K'
 loop:∀c f n S Kr Qd Ke Qe,(∀S',Kr S'→Qd S')→(∀id S',Ke id S'→Qe id S')→A.loop c f n S Kr Ke→B.loop c f n S Qd Qe
def rR:mn where
 call f args H K:=∀R:mn,R.le R→(F E R).le R→R.call f args H K
 loop c f n S Kr Ke:=∀R:mn,R.le R→(F E R).le R→R.loop c f n S Kr Ke
end
theorem eY {c:Bool} {X X' Y Y':Prop} (hx:X→X') (hy:Y→Y') (h:br c X Y):br c X' Y':=by
 cases c
 ·exact hy h
 ·exact hx h
theorem bT {c:Bool} {X X':Prop} (hx:X→X') (h:ah c X):ah c X':=by
 cases c
 ·exact h
 ·exact hx h
theorem aQ {c:Bool} {X:Prop} (h:ah c X):c=true∧X:=by
 cases c
 ·exact h.elim
 ·exact⟨rfl,h⟩
theorem gz {c:Bool} {X Y:Prop} (h:br c X Y):(c=true∧X)∨(c=false∧Y):=by
 cases c
 ·exact .inr ⟨rfl,h⟩
 ·exact .inl ⟨rfl,h⟩
theorem fR.cD {α:Type} {d:fR α} {K K':α→Prop} (h:∀x,K x→K' x) (hd:d.run K):d.run K':=
 bT (eY (h _) (h _)) hd
theorem fR.eZ {α:Type} {d:fR α} {K:α→Prop} (h:d.run K):d.rq=true∧K (if d.c then d.x else d.y):=by
 obtain⟨h1,h2⟩:=aQ h;refine⟨h1, ?_⟩;rcases gz h2 with⟨hc,h⟩|⟨hc,h⟩<;>simpa [hc] using h
section
variable {E:kv} {A B:mn} {ann:bP} {N:Nat} {f:FuncId}
theorem eU {dst:Option Tmp} {x:T} {S:St} {K K':St→Prop} (h:∀S,K S→K' S) (hp:jv ann N dst x S K):jv ann N dst x S K':=by
 cases dst with
 |none=>exact h _ hp
 |some d=>
  refine bT ?_ hp
  cases x with
  |v y=>exact h _
  |undef=>exact h _
  |lp s off=>
   simp only[]
   cases ab ann.aV d with
   |none=>exact id
   |some s'=>cases hs:Nat.beq s s'<;>simp [hs];exact h _
theorem Bx {lo hi:Nat} {K K':Nat→Prop} (h:∀c,K c→K' c) (ha:QP lo hi K):QP lo hi K':=fun c h1 h2=>h _ (ha c h1 h2)
theorem AU {ts:List TypeId} {args:List V} {H:ag} {K K':Oq→Nat→Nat→ag→Prop} (h:∀q n c H',K q n c H'→K' q n c H') (ho:aP E ts args H K):aP E ts args H K':=by
 unfold aP at ho⊢;split at ho
 ·split at ho
  ·split at ho
   ·exact bT (eY (bT (h _ _ _ _)) (bT (Bx fun c=>h _ _ _ _))) ho
   ·exact ho
  ·exact ho
 ·exact ho
theorem tX {g:FuncId} {args:List V} {H:ag} {K K':V→ag→Prop} (h:∀v H',K v H'→K' v H') (ho:iR E g args H K):iR E g args H K':=by
 unfold iR at ho⊢;split at ho
 ·rename_i x _;exact x.mono _ _ _ _ h ho
 ·exact ho
theorem Hy (hR:A.le B) {fv:V} {args:List V} {H:ag} {K K':V→ag→Prop} (h:∀v H',K v H'→K' v H') (ho:lu E A fv args H K):lu E B fv args H K':=by
 unfold lu at ho⊢;split at ho
 ·split at ho
  ·exact tX h ho
  ·exact hR.call _ _ _ _ _ h ho
 ·split at ho
  ·exact tX h ho
  ·exact hR.call _ _ _ _ _ h ho
 ·exact ho
theorem C6 {H:ag} {id:Nat} {K1 K1':Prop} {K2 K2':ag→Prop} (h1:K1→K1') (h2:∀H',K2 H'→K2' H') (ho:mapNext H id K1 K2):mapNext H id K1' K2':=by
 unfold mapNext at ho⊢;split at ho
 ·exact h1 ho
 ·split at ho
  ·rename_i es c _;revert ho;cases n9 _ es&&Nat.ble _ _
   ·exact fun ho=>ho
   ·simp only[cond_true];split
    ·exact h1
    ·exact fun ho b hb=>h2 _ (ho b hb)
  ·exact ho
 ·exact ho
theorem C7 {rt:TypeId} {K K':T→ag→Prop} (h:∀x H',K x H'→K' x H') (v:V) (H':ag) (hv:match tO E rt v with|some (b,v')=>ah b (K (.v v') H')|none=>False):match tO E rt v with|some (b,v')=>ah b (K' (.v v') H')|none=>False:=by
 revert hv;split
 ·exact bT (h _ _)
 ·exact id
theorem jM (hR:A.le B) {o:Op} {rt:TypeId} {ev:Ev} {H:ag} {K K':T→ag→Prop} (h:∀x H',K x H'→K' x H') (ho:bJ E A o rt ev H K):bJ E B o rt ev H K':=by
 have simple:∀o':Op,(match bX E o' ev H with|some (r,x,H')=>ah r (K x H')|none=>False)→
  (match bX E o' ev H with|some (r,x,H')=>ah r (K' x H')|none=>False):=by
  intro o' ho;revert ho;split
  ·exact bT (h _ _)
  ·exact id
 unfold bJ at ho⊢;split at ho
 ·split at ho
  ·split at ho
   ·exact h _ _ ho
   ·exact ho
  ·exact ho
 ·split at ho
  ·split at ho
   ·exact bT (h _ _) ho
   ·exact ho
  ·exact ho
 ·split at ho
  ·split at ho
   ·exact bT (h _ _) ho
   ·exact ho
  ·exact ho
 ·split at ho
  ·split at ho
   ·split at ho
    ·exact bT (h _ _) ho
    ·exact ho
   ·exact ho
  ·exact ho
 ·split at ho
  ·split at ho
   ·exact Hy hR (C7 h) ho
   ·exact ho
  ·exact AU (fun _ _ _ _=>h _ _) ho
  ·exact simple _ ho
 ·split at ho
  ·split at ho
   ·split at ho
    ·exact bT (Bx fun c=>h _ _) ho
    ·exact ho
   ·exact ho
  ·exact simple _ ho
 ·split at ho
  ·exact C6 (h _ _) (fun _=>h _ _) ho
  ·exact ho
 ·exact simple _ ho
theorem ym (hR:A.le B) {o:Oper} {S:St} {K K':St→Prop} (h:∀S,K S→K' S) (ho:jm E A ann N o S K):jm E B ann N o S K':=by
 unfold jm at ho⊢;split at ho
 ·split at ho
  ·exact fR.cD (fun x=>eU h) ho
  ·exact ho
 ·split at ho
  ·exact fR.cD (fun x=>eU h) ho
  ·exact ho
 ·split at ho
  ·exact fR.cD (fun x=>eU h) ho
  ·exact ho
 ·split at ho
  ·exact bT (eU h) ho
  ·exact ho
 ·split at ho
  ·exact fR.cD (fun x=>eU h) ho
  ·exact ho
 ·exact jM hR (fun x H'=>eU h) ho
 ·unfold Jc at ho⊢;split at ho
  ·split at ho
   ·exact eU h ho
   ·exact ho
  ·exact ho
theorem eG (hR:A.le B) {aF:List Oper} {o:Oper} {S:St} {K K':St→Prop} (h:∀S,K S→K' S) (ho:eQ E A ann N aF o S K):eQ E B ann N aF o S K':=by
 unfold eQ at ho⊢;split at ho
 ·exact ym hR h ho
 ·split at ho
  ·exact eY (ym hR h) (eU h) ho
  ·exact eU h ho
  ·exact ho
theorem pF (hR:A.le B) {aF:List Oper}:∀(l:List Oper) {S:St} {K K':St→Prop},(∀S,K S→K' S)→ly E A ann N aF l S K→ly E B ann N aF l S K'
 |[],_,_,_,h,ho=>h _ ho
 |_::l,_,_,_,h,ho=>eG hR (fun _=>pF hR l h) ho
theorem By {S:St} {s:Nat} {x:T} (h:S.tm s=some x):S.setT s x=S:=by
 have:(fun t=>bif Nat.beq t s then some x else S.tm t)=S.tm:=by
  funext t;cases hb:Nat.beq t s
  ·rfl
  ·rw[Nat.eq_of_beq_eq_true hb,h];rfl
 cases S;simp only[St.setT,St.mk.injEq,and_true];exact this
theorem hY {aF:List Oper} {o:Oper} {S:St} {K:St→Prop}:tV E A ann N aF o S K=eQ E A ann N aF o S K:=by
 unfold tV eQ
 cases o.guard with
 |none=>rfl
 |some p=>
  obtain⟨j,want⟩:=p;simp only[CY,ga]
  cases aF[j]? with
  |none=>rfl
  |some q=>
   simp only[]
   cases q.dst with
   |none=>rfl
   |some s=>
    simp only[]
    cases ht:S.tm s with
    |none=>rfl
    |some t=>cases t with
     |undef=>rfl
     |lp s' off=>rfl
     |v x=>cases x with
      |bool b=>
       simp only[QN];by_cases hb:b=want
       ·subst hb;simp only[beq_self_eq_true,br,By ht]
       ·have hw:(b == want)=false:=by simpa using hb
        have hn:(!want)=b:=by cases b<;>cases want<;>simp_all
        simp only[hw,br,hn,By ht]
      |_=>rfl
theorem kY {aF:List Oper}:∀(l:List Oper) {S:St} {K:St→Prop},sy E A ann N aF l S K=ly E A ann N aF l S K
 |[],_,_=>rfl
 |o::l,S,K=>by
  simp only[sy,ly,hY];congr 1;funext S';exact kY l
theorem ir {ts ls:List Nat} {S:St} {K K':St→Prop} (h:∀S,K S→K' S) (hn:lz ts ls S K):lz ts ls S K':=by
 unfold lz at hn⊢;split at hn
 ·exact h _ hn
 ·exact hn
theorem sB {ts:List (Nat×KT)} {ls:List (Nat×TypeId×List cg)} {S:St} {K K':St→Prop} (h:∀S,K S→K' S) (hn:Bv ts ls S K):Bv ts ls S K':=
 bT (h _) hn
theorem wK {kp:ju} {K K':Ex→St→Prop} (h:∀e S,K e S→K' e S):∀(l:List Nat) (id:Nat) (S:St),vF kp K l id S→vF kp K' l id S
 |[],_,_,hn=>hn
 |_::l,id,S,hn=>eY (sB (h _)) (wK h l id S) hn
theorem Hz {kp:Option ju} {A A':(Ex→St→Prop)→Prop} {K K':Ex→St→Prop} (h:∀e S,K e S→K' e S) (hA:∀K K',(∀e S,K e S→K' e S)→A K→A' K') (hj:wJ kp A K):wJ kp A' K':=by
 unfold wJ at hj⊢
 cases kp with
 |none=>exact hA _ _ h hj
 |some kp=>
  refine hA _ _ ?_ hj;intro e S
  cases e with
  |normal=>exact ir fun S=>sB (h _)
  |exit id=>exact h _ _
  |ret=>exact h _ _
theorem E8 {ts ls dT dL:List Nat} {tr:fO MS} {S:St} {K K':St→Prop} (h:∀S,K S→K' S) (hm:pD ts ls dT dL tr S K):pD ts ls dT dL tr S K':=by
 unfold pD at hm⊢;split at hm
 ·exact bT (h _) hm
 ·exact hm
theorem pG (hR:A.le B) {aF:List Oper} {ts ls dT dL:List Nat} {K K':St→Prop} (h:∀S,K S→K' S):∀(l:List Oper) {S:St},kC E A ann N ts ls dT dL aF l S K→kC E B ann N ts ls dT dL aF l S K'
 |[],S,hx=>h _ hx
 |o::l,S,hx=>by
  unfold kC at hx⊢;split at hx
  ·rw[hY] at hx⊢;exact eG hR (fun _=>pG hR h l) hx
  ·exact E8 h hx
theorem HA {kp:ju} {S0:St} {A A':(Ex→St→Prop)→Prop} {K K':Ex→St→Prop} (h:∀e S,K e S→K' e S) (hA:∀K K',(∀e S,K e S→K' e S)→A K→A' K') (hj:E6 kp S0 A K):E6 kp S0 A' K':=by
 unfold E6 at hj⊢;refine hA _ _ ?_ hj;intro e S
 cases e with
 |normal=>exact ir fun S=>bT (h _ _)
 |exit id=>exact h _ _
 |ret=>exact h _ _
theorem sC {ok:ju→Bool} {kp:Option ju} {S0:St} {A A':(Ex→St→Prop)→Prop} {K K':Ex→St→Prop} (h:∀e S,K e S→K' e S) (hA:∀K K',(∀e S,K e S→K' e S)→A K→A' K') (hj:mq ok kp S0 A K):mq ok kp S0 A' K':=by
 unfold mq at hj⊢
 cases kp with
 |none=>exact hA _ _ h hj
 |some kp=>
  simp only[] at hj⊢;split at hj
  ·exact bT (HA h hA) hj
  ·exact Hz h hA hj
theorem jT {st st':Nat→St→(St→Prop)→Prop} (hs:∀i S K K',(∀S,K S→K' S)→st i S K→st' i S K'):∀(t:rQ) {S:St} {K K':St→Prop},(∀S,K S→K' S)→iq st t S K→iq st' t S K'
 | .nil,S,K,K',h,hx=>h _ hx
 | .aT,S,K,K',h,hx=>hx
 | .one i r,S,K,K',h,hx=>hs _ _ _ _ (fun S' hk=>jT hs r h hk) hx
 | .Nf a b,S,K,K',h,hx=>⟨jT hs a h hx.1,jT hs b h hx.2⟩
theorem oj (hR:A.le B) {aF:List Oper} {draw:Bool} {S:St} {K K':St→Prop} (h:∀S,K S→K' S) (hx:gS E A ann N aF draw S K):gS E B ann N aF draw S K':=by
 unfold gS at hx⊢;revert hx;split
 ·simp only[kY];exact pF hR _ h
 ·refine bT (jT (fun i S K K' h hx=> ?_) _ h);unfold fS at hx⊢;split at hx
  ·rw[hY] at hx⊢;exact eG hR h hx
  ·exact hx
theorem gT (hR:A.le B):∀(c:Code) (n:Nat) (S:St) (K K':Ex→St→Prop),(∀e S,K e S→K' e S)→gq E A f ann N c n S K→gq E B f ann N c n S K':=by
 intro c
 induction c with
 |skip=>intro n S K K' h hx;exact h _ _ hx
 |seq a b iha ihb=>
  intro n S K K' h hx;refine iha _ _ _ _ ?_ hx;intro e S'
  cases e with
  |normal=>exact ihb _ _ _ _ h
  |exit id=>exact h _ _
  |ret=>exact h _ _
 |cond c x y ihx ihy=>
  intro n S K K' h hx;simp only[gq] at hx⊢;split at hx
  ·exact sC h (fun K K' h=>eY (ihx _ _ _ _ h) (ihy _ _ _ _ h)) hx
  ·exact hx
 |block id b ih=>
  intro n S K K' h hx;simp only[gq] at hx⊢;refine sC h ?_ hx;intro K K' h hx;refine ih _ _ _ _ ?_ hx;intro e S'
  cases e with
  |normal=>exact h _ _
  |exit j=>exact eY (h _ _) (h _ _)
  |ret=>exact h _ _
 |loop c ih=>
  intro n S K K' h hx;simp only[gq] at hx⊢;split at hx
  ·exact ir (fun S0=>hR.loop _ _ _ _ _ _ _ _ (fun S'=>sB (h _)) (fun id S'=>wK h _ id S')) hx
  ·exact hx
 |exit id=>intro n S K K' h hx;exact h _ _ hx
 |ret=>intro n S K K' h hx;exact h _ _ hx
 |region id aF draw=>
  intro n S K K' h hx;simp only[gq] at hx⊢;revert hx;split
  ·exact oj hR (h _)
  ·split
   ·exact bT (pG hR (h _) _)
   ·exact sC h (fun K K' h=>oj hR (h _))
 |rangeFunc=>intro n S K K' h hx;exact hx
 |scope b ih=>intro n S K K' h hx;simp only[gq] at hx⊢;exact ih _ _ _ _ h hx
 |label=>intro n S K K' h hx;simp only[gq] at hx⊢;exact h _ _ hx
 |goto=>intro n S K K' h hx;exact hx
 |refuse=>intro n S K K' h hx;exact hx
theorem C8 {S:St} {r:ResultVar} {K K':V→Prop} (h:∀v,K v→K' v) (hx:mr E S r K):mr E S r K':=by
 unfold mr at hx⊢;split at hx
 ·split at hx
  ·exact h _ hx
  ·exact hx
 ·split at hx
  ·split at hx
   ·split at hx
    ·exact bT (h _) hx
    ·exact hx
   ·exact hx
  ·split at hx
   ·refine fR.cD ?_ hx;intro x
    cases x with
    |v y=>exact h _
    |_=>exact id
   ·exact hx
theorem rS {S:St}:∀(l:List ResultVar) {K K':List V→Prop},(∀v,K v→K' v)→ns E S l K→ns E S l K'
 |[],_,_,h,hx=>h _ hx
 |_::l,_,_,h,hx=>C8 (fun _=>rS l fun _=>h _) hx
theorem Bz {fn:Func} {K K':V→ag→Prop} (h:∀v H,K v H→K' v H) {S:St} (hx:K4 E fn K S):K4 E fn K' S:=by
 refine rS _ ?_ hx;intro vs;split
 ·exact h _ _
 ·exact h _ _
theorem vG (hR:A.le B):(F E A).le (F E B) where
 call f args H K K' h hx:=by
  simp only[F] at hx⊢;split at hx
  ·split at hx
   ·refine bT (gT hR _ _ _ _ _ ?_) hx;intro e S
    cases e with
    |normal=>exact Bz h
    |exit id=>exact fun h=>h
    |ret=>exact Bz h
   ·exact hx
  ·exact hx
 loop c f n S Kr Qd Ke Qe hr he hx:=by
  simp only[F] at hx⊢;split at hx
  ·refine gT hR _ _ _ _ _ ?_ hx;intro e S
   cases e with
   |normal=>exact ir fun S0=>hR.loop _ _ _ _ _ _ _ _ hr he
   |exit id=>exact ir (he id)
   |ret=>exact ir hr
  ·exact hx
theorem nt:(rR E).le (rR E):=
 ⟨fun f args H _ _ hk hx R hm hp=>hm.call f args H _ _ hk (hx R hm hp),
  fun c f n S _ _ _ _ hr he hx R hm hp=>hm.loop c f n S _ _ _ _ hr he (hx R hm hp)⟩
theorem yn {R:mn} (hm:R.le R) (hp:(F E R).le R):(rR E).le R:=
 ⟨fun f args H _ _ hk hx=>hm.call f args H _ _ hk (hx R hm hp),
  fun c f n S _ _ _ _ hr he hx=>hm.loop c f n S _ _ _ _ hr he (hx R hm hp)⟩
theorem pH:(F E (rR E)).le (rR E):=
 ⟨fun f args H _ _ hk hx R hm hp=>hp.call f args H _ _ hk ((vG (yn hm hp)).call f args H _ _ (fun _ _=>id) hx),
  fun c f n S _ _ _ _ hr he hx R hm hp=>hp.loop c f n S _ _ _ _ hr he ((vG (yn hm hp)).loop c f n S _ _ _ _ (fun _=>id) (fun _ _=>id) hx)⟩
theorem E9:(rR E).le (F E (rR E)):=yn (vG nt) (vG pH)
theorem Nh {args:List V} {H:ag} {K:V→ag→Prop}:(rR E).call f args H K=(F E (rR E)).call f args H K:=
 propext ⟨E9.call _ _ _ _ _ fun _ _=>id,pH.call _ _ _ _ _ fun _ _=>id⟩
theorem Ni {c:Code} {n:Nat} {S:St} {Kr:St→Prop} {Ke:Nat→St→Prop}:(rR E).loop c f n S Kr Ke=(F E (rR E)).loop c f n S Kr Ke:=
 propext ⟨E9.loop _ _ _ _ _ _ _ _ (fun _=>id) fun _ _=>id,pH.loop _ _ _ _ _ _ _ _ (fun _=>id) fun _ _=>id⟩
structure iu (R:mn):Prop where
 call:∀f args H K,R.call f args H K→∃v H',K v H'
 loop:∀c f n S Kr Ke,R.loop c f n S Kr Ke→(∃S',Kr S')∨∃id S',Ke id S'
theorem fc {dst:Option Tmp} {x:T} {S:St} {K:St→Prop} (hp:jv ann N dst x S K):∃S',K S':=by
 cases dst with
 |none=>exact⟨_,hp⟩
 |some d=>
  have h:=(aQ hp).2
  cases x with
  |v y=>exact⟨_,h⟩
  |undef=>exact⟨_,h⟩
  |lp s off=>
   simp only[] at h
   cases hl:ab ann.aV d with
   |none=>rw[hl] at h;exact h.elim
   |some s'=>
    rw[hl] at h;cases hs:Nat.beq s s'<;>simp [hs] at h
    exact⟨_,h⟩
theorem xn {ts:List TypeId} {args:List V} {H:ag} {K:Oq→Nat→Nat→ag→Prop} (ho:aP E ts args H K):∃q n c H',K q n c H':=by
 unfold aP at ho;split at ho
 ·rename_i t u p l cp x;split at ho
  ·rename_i el n cL z _
   split at ho
   ·rename_i r m ok cs _;rcases gz (aQ ho).2 with⟨_,h⟩|⟨_,h⟩
    ·exact⟨_,_,_,_,(aQ h).2⟩
    ·obtain⟨hr,h⟩:=aQ h;simp only[Bool.and_eq_true] at hr;have hb:=Nat.le_of_ble_eq_true hr.2.2;refine⟨_,_,_,_,h _ (Nat.le_refl _) ?_⟩;have:l+m≤(l+m)*(cL+1):=Nat.le_mul_of_pos_right _ (by omega);omega
   ·exact ho.elim
  ·exact ho.elim
 ·exact ho.elim
theorem C9 (hR:iu A) {fv:V} {args:List V} {H:ag} {K:V→ag→Prop} (ho:lu E A fv args H K):∃v H',K v H':=by
 unfold lu at ho;split at ho
 ·split at ho
  ·unfold iR at ho;split at ho
   ·rename_i x _;exact x.vC _ _ _ ho
   ·exact ho.elim
  ·exact hR.call _ _ _ _ ho
 ·split at ho
  ·unfold iR at ho;split at ho
   ·rename_i x _;exact x.vC _ _ _ ho
   ·exact ho.elim
  ·exact hR.call _ _ _ _ ho
 ·exact ho.elim
theorem yo {H:ag} {id:Nat} {K1:Prop} {K2:ag→Prop} (ho:mapNext H id K1 K2):K1∨∃H',K2 H':=by
 unfold mapNext at ho;split at ho
 ·exact .inl ho
 ·split at ho
  ·rename_i es c _;revert ho;cases n9 _ es&&Nat.ble _ _
   ·exact fun ho=>ho.elim
   ·simp only[cond_true];split
    ·exact .inl
    ·exact fun ho=>.inr ⟨_,ho _ (List.mem_cons_self)⟩
  ·exact ho.elim
 ·exact ho.elim
theorem yp {rt:TypeId} {K:T→ag→Prop} (v:V) (H':ag) (hv:match tO E rt v with|some (b,v')=>ah b (K (.v v') H')|none=>False):∃x H',K x H':=by
 revert hv;split
 ·exact fun hv=>⟨_,_,(aQ hv).2⟩
 ·exact fun hv=>hv.elim
theorem oY (hR:iu A) {o:Op} {rt:TypeId} {ev:Ev} {H:ag} {K:T→ag→Prop} (ho:bJ E A o rt ev H K):∃x H',K x H':=by
 have simple:∀o':Op,(match bX E o' ev H with|some (r,x,H')=>ah r (K x H')|none=>False)→∃x H',K x H':=by
  intro o' ho;revert ho;split
  ·exact fun ho=>⟨_,_,(aQ ho).2⟩
  ·exact fun ho=>ho.elim
 unfold bJ at ho;split at ho
 ·split at ho
  ·split at ho
   ·exact⟨_,_,ho⟩
   ·exact ho.elim
  ·exact ho.elim
 ·split at ho
  ·split at ho
   ·exact⟨_,_,(aQ ho).2⟩
   ·exact ho.elim
  ·exact ho.elim
 ·split at ho
  ·split at ho
   ·exact⟨_,_,(aQ ho).2⟩
   ·exact ho.elim
  ·exact ho.elim
 ·split at ho
  ·split at ho
   ·split at ho
    ·exact⟨_,_,(aQ ho).2⟩
    ·exact ho.elim
   ·exact ho.elim
  ·exact ho.elim
 ·split at ho
  ·split at ho
   ·obtain⟨v,H',hv⟩:=C9 hR ho;exact yp v H' hv
   ·exact ho.elim
  ·obtain⟨q,n,c,H',hk⟩:=xn ho;exact⟨_,_,hk⟩
  ·exact simple _ ho
 ·split at ho
  ·split at ho
   ·split at ho
    ·obtain⟨hr,h⟩:=aQ ho;have hb:=Nat.le_of_ble_eq_true hr;exact⟨_,_,h _ (Nat.le_refl _) (by omega)⟩
    ·exact ho.elim
   ·exact ho.elim
  ·exact simple _ ho
 ·split at ho
  ·rcases yo ho with h|⟨H',h⟩
   ·exact⟨_,_,h⟩
   ·exact⟨_,_,h⟩
  ·exact ho.elim
 ·exact simple _ ho
theorem tY (hR:iu A) {o:Oper} {S:St} {K:St→Prop} (ho:jm E A ann N o S K):∃S',K S':=by
 unfold jm at ho;split at ho
 ·split at ho
  ·exact fc (fR.eZ ho).2
  ·exact ho.elim
 ·split at ho
  ·exact fc (fR.eZ ho).2
  ·exact ho.elim
 ·split at ho
  ·exact fc (fR.eZ ho).2
  ·exact ho.elim
 ·split at ho
  ·exact fc (aQ ho).2
  ·exact ho.elim
 ·split at ho
  ·exact fc (fR.eZ ho).2
  ·exact ho.elim
 ·obtain⟨x,H',h⟩:=oY hR ho;exact fc h
 ·unfold Jc at ho;split at ho
  ·split at ho
   ·exact fc ho
   ·exact ho.elim
  ·exact ho.elim
theorem om (hR:iu A) {aF:List Oper} {o:Oper} {S:St} {K:St→Prop} (ho:eQ E A ann N aF o S K):∃S',K S':=by
 unfold eQ at ho;split at ho
 ·exact tY hR ho
 ·split at ho
  ·rcases gz ho with⟨_,h⟩|⟨_,h⟩
   ·exact tY hR h
   ·exact fc h
  ·exact fc ho
  ·exact ho.elim
theorem rT (hR:iu A) {aF:List Oper}:∀(l:List Oper) {S:St} {K:St→Prop},ly E A ann N aF l S K→∃S',K S'
 |[],_,_,ho=>⟨_,ho⟩
 |_::l,_,_,ho=>let ⟨_,h⟩:=om hR ho;rT hR l h
theorem gU {ts ls:List Nat} {S:St} {K:St→Prop} (h:lz ts ls S K):∃S',K S':=by
 unfold lz at h;split at h
 ·exact⟨_,h⟩
 ·exact h.elim
theorem rU {kp:ju} {K:Ex→St→Prop}:∀(l:List Nat) (id:Nat) (S:St),vF kp K l id S→∃e S',K e S'
 |[],_,_,h=>h.elim
 |_::l,id,S,h=>by
  rcases gz h with⟨_,h⟩|⟨_,h⟩
  ·exact⟨_,_,(aQ h).2⟩
  ·exact rU l id S h
theorem Da {kp:Option ju} {Q:(Ex→St→Prop)→Prop} {K:Ex→St→Prop} (hQ:∀K,Q K→∃e S,K e S) (h:wJ kp Q K):∃e S,K e S:=by
 unfold wJ at h
 cases kp with
 |none=>exact hQ _ h
 |some kp=>
  obtain⟨e,S,h⟩:=hQ _ h
  cases e with
  |normal=>obtain⟨S',h⟩:=gU h;exact⟨_,_,(aQ h).2⟩
  |exit id=>exact⟨_,_,h⟩
  |ret=>exact⟨_,_,h⟩
theorem oo {ok:ju→Bool} {kp:Option ju} {S0:St} {Q:(Ex→St→Prop)→Prop} {K:Ex→St→Prop} (hQ:∀K,Q K→∃e S,K e S) (h:mq ok kp S0 Q K):∃e S,K e S:=by
 unfold mq at h
 cases kp with
 |none=>exact hQ _ h
 |some kp=>
  simp only[] at h;split at h
  ·obtain⟨e,S,h⟩:=hQ _ (aQ h).2
   cases e with
   |normal=>obtain⟨S',h⟩:=gU h;exact⟨_,_,(aQ h).2⟩
   |exit id=>exact⟨_,_,h⟩
   |ret=>exact⟨_,_,h⟩
  ·exact Da hQ h
theorem rV (hR:iu A) {aF:List Oper} {ts ls dT dL:List Nat} {K:St→Prop}:∀(l:List Oper) {S:St},kC E A ann N ts ls dT dL aF l S K→∃S',K S'
 |[],S,hx=>⟨_,hx⟩
 |o::l,S,hx=>by
  unfold kC at hx;split at hx
  ·rw[hY] at hx;obtain⟨S',h⟩:=om hR hx;exact rV hR l h
  ·unfold pD at hx;split at hx
   ·exact⟨_,(aQ hx).2⟩
   ·exact hx.elim
theorem mS {st:Nat→St→(St→Prop)→Prop} (hs:∀i S K,st i S K→∃S',K S'):∀(t:rQ) {S:St} {K:St→Prop},iq st t S K→∃S',K S'
 | .nil,S,K,hx=>⟨_,hx⟩
 | .aT,S,K,hx=>hx.elim
 | .one i r,S,K,hx=>by
   obtain⟨S',h⟩:=hs _ _ _ hx;exact mS hs r h
 | .Nf a b,S,K,hx=>mS hs a hx.1
theorem pI (hR:iu A) {aF:List Oper} {draw:Bool} {S:St} {K:St→Prop} (hx:gS E A ann N aF draw S K):∃S',K S':=by
 unfold gS at hx;revert hx;split
 ·rw[kY];exact rT hR _
 ·intro hx;refine mS (fun i S K h=> ?_) _ (aQ hx).2;unfold fS at h;split at h
  ·rw[hY] at h;exact om hR h
  ·exact h.elim
theorem wM (hR:iu A):∀(c:Code) (n:Nat) (S:St) (K:Ex→St→Prop),gq E A f ann N c n S K→∃e S',K e S':=by
 intro c
 induction c with
 |skip=>intro n S K hx;exact⟨_,_,hx⟩
 |seq a b iha ihb=>
  intro n S K hx;obtain⟨e,S',h⟩:=iha _ _ _ hx
  cases e with
  |normal=>exact ihb _ _ _ h
  |exit id=>exact⟨_,_,h⟩
  |ret=>exact⟨_,_,h⟩
 |cond c x y ihx ihy=>
  intro n S K hx;simp only[gq] at hx;split at hx
  ·refine oo ?_ hx;intro K h;rcases gz h with⟨_,h⟩|⟨_,h⟩
   ·exact ihx _ _ _ h
   ·exact ihy _ _ _ h
  ·exact hx.elim
 |block id b ih=>
  intro n S K hx;simp only[gq] at hx;refine oo ?_ hx;intro K hx;obtain⟨e,S',h⟩:=ih _ _ _ hx
  cases e with
  |normal=>exact⟨_,_,h⟩
  |exit j=>rcases gz h with⟨_,h⟩|⟨_,h⟩<;>exact⟨_,_,h⟩
  |ret=>exact⟨_,_,h⟩
 |loop c ih=>
  intro n S K hx;simp only[gq] at hx;split at hx
  ·obtain⟨S0,h⟩:=gU hx;rcases hR.loop _ _ _ _ _ _ h with⟨S',h⟩|⟨id,S',h⟩
   ·exact⟨_,_,(aQ h).2⟩
   ·exact rU _ _ _ h
  ·exact hx.elim
 |exit id=>intro n S K hx;exact⟨_,_,hx⟩
 |ret=>intro n S K hx;exact⟨_,_,hx⟩
 |region id aF draw=>
  intro n S K hx;simp only[gq] at hx;revert hx;split
  ·intro hx;obtain⟨S',h⟩:=pI hR hx;exact⟨_,_,h⟩
  ·split
   ·intro hx;obtain⟨S',h⟩:=rV hR _ (aQ hx).2;exact⟨_,_,h⟩
   ·intro hx;refine oo ?_ hx;intro K h;obtain⟨S',h⟩:=pI hR h;exact⟨_,_,h⟩
 |rangeFunc=>intro n S K hx;exact hx.elim
 |scope b ih=>intro n S K hx;simp only[gq] at hx;exact ih _ _ _ hx
 |label=>intro n S K hx;simp only[gq] at hx;exact⟨_,_,hx⟩
 |goto=>intro n S K hx;exact hx.elim
 |refuse=>intro n S K hx;exact hx.elim
theorem yq {S:St} {r:ResultVar} {K:V→Prop} (hx:mr E S r K):∃v,K v:=by
 unfold mr at hx;split at hx
 ·split at hx
  ·exact⟨_,hx⟩
  ·exact hx.elim
 ·split at hx
  ·split at hx
   ·split at hx
    ·exact⟨_,(aQ hx).2⟩
    ·exact hx.elim
   ·exact hx.elim
  ·split at hx
   ·have h:=(fR.eZ hx).2;revert h;split
    ·exact fun h=>⟨_,h⟩
    ·exact fun h=>h.elim
   ·exact hx.elim
theorem oZ {S:St}:∀(l:List ResultVar) {K:List V→Prop},ns E S l K→∃v,K v
 |[],_,hx=>⟨_,hx⟩
 |_::l,_,hx=>let ⟨_,h⟩:=yq hx;let ⟨_,h⟩:=oZ l h;⟨_,h⟩
theorem wN {fn:Func} {K:V→ag→Prop} {S:St} (hx:K4 E fn K S):∃v H',K v H':=by
 obtain⟨vs,h⟩:=oZ _ hx;revert h;split
 ·exact fun h=>⟨_,_,h⟩
 ·exact fun h=>⟨_,_,h⟩
theorem Fa (hR:iu A):iu (F E A) where
 call f args H K hx:=by
  simp only[F] at hx;split at hx
  ·split at hx
   ·obtain⟨e,S,h⟩:=wM hR _ _ _ _ (aQ hx).2
    cases e with
    |normal=>exact wN h
    |exit id=>exact h.elim
    |ret=>exact wN h
   ·exact hx.elim
  ·exact hx.elim
 loop c f n S Kr Ke hx:=by
  simp only[F] at hx;split at hx
  ·obtain⟨e,S,h⟩:=wM hR _ _ _ _ hx
   cases e with
   |normal=>obtain⟨S',h⟩:=gU h;exact hR.loop _ _ _ _ _ _ h
   |exit id=>obtain⟨S',h⟩:=gU h;exact .inr ⟨_,_,h⟩
   |ret=>obtain⟨S',h⟩:=gU h;exact .inl ⟨_,h⟩
  ·exact hx.elim
def Jd:mn where
 call _ _ _ K:=∃v H',K v H'
 loop _ _ _ _ Kr Ke:=(∃S',Kr S')∨∃id S',Ke id S'
theorem tZ:iu Jd:=⟨fun _ _ _ _ h=>h,fun _ _ _ _ _ _ h=>h⟩
theorem sD:Jd.le Jd:=
 ⟨fun _ _ _ _ _ h ⟨v,H',hk⟩=>⟨v,H',h _ _ hk⟩,
  fun _ _ _ _ _ _ _ _ hr he h=>h.imp (fun⟨S',h⟩=>⟨S',hr _ h⟩) fun⟨id,S',h⟩=>⟨id,S',he _ _ h⟩⟩
theorem sE:iu (rR E):=by
 have h:(rR E).le Jd:=yn sD
  ⟨fun f args H K K' hk hx=>sD.call f args H _ _ hk ((Fa tZ).call f args H K hx),
   fun c f n S Kr Qd Ke Qe hr he hx=>sD.loop c f n S _ _ _ _ hr he ((Fa tZ).loop c f n S Kr Ke hx)⟩
 exact⟨fun f args H K hx=>h.call f args H _ _ (fun _ _=>id) hx,fun c f n S Kr Ke hx=>h.loop c f n S _ _ _ _ (fun _=>id) (fun _ _=>id) hx⟩
end
theorem jz {n:Nat}:∀{l:List Nat},bC n l=true↔n∈l
 |[]=>by simp [bC]
 |x::l=>by
  rw[bC,Bool.or_eq_true,jz,List.mem_cons];exact⟨fun h=>h.imp Nat.eq_of_beq_eq_true id,fun h=>h.imp (fun e=>by subst e;exact Nat.beq_refl n) id⟩
theorem fP {l m:List Nat} (h:jn l m=false):∀x∈l,x∉m:=by
 induction l with
 |nil=>intro x hx;cases hx
 |cons y l ih=>
  rw[jn,Bool.or_eq_false_iff] at h;intro x hx hm;rcases List.mem_cons.1 hx with rfl|hx
  ·have:=jz.2 hm;rw[h.1] at this;cases this
  ·exact ih h.2 x hx hm
structure je where
 x:T
 QS:Option (Nat×aO):=none
 kd:Option Nat:=none
 hp:Option ag:=none
def je.apply (ann:bP) (dst:Option Tmp) (u:je) (S:St):St where
 tm:=fun t=>if dst=some t then some u.x else if u.kd.isSome=true∧ab ann.aV t=u.kd then none else S.tm t
 lo:=fun s=>match u.QS with|some (s',L)=>if s=s' then some L else S.lo s|none=>S.lo s
 hp:=u.hp.getD S.hp
def K5 (ann:bP) (N:Nat) (dst:Option Tmp) (x:T):Prop:=
 ∀d,dst=some d→Nat.blt d N=true∧∀s off,x=.lp s off→ab ann.aV d=some s
def gV (dst:Option Tmp) (x:T) (S:St):St:=match dst with|some d=>S.setT d x|none=>S
theorem ee {ann:bP} {N:Nat} {dst:Option Tmp} {x:T} {S:St} {K:St→Prop}:jv ann N dst x S K↔K5 ann N dst x∧K (gV dst x S):=by
 cases dst with
 |none=>simp [jv,K5,gV]
 |some d=>
  by_cases hb:d<N
  ·have hb':Nat.blt d N=true:=by simpa using hb
   cases x with
   |v y=>simp [jv,K5,ah,hb',gV,hb]
   |undef=>simp [jv,K5,ah,hb',gV,hb]
   |lp s off=>
    cases hl:ab ann.aV d with
    |none=>simp [jv,K5,ah,hb',hl]
    |some s'=>
     cases hs:Nat.beq s s'
     ·have:s'≠s:=fun e=>by subst e;rw[Nat.beq_refl] at hs;cases hs
      simp [jv,K5,ah,hb',hl,hs,this]
     ·have:s'=s:=(Nat.eq_of_beq_eq_true hs).symm;simp [jv,K5,ah,hb',hl,gV,this,hb]
  ·have hb':Nat.blt d N=false:=by
    cases h:Nat.blt d N
    ·rfl
    ·exact(hb (by simpa using h)).elim
   simp [jv,K5,ah,hb',hb]
theorem St.ext' {S S':St} (h1:∀t,S.tm t=S'.tm t) (h2:∀t,S.lo t=S'.lo t) (h3:S.hp=S'.hp):S=S':=by
 cases S;cases S';simp only[St.mk.injEq];exact⟨funext h1,funext h2,h3⟩
theorem aW {a b:Nat}:Nat.beq a b=decide (a=b):=by
 cases h:Nat.beq a b
 ·rw[eq_comm,decide_eq_false_iff_not];intro e;subst e;rw[Nat.beq_refl] at h;cases h
 ·rw[eq_comm,decide_eq_true_iff];exact Nat.eq_of_beq_eq_true h
section
variable {E:kv} {R:mn} {ann:bP} {N:Nat} {aF:List Oper}
def pe (E:kv) (R:mn) (ann:bP) (o:Oper) (S:St) (P:je→Prop):Prop:=
 match Hw E ann o with
 | .pure=>match aZ E o.op (cS S.tm) with|some d=>d.run fun x=>P {x}|none=>False
 | .oW s=>match gR E o.op (cS S.tm) s (S.lo s) with|some d=>d.run fun x=>P {x}|none=>False
 | .iP s=>match dZ E o.op (cS S.tm) s (S.lo s) with|some d=>d.run fun x=>P {x:=x.2,QS:=some (s,x.1)}|none=>False
 | .tT=>match o.dst,iO E o.op (cS S.tm) with
   |some d,some (r,L)=>ah r (P {x:=.lp d 0,QS:=some (d,L),kd:=some d})
   |_,_=>False
 | .kI=>match dC E o.op (cS S.tm) S.hp with|some d=>d.run fun x=>P {x}|none=>False
 | .dm=>bJ E R o.op o.type (cS S.tm) S.hp fun x H'=>P {x,hp:=some H'}
 | .tU=>False
def mf (E:kv) (R:mn) (ann:bP) (aF:List Oper) (o:Oper) (S:St) (P:je→Prop):Prop:=
 match o.guard with
 |none=>pe E R ann o S P
 |some (j,want)=>
  match ga aF S.tm j with
  |some (.v (.bool b))=>br (b == want) (pe E R ann o S P) (P {x:=.undef})
  |some .undef=>P {x:=.undef}
  |_=>False
theorem nu (dst:Option Tmp) (x:T) (S:St):({x:je}).apply ann dst S=gV dst x S:=by
 cases dst with
 |none=>exact St.ext' (fun t=>by simp [je.apply,gV]) (fun t=>by simp [je.apply,gV]) (by simp [je.apply,gV])
 |some d=>
  refine St.ext' (fun t=> ?_) (fun t=>by simp [je.apply,gV,St.setT]) (by simp [je.apply,gV,St.setT]);by_cases h:d=t<;>simp [je.apply,gV,St.setT,aW,h,eq_comm]
theorem K6 (dst:Option Tmp) (x:T) (s:Nat) (L:aO) (S:St):({x,QS:=some (s,L):je}).apply ann dst S=gV dst x (S.setL s L):=by
 cases dst with
 |none=>exact St.ext' (fun t=>by simp [je.apply,gV,St.setL]) (fun t=>by by_cases h:t=s<;>simp [je.apply,gV,St.setL,aW,h]) (by simp [je.apply,gV,St.setL])
 |some d=>
  refine St.ext' (fun t=> ?_) (fun t=>by by_cases h:t=s<;>simp [je.apply,gV,St.setL,St.setT,aW,h]) (by simp [je.apply,gV,St.setT,St.setL]);by_cases h:d=t<;>simp [je.apply,gV,St.setT,St.setL,aW,h,eq_comm]
theorem K7 (d:Nat) (x:T) (L:aO) (S:St):({x,QS:=some (d,L),kd:=some d:je}).apply ann (some d) S=gV (some d) x ((sx ann d S).setL d L):=by
 refine St.ext' (fun t=> ?_) (fun t=>by by_cases h:t=d<;>simp [je.apply,gV,St.setL,St.setT,sx,aW,h]) (by simp [je.apply,gV,St.setT,St.setL,sx]);by_cases h:d=t
 ·simp [je.apply,gV,St.setT,aW,h]
 ·have h':¬t=d:=fun e=>h e.symm
  simp only[je.apply,gV,St.setT,St.setL,sx,aW,h,h',Option.some.injEq,decide_false,cond_false,if_false,Option.isSome_some,true_and]
  cases hl:ab ann.aV t with
  |none=>simp
  |some s=>by_cases hs:s=d<;>simp [hs]
theorem Nj (dst:Option Tmp) (x:T) (H:ag) (S:St):({x,hp:=some H:je}).apply ann dst S=gV dst x {S with hp:=H}:=by
 cases dst with
 |none=>exact St.ext' (fun t=>by simp [je.apply,gV]) (fun t=>by simp [je.apply,gV]) (by simp [je.apply,gV])
 |some d=>
  refine St.ext' (fun t=> ?_) (fun t=>by simp [je.apply,gV,St.setT]) (by simp [je.apply,gV,St.setT]);by_cases h:d=t<;>simp [je.apply,gV,St.setT,aW,h,eq_comm]
theorem BA {o:Oper} {S:St} {K:St→Prop} (hno:(cY E ann aF o).no=false):jm E R ann N o S K↔pe E R ann o S fun u=>K5 ann N o.dst u.x∧K (u.apply ann o.dst S):=by
 unfold cY at hno;unfold jm pe
 cases wI:Hw E ann o with
 |tU=>rw[wI] at hno;cases hno
 |pure=>simp only[];cases aZ E o.op (cS S.tm) with
  |none=>exact Iff.rfl
  |some d=>simp only[ee,nu]
 |oW s=>simp only[];cases gR E o.op (cS S.tm) s (S.lo s) with
  |none=>exact Iff.rfl
  |some d=>simp only[ee,nu]
 |iP s=>simp only[];cases dZ E o.op (cS S.tm) s (S.lo s) with
  |none=>exact Iff.rfl
  |some d=>simp only[ee,K6]
 |tT=>cases hd:o.dst with
  |none=>exact Iff.rfl
  |some d=>simp only[];cases iO E o.op (cS S.tm) with
   |none=>exact Iff.rfl
   |some p=>simp only[ee,K7]
 |kI=>simp only[];cases dC E o.op (cS S.tm) S.hp with
  |none=>exact Iff.rfl
  |some d=>simp only[ee,nu]
 |dm=>simp only[ee,Nj]
theorem nv {o:Oper} {S:St} {K:St→Prop} (hno:(cY E ann aF o).no=false):eQ E R ann N aF o S K↔mf E R ann aF o S fun u=>K5 ann N o.dst u.x∧K (u.apply ann o.dst S):=by
 unfold eQ mf
 cases o.guard with
 |none=>exact BA hno
 |some p=>
  obtain⟨j,want⟩:=p;simp only[]
  cases ga aF S.tm j with
  |none=>exact Iff.rfl
  |some t=>cases t with
   |undef=>simp only[ee,nu]
   |lp s off=>exact Iff.rfl
   |v x=>cases x with
    |bool b=>
     simp only[br]
     cases b == want with
     |true=>exact BA hno
     |false=>simp only[ee,nu]
    |_=>exact Iff.rfl
theorem BB (hR:R.le R) {o:Oper} {S:St} {P P':je→Prop} (h:∀u,P u→P' u) (ho:pe E R ann o S P):pe E R ann o S P':=by
 unfold pe at ho⊢;split at ho
 ·split at ho
  ·exact fR.cD (fun x=>h _) ho
  ·exact ho
 ·split at ho
  ·exact fR.cD (fun x=>h _) ho
  ·exact ho
 ·split at ho
  ·exact fR.cD (fun x=>h _) ho
  ·exact ho
 ·split at ho
  ·exact bT (h _) ho
  ·exact ho
 ·split at ho
  ·exact fR.cD (fun x=>h _) ho
  ·exact ho
 ·exact jM hR (fun x H'=>h _) ho
 ·exact ho
theorem qN (hR:R.le R) {o:Oper} {S:St} {P P':je→Prop} (h:∀u,P u→P' u) (ho:mf E R ann aF o S P):mf E R ann aF o S P':=by
 unfold mf at ho⊢;split at ho
 ·exact BB hR h ho
 ·split at ho
  ·exact eY (BB hR h) (h _) ho
  ·exact h _ ho
  ·exact ho
theorem Fb (hR:iu R) {o:Oper} {S:St} {P:je→Prop} (ho:mf E R ann aF o S P):∃u,P u:=by
 have key:pe E R ann o S P→∃u,P u:=by
  intro ho;unfold pe at ho;split at ho
  ·split at ho
   ·exact⟨_,(fR.eZ ho).2⟩
   ·exact ho.elim
  ·split at ho
   ·exact⟨_,(fR.eZ ho).2⟩
   ·exact ho.elim
  ·split at ho
   ·exact⟨_,(fR.eZ ho).2⟩
   ·exact ho.elim
  ·split at ho
   ·exact⟨_,(aQ ho).2⟩
   ·exact ho.elim
  ·split at ho
   ·exact⟨_,(fR.eZ ho).2⟩
   ·exact ho.elim
  ·obtain⟨x,H',h⟩:=oY hR ho;exact⟨_,h⟩
  ·exact ho.elim
 unfold mf at ho;split at ho
 ·exact key ho
 ·split at ho
  ·rcases gz ho with⟨_,h⟩|⟨_,h⟩
   ·exact key h
   ·exact⟨_,h⟩
  ·exact⟨_,ho⟩
  ·exact ho.elim
theorem fR.xO {α:Type} {d:fR α} {K:α→Prop} (h:d.run K):∃x,∀K':α→Prop,d.run K'↔K' x:=by
 obtain⟨h1,h2⟩:=aQ h;rcases gz h2 with⟨hc,h⟩|⟨hc,h⟩
 ·exact⟨d.x,fun K'=>by simp [fR.run,ah,br,h1,hc]⟩
 ·exact⟨d.y,fun K'=>by simp [fR.run,ah,br,h1,hc]⟩
theorem Fc {o:Oper} {S:St} {P:je→Prop} (hw:(cY E ann aF o).wh=false) (ho:mf E R ann aF o S P):∃u,∀P':je→Prop,mf E R ann aF o S P'↔P' u:=by
 have key:pe E R ann o S P→∃u,∀P':je→Prop,pe E R ann o S P'↔P' u:=by
  intro ho;unfold pe at ho⊢;unfold cY at hw
  cases hc:Hw E ann o with
  |pure=>
   simp only[hc] at ho⊢
   cases hp:aZ E o.op (cS S.tm) with
   |none=>simp only[hp] at ho
   |some d=>simp only[hp] at ho⊢;obtain⟨x,h⟩:=fR.xO ho;exact⟨_,fun P'=>h fun x=>P' {x}⟩
  |oW s=>
   simp only[hc] at ho⊢
   cases hp:gR E o.op (cS S.tm) s (S.lo s) with
   |none=>simp only[hp] at ho
   |some d=>simp only[hp] at ho⊢;obtain⟨x,h⟩:=fR.xO ho;exact⟨_,fun P'=>h fun x=>P' {x}⟩
  |iP s=>
   simp only[hc] at ho⊢
   cases hp:dZ E o.op (cS S.tm) s (S.lo s) with
   |none=>simp only[hp] at ho
   |some d=>simp only[hp] at ho⊢;obtain⟨x,h⟩:=fR.xO ho;exact⟨_,fun P'=>h fun x=>P' {x:=x.2,QS:=some (s,x.1)}⟩
  |tT=>
   simp only[hc] at ho⊢
   cases hd:o.dst with
   |none=>simp only[hd] at ho
   |some d=>
    cases hp:iO E o.op (cS S.tm) with
    |none=>simp only[hd,hp] at ho
    |some p=>
     simp only[hd,hp] at ho⊢;exact⟨{x:=.lp d 0,QS:=some (d,p.2),kd:=some d},fun P'=>by simp only[ah,(aQ ho).1]⟩
  |kI=>
   simp only[hc] at ho⊢
   cases hp:dC E o.op (cS S.tm) S.hp with
   |none=>simp only[hp] at ho
   |some d=>simp only[hp] at ho⊢;obtain⟨x,h⟩:=fR.xO ho;exact⟨_,fun P'=>h fun x=>P' {x}⟩
  |dm=>rw[hc] at hw;cases hw
  |tU=>rw[hc] at hw;cases hw
 unfold mf at ho⊢
 cases hg:o.guard with
 |none=>simp only[hg] at ho⊢;exact key ho
 |some p=>
  obtain⟨j,want⟩:=p;simp only[hg] at ho⊢
  cases hy:ga aF S.tm j with
  |none=>simp only[hy] at ho
  |some t=>cases t with
   |undef=>simp only[];exact⟨{x:=.undef},fun P'=>Iff.rfl⟩
   |lp s off=>simp only[hy] at ho
   |v x=>cases x with
    |bool b=>
     simp only[hy] at ho⊢;rcases gz ho with⟨hb,h⟩|⟨hb,h⟩
     ·obtain⟨u,h⟩:=key h;exact⟨u,fun P'=>by simp only[br,hb];exact h _⟩
     ·exact⟨{x:=.undef},fun P'=>by simp only[br,hb]⟩
    |_=>simp only[hy] at ho
def je.kD (ann:bP) (f:jS) (dst:Option Tmp) (u:je):Prop:=
 (∀t,dst=some t→t∈f.wt)∧(∀s L,u.QS=some (s,L)→s∈f.wl)∧(u.hp.isSome=true→f.wh=true)∧
  (∀d,u.kd=some d→∀t,ab ann.aV t=some d→t∈f.wt)
theorem Fe {t d:Nat}:∀{l:List (Nat×Nat)},ab l t=some d→t∈kN d l
 |[],h=>by cases h
 |(k,x)::l,h=>by
  simp only[ab,aW] at h;simp only[kN,aW];by_cases hk:t=k
  ·simp only[hk,decide_true,cond_true,Option.some.injEq] at h;simp [h,hk]
  ·simp only[hk,decide_false,cond_false] at h;have:=Fe h;by_cases hx:x=d<;>simp [hx,this]
theorem Nk {o:Oper} {t:Nat} (ht:o.dst=some t):t∈(cY E ann aF o).wt:=by
 unfold cY;cases Hw E ann o<;>simp [mR,ht]
theorem wO (hR:R.le R) {o:Oper} {S:St} {P:je→Prop} (ho:mf E R ann aF o S P):mf E R ann aF o S fun u=>P u∧u.kD ann (cY E ann aF o) o.dst:=by
 have hd:∀t,o.dst=some t→t∈(cY E ann aF o).wt:=fun t ht=>Nk ht
 have plain:∀x:T,({x:je}).kD ann (cY E ann aF o) o.dst:=
  fun x=>⟨hd,fun _ _ h=>by simp at h,fun h=>by simp at h,fun _ h=>by simp at h⟩
 have key:pe E R ann o S P→pe E R ann o S fun u=>P u∧u.kD ann (cY E ann aF o) o.dst:=by
  intro ho;unfold pe at ho⊢
  cases hc:Hw E ann o with
  |pure=>
   simp only[hc] at ho⊢
   cases hp:aZ E o.op (cS S.tm) with
   |none=>simp only[hp] at ho
   |some d=>simp only[hp] at ho⊢;exact fR.cD (fun x h=>⟨h,plain _⟩) ho
  |oW s=>
   simp only[hc] at ho⊢
   cases hp:gR E o.op (cS S.tm) s (S.lo s) with
   |none=>simp only[hp] at ho
   |some d=>simp only[hp] at ho⊢;exact fR.cD (fun x h=>⟨h,plain _⟩) ho
  |iP s=>
   simp only[hc] at ho⊢
   cases hp:dZ E o.op (cS S.tm) s (S.lo s) with
   |none=>simp only[hp] at ho
   |some d=>
    simp only[hp] at ho⊢;refine fR.cD (fun x h=>⟨h,hd,fun s' L h=> ?_,fun h=>by simp at h,fun _ h=>by simp at h⟩) ho;simp only[Option.some.injEq,Prod.mk.injEq] at h;simp [cY,mR,hc,h.1]
  |tT=>
   simp only[hc] at ho⊢
   cases xH:o.dst with
   |none=>simp only[xH] at ho
   |some d=>
    cases hp:iO E o.op (cS S.tm) with
    |none=>simp only[xH,hp] at ho
    |some p=>
     simp only[xH,hp] at ho⊢;refine bT (fun h=>⟨h,fun t ht=>hd t (xH▸ht),fun s' L h=> ?_,fun h=>by simp at h,fun d' h t ht=> ?_⟩) ho
     ·simp only[Option.some.injEq,Prod.mk.injEq] at h;simp [cY,mR,hc,xH,h.1]
     ·simp only[Option.some.injEq] at h;subst h;simp [cY,mR,hc,xH,C3,Fe ht]
  |kI=>
   simp only[hc] at ho⊢
   cases hp:dC E o.op (cS S.tm) S.hp with
   |none=>simp only[hp] at ho
   |some d=>simp only[hp] at ho⊢;exact fR.cD (fun x h=>⟨h,plain _⟩) ho
  |dm=>
   simp only[hc] at ho⊢;exact jM hR (fun x H' h=>⟨h,hd,fun _ _ h=>by simp at h,fun _=>by simp [cY,mR,hc],fun _ h=>by simp at h⟩) ho
  |tU=>simp only[hc] at ho
 unfold mf at ho⊢
 cases hg:o.guard with
 |none=>simp only[hg] at ho⊢;exact key ho
 |some p=>
  obtain⟨j,want⟩:=p;simp only[hg] at ho⊢
  cases hy:ga aF S.tm j with
  |none=>simp only[hy] at ho
  |some t=>cases t with
   |undef=>simp only[hy] at ho⊢;exact⟨ho,plain _⟩
   |lp s off=>simp only[hy] at ho
   |v x=>cases x with
    |bool b=>simp only[hy] at ho⊢;exact eY key (fun h=>⟨h,plain _⟩) ho
    |_=>simp only[hy] at ho
end
section
variable {E:kv} {R:mn} {ann:bP} {N:Nat} {aF:List Oper}
theorem iv {ev ev':Ev}:∀{l:List Operand},(∀x∈l,ev x=ev' x)→ss ev l=ss ev' l
 |[],_=>rfl
 |x::l,h=>by
  simp only[ss,jd,h x (List.mem_cons_self ..),iv (l:=l) fun y hy=>h y (List.mem_cons_of_mem _ hy)]
theorem mT {ev ev':Ev}:∀{l:List (Nat×Operand)},(∀x∈l.map (·.2),ev x=ev' x)→kM ev l=kM ev' l
 |[],_=>rfl
 |(i,x)::l,h=>by
  simp only[kM,jd,h x (by simp),mT (l:=l) fun y hy=>h y (by simp only[List.map_cons,List.mem_cons];exact .inr hy)]
theorem Ff {ev ev':Ev} {x:Operand} (h:ev x=ev' x):rP x ev=rP x ev':=by simp only[rP,jd,h]
theorem oq {ev ev':Ev} {x:Option Operand} {d m:Nat} (h:∀y,x=some y→ev y=ev' y):mO ev x d m=mO ev' x d m:=by
 cases x with
 |none=>rfl
 |some y=>simp only[mO,Ff (h y rfl)]
theorem rW {ev ev':Ev} {len cap:Nat} {lo hi mx:Option Operand} (h1:∀x,lo=some x→ev x=ev' x) (h2:∀x,hi=some x→ev x=ev' x) (h3:∀x,mx=some x→ev x=ev' x):gw ev len cap lo hi mx=gw ev' len cap lo hi mx:=by
 simp only[gw,oq h1,oq h2,oq h3]
theorem Db {o:Op} {ev ev':Ev} (h:∀x∈o.operands.toList,ev x=ev' x):aZ E o ev=aZ E o ev':=by
 cases o with
 |move x=>simp only[aZ,h x (by simp [Op.operands])]
 |assign x=>simp only[aZ,h x (by simp [Op.operands])]
 |pick c a b=>simp only[aZ,h c (by simp [Op.operands]),h a (by simp [Op.operands]),h b (by simp [Op.operands])]
 |binOp op t x y _=>simp only[aZ,jd,h x (by simp [Op.operands]),h y (by simp [Op.operands])]
 |unOp op t x=>simp only[aZ,jd,h x (by simp [Op.operands])]
 |convert s d x=>simp only[aZ,jd,h x (by simp [Op.operands])]
 |nilCheck x=>simp only[aZ,h x (by simp [Op.operands])]
 |fieldAddr t x f=>simp only[aZ,h x (by simp [Op.operands])]
 |field t x f=>simp only[aZ,jd,h x (by simp [Op.operands])]
 |indexAddr t x i=>simp only[aZ,rP,jd,h x (by simp [Op.operands]),h i (by simp [Op.operands])]
 |index t x i=>simp only[aZ,rP,jd,h x (by simp [Op.operands]),h i (by simp [Op.operands])]
 |slice t x lo hi mx=>
  have hb:∀len cap,gw ev len cap lo hi mx=gw ev' len cap lo hi mx:=fun len cap=>
   rW (fun y hy=>h y (by subst hy;simp [Op.operands])) (fun y hy=>h y (by subst hy;simp [Op.operands])) (fun y hy=>h y (by subst hy;simp [Op.operands]))
  have hb':∀len cap,gw ev len cap lo hi none=gw ev' len cap lo hi none:=fun len cap=>
   rW (fun y hy=>h y (by subst hy;simp [Op.operands])) (fun y hy=>h y (by subst hy;simp [Op.operands])) (fun y hy=>by cases hy)
  simp only[aZ,hb,hb',h x (by simp [Op.operands])]
 |makeInterface t x=>simp only[aZ,jd,h x (by simp [Op.operands])]
 |makeFunc f first dF=>
  cases f with
  |func f=>
   have h1:=iv (ev:=ev) (ev':=ev') (l:=dF.toList) fun x hx=>h x (by simp only[Op.operands,Array.toList_append,List.mem_append];exact .inr hx)
   have h2:=iv (ev:=ev) (ev':=ev') (l:=first.toList) fun x hx=>h x (by simp only[Op.operands,Array.toList_append,List.mem_append];exact .inl hx)
   simp only[aZ]
   cases hf:first.toList with
   |nil=>simp only[h1]
   |cons x l=>
    rw[hf] at h2
    cases dF.toList with
    |nil=>simp only[h2]
    |cons y m=>rfl
  |_=>rfl
 |extract x i=>simp only[aZ,jd,h x (by simp [Op.operands])]
 |build t parts=>
  have h1:=mT (ev:=ev) (ev':=ev') (l:=parts.toList) fun x hx=>h x (by simpa only[Op.operands] using hx)
  simp only[aZ,h1]
 |typeAssert x xt d ok=>simp only[aZ,jd,h x (by simp [Op.operands])]
 |call c=>
  have h1:=iv (ev:=ev) (ev':=ev') (l:=c.args.toList) fun x hx=>h x (by
   simp only[Op.operands,Call.operands,Array.toList_append,List.mem_append];exact .inr hx)
  simp only[aZ,h1]
 |_=>rfl
theorem AV {o:Op} {ev ev':Ev} {s:Nat} {L:Option aO} (h:∀x∈o.operands.toList,ev x=ev' x):gR E o ev s L=gR E o ev' s L:=by
 cases o with
 |load t a=>simp only[gR,h a (by simp [Op.operands])]
 |_=>rfl
theorem yr {o:Op} {ev ev':Ev} {s:Nat} {L:Option aO} (h:∀x∈o.operands.toList,ev x=ev' x):dZ E o ev s L=dZ E o ev' s L:=by
 cases o with
 |store t a x=>simp only[dZ,jd,h a (by simp [Op.operands]),h x (by simp [Op.operands])]
 |next it b=>cases b with
  |true=>simp only[dZ,h it (by simp [Op.operands])]
  |false=>rfl
 |_=>rfl
theorem Dc {o:Op} {ev ev':Ev} (h:∀x∈o.operands.toList,ev x=ev' x):iO E o ev=iO E o ev':=by
 cases o with
 |box t x=>simp only[iO,jd,h x (by simp [Op.operands])]
 |range t x=>simp only[iO,jd,h x (by simp [Op.operands])]
 |_=>rfl
theorem AW {o:Op} {ev ev':Ev} {H:ag} (h:∀x∈o.operands.toList,ev x=ev' x):dC E o ev H=dC E o ev' H:=by
 cases o with
 |load t a=>simp only[dC,h a (by simp [Op.operands])]
 |convert s d x=>simp only[dC,jd,h x (by simp [Op.operands])]
 |lookup t x i ok=>simp only[dC,jd,h x (by simp [Op.operands]),h i (by simp [Op.operands])]
 |entry it=>simp only[dC,h it (by simp [Op.operands])]
 |call c=>
  have h1:=iv (ev:=ev) (ev':=ev') (l:=c.args.toList) fun x hx=>h x (by
   simp only[Op.operands,Call.operands,Array.toList_append,List.mem_append];exact .inr hx)
  simp only[dC,h1]
 |_=>rfl
theorem ij {o:Op} {ev ev':Ev} {H:ag} (h:∀x∈o.operands.toList,ev x=ev' x):bX E o ev H=bX E o ev' H:=by
 cases o with
 |buildSlice t len parts=>
  simp only[bX];rw[mT (ev:=ev) (ev':=ev') fun x hx=>h x (by simp only[Op.operands];simpa using hx)]
 |makeSlice t len cap=>simp only[bX,jd,h len (by simp [Op.operands]),h cap (by simp [Op.operands])]
 |convert s d x=>simp only[bX,jd,h x (by simp [Op.operands])]
 |call c=>
  have h1:=iv (ev:=ev) (ev':=ev') (l:=c.args.toList) fun x hx=>h x (by
   simp only[Op.operands,Call.operands,Array.toList_append,List.mem_append];exact .inr hx)
  simp only[bX,h1]
 |range t x=>simp only[bX,jd,h x (by simp [Op.operands])]
 |makeMap t r=>cases r<;>rfl
 |_=>rfl
theorem yu {o:Op} {rt:TypeId} {ev ev':Ev} {H:ag} {K:T→ag→Prop} (h:∀x∈o.operands.toList,ev x=ev' x):bJ E R o rt ev H K=bJ E R o rt ev' H K:=by
 cases o with
 |box t x=>simp only[bJ,jd,h x (by simp [Op.operands])]
 |store t a x=>simp only[bJ,jd,h a (by simp [Op.operands]),h x (by simp [Op.operands])]
 |convert s d x=>simp only[bJ,bX,jd,h x (by simp [Op.operands])]
 |makeSlice t len cap=>simp only[bJ];rw[ij h]
 |call c=>
  have h0:=ij (E:=E) (H:=H) h
  have h1:=iv (ev:=ev) (ev':=ev') (l:=c.args.toList) fun x hx=>h x (by
   simp only[Op.operands,Call.operands,Array.toList_append,List.mem_append];exact .inr hx)
  cases hc:c.callee with
  |value f=>
   have h2:ev f=ev' f:=h f (by simp [Op.operands,Call.operands,hc]);have h3:jd ev f=jd ev' f:=by simp only[jd,h2]
   simp only[bJ,hc];rw[h1]
   cases ss ev' c.args.toList with
   |none=>simp only[h0]
   |some args=>simp only[h3]
  |invoke r m=>simp only[bJ,hc,h0]
  |builtin b=>
   simp only[bJ,hc,h0,h1];cases b<;>cases ss ev' c.args.toList<;>rfl
 |buildSlice t len parts=>simp only[bJ];rw[ij h]
 |mapUpdate t m x v=>simp only[bJ,jd,h m (by simp [Op.operands]),h x (by simp [Op.operands]),h v (by simp [Op.operands])]
 |range t x=>simp only[bJ];rw[ij h]
 |makeMap t r=>cases r<;>rfl
 |next it b=>cases b with
  |true=>rfl
  |false=>simp only[bJ,h it (by simp [Op.operands])]
 |_=>rfl
theorem wP {t:Nat}:∀{l:List Operand},Operand.tmp t∈l→t∈og l
 |[],h=>by cases h
 |x::l,h=>by
  rcases List.mem_cons.1 h with rfl|h
  ·simp [og]
  ·have:=wP h;cases x<;>simp [og,this]
theorem Fg {o:Oper}:(cY E ann aF o).rt=Xf aF o:=by
 unfold cY;cases Hw E ann o<;>rfl
theorem QT {o:Oper} {t:Nat} (h:t∈og o.op.operands.toList):t∈(cY E ann aF o).rt:=by
 rw[Fg];exact List.mem_append.2 (.inl h)
theorem HB {o:Oper} {j:Nat} {want:Bool} {q:Oper} {d:Nat} (hg:o.guard=some (j,want)) (hq:aF[j]? =some q) (hd:q.dst=some d):d∈(cY E ann aF o).rt:=by
 rw[Fg];exact List.mem_append.2 (.inr (by simp [yk,hg,hq,hd]))
theorem yw {o:Oper} {S S':St} {P:je→Prop} (ht:∀t∈(cY E ann aF o).rt,S.tm t=S'.tm t) (hl:∀s∈(cY E ann aF o).rl,S.lo s=S'.lo s) (hh:(cY E ann aF o).rh=true→S.hp=S'.hp):mf E R ann aF o S P=mf E R ann aF o S' P:=by
 have cX:∀x∈o.op.operands.toList,cS S.tm x=cS S'.tm x:=by
  intro x hx
  cases x with
  |tmp t=>exact ht t (QT (wP hx))
  |_=>rfl
 have key:pe E R ann o S P=pe E R ann o S' P:=by
  unfold pe
  cases hc:Hw E ann o with
  |pure=>simp only[Db cX]
  |oW s=>simp only[AV cX,hl s (by simp [cY,mR,hc])]
  |iP s=>simp only[yr cX,hl s (by simp [cY,mR,hc])]
  |tT=>simp only[Dc cX]
  |kI=>simp only[AW cX,hh (by simp [cY,mR,hc])]
  |dm=>simp only[yu cX,hh (by simp [cY,mR,hc])]
  |tU=>rfl
 unfold mf
 cases hg:o.guard with
 |none=>exact key
 |some p=>
  obtain⟨j,want⟩:=p
  have hy:ga aF S.tm j=ga aF S'.tm j:=by
   unfold ga
   cases hq:aF[j]? with
   |none=>rfl
   |some q=>cases hd:q.dst with
    |none=>simp only[hd]
    |some d=>simp only[hd];exact ht d (HB hg hq hd)
  simp only[hy,key]
theorem yx {a b:jS} (h:gx a b=true):(∀x∈a.wt,x∉b.rt)∧(∀x∈a.wt,x∉b.wt)∧(∀x∈b.wt,x∉a.rt)∧(∀x∈a.wl,x∉b.rl)∧(∀x∈a.wl,x∉b.wl)∧(∀x∈b.wl,x∉a.rl)∧(a.wh=true→b.rh=false)∧(b.wh=true→a.rh=false):=by
 simp only[gx,Bool.and_eq_true,Bool.not_eq_true'] at h;obtain⟨⟨⟨⟨⟨⟨⟨⟨h1,h2⟩,h3⟩,h4⟩,h5⟩,h6⟩,h7⟩,h8⟩,_⟩:=h;refine⟨fP h1,fP h2,fP h3,fP h4,fP h5,fP h6,fun h=> ?_,fun h=> ?_⟩
 ·rw[h] at h7;simpa using h7
 ·rw[h] at h8;simpa using h8
theorem Nl {a b:jS} (h:gx a b=true):a.no=false∧b.no=false:=by
 simp only[gx,Bool.and_eq_true,Bool.not_eq_true'] at h;exact h.2
theorem SV {o:Oper} (h:(cY E ann aF o).wh=true):(cY E ann aF o).rh=true:=by
 unfold cY at h⊢;cases hc:Hw E ann o<;>rw[hc] at h<;>first|rfl|cases h
theorem ny {o:Oper} {u:je} {S:St} {t:Nat} (hu:u.kD ann (cY E ann aF o) o.dst) (ht:t∉(cY E ann aF o).wt):(u.apply ann o.dst S).tm t=S.tm t:=by
 have h1:¬o.dst=some t:=fun e=>ht (hu.1 t e)
 have h2:¬(u.kd.isSome=true∧ab ann.aV t=u.kd):=by
  rintro⟨h,e⟩
  cases hk:u.kd with
  |none=>rw[hk] at h;cases h
  |some d=>exact ht (hu.2.2.2 d hk t (e.trans hk))
 simp only[je.apply,if_neg h1,if_neg h2]
theorem jU {o:Oper} {u:je} {S:St} {s:Nat} (hu:u.kD ann (cY E ann aF o) o.dst) (hs:s∉(cY E ann aF o).wl):(u.apply ann o.dst S).lo s=S.lo s:=by
 simp only[je.apply]
 cases hl:u.QS with
 |none=>rfl
 |some p=>
  have:s≠p.1:=fun e=>hs (e▸hu.2.1 p.1 p.2 hl)
  simp [this]
theorem kZ {o:Oper} {u:je} {S:St} (hu:u.kD ann (cY E ann aF o) o.dst) (hs:(cY E ann aF o).wh=false):(u.apply ann o.dst S).hp=S.hp:=by
 simp only[je.apply]
 cases hh:u.hp with
 |none=>rfl
 |some H=>have:=hu.2.2.1 (by simp [hh]);rw[hs] at this;cases this
theorem HC {p q:Oper} {u v:je} {S:St} (ha:gx (cY E ann aF p) (cY E ann aF q)=true) (hu:u.kD ann (cY E ann aF p) p.dst) (hv:v.kD ann (cY E ann aF q) q.dst):v.apply ann q.dst (u.apply ann p.dst S)=u.apply ann p.dst (v.apply ann q.dst S):=by
 obtain⟨_,h2,_,_,h5,_,h7,_⟩:=yx ha;refine St.ext' (fun t=> ?_) (fun s=> ?_) ?_
 ·by_cases ht:t∈(cY E ann aF p).wt
  ·rw[ny hv (h2 t ht)];simp only[je.apply];split
   ·rfl
   ·split
    ·rfl
    ·exact(ny hv (h2 t ht)).symm
  ·rw[ny hu ht];simp only[je.apply];split
   ·rfl
   ·split
    ·rfl
    ·exact ny hu ht
 ·by_cases hs:s∈(cY E ann aF p).wl
  ·rw[jU hv (h5 s hs)];simp only[je.apply];split
   ·split
    ·rfl
    ·exact(jU hv (h5 s hs)).symm
   ·exact(jU hv (h5 s hs)).symm
  ·rw[jU hu hs];simp only[je.apply];split
   ·split
    ·rfl
    ·exact jU hu hs
   ·exact jU hu hs
 ·cases hw:(cY E ann aF p).wh
  ·rw[kZ hu hw];simp only[je.apply];have:=kZ (S:=S) hu hw;simp only[je.apply] at this;rw[this]
  ·have hq:(cY E ann aF q).wh=false:=by
    cases hq:(cY E ann aF q).wh
    ·rfl
    ·have:=h7 hw;rw[SV hq] at this;cases this
   rw[kZ hv hq];simp only[je.apply];have:=kZ (S:=S) hv hq;simp only[je.apply] at this;rw[this]
theorem yy (hm:R.le R) (hs:iu R) {p q:Oper} {S:St} {K:St→Prop} (ha:gx (cY E ann aF p) (cY E ann aF q)=true) (h:eQ E R ann N aF p S fun S'=>eQ E R ann N aF q S' K):eQ E R ann N aF q S fun S'=>eQ E R ann N aF p S' K:=by
 obtain⟨h1,h2,h3,h4,h5,h6,h7,h8⟩:=yx ha;obtain⟨n1,n2⟩:=Nl ha;rw[nv n1] at h;rw[nv n2]
 have eq1:∀u:je,u.kD ann (cY E ann aF p) p.dst→∀P,mf E R ann aF q (u.apply ann p.dst S) P=mf E R ann aF q S P:=fun u hu P=>
  yw (fun t ht=>ny hu fun hw=>h1 t hw ht) (fun s hs=>jU hu fun hw=>h4 s hw hs) (fun hr=>by
   cases hw:(cY E ann aF p).wh
   ·exact kZ hu hw
   ·have:=h7 hw;rw[hr] at this;cases this)
 have eq2:∀u:je,u.kD ann (cY E ann aF q) q.dst→∀P,mf E R ann aF p (u.apply ann q.dst S) P=mf E R ann aF p S P:=fun u hu P=>
  yw (fun t ht=>ny hu fun hw=>h3 t hw ht) (fun s hs=>jU hu fun hw=>h6 s hw hs) (fun hr=>by
   cases hw:(cY E ann aF q).wh
   ·exact kZ hu hw
   ·have:=h8 hw;rw[hr] at this;cases this)
 have h':=wO hm h
 have main:mf E R ann aF p S fun u=>K5 ann N p.dst u.x∧u.kD ann (cY E ann aF p) p.dst∧
  mf E R ann aF q S fun v=>K5 ann N q.dst v.x∧v.kD ann (cY E ann aF q) q.dst∧K (u.apply ann p.dst (v.apply ann q.dst S)):=by
  refine qN hm ?_ h';rintro u ⟨⟨hok,hq⟩,hu⟩;refine⟨hok,hu, ?_⟩;rw[nv n2,eq1 u hu] at hq;refine qN hm ?_ (wO hm hq);rintro v ⟨⟨px,MC⟩,hv⟩;exact⟨px,hv,HC ha hu hv▸MC⟩
 cases hw:(cY E ann aF p).wh
 ·obtain⟨u,MD⟩:=Fc hw main;obtain⟨hok,hu,hq⟩:=(MD _).1 main;refine qN hm ?_ hq;rintro v ⟨px,hv,hk⟩;refine⟨px, ?_⟩;rw[nv n1,eq2 v hv];exact(MD _).2 ⟨hok,hk⟩
 ·have hwq:(cY E ann aF q).wh=false:=by
   cases hq:(cY E ann aF q).wh
   ·rfl
   ·have:=h7 hw;rw[SV hq] at this;cases this
  obtain⟨u,_,_,hq⟩:=Fb hs main;obtain⟨v,MD⟩:=Fc hwq hq;obtain⟨px,hv,_⟩:=(MD _).1 hq;refine(MD _).2 ⟨px, ?_⟩;rw[nv n1,eq2 v hv];refine qN hm ?_ main;rintro u ⟨hok,hu,hq⟩;exact⟨hok,((MD _).1 hq).2.2⟩
end
abbrev dB:=Nat→Option Nat
inductive VR (ρ:dB):V→Value→Prop where
 |bool (b:Bool):VR ρ (.bool b) (.bool b)
 |int (k:IntKind) (n:Int):VR ρ (.int k n) (.int k n)
 |cH (s:ByteArray):VR ρ (.cH s) (.string s)
 |Dd:VR ρ (.aj none) (.pointer none)
 |aj {id off b:Nat} (h:ρ id=some b):VR ρ (.aj (some (id,off))) (.pointer (some ⟨b,off,none⟩))
 |nA (n c:Nat):VR ρ (.slice none n c) (.slice none n c)
 |slice {id off b:Nat} (n c:Nat) (h:ρ id=some b):VR ρ (.slice (some (id,off)) n c) (.slice (some ⟨b,off,none⟩) n c)
 |pJ (p:Nat×Nat) (a:Addr):VR ρ (.slice (some p) 0 0) (.slice (some a) 0 0)
 |yz:VR ρ (.map none) (.map none)
 |map {id b:Nat} (h:ρ id=some b):VR ρ (.map (some id)) (.map (some b))
 |func (f:FuncId) {cs:List V} {cs':Array Value} (hl:cs.length=cs'.size) (h:∀(i:Nat) (x:V) (y:Value),cs[i]? =some x→cs'[i]? =some y→VR ρ x y):
  VR ρ (.func f cs) (.func (.func f) #[] cs')
 |o9 (f:FuncId) {cs:List V} {cs':Array Value} (hl:cs.length=cs'.size) (h:∀(i:Nat) (x:V) (y:Value),cs[i]? =some x→cs'[i]? =some y→VR ρ x y):
  VR ρ (.o9 f cs) (.func (.func f) cs' #[])
 |dM (t:TypeId) {id b:Nat} (h:ρ id=some b):VR ρ (.dM t id) (.pointer (some ⟨b,0,none⟩))
 |nilFunc:VR ρ .nilFunc .nilFunc
 |iface (t:TypeId) {v:V} {v':Value} (h:VR ρ v v'):VR ρ (.iface t v) (.iface t v')
 |nilIface:VR ρ .nilIface .nilIface
 |agg {cs:List V} {cs':Array Value} (h1:∀c∈cs,c.one=true) (hl:cs.length=cs'.size) (h:∀(i:Nat) (x:V) (y:Value),cs[i]? =some x→cs'[i]? =some y→VR ρ x y):VR ρ (.agg cs) (.agg cs')
 |cw (x:Value):VR ρ .cw x
 |tuple {cs:List V} {cs':Array Value} (hl:cs.length=cs'.size) (h:∀(i:Nat) (x:V) (y:Value),cs[i]? =some x→cs'[i]? =some y→VR ρ x y):VR ρ (.tuple cs) (.tuple cs')
def bd (cs:List V):Prop:=∀v∈cs,v.one=true
def eM (ρ:dB) (l:List V) (m:List Value):Prop:=l.length=m.length∧∀(i:Nat) (x:V) (y:Value),l[i]? =some x→m[i]? =some y→VR ρ x y
def dB.le (ρ ρ':dB):Prop:=∀id b,ρ id=some b→ρ' id=some b
theorem dB.le.refl (ρ:dB):ρ.le ρ:=fun _ _ h=>h
theorem dB.le.trans {a b c:dB} (h:a.le b) (k:b.le c):a.le c:=fun id x hx=>k id x (h id x hx)
theorem VR.mono {ρ ρ':dB} (h:ρ.le ρ') {v:V} {x:Value} (hv:VR ρ v x):VR ρ' v x:=by
 induction hv with
 |bool b=>exact .bool b
 |int k n=>exact .int k n
 |cH s=>exact .cH s
 |Dd=>exact .Dd
 |aj hb=>exact .aj (h _ _ hb)
 |nA n c=>exact .nA n c
 |slice n c hb=>exact .slice n c (h _ _ hb)
 |pJ p a=>exact .pJ p a
 |yz=>exact .yz
 |map hb=>exact .map (h _ _ hb)
 |func f hl _ ih=>exact .func f hl ih
 |o9 f hl _ ih=>exact .o9 f hl ih
 |dM t hb=>exact .dM t (h _ _ hb)
 |nilFunc=>exact .nilFunc
 |iface t _ ih=>exact .iface t ih
 |nilIface=>exact .nilIface
 |agg h1 hl _ ih=>exact .agg h1 hl ih
 |cw x=>exact .cw x
 |tuple hl _ ih=>exact .tuple hl ih
theorem eM.mono {ρ ρ':dB} (h:ρ.le ρ') {l:List V} {m:List Value} (hv:eM ρ l m):eM ρ' l m:=
 ⟨hv.1,fun i x y hx hy=>(hv.2 i x y hx hy).mono h⟩
theorem eM.nil (ρ:dB):eM ρ [] []:=⟨rfl,fun i x y h=>by simp at h⟩
theorem eM.cons {ρ:dB} {x:V} {y:Value} {l:List V} {m:List Value} (h:VR ρ x y) (hl:eM ρ l m):eM ρ (x::l) (y::m):=by
 refine⟨by simp [hl.1],fun i=> ?_⟩
 cases i with
 |zero=>intro a b ha hb;simp at ha hb;subst ha;subst hb;exact h
 |succ i=>intro a b ha hb;exact hl.2 i a b (by simpa using ha) (by simpa using hb)
theorem eM.df {ρ:dB} {x:V} {l:List V} {m:List Value} (h:eM ρ (x::l) m):∃y m',m=y::m'∧VR ρ x y∧eM ρ l m':=by
 cases m with
 |nil=>simp [eM] at h
 |cons y m'=>
  refine⟨y,m',rfl,h.2 0 x y rfl rfl,by simpa using h.1,fun i a b ha hb=>h.2 (i+1) a b (by simpa using ha) (by simpa using hb)⟩
theorem eM.gr {ρ:dB} {m:List Value} (h:eM ρ [] m):m=[]:=by
 cases m with
 |nil=>rfl
 |cons y m'=>simp [eM] at h
theorem eM.append {ρ:dB} {l l':List V} {m m':List Value} (h:eM ρ l m) (h':eM ρ l' m'):eM ρ (l++l') (m++m'):=by
 refine⟨by simp [h.1,h'.1],fun i x y hx hy=> ?_⟩;by_cases hi:i<l.length
 ·rw[List.getElem?_append_left hi] at hx;rw[List.getElem?_append_left (h.1▸hi)] at hy;exact h.2 i x y hx hy
 ·rw[List.getElem?_append_right (by omega)] at hx;rw[List.getElem?_append_right (by have:=h.1;omega)] at hy;exact h'.2 _ x y hx (by rwa [←h.1] at hy)
theorem eM.take {ρ:dB} {l:List V} {m:List Value} (h:eM ρ l m) (n:Nat):eM ρ (l.take n) (m.take n):=by
 refine⟨by simp [h.1],fun i x y hx hy=> ?_⟩;rw[List.getElem?_take] at hx hy;split at hx
 ·rename_i hi;rw[if_pos hi] at hy;exact h.2 i x y hx hy
 ·cases hx
theorem eM.drop {ρ:dB} {l:List V} {m:List Value} (h:eM ρ l m) (n:Nat):eM ρ (l.drop n) (m.drop n):=by
 refine⟨by simp [h.1],fun i x y hx hy=> ?_⟩;rw[List.getElem?_drop] at hx hy;exact h.2 _ x y hx hy
theorem qO:∀{l:List V} {n:Nat},n<l.length→l[n]? =some (ae l n)
 |[],_,h=>by simp at h
 |_::_,0,_=>rfl
 |_::l,n+1,h=>by rw[List.getElem?_cons_succ];exact qO (l:=l) (by simpa using h)
theorem eM.nth {ρ:dB} {l:List V} {m:List Value} (h:eM ρ l m) {n:Nat} (hn:n<l.length):∃y,m[n]? =some y∧VR ρ (ae l n) y:=by
 have hm:n<m.length:=h.1▸hn;exact⟨m[n],List.getElem?_eq_getElem hm,h.2 n _ _ (qO hn) (List.getElem?_eq_getElem hm)⟩
theorem VR.ot {ρ:dB} {cs:List V} {x:Value} (h:VR ρ (.agg cs) x):∃cs',x=.agg cs'∧eM ρ cs cs'.toList∧bd cs:=by
 cases h with
 |agg h1 hl h=>exact⟨_,rfl,⟨by simpa using hl,fun i a b ha hb=>h i a b ha (by simpa using hb)⟩,h1⟩
theorem VR.vH {ρ:dB} {cs:List V} {cs':Array Value} (h1:bd cs) (h:eM ρ cs cs'.toList):VR ρ (.agg cs) (.agg cs'):=
 .agg h1 (by simpa using h.1) fun i a b ha hb=>h.2 i a b ha (by simpa using hb)
theorem VR.K8 {ρ:dB} {cs:List V} {x:Value} (h:VR ρ (.tuple cs) x):∃cs',x=.tuple cs'∧eM ρ cs cs'.toList:=by
 cases h with
 |tuple hl h=>exact⟨_,rfl,by simpa using hl,fun i a b ha hb=>h i a b ha (by simpa using hb)⟩
theorem VR.gE {ρ:dB} {cs:List V} {cs':Array Value} (h:eM ρ cs cs'.toList):VR ρ (.tuple cs) (.tuple cs'):=
 .tuple (by simpa using h.1) fun i a b ha hb=>h.2 i a b ha (by simpa using hb)
theorem VR.Nm {ρ:dB} {f:FuncId} {cs:List V} {x:Value} (h:VR ρ (.func f cs) x):∃cs',x=.func (.func f) #[] cs'∧eM ρ cs cs'.toList:=by
 cases h with
 |func f hl h=>exact⟨_,rfl,by simpa using hl,fun i a b ha hb=>h i a b ha (by simpa using hb)⟩
theorem VR.Nn {ρ:dB} {f:FuncId} {cs:List V} {x:Value} (h:VR ρ (.o9 f cs) x):∃cs',x=.func (.func f) cs' #[]∧eM ρ cs cs'.toList:=by
 cases h with
 |o9 f hl h=>exact⟨_,rfl,by simpa using hl,fun i a b ha hb=>h i a b ha (by simpa using hb)⟩
theorem VR.QU {ρ:dB} {f:FuncId} {cs:List V} {cs':Array Value} (h:eM ρ cs cs'.toList):VR ρ (.o9 f cs) (.func (.func f) cs' #[]):=
 .o9 f (by simpa using h.1) fun i a b ha hb=>h.2 i a b ha (by simpa using hb)
theorem VR.Fh {ρ:dB} {t:TypeId} {id:Nat} {x:Value} (h:VR ρ (.dM t id) x):∃b,ρ id=some b∧x=.pointer (some ⟨b,0,none⟩):=by
 cases h with|dM t h=>exact⟨_,h,rfl⟩
theorem VR.Je {ρ:dB} {f:FuncId} {cs:List V} {cs':Array Value} (h:eM ρ cs cs'.toList):VR ρ (.func f cs) (.func (.func f) #[] cs'):=
 .func f (by simpa using h.1) fun i a b ha hb=>h.2 i a b ha (by simpa using hb)
theorem VR.iw {ρ:dB} {k:IntKind} {n:Int} {x:Value} (h:VR ρ (.int k n) x):x=.int k n:=by cases h;rfl
theorem VR.Df {ρ:dB} {b:Bool} {x:Value} (h:VR ρ (.bool b) x):x=.bool b:=by cases h;rfl
theorem VR.vI {ρ:dB} {s:ByteArray} {x:Value} (h:VR ρ (.cH s) x):x=.string s:=by cases h;rfl
theorem VR.vJ {ρ:dB} {id off:Nat} {x:Value} (h:VR ρ (.aj (some (id,off))) x):∃b,ρ id=some b∧x=.pointer (some ⟨b,off,none⟩):=by
 cases h with|aj h=>exact⟨_,h,rfl⟩
theorem VR.ff {ρ:dB} {id off n c:Nat} {x:Value} (h:VR ρ (.slice (some (id,off)) n c) x):(∃b,ρ id=some b∧x=.slice (some ⟨b,off,none⟩) n c)∨(n=0∧c=0∧∃a,x=.slice (some a) 0 0):=by
 cases h with
 |slice _ _ h=>exact .inl ⟨_,h,rfl⟩
 |pJ p a=>exact .inr ⟨rfl,rfl,a,rfl⟩
theorem VR.lC {ρ:dB} {n c:Nat} {x:Value} (h:VR ρ (.slice none n c) x):x=.slice none n c:=by cases h;rfl
theorem VR.one {ρ:dB} {v:V} {x:Value} (h:VR ρ v x) (h1:v.one=true):x.oneCell'=true:=by
 cases h<;>simp_all [V.one,Value.oneCell']
theorem VR.cells {ρ:dB} {v:V} {x:Value} (h:VR ρ v x) (hh:v≠ .cw):eM ρ v.cells x.cells.toList:=by
 by_cases hv:∃cs,v=.agg cs
 ·obtain⟨cs,rfl⟩:=hv;obtain⟨cs',rfl,h',_⟩:=h.ot;exact h'
 ·have h1:v.cells=[v]:=by cases v<;>first|rfl|exact(hv ⟨_,rfl⟩).elim
  have h2:x.cells= #[x]:=by cases h<;>first|rfl|exact(hv ⟨_,rfl⟩).elim|exact(hh rfl).elim
  rw[h1,h2];exact .cons h (.nil ρ)
theorem sF {ρ:dB} {x:Value} {v:V} (h:ofValue x=some v):VR ρ v x:=by
 unfold ofValue at h;split at h<;>first|(cases h)|skip
 ·exact .bool _
 ·exact .int _ _
 ·exact .cH _
 ·exact .Dd
 ·exact .nA _ _
 ·exact .yz
 ·exact .nilFunc
 ·exact .nilIface
theorem ua {ρ:dB}:∀{l:List Value} {m:List V},jR l=some m→eM ρ m l
 |[],m,h=>by simp only[jR,Option.some.injEq] at h;subst h;exact .nil ρ
 |x::l,m,h=>by
  simp only[jR] at h;split at h
  ·rename_i y m' hy hm;simp only[Option.some.injEq] at h;subst h;exact .cons (sF hy) (ua hm)
  ·cases h
theorem wQ {x:Value} {v:V} (h:ofValue x=some v):v.one=true:=by
 unfold ofValue at h;split at h<;>first|(cases h;done)|(simp only[Option.some.injEq] at h;subst h;rfl)|cases h
theorem ov:∀{l:List Value} {m:List V},jR l=some m→∀v∈m,v.one=true
 |[],m,h=>by simp only[jR,Option.some.injEq] at h;subst h;intro v hv;cases hv
 |x::l,m,h=>by
  simp only[jR] at h;split at h
  ·rename_i y m' hy hm;simp only[Option.some.injEq] at h;subst h;intro v hv;rcases List.mem_cons.1 hv with rfl|hv
   ·exact wQ hy
   ·exact ov hm v hv
  ·cases h
theorem iC {ρ:dB} {x:Value} {v:V} (h:lj x=some v):VR ρ v x:=by
 unfold lj at h;split at h
 ·split at h
  ·rename_i cs l hl;simp only[Option.some.injEq] at h;subst h;exact .vH (ov hl) (ua hl)
  ·cases h
 ·exact sF h
theorem kO {x:Value} {v:V} (h:lj x=some v):∀c∈v.cells,c.one=true:=by
 unfold lj at h;split at h
 ·split at h
  ·rename_i cs l hl;simp only[Option.some.injEq] at h;subst h;exact ov hl
  ·cases h
 ·have h1:=wQ h;have:v.cells=[v]:=by cases v<;>first|rfl|(simp [V.one] at h1)
  intro c hc;rw[this] at hc;rcases List.mem_cons.1 hc with rfl|hc
  ·exact h1
  ·cases hc
inductive TR (ρ lam:dB):T→Value→Prop where
 |v {x:V} {y:Value} (h:VR ρ x y):TR ρ lam (.v x) y
 |lp {s off b:Nat} (h:lam s=some b):TR ρ lam (.lp s off) (.pointer (some ⟨b,off,none⟩))
 |undef:TR ρ lam .undef (.tuple #[])
def pK (ρ lam:dB) (ev:Ev) (e:Operand→Value):Prop:=∀x t,ev x=some t→TR ρ lam t (e x)
theorem pK.v {ρ lam:dB} {ev:Ev} {e:Operand→Value} (h:pK ρ lam ev e) {x:Operand} {v:V} (hx:jd ev x=some v):VR ρ v (e x):=by
 unfold jd at hx;split at hx
 ·rename_i y hy;cases hx;have:=h _ _ hy
  cases this with
  |v h=>exact h
 ·cases hx
theorem pK.lp {ρ lam:dB} {ev:Ev} {e:Operand→Value} (h:pK ρ lam ev e) {x:Operand} {s off:Nat} (hx:ev x=some (.lp s off)):∃b,lam s=some b∧e x=.pointer (some ⟨b,off,none⟩):=by
 have:=h _ _ hx;generalize e x=y at this
 cases this with
 |lp h=>exact⟨_,h,rfl⟩
theorem pK.tv {ρ lam:dB} {ev:Ev} {e:Operand→Value} (h:pK ρ lam ev e) {x:Operand} {v:V} (hx:ev x=some (.v v)):VR ρ v (e x):=by
 have:=h _ _ hx;generalize e x=y at this
 cases this with
 |v h=>exact h
theorem pK.vs {ρ lam:dB} {ev:Ev} {e:Operand→Value} (h:pK ρ lam ev e):∀{l:List Operand} {vs:List V},ss ev l=some vs→eM ρ vs (l.map e)
 |[],vs,hx=>by simp only[ss,Option.some.injEq] at hx;subst hx;exact .nil ρ
 |x::l,vs,hx=>by
  simp only[ss] at hx;split at hx
  ·rename_i y m hy hm;simp only[Option.some.injEq] at hx;subst hx;exact .cons (h.v hy) (h.vs hm)
  ·cases hx
def fT (ρ:dB) (e:TypeId) (cs:List V) (rw:Bool) (o:Option Go.Obj):Prop:=
 ∃cs' fz,o=some (.cells cs' e fz)∧eM ρ cs cs'.toList∧(rw=true→bd cs)∧(rw=true→fz.1=fz.2∨cs'.size≤fz.1)
def jo (ρ:dB):List (V×V×Nat)→List MapEntry→Prop
 |[],[]=>True
 |x::l,y::m=>(VR ρ x.1 y.key∧VR ρ x.2.1 y.val∧x.2.2=y.born)∧jo ρ l m
 |_,_=>False
theorem jo.mono {ρ ρ':dB} (h:ρ.le ρ'):∀{l:List (V×V×Nat)} {m:List MapEntry},jo ρ l m→jo ρ' l m
 |[],[],_=>trivial
 |x::l,y::m,hl=>⟨⟨hl.1.1.mono h,hl.1.2.1.mono h,hl.1.2.2⟩,jo.mono h hl.2⟩
 |[],_::_,hl=>hl.elim
 |_::_,[],hl=>hl.elim
def Fi (ρ:dB):Obj→Option Go.Obj→Prop
 | .cells e cs ro,o=>fT ρ e cs (!ro) o
 | .map es clock,o=>∃es':Array MapEntry,o=some (.map es' clock)∧jo ρ es es'.toList
 | .dM m bV seen tK,o=>∃m',o=some (.mapIter m' bV seen.toArray tK)∧VR ρ (.map m) (.map m')
def vK (ρ:dB):aO→Option Go.Obj→Prop
 | .cells e cs,o=>fT ρ e cs true o
 | .dM s jl,o=>o=some (.stringIter s jl)
def Obj.rw :Obj→Bool
 | .cells _ _ ro=> !ro
 | .map .. =>true
 | .dM .. =>true
def iT (H:ag) (ρ:dB) (b:Nat):Prop:=∃id o,H.get id=some o∧ρ id=some b
def ox (H:ag) (ρ:dB) (b:Nat):Prop:=∃id o,H.get id=some o∧o.rw =true∧ρ id=some b
structure HR (ρ:dB) (H:ag) (w:World):Prop where
 wR:∀id o,H.get id=some o→∃b,ρ id=some b∧Fi ρ o w.heap[b]?
 inj:∀id id' o o' b,H.get id=some o→H.get id'=some o'→o.rw =true→ρ id=some b→ρ id'=some b→id=id'
 lt:∀id b,ρ id=some b→id<H.next∧b<w.heap.size
 gl:∀g∈Na,ρ g=some g
structure lD (H0:ag) (ρ0:dB) (w0:World) (H:ag) (ρ:dB) (w:World):Prop where
 le:ρ0.le ρ
 frame:∀b,b<w0.heap.size→¬ox H0 ρ0 b→w.heap[b]? =w0.heap[b]?
 iT:∀b,iT H ρ b→iT H0 ρ0 b∨w0.heap.size≤b
 ox:∀b,ox H ρ b→ox H0 ρ0 b∨w0.heap.size≤b
 size:w0.heap.size≤w.heap.size
 os:w.os=w0.os
 tape:w.tape=w0.tape
 output:w.output=w0.output
theorem lD.refl (H:ag) (ρ:dB) (w:World):lD H ρ w H ρ w:=
 ⟨.refl ρ,fun _ _ _=>rfl,fun _ h=>.inl h,fun _ h=>.inl h,Nat.le_refl _,rfl,rfl,rfl⟩
theorem lD.trans {H0 H1 H2:ag} {ρ0 ρ1 ρ2:dB} {w0 w1 w2:World} (h:lD H0 ρ0 w0 H1 ρ1 w1) (k:lD H1 ρ1 w1 H2 ρ2 w2):lD H0 ρ0 w0 H2 ρ2 w2 where
 le:=h.le.trans k.le
 frame:=fun b hb ho=>by
  have h1:¬Am.ox H1 ρ1 b:=fun h1=>(h.ox b h1).elim ho fun h=>by omega
  rw[k.frame b (by have:=h.size;omega) h1,h.frame b hb ho]
 iT:=fun b hb=>(k.iT b hb).elim (h.iT b) fun h'=>.inr (by have:=h.size;omega)
 ox:=fun b hb=>(k.ox b hb).elim (h.ox b) fun h'=>.inr (by have:=h.size;omega)
 size:=Nat.le_trans h.size k.size
 os:=k.os.trans h.os
 tape:=k.tape.trans h.tape
 output:=k.output.trans h.output
structure SR (H0:ag) (ρ0:dB) (w0:World) (ann:bP) (N:Nat) (ρ lam:dB) (S:St) (a:Act) (w:World):Prop where
 defers:a.defers=[]
 size:a.tmps.size=N
 tm:∀t x,S.tm t=some x→TR ρ lam x (a.tmps.getD t undef)
 K9:∀t s off,S.tm t=some (.lp s off)→ab ann.aV t=some s
 lo:∀s L,S.lo s=some L→∃b,lam s=some b∧vK ρ L w.heap[b]? ∧b<w.heap.size∧w0.heap.size≤b∧¬iT S.hp ρ b
 ub:∀s s' L L' b,S.lo s=some L→S.lo s'=some L'→lam s=some b→lam s'=some b→s=s'
 hr:HR ρ S.hp w
 bV:lD H0 ρ0 w0 S.hp ρ w
theorem SR.ev {H0:ag} {ρ0:dB} {w0:World} {ann:bP} {N:Nat} {ρ lam:dB} {S:St} {a:Act} {w:World} (h:SR H0 ρ0 w0 ann N ρ lam S a w):pK ρ lam (cS S.tm) a.eval:=by
 intro x t hx
 cases x with
 |tmp s=>exact h.tm s t hx
 |const v=>
  simp only[cS] at hx;split at hx
  ·rename_i y hy;cases hx;exact .v (sF hy)
  ·cases hx
 |func f=>simp only[cS,Option.some.injEq] at hx;subst hx;exact .v (.func f rfl fun i x y hx=>by simp at hx)
 |global g=>cases hx
theorem jN {E:kv} {t:Nat} {i:TI} (h:E.ti t=some i):∃dh d,E.P.info? t=some dh∧E.P.underlying t=some d∧bo d=i.sh∧dh.size=i.size∧dh.bytes=i.bytes∧dh.zero.bind lj=i.zero:=by
 have h:=E.ti_ok t i h;unfold QO at h;split at h
 ·rename_i dh d h1 h2;simp only[Option.some.injEq] at h;subst h;exact⟨dh,d,h1,h2,rfl,rfl,rfl,rfl⟩
 ·cases h
theorem jA {P:Program} {t:TypeId} {d:TypeDesc} (h:P.underlying t=some d) (w:World):(isAgg t).run P w=.ok (iM d) w:=by
 simp only[isAgg,Sem.run_bind,run_underlying h,Result.andThen_ok];cases d<;>rfl
theorem HD {d:TypeDesc} {k:cg} (h:cM (bo d)=some k):iM d=false:=by
 cases d<;>simp_all [bo,cM,iM]
def Jf (P:Program) (t:TypeId) (cs:List Value) (x:Value):Prop:=
 ∃d,P.underlying t=some d∧((iM d=true∧x=.agg cs.toArray)∨(iM d=false∧cs=[x]))
theorem Dg {P:Program} {t:TypeId} {d:TypeDesc} {dh:TypeInfo} (hu:P.underlying t=some d) (hi:P.info? t=some dh) (cs:Array Value) (off n:Nat) (hn:off+n≤cs.size) (hs:dh.size=n) (h1:iM d=false→n=1) (w:World):∃x,(part t cs off).run P w=.ok x w∧Jf P t ((cs.toList.drop off).take n) x:=by
 cases ha:iM d
 ·have hn1:=h1 ha;subst hn1;have hlt:off<cs.size:=by omega
  refine⟨cs[off], ?_,d,hu,.inr ⟨ha, ?_⟩⟩
  ·simp [part,jA hu,ha,Array.getElem?_eq_getElem hlt]
  ·have:cs.toList.drop off=cs[off]::cs.toList.drop (off+1):=by
    rw[List.drop_eq_getElem_cons (by simpa using hlt)];rfl
   rw[this];rfl
 ·refine⟨.agg (cs.extract off (off+n)), ?_,d,hu,.inl ⟨ha, ?_⟩⟩
  ·simp [part,jA hu,ha,run_sizeOf w hi,Program.cellsOf,hi,hs]
  ·congr 1;apply Array.ext';simp [List.extract_eq_take_drop]
theorem lE:∀{a c:List V} (b d:List V) {r:Bool},a.length=c.length→eu (a++b) (c++d)=some r→∃x y,eu a c=some x∧eu b d=some y∧r=(x&&y)
 |[],[],b,d,r,_,h=>⟨true,r,rfl,h,by simp⟩
 |x::l,y::m,b,d,r,hl,h=>by
  have ih:∀{r},eu (l++b) (m++d)=some r→_:=fun h=>lE (a:=l) (c:=m) b d (by simpa using hl) h
  cases x<;>cases y<;>simp only[List.cons_append,eu] at h⊢ <;>try (cases h;done)
  ·split at h
   ·rename_i e q hq;obtain⟨u,v,h1,h2,rfl⟩:=ih hq;simp only[Option.some.injEq] at h;exact⟨_,v,by rw[h1],h2,by rw[←h,Bool.and_assoc]⟩
   ·cases h
  ·rename_i k p k' q;by_cases hk:k=k'
   ·simp only[hk,nk,decide_true,cond_true] at h⊢;split at h
    ·rename_i e s hs;obtain⟨u,v,h1,h2,rfl⟩:=ih hs;simp only[Option.some.injEq] at h;exact⟨_,v,by rw[h1],h2,by rw[←h,Bool.and_assoc]⟩
    ·cases h
   ·simp [hk] at h
  ·split at h
   ·rename_i e q hq;obtain⟨u,v,h1,h2,rfl⟩:=ih hq;simp only[Option.some.injEq] at h;exact⟨_,v,by rw[h1],h2,by rw[←h,Bool.and_assoc]⟩
   ·cases h
theorem fg:∀{ks:List cg} {vs:List V},aI ks vs=true→ks.length=vs.length
 |[],[],_=>rfl
 |[],_::_,h=>by simp [aI] at h
 |_::_,[],h=>by simp [aI] at h
 |_::ks,_::vs,h=>by rw[aI,Bool.and_eq_true] at h;simp [fg h.2]
theorem jV:∀{a b:List cg} {vs:List V},aI (a++b) vs=true→aI a (vs.take a.length)=true∧aI b (vs.drop a.length)=true
 |[],b,vs,h=>by simpa [aI] using h
 |k::a,b,[],h=>by simp [aI] at h
 |k::a,b,v::vs,h=>by
  rw[List.cons_append,aI,Bool.and_eq_true] at h;obtain⟨h1,h2⟩:=jV h.2;simp [aI,h.1,h1,h2]
theorem No (n:Nat) (ks:List cg):(AT n ks).length=n*ks.length:=by
 induction n with
 |zero=>simp [AT]
 |succ n ih=>simp [AT,ih,Nat.add_mul];omega
section
variable {P:Program} {ρ:dB}
def QV (P:Program) (ρ:dB) (D:Nat) (t:TypeId) (ks:List cg):Prop:=
 ∀(w:World) (xv yv:List V) (xs ys:List Value) (x y:Value) (b:Bool),aI ks xv=true→aI ks yv=true→eM ρ xv xs→eM ρ yv ys→eu xv yv=some b→
  Jf P t xs x→Jf P t ys y→(Op.equalIn D t x y).run P w=.ok b w
theorem ik {α:Type} (l:List α) (a n:Nat):l.drop a=(l.drop a).take n++l.drop (a+n):=by
 rw[←List.drop_drop,List.take_append_drop]
theorem SW {d:Nat} {t:TypeId} {ks:List cg} (h:ll P d t=some ks):∃D,P.underlying t=some D∧(iM D=false→ks.length=1)∧(iM D=true→P.cellsOf t=ks.length):=by
 cases d with
 |zero=>cases h
 |succ d=>
  unfold ll at h;split at h
  ·rename_i hu;simp only[Option.some.injEq] at h;subst h;exact⟨_,hu,fun _=>rfl,fun h=>by simp [iM] at h⟩
  ·rename_i hu;simp only[Option.some.injEq] at h;subst h;exact⟨_,hu,fun _=>rfl,fun h=>by simp [iM] at h⟩
  ·rename_i hu;simp only[Option.some.injEq] at h;subst h;exact⟨_,hu,fun _=>rfl,fun h=>by simp [iM] at h⟩
  ·rename_i hu;refine⟨_,hu,fun h=>by simp [iM] at h,fun _=> ?_⟩;cases hp:P.stoodInHeld t
   ·simp only[hp,cond_false] at h;split at h
    ·rename_i m _;by_cases hc:P.cellsOf t=m.length
     ·simp only[aW,hc,decide_true,cond_true,Option.some.injEq] at h;rw[←h,hc]
     ·simp [aW,hc] at h
    ·cases h
   ·simp [hp] at h
  ·rename_i k e hu;refine⟨_,hu,fun h=>by simp [iM] at h,fun _=> ?_⟩;split at h
   ·rename_i m _;by_cases G3:P.cellsOf e=m.length
    ·by_cases Hn:P.cellsOf t=k*m.length
     ·simp only[aW,G3,Hn,decide_true,Bool.and_self,cond_true,Option.some.injEq] at h;rw[←h,No,Hn]
     ·simp [aW,Hn] at h
    ·simp [aW,G3] at h
   ·cases h
  ·cases h
theorem jO {d:Nat} {t:TypeId} {ks:List cg} (h:ll P d t=some ks) (cs:Array Value) (off:Nat) (hn:off+ks.length≤cs.size) (w:World):∃x,(part t cs off).run P w=.ok x w∧Jf P t ((cs.toList.drop off).take ks.length) x:=by
 obtain⟨D,hu,h1,h2⟩:=SW h;obtain⟨dh,hi⟩:=info_of_underlying hu;cases ha:iM D
 ·have hn1:=h1 ha;have hlt:off<cs.size:=by omega
  refine⟨cs[off], ?_,D,hu,.inr ⟨ha, ?_⟩⟩
  ·simp [part,jA hu,ha,Array.getElem?_eq_getElem hlt]
  ·have:cs.toList.drop off=cs[off]::cs.toList.drop (off+1):=by
    rw[List.drop_eq_getElem_cons (by simpa using hlt)];rfl
   rw[this,hn1];rfl
 ·exact Dg hu hi cs off _ hn (by have:=h2 ha;simpa [Program.cellsOf,hi] using this) (fun h=>by rw[ha] at h;cases h) w
theorem yA {d D:Nat} (ih:∀t ks,ll P d t=some ks→QV P ρ D t ks) (xs ys:Array Value) (w:World):∀(l:List Field) (o:Nat) (ks:List cg) (xv yv:List V) (b:Bool),lk (ll P d) l o=some ks→o≤xv.length→o≤yv.length→aI ks (xv.drop o)=true→aI ks (yv.drop o)=true→eM ρ xv xs.toList→eM ρ yv ys.toList→eu (xv.drop o) (yv.drop o)=some b→(Op.eqFields D xs ys l).run P w=.ok b w
 |[],o,ks,xv,yv,b,h,hx,hy,fx,fy,_,_,he=>by
  simp only[lk,Option.some.injEq] at h;subst h;have l1:=fg fx;have l2:=fg fy;rw[List.eq_nil_of_length_eq_zero l1.symm,List.eq_nil_of_length_eq_zero l2.symm] at he;simp only[eu,Option.some.injEq] at he;subst he;simp [Op.eqFields]
 |f::l,o,ks,xv,yv,b,h,hx,hy,fx,fy,ME,MF,he=>by
  unfold lk at h;cases hc:(f.name != "_" &&Nat.beq f.offset o)
  ·simp [hc] at h
  ·simp only[hc,cond_true] at h;rw[Bool.and_eq_true] at hc;have hname:f.name≠ "_" :=by simpa using hc.1
   have hoff:f.offset=o:=Nat.eq_of_beq_eq_true hc.2;split at h
   ·rename_i m hm;split at h
    ·rename_i r hr;simp only[Option.some.injEq] at h;subst h;have l1:=fg fx;have l2:=fg fy;simp only[List.length_append,List.length_drop] at l1 l2;obtain⟨fx1,fx2⟩:=jV fx;obtain⟨fy1,fy2⟩:=jV fy;rw[List.drop_drop] at fx2 fy2;have hxs:xs.size=xv.length:=by have:=ME.1;simp at this;omega
     have hys:ys.size=yv.length:=by have:=MF.1;simp at this;omega
     obtain⟨x,hx1,vt⟩:=jO hm xs o (by omega) w;obtain⟨y,hy1,Tt⟩:=jO hm ys o (by omega) w;rw[ik xv o m.length,ik yv o m.length] at he;obtain⟨u,v,h1,h2,rfl⟩:=lE _ _ (by simp;omega) he;have e1:=ih _ _ hm w _ _ _ _ x y u fx1 fy1 ((ME.drop o).take m.length) ((MF.drop o).take m.length) h1 vt Tt;have e2:=yA ih xs ys w l (o+m.length) r xv yv v hr (by omega) (by omega) fx2 fy2 ME MF h2;rw[Op.eqFields];simp only[if_pos hname,Sem.run_bind,hoff,hx1,hy1,e1,Result.andThen_ok];cases u
     ·simp
     ·simpa using e2
    ·cases h
   ·cases h
theorem BC {d D:Nat} {m:List cg} {e:TypeId} (ih:QV P ρ D e m) (hm:ll P d e=some m) (xs ys:Array Value) (w:World):∀(k i:Nat) (xv yv:List V) (b:Bool),i*m.length≤xv.length→i*m.length≤yv.length→aI (AT k m) (xv.drop (i*m.length))=true→aI (AT k m) (yv.drop (i*m.length))=true→eM ρ xv xs.toList→eM ρ yv ys.toList→eu (xv.drop (i*m.length)) (yv.drop (i*m.length))=some b→(Op.eqItems D e m.length xs ys (List.range' i k)).run P w=.ok b w
 |0,i,xv,yv,b,hx,hy,fx,fy,_,_,he=>by
  have l1:=fg fx;have l2:=fg fy;rw[AT,List.length_nil] at l1 l2;rw[List.eq_nil_of_length_eq_zero l1.symm,List.eq_nil_of_length_eq_zero l2.symm] at he;simp only[eu,Option.some.injEq] at he;subst he;simp [Op.eqItems]
 |k+1,i,xv,yv,b,hx,hy,fx,fy,ME,MF,he=>by
  rw[AT] at fx fy;have l1:=fg fx;have l2:=fg fy;simp only[List.length_append,List.length_drop] at l1 l2;obtain⟨fx1,fx2⟩:=jV fx;obtain⟨fy1,fy2⟩:=jV fy;have hs:i*m.length+m.length=(i+1)*m.length:=by rw[Nat.add_mul,Nat.one_mul]
  rw[List.drop_drop,hs] at fx2 fy2;have hxs:xs.size=xv.length:=by have:=ME.1;simp at this;omega
  have hys:ys.size=yv.length:=by have:=MF.1;simp at this;omega
  obtain⟨x,hx1,vt⟩:=jO hm xs (i*m.length) (by omega) w;obtain⟨y,hy1,Tt⟩:=jO hm ys (i*m.length) (by omega) w;rw[ik xv (i*m.length) m.length,ik yv (i*m.length) m.length] at he;obtain⟨u,v,h1,h2,rfl⟩:=lE _ _ (by simp;omega) he;have e1:=ih w _ _ _ _ x y u fx1 fy1 ((ME.drop _).take _) ((MF.drop _).take _) h1 vt Tt;rw[hs] at h2;have e2:=BC ih hm xs ys w k (i+1) xv yv v (by omega) (by omega) fx2 fy2 ME MF h2;rw[List.range'_succ];simp only[Op.eqItems,Sem.run_bind,hx1,hy1,e1,Result.andThen_ok];cases u
  ·simp
  ·simpa using e2
theorem vL {t:TypeId} {d:TypeDesc} {k:cg} {D:Nat} (hu:P.underlying t=some d) (ha:iM d=false) (hk:∀(w:World) (p q:V) (x y:Value) (b:Bool),p.av k=true→q.av k=true→VR ρ p x→VR ρ q y→eu [p] [q]=some b→(Op.equalIn D t x y).run P w=.ok b w):QV P ρ D t [k]:=by
 intro w xv yv xs ys x y b fx fy ME MF he Wd hiy;obtain⟨dx,Tu,hcx⟩:=Wd;obtain⟨dy,Tv,hcy⟩:=hiy;rw[hu] at Tu Tv;cases Tu;cases Tv;rcases hcx with⟨h',_⟩|⟨_,rfl⟩
 ·rw[ha] at h';cases h'
 rcases hcy with⟨h',_⟩|⟨_,rfl⟩
 ·rw[ha] at h';cases h'
 match xv,yv,fx,fy with
 |[p],[q],fx,fy=>
  simp only[aI,Bool.and_true] at fx fy;exact hk w p q x y b fx fy (ME.2 0 p x rfl rfl) (MF.2 0 q y rfl rfl) he
 |[],_,fx,_=>simp [aI] at fx
 |_::_::_,_,fx,_=>simp [aI] at fx
 |[_],[],_,fy=>simp [aI] at fy
 |[_],_::_::_,_,fy=>simp [aI] at fy
theorem QW:∀(d:Nat) (t:TypeId) (ks:List cg),ll P d t=some ks→∀D,d≤D→QV P ρ D t ks:=by
 intro d
 induction d with
 |zero=>intro t ks h;cases h
 |succ d ih=>
  intro t ks h D hD;obtain⟨D,rfl⟩:∃D',D=D'+1:=⟨D-1,by omega⟩;unfold ll at h;split at h
  ·rename_i hu;simp only[Option.some.injEq] at h;subst h;refine vL hu rfl fun w p q x y b kp kq hp hq he=> ?_
   cases hp<;>simp [V.av] at kp
   cases hq<;>simp [V.av] at kq
   simp [eu] at he;simp [Op.equalIn,run_underlying hu,he]
  ·rename_i k hu;simp only[Option.some.injEq] at h;subst h;refine vL hu rfl fun w p q x y b kp kq hp hq he=> ?_
   cases hp<;>simp [V.av] at kp
   cases hq<;>simp [V.av] at kq
   subst kp;subst kq;simp [eu] at he;simp [Op.equalIn,run_underlying hu,he]
  ·rename_i hu;simp only[Option.some.injEq] at h;subst h;refine vL hu rfl fun w p q x y b kp kq hp hq he=> ?_
   cases hp<;>simp [V.av] at kp
   cases hq<;>simp [V.av] at kq
   simp [eu] at he;simp [Op.equalIn,run_underlying hu,he]
  ·rename_i fs hu;intro w xv yv xs ys x y b fx fy ME MF he Wd hiy;cases hp:P.stoodInHeld t
   ·simp only[hp,cond_false] at h;split at h
    ·rename_i m hm
     have hmn:m=ks:=by
      by_cases hc:P.cellsOf t=m.length
      ·simpa [aW,hc] using h
      ·simp [aW,hc] at h
     subst hmn;obtain⟨dx,Tu,hcx⟩:=Wd;obtain⟨dy,Tv,hcy⟩:=hiy;rw[hu] at Tu Tv;cases Tu;cases Tv;rcases hcx with⟨_,rfl⟩|⟨h',_⟩
     ·rcases hcy with⟨_,rfl⟩|⟨h',_⟩
      ·have hf:P.fieldsOf t=fs:=by simp [Program.fieldsOf,hu]
       rw[run_equalIn_struct (P:=P) w D t _ _ (by rw[hf];exact hu) hp,hf];exact yA (fun t n h=>ih t n h D (by omega)) _ _ w fs.toList 0 m xv yv b hm (by omega) (by omega) (by simpa using fx) (by simpa using fy) (by simpa using ME) (by simpa using MF) (by simpa using he)
      ·simp [iM] at h'
     ·simp [iM] at h'
    ·cases h
   ·simp [hp] at h
  ·rename_i k e hu;intro w xv yv xs ys x y b fx fy ME MF he Wd hiy;split at h
   ·rename_i m hm
    have hc:P.cellsOf e=m.length∧ks=AT k m:=by
     by_cases G3:P.cellsOf e=m.length
     ·by_cases Hn:P.cellsOf t=k*m.length
      ·simp only[aW,G3,Hn,decide_true,Bool.and_self,cond_true,Option.some.injEq] at h;exact⟨G3,h.symm⟩
      ·simp [aW,Hn] at h
     ·simp [aW,G3] at h
    obtain⟨G3,rfl⟩:=hc;obtain⟨dx,Tu,hcx⟩:=Wd;obtain⟨dy,Tv,hcy⟩:=hiy;rw[hu] at Tu Tv;cases Tu;cases Tv;rcases hcx with⟨_,rfl⟩|⟨h',_⟩
    ·rcases hcy with⟨_,rfl⟩|⟨h',_⟩
     ·obtain⟨De,Sw,_⟩:=SW hm;obtain⟨dh,hi⟩:=info_of_underlying Sw;rw[run_equalIn_array w D _ _ hu hi,G3,List.range_eq_range'];exact BC (ih e m hm D (by omega)) hm _ _ w k 0 xv yv b (by omega) (by omega) (by simpa using fx) (by simpa using fy) (by simpa using ME) (by simpa using MF) (by simpa using he)
     ·simp [iM] at h'
    ·simp [iM] at h'
   ·cases h
  ·cases h
end
section
variable {E:kv} {ρ lam:dB} {w:World}
theorem vM {t:TypeId} {k:cg} (h:bh E t=some k):∃d dh,E.P.underlying t=some d∧E.P.info? t=some dh∧cM (bo d)=some k∧iM d=false:=by
 unfold bh at h;split at h
 ·rename_i i hi;obtain⟨dh,d,h1,h2,h3,_⟩:=jN hi;exact⟨d,dh,h2,h1,by rw[h3];exact h,HD (by rw[h3];exact h)⟩
 ·cases h
theorem yB {t:TypeId} {ks:List cg} (h:oa E t=some ks):∃d dh z,E.P.underlying t=some d∧E.P.info? t=some dh∧iM d=true∧dh.zero.bind lj=some (.agg z)∧ks=z.map V.cU:=by
 unfold oa at h;split at h
 ·rename_i i hi;obtain⟨dh,d,h1,h2,h3,h4,h5,h6⟩:=jN hi;split at h
  ·rename_i n e z hs hz;simp only[Option.some.injEq] at h;refine⟨d,dh,z,h2,h1, ?_,by rw[h6,hz],h.symm⟩;rw[hs] at h3;cases d<;>simp_all [bo,iM]
  ·rename_i fs z hs hz;simp only[Option.some.injEq] at h;refine⟨d,dh,z,h2,h1, ?_,by rw[h6,hz],h.symm⟩;rw[hs] at h3;cases d<;>simp_all [bo,iM]
  ·cases h
 ·cases h
theorem La {t:TypeId} {n:Nat} (h:size E t=some n):∃dh,E.P.info? t=some dh∧dh.size=n:=by
 unfold size at h;split at h
 ·rename_i i hi;obtain⟨dh,d,h1,h2,h3,h4,h5,h6⟩:=jN hi;simp only[Option.some.injEq] at h;exact⟨dh,h1,by omega⟩
 ·cases h
theorem fh {t:TypeId} {n:Nat} (h:size E t=some n) (w:World):(sizeOf t).run E.P w=.ok n w:=by
 obtain⟨dh,h1,h2⟩:=La h;simp [sizeOf,typeInfo,h1,h2]
theorem k5:∀{ks:List cg} {cs:List V} {l:List V} {j:Nat},aI ks cs=true→l.drop j=cs→n8 ks l j=cs
 |[],[],_,_,_,_=>rfl
 |[],_::_,_,_,h,_=>by simp [aI] at h
 |_::_,[],_,_,h,_=>by simp [aI] at h
 |k::ks,c::cs,l,j,h,hl=>by
  rw[aI,Bool.and_eq_true] at h
  have hj:j<l.length:=by
   rcases Nat.lt_or_ge j l.length with h|h
   ·exact h
   ·rw[List.drop_eq_nil_of_le h] at hl;cases hl
  have h0:ae l j=c:=by
   have h1:=qO hj
   have h2:l[j]? =some c:=by
    have:(l.drop j)[0]? =some c:=by rw[hl];rfl
    simpa using this
   rw[h1] at h2;exact Option.some.inj h2
  rw[n8,h0,V.sj h.1,k5 (j:=j+1) h.2 (by rw[←List.drop_drop,hl];rfl)]
theorem ud {v:V} (h:v.isAgg=true):v=.agg v.af:=by cases v<;>simp_all [V.isAgg,V.af]
theorem lF {t:TypeId} {v y:V} {r:Bool} (h:tM E t v=some (r,y)) (hr:r=true):y=v:=by
 unfold tM at h;split at h
 ·simp only[Option.some.injEq,Prod.mk.injEq] at h;rw[←h.2];exact V.sj (h.1.trans hr)
 ·split at h
  ·simp only[Option.some.injEq,Prod.mk.injEq] at h;have h1:=h.1.trans hr;rw[Bool.and_eq_true] at h1;rw[←h.2,k5 h1.2 rfl];exact(ud h1.1).symm
  ·cases h
theorem yC:∀{ts:List TypeId} {v:V} {j:Nat} {r:Bool} {l:List V},tN E ts v j=some (r,l)→r=true→v.ar.length=j+ts.length→l=v.ar.drop j
 |[],v,j,r,l,h,_,hl=>by
  simp only[tN,Option.some.injEq,Prod.mk.injEq] at h;rw[←h.2,List.drop_eq_nil_of_le (by simp at hl;omega)]
 |t::ts,v,j,r,l,h,hr,hl=>by
  simp only[tN] at h;split at h
  ·rename_i b x c l' h1 h2;simp only[Option.some.injEq,Prod.mk.injEq] at h;have hb:=h.1.trans hr;rw[Bool.and_eq_true] at hb;have e1:=lF h1 hb.1;have e2:=yC h2 hb.2 (by simp at hl;omega);have hj:j<v.ar.length:=by simp at hl;omega
   rw[←h.2,e1,e2];have:=qO hj;rw[List.getElem?_eq_getElem hj] at this;rw[List.drop_eq_getElem_cons hj, ←Option.some.inj this]
  ·cases h
theorem Np {t:TypeId} {v y:V} {r:Bool} (h:tO E t v=some (r,y)) (hr:r=true):y=v:=by
 unfold tO at h;split at h
 ·split at h
  ·simp only[Option.some.injEq,Prod.mk.injEq] at h;exact h.2.symm
  ·split at h
   ·rename_i ts _ _ _ b l h1;simp only[Option.some.injEq,Prod.mk.injEq] at h;have hb:=h.1.trans hr;rw[Bool.and_eq_true] at hb
    have hv:v=.tuple v.ar∧v.ar.length=ts.length:=by
     cases v<;>simp_all [V.aL,V.ar]
    have:=yC h1 hb.2 (by omega);rw[←h.2,this,List.drop_zero];exact hv.1.symm
   ·cases h
  ·exact lF h hr
 ·cases h
theorem yD {t:TypeId} {cs:List V} {off:Nat} {r:Bool} {v:V} {cs':Array Value} (h:mN E t cs off=some (r,v)) (hr:r=true) (h1:bd cs) (hcs:eM ρ cs cs'.toList) (w:World):∃v',(part t cs' off).run E.P w=.ok v' w∧VR ρ v v':=by
 unfold mN at h;split at h
 ·rename_i k hk;obtain⟨d,dh,hu,hi,_,ha⟩:=vM hk;simp only[Option.some.injEq,Prod.mk.injEq] at h;have xm:=h.1.trans hr;rw[Bool.and_eq_true] at xm;have hlt:off<cs.length:=by simpa using xm.1
  obtain⟨y,hy,hv⟩:=hcs.nth hlt;refine⟨y, ?_,by rw[←h.2,V.sj xm.2];exact hv⟩;have hy':cs'[off]? =some y:=by simpa using hy
  simp [part,jA hu,ha,hy']
 ·split at h
  ·rename_i ks n hks hn;obtain⟨d,dh,z,hu,hi,ha,_⟩:=yB hks;simp only[Option.some.injEq,Prod.mk.injEq] at h;refine⟨.agg (cs'.extract off (off+n)), ?_, ?_⟩
   ·simp [part,jA hu,ha,fh hn]
   ·rw[←h.2];refine .vH (fun c hc=>h1 c (List.mem_of_mem_drop (List.mem_of_mem_take hc))) ?_;have:=(hcs.drop off).take n;simpa [List.extract_eq_take_drop] using this
  ·cases h
theorem Nq {op:BinOp} {k:IntKind} {x y:Int} {r:Bool} {v:V} (h:vD op k x y=some (r,v)) (hr:r=true) (t:TypeId):∃v',(binOp op t (.int k x) (.int k y)).run E.P w=.ok v' w∧VR ρ v v':=by
 subst hr
 cases op<;>simp only[vD,Option.some.injEq,Prod.mk.injEq] at h<;>obtain⟨h1,rfl⟩:=h<;>
  simp only[binOp,ne_eq,not_true,if_false,Op.intArith,Op.intCmp,Op.intBits,Op.intDiv,Op.shift]<;>
  first
   |exact⟨_,rfl,.int _ _⟩
   |exact⟨_,rfl,.bool _⟩
   |(have h1:¬y=0:=by simpa using h1
     rw[if_neg h1];exact⟨_,rfl,.int _ _⟩)
   |(have h1:¬y<0:=by simpa using h1
     rw[if_neg h1];exact⟨_,rfl,.int _ _⟩)
theorem yE {op:BinOp} (hop:op=.shl∨op=.shr) {k k':IntKind} {x y:Int} {r:Bool} {v:V} (h:vD op k x y=some (r,v)) (hr:r=true) (t:TypeId):∃v',(binOp op t (.int k x) (.int k' y)).run E.P w=.ok v' w∧VR ρ v v':=by
 subst hr
 rcases hop with rfl|rfl<;>simp only[vD,Option.some.injEq,Prod.mk.injEq] at h<;>obtain⟨h1,rfl⟩:=h<;>
  simp only[binOp,Op.shift]<;>
  (have h1:¬y<0:=by simpa using h1
   rw[if_neg h1];exact⟨_,rfl,.int _ _⟩)
theorem QX:IntKind.i64.max=9223372036854775807:=by decide
theorem Nr {op:BinOp} {x y:ByteArray} {r:Bool} {v:V} (h:Hu op x y=some (r,v)) (hr:r=true) (t:TypeId):∃v',(binOp op t (.string x) (.string y)).run E.P w=.ok v' w∧VR ρ v v':=by
 subst hr
 cases op<;>simp only[Hu,Option.some.injEq,Prod.mk.injEq] at h<;>first
  |(cases h;done)
  |(obtain⟨h1,rfl⟩:=h
    simp only[binOp,Op.stringOp,nq]
    first
     |exact⟨_,rfl,.bool _⟩
     |(have h1:¬((x.size+y.size:Nat):Int)>IntKind.i64.max:=by rw[QX];unfold Nc at h1;have:=Nat.le_of_ble_eq_true h1;omega
       rw[if_neg h1];exact⟨_,rfl,.cH _⟩))
theorem bK {t:TypeId} {k:cg} (h:bh E t=some k):∃d,E.P.underlying t=some d∧cM (bo d)=some k:=by
 obtain⟨d,_,h1,_,h2,_⟩:=vM h;exact⟨d,h1,h2⟩
set_option maxHeartbeats 2000000 in
theorem rX {t:TypeId} {nils:Bool} {a b:V} {a' b':Value} {x y:Operand} {op:BinOp} {r q:Bool} (hc:nils=true→∃v,y=.const v)
 {D:Nat} (hD:50≤D+1) (ha:VR ρ a a') (hb:VR ρ b b') (h:iN E t nils a b=some (r,q)) (hr:r=true):
 (eqGuard op t x y a' b').run E.P w=.ok () w∧(Op.equalIn (D+1) t a' b').run E.P w=.ok q w:=by
 subst hr;unfold iN at h;split at h
 ·split at h
  ·rename_i hk;obtain⟨d,hu,hd⟩:=bK hk;simp only[Option.some.injEq,Prod.mk.injEq,true_and] at h;cases ha;cases hb;cases d<;>simp [bo,cM] at hd
   refine⟨by cases op<;>simp [eqGuard],by simp [Op.equalIn,run_underlying hu, ←h]⟩
  ·cases h
 ·split at h
  ·rename_i hk;obtain⟨d,hu,hd⟩:=bK hk;simp only[Option.some.injEq,Prod.mk.injEq,true_and] at h;cases hb;cases d<;>simp [bo,cM] at hd
   cases ha<;>exact⟨by cases op<;>simp [eqGuard],by simp [Op.equalIn,run_underlying hu, ←h]⟩
  ·cases h
 ·split at h
  ·rename_i hk;obtain⟨d,hu,hd⟩:=bK hk;simp only[Option.some.injEq,Prod.mk.injEq,true_and] at h;cases ha;cases d<;>simp [bo,cM] at hd
   cases hb<;>exact⟨by cases op<;>simp [eqGuard],by simp [Op.equalIn,run_underlying hu, ←h]⟩
  ·cases h
 ·split at h
  ·rename_i hk;obtain⟨d,hu,hd⟩:=bK hk;simp only[Option.some.injEq,Prod.mk.injEq,true_and] at h;cases hb;cases d<;>simp [bo,cM] at hd
   cases ha<;>exact⟨by cases op<;>simp [eqGuard],by simp [Op.equalIn,run_underlying hu, ←h]⟩
  ·cases h
 ·split at h
  ·rename_i hk;obtain⟨d,hu,hd⟩:=bK hk;simp only[Option.some.injEq,Prod.mk.injEq,true_and] at h;cases ha;cases d<;>simp [bo,cM] at hd
   cases hb<;>exact⟨by cases op<;>simp [eqGuard],by simp [Op.equalIn,run_underlying hu, ←h]⟩
  ·cases h
 ·split at h
  ·rename_i hk;obtain⟨d,hu,hd⟩:=bK hk;simp only[Option.some.injEq,Prod.mk.injEq,true_and] at h;cases hb;cases d<;>simp [bo,cM] at hd
   cases ha<;>exact⟨by cases op<;>simp [eqGuard],by simp [Op.equalIn,run_underlying hu, ←h]⟩
  ·cases h
 ·split at h
  ·rename_i hk;obtain⟨d,hu,hd⟩:=bK hk;simp only[Option.some.injEq,Prod.mk.injEq,true_and] at h;cases ha;cases d<;>simp [bo,cM] at hd
   cases hb<;>exact⟨by cases op<;>simp [eqGuard],by simp [Op.equalIn,run_underlying hu, ←h]⟩
  ·cases h
 ·rename_i xs ys;split at h
  ·rename_i ks b hk hb';simp only[Option.some.injEq,Prod.mk.injEq,Bool.and_eq_true,db,hb'] at h;obtain⟨⟨h1,h2⟩,rfl⟩:=h;have hq:=E.eq_ok t ks hk;simp only[KZ,Bool.and_eq_true,Bool.not_eq_true',decide_eq_true_eq] at hq;obtain⟨xs',rfl,hx,_⟩:=ha.ot;obtain⟨ys',rfl,hy,_⟩:=hb.ot;refine⟨run_eqGuard_agg w op t x y _ _ hq.1.1, ?_⟩;have key:=QW (P:=E.P) (ρ:=ρ) 50 t ks hq.1.2 (D+1) hD w xs ys xs'.toList ys'.toList (.agg xs') (.agg ys') b h1 h2 hx hy hb';have QG:=hq.2;split at QG
   ·rename_i d hu;exact key ⟨d,hu,.inl ⟨QG,by simp⟩⟩ ⟨d,hu,.inl ⟨QG,by simp⟩⟩
   ·cases QG
  ·cases h
 ·split at h
  ·rename_i hk;obtain⟨d,hu,hd⟩:=bK hk;simp only[Option.some.injEq,Prod.mk.injEq] at h;obtain⟨h1,h⟩:=h;cases hb;cases d<;>simp [bo,cM] at hd
   cases ha<;>simp [V.av] at h1<;>exact⟨by cases op<;>simp [eqGuard],by simp [Op.equalIn,run_underlying hu, ←h,V.nj]⟩
  ·cases h
 ·split at h
  ·rename_i hk;obtain⟨d,hu,hd⟩:=bK hk;simp only[Option.some.injEq,Prod.mk.injEq] at h;obtain⟨h1,h⟩:=h;cases ha;cases d<;>simp [bo,cM] at hd
   cases hb<;>simp [V.av] at h1<;>exact⟨by cases op<;>simp [eqGuard],by simp [Op.equalIn,run_underlying hu, ←h,V.nj]⟩
  ·cases h
 ·cases nils
  ·simp at h
  ·simp only[cond_true] at h;split at h
   ·rename_i hk;obtain⟨d,hu,hd⟩:=bK hk;obtain⟨c,rfl⟩:=hc rfl;simp only[Option.some.injEq,Prod.mk.injEq] at h;obtain⟨h1,h⟩:=h;cases hb;cases d<;>simp [bo,cM] at hd
    cases ha<;>simp [V.av] at h1<;>exact⟨by cases op<;>simp [eqGuard],by simp [Op.equalIn,run_underlying hu, ←h,V.fp]⟩
   ·cases h
 ·cases h
end
section
variable {E:kv} {ρ lam:dB} {w:World}
theorem rY {t:TypeId} {a b:Value} {q:Bool} (h:(Op.equalIn 10000 t a b).run E.P w=.ok q w) (hn:∀k n k' n',¬(a=.int k n∧b=.int k' n')) (hs:∀x y,¬(a=.string x∧b=.string y)) (hf:∀k x k' y,¬(a=.float k x∧b=.float k' y)) (hx:∀k x y k' x' y',¬(a=.complex k x y∧b=.complex k' x' y')):(binOp .eql t a b).run E.P w=.ok (.bool q) w∧(binOp .neq t a b).run E.P w=.ok (.bool (!q)) w:=by
 have he:(Op.equal t a b).run E.P w=.ok q w:=h
 cases a<;>cases b<;>first
  |exact(hn _ _ _ _ ⟨rfl,rfl⟩).elim
  |exact(hs _ _ ⟨rfl,rfl⟩).elim
  |exact(hf _ _ _ _ ⟨rfl,rfl⟩).elim
  |exact(hx _ _ _ _ _ _ ⟨rfl,rfl⟩).elim
  |(constructor<;>simp [binOp,he])
theorem ue {t:TypeId} {nils q:Bool} {a b:V} (h:iN E t nils a b=some (true,q)):a≠ .cw∧b≠ .cw:=by
 constructor
 ·rintro rfl;cases b<;>simp only[iN] at h<;>first|cases h|(split at h<;>first|cases h|(split at h<;>simp [V.av] at h)|simp [V.av] at h)|skip
  all_goals (revert h;cases nils<;>simp [V.av];try (split<;>simp))
 ·rintro rfl;cases a<;>simp only[iN] at h<;>first|cases h|(split at h<;>first|cases h|simp [V.av] at h)|skip
theorem Lb {op:BinOp} {t:TypeId} {nils r:Bool} {a b v:V} {a' b':Value} {x y:Operand} (hc:nils=true→∃c,y=.const c) (ha:VR ρ a a') (hb:VR ρ b b') (h:CS E op t nils a b=some (r,v)) (hr:r=true):∃v',(eqGuard op t x y a' b').run E.P w=.ok () w∧(binOp op t a' b').run E.P w=.ok v' w∧VR ρ v v':=by
 unfold CS at h;split at h
 ·rename_i k n k' n';cases ha;cases hb;have hg:(eqGuard op t x y (.int k n) (.int k' n')).run E.P w=.ok () w:=by cases op<;>simp [eqGuard]
  split at h
  ·obtain⟨v',h1,h2⟩:=yE (w:=w) (ρ:=ρ) (.inl rfl) (k':=k') h hr t;exact⟨v',hg,h1,h2⟩
  ·obtain⟨v',h1,h2⟩:=yE (w:=w) (ρ:=ρ) (.inr rfl) (k':=k') h hr t;exact⟨v',hg,h1,h2⟩
  ·by_cases hk:k=k'
   ·subst hk;simp only[nk,decide_true,cond_true] at h;obtain⟨v',h1,h2⟩:=Nq (w:=w) (ρ:=ρ) h hr t;exact⟨v',hg,h1,h2⟩
   ·simp [hk] at h
 ·rename_i s s';cases ha;cases hb;obtain⟨v',h1,h2⟩:=Nr (w:=w) (ρ:=ρ) h hr t;exact⟨v',by cases op<;>simp [eqGuard],h1,h2⟩
 ·rename_i h1 h2
  have hh:a≠ .cw∧b≠ .cw:=by
   split at h
   ·split at h
    ·rename_i r' q he;simp only[Option.some.injEq,Prod.mk.injEq] at h;exact ue (he.trans (by rw[h.1,hr]))
    ·cases h
   ·split at h
    ·rename_i r' q he;simp only[Option.some.injEq,Prod.mk.injEq] at h;exact ue (he.trans (by rw[h.1,hr]))
    ·cases h
   ·cases h
  have hn:∀k n k' n',¬(a'=.int k n∧b'=.int k' n'):=by
   rintro k n k' n' ⟨rfl,rfl⟩
   cases ha with
   |cw=>exact hh.1 rfl
   |int=>cases hb with
    |cw=>exact hh.2 rfl
    |int=>exact h1 _ _ _ _ rfl rfl
  have hs:∀x y,¬(a'=.string x∧b'=.string y):=by
   rintro x y ⟨rfl,rfl⟩
   cases ha with
   |cw=>exact hh.1 rfl
   |cH=>cases hb with
    |cw=>exact hh.2 rfl
    |cH=>exact h2 _ _ rfl rfl
  have hf:∀k x k' y,¬(a'=.float k x∧b'=.float k' y):=by
   rintro k x k' y ⟨rfl,rfl⟩
   cases ha with
   |cw=>exact hh.1 rfl
  have hx:∀k x y k' x' y',¬(a'=.complex k x y∧b'=.complex k' x' y'):=by
   rintro k x y k' x' y' ⟨rfl,rfl⟩
   cases ha with
   |cw=>exact hh.1 rfl
  split at h
  ·split at h
   ·rename_i r' q he;simp only[Option.some.injEq,Prod.mk.injEq] at h;obtain⟨rfl,rfl⟩:=h;obtain⟨hg,h3⟩:=rX (w:=w) (x:=x) (op:=.eql) (D:=9999) hc (by omega) ha hb he hr;exact⟨.bool q,hg,(rY h3 hn hs hf hx).1,.bool _⟩
   ·cases h
  ·split at h
   ·rename_i r' q he;simp only[Option.some.injEq,Prod.mk.injEq] at h;obtain⟨rfl,rfl⟩:=h;obtain⟨hg,h3⟩:=rX (w:=w) (x:=x) (op:=.neq) (D:=9999) hc (by omega) ha hb he hr;exact⟨.bool (!q),hg,(rY h3 hn hs hf hx).2,.bool _⟩
   ·cases h
  ·cases h
theorem Dh (c:Bool) (x y:Int):(bif c then x else y)=if c=true then x else y:=by cases c<;>rfl
theorem Ns {op:UnOp} {a v:V} {a':Value} (ha:VR ρ a a') (h:unV op a=some v):∃v',(Op.unary op a').run E.P w=.ok v' w∧VR ρ v v':=by
 unfold unV at h;split at h
 ·cases ha;simp only[Option.some.injEq] at h;subst h;exact⟨_,rfl,.bool _⟩
 ·cases ha;simp only[Option.some.injEq] at h;subst h;exact⟨_,rfl,.int _ _⟩
 ·cases ha;simp only[Option.some.injEq] at h;subst h;exact⟨_,rfl,by rw[Dh];exact .int _ _⟩
 ·cases h
theorem yF {t ft:TypeId} {f o:Nat} (h:tP E t f=some (o,ft)):∃fs fd,E.P.underlying t=some (.struct fs)∧fs[f]? =some fd∧fd.offset=o∧fd.type=ft:=by
 unfold tP at h;split at h
 ·rename_i i hi;obtain⟨dh,d,h1,h2,h3,_⟩:=jN hi;split at h
  ·rename_i fs hs;rw[hs] at h3;cases d<;>simp [bo] at h3
   rename_i fields;subst h3;simp only[List.getElem?_map,Option.map_eq_some_iff,Prod.mk.injEq] at h;obtain⟨fd,h4,h5,h6⟩:=h;exact⟨fields,fd,h2,by simpa using h4,h5,h6⟩
  ·cases h
 ·cases h
theorem sG {ev:Ev} {e:Operand→Value} (cX:pK ρ lam ev e) {x:Operand} {i:Int} (h:rP x ev=some i):∃k,e x=.int k i:=by
 unfold rP at h;split at h
 ·rename_i k j hx;simp only[Option.some.injEq] at h;subst h;exact⟨k,(cX.v hx).iw⟩
 ·cases h
theorem yG {k:IntKind} {i:Int} {y:Nat} {code:BoundsCode} (h0:0≤i) (h1:i≤(y:Int)) (w:World):(Instr.sliceBound (.int k i) y code).run E.P w=.ok i.toNat w:=by
 simp [Instr.sliceBound,asIntOf,h0,h1]
theorem oy {ev:Ev} {e:Operand→Value} (cX:pK ρ lam ev e) {isS:Bool} {len cap l h m:Nat} {lo hi mx:Option Operand} {r:Bool} (hb:gw ev len cap lo hi mx=some (r,l,h,m)) (hr:r=true) (w:World):(Instr.sliceBounds isS len cap (lo.map e) (hi.map e) (mx.map e)).run E.P w=.ok (l,h,m) w:=by
 unfold gw at hb;cases hq:(hi.isNone&&mx.isSome)
 ·simp only[hq,cond_false] at hb;split at hb
  ·rename_i m1 hm;split at hb
   ·rename_i h1 hh;split at hb
    ·rename_i l1 hl;simp only[Option.some.injEq,Prod.mk.injEq] at hb;obtain⟨CM,rfl,rfl,rfl⟩:=hb;rw[hr] at CM;simp only[Bool.and_eq_true] at CM;obtain⟨⟨r1,r2⟩,r3⟩:=CM
     have key:∀{x:Option Operand} {d most:Nat} {q:Bool×Nat},mO ev x d most=some q→q.1=true→
      (x=none∧q.2=d)∨∃y k i,x=some y∧e y=.int k i∧0≤i∧i≤(most:Int)∧q.2=i.toNat:=by
      intro x d most q hx hq;unfold mO at hx;split at hx
      ·simp only[Option.some.injEq] at hx;subst hx;exact .inl ⟨rfl,rfl⟩
      ·split at hx
       ·rename_i y _ i hy;simp only[Option.some.injEq] at hx;subst hx;simp only[Bool.and_eq_true,decide_eq_true_eq] at hq;obtain⟨k,hk⟩:=sG cX hy;exact .inr ⟨y,k,i,rfl,hk,hq.1,hq.2,rfl⟩
       ·cases hx
     unfold Instr.sliceBounds
     rcases key hm r1 with⟨rfl,e1⟩|⟨y1,k1,i1,rfl,he1,a1,b1,e1⟩<;>
      rcases key hh r2 with⟨rfl,e2⟩|⟨y2,k2,i2,rfl,Sx,a2,b2,e2⟩<;>
       rcases key hl r3 with⟨rfl,e3⟩|⟨y3,k3,i3,rfl,he3,a3,b3,e3⟩<;>
        simp_all [yG]
    ·cases hb
   ·cases hb
  ·cases hb
 ·simp [hq] at hb
theorem Fj {x:Value} {v:V} (h:VR ρ v x):∀{cs:List V} {cs':List Value} {off:Nat},eM ρ cs cs'→eM ρ (yf cs 0 off v) (cs'.set off x):=by
 have key:∀(cs:List V) (cs':List Value) (j off:Nat),eM ρ cs cs'→eM ρ (yf cs j off v) (if off<j then cs' else cs'.set (off-j) x):=by
  intro cs
  induction cs with
  |nil=>intro cs' j off hc;rw[hc.gr];simpa [yf] using eM.nil ρ
  |cons c cs ih=>
   intro cs' j off hc;obtain⟨y,m,rfl,h1,h2⟩:=hc.df;have:=ih m (j+1) off h2;rw[yf,nn,aW];by_cases hlt:off<j
   ·rw[if_pos (by omega)] at this;rw[if_pos hlt,if_neg (by simp;omega)];exact .cons h1 this
   ·rw[if_neg hlt];by_cases he:j=off
    ·subst he;rw[if_pos (by omega)] at this;simp only[decide_true,if_true,Nat.sub_self,List.set_cons_zero];exact .cons h this
    ·rw[if_neg (by omega)] at this;obtain⟨q,hq⟩:∃q,off-j=q+1:=⟨off-j-1,by omega⟩;rw[hq,List.set_cons_succ,if_neg (by simp;omega)];rw[show off-(j+1)=q by omega] at this;exact .cons h1 this
 intro cs cs' off hc;have:=key cs cs' 0 off hc;simpa using this
end
section
variable {E:kv} {ρ lam:dB} {w:World}
theorem AX {y:Operand} (h:sv y=true):∃v,y=.const v:=by
 cases y with
 |const v=>exact⟨v,rfl⟩
 |_=>simp [sv] at h
theorem dG {t:TypeId} {i:TI} (h:E.ti t=some i):∃d,E.P.underlying t=some d∧bo d=i.sh:=by
 obtain⟨dh,d,_,h2,h3,_⟩:=jN h;exact⟨d,h2,h3⟩
theorem uf {d:TypeDesc} {n e:Nat} (h:bo d=.vx n e):d=.array n e:=by cases d<;>simp_all [bo]
theorem ix {d:TypeDesc} {e:Nat} (h:bo d=.slice e):d=.slice e:=by cases d<;>simp_all [bo]
theorem Fk {d:TypeDesc} (h:bo d=.cH):d=.string:=by cases d<;>simp_all [bo]
theorem Fl {d:TypeDesc} {fs:List (Nat×TypeId)} (h:bo d=.struct fs):∃f,d=.struct f∧fs=f.toList.map fun f=>(f.offset,f.type):=by
 cases d<;>simp_all [bo]
theorem gb (b o n:Nat):(⟨b,o,none⟩:Addr).add n=⟨b,o+n,none⟩:=by unfold Addr.add;split<;>simp_all
def gu (E:kv) (ρ lam:dB) (w:World) (o:Oper) (e:Operand→Value) (x:T):Prop:=
 ∃v,(execOp e o).run E.P w=.ok (.value v) w∧TR ρ lam x v
theorem Fm {p:Oq} (h:p.isSome=true):p=some ((p.getD (0,0)).1,(p.getD (0,0)).2):=by
 cases p with
 |none=>cases h
 |some q=>rfl
variable {dst:Option Tmp} {type:TypeId} {jl:String} {after:Array Edge} {guard:Option (Nat×Bool)} {ev:Ev} {e:Operand→Value} {d:fR T}
theorem Lc {x:Operand} (cX:pK ρ lam ev e) (h:aZ E (.move x) ev=some d):gu E ρ lam w ⟨dst,.move x,type,jl,after,guard⟩ e (if d.c=true then d.x else d.y):=by
 simp only[aZ] at h;split at h
 ·rename_i y hy;simp only[Option.some.injEq] at h;subst h;exact⟨e x,rfl,cX x y hy⟩
 ·cases h
theorem Fo {x:Operand} (cX:pK ρ lam ev e) (h:aZ E (.assign x) ev=some d):gu E ρ lam w ⟨dst,.assign x,type,jl,after,guard⟩ e (if d.c=true then d.x else d.y):=by
 simp only[aZ] at h;split at h
 ·rename_i y hy;simp only[Option.some.injEq] at h;subst h;exact⟨e x,rfl,cX x y hy⟩
 ·cases h
theorem Ld {c a b:Operand} (cX:pK ρ lam ev e) (h:aZ E (.pick c a b) ev=some d):gu E ρ lam w ⟨dst,.pick c a b,type,jl,after,guard⟩ e (if d.c=true then d.x else d.y):=by
 simp only[aZ] at h;split at h
 ·rename_i t hc;have tD:=(cX.tv hc).Df;have hrun:(execOp e ⟨dst,.pick c a b,type,jl,after,guard⟩).run E.P w=.ok (.value (if t=true then e a else e b)) w:=by simp [execOp,asBool,tD]
  split at h
  ·rename_i x y ha hb;simp only[Option.some.injEq] at h;subst h;refine⟨_,hrun, ?_⟩;simp only[fR.one,if_true];cases t
   ·exact .v (cX.tv hb)
   ·exact .v (cX.tv ha)
  ·cases t with
   |true=>
    simp only[] at h;split at h
    ·rename_i y hy;simp only[Option.some.injEq] at h;subst h;exact⟨_,hrun,cX _ _ hy⟩
    ·cases h
   |false=>
    simp only[] at h;split at h
    ·rename_i y hy;simp only[Option.some.injEq] at h;subst h;exact⟨_,hrun,cX _ _ hy⟩
    ·cases h
 ·cases h
theorem TQ {op:BinOp} {t:TypeId} {nils:Bool} {a b:V} {r:Bool} {v:V} (h:TO E op t nils a b=some (r,v)) (hr:r=true):CS E op t nils a b=some (r,v):=by
 unfold TO at h;split at h
 ·split at h
  ·have key:∀{r x},Jb E t a=some (r,x)→r=true→iN E t true a .nilIface=some (r,x):=by
    intro r x he hr;unfold Jb at he;split at he
    ·rename_i hk;simp only[Option.some.injEq,Prod.mk.injEq] at he;obtain⟨rfl,rfl⟩:=he;cases a<;>simp_all [V.av,iN]
    ·cases he
   split at h
   ·split at h
    ·rename_i r' b' he;simp only[Option.some.injEq,Prod.mk.injEq] at h;obtain⟨rfl,rfl⟩:=h;have:=key he hr;cases a<;>simp_all [CS]
    ·cases h
   ·split at h
    ·rename_i r' b' he;simp only[Option.some.injEq,Prod.mk.injEq] at h;obtain⟨rfl,rfl⟩:=h;have:=key he hr;cases a<;>simp_all [CS]
    ·cases h
   ·cases h
  ·exact h
 ·have key:∀{r x},CT E t a=some (r,x)→iN E t nils a .nilFunc=some (r,x):=by
   intro r x he;unfold CT at he;split at he
   ·rename_i hk;cases a<;>simp_all [V.av,iN]
   ·cases he
  split at h
  ·split at h
   ·rename_i r' b' he;simp only[Option.some.injEq,Prod.mk.injEq] at h;obtain⟨rfl,rfl⟩:=h;have:=key he;cases a<;>simp_all [CS]
   ·cases h
  ·split at h
   ·rename_i r' b' he;simp only[Option.some.injEq,Prod.mk.injEq] at h;obtain⟨rfl,rfl⟩:=h;have:=key he;cases a<;>simp_all [CS]
   ·cases h
  ·cases h
 ·exact h
theorem Nt {op:BinOp} {t yt:TypeId} {x y:Operand} (cX:pK ρ lam ev e) (h:aZ E (.binOp op t x y yt) ev=some d) (hr:d.rq=true):gu E ρ lam w ⟨dst,.binOp op t x y yt,type,jl,after,guard⟩ e (if d.c=true then d.x else d.y):=by
 simp only[aZ] at h;split at h
 ·rename_i a b ha hb;unfold Bu at h;split at h
  ·rename_i r v hv;simp only[Option.some.injEq] at h;subst h;obtain⟨v',h1,h2,h3⟩:=Lb (w:=w) (x:=x) AX (cX.v ha) (cX.v hb) (TQ hv hr) hr;exact⟨v',by simp [execOp,h1,h2],.v h3⟩
  ·cases h
 ·cases h
theorem QY {op:UnOp} {t:TypeId} {x:Operand} (cX:pK ρ lam ev e) (h:aZ E (.unOp op t x) ev=some d):gu E ρ lam w ⟨dst,.unOp op t x,type,jl,after,guard⟩ e (if d.c=true then d.x else d.y):=by
 simp only[aZ] at h;split at h
 ·rename_i a ha;split at h
  ·rename_i v hv;simp only[Option.some.injEq] at h;subst h;obtain⟨v',h1,h2⟩:=Ns (E:=E) (w:=w) (cX.v ha) hv;exact⟨v',by simp [execOp,h1],.v h2⟩
  ·cases h
 ·cases h
theorem Di {s t:TypeId} {x:Operand} (cX:pK ρ lam ev e) (h:aZ E (.convert s t x) ev=some d):gu E ρ lam w ⟨dst,.convert s t x,type,jl,after,guard⟩ e (if d.c=true then d.x else d.y):=by
 simp only[aZ] at h;split at h
 ·rename_i ti k k' n ni hk hx;obtain⟨ds,hds,_⟩:=dG ni;obtain⟨dt,hu,hd⟩:=bK hk;simp only[Option.some.injEq] at h;subst h;cases dt<;>simp [bo,cM] at hd
  subst hd;refine⟨_, ?_,.v (.int _ _)⟩;simp [execOp,convert,run_underlying hds,run_underlying hu,(cX.v hx).iw,Conv.intToInt]
 ·rename_i ti s' ni hk hx;obtain⟨ds,hds,_⟩:=dG ni;obtain⟨dt,hu,hd⟩:=bK hk;simp only[Option.some.injEq] at h;subst h;cases dt<;>simp [bo,cM] at hd
  exact⟨.string s',by simp [execOp,convert,run_underlying hds,run_underlying hu,(cX.v hx).vI],.v (.cH _)⟩
 ·rename_i ti k' n ni hk hx;obtain⟨ds,hds,_⟩:=dG ni;obtain⟨dt,hu,hd⟩:=bK hk;simp only[Option.some.injEq] at h;subst h;cases dt<;>simp [bo,cM] at hd
  exact⟨.string (Utf8.encode n),by simp [execOp,convert,run_underlying hds,run_underlying hu,(cX.v hx).iw,Conv.intToString],.v (.cH _)⟩
 ·cases h
theorem AY {x:Operand} (cX:pK ρ lam ev e) (h:aZ E (.nilCheck x) ev=some d) (hr:d.rq=true):gu E ρ lam w ⟨dst,.nilCheck x,type,jl,after,guard⟩ e (if d.c=true then d.x else d.y):=by
 simp only[aZ] at h;split at h
 ·rename_i p hp;simp only[Option.some.injEq] at h;subst h;have:=Fm (p:=p) hr;rw[this] at hp;obtain⟨b,hb,he⟩:=(cX.tv hp).vJ;exact⟨.pointer (some ⟨b,(p.getD (0,0)).2,none⟩),by simp [execOp,he],.v (.aj hb)⟩
 ·rename_i s off hx;simp only[Option.some.injEq] at h;subst h;obtain⟨b,hb,he⟩:=cX.lp hx;exact⟨.pointer (some ⟨b,off,none⟩),by simp [execOp,he],.lp hb⟩
 ·cases h
theorem yH {t:TypeId} {x:Operand} {f:Nat} (cX:pK ρ lam ev e) (h:aZ E (.fieldAddr t x f) ev=some d):gu E ρ lam w ⟨dst,.fieldAddr t x f,type,jl,after,guard⟩ e (if d.c=true then d.x else d.y):=by
 simp only[aZ] at h;split at h
 ·rename_i o ft hf;obtain⟨fs,fd,hu,Ho,ho,hft⟩:=yF hf;split at h
  ·rename_i n hn;cases hz:sw n
   ·simp [hz] at h
   ·simp only[hz,cond_true] at h;have hn0:¬n=0:=by rintro rfl;simp [sw] at hz
    have key:∀b off,(Instr.fieldAt t (.pointer (some ⟨b,off,none⟩)) f).run E.P w=.ok (.pointer (some ⟨b,off+o,none⟩)) w:=by
     intro b off;simp [Instr.fieldAt,run_underlying hu,Ho,Instr.sureAddr,fieldPlace,hft,fh hn,hn0,gb,ho]
    split at h
    ·rename_i id off hx;simp only[Option.some.injEq] at h;subst h;obtain⟨b,hb,he⟩:=(cX.tv hx).vJ;exact⟨.pointer (some ⟨b,off+o,none⟩),by simp [execOp,he,key],.v (.aj hb)⟩
    ·rename_i s off hx;simp only[Option.some.injEq] at h;subst h;obtain⟨b,hb,he⟩:=cX.lp hx;exact⟨.pointer (some ⟨b,off+o,none⟩),by simp [execOp,he,key],.lp hb⟩
    ·cases h
  ·cases h
 ·cases h
theorem HE {t:TypeId} {x:Operand} {f:Nat} (cX:pK ρ lam ev e) (h:aZ E (.field t x f) ev=some d) (hr:d.rq=true):gu E ρ lam w ⟨dst,.field t x f,type,jl,after,guard⟩ e (if d.c=true then d.x else d.y):=by
 simp only[aZ] at h;split at h
 ·rename_i o ft cs hf hx;obtain⟨fs,fd,hu,Ho,ho,hft⟩:=yF hf;unfold Bu at h;split at h
  ·rename_i r v hv;simp only[Option.some.injEq] at h;subst h;obtain⟨cs',he,hcs,h1c⟩:=(cX.v hx).ot;obtain⟨v',h1,h2⟩:=yD hv hr h1c hcs w;exact⟨v',by simp [execOp,Instr.field,run_underlying hu,Ho,he,asAgg,ho,hft,h1],.v h2⟩
  ·cases h
 ·cases h
theorem yI {t:TypeId} {x i:Operand} (cX:pK ρ lam ev e) (h:aZ E (.indexAddr t x i) ev=some d) (hr:d.rq=true):gu E ρ lam w ⟨dst,.indexAddr t x i,type,jl,after,guard⟩ e (if d.c=true then d.x else d.y):=by
 simp only[aZ] at h;split at h
 ·rename_i n ti hn ni;obtain⟨k,hi⟩:=sG cX hn;obtain⟨dt,hu,hd⟩:=dG ni;split at h
  ·rename_i len el hs;rw[hs] at hd;cases uf hd;split at h
   ·rename_i sz id off hsz hx;simp only[Option.some.injEq] at h;subst h;simp only[fR.one,Bool.and_eq_true,decide_eq_true_eq] at hr;obtain⟨b,hb,he⟩:=(cX.tv hx).vJ;exact⟨.pointer (some ⟨b,off+n.toNat*sz,none⟩),by simp [execOp,Instr.indexAt,hi,asIntOf,run_underlying hu,he,Instr.sureAddr,hr,fh hsz,gb],.v (.aj hb)⟩
   ·rename_i sz s off hsz hx;simp only[Option.some.injEq] at h;subst h;simp only[fR.one,Bool.and_eq_true,decide_eq_true_eq] at hr;obtain⟨b,hb,he⟩:=cX.lp hx;exact⟨.pointer (some ⟨b,off+n.toNat*sz,none⟩),by simp [execOp,Instr.indexAt,hi,asIntOf,run_underlying hu,he,Instr.sureAddr,hr,fh hsz,gb],.lp hb⟩
   ·cases h
  ·rename_i el hs;rw[hs] at hd;cases ix hd;split at h
   ·rename_i sz p len _ hsz hx;simp only[Option.some.injEq] at h;subst h;simp only[fR.one,Bool.and_eq_true,decide_eq_true_eq] at hr;rw[Fm hr.2] at hx;rcases (cX.tv hx).ff with⟨b,hb,he⟩|⟨h0,_,_⟩;rotate_left
    ·omega
    exact⟨.pointer (some ⟨b,(p.getD (0,0)).2+n.toNat*sz,none⟩),by simp [execOp,Instr.indexAt,hi,asIntOf,run_underlying hu,he,hr.1,fh hsz,gb],.v (.aj hb)⟩
   ·cases h
  ·cases h
 ·cases h
theorem HF {t:TypeId} {x i:Operand} (cX:pK ρ lam ev e) (h:aZ E (.index t x i) ev=some d) (hr:d.rq=true):gu E ρ lam w ⟨dst,.index t x i,type,jl,after,guard⟩ e (if d.c=true then d.x else d.y):=by
 simp only[aZ] at h;split at h
 ·rename_i n ti v hn ni hx;obtain⟨k,hi⟩:=sG cX hn;obtain⟨dt,hu,hd⟩:=dG ni;split at h
  ·rename_i len el cs hs;rw[hs] at hd;cases uf hd;split at h
   ·rename_i sz hsz;split at h
    ·rename_i r y hp;simp only[Option.some.injEq] at h;subst h;simp only[fR.one,Bool.and_eq_true,decide_eq_true_eq] at hr;obtain⟨cs',he,hcs,h1c⟩:=(cX.v hx).ot;obtain⟨v',h1,h2⟩:=yD hp hr.2 h1c hcs w;exact⟨v',by simp [execOp,Instr.index,hi,asIntOf,run_underlying hu,he,hr.1,fh hsz,h1],.v h2⟩
    ·cases h
   ·cases h
  ·rename_i s hs;rw[hs] at hd;cases Fk hd;simp only[Option.some.injEq] at h;subst h;simp only[fR.one,Bool.and_eq_true,decide_eq_true_eq] at hr;have hlt:n.toNat<s.size:=by omega
   refine⟨.int .u8 s[n.toNat].toNat, ?_, ?_⟩
   ·simp [execOp,Instr.index,hi,asIntOf,run_underlying hu,(cX.v hx).vI,hr.1,getElem?_pos s n.toNat hlt]
   ·have:Hv s n.toNat=(s[n.toNat].toNat:Int):=by
     have hl:n.toNat<s.data.toList.length:=by simpa using hlt
     simp only[Hv,List.getD_eq_getElem?_getD,List.getElem?_eq_getElem hl,Option.getD_some];rfl
    simp only[if_true,fR.one,this];exact .v (.int _ _)
  ·cases h
 ·cases h
end
section
variable {E:kv} {ρ lam:dB} {w:World}
variable {dst:Option Tmp} {type:TypeId} {jl:String} {after:Array Edge} {guard:Option (Nat×Bool)} {ev:Ev} {e:Operand→Value} {d:fR T}
theorem oz {p:Oq} {len cap:Nat} {x:Value} (h:VR ρ (.slice p len cap) x):∃a:Option Addr,x=.slice a len cap∧∀n l c,(len=0→cap=0→l=0∧c=0)→VR ρ (.slice (bN p n) l c) (.slice (a.map (·.add n)) l c)∧VR ρ (.slice p l c) (.slice a l c):=by
 cases p with
 |none=>exact⟨none,h.lC,fun n l c _=>⟨.nA l c,.nA l c⟩⟩
 |some q=>
  obtain⟨id,off⟩:=q;rcases h.ff with⟨b,hb,hx⟩|⟨h0,h1,a,hx⟩
  ·exact⟨_,hx,fun n l c _=>⟨by simp only[bN,Option.map_some,gb];exact .slice l c hb,.slice l c hb⟩⟩
  ·subst h0 h1;refine⟨_,hx,fun n l c hz=> ?_⟩;obtain⟨rfl,rfl⟩:=hz rfl rfl;exact⟨.pJ _ _,.pJ _ _⟩
theorem Fp {ev:Ev} {lo hi mx:Option Operand} {r:Bool} {l h m:Nat} (hb:gw ev 0 0 lo hi mx=some (r,l,h,m)) (hr:r=true):h-l=0∧m-l=0:=by
 unfold gw at hb;cases hq:(hi.isNone&&mx.isSome)
 ·simp only[hq,cond_false] at hb;split at hb
  ·rename_i m1 hm;split at hb
   ·rename_i h1 hh;split at hb
    ·rename_i l1 hl;simp only[Option.some.injEq,Prod.mk.injEq] at hb;obtain⟨CM,rfl,rfl,rfl⟩:=hb;rw[hr] at CM;simp only[Bool.and_eq_true] at CM
     have key:∀{x:Option Operand} {d most:Nat} {q:Bool×Nat},mO ev x d most=some q→q.1=true→q.2=d∨q.2≤most:=by
      intro x d most q hx hq;unfold mO at hx;split at hx
      ·simp only[Option.some.injEq] at hx;subst hx;exact .inl rfl
      ·split at hx
       ·simp only[Option.some.injEq] at hx;subst hx;simp only[Bool.and_eq_true,decide_eq_true_eq] at hq;exact .inr (by simp only;omega)
       ·cases hx
     have k1:=key hm CM.1.1;have k2:=key hh CM.1.2;omega
    ·cases hb
   ·cases hb
  ·cases hb
 ·simp [hq] at hb
theorem HG {t:TypeId} {x:Operand} {lo hi mx:Option Operand} (cX:pK ρ lam ev e) (h:aZ E (.slice t x lo hi mx) ev=some d) (hr:d.rq=true):gu E ρ lam w ⟨dst,.slice t x lo hi mx,type,jl,after,guard⟩ e (if d.c=true then d.x else d.y):=by
 simp only[aZ] at h;split at h
 ·rename_i ti s ni hx;obtain⟨dt,hu,hd⟩:=dG ni;split at h
  ·rename_i hs;rw[hs] at hd;cases Fk hd;split at h
   ·rename_i r l hh m hb;simp only[Option.some.injEq] at h;subst h;have hb':=oy (E:=E) (isS:=false) cX hb hr w;simp only[Option.map_none] at hb';exact⟨.string (s.extract l hh),by simp [execOp,Instr.sliceAt,Instr.slice,run_underlying hu,(cX.tv hx).vI,hb'],.v (.cH _)⟩
   ·cases h
  ·cases h
 ·rename_i ti p len cap ni hx;obtain⟨dt,hu,hd⟩:=dG ni;split at h
  ·rename_i el hs;rw[hs] at hd;cases ix hd;split at h
   ·rename_i r l hh m sz hb hsz;simp only[Option.some.injEq] at h;subst h;simp only[fR.one,Bool.and_eq_true] at hr;have hle:=Nat.le_of_ble_eq_true hr.2;have hb':=oy (E:=E) (isS:=true) cX hb hr.1 w;obtain⟨a,he,hv⟩:=oz (cX.tv hx);obtain⟨h1,h2⟩:=hv (l*sz) (hh-l) (m-l) (fun h0 h1=>by subst h0 h1;exact Fp hb hr.1);refine⟨.slice (if m=l then a else a.map (·.add (l*sz))) (hh-l) (m-l),by simp [execOp,Instr.sliceAt,Instr.slice,run_underlying hu,he,hb',fh hsz], ?_⟩;simp only[fR.one,if_true];by_cases hml:m=l
    ·rw[if_pos hml];have e1:hh-l=0:=by omega
     have e2:m-l=0:=by omega
     rw[e1,e2] at h2⊢
     cases p with
     |none=>exact .v h2
     |some q=>
      obtain⟨id,off⟩:=q
      cases a with
      |none=>cases h2
      |some a=>exact .v (.pJ _ _)
    ·rw[if_neg hml];exact .v h1
   ·cases h
  ·cases h
 ·rename_i ti id off ni hx;obtain⟨dt,hu,hd⟩:=dG ni;split at h
  ·rename_i n el hs;rw[hs] at hd;cases uf hd;split at h
   ·rename_i r l hh m sz hb hsz;simp only[Option.some.injEq] at h;subst h;simp only[fR.one,Bool.and_eq_true] at hr;have hle:=Nat.le_of_ble_eq_true hr.2;have hb':=oy (E:=E) (isS:=false) cX hb hr.1 w;obtain⟨b,EF,he⟩:=(cX.tv hx).vJ;refine⟨.slice (some (if m=l then ⟨b,off,none⟩ else ⟨b,off+l*sz,none⟩)) (hh-l) (m-l),by simp [execOp,Instr.sliceAt,run_underlying hu,he,Instr.sureAddr,hb',fh hsz,gb], ?_⟩;simp only[fR.one,if_true];by_cases hml:m=l
    ·have e1:hh-l=0:=by omega
     have e2:m-l=0:=by omega
     rw[e1,e2];exact .v (.pJ _ _)
    ·rw[if_neg hml];exact .v (.slice _ _ EF)
   ·cases h
  ·cases h
 ·cases h
theorem sH {t:TypeId} {x:Operand} (cX:pK ρ lam ev e) (h:aZ E (.makeInterface t x) ev=some d):gu E ρ lam w ⟨dst,.makeInterface t x,type,jl,after,guard⟩ e (if d.c=true then d.x else d.y):=by
 simp only[aZ] at h;split at h
 ·cases h
 ·rename_i v hx hk;split at h
  ·rename_i ti ni;simp only[Option.some.injEq] at h;subst h;obtain⟨dt,hu,hd⟩:=dG ni
   have hni:∀ms,dt≠ .interface ms:=by
    rintro ms rfl;apply hk;simp [bh,ni, ←hd,bo,cM]
   refine⟨.iface t (e x), ?_,.v (.iface t (cX.v hx))⟩;cases dt<;>simp [execOp,Instr.makeInterface,run_underlying hu]
   exact(hni _ rfl).elim
  ·cases h
 ·cases h
theorem AZ {f:Fn} {first dF:Array Operand} (cX:pK ρ lam ev e) (h:aZ E (.makeFunc f first dF) ev=some d):gu E ρ lam w ⟨dst,.makeFunc f first dF,type,jl,after,guard⟩ e (if d.c=true then d.x else d.y):=by
 cases f with
 |func f=>
  simp only[aZ] at h;split at h
  ·rename_i hf;split at h
   ·rename_i cs hc;simp only[Option.some.injEq] at h;subst h;have h1:first= #[]:=by apply Array.ext';simpa using hf
    refine⟨.func (.func f) #[] (dF.map e),by simp [execOp,Instr.makeFunc,h1],.v (.Je ?_)⟩;simpa using cX.vs hc
   ·cases h
  ·rename_i x l hf hcap;split at h
   ·rename_i cs hc;simp only[Option.some.injEq] at h;subst h;have h1:dF= #[]:=by apply Array.ext';simpa using hcap
    refine⟨.func (.func f) (first.map e) #[],by simp [execOp,Instr.makeFunc,h1],.v (.QU ?_)⟩;rw[Array.toList_map,hf];exact cX.vs hc
   ·cases h
  ·cases h
 |_=>simp [aZ] at h
theorem Dj {x:Operand} {i:Nat} (cX:pK ρ lam ev e) (h:aZ E (.extract x i) ev=some d):gu E ρ lam w ⟨dst,.extract x i,type,jl,after,guard⟩ e (if d.c=true then d.x else d.y):=by
 simp only[aZ] at h;split at h
 ·rename_i vs hx;split at h
  ·rename_i v hv;simp only[Option.some.injEq] at h;subst h;obtain⟨vs',he,hvs⟩:=(cX.v hx).K8
   have hlt:i<vs.length:=by
    rcases Nat.lt_or_ge i vs.length with h|h
    ·exact h
    ·rw[List.getElem?_eq_none h] at hv;cases hv
   have hlt':i<vs'.size:=by have:=hvs.1;simp at this;omega
   refine⟨vs'[i],by simp [execOp,Instr.extract,he,Array.getElem?_eq_getElem hlt'],.v (hvs.2 i _ _ hv ?_)⟩;simp [Array.getElem?_eq_getElem hlt']
  ·cases h
 ·cases h
theorem xo {x:Operand} {xt t:TypeId} {ok:Bool} (cX:pK ρ lam ev e) (h:aZ E (.typeAssert x xt t ok) ev=some d) (hr:d.rq=true):gu E ρ lam w ⟨dst,.typeAssert x xt t ok,type,jl,after,guard⟩ e (if d.c=true then d.x else d.y):=by
 simp only[aZ] at h;split at h
 ·rename_i v ti hx ni;obtain⟨dh,dt,hi,hu,hd,_,_,hz⟩:=jN ni;split at h
  ·cases h
  ·rename_i hni;split at h
   ·rename_i r y z hy KS;rw[KS] at hz;obtain⟨z',EG,yd⟩:=Option.bind_eq_some_iff.1 hz;have hzero:(zeroValue t).run E.P w=.ok z' w:=by simp [zeroValue,typeInfo,hi,EG]
    have hint:∀ms,dt≠ .interface ms:=by
     rintro ms rfl;exact hni (by rw[←hd];rfl)
    have hv:=cX.v hx
    have key:v.av .iface=true→(v.fp=true∧v=.nilIface)∨∃t' u,v=.iface t' u:=by
     intro hk;cases v<;>simp_all [V.av,V.fp]
    cases ok with
    |true=>
     simp only[Option.some.injEq] at h;subst h;simp only[Bool.and_eq_true,Bool.or_eq_true,Bool.not_eq_true'] at hr;rcases key hr.1 with⟨_,rfl⟩|⟨t',u,rfl⟩
     ·have he:e x=.nilIface:=by generalize e x=q at hv;cases hv;rfl
      refine⟨.tuple #[z',.bool false], ?_, ?_⟩
      ·cases dt<;>first|(exact(hint _ rfl).elim)|simp [execOp,Instr.typeAssert,run_underlying hu,he,hzero]
      ·simp only[V.fp,Bool.not_true,Bool.false_and,Bool.false_eq_true,if_false];exact .v (.gE (.cons (iC yd) (.cons (.bool _) (.nil ρ))))
     ·obtain⟨u',he,hu'⟩:∃u',e x=.iface t' u'∧VR ρ u u':=by generalize e x=q at hv;cases hv with|iface _ h=>exact⟨_,rfl,h⟩
      by_cases ht:t'=t
      ·subst ht;have xI:r=true:=by simpa [V.fp,V.CR,Nat.beq_refl] using hr.2
       have:=lF hy xI;refine⟨.tuple #[u',.bool true], ?_, ?_⟩
       ·cases dt<;>first|(exact(hint _ rfl).elim)|simp [execOp,Instr.typeAssert,run_underlying hu,he]
       ·simp only[V.fp,V.CR,Nat.beq_refl,Bool.not_false,Bool.true_and,if_true,this,V.M9];exact .v (.gE (.cons hu' (.cons (.bool _) (.nil ρ))))
      ·have hb:Nat.beq t' t=false:=by rw[aW];simpa using ht
       refine⟨.tuple #[z',.bool false], ?_, ?_⟩
       ·cases dt<;>first|(exact(hint _ rfl).elim)|simp [execOp,Instr.typeAssert,run_underlying hu,he,ht,hzero]
       ·simp only[V.fp,V.CR,hb,Bool.and_false,Bool.false_eq_true,if_false];exact .v (.gE (.cons (iC yd) (.cons (.bool _) (.nil ρ))))
    |false=>
     simp only[Option.some.injEq] at h;subst h;simp only[fR.one,Bool.and_eq_true,Bool.not_eq_true'] at hr;rcases key hr.1.1 with⟨h1,rfl⟩|⟨t',u,rfl⟩
     ·rw[hr.1.2.1] at h1;cases h1
     ·obtain⟨u',he,hu'⟩:∃u',e x=.iface t' u'∧VR ρ u u':=by generalize e x=q at hv;cases hv with|iface _ h=>exact⟨_,rfl,h⟩
      have ht:t'=t:=Nat.eq_of_beq_eq_true hr.1.2.2;subst ht;have:=lF hy hr.2;refine⟨u', ?_, ?_⟩
      ·cases dt<;>first|(exact(hint _ rfl).elim)|simp [execOp,Instr.typeAssert,run_underlying hu,he]
      ·simp only[fR.one,if_true,this,V.M9];exact .v hu'
   ·cases h
 ·cases h
theorem Le {c:Call} (cX:pK ρ lam ev e) (h:aZ E (.call c) ev=some d):gu E ρ lam w ⟨dst,.call c,type,jl,after,guard⟩ e (if d.c=true then d.x else d.y):=by
 simp only[aZ] at h;split at h
 ·rename_i b hb;split at h
  ·rename_i vs t hvs ht0;have ht:c.argTypes[0]? =some t:=by simpa using ht0
   have G4:=cX.vs hvs;obtain⟨aS,has⟩:∃aS,c.args.toList.map e=aS:=⟨_,rfl⟩;rw[has] at G4;have hargs:c.args.map e=aS.toArray:=by apply Array.ext';simp [has]
   have hrun:∀v,(∀con,(builtin b c.argTypes type con aS.toArray).run E.P w=.ok (.value v) w)→(execOp e ⟨dst,.call c,type,jl,after,guard⟩).run E.P w=.ok (.value v) w:=by
    intro v hv;simp [execOp,resolve,hb,invoke,hargs,hv]
   unfold E0 at h;split at h
   ·split at h
    ·rename_i s _ hk;obtain⟨dt,hu,hd⟩:=bK hk;simp only[Option.some.injEq] at h;subst h;obtain⟨y,m,rfl,h1,h2⟩:=G4.df;have:=h2.gr;subst this;cases dt<;>simp [bo,cM] at hd
     exact⟨.int .i64 (s.size:Int),hrun _ fun con=>by simp [builtin,Builtin.len_,ht,run_underlying hu,h1.vI,goInt],.v (.int _ _)⟩
    ·cases h
   ·split at h
    ·rename_i p n cp _ hk;obtain⟨dt,hu,hd⟩:=bK hk;simp only[Option.some.injEq] at h;subst h;obtain⟨y,m,rfl,h1,h2⟩:=G4.df;have:=h2.gr;subst this;obtain⟨a,rfl,_⟩:=oz h1;cases dt<;>simp [bo,cM] at hd
     exact⟨.int .i64 (n:Int),hrun _ fun con=>by simp [builtin,Builtin.len_,ht,run_underlying hu,goInt],.v (.int _ _)⟩
    ·cases h
   ·split at h
    ·rename_i p n cp _ hk;obtain⟨dt,hu,hd⟩:=bK hk;simp only[Option.some.injEq] at h;subst h;obtain⟨y,m,rfl,h1,h2⟩:=G4.df;have:=h2.gr;subst this;obtain⟨a,rfl,_⟩:=oz h1;cases dt<;>simp [bo,cM] at hd
     exact⟨.int .i64 (cp:Int),hrun _ fun con=>by simp [builtin,Builtin.cap_,ht,run_underlying hu,goInt],.v (.int _ _)⟩
    ·cases h
   ·split at h
    ·rename_i v hv;simp only[Option.some.injEq] at h;subst h;unfold xN at hv;split at hv
     ·simp only[Option.some.injEq] at hv;subst hv;obtain⟨y,m,rfl,h1,h2⟩:=G4.df;have:=h2.gr;subst this;exact⟨y,hrun _ fun con=>by simp [builtin,Builtin.min_],.v h1⟩
     ·rename_i k x k' y;by_cases hk:k=k'
      ·simp only[hk,nk,decide_true,cond_true,cond_false,Option.some.injEq] at hv;subst hv;obtain⟨p,m,rfl,h1,h2⟩:=G4.df;obtain⟨q,m,rfl,h3,h4⟩:=h2.df;have:=h4.gr;subst this;refine⟨.int k' (if y<x then y else x),hrun _ fun con=>by simp [builtin,Builtin.min_,h1.iw,h3.iw,Builtin.min2,hk],.v ?_⟩;rw[Dh];simpa using VR.int k' _
      ·simp [hk] at hv
     ·cases hv
    ·cases h
   ·split at h
    ·rename_i v hv;simp only[Option.some.injEq] at h;subst h;unfold xN at hv;split at hv
     ·simp only[Option.some.injEq] at hv;subst hv;obtain⟨y,m,rfl,h1,h2⟩:=G4.df;have:=h2.gr;subst this;exact⟨y,hrun _ fun con=>by simp [builtin,Builtin.max_],.v h1⟩
     ·rename_i k x k' y;by_cases hk:k=k'
      ·simp only[hk,nk,decide_true,cond_true,cond_false,Option.some.injEq] at hv;subst hv;obtain⟨p,m,rfl,h1,h2⟩:=G4.df;obtain⟨q,m,rfl,h3,h4⟩:=h2.df;have:=h4.gr;subst this;refine⟨.int k' (if y>x then y else x),hrun _ fun con=>by simp [builtin,Builtin.max_,h1.iw,h3.iw,Builtin.max2,hk],.v ?_⟩;rw[Dh];simpa using VR.int k' _
      ·simp [hk] at hv
     ·cases hv
    ·cases h
   ·cases h
  ·cases h
 ·cases h
end
def iU:List Value→Nat→List Value→List Value
 |cs,_,[]=>cs
 |cs,off,v::vs=>iU (cs.set off v) (off+1) vs
theorem pL {ρ:dB}:∀{vs:List V} {us:List Value} {cs:List V} {cs':List Value} {off:Nat},eM ρ vs us→eM ρ cs cs'→eM ρ (bM cs off vs) (iU cs' off us)
 |[],us,cs,cs',off,h,hc=>by rw[h.gr];exact hc
 |v::vs,us,cs,cs',off,h,hc=>by
  obtain⟨u,m,rfl,h1,h2⟩:=h.df;have:=pL (off:=off+1) h2 (Fj (off:=off) h1 hc);exact this
theorem o0:∀(us:List Value) (cs:List Value) (off:Nat),(iU cs off us).length=cs.length
 |[],_,_=>rfl
 |u::us,cs,off=>by rw[iU,o0 us];simp
theorem BD (off:Nat):∀(us:List Value) (k:Nat) (cells:Array Value),((us.zipIdx k).foldl (fun(cs:Array Value) (p:Value×Nat)=>cs.setIfInBounds (off+p.2) p.1) cells).toList=iU cells.toList (off+k) us
 |[],_,_=>rfl
 |u::us,k,cells=>by
  rw[List.zipIdx_cons,List.foldl_cons,BD off us (k+1),iU];simp [Nat.add_assoc]
theorem HH (off:Nat) (us cells:Array Value):(us.zipIdx.foldl (fun(cs:Array Value) (p:Value×Nat)=>cs.setIfInBounds (off+p.2) p.1) cells).toList=iU cells.toList off us.toList:=by
 rw[←Array.foldl_toList];have:=BD off us.toList 0 cells;simpa using this
section
variable {E:kv} {ρ lam:dB} {w:World}
theorem Fq {v:V} (hv:v.one=true):∀{cs:List V} {j n:Nat},bd cs→bd (yf cs j n v)
 |[],_,_,h=>h
 |c::cs,j,n,h=>by
  intro x hx;rw[yf,nn] at hx;rcases List.mem_cons.1 hx with rfl|hx
  ·split
   ·exact hv
   ·exact h c (List.mem_cons_self ..)
  ·exact Fq hv (fun y hy=>h y (List.mem_cons_of_mem _ hy)) x hx
theorem mu:∀{vs cs:List V} {off:Nat},bd vs→bd cs→bd (bM cs off vs)
 |[],_,_,_,h=>h
 |v::vs,cs,off,hv,h=>by
  have:=mu (vs:=vs) (off:=off+1) (fun y hy=>hv y (List.mem_cons_of_mem _ hy)) (Fq (n:=off) (j:=0) (hv v (List.mem_cons_self ..)) h);exact this
theorem iV {t:TypeId} {v:V} {x:Value} {r:Bool} {vs:List V} (hv:VR ρ v x) (h:hO E t v=some (r,vs)) (hr:r=true):eM ρ vs x.cells.toList∧bd vs:=by
 unfold hO at h;split at h
 ·cases h
 ·rename_i n hn;split at h
  ·rename_i k hk;cases hb:Nat.beq n 1
   ·simp [hb] at h
   ·simp only[hb,cond_true,Option.some.injEq,Prod.mk.injEq] at h;obtain⟨h1,rfl⟩:=h;have h1:=V.sk (h1.trans hr);have h2:v.cells=[v]:=by cases v<;>first|rfl|simp [V.one] at h1
    refine⟨h2▸hv.cells (fun e=>by rw[e] at h1;cases h1),fun c hc=> ?_⟩;simp only[List.mem_singleton] at hc;subst hc;exact h1
  ·split at h
   ·split at h
    ·simp only[Option.some.injEq,Prod.mk.injEq] at h;obtain⟨h1,rfl⟩:=h;obtain⟨cs',rfl,h2,h3⟩:=hv.ot;exact⟨h2,h3⟩
    ·cases h
   ·cases h
theorem A0 {t:TypeId} {v:V} {r:Bool} {vs:List V} (h:hO E t v=some (r,vs)) (hr:r=true):size E t=some vs.length:=by
 unfold hO at h;split at h
 ·cases h
 ·rename_i n hn;rw[hn];split at h
  ·cases hb:Nat.beq n 1
   ·simp [hb] at h
   ·simp only[hb,cond_true,Option.some.injEq,Prod.mk.injEq] at h;rw[←h.2,Nat.eq_of_beq_eq_true hb];rfl
  ·split at h
   ·split at h
    ·simp only[Option.some.injEq,Prod.mk.injEq] at h;rw[←h.2,Nat.eq_of_beq_eq_true (h.1.trans hr)]
    ·cases h
   ·cases h
theorem oA {place:Nat→Option (Nat×TypeId)} {place':Nat→Oq} (aad:∀i off t n,place i=some (off,t)→size E t=some n→place' i=some (off,n)):∀{ps:List (Nat×V)} {ps':List (Nat×Value)} {cs out:List V} {cs':Array Value} {r:Bool},ps.map (·.1)=ps'.map (·.1)→eM ρ (ps.map (·.2)) (ps'.map (·.2))→eM ρ cs cs'.toList→bd cs→qI E place cs ps=some (r,out)→r=true→∃out',Instr.fill place' cs' ps'=some out'∧eM ρ out out'.toList∧bd out
 |[],ps',cs,out,cs',r,h1,h2,hc,ho,h,hr=>by
  cases ps' with
  |nil=>simp only[qI,Option.some.injEq,Prod.mk.injEq] at h;obtain⟨_,rfl⟩:=h;exact⟨cs',rfl,hc,ho⟩
  |cons p l=>simp at h1
 |(i,v)::ps,ps',cs,out,cs',r,h1,h2,hc,ho,h,hr=>by
  cases ps' with
  |nil=>simp at h1
  |cons p l=>
   obtain⟨j,u⟩:=p;simp only[List.map_cons,List.cons.injEq] at h1 h2;obtain⟨rfl,h1⟩:=h1;obtain⟨u',m,he,hu,hm⟩:=h2.df;simp only[List.cons.injEq] at he;obtain⟨rfl,rfl⟩:=he;simp only[qI] at h;split at h
   ·cases h
   ·rename_i off t Aw;split at h
    ·rename_i r1 vs n We hsz;cases hb:(Nat.beq vs.length n&&Nat.ble (off+n) cs.length)
     ·simp [hb] at h
     ·simp only[hb,cond_true] at h;split at h
      ·rename_i r2 cs2 n5;simp only[Option.some.injEq,Prod.mk.injEq] at h;obtain⟨CM,rfl⟩:=h;rw[hr,Bool.and_eq_true] at CM;rw[Bool.and_eq_true] at hb;have Ax:vs.length=n:=Nat.eq_of_beq_eq_true hb.1;have nf:off+n≤cs.length:=Nat.le_of_ble_eq_true hb.2;obtain⟨hvs,hone⟩:=iV hu We CM.1;have rI:u.cells.size=n:=by have:=hvs.1;simp at this;omega
       have hcs:cs'.size=cs.length:=by have:=hc.1;simp at this;omega
       obtain⟨out',h3,h4,h5⟩:=oA aad (cs':=u.cells.zipIdx.foldl (fun(cs:Array Value) (p:Value×Nat)=>cs.setIfInBounds (off+p.2) p.1) cs') h1 hm
        (by rw[HH];exact pL hvs hc) (mu hone ho) n5 CM.2
       refine⟨out', ?_,h4,h5⟩;simp only[Instr.fill,aad _ _ _ _ Aw hsz];rw[if_neg (by simp [rI,hcs];omega)];exact h3
      ·cases h
    ·cases h
theorem mU {ev:Ev} {e:Operand→Value} (cX:pK ρ lam ev e):∀{l:List (Nat×Operand)} {ps:List (Nat×V)},kM ev l=some ps→ps.map (·.1)=(l.map fun p=>(p.1,e p.2)).map (·.1)∧eM ρ (ps.map (·.2)) ((l.map fun p=>(p.1,e p.2)).map (·.2))
 |[],ps,h=>by simp only[kM,Option.some.injEq] at h;subst h;exact⟨rfl,.nil ρ⟩
 |(i,x)::l,ps,h=>by
  simp only[kM] at h;split at h
  ·rename_i y m hy hm;simp only[Option.some.injEq] at h;subst h;obtain⟨h1,h2⟩:=mU cX hm;exact⟨by simp [h1],.cons (cX.v hy) h2⟩
  ·cases h
theorem wS {w:World}:∀{l:List Field},tQ E (l.map fun f=>(f.offset,f.type))=true→(l.mapM fun f=>(do pure (f.offset, ←sizeOf f.type):Sem (Nat×Nat))).run E.P w=.ok (l.map fun f=>(f.offset,(size E f.type).getD 0)) w
 |[],h=>by simp
 |f::l,h=>by
  simp only[List.map_cons,tQ,Bool.and_eq_true] at h;obtain⟨n,hn⟩:=Option.isSome_iff_exists.1 h.1;have ih:=wS (w:=w) h.2;simp only[List.mapM_cons,Sem.run_bind,fh hn,Result.andThen_ok,Sem.run_pure,ih,hn,List.map_cons,Option.getD_some]
variable {dst:Option Tmp} {type:TypeId} {jl:String} {after:Array Edge} {guard:Option (Nat×Bool)} {ev:Ev} {e:Operand→Value} {d:fR T}
theorem HI {t:TypeId} {parts:Array (Nat×Operand)} (cX:pK ρ lam ev e) (h:aZ E (.build t parts) ev=some d) (hr:d.rq=true):gu E ρ lam w ⟨dst,.build t parts,type,jl,after,guard⟩ e (if d.c=true then d.x else d.y):=by
 simp only[aZ] at h;split at h
 ·rename_i ti pl ps ni Aw hps;obtain⟨dh,dt,hi,hu,hd,_,_,hz⟩:=jN ni;split at h
  ·rename_i z KS;rw[KS] at hz;obtain⟨z',EG,yd⟩:=Option.bind_eq_some_iff.1 hz;have hzero:(zeroValue t).run E.P w=.ok z' w:=by simp [zeroValue,typeInfo,hi,EG]
   obtain⟨zc,rfl,MG,aae⟩:=(iC (ρ:=ρ) yd).ot;split at h
   ·rename_i r cs hcs;simp only[Option.some.injEq] at h;subst h;obtain⟨h1,h2⟩:=mU cX hps;have EH:(parts.map fun p=>(p.1,e p.2)).toList=parts.toList.map fun p=>(p.1,e p.2):=by simp
    unfold E1 at Aw;rw[ni] at Aw;simp only[] at Aw;split at Aw
    ·rename_i fs hs;rw[hs] at hd;obtain⟨f,rfl,rfl⟩:=Fl hd;cases hok:tQ E (f.toList.map fun f=>(f.offset,f.type))
     ·simp [hok] at Aw
     ·simp only[hok,cond_true,Option.some.injEq] at Aw;subst Aw
      obtain⟨out',h3,h4,h5⟩:=oA (place':=fun j=>(f.toList.map fun f=>(f.offset,(size E f.type).getD 0))[j]?) (by
       intro i off t n hp hn;simp only[List.getElem?_map,Option.map_eq_some_iff,Prod.mk.injEq] at hp⊢;obtain⟨fd,h1,h2,h3⟩:=hp
       exact⟨fd,h1,h2,by rw[h3,hn];rfl⟩) h1 h2 MG aae hcs hr
      refine⟨.agg out', ?_,.v (.vH h5 h4)⟩;have hm:=wS (E:=E) (w:=w) hok
      have hm':(f.mapM fun f=>(do pure (f.offset, ←sizeOf f.type):Sem (Nat×Nat))).run E.P w=.ok (f.toList.map fun f=>(f.offset,(size E f.type).getD 0)).toArray w:=by
       rw[←Array.toArray_toList (xs:=f),List.mapM_toArray];simp only[Sem.run_map,hm,Result.andThen_ok]
      have Tw:Instr.fill (fun x=>(f.toList.map fun f=>(f.offset,(size E f.type).getD 0)).toArray[x]?) zc (parts.map fun p=>(p.1,e p.2)).toList=some out':=by
       rw[EH, ←h3];congr 1;funext x;simp
      simp only[Instr.build,execOp,Sem.run_bind,hzero,Result.andThen_ok,run_underlying hu,hm',Value.cells];simp only[Tw,Sem.run_pure,Result.andThen_ok]
    ·rename_i n el hs;rw[hs] at hd;cases uf hd;split at Aw
     ·rename_i sz hsz;simp only[Option.some.injEq] at Aw;subst Aw
      obtain⟨out',h3,h4,h5⟩:=oA (place':=fun j=>some (j*sz,sz)) (by
       intro i off t n hp hn;simp only[Option.some.injEq,Prod.mk.injEq] at hp⊢;obtain⟨h1,rfl⟩:=hp;rw[hsz] at hn
       exact⟨h1,Option.some.inj hn⟩) h1 h2 MG aae hcs hr
      refine⟨.agg out', ?_,.v (.vH h5 h4)⟩;rw[←EH] at h3;simp only[Instr.build,execOp,Sem.run_bind,hzero,Result.andThen_ok,run_underlying hu,fh hsz,Value.cells];simp only[h3,Sem.run_pure,Result.andThen_ok]
     ·cases Aw
    ·cases Aw
   ·cases h
  ·cases h
 ·cases h
theorem Dk {o:Oper} (cX:pK ρ lam ev e) (h:aZ E o.op ev=some d) (hr:d.rq=true):∃v,(execOp e o).run E.P w=.ok (.value v) w∧TR ρ lam (if d.c=true then d.x else d.y) v:=by
 obtain⟨dst,op,type,jl,after,guard⟩:=o
 cases op with
 |move x=>exact Lc cX h
 |assign x=>exact Fo cX h
 |pick c a b=>exact Ld cX h
 |binOp op t x y yt=>exact Nt cX h hr
 |unOp op t x=>exact QY cX h
 |convert s t x=>exact Di cX h
 |nilCheck x=>exact AY cX h hr
 |fieldAddr t x f=>exact yH cX h
 |field t x f=>exact HE cX h hr
 |indexAddr t x i=>exact yI cX h hr
 |index t x i=>exact HF cX h hr
 |slice t x lo hi mx=>exact HG cX h hr
 |makeInterface t x=>exact sH cX h
 |makeFunc f first dF=>exact AZ cX h
 |extract x i=>exact Dj cX h
 |build t parts=>exact HI cX h hr
 |typeAssert x xt t ok=>exact xo cX h hr
 |call c=>exact Le cX h
 |_=>simp [aZ] at h
end
theorem gf:∀{ks:List cg} {cs:List V},aI ks cs=true→bd cs
 |[],[],_=>fun v hv=>by cases hv
 |k::ks,v::vs,h=>by
  simp only[aI,Bool.and_eq_true] at h;intro x hx;rcases List.mem_cons.1 hx with rfl|hx
  ·exact V.sk h.1
  ·exact gf h.2 x hx
 |[],_::_,h=>by cases h
 |_::_,[],h=>by cases h
structure pf (b:Nat) (w w':World):Prop where
 ml:∀b',b'≠b→w'.heap[b']? =w.heap[b']?
 size:w'.heap.size=w.heap.size
 os:w'.os=w.os
 tape:w'.tape=w.tape
 output:w'.output=w.output
theorem pf.refl (b:Nat) (w:World):pf b w w:=⟨fun _ _=>rfl,rfl,rfl,rfl,rfl⟩
theorem pf.trans {b:Nat} {x y z:World} (h:pf b x y) (k:pf b y z):pf b x z:=
 ⟨fun b' hb=>(k.ml b' hb).trans (h.ml b' hb),k.size.trans h.size,k.os.trans h.os,k.tape.trans h.tape,k.output.trans h.output⟩
theorem Dl (w:World) (b o:Nat) (v:Value):pf b w (w.setCell ⟨b,o,none⟩ v) where
 ml:=fun b' hb=>by simp only[World.setCell,Array.getElem?_modify];rw[if_neg (fun e=>hb e.symm)]
 size:=by simp [World.setCell]
 os:=rfl
 tape:=rfl
 output:=rfl
theorem Dm {w:World} {b:Nat} {cs:Array Value} {e:TypeId} {fz:Nat×Nat} (h:w.heap[b]? =some (.cells cs e fz)) (o:Nat) (v:Value):(w.setCell ⟨b,o,none⟩ v).heap[b]? =some (.cells (cs.setIfInBounds o v) e fz):=by
 simp [World.setCell,Array.getElem?_modify,h]
theorem rZ:∀(vs:List Value) {w:World} {b:Nat} {cs:Array Value} {e:TypeId} {fz:Nat×Nat} (o:Nat),w.heap[b]? =some (.cells cs e fz)→∃cs',(w.setCells b o vs).heap[b]? =some (.cells cs' e fz)∧cs'.toList=iU cs.toList o vs∧pf b w (w.setCells b o vs)
 |[],w,b,cs,e,fz,o,h=>⟨cs,h,rfl,.refl b w⟩
 |v::vs,w,b,cs,e,fz,o,h=>by
  obtain⟨cs',h1,h2,h3⟩:=rZ vs (o+1) (Dm h o v);refine⟨cs',h1, ?_,(Dl w b o v).trans h3⟩;rw[h2,iU];simp
theorem qP {w:World} {b:Nat} {cs:Array Value} {e:TypeId} {fz:Nat×Nat} (h:w.heap[b]? =some (.cells cs e fz)) (o:Nat):w.cell? ⟨b,o,none⟩=cs[o]? :=by
 simp [World.cell?,h]
theorem Lf {w:World} {b:Nat} {cs:Array Value} {e:TypeId} {fz:Nat×Nat} (h:w.heap[b]? =some (.cells cs e fz)) (o:Nat):w.frozen? ⟨b,o,none⟩=(decide (fz.1≤o)&&decide (o<fz.2)):=by
 simp [World.frozen?,h]
section
variable {E:kv} {ρ lam:dB} {w:World}
theorem sI {P:Program} {t:TypeId} {d:TypeDesc} (hu:P.underlying t=some d) (ha:iM d=false) {a:Addr} {x:Value} (h:w.cell? a=some x):(loadVar t a).run P w=.ok x w:=by
 simp [loadVar,jA hu,ha,h]
theorem oB {t e:TypeId} {cs:List V} {off b:Nat} {r rw:Bool} {v:V} (hc:fT ρ e cs rw w.heap[b]?) (h:mN E t cs off=some (r,v)) (hr:r=true) (ho:∀cs',v=.agg cs'→rw=true∨bd cs'):∃v',(loadVar t ⟨b,off,none⟩).run E.P w=.ok v' w∧VR ρ v v':=by
 obtain⟨cs',fz,hb,hvs,hone,_⟩:=hc;unfold mN at h;split at h
 ·rename_i k hk;obtain⟨d,dh,hu,hi,_,ha⟩:=vM hk;simp only[Option.some.injEq,Prod.mk.injEq] at h;have xm:=h.1.trans hr;rw[Bool.and_eq_true] at xm;have hlt:off<cs.length:=by simpa using xm.1
  obtain⟨y,hy,hv⟩:=hvs.nth hlt;exact⟨y,sI hu ha (by rw[qP hb];simpa using hy),by rw[←h.2,V.sj xm.2];exact hv⟩
 ·split at h
  ·rename_i ks n hks hn;obtain⟨d,dh,z,hu,hi,ha,_⟩:=yB hks;simp only[Option.some.injEq,Prod.mk.injEq] at h;have hle:off+n≤cs.length:=Nat.le_of_ble_eq_true (h.1.trans hr);have hlen:cs'.size=cs.length:=by have:=hvs.1;simp at this;omega
   have hrun:=run_loadCells_list (P:=E.P) w ⟨b,off,none⟩ ((cs'.toList.drop off).take n) (by
    intro j v hv;rw[gb,qP hb];rw[List.getElem?_take] at hv;split at hv
    ·rw[List.getElem?_drop] at hv;simpa using hv
    ·cases hv)
   have hl:((cs'.toList.drop off).take n).length=n:=by simp;omega
   rw[hl] at hrun;refine⟨.agg ((cs'.toList.drop off).take n).toArray,by simp [loadVar,jA hu,ha,fh hn,hrun], ?_⟩;rw[←h.2];have hp:bd ((cs.drop off).take n):=(ho _ h.2.symm).elim (fun hrw c hc=>hone hrw c (List.mem_of_mem_drop (List.mem_of_mem_take hc))) id;exact .vH hp (by simpa using (hvs.drop off).take n)
  ·cases h
theorem eM.aaL {l:List V} {m:List Value} (h:eM ρ l m) (h1:bd l):∀v∈m,v.oneCell'=true:=by
 intro v hv;obtain⟨i,hi,rfl⟩:=List.getElem_of_mem hv;have hi':i<l.length:=by have:=h.1;omega
 exact(h.2 i l[i] m[i] (List.getElem?_eq_getElem hi') (List.getElem?_eq_getElem hi)).one (h1 _ (List.getElem_mem hi'))
theorem mv {e:TypeId} {cs vs:List V} {xs:List Value} {off b:Nat} (hc:fT ρ e cs true w.heap[b]?) (h1:eM ρ vs xs) (h2:bd vs) (hle:off+vs.length≤cs.length):∃w',(storeCells ⟨b,off,none⟩ xs).run E.P w=.ok () w'∧fT ρ e (bM cs off vs) true w'.heap[b]? ∧pf b w w':=by
 obtain⟨cs',fz,hb,hvs,hone,hfz⟩:=hc;have hlen:cs'.size=cs.length:=by have:=hvs.1;simp at this;omega
 have hxl:xs.length=vs.length:=h1.1.symm
 have hst:=run_storeCells_cells (P:=E.P) b off xs 0 w (by
  intro j hj
  rw[qP hb,Array.getElem?_eq_getElem (by omega)];rfl) (by
  intro j hj;rw[Lf hb];have:=hfz rfl;simp only[Bool.and_eq_false_iff,decide_eq_false_iff_not]
  omega) (h1.aaL h2)
 obtain⟨cs2,h3,h4,h5⟩:=rZ xs (off+0) hb;refine⟨_, ?_,⟨cs2,fz,h3, ?_,fun _=>mu h2 (hone rfl), ?_⟩,h5⟩
 ·simpa using hst
 ·rw[h4];exact pL h1 hvs
 ·intro _
  have hsz:cs2.size=cs'.size:=by
   have:=congrArg List.length h4;rw[o0] at this;simpa using this
  rw[hsz];exact hfz rfl
theorem wU {t e:TypeId} {cs:List V} {off b:Nat} {r:Bool} {v:V} {x:Value} {vs:List V} (hc:fT ρ e cs true w.heap[b]?) (hv:VR ρ v x) (h:hO E t v=some (r,vs)) (hr:r=true) (hle:off+vs.length≤cs.length):∃w',(storeVar t ⟨b,off,none⟩ x).run E.P w=.ok () w'∧fT ρ e (bM cs off vs) true w'.heap[b]? ∧pf b w w':=by
 obtain⟨h1,h2⟩:=iV hv h hr;have hn:=A0 h hr;have hxl:x.cells.size=vs.length:=by have:=h1.1;simp at this;omega
 obtain⟨w',h3,h4,h5⟩:=mv (E:=E) hc h1 h2 hle;exact⟨w',by simp [storeVar,fh hn,hxl,h3],h4,h5⟩
end
section
variable {E:kv} {H0:ag} {ρ0:dB} {w0:World} {ann:bP} {N:Nat} {ρ lam:dB} {S:St} {a:Act} {w:World}
theorem Nu {t d:Nat} {v:Value} (a:Act):(a.put (some d) v).tmps.getD t undef=if d=t∧d<a.tmps.size then v else a.tmps.getD t undef:=by
 simp only[Act.put,Array.getD_eq_getD_getElem?,Array.getElem?_setIfInBounds];by_cases h:d=t
 ·subst h;by_cases h2:d<a.tmps.size
  ·simp [h2]
  ·simp [h2]
 ·simp [h]
theorem SR.put (h:SR H0 ρ0 w0 ann N ρ lam S a w) {dst:Option Tmp} {x:T} {v:Value} (hx:TR ρ lam x v) (hok:K5 ann N dst x):SR H0 ρ0 w0 ann N ρ lam (gV dst x S) (a.put dst v) w:=by
 cases dst with
 |none=>exact h
 |some d=>
  obtain⟨h1,h2⟩:=hok d rfl;have hd:d<a.tmps.size:=by rw[h.size];simpa using h1
  refine⟨h.defers,by simp [Act.put,h.size], ?_, ?_,h.lo,h.ub,h.hr,h.bV⟩
  ·intro t y hy;rw[Nu];simp only[gV,St.setT,aW] at hy;by_cases ht:t=d
   ·simp only[ht,decide_true,cond_true,Option.some.injEq] at hy;subst hy;rw[if_pos ⟨ht.symm,hd⟩];exact hx
   ·simp only[ht,decide_false,cond_false] at hy;rw[if_neg (fun e=>ht e.1.symm)];exact h.tm t y hy
  ·intro t s off hy;simp only[gV,St.setT,aW] at hy;by_cases ht:t=d
   ·simp only[ht,decide_true,cond_true,Option.some.injEq] at hy;rw[ht];exact h2 s off hy
   ·simp only[ht,decide_false,cond_false] at hy;exact h.K9 t s off hy
theorem HR.only {b:Nat} {w':World} {H:ag} (h:HR ρ H w) (ho:pf b w w') (hb:¬iT H ρ b):HR ρ H w' where
 wR:=fun id o hid=>by
  obtain⟨b',h1,h2⟩:=h.wR id o hid;refine⟨b',h1, ?_⟩;rw[ho.ml b' (fun e=>hb (e▸⟨id,o,hid,h1⟩))];exact h2
 inj:=h.inj
 lt:=fun id b' hid=>by rw[ho.size];exact h.lt id b' hid
 gl:=h.gl
theorem SR.setL (h:SR H0 ρ0 w0 ann N ρ lam S a w) {s b:Nat} {L L':aO} {w':World} (hs:S.lo s=some L) (hl:lam s=some b) (ho:pf b w w') (hL:vK ρ L' w'.heap[b]?):SR H0 ρ0 w0 ann N ρ lam (S.setL s L') a w':=by
 obtain⟨b',hb',_,hlt,hge,Tx⟩:=h.lo s L hs;rw[hl] at hb';cases hb';refine⟨h.defers,h.size,h.tm,h.K9, ?_, ?_,h.hr.only ho Tx, ?_⟩
 ·intro s' M hM;simp only[St.setL,aW] at hM;by_cases he:s'=s
  ·simp only[he,decide_true,cond_true,Option.some.injEq] at hM;subst hM;exact⟨b,by rw[he];exact hl,hL,by rw[ho.size];exact hlt,hge,Tx⟩
  ·simp only[he,decide_false,cond_false] at hM;obtain⟨b2,h1,h2,h3,h4,h5⟩:=h.lo s' M hM;have hne:b2≠b:=fun e=>he (h.ub s' s M L b hM hs (e▸h1) hl)
   exact⟨b2,h1,by rw[ho.ml b2 hne];exact h2,by rw[ho.size];exact h3,h4,h5⟩
 ·intro s1 s2 L1 L2 b2 h1 h2 e1 e2
  have key:∀s3 L3,(S.setL s L').lo s3=some L3→∃M,S.lo s3=some M:=by
   intro s3 L3 h3;simp only[St.setL,aW] at h3;by_cases he:s3=s
   ·exact⟨L,he▸hs⟩
   ·simp only[he,decide_false,cond_false] at h3;exact⟨_,h3⟩
  obtain⟨M1,hM1⟩:=key _ _ h1;obtain⟨M2,hM2⟩:=key _ _ h2;exact h.ub s1 s2 M1 M2 b2 hM1 hM2 e1 e2
 ·exact⟨h.bV.le,fun b2 nf hno=>by rw[ho.ml b2 (by omega)];exact h.bV.frame b2 nf hno,h.bV.iT,h.bV.ox,by rw[ho.size];exact h.bV.size,
   ho.os.trans h.bV.os,ho.tape.trans h.bV.tape,ho.output.trans h.bV.output⟩
theorem fT.mono {ρ':dB} (h:ρ.le ρ') {e:TypeId} {cs:List V} {rw:Bool} {o:Option Go.Obj} (hc:fT ρ e cs rw o):fT ρ' e cs rw o:=by
 obtain⟨cs',fz,h1,h2,h3⟩:=hc;exact⟨cs',fz,h1,h2.mono h,h3⟩
theorem vK.mono {ρ':dB} (h:ρ.le ρ') {L:aO} {o:Option Go.Obj} (hc:vK ρ L o):vK ρ' L o:=by
 cases L with
 |cells e cs=>exact fT.mono h hc
 |dM s jl=>exact hc
theorem Fi.mono {ρ':dB} (h:ρ.le ρ') {L:Obj} {o:Option Go.Obj} (hc:Fi ρ L o):Fi ρ' L o:=by
 cases L with
 |cells e cs ro=>exact fT.mono h hc
 |map es clock=>
  obtain⟨es',h1,h2⟩:=hc;exact⟨es',h1,h2.mono h⟩
 |dM m bV seen tK=>
  obtain⟨m',h1,h2⟩:=hc;exact⟨m',h1,h2.mono h⟩
theorem TR.mono {ρ':dB} (h:ρ.le ρ') {x:T} {v:Value} (hx:TR ρ lam x v):TR ρ' lam x v:=by
 cases hx with
 |v h'=>exact .v (h'.mono h)
 |lp h'=>exact .lp h'
 |undef=>exact .undef
structure iy (o:Go.Obj) (w w':World):Prop where
 heap:w'.heap=w.heap.push o
 os:w'.os=w.os
 tape:w'.tape=w.tape
 output:w'.output=w.output
theorem iy.old {o:Go.Obj} {w w':World} (h:iy o w w') {b:Nat} (hb:b<w.heap.size):w'.heap[b]? =w.heap[b]? :=by
 rw[h.heap,Array.getElem?_push,if_neg (by omega)]
theorem iy.new {o:Go.Obj} {w w':World} (h:iy o w w'):w'.heap[w.heap.size]? =some o:=by
 rw[h.heap,Array.getElem?_push,if_pos rfl]
theorem iy.size {o:Go.Obj} {w w':World} (h:iy o w w'):w'.heap.size=w.heap.size+1:=by rw[h.heap];simp
theorem HR.Dn {o:Go.Obj} {w':World} {H:ag} (h:HR ρ H w) (hp:iy o w w'):HR ρ H w' where
 wR:=fun id x hid=>by
  obtain⟨b,h1,h2⟩:=h.wR id x hid;exact⟨b,h1,by rw[hp.old (h.lt id b h1).2];exact h2⟩
 inj:=h.inj
 lt:=fun id b hid=>⟨(h.lt id b hid).1,by rw[hp.size];have:=(h.lt id b hid).2;omega⟩
 gl:=h.gl
theorem lD.Dn {o:Go.Obj} {w':World} {H:ag} (h:lD H0 ρ0 w0 H ρ w) (hp:iy o w w'):lD H0 ρ0 w0 H ρ w' where
 le:=h.le
 frame:=fun b hb ho=>by rw[hp.old (by have:=h.size;omega)];exact h.frame b hb ho
 iT:=h.iT
 ox:=h.ox
 size:=by rw[hp.size];have:=h.size;omega
 os:=hp.os.trans h.os
 tape:=hp.tape.trans h.tape
 output:=hp.output.trans h.output
def ey (lam:dB) (d b:Nat):dB:=fun s=>if s=d then some b else lam s
theorem Jg {d t:Nat} {x:T} (h:(sx ann d S).tm t=some x):S.tm t=some x∧ab ann.aV t≠some d:=by
 simp only[sx] at h;split at h
 ·rename_i s hs;simp only[aW] at h;by_cases he:s=d
  ·simp [he] at h
  ·simp only[he,decide_false,cond_false] at h;exact⟨h,by rw[hs];simpa using he⟩
 ·rename_i hs;exact⟨h,by rw[hs];simp⟩
theorem SR.aaM (h:SR H0 ρ0 w0 ann N ρ lam S a w) {d:Nat} {L:aO} {o:Go.Obj} {w':World} (hp:iy o w w') (hL:vK ρ L (some o)):SR H0 ρ0 w0 ann N ρ (ey lam d w.heap.size) ((sx ann d S).setL d L) a w' where
 defers:=h.defers
 size:=h.size
 tm:=fun t x hx=>by
  obtain⟨h1,h2⟩:=Jg (S:=S) hx;have h3:=h.tm t x h1
  cases x with
  |v y=>generalize a.tmps.getD t undef=q at h3;cases h3 with|v h=>exact .v h
  |undef=>generalize a.tmps.getD t undef=q at h3;cases h3 with|undef=>exact .undef
  |lp s off=>
   have h4:=h.K9 t s off h1;generalize a.tmps.getD t undef=q at h3
   cases h3 with
   |lp hl=>
    have hne:¬s=d:=fun e=>h2 (by rw[←e];exact h4)
    exact .lp (by rw[ey,if_neg hne];exact hl)
 K9:=fun t s off hx=>h.K9 t s off (Jg (S:=S) hx).1
 lo:=fun s M hM=>by
  simp only[St.setL,sx,aW] at hM;by_cases he:s=d
  ·simp only[he,decide_true,cond_true,Option.some.injEq] at hM;subst hM;refine⟨w.heap.size,by rw[ey,if_pos he],by rw[hp.new];exact hL,by rw[hp.size];omega,h.bV.size, ?_⟩;rintro⟨id,x,h1,h2⟩;have:=(h.hr.lt id _ h2).2;omega
  ·simp only[he,decide_false,cond_false] at hM;obtain⟨b,h1,h2,h3,h4,h5⟩:=h.lo s M hM;exact⟨b,by rw[ey,if_neg he];exact h1,by rw[hp.old h3];exact h2,by rw[hp.size];omega,h4,h5⟩
 ub:=by
  intro s1 s2 L1 L2 b h1 h2 e1 e2
  have key:∀s M,((sx ann d S).setL d L).lo s=some M→(s=d)∨(s≠d∧S.lo s=some M):=by
   intro s M hM;simp only[St.setL,sx,aW] at hM;by_cases he:s=d
   ·exact .inl he
   ·simp only[he,decide_false,cond_false] at hM;exact .inr ⟨he,hM⟩
  rcases key _ _ h1 with r1|⟨n1,r1⟩<;>rcases key _ _ h2 with r2|⟨n2,r2⟩
  ·rw[r1,r2]
  ·obtain⟨b2,k1,_,k3,_⟩:=h.lo s2 L2 r2;rw[ey,if_neg n2,k1] at e2;rw[ey,if_pos r1] at e1;cases e1;cases e2;omega
  ·obtain⟨b2,k1,_,k3,_⟩:=h.lo s1 L1 r1;rw[ey,if_neg n1,k1] at e1;rw[ey,if_pos r2] at e2;cases e1;cases e2;omega
  ·rw[ey,if_neg n1] at e1;rw[ey,if_neg n2] at e2;exact h.ub _ _ _ _ _ r1 r2 e1 e2
 hr:=h.hr.Dn hp
 bV:=h.bV.Dn hp
theorem Lg {H:ag} (h:HR ρ H w):ρ H.next=none:=by
 cases hn:ρ H.next with
 |none=>rfl
 |some b=>have:=(h.lt _ _ hn).1;omega
theorem QZ {H:ag} (h:HR ρ H w) (b:Nat):ρ.le (ey ρ H.next b):=by
 intro id b' hid;rw[ey,if_neg]
 ·exact hid
 ·rintro rfl;rw[Lg h] at hid;cases hid
theorem gn {H:ag} {o o':Obj} {id:Nat} (h:(H.alloc o).get id=some o'):(id=H.next∧o'=o)∨(id≠H.next∧H.get id=some o'):=by
 simp only[ag.alloc,aW] at h;by_cases he:id=H.next
 ·simp only[he,decide_true,cond_true,Option.some.injEq] at h;exact .inl ⟨he,h.symm⟩
 ·simp only[he,decide_false,cond_false] at h;exact .inr ⟨he,h⟩
theorem SR.Dp (h:SR H0 ρ0 w0 ann N ρ lam S a w) {o:Go.Obj} {x:Obj} {w':World} (hp:iy o w w') (hx:Fi ρ x (some o)):SR H0 ρ0 w0 ann N (ey ρ S.hp.next w.heap.size) lam {S with hp:=S.hp.alloc x} a w':=by
 have hle:=QZ h.hr w.heap.size
 have old:∀{id b},id≠S.hp.next→ey ρ S.hp.next w.heap.size id=some b→ρ id=some b:=by
  intro id b hid h;rwa [ey,if_neg hid] at h
 have lv:∀b,iT (S.hp.alloc x) (ey ρ S.hp.next w.heap.size) b→b=w.heap.size∨iT S.hp ρ b:=by
  rintro b ⟨id,o',h1,h2⟩;rcases gn h1 with⟨rfl,rfl⟩|⟨hn,h1⟩
  ·rw[ey,if_pos rfl] at h2;exact .inl (Option.some.inj h2).symm
  ·exact .inr ⟨id,o',h1,old hn h2⟩
 have ow:∀b,ox (S.hp.alloc x) (ey ρ S.hp.next w.heap.size) b→b=w.heap.size∨ox S.hp ρ b:=by
  rintro b ⟨id,o',h1,hr,h2⟩;rcases gn h1 with⟨rfl,rfl⟩|⟨hn,h1⟩
  ·rw[ey,if_pos rfl] at h2;exact .inl (Option.some.inj h2).symm
  ·exact .inr ⟨id,o',h1,hr,old hn h2⟩
 refine⟨h.defers,h.size,fun t y hy=>(h.tm t y hy).mono hle,h.K9, ?_,h.ub,⟨?_, ?_, ?_,fun g hg=>hle _ _ (h.hr.gl g hg)⟩, ?_⟩
 ·intro s M hM;obtain⟨b,h1,h2,h3,h4,h5⟩:=h.lo s M hM;refine⟨b,h1,by rw[hp.old h3];exact h2.mono hle,by rw[hp.size];omega,h4,fun hl=> ?_⟩;rcases lv b hl with rfl|hl
  ·omega
  ·exact h5 hl
 ·intro id o' hid;rcases gn hid with⟨rfl,rfl⟩|⟨hn,hid⟩
  ·exact⟨w.heap.size,by rw[ey,if_pos rfl],by rw[hp.new];exact hx.mono hle⟩
  ·obtain⟨b,h1,h2⟩:=h.hr.wR id o' hid;exact⟨b,hle _ _ h1,by rw[hp.old (h.hr.lt id b h1).2];exact h2.mono hle⟩
 ·intro id id' o1 o2 b h1 h2 hr e1 e2;rcases gn h1 with⟨r1,_⟩|⟨n1,k1⟩<;>rcases gn h2 with⟨r2,_⟩|⟨n2,k2⟩
  ·rw[r1,r2]
  ·rw[ey,if_pos r1] at e1;have:=(h.hr.lt _ _ (old n2 e2)).2;cases e1;omega
  ·rw[ey,if_pos r2] at e2;have:=(h.hr.lt _ _ (old n1 e1)).2;cases e2;omega
  ·exact h.hr.inj id id' o1 o2 b k1 k2 hr (old n1 e1) (old n2 e2)
 ·intro id b hid;by_cases hn:id=S.hp.next
  ·rw[ey,if_pos hn] at hid;cases hid;exact⟨by simp [ag.alloc,hn],by rw[hp.size];omega⟩
  ·have:=h.hr.lt _ _ (old hn hid);exact⟨by simp [ag.alloc];omega,by rw[hp.size];omega⟩
 ·have hs:=h.bV.Dn hp;refine⟨hs.le.trans hle,hs.frame,fun b hb=> ?_,fun b hb=> ?_,hs.size,hs.os,hs.tape,hs.output⟩
  ·rcases lv b hb with rfl|hb
   ·exact .inr h.bV.size
   ·exact hs.iT b hb
  ·rcases ow b hb with rfl|hb
   ·exact .inr h.bV.size
   ·exact hs.ox b hb
theorem ug {H:ag} {o o':Obj} {i id:Nat} (h:(H.put i o).get id=some o'):(id=i∧o'=o)∨(id≠i∧H.get id=some o'):=by
 simp only[ag.put,aW] at h;by_cases he:id=i
 ·simp only[he,decide_true,cond_true,Option.some.injEq] at h;exact .inl ⟨he,h.symm⟩
 ·simp only[he,decide_false,cond_false] at h;exact .inr ⟨he,h⟩
theorem SR.Dq (h:SR H0 ρ0 w0 ann N ρ lam S a w) {id b:Nat} {x y:Obj} {w':World} (hid:S.hp.get id=some x) (hrw:x.rw =true) (hy:y.rw =true) (hb:ρ id=some b) (ho:pf b w w') (hx:Fi ρ y w'.heap[b]?):SR H0 ρ0 w0 ann N ρ lam {S with hp:=S.hp.put id y} a w':=by
 have lv:∀b,iT (S.hp.put id y) ρ b→iT S.hp ρ b:=by
  rintro b ⟨i,o',h1,h2⟩;rcases ug h1 with⟨rfl,rfl⟩|⟨hn,h1⟩
  ·exact⟨i,x,hid,h2⟩
  ·exact⟨i,o',h1,h2⟩
 have ow:∀b,ox (S.hp.put id y) ρ b→ox S.hp ρ b:=by
  rintro b ⟨i,o',h1,hr,h2⟩;rcases ug h1 with⟨rfl,rfl⟩|⟨hn,h1⟩
  ·exact⟨i,x,hid,hrw,h2⟩
  ·exact⟨i,o',h1,hr,h2⟩
 have hown:ox S.hp ρ b:=⟨id,x,hid,hrw,hb⟩;refine⟨h.defers,h.size,h.tm,h.K9, ?_,h.ub,⟨?_, ?_, ?_,h.hr.gl⟩, ?_⟩
 ·intro s M hM;obtain⟨b2,h1,h2,h3,h4,h5⟩:=h.lo s M hM;have hne:b2≠b:=fun e=>h5 (e▸⟨id,x,hid,hb⟩)
  exact⟨b2,h1,by rw[ho.ml b2 hne];exact h2,by rw[ho.size];exact h3,h4,fun hl=>h5 (lv b2 hl)⟩
 ·intro i o' hi;rcases ug hi with⟨rfl,rfl⟩|⟨hn,hi⟩
  ·exact⟨b,hb,hx⟩
  ·obtain⟨b2,h1,h2⟩:=h.hr.wR i o' hi;have hne:b2≠b:=fun e=>hn (h.hr.inj id i x o' b hid hi hrw hb (e▸h1)).symm
   exact⟨b2,h1,by rw[ho.ml b2 hne];exact h2⟩
 ·intro i i' o1 o2 b2 h1 h2 hr e1 e2;rcases ug h1 with⟨r1,_⟩|⟨n1,k1⟩<;>rcases ug h2 with⟨r2,_⟩|⟨n2,k2⟩
  ·rw[r1,r2]
  ·rw[r1] at e1⊢;exact h.hr.inj id i' x o2 b2 hid k2 hrw e1 e2
  ·rw[r2] at e2⊢;exact(h.hr.inj id i x o1 b2 hid k1 hrw e2 e1).symm
  ·exact h.hr.inj i i' o1 o2 b2 k1 k2 hr e1 e2
 ·intro i b2 hi;rw[ho.size];exact h.hr.lt i b2 hi
 ·refine⟨h.bV.le,fun b2 nf hno=> ?_,fun b2 nf=>h.bV.iT b2 (lv b2 nf),fun b2 nf=>h.bV.ox b2 (ow b2 nf),by rw[ho.size];exact h.bV.size,
   ho.os.trans h.bV.os,ho.tape.trans h.bV.tape,ho.output.trans h.bV.output⟩
  have hne:b2≠b:=by
   rintro rfl;rcases h.bV.ox b2 hown with h1|h1
   ·exact hno h1
   ·omega
  rw[ho.ml b2 hne];exact h.bV.frame b2 nf hno
theorem SR.call (h:SR H0 ρ0 w0 ann N ρ lam S a w) {H':ag} {ρ':dB} {w':World} (hs:lD S.hp ρ w H' ρ' w') (hr:HR ρ' H' w'):SR H0 ρ0 w0 ann N ρ' lam {S with hp:=H'} a w' where
 defers:=h.defers
 size:=h.size
 tm:=fun t y hy=>(h.tm t y hy).mono hs.le
 K9:=h.K9
 lo:=fun s M hM=>by
  obtain⟨b,h1,h2,h3,h4,h5⟩:=h.lo s M hM;have hno:¬ox S.hp ρ b:=fun⟨id,o,k1,_,k2⟩=>h5 ⟨id,o,k1,k2⟩
  refine⟨b,h1,by rw[hs.frame b h3 hno];exact h2.mono hs.le,by have:=hs.size;omega,h4,fun hl=> ?_⟩;rcases hs.iT b hl with h|h
  ·exact h5 h
  ·omega
 ub:=h.ub
 hr:=hr
 bV:=h.bV.trans hs
theorem SR.tU (h:SR H0 ρ0 w0 ann N ρ lam S a w) {s b:Nat} {e:TypeId} {cs:List V} (hs:S.lo s=some (.cells e cs)) (hb:lam s=some b):SR H0 ρ0 w0 ann N (ey ρ S.hp.next b) lam (pC ann s e cs S) a w:=by
 obtain⟨b',hb',hc,hlt,hge,Tx⟩:=h.lo s _ hs;rw[hb] at hb';cases hb'
 have hle:ρ.le (ey ρ S.hp.next b):=by
  intro id b2 hid;have hne:id≠S.hp.next:=by have:=(h.hr.lt id b2 hid).1;omega
  rw[ey,if_neg hne];exact hid
 have old:∀{id b2},id≠S.hp.next→ey ρ S.hp.next b id=some b2→ρ id=some b2:=by
  intro id b2 hn h2
  rwa [ey,if_neg hn] at h2
 have lv:∀b2,iT (S.hp.alloc (.cells e cs false)) (ey ρ S.hp.next b) b2→b2=b∨iT S.hp ρ b2:=by
  rintro b2 ⟨id,o',h1,h2⟩;rcases gn h1 with⟨rfl,rfl⟩|⟨hn,h1⟩
  ·rw[ey,if_pos rfl] at h2;exact .inl (Option.some.inj h2).symm
  ·exact .inr ⟨id,o',h1,old hn h2⟩
 have ow:∀b2,ox (S.hp.alloc (.cells e cs false)) (ey ρ S.hp.next b) b2→b2=b∨ox S.hp ρ b2:=by
  rintro b2 ⟨id,o',h1,hr,h2⟩;rcases gn h1 with⟨rfl,rfl⟩|⟨hn,h1⟩
  ·rw[ey,if_pos rfl] at h2;exact .inl (Option.some.inj h2).symm
  ·exact .inr ⟨id,o',h1,hr,old hn h2⟩
 have hlo:∀{t L},(pC ann s e cs S).lo t=some L→t≠s∧S.lo t=some L:=by
  intro t L ht;simp only[pC,aW] at ht;by_cases hts:t=s
  ·simp [hts] at ht
  ·simp only[hts,decide_false,cond_false] at ht;exact⟨hts,ht⟩
 have htm:∀{t x},(pC ann s e cs S).tm t=some x→S.tm t=some x:=by
  intro t x ht;simp only[pC,sx] at ht;split at ht
  ·rename_i s' hs';cases hq:Nat.beq s' s
   ·simpa [hq] using ht
   ·simp [hq] at ht
  ·exact ht
 refine⟨h.defers,h.size,fun t y hy=>(h.tm t y (htm hy)).mono hle,fun t s' off hy=>h.K9 t s' off (htm hy), ?_, ?_,⟨?_, ?_, ?_,fun g hg=>hle _ _ (h.hr.gl g hg)⟩, ?_⟩
 ·intro s' M hM;obtain⟨hne,hM⟩:=hlo hM;obtain⟨b2,h1,h2,h3,h4,h5⟩:=h.lo s' M hM;refine⟨b2,h1,h2.mono hle,h3,h4,fun hl=> ?_⟩;rcases lv b2 hl with rfl|hl
  ·exact hne (h.ub s' s M _ b2 hM hs h1 hb)
  ·exact h5 hl
 ·intro s1 s2 L1 L2 b2 h1 h2 e1 e2;exact h.ub s1 s2 L1 L2 b2 (hlo h1).2 (hlo h2).2 e1 e2
 ·intro id o' hid;rcases gn hid with⟨rfl,rfl⟩|⟨hn,hid⟩
  ·exact⟨b,by rw[ey,if_pos rfl],fT.mono hle hc⟩
  ·obtain⟨b2,h1,h2⟩:=h.hr.wR id o' hid;exact⟨b2,hle _ _ h1,h2.mono hle⟩
 ·intro id id' o1 o2 b2 h1 h2 hr e1 e2;rcases gn h1 with⟨r1,_⟩|⟨n1,k1⟩<;>rcases gn h2 with⟨r2,_⟩|⟨n2,k2⟩
  ·rw[r1,r2]
  ·rw[ey,if_pos r1] at e1;cases e1;exact(Tx ⟨id',o2,k2,old n2 e2⟩).elim
  ·rw[ey,if_pos r2] at e2;cases e2;exact(Tx ⟨id,o1,k1,old n1 e1⟩).elim
  ·exact h.hr.inj id id' o1 o2 b2 k1 k2 hr (old n1 e1) (old n2 e2)
 ·intro id b2 hid;by_cases hn:id=S.hp.next
  ·rw[ey,if_pos hn] at hid;cases hid;exact⟨by simp [pC,ag.alloc,hn],hlt⟩
  ·have:=h.hr.lt _ _ (old hn hid);exact⟨by simp [pC,ag.alloc];omega,this.2⟩
 ·have hq:=h.bV;refine⟨hq.le.trans hle,hq.frame,fun b2 nf=> ?_,fun b2 nf=> ?_,hq.size,hq.os,hq.tape,hq.output⟩
  ·rcases lv b2 nf with rfl|nf
   ·exact .inr hge
   ·exact hq.iT b2 nf
  ·rcases ow b2 nf with rfl|nf
   ·exact .inr hge
   ·exact hq.ox b2 nf
theorem mV:∀{l:List Operand} {S S':St} {ρ:dB} {vs:List V},SR H0 ρ0 w0 ann N ρ lam S a w→qJ ann l S=some (vs,S')→∃ρ',SR H0 ρ0 w0 ann N ρ' lam S' a w∧eM ρ' vs (l.map a.eval)∧ρ.le ρ'
 |[],S,S',ρ,vs,h,hl=>by
  simp only[qJ,Option.some.injEq,Prod.mk.injEq] at hl;obtain⟨rfl,rfl⟩:=hl;exact⟨ρ,h,.nil ρ,.refl ρ⟩
 |x::l,S,S',ρ,vs,h,hl=>by
  simp only[qJ] at hl;split at hl
  ·rename_i v hx;split at hl
   ·rename_i ws S2 h2;simp only[Option.some.injEq,Prod.mk.injEq] at hl;obtain⟨rfl,rfl⟩:=hl;obtain⟨ρ',k1,k2,k3⟩:=mV h h2;exact⟨ρ',k1,.cons ((h.ev.tv hx).mono k3) k2,k3⟩
   ·cases hl
  ·rename_i s hx;split at hl
   ·rename_i e cs hs;split at hl
    ·rename_i ws S2 h2;simp only[Option.some.injEq,Prod.mk.injEq] at hl;obtain⟨rfl,rfl⟩:=hl;obtain⟨b,hb,he⟩:=h.ev.lp hx
     have hle:ρ.le (ey ρ S.hp.next b):=by
      intro id b2 hid;have hne:id≠S.hp.next:=by have:=(h.hr.lt id b2 hid).1;omega
      rw[ey,if_neg hne];exact hid
     obtain⟨ρ',k1,k2,k3⟩:=mV (h.tU hs hb) h2;refine⟨ρ',k1,.cons ?_ k2,hle.trans k3⟩;rw[he];exact .aj (k3 _ _ (by rw[ey,if_pos rfl]))
    ·cases hl
   ·cases hl
  ·cases hl
theorem SR.drew (h:SR H0 ρ0 w0 ann N ρ lam S a w) (n:Nat):SR H0 ρ0 w0 ann N ρ lam S a {w with drawn:=n}:=
 ⟨h.defers,h.size,h.tm,h.K9,h.lo,h.ub,⟨h.hr.wR,h.hr.inj,h.hr.lt,h.hr.gl⟩,⟨h.bV.le,h.bV.frame,h.bV.iT,h.bV.ox,h.bV.size,h.bV.os,h.bV.tape,h.bV.output⟩⟩
end
def yJ (H:ag) (ρ:dB) (w:World) (K:V→ag→Prop) (e:Ending) (w':World):Prop:=
 ∃v v' H' ρ',e=.returned v'∧K v H'∧VR ρ' v v'∧HR ρ' H' w'∧lD H ρ w H' ρ' w'
def iD (E:kv) (f:FuncId) (args:List V) (H:ag) (K:V→ag→Prop):Prop:=
 ∀(ρ:dB) (w:World) (aS:Array Value),HR ρ H w→eM ρ args aS.toList→Calls E.P f aS w (yJ H ρ w K)
def jW (E:kv):Prop:=∀g x,E.ext g=some x→∀args H K,x.run args H K→∀(ρ:dB) (w:World) (aS:Array Value),HR ρ H w→eM ρ args aS.toList→
 (∃v v' w' H' ρ',(callFunc g aS).run E.P w=.ok (.value v') w'∧K v H'∧VR ρ' v v'∧HR ρ' H' w'∧lD H ρ w H' ρ' w')∨
 ((callFunc g aS).run E.P w=.ok (.enter g aS) w∧Calls E.P g aS w (yJ H ρ w K))
section
variable {E:kv} {H0:ag} {ρ0:dB} {w0:World} {ann:bP} {N:Nat} {ρ lam:dB} {S:St} {a:Act} {w:World}
theorem vN {t:TypeId} {i:TI} {z:V} (h:E.ti t=some i) (hz:i.zero=some z) (ρ:dB) (w:World):∃z',(zeroValue t).run E.P w=.ok z' w∧eM ρ z.cells z'.cells.toList∧bd z.cells:=by
 obtain⟨dh,dt,hi,hu,hd,_,_,KS⟩:=jN h;rw[hz] at KS;obtain⟨z',EG,yd⟩:=Option.bind_eq_some_iff.1 KS;exact⟨z',by simp [zeroValue,typeInfo,hi,EG],(iC yd).cells (fun e=>by have:=kO yd;rw[e] at this;have:=this .cw (by simp [V.cells]);cases this),kO yd⟩
theorem iE {e:TypeId} {cs:List V} {cs':Array Value} {rw:Bool} (h:eM ρ cs cs'.toList) (h1:bd cs):fT ρ e cs rw (some (.cells cs' e)):=
 ⟨cs',(0,0),rfl,h,fun _=>h1,fun _=>.inl rfl⟩
theorem HJ {o:Oper} {ev:Ev} {e:Operand→Value} (cX:pK ρ lam ev e) {r:Bool} {L:aO} (h:iO E o.op ev=some (r,L)) (hr:r=true):∃(x:Go.Obj) (w':World),(execOp e o).run E.P w=.ok (.value (.pointer (some ⟨w.heap.size,0,none⟩))) w'∧iy x w w'∧vK ρ L (some x):=by
 obtain⟨dst,op,type,jl,after,guard⟩:=o
 cases op with
 |alloc t=>
  simp only[iO] at h;split at h
  ·rename_i i hi;split at h
   ·rename_i z hz;simp only[Option.some.injEq,Prod.mk.injEq] at h;obtain⟨_,rfl⟩:=h;obtain⟨z',h1,h2,h3⟩:=vN hi hz ρ w;refine⟨.cells z'.cells t,{w with heap:=w.heap.push (.cells z'.cells t)}, ?_,⟨rfl,rfl,rfl,rfl⟩,iE h2 h3⟩;simp [execOp,Instr.alloc,h1,newVar,newRow]
   ·cases h
  ·cases h
 |box t x=>
  simp only[iO] at h;split at h
  ·rename_i v hv;split at h
   ·rename_i r' vs hvs;simp only[Option.some.injEq,Prod.mk.injEq] at h;obtain⟨rfl,rfl⟩:=h;obtain⟨h2,h3⟩:=iV (cX.v hv) hvs hr;refine⟨.cells (e x).cells t,{w with heap:=w.heap.push (.cells (e x).cells t)}, ?_,⟨rfl,rfl,rfl,rfl⟩,iE h2 h3⟩;simp [execOp,Instr.box,newVar,newRow]
   ·cases h
  ·cases h
 |range t x=>
  simp only[iO] at h;split at h
  ·rename_i s hk hx;obtain⟨dt,hu,hd⟩:=bK hk;simp only[Option.some.injEq,Prod.mk.injEq] at h;obtain⟨_,rfl⟩:=h;cases dt<;>simp [bo,cM] at hd
   refine⟨.stringIter s 0,{w with heap:=w.heap.push (.stringIter s 0)}, ?_,⟨rfl,rfl,rfl,rfl⟩,rfl⟩;simp [execOp,Instr.range,run_underlying hu,(cX.v hx).vI]
  ·cases h
 |_=>simp [iO] at h
theorem Fs {o:Oper} {ev:Ev} {e:Operand→Value} (cX:pK ρ lam ev e) {s:Nat} {L:Option aO} {d:fR T} (h:gR E o.op ev s L=some d) (hr:d.rq=true) (hL:∀M,L=some M→∃b,lam s=some b∧vK ρ M w.heap[b]?):∃v,(execOp e o).run E.P w=.ok (.value v) w∧TR ρ lam (if d.c=true then d.x else d.y) v:=by
 obtain⟨dst,op,type,jl,after,guard⟩:=o
 cases op with
 |load t a=>
  simp only[gR] at h;split at h
  ·rename_i s' off el cs ha;obtain⟨b,hb,hc⟩:=hL _ rfl;by_cases hs:s=s'
   ·subst hs;simp only[Nat.beq_refl,cond_true] at h;unfold Bu at h;split at h
    ·rename_i r v hv;simp only[Option.some.injEq] at h;subst h;obtain⟨b',hb',he⟩:=cX.lp ha;rw[hb] at hb';cases hb';obtain⟨v',h1,h2⟩:=oB hc hv hr (fun _ _=>.inl rfl);exact⟨v',by simp [execOp,Instr.loadAt,he,Instr.sureAddr,h1],.v h2⟩
    ·cases h
   ·rw[show Nat.beq s s'=false by rw[aW];simpa using hs] at h;simp at h
  ·cases h
 |_=>simp [gR] at h
theorem wV {w:World} {b:Nat} {s:ByteArray} {p:Nat} (h:w.heap[b]? =some (.stringIter s p)):(getObj b).run E.P w=.ok (.stringIter s p) w:=by
 simp [getObj,Sem.run,h]
theorem Fu {w:World} {b:Nat} {s:ByteArray} {p q:Nat} (h:w.heap[b]? =some (.stringIter s p)):(setObj b (.stringIter s q)).run E.P w=.ok () {w with heap:=w.heap.setIfInBounds b (.stringIter s q)}:=by
 simp [setObj,Sem.run,h]
theorem A7 {t:TypeId} {cs:List V} (h:(ln E t cs).1=true):(ln E t cs).2=cs:=by
 unfold ln at h⊢;split
 ·rename_i ks hk;rw[hk] at h;exact k5 h rfl
 ·rfl
theorem Dr {o:Oper} {ev:Ev} {e:Operand→Value} (cX:pK ρ lam ev e) {s:Nat} {L:Option aO} {d:fR (aO×T)} (h:dZ E o.op ev s L=some d) (hr:d.rq=true) (hL:∀M,L=some M→∃b,lam s=some b∧vK ρ M w.heap[b]?):∃M b w' v,L=some M∧lam s=some b∧pf b w w'∧vK ρ (if d.c=true then d.x else d.y).1 w'.heap[b]? ∧TR ρ lam (if d.c=true then d.x else d.y).2 v∧((execOp e o).run E.P w=.ok (.value v) w'∨(v=undef∧(execOp e o).run E.P w=.ok .skip w')):=by
 obtain⟨dst,op,type,jl,after,guard⟩:=o
 cases op with
 |store t a x=>
  simp only[dZ] at h;split at h
  ·rename_i s' off v el cs ha hx;obtain⟨b,hb,hc⟩:=hL _ rfl;split at h
   ·rename_i r vs hvs;by_cases hs:s=s'
    ·subst hs;simp only[Nat.beq_refl,cond_true,Option.some.injEq] at h;subst h;obtain⟨b',hb',he⟩:=cX.lp ha;rw[hb] at hb';cases hb';simp only[fR.one,Bool.and_eq_true] at hr;obtain⟨w',h1,h2,h3⟩:=wU hc (cX.v hx) hvs hr.1.1 (Nat.le_of_ble_eq_true hr.1.2);rw[A7 hr.2];exact⟨_,b,w',undef,rfl,hb,h3,h2,.undef,.inr ⟨rfl,by simp [execOp,Instr.storeAt,he,Instr.sureAddr,h1]⟩⟩
    ·rw[show Nat.beq s s'=false by rw[aW];simpa using hs] at h;simp at h
   ·cases h
  ·cases h
 |next it isStr=>
  cases isStr with
  |false=>simp [dZ] at h
  |true=>
   simp only[dZ] at h;split at h
   ·rename_i s' cH p ha;obtain⟨b,hb,hc⟩:=hL _ rfl;by_cases hs:s=s'
    ·subst hs;simp only[Nat.beq_refl,cond_true,Option.some.injEq] at h;subst h;obtain⟨b',hb',he⟩:=cX.lp ha;rw[hb] at hb';cases hb';have hc:w.heap[b]? =some (.stringIter cH p):=hc
     have hlt:b<w.heap.size:=by
      rcases Nat.lt_or_ge b w.heap.size with h|h
      ·exact h
      ·rw[Array.getElem?_eq_none h] at hc;cases hc
     by_cases hp:p<cH.size
     ·have AR:Nat.blt p cH.size=true:=by simpa using hp
      refine⟨_,b,{w with heap:=w.heap.setIfInBounds b (.stringIter cH (p+(Utf8.decode cH p).2))},
       .tuple #[.bool true,.int .i64 (p:Int),.int .i32 ((Utf8.decode cH p).1:Int)],rfl,hb,⟨?_,by simp,rfl,rfl,rfl⟩, ?_, ?_,.inl ?_⟩
      ·intro b' hne;simp [Array.getElem?_setIfInBounds,Ne.symm hne]
      ·simp [vK,AR,hlt]
      ·simp only[AR,if_true];exact .v (.gE (.cons (.bool _) (.cons (.int _ _) (.cons (.int _ _) (.nil ρ)))))
      ·simp only[execOp,he,Instr.next,Sem.run_bind,wV hc,Result.andThen_ok,hp,if_true];rw[Fu hc];simp [goInt]
     ·have AR:Nat.blt p cH.size=false:=by
       cases hh:Nat.blt p cH.size
       ·rfl
       ·exact(hp (by simpa using hh)).elim
      refine⟨_,b,w,.tuple #[.bool false],rfl,hb,.refl b w, ?_, ?_,.inl ?_⟩
      ·simpa [vK,AR] using hc
      ·simp only[AR,Bool.false_eq_true,if_false];exact .v (.gE (.cons (.bool _) (.nil ρ)))
      ·simp only[execOp,he,Instr.next,Sem.run_bind,wV hc,Result.andThen_ok,hp,if_false];simp
    ·rw[show Nat.beq s s'=false by rw[aW];simpa using hs] at h;simp at h
   ·cases h
 |_=>simp [dZ] at h
end
section
variable {E:kv} {H0:ag} {ρ0:dB} {w0:World} {ann:bP} {N:Nat} {ρ lam:dB} {S:St} {a:Act} {w:World}
theorem yK {H:ag} (hr:HR ρ H w) {id off n:Nat} (h:H.inb id off n=true):∃e cs ro,H.get id=some (.cells e cs ro)∧off+n≤cs.length∧∃b,ρ id=some b∧fT ρ e cs (!ro) w.heap[b]? :=by
 unfold ag.inb at h;split at h
 ·rename_i e cs ro hg;obtain⟨b,h1,h2⟩:=hr.wR id _ hg;exact⟨e,cs,ro,hg,Nat.le_of_ble_eq_true h,b,h1,h2⟩
 ·cases h
theorem gg:∀(n:Nat) (l:List V),(hT n l).length=n*l.length
 |0,l=>by simp [hT]
 |n+1,l=>by simp [hT,gg n l,Nat.add_mul];omega
theorem gF {l:List V} (h:bd l):∀n:Nat,bd (hT n l)
 |0=>fun v hv=>by simp [hT] at hv
 |n+1=>fun v hv=>by
  simp only[hT,List.mem_append] at hv;exact hv.elim (h v) (gF h n v)
theorem yL {l:List V} (hl:0<l.length):∀(n i:Nat),i<n*l.length→(hT n l)[i]? =l[i % l.length]?
 |0,i,h=>by simp at h
 |n+1,i,h=>by
  by_cases hi:i<l.length
  ·rw[hT,List.getElem?_append_left hi,Nat.mod_eq_of_lt hi]
  ·have hi:l.length≤i:=by omega
   rw[hT,List.getElem?_append_right hi,yL hl n (i-l.length) (by rw[Nat.add_mul] at h;omega), ←Nat.mod_eq_sub_mod hi]
theorem Fv {z:List V} {z':Array Value} {n k:Nat} (hz:eM ρ z z'.toList) (hn:z.length=n) (hp:0<n):eM ρ (hT k z) ((Array.range (k*n)).map (z'[· % z'.size]!)).toList:=by
 have hs:z'.size=n:=by have:=hz.1;simp at this;omega
 refine⟨by simp [gg,hn], ?_⟩;intro i x y hx hy
 have hi:i<k*n:=by
  rcases Nat.lt_or_ge i (k*n) with h|h
  ·exact h
  ·rw[List.getElem?_eq_none (by rw[gg,hn];exact h)] at hx;cases hx
 rw[yL (by omega) k i (by rw[hn];exact hi),hn] at hx;have hm:i % n<n:=Nat.mod_lt _ hp;refine hz.2 (i % n) x y hx ?_;have hy':z'[i % z'.size]! =y:=by simpa [hi] using hy
 rw[hs,getElem!_pos z' (i % n) (by omega)] at hy';rw[←hy',Array.getElem?_toList,Array.getElem?_eq_getElem (by omega)]
theorem sJ:∀{l:List V},vE l=true↔bd l
 |[]=>by simp [vE,bd]
 |v::l=>by
  rw[vE,Bool.and_eq_true,sJ];simp [bd]
theorem bd.append {l m:List V} (h:bd l) (k:bd m):bd (l++m):=by
 intro v hv;rcases List.mem_append.1 hv with hv|hv
 ·exact h v hv
 ·exact k v hv
theorem uh (s:ByteArray):bd (eX s):=by
 intro v hv;simp only[eX,List.mem_map] at hv;obtain⟨b,_,rfl⟩:=hv;rfl
theorem ui (ρ:dB) (s:ByteArray):eM ρ (eX s) (s.data.map fun b=>Value.int .u8 b.toNat).toList:=by
 refine⟨by simp [eX], ?_⟩;intro i x y hx hy;simp only[eX,List.getElem?_map,Array.toList_map,Option.map_eq_some_iff] at hx hy;obtain⟨b,hb,rfl⟩:=hx;obtain⟨b',hb',rfl⟩:=hy;rw[hb] at hb';cases hb';exact .int _ _
theorem Ds (s:ByteArray):(eX s).length=s.size:=by
 unfold eX;rw[List.length_map];rfl
theorem Q0 {H:ag} {id off n:Nat} (h:H.inb id off n=true):(H.sub id off n).length=n:=by
 unfold ag.inb at h;split at h
 ·rename_i e cs ro hg;have:=Nat.le_of_ble_eq_true h;simp [ag.sub,ag.cs,hg];omega
 ·cases h
theorem xp {H:ag} (hr:HR ρ H w) {id off n b:Nat} (hb:ρ id=some b) (h:H.inb id off n=true):∃xs,(loadCells ⟨b,off,none⟩ n).run E.P w=.ok xs w∧eM ρ (H.sub id off n) xs.toList:=by
 obtain⟨e,cs,ro,hg,hle,b',hb',cs',fz,hcell,hvs,_,_⟩:=yK hr h;rw[hb] at hb';cases hb';have hsub:H.sub id off n=(cs.drop off).take n:=by simp [ag.sub,ag.cs,hg]
 have hlen:cs'.size=cs.length:=by have:=hvs.1;simp at this;omega
 have hrun:=run_loadCells_list (P:=E.P) w ⟨b,off,none⟩ ((cs'.toList.drop off).take n) (by
  intro j v hv;rw[gb,qP hcell];rw[List.getElem?_take] at hv;split at hv
  ·rw[List.getElem?_drop] at hv;simpa using hv
  ·cases hv)
 have hl:((cs'.toList.drop off).take n).length=n:=by simp;omega
 rw[hl] at hrun;exact⟨_,hrun,by rw[hsub];simpa using (hvs.drop off).take n⟩
theorem xq {n:Nat} {x:Value} {m:Nat} (hx:Builtin.lenOf x=pure m):(Builtin.firstCells n 0 x).run E.P w=.ok #[] w:=by
 cases x with
 |string s=>simp [Builtin.firstCells]
 |slice p l c=>cases p<;>simp [Builtin.firstCells,loadCells,loadCellsFrom]
 |_=>exact absurd hx (by simp [Builtin.lenOf,stuck])
theorem vO {H:ag} (hr:HR ρ H w) {x:V} {x':Value} (hx:VR ρ x x') {n m:Nat} {ok:Nat→Bool} {cs:Nat→List V} (hs:lq H n x=some (m,ok,cs)):Builtin.lenOf x'=pure m∧∀k,k≤m→(k=0∨ok k=true)→∃xs,(Builtin.firstCells n k x').run E.P w=.ok xs w∧eM ρ (cs k) xs.toList∧bd (cs k)∧(cs k).length=k*n:=by
 cases x with
 |slice p len cap=>
  simp only[lq,Option.some.injEq,Prod.mk.injEq] at hs;obtain⟨rfl,rfl,rfl⟩:=hs;have hl:Builtin.lenOf x'=pure len:=by cases hx<;>rfl
  refine⟨hl,fun k hk hok=> ?_⟩;by_cases h0:k=0
  ·subst h0;exact⟨#[],xq hl,by simpa using eM.nil ρ,fun v hv=>by simp at hv,by simp⟩
  ·have hz:Nat.beq k 0=false:=by rw[aW];simp [h0]
   have hok:=hok.resolve_left h0;simp only[pB,hz,Bool.false_or,Bool.and_eq_true] at hok;obtain⟨hp,hi,ho⟩:=hok;simp only[hz,cond_false]
   cases p with
   |none=>cases hp
   |some q=>
    obtain⟨id,off⟩:=q;rcases hx.ff with⟨b,hb,rfl⟩|⟨h1,_,_⟩
    ·obtain⟨xs,h1,h2⟩:=xp (E:=E) hr hb hi;exact⟨xs,h1,h2,sJ.1 ho,Q0 hi⟩
    ·omega
 |cH s=>
  simp only[lq,Option.some.injEq,Prod.mk.injEq] at hs;obtain⟨rfl,rfl,rfl⟩:=hs;cases hx;refine⟨rfl,fun k hk hok=> ?_⟩
  have acx:((s.extract 0 k).data.map fun b=>Value.int .u8 b.toNat).toList=((s.data.map fun b=>Value.int .u8 b.toNat).toList).take k:=by
   simp [ByteArray.data_extract,List.map_take]
  refine⟨_,rfl, ?_,fun v hv=>uh s v (List.mem_of_mem_take hv), ?_⟩
  ·rw[acx];exact(ui ρ s).take k
  ·rcases hok with rfl|hok
   ·simp
   ·have:n=1:=Nat.eq_of_beq_eq_true hok;subst this;simp [Ds];omega
 |_=>simp [lq] at hs
theorem qQ {t el n cL:Nat} {z:List V} (h:fI E t=some (el,n,cL,z)):∃dh z',E.P.underlying t=some (.slice el)∧E.P.info? el=some dh∧
 dh.zero=some z'∧dh.size=n∧dh.bytes=cL∧z.length=n∧0<n∧z'.cells.size=n∧bd z∧∀ρ,eM ρ z z'.cells.toList:=by
 unfold fI at h;split at h
 ·rename_i ti ni;obtain⟨ds,rI,hds⟩:=dG ni;split at h
  ·rename_i e hsh;rw[hsh] at hds;cases ix hds;split at h
   ·rename_i ei hei;obtain⟨dh,dt,hi,hu,hd,hsz,hby,KS⟩:=jN hei;split at h
    ·rename_i zv hz
     cases hb:(Nat.beq zv.cells.length ei.size&&sw ei.size) with
     |false=>simp [hb] at h
     |true=>
      simp only[hb,cond_true,Option.some.injEq,Prod.mk.injEq] at h;obtain⟨rfl,rfl,rfl,rfl⟩:=h;rw[Bool.and_eq_true] at hb;have hn:zv.cells.length=ei.size:=Nat.eq_of_beq_eq_true hb.1
      have hp:0<ei.size:=by
       have:=hb.2
       cases h:ei.size with
       |zero=>rw[h] at this;cases this
       |succ n=>omega
      rw[hz] at KS;obtain⟨z',EG,yd⟩:=Option.bind_eq_some_iff.1 KS;have MH:∀ρ,eM ρ zv.cells z'.cells.toList:=fun ρ=>(iC yd).cells (fun e=>by have:=kO yd;rw[e] at this;have:=this .cw (by simp [V.cells]);cases this)
      refine⟨dh,z',rI,hi,EG,hsz,hby,hn,hp, ?_,kO yd,MH⟩;have:=(MH (fun _=>none)).1;simp at this;omega
    ·cases h
   ·cases h
  ·cases h
 ·cases h
theorem mw {z:List V} {z':Array Value} {n:Nat} (hz:eM ρ z z'.toList) (hn:z.length=n) (hp:0<n) (k:Nat):eM ρ (hT k z) (Builtin.zeroCells z' k).toList:=by
 have hs:z'.size=n:=by have:=hz.1;simp at this;omega
 unfold Builtin.zeroCells;rw[hs];simpa [hs] using Fv hz hn hp (k:=k)
theorem pM (a:Addr):(storeCells a []).run E.P w=.ok () w:=by simp [storeCells]
theorem Q1 {u:TypeId} (h:iQ (bh E u)=true):∃d,E.P.underlying u=some d∧(d=.string∨∃e,d=.slice e):=by
 cases hk:bh E u with
 |none=>rw[hk] at h;cases h
 |some k=>
  obtain⟨d,hu,hd⟩:=bK hk;refine⟨d,hu, ?_⟩;rw[hk] at h;cases d<;>simp [bo,cM] at hd<;>first|(exact .inl rfl)|(exact .inr ⟨_,rfl⟩)|(subst hd;cases h)
theorem A8 {t u el ty:TypeId} {du:TypeDesc} {dh:TypeInfo} (kX:E.P.underlying t=some (.slice el)) (EX:E.P.underlying u=some du) (QH:du=.string∨∃e,du=.slice e) (hi:E.P.info? el=some dh) {aV:Option Addr} {l cp m:Nat} {x':Value} (hlen:Builtin.lenOf x'=pure m) (hroom:l+m≤cp) {xs:Array Value} (hf:(Builtin.firstCells dh.size m x').run E.P w=.ok xs w) {w':World} (hst:(match aV with|some a=>storeCells (a.add (l*dh.size)) xs.toList|none=>pure ()).run E.P w=.ok () w'):(Builtin.append_ #[t,u] ty #[.slice aV l cp,x']).run E.P w=.ok (.slice aV (l+m) cp) w':=by
 cases aV with
 |none=>
  simp at hst;subst hst;rcases QH with rfl|⟨e,rfl⟩<;>simp [Builtin.append_,run_underlying kX,run_underlying EX,sizeOf,typeInfo,hi,hlen,hroom,hf]
 |some ad=>
  rcases QH with rfl|⟨e,rfl⟩<;>simp [Builtin.append_,run_underlying kX,run_underlying EX,sizeOf,typeInfo,hi,hlen,hroom,hf,hst]
theorem yM {t u el ty:TypeId} {du:TypeDesc} {dh:TypeInfo} {z':Value} (kX:E.P.underlying t=some (.slice el)) (EX:E.P.underlying u=some du) (QH:du=.string∨∃e,du=.slice e) (hi:E.P.info? el=some dh) (hz:dh.zero=some z') {aV:Option Addr} {l cp m:Nat} {x':Value} (hlen:Builtin.lenOf x'=pure m) (hroom:¬l+m≤cp) (ig:(l+m)*(dh.bytes+1)≤70368744177664) {os xs:Array Value} (hfo:(Builtin.firstCells dh.size l (.slice aV l cp)).run E.P w.drew=.ok os w.drew) (hf:(Builtin.firstCells dh.size m x').run E.P w.drew=.ok xs w.drew):(Builtin.append_ #[t,u] ty #[.slice aV l cp,x']).run E.P w=.ok (.slice (some ⟨w.heap.size,0,none⟩) (l+m) (grownCap w (l+m) cp el)) (w.drew.alloc (.cells (os++xs++Builtin.zeroCells z'.cells (grownCap w (l+m) cp el-(l+m))) el)):=by
 have h1:(l+m)*dh.bytes≤70368744177664:=Nat.le_trans (Nat.mul_le_mul_left _ (by omega)) ig;have h2:l+m≤70368744177664:=Nat.le_trans (Nat.le_mul_of_pos_right _ (by omega)) ig;have h63':¬(9223372036854775807<((l:Int)+(m:Int))):=by omega
 have hg:=growslice_fits (need:=l+m) (old:=cp) (bytes:=dh.bytes) (by omega) (by omega);have MI:¬(281474976710656<Builtin.nextslicecap (l+m) cp*dh.bytes):=by omega
 rcases QH with rfl|⟨e,rfl⟩<;>simp [Builtin.append_,run_underlying kX,run_underlying EX,sizeOf,typeInfo,zeroValue,hi,hz,hlen,hroom,h63',MI,Question.forced,hf,hfo,newRow,grownCap]
theorem yN {t u el ty:TypeId} {dh:TypeInfo} {z':Value} (kX:E.P.underlying t=some (.slice el)) (EX:E.P.underlying u=some (.int .i64)) (hi:E.P.info? el=some dh) (hz:dh.zero=some z') (hpos:0<dh.size) {aV:Option Addr} {l cp:Nat} {m:Int} (h0:0≤m) (hb:m*(dh.bytes+1)≤70368744177664) (hroom:l+m.toNat≤cp) {w':World} (hst:(match aV with|some a=>storeCells (a.add (l*dh.size)) (Builtin.zeroCells z'.cells m.toNat).toList|none=>pure ()).run E.P w=.ok () w'):(Builtin.append_ #[t,u] ty #[.slice aV l cp,.int .i64 m]).run E.P w=.ok (.slice aV (l+m.toNat) cp) w':=by
 have Ty:m*1≤m*(dh.bytes+1):=Int.mul_le_mul_of_nonneg_left (by omega) h0;have hm2:m*dh.bytes≤m*(dh.bytes+1):=Int.mul_le_mul_of_nonneg_left (by omega) h0;have hw1:IntKind.i64.wrap m=m:=IntWalk.i64_in _ ⟨by omega,by omega⟩;have e1:¬(281474976710656<m*(dh.bytes:Int)):=by omega
 have e3:¬m<0:=by omega
 by_cases hn:m.toNat*dh.size=0
 ·have hm0:m.toNat=0:=by
   rcases Nat.mul_eq_zero.1 hn with h|h
   ·exact h
   ·omega
  have MG:Builtin.zeroCells z'.cells 0= #[]:=by simp [Builtin.zeroCells]
  rw[hm0,MG] at hst
  cases aV with
  |none=>
   simp at hst;subst hst;simp [Builtin.append_,run_underlying kX,run_underlying EX,sizeOf,typeInfo,zeroValue,hi,hz,hw1,e1,e3,hm0,hroom,asInt,asIntOf];omega
  |some ad=>
   simp at hst;simp [Builtin.append_,run_underlying kX,run_underlying EX,sizeOf,typeInfo,zeroValue,hi,hz,hw1,e1,e3,hm0,hroom,asInt,asIntOf,hst];omega
 ·cases aV with
  |none=>
   simp at hst;subst hst;simp [Builtin.append_,run_underlying kX,run_underlying EX,sizeOf,typeInfo,zeroValue,hi,hz,hw1,e1,e3,hn,hroom,asInt,asIntOf]
  |some ad=>
   simp [Builtin.append_,run_underlying kX,run_underlying EX,sizeOf,typeInfo,zeroValue,hi,hz,hw1,e1,e3,hn,hroom,asInt,asIntOf,hst]
theorem xr {t u el ty:TypeId} {dh:TypeInfo} {z':Value} (kX:E.P.underlying t=some (.slice el)) (EX:E.P.underlying u=some (.int .i64)) (hi:E.P.info? el=some dh) (hz:dh.zero=some z') (hpos:0<dh.size) {aV:Option Addr} {l cp:Nat} {m:Int} (h0:0≤m) (hb:m*(dh.bytes+1)≤70368744177664) (hroom:¬l+m.toNat≤cp) (ig:(l+m.toNat)*(dh.bytes+1)≤70368744177664) {os:Array Value} (hfo:(Builtin.firstCells dh.size l (.slice aV l cp)).run E.P w.drew=.ok os w.drew):(Builtin.append_ #[t,u] ty #[.slice aV l cp,.int .i64 m]).run E.P w=.ok (.slice (some ⟨w.heap.size,0,none⟩) (l+m.toNat) (grownCap w (l+m.toNat) cp el)) (w.drew.alloc (.cells (os++Builtin.zeroCells z'.cells m.toNat++Builtin.zeroCells z'.cells (grownCap w (l+m.toNat) cp el-(l+m.toNat))) el)):=by
 have Ty:m*1≤m*(dh.bytes+1):=Int.mul_le_mul_of_nonneg_left (by omega) h0;have hm2:m*dh.bytes≤m*(dh.bytes+1):=Int.mul_le_mul_of_nonneg_left (by omega) h0;have hw1:IntKind.i64.wrap m=m:=IntWalk.i64_in _ ⟨by omega,by omega⟩;have e1:¬(281474976710656<m*(dh.bytes:Int)):=by omega
 have e3:¬m<0:=by omega
 have h1:(l+m.toNat)*dh.bytes≤70368744177664:=Nat.le_trans (Nat.mul_le_mul_left _ (by omega)) ig;have h2:l+m.toNat≤70368744177664:=Nat.le_trans (Nat.le_mul_of_pos_right _ (by omega)) ig;have h63':¬(9223372036854775807<((l:Int)+(m.toNat:Int))):=by omega
 have h63:¬(9223372036854775807<((l:Int)+max m 0)):=by omega
 have hg:=growslice_fits (need:=l+m.toNat) (old:=cp) (bytes:=dh.bytes) (by omega) (by omega);have MI:¬(281474976710656<Builtin.nextslicecap (l+m.toNat) cp*dh.bytes):=by omega
 by_cases hn:m.toNat*dh.size=0
 ·have hm0:m.toNat=0:=by
   rcases Nat.mul_eq_zero.1 hn with h|h
   ·exact h
   ·omega
  have MG:Builtin.zeroCells z'.cells 0= #[]:=by simp [Builtin.zeroCells]
  rw[hm0] at hroom h63' MI⊢;have acy:m=0:=by omega
  subst acy;have Wf:¬l≤cp:=by simpa using hroom
  have acz:¬(9223372036854775807:Int)<(l:Int):=by simpa using h63'
  have acA:¬(281474976710656<Builtin.nextslicecap l cp*dh.bytes):=by simpa using MI
  simp [Builtin.append_,Wf,acz,acA,run_underlying kX,run_underlying EX,sizeOf,typeInfo,zeroValue,hi,hz,hw1,hroom,h63',MI,Question.forced,hfo,newRow,grownCap,asInt,asIntOf,MG]
 ·simp [Builtin.append_,run_underlying kX,run_underlying EX,sizeOf,typeInfo,zeroValue,hi,hz,hw1,e1,e3,hn,hroom,h63',h63,MI,Question.forced,hfo,newRow,grownCap,asInt,asIntOf]
theorem TS {x:Value} {k:IntKind} {n:Int} (h:VR ρ (.int k n) x):x=.int k n:=h.iw
structure Xg (E:kv) (t u ty el:TypeId) (dh:TypeInfo) (z':Value) (x':Value) (m:Nat) (A:World→Array Value→Prop):Prop where
 inn:∀{w w':World} {aV:Option Addr} {l cp:Nat} {xs:Array Value},l+m≤cp→A w xs→(match aV with|some a=>storeCells (a.add (l*dh.size)) xs.toList|none=>pure ()).run E.P w=.ok () w'→
  (Builtin.append_ #[t,u] ty #[.slice aV l cp,x']).run E.P w=.ok (.slice aV (l+m) cp) w'
 out:∀{w:World} {aV:Option Addr} {l cp:Nat} {os xs:Array Value},¬l+m≤cp→(l+m)*(dh.bytes+1)≤70368744177664→(Builtin.firstCells dh.size l (.slice aV l cp)).run E.P w.drew=.ok os w.drew→A w.drew xs→
  (Builtin.append_ #[t,u] ty #[.slice aV l cp,x']).run E.P w=.ok (.slice (some ⟨w.heap.size,0,none⟩) (l+m) (grownCap w (l+m) cp el))
   (w.drew.alloc (.cells (os++xs++Builtin.zeroCells z'.cells (grownCap w (l+m) cp el-(l+m))) el))
theorem Dt {H:ag} {t u ty el n cL:Nat} {z:List V} {dh:TypeInfo} {z':Value} (kX:E.P.underlying t=some (.slice el)) (hi:E.P.info? el=some dh) (hz:dh.zero=some z') (hsz:dh.size=n) (hby:dh.bytes=cL)
 (hzl:z.length=n) (hpos:0<n) (hzs:z'.cells.size=n) (Sy:bd z) (Qf:∀ρ,eM ρ z z'.cells.toList) {x:V} {x':Value} (hx:VR ρ x x') {r:Bool} {m:Nat} {ok:Nat→Bool} {cs:Nat→List V}
 (hs:mP H n cL z (bh E u) x=some (r,m,ok,cs)) (hr:r=true):∃A:World→Array Value→Prop,Xg E t u ty el dh z' x' m A∧
  ∀w,HR ρ H w→(m=0∨ok m=true)→∃xs,A w xs∧eM ρ (cs m) xs.toList∧bd (cs m)∧(cs m).length=m*n:=by
 subst hr;subst hsz;subst hby
 have key:iQ (bh E u)=true→lq H dh.size x=some (m,ok,cs)→∃A:World→Array Value→Prop,Xg E t u ty el dh z' x' m A∧
  ∀w,HR ρ H w→(m=0∨ok m=true)→∃xs,A w xs∧eM ρ (cs m) xs.toList∧bd (cs m)∧(cs m).length=m*dh.size:=by
  intro hu hsrc;obtain⟨du,EX,QH⟩:=Q1 hu
  have hlen:Builtin.lenOf x'=pure m:=by
   cases x with
   |slice p len cap=>
    simp only[lq,Option.some.injEq,Prod.mk.injEq] at hsrc;obtain⟨rfl,_,_⟩:=hsrc;cases hx<;>rfl
   |cH s=>
    simp only[lq,Option.some.injEq,Prod.mk.injEq] at hsrc;obtain⟨rfl,_,_⟩:=hsrc;cases hx;rfl
   |_=>simp [lq] at hsrc
  refine⟨fun w xs=>(Builtin.firstCells dh.size m x').run E.P w=.ok xs w,⟨fun hroom hf hst=>A8 kX EX QH hi hlen hroom hf hst,fun hroom ig hfo hf=>yM kX EX QH hi hz hlen hroom ig hfo hf⟩,fun w hw hok=> ?_⟩;obtain⟨_,tE⟩:=vO (E:=E) hw hx hsrc;exact tE m (Nat.le_refl _) hok
 unfold mP at hs;split at hs
 ·rename_i hk;obtain⟨d,EX,hd⟩:=bK hk;split at hs
  ·rename_i mi;simp only[Option.some.injEq,Prod.mk.injEq,Bool.and_eq_true,decide_eq_true_eq] at hs;obtain⟨⟨h0,hb⟩,rfl,rfl,rfl⟩:=hs;have hx':=TS hx;subst hx';cases d<;>simp [bo,cM] at hd
   subst hd;refine⟨fun w xs=>xs=Builtin.zeroCells z'.cells mi.toNat,⟨fun hroom hf hst=> ?_,fun hroom ig hfo hf=> ?_⟩,fun w hw hok=>⟨_,rfl, ?_, ?_, ?_⟩⟩
   ·subst hf;exact yN kX EX hi hz hpos h0 hb hroom hst
   ·subst hf;exact xr kX EX hi hz hpos h0 hb hroom ig hfo
   ·exact mw (Qf ρ) hzl hpos _
   ·exact gF Sy _
   ·show (hT _ z).length=_
    rw[gg,hzl]
  ·cases hs
 ·split at hs
  ·rename_i hu;split at hs
   ·rename_i m' ok' cs' hsrc;simp only[Option.some.injEq,Prod.mk.injEq,true_and] at hs;obtain⟨rfl,rfl,rfl⟩:=hs;exact key hu hsrc
   ·cases hs
  ·cases hs
theorem Du (h:SR H0 ρ0 w0 ann N ρ lam S a w) {ts:List TypeId} {args:List V} {args':Array Value} {ty:TypeId} {K:Oq→Nat→Nat→ag→Prop} (ha:eM ρ args args'.toList) (ho:aP E ts args S.hp K):∃q n c H' ρ' v w',K q n c H'∧(Builtin.append_ ts.toArray ty args').run E.P w=.ok v w'∧SR H0 ρ0 w0 ann N ρ' lam {S with hp:=H'} a w'∧TR ρ' lam (.v (.slice q n c)) v:=by
 unfold aP at ho;split at ho
 ·rename_i t u p l cp x;split at ho
  ·rename_i el n cL z hel
   split at ho
   ·rename_i r0 m ok cs hsrc;obtain⟨hr0,ho⟩:=aQ ho;obtain⟨s',r1,xJ,hs',n5⟩:=ha.df;obtain⟨x',r2,xI,hx',tF⟩:=n5.df;have Qg:=tF.gr;subst Qg;subst xI
    obtain rfl:args'= #[s',x']:=by
     apply Array.ext';rw[xJ]
    obtain⟨dh,z',kX,hi,hz,hsz,hby,hzl,hpos,hzs,Sy,Qf⟩:=qQ hel;obtain⟨A,hA,tE⟩:=Dt (ty:=ty) kX hi hz hsz hby hzl hpos hzs Sy Qf hx' hsrc hr0;subst hsz;subst hby
    have hbase:∃aV,s'=.slice aV l cp∧(p=none→aV=none)∧(∀id off,p=some (id,off)→(∃b,ρ id=some b∧aV=some ⟨b,off,none⟩)∨(l=0∧cp=0∧∃ad,aV=some ad)):=by
     cases p with
     |none=>exact⟨none,hs'.lC,fun _=>rfl,fun _ _ h=>by cases h⟩
     |some q=>
      obtain⟨id,off⟩:=q;rcases hs'.ff with⟨b,hb,he⟩|⟨h0,h1,ad,he⟩
      ·exact⟨_,he,fun h=>by(cases h),fun id' off' h=>by cases h;exact .inl ⟨b,hb,rfl⟩⟩
      ·exact⟨_,by rw[he,h0,h1],fun h=>by(cases h),fun id' off' h=>.inr ⟨h0,h1,ad,rfl⟩⟩
    obtain⟨aV,rfl,hb0,Ax⟩:=hbase;rcases gz ho with⟨hroom,ho⟩|⟨hroom,ho⟩
    ·have hroom:l+m≤cp:=Nat.le_of_ble_eq_true hroom;obtain⟨hr,ho⟩:=aQ ho;by_cases hm:m=0
     ·obtain⟨xs,h1,h2,h3,h4⟩:=tE w h.hr (.inl hm)
      have hxs:xs= #[]:=by
       have:=h2.1;rw[h4,hm] at this;apply Array.eq_empty_of_size_eq_zero;simpa using this.symm
      subst hxs;have hz0:Nat.beq m 0=true:=by rw[aW];simp [hm]
      simp only[hz0,cond_true] at ho;refine⟨_,_,_,_,ρ,.slice aV (l+m) cp,w,ho,hA.inn hroom h1 ?_,h,.v ?_⟩
      ·cases aV<;>simp [pM]
      ·rw[hm];simpa using hs'
     ·have hz0:Nat.beq m 0=false:=by rw[aW];simp [hm]
      simp only[hz0,Bool.false_or,Bool.and_eq_true,cond_false] at hr ho;obtain⟨hp,hok,EI⟩:=hr
      cases p with
      |none=>cases hp
      |some q=>
       obtain⟨id,off⟩:=q;simp only[Option.getD_some] at EI ho;rcases Ax id off rfl with⟨b,hb,rfl⟩|⟨h0,h1,_⟩
       ·obtain⟨xs,h1,h2,h3,h4⟩:=tE w h.hr (.inr hok);unfold ag.wr at EI;split at EI
        ·rename_i e ccs ro hg;rw[Bool.and_eq_true] at EI;have hro:ro=false:=by simpa using EI.1
         subst hro;obtain⟨b',hb',hc⟩:=h.hr.wR id _ hg;rw[hb] at hb';cases hb';obtain⟨w',g1,g2,g3⟩:=mv (E:=E) (off:=off+l*dh.size) hc h2 h3 (by rw[h4];exact Nat.le_of_ble_eq_true EI.2);have hst:S.hp.store id (off+l*dh.size) (cs m)=S.hp.put id (.cells e (bM ccs (off+l*dh.size) (cs m)) false):=by simp [ag.store,hg]
         rw[hst] at ho;exact⟨_,_,_,_,ρ,_,w',ho,hA.inn hroom h1 (by simpa [gb] using g1),h.Dq hg rfl rfl hb g3 g2,.v (.slice _ _ hb)⟩
        ·cases EI
       ·omega
    ·have Wg:¬l+m≤cp:=by
      intro hc;rw[Nat.ble_eq_true_of_le hc] at hroom;cases hroom
     obtain⟨hr,ho⟩:=aQ ho;simp only[Bool.and_eq_true] at hr;obtain⟨hrow,hok,ig⟩:=hr;have ig:=Nat.le_of_ble_eq_true ig;have hd:HR ρ S.hp w.drew:=⟨h.hr.wR,h.hr.inj,h.hr.lt,h.hr.gl⟩
     obtain⟨_,hold⟩:=vO (E:=E) hd hs' (n:=dh.size) (m:=l) (ok:=fun m=>pB S.hp dh.size p m)
      (cs:=fun m=>bif Nat.beq m 0 then [] else S.hp.sub (p.getD (0,0)).1 (p.getD (0,0)).2 (m*dh.size)) rfl
     obtain⟨xs,h1,h2,h3,h4⟩:=tE w.drew hd (.inr hok);obtain⟨os,k1,k2,k3,k4⟩:=hold l (Nat.le_refl _) (.inr hrow);have acY:l+m≤70368744177664:=Nat.le_trans (Nat.le_mul_of_pos_right _ (by omega)) ig;have Qh:=grownCap_ge w (l+m) cp el;have Qi:=grownCap_le_maxLen w (l+m) cp el (by simp only[maxLen];omega);have hk:=ho (grownCap w (l+m) cp el) Qh (by simp only[maxLen] at Qi;omega);have MH:=(k2.append h2).append (mw (Qf ρ) hzl hpos (grownCap w (l+m) cp el-(l+m)));refine⟨_,_,_,_,_,_,_,hk,hA.out Wg ig k1 h1,h.Dp ⟨rfl,rfl,rfl,rfl⟩ (iE ?_ ?_),.v (.slice _ _ (by rw[ey,if_pos rfl]))⟩
     ·simpa [yi,dU,List.append_assoc] using MH
     ·exact k3.append (h3.append (gF Sy _))
   ·exact ho.elim
  ·exact ho.elim
 ·exact ho.elim
theorem A9 {t el cL:Nat} {n:Nat} {z:List V} {dh:TypeInfo} {z':Value} (kX:E.P.underlying t=some (.slice el)) (hi:E.P.info? el=some dh) (hz:dh.zero=some z')
 (hzs:z'.cells.size=dh.size) (hpos:0<dh.size) {k k':IntKind} {l c:Int} (h0:0≤l) (h1:l≤c) (h2:c*(dh.bytes+1)≤70368744177664):
 (Instr.makeSlice t (.int k l) (.int k' c)).run E.P w=.ok (.slice (some ⟨w.heap.size,0,none⟩) l.toNat c.toNat)
  (w.alloc (.cells (Builtin.zeroCells z'.cells c.toNat) el)):=by
 have hc:0≤c:=by omega
 have Ty:c*1≤c*(dh.bytes+1):=Int.mul_le_mul_of_nonneg_left (by omega) hc;have hm2:c*dh.bytes≤c*(dh.bytes+1):=Int.mul_le_mul_of_nonneg_left (by omega) hc;have hw1:IntKind.i64.wrap l=l:=IntWalk.i64_in _ ⟨by omega,by omega⟩;have hw2:IntKind.i64.wrap c=c:=IntWalk.i64_in _ ⟨by omega,by omega⟩;have e1:¬(281474976710656<(dh.bytes:Int)*c):=by rw[Int.mul_comm];omega
 have e2:¬c<0:=by omega
 have e3:¬l<0:=by omega
 have e4:¬c<l:=by omega
 have hroom:¬roomBytes<c.toNat*dh.bytes:=by
  have:((c.toNat*dh.bytes:Nat):Int)=c*dh.bytes:=by rw[Int.natCast_mul,Int.toNat_of_nonneg hc]
  unfold roomBytes;omega
 have hz0:z'.cells.size≠0:=by omega
 by_cases hn:c.toNat*dh.size=0
 ·have hcn:c.toNat=0:=by
   rcases Nat.mul_eq_zero.1 hn with h|h
   ·exact h
   ·omega
  simp [Instr.makeSlice,run_underlying kX,typeInfo,sizeOf,hi,hw1,hw2,e1,e2,e3,e4,askRoom,hroom,hn,hcn,newRow,Builtin.zeroCells,asInt,asIntOf,hzs];have hr:Array.range 0= #[]:=by simp
  rw[hr,Array.map_empty,Array.map_empty]
 ·simp [Instr.makeSlice,run_underlying kX,typeInfo,sizeOf,zeroValue,hi,hz,hw1,hw2,e1,e2,e3,e4,askRoom,hroom,hn,newRow,Builtin.zeroCells,asInt,asIntOf,hzs]
theorem yO {e:TypeId} {cs:List V} {off b:Nat} (hc:fT ρ e cs true w.heap[b]?):∃w',(markStringish ⟨b,off,none⟩).run E.P w=.ok () w'∧fT ρ e cs true w'.heap[b]? ∧pf b w w':=by
 obtain⟨cs',fz,hb,hvs,hone,hfz⟩:=hc;have hsh:w.shape? b=some (e,cs'.size):=by simp [World.shape?,hb]
 refine⟨w.freeze ⟨b,cs'.size,none⟩ 1,by simp [markStringish,shape,freeze,Sem.run,hsh], ?_, ?_⟩
 ·refine⟨cs',if fz.1 == fz.2 then (cs'.size,cs'.size+1) else (min fz.1 cs'.size,max fz.2 (cs'.size+1)), ?_,hvs,hone,fun _=>.inr ?_⟩
  ·simp [World.freeze,Array.getElem?_modify,hb]
  ·have:=hfz rfl;split
   ·simp
   ·rename_i hne;have hne:fz.1≠fz.2:=by simpa using hne
    simp only[Nat.le_min];omega
 ·refine⟨fun b' hb'=> ?_,by simp [World.freeze],rfl,rfl,rfl⟩;simp only[World.freeze,Array.getElem?_modify];rw[if_neg (by decide)];simp only[Array.getElem?_modify];rw[if_neg (fun e=>hb' e.symm)]
theorem uj {H:ag} {id:Nat} {o:Obj} (h:H.get id=some o):H.put id o=H:=by
 unfold ag.put;congr 1;funext j;rw[aW];by_cases hj:j=id
 ·subst hj;simp [h]
 ·simp [hj]
theorem Dv {H:ag} (hr:HR ρ H w) {id off n:Nat} (h:H.wr id off n=true):∃e cs b,H.get id=some (.cells e cs false)∧off+n≤cs.length∧ρ id=some b∧fT ρ e cs true w.heap[b]? :=by
 unfold ag.wr at h;split at h
 ·rename_i e cs ro hg;rw[Bool.and_eq_true] at h;have hro:ro=false:=by simpa using h.1
  subst hro;obtain⟨b,h1,h2⟩:=hr.wR id _ hg;exact⟨e,cs,b,hg,Nat.le_of_ble_eq_true h.2,h1,h2⟩
 ·cases h
end
section
variable {E:kv} {H0:ag} {ρ0:dB} {w0:World} {ann:bP} {N:Nat} {ρ lam:dB} {S:St} {a:Act} {w:World}
theorem uk {d:TypeDesc} {k e:TypeId} (h:bo d=.map k e):d=.map k e:=by cases d<;>simp_all [bo]
theorem Q2 {t:TypeId} {i:TI} {z:V} (h:E.ti t=some i) (hz:i.zero=some z) (ρ:dB) (w:World):∃z',(zeroValue t).run E.P w=.ok z' w∧VR ρ z z':=by
 obtain⟨dh,dt,hi,hu,hd,_,_,KS⟩:=jN h;rw[hz] at KS;obtain⟨z',EG,yd⟩:=Option.bind_eq_some_iff.1 KS;exact⟨z',by simp [zeroValue,typeInfo,hi,EG],iC yd⟩
theorem fj {em:Bool} {kt:TypeId} {k kd:IntKind} {n:Int} (h:E.P.underlying kt=some (.int kd)):(Instr.checkKey em 10000 kt (.int k n)).run E.P w=.ok () w:=by
 have:∀m,(Instr.checkKey em (m+1) kt (.int k n)).run E.P w=.ok () w:=by
  intro m;simp [Instr.checkKey,run_underlying h]
 exact this 9999
theorem um {kd k:IntKind} {n:Int}:∀{es:List (V×V×Nat)} {es':List MapEntry} (i:Nat),jo ρ es es'→so k es=true→(np n es=none∧Instr.findNow (.int kd) (.int k n) es' i=some none)∨∃v j e,np n es=some v∧Instr.findNow (.int kd) (.int k n) es' i=some (some (i+j,e.val))∧es'[j]? =some e∧VR ρ v e.val∧e.key=.int k n∧(∀v2 x2,VR ρ v2 x2→jo ρ (EZ n v2 es) (es'.modify j fun e=>{e with key:=.int k n,val:=x2}))∧jo ρ (yg n es) (es'.eraseIdx j)
 |[],[],i,_,_=>.inl ⟨rfl,rfl⟩
 |[],_::_,_,h,_=>h.elim
 |_::_,[],_,h,_=>h.elim
 |x::l,y::m,i,h,hk=>by
  obtain⟨⟨h1,h2,h3⟩,h4⟩:=h;rw[so,Bool.and_eq_true] at hk;obtain⟨hx,hk⟩:=hk;have hx':x.1=.int k x.1.aa:=(V.sj hx).symm;have hy:y.key=.int k x.1.aa:=VR.iw (hx'▸h1);by_cases hn:x.1.aa=n
  ·right;rw[hn] at hx' hy;refine⟨x.2.1,0,y,by simp [np,hn],by simp [Instr.findNow,Instr.sameNow,hy],rfl,h2,hy,fun v2 x2 hv=> ?_, ?_⟩
   ·simp only[EZ,hn,decide_true,cond_true,List.modify_zero_cons];exact⟨⟨by rw[hx'];exact .int k n,hv,h3⟩,h4⟩
   ·simp only[yg,hn,decide_true,cond_true,List.eraseIdx_cons_zero];exact h4
  ·have hn':¬n=x.1.aa:=fun e=>hn e.symm
   have hb:(n == x.1.aa)=false:=by simpa using hn'
   rcases um (kd:=kd) (n:=n) (i+1) h4 hk with⟨g1,g2⟩|⟨v,j,e,g1,g2,g3,g4,g5,g6,g7⟩
   ·exact .inl ⟨by simp [np,hn,g1],by simp [Instr.findNow,Instr.sameNow,hy,hb,g2]⟩
   ·refine .inr ⟨v,j+1,e,by simp [np,hn,g1], ?_,by simpa using g3,g4,g5,fun v2 x2 hv=> ?_, ?_⟩
    ·simp only[Instr.findNow,Instr.sameNow,hy,hb,if_true,g2];rw[Nat.add_assoc,Nat.add_comm 1 j]
    ·simp only[EZ,hn,decide_false,cond_false,List.modify_succ_cons];exact⟨⟨h1,h2,h3⟩,g6 v2 x2 hv⟩
    ·simp only[yg,hn,decide_false,cond_false,List.eraseIdx_cons_succ];exact⟨⟨h1,h2,h3⟩,g7⟩
theorem sK {H:ag} {id:Nat} (h:H.isMap id=true):H.get id=some (.map (H.ents id) (H.clock id)):=by
 unfold ag.isMap at h;split at h
 ·rename_i es c hg;simp [ag.ents,ag.clock,hg]
 ·cases h
theorem gW {w:World} {b:Nat} {es:Array MapEntry} {c:Nat} (h:w.heap[b]? =some (.map es c)):(getObj b).run E.P w=.ok (.map es c) w:=by
 simp [getObj,Sem.run,h]
theorem BE {w:World} {b:Nat} {m:Option Nat} {s l:Nat} {seen:Array Nat} (h:w.heap[b]? =some (.mapIter m s seen l)):(getObj b).run E.P w=.ok (.mapIter m s seen l) w:=by
 simp [getObj,Sem.run,h]
theorem qR {w:World} {b:Nat} {es:Array MapEntry} {c:Nat} {o':Go.Obj} (h:w.heap[b]? =some (.map es c)):(setObj b o').run E.P w=.ok () {w with heap:=w.heap.setIfInBounds b o'}:=by
 simp [setObj,Sem.run,h]
theorem pN (w:World) (b:Nat) (o:Go.Obj):pf b w {w with heap:=w.heap.setIfInBounds b o}:=
 ⟨fun b' hb=>by simp [Array.getElem?_setIfInBounds,Ne.symm hb],by simp,rfl,rfl,rfl⟩
theorem yP {w:World} {b:Nat} {x o:Go.Obj} (h:w.heap[b]? =some x):({w with heap:=w.heap.setIfInBounds b o}:World).heap[b]? =some o:=by
 have:b<w.heap.size:=by
  rcases Nat.lt_or_ge b w.heap.size with g|g
  ·exact g
  ·rw[Array.getElem?_eq_none g] at h;cases h
 simp [Array.getElem?_setIfInBounds,this]
theorem yQ {H:ag} (hr:HR ρ H w) {k:IntKind} {id:Nat} {x:Value} (hx:VR ρ (.map (some id)) x) (hok:eC H k (some id)=true):∃b es',ρ id=some b∧x=.map (some b)∧H.get id=some (.map (H.ents id) (H.clock id))∧w.heap[b]? =some (.map es' (H.clock id))∧jo ρ (H.ents id) es'.toList∧so k (H.ents id)=true:=by
 simp only[eC,Option.isNone_some,Bool.false_or,Option.getD_some,Bool.and_eq_true] at hok;have hg:=sK hok.1;obtain⟨b,hb,es',he,G5⟩:=hr.wR id _ hg
 cases hx with
 |map hb'=>
  rw[hb] at hb';cases hb';exact⟨b,es',hb,rfl,hg,he,G5,hok.2⟩
theorem Dw {t kt et:TypeId} {k:IntKind} (kX:E.P.underlying t=some (.map kt et)) (G6:E.P.underlying kt=some (.int k)) {z:V} {z':Value} (hz:(zeroValue et).run E.P w=.ok z' w) (hzv:VR ρ z z') {H:ag} (hr:HR ρ H w) {r:Option Nat} {x:Value} (hx:VR ρ (.map r) x) {n:Int} (hok:eC H k r=true) (c:Bool):∃v',VR ρ (cn H r n z) v'∧(Instr.lookup t x (.int k n) c).run E.P w=.ok (if c then .tuple #[v',.bool (lh H r n)] else v') w:=by
 cases r with
 |none=>
  cases hx;refine⟨z',hzv, ?_⟩;cases c<;>simp [Instr.lookup,run_underlying kX,fj (E:=E) G6,Instr.findKey,run_underlying G6,Instr.findNow,hz,lh]
 |some id=>
  obtain⟨b,es',hb,rfl,hg,he,G5,Qj⟩:=yQ hr hx hok;rcases um (kd:=k) (n:=n) 0 G5 Qj with⟨g1,g2⟩|⟨v,j,e,g1,g2,g3,g4,g5,g6,g7⟩
  ·refine⟨z',by simpa [cn,g1] using hzv, ?_⟩;cases c<;>simp [Instr.lookup,run_underlying kX,gW (E:=E) he,fj (E:=E) G6,Instr.findKey,run_underlying G6,g2,hz,lh,g1]
  ·refine⟨e.val,by simpa [cn,g1] using g4, ?_⟩;cases c<;>simp [Instr.lookup,run_underlying kX,gW (E:=E) he,fj (E:=E) G6,Instr.findKey,run_underlying G6,g2,hz,lh,g1]
theorem jo.Xh {x:V×V×Nat} {y:MapEntry} (h:VR ρ x.1 y.key∧VR ρ x.2.1 y.val∧x.2.2=y.born):∀{l:List (V×V×Nat)} {m:List MapEntry},jo ρ l m→jo ρ (l++[x]) (m++[y])
 |[],[],_=>⟨h,trivial⟩
 |_::_,_::_,hl=>⟨hl.1,jo.Xh h hl.2⟩
 |[],_::_,hl=>hl.elim
 |_::_,[],hl=>hl.elim
theorem xu {t kt et:TypeId} {k:IntKind} (kX:E.P.underlying t=some (.map kt et)) (G6:E.P.underlying kt=some (.int k)) {H:ag} (hr:HR ρ H w) {id:Nat} {x:Value} (hx:VR ρ (.map (some id)) x) {n:Int} (hok:eC H k (some id)=true) {v:V} {y:Value} (hv:VR ρ v y):∃b w' o,ρ id=some b∧(Instr.mapUpdate t x (.int k n) y).run E.P w=.ok () w'∧pf b w w'∧H.get id=some (.map (H.ents id) (H.clock id))∧im H k id n v=H.put id o∧o.rw =true∧Fi ρ o w'.heap[b]? :=by
 obtain⟨b,es',hb,rfl,hg,he,G5,Qj⟩:=yQ hr hx hok;rcases um (kd:=k) (n:=n) 0 G5 Qj with⟨g1,g2⟩|⟨v0,j,e,g1,g2,g3,g4,g5,g6,g7⟩
 ·refine⟨b,_,.map (H.ents id++[(.int k n,v,H.clock id)]) (H.clock id+1),hb, ?_,pN w b (.map (es'.push {key:=.int k n,val:=y,born:=H.clock id}) (H.clock id+1)),hg, ?_,rfl, ?_⟩
  ·simp [Instr.mapUpdate,run_underlying kX,gW (E:=E) he,fj (E:=E) G6,Instr.findKey,run_underlying G6,g2,qR (E:=E) he]
  ·simp [im,g1]
  ·exact⟨_,yP he,by rw[Array.toList_push];exact G5.Xh ⟨.int k n,hv,rfl⟩⟩
 ·have hj:es'[j]? =some e:=by simpa using g3
  refine⟨b,_,.map (EZ n v (H.ents id)) (H.clock id),hb, ?_,pN w b (.map (es'.modify j fun e=>{e with key:=.int k n,val:=y}) (H.clock id)),hg, ?_,rfl, ?_⟩
  ·simp [Instr.mapUpdate,run_underlying kX,gW (E:=E) he,fj (E:=E) G6,Instr.findKey,run_underlying G6,g2,qR (E:=E) he,hj,g5,Instr.keyThatStays,Instr.sameBits]
  ·simp [im,g1]
  ·exact⟨_,yP he,by rw[Array.toList_modify];exact g6 v y hv⟩
theorem Dx {t kt et u ty:TypeId} {k:IntKind} (kX:E.P.underlying t=some (.map kt et)) (G6:E.P.underlying kt=some (.int k)) {H:ag} (hr:HR ρ H w) {id:Nat} {x:Value} (hx:VR ρ (.map (some id)) x) {n:Int} (hok:eC H k (some id)=true) {ts:Array TypeId} (hts:ts[0]? =some t):∃b w' o,ρ id=some b∧(Builtin.delete_ ts ty #[x,.int k n]).run E.P w=.ok (.tuple #[]) w'∧pf b w w'∧H.get id=some (.map (H.ents id) (H.clock id))∧pA H (some id) n=H.put id o∧o.rw =true∧Fi ρ o w'.heap[b]? :=by
 obtain⟨b,es',hb,rfl,hg,he,G5,Qj⟩:=yQ hr hx hok
 have EJ:∀l:List (V×V×Nat),np n l=none→yg n l=l:=by
  intro l
  induction l with
  |nil=>intro _;rfl
  |cons x l ih=>
   intro h;simp only[np] at h;by_cases hn:x.1.aa=n
   ·simp [hn] at h
   ·simp only[hn,decide_false,cond_false] at h;simp [yg,hn,ih h]
 rcases um (kd:=k) (n:=n) 0 G5 Qj with⟨g1,g2⟩|⟨v0,j,e,g1,g2,g3,g4,g5,g6,g7⟩
 ·refine⟨b,_,.map (yg n (H.ents id)) (H.clock id),hb, ?_,pN w b (.map es' (H.clock id)),hg, ?_,rfl, ?_⟩
  ·simp [Builtin.delete_,hts,run_underlying kX,gW (E:=E) he,fj (E:=E) G6,Instr.findKey,run_underlying G6,g2,qR (E:=E) he]
  ·simp [pA]
  ·exact⟨_,yP he,by rw[EJ _ g1];exact G5⟩
 ·refine⟨b,_,.map (yg n (H.ents id)) (H.clock id),hb, ?_,pN w b (.map (es'.eraseIdxIfInBounds j) (H.clock id)),hg, ?_,rfl, ?_⟩
  ·simp [Builtin.delete_,hts,run_underlying kX,gW (E:=E) he,fj (E:=E) G6,Instr.findKey,run_underlying G6,g2,qR (E:=E) he]
  ·simp [pA]
  ·refine⟨_,yP he, ?_⟩;have:(es'.eraseIdxIfInBounds j).toList=es'.toList.eraseIdx j:=by simp
   rw[this];exact g7
theorem Fw:∀{l:List (V×V×Nat)} {m:List MapEntry},jo ρ l m→l.length=m.length
 |[],[],_=>rfl
 |_::_,_::_,hl=>by simp [Fw hl.2]
 |[],_::_,hl=>hl.elim
 |_::_,[],hl=>hl.elim
theorem yR {n:Nat}:∀{l:List Nat},tL n l=true↔n∈l
 |[]=>by simp [tL]
 |x::l=>by
  rw[tL,Bool.or_eq_true,yR,List.mem_cons];exact⟨fun h=>h.imp Nat.eq_of_beq_eq_true id,fun h=>h.imp (fun e=>by subst e;exact Nat.beq_refl n) id⟩
theorem yS {bV:Nat}:∀{l:List (V×V×Nat)} {m:List MapEntry},jo ρ l m→n9 bV l=true→∀x∈m,x.born<bV
 |[],[],_,_=>by simp
 |x::l,y::m,hl,ha=>by
  rw[n9,Bool.and_eq_true] at ha;intro z hz;rcases List.mem_cons.1 hz with rfl|hz
  ·rw[←hl.1.2.2];simpa using ha.1
  ·exact yS hl.2 ha.2 z hz
 |[],_::_,hl,_=>hl.elim
 |_::_,[],hl,_=>hl.elim
theorem Fx {seen:List Nat}:∀{l:List (V×V×Nat)} {m:List MapEntry},jo ρ l m→lg seen l=(m.filter fun e=> !seen.toArray.contains e.born).map (·.born)
 |[],[],_=>rfl
 |x::l,y::m,hl=>by
  have ih:=Fx (seen:=seen) hl.2;have hb:=hl.1.2.2
  have hc:seen.toArray.contains y.born=tL x.2.2 seen:=by
   rw[hb];cases h:tL y.born seen
   ·have:¬y.born∈seen:=fun e=>by rw[yR.2 e] at h;cases h
    simpa using this
   ·have:y.born∈seen:=yR.1 h;simpa using this
  simp only[lg,List.filter_cons,hc];cases tL x.2.2 seen
  ·simp [hb,ih]
  ·simp [ih]
 |[],_::_,hl=>hl.elim
 |_::_,[],hl=>hl.elim
theorem Fy {b:Nat}:∀{l:List (V×V×Nat)} {m:List MapEntry} {k v:V},jo ρ l m→Bs b l=some (k,v)→∃e,m.find? (·.born == b)=some e∧VR ρ k e.key∧VR ρ v e.val
 |[],[],_,_,_,h=>by cases h
 |x::l,y::m,k,v,hl,h=>by
  have hb:=hl.1.2.2;simp only[Bs,aW] at h;by_cases hx:x.2.2=b
  ·simp only[hx,decide_true,cond_true,Option.some.injEq,Prod.mk.injEq] at h;obtain⟨rfl,rfl⟩:=h;exact⟨y,by simp [←hb,hx],hl.1.1,hl.1.2.1⟩
  ·simp only[hx,decide_false,cond_false] at h;obtain⟨e,h1,h2⟩:=Fy hl.2 h;have hy:(y.born == b)=false:=by rw[←hb];simpa using hx
   exact⟨e,by rw[List.find?_cons,hy];exact h1,h2⟩
 |[],_::_,_,_,hl,_=>hl.elim
 |_::_,[],_,_,hl,_=>hl.elim
theorem Fz:∀{l:List Nat} {b:Nat},Bt l=some b→l.toArray.back?=some b
 |[],_,h=>by cases h
 |[x],b,h=>by simpa [Bt] using h
 |x::y::l,b,h=>by
  have:=Fz (l:=y::l) h;simpa using this
theorem Ba (h:SR H0 ρ0 w0 ann N ρ lam S a w) {id b:Nat} {ty:TypeId} (hb:ρ id=some b) {K1:Prop} {K2:ag→Prop} (ho:mapNext S.hp id K1 K2):(K1∧(Instr.next (.pointer (some ⟨b,0,none⟩)) false ty).run E.P w=.ok (.tuple #[.bool false]) w)∨∃H' w' k v,K2 H'∧(Instr.next (.pointer (some ⟨b,0,none⟩)) false ty).run E.P w=.ok (.tuple #[.bool true,k,v]) w'∧SR H0 ρ0 w0 ann N ρ lam {S with hp:=H'} a w':=by
 unfold mapNext at ho;split at ho
 ·rename_i bV seen tK hg;obtain⟨b',hb',m',he,hm⟩:=h.hr.wR id _ hg;rw[hb] at hb';cases hb';cases hm;exact .inl ⟨ho,by simp [Instr.next,BE (E:=E) he]⟩
 ·rename_i m bV seen tK hg;split at ho
  ·rename_i es c hgm;obtain⟨b',hb',m',he,hm⟩:=h.hr.wR id _ hg;rw[hb] at hb';cases hb';obtain⟨bm,WY,es',hem,G5⟩:=h.hr.wR m _ hgm
   cases hm with
   |map Qk=>
    rw[WY] at Qk;cases Qk
    cases hc:(n9 bV es&&Nat.ble bV tK) with
    |false=>simp only[hc,cond_false] at ho
    |true=>
     simp only[hc,cond_true] at ho;rw[Bool.and_eq_true] at hc;have hold:=yS G5 hc.1;have hleft:=Fx (seen:=seen) G5;have hlo:(leftOf es' seen.toArray).toList=es'.toList.filter fun e=> !seen.toArray.contains e.born:=by simp [leftOf]
     rcases run_next_at (P:=E.P) w ty b bm bV tK seen.toArray es' c he hem hold (Nat.le_of_ble_eq_true hc.2) with⟨h1,h2⟩|⟨e,h1,w1,h2,h3⟩
     ·have h0:lg seen es=[]:=by
       rw[hleft, ←hlo]
       have:(leftOf es' seen.toArray).toList=[]:=by
        apply List.eq_nil_of_length_eq_zero;simpa using h1
       rw[this];rfl
      rw[h0] at ho;exact .inl ⟨ho,h2⟩
     ·rw[hlo] at h1
      have hmem:e.born∈lg seen es:=by
       rw[hleft];exact List.mem_map.2 ⟨e,h1,rfl⟩
      have hk:K2 (S.hp.put id (.dM (some m) bV (seen++[e.born]) c)):=by
       cases hl:lg seen es with
       |nil=>rw[hl] at hmem;cases hmem
       |cons x l=>
        rw[hl] at ho hmem;exact ho _ hmem
      refine .inr ⟨_,_,_,_,hk,h3, ?_⟩
      have key:∀w2:World,SR H0 ρ0 w0 ann N ρ lam S a w2→w2.heap=w.heap→SR H0 ρ0 w0 ann N ρ lam {S with hp:=S.hp.put id (.dM (some m) bV (seen++[e.born]) c)} a
       (Go.ChangeMaps.setBlock w2 b (.mapIter (some bm) bV (seen.toArray.push e.born) c)):=by
       intro w2 hs hw;have Sx:w2.heap[b]? =some (.mapIter (some bm) bV seen.toArray tK):=by rw[hw];exact he
       refine hs.Dq hg rfl rfl hb (pN w2 b _) ?_;exact⟨_,by unfold Go.ChangeMaps.setBlock;rw[yP Sx];simp,.map WY⟩
      rcases h2 with rfl|rfl
      ·exact key _ h rfl
      ·exact key _ (h.drew _) rfl
  ·exact ho.elim
 ·exact ho.elim
theorem Dy {H:ag} (hr:HR ρ H w) {id b:Nat} (hb:ρ id=some b) (h:sr H id=true):∃k v,(Instr.entry (.pointer (some ⟨b,0,none⟩))).run E.P w=.ok (.tuple #[k,v]) w∧VR ρ (kK H id) k∧VR ρ (iL H id) v:=by
 unfold sr at h;obtain⟨p,hp⟩:=Option.isSome_iff_exists.1 h;have hk:kK H id=p.1:=by simp [kK,hp]
 have hv:iL H id=p.2:=by simp [iL,hp]
 rw[hk,hv];unfold vB at hp;split at hp
 ·rename_i m bV seen tK hg;split at hp
  ·rename_i es c s hgm hl;obtain⟨b',hb',m',he,hm⟩:=hr.wR id _ hg;rw[hb] at hb';cases hb';obtain⟨bm,WY,es',hem,G5⟩:=hr.wR m _ hgm
   cases hm with
   |map Qk=>
    rw[WY] at Qk;cases Qk;simp only[aW] at hp;by_cases hc:c=tK
    ·subst hc;simp only[decide_true,cond_true] at hp;obtain⟨e,h1,h2,h3⟩:=Fy (k:=p.1) (v:=p.2) G5 hp;have xm:es'.find? (·.born == s)=some e:=by rw[←Array.find?_toList];exact h1
     refine⟨e.key,e.val, ?_,h2,h3⟩;simp [Instr.entry,BE (E:=E) he,gW (E:=E) hem,Fz hl,xm]
    ·simp only[hc,decide_false,cond_false] at hp;cases hp
  ·cases hp
 ·cases hp
end
end Go.Am
end
