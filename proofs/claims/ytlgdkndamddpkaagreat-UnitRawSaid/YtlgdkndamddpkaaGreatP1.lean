/- Part 1 of the texts behind the law UnitRaw: what its row needs (an abstract machine, its equations, and what the program computes). -/
import Derived.Orders
import Derived.LoopN
import Derived.Laws.IdiomCopy
import Derived.ChangeKeysEq
import Derived.Laws.Append
import Derived.Laws.AppendOwn
import Derived.IntWalk
import Derived.Maps.RangeRun
set_option maxRecDepth 100000
set_option linter.unusedSimpArgs false
set_option linter.unusedVariables false
set_option linter.unusedSectionVars false
section
namespace Go.Am
abbrev Oq:=Option (Nat×Nat)
inductive V where
 |bool (b:Bool)
 |int (k:IntKind) (n:Int)
 |cG (s:ByteArray)
 |aj (p:Oq)
 |slice (p:Oq) (len cap:Nat)
 |map (r:Option Nat)
 |func (f:FuncId) (dG:List V)
 |pe (f:FuncId) (first:List V)
 |dM (t:TypeId) (id:Nat)
 |nilFunc
 |iface (t:TypeId) (v:V)
 |nilIface
 |agg (cs:List V)
 |tuple (vs:List V)
 |cv
 deriving Inhabited
namespace V
def none:V:=.tuple []
def an:V→Bool| .bool b=>b|_=>false
def aa:V→Int| .int _ n=>n|_=>0
def jt:V→ByteArray| .cG s=>s|_=>ByteArray.empty
def ay:V→Oq| .aj p=>p|_=>Option.none
def au:V→Oq| .slice p _ _=>p|_=>Option.none
def ax:V→Nat| .slice _ n _=>n|_=>0
def aC:V→Nat| .slice _ _ c=>c|_=>0
def cM:V→Option Nat| .map r=>r|_=>Option.none
def af:V→List V| .agg cs=>cs|_=>[]
def ar:V→List V| .tuple vs=>vs|_=>[]
def cells:V→List V| .agg cs=>cs|v=>[v]
def isAgg:V→Bool| .agg _=>true|_=>false
def aJ (n:Nat):V→Bool| .tuple vs=>vs.length == n|_=>false
def nk:V→Bool| .nilFunc=>true|_=>false
def fq:V→Bool| .nilIface=>true|_=>false
def CX:V→TypeId| .iface t _=>t|_=>0
def Ni:V→V| .iface _ v=>v|v=>v
def one:V→Bool| .agg _| .tuple _| .cv=>false|_=>true
end V
def S3:IntKind→Nat
 | .i8=>0| .i16=>1| .i32=>2| .i64=>3| .u8=>4| .u16=>5| .u32=>6| .u64=>7
def pB (a b:IntKind):Bool:=Nat.beq (S3 a) (S3 b)
@[simp] theorem nn (a b:IntKind):pB a b=decide (a=b):=by cases a<;>cases b<;>decide
def QS:Bool→Bool→Bool
 |true,b=>b
 |false,b=> !b
theorem QT (w b:Bool):QS w b=(b == w):=by cases w<;>cases b<;>rfl
inductive cg where
 |bool|int (k:IntKind)|cG|aj|slice|map|func|iface|mn
 deriving DecidableEq,Inhabited
def V.cU:V→cg
 | .bool _=>.bool| .int k _=>.int k| .cG _=>.cG| .aj _=>.aj| .slice .. =>.slice| .map _=>.map
 | .func .. | .pe .. | .nilFunc=>.func| .iface .. | .nilIface=>.iface|_=>.mn
def V.aw:cg→V→Bool
 | .bool,.bool _=>true
 | .int k,.int k' _=>pB k k'
 | .cG,.cG _=>true
 | .aj,.aj _=>true
 | .slice,.slice .. =>true
 | .map,.map _=>true
 | .func,.func .. =>true
 | .func,.pe .. =>true
 | .func,.nilFunc=>true
 | .iface,.iface .. =>true
 | .iface,.nilIface=>true
 |_,_=>false
def V.S4:cg→V→V
 | .bool,v=>.bool v.an
 | .int k,v=>.int k v.aa
 | .cG,v=>.cG v.jt
 | .aj,v=>.aj v.ay
 | .slice,v=>.slice v.au v.ax v.aC
 | .map,v=>.map v.cM
 |_,v=>v
theorem V.so {k:cg} {v:V} (h:v.aw k=true):v.S4 k=v:=by
 cases k<;>cases v<;>simp_all [V.aw,V.S4,an,aa,jt,ay,au,ax,aC,cM]
theorem V.sr {k:cg} {v:V} (h:v.aw k=true):v.one=true:=by
 cases k<;>cases v<;>simp_all [V.aw,V.one]
def ae:List V→Nat→V
 |[],_=>.none
 |x::_,0=>x
 |_::l,n+1=>ae l n
def aI:List cg→List V→Bool
 |[],[]=>true
 |k::ks,v::vs=>v.aw k&&aI ks vs
 |_,_=>false
def n8:List cg→List V→Nat→List V
 |[],_,_=>[]
 |k::ks,cs,j=>(ae cs j).S4 k::n8 ks cs (j+1)
def bS (c:Bool):V→V→V
 | .int k x,.int k' y=>bif pB k k' then .int k (bif c then x else y) else (bif c then .int k x else .int k' y)
 | .bool x,.bool y=>.bool (bif c then x else y)
 | .cG x,.cG y=>.cG (bif c then x else y)
 |a,b=>bif c then a else b
theorem np (c:Bool) (a b:V):bS c a b=if c then a else b:=by
 unfold bS;split
 ·rename_i k x k' y;by_cases h:k=k'
  ·subst h;cases c<;>simp
  ·cases c<;>simp [h]
 ·cases c<;>rfl
 ·cases c<;>rfl
 ·cases c<;>rfl
def tM (c:Bool):List V→List V→Option (List V)
 |[],[]=>some []
 |x::l,y::m=>match tM c l m with|some r=>some (bS c x y::r)|none=>none
 |_,_=>none
def Hy (c:Bool):V→V→V
 | .agg xs,.agg ys=>match tM c xs ys with|some r=>.agg r|none=>bif c then .agg xs else .agg ys
 |a,b=>bS c a b
theorem ss {c:Bool}:∀{xs ys r:List V},tM c xs ys=some r→r=if c then xs else ys
 |[],[],r,h=>by cases h;cases c<;>rfl
 |x::l,y::m,r,h=>by
  simp only[tM] at h;split at h
  ·rename_i r' h';cases h;rw[np,ss h'];cases c<;>rfl
  ·cases h
 |[],_::_,_,h=>by cases h
 |_::_,[],_,h=>by cases h
theorem K7 (c:Bool) (a b:V):Hy c a b=if c then a else b:=by
 unfold Hy;split
 ·split
  ·rename_i r h;rw[ss h];cases c<;>rfl
  ·cases c<;>rfl
 ·exact np c _ _
def yj:List V→Nat→Nat→V→List V
 |[],_,_,_=>[]
 |x::l,j,n,v=>bS (Nat.beq j n) v x::yj l (j+1) n v
def bM:List V→Nat→List V→List V
 |cs,_,[]=>cs
 |cs,off,v::vs=>bM (yj cs 0 off v) (off+1) vs
inductive T where
 |v (x:V)
 |lp (s off:Nat)
 |undef
 deriving Inhabited
inductive aO where
 |cells (e:TypeId) (cs:List V)
 |dM (s:ByteArray) (jk:Nat)
 deriving Inhabited
inductive Obj where
 |cells (e:TypeId) (cs:List V) (ro:Bool)
 |map (es:List (V×V×Nat)) (clock:Nat)
 |dM (m:Option Nat) (bX:Nat) (seen:List Nat) (tN:Nat)
 deriving Inhabited
def sv (k:IntKind):List (V×V×Nat)→Bool
 |[]=>true
 |e::l=>e.1.aw (.int k)&&sv k l
def nq (n:Int):List (V×V×Nat)→Option V
 |[]=>none
 |e::l=>bif decide (e.1.aa=n) then some e.2.1 else nq n l
def E3 (n:Int) (v:V):List (V×V×Nat)→List (V×V×Nat)
 |[]=>[]
 |e::l=>bif decide (e.1.aa=n) then (e.1,v,e.2.2)::l else e::E3 n v l
def yk (n:Int):List (V×V×Nat)→List (V×V×Nat)
 |[]=>[]
 |e::l=>bif decide (e.1.aa=n) then l else e::yk n l
def By (b:Nat):List (V×V×Nat)→Option (V×V)
 |[]=>none
 |e::l=>bif Nat.beq e.2.2 b then some (e.1,e.2.1) else By b l
def oa (bX:Nat):List (V×V×Nat)→Bool
 |[]=>true
 |e::l=>Nat.blt e.2.2 bX&&oa bX l
def tO (n:Nat):List Nat→Bool
 |[]=>false
 |x::l=>Nat.beq n x||tO n l
def lj (seen:List Nat):List (V×V×Nat)→List Nat
 |[]=>[]
 |e::l=>bif tO e.2.2 seen then lj seen l else e.2.2::lj seen l
def Bz:List Nat→Option Nat
 |[]=>none
 |[x]=>some x
 |_::l=>Bz l
def Nj:List Nat:=[]
structure ag where
 get:Nat→Option Obj
 next:Nat
namespace ag
def cs (H:ag) (id:Nat):List V:=match H.get id with|some (.cells _ cs _)=>cs|_=>[]
def inb (H:ag) (id off n:Nat):Bool:=match H.get id with|some (.cells _ cs _)=>Nat.ble (off+n) cs.length|_=>false
def wr (H:ag) (id off n:Nat):Bool:=match H.get id with|some (.cells _ cs ro)=> !ro&&Nat.ble (off+n) cs.length|_=>false
def cell (H:ag) (id off:Nat):V:=ae (H.cs id) off
def sub (H:ag) (id off n:Nat):List V:=((H.cs id).drop off).take n
def put (H:ag) (id:Nat) (o:Obj):ag:={H with get:=fun j=>bif Nat.beq j id then some o else H.get j}
def store (H:ag) (id off:Nat) (vs:List V):ag:=
 match H.get id with
 |some (.cells e cs ro)=>H.put id (.cells e (bM cs off vs) ro)
 |_=>H
def alloc (H:ag) (o:Obj):ag:={get:=fun j=>bif Nat.beq j H.next then some o else H.get j,next:=H.next+1}
def ents (H:ag) (id:Nat):List (V×V×Nat):=match H.get id with|some (.map es _)=>es|_=>[]
def isMap (H:ag) (id:Nat):Bool:=match H.get id with|some (.map _ _)=>true|_=>false
def clock (H:ag) (id:Nat):Nat:=match H.get id with|some (.map _ c)=>c|_=>0
end ag
def eG (H:ag) (k:IntKind) (r:Option Nat):Bool:=r.isNone||(H.isMap (r.getD 0)&&sv k (H.ents (r.getD 0)))
def lk (H:ag) (r:Option Nat) (n:Int):Bool:=r.isSome&&(nq n (H.ents (r.getD 0))).isSome
def cj (H:ag) (r:Option Nat) (n:Int) (z:V):V:=bif r.isNone then z else (nq n (H.ents (r.getD 0))).getD z
def yl (H:ag) (r:Option Nat):Nat:=bif r.isNone then 0 else (H.ents (r.getD 0)).length
def ik (H:ag) (k:IntKind) (id:Nat) (n:Int) (v:V):ag:=
 bif (nq n (H.ents id)).isSome then H.put id (.map (E3 n v (H.ents id)) (H.clock id))
 else H.put id (.map (H.ents id++[(.int k n,v,H.clock id)]) (H.clock id+1))
def pC (H:ag) (r:Option Nat) (n:Int):ag:=bif r.isNone then H else H.put (r.getD 0) (.map (yk n (H.ents (r.getD 0))) (H.clock (r.getD 0)))
def mapIter (H:ag) (r:Option Nat):Obj:=bif r.isNone then .dM none 0 [] 0 else .dM r (H.clock (r.getD 0)) [] (H.clock (r.getD 0))
def mapNext (H:ag) (id:Nat) (K1:Prop) (K2:ag→Prop):Prop:=
 match H.get id with
 |some (.dM none _ _ _)=>K1
 |some (.dM (some m) bX seen tN)=>
  match H.get m with
  |some (.map es c)=>
   bif oa bX es&&Nat.ble bX tN then
    (match lj seen es with
    |[]=>K1
    |x::l=>∀b,b∈x::l→K2 (H.put id (.dM (some m) bX (seen++[b]) c)))
   else False
  |_=>False
 |_=>False
def vE (H:ag) (id:Nat):Option (V×V):=
 match H.get id with
 |some (.dM (some m) _ seen tN)=>
  match H.get m,Bz seen with
  |some (.map es c),some b=>bif Nat.beq c tN then By b es else none
  |_,_=>none
 |_=>none
def sw (H:ag) (id:Nat):Bool:=(vE H id).isSome
def kM (H:ag) (id:Nat):V:=((vE H id).getD (.cv,.cv)).1
def iJ (H:ag) (id:Nat):V:=((vE H id).getD (.cv,.cv)).2
structure St where
 tm:Nat→Option T
 lo:Nat→Option aO
 hp:ag
def St.setT (S:St) (d:Nat) (x:T):St:={S with tm:=fun t=>bif Nat.beq t d then some x else S.tm t}
def St.setL (S:St) (s:Nat) (x:aO):St:={S with lo:=fun t=>bif Nat.beq t s then some x else S.lo t}
def ab {α:Type}:List (Nat×α)→Nat→Option α
 |[],_=>none
 |(k,x)::l,n=>bif Nat.beq n k then some x else ab l n
inductive Nk where
 |bool|int (k:IntKind)|cG|aj (e:TypeId)|slice (e:TypeId)|map (k e:TypeId)|func|iface
 |vz (n:Nat) (e:TypeId)|struct (fs:List (Nat×TypeId))|tuple (ts:List TypeId)|mn
 deriving DecidableEq,Inhabited
structure TI where
 sh:Nk
 size:Nat
 bytes:Nat
 zero:Option V
 deriving Inhabited
def ofValue:Value→Option V
 | .bool b=>some (.bool b)
 | .int k n=>some (.int k n)
 | .string s=>some (.cG s)
 | .pointer none=>some (.aj none)
 | .slice none 0 0=>some (.slice none 0 0)
 | .map none=>some (.map none)
 | .nilFunc=>some .nilFunc
 | .nilIface=>some .nilIface
 |_=>none
def jU:List Value→Option (List V)
 |[]=>some []
 |x::l=>match ofValue x,jU l with
  |some y,some m=>some (y::m)
  |_,_=>none
def ll:Value→Option V
 | .agg cs=>match jU cs.toList with|some l=>some (.agg l)|none=>none
 |v=>ofValue v
def bo:TypeDesc→Nk
 | .bool=>.bool
 | .int k=>.int k
 | .string=>.cG
 | .pointer e=>.aj e
 | .slice e=>.slice e
 | .map k e=>.map k e
 | .func .. =>.func
 | .interface _=>.iface
 | .array n e=>.vz n e
 | .struct fs=>.struct (fs.toList.map fun f=>(f.offset,f.type))
 | .tuple ts=>.tuple ts.toList
 |_=>.mn
def QU (P:Program) (t:TypeId):Option TI:=
 match P.info? t,P.underlying t with
 |some i,some d=>some {sh:=bo d,size:=i.size,bytes:=i.bytes,zero:=i.zero.bind ll}
 |_,_=>none
inductive KT where
 |k (k:cg)
 |agg (ks:List cg)
 |lp (s:Nat)
 |undef
 deriving Inhabited
structure ju where
 cV:List Nat:=[]
 vA:List Nat:=[]
 cn:List (Nat×KT):=[]
 gZ:List (Nat×TypeId×List cg):=[]
 mN:List (Nat×KT):=[]
 TZ:List (Nat×TypeId×List cg):=[]
 cC:List Nat:=[]
 mg:Bool:=false
 dl:Bool:=false
 wT:List Nat:=[]
 wL:List Nat:=[]
 deriving Inhabited
structure bQ where
 aX:List Nat:=[]
 aV:List (Nat×Nat):=[]
 bg:List (Nat×ju):=[]
 aE:List (Nat×ju):=[]
 deriving Inhabited
def bC (n:Nat):List Nat→Bool
 |[]=>false
 |x::l=>Nat.beq n x||bC n l
def ln (g:TypeId→Option (List cg)):List Field→Nat→Option (List cg)
 |[],_=>some []
 |f::l,o=>bif f.name != "_" &&Nat.beq f.offset o then (match g f.type with
  |some ks=>(match ln g l (o+ks.length) with|some r=>some (ks++r)|none=>none)
  |none=>none) else none
def AY:Nat→List cg→List cg
 |0,_=>[]
 |n+1,ks=>ks++AY n ks
def lq (P:Program):Nat→TypeId→Option (List cg)
 |0,_=>none
 |d+1,t=>match P.underlying t with
  |some .bool=>some [.bool]
  |some (.int k)=>some [.int k]
  |some .string=>some [.cG]
  |some (.struct fs)=>bif P.stoodInHeld t then none else match ln (lq P d) fs.toList 0 with
   |some ks=>bif Nat.beq (P.cellsOf t) ks.length then some ks else none
   |none=>none
  |some (.array n e)=>match lq P d e with
   |some ks=>bif Nat.beq (P.cellsOf e) ks.length&&Nat.beq (P.cellsOf t) (n*ks.length) then some (AY n ks) else none
   |none=>none
  |_=>none
def iK:TypeDesc→Bool
 | .struct _=>true
 | .array _ _=>true
 |_=>false
def K8 (P:Program) (t:TypeId) (ks:List cg):Bool:=
 !P.eqGuardType P.depth t&&decide (lq P 50 t=some ks)&&(match P.underlying t with|some d=>iK d|none=>false)
structure Ext where
 run:List V→ag→(V→ag→Prop)→Prop
 mono:∀args H (K K':V→ag→Prop),(∀v H',K v H'→K' v H')→run args H K→run args H K'
 vF:∀args H (K:V→ag→Prop),run args H K→∃v H',K v H'
structure kz where
 P:Program
 ext:Nat→Option Ext:=fun _=>none
 fn:Nat→Option Func
 fn_ok:∀f x,fn f=some x→P.funcs[f]? =some x
 ti:Nat→Option TI
 ti_ok:∀t x,ti t=some x→QU P t=some x
 ann:Nat→bQ
 eqt:List (TypeId×List cg)
 eq_ok:∀t ks,ab eqt t=some ks→K8 P t ks=true
 names:P.funcs.toList.all (fun fn=> !(fn.name == "runtime.NumGoroutine"))=true
structure fS (α:Type) where
 rq:Bool
 c:Bool
 x:α
 y:α
def fS.one {α:Type} (rq:Bool) (x:α):fS α:=⟨rq,true,x,x⟩
abbrev Ev:=Operand→Option T
def cS (tm:Nat→Option T):Operand→Option T
 | .tmp t=>tm t
 | .const v=>match ofValue v with|some x=>some (.v x)|none=>none
 | .func f=>some (.v (.func f []))
 | .global _=>none
def jc (ev:Ev) (x:Operand):Option V:=match ev x with|some (.v y)=>some y|_=>none
def sx (ev:Ev):List Operand→Option (List V)
 |[]=>some []
 |x::l=>match jc ev x,sx ev l with
  |some y,some m=>some (y::m)
  |_,_=>none
def cO:Nk→Option cg
 | .bool=>some .bool
 | .int k=>some (.int k)
 | .cG=>some .cG
 | .aj _=>some .aj
 | .slice _=>some .slice
 | .map .. =>some .map
 | .func=>some .func
 | .iface=>some .iface
 |_=>none
section aF
variable (E:kz)
def size (t:TypeId):Option Nat:=match E.ti t with|some i=>some i.size|none=>none
def bh (t:TypeId):Option cg:=
 match E.ti t with
 |some i=>cO i.sh
 |none=>none
def od (t:TypeId):Option (List cg):=
 match E.ti t with
 |some i=>match i.sh,i.zero with
  | .vz ..,some (.agg z)=>some (z.map V.cU)
  | .struct _,some (.agg z)=>some (z.map V.cU)
  |_,_=>none
 |none=>none
def tP (t:TypeId) (v:V):Option (Bool×V):=
 match bh E t with
 |some k=>some (v.aw k,v.S4 k)
 |none=>match od E t with
  |some ks=>some (v.isAgg&&aI ks v.af,.agg (n8 ks v.af 0))
  |none=>none
def tQ:List TypeId→V→Nat→Option (Bool×List V)
 |[],_,_=>some (true,[])
 |t::ts,v,j=>match tP E t (ae v.ar j),tQ ts v (j+1) with
  |some (b,x),some (c,l)=>some (b&&c,x::l)
  |_,_=>none
def tT (t:TypeId) (v:V):Option (Bool×V):=
 match E.ti t with
 |some i=>match i.sh with
  | .tuple []=>some (true,v)
  | .tuple ts=>match tQ E ts v 0 with
    |some (b,l)=>some (v.aJ ts.length&&b,.tuple l)
    |none=>none
  |_=>tP E t v
 |none=>none
def kN (y:Int) (n:Nat):Nat:=min y.toNat n
def vG (op:BinOp) (k:IntKind) (x y:Int):Option (Bool×V):=
 match op with
 | .add=>some (true,.int k (k.wrap (x+y)))
 | .sub=>some (true,.int k (k.wrap (x-y)))
 | .mul=>some (true,.int k (k.wrap (x*y)))
 | .quo=>some (!(y == 0),.int k (k.wrap (x.tdiv y)))
 | .rem=>some (!(y == 0),.int k (x.tmod y))
 | .and=>some (true,.int k (k.wrap (BitVec.ofInt k.bits x &&& BitVec.ofInt k.bits y).toNat))
 | .or=>some (true,.int k (k.wrap (BitVec.ofInt k.bits x ||| BitVec.ofInt k.bits y).toNat))
 | .xor=>some (true,.int k (k.wrap (BitVec.ofInt k.bits x ^^^ BitVec.ofInt k.bits y).toNat))
 | .andNot=>some (true,.int k (k.wrap (BitVec.ofInt k.bits x &&& ~~~ BitVec.ofInt k.bits y).toNat))
 | .eql=>some (true,.bool (x == y))
 | .neq=>some (true,.bool (x != y))
 | .lss=>some (true,.bool (decide (x<y)))
 | .leq=>some (true,.bool (decide (x≤y)))
 | .gtr=>some (true,.bool (decide (x>y)))
 | .geq=>some (true,.bool (decide (x≥y)))
 | .shl=>some (decide (0≤y),.int k (k.wrap (x*2 ^ (kN y k.bits))))
 | .shr=>some (decide (0≤y),.int k (x.fdiv (2 ^ (kN y k.bits))))
def mq (x y:ByteArray):Bool:=x.toList == y.toList
def Xq (x y:ByteArray):ByteArray:=x++y
def Nl (x y:ByteArray):Bool:=Nat.ble (x.size+y.size) 9223372036854775807
def Hz (op:BinOp) (x y:ByteArray):Option (Bool×V):=
 match op with
 | .add=>some (Nl x y,.cG (Xq x y))
 | .eql=>some (true,.bool (mq x y))
 | .neq=>some (true,.bool (!(mq x y)))
 | .lss=>some (true,.bool (Op.bytesLess x.toList y.toList))
 | .leq=>some (true,.bool (Op.bytesLess x.toList y.toList||x.toList == y.toList))
 | .gtr=>some (true,.bool (!(Op.bytesLess x.toList y.toList||x.toList == y.toList)))
 | .geq=>some (true,.bool (!Op.bytesLess x.toList y.toList))
 |_=>none
def eE:List V→List V→Option Bool
 |[],[]=>some true
 | .int k x::l,.int k' y::m=>bif pB k k' then (match eE l m with|some b=>some (x == y&&b)|none=>none) else none
 | .bool x::l,.bool y::m=>match eE l m with|some b=>some (x == y&&b)|none=>none
 | .cG x::l,.cG y::m=>match eE l m with|some b=>some (x == y&&b)|none=>none
 |_,_=>none
def cZ (xs ys:List V):Bool:=match eE xs ys with|some b=>b|none=>false
def hI (t:TypeId) (v:V):Option (Bool×List V):=
 match size E t with
 |none=>none
 |some n=>match bh E t with
  |some k=>bif Nat.beq n 1 then some (v.aw k,[v]) else none
  |none=>match od E t with
   |some _=>match v with
    | .agg cs=>some (Nat.beq cs.length n,cs)
    |_=>none
   |none=>none
def sy:Operand→Bool
 | .const .nilIface=>true
 |_=>false
def iL (t:TypeId) (nils:Bool):V→V→Option (Bool×Bool)
 | .bool x,.bool y=>match bh E t with|some .bool=>some (true,x == y)|_=>none
 | .aj p,.aj none=>match bh E t with|some .aj=>some (true,p.isNone)|_=>none
 | .aj none,.aj p=>match bh E t with|some .aj=>some (true,p.isNone)|_=>none
 | .slice p _ _,.slice none _ _=>match bh E t with|some .slice=>some (true,p.isNone)|_=>none
 | .slice none _ _,.slice p _ _=>match bh E t with|some .slice=>some (true,p.isNone)|_=>none
 | .map p,.map none=>match bh E t with|some .map=>some (true,p.isNone)|_=>none
 | .map none,.map p=>match bh E t with|some .map=>some (true,p.isNone)|_=>none
 | .agg xs,.agg ys=>match ab E.eqt t,eE xs ys with|some ks,some _=>some (aI ks xs&&aI ks ys,cZ xs ys)|_,_=>none
 |v,.nilFunc=>match bh E t with|some .func=>some (v.aw .func,v.nk)|_=>none
 | .nilFunc,v=>match bh E t with|some .func=>some (v.aw .func,v.nk)|_=>none
 |v,.nilIface=>bif nils then (match bh E t with|some .iface=>some (v.aw .iface,v.fq)|_=>none) else none
 |_,_=>none
def CY (op:BinOp) (t:TypeId) (nils:Bool):V→V→Option (Bool×V)
 | .int k x,.int k' y=>
   match op with
   | .shl| .shr=>vG op k x y
   |_=>bif pB k k' then vG op k x y else none
 | .cG x,.cG y=>Hz op x y
 |x,y=>match op with
  | .eql=>match iL E t nils x y with|some (r,b)=>some (r,.bool b)|none=>none
  | .neq=>match iL E t nils x y with|some (r,b)=>some (r,.bool (!b))|none=>none
  |_=>none
def Jf (t:TypeId) (v:V):Option (Bool×Bool):=match bh E t with|some .iface=>some (v.aw .iface,v.fq)|_=>none
def CZ (t:TypeId) (v:V):Option (Bool×Bool):=match bh E t with|some .func=>some (v.aw .func,v.nk)|_=>none
def T0 (op:BinOp) (t:TypeId) (nils:Bool) (a b:V):Option (Bool×V):=
 match b with
 | .nilIface=>match nils with
   |true=>match op with
    | .eql=>match Jf E t a with|some (r,b)=>some (r,.bool b)|none=>none
    | .neq=>match Jf E t a with|some (r,b)=>some (r,.bool (!b))|none=>none
    |_=>none
   |false=>CY E op t false a .nilIface
 | .nilFunc=>match op with
   | .eql=>match CZ E t a with|some (r,b)=>some (r,.bool b)|none=>none
   | .neq=>match CZ E t a with|some (r,b)=>some (r,.bool (!b))|none=>none
   |_=>none
 |b=>CY E op t nils a b
def unV:UnOp→V→Option V
 | .not,.bool b=>some (.bool (!b))
 | .neg,.int k n=>some (.int k (k.wrap (0-n)))
 | .xor,.int k n=>some (.int k (k.wrap (BitVec.ofInt k.bits (bif k.signed then-1 else k.max) ^^^ BitVec.ofInt k.bits n).toNat))
 |_,_=>none
def mO (t:TypeId) (cs:List V) (off:Nat):Option (Bool×V):=
 match bh E t with
 |some k=>some (Nat.blt off cs.length&&(ae cs off).aw k,(ae cs off).S4 k)
 |none=>match od E t,size E t with
  |some _,some n=>some (Nat.ble (off+n) cs.length,.agg ((cs.drop off).take n))
  |_,_=>none
def HA (s:ByteArray) (i:Nat):Int:=((s.data.toList.getD i 0).toNat:Int)
def tU (t:TypeId) (f:Nat):Option (Nat×TypeId):=
 match E.ti t with
 |some i=>match i.sh with
  | .struct fs=>fs[f]?
  |_=>none
 |none=>none
def sA:Nat→Bool
 |0=>false
 |_=>true
def rR (x:Operand) (ev:Ev):Option Int:=match jc ev x with|some (.int _ i)=>some i|_=>none
def mP (ev:Ev) (x:Option Operand) (dflt most:Nat):Option (Bool×Nat):=
 match x with
 |none=>some (true,dflt)
 |some y=>match rR y ev with
  |some i=>some (decide (0≤i)&&decide (i≤(most:Int)),i.toNat)
  |none=>none
def gv (ev:Ev) (len cap:Nat) (lo hi mx:Option Operand):Option (Bool×Nat×Nat×Nat):=
 bif hi.isNone&&mx.isSome then none else
 match mP ev mx cap cap with
 |some m=>match mP ev hi len m.2 with
  |some h=>match mP ev lo 0 h.2 with
   |some l=>some (m.1&&h.1&&l.1,l.2,h.2,m.2)
   |none=>none
  |none=>none
 |none=>none
def bN (p:Oq) (n:Nat):Oq:=match p with|some (id,off)=>some (id,off+n)|none=>none
def xS (mx:Bool):List V→Option V
 |[.int k x]=>some (.int k x)
 |[.int k x,.int k' y]=>bif pB k k' then some (.int k (bif mx then (bif decide (y>x) then y else x) else (bif decide (y<x) then y else x))) else none
 |_=>none
def E4 (b:Builtin) (args:List V) (t:TypeId):Option (fS T):=
 match b,args with
 | .len,[.cG s]=>match bh E t with|some .cG=>some (.one true (.v (.int .i64 (s.size:Int))))|_=>none
 | .len,[.slice _ n _]=>match bh E t with|some .slice=>some (.one true (.v (.int .i64 (n:Int))))|_=>none
 | .cap,[.slice _ _ c]=>match bh E t with|some .slice=>some (.one true (.v (.int .i64 (c:Int))))|_=>none
 | .min,vs=>match xS false vs with|some v=>some (.one true (.v v))|none=>none
 | .max,vs=>match xS true vs with|some v=>some (.one true (.v v))|none=>none
 |_,_=>none
def BA (x:Option (Bool×V)):Option (fS T):=match x with|some (r,v)=>some (.one r (.v v))|none=>none
def qL (place:Nat→Option (Nat×TypeId)) (cells:List V):List (Nat×V)→Option (Bool×List V)
 |[]=>some (true,cells)
 |(i,v)::rest=>
  match place i with
  |none=>none
  |some (off,t)=>
   match hI E t v,size E t with
   |some (r,vs),some n=>bif Nat.beq vs.length n&&Nat.ble (off+n) cells.length then
    (match qL place (bM cells off vs) rest with
    |some (r',cs)=>some (r&&r',cs)
    |none=>none) else none
   |_,_=>none
def kO (ev:Ev):List (Nat×Operand)→Option (List (Nat×V))
 |[]=>some []
 |(i,x)::l=>match jc ev x,kO ev l with
  |some y,some m=>some ((i,y)::m)
  |_,_=>none
def tV:List (Nat×TypeId)→Bool
 |[]=>true
 |(_,t)::l=>(size E t).isSome&&tV l
def E5 (t:TypeId):Option (Nat→Option (Nat×TypeId)):=
 match E.ti t with
 |some i=>match i.sh with
  | .struct fs=>bif tV E fs then some fun j=>fs[j]? else none
  | .vz _ e=>match size E e with|some n=>some fun j=>some (j*n,e)|none=>none
  |_=>none
 |none=>none
def ba (o:Op) (ev:Ev):Option (fS T):=
 match o with
 | .move x| .assign x=>match ev x with|some y=>some (.one true y)|none=>none
 | .pick c a b=>
   match ev c with
   |some (.v (.bool t))=>
    match ev a,ev b with
    |some (.v (.bool x)),some (.v (.bool y))=>some (.one true (.v (.bool (bif t then x else y))))
    |a',b'=>match t with
     |true=>(match a' with|some y=>some (.one true y)|none=>none)
     |false=>(match b' with|some y=>some (.one true y)|none=>none)
   |_=>none
 | .binOp op t x y _=>match jc ev x,jc ev y with|some a,some b=>BA (T0 E op t (sy y) a b)|_,_=>none
 | .unOp op _ x=>match jc ev x with|some a=>(match unV op a with|some v=>some (.one true (.v v))|none=>none)|none=>none
 | .convert s d x=>
   match E.ti s,bh E d,jc ev x with
   |some _,some (.int k),some (.int _ n)=>some (.one true (.v (.int k (k.wrap n))))
   |some _,some .cG,some (.cG s)=>some (.one true (.v (.cG s)))
   |some _,some .cG,some (.int _ n)=>some (.one true (.v (.cG (Utf8.encode n))))
   |_,_,_=>none
 | .nilCheck x=>
   match ev x with
   |some (.v (.aj p))=>some (.one p.isSome (.v (.aj (some ((p.getD (0,0)).1,(p.getD (0,0)).2)))))
   |some (.lp s off)=>some (.one true (.lp s off))
   |_=>none
 | .fieldAddr t x f=>
   match tU E t f with
   |some (o,ft)=>match size E ft with
    |some n=>bif sA n then (match ev x with
     |some (.v (.aj (some (id,off))))=>some (.one true (.v (.aj (some (id,off+o)))))
     |some (.lp s off)=>some (.one true (.lp s (off+o)))
     |_=>none) else none
    |none=>none
   |none=>none
 | .field t x f=>
   match tU E t f,jc ev x with
   |some (o,ft),some (.agg cs)=>BA (mO E ft cs o)
   |_,_=>none
 | .indexAddr t x i=>
   match rR i ev,E.ti t with
   |some n,some ti=>match ti.sh with
    | .vz len e=>match size E e,ev x with
      |some sz,some (.v (.aj (some (id,off))))=>some (.one (decide (0≤n)&&decide (n<(len:Int))) (.v (.aj (some (id,off+n.toNat*sz)))))
      |some sz,some (.lp s off)=>some (.one (decide (0≤n)&&decide (n<(len:Int))) (.lp s (off+n.toNat*sz)))
      |_,_=>none
    | .slice e=>match size E e,ev x with
      |some sz,some (.v (.slice p len _))=>some (.one (decide (0≤n)&&decide (n<(len:Int))&&p.isSome) (.v (.aj (some ((p.getD (0,0)).1,(p.getD (0,0)).2+n.toNat*sz)))))
      |_,_=>none
    |_=>none
   |_,_=>none
 | .index t x i=>
   match rR i ev,E.ti t,jc ev x with
   |some n,some ti,some v=>match ti.sh,v with
    | .vz len e,.agg cs=>match size E e with
      |some sz=>match mO E e cs (n.toNat*sz) with
       |some (r,y)=>some (.one (decide (0≤n)&&decide (n<(len:Int))&&r) (.v y))
       |none=>none
      |none=>none
    | .cG,.cG s=>some (.one (decide (0≤n)&&decide (n<(s.size:Int))) (.v (.int .u8 (HA s n.toNat))))
    |_,_=>none
   |_,_,_=>none
 | .slice t x lo hi mx=>
   match E.ti t,ev x with
   |some ti,some (.v (.cG s))=>
    match ti.sh,mx with
    | .cG,none=>match gv ev s.size s.size lo hi none with
      |some (r,l,h,_)=>some (.one r (.v (.cG (s.extract l h))))
      |none=>none
    |_,_=>none
   |some ti,some (.v (.slice p len cap))=>
    match ti.sh with
    | .slice e=>match gv ev len cap lo hi mx,size E e with
      |some (r,l,h,m),some sz=>some (.one (r&&Nat.ble h m) (.v (.slice (bN p (l*sz)) (h-l) (m-l))))
      |_,_=>none
    |_=>none
   |some ti,some (.v (.aj (some (id,off))))=>
    match ti.sh with
    | .vz n e=>match gv ev n n lo hi mx,size E e with
      |some (r,l,h,m),some sz=>some (.one (r&&Nat.ble h m) (.v (.slice (some (id,off+l*sz)) (h-l) (m-l))))
      |_,_=>none
    |_=>none
   |_,_=>none
 | .makeInterface t x=>
   match bh E t,jc ev x with
   |some .iface,_=>none
   |_,some v=>match E.ti t with|some _=>some (.one true (.v (.iface t v)))|none=>none
   |_,_=>none
 | .makeFunc (.func f) first dG=>
   match first.toList,dG.toList with
   |[],_=>match sx ev dG.toList with
    |some cs=>some (.one true (.v (.func f cs)))
    |none=>none
   |x::l,[]=>match sx ev (x::l) with
    |some cs=>some (.one true (.v (.pe f cs)))
    |none=>none
   |_,_=>none
 | .extract x i=>
   match jc ev x with
   |some (.tuple vs)=>match vs[i]? with|some v=>some (.one true (.v v))|none=>none
   |_=>none
 | .build t parts=>
   match E.ti t,E5 E t,kO ev parts.toList with
   |some ti,some pl,some ps=>match ti.zero with
    |some (.agg z)=>match qL E pl z ps with|some (r,cs)=>some (.one r (.v (.agg cs)))|none=>none
    |_=>none
   |_,_,_=>none
 | .typeAssert x _ d ok=>
   match jc ev x,E.ti d with
   |some v,some ti=>match ti.sh with
    | .iface=>none
    |_=>match tP E d v.Ni,ti.zero with
     |some (r,y),some z=>
      let t:Bool:= !v.fq&&Nat.beq v.CX d
      match ok with
      |true=>
       some ⟨v.aw .iface&&(!t||r),t,.v (.tuple [y,.bool true]),.v (.tuple [z,.bool false])⟩
      |false=>some (.one (v.aw .iface&&t&&r) (.v y))
     |_,_=>none
   |_,_=>none
 | .call c=>
   match c.callee with
   | .builtin b=>match sx ev c.args.toList,c.argTypes.toList[0]? with|some vs,some t=>E4 E b vs t|_,_=>none
   |_=>none
 |_=>none
def gQ (o:Op) (ev:Ev) (s:Nat) (L:Option aO):Option (fS T):=
 match o with
 | .load t a=>
   match ev a,L with
   |some (.lp s' off),some (.cells _ cs)=>bif Nat.beq s s' then BA (mO E t cs off) else none
   |_,_=>none
 |_=>none
def lu (e:TypeId) (cs:List V):Bool×List V:=
 match od E e with
 |some ks=>(aI ks cs,n8 ks cs 0)
 |none=>(true,cs)
def eg (o:Op) (ev:Ev) (s:Nat) (L:Option aO):Option (fS (aO×T)):=
 match o with
 | .store t a x=>
   match ev a,jc ev x,L with
   |some (.lp s' off),some v,some (.cells e cs)=>
    match hI E t v with
    |some (r,vs)=>bif Nat.beq s s' then
     some (.one (r&&Nat.ble (off+vs.length) cs.length&&(lu E e (bM cs off vs)).1) (.cells e (lu E e (bM cs off vs)).2,.undef)) else none
    |none=>none
   |_,_,_=>none
 | .next it true=>
   match ev it,L with
   |some (.lp s' 0),some (.dM cG jk)=>
    bif Nat.beq s s' then
     some ⟨true,Nat.blt jk cG.size,(.dM cG (jk+(Utf8.decode cG jk).2),.v (.tuple [.bool true,.int .i64 (jk:Int),.int .i32 ((Utf8.decode cG jk).1:Int)])),
      (.dM cG jk,.v (.tuple [.bool false]))⟩
    else none
   |_,_=>none
 |_=>none
def iM (o:Op) (ev:Ev):Option (Bool×aO):=
 match o with
 | .alloc t=>match E.ti t with
   |some i=>match i.zero with|some z=>some (true,.cells t z.cells)|none=>none
   |none=>none
 | .box t x=>match jc ev x with
   |some v=>match hI E t v with|some (r,vs)=>some (r,.cells t vs)|none=>none
   |none=>none
 | .range t x=>match bh E t,jc ev x with
   |some .cG,some (.cG s)=>some (true,.dM s 0)
   |_,_=>none
 |_=>none
end aF
def br (c:Bool) (X Y:Prop):Prop:=match c with|true=>X|false=>Y
def ah (c:Bool) (X:Prop):Prop:=match c with|true=>X|false=>False
def pb (p:Oq):Nat:=(p.getD (0,0)).1
def po (p:Oq):Nat:=(p.getD (0,0)).2
theorem C0 (a b:Nat):pb (some (a,b))=a:=rfl
theorem C1 (a b:Nat):po (some (a,b))=b:=rfl
theorem oV (p:Oq):pb p=(p.getD (0,0)).1:=rfl
theorem oW (p:Oq):po p=(p.getD (0,0)).2:=rfl
def nm {α:Type} (a:α) (K:α→Prop):Prop:=K a
theorem oX {α:Type} (a:α) (K:α→Prop):nm a K=K a:=rfl
def cx {α:Type} (A:(α→Prop)→Prop) (Q:α→Prop):Prop:=A Q
structure mr where
 call:FuncId→List V→ag→(V→ag→Prop)→Prop
 loop:Code→FuncId→Nat→St→(St→Prop)→(Nat→St→Prop)→Prop
inductive Ex where
 |normal|exit (id:Nat)|ret
def fS.run {α:Type} (d:fS α) (K:α→Prop):Prop:=ah d.rq (br d.c (K d.x) (K d.y))
inductive Cls where
 |pure|oY (s:Nat)|iN (s:Nat)|tW|kK|dv|tX
def C2 (ann:bQ):Operand→Option Nat
 | .tmp t=>ab ann.aV t
 |_=>none
def E6 (ann:bQ):List Operand→Bool
 |[]=>false
 |x::l=>(C2 ann x).isSome||E6 ann l
def HB (E:kz) (ann:bQ) (o:Oper):Cls:=
 match o.op with
 | .makeFunc _ _ dG=>bif E6 ann dG.toList then .tX else .pure
 | .alloc _=>match o.dst with|some d=>bif bC d ann.aX then .tW else .dv|none=>.dv
 | .box _ _=>match o.dst with|some d=>bif bC d ann.aX then .tW else .dv|none=>.dv
 | .range _ _=>match o.dst with|some d=>bif bC d ann.aX then .tW else .dv|none=>.dv
 | .load _ a=>match C2 ann a with|some s=>.oY s|none=>.kK
 | .store _ a _=>match C2 ann a with|some s=>.iN s|none=>.dv
 | .next it true=>match C2 ann it with|some s=>.iN s|none=>.dv
 | .next _ false=>.dv
 | .makeMap .. =>.dv
 | .makeSlice .. =>.dv
 | .buildSlice .. =>.dv
 | .mapUpdate .. =>.dv
 | .insert .. =>.dv
 | .mapEntry .. =>.dv
 | .entryStore .. =>.dv
 | .lookup .. =>.kK
 | .entry _=>.kK
 | .convert s d _=>match bh E s,bh E d with
   |some .slice,some .slice=>.dv
   |some .slice,_=>.kK
   |_,some .slice=>.dv
   |_,_=>.pure
 | .call c=>match c.callee with
   | .builtin .len=>match c.argTypes.toList[0]? with
     |some t=>match bh E t with|some .map=>.kK|_=>.pure
     |none=>.pure
   | .builtin .cap=>.pure
   | .builtin .min=>.pure
   | .builtin .max=>.pure
   |_=>.dv
 |_=>.pure
section
variable (E:kz)
def dz:List V→ByteArray→ByteArray
 |[],acc=>acc
 |v::l,acc=>dz l (acc.push (UInt8.ofNat v.aa.toNat))
def HC (k:cg):List V→Bool
 |[]=>true
 |v::l=>v.aw k&&HC k l
def eX (H:ag) (p:Oq) (len:Nat):Bool:=
 p.isNone||Nat.beq len 0||(H.inb (p.getD (0,0)).1 (p.getD (0,0)).2 len&&HC (.int .u8) (H.sub (p.getD (0,0)).1 (p.getD (0,0)).2 len))
def eY (H:ag) (p:Oq) (len:Nat):ByteArray:=
 bif p.isNone||Nat.beq len 0 then ByteArray.empty else dz (H.sub (p.getD (0,0)).1 (p.getD (0,0)).2 len) ByteArray.empty
def dE (o:Op) (ev:Ev) (H:ag):Option (fS T):=
 match o with
 | .load t a=>
   match ev a with
   |some (.v (.aj (some (id,off))))=>
    match bh E t with
    |some k=>some (.one (H.inb id off 1&&(H.cell id off).aw k) (.v ((H.cell id off).S4 k)))
    |none=>match od E t,size E t with
     |some ks,some n=>some (.one (H.inb id off n&&aI ks (H.sub id off n)) (.v (.agg (n8 ks (H.sub id off n) 0))))
     |_,_=>none
   |_=>none
 | .convert s d x=>
   match E.ti s,bh E d,jc ev x with
   |some ti,some .cG,some (.slice p len _)=>
    match ti.sh with
    | .slice e=>match bh E e with
      |some (.int .u8)=>
       some (.one (eX H p len) (.v (.cG (eY H p len))))
      |_=>none
    |_=>none
   |_,_,_=>none
 | .lookup t x i commaOk=>
   match E.ti t,jc ev x,jc ev i with
   |some ti,some (.map r),some (.int k n)=>match ti.sh with
    | .map kt et=>match bh E kt,E.ti et with
      |some (.int k'),some ei=>match ei.zero with
       |some z=>match tP E et (cj H r n z) with
        |some (b,y)=>match commaOk with
         |true=>some (.one (pB k k'&&(eG H k r&&b)) (.v (.tuple [y,.bool (lk H r n)])))
         |false=>some (.one (pB k k'&&(eG H k r&&b)) (.v y))
        |none=>none
       |none=>none
      |_,_=>none
    |_=>none
   |_,_,_=>none
 | .entry it=>
   match ev it with
   |some (.v (.dM t id))=>match E.ti t with
    |some ti=>match ti.sh with
     | .map kt et=>match tP E kt (kM H id),tP E et (iJ H id) with
       |some (a,x),some (b,y)=>some (.one (sw H id&&(a&&b)) (.v (.tuple [x,y])))
       |_,_=>none
     |_=>none
    |none=>none
   |_=>none
 | .call c=>
   match c.callee,c.argTypes.toList,sx ev c.args.toList with
   | .builtin .len,t::_,some [.map r]=>match bh E t with
     |some .map=>some (.one (r.isNone||H.isMap (r.getD 0)) (.v (.int .i64 (yl H r))))
     |_=>none
   |_,_,_=>none
 |_=>none
def hJ:Nat→List V→List V
 |0,_=>[]
 |n+1,l=>l++hJ n l
def vH:List V→Bool
 |[]=>true
 |v::l=>v.one&&vH l
def ym (a b:List V):List V:=a++b
def dU (n:Nat) (z:List V):List V:=hJ n z
def eZ (s:ByteArray):List V:=s.data.toList.map fun b=>.int .u8 b.toNat
def pD (H:ag) (n:Nat) (p:Oq) (m:Nat):Bool:=
 Nat.beq m 0||(p.isSome&&(H.inb (p.getD (0,0)).1 (p.getD (0,0)).2 (m*n)&&vH (H.sub (p.getD (0,0)).1 (p.getD (0,0)).2 (m*n))))
def ly (H:ag) (n:Nat):V→Option (Nat×(Nat→Bool)×(Nat→List V))
 | .slice p len _=>some (len,fun m=>pD H n p m,fun m=>bif Nat.beq m 0 then [] else H.sub (p.getD (0,0)).1 (p.getD (0,0)).2 (m*n))
 | .cG s=>some (s.size,fun _=>Nat.beq n 1,fun m=>(eZ s).take m)
 |_=>none
def QV (lo hi:Nat) (K:Nat→Prop):Prop:=∀c,lo≤c→c≤hi→K c
def iO:Option cg→Bool
 |some .slice=>true
 |some .cG=>true
 |_=>false
def fH (t:TypeId):Option (TypeId×Nat×Nat×List V):=
 match E.ti t with
 |some ti=>match ti.sh with
  | .slice el=>match E.ti el with
    |some ei=>match ei.zero with
     |some z=>bif Nat.beq z.cells.length ei.size&&sA ei.size then some (el,ei.size,ei.bytes,z.cells) else none
     |none=>none
    |none=>none
  |_=>none
 |none=>none
def mR (H:ag) (n cN:Nat) (z:List V) (k:Option cg) (x:V):Option (Bool×Nat×(Nat→Bool)×(Nat→List V)):=
 match k with
 |some (.int .i64)=>match x with
  | .int .i64 m=>some (decide (0≤m)&&decide (m*(cN+1)≤70368744177664),m.toNat,fun _=>true,fun j=>dU j z)
  |_=>none
 |k=>match iO k with
  |true=>(match ly H n x with|some (m,ok,cs)=>some (true,m,ok,cs)|none=>none)
  |false=>none
def aP (ts:List TypeId) (args:List V) (H:ag) (K:Oq→Nat→Nat→ag→Prop):Prop:=
 match ts,args with
 |[t,u],[.slice p l cp,x]=>
  match fH E t with
  |some (el,n,cN,z)=>match mR H n cN z (bh E u) x with
   |some (r,m,ok,cs)=>ah r
    (br (Nat.ble (l+m) cp)
     (ah (Nat.beq m 0||(p.isSome&&(ok m&&H.wr (p.getD (0,0)).1 ((p.getD (0,0)).2+l*n) (m*n))))
      (K p (l+m) cp (bif Nat.beq m 0 then H else H.store (p.getD (0,0)).1 ((p.getD (0,0)).2+l*n) (cs m))))
     (ah (pD H n p l&&(ok m&&Nat.ble ((l+m)*(cN+1)) 70368744177664))
      (QV (l+m) 9223372036854775807 fun c=>K (some (H.next,0)) (l+m) c
       (H.alloc (.cells el (ym (bif Nat.beq l 0 then [] else H.sub (p.getD (0,0)).1 (p.getD (0,0)).2 (l*n)) (ym (cs m) (dU (c-(l+m)) z))) false)))))
   |none=>False
  |none=>False
 |_,_=>False
def kC (H:ag) (n:Nat) (p:Oq) (l:Nat) (x:V):Bool:=match ly H n x with
 |some (m,ok,cs)=>Nat.beq (Nat.min m l) 0||(p.isSome&&(ok (Nat.min m l)&&H.wr (p.getD (0,0)).1 (p.getD (0,0)).2 (Nat.min m l*n)))
 |none=>false
def kD (H:ag) (n:Nat) (p:Oq) (l:Nat) (x:V):ag:=match ly H n x with
 |some (m,ok,cs)=>bif Nat.beq (Nat.min m l) 0 then H else H.store (p.getD (0,0)).1 (p.getD (0,0)).2 (cs (Nat.min m l))
 |none=>H
def iP (g:FuncId) (args:List V) (H:ag) (K:V→ag→Prop):Prop:=
 match E.ext g with
 |some x=>x.run args H K
 |none=>False
def lz (R:mr) (fv:V) (args:List V) (H:ag) (K:V→ag→Prop):Prop:=
 match fv with
 | .func g cap=>match (E.ext g).isSome with
   |true=>iP E g (args++cap) H K
   |false=>R.call g (args++cap) H K
 | .pe g first=>match (E.ext g).isSome with
   |true=>iP E g (first++args) H K
   |false=>R.call g (first++args) H K
 |_=>False
def bY (o:Op) (ev:Ev) (H:ag):Option (Bool×T×ag):=
 match o with
 | .buildSlice t len parts=>
   match E.ti t,kO ev parts.toList with
   |some ti,some ps=>match ti.sh with
    | .slice el=>match size E el,E.ti el with
      |some n,some ei=>match ei.zero with
       |some z=>bif Nat.beq z.cells.length n&&sA n&&Nat.ble (len*n) 16777216 then
        (match qL E (fun j=>some (j*n,el)) (hJ len z.cells) ps with
        |some (r,cs)=>some (r,.v (.slice (some (H.next,0)) len len),H.alloc (.cells el cs false))
        |none=>none) else none
       |none=>none
      |_,_=>none
    |_=>none
   |_,_=>none
 | .makeSlice t len cap=>
   match fH E t,jc ev len,jc ev cap with
   |some (el,_,cN,z),some (.int _ l),some (.int _ c)=>
    some (decide (0≤l)&&(decide (l≤c)&&decide (c*(cN+1)≤70368744177664)),.v (.slice (some (H.next,0)) l.toNat c.toNat),H.alloc (.cells el (dU c.toNat z) false))
   |_,_,_=>none
 | .convert s d x=>
   match bh E s,jc ev x,E.ti d with
   |some .slice,some (.slice p len cap),some ti=>match ti.sh with
    | .slice e=>match bh E e with
      |some (.int .u8)=>some (Nat.beq s d&&(p.isSome&&(!Nat.beq cap 0&&H.wr (p.getD (0,0)).1 0 0)),.v (.slice p len cap),H)
      |_=>none
    |_=>none
   |_,_,_=>none
 | .call c=>
   match c.callee,c.argTypes.toList,sx ev c.args.toList with
   | .builtin .copy,t::_,some [.slice p l _,x]=>
     match fH E t with
     |some (_,n,_,_)=>match ly H n x with
      |some (m,_,_)=>some (kC H n p l x,.v (.int .i64 (Nat.min m l)),kD H n p l x)
      |none=>none
     |none=>none
   | .builtin .delete,t::_,some [.map r,.int k n]=>
     match E.ti t with
     |some ti=>match ti.sh with
      | .map kt _=>match bh E kt with
        |some (.int k')=>some (pB k k'&&eG H k r,.v (.tuple []),pC H r n)
        |_=>none
      |_=>none
     |none=>none
   | .builtin .clear,t::_,some [.slice p l _]=>
     match fH E t with
     |some (_,n,_,z)=>
      some (p.isNone||Nat.beq l 0||H.wr (p.getD (0,0)).1 (p.getD (0,0)).2 (l*n),.v (.tuple []),
       bif p.isNone||Nat.beq l 0 then H else H.store (p.getD (0,0)).1 (p.getD (0,0)).2 (dU l z))
     |none=>none
   |_,_,_=>none
 | .makeMap t none=>match bh E t with
   |some .map=>some (true,.v (.map (some H.next)),H.alloc (.map [] 0))
   |_=>none
 | .range t x=>
   match E.ti t,jc ev x with
   |some ti,some (.map r)=>match ti.sh with
    | .map _ _=>some (r.isNone||H.isMap (r.getD 0),.v (.dM t H.next),H.alloc (mapIter H r))
    |_=>none
   |_,_=>none
 |_=>none
def bJ (R:mr) (o:Op) (rt:TypeId) (ev:Ev) (H:ag) (K:T→ag→Prop):Prop:=
 match o with
 | .alloc t=>match E.ti t with
   |some i=>match i.zero with|some z=>K (.v (.aj (some (H.next,0)))) (H.alloc (.cells t z.cells false))|none=>False
   |none=>False
 | .box t x=>match jc ev x with
   |some v=>match hI E t v with
    |some (r,vs)=>ah r (K (.v (.aj (some (H.next,0)))) (H.alloc (.cells t vs false)))
    |none=>False
   |none=>False
 | .store t a x=>
   match ev a,jc ev x with
   |some (.v (.aj (some (id,off)))),some v=>
    match hI E t v with
    |some (r,vs)=>ah (r&&H.wr id off vs.length) (K .undef (H.store id off vs))
    |none=>False
   |_,_=>False
 | .mapUpdate t m x v=>
   match E.ti t,jc ev m,jc ev x,jc ev v with
   |some ti,some (.map r),some (.int k n),some v=>match ti.sh with
    | .map kt et=>match bh E kt,tP E et v with
      |some (.int k'),some (b,_)=>ah (pB k k'&&(r.isSome&&(eG H k r&&b))) (K .undef (ik H k (r.getD 0) n v))
      |_,_=>False
    |_=>False
   |_,_,_,_=>False
 | .call c=>
   match c.callee,sx ev c.args.toList with
   | .value f,some args=>
     match jc ev f with
     |some fv=>lz E R fv args H fun v H'=>match tT E rt v with|some (b,v')=>ah b (K (.v v') H')|none=>False
     |none=>False
   | .builtin .append,some args=>aP E c.argTypes.toList args H fun q n c H'=>K (.v (.slice q n c)) H'
   |_,_=>match bY E (.call c) ev H with
    |some (r,x,H')=>ah r (K x H')
    |none=>False
 | .convert s d x=>
   match bh E s,jc ev x,E.ti d with
   |some .cG,some (.cG b),some ti=>match ti.sh with
    | .slice el=>match bh E el with
      |some (.int .u8)=>ah (Nat.ble b.size 70368744177664) (QV b.size 9223372036854775807 fun c=>
       K (.v (.slice (some (H.next,0)) b.size c)) (H.alloc (.cells el (ym (eZ b) (dU (c-b.size) [.int .u8 0])) false)))
      |_=>False
    |_=>False
   |_,_,_=>match bY E (.convert s d x) ev H with
    |some (r,x,H')=>ah r (K x H')
    |none=>False
 | .next it false=>
   match ev it with
   |some (.v (.dM _ id))=>mapNext H id (K (.v (.tuple [.bool false])) H) fun H'=>K (.v (.tuple [.bool true,.cv,.cv])) H'
   |_=>False
 |o=>match bY E o ev H with
  |some (r,x,H')=>ah r (K x H')
  |none=>False
def gb (aF:List Oper) (tm:Nat→Option T) (j:Nat):Option T:=
 match aF[j]? with
 |some o=>match o.dst with|some d=>tm d|none=>none
 |none=>none
def sB (ann:bQ) (d:Nat) (S:St):St:=
 {S with tm:=fun t=>match ab ann.aV t with|some s=>bif Nat.beq s d then none else S.tm t|none=>S.tm t}
def jv (ann:bQ) (N:Nat) (dst:Option Tmp) (x:T) (S:St) (K:St→Prop):Prop:=
 match dst with
 |none=>K S
 |some d=>ah (Nat.blt d N) (match x with
  | .lp s _=>(match ab ann.aV d with|some s'=>bif Nat.beq s s' then K (S.setT d x) else False|none=>False)
  |_=>K (S.setT d x))
def pE (ann:bQ) (s:Nat) (e:TypeId) (cs:List V) (S:St):St:=
 {sB ann s S with lo:=fun t=>bif Nat.beq t s then none else S.lo t,hp:=S.hp.alloc (.cells e cs false)}
def qM (ann:bQ):List Operand→St→Option (List V×St)
 |[],S=>some ([],S)
 |x::l,S=>match cS S.tm x with
  |some (.v v)=>match qM ann l S with|some (vs,S')=>some (v::vs,S')|none=>none
  |some (.lp s 0)=>match S.lo s with
   |some (.cells e cs)=>match qM ann l (pE ann s e cs S) with|some (vs,S')=>some (.aj (some (S.hp.next,0))::vs,S')|none=>none
   |_=>none
  |_=>none
def Jg (ann:bQ) (N:Nat) (o:Oper) (S:St) (K:St→Prop):Prop:=
 match o.op with
 | .makeFunc (.func f) first dG=>match first.toList,qM ann dG.toList S with
   |[],some (vs,S')=>jv ann N o.dst (.v (.func f vs)) S' K
   |_,_=>False
 |_=>False
def jl (R:mr) (ann:bQ) (N:Nat) (o:Oper) (S:St) (K:St→Prop):Prop:=
 match HB E ann o with
 | .pure=>match ba E o.op (cS S.tm) with|some d=>d.run fun x=>jv ann N o.dst x S K|none=>False
 | .oY s=>match gQ E o.op (cS S.tm) s (S.lo s) with|some d=>d.run fun x=>jv ann N o.dst x S K|none=>False
 | .iN s=>match eg E o.op (cS S.tm) s (S.lo s) with|some d=>d.run fun x=>jv ann N o.dst x.2 (S.setL s x.1) K|none=>False
 | .tW=>match o.dst,iM E o.op (cS S.tm) with
   |some d,some (r,L)=>ah r (jv ann N (some d) (.lp d 0) ((sB ann d S).setL d L) K)
   |_,_=>False
 | .kK=>match dE E o.op (cS S.tm) S.hp with|some d=>d.run fun x=>jv ann N o.dst x S K|none=>False
 | .dv=>bJ E R o.op o.type (cS S.tm) S.hp fun x H'=>jv ann N o.dst x {S with hp:=H'} K
 | .tX=>Jg ann N o S K
def eQ (R:mr) (ann:bQ) (N:Nat) (aF:List Oper) (o:Oper) (S:St) (K:St→Prop):Prop:=
 match o.guard with
 |none=>jl E R ann N o S K
 |some (j,want)=>
  match gb aF S.tm j with
  |some (.v (.bool b))=>br (b == want) (jl E R ann N o S K) (jv ann N o.dst .undef S K)
  |some .undef=>jv ann N o.dst .undef S K
  |_=>False
def lA (R:mr) (ann:bQ) (N:Nat) (aF:List Oper):List Oper→St→(St→Prop)→Prop
 |[],S,K=>K S
 |o::l,S,K=>eQ E R ann N aF o S fun S'=>lA R ann N aF l S' K
def C3 (aF:List Oper) (j:Nat):Option Nat:=
 match aF[j]? with
 |some o=>o.dst
 |none=>none
def tY (R:mr) (ann:bQ) (N:Nat) (aF:List Oper) (o:Oper) (S:St) (K:St→Prop):Prop:=
 match o.guard with
 |none=>jl E R ann N o S K
 |some (j,want)=>
  match C3 aF j with
  |none=>False
  |some s=>
   match S.tm s with
   |some (.v (.bool b))=>br (QS want b) (jl E R ann N o (S.setT s (.v (.bool want))) K) (jv ann N o.dst .undef (S.setT s (.v (.bool (!want)))) K)
   |some .undef=>jv ann N o.dst .undef S K
   |_=>False
def sC (R:mr) (ann:bQ) (N:Nat) (aF:List Oper):List Oper→St→(St→Prop)→Prop
 |[],S,K=>K S
 |o::l,S,K=>tY E R ann N aF o S fun S'=>sC R ann N aF l S' K
def ef:Code→Nat
 | .seq a b=>ef a+ef b
 | .cond _ a b=>1+ef a+ef b
 | .block _ b=>ef b
 | .scope b=>ef b
 | .loop b=>1+ef b
 | .region .. =>1
 |_=>0
def E7 (tm:Nat→Option T):List Nat→Option (List (Nat×T))
 |[]=>some []
 |t::l=>match tm t,E7 tm l with
  |some x,some m=>some ((t,x)::m)
  |_,_=>none
def E8 (lo:Nat→Option aO):List Nat→Option (List (Nat×aO))
 |[]=>some []
 |t::l=>match lo t,E8 lo l with
  |some x,some m=>some ((t,x)::m)
  |_,_=>none
def lB (ts ls:List Nat) (S:St) (K:St→Prop):Prop:=
 match E7 S.tm ts,E8 S.lo ls with
 |some a,some b=>K ⟨ab a,ab b,S.hp⟩
 |_,_=>False
inductive fP (α:Type) where
 |leaf (a:α)
 |br (c:Bool) (x y:fP α)
 |ah (c:Bool) (x:fP α)
 |aR
def fP.run {α:Type} (K:α→Prop):fP α→Prop
 | .leaf a=>K a
 | .br c x y=>Am.br c (x.run K) (y.run K)
 | .ah c x=>Am.ah c (x.run K)
 | .aR=>False
def fP.bind {α β:Type}:fP α→(α→fP β)→fP β
 | .leaf a,k=>k a
 | .br c x y,k=>.br c (x.bind k) (y.bind k)
 | .ah c x,k=>.ah c (x.bind k)
 | .aR,_=>.aR
structure MS where
 U:List (Nat×T)
 W:List (Nat×aO)
 kn:List Nat
def pf (S:St) (U:List (Nat×T)) (t:Nat):Option T:=match ab U t with|some x=>some x|none=>S.tm t
def yn (S:St) (W:List (Nat×aO)) (t:Nat):Option aO:=match ab W t with|some x=>some x|none=>S.lo t
def MS.st (S:St) (M:MS):St:=⟨pf S M.U,yn S M.W,S.hp⟩
def C4 (ann:bQ) (N:Nat) (dst:Option Tmp) (x:T) (M:MS):fP MS:=
 match dst with
 |none=>.leaf M
 |some d=>.ah (Nat.blt d N) (match x with
  | .lp s _=>(match ab ann.aV d with|some s'=>bif Nat.beq s s' then .leaf {M with U:=(d,x)::M.U} else .aR|none=>.aR)
  |_=>.leaf {M with U:=(d,x)::M.U})
def E9 (ann:bQ) (N:Nat) (o:Oper) (S:St) (M:MS):fP MS:=
 match HB E ann o with
 | .pure=>match ba E o.op (cS (pf S M.U)) with|some d=>.ah (d.rq&&d.c) (C4 ann N o.dst d.x M)|none=>.aR
 | .oY s=>match gQ E o.op (cS (pf S M.U)) s (yn S M.W s) with|some d=>.ah (d.rq&&d.c) (C4 ann N o.dst d.x M)|none=>.aR
 | .iN s=>match eg E o.op (cS (pf S M.U)) s (yn S M.W s) with|some d=>.ah (d.rq&&d.c) (C4 ann N o.dst d.x.2 {M with W:=(s,d.x.1)::M.W})|none=>.aR
 | .kK=>match dE E o.op (cS (pf S M.U)) S.hp with|some d=>.ah (d.rq&&d.c) (C4 ann N o.dst d.x M)|none=>.aR
 |_=>.aR
def Nm (ann:bQ) (N:Nat) (aF:List Oper) (o:Oper) (S:St) (M:MS):fP MS:=
 match o.guard with
 |none=>E9 E ann N o S M
 |some (j,want)=>
  match C3 aF j with
  |none=>.aR
  |some s=>
   match pf S M.U s with
   |some (.v (.bool b))=>
    match bC s M.kn with
    |true=>match QS want b with
     |true=>E9 E ann N o S M
     |false=>C4 ann N o.dst .undef M
    |false=>.br (QS want b) (E9 E ann N o S {M with U:=(s,.v (.bool want))::M.U,kn:=s::M.kn})
     (C4 ann N o.dst .undef {M with U:=(s,.v (.bool (!want)))::M.U,kn:=s::M.kn})
   |some .undef=>C4 ann N o.dst .undef M
   |_=>.aR
def C5 (ann:bQ) (N:Nat) (aF:List Oper):List Oper→St→MS→fP MS
 |[],_,M=>.leaf M
 |o::l,S,M=>(Nm E ann N aF o S M).bind (C5 ann N aF l S)
def aK (c r1 r2:Bool):Bool:=match r1,r2 with
 |true,true=>true
 |r1,r2=>bif c then r1 else r2
def C6 (c:Bool):T→T→Option T
 | .v x,.v y=>some (.v (Hy c x y))
 | .lp s o,.lp s' o'=>bif Nat.beq s s'&&Nat.beq o o' then some (.lp s o) else none
 | .undef,.undef=>some .undef
 |_,_=>none
def C7 (c:Bool):aO→aO→Option aO
 | .cells e cs,.cells e' cs'=>bif Nat.beq e e' then (match tM c cs cs' with|some r=>some (.cells e r)|none=>none) else none
 |_,_=>none
def oe {α:Type} (g:Nat→Option α) (f:α→α→Option α) (A B:List (Nat×α)):List Nat→Option (List (Nat×α))
 |[]=>some []
 |t::l=>match oe g f A B l with
  |none=>none
  |some r=>match ab A t,ab B t with
   |none,none=>some r
   |some a,some b=>match f a b with|some m=>some ((t,m)::r)|none=>none
   |some a,none=>match g t with|some b=>(match f a b with|some m=>some ((t,m)::r)|none=>none)|none=>none
   |none,some b=>match g t with|some a=>(match f a b with|some m=>some ((t,m)::r)|none=>none)|none=>none
def og {α:Type} (a b:List Nat):List (Nat×α)→Bool
 |[]=>true
 |(t,_)::l=>(bC t a||bC t b)&&og a b l
def oZ (S:St) (ts ls dT dL:List Nat):fP MS→Option (Bool×List (Nat×T)×List (Nat×aO))
 | .leaf M=>bif og ts dT M.U&&og ls dL M.W then some (true,M.U,M.W) else none
 | .ah c x=>match oZ S ts ls dT dL x with|some (r,U,W)=>some (c&&r,U,W)|none=>none
 | .br c x y=>match oZ S ts ls dT dL x,oZ S ts ls dT dL y with
   |some (r1,U1,W1),some (r2,U2,W2)=>
    match oe S.tm (C6 c) U1 U2 ts,oe S.lo (C7 c) W1 W2 ls with
    |some U,some W=>some (aK c r1 r2,U,W)
    |_,_=>none
   |_,_=>none
 | .aR=>none
def rL (dT dL:List Nat) (S:St):St:=
 ⟨fun t=>bif bC t dT then none else S.tm t,fun s=>bif bC s dL then none else S.lo s,S.hp⟩
def pF (ts ls dT dL:List Nat) (tr:fP MS) (S:St) (K:St→Prop):Prop:=
 match oZ S ts ls dT dL tr with
 |some (r,U,W)=>ah r (K (rL dT dL ⟨pf S U,yn S W,S.hp⟩))
 |none=>False
def kE (R:mr) (ann:bQ) (N:Nat) (ts ls dT dL:List Nat) (aF:List Oper):List Oper→St→(St→Prop)→Prop
 |[],S,K=>K (rL dT dL S)
 |o::l,S,K=>match o.guard with
  |none=>tY E R ann N aF o S fun S'=>kE R ann N ts ls dT dL aF l S' K
  |some _=>pF ts ls dT dL (C5 E ann N aF (o::l) S ⟨[],[],[]⟩) S K
def T.val:Option T→V
 |some (.v x)=>x
 |_=>.none
def aB:KT→Option T→Bool
 | .k k,some (.v x)=>x.aw k
 | .agg ks,some (.v x)=>x.isAgg&&aI ks x.af
 | .lp s,some (.lp s' 0)=>Nat.beq s s'
 | .undef,some .undef=>true
 |_,_=>false
def QW:KT→Option T→T
 | .k k,x=>.v ((T.val x).S4 k)
 | .agg ks,x=>.v (.agg (n8 ks (T.val x).af 0))
 | .lp s,_=>.lp s 0
 | .undef,_=>.undef
def ao:Option aO→List V
 |some (.cells _ cs)=>cs
 |_=>[]
def eh (e:TypeId) (ks:List cg):Option aO→Bool
 |some (.cells e' cs)=>Nat.beq e e'&&aI ks cs
 |_=>false
def lC (S:St):List (Nat×KT)→Bool×List (Nat×T)
 |[]=>(true,[])
 |(t,k)::l=>(aB k (S.tm t)&&(lC S l).1,(t,QW k (S.tm t))::(lC S l).2)
def lD (S:St):List (Nat×TypeId×List cg)→Bool×List (Nat×aO)
 |[]=>(true,[])
 |(s,e,ks)::l=>(eh e ks (S.lo s)&&(lD S l).1,(s,.cells e (n8 ks (ao (S.lo s)) 0))::(lD S l).2)
def BB (ts:List (Nat×KT)) (ls:List (Nat×TypeId×List cg)) (S:St) (K:St→Prop):Prop:=
 ah ((lC S ts).1&&(lD S ls).1) (K ⟨ab (lC S ts).2,ab (lD S ls).2,S.hp⟩)
def sD (ann:bQ) (n:Nat):Option ju:=ab ann.bg n
def pG {α β:Type}:List (α×β)→List α
 |[]=>[]
 |(a,_)::l=>a::pG l
def vI (kp:ju) (K:Ex→St→Prop):List Nat→Nat→St→Prop
 |[],_,_=>False
 |j::l,id,S=>br (Nat.beq id j) (BB kp.cn kp.gZ S (K (.exit j))) (vI kp K l id S)
def oh:List Operand→List Nat
 |[]=>[]
 | .tmp t::l=>t::oh l
 |_::l=>oh l
structure jV where
 rt:List Nat
 wt:List Nat
 rl:List Nat
 wl:List Nat
 rh:Bool
 wh:Bool
 no:Bool
def kP (d:Nat):List (Nat×Nat)→List Nat
 |[]=>[]
 |(t,s)::l=>bif Nat.beq s d then t::kP d l else kP d l
def yo (aF:List Oper) (o:Oper):List Nat:=
 match o.guard with
 |some (j,_)=>(match aF[j]? with|some q=>q.dst.toList|none=>[])
 |none=>[]
def Xr (aF:List Oper) (o:Oper):List Nat:=oh o.op.operands.toList++yo aF o
def C8 (ann:bQ) (o:Oper):List Nat:=match o.dst with|some d=>kP d ann.aV|none=>[]
def mS:Cls→List Nat→List Nat→List Nat→jV
 | .pure,rt,wt,_=>⟨rt,wt,[],[],false,false,false⟩
 | .oY s,rt,wt,_=>⟨rt,wt,[s],[],false,false,false⟩
 | .iN s,rt,wt,_=>⟨rt,wt,[s],[s],false,false,false⟩
 | .tW,rt,wt,ex=>⟨rt,wt++ex,[],wt,false,false,false⟩
 | .kK,rt,wt,_=>⟨rt,wt,[],[],true,false,false⟩
 | .dv,rt,wt,_=>⟨rt,wt,[],[],true,true,false⟩
 | .tX,rt,wt,_=>⟨rt,wt,[],[],true,true,true⟩
def cX (ann:bQ) (aF:List Oper) (o:Oper):jV:=mS (HB E ann o) (Xr aF o) o.dst.toList (C8 ann o)
def jm:List Nat→List Nat→Bool
 |[],_=>false
 |x::l,m=>bC x m||jm l m
def gw (a b:jV):Bool:=
 !jm a.wt b.rt&& !jm a.wt b.wt&& !jm b.wt a.rt&& !jm a.wl b.rl&& !jm a.wl b.wl&& !jm b.wl a.rl
  && !(a.wh&&b.rh)&& !(b.wh&&a.rh)&&(!a.no&& !b.no)
def qN (acc:List (List Nat)):List Edge→List Nat
 |[]=>[]
 |e::l=>bif Region.binds .any e then e.on::(acc[e.on]?.getD []++qN acc l) else qN acc l
def iQ:List Oper→List (List Nat)→List (List Nat)
 |[],acc=>acc
 |o::l,acc=>iQ l (acc++[qN acc o.after.toList])
def C9 (i:Nat):List Edge→Bool
 |[]=>true
 |e::l=>(!Region.binds .any e||Nat.blt e.on i)&&C9 i l
def oi:List Oper→Nat→Bool
 |[],_=>true
 |o::l,i=>C9 i o.after.toList&&oi l (i+1)
def tZ (fs:List jV) (bs:List (List Nat)) (i:Nat) (f:jV):Nat→Bool
 |0=>true
 |j+1=>(match fs[j]?,bs[i]? with|some g,some b=>bC j b||gw f g|_,_=>false)&&tZ fs bs i f j
def qO (fs:List jV) (bs:List (List Nat)):List jV→Nat→Bool
 |[],_=>true
 |f::l,i=>tZ fs bs i f i&&qO fs bs l (i+1)
def yp (ann:bQ) (aF:List Oper):Bool:=
 let fs:=aF.map (cX E ann aF)
 oi aF 0&&qO fs (iQ aF []) fs 0
inductive rS where
 |nil|aR
 |one (i:Nat) (r:rS)
 |Nn (a b:rS)
 deriving Inhabited
def jw (n:Nat):List Nat→List Nat
 |[]=>[]
 |x::l=>bif Nat.beq n x then jw n l else x::jw n l
def nr (bs:List (List Nat)) (i:Nat):List Nat:=bs[i]?.getD []
def gx (bs:List (List Nat)) (rem:List Nat) (i:Nat):Bool:= !jm (nr bs i) rem
def dV (fs:List jV) (bs:List (List Nat)) (i:Nat) (f:jV):List Nat→Bool
 |[]=>true
 |j::l=>(Nat.beq i j||bC i (nr bs j)||(match fs[j]? with|some g=>gw g f&&gw f g|none=>false))&&dV fs bs i f l
def oj (fs:List jV) (bs:List (List Nat)) (rem:List Nat):List Nat→Option Nat
 |[]=>none
 |i::l=>match gx bs rem i,fs[i]? with
  |true,some f=>bif dV fs bs i f rem then some i else oj fs bs rem l
  |_,_=>oj fs bs rem l
def QX (f:Nat→rS):List Nat→rS
 |[]=>.aR
 |[i]=>.one i (f i)
 |i::l=>.Nn (.one i (f i)) (QX f l)
def qP (bs:List (List Nat)) (rem:List Nat):List Nat→List Nat
 |[]=>[]
 |i::l=>bif gx bs rem i then i::qP bs rem l else qP bs rem l
def BC (fs:List jV) (bs:List (List Nat)):Nat→List Nat→rS
 |_,[]=>.nil
 |0,_=>.aR
 |n+1,rem=>match oj fs bs rem rem with
  |some i=>.one i (BC fs bs n (jw i rem))
  |none=>QX (fun i=>BC fs bs n (jw i rem)) (qP bs rem rem)
def il (step:Nat→St→(St→Prop)→Prop):rS→St→(St→Prop)→Prop
 | .nil,S,K=>K S
 | .aR,_,_=>False
 | .one i r,S,K=>step i S fun S'=>il step r S' K
 | .Nn a b,S,K=>il step a S K∧il step b S K
def wO (kp:Option ju) (A:(Ex→St→Prop)→Prop) (K:Ex→St→Prop):Prop:=
 match kp with
 |none=>A K
 |some kp=>cx (fun Q=>A fun e S=>match e with| .normal=>lB (pG kp.cn) (pG kp.gZ) S Q|e=>K e S) fun S=>BB kp.cn kp.gZ S (K .normal)
def over {α:Type} (l:List (Nat×α)) (dr:List Nat) (g:Nat→Option α):Nat→Option α:=
 fun t=>match ab l t with|some x=>some x|none=>bif bC t dr then none else g t
def Fa (kp:ju) (S0:St) (A:(Ex→St→Prop)→Prop) (K:Ex→St→Prop):Prop:=
 cx (fun Q=>A fun e S=>match e with| .normal=>lB (pG kp.cn) (pG kp.gZ) S Q|e=>K e S)
  fun S=>ah ((lC S kp.cn).1&&(lD S kp.gZ).1) (K .normal ⟨over (lC S kp.cn).2 kp.wT S0.tm,over (lD S kp.gZ).2 kp.wL S0.lo,S.hp⟩)
def jx:List Nat→List Nat→Bool
 |[],_=>true
 |x::l,m=>bC x m&&jx l m
def K9 (ann:bQ) (wT wL:List Nat) (o:Oper):Bool:=
 jx o.dst.toList wT&&jx (C8 ann o) wT&&(match HB E ann o with
  | .iN s=>bC s wL
  | .tW=>jx o.dst.toList wL
  | .tX=>false
  |_=>true)
def jy (ann:bQ) (wT wL:List Nat):List Oper→Bool
 |[]=>true
 |o::l=>K9 E ann wT wL o&&jy ann wT wL l
def T1 (wT wL:List Nat) (kp:ju):Bool:=jx kp.wT wT&&jx kp.wL wL&&jx (pG kp.cn) wT&&jx (pG kp.gZ) wL
def No (wT wL:List Nat):Option ju→Bool
 |none=>true
 |some kp=>kp.dl&&T1 wT wL kp
def Da (ann:bQ) (wT wL:List Nat):Code→Nat→Bool
 | .skip,_=>true
 | .seq a b,n=>Da ann wT wL a n&&Da ann wT wL b (n+ef a)
 | .cond _ x y,n=>No wT wL (sD ann n)&&(Da ann wT wL x (n+1)&&Da ann wT wL y (n+1+ef x))
 | .block id b,n=>No wT wL (ab ann.aE id)&&Da ann wT wL b n
 | .scope b,n=>Da ann wT wL b n
 | .label _,_=>true
 | .exit _,_=>true
 | .ret,_=>true
 | .region _ aF _,n=>jy E ann wT wL aF.toList&&(match sD ann n with
   |none=>true
   |some kp=>match kp.mg with
    |true=>jx kp.cV wT&&jx kp.vA wL&&jx kp.wT wT&&jx kp.wL wL
    |false=>kp.dl&&T1 wT wL kp)
 |_,_=>false
def mu (ok:ju→Bool) (kp:Option ju) (S0:St) (A:(Ex→St→Prop)→Prop) (K:Ex→St→Prop):Prop:=
 match kp with
 |none=>A K
 |some kp=>match kp.dl with
  |true=>ah (ok kp) (Fa kp S0 A K)
  |false=>wO (some kp) A K
def fT (R:mr) (ann:bQ) (N:Nat) (aF:List Oper) (i:Nat) (S:St) (K:St→Prop):Prop:=
 match aF[i]? with
 |some o=>tY E R ann N aF o S K
 |none=>False
def gR (R:mr) (ann:bQ) (N:Nat) (aF:List Oper) (draw:Bool) (S:St) (K:St→Prop):Prop:=
 match !draw||yp E ann aF with
 |true=>sC E R ann N aF aF S K
 |false=>ah (oi aF 0) (il (fT E R ann N aF) (BC (aF.map (cX E ann aF)) (iQ aF []) aF.length (List.range aF.length)) S K)
def gp (R:mr) (f:FuncId) (ann:bQ) (N:Nat):Code→Nat→St→(Ex→St→Prop)→Prop
 | .skip,_,S,K=>K .normal S
 | .seq a b,n,S,K=>gp R f ann N a n S fun e S'=>match e with| .normal=>gp R f ann N b (n+ef a) S' K|e=>K e S'
 | .cond c x y,n,S,K=>
   match cS S.tm c with
   |some (.v (.bool t))=>mu (fun kp=>Da E ann kp.wT kp.wL x (n+1)&&Da E ann kp.wT kp.wL y (n+1+ef x)) (sD ann n) S
    (fun K=>br t (gp R f ann N x (n+1) S K) (gp R f ann N y (n+1+ef x) S K)) K
   |_=>False
 | .block id b,n,S,K=>mu (fun kp=>Da E ann kp.wT kp.wL b n) (ab ann.aE id) S (fun K=>gp R f ann N b n S fun e S'=>match e with
   | .exit j=>br (Nat.beq j id) (K .normal S') (K (.exit j) S')
   |e=>K e S') K
 | .exit id,_,S,K=>K (.exit id) S
 | .ret,_,S,K=>K .ret S
 | .region _ aF draw,n,S,K=>
   match sD ann n with
   |none=>gR E R ann N aF.toList draw S (K .normal)
   |some kp=>match kp.mg with
    |true=>ah (!draw||yp E ann aF.toList) (kE E R ann N kp.cV kp.vA kp.wT kp.wL aF.toList aF.toList S (K .normal))
    |false=>mu (fun kp=>jy E ann kp.wT kp.wL aF.toList) (some kp) S (fun K=>gR E R ann N aF.toList draw S (K .normal)) K
 | .loop c,n,S,K=>
   match sD ann n with
   |some kp=>lB kp.cV kp.vA S fun S0=>R.loop c f n S0 (fun S'=>BB kp.mN kp.TZ S' (K .ret)) (vI kp K kp.cC)
   |none=>False
 | .scope b,n,S,K=>gp R f ann N b n S K
 | .label _,_,S,K=>K .normal S
 |_,_,_,_=>False
def mv (S:St):ResultVar→(V→Prop)→Prop
 | .tmp t,K=>match S.tm t with|some (.v x)=>K x|_=>False
 | .cell a t,K=>match S.tm a with
   |some (.lp s off)=>match S.lo s with
    |some (.cells _ cs)=>match mO E t cs off with|some (r,v)=>ah r (K v)|none=>False
    |_=>False
   |_=>match dE E (.load t (.tmp a)) (cS S.tm) S.hp with
    |some d=>d.run fun x=>match x with| .v v=>K v|_=>False
    |none=>False
def ns (S:St):List ResultVar→(List V→Prop)→Prop
 |[],K=>K []
 |r::l,K=>mv E S r fun v=>ns S l fun vs=>K (v::vs)
def La (fn:Func) (K:V→ag→Prop) (S:St):Prop:=
 ns E S fn.results.toList fun vs=>match vs with|[v]=>K v S.hp|vs=>K (.tuple vs) S.hp
def Fb:List V→Nat→Nat→Option T
 |[],_,_=>none
 |v::l,j,t=>bif Nat.beq t j then some (.v v) else Fb l (j+1) t
def F (R:mr):mr where
 call f args H K:=
  match E.fn f with
  |some fn=>match fn.body with
   |some c=>ah (Nat.ble args.length fn.ntmps)
    (gp E R f (E.ann f) fn.ntmps c 0 ⟨Fb args 0,fun _=>none,H⟩ fun e S=>match e with| .exit _=>False|_=>La E fn K S)
   |none=>False
  |none=>False
 loop c f n S Kr Ke:=
  match E.fn f,sD (E.ann f) n with
  |some fn,some kp=>gp E R f (E.ann f) fn.ntmps c (n+1) S fun e S'=>match e with
   | .normal=>lB kp.cV kp.vA S' fun S0=>R.loop c f n S0 Kr Ke
   | .exit id=>lB (pG kp.cn) (pG kp.gZ) S' (Ke id)
   | .ret=>lB (pG kp.mN) (pG kp.TZ) S' Kr
  |_,_=>False
structure mr.le (A B:mr):Prop where
 call:∀f args H K K',(∀v H',K v H'→K' v H')→A.call f args H K→B.call f args H K'
 loop:∀c f n S Kr Qj Ke Qk,(∀S',Kr S'→Qj S')→(∀id S',Ke id S'→Qk id S')→A.loop c f n S Kr Ke→B.loop c f n S Qj Qk
def rT:mr where
 call f args H K:=∀R:mr,R.le R→(F E R).le R→R.call f args H K
 loop c f n S Kr Ke:=∀R:mr,R.le R→(F E R).le R→R.loop c f n S Kr Ke
end
theorem fc {c:Bool} {X X' Y Y':Prop} (hx:X→X') (hy:Y→Y') (h:br c X Y):br c X' Y':=by
 cases c
 ·exact hy h
 ·exact hx h
theorem bV {c:Bool} {X X':Prop} (hx:X→X') (h:ah c X):ah c X':=by
 cases c
 ·exact h
 ·exact hx h
theorem aQ {c:Bool} {X:Prop} (h:ah c X):c=true∧X:=by
 cases c
 ·exact h.elim
 ·exact⟨rfl,h⟩
theorem gy {c:Bool} {X Y:Prop} (h:br c X Y):(c=true∧X)∨(c=false∧Y):=by
 cases c
 ·exact .inr ⟨rfl,h⟩
 ·exact .inl ⟨rfl,h⟩
theorem fS.cD {α:Type} {d:fS α} {K K':α→Prop} (h:∀x,K x→K' x) (hd:d.run K):d.run K':=
 bV (fc (h _) (h _)) hd
theorem fS.ff {α:Type} {d:fS α} {K:α→Prop} (h:d.run K):d.rq=true∧K (if d.c then d.x else d.y):=by
 obtain⟨h1,h2⟩:=aQ h;refine⟨h1, ?_⟩;rcases gy h2 with⟨hc,h⟩|⟨hc,h⟩<;>simpa [hc] using h
section
variable {E:kz} {A B:mr} {ann:bQ} {N:Nat} {f:FuncId}
theorem eU {dst:Option Tmp} {x:T} {S:St} {K K':St→Prop} (h:∀S,K S→K' S) (hp:jv ann N dst x S K):jv ann N dst x S K':=by
 cases dst with
 |none=>exact h _ hp
 |some d=>
  refine bV ?_ hp
  cases x with
  |v y=>exact h _
  |undef=>exact h _
  |lp s off=>
   simp only[]
   cases ab ann.aV d with
   |none=>exact id
   |some s'=>cases hs:Nat.beq s s'<;>simp [hs];exact h _
theorem BD {lo hi:Nat} {K K':Nat→Prop} (h:∀c,K c→K' c) (ha:QV lo hi K):QV lo hi K':=fun c h1 h2=>h _ (ha c h1 h2)
theorem AZ {ts:List TypeId} {args:List V} {H:ag} {K K':Oq→Nat→Nat→ag→Prop} (h:∀q n c H',K q n c H'→K' q n c H') (ho:aP E ts args H K):aP E ts args H K':=by
 unfold aP at ho⊢;split at ho
 ·split at ho
  ·split at ho
   ·exact bV (fc (bV (h _ _ _ _)) (bV (BD fun c=>h _ _ _ _))) ho
   ·exact ho
  ·exact ho
 ·exact ho
theorem ua {g:FuncId} {args:List V} {H:ag} {K K':V→ag→Prop} (h:∀v H',K v H'→K' v H') (ho:iP E g args H K):iP E g args H K':=by
 unfold iP at ho⊢;split at ho
 ·rename_i x _;exact x.mono _ _ _ _ h ho
 ·exact ho
theorem HD (hR:A.le B) {fv:V} {args:List V} {H:ag} {K K':V→ag→Prop} (h:∀v H',K v H'→K' v H') (ho:lz E A fv args H K):lz E B fv args H K':=by
 unfold lz at ho⊢;split at ho
 ·split at ho
  ·exact ua h ho
  ·exact hR.call _ _ _ _ _ h ho
 ·split at ho
  ·exact ua h ho
  ·exact hR.call _ _ _ _ _ h ho
 ·exact ho
theorem Db {H:ag} {id:Nat} {K1 K1':Prop} {K2 K2':ag→Prop} (h1:K1→K1') (h2:∀H',K2 H'→K2' H') (ho:mapNext H id K1 K2):mapNext H id K1' K2':=by
 unfold mapNext at ho⊢;split at ho
 ·exact h1 ho
 ·split at ho
  ·rename_i es c _;revert ho;cases oa _ es&&Nat.ble _ _
   ·exact fun ho=>ho
   ·simp only[cond_true];split
    ·exact h1
    ·exact fun ho b hb=>h2 _ (ho b hb)
  ·exact ho
 ·exact ho
theorem Dc {rt:TypeId} {K K':T→ag→Prop} (h:∀x H',K x H'→K' x H') (v:V) (H':ag) (hv:match tT E rt v with|some (b,v')=>ah b (K (.v v') H')|none=>False):match tT E rt v with|some (b,v')=>ah b (K' (.v v') H')|none=>False:=by
 revert hv;split
 ·exact bV (h _ _)
 ·exact id
theorem jP (hR:A.le B) {o:Op} {rt:TypeId} {ev:Ev} {H:ag} {K K':T→ag→Prop} (h:∀x H',K x H'→K' x H') (ho:bJ E A o rt ev H K):bJ E B o rt ev H K':=by
 have simple:∀o':Op,(match bY E o' ev H with|some (r,x,H')=>ah r (K x H')|none=>False)→
  (match bY E o' ev H with|some (r,x,H')=>ah r (K' x H')|none=>False):=by
  intro o' ho;revert ho;split
  ·exact bV (h _ _)
  ·exact id
 unfold bJ at ho⊢;split at ho
 ·split at ho
  ·split at ho
   ·exact h _ _ ho
   ·exact ho
  ·exact ho
 ·split at ho
  ·split at ho
   ·exact bV (h _ _) ho
   ·exact ho
  ·exact ho
 ·split at ho
  ·split at ho
   ·exact bV (h _ _) ho
   ·exact ho
  ·exact ho
 ·split at ho
  ·split at ho
   ·split at ho
    ·exact bV (h _ _) ho
    ·exact ho
   ·exact ho
  ·exact ho
 ·split at ho
  ·split at ho
   ·exact HD hR (Dc h) ho
   ·exact ho
  ·exact AZ (fun _ _ _ _=>h _ _) ho
  ·exact simple _ ho
 ·split at ho
  ·split at ho
   ·split at ho
    ·exact bV (BD fun c=>h _ _) ho
    ·exact ho
   ·exact ho
  ·exact simple _ ho
 ·split at ho
  ·exact Db (h _ _) (fun _=>h _ _) ho
  ·exact ho
 ·exact simple _ ho
theorem yq (hR:A.le B) {o:Oper} {S:St} {K K':St→Prop} (h:∀S,K S→K' S) (ho:jl E A ann N o S K):jl E B ann N o S K':=by
 unfold jl at ho⊢;split at ho
 ·split at ho
  ·exact fS.cD (fun x=>eU h) ho
  ·exact ho
 ·split at ho
  ·exact fS.cD (fun x=>eU h) ho
  ·exact ho
 ·split at ho
  ·exact fS.cD (fun x=>eU h) ho
  ·exact ho
 ·split at ho
  ·exact bV (eU h) ho
  ·exact ho
 ·split at ho
  ·exact fS.cD (fun x=>eU h) ho
  ·exact ho
 ·exact jP hR (fun x H'=>eU h) ho
 ·unfold Jg at ho⊢;split at ho
  ·split at ho
   ·exact eU h ho
   ·exact ho
  ·exact ho
theorem eI (hR:A.le B) {aF:List Oper} {o:Oper} {S:St} {K K':St→Prop} (h:∀S,K S→K' S) (ho:eQ E A ann N aF o S K):eQ E B ann N aF o S K':=by
 unfold eQ at ho⊢;split at ho
 ·exact yq hR h ho
 ·split at ho
  ·exact fc (yq hR h) (eU h) ho
  ·exact eU h ho
  ·exact ho
theorem pH (hR:A.le B) {aF:List Oper}:∀(l:List Oper) {S:St} {K K':St→Prop},(∀S,K S→K' S)→lA E A ann N aF l S K→lA E B ann N aF l S K'
 |[],_,_,_,h,ho=>h _ ho
 |_::l,_,_,_,h,ho=>eI hR (fun _=>pH hR l h) ho
theorem BE {S:St} {s:Nat} {x:T} (h:S.tm s=some x):S.setT s x=S:=by
 have:(fun t=>bif Nat.beq t s then some x else S.tm t)=S.tm:=by
  funext t;cases hb:Nat.beq t s
  ·rfl
  ·rw[Nat.eq_of_beq_eq_true hb,h];rfl
 cases S;simp only[St.setT,St.mk.injEq,and_true];exact this
theorem hO {aF:List Oper} {o:Oper} {S:St} {K:St→Prop}:tY E A ann N aF o S K=eQ E A ann N aF o S K:=by
 unfold tY eQ
 cases o.guard with
 |none=>rfl
 |some p=>
  obtain⟨j,want⟩:=p;simp only[C3,gb]
  cases aF[j]? with
  |none=>rfl
  |some q=>
   simp only[]
   cases q.dst with
   |none=>rfl
   |some s=>
    simp only[]
    cases ht:S.tm s with
    |none=>rfl
    |some t=>cases t with
     |undef=>rfl
     |lp s' off=>rfl
     |v x=>cases x with
      |bool b=>
       simp only[QT];by_cases hb:b=want
       ·subst hb;simp only[beq_self_eq_true,br,BE ht]
       ·have hw:(b == want)=false:=by simpa using hb
        have hn:(!want)=b:=by cases b<;>cases want<;>simp_all
        simp only[hw,br,hn,BE ht]
      |_=>rfl
theorem k5 {aF:List Oper}:∀(l:List Oper) {S:St} {K:St→Prop},sC E A ann N aF l S K=lA E A ann N aF l S K
 |[],_,_=>rfl
 |o::l,S,K=>by
  simp only[sC,lA,hO];congr 1;funext S';exact k5 l
theorem im {ts ls:List Nat} {S:St} {K K':St→Prop} (h:∀S,K S→K' S) (hn:lB ts ls S K):lB ts ls S K':=by
 unfold lB at hn⊢;split at hn
 ·exact h _ hn
 ·exact hn
theorem sE {ts:List (Nat×KT)} {ls:List (Nat×TypeId×List cg)} {S:St} {K K':St→Prop} (h:∀S,K S→K' S) (hn:BB ts ls S K):BB ts ls S K':=
 bV (h _) hn
theorem wP {kp:ju} {K K':Ex→St→Prop} (h:∀e S,K e S→K' e S):∀(l:List Nat) (id:Nat) (S:St),vI kp K l id S→vI kp K' l id S
 |[],_,_,hn=>hn
 |_::l,id,S,hn=>fc (sE (h _)) (wP h l id S) hn
theorem HE {kp:Option ju} {A A':(Ex→St→Prop)→Prop} {K K':Ex→St→Prop} (h:∀e S,K e S→K' e S) (hA:∀K K',(∀e S,K e S→K' e S)→A K→A' K') (hj:wO kp A K):wO kp A' K':=by
 unfold wO at hj⊢
 cases kp with
 |none=>exact hA _ _ h hj
 |some kp=>
  refine hA _ _ ?_ hj;intro e S
  cases e with
  |normal=>exact im fun S=>sE (h _)
  |exit id=>exact h _ _
  |ret=>exact h _ _
theorem Fc {ts ls dT dL:List Nat} {tr:fP MS} {S:St} {K K':St→Prop} (h:∀S,K S→K' S) (hm:pF ts ls dT dL tr S K):pF ts ls dT dL tr S K':=by
 unfold pF at hm⊢;split at hm
 ·exact bV (h _) hm
 ·exact hm
theorem pI (hR:A.le B) {aF:List Oper} {ts ls dT dL:List Nat} {K K':St→Prop} (h:∀S,K S→K' S):∀(l:List Oper) {S:St},kE E A ann N ts ls dT dL aF l S K→kE E B ann N ts ls dT dL aF l S K'
 |[],S,hx=>h _ hx
 |o::l,S,hx=>by
  unfold kE at hx⊢;split at hx
  ·rw[hO] at hx⊢;exact eI hR (fun _=>pI hR h l) hx
  ·exact Fc h hx
theorem HF {kp:ju} {S0:St} {A A':(Ex→St→Prop)→Prop} {K K':Ex→St→Prop} (h:∀e S,K e S→K' e S) (hA:∀K K',(∀e S,K e S→K' e S)→A K→A' K') (hj:Fa kp S0 A K):Fa kp S0 A' K':=by
 unfold Fa at hj⊢;refine hA _ _ ?_ hj;intro e S
 cases e with
 |normal=>exact im fun S=>bV (h _ _)
 |exit id=>exact h _ _
 |ret=>exact h _ _
theorem sF {ok:ju→Bool} {kp:Option ju} {S0:St} {A A':(Ex→St→Prop)→Prop} {K K':Ex→St→Prop} (h:∀e S,K e S→K' e S) (hA:∀K K',(∀e S,K e S→K' e S)→A K→A' K') (hj:mu ok kp S0 A K):mu ok kp S0 A' K':=by
 unfold mu at hj⊢
 cases kp with
 |none=>exact hA _ _ h hj
 |some kp=>
  simp only[] at hj⊢;split at hj
  ·exact bV (HF h hA) hj
  ·exact HE h hA hj
theorem jW {st st':Nat→St→(St→Prop)→Prop} (hs:∀i S K K',(∀S,K S→K' S)→st i S K→st' i S K'):∀(t:rS) {S:St} {K K':St→Prop},(∀S,K S→K' S)→il st t S K→il st' t S K'
 | .nil,S,K,K',h,hx=>h _ hx
 | .aR,S,K,K',h,hx=>hx
 | .one i r,S,K,K',h,hx=>hs _ _ _ _ (fun S' hk=>jW hs r h hk) hx
 | .Nn a b,S,K,K',h,hx=>⟨jW hs a h hx.1,jW hs b h hx.2⟩
theorem om (hR:A.le B) {aF:List Oper} {draw:Bool} {S:St} {K K':St→Prop} (h:∀S,K S→K' S) (hx:gR E A ann N aF draw S K):gR E B ann N aF draw S K':=by
 unfold gR at hx⊢;revert hx;split
 ·simp only[k5];exact pH hR _ h
 ·refine bV (jW (fun i S K K' h hx=> ?_) _ h);unfold fT at hx⊢;split at hx
  ·rw[hO] at hx⊢;exact eI hR h hx
  ·exact hx
theorem gS (hR:A.le B):∀(c:Code) (n:Nat) (S:St) (K K':Ex→St→Prop),(∀e S,K e S→K' e S)→gp E A f ann N c n S K→gp E B f ann N c n S K':=by
 intro c
 induction c with
 |skip=>intro n S K K' h hx;exact h _ _ hx
 |seq a b iha ihb=>
  intro n S K K' h hx;refine iha _ _ _ _ ?_ hx;intro e S'
  cases e with
  |normal=>exact ihb _ _ _ _ h
  |exit id=>exact h _ _
  |ret=>exact h _ _
 |cond c x y ihx ihy=>
  intro n S K K' h hx;simp only[gp] at hx⊢;split at hx
  ·exact sF h (fun K K' h=>fc (ihx _ _ _ _ h) (ihy _ _ _ _ h)) hx
  ·exact hx
 |block id b ih=>
  intro n S K K' h hx;simp only[gp] at hx⊢;refine sF h ?_ hx;intro K K' h hx;refine ih _ _ _ _ ?_ hx;intro e S'
  cases e with
  |normal=>exact h _ _
  |exit j=>exact fc (h _ _) (h _ _)
  |ret=>exact h _ _
 |loop c ih=>
  intro n S K K' h hx;simp only[gp] at hx⊢;split at hx
  ·exact im (fun S0=>hR.loop _ _ _ _ _ _ _ _ (fun S'=>sE (h _)) (fun id S'=>wP h _ id S')) hx
  ·exact hx
 |exit id=>intro n S K K' h hx;exact h _ _ hx
 |ret=>intro n S K K' h hx;exact h _ _ hx
 |region id aF draw=>
  intro n S K K' h hx;simp only[gp] at hx⊢;revert hx;split
  ·exact om hR (h _)
  ·split
   ·exact bV (pI hR (h _) _)
   ·exact sF h (fun K K' h=>om hR (h _))
 |rangeFunc=>intro n S K K' h hx;exact hx
 |scope b ih=>intro n S K K' h hx;simp only[gp] at hx⊢;exact ih _ _ _ _ h hx
 |label=>intro n S K K' h hx;simp only[gp] at hx⊢;exact h _ _ hx
 |goto=>intro n S K K' h hx;exact hx
 |refuse=>intro n S K K' h hx;exact hx
theorem Dd {S:St} {r:ResultVar} {K K':V→Prop} (h:∀v,K v→K' v) (hx:mv E S r K):mv E S r K':=by
 unfold mv at hx⊢;split at hx
 ·split at hx
  ·exact h _ hx
  ·exact hx
 ·split at hx
  ·split at hx
   ·split at hx
    ·exact bV (h _) hx
    ·exact hx
   ·exact hx
  ·split at hx
   ·refine fS.cD ?_ hx;intro x
    cases x with
    |v y=>exact h _
    |_=>exact id
   ·exact hx
theorem rU {S:St}:∀(l:List ResultVar) {K K':List V→Prop},(∀v,K v→K' v)→ns E S l K→ns E S l K'
 |[],_,_,h,hx=>h _ hx
 |_::l,_,_,h,hx=>Dd (fun _=>rU l fun _=>h _) hx
theorem BF {fn:Func} {K K':V→ag→Prop} (h:∀v H,K v H→K' v H) {S:St} (hx:La E fn K S):La E fn K' S:=by
 refine rU _ ?_ hx;intro vs;split
 ·exact h _ _
 ·exact h _ _
theorem vJ (hR:A.le B):(F E A).le (F E B) where
 call f args H K K' h hx:=by
  simp only[F] at hx⊢;split at hx
  ·split at hx
   ·refine bV (gS hR _ _ _ _ _ ?_) hx;intro e S
    cases e with
    |normal=>exact BF h
    |exit id=>exact fun h=>h
    |ret=>exact BF h
   ·exact hx
  ·exact hx
 loop c f n S Kr Qj Ke Qk hr he hx:=by
  simp only[F] at hx⊢;split at hx
  ·refine gS hR _ _ _ _ _ ?_ hx;intro e S
   cases e with
   |normal=>exact im fun S0=>hR.loop _ _ _ _ _ _ _ _ hr he
   |exit id=>exact im (he id)
   |ret=>exact im hr
  ·exact hx
theorem nt:(rT E).le (rT E):=
 ⟨fun f args H _ _ hk hx R hm hp=>hm.call f args H _ _ hk (hx R hm hp),
  fun c f n S _ _ _ _ hr he hx R hm hp=>hm.loop c f n S _ _ _ _ hr he (hx R hm hp)⟩
theorem yr {R:mr} (hm:R.le R) (hp:(F E R).le R):(rT E).le R:=
 ⟨fun f args H _ _ hk hx=>hm.call f args H _ _ hk (hx R hm hp),
  fun c f n S _ _ _ _ hr he hx=>hm.loop c f n S _ _ _ _ hr he (hx R hm hp)⟩
theorem pJ:(F E (rT E)).le (rT E):=
 ⟨fun f args H _ _ hk hx R hm hp=>hp.call f args H _ _ hk ((vJ (yr hm hp)).call f args H _ _ (fun _ _=>id) hx),
  fun c f n S _ _ _ _ hr he hx R hm hp=>hp.loop c f n S _ _ _ _ hr he ((vJ (yr hm hp)).loop c f n S _ _ _ _ (fun _=>id) (fun _ _=>id) hx)⟩
theorem Fe:(rT E).le (F E (rT E)):=yr (vJ nt) (vJ pJ)
theorem Np {args:List V} {H:ag} {K:V→ag→Prop}:(rT E).call f args H K=(F E (rT E)).call f args H K:=
 propext ⟨Fe.call _ _ _ _ _ fun _ _=>id,pJ.call _ _ _ _ _ fun _ _=>id⟩
theorem Nq {c:Code} {n:Nat} {S:St} {Kr:St→Prop} {Ke:Nat→St→Prop}:(rT E).loop c f n S Kr Ke=(F E (rT E)).loop c f n S Kr Ke:=
 propext ⟨Fe.loop _ _ _ _ _ _ _ _ (fun _=>id) fun _ _=>id,pJ.loop _ _ _ _ _ _ _ _ (fun _=>id) fun _ _=>id⟩
structure iq (R:mr):Prop where
 call:∀f args H K,R.call f args H K→∃v H',K v H'
 loop:∀c f n S Kr Ke,R.loop c f n S Kr Ke→(∃S',Kr S')∨∃id S',Ke id S'
theorem fg {dst:Option Tmp} {x:T} {S:St} {K:St→Prop} (hp:jv ann N dst x S K):∃S',K S':=by
 cases dst with
 |none=>exact⟨_,hp⟩
 |some d=>
  have h:=(aQ hp).2
  cases x with
  |v y=>exact⟨_,h⟩
  |undef=>exact⟨_,h⟩
  |lp s off=>
   simp only[] at h
   cases hl:ab ann.aV d with
   |none=>rw[hl] at h;exact h.elim
   |some s'=>
    rw[hl] at h;cases hs:Nat.beq s s'<;>simp [hs] at h
    exact⟨_,h⟩
theorem xu {ts:List TypeId} {args:List V} {H:ag} {K:Oq→Nat→Nat→ag→Prop} (ho:aP E ts args H K):∃q n c H',K q n c H':=by
 unfold aP at ho;split at ho
 ·rename_i t u p l cp x;split at ho
  ·rename_i el n cN z _
   split at ho
   ·rename_i r m ok cs _;rcases gy (aQ ho).2 with⟨_,h⟩|⟨_,h⟩
    ·exact⟨_,_,_,_,(aQ h).2⟩
    ·obtain⟨hr,h⟩:=aQ h;simp only[Bool.and_eq_true] at hr;have hb:=Nat.le_of_ble_eq_true hr.2.2;refine⟨_,_,_,_,h _ (Nat.le_refl _) ?_⟩;have:l+m≤(l+m)*(cN+1):=Nat.le_mul_of_pos_right _ (by omega);omega
   ·exact ho.elim
  ·exact ho.elim
 ·exact ho.elim
theorem Df (hR:iq A) {fv:V} {args:List V} {H:ag} {K:V→ag→Prop} (ho:lz E A fv args H K):∃v H',K v H':=by
 unfold lz at ho;split at ho
 ·split at ho
  ·unfold iP at ho;split at ho
   ·rename_i x _;exact x.vF _ _ _ ho
   ·exact ho.elim
  ·exact hR.call _ _ _ _ ho
 ·split at ho
  ·unfold iP at ho;split at ho
   ·rename_i x _;exact x.vF _ _ _ ho
   ·exact ho.elim
  ·exact hR.call _ _ _ _ ho
 ·exact ho.elim
theorem yu {H:ag} {id:Nat} {K1:Prop} {K2:ag→Prop} (ho:mapNext H id K1 K2):K1∨∃H',K2 H':=by
 unfold mapNext at ho;split at ho
 ·exact .inl ho
 ·split at ho
  ·rename_i es c _;revert ho;cases oa _ es&&Nat.ble _ _
   ·exact fun ho=>ho.elim
   ·simp only[cond_true];split
    ·exact .inl
    ·exact fun ho=>.inr ⟨_,ho _ (List.mem_cons_self)⟩
  ·exact ho.elim
 ·exact ho.elim
theorem yw {rt:TypeId} {K:T→ag→Prop} (v:V) (H':ag) (hv:match tT E rt v with|some (b,v')=>ah b (K (.v v') H')|none=>False):∃x H',K x H':=by
 revert hv;split
 ·exact fun hv=>⟨_,_,(aQ hv).2⟩
 ·exact fun hv=>hv.elim
theorem o0 (hR:iq A) {o:Op} {rt:TypeId} {ev:Ev} {H:ag} {K:T→ag→Prop} (ho:bJ E A o rt ev H K):∃x H',K x H':=by
 have simple:∀o':Op,(match bY E o' ev H with|some (r,x,H')=>ah r (K x H')|none=>False)→∃x H',K x H':=by
  intro o' ho;revert ho;split
  ·exact fun ho=>⟨_,_,(aQ ho).2⟩
  ·exact fun ho=>ho.elim
 unfold bJ at ho;split at ho
 ·split at ho
  ·split at ho
   ·exact⟨_,_,ho⟩
   ·exact ho.elim
  ·exact ho.elim
 ·split at ho
  ·split at ho
   ·exact⟨_,_,(aQ ho).2⟩
   ·exact ho.elim
  ·exact ho.elim
 ·split at ho
  ·split at ho
   ·exact⟨_,_,(aQ ho).2⟩
   ·exact ho.elim
  ·exact ho.elim
 ·split at ho
  ·split at ho
   ·split at ho
    ·exact⟨_,_,(aQ ho).2⟩
    ·exact ho.elim
   ·exact ho.elim
  ·exact ho.elim
 ·split at ho
  ·split at ho
   ·obtain⟨v,H',hv⟩:=Df hR ho;exact yw v H' hv
   ·exact ho.elim
  ·obtain⟨q,n,c,H',hk⟩:=xu ho;exact⟨_,_,hk⟩
  ·exact simple _ ho
 ·split at ho
  ·split at ho
   ·split at ho
    ·obtain⟨hr,h⟩:=aQ ho;have hb:=Nat.le_of_ble_eq_true hr;exact⟨_,_,h _ (Nat.le_refl _) (by omega)⟩
    ·exact ho.elim
   ·exact ho.elim
  ·exact simple _ ho
 ·split at ho
  ·rcases yu ho with h|⟨H',h⟩
   ·exact⟨_,_,h⟩
   ·exact⟨_,_,h⟩
  ·exact ho.elim
 ·exact simple _ ho
theorem ub (hR:iq A) {o:Oper} {S:St} {K:St→Prop} (ho:jl E A ann N o S K):∃S',K S':=by
 unfold jl at ho;split at ho
 ·split at ho
  ·exact fg (fS.ff ho).2
  ·exact ho.elim
 ·split at ho
  ·exact fg (fS.ff ho).2
  ·exact ho.elim
 ·split at ho
  ·exact fg (fS.ff ho).2
  ·exact ho.elim
 ·split at ho
  ·exact fg (aQ ho).2
  ·exact ho.elim
 ·split at ho
  ·exact fg (fS.ff ho).2
  ·exact ho.elim
 ·obtain⟨x,H',h⟩:=o0 hR ho;exact fg h
 ·unfold Jg at ho;split at ho
  ·split at ho
   ·exact fg ho
   ·exact ho.elim
  ·exact ho.elim
theorem oo (hR:iq A) {aF:List Oper} {o:Oper} {S:St} {K:St→Prop} (ho:eQ E A ann N aF o S K):∃S',K S':=by
 unfold eQ at ho;split at ho
 ·exact ub hR ho
 ·split at ho
  ·rcases gy ho with⟨_,h⟩|⟨_,h⟩
   ·exact ub hR h
   ·exact fg h
  ·exact fg ho
  ·exact ho.elim
theorem rV (hR:iq A) {aF:List Oper}:∀(l:List Oper) {S:St} {K:St→Prop},lA E A ann N aF l S K→∃S',K S'
 |[],_,_,ho=>⟨_,ho⟩
 |_::l,_,_,ho=>let ⟨_,h⟩:=oo hR ho;rV hR l h
theorem gT {ts ls:List Nat} {S:St} {K:St→Prop} (h:lB ts ls S K):∃S',K S':=by
 unfold lB at h;split at h
 ·exact⟨_,h⟩
 ·exact h.elim
theorem rW {kp:ju} {K:Ex→St→Prop}:∀(l:List Nat) (id:Nat) (S:St),vI kp K l id S→∃e S',K e S'
 |[],_,_,h=>h.elim
 |_::l,id,S,h=>by
  rcases gy h with⟨_,h⟩|⟨_,h⟩
  ·exact⟨_,_,(aQ h).2⟩
  ·exact rW l id S h
theorem Dg {kp:Option ju} {Q:(Ex→St→Prop)→Prop} {K:Ex→St→Prop} (hQ:∀K,Q K→∃e S,K e S) (h:wO kp Q K):∃e S,K e S:=by
 unfold wO at h
 cases kp with
 |none=>exact hQ _ h
 |some kp=>
  obtain⟨e,S,h⟩:=hQ _ h
  cases e with
  |normal=>obtain⟨S',h⟩:=gT h;exact⟨_,_,(aQ h).2⟩
  |exit id=>exact⟨_,_,h⟩
  |ret=>exact⟨_,_,h⟩
theorem oq {ok:ju→Bool} {kp:Option ju} {S0:St} {Q:(Ex→St→Prop)→Prop} {K:Ex→St→Prop} (hQ:∀K,Q K→∃e S,K e S) (h:mu ok kp S0 Q K):∃e S,K e S:=by
 unfold mu at h
 cases kp with
 |none=>exact hQ _ h
 |some kp=>
  simp only[] at h;split at h
  ·obtain⟨e,S,h⟩:=hQ _ (aQ h).2
   cases e with
   |normal=>obtain⟨S',h⟩:=gT h;exact⟨_,_,(aQ h).2⟩
   |exit id=>exact⟨_,_,h⟩
   |ret=>exact⟨_,_,h⟩
  ·exact Dg hQ h
theorem rX (hR:iq A) {aF:List Oper} {ts ls dT dL:List Nat} {K:St→Prop}:∀(l:List Oper) {S:St},kE E A ann N ts ls dT dL aF l S K→∃S',K S'
 |[],S,hx=>⟨_,hx⟩
 |o::l,S,hx=>by
  unfold kE at hx;split at hx
  ·rw[hO] at hx;obtain⟨S',h⟩:=oo hR hx;exact rX hR l h
  ·unfold pF at hx;split at hx
   ·exact⟨_,(aQ hx).2⟩
   ·exact hx.elim
theorem mT {st:Nat→St→(St→Prop)→Prop} (hs:∀i S K,st i S K→∃S',K S'):∀(t:rS) {S:St} {K:St→Prop},il st t S K→∃S',K S'
 | .nil,S,K,hx=>⟨_,hx⟩
 | .aR,S,K,hx=>hx.elim
 | .one i r,S,K,hx=>by
   obtain⟨S',h⟩:=hs _ _ _ hx;exact mT hs r h
 | .Nn a b,S,K,hx=>mT hs a hx.1
theorem pK (hR:iq A) {aF:List Oper} {draw:Bool} {S:St} {K:St→Prop} (hx:gR E A ann N aF draw S K):∃S',K S':=by
 unfold gR at hx;revert hx;split
 ·rw[k5];exact rV hR _
 ·intro hx;refine mT (fun i S K h=> ?_) _ (aQ hx).2;unfold fT at h;split at h
  ·rw[hO] at h;exact oo hR h
  ·exact h.elim
theorem wQ (hR:iq A):∀(c:Code) (n:Nat) (S:St) (K:Ex→St→Prop),gp E A f ann N c n S K→∃e S',K e S':=by
 intro c
 induction c with
 |skip=>intro n S K hx;exact⟨_,_,hx⟩
 |seq a b iha ihb=>
  intro n S K hx;obtain⟨e,S',h⟩:=iha _ _ _ hx
  cases e with
  |normal=>exact ihb _ _ _ h
  |exit id=>exact⟨_,_,h⟩
  |ret=>exact⟨_,_,h⟩
 |cond c x y ihx ihy=>
  intro n S K hx;simp only[gp] at hx;split at hx
  ·refine oq ?_ hx;intro K h;rcases gy h with⟨_,h⟩|⟨_,h⟩
   ·exact ihx _ _ _ h
   ·exact ihy _ _ _ h
  ·exact hx.elim
 |block id b ih=>
  intro n S K hx;simp only[gp] at hx;refine oq ?_ hx;intro K hx;obtain⟨e,S',h⟩:=ih _ _ _ hx
  cases e with
  |normal=>exact⟨_,_,h⟩
  |exit j=>rcases gy h with⟨_,h⟩|⟨_,h⟩<;>exact⟨_,_,h⟩
  |ret=>exact⟨_,_,h⟩
 |loop c ih=>
  intro n S K hx;simp only[gp] at hx;split at hx
  ·obtain⟨S0,h⟩:=gT hx;rcases hR.loop _ _ _ _ _ _ h with⟨S',h⟩|⟨id,S',h⟩
   ·exact⟨_,_,(aQ h).2⟩
   ·exact rW _ _ _ h
  ·exact hx.elim
 |exit id=>intro n S K hx;exact⟨_,_,hx⟩
 |ret=>intro n S K hx;exact⟨_,_,hx⟩
 |region id aF draw=>
  intro n S K hx;simp only[gp] at hx;revert hx;split
  ·intro hx;obtain⟨S',h⟩:=pK hR hx;exact⟨_,_,h⟩
  ·split
   ·intro hx;obtain⟨S',h⟩:=rX hR _ (aQ hx).2;exact⟨_,_,h⟩
   ·intro hx;refine oq ?_ hx;intro K h;obtain⟨S',h⟩:=pK hR h;exact⟨_,_,h⟩
 |rangeFunc=>intro n S K hx;exact hx.elim
 |scope b ih=>intro n S K hx;simp only[gp] at hx;exact ih _ _ _ hx
 |label=>intro n S K hx;simp only[gp] at hx;exact⟨_,_,hx⟩
 |goto=>intro n S K hx;exact hx.elim
 |refuse=>intro n S K hx;exact hx.elim
theorem yx {S:St} {r:ResultVar} {K:V→Prop} (hx:mv E S r K):∃v,K v:=by
 unfold mv at hx;split at hx
 ·split at hx
  ·exact⟨_,hx⟩
  ·exact hx.elim
 ·split at hx
  ·split at hx
   ·split at hx
    ·exact⟨_,(aQ hx).2⟩
    ·exact hx.elim
   ·exact hx.elim
  ·split at hx
   ·have h:=(fS.ff hx).2;revert h;split
    ·exact fun h=>⟨_,h⟩
    ·exact fun h=>h.elim
   ·exact hx.elim
theorem o4 {S:St}:∀(l:List ResultVar) {K:List V→Prop},ns E S l K→∃v,K v
 |[],_,hx=>⟨_,hx⟩
 |_::l,_,hx=>let ⟨_,h⟩:=yx hx;let ⟨_,h⟩:=o4 l h;⟨_,h⟩
theorem wR {fn:Func} {K:V→ag→Prop} {S:St} (hx:La E fn K S):∃v H',K v H':=by
 obtain⟨vs,h⟩:=o4 _ hx;revert h;split
 ·exact fun h=>⟨_,_,h⟩
 ·exact fun h=>⟨_,_,h⟩
theorem Ff (hR:iq A):iq (F E A) where
 call f args H K hx:=by
  simp only[F] at hx;split at hx
  ·split at hx
   ·obtain⟨e,S,h⟩:=wQ hR _ _ _ _ (aQ hx).2
    cases e with
    |normal=>exact wR h
    |exit id=>exact h.elim
    |ret=>exact wR h
   ·exact hx.elim
  ·exact hx.elim
 loop c f n S Kr Ke hx:=by
  simp only[F] at hx;split at hx
  ·obtain⟨e,S,h⟩:=wQ hR _ _ _ _ hx
   cases e with
   |normal=>obtain⟨S',h⟩:=gT h;exact hR.loop _ _ _ _ _ _ h
   |exit id=>obtain⟨S',h⟩:=gT h;exact .inr ⟨_,_,h⟩
   |ret=>obtain⟨S',h⟩:=gT h;exact .inl ⟨_,h⟩
  ·exact hx.elim
def Jh:mr where
 call _ _ _ K:=∃v H',K v H'
 loop _ _ _ _ Kr Ke:=(∃S',Kr S')∨∃id S',Ke id S'
theorem ud:iq Jh:=⟨fun _ _ _ _ h=>h,fun _ _ _ _ _ _ h=>h⟩
theorem sG:Jh.le Jh:=
 ⟨fun _ _ _ _ _ h ⟨v,H',hk⟩=>⟨v,H',h _ _ hk⟩,
  fun _ _ _ _ _ _ _ _ hr he h=>h.imp (fun⟨S',h⟩=>⟨S',hr _ h⟩) fun⟨id,S',h⟩=>⟨id,S',he _ _ h⟩⟩
theorem sH:iq (rT E):=by
 have h:(rT E).le Jh:=yr sG
  ⟨fun f args H K K' hk hx=>sG.call f args H _ _ hk ((Ff ud).call f args H K hx),
   fun c f n S Kr Qj Ke Qk hr he hx=>sG.loop c f n S _ _ _ _ hr he ((Ff ud).loop c f n S Kr Ke hx)⟩
 exact⟨fun f args H K hx=>h.call f args H _ _ (fun _ _=>id) hx,fun c f n S Kr Ke hx=>h.loop c f n S _ _ _ _ (fun _=>id) (fun _ _=>id) hx⟩
end
theorem jz {n:Nat}:∀{l:List Nat},bC n l=true↔n∈l
 |[]=>by simp [bC]
 |x::l=>by
  rw[bC,Bool.or_eq_true,jz,List.mem_cons];exact⟨fun h=>h.imp Nat.eq_of_beq_eq_true id,fun h=>h.imp (fun e=>by subst e;exact Nat.beq_refl n) id⟩
theorem fQ {l m:List Nat} (h:jm l m=false):∀x∈l,x∉m:=by
 induction l with
 |nil=>intro x hx;cases hx
 |cons y l ih=>
  rw[jm,Bool.or_eq_false_iff] at h;intro x hx hm;rcases List.mem_cons.1 hx with rfl|hx
  ·have:=jz.2 hm;rw[h.1] at this;cases this
  ·exact ih h.2 x hx hm
structure jd where
 x:T
 QY:Option (Nat×aO):=none
 kd:Option Nat:=none
 hp:Option ag:=none
def jd.apply (ann:bQ) (dst:Option Tmp) (u:jd) (S:St):St where
 tm:=fun t=>if dst=some t then some u.x else if u.kd.isSome=true∧ab ann.aV t=u.kd then none else S.tm t
 lo:=fun s=>match u.QY with|some (s',L)=>if s=s' then some L else S.lo s|none=>S.lo s
 hp:=u.hp.getD S.hp
def Lb (ann:bQ) (N:Nat) (dst:Option Tmp) (x:T):Prop:=
 ∀d,dst=some d→Nat.blt d N=true∧∀s off,x=.lp s off→ab ann.aV d=some s
def gU (dst:Option Tmp) (x:T) (S:St):St:=match dst with|some d=>S.setT d x|none=>S
theorem ej {ann:bQ} {N:Nat} {dst:Option Tmp} {x:T} {S:St} {K:St→Prop}:jv ann N dst x S K↔Lb ann N dst x∧K (gU dst x S):=by
 cases dst with
 |none=>simp [jv,Lb,gU]
 |some d=>
  by_cases hb:d<N
  ·have hb':Nat.blt d N=true:=by simpa using hb
   cases x with
   |v y=>simp [jv,Lb,ah,hb',gU,hb]
   |undef=>simp [jv,Lb,ah,hb',gU,hb]
   |lp s off=>
    cases hl:ab ann.aV d with
    |none=>simp [jv,Lb,ah,hb',hl]
    |some s'=>
     cases hs:Nat.beq s s'
     ·have:s'≠s:=fun e=>by subst e;rw[Nat.beq_refl] at hs;cases hs
      simp [jv,Lb,ah,hb',hl,hs,this]
     ·have:s'=s:=(Nat.eq_of_beq_eq_true hs).symm;simp [jv,Lb,ah,hb',hl,gU,this,hb]
  ·have hb':Nat.blt d N=false:=by
    cases h:Nat.blt d N
    ·rfl
    ·exact(hb (by simpa using h)).elim
   simp [jv,Lb,ah,hb',hb]
theorem St.ext' {S S':St} (h1:∀t,S.tm t=S'.tm t) (h2:∀t,S.lo t=S'.lo t) (h3:S.hp=S'.hp):S=S':=by
 cases S;cases S';simp only[St.mk.injEq];exact⟨funext h1,funext h2,h3⟩
theorem aW {a b:Nat}:Nat.beq a b=decide (a=b):=by
 cases h:Nat.beq a b
 ·rw[eq_comm,decide_eq_false_iff_not];intro e;subst e;rw[Nat.beq_refl] at h;cases h
 ·rw[eq_comm,decide_eq_true_iff];exact Nat.eq_of_beq_eq_true h
section
variable {E:kz} {R:mr} {ann:bQ} {N:Nat} {aF:List Oper}
def pj (E:kz) (R:mr) (ann:bQ) (o:Oper) (S:St) (P:jd→Prop):Prop:=
 match HB E ann o with
 | .pure=>match ba E o.op (cS S.tm) with|some d=>d.run fun x=>P {x}|none=>False
 | .oY s=>match gQ E o.op (cS S.tm) s (S.lo s) with|some d=>d.run fun x=>P {x}|none=>False
 | .iN s=>match eg E o.op (cS S.tm) s (S.lo s) with|some d=>d.run fun x=>P {x:=x.2,QY:=some (s,x.1)}|none=>False
 | .tW=>match o.dst,iM E o.op (cS S.tm) with
   |some d,some (r,L)=>ah r (P {x:=.lp d 0,QY:=some (d,L),kd:=some d})
   |_,_=>False
 | .kK=>match dE E o.op (cS S.tm) S.hp with|some d=>d.run fun x=>P {x}|none=>False
 | .dv=>bJ E R o.op o.type (cS S.tm) S.hp fun x H'=>P {x,hp:=some H'}
 | .tX=>False
def mj (E:kz) (R:mr) (ann:bQ) (aF:List Oper) (o:Oper) (S:St) (P:jd→Prop):Prop:=
 match o.guard with
 |none=>pj E R ann o S P
 |some (j,want)=>
  match gb aF S.tm j with
  |some (.v (.bool b))=>br (b == want) (pj E R ann o S P) (P {x:=.undef})
  |some .undef=>P {x:=.undef}
  |_=>False
theorem nu (dst:Option Tmp) (x:T) (S:St):({x:jd}).apply ann dst S=gU dst x S:=by
 cases dst with
 |none=>exact St.ext' (fun t=>by simp [jd.apply,gU]) (fun t=>by simp [jd.apply,gU]) (by simp [jd.apply,gU])
 |some d=>
  refine St.ext' (fun t=> ?_) (fun t=>by simp [jd.apply,gU,St.setT]) (by simp [jd.apply,gU,St.setT]);by_cases h:d=t<;>simp [jd.apply,gU,St.setT,aW,h,eq_comm]
theorem Lc (dst:Option Tmp) (x:T) (s:Nat) (L:aO) (S:St):({x,QY:=some (s,L):jd}).apply ann dst S=gU dst x (S.setL s L):=by
 cases dst with
 |none=>exact St.ext' (fun t=>by simp [jd.apply,gU,St.setL]) (fun t=>by by_cases h:t=s<;>simp [jd.apply,gU,St.setL,aW,h]) (by simp [jd.apply,gU,St.setL])
 |some d=>
  refine St.ext' (fun t=> ?_) (fun t=>by by_cases h:t=s<;>simp [jd.apply,gU,St.setL,St.setT,aW,h]) (by simp [jd.apply,gU,St.setT,St.setL]);by_cases h:d=t<;>simp [jd.apply,gU,St.setT,St.setL,aW,h,eq_comm]
theorem Ld (d:Nat) (x:T) (L:aO) (S:St):({x,QY:=some (d,L),kd:=some d:jd}).apply ann (some d) S=gU (some d) x ((sB ann d S).setL d L):=by
 refine St.ext' (fun t=> ?_) (fun t=>by by_cases h:t=d<;>simp [jd.apply,gU,St.setL,St.setT,sB,aW,h]) (by simp [jd.apply,gU,St.setT,St.setL,sB]);by_cases h:d=t
 ·simp [jd.apply,gU,St.setT,aW,h]
 ·have h':¬t=d:=fun e=>h e.symm
  simp only[jd.apply,gU,St.setT,St.setL,sB,aW,h,h',Option.some.injEq,decide_false,cond_false,if_false,Option.isSome_some,true_and]
  cases hl:ab ann.aV t with
  |none=>simp
  |some s=>by_cases hs:s=d<;>simp [hs]
theorem Nr (dst:Option Tmp) (x:T) (H:ag) (S:St):({x,hp:=some H:jd}).apply ann dst S=gU dst x {S with hp:=H}:=by
 cases dst with
 |none=>exact St.ext' (fun t=>by simp [jd.apply,gU]) (fun t=>by simp [jd.apply,gU]) (by simp [jd.apply,gU])
 |some d=>
  refine St.ext' (fun t=> ?_) (fun t=>by simp [jd.apply,gU,St.setT]) (by simp [jd.apply,gU,St.setT]);by_cases h:d=t<;>simp [jd.apply,gU,St.setT,aW,h,eq_comm]
theorem BG {o:Oper} {S:St} {K:St→Prop} (hno:(cX E ann aF o).no=false):jl E R ann N o S K↔pj E R ann o S fun u=>Lb ann N o.dst u.x∧K (u.apply ann o.dst S):=by
 unfold cX at hno;unfold jl pj
 cases wN:HB E ann o with
 |tX=>rw[wN] at hno;cases hno
 |pure=>simp only[];cases ba E o.op (cS S.tm) with
  |none=>exact Iff.rfl
  |some d=>simp only[ej,nu]
 |oY s=>simp only[];cases gQ E o.op (cS S.tm) s (S.lo s) with
  |none=>exact Iff.rfl
  |some d=>simp only[ej,nu]
 |iN s=>simp only[];cases eg E o.op (cS S.tm) s (S.lo s) with
  |none=>exact Iff.rfl
  |some d=>simp only[ej,Lc]
 |tW=>cases hd:o.dst with
  |none=>exact Iff.rfl
  |some d=>simp only[];cases iM E o.op (cS S.tm) with
   |none=>exact Iff.rfl
   |some p=>simp only[ej,Ld]
 |kK=>simp only[];cases dE E o.op (cS S.tm) S.hp with
  |none=>exact Iff.rfl
  |some d=>simp only[ej,nu]
 |dv=>simp only[ej,Nr]
theorem nv {o:Oper} {S:St} {K:St→Prop} (hno:(cX E ann aF o).no=false):eQ E R ann N aF o S K↔mj E R ann aF o S fun u=>Lb ann N o.dst u.x∧K (u.apply ann o.dst S):=by
 unfold eQ mj
 cases o.guard with
 |none=>exact BG hno
 |some p=>
  obtain⟨j,want⟩:=p;simp only[]
  cases gb aF S.tm j with
  |none=>exact Iff.rfl
  |some t=>cases t with
   |undef=>simp only[ej,nu]
   |lp s off=>exact Iff.rfl
   |v x=>cases x with
    |bool b=>
     simp only[br]
     cases b == want with
     |true=>exact BG hno
     |false=>simp only[ej,nu]
    |_=>exact Iff.rfl
theorem BH (hR:R.le R) {o:Oper} {S:St} {P P':jd→Prop} (h:∀u,P u→P' u) (ho:pj E R ann o S P):pj E R ann o S P':=by
 unfold pj at ho⊢;split at ho
 ·split at ho
  ·exact fS.cD (fun x=>h _) ho
  ·exact ho
 ·split at ho
  ·exact fS.cD (fun x=>h _) ho
  ·exact ho
 ·split at ho
  ·exact fS.cD (fun x=>h _) ho
  ·exact ho
 ·split at ho
  ·exact bV (h _) ho
  ·exact ho
 ·split at ho
  ·exact fS.cD (fun x=>h _) ho
  ·exact ho
 ·exact jP hR (fun x H'=>h _) ho
 ·exact ho
theorem qQ (hR:R.le R) {o:Oper} {S:St} {P P':jd→Prop} (h:∀u,P u→P' u) (ho:mj E R ann aF o S P):mj E R ann aF o S P':=by
 unfold mj at ho⊢;split at ho
 ·exact BH hR h ho
 ·split at ho
  ·exact fc (BH hR h) (h _) ho
  ·exact h _ ho
  ·exact ho
theorem Fg (hR:iq R) {o:Oper} {S:St} {P:jd→Prop} (ho:mj E R ann aF o S P):∃u,P u:=by
 have key:pj E R ann o S P→∃u,P u:=by
  intro ho;unfold pj at ho;split at ho
  ·split at ho
   ·exact⟨_,(fS.ff ho).2⟩
   ·exact ho.elim
  ·split at ho
   ·exact⟨_,(fS.ff ho).2⟩
   ·exact ho.elim
  ·split at ho
   ·exact⟨_,(fS.ff ho).2⟩
   ·exact ho.elim
  ·split at ho
   ·exact⟨_,(aQ ho).2⟩
   ·exact ho.elim
  ·split at ho
   ·exact⟨_,(fS.ff ho).2⟩
   ·exact ho.elim
  ·obtain⟨x,H',h⟩:=o0 hR ho;exact⟨_,h⟩
  ·exact ho.elim
 unfold mj at ho;split at ho
 ·exact key ho
 ·split at ho
  ·rcases gy ho with⟨_,h⟩|⟨_,h⟩
   ·exact key h
   ·exact⟨_,h⟩
  ·exact⟨_,ho⟩
  ·exact ho.elim
theorem fS.xT {α:Type} {d:fS α} {K:α→Prop} (h:d.run K):∃x,∀K':α→Prop,d.run K'↔K' x:=by
 obtain⟨h1,h2⟩:=aQ h;rcases gy h2 with⟨hc,h⟩|⟨hc,h⟩
 ·exact⟨d.x,fun K'=>by simp [fS.run,ah,br,h1,hc]⟩
 ·exact⟨d.y,fun K'=>by simp [fS.run,ah,br,h1,hc]⟩
theorem Fh {o:Oper} {S:St} {P:jd→Prop} (hw:(cX E ann aF o).wh=false) (ho:mj E R ann aF o S P):∃u,∀P':jd→Prop,mj E R ann aF o S P'↔P' u:=by
 have key:pj E R ann o S P→∃u,∀P':jd→Prop,pj E R ann o S P'↔P' u:=by
  intro ho;unfold pj at ho⊢;unfold cX at hw
  cases hc:HB E ann o with
  |pure=>
   simp only[hc] at ho⊢
   cases hp:ba E o.op (cS S.tm) with
   |none=>simp only[hp] at ho
   |some d=>simp only[hp] at ho⊢;obtain⟨x,h⟩:=fS.xT ho;exact⟨_,fun P'=>h fun x=>P' {x}⟩
  |oY s=>
   simp only[hc] at ho⊢
   cases hp:gQ E o.op (cS S.tm) s (S.lo s) with
   |none=>simp only[hp] at ho
   |some d=>simp only[hp] at ho⊢;obtain⟨x,h⟩:=fS.xT ho;exact⟨_,fun P'=>h fun x=>P' {x}⟩
  |iN s=>
   simp only[hc] at ho⊢
   cases hp:eg E o.op (cS S.tm) s (S.lo s) with
   |none=>simp only[hp] at ho
   |some d=>simp only[hp] at ho⊢;obtain⟨x,h⟩:=fS.xT ho;exact⟨_,fun P'=>h fun x=>P' {x:=x.2,QY:=some (s,x.1)}⟩
  |tW=>
   simp only[hc] at ho⊢
   cases hd:o.dst with
   |none=>simp only[hd] at ho
   |some d=>
    cases hp:iM E o.op (cS S.tm) with
    |none=>simp only[hd,hp] at ho
    |some p=>
     simp only[hd,hp] at ho⊢;exact⟨{x:=.lp d 0,QY:=some (d,p.2),kd:=some d},fun P'=>by simp only[ah,(aQ ho).1]⟩
  |kK=>
   simp only[hc] at ho⊢
   cases hp:dE E o.op (cS S.tm) S.hp with
   |none=>simp only[hp] at ho
   |some d=>simp only[hp] at ho⊢;obtain⟨x,h⟩:=fS.xT ho;exact⟨_,fun P'=>h fun x=>P' {x}⟩
  |dv=>rw[hc] at hw;cases hw
  |tX=>rw[hc] at hw;cases hw
 unfold mj at ho⊢
 cases hg:o.guard with
 |none=>simp only[hg] at ho⊢;exact key ho
 |some p=>
  obtain⟨j,want⟩:=p;simp only[hg] at ho⊢
  cases hy:gb aF S.tm j with
  |none=>simp only[hy] at ho
  |some t=>cases t with
   |undef=>simp only[];exact⟨{x:=.undef},fun P'=>Iff.rfl⟩
   |lp s off=>simp only[hy] at ho
   |v x=>cases x with
    |bool b=>
     simp only[hy] at ho⊢;rcases gy ho with⟨hb,h⟩|⟨hb,h⟩
     ·obtain⟨u,h⟩:=key h;exact⟨u,fun P'=>by simp only[br,hb];exact h _⟩
     ·exact⟨{x:=.undef},fun P'=>by simp only[br,hb]⟩
    |_=>simp only[hy] at ho
def jd.kF (ann:bQ) (f:jV) (dst:Option Tmp) (u:jd):Prop:=
 (∀t,dst=some t→t∈f.wt)∧(∀s L,u.QY=some (s,L)→s∈f.wl)∧(u.hp.isSome=true→f.wh=true)∧
  (∀d,u.kd=some d→∀t,ab ann.aV t=some d→t∈f.wt)
theorem Fi {t d:Nat}:∀{l:List (Nat×Nat)},ab l t=some d→t∈kP d l
 |[],h=>by cases h
 |(k,x)::l,h=>by
  simp only[ab,aW] at h;simp only[kP,aW];by_cases hk:t=k
  ·simp only[hk,decide_true,cond_true,Option.some.injEq] at h;simp [h,hk]
  ·simp only[hk,decide_false,cond_false] at h;have:=Fi h;by_cases hx:x=d<;>simp [hx,this]
theorem Ns {o:Oper} {t:Nat} (ht:o.dst=some t):t∈(cX E ann aF o).wt:=by
 unfold cX;cases HB E ann o<;>simp [mS,ht]
theorem wS (hR:R.le R) {o:Oper} {S:St} {P:jd→Prop} (ho:mj E R ann aF o S P):mj E R ann aF o S fun u=>P u∧u.kF ann (cX E ann aF o) o.dst:=by
 have hd:∀t,o.dst=some t→t∈(cX E ann aF o).wt:=fun t ht=>Ns ht
 have plain:∀x:T,({x:jd}).kF ann (cX E ann aF o) o.dst:=
  fun x=>⟨hd,fun _ _ h=>by simp at h,fun h=>by simp at h,fun _ h=>by simp at h⟩
 have key:pj E R ann o S P→pj E R ann o S fun u=>P u∧u.kF ann (cX E ann aF o) o.dst:=by
  intro ho;unfold pj at ho⊢
  cases hc:HB E ann o with
  |pure=>
   simp only[hc] at ho⊢
   cases hp:ba E o.op (cS S.tm) with
   |none=>simp only[hp] at ho
   |some d=>simp only[hp] at ho⊢;exact fS.cD (fun x h=>⟨h,plain _⟩) ho
  |oY s=>
   simp only[hc] at ho⊢
   cases hp:gQ E o.op (cS S.tm) s (S.lo s) with
   |none=>simp only[hp] at ho
   |some d=>simp only[hp] at ho⊢;exact fS.cD (fun x h=>⟨h,plain _⟩) ho
  |iN s=>
   simp only[hc] at ho⊢
   cases hp:eg E o.op (cS S.tm) s (S.lo s) with
   |none=>simp only[hp] at ho
   |some d=>
    simp only[hp] at ho⊢;refine fS.cD (fun x h=>⟨h,hd,fun s' L h=> ?_,fun h=>by simp at h,fun _ h=>by simp at h⟩) ho;simp only[Option.some.injEq,Prod.mk.injEq] at h;simp [cX,mS,hc,h.1]
  |tW=>
   simp only[hc] at ho⊢
   cases xL:o.dst with
   |none=>simp only[xL] at ho
   |some d=>
    cases hp:iM E o.op (cS S.tm) with
    |none=>simp only[xL,hp] at ho
    |some p=>
     simp only[xL,hp] at ho⊢;refine bV (fun h=>⟨h,fun t ht=>hd t (xL▸ht),fun s' L h=> ?_,fun h=>by simp at h,fun d' h t ht=> ?_⟩) ho
     ·simp only[Option.some.injEq,Prod.mk.injEq] at h;simp [cX,mS,hc,xL,h.1]
     ·simp only[Option.some.injEq] at h;subst h;simp [cX,mS,hc,xL,C8,Fi ht]
  |kK=>
   simp only[hc] at ho⊢
   cases hp:dE E o.op (cS S.tm) S.hp with
   |none=>simp only[hp] at ho
   |some d=>simp only[hp] at ho⊢;exact fS.cD (fun x h=>⟨h,plain _⟩) ho
  |dv=>
   simp only[hc] at ho⊢;exact jP hR (fun x H' h=>⟨h,hd,fun _ _ h=>by simp at h,fun _=>by simp [cX,mS,hc],fun _ h=>by simp at h⟩) ho
  |tX=>simp only[hc] at ho
 unfold mj at ho⊢
 cases hg:o.guard with
 |none=>simp only[hg] at ho⊢;exact key ho
 |some p=>
  obtain⟨j,want⟩:=p;simp only[hg] at ho⊢
  cases hy:gb aF S.tm j with
  |none=>simp only[hy] at ho
  |some t=>cases t with
   |undef=>simp only[hy] at ho⊢;exact⟨ho,plain _⟩
   |lp s off=>simp only[hy] at ho
   |v x=>cases x with
    |bool b=>simp only[hy] at ho⊢;exact fc key (fun h=>⟨h,plain _⟩) ho
    |_=>simp only[hy] at ho
end
section
variable {E:kz} {R:mr} {ann:bQ} {N:Nat} {aF:List Oper}
theorem ir {ev ev':Ev}:∀{l:List Operand},(∀x∈l,ev x=ev' x)→sx ev l=sx ev' l
 |[],_=>rfl
 |x::l,h=>by
  simp only[sx,jc,h x (List.mem_cons_self ..),ir (l:=l) fun y hy=>h y (List.mem_cons_of_mem _ hy)]
theorem mU {ev ev':Ev}:∀{l:List (Nat×Operand)},(∀x∈l.map (·.2),ev x=ev' x)→kO ev l=kO ev' l
 |[],_=>rfl
 |(i,x)::l,h=>by
  simp only[kO,jc,h x (by simp),mU (l:=l) fun y hy=>h y (by simp only[List.map_cons,List.mem_cons];exact .inr hy)]
theorem Fj {ev ev':Ev} {x:Operand} (h:ev x=ev' x):rR x ev=rR x ev':=by simp only[rR,jc,h]
theorem ot {ev ev':Ev} {x:Option Operand} {d m:Nat} (h:∀y,x=some y→ev y=ev' y):mP ev x d m=mP ev' x d m:=by
 cases x with
 |none=>rfl
 |some y=>simp only[mP,Fj (h y rfl)]
theorem rY {ev ev':Ev} {len cap:Nat} {lo hi mx:Option Operand} (h1:∀x,lo=some x→ev x=ev' x) (h2:∀x,hi=some x→ev x=ev' x) (h3:∀x,mx=some x→ev x=ev' x):gv ev len cap lo hi mx=gv ev' len cap lo hi mx:=by
 simp only[gv,ot h1,ot h2,ot h3]
theorem Dh {o:Op} {ev ev':Ev} (h:∀x∈o.operands.toList,ev x=ev' x):ba E o ev=ba E o ev':=by
 cases o with
 |move x=>simp only[ba,h x (by simp [Op.operands])]
 |assign x=>simp only[ba,h x (by simp [Op.operands])]
 |pick c a b=>simp only[ba,h c (by simp [Op.operands]),h a (by simp [Op.operands]),h b (by simp [Op.operands])]
 |binOp op t x y _=>simp only[ba,jc,h x (by simp [Op.operands]),h y (by simp [Op.operands])]
 |unOp op t x=>simp only[ba,jc,h x (by simp [Op.operands])]
 |convert s d x=>simp only[ba,jc,h x (by simp [Op.operands])]
 |nilCheck x=>simp only[ba,h x (by simp [Op.operands])]
 |fieldAddr t x f=>simp only[ba,h x (by simp [Op.operands])]
 |field t x f=>simp only[ba,jc,h x (by simp [Op.operands])]
 |indexAddr t x i=>simp only[ba,rR,jc,h x (by simp [Op.operands]),h i (by simp [Op.operands])]
 |index t x i=>simp only[ba,rR,jc,h x (by simp [Op.operands]),h i (by simp [Op.operands])]
 |slice t x lo hi mx=>
  have hb:∀len cap,gv ev len cap lo hi mx=gv ev' len cap lo hi mx:=fun len cap=>
   rY (fun y hy=>h y (by subst hy;simp [Op.operands])) (fun y hy=>h y (by subst hy;simp [Op.operands])) (fun y hy=>h y (by subst hy;simp [Op.operands]))
  have hb':∀len cap,gv ev len cap lo hi none=gv ev' len cap lo hi none:=fun len cap=>
   rY (fun y hy=>h y (by subst hy;simp [Op.operands])) (fun y hy=>h y (by subst hy;simp [Op.operands])) (fun y hy=>by cases hy)
  simp only[ba,hb,hb',h x (by simp [Op.operands])]
 |makeInterface t x=>simp only[ba,jc,h x (by simp [Op.operands])]
 |makeFunc f first dG=>
  cases f with
  |func f=>
   have h1:=ir (ev:=ev) (ev':=ev') (l:=dG.toList) fun x hx=>h x (by simp only[Op.operands,Array.toList_append,List.mem_append];exact .inr hx)
   have h2:=ir (ev:=ev) (ev':=ev') (l:=first.toList) fun x hx=>h x (by simp only[Op.operands,Array.toList_append,List.mem_append];exact .inl hx)
   simp only[ba]
   cases hf:first.toList with
   |nil=>simp only[h1]
   |cons x l=>
    rw[hf] at h2
    cases dG.toList with
    |nil=>simp only[h2]
    |cons y m=>rfl
  |_=>rfl
 |extract x i=>simp only[ba,jc,h x (by simp [Op.operands])]
 |build t parts=>
  have h1:=mU (ev:=ev) (ev':=ev') (l:=parts.toList) fun x hx=>h x (by simpa only[Op.operands] using hx)
  simp only[ba,h1]
 |typeAssert x xt d ok=>simp only[ba,jc,h x (by simp [Op.operands])]
 |call c=>
  have h1:=ir (ev:=ev) (ev':=ev') (l:=c.args.toList) fun x hx=>h x (by
   simp only[Op.operands,Call.operands,Array.toList_append,List.mem_append];exact .inr hx)
  simp only[ba,h1]
 |_=>rfl
theorem A0 {o:Op} {ev ev':Ev} {s:Nat} {L:Option aO} (h:∀x∈o.operands.toList,ev x=ev' x):gQ E o ev s L=gQ E o ev' s L:=by
 cases o with
 |load t a=>simp only[gQ,h a (by simp [Op.operands])]
 |_=>rfl
theorem yy {o:Op} {ev ev':Ev} {s:Nat} {L:Option aO} (h:∀x∈o.operands.toList,ev x=ev' x):eg E o ev s L=eg E o ev' s L:=by
 cases o with
 |store t a x=>simp only[eg,jc,h a (by simp [Op.operands]),h x (by simp [Op.operands])]
 |next it b=>cases b with
  |true=>simp only[eg,h it (by simp [Op.operands])]
  |false=>rfl
 |_=>rfl
theorem Di {o:Op} {ev ev':Ev} (h:∀x∈o.operands.toList,ev x=ev' x):iM E o ev=iM E o ev':=by
 cases o with
 |box t x=>simp only[iM,jc,h x (by simp [Op.operands])]
 |range t x=>simp only[iM,jc,h x (by simp [Op.operands])]
 |_=>rfl
theorem A7 {o:Op} {ev ev':Ev} {H:ag} (h:∀x∈o.operands.toList,ev x=ev' x):dE E o ev H=dE E o ev' H:=by
 cases o with
 |load t a=>simp only[dE,h a (by simp [Op.operands])]
 |convert s d x=>simp only[dE,jc,h x (by simp [Op.operands])]
 |lookup t x i ok=>simp only[dE,jc,h x (by simp [Op.operands]),h i (by simp [Op.operands])]
 |entry it=>simp only[dE,h it (by simp [Op.operands])]
 |call c=>
  have h1:=ir (ev:=ev) (ev':=ev') (l:=c.args.toList) fun x hx=>h x (by
   simp only[Op.operands,Call.operands,Array.toList_append,List.mem_append];exact .inr hx)
  simp only[dE,h1]
 |_=>rfl
theorem ie {o:Op} {ev ev':Ev} {H:ag} (h:∀x∈o.operands.toList,ev x=ev' x):bY E o ev H=bY E o ev' H:=by
 cases o with
 |buildSlice t len parts=>
  simp only[bY];rw[mU (ev:=ev) (ev':=ev') fun x hx=>h x (by simp only[Op.operands];simpa using hx)]
 |makeSlice t len cap=>simp only[bY,jc,h len (by simp [Op.operands]),h cap (by simp [Op.operands])]
 |convert s d x=>simp only[bY,jc,h x (by simp [Op.operands])]
 |call c=>
  have h1:=ir (ev:=ev) (ev':=ev') (l:=c.args.toList) fun x hx=>h x (by
   simp only[Op.operands,Call.operands,Array.toList_append,List.mem_append];exact .inr hx)
  simp only[bY,h1]
 |range t x=>simp only[bY,jc,h x (by simp [Op.operands])]
 |makeMap t r=>cases r<;>rfl
 |_=>rfl
theorem yz {o:Op} {rt:TypeId} {ev ev':Ev} {H:ag} {K:T→ag→Prop} (h:∀x∈o.operands.toList,ev x=ev' x):bJ E R o rt ev H K=bJ E R o rt ev' H K:=by
 cases o with
 |box t x=>simp only[bJ,jc,h x (by simp [Op.operands])]
 |store t a x=>simp only[bJ,jc,h a (by simp [Op.operands]),h x (by simp [Op.operands])]
 |convert s d x=>simp only[bJ,bY,jc,h x (by simp [Op.operands])]
 |makeSlice t len cap=>simp only[bJ];rw[ie h]
 |call c=>
  have h0:=ie (E:=E) (H:=H) h
  have h1:=ir (ev:=ev) (ev':=ev') (l:=c.args.toList) fun x hx=>h x (by
   simp only[Op.operands,Call.operands,Array.toList_append,List.mem_append];exact .inr hx)
  cases hc:c.callee with
  |value f=>
   have h2:ev f=ev' f:=h f (by simp [Op.operands,Call.operands,hc]);have h3:jc ev f=jc ev' f:=by simp only[jc,h2]
   simp only[bJ,hc];rw[h1]
   cases sx ev' c.args.toList with
   |none=>simp only[h0]
   |some args=>simp only[h3]
  |invoke r m=>simp only[bJ,hc,h0]
  |builtin b=>
   simp only[bJ,hc,h0,h1];cases b<;>cases sx ev' c.args.toList<;>rfl
 |buildSlice t len parts=>simp only[bJ];rw[ie h]
 |mapUpdate t m x v=>simp only[bJ,jc,h m (by simp [Op.operands]),h x (by simp [Op.operands]),h v (by simp [Op.operands])]
 |range t x=>simp only[bJ];rw[ie h]
 |makeMap t r=>cases r<;>rfl
 |next it b=>cases b with
  |true=>rfl
  |false=>simp only[bJ,h it (by simp [Op.operands])]
 |_=>rfl
theorem wU {t:Nat}:∀{l:List Operand},Operand.tmp t∈l→t∈oh l
 |[],h=>by cases h
 |x::l,h=>by
  rcases List.mem_cons.1 h with rfl|h
  ·simp [oh]
  ·have:=wU h;cases x<;>simp [oh,this]
theorem Fk {o:Oper}:(cX E ann aF o).rt=Xr aF o:=by
 unfold cX;cases HB E ann o<;>rfl
theorem QZ {o:Oper} {t:Nat} (h:t∈oh o.op.operands.toList):t∈(cX E ann aF o).rt:=by
 rw[Fk];exact List.mem_append.2 (.inl h)
theorem HG {o:Oper} {j:Nat} {want:Bool} {q:Oper} {d:Nat} (hg:o.guard=some (j,want)) (hq:aF[j]? =some q) (hd:q.dst=some d):d∈(cX E ann aF o).rt:=by
 rw[Fk];exact List.mem_append.2 (.inr (by simp [yo,hg,hq,hd]))
theorem yA {o:Oper} {S S':St} {P:jd→Prop} (ht:∀t∈(cX E ann aF o).rt,S.tm t=S'.tm t) (hl:∀s∈(cX E ann aF o).rl,S.lo s=S'.lo s) (hh:(cX E ann aF o).rh=true→S.hp=S'.hp):mj E R ann aF o S P=mj E R ann aF o S' P:=by
 have cW:∀x∈o.op.operands.toList,cS S.tm x=cS S'.tm x:=by
  intro x hx
  cases x with
  |tmp t=>exact ht t (QZ (wU hx))
  |_=>rfl
 have key:pj E R ann o S P=pj E R ann o S' P:=by
  unfold pj
  cases hc:HB E ann o with
  |pure=>simp only[Dh cW]
  |oY s=>simp only[A0 cW,hl s (by simp [cX,mS,hc])]
  |iN s=>simp only[yy cW,hl s (by simp [cX,mS,hc])]
  |tW=>simp only[Di cW]
  |kK=>simp only[A7 cW,hh (by simp [cX,mS,hc])]
  |dv=>simp only[yz cW,hh (by simp [cX,mS,hc])]
  |tX=>rfl
 unfold mj
 cases hg:o.guard with
 |none=>exact key
 |some p=>
  obtain⟨j,want⟩:=p
  have hy:gb aF S.tm j=gb aF S'.tm j:=by
   unfold gb
   cases hq:aF[j]? with
   |none=>rfl
   |some q=>cases hd:q.dst with
    |none=>simp only[hd]
    |some d=>simp only[hd];exact ht d (HG hg hq hd)
  simp only[hy,key]
theorem yB {a b:jV} (h:gw a b=true):(∀x∈a.wt,x∉b.rt)∧(∀x∈a.wt,x∉b.wt)∧(∀x∈b.wt,x∉a.rt)∧(∀x∈a.wl,x∉b.rl)∧(∀x∈a.wl,x∉b.wl)∧(∀x∈b.wl,x∉a.rl)∧(a.wh=true→b.rh=false)∧(b.wh=true→a.rh=false):=by
 simp only[gw,Bool.and_eq_true,Bool.not_eq_true'] at h;obtain⟨⟨⟨⟨⟨⟨⟨⟨h1,h2⟩,h3⟩,h4⟩,h5⟩,h6⟩,h7⟩,h8⟩,_⟩:=h;refine⟨fQ h1,fQ h2,fQ h3,fQ h4,fQ h5,fQ h6,fun h=> ?_,fun h=> ?_⟩
 ·rw[h] at h7;simpa using h7
 ·rw[h] at h8;simpa using h8
theorem Nt {a b:jV} (h:gw a b=true):a.no=false∧b.no=false:=by
 simp only[gw,Bool.and_eq_true,Bool.not_eq_true'] at h;exact h.2
theorem S5 {o:Oper} (h:(cX E ann aF o).wh=true):(cX E ann aF o).rh=true:=by
 unfold cX at h⊢;cases hc:HB E ann o<;>rw[hc] at h<;>first|rfl|cases h
theorem ny {o:Oper} {u:jd} {S:St} {t:Nat} (hu:u.kF ann (cX E ann aF o) o.dst) (ht:t∉(cX E ann aF o).wt):(u.apply ann o.dst S).tm t=S.tm t:=by
 have h1:¬o.dst=some t:=fun e=>ht (hu.1 t e)
 have h2:¬(u.kd.isSome=true∧ab ann.aV t=u.kd):=by
  rintro⟨h,e⟩
  cases hk:u.kd with
  |none=>rw[hk] at h;cases h
  |some d=>exact ht (hu.2.2.2 d hk t (e.trans hk))
 simp only[jd.apply,if_neg h1,if_neg h2]
theorem jX {o:Oper} {u:jd} {S:St} {s:Nat} (hu:u.kF ann (cX E ann aF o) o.dst) (hs:s∉(cX E ann aF o).wl):(u.apply ann o.dst S).lo s=S.lo s:=by
 simp only[jd.apply]
 cases hl:u.QY with
 |none=>rfl
 |some p=>
  have:s≠p.1:=fun e=>hs (e▸hu.2.1 p.1 p.2 hl)
  simp [this]
theorem k6 {o:Oper} {u:jd} {S:St} (hu:u.kF ann (cX E ann aF o) o.dst) (hs:(cX E ann aF o).wh=false):(u.apply ann o.dst S).hp=S.hp:=by
 simp only[jd.apply]
 cases hh:u.hp with
 |none=>rfl
 |some H=>have:=hu.2.2.1 (by simp [hh]);rw[hs] at this;cases this
theorem HH {p q:Oper} {u v:jd} {S:St} (ha:gw (cX E ann aF p) (cX E ann aF q)=true) (hu:u.kF ann (cX E ann aF p) p.dst) (hv:v.kF ann (cX E ann aF q) q.dst):v.apply ann q.dst (u.apply ann p.dst S)=u.apply ann p.dst (v.apply ann q.dst S):=by
 obtain⟨_,h2,_,_,h5,_,h7,_⟩:=yB ha;refine St.ext' (fun t=> ?_) (fun s=> ?_) ?_
 ·by_cases ht:t∈(cX E ann aF p).wt
  ·rw[ny hv (h2 t ht)];simp only[jd.apply];split
   ·rfl
   ·split
    ·rfl
    ·exact(ny hv (h2 t ht)).symm
  ·rw[ny hu ht];simp only[jd.apply];split
   ·rfl
   ·split
    ·rfl
    ·exact ny hu ht
 ·by_cases hs:s∈(cX E ann aF p).wl
  ·rw[jX hv (h5 s hs)];simp only[jd.apply];split
   ·split
    ·rfl
    ·exact(jX hv (h5 s hs)).symm
   ·exact(jX hv (h5 s hs)).symm
  ·rw[jX hu hs];simp only[jd.apply];split
   ·split
    ·rfl
    ·exact jX hu hs
   ·exact jX hu hs
 ·cases hw:(cX E ann aF p).wh
  ·rw[k6 hu hw];simp only[jd.apply];have:=k6 (S:=S) hu hw;simp only[jd.apply] at this;rw[this]
  ·have hq:(cX E ann aF q).wh=false:=by
    cases hq:(cX E ann aF q).wh
    ·rfl
    ·have:=h7 hw;rw[S5 hq] at this;cases this
   rw[k6 hv hq];simp only[jd.apply];have:=k6 (S:=S) hv hq;simp only[jd.apply] at this;rw[this]
theorem yC (hm:R.le R) (hs:iq R) {p q:Oper} {S:St} {K:St→Prop} (ha:gw (cX E ann aF p) (cX E ann aF q)=true) (h:eQ E R ann N aF p S fun S'=>eQ E R ann N aF q S' K):eQ E R ann N aF q S fun S'=>eQ E R ann N aF p S' K:=by
 obtain⟨h1,h2,h3,h4,h5,h6,h7,h8⟩:=yB ha;obtain⟨n1,n2⟩:=Nt ha;rw[nv n1] at h;rw[nv n2]
 have eq1:∀u:jd,u.kF ann (cX E ann aF p) p.dst→∀P,mj E R ann aF q (u.apply ann p.dst S) P=mj E R ann aF q S P:=fun u hu P=>
  yA (fun t ht=>ny hu fun hw=>h1 t hw ht) (fun s hs=>jX hu fun hw=>h4 s hw hs) (fun hr=>by
   cases hw:(cX E ann aF p).wh
   ·exact k6 hu hw
   ·have:=h7 hw;rw[hr] at this;cases this)
 have eq2:∀u:jd,u.kF ann (cX E ann aF q) q.dst→∀P,mj E R ann aF p (u.apply ann q.dst S) P=mj E R ann aF p S P:=fun u hu P=>
  yA (fun t ht=>ny hu fun hw=>h3 t hw ht) (fun s hs=>jX hu fun hw=>h6 s hw hs) (fun hr=>by
   cases hw:(cX E ann aF q).wh
   ·exact k6 hu hw
   ·have:=h8 hw;rw[hr] at this;cases this)
 have h':=wS hm h
 have main:mj E R ann aF p S fun u=>Lb ann N p.dst u.x∧u.kF ann (cX E ann aF p) p.dst∧
  mj E R ann aF q S fun v=>Lb ann N q.dst v.x∧v.kF ann (cX E ann aF q) q.dst∧K (u.apply ann p.dst (v.apply ann q.dst S)):=by
  refine qQ hm ?_ h';rintro u ⟨⟨hok,hq⟩,hu⟩;refine⟨hok,hu, ?_⟩;rw[nv n2,eq1 u hu] at hq;refine qQ hm ?_ (wS hm hq);rintro v ⟨⟨pA,MM⟩,hv⟩;exact⟨pA,hv,HH ha hu hv▸MM⟩
 cases hw:(cX E ann aF p).wh
 ·obtain⟨u,MN⟩:=Fh hw main;obtain⟨hok,hu,hq⟩:=(MN _).1 main;refine qQ hm ?_ hq;rintro v ⟨pA,hv,hk⟩;refine⟨pA, ?_⟩;rw[nv n1,eq2 v hv];exact(MN _).2 ⟨hok,hk⟩
 ·have hwq:(cX E ann aF q).wh=false:=by
   cases hq:(cX E ann aF q).wh
   ·rfl
   ·have:=h7 hw;rw[S5 hq] at this;cases this
  obtain⟨u,_,_,hq⟩:=Fg hs main;obtain⟨v,MN⟩:=Fh hwq hq;obtain⟨pA,hv,_⟩:=(MN _).1 hq;refine(MN _).2 ⟨pA, ?_⟩;rw[nv n1,eq2 v hv];refine qQ hm ?_ main;rintro u ⟨hok,hu,hq⟩;exact⟨hok,((MN _).1 hq).2.2⟩
end
abbrev dD:=Nat→Option Nat
inductive VR (ρ:dD):V→Value→Prop where
 |bool (b:Bool):VR ρ (.bool b) (.bool b)
 |int (k:IntKind) (n:Int):VR ρ (.int k n) (.int k n)
 |cG (s:ByteArray):VR ρ (.cG s) (.string s)
 |Dj:VR ρ (.aj none) (.pointer none)
 |aj {id off b:Nat} (h:ρ id=some b):VR ρ (.aj (some (id,off))) (.pointer (some ⟨b,off,none⟩))
 |nA (n c:Nat):VR ρ (.slice none n c) (.slice none n c)
 |slice {id off b:Nat} (n c:Nat) (h:ρ id=some b):VR ρ (.slice (some (id,off)) n c) (.slice (some ⟨b,off,none⟩) n c)
 |pL (p:Nat×Nat) (a:Addr):VR ρ (.slice (some p) 0 0) (.slice (some a) 0 0)
 |yD:VR ρ (.map none) (.map none)
 |map {id b:Nat} (h:ρ id=some b):VR ρ (.map (some id)) (.map (some b))
 |func (f:FuncId) {cs:List V} {cs':Array Value} (hl:cs.length=cs'.size) (h:∀(i:Nat) (x:V) (y:Value),cs[i]? =some x→cs'[i]? =some y→VR ρ x y):
  VR ρ (.func f cs) (.func (.func f) #[] cs')
 |pe (f:FuncId) {cs:List V} {cs':Array Value} (hl:cs.length=cs'.size) (h:∀(i:Nat) (x:V) (y:Value),cs[i]? =some x→cs'[i]? =some y→VR ρ x y):
  VR ρ (.pe f cs) (.func (.func f) cs' #[])
 |dM (t:TypeId) {id b:Nat} (h:ρ id=some b):VR ρ (.dM t id) (.pointer (some ⟨b,0,none⟩))
 |nilFunc:VR ρ .nilFunc .nilFunc
 |iface (t:TypeId) {v:V} {v':Value} (h:VR ρ v v'):VR ρ (.iface t v) (.iface t v')
 |nilIface:VR ρ .nilIface .nilIface
 |agg {cs:List V} {cs':Array Value} (h1:∀c∈cs,c.one=true) (hl:cs.length=cs'.size) (h:∀(i:Nat) (x:V) (y:Value),cs[i]? =some x→cs'[i]? =some y→VR ρ x y):VR ρ (.agg cs) (.agg cs')
 |cv (x:Value):VR ρ .cv x
 |tuple {cs:List V} {cs':Array Value} (hl:cs.length=cs'.size) (h:∀(i:Nat) (x:V) (y:Value),cs[i]? =some x→cs'[i]? =some y→VR ρ x y):VR ρ (.tuple cs) (.tuple cs')
def bf (cs:List V):Prop:=∀v∈cs,v.one=true
def eM (ρ:dD) (l:List V) (m:List Value):Prop:=l.length=m.length∧∀(i:Nat) (x:V) (y:Value),l[i]? =some x→m[i]? =some y→VR ρ x y
def dD.le (ρ ρ':dD):Prop:=∀id b,ρ id=some b→ρ' id=some b
theorem dD.le.refl (ρ:dD):ρ.le ρ:=fun _ _ h=>h
theorem dD.le.trans {a b c:dD} (h:a.le b) (k:b.le c):a.le c:=fun id x hx=>k id x (h id x hx)
theorem VR.mono {ρ ρ':dD} (h:ρ.le ρ') {v:V} {x:Value} (hv:VR ρ v x):VR ρ' v x:=by
 induction hv with
 |bool b=>exact .bool b
 |int k n=>exact .int k n
 |cG s=>exact .cG s
 |Dj=>exact .Dj
 |aj hb=>exact .aj (h _ _ hb)
 |nA n c=>exact .nA n c
 |slice n c hb=>exact .slice n c (h _ _ hb)
 |pL p a=>exact .pL p a
 |yD=>exact .yD
 |map hb=>exact .map (h _ _ hb)
 |func f hl _ ih=>exact .func f hl ih
 |pe f hl _ ih=>exact .pe f hl ih
 |dM t hb=>exact .dM t (h _ _ hb)
 |nilFunc=>exact .nilFunc
 |iface t _ ih=>exact .iface t ih
 |nilIface=>exact .nilIface
 |agg h1 hl _ ih=>exact .agg h1 hl ih
 |cv x=>exact .cv x
 |tuple hl _ ih=>exact .tuple hl ih
theorem eM.mono {ρ ρ':dD} (h:ρ.le ρ') {l:List V} {m:List Value} (hv:eM ρ l m):eM ρ' l m:=
 ⟨hv.1,fun i x y hx hy=>(hv.2 i x y hx hy).mono h⟩
theorem eM.nil (ρ:dD):eM ρ [] []:=⟨rfl,fun i x y h=>by simp at h⟩
theorem eM.cons {ρ:dD} {x:V} {y:Value} {l:List V} {m:List Value} (h:VR ρ x y) (hl:eM ρ l m):eM ρ (x::l) (y::m):=by
 refine⟨by simp [hl.1],fun i=> ?_⟩
 cases i with
 |zero=>intro a b ha hb;simp at ha hb;subst ha;subst hb;exact h
 |succ i=>intro a b ha hb;exact hl.2 i a b (by simpa using ha) (by simpa using hb)
theorem eM.dh {ρ:dD} {x:V} {l:List V} {m:List Value} (h:eM ρ (x::l) m):∃y m',m=y::m'∧VR ρ x y∧eM ρ l m':=by
 cases m with
 |nil=>simp [eM] at h
 |cons y m'=>
  refine⟨y,m',rfl,h.2 0 x y rfl rfl,by simpa using h.1,fun i a b ha hb=>h.2 (i+1) a b (by simpa using ha) (by simpa using hb)⟩
theorem eM.gq {ρ:dD} {m:List Value} (h:eM ρ [] m):m=[]:=by
 cases m with
 |nil=>rfl
 |cons y m'=>simp [eM] at h
theorem eM.append {ρ:dD} {l l':List V} {m m':List Value} (h:eM ρ l m) (h':eM ρ l' m'):eM ρ (l++l') (m++m'):=by
 refine⟨by simp [h.1,h'.1],fun i x y hx hy=> ?_⟩;by_cases hi:i<l.length
 ·rw[List.getElem?_append_left hi] at hx;rw[List.getElem?_append_left (h.1▸hi)] at hy;exact h.2 i x y hx hy
 ·rw[List.getElem?_append_right (by omega)] at hx;rw[List.getElem?_append_right (by have:=h.1;omega)] at hy;exact h'.2 _ x y hx (by rwa [←h.1] at hy)
theorem eM.take {ρ:dD} {l:List V} {m:List Value} (h:eM ρ l m) (n:Nat):eM ρ (l.take n) (m.take n):=by
 refine⟨by simp [h.1],fun i x y hx hy=> ?_⟩;rw[List.getElem?_take] at hx hy;split at hx
 ·rename_i hi;rw[if_pos hi] at hy;exact h.2 i x y hx hy
 ·cases hx
theorem eM.drop {ρ:dD} {l:List V} {m:List Value} (h:eM ρ l m) (n:Nat):eM ρ (l.drop n) (m.drop n):=by
 refine⟨by simp [h.1],fun i x y hx hy=> ?_⟩;rw[List.getElem?_drop] at hx hy;exact h.2 _ x y hx hy
theorem qR:∀{l:List V} {n:Nat},n<l.length→l[n]? =some (ae l n)
 |[],_,h=>by simp at h
 |_::_,0,_=>rfl
 |_::l,n+1,h=>by rw[List.getElem?_cons_succ];exact qR (l:=l) (by simpa using h)
theorem eM.nth {ρ:dD} {l:List V} {m:List Value} (h:eM ρ l m) {n:Nat} (hn:n<l.length):∃y,m[n]? =some y∧VR ρ (ae l n) y:=by
 have hm:n<m.length:=h.1▸hn;exact⟨m[n],List.getElem?_eq_getElem hm,h.2 n _ _ (qR hn) (List.getElem?_eq_getElem hm)⟩
theorem VR.ov {ρ:dD} {cs:List V} {x:Value} (h:VR ρ (.agg cs) x):∃cs',x=.agg cs'∧eM ρ cs cs'.toList∧bf cs:=by
 cases h with
 |agg h1 hl h=>exact⟨_,rfl,⟨by simpa using hl,fun i a b ha hb=>h i a b ha (by simpa using hb)⟩,h1⟩
theorem VR.vK {ρ:dD} {cs:List V} {cs':Array Value} (h1:bf cs) (h:eM ρ cs cs'.toList):VR ρ (.agg cs) (.agg cs'):=
 .agg h1 (by simpa using h.1) fun i a b ha hb=>h.2 i a b ha (by simpa using hb)
theorem VR.Le {ρ:dD} {cs:List V} {x:Value} (h:VR ρ (.tuple cs) x):∃cs',x=.tuple cs'∧eM ρ cs cs'.toList:=by
 cases h with
 |tuple hl h=>exact⟨_,rfl,by simpa using hl,fun i a b ha hb=>h i a b ha (by simpa using hb)⟩
theorem VR.gD {ρ:dD} {cs:List V} {cs':Array Value} (h:eM ρ cs cs'.toList):VR ρ (.tuple cs) (.tuple cs'):=
 .tuple (by simpa using h.1) fun i a b ha hb=>h.2 i a b ha (by simpa using hb)
theorem VR.Nu {ρ:dD} {f:FuncId} {cs:List V} {x:Value} (h:VR ρ (.func f cs) x):∃cs',x=.func (.func f) #[] cs'∧eM ρ cs cs'.toList:=by
 cases h with
 |func f hl h=>exact⟨_,rfl,by simpa using hl,fun i a b ha hb=>h i a b ha (by simpa using hb)⟩
theorem VR.Nv {ρ:dD} {f:FuncId} {cs:List V} {x:Value} (h:VR ρ (.pe f cs) x):∃cs',x=.func (.func f) cs' #[]∧eM ρ cs cs'.toList:=by
 cases h with
 |pe f hl h=>exact⟨_,rfl,by simpa using hl,fun i a b ha hb=>h i a b ha (by simpa using hb)⟩
theorem VR.Q0 {ρ:dD} {f:FuncId} {cs:List V} {cs':Array Value} (h:eM ρ cs cs'.toList):VR ρ (.pe f cs) (.func (.func f) cs' #[]):=
 .pe f (by simpa using h.1) fun i a b ha hb=>h.2 i a b ha (by simpa using hb)
theorem VR.Fl {ρ:dD} {t:TypeId} {id:Nat} {x:Value} (h:VR ρ (.dM t id) x):∃b,ρ id=some b∧x=.pointer (some ⟨b,0,none⟩):=by
 cases h with|dM t h=>exact⟨_,h,rfl⟩
theorem VR.Ji {ρ:dD} {f:FuncId} {cs:List V} {cs':Array Value} (h:eM ρ cs cs'.toList):VR ρ (.func f cs) (.func (.func f) #[] cs'):=
 .func f (by simpa using h.1) fun i a b ha hb=>h.2 i a b ha (by simpa using hb)
theorem VR.iu {ρ:dD} {k:IntKind} {n:Int} {x:Value} (h:VR ρ (.int k n) x):x=.int k n:=by cases h;rfl
theorem VR.Dk {ρ:dD} {b:Bool} {x:Value} (h:VR ρ (.bool b) x):x=.bool b:=by cases h;rfl
theorem VR.vL {ρ:dD} {s:ByteArray} {x:Value} (h:VR ρ (.cG s) x):x=.string s:=by cases h;rfl
theorem VR.vM {ρ:dD} {id off:Nat} {x:Value} (h:VR ρ (.aj (some (id,off))) x):∃b,ρ id=some b∧x=.pointer (some ⟨b,off,none⟩):=by
 cases h with|aj h=>exact⟨_,h,rfl⟩
theorem VR.fh {ρ:dD} {id off n c:Nat} {x:Value} (h:VR ρ (.slice (some (id,off)) n c) x):(∃b,ρ id=some b∧x=.slice (some ⟨b,off,none⟩) n c)∨(n=0∧c=0∧∃a,x=.slice (some a) 0 0):=by
 cases h with
 |slice _ _ h=>exact .inl ⟨_,h,rfl⟩
 |pL p a=>exact .inr ⟨rfl,rfl,a,rfl⟩
theorem VR.lE {ρ:dD} {n c:Nat} {x:Value} (h:VR ρ (.slice none n c) x):x=.slice none n c:=by cases h;rfl
theorem VR.one {ρ:dD} {v:V} {x:Value} (h:VR ρ v x) (h1:v.one=true):x.oneCell'=true:=by
 cases h<;>simp_all [V.one,Value.oneCell']
theorem VR.cells {ρ:dD} {v:V} {x:Value} (h:VR ρ v x) (hh:v≠ .cv):eM ρ v.cells x.cells.toList:=by
 by_cases hv:∃cs,v=.agg cs
 ·obtain⟨cs,rfl⟩:=hv;obtain⟨cs',rfl,h',_⟩:=h.ov;exact h'
 ·have h1:v.cells=[v]:=by cases v<;>first|rfl|exact(hv ⟨_,rfl⟩).elim
  have h2:x.cells= #[x]:=by cases h<;>first|rfl|exact(hv ⟨_,rfl⟩).elim|exact(hh rfl).elim
  rw[h1,h2];exact .cons h (.nil ρ)
theorem sI {ρ:dD} {x:Value} {v:V} (h:ofValue x=some v):VR ρ v x:=by
 unfold ofValue at h;split at h<;>first|(cases h)|skip
 ·exact .bool _
 ·exact .int _ _
 ·exact .cG _
 ·exact .Dj
 ·exact .nA _ _
 ·exact .yD
 ·exact .nilFunc
 ·exact .nilIface
theorem ue {ρ:dD}:∀{l:List Value} {m:List V},jU l=some m→eM ρ m l
 |[],m,h=>by simp only[jU,Option.some.injEq] at h;subst h;exact .nil ρ
 |x::l,m,h=>by
  simp only[jU] at h;split at h
  ·rename_i y m' hy hm;simp only[Option.some.injEq] at h;subst h;exact .cons (sI hy) (ue hm)
  ·cases h
theorem wV {x:Value} {v:V} (h:ofValue x=some v):v.one=true:=by
 unfold ofValue at h;split at h<;>first|(cases h;done)|(simp only[Option.some.injEq] at h;subst h;rfl)|cases h
theorem ox:∀{l:List Value} {m:List V},jU l=some m→∀v∈m,v.one=true
 |[],m,h=>by simp only[jU,Option.some.injEq] at h;subst h;intro v hv;cases hv
 |x::l,m,h=>by
  simp only[jU] at h;split at h
  ·rename_i y m' hy hm;simp only[Option.some.injEq] at h;subst h;intro v hv;rcases List.mem_cons.1 hv with rfl|hv
   ·exact wV hy
   ·exact ox hm v hv
  ·cases h
theorem iA {ρ:dD} {x:Value} {v:V} (h:ll x=some v):VR ρ v x:=by
 unfold ll at h;split at h
 ·split at h
  ·rename_i cs l hl;simp only[Option.some.injEq] at h;subst h;exact .vK (ox hl) (ue hl)
  ·cases h
 ·exact sI h
theorem kQ {x:Value} {v:V} (h:ll x=some v):∀c∈v.cells,c.one=true:=by
 unfold ll at h;split at h
 ·split at h
  ·rename_i cs l hl;simp only[Option.some.injEq] at h;subst h;exact ox hl
  ·cases h
 ·have h1:=wV h;have:v.cells=[v]:=by cases v<;>first|rfl|(simp [V.one] at h1)
  intro c hc;rw[this] at hc;rcases List.mem_cons.1 hc with rfl|hc
  ·exact h1
  ·cases hc
inductive TR (ρ lam:dD):T→Value→Prop where
 |v {x:V} {y:Value} (h:VR ρ x y):TR ρ lam (.v x) y
 |lp {s off b:Nat} (h:lam s=some b):TR ρ lam (.lp s off) (.pointer (some ⟨b,off,none⟩))
 |undef:TR ρ lam .undef (.tuple #[])
def pM (ρ lam:dD) (ev:Ev) (e:Operand→Value):Prop:=∀x t,ev x=some t→TR ρ lam t (e x)
theorem pM.v {ρ lam:dD} {ev:Ev} {e:Operand→Value} (h:pM ρ lam ev e) {x:Operand} {v:V} (hx:jc ev x=some v):VR ρ v (e x):=by
 unfold jc at hx;split at hx
 ·rename_i y hy;cases hx;have:=h _ _ hy
  cases this with
  |v h=>exact h
 ·cases hx
theorem pM.lp {ρ lam:dD} {ev:Ev} {e:Operand→Value} (h:pM ρ lam ev e) {x:Operand} {s off:Nat} (hx:ev x=some (.lp s off)):∃b,lam s=some b∧e x=.pointer (some ⟨b,off,none⟩):=by
 have:=h _ _ hx;generalize e x=y at this
 cases this with
 |lp h=>exact⟨_,h,rfl⟩
theorem pM.tv {ρ lam:dD} {ev:Ev} {e:Operand→Value} (h:pM ρ lam ev e) {x:Operand} {v:V} (hx:ev x=some (.v v)):VR ρ v (e x):=by
 have:=h _ _ hx;generalize e x=y at this
 cases this with
 |v h=>exact h
theorem pM.vs {ρ lam:dD} {ev:Ev} {e:Operand→Value} (h:pM ρ lam ev e):∀{l:List Operand} {vs:List V},sx ev l=some vs→eM ρ vs (l.map e)
 |[],vs,hx=>by simp only[sx,Option.some.injEq] at hx;subst hx;exact .nil ρ
 |x::l,vs,hx=>by
  simp only[sx] at hx;split at hx
  ·rename_i y m hy hm;simp only[Option.some.injEq] at hx;subst hx;exact .cons (h.v hy) (h.vs hm)
  ·cases hx
def fU (ρ:dD) (e:TypeId) (cs:List V) (rw:Bool) (o:Option Go.Obj):Prop:=
 ∃cs' fz,o=some (.cells cs' e fz)∧eM ρ cs cs'.toList∧(rw=true→bf cs)∧(rw=true→fz.1=fz.2∨cs'.size≤fz.1)
def jn (ρ:dD):List (V×V×Nat)→List MapEntry→Prop
 |[],[]=>True
 |x::l,y::m=>(VR ρ x.1 y.key∧VR ρ x.2.1 y.val∧x.2.2=y.born)∧jn ρ l m
 |_,_=>False
theorem jn.mono {ρ ρ':dD} (h:ρ.le ρ'):∀{l:List (V×V×Nat)} {m:List MapEntry},jn ρ l m→jn ρ' l m
 |[],[],_=>trivial
 |x::l,y::m,hl=>⟨⟨hl.1.1.mono h,hl.1.2.1.mono h,hl.1.2.2⟩,jn.mono h hl.2⟩
 |[],_::_,hl=>hl.elim
 |_::_,[],hl=>hl.elim
def Fm (ρ:dD):Obj→Option Go.Obj→Prop
 | .cells e cs ro,o=>fU ρ e cs (!ro) o
 | .map es clock,o=>∃es':Array MapEntry,o=some (.map es' clock)∧jn ρ es es'.toList
 | .dM m bX seen tN,o=>∃m',o=some (.mapIter m' bX seen.toArray tN)∧VR ρ (.map m) (.map m')
def vN (ρ:dD):aO→Option Go.Obj→Prop
 | .cells e cs,o=>fU ρ e cs true o
 | .dM s jk,o=>o=some (.stringIter s jk)
def Obj.rw :Obj→Bool
 | .cells _ _ ro=> !ro
 | .map .. =>true
 | .dM .. =>true
def iR (H:ag) (ρ:dD) (b:Nat):Prop:=∃id o,H.get id=some o∧ρ id=some b
def oy (H:ag) (ρ:dD) (b:Nat):Prop:=∃id o,H.get id=some o∧o.rw =true∧ρ id=some b
structure HR (ρ:dD) (H:ag) (w:World):Prop where
 wW:∀id o,H.get id=some o→∃b,ρ id=some b∧Fm ρ o w.heap[b]?
 inj:∀id id' o o' b,H.get id=some o→H.get id'=some o'→o.rw =true→ρ id=some b→ρ id'=some b→id=id'
 lt:∀id b,ρ id=some b→id<H.next∧b<w.heap.size
 gl:∀g∈Nj,ρ g=some g
structure lF (H0:ag) (ρ0:dD) (w0:World) (H:ag) (ρ:dD) (w:World):Prop where
 le:ρ0.le ρ
 frame:∀b,b<w0.heap.size→¬oy H0 ρ0 b→w.heap[b]? =w0.heap[b]?
 iR:∀b,iR H ρ b→iR H0 ρ0 b∨w0.heap.size≤b
 oy:∀b,oy H ρ b→oy H0 ρ0 b∨w0.heap.size≤b
 size:w0.heap.size≤w.heap.size
 os:w.os=w0.os
 tape:w.tape=w0.tape
 output:w.output=w0.output
theorem lF.refl (H:ag) (ρ:dD) (w:World):lF H ρ w H ρ w:=
 ⟨.refl ρ,fun _ _ _=>rfl,fun _ h=>.inl h,fun _ h=>.inl h,Nat.le_refl _,rfl,rfl,rfl⟩
theorem lF.trans {H0 H1 H2:ag} {ρ0 ρ1 ρ2:dD} {w0 w1 w2:World} (h:lF H0 ρ0 w0 H1 ρ1 w1) (k:lF H1 ρ1 w1 H2 ρ2 w2):lF H0 ρ0 w0 H2 ρ2 w2 where
 le:=h.le.trans k.le
 frame:=fun b hb ho=>by
  have h1:¬Am.oy H1 ρ1 b:=fun h1=>(h.oy b h1).elim ho fun h=>by omega
  rw[k.frame b (by have:=h.size;omega) h1,h.frame b hb ho]
 iR:=fun b hb=>(k.iR b hb).elim (h.iR b) fun h'=>.inr (by have:=h.size;omega)
 oy:=fun b hb=>(k.oy b hb).elim (h.oy b) fun h'=>.inr (by have:=h.size;omega)
 size:=Nat.le_trans h.size k.size
 os:=k.os.trans h.os
 tape:=k.tape.trans h.tape
 output:=k.output.trans h.output
structure SR (H0:ag) (ρ0:dD) (w0:World) (ann:bQ) (N:Nat) (ρ lam:dD) (S:St) (a:Act) (w:World):Prop where
 defers:a.defers=[]
 size:a.tmps.size=N
 tm:∀t x,S.tm t=some x→TR ρ lam x (a.tmps.getD t undef)
 Lf:∀t s off,S.tm t=some (.lp s off)→ab ann.aV t=some s
 lo:∀s L,S.lo s=some L→∃b,lam s=some b∧vN ρ L w.heap[b]? ∧b<w.heap.size∧w0.heap.size≤b∧¬iR S.hp ρ b
 uf:∀s s' L L' b,S.lo s=some L→S.lo s'=some L'→lam s=some b→lam s'=some b→s=s'
 hr:HR ρ S.hp w
 bX:lF H0 ρ0 w0 S.hp ρ w
theorem SR.ev {H0:ag} {ρ0:dD} {w0:World} {ann:bQ} {N:Nat} {ρ lam:dD} {S:St} {a:Act} {w:World} (h:SR H0 ρ0 w0 ann N ρ lam S a w):pM ρ lam (cS S.tm) a.eval:=by
 intro x t hx
 cases x with
 |tmp s=>exact h.tm s t hx
 |const v=>
  simp only[cS] at hx;split at hx
  ·rename_i y hy;cases hx;exact .v (sI hy)
  ·cases hx
 |func f=>simp only[cS,Option.some.injEq] at hx;subst hx;exact .v (.func f rfl fun i x y hx=>by simp at hx)
 |global g=>cases hx
theorem jQ {E:kz} {t:Nat} {i:TI} (h:E.ti t=some i):∃di d,E.P.info? t=some di∧E.P.underlying t=some d∧bo d=i.sh∧di.size=i.size∧di.bytes=i.bytes∧di.zero.bind ll=i.zero:=by
 have h:=E.ti_ok t i h;unfold QU at h;split at h
 ·rename_i di d h1 h2;simp only[Option.some.injEq] at h;subst h;exact⟨di,d,h1,h2,rfl,rfl,rfl,rfl⟩
 ·cases h
theorem jA {P:Program} {t:TypeId} {d:TypeDesc} (h:P.underlying t=some d) (w:World):(isAgg t).run P w=.ok (iK d) w:=by
 simp only[isAgg,Sem.run_bind,run_underlying h,Result.andThen_ok];cases d<;>rfl
theorem HI {d:TypeDesc} {k:cg} (h:cO (bo d)=some k):iK d=false:=by
 cases d<;>simp_all [bo,cO,iK]
def Jj (P:Program) (t:TypeId) (cs:List Value) (x:Value):Prop:=
 ∃d,P.underlying t=some d∧((iK d=true∧x=.agg cs.toArray)∨(iK d=false∧cs=[x]))
theorem Dl {P:Program} {t:TypeId} {d:TypeDesc} {di:TypeInfo} (hu:P.underlying t=some d) (hi:P.info? t=some di) (cs:Array Value) (off n:Nat) (hn:off+n≤cs.size) (hs:di.size=n) (h1:iK d=false→n=1) (w:World):∃x,(part t cs off).run P w=.ok x w∧Jj P t ((cs.toList.drop off).take n) x:=by
 cases ha:iK d
 ·have hn1:=h1 ha;subst hn1;have hlt:off<cs.size:=by omega
  refine⟨cs[off], ?_,d,hu,.inr ⟨ha, ?_⟩⟩
  ·simp [part,jA hu,ha,Array.getElem?_eq_getElem hlt]
  ·have:cs.toList.drop off=cs[off]::cs.toList.drop (off+1):=by
    rw[List.drop_eq_getElem_cons (by simpa using hlt)];rfl
   rw[this];rfl
 ·refine⟨.agg (cs.extract off (off+n)), ?_,d,hu,.inl ⟨ha, ?_⟩⟩
  ·simp [part,jA hu,ha,run_sizeOf w hi,Program.cellsOf,hi,hs]
  ·congr 1;apply Array.ext';simp [List.extract_eq_take_drop]
theorem lG:∀{a c:List V} (b d:List V) {r:Bool},a.length=c.length→eE (a++b) (c++d)=some r→∃x y,eE a c=some x∧eE b d=some y∧r=(x&&y)
 |[],[],b,d,r,_,h=>⟨true,r,rfl,h,by simp⟩
 |x::l,y::m,b,d,r,hl,h=>by
  have ih:∀{r},eE (l++b) (m++d)=some r→_:=fun h=>lG (a:=l) (c:=m) b d (by simpa using hl) h
  cases x<;>cases y<;>simp only[List.cons_append,eE] at h⊢ <;>try (cases h;done)
  ·split at h
   ·rename_i e q hq;obtain⟨u,v,h1,h2,rfl⟩:=ih hq;simp only[Option.some.injEq] at h;exact⟨_,v,by rw[h1],h2,by rw[←h,Bool.and_assoc]⟩
   ·cases h
  ·rename_i k p k' q;by_cases hk:k=k'
   ·simp only[hk,nn,decide_true,cond_true] at h⊢;split at h
    ·rename_i e s hs;obtain⟨u,v,h1,h2,rfl⟩:=ih hs;simp only[Option.some.injEq] at h;exact⟨_,v,by rw[h1],h2,by rw[←h,Bool.and_assoc]⟩
    ·cases h
   ·simp [hk] at h
  ·split at h
   ·rename_i e q hq;obtain⟨u,v,h1,h2,rfl⟩:=ih hq;simp only[Option.some.injEq] at h;exact⟨_,v,by rw[h1],h2,by rw[←h,Bool.and_assoc]⟩
   ·cases h
theorem fj:∀{ks:List cg} {vs:List V},aI ks vs=true→ks.length=vs.length
 |[],[],_=>rfl
 |[],_::_,h=>by simp [aI] at h
 |_::_,[],h=>by simp [aI] at h
 |_::ks,_::vs,h=>by rw[aI,Bool.and_eq_true] at h;simp [fj h.2]
theorem jY:∀{a b:List cg} {vs:List V},aI (a++b) vs=true→aI a (vs.take a.length)=true∧aI b (vs.drop a.length)=true
 |[],b,vs,h=>by simpa [aI] using h
 |k::a,b,[],h=>by simp [aI] at h
 |k::a,b,v::vs,h=>by
  rw[List.cons_append,aI,Bool.and_eq_true] at h;obtain⟨h1,h2⟩:=jY h.2;simp [aI,h.1,h1,h2]
theorem Nx (n:Nat) (ks:List cg):(AY n ks).length=n*ks.length:=by
 induction n with
 |zero=>simp [AY]
 |succ n ih=>simp [AY,ih,Nat.add_mul];omega
section
variable {P:Program} {ρ:dD}
def Q1 (P:Program) (ρ:dD) (D:Nat) (t:TypeId) (ks:List cg):Prop:=
 ∀(w:World) (xv yv:List V) (xs ys:List Value) (x y:Value) (b:Bool),aI ks xv=true→aI ks yv=true→eM ρ xv xs→eM ρ yv ys→eE xv yv=some b→
  Jj P t xs x→Jj P t ys y→(Op.equalIn D t x y).run P w=.ok b w
theorem ig {α:Type} (l:List α) (a n:Nat):l.drop a=(l.drop a).take n++l.drop (a+n):=by
 rw[←List.drop_drop,List.take_append_drop]
theorem S6 {d:Nat} {t:TypeId} {ks:List cg} (h:lq P d t=some ks):∃D,P.underlying t=some D∧(iK D=false→ks.length=1)∧(iK D=true→P.cellsOf t=ks.length):=by
 cases d with
 |zero=>cases h
 |succ d=>
  unfold lq at h;split at h
  ·rename_i hu;simp only[Option.some.injEq] at h;subst h;exact⟨_,hu,fun _=>rfl,fun h=>by simp [iK] at h⟩
  ·rename_i hu;simp only[Option.some.injEq] at h;subst h;exact⟨_,hu,fun _=>rfl,fun h=>by simp [iK] at h⟩
  ·rename_i hu;simp only[Option.some.injEq] at h;subst h;exact⟨_,hu,fun _=>rfl,fun h=>by simp [iK] at h⟩
  ·rename_i hu;refine⟨_,hu,fun h=>by simp [iK] at h,fun _=> ?_⟩;cases hp:P.stoodInHeld t
   ·simp only[hp,cond_false] at h;split at h
    ·rename_i m _;by_cases hc:P.cellsOf t=m.length
     ·simp only[aW,hc,decide_true,cond_true,Option.some.injEq] at h;rw[←h,hc]
     ·simp [aW,hc] at h
    ·cases h
   ·simp [hp] at h
  ·rename_i k e hu;refine⟨_,hu,fun h=>by simp [iK] at h,fun _=> ?_⟩;split at h
   ·rename_i m _;by_cases G8:P.cellsOf e=m.length
    ·by_cases Ht:P.cellsOf t=k*m.length
     ·simp only[aW,G8,Ht,decide_true,Bool.and_self,cond_true,Option.some.injEq] at h;rw[←h,Nx,Ht]
     ·simp [aW,Ht] at h
    ·simp [aW,G8] at h
   ·cases h
  ·cases h
theorem jR {d:Nat} {t:TypeId} {ks:List cg} (h:lq P d t=some ks) (cs:Array Value) (off:Nat) (hn:off+ks.length≤cs.size) (w:World):∃x,(part t cs off).run P w=.ok x w∧Jj P t ((cs.toList.drop off).take ks.length) x:=by
 obtain⟨D,hu,h1,h2⟩:=S6 h;obtain⟨di,hi⟩:=info_of_underlying hu;cases ha:iK D
 ·have hn1:=h1 ha;have hlt:off<cs.size:=by omega
  refine⟨cs[off], ?_,D,hu,.inr ⟨ha, ?_⟩⟩
  ·simp [part,jA hu,ha,Array.getElem?_eq_getElem hlt]
  ·have:cs.toList.drop off=cs[off]::cs.toList.drop (off+1):=by
    rw[List.drop_eq_getElem_cons (by simpa using hlt)];rfl
   rw[this,hn1];rfl
 ·exact Dl hu hi cs off _ hn (by have:=h2 ha;simpa [Program.cellsOf,hi] using this) (fun h=>by rw[ha] at h;cases h) w
theorem yE {d D:Nat} (ih:∀t ks,lq P d t=some ks→Q1 P ρ D t ks) (xs ys:Array Value) (w:World):∀(l:List Field) (o:Nat) (ks:List cg) (xv yv:List V) (b:Bool),ln (lq P d) l o=some ks→o≤xv.length→o≤yv.length→aI ks (xv.drop o)=true→aI ks (yv.drop o)=true→eM ρ xv xs.toList→eM ρ yv ys.toList→eE (xv.drop o) (yv.drop o)=some b→(Op.eqFields D xs ys l).run P w=.ok b w
 |[],o,ks,xv,yv,b,h,hx,hy,fx,fy,_,_,he=>by
  simp only[ln,Option.some.injEq] at h;subst h;have l1:=fj fx;have l2:=fj fy;rw[List.eq_nil_of_length_eq_zero l1.symm,List.eq_nil_of_length_eq_zero l2.symm] at he;simp only[eE,Option.some.injEq] at he;subst he;simp [Op.eqFields]
 |f::l,o,ks,xv,yv,b,h,hx,hy,fx,fy,MO,MP,he=>by
  unfold ln at h;cases hc:(f.name != "_" &&Nat.beq f.offset o)
  ·simp [hc] at h
  ·simp only[hc,cond_true] at h;rw[Bool.and_eq_true] at hc;have hname:f.name≠ "_" :=by simpa using hc.1
   have hoff:f.offset=o:=Nat.eq_of_beq_eq_true hc.2;split at h
   ·rename_i m hm;split at h
    ·rename_i r hr;simp only[Option.some.injEq] at h;subst h;have l1:=fj fx;have l2:=fj fy;simp only[List.length_append,List.length_drop] at l1 l2;obtain⟨fx1,fx2⟩:=jY fx;obtain⟨fy1,fy2⟩:=jY fy;rw[List.drop_drop] at fx2 fy2;have hxs:xs.size=xv.length:=by have:=MO.1;simp at this;omega
     have hys:ys.size=yv.length:=by have:=MP.1;simp at this;omega
     obtain⟨x,hx1,vD⟩:=jR hm xs o (by omega) w;obtain⟨y,hy1,TC⟩:=jR hm ys o (by omega) w;rw[ig xv o m.length,ig yv o m.length] at he;obtain⟨u,v,h1,h2,rfl⟩:=lG _ _ (by simp;omega) he;have e1:=ih _ _ hm w _ _ _ _ x y u fx1 fy1 ((MO.drop o).take m.length) ((MP.drop o).take m.length) h1 vD TC;have e2:=yE ih xs ys w l (o+m.length) r xv yv v hr (by omega) (by omega) fx2 fy2 MO MP h2;rw[Op.eqFields];simp only[if_pos hname,Sem.run_bind,hoff,hx1,hy1,e1,Result.andThen_ok];cases u
     ·simp
     ·simpa using e2
    ·cases h
   ·cases h
theorem BI {d D:Nat} {m:List cg} {e:TypeId} (ih:Q1 P ρ D e m) (hm:lq P d e=some m) (xs ys:Array Value) (w:World):∀(k i:Nat) (xv yv:List V) (b:Bool),i*m.length≤xv.length→i*m.length≤yv.length→aI (AY k m) (xv.drop (i*m.length))=true→aI (AY k m) (yv.drop (i*m.length))=true→eM ρ xv xs.toList→eM ρ yv ys.toList→eE (xv.drop (i*m.length)) (yv.drop (i*m.length))=some b→(Op.eqItems D e m.length xs ys (List.range' i k)).run P w=.ok b w
 |0,i,xv,yv,b,hx,hy,fx,fy,_,_,he=>by
  have l1:=fj fx;have l2:=fj fy;rw[AY,List.length_nil] at l1 l2;rw[List.eq_nil_of_length_eq_zero l1.symm,List.eq_nil_of_length_eq_zero l2.symm] at he;simp only[eE,Option.some.injEq] at he;subst he;simp [Op.eqItems]
 |k+1,i,xv,yv,b,hx,hy,fx,fy,MO,MP,he=>by
  rw[AY] at fx fy;have l1:=fj fx;have l2:=fj fy;simp only[List.length_append,List.length_drop] at l1 l2;obtain⟨fx1,fx2⟩:=jY fx;obtain⟨fy1,fy2⟩:=jY fy;have hs:i*m.length+m.length=(i+1)*m.length:=by rw[Nat.add_mul,Nat.one_mul]
  rw[List.drop_drop,hs] at fx2 fy2;have hxs:xs.size=xv.length:=by have:=MO.1;simp at this;omega
  have hys:ys.size=yv.length:=by have:=MP.1;simp at this;omega
  obtain⟨x,hx1,vD⟩:=jR hm xs (i*m.length) (by omega) w;obtain⟨y,hy1,TC⟩:=jR hm ys (i*m.length) (by omega) w;rw[ig xv (i*m.length) m.length,ig yv (i*m.length) m.length] at he;obtain⟨u,v,h1,h2,rfl⟩:=lG _ _ (by simp;omega) he;have e1:=ih w _ _ _ _ x y u fx1 fy1 ((MO.drop _).take _) ((MP.drop _).take _) h1 vD TC;rw[hs] at h2;have e2:=BI ih hm xs ys w k (i+1) xv yv v (by omega) (by omega) fx2 fy2 MO MP h2;rw[List.range'_succ];simp only[Op.eqItems,Sem.run_bind,hx1,hy1,e1,Result.andThen_ok];cases u
  ·simp
  ·simpa using e2
theorem vO {t:TypeId} {d:TypeDesc} {k:cg} {D:Nat} (hu:P.underlying t=some d) (ha:iK d=false) (hk:∀(w:World) (p q:V) (x y:Value) (b:Bool),p.aw k=true→q.aw k=true→VR ρ p x→VR ρ q y→eE [p] [q]=some b→(Op.equalIn D t x y).run P w=.ok b w):Q1 P ρ D t [k]:=by
 intro w xv yv xs ys x y b fx fy MO MP he Wp hiy;obtain⟨dx,TD,hcx⟩:=Wp;obtain⟨dy,TE,hcy⟩:=hiy;rw[hu] at TD TE;cases TD;cases TE;rcases hcx with⟨h',_⟩|⟨_,rfl⟩
 ·rw[ha] at h';cases h'
 rcases hcy with⟨h',_⟩|⟨_,rfl⟩
 ·rw[ha] at h';cases h'
 match xv,yv,fx,fy with
 |[p],[q],fx,fy=>
  simp only[aI,Bool.and_true] at fx fy;exact hk w p q x y b fx fy (MO.2 0 p x rfl rfl) (MP.2 0 q y rfl rfl) he
 |[],_,fx,_=>simp [aI] at fx
 |_::_::_,_,fx,_=>simp [aI] at fx
 |[_],[],_,fy=>simp [aI] at fy
 |[_],_::_::_,_,fy=>simp [aI] at fy
theorem Q2:∀(d:Nat) (t:TypeId) (ks:List cg),lq P d t=some ks→∀D,d≤D→Q1 P ρ D t ks:=by
 intro d
 induction d with
 |zero=>intro t ks h;cases h
 |succ d ih=>
  intro t ks h D hD;obtain⟨D,rfl⟩:∃D',D=D'+1:=⟨D-1,by omega⟩;unfold lq at h;split at h
  ·rename_i hu;simp only[Option.some.injEq] at h;subst h;refine vO hu rfl fun w p q x y b kp kq hp hq he=> ?_
   cases hp<;>simp [V.aw] at kp
   cases hq<;>simp [V.aw] at kq
   simp [eE] at he;simp [Op.equalIn,run_underlying hu,he]
  ·rename_i k hu;simp only[Option.some.injEq] at h;subst h;refine vO hu rfl fun w p q x y b kp kq hp hq he=> ?_
   cases hp<;>simp [V.aw] at kp
   cases hq<;>simp [V.aw] at kq
   subst kp;subst kq;simp [eE] at he;simp [Op.equalIn,run_underlying hu,he]
  ·rename_i hu;simp only[Option.some.injEq] at h;subst h;refine vO hu rfl fun w p q x y b kp kq hp hq he=> ?_
   cases hp<;>simp [V.aw] at kp
   cases hq<;>simp [V.aw] at kq
   simp [eE] at he;simp [Op.equalIn,run_underlying hu,he]
  ·rename_i fs hu;intro w xv yv xs ys x y b fx fy MO MP he Wp hiy;cases hp:P.stoodInHeld t
   ·simp only[hp,cond_false] at h;split at h
    ·rename_i m hm
     have hmn:m=ks:=by
      by_cases hc:P.cellsOf t=m.length
      ·simpa [aW,hc] using h
      ·simp [aW,hc] at h
     subst hmn;obtain⟨dx,TD,hcx⟩:=Wp;obtain⟨dy,TE,hcy⟩:=hiy;rw[hu] at TD TE;cases TD;cases TE;rcases hcx with⟨_,rfl⟩|⟨h',_⟩
     ·rcases hcy with⟨_,rfl⟩|⟨h',_⟩
      ·have hf:P.fieldsOf t=fs:=by simp [Program.fieldsOf,hu]
       rw[run_equalIn_struct (P:=P) w D t _ _ (by rw[hf];exact hu) hp,hf];exact yE (fun t n h=>ih t n h D (by omega)) _ _ w fs.toList 0 m xv yv b hm (by omega) (by omega) (by simpa using fx) (by simpa using fy) (by simpa using MO) (by simpa using MP) (by simpa using he)
      ·simp [iK] at h'
     ·simp [iK] at h'
    ·cases h
   ·simp [hp] at h
  ·rename_i k e hu;intro w xv yv xs ys x y b fx fy MO MP he Wp hiy;split at h
   ·rename_i m hm
    have hc:P.cellsOf e=m.length∧ks=AY k m:=by
     by_cases G8:P.cellsOf e=m.length
     ·by_cases Ht:P.cellsOf t=k*m.length
      ·simp only[aW,G8,Ht,decide_true,Bool.and_self,cond_true,Option.some.injEq] at h;exact⟨G8,h.symm⟩
      ·simp [aW,Ht] at h
     ·simp [aW,G8] at h
    obtain⟨G8,rfl⟩:=hc;obtain⟨dx,TD,hcx⟩:=Wp;obtain⟨dy,TE,hcy⟩:=hiy;rw[hu] at TD TE;cases TD;cases TE;rcases hcx with⟨_,rfl⟩|⟨h',_⟩
    ·rcases hcy with⟨_,rfl⟩|⟨h',_⟩
     ·obtain⟨De,SD,_⟩:=S6 hm;obtain⟨di,hi⟩:=info_of_underlying SD;rw[run_equalIn_array w D _ _ hu hi,G8,List.range_eq_range'];exact BI (ih e m hm D (by omega)) hm _ _ w k 0 xv yv b (by omega) (by omega) (by simpa using fx) (by simpa using fy) (by simpa using MO) (by simpa using MP) (by simpa using he)
     ·simp [iK] at h'
    ·simp [iK] at h'
   ·cases h
  ·cases h
end
section
variable {E:kz} {ρ lam:dD} {w:World}
theorem vP {t:TypeId} {k:cg} (h:bh E t=some k):∃d di,E.P.underlying t=some d∧E.P.info? t=some di∧cO (bo d)=some k∧iK d=false:=by
 unfold bh at h;split at h
 ·rename_i i hi;obtain⟨di,d,h1,h2,h3,_⟩:=jQ hi;exact⟨d,di,h2,h1,by rw[h3];exact h,HI (by rw[h3];exact h)⟩
 ·cases h
theorem yF {t:TypeId} {ks:List cg} (h:od E t=some ks):∃d di z,E.P.underlying t=some d∧E.P.info? t=some di∧iK d=true∧di.zero.bind ll=some (.agg z)∧ks=z.map V.cU:=by
 unfold od at h;split at h
 ·rename_i i hi;obtain⟨di,d,h1,h2,h3,h4,h5,h6⟩:=jQ hi;split at h
  ·rename_i n e z hs hz;simp only[Option.some.injEq] at h;refine⟨d,di,z,h2,h1, ?_,by rw[h6,hz],h.symm⟩;rw[hs] at h3;cases d<;>simp_all [bo,iK]
  ·rename_i fs z hs hz;simp only[Option.some.injEq] at h;refine⟨d,di,z,h2,h1, ?_,by rw[h6,hz],h.symm⟩;rw[hs] at h3;cases d<;>simp_all [bo,iK]
  ·cases h
 ·cases h
theorem Lg {t:TypeId} {n:Nat} (h:size E t=some n):∃di,E.P.info? t=some di∧di.size=n:=by
 unfold size at h;split at h
 ·rename_i i hi;obtain⟨di,d,h1,h2,h3,h4,h5,h6⟩:=jQ hi;simp only[Option.some.injEq] at h;exact⟨di,h1,by omega⟩
 ·cases h
theorem fk {t:TypeId} {n:Nat} (h:size E t=some n) (w:World):(sizeOf t).run E.P w=.ok n w:=by
 obtain⟨di,h1,h2⟩:=Lg h;simp [sizeOf,typeInfo,h1,h2]
theorem k8:∀{ks:List cg} {cs:List V} {l:List V} {j:Nat},aI ks cs=true→l.drop j=cs→n8 ks l j=cs
 |[],[],_,_,_,_=>rfl
 |[],_::_,_,_,h,_=>by simp [aI] at h
 |_::_,[],_,_,h,_=>by simp [aI] at h
 |k::ks,c::cs,l,j,h,hl=>by
  rw[aI,Bool.and_eq_true] at h
  have hj:j<l.length:=by
   rcases Nat.lt_or_ge j l.length with h|h
   ·exact h
   ·rw[List.drop_eq_nil_of_le h] at hl;cases hl
  have h0:ae l j=c:=by
   have h1:=qR hj
   have h2:l[j]? =some c:=by
    have:(l.drop j)[0]? =some c:=by rw[hl];rfl
    simpa using this
   rw[h1] at h2;exact Option.some.inj h2
  rw[n8,h0,V.so h.1,k8 (j:=j+1) h.2 (by rw[←List.drop_drop,hl];rfl)]
theorem ug {v:V} (h:v.isAgg=true):v=.agg v.af:=by cases v<;>simp_all [V.isAgg,V.af]
theorem lH {t:TypeId} {v y:V} {r:Bool} (h:tP E t v=some (r,y)) (hr:r=true):y=v:=by
 unfold tP at h;split at h
 ·simp only[Option.some.injEq,Prod.mk.injEq] at h;rw[←h.2];exact V.so (h.1.trans hr)
 ·split at h
  ·simp only[Option.some.injEq,Prod.mk.injEq] at h;have h1:=h.1.trans hr;rw[Bool.and_eq_true] at h1;rw[←h.2,k8 h1.2 rfl];exact(ug h1.1).symm
  ·cases h
theorem yG:∀{ts:List TypeId} {v:V} {j:Nat} {r:Bool} {l:List V},tQ E ts v j=some (r,l)→r=true→v.ar.length=j+ts.length→l=v.ar.drop j
 |[],v,j,r,l,h,_,hl=>by
  simp only[tQ,Option.some.injEq,Prod.mk.injEq] at h;rw[←h.2,List.drop_eq_nil_of_le (by simp at hl;omega)]
 |t::ts,v,j,r,l,h,hr,hl=>by
  simp only[tQ] at h;split at h
  ·rename_i b x c l' h1 h2;simp only[Option.some.injEq,Prod.mk.injEq] at h;have hb:=h.1.trans hr;rw[Bool.and_eq_true] at hb;have e1:=lH h1 hb.1;have e2:=yG h2 hb.2 (by simp at hl;omega);have hj:j<v.ar.length:=by simp at hl;omega
   rw[←h.2,e1,e2];have:=qR hj;rw[List.getElem?_eq_getElem hj] at this;rw[List.drop_eq_getElem_cons hj, ←Option.some.inj this]
  ·cases h
theorem Ny {t:TypeId} {v y:V} {r:Bool} (h:tT E t v=some (r,y)) (hr:r=true):y=v:=by
 unfold tT at h;split at h
 ·split at h
  ·simp only[Option.some.injEq,Prod.mk.injEq] at h;exact h.2.symm
  ·split at h
   ·rename_i ts _ _ _ b l h1;simp only[Option.some.injEq,Prod.mk.injEq] at h;have hb:=h.1.trans hr;rw[Bool.and_eq_true] at hb
    have hv:v=.tuple v.ar∧v.ar.length=ts.length:=by
     cases v<;>simp_all [V.aJ,V.ar]
    have:=yG h1 hb.2 (by omega);rw[←h.2,this,List.drop_zero];exact hv.1.symm
   ·cases h
  ·exact lH h hr
 ·cases h
theorem yH {t:TypeId} {cs:List V} {off:Nat} {r:Bool} {v:V} {cs':Array Value} (h:mO E t cs off=some (r,v)) (hr:r=true) (h1:bf cs) (hcs:eM ρ cs cs'.toList) (w:World):∃v',(part t cs' off).run E.P w=.ok v' w∧VR ρ v v':=by
 unfold mO at h;split at h
 ·rename_i k hk;obtain⟨d,di,hu,hi,_,ha⟩:=vP hk;simp only[Option.some.injEq,Prod.mk.injEq] at h;have xq:=h.1.trans hr;rw[Bool.and_eq_true] at xq;have hlt:off<cs.length:=by simpa using xq.1
  obtain⟨y,hy,hv⟩:=hcs.nth hlt;refine⟨y, ?_,by rw[←h.2,V.so xq.2];exact hv⟩;have hy':cs'[off]? =some y:=by simpa using hy
  simp [part,jA hu,ha,hy']
 ·split at h
  ·rename_i ks n hks hn;obtain⟨d,di,z,hu,hi,ha,_⟩:=yF hks;simp only[Option.some.injEq,Prod.mk.injEq] at h;refine⟨.agg (cs'.extract off (off+n)), ?_, ?_⟩
   ·simp [part,jA hu,ha,fk hn]
   ·rw[←h.2];refine .vK (fun c hc=>h1 c (List.mem_of_mem_drop (List.mem_of_mem_take hc))) ?_;have:=(hcs.drop off).take n;simpa [List.extract_eq_take_drop] using this
  ·cases h
theorem Nz {op:BinOp} {k:IntKind} {x y:Int} {r:Bool} {v:V} (h:vG op k x y=some (r,v)) (hr:r=true) (t:TypeId):∃v',(binOp op t (.int k x) (.int k y)).run E.P w=.ok v' w∧VR ρ v v':=by
 subst hr
 cases op<;>simp only[vG,Option.some.injEq,Prod.mk.injEq] at h<;>obtain⟨h1,rfl⟩:=h<;>
  simp only[binOp,ne_eq,not_true,if_false,Op.intArith,Op.intCmp,Op.intBits,Op.intDiv,Op.shift]<;>
  first
   |exact⟨_,rfl,.int _ _⟩
   |exact⟨_,rfl,.bool _⟩
   |(have h1:¬y=0:=by simpa using h1
     rw[if_neg h1];exact⟨_,rfl,.int _ _⟩)
   |(have h1:¬y<0:=by simpa using h1
     rw[if_neg h1];exact⟨_,rfl,.int _ _⟩)
theorem yI {op:BinOp} (hop:op=.shl∨op=.shr) {k k':IntKind} {x y:Int} {r:Bool} {v:V} (h:vG op k x y=some (r,v)) (hr:r=true) (t:TypeId):∃v',(binOp op t (.int k x) (.int k' y)).run E.P w=.ok v' w∧VR ρ v v':=by
 subst hr
 rcases hop with rfl|rfl<;>simp only[vG,Option.some.injEq,Prod.mk.injEq] at h<;>obtain⟨h1,rfl⟩:=h<;>
  simp only[binOp,Op.shift]<;>
  (have h1:¬y<0:=by simpa using h1
   rw[if_neg h1];exact⟨_,rfl,.int _ _⟩)
theorem Q3:IntKind.i64.max=9223372036854775807:=by decide
theorem NA {op:BinOp} {x y:ByteArray} {r:Bool} {v:V} (h:Hz op x y=some (r,v)) (hr:r=true) (t:TypeId):∃v',(binOp op t (.string x) (.string y)).run E.P w=.ok v' w∧VR ρ v v':=by
 subst hr
 cases op<;>simp only[Hz,Option.some.injEq,Prod.mk.injEq] at h<;>first
  |(cases h;done)
  |(obtain⟨h1,rfl⟩:=h
    simp only[binOp,Op.stringOp,mq]
    first
     |exact⟨_,rfl,.bool _⟩
     |(have h1:¬((x.size+y.size:Nat):Int)>IntKind.i64.max:=by rw[Q3];unfold Nl at h1;have:=Nat.le_of_ble_eq_true h1;omega
       rw[if_neg h1];exact⟨_,rfl,.cG _⟩))
theorem bK {t:TypeId} {k:cg} (h:bh E t=some k):∃d,E.P.underlying t=some d∧cO (bo d)=some k:=by
 obtain⟨d,_,h1,_,h2,_⟩:=vP h;exact⟨d,h1,h2⟩
set_option maxHeartbeats 2000000 in
theorem rZ {t:TypeId} {nils:Bool} {a b:V} {a' b':Value} {x y:Operand} {op:BinOp} {r q:Bool} (hc:nils=true→∃v,y=.const v)
 {D:Nat} (hD:50≤D+1) (ha:VR ρ a a') (hb:VR ρ b b') (h:iL E t nils a b=some (r,q)) (hr:r=true):
 (eqGuard op t x y a' b').run E.P w=.ok () w∧(Op.equalIn (D+1) t a' b').run E.P w=.ok q w:=by
 subst hr;unfold iL at h;split at h
 ·split at h
  ·rename_i hk;obtain⟨d,hu,hd⟩:=bK hk;simp only[Option.some.injEq,Prod.mk.injEq,true_and] at h;cases ha;cases hb;cases d<;>simp [bo,cO] at hd
   refine⟨by cases op<;>simp [eqGuard],by simp [Op.equalIn,run_underlying hu, ←h]⟩
  ·cases h
 ·split at h
  ·rename_i hk;obtain⟨d,hu,hd⟩:=bK hk;simp only[Option.some.injEq,Prod.mk.injEq,true_and] at h;cases hb;cases d<;>simp [bo,cO] at hd
   cases ha<;>exact⟨by cases op<;>simp [eqGuard],by simp [Op.equalIn,run_underlying hu, ←h]⟩
  ·cases h
 ·split at h
  ·rename_i hk;obtain⟨d,hu,hd⟩:=bK hk;simp only[Option.some.injEq,Prod.mk.injEq,true_and] at h;cases ha;cases d<;>simp [bo,cO] at hd
   cases hb<;>exact⟨by cases op<;>simp [eqGuard],by simp [Op.equalIn,run_underlying hu, ←h]⟩
  ·cases h
 ·split at h
  ·rename_i hk;obtain⟨d,hu,hd⟩:=bK hk;simp only[Option.some.injEq,Prod.mk.injEq,true_and] at h;cases hb;cases d<;>simp [bo,cO] at hd
   cases ha<;>exact⟨by cases op<;>simp [eqGuard],by simp [Op.equalIn,run_underlying hu, ←h]⟩
  ·cases h
 ·split at h
  ·rename_i hk;obtain⟨d,hu,hd⟩:=bK hk;simp only[Option.some.injEq,Prod.mk.injEq,true_and] at h;cases ha;cases d<;>simp [bo,cO] at hd
   cases hb<;>exact⟨by cases op<;>simp [eqGuard],by simp [Op.equalIn,run_underlying hu, ←h]⟩
  ·cases h
 ·split at h
  ·rename_i hk;obtain⟨d,hu,hd⟩:=bK hk;simp only[Option.some.injEq,Prod.mk.injEq,true_and] at h;cases hb;cases d<;>simp [bo,cO] at hd
   cases ha<;>exact⟨by cases op<;>simp [eqGuard],by simp [Op.equalIn,run_underlying hu, ←h]⟩
  ·cases h
 ·split at h
  ·rename_i hk;obtain⟨d,hu,hd⟩:=bK hk;simp only[Option.some.injEq,Prod.mk.injEq,true_and] at h;cases ha;cases d<;>simp [bo,cO] at hd
   cases hb<;>exact⟨by cases op<;>simp [eqGuard],by simp [Op.equalIn,run_underlying hu, ←h]⟩
  ·cases h
 ·rename_i xs ys;split at h
  ·rename_i ks b hk hb';simp only[Option.some.injEq,Prod.mk.injEq,Bool.and_eq_true,cZ,hb'] at h;obtain⟨⟨h1,h2⟩,rfl⟩:=h;have hq:=E.eq_ok t ks hk;simp only[K8,Bool.and_eq_true,Bool.not_eq_true',decide_eq_true_eq] at hq;obtain⟨xs',rfl,hx,_⟩:=ha.ov;obtain⟨ys',rfl,hy,_⟩:=hb.ov;refine⟨run_eqGuard_agg w op t x y _ _ hq.1.1, ?_⟩;have key:=Q2 (P:=E.P) (ρ:=ρ) 50 t ks hq.1.2 (D+1) hD w xs ys xs'.toList ys'.toList (.agg xs') (.agg ys') b h1 h2 hx hy hb';have QN:=hq.2;split at QN
   ·rename_i d hu;exact key ⟨d,hu,.inl ⟨QN,by simp⟩⟩ ⟨d,hu,.inl ⟨QN,by simp⟩⟩
   ·cases QN
  ·cases h
 ·split at h
  ·rename_i hk;obtain⟨d,hu,hd⟩:=bK hk;simp only[Option.some.injEq,Prod.mk.injEq] at h;obtain⟨h1,h⟩:=h;cases hb;cases d<;>simp [bo,cO] at hd
   cases ha<;>simp [V.aw] at h1<;>exact⟨by cases op<;>simp [eqGuard],by simp [Op.equalIn,run_underlying hu, ←h,V.nk]⟩
  ·cases h
 ·split at h
  ·rename_i hk;obtain⟨d,hu,hd⟩:=bK hk;simp only[Option.some.injEq,Prod.mk.injEq] at h;obtain⟨h1,h⟩:=h;cases ha;cases d<;>simp [bo,cO] at hd
   cases hb<;>simp [V.aw] at h1<;>exact⟨by cases op<;>simp [eqGuard],by simp [Op.equalIn,run_underlying hu, ←h,V.nk]⟩
  ·cases h
 ·cases nils
  ·simp at h
  ·simp only[cond_true] at h;split at h
   ·rename_i hk;obtain⟨d,hu,hd⟩:=bK hk;obtain⟨c,rfl⟩:=hc rfl;simp only[Option.some.injEq,Prod.mk.injEq] at h;obtain⟨h1,h⟩:=h;cases hb;cases d<;>simp [bo,cO] at hd
    cases ha<;>simp [V.aw] at h1<;>exact⟨by cases op<;>simp [eqGuard],by simp [Op.equalIn,run_underlying hu, ←h,V.fq]⟩
   ·cases h
 ·cases h
end
section
variable {E:kz} {ρ lam:dD} {w:World}
theorem r7 {t:TypeId} {a b:Value} {q:Bool} (h:(Op.equalIn 10000 t a b).run E.P w=.ok q w) (hn:∀k n k' n',¬(a=.int k n∧b=.int k' n')) (hs:∀x y,¬(a=.string x∧b=.string y)) (hf:∀k x k' y,¬(a=.float k x∧b=.float k' y)) (hx:∀k x y k' x' y',¬(a=.complex k x y∧b=.complex k' x' y')):(binOp .eql t a b).run E.P w=.ok (.bool q) w∧(binOp .neq t a b).run E.P w=.ok (.bool (!q)) w:=by
 have he:(Op.equal t a b).run E.P w=.ok q w:=h
 cases a<;>cases b<;>first
  |exact(hn _ _ _ _ ⟨rfl,rfl⟩).elim
  |exact(hs _ _ ⟨rfl,rfl⟩).elim
  |exact(hf _ _ _ _ ⟨rfl,rfl⟩).elim
  |exact(hx _ _ _ _ _ _ ⟨rfl,rfl⟩).elim
  |(constructor<;>simp [binOp,he])
theorem uh {t:TypeId} {nils q:Bool} {a b:V} (h:iL E t nils a b=some (true,q)):a≠ .cv∧b≠ .cv:=by
 constructor
 ·rintro rfl;cases b<;>simp only[iL] at h<;>first|cases h|(split at h<;>first|cases h|(split at h<;>simp [V.aw] at h)|simp [V.aw] at h)|skip
  all_goals (revert h;cases nils<;>simp [V.aw];try (split<;>simp))
 ·rintro rfl;cases a<;>simp only[iL] at h<;>first|cases h|(split at h<;>first|cases h|simp [V.aw] at h)|skip
theorem Lh {op:BinOp} {t:TypeId} {nils r:Bool} {a b v:V} {a' b':Value} {x y:Operand} (hc:nils=true→∃c,y=.const c) (ha:VR ρ a a') (hb:VR ρ b b') (h:CY E op t nils a b=some (r,v)) (hr:r=true):∃v',(eqGuard op t x y a' b').run E.P w=.ok () w∧(binOp op t a' b').run E.P w=.ok v' w∧VR ρ v v':=by
 unfold CY at h;split at h
 ·rename_i k n k' n';cases ha;cases hb;have hg:(eqGuard op t x y (.int k n) (.int k' n')).run E.P w=.ok () w:=by cases op<;>simp [eqGuard]
  split at h
  ·obtain⟨v',h1,h2⟩:=yI (w:=w) (ρ:=ρ) (.inl rfl) (k':=k') h hr t;exact⟨v',hg,h1,h2⟩
  ·obtain⟨v',h1,h2⟩:=yI (w:=w) (ρ:=ρ) (.inr rfl) (k':=k') h hr t;exact⟨v',hg,h1,h2⟩
  ·by_cases hk:k=k'
   ·subst hk;simp only[nn,decide_true,cond_true] at h;obtain⟨v',h1,h2⟩:=Nz (w:=w) (ρ:=ρ) h hr t;exact⟨v',hg,h1,h2⟩
   ·simp [hk] at h
 ·rename_i s s';cases ha;cases hb;obtain⟨v',h1,h2⟩:=NA (w:=w) (ρ:=ρ) h hr t;exact⟨v',by cases op<;>simp [eqGuard],h1,h2⟩
 ·rename_i h1 h2
  have hh:a≠ .cv∧b≠ .cv:=by
   split at h
   ·split at h
    ·rename_i r' q he;simp only[Option.some.injEq,Prod.mk.injEq] at h;exact uh (he.trans (by rw[h.1,hr]))
    ·cases h
   ·split at h
    ·rename_i r' q he;simp only[Option.some.injEq,Prod.mk.injEq] at h;exact uh (he.trans (by rw[h.1,hr]))
    ·cases h
   ·cases h
  have hn:∀k n k' n',¬(a'=.int k n∧b'=.int k' n'):=by
   rintro k n k' n' ⟨rfl,rfl⟩
   cases ha with
   |cv=>exact hh.1 rfl
   |int=>cases hb with
    |cv=>exact hh.2 rfl
    |int=>exact h1 _ _ _ _ rfl rfl
  have hs:∀x y,¬(a'=.string x∧b'=.string y):=by
   rintro x y ⟨rfl,rfl⟩
   cases ha with
   |cv=>exact hh.1 rfl
   |cG=>cases hb with
    |cv=>exact hh.2 rfl
    |cG=>exact h2 _ _ rfl rfl
  have hf:∀k x k' y,¬(a'=.float k x∧b'=.float k' y):=by
   rintro k x k' y ⟨rfl,rfl⟩
   cases ha with
   |cv=>exact hh.1 rfl
  have hx:∀k x y k' x' y',¬(a'=.complex k x y∧b'=.complex k' x' y'):=by
   rintro k x y k' x' y' ⟨rfl,rfl⟩
   cases ha with
   |cv=>exact hh.1 rfl
  split at h
  ·split at h
   ·rename_i r' q he;simp only[Option.some.injEq,Prod.mk.injEq] at h;obtain⟨rfl,rfl⟩:=h;obtain⟨hg,h3⟩:=rZ (w:=w) (x:=x) (op:=.eql) (D:=9999) hc (by omega) ha hb he hr;exact⟨.bool q,hg,(r7 h3 hn hs hf hx).1,.bool _⟩
   ·cases h
  ·split at h
   ·rename_i r' q he;simp only[Option.some.injEq,Prod.mk.injEq] at h;obtain⟨rfl,rfl⟩:=h;obtain⟨hg,h3⟩:=rZ (w:=w) (x:=x) (op:=.neq) (D:=9999) hc (by omega) ha hb he hr;exact⟨.bool (!q),hg,(r7 h3 hn hs hf hx).2,.bool _⟩
   ·cases h
  ·cases h
theorem Dm (c:Bool) (x y:Int):(bif c then x else y)=if c=true then x else y:=by cases c<;>rfl
theorem NB {op:UnOp} {a v:V} {a':Value} (ha:VR ρ a a') (h:unV op a=some v):∃v',(Op.unary op a').run E.P w=.ok v' w∧VR ρ v v':=by
 unfold unV at h;split at h
 ·cases ha;simp only[Option.some.injEq] at h;subst h;exact⟨_,rfl,.bool _⟩
 ·cases ha;simp only[Option.some.injEq] at h;subst h;exact⟨_,rfl,.int _ _⟩
 ·cases ha;simp only[Option.some.injEq] at h;subst h;exact⟨_,rfl,by rw[Dm];exact .int _ _⟩
 ·cases h
theorem yJ {t ft:TypeId} {f o:Nat} (h:tU E t f=some (o,ft)):∃fs fd,E.P.underlying t=some (.struct fs)∧fs[f]? =some fd∧fd.offset=o∧fd.type=ft:=by
 unfold tU at h;split at h
 ·rename_i i hi;obtain⟨di,d,h1,h2,h3,_⟩:=jQ hi;split at h
  ·rename_i fs hs;rw[hs] at h3;cases d<;>simp [bo] at h3
   rename_i fields;subst h3;simp only[List.getElem?_map,Option.map_eq_some_iff,Prod.mk.injEq] at h;obtain⟨fd,h4,h5,h6⟩:=h;exact⟨fields,fd,h2,by simpa using h4,h5,h6⟩
  ·cases h
 ·cases h
theorem sJ {ev:Ev} {e:Operand→Value} (cW:pM ρ lam ev e) {x:Operand} {i:Int} (h:rR x ev=some i):∃k,e x=.int k i:=by
 unfold rR at h;split at h
 ·rename_i k j hx;simp only[Option.some.injEq] at h;subst h;exact⟨k,(cW.v hx).iu⟩
 ·cases h
theorem yK {k:IntKind} {i:Int} {y:Nat} {code:BoundsCode} (h0:0≤i) (h1:i≤(y:Int)) (w:World):(Instr.sliceBound (.int k i) y code).run E.P w=.ok i.toNat w:=by
 simp [Instr.sliceBound,asIntOf,h0,h1]
theorem oz {ev:Ev} {e:Operand→Value} (cW:pM ρ lam ev e) {isS:Bool} {len cap l h m:Nat} {lo hi mx:Option Operand} {r:Bool} (hb:gv ev len cap lo hi mx=some (r,l,h,m)) (hr:r=true) (w:World):(Instr.sliceBounds isS len cap (lo.map e) (hi.map e) (mx.map e)).run E.P w=.ok (l,h,m) w:=by
 unfold gv at hb;cases hq:(hi.isNone&&mx.isSome)
 ·simp only[hq,cond_false] at hb;split at hb
  ·rename_i m1 hm;split at hb
   ·rename_i h1 hh;split at hb
    ·rename_i l1 hl;simp only[Option.some.injEq,Prod.mk.injEq] at hb;obtain⟨CT,rfl,rfl,rfl⟩:=hb;rw[hr] at CT;simp only[Bool.and_eq_true] at CT;obtain⟨⟨r1,r2⟩,r3⟩:=CT
     have key:∀{x:Option Operand} {d most:Nat} {q:Bool×Nat},mP ev x d most=some q→q.1=true→
      (x=none∧q.2=d)∨∃y k i,x=some y∧e y=.int k i∧0≤i∧i≤(most:Int)∧q.2=i.toNat:=by
      intro x d most q hx hq;unfold mP at hx;split at hx
      ·simp only[Option.some.injEq] at hx;subst hx;exact .inl ⟨rfl,rfl⟩
      ·split at hx
       ·rename_i y _ i hy;simp only[Option.some.injEq] at hx;subst hx;simp only[Bool.and_eq_true,decide_eq_true_eq] at hq;obtain⟨k,hk⟩:=sJ cW hy;exact .inr ⟨y,k,i,rfl,hk,hq.1,hq.2,rfl⟩
       ·cases hx
     unfold Instr.sliceBounds
     rcases key hm r1 with⟨rfl,e1⟩|⟨y1,k1,i1,rfl,he1,a1,b1,e1⟩<;>
      rcases key hh r2 with⟨rfl,e2⟩|⟨y2,k2,i2,rfl,SE,a2,b2,e2⟩<;>
       rcases key hl r3 with⟨rfl,e3⟩|⟨y3,k3,i3,rfl,he3,a3,b3,e3⟩<;>
        simp_all [yK]
    ·cases hb
   ·cases hb
  ·cases hb
 ·simp [hq] at hb
theorem Fo {x:Value} {v:V} (h:VR ρ v x):∀{cs:List V} {cs':List Value} {off:Nat},eM ρ cs cs'→eM ρ (yj cs 0 off v) (cs'.set off x):=by
 have key:∀(cs:List V) (cs':List Value) (j off:Nat),eM ρ cs cs'→eM ρ (yj cs j off v) (if off<j then cs' else cs'.set (off-j) x):=by
  intro cs
  induction cs with
  |nil=>intro cs' j off hc;rw[hc.gq];simpa [yj] using eM.nil ρ
  |cons c cs ih=>
   intro cs' j off hc;obtain⟨y,m,rfl,h1,h2⟩:=hc.dh;have:=ih m (j+1) off h2;rw[yj,np,aW];by_cases hlt:off<j
   ·rw[if_pos (by omega)] at this;rw[if_pos hlt,if_neg (by simp;omega)];exact .cons h1 this
   ·rw[if_neg hlt];by_cases he:j=off
    ·subst he;rw[if_pos (by omega)] at this;simp only[decide_true,if_true,Nat.sub_self,List.set_cons_zero];exact .cons h this
    ·rw[if_neg (by omega)] at this;obtain⟨q,hq⟩:∃q,off-j=q+1:=⟨off-j-1,by omega⟩;rw[hq,List.set_cons_succ,if_neg (by simp;omega)];rw[show off-(j+1)=q by omega] at this;exact .cons h1 this
 intro cs cs' off hc;have:=key cs cs' 0 off hc;simpa using this
end
section
variable {E:kz} {ρ lam:dD} {w:World}
theorem A8 {y:Operand} (h:sy y=true):∃v,y=.const v:=by
 cases y with
 |const v=>exact⟨v,rfl⟩
 |_=>simp [sy] at h
theorem dH {t:TypeId} {i:TI} (h:E.ti t=some i):∃d,E.P.underlying t=some d∧bo d=i.sh:=by
 obtain⟨di,d,_,h2,h3,_⟩:=jQ h;exact⟨d,h2,h3⟩
theorem ui {d:TypeDesc} {n e:Nat} (h:bo d=.vz n e):d=.array n e:=by cases d<;>simp_all [bo]
theorem iv {d:TypeDesc} {e:Nat} (h:bo d=.slice e):d=.slice e:=by cases d<;>simp_all [bo]
theorem Fp {d:TypeDesc} (h:bo d=.cG):d=.string:=by cases d<;>simp_all [bo]
theorem Fq {d:TypeDesc} {fs:List (Nat×TypeId)} (h:bo d=.struct fs):∃f,d=.struct f∧fs=f.toList.map fun f=>(f.offset,f.type):=by
 cases d<;>simp_all [bo]
theorem gf (b o n:Nat):(⟨b,o,none⟩:Addr).add n=⟨b,o+n,none⟩:=by unfold Addr.add;split<;>simp_all
def gr (E:kz) (ρ lam:dD) (w:World) (o:Oper) (e:Operand→Value) (x:T):Prop:=
 ∃v,(execOp e o).run E.P w=.ok (.value v) w∧TR ρ lam x v
theorem Fs {p:Oq} (h:p.isSome=true):p=some ((p.getD (0,0)).1,(p.getD (0,0)).2):=by
 cases p with
 |none=>cases h
 |some q=>rfl
variable {dst:Option Tmp} {type:TypeId} {jk:String} {after:Array Edge} {guard:Option (Nat×Bool)} {ev:Ev} {e:Operand→Value} {d:fS T}
theorem Li {x:Operand} (cW:pM ρ lam ev e) (h:ba E (.move x) ev=some d):gr E ρ lam w ⟨dst,.move x,type,jk,after,guard⟩ e (if d.c=true then d.x else d.y):=by
 simp only[ba] at h;split at h
 ·rename_i y hy;simp only[Option.some.injEq] at h;subst h;exact⟨e x,rfl,cW x y hy⟩
 ·cases h
theorem Fu {x:Operand} (cW:pM ρ lam ev e) (h:ba E (.assign x) ev=some d):gr E ρ lam w ⟨dst,.assign x,type,jk,after,guard⟩ e (if d.c=true then d.x else d.y):=by
 simp only[ba] at h;split at h
 ·rename_i y hy;simp only[Option.some.injEq] at h;subst h;exact⟨e x,rfl,cW x y hy⟩
 ·cases h
theorem Lj {c a b:Operand} (cW:pM ρ lam ev e) (h:ba E (.pick c a b) ev=some d):gr E ρ lam w ⟨dst,.pick c a b,type,jk,after,guard⟩ e (if d.c=true then d.x else d.y):=by
 simp only[ba] at h;split at h
 ·rename_i t hc;have tF:=(cW.tv hc).Dk;have hrun:(execOp e ⟨dst,.pick c a b,type,jk,after,guard⟩).run E.P w=.ok (.value (if t=true then e a else e b)) w:=by simp [execOp,asBool,tF]
  split at h
  ·rename_i x y ha hb;simp only[Option.some.injEq] at h;subst h;refine⟨_,hrun, ?_⟩;simp only[fS.one,if_true];cases t
   ·exact .v (cW.tv hb)
   ·exact .v (cW.tv ha)
  ·cases t with
   |true=>
    simp only[] at h;split at h
    ·rename_i y hy;simp only[Option.some.injEq] at h;subst h;exact⟨_,hrun,cW _ _ hy⟩
    ·cases h
   |false=>
    simp only[] at h;split at h
    ·rename_i y hy;simp only[Option.some.injEq] at h;subst h;exact⟨_,hrun,cW _ _ hy⟩
    ·cases h
 ·cases h
theorem T2 {op:BinOp} {t:TypeId} {nils:Bool} {a b:V} {r:Bool} {v:V} (h:T0 E op t nils a b=some (r,v)) (hr:r=true):CY E op t nils a b=some (r,v):=by
 unfold T0 at h;split at h
 ·split at h
  ·have key:∀{r x},Jf E t a=some (r,x)→r=true→iL E t true a .nilIface=some (r,x):=by
    intro r x he hr;unfold Jf at he;split at he
    ·rename_i hk;simp only[Option.some.injEq,Prod.mk.injEq] at he;obtain⟨rfl,rfl⟩:=he;cases a<;>simp_all [V.aw,iL]
    ·cases he
   split at h
   ·split at h
    ·rename_i r' b' he;simp only[Option.some.injEq,Prod.mk.injEq] at h;obtain⟨rfl,rfl⟩:=h;have:=key he hr;cases a<;>simp_all [CY]
    ·cases h
   ·split at h
    ·rename_i r' b' he;simp only[Option.some.injEq,Prod.mk.injEq] at h;obtain⟨rfl,rfl⟩:=h;have:=key he hr;cases a<;>simp_all [CY]
    ·cases h
   ·cases h
  ·exact h
 ·have key:∀{r x},CZ E t a=some (r,x)→iL E t nils a .nilFunc=some (r,x):=by
   intro r x he;unfold CZ at he;split at he
   ·rename_i hk;cases a<;>simp_all [V.aw,iL]
   ·cases he
  split at h
  ·split at h
   ·rename_i r' b' he;simp only[Option.some.injEq,Prod.mk.injEq] at h;obtain⟨rfl,rfl⟩:=h;have:=key he;cases a<;>simp_all [CY]
   ·cases h
  ·split at h
   ·rename_i r' b' he;simp only[Option.some.injEq,Prod.mk.injEq] at h;obtain⟨rfl,rfl⟩:=h;have:=key he;cases a<;>simp_all [CY]
   ·cases h
  ·cases h
 ·exact h
theorem NC {op:BinOp} {t yt:TypeId} {x y:Operand} (cW:pM ρ lam ev e) (h:ba E (.binOp op t x y yt) ev=some d) (hr:d.rq=true):gr E ρ lam w ⟨dst,.binOp op t x y yt,type,jk,after,guard⟩ e (if d.c=true then d.x else d.y):=by
 simp only[ba] at h;split at h
 ·rename_i a b ha hb;unfold BA at h;split at h
  ·rename_i r v hv;simp only[Option.some.injEq] at h;subst h;obtain⟨v',h1,h2,h3⟩:=Lh (w:=w) (x:=x) A8 (cW.v ha) (cW.v hb) (T2 hv hr) hr;exact⟨v',by simp [execOp,h1,h2],.v h3⟩
  ·cases h
 ·cases h
theorem Q4 {op:UnOp} {t:TypeId} {x:Operand} (cW:pM ρ lam ev e) (h:ba E (.unOp op t x) ev=some d):gr E ρ lam w ⟨dst,.unOp op t x,type,jk,after,guard⟩ e (if d.c=true then d.x else d.y):=by
 simp only[ba] at h;split at h
 ·rename_i a ha;split at h
  ·rename_i v hv;simp only[Option.some.injEq] at h;subst h;obtain⟨v',h1,h2⟩:=NB (E:=E) (w:=w) (cW.v ha) hv;exact⟨v',by simp [execOp,h1],.v h2⟩
  ·cases h
 ·cases h
theorem Dn {s t:TypeId} {x:Operand} (cW:pM ρ lam ev e) (h:ba E (.convert s t x) ev=some d):gr E ρ lam w ⟨dst,.convert s t x,type,jk,after,guard⟩ e (if d.c=true then d.x else d.y):=by
 simp only[ba] at h;split at h
 ·rename_i ti k k' n ni hk hx;obtain⟨ds,hds,_⟩:=dH ni;obtain⟨dt,hu,hd⟩:=bK hk;simp only[Option.some.injEq] at h;subst h;cases dt<;>simp [bo,cO] at hd
  subst hd;refine⟨_, ?_,.v (.int _ _)⟩;simp [execOp,convert,run_underlying hds,run_underlying hu,(cW.v hx).iu,Conv.intToInt]
 ·rename_i ti s' ni hk hx;obtain⟨ds,hds,_⟩:=dH ni;obtain⟨dt,hu,hd⟩:=bK hk;simp only[Option.some.injEq] at h;subst h;cases dt<;>simp [bo,cO] at hd
  exact⟨.string s',by simp [execOp,convert,run_underlying hds,run_underlying hu,(cW.v hx).vL],.v (.cG _)⟩
 ·rename_i ti k' n ni hk hx;obtain⟨ds,hds,_⟩:=dH ni;obtain⟨dt,hu,hd⟩:=bK hk;simp only[Option.some.injEq] at h;subst h;cases dt<;>simp [bo,cO] at hd
  exact⟨.string (Utf8.encode n),by simp [execOp,convert,run_underlying hds,run_underlying hu,(cW.v hx).iu,Conv.intToString],.v (.cG _)⟩
 ·cases h
theorem A9 {x:Operand} (cW:pM ρ lam ev e) (h:ba E (.nilCheck x) ev=some d) (hr:d.rq=true):gr E ρ lam w ⟨dst,.nilCheck x,type,jk,after,guard⟩ e (if d.c=true then d.x else d.y):=by
 simp only[ba] at h;split at h
 ·rename_i p hp;simp only[Option.some.injEq] at h;subst h;have:=Fs (p:=p) hr;rw[this] at hp;obtain⟨b,hb,he⟩:=(cW.tv hp).vM;exact⟨.pointer (some ⟨b,(p.getD (0,0)).2,none⟩),by simp [execOp,he],.v (.aj hb)⟩
 ·rename_i s off hx;simp only[Option.some.injEq] at h;subst h;obtain⟨b,hb,he⟩:=cW.lp hx;exact⟨.pointer (some ⟨b,off,none⟩),by simp [execOp,he],.lp hb⟩
 ·cases h
theorem yL {t:TypeId} {x:Operand} {f:Nat} (cW:pM ρ lam ev e) (h:ba E (.fieldAddr t x f) ev=some d):gr E ρ lam w ⟨dst,.fieldAddr t x f,type,jk,after,guard⟩ e (if d.c=true then d.x else d.y):=by
 simp only[ba] at h;split at h
 ·rename_i o ft hf;obtain⟨fs,fd,hu,Hu,ho,hft⟩:=yJ hf;split at h
  ·rename_i n hn;cases hz:sA n
   ·simp [hz] at h
   ·simp only[hz,cond_true] at h;have hn0:¬n=0:=by rintro rfl;simp [sA] at hz
    have key:∀b off,(Instr.fieldAt t (.pointer (some ⟨b,off,none⟩)) f).run E.P w=.ok (.pointer (some ⟨b,off+o,none⟩)) w:=by
     intro b off;simp [Instr.fieldAt,run_underlying hu,Hu,Instr.sureAddr,fieldPlace,hft,fk hn,hn0,gf,ho]
    split at h
    ·rename_i id off hx;simp only[Option.some.injEq] at h;subst h;obtain⟨b,hb,he⟩:=(cW.tv hx).vM;exact⟨.pointer (some ⟨b,off+o,none⟩),by simp [execOp,he,key],.v (.aj hb)⟩
    ·rename_i s off hx;simp only[Option.some.injEq] at h;subst h;obtain⟨b,hb,he⟩:=cW.lp hx;exact⟨.pointer (some ⟨b,off+o,none⟩),by simp [execOp,he,key],.lp hb⟩
    ·cases h
  ·cases h
 ·cases h
theorem HJ {t:TypeId} {x:Operand} {f:Nat} (cW:pM ρ lam ev e) (h:ba E (.field t x f) ev=some d) (hr:d.rq=true):gr E ρ lam w ⟨dst,.field t x f,type,jk,after,guard⟩ e (if d.c=true then d.x else d.y):=by
 simp only[ba] at h;split at h
 ·rename_i o ft cs hf hx;obtain⟨fs,fd,hu,Hu,ho,hft⟩:=yJ hf;unfold BA at h;split at h
  ·rename_i r v hv;simp only[Option.some.injEq] at h;subst h;obtain⟨cs',he,hcs,h1c⟩:=(cW.v hx).ov;obtain⟨v',h1,h2⟩:=yH hv hr h1c hcs w;exact⟨v',by simp [execOp,Instr.field,run_underlying hu,Hu,he,asAgg,ho,hft,h1],.v h2⟩
  ·cases h
 ·cases h
theorem yM {t:TypeId} {x i:Operand} (cW:pM ρ lam ev e) (h:ba E (.indexAddr t x i) ev=some d) (hr:d.rq=true):gr E ρ lam w ⟨dst,.indexAddr t x i,type,jk,after,guard⟩ e (if d.c=true then d.x else d.y):=by
 simp only[ba] at h;split at h
 ·rename_i n ti hn ni;obtain⟨k,hi⟩:=sJ cW hn;obtain⟨dt,hu,hd⟩:=dH ni;split at h
  ·rename_i len el hs;rw[hs] at hd;cases ui hd;split at h
   ·rename_i sz id off hsz hx;simp only[Option.some.injEq] at h;subst h;simp only[fS.one,Bool.and_eq_true,decide_eq_true_eq] at hr;obtain⟨b,hb,he⟩:=(cW.tv hx).vM;exact⟨.pointer (some ⟨b,off+n.toNat*sz,none⟩),by simp [execOp,Instr.indexAt,hi,asIntOf,run_underlying hu,he,Instr.sureAddr,hr,fk hsz,gf],.v (.aj hb)⟩
   ·rename_i sz s off hsz hx;simp only[Option.some.injEq] at h;subst h;simp only[fS.one,Bool.and_eq_true,decide_eq_true_eq] at hr;obtain⟨b,hb,he⟩:=cW.lp hx;exact⟨.pointer (some ⟨b,off+n.toNat*sz,none⟩),by simp [execOp,Instr.indexAt,hi,asIntOf,run_underlying hu,he,Instr.sureAddr,hr,fk hsz,gf],.lp hb⟩
   ·cases h
  ·rename_i el hs;rw[hs] at hd;cases iv hd;split at h
   ·rename_i sz p len _ hsz hx;simp only[Option.some.injEq] at h;subst h;simp only[fS.one,Bool.and_eq_true,decide_eq_true_eq] at hr;rw[Fs hr.2] at hx;rcases (cW.tv hx).fh with⟨b,hb,he⟩|⟨h0,_,_⟩;rotate_left
    ·omega
    exact⟨.pointer (some ⟨b,(p.getD (0,0)).2+n.toNat*sz,none⟩),by simp [execOp,Instr.indexAt,hi,asIntOf,run_underlying hu,he,hr.1,fk hsz,gf],.v (.aj hb)⟩
   ·cases h
  ·cases h
 ·cases h
theorem HK {t:TypeId} {x i:Operand} (cW:pM ρ lam ev e) (h:ba E (.index t x i) ev=some d) (hr:d.rq=true):gr E ρ lam w ⟨dst,.index t x i,type,jk,after,guard⟩ e (if d.c=true then d.x else d.y):=by
 simp only[ba] at h;split at h
 ·rename_i n ti v hn ni hx;obtain⟨k,hi⟩:=sJ cW hn;obtain⟨dt,hu,hd⟩:=dH ni;split at h
  ·rename_i len el cs hs;rw[hs] at hd;cases ui hd;split at h
   ·rename_i sz hsz;split at h
    ·rename_i r y hp;simp only[Option.some.injEq] at h;subst h;simp only[fS.one,Bool.and_eq_true,decide_eq_true_eq] at hr;obtain⟨cs',he,hcs,h1c⟩:=(cW.v hx).ov;obtain⟨v',h1,h2⟩:=yH hp hr.2 h1c hcs w;exact⟨v',by simp [execOp,Instr.index,hi,asIntOf,run_underlying hu,he,hr.1,fk hsz,h1],.v h2⟩
    ·cases h
   ·cases h
  ·rename_i s hs;rw[hs] at hd;cases Fp hd;simp only[Option.some.injEq] at h;subst h;simp only[fS.one,Bool.and_eq_true,decide_eq_true_eq] at hr;have hlt:n.toNat<s.size:=by omega
   refine⟨.int .u8 s[n.toNat].toNat, ?_, ?_⟩
   ·simp [execOp,Instr.index,hi,asIntOf,run_underlying hu,(cW.v hx).vL,hr.1,getElem?_pos s n.toNat hlt]
   ·have:HA s n.toNat=(s[n.toNat].toNat:Int):=by
     have hl:n.toNat<s.data.toList.length:=by simpa using hlt
     simp only[HA,List.getD_eq_getElem?_getD,List.getElem?_eq_getElem hl,Option.getD_some];rfl
    simp only[if_true,fS.one,this];exact .v (.int _ _)
  ·cases h
 ·cases h
end
section
variable {E:kz} {ρ lam:dD} {w:World}
variable {dst:Option Tmp} {type:TypeId} {jk:String} {after:Array Edge} {guard:Option (Nat×Bool)} {ev:Ev} {e:Operand→Value} {d:fS T}
theorem oA {p:Oq} {len cap:Nat} {x:Value} (h:VR ρ (.slice p len cap) x):∃a:Option Addr,x=.slice a len cap∧∀n l c,(len=0→cap=0→l=0∧c=0)→VR ρ (.slice (bN p n) l c) (.slice (a.map (·.add n)) l c)∧VR ρ (.slice p l c) (.slice a l c):=by
 cases p with
 |none=>exact⟨none,h.lE,fun n l c _=>⟨.nA l c,.nA l c⟩⟩
 |some q=>
  obtain⟨id,off⟩:=q;rcases h.fh with⟨b,hb,hx⟩|⟨h0,h1,a,hx⟩
  ·exact⟨_,hx,fun n l c _=>⟨by simp only[bN,Option.map_some,gf];exact .slice l c hb,.slice l c hb⟩⟩
  ·subst h0 h1;refine⟨_,hx,fun n l c hz=> ?_⟩;obtain⟨rfl,rfl⟩:=hz rfl rfl;exact⟨.pL _ _,.pL _ _⟩
theorem Fv {ev:Ev} {lo hi mx:Option Operand} {r:Bool} {l h m:Nat} (hb:gv ev 0 0 lo hi mx=some (r,l,h,m)) (hr:r=true):h-l=0∧m-l=0:=by
 unfold gv at hb;cases hq:(hi.isNone&&mx.isSome)
 ·simp only[hq,cond_false] at hb;split at hb
  ·rename_i m1 hm;split at hb
   ·rename_i h1 hh;split at hb
    ·rename_i l1 hl;simp only[Option.some.injEq,Prod.mk.injEq] at hb;obtain⟨CT,rfl,rfl,rfl⟩:=hb;rw[hr] at CT;simp only[Bool.and_eq_true] at CT
     have key:∀{x:Option Operand} {d most:Nat} {q:Bool×Nat},mP ev x d most=some q→q.1=true→q.2=d∨q.2≤most:=by
      intro x d most q hx hq;unfold mP at hx;split at hx
      ·simp only[Option.some.injEq] at hx;subst hx;exact .inl rfl
      ·split at hx
       ·simp only[Option.some.injEq] at hx;subst hx;simp only[Bool.and_eq_true,decide_eq_true_eq] at hq;exact .inr (by simp only;omega)
       ·cases hx
     have k1:=key hm CT.1.1;have k2:=key hh CT.1.2;omega
    ·cases hb
   ·cases hb
  ·cases hb
 ·simp [hq] at hb
theorem HL {t:TypeId} {x:Operand} {lo hi mx:Option Operand} (cW:pM ρ lam ev e) (h:ba E (.slice t x lo hi mx) ev=some d) (hr:d.rq=true):gr E ρ lam w ⟨dst,.slice t x lo hi mx,type,jk,after,guard⟩ e (if d.c=true then d.x else d.y):=by
 simp only[ba] at h;split at h
 ·rename_i ti s ni hx;obtain⟨dt,hu,hd⟩:=dH ni;split at h
  ·rename_i hs;rw[hs] at hd;cases Fp hd;split at h
   ·rename_i r l hh m hb;simp only[Option.some.injEq] at h;subst h;have hb':=oz (E:=E) (isS:=false) cW hb hr w;simp only[Option.map_none] at hb';exact⟨.string (s.extract l hh),by simp [execOp,Instr.sliceAt,Instr.slice,run_underlying hu,(cW.tv hx).vL,hb'],.v (.cG _)⟩
   ·cases h
  ·cases h
 ·rename_i ti p len cap ni hx;obtain⟨dt,hu,hd⟩:=dH ni;split at h
  ·rename_i el hs;rw[hs] at hd;cases iv hd;split at h
   ·rename_i r l hh m sz hb hsz;simp only[Option.some.injEq] at h;subst h;simp only[fS.one,Bool.and_eq_true] at hr;have hle:=Nat.le_of_ble_eq_true hr.2;have hb':=oz (E:=E) (isS:=true) cW hb hr.1 w;obtain⟨a,he,hv⟩:=oA (cW.tv hx);obtain⟨h1,h2⟩:=hv (l*sz) (hh-l) (m-l) (fun h0 h1=>by subst h0 h1;exact Fv hb hr.1);refine⟨.slice (if m=l then a else a.map (·.add (l*sz))) (hh-l) (m-l),by simp [execOp,Instr.sliceAt,Instr.slice,run_underlying hu,he,hb',fk hsz], ?_⟩;simp only[fS.one,if_true];by_cases hml:m=l
    ·rw[if_pos hml];have e1:hh-l=0:=by omega
     have e2:m-l=0:=by omega
     rw[e1,e2] at h2⊢
     cases p with
     |none=>exact .v h2
     |some q=>
      obtain⟨id,off⟩:=q
      cases a with
      |none=>cases h2
      |some a=>exact .v (.pL _ _)
    ·rw[if_neg hml];exact .v h1
   ·cases h
  ·cases h
 ·rename_i ti id off ni hx;obtain⟨dt,hu,hd⟩:=dH ni;split at h
  ·rename_i n el hs;rw[hs] at hd;cases ui hd;split at h
   ·rename_i r l hh m sz hb hsz;simp only[Option.some.injEq] at h;subst h;simp only[fS.one,Bool.and_eq_true] at hr;have hle:=Nat.le_of_ble_eq_true hr.2;have hb':=oz (E:=E) (isS:=false) cW hb hr.1 w;obtain⟨b,Bv,he⟩:=(cW.tv hx).vM;refine⟨.slice (some (if m=l then ⟨b,off,none⟩ else ⟨b,off+l*sz,none⟩)) (hh-l) (m-l),by simp [execOp,Instr.sliceAt,run_underlying hu,he,Instr.sureAddr,hb',fk hsz,gf], ?_⟩;simp only[fS.one,if_true];by_cases hml:m=l
    ·have e1:hh-l=0:=by omega
     have e2:m-l=0:=by omega
     rw[e1,e2];exact .v (.pL _ _)
    ·rw[if_neg hml];exact .v (.slice _ _ Bv)
   ·cases h
  ·cases h
 ·cases h
theorem sK {t:TypeId} {x:Operand} (cW:pM ρ lam ev e) (h:ba E (.makeInterface t x) ev=some d):gr E ρ lam w ⟨dst,.makeInterface t x,type,jk,after,guard⟩ e (if d.c=true then d.x else d.y):=by
 simp only[ba] at h;split at h
 ·cases h
 ·rename_i v hx hk;split at h
  ·rename_i ti ni;simp only[Option.some.injEq] at h;subst h;obtain⟨dt,hu,hd⟩:=dH ni
   have hni:∀ms,dt≠ .interface ms:=by
    rintro ms rfl;apply hk;simp [bh,ni, ←hd,bo,cO]
   refine⟨.iface t (e x), ?_,.v (.iface t (cW.v hx))⟩;cases dt<;>simp [execOp,Instr.makeInterface,run_underlying hu]
   exact(hni _ rfl).elim
  ·cases h
 ·cases h
theorem Ba {f:Fn} {first dG:Array Operand} (cW:pM ρ lam ev e) (h:ba E (.makeFunc f first dG) ev=some d):gr E ρ lam w ⟨dst,.makeFunc f first dG,type,jk,after,guard⟩ e (if d.c=true then d.x else d.y):=by
 cases f with
 |func f=>
  simp only[ba] at h;split at h
  ·rename_i hf;split at h
   ·rename_i cs hc;simp only[Option.some.injEq] at h;subst h;have h1:first= #[]:=by apply Array.ext';simpa using hf
    refine⟨.func (.func f) #[] (dG.map e),by simp [execOp,Instr.makeFunc,h1],.v (.Ji ?_)⟩;simpa using cW.vs hc
   ·cases h
  ·rename_i x l hf hcap;split at h
   ·rename_i cs hc;simp only[Option.some.injEq] at h;subst h;have h1:dG= #[]:=by apply Array.ext';simpa using hcap
    refine⟨.func (.func f) (first.map e) #[],by simp [execOp,Instr.makeFunc,h1],.v (.Q0 ?_)⟩;rw[Array.toList_map,hf];exact cW.vs hc
   ·cases h
  ·cases h
 |_=>simp [ba] at h
theorem Dp {x:Operand} {i:Nat} (cW:pM ρ lam ev e) (h:ba E (.extract x i) ev=some d):gr E ρ lam w ⟨dst,.extract x i,type,jk,after,guard⟩ e (if d.c=true then d.x else d.y):=by
 simp only[ba] at h;split at h
 ·rename_i vs hx;split at h
  ·rename_i v hv;simp only[Option.some.injEq] at h;subst h;obtain⟨vs',he,hvs⟩:=(cW.v hx).Le
   have hlt:i<vs.length:=by
    rcases Nat.lt_or_ge i vs.length with h|h
    ·exact h
    ·rw[List.getElem?_eq_none h] at hv;cases hv
   have hlt':i<vs'.size:=by have:=hvs.1;simp at this;omega
   refine⟨vs'[i],by simp [execOp,Instr.extract,he,Array.getElem?_eq_getElem hlt'],.v (hvs.2 i _ _ hv ?_)⟩;simp [Array.getElem?_eq_getElem hlt']
  ·cases h
 ·cases h
theorem xw {x:Operand} {xt t:TypeId} {ok:Bool} (cW:pM ρ lam ev e) (h:ba E (.typeAssert x xt t ok) ev=some d) (hr:d.rq=true):gr E ρ lam w ⟨dst,.typeAssert x xt t ok,type,jk,after,guard⟩ e (if d.c=true then d.x else d.y):=by
 simp only[ba] at h;split at h
 ·rename_i v ti hx ni;obtain⟨di,dt,hi,hu,hd,_,_,hz⟩:=jQ ni;split at h
  ·cases h
  ·rename_i hni;split at h
   ·rename_i r y z hy KY;rw[KY] at hz;obtain⟨z',EK,yi⟩:=Option.bind_eq_some_iff.1 hz;have hzero:(zeroValue t).run E.P w=.ok z' w:=by simp [zeroValue,typeInfo,hi,EK]
    have hint:∀ms,dt≠ .interface ms:=by
     rintro ms rfl;exact hni (by rw[←hd];rfl)
    have hv:=cW.v hx
    have key:v.aw .iface=true→(v.fq=true∧v=.nilIface)∨∃t' u,v=.iface t' u:=by
     intro hk;cases v<;>simp_all [V.aw,V.fq]
    cases ok with
    |true=>
     simp only[Option.some.injEq] at h;subst h;simp only[Bool.and_eq_true,Bool.or_eq_true,Bool.not_eq_true'] at hr;rcases key hr.1 with⟨_,rfl⟩|⟨t',u,rfl⟩
     ·have he:e x=.nilIface:=by generalize e x=q at hv;cases hv;rfl
      refine⟨.tuple #[z',.bool false], ?_, ?_⟩
      ·cases dt<;>first|(exact(hint _ rfl).elim)|simp [execOp,Instr.typeAssert,run_underlying hu,he,hzero]
      ·simp only[V.fq,Bool.not_true,Bool.false_and,Bool.false_eq_true,if_false];exact .v (.gD (.cons (iA yi) (.cons (.bool _) (.nil ρ))))
     ·obtain⟨u',he,hu'⟩:∃u',e x=.iface t' u'∧VR ρ u u':=by generalize e x=q at hv;cases hv with|iface _ h=>exact⟨_,rfl,h⟩
      by_cases ht:t'=t
      ·subst ht;have xM:r=true:=by simpa [V.fq,V.CX,Nat.beq_refl] using hr.2
       have:=lH hy xM;refine⟨.tuple #[u',.bool true], ?_, ?_⟩
       ·cases dt<;>first|(exact(hint _ rfl).elim)|simp [execOp,Instr.typeAssert,run_underlying hu,he]
       ·simp only[V.fq,V.CX,Nat.beq_refl,Bool.not_false,Bool.true_and,if_true,this,V.Ni];exact .v (.gD (.cons hu' (.cons (.bool _) (.nil ρ))))
      ·have hb:Nat.beq t' t=false:=by rw[aW];simpa using ht
       refine⟨.tuple #[z',.bool false], ?_, ?_⟩
       ·cases dt<;>first|(exact(hint _ rfl).elim)|simp [execOp,Instr.typeAssert,run_underlying hu,he,ht,hzero]
       ·simp only[V.fq,V.CX,hb,Bool.and_false,Bool.false_eq_true,if_false];exact .v (.gD (.cons (iA yi) (.cons (.bool _) (.nil ρ))))
    |false=>
     simp only[Option.some.injEq] at h;subst h;simp only[fS.one,Bool.and_eq_true,Bool.not_eq_true'] at hr;rcases key hr.1.1 with⟨h1,rfl⟩|⟨t',u,rfl⟩
     ·rw[hr.1.2.1] at h1;cases h1
     ·obtain⟨u',he,hu'⟩:∃u',e x=.iface t' u'∧VR ρ u u':=by generalize e x=q at hv;cases hv with|iface _ h=>exact⟨_,rfl,h⟩
      have ht:t'=t:=Nat.eq_of_beq_eq_true hr.1.2.2;subst ht;have:=lH hy hr.2;refine⟨u', ?_, ?_⟩
      ·cases dt<;>first|(exact(hint _ rfl).elim)|simp [execOp,Instr.typeAssert,run_underlying hu,he]
      ·simp only[fS.one,if_true,this,V.Ni];exact .v hu'
   ·cases h
 ·cases h
theorem Lk {c:Call} (cW:pM ρ lam ev e) (h:ba E (.call c) ev=some d):gr E ρ lam w ⟨dst,.call c,type,jk,after,guard⟩ e (if d.c=true then d.x else d.y):=by
 simp only[ba] at h;split at h
 ·rename_i b hb;split at h
  ·rename_i vs t hvs ht0;have ht:c.argTypes[0]? =some t:=by simpa using ht0
   have G9:=cW.vs hvs;obtain⟨aS,has⟩:∃aS,c.args.toList.map e=aS:=⟨_,rfl⟩;rw[has] at G9;have hargs:c.args.map e=aS.toArray:=by apply Array.ext';simp [has]
   have hrun:∀v,(∀con,(builtin b c.argTypes type con aS.toArray).run E.P w=.ok (.value v) w)→(execOp e ⟨dst,.call c,type,jk,after,guard⟩).run E.P w=.ok (.value v) w:=by
    intro v hv;simp [execOp,resolve,hb,invoke,hargs,hv]
   unfold E4 at h;split at h
   ·split at h
    ·rename_i s _ hk;obtain⟨dt,hu,hd⟩:=bK hk;simp only[Option.some.injEq] at h;subst h;obtain⟨y,m,rfl,h1,h2⟩:=G9.dh;have:=h2.gq;subst this;cases dt<;>simp [bo,cO] at hd
     exact⟨.int .i64 (s.size:Int),hrun _ fun con=>by simp [builtin,Builtin.len_,ht,run_underlying hu,h1.vL,goInt],.v (.int _ _)⟩
    ·cases h
   ·split at h
    ·rename_i p n cp _ hk;obtain⟨dt,hu,hd⟩:=bK hk;simp only[Option.some.injEq] at h;subst h;obtain⟨y,m,rfl,h1,h2⟩:=G9.dh;have:=h2.gq;subst this;obtain⟨a,rfl,_⟩:=oA h1;cases dt<;>simp [bo,cO] at hd
     exact⟨.int .i64 (n:Int),hrun _ fun con=>by simp [builtin,Builtin.len_,ht,run_underlying hu,goInt],.v (.int _ _)⟩
    ·cases h
   ·split at h
    ·rename_i p n cp _ hk;obtain⟨dt,hu,hd⟩:=bK hk;simp only[Option.some.injEq] at h;subst h;obtain⟨y,m,rfl,h1,h2⟩:=G9.dh;have:=h2.gq;subst this;obtain⟨a,rfl,_⟩:=oA h1;cases dt<;>simp [bo,cO] at hd
     exact⟨.int .i64 (cp:Int),hrun _ fun con=>by simp [builtin,Builtin.cap_,ht,run_underlying hu,goInt],.v (.int _ _)⟩
    ·cases h
   ·split at h
    ·rename_i v hv;simp only[Option.some.injEq] at h;subst h;unfold xS at hv;split at hv
     ·simp only[Option.some.injEq] at hv;subst hv;obtain⟨y,m,rfl,h1,h2⟩:=G9.dh;have:=h2.gq;subst this;exact⟨y,hrun _ fun con=>by simp [builtin,Builtin.min_],.v h1⟩
     ·rename_i k x k' y;by_cases hk:k=k'
      ·simp only[hk,nn,decide_true,cond_true,cond_false,Option.some.injEq] at hv;subst hv;obtain⟨p,m,rfl,h1,h2⟩:=G9.dh;obtain⟨q,m,rfl,h3,h4⟩:=h2.dh;have:=h4.gq;subst this;refine⟨.int k' (if y<x then y else x),hrun _ fun con=>by simp [builtin,Builtin.min_,h1.iu,h3.iu,Builtin.min2,hk],.v ?_⟩;rw[Dm];simpa using VR.int k' _
      ·simp [hk] at hv
     ·cases hv
    ·cases h
   ·split at h
    ·rename_i v hv;simp only[Option.some.injEq] at h;subst h;unfold xS at hv;split at hv
     ·simp only[Option.some.injEq] at hv;subst hv;obtain⟨y,m,rfl,h1,h2⟩:=G9.dh;have:=h2.gq;subst this;exact⟨y,hrun _ fun con=>by simp [builtin,Builtin.max_],.v h1⟩
     ·rename_i k x k' y;by_cases hk:k=k'
      ·simp only[hk,nn,decide_true,cond_true,cond_false,Option.some.injEq] at hv;subst hv;obtain⟨p,m,rfl,h1,h2⟩:=G9.dh;obtain⟨q,m,rfl,h3,h4⟩:=h2.dh;have:=h4.gq;subst this;refine⟨.int k' (if y>x then y else x),hrun _ fun con=>by simp [builtin,Builtin.max_,h1.iu,h3.iu,Builtin.max2,hk],.v ?_⟩;rw[Dm];simpa using VR.int k' _
      ·simp [hk] at hv
     ·cases hv
    ·cases h
   ·cases h
  ·cases h
 ·cases h
end
def iS:List Value→Nat→List Value→List Value
 |cs,_,[]=>cs
 |cs,off,v::vs=>iS (cs.set off v) (off+1) vs
theorem pN {ρ:dD}:∀{vs:List V} {us:List Value} {cs:List V} {cs':List Value} {off:Nat},eM ρ vs us→eM ρ cs cs'→eM ρ (bM cs off vs) (iS cs' off us)
 |[],us,cs,cs',off,h,hc=>by rw[h.gq];exact hc
 |v::vs,us,cs,cs',off,h,hc=>by
  obtain⟨u,m,rfl,h1,h2⟩:=h.dh;have:=pN (off:=off+1) h2 (Fo (off:=off) h1 hc);exact this
theorem o5:∀(us:List Value) (cs:List Value) (off:Nat),(iS cs off us).length=cs.length
 |[],_,_=>rfl
 |u::us,cs,off=>by rw[iS,o5 us];simp
theorem BJ (off:Nat):∀(us:List Value) (k:Nat) (cells:Array Value),((us.zipIdx k).foldl (fun(cs:Array Value) (p:Value×Nat)=>cs.setIfInBounds (off+p.2) p.1) cells).toList=iS cells.toList (off+k) us
 |[],_,_=>rfl
 |u::us,k,cells=>by
  rw[List.zipIdx_cons,List.foldl_cons,BJ off us (k+1),iS];simp [Nat.add_assoc]
theorem HM (off:Nat) (us cells:Array Value):(us.zipIdx.foldl (fun(cs:Array Value) (p:Value×Nat)=>cs.setIfInBounds (off+p.2) p.1) cells).toList=iS cells.toList off us.toList:=by
 rw[←Array.foldl_toList];have:=BJ off us.toList 0 cells;simpa using this
section
variable {E:kz} {ρ lam:dD} {w:World}
theorem Fw {v:V} (hv:v.one=true):∀{cs:List V} {j n:Nat},bf cs→bf (yj cs j n v)
 |[],_,_,h=>h
 |c::cs,j,n,h=>by
  intro x hx;rw[yj,np] at hx;rcases List.mem_cons.1 hx with rfl|hx
  ·split
   ·exact hv
   ·exact h c (List.mem_cons_self ..)
  ·exact Fw hv (fun y hy=>h y (List.mem_cons_of_mem _ hy)) x hx
theorem mw:∀{vs cs:List V} {off:Nat},bf vs→bf cs→bf (bM cs off vs)
 |[],_,_,_,h=>h
 |v::vs,cs,off,hv,h=>by
  have:=mw (vs:=vs) (off:=off+1) (fun y hy=>hv y (List.mem_cons_of_mem _ hy)) (Fw (n:=off) (j:=0) (hv v (List.mem_cons_self ..)) h);exact this
theorem iT {t:TypeId} {v:V} {x:Value} {r:Bool} {vs:List V} (hv:VR ρ v x) (h:hI E t v=some (r,vs)) (hr:r=true):eM ρ vs x.cells.toList∧bf vs:=by
 unfold hI at h;split at h
 ·cases h
 ·rename_i n hn;split at h
  ·rename_i k hk;cases hb:Nat.beq n 1
   ·simp [hb] at h
   ·simp only[hb,cond_true,Option.some.injEq,Prod.mk.injEq] at h;obtain⟨h1,rfl⟩:=h;have h1:=V.sr (h1.trans hr);have h2:v.cells=[v]:=by cases v<;>first|rfl|simp [V.one] at h1
    refine⟨h2▸hv.cells (fun e=>by rw[e] at h1;cases h1),fun c hc=> ?_⟩;simp only[List.mem_singleton] at hc;subst hc;exact h1
  ·split at h
   ·split at h
    ·simp only[Option.some.injEq,Prod.mk.injEq] at h;obtain⟨h1,rfl⟩:=h;obtain⟨cs',rfl,h2,h3⟩:=hv.ov;exact⟨h2,h3⟩
    ·cases h
   ·cases h
theorem Bb {t:TypeId} {v:V} {r:Bool} {vs:List V} (h:hI E t v=some (r,vs)) (hr:r=true):size E t=some vs.length:=by
 unfold hI at h;split at h
 ·cases h
 ·rename_i n hn;rw[hn];split at h
  ·cases hb:Nat.beq n 1
   ·simp [hb] at h
   ·simp only[hb,cond_true,Option.some.injEq,Prod.mk.injEq] at h;rw[←h.2,Nat.eq_of_beq_eq_true hb];rfl
  ·split at h
   ·split at h
    ·simp only[Option.some.injEq,Prod.mk.injEq] at h;rw[←h.2,Nat.eq_of_beq_eq_true (h.1.trans hr)]
    ·cases h
   ·cases h
theorem oB {place:Nat→Option (Nat×TypeId)} {place':Nat→Oq} (aao:∀i off t n,place i=some (off,t)→size E t=some n→place' i=some (off,n)):∀{ps:List (Nat×V)} {ps':List (Nat×Value)} {cs out:List V} {cs':Array Value} {r:Bool},ps.map (·.1)=ps'.map (·.1)→eM ρ (ps.map (·.2)) (ps'.map (·.2))→eM ρ cs cs'.toList→bf cs→qL E place cs ps=some (r,out)→r=true→∃out',Instr.fill place' cs' ps'=some out'∧eM ρ out out'.toList∧bf out
 |[],ps',cs,out,cs',r,h1,h2,hc,ho,h,hr=>by
  cases ps' with
  |nil=>simp only[qL,Option.some.injEq,Prod.mk.injEq] at h;obtain⟨_,rfl⟩:=h;exact⟨cs',rfl,hc,ho⟩
  |cons p l=>simp at h1
 |(i,v)::ps,ps',cs,out,cs',r,h1,h2,hc,ho,h,hr=>by
  cases ps' with
  |nil=>simp at h1
  |cons p l=>
   obtain⟨j,u⟩:=p;simp only[List.map_cons,List.cons.injEq] at h1 h2;obtain⟨rfl,h1⟩:=h1;obtain⟨u',m,he,hu,hm⟩:=h2.dh;simp only[List.cons.injEq] at he;obtain⟨rfl,rfl⟩:=he;simp only[qL] at h;split at h
   ·cases h
   ·rename_i off t AA;split at h
    ·rename_i r1 vs n Wq hsz;cases hb:(Nat.beq vs.length n&&Nat.ble (off+n) cs.length)
     ·simp [hb] at h
     ·simp only[hb,cond_true] at h;split at h
      ·rename_i r2 cs2 n5;simp only[Option.some.injEq,Prod.mk.injEq] at h;obtain⟨CT,rfl⟩:=h;rw[hr,Bool.and_eq_true] at CT;rw[Bool.and_eq_true] at hb;have AB:vs.length=n:=Nat.eq_of_beq_eq_true hb.1;have nf:off+n≤cs.length:=Nat.le_of_ble_eq_true hb.2;obtain⟨hvs,hone⟩:=iT hu Wq CT.1;have rK:u.cells.size=n:=by have:=hvs.1;simp at this;omega
       have hcs:cs'.size=cs.length:=by have:=hc.1;simp at this;omega
       obtain⟨out',h3,h4,h5⟩:=oB aao (cs':=u.cells.zipIdx.foldl (fun(cs:Array Value) (p:Value×Nat)=>cs.setIfInBounds (off+p.2) p.1) cs') h1 hm
        (by rw[HM];exact pN hvs hc) (mw hone ho) n5 CT.2
       refine⟨out', ?_,h4,h5⟩;simp only[Instr.fill,aao _ _ _ _ AA hsz];rw[if_neg (by simp [rK,hcs];omega)];exact h3
      ·cases h
    ·cases h
theorem mV {ev:Ev} {e:Operand→Value} (cW:pM ρ lam ev e):∀{l:List (Nat×Operand)} {ps:List (Nat×V)},kO ev l=some ps→ps.map (·.1)=(l.map fun p=>(p.1,e p.2)).map (·.1)∧eM ρ (ps.map (·.2)) ((l.map fun p=>(p.1,e p.2)).map (·.2))
 |[],ps,h=>by simp only[kO,Option.some.injEq] at h;subst h;exact⟨rfl,.nil ρ⟩
 |(i,x)::l,ps,h=>by
  simp only[kO] at h;split at h
  ·rename_i y m hy hm;simp only[Option.some.injEq] at h;subst h;obtain⟨h1,h2⟩:=mV cW hm;exact⟨by simp [h1],.cons (cW.v hy) h2⟩
  ·cases h
theorem wX {w:World}:∀{l:List Field},tV E (l.map fun f=>(f.offset,f.type))=true→(l.mapM fun f=>(do pure (f.offset, ←sizeOf f.type):Sem (Nat×Nat))).run E.P w=.ok (l.map fun f=>(f.offset,(size E f.type).getD 0)) w
 |[],h=>by simp
 |f::l,h=>by
  simp only[List.map_cons,tV,Bool.and_eq_true] at h;obtain⟨n,hn⟩:=Option.isSome_iff_exists.1 h.1;have ih:=wX (w:=w) h.2;simp only[List.mapM_cons,Sem.run_bind,fk hn,Result.andThen_ok,Sem.run_pure,ih,hn,List.map_cons,Option.getD_some]
variable {dst:Option Tmp} {type:TypeId} {jk:String} {after:Array Edge} {guard:Option (Nat×Bool)} {ev:Ev} {e:Operand→Value} {d:fS T}
theorem HN {t:TypeId} {parts:Array (Nat×Operand)} (cW:pM ρ lam ev e) (h:ba E (.build t parts) ev=some d) (hr:d.rq=true):gr E ρ lam w ⟨dst,.build t parts,type,jk,after,guard⟩ e (if d.c=true then d.x else d.y):=by
 simp only[ba] at h;split at h
 ·rename_i ti pl ps ni AA hps;obtain⟨di,dt,hi,hu,hd,_,_,hz⟩:=jQ ni;split at h
  ·rename_i z KY;rw[KY] at hz;obtain⟨z',EK,yi⟩:=Option.bind_eq_some_iff.1 hz;have hzero:(zeroValue t).run E.P w=.ok z' w:=by simp [zeroValue,typeInfo,hi,EK]
   obtain⟨zc,rfl,MQ,aap⟩:=(iA (ρ:=ρ) yi).ov;split at h
   ·rename_i r cs hcs;simp only[Option.some.injEq] at h;subst h;obtain⟨h1,h2⟩:=mV cW hps;have EL:(parts.map fun p=>(p.1,e p.2)).toList=parts.toList.map fun p=>(p.1,e p.2):=by simp
    unfold E5 at AA;rw[ni] at AA;simp only[] at AA;split at AA
    ·rename_i fs hs;rw[hs] at hd;obtain⟨f,rfl,rfl⟩:=Fq hd;cases hok:tV E (f.toList.map fun f=>(f.offset,f.type))
     ·simp [hok] at AA
     ·simp only[hok,cond_true,Option.some.injEq] at AA;subst AA
      obtain⟨out',h3,h4,h5⟩:=oB (place':=fun j=>(f.toList.map fun f=>(f.offset,(size E f.type).getD 0))[j]?) (by
       intro i off t n hp hn;simp only[List.getElem?_map,Option.map_eq_some_iff,Prod.mk.injEq] at hp⊢;obtain⟨fd,h1,h2,h3⟩:=hp
       exact⟨fd,h1,h2,by rw[h3,hn];rfl⟩) h1 h2 MQ aap hcs hr
      refine⟨.agg out', ?_,.v (.vK h5 h4)⟩;have hm:=wX (E:=E) (w:=w) hok
      have hm':(f.mapM fun f=>(do pure (f.offset, ←sizeOf f.type):Sem (Nat×Nat))).run E.P w=.ok (f.toList.map fun f=>(f.offset,(size E f.type).getD 0)).toArray w:=by
       rw[←Array.toArray_toList (xs:=f),List.mapM_toArray];simp only[Sem.run_map,hm,Result.andThen_ok]
      have TF:Instr.fill (fun x=>(f.toList.map fun f=>(f.offset,(size E f.type).getD 0)).toArray[x]?) zc (parts.map fun p=>(p.1,e p.2)).toList=some out':=by
       rw[EL, ←h3];congr 1;funext x;simp
      simp only[Instr.build,execOp,Sem.run_bind,hzero,Result.andThen_ok,run_underlying hu,hm',Value.cells];simp only[TF,Sem.run_pure,Result.andThen_ok]
    ·rename_i n el hs;rw[hs] at hd;cases ui hd;split at AA
     ·rename_i sz hsz;simp only[Option.some.injEq] at AA;subst AA
      obtain⟨out',h3,h4,h5⟩:=oB (place':=fun j=>some (j*sz,sz)) (by
       intro i off t n hp hn;simp only[Option.some.injEq,Prod.mk.injEq] at hp⊢;obtain⟨h1,rfl⟩:=hp;rw[hsz] at hn
       exact⟨h1,Option.some.inj hn⟩) h1 h2 MQ aap hcs hr
      refine⟨.agg out', ?_,.v (.vK h5 h4)⟩;rw[←EL] at h3;simp only[Instr.build,execOp,Sem.run_bind,hzero,Result.andThen_ok,run_underlying hu,fk hsz,Value.cells];simp only[h3,Sem.run_pure,Result.andThen_ok]
     ·cases AA
    ·cases AA
   ·cases h
  ·cases h
 ·cases h
theorem Dq {o:Oper} (cW:pM ρ lam ev e) (h:ba E o.op ev=some d) (hr:d.rq=true):∃v,(execOp e o).run E.P w=.ok (.value v) w∧TR ρ lam (if d.c=true then d.x else d.y) v:=by
 obtain⟨dst,op,type,jk,after,guard⟩:=o
 cases op with
 |move x=>exact Li cW h
 |assign x=>exact Fu cW h
 |pick c a b=>exact Lj cW h
 |binOp op t x y yt=>exact NC cW h hr
 |unOp op t x=>exact Q4 cW h
 |convert s t x=>exact Dn cW h
 |nilCheck x=>exact A9 cW h hr
 |fieldAddr t x f=>exact yL cW h
 |field t x f=>exact HJ cW h hr
 |indexAddr t x i=>exact yM cW h hr
 |index t x i=>exact HK cW h hr
 |slice t x lo hi mx=>exact HL cW h hr
 |makeInterface t x=>exact sK cW h
 |makeFunc f first dG=>exact Ba cW h
 |extract x i=>exact Dp cW h
 |build t parts=>exact HN cW h hr
 |typeAssert x xt t ok=>exact xw cW h hr
 |call c=>exact Lk cW h
 |_=>simp [ba] at h
end
theorem fI:∀{ks:List cg} {cs:List V},aI ks cs=true→bf cs
 |[],[],_=>fun v hv=>by cases hv
 |k::ks,v::vs,h=>by
  simp only[aI,Bool.and_eq_true] at h;intro x hx;rcases List.mem_cons.1 hx with rfl|hx
  ·exact V.sr h.1
  ·exact fI h.2 x hx
 |[],_::_,h=>by cases h
 |_::_,[],h=>by cases h
structure pk (b:Nat) (w w':World):Prop where
 mn:∀b',b'≠b→w'.heap[b']? =w.heap[b']?
 size:w'.heap.size=w.heap.size
 os:w'.os=w.os
 tape:w'.tape=w.tape
 output:w'.output=w.output
theorem pk.refl (b:Nat) (w:World):pk b w w:=⟨fun _ _=>rfl,rfl,rfl,rfl,rfl⟩
theorem pk.trans {b:Nat} {x y z:World} (h:pk b x y) (k:pk b y z):pk b x z:=
 ⟨fun b' hb=>(k.mn b' hb).trans (h.mn b' hb),k.size.trans h.size,k.os.trans h.os,k.tape.trans h.tape,k.output.trans h.output⟩
theorem Dr (w:World) (b o:Nat) (v:Value):pk b w (w.setCell ⟨b,o,none⟩ v) where
 mn:=fun b' hb=>by simp only[World.setCell,Array.getElem?_modify];rw[if_neg (fun e=>hb e.symm)]
 size:=by simp [World.setCell]
 os:=rfl
 tape:=rfl
 output:=rfl
theorem Ds {w:World} {b:Nat} {cs:Array Value} {e:TypeId} {fz:Nat×Nat} (h:w.heap[b]? =some (.cells cs e fz)) (o:Nat) (v:Value):(w.setCell ⟨b,o,none⟩ v).heap[b]? =some (.cells (cs.setIfInBounds o v) e fz):=by
 simp [World.setCell,Array.getElem?_modify,h]
theorem r8:∀(vs:List Value) {w:World} {b:Nat} {cs:Array Value} {e:TypeId} {fz:Nat×Nat} (o:Nat),w.heap[b]? =some (.cells cs e fz)→∃cs',(w.setCells b o vs).heap[b]? =some (.cells cs' e fz)∧cs'.toList=iS cs.toList o vs∧pk b w (w.setCells b o vs)
 |[],w,b,cs,e,fz,o,h=>⟨cs,h,rfl,.refl b w⟩
 |v::vs,w,b,cs,e,fz,o,h=>by
  obtain⟨cs',h1,h2,h3⟩:=r8 vs (o+1) (Ds h o v);refine⟨cs',h1, ?_,(Dr w b o v).trans h3⟩;rw[h2,iS];simp
theorem qS {w:World} {b:Nat} {cs:Array Value} {e:TypeId} {fz:Nat×Nat} (h:w.heap[b]? =some (.cells cs e fz)) (o:Nat):w.cell? ⟨b,o,none⟩=cs[o]? :=by
 simp [World.cell?,h]
theorem Ll {w:World} {b:Nat} {cs:Array Value} {e:TypeId} {fz:Nat×Nat} (h:w.heap[b]? =some (.cells cs e fz)) (o:Nat):w.frozen? ⟨b,o,none⟩=(decide (fz.1≤o)&&decide (o<fz.2)):=by
 simp [World.frozen?,h]
section
variable {E:kz} {ρ lam:dD} {w:World}
theorem sL {P:Program} {t:TypeId} {d:TypeDesc} (hu:P.underlying t=some d) (ha:iK d=false) {a:Addr} {x:Value} (h:w.cell? a=some x):(loadVar t a).run P w=.ok x w:=by
 simp [loadVar,jA hu,ha,h]
theorem oC {t e:TypeId} {cs:List V} {off b:Nat} {r rw:Bool} {v:V} (hc:fU ρ e cs rw w.heap[b]?) (h:mO E t cs off=some (r,v)) (hr:r=true) (ho:∀cs',v=.agg cs'→rw=true∨bf cs'):∃v',(loadVar t ⟨b,off,none⟩).run E.P w=.ok v' w∧VR ρ v v':=by
 obtain⟨cs',fz,hb,hvs,hone,_⟩:=hc;unfold mO at h;split at h
 ·rename_i k hk;obtain⟨d,di,hu,hi,_,ha⟩:=vP hk;simp only[Option.some.injEq,Prod.mk.injEq] at h;have xq:=h.1.trans hr;rw[Bool.and_eq_true] at xq;have hlt:off<cs.length:=by simpa using xq.1
  obtain⟨y,hy,hv⟩:=hvs.nth hlt;exact⟨y,sL hu ha (by rw[qS hb];simpa using hy),by rw[←h.2,V.so xq.2];exact hv⟩
 ·split at h
  ·rename_i ks n hks hn;obtain⟨d,di,z,hu,hi,ha,_⟩:=yF hks;simp only[Option.some.injEq,Prod.mk.injEq] at h;have hle:off+n≤cs.length:=Nat.le_of_ble_eq_true (h.1.trans hr);have hlen:cs'.size=cs.length:=by have:=hvs.1;simp at this;omega
   have hrun:=run_loadCells_list (P:=E.P) w ⟨b,off,none⟩ ((cs'.toList.drop off).take n) (by
    intro j v hv;rw[gf,qS hb];rw[List.getElem?_take] at hv;split at hv
    ·rw[List.getElem?_drop] at hv;simpa using hv
    ·cases hv)
   have hl:((cs'.toList.drop off).take n).length=n:=by simp;omega
   rw[hl] at hrun;refine⟨.agg ((cs'.toList.drop off).take n).toArray,by simp [loadVar,jA hu,ha,fk hn,hrun], ?_⟩;rw[←h.2];have hp:bf ((cs.drop off).take n):=(ho _ h.2.symm).elim (fun hrw c hc=>hone hrw c (List.mem_of_mem_drop (List.mem_of_mem_take hc))) id;exact .vK hp (by simpa using (hvs.drop off).take n)
  ·cases h
theorem eM.aaX {l:List V} {m:List Value} (h:eM ρ l m) (h1:bf l):∀v∈m,v.oneCell'=true:=by
 intro v hv;obtain⟨i,hi,rfl⟩:=List.getElem_of_mem hv;have hi':i<l.length:=by have:=h.1;omega
 exact(h.2 i l[i] m[i] (List.getElem?_eq_getElem hi') (List.getElem?_eq_getElem hi)).one (h1 _ (List.getElem_mem hi'))
theorem my {e:TypeId} {cs vs:List V} {xs:List Value} {off b:Nat} (hc:fU ρ e cs true w.heap[b]?) (h1:eM ρ vs xs) (h2:bf vs) (hle:off+vs.length≤cs.length):∃w',(storeCells ⟨b,off,none⟩ xs).run E.P w=.ok () w'∧fU ρ e (bM cs off vs) true w'.heap[b]? ∧pk b w w':=by
 obtain⟨cs',fz,hb,hvs,hone,hfz⟩:=hc;have hlen:cs'.size=cs.length:=by have:=hvs.1;simp at this;omega
 have hxl:xs.length=vs.length:=h1.1.symm
 have hst:=run_storeCells_cells (P:=E.P) b off xs 0 w (by
  intro j hj
  rw[qS hb,Array.getElem?_eq_getElem (by omega)];rfl) (by
  intro j hj;rw[Ll hb];have:=hfz rfl;simp only[Bool.and_eq_false_iff,decide_eq_false_iff_not]
  omega) (h1.aaX h2)
 obtain⟨cs2,h3,h4,h5⟩:=r8 xs (off+0) hb;refine⟨_, ?_,⟨cs2,fz,h3, ?_,fun _=>mw h2 (hone rfl), ?_⟩,h5⟩
 ·simpa using hst
 ·rw[h4];exact pN h1 hvs
 ·intro _
  have hsz:cs2.size=cs'.size:=by
   have:=congrArg List.length h4;rw[o5] at this;simpa using this
  rw[hsz];exact hfz rfl
theorem wY {t e:TypeId} {cs:List V} {off b:Nat} {r:Bool} {v:V} {x:Value} {vs:List V} (hc:fU ρ e cs true w.heap[b]?) (hv:VR ρ v x) (h:hI E t v=some (r,vs)) (hr:r=true) (hle:off+vs.length≤cs.length):∃w',(storeVar t ⟨b,off,none⟩ x).run E.P w=.ok () w'∧fU ρ e (bM cs off vs) true w'.heap[b]? ∧pk b w w':=by
 obtain⟨h1,h2⟩:=iT hv h hr;have hn:=Bb h hr;have hxl:x.cells.size=vs.length:=by have:=h1.1;simp at this;omega
 obtain⟨w',h3,h4,h5⟩:=my (E:=E) hc h1 h2 hle;exact⟨w',by simp [storeVar,fk hn,hxl,h3],h4,h5⟩
end
section
variable {E:kz} {H0:ag} {ρ0:dD} {w0:World} {ann:bQ} {N:Nat} {ρ lam:dD} {S:St} {a:Act} {w:World}
theorem ND {t d:Nat} {v:Value} (a:Act):(a.put (some d) v).tmps.getD t undef=if d=t∧d<a.tmps.size then v else a.tmps.getD t undef:=by
 simp only[Act.put,Array.getD_eq_getD_getElem?,Array.getElem?_setIfInBounds];by_cases h:d=t
 ·subst h;by_cases h2:d<a.tmps.size
  ·simp [h2]
  ·simp [h2]
 ·simp [h]
theorem SR.put (h:SR H0 ρ0 w0 ann N ρ lam S a w) {dst:Option Tmp} {x:T} {v:Value} (hx:TR ρ lam x v) (hok:Lb ann N dst x):SR H0 ρ0 w0 ann N ρ lam (gU dst x S) (a.put dst v) w:=by
 cases dst with
 |none=>exact h
 |some d=>
  obtain⟨h1,h2⟩:=hok d rfl;have hd:d<a.tmps.size:=by rw[h.size];simpa using h1
  refine⟨h.defers,by simp [Act.put,h.size], ?_, ?_,h.lo,h.uf,h.hr,h.bX⟩
  ·intro t y hy;rw[ND];simp only[gU,St.setT,aW] at hy;by_cases ht:t=d
   ·simp only[ht,decide_true,cond_true,Option.some.injEq] at hy;subst hy;rw[if_pos ⟨ht.symm,hd⟩];exact hx
   ·simp only[ht,decide_false,cond_false] at hy;rw[if_neg (fun e=>ht e.1.symm)];exact h.tm t y hy
  ·intro t s off hy;simp only[gU,St.setT,aW] at hy;by_cases ht:t=d
   ·simp only[ht,decide_true,cond_true,Option.some.injEq] at hy;rw[ht];exact h2 s off hy
   ·simp only[ht,decide_false,cond_false] at hy;exact h.Lf t s off hy
theorem HR.only {b:Nat} {w':World} {H:ag} (h:HR ρ H w) (ho:pk b w w') (hb:¬iR H ρ b):HR ρ H w' where
 wW:=fun id o hid=>by
  obtain⟨b',h1,h2⟩:=h.wW id o hid;refine⟨b',h1, ?_⟩;rw[ho.mn b' (fun e=>hb (e▸⟨id,o,hid,h1⟩))];exact h2
 inj:=h.inj
 lt:=fun id b' hid=>by rw[ho.size];exact h.lt id b' hid
 gl:=h.gl
theorem SR.setL (h:SR H0 ρ0 w0 ann N ρ lam S a w) {s b:Nat} {L L':aO} {w':World} (hs:S.lo s=some L) (hl:lam s=some b) (ho:pk b w w') (hL:vN ρ L' w'.heap[b]?):SR H0 ρ0 w0 ann N ρ lam (S.setL s L') a w':=by
 obtain⟨b',hb',_,hlt,hge,TG⟩:=h.lo s L hs;rw[hl] at hb';cases hb';refine⟨h.defers,h.size,h.tm,h.Lf, ?_, ?_,h.hr.only ho TG, ?_⟩
 ·intro s' M hM;simp only[St.setL,aW] at hM;by_cases he:s'=s
  ·simp only[he,decide_true,cond_true,Option.some.injEq] at hM;subst hM;exact⟨b,by rw[he];exact hl,hL,by rw[ho.size];exact hlt,hge,TG⟩
  ·simp only[he,decide_false,cond_false] at hM;obtain⟨b2,h1,h2,h3,h4,h5⟩:=h.lo s' M hM;have hne:b2≠b:=fun e=>he (h.uf s' s M L b hM hs (e▸h1) hl)
   exact⟨b2,h1,by rw[ho.mn b2 hne];exact h2,by rw[ho.size];exact h3,h4,h5⟩
 ·intro s1 s2 L1 L2 b2 h1 h2 e1 e2
  have key:∀s3 L3,(S.setL s L').lo s3=some L3→∃M,S.lo s3=some M:=by
   intro s3 L3 h3;simp only[St.setL,aW] at h3;by_cases he:s3=s
   ·exact⟨L,he▸hs⟩
   ·simp only[he,decide_false,cond_false] at h3;exact⟨_,h3⟩
  obtain⟨M1,hM1⟩:=key _ _ h1;obtain⟨M2,hM2⟩:=key _ _ h2;exact h.uf s1 s2 M1 M2 b2 hM1 hM2 e1 e2
 ·exact⟨h.bX.le,fun b2 nf hno=>by rw[ho.mn b2 (by omega)];exact h.bX.frame b2 nf hno,h.bX.iR,h.bX.oy,by rw[ho.size];exact h.bX.size,
   ho.os.trans h.bX.os,ho.tape.trans h.bX.tape,ho.output.trans h.bX.output⟩
theorem fU.mono {ρ':dD} (h:ρ.le ρ') {e:TypeId} {cs:List V} {rw:Bool} {o:Option Go.Obj} (hc:fU ρ e cs rw o):fU ρ' e cs rw o:=by
 obtain⟨cs',fz,h1,h2,h3⟩:=hc;exact⟨cs',fz,h1,h2.mono h,h3⟩
theorem vN.mono {ρ':dD} (h:ρ.le ρ') {L:aO} {o:Option Go.Obj} (hc:vN ρ L o):vN ρ' L o:=by
 cases L with
 |cells e cs=>exact fU.mono h hc
 |dM s jk=>exact hc
theorem Fm.mono {ρ':dD} (h:ρ.le ρ') {L:Obj} {o:Option Go.Obj} (hc:Fm ρ L o):Fm ρ' L o:=by
 cases L with
 |cells e cs ro=>exact fU.mono h hc
 |map es clock=>
  obtain⟨es',h1,h2⟩:=hc;exact⟨es',h1,h2.mono h⟩
 |dM m bX seen tN=>
  obtain⟨m',h1,h2⟩:=hc;exact⟨m',h1,h2.mono h⟩
theorem TR.mono {ρ':dD} (h:ρ.le ρ') {x:T} {v:Value} (hx:TR ρ lam x v):TR ρ' lam x v:=by
 cases hx with
 |v h'=>exact .v (h'.mono h)
 |lp h'=>exact .lp h'
 |undef=>exact .undef
structure iw (o:Go.Obj) (w w':World):Prop where
 heap:w'.heap=w.heap.push o
 os:w'.os=w.os
 tape:w'.tape=w.tape
 output:w'.output=w.output
theorem iw.old {o:Go.Obj} {w w':World} (h:iw o w w') {b:Nat} (hb:b<w.heap.size):w'.heap[b]? =w.heap[b]? :=by
 rw[h.heap,Array.getElem?_push,if_neg (by omega)]
theorem iw.new {o:Go.Obj} {w w':World} (h:iw o w w'):w'.heap[w.heap.size]? =some o:=by
 rw[h.heap,Array.getElem?_push,if_pos rfl]
theorem iw.size {o:Go.Obj} {w w':World} (h:iw o w w'):w'.heap.size=w.heap.size+1:=by rw[h.heap];simp
theorem HR.Dt {o:Go.Obj} {w':World} {H:ag} (h:HR ρ H w) (hp:iw o w w'):HR ρ H w' where
 wW:=fun id x hid=>by
  obtain⟨b,h1,h2⟩:=h.wW id x hid;exact⟨b,h1,by rw[hp.old (h.lt id b h1).2];exact h2⟩
 inj:=h.inj
 lt:=fun id b hid=>⟨(h.lt id b hid).1,by rw[hp.size];have:=(h.lt id b hid).2;omega⟩
 gl:=h.gl
theorem lF.Dt {o:Go.Obj} {w':World} {H:ag} (h:lF H0 ρ0 w0 H ρ w) (hp:iw o w w'):lF H0 ρ0 w0 H ρ w' where
 le:=h.le
 frame:=fun b hb ho=>by rw[hp.old (by have:=h.size;omega)];exact h.frame b hb ho
 iR:=h.iR
 oy:=h.oy
 size:=by rw[hp.size];have:=h.size;omega
 os:=hp.os.trans h.os
 tape:=hp.tape.trans h.tape
 output:=hp.output.trans h.output
def eF (lam:dD) (d b:Nat):dD:=fun s=>if s=d then some b else lam s
theorem Jk {d t:Nat} {x:T} (h:(sB ann d S).tm t=some x):S.tm t=some x∧ab ann.aV t≠some d:=by
 simp only[sB] at h;split at h
 ·rename_i s hs;simp only[aW] at h;by_cases he:s=d
  ·simp [he] at h
  ·simp only[he,decide_false,cond_false] at h;exact⟨h,by rw[hs];simpa using he⟩
 ·rename_i hs;exact⟨h,by rw[hs];simp⟩
theorem SR.aaY (h:SR H0 ρ0 w0 ann N ρ lam S a w) {d:Nat} {L:aO} {o:Go.Obj} {w':World} (hp:iw o w w') (hL:vN ρ L (some o)):SR H0 ρ0 w0 ann N ρ (eF lam d w.heap.size) ((sB ann d S).setL d L) a w' where
 defers:=h.defers
 size:=h.size
 tm:=fun t x hx=>by
  obtain⟨h1,h2⟩:=Jk (S:=S) hx;have h3:=h.tm t x h1
  cases x with
  |v y=>generalize a.tmps.getD t undef=q at h3;cases h3 with|v h=>exact .v h
  |undef=>generalize a.tmps.getD t undef=q at h3;cases h3 with|undef=>exact .undef
  |lp s off=>
   have h4:=h.Lf t s off h1;generalize a.tmps.getD t undef=q at h3
   cases h3 with
   |lp hl=>
    have hne:¬s=d:=fun e=>h2 (by rw[←e];exact h4)
    exact .lp (by rw[eF,if_neg hne];exact hl)
 Lf:=fun t s off hx=>h.Lf t s off (Jk (S:=S) hx).1
 lo:=fun s M hM=>by
  simp only[St.setL,sB,aW] at hM;by_cases he:s=d
  ·simp only[he,decide_true,cond_true,Option.some.injEq] at hM;subst hM;refine⟨w.heap.size,by rw[eF,if_pos he],by rw[hp.new];exact hL,by rw[hp.size];omega,h.bX.size, ?_⟩;rintro⟨id,x,h1,h2⟩;have:=(h.hr.lt id _ h2).2;omega
  ·simp only[he,decide_false,cond_false] at hM;obtain⟨b,h1,h2,h3,h4,h5⟩:=h.lo s M hM;exact⟨b,by rw[eF,if_neg he];exact h1,by rw[hp.old h3];exact h2,by rw[hp.size];omega,h4,h5⟩
 uf:=by
  intro s1 s2 L1 L2 b h1 h2 e1 e2
  have key:∀s M,((sB ann d S).setL d L).lo s=some M→(s=d)∨(s≠d∧S.lo s=some M):=by
   intro s M hM;simp only[St.setL,sB,aW] at hM;by_cases he:s=d
   ·exact .inl he
   ·simp only[he,decide_false,cond_false] at hM;exact .inr ⟨he,hM⟩
  rcases key _ _ h1 with r1|⟨n1,r1⟩<;>rcases key _ _ h2 with r2|⟨n2,r2⟩
  ·rw[r1,r2]
  ·obtain⟨b2,k1,_,k3,_⟩:=h.lo s2 L2 r2;rw[eF,if_neg n2,k1] at e2;rw[eF,if_pos r1] at e1;cases e1;cases e2;omega
  ·obtain⟨b2,k1,_,k3,_⟩:=h.lo s1 L1 r1;rw[eF,if_neg n1,k1] at e1;rw[eF,if_pos r2] at e2;cases e1;cases e2;omega
  ·rw[eF,if_neg n1] at e1;rw[eF,if_neg n2] at e2;exact h.uf _ _ _ _ _ r1 r2 e1 e2
 hr:=h.hr.Dt hp
 bX:=h.bX.Dt hp
theorem Lm {H:ag} (h:HR ρ H w):ρ H.next=none:=by
 cases hn:ρ H.next with
 |none=>rfl
 |some b=>have:=(h.lt _ _ hn).1;omega
theorem Q5 {H:ag} (h:HR ρ H w) (b:Nat):ρ.le (eF ρ H.next b):=by
 intro id b' hid;rw[eF,if_neg]
 ·exact hid
 ·rintro rfl;rw[Lm h] at hid;cases hid
theorem gm {H:ag} {o o':Obj} {id:Nat} (h:(H.alloc o).get id=some o'):(id=H.next∧o'=o)∨(id≠H.next∧H.get id=some o'):=by
 simp only[ag.alloc,aW] at h;by_cases he:id=H.next
 ·simp only[he,decide_true,cond_true,Option.some.injEq] at h;exact .inl ⟨he,h.symm⟩
 ·simp only[he,decide_false,cond_false] at h;exact .inr ⟨he,h⟩
theorem SR.Du (h:SR H0 ρ0 w0 ann N ρ lam S a w) {o:Go.Obj} {x:Obj} {w':World} (hp:iw o w w') (hx:Fm ρ x (some o)):SR H0 ρ0 w0 ann N (eF ρ S.hp.next w.heap.size) lam {S with hp:=S.hp.alloc x} a w':=by
 have hle:=Q5 h.hr w.heap.size
 have old:∀{id b},id≠S.hp.next→eF ρ S.hp.next w.heap.size id=some b→ρ id=some b:=by
  intro id b hid h;rwa [eF,if_neg hid] at h
 have lv:∀b,iR (S.hp.alloc x) (eF ρ S.hp.next w.heap.size) b→b=w.heap.size∨iR S.hp ρ b:=by
  rintro b ⟨id,o',h1,h2⟩;rcases gm h1 with⟨rfl,rfl⟩|⟨hn,h1⟩
  ·rw[eF,if_pos rfl] at h2;exact .inl (Option.some.inj h2).symm
  ·exact .inr ⟨id,o',h1,old hn h2⟩
 have ow:∀b,oy (S.hp.alloc x) (eF ρ S.hp.next w.heap.size) b→b=w.heap.size∨oy S.hp ρ b:=by
  rintro b ⟨id,o',h1,hr,h2⟩;rcases gm h1 with⟨rfl,rfl⟩|⟨hn,h1⟩
  ·rw[eF,if_pos rfl] at h2;exact .inl (Option.some.inj h2).symm
  ·exact .inr ⟨id,o',h1,hr,old hn h2⟩
 refine⟨h.defers,h.size,fun t y hy=>(h.tm t y hy).mono hle,h.Lf, ?_,h.uf,⟨?_, ?_, ?_,fun g hg=>hle _ _ (h.hr.gl g hg)⟩, ?_⟩
 ·intro s M hM;obtain⟨b,h1,h2,h3,h4,h5⟩:=h.lo s M hM;refine⟨b,h1,by rw[hp.old h3];exact h2.mono hle,by rw[hp.size];omega,h4,fun hl=> ?_⟩;rcases lv b hl with rfl|hl
  ·omega
  ·exact h5 hl
 ·intro id o' hid;rcases gm hid with⟨rfl,rfl⟩|⟨hn,hid⟩
  ·exact⟨w.heap.size,by rw[eF,if_pos rfl],by rw[hp.new];exact hx.mono hle⟩
  ·obtain⟨b,h1,h2⟩:=h.hr.wW id o' hid;exact⟨b,hle _ _ h1,by rw[hp.old (h.hr.lt id b h1).2];exact h2.mono hle⟩
 ·intro id id' o1 o2 b h1 h2 hr e1 e2;rcases gm h1 with⟨r1,_⟩|⟨n1,k1⟩<;>rcases gm h2 with⟨r2,_⟩|⟨n2,k2⟩
  ·rw[r1,r2]
  ·rw[eF,if_pos r1] at e1;have:=(h.hr.lt _ _ (old n2 e2)).2;cases e1;omega
  ·rw[eF,if_pos r2] at e2;have:=(h.hr.lt _ _ (old n1 e1)).2;cases e2;omega
  ·exact h.hr.inj id id' o1 o2 b k1 k2 hr (old n1 e1) (old n2 e2)
 ·intro id b hid;by_cases hn:id=S.hp.next
  ·rw[eF,if_pos hn] at hid;cases hid;exact⟨by simp [ag.alloc,hn],by rw[hp.size];omega⟩
  ·have:=h.hr.lt _ _ (old hn hid);exact⟨by simp [ag.alloc];omega,by rw[hp.size];omega⟩
 ·have hs:=h.bX.Dt hp;refine⟨hs.le.trans hle,hs.frame,fun b hb=> ?_,fun b hb=> ?_,hs.size,hs.os,hs.tape,hs.output⟩
  ·rcases lv b hb with rfl|hb
   ·exact .inr h.bX.size
   ·exact hs.iR b hb
  ·rcases ow b hb with rfl|hb
   ·exact .inr h.bX.size
   ·exact hs.oy b hb
theorem uj {H:ag} {o o':Obj} {i id:Nat} (h:(H.put i o).get id=some o'):(id=i∧o'=o)∨(id≠i∧H.get id=some o'):=by
 simp only[ag.put,aW] at h;by_cases he:id=i
 ·simp only[he,decide_true,cond_true,Option.some.injEq] at h;exact .inl ⟨he,h.symm⟩
 ·simp only[he,decide_false,cond_false] at h;exact .inr ⟨he,h⟩
theorem SR.Dv (h:SR H0 ρ0 w0 ann N ρ lam S a w) {id b:Nat} {x y:Obj} {w':World} (hid:S.hp.get id=some x) (hrw:x.rw =true) (hy:y.rw =true) (hb:ρ id=some b) (ho:pk b w w') (hx:Fm ρ y w'.heap[b]?):SR H0 ρ0 w0 ann N ρ lam {S with hp:=S.hp.put id y} a w':=by
 have lv:∀b,iR (S.hp.put id y) ρ b→iR S.hp ρ b:=by
  rintro b ⟨i,o',h1,h2⟩;rcases uj h1 with⟨rfl,rfl⟩|⟨hn,h1⟩
  ·exact⟨i,x,hid,h2⟩
  ·exact⟨i,o',h1,h2⟩
 have ow:∀b,oy (S.hp.put id y) ρ b→oy S.hp ρ b:=by
  rintro b ⟨i,o',h1,hr,h2⟩;rcases uj h1 with⟨rfl,rfl⟩|⟨hn,h1⟩
  ·exact⟨i,x,hid,hrw,h2⟩
  ·exact⟨i,o',h1,hr,h2⟩
 have hown:oy S.hp ρ b:=⟨id,x,hid,hrw,hb⟩;refine⟨h.defers,h.size,h.tm,h.Lf, ?_,h.uf,⟨?_, ?_, ?_,h.hr.gl⟩, ?_⟩
 ·intro s M hM;obtain⟨b2,h1,h2,h3,h4,h5⟩:=h.lo s M hM;have hne:b2≠b:=fun e=>h5 (e▸⟨id,x,hid,hb⟩)
  exact⟨b2,h1,by rw[ho.mn b2 hne];exact h2,by rw[ho.size];exact h3,h4,fun hl=>h5 (lv b2 hl)⟩
 ·intro i o' hi;rcases uj hi with⟨rfl,rfl⟩|⟨hn,hi⟩
  ·exact⟨b,hb,hx⟩
  ·obtain⟨b2,h1,h2⟩:=h.hr.wW i o' hi;have hne:b2≠b:=fun e=>hn (h.hr.inj id i x o' b hid hi hrw hb (e▸h1)).symm
   exact⟨b2,h1,by rw[ho.mn b2 hne];exact h2⟩
 ·intro i i' o1 o2 b2 h1 h2 hr e1 e2;rcases uj h1 with⟨r1,_⟩|⟨n1,k1⟩<;>rcases uj h2 with⟨r2,_⟩|⟨n2,k2⟩
  ·rw[r1,r2]
  ·rw[r1] at e1⊢;exact h.hr.inj id i' x o2 b2 hid k2 hrw e1 e2
  ·rw[r2] at e2⊢;exact(h.hr.inj id i x o1 b2 hid k1 hrw e2 e1).symm
  ·exact h.hr.inj i i' o1 o2 b2 k1 k2 hr e1 e2
 ·intro i b2 hi;rw[ho.size];exact h.hr.lt i b2 hi
 ·refine⟨h.bX.le,fun b2 nf hno=> ?_,fun b2 nf=>h.bX.iR b2 (lv b2 nf),fun b2 nf=>h.bX.oy b2 (ow b2 nf),by rw[ho.size];exact h.bX.size,
   ho.os.trans h.bX.os,ho.tape.trans h.bX.tape,ho.output.trans h.bX.output⟩
  have hne:b2≠b:=by
   rintro rfl;rcases h.bX.oy b2 hown with h1|h1
   ·exact hno h1
   ·omega
  rw[ho.mn b2 hne];exact h.bX.frame b2 nf hno
theorem SR.call (h:SR H0 ρ0 w0 ann N ρ lam S a w) {H':ag} {ρ':dD} {w':World} (hs:lF S.hp ρ w H' ρ' w') (hr:HR ρ' H' w'):SR H0 ρ0 w0 ann N ρ' lam {S with hp:=H'} a w' where
 defers:=h.defers
 size:=h.size
 tm:=fun t y hy=>(h.tm t y hy).mono hs.le
 Lf:=h.Lf
 lo:=fun s M hM=>by
  obtain⟨b,h1,h2,h3,h4,h5⟩:=h.lo s M hM;have hno:¬oy S.hp ρ b:=fun⟨id,o,k1,_,k2⟩=>h5 ⟨id,o,k1,k2⟩
  refine⟨b,h1,by rw[hs.frame b h3 hno];exact h2.mono hs.le,by have:=hs.size;omega,h4,fun hl=> ?_⟩;rcases hs.iR b hl with h|h
  ·exact h5 h
  ·omega
 uf:=h.uf
 hr:=hr
 bX:=h.bX.trans hs
theorem SR.tX (h:SR H0 ρ0 w0 ann N ρ lam S a w) {s b:Nat} {e:TypeId} {cs:List V} (hs:S.lo s=some (.cells e cs)) (hb:lam s=some b):SR H0 ρ0 w0 ann N (eF ρ S.hp.next b) lam (pE ann s e cs S) a w:=by
 obtain⟨b',hb',hc,hlt,hge,TG⟩:=h.lo s _ hs;rw[hb] at hb';cases hb'
 have hle:ρ.le (eF ρ S.hp.next b):=by
  intro id b2 hid;have hne:id≠S.hp.next:=by have:=(h.hr.lt id b2 hid).1;omega
  rw[eF,if_neg hne];exact hid
 have old:∀{id b2},id≠S.hp.next→eF ρ S.hp.next b id=some b2→ρ id=some b2:=by
  intro id b2 hn h2
  rwa [eF,if_neg hn] at h2
 have lv:∀b2,iR (S.hp.alloc (.cells e cs false)) (eF ρ S.hp.next b) b2→b2=b∨iR S.hp ρ b2:=by
  rintro b2 ⟨id,o',h1,h2⟩;rcases gm h1 with⟨rfl,rfl⟩|⟨hn,h1⟩
  ·rw[eF,if_pos rfl] at h2;exact .inl (Option.some.inj h2).symm
  ·exact .inr ⟨id,o',h1,old hn h2⟩
 have ow:∀b2,oy (S.hp.alloc (.cells e cs false)) (eF ρ S.hp.next b) b2→b2=b∨oy S.hp ρ b2:=by
  rintro b2 ⟨id,o',h1,hr,h2⟩;rcases gm h1 with⟨rfl,rfl⟩|⟨hn,h1⟩
  ·rw[eF,if_pos rfl] at h2;exact .inl (Option.some.inj h2).symm
  ·exact .inr ⟨id,o',h1,hr,old hn h2⟩
 have hlo:∀{t L},(pE ann s e cs S).lo t=some L→t≠s∧S.lo t=some L:=by
  intro t L ht;simp only[pE,aW] at ht;by_cases hts:t=s
  ·simp [hts] at ht
  ·simp only[hts,decide_false,cond_false] at ht;exact⟨hts,ht⟩
 have htm:∀{t x},(pE ann s e cs S).tm t=some x→S.tm t=some x:=by
  intro t x ht;simp only[pE,sB] at ht;split at ht
  ·rename_i s' hs';cases hq:Nat.beq s' s
   ·simpa [hq] using ht
   ·simp [hq] at ht
  ·exact ht
 refine⟨h.defers,h.size,fun t y hy=>(h.tm t y (htm hy)).mono hle,fun t s' off hy=>h.Lf t s' off (htm hy), ?_, ?_,⟨?_, ?_, ?_,fun g hg=>hle _ _ (h.hr.gl g hg)⟩, ?_⟩
 ·intro s' M hM;obtain⟨hne,hM⟩:=hlo hM;obtain⟨b2,h1,h2,h3,h4,h5⟩:=h.lo s' M hM;refine⟨b2,h1,h2.mono hle,h3,h4,fun hl=> ?_⟩;rcases lv b2 hl with rfl|hl
  ·exact hne (h.uf s' s M _ b2 hM hs h1 hb)
  ·exact h5 hl
 ·intro s1 s2 L1 L2 b2 h1 h2 e1 e2;exact h.uf s1 s2 L1 L2 b2 (hlo h1).2 (hlo h2).2 e1 e2
 ·intro id o' hid;rcases gm hid with⟨rfl,rfl⟩|⟨hn,hid⟩
  ·exact⟨b,by rw[eF,if_pos rfl],fU.mono hle hc⟩
  ·obtain⟨b2,h1,h2⟩:=h.hr.wW id o' hid;exact⟨b2,hle _ _ h1,h2.mono hle⟩
 ·intro id id' o1 o2 b2 h1 h2 hr e1 e2;rcases gm h1 with⟨r1,_⟩|⟨n1,k1⟩<;>rcases gm h2 with⟨r2,_⟩|⟨n2,k2⟩
  ·rw[r1,r2]
  ·rw[eF,if_pos r1] at e1;cases e1;exact(TG ⟨id',o2,k2,old n2 e2⟩).elim
  ·rw[eF,if_pos r2] at e2;cases e2;exact(TG ⟨id,o1,k1,old n1 e1⟩).elim
  ·exact h.hr.inj id id' o1 o2 b2 k1 k2 hr (old n1 e1) (old n2 e2)
 ·intro id b2 hid;by_cases hn:id=S.hp.next
  ·rw[eF,if_pos hn] at hid;cases hid;exact⟨by simp [pE,ag.alloc,hn],hlt⟩
  ·have:=h.hr.lt _ _ (old hn hid);exact⟨by simp [pE,ag.alloc];omega,this.2⟩
 ·have hq:=h.bX;refine⟨hq.le.trans hle,hq.frame,fun b2 nf=> ?_,fun b2 nf=> ?_,hq.size,hq.os,hq.tape,hq.output⟩
  ·rcases lv b2 nf with rfl|nf
   ·exact .inr hge
   ·exact hq.iR b2 nf
  ·rcases ow b2 nf with rfl|nf
   ·exact .inr hge
   ·exact hq.oy b2 nf
theorem mW:∀{l:List Operand} {S S':St} {ρ:dD} {vs:List V},SR H0 ρ0 w0 ann N ρ lam S a w→qM ann l S=some (vs,S')→∃ρ',SR H0 ρ0 w0 ann N ρ' lam S' a w∧eM ρ' vs (l.map a.eval)∧ρ.le ρ'
 |[],S,S',ρ,vs,h,hl=>by
  simp only[qM,Option.some.injEq,Prod.mk.injEq] at hl;obtain⟨rfl,rfl⟩:=hl;exact⟨ρ,h,.nil ρ,.refl ρ⟩
 |x::l,S,S',ρ,vs,h,hl=>by
  simp only[qM] at hl;split at hl
  ·rename_i v hx;split at hl
   ·rename_i ws S2 h2;simp only[Option.some.injEq,Prod.mk.injEq] at hl;obtain⟨rfl,rfl⟩:=hl;obtain⟨ρ',k1,k2,k3⟩:=mW h h2;exact⟨ρ',k1,.cons ((h.ev.tv hx).mono k3) k2,k3⟩
   ·cases hl
  ·rename_i s hx;split at hl
   ·rename_i e cs hs;split at hl
    ·rename_i ws S2 h2;simp only[Option.some.injEq,Prod.mk.injEq] at hl;obtain⟨rfl,rfl⟩:=hl;obtain⟨b,hb,he⟩:=h.ev.lp hx
     have hle:ρ.le (eF ρ S.hp.next b):=by
      intro id b2 hid;have hne:id≠S.hp.next:=by have:=(h.hr.lt id b2 hid).1;omega
      rw[eF,if_neg hne];exact hid
     obtain⟨ρ',k1,k2,k3⟩:=mW (h.tX hs hb) h2;refine⟨ρ',k1,.cons ?_ k2,hle.trans k3⟩;rw[he];exact .aj (k3 _ _ (by rw[eF,if_pos rfl]))
    ·cases hl
   ·cases hl
  ·cases hl
theorem SR.drew (h:SR H0 ρ0 w0 ann N ρ lam S a w) (n:Nat):SR H0 ρ0 w0 ann N ρ lam S a {w with drawn:=n}:=
 ⟨h.defers,h.size,h.tm,h.Lf,h.lo,h.uf,⟨h.hr.wW,h.hr.inj,h.hr.lt,h.hr.gl⟩,⟨h.bX.le,h.bX.frame,h.bX.iR,h.bX.oy,h.bX.size,h.bX.os,h.bX.tape,h.bX.output⟩⟩
end
def yN (H:ag) (ρ:dD) (w:World) (K:V→ag→Prop) (e:Ending) (w':World):Prop:=
 ∃v v' H' ρ',e=.returned v'∧K v H'∧VR ρ' v v'∧HR ρ' H' w'∧lF H ρ w H' ρ' w'
def iB (E:kz) (f:FuncId) (args:List V) (H:ag) (K:V→ag→Prop):Prop:=
 ∀(ρ:dD) (w:World) (aS:Array Value),HR ρ H w→eM ρ args aS.toList→Calls E.P f aS w (yN H ρ w K)
def jZ (E:kz):Prop:=∀g x,E.ext g=some x→∀args H K,x.run args H K→∀(ρ:dD) (w:World) (aS:Array Value),HR ρ H w→eM ρ args aS.toList→
 (∃v v' w' H' ρ',(callFunc g aS).run E.P w=.ok (.value v') w'∧K v H'∧VR ρ' v v'∧HR ρ' H' w'∧lF H ρ w H' ρ' w')∨
 ((callFunc g aS).run E.P w=.ok (.enter g aS) w∧Calls E.P g aS w (yN H ρ w K))
section
variable {E:kz} {H0:ag} {ρ0:dD} {w0:World} {ann:bQ} {N:Nat} {ρ lam:dD} {S:St} {a:Act} {w:World}
theorem vQ {t:TypeId} {i:TI} {z:V} (h:E.ti t=some i) (hz:i.zero=some z) (ρ:dD) (w:World):∃z',(zeroValue t).run E.P w=.ok z' w∧eM ρ z.cells z'.cells.toList∧bf z.cells:=by
 obtain⟨di,dt,hi,hu,hd,_,_,KY⟩:=jQ h;rw[hz] at KY;obtain⟨z',EK,yi⟩:=Option.bind_eq_some_iff.1 KY;exact⟨z',by simp [zeroValue,typeInfo,hi,EK],(iA yi).cells (fun e=>by have:=kQ yi;rw[e] at this;have:=this .cv (by simp [V.cells]);cases this),kQ yi⟩
theorem iC {e:TypeId} {cs:List V} {cs':Array Value} {rw:Bool} (h:eM ρ cs cs'.toList) (h1:bf cs):fU ρ e cs rw (some (.cells cs' e)):=
 ⟨cs',(0,0),rfl,h,fun _=>h1,fun _=>.inl rfl⟩
theorem HO {o:Oper} {ev:Ev} {e:Operand→Value} (cW:pM ρ lam ev e) {r:Bool} {L:aO} (h:iM E o.op ev=some (r,L)) (hr:r=true):∃(x:Go.Obj) (w':World),(execOp e o).run E.P w=.ok (.value (.pointer (some ⟨w.heap.size,0,none⟩))) w'∧iw x w w'∧vN ρ L (some x):=by
 obtain⟨dst,op,type,jk,after,guard⟩:=o
 cases op with
 |alloc t=>
  simp only[iM] at h;split at h
  ·rename_i i hi;split at h
   ·rename_i z hz;simp only[Option.some.injEq,Prod.mk.injEq] at h;obtain⟨_,rfl⟩:=h;obtain⟨z',h1,h2,h3⟩:=vQ hi hz ρ w;refine⟨.cells z'.cells t,{w with heap:=w.heap.push (.cells z'.cells t)}, ?_,⟨rfl,rfl,rfl,rfl⟩,iC h2 h3⟩;simp [execOp,Instr.alloc,h1,newVar,newRow]
   ·cases h
  ·cases h
 |box t x=>
  simp only[iM] at h;split at h
  ·rename_i v hv;split at h
   ·rename_i r' vs hvs;simp only[Option.some.injEq,Prod.mk.injEq] at h;obtain⟨rfl,rfl⟩:=h;obtain⟨h2,h3⟩:=iT (cW.v hv) hvs hr;refine⟨.cells (e x).cells t,{w with heap:=w.heap.push (.cells (e x).cells t)}, ?_,⟨rfl,rfl,rfl,rfl⟩,iC h2 h3⟩;simp [execOp,Instr.box,newVar,newRow]
   ·cases h
  ·cases h
 |range t x=>
  simp only[iM] at h;split at h
  ·rename_i s hk hx;obtain⟨dt,hu,hd⟩:=bK hk;simp only[Option.some.injEq,Prod.mk.injEq] at h;obtain⟨_,rfl⟩:=h;cases dt<;>simp [bo,cO] at hd
   refine⟨.stringIter s 0,{w with heap:=w.heap.push (.stringIter s 0)}, ?_,⟨rfl,rfl,rfl,rfl⟩,rfl⟩;simp [execOp,Instr.range,run_underlying hu,(cW.v hx).vL]
  ·cases h
 |_=>simp [iM] at h
theorem Fx {o:Oper} {ev:Ev} {e:Operand→Value} (cW:pM ρ lam ev e) {s:Nat} {L:Option aO} {d:fS T} (h:gQ E o.op ev s L=some d) (hr:d.rq=true) (hL:∀M,L=some M→∃b,lam s=some b∧vN ρ M w.heap[b]?):∃v,(execOp e o).run E.P w=.ok (.value v) w∧TR ρ lam (if d.c=true then d.x else d.y) v:=by
 obtain⟨dst,op,type,jk,after,guard⟩:=o
 cases op with
 |load t a=>
  simp only[gQ] at h;split at h
  ·rename_i s' off el cs ha;obtain⟨b,hb,hc⟩:=hL _ rfl;by_cases hs:s=s'
   ·subst hs;simp only[Nat.beq_refl,cond_true] at h;unfold BA at h;split at h
    ·rename_i r v hv;simp only[Option.some.injEq] at h;subst h;obtain⟨b',hb',he⟩:=cW.lp ha;rw[hb] at hb';cases hb';obtain⟨v',h1,h2⟩:=oC hc hv hr (fun _ _=>.inl rfl);exact⟨v',by simp [execOp,Instr.loadAt,he,Instr.sureAddr,h1],.v h2⟩
    ·cases h
   ·rw[show Nat.beq s s'=false by rw[aW];simpa using hs] at h;simp at h
  ·cases h
 |_=>simp [gQ] at h
theorem wZ {w:World} {b:Nat} {s:ByteArray} {p:Nat} (h:w.heap[b]? =some (.stringIter s p)):(getObj b).run E.P w=.ok (.stringIter s p) w:=by
 simp [getObj,Sem.run,h]
theorem Fy {w:World} {b:Nat} {s:ByteArray} {p q:Nat} (h:w.heap[b]? =some (.stringIter s p)):(setObj b (.stringIter s q)).run E.P w=.ok () {w with heap:=w.heap.setIfInBounds b (.stringIter s q)}:=by
 simp [setObj,Sem.run,h]
theorem Bc {t:TypeId} {cs:List V} (h:(lu E t cs).1=true):(lu E t cs).2=cs:=by
 unfold lu at h⊢;split
 ·rename_i ks hk;rw[hk] at h;exact k8 h rfl
 ·rfl
theorem Dw {o:Oper} {ev:Ev} {e:Operand→Value} (cW:pM ρ lam ev e) {s:Nat} {L:Option aO} {d:fS (aO×T)} (h:eg E o.op ev s L=some d) (hr:d.rq=true) (hL:∀M,L=some M→∃b,lam s=some b∧vN ρ M w.heap[b]?):∃M b w' v,L=some M∧lam s=some b∧pk b w w'∧vN ρ (if d.c=true then d.x else d.y).1 w'.heap[b]? ∧TR ρ lam (if d.c=true then d.x else d.y).2 v∧((execOp e o).run E.P w=.ok (.value v) w'∨(v=undef∧(execOp e o).run E.P w=.ok .skip w')):=by
 obtain⟨dst,op,type,jk,after,guard⟩:=o
 cases op with
 |store t a x=>
  simp only[eg] at h;split at h
  ·rename_i s' off v el cs ha hx;obtain⟨b,hb,hc⟩:=hL _ rfl;split at h
   ·rename_i r vs hvs;by_cases hs:s=s'
    ·subst hs;simp only[Nat.beq_refl,cond_true,Option.some.injEq] at h;subst h;obtain⟨b',hb',he⟩:=cW.lp ha;rw[hb] at hb';cases hb';simp only[fS.one,Bool.and_eq_true] at hr;obtain⟨w',h1,h2,h3⟩:=wY hc (cW.v hx) hvs hr.1.1 (Nat.le_of_ble_eq_true hr.1.2);rw[Bc hr.2];exact⟨_,b,w',undef,rfl,hb,h3,h2,.undef,.inr ⟨rfl,by simp [execOp,Instr.storeAt,he,Instr.sureAddr,h1]⟩⟩
    ·rw[show Nat.beq s s'=false by rw[aW];simpa using hs] at h;simp at h
   ·cases h
  ·cases h
 |next it isStr=>
  cases isStr with
  |false=>simp [eg] at h
  |true=>
   simp only[eg] at h;split at h
   ·rename_i s' cG p ha;obtain⟨b,hb,hc⟩:=hL _ rfl;by_cases hs:s=s'
    ·subst hs;simp only[Nat.beq_refl,cond_true,Option.some.injEq] at h;subst h;obtain⟨b',hb',he⟩:=cW.lp ha;rw[hb] at hb';cases hb';have hc:w.heap[b]? =some (.stringIter cG p):=hc
     have hlt:b<w.heap.size:=by
      rcases Nat.lt_or_ge b w.heap.size with h|h
      ·exact h
      ·rw[Array.getElem?_eq_none h] at hc;cases hc
     by_cases hp:p<cG.size
     ·have AW:Nat.blt p cG.size=true:=by simpa using hp
      refine⟨_,b,{w with heap:=w.heap.setIfInBounds b (.stringIter cG (p+(Utf8.decode cG p).2))},
       .tuple #[.bool true,.int .i64 (p:Int),.int .i32 ((Utf8.decode cG p).1:Int)],rfl,hb,⟨?_,by simp,rfl,rfl,rfl⟩, ?_, ?_,.inl ?_⟩
      ·intro b' hne;simp [Array.getElem?_setIfInBounds,Ne.symm hne]
      ·simp [vN,AW,hlt]
      ·simp only[AW,if_true];exact .v (.gD (.cons (.bool _) (.cons (.int _ _) (.cons (.int _ _) (.nil ρ)))))
      ·simp only[execOp,he,Instr.next,Sem.run_bind,wZ hc,Result.andThen_ok,hp,if_true];rw[Fy hc];simp [goInt]
     ·have AW:Nat.blt p cG.size=false:=by
       cases hh:Nat.blt p cG.size
       ·rfl
       ·exact(hp (by simpa using hh)).elim
      refine⟨_,b,w,.tuple #[.bool false],rfl,hb,.refl b w, ?_, ?_,.inl ?_⟩
      ·simpa [vN,AW] using hc
      ·simp only[AW,Bool.false_eq_true,if_false];exact .v (.gD (.cons (.bool _) (.nil ρ)))
      ·simp only[execOp,he,Instr.next,Sem.run_bind,wZ hc,Result.andThen_ok,hp,if_false];simp
    ·rw[show Nat.beq s s'=false by rw[aW];simpa using hs] at h;simp at h
   ·cases h
 |_=>simp [eg] at h
end
section
variable {E:kz} {H0:ag} {ρ0:dD} {w0:World} {ann:bQ} {N:Nat} {ρ lam:dD} {S:St} {a:Act} {w:World}
theorem yO {H:ag} (hr:HR ρ H w) {id off n:Nat} (h:H.inb id off n=true):∃e cs ro,H.get id=some (.cells e cs ro)∧off+n≤cs.length∧∃b,ρ id=some b∧fU ρ e cs (!ro) w.heap[b]? :=by
 unfold ag.inb at h;split at h
 ·rename_i e cs ro hg;obtain⟨b,h1,h2⟩:=hr.wW id _ hg;exact⟨e,cs,ro,hg,Nat.le_of_ble_eq_true h,b,h1,h2⟩
 ·cases h
theorem gg:∀(n:Nat) (l:List V),(hJ n l).length=n*l.length
 |0,l=>by simp [hJ]
 |n+1,l=>by simp [hJ,gg n l,Nat.add_mul];omega
theorem gE {l:List V} (h:bf l):∀n:Nat,bf (hJ n l)
 |0=>fun v hv=>by simp [hJ] at hv
 |n+1=>fun v hv=>by
  simp only[hJ,List.mem_append] at hv;exact hv.elim (h v) (gE h n v)
theorem yP {l:List V} (hl:0<l.length):∀(n i:Nat),i<n*l.length→(hJ n l)[i]? =l[i % l.length]?
 |0,i,h=>by simp at h
 |n+1,i,h=>by
  by_cases hi:i<l.length
  ·rw[hJ,List.getElem?_append_left hi,Nat.mod_eq_of_lt hi]
  ·have hi:l.length≤i:=by omega
   rw[hJ,List.getElem?_append_right hi,yP hl n (i-l.length) (by rw[Nat.add_mul] at h;omega), ←Nat.mod_eq_sub_mod hi]
theorem Fz {z:List V} {z':Array Value} {n k:Nat} (hz:eM ρ z z'.toList) (hn:z.length=n) (hp:0<n):eM ρ (hJ k z) ((Array.range (k*n)).map (z'[· % z'.size]!)).toList:=by
 have hs:z'.size=n:=by have:=hz.1;simp at this;omega
 refine⟨by simp [gg,hn], ?_⟩;intro i x y hx hy
 have hi:i<k*n:=by
  rcases Nat.lt_or_ge i (k*n) with h|h
  ·exact h
  ·rw[List.getElem?_eq_none (by rw[gg,hn];exact h)] at hx;cases hx
 rw[yP (by omega) k i (by rw[hn];exact hi),hn] at hx;have hm:i % n<n:=Nat.mod_lt _ hp;refine hz.2 (i % n) x y hx ?_;have hy':z'[i % z'.size]! =y:=by simpa [hi] using hy
 rw[hs,getElem!_pos z' (i % n) (by omega)] at hy';rw[←hy',Array.getElem?_toList,Array.getElem?_eq_getElem (by omega)]
theorem sM:∀{l:List V},vH l=true↔bf l
 |[]=>by simp [vH,bf]
 |v::l=>by
  rw[vH,Bool.and_eq_true,sM];simp [bf]
theorem bf.append {l m:List V} (h:bf l) (k:bf m):bf (l++m):=by
 intro v hv;rcases List.mem_append.1 hv with hv|hv
 ·exact h v hv
 ·exact k v hv
theorem uk (s:ByteArray):bf (eZ s):=by
 intro v hv;simp only[eZ,List.mem_map] at hv;obtain⟨b,_,rfl⟩:=hv;rfl
theorem um (ρ:dD) (s:ByteArray):eM ρ (eZ s) (s.data.map fun b=>Value.int .u8 b.toNat).toList:=by
 refine⟨by simp [eZ], ?_⟩;intro i x y hx hy;simp only[eZ,List.getElem?_map,Array.toList_map,Option.map_eq_some_iff] at hx hy;obtain⟨b,hb,rfl⟩:=hx;obtain⟨b',hb',rfl⟩:=hy;rw[hb] at hb';cases hb';exact .int _ _
theorem Dx (s:ByteArray):(eZ s).length=s.size:=by
 unfold eZ;rw[List.length_map];rfl
theorem Q6 {H:ag} {id off n:Nat} (h:H.inb id off n=true):(H.sub id off n).length=n:=by
 unfold ag.inb at h;split at h
 ·rename_i e cs ro hg;have:=Nat.le_of_ble_eq_true h;simp [ag.sub,ag.cs,hg];omega
 ·cases h
theorem xx {H:ag} (hr:HR ρ H w) {id off n b:Nat} (hb:ρ id=some b) (h:H.inb id off n=true):∃xs,(loadCells ⟨b,off,none⟩ n).run E.P w=.ok xs w∧eM ρ (H.sub id off n) xs.toList:=by
 obtain⟨e,cs,ro,hg,hle,b',hb',cs',fz,hcell,hvs,_,_⟩:=yO hr h;rw[hb] at hb';cases hb';have hsub:H.sub id off n=(cs.drop off).take n:=by simp [ag.sub,ag.cs,hg]
 have hlen:cs'.size=cs.length:=by have:=hvs.1;simp at this;omega
 have hrun:=run_loadCells_list (P:=E.P) w ⟨b,off,none⟩ ((cs'.toList.drop off).take n) (by
  intro j v hv;rw[gf,qS hcell];rw[List.getElem?_take] at hv;split at hv
  ·rw[List.getElem?_drop] at hv;simpa using hv
  ·cases hv)
 have hl:((cs'.toList.drop off).take n).length=n:=by simp;omega
 rw[hl] at hrun;exact⟨_,hrun,by rw[hsub];simpa using (hvs.drop off).take n⟩
theorem xy {n:Nat} {x:Value} {m:Nat} (hx:Builtin.lenOf x=pure m):(Builtin.firstCells n 0 x).run E.P w=.ok #[] w:=by
 cases x with
 |string s=>simp [Builtin.firstCells]
 |slice p l c=>cases p<;>simp [Builtin.firstCells,loadCells,loadCellsFrom]
 |_=>exact absurd hx (by simp [Builtin.lenOf,stuck])
theorem vR {H:ag} (hr:HR ρ H w) {x:V} {x':Value} (hx:VR ρ x x') {n m:Nat} {ok:Nat→Bool} {cs:Nat→List V} (hs:ly H n x=some (m,ok,cs)):Builtin.lenOf x'=pure m∧∀k,k≤m→(k=0∨ok k=true)→∃xs,(Builtin.firstCells n k x').run E.P w=.ok xs w∧eM ρ (cs k) xs.toList∧bf (cs k)∧(cs k).length=k*n:=by
 cases x with
 |slice p len cap=>
  simp only[ly,Option.some.injEq,Prod.mk.injEq] at hs;obtain⟨rfl,rfl,rfl⟩:=hs;have hl:Builtin.lenOf x'=pure len:=by cases hx<;>rfl
  refine⟨hl,fun k hk hok=> ?_⟩;by_cases h0:k=0
  ·subst h0;exact⟨#[],xy hl,by simpa using eM.nil ρ,fun v hv=>by simp at hv,by simp⟩
  ·have hz:Nat.beq k 0=false:=by rw[aW];simp [h0]
   have hok:=hok.resolve_left h0;simp only[pD,hz,Bool.false_or,Bool.and_eq_true] at hok;obtain⟨hp,hi,ho⟩:=hok;simp only[hz,cond_false]
   cases p with
   |none=>cases hp
   |some q=>
    obtain⟨id,off⟩:=q;rcases hx.fh with⟨b,hb,rfl⟩|⟨h1,_,_⟩
    ·obtain⟨xs,h1,h2⟩:=xx (E:=E) hr hb hi;exact⟨xs,h1,h2,sM.1 ho,Q6 hi⟩
    ·omega
 |cG s=>
  simp only[ly,Option.some.injEq,Prod.mk.injEq] at hs;obtain⟨rfl,rfl,rfl⟩:=hs;cases hx;refine⟨rfl,fun k hk hok=> ?_⟩
  have acK:((s.extract 0 k).data.map fun b=>Value.int .u8 b.toNat).toList=((s.data.map fun b=>Value.int .u8 b.toNat).toList).take k:=by
   simp [ByteArray.data_extract,List.map_take]
  refine⟨_,rfl, ?_,fun v hv=>uk s v (List.mem_of_mem_take hv), ?_⟩
  ·rw[acK];exact(um ρ s).take k
  ·rcases hok with rfl|hok
   ·simp
   ·have:n=1:=Nat.eq_of_beq_eq_true hok;subst this;simp [Dx];omega
 |_=>simp [ly] at hs
theorem qT {t el n cN:Nat} {z:List V} (h:fH E t=some (el,n,cN,z)):∃di z',E.P.underlying t=some (.slice el)∧E.P.info? el=some di∧
 di.zero=some z'∧di.size=n∧di.bytes=cN∧z.length=n∧0<n∧z'.cells.size=n∧bf z∧∀ρ,eM ρ z z'.cells.toList:=by
 unfold fH at h;split at h
 ·rename_i ti ni;obtain⟨ds,rK,hds⟩:=dH ni;split at h
  ·rename_i e hsh;rw[hsh] at hds;cases iv hds;split at h
   ·rename_i ei hei;obtain⟨di,dt,hi,hu,hd,hsz,hby,KY⟩:=jQ hei;split at h
    ·rename_i zv hz
     cases hb:(Nat.beq zv.cells.length ei.size&&sA ei.size) with
     |false=>simp [hb] at h
     |true=>
      simp only[hb,cond_true,Option.some.injEq,Prod.mk.injEq] at h;obtain⟨rfl,rfl,rfl,rfl⟩:=h;rw[Bool.and_eq_true] at hb;have hn:zv.cells.length=ei.size:=Nat.eq_of_beq_eq_true hb.1
      have hp:0<ei.size:=by
       have:=hb.2
       cases h:ei.size with
       |zero=>rw[h] at this;cases this
       |succ n=>omega
      rw[hz] at KY;obtain⟨z',EK,yi⟩:=Option.bind_eq_some_iff.1 KY;have MR:∀ρ,eM ρ zv.cells z'.cells.toList:=fun ρ=>(iA yi).cells (fun e=>by have:=kQ yi;rw[e] at this;have:=this .cv (by simp [V.cells]);cases this)
      refine⟨di,z',rK,hi,EK,hsz,hby,hn,hp, ?_,kQ yi,MR⟩;have:=(MR (fun _=>none)).1;simp at this;omega
    ·cases h
   ·cases h
  ·cases h
 ·cases h
theorem mz {z:List V} {z':Array Value} {n:Nat} (hz:eM ρ z z'.toList) (hn:z.length=n) (hp:0<n) (k:Nat):eM ρ (hJ k z) (Builtin.zeroCells z' k).toList:=by
 have hs:z'.size=n:=by have:=hz.1;simp at this;omega
 unfold Builtin.zeroCells;rw[hs];simpa [hs] using Fz hz hn hp (k:=k)
theorem pO (a:Addr):(storeCells a []).run E.P w=.ok () w:=by simp [storeCells]
theorem Q7 {u:TypeId} (h:iO (bh E u)=true):∃d,E.P.underlying u=some d∧(d=.string∨∃e,d=.slice e):=by
 cases hk:bh E u with
 |none=>rw[hk] at h;cases h
 |some k=>
  obtain⟨d,hu,hd⟩:=bK hk;refine⟨d,hu, ?_⟩;rw[hk] at h;cases d<;>simp [bo,cO] at hd<;>first|(exact .inl rfl)|(exact .inr ⟨_,rfl⟩)|(subst hd;cases h)
theorem Bd {t u el ty:TypeId} {du:TypeDesc} {di:TypeInfo} (kZ:E.P.underlying t=some (.slice el)) (E1:E.P.underlying u=some du) (QO:du=.string∨∃e,du=.slice e) (hi:E.P.info? el=some di) {aV:Option Addr} {l cp m:Nat} {x':Value} (hlen:Builtin.lenOf x'=pure m) (hroom:l+m≤cp) {xs:Array Value} (hf:(Builtin.firstCells di.size m x').run E.P w=.ok xs w) {w':World} (hst:(match aV with|some a=>storeCells (a.add (l*di.size)) xs.toList|none=>pure ()).run E.P w=.ok () w'):(Builtin.append_ #[t,u] ty #[.slice aV l cp,x']).run E.P w=.ok (.slice aV (l+m) cp) w':=by
 cases aV with
 |none=>
  simp at hst;subst hst;rcases QO with rfl|⟨e,rfl⟩<;>simp [Builtin.append_,run_underlying kZ,run_underlying E1,sizeOf,typeInfo,hi,hlen,hroom,hf]
 |some ad=>
  rcases QO with rfl|⟨e,rfl⟩<;>simp [Builtin.append_,run_underlying kZ,run_underlying E1,sizeOf,typeInfo,hi,hlen,hroom,hf,hst]
theorem yQ {t u el ty:TypeId} {du:TypeDesc} {di:TypeInfo} {z':Value} (kZ:E.P.underlying t=some (.slice el)) (E1:E.P.underlying u=some du) (QO:du=.string∨∃e,du=.slice e) (hi:E.P.info? el=some di) (hz:di.zero=some z') {aV:Option Addr} {l cp m:Nat} {x':Value} (hlen:Builtin.lenOf x'=pure m) (hroom:¬l+m≤cp) (ic:(l+m)*(di.bytes+1)≤70368744177664) {os xs:Array Value} (hfo:(Builtin.firstCells di.size l (.slice aV l cp)).run E.P w.drew=.ok os w.drew) (hf:(Builtin.firstCells di.size m x').run E.P w.drew=.ok xs w.drew):(Builtin.append_ #[t,u] ty #[.slice aV l cp,x']).run E.P w=.ok (.slice (some ⟨w.heap.size,0,none⟩) (l+m) (grownCap w (l+m) cp el)) (w.drew.alloc (.cells (os++xs++Builtin.zeroCells z'.cells (grownCap w (l+m) cp el-(l+m))) el)):=by
 have h1:(l+m)*di.bytes≤70368744177664:=Nat.le_trans (Nat.mul_le_mul_left _ (by omega)) ic;have h2:l+m≤70368744177664:=Nat.le_trans (Nat.le_mul_of_pos_right _ (by omega)) ic;have h63':¬(9223372036854775807<((l:Int)+(m:Int))):=by omega
 have hg:=growslice_fits (need:=l+m) (old:=cp) (bytes:=di.bytes) (by omega) (by omega);have MU:¬(281474976710656<Builtin.nextslicecap (l+m) cp*di.bytes):=by omega
 rcases QO with rfl|⟨e,rfl⟩<;>simp [Builtin.append_,run_underlying kZ,run_underlying E1,sizeOf,typeInfo,zeroValue,hi,hz,hlen,hroom,h63',MU,Question.forced,hf,hfo,newRow,grownCap]
theorem yR {t u el ty:TypeId} {di:TypeInfo} {z':Value} (kZ:E.P.underlying t=some (.slice el)) (E1:E.P.underlying u=some (.int .i64)) (hi:E.P.info? el=some di) (hz:di.zero=some z') (hpos:0<di.size) {aV:Option Addr} {l cp:Nat} {m:Int} (h0:0≤m) (hb:m*(di.bytes+1)≤70368744177664) (hroom:l+m.toNat≤cp) {w':World} (hst:(match aV with|some a=>storeCells (a.add (l*di.size)) (Builtin.zeroCells z'.cells m.toNat).toList|none=>pure ()).run E.P w=.ok () w'):(Builtin.append_ #[t,u] ty #[.slice aV l cp,.int .i64 m]).run E.P w=.ok (.slice aV (l+m.toNat) cp) w':=by
 have TH:m*1≤m*(di.bytes+1):=Int.mul_le_mul_of_nonneg_left (by omega) h0;have hm2:m*di.bytes≤m*(di.bytes+1):=Int.mul_le_mul_of_nonneg_left (by omega) h0;have hw1:IntKind.i64.wrap m=m:=IntWalk.i64_in _ ⟨by omega,by omega⟩;have e1:¬(281474976710656<m*(di.bytes:Int)):=by omega
 have e3:¬m<0:=by omega
 by_cases hn:m.toNat*di.size=0
 ·have hm0:m.toNat=0:=by
   rcases Nat.mul_eq_zero.1 hn with h|h
   ·exact h
   ·omega
  have MQ:Builtin.zeroCells z'.cells 0= #[]:=by simp [Builtin.zeroCells]
  rw[hm0,MQ] at hst
  cases aV with
  |none=>
   simp at hst;subst hst;simp [Builtin.append_,run_underlying kZ,run_underlying E1,sizeOf,typeInfo,zeroValue,hi,hz,hw1,e1,e3,hm0,hroom,asInt,asIntOf];omega
  |some ad=>
   simp at hst;simp [Builtin.append_,run_underlying kZ,run_underlying E1,sizeOf,typeInfo,zeroValue,hi,hz,hw1,e1,e3,hm0,hroom,asInt,asIntOf,hst];omega
 ·cases aV with
  |none=>
   simp at hst;subst hst;simp [Builtin.append_,run_underlying kZ,run_underlying E1,sizeOf,typeInfo,zeroValue,hi,hz,hw1,e1,e3,hn,hroom,asInt,asIntOf]
  |some ad=>
   simp [Builtin.append_,run_underlying kZ,run_underlying E1,sizeOf,typeInfo,zeroValue,hi,hz,hw1,e1,e3,hn,hroom,asInt,asIntOf,hst]
theorem xz {t u el ty:TypeId} {di:TypeInfo} {z':Value} (kZ:E.P.underlying t=some (.slice el)) (E1:E.P.underlying u=some (.int .i64)) (hi:E.P.info? el=some di) (hz:di.zero=some z') (hpos:0<di.size) {aV:Option Addr} {l cp:Nat} {m:Int} (h0:0≤m) (hb:m*(di.bytes+1)≤70368744177664) (hroom:¬l+m.toNat≤cp) (ic:(l+m.toNat)*(di.bytes+1)≤70368744177664) {os:Array Value} (hfo:(Builtin.firstCells di.size l (.slice aV l cp)).run E.P w.drew=.ok os w.drew):(Builtin.append_ #[t,u] ty #[.slice aV l cp,.int .i64 m]).run E.P w=.ok (.slice (some ⟨w.heap.size,0,none⟩) (l+m.toNat) (grownCap w (l+m.toNat) cp el)) (w.drew.alloc (.cells (os++Builtin.zeroCells z'.cells m.toNat++Builtin.zeroCells z'.cells (grownCap w (l+m.toNat) cp el-(l+m.toNat))) el)):=by
 have TH:m*1≤m*(di.bytes+1):=Int.mul_le_mul_of_nonneg_left (by omega) h0;have hm2:m*di.bytes≤m*(di.bytes+1):=Int.mul_le_mul_of_nonneg_left (by omega) h0;have hw1:IntKind.i64.wrap m=m:=IntWalk.i64_in _ ⟨by omega,by omega⟩;have e1:¬(281474976710656<m*(di.bytes:Int)):=by omega
 have e3:¬m<0:=by omega
 have h1:(l+m.toNat)*di.bytes≤70368744177664:=Nat.le_trans (Nat.mul_le_mul_left _ (by omega)) ic;have h2:l+m.toNat≤70368744177664:=Nat.le_trans (Nat.le_mul_of_pos_right _ (by omega)) ic;have h63':¬(9223372036854775807<((l:Int)+(m.toNat:Int))):=by omega
 have h63:¬(9223372036854775807<((l:Int)+max m 0)):=by omega
 have hg:=growslice_fits (need:=l+m.toNat) (old:=cp) (bytes:=di.bytes) (by omega) (by omega);have MU:¬(281474976710656<Builtin.nextslicecap (l+m.toNat) cp*di.bytes):=by omega
 by_cases hn:m.toNat*di.size=0
 ·have hm0:m.toNat=0:=by
   rcases Nat.mul_eq_zero.1 hn with h|h
   ·exact h
   ·omega
  have MQ:Builtin.zeroCells z'.cells 0= #[]:=by simp [Builtin.zeroCells]
  rw[hm0] at hroom h63' MU⊢;have acL:m=0:=by omega
  subst acL;have Wr:¬l≤cp:=by simpa using hroom
  have acM:¬(9223372036854775807:Int)<(l:Int):=by simpa using h63'
  have acN:¬(281474976710656<Builtin.nextslicecap l cp*di.bytes):=by simpa using MU
  simp [Builtin.append_,Wr,acM,acN,run_underlying kZ,run_underlying E1,sizeOf,typeInfo,zeroValue,hi,hz,hw1,hroom,h63',MU,Question.forced,hfo,newRow,grownCap,asInt,asIntOf,MQ]
 ·simp [Builtin.append_,run_underlying kZ,run_underlying E1,sizeOf,typeInfo,zeroValue,hi,hz,hw1,e1,e3,hn,hroom,h63',h63,MU,Question.forced,hfo,newRow,grownCap,asInt,asIntOf]
theorem T3 {x:Value} {k:IntKind} {n:Int} (h:VR ρ (.int k n) x):x=.int k n:=h.iu
structure Xs (E:kz) (t u ty el:TypeId) (di:TypeInfo) (z':Value) (x':Value) (m:Nat) (A:World→Array Value→Prop):Prop where
 inn:∀{w w':World} {aV:Option Addr} {l cp:Nat} {xs:Array Value},l+m≤cp→A w xs→(match aV with|some a=>storeCells (a.add (l*di.size)) xs.toList|none=>pure ()).run E.P w=.ok () w'→
  (Builtin.append_ #[t,u] ty #[.slice aV l cp,x']).run E.P w=.ok (.slice aV (l+m) cp) w'
 out:∀{w:World} {aV:Option Addr} {l cp:Nat} {os xs:Array Value},¬l+m≤cp→(l+m)*(di.bytes+1)≤70368744177664→(Builtin.firstCells di.size l (.slice aV l cp)).run E.P w.drew=.ok os w.drew→A w.drew xs→
  (Builtin.append_ #[t,u] ty #[.slice aV l cp,x']).run E.P w=.ok (.slice (some ⟨w.heap.size,0,none⟩) (l+m) (grownCap w (l+m) cp el))
   (w.drew.alloc (.cells (os++xs++Builtin.zeroCells z'.cells (grownCap w (l+m) cp el-(l+m))) el))
theorem Dy {H:ag} {t u ty el n cN:Nat} {z:List V} {di:TypeInfo} {z':Value} (kZ:E.P.underlying t=some (.slice el)) (hi:E.P.info? el=some di) (hz:di.zero=some z') (hsz:di.size=n) (hby:di.bytes=cN)
 (hzl:z.length=n) (hpos:0<n) (hzs:z'.cells.size=n) (SF:bf z) (Ql:∀ρ,eM ρ z z'.cells.toList) {x:V} {x':Value} (hx:VR ρ x x') {r:Bool} {m:Nat} {ok:Nat→Bool} {cs:Nat→List V}
 (hs:mR H n cN z (bh E u) x=some (r,m,ok,cs)) (hr:r=true):∃A:World→Array Value→Prop,Xs E t u ty el di z' x' m A∧
  ∀w,HR ρ H w→(m=0∨ok m=true)→∃xs,A w xs∧eM ρ (cs m) xs.toList∧bf (cs m)∧(cs m).length=m*n:=by
 subst hr;subst hsz;subst hby
 have key:iO (bh E u)=true→ly H di.size x=some (m,ok,cs)→∃A:World→Array Value→Prop,Xs E t u ty el di z' x' m A∧
  ∀w,HR ρ H w→(m=0∨ok m=true)→∃xs,A w xs∧eM ρ (cs m) xs.toList∧bf (cs m)∧(cs m).length=m*di.size:=by
  intro hu hsrc;obtain⟨du,E1,QO⟩:=Q7 hu
  have hlen:Builtin.lenOf x'=pure m:=by
   cases x with
   |slice p len cap=>
    simp only[ly,Option.some.injEq,Prod.mk.injEq] at hsrc;obtain⟨rfl,_,_⟩:=hsrc;cases hx<;>rfl
   |cG s=>
    simp only[ly,Option.some.injEq,Prod.mk.injEq] at hsrc;obtain⟨rfl,_,_⟩:=hsrc;cases hx;rfl
   |_=>simp [ly] at hsrc
  refine⟨fun w xs=>(Builtin.firstCells di.size m x').run E.P w=.ok xs w,⟨fun hroom hf hst=>Bd kZ E1 QO hi hlen hroom hf hst,fun hroom ic hfo hf=>yQ kZ E1 QO hi hz hlen hroom ic hfo hf⟩,fun w hw hok=> ?_⟩;obtain⟨_,tG⟩:=vR (E:=E) hw hx hsrc;exact tG m (Nat.le_refl _) hok
 unfold mR at hs;split at hs
 ·rename_i hk;obtain⟨d,E1,hd⟩:=bK hk;split at hs
  ·rename_i mi;simp only[Option.some.injEq,Prod.mk.injEq,Bool.and_eq_true,decide_eq_true_eq] at hs;obtain⟨⟨h0,hb⟩,rfl,rfl,rfl⟩:=hs;have hx':=T3 hx;subst hx';cases d<;>simp [bo,cO] at hd
   subst hd;refine⟨fun w xs=>xs=Builtin.zeroCells z'.cells mi.toNat,⟨fun hroom hf hst=> ?_,fun hroom ic hfo hf=> ?_⟩,fun w hw hok=>⟨_,rfl, ?_, ?_, ?_⟩⟩
   ·subst hf;exact yR kZ E1 hi hz hpos h0 hb hroom hst
   ·subst hf;exact xz kZ E1 hi hz hpos h0 hb hroom ic hfo
   ·exact mz (Ql ρ) hzl hpos _
   ·exact gE SF _
   ·show (hJ _ z).length=_
    rw[gg,hzl]
  ·cases hs
 ·split at hs
  ·rename_i hu;split at hs
   ·rename_i m' ok' cs' hsrc;simp only[Option.some.injEq,Prod.mk.injEq,true_and] at hs;obtain⟨rfl,rfl,rfl⟩:=hs;exact key hu hsrc
   ·cases hs
  ·cases hs
theorem Dz (h:SR H0 ρ0 w0 ann N ρ lam S a w) {ts:List TypeId} {args:List V} {args':Array Value} {ty:TypeId} {K:Oq→Nat→Nat→ag→Prop} (ha:eM ρ args args'.toList) (ho:aP E ts args S.hp K):∃q n c H' ρ' v w',K q n c H'∧(Builtin.append_ ts.toArray ty args').run E.P w=.ok v w'∧SR H0 ρ0 w0 ann N ρ' lam {S with hp:=H'} a w'∧TR ρ' lam (.v (.slice q n c)) v:=by
 unfold aP at ho;split at ho
 ·rename_i t u p l cp x;split at ho
  ·rename_i el n cN z hel
   split at ho
   ·rename_i r0 m ok cs hsrc;obtain⟨hr0,ho⟩:=aQ ho;obtain⟨s',r1,xN,hs',n5⟩:=ha.dh;obtain⟨x',r2,xM,hx',tH⟩:=n5.dh;have Qm:=tH.gq;subst Qm;subst xM
    obtain rfl:args'= #[s',x']:=by
     apply Array.ext';rw[xN]
    obtain⟨di,z',kZ,hi,hz,hsz,hby,hzl,hpos,hzs,SF,Ql⟩:=qT hel;obtain⟨A,hA,tG⟩:=Dy (ty:=ty) kZ hi hz hsz hby hzl hpos hzs SF Ql hx' hsrc hr0;subst hsz;subst hby
    have hbase:∃aV,s'=.slice aV l cp∧(p=none→aV=none)∧(∀id off,p=some (id,off)→(∃b,ρ id=some b∧aV=some ⟨b,off,none⟩)∨(l=0∧cp=0∧∃ad,aV=some ad)):=by
     cases p with
     |none=>exact⟨none,hs'.lE,fun _=>rfl,fun _ _ h=>by cases h⟩
     |some q=>
      obtain⟨id,off⟩:=q;rcases hs'.fh with⟨b,hb,he⟩|⟨h0,h1,ad,he⟩
      ·exact⟨_,he,fun h=>by(cases h),fun id' off' h=>by cases h;exact .inl ⟨b,hb,rfl⟩⟩
      ·exact⟨_,by rw[he,h0,h1],fun h=>by(cases h),fun id' off' h=>.inr ⟨h0,h1,ad,rfl⟩⟩
    obtain⟨aV,rfl,hb0,AB⟩:=hbase;rcases gy ho with⟨hroom,ho⟩|⟨hroom,ho⟩
    ·have hroom:l+m≤cp:=Nat.le_of_ble_eq_true hroom;obtain⟨hr,ho⟩:=aQ ho;by_cases hm:m=0
     ·obtain⟨xs,h1,h2,h3,h4⟩:=tG w h.hr (.inl hm)
      have hxs:xs= #[]:=by
       have:=h2.1;rw[h4,hm] at this;apply Array.eq_empty_of_size_eq_zero;simpa using this.symm
      subst hxs;have hz0:Nat.beq m 0=true:=by rw[aW];simp [hm]
      simp only[hz0,cond_true] at ho;refine⟨_,_,_,_,ρ,.slice aV (l+m) cp,w,ho,hA.inn hroom h1 ?_,h,.v ?_⟩
      ·cases aV<;>simp [pO]
      ·rw[hm];simpa using hs'
     ·have hz0:Nat.beq m 0=false:=by rw[aW];simp [hm]
      simp only[hz0,Bool.false_or,Bool.and_eq_true,cond_false] at hr ho;obtain⟨hp,hok,EM⟩:=hr
      cases p with
      |none=>cases hp
      |some q=>
       obtain⟨id,off⟩:=q;simp only[Option.getD_some] at EM ho;rcases AB id off rfl with⟨b,hb,rfl⟩|⟨h0,h1,_⟩
       ·obtain⟨xs,h1,h2,h3,h4⟩:=tG w h.hr (.inr hok);unfold ag.wr at EM;split at EM
        ·rename_i e ccs ro hg;rw[Bool.and_eq_true] at EM;have hro:ro=false:=by simpa using EM.1
         subst hro;obtain⟨b',hb',hc⟩:=h.hr.wW id _ hg;rw[hb] at hb';cases hb';obtain⟨w',g1,g2,g3⟩:=my (E:=E) (off:=off+l*di.size) hc h2 h3 (by rw[h4];exact Nat.le_of_ble_eq_true EM.2);have hst:S.hp.store id (off+l*di.size) (cs m)=S.hp.put id (.cells e (bM ccs (off+l*di.size) (cs m)) false):=by simp [ag.store,hg]
         rw[hst] at ho;exact⟨_,_,_,_,ρ,_,w',ho,hA.inn hroom h1 (by simpa [gf] using g1),h.Dv hg rfl rfl hb g3 g2,.v (.slice _ _ hb)⟩
        ·cases EM
       ·omega
    ·have Ws:¬l+m≤cp:=by
      intro hc;rw[Nat.ble_eq_true_of_le hc] at hroom;cases hroom
     obtain⟨hr,ho⟩:=aQ ho;simp only[Bool.and_eq_true] at hr;obtain⟨hrow,hok,ic⟩:=hr;have ic:=Nat.le_of_ble_eq_true ic;have hd:HR ρ S.hp w.drew:=⟨h.hr.wW,h.hr.inj,h.hr.lt,h.hr.gl⟩
     obtain⟨_,hold⟩:=vR (E:=E) hd hs' (n:=di.size) (m:=l) (ok:=fun m=>pD S.hp di.size p m)
      (cs:=fun m=>bif Nat.beq m 0 then [] else S.hp.sub (p.getD (0,0)).1 (p.getD (0,0)).2 (m*di.size)) rfl
     obtain⟨xs,h1,h2,h3,h4⟩:=tG w.drew hd (.inr hok);obtain⟨os,k1,k2,k3,k4⟩:=hold l (Nat.le_refl _) (.inr hrow);have adb:l+m≤70368744177664:=Nat.le_trans (Nat.le_mul_of_pos_right _ (by omega)) ic;have Qn:=grownCap_ge w (l+m) cp el;have Qo:=grownCap_le_maxLen w (l+m) cp el (by simp only[maxLen];omega);have hk:=ho (grownCap w (l+m) cp el) Qn (by simp only[maxLen] at Qo;omega);have MR:=(k2.append h2).append (mz (Ql ρ) hzl hpos (grownCap w (l+m) cp el-(l+m)));refine⟨_,_,_,_,_,_,_,hk,hA.out Ws ic k1 h1,h.Du ⟨rfl,rfl,rfl,rfl⟩ (iC ?_ ?_),.v (.slice _ _ (by rw[eF,if_pos rfl]))⟩
     ·simpa [ym,dU,List.append_assoc] using MR
     ·exact k3.append (h3.append (gE SF _))
   ·exact ho.elim
  ·exact ho.elim
 ·exact ho.elim
theorem Be {t el cN:Nat} {n:Nat} {z:List V} {di:TypeInfo} {z':Value} (kZ:E.P.underlying t=some (.slice el)) (hi:E.P.info? el=some di) (hz:di.zero=some z')
 (hzs:z'.cells.size=di.size) (hpos:0<di.size) {k k':IntKind} {l c:Int} (h0:0≤l) (h1:l≤c) (h2:c*(di.bytes+1)≤70368744177664):
 (Instr.makeSlice t (.int k l) (.int k' c)).run E.P w=.ok (.slice (some ⟨w.heap.size,0,none⟩) l.toNat c.toNat)
  (w.alloc (.cells (Builtin.zeroCells z'.cells c.toNat) el)):=by
 have hc:0≤c:=by omega
 have TH:c*1≤c*(di.bytes+1):=Int.mul_le_mul_of_nonneg_left (by omega) hc;have hm2:c*di.bytes≤c*(di.bytes+1):=Int.mul_le_mul_of_nonneg_left (by omega) hc;have hw1:IntKind.i64.wrap l=l:=IntWalk.i64_in _ ⟨by omega,by omega⟩;have hw2:IntKind.i64.wrap c=c:=IntWalk.i64_in _ ⟨by omega,by omega⟩;have e1:¬(281474976710656<(di.bytes:Int)*c):=by rw[Int.mul_comm];omega
 have e2:¬c<0:=by omega
 have e3:¬l<0:=by omega
 have e4:¬c<l:=by omega
 have hroom:¬roomBytes<c.toNat*di.bytes:=by
  have:((c.toNat*di.bytes:Nat):Int)=c*di.bytes:=by rw[Int.natCast_mul,Int.toNat_of_nonneg hc]
  unfold roomBytes;omega
 have hz0:z'.cells.size≠0:=by omega
 by_cases hn:c.toNat*di.size=0
 ·have hcn:c.toNat=0:=by
   rcases Nat.mul_eq_zero.1 hn with h|h
   ·exact h
   ·omega
  simp [Instr.makeSlice,run_underlying kZ,typeInfo,sizeOf,hi,hw1,hw2,e1,e2,e3,e4,askRoom,hroom,hn,hcn,newRow,Builtin.zeroCells,asInt,asIntOf,hzs];have hr:Array.range 0= #[]:=by simp
  rw[hr,Array.map_empty,Array.map_empty]
 ·simp [Instr.makeSlice,run_underlying kZ,typeInfo,sizeOf,zeroValue,hi,hz,hw1,hw2,e1,e2,e3,e4,askRoom,hroom,hn,newRow,Builtin.zeroCells,asInt,asIntOf,hzs]
theorem yS {e:TypeId} {cs:List V} {off b:Nat} (hc:fU ρ e cs true w.heap[b]?):∃w',(markStringish ⟨b,off,none⟩).run E.P w=.ok () w'∧fU ρ e cs true w'.heap[b]? ∧pk b w w':=by
 obtain⟨cs',fz,hb,hvs,hone,hfz⟩:=hc;have hsh:w.shape? b=some (e,cs'.size):=by simp [World.shape?,hb]
 refine⟨w.freeze ⟨b,cs'.size,none⟩ 1,by simp [markStringish,shape,freeze,Sem.run,hsh], ?_, ?_⟩
 ·refine⟨cs',if fz.1 == fz.2 then (cs'.size,cs'.size+1) else (min fz.1 cs'.size,max fz.2 (cs'.size+1)), ?_,hvs,hone,fun _=>.inr ?_⟩
  ·simp [World.freeze,Array.getElem?_modify,hb]
  ·have:=hfz rfl;split
   ·simp
   ·rename_i hne;have hne:fz.1≠fz.2:=by simpa using hne
    simp only[Nat.le_min];omega
 ·refine⟨fun b' hb'=> ?_,by simp [World.freeze],rfl,rfl,rfl⟩;simp only[World.freeze,Array.getElem?_modify];rw[if_neg (by decide)];simp only[Array.getElem?_modify];rw[if_neg (fun e=>hb' e.symm)]
theorem uo {H:ag} {id:Nat} {o:Obj} (h:H.get id=some o):H.put id o=H:=by
 unfold ag.put;congr 1;funext j;rw[aW];by_cases hj:j=id
 ·subst hj;simp [h]
 ·simp [hj]
theorem DA {H:ag} (hr:HR ρ H w) {id off n:Nat} (h:H.wr id off n=true):∃e cs b,H.get id=some (.cells e cs false)∧off+n≤cs.length∧ρ id=some b∧fU ρ e cs true w.heap[b]? :=by
 unfold ag.wr at h;split at h
 ·rename_i e cs ro hg;rw[Bool.and_eq_true] at h;have hro:ro=false:=by simpa using h.1
  subst hro;obtain⟨b,h1,h2⟩:=hr.wW id _ hg;exact⟨e,cs,b,hg,Nat.le_of_ble_eq_true h.2,h1,h2⟩
 ·cases h
end
section
variable {E:kz} {H0:ag} {ρ0:dD} {w0:World} {ann:bQ} {N:Nat} {ρ lam:dD} {S:St} {a:Act} {w:World}
theorem ur {d:TypeDesc} {k e:TypeId} (h:bo d=.map k e):d=.map k e:=by cases d<;>simp_all [bo]
theorem Q8 {t:TypeId} {i:TI} {z:V} (h:E.ti t=some i) (hz:i.zero=some z) (ρ:dD) (w:World):∃z',(zeroValue t).run E.P w=.ok z' w∧VR ρ z z':=by
 obtain⟨di,dt,hi,hu,hd,_,_,KY⟩:=jQ h;rw[hz] at KY;obtain⟨z',EK,yi⟩:=Option.bind_eq_some_iff.1 KY;exact⟨z',by simp [zeroValue,typeInfo,hi,EK],iA yi⟩
theorem fl {em:Bool} {kt:TypeId} {k kd:IntKind} {n:Int} (h:E.P.underlying kt=some (.int kd)):(Instr.checkKey em 10000 kt (.int k n)).run E.P w=.ok () w:=by
 have:∀m,(Instr.checkKey em (m+1) kt (.int k n)).run E.P w=.ok () w:=by
  intro m;simp [Instr.checkKey,run_underlying h]
 exact this 9999
theorem uu {kd k:IntKind} {n:Int}:∀{es:List (V×V×Nat)} {es':List MapEntry} (i:Nat),jn ρ es es'→sv k es=true→(nq n es=none∧Instr.findNow (.int kd) (.int k n) es' i=some none)∨∃v j e,nq n es=some v∧Instr.findNow (.int kd) (.int k n) es' i=some (some (i+j,e.val))∧es'[j]? =some e∧VR ρ v e.val∧e.key=.int k n∧(∀v2 x2,VR ρ v2 x2→jn ρ (E3 n v2 es) (es'.modify j fun e=>{e with key:=.int k n,val:=x2}))∧jn ρ (yk n es) (es'.eraseIdx j)
 |[],[],i,_,_=>.inl ⟨rfl,rfl⟩
 |[],_::_,_,h,_=>h.elim
 |_::_,[],_,h,_=>h.elim
 |x::l,y::m,i,h,hk=>by
  obtain⟨⟨h1,h2,h3⟩,h4⟩:=h;rw[sv,Bool.and_eq_true] at hk;obtain⟨hx,hk⟩:=hk;have hx':x.1=.int k x.1.aa:=(V.so hx).symm;have hy:y.key=.int k x.1.aa:=VR.iu (hx'▸h1);by_cases hn:x.1.aa=n
  ·right;rw[hn] at hx' hy;refine⟨x.2.1,0,y,by simp [nq,hn],by simp [Instr.findNow,Instr.sameNow,hy],rfl,h2,hy,fun v2 x2 hv=> ?_, ?_⟩
   ·simp only[E3,hn,decide_true,cond_true,List.modify_zero_cons];exact⟨⟨by rw[hx'];exact .int k n,hv,h3⟩,h4⟩
   ·simp only[yk,hn,decide_true,cond_true,List.eraseIdx_cons_zero];exact h4
  ·have hn':¬n=x.1.aa:=fun e=>hn e.symm
   have hb:(n == x.1.aa)=false:=by simpa using hn'
   rcases uu (kd:=kd) (n:=n) (i+1) h4 hk with⟨g1,g2⟩|⟨v,j,e,g1,g2,g3,g4,g5,g6,g7⟩
   ·exact .inl ⟨by simp [nq,hn,g1],by simp [Instr.findNow,Instr.sameNow,hy,hb,g2]⟩
   ·refine .inr ⟨v,j+1,e,by simp [nq,hn,g1], ?_,by simpa using g3,g4,g5,fun v2 x2 hv=> ?_, ?_⟩
    ·simp only[Instr.findNow,Instr.sameNow,hy,hb,if_true,g2];rw[Nat.add_assoc,Nat.add_comm 1 j]
    ·simp only[E3,hn,decide_false,cond_false,List.modify_succ_cons];exact⟨⟨h1,h2,h3⟩,g6 v2 x2 hv⟩
    ·simp only[yk,hn,decide_false,cond_false,List.eraseIdx_cons_succ];exact⟨⟨h1,h2,h3⟩,g7⟩
theorem sN {H:ag} {id:Nat} (h:H.isMap id=true):H.get id=some (.map (H.ents id) (H.clock id)):=by
 unfold ag.isMap at h;split at h
 ·rename_i es c hg;simp [ag.ents,ag.clock,hg]
 ·cases h
theorem gV {w:World} {b:Nat} {es:Array MapEntry} {c:Nat} (h:w.heap[b]? =some (.map es c)):(getObj b).run E.P w=.ok (.map es c) w:=by
 simp [getObj,Sem.run,h]
theorem BK {w:World} {b:Nat} {m:Option Nat} {s l:Nat} {seen:Array Nat} (h:w.heap[b]? =some (.mapIter m s seen l)):(getObj b).run E.P w=.ok (.mapIter m s seen l) w:=by
 simp [getObj,Sem.run,h]
theorem qU {w:World} {b:Nat} {es:Array MapEntry} {c:Nat} {o':Go.Obj} (h:w.heap[b]? =some (.map es c)):(setObj b o').run E.P w=.ok () {w with heap:=w.heap.setIfInBounds b o'}:=by
 simp [setObj,Sem.run,h]
theorem pP (w:World) (b:Nat) (o:Go.Obj):pk b w {w with heap:=w.heap.setIfInBounds b o}:=
 ⟨fun b' hb=>by simp [Array.getElem?_setIfInBounds,Ne.symm hb],by simp,rfl,rfl,rfl⟩
theorem yT {w:World} {b:Nat} {x o:Go.Obj} (h:w.heap[b]? =some x):({w with heap:=w.heap.setIfInBounds b o}:World).heap[b]? =some o:=by
 have:b<w.heap.size:=by
  rcases Nat.lt_or_ge b w.heap.size with g|g
  ·exact g
  ·rw[Array.getElem?_eq_none g] at h;cases h
 simp [Array.getElem?_setIfInBounds,this]
theorem yU {H:ag} (hr:HR ρ H w) {k:IntKind} {id:Nat} {x:Value} (hx:VR ρ (.map (some id)) x) (hok:eG H k (some id)=true):∃b es',ρ id=some b∧x=.map (some b)∧H.get id=some (.map (H.ents id) (H.clock id))∧w.heap[b]? =some (.map es' (H.clock id))∧jn ρ (H.ents id) es'.toList∧sv k (H.ents id)=true:=by
 simp only[eG,Option.isNone_some,Bool.false_or,Option.getD_some,Bool.and_eq_true] at hok;have hg:=sN hok.1;obtain⟨b,hb,es',he,Ha⟩:=hr.wW id _ hg
 cases hx with
 |map hb'=>
  rw[hb] at hb';cases hb';exact⟨b,es',hb,rfl,hg,he,Ha,hok.2⟩
theorem DB {t kt et:TypeId} {k:IntKind} (kZ:E.P.underlying t=some (.map kt et)) (Hb:E.P.underlying kt=some (.int k)) {z:V} {z':Value} (hz:(zeroValue et).run E.P w=.ok z' w) (hzv:VR ρ z z') {H:ag} (hr:HR ρ H w) {r:Option Nat} {x:Value} (hx:VR ρ (.map r) x) {n:Int} (hok:eG H k r=true) (c:Bool):∃v',VR ρ (cj H r n z) v'∧(Instr.lookup t x (.int k n) c).run E.P w=.ok (if c then .tuple #[v',.bool (lk H r n)] else v') w:=by
 cases r with
 |none=>
  cases hx;refine⟨z',hzv, ?_⟩;cases c<;>simp [Instr.lookup,run_underlying kZ,fl (E:=E) Hb,Instr.findKey,run_underlying Hb,Instr.findNow,hz,lk]
 |some id=>
  obtain⟨b,es',hb,rfl,hg,he,Ha,Qp⟩:=yU hr hx hok;rcases uu (kd:=k) (n:=n) 0 Ha Qp with⟨g1,g2⟩|⟨v,j,e,g1,g2,g3,g4,g5,g6,g7⟩
  ·refine⟨z',by simpa [cj,g1] using hzv, ?_⟩;cases c<;>simp [Instr.lookup,run_underlying kZ,gV (E:=E) he,fl (E:=E) Hb,Instr.findKey,run_underlying Hb,g2,hz,lk,g1]
  ·refine⟨e.val,by simpa [cj,g1] using g4, ?_⟩;cases c<;>simp [Instr.lookup,run_underlying kZ,gV (E:=E) he,fl (E:=E) Hb,Instr.findKey,run_underlying Hb,g2,hz,lk,g1]
theorem jn.Xt {x:V×V×Nat} {y:MapEntry} (h:VR ρ x.1 y.key∧VR ρ x.2.1 y.val∧x.2.2=y.born):∀{l:List (V×V×Nat)} {m:List MapEntry},jn ρ l m→jn ρ (l++[x]) (m++[y])
 |[],[],_=>⟨h,trivial⟩
 |_::_,_::_,hl=>⟨hl.1,jn.Xt h hl.2⟩
 |[],_::_,hl=>hl.elim
 |_::_,[],hl=>hl.elim
theorem xA {t kt et:TypeId} {k:IntKind} (kZ:E.P.underlying t=some (.map kt et)) (Hb:E.P.underlying kt=some (.int k)) {H:ag} (hr:HR ρ H w) {id:Nat} {x:Value} (hx:VR ρ (.map (some id)) x) {n:Int} (hok:eG H k (some id)=true) {v:V} {y:Value} (hv:VR ρ v y):∃b w' o,ρ id=some b∧(Instr.mapUpdate t x (.int k n) y).run E.P w=.ok () w'∧pk b w w'∧H.get id=some (.map (H.ents id) (H.clock id))∧ik H k id n v=H.put id o∧o.rw =true∧Fm ρ o w'.heap[b]? :=by
 obtain⟨b,es',hb,rfl,hg,he,Ha,Qp⟩:=yU hr hx hok;rcases uu (kd:=k) (n:=n) 0 Ha Qp with⟨g1,g2⟩|⟨v0,j,e,g1,g2,g3,g4,g5,g6,g7⟩
 ·refine⟨b,_,.map (H.ents id++[(.int k n,v,H.clock id)]) (H.clock id+1),hb, ?_,pP w b (.map (es'.push {key:=.int k n,val:=y,born:=H.clock id}) (H.clock id+1)),hg, ?_,rfl, ?_⟩
  ·simp [Instr.mapUpdate,run_underlying kZ,gV (E:=E) he,fl (E:=E) Hb,Instr.findKey,run_underlying Hb,g2,qU (E:=E) he]
  ·simp [ik,g1]
  ·exact⟨_,yT he,by rw[Array.toList_push];exact Ha.Xt ⟨.int k n,hv,rfl⟩⟩
 ·have hj:es'[j]? =some e:=by simpa using g3
  refine⟨b,_,.map (E3 n v (H.ents id)) (H.clock id),hb, ?_,pP w b (.map (es'.modify j fun e=>{e with key:=.int k n,val:=y}) (H.clock id)),hg, ?_,rfl, ?_⟩
  ·simp [Instr.mapUpdate,run_underlying kZ,gV (E:=E) he,fl (E:=E) Hb,Instr.findKey,run_underlying Hb,g2,qU (E:=E) he,hj,g5,Instr.keyThatStays,Instr.sameBits]
  ·simp [ik,g1]
  ·exact⟨_,yT he,by rw[Array.toList_modify];exact g6 v y hv⟩
theorem DC {t kt et u ty:TypeId} {k:IntKind} (kZ:E.P.underlying t=some (.map kt et)) (Hb:E.P.underlying kt=some (.int k)) {H:ag} (hr:HR ρ H w) {id:Nat} {x:Value} (hx:VR ρ (.map (some id)) x) {n:Int} (hok:eG H k (some id)=true) {ts:Array TypeId} (hts:ts[0]? =some t):∃b w' o,ρ id=some b∧(Builtin.delete_ ts ty #[x,.int k n]).run E.P w=.ok (.tuple #[]) w'∧pk b w w'∧H.get id=some (.map (H.ents id) (H.clock id))∧pC H (some id) n=H.put id o∧o.rw =true∧Fm ρ o w'.heap[b]? :=by
 obtain⟨b,es',hb,rfl,hg,he,Ha,Qp⟩:=yU hr hx hok
 have EO:∀l:List (V×V×Nat),nq n l=none→yk n l=l:=by
  intro l
  induction l with
  |nil=>intro _;rfl
  |cons x l ih=>
   intro h;simp only[nq] at h;by_cases hn:x.1.aa=n
   ·simp [hn] at h
   ·simp only[hn,decide_false,cond_false] at h;simp [yk,hn,ih h]
 rcases uu (kd:=k) (n:=n) 0 Ha Qp with⟨g1,g2⟩|⟨v0,j,e,g1,g2,g3,g4,g5,g6,g7⟩
 ·refine⟨b,_,.map (yk n (H.ents id)) (H.clock id),hb, ?_,pP w b (.map es' (H.clock id)),hg, ?_,rfl, ?_⟩
  ·simp [Builtin.delete_,hts,run_underlying kZ,gV (E:=E) he,fl (E:=E) Hb,Instr.findKey,run_underlying Hb,g2,qU (E:=E) he]
  ·simp [pC]
  ·exact⟨_,yT he,by rw[EO _ g1];exact Ha⟩
 ·refine⟨b,_,.map (yk n (H.ents id)) (H.clock id),hb, ?_,pP w b (.map (es'.eraseIdxIfInBounds j) (H.clock id)),hg, ?_,rfl, ?_⟩
  ·simp [Builtin.delete_,hts,run_underlying kZ,gV (E:=E) he,fl (E:=E) Hb,Instr.findKey,run_underlying Hb,g2,qU (E:=E) he]
  ·simp [pC]
  ·refine⟨_,yT he, ?_⟩;have:(es'.eraseIdxIfInBounds j).toList=es'.toList.eraseIdx j:=by simp
   rw[this];exact g7
theorem FA:∀{l:List (V×V×Nat)} {m:List MapEntry},jn ρ l m→l.length=m.length
 |[],[],_=>rfl
 |_::_,_::_,hl=>by simp [FA hl.2]
 |[],_::_,hl=>hl.elim
 |_::_,[],hl=>hl.elim
theorem yV {n:Nat}:∀{l:List Nat},tO n l=true↔n∈l
 |[]=>by simp [tO]
 |x::l=>by
  rw[tO,Bool.or_eq_true,yV,List.mem_cons];exact⟨fun h=>h.imp Nat.eq_of_beq_eq_true id,fun h=>h.imp (fun e=>by subst e;exact Nat.beq_refl n) id⟩
theorem yW {bX:Nat}:∀{l:List (V×V×Nat)} {m:List MapEntry},jn ρ l m→oa bX l=true→∀x∈m,x.born<bX
 |[],[],_,_=>by simp
 |x::l,y::m,hl,ha=>by
  rw[oa,Bool.and_eq_true] at ha;intro z hz;rcases List.mem_cons.1 hz with rfl|hz
  ·rw[←hl.1.2.2];simpa using ha.1
  ·exact yW hl.2 ha.2 z hz
 |[],_::_,hl,_=>hl.elim
 |_::_,[],hl,_=>hl.elim
theorem FB {seen:List Nat}:∀{l:List (V×V×Nat)} {m:List MapEntry},jn ρ l m→lj seen l=(m.filter fun e=> !seen.toArray.contains e.born).map (·.born)
 |[],[],_=>rfl
 |x::l,y::m,hl=>by
  have ih:=FB (seen:=seen) hl.2;have hb:=hl.1.2.2
  have hc:seen.toArray.contains y.born=tO x.2.2 seen:=by
   rw[hb];cases h:tO y.born seen
   ·have:¬y.born∈seen:=fun e=>by rw[yV.2 e] at h;cases h
    simpa using this
   ·have:y.born∈seen:=yV.1 h;simpa using this
  simp only[lj,List.filter_cons,hc];cases tO x.2.2 seen
  ·simp [hb,ih]
  ·simp [ih]
 |[],_::_,hl=>hl.elim
 |_::_,[],hl=>hl.elim
theorem FC {b:Nat}:∀{l:List (V×V×Nat)} {m:List MapEntry} {k v:V},jn ρ l m→By b l=some (k,v)→∃e,m.find? (·.born == b)=some e∧VR ρ k e.key∧VR ρ v e.val
 |[],[],_,_,_,h=>by cases h
 |x::l,y::m,k,v,hl,h=>by
  have hb:=hl.1.2.2;simp only[By,aW] at h;by_cases hx:x.2.2=b
  ·simp only[hx,decide_true,cond_true,Option.some.injEq,Prod.mk.injEq] at h;obtain⟨rfl,rfl⟩:=h;exact⟨y,by simp [←hb,hx],hl.1.1,hl.1.2.1⟩
  ·simp only[hx,decide_false,cond_false] at h;obtain⟨e,h1,h2⟩:=FC hl.2 h;have hy:(y.born == b)=false:=by rw[←hb];simpa using hx
   exact⟨e,by rw[List.find?_cons,hy];exact h1,h2⟩
 |[],_::_,_,_,hl,_=>hl.elim
 |_::_,[],_,_,hl,_=>hl.elim
theorem FD:∀{l:List Nat} {b:Nat},Bz l=some b→l.toArray.back?=some b
 |[],_,h=>by cases h
 |[x],b,h=>by simpa [Bz] using h
 |x::y::l,b,h=>by
  have:=FD (l:=y::l) h;simpa using this
theorem Bf (h:SR H0 ρ0 w0 ann N ρ lam S a w) {id b:Nat} {ty:TypeId} (hb:ρ id=some b) {K1:Prop} {K2:ag→Prop} (ho:mapNext S.hp id K1 K2):(K1∧(Instr.next (.pointer (some ⟨b,0,none⟩)) false ty).run E.P w=.ok (.tuple #[.bool false]) w)∨∃H' w' k v,K2 H'∧(Instr.next (.pointer (some ⟨b,0,none⟩)) false ty).run E.P w=.ok (.tuple #[.bool true,k,v]) w'∧SR H0 ρ0 w0 ann N ρ lam {S with hp:=H'} a w':=by
 unfold mapNext at ho;split at ho
 ·rename_i bX seen tN hg;obtain⟨b',hb',m',he,hm⟩:=h.hr.wW id _ hg;rw[hb] at hb';cases hb';cases hm;exact .inl ⟨ho,by simp [Instr.next,BK (E:=E) he]⟩
 ·rename_i m bX seen tN hg;split at ho
  ·rename_i es c hgm;obtain⟨b',hb',m',he,hm⟩:=h.hr.wW id _ hg;rw[hb] at hb';cases hb';obtain⟨bm,Xc,es',hem,Ha⟩:=h.hr.wW m _ hgm
   cases hm with
   |map Qq=>
    rw[Xc] at Qq;cases Qq
    cases hc:(oa bX es&&Nat.ble bX tN) with
    |false=>simp only[hc,cond_false] at ho
    |true=>
     simp only[hc,cond_true] at ho;rw[Bool.and_eq_true] at hc;have hold:=yW Ha hc.1;have hleft:=FB (seen:=seen) Ha;have hlo:(leftOf es' seen.toArray).toList=es'.toList.filter fun e=> !seen.toArray.contains e.born:=by simp [leftOf]
     rcases run_next_at (P:=E.P) w ty b bm bX tN seen.toArray es' c he hem hold (Nat.le_of_ble_eq_true hc.2) with⟨h1,h2⟩|⟨e,h1,w1,h2,h3⟩
     ·have h0:lj seen es=[]:=by
       rw[hleft, ←hlo]
       have:(leftOf es' seen.toArray).toList=[]:=by
        apply List.eq_nil_of_length_eq_zero;simpa using h1
       rw[this];rfl
      rw[h0] at ho;exact .inl ⟨ho,h2⟩
     ·rw[hlo] at h1
      have hmem:e.born∈lj seen es:=by
       rw[hleft];exact List.mem_map.2 ⟨e,h1,rfl⟩
      have hk:K2 (S.hp.put id (.dM (some m) bX (seen++[e.born]) c)):=by
       cases hl:lj seen es with
       |nil=>rw[hl] at hmem;cases hmem
       |cons x l=>
        rw[hl] at ho hmem;exact ho _ hmem
      refine .inr ⟨_,_,_,_,hk,h3, ?_⟩
      have key:∀w2:World,SR H0 ρ0 w0 ann N ρ lam S a w2→w2.heap=w.heap→SR H0 ρ0 w0 ann N ρ lam {S with hp:=S.hp.put id (.dM (some m) bX (seen++[e.born]) c)} a
       (Go.ChangeMaps.setBlock w2 b (.mapIter (some bm) bX (seen.toArray.push e.born) c)):=by
       intro w2 hs hw;have SE:w2.heap[b]? =some (.mapIter (some bm) bX seen.toArray tN):=by rw[hw];exact he
       refine hs.Dv hg rfl rfl hb (pP w2 b _) ?_;exact⟨_,by unfold Go.ChangeMaps.setBlock;rw[yT SE];simp,.map Xc⟩
      rcases h2 with rfl|rfl
      ·exact key _ h rfl
      ·exact key _ (h.drew _) rfl
  ·exact ho.elim
 ·exact ho.elim
theorem DD {H:ag} (hr:HR ρ H w) {id b:Nat} (hb:ρ id=some b) (h:sw H id=true):∃k v,(Instr.entry (.pointer (some ⟨b,0,none⟩))).run E.P w=.ok (.tuple #[k,v]) w∧VR ρ (kM H id) k∧VR ρ (iJ H id) v:=by
 unfold sw at h;obtain⟨p,hp⟩:=Option.isSome_iff_exists.1 h;have hk:kM H id=p.1:=by simp [kM,hp]
 have hv:iJ H id=p.2:=by simp [iJ,hp]
 rw[hk,hv];unfold vE at hp;split at hp
 ·rename_i m bX seen tN hg;split at hp
  ·rename_i es c s hgm hl;obtain⟨b',hb',m',he,hm⟩:=hr.wW id _ hg;rw[hb] at hb';cases hb';obtain⟨bm,Xc,es',hem,Ha⟩:=hr.wW m _ hgm
   cases hm with
   |map Qq=>
    rw[Xc] at Qq;cases Qq;simp only[aW] at hp;by_cases hc:c=tN
    ·subst hc;simp only[decide_true,cond_true] at hp;obtain⟨e,h1,h2,h3⟩:=FC (k:=p.1) (v:=p.2) Ha hp;have xq:es'.find? (·.born == s)=some e:=by rw[←Array.find?_toList];exact h1
     refine⟨e.key,e.val, ?_,h2,h3⟩;simp [Instr.entry,BK (E:=E) he,gV (E:=E) hem,FD hl,xq]
    ·simp only[hc,decide_false,cond_false] at hp;cases hp
  ·cases hp
 ·cases hp
end
end Go.Am
end
