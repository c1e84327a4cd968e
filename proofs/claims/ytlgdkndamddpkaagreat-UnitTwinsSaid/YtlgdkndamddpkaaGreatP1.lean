/- Part 1 of the texts behind the law UnitTwins: what its row needs (an abstract machine, its equations, and what the program computes). -/
import Derived.Orders
import Derived.LoopN
import Derived.Laws.IdiomCopy
import Derived.ChangeKeysEq
import Derived.Laws.Append
import Derived.Laws.AppendOwn
import Derived.IntWalk
import Derived.Maps.RangeRun
set_option maxRecDepth 100000
set_option linter.unusedSimpArgs false
set_option linter.unusedVariables false
set_option linter.unusedSectionVars false
section
namespace Go.Am
abbrev Oq:=Option (Nat×Nat)
inductive V where
 |bool (b:Bool)
 |int (k:IntKind) (n:Int)
 |dS (s:ByteArray)
 |ak (p:Oq)
 |slice (p:Oq) (len cap:Nat)
 |map (r:Option Nat)
 |func (f:FuncId) (df:List V)
 |oA (f:FuncId) (first:List V)
 |dz (t:TypeId) (id:Nat)
 |nilFunc
 |iface (t:TypeId) (v:V)
 |nilIface
 |agg (cs:List V)
 |tuple (vs:List V)
 |bZ
 deriving Inhabited
namespace V
def none:V:=.tuple []
def av:V→Bool| .bool b=>b|_=>false
def aa:V→Int| .int _ n=>n|_=>0
def Gh:V→ByteArray| .dS s=>s|_=>ByteArray.empty
def ao:V→Oq| .ak p=>p|_=>Option.none
def au:V→Oq| .slice p _ _=>p|_=>Option.none
def ax:V→Nat| .slice _ n _=>n|_=>0
def aC:V→Nat| .slice _ _ c=>c|_=>0
def cA:V→Option Nat| .map r=>r|_=>Option.none
def af:V→List V| .agg cs=>cs|_=>[]
def aj:V→List V| .tuple vs=>vs|_=>[]
def cells:V→List V| .agg cs=>cs|v=>[v]
def isAgg:V→Bool| .agg _=>true|_=>false
def aH (n:Nat):V→Bool| .tuple vs=>vs.length == n|_=>false
def mz:V→Bool| .nilFunc=>true|_=>false
def eX:V→Bool| .nilIface=>true|_=>false
def BQ:V→TypeId| .iface t _=>t|_=>0
def Ly:V→V| .iface _ v=>v|v=>v
def one:V→Bool| .agg _| .tuple _| .bZ=>false|_=>true
end V
def QG:IntKind→Nat
 | .i8=>0| .i16=>1| .i32=>2| .i64=>3| .u8=>4| .u16=>5| .u32=>6| .u64=>7
def oK (a b:IntKind):Bool:=Nat.beq (QG a) (QG b)
@[simp] theorem mA (a b:IntKind):oK a b=decide (a=b):=by cases a<;>cases b<;>decide
def OQ:Bool→Bool→Bool
 |true,b=>b
 |false,b=> !b
theorem OR (w b:Bool):OQ w b=(b == w):=by cases w<;>cases b<;>rfl
inductive bX where
 |bool|int (k:IntKind)|dS|ak|slice|map|func|iface|lF
 deriving DecidableEq,Inhabited
def V.cK:V→bX
 | .bool _=>.bool| .int k _=>.int k| .dS _=>.dS| .ak _=>.ak| .slice .. =>.slice| .map _=>.map
 | .func .. | .oA .. | .nilFunc=>.func| .iface .. | .nilIface=>.iface|_=>.lF
def V.aw:bX→V→Bool
 | .bool,.bool _=>true
 | .int k,.int k' _=>oK k k'
 | .dS,.dS _=>true
 | .ak,.ak _=>true
 | .slice,.slice .. =>true
 | .map,.map _=>true
 | .func,.func .. =>true
 | .func,.oA .. =>true
 | .func,.nilFunc=>true
 | .iface,.iface .. =>true
 | .iface,.nilIface=>true
 |_,_=>false
def V.QH:bX→V→V
 | .bool,v=>.bool v.av
 | .int k,v=>.int k v.aa
 | .dS,v=>.dS v.Gh
 | .ak,v=>.ak v.ao
 | .slice,v=>.slice v.au v.ax v.aC
 | .map,v=>.map v.cA
 |_,v=>v
theorem V.rk {k:bX} {v:V} (h:v.aw k=true):v.QH k=v:=by
 cases k<;>cases v<;>simp_all [V.aw,V.QH,av,aa,Gh,ao,au,ax,aC,cA]
theorem V.rm {k:bX} {v:V} (h:v.aw k=true):v.one=true:=by
 cases k<;>cases v<;>simp_all [V.aw,V.one]
def ae:List V→Nat→V
 |[],_=>.none
 |x::_,0=>x
 |_::l,n+1=>ae l n
def aI:List bX→List V→Bool
 |[],[]=>true
 |k::ks,v::vs=>v.aw k&&aI ks vs
 |_,_=>false
def ny:List bX→List V→Nat→List V
 |[],_,_=>[]
 |k::ks,cs,j=>(ae cs j).QH k::ny ks cs (j+1)
def cS (c:Bool):V→V→V
 | .int k x,.int k' y=>bif oK k k' then .int k (bif c then x else y) else (bif c then .int k x else .int k' y)
 | .bool x,.bool y=>.bool (bif c then x else y)
 | .dS x,.dS y=>.dS (bif c then x else y)
 |a,b=>bif c then a else b
theorem mB (c:Bool) (a b:V):cS c a b=if c then a else b:=by
 unfold cS;split
 ·rename_i k x k' y;by_cases h:k=k'
  ·subst h;cases c<;>simp
  ·cases c<;>simp [h]
 ·cases c<;>rfl
 ·cases c<;>rfl
 ·cases c<;>rfl
def sG (c:Bool):List V→List V→Option (List V)
 |[],[]=>some []
 |x::l,y::m=>match sG c l m with|some r=>some (cS c x y::r)|none=>none
 |_,_=>none
def Gi (c:Bool):V→V→V
 | .agg xs,.agg ys=>match sG c xs ys with|some r=>.agg r|none=>bif c then .agg xs else .agg ys
 |a,b=>cS c a b
theorem rp {c:Bool}:∀{xs ys r:List V},sG c xs ys=some r→r=if c then xs else ys
 |[],[],r,h=>by cases h;cases c<;>rfl
 |x::l,y::m,r,h=>by
  simp only[sG] at h;split at h
  ·rename_i r' h';cases h;rw[mB,rp h'];cases c<;>rfl
  ·cases h
 |[],_::_,_,h=>by cases h
 |_::_,[],_,h=>by cases h
theorem Jz (c:Bool) (a b:V):Gi c a b=if c then a else b:=by
 unfold Gi;split
 ·split
  ·rename_i r h;rw[rp h];cases c<;>rfl
  ·cases c<;>rfl
 ·exact mB c _ _
def xh:List V→Nat→Nat→V→List V
 |[],_,_,_=>[]
 |x::l,j,n,v=>cS (Nat.beq j n) v x::xh l (j+1) n v
def bL:List V→Nat→List V→List V
 |cs,_,[]=>cs
 |cs,off,v::vs=>bL (xh cs 0 off v) (off+1) vs
inductive T where
 |v (x:V)
 |lp (s off:Nat)
 |undef
 deriving Inhabited
inductive aV where
 |cells (e:TypeId) (cs:List V)
 |dz (s:ByteArray) (iV:Nat)
 deriving Inhabited
inductive Obj where
 |cells (e:TypeId) (cs:List V) (ro:Bool)
 |map (es:List (V×V×Nat)) (clock:Nat)
 |dz (m:Option Nat) (bN:Nat) (seen:List Nat) (sH:Nat)
 deriving Inhabited
def rr (k:IntKind):List (V×V×Nat)→Bool
 |[]=>true
 |e::l=>e.1.aw (.int k)&&rr k l
def mC (n:Int):List (V×V×Nat)→Option V
 |[]=>none
 |e::l=>bif decide (e.1.aa=n) then some e.2.1 else mC n l
def DR (n:Int) (v:V):List (V×V×Nat)→List (V×V×Nat)
 |[]=>[]
 |e::l=>bif decide (e.1.aa=n) then (e.1,v,e.2.2)::l else e::DR n v l
def xi (n:Int):List (V×V×Nat)→List (V×V×Nat)
 |[]=>[]
 |e::l=>bif decide (e.1.aa=n) then l else e::xi n l
def Ao (b:Nat):List (V×V×Nat)→Option (V×V)
 |[]=>none
 |e::l=>bif Nat.beq e.2.2 b then some (e.1,e.2.1) else Ao b l
def nA (bN:Nat):List (V×V×Nat)→Bool
 |[]=>true
 |e::l=>Nat.blt e.2.2 bN&&nA bN l
def sI (n:Nat):List Nat→Bool
 |[]=>false
 |x::l=>Nat.beq n x||sI n l
def kz (seen:List Nat):List (V×V×Nat)→List Nat
 |[]=>[]
 |e::l=>bif sI e.2.2 seen then kz seen l else e.2.2::kz seen l
def Ap:List Nat→Option Nat
 |[]=>none
 |[x]=>some x
 |_::l=>Ap l
def Lz:List Nat:=[]
structure ag where
 get:Nat→Option Obj
 next:Nat
namespace ag
def cs (H:ag) (id:Nat):List V:=match H.get id with|some (.cells _ cs _)=>cs|_=>[]
def inb (H:ag) (id off n:Nat):Bool:=match H.get id with|some (.cells _ cs _)=>Nat.ble (off+n) cs.length|_=>false
def wr (H:ag) (id off n:Nat):Bool:=match H.get id with|some (.cells _ cs ro)=> !ro&&Nat.ble (off+n) cs.length|_=>false
def cell (H:ag) (id off:Nat):V:=ae (H.cs id) off
def sub (H:ag) (id off n:Nat):List V:=((H.cs id).drop off).take n
def put (H:ag) (id:Nat) (o:Obj):ag:={H with get:=fun j=>bif Nat.beq j id then some o else H.get j}
def store (H:ag) (id off:Nat) (vs:List V):ag:=
 match H.get id with
 |some (.cells e cs ro)=>H.put id (.cells e (bL cs off vs) ro)
 |_=>H
def alloc (H:ag) (o:Obj):ag:={get:=fun j=>bif Nat.beq j H.next then some o else H.get j,next:=H.next+1}
def ents (H:ag) (id:Nat):List (V×V×Nat):=match H.get id with|some (.map es _)=>es|_=>[]
def isMap (H:ag) (id:Nat):Bool:=match H.get id with|some (.map _ _)=>true|_=>false
def clock (H:ag) (id:Nat):Nat:=match H.get id with|some (.map _ c)=>c|_=>0
end ag
def dR (H:ag) (k:IntKind) (r:Option Nat):Bool:=r.isNone||(H.isMap (r.getD 0)&&rr k (H.ents (r.getD 0)))
def kC (H:ag) (r:Option Nat) (n:Int):Bool:=r.isSome&&(mC n (H.ents (r.getD 0))).isSome
def bT (H:ag) (r:Option Nat) (n:Int) (z:V):V:=bif r.isNone then z else (mC n (H.ents (r.getD 0))).getD z
def xj (H:ag) (r:Option Nat):Nat:=bif r.isNone then 0 else (H.ents (r.getD 0)).length
def gZ (H:ag) (k:IntKind) (id:Nat) (n:Int) (v:V):ag:=
 bif (mC n (H.ents id)).isSome then H.put id (.map (DR n v (H.ents id)) (H.clock id))
 else H.put id (.map (H.ents id++[(.int k n,v,H.clock id)]) (H.clock id+1))
def oL (H:ag) (r:Option Nat) (n:Int):ag:=bif r.isNone then H else H.put (r.getD 0) (.map (xi n (H.ents (r.getD 0))) (H.clock (r.getD 0)))
def mapIter (H:ag) (r:Option Nat):Obj:=bif r.isNone then .dz none 0 [] 0 else .dz r (H.clock (r.getD 0)) [] (H.clock (r.getD 0))
def mapNext (H:ag) (id:Nat) (K1:Prop) (K2:ag→Prop):Prop:=
 match H.get id with
 |some (.dz none _ _ _)=>K1
 |some (.dz (some m) bN seen sH)=>
  match H.get m with
  |some (.map es c)=>
   bif nA bN es&&Nat.ble bN sH then
    (match kz seen es with
    |[]=>K1
    |x::l=>∀b,b∈x::l→K2 (H.put id (.dz (some m) bN (seen++[b]) c)))
   else False
  |_=>False
 |_=>False
def uI (H:ag) (id:Nat):Option (V×V):=
 match H.get id with
 |some (.dz (some m) _ seen sH)=>
  match H.get m,Ap seen with
  |some (.map es c),some b=>bif Nat.beq c sH then Ao b es else none
  |_,_=>none
 |_=>none
def ru (H:ag) (id:Nat):Bool:=(uI H id).isSome
def j4 (H:ag) (id:Nat):V:=((uI H id).getD (.bZ,.bZ)).1
def iw (H:ag) (id:Nat):V:=((uI H id).getD (.bZ,.bZ)).2
structure St where
 tm:Nat→Option T
 lo:Nat→Option aV
 hp:ag
def St.setT (S:St) (d:Nat) (x:T):St:={S with tm:=fun t=>bif Nat.beq t d then some x else S.tm t}
def St.setL (S:St) (s:Nat) (x:aV):St:={S with lo:=fun t=>bif Nat.beq t s then some x else S.lo t}
def ab {α:Type}:List (Nat×α)→Nat→Option α
 |[],_=>none
 |(k,x)::l,n=>bif Nat.beq n k then some x else ab l n
inductive LA where
 |bool|int (k:IntKind)|dS|ak (e:TypeId)|slice (e:TypeId)|map (k e:TypeId)|func|iface
 |arr (n:Nat) (e:TypeId)|struct (fs:List (Nat×TypeId))|tuple (ts:List TypeId)|lF
 deriving DecidableEq,Inhabited
structure TI where
 sh:LA
 size:Nat
 bytes:Nat
 zero:Option V
 deriving Inhabited
def ofValue:Value→Option V
 | .bool b=>some (.bool b)
 | .int k n=>some (.int k n)
 | .string s=>some (.dS s)
 | .pointer none=>some (.ak none)
 | .slice none 0 0=>some (.slice none 0 0)
 | .map none=>some (.map none)
 | .nilFunc=>some .nilFunc
 | .nilIface=>some .nilIface
 |_=>none
def jy:List Value→Option (List V)
 |[]=>some []
 |x::l=>match ofValue x,jy l with
  |some y,some m=>some (y::m)
  |_,_=>none
def kD:Value→Option V
 | .agg cs=>match jy cs.toList with|some l=>some (.agg l)|none=>none
 |v=>ofValue v
def bf:TypeDesc→LA
 | .bool=>.bool
 | .int k=>.int k
 | .string=>.dS
 | .pointer e=>.ak e
 | .slice e=>.slice e
 | .map k e=>.map k e
 | .func .. =>.func
 | .interface _=>.iface
 | .array n e=>.arr n e
 | .struct fs=>.struct (fs.toList.map fun f=>(f.offset,f.type))
 | .tuple ts=>.tuple ts.toList
 |_=>.lF
def OS (P:Program) (t:TypeId):Option TI:=
 match P.info? t,P.underlying t with
 |some i,some d=>some {sh:=bf d,size:=i.size,bytes:=i.bytes,zero:=i.zero.bind kD}
 |_,_=>none
inductive KT where
 |k (k:bX)
 |agg (ks:List bX)
 |lp (s:Nat)
 |undef
 deriving Inhabited
structure jb where
 dv:List Nat:=[]
 uE:List Nat:=[]
 cz:List (Nat×KT):=[]
 gH:List (Nat×TypeId×List bX):=[]
 lZ:List (Nat×KT):=[]
 RM:List (Nat×TypeId×List bX):=[]
 cG:List Nat:=[]
 mg:Bool:=false
 dl:Bool:=false
 wT:List Nat:=[]
 wL:List Nat:=[]
 deriving Inhabited
structure bO where
 bj:List Nat:=[]
 aT:List (Nat×Nat):=[]
 bA:List (Nat×jb):=[]
 aB:List (Nat×jb):=[]
 deriving Inhabited
def bx (n:Nat):List Nat→Bool
 |[]=>false
 |x::l=>Nat.beq n x||bx n l
def kE (g:TypeId→Option (List bX)):List Field→Nat→Option (List bX)
 |[],_=>some []
 |f::l,o=>bif f.name != "_" &&Nat.beq f.offset o then (match g f.type with
  |some ks=>(match kE g l (o+ks.length) with|some r=>some (ks++r)|none=>none)
  |none=>none) else none
def zL:Nat→List bX→List bX
 |0,_=>[]
 |n+1,ks=>ks++zL n ks
def kF (P:Program):Nat→TypeId→Option (List bX)
 |0,_=>none
 |d+1,t=>match P.underlying t with
  |some .bool=>some [.bool]
  |some (.int k)=>some [.int k]
  |some .string=>some [.dS]
  |some (.struct fs)=>bif P.stoodInHeld t then none else match kE (kF P d) fs.toList 0 with
   |some ks=>bif Nat.beq (P.cellsOf t) ks.length then some ks else none
   |none=>none
  |some (.array n e)=>match kF P d e with
   |some ks=>bif Nat.beq (P.cellsOf e) ks.length&&Nat.beq (P.cellsOf t) (n*ks.length) then some (zL n ks) else none
   |none=>none
  |_=>none
def ix:TypeDesc→Bool
 | .struct _=>true
 | .array _ _=>true
 |_=>false
def JA (P:Program) (t:TypeId) (ks:List bX):Bool:=
 !P.eqGuardType P.depth t&&decide (kF P 50 t=some ks)&&(match P.underlying t with|some d=>ix d|none=>false)
structure Y6 where
 run:List V→ag→(V→ag→Prop)→Prop
 mono:∀args H (K K':V→ag→Prop),(∀v H',K v H'→K' v H')→run args H K→run args H K'
 uJ:∀args H (K:V→ag→Prop),run args H K→∃v H',K v H'
structure jR where
 P:Program
 ext:Nat→Option Y6:=fun _=>none
 fn:Nat→Option Func
 fn_ok:∀f x,fn f=some x→P.funcs[f]? =some x
 ti:Nat→Option TI
 ti_ok:∀t x,ti t=some x→OS P t=some x
 ann:Nat→bO
 eqt:List (TypeId×List bX)
 eq_ok:∀t ks,ab eqt t=some ks→JA P t ks=true
 names:P.funcs.toList.all (fun fn=> !(fn.name == "runtime.NumGoroutine"))=true
structure fw (α:Type) where
 rq:Bool
 c:Bool
 x:α
 y:α
def fw.one {α:Type} (rq:Bool) (x:α):fw α:=⟨rq,true,x,x⟩
abbrev Ev:=Operand→Option T
def cH (tm:Nat→Option T):Operand→Option T
 | .tmp t=>tm t
 | .const v=>match ofValue v with|some x=>some (.v x)|none=>none
 | .func f=>some (.v (.func f []))
 | .global _=>none
def iN (ev:Ev) (x:Operand):Option V:=match ev x with|some (.v y)=>some y|_=>none
def rv (ev:Ev):List Operand→Option (List V)
 |[]=>some []
 |x::l=>match iN ev x,rv ev l with
  |some y,some m=>some (y::m)
  |_,_=>none
def cC:LA→Option bX
 | .bool=>some .bool
 | .int k=>some (.int k)
 | .dS=>some .dS
 | .ak _=>some .ak
 | .slice _=>some .slice
 | .map .. =>some .map
 | .func=>some .func
 | .iface=>some .iface
 |_=>none
section aE
variable (E:jR)
def size (t:TypeId):Option Nat:=match E.ti t with|some i=>some i.size|none=>none
def aZ (t:TypeId):Option bX:=
 match E.ti t with
 |some i=>cC i.sh
 |none=>none
def nB (t:TypeId):Option (List bX):=
 match E.ti t with
 |some i=>match i.sh,i.zero with
  | .arr ..,some (.agg z)=>some (z.map V.cK)
  | .struct _,some (.agg z)=>some (z.map V.cK)
  |_,_=>none
 |none=>none
def sJ (t:TypeId) (v:V):Option (Bool×V):=
 match aZ E t with
 |some k=>some (v.aw k,v.QH k)
 |none=>match nB E t with
  |some ks=>some (v.isAgg&&aI ks v.af,.agg (ny ks v.af 0))
  |none=>none
def sK:List TypeId→V→Nat→Option (Bool×List V)
 |[],_,_=>some (true,[])
 |t::ts,v,j=>match sJ E t (ae v.aj j),sK ts v (j+1) with
  |some (b,x),some (c,l)=>some (b&&c,x::l)
  |_,_=>none
def sL (t:TypeId) (v:V):Option (Bool×V):=
 match E.ti t with
 |some i=>match i.sh with
  | .tuple []=>some (true,v)
  | .tuple ts=>match sK E ts v 0 with
    |some (b,l)=>some (v.aH ts.length&&b,.tuple l)
    |none=>none
  |_=>sJ E t v
 |none=>none
def j5 (y:Int) (n:Nat):Nat:=min y.toNat n
def uK (op:BinOp) (k:IntKind) (x y:Int):Option (Bool×V):=
 match op with
 | .add=>some (true,.int k (k.wrap (x+y)))
 | .sub=>some (true,.int k (k.wrap (x-y)))
 | .mul=>some (true,.int k (k.wrap (x*y)))
 | .quo=>some (!(y == 0),.int k (k.wrap (x.tdiv y)))
 | .rem=>some (!(y == 0),.int k (x.tmod y))
 | .and=>some (true,.int k (k.wrap (BitVec.ofInt k.bits x &&& BitVec.ofInt k.bits y).toNat))
 | .or=>some (true,.int k (k.wrap (BitVec.ofInt k.bits x ||| BitVec.ofInt k.bits y).toNat))
 | .xor=>some (true,.int k (k.wrap (BitVec.ofInt k.bits x ^^^ BitVec.ofInt k.bits y).toNat))
 | .andNot=>some (true,.int k (k.wrap (BitVec.ofInt k.bits x &&& ~~~ BitVec.ofInt k.bits y).toNat))
 | .eql=>some (true,.bool (x == y))
 | .neq=>some (true,.bool (x != y))
 | .lss=>some (true,.bool (decide (x<y)))
 | .leq=>some (true,.bool (decide (x≤y)))
 | .gtr=>some (true,.bool (decide (x>y)))
 | .geq=>some (true,.bool (decide (x≥y)))
 | .shl=>some (decide (0≤y),.int k (k.wrap (x*2 ^ (j5 y k.bits))))
 | .shr=>some (decide (0≤y),.int k (x.fdiv (2 ^ (j5 y k.bits))))
def mD (x y:ByteArray):Bool:=x.toList == y.toList
def Vg (x y:ByteArray):ByteArray:=x++y
def LB (x y:ByteArray):Bool:=Nat.ble (x.size+y.size) 9223372036854775807
def Gj (op:BinOp) (x y:ByteArray):Option (Bool×V):=
 match op with
 | .add=>some (LB x y,.dS (Vg x y))
 | .eql=>some (true,.bool (mD x y))
 | .neq=>some (true,.bool (!(mD x y)))
 | .lss=>some (true,.bool (Op.bytesLess x.toList y.toList))
 | .leq=>some (true,.bool (Op.bytesLess x.toList y.toList||x.toList == y.toList))
 | .gtr=>some (true,.bool (!(Op.bytesLess x.toList y.toList||x.toList == y.toList)))
 | .geq=>some (true,.bool (!Op.bytesLess x.toList y.toList))
 |_=>none
def dN:List V→List V→Option Bool
 |[],[]=>some true
 | .int k x::l,.int k' y::m=>bif oK k k' then (match dN l m with|some b=>some (x == y&&b)|none=>none) else none
 | .bool x::l,.bool y::m=>match dN l m with|some b=>some (x == y&&b)|none=>none
 | .dS x::l,.dS y::m=>match dN l m with|some b=>some (x == y&&b)|none=>none
 |_,_=>none
def dZ (xs ys:List V):Bool:=match dN xs ys with|some b=>b|none=>false
def gL (t:TypeId) (v:V):Option (Bool×List V):=
 match size E t with
 |none=>none
 |some n=>match aZ E t with
  |some k=>bif Nat.beq n 1 then some (v.aw k,[v]) else none
  |none=>match nB E t with
   |some _=>match v with
    | .agg cs=>some (Nat.beq cs.length n,cs)
    |_=>none
   |none=>none
def ry:Operand→Bool
 | .const .nilIface=>true
 |_=>false
def iy (t:TypeId) (nils:Bool):V→V→Option (Bool×Bool)
 | .bool x,.bool y=>match aZ E t with|some .bool=>some (true,x == y)|_=>none
 | .ak p,.ak none=>match aZ E t with|some .ak=>some (true,p.isNone)|_=>none
 | .ak none,.ak p=>match aZ E t with|some .ak=>some (true,p.isNone)|_=>none
 | .slice p _ _,.slice none _ _=>match aZ E t with|some .slice=>some (true,p.isNone)|_=>none
 | .slice none _ _,.slice p _ _=>match aZ E t with|some .slice=>some (true,p.isNone)|_=>none
 | .map p,.map none=>match aZ E t with|some .map=>some (true,p.isNone)|_=>none
 | .map none,.map p=>match aZ E t with|some .map=>some (true,p.isNone)|_=>none
 | .agg xs,.agg ys=>match ab E.eqt t,dN xs ys with|some ks,some _=>some (aI ks xs&&aI ks ys,dZ xs ys)|_,_=>none
 |v,.nilFunc=>match aZ E t with|some .func=>some (v.aw .func,v.mz)|_=>none
 | .nilFunc,v=>match aZ E t with|some .func=>some (v.aw .func,v.mz)|_=>none
 |v,.nilIface=>bif nils then (match aZ E t with|some .iface=>some (v.aw .iface,v.eX)|_=>none) else none
 |_,_=>none
def BR (op:BinOp) (t:TypeId) (nils:Bool):V→V→Option (Bool×V)
 | .int k x,.int k' y=>
   match op with
   | .shl| .shr=>uK op k x y
   |_=>bif oK k k' then uK op k x y else none
 | .dS x,.dS y=>Gj op x y
 |x,y=>match op with
  | .eql=>match iy E t nils x y with|some (r,b)=>some (r,.bool b)|none=>none
  | .neq=>match iy E t nils x y with|some (r,b)=>some (r,.bool (!b))|none=>none
  |_=>none
def HL (t:TypeId) (v:V):Option (Bool×Bool):=match aZ E t with|some .iface=>some (v.aw .iface,v.eX)|_=>none
def BS (t:TypeId) (v:V):Option (Bool×Bool):=match aZ E t with|some .func=>some (v.aw .func,v.mz)|_=>none
def RN (op:BinOp) (t:TypeId) (nils:Bool) (a b:V):Option (Bool×V):=
 match b with
 | .nilIface=>match nils with
   |true=>match op with
    | .eql=>match HL E t a with|some (r,b)=>some (r,.bool b)|none=>none
    | .neq=>match HL E t a with|some (r,b)=>some (r,.bool (!b))|none=>none
    |_=>none
   |false=>BR E op t false a .nilIface
 | .nilFunc=>match op with
   | .eql=>match BS E t a with|some (r,b)=>some (r,.bool b)|none=>none
   | .neq=>match BS E t a with|some (r,b)=>some (r,.bool (!b))|none=>none
   |_=>none
 |b=>BR E op t nils a b
def ZK:UnOp→V→Option V
 | .not,.bool b=>some (.bool (!b))
 | .neg,.int k n=>some (.int k (k.wrap (0-n)))
 | .xor,.int k n=>some (.int k (k.wrap (BitVec.ofInt k.bits (bif k.signed then-1 else k.max) ^^^ BitVec.ofInt k.bits n).toNat))
 |_,_=>none
def l6 (t:TypeId) (cs:List V) (off:Nat):Option (Bool×V):=
 match aZ E t with
 |some k=>some (Nat.blt off cs.length&&(ae cs off).aw k,(ae cs off).QH k)
 |none=>match nB E t,size E t with
  |some _,some n=>some (Nat.ble (off+n) cs.length,.agg ((cs.drop off).take n))
  |_,_=>none
def Gk (s:ByteArray) (i:Nat):Int:=((s.data.toList.getD i 0).toNat:Int)
def sM (t:TypeId) (f:Nat):Option (Nat×TypeId):=
 match E.ti t with
 |some i=>match i.sh with
  | .struct fs=>fs[f]?
  |_=>none
 |none=>none
def rz:Nat→Bool
 |0=>false
 |_=>true
def qM (x:Operand) (ev:Ev):Option Int:=match iN ev x with|some (.int _ i)=>some i|_=>none
def l7 (ev:Ev) (x:Option Operand) (dflt most:Nat):Option (Bool×Nat):=
 match x with
 |none=>some (true,dflt)
 |some y=>match qM y ev with
  |some i=>some (decide (0≤i)&&decide (i≤(most:Int)),i.toNat)
  |none=>none
def ga (ev:Ev) (len cap:Nat) (lo hi mx:Option Operand):Option (Bool×Nat×Nat×Nat):=
 bif hi.isNone&&mx.isSome then none else
 match l7 ev mx cap cap with
 |some m=>match l7 ev hi len m.2 with
  |some h=>match l7 ev lo 0 h.2 with
   |some l=>some (m.1&&h.1&&l.1,l.2,h.2,m.2)
   |none=>none
  |none=>none
 |none=>none
def bH (p:Oq) (n:Nat):Oq:=match p with|some (id,off)=>some (id,off+n)|none=>none
def wO (mx:Bool):List V→Option V
 |[.int k x]=>some (.int k x)
 |[.int k x,.int k' y]=>bif oK k k' then some (.int k (bif mx then (bif decide (y>x) then y else x) else (bif decide (y<x) then y else x))) else none
 |_=>none
def DS (b:Builtin) (args:List V) (t:TypeId):Option (fw T):=
 match b,args with
 | .len,[.dS s]=>match aZ E t with|some .dS=>some (.one true (.v (.int .i64 (s.size:Int))))|_=>none
 | .len,[.slice _ n _]=>match aZ E t with|some .slice=>some (.one true (.v (.int .i64 (n:Int))))|_=>none
 | .cap,[.slice _ _ c]=>match aZ E t with|some .slice=>some (.one true (.v (.int .i64 (c:Int))))|_=>none
 | .min,vs=>match wO false vs with|some v=>some (.one true (.v v))|none=>none
 | .max,vs=>match wO true vs with|some v=>some (.one true (.v v))|none=>none
 |_,_=>none
def Aq (x:Option (Bool×V)):Option (fw T):=match x with|some (r,v)=>some (.one r (.v v))|none=>none
def p6 (place:Nat→Option (Nat×TypeId)) (cells:List V):List (Nat×V)→Option (Bool×List V)
 |[]=>some (true,cells)
 |(i,v)::rest=>
  match place i with
  |none=>none
  |some (off,t)=>
   match gL E t v,size E t with
   |some (r,vs),some n=>bif Nat.beq vs.length n&&Nat.ble (off+n) cells.length then
    (match p6 place (bL cells off vs) rest with
    |some (r',cs)=>some (r&&r',cs)
    |none=>none) else none
   |_,_=>none
def j6 (ev:Ev):List (Nat×Operand)→Option (List (Nat×V))
 |[]=>some []
 |(i,x)::l=>match iN ev x,j6 ev l with
  |some y,some m=>some ((i,y)::m)
  |_,_=>none
def sN:List (Nat×TypeId)→Bool
 |[]=>true
 |(_,t)::l=>(size E t).isSome&&sN l
def DT (t:TypeId):Option (Nat→Option (Nat×TypeId)):=
 match E.ti t with
 |some i=>match i.sh with
  | .struct fs=>bif sN E fs then some fun j=>fs[j]? else none
  | .arr _ e=>match size E e with|some n=>some fun j=>some (j*n,e)|none=>none
  |_=>none
 |none=>none
def aU (o:Op) (ev:Ev):Option (fw T):=
 match o with
 | .move x| .assign x=>match ev x with|some y=>some (.one true y)|none=>none
 | .pick c a b=>
   match ev c with
   |some (.v (.bool t))=>
    match ev a,ev b with
    |some (.v (.bool x)),some (.v (.bool y))=>some (.one true (.v (.bool (bif t then x else y))))
    |a',b'=>match t with
     |true=>(match a' with|some y=>some (.one true y)|none=>none)
     |false=>(match b' with|some y=>some (.one true y)|none=>none)
   |_=>none
 | .binOp op t x y _=>match iN ev x,iN ev y with|some a,some b=>Aq (RN E op t (ry y) a b)|_,_=>none
 | .unOp op _ x=>match iN ev x with|some a=>(match ZK op a with|some v=>some (.one true (.v v))|none=>none)|none=>none
 | .convert s d x=>
   match E.ti s,aZ E d,iN ev x with
   |some _,some (.int k),some (.int _ n)=>some (.one true (.v (.int k (k.wrap n))))
   |some _,some .dS,some (.dS s)=>some (.one true (.v (.dS s)))
   |some _,some .dS,some (.int _ n)=>some (.one true (.v (.dS (Utf8.encode n))))
   |_,_,_=>none
 | .nilCheck x=>
   match ev x with
   |some (.v (.ak p))=>some (.one p.isSome (.v (.ak (some ((p.getD (0,0)).1,(p.getD (0,0)).2)))))
   |some (.lp s off)=>some (.one true (.lp s off))
   |_=>none
 | .fieldAddr t x f=>
   match sM E t f with
   |some (o,ft)=>match size E ft with
    |some n=>bif rz n then (match ev x with
     |some (.v (.ak (some (id,off))))=>some (.one true (.v (.ak (some (id,off+o)))))
     |some (.lp s off)=>some (.one true (.lp s (off+o)))
     |_=>none) else none
    |none=>none
   |none=>none
 | .field t x f=>
   match sM E t f,iN ev x with
   |some (o,ft),some (.agg cs)=>Aq (l6 E ft cs o)
   |_,_=>none
 | .indexAddr t x i=>
   match qM i ev,E.ti t with
   |some n,some ti=>match ti.sh with
    | .arr len e=>match size E e,ev x with
      |some sz,some (.v (.ak (some (id,off))))=>some (.one (decide (0≤n)&&decide (n<(len:Int))) (.v (.ak (some (id,off+n.toNat*sz)))))
      |some sz,some (.lp s off)=>some (.one (decide (0≤n)&&decide (n<(len:Int))) (.lp s (off+n.toNat*sz)))
      |_,_=>none
    | .slice e=>match size E e,ev x with
      |some sz,some (.v (.slice p len _))=>some (.one (decide (0≤n)&&decide (n<(len:Int))&&p.isSome) (.v (.ak (some ((p.getD (0,0)).1,(p.getD (0,0)).2+n.toNat*sz)))))
      |_,_=>none
    |_=>none
   |_,_=>none
 | .index t x i=>
   match qM i ev,E.ti t,iN ev x with
   |some n,some ti,some v=>match ti.sh,v with
    | .arr len e,.agg cs=>match size E e with
      |some sz=>match l6 E e cs (n.toNat*sz) with
       |some (r,y)=>some (.one (decide (0≤n)&&decide (n<(len:Int))&&r) (.v y))
       |none=>none
      |none=>none
    | .dS,.dS s=>some (.one (decide (0≤n)&&decide (n<(s.size:Int))) (.v (.int .u8 (Gk s n.toNat))))
    |_,_=>none
   |_,_,_=>none
 | .slice t x lo hi mx=>
   match E.ti t,ev x with
   |some ti,some (.v (.dS s))=>
    match ti.sh,mx with
    | .dS,none=>match ga ev s.size s.size lo hi none with
      |some (r,l,h,_)=>some (.one r (.v (.dS (s.extract l h))))
      |none=>none
    |_,_=>none
   |some ti,some (.v (.slice p len cap))=>
    match ti.sh with
    | .slice e=>match ga ev len cap lo hi mx,size E e with
      |some (r,l,h,m),some sz=>some (.one (r&&Nat.ble h m) (.v (.slice (bH p (l*sz)) (h-l) (m-l))))
      |_,_=>none
    |_=>none
   |some ti,some (.v (.ak (some (id,off))))=>
    match ti.sh with
    | .arr n e=>match ga ev n n lo hi mx,size E e with
      |some (r,l,h,m),some sz=>some (.one (r&&Nat.ble h m) (.v (.slice (some (id,off+l*sz)) (h-l) (m-l))))
      |_,_=>none
    |_=>none
   |_,_=>none
 | .makeInterface t x=>
   match aZ E t,iN ev x with
   |some .iface,_=>none
   |_,some v=>match E.ti t with|some _=>some (.one true (.v (.iface t v)))|none=>none
   |_,_=>none
 | .makeFunc (.func f) first df=>
   match first.toList,df.toList with
   |[],_=>match rv ev df.toList with
    |some cs=>some (.one true (.v (.func f cs)))
    |none=>none
   |x::l,[]=>match rv ev (x::l) with
    |some cs=>some (.one true (.v (.oA f cs)))
    |none=>none
   |_,_=>none
 | .extract x i=>
   match iN ev x with
   |some (.tuple vs)=>match vs[i]? with|some v=>some (.one true (.v v))|none=>none
   |_=>none
 | .build t parts=>
   match E.ti t,DT E t,j6 ev parts.toList with
   |some ti,some pl,some ps=>match ti.zero with
    |some (.agg z)=>match p6 E pl z ps with|some (r,cs)=>some (.one r (.v (.agg cs)))|none=>none
    |_=>none
   |_,_,_=>none
 | .typeAssert x _ d ok=>
   match iN ev x,E.ti d with
   |some v,some ti=>match ti.sh with
    | .iface=>none
    |_=>match sJ E d v.Ly,ti.zero with
     |some (r,y),some z=>
      let t:Bool:= !v.eX&&Nat.beq v.BQ d
      match ok with
      |true=>
       some ⟨v.aw .iface&&(!t||r),t,.v (.tuple [y,.bool true]),.v (.tuple [z,.bool false])⟩
      |false=>some (.one (v.aw .iface&&t&&r) (.v y))
     |_,_=>none
   |_,_=>none
 | .call c=>
   match c.callee with
   | .builtin b=>match rv ev c.args.toList,c.argTypes.toList[0]? with|some vs,some t=>DS E b vs t|_,_=>none
   |_=>none
 |_=>none
def gz (o:Op) (ev:Ev) (s:Nat) (L:Option aV):Option (fw T):=
 match o with
 | .load t a=>
   match ev a,L with
   |some (.lp s' off),some (.cells _ cs)=>bif Nat.beq s s' then Aq (l6 E t cs off) else none
   |_,_=>none
 |_=>none
def kG (e:TypeId) (cs:List V):Bool×List V:=
 match nB E e with
 |some ks=>(aI ks cs,ny ks cs 0)
 |none=>(true,cs)
def dI (o:Op) (ev:Ev) (s:Nat) (L:Option aV):Option (fw (aV×T)):=
 match o with
 | .store t a x=>
   match ev a,iN ev x,L with
   |some (.lp s' off),some v,some (.cells e cs)=>
    match gL E t v with
    |some (r,vs)=>bif Nat.beq s s' then
     some (.one (r&&Nat.ble (off+vs.length) cs.length&&(kG E e (bL cs off vs)).1) (.cells e (kG E e (bL cs off vs)).2,.undef)) else none
    |none=>none
   |_,_,_=>none
 | .next it true=>
   match ev it,L with
   |some (.lp s' 0),some (.dz dS iV)=>
    bif Nat.beq s s' then
     some ⟨true,Nat.blt iV dS.size,(.dz dS (iV+(Utf8.decode dS iV).2),.v (.tuple [.bool true,.int .i64 (iV:Int),.int .i32 ((Utf8.decode dS iV).1:Int)])),
      (.dz dS iV,.v (.tuple [.bool false]))⟩
    else none
   |_,_=>none
 |_=>none
def iz (o:Op) (ev:Ev):Option (Bool×aV):=
 match o with
 | .alloc t=>match E.ti t with
   |some i=>match i.zero with|some z=>some (true,.cells t z.cells)|none=>none
   |none=>none
 | .box t x=>match iN ev x with
   |some v=>match gL E t v with|some (r,vs)=>some (r,.cells t vs)|none=>none
   |none=>none
 | .range t x=>match aZ E t,iN ev x with
   |some .dS,some (.dS s)=>some (true,.dz s 0)
   |_,_=>none
 |_=>none
end aE
def br (c:Bool) (X Y:Prop):Prop:=match c with|true=>X|false=>Y
def ah (c:Bool) (X:Prop):Prop:=match c with|true=>X|false=>False
def pb (p:Oq):Nat:=(p.getD (0,0)).1
def po (p:Oq):Nat:=(p.getD (0,0)).2
theorem BT (a b:Nat):pb (some (a,b))=a:=rfl
theorem BU (a b:Nat):po (some (a,b))=b:=rfl
theorem og (p:Oq):pb p=(p.getD (0,0)).1:=rfl
theorem oh (p:Oq):po p=(p.getD (0,0)).2:=rfl
def nm {α:Type} (a:α) (K:α→Prop):Prop:=K a
theorem oM {α:Type} (a:α) (K:α→Prop):nm a K=K a:=rfl
def cI {α:Type} (A:(α→Prop)→Prop) (Q:α→Prop):Prop:=A Q
structure lG where
 call:FuncId→List V→ag→(V→ag→Prop)→Prop
 loop:Code→FuncId→Nat→St→(St→Prop)→(Nat→St→Prop)→Prop
inductive Ex where
 |normal|exit (id:Nat)|ret
def fw.run {α:Type} (d:fw α) (K:α→Prop):Prop:=ah d.rq (br d.c (K d.x) (K d.y))
inductive Cls where
 |pure|oi (s:Nat)|iA (s:Nat)|sO|jZ|cW|sP
def BV (ann:bO):Operand→Option Nat
 | .tmp t=>ab ann.aT t
 |_=>none
def DU (ann:bO):List Operand→Bool
 |[]=>false
 |x::l=>(BV ann x).isSome||DU ann l
def Gl (E:jR) (ann:bO) (o:Oper):Cls:=
 match o.op with
 | .makeFunc _ _ df=>bif DU ann df.toList then .sP else .pure
 | .alloc _=>match o.dst with|some d=>bif bx d ann.bj then .sO else .cW|none=>.cW
 | .box _ _=>match o.dst with|some d=>bif bx d ann.bj then .sO else .cW|none=>.cW
 | .range _ _=>match o.dst with|some d=>bif bx d ann.bj then .sO else .cW|none=>.cW
 | .load _ a=>match BV ann a with|some s=>.oi s|none=>.jZ
 | .store _ a _=>match BV ann a with|some s=>.iA s|none=>.cW
 | .next it true=>match BV ann it with|some s=>.iA s|none=>.cW
 | .next _ false=>.cW
 | .makeMap .. =>.cW
 | .makeSlice .. =>.cW
 | .buildSlice .. =>.cW
 | .mapUpdate .. =>.cW
 | .insert .. =>.cW
 | .mapEntry .. =>.cW
 | .entryStore .. =>.cW
 | .lookup .. =>.jZ
 | .entry _=>.jZ
 | .convert s d _=>match aZ E s,aZ E d with
   |some .slice,some .slice=>.cW
   |some .slice,_=>.jZ
   |_,some .slice=>.cW
   |_,_=>.pure
 | .call c=>match c.callee with
   | .builtin .len=>match c.argTypes.toList[0]? with
     |some t=>match aZ E t with|some .map=>.jZ|_=>.pure
     |none=>.pure
   | .builtin .cap=>.pure
   | .builtin .min=>.pure
   | .builtin .max=>.pure
   |_=>.cW
 |_=>.pure
section
variable (E:jR)
def cX:List V→ByteArray→ByteArray
 |[],acc=>acc
 |v::l,acc=>cX l (acc.push (UInt8.ofNat v.aa.toNat))
def Gn (k:bX):List V→Bool
 |[]=>true
 |v::l=>v.aw k&&Gn k l
def eG (H:ag) (p:Oq) (len:Nat):Bool:=
 p.isNone||Nat.beq len 0||(H.inb (p.getD (0,0)).1 (p.getD (0,0)).2 len&&Gn (.int .u8) (H.sub (p.getD (0,0)).1 (p.getD (0,0)).2 len))
def eH (H:ag) (p:Oq) (len:Nat):ByteArray:=
 bif p.isNone||Nat.beq len 0 then ByteArray.empty else cX (H.sub (p.getD (0,0)).1 (p.getD (0,0)).2 len) ByteArray.empty
def db (o:Op) (ev:Ev) (H:ag):Option (fw T):=
 match o with
 | .load t a=>
   match ev a with
   |some (.v (.ak (some (id,off))))=>
    match aZ E t with
    |some k=>some (.one (H.inb id off 1&&(H.cell id off).aw k) (.v ((H.cell id off).QH k)))
    |none=>match nB E t,size E t with
     |some ks,some n=>some (.one (H.inb id off n&&aI ks (H.sub id off n)) (.v (.agg (ny ks (H.sub id off n) 0))))
     |_,_=>none
   |_=>none
 | .convert s d x=>
   match E.ti s,aZ E d,iN ev x with
   |some ti,some .dS,some (.slice p len _)=>
    match ti.sh with
    | .slice e=>match aZ E e with
      |some (.int .u8)=>
       some (.one (eG H p len) (.v (.dS (eH H p len))))
      |_=>none
    |_=>none
   |_,_,_=>none
 | .lookup t x i commaOk=>
   match E.ti t,iN ev x,iN ev i with
   |some ti,some (.map r),some (.int k n)=>match ti.sh with
    | .map kt et=>match aZ E kt,E.ti et with
      |some (.int k'),some ei=>match ei.zero with
       |some z=>match sJ E et (bT H r n z) with
        |some (b,y)=>match commaOk with
         |true=>some (.one (oK k k'&&(dR H k r&&b)) (.v (.tuple [y,.bool (kC H r n)])))
         |false=>some (.one (oK k k'&&(dR H k r&&b)) (.v y))
        |none=>none
       |none=>none
      |_,_=>none
    |_=>none
   |_,_,_=>none
 | .entry it=>
   match ev it with
   |some (.v (.dz t id))=>match E.ti t with
    |some ti=>match ti.sh with
     | .map kt et=>match sJ E kt (j4 H id),sJ E et (iw H id) with
       |some (a,x),some (b,y)=>some (.one (ru H id&&(a&&b)) (.v (.tuple [x,y])))
       |_,_=>none
     |_=>none
    |none=>none
   |_=>none
 | .call c=>
   match c.callee,c.argTypes.toList,rv ev c.args.toList with
   | .builtin .len,t::_,some [.map r]=>match aZ E t with
     |some .map=>some (.one (r.isNone||H.isMap (r.getD 0)) (.v (.int .i64 (xj H r))))
     |_=>none
   |_,_,_=>none
 |_=>none
def gM:Nat→List V→List V
 |0,_=>[]
 |n+1,l=>l++gM n l
def uL:List V→Bool
 |[]=>true
 |v::l=>v.one&&uL l
def xk (a b:List V):List V:=a++b
def ew (n:Nat) (z:List V):List V:=gM n z
def eI (s:ByteArray):List V:=s.data.toList.map fun b=>.int .u8 b.toNat
def oN (H:ag) (n:Nat) (p:Oq) (m:Nat):Bool:=
 Nat.beq m 0||(p.isSome&&(H.inb (p.getD (0,0)).1 (p.getD (0,0)).2 (m*n)&&uL (H.sub (p.getD (0,0)).1 (p.getD (0,0)).2 (m*n))))
def kH (H:ag) (n:Nat):V→Option (Nat×(Nat→Bool)×(Nat→List V))
 | .slice p len _=>some (len,fun m=>oN H n p m,fun m=>bif Nat.beq m 0 then [] else H.sub (p.getD (0,0)).1 (p.getD (0,0)).2 (m*n))
 | .dS s=>some (s.size,fun _=>Nat.beq n 1,fun m=>(eI s).take m)
 |_=>none
def OT (lo hi:Nat) (K:Nat→Prop):Prop:=∀c,lo≤c→c≤hi→K c
def jc:Option bX→Bool
 |some .slice=>true
 |some .dS=>true
 |_=>false
def fA (t:TypeId):Option (TypeId×Nat×Nat×List V):=
 match E.ti t with
 |some ti=>match ti.sh with
  | .slice el=>match E.ti el with
    |some ei=>match ei.zero with
     |some z=>bif Nat.beq z.cells.length ei.size&&rz ei.size then some (el,ei.size,ei.bytes,z.cells) else none
     |none=>none
    |none=>none
  |_=>none
 |none=>none
def l8 (H:ag) (n cB:Nat) (z:List V) (k:Option bX) (x:V):Option (Bool×Nat×(Nat→Bool)×(Nat→List V)):=
 match k with
 |some (.int .i64)=>match x with
  | .int .i64 m=>some (decide (0≤m)&&decide (m*(cB+1)≤70368744177664),m.toNat,fun _=>true,fun j=>ew j z)
  |_=>none
 |k=>match jc k with
  |true=>(match kH H n x with|some (m,ok,cs)=>some (true,m,ok,cs)|none=>none)
  |false=>none
def aQ (ts:List TypeId) (args:List V) (H:ag) (K:Oq→Nat→Nat→ag→Prop):Prop:=
 match ts,args with
 |[t,u],[.slice p l cp,x]=>
  match fA E t with
  |some (el,n,cB,z)=>match l8 H n cB z (aZ E u) x with
   |some (r,m,ok,cs)=>ah r
    (br (Nat.ble (l+m) cp)
     (ah (Nat.beq m 0||(p.isSome&&(ok m&&H.wr (p.getD (0,0)).1 ((p.getD (0,0)).2+l*n) (m*n))))
      (K p (l+m) cp (bif Nat.beq m 0 then H else H.store (p.getD (0,0)).1 ((p.getD (0,0)).2+l*n) (cs m))))
     (ah (oN H n p l&&(ok m&&Nat.ble ((l+m)*(cB+1)) 70368744177664))
      (OT (l+m) 9223372036854775807 fun c=>K (some (H.next,0)) (l+m) c
       (H.alloc (.cells el (xk (bif Nat.beq l 0 then [] else H.sub (p.getD (0,0)).1 (p.getD (0,0)).2 (l*n)) (xk (cs m) (ew (c-(l+m)) z))) false)))))
   |none=>False
  |none=>False
 |_,_=>False
def jS (H:ag) (n:Nat) (p:Oq) (l:Nat) (x:V):Bool:=match kH H n x with
 |some (m,ok,cs)=>Nat.beq (Nat.min m l) 0||(p.isSome&&(ok (Nat.min m l)&&H.wr (p.getD (0,0)).1 (p.getD (0,0)).2 (Nat.min m l*n)))
 |none=>false
def jT (H:ag) (n:Nat) (p:Oq) (l:Nat) (x:V):ag:=match kH H n x with
 |some (m,ok,cs)=>bif Nat.beq (Nat.min m l) 0 then H else H.store (p.getD (0,0)).1 (p.getD (0,0)).2 (cs (Nat.min m l))
 |none=>H
def iB (g:FuncId) (args:List V) (H:ag) (K:V→ag→Prop):Prop:=
 match E.ext g with
 |some x=>x.run args H K
 |none=>False
def kI (R:lG) (fv:V) (args:List V) (H:ag) (K:V→ag→Prop):Prop:=
 match fv with
 | .func g cap=>match (E.ext g).isSome with
   |true=>iB E g (args++cap) H K
   |false=>R.call g (args++cap) H K
 | .oA g first=>match (E.ext g).isSome with
   |true=>iB E g (first++args) H K
   |false=>R.call g (first++args) H K
 |_=>False
def bP (o:Op) (ev:Ev) (H:ag):Option (Bool×T×ag):=
 match o with
 | .buildSlice t len parts=>
   match E.ti t,j6 ev parts.toList with
   |some ti,some ps=>match ti.sh with
    | .slice el=>match size E el,E.ti el with
      |some n,some ei=>match ei.zero with
       |some z=>bif Nat.beq z.cells.length n&&rz n&&Nat.ble (len*n) 16777216 then
        (match p6 E (fun j=>some (j*n,el)) (gM len z.cells) ps with
        |some (r,cs)=>some (r,.v (.slice (some (H.next,0)) len len),H.alloc (.cells el cs false))
        |none=>none) else none
       |none=>none
      |_,_=>none
    |_=>none
   |_,_=>none
 | .makeSlice t len cap=>
   match fA E t,iN ev len,iN ev cap with
   |some (el,_,cB,z),some (.int _ l),some (.int _ c)=>
    some (decide (0≤l)&&(decide (l≤c)&&decide (c*(cB+1)≤70368744177664)),.v (.slice (some (H.next,0)) l.toNat c.toNat),H.alloc (.cells el (ew c.toNat z) false))
   |_,_,_=>none
 | .convert s d x=>
   match aZ E s,iN ev x,E.ti d with
   |some .slice,some (.slice p len cap),some ti=>match ti.sh with
    | .slice e=>match aZ E e with
      |some (.int .u8)=>some (Nat.beq s d&&(p.isSome&&(!Nat.beq cap 0&&H.wr (p.getD (0,0)).1 0 0)),.v (.slice p len cap),H)
      |_=>none
    |_=>none
   |_,_,_=>none
 | .call c=>
   match c.callee,c.argTypes.toList,rv ev c.args.toList with
   | .builtin .copy,t::_,some [.slice p l _,x]=>
     match fA E t with
     |some (_,n,_,_)=>match kH H n x with
      |some (m,_,_)=>some (jS H n p l x,.v (.int .i64 (Nat.min m l)),jT H n p l x)
      |none=>none
     |none=>none
   | .builtin .delete,t::_,some [.map r,.int k n]=>
     match E.ti t with
     |some ti=>match ti.sh with
      | .map kt _=>match aZ E kt with
        |some (.int k')=>some (oK k k'&&dR H k r,.v (.tuple []),oL H r n)
        |_=>none
      |_=>none
     |none=>none
   | .builtin .clear,t::_,some [.slice p l _]=>
     match fA E t with
     |some (_,n,_,z)=>
      some (p.isNone||Nat.beq l 0||H.wr (p.getD (0,0)).1 (p.getD (0,0)).2 (l*n),.v (.tuple []),
       bif p.isNone||Nat.beq l 0 then H else H.store (p.getD (0,0)).1 (p.getD (0,0)).2 (ew l z))
     |none=>none
   |_,_,_=>none
 | .makeMap t none=>match aZ E t with
   |some .map=>some (true,.v (.map (some H.next)),H.alloc (.map [] 0))
   |_=>none
 | .range t x=>
   match E.ti t,iN ev x with
   |some ti,some (.map r)=>match ti.sh with
    | .map _ _=>some (r.isNone||H.isMap (r.getD 0),.v (.dz t H.next),H.alloc (mapIter H r))
    |_=>none
   |_,_=>none
 |_=>none
def bF (R:lG) (o:Op) (rt:TypeId) (ev:Ev) (H:ag) (K:T→ag→Prop):Prop:=
 match o with
 | .alloc t=>match E.ti t with
   |some i=>match i.zero with|some z=>K (.v (.ak (some (H.next,0)))) (H.alloc (.cells t z.cells false))|none=>False
   |none=>False
 | .box t x=>match iN ev x with
   |some v=>match gL E t v with
    |some (r,vs)=>ah r (K (.v (.ak (some (H.next,0)))) (H.alloc (.cells t vs false)))
    |none=>False
   |none=>False
 | .store t a x=>
   match ev a,iN ev x with
   |some (.v (.ak (some (id,off)))),some v=>
    match gL E t v with
    |some (r,vs)=>ah (r&&H.wr id off vs.length) (K .undef (H.store id off vs))
    |none=>False
   |_,_=>False
 | .mapUpdate t m x v=>
   match E.ti t,iN ev m,iN ev x,iN ev v with
   |some ti,some (.map r),some (.int k n),some v=>match ti.sh with
    | .map kt et=>match aZ E kt,sJ E et v with
      |some (.int k'),some (b,_)=>ah (oK k k'&&(r.isSome&&(dR H k r&&b))) (K .undef (gZ H k (r.getD 0) n v))
      |_,_=>False
    |_=>False
   |_,_,_,_=>False
 | .call c=>
   match c.callee,rv ev c.args.toList with
   | .value f,some args=>
     match iN ev f with
     |some fv=>kI E R fv args H fun v H'=>match sL E rt v with|some (b,v')=>ah b (K (.v v') H')|none=>False
     |none=>False
   | .builtin .append,some args=>aQ E c.argTypes.toList args H fun q n c H'=>K (.v (.slice q n c)) H'
   |_,_=>match bP E (.call c) ev H with
    |some (r,x,H')=>ah r (K x H')
    |none=>False
 | .convert s d x=>
   match aZ E s,iN ev x,E.ti d with
   |some .dS,some (.dS b),some ti=>match ti.sh with
    | .slice el=>match aZ E el with
      |some (.int .u8)=>ah (Nat.ble b.size 70368744177664) (OT b.size 9223372036854775807 fun c=>
       K (.v (.slice (some (H.next,0)) b.size c)) (H.alloc (.cells el (xk (eI b) (ew (c-b.size) [.int .u8 0])) false)))
      |_=>False
    |_=>False
   |_,_,_=>match bP E (.convert s d x) ev H with
    |some (r,x,H')=>ah r (K x H')
    |none=>False
 | .next it false=>
   match ev it with
   |some (.v (.dz _ id))=>mapNext H id (K (.v (.tuple [.bool false])) H) fun H'=>K (.v (.tuple [.bool true,.bZ,.bZ])) H'
   |_=>False
 |o=>match bP E o ev H with
  |some (r,x,H')=>ah r (K x H')
  |none=>False
def fJ (aE:List Oper) (tm:Nat→Option T) (j:Nat):Option T:=
 match aE[j]? with
 |some o=>match o.dst with|some d=>tm d|none=>none
 |none=>none
def rD (ann:bO) (d:Nat) (S:St):St:=
 {S with tm:=fun t=>match ab ann.aT t with|some s=>bif Nat.beq s d then none else S.tm t|none=>S.tm t}
def jd (ann:bO) (N:Nat) (dst:Option Tmp) (x:T) (S:St) (K:St→Prop):Prop:=
 match dst with
 |none=>K S
 |some d=>ah (Nat.blt d N) (match x with
  | .lp s _=>(match ab ann.aT d with|some s'=>bif Nat.beq s s' then K (S.setT d x) else False|none=>False)
  |_=>K (S.setT d x))
def oO (ann:bO) (s:Nat) (e:TypeId) (cs:List V) (S:St):St:=
 {rD ann s S with lo:=fun t=>bif Nat.beq t s then none else S.lo t,hp:=S.hp.alloc (.cells e cs false)}
def p7 (ann:bO):List Operand→St→Option (List V×St)
 |[],S=>some ([],S)
 |x::l,S=>match cH S.tm x with
  |some (.v v)=>match p7 ann l S with|some (vs,S')=>some (v::vs,S')|none=>none
  |some (.lp s 0)=>match S.lo s with
   |some (.cells e cs)=>match p7 ann l (oO ann s e cs S) with|some (vs,S')=>some (.ak (some (S.hp.next,0))::vs,S')|none=>none
   |_=>none
  |_=>none
def HM (ann:bO) (N:Nat) (o:Oper) (S:St) (K:St→Prop):Prop:=
 match o.op with
 | .makeFunc (.func f) first df=>match first.toList,p7 ann df.toList S with
   |[],some (vs,S')=>jd ann N o.dst (.v (.func f vs)) S' K
   |_,_=>False
 |_=>False
def iW (R:lG) (ann:bO) (N:Nat) (o:Oper) (S:St) (K:St→Prop):Prop:=
 match Gl E ann o with
 | .pure=>match aU E o.op (cH S.tm) with|some d=>d.run fun x=>jd ann N o.dst x S K|none=>False
 | .oi s=>match gz E o.op (cH S.tm) s (S.lo s) with|some d=>d.run fun x=>jd ann N o.dst x S K|none=>False
 | .iA s=>match dI E o.op (cH S.tm) s (S.lo s) with|some d=>d.run fun x=>jd ann N o.dst x.2 (S.setL s x.1) K|none=>False
 | .sO=>match o.dst,iz E o.op (cH S.tm) with
   |some d,some (r,L)=>ah r (jd ann N (some d) (.lp d 0) ((rD ann d S).setL d L) K)
   |_,_=>False
 | .jZ=>match db E o.op (cH S.tm) S.hp with|some d=>d.run fun x=>jd ann N o.dst x S K|none=>False
 | .cW=>bF E R o.op o.type (cH S.tm) S.hp fun x H'=>jd ann N o.dst x {S with hp:=H'} K
 | .sP=>HM ann N o S K
def eh (R:lG) (ann:bO) (N:Nat) (aE:List Oper) (o:Oper) (S:St) (K:St→Prop):Prop:=
 match o.guard with
 |none=>iW E R ann N o S K
 |some (j,want)=>
  match fJ aE S.tm j with
  |some (.v (.bool b))=>br (b == want) (iW E R ann N o S K) (jd ann N o.dst .undef S K)
  |some .undef=>jd ann N o.dst .undef S K
  |_=>False
def kJ (R:lG) (ann:bO) (N:Nat) (aE:List Oper):List Oper→St→(St→Prop)→Prop
 |[],S,K=>K S
 |o::l,S,K=>eh E R ann N aE o S fun S'=>kJ R ann N aE l S' K
def BW (aE:List Oper) (j:Nat):Option Nat:=
 match aE[j]? with
 |some o=>o.dst
 |none=>none
def sQ (R:lG) (ann:bO) (N:Nat) (aE:List Oper) (o:Oper) (S:St) (K:St→Prop):Prop:=
 match o.guard with
 |none=>iW E R ann N o S K
 |some (j,want)=>
  match BW aE j with
  |none=>False
  |some s=>
   match S.tm s with
   |some (.v (.bool b))=>br (OQ want b) (iW E R ann N o (S.setT s (.v (.bool want))) K) (jd ann N o.dst .undef (S.setT s (.v (.bool (!want)))) K)
   |some .undef=>jd ann N o.dst .undef S K
   |_=>False
def rE (R:lG) (ann:bO) (N:Nat) (aE:List Oper):List Oper→St→(St→Prop)→Prop
 |[],S,K=>K S
 |o::l,S,K=>sQ E R ann N aE o S fun S'=>rE R ann N aE l S' K
def dH:Code→Nat
 | .seq a b=>dH a+dH b
 | .cond _ a b=>1+dH a+dH b
 | .block _ b=>dH b
 | .scope b=>dH b
 | .loop b=>1+dH b
 | .region .. =>1
 |_=>0
def DV (tm:Nat→Option T):List Nat→Option (List (Nat×T))
 |[]=>some []
 |t::l=>match tm t,DV tm l with
  |some x,some m=>some ((t,x)::m)
  |_,_=>none
def DW (lo:Nat→Option aV):List Nat→Option (List (Nat×aV))
 |[]=>some []
 |t::l=>match lo t,DW lo l with
  |some x,some m=>some ((t,x)::m)
  |_,_=>none
def kK (ts ls:List Nat) (S:St) (K:St→Prop):Prop:=
 match DV S.tm ts,DW S.lo ls with
 |some a,some b=>K ⟨ab a,ab b,S.hp⟩
 |_,_=>False
inductive fl (α:Type) where
 |leaf (a:α)
 |br (c:Bool) (x y:fl α)
 |ah (c:Bool) (x:fl α)
 |aM
def fl.run {α:Type} (K:α→Prop):fl α→Prop
 | .leaf a=>K a
 | .br c x y=>Am.br c (x.run K) (y.run K)
 | .ah c x=>Am.ah c (x.run K)
 | .aM=>False
def fl.bind {α β:Type}:fl α→(α→fl β)→fl β
 | .leaf a,k=>k a
 | .br c x y,k=>.br c (x.bind k) (y.bind k)
 | .ah c x,k=>.ah c (x.bind k)
 | .aM,_=>.aM
structure MS where
 U:List (Nat×T)
 W:List (Nat×aV)
 kn:List Nat
def oB (S:St) (U:List (Nat×T)) (t:Nat):Option T:=match ab U t with|some x=>some x|none=>S.tm t
def xl (S:St) (W:List (Nat×aV)) (t:Nat):Option aV:=match ab W t with|some x=>some x|none=>S.lo t
def MS.st (S:St) (M:MS):St:=⟨oB S M.U,xl S M.W,S.hp⟩
def BX (ann:bO) (N:Nat) (dst:Option Tmp) (x:T) (M:MS):fl MS:=
 match dst with
 |none=>.leaf M
 |some d=>.ah (Nat.blt d N) (match x with
  | .lp s _=>(match ab ann.aT d with|some s'=>bif Nat.beq s s' then .leaf {M with U:=(d,x)::M.U} else .aM|none=>.aM)
  |_=>.leaf {M with U:=(d,x)::M.U})
def DX (ann:bO) (N:Nat) (o:Oper) (S:St) (M:MS):fl MS:=
 match Gl E ann o with
 | .pure=>match aU E o.op (cH (oB S M.U)) with|some d=>.ah (d.rq&&d.c) (BX ann N o.dst d.x M)|none=>.aM
 | .oi s=>match gz E o.op (cH (oB S M.U)) s (xl S M.W s) with|some d=>.ah (d.rq&&d.c) (BX ann N o.dst d.x M)|none=>.aM
 | .iA s=>match dI E o.op (cH (oB S M.U)) s (xl S M.W s) with|some d=>.ah (d.rq&&d.c) (BX ann N o.dst d.x.2 {M with W:=(s,d.x.1)::M.W})|none=>.aM
 | .jZ=>match db E o.op (cH (oB S M.U)) S.hp with|some d=>.ah (d.rq&&d.c) (BX ann N o.dst d.x M)|none=>.aM
 |_=>.aM
def LC (ann:bO) (N:Nat) (aE:List Oper) (o:Oper) (S:St) (M:MS):fl MS:=
 match o.guard with
 |none=>DX E ann N o S M
 |some (j,want)=>
  match BW aE j with
  |none=>.aM
  |some s=>
   match oB S M.U s with
   |some (.v (.bool b))=>
    match bx s M.kn with
    |true=>match OQ want b with
     |true=>DX E ann N o S M
     |false=>BX ann N o.dst .undef M
    |false=>.br (OQ want b) (DX E ann N o S {M with U:=(s,.v (.bool want))::M.U,kn:=s::M.kn})
     (BX ann N o.dst .undef {M with U:=(s,.v (.bool (!want)))::M.U,kn:=s::M.kn})
   |some .undef=>BX ann N o.dst .undef M
   |_=>.aM
def BZ (ann:bO) (N:Nat) (aE:List Oper):List Oper→St→MS→fl MS
 |[],_,M=>.leaf M
 |o::l,S,M=>(LC E ann N aE o S M).bind (BZ ann N aE l S)
def aR (c r1 r2:Bool):Bool:=match r1,r2 with
 |true,true=>true
 |r1,r2=>bif c then r1 else r2
def B0 (c:Bool):T→T→Option T
 | .v x,.v y=>some (.v (Gi c x y))
 | .lp s o,.lp s' o'=>bif Nat.beq s s'&&Nat.beq o o' then some (.lp s o) else none
 | .undef,.undef=>some .undef
 |_,_=>none
def B1 (c:Bool):aV→aV→Option aV
 | .cells e cs,.cells e' cs'=>bif Nat.beq e e' then (match sG c cs cs' with|some r=>some (.cells e r)|none=>none) else none
 |_,_=>none
def nC {α:Type} (g:Nat→Option α) (f:α→α→Option α) (A B:List (Nat×α)):List Nat→Option (List (Nat×α))
 |[]=>some []
 |t::l=>match nC g f A B l with
  |none=>none
  |some r=>match ab A t,ab B t with
   |none,none=>some r
   |some a,some b=>match f a b with|some m=>some ((t,m)::r)|none=>none
   |some a,none=>match g t with|some b=>(match f a b with|some m=>some ((t,m)::r)|none=>none)|none=>none
   |none,some b=>match g t with|some a=>(match f a b with|some m=>some ((t,m)::r)|none=>none)|none=>none
def nD {α:Type} (a b:List Nat):List (Nat×α)→Bool
 |[]=>true
 |(t,_)::l=>(bx t a||bx t b)&&nD a b l
def oj (S:St) (ts ls dT dL:List Nat):fl MS→Option (Bool×List (Nat×T)×List (Nat×aV))
 | .leaf M=>bif nD ts dT M.U&&nD ls dL M.W then some (true,M.U,M.W) else none
 | .ah c x=>match oj S ts ls dT dL x with|some (r,U,W)=>some (c&&r,U,W)|none=>none
 | .br c x y=>match oj S ts ls dT dL x,oj S ts ls dT dL y with
   |some (r1,U1,W1),some (r2,U2,W2)=>
    match nC S.tm (B0 c) U1 U2 ts,nC S.lo (B1 c) W1 W2 ls with
    |some U,some W=>some (aR c r1 r2,U,W)
    |_,_=>none
   |_,_=>none
 | .aM=>none
def qH (dT dL:List Nat) (S:St):St:=
 ⟨fun t=>bif bx t dT then none else S.tm t,fun s=>bif bx s dL then none else S.lo s,S.hp⟩
def oP (ts ls dT dL:List Nat) (tr:fl MS) (S:St) (K:St→Prop):Prop:=
 match oj S ts ls dT dL tr with
 |some (r,U,W)=>ah r (K (qH dT dL ⟨oB S U,xl S W,S.hp⟩))
 |none=>False
def jU (R:lG) (ann:bO) (N:Nat) (ts ls dT dL:List Nat) (aE:List Oper):List Oper→St→(St→Prop)→Prop
 |[],S,K=>K (qH dT dL S)
 |o::l,S,K=>match o.guard with
  |none=>sQ E R ann N aE o S fun S'=>jU R ann N ts ls dT dL aE l S' K
  |some _=>oP ts ls dT dL (BZ E ann N aE (o::l) S ⟨[],[],[]⟩) S K
def T.val:Option T→V
 |some (.v x)=>x
 |_=>.none
def aG:KT→Option T→Bool
 | .k k,some (.v x)=>x.aw k
 | .agg ks,some (.v x)=>x.isAgg&&aI ks x.af
 | .lp s,some (.lp s' 0)=>Nat.beq s s'
 | .undef,some .undef=>true
 |_,_=>false
def OU:KT→Option T→T
 | .k k,x=>.v ((T.val x).QH k)
 | .agg ks,x=>.v (.agg (ny ks (T.val x).af 0))
 | .lp s,_=>.lp s 0
 | .undef,_=>.undef
def ar:Option aV→List V
 |some (.cells _ cs)=>cs
 |_=>[]
def ef (e:TypeId) (ks:List bX):Option aV→Bool
 |some (.cells e' cs)=>Nat.beq e e'&&aI ks cs
 |_=>false
def kL (S:St):List (Nat×KT)→Bool×List (Nat×T)
 |[]=>(true,[])
 |(t,k)::l=>(aG k (S.tm t)&&(kL S l).1,(t,OU k (S.tm t))::(kL S l).2)
def kM (S:St):List (Nat×TypeId×List bX)→Bool×List (Nat×aV)
 |[]=>(true,[])
 |(s,e,ks)::l=>(ef e ks (S.lo s)&&(kM S l).1,(s,.cells e (ny ks (ar (S.lo s)) 0))::(kM S l).2)
def As (ts:List (Nat×KT)) (ls:List (Nat×TypeId×List bX)) (S:St) (K:St→Prop):Prop:=
 ah ((kL S ts).1&&(kM S ls).1) (K ⟨ab (kL S ts).2,ab (kM S ls).2,S.hp⟩)
def rF (ann:bO) (n:Nat):Option jb:=ab ann.bA n
def oQ {α β:Type}:List (α×β)→List α
 |[]=>[]
 |(a,_)::l=>a::oQ l
def uN (kp:jb) (K:Ex→St→Prop):List Nat→Nat→St→Prop
 |[],_,_=>False
 |j::l,id,S=>br (Nat.beq id j) (As kp.cz kp.gH S (K (.exit j))) (uN kp K l id S)
def nE:List Operand→List Nat
 |[]=>[]
 | .tmp t::l=>t::nE l
 |_::l=>nE l
structure jz where
 rt:List Nat
 wt:List Nat
 rl:List Nat
 wl:List Nat
 rh:Bool
 wh:Bool
 no:Bool
def j7 (d:Nat):List (Nat×Nat)→List Nat
 |[]=>[]
 |(t,s)::l=>bif Nat.beq s d then t::j7 d l else j7 d l
def xm (aE:List Oper) (o:Oper):List Nat:=
 match o.guard with
 |some (j,_)=>(match aE[j]? with|some q=>q.dst.toList|none=>[])
 |none=>[]
def Vh (aE:List Oper) (o:Oper):List Nat:=nE o.op.operands.toList++xm aE o
def B2 (ann:bO) (o:Oper):List Nat:=match o.dst with|some d=>j7 d ann.aT|none=>[]
def ma:Cls→List Nat→List Nat→List Nat→jz
 | .pure,rt,wt,_=>⟨rt,wt,[],[],false,false,false⟩
 | .oi s,rt,wt,_=>⟨rt,wt,[s],[],false,false,false⟩
 | .iA s,rt,wt,_=>⟨rt,wt,[s],[s],false,false,false⟩
 | .sO,rt,wt,ex=>⟨rt,wt++ex,[],wt,false,false,false⟩
 | .jZ,rt,wt,_=>⟨rt,wt,[],[],true,false,false⟩
 | .cW,rt,wt,_=>⟨rt,wt,[],[],true,true,false⟩
 | .sP,rt,wt,_=>⟨rt,wt,[],[],true,true,true⟩
def cM (ann:bO) (aE:List Oper) (o:Oper):jz:=ma (Gl E ann o) (Vh aE o) o.dst.toList (B2 ann o)
def iX:List Nat→List Nat→Bool
 |[],_=>false
 |x::l,m=>bx x m||iX l m
def gb (a b:jz):Bool:=
 !iX a.wt b.rt&& !iX a.wt b.wt&& !iX b.wt a.rt&& !iX a.wl b.rl&& !iX a.wl b.wl&& !iX b.wl a.rl
  && !(a.wh&&b.rh)&& !(b.wh&&a.rh)&&(!a.no&& !b.no)
def p8 (acc:List (List Nat)):List Edge→List Nat
 |[]=>[]
 |e::l=>bif Region.binds .any e then e.on::(acc[e.on]?.getD []++p8 acc l) else p8 acc l
def iC:List Oper→List (List Nat)→List (List Nat)
 |[],acc=>acc
 |o::l,acc=>iC l (acc++[p8 acc o.after.toList])
def B3 (i:Nat):List Edge→Bool
 |[]=>true
 |e::l=>(!Region.binds .any e||Nat.blt e.on i)&&B3 i l
def nF:List Oper→Nat→Bool
 |[],_=>true
 |o::l,i=>B3 i o.after.toList&&nF l (i+1)
def sR (fs:List jz) (bs:List (List Nat)) (i:Nat) (f:jz):Nat→Bool
 |0=>true
 |j+1=>(match fs[j]?,bs[i]? with|some g,some b=>bx j b||gb f g|_,_=>false)&&sR fs bs i f j
def p9 (fs:List jz) (bs:List (List Nat)):List jz→Nat→Bool
 |[],_=>true
 |f::l,i=>sR fs bs i f i&&p9 fs bs l (i+1)
def xn (ann:bO) (aE:List Oper):Bool:=
 let fs:=aE.map (cM E ann aE)
 nF aE 0&&p9 fs (iC aE []) fs 0
inductive qN where
 |nil|aM
 |one (i:Nat) (r:qN)
 |LD (a b:qN)
 deriving Inhabited
def je (n:Nat):List Nat→List Nat
 |[]=>[]
 |x::l=>bif Nat.beq n x then je n l else x::je n l
def mE (bs:List (List Nat)) (i:Nat):List Nat:=bs[i]?.getD []
def gf (bs:List (List Nat)) (rem:List Nat) (i:Nat):Bool:= !iX (mE bs i) rem
def dC (fs:List jz) (bs:List (List Nat)) (i:Nat) (f:jz):List Nat→Bool
 |[]=>true
 |j::l=>(Nat.beq i j||bx i (mE bs j)||(match fs[j]? with|some g=>gb g f&&gb f g|none=>false))&&dC fs bs i f l
def nG (fs:List jz) (bs:List (List Nat)) (rem:List Nat):List Nat→Option Nat
 |[]=>none
 |i::l=>match gf bs rem i,fs[i]? with
  |true,some f=>bif dC fs bs i f rem then some i else nG fs bs rem l
  |_,_=>nG fs bs rem l
def OV (f:Nat→qN):List Nat→qN
 |[]=>.aM
 |[i]=>.one i (f i)
 |i::l=>.LD (.one i (f i)) (OV f l)
def qa (bs:List (List Nat)) (rem:List Nat):List Nat→List Nat
 |[]=>[]
 |i::l=>bif gf bs rem i then i::qa bs rem l else qa bs rem l
def At (fs:List jz) (bs:List (List Nat)):Nat→List Nat→qN
 |_,[]=>.nil
 |0,_=>.aM
 |n+1,rem=>match nG fs bs rem rem with
  |some i=>.one i (At fs bs n (je i rem))
  |none=>OV (fun i=>At fs bs n (je i rem)) (qa bs rem rem)
def g8 (step:Nat→St→(St→Prop)→Prop):qN→St→(St→Prop)→Prop
 | .nil,S,K=>K S
 | .aM,_,_=>False
 | .one i r,S,K=>step i S fun S'=>g8 step r S' K
 | .LD a b,S,K=>g8 step a S K∧g8 step b S K
def vF (kp:Option jb) (A:(Ex→St→Prop)→Prop) (K:Ex→St→Prop):Prop:=
 match kp with
 |none=>A K
 |some kp=>cI (fun Q=>A fun e S=>match e with| .normal=>kK (oQ kp.cz) (oQ kp.gH) S Q|e=>K e S) fun S=>As kp.cz kp.gH S (K .normal)
def over {α:Type} (l:List (Nat×α)) (dr:List Nat) (g:Nat→Option α):Nat→Option α:=
 fun t=>match ab l t with|some x=>some x|none=>bif bx t dr then none else g t
def DY (kp:jb) (S0:St) (A:(Ex→St→Prop)→Prop) (K:Ex→St→Prop):Prop:=
 cI (fun Q=>A fun e S=>match e with| .normal=>kK (oQ kp.cz) (oQ kp.gH) S Q|e=>K e S)
  fun S=>ah ((kL S kp.cz).1&&(kM S kp.gH).1) (K .normal ⟨over (kL S kp.cz).2 kp.wT S0.tm,over (kM S kp.gH).2 kp.wL S0.lo,S.hp⟩)
def jf:List Nat→List Nat→Bool
 |[],_=>true
 |x::l,m=>bx x m&&jf l m
def JB (ann:bO) (wT wL:List Nat) (o:Oper):Bool:=
 jf o.dst.toList wT&&jf (B2 ann o) wT&&(match Gl E ann o with
  | .iA s=>bx s wL
  | .sO=>jf o.dst.toList wL
  | .sP=>false
  |_=>true)
def jg (ann:bO) (wT wL:List Nat):List Oper→Bool
 |[]=>true
 |o::l=>JB E ann wT wL o&&jg ann wT wL l
def RO (wT wL:List Nat) (kp:jb):Bool:=jf kp.wT wT&&jf kp.wL wL&&jf (oQ kp.cz) wT&&jf (oQ kp.gH) wL
def LF (wT wL:List Nat):Option jb→Bool
 |none=>true
 |some kp=>kp.dl&&RO wT wL kp
def B4 (ann:bO) (wT wL:List Nat):Code→Nat→Bool
 | .skip,_=>true
 | .seq a b,n=>B4 ann wT wL a n&&B4 ann wT wL b (n+dH a)
 | .cond _ x y,n=>LF wT wL (rF ann n)&&(B4 ann wT wL x (n+1)&&B4 ann wT wL y (n+1+dH x))
 | .block id b,n=>LF wT wL (ab ann.aB id)&&B4 ann wT wL b n
 | .scope b,n=>B4 ann wT wL b n
 | .label _,_=>true
 | .exit _,_=>true
 | .ret,_=>true
 | .region _ aE _,n=>jg E ann wT wL aE.toList&&(match rF ann n with
   |none=>true
   |some kp=>match kp.mg with
    |true=>jf kp.dv wT&&jf kp.uE wL&&jf kp.wT wT&&jf kp.wL wL
    |false=>kp.dl&&RO wT wL kp)
 |_,_=>false
def lH (ok:jb→Bool) (kp:Option jb) (S0:St) (A:(Ex→St→Prop)→Prop) (K:Ex→St→Prop):Prop:=
 match kp with
 |none=>A K
 |some kp=>match kp.dl with
  |true=>ah (ok kp) (DY kp S0 A K)
  |false=>vF (some kp) A K
def fB (R:lG) (ann:bO) (N:Nat) (aE:List Oper) (i:Nat) (S:St) (K:St→Prop):Prop:=
 match aE[i]? with
 |some o=>sQ E R ann N aE o S K
 |none=>False
def gA (R:lG) (ann:bO) (N:Nat) (aE:List Oper) (draw:Bool) (S:St) (K:St→Prop):Prop:=
 match !draw||xn E ann aE with
 |true=>rE E R ann N aE aE S K
 |false=>ah (nF aE 0) (g8 (fB E R ann N aE) (At (aE.map (cM E ann aE)) (iC aE []) aE.length (List.range aE.length)) S K)
def fV (R:lG) (f:FuncId) (ann:bO) (N:Nat):Code→Nat→St→(Ex→St→Prop)→Prop
 | .skip,_,S,K=>K .normal S
 | .seq a b,n,S,K=>fV R f ann N a n S fun e S'=>match e with| .normal=>fV R f ann N b (n+dH a) S' K|e=>K e S'
 | .cond c x y,n,S,K=>
   match cH S.tm c with
   |some (.v (.bool t))=>lH (fun kp=>B4 E ann kp.wT kp.wL x (n+1)&&B4 E ann kp.wT kp.wL y (n+1+dH x)) (rF ann n) S
    (fun K=>br t (fV R f ann N x (n+1) S K) (fV R f ann N y (n+1+dH x) S K)) K
   |_=>False
 | .block id b,n,S,K=>lH (fun kp=>B4 E ann kp.wT kp.wL b n) (ab ann.aB id) S (fun K=>fV R f ann N b n S fun e S'=>match e with
   | .exit j=>br (Nat.beq j id) (K .normal S') (K (.exit j) S')
   |e=>K e S') K
 | .exit id,_,S,K=>K (.exit id) S
 | .ret,_,S,K=>K .ret S
 | .region _ aE draw,n,S,K=>
   match rF ann n with
   |none=>gA E R ann N aE.toList draw S (K .normal)
   |some kp=>match kp.mg with
    |true=>ah (!draw||xn E ann aE.toList) (jU E R ann N kp.dv kp.uE kp.wT kp.wL aE.toList aE.toList S (K .normal))
    |false=>lH (fun kp=>jg E ann kp.wT kp.wL aE.toList) (some kp) S (fun K=>gA E R ann N aE.toList draw S (K .normal)) K
 | .loop c,n,S,K=>
   match rF ann n with
   |some kp=>kK kp.dv kp.uE S fun S0=>R.loop c f n S0 (fun S'=>As kp.lZ kp.RM S' (K .ret)) (uN kp K kp.cG)
   |none=>False
 | .scope b,n,S,K=>fV R f ann N b n S K
 | .label _,_,S,K=>K .normal S
 |_,_,_,_=>False
def lI (S:St):ResultVar→(V→Prop)→Prop
 | .tmp t,K=>match S.tm t with|some (.v x)=>K x|_=>False
 | .cell a t,K=>match S.tm a with
   |some (.lp s off)=>match S.lo s with
    |some (.cells _ cs)=>match l6 E t cs off with|some (r,v)=>ah r (K v)|none=>False
    |_=>False
   |_=>match db E (.load t (.tmp a)) (cH S.tm) S.hp with
    |some d=>d.run fun x=>match x with| .v v=>K v|_=>False
    |none=>False
def mF (S:St):List ResultVar→(List V→Prop)→Prop
 |[],K=>K []
 |r::l,K=>lI E S r fun v=>mF S l fun vs=>K (v::vs)
def JC (fn:Func) (K:V→ag→Prop) (S:St):Prop:=
 mF E S fn.results.toList fun vs=>match vs with|[v]=>K v S.hp|vs=>K (.tuple vs) S.hp
def DZ:List V→Nat→Nat→Option T
 |[],_,_=>none
 |v::l,j,t=>bif Nat.beq t j then some (.v v) else DZ l (j+1) t
def F (R:lG):lG where
 call f args H K:=
  match E.fn f with
  |some fn=>match fn.body with
   |some c=>ah (Nat.ble args.length fn.ntmps)
    (fV E R f (E.ann f) fn.ntmps c 0 ⟨DZ args 0,fun _=>none,H⟩ fun e S=>match e with| .exit _=>False|_=>JC E fn K S)
   |none=>False
  |none=>False
 loop c f n S Kr Ke:=
  match E.fn f,rF (E.ann f) n with
  |some fn,some kp=>fV E R f (E.ann f) fn.ntmps c (n+1) S fun e S'=>match e with
   | .normal=>kK kp.dv kp.uE S' fun S0=>R.loop c f n S0 Kr Ke
   | .exit id=>kK (oQ kp.cz) (oQ kp.gH) S' (Ke id)
   | .ret=>kK (oQ kp.lZ) (oQ kp.RM) S' Kr
  |_,_=>False
structure lG.le (A B:lG):Prop where
 call:∀f args H K K',(∀v H',K v H'→K' v H')→A.call f args H K→B.call f args H K'
 loop:∀c f n S Kr Og Ke Oh,(∀S',Kr S'→Og S')→(∀id S',Ke id S'→Oh id S')→A.loop c f n S Kr Ke→B.loop c f n S Og Oh
def qO:lG where
 call f args H K:=∀R:lG,R.le R→(F E R).le R→R.call f args H K
 loop c f n S Kr Ke:=∀R:lG,R.le R→(F E R).le R→R.loop c f n S Kr Ke
end
theorem eJ {c:Bool} {X X' Y Y':Prop} (hx:X→X') (hy:Y→Y') (h:br c X Y):br c X' Y':=by
 cases c
 ·exact hy h
 ·exact hx h
theorem bJ {c:Bool} {X X':Prop} (hx:X→X') (h:ah c X):ah c X':=by
 cases c
 ·exact h
 ·exact hx h
theorem aL {c:Bool} {X:Prop} (h:ah c X):c=true∧X:=by
 cases c
 ·exact h.elim
 ·exact⟨rfl,h⟩
theorem gg {c:Bool} {X Y:Prop} (h:br c X Y):(c=true∧X)∨(c=false∧Y):=by
 cases c
 ·exact .inr ⟨rfl,h⟩
 ·exact .inl ⟨rfl,h⟩
theorem fw.cn {α:Type} {d:fw α} {K K':α→Prop} (h:∀x,K x→K' x) (hd:d.run K):d.run K':=
 bJ (eJ (h _) (h _)) hd
theorem fw.eK {α:Type} {d:fw α} {K:α→Prop} (h:d.run K):d.rq=true∧K (if d.c then d.x else d.y):=by
 obtain⟨h1,h2⟩:=aL h;refine⟨h1, ?_⟩;rcases gg h2 with⟨hc,h⟩|⟨hc,h⟩<;>simpa [hc] using h
section
variable {E:jR} {A B:lG} {ann:bO} {N:Nat} {f:FuncId}
theorem eC {dst:Option Tmp} {x:T} {S:St} {K K':St→Prop} (h:∀S,K S→K' S) (hp:jd ann N dst x S K):jd ann N dst x S K':=by
 cases dst with
 |none=>exact h _ hp
 |some d=>
  refine bJ ?_ hp
  cases x with
  |v y=>exact h _
  |undef=>exact h _
  |lp s off=>
   simp only[]
   cases ab ann.aT d with
   |none=>exact id
   |some s'=>cases hs:Nat.beq s s'<;>simp [hs];exact h _
theorem Au {lo hi:Nat} {K K':Nat→Prop} (h:∀c,K c→K' c) (ha:OT lo hi K):OT lo hi K':=fun c h1 h2=>h _ (ha c h1 h2)
theorem zM {ts:List TypeId} {args:List V} {H:ag} {K K':Oq→Nat→Nat→ag→Prop} (h:∀q n c H',K q n c H'→K' q n c H') (ho:aQ E ts args H K):aQ E ts args H K':=by
 unfold aQ at ho⊢;split at ho
 ·split at ho
  ·split at ho
   ·exact bJ (eJ (bJ (h _ _ _ _)) (bJ (Au fun c=>h _ _ _ _))) ho
   ·exact ho
  ·exact ho
 ·exact ho
theorem sS {g:FuncId} {args:List V} {H:ag} {K K':V→ag→Prop} (h:∀v H',K v H'→K' v H') (ho:iB E g args H K):iB E g args H K':=by
 unfold iB at ho⊢;split at ho
 ·rename_i x _;exact x.mono _ _ _ _ h ho
 ·exact ho
theorem Gp (hR:A.le B) {fv:V} {args:List V} {H:ag} {K K':V→ag→Prop} (h:∀v H',K v H'→K' v H') (ho:kI E A fv args H K):kI E B fv args H K':=by
 unfold kI at ho⊢;split at ho
 ·split at ho
  ·exact sS h ho
  ·exact hR.call _ _ _ _ _ h ho
 ·split at ho
  ·exact sS h ho
  ·exact hR.call _ _ _ _ _ h ho
 ·exact ho
theorem B5 {H:ag} {id:Nat} {K1 K1':Prop} {K2 K2':ag→Prop} (h1:K1→K1') (h2:∀H',K2 H'→K2' H') (ho:mapNext H id K1 K2):mapNext H id K1' K2':=by
 unfold mapNext at ho⊢;split at ho
 ·exact h1 ho
 ·split at ho
  ·rename_i es c _;revert ho;cases nA _ es&&Nat.ble _ _
   ·exact fun ho=>ho
   ·simp only[cond_true];split
    ·exact h1
    ·exact fun ho b hb=>h2 _ (ho b hb)
  ·exact ho
 ·exact ho
theorem B6 {rt:TypeId} {K K':T→ag→Prop} (h:∀x H',K x H'→K' x H') (v:V) (H':ag) (hv:match sL E rt v with|some (b,v')=>ah b (K (.v v') H')|none=>False):match sL E rt v with|some (b,v')=>ah b (K' (.v v') H')|none=>False:=by
 revert hv;split
 ·exact bJ (h _ _)
 ·exact id
theorem jv (hR:A.le B) {o:Op} {rt:TypeId} {ev:Ev} {H:ag} {K K':T→ag→Prop} (h:∀x H',K x H'→K' x H') (ho:bF E A o rt ev H K):bF E B o rt ev H K':=by
 have simple:∀o':Op,(match bP E o' ev H with|some (r,x,H')=>ah r (K x H')|none=>False)→
  (match bP E o' ev H with|some (r,x,H')=>ah r (K' x H')|none=>False):=by
  intro o' ho;revert ho;split
  ·exact bJ (h _ _)
  ·exact id
 unfold bF at ho⊢;split at ho
 ·split at ho
  ·split at ho
   ·exact h _ _ ho
   ·exact ho
  ·exact ho
 ·split at ho
  ·split at ho
   ·exact bJ (h _ _) ho
   ·exact ho
  ·exact ho
 ·split at ho
  ·split at ho
   ·exact bJ (h _ _) ho
   ·exact ho
  ·exact ho
 ·split at ho
  ·split at ho
   ·split at ho
    ·exact bJ (h _ _) ho
    ·exact ho
   ·exact ho
  ·exact ho
 ·split at ho
  ·split at ho
   ·exact Gp hR (B6 h) ho
   ·exact ho
  ·exact zM (fun _ _ _ _=>h _ _) ho
  ·exact simple _ ho
 ·split at ho
  ·split at ho
   ·split at ho
    ·exact bJ (Au fun c=>h _ _) ho
    ·exact ho
   ·exact ho
  ·exact simple _ ho
 ·split at ho
  ·exact B5 (h _ _) (fun _=>h _ _) ho
  ·exact ho
 ·exact simple _ ho
theorem xo (hR:A.le B) {o:Oper} {S:St} {K K':St→Prop} (h:∀S,K S→K' S) (ho:iW E A ann N o S K):iW E B ann N o S K':=by
 unfold iW at ho⊢;split at ho
 ·split at ho
  ·exact fw.cn (fun x=>eC h) ho
  ·exact ho
 ·split at ho
  ·exact fw.cn (fun x=>eC h) ho
  ·exact ho
 ·split at ho
  ·exact fw.cn (fun x=>eC h) ho
  ·exact ho
 ·split at ho
  ·exact bJ (eC h) ho
  ·exact ho
 ·split at ho
  ·exact fw.cn (fun x=>eC h) ho
  ·exact ho
 ·exact jv hR (fun x H'=>eC h) ho
 ·unfold HM at ho⊢;split at ho
  ·split at ho
   ·exact eC h ho
   ·exact ho
  ·exact ho
theorem dV (hR:A.le B) {aE:List Oper} {o:Oper} {S:St} {K K':St→Prop} (h:∀S,K S→K' S) (ho:eh E A ann N aE o S K):eh E B ann N aE o S K':=by
 unfold eh at ho⊢;split at ho
 ·exact xo hR h ho
 ·split at ho
  ·exact eJ (xo hR h) (eC h) ho
  ·exact eC h ho
  ·exact ho
theorem oR (hR:A.le B) {aE:List Oper}:∀(l:List Oper) {S:St} {K K':St→Prop},(∀S,K S→K' S)→kJ E A ann N aE l S K→kJ E B ann N aE l S K'
 |[],_,_,_,h,ho=>h _ ho
 |_::l,_,_,_,h,ho=>dV hR (fun _=>oR hR l h) ho
theorem Av {S:St} {s:Nat} {x:T} (h:S.tm s=some x):S.setT s x=S:=by
 have:(fun t=>bif Nat.beq t s then some x else S.tm t)=S.tm:=by
  funext t;cases hb:Nat.beq t s
  ·rfl
  ·rw[Nat.eq_of_beq_eq_true hb,h];rfl
 cases S;simp only[St.setT,St.mk.injEq,and_true];exact this
theorem gO {aE:List Oper} {o:Oper} {S:St} {K:St→Prop}:sQ E A ann N aE o S K=eh E A ann N aE o S K:=by
 unfold sQ eh
 cases o.guard with
 |none=>rfl
 |some p=>
  obtain⟨j,want⟩:=p;simp only[BW,fJ]
  cases aE[j]? with
  |none=>rfl
  |some q=>
   simp only[]
   cases q.dst with
   |none=>rfl
   |some s=>
    simp only[]
    cases ht:S.tm s with
    |none=>rfl
    |some t=>cases t with
     |undef=>rfl
     |lp s' off=>rfl
     |v x=>cases x with
      |bool b=>
       simp only[OR];by_cases hb:b=want
       ·subst hb;simp only[beq_self_eq_true,br,Av ht]
       ·have hw:(b == want)=false:=by simpa using hb
        have hn:(!want)=b:=by cases b<;>cases want<;>simp_all
        simp only[hw,br,hn,Av ht]
      |_=>rfl
theorem kj {aE:List Oper}:∀(l:List Oper) {S:St} {K:St→Prop},rE E A ann N aE l S K=kJ E A ann N aE l S K
 |[],_,_=>rfl
 |o::l,S,K=>by
  simp only[rE,kJ,gO];congr 1;funext S';exact kj l
theorem hG {ts ls:List Nat} {S:St} {K K':St→Prop} (h:∀S,K S→K' S) (hn:kK ts ls S K):kK ts ls S K':=by
 unfold kK at hn⊢;split at hn
 ·exact h _ hn
 ·exact hn
theorem rG {ts:List (Nat×KT)} {ls:List (Nat×TypeId×List bX)} {S:St} {K K':St→Prop} (h:∀S,K S→K' S) (hn:As ts ls S K):As ts ls S K':=
 bJ (h _) hn
theorem vG {kp:jb} {K K':Ex→St→Prop} (h:∀e S,K e S→K' e S):∀(l:List Nat) (id:Nat) (S:St),uN kp K l id S→uN kp K' l id S
 |[],_,_,hn=>hn
 |_::l,id,S,hn=>eJ (rG (h _)) (vG h l id S) hn
theorem Gq {kp:Option jb} {A A':(Ex→St→Prop)→Prop} {K K':Ex→St→Prop} (h:∀e S,K e S→K' e S) (hA:∀K K',(∀e S,K e S→K' e S)→A K→A' K') (hj:vF kp A K):vF kp A' K':=by
 unfold vF at hj⊢
 cases kp with
 |none=>exact hA _ _ h hj
 |some kp=>
  refine hA _ _ ?_ hj;intro e S
  cases e with
  |normal=>exact hG fun S=>rG (h _)
  |exit id=>exact h _ _
  |ret=>exact h _ _
theorem D0 {ts ls dT dL:List Nat} {tr:fl MS} {S:St} {K K':St→Prop} (h:∀S,K S→K' S) (hm:oP ts ls dT dL tr S K):oP ts ls dT dL tr S K':=by
 unfold oP at hm⊢;split at hm
 ·exact bJ (h _) hm
 ·exact hm
theorem oS (hR:A.le B) {aE:List Oper} {ts ls dT dL:List Nat} {K K':St→Prop} (h:∀S,K S→K' S):∀(l:List Oper) {S:St},jU E A ann N ts ls dT dL aE l S K→jU E B ann N ts ls dT dL aE l S K'
 |[],S,hx=>h _ hx
 |o::l,S,hx=>by
  unfold jU at hx⊢;split at hx
  ·rw[gO] at hx⊢;exact dV hR (fun _=>oS hR h l) hx
  ·exact D0 h hx
theorem Gr {kp:jb} {S0:St} {A A':(Ex→St→Prop)→Prop} {K K':Ex→St→Prop} (h:∀e S,K e S→K' e S) (hA:∀K K',(∀e S,K e S→K' e S)→A K→A' K') (hj:DY kp S0 A K):DY kp S0 A' K':=by
 unfold DY at hj⊢;refine hA _ _ ?_ hj;intro e S
 cases e with
 |normal=>exact hG fun S=>bJ (h _ _)
 |exit id=>exact h _ _
 |ret=>exact h _ _
theorem rH {ok:jb→Bool} {kp:Option jb} {S0:St} {A A':(Ex→St→Prop)→Prop} {K K':Ex→St→Prop} (h:∀e S,K e S→K' e S) (hA:∀K K',(∀e S,K e S→K' e S)→A K→A' K') (hj:lH ok kp S0 A K):lH ok kp S0 A' K':=by
 unfold lH at hj⊢
 cases kp with
 |none=>exact hA _ _ h hj
 |some kp=>
  simp only[] at hj⊢;split at hj
  ·exact bJ (Gr h hA) hj
  ·exact Gq h hA hj
theorem jA {st st':Nat→St→(St→Prop)→Prop} (hs:∀i S K K',(∀S,K S→K' S)→st i S K→st' i S K'):∀(t:qN) {S:St} {K K':St→Prop},(∀S,K S→K' S)→g8 st t S K→g8 st' t S K'
 | .nil,S,K,K',h,hx=>h _ hx
 | .aM,S,K,K',h,hx=>hx
 | .one i r,S,K,K',h,hx=>hs _ _ _ _ (fun S' hk=>jA hs r h hk) hx
 | .LD a b,S,K,K',h,hx=>⟨jA hs a h hx.1,jA hs b h hx.2⟩
theorem nH (hR:A.le B) {aE:List Oper} {draw:Bool} {S:St} {K K':St→Prop} (h:∀S,K S→K' S) (hx:gA E A ann N aE draw S K):gA E B ann N aE draw S K':=by
 unfold gA at hx⊢;revert hx;split
 ·simp only[kj];exact oR hR _ h
 ·refine bJ (jA (fun i S K K' h hx=> ?_) _ h);unfold fB at hx⊢;split at hx
  ·rw[gO] at hx⊢;exact dV hR h hx
  ·exact hx
theorem gB (hR:A.le B):∀(c:Code) (n:Nat) (S:St) (K K':Ex→St→Prop),(∀e S,K e S→K' e S)→fV E A f ann N c n S K→fV E B f ann N c n S K':=by
 intro c
 induction c with
 |skip=>intro n S K K' h hx;exact h _ _ hx
 |seq a b iha ihb=>
  intro n S K K' h hx;refine iha _ _ _ _ ?_ hx;intro e S'
  cases e with
  |normal=>exact ihb _ _ _ _ h
  |exit id=>exact h _ _
  |ret=>exact h _ _
 |cond c x y ihx ihy=>
  intro n S K K' h hx;simp only[fV] at hx⊢;split at hx
  ·exact rH h (fun K K' h=>eJ (ihx _ _ _ _ h) (ihy _ _ _ _ h)) hx
  ·exact hx
 |block id b ih=>
  intro n S K K' h hx;simp only[fV] at hx⊢;refine rH h ?_ hx;intro K K' h hx;refine ih _ _ _ _ ?_ hx;intro e S'
  cases e with
  |normal=>exact h _ _
  |exit j=>exact eJ (h _ _) (h _ _)
  |ret=>exact h _ _
 |loop c ih=>
  intro n S K K' h hx;simp only[fV] at hx⊢;split at hx
  ·exact hG (fun S0=>hR.loop _ _ _ _ _ _ _ _ (fun S'=>rG (h _)) (fun id S'=>vG h _ id S')) hx
  ·exact hx
 |exit id=>intro n S K K' h hx;exact h _ _ hx
 |ret=>intro n S K K' h hx;exact h _ _ hx
 |region id aE draw=>
  intro n S K K' h hx;simp only[fV] at hx⊢;revert hx;split
  ·exact nH hR (h _)
  ·split
   ·exact bJ (oS hR (h _) _)
   ·exact rH h (fun K K' h=>nH hR (h _))
 |rangeFunc=>intro n S K K' h hx;exact hx
 |scope b ih=>intro n S K K' h hx;simp only[fV] at hx⊢;exact ih _ _ _ _ h hx
 |label=>intro n S K K' h hx;simp only[fV] at hx⊢;exact h _ _ hx
 |goto=>intro n S K K' h hx;exact hx
 |refuse=>intro n S K K' h hx;exact hx
theorem B7 {S:St} {r:ResultVar} {K K':V→Prop} (h:∀v,K v→K' v) (hx:lI E S r K):lI E S r K':=by
 unfold lI at hx⊢;split at hx
 ·split at hx
  ·exact h _ hx
  ·exact hx
 ·split at hx
  ·split at hx
   ·split at hx
    ·exact bJ (h _) hx
    ·exact hx
   ·exact hx
  ·split at hx
   ·refine fw.cn ?_ hx;intro x
    cases x with
    |v y=>exact h _
    |_=>exact id
   ·exact hx
theorem qP {S:St}:∀(l:List ResultVar) {K K':List V→Prop},(∀v,K v→K' v)→mF E S l K→mF E S l K'
 |[],_,_,h,hx=>h _ hx
 |_::l,_,_,h,hx=>B7 (fun _=>qP l fun _=>h _) hx
theorem Aw {fn:Func} {K K':V→ag→Prop} (h:∀v H,K v H→K' v H) {S:St} (hx:JC E fn K S):JC E fn K' S:=by
 refine qP _ ?_ hx;intro vs;split
 ·exact h _ _
 ·exact h _ _
theorem uO (hR:A.le B):(F E A).le (F E B) where
 call f args H K K' h hx:=by
  simp only[F] at hx⊢;split at hx
  ·split at hx
   ·refine bJ (gB hR _ _ _ _ _ ?_) hx;intro e S
    cases e with
    |normal=>exact Aw h
    |exit id=>exact fun h=>h
    |ret=>exact Aw h
   ·exact hx
  ·exact hx
 loop c f n S Kr Og Ke Oh hr he hx:=by
  simp only[F] at hx⊢;split at hx
  ·refine gB hR _ _ _ _ _ ?_ hx;intro e S
   cases e with
   |normal=>exact hG fun S0=>hR.loop _ _ _ _ _ _ _ _ hr he
   |exit id=>exact hG (he id)
   |ret=>exact hG hr
  ·exact hx
theorem mG:(qO E).le (qO E):=
 ⟨fun f args H _ _ hk hx R hm hp=>hm.call f args H _ _ hk (hx R hm hp),
  fun c f n S _ _ _ _ hr he hx R hm hp=>hm.loop c f n S _ _ _ _ hr he (hx R hm hp)⟩
theorem xp {R:lG} (hm:R.le R) (hp:(F E R).le R):(qO E).le R:=
 ⟨fun f args H _ _ hk hx=>hm.call f args H _ _ hk (hx R hm hp),
  fun c f n S _ _ _ _ hr he hx=>hm.loop c f n S _ _ _ _ hr he (hx R hm hp)⟩
theorem oT:(F E (qO E)).le (qO E):=
 ⟨fun f args H _ _ hk hx R hm hp=>hp.call f args H _ _ hk ((uO (xp hm hp)).call f args H _ _ (fun _ _=>id) hx),
  fun c f n S _ _ _ _ hr he hx R hm hp=>hp.loop c f n S _ _ _ _ hr he ((uO (xp hm hp)).loop c f n S _ _ _ _ (fun _=>id) (fun _ _=>id) hx)⟩
theorem D1:(qO E).le (F E (qO E)):=xp (uO mG) (uO oT)
theorem LG {args:List V} {H:ag} {K:V→ag→Prop}:(qO E).call f args H K=(F E (qO E)).call f args H K:=
 propext ⟨D1.call _ _ _ _ _ fun _ _=>id,oT.call _ _ _ _ _ fun _ _=>id⟩
theorem LH {c:Code} {n:Nat} {S:St} {Kr:St→Prop} {Ke:Nat→St→Prop}:(qO E).loop c f n S Kr Ke=(F E (qO E)).loop c f n S Kr Ke:=
 propext ⟨D1.loop _ _ _ _ _ _ _ _ (fun _=>id) fun _ _=>id,oT.loop _ _ _ _ _ _ _ _ (fun _=>id) fun _ _=>id⟩
structure hH (R:lG):Prop where
 call:∀f args H K,R.call f args H K→∃v H',K v H'
 loop:∀c f n S Kr Ke,R.loop c f n S Kr Ke→(∃S',Kr S')∨∃id S',Ke id S'
theorem eM {dst:Option Tmp} {x:T} {S:St} {K:St→Prop} (hp:jd ann N dst x S K):∃S',K S':=by
 cases dst with
 |none=>exact⟨_,hp⟩
 |some d=>
  have h:=(aL hp).2
  cases x with
  |v y=>exact⟨_,h⟩
  |undef=>exact⟨_,h⟩
  |lp s off=>
   simp only[] at h
   cases hl:ab ann.aT d with
   |none=>rw[hl] at h;exact h.elim
   |some s'=>
    rw[hl] at h;cases hs:Nat.beq s s'<;>simp [hs] at h
    exact⟨_,h⟩
theorem wj {ts:List TypeId} {args:List V} {H:ag} {K:Oq→Nat→Nat→ag→Prop} (ho:aQ E ts args H K):∃q n c H',K q n c H':=by
 unfold aQ at ho;split at ho
 ·rename_i t u p l cp x;split at ho
  ·rename_i el n cB z _
   split at ho
   ·rename_i r m ok cs _;rcases gg (aL ho).2 with⟨_,h⟩|⟨_,h⟩
    ·exact⟨_,_,_,_,(aL h).2⟩
    ·obtain⟨hr,h⟩:=aL h;simp only[Bool.and_eq_true] at hr;have hb:=Nat.le_of_ble_eq_true hr.2.2;refine⟨_,_,_,_,h _ (Nat.le_refl _) ?_⟩;have:l+m≤(l+m)*(cB+1):=Nat.le_mul_of_pos_right _ (by omega);omega
   ·exact ho.elim
  ·exact ho.elim
 ·exact ho.elim
theorem B8 (hR:hH A) {fv:V} {args:List V} {H:ag} {K:V→ag→Prop} (ho:kI E A fv args H K):∃v H',K v H':=by
 unfold kI at ho;split at ho
 ·split at ho
  ·unfold iB at ho;split at ho
   ·rename_i x _;exact x.uJ _ _ _ ho
   ·exact ho.elim
  ·exact hR.call _ _ _ _ ho
 ·split at ho
  ·unfold iB at ho;split at ho
   ·rename_i x _;exact x.uJ _ _ _ ho
   ·exact ho.elim
  ·exact hR.call _ _ _ _ ho
 ·exact ho.elim
theorem xq {H:ag} {id:Nat} {K1:Prop} {K2:ag→Prop} (ho:mapNext H id K1 K2):K1∨∃H',K2 H':=by
 unfold mapNext at ho;split at ho
 ·exact .inl ho
 ·split at ho
  ·rename_i es c _;revert ho;cases nA _ es&&Nat.ble _ _
   ·exact fun ho=>ho.elim
   ·simp only[cond_true];split
    ·exact .inl
    ·exact fun ho=>.inr ⟨_,ho _ (List.mem_cons_self)⟩
  ·exact ho.elim
 ·exact ho.elim
theorem xr {rt:TypeId} {K:T→ag→Prop} (v:V) (H':ag) (hv:match sL E rt v with|some (b,v')=>ah b (K (.v v') H')|none=>False):∃x H',K x H':=by
 revert hv;split
 ·exact fun hv=>⟨_,_,(aL hv).2⟩
 ·exact fun hv=>hv.elim
theorem om (hR:hH A) {o:Op} {rt:TypeId} {ev:Ev} {H:ag} {K:T→ag→Prop} (ho:bF E A o rt ev H K):∃x H',K x H':=by
 have simple:∀o':Op,(match bP E o' ev H with|some (r,x,H')=>ah r (K x H')|none=>False)→∃x H',K x H':=by
  intro o' ho;revert ho;split
  ·exact fun ho=>⟨_,_,(aL ho).2⟩
  ·exact fun ho=>ho.elim
 unfold bF at ho;split at ho
 ·split at ho
  ·split at ho
   ·exact⟨_,_,ho⟩
   ·exact ho.elim
  ·exact ho.elim
 ·split at ho
  ·split at ho
   ·exact⟨_,_,(aL ho).2⟩
   ·exact ho.elim
  ·exact ho.elim
 ·split at ho
  ·split at ho
   ·exact⟨_,_,(aL ho).2⟩
   ·exact ho.elim
  ·exact ho.elim
 ·split at ho
  ·split at ho
   ·split at ho
    ·exact⟨_,_,(aL ho).2⟩
    ·exact ho.elim
   ·exact ho.elim
  ·exact ho.elim
 ·split at ho
  ·split at ho
   ·obtain⟨v,H',hv⟩:=B8 hR ho;exact xr v H' hv
   ·exact ho.elim
  ·obtain⟨q,n,c,H',hk⟩:=wj ho;exact⟨_,_,hk⟩
  ·exact simple _ ho
 ·split at ho
  ·split at ho
   ·split at ho
    ·obtain⟨hr,h⟩:=aL ho;have hb:=Nat.le_of_ble_eq_true hr;exact⟨_,_,h _ (Nat.le_refl _) (by omega)⟩
    ·exact ho.elim
   ·exact ho.elim
  ·exact simple _ ho
 ·split at ho
  ·rcases xq ho with h|⟨H',h⟩
   ·exact⟨_,_,h⟩
   ·exact⟨_,_,h⟩
  ·exact ho.elim
 ·exact simple _ ho
theorem sT (hR:hH A) {o:Oper} {S:St} {K:St→Prop} (ho:iW E A ann N o S K):∃S',K S':=by
 unfold iW at ho;split at ho
 ·split at ho
  ·exact eM (fw.eK ho).2
  ·exact ho.elim
 ·split at ho
  ·exact eM (fw.eK ho).2
  ·exact ho.elim
 ·split at ho
  ·exact eM (fw.eK ho).2
  ·exact ho.elim
 ·split at ho
  ·exact eM (aL ho).2
  ·exact ho.elim
 ·split at ho
  ·exact eM (fw.eK ho).2
  ·exact ho.elim
 ·obtain⟨x,H',h⟩:=om hR ho;exact eM h
 ·unfold HM at ho;split at ho
  ·split at ho
   ·exact eM ho
   ·exact ho.elim
  ·exact ho.elim
theorem nI (hR:hH A) {aE:List Oper} {o:Oper} {S:St} {K:St→Prop} (ho:eh E A ann N aE o S K):∃S',K S':=by
 unfold eh at ho;split at ho
 ·exact sT hR ho
 ·split at ho
  ·rcases gg ho with⟨_,h⟩|⟨_,h⟩
   ·exact sT hR h
   ·exact eM h
  ·exact eM ho
  ·exact ho.elim
theorem qQ (hR:hH A) {aE:List Oper}:∀(l:List Oper) {S:St} {K:St→Prop},kJ E A ann N aE l S K→∃S',K S'
 |[],_,_,ho=>⟨_,ho⟩
 |_::l,_,_,ho=>let ⟨_,h⟩:=nI hR ho;qQ hR l h
theorem gC {ts ls:List Nat} {S:St} {K:St→Prop} (h:kK ts ls S K):∃S',K S':=by
 unfold kK at h;split at h
 ·exact⟨_,h⟩
 ·exact h.elim
theorem qR {kp:jb} {K:Ex→St→Prop}:∀(l:List Nat) (id:Nat) (S:St),uN kp K l id S→∃e S',K e S'
 |[],_,_,h=>h.elim
 |_::l,id,S,h=>by
  rcases gg h with⟨_,h⟩|⟨_,h⟩
  ·exact⟨_,_,(aL h).2⟩
  ·exact qR l id S h
theorem B9 {kp:Option jb} {Q:(Ex→St→Prop)→Prop} {K:Ex→St→Prop} (hQ:∀K,Q K→∃e S,K e S) (h:vF kp Q K):∃e S,K e S:=by
 unfold vF at h
 cases kp with
 |none=>exact hQ _ h
 |some kp=>
  obtain⟨e,S,h⟩:=hQ _ h
  cases e with
  |normal=>obtain⟨S',h⟩:=gC h;exact⟨_,_,(aL h).2⟩
  |exit id=>exact⟨_,_,h⟩
  |ret=>exact⟨_,_,h⟩
theorem nJ {ok:jb→Bool} {kp:Option jb} {S0:St} {Q:(Ex→St→Prop)→Prop} {K:Ex→St→Prop} (hQ:∀K,Q K→∃e S,K e S) (h:lH ok kp S0 Q K):∃e S,K e S:=by
 unfold lH at h
 cases kp with
 |none=>exact hQ _ h
 |some kp=>
  simp only[] at h;split at h
  ·obtain⟨e,S,h⟩:=hQ _ (aL h).2
   cases e with
   |normal=>obtain⟨S',h⟩:=gC h;exact⟨_,_,(aL h).2⟩
   |exit id=>exact⟨_,_,h⟩
   |ret=>exact⟨_,_,h⟩
  ·exact B9 hQ h
theorem qS (hR:hH A) {aE:List Oper} {ts ls dT dL:List Nat} {K:St→Prop}:∀(l:List Oper) {S:St},jU E A ann N ts ls dT dL aE l S K→∃S',K S'
 |[],S,hx=>⟨_,hx⟩
 |o::l,S,hx=>by
  unfold jU at hx;split at hx
  ·rw[gO] at hx;obtain⟨S',h⟩:=nI hR hx;exact qS hR l h
  ·unfold oP at hx;split at hx
   ·exact⟨_,(aL hx).2⟩
   ·exact hx.elim
theorem mb {st:Nat→St→(St→Prop)→Prop} (hs:∀i S K,st i S K→∃S',K S'):∀(t:qN) {S:St} {K:St→Prop},g8 st t S K→∃S',K S'
 | .nil,S,K,hx=>⟨_,hx⟩
 | .aM,S,K,hx=>hx.elim
 | .one i r,S,K,hx=>by
   obtain⟨S',h⟩:=hs _ _ _ hx;exact mb hs r h
 | .LD a b,S,K,hx=>mb hs a hx.1
theorem oU (hR:hH A) {aE:List Oper} {draw:Bool} {S:St} {K:St→Prop} (hx:gA E A ann N aE draw S K):∃S',K S':=by
 unfold gA at hx;revert hx;split
 ·rw[kj];exact qQ hR _
 ·intro hx;refine mb (fun i S K h=> ?_) _ (aL hx).2;unfold fB at h;split at h
  ·rw[gO] at h;exact nI hR h
  ·exact h.elim
theorem vH (hR:hH A):∀(c:Code) (n:Nat) (S:St) (K:Ex→St→Prop),fV E A f ann N c n S K→∃e S',K e S':=by
 intro c
 induction c with
 |skip=>intro n S K hx;exact⟨_,_,hx⟩
 |seq a b iha ihb=>
  intro n S K hx;obtain⟨e,S',h⟩:=iha _ _ _ hx
  cases e with
  |normal=>exact ihb _ _ _ h
  |exit id=>exact⟨_,_,h⟩
  |ret=>exact⟨_,_,h⟩
 |cond c x y ihx ihy=>
  intro n S K hx;simp only[fV] at hx;split at hx
  ·refine nJ ?_ hx;intro K h;rcases gg h with⟨_,h⟩|⟨_,h⟩
   ·exact ihx _ _ _ h
   ·exact ihy _ _ _ h
  ·exact hx.elim
 |block id b ih=>
  intro n S K hx;simp only[fV] at hx;refine nJ ?_ hx;intro K hx;obtain⟨e,S',h⟩:=ih _ _ _ hx
  cases e with
  |normal=>exact⟨_,_,h⟩
  |exit j=>rcases gg h with⟨_,h⟩|⟨_,h⟩<;>exact⟨_,_,h⟩
  |ret=>exact⟨_,_,h⟩
 |loop c ih=>
  intro n S K hx;simp only[fV] at hx;split at hx
  ·obtain⟨S0,h⟩:=gC hx;rcases hR.loop _ _ _ _ _ _ h with⟨S',h⟩|⟨id,S',h⟩
   ·exact⟨_,_,(aL h).2⟩
   ·exact qR _ _ _ h
  ·exact hx.elim
 |exit id=>intro n S K hx;exact⟨_,_,hx⟩
 |ret=>intro n S K hx;exact⟨_,_,hx⟩
 |region id aE draw=>
  intro n S K hx;simp only[fV] at hx;revert hx;split
  ·intro hx;obtain⟨S',h⟩:=oU hR hx;exact⟨_,_,h⟩
  ·split
   ·intro hx;obtain⟨S',h⟩:=qS hR _ (aL hx).2;exact⟨_,_,h⟩
   ·intro hx;refine nJ ?_ hx;intro K h;obtain⟨S',h⟩:=oU hR h;exact⟨_,_,h⟩
 |rangeFunc=>intro n S K hx;exact hx.elim
 |scope b ih=>intro n S K hx;simp only[fV] at hx;exact ih _ _ _ hx
 |label=>intro n S K hx;simp only[fV] at hx;exact⟨_,_,hx⟩
 |goto=>intro n S K hx;exact hx.elim
 |refuse=>intro n S K hx;exact hx.elim
theorem xu {S:St} {r:ResultVar} {K:V→Prop} (hx:lI E S r K):∃v,K v:=by
 unfold lI at hx;split at hx
 ·split at hx
  ·exact⟨_,hx⟩
  ·exact hx.elim
 ·split at hx
  ·split at hx
   ·split at hx
    ·exact⟨_,(aL hx).2⟩
    ·exact hx.elim
   ·exact hx.elim
  ·split at hx
   ·have h:=(fw.eK hx).2;revert h;split
    ·exact fun h=>⟨_,h⟩
    ·exact fun h=>h.elim
   ·exact hx.elim
theorem oo {S:St}:∀(l:List ResultVar) {K:List V→Prop},mF E S l K→∃v,K v
 |[],_,hx=>⟨_,hx⟩
 |_::l,_,hx=>let ⟨_,h⟩:=xu hx;let ⟨_,h⟩:=oo l h;⟨_,h⟩
theorem vI {fn:Func} {K:V→ag→Prop} {S:St} (hx:JC E fn K S):∃v H',K v H':=by
 obtain⟨vs,h⟩:=oo _ hx;revert h;split
 ·exact fun h=>⟨_,_,h⟩
 ·exact fun h=>⟨_,_,h⟩
theorem D2 (hR:hH A):hH (F E A) where
 call f args H K hx:=by
  simp only[F] at hx;split at hx
  ·split at hx
   ·obtain⟨e,S,h⟩:=vH hR _ _ _ _ (aL hx).2
    cases e with
    |normal=>exact vI h
    |exit id=>exact h.elim
    |ret=>exact vI h
   ·exact hx.elim
  ·exact hx.elim
 loop c f n S Kr Ke hx:=by
  simp only[F] at hx;split at hx
  ·obtain⟨e,S,h⟩:=vH hR _ _ _ _ hx
   cases e with
   |normal=>obtain⟨S',h⟩:=gC h;exact hR.loop _ _ _ _ _ _ h
   |exit id=>obtain⟨S',h⟩:=gC h;exact .inr ⟨_,_,h⟩
   |ret=>obtain⟨S',h⟩:=gC h;exact .inl ⟨_,h⟩
  ·exact hx.elim
def HN:lG where
 call _ _ _ K:=∃v H',K v H'
 loop _ _ _ _ Kr Ke:=(∃S',Kr S')∨∃id S',Ke id S'
theorem sU:hH HN:=⟨fun _ _ _ _ h=>h,fun _ _ _ _ _ _ h=>h⟩
theorem rI:HN.le HN:=
 ⟨fun _ _ _ _ _ h ⟨v,H',hk⟩=>⟨v,H',h _ _ hk⟩,
  fun _ _ _ _ _ _ _ _ hr he h=>h.imp (fun⟨S',h⟩=>⟨S',hr _ h⟩) fun⟨id,S',h⟩=>⟨id,S',he _ _ h⟩⟩
theorem rJ:hH (qO E):=by
 have h:(qO E).le HN:=xp rI
  ⟨fun f args H K K' hk hx=>rI.call f args H _ _ hk ((D2 sU).call f args H K hx),
   fun c f n S Kr Og Ke Oh hr he hx=>rI.loop c f n S _ _ _ _ hr he ((D2 sU).loop c f n S Kr Ke hx)⟩
 exact⟨fun f args H K hx=>h.call f args H _ _ (fun _ _=>id) hx,fun c f n S Kr Ke hx=>h.loop c f n S _ _ _ _ (fun _=>id) (fun _ _=>id) hx⟩
end
theorem jh {n:Nat}:∀{l:List Nat},bx n l=true↔n∈l
 |[]=>by simp [bx]
 |x::l=>by
  rw[bx,Bool.or_eq_true,jh,List.mem_cons];exact⟨fun h=>h.imp Nat.eq_of_beq_eq_true id,fun h=>h.imp (fun e=>by subst e;exact Nat.beq_refl n) id⟩
theorem fo {l m:List Nat} (h:iX l m=false):∀x∈l,x∉m:=by
 induction l with
 |nil=>intro x hx;cases hx
 |cons y l ih=>
  rw[iX,Bool.or_eq_false_iff] at h;intro x hx hm;rcases List.mem_cons.1 hx with rfl|hx
  ·have:=jh.2 hm;rw[h.1] at this;cases this
  ·exact ih h.2 x hx hm
structure iO where
 x:T
 OW:Option (Nat×aV):=none
 kd:Option Nat:=none
 hp:Option ag:=none
def iO.apply (ann:bO) (dst:Option Tmp) (u:iO) (S:St):St where
 tm:=fun t=>if dst=some t then some u.x else if u.kd.isSome=true∧ab ann.aT t=u.kd then none else S.tm t
 lo:=fun s=>match u.OW with|some (s',L)=>if s=s' then some L else S.lo s|none=>S.lo s
 hp:=u.hp.getD S.hp
def JD (ann:bO) (N:Nat) (dst:Option Tmp) (x:T):Prop:=
 ∀d,dst=some d→Nat.blt d N=true∧∀s off,x=.lp s off→ab ann.aT d=some s
def gD (dst:Option Tmp) (x:T) (S:St):St:=match dst with|some d=>S.setT d x|none=>S
theorem dJ {ann:bO} {N:Nat} {dst:Option Tmp} {x:T} {S:St} {K:St→Prop}:jd ann N dst x S K↔JD ann N dst x∧K (gD dst x S):=by
 cases dst with
 |none=>simp [jd,JD,gD]
 |some d=>
  by_cases hb:d<N
  ·have hb':Nat.blt d N=true:=by simpa using hb
   cases x with
   |v y=>simp [jd,JD,ah,hb',gD,hb]
   |undef=>simp [jd,JD,ah,hb',gD,hb]
   |lp s off=>
    cases hl:ab ann.aT d with
    |none=>simp [jd,JD,ah,hb',hl]
    |some s'=>
     cases hs:Nat.beq s s'
     ·have:s'≠s:=fun e=>by subst e;rw[Nat.beq_refl] at hs;cases hs
      simp [jd,JD,ah,hb',hl,hs,this]
     ·have:s'=s:=(Nat.eq_of_beq_eq_true hs).symm;simp [jd,JD,ah,hb',hl,gD,this,hb]
  ·have hb':Nat.blt d N=false:=by
    cases h:Nat.blt d N
    ·rfl
    ·exact(hb (by simpa using h)).elim
   simp [jd,JD,ah,hb',hb]
theorem St.ext' {S S':St} (h1:∀t,S.tm t=S'.tm t) (h2:∀t,S.lo t=S'.lo t) (h3:S.hp=S'.hp):S=S':=by
 cases S;cases S';simp only[St.mk.injEq];exact⟨funext h1,funext h2,h3⟩
theorem aP {a b:Nat}:Nat.beq a b=decide (a=b):=by
 cases h:Nat.beq a b
 ·rw[eq_comm,decide_eq_false_iff_not];intro e;subst e;rw[Nat.beq_refl] at h;cases h
 ·rw[eq_comm,decide_eq_true_iff];exact Nat.eq_of_beq_eq_true h
section
variable {E:jR} {R:lG} {ann:bO} {N:Nat} {aE:List Oper}
def oC (E:jR) (R:lG) (ann:bO) (o:Oper) (S:St) (P:iO→Prop):Prop:=
 match Gl E ann o with
 | .pure=>match aU E o.op (cH S.tm) with|some d=>d.run fun x=>P {x}|none=>False
 | .oi s=>match gz E o.op (cH S.tm) s (S.lo s) with|some d=>d.run fun x=>P {x}|none=>False
 | .iA s=>match dI E o.op (cH S.tm) s (S.lo s) with|some d=>d.run fun x=>P {x:=x.2,OW:=some (s,x.1)}|none=>False
 | .sO=>match o.dst,iz E o.op (cH S.tm) with
   |some d,some (r,L)=>ah r (P {x:=.lp d 0,OW:=some (d,L),kd:=some d})
   |_,_=>False
 | .jZ=>match db E o.op (cH S.tm) S.hp with|some d=>d.run fun x=>P {x}|none=>False
 | .cW=>bF E R o.op o.type (cH S.tm) S.hp fun x H'=>P {x,hp:=some H'}
 | .sP=>False
def lB (E:jR) (R:lG) (ann:bO) (aE:List Oper) (o:Oper) (S:St) (P:iO→Prop):Prop:=
 match o.guard with
 |none=>oC E R ann o S P
 |some (j,want)=>
  match fJ aE S.tm j with
  |some (.v (.bool b))=>br (b == want) (oC E R ann o S P) (P {x:=.undef})
  |some .undef=>P {x:=.undef}
  |_=>False
theorem mH (dst:Option Tmp) (x:T) (S:St):({x:iO}).apply ann dst S=gD dst x S:=by
 cases dst with
 |none=>exact St.ext' (fun t=>by simp [iO.apply,gD]) (fun t=>by simp [iO.apply,gD]) (by simp [iO.apply,gD])
 |some d=>
  refine St.ext' (fun t=> ?_) (fun t=>by simp [iO.apply,gD,St.setT]) (by simp [iO.apply,gD,St.setT]);by_cases h:d=t<;>simp [iO.apply,gD,St.setT,aP,h,eq_comm]
theorem JE (dst:Option Tmp) (x:T) (s:Nat) (L:aV) (S:St):({x,OW:=some (s,L):iO}).apply ann dst S=gD dst x (S.setL s L):=by
 cases dst with
 |none=>exact St.ext' (fun t=>by simp [iO.apply,gD,St.setL]) (fun t=>by by_cases h:t=s<;>simp [iO.apply,gD,St.setL,aP,h]) (by simp [iO.apply,gD,St.setL])
 |some d=>
  refine St.ext' (fun t=> ?_) (fun t=>by by_cases h:t=s<;>simp [iO.apply,gD,St.setL,St.setT,aP,h]) (by simp [iO.apply,gD,St.setT,St.setL]);by_cases h:d=t<;>simp [iO.apply,gD,St.setT,St.setL,aP,h,eq_comm]
theorem JF (d:Nat) (x:T) (L:aV) (S:St):({x,OW:=some (d,L),kd:=some d:iO}).apply ann (some d) S=gD (some d) x ((rD ann d S).setL d L):=by
 refine St.ext' (fun t=> ?_) (fun t=>by by_cases h:t=d<;>simp [iO.apply,gD,St.setL,St.setT,rD,aP,h]) (by simp [iO.apply,gD,St.setT,St.setL,rD]);by_cases h:d=t
 ·simp [iO.apply,gD,St.setT,aP,h]
 ·have h':¬t=d:=fun e=>h e.symm
  simp only[iO.apply,gD,St.setT,St.setL,rD,aP,h,h',Option.some.injEq,decide_false,cond_false,if_false,Option.isSome_some,true_and]
  cases hl:ab ann.aT t with
  |none=>simp
  |some s=>by_cases hs:s=d<;>simp [hs]
theorem LI (dst:Option Tmp) (x:T) (H:ag) (S:St):({x,hp:=some H:iO}).apply ann dst S=gD dst x {S with hp:=H}:=by
 cases dst with
 |none=>exact St.ext' (fun t=>by simp [iO.apply,gD]) (fun t=>by simp [iO.apply,gD]) (by simp [iO.apply,gD])
 |some d=>
  refine St.ext' (fun t=> ?_) (fun t=>by simp [iO.apply,gD,St.setT]) (by simp [iO.apply,gD,St.setT]);by_cases h:d=t<;>simp [iO.apply,gD,St.setT,aP,h,eq_comm]
theorem Ax {o:Oper} {S:St} {K:St→Prop} (hno:(cM E ann aE o).no=false):iW E R ann N o S K↔oC E R ann o S fun u=>JD ann N o.dst u.x∧K (u.apply ann o.dst S):=by
 unfold cM at hno;unfold iW oC
 cases vE:Gl E ann o with
 |sP=>rw[vE] at hno;cases hno
 |pure=>simp only[];cases aU E o.op (cH S.tm) with
  |none=>exact Iff.rfl
  |some d=>simp only[dJ,mH]
 |oi s=>simp only[];cases gz E o.op (cH S.tm) s (S.lo s) with
  |none=>exact Iff.rfl
  |some d=>simp only[dJ,mH]
 |iA s=>simp only[];cases dI E o.op (cH S.tm) s (S.lo s) with
  |none=>exact Iff.rfl
  |some d=>simp only[dJ,JE]
 |sO=>cases hd:o.dst with
  |none=>exact Iff.rfl
  |some d=>simp only[];cases iz E o.op (cH S.tm) with
   |none=>exact Iff.rfl
   |some p=>simp only[dJ,JF]
 |jZ=>simp only[];cases db E o.op (cH S.tm) S.hp with
  |none=>exact Iff.rfl
  |some d=>simp only[dJ,mH]
 |cW=>simp only[dJ,LI]
theorem mI {o:Oper} {S:St} {K:St→Prop} (hno:(cM E ann aE o).no=false):eh E R ann N aE o S K↔lB E R ann aE o S fun u=>JD ann N o.dst u.x∧K (u.apply ann o.dst S):=by
 unfold eh lB
 cases o.guard with
 |none=>exact Ax hno
 |some p=>
  obtain⟨j,want⟩:=p;simp only[]
  cases fJ aE S.tm j with
  |none=>exact Iff.rfl
  |some t=>cases t with
   |undef=>simp only[dJ,mH]
   |lp s off=>exact Iff.rfl
   |v x=>cases x with
    |bool b=>
     simp only[br]
     cases b == want with
     |true=>exact Ax hno
     |false=>simp only[dJ,mH]
    |_=>exact Iff.rfl
theorem Ay (hR:R.le R) {o:Oper} {S:St} {P P':iO→Prop} (h:∀u,P u→P' u) (ho:oC E R ann o S P):oC E R ann o S P':=by
 unfold oC at ho⊢;split at ho
 ·split at ho
  ·exact fw.cn (fun x=>h _) ho
  ·exact ho
 ·split at ho
  ·exact fw.cn (fun x=>h _) ho
  ·exact ho
 ·split at ho
  ·exact fw.cn (fun x=>h _) ho
  ·exact ho
 ·split at ho
  ·exact bJ (h _) ho
  ·exact ho
 ·split at ho
  ·exact fw.cn (fun x=>h _) ho
  ·exact ho
 ·exact jv hR (fun x H'=>h _) ho
 ·exact ho
theorem qd (hR:R.le R) {o:Oper} {S:St} {P P':iO→Prop} (h:∀u,P u→P' u) (ho:lB E R ann aE o S P):lB E R ann aE o S P':=by
 unfold lB at ho⊢;split at ho
 ·exact Ay hR h ho
 ·split at ho
  ·exact eJ (Ay hR h) (h _) ho
  ·exact h _ ho
  ·exact ho
theorem D3 (hR:hH R) {o:Oper} {S:St} {P:iO→Prop} (ho:lB E R ann aE o S P):∃u,P u:=by
 have key:oC E R ann o S P→∃u,P u:=by
  intro ho;unfold oC at ho;split at ho
  ·split at ho
   ·exact⟨_,(fw.eK ho).2⟩
   ·exact ho.elim
  ·split at ho
   ·exact⟨_,(fw.eK ho).2⟩
   ·exact ho.elim
  ·split at ho
   ·exact⟨_,(fw.eK ho).2⟩
   ·exact ho.elim
  ·split at ho
   ·exact⟨_,(aL ho).2⟩
   ·exact ho.elim
  ·split at ho
   ·exact⟨_,(fw.eK ho).2⟩
   ·exact ho.elim
  ·obtain⟨x,H',h⟩:=om hR ho;exact⟨_,h⟩
  ·exact ho.elim
 unfold lB at ho;split at ho
 ·exact key ho
 ·split at ho
  ·rcases gg ho with⟨_,h⟩|⟨_,h⟩
   ·exact key h
   ·exact⟨_,h⟩
  ·exact⟨_,ho⟩
  ·exact ho.elim
theorem fw.wP {α:Type} {d:fw α} {K:α→Prop} (h:d.run K):∃x,∀K':α→Prop,d.run K'↔K' x:=by
 obtain⟨h1,h2⟩:=aL h;rcases gg h2 with⟨hc,h⟩|⟨hc,h⟩
 ·exact⟨d.x,fun K'=>by simp [fw.run,ah,br,h1,hc]⟩
 ·exact⟨d.y,fun K'=>by simp [fw.run,ah,br,h1,hc]⟩
theorem D4 {o:Oper} {S:St} {P:iO→Prop} (hw:(cM E ann aE o).wh=false) (ho:lB E R ann aE o S P):∃u,∀P':iO→Prop,lB E R ann aE o S P'↔P' u:=by
 have key:oC E R ann o S P→∃u,∀P':iO→Prop,oC E R ann o S P'↔P' u:=by
  intro ho;unfold oC at ho⊢;unfold cM at hw
  cases hc:Gl E ann o with
  |pure=>
   simp only[hc] at ho⊢
   cases hp:aU E o.op (cH S.tm) with
   |none=>simp only[hp] at ho
   |some d=>simp only[hp] at ho⊢;obtain⟨x,h⟩:=fw.wP ho;exact⟨_,fun P'=>h fun x=>P' {x}⟩
  |oi s=>
   simp only[hc] at ho⊢
   cases hp:gz E o.op (cH S.tm) s (S.lo s) with
   |none=>simp only[hp] at ho
   |some d=>simp only[hp] at ho⊢;obtain⟨x,h⟩:=fw.wP ho;exact⟨_,fun P'=>h fun x=>P' {x}⟩
  |iA s=>
   simp only[hc] at ho⊢
   cases hp:dI E o.op (cH S.tm) s (S.lo s) with
   |none=>simp only[hp] at ho
   |some d=>simp only[hp] at ho⊢;obtain⟨x,h⟩:=fw.wP ho;exact⟨_,fun P'=>h fun x=>P' {x:=x.2,OW:=some (s,x.1)}⟩
  |sO=>
   simp only[hc] at ho⊢
   cases hd:o.dst with
   |none=>simp only[hd] at ho
   |some d=>
    cases hp:iz E o.op (cH S.tm) with
    |none=>simp only[hd,hp] at ho
    |some p=>
     simp only[hd,hp] at ho⊢;exact⟨{x:=.lp d 0,OW:=some (d,p.2),kd:=some d},fun P'=>by simp only[ah,(aL ho).1]⟩
  |jZ=>
   simp only[hc] at ho⊢
   cases hp:db E o.op (cH S.tm) S.hp with
   |none=>simp only[hp] at ho
   |some d=>simp only[hp] at ho⊢;obtain⟨x,h⟩:=fw.wP ho;exact⟨_,fun P'=>h fun x=>P' {x}⟩
  |cW=>rw[hc] at hw;cases hw
  |sP=>rw[hc] at hw;cases hw
 unfold lB at ho⊢
 cases hg:o.guard with
 |none=>simp only[hg] at ho⊢;exact key ho
 |some p=>
  obtain⟨j,want⟩:=p;simp only[hg] at ho⊢
  cases hy:fJ aE S.tm j with
  |none=>simp only[hy] at ho
  |some t=>cases t with
   |undef=>simp only[];exact⟨{x:=.undef},fun P'=>Iff.rfl⟩
   |lp s off=>simp only[hy] at ho
   |v x=>cases x with
    |bool b=>
     simp only[hy] at ho⊢;rcases gg ho with⟨hb,h⟩|⟨hb,h⟩
     ·obtain⟨u,h⟩:=key h;exact⟨u,fun P'=>by simp only[br,hb];exact h _⟩
     ·exact⟨{x:=.undef},fun P'=>by simp only[br,hb]⟩
    |_=>simp only[hy] at ho
def iO.jV (ann:bO) (f:jz) (dst:Option Tmp) (u:iO):Prop:=
 (∀t,dst=some t→t∈f.wt)∧(∀s L,u.OW=some (s,L)→s∈f.wl)∧(u.hp.isSome=true→f.wh=true)∧
  (∀d,u.kd=some d→∀t,ab ann.aT t=some d→t∈f.wt)
theorem D5 {t d:Nat}:∀{l:List (Nat×Nat)},ab l t=some d→t∈j7 d l
 |[],h=>by cases h
 |(k,x)::l,h=>by
  simp only[ab,aP] at h;simp only[j7,aP];by_cases hk:t=k
  ·simp only[hk,decide_true,cond_true,Option.some.injEq] at h;simp [h,hk]
  ·simp only[hk,decide_false,cond_false] at h;have:=D5 h;by_cases hx:x=d<;>simp [hx,this]
theorem LJ {o:Oper} {t:Nat} (ht:o.dst=some t):t∈(cM E ann aE o).wt:=by
 unfold cM;cases Gl E ann o<;>simp [ma,ht]
theorem vJ (hR:R.le R) {o:Oper} {S:St} {P:iO→Prop} (ho:lB E R ann aE o S P):lB E R ann aE o S fun u=>P u∧u.jV ann (cM E ann aE o) o.dst:=by
 have hd:∀t,o.dst=some t→t∈(cM E ann aE o).wt:=fun t ht=>LJ ht
 have plain:∀x:T,({x:iO}).jV ann (cM E ann aE o) o.dst:=
  fun x=>⟨hd,fun _ _ h=>by simp at h,fun h=>by simp at h,fun _ h=>by simp at h⟩
 have key:oC E R ann o S P→oC E R ann o S fun u=>P u∧u.jV ann (cM E ann aE o) o.dst:=by
  intro ho;unfold oC at ho⊢
  cases hc:Gl E ann o with
  |pure=>
   simp only[hc] at ho⊢
   cases hp:aU E o.op (cH S.tm) with
   |none=>simp only[hp] at ho
   |some d=>simp only[hp] at ho⊢;exact fw.cn (fun x h=>⟨h,plain _⟩) ho
  |oi s=>
   simp only[hc] at ho⊢
   cases hp:gz E o.op (cH S.tm) s (S.lo s) with
   |none=>simp only[hp] at ho
   |some d=>simp only[hp] at ho⊢;exact fw.cn (fun x h=>⟨h,plain _⟩) ho
  |iA s=>
   simp only[hc] at ho⊢
   cases hp:dI E o.op (cH S.tm) s (S.lo s) with
   |none=>simp only[hp] at ho
   |some d=>
    simp only[hp] at ho⊢;refine fw.cn (fun x h=>⟨h,hd,fun s' L h=> ?_,fun h=>by simp at h,fun _ h=>by simp at h⟩) ho;simp only[Option.some.injEq,Prod.mk.injEq] at h;simp [cM,ma,hc,h.1]
  |sO=>
   simp only[hc] at ho⊢
   cases wK:o.dst with
   |none=>simp only[wK] at ho
   |some d=>
    cases hp:iz E o.op (cH S.tm) with
    |none=>simp only[wK,hp] at ho
    |some p=>
     simp only[wK,hp] at ho⊢;refine bJ (fun h=>⟨h,fun t ht=>hd t (wK▸ht),fun s' L h=> ?_,fun h=>by simp at h,fun d' h t ht=> ?_⟩) ho
     ·simp only[Option.some.injEq,Prod.mk.injEq] at h;simp [cM,ma,hc,wK,h.1]
     ·simp only[Option.some.injEq] at h;subst h;simp [cM,ma,hc,wK,B2,D5 ht]
  |jZ=>
   simp only[hc] at ho⊢
   cases hp:db E o.op (cH S.tm) S.hp with
   |none=>simp only[hp] at ho
   |some d=>simp only[hp] at ho⊢;exact fw.cn (fun x h=>⟨h,plain _⟩) ho
  |cW=>
   simp only[hc] at ho⊢;exact jv hR (fun x H' h=>⟨h,hd,fun _ _ h=>by simp at h,fun _=>by simp [cM,ma,hc],fun _ h=>by simp at h⟩) ho
  |sP=>simp only[hc] at ho
 unfold lB at ho⊢
 cases hg:o.guard with
 |none=>simp only[hg] at ho⊢;exact key ho
 |some p=>
  obtain⟨j,want⟩:=p;simp only[hg] at ho⊢
  cases hy:fJ aE S.tm j with
  |none=>simp only[hy] at ho
  |some t=>cases t with
   |undef=>simp only[hy] at ho⊢;exact⟨ho,plain _⟩
   |lp s off=>simp only[hy] at ho
   |v x=>cases x with
    |bool b=>simp only[hy] at ho⊢;exact eJ key (fun h=>⟨h,plain _⟩) ho
    |_=>simp only[hy] at ho
end
section
variable {E:jR} {R:lG} {ann:bO} {N:Nat} {aE:List Oper}
theorem hI {ev ev':Ev}:∀{l:List Operand},(∀x∈l,ev x=ev' x)→rv ev l=rv ev' l
 |[],_=>rfl
 |x::l,h=>by
  simp only[rv,iN,h x (List.mem_cons_self ..),hI (l:=l) fun y hy=>h y (List.mem_cons_of_mem _ hy)]
theorem mc {ev ev':Ev}:∀{l:List (Nat×Operand)},(∀x∈l.map (·.2),ev x=ev' x)→j6 ev l=j6 ev' l
 |[],_=>rfl
 |(i,x)::l,h=>by
  simp only[j6,iN,h x (by simp),mc (l:=l) fun y hy=>h y (by simp only[List.map_cons,List.mem_cons];exact .inr hy)]
theorem D6 {ev ev':Ev} {x:Operand} (h:ev x=ev' x):qM x ev=qM x ev':=by simp only[qM,iN,h]
theorem nK {ev ev':Ev} {x:Option Operand} {d m:Nat} (h:∀y,x=some y→ev y=ev' y):l7 ev x d m=l7 ev' x d m:=by
 cases x with
 |none=>rfl
 |some y=>simp only[l7,D6 (h y rfl)]
theorem qT {ev ev':Ev} {len cap:Nat} {lo hi mx:Option Operand} (h1:∀x,lo=some x→ev x=ev' x) (h2:∀x,hi=some x→ev x=ev' x) (h3:∀x,mx=some x→ev x=ev' x):ga ev len cap lo hi mx=ga ev' len cap lo hi mx:=by
 simp only[ga,nK h1,nK h2,nK h3]
theorem Ca {o:Op} {ev ev':Ev} (h:∀x∈o.operands.toList,ev x=ev' x):aU E o ev=aU E o ev':=by
 cases o with
 |move x=>simp only[aU,h x (by simp [Op.operands])]
 |assign x=>simp only[aU,h x (by simp [Op.operands])]
 |pick c a b=>simp only[aU,h c (by simp [Op.operands]),h a (by simp [Op.operands]),h b (by simp [Op.operands])]
 |binOp op t x y _=>simp only[aU,iN,h x (by simp [Op.operands]),h y (by simp [Op.operands])]
 |unOp op t x=>simp only[aU,iN,h x (by simp [Op.operands])]
 |convert s d x=>simp only[aU,iN,h x (by simp [Op.operands])]
 |nilCheck x=>simp only[aU,h x (by simp [Op.operands])]
 |fieldAddr t x f=>simp only[aU,h x (by simp [Op.operands])]
 |field t x f=>simp only[aU,iN,h x (by simp [Op.operands])]
 |indexAddr t x i=>simp only[aU,qM,iN,h x (by simp [Op.operands]),h i (by simp [Op.operands])]
 |index t x i=>simp only[aU,qM,iN,h x (by simp [Op.operands]),h i (by simp [Op.operands])]
 |slice t x lo hi mx=>
  have hb:∀len cap,ga ev len cap lo hi mx=ga ev' len cap lo hi mx:=fun len cap=>
   qT (fun y hy=>h y (by subst hy;simp [Op.operands])) (fun y hy=>h y (by subst hy;simp [Op.operands])) (fun y hy=>h y (by subst hy;simp [Op.operands]))
  have hb':∀len cap,ga ev len cap lo hi none=ga ev' len cap lo hi none:=fun len cap=>
   qT (fun y hy=>h y (by subst hy;simp [Op.operands])) (fun y hy=>h y (by subst hy;simp [Op.operands])) (fun y hy=>by cases hy)
  simp only[aU,hb,hb',h x (by simp [Op.operands])]
 |makeInterface t x=>simp only[aU,iN,h x (by simp [Op.operands])]
 |makeFunc f first df=>
  cases f with
  |func f=>
   have h1:=hI (ev:=ev) (ev':=ev') (l:=df.toList) fun x hx=>h x (by simp only[Op.operands,Array.toList_append,List.mem_append];exact .inr hx)
   have h2:=hI (ev:=ev) (ev':=ev') (l:=first.toList) fun x hx=>h x (by simp only[Op.operands,Array.toList_append,List.mem_append];exact .inl hx)
   simp only[aU]
   cases hf:first.toList with
   |nil=>simp only[h1]
   |cons x l=>
    rw[hf] at h2
    cases df.toList with
    |nil=>simp only[h2]
    |cons y m=>rfl
  |_=>rfl
 |extract x i=>simp only[aU,iN,h x (by simp [Op.operands])]
 |build t parts=>
  have h1:=mc (ev:=ev) (ev':=ev') (l:=parts.toList) fun x hx=>h x (by simpa only[Op.operands] using hx)
  simp only[aU,h1]
 |typeAssert x xt d ok=>simp only[aU,iN,h x (by simp [Op.operands])]
 |call c=>
  have h1:=hI (ev:=ev) (ev':=ev') (l:=c.args.toList) fun x hx=>h x (by
   simp only[Op.operands,Call.operands,Array.toList_append,List.mem_append];exact .inr hx)
  simp only[aU,h1]
 |_=>rfl
theorem zN {o:Op} {ev ev':Ev} {s:Nat} {L:Option aV} (h:∀x∈o.operands.toList,ev x=ev' x):gz E o ev s L=gz E o ev' s L:=by
 cases o with
 |load t a=>simp only[gz,h a (by simp [Op.operands])]
 |_=>rfl
theorem xw {o:Op} {ev ev':Ev} {s:Nat} {L:Option aV} (h:∀x∈o.operands.toList,ev x=ev' x):dI E o ev s L=dI E o ev' s L:=by
 cases o with
 |store t a x=>simp only[dI,iN,h a (by simp [Op.operands]),h x (by simp [Op.operands])]
 |next it b=>cases b with
  |true=>simp only[dI,h it (by simp [Op.operands])]
  |false=>rfl
 |_=>rfl
theorem Cb {o:Op} {ev ev':Ev} (h:∀x∈o.operands.toList,ev x=ev' x):iz E o ev=iz E o ev':=by
 cases o with
 |box t x=>simp only[iz,iN,h x (by simp [Op.operands])]
 |range t x=>simp only[iz,iN,h x (by simp [Op.operands])]
 |_=>rfl
theorem zO {o:Op} {ev ev':Ev} {H:ag} (h:∀x∈o.operands.toList,ev x=ev' x):db E o ev H=db E o ev' H:=by
 cases o with
 |load t a=>simp only[db,h a (by simp [Op.operands])]
 |convert s d x=>simp only[db,iN,h x (by simp [Op.operands])]
 |lookup t x i ok=>simp only[db,iN,h x (by simp [Op.operands]),h i (by simp [Op.operands])]
 |entry it=>simp only[db,h it (by simp [Op.operands])]
 |call c=>
  have h1:=hI (ev:=ev) (ev':=ev') (l:=c.args.toList) fun x hx=>h x (by
   simp only[Op.operands,Call.operands,Array.toList_append,List.mem_append];exact .inr hx)
  simp only[db,h1]
 |_=>rfl
theorem gX {o:Op} {ev ev':Ev} {H:ag} (h:∀x∈o.operands.toList,ev x=ev' x):bP E o ev H=bP E o ev' H:=by
 cases o with
 |buildSlice t len parts=>
  simp only[bP];rw[mc (ev:=ev) (ev':=ev') fun x hx=>h x (by simp only[Op.operands];simpa using hx)]
 |makeSlice t len cap=>simp only[bP,iN,h len (by simp [Op.operands]),h cap (by simp [Op.operands])]
 |convert s d x=>simp only[bP,iN,h x (by simp [Op.operands])]
 |call c=>
  have h1:=hI (ev:=ev) (ev':=ev') (l:=c.args.toList) fun x hx=>h x (by
   simp only[Op.operands,Call.operands,Array.toList_append,List.mem_append];exact .inr hx)
  simp only[bP,h1]
 |range t x=>simp only[bP,iN,h x (by simp [Op.operands])]
 |makeMap t r=>cases r<;>rfl
 |_=>rfl
theorem xx {o:Op} {rt:TypeId} {ev ev':Ev} {H:ag} {K:T→ag→Prop} (h:∀x∈o.operands.toList,ev x=ev' x):bF E R o rt ev H K=bF E R o rt ev' H K:=by
 cases o with
 |box t x=>simp only[bF,iN,h x (by simp [Op.operands])]
 |store t a x=>simp only[bF,iN,h a (by simp [Op.operands]),h x (by simp [Op.operands])]
 |convert s d x=>simp only[bF,bP,iN,h x (by simp [Op.operands])]
 |makeSlice t len cap=>simp only[bF];rw[gX h]
 |call c=>
  have h0:=gX (E:=E) (H:=H) h
  have h1:=hI (ev:=ev) (ev':=ev') (l:=c.args.toList) fun x hx=>h x (by
   simp only[Op.operands,Call.operands,Array.toList_append,List.mem_append];exact .inr hx)
  cases hc:c.callee with
  |value f=>
   have h2:ev f=ev' f:=h f (by simp [Op.operands,Call.operands,hc]);have h3:iN ev f=iN ev' f:=by simp only[iN,h2]
   simp only[bF,hc];rw[h1]
   cases rv ev' c.args.toList with
   |none=>simp only[h0]
   |some args=>simp only[h3]
  |invoke r m=>simp only[bF,hc,h0]
  |builtin b=>
   simp only[bF,hc,h0,h1];cases b<;>cases rv ev' c.args.toList<;>rfl
 |buildSlice t len parts=>simp only[bF];rw[gX h]
 |mapUpdate t m x v=>simp only[bF,iN,h m (by simp [Op.operands]),h x (by simp [Op.operands]),h v (by simp [Op.operands])]
 |range t x=>simp only[bF];rw[gX h]
 |makeMap t r=>cases r<;>rfl
 |next it b=>cases b with
  |true=>rfl
  |false=>simp only[bF,h it (by simp [Op.operands])]
 |_=>rfl
theorem vK {t:Nat}:∀{l:List Operand},Operand.tmp t∈l→t∈nE l
 |[],h=>by cases h
 |x::l,h=>by
  rcases List.mem_cons.1 h with rfl|h
  ·simp [nE]
  ·have:=vK h;cases x<;>simp [nE,this]
theorem D7 {o:Oper}:(cM E ann aE o).rt=Vh aE o:=by
 unfold cM;cases Gl E ann o<;>rfl
theorem OX {o:Oper} {t:Nat} (h:t∈nE o.op.operands.toList):t∈(cM E ann aE o).rt:=by
 rw[D7];exact List.mem_append.2 (.inl h)
theorem Gs {o:Oper} {j:Nat} {want:Bool} {q:Oper} {d:Nat} (hg:o.guard=some (j,want)) (hq:aE[j]? =some q) (hd:q.dst=some d):d∈(cM E ann aE o).rt:=by
 rw[D7];exact List.mem_append.2 (.inr (by simp [xm,hg,hq,hd]))
theorem xy {o:Oper} {S S':St} {P:iO→Prop} (ht:∀t∈(cM E ann aE o).rt,S.tm t=S'.tm t) (hl:∀s∈(cM E ann aE o).rl,S.lo s=S'.lo s) (hh:(cM E ann aE o).rh=true→S.hp=S'.hp):lB E R ann aE o S P=lB E R ann aE o S' P:=by
 have cL:∀x∈o.op.operands.toList,cH S.tm x=cH S'.tm x:=by
  intro x hx
  cases x with
  |tmp t=>exact ht t (OX (vK hx))
  |_=>rfl
 have key:oC E R ann o S P=oC E R ann o S' P:=by
  unfold oC
  cases hc:Gl E ann o with
  |pure=>simp only[Ca cL]
  |oi s=>simp only[zN cL,hl s (by simp [cM,ma,hc])]
  |iA s=>simp only[xw cL,hl s (by simp [cM,ma,hc])]
  |sO=>simp only[Cb cL]
  |jZ=>simp only[zO cL,hh (by simp [cM,ma,hc])]
  |cW=>simp only[xx cL,hh (by simp [cM,ma,hc])]
  |sP=>rfl
 unfold lB
 cases hg:o.guard with
 |none=>exact key
 |some p=>
  obtain⟨j,want⟩:=p
  have hy:fJ aE S.tm j=fJ aE S'.tm j:=by
   unfold fJ
   cases hq:aE[j]? with
   |none=>rfl
   |some q=>cases hd:q.dst with
    |none=>simp only[hd]
    |some d=>simp only[hd];exact ht d (Gs hg hq hd)
  simp only[hy,key]
theorem xz {a b:jz} (h:gb a b=true):(∀x∈a.wt,x∉b.rt)∧(∀x∈a.wt,x∉b.wt)∧(∀x∈b.wt,x∉a.rt)∧(∀x∈a.wl,x∉b.rl)∧(∀x∈a.wl,x∉b.wl)∧(∀x∈b.wl,x∉a.rl)∧(a.wh=true→b.rh=false)∧(b.wh=true→a.rh=false):=by
 simp only[gb,Bool.and_eq_true,Bool.not_eq_true'] at h;obtain⟨⟨⟨⟨⟨⟨⟨⟨h1,h2⟩,h3⟩,h4⟩,h5⟩,h6⟩,h7⟩,h8⟩,_⟩:=h;refine⟨fo h1,fo h2,fo h3,fo h4,fo h5,fo h6,fun h=> ?_,fun h=> ?_⟩
 ·rw[h] at h7;simpa using h7
 ·rw[h] at h8;simpa using h8
theorem LK {a b:jz} (h:gb a b=true):a.no=false∧b.no=false:=by
 simp only[gb,Bool.and_eq_true,Bool.not_eq_true'] at h;exact h.2
theorem QI {o:Oper} (h:(cM E ann aE o).wh=true):(cM E ann aE o).rh=true:=by
 unfold cM at h⊢;cases hc:Gl E ann o<;>rw[hc] at h<;>first|rfl|cases h
theorem mJ {o:Oper} {u:iO} {S:St} {t:Nat} (hu:u.jV ann (cM E ann aE o) o.dst) (ht:t∉(cM E ann aE o).wt):(u.apply ann o.dst S).tm t=S.tm t:=by
 have h1:¬o.dst=some t:=fun e=>ht (hu.1 t e)
 have h2:¬(u.kd.isSome=true∧ab ann.aT t=u.kd):=by
  rintro⟨h,e⟩
  cases hk:u.kd with
  |none=>rw[hk] at h;cases h
  |some d=>exact ht (hu.2.2.2 d hk t (e.trans hk))
 simp only[iO.apply,if_neg h1,if_neg h2]
theorem jB {o:Oper} {u:iO} {S:St} {s:Nat} (hu:u.jV ann (cM E ann aE o) o.dst) (hs:s∉(cM E ann aE o).wl):(u.apply ann o.dst S).lo s=S.lo s:=by
 simp only[iO.apply]
 cases hl:u.OW with
 |none=>rfl
 |some p=>
  have:s≠p.1:=fun e=>hs (e▸hu.2.1 p.1 p.2 hl)
  simp [this]
theorem kl {o:Oper} {u:iO} {S:St} (hu:u.jV ann (cM E ann aE o) o.dst) (hs:(cM E ann aE o).wh=false):(u.apply ann o.dst S).hp=S.hp:=by
 simp only[iO.apply]
 cases hh:u.hp with
 |none=>rfl
 |some H=>have:=hu.2.2.1 (by simp [hh]);rw[hs] at this;cases this
theorem Gt {p q:Oper} {u v:iO} {S:St} (ha:gb (cM E ann aE p) (cM E ann aE q)=true) (hu:u.jV ann (cM E ann aE p) p.dst) (hv:v.jV ann (cM E ann aE q) q.dst):v.apply ann q.dst (u.apply ann p.dst S)=u.apply ann p.dst (v.apply ann q.dst S):=by
 obtain⟨_,h2,_,_,h5,_,h7,_⟩:=xz ha;refine St.ext' (fun t=> ?_) (fun s=> ?_) ?_
 ·by_cases ht:t∈(cM E ann aE p).wt
  ·rw[mJ hv (h2 t ht)];simp only[iO.apply];split
   ·rfl
   ·split
    ·rfl
    ·exact(mJ hv (h2 t ht)).symm
  ·rw[mJ hu ht];simp only[iO.apply];split
   ·rfl
   ·split
    ·rfl
    ·exact mJ hu ht
 ·by_cases hs:s∈(cM E ann aE p).wl
  ·rw[jB hv (h5 s hs)];simp only[iO.apply];split
   ·split
    ·rfl
    ·exact(jB hv (h5 s hs)).symm
   ·exact(jB hv (h5 s hs)).symm
  ·rw[jB hu hs];simp only[iO.apply];split
   ·split
    ·rfl
    ·exact jB hu hs
   ·exact jB hu hs
 ·cases hw:(cM E ann aE p).wh
  ·rw[kl hu hw];simp only[iO.apply];have:=kl (S:=S) hu hw;simp only[iO.apply] at this;rw[this]
  ·have hq:(cM E ann aE q).wh=false:=by
    cases hq:(cM E ann aE q).wh
    ·rfl
    ·have:=h7 hw;rw[QI hq] at this;cases this
   rw[kl hv hq];simp only[iO.apply];have:=kl (S:=S) hv hq;simp only[iO.apply] at this;rw[this]
theorem xA (hm:R.le R) (hs:hH R) {p q:Oper} {S:St} {K:St→Prop} (ha:gb (cM E ann aE p) (cM E ann aE q)=true) (h:eh E R ann N aE p S fun S'=>eh E R ann N aE q S' K):eh E R ann N aE q S fun S'=>eh E R ann N aE p S' K:=by
 obtain⟨h1,h2,h3,h4,h5,h6,h7,h8⟩:=xz ha;obtain⟨n1,n2⟩:=LK ha;rw[mI n1] at h;rw[mI n2]
 have eq1:∀u:iO,u.jV ann (cM E ann aE p) p.dst→∀P,lB E R ann aE q (u.apply ann p.dst S) P=lB E R ann aE q S P:=fun u hu P=>
  xy (fun t ht=>mJ hu fun hw=>h1 t hw ht) (fun s hs=>jB hu fun hw=>h4 s hw hs) (fun hr=>by
   cases hw:(cM E ann aE p).wh
   ·exact kl hu hw
   ·have:=h7 hw;rw[hr] at this;cases this)
 have Zk:∀u:iO,u.jV ann (cM E ann aE q) q.dst→∀P,lB E R ann aE p (u.apply ann q.dst S) P=lB E R ann aE p S P:=fun u hu P=>
  xy (fun t ht=>mJ hu fun hw=>h3 t hw ht) (fun s hs=>jB hu fun hw=>h6 s hw hs) (fun hr=>by
   cases hw:(cM E ann aE q).wh
   ·exact kl hu hw
   ·have:=h8 hw;rw[hr] at this;cases this)
 have h':=vJ hm h
 have main:lB E R ann aE p S fun u=>JD ann N p.dst u.x∧u.jV ann (cM E ann aE p) p.dst∧
  lB E R ann aE q S fun v=>JD ann N q.dst v.x∧v.jV ann (cM E ann aE q) q.dst∧K (u.apply ann p.dst (v.apply ann q.dst S)):=by
  refine qd hm ?_ h';rintro u ⟨⟨hok,hq⟩,hu⟩;refine⟨hok,hu, ?_⟩;rw[mI n2,eq1 u hu] at hq;refine qd hm ?_ (vJ hm hq);rintro v ⟨⟨oJ,Ql⟩,hv⟩;exact⟨oJ,hv,Gt ha hu hv▸Ql⟩
 cases hw:(cM E ann aE p).wh
 ·obtain⟨u,La⟩:=D4 hw main;obtain⟨hok,hu,hq⟩:=(La _).1 main;refine qd hm ?_ hq;rintro v ⟨oJ,hv,hk⟩;refine⟨oJ, ?_⟩;rw[mI n1,Zk v hv];exact(La _).2 ⟨hok,hk⟩
 ·have hwq:(cM E ann aE q).wh=false:=by
   cases hq:(cM E ann aE q).wh
   ·rfl
   ·have:=h7 hw;rw[QI hq] at this;cases this
  obtain⟨u,_,_,hq⟩:=D3 hs main;obtain⟨v,La⟩:=D4 hwq hq;obtain⟨oJ,hv,_⟩:=(La _).1 hq;refine(La _).2 ⟨oJ, ?_⟩;rw[mI n1,Zk v hv];refine qd hm ?_ main;rintro u ⟨hok,hu,hq⟩;exact⟨hok,((La _).1 hq).2.2⟩
end
abbrev da:=Nat→Option Nat
inductive VR (ρ:da):V→Value→Prop where
 |bool (b:Bool):VR ρ (.bool b) (.bool b)
 |int (k:IntKind) (n:Int):VR ρ (.int k n) (.int k n)
 |dS (s:ByteArray):VR ρ (.dS s) (.string s)
 |Cc:VR ρ (.ak none) (.pointer none)
 |ak {id off b:Nat} (h:ρ id=some b):VR ρ (.ak (some (id,off))) (.pointer (some ⟨b,off,none⟩))
 |mK (n c:Nat):VR ρ (.slice none n c) (.slice none n c)
 |slice {id off b:Nat} (n c:Nat) (h:ρ id=some b):VR ρ (.slice (some (id,off)) n c) (.slice (some ⟨b,off,none⟩) n c)
 |oV (p:Nat×Nat) (a:Addr):VR ρ (.slice (some p) 0 0) (.slice (some a) 0 0)
 |xB:VR ρ (.map none) (.map none)
 |map {id b:Nat} (h:ρ id=some b):VR ρ (.map (some id)) (.map (some b))
 |func (f:FuncId) {cs:List V} {cs':Array Value} (hl:cs.length=cs'.size) (h:∀(i:Nat) (x:V) (y:Value),cs[i]? =some x→cs'[i]? =some y→VR ρ x y):
  VR ρ (.func f cs) (.func (.func f) #[] cs')
 |oA (f:FuncId) {cs:List V} {cs':Array Value} (hl:cs.length=cs'.size) (h:∀(i:Nat) (x:V) (y:Value),cs[i]? =some x→cs'[i]? =some y→VR ρ x y):
  VR ρ (.oA f cs) (.func (.func f) cs' #[])
 |dz (t:TypeId) {id b:Nat} (h:ρ id=some b):VR ρ (.dz t id) (.pointer (some ⟨b,0,none⟩))
 |nilFunc:VR ρ .nilFunc .nilFunc
 |iface (t:TypeId) {v:V} {v':Value} (h:VR ρ v v'):VR ρ (.iface t v) (.iface t v')
 |nilIface:VR ρ .nilIface .nilIface
 |agg {cs:List V} {cs':Array Value} (h1:∀c∈cs,c.one=true) (hl:cs.length=cs'.size) (h:∀(i:Nat) (x:V) (y:Value),cs[i]? =some x→cs'[i]? =some y→VR ρ x y):VR ρ (.agg cs) (.agg cs')
 |bZ (x:Value):VR ρ .bZ x
 |tuple {cs:List V} {cs':Array Value} (hl:cs.length=cs'.size) (h:∀(i:Nat) (x:V) (y:Value),cs[i]? =some x→cs'[i]? =some y→VR ρ x y):VR ρ (.tuple cs) (.tuple cs')
def aY (cs:List V):Prop:=∀v∈cs,v.one=true
def ea (ρ:da) (l:List V) (m:List Value):Prop:=l.length=m.length∧∀(i:Nat) (x:V) (y:Value),l[i]? =some x→m[i]? =some y→VR ρ x y
def da.le (ρ ρ':da):Prop:=∀id b,ρ id=some b→ρ' id=some b
theorem da.le.refl (ρ:da):ρ.le ρ:=fun _ _ h=>h
theorem da.le.trans {a b c:da} (h:a.le b) (k:b.le c):a.le c:=fun id x hx=>k id x (h id x hx)
theorem VR.mono {ρ ρ':da} (h:ρ.le ρ') {v:V} {x:Value} (hv:VR ρ v x):VR ρ' v x:=by
 induction hv with
 |bool b=>exact .bool b
 |int k n=>exact .int k n
 |dS s=>exact .dS s
 |Cc=>exact .Cc
 |ak hb=>exact .ak (h _ _ hb)
 |mK n c=>exact .mK n c
 |slice n c hb=>exact .slice n c (h _ _ hb)
 |oV p a=>exact .oV p a
 |xB=>exact .xB
 |map hb=>exact .map (h _ _ hb)
 |func f hl _ ih=>exact .func f hl ih
 |oA f hl _ ih=>exact .oA f hl ih
 |dz t hb=>exact .dz t (h _ _ hb)
 |nilFunc=>exact .nilFunc
 |iface t _ ih=>exact .iface t ih
 |nilIface=>exact .nilIface
 |agg h1 hl _ ih=>exact .agg h1 hl ih
 |bZ x=>exact .bZ x
 |tuple hl _ ih=>exact .tuple hl ih
theorem ea.mono {ρ ρ':da} (h:ρ.le ρ') {l:List V} {m:List Value} (hv:ea ρ l m):ea ρ' l m:=
 ⟨hv.1,fun i x y hx hy=>(hv.2 i x y hx hy).mono h⟩
theorem ea.nil (ρ:da):ea ρ [] []:=⟨rfl,fun i x y h=>by simp at h⟩
theorem ea.cons {ρ:da} {x:V} {y:Value} {l:List V} {m:List Value} (h:VR ρ x y) (hl:ea ρ l m):ea ρ (x::l) (y::m):=by
 refine⟨by simp [hl.1],fun i=> ?_⟩
 cases i with
 |zero=>intro a b ha hb;simp at ha hb;subst ha;subst hb;exact h
 |succ i=>intro a b ha hb;exact hl.2 i a b (by simpa using ha) (by simpa using hb)
theorem ea.cT {ρ:da} {x:V} {l:List V} {m:List Value} (h:ea ρ (x::l) m):∃y m',m=y::m'∧VR ρ x y∧ea ρ l m':=by
 cases m with
 |nil=>simp [ea] at h
 |cons y m'=>
  refine⟨y,m',rfl,h.2 0 x y rfl rfl,by simpa using h.1,fun i a b ha hb=>h.2 (i+1) a b (by simpa using ha) (by simpa using hb)⟩
theorem ea.fW {ρ:da} {m:List Value} (h:ea ρ [] m):m=[]:=by
 cases m with
 |nil=>rfl
 |cons y m'=>simp [ea] at h
theorem ea.append {ρ:da} {l l':List V} {m m':List Value} (h:ea ρ l m) (h':ea ρ l' m'):ea ρ (l++l') (m++m'):=by
 refine⟨by simp [h.1,h'.1],fun i x y hx hy=> ?_⟩;by_cases hi:i<l.length
 ·rw[List.getElem?_append_left hi] at hx;rw[List.getElem?_append_left (h.1▸hi)] at hy;exact h.2 i x y hx hy
 ·rw[List.getElem?_append_right (by omega)] at hx;rw[List.getElem?_append_right (by have:=h.1;omega)] at hy;exact h'.2 _ x y hx (by rwa [←h.1] at hy)
theorem ea.take {ρ:da} {l:List V} {m:List Value} (h:ea ρ l m) (n:Nat):ea ρ (l.take n) (m.take n):=by
 refine⟨by simp [h.1],fun i x y hx hy=> ?_⟩;rw[List.getElem?_take] at hx hy;split at hx
 ·rename_i hi;rw[if_pos hi] at hy;exact h.2 i x y hx hy
 ·cases hx
theorem ea.drop {ρ:da} {l:List V} {m:List Value} (h:ea ρ l m) (n:Nat):ea ρ (l.drop n) (m.drop n):=by
 refine⟨by simp [h.1],fun i x y hx hy=> ?_⟩;rw[List.getElem?_drop] at hx hy;exact h.2 _ x y hx hy
theorem qe:∀{l:List V} {n:Nat},n<l.length→l[n]? =some (ae l n)
 |[],_,h=>by simp at h
 |_::_,0,_=>rfl
 |_::l,n+1,h=>by rw[List.getElem?_cons_succ];exact qe (l:=l) (by simpa using h)
theorem ea.nth {ρ:da} {l:List V} {m:List Value} (h:ea ρ l m) {n:Nat} (hn:n<l.length):∃y,m[n]? =some y∧VR ρ (ae l n) y:=by
 have hm:n<m.length:=h.1▸hn;exact⟨m[n],List.getElem?_eq_getElem hm,h.2 n _ _ (qe hn) (List.getElem?_eq_getElem hm)⟩
theorem VR.nL {ρ:da} {cs:List V} {x:Value} (h:VR ρ (.agg cs) x):∃cs',x=.agg cs'∧ea ρ cs cs'.toList∧aY cs:=by
 cases h with
 |agg h1 hl h=>exact⟨_,rfl,⟨by simpa using hl,fun i a b ha hb=>h i a b ha (by simpa using hb)⟩,h1⟩
theorem VR.uP {ρ:da} {cs:List V} {cs':Array Value} (h1:aY cs) (h:ea ρ cs cs'.toList):VR ρ (.agg cs) (.agg cs'):=
 .agg h1 (by simpa using h.1) fun i a b ha hb=>h.2 i a b ha (by simpa using hb)
theorem VR.JG {ρ:da} {cs:List V} {x:Value} (h:VR ρ (.tuple cs) x):∃cs',x=.tuple cs'∧ea ρ cs cs'.toList:=by
 cases h with
 |tuple hl h=>exact⟨_,rfl,by simpa using hl,fun i a b ha hb=>h i a b ha (by simpa using hb)⟩
theorem VR.gj {ρ:da} {cs:List V} {cs':Array Value} (h:ea ρ cs cs'.toList):VR ρ (.tuple cs) (.tuple cs'):=
 .tuple (by simpa using h.1) fun i a b ha hb=>h.2 i a b ha (by simpa using hb)
theorem VR.LL {ρ:da} {f:FuncId} {cs:List V} {x:Value} (h:VR ρ (.func f cs) x):∃cs',x=.func (.func f) #[] cs'∧ea ρ cs cs'.toList:=by
 cases h with
 |func f hl h=>exact⟨_,rfl,by simpa using hl,fun i a b ha hb=>h i a b ha (by simpa using hb)⟩
theorem VR.LM {ρ:da} {f:FuncId} {cs:List V} {x:Value} (h:VR ρ (.oA f cs) x):∃cs',x=.func (.func f) cs' #[]∧ea ρ cs cs'.toList:=by
 cases h with
 |oA f hl h=>exact⟨_,rfl,by simpa using hl,fun i a b ha hb=>h i a b ha (by simpa using hb)⟩
theorem VR.OY {ρ:da} {f:FuncId} {cs:List V} {cs':Array Value} (h:ea ρ cs cs'.toList):VR ρ (.oA f cs) (.func (.func f) cs' #[]):=
 .oA f (by simpa using h.1) fun i a b ha hb=>h.2 i a b ha (by simpa using hb)
theorem VR.D8 {ρ:da} {t:TypeId} {id:Nat} {x:Value} (h:VR ρ (.dz t id) x):∃b,ρ id=some b∧x=.pointer (some ⟨b,0,none⟩):=by
 cases h with|dz t h=>exact⟨_,h,rfl⟩
theorem VR.HO {ρ:da} {f:FuncId} {cs:List V} {cs':Array Value} (h:ea ρ cs cs'.toList):VR ρ (.func f cs) (.func (.func f) #[] cs'):=
 .func f (by simpa using h.1) fun i a b ha hb=>h.2 i a b ha (by simpa using hb)
theorem VR.hJ {ρ:da} {k:IntKind} {n:Int} {x:Value} (h:VR ρ (.int k n) x):x=.int k n:=by cases h;rfl
theorem VR.Cd {ρ:da} {b:Bool} {x:Value} (h:VR ρ (.bool b) x):x=.bool b:=by cases h;rfl
theorem VR.uQ {ρ:da} {s:ByteArray} {x:Value} (h:VR ρ (.dS s) x):x=.string s:=by cases h;rfl
theorem VR.uR {ρ:da} {id off:Nat} {x:Value} (h:VR ρ (.ak (some (id,off))) x):∃b,ρ id=some b∧x=.pointer (some ⟨b,off,none⟩):=by
 cases h with|ak h=>exact⟨_,h,rfl⟩
theorem VR.eO {ρ:da} {id off n c:Nat} {x:Value} (h:VR ρ (.slice (some (id,off)) n c) x):(∃b,ρ id=some b∧x=.slice (some ⟨b,off,none⟩) n c)∨(n=0∧c=0∧∃a,x=.slice (some a) 0 0):=by
 cases h with
 |slice _ _ h=>exact .inl ⟨_,h,rfl⟩
 |oV p a=>exact .inr ⟨rfl,rfl,a,rfl⟩
theorem VR.kN {ρ:da} {n c:Nat} {x:Value} (h:VR ρ (.slice none n c) x):x=.slice none n c:=by cases h;rfl
theorem VR.one {ρ:da} {v:V} {x:Value} (h:VR ρ v x) (h1:v.one=true):x.oneCell'=true:=by
 cases h<;>simp_all [V.one,Value.oneCell']
theorem VR.cells {ρ:da} {v:V} {x:Value} (h:VR ρ v x) (hh:v≠ .bZ):ea ρ v.cells x.cells.toList:=by
 by_cases hv:∃cs,v=.agg cs
 ·obtain⟨cs,rfl⟩:=hv;obtain⟨cs',rfl,h',_⟩:=h.nL;exact h'
 ·have h1:v.cells=[v]:=by cases v<;>first|rfl|exact(hv ⟨_,rfl⟩).elim
  have h2:x.cells= #[x]:=by cases h<;>first|rfl|exact(hv ⟨_,rfl⟩).elim|exact(hh rfl).elim
  rw[h1,h2];exact .cons h (.nil ρ)
theorem rK {ρ:da} {x:Value} {v:V} (h:ofValue x=some v):VR ρ v x:=by
 unfold ofValue at h;split at h<;>first|(cases h)|skip
 ·exact .bool _
 ·exact .int _ _
 ·exact .dS _
 ·exact .Cc
 ·exact .mK _ _
 ·exact .xB
 ·exact .nilFunc
 ·exact .nilIface
theorem sV {ρ:da}:∀{l:List Value} {m:List V},jy l=some m→ea ρ m l
 |[],m,h=>by simp only[jy,Option.some.injEq] at h;subst h;exact .nil ρ
 |x::l,m,h=>by
  simp only[jy] at h;split at h
  ·rename_i y m' hy hm;simp only[Option.some.injEq] at h;subst h;exact .cons (rK hy) (sV hm)
  ·cases h
theorem vL {x:Value} {v:V} (h:ofValue x=some v):v.one=true:=by
 unfold ofValue at h;split at h<;>first|(cases h;done)|(simp only[Option.some.injEq] at h;subst h;rfl)|cases h
theorem nM:∀{l:List Value} {m:List V},jy l=some m→∀v∈m,v.one=true
 |[],m,h=>by simp only[jy,Option.some.injEq] at h;subst h;intro v hv;cases hv
 |x::l,m,h=>by
  simp only[jy] at h;split at h
  ·rename_i y m' hy hm;simp only[Option.some.injEq] at h;subst h;intro v hv;rcases List.mem_cons.1 hv with rfl|hv
   ·exact vL hy
   ·exact nM hm v hv
  ·cases h
theorem ic {ρ:da} {x:Value} {v:V} (h:kD x=some v):VR ρ v x:=by
 unfold kD at h;split at h
 ·split at h
  ·rename_i cs l hl;simp only[Option.some.injEq] at h;subst h;exact .uP (nM hl) (sV hl)
  ·cases h
 ·exact rK h
theorem j8 {x:Value} {v:V} (h:kD x=some v):∀c∈v.cells,c.one=true:=by
 unfold kD at h;split at h
 ·split at h
  ·rename_i cs l hl;simp only[Option.some.injEq] at h;subst h;exact nM hl
  ·cases h
 ·have h1:=vL h;have:v.cells=[v]:=by cases v<;>first|rfl|(simp [V.one] at h1)
  intro c hc;rw[this] at hc;rcases List.mem_cons.1 hc with rfl|hc
  ·exact h1
  ·cases hc
inductive TR (ρ lam:da):T→Value→Prop where
 |v {x:V} {y:Value} (h:VR ρ x y):TR ρ lam (.v x) y
 |lp {s off b:Nat} (h:lam s=some b):TR ρ lam (.lp s off) (.pointer (some ⟨b,off,none⟩))
 |undef:TR ρ lam .undef (.tuple #[])
def oW (ρ lam:da) (ev:Ev) (e:Operand→Value):Prop:=∀x t,ev x=some t→TR ρ lam t (e x)
theorem oW.v {ρ lam:da} {ev:Ev} {e:Operand→Value} (h:oW ρ lam ev e) {x:Operand} {v:V} (hx:iN ev x=some v):VR ρ v (e x):=by
 unfold iN at hx;split at hx
 ·rename_i y hy;cases hx;have:=h _ _ hy
  cases this with
  |v h=>exact h
 ·cases hx
theorem oW.lp {ρ lam:da} {ev:Ev} {e:Operand→Value} (h:oW ρ lam ev e) {x:Operand} {s off:Nat} (hx:ev x=some (.lp s off)):∃b,lam s=some b∧e x=.pointer (some ⟨b,off,none⟩):=by
 have:=h _ _ hx;generalize e x=y at this
 cases this with
 |lp h=>exact⟨_,h,rfl⟩
theorem oW.tv {ρ lam:da} {ev:Ev} {e:Operand→Value} (h:oW ρ lam ev e) {x:Operand} {v:V} (hx:ev x=some (.v v)):VR ρ v (e x):=by
 have:=h _ _ hx;generalize e x=y at this
 cases this with
 |v h=>exact h
theorem oW.vs {ρ lam:da} {ev:Ev} {e:Operand→Value} (h:oW ρ lam ev e):∀{l:List Operand} {vs:List V},rv ev l=some vs→ea ρ vs (l.map e)
 |[],vs,hx=>by simp only[rv,Option.some.injEq] at hx;subst hx;exact .nil ρ
 |x::l,vs,hx=>by
  simp only[rv] at hx;split at hx
  ·rename_i y m hy hm;simp only[Option.some.injEq] at hx;subst hx;exact .cons (h.v hy) (h.vs hm)
  ·cases hx
def fC (ρ:da) (e:TypeId) (cs:List V) (rw:Bool) (o:Option Go.Obj):Prop:=
 ∃cs' fz,o=some (.cells cs' e fz)∧ea ρ cs cs'.toList∧(rw=true→aY cs)∧(rw=true→fz.1=fz.2∨cs'.size≤fz.1)
def iY (ρ:da):List (V×V×Nat)→List MapEntry→Prop
 |[],[]=>True
 |x::l,y::m=>(VR ρ x.1 y.key∧VR ρ x.2.1 y.val∧x.2.2=y.born)∧iY ρ l m
 |_,_=>False
theorem iY.mono {ρ ρ':da} (h:ρ.le ρ'):∀{l:List (V×V×Nat)} {m:List MapEntry},iY ρ l m→iY ρ' l m
 |[],[],_=>trivial
 |x::l,y::m,hl=>⟨⟨hl.1.1.mono h,hl.1.2.1.mono h,hl.1.2.2⟩,iY.mono h hl.2⟩
 |[],_::_,hl=>hl.elim
 |_::_,[],hl=>hl.elim
def D9 (ρ:da):Obj→Option Go.Obj→Prop
 | .cells e cs ro,o=>fC ρ e cs (!ro) o
 | .map es clock,o=>∃es':Array MapEntry,o=some (.map es' clock)∧iY ρ es es'.toList
 | .dz m bN seen sH,o=>∃m',o=some (.mapIter m' bN seen.toArray sH)∧VR ρ (.map m) (.map m')
def uS (ρ:da):aV→Option Go.Obj→Prop
 | .cells e cs,o=>fC ρ e cs true o
 | .dz s iV,o=>o=some (.stringIter s iV)
def Obj.rw :Obj→Bool
 | .cells _ _ ro=> !ro
 | .map .. =>true
 | .dz .. =>true
def iD (H:ag) (ρ:da) (b:Nat):Prop:=∃id o,H.get id=some o∧ρ id=some b
def nN (H:ag) (ρ:da) (b:Nat):Prop:=∃id o,H.get id=some o∧o.rw =true∧ρ id=some b
structure HR (ρ:da) (H:ag) (w:World):Prop where
 vM:∀id o,H.get id=some o→∃b,ρ id=some b∧D9 ρ o w.heap[b]?
 inj:∀id id' o o' b,H.get id=some o→H.get id'=some o'→o.rw =true→ρ id=some b→ρ id'=some b→id=id'
 lt:∀id b,ρ id=some b→id<H.next∧b<w.heap.size
 gl:∀g∈Lz,ρ g=some g
structure kO (H0:ag) (ρ0:da) (w0:World) (H:ag) (ρ:da) (w:World):Prop where
 le:ρ0.le ρ
 frame:∀b,b<w0.heap.size→¬nN H0 ρ0 b→w.heap[b]? =w0.heap[b]?
 iD:∀b,iD H ρ b→iD H0 ρ0 b∨w0.heap.size≤b
 nN:∀b,nN H ρ b→nN H0 ρ0 b∨w0.heap.size≤b
 size:w0.heap.size≤w.heap.size
 os:w.os=w0.os
 tape:w.tape=w0.tape
 output:w.output=w0.output
theorem kO.refl (H:ag) (ρ:da) (w:World):kO H ρ w H ρ w:=
 ⟨.refl ρ,fun _ _ _=>rfl,fun _ h=>.inl h,fun _ h=>.inl h,Nat.le_refl _,rfl,rfl,rfl⟩
theorem kO.trans {H0 H1 H2:ag} {ρ0 ρ1 ρ2:da} {w0 w1 w2:World} (h:kO H0 ρ0 w0 H1 ρ1 w1) (k:kO H1 ρ1 w1 H2 ρ2 w2):kO H0 ρ0 w0 H2 ρ2 w2 where
 le:=h.le.trans k.le
 frame:=fun b hb ho=>by
  have h1:¬Am.nN H1 ρ1 b:=fun h1=>(h.nN b h1).elim ho fun h=>by omega
  rw[k.frame b (by have:=h.size;omega) h1,h.frame b hb ho]
 iD:=fun b hb=>(k.iD b hb).elim (h.iD b) fun h'=>.inr (by have:=h.size;omega)
 nN:=fun b hb=>(k.nN b hb).elim (h.nN b) fun h'=>.inr (by have:=h.size;omega)
 size:=Nat.le_trans h.size k.size
 os:=k.os.trans h.os
 tape:=k.tape.trans h.tape
 output:=k.output.trans h.output
structure SR (H0:ag) (ρ0:da) (w0:World) (ann:bO) (N:Nat) (ρ lam:da) (S:St) (a:Act) (w:World):Prop where
 defers:a.defers=[]
 size:a.tmps.size=N
 tm:∀t x,S.tm t=some x→TR ρ lam x (a.tmps.getD t undef)
 JH:∀t s off,S.tm t=some (.lp s off)→ab ann.aT t=some s
 lo:∀s L,S.lo s=some L→∃b,lam s=some b∧uS ρ L w.heap[b]? ∧b<w.heap.size∧w0.heap.size≤b∧¬iD S.hp ρ b
 sW:∀s s' L L' b,S.lo s=some L→S.lo s'=some L'→lam s=some b→lam s'=some b→s=s'
 hr:HR ρ S.hp w
 bN:kO H0 ρ0 w0 S.hp ρ w
theorem SR.ev {H0:ag} {ρ0:da} {w0:World} {ann:bO} {N:Nat} {ρ lam:da} {S:St} {a:Act} {w:World} (h:SR H0 ρ0 w0 ann N ρ lam S a w):oW ρ lam (cH S.tm) a.eval:=by
 intro x t hx
 cases x with
 |tmp s=>exact h.tm s t hx
 |const v=>
  simp only[cH] at hx;split at hx
  ·rename_i y hy;cases hx;exact .v (rK hy)
  ·cases hx
 |func f=>simp only[cH,Option.some.injEq] at hx;subst hx;exact .v (.func f rfl fun i x y hx=>by simp at hx)
 |global g=>cases hx
theorem jw {E:jR} {t:Nat} {i:TI} (h:E.ti t=some i):∃cU d,E.P.info? t=some cU∧E.P.underlying t=some d∧bf d=i.sh∧cU.size=i.size∧cU.bytes=i.bytes∧cU.zero.bind kD=i.zero:=by
 have h:=E.ti_ok t i h;unfold OS at h;split at h
 ·rename_i cU d h1 h2;simp only[Option.some.injEq] at h;subst h;exact⟨cU,d,h1,h2,rfl,rfl,rfl,rfl⟩
 ·cases h
theorem ji {P:Program} {t:TypeId} {d:TypeDesc} (h:P.underlying t=some d) (w:World):(isAgg t).run P w=.ok (ix d) w:=by
 simp only[isAgg,Sem.run_bind,run_underlying h,Result.andThen_ok];cases d<;>rfl
theorem Gu {d:TypeDesc} {k:bX} (h:cC (bf d)=some k):ix d=false:=by
 cases d<;>simp_all [bf,cC,ix]
def HP (P:Program) (t:TypeId) (cs:List Value) (x:Value):Prop:=
 ∃d,P.underlying t=some d∧((ix d=true∧x=.agg cs.toArray)∨(ix d=false∧cs=[x]))
theorem Ce {P:Program} {t:TypeId} {d:TypeDesc} {cU:TypeInfo} (hu:P.underlying t=some d) (hi:P.info? t=some cU) (cs:Array Value) (off n:Nat) (hn:off+n≤cs.size) (hs:cU.size=n) (h1:ix d=false→n=1) (w:World):∃x,(part t cs off).run P w=.ok x w∧HP P t ((cs.toList.drop off).take n) x:=by
 cases ha:ix d
 ·have X5:=h1 ha;subst X5;have hlt:off<cs.size:=by omega
  refine⟨cs[off], ?_,d,hu,.inr ⟨ha, ?_⟩⟩
  ·simp [part,ji hu,ha,Array.getElem?_eq_getElem hlt]
  ·have:cs.toList.drop off=cs[off]::cs.toList.drop (off+1):=by
    rw[List.drop_eq_getElem_cons (by simpa using hlt)];rfl
   rw[this];rfl
 ·refine⟨.agg (cs.extract off (off+n)), ?_,d,hu,.inl ⟨ha, ?_⟩⟩
  ·simp [part,ji hu,ha,run_sizeOf w hi,Program.cellsOf,hi,hs]
  ·congr 1;apply Array.ext';simp [List.extract_eq_take_drop]
theorem kP:∀{a c:List V} (b d:List V) {r:Bool},a.length=c.length→dN (a++b) (c++d)=some r→∃x y,dN a c=some x∧dN b d=some y∧r=(x&&y)
 |[],[],b,d,r,_,h=>⟨true,r,rfl,h,by simp⟩
 |x::l,y::m,b,d,r,hl,h=>by
  have ih:∀{r},dN (l++b) (m++d)=some r→_:=fun h=>kP (a:=l) (c:=m) b d (by simpa using hl) h
  cases x<;>cases y<;>simp only[List.cons_append,dN] at h⊢ <;>try (cases h;done)
  ·split at h
   ·rename_i e q hq;obtain⟨u,v,h1,h2,rfl⟩:=ih hq;simp only[Option.some.injEq] at h;exact⟨_,v,by rw[h1],h2,by rw[←h,Bool.and_assoc]⟩
   ·cases h
  ·rename_i k p k' q;by_cases hk:k=k'
   ·simp only[hk,mA,decide_true,cond_true] at h⊢;split at h
    ·rename_i e s hs;obtain⟨u,v,h1,h2,rfl⟩:=ih hs;simp only[Option.some.injEq] at h;exact⟨_,v,by rw[h1],h2,by rw[←h,Bool.and_assoc]⟩
    ·cases h
   ·simp [hk] at h
  ·split at h
   ·rename_i e q hq;obtain⟨u,v,h1,h2,rfl⟩:=ih hq;simp only[Option.some.injEq] at h;exact⟨_,v,by rw[h1],h2,by rw[←h,Bool.and_assoc]⟩
   ·cases h
theorem eP:∀{ks:List bX} {vs:List V},aI ks vs=true→ks.length=vs.length
 |[],[],_=>rfl
 |[],_::_,h=>by simp [aI] at h
 |_::_,[],h=>by simp [aI] at h
 |_::ks,_::vs,h=>by rw[aI,Bool.and_eq_true] at h;simp [eP h.2]
theorem jC:∀{a b:List bX} {vs:List V},aI (a++b) vs=true→aI a (vs.take a.length)=true∧aI b (vs.drop a.length)=true
 |[],b,vs,h=>by simpa [aI] using h
 |k::a,b,[],h=>by simp [aI] at h
 |k::a,b,v::vs,h=>by
  rw[List.cons_append,aI,Bool.and_eq_true] at h;obtain⟨h1,h2⟩:=jC h.2;simp [aI,h.1,h1,h2]
theorem LO (n:Nat) (ks:List bX):(zL n ks).length=n*ks.length:=by
 induction n with
 |zero=>simp [zL]
 |succ n ih=>simp [zL,ih,Nat.add_mul];omega
section
variable {P:Program} {ρ:da}
def OZ (P:Program) (ρ:da) (D:Nat) (t:TypeId) (ks:List bX):Prop:=
 ∀(w:World) (xv yv:List V) (xs ys:List Value) (x y:Value) (b:Bool),aI ks xv=true→aI ks yv=true→ea ρ xv xs→ea ρ yv ys→dN xv yv=some b→
  HP P t xs x→HP P t ys y→(Op.equalIn D t x y).run P w=.ok b w
theorem gY {α:Type} (l:List α) (a n:Nat):l.drop a=(l.drop a).take n++l.drop (a+n):=by
 rw[←List.drop_drop,List.take_append_drop]
theorem QJ {d:Nat} {t:TypeId} {ks:List bX} (h:kF P d t=some ks):∃D,P.underlying t=some D∧(ix D=false→ks.length=1)∧(ix D=true→P.cellsOf t=ks.length):=by
 cases d with
 |zero=>cases h
 |succ d=>
  unfold kF at h;split at h
  ·rename_i hu;simp only[Option.some.injEq] at h;subst h;exact⟨_,hu,fun _=>rfl,fun h=>by simp [ix] at h⟩
  ·rename_i hu;simp only[Option.some.injEq] at h;subst h;exact⟨_,hu,fun _=>rfl,fun h=>by simp [ix] at h⟩
  ·rename_i hu;simp only[Option.some.injEq] at h;subst h;exact⟨_,hu,fun _=>rfl,fun h=>by simp [ix] at h⟩
  ·rename_i hu;refine⟨_,hu,fun h=>by simp [ix] at h,fun _=> ?_⟩;cases hp:P.stoodInHeld t
   ·simp only[hp,cond_false] at h;split at h
    ·rename_i m _;by_cases hc:P.cellsOf t=m.length
     ·simp only[aP,hc,decide_true,cond_true,Option.some.injEq] at h;rw[←h,hc]
     ·simp [aP,hc] at h
    ·cases h
   ·simp [hp] at h
  ·rename_i k e hu;refine⟨_,hu,fun h=>by simp [ix] at h,fun _=> ?_⟩;split at h
   ·rename_i m _;by_cases FR:P.cellsOf e=m.length
    ·by_cases Ga:P.cellsOf t=k*m.length
     ·simp only[aP,FR,Ga,decide_true,Bool.and_self,cond_true,Option.some.injEq] at h;rw[←h,LO,Ga]
     ·simp [aP,Ga] at h
    ·simp [aP,FR] at h
   ·cases h
  ·cases h
theorem jx {d:Nat} {t:TypeId} {ks:List bX} (h:kF P d t=some ks) (cs:Array Value) (off:Nat) (hn:off+ks.length≤cs.size) (w:World):∃x,(part t cs off).run P w=.ok x w∧HP P t ((cs.toList.drop off).take ks.length) x:=by
 obtain⟨D,hu,h1,h2⟩:=QJ h;obtain⟨cU,hi⟩:=info_of_underlying hu;cases ha:ix D
 ·have X5:=h1 ha;have hlt:off<cs.size:=by omega
  refine⟨cs[off], ?_,D,hu,.inr ⟨ha, ?_⟩⟩
  ·simp [part,ji hu,ha,Array.getElem?_eq_getElem hlt]
  ·have:cs.toList.drop off=cs[off]::cs.toList.drop (off+1):=by
    rw[List.drop_eq_getElem_cons (by simpa using hlt)];rfl
   rw[this,X5];rfl
 ·exact Ce hu hi cs off _ hn (by have:=h2 ha;simpa [Program.cellsOf,hi] using this) (fun h=>by rw[ha] at h;cases h) w
theorem xC {d D:Nat} (ih:∀t ks,kF P d t=some ks→OZ P ρ D t ks) (xs ys:Array Value) (w:World):∀(l:List Field) (o:Nat) (ks:List bX) (xv yv:List V) (b:Bool),kE (kF P d) l o=some ks→o≤xv.length→o≤yv.length→aI ks (xv.drop o)=true→aI ks (yv.drop o)=true→ea ρ xv xs.toList→ea ρ yv ys.toList→dN (xv.drop o) (yv.drop o)=some b→(Op.eqFields D xs ys l).run P w=.ok b w
 |[],o,ks,xv,yv,b,h,hx,hy,fx,fy,_,_,he=>by
  simp only[kE,Option.some.injEq] at h;subst h;have l1:=eP fx;have l2:=eP fy;rw[List.eq_nil_of_length_eq_zero l1.symm,List.eq_nil_of_length_eq_zero l2.symm] at he;simp only[dN,Option.some.injEq] at he;subst he;simp [Op.eqFields]
 |f::l,o,ks,xv,yv,b,h,hx,hy,fx,fy,Lb,Lc,he=>by
  unfold kE at h;cases hc:(f.name != "_" &&Nat.beq f.offset o)
  ·simp [hc] at h
  ·simp only[hc,cond_true] at h;rw[Bool.and_eq_true] at hc;have hname:f.name≠ "_" :=by simpa using hc.1
   have hoff:f.offset=o:=Nat.eq_of_beq_eq_true hc.2;split at h
   ·rename_i m hm;split at h
    ·rename_i r hr;simp only[Option.some.injEq] at h;subst h;have l1:=eP fx;have l2:=eP fy;simp only[List.length_append,List.length_drop] at l1 l2;obtain⟨fx1,X6⟩:=jC fx;obtain⟨fy1,X7⟩:=jC fy;rw[List.drop_drop] at X6 X7;have hxs:xs.size=xv.length:=by have:=Lb.1;simp at this;omega
     have hys:ys.size=yv.length:=by have:=Lc.1;simp at this;omega
     obtain⟨x,hx1,uH⟩:=jx hm xs o (by omega) w;obtain⟨y,hy1,Rt⟩:=jx hm ys o (by omega) w;rw[gY xv o m.length,gY yv o m.length] at he;obtain⟨u,v,h1,h2,rfl⟩:=kP _ _ (by simp;omega) he;have e1:=ih _ _ hm w _ _ _ _ x y u fx1 fy1 ((Lb.drop o).take m.length) ((Lc.drop o).take m.length) h1 uH Rt;have e2:=xC ih xs ys w l (o+m.length) r xv yv v hr (by omega) (by omega) X6 X7 Lb Lc h2;rw[Op.eqFields];simp only[if_pos hname,Sem.run_bind,hoff,hx1,hy1,e1,Result.andThen_ok];cases u
     ·simp
     ·simpa using e2
    ·cases h
   ·cases h
theorem Az {d D:Nat} {m:List bX} {e:TypeId} (ih:OZ P ρ D e m) (hm:kF P d e=some m) (xs ys:Array Value) (w:World):∀(k i:Nat) (xv yv:List V) (b:Bool),i*m.length≤xv.length→i*m.length≤yv.length→aI (zL k m) (xv.drop (i*m.length))=true→aI (zL k m) (yv.drop (i*m.length))=true→ea ρ xv xs.toList→ea ρ yv ys.toList→dN (xv.drop (i*m.length)) (yv.drop (i*m.length))=some b→(Op.eqItems D e m.length xs ys (List.range' i k)).run P w=.ok b w
 |0,i,xv,yv,b,hx,hy,fx,fy,_,_,he=>by
  have l1:=eP fx;have l2:=eP fy;rw[zL,List.length_nil] at l1 l2;rw[List.eq_nil_of_length_eq_zero l1.symm,List.eq_nil_of_length_eq_zero l2.symm] at he;simp only[dN,Option.some.injEq] at he;subst he;simp [Op.eqItems]
 |k+1,i,xv,yv,b,hx,hy,fx,fy,Lb,Lc,he=>by
  rw[zL] at fx fy;have l1:=eP fx;have l2:=eP fy;simp only[List.length_append,List.length_drop] at l1 l2;obtain⟨fx1,X6⟩:=jC fx;obtain⟨fy1,X7⟩:=jC fy;have hs:i*m.length+m.length=(i+1)*m.length:=by rw[Nat.add_mul,Nat.one_mul]
  rw[List.drop_drop,hs] at X6 X7;have hxs:xs.size=xv.length:=by have:=Lb.1;simp at this;omega
  have hys:ys.size=yv.length:=by have:=Lc.1;simp at this;omega
  obtain⟨x,hx1,uH⟩:=jx hm xs (i*m.length) (by omega) w;obtain⟨y,hy1,Rt⟩:=jx hm ys (i*m.length) (by omega) w;rw[gY xv (i*m.length) m.length,gY yv (i*m.length) m.length] at he;obtain⟨u,v,h1,h2,rfl⟩:=kP _ _ (by simp;omega) he;have e1:=ih w _ _ _ _ x y u fx1 fy1 ((Lb.drop _).take _) ((Lc.drop _).take _) h1 uH Rt;rw[hs] at h2;have e2:=Az ih hm xs ys w k (i+1) xv yv v (by omega) (by omega) X6 X7 Lb Lc h2;rw[List.range'_succ];simp only[Op.eqItems,Sem.run_bind,hx1,hy1,e1,Result.andThen_ok];cases u
  ·simp
  ·simpa using e2
theorem uT {t:TypeId} {d:TypeDesc} {k:bX} {D:Nat} (hu:P.underlying t=some d) (ha:ix d=false) (hk:∀(w:World) (p q:V) (x y:Value) (b:Bool),p.aw k=true→q.aw k=true→VR ρ p x→VR ρ q y→dN [p] [q]=some b→(Op.equalIn D t x y).run P w=.ok b w):OZ P ρ D t [k]:=by
 intro w xv yv xs ys x y b fx fy Lb Lc he T8 X8;obtain⟨dx,Ru,X9⟩:=T8;obtain⟨dy,Rv,Ya⟩:=X8;rw[hu] at Ru Rv;cases Ru;cases Rv;rcases X9 with⟨h',_⟩|⟨_,rfl⟩
 ·rw[ha] at h';cases h'
 rcases Ya with⟨h',_⟩|⟨_,rfl⟩
 ·rw[ha] at h';cases h'
 match xv,yv,fx,fy with
 |[p],[q],fx,fy=>
  simp only[aI,Bool.and_true] at fx fy;exact hk w p q x y b fx fy (Lb.2 0 p x rfl rfl) (Lc.2 0 q y rfl rfl) he
 |[],_,fx,_=>simp [aI] at fx
 |_::_::_,_,fx,_=>simp [aI] at fx
 |[_],[],_,fy=>simp [aI] at fy
 |[_],_::_::_,_,fy=>simp [aI] at fy
theorem O0:∀(d:Nat) (t:TypeId) (ks:List bX),kF P d t=some ks→∀D,d≤D→OZ P ρ D t ks:=by
 intro d
 induction d with
 |zero=>intro t ks h;cases h
 |succ d ih=>
  intro t ks h D hD;obtain⟨D,rfl⟩:∃D',D=D'+1:=⟨D-1,by omega⟩;unfold kF at h;split at h
  ·rename_i hu;simp only[Option.some.injEq] at h;subst h;refine uT hu rfl fun w p q x y b kp kq hp hq he=> ?_
   cases hp<;>simp [V.aw] at kp
   cases hq<;>simp [V.aw] at kq
   simp [dN] at he;simp [Op.equalIn,run_underlying hu,he]
  ·rename_i k hu;simp only[Option.some.injEq] at h;subst h;refine uT hu rfl fun w p q x y b kp kq hp hq he=> ?_
   cases hp<;>simp [V.aw] at kp
   cases hq<;>simp [V.aw] at kq
   subst kp;subst kq;simp [dN] at he;simp [Op.equalIn,run_underlying hu,he]
  ·rename_i hu;simp only[Option.some.injEq] at h;subst h;refine uT hu rfl fun w p q x y b kp kq hp hq he=> ?_
   cases hp<;>simp [V.aw] at kp
   cases hq<;>simp [V.aw] at kq
   simp [dN] at he;simp [Op.equalIn,run_underlying hu,he]
  ·rename_i fs hu;intro w xv yv xs ys x y b fx fy Lb Lc he T8 X8;cases hp:P.stoodInHeld t
   ·simp only[hp,cond_false] at h;split at h
    ·rename_i m hm
     have hmn:m=ks:=by
      by_cases hc:P.cellsOf t=m.length
      ·simpa [aP,hc] using h
      ·simp [aP,hc] at h
     subst hmn;obtain⟨dx,Ru,X9⟩:=T8;obtain⟨dy,Rv,Ya⟩:=X8;rw[hu] at Ru Rv;cases Ru;cases Rv;rcases X9 with⟨_,rfl⟩|⟨h',_⟩
     ·rcases Ya with⟨_,rfl⟩|⟨h',_⟩
      ·have hf:P.fieldsOf t=fs:=by simp [Program.fieldsOf,hu]
       rw[run_equalIn_struct (P:=P) w D t _ _ (by rw[hf];exact hu) hp,hf];exact xC (fun t n h=>ih t n h D (by omega)) _ _ w fs.toList 0 m xv yv b hm (by omega) (by omega) (by simpa using fx) (by simpa using fy) (by simpa using Lb) (by simpa using Lc) (by simpa using he)
      ·simp [ix] at h'
     ·simp [ix] at h'
    ·cases h
   ·simp [hp] at h
  ·rename_i k e hu;intro w xv yv xs ys x y b fx fy Lb Lc he T8 X8;split at h
   ·rename_i m hm
    have hc:P.cellsOf e=m.length∧ks=zL k m:=by
     by_cases FR:P.cellsOf e=m.length
     ·by_cases Ga:P.cellsOf t=k*m.length
      ·simp only[aP,FR,Ga,decide_true,Bool.and_self,cond_true,Option.some.injEq] at h;exact⟨FR,h.symm⟩
      ·simp [aP,Ga] at h
     ·simp [aP,FR] at h
    obtain⟨FR,rfl⟩:=hc;obtain⟨dx,Ru,X9⟩:=T8;obtain⟨dy,Rv,Ya⟩:=X8;rw[hu] at Ru Rv;cases Ru;cases Rv;rcases X9 with⟨_,rfl⟩|⟨h',_⟩
    ·rcases Ya with⟨_,rfl⟩|⟨h',_⟩
     ·obtain⟨De,Qm,_⟩:=QJ hm;obtain⟨cU,hi⟩:=info_of_underlying Qm;rw[run_equalIn_array w D _ _ hu hi,FR,List.range_eq_range'];exact Az (ih e m hm D (by omega)) hm _ _ w k 0 xv yv b (by omega) (by omega) (by simpa using fx) (by simpa using fy) (by simpa using Lb) (by simpa using Lc) (by simpa using he)
     ·simp [ix] at h'
    ·simp [ix] at h'
   ·cases h
  ·cases h
end
section
variable {E:jR} {ρ lam:da} {w:World}
theorem uU {t:TypeId} {k:bX} (h:aZ E t=some k):∃d cU,E.P.underlying t=some d∧E.P.info? t=some cU∧cC (bf d)=some k∧ix d=false:=by
 unfold aZ at h;split at h
 ·rename_i i hi;obtain⟨cU,d,h1,h2,h3,_⟩:=jw hi;exact⟨d,cU,h2,h1,by rw[h3];exact h,Gu (by rw[h3];exact h)⟩
 ·cases h
theorem xD {t:TypeId} {ks:List bX} (h:nB E t=some ks):∃d cU z,E.P.underlying t=some d∧E.P.info? t=some cU∧ix d=true∧cU.zero.bind kD=some (.agg z)∧ks=z.map V.cK:=by
 unfold nB at h;split at h
 ·rename_i i hi;obtain⟨cU,d,h1,h2,h3,h4,h5,h6⟩:=jw hi;split at h
  ·rename_i n e z hs hz;simp only[Option.some.injEq] at h;refine⟨d,cU,z,h2,h1, ?_,by rw[h6,hz],h.symm⟩;rw[hs] at h3;cases d<;>simp_all [bf,ix]
  ·rename_i fs z hs hz;simp only[Option.some.injEq] at h;refine⟨d,cU,z,h2,h1, ?_,by rw[h6,hz],h.symm⟩;rw[hs] at h3;cases d<;>simp_all [bf,ix]
  ·cases h
 ·cases h
theorem JI {t:TypeId} {n:Nat} (h:size E t=some n):∃cU,E.P.info? t=some cU∧cU.size=n:=by
 unfold size at h;split at h
 ·rename_i i hi;obtain⟨cU,d,h1,h2,h3,h4,h5,h6⟩:=jw hi;simp only[Option.some.injEq] at h;exact⟨cU,h1,by omega⟩
 ·cases h
theorem eQ {t:TypeId} {n:Nat} (h:size E t=some n) (w:World):(sizeOf t).run E.P w=.ok n w:=by
 obtain⟨cU,h1,h2⟩:=JI h;simp [sizeOf,typeInfo,h1,h2]
theorem km:∀{ks:List bX} {cs:List V} {l:List V} {j:Nat},aI ks cs=true→l.drop j=cs→ny ks l j=cs
 |[],[],_,_,_,_=>rfl
 |[],_::_,_,_,h,_=>by simp [aI] at h
 |_::_,[],_,_,h,_=>by simp [aI] at h
 |k::ks,c::cs,l,j,h,hl=>by
  rw[aI,Bool.and_eq_true] at h
  have hj:j<l.length:=by
   rcases Nat.lt_or_ge j l.length with h|h
   ·exact h
   ·rw[List.drop_eq_nil_of_le h] at hl;cases hl
  have h0:ae l j=c:=by
   have h1:=qe hj
   have h2:l[j]? =some c:=by
    have:(l.drop j)[0]? =some c:=by rw[hl];rfl
    simpa using this
   rw[h1] at h2;exact Option.some.inj h2
  rw[ny,h0,V.rk h.1,km (j:=j+1) h.2 (by rw[←List.drop_drop,hl];rfl)]
theorem sX {v:V} (h:v.isAgg=true):v=.agg v.af:=by cases v<;>simp_all [V.isAgg,V.af]
theorem kQ {t:TypeId} {v y:V} {r:Bool} (h:sJ E t v=some (r,y)) (hr:r=true):y=v:=by
 unfold sJ at h;split at h
 ·simp only[Option.some.injEq,Prod.mk.injEq] at h;rw[←h.2];exact V.rk (h.1.trans hr)
 ·split at h
  ·simp only[Option.some.injEq,Prod.mk.injEq] at h;have h1:=h.1.trans hr;rw[Bool.and_eq_true] at h1;rw[←h.2,km h1.2 rfl];exact(sX h1.1).symm
  ·cases h
theorem xE:∀{ts:List TypeId} {v:V} {j:Nat} {r:Bool} {l:List V},sK E ts v j=some (r,l)→r=true→v.aj.length=j+ts.length→l=v.aj.drop j
 |[],v,j,r,l,h,_,hl=>by
  simp only[sK,Option.some.injEq,Prod.mk.injEq] at h;rw[←h.2,List.drop_eq_nil_of_le (by simp at hl;omega)]
 |t::ts,v,j,r,l,h,hr,hl=>by
  simp only[sK] at h;split at h
  ·rename_i b x c l' h1 h2;simp only[Option.some.injEq,Prod.mk.injEq] at h;have hb:=h.1.trans hr;rw[Bool.and_eq_true] at hb;have e1:=kQ h1 hb.1;have e2:=xE h2 hb.2 (by simp at hl;omega);have hj:j<v.aj.length:=by simp at hl;omega
   rw[←h.2,e1,e2];have:=qe hj;rw[List.getElem?_eq_getElem hj] at this;rw[List.drop_eq_getElem_cons hj, ←Option.some.inj this]
  ·cases h
theorem LP {t:TypeId} {v y:V} {r:Bool} (h:sL E t v=some (r,y)) (hr:r=true):y=v:=by
 unfold sL at h;split at h
 ·split at h
  ·simp only[Option.some.injEq,Prod.mk.injEq] at h;exact h.2.symm
  ·split at h
   ·rename_i ts _ _ _ b l h1;simp only[Option.some.injEq,Prod.mk.injEq] at h;have hb:=h.1.trans hr;rw[Bool.and_eq_true] at hb
    have hv:v=.tuple v.aj∧v.aj.length=ts.length:=by
     cases v<;>simp_all [V.aH,V.aj]
    have:=xE h1 hb.2 (by omega);rw[←h.2,this,List.drop_zero];exact hv.1.symm
   ·cases h
  ·exact kQ h hr
 ·cases h
theorem xF {t:TypeId} {cs:List V} {off:Nat} {r:Bool} {v:V} {cs':Array Value} (h:l6 E t cs off=some (r,v)) (hr:r=true) (h1:aY cs) (hcs:ea ρ cs cs'.toList) (w:World):∃v',(part t cs' off).run E.P w=.ok v' w∧VR ρ v v':=by
 unfold l6 at h;split at h
 ·rename_i k hk;obtain⟨d,cU,hu,hi,_,ha⟩:=uU hk;simp only[Option.some.injEq,Prod.mk.injEq] at h;have wi:=h.1.trans hr;rw[Bool.and_eq_true] at wi;have hlt:off<cs.length:=by simpa using wi.1
  obtain⟨y,hy,hv⟩:=hcs.nth hlt;refine⟨y, ?_,by rw[←h.2,V.rk wi.2];exact hv⟩;have hy':cs'[off]? =some y:=by simpa using hy
  simp [part,ji hu,ha,hy']
 ·split at h
  ·rename_i ks n hks hn;obtain⟨d,cU,z,hu,hi,ha,_⟩:=xD hks;simp only[Option.some.injEq,Prod.mk.injEq] at h;refine⟨.agg (cs'.extract off (off+n)), ?_, ?_⟩
   ·simp [part,ji hu,ha,eQ hn]
   ·rw[←h.2];refine .uP (fun c hc=>h1 c (List.mem_of_mem_drop (List.mem_of_mem_take hc))) ?_;have:=(hcs.drop off).take n;simpa [List.extract_eq_take_drop] using this
  ·cases h
theorem LQ {op:BinOp} {k:IntKind} {x y:Int} {r:Bool} {v:V} (h:uK op k x y=some (r,v)) (hr:r=true) (t:TypeId):∃v',(binOp op t (.int k x) (.int k y)).run E.P w=.ok v' w∧VR ρ v v':=by
 subst hr
 cases op<;>simp only[uK,Option.some.injEq,Prod.mk.injEq] at h<;>obtain⟨h1,rfl⟩:=h<;>
  simp only[binOp,ne_eq,not_true,if_false,Op.intArith,Op.intCmp,Op.intBits,Op.intDiv,Op.shift]<;>
  first
   |exact⟨_,rfl,.int _ _⟩
   |exact⟨_,rfl,.bool _⟩
   |(have h1:¬y=0:=by simpa using h1
     rw[if_neg h1];exact⟨_,rfl,.int _ _⟩)
   |(have h1:¬y<0:=by simpa using h1
     rw[if_neg h1];exact⟨_,rfl,.int _ _⟩)
theorem xG {op:BinOp} (hop:op=.shl∨op=.shr) {k k':IntKind} {x y:Int} {r:Bool} {v:V} (h:uK op k x y=some (r,v)) (hr:r=true) (t:TypeId):∃v',(binOp op t (.int k x) (.int k' y)).run E.P w=.ok v' w∧VR ρ v v':=by
 subst hr
 rcases hop with rfl|rfl<;>simp only[uK,Option.some.injEq,Prod.mk.injEq] at h<;>obtain⟨h1,rfl⟩:=h<;>
  simp only[binOp,Op.shift]<;>
  (have h1:¬y<0:=by simpa using h1
   rw[if_neg h1];exact⟨_,rfl,.int _ _⟩)
theorem O1:IntKind.i64.max=9223372036854775807:=by decide
theorem LR {op:BinOp} {x y:ByteArray} {r:Bool} {v:V} (h:Gj op x y=some (r,v)) (hr:r=true) (t:TypeId):∃v',(binOp op t (.string x) (.string y)).run E.P w=.ok v' w∧VR ρ v v':=by
 subst hr
 cases op<;>simp only[Gj,Option.some.injEq,Prod.mk.injEq] at h<;>first
  |(cases h;done)
  |(obtain⟨h1,rfl⟩:=h
    simp only[binOp,Op.stringOp,mD]
    first
     |exact⟨_,rfl,.bool _⟩
     |(have h1:¬((x.size+y.size:Nat):Int)>IntKind.i64.max:=by rw[O1];unfold LB at h1;have:=Nat.le_of_ble_eq_true h1;omega
       rw[if_neg h1];exact⟨_,rfl,.dS _⟩))
theorem bG {t:TypeId} {k:bX} (h:aZ E t=some k):∃d,E.P.underlying t=some d∧cC (bf d)=some k:=by
 obtain⟨d,_,h1,_,h2,_⟩:=uU h;exact⟨d,h1,h2⟩
set_option maxHeartbeats 2000000 in
theorem qU {t:TypeId} {nils:Bool} {a b:V} {a' b':Value} {x y:Operand} {op:BinOp} {r q:Bool} (hc:nils=true→∃v,y=.const v)
 {D:Nat} (hD:50≤D+1) (ha:VR ρ a a') (hb:VR ρ b b') (h:iy E t nils a b=some (r,q)) (hr:r=true):
 (eqGuard op t x y a' b').run E.P w=.ok () w∧(Op.equalIn (D+1) t a' b').run E.P w=.ok q w:=by
 subst hr;unfold iy at h;split at h
 ·split at h
  ·rename_i hk;obtain⟨d,hu,hd⟩:=bG hk;simp only[Option.some.injEq,Prod.mk.injEq,true_and] at h;cases ha;cases hb;cases d<;>simp [bf,cC] at hd
   refine⟨by cases op<;>simp [eqGuard],by simp [Op.equalIn,run_underlying hu, ←h]⟩
  ·cases h
 ·split at h
  ·rename_i hk;obtain⟨d,hu,hd⟩:=bG hk;simp only[Option.some.injEq,Prod.mk.injEq,true_and] at h;cases hb;cases d<;>simp [bf,cC] at hd
   cases ha<;>exact⟨by cases op<;>simp [eqGuard],by simp [Op.equalIn,run_underlying hu, ←h]⟩
  ·cases h
 ·split at h
  ·rename_i hk;obtain⟨d,hu,hd⟩:=bG hk;simp only[Option.some.injEq,Prod.mk.injEq,true_and] at h;cases ha;cases d<;>simp [bf,cC] at hd
   cases hb<;>exact⟨by cases op<;>simp [eqGuard],by simp [Op.equalIn,run_underlying hu, ←h]⟩
  ·cases h
 ·split at h
  ·rename_i hk;obtain⟨d,hu,hd⟩:=bG hk;simp only[Option.some.injEq,Prod.mk.injEq,true_and] at h;cases hb;cases d<;>simp [bf,cC] at hd
   cases ha<;>exact⟨by cases op<;>simp [eqGuard],by simp [Op.equalIn,run_underlying hu, ←h]⟩
  ·cases h
 ·split at h
  ·rename_i hk;obtain⟨d,hu,hd⟩:=bG hk;simp only[Option.some.injEq,Prod.mk.injEq,true_and] at h;cases ha;cases d<;>simp [bf,cC] at hd
   cases hb<;>exact⟨by cases op<;>simp [eqGuard],by simp [Op.equalIn,run_underlying hu, ←h]⟩
  ·cases h
 ·split at h
  ·rename_i hk;obtain⟨d,hu,hd⟩:=bG hk;simp only[Option.some.injEq,Prod.mk.injEq,true_and] at h;cases hb;cases d<;>simp [bf,cC] at hd
   cases ha<;>exact⟨by cases op<;>simp [eqGuard],by simp [Op.equalIn,run_underlying hu, ←h]⟩
  ·cases h
 ·split at h
  ·rename_i hk;obtain⟨d,hu,hd⟩:=bG hk;simp only[Option.some.injEq,Prod.mk.injEq,true_and] at h;cases ha;cases d<;>simp [bf,cC] at hd
   cases hb<;>exact⟨by cases op<;>simp [eqGuard],by simp [Op.equalIn,run_underlying hu, ←h]⟩
  ·cases h
 ·rename_i xs ys;split at h
  ·rename_i ks b hk hb';simp only[Option.some.injEq,Prod.mk.injEq,Bool.and_eq_true,dZ,hb'] at h;obtain⟨⟨h1,h2⟩,rfl⟩:=h;have hq:=E.eq_ok t ks hk;simp only[JA,Bool.and_eq_true,Bool.not_eq_true',decide_eq_true_eq] at hq;obtain⟨xs',rfl,hx,_⟩:=ha.nL;obtain⟨ys',rfl,hy,_⟩:=hb.nL;refine⟨run_eqGuard_agg w op t x y _ _ hq.1.1, ?_⟩;have key:=O0 (P:=E.P) (ρ:=ρ) 50 t ks hq.1.2 (D+1) hD w xs ys xs'.toList ys'.toList (.agg xs') (.agg ys') b h1 h2 hx hy hb';have OL:=hq.2;split at OL
   ·rename_i d hu;exact key ⟨d,hu,.inl ⟨OL,by simp⟩⟩ ⟨d,hu,.inl ⟨OL,by simp⟩⟩
   ·cases OL
  ·cases h
 ·split at h
  ·rename_i hk;obtain⟨d,hu,hd⟩:=bG hk;simp only[Option.some.injEq,Prod.mk.injEq] at h;obtain⟨h1,h⟩:=h;cases hb;cases d<;>simp [bf,cC] at hd
   cases ha<;>simp [V.aw] at h1<;>exact⟨by cases op<;>simp [eqGuard],by simp [Op.equalIn,run_underlying hu, ←h,V.mz]⟩
  ·cases h
 ·split at h
  ·rename_i hk;obtain⟨d,hu,hd⟩:=bG hk;simp only[Option.some.injEq,Prod.mk.injEq] at h;obtain⟨h1,h⟩:=h;cases ha;cases d<;>simp [bf,cC] at hd
   cases hb<;>simp [V.aw] at h1<;>exact⟨by cases op<;>simp [eqGuard],by simp [Op.equalIn,run_underlying hu, ←h,V.mz]⟩
  ·cases h
 ·cases nils
  ·simp at h
  ·simp only[cond_true] at h;split at h
   ·rename_i hk;obtain⟨d,hu,hd⟩:=bG hk;obtain⟨c,rfl⟩:=hc rfl;simp only[Option.some.injEq,Prod.mk.injEq] at h;obtain⟨h1,h⟩:=h;cases hb;cases d<;>simp [bf,cC] at hd
    cases ha<;>simp [V.aw] at h1<;>exact⟨by cases op<;>simp [eqGuard],by simp [Op.equalIn,run_underlying hu, ←h,V.eX]⟩
   ·cases h
 ·cases h
end
section
variable {E:jR} {ρ lam:da} {w:World}
theorem qV {t:TypeId} {a b:Value} {q:Bool} (h:(Op.equalIn 10000 t a b).run E.P w=.ok q w) (hn:∀k n k' n',¬(a=.int k n∧b=.int k' n')) (hs:∀x y,¬(a=.string x∧b=.string y)) (hf:∀k x k' y,¬(a=.float k x∧b=.float k' y)) (hx:∀k x y k' x' y',¬(a=.complex k x y∧b=.complex k' x' y')):(binOp .eql t a b).run E.P w=.ok (.bool q) w∧(binOp .neq t a b).run E.P w=.ok (.bool (!q)) w:=by
 have he:(Op.equal t a b).run E.P w=.ok q w:=h
 cases a<;>cases b<;>first
  |exact(hn _ _ _ _ ⟨rfl,rfl⟩).elim
  |exact(hs _ _ ⟨rfl,rfl⟩).elim
  |exact(hf _ _ _ _ ⟨rfl,rfl⟩).elim
  |exact(hx _ _ _ _ _ _ ⟨rfl,rfl⟩).elim
  |(constructor<;>simp [binOp,he])
theorem sY {t:TypeId} {nils q:Bool} {a b:V} (h:iy E t nils a b=some (true,q)):a≠ .bZ∧b≠ .bZ:=by
 constructor
 ·rintro rfl;cases b<;>simp only[iy] at h<;>first|cases h|(split at h<;>first|cases h|(split at h<;>simp [V.aw] at h)|simp [V.aw] at h)|skip
  all_goals (revert h;cases nils<;>simp [V.aw];try (split<;>simp))
 ·rintro rfl;cases a<;>simp only[iy] at h<;>first|cases h|(split at h<;>first|cases h|simp [V.aw] at h)|skip
theorem JJ {op:BinOp} {t:TypeId} {nils r:Bool} {a b v:V} {a' b':Value} {x y:Operand} (hc:nils=true→∃c,y=.const c) (ha:VR ρ a a') (hb:VR ρ b b') (h:BR E op t nils a b=some (r,v)) (hr:r=true):∃v',(eqGuard op t x y a' b').run E.P w=.ok () w∧(binOp op t a' b').run E.P w=.ok v' w∧VR ρ v v':=by
 unfold BR at h;split at h
 ·rename_i k n k' n';cases ha;cases hb;have hg:(eqGuard op t x y (.int k n) (.int k' n')).run E.P w=.ok () w:=by cases op<;>simp [eqGuard]
  split at h
  ·obtain⟨v',h1,h2⟩:=xG (w:=w) (ρ:=ρ) (.inl rfl) (k':=k') h hr t;exact⟨v',hg,h1,h2⟩
  ·obtain⟨v',h1,h2⟩:=xG (w:=w) (ρ:=ρ) (.inr rfl) (k':=k') h hr t;exact⟨v',hg,h1,h2⟩
  ·by_cases hk:k=k'
   ·subst hk;simp only[mA,decide_true,cond_true] at h;obtain⟨v',h1,h2⟩:=LQ (w:=w) (ρ:=ρ) h hr t;exact⟨v',hg,h1,h2⟩
   ·simp [hk] at h
 ·rename_i s s';cases ha;cases hb;obtain⟨v',h1,h2⟩:=LR (w:=w) (ρ:=ρ) h hr t;exact⟨v',by cases op<;>simp [eqGuard],h1,h2⟩
 ·rename_i h1 h2
  have hh:a≠ .bZ∧b≠ .bZ:=by
   split at h
   ·split at h
    ·rename_i r' q he;simp only[Option.some.injEq,Prod.mk.injEq] at h;exact sY (he.trans (by rw[h.1,hr]))
    ·cases h
   ·split at h
    ·rename_i r' q he;simp only[Option.some.injEq,Prod.mk.injEq] at h;exact sY (he.trans (by rw[h.1,hr]))
    ·cases h
   ·cases h
  have hn:∀k n k' n',¬(a'=.int k n∧b'=.int k' n'):=by
   rintro k n k' n' ⟨rfl,rfl⟩
   cases ha with
   |bZ=>exact hh.1 rfl
   |int=>cases hb with
    |bZ=>exact hh.2 rfl
    |int=>exact h1 _ _ _ _ rfl rfl
  have hs:∀x y,¬(a'=.string x∧b'=.string y):=by
   rintro x y ⟨rfl,rfl⟩
   cases ha with
   |bZ=>exact hh.1 rfl
   |dS=>cases hb with
    |bZ=>exact hh.2 rfl
    |dS=>exact h2 _ _ rfl rfl
  have hf:∀k x k' y,¬(a'=.float k x∧b'=.float k' y):=by
   rintro k x k' y ⟨rfl,rfl⟩
   cases ha with
   |bZ=>exact hh.1 rfl
  have hx:∀k x y k' x' y',¬(a'=.complex k x y∧b'=.complex k' x' y'):=by
   rintro k x y k' x' y' ⟨rfl,rfl⟩
   cases ha with
   |bZ=>exact hh.1 rfl
  split at h
  ·split at h
   ·rename_i r' q he;simp only[Option.some.injEq,Prod.mk.injEq] at h;obtain⟨rfl,rfl⟩:=h;obtain⟨hg,h3⟩:=qU (w:=w) (x:=x) (op:=.eql) (D:=9999) hc (by omega) ha hb he hr;exact⟨.bool q,hg,(qV h3 hn hs hf hx).1,.bool _⟩
   ·cases h
  ·split at h
   ·rename_i r' q he;simp only[Option.some.injEq,Prod.mk.injEq] at h;obtain⟨rfl,rfl⟩:=h;obtain⟨hg,h3⟩:=qU (w:=w) (x:=x) (op:=.neq) (D:=9999) hc (by omega) ha hb he hr;exact⟨.bool (!q),hg,(qV h3 hn hs hf hx).2,.bool _⟩
   ·cases h
  ·cases h
theorem Cf (c:Bool) (x y:Int):(bif c then x else y)=if c=true then x else y:=by cases c<;>rfl
theorem LS {op:UnOp} {a v:V} {a':Value} (ha:VR ρ a a') (h:ZK op a=some v):∃v',(Op.unary op a').run E.P w=.ok v' w∧VR ρ v v':=by
 unfold ZK at h;split at h
 ·cases ha;simp only[Option.some.injEq] at h;subst h;exact⟨_,rfl,.bool _⟩
 ·cases ha;simp only[Option.some.injEq] at h;subst h;exact⟨_,rfl,.int _ _⟩
 ·cases ha;simp only[Option.some.injEq] at h;subst h;exact⟨_,rfl,by rw[Cf];exact .int _ _⟩
 ·cases h
theorem xH {t ft:TypeId} {f o:Nat} (h:sM E t f=some (o,ft)):∃fs fd,E.P.underlying t=some (.struct fs)∧fs[f]? =some fd∧fd.offset=o∧fd.type=ft:=by
 unfold sM at h;split at h
 ·rename_i i hi;obtain⟨cU,d,h1,h2,h3,_⟩:=jw hi;split at h
  ·rename_i fs hs;rw[hs] at h3;cases d<;>simp [bf] at h3
   rename_i fields;subst h3;simp only[List.getElem?_map,Option.map_eq_some_iff,Prod.mk.injEq] at h;obtain⟨fd,h4,h5,h6⟩:=h;exact⟨fields,fd,h2,by simpa using h4,h5,h6⟩
  ·cases h
 ·cases h
theorem rL {ev:Ev} {e:Operand→Value} (cL:oW ρ lam ev e) {x:Operand} {i:Int} (h:qM x ev=some i):∃k,e x=.int k i:=by
 unfold qM at h;split at h
 ·rename_i k j hx;simp only[Option.some.injEq] at h;subst h;exact⟨k,(cL.v hx).hJ⟩
 ·cases h
theorem xI {k:IntKind} {i:Int} {y:Nat} {code:BoundsCode} (h0:0≤i) (h1:i≤(y:Int)) (w:World):(Instr.sliceBound (.int k i) y code).run E.P w=.ok i.toNat w:=by
 simp [Instr.sliceBound,asIntOf,h0,h1]
theorem nO {ev:Ev} {e:Operand→Value} (cL:oW ρ lam ev e) {isS:Bool} {len cap l h m:Nat} {lo hi mx:Option Operand} {r:Bool} (hb:ga ev len cap lo hi mx=some (r,l,h,m)) (hr:r=true) (w:World):(Instr.sliceBounds isS len cap (lo.map e) (hi.map e) (mx.map e)).run E.P w=.ok (l,h,m) w:=by
 unfold ga at hb;cases hq:(hi.isNone&&mx.isSome)
 ·simp only[hq,cond_false] at hb;split at hb
  ·rename_i m1 hm;split at hb
   ·rename_i h1 hh;split at hb
    ·rename_i l1 hl;simp only[Option.some.injEq,Prod.mk.injEq] at hb;obtain⟨FT,rfl,rfl,rfl⟩:=hb;rw[hr] at FT;simp only[Bool.and_eq_true] at FT;obtain⟨⟨r1,r2⟩,r3⟩:=FT
     have key:∀{x:Option Operand} {d most:Nat} {q:Bool×Nat},l7 ev x d most=some q→q.1=true→
      (x=none∧q.2=d)∨∃y k i,x=some y∧e y=.int k i∧0≤i∧i≤(most:Int)∧q.2=i.toNat:=by
      intro x d most q hx hq;unfold l7 at hx;split at hx
      ·simp only[Option.some.injEq] at hx;subst hx;exact .inl ⟨rfl,rfl⟩
      ·split at hx
       ·rename_i y _ i hy;simp only[Option.some.injEq] at hx;subst hx;simp only[Bool.and_eq_true,decide_eq_true_eq] at hq;obtain⟨k,hk⟩:=rL cL hy;exact .inr ⟨y,k,i,rfl,hk,hq.1,hq.2,rfl⟩
       ·cases hx
     unfold Instr.sliceBounds
     rcases key hm r1 with⟨rfl,e1⟩|⟨y1,k1,i1,rfl,he1,a1,b1,e1⟩<;>
      rcases key hh r2 with⟨rfl,e2⟩|⟨y2,k2,i2,rfl,Qn,a2,b2,e2⟩<;>
       rcases key hl r3 with⟨rfl,e3⟩|⟨y3,k3,i3,rfl,he3,a3,b3,e3⟩<;>
        simp_all [xI]
    ·cases hb
   ·cases hb
  ·cases hb
 ·simp [hq] at hb
theorem Ea {x:Value} {v:V} (h:VR ρ v x):∀{cs:List V} {cs':List Value} {off:Nat},ea ρ cs cs'→ea ρ (xh cs 0 off v) (cs'.set off x):=by
 have key:∀(cs:List V) (cs':List Value) (j off:Nat),ea ρ cs cs'→ea ρ (xh cs j off v) (if off<j then cs' else cs'.set (off-j) x):=by
  intro cs
  induction cs with
  |nil=>intro cs' j off hc;rw[hc.fW];simpa [xh] using ea.nil ρ
  |cons c cs ih=>
   intro cs' j off hc;obtain⟨y,m,rfl,h1,h2⟩:=hc.cT;have:=ih m (j+1) off h2;rw[xh,mB,aP];by_cases hlt:off<j
   ·rw[if_pos (by omega)] at this;rw[if_pos hlt,if_neg (by simp;omega)];exact .cons h1 this
   ·rw[if_neg hlt];by_cases he:j=off
    ·subst he;rw[if_pos (by omega)] at this;simp only[decide_true,if_true,Nat.sub_self,List.set_cons_zero];exact .cons h this
    ·rw[if_neg (by omega)] at this;obtain⟨q,hq⟩:∃q,off-j=q+1:=⟨off-j-1,by omega⟩;rw[hq,List.set_cons_succ,if_neg (by simp;omega)];rw[show off-(j+1)=q by omega] at this;exact .cons h1 this
 intro cs cs' off hc;have:=key cs cs' 0 off hc;simpa using this
end
section
variable {E:jR} {ρ lam:da} {w:World}
theorem zP {y:Operand} (h:ry y=true):∃v,y=.const v:=by
 cases y with
 |const v=>exact⟨v,rfl⟩
 |_=>simp [ry] at h
theorem dh {t:TypeId} {i:TI} (h:E.ti t=some i):∃d,E.P.underlying t=some d∧bf d=i.sh:=by
 obtain⟨cU,d,_,h2,h3,_⟩:=jw h;exact⟨d,h2,h3⟩
theorem sZ {d:TypeDesc} {n e:Nat} (h:bf d=.arr n e):d=.array n e:=by cases d<;>simp_all [bf]
theorem hO {d:TypeDesc} {e:Nat} (h:bf d=.slice e):d=.slice e:=by cases d<;>simp_all [bf]
theorem Eb {d:TypeDesc} (h:bf d=.dS):d=.string:=by cases d<;>simp_all [bf]
theorem Ec {d:TypeDesc} {fs:List (Nat×TypeId)} (h:bf d=.struct fs):∃f,d=.struct f∧fs=f.toList.map fun f=>(f.offset,f.type):=by
 cases d<;>simp_all [bf]
theorem fK (b o n:Nat):(⟨b,o,none⟩:Addr).add n=⟨b,o+n,none⟩:=by unfold Addr.add;split<;>simp_all
def fX (E:jR) (ρ lam:da) (w:World) (o:Oper) (e:Operand→Value) (x:T):Prop:=
 ∃v,(execOp e o).run E.P w=.ok (.value v) w∧TR ρ lam x v
theorem Ed {p:Oq} (h:p.isSome=true):p=some ((p.getD (0,0)).1,(p.getD (0,0)).2):=by
 cases p with
 |none=>cases h
 |some q=>rfl
variable {dst:Option Tmp} {type:TypeId} {iV:String} {after:Array Edge} {guard:Option (Nat×Bool)} {ev:Ev} {e:Operand→Value} {d:fw T}
theorem JK {x:Operand} (cL:oW ρ lam ev e) (h:aU E (.move x) ev=some d):fX E ρ lam w ⟨dst,.move x,type,iV,after,guard⟩ e (if d.c=true then d.x else d.y):=by
 simp only[aU] at h;split at h
 ·rename_i y hy;simp only[Option.some.injEq] at h;subst h;exact⟨e x,rfl,cL x y hy⟩
 ·cases h
theorem Ee {x:Operand} (cL:oW ρ lam ev e) (h:aU E (.assign x) ev=some d):fX E ρ lam w ⟨dst,.assign x,type,iV,after,guard⟩ e (if d.c=true then d.x else d.y):=by
 simp only[aU] at h;split at h
 ·rename_i y hy;simp only[Option.some.injEq] at h;subst h;exact⟨e x,rfl,cL x y hy⟩
 ·cases h
theorem JL {c a b:Operand} (cL:oW ρ lam ev e) (h:aU E (.pick c a b) ev=some d):fX E ρ lam w ⟨dst,.pick c a b,type,iV,after,guard⟩ e (if d.c=true then d.x else d.y):=by
 simp only[aU] at h;split at h
 ·rename_i t hc;have sy:=(cL.tv hc).Cd;have hrun:(execOp e ⟨dst,.pick c a b,type,iV,after,guard⟩).run E.P w=.ok (.value (if t=true then e a else e b)) w:=by simp [execOp,asBool,sy]
  split at h
  ·rename_i x y ha hb;simp only[Option.some.injEq] at h;subst h;refine⟨_,hrun, ?_⟩;simp only[fw.one,if_true];cases t
   ·exact .v (cL.tv hb)
   ·exact .v (cL.tv ha)
  ·cases t with
   |true=>
    simp only[] at h;split at h
    ·rename_i y hy;simp only[Option.some.injEq] at h;subst h;exact⟨_,hrun,cL _ _ hy⟩
    ·cases h
   |false=>
    simp only[] at h;split at h
    ·rename_i y hy;simp only[Option.some.injEq] at h;subst h;exact⟨_,hrun,cL _ _ hy⟩
    ·cases h
 ·cases h
theorem RP {op:BinOp} {t:TypeId} {nils:Bool} {a b:V} {r:Bool} {v:V} (h:RN E op t nils a b=some (r,v)) (hr:r=true):BR E op t nils a b=some (r,v):=by
 unfold RN at h;split at h
 ·split at h
  ·have key:∀{r x},HL E t a=some (r,x)→r=true→iy E t true a .nilIface=some (r,x):=by
    intro r x he hr;unfold HL at he;split at he
    ·rename_i hk;simp only[Option.some.injEq,Prod.mk.injEq] at he;obtain⟨rfl,rfl⟩:=he;cases a<;>simp_all [V.aw,iy]
    ·cases he
   split at h
   ·split at h
    ·rename_i r' b' he;simp only[Option.some.injEq,Prod.mk.injEq] at h;obtain⟨rfl,rfl⟩:=h;have:=key he hr;cases a<;>simp_all [BR]
    ·cases h
   ·split at h
    ·rename_i r' b' he;simp only[Option.some.injEq,Prod.mk.injEq] at h;obtain⟨rfl,rfl⟩:=h;have:=key he hr;cases a<;>simp_all [BR]
    ·cases h
   ·cases h
  ·exact h
 ·have key:∀{r x},BS E t a=some (r,x)→iy E t nils a .nilFunc=some (r,x):=by
   intro r x he;unfold BS at he;split at he
   ·rename_i hk;cases a<;>simp_all [V.aw,iy]
   ·cases he
  split at h
  ·split at h
   ·rename_i r' b' he;simp only[Option.some.injEq,Prod.mk.injEq] at h;obtain⟨rfl,rfl⟩:=h;have:=key he;cases a<;>simp_all [BR]
   ·cases h
  ·split at h
   ·rename_i r' b' he;simp only[Option.some.injEq,Prod.mk.injEq] at h;obtain⟨rfl,rfl⟩:=h;have:=key he;cases a<;>simp_all [BR]
   ·cases h
  ·cases h
 ·exact h
theorem LU {op:BinOp} {t yt:TypeId} {x y:Operand} (cL:oW ρ lam ev e) (h:aU E (.binOp op t x y yt) ev=some d) (hr:d.rq=true):fX E ρ lam w ⟨dst,.binOp op t x y yt,type,iV,after,guard⟩ e (if d.c=true then d.x else d.y):=by
 simp only[aU] at h;split at h
 ·rename_i a b ha hb;unfold Aq at h;split at h
  ·rename_i r v hv;simp only[Option.some.injEq] at h;subst h;obtain⟨v',h1,h2,h3⟩:=JJ (w:=w) (x:=x) zP (cL.v ha) (cL.v hb) (RP hv hr) hr;exact⟨v',by simp [execOp,h1,h2],.v h3⟩
  ·cases h
 ·cases h
theorem O2 {op:UnOp} {t:TypeId} {x:Operand} (cL:oW ρ lam ev e) (h:aU E (.unOp op t x) ev=some d):fX E ρ lam w ⟨dst,.unOp op t x,type,iV,after,guard⟩ e (if d.c=true then d.x else d.y):=by
 simp only[aU] at h;split at h
 ·rename_i a ha;split at h
  ·rename_i v hv;simp only[Option.some.injEq] at h;subst h;obtain⟨v',h1,h2⟩:=LS (E:=E) (w:=w) (cL.v ha) hv;exact⟨v',by simp [execOp,h1],.v h2⟩
  ·cases h
 ·cases h
theorem Cg {s t:TypeId} {x:Operand} (cL:oW ρ lam ev e) (h:aU E (.convert s t x) ev=some d):fX E ρ lam w ⟨dst,.convert s t x,type,iV,after,guard⟩ e (if d.c=true then d.x else d.y):=by
 simp only[aU] at h;split at h
 ·rename_i ti k k' n my hk hx;obtain⟨ds,hds,_⟩:=dh my;obtain⟨dt,hu,hd⟩:=bG hk;simp only[Option.some.injEq] at h;subst h;cases dt<;>simp [bf,cC] at hd
  subst hd;refine⟨_, ?_,.v (.int _ _)⟩;simp [execOp,convert,run_underlying hds,run_underlying hu,(cL.v hx).hJ,Conv.intToInt]
 ·rename_i ti s' my hk hx;obtain⟨ds,hds,_⟩:=dh my;obtain⟨dt,hu,hd⟩:=bG hk;simp only[Option.some.injEq] at h;subst h;cases dt<;>simp [bf,cC] at hd
  exact⟨.string s',by simp [execOp,convert,run_underlying hds,run_underlying hu,(cL.v hx).uQ],.v (.dS _)⟩
 ·rename_i ti k' n my hk hx;obtain⟨ds,hds,_⟩:=dh my;obtain⟨dt,hu,hd⟩:=bG hk;simp only[Option.some.injEq] at h;subst h;cases dt<;>simp [bf,cC] at hd
  exact⟨.string (Utf8.encode n),by simp [execOp,convert,run_underlying hds,run_underlying hu,(cL.v hx).hJ,Conv.intToString],.v (.dS _)⟩
 ·cases h
theorem zQ {x:Operand} (cL:oW ρ lam ev e) (h:aU E (.nilCheck x) ev=some d) (hr:d.rq=true):fX E ρ lam w ⟨dst,.nilCheck x,type,iV,after,guard⟩ e (if d.c=true then d.x else d.y):=by
 simp only[aU] at h;split at h
 ·rename_i p hp;simp only[Option.some.injEq] at h;subst h;have:=Ed (p:=p) hr;rw[this] at hp;obtain⟨b,hb,he⟩:=(cL.tv hp).uR;exact⟨.pointer (some ⟨b,(p.getD (0,0)).2,none⟩),by simp [execOp,he],.v (.ak hb)⟩
 ·rename_i s off hx;simp only[Option.some.injEq] at h;subst h;obtain⟨b,hb,he⟩:=cL.lp hx;exact⟨.pointer (some ⟨b,off,none⟩),by simp [execOp,he],.lp hb⟩
 ·cases h
theorem xJ {t:TypeId} {x:Operand} {f:Nat} (cL:oW ρ lam ev e) (h:aU E (.fieldAddr t x f) ev=some d):fX E ρ lam w ⟨dst,.fieldAddr t x f,type,iV,after,guard⟩ e (if d.c=true then d.x else d.y):=by
 simp only[aU] at h;split at h
 ·rename_i o ft hf;obtain⟨fs,fd,hu,Gb,ho,hft⟩:=xH hf;split at h
  ·rename_i n hn;cases hz:rz n
   ·simp [hz] at h
   ·simp only[hz,cond_true] at h;have hn0:¬n=0:=by rintro rfl;simp [rz] at hz
    have key:∀b off,(Instr.fieldAt t (.pointer (some ⟨b,off,none⟩)) f).run E.P w=.ok (.pointer (some ⟨b,off+o,none⟩)) w:=by
     intro b off;simp [Instr.fieldAt,run_underlying hu,Gb,Instr.sureAddr,fieldPlace,hft,eQ hn,hn0,fK,ho]
    split at h
    ·rename_i id off hx;simp only[Option.some.injEq] at h;subst h;obtain⟨b,hb,he⟩:=(cL.tv hx).uR;exact⟨.pointer (some ⟨b,off+o,none⟩),by simp [execOp,he,key],.v (.ak hb)⟩
    ·rename_i s off hx;simp only[Option.some.injEq] at h;subst h;obtain⟨b,hb,he⟩:=cL.lp hx;exact⟨.pointer (some ⟨b,off+o,none⟩),by simp [execOp,he,key],.lp hb⟩
    ·cases h
  ·cases h
 ·cases h
theorem Gv {t:TypeId} {x:Operand} {f:Nat} (cL:oW ρ lam ev e) (h:aU E (.field t x f) ev=some d) (hr:d.rq=true):fX E ρ lam w ⟨dst,.field t x f,type,iV,after,guard⟩ e (if d.c=true then d.x else d.y):=by
 simp only[aU] at h;split at h
 ·rename_i o ft cs hf hx;obtain⟨fs,fd,hu,Gb,ho,hft⟩:=xH hf;unfold Aq at h;split at h
  ·rename_i r v hv;simp only[Option.some.injEq] at h;subst h;obtain⟨cs',he,hcs,h1c⟩:=(cL.v hx).nL;obtain⟨v',h1,h2⟩:=xF hv hr h1c hcs w;exact⟨v',by simp [execOp,Instr.field,run_underlying hu,Gb,he,asAgg,ho,hft,h1],.v h2⟩
  ·cases h
 ·cases h
theorem xK {t:TypeId} {x i:Operand} (cL:oW ρ lam ev e) (h:aU E (.indexAddr t x i) ev=some d) (hr:d.rq=true):fX E ρ lam w ⟨dst,.indexAddr t x i,type,iV,after,guard⟩ e (if d.c=true then d.x else d.y):=by
 simp only[aU] at h;split at h
 ·rename_i n ti hn my;obtain⟨k,hi⟩:=rL cL hn;obtain⟨dt,hu,hd⟩:=dh my;split at h
  ·rename_i len el hs;rw[hs] at hd;cases sZ hd;split at h
   ·rename_i sz id off hsz hx;simp only[Option.some.injEq] at h;subst h;simp only[fw.one,Bool.and_eq_true,decide_eq_true_eq] at hr;obtain⟨b,hb,he⟩:=(cL.tv hx).uR;exact⟨.pointer (some ⟨b,off+n.toNat*sz,none⟩),by simp [execOp,Instr.indexAt,hi,asIntOf,run_underlying hu,he,Instr.sureAddr,hr,eQ hsz,fK],.v (.ak hb)⟩
   ·rename_i sz s off hsz hx;simp only[Option.some.injEq] at h;subst h;simp only[fw.one,Bool.and_eq_true,decide_eq_true_eq] at hr;obtain⟨b,hb,he⟩:=cL.lp hx;exact⟨.pointer (some ⟨b,off+n.toNat*sz,none⟩),by simp [execOp,Instr.indexAt,hi,asIntOf,run_underlying hu,he,Instr.sureAddr,hr,eQ hsz,fK],.lp hb⟩
   ·cases h
  ·rename_i el hs;rw[hs] at hd;cases hO hd;split at h
   ·rename_i sz p len _ hsz hx;simp only[Option.some.injEq] at h;subst h;simp only[fw.one,Bool.and_eq_true,decide_eq_true_eq] at hr;rw[Ed hr.2] at hx;rcases (cL.tv hx).eO with⟨b,hb,he⟩|⟨h0,_,_⟩;rotate_left
    ·omega
    exact⟨.pointer (some ⟨b,(p.getD (0,0)).2+n.toNat*sz,none⟩),by simp [execOp,Instr.indexAt,hi,asIntOf,run_underlying hu,he,hr.1,eQ hsz,fK],.v (.ak hb)⟩
   ·cases h
  ·cases h
 ·cases h
theorem Gw {t:TypeId} {x i:Operand} (cL:oW ρ lam ev e) (h:aU E (.index t x i) ev=some d) (hr:d.rq=true):fX E ρ lam w ⟨dst,.index t x i,type,iV,after,guard⟩ e (if d.c=true then d.x else d.y):=by
 simp only[aU] at h;split at h
 ·rename_i n ti v hn my hx;obtain⟨k,hi⟩:=rL cL hn;obtain⟨dt,hu,hd⟩:=dh my;split at h
  ·rename_i len el cs hs;rw[hs] at hd;cases sZ hd;split at h
   ·rename_i sz hsz;split at h
    ·rename_i r y hp;simp only[Option.some.injEq] at h;subst h;simp only[fw.one,Bool.and_eq_true,decide_eq_true_eq] at hr;obtain⟨cs',he,hcs,h1c⟩:=(cL.v hx).nL;obtain⟨v',h1,h2⟩:=xF hp hr.2 h1c hcs w;exact⟨v',by simp [execOp,Instr.index,hi,asIntOf,run_underlying hu,he,hr.1,eQ hsz,h1],.v h2⟩
    ·cases h
   ·cases h
  ·rename_i s hs;rw[hs] at hd;cases Eb hd;simp only[Option.some.injEq] at h;subst h;simp only[fw.one,Bool.and_eq_true,decide_eq_true_eq] at hr;have hlt:n.toNat<s.size:=by omega
   refine⟨.int .u8 s[n.toNat].toNat, ?_, ?_⟩
   ·simp [execOp,Instr.index,hi,asIntOf,run_underlying hu,(cL.v hx).uQ,hr.1,getElem?_pos s n.toNat hlt]
   ·have:Gk s n.toNat=(s[n.toNat].toNat:Int):=by
     have hl:n.toNat<s.data.toList.length:=by simpa using hlt
     simp only[Gk,List.getD_eq_getElem?_getD,List.getElem?_eq_getElem hl,Option.getD_some];rfl
    simp only[if_true,fw.one,this];exact .v (.int _ _)
  ·cases h
 ·cases h
end
section
variable {E:jR} {ρ lam:da} {w:World}
variable {dst:Option Tmp} {type:TypeId} {iV:String} {after:Array Edge} {guard:Option (Nat×Bool)} {ev:Ev} {e:Operand→Value} {d:fw T}
theorem nP {p:Oq} {len cap:Nat} {x:Value} (h:VR ρ (.slice p len cap) x):∃a:Option Addr,x=.slice a len cap∧∀n l c,(len=0→cap=0→l=0∧c=0)→VR ρ (.slice (bH p n) l c) (.slice (a.map (·.add n)) l c)∧VR ρ (.slice p l c) (.slice a l c):=by
 cases p with
 |none=>exact⟨none,h.kN,fun n l c _=>⟨.mK l c,.mK l c⟩⟩
 |some q=>
  obtain⟨id,off⟩:=q;rcases h.eO with⟨b,hb,hx⟩|⟨h0,h1,a,hx⟩
  ·exact⟨_,hx,fun n l c _=>⟨by simp only[bH,Option.map_some,fK];exact .slice l c hb,.slice l c hb⟩⟩
  ·subst h0 h1;refine⟨_,hx,fun n l c hz=> ?_⟩;obtain⟨rfl,rfl⟩:=hz rfl rfl;exact⟨.oV _ _,.oV _ _⟩
theorem Ef {ev:Ev} {lo hi mx:Option Operand} {r:Bool} {l h m:Nat} (hb:ga ev 0 0 lo hi mx=some (r,l,h,m)) (hr:r=true):h-l=0∧m-l=0:=by
 unfold ga at hb;cases hq:(hi.isNone&&mx.isSome)
 ·simp only[hq,cond_false] at hb;split at hb
  ·rename_i m1 hm;split at hb
   ·rename_i h1 hh;split at hb
    ·rename_i l1 hl;simp only[Option.some.injEq,Prod.mk.injEq] at hb;obtain⟨FT,rfl,rfl,rfl⟩:=hb;rw[hr] at FT;simp only[Bool.and_eq_true] at FT
     have key:∀{x:Option Operand} {d most:Nat} {q:Bool×Nat},l7 ev x d most=some q→q.1=true→q.2=d∨q.2≤most:=by
      intro x d most q hx hq;unfold l7 at hx;split at hx
      ·simp only[Option.some.injEq] at hx;subst hx;exact .inl rfl
      ·split at hx
       ·simp only[Option.some.injEq] at hx;subst hx;simp only[Bool.and_eq_true,decide_eq_true_eq] at hq;exact .inr (by simp only;omega)
       ·cases hx
     have k1:=key hm FT.1.1;have k2:=key hh FT.1.2;omega
    ·cases hb
   ·cases hb
  ·cases hb
 ·simp [hq] at hb
theorem Gx {t:TypeId} {x:Operand} {lo hi mx:Option Operand} (cL:oW ρ lam ev e) (h:aU E (.slice t x lo hi mx) ev=some d) (hr:d.rq=true):fX E ρ lam w ⟨dst,.slice t x lo hi mx,type,iV,after,guard⟩ e (if d.c=true then d.x else d.y):=by
 simp only[aU] at h;split at h
 ·rename_i ti s my hx;obtain⟨dt,hu,hd⟩:=dh my;split at h
  ·rename_i hs;rw[hs] at hd;cases Eb hd;split at h
   ·rename_i r l hh m hb;simp only[Option.some.injEq] at h;subst h;have hb':=nO (E:=E) (isS:=false) cL hb hr w;simp only[Option.map_none] at hb';exact⟨.string (s.extract l hh),by simp [execOp,Instr.sliceAt,Instr.slice,run_underlying hu,(cL.tv hx).uQ,hb'],.v (.dS _)⟩
   ·cases h
  ·cases h
 ·rename_i ti p len cap my hx;obtain⟨dt,hu,hd⟩:=dh my;split at h
  ·rename_i el hs;rw[hs] at hd;cases hO hd;split at h
   ·rename_i r l hh m sz hb hsz;simp only[Option.some.injEq] at h;subst h;simp only[fw.one,Bool.and_eq_true] at hr;have hle:=Nat.le_of_ble_eq_true hr.2;have hb':=nO (E:=E) (isS:=true) cL hb hr.1 w;obtain⟨a,he,hv⟩:=nP (cL.tv hx);obtain⟨h1,h2⟩:=hv (l*sz) (hh-l) (m-l) (fun h0 h1=>by subst h0 h1;exact Ef hb hr.1);refine⟨.slice (if m=l then a else a.map (·.add (l*sz))) (hh-l) (m-l),by simp [execOp,Instr.sliceAt,Instr.slice,run_underlying hu,he,hb',eQ hsz], ?_⟩;simp only[fw.one,if_true];by_cases hml:m=l
    ·rw[if_pos hml];have e1:hh-l=0:=by omega
     have e2:m-l=0:=by omega
     rw[e1,e2] at h2⊢
     cases p with
     |none=>exact .v h2
     |some q=>
      obtain⟨id,off⟩:=q
      cases a with
      |none=>cases h2
      |some a=>exact .v (.oV _ _)
    ·rw[if_neg hml];exact .v h1
   ·cases h
  ·cases h
 ·rename_i ti id off my hx;obtain⟨dt,hu,hd⟩:=dh my;split at h
  ·rename_i n el hs;rw[hs] at hd;cases sZ hd;split at h
   ·rename_i r l hh m sz hb hsz;simp only[Option.some.injEq] at h;subst h;simp only[fw.one,Bool.and_eq_true] at hr;have hle:=Nat.le_of_ble_eq_true hr.2;have hb':=nO (E:=E) (isS:=false) cL hb hr.1 w;obtain⟨b,Jt,he⟩:=(cL.tv hx).uR;refine⟨.slice (some (if m=l then ⟨b,off,none⟩ else ⟨b,off+l*sz,none⟩)) (hh-l) (m-l),by simp [execOp,Instr.sliceAt,run_underlying hu,he,Instr.sureAddr,hb',eQ hsz,fK], ?_⟩;simp only[fw.one,if_true];by_cases hml:m=l
    ·have e1:hh-l=0:=by omega
     have e2:m-l=0:=by omega
     rw[e1,e2];exact .v (.oV _ _)
    ·rw[if_neg hml];exact .v (.slice _ _ Jt)
   ·cases h
  ·cases h
 ·cases h
theorem rM {t:TypeId} {x:Operand} (cL:oW ρ lam ev e) (h:aU E (.makeInterface t x) ev=some d):fX E ρ lam w ⟨dst,.makeInterface t x,type,iV,after,guard⟩ e (if d.c=true then d.x else d.y):=by
 simp only[aU] at h;split at h
 ·cases h
 ·rename_i v hx hk;split at h
  ·rename_i ti my;simp only[Option.some.injEq] at h;subst h;obtain⟨dt,hu,hd⟩:=dh my
   have hni:∀ms,dt≠ .interface ms:=by
    rintro ms rfl;apply hk;simp [aZ,my, ←hd,bf,cC]
   refine⟨.iface t (e x), ?_,.v (.iface t (cL.v hx))⟩;cases dt<;>simp [execOp,Instr.makeInterface,run_underlying hu]
   exact(hni _ rfl).elim
  ·cases h
 ·cases h
theorem zR {f:Fn} {first df:Array Operand} (cL:oW ρ lam ev e) (h:aU E (.makeFunc f first df) ev=some d):fX E ρ lam w ⟨dst,.makeFunc f first df,type,iV,after,guard⟩ e (if d.c=true then d.x else d.y):=by
 cases f with
 |func f=>
  simp only[aU] at h;split at h
  ·rename_i hf;split at h
   ·rename_i cs hc;simp only[Option.some.injEq] at h;subst h;have h1:first= #[]:=by apply Array.ext';simpa using hf
    refine⟨.func (.func f) #[] (df.map e),by simp [execOp,Instr.makeFunc,h1],.v (.HO ?_)⟩;simpa using cL.vs hc
   ·cases h
  ·rename_i x l hf hcap;split at h
   ·rename_i cs hc;simp only[Option.some.injEq] at h;subst h;have h1:df= #[]:=by apply Array.ext';simpa using hcap
    refine⟨.func (.func f) (first.map e) #[],by simp [execOp,Instr.makeFunc,h1],.v (.OY ?_)⟩;rw[Array.toList_map,hf];exact cL.vs hc
   ·cases h
  ·cases h
 |_=>simp [aU] at h
theorem Ch {x:Operand} {i:Nat} (cL:oW ρ lam ev e) (h:aU E (.extract x i) ev=some d):fX E ρ lam w ⟨dst,.extract x i,type,iV,after,guard⟩ e (if d.c=true then d.x else d.y):=by
 simp only[aU] at h;split at h
 ·rename_i vs hx;split at h
  ·rename_i v hv;simp only[Option.some.injEq] at h;subst h;obtain⟨vs',he,hvs⟩:=(cL.v hx).JG
   have hlt:i<vs.length:=by
    rcases Nat.lt_or_ge i vs.length with h|h
    ·exact h
    ·rw[List.getElem?_eq_none h] at hv;cases hv
   have hlt':i<vs'.size:=by have:=hvs.1;simp at this;omega
   refine⟨vs'[i],by simp [execOp,Instr.extract,he,Array.getElem?_eq_getElem hlt'],.v (hvs.2 i _ _ hv ?_)⟩;simp [Array.getElem?_eq_getElem hlt']
  ·cases h
 ·cases h
theorem wk {x:Operand} {xt t:TypeId} {ok:Bool} (cL:oW ρ lam ev e) (h:aU E (.typeAssert x xt t ok) ev=some d) (hr:d.rq=true):fX E ρ lam w ⟨dst,.typeAssert x xt t ok,type,iV,after,guard⟩ e (if d.c=true then d.x else d.y):=by
 simp only[aU] at h;split at h
 ·rename_i v ti hx my;obtain⟨cU,dt,hi,hu,hd,_,_,hz⟩:=jw my;split at h
  ·cases h
  ·rename_i hni;split at h
   ·rename_i r y z hy Ju;rw[Ju] at hz;obtain⟨z',DB,xf⟩:=Option.bind_eq_some_iff.1 hz;have hzero:(zeroValue t).run E.P w=.ok z' w:=by simp [zeroValue,typeInfo,hi,DB]
    have hint:∀ms,dt≠ .interface ms:=by
     rintro ms rfl;exact hni (by rw[←hd];rfl)
    have hv:=cL.v hx
    have key:v.aw .iface=true→(v.eX=true∧v=.nilIface)∨∃t' u,v=.iface t' u:=by
     intro hk;cases v<;>simp_all [V.aw,V.eX]
    cases ok with
    |true=>
     simp only[Option.some.injEq] at h;subst h;simp only[Bool.and_eq_true,Bool.or_eq_true,Bool.not_eq_true'] at hr;rcases key hr.1 with⟨_,rfl⟩|⟨t',u,rfl⟩
     ·have he:e x=.nilIface:=by generalize e x=q at hv;cases hv;rfl
      refine⟨.tuple #[z',.bool false], ?_, ?_⟩
      ·cases dt<;>first|(exact(hint _ rfl).elim)|simp [execOp,Instr.typeAssert,run_underlying hu,he,hzero]
      ·simp only[V.eX,Bool.not_true,Bool.false_and,Bool.false_eq_true,if_false];exact .v (.gj (.cons (ic xf) (.cons (.bool _) (.nil ρ))))
     ·obtain⟨u',he,Yb⟩:∃u',e x=.iface t' u'∧VR ρ u u':=by generalize e x=q at hv;cases hv with|iface _ h=>exact⟨_,rfl,h⟩
      by_cases ht:t'=t
      ·subst ht;have Ah:r=true:=by simpa [V.eX,V.BQ,Nat.beq_refl] using hr.2
       have:=kQ hy Ah;refine⟨.tuple #[u',.bool true], ?_, ?_⟩
       ·cases dt<;>first|(exact(hint _ rfl).elim)|simp [execOp,Instr.typeAssert,run_underlying hu,he]
       ·simp only[V.eX,V.BQ,Nat.beq_refl,Bool.not_false,Bool.true_and,if_true,this,V.Ly];exact .v (.gj (.cons Yb (.cons (.bool _) (.nil ρ))))
      ·have hb:Nat.beq t' t=false:=by rw[aP];simpa using ht
       refine⟨.tuple #[z',.bool false], ?_, ?_⟩
       ·cases dt<;>first|(exact(hint _ rfl).elim)|simp [execOp,Instr.typeAssert,run_underlying hu,he,ht,hzero]
       ·simp only[V.eX,V.BQ,hb,Bool.and_false,Bool.false_eq_true,if_false];exact .v (.gj (.cons (ic xf) (.cons (.bool _) (.nil ρ))))
    |false=>
     simp only[Option.some.injEq] at h;subst h;simp only[fw.one,Bool.and_eq_true,Bool.not_eq_true'] at hr;rcases key hr.1.1 with⟨h1,rfl⟩|⟨t',u,rfl⟩
     ·rw[hr.1.2.1] at h1;cases h1
     ·obtain⟨u',he,Yb⟩:∃u',e x=.iface t' u'∧VR ρ u u':=by generalize e x=q at hv;cases hv with|iface _ h=>exact⟨_,rfl,h⟩
      have ht:t'=t:=Nat.eq_of_beq_eq_true hr.1.2.2;subst ht;have:=kQ hy hr.2;refine⟨u', ?_, ?_⟩
      ·cases dt<;>first|(exact(hint _ rfl).elim)|simp [execOp,Instr.typeAssert,run_underlying hu,he]
      ·simp only[fw.one,if_true,this,V.Ly];exact .v Yb
   ·cases h
 ·cases h
theorem JM {c:Call} (cL:oW ρ lam ev e) (h:aU E (.call c) ev=some d):fX E ρ lam w ⟨dst,.call c,type,iV,after,guard⟩ e (if d.c=true then d.x else d.y):=by
 simp only[aU] at h;split at h
 ·rename_i b hb;split at h
  ·rename_i vs t hvs Zl;have ht:c.argTypes[0]? =some t:=by simpa using Zl
   have FU:=cL.vs hvs;obtain⟨aS,has⟩:∃aS,c.args.toList.map e=aS:=⟨_,rfl⟩;rw[has] at FU;have hargs:c.args.map e=aS.toArray:=by apply Array.ext';simp [has]
   have hrun:∀v,(∀con,(builtin b c.argTypes type con aS.toArray).run E.P w=.ok (.value v) w)→(execOp e ⟨dst,.call c,type,iV,after,guard⟩).run E.P w=.ok (.value v) w:=by
    intro v hv;simp [execOp,resolve,hb,invoke,hargs,hv]
   unfold DS at h;split at h
   ·split at h
    ·rename_i s _ hk;obtain⟨dt,hu,hd⟩:=bG hk;simp only[Option.some.injEq] at h;subst h;obtain⟨y,m,rfl,h1,h2⟩:=FU.cT;have:=h2.fW;subst this;cases dt<;>simp [bf,cC] at hd
     exact⟨.int .i64 (s.size:Int),hrun _ fun con=>by simp [builtin,Builtin.len_,ht,run_underlying hu,h1.uQ,goInt],.v (.int _ _)⟩
    ·cases h
   ·split at h
    ·rename_i p n cp _ hk;obtain⟨dt,hu,hd⟩:=bG hk;simp only[Option.some.injEq] at h;subst h;obtain⟨y,m,rfl,h1,h2⟩:=FU.cT;have:=h2.fW;subst this;obtain⟨a,rfl,_⟩:=nP h1;cases dt<;>simp [bf,cC] at hd
     exact⟨.int .i64 (n:Int),hrun _ fun con=>by simp [builtin,Builtin.len_,ht,run_underlying hu,goInt],.v (.int _ _)⟩
    ·cases h
   ·split at h
    ·rename_i p n cp _ hk;obtain⟨dt,hu,hd⟩:=bG hk;simp only[Option.some.injEq] at h;subst h;obtain⟨y,m,rfl,h1,h2⟩:=FU.cT;have:=h2.fW;subst this;obtain⟨a,rfl,_⟩:=nP h1;cases dt<;>simp [bf,cC] at hd
     exact⟨.int .i64 (cp:Int),hrun _ fun con=>by simp [builtin,Builtin.cap_,ht,run_underlying hu,goInt],.v (.int _ _)⟩
    ·cases h
   ·split at h
    ·rename_i v hv;simp only[Option.some.injEq] at h;subst h;unfold wO at hv;split at hv
     ·simp only[Option.some.injEq] at hv;subst hv;obtain⟨y,m,rfl,h1,h2⟩:=FU.cT;have:=h2.fW;subst this;exact⟨y,hrun _ fun con=>by simp [builtin,Builtin.min_],.v h1⟩
     ·rename_i k x k' y;by_cases hk:k=k'
      ·simp only[hk,mA,decide_true,cond_true,cond_false,Option.some.injEq] at hv;subst hv;obtain⟨p,m,rfl,h1,h2⟩:=FU.cT;obtain⟨q,m,rfl,h3,h4⟩:=h2.cT;have:=h4.fW;subst this;refine⟨.int k' (if y<x then y else x),hrun _ fun con=>by simp [builtin,Builtin.min_,h1.hJ,h3.hJ,Builtin.min2,hk],.v ?_⟩;rw[Cf];simpa using VR.int k' _
      ·simp [hk] at hv
     ·cases hv
    ·cases h
   ·split at h
    ·rename_i v hv;simp only[Option.some.injEq] at h;subst h;unfold wO at hv;split at hv
     ·simp only[Option.some.injEq] at hv;subst hv;obtain⟨y,m,rfl,h1,h2⟩:=FU.cT;have:=h2.fW;subst this;exact⟨y,hrun _ fun con=>by simp [builtin,Builtin.max_],.v h1⟩
     ·rename_i k x k' y;by_cases hk:k=k'
      ·simp only[hk,mA,decide_true,cond_true,cond_false,Option.some.injEq] at hv;subst hv;obtain⟨p,m,rfl,h1,h2⟩:=FU.cT;obtain⟨q,m,rfl,h3,h4⟩:=h2.cT;have:=h4.fW;subst this;refine⟨.int k' (if y>x then y else x),hrun _ fun con=>by simp [builtin,Builtin.max_,h1.hJ,h3.hJ,Builtin.max2,hk],.v ?_⟩;rw[Cf];simpa using VR.int k' _
      ·simp [hk] at hv
     ·cases hv
    ·cases h
   ·cases h
  ·cases h
 ·cases h
end
def iE:List Value→Nat→List Value→List Value
 |cs,_,[]=>cs
 |cs,off,v::vs=>iE (cs.set off v) (off+1) vs
theorem oX {ρ:da}:∀{vs:List V} {us:List Value} {cs:List V} {cs':List Value} {off:Nat},ea ρ vs us→ea ρ cs cs'→ea ρ (bL cs off vs) (iE cs' off us)
 |[],us,cs,cs',off,h,hc=>by rw[h.fW];exact hc
 |v::vs,us,cs,cs',off,h,hc=>by
  obtain⟨u,m,rfl,h1,h2⟩:=h.cT;have:=oX (off:=off+1) h2 (Ea (off:=off) h1 hc);exact this
theorem oq:∀(us:List Value) (cs:List Value) (off:Nat),(iE cs off us).length=cs.length
 |[],_,_=>rfl
 |u::us,cs,off=>by rw[iE,oq us];simp
theorem AA (off:Nat):∀(us:List Value) (k:Nat) (cells:Array Value),((us.zipIdx k).foldl (fun(cs:Array Value) (p:Value×Nat)=>cs.setIfInBounds (off+p.2) p.1) cells).toList=iE cells.toList (off+k) us
 |[],_,_=>rfl
 |u::us,k,cells=>by
  rw[List.zipIdx_cons,List.foldl_cons,AA off us (k+1),iE];simp [Nat.add_assoc]
theorem Gy (off:Nat) (us cells:Array Value):(us.zipIdx.foldl (fun(cs:Array Value) (p:Value×Nat)=>cs.setIfInBounds (off+p.2) p.1) cells).toList=iE cells.toList off us.toList:=by
 rw[←Array.foldl_toList];have:=AA off us.toList 0 cells;simpa using this
section
variable {E:jR} {ρ lam:da} {w:World}
theorem Eg {v:V} (hv:v.one=true):∀{cs:List V} {j n:Nat},aY cs→aY (xh cs j n v)
 |[],_,_,h=>h
 |c::cs,j,n,h=>by
  intro x hx;rw[xh,mB] at hx;rcases List.mem_cons.1 hx with rfl|hx
  ·split
   ·exact hv
   ·exact h c (List.mem_cons_self ..)
  ·exact Eg hv (fun y hy=>h y (List.mem_cons_of_mem _ hy)) x hx
theorem lJ:∀{vs cs:List V} {off:Nat},aY vs→aY cs→aY (bL cs off vs)
 |[],_,_,_,h=>h
 |v::vs,cs,off,hv,h=>by
  have:=lJ (vs:=vs) (off:=off+1) (fun y hy=>hv y (List.mem_cons_of_mem _ hy)) (Eg (n:=off) (j:=0) (hv v (List.mem_cons_self ..)) h);exact this
theorem iF {t:TypeId} {v:V} {x:Value} {r:Bool} {vs:List V} (hv:VR ρ v x) (h:gL E t v=some (r,vs)) (hr:r=true):ea ρ vs x.cells.toList∧aY vs:=by
 unfold gL at h;split at h
 ·cases h
 ·rename_i n hn;split at h
  ·rename_i k hk;cases hb:Nat.beq n 1
   ·simp [hb] at h
   ·simp only[hb,cond_true,Option.some.injEq,Prod.mk.injEq] at h;obtain⟨h1,rfl⟩:=h;have h1:=V.rm (h1.trans hr);have h2:v.cells=[v]:=by cases v<;>first|rfl|simp [V.one] at h1
    refine⟨h2▸hv.cells (fun e=>by rw[e] at h1;cases h1),fun c hc=> ?_⟩;simp only[List.mem_singleton] at hc;subst hc;exact h1
  ·split at h
   ·split at h
    ·simp only[Option.some.injEq,Prod.mk.injEq] at h;obtain⟨h1,rfl⟩:=h;obtain⟨cs',rfl,h2,h3⟩:=hv.nL;exact⟨h2,h3⟩
    ·cases h
   ·cases h
theorem zS {t:TypeId} {v:V} {r:Bool} {vs:List V} (h:gL E t v=some (r,vs)) (hr:r=true):size E t=some vs.length:=by
 unfold gL at h;split at h
 ·cases h
 ·rename_i n hn;rw[hn];split at h
  ·cases hb:Nat.beq n 1
   ·simp [hb] at h
   ·simp only[hb,cond_true,Option.some.injEq,Prod.mk.injEq] at h;rw[←h.2,Nat.eq_of_beq_eq_true hb];rfl
  ·split at h
   ·split at h
    ·simp only[Option.some.injEq,Prod.mk.injEq] at h;rw[←h.2,Nat.eq_of_beq_eq_true (h.1.trans hr)]
    ·cases h
   ·cases h
theorem nQ {place:Nat→Option (Nat×TypeId)} {place':Nat→Oq} (Yc:∀i off t n,place i=some (off,t)→size E t=some n→place' i=some (off,n)):∀{ps:List (Nat×V)} {ps':List (Nat×Value)} {cs out:List V} {cs':Array Value} {r:Bool},ps.map (·.1)=ps'.map (·.1)→ea ρ (ps.map (·.2)) (ps'.map (·.2))→ea ρ cs cs'.toList→aY cs→p6 E place cs ps=some (r,out)→r=true→∃out',Instr.fill place' cs' ps'=some out'∧ea ρ out out'.toList∧aY out
 |[],ps',cs,out,cs',r,h1,h2,hc,ho,h,hr=>by
  cases ps' with
  |nil=>simp only[p6,Option.some.injEq,Prod.mk.injEq] at h;obtain⟨_,rfl⟩:=h;exact⟨cs',rfl,hc,ho⟩
  |cons p l=>simp at h1
 |(i,v)::ps,ps',cs,out,cs',r,h1,h2,hc,ho,h,hr=>by
  cases ps' with
  |nil=>simp at h1
  |cons p l=>
   obtain⟨j,u⟩:=p;simp only[List.map_cons,List.cons.injEq] at h1 h2;obtain⟨rfl,h1⟩:=h1;obtain⟨u',m,he,hu,hm⟩:=h2.cT;simp only[List.cons.injEq] at he;obtain⟨rfl,rfl⟩:=he;simp only[p6] at h;split at h
   ·cases h
   ·rename_i off t zt;split at h
    ·rename_i r1 vs n T9 hsz;cases hb:(Nat.beq vs.length n&&Nat.ble (off+n) cs.length)
     ·simp [hb] at h
     ·simp only[hb,cond_true] at h;split at h
      ·rename_i r2 Zm nt;simp only[Option.some.injEq,Prod.mk.injEq] at h;obtain⟨FT,rfl⟩:=h;rw[hr,Bool.and_eq_true] at FT;rw[Bool.and_eq_true] at hb;have zu:vs.length=n:=Nat.eq_of_beq_eq_true hb.1;have mv:off+n≤cs.length:=Nat.le_of_ble_eq_true hb.2;obtain⟨hvs,hone⟩:=iF hu T9 FT.1;have qG:u.cells.size=n:=by have:=hvs.1;simp at this;omega
       have hcs:cs'.size=cs.length:=by have:=hc.1;simp at this;omega
       obtain⟨out',h3,h4,h5⟩:=nQ Yc (cs':=u.cells.zipIdx.foldl (fun(cs:Array Value) (p:Value×Nat)=>cs.setIfInBounds (off+p.2) p.1) cs') h1 hm
        (by rw[Gy];exact oX hvs hc) (lJ hone ho) nt FT.2
       refine⟨out', ?_,h4,h5⟩;simp only[Instr.fill,Yc _ _ _ _ zt hsz];rw[if_neg (by simp [qG,hcs];omega)];exact h3
      ·cases h
    ·cases h
theorem me {ev:Ev} {e:Operand→Value} (cL:oW ρ lam ev e):∀{l:List (Nat×Operand)} {ps:List (Nat×V)},j6 ev l=some ps→ps.map (·.1)=(l.map fun p=>(p.1,e p.2)).map (·.1)∧ea ρ (ps.map (·.2)) ((l.map fun p=>(p.1,e p.2)).map (·.2))
 |[],ps,h=>by simp only[j6,Option.some.injEq] at h;subst h;exact⟨rfl,.nil ρ⟩
 |(i,x)::l,ps,h=>by
  simp only[j6] at h;split at h
  ·rename_i y m hy hm;simp only[Option.some.injEq] at h;subst h;obtain⟨h1,h2⟩:=me cL hm;exact⟨by simp [h1],.cons (cL.v hy) h2⟩
  ·cases h
theorem vN {w:World}:∀{l:List Field},sN E (l.map fun f=>(f.offset,f.type))=true→(l.mapM fun f=>(do pure (f.offset, ←sizeOf f.type):Sem (Nat×Nat))).run E.P w=.ok (l.map fun f=>(f.offset,(size E f.type).getD 0)) w
 |[],h=>by simp
 |f::l,h=>by
  simp only[List.map_cons,sN,Bool.and_eq_true] at h;obtain⟨n,hn⟩:=Option.isSome_iff_exists.1 h.1;have ih:=vN (w:=w) h.2;simp only[List.mapM_cons,Sem.run_bind,eQ hn,Result.andThen_ok,Sem.run_pure,ih,hn,List.map_cons,Option.getD_some]
variable {dst:Option Tmp} {type:TypeId} {iV:String} {after:Array Edge} {guard:Option (Nat×Bool)} {ev:Ev} {e:Operand→Value} {d:fw T}
theorem Gz {t:TypeId} {parts:Array (Nat×Operand)} (cL:oW ρ lam ev e) (h:aU E (.build t parts) ev=some d) (hr:d.rq=true):fX E ρ lam w ⟨dst,.build t parts,type,iV,after,guard⟩ e (if d.c=true then d.x else d.y):=by
 simp only[aU] at h;split at h
 ·rename_i ti pl ps my zt hps;obtain⟨cU,dt,hi,hu,hd,_,_,hz⟩:=jw my;split at h
  ·rename_i z Ju;rw[Ju] at hz;obtain⟨z',DB,xf⟩:=Option.bind_eq_some_iff.1 hz;have hzero:(zeroValue t).run E.P w=.ok z' w:=by simp [zeroValue,typeInfo,hi,DB]
   obtain⟨zc,rfl,Ld,Yd⟩:=(ic (ρ:=ρ) xf).nL;split at h
   ·rename_i r cs hcs;simp only[Option.some.injEq] at h;subst h;obtain⟨h1,h2⟩:=me cL hps;have DC:(parts.map fun p=>(p.1,e p.2)).toList=parts.toList.map fun p=>(p.1,e p.2):=by simp
    unfold DT at zt;rw[my] at zt;simp only[] at zt;split at zt
    ·rename_i fs hs;rw[hs] at hd;obtain⟨f,rfl,rfl⟩:=Ec hd;cases hok:sN E (f.toList.map fun f=>(f.offset,f.type))
     ·simp [hok] at zt
     ·simp only[hok,cond_true,Option.some.injEq] at zt;subst zt
      obtain⟨out',h3,h4,h5⟩:=nQ (place':=fun j=>(f.toList.map fun f=>(f.offset,(size E f.type).getD 0))[j]?) (by
       intro i off t n hp hn;simp only[List.getElem?_map,Option.map_eq_some_iff,Prod.mk.injEq] at hp⊢;obtain⟨fd,h1,h2,h3⟩:=hp
       exact⟨fd,h1,h2,by rw[h3,hn];rfl⟩) h1 h2 Ld Yd hcs hr
      refine⟨.agg out', ?_,.v (.uP h5 h4)⟩;have hm:=vN (E:=E) (w:=w) hok
      have hm':(f.mapM fun f=>(do pure (f.offset, ←sizeOf f.type):Sem (Nat×Nat))).run E.P w=.ok (f.toList.map fun f=>(f.offset,(size E f.type).getD 0)).toArray w:=by
       rw[←Array.toArray_toList (xs:=f),List.mapM_toArray];simp only[Sem.run_map,hm,Result.andThen_ok]
      have Rx:Instr.fill (fun x=>(f.toList.map fun f=>(f.offset,(size E f.type).getD 0)).toArray[x]?) zc (parts.map fun p=>(p.1,e p.2)).toList=some out':=by
       rw[DC, ←h3];congr 1;funext x;simp
      simp only[Instr.build,execOp,Sem.run_bind,hzero,Result.andThen_ok,run_underlying hu,hm',Value.cells];simp only[Rx,Sem.run_pure,Result.andThen_ok]
    ·rename_i n el hs;rw[hs] at hd;cases sZ hd;split at zt
     ·rename_i sz hsz;simp only[Option.some.injEq] at zt;subst zt
      obtain⟨out',h3,h4,h5⟩:=nQ (place':=fun j=>some (j*sz,sz)) (by
       intro i off t n hp hn;simp only[Option.some.injEq,Prod.mk.injEq] at hp⊢;obtain⟨h1,rfl⟩:=hp;rw[hsz] at hn
       exact⟨h1,Option.some.inj hn⟩) h1 h2 Ld Yd hcs hr
      refine⟨.agg out', ?_,.v (.uP h5 h4)⟩;rw[←DC] at h3;simp only[Instr.build,execOp,Sem.run_bind,hzero,Result.andThen_ok,run_underlying hu,eQ hsz,Value.cells];simp only[h3,Sem.run_pure,Result.andThen_ok]
     ·cases zt
    ·cases zt
   ·cases h
  ·cases h
 ·cases h
theorem Ci {o:Oper} (cL:oW ρ lam ev e) (h:aU E o.op ev=some d) (hr:d.rq=true):∃v,(execOp e o).run E.P w=.ok (.value v) w∧TR ρ lam (if d.c=true then d.x else d.y) v:=by
 obtain⟨dst,op,type,iV,after,guard⟩:=o
 cases op with
 |move x=>exact JK cL h
 |assign x=>exact Ee cL h
 |pick c a b=>exact JL cL h
 |binOp op t x y yt=>exact LU cL h hr
 |unOp op t x=>exact O2 cL h
 |convert s t x=>exact Cg cL h
 |nilCheck x=>exact zQ cL h hr
 |fieldAddr t x f=>exact xJ cL h
 |field t x f=>exact Gv cL h hr
 |indexAddr t x i=>exact xK cL h hr
 |index t x i=>exact Gw cL h hr
 |slice t x lo hi mx=>exact Gx cL h hr
 |makeInterface t x=>exact rM cL h
 |makeFunc f first df=>exact zR cL h
 |extract x i=>exact Ch cL h
 |build t parts=>exact Gz cL h hr
 |typeAssert x xt t ok=>exact wk cL h hr
 |call c=>exact JM cL h
 |_=>simp [aU] at h
end
theorem jD:∀{ks:List bX} {cs:List V},aI ks cs=true→aY cs
 |[],[],_=>fun v hv=>by cases hv
 |k::ks,v::vs,h=>by
  simp only[aI,Bool.and_eq_true] at h;intro x hx;rcases List.mem_cons.1 hx with rfl|hx
  ·exact V.rm h.1
  ·exact jD h.2 x hx
 |[],_::_,h=>by cases h
 |_::_,[],h=>by cases h
structure oD (b:Nat) (w w':World):Prop where
 lF:∀b',b'≠b→w'.heap[b']? =w.heap[b']?
 size:w'.heap.size=w.heap.size
 os:w'.os=w.os
 tape:w'.tape=w.tape
 output:w'.output=w.output
theorem oD.refl (b:Nat) (w:World):oD b w w:=⟨fun _ _=>rfl,rfl,rfl,rfl,rfl⟩
theorem oD.trans {b:Nat} {x y z:World} (h:oD b x y) (k:oD b y z):oD b x z:=
 ⟨fun b' hb=>(k.lF b' hb).trans (h.lF b' hb),k.size.trans h.size,k.os.trans h.os,k.tape.trans h.tape,k.output.trans h.output⟩
theorem Cj (w:World) (b o:Nat) (v:Value):oD b w (w.setCell ⟨b,o,none⟩ v) where
 lF:=fun b' hb=>by simp only[World.setCell,Array.getElem?_modify];rw[if_neg (fun e=>hb e.symm)]
 size:=by simp [World.setCell]
 os:=rfl
 tape:=rfl
 output:=rfl
theorem Ck {w:World} {b:Nat} {cs:Array Value} {e:TypeId} {fz:Nat×Nat} (h:w.heap[b]? =some (.cells cs e fz)) (o:Nat) (v:Value):(w.setCell ⟨b,o,none⟩ v).heap[b]? =some (.cells (cs.setIfInBounds o v) e fz):=by
 simp [World.setCell,Array.getElem?_modify,h]
theorem qW:∀(vs:List Value) {w:World} {b:Nat} {cs:Array Value} {e:TypeId} {fz:Nat×Nat} (o:Nat),w.heap[b]? =some (.cells cs e fz)→∃cs',(w.setCells b o vs).heap[b]? =some (.cells cs' e fz)∧cs'.toList=iE cs.toList o vs∧oD b w (w.setCells b o vs)
 |[],w,b,cs,e,fz,o,h=>⟨cs,h,rfl,.refl b w⟩
 |v::vs,w,b,cs,e,fz,o,h=>by
  obtain⟨cs',h1,h2,h3⟩:=qW vs (o+1) (Ck h o v);refine⟨cs',h1, ?_,(Cj w b o v).trans h3⟩;rw[h2,iE];simp
theorem qf {w:World} {b:Nat} {cs:Array Value} {e:TypeId} {fz:Nat×Nat} (h:w.heap[b]? =some (.cells cs e fz)) (o:Nat):w.cell? ⟨b,o,none⟩=cs[o]? :=by
 simp [World.cell?,h]
theorem JN {w:World} {b:Nat} {cs:Array Value} {e:TypeId} {fz:Nat×Nat} (h:w.heap[b]? =some (.cells cs e fz)) (o:Nat):w.frozen? ⟨b,o,none⟩=(decide (fz.1≤o)&&decide (o<fz.2)):=by
 simp [World.frozen?,h]
section
variable {E:jR} {ρ lam:da} {w:World}
theorem rN {P:Program} {t:TypeId} {d:TypeDesc} (hu:P.underlying t=some d) (ha:ix d=false) {a:Addr} {x:Value} (h:w.cell? a=some x):(loadVar t a).run P w=.ok x w:=by
 simp [loadVar,ji hu,ha,h]
theorem nR {t e:TypeId} {cs:List V} {off b:Nat} {r rw:Bool} {v:V} (hc:fC ρ e cs rw w.heap[b]?) (h:l6 E t cs off=some (r,v)) (hr:r=true) (ho:∀cs',v=.agg cs'→rw=true∨aY cs'):∃v',(loadVar t ⟨b,off,none⟩).run E.P w=.ok v' w∧VR ρ v v':=by
 obtain⟨cs',fz,hb,hvs,hone,_⟩:=hc;unfold l6 at h;split at h
 ·rename_i k hk;obtain⟨d,cU,hu,hi,_,ha⟩:=uU hk;simp only[Option.some.injEq,Prod.mk.injEq] at h;have wi:=h.1.trans hr;rw[Bool.and_eq_true] at wi;have hlt:off<cs.length:=by simpa using wi.1
  obtain⟨y,hy,hv⟩:=hvs.nth hlt;exact⟨y,rN hu ha (by rw[qf hb];simpa using hy),by rw[←h.2,V.rk wi.2];exact hv⟩
 ·split at h
  ·rename_i ks n hks hn;obtain⟨d,cU,z,hu,hi,ha,_⟩:=xD hks;simp only[Option.some.injEq,Prod.mk.injEq] at h;have hle:off+n≤cs.length:=Nat.le_of_ble_eq_true (h.1.trans hr);have hlen:cs'.size=cs.length:=by have:=hvs.1;simp at this;omega
   have hrun:=run_loadCells_list (P:=E.P) w ⟨b,off,none⟩ ((cs'.toList.drop off).take n) (by
    intro j v hv;rw[fK,qf hb];rw[List.getElem?_take] at hv;split at hv
    ·rw[List.getElem?_drop] at hv;simpa using hv
    ·cases hv)
   have hl:((cs'.toList.drop off).take n).length=n:=by simp;omega
   rw[hl] at hrun;refine⟨.agg ((cs'.toList.drop off).take n).toArray,by simp [loadVar,ji hu,ha,eQ hn,hrun], ?_⟩;rw[←h.2];have hp:aY ((cs.drop off).take n):=(ho _ h.2.symm).elim (fun hrw c hc=>hone hrw c (List.mem_of_mem_drop (List.mem_of_mem_take hc))) id;exact .uP hp (by simpa using (hvs.drop off).take n)
  ·cases h
theorem ea.ZL {l:List V} {m:List Value} (h:ea ρ l m) (h1:aY l):∀v∈m,v.oneCell'=true:=by
 intro v hv;obtain⟨i,hi,rfl⟩:=List.getElem_of_mem hv;have hi':i<l.length:=by have:=h.1;omega
 exact(h.2 i l[i] m[i] (List.getElem?_eq_getElem hi') (List.getElem?_eq_getElem hi)).one (h1 _ (List.getElem_mem hi'))
theorem lK {e:TypeId} {cs vs:List V} {xs:List Value} {off b:Nat} (hc:fC ρ e cs true w.heap[b]?) (h1:ea ρ vs xs) (h2:aY vs) (hle:off+vs.length≤cs.length):∃w',(storeCells ⟨b,off,none⟩ xs).run E.P w=.ok () w'∧fC ρ e (bL cs off vs) true w'.heap[b]? ∧oD b w w':=by
 obtain⟨cs',fz,hb,hvs,hone,hfz⟩:=hc;have hlen:cs'.size=cs.length:=by have:=hvs.1;simp at this;omega
 have hxl:xs.length=vs.length:=h1.1.symm
 have hst:=run_storeCells_cells (P:=E.P) b off xs 0 w (by
  intro j hj
  rw[qf hb,Array.getElem?_eq_getElem (by omega)];rfl) (by
  intro j hj;rw[JN hb];have:=hfz rfl;simp only[Bool.and_eq_false_iff,decide_eq_false_iff_not]
  omega) (h1.ZL h2)
 obtain⟨Zm,h3,h4,h5⟩:=qW xs (off+0) hb;refine⟨_, ?_,⟨Zm,fz,h3, ?_,fun _=>lJ h2 (hone rfl), ?_⟩,h5⟩
 ·simpa using hst
 ·rw[h4];exact oX h1 hvs
 ·intro _
  have hsz:Zm.size=cs'.size:=by
   have:=congrArg List.length h4;rw[oq] at this;simpa using this
  rw[hsz];exact hfz rfl
theorem vO {t e:TypeId} {cs:List V} {off b:Nat} {r:Bool} {v:V} {x:Value} {vs:List V} (hc:fC ρ e cs true w.heap[b]?) (hv:VR ρ v x) (h:gL E t v=some (r,vs)) (hr:r=true) (hle:off+vs.length≤cs.length):∃w',(storeVar t ⟨b,off,none⟩ x).run E.P w=.ok () w'∧fC ρ e (bL cs off vs) true w'.heap[b]? ∧oD b w w':=by
 obtain⟨h1,h2⟩:=iF hv h hr;have hn:=zS h hr;have hxl:x.cells.size=vs.length:=by have:=h1.1;simp at this;omega
 obtain⟨w',h3,h4,h5⟩:=lK (E:=E) hc h1 h2 hle;exact⟨w',by simp [storeVar,eQ hn,hxl,h3],h4,h5⟩
end
section
variable {E:jR} {H0:ag} {ρ0:da} {w0:World} {ann:bO} {N:Nat} {ρ lam:da} {S:St} {a:Act} {w:World}
theorem LV {t d:Nat} {v:Value} (a:Act):(a.put (some d) v).tmps.getD t undef=if d=t∧d<a.tmps.size then v else a.tmps.getD t undef:=by
 simp only[Act.put,Array.getD_eq_getD_getElem?,Array.getElem?_setIfInBounds];by_cases h:d=t
 ·subst h;by_cases h2:d<a.tmps.size
  ·simp [h2]
  ·simp [h2]
 ·simp [h]
theorem SR.put (h:SR H0 ρ0 w0 ann N ρ lam S a w) {dst:Option Tmp} {x:T} {v:Value} (hx:TR ρ lam x v) (hok:JD ann N dst x):SR H0 ρ0 w0 ann N ρ lam (gD dst x S) (a.put dst v) w:=by
 cases dst with
 |none=>exact h
 |some d=>
  obtain⟨h1,h2⟩:=hok d rfl;have hd:d<a.tmps.size:=by rw[h.size];simpa using h1
  refine⟨h.defers,by simp [Act.put,h.size], ?_, ?_,h.lo,h.sW,h.hr,h.bN⟩
  ·intro t y hy;rw[LV];simp only[gD,St.setT,aP] at hy;by_cases ht:t=d
   ·simp only[ht,decide_true,cond_true,Option.some.injEq] at hy;subst hy;rw[if_pos ⟨ht.symm,hd⟩];exact hx
   ·simp only[ht,decide_false,cond_false] at hy;rw[if_neg (fun e=>ht e.1.symm)];exact h.tm t y hy
  ·intro t s off hy;simp only[gD,St.setT,aP] at hy;by_cases ht:t=d
   ·simp only[ht,decide_true,cond_true,Option.some.injEq] at hy;rw[ht];exact h2 s off hy
   ·simp only[ht,decide_false,cond_false] at hy;exact h.JH t s off hy
theorem HR.only {b:Nat} {w':World} {H:ag} (h:HR ρ H w) (ho:oD b w w') (hb:¬iD H ρ b):HR ρ H w' where
 vM:=fun id o hid=>by
  obtain⟨b',h1,h2⟩:=h.vM id o hid;refine⟨b',h1, ?_⟩;rw[ho.lF b' (fun e=>hb (e▸⟨id,o,hid,h1⟩))];exact h2
 inj:=h.inj
 lt:=fun id b' hid=>by rw[ho.size];exact h.lt id b' hid
 gl:=h.gl
theorem SR.setL (h:SR H0 ρ0 w0 ann N ρ lam S a w) {s b:Nat} {L L':aV} {w':World} (hs:S.lo s=some L) (hl:lam s=some b) (ho:oD b w w') (hL:uS ρ L' w'.heap[b]?):SR H0 ρ0 w0 ann N ρ lam (S.setL s L') a w':=by
 obtain⟨b',hb',_,hlt,hge,Ye⟩:=h.lo s L hs;rw[hl] at hb';cases hb';refine⟨h.defers,h.size,h.tm,h.JH, ?_, ?_,h.hr.only ho Ye, ?_⟩
 ·intro s' M hM;simp only[St.setL,aP] at hM;by_cases he:s'=s
  ·simp only[he,decide_true,cond_true,Option.some.injEq] at hM;subst hM;exact⟨b,by rw[he];exact hl,hL,by rw[ho.size];exact hlt,hge,Ye⟩
  ·simp only[he,decide_false,cond_false] at hM;obtain⟨b2,h1,h2,h3,h4,h5⟩:=h.lo s' M hM;have hne:b2≠b:=fun e=>he (h.sW s' s M L b hM hs (e▸h1) hl)
   exact⟨b2,h1,by rw[ho.lF b2 hne];exact h2,by rw[ho.size];exact h3,h4,h5⟩
 ·intro s1 s2 L1 L2 b2 h1 h2 e1 e2
  have key:∀s3 L3,(S.setL s L').lo s3=some L3→∃M,S.lo s3=some M:=by
   intro s3 L3 h3;simp only[St.setL,aP] at h3;by_cases he:s3=s
   ·exact⟨L,he▸hs⟩
   ·simp only[he,decide_false,cond_false] at h3;exact⟨_,h3⟩
  obtain⟨M1,hM1⟩:=key _ _ h1;obtain⟨M2,hM2⟩:=key _ _ h2;exact h.sW s1 s2 M1 M2 b2 hM1 hM2 e1 e2
 ·exact⟨h.bN.le,fun b2 mv hno=>by rw[ho.lF b2 (by omega)];exact h.bN.frame b2 mv hno,h.bN.iD,h.bN.nN,by rw[ho.size];exact h.bN.size,
   ho.os.trans h.bN.os,ho.tape.trans h.bN.tape,ho.output.trans h.bN.output⟩
theorem fC.mono {ρ':da} (h:ρ.le ρ') {e:TypeId} {cs:List V} {rw:Bool} {o:Option Go.Obj} (hc:fC ρ e cs rw o):fC ρ' e cs rw o:=by
 obtain⟨cs',fz,h1,h2,h3⟩:=hc;exact⟨cs',fz,h1,h2.mono h,h3⟩
theorem uS.mono {ρ':da} (h:ρ.le ρ') {L:aV} {o:Option Go.Obj} (hc:uS ρ L o):uS ρ' L o:=by
 cases L with
 |cells e cs=>exact fC.mono h hc
 |dz s iV=>exact hc
theorem D9.mono {ρ':da} (h:ρ.le ρ') {L:Obj} {o:Option Go.Obj} (hc:D9 ρ L o):D9 ρ' L o:=by
 cases L with
 |cells e cs ro=>exact fC.mono h hc
 |map es clock=>
  obtain⟨es',h1,h2⟩:=hc;exact⟨es',h1,h2.mono h⟩
 |dz m bN seen sH=>
  obtain⟨m',h1,h2⟩:=hc;exact⟨m',h1,h2.mono h⟩
theorem TR.mono {ρ':da} (h:ρ.le ρ') {x:T} {v:Value} (hx:TR ρ lam x v):TR ρ' lam x v:=by
 cases hx with
 |v h'=>exact .v (h'.mono h)
 |lp h'=>exact .lp h'
 |undef=>exact .undef
structure hT (o:Go.Obj) (w w':World):Prop where
 heap:w'.heap=w.heap.push o
 os:w'.os=w.os
 tape:w'.tape=w.tape
 output:w'.output=w.output
theorem hT.old {o:Go.Obj} {w w':World} (h:hT o w w') {b:Nat} (hb:b<w.heap.size):w'.heap[b]? =w.heap[b]? :=by
 rw[h.heap,Array.getElem?_push,if_neg (by omega)]
theorem hT.new {o:Go.Obj} {w w':World} (h:hT o w w'):w'.heap[w.heap.size]? =some o:=by
 rw[h.heap,Array.getElem?_push,if_pos rfl]
theorem hT.size {o:Go.Obj} {w w':World} (h:hT o w w'):w'.heap.size=w.heap.size+1:=by rw[h.heap];simp
theorem HR.Cl {o:Go.Obj} {w':World} {H:ag} (h:HR ρ H w) (hp:hT o w w'):HR ρ H w' where
 vM:=fun id x hid=>by
  obtain⟨b,h1,h2⟩:=h.vM id x hid;exact⟨b,h1,by rw[hp.old (h.lt id b h1).2];exact h2⟩
 inj:=h.inj
 lt:=fun id b hid=>⟨(h.lt id b hid).1,by rw[hp.size];have:=(h.lt id b hid).2;omega⟩
 gl:=h.gl
theorem kO.Cl {o:Go.Obj} {w':World} {H:ag} (h:kO H0 ρ0 w0 H ρ w) (hp:hT o w w'):kO H0 ρ0 w0 H ρ w' where
 le:=h.le
 frame:=fun b hb ho=>by rw[hp.old (by have:=h.size;omega)];exact h.frame b hb ho
 iD:=h.iD
 nN:=h.nN
 size:=by rw[hp.size];have:=h.size;omega
 os:=hp.os.trans h.os
 tape:=hp.tape.trans h.tape
 output:=hp.output.trans h.output
def dO (lam:da) (d b:Nat):da:=fun s=>if s=d then some b else lam s
theorem HQ {d t:Nat} {x:T} (h:(rD ann d S).tm t=some x):S.tm t=some x∧ab ann.aT t≠some d:=by
 simp only[rD] at h;split at h
 ·rename_i s hs;simp only[aP] at h;by_cases he:s=d
  ·simp [he] at h
  ·simp only[he,decide_false,cond_false] at h;exact⟨h,by rw[hs];simpa using he⟩
 ·rename_i hs;exact⟨h,by rw[hs];simp⟩
theorem SR.ZM (h:SR H0 ρ0 w0 ann N ρ lam S a w) {d:Nat} {L:aV} {o:Go.Obj} {w':World} (hp:hT o w w') (hL:uS ρ L (some o)):SR H0 ρ0 w0 ann N ρ (dO lam d w.heap.size) ((rD ann d S).setL d L) a w' where
 defers:=h.defers
 size:=h.size
 tm:=fun t x hx=>by
  obtain⟨h1,h2⟩:=HQ (S:=S) hx;have h3:=h.tm t x h1
  cases x with
  |v y=>generalize a.tmps.getD t undef=q at h3;cases h3 with|v h=>exact .v h
  |undef=>generalize a.tmps.getD t undef=q at h3;cases h3 with|undef=>exact .undef
  |lp s off=>
   have h4:=h.JH t s off h1;generalize a.tmps.getD t undef=q at h3
   cases h3 with
   |lp hl=>
    have hne:¬s=d:=fun e=>h2 (by rw[←e];exact h4)
    exact .lp (by rw[dO,if_neg hne];exact hl)
 JH:=fun t s off hx=>h.JH t s off (HQ (S:=S) hx).1
 lo:=fun s M hM=>by
  simp only[St.setL,rD,aP] at hM;by_cases he:s=d
  ·simp only[he,decide_true,cond_true,Option.some.injEq] at hM;subst hM;refine⟨w.heap.size,by rw[dO,if_pos he],by rw[hp.new];exact hL,by rw[hp.size];omega,h.bN.size, ?_⟩;rintro⟨id,x,h1,h2⟩;have:=(h.hr.lt id _ h2).2;omega
  ·simp only[he,decide_false,cond_false] at hM;obtain⟨b,h1,h2,h3,h4,h5⟩:=h.lo s M hM;exact⟨b,by rw[dO,if_neg he];exact h1,by rw[hp.old h3];exact h2,by rw[hp.size];omega,h4,h5⟩
 sW:=by
  intro s1 s2 L1 L2 b h1 h2 e1 e2
  have key:∀s M,((rD ann d S).setL d L).lo s=some M→(s=d)∨(s≠d∧S.lo s=some M):=by
   intro s M hM;simp only[St.setL,rD,aP] at hM;by_cases he:s=d
   ·exact .inl he
   ·simp only[he,decide_false,cond_false] at hM;exact .inr ⟨he,hM⟩
  rcases key _ _ h1 with r1|⟨n1,r1⟩<;>rcases key _ _ h2 with r2|⟨n2,r2⟩
  ·rw[r1,r2]
  ·obtain⟨b2,k1,_,k3,_⟩:=h.lo s2 L2 r2;rw[dO,if_neg n2,k1] at e2;rw[dO,if_pos r1] at e1;cases e1;cases e2;omega
  ·obtain⟨b2,k1,_,k3,_⟩:=h.lo s1 L1 r1;rw[dO,if_neg n1,k1] at e1;rw[dO,if_pos r2] at e2;cases e1;cases e2;omega
  ·rw[dO,if_neg n1] at e1;rw[dO,if_neg n2] at e2;exact h.sW _ _ _ _ _ r1 r2 e1 e2
 hr:=h.hr.Cl hp
 bN:=h.bN.Cl hp
theorem JO {H:ag} (h:HR ρ H w):ρ H.next=none:=by
 cases hn:ρ H.next with
 |none=>rfl
 |some b=>have:=(h.lt _ _ hn).1;omega
theorem O3 {H:ag} (h:HR ρ H w) (b:Nat):ρ.le (dO ρ H.next b):=by
 intro id b' hid;rw[dO,if_neg]
 ·exact hid
 ·rintro rfl;rw[JO h] at hid;cases hid
theorem fR {H:ag} {o o':Obj} {id:Nat} (h:(H.alloc o).get id=some o'):(id=H.next∧o'=o)∨(id≠H.next∧H.get id=some o'):=by
 simp only[ag.alloc,aP] at h;by_cases he:id=H.next
 ·simp only[he,decide_true,cond_true,Option.some.injEq] at h;exact .inl ⟨he,h.symm⟩
 ·simp only[he,decide_false,cond_false] at h;exact .inr ⟨he,h⟩
theorem SR.Cn (h:SR H0 ρ0 w0 ann N ρ lam S a w) {o:Go.Obj} {x:Obj} {w':World} (hp:hT o w w') (hx:D9 ρ x (some o)):SR H0 ρ0 w0 ann N (dO ρ S.hp.next w.heap.size) lam {S with hp:=S.hp.alloc x} a w':=by
 have hle:=O3 h.hr w.heap.size
 have old:∀{id b},id≠S.hp.next→dO ρ S.hp.next w.heap.size id=some b→ρ id=some b:=by
  intro id b hid h;rwa [dO,if_neg hid] at h
 have lv:∀b,iD (S.hp.alloc x) (dO ρ S.hp.next w.heap.size) b→b=w.heap.size∨iD S.hp ρ b:=by
  rintro b ⟨id,o',h1,h2⟩;rcases fR h1 with⟨rfl,rfl⟩|⟨hn,h1⟩
  ·rw[dO,if_pos rfl] at h2;exact .inl (Option.some.inj h2).symm
  ·exact .inr ⟨id,o',h1,old hn h2⟩
 have ow:∀b,nN (S.hp.alloc x) (dO ρ S.hp.next w.heap.size) b→b=w.heap.size∨nN S.hp ρ b:=by
  rintro b ⟨id,o',h1,hr,h2⟩;rcases fR h1 with⟨rfl,rfl⟩|⟨hn,h1⟩
  ·rw[dO,if_pos rfl] at h2;exact .inl (Option.some.inj h2).symm
  ·exact .inr ⟨id,o',h1,hr,old hn h2⟩
 refine⟨h.defers,h.size,fun t y hy=>(h.tm t y hy).mono hle,h.JH, ?_,h.sW,⟨?_, ?_, ?_,fun g hg=>hle _ _ (h.hr.gl g hg)⟩, ?_⟩
 ·intro s M hM;obtain⟨b,h1,h2,h3,h4,h5⟩:=h.lo s M hM;refine⟨b,h1,by rw[hp.old h3];exact h2.mono hle,by rw[hp.size];omega,h4,fun hl=> ?_⟩;rcases lv b hl with rfl|hl
  ·omega
  ·exact h5 hl
 ·intro id o' hid;rcases fR hid with⟨rfl,rfl⟩|⟨hn,hid⟩
  ·exact⟨w.heap.size,by rw[dO,if_pos rfl],by rw[hp.new];exact hx.mono hle⟩
  ·obtain⟨b,h1,h2⟩:=h.hr.vM id o' hid;exact⟨b,hle _ _ h1,by rw[hp.old (h.hr.lt id b h1).2];exact h2.mono hle⟩
 ·intro id id' o1 o2 b h1 h2 hr e1 e2;rcases fR h1 with⟨r1,_⟩|⟨n1,k1⟩<;>rcases fR h2 with⟨r2,_⟩|⟨n2,k2⟩
  ·rw[r1,r2]
  ·rw[dO,if_pos r1] at e1;have:=(h.hr.lt _ _ (old n2 e2)).2;cases e1;omega
  ·rw[dO,if_pos r2] at e2;have:=(h.hr.lt _ _ (old n1 e1)).2;cases e2;omega
  ·exact h.hr.inj id id' o1 o2 b k1 k2 hr (old n1 e1) (old n2 e2)
 ·intro id b hid;by_cases hn:id=S.hp.next
  ·rw[dO,if_pos hn] at hid;cases hid;exact⟨by simp [ag.alloc,hn],by rw[hp.size];omega⟩
  ·have:=h.hr.lt _ _ (old hn hid);exact⟨by simp [ag.alloc];omega,by rw[hp.size];omega⟩
 ·have hs:=h.bN.Cl hp;refine⟨hs.le.trans hle,hs.frame,fun b hb=> ?_,fun b hb=> ?_,hs.size,hs.os,hs.tape,hs.output⟩
  ·rcases lv b hb with rfl|hb
   ·exact .inr h.bN.size
   ·exact hs.iD b hb
  ·rcases ow b hb with rfl|hb
   ·exact .inr h.bN.size
   ·exact hs.nN b hb
theorem s6 {H:ag} {o o':Obj} {i id:Nat} (h:(H.put i o).get id=some o'):(id=i∧o'=o)∨(id≠i∧H.get id=some o'):=by
 simp only[ag.put,aP] at h;by_cases he:id=i
 ·simp only[he,decide_true,cond_true,Option.some.injEq] at h;exact .inl ⟨he,h.symm⟩
 ·simp only[he,decide_false,cond_false] at h;exact .inr ⟨he,h⟩
theorem SR.Co (h:SR H0 ρ0 w0 ann N ρ lam S a w) {id b:Nat} {x y:Obj} {w':World} (hid:S.hp.get id=some x) (hrw:x.rw =true) (hy:y.rw =true) (hb:ρ id=some b) (ho:oD b w w') (hx:D9 ρ y w'.heap[b]?):SR H0 ρ0 w0 ann N ρ lam {S with hp:=S.hp.put id y} a w':=by
 have lv:∀b,iD (S.hp.put id y) ρ b→iD S.hp ρ b:=by
  rintro b ⟨i,o',h1,h2⟩;rcases s6 h1 with⟨rfl,rfl⟩|⟨hn,h1⟩
  ·exact⟨i,x,hid,h2⟩
  ·exact⟨i,o',h1,h2⟩
 have ow:∀b,nN (S.hp.put id y) ρ b→nN S.hp ρ b:=by
  rintro b ⟨i,o',h1,hr,h2⟩;rcases s6 h1 with⟨rfl,rfl⟩|⟨hn,h1⟩
  ·exact⟨i,x,hid,hrw,h2⟩
  ·exact⟨i,o',h1,hr,h2⟩
 have hown:nN S.hp ρ b:=⟨id,x,hid,hrw,hb⟩;refine⟨h.defers,h.size,h.tm,h.JH, ?_,h.sW,⟨?_, ?_, ?_,h.hr.gl⟩, ?_⟩
 ·intro s M hM;obtain⟨b2,h1,h2,h3,h4,h5⟩:=h.lo s M hM;have hne:b2≠b:=fun e=>h5 (e▸⟨id,x,hid,hb⟩)
  exact⟨b2,h1,by rw[ho.lF b2 hne];exact h2,by rw[ho.size];exact h3,h4,fun hl=>h5 (lv b2 hl)⟩
 ·intro i o' hi;rcases s6 hi with⟨rfl,rfl⟩|⟨hn,hi⟩
  ·exact⟨b,hb,hx⟩
  ·obtain⟨b2,h1,h2⟩:=h.hr.vM i o' hi;have hne:b2≠b:=fun e=>hn (h.hr.inj id i x o' b hid hi hrw hb (e▸h1)).symm
   exact⟨b2,h1,by rw[ho.lF b2 hne];exact h2⟩
 ·intro i i' o1 o2 b2 h1 h2 hr e1 e2;rcases s6 h1 with⟨r1,_⟩|⟨n1,k1⟩<;>rcases s6 h2 with⟨r2,_⟩|⟨n2,k2⟩
  ·rw[r1,r2]
  ·rw[r1] at e1⊢;exact h.hr.inj id i' x o2 b2 hid k2 hrw e1 e2
  ·rw[r2] at e2⊢;exact(h.hr.inj id i x o1 b2 hid k1 hrw e2 e1).symm
  ·exact h.hr.inj i i' o1 o2 b2 k1 k2 hr e1 e2
 ·intro i b2 hi;rw[ho.size];exact h.hr.lt i b2 hi
 ·refine⟨h.bN.le,fun b2 mv hno=> ?_,fun b2 mv=>h.bN.iD b2 (lv b2 mv),fun b2 mv=>h.bN.nN b2 (ow b2 mv),by rw[ho.size];exact h.bN.size,
   ho.os.trans h.bN.os,ho.tape.trans h.bN.tape,ho.output.trans h.bN.output⟩
  have hne:b2≠b:=by
   rintro rfl;rcases h.bN.nN b2 hown with h1|h1
   ·exact hno h1
   ·omega
  rw[ho.lF b2 hne];exact h.bN.frame b2 mv hno
theorem SR.call (h:SR H0 ρ0 w0 ann N ρ lam S a w) {H':ag} {ρ':da} {w':World} (hs:kO S.hp ρ w H' ρ' w') (hr:HR ρ' H' w'):SR H0 ρ0 w0 ann N ρ' lam {S with hp:=H'} a w' where
 defers:=h.defers
 size:=h.size
 tm:=fun t y hy=>(h.tm t y hy).mono hs.le
 JH:=h.JH
 lo:=fun s M hM=>by
  obtain⟨b,h1,h2,h3,h4,h5⟩:=h.lo s M hM;have hno:¬nN S.hp ρ b:=fun⟨id,o,k1,_,k2⟩=>h5 ⟨id,o,k1,k2⟩
  refine⟨b,h1,by rw[hs.frame b h3 hno];exact h2.mono hs.le,by have:=hs.size;omega,h4,fun hl=> ?_⟩;rcases hs.iD b hl with h|h
  ·exact h5 h
  ·omega
 sW:=h.sW
 hr:=hr
 bN:=h.bN.trans hs
theorem SR.sP (h:SR H0 ρ0 w0 ann N ρ lam S a w) {s b:Nat} {e:TypeId} {cs:List V} (hs:S.lo s=some (.cells e cs)) (hb:lam s=some b):SR H0 ρ0 w0 ann N (dO ρ S.hp.next b) lam (oO ann s e cs S) a w:=by
 obtain⟨b',hb',hc,hlt,hge,Ye⟩:=h.lo s _ hs;rw[hb] at hb';cases hb'
 have hle:ρ.le (dO ρ S.hp.next b):=by
  intro id b2 hid;have hne:id≠S.hp.next:=by have:=(h.hr.lt id b2 hid).1;omega
  rw[dO,if_neg hne];exact hid
 have old:∀{id b2},id≠S.hp.next→dO ρ S.hp.next b id=some b2→ρ id=some b2:=by
  intro id b2 hn h2
  rwa [dO,if_neg hn] at h2
 have lv:∀b2,iD (S.hp.alloc (.cells e cs false)) (dO ρ S.hp.next b) b2→b2=b∨iD S.hp ρ b2:=by
  rintro b2 ⟨id,o',h1,h2⟩;rcases fR h1 with⟨rfl,rfl⟩|⟨hn,h1⟩
  ·rw[dO,if_pos rfl] at h2;exact .inl (Option.some.inj h2).symm
  ·exact .inr ⟨id,o',h1,old hn h2⟩
 have ow:∀b2,nN (S.hp.alloc (.cells e cs false)) (dO ρ S.hp.next b) b2→b2=b∨nN S.hp ρ b2:=by
  rintro b2 ⟨id,o',h1,hr,h2⟩;rcases fR h1 with⟨rfl,rfl⟩|⟨hn,h1⟩
  ·rw[dO,if_pos rfl] at h2;exact .inl (Option.some.inj h2).symm
  ·exact .inr ⟨id,o',h1,hr,old hn h2⟩
 have hlo:∀{t L},(oO ann s e cs S).lo t=some L→t≠s∧S.lo t=some L:=by
  intro t L ht;simp only[oO,aP] at ht;by_cases hts:t=s
  ·simp [hts] at ht
  ·simp only[hts,decide_false,cond_false] at ht;exact⟨hts,ht⟩
 have Zn:∀{t x},(oO ann s e cs S).tm t=some x→S.tm t=some x:=by
  intro t x ht;simp only[oO,rD] at ht;split at ht
  ·rename_i s' hs';cases hq:Nat.beq s' s
   ·simpa [hq] using ht
   ·simp [hq] at ht
  ·exact ht
 refine⟨h.defers,h.size,fun t y hy=>(h.tm t y (Zn hy)).mono hle,fun t s' off hy=>h.JH t s' off (Zn hy), ?_, ?_,⟨?_, ?_, ?_,fun g hg=>hle _ _ (h.hr.gl g hg)⟩, ?_⟩
 ·intro s' M hM;obtain⟨hne,hM⟩:=hlo hM;obtain⟨b2,h1,h2,h3,h4,h5⟩:=h.lo s' M hM;refine⟨b2,h1,h2.mono hle,h3,h4,fun hl=> ?_⟩;rcases lv b2 hl with rfl|hl
  ·exact hne (h.sW s' s M _ b2 hM hs h1 hb)
  ·exact h5 hl
 ·intro s1 s2 L1 L2 b2 h1 h2 e1 e2;exact h.sW s1 s2 L1 L2 b2 (hlo h1).2 (hlo h2).2 e1 e2
 ·intro id o' hid;rcases fR hid with⟨rfl,rfl⟩|⟨hn,hid⟩
  ·exact⟨b,by rw[dO,if_pos rfl],fC.mono hle hc⟩
  ·obtain⟨b2,h1,h2⟩:=h.hr.vM id o' hid;exact⟨b2,hle _ _ h1,h2.mono hle⟩
 ·intro id id' o1 o2 b2 h1 h2 hr e1 e2;rcases fR h1 with⟨r1,_⟩|⟨n1,k1⟩<;>rcases fR h2 with⟨r2,_⟩|⟨n2,k2⟩
  ·rw[r1,r2]
  ·rw[dO,if_pos r1] at e1;cases e1;exact(Ye ⟨id',o2,k2,old n2 e2⟩).elim
  ·rw[dO,if_pos r2] at e2;cases e2;exact(Ye ⟨id,o1,k1,old n1 e1⟩).elim
  ·exact h.hr.inj id id' o1 o2 b2 k1 k2 hr (old n1 e1) (old n2 e2)
 ·intro id b2 hid;by_cases hn:id=S.hp.next
  ·rw[dO,if_pos hn] at hid;cases hid;exact⟨by simp [oO,ag.alloc,hn],hlt⟩
  ·have:=h.hr.lt _ _ (old hn hid);exact⟨by simp [oO,ag.alloc];omega,this.2⟩
 ·have hq:=h.bN;refine⟨hq.le.trans hle,hq.frame,fun b2 mv=> ?_,fun b2 mv=> ?_,hq.size,hq.os,hq.tape,hq.output⟩
  ·rcases lv b2 mv with rfl|mv
   ·exact .inr hge
   ·exact hq.iD b2 mv
  ·rcases ow b2 mv with rfl|mv
   ·exact .inr hge
   ·exact hq.nN b2 mv
theorem mf:∀{l:List Operand} {S S':St} {ρ:da} {vs:List V},SR H0 ρ0 w0 ann N ρ lam S a w→p7 ann l S=some (vs,S')→∃ρ',SR H0 ρ0 w0 ann N ρ' lam S' a w∧ea ρ' vs (l.map a.eval)∧ρ.le ρ'
 |[],S,S',ρ,vs,h,hl=>by
  simp only[p7,Option.some.injEq,Prod.mk.injEq] at hl;obtain⟨rfl,rfl⟩:=hl;exact⟨ρ,h,.nil ρ,.refl ρ⟩
 |x::l,S,S',ρ,vs,h,hl=>by
  simp only[p7] at hl;split at hl
  ·rename_i v hx;split at hl
   ·rename_i ws S2 h2;simp only[Option.some.injEq,Prod.mk.injEq] at hl;obtain⟨rfl,rfl⟩:=hl;obtain⟨ρ',k1,k2,k3⟩:=mf h h2;exact⟨ρ',k1,.cons ((h.ev.tv hx).mono k3) k2,k3⟩
   ·cases hl
  ·rename_i s hx;split at hl
   ·rename_i e cs hs;split at hl
    ·rename_i ws S2 h2;simp only[Option.some.injEq,Prod.mk.injEq] at hl;obtain⟨rfl,rfl⟩:=hl;obtain⟨b,hb,he⟩:=h.ev.lp hx
     have hle:ρ.le (dO ρ S.hp.next b):=by
      intro id b2 hid;have hne:id≠S.hp.next:=by have:=(h.hr.lt id b2 hid).1;omega
      rw[dO,if_neg hne];exact hid
     obtain⟨ρ',k1,k2,k3⟩:=mf (h.sP hs hb) h2;refine⟨ρ',k1,.cons ?_ k2,hle.trans k3⟩;rw[he];exact .ak (k3 _ _ (by rw[dO,if_pos rfl]))
    ·cases hl
   ·cases hl
  ·cases hl
theorem SR.drew (h:SR H0 ρ0 w0 ann N ρ lam S a w) (n:Nat):SR H0 ρ0 w0 ann N ρ lam S a {w with drawn:=n}:=
 ⟨h.defers,h.size,h.tm,h.JH,h.lo,h.sW,⟨h.hr.vM,h.hr.inj,h.hr.lt,h.hr.gl⟩,⟨h.bN.le,h.bN.frame,h.bN.iD,h.bN.nN,h.bN.size,h.bN.os,h.bN.tape,h.bN.output⟩⟩
end
def xL (H:ag) (ρ:da) (w:World) (K:V→ag→Prop) (e:Ending) (w':World):Prop:=
 ∃v v' H' ρ',e=.returned v'∧K v H'∧VR ρ' v v'∧HR ρ' H' w'∧kO H ρ w H' ρ' w'
def ie (E:jR) (f:FuncId) (args:List V) (H:ag) (K:V→ag→Prop):Prop:=
 ∀(ρ:da) (w:World) (aS:Array Value),HR ρ H w→ea ρ args aS.toList→Calls E.P f aS w (xL H ρ w K)
def jE (E:jR):Prop:=∀g x,E.ext g=some x→∀args H K,x.run args H K→∀(ρ:da) (w:World) (aS:Array Value),HR ρ H w→ea ρ args aS.toList→
 (∃v v' w' H' ρ',(callFunc g aS).run E.P w=.ok (.value v') w'∧K v H'∧VR ρ' v v'∧HR ρ' H' w'∧kO H ρ w H' ρ' w')∨
 ((callFunc g aS).run E.P w=.ok (.enter g aS) w∧Calls E.P g aS w (xL H ρ w K))
section
variable {E:jR} {H0:ag} {ρ0:da} {w0:World} {ann:bO} {N:Nat} {ρ lam:da} {S:St} {a:Act} {w:World}
theorem uV {t:TypeId} {i:TI} {z:V} (h:E.ti t=some i) (hz:i.zero=some z) (ρ:da) (w:World):∃z',(zeroValue t).run E.P w=.ok z' w∧ea ρ z.cells z'.cells.toList∧aY z.cells:=by
 obtain⟨cU,dt,hi,hu,hd,_,_,Ju⟩:=jw h;rw[hz] at Ju;obtain⟨z',DB,xf⟩:=Option.bind_eq_some_iff.1 Ju;exact⟨z',by simp [zeroValue,typeInfo,hi,DB],(ic xf).cells (fun e=>by have:=j8 xf;rw[e] at this;have:=this .bZ (by simp [V.cells]);cases this),j8 xf⟩
theorem ig {e:TypeId} {cs:List V} {cs':Array Value} {rw:Bool} (h:ea ρ cs cs'.toList) (h1:aY cs):fC ρ e cs rw (some (.cells cs' e)):=
 ⟨cs',(0,0),rfl,h,fun _=>h1,fun _=>.inl rfl⟩
theorem GA {o:Oper} {ev:Ev} {e:Operand→Value} (cL:oW ρ lam ev e) {r:Bool} {L:aV} (h:iz E o.op ev=some (r,L)) (hr:r=true):∃(x:Go.Obj) (w':World),(execOp e o).run E.P w=.ok (.value (.pointer (some ⟨w.heap.size,0,none⟩))) w'∧hT x w w'∧uS ρ L (some x):=by
 obtain⟨dst,op,type,iV,after,guard⟩:=o
 cases op with
 |alloc t=>
  simp only[iz] at h;split at h
  ·rename_i i hi;split at h
   ·rename_i z hz;simp only[Option.some.injEq,Prod.mk.injEq] at h;obtain⟨_,rfl⟩:=h;obtain⟨z',h1,h2,h3⟩:=uV hi hz ρ w;refine⟨.cells z'.cells t,{w with heap:=w.heap.push (.cells z'.cells t)}, ?_,⟨rfl,rfl,rfl,rfl⟩,ig h2 h3⟩;simp [execOp,Instr.alloc,h1,newVar,newRow]
   ·cases h
  ·cases h
 |box t x=>
  simp only[iz] at h;split at h
  ·rename_i v hv;split at h
   ·rename_i r' vs hvs;simp only[Option.some.injEq,Prod.mk.injEq] at h;obtain⟨rfl,rfl⟩:=h;obtain⟨h2,h3⟩:=iF (cL.v hv) hvs hr;refine⟨.cells (e x).cells t,{w with heap:=w.heap.push (.cells (e x).cells t)}, ?_,⟨rfl,rfl,rfl,rfl⟩,ig h2 h3⟩;simp [execOp,Instr.box,newVar,newRow]
   ·cases h
  ·cases h
 |range t x=>
  simp only[iz] at h;split at h
  ·rename_i s hk hx;obtain⟨dt,hu,hd⟩:=bG hk;simp only[Option.some.injEq,Prod.mk.injEq] at h;obtain⟨_,rfl⟩:=h;cases dt<;>simp [bf,cC] at hd
   refine⟨.stringIter s 0,{w with heap:=w.heap.push (.stringIter s 0)}, ?_,⟨rfl,rfl,rfl,rfl⟩,rfl⟩;simp [execOp,Instr.range,run_underlying hu,(cL.v hx).uQ]
  ·cases h
 |_=>simp [iz] at h
theorem Eh {o:Oper} {ev:Ev} {e:Operand→Value} (cL:oW ρ lam ev e) {s:Nat} {L:Option aV} {d:fw T} (h:gz E o.op ev s L=some d) (hr:d.rq=true) (hL:∀M,L=some M→∃b,lam s=some b∧uS ρ M w.heap[b]?):∃v,(execOp e o).run E.P w=.ok (.value v) w∧TR ρ lam (if d.c=true then d.x else d.y) v:=by
 obtain⟨dst,op,type,iV,after,guard⟩:=o
 cases op with
 |load t a=>
  simp only[gz] at h;split at h
  ·rename_i s' off el cs ha;obtain⟨b,hb,hc⟩:=hL _ rfl;by_cases hs:s=s'
   ·subst hs;simp only[Nat.beq_refl,cond_true] at h;unfold Aq at h;split at h
    ·rename_i r v hv;simp only[Option.some.injEq] at h;subst h;obtain⟨b',hb',he⟩:=cL.lp ha;rw[hb] at hb';cases hb';obtain⟨v',h1,h2⟩:=nR hc hv hr (fun _ _=>.inl rfl);exact⟨v',by simp [execOp,Instr.loadAt,he,Instr.sureAddr,h1],.v h2⟩
    ·cases h
   ·rw[show Nat.beq s s'=false by rw[aP];simpa using hs] at h;simp at h
  ·cases h
 |_=>simp [gz] at h
theorem vP {w:World} {b:Nat} {s:ByteArray} {p:Nat} (h:w.heap[b]? =some (.stringIter s p)):(getObj b).run E.P w=.ok (.stringIter s p) w:=by
 simp [getObj,Sem.run,h]
theorem Ei {w:World} {b:Nat} {s:ByteArray} {p q:Nat} (h:w.heap[b]? =some (.stringIter s p)):(setObj b (.stringIter s q)).run E.P w=.ok () {w with heap:=w.heap.setIfInBounds b (.stringIter s q)}:=by
 simp [setObj,Sem.run,h]
theorem zT {t:TypeId} {cs:List V} (h:(kG E t cs).1=true):(kG E t cs).2=cs:=by
 unfold kG at h⊢;split
 ·rename_i ks hk;rw[hk] at h;exact km h rfl
 ·rfl
theorem Cp {o:Oper} {ev:Ev} {e:Operand→Value} (cL:oW ρ lam ev e) {s:Nat} {L:Option aV} {d:fw (aV×T)} (h:dI E o.op ev s L=some d) (hr:d.rq=true) (hL:∀M,L=some M→∃b,lam s=some b∧uS ρ M w.heap[b]?):∃M b w' v,L=some M∧lam s=some b∧oD b w w'∧uS ρ (if d.c=true then d.x else d.y).1 w'.heap[b]? ∧TR ρ lam (if d.c=true then d.x else d.y).2 v∧((execOp e o).run E.P w=.ok (.value v) w'∨(v=undef∧(execOp e o).run E.P w=.ok .skip w')):=by
 obtain⟨dst,op,type,iV,after,guard⟩:=o
 cases op with
 |store t a x=>
  simp only[dI] at h;split at h
  ·rename_i s' off v el cs ha hx;obtain⟨b,hb,hc⟩:=hL _ rfl;split at h
   ·rename_i r vs hvs;by_cases hs:s=s'
    ·subst hs;simp only[Nat.beq_refl,cond_true,Option.some.injEq] at h;subst h;obtain⟨b',hb',he⟩:=cL.lp ha;rw[hb] at hb';cases hb';simp only[fw.one,Bool.and_eq_true] at hr;obtain⟨w',h1,h2,h3⟩:=vO hc (cL.v hx) hvs hr.1.1 (Nat.le_of_ble_eq_true hr.1.2);rw[zT hr.2];exact⟨_,b,w',undef,rfl,hb,h3,h2,.undef,.inr ⟨rfl,by simp [execOp,Instr.storeAt,he,Instr.sureAddr,h1]⟩⟩
    ·rw[show Nat.beq s s'=false by rw[aP];simpa using hs] at h;simp at h
   ·cases h
  ·cases h
 |next it isStr=>
  cases isStr with
  |false=>simp [dI] at h
  |true=>
   simp only[dI] at h;split at h
   ·rename_i s' dS p ha;obtain⟨b,hb,hc⟩:=hL _ rfl;by_cases hs:s=s'
    ·subst hs;simp only[Nat.beq_refl,cond_true,Option.some.injEq] at h;subst h;obtain⟨b',hb',he⟩:=cL.lp ha;rw[hb] at hb';cases hb';have hc:w.heap[b]? =some (.stringIter dS p):=hc
     have hlt:b<w.heap.size:=by
      rcases Nat.lt_or_ge b w.heap.size with h|h
      ·exact h
      ·rw[Array.getElem?_eq_none h] at hc;cases hc
     by_cases hp:p<dS.size
     ·have Gc:Nat.blt p dS.size=true:=by simpa using hp
      refine⟨_,b,{w with heap:=w.heap.setIfInBounds b (.stringIter dS (p+(Utf8.decode dS p).2))},
       .tuple #[.bool true,.int .i64 (p:Int),.int .i32 ((Utf8.decode dS p).1:Int)],rfl,hb,⟨?_,by simp,rfl,rfl,rfl⟩, ?_, ?_,.inl ?_⟩
      ·intro b' hne;simp [Array.getElem?_setIfInBounds,Ne.symm hne]
      ·simp [uS,Gc,hlt]
      ·simp only[Gc,if_true];exact .v (.gj (.cons (.bool _) (.cons (.int _ _) (.cons (.int _ _) (.nil ρ)))))
      ·simp only[execOp,he,Instr.next,Sem.run_bind,vP hc,Result.andThen_ok,hp,if_true];rw[Ei hc];simp [goInt]
     ·have Gc:Nat.blt p dS.size=false:=by
       cases hh:Nat.blt p dS.size
       ·rfl
       ·exact(hp (by simpa using hh)).elim
      refine⟨_,b,w,.tuple #[.bool false],rfl,hb,.refl b w, ?_, ?_,.inl ?_⟩
      ·simpa [uS,Gc] using hc
      ·simp only[Gc,Bool.false_eq_true,if_false];exact .v (.gj (.cons (.bool _) (.nil ρ)))
      ·simp only[execOp,he,Instr.next,Sem.run_bind,vP hc,Result.andThen_ok,hp,if_false];simp
    ·rw[show Nat.beq s s'=false by rw[aP];simpa using hs] at h;simp at h
   ·cases h
 |_=>simp [dI] at h
end
section
variable {E:jR} {H0:ag} {ρ0:da} {w0:World} {ann:bO} {N:Nat} {ρ lam:da} {S:St} {a:Act} {w:World}
theorem xM {H:ag} (hr:HR ρ H w) {id off n:Nat} (h:H.inb id off n=true):∃e cs ro,H.get id=some (.cells e cs ro)∧off+n≤cs.length∧∃b,ρ id=some b∧fC ρ e cs (!ro) w.heap[b]? :=by
 unfold ag.inb at h;split at h
 ·rename_i e cs ro hg;obtain⟨b,h1,h2⟩:=hr.vM id _ hg;exact⟨e,cs,ro,hg,Nat.le_of_ble_eq_true h,b,h1,h2⟩
 ·cases h
theorem fL:∀(n:Nat) (l:List V),(gM n l).length=n*l.length
 |0,l=>by simp [gM]
 |n+1,l=>by simp [gM,fL n l,Nat.add_mul];omega
theorem gk {l:List V} (h:aY l):∀n:Nat,aY (gM n l)
 |0=>fun v hv=>by simp [gM] at hv
 |n+1=>fun v hv=>by
  simp only[gM,List.mem_append] at hv;exact hv.elim (h v) (gk h n v)
theorem xN {l:List V} (hl:0<l.length):∀(n i:Nat),i<n*l.length→(gM n l)[i]? =l[i % l.length]?
 |0,i,h=>by simp at h
 |n+1,i,h=>by
  by_cases hi:i<l.length
  ·rw[gM,List.getElem?_append_left hi,Nat.mod_eq_of_lt hi]
  ·have hi:l.length≤i:=by omega
   rw[gM,List.getElem?_append_right hi,xN hl n (i-l.length) (by rw[Nat.add_mul] at h;omega), ←Nat.mod_eq_sub_mod hi]
theorem Ej {z:List V} {z':Array Value} {n k:Nat} (hz:ea ρ z z'.toList) (hn:z.length=n) (hp:0<n):ea ρ (gM k z) ((Array.range (k*n)).map (z'[· % z'.size]!)).toList:=by
 have hs:z'.size=n:=by have:=hz.1;simp at this;omega
 refine⟨by simp [fL,hn], ?_⟩;intro i x y hx hy
 have hi:i<k*n:=by
  rcases Nat.lt_or_ge i (k*n) with h|h
  ·exact h
  ·rw[List.getElem?_eq_none (by rw[fL,hn];exact h)] at hx;cases hx
 rw[xN (by omega) k i (by rw[hn];exact hi),hn] at hx;have hm:i % n<n:=Nat.mod_lt _ hp;refine hz.2 (i % n) x y hx ?_;have hy':z'[i % z'.size]! =y:=by simpa [hi] using hy
 rw[hs,getElem!_pos z' (i % n) (by omega)] at hy';rw[←hy',Array.getElem?_toList,Array.getElem?_eq_getElem (by omega)]
theorem rO:∀{l:List V},uL l=true↔aY l
 |[]=>by simp [uL,aY]
 |v::l=>by
  rw[uL,Bool.and_eq_true,rO];simp [aY]
theorem aY.append {l m:List V} (h:aY l) (k:aY m):aY (l++m):=by
 intro v hv;rcases List.mem_append.1 hv with hv|hv
 ·exact h v hv
 ·exact k v hv
theorem s7 (s:ByteArray):aY (eI s):=by
 intro v hv;simp only[eI,List.mem_map] at hv;obtain⟨b,_,rfl⟩:=hv;rfl
theorem s8 (ρ:da) (s:ByteArray):ea ρ (eI s) (s.data.map fun b=>Value.int .u8 b.toNat).toList:=by
 refine⟨by simp [eI], ?_⟩;intro i x y hx hy;simp only[eI,List.getElem?_map,Array.toList_map,Option.map_eq_some_iff] at hx hy;obtain⟨b,hb,rfl⟩:=hx;obtain⟨b',hb',rfl⟩:=hy;rw[hb] at hb';cases hb';exact .int _ _
theorem Cq (s:ByteArray):(eI s).length=s.size:=by
 unfold eI;rw[List.length_map];rfl
theorem O4 {H:ag} {id off n:Nat} (h:H.inb id off n=true):(H.sub id off n).length=n:=by
 unfold ag.inb at h;split at h
 ·rename_i e cs ro hg;have:=Nat.le_of_ble_eq_true h;simp [ag.sub,ag.cs,hg];omega
 ·cases h
theorem wm {H:ag} (hr:HR ρ H w) {id off n b:Nat} (hb:ρ id=some b) (h:H.inb id off n=true):∃xs,(loadCells ⟨b,off,none⟩ n).run E.P w=.ok xs w∧ea ρ (H.sub id off n) xs.toList:=by
 obtain⟨e,cs,ro,hg,hle,b',hb',cs',fz,hcell,hvs,_,_⟩:=xM hr h;rw[hb] at hb';cases hb';have hsub:H.sub id off n=(cs.drop off).take n:=by simp [ag.sub,ag.cs,hg]
 have hlen:cs'.size=cs.length:=by have:=hvs.1;simp at this;omega
 have hrun:=run_loadCells_list (P:=E.P) w ⟨b,off,none⟩ ((cs'.toList.drop off).take n) (by
  intro j v hv;rw[fK,qf hcell];rw[List.getElem?_take] at hv;split at hv
  ·rw[List.getElem?_drop] at hv;simpa using hv
  ·cases hv)
 have hl:((cs'.toList.drop off).take n).length=n:=by simp;omega
 rw[hl] at hrun;exact⟨_,hrun,by rw[hsub];simpa using (hvs.drop off).take n⟩
theorem wo {n:Nat} {x:Value} {m:Nat} (hx:Builtin.lenOf x=pure m):(Builtin.firstCells n 0 x).run E.P w=.ok #[] w:=by
 cases x with
 |string s=>simp [Builtin.firstCells]
 |slice p l c=>cases p<;>simp [Builtin.firstCells,loadCells,loadCellsFrom]
 |_=>exact absurd hx (by simp [Builtin.lenOf,stuck])
theorem uW {H:ag} (hr:HR ρ H w) {x:V} {x':Value} (hx:VR ρ x x') {n m:Nat} {ok:Nat→Bool} {cs:Nat→List V} (hs:kH H n x=some (m,ok,cs)):Builtin.lenOf x'=pure m∧∀k,k≤m→(k=0∨ok k=true)→∃xs,(Builtin.firstCells n k x').run E.P w=.ok xs w∧ea ρ (cs k) xs.toList∧aY (cs k)∧(cs k).length=k*n:=by
 cases x with
 |slice p len cap=>
  simp only[kH,Option.some.injEq,Prod.mk.injEq] at hs;obtain⟨rfl,rfl,rfl⟩:=hs;have hl:Builtin.lenOf x'=pure len:=by cases hx<;>rfl
  refine⟨hl,fun k hk hok=> ?_⟩;by_cases h0:k=0
  ·subst h0;exact⟨#[],wo hl,by simpa using ea.nil ρ,fun v hv=>by simp at hv,by simp⟩
  ·have hz:Nat.beq k 0=false:=by rw[aP];simp [h0]
   have hok:=hok.resolve_left h0;simp only[oN,hz,Bool.false_or,Bool.and_eq_true] at hok;obtain⟨hp,hi,ho⟩:=hok;simp only[hz,cond_false]
   cases p with
   |none=>cases hp
   |some q=>
    obtain⟨id,off⟩:=q;rcases hx.eO with⟨b,hb,rfl⟩|⟨h1,_,_⟩
    ·obtain⟨xs,h1,h2⟩:=wm (E:=E) hr hb hi;exact⟨xs,h1,h2,rO.1 ho,O4 hi⟩
    ·omega
 |dS s=>
  simp only[kH,Option.some.injEq,Prod.mk.injEq] at hs;obtain⟨rfl,rfl,rfl⟩:=hs;cases hx;refine⟨rfl,fun k hk hok=> ?_⟩
  have abi:((s.extract 0 k).data.map fun b=>Value.int .u8 b.toNat).toList=((s.data.map fun b=>Value.int .u8 b.toNat).toList).take k:=by
   simp [ByteArray.data_extract,List.map_take]
  refine⟨_,rfl, ?_,fun v hv=>s7 s v (List.mem_of_mem_take hv), ?_⟩
  ·rw[abi];exact(s8 ρ s).take k
  ·rcases hok with rfl|hok
   ·simp
   ·have:n=1:=Nat.eq_of_beq_eq_true hok;subst this;simp [Cq];omega
 |_=>simp [kH] at hs
theorem qg {t el n cB:Nat} {z:List V} (h:fA E t=some (el,n,cB,z)):∃cU z',E.P.underlying t=some (.slice el)∧E.P.info? el=some cU∧
 cU.zero=some z'∧cU.size=n∧cU.bytes=cB∧z.length=n∧0<n∧z'.cells.size=n∧aY z∧∀ρ,ea ρ z z'.cells.toList:=by
 unfold fA at h;split at h
 ·rename_i ti my;obtain⟨ds,qG,hds⟩:=dh my;split at h
  ·rename_i e hsh;rw[hsh] at hds;cases hO hds;split at h
   ·rename_i ei Yf;obtain⟨cU,dt,hi,hu,hd,hsz,hby,Ju⟩:=jw Yf;split at h
    ·rename_i zv hz
     cases hb:(Nat.beq zv.cells.length ei.size&&rz ei.size) with
     |false=>simp [hb] at h
     |true=>
      simp only[hb,cond_true,Option.some.injEq,Prod.mk.injEq] at h;obtain⟨rfl,rfl,rfl,rfl⟩:=h;rw[Bool.and_eq_true] at hb;have hn:zv.cells.length=ei.size:=Nat.eq_of_beq_eq_true hb.1
      have hp:0<ei.size:=by
       have:=hb.2
       cases h:ei.size with
       |zero=>rw[h] at this;cases this
       |succ n=>omega
      rw[hz] at Ju;obtain⟨z',DB,xf⟩:=Option.bind_eq_some_iff.1 Ju;have Le:∀ρ,ea ρ zv.cells z'.cells.toList:=fun ρ=>(ic xf).cells (fun e=>by have:=j8 xf;rw[e] at this;have:=this .bZ (by simp [V.cells]);cases this)
      refine⟨cU,z',qG,hi,DB,hsz,hby,hn,hp, ?_,j8 xf,Le⟩;have:=(Le (fun _=>none)).1;simp at this;omega
    ·cases h
   ·cases h
  ·cases h
 ·cases h
theorem lL {z:List V} {z':Array Value} {n:Nat} (hz:ea ρ z z'.toList) (hn:z.length=n) (hp:0<n) (k:Nat):ea ρ (gM k z) (Builtin.zeroCells z' k).toList:=by
 have hs:z'.size=n:=by have:=hz.1;simp at this;omega
 unfold Builtin.zeroCells;rw[hs];simpa [hs] using Ej hz hn hp (k:=k)
theorem oY (a:Addr):(storeCells a []).run E.P w=.ok () w:=by simp [storeCells]
theorem O5 {u:TypeId} (h:jc (aZ E u)=true):∃d,E.P.underlying u=some d∧(d=.string∨∃e,d=.slice e):=by
 cases hk:aZ E u with
 |none=>rw[hk] at h;cases h
 |some k=>
  obtain⟨d,hu,hd⟩:=bG hk;refine⟨d,hu, ?_⟩;rw[hk] at h;cases d<;>simp [bf,cC] at hd<;>first|(exact .inl rfl)|(exact .inr ⟨_,rfl⟩)|(subst hd;cases h)
theorem zU {t u el ty:TypeId} {du:TypeDesc} {cU:TypeInfo} (kh:E.P.underlying t=some (.slice el)) (DP:E.P.underlying u=some du) (OM:du=.string∨∃e,du=.slice e) (hi:E.P.info? el=some cU) {aT:Option Addr} {l cp m:Nat} {x':Value} (hlen:Builtin.lenOf x'=pure m) (hroom:l+m≤cp) {xs:Array Value} (hf:(Builtin.firstCells cU.size m x').run E.P w=.ok xs w) {w':World} (hst:(match aT with|some a=>storeCells (a.add (l*cU.size)) xs.toList|none=>pure ()).run E.P w=.ok () w'):(Builtin.append_ #[t,u] ty #[.slice aT l cp,x']).run E.P w=.ok (.slice aT (l+m) cp) w':=by
 cases aT with
 |none=>
  simp at hst;subst hst;rcases OM with rfl|⟨e,rfl⟩<;>simp [Builtin.append_,run_underlying kh,run_underlying DP,sizeOf,typeInfo,hi,hlen,hroom,hf]
 |some ad=>
  rcases OM with rfl|⟨e,rfl⟩<;>simp [Builtin.append_,run_underlying kh,run_underlying DP,sizeOf,typeInfo,hi,hlen,hroom,hf,hst]
theorem xO {t u el ty:TypeId} {du:TypeDesc} {cU:TypeInfo} {z':Value} (kh:E.P.underlying t=some (.slice el)) (DP:E.P.underlying u=some du) (OM:du=.string∨∃e,du=.slice e) (hi:E.P.info? el=some cU) (hz:cU.zero=some z') {aT:Option Addr} {l cp m:Nat} {x':Value} (hlen:Builtin.lenOf x'=pure m) (hroom:¬l+m≤cp) (gV:(l+m)*(cU.bytes+1)≤70368744177664) {os xs:Array Value} (hfo:(Builtin.firstCells cU.size l (.slice aT l cp)).run E.P w.drew=.ok os w.drew) (hf:(Builtin.firstCells cU.size m x').run E.P w.drew=.ok xs w.drew):(Builtin.append_ #[t,u] ty #[.slice aT l cp,x']).run E.P w=.ok (.slice (some ⟨w.heap.size,0,none⟩) (l+m) (grownCap w (l+m) cp el)) (w.drew.alloc (.cells (os++xs++Builtin.zeroCells z'.cells (grownCap w (l+m) cp el-(l+m))) el)):=by
 have h1:(l+m)*cU.bytes≤70368744177664:=Nat.le_trans (Nat.mul_le_mul_left _ (by omega)) gV;have h2:l+m≤70368744177664:=Nat.le_trans (Nat.le_mul_of_pos_right _ (by omega)) gV;have h63':¬(9223372036854775807<((l:Int)+(m:Int))):=by omega
 have hg:=growslice_fits (need:=l+m) (old:=cp) (bytes:=cU.bytes) (by omega) (by omega);have Lf:¬(281474976710656<Builtin.nextslicecap (l+m) cp*cU.bytes):=by omega
 rcases OM with rfl|⟨e,rfl⟩<;>simp [Builtin.append_,run_underlying kh,run_underlying DP,sizeOf,typeInfo,zeroValue,hi,hz,hlen,hroom,h63',Lf,Question.forced,hf,hfo,newRow,grownCap]
theorem xP {t u el ty:TypeId} {cU:TypeInfo} {z':Value} (kh:E.P.underlying t=some (.slice el)) (DP:E.P.underlying u=some (.int .i64)) (hi:E.P.info? el=some cU) (hz:cU.zero=some z') (hpos:0<cU.size) {aT:Option Addr} {l cp:Nat} {m:Int} (h0:0≤m) (hb:m*(cU.bytes+1)≤70368744177664) (hroom:l+m.toNat≤cp) {w':World} (hst:(match aT with|some a=>storeCells (a.add (l*cU.size)) (Builtin.zeroCells z'.cells m.toNat).toList|none=>pure ()).run E.P w=.ok () w'):(Builtin.append_ #[t,u] ty #[.slice aT l cp,.int .i64 m]).run E.P w=.ok (.slice aT (l+m.toNat) cp) w':=by
 have Ry:m*1≤m*(cU.bytes+1):=Int.mul_le_mul_of_nonneg_left (by omega) h0;have hm2:m*cU.bytes≤m*(cU.bytes+1):=Int.mul_le_mul_of_nonneg_left (by omega) h0;have hw1:IntKind.i64.wrap m=m:=IntWalk.i64_in _ ⟨by omega,by omega⟩;have e1:¬(281474976710656<m*(cU.bytes:Int)):=by omega
 have e3:¬m<0:=by omega
 by_cases hn:m.toNat*cU.size=0
 ·have hm0:m.toNat=0:=by
   rcases Nat.mul_eq_zero.1 hn with h|h
   ·exact h
   ·omega
  have Ld:Builtin.zeroCells z'.cells 0= #[]:=by simp [Builtin.zeroCells]
  rw[hm0,Ld] at hst
  cases aT with
  |none=>
   simp at hst;subst hst;simp [Builtin.append_,run_underlying kh,run_underlying DP,sizeOf,typeInfo,zeroValue,hi,hz,hw1,e1,e3,hm0,hroom,asInt,asIntOf];omega
  |some ad=>
   simp at hst;simp [Builtin.append_,run_underlying kh,run_underlying DP,sizeOf,typeInfo,zeroValue,hi,hz,hw1,e1,e3,hm0,hroom,asInt,asIntOf,hst];omega
 ·cases aT with
  |none=>
   simp at hst;subst hst;simp [Builtin.append_,run_underlying kh,run_underlying DP,sizeOf,typeInfo,zeroValue,hi,hz,hw1,e1,e3,hn,hroom,asInt,asIntOf]
  |some ad=>
   simp [Builtin.append_,run_underlying kh,run_underlying DP,sizeOf,typeInfo,zeroValue,hi,hz,hw1,e1,e3,hn,hroom,asInt,asIntOf,hst]
theorem wu {t u el ty:TypeId} {cU:TypeInfo} {z':Value} (kh:E.P.underlying t=some (.slice el)) (DP:E.P.underlying u=some (.int .i64)) (hi:E.P.info? el=some cU) (hz:cU.zero=some z') (hpos:0<cU.size) {aT:Option Addr} {l cp:Nat} {m:Int} (h0:0≤m) (hb:m*(cU.bytes+1)≤70368744177664) (hroom:¬l+m.toNat≤cp) (gV:(l+m.toNat)*(cU.bytes+1)≤70368744177664) {os:Array Value} (hfo:(Builtin.firstCells cU.size l (.slice aT l cp)).run E.P w.drew=.ok os w.drew):(Builtin.append_ #[t,u] ty #[.slice aT l cp,.int .i64 m]).run E.P w=.ok (.slice (some ⟨w.heap.size,0,none⟩) (l+m.toNat) (grownCap w (l+m.toNat) cp el)) (w.drew.alloc (.cells (os++Builtin.zeroCells z'.cells m.toNat++Builtin.zeroCells z'.cells (grownCap w (l+m.toNat) cp el-(l+m.toNat))) el)):=by
 have Ry:m*1≤m*(cU.bytes+1):=Int.mul_le_mul_of_nonneg_left (by omega) h0;have hm2:m*cU.bytes≤m*(cU.bytes+1):=Int.mul_le_mul_of_nonneg_left (by omega) h0;have hw1:IntKind.i64.wrap m=m:=IntWalk.i64_in _ ⟨by omega,by omega⟩;have e1:¬(281474976710656<m*(cU.bytes:Int)):=by omega
 have e3:¬m<0:=by omega
 have h1:(l+m.toNat)*cU.bytes≤70368744177664:=Nat.le_trans (Nat.mul_le_mul_left _ (by omega)) gV;have h2:l+m.toNat≤70368744177664:=Nat.le_trans (Nat.le_mul_of_pos_right _ (by omega)) gV;have h63':¬(9223372036854775807<((l:Int)+(m.toNat:Int))):=by omega
 have h63:¬(9223372036854775807<((l:Int)+max m 0)):=by omega
 have hg:=growslice_fits (need:=l+m.toNat) (old:=cp) (bytes:=cU.bytes) (by omega) (by omega);have Lf:¬(281474976710656<Builtin.nextslicecap (l+m.toNat) cp*cU.bytes):=by omega
 by_cases hn:m.toNat*cU.size=0
 ·have hm0:m.toNat=0:=by
   rcases Nat.mul_eq_zero.1 hn with h|h
   ·exact h
   ·omega
  have Ld:Builtin.zeroCells z'.cells 0= #[]:=by simp [Builtin.zeroCells]
  rw[hm0] at hroom h63' Lf⊢;have abj:m=0:=by omega
  subst abj;have Ua:¬l≤cp:=by simpa using hroom
  have abk:¬(9223372036854775807:Int)<(l:Int):=by simpa using h63'
  have abl:¬(281474976710656<Builtin.nextslicecap l cp*cU.bytes):=by simpa using Lf
  simp [Builtin.append_,Ua,abk,abl,run_underlying kh,run_underlying DP,sizeOf,typeInfo,zeroValue,hi,hz,hw1,hroom,h63',Lf,Question.forced,hfo,newRow,grownCap,asInt,asIntOf,Ld]
 ·simp [Builtin.append_,run_underlying kh,run_underlying DP,sizeOf,typeInfo,zeroValue,hi,hz,hw1,e1,e3,hn,hroom,h63',h63,Lf,Question.forced,hfo,newRow,grownCap,asInt,asIntOf]
theorem RQ {x:Value} {k:IntKind} {n:Int} (h:VR ρ (.int k n) x):x=.int k n:=h.hJ
structure Vi (E:jR) (t u ty el:TypeId) (cU:TypeInfo) (z':Value) (x':Value) (m:Nat) (A:World→Array Value→Prop):Prop where
 inn:∀{w w':World} {aT:Option Addr} {l cp:Nat} {xs:Array Value},l+m≤cp→A w xs→(match aT with|some a=>storeCells (a.add (l*cU.size)) xs.toList|none=>pure ()).run E.P w=.ok () w'→
  (Builtin.append_ #[t,u] ty #[.slice aT l cp,x']).run E.P w=.ok (.slice aT (l+m) cp) w'
 out:∀{w:World} {aT:Option Addr} {l cp:Nat} {os xs:Array Value},¬l+m≤cp→(l+m)*(cU.bytes+1)≤70368744177664→(Builtin.firstCells cU.size l (.slice aT l cp)).run E.P w.drew=.ok os w.drew→A w.drew xs→
  (Builtin.append_ #[t,u] ty #[.slice aT l cp,x']).run E.P w=.ok (.slice (some ⟨w.heap.size,0,none⟩) (l+m) (grownCap w (l+m) cp el))
   (w.drew.alloc (.cells (os++xs++Builtin.zeroCells z'.cells (grownCap w (l+m) cp el-(l+m))) el))
theorem Cs {H:ag} {t u ty el n cB:Nat} {z:List V} {cU:TypeInfo} {z':Value} (kh:E.P.underlying t=some (.slice el)) (hi:E.P.info? el=some cU) (hz:cU.zero=some z') (hsz:cU.size=n) (hby:cU.bytes=cB)
 (hzl:z.length=n) (hpos:0<n) (hzs:z'.cells.size=n) (Qo:aY z) (Oi:∀ρ,ea ρ z z'.cells.toList) {x:V} {x':Value} (hx:VR ρ x x') {r:Bool} {m:Nat} {ok:Nat→Bool} {cs:Nat→List V}
 (hs:l8 H n cB z (aZ E u) x=some (r,m,ok,cs)) (hr:r=true):∃A:World→Array Value→Prop,Vi E t u ty el cU z' x' m A∧
  ∀w,HR ρ H w→(m=0∨ok m=true)→∃xs,A w xs∧ea ρ (cs m) xs.toList∧aY (cs m)∧(cs m).length=m*n:=by
 subst hr;subst hsz;subst hby
 have key:jc (aZ E u)=true→kH H cU.size x=some (m,ok,cs)→∃A:World→Array Value→Prop,Vi E t u ty el cU z' x' m A∧
  ∀w,HR ρ H w→(m=0∨ok m=true)→∃xs,A w xs∧ea ρ (cs m) xs.toList∧aY (cs m)∧(cs m).length=m*cU.size:=by
  intro hu hsrc;obtain⟨du,DP,OM⟩:=O5 hu
  have hlen:Builtin.lenOf x'=pure m:=by
   cases x with
   |slice p len cap=>
    simp only[kH,Option.some.injEq,Prod.mk.injEq] at hsrc;obtain⟨rfl,_,_⟩:=hsrc;cases hx<;>rfl
   |dS s=>
    simp only[kH,Option.some.injEq,Prod.mk.injEq] at hsrc;obtain⟨rfl,_,_⟩:=hsrc;cases hx;rfl
   |_=>simp [kH] at hsrc
  refine⟨fun w xs=>(Builtin.firstCells cU.size m x').run E.P w=.ok xs w,⟨fun hroom hf hst=>zU kh DP OM hi hlen hroom hf hst,fun hroom gV hfo hf=>xO kh DP OM hi hz hlen hroom gV hfo hf⟩,fun w hw hok=> ?_⟩;obtain⟨_,sA⟩:=uW (E:=E) hw hx hsrc;exact sA m (Nat.le_refl _) hok
 unfold l8 at hs;split at hs
 ·rename_i hk;obtain⟨d,DP,hd⟩:=bG hk;split at hs
  ·rename_i mi;simp only[Option.some.injEq,Prod.mk.injEq,Bool.and_eq_true,decide_eq_true_eq] at hs;obtain⟨⟨h0,hb⟩,rfl,rfl,rfl⟩:=hs;have hx':=RQ hx;subst hx';cases d<;>simp [bf,cC] at hd
   subst hd;refine⟨fun w xs=>xs=Builtin.zeroCells z'.cells mi.toNat,⟨fun hroom hf hst=> ?_,fun hroom gV hfo hf=> ?_⟩,fun w hw hok=>⟨_,rfl, ?_, ?_, ?_⟩⟩
   ·subst hf;exact xP kh DP hi hz hpos h0 hb hroom hst
   ·subst hf;exact wu kh DP hi hz hpos h0 hb hroom gV hfo
   ·exact lL (Oi ρ) hzl hpos _
   ·exact gk Qo _
   ·show (gM _ z).length=_
    rw[fL,hzl]
  ·cases hs
 ·split at hs
  ·rename_i hu;split at hs
   ·rename_i m' ok' cs' hsrc;simp only[Option.some.injEq,Prod.mk.injEq,true_and] at hs;obtain⟨rfl,rfl,rfl⟩:=hs;exact key hu hsrc
   ·cases hs
  ·cases hs
theorem Ct (h:SR H0 ρ0 w0 ann N ρ lam S a w) {ts:List TypeId} {args:List V} {args':Array Value} {ty:TypeId} {K:Oq→Nat→Nat→ag→Prop} (ha:ea ρ args args'.toList) (ho:aQ E ts args S.hp K):∃q n c H' ρ' v w',K q n c H'∧(Builtin.append_ ts.toArray ty args').run E.P w=.ok v w'∧SR H0 ρ0 w0 ann N ρ' lam {S with hp:=H'} a w'∧TR ρ' lam (.v (.slice q n c)) v:=by
 unfold aQ at ho;split at ho
 ·rename_i t u p l cp x;split at ho
  ·rename_i el n cB z hel
   split at ho
   ·rename_i r0 m ok cs hsrc;obtain⟨hr0,ho⟩:=aL ho;obtain⟨s',r1,Ai,hs',nt⟩:=ha.cT;obtain⟨x',r2,Ah,hx',sB⟩:=nt.cT;have Oj:=sB.fW;subst Oj;subst Ah
    obtain rfl:args'= #[s',x']:=by
     apply Array.ext';rw[Ai]
    obtain⟨cU,z',kh,hi,hz,hsz,hby,hzl,hpos,hzs,Qo,Oi⟩:=qg hel;obtain⟨A,hA,sA⟩:=Cs (ty:=ty) kh hi hz hsz hby hzl hpos hzs Qo Oi hx' hsrc hr0;subst hsz;subst hby
    have hbase:∃aT,s'=.slice aT l cp∧(p=none→aT=none)∧(∀id off,p=some (id,off)→(∃b,ρ id=some b∧aT=some ⟨b,off,none⟩)∨(l=0∧cp=0∧∃ad,aT=some ad)):=by
     cases p with
     |none=>exact⟨none,hs'.kN,fun _=>rfl,fun _ _ h=>by cases h⟩
     |some q=>
      obtain⟨id,off⟩:=q;rcases hs'.eO with⟨b,hb,he⟩|⟨h0,h1,ad,he⟩
      ·exact⟨_,he,fun h=>by(cases h),fun id' off' h=>by cases h;exact .inl ⟨b,hb,rfl⟩⟩
      ·exact⟨_,by rw[he,h0,h1],fun h=>by(cases h),fun id' off' h=>.inr ⟨h0,h1,ad,rfl⟩⟩
    obtain⟨aT,rfl,hb0,zu⟩:=hbase;rcases gg ho with⟨hroom,ho⟩|⟨hroom,ho⟩
    ·have hroom:l+m≤cp:=Nat.le_of_ble_eq_true hroom;obtain⟨hr,ho⟩:=aL ho;by_cases hm:m=0
     ·obtain⟨xs,h1,h2,h3,h4⟩:=sA w h.hr (.inl hm)
      have hxs:xs= #[]:=by
       have:=h2.1;rw[h4,hm] at this;apply Array.eq_empty_of_size_eq_zero;simpa using this.symm
      subst hxs;have Yg:Nat.beq m 0=true:=by rw[aP];simp [hm]
      simp only[Yg,cond_true] at ho;refine⟨_,_,_,_,ρ,.slice aT (l+m) cp,w,ho,hA.inn hroom h1 ?_,h,.v ?_⟩
      ·cases aT<;>simp [oY]
      ·rw[hm];simpa using hs'
     ·have Yg:Nat.beq m 0=false:=by rw[aP];simp [hm]
      simp only[Yg,Bool.false_or,Bool.and_eq_true,cond_false] at hr ho;obtain⟨hp,hok,DD⟩:=hr
      cases p with
      |none=>cases hp
      |some q=>
       obtain⟨id,off⟩:=q;simp only[Option.getD_some] at DD ho;rcases zu id off rfl with⟨b,hb,rfl⟩|⟨h0,h1,_⟩
       ·obtain⟨xs,h1,h2,h3,h4⟩:=sA w h.hr (.inr hok);unfold ag.wr at DD;split at DD
        ·rename_i e ccs ro hg;rw[Bool.and_eq_true] at DD;have hro:ro=false:=by simpa using DD.1
         subst hro;obtain⟨b',hb',hc⟩:=h.hr.vM id _ hg;rw[hb] at hb';cases hb';obtain⟨w',g1,g2,g3⟩:=lK (E:=E) (off:=off+l*cU.size) hc h2 h3 (by rw[h4];exact Nat.le_of_ble_eq_true DD.2);have hst:S.hp.store id (off+l*cU.size) (cs m)=S.hp.put id (.cells e (bL ccs (off+l*cU.size) (cs m)) false):=by simp [ag.store,hg]
         rw[hst] at ho;exact⟨_,_,_,_,ρ,_,w',ho,hA.inn hroom h1 (by simpa [fK] using g1),h.Co hg rfl rfl hb g3 g2,.v (.slice _ _ hb)⟩
        ·cases DD
       ·omega
    ·have Ub:¬l+m≤cp:=by
      intro hc;rw[Nat.ble_eq_true_of_le hc] at hroom;cases hroom
     obtain⟨hr,ho⟩:=aL ho;simp only[Bool.and_eq_true] at hr;obtain⟨hrow,hok,gV⟩:=hr;have gV:=Nat.le_of_ble_eq_true gV;have hd:HR ρ S.hp w.drew:=⟨h.hr.vM,h.hr.inj,h.hr.lt,h.hr.gl⟩
     obtain⟨_,hold⟩:=uW (E:=E) hd hs' (n:=cU.size) (m:=l) (ok:=fun m=>oN S.hp cU.size p m)
      (cs:=fun m=>bif Nat.beq m 0 then [] else S.hp.sub (p.getD (0,0)).1 (p.getD (0,0)).2 (m*cU.size)) rfl
     obtain⟨xs,h1,h2,h3,h4⟩:=sA w.drew hd (.inr hok);obtain⟨os,k1,k2,k3,k4⟩:=hold l (Nat.le_refl _) (.inr hrow);have abN:l+m≤70368744177664:=Nat.le_trans (Nat.le_mul_of_pos_right _ (by omega)) gV;have Ok:=grownCap_ge w (l+m) cp el;have Ol:=grownCap_le_maxLen w (l+m) cp el (by simp only[maxLen];omega);have hk:=ho (grownCap w (l+m) cp el) Ok (by simp only[maxLen] at Ol;omega);have Le:=(k2.append h2).append (lL (Oi ρ) hzl hpos (grownCap w (l+m) cp el-(l+m)));refine⟨_,_,_,_,_,_,_,hk,hA.out Ub gV k1 h1,h.Cn ⟨rfl,rfl,rfl,rfl⟩ (ig ?_ ?_),.v (.slice _ _ (by rw[dO,if_pos rfl]))⟩
     ·simpa [xk,ew,List.append_assoc] using Le
     ·exact k3.append (h3.append (gk Qo _))
   ·exact ho.elim
  ·exact ho.elim
 ·exact ho.elim
theorem zV {t el cB:Nat} {n:Nat} {z:List V} {cU:TypeInfo} {z':Value} (kh:E.P.underlying t=some (.slice el)) (hi:E.P.info? el=some cU) (hz:cU.zero=some z')
 (hzs:z'.cells.size=cU.size) (hpos:0<cU.size) {k k':IntKind} {l c:Int} (h0:0≤l) (h1:l≤c) (h2:c*(cU.bytes+1)≤70368744177664):
 (Instr.makeSlice t (.int k l) (.int k' c)).run E.P w=.ok (.slice (some ⟨w.heap.size,0,none⟩) l.toNat c.toNat)
  (w.alloc (.cells (Builtin.zeroCells z'.cells c.toNat) el)):=by
 have hc:0≤c:=by omega
 have Ry:c*1≤c*(cU.bytes+1):=Int.mul_le_mul_of_nonneg_left (by omega) hc;have hm2:c*cU.bytes≤c*(cU.bytes+1):=Int.mul_le_mul_of_nonneg_left (by omega) hc;have hw1:IntKind.i64.wrap l=l:=IntWalk.i64_in _ ⟨by omega,by omega⟩;have Zo:IntKind.i64.wrap c=c:=IntWalk.i64_in _ ⟨by omega,by omega⟩;have e1:¬(281474976710656<(cU.bytes:Int)*c):=by rw[Int.mul_comm];omega
 have e2:¬c<0:=by omega
 have e3:¬l<0:=by omega
 have e4:¬c<l:=by omega
 have hroom:¬roomBytes<c.toNat*cU.bytes:=by
  have:((c.toNat*cU.bytes:Nat):Int)=c*cU.bytes:=by rw[Int.natCast_mul,Int.toNat_of_nonneg hc]
  unfold roomBytes;omega
 have Yg:z'.cells.size≠0:=by omega
 by_cases hn:c.toNat*cU.size=0
 ·have Zp:c.toNat=0:=by
   rcases Nat.mul_eq_zero.1 hn with h|h
   ·exact h
   ·omega
  simp [Instr.makeSlice,run_underlying kh,typeInfo,sizeOf,hi,hw1,Zo,e1,e2,e3,e4,askRoom,hroom,hn,Zp,newRow,Builtin.zeroCells,asInt,asIntOf,hzs];have hr:Array.range 0= #[]:=by simp
  rw[hr,Array.map_empty,Array.map_empty]
 ·simp [Instr.makeSlice,run_underlying kh,typeInfo,sizeOf,zeroValue,hi,hz,hw1,Zo,e1,e2,e3,e4,askRoom,hroom,hn,newRow,Builtin.zeroCells,asInt,asIntOf,hzs]
theorem xQ {e:TypeId} {cs:List V} {off b:Nat} (hc:fC ρ e cs true w.heap[b]?):∃w',(markStringish ⟨b,off,none⟩).run E.P w=.ok () w'∧fC ρ e cs true w'.heap[b]? ∧oD b w w':=by
 obtain⟨cs',fz,hb,hvs,hone,hfz⟩:=hc;have hsh:w.shape? b=some (e,cs'.size):=by simp [World.shape?,hb]
 refine⟨w.freeze ⟨b,cs'.size,none⟩ 1,by simp [markStringish,shape,freeze,Sem.run,hsh], ?_, ?_⟩
 ·refine⟨cs',if fz.1 == fz.2 then (cs'.size,cs'.size+1) else (min fz.1 cs'.size,max fz.2 (cs'.size+1)), ?_,hvs,hone,fun _=>.inr ?_⟩
  ·simp [World.freeze,Array.getElem?_modify,hb]
  ·have:=hfz rfl;split
   ·simp
   ·rename_i hne;have hne:fz.1≠fz.2:=by simpa using hne
    simp only[Nat.le_min];omega
 ·refine⟨fun b' hb'=> ?_,by simp [World.freeze],rfl,rfl,rfl⟩;simp only[World.freeze,Array.getElem?_modify];rw[if_neg (by decide)];simp only[Array.getElem?_modify];rw[if_neg (fun e=>hb' e.symm)]
theorem s9 {H:ag} {id:Nat} {o:Obj} (h:H.get id=some o):H.put id o=H:=by
 unfold ag.put;congr 1;funext j;rw[aP];by_cases hj:j=id
 ·subst hj;simp [h]
 ·simp [hj]
theorem Cu {H:ag} (hr:HR ρ H w) {id off n:Nat} (h:H.wr id off n=true):∃e cs b,H.get id=some (.cells e cs false)∧off+n≤cs.length∧ρ id=some b∧fC ρ e cs true w.heap[b]? :=by
 unfold ag.wr at h;split at h
 ·rename_i e cs ro hg;rw[Bool.and_eq_true] at h;have hro:ro=false:=by simpa using h.1
  subst hro;obtain⟨b,h1,h2⟩:=hr.vM id _ hg;exact⟨e,cs,b,hg,Nat.le_of_ble_eq_true h.2,h1,h2⟩
 ·cases h
end
section
variable {E:jR} {H0:ag} {ρ0:da} {w0:World} {ann:bO} {N:Nat} {ρ lam:da} {S:St} {a:Act} {w:World}
theorem ta {d:TypeDesc} {k e:TypeId} (h:bf d=.map k e):d=.map k e:=by cases d<;>simp_all [bf]
theorem O6 {t:TypeId} {i:TI} {z:V} (h:E.ti t=some i) (hz:i.zero=some z) (ρ:da) (w:World):∃z',(zeroValue t).run E.P w=.ok z' w∧VR ρ z z':=by
 obtain⟨cU,dt,hi,hu,hd,_,_,Ju⟩:=jw h;rw[hz] at Ju;obtain⟨z',DB,xf⟩:=Option.bind_eq_some_iff.1 Ju;exact⟨z',by simp [zeroValue,typeInfo,hi,DB],ic xf⟩
theorem eR {em:Bool} {kt:TypeId} {k kd:IntKind} {n:Int} (h:E.P.underlying kt=some (.int kd)):(Instr.checkKey em 10000 kt (.int k n)).run E.P w=.ok () w:=by
 have:∀m,(Instr.checkKey em (m+1) kt (.int k n)).run E.P w=.ok () w:=by
  intro m;simp [Instr.checkKey,run_underlying h]
 exact this 9999
theorem tc {kd k:IntKind} {n:Int}:∀{es:List (V×V×Nat)} {es':List MapEntry} (i:Nat),iY ρ es es'→rr k es=true→(mC n es=none∧Instr.findNow (.int kd) (.int k n) es' i=some none)∨∃v j e,mC n es=some v∧Instr.findNow (.int kd) (.int k n) es' i=some (some (i+j,e.val))∧es'[j]? =some e∧VR ρ v e.val∧e.key=.int k n∧(∀v2 x2,VR ρ v2 x2→iY ρ (DR n v2 es) (es'.modify j fun e=>{e with key:=.int k n,val:=x2}))∧iY ρ (xi n es) (es'.eraseIdx j)
 |[],[],i,_,_=>.inl ⟨rfl,rfl⟩
 |[],_::_,_,h,_=>h.elim
 |_::_,[],_,h,_=>h.elim
 |x::l,y::m,i,h,hk=>by
  obtain⟨⟨h1,h2,h3⟩,h4⟩:=h;rw[rr,Bool.and_eq_true] at hk;obtain⟨hx,hk⟩:=hk;have hx':x.1=.int k x.1.aa:=(V.rk hx).symm;have hy:y.key=.int k x.1.aa:=VR.hJ (hx'▸h1);by_cases hn:x.1.aa=n
  ·right;rw[hn] at hx' hy;refine⟨x.2.1,0,y,by simp [mC,hn],by simp [Instr.findNow,Instr.sameNow,hy],rfl,h2,hy,fun v2 x2 hv=> ?_, ?_⟩
   ·simp only[DR,hn,decide_true,cond_true,List.modify_zero_cons];exact⟨⟨by rw[hx'];exact .int k n,hv,h3⟩,h4⟩
   ·simp only[xi,hn,decide_true,cond_true,List.eraseIdx_cons_zero];exact h4
  ·have hn':¬n=x.1.aa:=fun e=>hn e.symm
   have hb:(n == x.1.aa)=false:=by simpa using hn'
   rcases tc (kd:=kd) (n:=n) (i+1) h4 hk with⟨g1,g2⟩|⟨v,j,e,g1,g2,g3,g4,g5,g6,g7⟩
   ·exact .inl ⟨by simp [mC,hn,g1],by simp [Instr.findNow,Instr.sameNow,hy,hb,g2]⟩
   ·refine .inr ⟨v,j+1,e,by simp [mC,hn,g1], ?_,by simpa using g3,g4,g5,fun v2 x2 hv=> ?_, ?_⟩
    ·simp only[Instr.findNow,Instr.sameNow,hy,hb,if_true,g2];rw[Nat.add_assoc,Nat.add_comm 1 j]
    ·simp only[DR,hn,decide_false,cond_false,List.modify_succ_cons];exact⟨⟨h1,h2,h3⟩,g6 v2 x2 hv⟩
    ·simp only[xi,hn,decide_false,cond_false,List.eraseIdx_cons_succ];exact⟨⟨h1,h2,h3⟩,g7⟩
theorem rP {H:ag} {id:Nat} (h:H.isMap id=true):H.get id=some (.map (H.ents id) (H.clock id)):=by
 unfold ag.isMap at h;split at h
 ·rename_i es c hg;simp [ag.ents,ag.clock,hg]
 ·cases h
theorem gE {w:World} {b:Nat} {es:Array MapEntry} {c:Nat} (h:w.heap[b]? =some (.map es c)):(getObj b).run E.P w=.ok (.map es c) w:=by
 simp [getObj,Sem.run,h]
theorem AB {w:World} {b:Nat} {m:Option Nat} {s l:Nat} {seen:Array Nat} (h:w.heap[b]? =some (.mapIter m s seen l)):(getObj b).run E.P w=.ok (.mapIter m s seen l) w:=by
 simp [getObj,Sem.run,h]
theorem qh {w:World} {b:Nat} {es:Array MapEntry} {c:Nat} {o':Go.Obj} (h:w.heap[b]? =some (.map es c)):(setObj b o').run E.P w=.ok () {w with heap:=w.heap.setIfInBounds b o'}:=by
 simp [setObj,Sem.run,h]
theorem oZ (w:World) (b:Nat) (o:Go.Obj):oD b w {w with heap:=w.heap.setIfInBounds b o}:=
 ⟨fun b' hb=>by simp [Array.getElem?_setIfInBounds,Ne.symm hb],by simp,rfl,rfl,rfl⟩
theorem xR {w:World} {b:Nat} {x o:Go.Obj} (h:w.heap[b]? =some x):({w with heap:=w.heap.setIfInBounds b o}:World).heap[b]? =some o:=by
 have:b<w.heap.size:=by
  rcases Nat.lt_or_ge b w.heap.size with g|g
  ·exact g
  ·rw[Array.getElem?_eq_none g] at h;cases h
 simp [Array.getElem?_setIfInBounds,this]
theorem xS {H:ag} (hr:HR ρ H w) {k:IntKind} {id:Nat} {x:Value} (hx:VR ρ (.map (some id)) x) (hok:dR H k (some id)=true):∃b es',ρ id=some b∧x=.map (some b)∧H.get id=some (.map (H.ents id) (H.clock id))∧w.heap[b]? =some (.map es' (H.clock id))∧iY ρ (H.ents id) es'.toList∧rr k (H.ents id)=true:=by
 simp only[dR,Option.isNone_some,Bool.false_or,Option.getD_some,Bool.and_eq_true] at hok;have hg:=rP hok.1;obtain⟨b,hb,es',he,FV⟩:=hr.vM id _ hg
 cases hx with
 |map hb'=>
  rw[hb] at hb';cases hb';exact⟨b,es',hb,rfl,hg,he,FV,hok.2⟩
theorem Cv {t kt et:TypeId} {k:IntKind} (kh:E.P.underlying t=some (.map kt et)) (FW:E.P.underlying kt=some (.int k)) {z:V} {z':Value} (hz:(zeroValue et).run E.P w=.ok z' w) (hzv:VR ρ z z') {H:ag} (hr:HR ρ H w) {r:Option Nat} {x:Value} (hx:VR ρ (.map r) x) {n:Int} (hok:dR H k r=true) (c:Bool):∃v',VR ρ (bT H r n z) v'∧(Instr.lookup t x (.int k n) c).run E.P w=.ok (if c then .tuple #[v',.bool (kC H r n)] else v') w:=by
 cases r with
 |none=>
  cases hx;refine⟨z',hzv, ?_⟩;cases c<;>simp [Instr.lookup,run_underlying kh,eR (E:=E) FW,Instr.findKey,run_underlying FW,Instr.findNow,hz,kC]
 |some id=>
  obtain⟨b,es',hb,rfl,hg,he,FV,Om⟩:=xS hr hx hok;rcases tc (kd:=k) (n:=n) 0 FV Om with⟨g1,g2⟩|⟨v,j,e,g1,g2,g3,g4,g5,g6,g7⟩
  ·refine⟨z',by simpa [bT,g1] using hzv, ?_⟩;cases c<;>simp [Instr.lookup,run_underlying kh,gE (E:=E) he,eR (E:=E) FW,Instr.findKey,run_underlying FW,g2,hz,kC,g1]
  ·refine⟨e.val,by simpa [bT,g1] using g4, ?_⟩;cases c<;>simp [Instr.lookup,run_underlying kh,gE (E:=E) he,eR (E:=E) FW,Instr.findKey,run_underlying FW,g2,hz,kC,g1]
theorem iY.Vj {x:V×V×Nat} {y:MapEntry} (h:VR ρ x.1 y.key∧VR ρ x.2.1 y.val∧x.2.2=y.born):∀{l:List (V×V×Nat)} {m:List MapEntry},iY ρ l m→iY ρ (l++[x]) (m++[y])
 |[],[],_=>⟨h,trivial⟩
 |_::_,_::_,hl=>⟨hl.1,iY.Vj h hl.2⟩
 |[],_::_,hl=>hl.elim
 |_::_,[],hl=>hl.elim
theorem wv {t kt et:TypeId} {k:IntKind} (kh:E.P.underlying t=some (.map kt et)) (FW:E.P.underlying kt=some (.int k)) {H:ag} (hr:HR ρ H w) {id:Nat} {x:Value} (hx:VR ρ (.map (some id)) x) {n:Int} (hok:dR H k (some id)=true) {v:V} {y:Value} (hv:VR ρ v y):∃b w' o,ρ id=some b∧(Instr.mapUpdate t x (.int k n) y).run E.P w=.ok () w'∧oD b w w'∧H.get id=some (.map (H.ents id) (H.clock id))∧gZ H k id n v=H.put id o∧o.rw =true∧D9 ρ o w'.heap[b]? :=by
 obtain⟨b,es',hb,rfl,hg,he,FV,Om⟩:=xS hr hx hok;rcases tc (kd:=k) (n:=n) 0 FV Om with⟨g1,g2⟩|⟨v0,j,e,g1,g2,g3,g4,g5,g6,g7⟩
 ·refine⟨b,_,.map (H.ents id++[(.int k n,v,H.clock id)]) (H.clock id+1),hb, ?_,oZ w b (.map (es'.push {key:=.int k n,val:=y,born:=H.clock id}) (H.clock id+1)),hg, ?_,rfl, ?_⟩
  ·simp [Instr.mapUpdate,run_underlying kh,gE (E:=E) he,eR (E:=E) FW,Instr.findKey,run_underlying FW,g2,qh (E:=E) he]
  ·simp [gZ,g1]
  ·exact⟨_,xR he,by rw[Array.toList_push];exact FV.Vj ⟨.int k n,hv,rfl⟩⟩
 ·have hj:es'[j]? =some e:=by simpa using g3
  refine⟨b,_,.map (DR n v (H.ents id)) (H.clock id),hb, ?_,oZ w b (.map (es'.modify j fun e=>{e with key:=.int k n,val:=y}) (H.clock id)),hg, ?_,rfl, ?_⟩
  ·simp [Instr.mapUpdate,run_underlying kh,gE (E:=E) he,eR (E:=E) FW,Instr.findKey,run_underlying FW,g2,qh (E:=E) he,hj,g5,Instr.keyThatStays,Instr.sameBits]
  ·simp [gZ,g1]
  ·exact⟨_,xR he,by rw[Array.toList_modify];exact g6 v y hv⟩
theorem Cw {t kt et u ty:TypeId} {k:IntKind} (kh:E.P.underlying t=some (.map kt et)) (FW:E.P.underlying kt=some (.int k)) {H:ag} (hr:HR ρ H w) {id:Nat} {x:Value} (hx:VR ρ (.map (some id)) x) {n:Int} (hok:dR H k (some id)=true) {ts:Array TypeId} (hts:ts[0]? =some t):∃b w' o,ρ id=some b∧(Builtin.delete_ ts ty #[x,.int k n]).run E.P w=.ok (.tuple #[]) w'∧oD b w w'∧H.get id=some (.map (H.ents id) (H.clock id))∧oL H (some id) n=H.put id o∧o.rw =true∧D9 ρ o w'.heap[b]? :=by
 obtain⟨b,es',hb,rfl,hg,he,FV,Om⟩:=xS hr hx hok
 have DE:∀l:List (V×V×Nat),mC n l=none→xi n l=l:=by
  intro l
  induction l with
  |nil=>intro _;rfl
  |cons x l ih=>
   intro h;simp only[mC] at h;by_cases hn:x.1.aa=n
   ·simp [hn] at h
   ·simp only[hn,decide_false,cond_false] at h;simp [xi,hn,ih h]
 rcases tc (kd:=k) (n:=n) 0 FV Om with⟨g1,g2⟩|⟨v0,j,e,g1,g2,g3,g4,g5,g6,g7⟩
 ·refine⟨b,_,.map (xi n (H.ents id)) (H.clock id),hb, ?_,oZ w b (.map es' (H.clock id)),hg, ?_,rfl, ?_⟩
  ·simp [Builtin.delete_,hts,run_underlying kh,gE (E:=E) he,eR (E:=E) FW,Instr.findKey,run_underlying FW,g2,qh (E:=E) he]
  ·simp [oL]
  ·exact⟨_,xR he,by rw[DE _ g1];exact FV⟩
 ·refine⟨b,_,.map (xi n (H.ents id)) (H.clock id),hb, ?_,oZ w b (.map (es'.eraseIdxIfInBounds j) (H.clock id)),hg, ?_,rfl, ?_⟩
  ·simp [Builtin.delete_,hts,run_underlying kh,gE (E:=E) he,eR (E:=E) FW,Instr.findKey,run_underlying FW,g2,qh (E:=E) he]
  ·simp [oL]
  ·refine⟨_,xR he, ?_⟩;have:(es'.eraseIdxIfInBounds j).toList=es'.toList.eraseIdx j:=by simp
   rw[this];exact g7
theorem Ek:∀{l:List (V×V×Nat)} {m:List MapEntry},iY ρ l m→l.length=m.length
 |[],[],_=>rfl
 |_::_,_::_,hl=>by simp [Ek hl.2]
 |[],_::_,hl=>hl.elim
 |_::_,[],hl=>hl.elim
theorem xT {n:Nat}:∀{l:List Nat},sI n l=true↔n∈l
 |[]=>by simp [sI]
 |x::l=>by
  rw[sI,Bool.or_eq_true,xT,List.mem_cons];exact⟨fun h=>h.imp Nat.eq_of_beq_eq_true id,fun h=>h.imp (fun e=>by subst e;exact Nat.beq_refl n) id⟩
theorem xU {bN:Nat}:∀{l:List (V×V×Nat)} {m:List MapEntry},iY ρ l m→nA bN l=true→∀x∈m,x.born<bN
 |[],[],_,_=>by simp
 |x::l,y::m,hl,ha=>by
  rw[nA,Bool.and_eq_true] at ha;intro z hz;rcases List.mem_cons.1 hz with rfl|hz
  ·rw[←hl.1.2.2];simpa using ha.1
  ·exact xU hl.2 ha.2 z hz
 |[],_::_,hl,_=>hl.elim
 |_::_,[],hl,_=>hl.elim
theorem El {seen:List Nat}:∀{l:List (V×V×Nat)} {m:List MapEntry},iY ρ l m→kz seen l=(m.filter fun e=> !seen.toArray.contains e.born).map (·.born)
 |[],[],_=>rfl
 |x::l,y::m,hl=>by
  have ih:=El (seen:=seen) hl.2;have hb:=hl.1.2.2
  have hc:seen.toArray.contains y.born=sI x.2.2 seen:=by
   rw[hb];cases h:sI y.born seen
   ·have:¬y.born∈seen:=fun e=>by rw[xT.2 e] at h;cases h
    simpa using this
   ·have:y.born∈seen:=xT.1 h;simpa using this
  simp only[kz,List.filter_cons,hc];cases sI x.2.2 seen
  ·simp [hb,ih]
  ·simp [ih]
 |[],_::_,hl=>hl.elim
 |_::_,[],hl=>hl.elim
theorem Em {b:Nat}:∀{l:List (V×V×Nat)} {m:List MapEntry} {k v:V},iY ρ l m→Ao b l=some (k,v)→∃e,m.find? (·.born == b)=some e∧VR ρ k e.key∧VR ρ v e.val
 |[],[],_,_,_,h=>by cases h
 |x::l,y::m,k,v,hl,h=>by
  have hb:=hl.1.2.2;simp only[Ao,aP] at h;by_cases hx:x.2.2=b
  ·simp only[hx,decide_true,cond_true,Option.some.injEq,Prod.mk.injEq] at h;obtain⟨rfl,rfl⟩:=h;exact⟨y,by simp [←hb,hx],hl.1.1,hl.1.2.1⟩
  ·simp only[hx,decide_false,cond_false] at h;obtain⟨e,h1,h2⟩:=Em hl.2 h;have hy:(y.born == b)=false:=by rw[←hb];simpa using hx
   exact⟨e,by rw[List.find?_cons,hy];exact h1,h2⟩
 |[],_::_,_,_,hl,_=>hl.elim
 |_::_,[],_,_,hl,_=>hl.elim
theorem Eo:∀{l:List Nat} {b:Nat},Ap l=some b→l.toArray.back?=some b
 |[],_,h=>by cases h
 |[x],b,h=>by simpa [Ap] using h
 |x::y::l,b,h=>by
  have:=Eo (l:=y::l) h;simpa using this
theorem zW (h:SR H0 ρ0 w0 ann N ρ lam S a w) {id b:Nat} {ty:TypeId} (hb:ρ id=some b) {K1:Prop} {K2:ag→Prop} (ho:mapNext S.hp id K1 K2):(K1∧(Instr.next (.pointer (some ⟨b,0,none⟩)) false ty).run E.P w=.ok (.tuple #[.bool false]) w)∨∃H' w' k v,K2 H'∧(Instr.next (.pointer (some ⟨b,0,none⟩)) false ty).run E.P w=.ok (.tuple #[.bool true,k,v]) w'∧SR H0 ρ0 w0 ann N ρ lam {S with hp:=H'} a w':=by
 unfold mapNext at ho;split at ho
 ·rename_i bN seen sH hg;obtain⟨b',hb',m',he,hm⟩:=h.hr.vM id _ hg;rw[hb] at hb';cases hb';cases hm;exact .inl ⟨ho,by simp [Instr.next,AB (E:=E) he]⟩
 ·rename_i m bN seen sH hg;split at ho
  ·rename_i es c hgm;obtain⟨b',hb',m',he,hm⟩:=h.hr.vM id _ hg;rw[hb] at hb';cases hb';obtain⟨bm,UW,es',hem,FV⟩:=h.hr.vM m _ hgm
   cases hm with
   |map On=>
    rw[UW] at On;cases On
    cases hc:(nA bN es&&Nat.ble bN sH) with
    |false=>simp only[hc,cond_false] at ho
    |true=>
     simp only[hc,cond_true] at ho;rw[Bool.and_eq_true] at hc;have hold:=xU FV hc.1;have hleft:=El (seen:=seen) FV;have hlo:(leftOf es' seen.toArray).toList=es'.toList.filter fun e=> !seen.toArray.contains e.born:=by simp [leftOf]
     rcases run_next_at (P:=E.P) w ty b bm bN sH seen.toArray es' c he hem hold (Nat.le_of_ble_eq_true hc.2) with⟨h1,h2⟩|⟨e,h1,w1,h2,h3⟩
     ·have h0:kz seen es=[]:=by
       rw[hleft, ←hlo]
       have:(leftOf es' seen.toArray).toList=[]:=by
        apply List.eq_nil_of_length_eq_zero;simpa using h1
       rw[this];rfl
      rw[h0] at ho;exact .inl ⟨ho,h2⟩
     ·rw[hlo] at h1
      have hmem:e.born∈kz seen es:=by
       rw[hleft];exact List.mem_map.2 ⟨e,h1,rfl⟩
      have hk:K2 (S.hp.put id (.dz (some m) bN (seen++[e.born]) c)):=by
       cases hl:kz seen es with
       |nil=>rw[hl] at hmem;cases hmem
       |cons x l=>
        rw[hl] at ho hmem;exact ho _ hmem
      refine .inr ⟨_,_,_,_,hk,h3, ?_⟩
      have key:∀w2:World,SR H0 ρ0 w0 ann N ρ lam S a w2→w2.heap=w.heap→SR H0 ρ0 w0 ann N ρ lam {S with hp:=S.hp.put id (.dz (some m) bN (seen++[e.born]) c)} a
       (Go.ChangeMaps.setBlock w2 b (.mapIter (some bm) bN (seen.toArray.push e.born) c)):=by
       intro w2 hs hw;have Qn:w2.heap[b]? =some (.mapIter (some bm) bN seen.toArray sH):=by rw[hw];exact he
       refine hs.Co hg rfl rfl hb (oZ w2 b _) ?_;exact⟨_,by unfold Go.ChangeMaps.setBlock;rw[xR Qn];simp,.map UW⟩
      rcases h2 with rfl|rfl
      ·exact key _ h rfl
      ·exact key _ (h.drew _) rfl
  ·exact ho.elim
 ·exact ho.elim
theorem Cx {H:ag} (hr:HR ρ H w) {id b:Nat} (hb:ρ id=some b) (h:ru H id=true):∃k v,(Instr.entry (.pointer (some ⟨b,0,none⟩))).run E.P w=.ok (.tuple #[k,v]) w∧VR ρ (j4 H id) k∧VR ρ (iw H id) v:=by
 unfold ru at h;obtain⟨p,hp⟩:=Option.isSome_iff_exists.1 h;have hk:j4 H id=p.1:=by simp [j4,hp]
 have hv:iw H id=p.2:=by simp [iw,hp]
 rw[hk,hv];unfold uI at hp;split at hp
 ·rename_i m bN seen sH hg;split at hp
  ·rename_i es c s hgm hl;obtain⟨b',hb',m',he,hm⟩:=hr.vM id _ hg;rw[hb] at hb';cases hb';obtain⟨bm,UW,es',hem,FV⟩:=hr.vM m _ hgm
   cases hm with
   |map On=>
    rw[UW] at On;cases On;simp only[aP] at hp;by_cases hc:c=sH
    ·subst hc;simp only[decide_true,cond_true] at hp;obtain⟨e,h1,h2,h3⟩:=Em (k:=p.1) (v:=p.2) FV hp;have wi:es'.find? (·.born == s)=some e:=by rw[←Array.find?_toList];exact h1
     refine⟨e.key,e.val, ?_,h2,h3⟩;simp [Instr.entry,AB (E:=E) he,gE (E:=E) hem,Eo hl,wi]
    ·simp only[hc,decide_false,cond_false] at hp;cases hp
  ·cases hp
 ·cases hp
end
end Go.Am
end
