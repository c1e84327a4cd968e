/- Part 6 of the texts behind the law UnitTwins: what its row needs (an abstract machine, its equations, and what the program computes). -/
import Derived.Below
import Derived.ChangeSame
import Derived.WideKeyArgs
import Derived.OpenShut
import Derived.ProofKit
import Derived.Test.YtlgdkndamddpkaaGreatP5
set_option maxRecDepth 100000
set_option linter.unusedSimpArgs false
set_option linter.unusedVariables false
set_option linter.unusedSectionVars false
section
namespace Go.Am
open Go.ChangeShapes Go.WideShapes Go.RowKit
def HC (W:World):Value→V
 | .bool b=>.bool b
 | .int k n=>.int k n
 | .string s=>.dS s
 | .pointer none=>.ak none
 | .pointer (some ⟨b,o,none⟩)=>if b<W.heap.size then .ak (some (b,o)) else .bZ
 | .slice none n c=>.slice none n c
 | .slice (some a) 0 0=>.slice (some (a.block,a.off)) 0 0
 | .slice (some ⟨b,o,none⟩) n c=>if b<W.heap.size then .slice (some (b,o)) n c else .bZ
 | .map none=>.map none
 | .nilFunc=>.nilFunc
 | .nilIface=>.nilIface
 | .iface t _=>.iface t .bZ
 |_=>.bZ
def Lt (W:World):Value→V
 | .agg cs=>if∀c∈cs.toList.map (HC W),c.one=true then .agg (cs.toList.map (HC W)) else .bZ
 |v=>HC W v
def Qd (W:World):da:=fun b=>if b<W.heap.size then some b else none
def gK (W:World):ag where
 get:=fun b=>match W.heap[b]? with
  |some (.cells cs e _)=>some (.cells e (cs.toList.map (HC W)) true)
  |_=>none
 next:=W.heap.size
theorem Dy {W:World} {b:Nat} (h:b<W.heap.size):Qd W b=some b:=if_pos h
theorem Jr (W:World) (x:Value):VR (Qd W) (HC W x) x:=by
 unfold HC;split
 ·exact .bool _
 ·exact .int _ _
 ·exact .dS _
 ·exact .Cc
 ·split
  ·rename_i h;exact .ak (Dy h)
  ·exact .bZ _
 ·exact .mK _ _
 ·exact .oV _ _
 ·split
  ·rename_i h;exact .slice _ _ (Dy h)
  ·exact .bZ _
 ·exact .xB
 ·exact .nilFunc
 ·exact .nilIface
 ·exact .iface _ (.bZ _)
 ·exact .bZ _
theorem FH (W:World) (l:List Value):ea (Qd W) (l.map (HC W)) l:=by
 refine⟨by simp,fun i x y hx hy=> ?_⟩;rw[List.getElem?_map,hy,Option.map_some,Option.some.injEq] at hx;subst hx;exact Jr W y
theorem Qe (W:World) (x:Value):VR (Qd W) (Lt W x) x:=by
 unfold Lt;split
 ·split
  ·rename_i cs h;exact .uP h (FH W _)
  ·exact .bZ _
 ·exact Jr W _
theorem N8 (W:World) (l:List Value):ea (Qd W) (l.map (Lt W)) l:=by
 refine⟨by simp,fun i x y hx hy=> ?_⟩;rw[List.getElem?_map,hy,Option.map_some,Option.some.injEq] at hx;subst hx;exact Qe W y
theorem lq {W:World} {b:Nat} {o:Obj} (h:(gK W).get b=some o):∃cs e fz,W.heap[b]? =some (.cells cs e fz)∧o=.cells e (cs.toList.map (HC W)) true:=by
 simp only[gK] at h;split at h
 ·rename_i cs e fz hb;cases h;exact⟨cs,e,fz,hb,rfl⟩
 ·cases h
theorem K3 (W:World) (ZA:∀g∈Lz,g<W.heap.size):HR (Qd W) (gK W) W where
 gl:=fun g hg=>Dy (ZA g hg)
 vM:=fun b o h=>by
  obtain⟨cs,e,fz,hb,rfl⟩:=lq h
  have hlt:b<W.heap.size:=by
   rcases Nat.lt_or_ge b W.heap.size with h|h
   ·exact h
   ·rw[Array.getElem?_eq_none h] at hb;cases hb
  refine⟨b,Dy hlt,cs,fz,hb,FH W _, ?_, ?_⟩
  ·intro h;cases h
  ·intro h;cases h
 inj:=fun id id' o o' b h _ hr _ _=>by
  obtain⟨cs,e,fz,hb,rfl⟩:=lq h;cases hr
 lt:=fun id b h=>by
  unfold Qd at h;split at h
  ·rename_i hlt;cases h;exact⟨hlt,hlt⟩
  ·cases h
theorem FI {W W':World} {H':ag} {ρ':da} (h:kO (gK W) (Qd W) W H' ρ' W'):Below W.heap.size W W' where
 os:=h.os
 tape:=h.tape
 output:=h.output
 size:=h.size
 block:=fun k hk=>h.frame k hk (by
  rintro⟨id,o,h1,h2,_⟩;obtain⟨cs,e,fz,hb,rfl⟩:=lq h1
  cases h2)
def Ae (P:Program) (H:ag):Nat→TypeId→List V→Prop
 |0,_,_=>False
 |n+1,t,cs=>match P.underlying t with
  |some .bool=>∃b,cs=[.bool b]
  |some (.int k)=>∃x,cs=[.int k x]∧k.min≤x∧x≤k.max
  |some .string=>∃s,cs=[.dS s]∧s.size≤maxLen
  |some (.slice e)=>0<P.cellsOf e→∃p len cap,cs=[.slice p len cap]∧len≤cap∧cap≤maxLen∧(p=none→cap=0)∧
   ∀i,i<cap→∃id off,p=some (id,off)∧id<H.next∧H.inb id (off+i*P.cellsOf e) (P.cellsOf e)=true∧Ae P H n e (H.sub id (off+i*P.cellsOf e) (P.cellsOf e))
  |some (.struct fs)=>cs.length=P.cellsOf t∧∀f∈fs.toList,Ae P H n f.type ((cs.drop f.offset).take (P.cellsOf f.type))
  |some (.array m e)=>cs.length=P.cellsOf t∧∀i,i<m→Ae P H n e ((cs.drop (i*P.cellsOf e)).take (P.cellsOf e))
  |_=>True
theorem FJ {α β:Type} {f:α→Option β}:∀{l:List α} {r:List β},l.mapM f=some r→r.length=l.length∧∀(i:Nat) x,l[i]? =some x→∃y,r[i]? =some y∧f x=some y
 |[],r,h=>by simp at h;subst h;exact⟨rfl,fun i x hx=>by simp at hx⟩
 |a::l,r,h=>by
  rw[List.mapM_cons] at h
  cases ha:f a with
  |none=>simp [ha] at h
  |some y=>
   cases hl:l.mapM f with
   |none=>simp [ha,hl] at h
   |some m=>
    simp [ha,hl] at h;subst h;obtain⟨h1,h2⟩:=FJ hl;refine⟨by simp [h1],fun i x hx=> ?_⟩
    cases i with
    |zero=>simp at hx;subst hx;exact⟨y,rfl,ha⟩
    |succ i=>exact h2 i x (by simpa using hx)
theorem BI {W:World} {aT n:Nat} {a:Addr} {cs:List Value} (h:W.cells? aT a n=some cs) (hn:0<n):a.spot=none∧a.block<W.heap.size∧(gK W).inb a.block a.off n=true∧(gK W).sub a.block a.off n=cs.map (HC W):=by
 unfold World.cells? at h;split at h;rotate_left
 ·cases h
 obtain⟨hlen,hall⟩:=FJ h;simp only[List.length_range] at hlen;have hcell:∀i,i<n→∃y,cs[i]? =some y∧W.cell? (a.add i)=some y:=fun i hi=>hall i i (by simp [hi])
 obtain⟨y0,_,h0⟩:=hcell 0 hn
 have Ox:∃cs' e fz,W.heap[a.block]? =some (.cells cs' e fz)∧a.spot=none:=by
  simp only[World.cell?,Addr.add] at h0;revert h0
  cases hb:W.heap[a.block]? with
  |none=>intro h0;simp [hb] at h0
  |some o=>
   cases o with
   |cells cs' e fz=>
    intro h0
    cases hsp:a.spot with
    |none=>exact⟨cs',e,fz,rfl,rfl⟩
    |some s=>simp [hb,hsp] at h0
   |_=>intro h0;simp [hb] at h0
 obtain⟨cs',e,fz,hb,hsp⟩:=Ox
 have hlt:a.block<W.heap.size:=by
  rcases Nat.lt_or_ge a.block W.heap.size with h|h
  ·exact h
  ·rw[Array.getElem?_eq_none h] at hb;cases hb
 have oe:(gK W).get a.block=some (.cells e (cs'.toList.map (HC W)) true):=by simp only[gK,hb]
 have zJ:∀i,i<n→∃y,cs[i]? =some y∧cs'[a.off+i]? =some y:=by
  intro i hi;obtain⟨y,h1,h2⟩:=hcell i hi;refine⟨y,h1, ?_⟩
  have:a.add i=⟨a.block,a.off+i,none⟩:=by
   obtain⟨b,o,s⟩:=a;cases hsp;exact fK _ _ _
  rw[this,qf hb] at h2;exact h2
 have hle:a.off+n≤cs'.size:=by
  obtain⟨y,_,h2⟩:=zJ (n-1) (by omega);rcases Nat.lt_or_ge (a.off+(n-1)) cs'.size with h|h
  ·omega
  ·rw[Array.getElem?_eq_none h] at h2;cases h2
 refine⟨hsp,hlt,by simp [ag.inb,oe];omega, ?_⟩;simp only[ag.sub,ag.cs,oe];apply List.ext_getElem?;intro i;rw[List.getElem?_take,List.getElem?_drop];by_cases hi:i<n
 ·rw[if_pos hi];obtain⟨y,h1,h2⟩:=zJ i hi;simp [h1,h2]
 ·rw[if_neg hi];rw[List.getElem?_eq_none];simp;omega
section
variable {H:Type} {enc:TypeId×Value→H} {P:Program} {W:World} {aT:Nat} {held:Bool}
theorem K4 {k:IntKind} {n:Int} (h:(Lit.int k n).wf=true):k.min≤n∧n≤k.max:=by
 simpa only[Lit.wf,Bool.and_eq_true,decide_eq_true_eq] using h
theorem K5 {a:Addr} {n c:Nat} (hs:a.spot=none) (hb:a.block<W.heap.size):HC W (.slice (some a) n c)=.slice (some (a.block,a.off)) n c:=by
 obtain⟨b,o,s⟩:=a;simp only at hs hb;subst hs
 cases n with
 |zero=>cases c with
  |zero=>rfl
  |succ c=>exact if_pos hb
 |succ n=>exact if_pos hb
theorem Qf:∀(fuel:Nat) (t:TypeId) (cs:List Value) (d:DataW H) (ps:List MemPlace),DataW.trod enc P W aT (fun _=>true) held fuel t cs=some (d,ps)→Ae P (gK W) fuel t (cs.map (HC W)):=by
 intro fuel
 induction fuel with
 |zero=>intro t cs d ps h;simp [DataW.trod] at h
 |succ n ih=>
  intro t cs d ps h;unfold Ae;split
  ·rename_i hu;obtain⟨b,rfl,_⟩:=DataW.trod_bool hu h;exact⟨b,rfl⟩
  ·rename_i k hu;obtain⟨x,rfl,_,hw⟩:=DataW.trod_int hu h;exact⟨x,rfl,K4 hw⟩
  ·rename_i hu;obtain⟨s,rfl,_,hs⟩:=DataW.trod_string hu h;exact⟨s,rfl,hs⟩
  ·rename_i e hu;intro hpos;rcases DataW.trod_slice hu h with⟨rfl,_⟩|⟨a,len,cap,elems,rest,m,hm,rfl,_,_,hle,UJ,hel,hE,hR,_⟩
   ·exact⟨none,0,0,rfl,Nat.le_refl _,Nat.zero_le _,fun _=>rfl,fun i hi=>by omega⟩
   ·cases hm;obtain⟨hrl,hR⟩:=hR rfl
    have hall:∀i,i<cap→∃cs' y,W.cells? aT (a.add (i*P.cellsOf e)) (P.cellsOf e)=some cs'∧DataW.trod enc P W aT (fun _=>true) held n e cs'=some y:=by
     intro i hi;by_cases hl:i<len
     ·have h1:=hE i hl;rw[List.getElem?_eq_getElem (by omega),Option.bind_eq_some_iff] at h1;obtain⟨cs',h1,h2⟩:=h1;exact⟨cs',_,h1,h2⟩
     ·have h1:=hR (i-len) (by omega);rw[List.getElem?_eq_getElem (by omega),Option.bind_eq_some_iff,show len+(i-len)=i by omega] at h1;obtain⟨cs',h1,h2⟩:=h1;exact⟨cs',_,h1,h2⟩
    by_cases hc:cap=0
    ·subst hc;have:len=0:=by omega
     subst this;refine⟨some (a.block,a.off),0,0, ?_,Nat.le_refl _,Nat.zero_le _,(fun _=>rfl),fun i hi=>by omega⟩;obtain⟨b,o,s⟩:=a;cases s<;>rfl
    ·obtain⟨cs0,y0,h0,_⟩:=hall 0 (by omega);have hz:a.add (0*P.cellsOf e)=a:=by simp [Addr.add]
     rw[hz] at h0;obtain⟨hs,hb,_,_⟩:=BI h0 hpos;refine⟨some (a.block,a.off),len,cap,by rw[List.map_cons,List.map_nil,K5 hs hb],hle,UJ,fun h=>(by cases h),fun i hi=> ?_⟩;obtain⟨cs',y,h1,h2⟩:=hall i hi
     have abH:a.add (i*P.cellsOf e)=⟨a.block,a.off+i*P.cellsOf e,none⟩:=by
      obtain⟨b,o,s⟩:=a;cases hs;exact fK _ _ _
     rw[abH] at h1;obtain⟨_,_,h3,h4⟩:=BI h1 hpos;refine⟨a.block,a.off,rfl,hb,h3, ?_⟩;rw[h4];exact ih e cs' y.1 y.2 h2
  ·rename_i fs hu;obtain⟨xs,m,hm,_,hl,hxl,hF⟩:=DataW.trod_struct hu h;cases hm;refine⟨by simpa using hl,fun f hf=> ?_⟩;obtain⟨i,hi,Qp⟩:=List.getElem_of_mem hf
   have hi':fs[i]? =some f:=by
    rw[←Array.getElem?_toList,List.getElem?_eq_getElem hi,Qp]
   have h1:=hF i f hi';have T8:i<xs.length:=by rw[hxl];simpa using hi
   rw[List.getElem?_eq_getElem T8] at h1;have:=ih _ _ _ _ h1;rw[List.map_take,List.map_drop] at this;exact this
  ·rename_i m e hu;obtain⟨xs,m',hm,_,hl,hxl,hF⟩:=DataW.trod_array hu h;cases hm;refine⟨by simpa using hl,fun i hi=> ?_⟩;have h1:=hF i hi;rw[List.getElem?_eq_getElem (by omega)] at h1;have:=ih _ _ _ _ h1;rw[List.map_take,List.map_drop] at this;exact this
  ·trivial
theorem Qg {x:Value} (h:∀cs,x≠ .agg cs):Lt W x=HC W x:=by
 unfold Lt;split
 ·exact absurd rfl (h _)
 ·rfl
end
section
variable {H:Type} {enc:TypeId×Value→H} {P:Program}
theorem Af {f:Func} {s:ChangeSpec} {gb fresh handsOn again:Bool} {W W':World} {args:Array Value} {v:Value} {ds gs:List (DataW H)} {before pa pv:List MemPlace} (hW:DataW.Whole enc P f.params.toList s.vars gb W args.toList ds gs before) (hres:∀(b:Nat) (sp:Nat→Bool) (hd:Bool),DataW.TrodAll enc P W' b sp hd f.resultTypes.toList (v.resultList f.resultTypes.size) (s.fn H (ds++gs)).results []) (hargs:∀sp:Nat→Bool,(∀p∈before,sp p.block=true)→DataW.TrodAll enc P W' 0 sp true f.params.toList args.toList (s.fn H (ds++gs)).args pa) (hvars:∀sp:Nat→Bool,(∀p∈before,sp p.block=true)→DataW.TrodVars enc P W' sp s.vars (s.fn H (ds++gs)).vars pv) (hps:before=pa++pv) (hb:Below W.heap.size W W') (hok:∀(j:Nat) (t:TypeId) (r:Value),f.resultTypes[j]? =some t→(v.resultList f.resultTypes.size)[j]? =some r→Value.okWide P W' .any 0 t r):s.post enc P f gb fresh handsOn again W args v W':=by
 have hlt:∀p∈before,p.block<W.heap.size:=fun p hp=>hW.lt p hp
 have hold:∀p∈before,(fun b=>decide (b<W.heap.size)) p.block=true:=fun p hp=>by simpa using hlt p hp
 refine⟨ds,gs,before,[],pa,pv,hW,hres _ _ _,hargs _ hold,hvars _ hold,World.keptBut_mono (fun p hp=>⟨hp, ?_⟩) (hb.frame (· ∈before)),fun _=> ?_⟩
 ·rw[hps,List.mem_append] at hp;exact Or.inr hp
 ·obtain⟨_,_,_,_,_,hz,hn⟩:=hW;refine⟨hok,_,_,([]++pa)++pv,⟨[]++pa,pv,trodAll_append (hargs _ (fun _ _=>rfl)) (hres _ _ _),hvars _ (fun _ _=>rfl),rfl, ?_, ?_⟩, ?_⟩
  ·intro b off hp;have hin:MemPlace.cell b off∈before:=by rw[hps];simpa using hp
   rw[hb.frozen (hlt _ hin)];exact hz b off hin
  ·intro ha;have:=hn ha;rw[hps] at this;simpa using this
  ·intro p hp _;rw[hps];simpa using hp
end
section
variable {H:Type} {enc:TypeId×Value→H} {P:Program} {W:World}
theorem rj (hl:laidOutB P=true) {W':World} (hb:Below W.heap.size W W') {sp:Nat→Bool}:∀{ts:List TypeId} {vs:List Value} {ds:List (DataW H)} {p:List MemPlace},(∀t∈ts,P.readableRec t=true∧t<P.types.size)→(∀x∈p,sp x.block=true)→(∀x∈p,x.block<W.heap.size)→DataW.TrodAll enc P W 0 (fun _=>true) true ts vs ds p→DataW.TrodAll enc P W' 0 sp true ts vs ds p
 |[],vs,ds,p,_,_,_,h=>by
  obtain⟨rfl,rfl,rfl⟩:=trodAll_nil h;exact trodAll_mk0
 |t::ts,vs,ds,p,ht,hs,hlt,h=>by
  obtain⟨v,vs1,d,ds1,a,b,rfl,rfl,rfl,h1,h2⟩:=trodAll_cons h;refine trodAll_cons_mk ?_ (rj hl hb (fun u hu=>ht u (List.mem_cons_of_mem _ hu)) (fun x hx=>hs x (List.mem_append_right _ hx)) (fun x hx=>hlt x (List.mem_append_right _ hx)) h2);refine WideElems.Trod_stays hl (ht t (List.mem_cons_self ..)).1 (ht t (List.mem_cons_self ..)).2 h1 (fun x hx=> ?_) (fun x hx=>hs x (List.mem_append_left _ hx));have hx':=hlt x (List.mem_append_left _ hx)
  cases x with
  |cell b o=>exact hb.cell (p:=⟨b,o,none⟩) hx'
  |map b=>exact hb.block b hx'
theorem wg {t:TypeId} {v:Value} {d:DataW H} {p:List MemPlace} (h:DataW.Trod enc P W 0 (fun _=>true) true t v d p):∃n,Ae P (gK W) n t (v.cells.toList.map (HC W)):=by
 obtain⟨n,hn⟩:=h;exact⟨n,Qf n t _ _ _ hn⟩
theorem FK {E:jR} (hX:jE E) (hm:E.P.follows .mixedOrders=true) (hl:laidOutB E.P=true) {f:FuncId} {fn:Func} {s:ChangeSpec} {gb fresh handsOn again:Bool} {args:Array Value} {ds gs:List (DataW H)} {before:List MemPlace} {tb:TypeId} (hb:E.P.underlying tb=some .bool) (hpar:∀t∈fn.params.toList,E.P.readableRec t=true∧t<E.P.types.size) (hres:fn.resultTypes= #[tb]) (hv:s.vars=[]) (hs:∀ds:List (DataW H),ds.length=fn.params.size→s.fn H ds={results:=[.lit (.bool true)],args:=ds}) (hW:DataW.Whole enc E.P fn.params.toList s.vars gb W args.toList ds gs before) (hc:(qO E).call f (args.toList.map (Lt W)) (gK W) fun v _=>v=.bool true) (ZA:∀g∈Lz,g<W.heap.size:=by intro g hg;cases hg):
 Calls E.P f args W fun e W'=>∃v,e=.returned v∧s.post enc E.P fn gb fresh handsOn again W args v W':=by
 refine((AL hX hm).call _ _ _ _ hc (Qd W) W args (K3 W ZA) (N8 W _)).mono ?_;rintro e W' ⟨v,v',H',ρ',rfl,rfl,hv',_,UK⟩;have Ak:=FI UK;refine⟨v',rfl, ?_⟩;rw[hv'.Cd];have hW0:=hW;obtain⟨p,q,hA,hV,hpq,hfz,uC⟩:=hW;rw[hv] at hV;obtain⟨rfl,rfl⟩:=trodVars_none hV;simp only[List.append_nil] at hpq;subst hpq
 have hlen:ds.length=fn.params.size:=by
  have key:∀{ts:List TypeId} {vs:List Value} {ds:List (DataW H)} {p:List MemPlace},DataW.TrodAll enc E.P W 0 (fun _=>true) true ts vs ds p→ds.length=ts.length:=by
   intro ts
   induction ts with
   |nil=>intro vs ds p h;obtain⟨_,rfl,_⟩:=trodAll_nil h;rfl
   |cons t ts ih=>
    intro vs ds p h;obtain⟨v,vs1,d,ds1,a,b,rfl,rfl,rfl,_,h2⟩:=trodAll_cons h;simp [ih h2]
  simpa using key hA
 have hsp:=hs ds hlen;have hlt:∀x∈before,x.block<W.heap.size:=fun x hx=>hW0.lt x hx
 refine Af (pa:=before) (pv:=[]) hW0 (fun b sp hd=> ?_) (fun sp abI=> ?_) (fun sp _=> ?_) (by simp) Ak ?_
 ·rw[List.append_nil,hsp,hres];exact trodAll_cons_mk (p:=[]) (p':=[]) (shut_bool hb true) trodAll_mk0
 ·rw[List.append_nil,hsp];exact rj hl Ak hpar abI hlt hA
 ·rw[List.append_nil,hsp,hv];rfl
 ·exact ok_one hres rfl (okWide_bool_mk hb true)
theorem HD {t:TypeId} {d:TypeDesc} {r:Reach} {aT:Nat} {cs:Array Value} (hu:P.underlying t=some d) (hd:ix d=false) (h:Value.okWide P W r aT t (.agg cs)):False:=by
 cases d<;>simp [ix] at hd<;>simp [Value.okWide,hu,Cell.okWide,Cell.ok] at h
theorem BJ {t:TypeId} {d:TypeDesc} {r:Reach} {aT:Nat} {v:Value} (hu:P.underlying t=some d) (hd:ix d=false) (h:Value.okWide P W r aT t v):v.cells.toList.map (HC W)=[Lt W v]:=by
 have hn:∀cs,v≠ .agg cs:=by rintro cs rfl;exact HD hu hd h
 rw[Qg hn];cases v<;>first|rfl|exact absurd rfl (hn _)
variable {r:Reach} {aT:Nat} {v:Value} {d:DataW H} {p:List MemPlace} {t:TypeId}
theorem Qh {k:IntKind} (hu:P.underlying t=some (.int k)) (hval:Value.okWide P W r aT t v) (h:DataW.Trod enc P W 0 (fun _=>true) true t v d p):∃x,Lt W v=.int k x∧k.min≤x∧x≤k.max:=by
 obtain⟨n,hn⟩:=wg h;rw[BJ hu rfl hval] at hn
 cases n with
 |zero=>exact hn.elim
 |succ n=>
  simp only[Ae,hu] at hn;obtain⟨x,hx,hr⟩:=hn;exact⟨x,by simpa using hx,hr⟩
end
section
variable {P:Program} {H:ag} {n:Nat} {t:TypeId} {x:V}
theorem pY {k:IntKind} (hu:P.underlying t=some (.int k)) (h:Ae P H n t [x]):∃y,x=.int k y∧k.min≤y∧y≤k.max:=by
 cases n with
 |zero=>exact h.elim
 |succ n=>
  simp only[Ae,hu] at h;obtain⟨y,hy,hr⟩:=h;exact⟨y,by simpa using hy,hr⟩
theorem Js (hu:P.underlying t=some .bool) (h:Ae P H n t [x]):∃y,x=.bool y:=by
 cases n with
 |zero=>exact h.elim
 |succ n=>
  simp only[Ae,hu] at h;obtain⟨y,hy⟩:=h;exact⟨y,by simpa using hy⟩
def K6 (P:Program) (H:ag) (e:TypeId) (q:Oq) (len cap:Nat):Prop:=
 len≤cap∧cap≤maxLen∧(q=none→cap=0)∧
  ∃n,∀i,i<cap→∃id off,q=some (id,off)∧id<H.next∧H.inb id (off+i*P.cellsOf e) (P.cellsOf e)=true∧Ae P H n e (H.sub id (off+i*P.cellsOf e) (P.cellsOf e))
theorem FL {e:TypeId} (hu:P.underlying t=some (.slice e)) (hpos:0<P.cellsOf e) (h:Ae P H n t [x]):∃q len cap,x=.slice q len cap∧K6 P H e q len cap:=by
 cases n with
 |zero=>exact h.elim
 |succ n=>
  simp only[Ae,hu] at h;obtain⟨q,len,cap,hx,h1,h2,h3,h4⟩:=h hpos;exact⟨q,len,cap,by simpa using hx,h1,h2,h3,n,h4⟩
theorem K7 {fs:Array Field} {cs:List V} (hu:P.underlying t=some (.struct fs)) (h:Ae P H n t cs):cs.length=P.cellsOf t∧∃m,∀f∈fs.toList,Ae P H m f.type ((cs.drop f.offset).take (P.cellsOf f.type)):=by
 cases n with
 |zero=>exact h.elim
 |succ n=>
  simp only[Ae,hu] at h;exact⟨h.1,n,h.2⟩
end
section
variable {H:Type} {enc:TypeId×Value→H} {P:Program} {W:World} {r:Reach} {aT:Nat} {v:Value} {d:DataW H} {p:List MemPlace} {t:TypeId}
theorem K8 {e:TypeId} (hu:P.underlying t=some (.slice e)) (hpos:0<P.cellsOf e) (hval:Value.okWide P W r aT t v) (h:DataW.Trod enc P W 0 (fun _=>true) true t v d p):∃q len cap,Lt W v=.slice q len cap∧K6 P (gK W) e q len cap:=by
 obtain⟨n,hn⟩:=wg h;rw[BJ hu rfl hval] at hn;exact FL hu hpos hn
end
end Go.Am
end
section
namespace Go.Am
theorem N9 (W:World):az (gK W) (gK W) []:=by
 refine az.start ?_ ?_
 ·intro id o h;obtain⟨cs,e,fz,hb,rfl⟩:=lq h;show id<W.heap.size
  rcases Nat.lt_or_ge id W.heap.size with h|h
  ·exact h
  ·rw[Array.getElem?_eq_none h] at hb;cases hb
 ·intro id o h;obtain⟨cs,e,fz,hb,rfl⟩:=lq h;exact⟨e,_,rfl⟩
theorem xe {H:ag} {id off n:Nat} (h:H.inb id off n=true):∃e l ro,H.get id=some (.cells e l ro)∧off+n≤l.length:=by
 unfold ag.inb at h;split at h
 ·rename_i e l ro hg;exact⟨e,l,ro,hg,by simpa using h⟩
 ·cases h
theorem Oa {P:Program} {H:ag} {t:TypeId} {q:Oq} {len cap:Nat} (hu:P.underlying t=some (.int .u8)) (hc:P.cellsOf t=1) (h:K6 P H t q len cap):
 ∃bs:List UInt8,bs.length=len∧lz H q bs∧len≤cap∧len≤maxLen:=by
 obtain⟨h1,UJ,_,n,h2⟩:=h;rw[hc] at h2
 have key:∀i,∃b:UInt8,i<len→∃id off,q=some (id,off)∧H.inb id (off+i) 1=true∧H.sub id (off+i) 1=[.int .u8 (b.toNat:Int)]:=by
  intro i;by_cases hi:i<len
  ·obtain⟨id,off,e1,_,e3,e4⟩:=h2 i (by omega);simp only[Nat.mul_one] at e3 e4
   have hl:∃x,H.sub id (off+i) 1=[x]:=by
    obtain⟨e,l,ro,hg,hle⟩:=xe e3;have:(H.sub id (off+i) 1).length=1:=by rw[lU hg];simp;omega
    match hs:H.sub id (off+i) 1,this with
    |[x],_=>exact⟨x,rfl⟩
   obtain⟨x,hx⟩:=hl;rw[hx] at e4;obtain⟨y,rfl,hy1,Rt⟩:=pY (P:=P) hu e4;have m1:IntKind.u8.min=0:=by decide
   have m2:IntKind.u8.max=255:=by decide
   rw[m1] at hy1;rw[m2] at Rt;refine⟨UInt8.ofNat y.toNat,fun _=>⟨id,off,e1,e3, ?_⟩⟩;rw[hx];simp;omega
  ·exact⟨0,fun h=>absurd h hi⟩
 refine⟨(List.range len).map fun i=>Classical.choose (key i),by simp, ?_,h1,by omega⟩;by_cases h0:len=0
 ·subst h0;exact .inl rfl
 ·obtain⟨id,off,e1,e2,_⟩:=Classical.choose_spec (key 0) (by omega);obtain⟨e,l,ro,hg,_⟩:=xe e2;refine .inr ⟨id,off,e,l,ro,e1,hg, ?_⟩;apply List.ext_getElem?;intro i;rw[nX,List.length_map,List.length_range,List.getElem?_take];by_cases hi:i<len
  ·obtain⟨id',off',ON,Ve,Y3⟩:=Classical.choose_spec (key i) hi;rw[e1] at ON;cases ON;rw[lU hg] at Y3;rw[if_pos hi,List.getElem?_drop];simp only[ba,List.map_map,List.getElem?_map,List.getElem?_range hi,Option.map_some,Function.comp];have:=congrArg (fun m=>m[0]?) Y3;simpa using this
  ·rw[if_neg hi];simp [ba,hi]
theorem BK {l:List V} {off n:Nat} {f:Nat→List V}:∀(len:Nat),(∀i,i<len→(l.drop (off+i*n)).take n=f i∧(f i).length=n)→(l.drop off).take (len*n)=((List.range len).map f).flatten
 |0,_=>by simp
 |k+1,h=>by
  rw[List.range_succ,List.map_append,List.flatten_append, ←BK k (fun i hi=>h i (by omega))];rw[Nat.add_mul,Nat.one_mul,List.take_add,List.drop_drop,(h k (by omega)).1];simp
theorem Qi {P:Program} {H:ag} {t:TypeId} {q:Oq} {len cap n:Nat} (hc:P.cellsOf t=n) (h:K6 P H t q len cap):∃(css:List (List V)) (m:Nat),css.length=len∧Rd H q css.flatten∧(∀c∈css,c.length=n∧Ae P H m t c)∧len≤cap∧len≤maxLen:=by
 obtain⟨h1,UJ,_,m,h2⟩:=h;rw[hc] at h2
 have key:∀i,∃c:List V,i<len→∃id off,q=some (id,off)∧H.inb id (off+i*n) n=true∧H.sub id (off+i*n) n=c∧c.length=n∧Ae P H m t c:=by
  intro i;by_cases hi:i<len
  ·obtain⟨id,off,e1,_,e3,e4⟩:=h2 i (by omega);refine⟨_,fun _=>⟨id,off,e1,e3,rfl, ?_,e4⟩⟩;obtain⟨e,l,ro,hg,hle⟩:=xe e3;rw[lU hg];simp;omega
  ·exact⟨[],fun h=>absurd h hi⟩
 refine⟨(List.range len).map fun i=>Classical.choose (key i),m,by simp, ?_, ?_,h1,by omega⟩
 ·by_cases h0:len=0
  ·subst h0;exact .inl rfl
  ·obtain⟨id,off,e1,e2,_⟩:=Classical.choose_spec (key 0) (by omega);obtain⟨e,l,ro,hg,_⟩:=xe e2;refine .inr ⟨id,off,e,l,ro,e1,hg, ?_⟩
   have RL:=BK (l:=l) (off:=off) (n:=n) (f:=fun i=>Classical.choose (key i)) len (fun i hi=>by
    obtain⟨id',off',ON,_,Y3,e4',_⟩:=Classical.choose_spec (key i) hi;rw[e1] at ON;cases ON;rw[lU hg] at Y3
    exact⟨Y3,e4'⟩)
   have hlen:((List.range len).map fun i=>Classical.choose (key i)).flatten.length=len*n:=by
    rw[←RL,List.length_take,List.length_drop];obtain⟨id',off',ON,Ve,_⟩:=Classical.choose_spec (key (len-1)) (by omega);rw[e1] at ON;cases ON;rw[dP hg] at Ve;have:=Nat.le_of_ble_eq_true Ve;have e:(len-1)*n+n=len*n:=by rw[←Nat.succ_mul];congr 1;omega
    omega
   rw[hlen];exact RL
 ·intro c hc;obtain⟨i,hi,rfl⟩:=List.mem_map.1 hc;obtain⟨_,_,_,_,_,e4,e5⟩:=Classical.choose_spec (key i) (List.mem_range.1 hi);exact⟨e4,e5⟩
end Go.Am
end
section
namespace Go.Proofs.YtlgdkndamddpkaaGreat
open Go.Am
structure Ac where
 ho:Int
 kd:Int
 lb:Int
 ky:Int
 nw:Int
 ty:Int
 su:Bool
 ow:Bool
 q:Oq
 c:Nat
 d:List UInt8
 n:Int
def Ac.cs (a:Ac):List V:=ZQ a.ho a.kd a.lb a.ky a.nw a.ty a.su a.ow a.q a.d.length a.c a.n
structure Ac.ok (B:ag) (a:Ac):Prop where
 ho:0≤a.ho∧a.ho≤255
 kd:0≤a.kd∧a.kd≤255
 lb:0≤a.lb∧a.lb≤255
 ky:0≤a.ky∧a.ky≤255
 nw:0≤a.nw∧a.nw≤255
 ty:0≤a.ty∧a.ty≤255
 rd:lz B a.q a.d
 n:0≤a.n∧a.n≤255
def Rj (i:Nat):Int:=[0,0,1,1,1,2,3,4,4,5,6,7,8,9].getD i 0
def Rk (i:Nat):Int:=[1,3,5,6,7,8].getD i 0
def Ac.bR (a:Ac):List UInt8:=if a.d.length≤64 then a.d else []
def Ac.cm (a:Ac) (r:R) (n:Int):Cm:=
 ⟨Rj (a.kd % 14).toNat,a.lb % n,if a.d.length≤64 then a.q else none,if a.d.length≤64 then a.d.length else 0,if a.d.length≤64 then a.c else 0,a.su,
  if a.ow=true then r.k (a.ho % 4).toNat else a.ky % 4,a.nw % 4,Rk (a.ty % 6).toNat,a.su⟩
theorem Ac.Rl (a:Ac) (r:R) (n:Int):(a.cm r n).dn=a.bR.length:=by unfold Ac.cm Ac.bR;split<;>simp [*]
theorem Ac.Ro {B:ag} {L:List bV} {a:Ac} (ha:a.ok B) (r:R) (n:Int):lC B L (a.cm r n).dp a.bR:=by
 unfold Ac.cm Ac.bR;by_cases h:a.d.length≤64
 ·simp only[h,if_true];exact lC.of ha.rd
 ·simp only[h,if_false];exact lC.nil _ _ _
section
variable {B:ag} {L:List bV} {H:ag} {K:V→ag→Prop} {oid mid:Nat} {o:Ob}
theorem T3 (h:az B H L) {a:Ac} (ha:a.ok B) (r:R) {n:Int} (hn:1≤n) (hn2:n≤1000000) (k:∀H',az B H' L→K (.tuple [.int .i64 (a.ho % 4),.agg (a.cm r n).cs]) H'):cl 14 [.agg a.cs,.agg r.cs,.int .i64 n] H K:=by
 have h1:=ha.ho;have h2:=ha.kd;have h3:=ha.lb;have h4:=ha.ky;have h5:=ha.nw;have h6:=ha.ty;unfold Ac.cs R.cs;rw[Z7];simp only[oM];have t1:Int.tmod a.kd 14=a.kd % 14:=Int.tmod_eq_emod_of_nonneg h2.1;have t2:Int.tmod a.ty 6=a.ty % 6:=Int.tmod_eq_emod_of_nonneg h6.1;have t3:Int.tmod a.ho 4=a.ho % 4:=Int.tmod_eq_emod_of_nonneg h1.1;have t4:Int.tmod a.ky 4=a.ky % 4:=Int.tmod_eq_emod_of_nonneg h4.1;have t5:Int.tmod a.nw 4=a.nw % 4:=Int.tmod_eq_emod_of_nonneg h5.1;have t6:Int.tmod a.lb n=a.lb % n:=Int.tmod_eq_emod_of_nonneg h3.1;have w1:IntKind.i64.wrap (a.ho % 4)=a.ho % 4:=by rw[bn (by omega) (by omega)]
 have w2:IntKind.u32.wrap (a.ky % 4)=a.ky % 4:=IntWalk.u32_in _ (by omega);have w3:IntKind.u32.wrap (a.nw % 4)=a.nw % 4:=IntWalk.u32_in _ (by omega);have w4:IntKind.i64.wrap a.lb=a.lb:=by rw[bn (by omega) (by omega)]
 have g1:0≤a.kd % 14:=by omega
 have g2:a.kd % 14<14:=by omega
 have g3:0≤a.ty % 6:=by omega
 have g4:a.ty % 6<6:=by omega
 have g5:0≤a.ho % 4:=by omega
 have g6:a.ho % 4<8:=by omega
 have g7:¬n=0:=by omega
 have s1:=h.alloc 5 (mR 1 3 5 6 7 8);have s2:=s1.alloc 5 [V.int .u8 0,V.int .u8 0,V.int .u8 1,V.int .u8 1,V.int .u8 1,V.int .u8 2,V.int .u8 3,V.int .u8 4,V.int .u8 4,V.int .u8 5,V.int .u8 6,V.int .u8 7,V.int .u8 8,V.int .u8 9];have HG:=s2.get;have Qt:=s2.swap.get;have UF:=s2.drop.drop;rw[t1,t2,t3,t4,t5,w1,w2,w3,w4,t6];generalize hH2:(H.alloc (.cells 5 (mR 1 3 5 6 7 8) false)).alloc _=H2 at*;have e1:(H.alloc (.cells 5 (mR 1 3 5 6 7 8) false)).2=(H.alloc (.cells 5 (mR 1 3 5 6 7 8) false)).next:=rfl
 have c1:H2.cell (H.alloc (.cells 5 (mR 1 3 5 6 7 8) false)).next (0+(a.kd % 14).toNat*1)=.int .u8 (Rj (a.kd % 14).toNat):=by
  rw[aX HG,Nat.zero_add,Nat.mul_one];generalize hi:(a.kd % 14).toNat=i;have hh:i=0∨i=1∨i=2∨i=3∨i=4∨i=5∨i=6∨i=7∨i=8∨i=9∨i=10∨i=11∨i=12∨i=13:=by omega
  rcases hh with h|h|h|h|h|h|h|h|h|h|h|h|h|h<;>rw[h]<;>rfl
 have i1:H2.inb (H.alloc (.cells 5 (mR 1 3 5 6 7 8) false)).next (0+(a.kd % 14).toNat*1) 1=true:=by
  rw[dP HG];exact Nat.ble_eq_true_of_le (show 0+(a.kd % 14).toNat*1+1≤14 by omega)
 have c2:H2.cell H.next (0+(a.ty % 6).toNat*1)=.int .u8 (Rk (a.ty % 6).toNat):=by
  rw[aX Qt,Nat.zero_add,Nat.mul_one];generalize hi:(a.ty % 6).toNat=i;have hh:i=0∨i=1∨i=2∨i=3∨i=4∨i=5:=by omega
  rcases hh with h|h|h|h|h|h<;>rw[h]<;>rfl
 have i2:H2.inb H.next (0+(a.ty % 6).toNat*1) 1=true:=by
  rw[dP Qt];exact Nat.ble_eq_true_of_le (show 0+(a.ty % 6).toNat*1+1≤6 by omega)
 have e4:(a.ho % 4).toNat<8:=by omega
 have b1:Nat.ble (Nat.succ (0+(a.ho % 4).toNat*1)) 12=true:=Nat.ble_eq_true_of_le (by omega)
 have n1:ae (cP (r.k 0) (r.k 1) (r.k 2) (r.k 3) (r.k 4) (r.k 5) (r.k 6) (r.k 7) r.ty r.ho r.ge r.la) (0+(a.ho % 4).toNat*1)=.int .u32 (r.k (a.ho % 4).toNat):=by
  rw[Nat.zero_add,Nat.mul_one];exact um r e4
 have hk:=k H2 UF;unfold Ac.cm at hk;simp only[g1,g2,g3,g4,g5,g6,g7,e1,i1,c1,i2,c2,b1,n1,decide_true,decide_false,Bool.and_self,Bool.or_false,Bool.not_false,aA,eT,bK,dW];cases how:a.ow
 all_goals
  rw[how] at hk;simp only[ai,aq,ik,kU,reduceIte,uZ,hY,Bool.or_false,aA,f40,ZR,Vm,Vn,Vo,Vp,Vq,Vr,Vs,Vt,bK,cD,Bool.false_eq_true,if_false,if_true] at hk⊢;by_cases h64:a.d.length≤64
  ·have UL:(a.d.length:Int)≤64:=by omega
   simp only[UL,decide_true,aq];simp only[h64,if_true] at hk;exact hk
  ·have UL:¬(a.d.length:Int)≤64:=by omega
   simp only[UL,decide_false,ai];simp only[h64,if_false] at hk;exact hk
end
theorem BL:∀(bB:List Int) (bs:List Bk),(∀x∈bs,x=fj∨x=yA)→∀x∈re bs bB,x=fj∨x=yA
 |[],bs,h=>h
 |i::bB,bs,h=>BL bB _ (fun x hx=>by
  rcases List.mem_or_eq_of_mem_set hx with hx|rfl
  ·exact h x hx
  ·exact .inr rfl)
theorem BM {b:Nat}:∀(bB:List Int) (bs:List Bk),(∀i∈bB,i.toNat≠b)→(re bs bB).getD b fj=bs.getD b fj
 |[],bs,h=>rfl
 |i::bB,bs,h=>by
  rw[re,BM bB _ (fun j hj=>h j (List.mem_cons_of_mem _ hj)),List.getD_eq_getElem?_getD,List.getD_eq_getElem?_getD,List.getElem?_set,if_neg (h i List.mem_cons_self)]
theorem sx {g:bW} (hg:g.In) (hn:g.yy):g.cap<65000:=by
 have Jx:=bW.jX g hg.b.2;have h1:=hn.2.2.1;have h2:=hn.2.2.2.1;have h3:=hn.2.2.2.2.1
 have:g.ay*((g.us.length:Int)-g.aF-1)≤32*62:=by
  by_cases h0:0≤(g.us.length:Int)-g.aF-1
  ·exact Int.mul_le_mul h2 (by omega) h0 (by omega)
  ·have:=Int.mul_nonpos_of_nonneg_of_nonpos (a:=g.ay) (b:=(g.us.length:Int)-g.aF-1) (by omega) (by omega);omega
 have hc:g.cap=g.ay*((g.us.length:Int)-g.aF-1)-2:=rfl;omega
theorem Qj {g:bW} (hn:g.yy) (hc:0<g.cap):g.aF+1≤g.us.length:=by
 by_cases h0:0<(g.us.length:Int)-g.aF-1
 ·omega
 ·have h1:=hn.2.2.1;have:=Int.mul_nonpos_of_nonneg_of_nonpos (a:=g.ay) (b:=(g.us.length:Int)-g.aF-1) (by omega) (by omega);have Ga:g.cap=g.ay*((g.us.length:Int)-g.aF-1)-2:=rfl;omega
open Classical in
theorem T4 {g:bW} (hform:g.cN=true) (hl:g.bB.length≤1000000) (QF:∀i∈g.bB,0≤i∧i<g.aB):Up g (z9 g.aB.toNat g.ay g.bB) (Ad g.cap.toNat) [] 0 0:=by
 have hn:=bW.eE hform;have hg:=hn.in hl;have hcap:=bW.nn hform;have hlt:=sx hg hn;have hall:∀x∈(z9 g.aB.toNat g.ay g.bB).bs,x=fj∨x=yA:=BL _ _ (fun x hx=>.inl (List.eq_of_mem_replicate hx))
 have hlen:(z9 g.aB.toNat g.ay g.bB).bs.length=g.aB.toNat:=by
  show (re _ _).length=_
  rw[AX,List.length_replicate]
 have sC:∀x∈(z9 g.aB.toNat g.ay g.bB).bs,x.pg=[]:=fun x hx=>by rcases hall x hx with rfl|rfl<;>rfl
 have hb:g.aB=((g.aB.toNat:Nat):Int):=by have:=hn.1;omega
 have hbk:∀b∈g.us,(z9 g.aB.toNat g.ay g.bB).bk b=fj:=fun b hb=>by
  have hnb:¬(b:Int)∈g.bB:=by
   unfold bW.us at hb;have:=(List.mem_filter.1 hb).2;simpa using this
  show (re _ _).getD b fj=_
  rw[BM _ _ (fun i hi e=>hnb (by have:=QF i hi;have:i=(b:Int):=by omega
                                 rw[←this];exact hi)),List.getD_eq_getElem?_getD,List.getElem?_replicate]
  split<;>rfl
 have hvw:∀b,vw g (z9 g.aB.toNat g.ay g.bB) b=[]:=fun b=>by
  by_cases hu:b∈g.us
  ·exact yV (.inl (by rw[hbk b hu];rfl))
  ·exact Db b hu
 have hc0:∀x,uB (Ad g.cap.toNat).su [] x=[]:=fun x=>by
  unfold uB Ad;simp only;split
  ·rw[List.getD_eq_getElem?_getD,List.getElem?_replicate];split<;>rfl
  ·split<;>rfl
 have no:∀b f,f∉vw g (z9 g.aB.toNat g.ay g.bB) b:=fun b f hf=>by rw[hvw b] at hf;cases hf
 refine⟨⟨[], ?_,.inl ⟨rfl,rfl⟩⟩,rfl,rfl,rfl,rfl,TU (by omega) (by omega),by show (((List.replicate g.cap.toNat ([]:List UInt8)).length:Nat):Int)=_;rw[List.length_replicate];omega⟩;refine⟨⟨?_,rfl,fun x hx=>(by rw[sC x hx];have:=hn.2.2.1;show ((0:Nat):Int)≤_;omega),fun x hx d hd=>(by rw[sC x hx] at hd;cases hd),fun b hb e=>(by rw[hbk b hb] at e;cases e),fun b hb _=>(by rw[hbk b hb];exact⟨Int.le_refl _,rfl,rfl⟩)⟩, ?_, ?_,fun b f hf=>absurd hf (no b f),fun i hi j hj _ _ h=>absurd (hvw i) h.1⟩
 ·rw[hlen];omega
 ·exact⟨fun b f hf=>absurd hf (no b f),fun x=>.inl ⟨hc0 x,fun b f hf=>absurd hf (no b f)⟩,fun b f hf=>absurd hf (no b f),fun b f hf=>absurd hf (no b f),fun b f hf=>absurd hf (no b f),fun b f hf=>absurd hf (no b f)⟩
 ·intro _;have:jO g (z9 g.aB.toNat g.ay g.bB)=0:=List.countP_eq_zero.2 (fun b hb e=>wb (hvw b) (of_decide_eq_true e).2);rw[this];have:=Qj hn hcap;omega
section
variable {B:ag} {L:List bV} {H:ag} {K:V→ag→Prop} {m:Gm} {o:Ob} {ds:List Nat} {N b aK:Nat} {a:Ar}
theorem qF (h:az B H (cO aK a::L)) (hm:cY B L m) (hform:m.g.cN=true) (hg:m.g.In) (U:Up m.g a o ds N b) (hb:b<2147483648) (ha:a.bI≤0) {ep:Nat} (RI:1≤ep∧ep<281474976710656) (hf:a.aN≤ep) (k:∀x v H',x.aK=aK→Ug m.g v o ds N b→v.s.a.bI≤0→v.s.a.aN=a.aN→v.s.f.ep=ep→(∃sq:Int→Nat,(∀y:Int,sq y=((jq y.toNat (a.z8 m.g)).map fun f=>f.s.seq).getD 0)∧uM m.g (cu m.g sq a ep).1=some v)→fI B H' x m v L→K (.tuple [.ak (some (x.iQ,0)),.int .i64 0]) H'):cl 13 [.ak (some (aK,0)),m.v,.int .u64 (ep:Int)] H K:=by
 have hn:=bW.eE hform;have hc:0≤m.g.cap∧m.g.cap<65000:=⟨by have:=bW.nn hform;omega,sx hg hn⟩;obtain⟨t,Vd,_⟩:=U.t
 have hno:∀sq,(cu m.g sq a ep).2=0∧∃v,uM m.g (cu m.g sq a ep).1=some v∧v.s=(cu m.g sq a ep).1∧Ug m.g v o ds N b:=fun sq=>by
  obtain⟨kp,h1⟩:=U.mount hg hc RI hf hb sq;rcases h1 with h1|⟨_,h1⟩
  ·exact h1
  ·exfalso;have h2:=h1.off;have:=(kp.zI ha).2;rw[this] at h2;have h3:a.off=true:=h2;rw[U.on] at h3;cases h3
 refine KR h hm hform hg (Vd.rd U.on) hc RI (fun sq _=>by
  obtain⟨_,v,h1,_⟩:=hno sq
  exact⟨v,h1⟩) (fun pz x v H' hx Gg h0 hok huM hS=> ?_) (fun pz H' Gg h0 hok hS=>absurd (hno (dX pz)).1 h0)
 obtain⟨_,v',h1,h2,h3⟩:=hno (dX pz);rw[huM] at h1;cases h1;obtain⟨kp,_⟩:=U.mount hg hc RI hf hb (dX pz);refine k x v H' hx h3 ?_ ?_ ?_ ⟨dX pz,fun y=> ?_,huM⟩ hS
 ·rw[h2];exact(kp.zI ha).1
 ·rw[h2];exact kp.aN
 ·rw[h2];exact kp.ep
 ·unfold dX;rw[←Gg,vn];cases lD y.toNat pz<;>rfl
end
end Go.Proofs.YtlgdkndamddpkaaGreat
end
section
namespace Go.Proofs.YtlgdkndamddpkaaGreat
open Go.Am
theorem Dz {p:Nat→Bool}:∀{l ds:List Nat},l.Nodup→(∀b∈l,p b=true→b∈ds)→l.countP p≤ds.length
 |l,ds,hn,h=>by
  rw[List.countP_eq_length_filter];exact List.Nodup.length_le_of_subset (hn.sublist List.filter_sublist) (fun b hb=>h b (List.mem_filter.1 hb).1 (List.mem_filter.1 hb).2)
section
variable {g:bW} {u:Un} {o:Ob} {ds:List Nat} {N b:Nat}
theorem Ug.c3 (h:Ug g u o ds N b):u.s.f.po.count 3≤ds.length:=by
 obtain⟨t,ht,_⟩:=h.t;rw[←ht.lh (a:=u.s.a) (fun _ _=>rfl)]
 exact Dz (nh g) (fun b hb e=>Classical.byContradiction fun hn=>by
  have:=(ht.ph.doom b hb hn).2.2
  rw[this] at e;cases e)
theorem X1 (hg:g.In) (hform:g.cN=true) (h:Ug g u o ds N b) (hds:(ds.length:Int)≤g.aF) (ha:u.s.a.bI≤0) (hh:Int) (c:Cm) (bR:List UInt8) (hd:c.dn=bR.length) (Vf:0≤c.nw∧c.nw≤4294967295) (hN:N+9*CW<281474976710656):∃v,US g u hh c bR=some (v,(Dt o hh c bR).2,0)∧Kp u.s v.s (9*CW)∧Ug g v (Dt o hh c bR).1 ds (N+9*CW) b:=by
 have hn:=bW.eE hform;obtain⟨r,h1,h2,h3⟩:=T1 hg hform (sx hg hn) h hh c bR hd Vf hN;rcases h3 with⟨e1,e2,h3⟩|⟨_,_,_,_,e1,j,_,h3⟩|⟨_,h3⟩
 ·exact⟨r.1,by rw[h1, ←e2, ←e1],h2,h3⟩
 ·exfalso;have:=h3.c3;omega
 ·exfalso;have h4:=h3.off;rw[(h2.zI ha).2] at h4;obtain⟨t,ht,_⟩:=h.t;rw[ht.on] at h4;cases h4
theorem X2 (hg:g.In) (hform:g.cN=true) (h:Ug g u o ds N b) (hds:(ds.length:Int)≤g.aF) (ha:u.s.a.bI≤0) (hN:N+9*CW<281474976710656):∃v,UT g u=some (v,0)∧Kp u.s v.s (9*CW)∧Ug g v (mu o) ds (N+9*CW) b:=by
 have hn:=bW.eE hform;obtain⟨t,ht,_⟩:=h.t;obtain⟨r,h1,h2,h3⟩:=T2 hg hform (sx hg hn) h hN;rcases h3 with⟨e1,h3⟩|⟨_,e1,j,_,h3⟩|⟨_,h3⟩
 ·exact⟨r.1,by rw[h1, ←e1],h2,h3⟩
 ·exfalso;have:=h3.c3;omega
 ·exfalso;have h4:=h3.off;rw[(h2.zI ha).2,ht.on] at h4;cases h4
end
section
variable {B:ag} {L:List bV} {H:ag} {K:V→ag→Prop} {x:Ui} {m:Gm} {u:Un} {o:Ob} {ds:List Nat} {N b:Nat}
theorem Ug.rok {g:bW} (h:Ug g u o ds N b):fu u.r:=by rw[h.r];obtain⟨_,_,htb⟩:=h.t;exact htb.XZ
theorem zr (hm:cY B L m) (hg:m.g.In) (hform:m.g.cN=true) (h:fI B H x m u L) (U:Ug m.g u o ds N b) (hb:b<2147483648) (hds:(ds.length:Int)≤m.g.aF) (ha:u.s.a.bI≤0) (hh:Int) (c:Cm) (bR:List UInt8) (hd:c.dn=bR.length) (hr:lC B L c.dp bR) (Vf:0≤c.nw∧c.nw≤4294967295) (hN:N+9*CW<281474976710656) (k:∀v q n H',US m.g u hh c bR=some (v,(Dt o hh c bR).2,0)→Kp u.s v.s (9*CW)→Ug m.g v (Dt o hh c bR).1 ds (N+9*CW) b→fI B H' x m v (BY q n (Dt o hh c bR).2.d::L)→K (.tuple [.agg ((Dt o hh c bR).2.cs q n),.int .i64 0]) H'):cl 16 [.ak (some (x.iQ,0)),.int .i64 hh,.agg c.cs] H K:=by
 obtain⟨v,h1,h2,h3⟩:=X1 hg hform U hds ha hh c bR hd Vf hN;have hn:=bW.eE hform;exact TX hm hg ⟨by have:=bW.nn hform;omega,sx hg hn⟩ h U.ok hh c bR hd hr (U.rok.doR hh c Vf).ok (by rw[U.boots];omega) h1 (fun q n H' h'=>k v q n H' h1 h2 h3 h')
theorem T5 (hm:cY B L m) (hg:m.g.In) (hform:m.g.cN=true) (h:fI B H x m u L) (U:Ug m.g u o ds N b) (hds:(ds.length:Int)≤m.g.aF) (ha:u.s.a.bI≤0) (hN:N+9*CW<281474976710656) (k:∀v H',UT m.g u=some (v,0)→Kp u.s v.s (9*CW)→Ug m.g v (mu o) ds (N+9*CW) b→fI B H' x m v L→K (.int .i64 0) H'):cl 25 [.ak (some (x.iQ,0))] H K:=by
 obtain⟨v,h1,h2,h3⟩:=X2 hg hform U hds ha hN;have hn:=bW.eE hform;exact TY hm hg ⟨by have:=bW.nn hform;omega,sx hg hn⟩ h U.ok h1 (fun H' h'=>k v H' h1 h2 h3 h')
end
section
variable {B:ag} {L:List bV} {H:ag} {K:V→ag→Prop}
theorem FM {g:bW}:∀(l pre:List Int),g.v7 pre l=true→∀i∈l,0≤i∧i<g.aB
 |[],_,_,i,hi=>by cases hi
 |j::l,pre,h,i,hi=>by
  rw[bW.v7,Bool.and_eq_true] at h;have h1:=of_decide_eq_true h.1;rcases List.mem_cons.1 hi with rfl|hi
  ·exact⟨by omega,h1.2.1⟩
  ·exact FM l _ h.2 i hi
theorem Oc {g:bW} (h:g.cN=true):∀i∈g.bB,0≤i∧i<g.aB:=by
 unfold bW.cN at h;rw[Bool.and_eq_true,Bool.and_eq_true] at h;exact FM _ _ h.2.1
theorem DA {m:Gm} (h:az B H L) (hm:cY B L m) (hform:m.g.cN=true) (hg:m.g.In) (k:∀aK a H',Up m.g a (Ad m.g.cap.toNat) [] 0 0→a.bI≤0→a.aN=0→a=z9 m.g.aB.toNat m.g.ay m.g.bB→az B H' (cO aK a::L)→K (.tuple [.ak (some (aK,0)),.int .i64 0]) H'):cl 12 [.int .i64 m.g.aB,.int .i64 m.g.ay,.slice m.q m.g.bB.length m.c] H K:=by
 have hn:=bW.eE hform;have QF:=Oc hform;refine MR h m.g.aB m.g.ay hm.r hg.l (fun hno=>absurd ⟨by have:=hn.1;omega,hn.2.1,by have:=hn.2.2.1;omega,hn.2.2.2.1,QF⟩ hno) (fun _ aK H' h'=> ?_);exact k aK _ H' (T4 hform hg.l QF) (Int.le_refl _) rfl rfl h'
theorem Od:(Tj 1).cap=4:=by decide+kernel
def awA:Ob:=⟨[[],[],[],[]],[⟨0,[97],false⟩],R.iM⟩
def UU:Ob:=⟨[[97],[],[],[]],[],R.iM⟩
def awC:Ob:=⟨[[97],[],[],[]],[⟨0,[98],false⟩],R.iM⟩
theorem abb (q:Oq):Dt (Ad 4) 0 ⟨1,0,q,1,1,false,0,0,0,false⟩ [97]=(awA,⟨0,[],R.zero⟩):=rfl
theorem abd:mu awA=UU:=rfl
theorem abe (q:Oq):Dt UU 0 ⟨1,0,q,1,1,false,0,0,0,false⟩ [98]=(awC,⟨0,[],R.zero⟩):=rfl
theorem abf:Bv awC false=UU:=rfl
theorem abg:Dt UU 0 ⟨0,0,none,0,0,false,0,0,0,false⟩ []=(UU,⟨0,[97],R.zero⟩):=rfl
theorem X3 (h:az B H L) (b:UInt8):az B (H.alloc (.cells 5 [V.int .u8 b.toNat] false)) (BY (some (H.next,0)) 1 [b]::L):=
 h.CH (el:=5) (n:=1) (len:=1) (c:=1) (l:=[V.int .u8 b.toNat]) (cs:=ba [b]) rfl (jm _) (by omega) (by simp) rfl
theorem Oe (h:az B H L) (k:∀H',az B H' L→K (.bool true) H'):cl 10 [] H K:=by
 rw[Z3];refine v8 h 1 (by omega) (fun m H1 Oz hmc h1=> ?_);have hform:m.g.cN=true:=by rw[Oz];exact ER 1 (by omega)
 have hl:m.g.bB.length≤1000000:=by rw[Oz];decide
 have hg:=(bW.eE hform).in hl;have hcap:m.g.cap.toNat=4:=by rw[Oz,Od];rfl
 have hds:(([]:List Nat).length:Int)≤m.g.aF:=by have:=hg.s;simp;omega
 have Lp:∀L:List bV,cY B (DK m::L) m:=fun L=>DK.ok hmc
 have hv:m.v=.agg (cV m.g.aB m.g.ay m.g.aF m.q m.g.bB.length m.c):=rfl;rw[hv];simp only[il,eS,uz,uy,Bool.and_self,aA,f25,tC,lP,lQ,lR,lS,bK,cv,bU,cw];refine DA h1 (Lp L) hform hg (fun aK a H2 U0 ha0 QB _ h2=> ?_);rw[hcap] at U0;simp only[AJ,reduceIte,Nat.reduceEqDiff, ←hv];refine qF h2 (Lp L) hform hg U0 (by omega) (by omega) (ep:=1) ⟨by omega,by omega⟩ (by rw[QB];decide) (fun x u H3 hx U1 Li Qs he1 _ h3=> ?_)
 have hw:∀(H:ag) (b:Int),ag.wr (H.alloc (.cells 5 [V.int .u8 b] false)) H.2 0 0=true:=fun H b=>by
  rw[fY (ag.va _ _)];rfl
 simp only[AJ,reduceIte,Nat.reduceEqDiff,Cm.Bs,hw];have h4:fI B _ x m u (BY (some (H3.next,0)) 1 [97]::DK m::L):=(X3 h3 97).ord [1,1,1,1,1,1];refine zr ((Lp L).bg _) hg hform h4 U1 (by omega) hds Li 0 ⟨1,0,some (H3.next,0),1,1,false,0,0,0,false⟩ [97] rfl lC.Z2 ⟨Int.le_refl 0,by show (0:Int)≤_;omega⟩ (by decide) (fun u2 q2 n2 H5 hd2 kp2 U2 h5=> ?_);rw[abb] at U2;have h6:fI B H5 x m u2 (DK m::L):=(h5.ord [6,6]).drop.drop;have Yl:=(kp2.zI Li).1;simp only[AJ,reduceIte,Nat.reduceEqDiff,Rs.aI];refine T5 (Lp L) hg hform h6 U2 hds Yl (by decide) (fun u3 H7 OO kp3 U3 h7=> ?_);rw[abd] at U3;have ha3:=(kp3.zI Yl).1;simp only[AJ,reduceIte,Nat.reduceEqDiff,Cm.Bs,hw];have h8:fI B _ x m u3 (BY (some (H7.next,0)) 1 [98]::DK m::L):=(X3 h7 98).ord [1,1,1,1,1,1];refine zr ((Lp L).bg _) hg hform h8 U3 (by omega) hds ha3 0 ⟨1,0,some (H7.next,0),1,1,false,0,0,0,false⟩ [98] rfl lC.Z2 ⟨Int.le_refl 0,by show (0:Int)≤_;omega⟩ (by decide) (fun u4 q4 n4 H9 hd4 kp4 U4 h9=> ?_);rw[abe] at U4;have ha4:=(kp4.zI ha3).1;have hf4:u4.s.a.aN=0:=by rw[kp4.aN,kp3.aN,kp2.aN,Qs,QB]
 have xg:az B H9 (cO aK u4.s.a::DK m::L):=by
  have:=(h9.ord [6,6]).drop.drop.drop.drop.drop.drop.drop;rw[hx] at this;exact this
 obtain⟨t4,ht4,_⟩:=U4.t;have U5:=U4.leave u4.s.a rfl rfl ht4.on ht4.ee rfl;rw[abf] at U5;simp only[AJ,reduceIte,Nat.reduceEqDiff,Rs.aI];refine qF xg (Lp L) hform hg U5 (by omega) ha4 (ep:=2) ⟨by omega,by omega⟩ (by rw[hf4];decide) (fun x2 v H11 uH U6 ha6 hf6 he6 _ zK=> ?_);simp only[AJ,reduceIte,Nat.reduceEqDiff,Cm.Bs];refine zr (Lp L) hg hform zK U6 (by omega) hds ha6 0 ⟨0,0,none,0,0,false,0,0,0,false⟩ [] rfl (lC.nil _ _ _) ⟨Int.le_refl 0,by show (0:Int)≤_;omega⟩ (by decide) (fun v2 q6 n6 Y4 hd6 kp6 U7 h12=> ?_);have Jt:lz Y4 q6 [97]:=(h12.ord [6]).gQ;rw[abg] at U7;have hs1:eG Y4 q6 1=true:=Jt.eG;have oH:eH Y4 q6 1=jJ [97]:=Jt.eH;have e5:(Dt UU 0 ⟨0,0,none,0,0,false,0,0,0,false⟩ []).2=⟨0,[97],R.zero⟩:=rfl;rw[e5];have Ln:fI B Y4 x2 m v2 (DK m::L):=(h12.ord [6]).drop;simp only[AJ,reduceIte,Nat.reduceEqDiff,Rs.aI,Rs.n1,List.length_cons,List.length_nil,hs1,oH,pG];rw[KP Ln];have RI:(v2.s.f.ep:Int)=2:=by rw[kp6.ep,he6];rfl
 simp only[AJ,reduceIte,Nat.reduceEqDiff,RI];exact k Y4 (Ln.ord [6]).drop.drop.drop.drop.drop.drop.drop
end
theorem lu {y:Int} (h:IntKind.u8.min≤y∧y≤IntKind.u8.max):0≤y∧y≤255:=by
 simpa [IntKind.min,IntKind.max,IntKind.bits,IntKind.signed] using h
theorem X4:ej.P.underlying 5=some (.int .u8):=Tryz.underlying5
theorem FO:ej.P.cellsOf 5=1:=by kernel_rfl
theorem HE:ej.P.cellsOf 4=1:=by kernel_rfl
theorem FP:ej.P.cellsOf 36=1:=by kernel_rfl
theorem BN:ej.P.cellsOf 38=10:=by kernel_rfl
theorem T6 {H:ag} {n:Nat} {cs:List V} (h:Ae ej.P H n 38 cs):∃a:Ac,cs=a.cs∧a.ok H:=by
 obtain⟨hl,m,hf⟩:=K7 (P:=ej.P) Tryz.underlying38 h;rw[BN] at hl
 match cs,hl with
 |[a0,a1,a2,a3,a4,a5,a6,a7,a8,a9],_=>
  simp only[List.forall_mem_cons,FO,HE,FP,List.drop_succ_cons,List.drop_zero,List.take_succ_cons,List.take_zero] at hf;obtain⟨h0,h1,h2,h3,h4,h5,h6,h7,h8,h9,_⟩:=hf;obtain⟨y0,rfl,r0⟩:=pY (P:=ej.P) Tryz.underlying5 h0;obtain⟨y1,rfl,r1⟩:=pY (P:=ej.P) Tryz.underlying5 h1;obtain⟨y2,rfl,r2⟩:=pY (P:=ej.P) Tryz.underlying5 h2;obtain⟨y3,rfl,r3⟩:=pY (P:=ej.P) Tryz.underlying5 h3;obtain⟨y4,rfl,r4⟩:=pY (P:=ej.P) Tryz.underlying5 h4;obtain⟨y5,rfl,r5⟩:=pY (P:=ej.P) Tryz.underlying5 h5;obtain⟨y6,rfl⟩:=Js (P:=ej.P) Tryz.underlying4 h6;obtain⟨y7,rfl⟩:=Js (P:=ej.P) Tryz.underlying4 h7;obtain⟨q,len,cap,rfl,hs⟩:=FL (P:=ej.P) Tryz.underlying36 (Nat.le_of_ble_eq_true (by kernel_rfl)) h8;obtain⟨bs,rfl,hr,_,_⟩:=Oa X4 FO hs;obtain⟨y9,rfl,r9⟩:=pY (P:=ej.P) Tryz.underlying5 h9;exact⟨⟨y0,y1,y2,y3,y4,y5,y6,y7,q,cap,bs,y9⟩,rfl,lu r0,lu r1,lu r2,lu r3,lu r4,lu r5,hr,lu r9⟩
theorem Ac.dQ (a:Ac):aI Za a.cs=true:=rfl
theorem Ac.eW (a:Ac):Zb a.cs=a.cs:=rfl
theorem K9 {H:ag} {q:Oq} {len cap:Nat} (h:K6 ej.P H 38 q len cap):∃sc:List Ac,sc.length=len∧Rd H q (sc.map Ac.cs).flatten∧∀a∈sc,a.ok H:=by
 obtain⟨css,m,h1,h2,h3,_,_⟩:=Qi BN h
 have key:∀css:List (List V),(∀c∈css,c.length=10∧Ae ej.P H m 38 c)→∃sc:List Ac,sc.map Ac.cs=css∧∀a∈sc,a.ok H:=by
  intro css
  induction css with
  |nil=>exact fun _=>⟨[],rfl,fun a h=>by cases h⟩
  |cons c css ih=>
   intro h;obtain⟨sc,e1,e2⟩:=ih (fun x hx=>h x (List.mem_cons_of_mem _ hx));obtain⟨a,e3,e4⟩:=T6 (h c (List.mem_cons_self ..)).2;refine⟨a::sc,by rw[List.map_cons,e1,e3],fun x hx=> ?_⟩;rcases List.mem_cons.1 hx with rfl|hx
   ·exact e4
   ·exact e2 x hx
 obtain⟨sc,e1,e2⟩:=key css h3;exact⟨sc,by rw[←h1, ←e1,List.length_map],by rw[e1];exact h2,e2⟩
theorem Of (sc:List Ac):pH 10 (sc.map Ac.cs):=by
 intro c hc;obtain⟨a,_,rfl⟩:=List.mem_map.1 hc;exact⟨rfl,jD a.dQ⟩
theorem Qk {H:ag} {q:Oq} {sc:List Ac} (hr:Rd H q (sc.map Ac.cs).flatten) {i:Nat} (hi:i<sc.length):q.isSome=true∧H.inb (q.getD (0,0)).1 ((q.getD (0,0)).2+i*10) 10=true∧H.sub (q.getD (0,0)).1 ((q.getD (0,0)).2+i*10) 10=sc[i].cs∧H.inb (q.getD (0,0)).1 ((q.getD (0,0)).2+i*10+1) 1=true∧H.cell (q.getD (0,0)).1 ((q.getD (0,0)).2+i*10+1)=.int .u8 sc[i].kd:=by
 obtain⟨a,b,c⟩:=yu hr (Of sc) (by omega) (i:=i) (by simpa using hi);obtain⟨_,d,e⟩:=nY hr (Of sc) (i:=i) (k:=1) (by simpa using hi) (by omega);rw[List.getElem_map] at c e;exact⟨a,b,c,d,e⟩
theorem Ac.Rq (a:Ac) (r:R) (n:Int):0≤(a.cm r n).nw∧(a.cm r n).nw≤4294967295:=by
 show 0≤a.nw % 4∧a.nw % 4≤_
 omega
abbrev DO (x:Ui) (m:Gm) (u:Un) (L:List bV):List bV:=di x.iQ 93 (KO x m u)::dY x.zo u.ps::di x.fid 120 (OK x.aK m u.s.f x.mid x.pid)::sE x.mid u.s.f.pm::Bd x.pid u.s.f.po::cO x.aK u.s.a::L
theorem Rs.Zk (s:Rs) (q q':Oq) (n n':Nat):dZ (cP (V.aa (ae (s.cs q n) 2)) (V.aa (ae (s.cs q n) 3)) (V.aa (ae (s.cs q n) 4)) (V.aa (ae (s.cs q n) 5)) (V.aa (ae (s.cs q n) 6)) (V.aa (ae (s.cs q n) 7)) (V.aa (ae (s.cs q n) 8)) (V.aa (ae (s.cs q n) 9)) (V.aa (ae (s.cs q n) 10)) (V.aa (ae (s.cs q n) 11)) (V.aa (ae (s.cs q n) 12)) (V.av (ae (s.cs q n) 13))) (cP (V.aa (ae (s.cs q' n') 2)) (V.aa (ae (s.cs q' n') 3)) (V.aa (ae (s.cs q' n') 4)) (V.aa (ae (s.cs q' n') 5)) (V.aa (ae (s.cs q' n') 6)) (V.aa (ae (s.cs q' n') 7)) (V.aa (ae (s.cs q' n') 8)) (V.aa (ae (s.cs q' n') 9)) (V.aa (ae (s.cs q' n') 10)) (V.aa (ae (s.cs q' n') 11)) (V.aa (ae (s.cs q' n') 12)) (V.av (ae (s.cs q' n') 13)))=true:=R.eq_self s.r
section
variable {B:ag} {L:List bV} {H:ag} {K:V→ag→Prop} {x y:Ui} {m:Gm}
theorem FQ {a:Ar} {ia ib iu iv i:Nat} (hi:i<a.bs.length) (hd:∀d∈(a.bs[i]).pg,d.length≤1000000) {P:Nat} (hP:m.g.ay=(P:Int)) (ZJ:P≤1000000) {Kr:Am.St→Prop} {Ke:Nat→Am.St→Prop}:∀(k j:Nat) {H:ag},j+k=P→az B H (cO ia a::cO ib a::L)→(∀H',az B H' (cO ia a::cO ib a::L)→Ke 4 (St.mk (ab [(5,T.lp 5 0),(6,T.v (V.ak (some (ia,0)))),(8,T.v (V.ak (some (ib,0)))),(10,T.v (V.ak (some (iu,0)))),(12,T.v (V.ak (some (iv,0)))),(21,T.v (V.int .i64 (i:Int)))]) (ab [(5,ud m)]) H'))→lo 5 28 (St.mk (ab [(5,T.lp 5 0),(6,T.v (V.ak (some (ia,0)))),(8,T.v (V.ak (some (ib,0)))),(10,T.v (V.ak (some (iu,0)))),(12,T.v (V.ak (some (iv,0)))),(21,T.v (V.int .i64 (i:Int))),(22,T.v (V.int .i64 (j:Int)))]) (ab [(5,ud m)]) H) Kr Ke
 |0,j,H,hj,h,hk=>by
  unfold ud at*;rw[Mj];have e:¬(j:Int)<m.g.ay:=by omega
  rw[decide_eq_false e,ai];exact hk H h
 |k+1,j,H,hj,h,hk=>by
  unfold ud at*;rw[Mj];have e:(j:Int)<m.g.ay:=by omega
  rw[decide_eq_true e,aq];refine tL h hi hd j (fun q c H1 h1=> ?_);simp only[AJ,reduceIte,Nat.reduceEqDiff];refine tL (h1.ord [2]) hi hd j (fun q' c' H2 h2=> ?_);have r1:lz H2 q' (fp a i j).2:=h2.gQ;have r2:lz H2 q (fp a i j).2:=(h2.ord [2]).gQ;have e4:IntKind.i64.wrap ((j:Int)+1)=((j+1:Nat):Int):=aJ (by omega);simp only[AJ,reduceIte,Nat.reduceEqDiff,r1.eG,r1.eH,r2.eG,r2.eH,pG,e4];have ih:=FQ (iu:=iu) (iv:=iv) (Kr:=Kr) (Ke:=Ke) hi hd hP ZJ k (j+1) (by omega) ((h2.ord [0,1,1]).drop.drop) (by unfold ud;exact hk);unfold ud at ih;exact ih
theorem BP {a:Ar} {ia ib iu iv:Nat} (hB:(a.bs.length:Int)=m.g.aB) (hd:∀b∈a.bs,∀d∈b.pg,d.length≤1000000) {P:Nat} (hP:m.g.ay=(P:Int)) (ZJ:P≤1000000) (hB2:a.bs.length≤1000000) {Kr:Am.St→Prop} {Ke:Nat→Am.St→Prop}:∀(k i:Nat) {H:ag},i+k=a.bs.length→az B H (cO ia a::cO ib a::L)→(∀H',az B H' (cO ia a::cO ib a::L)→Ke 2 (St.mk (ab [(10,T.v (V.ak (some (iu,0)))),(12,T.v (V.ak (some (iv,0))))]) (ab []) H'))→lo 5 24 (St.mk (ab [(5,T.lp 5 0),(6,T.v (V.ak (some (ia,0)))),(8,T.v (V.ak (some (ib,0)))),(10,T.v (V.ak (some (iu,0)))),(12,T.v (V.ak (some (iv,0)))),(21,T.v (V.int .i64 (i:Int)))]) (ab [(5,ud m)]) H) Kr Ke
 |0,i,H,hi,h,hk=>by
  unfold ud at*;rw[Mi];have e:¬(i:Int)<m.g.aB:=by omega
  rw[decide_eq_false e,ai];exact hk H h
 |k+1,i,H,hi,h,hk=>by
  unfold ud at*;rw[Mi];have e:(i:Int)<m.g.aB:=by omega
  have bh:i<a.bs.length:=by omega
  rw[decide_eq_true e,aq];have e4:IntKind.i64.wrap ((i:Int)+1)=((i+1:Nat):Int):=aJ (by omega);have hp:=FQ (m:=m) (ia:=ia) (ib:=ib) (iu:=iu) (iv:=iv) (Kr:= ?_) (Ke:= ?_) bh (fun d hd'=>hd _ (List.getElem_mem bh) d hd') hP ZJ P 0 (by omega) h (fun H' h'=> ?_)
  ·unfold ud at hp;exact hp
  have hcg:aI wz (cV m.g.aB m.g.ay m.g.aF m.q m.g.bB.length m.c)=true:=rfl;have hco:pw (cV m.g.aB m.g.ay m.g.aF m.q m.g.bB.length m.c)=cV m.g.aB m.g.ay m.g.aF m.q m.g.bB.length m.c:=rfl;unfold ud;simp only[AJ,reduceIte,Nat.reduceEqDiff,hcg,hco,e4];have ih:=BP (iu:=iu) (iv:=iv) (Kr:=Kr) (Ke:=Ke) hB hd hP ZJ hB2 k (i+1) (by omega) h' hk;unfold ud at ih;exact ih
end
section
variable {B:ag} {L:List bV} {H:ag} {K:V→ag→Prop} {x y:Ui} {m:Gm}
theorem Rr {ia ib:Nat} (hm:cY B L m) (hg:m.g.In) (hform:m.g.cN=true) {n:Nat} (X5:1≤n) (hn2:n≤65536) (Zp:m.g.cap=(n:Int)) {q1:Oq} {c1:Nat} {sc:List Ac} (hsc:Rd B q1 (sc.map Ac.cs).flatten) (hok:∀a∈sc,a.ok B) {Kr:Am.St→Prop} {Ke:Nat→Am.St→Prop}:∀(k i:Nat) (u:Un) (o:Ob) (N:Nat) {H:ag},i+k=60→Ug m.g u o [] N 0→u.s.a.bI≤0→N+(k+1)*(9*CW)<281474976710656→fI B H x m u (DO y m u L)→(∀u' o' N' H',Ug m.g u' o' [] N' 0→fI B H' x m u' (DO y m u' L)→Ke 0 (St.mk (ab [(5,T.lp 5 0),(6,T.v (V.ak (some (ia,0)))),(8,T.v (V.ak (some (ib,0)))),(10,T.v (V.ak (some (x.iQ,0)))),(12,T.v (V.ak (some (y.iQ,0))))]) (ab [(5,ud m)]) H'))→lo 5 13 (St.mk (ab [(1,T.v (V.slice q1 sc.length c1)),(5,T.lp 5 0),(6,T.v (V.ak (some (ia,0)))),(8,T.v (V.ak (some (ib,0)))),(10,T.v (V.ak (some (x.iQ,0)))),(12,T.v (V.ak (some (y.iQ,0)))),(14,T.v (V.int .i64 (i:Int)))]) (ab [(5,ud m)]) H) Kr Ke
 |0,i,u,o,N,H,hi,U,ha,hN,hS,hk=>by
  unfold ud at*;rw[Mk]
  have e:(decide ((i:Int)<(sc.length:Int))&&decide ((i:Int)<60))=false:=by
   rw[←Bool.decide_and];exact decide_eq_false (by omega)
  rw[e,ai];exact hk u o N H U hS
 |k+1,i,u,o,N,H,hi,U,ha,hN,hS,hk=>by
  unfold ud at*;rw[Mk];rw[Nat.succ_mul] at hN;by_cases hlt:i<sc.length∧i<60
  case neg=>
   have e:(decide ((i:Int)<(sc.length:Int))&&decide ((i:Int)<60))=false:=by
    rw[←Bool.decide_and];exact decide_eq_false (by omega)
   rw[e,ai];exact hk u o N H U hS
  have e1:(i:Int)<(sc.length:Int):=by omega
  have e2:(i:Int)<60:=by omega
  have e3:0≤(i:Int):=by omega
  have e4:IntKind.i64.wrap ((i:Int)+1)=((i+1:Nat):Int):=aJ (by omega);have RA:=fun(H:ag) (h:fI B H x m u (DO y m u L))=>Qk (h.rd hsc) hlt.1
  obtain⟨s1,s2',Gf,_,_⟩:=RA H hS;have hmem:=List.getElem_mem hlt.1;have hac:=hok _ hmem;obtain⟨a,haa⟩:∃a,a=sc[i]'hlt.1:=⟨_,rfl⟩;rw[←haa] at Gf hac RA;have hds:(([]:List Nat).length:Int)≤m.g.aF:=by have:=hg.s;simp;omega
  have RV:∀K:V→ag→Prop,cl 15 [.ak (some (x.iQ,0))] H K=K (.agg o.r.cs) H:=fun K=>by rw[N3 hS,U.r]
  simp only[e1,e2,e3,decide_true,Bool.and_self,aq,s1,s2',Gf,Int.toNat_natCast,Ac.dQ,Ac.eW,aA,og,oh,oM];refine jn (fun S:Am.St=>S.1 15=some (T.v (V.int .i64 (a.ho % 4)))∧S.1 16=some (T.lp 16 0)∧S.2 16=some (aV.cells 41 (a.cm o.r n).cs)∧fI B S.3 x m u (DO y m u L)) (fun(S:Am.St) OG=> ?_) (fun Q hQ=> ?_)
  ·obtain⟨Al,Lo,OP,hS'⟩:=OG;generalize S.3=H2 at hS'⊢;simp only[Al,Lo,OP,AJ,reduceIte,Nat.reduceEqDiff,Cm.dQ,Cm.eW];have ZG:cY B (DO y m u L) m:=(((((hm.bg _).bg _).bg _).bg _).bg _).bg _;refine zr ZG hg hform hS' U (by omega) hds ha (a.ho % 4) (a.cm o.r n) a.bR (a.Rl _ _) (Ac.Ro hac _ _) (a.Rq _ _) (by omega) (fun v q3 n3 H3 hd kp U2 h3=> ?_);simp only[AJ,reduceIte,Nat.reduceEqDiff,Rs.aI];have h4:fI B H3 y m u (DO x m v (BY q3 n3 (Dt o (a.ho % 4) (a.cm o.r n) a.bR).2.d::L)):=h3.ord [7,7,7,7,7,7];have hmx:cY B (DO x m v (BY q3 n3 (Dt o (a.ho % 4) (a.cm o.r n) a.bR).2.d::L)) m:=((((((hm.bg _).bg _).bg _).bg _).bg _).bg _).bg _;refine zr hmx hg hform h4 U (by omega) hds ha (a.ho % 4) (a.cm o.r n) a.bR (a.Rl _ _) (Ac.Ro hac _ _) (a.Rq _ _) (by omega) (fun v' q4 n4 H4 hd' kp' U2' h5=> ?_);have YU:∀q n',V.aa (ae ((Dt o (a.ho % 4) (a.cm o.r n) a.bR).2.cs q n') 0)=(Dt o (a.ho % 4) (a.cm o.r n) a.bR).2.e:=fun _ _=>rfl
   obtain rfl:v'=v:=by rw[hd] at hd';cases hd';rfl
   have r1:lz H4 q4 (Dt o (a.ho % 4) (a.cm o.r n) a.bR).2.d:=(h5.ord [6]).gQ;have r2:lz H4 q3 (Dt o (a.ho % 4) (a.cm o.r n) a.bR).2.d:=(h5.ord [13]).gQ;simp only[AJ,reduceIte,Nat.reduceEqDiff,Rs.aI,Rs.n1,r1.eG,r1.eH,r2.eG,r2.eH,pG,Rs.Zk,YU,e4];have h6:fI B H4 x m v' (DO y m v' L):=(((h5.ord [6]).drop.ord [12]).drop).ord [6,6,6,6,6,6];have ih:=Rr (c1:=c1) (ia:=ia) (ib:=ib) (Kr:=Kr) (Ke:=Ke) hm hg hform X5 hn2 Zp hsc hok k (i+1) v' _ (N+9*CW) (by omega) U2 (kp.zI ha).1 (by omega) h6 (by unfold ud;exact hk);unfold ud at ih;exact ih
  ·have CP:∀(K:V→ag→Prop),(∀H',fI B H' x m u (DO y m u L)→K (.int .i64 (n:Int)) H')→cl 18 [.agg (cV m.g.aB m.g.ay m.g.aF m.q m.g.bB.length m.c)] H K:=fun K hK=>by
    have Uq:cY B (DO x m u (DO y m u L)) m:=(((((((((((hm.bg _).bg _).bg _).bg _).bg _).bg _).bg _).bg _).bg _).bg _).bg _).bg _;exact Ps (L:=DO x m u (DO y m u L)) hS Uq hg (fun H4 h4=>by rw[Zp];exact hK H4 h4)
   simp only[RV,AJ,reduceIte,Nat.reduceEqDiff,R.dQ,R.eW,s2',Gf,Ac.dQ,Ac.eW]
   repeat' apply And.intro
   all_goals
    refine CP _ (fun H4 h4=> ?_);obtain⟨_,t2',t3',_,_⟩:=RA H4 h4;simp only[AJ,reduceIte,Nat.reduceEqDiff,R.dQ,R.eW,og,oh,t2',t3',Ac.dQ,Ac.eW];refine T3 h4 hac o.r (n:=(n:Int)) (by omega) (by omega) (fun H5 h5=> ?_);simp only[AJ,reduceIte,Nat.reduceEqDiff,Cm.dQ,Cm.eW];exact hQ _ ⟨rfl,rfl,rfl,h5⟩
end
section
variable {B:ag} {L:List bV} {H:ag} {K:V→ag→Prop} {x:Ui} {m:Gm} {mid:Nat}
theorem Ag (h0:az H H []) (x0:Int) (q:Oq) (len cap:Nat) (l0:0≤x0) (g0:x0≤255) (hs:K6 ej.P H 38 q len cap):cl 5 [.int .u8 x0,.slice q len cap] H fun v _=>v=.bool true:=by
 obtain⟨sc,rfl,hsc,hok⟩:=K9 hs;rw[eq5];refine Oe h0 (fun H1 h1=> ?_);simp only[gP,cD,aA,Bool.not_true,ai];obtain⟨n0,rfl⟩:∃n0:Nat,x0=(n0:Int):=⟨x0.toNat,by omega⟩;refine v8 h1 n0 (by omega) (fun m H2 Oz hmc h2=> ?_);have hform:m.g.cN=true:=by rw[Oz];exact ER n0 (by omega)
 have hl:m.g.bB.length≤1000000:=by rw[Oz];unfold Tj;simp only;split<;>simp
 have An:=bW.eE hform;have hg:=An.in hl;have p4:=bW.nn hform;have hlt:=sx hg An;have hv:m.v=.agg (cV m.g.aB m.g.ay m.g.aF m.q m.g.bB.length m.c):=rfl;have Lp:∀L:List bV,cY H (DK m::L) m:=fun L=>DK.ok hmc
 rw[hv];simp only[il,eS,uz,uy,Bool.and_self,aA,f25,tC,lP,lQ,lR,lS,bK,cv,bU,cw];refine DA h2 (Lp []) hform hg (fun ia a H3 U0 ha0 QB hna h3=> ?_);simp only[AJ,reduceIte,Nat.reduceEqDiff];refine DA h3 ((Lp []).bg _) hform hg (fun ib a' H4 _ _ _ abJ h4=> ?_);obtain rfl:a'=a:=by rw[hna,abJ]
 simp only[AJ,reduceIte,Nat.reduceEqDiff, ←hv];refine qF (h4.ord [1]) ((Lp []).bg _) hform hg U0 (by omega) (by omega) (ep:=1) ⟨by omega,by omega⟩ (by rw[QB];decide) (fun x u H5 hx U1 Li Qs he1 abK h5=> ?_);simp only[AJ,reduceIte,Nat.reduceEqDiff];have h6:az H H5 (cO ib a'::DO x m u (DK m::[])):=az.ord h5 [6];have hmx:cY H (DO x m u (DK m::[])) m:=((((((Lp []).bg _).bg _).bg _).bg _).bg _).bg _;refine qF h6 hmx hform hg U0 (by omega) (by omega) (ep:=1) ⟨by omega,by omega⟩ (by rw[QB];decide) (fun y v H6 hy U2 _ _ _ abL h7=> ?_);obtain⟨sq1,e1,abM⟩:=abK;obtain⟨sq2,e2,Y5⟩:=abL;obtain rfl:sq1=sq2:=funext fun z=>by rw[e1,e2]
 obtain rfl:u=v:=by rw[abM] at Y5;cases Y5;rfl
 obtain⟨N,hN⟩:∃N:Nat,m.g.cap=(N:Int):=⟨m.g.cap.toNat,by omega⟩;have hN2:m.g.cap.toNat=N:=by omega
 rw[hN2] at U1;obtain⟨P,hP⟩:∃P:Nat,m.g.ay=(P:Int):=⟨m.g.ay.toNat,by have:=An.2.2.1;have:=An.2.1;omega⟩;have h8:fI H H6 x m u (DO y m u (DK m::[])):=az.ord h7 [6,6,6,6,6,6];simp only[AJ,reduceIte,Nat.reduceEqDiff,cond_true,cond_false];have hcg:aI wz (cV m.g.aB m.g.ay m.g.aF m.q m.g.bB.length m.c)=true:=rfl;have hco:pw (cV m.g.aB m.g.ay m.g.aF m.q m.g.bB.length m.c)=cV m.g.aB m.g.ay m.g.aF m.q m.g.bB.length m.c:=rfl;have hL:=Rr (m:=m) (x:=x) (y:=y) (ia:=ia) (ib:=ib) (c1:=cap) (L:=DK m::[]) (H:=H6) (Kr:= ?_) (Ke:= ?_) (Lp []) hg hform (n:=N) (by omega) (by omega) hN hsc hok 60 0 u (Ad N) 0 (by omega) U1 Li (by decide) h8 ?_
 ·unfold ud at hL;exact hL
 intro u' o' N' H8 U8 h9;unfold ud;simp only[AJ,reduceIte,Nat.reduceEqDiff,hcg,hco];obtain⟨t,ht,_⟩:=U8.t;have n0':=ht.ph.n;have n1':=An.1;have n2':=An.2.1;have n3':=An.2.2.1;have n4':=An.2.2.2.1;have xg:az H H8 (cO x.aK u'.s.a::cO y.aK u'.s.a::_):=az.ord h9 [5,10];have hB:=BP (m:=m) (iu:=x.iQ) (iv:=y.iQ) (Kr:= ?_) (Ke:= ?_) ht.ph.n (fun b hb d hd=>by rw[ht.ph.d b hb d hd];decide) hP (by omega) (by omega) u'.s.a.bs.length 0 (by omega) xg (fun H9 zK=> ?_)
 ·unfold ud at hB;rw[hx,hy] at hB;exact hB
 have h12:fI H H9 x m u' (DO y m u' (DK m::[])):=az.ord zK [2,2,2,2,2,0,1,1,1,1,1];have WT1:∀K:V→ag→Prop,cl 24 [.ak (some (x.iQ,0))] H9 K=K (.int .i64 (u'.ps.length:Int)) H9:=fun K=>BC h12
 have Ln:fI H H9 y m u' (DO x m u' (DK m::[])):=az.ord h12 [6,6,6,6,6,6];have WT2:∀K:V→ag→Prop,cl 24 [.ak (some (y.iQ,0))] H9 K=K (.int .i64 (u'.ps.length:Int)) H9:=fun K=>BC Ln
 simp only[AJ,reduceIte,Nat.reduceEqDiff,WT1,WT2]
end
theorem nN:ownKnob Tryz.prog.godebug=none:=by kernel_rfl
theorem abh:laidOutB Tryz.prog=true:=by kernel_rfl
theorem T7 {l:List TypeId} (h:(l.all fun t=>Tryz.prog.readableRec t&&Nat.blt t Tryz.prog.types.size)=true):∀t∈l,ej.P.readableRec t=true∧t<ej.P.types.size:=by
 intro t ht;have h1:=List.all_eq_true.1 h t ht;rw[Bool.and_eq_true] at h1;exact⟨h1.1,Nat.le_of_ble_eq_true h1.2⟩
end Go.Proofs.YtlgdkndamddpkaaGreat
end
