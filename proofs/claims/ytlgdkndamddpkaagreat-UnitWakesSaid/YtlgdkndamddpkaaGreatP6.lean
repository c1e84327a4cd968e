/- Part 6 of the texts behind the law UnitWakes: what its row needs (an abstract machine, its equations, and what the program computes). -/
import Derived.Below
import Derived.ChangeSame
import Derived.WideKeyArgs
import Derived.OpenShut
import Derived.ProofKit
import Derived.Test.YtlgdkndamddpkaaGreatP5
set_option maxRecDepth 100000
set_option linter.unusedSimpArgs false
set_option linter.unusedVariables false
set_option linter.unusedSectionVars false
section
namespace Go.Proofs.YtlgdkndamddpkaaGreat
open Go.Am
structure Up (g:bZ) (a:Ar) (o:Ob) (ds:List Nat) (N b:Nat):Prop where
 t:∃t,Cr g a (uw o.su t) ds N∧vz t b o.r
 on:a.off=false
 dC:a.dC=.no
 boots:a.boots=(b:Int)
 ps:o.ps=[]
 ook:o.ok
 len:(o.su.length:Int)=g.cap
section
variable {g:bZ} {u:Un} {o o':Ob} {a:Ar} {ds:List Nat} {N b:Nat}
theorem TU (hg:g.In) (hform:g.cM=true) (hc:g.cap<65000) (h:Ug g u o ds N b) (hN:N+9*CW<281474976710656):∃r,UN g u=some r∧Kp u.s r.1.s (9*CW)∧((r.2=0∧Ug g r.1 (mf o) ds (N+9*CW) b)∨(r.2=10∧g.aG<r.1.s.f.po.count 3∧∃j,j≤o.ps.length∧Ug g r.1 (eu o j) ds (N+9*CW) b)∨(r.2=9∧vA g r.1.s.a o (mf o) ds (N+9*CW) b)):=by
 obtain⟨s,ps,r,dn⟩:=u;have hr:=h.r;have hps:=h.ps;have hdn:=h.dn;simp only at hr hps hdn;subst hr hps hdn;obtain⟨t,ht,htb⟩:=h.t;have hlen:=h.len;have hle:=h.ook.F6;have h8:o.ps.length*CW≤8*CW:=Nat.mul_le_mul_right _ hle;obtain⟨r,h1,h2,h3⟩:=qD hg hform hc o.ps s o.su N ht hlen h.ook.jS h.pg (by omega);unfold UN;rw[Jp h];simp only[ne_eq,not_true_eq_false,if_false];rw[h1];simp only;rcases h3 with⟨e1,e2,h3⟩|⟨e1,h4,j,hj,e2,h3⟩|⟨e1,j,hj,h3⟩
 ·rw[e1,e2];refine⟨_,rfl,h2.mono (by omega),.inl ⟨rfl, ?_⟩⟩
  exact {
   t:=⟨t,h3.mono (by omega),htb⟩,boots:=h2.boots.trans h.boots,ps:=rfl,r:=rfl,dn:=rfl,ook:=zm h.ook
   len:=by show (((eD o.su o.ps).length:Nat):Int)=_;rw[dN];exact hlen
   cd:=fun q hq=>by cases hq}
 ·rw[e1,e2];exact⟨_,rfl,h2.mono (by omega),.inr (.inl ⟨rfl,h4,j,hj,h.step htb (h3.mono (by omega)) h2.boots⟩)⟩
 ·refine⟨_,rfl,h2.mono (by omega),.inr (.inr ⟨e1,h3.off,h3.dC,h2.boots.trans h.boots,fun cut=> ?_⟩)⟩;rcases h3.cw cut with h4|h4
  ·exact⟨o,.inl rfl,j,by omega,t,h4.mono (by omega),htb⟩
  ·exact⟨o,.inl rfl,j+1,by omega,t,h4.mono (by omega),htb⟩
theorem N0 {x:Int} (h0:0≤x) (h1:x<4611686018427387904):oE (x+1)=x+1:=bD (by omega) (by omega)
theorem vA.restart (h:vA g a o o' ds N b) (ho:o.ok) (ho':o'.ok) (hl:(o.su.length:Int)=g.cap) (hl':(o'.su.length:Int)=g.cap) (hb:b<2147483647) (cut:Int):∃q,(q=o∨q=o')∧∃i,i≤8∧Up g (bQ a cut) (wb (eu q i) true) ds N (b+1):=by
 obtain⟨q,hq,i,hi,t,h1,h2⟩:=h.cw cut;refine⟨q,hq,i,hi, ?_⟩;have hqo:q.ok:=by rcases hq with rfl|rfl<;>assumption
 have hql:(q.su.length:Int)=g.cap:=by rcases hq with rfl|rfl<;>assumption
 have OF:(pG a cut).boots=a.boots:=by
  unfold pG;split
  ·rfl
  ·rfl
  ·split
   ·split<;>rfl
   ·rfl
  ·split
   ·rfl
   ·split
    ·rfl
    ·split<;>rfl
 exact {
  t:=⟨t,h1,h2.XZ⟩
  on:=rfl
  dC:=rfl
  boots:=by
   show oE (a.boots+1)=_
   rw[h.boots,N0 (by omega) (by omega)];rfl
  ps:=rfl
  ook:=Di (Jo hqo i) true
  len:=by show (((eD q.su (q.ps.take i)).length:Nat):Int)=_;rw[dN];exact hql}
theorem Ug.restart (h:Ug g u o ds N b) (hb:b<2147483647) (cut:Int):Up g (bQ u.s.a cut) (wb o true) ds N (b+1):=by
 obtain⟨t,ht,htb⟩:=h.t;obtain⟨h1,h2⟩:=He ht.dC cut
 exact {
  t:=⟨t,ht.cr.congr h1 h2,htb.XZ⟩
  on:=rfl
  dC:=rfl
  boots:=by
   have hw:pG u.s.a cut=u.s.a:=by unfold pG;rw[ht.dC]
   show oE ((u.s.a).boots+1)=_
   rw[h.boots,N0 (by omega) (by omega)];rfl
  ps:=rfl
  ook:=Di h.ook true
  len:=h.len}
theorem Ug.leave (h:Ug g u o ds N b) (a:Ar) (hb:a.bs=u.s.a.bs) (hp:a.aB=u.s.a.aB) (ho:a.off=false) (hw:a.dC=.no) (OF:a.boots=u.s.a.boots):Up g a (wb o false) ds N b:=by
 obtain⟨t,ht,htb⟩:=h.t
 exact {
  t:=⟨t,ht.cr.congr hb hp,htb⟩
  on:=ho
  dC:=hw
  boots:=OF.trans h.boots
  ps:=rfl
  ook:=Di h.ook false
  len:=h.len}
theorem Up.mount (h:Up g a o ds N b) (hg:g.In) (hc:0≤g.cap∧g.cap<65000) {ep:Nat} (he:1≤ep∧ep<281474976710656) (hf:a.aK≤ep) (hb:b<2147483648) (sq:Int→Nat):Kp (FS.wU g a ep) (cx g sq a ep).1 0∧(((cx g sq a ep).2=0∧∃v,uM g (cx g sq a ep).1=some v∧v.s=(cx g sq a ep).1∧Ug g v o ds N b)∨((cx g sq a ep).2=9∧vA g (cx g sq a ep).1.a o o ds N b)):=by
 obtain⟨t,U9,htb⟩:=h.t;have abC:=(U9.wU hg hc h.on h.dC he hf).ok;have kp:=KA hg (sq:=sq) abC;have hlen:=h.len;refine⟨kp, ?_⟩;rcases U9.mount hg hc h.on h.dC he hf sq with⟨h1,h2⟩|⟨h1,h2⟩
 ·left;refine⟨h1, ?_⟩;obtain⟨x,hx1,ux,_⟩:=h2.mZ g.cap.toNat;have hcap:g.cap.toNat=o.su.length:=by omega
  have hx3:x.data=t:=by rw[ux,hcap,P6]
  have OF:(cx g sq a ep).1.a.boots=(b:Int):=kp.boots.trans h.boots;have cd:∀p∈o.ps,p.cd=true→p.data=[]:=fun p hp=>by rw[h.ps] at hp;cases hp
  unfold uM;rw[hx1];simp only;rcases htb with⟨e1,e2⟩|⟨r0,b0,e1,e2,e3,e4⟩
  ·rw[if_pos (by rw[hx3,e1];rfl)];exact⟨_,rfl,rfl,⟨t,h2,.inl ⟨e1,e2⟩⟩,OF,h.ps.symm,e2.symm,rfl,h.ook,hlen,cd⟩
  ·rw[if_neg (by rw[hx3,e1,uk];omega),hx3,e1,e2.aa5 (by omega)];refine⟨_,rfl,rfl,⟨t,h2,.inr ⟨r0,b0,e1,e2,e3,e4⟩⟩,OF,h.ps.symm, ?_,rfl,h.ook,hlen,cd⟩;show oo r0 (b0:Int) _=o.r
   rw[OF,e4]
 ·right;refine⟨h1,h2.off,h2.dC,kp.boots.trans h.boots,fun cut=> ?_⟩;have h3:=(h2.cw cut).elim id id;exact⟨o,.inl rfl,0,by omega,t,h3,htb⟩
end
end Go.Proofs.YtlgdkndamddpkaaGreat
end
section
namespace Go.Am
open Go.ChangeShapes Go.WideShapes Go.RowKit
def Hx (W:World):Value→V
 | .bool b=>.bool b
 | .int k n=>.int k n
 | .string s=>.ea s
 | .pointer none=>.aj none
 | .pointer (some ⟨b,o,none⟩)=>if b<W.heap.size then .aj (some (b,o)) else .cd
 | .slice none n c=>.slice none n c
 | .slice (some a) 0 0=>.slice (some (a.block,a.off)) 0 0
 | .slice (some ⟨b,o,none⟩) n c=>if b<W.heap.size then .slice (some (b,o)) n c else .cd
 | .map none=>.map none
 | .nilFunc=>.nilFunc
 | .nilIface=>.nilIface
 | .iface t _=>.iface t .cd
 |_=>.cd
def Jq (W:World):Value→V
 | .agg cs=>if∀c∈cs.toList.map (Hx W),c.one=true then .agg (cs.toList.map (Hx W)) else .cd
 |v=>Hx W v
def P9 (W:World):da:=fun b=>if b<W.heap.size then some b else none
def gL (W:World):af where
 get:=fun b=>match W.heap[b]? with
  |some (.cells cs e _)=>some (.cells e (cs.toList.map (Hx W)) true)
  |_=>none
 next:=W.heap.size
theorem Dp {W:World} {b:Nat} (h:b<W.heap.size):P9 W b=some b:=if_pos h
theorem Jr (W:World) (x:Value):VR (P9 W) (Hx W x) x:=by
 unfold Hx;split
 ·exact .bool _
 ·exact .int _ _
 ·exact .ea _
 ·exact .B1
 ·split
  ·rename_i h;exact .aj (Dp h)
  ·exact .cd _
 ·exact .mD _ _
 ·exact .oR _ _
 ·split
  ·rename_i h;exact .slice _ _ (Dp h)
  ·exact .cd _
 ·exact .xB
 ·exact .nilFunc
 ·exact .nilIface
 ·exact .iface _ (.cd _)
 ·exact .cd _
theorem FB (W:World) (l:List Value):ej (P9 W) (l.map (Hx W)) l:=by
 refine⟨by simp,fun i x y hx hy=> ?_⟩;rw[List.getElem?_map,hy,Option.map_some,Option.some.injEq] at hx;subst hx;exact Jr W y
theorem Qa (W:World) (x:Value):VR (P9 W) (Jq W x) x:=by
 unfold Jq;split
 ·split
  ·rename_i cs h;exact .uJ h (FB W _)
  ·exact .cd _
 ·exact Jr W _
theorem N1 (W:World) (l:List Value):ej (P9 W) (l.map (Jq W)) l:=by
 refine⟨by simp,fun i x y hx hy=> ?_⟩;rw[List.getElem?_map,hy,Option.map_some,Option.some.injEq] at hx;subst hx;exact Qa W y
theorem ly {W:World} {b:Nat} {o:Obj} (h:(gL W).get b=some o):∃cs e fz,W.heap[b]? =some (.cells cs e fz)∧o=.cells e (cs.toList.map (Hx W)) true:=by
 simp only[gL] at h;split at h
 ·rename_i cs e fz hb;cases h;exact⟨cs,e,fz,hb,rfl⟩
 ·cases h
theorem K6 (W:World) (ZC:∀g∈Ly,g<W.heap.size):HR (P9 W) (gL W) W where
 gl:=fun g hg=>Dp (ZC g hg)
 vK:=fun b o h=>by
  obtain⟨cs,e,fz,hb,rfl⟩:=ly h
  have hlt:b<W.heap.size:=by
   rcases Nat.lt_or_ge b W.heap.size with h|h
   ·exact h
   ·rw[Array.getElem?_eq_none h] at hb;cases hb
  refine⟨b,Dp hlt,cs,fz,hb,FB W _, ?_, ?_⟩
  ·intro h;cases h
  ·intro h;cases h
 inj:=fun id id' o o' b h _ hr _ _=>by
  obtain⟨cs,e,fz,hb,rfl⟩:=ly h;cases hr
 lt:=fun id b h=>by
  unfold P9 at h;split at h
  ·rename_i hlt;cases h;exact⟨hlt,hlt⟩
  ·cases h
theorem FC {W W':World} {H':af} {ρ':da} (h:kQ (gL W) (P9 W) W H' ρ' W'):Below W.heap.size W W' where
 os:=h.os
 tape:=h.tape
 output:=h.output
 size:=h.size
 block:=fun k hk=>h.frame k hk (by
  rintro⟨id,o,h1,h2,_⟩;obtain⟨cs,e,fz,hb,rfl⟩:=ly h1
  cases h2)
def zG (P:Program) (H:af):Nat→TypeId→List V→Prop
 |0,_,_=>False
 |n+1,t,cs=>match P.underlying t with
  |some .bool=>∃b,cs=[.bool b]
  |some (.int k)=>∃x,cs=[.int k x]∧k.min≤x∧x≤k.max
  |some .string=>∃s,cs=[.ea s]∧s.size≤maxLen
  |some (.slice e)=>0<P.cellsOf e→∃p len cap,cs=[.slice p len cap]∧len≤cap∧cap≤maxLen∧(p=none→cap=0)∧
   ∀i,i<cap→∃id off,p=some (id,off)∧id<H.next∧H.inb id (off+i*P.cellsOf e) (P.cellsOf e)=true∧zG P H n e (H.sub id (off+i*P.cellsOf e) (P.cellsOf e))
  |some (.struct fs)=>cs.length=P.cellsOf t∧∀f∈fs.toList,zG P H n f.type ((cs.drop f.offset).take (P.cellsOf f.type))
  |some (.array m e)=>cs.length=P.cellsOf t∧∀i,i<m→zG P H n e ((cs.drop (i*P.cellsOf e)).take (P.cellsOf e))
  |_=>True
theorem FD {α β:Type} {f:α→Option β}:∀{l:List α} {r:List β},l.mapM f=some r→r.length=l.length∧∀(i:Nat) x,l[i]? =some x→∃y,r[i]? =some y∧f x=some y
 |[],r,h=>by simp at h;subst h;exact⟨rfl,fun i x hx=>by simp at hx⟩
 |a::l,r,h=>by
  rw[List.mapM_cons] at h
  cases ha:f a with
  |none=>simp [ha] at h
  |some y=>
   cases hl:l.mapM f with
   |none=>simp [ha,hl] at h
   |some m=>
    simp [ha,hl] at h;subst h;obtain⟨h1,h2⟩:=FD hl;refine⟨by simp [h1],fun i x hx=> ?_⟩
    cases i with
    |zero=>simp at hx;subst hx;exact⟨y,rfl,ha⟩
    |succ i=>exact h2 i x (by simpa using hx)
theorem Bx {W:World} {aU n:Nat} {a:Addr} {cs:List Value} (h:W.cells? aU a n=some cs) (hn:0<n):a.spot=none∧a.block<W.heap.size∧(gL W).inb a.block a.off n=true∧(gL W).sub a.block a.off n=cs.map (Hx W):=by
 unfold World.cells? at h;split at h;rotate_left
 ·cases h
 obtain⟨hlen,hall⟩:=FD h;simp only[List.length_range] at hlen;have hcell:∀i,i<n→∃y,cs[i]? =some y∧W.cell? (a.add i)=some y:=fun i hi=>hall i i (by simp [hi])
 obtain⟨y0,_,h0⟩:=hcell 0 hn
 have Oo:∃cs' e fz,W.heap[a.block]? =some (.cells cs' e fz)∧a.spot=none:=by
  simp only[World.cell?,Addr.add] at h0;revert h0
  cases hb:W.heap[a.block]? with
  |none=>intro h0;simp [hb] at h0
  |some o=>
   cases o with
   |cells cs' e fz=>
    intro h0
    cases hsp:a.spot with
    |none=>exact⟨cs',e,fz,rfl,rfl⟩
    |some s=>simp [hb,hsp] at h0
   |_=>intro h0;simp [hb] at h0
 obtain⟨cs',e,fz,hb,hsp⟩:=Oo
 have hlt:a.block<W.heap.size:=by
  rcases Nat.lt_or_ge a.block W.heap.size with h|h
  ·exact h
  ·rw[Array.getElem?_eq_none h] at hb;cases hb
 have n5:(gL W).get a.block=some (.cells e (cs'.toList.map (Hx W)) true):=by simp only[gL,hb]
 have zH:∀i,i<n→∃y,cs[i]? =some y∧cs'[a.off+i]? =some y:=by
  intro i hi;obtain⟨y,h1,h2⟩:=hcell i hi;refine⟨y,h1, ?_⟩
  have:a.add i=⟨a.block,a.off+i,none⟩:=by
   obtain⟨b,o,s⟩:=a;cases hsp;exact fN _ _ _
  rw[this,qd hb] at h2;exact h2
 have hle:a.off+n≤cs'.size:=by
  obtain⟨y,_,h2⟩:=zH (n-1) (by omega);rcases Nat.lt_or_ge (a.off+(n-1)) cs'.size with h|h
  ·omega
  ·rw[Array.getElem?_eq_none h] at h2;cases h2
 refine⟨hsp,hlt,by simp [af.inb,n5];omega, ?_⟩;simp only[af.sub,af.cs,n5];apply List.ext_getElem?;intro i;rw[List.getElem?_take,List.getElem?_drop];by_cases hi:i<n
 ·rw[if_pos hi];obtain⟨y,h1,h2⟩:=zH i hi;simp [h1,h2]
 ·rw[if_neg hi];rw[List.getElem?_eq_none];simp;omega
section
variable {H:Type} {enc:TypeId×Value→H} {P:Program} {W:World} {aU:Nat} {held:Bool}
theorem K7 {k:IntKind} {n:Int} (h:(Lit.int k n).wf=true):k.min≤n∧n≤k.max:=by
 simpa only[Lit.wf,Bool.and_eq_true,decide_eq_true_eq] using h
theorem K8 {a:Addr} {n c:Nat} (hs:a.spot=none) (hb:a.block<W.heap.size):Hx W (.slice (some a) n c)=.slice (some (a.block,a.off)) n c:=by
 obtain⟨b,o,s⟩:=a;simp only at hs hb;subst hs
 cases n with
 |zero=>cases c with
  |zero=>rfl
  |succ c=>exact if_pos hb
 |succ n=>exact if_pos hb
theorem Qb:∀(fuel:Nat) (t:TypeId) (cs:List Value) (d:DataW H) (ps:List MemPlace),DataW.trod enc P W aU (fun _=>true) held fuel t cs=some (d,ps)→zG P (gL W) fuel t (cs.map (Hx W)):=by
 intro fuel
 induction fuel with
 |zero=>intro t cs d ps h;simp [DataW.trod] at h
 |succ n ih=>
  intro t cs d ps h;unfold zG;split
  ·rename_i hu;obtain⟨b,rfl,_⟩:=DataW.trod_bool hu h;exact⟨b,rfl⟩
  ·rename_i k hu;obtain⟨x,rfl,_,hw⟩:=DataW.trod_int hu h;exact⟨x,rfl,K7 hw⟩
  ·rename_i hu;obtain⟨s,rfl,_,hs⟩:=DataW.trod_string hu h;exact⟨s,rfl,hs⟩
  ·rename_i e hu;intro hpos;rcases DataW.trod_slice hu h with⟨rfl,_⟩|⟨a,len,cap,elems,rest,m,hm,rfl,_,_,hle,UB,hel,hE,hR,_⟩
   ·exact⟨none,0,0,rfl,Nat.le_refl _,Nat.zero_le _,fun _=>rfl,fun i hi=>by omega⟩
   ·cases hm;obtain⟨hrl,hR⟩:=hR rfl
    have hall:∀i,i<cap→∃cs' y,W.cells? aU (a.add (i*P.cellsOf e)) (P.cellsOf e)=some cs'∧DataW.trod enc P W aU (fun _=>true) held n e cs'=some y:=by
     intro i hi;by_cases hl:i<len
     ·have h1:=hE i hl;rw[List.getElem?_eq_getElem (by omega),Option.bind_eq_some_iff] at h1;obtain⟨cs',h1,h2⟩:=h1;exact⟨cs',_,h1,h2⟩
     ·have h1:=hR (i-len) (by omega);rw[List.getElem?_eq_getElem (by omega),Option.bind_eq_some_iff,show len+(i-len)=i by omega] at h1;obtain⟨cs',h1,h2⟩:=h1;exact⟨cs',_,h1,h2⟩
    by_cases hc:cap=0
    ·subst hc;have:len=0:=by omega
     subst this;refine⟨some (a.block,a.off),0,0, ?_,Nat.le_refl _,Nat.zero_le _,(fun _=>rfl),fun i hi=>by omega⟩;obtain⟨b,o,s⟩:=a;cases s<;>rfl
    ·obtain⟨cs0,y0,h0,_⟩:=hall 0 (by omega);have hz:a.add (0*P.cellsOf e)=a:=by simp [Addr.add]
     rw[hz] at h0;obtain⟨hs,hb,_,_⟩:=Bx h0 hpos;refine⟨some (a.block,a.off),len,cap,by rw[List.map_cons,List.map_nil,K8 hs hb],hle,UB,fun h=>(by cases h),fun i hi=> ?_⟩;obtain⟨cs',y,h1,h2⟩:=hall i hi
     have abD:a.add (i*P.cellsOf e)=⟨a.block,a.off+i*P.cellsOf e,none⟩:=by
      obtain⟨b,o,s⟩:=a;cases hs;exact fN _ _ _
     rw[abD] at h1;obtain⟨_,_,h3,h4⟩:=Bx h1 hpos;refine⟨a.block,a.off,rfl,hb,h3, ?_⟩;rw[h4];exact ih e cs' y.1 y.2 h2
  ·rename_i fs hu;obtain⟨xs,m,hm,_,hl,hxl,hF⟩:=DataW.trod_struct hu h;cases hm;refine⟨by simpa using hl,fun f hf=> ?_⟩;obtain⟨i,hi,Ql⟩:=List.getElem_of_mem hf
   have hi':fs[i]? =some f:=by
    rw[←Array.getElem?_toList,List.getElem?_eq_getElem hi,Ql]
   have h1:=hF i f hi';have T1:i<xs.length:=by rw[hxl];simpa using hi
   rw[List.getElem?_eq_getElem T1] at h1;have:=ih _ _ _ _ h1;rw[List.map_take,List.map_drop] at this;exact this
  ·rename_i m e hu;obtain⟨xs,m',hm,_,hl,hxl,hF⟩:=DataW.trod_array hu h;cases hm;refine⟨by simpa using hl,fun i hi=> ?_⟩;have h1:=hF i hi;rw[List.getElem?_eq_getElem (by omega)] at h1;have:=ih _ _ _ _ h1;rw[List.map_take,List.map_drop] at this;exact this
  ·trivial
theorem Qc {x:Value} (h:∀cs,x≠ .agg cs):Jq W x=Hx W x:=by
 unfold Jq;split
 ·exact absurd rfl (h _)
 ·rfl
end
section
variable {H:Type} {enc:TypeId×Value→H} {P:Program}
theorem Aa {f:Func} {s:ChangeSpec} {gb fresh handsOn again:Bool} {W W':World} {args:Array Value} {v:Value} {ds gs:List (DataW H)} {before pa pv:List MemPlace} (hW:DataW.Whole enc P f.params.toList s.vars gb W args.toList ds gs before) (hres:∀(b:Nat) (sp:Nat→Bool) (hd:Bool),DataW.TrodAll enc P W' b sp hd f.resultTypes.toList (v.resultList f.resultTypes.size) (s.fn H (ds++gs)).results []) (hargs:∀sp:Nat→Bool,(∀p∈before,sp p.block=true)→DataW.TrodAll enc P W' 0 sp true f.params.toList args.toList (s.fn H (ds++gs)).args pa) (hvars:∀sp:Nat→Bool,(∀p∈before,sp p.block=true)→DataW.TrodVars enc P W' sp s.vars (s.fn H (ds++gs)).vars pv) (hps:before=pa++pv) (hb:Below W.heap.size W W') (hok:∀(j:Nat) (t:TypeId) (r:Value),f.resultTypes[j]? =some t→(v.resultList f.resultTypes.size)[j]? =some r→Value.okWide P W' .any 0 t r):s.post enc P f gb fresh handsOn again W args v W':=by
 have hlt:∀p∈before,p.block<W.heap.size:=fun p hp=>hW.lt p hp
 have hold:∀p∈before,(fun b=>decide (b<W.heap.size)) p.block=true:=fun p hp=>by simpa using hlt p hp
 refine⟨ds,gs,before,[],pa,pv,hW,hres _ _ _,hargs _ hold,hvars _ hold,World.keptBut_mono (fun p hp=>⟨hp, ?_⟩) (hb.frame (· ∈before)),fun _=> ?_⟩
 ·rw[hps,List.mem_append] at hp;exact Or.inr hp
 ·obtain⟨_,_,_,_,_,hz,hn⟩:=hW;refine⟨hok,_,_,([]++pa)++pv,⟨[]++pa,pv,trodAll_append (hargs _ (fun _ _=>rfl)) (hres _ _ _),hvars _ (fun _ _=>rfl),rfl, ?_, ?_⟩, ?_⟩
  ·intro b off hp;have hin:MemPlace.cell b off∈before:=by rw[hps];simpa using hp
   rw[hb.frozen (hlt _ hin)];exact hz b off hin
  ·intro ha;have:=hn ha;rw[hps] at this;simpa using this
  ·intro p hp _;rw[hps];simpa using hp
end
section
variable {H:Type} {enc:TypeId×Value→H} {P:Program} {W:World}
theorem rj (hl:laidOutB P=true) {W':World} (hb:Below W.heap.size W W') {sp:Nat→Bool}:∀{ts:List TypeId} {vs:List Value} {ds:List (DataW H)} {p:List MemPlace},(∀t∈ts,P.readableRec t=true∧t<P.types.size)→(∀x∈p,sp x.block=true)→(∀x∈p,x.block<W.heap.size)→DataW.TrodAll enc P W 0 (fun _=>true) true ts vs ds p→DataW.TrodAll enc P W' 0 sp true ts vs ds p
 |[],vs,ds,p,_,_,_,h=>by
  obtain⟨rfl,rfl,rfl⟩:=trodAll_nil h;exact trodAll_mk0
 |t::ts,vs,ds,p,ht,hs,hlt,h=>by
  obtain⟨v,vs1,d,ds1,a,b,rfl,rfl,rfl,h1,h2⟩:=trodAll_cons h;refine trodAll_cons_mk ?_ (rj hl hb (fun u hu=>ht u (List.mem_cons_of_mem _ hu)) (fun x hx=>hs x (List.mem_append_right _ hx)) (fun x hx=>hlt x (List.mem_append_right _ hx)) h2);refine WideElems.Trod_stays hl (ht t (List.mem_cons_self ..)).1 (ht t (List.mem_cons_self ..)).2 h1 (fun x hx=> ?_) (fun x hx=>hs x (List.mem_append_left _ hx));have hx':=hlt x (List.mem_append_left _ hx)
  cases x with
  |cell b o=>exact hb.cell (p:=⟨b,o,none⟩) hx'
  |map b=>exact hb.block b hx'
theorem pU {t:TypeId} {v:Value} {d:DataW H} {p:List MemPlace} (h:DataW.Trod enc P W 0 (fun _=>true) true t v d p):∃n,zG P (gL W) n t (v.cells.toList.map (Hx W)):=by
 obtain⟨n,hn⟩:=h;exact⟨n,Qb n t _ _ _ hn⟩
theorem FE {E:jU} (hX:jF E) (hm:E.P.follows .mixedOrders=true) (hl:laidOutB E.P=true) {f:FuncId} {fn:Func} {s:ChangeSpec} {gb fresh handsOn again:Bool} {args:Array Value} {ds gs:List (DataW H)} {before:List MemPlace} {tb:TypeId} (hb:E.P.underlying tb=some .bool) (hpar:∀t∈fn.params.toList,E.P.readableRec t=true∧t<E.P.types.size) (hres:fn.resultTypes= #[tb]) (hv:s.vars=[]) (hs:∀ds:List (DataW H),ds.length=fn.params.size→s.fn H ds={results:=[.lit (.bool true)],args:=ds}) (hW:DataW.Whole enc E.P fn.params.toList s.vars gb W args.toList ds gs before) (hc:(p8 E).call f (args.toList.map (Jq W)) (gL W) fun v _=>v=.bool true) (ZC:∀g∈Ly,g<W.heap.size:=by intro g hg;cases hg):
 Calls E.P f args W fun e W'=>∃v,e=.returned v∧s.post enc E.P fn gb fresh handsOn again W args v W':=by
 refine((AD hX hm).call _ _ _ _ hc (P9 W) W args (K6 W ZC) (N1 W _)).mono ?_;rintro e W' ⟨v,v',H',ρ',rfl,rfl,hv',_,UC⟩;have Ag:=FC UC;refine⟨v',rfl, ?_⟩;rw[hv'.B2];have hW0:=hW;obtain⟨p,q,hA,hV,hpq,hfz,uy⟩:=hW;rw[hv] at hV;obtain⟨rfl,rfl⟩:=trodVars_none hV;simp only[List.append_nil] at hpq;subst hpq
 have hlen:ds.length=fn.params.size:=by
  have key:∀{ts:List TypeId} {vs:List Value} {ds:List (DataW H)} {p:List MemPlace},DataW.TrodAll enc E.P W 0 (fun _=>true) true ts vs ds p→ds.length=ts.length:=by
   intro ts
   induction ts with
   |nil=>intro vs ds p h;obtain⟨_,rfl,_⟩:=trodAll_nil h;rfl
   |cons t ts ih=>
    intro vs ds p h;obtain⟨v,vs1,d,ds1,a,b,rfl,rfl,rfl,_,h2⟩:=trodAll_cons h;simp [ih h2]
  simpa using key hA
 have hsp:=hs ds hlen;have hlt:∀x∈before,x.block<W.heap.size:=fun x hx=>hW0.lt x hx
 refine Aa (pa:=before) (pv:=[]) hW0 (fun b sp hd=> ?_) (fun sp abE=> ?_) (fun sp _=> ?_) (by simp) Ag ?_
 ·rw[List.append_nil,hsp,hres];exact trodAll_cons_mk (p:=[]) (p':=[]) (shut_bool hb true) trodAll_mk0
 ·rw[List.append_nil,hsp];exact rj hl Ag hpar abE hlt hA
 ·rw[List.append_nil,hsp,hv];rfl
 ·exact ok_one hres rfl (okWide_bool_mk hb true)
theorem Hy {t:TypeId} {d:TypeDesc} {r:Reach} {aU:Nat} {cs:Array Value} (hu:P.underlying t=some d) (hd:ix d=false) (h:Value.okWide P W r aU t (.agg cs)):False:=by
 cases d<;>simp [ix] at hd<;>simp [Value.okWide,hu,Cell.okWide,Cell.ok] at h
theorem vB {t:TypeId} {d:TypeDesc} {r:Reach} {aU:Nat} {v:Value} (hu:P.underlying t=some d) (hd:ix d=false) (h:Value.okWide P W r aU t v):v.cells.toList.map (Hx W)=[Jq W v]:=by
 have hn:∀cs,v≠ .agg cs:=by rintro cs rfl;exact Hy hu hd h
 rw[Qc hn];cases v<;>first|rfl|exact absurd rfl (hn _)
variable {r:Reach} {aU:Nat} {v:Value} {d:DataW H} {p:List MemPlace} {t:TypeId}
theorem Qd {k:IntKind} (hu:P.underlying t=some (.int k)) (hval:Value.okWide P W r aU t v) (h:DataW.Trod enc P W 0 (fun _=>true) true t v d p):∃x,Jq W v=.int k x∧k.min≤x∧x≤k.max:=by
 obtain⟨n,hn⟩:=pU h;rw[vB hu rfl hval] at hn
 cases n with
 |zero=>exact hn.elim
 |succ n=>
  simp only[zG,hu] at hn;obtain⟨x,hx,hr⟩:=hn;exact⟨x,by simpa using hx,hr⟩
theorem N2 (hu:P.underlying t=some .bool) (hval:Value.okWide P W r aU t v) (h:DataW.Trod enc P W 0 (fun _=>true) true t v d p):∃b,Jq W v=.bool b:=by
 obtain⟨n,hn⟩:=pU h;rw[vB hu rfl hval] at hn
 cases n with
 |zero=>exact hn.elim
 |succ n=>
  simp only[zG,hu] at hn;obtain⟨x,hx⟩:=hn;exact⟨x,by simpa using hx⟩
end
section
variable {P:Program} {H:af} {n:Nat} {t:TypeId} {x:V}
theorem pV {k:IntKind} (hu:P.underlying t=some (.int k)) (h:zG P H n t [x]):∃y,x=.int k y∧k.min≤y∧y≤k.max:=by
 cases n with
 |zero=>exact h.elim
 |succ n=>
  simp only[zG,hu] at h;obtain⟨y,hy,hr⟩:=h;exact⟨y,by simpa using hy,hr⟩
theorem Js (hu:P.underlying t=some .bool) (h:zG P H n t [x]):∃y,x=.bool y:=by
 cases n with
 |zero=>exact h.elim
 |succ n=>
  simp only[zG,hu] at h;obtain⟨y,hy⟩:=h;exact⟨y,by simpa using hy⟩
def K9 (P:Program) (H:af) (e:TypeId) (q:Oq) (len cap:Nat):Prop:=
 len≤cap∧cap≤maxLen∧(q=none→cap=0)∧
  ∃n,∀i,i<cap→∃id off,q=some (id,off)∧id<H.next∧H.inb id (off+i*P.cellsOf e) (P.cellsOf e)=true∧zG P H n e (H.sub id (off+i*P.cellsOf e) (P.cellsOf e))
theorem FF {e:TypeId} (hu:P.underlying t=some (.slice e)) (hpos:0<P.cellsOf e) (h:zG P H n t [x]):∃q len cap,x=.slice q len cap∧K9 P H e q len cap:=by
 cases n with
 |zero=>exact h.elim
 |succ n=>
  simp only[zG,hu] at h;obtain⟨q,len,cap,hx,h1,h2,h3,h4⟩:=h hpos;exact⟨q,len,cap,by simpa using hx,h1,h2,h3,n,h4⟩
theorem La {fs:Array Field} {cs:List V} (hu:P.underlying t=some (.struct fs)) (h:zG P H n t cs):cs.length=P.cellsOf t∧∃m,∀f∈fs.toList,zG P H m f.type ((cs.drop f.offset).take (P.cellsOf f.type)):=by
 cases n with
 |zero=>exact h.elim
 |succ n=>
  simp only[zG,hu] at h;exact⟨h.1,n,h.2⟩
end
section
variable {H:Type} {enc:TypeId×Value→H} {P:Program} {W:World} {r:Reach} {aU:Nat} {v:Value} {d:DataW H} {p:List MemPlace} {t:TypeId}
theorem Lb {e:TypeId} (hu:P.underlying t=some (.slice e)) (hpos:0<P.cellsOf e) (hval:Value.okWide P W r aU t v) (h:DataW.Trod enc P W 0 (fun _=>true) true t v d p):∃q len cap,Jq W v=.slice q len cap∧K9 P (gL W) e q len cap:=by
 obtain⟨n,hn⟩:=pU h;rw[vB hu rfl hval] at hn;exact FF hu hpos hn
end
end Go.Am
end
section
namespace Go.Am
theorem N3 (W:World):az (gL W) (gL W) []:=by
 refine az.start ?_ ?_
 ·intro id o h;obtain⟨cs,e,fz,hb,rfl⟩:=ly h;show id<W.heap.size
  rcases Nat.lt_or_ge id W.heap.size with h|h
  ·exact h
  ·rw[Array.getElem?_eq_none h] at hb;cases hb
 ·intro id o h;obtain⟨cs,e,fz,hb,rfl⟩:=ly h;exact⟨e,_,rfl⟩
theorem xc {H:af} {id off n:Nat} (h:H.inb id off n=true):∃e l ro,H.get id=some (.cells e l ro)∧off+n≤l.length:=by
 unfold af.inb at h;split at h
 ·rename_i e l ro hg;exact⟨e,l,ro,hg,by simpa using h⟩
 ·cases h
theorem N4 {P:Program} {H:af} {t:TypeId} {q:Oq} {len cap:Nat} (hu:P.underlying t=some (.int .u8)) (hc:P.cellsOf t=1) (h:K9 P H t q len cap):
 ∃bs:List UInt8,bs.length=len∧mn H q bs∧len≤cap∧len≤maxLen:=by
 obtain⟨h1,UB,_,n,h2⟩:=h;rw[hc] at h2
 have key:∀i,∃b:UInt8,i<len→∃id off,q=some (id,off)∧H.inb id (off+i) 1=true∧H.sub id (off+i) 1=[.int .u8 (b.toNat:Int)]:=by
  intro i;by_cases hi:i<len
  ·obtain⟨id,off,e1,_,e3,e4⟩:=h2 i (by omega);simp only[Nat.mul_one] at e3 e4
   have hl:∃x,H.sub id (off+i) 1=[x]:=by
    obtain⟨e,l,ro,hg,hle⟩:=xc e3;have:(H.sub id (off+i) 1).length=1:=by rw[kg hg];simp;omega
    match hs:H.sub id (off+i) 1,this with
    |[x],_=>exact⟨x,rfl⟩
   obtain⟨x,hx⟩:=hl;rw[hx] at e4;obtain⟨y,rfl,hy1,Rh⟩:=pV (P:=P) hu e4;have m1:IntKind.u8.min=0:=by decide
   have m2:IntKind.u8.max=255:=by decide
   rw[m1] at hy1;rw[m2] at Rh;refine⟨UInt8.ofNat y.toNat,fun _=>⟨id,off,e1,e3, ?_⟩⟩;rw[hx];simp;omega
  ·exact⟨0,fun h=>absurd h hi⟩
 refine⟨(List.range len).map fun i=>Classical.choose (key i),by simp, ?_,h1,by omega⟩;by_cases h0:len=0
 ·subst h0;exact .inl rfl
 ·obtain⟨id,off,e1,e2,_⟩:=Classical.choose_spec (key 0) (by omega);obtain⟨e,l,ro,hg,_⟩:=xc e2;refine .inr ⟨id,off,e,l,ro,e1,hg, ?_⟩;apply List.ext_getElem?;intro i;rw[nR,List.length_map,List.length_range,List.getElem?_take];by_cases hi:i<len
  ·obtain⟨id',off',OJ,Va,Y7⟩:=Classical.choose_spec (key i) hi;rw[e1] at OJ;cases OJ;rw[kg hg] at Y7;rw[if_pos hi,List.getElem?_drop];simp only[bd,List.map_map,List.getElem?_map,List.getElem?_range hi,Option.map_some,Function.comp];have:=congrArg (fun m=>m[0]?) Y7;simpa using this
  ·rw[if_neg hi];simp [bd,hi]
theorem By {l:List V} {off n:Nat} {f:Nat→List V}:∀(len:Nat),(∀i,i<len→(l.drop (off+i*n)).take n=f i∧(f i).length=n)→(l.drop off).take (len*n)=((List.range len).map f).flatten
 |0,_=>by simp
 |k+1,h=>by
  rw[List.range_succ,List.map_append,List.flatten_append, ←By k (fun i hi=>h i (by omega))];rw[Nat.add_mul,Nat.one_mul,List.take_add,List.drop_drop,(h k (by omega)).1];simp
theorem Qe {P:Program} {H:af} {t:TypeId} {q:Oq} {len cap n:Nat} (hc:P.cellsOf t=n) (h:K9 P H t q len cap):∃(css:List (List V)) (m:Nat),css.length=len∧Rd H q css.flatten∧(∀c∈css,c.length=n∧zG P H m t c)∧len≤cap∧len≤maxLen:=by
 obtain⟨h1,UB,_,m,h2⟩:=h;rw[hc] at h2
 have key:∀i,∃c:List V,i<len→∃id off,q=some (id,off)∧H.inb id (off+i*n) n=true∧H.sub id (off+i*n) n=c∧c.length=n∧zG P H m t c:=by
  intro i;by_cases hi:i<len
  ·obtain⟨id,off,e1,_,e3,e4⟩:=h2 i (by omega);refine⟨_,fun _=>⟨id,off,e1,e3,rfl, ?_,e4⟩⟩;obtain⟨e,l,ro,hg,hle⟩:=xc e3;rw[kg hg];simp;omega
  ·exact⟨[],fun h=>absurd h hi⟩
 refine⟨(List.range len).map fun i=>Classical.choose (key i),m,by simp, ?_, ?_,h1,by omega⟩
 ·by_cases h0:len=0
  ·subst h0;exact .inl rfl
  ·obtain⟨id,off,e1,e2,_⟩:=Classical.choose_spec (key 0) (by omega);obtain⟨e,l,ro,hg,_⟩:=xc e2;refine .inr ⟨id,off,e,l,ro,e1,hg, ?_⟩
   have RD:=By (l:=l) (off:=off) (n:=n) (f:=fun i=>Classical.choose (key i)) len (fun i hi=>by
    obtain⟨id',off',OJ,_,Y7,e4',_⟩:=Classical.choose_spec (key i) hi;rw[e1] at OJ;cases OJ;rw[kg hg] at Y7
    exact⟨Y7,e4'⟩)
   have hlen:((List.range len).map fun i=>Classical.choose (key i)).flatten.length=len*n:=by
    rw[←RD,List.length_take,List.length_drop];obtain⟨id',off',OJ,Va,_⟩:=Classical.choose_spec (key (len-1)) (by omega);rw[e1] at OJ;cases OJ;rw[dI hg] at Va;have:=Nat.le_of_ble_eq_true Va;have e:(len-1)*n+n=len*n:=by rw[←Nat.succ_mul];congr 1;omega
    omega
   rw[hlen];exact RD
 ·intro c hc;obtain⟨i,hi,rfl⟩:=List.mem_map.1 hc;obtain⟨_,_,_,_,_,e4,e5⟩:=Classical.choose_spec (key i) (List.mem_range.1 hi);exact⟨e4,e5⟩
end Go.Am
end
section
namespace Go.Proofs.YtlgdkndamddpkaaGreat
open Go.Am
structure Ac where
 ho:Int
 kd:Int
 lb:Int
 ky:Int
 nw:Int
 ty:Int
 su:Bool
 ow:Bool
 q:Oq
 c:Nat
 d:List UInt8
 n:Int
def Ac.cs (a:Ac):List V:=UG a.ho a.kd a.lb a.ky a.nw a.ty a.su a.ow a.q a.d.length a.c a.n
structure Ac.ok (B:af) (a:Ac):Prop where
 ho:0≤a.ho∧a.ho≤255
 kd:0≤a.kd∧a.kd≤255
 lb:0≤a.lb∧a.lb≤255
 ky:0≤a.ky∧a.ky≤255
 nw:0≤a.nw∧a.nw≤255
 ty:0≤a.ty∧a.ty≤255
 rd:mn B a.q a.d
 n:0≤a.n∧a.n≤255
def Q9 (i:Nat):Int:=[0,0,1,1,1,2,3,4,4,5,6,7,8,9].getD i 0
def Rc (i:Nat):Int:=[1,3,5,6,7,8].getD i 0
def Ac.bW (a:Ac):List UInt8:=if a.d.length≤64 then a.d else []
def Ac.cm (a:Ac) (r:R) (n:Int):Cm:=
 ⟨Q9 (a.kd % 14).toNat,a.lb % n,if a.d.length≤64 then a.q else none,if a.d.length≤64 then a.d.length else 0,if a.d.length≤64 then a.c else 0,a.su,
  if a.ow=true then r.k (a.ho % 4).toNat else a.ky % 4,a.nw % 4,Rc (a.ty % 6).toNat,a.su⟩
theorem Ac.X0 (a:Ac) (r:R) (n:Int):(a.cm r n).dn=a.bW.length:=by unfold Ac.cm Ac.bW;split<;>simp [*]
theorem Ac.X1 {B:af} {L:List cq} {a:Ac} (ha:a.ok B) (r:R) (n:Int):lE B L (a.cm r n).dp a.bW:=by
 unfold Ac.cm Ac.bW;by_cases h:a.d.length≤64
 ·simp only[h,if_true];exact lE.of ha.rd
 ·simp only[h,if_false];exact lE.nil _ _ _
section
variable {B:af} {L:List cq} {H:af} {K:V→af→Prop} {oid mid:Nat} {o:Ob}
theorem TW (h:az B H L) {a:Ac} (ha:a.ok B) (r:R) {n:Int} (hn:1≤n) (hn2:n≤1000000) (k:∀H',az B H' L→K (.tuple [.int .i64 (a.ho % 4),.agg (a.cm r n).cs]) H'):cl 14 [.agg a.cs,.agg r.cs,.int .i64 n] H K:=by
 have h1:=ha.ho;have h2:=ha.kd;have h3:=ha.lb;have h4:=ha.ky;have h5:=ha.nw;have h6:=ha.ty;unfold Ac.cs R.cs;rw[Z6];simp only[n7];have t1:Int.tmod a.kd 14=a.kd % 14:=Int.tmod_eq_emod_of_nonneg h2.1;have t2:Int.tmod a.ty 6=a.ty % 6:=Int.tmod_eq_emod_of_nonneg h6.1;have t3:Int.tmod a.ho 4=a.ho % 4:=Int.tmod_eq_emod_of_nonneg h1.1;have t4:Int.tmod a.ky 4=a.ky % 4:=Int.tmod_eq_emod_of_nonneg h4.1;have t5:Int.tmod a.nw 4=a.nw % 4:=Int.tmod_eq_emod_of_nonneg h5.1;have t6:Int.tmod a.lb n=a.lb % n:=Int.tmod_eq_emod_of_nonneg h3.1;have w1:IntKind.i64.wrap (a.ho % 4)=a.ho % 4:=by rw[bD (by omega) (by omega)]
 have w2:IntKind.u32.wrap (a.ky % 4)=a.ky % 4:=IntWalk.u32_in _ (by omega);have w3:IntKind.u32.wrap (a.nw % 4)=a.nw % 4:=IntWalk.u32_in _ (by omega);have w4:IntKind.i64.wrap a.lb=a.lb:=by rw[bD (by omega) (by omega)]
 have g1:0≤a.kd % 14:=by omega
 have g2:a.kd % 14<14:=by omega
 have g3:0≤a.ty % 6:=by omega
 have g4:a.ty % 6<6:=by omega
 have g5:0≤a.ho % 4:=by omega
 have g6:a.ho % 4<8:=by omega
 have g7:¬n=0:=by omega
 have s1:=h.alloc 5 (mM 1 3 5 6 7 8);have s2:=s1.alloc 5 [V.int .u8 0,V.int .u8 0,V.int .u8 1,V.int .u8 1,V.int .u8 1,V.int .u8 2,V.int .u8 3,V.int .u8 4,V.int .u8 4,V.int .u8 5,V.int .u8 6,V.int .u8 7,V.int .u8 8,V.int .u8 9];have HC:=s2.get;have Qo:=s2.swap.get;have Ux:=s2.drop.drop;rw[t1,t2,t3,t4,t5,w1,w2,w3,w4,t6];generalize hH2:(H.alloc (.cells 5 (mM 1 3 5 6 7 8) false)).alloc _=H2 at*;have e1:(H.alloc (.cells 5 (mM 1 3 5 6 7 8) false)).2=(H.alloc (.cells 5 (mM 1 3 5 6 7 8) false)).next:=rfl
 have c1:H2.cell (H.alloc (.cells 5 (mM 1 3 5 6 7 8) false)).next (0+(a.kd % 14).toNat*1)=.int .u8 (Q9 (a.kd % 14).toNat):=by
  rw[aY HC,Nat.zero_add,Nat.mul_one];generalize hi:(a.kd % 14).toNat=i;have hh:i=0∨i=1∨i=2∨i=3∨i=4∨i=5∨i=6∨i=7∨i=8∨i=9∨i=10∨i=11∨i=12∨i=13:=by omega
  rcases hh with h|h|h|h|h|h|h|h|h|h|h|h|h|h<;>rw[h]<;>rfl
 have i1:H2.inb (H.alloc (.cells 5 (mM 1 3 5 6 7 8) false)).next (0+(a.kd % 14).toNat*1) 1=true:=by
  rw[dI HC];exact Nat.ble_eq_true_of_le (show 0+(a.kd % 14).toNat*1+1≤14 by omega)
 have c2:H2.cell H.next (0+(a.ty % 6).toNat*1)=.int .u8 (Rc (a.ty % 6).toNat):=by
  rw[aY Qo,Nat.zero_add,Nat.mul_one];generalize hi:(a.ty % 6).toNat=i;have hh:i=0∨i=1∨i=2∨i=3∨i=4∨i=5:=by omega
  rcases hh with h|h|h|h|h|h<;>rw[h]<;>rfl
 have i2:H2.inb H.next (0+(a.ty % 6).toNat*1) 1=true:=by
  rw[dI Qo];exact Nat.ble_eq_true_of_le (show 0+(a.ty % 6).toNat*1+1≤6 by omega)
 have e4:(a.ho % 4).toNat<8:=by omega
 have b1:Nat.ble (Nat.succ (0+(a.ho % 4).toNat*1)) 12=true:=Nat.ble_eq_true_of_le (by omega)
 have n1:ae (cQ (r.k 0) (r.k 1) (r.k 2) (r.k 3) (r.k 4) (r.k 5) (r.k 6) (r.k 7) r.ty r.ho r.ge r.la) (0+(a.ho % 4).toNat*1)=.int .u32 (r.k (a.ho % 4).toNat):=by
  rw[Nat.zero_add,Nat.mul_one];exact ug r e4
 have hk:=k H2 Ux;unfold Ac.cm at hk;simp only[g1,g2,g3,g4,g5,g6,g7,e1,i1,c1,i2,c2,b1,n1,decide_true,decide_false,Bool.and_self,Bool.or_false,Bool.not_false,ay,dW,bI,dD];cases how:a.ow
 all_goals
  rw[how] at hk;simp only[ai,au,im,kX,reduceIte,uU,ib,Bool.or_false,ay,f40,ZR,Vk,Vl,Vm,Vn,Vo,Vp,Vq,Vr,bI,cn,Bool.false_eq_true,if_false,if_true] at hk⊢;by_cases h64:a.d.length≤64
  ·have UD:(a.d.length:Int)≤64:=by omega
   simp only[UD,decide_true,au];simp only[h64,if_true] at hk;exact hk
  ·have UD:¬(a.d.length:Int)≤64:=by omega
   simp only[UD,decide_false,ai];simp only[h64,if_false] at hk;exact hk
end
theorem Bz:∀(bP:List Int) (bs:List Bk),(∀x∈bs,x=fp∨x=yC)→∀x∈qZ bs bP,x=fp∨x=yC
 |[],bs,h=>h
 |i::bP,bs,h=>Bz bP _ (fun x hx=>by
  rcases List.mem_or_eq_of_mem_set hx with hx|rfl
  ·exact h x hx
  ·exact .inr rfl)
theorem BA {b:Nat}:∀(bP:List Int) (bs:List Bk),(∀i∈bP,i.toNat≠b)→(qZ bs bP).getD b fp=bs.getD b fp
 |[],bs,h=>rfl
 |i::bP,bs,h=>by
  rw[qZ,BA bP _ (fun j hj=>h j (List.mem_cons_of_mem _ hj)),List.getD_eq_getElem?_getD,List.getD_eq_getElem?_getD,List.getElem?_set,if_neg (h i List.mem_cons_self)]
theorem sw {g:bZ} (hg:g.In) (hn:g.yA):g.cap<65000:=by
 have Jy:=bZ.k6 g hg.b.2;have h1:=hn.2.2.1;have h2:=hn.2.2.2.1;have h3:=hn.2.2.2.2.1
 have:g.aB*((g.us.length:Int)-g.aG-1)≤32*62:=by
  by_cases h0:0≤(g.us.length:Int)-g.aG-1
  ·exact Int.mul_le_mul h2 (by omega) h0 (by omega)
  ·have:=Int.mul_nonpos_of_nonneg_of_nonpos (a:=g.aB) (b:=(g.us.length:Int)-g.aG-1) (by omega) (by omega);omega
 have hc:g.cap=g.aB*((g.us.length:Int)-g.aG-1)-2:=rfl;omega
theorem Qf {g:bZ} (hn:g.yA) (hc:0<g.cap):g.aG+1≤g.us.length:=by
 by_cases h0:0<(g.us.length:Int)-g.aG-1
 ·omega
 ·have h1:=hn.2.2.1;have:=Int.mul_nonpos_of_nonneg_of_nonpos (a:=g.aB) (b:=(g.us.length:Int)-g.aG-1) (by omega) (by omega);have FK:g.cap=g.aB*((g.us.length:Int)-g.aG-1)-2:=rfl;omega
open Classical in
theorem TX {g:bZ} (hform:g.cM=true) (hl:g.bP.length≤1000000) (QB:∀i∈g.bP,0≤i∧i<g.aF):Up g (z6 g.aF.toNat g.aB g.bP) (Dk g.cap.toNat) [] 0 0:=by
 have hn:=bZ.eH hform;have hg:=hn.in hl;have hcap:=bZ.nf hform;have hlt:=sw hg hn;have hall:∀x∈(z6 g.aF.toNat g.aB g.bP).bs,x=fp∨x=yC:=Bz _ _ (fun x hx=>.inl (List.eq_of_mem_replicate hx))
 have hlen:(z6 g.aF.toNat g.aB g.bP).bs.length=g.aF.toNat:=by
  show (qZ _ _).length=_
  rw[AQ,List.length_replicate]
 have sA:∀x∈(z6 g.aF.toNat g.aB g.bP).bs,x.pg=[]:=fun x hx=>by rcases hall x hx with rfl|rfl<;>rfl
 have hb:g.aF=((g.aF.toNat:Nat):Int):=by have:=hn.1;omega
 have hbk:∀b∈g.us,(z6 g.aF.toNat g.aB g.bP).bk b=fp:=fun b hb=>by
  have hnb:¬(b:Int)∈g.bP:=by
   unfold bZ.us at hb;have:=(List.mem_filter.1 hb).2;simpa using this
  show (qZ _ _).getD b fp=_
  rw[BA _ _ (fun i hi e=>hnb (by have:=QB i hi;have:i=(b:Int):=by omega
                                 rw[←this];exact hi)),List.getD_eq_getElem?_getD,List.getElem?_replicate]
  split<;>rfl
 have hvw:∀b,vw g (z6 g.aF.toNat g.aB g.bP) b=[]:=fun b=>by
  by_cases hu:b∈g.us
  ·exact yX (.inl (by rw[hbk b hu];rfl))
  ·exact C1 b hu
 have hc0:∀x,uw (Dk g.cap.toNat).su [] x=[]:=fun x=>by
  unfold uw Dk;simp only;split
  ·rw[List.getD_eq_getElem?_getD,List.getElem?_replicate];split<;>rfl
  ·split<;>rfl
 have no:∀b f,f∉vw g (z6 g.aF.toNat g.aB g.bP) b:=fun b f hf=>by rw[hvw b] at hf;cases hf
 refine⟨⟨[], ?_,.inl ⟨rfl,rfl⟩⟩,rfl,rfl,rfl,rfl,TM (by omega) (by omega),by show (((List.replicate g.cap.toNat ([]:List UInt8)).length:Nat):Int)=_;rw[List.length_replicate];omega⟩;refine⟨⟨?_,rfl,fun x hx=>(by rw[sA x hx];have:=hn.2.2.1;show ((0:Nat):Int)≤_;omega),fun x hx d hd=>(by rw[sA x hx] at hd;cases hd),fun b hb e=>(by rw[hbk b hb] at e;cases e),fun b hb _=>(by rw[hbk b hb];exact⟨Int.le_refl _,rfl,rfl⟩)⟩, ?_, ?_,fun b f hf=>absurd hf (no b f),fun i hi j hj _ _ h=>absurd (hvw i) h.1⟩
 ·rw[hlen];omega
 ·exact⟨fun b f hf=>absurd hf (no b f),fun x=>.inl ⟨hc0 x,fun b f hf=>absurd hf (no b f)⟩,fun b f hf=>absurd hf (no b f),fun b f hf=>absurd hf (no b f),fun b f hf=>absurd hf (no b f),fun b f hf=>absurd hf (no b f)⟩
 ·intro _;have:jP g (z6 g.aF.toNat g.aB g.bP)=0:=List.countP_eq_zero.2 (fun b hb e=>v9 (hvw b) (of_decide_eq_true e).2);rw[this];have:=Qf hn hcap;omega
section
variable {B:af} {L:List cq} {H:af} {K:V→af→Prop} {m:Gm} {o:Ob} {ds:List Nat} {N b aH:Nat} {a:Ar}
theorem nj (h:az B H (df aH a::L)) (hm:dF B L m) (hform:m.g.cM=true) (hg:m.g.In) (U:Up m.g a o ds N b) (hb:b<2147483648) (ha:a.bA≤0) {ep:Nat} (Lp:1≤ep∧ep<281474976710656) (hf:a.aK≤ep) (k:∀x v H',x.aH=aH→Ug m.g v o ds N b→v.s.a.bA≤0→v.s.a.aK=a.aK→v.s.f.ep=ep→(∃sq:Int→Nat,(∀y:Int,sq y=((jn y.toNat (a.z5 m.g)).map fun f=>f.s.seq).getD 0)∧uM m.g (cx m.g sq a ep).1=some v)→gA B H' x m v L→K (.tuple [.aj (some (x.js,0)),.int .i64 0]) H'):cl 13 [.aj (some (aH,0)),m.v,.int .u64 (ep:Int)] H K:=by
 have hn:=bZ.eH hform;have hc:0≤m.g.cap∧m.g.cap<65000:=⟨by have:=bZ.nf hform;omega,sw hg hn⟩;obtain⟨t,U9,_⟩:=U.t
 have hno:∀sq,(cx m.g sq a ep).2=0∧∃v,uM m.g (cx m.g sq a ep).1=some v∧v.s=(cx m.g sq a ep).1∧Ug m.g v o ds N b:=fun sq=>by
  obtain⟨kp,h1⟩:=U.mount hg hc Lp hf hb sq;rcases h1 with h1|⟨_,h1⟩
  ·exact h1
  ·exfalso;have h2:=h1.off;have:=(kp.zF ha).2;rw[this] at h2;have h3:a.off=true:=h2;rw[U.on] at h3;cases h3
 refine KV h hm hform hg (U9.rd U.on) hc Lp (fun sq _=>by
  obtain⟨_,v,h1,_⟩:=hno sq
  exact⟨v,h1⟩) (fun pz x v H' hx Ga h0 hok huM hS=> ?_) (fun pz H' Ga h0 hok hS=>absurd (hno (eh pz)).1 h0)
 obtain⟨_,v',h1,h2,h3⟩:=hno (eh pz);rw[huM] at h1;cases h1;obtain⟨kp,_⟩:=U.mount hg hc Lp hf hb (eh pz);refine k x v H' hx h3 ?_ ?_ ?_ ⟨eh pz,fun y=> ?_,huM⟩ hS
 ·rw[h2];exact(kp.zF ha).1
 ·rw[h2];exact kp.aK
 ·rw[h2];exact kp.ep
 ·unfold eh;rw[←Ga,vk];cases lF y.toNat pz<;>rfl
end
end Go.Proofs.YtlgdkndamddpkaaGreat
end
section
namespace Go.Proofs.YtlgdkndamddpkaaGreat
open Go.Am
theorem Dq {p:Nat→Bool}:∀{l ds:List Nat},l.Nodup→(∀b∈l,p b=true→b∈ds)→l.countP p≤ds.length
 |l,ds,hn,h=>by
  rw[List.countP_eq_length_filter];exact List.Nodup.length_le_of_subset (hn.sublist List.filter_sublist) (fun b hb=>h b (List.mem_filter.1 hb).1 (List.mem_filter.1 hb).2)
section
variable {g:bZ} {u:Un} {o:Ob} {ds:List Nat} {N b:Nat}
theorem Ug.c3 (h:Ug g u o ds N b):u.s.f.po.count 3≤ds.length:=by
 obtain⟨t,ht,_⟩:=h.t;rw[←ht.lk (a:=u.s.a) (fun _ _=>rfl)]
 exact Dq (m7 g) (fun b hb e=>Classical.byContradiction fun hn=>by
  have:=(ht.ph.fc b hb hn).2.2
  rw[this] at e;cases e)
theorem X2 (hg:g.In) (hform:g.cM=true) (h:Ug g u o ds N b) (hds:(ds.length:Int)≤g.aG) (ha:u.s.a.bA≤0) (hh:Int) (c:Cm) (bW:List UInt8) (hd:c.dn=bW.length) (Vc:0≤c.nw∧c.nw≤4294967295) (hN:N+9*CW<281474976710656):∃v,UM g u hh c bW=some (v,(KM o hh c bW).2,0)∧Kp u.s v.s (9*CW)∧Ug g v (KM o hh c bW).1 ds (N+9*CW) b:=by
 have hn:=bZ.eH hform;obtain⟨r,h1,h2,h3⟩:=TT hg hform (sw hg hn) h hh c bW hd Vc hN;rcases h3 with⟨e1,e2,h3⟩|⟨_,_,_,_,e1,j,_,h3⟩|⟨_,h3⟩
 ·exact⟨r.1,by rw[h1, ←e2, ←e1],h2,h3⟩
 ·exfalso;have:=h3.c3;omega
 ·exfalso;have h4:=h3.off;rw[(h2.zF ha).2] at h4;obtain⟨t,ht,_⟩:=h.t;rw[ht.on] at h4;cases h4
theorem X3 (hg:g.In) (hform:g.cM=true) (h:Ug g u o ds N b) (hds:(ds.length:Int)≤g.aG) (ha:u.s.a.bA≤0) (hN:N+9*CW<281474976710656):∃v,UN g u=some (v,0)∧Kp u.s v.s (9*CW)∧Ug g v (mf o) ds (N+9*CW) b:=by
 have hn:=bZ.eH hform;obtain⟨t,ht,_⟩:=h.t;obtain⟨r,h1,h2,h3⟩:=TU hg hform (sw hg hn) h hN;rcases h3 with⟨e1,h3⟩|⟨_,e1,j,_,h3⟩|⟨_,h3⟩
 ·exact⟨r.1,by rw[h1, ←e1],h2,h3⟩
 ·exfalso;have:=h3.c3;omega
 ·exfalso;have h4:=h3.off;rw[(h2.zF ha).2,ht.on] at h4;cases h4
end
section
variable {B:af} {L:List cq} {H:af} {K:V→af→Prop} {x:Ui} {m:Gm} {u:Un} {o:Ob} {ds:List Nat} {N b:Nat}
theorem Ug.rok {g:bZ} (h:Ug g u o ds N b):fB u.r:=by rw[h.r];obtain⟨_,_,htb⟩:=h.t;exact htb.XY
theorem Dr (hm:dF B L m) (hg:m.g.In) (hform:m.g.cM=true) (h:gA B H x m u L) (U:Ug m.g u o ds N b) (hb:b<2147483648) (hds:(ds.length:Int)≤m.g.aG) (ha:u.s.a.bA≤0) (hh:Int) (c:Cm) (bW:List UInt8) (hd:c.dn=bW.length) (hr:lE B L c.dp bW) (Vc:0≤c.nw∧c.nw≤4294967295) (hN:N+9*CW<281474976710656) (k:∀v q n H',UM m.g u hh c bW=some (v,(KM o hh c bW).2,0)→Kp u.s v.s (9*CW)→Ug m.g v (KM o hh c bW).1 ds (N+9*CW) b→gA B H' x m v (BY q n (KM o hh c bW).2.d::L)→K (.tuple [.agg ((KM o hh c bW).2.cs q n),.int .i64 0]) H'):cl 16 [.aj (some (x.js,0)),.int .i64 hh,.agg c.cs] H K:=by
 obtain⟨v,h1,h2,h3⟩:=X2 hg hform U hds ha hh c bW hd Vc hN;have hn:=bZ.eH hform;exact TO hm hg ⟨by have:=bZ.nf hform;omega,sw hg hn⟩ h U.ok hh c bW hd hr (U.rok.doR hh c Vc).ok (by rw[U.boots];omega) h1 (fun q n H' h'=>k v q n H' h1 h2 h3 h')
theorem TY (hm:dF B L m) (hg:m.g.In) (hform:m.g.cM=true) (h:gA B H x m u L) (U:Ug m.g u o ds N b) (hds:(ds.length:Int)≤m.g.aG) (ha:u.s.a.bA≤0) (hN:N+9*CW<281474976710656) (k:∀v H',UN m.g u=some (v,0)→Kp u.s v.s (9*CW)→Ug m.g v (mf o) ds (N+9*CW) b→gA B H' x m v L→K (.int .i64 0) H'):cl 25 [.aj (some (x.js,0))] H K:=by
 obtain⟨v,h1,h2,h3⟩:=X3 hg hform U hds ha hN;have hn:=bZ.eH hform;exact TP hm hg ⟨by have:=bZ.nf hform;omega,sw hg hn⟩ h U.ok h1 (fun H' h'=>k v H' h1 h2 h3 h')
end
section
variable {B:af} {L:List cq} {H:af} {K:V→af→Prop}
theorem FG {g:bZ}:∀(l pre:List Int),g.vZ pre l=true→∀i∈l,0≤i∧i<g.aF
 |[],_,_,i,hi=>by cases hi
 |j::l,pre,h,i,hi=>by
  rw[bZ.vZ,Bool.and_eq_true] at h;have h1:=of_decide_eq_true h.1;rcases List.mem_cons.1 hi with rfl|hi
  ·exact⟨by omega,h1.2.1⟩
  ·exact FG l _ h.2 i hi
theorem N5 {g:bZ} (h:g.cM=true):∀i∈g.bP,0≤i∧i<g.aF:=by
 unfold bZ.cM at h;rw[Bool.and_eq_true,Bool.and_eq_true] at h;exact FG _ _ h.2.1
theorem Jt {m:Gm} (h:az B H L) (hm:dF B L m) (hform:m.g.cM=true) (hg:m.g.In) (k:∀aH a H',Up m.g a (Dk m.g.cap.toNat) [] 0 0→a.bA≤0→a.aK=0→a=z6 m.g.aF.toNat m.g.aB m.g.bP→az B H' (df aH a::L)→K (.tuple [.aj (some (aH,0)),.int .i64 0]) H'):cl 12 [.int .i64 m.g.aF,.int .i64 m.g.aB,.slice m.q m.g.bP.length m.c] H K:=by
 have hn:=bZ.eH hform;have QB:=N5 hform;refine ML h m.g.aF m.g.aB hm.r hg.l (fun hno=>absurd ⟨by have:=hn.1;omega,hn.2.1,by have:=hn.2.2.1;omega,hn.2.2.2.1,QB⟩ hno) (fun _ aH H' h'=> ?_);exact k aH _ H' (TX hform hg.l QB) (Int.le_refl _) rfl rfl h'
theorem N6:(Td 1).cap=4:=by decide+kernel
def awA:Ob:=⟨[[],[],[],[]],[⟨0,[97],false⟩],R.gX⟩
def UO:Ob:=⟨[[97],[],[],[]],[],R.gX⟩
def awC:Ob:=⟨[[97],[],[],[]],[⟨0,[98],false⟩],R.gX⟩
theorem aa7 (q:Oq):KM (Dk 4) 0 ⟨1,0,q,1,1,false,0,0,0,false⟩ [97]=(awA,⟨0,[],R.zero⟩):=rfl
theorem aa8:mf awA=UO:=rfl
theorem aa9 (q:Oq):KM UO 0 ⟨1,0,q,1,1,false,0,0,0,false⟩ [98]=(awC,⟨0,[],R.zero⟩):=rfl
theorem aba:wb awC false=UO:=rfl
theorem abb:KM UO 0 ⟨0,0,none,0,0,false,0,0,0,false⟩ []=(UO,⟨0,[97],R.zero⟩):=rfl
theorem X4 (h:az B H L) (b:UInt8):az B (H.alloc (.cells 5 [V.int .u8 b.toNat] false)) (BY (some (H.next,0)) 1 [b]::L):=
 h.Cw (el:=5) (n:=1) (len:=1) (c:=1) (l:=[V.int .u8 b.toNat]) (cs:=bd [b]) rfl (jl _) (by omega) (by simp) rfl
theorem N7 (h:az B H L) (k:∀H',az B H' L→K (.bool true) H'):cl 10 [] H K:=by
 rw[Z2];refine v7 h 1 (by omega) (fun m H1 Ou hmc h1=> ?_);have hform:m.g.cM=true:=by rw[Ou];exact EI 1 (by omega)
 have hl:m.g.bP.length≤1000000:=by rw[Ou];decide
 have hg:=(bZ.eH hform).in hl;have hcap:m.g.cap.toNat=4:=by rw[Ou,N6];rfl
 have hds:(([]:List Nat).length:Int)≤m.g.aG:=by have:=hg.s;simp;omega
 have Lq:∀L:List cq,dF B (Iy m::L) m:=fun L=>Iy.ok hmc
 have hv:m.v=.agg (ee m.g.aF m.g.aB m.g.aG m.q m.g.bP.length m.c):=rfl;rw[hv];simp only[fl,cY,uu,ur,Bool.and_self,ay,f25,uV,mH,mI,mJ,mK,bI,cy,bV,cz];refine Jt h1 (Lq L) hform hg (fun aH a H2 U0 ha0 Ry _ h2=> ?_);rw[hcap] at U0;simp only[AJ,reduceIte,Nat.reduceEqDiff, ←hv];refine nj h2 (Lq L) hform hg U0 (by omega) (by omega) (ep:=1) ⟨by omega,by omega⟩ (by rw[Ry];decide) (fun x u H3 hx U1 HB OK Zm _ h3=> ?_)
 have hw:∀(H:af) (b:Int),af.wr (H.alloc (.cells 5 [V.int .u8 b] false)) H.2 0 0=true:=fun H b=>by
  rw[fY (af.u5 _ _)];rfl
 simp only[AJ,reduceIte,Nat.reduceEqDiff,Cm.Bj,hw];have h4:gA B _ x m u (BY (some (H3.next,0)) 1 [97]::Iy m::L):=(X4 h3 97).ord [1,1,1,1,1,1];refine Dr ((Lq L).bO _) hg hform h4 U1 (by omega) hds HB 0 ⟨1,0,some (H3.next,0),1,1,false,0,0,0,false⟩ [97] rfl lE.Z1 ⟨Int.le_refl 0,by show (0:Int)≤_;omega⟩ (by decide) (fun u2 q2 n2 H5 hd2 kp2 U2 h5=> ?_);rw[aa7] at U2;have h6:gA B H5 x m u2 (Iy m::L):=(h5.ord [6,6]).drop.drop;have Yn:=(kp2.zF HB).1;simp only[AJ,reduceIte,Nat.reduceEqDiff,Rs.aJ];refine TY (Lq L) hg hform h6 U2 hds Yn (by decide) (fun u3 H7 OL kp3 U3 h7=> ?_);rw[aa8] at U3;have ha3:=(kp3.zF Yn).1;simp only[AJ,reduceIte,Nat.reduceEqDiff,Cm.Bj,hw];have h8:gA B _ x m u3 (BY (some (H7.next,0)) 1 [98]::Iy m::L):=(X4 h7 98).ord [1,1,1,1,1,1];refine Dr ((Lq L).bO _) hg hform h8 U3 (by omega) hds ha3 0 ⟨1,0,some (H7.next,0),1,1,false,0,0,0,false⟩ [98] rfl lE.Z1 ⟨Int.le_refl 0,by show (0:Int)≤_;omega⟩ (by decide) (fun u4 q4 n4 H9 hd4 kp4 U4 h9=> ?_);rw[aa9] at U4;have ha4:=(kp4.zF ha3).1;have hf4:u4.s.a.aK=0:=by rw[kp4.aK,kp3.aK,kp2.aK,OK,Ry]
 have xf:az B H9 (df aH u4.s.a::Iy m::L):=by
  have:=(h9.ord [6,6]).drop.drop.drop.drop.drop.drop.drop;rw[hx] at this;exact this
 obtain⟨t4,ht4,_⟩:=U4.t;have U5:=U4.leave u4.s.a rfl rfl ht4.on ht4.dC rfl;rw[aba] at U5;simp only[AJ,reduceIte,Nat.reduceEqDiff,Rs.aJ];refine nj xf (Lq L) hform hg U5 (by omega) ha4 (ep:=2) ⟨by omega,by omega⟩ (by rw[hf4];decide) (fun x2 v H11 ux U6 ha6 hf6 he6 _ BD=> ?_);simp only[AJ,reduceIte,Nat.reduceEqDiff,Cm.Bj];refine Dr (Lq L) hg hform BD U6 (by omega) hds ha6 0 ⟨0,0,none,0,0,false,0,0,0,false⟩ [] rfl (lE.nil _ _ _) ⟨Int.le_refl 0,by show (0:Int)≤_;omega⟩ (by decide) (fun v2 q6 n6 Y8 hd6 kp6 U7 h12=> ?_);have Ju:mn Y8 q6 [97]:=(h12.ord [6]).iY;rw[abb] at U7;have hs1:gO Y8 q6 1=true:=Ju.gO;have oC:gP Y8 q6 1=jK [97]:=Ju.gP;have e5:(KM UO 0 ⟨0,0,none,0,0,false,0,0,0,false⟩ []).2=⟨0,[97],R.zero⟩:=rfl;rw[e5];have OB:gA B Y8 x2 m v2 (Iy m::L):=(h12.ord [6]).drop;simp only[AJ,reduceIte,Nat.reduceEqDiff,Rs.aJ,Rs.n1,List.length_cons,List.length_nil,hs1,oC,yu];rw[KS OB];have Lp:(v2.s.f.ep:Int)=2:=by rw[kp6.ep,he6];rfl
 simp only[AJ,reduceIte,Nat.reduceEqDiff,Lp];exact k Y8 (OB.ord [6]).drop.drop.drop.drop.drop.drop.drop
end
theorem lz {y:Int} (h:IntKind.u8.min≤y∧y≤IntKind.u8.max):0≤y∧y≤255:=by
 simpa [IntKind.min,IntKind.max,IntKind.bits,IntKind.signed] using h
theorem X5:cP.P.underlying 5=some (.int .u8):=Tryz.underlying5
theorem FH:cP.P.cellsOf 5=1:=by kernel_rfl
theorem Hz:cP.P.cellsOf 4=1:=by kernel_rfl
theorem FI:cP.P.cellsOf 36=1:=by kernel_rfl
theorem BB:cP.P.cellsOf 38=10:=by kernel_rfl
theorem TZ {H:af} {n:Nat} {cs:List V} (h:zG cP.P H n 38 cs):∃a:Ac,cs=a.cs∧a.ok H:=by
 obtain⟨hl,m,hf⟩:=La (P:=cP.P) Tryz.underlying38 h;rw[BB] at hl
 match cs,hl with
 |[a0,a1,a2,a3,a4,a5,a6,a7,a8,a9],_=>
  simp only[List.forall_mem_cons,FH,Hz,FI,List.drop_succ_cons,List.drop_zero,List.take_succ_cons,List.take_zero] at hf;obtain⟨h0,h1,h2,h3,h4,h5,h6,h7,h8,h9,_⟩:=hf;obtain⟨y0,rfl,r0⟩:=pV (P:=cP.P) Tryz.underlying5 h0;obtain⟨y1,rfl,r1⟩:=pV (P:=cP.P) Tryz.underlying5 h1;obtain⟨y2,rfl,r2⟩:=pV (P:=cP.P) Tryz.underlying5 h2;obtain⟨y3,rfl,r3⟩:=pV (P:=cP.P) Tryz.underlying5 h3;obtain⟨y4,rfl,r4⟩:=pV (P:=cP.P) Tryz.underlying5 h4;obtain⟨y5,rfl,r5⟩:=pV (P:=cP.P) Tryz.underlying5 h5;obtain⟨y6,rfl⟩:=Js (P:=cP.P) Tryz.underlying4 h6;obtain⟨y7,rfl⟩:=Js (P:=cP.P) Tryz.underlying4 h7;obtain⟨q,len,cap,rfl,hs⟩:=FF (P:=cP.P) Tryz.underlying36 (Nat.le_of_ble_eq_true (by kernel_rfl)) h8;obtain⟨bs,rfl,hr,_,_⟩:=N4 X5 FH hs;obtain⟨y9,rfl,r9⟩:=pV (P:=cP.P) Tryz.underlying5 h9;exact⟨⟨y0,y1,y2,y3,y4,y5,y6,y7,q,cap,bs,y9⟩,rfl,lz r0,lz r1,lz r2,lz r3,lz r4,lz r5,hr,lz r9⟩
theorem Ac.dX (a:Ac):aJ k37 a.cs=true:=rfl
theorem Ac.eU (a:Ac):o37 a.cs=a.cs:=rfl
theorem Lc {H:af} {q:Oq} {len cap:Nat} (h:K9 cP.P H 38 q len cap):∃sc:List Ac,sc.length=len∧Rd H q (sc.map Ac.cs).flatten∧∀a∈sc,a.ok H:=by
 obtain⟨css,m,h1,h2,h3,_,_⟩:=Qe BB h
 have key:∀css:List (List V),(∀c∈css,c.length=10∧zG cP.P H m 38 c)→∃sc:List Ac,sc.map Ac.cs=css∧∀a∈sc,a.ok H:=by
  intro css
  induction css with
  |nil=>exact fun _=>⟨[],rfl,fun a h=>by cases h⟩
  |cons c css ih=>
   intro h;obtain⟨sc,e1,e2⟩:=ih (fun x hx=>h x (List.mem_cons_of_mem _ hx));obtain⟨a,e3,e4⟩:=TZ (h c (List.mem_cons_self ..)).2;refine⟨a::sc,by rw[List.map_cons,e1,e3],fun x hx=> ?_⟩;rcases List.mem_cons.1 hx with rfl|hx
   ·exact e4
   ·exact e2 x hx
 obtain⟨sc,e1,e2⟩:=key css h3;exact⟨sc,by rw[←h1, ←e1,List.length_map],by rw[e1];exact h2,e2⟩
theorem N8 (sc:List Ac):pA 10 (sc.map Ac.cs):=by
 intro c hc;obtain⟨a,_,rfl⟩:=List.mem_map.1 hc;exact⟨rfl,jE a.dX⟩
theorem Qg {H:af} {q:Oq} {sc:List Ac} (hr:Rd H q (sc.map Ac.cs).flatten) {i:Nat} (hi:i<sc.length):q.isSome=true∧H.inb (q.getD (0,0)).1 ((q.getD (0,0)).2+i*10) 10=true∧H.sub (q.getD (0,0)).1 ((q.getD (0,0)).2+i*10) 10=sc[i].cs∧H.inb (q.getD (0,0)).1 ((q.getD (0,0)).2+i*10+1) 1=true∧H.cell (q.getD (0,0)).1 ((q.getD (0,0)).2+i*10+1)=.int .u8 sc[i].kd:=by
 obtain⟨a,b,c⟩:=yw hr (N8 sc) (by omega) (i:=i) (by simpa using hi);obtain⟨_,d,e⟩:=nS hr (N8 sc) (i:=i) (k:=1) (by simpa using hi) (by omega);rw[List.getElem_map] at c e;exact⟨a,b,c,d,e⟩
theorem Ac.X6 (a:Ac) (r:R) (n:Int):0≤(a.cm r n).nw∧(a.cm r n).nw≤4294967295:=by
 show 0≤a.nw % 4∧a.nw % 4≤_
 omega
section
variable {B:af} {L:List cq} {H:af} {K:V→af→Prop} {x:Ui} {m:Gm} {mid:Nat}
def Ac.wk (a:Ac):Ac:={a with kd:=7+a.kd % 6,ow:=true}
theorem Ac.X7 {a:Ac} (h:a.ok B):a.wk.ok B:={h with kd:=by show 0≤7+a.kd % 6∧_≤255;show 0≤7+a.kd % 6∧7+a.kd % 6≤255;omega}
theorem Re (hm:dF B L m) (hg:m.g.In) (hform:m.g.cM=true) {q1:Oq} {c1:Nat} {sc:List Ac} (hsc:Rd B q1 (sc.map Ac.cs).flatten) (hok:∀a∈sc,a.ok B) {p:Bool} {Kr:Am.St→Prop} {Ke:Nat→Am.St→Prop}:∀(k i:Nat) (u:Un) (o:Ob) (N:Nat) {H:af},i+k=30→Ug m.g u o [] N 0→u.s.a.bA≤0→u.s.f.ep=1→N+(k+1)*(9*CW)<281474976710656→gA B H x m u L→(∀u' o' N' H',Ug m.g u' o' [] N' 0→u'.s.a.bA≤0→u'.s.f.ep=1→N'+9*CW<281474976710656→gA B H' x m u' L→Ke 0 (St.mk (ab [(2,T.v (V.bool p)),(7,T.lp 7 0),(8,T.v (V.aj (some (x.aH,0)))),(10,T.v (V.aj (some (x.js,0))))]) (ab [(7,F3 m)]) H'))→lo 3 8 (St.mk (ab [(1,T.v (V.slice q1 sc.length c1)),(2,T.v (V.bool p)),(7,T.lp 7 0),(8,T.v (V.aj (some (x.aH,0)))),(10,T.v (V.aj (some (x.js,0)))),(12,T.v (V.int .i64 (i:Int)))]) (ab [(7,F3 m)]) H) Kr Ke
 |0,i,u,o,N,H,hi,U,ha,Lp,hN,hS,hk=>by
  unfold F3 at*;rw[QL]
  have e:(decide ((i:Int)<(sc.length:Int))&&decide ((i:Int)<30))=false:=by
   rw[←Bool.decide_and];exact decide_eq_false (by omega)
  rw[e,ai];exact hk u o N H U ha Lp (by omega) hS
 |k+1,i,u,o,N,H,hi,U,ha,Lp,hN,hS,hk=>by
  unfold F3 at*;rw[QL];rw[Nat.succ_mul] at hN;by_cases hlt:i<sc.length∧i<30
  ·have e1:(i:Int)<(sc.length:Int):=by omega
   have e2:(i:Int)<30:=by omega
   have e3:0≤(i:Int):=by omega
   have e4:IntKind.i64.wrap ((i:Int)+1)=((i+1:Nat):Int):=aQ (by omega);obtain⟨s1,s2',HF,_,_⟩:=Qg (hS.rd hsc) hlt.1;have hmem:=List.getElem_mem hlt.1;have hac:=hok _ hmem;obtain⟨a,haa⟩:∃a,a=sc[i]'hlt.1:=⟨_,rfl⟩;rw[←haa] at HF hac;simp only[e1,e2,e3,decide_true,Bool.and_self,au,s1,s2',HF,Int.toNat_natCast,Ac.dX,Ac.eU,ay,qM,qN,n7];rw[zq hS];simp only[fl,cY,R.dX,R.eU,Bool.and_self,ay]
   have ekd:IntKind.u8.wrap (7+Int.tmod a.kd 6)=7+a.kd % 6:=by
    have:=hac.kd;rw[Int.tmod_eq_emod_of_nonneg this.1];exact IntWalk.u8_in _ (by omega)
   have ecs:UG (V.aa (ae a.cs 0)) (IntKind.u8.wrap (7+Int.tmod (V.aa (ae a.cs 1)) 6)) (V.aa (ae a.cs 2)) (V.aa (ae a.cs 3)) (V.aa (ae a.cs 4)) (V.aa (ae a.cs 5)) (V.ax (ae a.cs 6)) true (V.ak (ae a.cs 8)) (V.ao (ae a.cs 8)) (V.aA (ae a.cs 8)) (V.aa (ae a.cs 9))=a.wk.cs:=by
    show UG a.ho (IntKind.u8.wrap (7+Int.tmod a.kd 6)) a.lb a.ky a.nw a.ty a.su true a.q a.d.length a.c a.n=_
    rw[ekd];rfl
   rw[ecs];have hwk:=Ac.X7 hac;refine TW hS hwk u.r (n:=1) (by omega) (by omega) (fun H1 h1=> ?_);have h1:gA B H1 x m u L:=h1;simp only[dZ,gr,eF,iH,fl,cY,Cm.dX,Cm.eU,dW,bI,Bool.or_false,Bool.and_self,ay,List.length_cons,List.length_nil,Nat.reduceAdd,jx,decide_true];refine Dr hm hg hform h1 U (by omega) (by have:=hg.s;simp;omega) ha (a.wk.ho % 4) (a.wk.cm u.r 1) a.wk.bW (a.wk.X0 _ _) (Ac.X1 hwk _ _) (a.wk.X6 _ _) (by omega) (fun v q3 n3 H2 hd kp U2 h2=> ?_);have h3:gA B H2 x m v L:=(h2.ord [6]).drop;simp only[dZ,gr,eF,iH,fl,cY,Rs.aJ,dW,bI,Bool.or_false,Bool.and_self,ay,List.length_cons,List.length_nil,Nat.reduceAdd,jx,decide_true,e4];have ih:=Re (c1:=c1) (p:=p) (Kr:=Kr) (Ke:=Ke) hm hg hform hsc hok k (i+1) v _ (N+9*CW) (by omega) U2 (kp.zF ha).1 (kp.ep.trans Lp) (by omega) h3 (by unfold F3;exact hk);unfold F3 at ih;exact ih
  ·have e:(decide ((i:Int)<(sc.length:Int))&&decide ((i:Int)<30))=false:=by
    rw[←Bool.decide_and];exact decide_eq_false (by omega)
   rw[e,ai];exact hk u o N H U ha Lp (by omega) hS
end
section
variable {B:af} {L:List cq} {H:af} {K:V→af→Prop} {x:Ui} {m:Gm} {mid:Nat}
theorem N9 {u:Un} (h:az B H (cR x.js 93 (KR x m u)::L)):cl 15 [.aj (some (x.js,0))] H K=K (.agg u.r.cs) H:=by
 have hg:=h.get;have r1:H.inb x.js 7 12=true:=dI hg 7 12;have r2:H.sub x.js 7 12=u.r.cs:=by rw[kg hg];rfl
 rw[WA];simp only[Option.isNone_some,Option.isSome_some,Nat.zero_add,r1,r2,R.dX,R.eU,AJ,reduceIte,Nat.reduceEqDiff]
theorem zu {aH:Nat} {a:Ar} {o:Ob} {ds:List Nat} {N b:Nat} (h:az B H (df aH a::L)) (hm:dF B L m) (hform:m.g.cM=true) (hg:m.g.In) (U:Up m.g a o ds N b) (hb:b<2147483648) (ha:a.bA≤0) (hf:a.aK≤2) {F:V→V→af→Prop} (k:∀u1 u2 H',(∀K:V→af→Prop,cl 15 [.aj (some (u1,0))] H' K=K (.agg o.r.cs) H')→(∀K:V→af→Prop,cl 15 [.aj (some (u2,0))] H' K=K (.agg o.r.cs) H')→F (.tuple [.aj (some (u1,0)),.int .i64 0]) (.tuple [.aj (some (u2,0)),.int .i64 0]) H'):cl 13 [.aj (some (aH,0)),m.v,.int .u64 2] H (fun v3 H'=>ag (V.aL 2 v3&&(V.av .aj (ae v3.aq 0)&&V.av (.int .i64) (ae v3.aq 1))) (cl 13 [.aj (some (aH,0)),m.v,.int .u64 3] H' (fun v4 H'=>ag (V.aL 2 v4&&(V.av .aj (ae v4.aq 0)&&V.av (.int .i64) (ae v4.aq 1))) (F v3 v4 H')))):=by
 refine nj h hm hform hg U hb ha (ep:=2) ⟨by omega,by omega⟩ (by omega) (fun x1 v1 H1 hx1 U1 HB OK Zm _ h1=> ?_);simp only[AJ,reduceIte,Nat.reduceEqDiff];obtain⟨t,ht,_⟩:=U1.t;have U2:=U1.leave v1.s.a rfl rfl ht.on ht.dC rfl;have h2:=h1.sG;rw[hx1] at h2;refine nj h2 (((((hm.bO _).bO _).bO _).bO _).bO _) hform hg U2 hb HB (ep:=3) ⟨by omega,by omega⟩ (by omega) (fun x2 v2 H2 ux U3 ha3 hf3 he3 _ h3=> ?_);simp only[AJ,reduceIte,Nat.reduceEqDiff];refine k x1.js x2.js H2 (fun K=> ?_) (fun K=> ?_)
 ·rw[N9 (x:=x1) (m:=m) (u:=v1) (h3.ord [6]),U1.r]
 ·rw[zq h3,U3.r];rfl
theorem Ab (h0:az H H []) (x0:Int) (q:Oq) (len cap:Nat) (p:Bool) (l0:0≤x0) (g0:x0≤255) (hs:K9 cP.P H 38 q len cap):cl 3 [.int .u8 x0,.slice q len cap,.bool p] H fun v _=>v=.bool true:=by
 obtain⟨sc,rfl,hsc,hok⟩:=Lc hs;rw[eq3];refine N7 h0 (fun H1 h1=> ?_);simp only[gS,cn,ay,Bool.not_true,ai];obtain⟨n0,rfl⟩:∃n0:Nat,x0=(n0:Int):=⟨x0.toNat,by omega⟩;refine v7 h1 n0 (by omega) (fun m H2 Ou hmc h2=> ?_);have hform:m.g.cM=true:=by rw[Ou];exact EI n0 (by omega)
 have hl:m.g.bP.length≤1000000:=by rw[Ou];unfold Td;simp only;split<;>simp
 have Qy:=bZ.eH hform;have hg:=Qy.in hl;have pX:=bZ.nf hform;have hlt:=sw hg Qy;have hv:m.v=.agg (ee m.g.aF m.g.aB m.g.aG m.q m.g.bP.length m.c):=rfl;have Lq:∀L:List cq,dF H (Iy m::L) m:=fun L=>Iy.ok hmc
 rw[hv];simp only[fl,cY,uu,ur,Bool.and_self,ay,f25,uV,mH,mI,mJ,mK,bI,cy,bV,cz];refine Jt h2 (Lq []) hform hg (fun aH a H3 U0 ha0 Ry _ h3=> ?_);simp only[AJ,reduceIte,Nat.reduceEqDiff, ←hv];refine nj h3 (Lq []) hform hg U0 (by omega) (by omega) (ep:=1) ⟨by omega,by omega⟩ (by rw[Ry];decide) (fun x u H5 hx U1 HB OK Zm _ h5=> ?_);have hcg:aJ AF (ee m.g.aF m.g.aB m.g.aG m.q m.g.bP.length m.c)=true:=rfl;simp only[AJ,reduceIte,Nat.reduceEqDiff];have hL:=Re (m:=m) (x:=x) (c1:=cap) (L:=Iy m::[]) (H:=H5) (p:=p) (Kr:= ?_) (Ke:= ?_) (Lq []) hg hform hsc hok 30 0 u _ 0 (by omega) U1 HB Zm (by decide) h5 ?_
 ·unfold F3 at hL;rw[hx] at hL;exact hL
 intro u' o' N' H8 U8 ha8 he8 hN8 h8;unfold F3;simp only[AN,reduceIte,Nat.reduceEqDiff,hcg];rw[zq h8];simp only[AN,reduceIte,Nat.reduceEqDiff,R.dX,R.eU];obtain⟨t8,ZK,_⟩:=U8.t;have abR:=ZK.aK
 have h9:az H H8 (df aH u'.s.a::Iy m::[]):=by
  have:=az.drop (az.drop (az.drop (az.drop (az.drop h8))));rw[hx] at this;exact this
 have hur:=U8.r;rw[hx];cases p
 ·simp only[AJ,reduceIte,Nat.reduceEqDiff];have UU:=U8.leave u'.s.a rfl rfl ZK.on ZK.dC rfl;refine zu h9 (Lq []) hform hg UU (by omega) ha8 (by omega) (fun u1 u2 H' R1 R2=> ?_);have e:(wb o' false).r=u'.r:=by rw[hur];rfl
  rw[e] at R1 R2;simp only[AJ,reduceIte,Nat.reduceEqDiff,R1,R2,R.dX,R.eU,R.eq_self]
 ·simp only[AJ,reduceIte,Nat.reduceEqDiff];refine GV h9 (by unfold pH;rw[ZK.dC];trivial) 0 (fun H9 xf=> ?_);simp only[AJ,reduceIte,Nat.reduceEqDiff];have UU:=U8.restart (by omega) 0;refine zu xf (Lq []) hform hg UU (by omega) (Int.le_refl 0) (by show (0:Int)≤2;omega) (fun u1 u2 H' R1 R2=> ?_);have e:(wb o' true).r=ri u'.r true:=by rw[hur];rfl
  rw[e] at R1 R2;have Vb:ae u'.r.cs 11=.bool u'.r.la:=rfl;have YY:∀r:R,cQ (V.aa (ae r.cs 0)) (V.aa (ae r.cs 1)) (V.aa (ae r.cs 2)) (V.aa (ae r.cs 3)) (V.aa (ae r.cs 4)) (V.aa (ae r.cs 5)) (V.aa (ae r.cs 6)) (V.aa (ae r.cs 7)) (V.aa (ae r.cs 8)) (V.aa (ae r.cs 9)) 0 (V.ax (ae r.cs 11))=R.cs ⟨r.k,r.ty,r.ho,0,r.la⟩:=fun _=>rfl
  simp only[AJ,reduceIte,Nat.reduceEqDiff,R1,R2,R.dX,R.eU,R.eq_self,Bool.not_true,ai];cases hla:u'.r.la
  ·have e5:ri u'.r true=R.gX:=by unfold ri;rw[hla];rfl
   rw[e5];simp only[Vb,hla,cn,ai,PT,R.eq_self]
  ·have e5:ri u'.r true=⟨u'.r.k,u'.r.ty,u'.r.ho,0,u'.r.la⟩:=by unfold ri;rw[hla];rfl
   rw[e5];simp only[YY,Vb,hla,cn,au];exact congrArg V.bool (R.eq_self ⟨u'.r.k,u'.r.ty,u'.r.ho,0,true⟩)
end
theorem l6:ownKnob Tryz.prog.godebug=none:=by kernel_rfl
theorem abd:laidOutB Tryz.prog=true:=by kernel_rfl
theorem T0 {l:List TypeId} (h:(l.all fun t=>Tryz.prog.readableRec t&&Nat.blt t Tryz.prog.types.size)=true):∀t∈l,cP.P.readableRec t=true∧t<cP.P.types.size:=by
 intro t ht;have h1:=List.all_eq_true.1 h t ht;rw[Bool.and_eq_true] at h1;exact⟨h1.1,Nat.le_of_ble_eq_true h1.2⟩
end Go.Proofs.YtlgdkndamddpkaaGreat
end
