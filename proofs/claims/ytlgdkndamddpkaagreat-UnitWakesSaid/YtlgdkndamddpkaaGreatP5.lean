/- Part 5 of the texts behind the law UnitWakes: what its row needs (an abstract machine, its equations, and what the program computes). -/
import Derived.Test.YtlgdkndamddpkaaGreatP4
set_option maxRecDepth 100000
set_option linter.unusedSimpArgs false
set_option linter.unusedVariables false
set_option linter.unusedSectionVars false
section
namespace Go.Proofs.YtlgdkndamddpkaaGreat
open Go.Am
theorem Be {b h:Nat} (b':Nat):∀{l:List (Nat×Nat)},(fq b l).isSome=true→fq b' (pN b h l)=if b'=b then some h else fq b' l
 |[],hs=>by cases hs
 |x::l,hs=>by
  rw[pN];by_cases hx:x.1=b
  ·rw[if_pos hx,fq];by_cases hb:b'=b
   ·subst hb;simp [hx]
   ·rw[if_neg hb,if_neg (by show¬x.1=b';omega),fq,if_neg (by omega)]
  ·rw[fq,if_neg hx] at hs;rw[if_neg hx,fq];by_cases UY:x.1=b'
   ·rw[if_pos UY,if_neg (by omega),fq,if_pos UY]
   ·rw[if_neg UY,Be b' hs,fq,if_neg UY]
theorem fk {p:Po} {b h:Nat} (b':Nat) (hs:(p.how b).isSome=true):(p.cg b h).how b'=if b'=b then some h else p.how b':=Be b' hs
theorem sf {b h w k:Nat}:∀{l:List (Nat×Nat)},fq b l=some w→(pN b h l).countP (fun x=>decide (x.2=k))+(if w=k then 1 else 0)=l.countP (fun x=>decide (x.2=k))+(if h=k then 1 else 0)
 |[],hs=>by cases hs
 |x::l,hs=>by
  rw[fq] at hs;rw[pN];by_cases hx:x.1=b
  ·rw[if_pos hx] at hs⊢;cases hs;rw[List.countP_cons,List.countP_cons];simp only[decide_eq_true_eq];omega
  ·rw[if_neg hx] at hs⊢;have:=sf (h:=h) (k:=k) hs;rw[List.countP_cons,List.countP_cons];omega
theorem eG {p:Po} {b h w:Nat} (k:Nat) (hs:p.how b=some w):(p.cg b h).count k+(if w=k then 1 else 0)=p.count k+(if h=k then 1 else 0):=sf hs
theorem tZ {b h:Nat}:∀{l:List (Nat×Nat)},fq b l=some h→(b,h)∈l
 |x::l,hs=>by
  rw[fq] at hs;split at hs
  ·rename_i e;cases hs;rw[←e];exact List.mem_cons_self
  ·exact List.mem_cons_of_mem _ (tZ hs)
theorem ua {b h:Nat}:∀{l:List (Nat×Nat)},(l.map Prod.fst).Nodup→(b,h)∈l→fq b l=some h
 |x::l,hn,hm=>by
  rw[List.map_cons,List.nodup_cons] at hn;rw[fq];rcases List.mem_cons.1 hm with rfl|hm
  ·rw[if_pos rfl]
  ·rw[if_neg (fun e=>hn.1 (by rw[e];exact List.mem_map.2 ⟨_,hm,rfl⟩))];exact ua hn.2 hm
theorem yS:∀{l:List (Nat×Nat)} (k:Nat),(l.map Prod.fst).Nodup→l.countP (fun x=>decide (x.2=k))=(l.map Prod.fst).countP (fun b=>decide (fq b l=some k))
 |[],k,_=>rfl
 |x::l,k,hn=>by
  rw[List.map_cons,List.nodup_cons] at hn;rw[List.countP_cons,List.map_cons,List.countP_cons,yS k hn.2];have e1:fq x.1 (x::l)=some x.2:=by rw[fq,if_pos rfl]
  have e2:(l.map Prod.fst).countP (fun b=>decide (fq b l=some k))=(l.map Prod.fst).countP (fun b=>decide (fq b (x::l)=some k)):=List.countP_congr (fun b hb=>by
   rw[fq,if_neg (fun e=>hn.1 (by rw[e];exact hb))])
  rw[e1, ←e2];simp
theorem vo {p:Po} (hp:p.ok) {us:List Nat} (hu:p.bl.map Prod.fst=us) (k:Nat):p.count k=us.countP (fun b=>decide (p.how b=some k)):=by
 have:=yS k hp.E4;rw[hu] at this;exact this
theorem wV {p:Po} (hp:p.ok) {b:Nat} (h:p.j5=some b):p.how b=some 2:=ua hp.E4 (pO h)
theorem pR {p:Po}:p.j5=none↔p.count 2=0:=by
 unfold Po.j5 Po.count
 induction p.bl with
 |nil=>simp [CS]
 |cons x l ih=>
  rw[CS,List.countP_cons];by_cases h:x.2=2
  ·simp [h]
  ·simp [h,ih]
theorem fJ {p:Po} {b h:Nat} (hs:p.how b≠some 3) (ho:h≠2∨p.count 2=0):p.set b h=p.cg b h:=by
 unfold Po.set;rw[if_neg (fun e=>hs e.1)];split
 ·rename_i e;rw[Po.jo,pR.2 (ho.resolve_left (fun h=>h e))]
 ·rfl
theorem Tw {p:Po} (hp:p.ok) {b h:Nat} (hs:p.how b=some h):h≤3:=hp.h _ (tZ hs)
theorem pS {h:Nat} {w:List Int}:∀{l:List (Nat×Nat)} {o:Option Nat},fZ h w l o=none→o=none∧∀x∈l,x.2=h→w.length≤x.1
 |[],o,hn=>⟨hn,fun x hx=>by cases hx⟩
 |x::l,o,hn=>by
  rw[lS] at hn;split at hn
  ·rename_i hx;obtain⟨h1,h2⟩:=pS hn;refine⟨h1,fun y hy e=> ?_⟩;rcases List.mem_cons.1 hy with rfl|hy
   ·exact hx.resolve_left (fun h=>h e)
   ·exact h2 y hy e
  ·have:∀b,fZ h w l (some b)≠none:=fun b hb=>by cases (pS hb).1
   cases o with
   |none=>exact absurd hn (this _)
   |some b=>
    simp only at hn;split at hn
    ·exact absurd hn (this _)
    ·exact absurd hn (this _)
theorem lj {h:Nat} {w:List Int} {b:Nat}:∀{l:List (Nat×Nat)} {o:Option Nat},fZ h w l o=some b→(∀c,o=some c→w.getD b 0≤w.getD c 0)∧∀x∈l,x.2=h→x.1<w.length→w.getD b 0≤w.getD x.1 0
 |[],o,hn=>⟨fun c hc=>by rw[fZ] at hn;rw[hn] at hc;cases hc;exact Int.le_refl _,fun x hx=>by cases hx⟩
 |x::l,o,hn=>by
  rw[lS] at hn;split at hn
  ·rename_i hx;obtain⟨h1,h2⟩:=lj hn;refine⟨h1,fun y hy e hl=> ?_⟩;rcases List.mem_cons.1 hy with rfl|hy
   ·rcases hx with hx|hx
    ·exact absurd e hx
    ·omega
   ·exact h2 y hy e hl
  ·cases o with
   |none=>
    obtain⟨h1,h2⟩:=lj hn;refine⟨fun c hc=>(by cases hc),fun y hy e hl=> ?_⟩;rcases List.mem_cons.1 hy with rfl|hy
    ·exact h1 _ rfl
    ·exact h2 y hy e hl
   |some b0=>
    simp only at hn;split at hn
    ·rename_i hlt;obtain⟨h1,h2⟩:=lj hn;have:=h1 _ rfl;refine⟨fun c hc=>(by cases hc;omega),fun y hy e hl=> ?_⟩;rcases List.mem_cons.1 hy with rfl|hy
     ·exact this
     ·exact h2 y hy e hl
    ·rename_i hlt;obtain⟨h1,h2⟩:=lj hn;have:=h1 _ rfl;refine⟨fun c hc=>(by cases hc;exact this),fun y hy e hl=> ?_⟩;rcases List.mem_cons.1 hy with rfl|hy
     ·omega
     ·exact h2 y hy e hl
theorem yT {p:Po} {h:Nat} {w:List Int} {b:Nat} (hb:p.how b=some h) (hl:b<w.length):∃d,p.iM h w=some d:=by
 cases hn:p.iM h w with
 |some d=>exact⟨d,rfl⟩
 |none=>
  have:=(pS hn).2 _ (tZ hb) rfl;simp only at this;omega
def Pm.at (m:Pm) (x:Nat):Pl:=m.cw.getD x none
theorem I4 {m:Pm} {x:Nat} {o:Nat×Nat} (h:m.at x=some o):x<m.cw.length:=by
 unfold Pm.at at h;rw[List.getD_eq_getElem?_getD] at h;by_cases hx:x<m.cw.length
 ·exact hx
 ·rw[List.getElem?_eq_none (by omega)] at h;cases h
theorem yU {m:Pm} {x:Nat} (h:x<m.cw.length):m.cw[x]=m.at x:=by
 unfold Pm.at;rw[List.getD_eq_getElem?_getD,List.getElem?_eq_getElem h];rfl
theorem Ns {m:Pm} {x:Nat} {o:Pl} (hx:x<m.cw.length) (y:Nat):(m.put x o).at y=if y=x then o else m.at y:=by
 unfold Pm.at Pm.put;rw[List.getD_eq_getElem?_getD,List.getElem?_set];by_cases h:x=y
 ·subst h;simp [hx]
 ·rw[if_neg h,if_neg (fun e=>h e.symm),List.getD_eq_getElem?_getD]
theorem qv {b:Nat} {o:Pl}:uA b o=true↔∃p,o=some (b,p):=by
 cases o with
 |none=>simp [uA]
 |some x=>
  obtain⟨b',p⟩:=x;simp only[uA,beq_iff_eq,Option.some.injEq,Prod.mk.injEq,decide_eq_true_eq];exact⟨fun h=>⟨p,h,rfl⟩,fun⟨_,h,_⟩=>h⟩
theorem pT {m:Pm} {b:Nat} (h:m.dO b=0) (x p:Nat):m.at x≠some (b,p):=by
 intro e;have hx:=I4 e;have:=List.countP_eq_zero.1 h _ (List.getElem_mem hx);rw[yU hx] at this;exact this (qv.2 ⟨p,e⟩)
theorem wW {m:Pm} {b:Nat} (h:m.dO b≠0):∃x p,m.at x=some (b,p):=by
 have hp:0<m.dO b:=by omega
 obtain⟨o,ho,hb⟩:=List.countP_pos_iff.1 hp;obtain⟨x,hx,rfl⟩:=List.mem_iff_getElem.1 ho;obtain⟨p,hp⟩:=qv.1 hb;exact⟨x,p,by rw[←yU hx];exact hp⟩
theorem Nt {m:Pm} {x v p d q:Nat} (hx:m.at x=some (v,p)) (hd:d≠v):(m.put x (some (d,q))).dO v+1=m.dO v:=by
 have hl:=I4 hx;have e1:uA v m.cw[x]=true:=by rw[yU hl];exact qv.2 ⟨p,hx⟩
 have e2:uA v (some (d,q))=false:=by
  rw[←Bool.not_eq_true];intro h;obtain⟨_,h⟩:=qv.1 h;cases h;exact hd rfl
 have hpos:0<m.dO v:=List.countP_pos_iff.2 ⟨_,List.getElem_mem hl,e1⟩;show ((m.cw.set x (some (d,q))).countP (uA v))+1=_
 rw[List.countP_set hl];simp only[e1,e2,if_true,Bool.false_eq_true,if_false];show m.dO v-1+0+1=m.dO v
 omega
theorem yV (b p:Nat):∀(l:List Pl) (i:Nat) (f:Nat→Int),DE b l i f p=f p∨∃(j:Nat) (hj:j<l.length),l[j]=some (b,p)∧DE b l i f p=((i+j+1:Nat):Int)
 |[],i,f=>.inl rfl
 |none::l,i,f=>by
  rw[DE];rcases yV b p l (i+1) f with h|⟨j,hj,h1,h2⟩
  ·exact .inl h
  ·exact .inr ⟨j+1,by rw[List.length_cons];omega,by simpa using h1,by rw[h2];congr 1;omega⟩
 |some x::l,i,f=>by
  rw[DE];rcases yV b p l (i+1) (if x.1=b then CO f x.2 ((i+1:Nat):Int) else f) with h|⟨j,hj,h1,h2⟩
  ·rw[h];by_cases hx:x.1=b
   ·rw[if_pos hx];by_cases hp:p=x.2
    ·right;refine⟨0,by simp, ?_, ?_⟩
     ·simp only[List.getElem_cons_zero];rw[←hx,hp]
     ·unfold CO;simp [hp]
    ·left;unfold CO;simp [hp]
   ·rw[if_neg hx];exact .inl rfl
  ·exact .inr ⟨j+1,by rw[List.length_cons];omega,by simpa using h1,by rw[h2];congr 1;omega⟩
theorem C2 (b p:Nat):∀(l:List Pl) (i:Nat) (f:Nat→Int),(∀k,0≤f k)→(0<f p∨some (b,p)∈l)→0<DE b l i f p
 |[],i,f,hf,h=>by
  rcases h with h|h
  ·exact h
  ·cases h
 |none::l,i,f,hf,h=>by
  rw[DE];refine C2 b p l (i+1) f hf (h.imp id fun h=> ?_);rcases List.mem_cons.1 h with h|h
  ·cases h
  ·exact h
 |some x::l,i,f,hf,h=>by
  rw[DE];refine C2 b p l (i+1) _ (fun k=> ?_) ?_
  ·split
   ·unfold CO;cases Nat.beq k x.2
    ·exact hf k
    ·simp only[cond_true];omega
   ·exact hf k
  ·rcases h with h|h
   ·left;split
    ·unfold CO;cases Nat.beq p x.2
     ·exact h
     ·simp only[cond_true];omega
    ·exact h
   ·rcases List.mem_cons.1 h with h|h
    ·left;have:x=(b,p):=by cases h;rfl
     subst this;simp only[if_true];unfold CO;rw[Nat.beq_refl,cond_true];omega
    ·exact .inr h
theorem PG {m:Pm} {b:Nat} {a:Int} (h:a∈m.on b):∃x p,a=(x:Nat)∧m.at x=some (b,p):=by
 unfold Pm.on at h;split at h
 ·cases h
 ·unfold Lr at h;obtain⟨p,hp,he⟩:=List.mem_filterMap.1 h;split at he
  ·rename_i hpos;rcases yV b p m.cw 0 (fun _=>0) with h|⟨j,hj,h1,h2⟩
   ·have:m.by b p=0:=h
    omega
   ·have e:m.by b p=((0+j+1:Nat):Int):=h2
    cases he;exact⟨j,p,by omega,by rw[←yU hj];exact h1⟩
  ·cases he
theorem XN {m:Pm} (hm:m.ok) {b:Nat} (h:m.dO b≠0):m.on b≠[]:=by
 obtain⟨x,p,hx⟩:=wW h;have hl:=I4 hx;have hmem:some (b,p)∈m.cw:=by rw[←hx, ←yU hl];exact List.getElem_mem hl
 have hp:=(hm.pl b p hmem).2;have hpos:0<m.by b p:=C2 b p m.cw 0 (fun _=>0) (fun _=>Int.le_refl _) (.inr hmem)
 unfold Pm.on;rw[if_neg h];unfold Lr;intro hn
 have:m.by b p-1∈(List.range 32).filterMap fun p=>if m.by b p>0 then some (m.by b p-1) else none:=
  List.mem_filterMap.2 ⟨p,List.mem_range.2 hp,by rw[if_pos hpos]⟩
 rw[List.drop_zero] at hn;rw[hn] at this;cases this
theorem C3 {α:Type} (f h:α→Nat):∀l:List α,(∀x∈l,f x≤h x)→(l.map f).sum≤(l.map h).sum
 |[],_=>Nat.le_refl _
 |x::l,hl=>by
  rw[List.map_cons,List.map_cons,List.sum_cons,List.sum_cons];have:=hl x List.mem_cons_self;have:=C3 f h l (fun y hy=>hl y (List.mem_cons_of_mem _ hy));omega
theorem I5 {α:Type} (f h:α→Nat):∀l:List α,(l.map fun x=>f x+h x).sum=(l.map f).sum+(l.map h).sum
 |[]=>rfl
 |x::l=>by
  rw[List.map_cons,List.map_cons,List.map_cons,List.sum_cons,List.sum_cons,List.sum_cons,I5 f h l];omega
theorem yW {α:Type} (l:List α):(l.map fun _=>0).sum=0:=by
 induction l with
 |nil=>rfl
 |cons x l ih=>rw[List.map_cons,List.sum_cons,ih]
theorem I6 {us:List Nat} (hn:us.Nodup):∀l:List Pl,(us.map fun b=>l.countP (uA b)).sum≤l.length
 |[]=>by show (us.map fun _=>0).sum≤0;rw[yW];exact Nat.le_refl _
 |o::l=>by
  have ih:=I6 hn l;have e:(us.map fun b=>(o::l).countP (uA b))=us.map fun b=>l.countP (uA b)+(if uA b o=true then 1 else 0):=List.map_congr_left fun b _=>List.countP_cons
  rw[e,I5 (fun b=>l.countP (uA b))]
  have h1:(us.map fun b=>if uA b o=true then 1 else 0).sum≤1:=by
   cases o with
   |none=>
    have:(us.map fun b=>if uA b none=true then 1 else 0).sum≤(us.map fun _=>0).sum:=C3 _ _ _ (fun b _=>by rw[show uA b none=false from rfl];exact Nat.le_refl _);rw[yW] at this;omega
   |some x=>
    clear e ih
    induction us with
    |nil=>simp
    |cons b us ih=>
     rw[List.nodup_cons] at hn;rw[List.map_cons,List.sum_cons];by_cases hb:uA b (some x)=true
     ·rw[if_pos hb]
      have hz:(us.map fun b=>if uA b (some x)=true then 1 else 0).sum≤(us.map fun _=>0).sum:=C3 _ _ _ (fun b' hb'=>by
       have:¬uA b' (some x)=true:=fun h=>by
        obtain⟨p1,e1⟩:=qv.1 hb;obtain⟨p2,e2⟩:=qv.1 h;rw[e1] at e2;cases e2;exact hn.1 hb'
       rw[if_neg this];exact Nat.le_refl _)
      rw[yW] at hz;omega
     ·rw[if_neg hb];have:=ih hn.2;omega
  rw[List.length_cons];omega
structure sg (g:bZ) (a:Ar) (ds:List Nat):Prop where
 n:(a.bs.length:Int)=g.aF
 p:a.aB=g.aB
 len:∀b∈a.bs,(b.pg.length:Int)≤g.aB
 d:∀b∈a.bs,∀d∈b.pg,d.length=96
 bX:∀b∈g.us,(a.bk b).bX=true→(a.bk b).pg≠[]
 fc:∀b∈g.us,b∉ds→(a.bk b).fc≤0∧(a.bk b).aW=false∧(a.bk b).aN=false
theorem sg.lt {g:bZ} {a:Ar} {ds:List Nat} (h:sg g a ds) {b:Nat} (hb:b∈g.us):b<a.bs.length:=by
 have:=m0 hb;have:=h.n;omega
theorem jq {a:Ar} {b:Nat} (h:b<a.bs.length):a.bk b∈a.bs:=List.mem_of_getElem? (yR h)
theorem sg.UJ {g:bZ} {a a':Ar} {ds:List Nat} {b:Nat} {k:Bk} (h:sg g a ds) (hb:b∈g.us) (he:uB a a' b k) (h1:(k.pg.length:Int)≤g.aB) (h2:∀d∈k.pg,d.length=96) (h3:k.bX=true→k.pg≠[]) (h4:b∉ds→k.fc≤0∧k.aW=false∧k.aN=false):sg g a' ds where
 n:=by rw[he.bs,List.length_set];exact h.n
 p:=by rw[he.aB];exact h.p
 len:=fun x hx=>by
  rw[he.bs] at hx;rcases List.mem_or_eq_of_mem_set hx with hx|rfl
  ·exact h.len x hx
  ·exact h1
 d:=fun x hx=>by
  rw[he.bs] at hx;rcases List.mem_or_eq_of_mem_set hx with hx|rfl
  ·exact h.d x hx
  ·exact h2
 bX:=fun i hi=>by
  rw[he.bk (h.lt hb)];split
  ·exact h3
  ·exact h.bX i hi
 fc:=fun i hi hn=>by
  rw[he.bk (h.lt hb)];split
  ·rename_i e;subst e;exact h4 hn
  ·exact h.fc i hi hn
open Classical in
noncomputable def jP (g:bZ) (a:Ar):Nat:=g.us.countP fun b=>decide ((a.bk b).aN=false∧lB (vw g a) b)
def lk (g:bZ) (a:Ar):Nat:=g.us.countP fun b=>(a.bk b).aN
structure Cr (g:bZ) (a:Ar) (c:Nat→List UInt8) (ds:List Nat) (N:Nat):Prop where
 ph:sg g a ds
 gd:Gd (vw g a) c
 e:(lk g a:Int)≤g.aG→(jP g a:Int)+g.aG+1≤g.us.length
 seq:∀b,∀f∈vw g a b,f.s.seq≤N
 sp:∀i∈g.us,∀j∈g.us,(a.bk i).aN=false→(a.bk j).aN=false→ff (vw g a) i→ff (vw g a) j→i=j
structure jQ (g:bZ) (a:Ar) (c c':Nat→List UInt8) (ds:List Nat) (N:Nat):Prop where
 off:a.off=true
 dC:pH a
 cw:∀cut:Int,Cr g (bQ a cut) c ds N∨Cr g (bQ a cut) c' ds N
structure Rn (g:bZ) (s:FS) (c:Nat→List UInt8) (ds:List Nat) (N:Nat) (tg:Oq):Prop where
 ok:aX g s
 on:s.a.off=false
 dC:s.a.dC=.no
 aK:s.a.aK≤s.f.ep
 ep:1≤s.f.ep∧s.f.ep<281474976710656
 ph:sg g s.a ds
 gd:Gd (vw g s.a) c
 cw:∀x,(s.f.pm.at x=none∧∀b,∀f∈vw g s.a b,f.s.ar≠x)∨∃b p,s.f.pm.at x=some (b,p)∧∃f∈vw g s.a b,f.p=p∧wF (vw g s.a) c x f
 seq:∀b,∀f∈vw g s.a b,f.s.seq≤s.f.seq
 sn:s.f.seq≤N
 aW:∀b∈g.us,s.f.po.how b=some 3↔(s.a.bk b).aN=true
 hf:∀b∈g.us,(s.a.bk b).aN=false→(s.a.bk b).bX=false
 cZ:∀b∈g.us,s.f.po.how b=some 0→(∀v,tg≠some (b,v))→s.next b=0
 gi:∀b∈g.us,s.f.po.how b=some 1→vw g s.a b=[]∨lB (vw g s.a) b
 j5:∀b∈g.us,s.f.po.how b=some 2→vw g s.a b=[]∨lB (vw g s.a) b∨(s.next b:Int)<g.aB
 DF:∀d v,tg=some (d,v)→d∈g.us∧v∈g.us∧d≠v∧s.f.po.how d=some 0∧s.f.po.how v=some 1∧lB (vw g s.a) v∧(∀f∈vw g s.a d,f.s.fr=v+1∧mt (vw g s.a) f)∧(s.next d:Int)+s.f.pm.dO v<g.aB
 Hb:tg≠none→s.f.po.count 2=0
 one:s.f.po.count 2≤1
 si:(s.f.po.count 3:Int)≤g.aG→1+g.aG≤s.f.po.count 0+s.f.po.count 3
section
variable {g:bZ} {s:FS} {c:Nat→List UInt8} {ds:List Nat} {N:Nat} {tg:Oq}
theorem ll {α:Type} {p q:α→Bool}:∀{l:List α},(∀b∈l,p b=true→q b=true)→l.countP p≤l.countP q:=fun h=>List.countP_mono_left h
theorem ln {p q r:Nat→Bool}:∀{l:List Nat},(∀b∈l,r b=true→p b=true∨q b=true)→l.countP r≤l.countP p+l.countP q
 |[],_=>Nat.le_refl _
 |x::l,h=>by
  have ih:=ln (p:=p) (q:=q) (r:=r) (fun b hb=>h b (List.mem_cons_of_mem _ hb));have hx:=h x List.mem_cons_self;rw[List.countP_cons,List.countP_cons,List.countP_cons];by_cases hr:r x=true
  ·rcases hx hr with hp|hq
   ·rw[if_pos hr,if_pos hp];omega
   ·rw[if_pos hr,if_pos hq];omega
  ·rw[if_neg hr];omega
theorem qw {p q:Nat→Bool} {v:Nat}:∀{l:List Nat},(∀b∈l,p b=true→q b=true)→v∈l→q v=true→p v=false→l.countP p+1≤l.countP q
 |x::l,h,hv,hq,hp=>by
  rw[List.countP_cons,List.countP_cons];rcases List.mem_cons.1 hv with rfl|hv
  ·have:=ll (p:=p) (q:=q) (fun b hb=>h b (List.mem_cons_of_mem _ hb));rw[if_pos hq,if_neg (by simp [hp])];omega
  ·have ih:=qw (fun b hb=>h b (List.mem_cons_of_mem _ hb)) hv hq hp;by_cases hx:p x=true
   ·rw[if_pos hx,if_pos (h x List.mem_cons_self hx)];omega
   ·rw[if_neg hx];omega
theorem Hc {l:List (Nat×Nat)} (h:∀x∈l,x.2≤3):l.countP (fun x=>decide (x.2=0))+l.countP (fun x=>decide (x.2=1))+l.countP (fun x=>decide (x.2=2))+l.countP (fun x=>decide (x.2=3))=l.length:=by
 induction l with
 |nil=>rfl
 |cons x l ih=>
  have ih:=ih (fun y hy=>h y (List.mem_cons_of_mem _ hy));have hx:=h x List.mem_cons_self;simp only[List.countP_cons,List.length_cons,decide_eq_true_eq];have:x.2=0∨x.2=1∨x.2=2∨x.2=3:=by omega
  rcases this with e|e|e|e<;>simp only[e]<;>simp<;>omega
theorem aX.Nu (h:aX g s):s.f.po.count 0+s.f.po.count 1+s.f.po.count 2+s.f.po.count 3=g.us.length:=by
 have:=Hc h.po.h;rw[←h.us,List.length_map];exact this
theorem aX.dO (h:aX g s) (k:Nat):s.f.po.count k=g.us.countP (fun b=>decide (s.f.po.how b=some k)):=vo h.po h.us k
theorem aX.Tx (h:aX g s) {b:Nat} (hb:b∈g.us):s.f.po.how b=some 0∨s.f.po.how b=some 1∨s.f.po.how b=some 2∨s.f.po.how b=some 3:=by
 obtain⟨k,hk⟩:=Option.isSome_iff_exists.1 (h.how hb);have:=Tw h.po hk;have:k=0∨k=1∨k=2∨k=3:=by omega
 rcases this with rfl|rfl|rfl|rfl<;>simp [hk]
theorem yX {a:Ar} {b:Nat} (h:(a.bk b).pg=[]∨(a.bk b).bX=true):vw g a b=[]:=by
 unfold vw;split
 ·exact Bd h
 ·rfl
theorem v9 {v:Vw} {b:Nat} (h:v b=[]):¬lB v b:=fun⟨f,hf,_⟩=>by rw[h] at hf;cases hf
theorem Rn.iD (h:Rn g s c ds N tg) {b:Nat} (hb:b∈g.us) (hf:(s.a.bk b).aN=false) (hn:lB (vw g s.a) b):s.f.po.how b=some 1∨s.f.po.how b=some 2:=by
 rcases h.ok.Tx hb with e|e|e|e
 ·exfalso;by_cases ht:∃v,tg=some (b,v)
  ·obtain⟨v,hv⟩:=ht;obtain⟨_,_,_,_,_,_,hall,_⟩:=h.DF b v hv;obtain⟨f,hf,hm⟩:=hn;exact hm (hall f hf).2
  ·have:=h.cZ b hb e (fun v hv=>ht ⟨v,hv⟩);exact v9 (yX (.inl (List.eq_nil_of_length_eq_zero this))) hn
 ·exact .inl e
 ·exact .inr e
 ·rw[(h.aW b hb).1 e] at hf;cases hf
theorem Rn.lk (h:Rn g s c ds N tg) {a:Ar} (hf:∀b∈g.us,(a.bk b).aN=(s.a.bk b).aN):lk g a=s.f.po.count 3:=by
 rw[h.ok.dO 3];exact List.countP_congr fun b hb=>by rw[hf b hb, ←h.aW b hb];simp
open Classical in
theorem Rn.UK (h:Rn g s c ds N tg) {a:Ar} (hf:∀b∈g.us,(a.bk b).aN=(s.a.bk b).aN) (hn:∀b∈g.us,(a.bk b).aN=false→lB (vw g a) b→s.f.po.how b=some 1∨s.f.po.how b=some 2):
 (Go.Proofs.YtlgdkndamddpkaaGreat.lk g a:Int)≤g.aG→(jP g a:Int)+g.aG+1≤g.us.length:=by
 intro hle;rw[h.lk hf] at hle;have h4:=h.ok.Nu;have hr:=h.si hle
 have:jP g a≤s.f.po.count 1+s.f.po.count 2:=by
  rw[h.ok.dO 1,h.ok.dO 2];refine ln (fun b hb hx=> ?_);have hx:=of_decide_eq_true hx;simpa using hn b hb hx.1 hx.2
 omega
open Classical in
theorem Rn.aa2 (h:Rn g s c ds N tg) {a:Ar} {v d:Nat} (hv:v∈g.us) (oF:s.f.po.how v=some 1) (hf:∀b∈g.us,(a.bk b).aN=(s.a.bk b).aN)
 (hn:∀b∈g.us,(a.bk b).aN=false→lB (vw g a) b→b≠v∧(s.f.po.how b=some 1∨s.f.po.how b=some 2∨b=d)):
 (Go.Proofs.YtlgdkndamddpkaaGreat.lk g a:Int)≤g.aG→(jP g a:Int)+g.aG+1≤g.us.length:=by
 intro hle;rw[h.lk hf] at hle;have h4:=h.ok.Nu;have hr:=h.si hle
 have:jP g a≤s.f.po.count 1+s.f.po.count 2:=by
  have h1:jP g a≤g.us.countP (fun b=>decide (b≠v∧(s.f.po.how b=some 1∨s.f.po.how b=some 2)))+g.us.countP (fun b=>decide (b=d)):=by
   refine ln (fun b hb hx=> ?_);have hx:=of_decide_eq_true hx;obtain⟨h1,h2⟩:=hn b hb hx.1 hx.2;simp only[decide_eq_true_eq];rcases h2 with h2|h2|h2
   ·exact .inl ⟨h1,.inl h2⟩
   ·exact .inl ⟨h1,.inr h2⟩
   ·exact .inr h2
  have h2:g.us.countP (fun b=>decide (b≠v∧(s.f.po.how b=some 1∨s.f.po.how b=some 2)))+1≤g.us.countP (fun b=>decide (s.f.po.how b=some 1∨s.f.po.how b=some 2)):=
   qw (v:=v) (fun b hb hx=>by simp only[decide_eq_true_eq] at hx⊢;exact hx.2) hv (by simp [oF]) (by simp)
  have h3:g.us.countP (fun b=>decide (s.f.po.how b=some 1∨s.f.po.how b=some 2))≤s.f.po.count 1+s.f.po.count 2:=by
   rw[h.ok.dO 1,h.ok.dO 2];exact ln (fun b hb hx=>by simpa using hx)
  have h5:g.us.countP (fun b=>decide (b=d))≤1:=by
   have:=List.nodup_iff_count.1 (m7 g) d
   have e:g.us.countP (fun b=>decide (b=d))=g.us.count d:=by
    unfold List.count;exact List.countP_congr (fun b _=>by simp)
   rw[e];exact this
  omega
 omega
theorem vp {p:Po} (hp:p.ok) {us:List Nat} (hu:p.bl.map Prod.fst=us) {d:Nat} (hd:p.how d=some 2) (h1:p.count 2≤1):p.j5=some d:=by
 have OI:d∈us:=by rw[←hu];exact jO.1 (by show (p.how d).isSome=true;rw[hd];rfl)
 cases ho:p.j5 with
 |none=>
  have:=pR.1 ho;rw[vo hp hu] at this;have:=List.countP_eq_zero.1 this d OI;rw[hd] at this;exact absurd rfl this
 |some o=>
  by_cases hod:o=d
  ·rw[hod]
  ·exfalso;have YT:=wV hp ho;have hou:o∈us:=by rw[←hu];exact jO.1 (by show (p.how o).isSome=true;rw[YT];rfl)
   have h2:us.countP (fun b=>decide (b=d))+1≤us.countP (fun b=>decide (p.how b=some 2)):=
    qw (v:=o) (fun b _ hb=>by simp only[decide_eq_true_eq] at hb⊢;rw[hb];exact hd) hou (by simp [YT]) (by simp [hod])
   have h3:0<us.countP (fun b=>decide (b=d)):=List.countP_pos_iff.2 ⟨d,OI,by simp⟩;rw[vo hp hu] at h1;omega
theorem Rn.Fb (h:Rn g s c ds N tg) {i:Nat} (hi:i∈g.us) (hf:(s.a.bk i).aN=false) (hs:ff (vw g s.a) i):s.f.po.how i=some 2∨∃v,tg=some (i,v):=by
 rcases h.ok.Tx hi with e|e|e|e
 ·by_cases ht:∃v,tg=some (i,v)
  ·exact .inr ht
  ·have:=h.cZ i hi e (fun v hv=>ht ⟨v,hv⟩);exact absurd (yX (.inl (List.eq_nil_of_length_eq_zero this))) hs.1
 ·rcases h.gi i hi e with e|e
  ·exact absurd e hs.1
  ·exact absurd hs (qq e)
 ·exact .inl e
 ·rw[(h.aW i hi).1 e] at hf;cases hf
theorem Rn.sp1 (h:Rn g s c ds N tg) {i j:Nat} (hi:i∈g.us) (hj:j∈g.us) (h1:s.f.po.how i=some 2∨∃v,tg=some (i,v)) (h2:s.f.po.how j=some 2∨∃v,tg=some (j,v)):i=j:=by
 have no:∀i v,tg=some (i,v)→∀j,s.f.po.how j≠some 2:=fun i v e j hj=>by
  have h0:=h.Hb (by rw[e];simp);have:=vp h.ok.po h.ok.us hj (by omega);rw[pR.2 h0] at this;cases this
 rcases h1 with h1|⟨v,h1⟩
 ·rcases h2 with h2|⟨w,h2⟩
  ·have e1:=vp h.ok.po h.ok.us h1 h.one;rw[vp h.ok.po h.ok.us h2 h.one] at e1;exact(Option.some.inj e1).symm
  ·exact absurd h1 (no j w h2 i)
 ·rcases h2 with h2|⟨w,h2⟩
  ·exact absurd h2 (no i v h1 j)
  ·rw[h1] at h2;cases h2;rfl
theorem Rn.Hd (h:Rn g s c ds N tg) {a:Ar} (hf:∀b∈g.us,(a.bk b).aN=(s.a.bk b).aN) (hn:∀i∈g.us,(s.a.bk i).aN=false→ff (vw g a) i→s.f.po.how i=some 2∨∃v,tg=some (i,v)):∀i∈g.us,∀j∈g.us,(a.bk i).aN=false→(a.bk j).aN=false→ff (vw g a) i→ff (vw g a) j→i=j:=fun i hi j hj h1 h2 h3 h4=>
 h.sp1 hi hj (hn i hi (by rw[←hf i hi];exact h1) h3) (hn j hj (by rw[←hf j hj];exact h2) h4)
theorem Rn.cr (h:Rn g s c ds N tg):Cr g s.a c ds N where
 ph:=h.ph
 gd:=h.gd
 e:=h.UK (fun _ _=>rfl) (fun b hb hf hn=>h.iD hb hf hn)
 seq:=fun b f hf=>Nat.le_trans (h.seq b f hf) h.sn
 sp:=h.Hd (fun _ _=>rfl) (fun i hi hf hs=>h.Fb hi hf hs)
theorem He {a:Ar} (hw:a.dC=.no) (cut:Int):(bQ a cut).bs=a.bs∧(bQ a cut).aB=a.aB:=by
 unfold bQ pG;rw[hw];exact⟨rfl,rfl⟩
theorem m8 {a a':Ar} (h:a'.bs=a.bs) (b:Nat):a'.bk b=a.bk b:=by unfold Ar.bk;rw[h]
theorem ub {a a':Ar} (h:a'.bs=a.bs):vw g a'=vw g a:=by
 funext b;unfold vw Ar.fd;rw[h]
theorem sg.congr {a a':Ar} (h:sg g a ds) (hb:a'.bs=a.bs) (hp:a'.aB=a.aB):sg g a' ds where
 n:=by rw[hb];exact h.n
 p:=by rw[hp];exact h.p
 len:=by rw[hb];exact h.len
 d:=by rw[hb];exact h.d
 bX:=fun b hu=>by rw[m8 hb];exact h.bX b hu
 fc:=fun b hu=>by rw[m8 hb];exact h.fc b hu
theorem Cr.congr {a a':Ar} (h:Cr g a c ds N) (hb:a'.bs=a.bs) (hp:a'.aB=a.aB):Cr g a' c ds N where
 ph:=h.ph.congr hb hp
 gd:=by rw[ub hb];exact h.gd
 e:=by
  have e1:Go.Proofs.YtlgdkndamddpkaaGreat.lk g a'=Go.Proofs.YtlgdkndamddpkaaGreat.lk g a:=List.countP_congr fun b hu=>by rw[m8 hb]
  have e2:jP g a'=jP g a:=by
   unfold jP;rw[ub hb];exact List.countP_congr fun b hu=>by rw[m8 hb]
  rw[e1,e2];exact h.e
 seq:=by rw[ub hb];exact h.seq
 sp:=fun i hi j hj=>by rw[ub hb,m8 hb,m8 hb];exact h.sp i hi j hj
end
end Go.Proofs.YtlgdkndamddpkaaGreat
end
section
namespace Go.Proofs.YtlgdkndamddpkaaGreat
open Go.Am
section
variable {g:bZ} {s:FS} {c:Nat→List UInt8} {ds:List Nat} {N:Nat} {tg:Oq}
def qI (s:FS) (x:Sh):Sh:={x with ep:=s.f.ep,seq:=iQ s.f.seq}
structure yY (g:bZ) (x:Sh):Prop where
 k:x.cK=1∨x.cK=2
 a:(x.ar:Int)≤g.cap
 fr:x.fr≤64
 dl:x.data.length≤64
 d0:x.cK=1∨x.data.length=0
theorem yY.cM {x:Sh} (h:yY g x) (hc:g.cap<65000) (he:s.f.ep<281474976710656) (hs:s.f.seq+1<281474976710656):(qI s x).cM∧(qI s x).cK≠3∧(qI s x).seq=s.f.seq+1:=by
 have e:iQ s.f.seq=s.f.seq+1:=by unfold iQ;omega
 have hk:=h.k;have ha:=h.a;refine⟨⟨?_, ?_,he, ?_, ?_,h.fr,h.dl,h.d0⟩, ?_,e⟩
 ·show 1≤x.cK;omega
 ·show x.cK≤3;omega
 ·show iQ s.f.seq<_;omega
 ·show x.ar<_;omega
 ·show x.cK≠3;omega
theorem wX (s:FS) (b:Nat):s.next b=(s.a.bk b).pg.length:=rfl
theorem Bf (h:Rn g s c ds N tg) (hc:g.cap<65000) {b:Nat} (hb:b∈g.us) (h3:s.f.po.how b≠some 3) (hp:(s.next b:Int)<g.aB) {x:Sh} (hx:yY g x) (hs:s.f.seq+1<281474976710656):∃a',(bT s b x=(⟨a',{s.f with seq:=iQ s.f.seq,pm:=s.f.pm.put x.ar (some (b,s.next b))}⟩,0)∧a'.off=false∧a'.dC=.no∧F4 s.a a' b {aD (s.a.bk b) with pg:=(s.a.bk b).pg++[dR (qI s x)]})∨(bT s b x=(⟨a',{s.f with seq:=iQ s.f.seq,po:=s.f.po.set b 3}⟩,8)∧a'.off=false∧a'.dC=.no∧(aD (s.a.bk b)).aW=true∧F4 s.a a' b {aD (s.a.bk b) with pg:=(s.a.bk b).pg++[fo (dR (qI s x)) 0],aN:=true})∨(bT s b x=(⟨a',{s.f with seq:=iQ s.f.seq}⟩,9)∧a'.off=true∧s.a.bA>0∧a'.dC=.prog b (dR (qI s x))∧F4 s.a a' b (aD (s.a.bk b))):=by
 have hlt:=h.ph.lt hb
 have pY:(s.a.bk b).aN=false:=by
  rw[←Bool.not_eq_true];intro e;exact h3 ((h.aW b hb).2 e)
 have hf:=hx.cM hc h.ep.2 hs;have hl:(dR (qI s x)).length=96:=lf _ hx.dl;obtain⟨a',r,he,ho⟩:=Nr (e:=(s.f.ep:Int)) hlt h.on (by rw[h.ph.p];exact hp) hl (h.hf b hb pY) h.aK;refine⟨a', ?_⟩;have he':fA s.a b (s.next b) (dR (qI s x)) s.f.ep=(a',r):=he
 have hP:bT s b x=if r=8∨r=6 then (⟨a',{s.f with seq:=iQ s.f.seq,po:=s.f.po.set b 3}⟩,8)
  else if r=0 then (⟨a',{s.f with seq:=iQ s.f.seq,pm:=s.f.pm.put x.ar (some (b,s.next b))}⟩,0)
  else (⟨a',{s.f with seq:=iQ s.f.seq}⟩,r):=by
  unfold bT;simp only;rw[show ({x with ep:=s.f.ep,seq:=iQ s.f.seq}:Sh)=qI s x from rfl,he']
 rw[hP];rcases ho with⟨rfl,h1,h2,h3,h4⟩|⟨rfl,h1,h2,h3,h4⟩|⟨rfl,h1,h2,h3,h4⟩
 ·exact .inl ⟨by simp,h1,h3.trans h.dC,h4⟩
 ·exact .inr (.inl ⟨by simp,h1,h3.trans h.dC,h2,h4⟩)
 ·exact .inr (.inr ⟨by simp,h1,h2,h3,h4⟩)
theorem Fc {k:Bk} (h:(aD k).aW=true):0<k.fc∨k.aW=true:=by
 unfold aD at h;split at h
 ·exact .inl (by omega)
 ·exact .inr h
theorem ir {k:Bk} (h:k.fc≤0∧k.aW=false∧k.aN=false):(aD k).fc≤0∧(aD k).aW=false∧(aD k).aN=false:=by
 rw[Fa h.1 h.2.1];exact h
theorem Rn.Nv (h:sg g s.a ds) {b:Nat} (hb:b∈g.us) (hd:(aD (s.a.bk b)).aW=true):b∈ds:=
 Classical.byContradiction fun hn=>by
  have:=h.fc b hb hn;rcases Fc hd with e|e
  ·omega
  ·rw[this.2.1] at e;cases e
theorem sg.prog (h:sg g s.a ds) {b:Nat} (hb:b∈g.us) (hp:(s.next b:Int)<g.aB) (hh:(s.a.bk b).bX=false) {d:List UInt8} (hd:d.length=96) {a':Ar} {k:Bk} (he:uB s.a a' b k) (h1:k.pg=(s.a.bk b).pg++[d]) (h2:k.bX=(s.a.bk b).bX) (h3:b∉ds→k.fc≤0∧k.aW=false∧k.aN=false):sg g a' ds:=by
 have hm:=jq (h.lt hb);refine h.UJ hb he ?_ (fun x hx=> ?_) (fun e=> ?_) h3
 ·rw[h1,List.length_append];have:=wX s b;simp only[List.length_singleton];omega
 ·rw[h1] at hx;rcases List.mem_append.1 hx with hx|hx
  ·exact h.d _ hm x hx
  ·rw[List.mem_singleton] at hx;rw[hx];exact hd
 ·rw[h2,hh] at e;cases e
def vq (s:FS) (b:Nat) (x:Sh):Fd:=⟨b,s.next b,qI s x⟩
theorem yZ (hp:sg g s.a ds) {b:Nat} (hb:b∈g.us) (hh:(s.a.bk b).bX=false) {x:Sh} (hf:(qI s x).cM) (h3:(qI s x).cK≠3) (ha:(x.ar:Int)≤g.cap) {a':Ar} {k:Bk} (he:uB s.a a' b k) (h1:k.pg=(s.a.bk b).pg++[dR (qI s x)]) (h2:k.bX=(s.a.bk b).bX):vw g a'=gw (vw g s.a) b (vq s b x):=by
 rw[he.vw (hp.lt hb) hb];funext i;unfold gw;by_cases hi:i=b
 ·subst hi;rw[if_pos rfl,if_pos rfl,I3 hb,Kv hh hf h3 ha (h2.trans hh) h1];rfl
 ·rw[if_neg hi,if_neg hi]
theorem I7 (h:∀b,∀f∈vw g s.a b,f.s.seq≤s.f.seq) {x:Sh} {b:Nat} (e:(qI s x).seq=s.f.seq+1):∀i,∀y∈vw g s.a i,y.s.seq<(vq s b x).s.seq:=fun i y hy=>by
 have:=h i y hy;show _<(qI s x).seq
 omega
theorem ud {a a':Ar} {b:Nat} {d:List UInt8} {k:Bk} (hb:b<a.bs.length) (hw:a'.dC=.prog b d) (he:uB a a' b k) (cut:Int):uB a (bQ a' cut) b (if cut>0 then {k with pg:=k.pg++[fo d cut]} else k):=by
 have hk:a'.bs[b]? =some k:=by
  rw[he.bs,List.getElem?_set];simp [hb]
 unfold bQ pG;rw[hw];simp only;by_cases hc:cut>0
 ·rw[if_pos hc,if_pos hc,hk];refine⟨?_,he.aB⟩;show a'.bs.set b _=_
  rw[he.bs,List.set_set]
 ·rw[if_neg hc,if_neg hc];exact⟨he.bs,he.aB⟩
theorem Kw {d:List UInt8} (hd:d.length=96) {cut:Int} (h:96≤cut):fo d cut=d:=by
 unfold fo;rw[List.take_of_length_le (by omega),show d.length-cut.toNat=0 from by omega];simp
theorem gW {a':Ar} {f:Ft} {b:Nat} {k:Bk} (hb:b<s.a.bs.length) (he:uB s.a a' b k) (i:Nat):FS.next ⟨a',f⟩ i=if i=b then k.pg.length else s.next i:=by
 rw[wX,wX];show (a'.bk i).pg.length=_
 rw[he.bk hb];split<;>rfl
theorem y8 (hph:sg g s.a ds) (hg:g.In) {a':Ar} {b:Nat} (hb:b∈g.us) {d:List UInt8} (hd:d.length=96) {k:Bk} (hk:k.pg=(s.a.bk b).pg) (hw:a'.dC=.prog b d) (he:uB s.a a' b k):pH a':=by
 unfold pH;rw[hw];have hl:=hph.lt hb;have hl':b<a'.bs.length:=by rw[he.bs,List.length_set];exact hl
 refine⟨hd,hl', ?_⟩
 have e:a'.bs[b]=k:=by
  have:=he.bk hl b;rw[if_pos rfl] at this;rw[←this];exact(Option.some.inj ((List.getElem?_eq_getElem hl').symm.trans (yR hl')))
 rw[e,hk];have:=hph.len _ (jq hl);have:=hg.p;omega
theorem Bg {v:Vw} {b:Nat} {f:Fd} (hn:∀i,∀y∈v i,y.s.seq<f.s.seq) {i:Nat} (hi:i≠b) (h:ff (gw v b f) i):ff v i:=by
 have e:gw v b f i=v i:=if_neg hi;refine⟨by rw[←e];exact h.1,fun t ht=>(pL hn ht).1 (h.2 t (by rw[e];exact ht))⟩
theorem qx {v:Vw} {b:Nat} {i:Nat} (h:ff (ki v b) i):i≠b∧ff v i:=by
 have hi:i≠b:=fun e=>h.1 (if_pos e)
 have e:ki v b i=v i:=if_neg hi;exact⟨hi,by rw[←e];exact h.1,fun t ht=>(CQ (h.2 t (by rw[e];exact ht))).1⟩
theorem iN {a':Ar} {b:Nat} {k:Bk} (hb:b<s.a.bs.length) (he:uB s.a a' b k) (hk:k.aN=(s.a.bk b).aN) (i:Nat):(a'.bk i).aN=(s.a.bk i).aN:=by
 rw[he.bk hb];split
 ·rename_i e;rw[e];exact hk
 ·rfl
theorem Rn.XO (h:Rn g s c ds N tg) {b:Nat} (hb:b∈g.us) (hh:(s.a.bk b).bX=false) (hp:(s.next b:Int)<g.aB) {x:Sh} (hx:yY g x) (f1:(qI s x).cM) (f2:(qI s x).cK≠3) (hl:(dR (qI s x)).length=96) {a':Ar} (hw:a'.dC=.prog b (dR (qI s x))) (he:uB s.a a' b (aD (s.a.bk b))) {cut:Int} (Jw:96≤cut) {c':Nat→List UInt8} (hgd:Gd (gw (vw g s.a) b (vq s b x)) c') (FZ:∀i∈g.us,(s.a.bk i).aN=false→lB (gw (vw g s.a) b (vq s b x)) i→s.f.po.how i=some 1∨s.f.po.how i=some 2) (HH:∀i,∀f∈gw (vw g s.a) b (vq s b x) i,f.s.seq≤N) (hsp:∀i∈g.us,(s.a.bk i).aN=false→ff (gw (vw g s.a) b (vq s b x)) i→s.f.po.how i=some 2∨∃v,tg=some (i,v)):Cr g (bQ a' cut) c' ds N:=by
 have hlt:=h.ph.lt hb;have hr:=ud hlt hw he cut;rw[if_pos (by omega),Kw hl Jw] at hr;obtain⟨k,hk⟩:∃k:Bk,k={aD (s.a.bk b) with pg:=(aD (s.a.bk b)).pg++[dR (qI s x)]}:=⟨_,rfl⟩;rw[←hk] at hr;have k1:k.pg=(s.a.bk b).pg++[dR (qI s x)]:=by rw[hk,bq]
 have k2:k.bX=(s.a.bk b).bX:=by rw[hk];exact bC _
 have k3:k.aN=(s.a.bk b).aN:=by rw[hk];exact dE _
 have k4:b∉ds→k.fc≤0∧k.aW=false∧k.aN=false:=fun hn=>by rw[hk];exact ir (h.ph.fc b hb hn)
 clear hk;have hv:=yZ h.ph hb hh f1 f2 hx.a hr k1 k2;have hfl:=iN hlt hr k3;refine⟨h.ph.prog hb hp hh hl hr k1 k2 k4,by rw[hv];exact hgd,h.UK (fun i _=>hfl i) (fun i hi hf hs'=> ?_),by rw[hv];exact HH,h.Hd (fun i _=>hfl i) (fun i hi hf hs'=>by rw[hv] at hs';exact hsp i hi hf hs')⟩;rw[hv] at hs';rw[hfl i] at hf;exact FZ i hi hf hs'
theorem Rn.XP (h:Rn g s c ds N tg) {b:Nat} (hb:b∈g.us) (hh:(s.a.bk b).bX=false) (hp:(s.next b:Int)<g.aB) {x:Sh} (hx:yY g x) (hl:(dR (qI s x)).length=96) {a':Ar} (hw:a'.dC=.prog b (dR (qI s x))) (he:uB s.a a' b (aD (s.a.bk b))) {cut:Int} (Jw:cut<96):Cr g (bQ a' cut) c ds N:=by
 have hlt:=h.ph.lt hb;have hr:=ud hlt hw he cut
 have key:∀k:Bk,uB s.a (bQ a' cut) b k→k.ew b g.cap=(s.a.bk b).ew b g.cap→k.aN=(s.a.bk b).aN→sg g (bQ a' cut) ds→Cr g (bQ a' cut) c ds N:=fun k hk h1 h2 h3=>by
  have hv:=hk.wx hlt hb h1;have hfl:=iN hlt hk h2;refine⟨h3,by rw[hv];exact h.gd,h.UK (fun i _=>hfl i) (fun i hi hf hs'=> ?_),by rw[hv];exact fun i f hf=>Nat.le_trans (h.seq i f hf) h.sn,h.Hd (fun i _=>hfl i) (fun i hi hf hs'=>by rw[hv] at hs';exact h.Fb hi hf hs')⟩;rw[hv] at hs';rw[hfl i] at hf;exact h.iD hi hf hs'
 by_cases h0:cut>0
 ·rw[if_pos h0] at hr;obtain⟨k,hk⟩:∃k:Bk,k={aD (s.a.bk b) with pg:=(aD (s.a.bk b)).pg++[fo (dR (qI s x)) cut]}:=⟨_,rfl⟩;rw[←hk] at hr;have k1:k.pg=(s.a.bk b).pg++[fo (dR (qI s x)) cut]:=by rw[hk,bq]
  have k2:k.bX=(s.a.bk b).bX:=by rw[hk];exact bC _
  have k3:k.aN=(s.a.bk b).aN:=by rw[hk];exact dE _
  have k4:b∉ds→k.fc≤0∧k.aW=false∧k.aN=false:=fun hn=>by rw[hk];exact ir (h.ph.fc b hb hn)
  exact key k hr (se (r7 (s:=qI s x) hx.dl (n:=cut) Jw) k2 k1) k3 (h.ph.prog hb hp hh (by rw[kx];exact hl) hr k1 k2 k4)
 ·rw[if_neg h0] at hr;refine key _ hr (tY _ _ _) (dE _) (h.ph.UJ hb hr ?_ ?_ ?_ (fun hn=>ir (h.ph.fc b hb hn)))
  ·rw[bq];exact h.ph.len _ (jq hlt)
  ·rw[bq];exact h.ph.d _ (jq hlt)
  ·rw[bC,bq];exact h.ph.bX b hb
theorem Rn.put (h:Rn g s c ds N none) (hg:g.In) (hc:g.cap<65000) {b:Nat} (hb:b∈g.us) (h2:s.f.po.how b=some 2) (hp:(s.next b:Int)<g.aB) {x:Sh} (hx:yY g x) (hx0:x.fr=0) (hs:s.f.seq+1<281474976710656) (hN:s.f.seq+1≤N):((bT s b x).2=0∧Rn g (bT s b x).1 (nU c x.ar x.data) ds N none)∨((bT s b x).2=8∧Rn g (bT s b x).1 c ds N none∧(bT s b x).1.f.po.count 2=0∧(bT s b x).1.f.po.count 3=s.f.po.count 3+1)∨((bT s b x).2=9∧s.a.bA>0∧jQ g (bT s b x).1.a c (nU c x.ar x.data) ds N):=by
 have ct:=h.ok.bT hg hb (x:=x) hx.dl;have hlt:=h.ph.lt hb
 have pY:(s.a.bk b).aN=false:=by
  rw[←Bool.not_eq_true];intro e;rw[(h.aW b hb).2 e] at h2;cases h2
 have hh:=h.hf b hb pY;obtain⟨f1,f2,f3⟩:=hx.cM hc h.ep.2 hs;have hl:(dR (qI s x)).length=96:=lf _ hx.dl;have hna:=h.ok.na;have hxl:x.ar<s.f.pm.cw.length:=by have:=hx.a;omega
 have hn:=I7 (x:=x) (b:=b) h.seq f3;have hgd:=h.gd.put (f:=vq s b x) (b:=b) hn rfl hx0;have hgd:Gd (gw (vw g s.a) b (vq s b x)) (nU c x.ar x.data):=hgd;have YU:lB (gw (vw g s.a) b (vq s b x)) b:=⟨vq s b x,bE.2 (.inr ⟨rfl,rfl⟩),fun hm=>hm.1 hx0⟩
 have HH:∀i,∀f∈gw (vw g s.a) b (vq s b x) i,f.s.seq≤s.f.seq+1:=fun i f hf=>by
  rcases bE.1 hf with hf|⟨_,rfl⟩
  ·have:=h.seq i f hf;omega
  ·show (qI s x).seq≤_;omega
 have FZ:∀i∈g.us,(s.a.bk i).aN=false→lB (gw (vw g s.a) b (vq s b x)) i→s.f.po.how i=some 1∨s.f.po.how i=some 2:=fun i hi hf hs'=>by
  by_cases bh:i=b
  ·subst bh;exact .inr h2
  ·obtain⟨t,ht,hm⟩:=hs';rcases bE.1 ht with ht|⟨e,_⟩
   ·exact h.iD hi hf ⟨t,ht,fun hh=>hm ((pL hn ht).2 hh)⟩
   ·exact absurd e bh
 obtain⟨a',ho⟩:=Bf h hc hb (by rw[h2];simp) hp hx hs;rcases ho with⟨ho,o1,o2,he⟩|⟨ho,o1,o2,o3,he⟩|⟨ho,o1,o2,o3,he⟩
 ·left;rw[ho] at ct⊢;refine⟨rfl, ?_⟩;have hv:=yZ h.ph hb hh f1 f2 hx.a he.touB rfl (by rw[bC]);have hbk:=fun i=>he.touB.bk hlt i
  have hfl:∀i,(a'.bk i).aN=(s.a.bk i).aN:=fun i=>by
   rw[hbk];split
   ·rename_i e;subst e;exact dE _
   ·rfl
  have OD:∀i,(a'.bk i).bX=(s.a.bk i).bX:=fun i=>by
   rw[hbk];split
   ·rename_i e;subst e;exact bC _
   ·rfl
  have ml:=fun i=>gW (f:={s.f with seq:=iQ s.f.seq,pm:=s.f.pm.put x.ar (some (b,s.next b))}) hlt he.touB i
  exact {
   ok:=ct,on:=o1,dC:=o2,aK:=by rw[he.aK];exact h.aK,ep:=h.ep
   ph:=h.ph.prog hb hp hh hl he.touB rfl (bC _) (fun hn=>ir (h.ph.fc b hb hn))
   gd:=by rw[hv];exact hgd
   cw:=fun y=>by
    show ((s.f.pm.put x.ar (some (b,s.next b))).at y=none∧_)∨∃b' p,(s.f.pm.put x.ar (some (b,s.next b))).at y=some (b',p)∧_
    rw[hv,Ns hxl];by_cases hy:y=x.ar
    ·subst hy;right;exact⟨b,s.next b,if_pos rfl,vq s b x,bE.2 (.inr ⟨rfl,rfl⟩),rfl,wF.new (f:=vq s b x) hn⟩
    ·rw[if_neg hy];rcases h.cw y with⟨h1,h2⟩|⟨b',p,h1,f,h2,h3,h4⟩
     ·refine .inl ⟨h1,fun i f hf=> ?_⟩;rcases bE.1 hf with hf|⟨_,rfl⟩
      ·exact h2 i f hf
      ·exact fun e=>hy e.symm
     ·exact .inr ⟨b',p,h1,f,bE.2 (.inl h2),h3,h4.put (f:=vq s b x) (fun e=>hy e.symm)⟩
   seq:=fun i f hf=>by
    rw[hv] at hf;have:=HH i f hf;have:iQ s.f.seq=s.f.seq+1:=f3;show _≤iQ s.f.seq
    omega
   sn:=by show iQ s.f.seq≤N;have:iQ s.f.seq=s.f.seq+1:=f3;omega
   aW:=fun i hi=>by show s.f.po.how i=some 3↔(a'.bk i).aN=true;rw[hfl];exact h.aW i hi
   hf:=fun i hi e=>by show (a'.bk i).bX=false;rw[OD];exact h.hf i hi (by rw[←hfl];exact e)
   cZ:=fun i hi e ht=>by
    have e:s.f.po.how i=some 0:=e;rw[ml,if_neg (fun e2=>by rw[e2,h2] at e;cases e)];exact h.cZ i hi e ht
   gi:=fun i hi e=>by
    have e:s.f.po.how i=some 1:=e;have bh:i≠b:=fun e2=>by rw[e2,h2] at e;cases e
    show vw g a' i=[]∨lB (vw g a') i
    rw[hv];refine(h.gi i hi e).imp (fun e=> ?_) (fun e=>e.add hn);unfold gw;rw[if_neg bh];exact e
   j5:=fun i hi e=>by
    show vw g a' i=[]∨lB (vw g a') i∨_
    rw[hv];by_cases bh:i=b
    ·subst bh;exact .inr (.inl YU)
    ·rw[ml,if_neg bh];refine(h.j5 i hi e).imp (fun e=> ?_) (fun e=>e.imp (fun e=>e.add hn) id);unfold gw;rw[if_neg bh];exact e
   DF:=fun d v e=>by cases e
   Hb:=fun e=>absurd rfl e
   one:=h.one
   si:=h.si}
 ·right;left;rw[ho] at ct⊢;have gj:s.f.po.set b 3=s.f.po.cg b 3:=fJ (by rw[h2];simp) (.inl (by omega));rw[gj] at ct⊢;have hv:vw g a'=vw g s.a:=he.touB.wx hlt hb (se (r7 (s:=qI s x) hx.dl (n:=0) (by omega)) (by show (aD (s.a.bk b)).bX=_;rw[bC]) rfl);have hbk:=fun i=>he.touB.bk hlt i
  have cH:=fun i=>fk (p:=s.f.po) (b:=b) (h:=3) i (h.ok.how hb)
  have jt:=fun k=>eG (p:=s.f.po) (b:=b) (h:=3) k h2
  have OD:∀i,(a'.bk i).bX=(s.a.bk i).bX:=fun i=>by
   rw[hbk];split
   ·rename_i e;subst e;exact bC _
   ·rfl
  have ml:=fun i=>gW (f:={s.f with seq:=iQ s.f.seq,po:=s.f.po.cg b 3}) hlt he.touB i
  have c2:=jt 2;have c3:=jt 3;have c0:=jt 0;have hone:=h.one;simp only[if_true,show ((2:Nat)=3)=False from by simp,show ((3:Nat)=2)=False from by simp,show ((2:Nat)=0)=False from by simp,show ((3:Nat)=0)=False from by simp,if_false] at c2 c3 c0;refine⟨rfl, ?_,by show (s.f.po.cg b 3).count 2=0;omega,by show (s.f.po.cg b 3).count 3=_;omega⟩
  exact {
   ok:=ct,on:=o1,dC:=o2,aK:=by rw[he.aK];exact h.aK,ep:=h.ep
   ph:=h.ph.prog hb hp hh (by rw[kx];exact hl) he.touB rfl (bC _) (fun hn=>absurd (Rn.Nv h.ph hb o3) hn)
   gd:=by rw[hv];exact h.gd
   cw:=fun y=>by rw[hv];exact h.cw y
   seq:=fun i f hf=>by
    rw[hv] at hf;have:=h.seq i f hf;have:iQ s.f.seq=s.f.seq+1:=f3;show _≤iQ s.f.seq
    omega
   sn:=by show iQ s.f.seq≤N;have:iQ s.f.seq=s.f.seq+1:=f3;omega
   aW:=fun i hi=>by
    show (s.f.po.cg b 3).how i=some 3↔(a'.bk i).aN=true
    rw[cH,hbk];by_cases bh:i=b
    ·simp [bh]
    ·rw[if_neg bh,if_neg bh];exact h.aW i hi
   hf:=fun i hi e=>by
    show (a'.bk i).bX=false
    rw[OD];have e:(a'.bk i).aN=false:=e;rw[hbk] at e;by_cases bh:i=b
    ·rw[bh];exact hh
    ·rw[if_neg bh] at e;exact h.hf i hi e
   cZ:=fun i hi e ht=>by
    have e:(s.f.po.cg b 3).how i=some 0:=e;rw[cH] at e;by_cases bh:i=b
    ·rw[if_pos bh] at e;cases e
    ·rw[if_neg bh] at e;rw[ml,if_neg bh];exact h.cZ i hi e ht
   gi:=fun i hi e=>by
    have e:(s.f.po.cg b 3).how i=some 1:=e;rw[cH] at e;show vw g a' i=[]∨lB (vw g a') i
    rw[hv];by_cases bh:i=b
    ·rw[if_pos bh] at e;cases e
    ·rw[if_neg bh] at e;exact h.gi i hi e
   j5:=fun i hi e=>by
    have e:(s.f.po.cg b 3).how i=some 2:=e;rw[cH] at e;show vw g a' i=[]∨lB (vw g a') i∨_
    rw[hv];by_cases bh:i=b
    ·rw[if_pos bh] at e;cases e
    ·rw[if_neg bh] at e;rw[ml,if_neg bh];exact h.j5 i hi e
   DF:=fun d v e=>by cases e
   Hb:=fun e=>absurd rfl e
   one:=by show (s.f.po.cg b 3).count 2≤1;omega
   si:=by
    show ((s.f.po.cg b 3).count 3:Int)≤g.aG→_≤(((s.f.po.cg b 3).count 0:Nat):Int)+((s.f.po.cg b 3).count 3:Nat)
    intro hle;have:=h.si (by omega)
    omega}
 ·right;right;rw[ho] at ct⊢;have hwo:=y8 (k:=aD (s.a.bk b)) h.ph hg hb hl (bq _) o3 he.touB;refine⟨rfl,o2,⟨o1,hwo,fun cut=> ?_⟩⟩;by_cases Jw:96≤cut
  ·right
   exact h.XO hb hh hp hx f1 f2 hl o3 he.touB Jw hgd FZ (fun i f hf=>Nat.le_trans (HH i f hf) hN) (fun i hi hf hs'=>by
    by_cases bh:i=b
    ·rw[bh] at hs';exact absurd hs' (qq YU)
    ·exact h.Fb hi hf (Bg hn bh hs'))
  ·left;exact h.XP hb hh hp hx hl o3 he.touB (by omega)
end
section
variable {g:bZ} {s:FS} {c:Nat→List UInt8} {ds:List Nat} {N:Nat} {tg:Oq}
theorem XQ {v:Nat} (hv:v<64) {u:Fd} {b:Nat} {a:Ar} (hu:u∈vw g a b):yY g {u.s with fr:=v+1}:=by
 obtain⟨_,_,_,_,_,hf,h3,ha⟩:=nW hu;have h1:=hf.k1;have h2:=hf.k3;exact⟨by show u.s.cK=1∨u.s.cK=2;omega,ha,by show v+1≤64;omega,hf.dl,hf.d0⟩
theorem Rn.copy {d v:Nat} (h:Rn g s c ds N (some (d,v))) (hg:g.In) (hc:g.cap<65000) {xa p:Nat} (zH:s.f.pm.at xa=some (v,p)) {u:Fd} (hu:u∈vw g s.a v) (F0:wF (vw g s.a) c xa u) (hs:s.f.seq+1<281474976710656) (hN:s.f.seq+1≤N):((bT s d {u.s with fr:=v+1}).2=0∧Rn g (bT s d {u.s with fr:=v+1}).1 c ds N (some (d,v))∧(bT s d {u.s with fr:=v+1}).1.f.pm.dO v+1=s.f.pm.dO v∧(bT s d {u.s with fr:=v+1}).1.f.po=s.f.po)∨((bT s d {u.s with fr:=v+1}).2=8∧Rn g (bT s d {u.s with fr:=v+1}).1 c ds N none∧(bT s d {u.s with fr:=v+1}).1.f.pm=s.f.pm∧(bT s d {u.s with fr:=v+1}).1.f.po.how v=some 1∧(bT s d {u.s with fr:=v+1}).1.f.po.count 3=s.f.po.count 3+1∧(bT s d {u.s with fr:=v+1}).1.f.po.count 2=s.f.po.count 2)∨((bT s d {u.s with fr:=v+1}).2=9∧s.a.bA>0∧jQ g (bT s d {u.s with fr:=v+1}).1.a c c ds N):=by
 obtain⟨hb,UZ,Lw,h2,oF,Lu,hall,hroom⟩:=h.DF d v rfl;have pX:s.f.pm.dO v≠0:=fun e=>pT e xa p zH
 have hp:(s.next d:Int)<g.aB:=by omega
 have hx:=XQ (No hg v UZ) hu;have hxd:({u.s with fr:=v+1}:Sh).data=u.s.data:=rfl;have Uq:({u.s with fr:=v+1}:Sh).ar=xa:=F0.1;have ZE:({u.s with fr:=v+1}:Sh).fr=v+1:=rfl;have hxk:({u.s with fr:=v+1}:Sh).cK=u.s.cK:=rfl;obtain⟨x,hxx⟩:∃x:Sh,x={u.s with fr:=v+1}:=⟨_,rfl⟩;rw[←hxx] at hx hxd Uq ZE hxk⊢;clear hxx;have ct:=h.ok.bT hg hb (x:=x) hx.dl;have hlt:=h.ph.lt hb
 have pY:(s.a.bk d).aN=false:=by
  rw[←Bool.not_eq_true];intro e;rw[(h.aW d hb).2 e] at h2;cases h2
 have hh:=h.hf d hb pY;obtain⟨f1,f2,f3⟩:=hx.cM hc h.ep.2 hs;have hl:(dR (qI s x)).length=96:=lf _ hx.dl;have hxl:=I4 zH;have hn:=I7 (x:=x) (b:=d) h.seq f3;have Ox:(vq s d x).s.ar=xa:=Uq;have F7:u.s.data=(vq s d x).s.data:=hxd.symm;have hgd:Gd (gw (vw g s.a) d (vq s d x)) c:=h.gd.copy hn rfl (fun e=>Lw e.symm) hu (by rw[Ox];exact F0) ZE F7 (fun y hy=>(hall y hy).1) Lu;have hmt:mt (gw (vw g s.a) d (vq s d x)) (vq s d x):=Pu (fun e=>Lw e.symm) hu ZE hxk.symm (F0.1.trans Ox.symm) F7 hn
 have RB:∀f∈gw (vw g s.a) d (vq s d x) d,f.s.fr=v+1∧mt (gw (vw g s.a) d (vq s d x)) f:=fun f hf=>by
  rcases bE.1 hf with hf|⟨_,rfl⟩
  ·exact⟨(hall f hf).1,(pL hn hf).2 (hall f hf).2⟩
  ·exact⟨ZE,hmt⟩
 have HH:∀i,∀f∈gw (vw g s.a) d (vq s d x) i,f.s.seq≤s.f.seq+1:=fun i f hf=>by
  rcases bE.1 hf with hf|⟨_,rfl⟩
  ·have:=h.seq i f hf;omega
  ·show (qI s x).seq≤_;omega
 have FZ:∀i∈g.us,(s.a.bk i).aN=false→lB (gw (vw g s.a) d (vq s d x)) i→s.f.po.how i=some 1∨s.f.po.how i=some 2:=fun i hi hf hs'=>by
  obtain⟨t,ht,hm⟩:=hs';by_cases bh:i=d
  ·subst bh;exact absurd (RB t ht).2 hm
  ·rcases bE.1 ht with ht|⟨e,_⟩
   ·exact h.iD hi hf ⟨t,ht,fun hh=>hm ((pL hn ht).2 hh)⟩
   ·exact absurd e bh
 obtain⟨a',ho⟩:=Bf h hc hb (by rw[h2];simp) hp hx hs;rcases ho with⟨ho,o1,o2,he⟩|⟨ho,o1,o2,o3,he⟩|⟨ho,o1,o2,o3,he⟩
 ·left;rw[ho] at ct⊢;have hput:x.ar=xa:=Uq;rw[hput] at ct⊢;have hcm:=Nt (q:=s.next d) zH Lw;refine⟨rfl, ?_,hcm,rfl⟩;have hv:=yZ h.ph hb hh f1 f2 hx.a he.touB rfl (by rw[bC]);have hbk:=fun i=>he.touB.bk hlt i
  have hfl:∀i,(a'.bk i).aN=(s.a.bk i).aN:=iN hlt he.touB (dE _)
  have OD:∀i,(a'.bk i).bX=(s.a.bk i).bX:=fun i=>by
   rw[hbk];split
   ·rename_i e;subst e;exact bC _
   ·rfl
  have ml:=fun i=>gW (f:={s.f with seq:=iQ s.f.seq,pm:=s.f.pm.put xa (some (d,s.next d))}) hlt he.touB i
  exact {
   ok:=ct,on:=o1,dC:=o2,aK:=by rw[he.aK];exact h.aK,ep:=h.ep
   ph:=h.ph.prog hb hp hh hl he.touB rfl (bC _) (fun hn=>ir (h.ph.fc d hb hn))
   gd:=by rw[hv];exact hgd
   cw:=fun y=>by
    show ((s.f.pm.put xa (some (d,s.next d))).at y=none∧_)∨∃b' p,(s.f.pm.put xa (some (d,s.next d))).at y=some (b',p)∧_
    rw[hv,Ns hxl];have hdc:(vq s d x).s.data=c (vq s d x).s.ar:=by rw[Ox, ←F7];exact F0.2.1
    by_cases hy:y=xa
    ·subst hy;right;refine⟨d,s.next d,if_pos rfl,vq s d x,bE.2 (.inr ⟨rfl,rfl⟩),rfl,Ox,by rw[←F7];exact F0.2.1,fun b' z hz hza hzs=> ?_⟩;rcases bE.1 hz with hz|⟨_,rfl⟩
     ·have:=hn b' z hz;omega
     ·rw[←F7];exact F0.2.1
    ·rw[if_neg hy];rcases h.cw y with⟨h1,h2⟩|⟨b',p,h1,f,h2,h3,h4⟩
     ·refine .inl ⟨h1,fun i f hf=> ?_⟩;rcases bE.1 hf with hf|⟨_,rfl⟩
      ·exact h2 i f hf
      ·rw[Ox];exact fun e=>hy e.symm
     ·exact .inr ⟨b',p,h1,f,bE.2 (.inl h2),h3,h4.copy hdc⟩
   seq:=fun i f hf=>by
    rw[hv] at hf;have:=HH i f hf;have:iQ s.f.seq=s.f.seq+1:=f3;show _≤iQ s.f.seq
    omega
   sn:=by show iQ s.f.seq≤N;have:iQ s.f.seq=s.f.seq+1:=f3;omega
   aW:=fun i hi=>by show s.f.po.how i=some 3↔(a'.bk i).aN=true;rw[hfl];exact h.aW i hi
   hf:=fun i hi e=>by show (a'.bk i).bX=false;rw[OD];exact h.hf i hi (by rw[←hfl];exact e)
   cZ:=fun i hi e ht=>by
    rw[ml,if_neg (fun e2=>ht v (by rw[e2]))];exact h.cZ i hi e ht
   gi:=fun i hi e=>by
    have e:s.f.po.how i=some 1:=e;have bh:i≠d:=fun e2=>by rw[e2,h2] at e;cases e
    show vw g a' i=[]∨lB (vw g a') i
    rw[hv];refine(h.gi i hi e).imp (fun e=> ?_) (fun e=>e.add hn);unfold gw;rw[if_neg bh];exact e
   j5:=fun i hi e=>by
    have e:s.f.po.how i=some 2:=e;have bh:i≠d:=fun e2=>by rw[e2,h2] at e;cases e
    show vw g a' i=[]∨lB (vw g a') i∨_
    rw[hv,ml,if_neg bh];refine(h.j5 i hi e).imp (fun e=> ?_) (fun e=>e.imp (fun e=>e.add hn) id);unfold gw;rw[if_neg bh];exact e
   DF:=fun d' v' e=>by
    cases e;refine⟨hb,UZ,Lw,h2,oF, ?_, ?_, ?_⟩
    ·show lB (vw g a') v;rw[hv];exact Lu.add hn
    ·show∀f∈vw g a' d,_∧mt (vw g a') f;rw[hv];exact RB
    ·rw[ml,if_pos rfl];show ((((s.a.bk d).pg++[dR (qI s x)]).length:Nat):Int)+((s.f.pm.put xa (some (d,s.next d))).dO v:Nat)<g.aB
     rw[List.length_append];have:=wX s d;simp only[List.length_singleton];omega
   Hb:=h.Hb
   one:=h.one
   si:=h.si}
 ·right;left;rw[ho] at ct⊢;have gj:s.f.po.set d 3=s.f.po.cg d 3:=fJ (by rw[h2];simp) (.inl (by omega));rw[gj] at ct⊢;have hv:vw g a'=vw g s.a:=he.touB.wx hlt hb (se (r7 (s:=qI s x) hx.dl (n:=0) (by omega)) (by show (aD (s.a.bk d)).bX=_;rw[bC]) rfl);have hbk:=fun i=>he.touB.bk hlt i
  have cH:=fun i=>fk (p:=s.f.po) (b:=d) (h:=3) i (h.ok.how hb)
  have jt:=fun k=>eG (p:=s.f.po) (b:=d) (h:=3) k h2
  have OD:∀i,(a'.bk i).bX=(s.a.bk i).bX:=fun i=>by
   rw[hbk];split
   ·rename_i e;subst e;exact bC _
   ·rfl
  have ml:=fun i=>gW (f:={s.f with seq:=iQ s.f.seq,po:=s.f.po.cg d 3}) hlt he.touB i
  have c2:=jt 2;have c3:=jt 3;have c0:=jt 0;have hone:=h.one;simp only[if_true,show ((0:Nat)=3)=False from by simp,show ((3:Nat)=2)=False from by simp,show ((0:Nat)=2)=False from by simp,show ((3:Nat)=0)=False from by simp,if_false] at c2 c3 c0;refine⟨rfl, ?_,rfl,by show (s.f.po.cg d 3).how v=some 1;rw[cH,if_neg (fun e=>Lw e.symm)];exact oF,by show (s.f.po.cg d 3).count 3=_;omega,by show (s.f.po.cg d 3).count 2=_;omega⟩
  exact {
   ok:=ct,on:=o1,dC:=o2,aK:=by rw[he.aK];exact h.aK,ep:=h.ep
   ph:=h.ph.prog hb hp hh (by rw[kx];exact hl) he.touB rfl (bC _) (fun hn=>absurd (Rn.Nv h.ph hb o3) hn)
   gd:=by rw[hv];exact h.gd
   cw:=fun y=>by rw[hv];exact h.cw y
   seq:=fun i f hf=>by
    rw[hv] at hf;have:=h.seq i f hf;have:iQ s.f.seq=s.f.seq+1:=f3;show _≤iQ s.f.seq
    omega
   sn:=by show iQ s.f.seq≤N;have:iQ s.f.seq=s.f.seq+1:=f3;omega
   aW:=fun i hi=>by
    show (s.f.po.cg d 3).how i=some 3↔(a'.bk i).aN=true
    rw[cH,hbk];by_cases bh:i=d
    ·simp [bh]
    ·rw[if_neg bh,if_neg bh];exact h.aW i hi
   hf:=fun i hi e=>by
    show (a'.bk i).bX=false
    rw[OD];have e:(a'.bk i).aN=false:=e;rw[hbk] at e;by_cases bh:i=d
    ·rw[bh];exact hh
    ·rw[if_neg bh] at e;exact h.hf i hi e
   cZ:=fun i hi e ht=>by
    have e:(s.f.po.cg d 3).how i=some 0:=e;rw[cH] at e;by_cases bh:i=d
    ·rw[if_pos bh] at e;cases e
    ·rw[if_neg bh] at e;rw[ml,if_neg bh];exact h.cZ i hi e (fun v' e2=>bh (by cases e2;rfl))
   gi:=fun i hi e=>by
    have e:(s.f.po.cg d 3).how i=some 1:=e;rw[cH] at e;show vw g a' i=[]∨lB (vw g a') i
    rw[hv];by_cases bh:i=d
    ·rw[if_pos bh] at e;cases e
    ·rw[if_neg bh] at e;exact h.gi i hi e
   j5:=fun i hi e=>by
    have e:(s.f.po.cg d 3).how i=some 2:=e;rw[cH] at e;show vw g a' i=[]∨lB (vw g a') i∨_
    rw[hv];by_cases bh:i=d
    ·rw[if_pos bh] at e;cases e
    ·rw[if_neg bh] at e;rw[ml,if_neg bh];exact h.j5 i hi e
   DF:=fun d v e=>by cases e
   Hb:=fun e=>absurd rfl e
   one:=by show (s.f.po.cg d 3).count 2≤1;omega
   si:=by
    show ((s.f.po.cg d 3).count 3:Int)≤g.aG→_≤(((s.f.po.cg d 3).count 0:Nat):Int)+((s.f.po.cg d 3).count 3:Nat)
    intro hle;have:=h.si (by omega)
    omega}
 ·right;right;rw[ho] at ct⊢;have hwo:=y8 (k:=aD (s.a.bk d)) h.ph hg hb hl (bq _) o3 he.touB;refine⟨rfl,o2,⟨o1,hwo,fun cut=>.inl ?_⟩⟩;by_cases Jw:96≤cut
  ·exact h.XO hb hh hp hx f1 f2 hl o3 he.touB Jw hgd FZ (fun i f hf=>Nat.le_trans (HH i f hf) hN) (fun i hi hf hs'=>by
    by_cases bh:i=d
    ·exact .inr ⟨v,by rw[bh]⟩
    ·exact h.Fb hi hf (Bg hn bh hs'))
  ·exact h.XP hb hh hp hx hl o3 he.touB (by omega)
end
section
variable {g:bZ} {s:FS} {c:Nat→List UInt8} {ds:List Nat} {N:Nat} {tg:Oq}
theorem Rn.QZ (h:Rn g s c ds N tg) {b:Nat} (hb:b∈g.us) (hf:(s.a.bk b).aN=false) (hn:vw g s.a b≠[]):s.f.po.how b=some 1∨s.f.po.how b=some 2∨∃v,tg=some (b,v):=by
 rcases h.ok.Tx hb with e|e|e|e
 ·by_cases ht:∃v,tg=some (b,v)
  ·exact .inr (.inr ht)
  ·have:=h.cZ b hb e (fun v hv=>ht ⟨v,hv⟩);exact absurd (yX (.inl (List.eq_nil_of_length_eq_zero this))) hn
 ·exact .inl e
 ·exact .inr (.inl e)
 ·rw[(h.aW b hb).1 e] at hf;cases hf
theorem sj {v:Vw} {b w:Nat} (h:lB (ki v w) b):b≠w∧v b≠[]:=by
 obtain⟨f,hf,_⟩:=h;obtain⟨h1,h2⟩:=cG.1 hf;exact⟨h2,fun e=>by rw[e] at h1;cases h1⟩
theorem m9 {a':Ar} {v:Nat} {k:Bk} (hv:v<s.a.bs.length) (hu:v∈g.us) (he:uB s.a a' v k) (hk:k.pg=[]∨k.bX=true):vw g a'=ki (vw g s.a) v:=by
 rw[he.vw hv hu];funext i;unfold ki;split
 ·exact Bd hk
 ·rfl
theorem Rn.C4 (h:Rn g s c ds N tg) {v:Nat} (hc:s.f.pm.dO v=0):Gd (ki (vw g s.a) v) c:=
 h.gd.DD fun x=>by
   rcases h.cw x with⟨h1,h2⟩|⟨b,p,h1,f,h2,h3,h4⟩
   ·exact .inl h2
   ·exact .inr ⟨b,fun e=>by rw[e] at h1;exact pT hc x p h1,f,h2,h4⟩
theorem Rn.Q0 (h:Rn g s c ds N tg) {v:Nat} (hc:s.f.pm.dO v=0) (x:Nat):(s.f.pm.at x=none∧∀b,∀f∈ki (vw g s.a) v b,f.s.ar≠x)∨∃b p,s.f.pm.at x=some (b,p)∧∃f∈ki (vw g s.a) v b,f.p=p∧wF (ki (vw g s.a) v) c x f:=by
 rcases h.cw x with⟨h1,h2⟩|⟨b,p,h1,f,h2,h3,h4⟩
 ·exact .inl ⟨h1,fun b f hf=>h2 b f (cG.1 hf).1⟩
 ·exact .inr ⟨b,p,h1,f,cG.2 ⟨h2,fun e=>by rw[e] at h1;exact pT hc x p h1⟩,h3,h4.DD⟩
theorem Hf {a a':Ar} {b:Nat} {aW:Bool} {k:Bk} (hb:b<a.bs.length) (hw:a'.dC=.er b aW) (he:uB a a' b k) (cut:Int):uB a (bQ a' cut) b (if 96≤cut∧aW=false then ve k else if cut>0 then {k with bX:=decide (0<k.pg.length)} else k):=by
 have hk:a'.bs[b]? =some k:=by
  rw[he.bs,List.getElem?_set];simp [hb]
 unfold bQ pG;rw[hw];simp only;rw[hk];simp only;by_cases h1:96≤cut∧aW=false
 ·rw[if_pos h1,if_pos h1];refine⟨?_,he.aB⟩;show a'.bs.set b _=_
  rw[he.bs,List.set_set]
 ·rw[if_neg h1,if_neg h1];by_cases hc:cut>0
  ·rw[if_pos hc,if_pos hc];refine⟨?_,he.aB⟩;show a'.bs.set b _=_
   rw[he.bs,List.set_set]
  ·rw[if_neg hc,if_neg hc];exact⟨he.bs,he.aB⟩
theorem ue (h:sg g s.a ds) {v:Nat} (hv:v∈g.us) {a':Ar} (he:uB s.a a' v (ve (aD (s.a.bk v)))):sg g a' ds:=
 h.UJ hv he (by show ((0:Nat):Int)≤_;have:=h.len _ (jq (h.lt hv));omega) (fun d hd=>by cases hd) (fun e=>by cases e) (fun hn=>ir (h.fc v hv hn))
theorem Kx (h:sg g s.a ds) {v:Nat} (hv:v∈g.us) {a':Ar} (he:uB s.a a' v (aD (s.a.bk v))):sg g a' ds:=
 h.UJ hv he (by rw[bq];exact h.len _ (jq (h.lt hv))) (by rw[bq];exact h.d _ (jq (h.lt hv))) (by rw[bC,bq];exact h.bX v hv) (fun hn=>ir (h.fc v hv hn))
theorem Nx (h:sg g s.a ds) {v:Nat} (hv:v∈g.us) {a':Ar} (he:uB s.a a' v {aD (s.a.bk v) with bX:=decide (0<(aD (s.a.bk v)).pg.length)}):sg g a' ds:=
 h.UJ hv he (by show (((aD (s.a.bk v)).pg.length:Nat):Int)≤_;rw[bq];exact h.len _ (jq (h.lt hv)))
   (by show∀d∈(aD (s.a.bk v)).pg,_;rw[bq];exact h.d _ (jq (h.lt hv)))
   (fun e=>by
    have e:decide (0<(aD (s.a.bk v)).pg.length)=true:=e;have e:=of_decide_eq_true e;show (aD (s.a.bk v)).pg≠[]
    intro e2;rw[e2] at e;exact absurd e (Nat.lt_irrefl 0))
   (fun hn=>ir (h.fc v hv hn))
theorem sg.Fe (h:sg g s.a ds) {v:Nat} (hv:v∈g.us) {a':Ar} {aW:Bool} (hw:a'.dC=.er v aW) (he:uB s.a a' v (aD (s.a.bk v))) (cut:Int):sg g (bQ a' cut) ds∧(∀i,((bQ a' cut).bk i).aN=(s.a.bk i).aN)∧(vw g (bQ a' cut)=vw g s.a∨vw g (bQ a' cut)=ki (vw g s.a) v):=by
 have hlt:=h.lt hv;have hr:=Hf hlt hw he cut;by_cases h1:96≤cut∧aW=false
 ·rw[if_pos h1] at hr;exact⟨ue h hv hr,iN hlt hr (dE _),.inr (m9 hlt hv hr (.inl rfl))⟩
 ·rw[if_neg h1] at hr;by_cases h2:cut>0
  ·rw[if_pos h2] at hr;refine⟨Nx h hv hr,iN hlt hr (dE _),.inr (m9 hlt hv hr ?_)⟩;by_cases h3:(aD (s.a.bk v)).pg=[]
   ·exact .inl h3
   ·right;show decide _=true
    exact decide_eq_true (List.length_pos_iff.2 h3)
  ·rw[if_neg h2] at hr;exact⟨Kx h hv hr,iN hlt hr (dE _),.inl (hr.wx hlt hv (tY _ _ _))⟩
theorem Rn.Fe (h:Rn g s c ds N tg) {v:Nat} (hv:v∈g.us) {a':Ar} {aW:Bool} (hw:a'.dC=.er v aW) (he:uB s.a a' v (aD (s.a.bk v))) (cut:Int):sg g (bQ a' cut) ds∧(∀i,((bQ a' cut).bk i).aN=(s.a.bk i).aN)∧(vw g (bQ a' cut)=vw g s.a∨vw g (bQ a' cut)=ki (vw g s.a) v):=h.ph.Fe hv hw he cut
theorem za {a':Ar} {v:Nat} {aW:Bool} {k:Bk} (hlt:v<s.a.bs.length) (hw:a'.dC=.er v aW) (he:uB s.a a' v k):pH a':=by
 unfold pH;rw[hw];show v<a'.bs.length
 rw[he.bs,List.length_set];exact hlt
theorem sk {v:Nat} (hlt:v<s.a.bs.length) (on:s.a.off=false) (dC:s.a.dC=.no) (aK:s.a.aK≤s.f.ep):∃a',(bB s v=(FS.bu {s with a:=a'} v 0,0)∧a'.off=false∧a'.dC=.no∧F4 s.a a' v (ve (aD (s.a.bk v))))∨(bB s v=(FS.bu {s with a:=a'} v 3,0)∧a'.off=false∧a'.dC=.no∧(aD (s.a.bk v)).aW=true∧F4 s.a a' v {aD (s.a.bk v) with aN:=true})∨(bB s v=({s with a:=a'},9)∧a'.off=true∧s.a.bA>0∧a'.dC=.er v (aD (s.a.bk v)).aW∧F4 s.a a' v (aD (s.a.bk v))):=by
 obtain⟨a',r,he,ho⟩:=Ku (e:=(s.f.ep:Int)) hlt on aK;refine⟨a', ?_⟩;unfold bB;rw[he];simp only;rcases ho with⟨rfl,h1,h2,h3,h4⟩|⟨rfl,h1,h2,h3,h4⟩|⟨rfl,h1,h2,h3,h4⟩
 ·exact .inl ⟨by simp,h1,h3.trans dC,h4⟩
 ·exact .inr (.inl ⟨by simp,h1,h3.trans dC,h2,h4⟩)
 ·exact .inr (.inr ⟨by simp,h1,h2,h3,h4⟩)
theorem zb (h:sg g s.a ds) {v:Nat} (hv:v∈g.us) (hd:(aD (s.a.bk v)).aW=true) {a':Ar} (he:uB s.a a' v {aD (s.a.bk v) with aN:=true}):sg g a' ds:=
 h.UJ hv he (by show (((aD (s.a.bk v)).pg.length:Nat):Int)≤_;rw[bq];exact h.len _ (jq (h.lt hv)))
   (by show∀d∈(aD (s.a.bk v)).pg,_;rw[bq];exact h.d _ (jq (h.lt hv)))
   (by show (aD (s.a.bk v)).bX=true→(aD (s.a.bk v)).pg≠[];rw[bC,bq];exact h.bX v hv)
   (fun hn=>absurd (Rn.Nv h hv hd) hn)
theorem Rn.yM (h:Rn g s c ds N none) (hg:g.In) {v:Nat} (hv:v∈g.us) (oF:s.f.po.how v=some 1) (hc:s.f.pm.dO v=0):((bB s v).2=0∧Rn g (bB s v).1 c ds N none∧(bB s v).1.f.po.count 2=s.f.po.count 2∧s.f.po.count 0+s.f.po.count 3+1=(bB s v).1.f.po.count 0+(bB s v).1.f.po.count 3)∨((bB s v).2=9∧s.a.bA>0∧jQ g (bB s v).1.a c c ds N):=by
 have ct:=h.ok.bB hg hv;have hlt:=h.ph.lt hv
 have pY:(s.a.bk v).aN=false:=by
  rw[←Bool.not_eq_true];intro e;rw[(h.aW v hv).2 e] at oF;cases oF
 have hgd:=h.C4 hc;obtain⟨a',ho⟩:=sk hlt h.on h.dC h.aK;rcases ho with⟨ho,o1,o2,he⟩|⟨ho,o1,o2,o3,he⟩|⟨ho,o1,o2,o3,he⟩
 ·left;rw[ho] at ct⊢;unfold FS.bu at ct⊢;have gj:s.f.po.set v 0=s.f.po.cg v 0:=fJ (by rw[oF];simp) (.inl (by omega));simp only[gj] at ct⊢;have qK:=m9 hlt hv he.touB (.inl rfl);have hbk:=fun i=>he.touB.bk hlt i
  have hfl:∀i,(a'.bk i).aN=(s.a.bk i).aN:=iN hlt he.touB (dE _);have cH:=fun i=>fk (p:=s.f.po) (b:=v) (h:=0) i (h.ok.how hv)
  have jt:=fun k=>eG (p:=s.f.po) (b:=v) (h:=0) k oF
  have ml:=fun i=>gW (f:={s.f with po:=s.f.po.cg v 0}) hlt he.touB i
  have c2:=jt 2;have c3:=jt 3;have c0:=jt 0;have hone:=h.one;simp only[if_true,show ((1:Nat)=3)=False from by simp,show ((0:Nat)=2)=False from by simp,show ((1:Nat)=2)=False from by simp,show ((0:Nat)=3)=False from by simp,show ((1:Nat)=0)=False from by simp,if_false] at c2 c3 c0;refine⟨trivial, ?_,by omega,by omega⟩
  exact {
   ok:=ct,on:=o1,dC:=o2,aK:=by rw[he.aK];exact h.aK,ep:=h.ep
   ph:=ue h.ph hv he.touB
   gd:=by rw[qK];exact hgd
   cw:=fun y=>by rw[qK];exact h.Q0 hc y
   seq:=fun i f hf=>by rw[qK] at hf;exact h.seq i f (cG.1 hf).1
   sn:=h.sn
   aW:=fun i hi=>by
    show (s.f.po.cg v 0).how i=some 3↔(a'.bk i).aN=true
    rw[cH,hfl];by_cases bh:i=v
    ·rw[bh,if_pos rfl,pY];simp
    ·rw[if_neg bh];exact h.aW i hi
   hf:=fun i hi e=>by
    show (a'.bk i).bX=false
    have e:(a'.bk i).aN=false:=e;rw[hfl] at e;rw[hbk];by_cases bh:i=v
    ·rw[if_pos bh];rfl
    ·rw[if_neg bh];exact h.hf i hi e
   cZ:=fun i hi e ht=>by
    have e:(s.f.po.cg v 0).how i=some 0:=e;rw[cH] at e;rw[ml];by_cases bh:i=v
    ·rw[if_pos bh];rfl
    ·rw[if_neg bh] at e⊢;exact h.cZ i hi e ht
   gi:=fun i hi e=>by
    have e:(s.f.po.cg v 0).how i=some 1:=e;rw[cH] at e;show vw g a' i=[]∨lB (vw g a') i
    rw[qK];by_cases bh:i=v
    ·rw[if_pos bh] at e;cases e
    ·rw[if_neg bh] at e;refine(h.gi i hi e).imp (fun e=> ?_) (fun e=>e.DD bh);unfold ki;rw[if_neg bh];exact e
   j5:=fun i hi e=>by
    have e:(s.f.po.cg v 0).how i=some 2:=e;rw[cH] at e;show vw g a' i=[]∨lB (vw g a') i∨_
    rw[qK];by_cases bh:i=v
    ·rw[if_pos bh] at e;cases e
    ·rw[if_neg bh] at e;rw[ml,if_neg bh];refine(h.j5 i hi e).imp (fun e=> ?_) (fun e=>e.imp (fun e=>e.DD bh) id);unfold ki;rw[if_neg bh];exact e
   DF:=fun d v e=>by cases e
   Hb:=fun e=>absurd rfl e
   one:=by show (s.f.po.cg v 0).count 2≤1;omega
   si:=by
    show ((s.f.po.cg v 0).count 3:Int)≤g.aG→_≤(((s.f.po.cg v 0).count 0:Nat):Int)+((s.f.po.cg v 0).count 3:Nat)
    intro hle;have:=h.si (by omega)
    omega}
 ·left;rw[ho] at ct⊢;unfold FS.bu at ct⊢;have gj:s.f.po.set v 3=s.f.po.cg v 3:=fJ (by rw[oF];simp) (.inl (by omega));simp only[gj] at ct⊢;have qK:vw g a'=vw g s.a:=he.touB.wx hlt hv (by show Bk.ew _ _ _=_;unfold Bk.ew;simp only[bC,bq]);have hbk:=fun i=>he.touB.bk hlt i
  have cH:=fun i=>fk (p:=s.f.po) (b:=v) (h:=3) i (h.ok.how hv)
  have jt:=fun k=>eG (p:=s.f.po) (b:=v) (h:=3) k oF
  have OD:∀i,(a'.bk i).bX=(s.a.bk i).bX:=fun i=>by
   rw[hbk];split
   ·rename_i e;subst e;exact bC _
   ·rfl
  have ml:=fun i=>gW (f:={s.f with po:=s.f.po.cg v 3}) hlt he.touB i
  have c2:=jt 2;have c3:=jt 3;have c0:=jt 0;have hone:=h.one;simp only[if_true,show ((1:Nat)=3)=False from by simp,show ((3:Nat)=2)=False from by simp,show ((1:Nat)=2)=False from by simp,show ((3:Nat)=0)=False from by simp,show ((1:Nat)=0)=False from by simp,if_false] at c2 c3 c0;refine⟨trivial, ?_,by omega,by omega⟩
  exact {
   ok:=ct,on:=o1,dC:=o2,aK:=by rw[he.aK];exact h.aK,ep:=h.ep
   ph:=zb h.ph hv o3 he.touB
   gd:=by rw[qK];exact h.gd
   cw:=fun y=>by rw[qK];exact h.cw y
   seq:=fun i f hf=>by rw[qK] at hf;exact h.seq i f hf
   sn:=h.sn
   aW:=fun i hi=>by
    show (s.f.po.cg v 3).how i=some 3↔(a'.bk i).aN=true
    rw[cH,hbk];by_cases bh:i=v
    ·simp [bh]
    ·rw[if_neg bh,if_neg bh];exact h.aW i hi
   hf:=fun i hi e=>by
    show (a'.bk i).bX=false
    have e:(a'.bk i).aN=false:=e;rw[OD];rw[hbk] at e;by_cases bh:i=v
    ·rw[bh];exact h.hf v hv pY
    ·rw[if_neg bh] at e;exact h.hf i hi e
   cZ:=fun i hi e ht=>by
    have e:(s.f.po.cg v 3).how i=some 0:=e;rw[cH] at e;by_cases bh:i=v
    ·rw[if_pos bh] at e;cases e
    ·rw[if_neg bh] at e;rw[ml,if_neg bh];exact h.cZ i hi e ht
   gi:=fun i hi e=>by
    have e:(s.f.po.cg v 3).how i=some 1:=e;rw[cH] at e;show vw g a' i=[]∨lB (vw g a') i
    rw[qK];by_cases bh:i=v
    ·rw[if_pos bh] at e;cases e
    ·rw[if_neg bh] at e;exact h.gi i hi e
   j5:=fun i hi e=>by
    have e:(s.f.po.cg v 3).how i=some 2:=e;rw[cH] at e;show vw g a' i=[]∨lB (vw g a') i∨_
    rw[qK];by_cases bh:i=v
    ·rw[if_pos bh] at e;cases e
    ·rw[if_neg bh] at e;rw[ml,if_neg bh];exact h.j5 i hi e
   DF:=fun d v e=>by cases e
   Hb:=fun e=>absurd rfl e
   one:=by show (s.f.po.cg v 3).count 2≤1;omega
   si:=by
    show ((s.f.po.cg v 3).count 3:Int)≤g.aG→_≤(((s.f.po.cg v 3).count 0:Nat):Int)+((s.f.po.cg v 3).count 3:Nat)
    intro hle;have:=h.si (by omega)
    omega}
 ·right;rw[ho];refine⟨rfl,o2,⟨o1,za hlt o3 he.touB,fun cut=>.inl ?_⟩⟩;obtain⟨p1,p2,p3⟩:=h.Fe hv o3 he.touB cut;rcases p3 with p3|p3
  ·refine⟨p1,by rw[p3];exact h.gd,h.UK (fun i _=>p2 i) (fun i hi hf hs=> ?_),by rw[p3];exact fun i f hf=>Nat.le_trans (h.seq i f hf) h.sn,h.Hd (fun i _=>p2 i) (fun i hi hf hs=>by rw[p3] at hs;exact h.Fb hi hf hs)⟩;rw[p3] at hs;rw[p2 i] at hf;exact h.iD hi hf hs
  ·refine⟨p1,by rw[p3];exact hgd,h.UK (fun i _=>p2 i) (fun i hi hf hs=> ?_),by rw[p3];exact fun i f hf=>Nat.le_trans (h.seq i f (cG.1 hf).1) h.sn,h.Hd (fun i _=>p2 i) (fun i hi hf hs=>by rw[p3] at hs;exact h.Fb hi hf (qx hs).2)⟩;rw[p3] at hs;rw[p2 i] at hf;rcases h.QZ hi hf (sj hs).2 with e|e|⟨v,e⟩
   ·exact .inl e
   ·exact .inr e
   ·cases e
end
section
variable {g:bZ} {s:FS} {c:Nat→List UInt8} {ds:List Nat} {N:Nat} {tg:Oq}
theorem Rn.swap {d v:Nat} (h:Rn g s c ds N (some (d,v))) (hg:g.In) (hc:s.f.pm.dO v=0) (h20:s.f.po.count 2=0):((bB s v).2=0∧Rn g ((bB s v).1.bu d 2) c ds N none∧((bB s v).1.bu d 2).f.po.j5=some d∧(((bB s v).1.bu d 2).next d:Int)<g.aB)∨((bB s v).2=9∧s.a.bA>0∧jQ g (bB s v).1.a c c ds N):=by
 obtain⟨hd,hv,Lw,Lo,oF,Lu,hall,hroom⟩:=h.DF d v rfl;have ct:=h.ok.bB hg hv;have hlt:=h.ph.lt hv
 have pY:(s.a.bk v).aN=false:=by
  rw[←Bool.not_eq_true];intro e;rw[(h.aW v hv).2 e] at oF;cases oF
 have hgd:=h.C4 hc;obtain⟨a',ho⟩:=sk hlt h.on h.dC h.aK;have hvd:¬v=d:=fun e=>Lw e.symm
 rcases ho with⟨ho,o1,o2,he⟩|⟨ho,o1,o2,o3,he⟩|⟨ho,o1,o2,o3,he⟩
 ·left;rw[ho] at ct⊢;have ct:=ct.bu hg hd (h:=2) (by omega);unfold FS.bu at ct⊢;have gj:s.f.po.set v 0=s.f.po.cg v 0:=fJ (by rw[oF];simp) (.inl (by omega));simp only[gj] at ct⊢;have uz:=fun i=>fk (p:=s.f.po) (b:=v) (h:=0) i (h.ok.how hv)
  have Lk:(s.f.po.cg v 0).how d=some 0:=by rw[uz,if_neg Lw];exact Lo
  have zA:=fun k=>eG (p:=s.f.po) (b:=v) (h:=0) k oF
  have d2:=zA 2;simp only[show ((0:Nat)=2)=False from by simp,show ((1:Nat)=2)=False from by simp,if_false] at d2;have zB:(s.f.po.cg v 0).set d 2=(s.f.po.cg v 0).cg d 2:=fJ (by rw[Lk];simp) (.inr (by omega));simp only[zB] at ct⊢;obtain⟨po,sC⟩:∃po,po=(s.f.po.cg v 0).cg d 2:=⟨_,rfl⟩
  have cH:∀i,po.how i=if i=d then some 2 else if i=v then some 0 else s.f.po.how i:=fun i=>by
   rw[sC,fk i (by rw[Lk];rfl),uz]
  have zC:=fun k=>eG (p:=s.f.po.cg v 0) (b:=d) (h:=2) k Lk
  have c2:po.count 2=1:=by
   have:=zC 2;simp only[if_true,show ((0:Nat)=2)=False from by simp,if_false] at this;rw[sC];omega
  have c3:po.count 3=s.f.po.count 3:=by
   have:=zC 3;have:=zA 3;simp only[show ((0:Nat)=3)=False from by simp,show ((2:Nat)=3)=False from by simp,show ((1:Nat)=3)=False from by simp,if_false] at*;rw[sC];omega
  have c0:po.count 0=s.f.po.count 0:=by
   have:=zC 0;have:=zA 0;simp only[if_true,show ((2:Nat)=0)=False from by simp,show ((1:Nat)=0)=False from by simp,if_false] at*;rw[sC];omega
  rw[←sC] at ct⊢;have qK:=m9 hlt hv he.touB (.inl rfl);have hbk:=fun i=>he.touB.bk hlt i
  have hfl:∀i,(a'.bk i).aN=(s.a.bk i).aN:=iN hlt he.touB (dE _);have ml:=fun i=>gW (f:={s.f with po:=po}) hlt he.touB i
  have uy:((FS.next ⟨a',{s.f with po:=po}⟩ d:Nat):Int)<g.aB:=by rw[ml,if_neg Lw];omega
  have hpd:po.how d=some 2:=by rw[cH,if_pos rfl]
  have Us:po.j5=some d:=vp ct.po ct.us hpd (by show po.count 2≤1;omega);refine⟨trivial, ?_,Us,uy⟩
  exact {
   ok:=ct,on:=o1,dC:=o2,aK:=by rw[he.aK];exact h.aK,ep:=h.ep
   ph:=ue h.ph hv he.touB
   gd:=by rw[qK];exact hgd
   cw:=fun y=>by rw[qK];exact h.Q0 hc y
   seq:=fun i f hf=>by rw[qK] at hf;exact h.seq i f (cG.1 hf).1
   sn:=h.sn
   aW:=fun i hi=>by
    show po.how i=some 3↔(a'.bk i).aN=true
    rw[cH,hfl];by_cases hid:i=d
    ·rw[hid,if_pos rfl];have:=h.aW d hd;rw[Lo] at this;simpa using this
    rw[if_neg hid];by_cases bh:i=v
    ·rw[bh,if_pos rfl,pY];simp
    ·rw[if_neg bh];exact h.aW i hi
   hf:=fun i hi e=>by
    show (a'.bk i).bX=false
    have e:(a'.bk i).aN=false:=e;rw[hfl] at e;rw[hbk];by_cases bh:i=v
    ·rw[if_pos bh];rfl
    ·rw[if_neg bh];exact h.hf i hi e
   cZ:=fun i hi e ht=>by
    have e:po.how i=some 0:=e;rw[cH] at e;rw[ml];by_cases hid:i=d
    ·rw[if_pos hid] at e;cases e
    rw[if_neg hid] at e;by_cases bh:i=v
    ·rw[if_pos bh];rfl
    ·rw[if_neg bh] at e⊢;exact h.cZ i hi e (fun v' e2=>hid (by cases e2;rfl))
   gi:=fun i hi e=>by
    have e:po.how i=some 1:=e;rw[cH] at e;show vw g a' i=[]∨lB (vw g a') i
    rw[qK];by_cases hid:i=d
    ·rw[if_pos hid] at e;cases e
    rw[if_neg hid] at e;by_cases bh:i=v
    ·rw[if_pos bh] at e;cases e
    ·rw[if_neg bh] at e;refine(h.gi i hi e).imp (fun e=> ?_) (fun e=>e.DD bh);unfold ki;rw[if_neg bh];exact e
   j5:=fun i hi e=>by
    have e:po.how i=some 2:=e;rw[cH] at e;by_cases hid:i=d
    ·rw[hid];exact .inr (.inr uy)
    show vw g a' i=[]∨lB (vw g a') i∨_
    rw[qK];rw[if_neg hid] at e;by_cases bh:i=v
    ·rw[if_pos bh] at e;cases e
    ·rw[if_neg bh] at e;rw[ml,if_neg bh];refine(h.j5 i hi e).imp (fun e=> ?_) (fun e=>e.imp (fun e=>e.DD bh) id);unfold ki;rw[if_neg bh];exact e
   DF:=fun d v e=>by cases e
   Hb:=fun e=>absurd rfl e
   one:=by show po.count 2≤1;omega
   si:=by
    show (po.count 3:Int)≤g.aG→_≤((po.count 0:Nat):Int)+(po.count 3:Nat)
    rw[c3,c0]
    exact h.si}
 ·left;rw[ho] at ct⊢;have ct:=ct.bu hg hd (h:=2) (by omega);unfold FS.bu at ct⊢;have gj:s.f.po.set v 3=s.f.po.cg v 3:=fJ (by rw[oF];simp) (.inl (by omega));simp only[gj] at ct⊢;have uz:=fun i=>fk (p:=s.f.po) (b:=v) (h:=3) i (h.ok.how hv)
  have Lk:(s.f.po.cg v 3).how d=some 0:=by rw[uz,if_neg Lw];exact Lo
  have zA:=fun k=>eG (p:=s.f.po) (b:=v) (h:=3) k oF
  have d2:=zA 2;simp only[show ((3:Nat)=2)=False from by simp,show ((1:Nat)=2)=False from by simp,if_false] at d2;have zB:(s.f.po.cg v 3).set d 2=(s.f.po.cg v 3).cg d 2:=fJ (by rw[Lk];simp) (.inr (by omega));simp only[zB] at ct⊢;obtain⟨po,sC⟩:∃po,po=(s.f.po.cg v 3).cg d 2:=⟨_,rfl⟩
  have cH:∀i,po.how i=if i=d then some 2 else if i=v then some 3 else s.f.po.how i:=fun i=>by
   rw[sC,fk i (by rw[Lk];rfl),uz]
  have zC:=fun k=>eG (p:=s.f.po.cg v 3) (b:=d) (h:=2) k Lk
  have c2:po.count 2=1:=by
   have:=zC 2;simp only[if_true,show ((0:Nat)=2)=False from by simp,if_false] at this;rw[sC];omega
  have c3:po.count 3=s.f.po.count 3+1:=by
   have:=zC 3;have:=zA 3;simp only[if_true,show ((0:Nat)=3)=False from by simp,show ((2:Nat)=3)=False from by simp,show ((1:Nat)=3)=False from by simp,if_false] at*;rw[sC];omega
  have c0:po.count 0+1=s.f.po.count 0:=by
   have:=zC 0;have:=zA 0;simp only[if_true,show ((2:Nat)=0)=False from by simp,show ((1:Nat)=0)=False from by simp,show ((3:Nat)=0)=False from by simp,if_false] at*;rw[sC];omega
  rw[←sC] at ct⊢;have qK:vw g a'=vw g s.a:=he.touB.wx hlt hv (by show Bk.ew _ _ _=_;unfold Bk.ew;simp only[bC,bq]);have hbk:=fun i=>he.touB.bk hlt i
  have ml:=fun i=>gW (f:={s.f with po:=po}) hlt he.touB i
  have OD:∀i,(a'.bk i).bX=(s.a.bk i).bX:=fun i=>by
   rw[hbk];split
   ·rename_i e;subst e;exact bC _
   ·rfl
  have uy:((FS.next ⟨a',{s.f with po:=po}⟩ d:Nat):Int)<g.aB:=by rw[ml,if_neg Lw];omega
  have hpd:po.how d=some 2:=by rw[cH,if_pos rfl]
  have Us:po.j5=some d:=vp ct.po ct.us hpd (by show po.count 2≤1;omega);refine⟨trivial, ?_,Us,uy⟩
  exact {
   ok:=ct,on:=o1,dC:=o2,aK:=by rw[he.aK];exact h.aK,ep:=h.ep
   ph:=zb h.ph hv o3 he.touB
   gd:=by rw[qK];exact h.gd
   cw:=fun y=>by rw[qK];exact h.cw y
   seq:=fun i f hf=>by rw[qK] at hf;exact h.seq i f hf
   sn:=h.sn
   aW:=fun i hi=>by
    show po.how i=some 3↔(a'.bk i).aN=true
    rw[cH,hbk];by_cases hid:i=d
    ·rw[hid,if_pos rfl,if_neg Lw];have:=h.aW d hd;rw[Lo] at this;simpa using this
    rw[if_neg hid];by_cases bh:i=v
    ·simp [bh]
    ·rw[if_neg bh,if_neg bh];exact h.aW i hi
   hf:=fun i hi e=>by
    show (a'.bk i).bX=false
    have e:(a'.bk i).aN=false:=e;rw[OD];rw[hbk] at e;by_cases bh:i=v
    ·rw[bh];exact h.hf v hv pY
    ·rw[if_neg bh] at e;exact h.hf i hi e
   cZ:=fun i hi e ht=>by
    have e:po.how i=some 0:=e;rw[cH] at e;rw[ml];by_cases hid:i=d
    ·rw[if_pos hid] at e;cases e
    rw[if_neg hid] at e;by_cases bh:i=v
    ·rw[if_pos bh] at e;cases e
    ·rw[if_neg bh] at e⊢;exact h.cZ i hi e (fun v' e2=>hid (by cases e2;rfl))
   gi:=fun i hi e=>by
    have e:po.how i=some 1:=e;rw[cH] at e;show vw g a' i=[]∨lB (vw g a') i
    rw[qK];by_cases hid:i=d
    ·rw[if_pos hid] at e;cases e
    rw[if_neg hid] at e;by_cases bh:i=v
    ·rw[if_pos bh] at e;cases e
    ·rw[if_neg bh] at e;exact h.gi i hi e
   j5:=fun i hi e=>by
    have e:po.how i=some 2:=e;rw[cH] at e;by_cases hid:i=d
    ·rw[hid];exact .inr (.inr uy)
    show vw g a' i=[]∨lB (vw g a') i∨_
    rw[qK];rw[if_neg hid] at e;by_cases bh:i=v
    ·rw[if_pos bh] at e;cases e
    ·rw[if_neg bh] at e;rw[ml,if_neg bh];exact h.j5 i hi e
   DF:=fun d v e=>by cases e
   Hb:=fun e=>absurd rfl e
   one:=by show po.count 2≤1;omega
   si:=by
    show (po.count 3:Int)≤g.aG→_≤((po.count 0:Nat):Int)+(po.count 3:Nat)
    intro hle;have:=h.si (by omega)
    omega}
 ·right;rw[ho];refine⟨rfl,o2,⟨o1,za hlt o3 he.touB,fun cut=>.inl ?_⟩⟩;obtain⟨p1,p2,p3⟩:=h.Fe hv o3 he.touB cut;rcases p3 with p3|p3
  ·refine⟨p1,by rw[p3];exact h.gd,h.UK (fun i _=>p2 i) (fun i hi hf hs=> ?_),by rw[p3];exact fun i f hf=>Nat.le_trans (h.seq i f hf) h.sn,h.Hd (fun i _=>p2 i) (fun i hi hf hs=>by rw[p3] at hs;exact h.Fb hi hf hs)⟩;rw[p3] at hs;rw[p2 i] at hf;exact h.iD hi hf hs
  ·refine⟨p1,by rw[p3];exact hgd,h.aa2 (d:=d) hv oF (fun i _=>p2 i) (fun i hi hf hs=> ?_),by rw[p3];exact fun i f hf=>Nat.le_trans (h.seq i f (cG.1 hf).1) h.sn,h.Hd (fun i _=>p2 i) (fun i hi hf hs=>by rw[p3] at hs;exact h.Fb hi hf (qx hs).2)⟩;rw[p3] at hs;rw[p2 i] at hf;have hne:=sj hs;refine⟨hne.1, ?_⟩;rcases h.QZ hi hf hne.2 with e|e|⟨v',e⟩
   ·exact .inl e
   ·exact .inr (.inl e)
   ·cases e;exact .inr (.inr rfl)
end
structure Kp (s s':FS) (m:Nat):Prop where
 boots:s'.a.boots=s.a.boots
 aK:s'.a.aK=s.a.aK
 ep:s'.f.ep=s.f.ep
 zF:s.a.bA≤0→s'.a.bA≤0∧s'.a.off=s.a.off
 c3:s.f.po.count 3≤s'.f.po.count 3
 seq:s'.f.seq≤s.f.seq+m
theorem Kp.rfl (s:FS) (m:Nat):Kp s s m:=⟨Eq.refl _,Eq.refl _,Eq.refl _,fun h=>⟨h,Eq.refl _⟩,Nat.le_refl _,Nat.le_add_right _ _⟩
theorem Kp.trans {s s' s'':FS} {m m':Nat} (h:Kp s s' m) (h':Kp s' s'' m'):Kp s s'' (m+m') where
 boots:=h'.boots.trans h.boots
 aK:=h'.aK.trans h.aK
 ep:=h'.ep.trans h.ep
 zF:=fun e=>⟨(h'.zF (h.zF e).1).1,(h'.zF (h.zF e).1).2.trans (h.zF e).2⟩
 c3:=Nat.le_trans h.c3 h'.c3
 seq:=by have:=h.seq;have:=h'.seq;omega
theorem Kp.mono {s s':FS} {m m':Nat} (h:Kp s s' m) (hm:m≤m'):Kp s s' m':={h with seq:=by have:=h.seq;omega}
structure Ka (a a':Ar):Prop where
 boots:a'.boots=a.boots
 aK:a'.aK=a.aK
 zF:a.bA≤0→a'.bA≤0∧a'.off=a.off
theorem Ka.rfl (a:Ar):Ka a a:=⟨Eq.refl _,Eq.refl _,fun h=>⟨h,Eq.refl _⟩⟩
theorem nc {a a':Ar} (h1:a'.boots=a.boots) (h2:a'.aK=a.aK) (h3:a'.bA=if a.bA>0 then oE (a.bA-1) else a.bA) (h4:a'.off=if a.bA>0 then decide (oE (a.bA-1)=0) else a.off):Ka a a':=
 ⟨h1,h2,fun h=>by
  rw[h3,h4];have:¬a.bA>0:=by omega
  exact⟨by rw[if_neg this];exact h,by rw[if_neg this]⟩⟩
theorem PH (a:Ar) (i p:Nat) (d:List UInt8) (e:Int):Ka a (fA a i p d e).1:=by
 unfold fA;split
 ·exact Ka.rfl a
 split
 ·exact Ka.rfl a
 split
 ·exact Ka.rfl a
 split
 ·exact Ka.rfl a
 split
 ·exact Ka.rfl a
 split
 ·exact Ka.rfl a
 split
 ·exact nc rfl rfl rfl rfl
 split
 ·exact nc rfl rfl rfl rfl
 ·exact nc rfl rfl rfl rfl
theorem Ny (a:Ar) (i:Nat) (e:Int):Ka a (dM a i e).1:=by
 unfold dM;split
 ·exact Ka.rfl a
 split
 ·exact Ka.rfl a
 split
 ·exact Ka.rfl a
 split
 ·exact nc rfl rfl rfl rfl
 split
 ·exact nc rfl rfl rfl rfl
 ·exact nc rfl rfl rfl rfl
theorem I8 {b h:Nat} {l:List (Nat×Nat)} (hh:h=3∨fq b l≠some 3):∀{l':List (Nat×Nat)},l'=l→l'.countP (fun x=>decide (x.2=3))≤(pN b h l').countP (fun x=>decide (x.2=3)):=by
 intro l' e;subst e
 cases ho:fq b l' with
 |none=>
  have:∀l:List (Nat×Nat),fq b l=none→pN b h l=l:=by
   intro l
   induction l with
   |nil=>intro _;rfl
   |cons x l ih=>
    intro h;rw[fq] at h;rw[pN];split at h
    ·cases h
    ·rename_i hx;rw[if_neg hx,ih h]
  rw[this _ ho];exact Nat.le_refl _
 |some w=>
  have:=sf (h:=h) (k:=3) ho;rcases hh with rfl|hh
  ·simp only[if_true] at this;split at this<;>omega
  ·have hw:¬w=3:=fun e=>hh (by rw[ho,e])
   rw[if_neg hw] at this;omega
theorem Hg {p:Po} (hp:p.ok) (b h:Nat):p.count 3≤(p.set b h).count 3:=by
 unfold Po.set;split
 ·exact Nat.le_refl _
 ·rename_i hn
  have h1:h=3∨p.how b≠some 3:=by
   by_cases e:h=3
   ·exact .inl e
   ·exact .inr (fun h2=>hn ⟨h2,e⟩)
  split
  ·rename_i h2
   have hu:p.count 3≤p.jo.count 3∧(p.how b≠some 3→p.jo.how b≠some 3):=by
    unfold Po.jo
    cases ho:p.j5 with
    |none=>exact⟨Nat.le_refl _,id⟩
    |some o=>
     have YT:=wV hp ho;refine⟨?_,fun h3=> ?_⟩
     ·have:=eG (h:=1) 3 YT;simp at this;exact Nat.le_of_eq this.symm
     ·show (p.cg o 1).how b≠some 3
      rw[fk b (by rw[YT];rfl)];split
      ·simp
      ·exact h3
   exact Nat.le_trans hu.1 (I8 (l:=p.jo.bl) (h1.imp id hu.2) rfl)
  ·exact I8 (l:=p.bl) h1 rfl
theorem Hh (n:Nat):iQ n≤n+1:=Nat.mod_le _ _
section
variable {g:bZ} {s:FS}
theorem aX.Ky (h:aX g s) (b w:Nat):Kp s (s.bu b w) 0:=
 ⟨rfl,rfl,rfl,fun e=>⟨e,rfl⟩,Hg h.po b w,Nat.le_refl _⟩
theorem aX.Hi (h:aX g s) (b:Nat):Kp s (Go.Proofs.YtlgdkndamddpkaaGreat.bB s b).1 0:=by
 have ka:=Ny s.a b s.f.ep;have key:∀w,Kp s (FS.bu {s with a:=(dM s.a b s.f.ep).1} b w) 0:=fun w=>⟨ka.boots,ka.aK,rfl,ka.zF,Hg h.po b w,Nat.le_refl _⟩
 unfold Go.Proofs.YtlgdkndamddpkaaGreat.bB;split
 ·exact key 0
 split
 ·exact key 3
 ·exact⟨ka.boots,ka.aK,rfl,ka.zF,Nat.le_refl _,Nat.le_refl _⟩
theorem aX.I9 (h:aX g s) (b:Nat) (x:Sh):Kp s (Go.Proofs.YtlgdkndamddpkaaGreat.bT s b x).1 1:=by
 have ka:=PH s.a b (s.next b) (dR {x with ep:=s.f.ep,seq:=iQ s.f.seq}) s.f.ep;unfold Go.Proofs.YtlgdkndamddpkaaGreat.bT;simp only;split
 ·exact⟨ka.boots,ka.aK,rfl,ka.zF,Hg h.po b 3,Hh _⟩
 split
 ·exact⟨ka.boots,ka.aK,rfl,ka.zF,Nat.le_refl _,Hh _⟩
 ·exact⟨ka.boots,ka.aK,rfl,ka.zF,Nat.le_refl _,Hh _⟩
theorem aX.Nz (hg:g.In) (hcap:g.cap<65000) {v:Nat} (hv:v∈g.us):∀(n:Nat) (s:FS) (d:Nat) {r:FS×Int×Nat},oh g n s v d=some r→aX g s→d∈g.us→Kp s r.1 n
 |0,s,d,r,hf,hok,hd=>by cases hf
 |n+1,s,d,r,hf,hok,hd=>by
  rw[oh] at hf;split at hf
  ·cases hf;exact Kp.rfl _ _
  split at hf
  ·cases hf
  rename_i a l Lt;have har:=tX hok.pm (by rw[Lt];exact List.mem_cons_self:a∈s.f.pm.on v);have hna:=hok.na;split at hf
  ·cases hf
  rename_i x sA;obtain⟨hx1,ux⟩:=vn (by omega) sA;have fh:=hok.bT hg hd (x:={x with fr:=v+1}) ux;have k1:=hok.I9 d {x with fr:=v+1};split at hf
  case isFalse=>cases hf
  split at hf
  ·split at hf
   ·cases hf;exact k1.mono (by omega)
   ·rename_i d' hfr;exact(k1.trans (aX.Nz hg hcap hv n _ d' hf fh (fh.pP hfr))).mono (by omega)
  split at hf
  ·exact(k1.trans (aX.Nz hg hcap hv n _ d hf fh hd)).mono (by omega)
  ·cases hf;exact k1.mono (by omega)
theorem aX.NA (hg:g.In) (hcap:g.cap<65000) {n:Nat} (hok:aX g s) {r:FS×Int} (hf:gV g n s=some r):Kp s r.1 n:=by
 unfold gV at hf;split at hf
 ·cases hf;exact Kp.rfl _ _
 rename_i v hl;have hv:=hok.yN hl;split at hf
 ·cases hf;exact(hok.Hi v).mono (by omega)
 split at hf
 ·cases hf;exact Kp.rfl _ _
 rename_i d hfr;split at hf
 ·cases hf;exact Kp.rfl _ _
 split at hf
 ·cases hf
 rename_i s1 e d1 pX;have h1:=pQ hg hcap hv n s d pX hok (hok.pP hfr);have k1:=aX.Nz hg hcap hv n s d pX hok (hok.pP hfr);split at hf
 ·rename_i h0;have k2:=h1.1.Hi v;split at hf
  ·cases hf;exact((k1.trans k2).trans ((h1.1.bB hg hv).Ky d1 2)).mono (by omega)
  ·cases hf;exact(k1.trans k2).mono (by omega)
 ·cases hf;exact k1
theorem aX.Q1 (hg:g.In) (hcap:g.cap<65000) {k:Nat}:∀(n:Nat) (s:FS) {r:FS×Int×Nat},aX g s→(iZ g k n s=some r→aX g r.1∧(r.2.1=0→r.2.2∈g.us)∧Kp s r.1 (n*k))∧(lh g k n s=some r→aX g r.1∧(r.2.1=0→r.2.2∈g.us)∧Kp s r.1 ((n+1)*k))
 |n,s,r,hok=>by
  have Bh:∀(n:Nat),(∀(s:FS) {r:FS×Int×Nat},aX g s→iZ g k n s=some r→aX g r.1∧(r.2.1=0→r.2.2∈g.us)∧Kp s r.1 (n*k))→∀(s:FS) {r:FS×Int×Nat},aX g s→lh g k n s=some r→aX g r.1∧(r.2.1=0→r.2.2∈g.us)∧Kp s r.1 ((n+1)*k):=by
   intro n ih s r hok hf;unfold lh at hf;split at hf
   ·cases hf;exact⟨hok,fun h=>(by cases h),Kp.rfl _ _⟩
   split at hf
   ·split at hf
    ·cases hf
    ·rename_i b hfr;have hb:=hok.pP hfr;obtain⟨h1,h2,h3⟩:=ih _ (hok.bu hg hb (by omega)) hf;exact⟨h1,h2,((hok.Ky b 2).trans h3).mono (by rw[Nat.succ_mul];omega)⟩
   split at hf
   ·cases hf
   rename_i s1 e hc;have fS:=E9 hg hcap hok hc;have k1:=hok.NA hg hcap hc;split at hf
   ·obtain⟨h1,h2,h3⟩:=ih _ fS hf;exact⟨h1,h2,(k1.trans h3).mono (by rw[Nat.succ_mul];omega)⟩
   ·rename_i he;cases hf;exact⟨fS,fun h=>absurd h he,k1.mono (by rw[Nat.succ_mul];omega)⟩
  have PL:∀(n:Nat) (s:FS) {r:FS×Int×Nat},aX g s→iZ g k n s=some r→aX g r.1∧(r.2.1=0→r.2.2∈g.us)∧Kp s r.1 (n*k):=by
   intro n
   induction n with
   |zero=>intro s r hok hf;rw[iZ] at hf;cases hf
   |succ n ih=>
    intro s r hok hf;rw[iZ] at hf;split at hf
    ·rename_i b ho;have hb:=hok.PE ho;split at hf
     ·cases hf;exact⟨hok,fun _=>hb,Kp.rfl _ _⟩
     ·obtain⟨h1,h2,h3⟩:=Bh n (fun s=>ih s) _ (hok.bu hg hb (by omega)) hf;exact⟨h1,h2,((hok.Ky b 1).trans h3).mono (by omega)⟩
    ·exact Bh n (fun s=>ih s) _ hok hf
  exact⟨PL n s hok,Bh n (PL n) s hok⟩
theorem aX.XR (hg:g.In) (hcap:g.cap<65000) {k:Nat} {x:Sh} (hx:x.data.length≤64):∀(n:Nat) (s:FS) {r:FS×Int},aX g s→tW g k n s x=some r→aX g r.1∧Kp s r.1 (n*(k*k+1))
 |0,s,r,hok,hf=>by cases hf
 |n+1,s,r,hok,hf=>by
  rw[tW] at hf;split at hf
  ·cases hf
  rename_i s1 e b hro;obtain⟨h1,h2,h3⟩:=(aX.Q1 hg hcap k s hok).1 hro;split at hf
  ·rename_i he;have hb:=h2 he;have fh:=h1.bT hg hb hx;have k2:=h1.I9 b x;split at hf
   ·obtain⟨h4,h5⟩:=aX.XR hg hcap hx n _ fh hf;exact⟨h4,((h3.trans k2).trans h5).mono (by rw[Nat.succ_mul];omega)⟩
   ·cases hf;exact⟨fh,(h3.trans k2).mono (by rw[Nat.succ_mul];omega)⟩
  ·cases hf;exact⟨h1,h3.mono (by rw[Nat.succ_mul];omega)⟩
end
section
variable {g:bZ} {s:FS} {c:Nat→List UInt8} {ds:List Nat} {N:Nat} {tg:Oq}
theorem Rn.Ty (h:Rn g s c ds N tg) {x b p:Nat} (zH:s.f.pm.at x=some (b,p)):∃f∈vw g s.a b,f.p=p∧wF (vw g s.a) c x f:=by
 rcases h.cw x with⟨h1,_⟩|⟨b',p',h1,h2⟩
 ·rw[h1] at zH;cases zH
 ·rw[h1] at zH;cases zH;exact h2
theorem Rn.aa3 (h:Rn g s c ds N tg) {b:Nat} {f:Fd} (hf:f∈vw g s.a b):(gh s.a b f.p).1=0∧eS (gh s.a b f.p).2=some f.s:=by
 obtain⟨hb,_,hh,hp,hr,_,_,_⟩:=nW hf;have hlt:=h.ph.lt hb;have hlen:=h.ph.len _ (jq hlt);have hnp:¬s.a.aB≤(f.p:Int):=by rw[h.ph.p];omega
 rw[List.getElem?_eq_getElem hp] at hr;unfold gh;rw[if_neg (by simp [h.on]),if_neg hnp,yR hlt];simp only;rw[List.getElem?_eq_getElem hp];simp only;rw[if_neg (by simp [hh])];exact⟨rfl,by simpa using hr⟩
theorem Rn.mZ (h:Rn g s c ds N tg) (x:Nat):∃t:Sh,s.mZ x=some t∧t.data=c x∧∀b p,s.f.pm.at x=some (b,p)→∃f∈vw g s.a b,f.p=p∧f.s=t∧wF (vw g s.a) c x f:=by
 unfold FS.mZ;rw[show s.f.pm.cw.getD x none=s.f.pm.at x from rfl];rcases h.cw x with⟨h1,h2⟩|⟨b,p,h1,f,h2,h3,h4⟩
 ·rw[h1];refine⟨_,rfl, ?_,fun b p e=>by cases e⟩;rcases h.gd.a2 x with⟨h3,_⟩|⟨b,f,hf,hc⟩
  ·exact h3.symm
  ·exact absurd hc.1 (h2 b f hf)
 ·rw[h1];obtain⟨r1,r2⟩:=h.aa3 h2;rw[h3] at r1 r2;refine⟨f.s, ?_,h4.2.1,fun b' p' e=>by cases e;exact⟨f,h2,h3,rfl,h4⟩⟩;simp only;rw[if_pos r1];exact r2
theorem Rn.PI (h:Rn g s c ds N tg) {v:Nat} (hc:s.f.pm.dO v≠0):vw g s.a v≠[]:=by
 obtain⟨x,p,hx⟩:=wW hc;obtain⟨f,hf,_⟩:=h.Ty hx;intro e;rw[e] at hf;cases hf
theorem aX.Ja (h:aX g s) {d:Nat} (hf:s.cZ=some d):s.f.po.how d=some 0:=ua h.po.E4 (qt hf)
theorem aX.zd (h:aX g s) (hc:0<s.f.po.count 0):∃d,s.cZ=some d:=by
 rw[h.dO 0] at hc;obtain⟨b,hb,e⟩:=List.countP_pos_iff.1 hc;refine yT (of_decide_eq_true e) ?_;have:=h.lt hb;simpa [FS.PC] using this
theorem Rn.begin (h:Rn g s c ds N none) {d v:Nat} (hf:s.cZ=some d) (hv:v∈g.us) (oF:s.f.po.how v=some 1) (hc:s.f.pm.dO v≠0) (hp:(s.f.pm.dO v:Int)<g.aB) (h2:s.f.po.count 2=0):Rn g s c ds N (some (d,v)):=by
 have hd:=h.ok.pP hf;have Lo:=h.ok.Ja hf;have ml:=h.cZ d hd Lo (fun v e=>by cases e)
 exact {h with
  Hb:=fun _=>h2
  cZ:=fun b hb e ht=>h.cZ b hb e (fun v e=>by cases e)
  DF:=fun d' v' e=>by
   cases e;refine⟨hd,hv,fun e=>(by rw[e,oF] at Lo;cases Lo),Lo,oF,(h.gi v hv oF).resolve_left (h.PI hc),fun f hf=> ?_,by omega⟩
   rw[yX (.inl (List.eq_nil_of_length_eq_zero ml))] at hf;cases hf}
theorem Rn.C5 (h:Rn g s c ds N tg):s.f.po.count 3≤g.us.length:=by
 have:=h.ok.Nu;omega
theorem Rn.Hj (hg:g.In) (hc:g.cap<65000) (hN:N<281474976710656) {v:Nat} (hv:v∈g.us):∀(n:Nat) (s:FS) (d:Nat),Rn g s c ds N (some (d,v))→s.f.po.count 2=0→s.f.seq+n≤N→s.f.pm.dO v+(g.us.length-s.f.po.count 3)<n→∃s1 e d1,oh g n s v d=some (s1,e,d1)∧((e=0∧Rn g s1 c ds N (some (d1,v))∧s1.f.pm.dO v=0∧s1.f.po.count 2=0)∨(e=10∧Rn g s1 c ds N none∧g.aG<s1.f.po.count 3∧s1.f.po.count 2=0)∨(e=9∧jQ g s1.a c c ds N))
 |0,s,d,h,h2,hs,hm=>by omega
 |n+1,s,d,h,h2,hs,hm=>by
  rw[oh];by_cases h0:s.f.pm.dO v=0
  ·rw[if_pos h0];exact⟨s,0,d,rfl,.inl ⟨rfl,h,h0,h2⟩⟩
  rw[if_neg h0]
  cases Lt:s.f.pm.on v with
  |nil=>exact absurd Lt (XN h.ok.pm h0)
  |cons a l=>
   obtain⟨x,p,rfl,zH⟩:=PG (by rw[Lt];exact List.mem_cons_self:a∈s.f.pm.on v);obtain⟨t,ht,_,htp⟩:=h.mZ x;obtain⟨u,hu,hup,qE,F0⟩:=htp v p zH;subst qE;simp only[Int.toNat_natCast];rw[ht];simp only;have sA:=nW hu;rw[if_pos sA.2.2.2.2.2.2.2];have hd:=(h.DF d v rfl).1;have kp:=h.ok.I9 d {u.s with fr:=v+1};have fh:=h.ok.bT hg hd (x:={u.s with fr:=v+1}) sA.2.2.2.2.2.1.dl;have kseq:=kp.seq;have kc3:=kp.c3;have pX:=h.copy hg hc zH hu F0 (by omega) (by omega);generalize bT s d {u.s with fr:=v+1}=r at pX kseq kc3 fh⊢;have hc3:=h.C5;rcases pX with⟨e,h1,hcm,sC⟩|⟨e,h1,hpm,oF,abP,FK⟩|⟨e,_,U9⟩
   ·rw[if_neg (by omega),if_pos e];exact Rn.Hj hg hc hN hv n r.1 d h1 (by rw[sC];exact h2) (by omega) (by omega)
   ·rw[if_pos e]
    cases hfr:r.1.cZ with
    |none=>
     refine⟨r.1,10,0,rfl,.inr (.inl ⟨rfl,h1, ?_,by omega⟩)⟩;by_cases hsp:(r.1.f.po.count 3:Int)≤g.aG
     ·have:=h1.si hsp
      have hpos:¬0<r.1.f.po.count 0:=fun hp=>by
       obtain⟨d',hd'⟩:=h1.ok.zd hp;rw[hfr] at hd';cases hd'
      omega
     ·omega
    |some d'=>
     simp only;have hroom:=(h.DF d v rfl).2.2.2.2.2.2.2;have hb:=h1.begin hfr hv oF (by rw[hpm];exact h0) (by rw[hpm];omega) (by omega);have h1c:=h1.C5;exact Rn.Hj hg hc hN hv n r.1 d' hb (by omega) (by omega) (by rw[hpm];omega)
   ·rw[if_neg (by omega),if_neg (by omega)];exact⟨r.1,r.2,0,rfl,.inr (.inr ⟨e,U9⟩)⟩
end
theorem Jb {α:Type} (p:α→Bool) (P:Nat):∀l:List α,(l.map fun b=>if p b=true then P else 0).sum=P*l.countP p
 |[]=>rfl
 |x::l=>by
  rw[List.map_cons,List.sum_cons,List.countP_cons,Jb p P l];by_cases h:p x=true
  ·rw[if_pos h,if_pos h,Nat.mul_add,Nat.mul_one,Nat.add_comm]
  ·rw[if_neg h,if_neg h,Nat.zero_add,Nat.add_zero]
theorem bZ.eH {g:bZ} (h:g.cM=true):g.yA:=by
 unfold bZ.cM at h;rw[Bool.and_eq_true] at h;exact of_decide_eq_true h.1
theorem bZ.nf {g:bZ} (h:g.cM=true):0<g.cap:=by
 unfold bZ.cM at h;rw[Bool.and_eq_true,Bool.and_eq_true] at h;exact of_decide_eq_true h.2.2
section
variable {g:bZ} {s:FS} {c:Nat→List UInt8} {ds:List Nat} {N:Nat} {tg:Oq}
theorem aX.NB (h:aX g s) {d:Nat} (hf:s.iM=some d):s.f.po.how d=some 1:=ua h.po.E4 (qt hf)
theorem aX.C6 (h:aX g s) {b:Nat} (hb:b∈g.us):b<s.f.pm.gU.length∧s.f.pm.gU.getD b 0=(s.f.pm.dO b:Int):=by
 have h1:=m0 hb;have h2:=h.nb;have hl:b<s.f.pm.gU.length:=by rw[pK];omega
 refine⟨hl, ?_⟩;rw[List.getD_eq_getElem?_getD,List.getElem?_eq_getElem hl];simp [Pm.gU]
theorem aX.NC (h:aX g s) {v:Nat} (hf:s.iM=some v) {b:Nat} (hb:b∈g.us) (h1:s.f.po.how b=some 1):s.f.pm.dO v≤s.f.pm.dO b:=by
 obtain⟨l1,l2⟩:=h.C6 hb;obtain⟨m1,m2⟩:=h.C6 (h.yN hf);have:=(lj hf).2 _ (tZ h1) rfl l1;simp only at this;rw[l2,m2] at this;omega
theorem aX.Kz (h:aX g s) (hc:0<s.f.po.count 1):∃v,s.iM=some v:=by
 rw[h.dO 1] at hc;obtain⟨b,hb,e⟩:=List.countP_pos_iff.1 hc;exact yT (of_decide_eq_true e) (h.C6 hb).1
theorem aX.PJ (h:aX g s) (hform:g.cM=true) {v:Nat} (hf:s.iM=some v) (h1:(s.f.po.count 1:Int)=g.us.length-1-g.aG):(s.f.pm.dO v:Int)<g.aB:=by
 have hn:=bZ.eH hform;obtain⟨P,hP⟩:∃P:Nat,g.aB=(P:Int):=⟨g.aB.toNat,by have:=hn.2.2.1;omega⟩;by_cases hlt:(s.f.pm.dO v:Int)<g.aB
 ·exact hlt
 exfalso;have hge:P≤s.f.pm.dO v:=by omega
 have abQ:=I6 (m7 g) s.f.pm.cw
 have hle:(g.us.map fun b=>if decide (s.f.po.how b=some 1)=true then P else 0).sum≤(g.us.map fun b=>s.f.pm.cw.countP (uA b)).sum:=C3 _ _ _ (fun b hb=>by
  split
  ·rename_i e;exact Nat.le_trans hge (h.NC hf hb (of_decide_eq_true e))
  ·exact Nat.zero_le _)
 rw[Jb, ←h.dO 1] at hle;have hna:=h.na;have hcap:g.cap=g.aB*(g.us.length-g.aG-1)-2:=rfl
 have e1:((P*s.f.po.count 1:Nat):Int)=g.aB*(g.us.length-g.aG-1):=by
  rw[Int.natCast_mul, ←hP,h1];congr 1;omega
 omega
theorem Rn.mono (h:Rn g s c ds N tg) {N':Nat} (hN:N≤N'):Rn g s c ds N' tg:={h with sn:=Nat.le_trans h.sn hN}
theorem Cr.mono {a:Ar} (h:Cr g a c ds N) {N':Nat} (hN:N≤N'):Cr g a c ds N':={h with seq:=fun b f hf=>Nat.le_trans (h.seq b f hf) hN}
theorem jQ.mono {a:Ar} {c':Nat→List UInt8} (h:jQ g a c c' ds N) {N':Nat} (hN:N≤N'):jQ g a c c' ds N':={h with cw:=fun cut=>(h.cw cut).imp (fun h=>h.mono hN) (fun h=>h.mono hN)}
theorem Rn.open (h:Rn g s c ds N none) (hg:g.In) (hform:g.cM=true) {b:Nat} (hf:s.cZ=some b) (h2:s.f.po.count 2=0) (hr:(s.f.po.count 3:Int)≤g.aG→1+g.aG<s.f.po.count 0+s.f.po.count 3):Rn g (s.bu b 2) c ds N none∧(s.bu b 2).f.po.j5=some b∧((s.bu b 2).next b:Int)<g.aB:=by
 have hb:=h.ok.pP hf;have hb0:=h.ok.Ja hf;have ct:=h.ok.bu hg hb (h:=2) (by omega);unfold FS.bu at ct⊢;have gj:s.f.po.set b 2=s.f.po.cg b 2:=fJ (by rw[hb0];simp) (.inr h2);simp only[gj] at ct⊢;have cH:=fun i=>fk (p:=s.f.po) (b:=b) (h:=2) i (h.ok.how hb)
 have jt:=fun k=>eG (p:=s.f.po) (b:=b) (h:=2) k hb0
 have c2:=jt 2;have c3:=jt 3;have c0:=jt 0;simp only[if_true,show ((0:Nat)=3)=False from by simp,show ((2:Nat)=3)=False from by simp,show ((0:Nat)=2)=False from by simp,show ((2:Nat)=0)=False from by simp,if_false] at c2 c3 c0;have ml:s.next b=0:=h.cZ b hb hb0 (fun v e=>by cases e);have sA:=(bZ.eH hform).2.2.1;have Zz:(s.f.po.cg b 2).how b=some 2:=by rw[cH,if_pos rfl]
 refine⟨?_,vp ct.po ct.us Zz (by show (s.f.po.cg b 2).count 2≤1;omega),by show ((s.next b:Nat):Int)<_;omega⟩
 exact {h with
  ok:=ct
  aW:=fun i hi=>by
   show (s.f.po.cg b 2).how i=some 3↔_
   rw[cH];by_cases bh:i=b
   ·rw[bh,if_pos rfl];have:=h.aW b hb;rw[hb0] at this;simpa using this
   ·rw[if_neg bh];exact h.aW i hi
  cZ:=fun i hi e ht=>by
   have e:(s.f.po.cg b 2).how i=some 0:=e;rw[cH] at e;by_cases bh:i=b
   ·rw[if_pos bh] at e;cases e
   ·rw[if_neg bh] at e;exact h.cZ i hi e ht
  gi:=fun i hi e=>by
   have e:(s.f.po.cg b 2).how i=some 1:=e;rw[cH] at e;by_cases bh:i=b
   ·rw[if_pos bh] at e;cases e
   ·rw[if_neg bh] at e;exact h.gi i hi e
  j5:=fun i hi e=>by
   have e:(s.f.po.cg b 2).how i=some 2:=e;rw[cH] at e;by_cases bh:i=b
   ·right;right;show ((s.next i:Nat):Int)<_;rw[bh];omega
   ·rw[if_neg bh] at e;exact h.j5 i hi e
  DF:=fun d v e=>by cases e
  Hb:=fun e=>absurd rfl e
  one:=by show (s.f.po.cg b 2).count 2≤1;omega
  si:=by
   show ((s.f.po.cg b 2).count 3:Int)≤g.aG→_≤(((s.f.po.cg b 2).count 0:Nat):Int)+((s.f.po.cg b 2).count 3:Nat)
   intro hle;have:=hr (by omega)
   omega}
theorem Rn.close (h:Rn g s c ds N none) (hg:g.In) {b:Nat} (hf:s.f.po.j5=some b) (hp:¬(s.next b:Int)<g.aB):Rn g (s.bu b 1) c ds N none∧(s.bu b 1).f.po.count 2=0:=by
 have hb:=h.ok.PE hf;have mj:=wV h.ok.po hf;have ct:=h.ok.bu hg hb (h:=1) (by omega);unfold FS.bu at ct⊢;have gj:s.f.po.set b 1=s.f.po.cg b 1:=fJ (by rw[mj];simp) (.inl (by omega));simp only[gj] at ct⊢;have cH:=fun i=>fk (p:=s.f.po) (b:=b) (h:=1) i (h.ok.how hb)
 have jt:=fun k=>eG (p:=s.f.po) (b:=b) (h:=1) k mj
 have c2:=jt 2;have c3:=jt 3;have c0:=jt 0;have hone:=h.one;simp only[if_true,show ((1:Nat)=3)=False from by simp,show ((2:Nat)=3)=False from by simp,show ((1:Nat)=2)=False from by simp,show ((1:Nat)=0)=False from by simp,show ((2:Nat)=0)=False from by simp,if_false] at c2 c3 c0;refine⟨?_,by omega⟩
 exact {h with
  ok:=ct
  aW:=fun i hi=>by
   show (s.f.po.cg b 1).how i=some 3↔_
   rw[cH];by_cases bh:i=b
   ·rw[bh,if_pos rfl];have:=h.aW b hb;rw[mj] at this;simpa using this
   ·rw[if_neg bh];exact h.aW i hi
  cZ:=fun i hi e ht=>by
   have e:(s.f.po.cg b 1).how i=some 0:=e;rw[cH] at e;by_cases bh:i=b
   ·rw[if_pos bh] at e;cases e
   ·rw[if_neg bh] at e;exact h.cZ i hi e ht
  gi:=fun i hi e=>by
   have e:(s.f.po.cg b 1).how i=some 1:=e;rw[cH] at e;by_cases bh:i=b
   ·rw[bh];rcases h.j5 b hb mj with e|e|e
    ·exact .inl e
    ·exact .inr e
    ·exact absurd e hp
   ·rw[if_neg bh] at e;exact h.gi i hi e
  j5:=fun i hi e=>by
   have e:(s.f.po.cg b 1).how i=some 2:=e;rw[cH] at e;by_cases bh:i=b
   ·rw[if_pos bh] at e;cases e
   ·rw[if_neg bh] at e;exact h.j5 i hi e
  DF:=fun d v e=>by cases e
  Hb:=fun e=>absurd rfl e
  one:=by show (s.f.po.cg b 1).count 2≤1;omega
  si:=by
   show ((s.f.po.cg b 1).count 3:Int)≤g.aG→_≤(((s.f.po.cg b 1).count 0:Nat):Int)+((s.f.po.cg b 1).count 3:Nat)
   intro hle;have:=h.si (by omega)
   omega}
theorem Rn.PK (h:Rn g s c ds N none) (hg:g.In) (hform:g.cM=true) (hc:g.cap<65000) (hN:N<281474976710656) {n:Nat} (hn:100≤n) (hs:s.f.seq+n≤N) (h2:s.f.po.count 2=0) (hd:(s.f.po.count 3:Int)≤g.aG) (hfr:¬(s.f.po.count 0:Int)>1+g.aG-s.f.po.count 3):∃s1 e,gV g n s=some (s1,e)∧((e=0∧Rn g s1 c ds N none∧((∃d,s1.f.po.j5=some d∧(s1.next d:Int)<g.aB)∨(s1.f.po.count 2=0∧s.f.po.count 0+s.f.po.count 3+1=s1.f.po.count 0+s1.f.po.count 3)))∨(e=10∧Rn g s1 c ds N none∧g.aG<s1.f.po.count 3)∨(e=9∧jQ g s1.a c c ds N)):=by
 have h4:=h.ok.Nu;have hres:=h.si hd;have hcap:=bZ.nf hform;have Qy:=bZ.eH hform;have hcd:g.cap=g.aB*(g.us.length-g.aG-1)-2:=rfl
 have abI:0<(g.us.length:Int)-g.aG-1:=by
  by_cases hz:0<(g.us.length:Int)-g.aG-1
  ·exact hz
  ·exfalso;have:=Int.mul_nonpos_of_nonneg_of_nonpos (a:=g.aB) (b:=(g.us.length:Int)-g.aG-1) (by have:=Qy.2.2.1;omega) (by omega);omega
 obtain⟨v,hv⟩:=h.ok.Kz (by omega);have UZ:=h.ok.yN hv;have oF:=h.ok.NB hv;have hlt:=h.ok.PJ hform hv (by omega);have Jy:=bZ.k6 g hg.b.2;have sB:=hg.p;unfold gV;rw[hv];simp only;by_cases h0:s.f.pm.dO v=0
 ·rw[if_pos h0];rcases h.yM hg UZ oF h0 with⟨e1,e2,e3,e4⟩|⟨e1,_,e2⟩
  ·exact⟨_,_,rfl,.inl ⟨e1,e2,.inr ⟨e3.trans h2,e4⟩⟩⟩
  ·exact⟨_,_,rfl,.inr (.inr ⟨e1,e2⟩)⟩
 rw[if_neg h0];obtain⟨d,F7⟩:=h.ok.zd (by omega);rw[F7];simp only;rw[if_neg (by omega)];have hb:=h.begin F7 UZ oF h0 hlt h2;obtain⟨s1,e,d1,pX,hres⟩:=Rn.Hj hg hc hN UZ n s d hb h2 hs (by omega);rw[pX];simp only;rcases hres with⟨rfl,k1,k2,k3⟩|⟨rfl,k1,k2,k3⟩|⟨rfl,k1⟩
 ·rw[if_pos rfl];rcases k1.swap hg k2 k3 with⟨e1,e2,e3,e4⟩|⟨e1,_,e2⟩
  ·rw[if_pos e1];exact⟨_,_,rfl,.inl ⟨rfl,e2,.inl ⟨d1,e3,e4⟩⟩⟩
  ·rw[if_neg (by omega)];exact⟨_,_,rfl,.inr (.inr ⟨e1,e2⟩)⟩
 ·rw[if_neg (by omega)];exact⟨_,_,rfl,.inr (.inl ⟨rfl,k1,k2⟩)⟩
 ·rw[if_neg (by omega)];exact⟨_,_,rfl,.inr (.inr ⟨rfl,k1⟩)⟩
def C7 (g:bZ) (c:Nat→List UInt8) (ds:List Nat) (N:Nat) (o:Option (FS×Int×Nat)):Prop:=
 ∃s1 e b,o=some (s1,e,b)∧((e=0∧Rn g s1 c ds N none∧b∈g.us∧s1.f.po.how b=some 2∧(s1.next b:Int)<g.aB)∨(e=10∧Rn g s1 c ds N none∧g.aG<s1.f.po.count 3)∨(e=9∧jQ g s1.a c c ds N))
theorem Rn.C8 (h:Rn g s c ds N none) {b:Nat} (hf:s.f.po.j5=some b) (hp:(s.next b:Int)<g.aB) (k n:Nat):C7 g c ds N (iZ g k (n+1) s):=by
 rw[iZ,hf];simp only;rw[if_pos hp];exact⟨s,0,b,rfl,.inl ⟨rfl,h,h.ok.PE hf,wV h.ok.po hf,hp⟩⟩
theorem Rn.Ff (h:Rn g s c ds N none) (hg:g.In) (hform:g.cM=true) (h2:s.f.po.count 2=0) (hf:(s.f.po.count 0:Int)>1+g.aG-s.f.po.count 3) (k n:Nat):C7 g c ds N (lh g k (n+1) s):=by
 unfold lh;by_cases hd:(s.f.po.count 3:Int)>g.aG
 ·rw[if_pos hd];exact⟨s,10,0,rfl,.inr (.inl ⟨rfl,h,by omega⟩)⟩
 rw[if_neg hd,if_pos hf];obtain⟨b,hb⟩:=h.ok.zd (by omega);rw[hb];simp only;obtain⟨h1,h3,h4⟩:=h.open hg hform hb h2 (fun _=>by omega);exact h1.C8 h3 h4 k n
theorem Rn.Bh (h:Rn g s c ds N none) (hg:g.In) (hform:g.cM=true) (hc:g.cap<65000) (hN:N<281474976710656) {k n:Nat} (hk:100≤k) (hs:s.f.seq+k≤N) (h2:s.f.po.count 2=0):C7 g c ds N (lh g k (n+2) s):=by
 by_cases hf:(s.f.po.count 0:Int)>1+g.aG-s.f.po.count 3
 ·exact h.Ff hg hform h2 hf k (n+1)
 unfold lh;by_cases hd:(s.f.po.count 3:Int)>g.aG
 ·rw[if_pos hd];exact⟨s,10,0,rfl,.inr (.inl ⟨rfl,h,by omega⟩)⟩
 rw[if_neg hd,if_neg hf];obtain⟨s1,e,vC,hr⟩:=h.PK hg hform hc hN hk hs h2 (by omega) hf;rw[vC];simp only;rcases hr with⟨rfl,k1,k2⟩|⟨rfl,k1,k2⟩|⟨rfl,k1⟩
 ·rw[if_pos rfl];rcases k2 with⟨d,k2,k3⟩|⟨k2,k3⟩
  ·exact k1.C8 k2 k3 k (n+1)
  ·rw[iZ,pR.2 k2];simp only;have hres:=h.si (by omega);exact k1.Ff hg hform k2 (by omega) k n
 ·rw[if_neg (by omega)];exact⟨_,_,_,rfl,.inr (.inl ⟨rfl,k1,k2⟩)⟩
 ·rw[if_neg (by omega)];exact⟨_,_,_,rfl,.inr (.inr ⟨rfl,k1⟩)⟩
theorem Rn.PL (h:Rn g s c ds N none) (hg:g.In) (hform:g.cM=true) (hc:g.cap<65000) (hN:N<281474976710656) {k n:Nat} (hk:100≤k) (hs:s.f.seq+k≤N):C7 g c ds N (iZ g k (n+3) s):=by
 cases ho:s.f.po.j5 with
 |none=>
  rw[iZ,ho];simp only;exact h.Bh hg hform hc hN hk hs (pR.1 ho)
 |some b=>
  by_cases hp:(s.next b:Int)<g.aB
  ·exact h.C8 ho hp k (n+2)
  ·rw[iZ,ho];simp only;rw[if_neg hp];obtain⟨h1,h2⟩:=h.close hg ho hp;exact h1.Bh hg hform hc hN hk hs h2
theorem Rn.XS (hg:g.In) (hform:g.cM=true) (hc:g.cap<65000) (hN:N<281474976710656) {k:Nat} (hk:100≤k) {x:Sh} (hx:yY g x) (hx0:x.fr=0):∀(n:Nat) (s:FS),Rn g s c ds N none→s.f.seq+n*(k*k+1)≤N→g.us.length-s.f.po.count 3<n→∃s1 e,tW g k n s x=some (s1,e)∧((e=0∧Rn g s1 (nU c x.ar x.data) ds N none)∨(e=10∧Rn g s1 c ds N none∧g.aG<s1.f.po.count 3)∨(e=9∧jQ g s1.a c (nU c x.ar x.data) ds N))
 |0,s,h,hs,hm=>by omega
 |n+1,s,h,hs,hm=>by
  have hkk:k≤k*k:=Nat.le_mul_of_pos_left k (by omega);rw[Nat.succ_mul] at hs;obtain⟨s1,e,b,hro,hr⟩:=h.PL hg hform hc hN (n:=k-3) hk (by omega);rw[show k-3+3=k from by omega] at hro;have kp:=((aX.Q1 hg hc k s h.ok).1 hro).2.2;have kseq:=kp.seq;have kc3:=kp.c3;simp only at kseq kc3;unfold tW;rw[hro];simp only;rcases hr with⟨rfl,k1,k2,k3,k4⟩|⟨rfl,k1,k2⟩|⟨rfl,k1⟩
  ·rw[if_pos rfl];have kq:=(k1.ok.I9 b x).seq;have c3:=k1.C5;have hput:=k1.put hg hc k2 k3 k4 hx hx0 (by omega) (by omega);generalize bT s1 b x=r at hput kq⊢;rcases hput with⟨e,e1⟩|⟨e,e1,e2,e3⟩|⟨e,_,e1⟩
   ·rw[if_neg (by omega)];exact⟨r.1,r.2,rfl,.inl ⟨e,e1⟩⟩
   ·rw[if_pos e];have c3':=e1.C5;exact Rn.XS hg hform hc hN hk hx hx0 n r.1 e1 (by omega) (by omega)
   ·rw[if_neg (by omega)];exact⟨r.1,r.2,rfl,.inr (.inr ⟨e,e1⟩)⟩
  ·rw[if_neg (by omega)];exact⟨s1,10,rfl,.inr (.inl ⟨rfl,k1,k2⟩)⟩
  ·rw[if_neg (by omega)];exact⟨s1,9,rfl,.inr (.inr ⟨rfl,{k1 with cw:=fun cut=>.inl ((k1.cw cut).elim id id)}⟩)⟩
end
theorem ze {q:Nat→Bool}:∀{l:List Nat},l.Nodup→(∀i∈l,∀j∈l,q i=true→q j=true→i=j)→l.countP q≤1
 |[],_,_=>Nat.zero_le _
 |x::l,hn,h=>by
  rw[List.nodup_cons] at hn;rw[List.countP_cons];by_cases hx:q x=true
  ·have:l.countP q=0:=List.countP_eq_zero.2 (fun j hj hq=>hn.1 (by rw[h x List.mem_cons_self j (List.mem_cons_of_mem _ hj) hx hq];exact hj));rw[if_pos hx];omega
  ·rw[if_neg hx];exact ze hn.2 (fun i hi j hj=>h i (List.mem_cons_of_mem _ hi) j (List.mem_cons_of_mem _ hj))
section
variable {g:bZ} {s:FS} {c:Nat→List UInt8} {ds:List Nat} {N:Nat} {a a':Ar}
open Classical in
theorem Cr.DD (h:Cr g a c ds N) {b:Nat} (hb:b∈g.us) (hbf:(a.bk b).aN=false) (hp:sg g a' ds) (hf:∀i,(a'.bk i).aN=(a.bk i).aN) (hv:vw g a'=ki (vw g a) b) (hg:Gd (ki (vw g a) b) c):Cr g a' c ds N where
 ph:=hp
 gd:=by rw[hv];exact hg
 e:=by
  have e1:lk g a'=lk g a:=List.countP_congr fun i _=>by rw[hf i]
  rw[e1];intro hle;have hle:=h.e hle
  have:jP g a'≤jP g a:=by
   by_cases hn:lB (vw g a) b
   ·have h1:jP g a'≤g.us.countP (fun i=>decide (((a.bk i).aN=false∧lB (vw g a) i)∧i≠b))+g.us.countP (fun i=>decide ((a.bk i).aN=false∧ff (vw g a) i)):=by
     refine ln (fun i hi hx=> ?_);have hx:=of_decide_eq_true hx;rw[hf i,hv] at hx;obtain⟨hx1,ux⟩:=hx;have hne:=sj ux;simp only[decide_eq_true_eq];by_cases hsp:ff (vw g a) i
     ·exact .inr ⟨hx1,hsp⟩
     ·exact .inl ⟨⟨hx1,AY hsp hne.2⟩,hne.1⟩
    have h2:g.us.countP (fun i=>decide (((a.bk i).aN=false∧lB (vw g a) i)∧i≠b))+1≤jP g a:=
     qw (v:=b) (fun i _ hx=>by simp only[decide_eq_true_eq] at hx⊢;exact hx.1) hb (by simp [hbf,hn]) (by simp)
    have h3:g.us.countP (fun i=>decide ((a.bk i).aN=false∧ff (vw g a) i))≤1:=
     ze (m7 g) (fun i hi j hj h1 h2=>by
      simp only[decide_eq_true_eq] at h1 h2
      exact h.sp i hi j hj h1.1 h2.1 h1.2 h2.2)
    omega
   ·refine ll (fun i hi hx=> ?_);have hx:=of_decide_eq_true hx;rw[hf i,hv] at hx;obtain⟨hx1,f,OK,ux⟩:=hx;have OK:=cG.1 OK;refine decide_eq_true ⟨hx1,f,OK.1,fun hm=>ux ?_⟩;have hne:f.s.fr-1≠b:=fun e=>hn (by rw[←e];exact h.gd.a7 i f OK.1 hm)
    obtain⟨h0,o,ho,YA⟩:=hm;exact⟨h0,o,cG.2 ⟨ho,hne⟩,YA⟩
  omega
 seq:=fun i f hf=>by rw[hv] at hf;exact h.seq i f (cG.1 hf).1
 sp:=fun i hi j hj h1 h2 h3 h4=>by
  rw[hv] at h3 h4;rw[hf] at h1 h2;exact h.sp i hi j hj h1 h2 (qx h3).2 (qx h4).2
open Classical in
theorem Cr.wx (h:Cr g a c ds N) (hp:sg g a' ds) (hf:∀i,(a.bk i).aN=true→(a'.bk i).aN=true) (hv:vw g a'=vw g a):Cr g a' c ds N where
 ph:=hp
 gd:=by rw[hv];exact h.gd
 e:=by
  have e1:lk g a≤lk g a':=ll (fun i _=>hf i)
  have e2:jP g a'≤jP g a:=ll (fun i _ hx=>by
   have hx:=of_decide_eq_true hx;rw[hv] at hx;refine decide_eq_true ⟨?_,hx.2⟩;rw[←Bool.not_eq_true]
   intro e;rw[hf i e] at hx;cases hx.1)
  intro hle;have:=h.e (by omega);omega
 seq:=by rw[hv];exact h.seq
 sp:=fun i hi j hj h1 h2 h3 h4=>by
  rw[hv] at h3 h4;refine h.sp i hi j hj ?_ ?_ h3 h4
  ·rw[←Bool.not_eq_true];intro e;rw[hf i e] at h1;cases h1
  ·rw[←Bool.not_eq_true];intro e;rw[hf j e] at h2;cases h2
structure Mn (g:bZ) (s:FS) (c:Nat→List UInt8) (ds:List Nat) (N:Nat) (l:List Nat) (o:Nat×Int):Prop where
 ok:aX g s
 on:s.a.off=false
 dC:s.a.dC=.no
 aK:s.a.aK≤s.f.ep
 ep:1≤s.f.ep∧s.f.ep<281474976710656
 cr:Cr g s.a c ds N
 cw:∀x,(s.f.pm.at x=none∧∀b,∀f∈vw g s.a b,f.s.ar≠x)∨∃b p,s.f.pm.at x=some (b,p)∧∃f∈vw g s.a b,f.p=p∧wF (vw g s.a) c x f
 seq:∀b,∀f∈vw g s.a b,f.s.seq≤s.f.seq
 sn:s.f.seq≤N
 aW:∀b∈g.us,b∉l→(s.f.po.how b=some 3↔(s.a.bk b).aN=true)
 rem:∀b∈g.us,b∈l→s.f.po.how b=some 0
 hf:∀b∈g.us,b∉l→(s.a.bk b).aN=false→(s.a.bk b).bX=false
 cZ:∀b∈g.us,b∉l→s.f.po.how b=some 0→s.next b=0
 gi:∀b∈g.us,s.f.po.how b=some 1→(s.a.bk b).aN=false∧s.f.pm.dO b≠0
 Tz:∀b∈g.us,s.f.pm.dO b≠0→lB (vw g s.a) b
 PM:∀b∈g.us,s.f.po.how b≠some 2
 op:0≤o.2→o.2.toNat∈g.us∧s.f.po.how o.2.toNat=some 1∧(s.next o.2.toNat:Int)<g.aB
theorem Mn.C4 {l:List Nat} {o:Nat×Int} (h:Mn g s c ds N l o) {v:Nat} (hc:s.f.pm.dO v=0):Gd (ki (vw g s.a) v) c:=
 h.cr.gd.DD fun x=>by
   rcases h.cw x with⟨h1,h2⟩|⟨b,p,h1,f,h2,h3,h4⟩
   ·exact .inl h2
   ·exact .inr ⟨b,fun e=>by rw[e] at h1;exact pT hc x p h1,f,h2,h4⟩
theorem Mn.Hk {l:List Nat} {o:Nat×Int} (h:Mn g s c ds N l o):s.f.po.count 2=0:=by
 rw[h.ok.dO 2];exact List.countP_eq_zero.2 (fun b hb e=>h.PM b hb (of_decide_eq_true e))
theorem Mn.set {b w:Nat} {l:List Nat} {o o':Nat×Int} (h:Mn g s c ds N (b::l) o) (hg:g.In) (hb:b∈g.us) (hl:b∉l) (hw:w=1∨w=3) (h1:w=3↔(s.a.bk b).aN=true) (h2:w=1→s.f.pm.dO b≠0) (ho:0≤o'.2→(o'.2.toNat=b∧w=1∧(s.next b:Int)<g.aB)∨o'=o):Mn g (s.bu b w) c ds N l o':=by
 have hb0:=h.rem b hb List.mem_cons_self;have gj:s.f.po.set b w=s.f.po.cg b w:=fJ (by rw[hb0];simp) (.inl (by omega));have ct:=h.ok.bu hg hb (h:=w) (by omega);unfold FS.bu at ct⊢;simp only[gj] at ct⊢;have cH:=fun i=>fk (p:=s.f.po) (b:=b) (h:=w) i (h.ok.how hb)
 have hne:∀i,i≠b→i∉l→i∉b::l:=fun i h1 h2 h3=>(List.mem_cons.1 h3).elim h1 h2
 exact {h with
  ok:=ct
  aW:=fun i hi lT=>by
   show (s.f.po.cg b w).how i=some 3↔_
   rw[cH];by_cases bh:i=b
   ·rw[bh,if_pos rfl, ←h1];simp
   ·rw[if_neg bh];exact h.aW i hi (hne i bh lT)
  rem:=fun i hi lT=>by
   show (s.f.po.cg b w).how i=some 0
   rw[cH,if_neg (fun e=>hl (by rw[←e];exact lT))];exact h.rem i hi (List.mem_cons_of_mem _ lT)
  hf:=fun i hi lT e=>by
   by_cases bh:i=b
   ·subst bh;have hw1:w=1:=hw.resolve_right (fun e2=>by rw[h1.1 e2] at e;cases e);obtain⟨x,p,hx⟩:=wW (h2 hw1);rcases h.cw x with⟨h1,_⟩|⟨b',p',h1,f,hf,_⟩
    ·rw[h1] at hx;cases hx
    ·rw[h1] at hx;cases hx;exact(nW hf).2.2.1
   ·exact h.hf i hi (hne i bh lT) e
  cZ:=fun i hi lT e=>by
   have e:(s.f.po.cg b w).how i=some 0:=e;rw[cH] at e;by_cases bh:i=b
   ·rw[if_pos bh] at e;have:=Option.some.inj e;omega
   ·rw[if_neg bh] at e;exact h.cZ i hi (hne i bh lT) e
  gi:=fun i hi e=>by
   have e:(s.f.po.cg b w).how i=some 1:=e;rw[cH] at e;by_cases bh:i=b
   ·rw[if_pos bh] at e;have hw1:=Option.some.inj e;rw[bh];refine⟨?_,h2 hw1⟩;rw[←Bool.not_eq_true];intro e2;have:=h1.2 e2;omega
   ·rw[if_neg bh] at e;exact h.gi i hi e
  PM:=fun i hi e=>by
   have e:(s.f.po.cg b w).how i=some 2:=e;rw[cH] at e;by_cases bh:i=b
   ·rw[if_pos bh] at e;have:=Option.some.inj e;omega
   ·rw[if_neg bh] at e;exact h.PM i hi e
  op:=fun e=>by
   show _∧(s.f.po.cg b w).how _=some 1∧_
   rw[cH];rcases ho e with⟨e1,e2,e3⟩|e1
   ·rw[e1,if_pos rfl,e2];exact⟨hb,rfl,e3⟩
   ·rw[e1] at e⊢;obtain⟨h3,h4,h5⟩:=h.op e;rw[if_neg (fun e2=>by rw[e2,hb0] at h4;cases h4)]
    exact⟨h3,h4,h5⟩}
theorem Mn.skip {b:Nat} {l:List Nat} {o:Nat×Int} (h:Mn g s c ds N (b::l) o) (hb:b∈g.us) (hl:b∉l) (hf:(s.a.bk b).aN=false) (hn:s.next b=0):Mn g s c ds N l o:=by
 have hb0:=h.rem b hb List.mem_cons_self;have hne:∀i,i≠b→i∉l→i∉b::l:=fun i h1 h2 h3=>(List.mem_cons.1 h3).elim h1 h2
 exact {h with
  aW:=fun i hi lT=>by
   by_cases bh:i=b
   ·rw[bh,hb0,hf];simp
   ·exact h.aW i hi (hne i bh lT)
  rem:=fun i hi lT=>h.rem i hi (List.mem_cons_of_mem _ lT)
  hf:=fun i hi lT e=>by
   by_cases bh:i=b
   ·rw[bh, ←Bool.not_eq_true];intro e2;exact h.cr.ph.bX b hb e2 (List.eq_nil_of_length_eq_zero hn)
   ·exact h.hf i hi (hne i bh lT) e
  cZ:=fun i hi lT e=>by
   by_cases bh:i=b
   ·rw[bh];exact hn
   ·exact h.cZ i hi (hne i bh lT) e}
theorem Mn.yM {b:Nat} {l:List Nat} {o:Nat×Int} (h:Mn g s c ds N (b::l) o) (hg:g.In) (hb:b∈g.us) (hl:b∉l) (hfl:(s.a.bk b).aN=false) (hc:s.f.pm.dO b=0):((bB (s.bu b 1) b).2=0∧Mn g (bB (s.bu b 1) b).1 c ds N l o)∨((bB (s.bu b 1) b).2=9∧s.a.bA>0∧jQ g (bB (s.bu b 1) b).1.a c c ds N):=by
 have hb0:=h.rem b hb List.mem_cons_self;have hlt:=h.cr.ph.lt hb;have fS:=h.ok.bu hg hb (h:=1) (by omega);have ct:=fS.bB hg hb;have hgd:=h.C4 hc;have gj:s.f.po.set b 1=s.f.po.cg b 1:=fJ (by rw[hb0];simp) (.inl (by omega));have uz:=fun i=>fk (p:=s.f.po) (b:=b) (h:=1) i (h.ok.how hb)
 have xe:(s.f.po.cg b 1).how b=some 1:=by rw[uz,if_pos rfl]
 have hne:∀i,i≠b→i∉l→i∉b::l:=fun i h1 h2 h3=>(List.mem_cons.1 h3).elim h1 h2
 have Qz:0≤o.2→o.2.toNat≠b:=fun e e2=>by
  have:=(h.op e).2.1;rw[e2,hb0] at this;cases this
 obtain⟨a',ho⟩:=sk (s:=s.bu b 1) (v:=b) hlt h.on h.dC h.aK;rcases ho with⟨ho,o1,o2,he⟩|⟨ho,o1,o2,o3,he⟩|⟨ho,o1,o2,o3,he⟩
 ·left;rw[ho] at ct⊢;unfold FS.bu at ct⊢;have zB:(s.f.po.set b 1).set b 0=(s.f.po.cg b 1).cg b 0:=by rw[gj];exact fJ (by rw[xe];simp) (.inl (by omega))
  simp only[zB] at ct⊢;obtain⟨po,sC⟩:∃po,po=(s.f.po.cg b 1).cg b 0:=⟨_,rfl⟩
  have cH:∀i,po.how i=if i=b then some 0 else s.f.po.how i:=fun i=>by
   rw[sC,fk i (by rw[xe];rfl),uz];split<;>rfl
  rw[←sC] at ct⊢;have he:F4 s.a a' b (ve (aD (s.a.bk b))):=he;have qK:=m9 hlt hb he.touB (.inl rfl);have hbk:=fun i=>he.touB.bk hlt i
  have Qv:∀i,(a'.bk i).aN=(s.a.bk i).aN:=iN hlt he.touB (dE _);have ml:=fun i=>gW (f:={s.f with po:=po}) hlt he.touB i
  refine⟨trivial, ?_⟩
  exact {
   ok:=ct,on:=o1,dC:=o2,aK:=by rw[he.aK];exact h.aK,ep:=h.ep
   cr:=h.cr.DD hb hfl (ue h.cr.ph hb he.touB) Qv qK hgd
   cw:=fun x=>by
    rw[qK];rcases h.cw x with⟨h1,h2⟩|⟨b',p,h1,f,h2,h3,h4⟩
    ·exact .inl ⟨h1,fun b f hf=>h2 b f (cG.1 hf).1⟩
    ·exact .inr ⟨b',p,h1,f,cG.2 ⟨h2,fun e=>by rw[e] at h1;exact pT hc x p h1⟩,h3,h4.DD⟩
   seq:=fun i f hf=>by rw[qK] at hf;exact h.seq i f (cG.1 hf).1
   sn:=h.sn
   aW:=fun i hi lT=>by
    show po.how i=some 3↔(a'.bk i).aN=true
    rw[cH,Qv];by_cases bh:i=b
    ·rw[bh,if_pos rfl,hfl];simp
    ·rw[if_neg bh];exact h.aW i hi (hne i bh lT)
   rem:=fun i hi lT=>by
    show po.how i=some 0
    rw[cH,if_neg (fun e=>hl (by rw[←e];exact lT))];exact h.rem i hi (List.mem_cons_of_mem _ lT)
   hf:=fun i hi lT e=>by
    show (a'.bk i).bX=false
    have e:(a'.bk i).aN=false:=e;rw[Qv] at e;rw[hbk];by_cases bh:i=b
    ·rw[if_pos bh];rfl
    ·rw[if_neg bh];exact h.hf i hi (hne i bh lT) e
   cZ:=fun i hi lT e=>by
    have e:po.how i=some 0:=e;rw[cH] at e;rw[ml];by_cases bh:i=b
    ·rw[if_pos bh];rfl
    ·rw[if_neg bh] at e⊢;exact h.cZ i hi (hne i bh lT) e
   gi:=fun i hi e=>by
    have e:po.how i=some 1:=e;rw[cH] at e;by_cases bh:i=b
    ·rw[if_pos bh] at e;cases e
    ·rw[if_neg bh] at e;show (a'.bk i).aN=false∧_
     rw[Qv];exact h.gi i hi e
   Tz:=fun i hi e=>by
    show lB (vw g a') i
    rw[qK];exact(h.Tz i hi e).DD (fun e2=>e (by rw[e2];exact hc))
   PM:=fun i hi e=>by
    have e:po.how i=some 2:=e;rw[cH] at e;by_cases bh:i=b
    ·rw[if_pos bh] at e;cases e
    ·rw[if_neg bh] at e;exact h.PM i hi e
   op:=fun e=>by
    obtain⟨h3,h4,h5⟩:=h.op e;refine⟨h3, ?_, ?_⟩
    ·show po.how _=_
     rw[cH,if_neg (Qz e)];exact h4
    ·rw[ml,if_neg (Qz e)];exact h5}
 ·left;rw[ho] at ct⊢;unfold FS.bu at ct⊢;have zB:(s.f.po.set b 1).set b 3=(s.f.po.cg b 1).cg b 3:=by rw[gj];exact fJ (by rw[xe];simp) (.inl (by omega))
  simp only[zB] at ct⊢;obtain⟨po,sC⟩:∃po,po=(s.f.po.cg b 1).cg b 3:=⟨_,rfl⟩
  have cH:∀i,po.how i=if i=b then some 3 else s.f.po.how i:=fun i=>by
   rw[sC,fk i (by rw[xe];rfl),uz];split<;>rfl
  rw[←sC] at ct⊢;have he:F4 s.a a' b {aD (s.a.bk b) with aN:=true}:=he;have o3:(aD (s.a.bk b)).aW=true:=o3;have qK:vw g a'=vw g s.a:=he.touB.wx hlt hb (by show Bk.ew _ _ _=_;unfold Bk.ew;simp only[bC,bq]);have hbk:=fun i=>he.touB.bk hlt i
  have ml:=fun i=>gW (f:={s.f with po:=po}) hlt he.touB i
  have Qv:∀i,i≠b→(a'.bk i).aN=(s.a.bk i).aN:=fun i bh=>by rw[hbk,if_neg bh]
  refine⟨trivial, ?_⟩
  exact {
   ok:=ct,on:=o1,dC:=o2,aK:=by rw[he.aK];exact h.aK,ep:=h.ep
   cr:=h.cr.wx (zb h.cr.ph hb o3 he.touB) (fun i e=>by
    rw[hbk];split
    ·rfl
    ·exact e) qK
   cw:=fun x=>by rw[qK];exact h.cw x
   seq:=fun i f hf=>by rw[qK] at hf;exact h.seq i f hf
   sn:=h.sn
   aW:=fun i hi lT=>by
    show po.how i=some 3↔(a'.bk i).aN=true
    rw[cH,hbk];by_cases bh:i=b
    ·simp [bh]
    ·rw[if_neg bh,if_neg bh];exact h.aW i hi (hne i bh lT)
   rem:=fun i hi lT=>by
    show po.how i=some 0
    rw[cH,if_neg (fun e=>hl (by rw[←e];exact lT))];exact h.rem i hi (List.mem_cons_of_mem _ lT)
   hf:=fun i hi lT e=>by
    show (a'.bk i).bX=false
    have e:(a'.bk i).aN=false:=e;rw[hbk] at e⊢;by_cases bh:i=b
    ·rw[if_pos bh] at e;cases e
    ·rw[if_neg bh] at e⊢;exact h.hf i hi (hne i bh lT) e
   cZ:=fun i hi lT e=>by
    have e:po.how i=some 0:=e;rw[cH] at e;rw[ml];by_cases bh:i=b
    ·rw[if_pos bh] at e;cases e
    ·rw[if_neg bh] at e⊢;exact h.cZ i hi (hne i bh lT) e
   gi:=fun i hi e=>by
    have e:po.how i=some 1:=e;rw[cH] at e;by_cases bh:i=b
    ·rw[if_pos bh] at e;cases e
    ·rw[if_neg bh] at e;show (a'.bk i).aN=false∧_
     rw[Qv i bh];exact h.gi i hi e
   Tz:=fun i hi e=>by show lB (vw g a') i;rw[qK];exact h.Tz i hi e
   PM:=fun i hi e=>by
    have e:po.how i=some 2:=e;rw[cH] at e;by_cases bh:i=b
    ·rw[if_pos bh] at e;cases e
    ·rw[if_neg bh] at e;exact h.PM i hi e
   op:=fun e=>by
    obtain⟨h3,h4,h5⟩:=h.op e;refine⟨h3, ?_, ?_⟩
    ·show po.how _=_
     rw[cH,if_neg (Qz e)];exact h4
    ·rw[ml,if_neg (Qz e)];exact h5}
 ·right;rw[ho];have he:F4 s.a a' b (aD (s.a.bk b)):=he;refine⟨rfl,o2,⟨o1,za hlt o3 he.touB,fun cut=>.inl ?_⟩⟩;obtain⟨p1,p2,p3⟩:=h.cr.ph.Fe hb o3 he.touB cut;rcases p3 with p3|p3
  ·exact h.cr.wx p1 (fun i e=>by rw[p2];exact e) p3
  ·exact h.cr.DD hb hfl p1 p2 p3 hgd
end
section
variable {g:bZ} {s:FS} {c:Nat→List UInt8} {ds:List Nat} {N:Nat} {a:Ar}
theorem C9 {sq:Int→Nat} {b nx:Nat}:∀(l:List Int) (o:Nat×Int),Ko g sq b nx l o=o∨((Ko g sq b nx l o).2=(b:Int)∧(nx:Int)<g.aB)
 |[],o=>.inl rfl
 |x::l,o=>by
  rw[Ko];split
  ·rename_i h;rcases C9 (sq:=sq) (b:=b) (nx:=nx) l (sq x,(b:Int)) with e|e
   ·right;rw[e];exact⟨rfl,h.1⟩
   ·exact .inr e
  ·exact C9 l o
theorem Mn.loop (hg:g.In) {sq:Int→Nat}:∀(l:List Nat) (s:FS) (o:Nat×Int),(∀b∈l,b∈g.us)→l.Nodup→Mn g s c ds N l o→((fM g sq l s o).2.1=0∧Mn g (fM g sq l s o).1 c ds N [] (fM g sq l s o).2.2)∨((fM g sq l s o).2.1=9∧jQ g (fM g sq l s o).1.a c c ds N)
 |[],s,o,_,_,h=>.inl ⟨rfl,h⟩
 |b::l,s,o,hl,hn,h=>by
  rw[List.nodup_cons] at hn;have hb:=hl b List.mem_cons_self;have F9:∀b∈l,b∈g.us:=fun b hb=>hl b (List.mem_cons_of_mem _ hb)
  have e0:s.a.bs.getD b fp=s.a.bk b:=rfl;rw[fM,e0];by_cases hf:(s.a.bk b).aN=true
  ·rw[if_pos hf];exact Mn.loop hg l _ o F9 hn.2 (h.set hg hb hn.1 (.inr rfl) (by simp [hf]) (fun e=>by omega) (fun _=>.inr rfl))
  rw[if_neg hf];have hf':(s.a.bk b).aN=false:=by simpa using hf
  by_cases h0:s.next b=0
  ·rw[if_pos h0];exact Mn.loop hg l _ o F9 hn.2 (h.skip hb hn.1 hf' h0)
  rw[if_neg h0];by_cases hc:s.f.pm.dO b=0
  ·rw[if_pos hc];rcases h.yM hg hb hn.1 hf' hc with⟨e1,e2⟩|⟨e1,_,e2⟩
   ·rw[if_pos e1];exact Mn.loop hg l _ o F9 hn.2 e2
   ·rw[if_neg (by omega)];exact .inr ⟨e1,e2⟩
  ·rw[if_neg hc];refine Mn.loop hg l _ _ F9 hn.2 (h.set hg hb hn.1 (.inl rfl) (by simp [hf']) (fun _=>hc) (fun e=> ?_));rcases C9 (sq:=sq) (b:=b) (nx:=s.next b) (s.f.pm.on b) o with e1|⟨e1,e2⟩
   ·exact .inr e1
   ·exact .inl ⟨by rw[e1];simp,rfl,e2⟩
open Classical in
theorem Mn.rn {o:Nat×Int} (h:Mn g s c ds N [] o):Rn g s c ds N none where
 ok:=h.ok
 on:=h.on
 dC:=h.dC
 aK:=h.aK
 ep:=h.ep
 ph:=h.cr.ph
 gd:=h.cr.gd
 cw:=h.cw
 seq:=h.seq
 sn:=h.sn
 aW:=fun b hb=>h.aW b hb (by simp)
 hf:=fun b hb=>h.hf b hb (by simp)
 cZ:=fun b hb e _=>h.cZ b hb (by simp) e
 gi:=fun b hb e=>.inr (h.Tz b hb (h.gi b hb e).2)
 j5:=fun b hb e=>absurd e (h.PM b hb)
 DF:=fun d v e=>by cases e
 Hb:=fun e=>absurd rfl e
 one:=by rw[h.Hk];omega
 si:=by
  intro hle;have h4:=h.ok.Nu;have h2:=h.Hk
  have e3:lk g s.a=s.f.po.count 3:=by
   rw[h.ok.dO 3]
   exact List.countP_congr fun b hb=>by
    have:=h.aW b hb (by simp);simp [this]
  have e1:s.f.po.count 1≤jP g s.a:=by
   rw[h.ok.dO 1];refine ll (fun b hb e=> ?_);have e:=of_decide_eq_true e;exact decide_eq_true ⟨(h.gi b hb e).1,h.Tz b hb (h.gi b hb e).2⟩
  have:=h.cr.e (by omega);omega
theorem Rn.XT (h:Rn g s c ds N none) (hg:g.In) {b:Nat} (hb:b∈g.us) (xe:s.f.po.how b=some 1) (hp:(s.next b:Int)<g.aB) (h2:s.f.po.count 2=0):Rn g (s.bu b 2) c ds N none:=by
 have ct:=h.ok.bu hg hb (h:=2) (by omega);unfold FS.bu at ct⊢;have gj:s.f.po.set b 2=s.f.po.cg b 2:=fJ (by rw[xe];simp) (.inr h2);simp only[gj] at ct⊢;have cH:=fun i=>fk (p:=s.f.po) (b:=b) (h:=2) i (h.ok.how hb)
 have jt:=fun k=>eG (p:=s.f.po) (b:=b) (h:=2) k xe
 have c2:=jt 2;have c3:=jt 3;have c0:=jt 0;simp only[if_true,show ((1:Nat)=3)=False from by simp,show ((2:Nat)=3)=False from by simp,show ((1:Nat)=2)=False from by simp,show ((2:Nat)=0)=False from by simp,show ((1:Nat)=0)=False from by simp,if_false] at c2 c3 c0
 exact {h with
  ok:=ct
  aW:=fun i hi=>by
   show (s.f.po.cg b 2).how i=some 3↔_
   rw[cH];by_cases bh:i=b
   ·rw[bh,if_pos rfl];have:=h.aW b hb;rw[xe] at this;simpa using this
   ·rw[if_neg bh];exact h.aW i hi
  cZ:=fun i hi e ht=>by
   have e:(s.f.po.cg b 2).how i=some 0:=e;rw[cH] at e;by_cases bh:i=b
   ·rw[if_pos bh] at e;cases e
   ·rw[if_neg bh] at e;exact h.cZ i hi e ht
  gi:=fun i hi e=>by
   have e:(s.f.po.cg b 2).how i=some 1:=e;rw[cH] at e;by_cases bh:i=b
   ·rw[if_pos bh] at e;cases e
   ·rw[if_neg bh] at e;exact h.gi i hi e
  j5:=fun i hi e=>by
   have e:(s.f.po.cg b 2).how i=some 2:=e;rw[cH] at e;by_cases bh:i=b
   ·right;right;show ((s.next i:Nat):Int)<_;rw[bh];exact hp
   ·rw[if_neg bh] at e;exact h.j5 i hi e
  DF:=fun d v e=>by cases e
  Hb:=fun e=>absurd rfl e
  one:=by show (s.f.po.cg b 2).count 2≤1;omega
  si:=by
   show ((s.f.po.cg b 2).count 3:Int)≤g.aG→_≤(((s.f.po.cg b 2).count 0:Nat):Int)+((s.f.po.cg b 2).count 3:Nat)
   intro hle;have:=h.si (by omega)
   omega}
theorem Jc:∀(l:List Fd) (m:Nat),m≤mV m l∧∀f∈l,f.s.seq≤mV m l
 |[],m=>⟨Nat.le_refl _,fun f hf=>by cases hf⟩
 |f::l,m=>by
  obtain⟨h1,h2⟩:=Jc l (max m f.s.seq);refine⟨Nat.le_trans (Nat.le_max_left _ _) h1,fun x hx=> ?_⟩;rcases List.mem_cons.1 hx with rfl|hx
  ·exact Nat.le_trans (Nat.le_max_right _ _) h1
  ·exact h2 x hx
theorem Cr.rd (h:Cr g a c ds N) (ho:a.off=false):a.rd g:=⟨ho,h.ph.n,h.ph.p,by rw[h.ph.p];exact h.ph.len,h.ph.d⟩
theorem Cr.TA (h:Cr g a c ds N) (x:Nat):(jn x (a.z5 g)=none∧∀b,∀f∈vw g a b,f.s.ar≠x)∨∃f,jn x (a.z5 g)=some f∧f∈vw g a f.b∧¬ff (vw g a) f.b∧wF (vw g a) c x f:=by
 rw[Tv];exact Px h.gd (m7 g) C1 x
theorem Cr.wU (h:Cr g a c ds N) (hg:g.In) (hc:0≤g.cap∧g.cap<65000) (ho:a.off=false) (hw:a.dC=.no) {ep:Nat} (he:1≤ep∧ep<281474976710656) (hf:a.aK≤ep):Mn g (FS.wU g a ep) c ds N g.us (0, -1):=by
 have hok:aX g (FS.wU g a ep):=Np hg hc (h.rd ho) (fun x f hx=>by
  rcases h.TA x with⟨h1,_⟩|⟨f',h1,h2,_⟩
  ·rw[h1] at hx;cases hx
  ·rw[h1] at hx;cases hx;obtain⟨p1,_,_,p2,_,_,_,p3⟩:=nW h2;have hlt:=h.ph.lt p1;have:=h.ph.len _ (jq hlt);have:=hg.p
   exact⟨p3,m0 p1,by omega⟩) he.2
 have zH:∀x,(FS.wU g a ep).f.pm.at x=(jn x (a.z5 g)).map fun f=>(f.b,f.p):=fun x=>by
  show ((List.range (g.cap+1).toNat).map fun a'=>(jn a' (a.z5 g)).map fun f=>(f.b,f.p)).getD x none=_
  rw[List.getD_eq_getElem?_getD,List.getElem?_map];by_cases hx:x<(g.cap+1).toNat
  ·rw[List.getElem?_range hx];rfl
  ·rw[List.getElem?_eq_none (by simpa using hx)];rcases h.TA x with⟨h1,_⟩|⟨f,h1,h2,_,h3⟩
   ·rw[h1];rfl
   ·have:=(nW h2).2.2.2.2.2.2.2;have:=h3.1;omega
 have YV:∀x,((FS.wU g a ep).f.pm.at x=none∧∀b,∀f∈vw g a b,f.s.ar≠x)∨∃b p,(FS.wU g a ep).f.pm.at x=some (b,p)∧∃f∈vw g a b,f.p=p∧¬ff (vw g a) b∧wF (vw g a) c x f:=fun x=>by
  rw[zH x];rcases h.TA x with⟨h1,h2⟩|⟨f,h1,h2,h3,h4⟩
  ·rw[h1];exact .inl ⟨rfl,h2⟩
  ·rw[h1];exact .inr ⟨f.b,f.p,rfl,f,h2,rfl,h3,h4⟩
 have hnew:∀b,(FS.wU g a ep).f.po.how b=if b∈g.us then some 0 else none:=fun b=>by
  show fq b (g.us.map fun b=>(b,0))=_
  induction g.us with
  |nil=>rfl
  |cons y l ih=>
   rw[List.map_cons,fq,ih];by_cases hy:y=b
   ·simp [hy]
   ·have:¬b=y:=fun e=>hy e.symm
    simp [hy,this]
 exact {
  ok:=hok,on:=ho,dC:=hw,aK:=hf,ep:=he,cr:=h
  cw:=fun x=>by
   rcases YV x with h1|⟨b,p,h1,f,h2,h3,_,h4⟩
   ·exact .inl h1
   ·exact .inr ⟨b,p,h1,f,h2,h3,h4⟩
  seq:=fun b f hf=>by
   have hb:=(nW hf).1;have:f∈g.us.flatMap (a.fd g):=List.mem_flatMap.2 ⟨b,hb,by unfold vw at hf;rw[if_pos hb] at hf;exact hf⟩;exact(Jc (g.us.flatMap (a.fd g)) 0).2 f this
  sn:=C0 _ _ (Nat.zero_le _) (fun f hf=>by
   obtain⟨b,hb,hf⟩:=List.mem_flatMap.1 hf
   exact h.seq b f (by unfold vw;rw[if_pos hb];exact hf))
  aW:=fun b hb hn=>absurd hb hn
  rem:=fun b hb _=>by rw[hnew,if_pos hb]
  hf:=fun b hb hn=>absurd hb hn
  cZ:=fun b hb hn=>absurd hb hn
  gi:=fun b hb e=>by rw[hnew,if_pos hb] at e;cases e
  Tz:=fun b hb e=>by
   obtain⟨x,p,hx⟩:=wW e;rcases YV x with⟨h1,_⟩|⟨b',p',h1,f,h2,_,h3,_⟩
   ·rw[h1] at hx;cases hx
   ·rw[h1] at hx;cases hx
    exact AY h3 (fun e=>by
     have e:vw g a b=[]:=e
     rw[e] at h2;cases h2)
  PM:=fun b hb e=>by rw[hnew,if_pos hb] at e;cases e
  op:=fun e=>by exact absurd e (by decide)}
theorem Cr.mount (h:Cr g a c ds N) (hg:g.In) (hc:0≤g.cap∧g.cap<65000) (ho:a.off=false) (hw:a.dC=.no) {ep:Nat} (he:1≤ep∧ep<281474976710656) (hf:a.aK≤ep) (sq:Int→Nat):((cx g sq a ep).2=0∧Rn g (cx g sq a ep).1 c ds N none)∨((cx g sq a ep).2=9∧jQ g (cx g sq a ep).1.a c c ds N):=by
 have hm:=Mn.loop hg (sq:=sq) g.us _ _ (fun b hb=>hb) (m7 g) (h.wU hg hc ho hw he hf);unfold cx;simp only;rcases hm with⟨e,hm⟩|⟨e,hm⟩
 ·rw[if_pos e];by_cases hop:0≤(fM g sq g.us (FS.wU g a ep) (0, -1)).2.2.2
  ·rw[if_pos hop];obtain⟨o1,o2,o3⟩:=hm.op hop;exact .inl ⟨rfl,hm.rn.XT hg o1 o2 o3 hm.Hk⟩
  ·rw[if_neg hop];exact .inl ⟨rfl,hm.rn⟩
 ·rw[if_neg (by omega)];exact .inr ⟨e,hm⟩
theorem Fg (hg:g.In) {sq:Int→Nat}:∀(l:List Nat) (s:FS) (o:Nat×Int),(∀b∈l,b∈g.us)→aX g s→Kp s (fM g sq l s o).1 0
 |[],s,o,hl,hok=>Kp.rfl s 0
 |b::l,s,o,hl,hok=>by
  have hb:=hl b List.mem_cons_self;have F9:∀b∈l,b∈g.us:=fun b hb=>hl b (List.mem_cons_of_mem _ hb)
  have fS:=hok.bu hg hb (h:=1) (by omega);have k1:=hok.Ky b 1;rw[fM];split
  ·exact((hok.Ky b 3).trans (Fg hg l _ o F9 (hok.bu hg hb (by omega)))).mono (by omega)
  split
  ·exact Fg hg l _ o F9 hok
  split
  ·have k2:=k1.trans (fS.Hi b);split
   ·exact(k2.trans (Fg hg l _ o F9 (fS.bB hg hb))).mono (by omega)
   ·exact k2.mono (by omega)
  ·exact(k1.trans (Fg hg l _ _ F9 fS)).mono (by omega)
theorem KA (hg:g.In) {sq:Int→Nat} {ep:Nat} (hok:aX g (FS.wU g a ep)):Kp (FS.wU g a ep) (cx g sq a ep).1 0:=by
 have k:=Fg hg (sq:=sq) g.us _ (0, -1) (fun b hb=>hb) hok;have ct:=yP hg (sq:=sq) g.us _ (0, -1) (fun b hb=>hb) hok (.inl (by decide));unfold cx;simp only;split
 ·split
  ·exact(k.trans (ct.1.Ky _ 2)).mono (by omega)
  ·exact k
 ·exact k
end
theorem wY:fD cP 89=some (138,3,40,fP 0 none 0 0 false):=by kernel_rfl
theorem Da:jc (ba cP 89)=true:=by kernel_rfl
theorem PN:ba cP 3=some (.int .i64):=by kernel_rfl
theorem Db:aZ (fP 0 none 0 0 false):=jE (f137 0 none 0 0 false)
theorem zf (a:Int) (q:Oq) (n c:Nat) (b:Bool):(fP a q n c b).length=3:=rfl
abbrev PF (css:List (List V)):Prop:=Pj qG css
theorem ND {c:List V} (h:aJ qG c=true):∃a q n cp b,c=fP a q n cp b:=by
 obtain⟨v1,r1,rfl,h1,h⟩:=me h;obtain⟨v2,r2,rfl,h2,h⟩:=me h;obtain⟨v3,r3,rfl,h3,h⟩:=me h;obtain rfl:=CC h;obtain⟨a,rfl⟩:=ED h1;obtain⟨q,n,cp,rfl⟩:=zZ h2;obtain⟨b,rfl⟩:=CB h3;exact⟨a,q,n,cp,b,rfl⟩
theorem NF {c:List V} (h:aJ qG c=true):uY c=c:=by
 obtain⟨a,q,n,cp,b,rfl⟩:=ND h;rfl
theorem PF.oD {css:List (List V)} (h:PF css):pA 3 css:=Pj.oD h
section
variable {B:af} {L:List cq} {H:af} {K:V→af→Prop} {id o len cap:Nat} {e:TypeId}
theorem TB {Kr:Am.St→Prop} {Ke:Nat→Am.St→Prop}:∀(k:Nat) (mid:List (List V)) (X Y:List V) (i:Nat) {H:af},mid.length≤k→PF mid→X.length=o+i*3→i+mid.length≤len→len≤1000000→az B H (cR id e (X++(mid.flatten++Y))::L)→(∀H',az B H' (cR id e (X++(mid.reverse.flatten++Y))::L)→Ke 0 (St.mk (ab []) (ab []) H'))→lo 158 1 (St.mk (ab [(0,T.v (V.slice (some (id,o)) len cap)),(2,T.v (V.int .i64 (i:Int))),(3,T.v (V.int .i64 ((i:Int)+mid.length-1)))]) (ab []) H) Kr Ke:=by
 intro k
 induction k with
 |zero=>
  intro mid X Y i H hk hf hX hl hb h K;have:mid=[]:=List.eq_nil_of_length_eq_zero (by omega);subst this;rw[Im];(try simp only[NQ]);have e1:¬(i:Int)<(i:Int)+(0:Nat)-1:=by omega
  simp only[List.length_nil,e1,decide_false,ai];exact K _ h
 |succ k ih=>
  intro mid X Y i H hk hf hX hl hb h K;rw[Im];(try simp only[NQ])
  match mid,hk,hf,hl,h,K with
  |[],hk,hf,hl,h,K=>
   have e1:¬(i:Int)<(i:Int)+(0:Nat)-1:=by omega
   simp only[List.length_nil,e1,decide_false,ai];exact K _ h
  |[a],hk,hf,hl,h,K=>
   have e1:¬(i:Int)<(i:Int)+(1:Nat)-1:=by omega
   simp only[List.length_cons,List.length_nil,e1,decide_false,ai];exact K _ h
  |a::r1::rs,hk,hf,hl,h,K=>
   obtain⟨m',b,hm⟩:∃m' b,r1::rs=m'++[b]:=⟨_,_,(List.dropLast_concat_getLast (by simp)).symm⟩;have hml:rs.length+1=m'.length+1:=by have:=congrArg List.length hm;simpa using this
   rw[hm] at hf h K;have hlen:(a::r1::rs).length=m'.length+2:=by simp;omega
   rw[hlen] at hk hl⊢;have fa:=hf a (List.mem_cons_self ..);have fb:=hf b (by simp);have fm:PF m':=fun c hc=>hf c (by simp [hc])
   have la:a.length=3:=(eP fa).symm;have lb:b.length=3:=(eP fb).symm;have lm:m'.flatten.length=m'.length*3:=cB fm.oD;have e1:(i:Int)<(i:Int)+((m'.length+2:Nat):Int)-1:=by omega
   have e2:0≤(i:Int)+((m'.length+2:Nat):Int)-1:=by omega
   have e3:(i:Int)+((m'.length+2:Nat):Int)-1<(len:Int):=by omega
   have e4:0≤(i:Int):=by omega
   have e5:(i:Int)<(len:Int):=by omega
   have e6:((i:Int)+((m'.length+2:Nat):Int)-1).toNat=i+m'.length+1:=by omega
   have e7:IntKind.i64.wrap ((i:Int)+((m'.length+2:Nat):Int)-1-1)=((i+1:Nat):Int)+(m'.length:Nat)-1:=by rw[bD (by omega) (by omega)];omega
   have hg:=h.get;have s1:X++((a::(m'++[b])).flatten++Y)=(X++(a++m'.flatten))++(b++Y):=by simp
   have s2:X++((a::(m'++[b])).flatten++Y)=X++(a++(m'.flatten++(b++Y))):=by simp
   have Qo:=hg;rw[s1] at Qo;have HC:=hg;rw[s2] at HC;have o1:o+(i+m'.length+1)*3=(X++(a++m'.flatten)).length:=by simp only[List.length_append,hX,la,lm];omega
   have i1:=It Qo o1 lb.symm;have u1:=Is Qo o1 lb.symm;have i2:=It HC hX.symm la.symm;have u2:=Is HC hX.symm la.symm;have w2:=GO HC hX.symm la.symm;have h2:=h;rw[s2] at h2;have h3:=h2.iJ hX.symm (vs:=b) (by rw[la,lb]);have s3:X++(b++(m'.flatten++(b++Y)))=(X++(b++m'.flatten))++(b++Y):=by simp
   rw[s3] at h3;have o3:o+(i+m'.length+1)*3=(X++(b++m'.flatten)).length:=by simp only[List.length_append,hX,lb,lm];omega
   have w3:=GO h3.get o3 lb.symm;have h4:=h3.iJ o3 (vs:=a) (by rw[la,lb]);have s4:(X++(b++m'.flatten))++(a++Y)=(X++b)++(m'.flatten++(a++Y)):=by simp
   rw[s4] at h4;simp only[e1,e2,e3,e4,e5,e6,Int.toNat_natCast,decide_true,au,Option.isSome_some,Option.getD_some,Bool.and_self,ay,i1,u1,i2,u2,w2,fa,fb,NF fa,NF fb,w3];rw[aQ (by omega),e7];refine ih m' (X++b) (a++Y) (i+1) (by omega) fm (by rw[List.length_append,hX,lb];omega) (by omega) hb h4 (fun H' h'=> ?_);refine K H' ?_;have s5:X++((a::(m'++[b])).reverse.flatten++Y)=(X++b)++(m'.reverse.flatten++(a++Y)):=by simp
   rw[s5];exact h'
theorem Hl {css:List (List V)} {X Y:List V} (hf:PF css) (hX:X.length=o) (hb:css.length≤1000000) (h:az B H (cR id e (X++(css.flatten++Y))::L)) (k:∀H',az B H' (cR id e (X++(css.reverse.flatten++Y))::L)→K (.tuple []) H'):cl 158 [.slice (some (id,o)) css.length cap] H K:=by
 rw[XC];(try simp only[NQ]);rw[bD (by omega) (by omega)]
 have:=TB (B:=B) (L:=L) (id:=id) (o:=o) (len:=css.length) (cap:=cap) (e:=e) (Kr:=fun S'=>K (V.tuple []) S'.3) (Ke:=fun j S'=>br (Nat.beq j 0) (K (V.tuple []) S'.3) False)
  css.length css X Y 0 (H:=H) (Nat.le_refl _) hf (by omega) (by omega) hb h (fun H' h'=>by simpa using k H' h')
 simpa using this
theorem PO {css:List (List V)} {X Y:List V} (hf:PF css) (hX:X.length=o) (hb:css.length≤1000000) (hc:css.length≤cap) {r:Nat} (hr:r≤css.length) (h:az B H (cR id e (X++(css.flatten++Y))::L)) (k:∀H',az B H' (cR id e (X++((css.drop r++css.take r).flatten++Y))::L)→K (.tuple []) H'):cl 152 [.slice (some (id,o)) css.length cap,.int .i64 (r:Int)] H K:=by
 have e1:0≤(r:Int):=by omega
 have e2:(r:Int)≤(cap:Int):=by omega
 have e3:r≤cap:=by omega
 have e4:(r:Int)≤(css.length:Int):=by omega
 have la:(css.take r).length=r:=by rw[List.length_take];omega
 have lb:(css.drop r).length=css.length-r:=List.length_drop;have fa:PF (css.take r):=fun c hc=>hf c (List.mem_of_mem_take hc)
 have fb:PF (css.drop r):=fun c hc=>hf c (List.mem_of_mem_drop hc)
 have lfa:(css.take r).flatten.length=r*3:=by rw[cB fa.oD,la]
 rw[XB];(try simp only[NQ]);simp only[e1,e2,e3,e4,hc,decide_true,Bool.and_self,Bool.true_and,Bool.or_false,lO,Int.toNat_natCast,ay,gv,Nat.sub_zero];have s1:X++(css.flatten++Y)=X++((css.take r).flatten++((css.drop r).flatten++Y)):=by rw[dK css r];simp
 rw[s1] at h;have g1:=fun K c=>Hl (K:=K) (cap:=c) fa hX (by omega) h
 rw[la] at g1;refine g1 _ _ (fun H1 h1=> ?_);have s2:X++((css.take r).reverse.flatten++((css.drop r).flatten++Y))=(X++(css.take r).reverse.flatten)++((css.drop r).flatten++Y):=by simp
 rw[s2] at h1;have lr:((css.take r).reverse.flatten).length=r*3:=by rw[cB (pA.rev fa.oD),List.length_reverse,la]
 have g2:=fun K c=>Hl (K:=K) (cap:=c) (o:=o+r*3) fb (by rw[List.length_append,hX,lr]) (by omega) h1
 rw[lb] at g2;refine g2 _ _ (fun H2 h2=> ?_)
 have fr:PF ((css.take r).reverse++(css.drop r).reverse):=by
  intro c hc;rcases List.mem_append.1 hc with hc|hc
  ·exact fa c (List.mem_reverse.1 hc)
  ·exact fb c (List.mem_reverse.1 hc)
 have s3:(X++(css.take r).reverse.flatten)++((css.drop r).reverse.flatten++Y)=X++(((css.take r).reverse++(css.drop r).reverse).flatten++Y):=by simp
 rw[s3] at h2;have lx:((css.take r).reverse++(css.drop r).reverse).length=css.length:=by simp;omega
 have g3:=fun K=>Hl (K:=K) (cap:=cap) fr hX (by omega) h2
 rw[lx] at g3;refine g3 _ (fun H3 h3=> ?_);have s4:((css.take r).reverse++(css.drop r).reverse).reverse=css.drop r++css.take r:=by simp
 rw[s4] at h3;exact k _ h3
theorem PQ {css:List (List V)} {X Y:List V} (hf:PF css) (hX:X.length=o) (hb:css.length≤1000000) (hc:css.length≤cap) (hr:1≤css.length) (h:az B H (cR id e (X++(css.flatten++Y))::L)) (k:∀H',az B H' (cR id e (X++((css.drop (css.length-1)++css.take (css.length-1)).flatten++Y))::L)→K (.tuple []) H'):cl 147 [.slice (some (id,o)) css.length cap,.int .i64 1] H K:=by
 have e:IntKind.i64.wrap ((css.length:Int)-1)=((css.length-1:Nat):Int):=by rw[bD (by omega) (by omega)];omega
 rw[XA];(try simp only[NQ]);rw[e];exact PO hf hX hb hc (by omega) h k
end
theorem TC (args:List V) (H:af) (K:V→af→Prop):iB cP 146 args H K=AE args H K:=by kernel_rfl
section
variable {B:af} {L:List cq} {H:af} {K:V→af→Prop} {cap:Nat} {q:Oq} {css:List (List V)}
theorem KB (h:az B H (Rw 138 3 q cap css::L)) {vid:Nat} {e2:TypeId} {c:List V} (hv:∀H,az B H L→H.get vid=some (.cells e2 c false)) (hf:PF css) (ZF:aJ qG c=true) (hb:css.length≤1000) {i:Nat} (hi:i≤css.length) (hne:∀id off,q=some (id,off)→vid≠id) (k:∀q' c' H',az B H' (Rw 138 3 q' c' (css.take i++c::css.drop i)::L)→K (.slice q' (css.length+1) c') H'):cl 137 [.slice q css.length cap,.int .i64 (i:Int),.slice (some (vid,0)) 1 1] H K:=by
 have hle:=h.Ta;have hu:=hf.oD;have lc:c.length=3:=(eP ZF).symm;have oc:aZ c:=jE ZF;have e1:0≤(i:Int):=by omega
 have Va:(i:Int)≤(css.length:Int):=by omega
 have e3:¬((1:Nat):Int)=0:=by omega
 have hvg:=hv H h.drop;have hrv:Rd H (some (vid,0)) c:=.inr ⟨vid,0,e2,c,false,rfl,hvg,by rw[List.drop_zero,List.take_length]⟩;have w1:IntKind.i64.wrap ((css.length:Int)+((1:Nat):Int))=((css.length+1:Nat):Int):=by rw[bD (by omega) (by omega)];omega
 have w2:IntKind.i64.wrap ((i:Int)+((1:Nat):Int))=((i+1:Nat):Int):=by rw[bD (by omega) (by omega)];omega
 rw[Xz];(try simp only[NQ]);simp only[e1,Va,e3,hle,decide_true,decide_false,Bool.and_self,Bool.true_and,Bool.or_false,lO,ay,ai,au,w1,w2,Int.toNat_natCast,gv,Nat.sub_zero];by_cases hin:i=css.length
 ·subst hin;rw[decide_eq_true rfl,au];have hx:SY H 3 (.slice (some (vid,0)) 1 1) 1 c:=⟨by rw[lc],oc,.inl ⟨_,_,rfl,hrv⟩⟩;refine h.append wY Da Db rfl (by omega) hx (by omega) (fun q' c' H' h'=> ?_);have e:css.take css.length++c::css.drop css.length=css++[c]:=by simp
  rw[e] at k;refine k q' c' H' ?_;unfold Rw;rw[List.length_append,List.flatten_append];simpa using h'
 ·have hlt:i<css.length:=by omega
  have e4:¬(i:Int)=(css.length:Int):=by omega
  rw[decide_eq_false e4,ai];have fa:PF (css.take i):=fun c hc=>hf c (List.mem_of_mem_take hc)
  have fd:PF (css.drop i):=fun c hc=>hf c (List.mem_of_mem_drop hc)
  have la:(css.take i).flatten.length=i*3:=by rw[cB fa.oD,List.length_take,Nat.min_eq_left hi]
  have ld:(css.drop i).flatten.length=(css.length-i)*3:=by rw[cB fd.oD,List.length_drop]
  have YW:(css.take i++c::css.drop i).flatten=(css.take i).flatten++(c++(css.drop i).flatten):=by simp
  have hlen:(css.take i++c::css.drop i).length=css.length+1:=by simp;omega
  have ffin:PF (css.take i++c::css.drop i):=by
   intro x hx;rcases List.mem_append.1 hx with hx|hx
   ·exact fa x hx
   ·rcases List.mem_cons.1 hx with rfl|hx
    ·exact ZF
    ·exact fd x hx
  obtain⟨id,off,pre,post,rfl,hp,sC,hs⟩:=h.Mx hu (by omega);have abx:=hne id off rfl;have hg:=hs.get
  have YX:Rd H (some (id,off+i*3)) (css.drop i).flatten:=by
   have hg':=hg;rw[dK css i,show pre++((css.take i).flatten++(css.drop i).flatten++post)=(pre++(css.take i).flatten)++((css.drop i).flatten++post) by simp] at hg';exact CD hg' (by rw[List.length_append,hp,la])
  have padd:∀m,bJ (some (id,off)) m=some (id,off+m):=fun m=>rfl
  by_cases hroom:css.length+1≤cap
  ·have e5:¬((css.length+1:Nat):Int)>(cap:Int):=by omega
   have e6:0≤((css.length+1:Nat):Int):=by omega
   have e7:((css.length+1:Nat):Int)≤(cap:Int):=by omega
   have e8:0≤((i+1:Nat):Int):=by omega
   have e9:((i+1:Nat):Int)≤((css.length+1:Nat):Int):=by omega
   have Ru:(i:Int)≤((css.length+1:Nat):Int):=by omega
   have Vb:0≤(css.length:Int):=by omega
   have YY:(css.length:Int)≤((css.length+1:Nat):Int):=by omega
   rw[decide_eq_false e5,ai];simp only[e6,e7,e8,e9,hroom,decide_true,Bool.and_self,ay,padd];rw[TC];refine⟨abx,by omega,by omega,⟨e2,c,hvg,by omega⟩,⟨_,_,_,hg⟩, ?_, ?_⟩
   ·
    simp only[gS,cn,Bool.not_true,ai,ay,Vb,YY,hroom,decide_true,Bool.and_self]
    have hpost:3≤post.length:=by
     have:1*3≤(cap-css.length)*3:=Nat.mul_le_mul_right _ (by omega);omega
    have lcs:css.flatten.length=css.length*3:=cB hu
    have pX:=lQ (n:=3) (k:=css.length+1-css.length) (o:=off+css.length*3) (ms:=1) (c:=1) (j:=1) hg hrv (by rw[show css.length+1-css.length=1 by omega];rfl) (by rw[lc]) oc (by omega)
     (by simp only[List.length_append];omega)
    rw[pX.1,pX.2,ay];have s1:pre++(css.flatten++post)=(pre++css.flatten)++(post.take 3++post.drop 3):=by rw[List.take_append_drop,List.append_assoc]
    rw[s1] at hs;have oC:=hs.iJ (o:=off+css.length*3) (vs:=c) (by rw[List.length_append,hp,lcs]) (by rw[List.length_take,lc];omega)
    have fdc:PF (css.drop i++[c]):=by
     intro x hx;rcases List.mem_append.1 hx with hx|hx
     ·exact fd x hx
     ·rw[List.mem_singleton] at hx;subst hx;exact ZF
    have ldc:(css.drop i++[c]).length=css.length+1-i:=by simp;omega
    have s2:(pre++css.flatten)++(c++post.drop 3)=(pre++(css.take i).flatten)++((css.drop i++[c]).flatten++post.drop 3):=by rw[dK css i];simp
    rw[s2] at oC;have e13:i≤css.length+1:=by omega
    simp only[e1,Ru,decide_true,Bool.and_self,ay];have YZ:=fun K=>PQ (K:=K) (cap:=cap-i) (o:=off+i*3) fdc (by rw[List.length_append,hp,la]) (by omega) (by omega) (by omega) oC
    rw[ldc] at YZ;refine YZ _ (fun H3 h3=> ?_);have ldd:css.length+1-i-1=(css.drop i).length:=by rw[List.length_drop];omega
    have s3:(css.drop i++[c]).drop (css.length+1-i-1)++(css.drop i++[c]).take (css.length+1-i-1)=c::css.drop i:=by
     rw[ldd,List.drop_left' rfl,List.take_left' rfl];rfl
    rw[s3,show (pre++(css.take i).flatten)++((c::css.drop i).flatten++post.drop 3)=pre++((css.take i++c::css.drop i).flatten++post.drop 3) by simp] at h3;have:=h3.EB (cap:=cap) ffin.oD (by omega) (by rw[hlen,List.length_drop,Nat.sub_mul,Nat.add_mul];rw[Nat.sub_mul] at sC;omega);rw[hp] at this;exact k _ _ _ this
   ·simp only[gS,cn,Bool.not_false,au,ay,e1,e8,e9,Ru,hroom,decide_true,Bool.and_self]
    have hpost:3≤post.length:=by
     have:1*3≤(cap-css.length)*3:=Nat.mul_le_mul_right _ (by omega);omega
    have lcs:css.flatten.length=css.length*3:=cB hu
    have pX:=lQ (n:=3) (k:=css.length+1-(i+1)) (o:=off+(i+1)*3) (ms:=css.length+1-i) (c:=cap-i) (j:=css.length-i) hg YX (by
     rw[show css.length+1-(i+1)=css.length-i by omega];exact Nat.min_eq_right (by omega)) ld (mN fd.oD) (by omega)
     (by simp only[List.length_append,lcs];have:(css.length-i)*3+i*3=css.length*3:=by rw[←Nat.add_mul];congr 1;omega
         omega)
    rw[pX.1,pX.2,ay];have ls:((css.drop i).flatten++post).length=((css.drop i).flatten).length+post.length:=List.length_append
    have s1:pre++(css.flatten++post)=(pre++((css.take i).flatten++((css.drop i).flatten++post).take 3))++((((css.drop i).flatten++post).drop 3).take ((css.length-i)*3)++post.drop 3):=by
     have a1:((css.drop i).flatten++post)=((css.drop i).flatten++post).take 3++((((css.drop i).flatten++post).drop 3).take ((css.length-i)*3)++(((css.drop i).flatten++post).drop 3).drop ((css.length-i)*3)):=by
      rw[List.take_append_drop,List.take_append_drop]
     have a2:(((css.drop i).flatten++post).drop 3).drop ((css.length-i)*3)=post.drop 3:=by
      rw[List.drop_drop,Nat.add_comm, ←ld, ←List.drop_drop,List.drop_left' rfl]
     rw[a2] at a1
     conv=>lhs;rw[dK css i,List.append_assoc,a1]
     simp only[List.append_assoc]
    rw[s1] at hs;have l3:(((css.drop i).flatten++post).take 3).length=3:=by rw[List.length_take];omega
    have oC:=hs.iJ (o:=off+(i+1)*3) (vs:=(css.drop i).flatten) (by simp only[List.length_append,hp,la,l3];omega) (by rw[ld,List.length_take,List.length_drop];omega);have s2:(pre++((css.take i).flatten++((css.drop i).flatten++post).take 3))++((css.drop i).flatten++post.drop 3)=(pre++(css.take i).flatten)++(((css.drop i).flatten++post).take 3++((css.drop i).flatten++post.drop 3)):=by simp only[List.append_assoc]
    rw[s2] at oC;have QA:=hv _ oC.drop;have Ut:Rd (H.store id (off+(i+1)*3) (css.drop i).flatten) (some (vid,0)) c:=.inr ⟨vid,0,e2,c,false,rfl,QA,by rw[List.drop_zero,List.take_length]⟩;have OE:=lQ (n:=3) (k:=css.length+1-i) (o:=off+i*3) (ms:=1) (c:=1) (j:=1) oC.get Ut (Nat.min_eq_left (by omega)) (by rw[lc]) oc (by omega) (by simp only[List.length_append,la,l3,hp];omega);rw[OE.1,OE.2,ay];have Ln:=oC.iJ (o:=off+i*3) (vs:=c) (by rw[List.length_append,hp,la]) (by rw[l3,lc]);rw[show (pre++(css.take i).flatten)++(c++((css.drop i).flatten++post.drop 3))=pre++((css.take i++c::css.drop i).flatten++post.drop 3) by simp] at Ln;have:=Ln.EB (cap:=cap) ffin.oD (by omega) (by rw[hlen,List.length_drop,Nat.sub_mul,Nat.add_mul];rw[Nat.sub_mul] at sC;omega);rw[hp] at this;exact k _ _ _ this
  ·have e5:((css.length+1:Nat):Int)>(cap:Int):=by omega
   have e6:(i:Int)≤(cap:Int):=by omega
   have e7:i≤cap:=by omega
   rw[decide_eq_true e5,au];have w3:IntKind.i64.wrap (((css.length+1:Nat):Int)-(i:Int))=((css.length+1-i:Nat):Int):=by rw[bD (by omega) (by omega)];omega
   simp only[e6,e7,w3,decide_true,Bool.and_self,ay]
   have Y0:Rd H (some (id,off)) (css.take i).flatten:=by
    have hg':=hg;rw[dK css i,show pre++((css.take i).flatten++(css.drop i).flatten++post)=pre++((css.take i).flatten++((css.drop i).flatten++post)) by simp] at hg';exact CD hg' hp.symm
   have hz:(gQ (css.length+1-i) (fP 0 none 0 0 false)).length=(css.length+1-i)*3:=by rw[fO,zf]
   refine hs.J6 (u:=3) wY Db rfl (by omega) Y0 la (mN fa.oD) (My PN (by omega) (by omega)) rfl rfl (by rw[show ey _ _=gQ _ _ from rfl,Int.toNat_natCast];exact hz) (gm Db _) (by omega) (by omega) (fun c' po qJ Uu oC=> ?_);simp only[show∀(n:Nat) (z:List V),ey n z=gQ n z from fun _ _=>rfl,Int.toNat_natCast] at oC Uu qJ⊢;have hn2:i+(css.length+1-i)=css.length+1:=by omega
   simp only[hn2] at qJ Uu⊢;generalize Yi:gQ (css.length+1-i) (fP 0 none 0 0 false)=zs at oC hz⊢;have Y1:∀m,bJ (some (H.next,0)) m=some (H.next,m):=fun m=>by simp [bJ]
   have e8:(i:Int)≤((css.length+1:Nat):Int):=by omega
   have e9:0≤((i+1:Nat):Int):=by omega
   have Ru:((i+1:Nat):Int)≤((css.length+1:Nat):Int):=by omega
   simp only[padd,Y1,e1,Va,e8,e9,Ru,hle,qJ,decide_true,Bool.and_self,ay];have QA:=hv _ oC.drop.drop;generalize hH2:af.alloc H _=H2 at oC QA⊢;have Ut:Rd H2 (some (vid,0)) c:=.inr ⟨vid,0,e2,c,false,rfl,QA,by rw[List.drop_zero,List.take_length]⟩;have pX:=lQ (n:=3) (k:=css.length+1-i) (o:=i*3) (ms:=1) (c:=1) (j:=1) oC.get Ut (Nat.min_eq_left (by omega)) (by rw[lc]) oc (by omega) (by simp only[List.length_append,la,hz];omega);rw[pX.1,pX.2,ay];have z3:(zs.take 3).length=3:=by rw[List.length_take,hz];omega
   rw[show (css.take i).flatten++(zs++po)=(css.take i).flatten++(zs.take 3++(zs.drop 3++po)) by rw[←List.append_assoc (zs.take 3),List.take_append_drop]] at oC;have Ln:=oC.iJ (o:=i*3) (vs:=c) (by rw[la]) (by rw[z3,lc]);have hs4:=Ln.up 1;simp only[iS,iI] at hs4
   have Uv:Rd (H2.store H.next (i*3) c) (some (id,off+i*3)) (css.drop i).flatten:=by
    have hg':=hs4.get;rw[dK css i,show pre++((css.take i).flatten++(css.drop i).flatten++post)=(pre++(css.take i).flatten)++((css.drop i).flatten++post) by simp] at hg';exact CD hg' (by rw[List.length_append,hp,la])
   have z4:(zs.drop 3).length=(css.length-i)*3:=by rw[List.length_drop,hz];omega
   have OE:=lQ (n:=3) (k:=css.length+1-(i+1)) (o:=(i+1)*3) (ms:=css.length-i) (c:=cap-i) (j:=css.length-i) Ln.get Uv (by
    rw[show css.length+1-(i+1)=css.length-i by omega];exact Nat.min_eq_left (by omega)) ld (mN fd.oD) (by omega) (by simp only[List.length_append,la,lc,z4];omega)
   rw[OE.1,OE.2,ay];rw[show (css.take i).flatten++(c++(zs.drop 3++po))=((css.take i).flatten++c)++(zs.drop 3++po) by simp] at Ln;have hs5:=Ln.iJ (o:=(i+1)*3) (vs:=(css.drop i).flatten) (by rw[List.length_append,la,lc];omega) (by rw[z4,ld]);rw[show ((css.take i).flatten++c)++((css.drop i).flatten++po)=[]++((css.take i++c::css.drop i).flatten++po) by simp] at hs5;have hs6:=hs5.EB (cap:=c') ffin.oD (by omega) (by rw[hlen,Uu];exact Nat.le_refl _);have hs7:=(hs6.up 1).drop;exact k _ _ _ hs7
theorem KC (h:az B H (Rw 138 3 q cap css::L)) (hf:PF css) (hb:css.length≤1000) {i:Nat} (hi:i<css.length) (k:∀H',az B H' (Rw 138 3 q cap (css.eraseIdx i)::L)→K (.slice q (css.length-1) cap) H'):cl 121 [.slice q css.length cap,.int .i64 (i:Int),.int .i64 ((i+1:Nat):Int)] H K:=by
 have hle:=h.Ta;have hu:=hf.oD;rw[Xx];(try simp only[NQ]);have e1:0≤(css.length:Int):=by omega
 have e2:(css.length:Int)≤(cap:Int):=by omega
 have e3:0≤((i+1:Nat):Int):=by omega
 have e4:((i+1:Nat):Int)≤(css.length:Int):=by omega
 have e5:0≤(i:Int):=by omega
 have e6:(i:Int)≤((i+1:Nat):Int):=by omega
 have e7:i+1≤css.length:=by omega
 have e8:¬(i:Int)=((i+1:Nat):Int):=by omega
 have e9:(i:Int)≤(cap:Int):=by omega
 have Ru:i≤cap:=by omega
 simp only[e1,e2,e3,e4,e5,e6,e7,e8,e9,Ru,hle,decide_true,decide_false,Bool.and_self,Bool.true_and,Bool.or_false,lO,ay,ai,Int.toNat_natCast,gv,Nat.sub_zero];obtain⟨id,off,pre,post,rfl,hp,sC,hs⟩:=h.Mx hu (by omega);have hg:=hs.get;have padd:∀m,bJ (some (id,off)) m=some (id,off+m):=fun m=>rfl
 have fa:PF (css.take i):=fun c hc=>hf c (List.mem_of_mem_take hc)
 have fd:PF (css.drop (i+1)):=fun c hc=>hf c (List.mem_of_mem_drop hc)
 have la:(css.take i).flatten.length=i*3:=by rw[cB fa.oD,List.length_take,Nat.min_eq_left (by omega)]
 have ld:(css.drop (i+1)).flatten.length=(css.length-(i+1))*3:=by rw[cB fd.oD,List.length_drop]
 have lx:(css[i]).length=3:=(eP (hf _ (List.getElem_mem hi))).symm;have s0:css.flatten=(css.take i).flatten++(css[i]++(css.drop (i+1)).flatten):=by rw[dK css i,List.drop_eq_getElem_cons hi,List.flatten_cons]
 have hrd:Rd H (some (id,off+(i+1)*3)) (css.drop (i+1)).flatten:=by
  have hg':=hg;rw[s0,show pre++((css.take i).flatten++(css[i]++(css.drop (i+1)).flatten)++post)=(pre++((css.take i).flatten++css[i]))++((css.drop (i+1)).flatten++post) by simp] at hg';exact CD hg' (by simp only[List.length_append,hp,la,lx];omega)
 have hn:css.length-(i+1)+(i+1)=css.length:=by omega
 have hx:SY H 3 (.slice (some (id,off+(i+1)*3)) (css.length-(i+1)) (cap-(i+1))) (css.length-(i+1)) (css.drop (i+1)).flatten:=⟨ld,mN fd.oD,.inl ⟨_,_,rfl,hrd⟩⟩;have lcs:css.flatten.length=css.length*3:=cB hu;simp only[padd]
 refine J7 wY Da (by omega) hg hx (by omega) (by simp only[List.length_append,lcs];have:(css.length-(i+1))*3+i*3≤css.length*3:=by rw[←Nat.add_mul];exact Nat.mul_le_mul_right _ (by omega)
                                                 omega) ?_
 have hm:i+(css.length-(i+1))=css.length-1:=by omega
 have Vb:0≤((css.length-1:Nat):Int):=by omega
 have YY:((css.length-1:Nat):Int)≤(css.length:Int):=by omega
 have UW:css.length-(css.length-1)=1:=by omega
 have Ds:Nat.beq 1 0=false:=rfl;simp only[hm,e1,e2,Vb,YY,hle,UW,Ds,decide_true,Bool.and_self,ay,padd,Option.isNone_some,Bool.false_or,Bool.or_self,Option.getD_some,cond_false];have s1:((css.drop i).flatten).length=(css.length-i)*3:=by rw[cB (pA.drop hu i),List.length_drop]
 have Y2:css.flatten=(css.take i).flatten++(((css.drop i).flatten).take ((css.length-(i+1))*3)++((css.drop i).flatten).drop ((css.length-(i+1))*3)):=by
  rw[List.take_append_drop, ←dK]
 have l2:(((css.drop i).flatten).take ((css.length-(i+1))*3)).length=(css.length-(i+1))*3:=by rw[List.length_take,s1];omega
 have l3:(((css.drop i).flatten).drop ((css.length-(i+1))*3)).length=3:=by rw[List.length_drop,s1];omega
 rw[show pre++(css.flatten++post)=(pre++(css.take i).flatten)++(((css.drop i).flatten).take ((css.length-(i+1))*3)++(((css.drop i).flatten).drop ((css.length-(i+1))*3)++post)) by
  conv=>lhs;rw[Y2]
  simp only[List.append_assoc]] at hs
 have oC:=hs.iJ (o:=off+i*3) (vs:=(css.drop (i+1)).flatten) (by rw[List.length_append,hp,la]) (by rw[l2,ld])
 rw[show (pre++(css.take i).flatten)++((css.drop (i+1)).flatten++(((css.drop i).flatten).drop ((css.length-(i+1))*3)++post))=
  (pre++((css.take i).flatten++(css.drop (i+1)).flatten))++(((css.drop i).flatten).drop ((css.length-(i+1))*3)++post) by simp] at oC
 have ho:off+(css.length-1)*3=(pre++((css.take i).flatten++(css.drop (i+1)).flatten)).length:=by
  simp only[List.length_append,hp,la,ld];have:(css.length-1)*3=i*3+(css.length-(i+1))*3:=by rw[←Nat.add_mul];congr 1;omega
  omega
 rw[GO oC.get ho (by rw[l3]),ay];have hrow:ey 1 (fP 0 none 0 0 false)=fP 0 none 0 0 false:=by show _++[]=_;rw[List.append_nil]
 rw[hrow];have Ln:=oC.iJ ho (vs:=fP 0 none 0 0 false) (by rw[l3,zf]);have he:css.eraseIdx i=css.take i++css.drop (i+1):=List.eraseIdx_eq_take_drop_succ css i;rw[show (pre++((css.take i).flatten++(css.drop (i+1)).flatten))++(fP 0 none 0 0 false++post)=pre++((css.eraseIdx i).flatten++(fP 0 none 0 0 false++post)) by rw[he];simp] at Ln;have aby:(css.eraseIdx i).length=css.length-1:=by rw[List.length_eraseIdx,if_pos hi]
 have fe:PF (css.eraseIdx i):=fun c hc=>hf c (List.mem_of_mem_eraseIdx hc)
 have:=Ln.EB (cap:=cap) fe.oD (by omega) (by
  rw[aby,List.length_append,zf]
  have:(cap-(css.length-1))*3=(cap-css.length)*3+3:=by
   rw[show cap-(css.length-1)=cap-css.length+1 by omega,Nat.add_mul]
  omega)
 rw[hp] at this;exact k _ this
end
structure Pg where
 ar:Int
 data:List UInt8
 cd:Bool
structure Rp where
 p:Pg
 q:Oq
 c:Nat
def Rp.cs (r:Rp):List V:=fP r.p.ar r.q r.p.data.length r.c r.p.cd
def Rp.bW (r:Rp):cq:=BY r.q r.c r.p.data
theorem Rp.aJ (r:Rp):aJ qG r.cs=true:=rfl
theorem uf (rs:List Rp):PF (rs.map Rp.cs):=by
 intro c hc;obtain⟨r,_,rfl⟩:=List.mem_map.1 hc;exact r.aJ
def Dc (rs:List Rp) (a:Int) (k:Nat):Int:=match rs[k]? with
 |some r=>IntKind.i64.wrap (r.p.ar-a)
 |none=>0
theorem qy {rs:List Rp} {a:Int} {k:Nat} (h:k<rs.length):Dc rs a k=IntKind.i64.wrap (rs[k].p.ar-a):=by
 unfold Dc;rw[List.getElem?_eq_getElem h]
def Jd (rs:List Rp) (a:Int) (i:Nat):Prop:=i≤rs.length∧(i=0∨Dc rs a (i-1)<0)∧(i=rs.length∨¬Dc rs a i<0)
section
variable {B:af} {L:List cq} {H:af} {K:V→af→Prop} {cap:Nat} {q:Oq} {rs:List Rp} {a:Int}
theorem Bi (args:List V) (H:af) (K:V→af→Prop):jz cP (p8 cP) (.func 136 []) args H K=cl 136 (args++[]) H K:=by kernel_rfl
theorem kC (hr:Rd H q (rs.map Rp.cs).flatten) {i:Nat} (hi:i<rs.length):q.isSome=true∧H.inb (q.getD (0,0)).1 ((q.getD (0,0)).2+i*3) 3=true∧H.sub (q.getD (0,0)).1 ((q.getD (0,0)).2+i*3) 3=rs[i].cs:=by
 have:=yw hr (uf rs).oD (by omega) (i:=i) (by simpa using hi);simpa using this
theorem KD (hr:Rd H q (rs.map Rp.cs).flatten) (hb:rs.length≤1000) {Kr:Am.St→Prop} {Ke:Nat→Am.St→Prop} (k:∀i,Jd rs a i→Ke 0 (St.mk (ab [(0,T.v (V.slice q rs.length cap)),(1,T.v (V.int .i64 a)),(2,T.v (V.func 136 [])),(8,T.v (V.int .i64 (rs.length:Int))),(9,T.v (V.int .i64 (i:Int)))]) (ab []) H)):∀(n i j:Nat),j-i≤n→i≤j→j≤rs.length→(i=0∨Dc rs a (i-1)<0)→(j=rs.length∨¬Dc rs a j<0)→lo 135 3 (St.mk (ab [(0,T.v (V.slice q rs.length cap)),(1,T.v (V.int .i64 a)),(2,T.v (V.func 136 [])),(8,T.v (V.int .i64 (rs.length:Int))),(9,T.v (V.int .i64 (i:Int))),(10,T.v (V.int .i64 (j:Int)))]) (ab []) H) Kr Ke:=by
 intro n
 induction n with
 |zero=>
  intro i j hn hij hj h1 h2;obtain rfl:i=j:=by omega
  rw[Il];(try simp only[NQ]);have e1:¬(i:Int)<(i:Int):=by omega
  rw[decide_eq_false e1,ai];exact k i ⟨hj,h1,h2⟩
 |succ n ih=>
  intro i j hn hij hj h1 h2;rw[Il];(try simp only[NQ]);by_cases hlt:i<j
  ·have e1:(i:Int)<(j:Int):=by omega
   have em:IntKind.i64.wrap (Int.fdiv (IntKind.u64.wrap (IntKind.i64.wrap ((i:Int)+(j:Int)))) 2)=(((i+j) / 2:Nat):Int):=by
    rw[bD (x:=(i:Int)+(j:Int)) (by omega) (by omega),IntWalk.u64_in _ (by omega),Int.fdiv_eq_ediv_of_nonneg _ (by omega),bD (by omega) (by omega)];omega
   generalize hm:(i+j) / 2=m at em;have Rl:i≤m:=by omega
   have hm2:m<j:=by omega
   obtain⟨r1,r2,r3⟩:=kC hr (i:=m) (by omega);have e2:0≤(m:Int):=by omega
   have e3:(m:Int)<(rs.length:Int):=by omega
   have ho:uY rs[m].cs=rs[m].cs:=rfl;simp only[e1,em,e2,e3,Int.toNat_natCast,decide_true,au,r1,r2,r3,Bool.and_self,ay,Rp.aJ,ho,Bi,List.append_nil];unfold Rp.cs;rw[QN];(try simp only[NQ]);have hc:=qy (a:=a) (show m<rs.length by omega);simp only[dW,bI,ay, ←hc];rw[bD (x:=(m:Int)+1) (by omega) (by omega)];by_cases hneg:Dc rs a m<0
   ·rw[decide_eq_true hneg,au];have:=ih (m+1) j (by omega) (by omega) hj (.inr (by simpa using hneg)) h2;simpa using this
   ·rw[decide_eq_false hneg,ai];exact ih i m (by omega) Rl (by omega) h1 (.inr hneg)
  ·obtain rfl:i=j:=by omega
   have e1:¬(i:Int)<(i:Int):=by omega
   rw[decide_eq_false e1,ai];exact k i ⟨hj,h1,h2⟩
def sl (rs:List Rp) (a:Int) (i:Nat):Bool:=decide (i<rs.length)&&decide (Dc rs a i=0)
theorem KE (hr:Rd H q (rs.map Rp.cs).flatten) (hb:rs.length≤1000) (k:∀i,Jd rs a i→K (.tuple [.int .i64 (i:Int),.bool (sl rs a i)]) H):cl 135 [.slice q rs.length cap,.int .i64 a,.func 136 []] H K:=by
 rw[Xy];(try simp only[NQ]);refine KD hr hb (fun i hi=> ?_) rs.length 0 rs.length (by omega) (by omega) (Nat.le_refl _) (.inl rfl) (.inl rfl);have hk:=k i hi;unfold sl at hk;have ek:V.av bY.func (V.func 136 [])=true:=rfl;simp only[AK,reduceIte,Nat.reduceEqDiff,ek];by_cases hlt:i<rs.length
 ·have e1:(i:Int)<(rs.length:Int):=by omega
  obtain⟨r1,r2,r3⟩:=kC hr (i:=i) (by omega);have e2:0≤(i:Int):=by omega
  have ho:uY rs[i].cs=rs[i].cs:=rfl;simp only[e1,e2,Int.toNat_natCast,decide_true,au,r1,r2,r3,Bool.and_self,ay,Rp.aJ,ho,Bi,List.append_nil];unfold Rp.cs;rw[QN];(try simp only[NQ]);have hc:=qy (a:=a) (show i<rs.length by omega);simp only[dW,bI,ay, ←hc];rw[decide_eq_true hlt,Bool.true_and] at hk;exact hk
 ·have e1:¬(i:Int)<(rs.length:Int):=by omega
  rw[decide_eq_false hlt,Bool.false_and] at hk;simp only[e1,decide_false,ai];exact hk
theorem NG {id:Nat} (hg:H.get id=some (.cells 91 [.slice q rs.length cap] false)) (hr:Rd H q (rs.map Rp.cs).flatten) (hb:rs.length≤1000) (k:∀i,Jd rs a i→K (.tuple [.int .i64 (i:Int),.bool (sl rs a i)]) H):cl 111 [.aj (some (id,0)),.int .i64 a] H K:=by
 rw[Xv];(try simp only[NQ]);have e1:Nat.ble (0+1) [V.slice q rs.length cap].length=true:=rfl;simp only[Option.isSome_some,Option.getD_some,ay,dI hg,aY hg,e1,eF,dH,cy,bV,cz,Bool.and_self];refine KE hr hb (fun i hi=> ?_);simp only[AK,reduceIte,Nat.reduceEqDiff];exact k i hi
def so (q:Oq) (cap:Nat) (ps:List Pg):cq:=
 JX fun rs:List Rp=>lD (Es (rs.map Rp.p=ps)) (lD (Rw 138 3 q cap (rs.map Rp.cs)) (bj (rs.map Rp.bW)))
theorem az.aB {ps:List Pg} (h:az B H (so q cap ps::L)):∃rs:List Rp,rs.map Rp.p=ps∧az B H (Rw 138 3 q cap (rs.map Rp.cs)::bj (rs.map Rp.bW)::L):=by
 obtain⟨rs,h⟩:=h.OG;obtain⟨h1,h⟩:=h.lD.Es;exact⟨rs,h1,h.lD⟩
theorem az.Je (h:az B H (Rw 138 3 q cap (rs.map Rp.cs)::bj (rs.map Rp.bW)::L)):az B H (so q cap (rs.map Rp.p)::L):=
 az.intro (A:=fun rs':List Rp=>lD (Es (rs'.map Rp.p=rs.map Rp.p)) (lD (Rw 138 3 q cap (rs'.map Rp.cs)) (bj (rs'.map Rp.bW)))) (h.u9.pure rfl).u9
def eC (id:Nat) (ps:List Pg):cq:=JX fun q=>JX fun cap=>lD (cR id 91 [.slice q ps.length cap]) (so q cap ps)
theorem az.oi {id:Nat} {ps:List Pg} (h:az B H (eC id ps::L)):∃(rs:List Rp) (q:Oq) (cap:Nat),rs.map Rp.p=ps∧az B H (cR id 91 [.slice q rs.length cap]::Rw 138 3 q cap (rs.map Rp.cs)::bj (rs.map Rp.bW)::L):=by
 obtain⟨q,h⟩:=h.OG;obtain⟨cap,h⟩:=h.OG;have h:=h.lD.swap;obtain⟨rs,rfl,h⟩:=az.aB h;have h2:=h.up 2;simp only[iS,iI,List.length_map] at h2;exact⟨rs,q,cap,rfl,h2⟩
theorem az.qz {id:Nat} (h:az B H (cR id 91 [.slice q rs.length cap]::Rw 138 3 q cap (rs.map Rp.cs)::bj (rs.map Rp.bW)::L)):az B H (eC id (rs.map Rp.p)::L):=by
 have h2:az B H (Rw 138 3 q cap (rs.map Rp.cs)::bj (rs.map Rp.bW)::cR id 91 [.slice q rs.length cap]::L):=by
  exact(h.up 1).u7 (by simp only[iS,iI];exact(List.Perm.refl _).cons _ |>.trans ((List.Perm.swap ..).cons _))
 have h3:=(az.Je h2).swap;have h4:=h3.u9;refine az.intro (A:=fun q=>JX fun cap=>lD (cR id 91 [.slice q (rs.map Rp.p).length cap]) (so q cap (rs.map Rp.p))) (x:=q) ?_;refine az.intro (A:=fun cap=>lD (cR id 91 [.slice q (rs.map Rp.p).length cap]) (so q cap (rs.map Rp.p))) (x:=cap) ?_;simpa using h4
end
def bM:List Pg→Int→Nat
 |[],_=>0
 |p::l,a=>if p.ar<a then bM l a+1 else 0
def gx (ps:List Pg) (a:Int):Bool:=ps.any fun p=>decide (p.ar=a)
structure eT (ps:List Pg):Prop where
 up:ps.Pairwise fun x y=>x.ar<y.ar
 lo:∀p∈ps,0≤p.ar∧p.ar≤65535
 dl:∀p∈ps,p.data.length≤64
theorem wZ:∀(ps:List Pg) (a:Int),bM ps a≤ps.length
 |[],_=>Nat.le_refl _
 |p::l,a=>by
  unfold bM;split
  ·have:=wZ l a;simp;omega
  ·exact Nat.zero_le _
theorem w7:∀{ps:List Pg} {a:Int} {i:Nat} (h:i<ps.length),i<bM ps a→(ps[i]).ar<a
 |p::l,a,0,_,h=>by
  unfold bM at h;split at h
  ·assumption
  ·omega
 |p::l,a,i+1,hl,h=>by
  unfold bM at h;split at h
  ·exact w7 (ps:=l) (Nat.lt_of_succ_lt_succ hl) (by omega)
  ·omega
theorem w8:∀{ps:List Pg} {a:Int} (hs:ps.Pairwise fun x y=>x.ar<y.ar) {i:Nat} (h:i<ps.length),bM ps a≤i→a≤(ps[i]).ar
 |p::l,a,hs,0,_,h=>by
  unfold bM at h;split at h
  ·omega
  ·rename_i hn;simpa using hn
 |p::l,a,hs,i+1,hl,h=>by
  obtain⟨h1,h2⟩:=List.pairwise_cons.1 hs;unfold bM at h;split at h
  ·exact w8 h2 (i:=i) (Nat.lt_of_succ_lt_succ hl) (by omega)
  ·rename_i hn;have:=h1 _ (List.getElem_mem (Nat.lt_of_succ_lt_succ hl));simp only[List.getElem_cons_succ];omega
theorem KG {ps:List Pg} {a:Int} (hs:ps.Pairwise fun x y=>x.ar<y.ar) {i:Nat} (hi:i≤ps.length) (h1:∀h:0<i,(ps[i-1]'(by omega)).ar<a) (h2:∀h:i<ps.length,a≤(ps[i]).ar):i=bM ps a:=by
 have hle:=wZ ps a;rcases Nat.lt_trichotomy i (bM ps a) with h|h|h
 ·have:=w7 (ps:=ps) (a:=a) (i:=i) (by omega) h;have:=h2 (by omega);omega
 ·exact h
 ·have:=w8 (a:=a) hs (i:=i-1) (by omega) (by omega);have:=h1 (by omega);omega
theorem ng {ps:List Pg} {a:Int} (hs:ps.Pairwise fun x y=>x.ar<y.ar):gx ps a=true↔∃h:bM ps a<ps.length,(ps[bM ps a]).ar=a:=by
 unfold gx;rw[List.any_eq_true];constructor
 ·rintro⟨p,hp,he⟩;have he:p.ar=a:=by simpa using he
  obtain⟨j,hj,rfl⟩:=List.getElem_of_mem hp
  have:bM ps a=j:=by
   rcases Nat.lt_trichotomy j (bM ps a) with h|h|h
   ·have:=w7 (ps:=ps) (a:=a) (i:=j) hj h;omega
   ·exact h.symm
   ·have h3:=w8 (a:=a) hs (i:=bM ps a) (by omega) (Nat.le_refl _);have h4:=(List.pairwise_iff_getElem.1 hs) (bM ps a) j (by omega) hj h;omega
  subst this;exact⟨hj,he⟩
 ·rintro⟨h,he⟩;exact⟨_,List.getElem_mem h,by simpa using he⟩
theorem sr {rs:List Rp} {ps:List Pg} (he:rs.map Rp.p=ps) (hs:eT ps) {a:Int} (ha: -9223372036854775808≤a∧a≤9223372036854775807) {i:Nat} (hi:Jd rs a i):sl rs a i=gx ps a∧(0≤a∧a≤1000000→i=bM ps a)∧(gx ps a=true→i=bM ps a):=by
 subst he;obtain⟨h1,h2,h3⟩:=hi;have hl:(rs.map Rp.p).length=rs.length:=List.length_map _
 have hr:∀k (hk:k<rs.length),0≤rs[k].p.ar∧rs[k].p.ar≤65535:=fun k hk=>hs.lo _ (by
  rw[List.mem_map];exact⟨_,List.getElem_mem hk,rfl⟩)
 have iU:0≤a∧a≤1000000→i=bM (rs.map Rp.p) a:=by
  intro Ad;refine KG hs.up (by omega) (fun h0=> ?_) (fun hlt=> ?_)
  ·rcases h2 with h2|h2
   ·omega
   ·rw[qy (by omega)] at h2;have:=hr (i-1) (by omega);rw[bD (by omega) (by omega)] at h2;simp only[List.getElem_map];omega
  ·rw[hl] at hlt;rcases h3 with h3|h3
   ·omega
   ·rw[qy (by omega)] at h3;have:=hr i (by omega);rw[bD (by omega) (by omega)] at h3;simp only[List.getElem_map];omega
 have Uw:gx (rs.map Rp.p) a=true→0≤a∧a≤65535:=by
  intro h;unfold gx at h;rw[List.any_eq_true] at h;obtain⟨p,hp,he⟩:=h;have he:p.ar=a:=by simpa using he
  have:=hs.lo p hp;omega
 have hiff:sl rs a i=true↔gx (rs.map Rp.p) a=true:=by
  unfold sl;constructor
  ·intro h;rw[Bool.and_eq_true] at h;have hlt:i<rs.length:=by simpa using h.1
   have h0:Dc rs a i=0:=by simpa using h.2
   rw[qy hlt] at h0;have hr':=hr i hlt
   have he:rs[i].p.ar=a:=by
    rw[IntKind.wrap_i64] at h0;omega
   unfold gx;rw[List.any_eq_true];exact⟨rs[i].p,by rw[List.mem_map];exact⟨_,List.getElem_mem hlt,rfl⟩,by simpa using he⟩
  ·intro h;obtain⟨r1,r2⟩:=Uw h;have hp:=iU ⟨r1,by omega⟩;obtain⟨g1,g2⟩:=(ng hs.up).1 h;rw[hl] at g1;have g2:(rs[bM (rs.map Rp.p) a]).p.ar=a:=by simpa using g2
   rw[hp,decide_eq_true g1,qy g1,g2];have:IntKind.i64.wrap (a-a)=0:=by rw[bD (by omega) (by omega)];omega
   rw[this];rfl
 refine⟨?_,iU,fun h=>iU ⟨(Uw h).1,by have:=(Uw h).2;omega⟩⟩;cases hf:sl rs a i<;>cases hh:gx (rs.map Rp.p) a<;>simp_all
def Pg.put (p:Pg):Pg:=⟨p.ar,if p.cd=true then [] else p.data,p.cd⟩
def iT (ps:List Pg) (p:Pg):List Pg×Int:=
 if p.ar<0∨p.ar≥65536 then (ps,1) else if p.data.length>64 then (ps,2) else
 if gx ps p.ar=true then (ps.set (bM ps p.ar) p.put,0) else if ps.length≥8 then (ps,11) else
 (ps.take (bM ps p.ar)++p.put::ps.drop (bM ps p.ar),0)
def gy (ps:List Pg) (a:Int):List Pg:=if gx ps a=true then ps.eraseIdx (bM ps a) else ps
section
variable {B:af} {L:List cq} {H:af} {K:V→af→Prop} {cap:Nat} {q:Oq} {id:Nat} {ps:List Pg}
theorem aa4 (h:az B H (eC id ps::L)):cl 53 [.aj (some (id,0))] H K=K (.int .i64 (ps.length:Int)) H:=by
 obtain⟨rs,q,cap,rfl,h2⟩:=az.oi h;have hg:=h2.get;rw[aaX];(try simp only[NQ]);have e1:Nat.ble (0+1) [V.slice q rs.length cap].length=true:=rfl;simp only[Option.isNone_some,Option.isSome_some,Option.getD_some,ai,ay,dI hg,aY hg,e1,eF,dH,bV,Bool.and_self,List.length_map]
theorem NH (h:az B H (eC id ps::L)) (hs:eT ps) (hl:ps.length≤8) (p:Pg) (ha: -9223372036854775808≤p.ar∧p.ar≤9223372036854775807) (hr:p.data.length≤64→mn H q p.data) (k:∀H',az B H' (eC id (iT ps p).1::L)→K (.int .i64 (iT ps p).2) H'):cl 112 [.aj (some (id,0)),.agg (fP p.ar q p.data.length cap p.cd)] H K:=by
 rw[Xw];(try simp only[NQ]);unfold iT at k;rw[Option.isNone_some,ai];by_cases h1:p.ar<0∨p.ar≥65536
 ·rw[if_pos h1] at k
  have e:(bif !decide (p.ar<0) then decide (p.ar≥65536) else true)=true:=by
   rcases h1 with h1|h1
   ·simp [h1]
   ·have:¬p.ar<0:=by omega
    simp [h1]
  rw[e,au];exact k H h
 ·rw[if_neg h1] at k
  have e:(bif !decide (p.ar<0) then decide (p.ar≥65536) else true)=false:=by
   have a1:¬p.ar<0:=by omega
   have a2:¬p.ar≥65536:=by omega
   simp [a1,a2]
  rw[e,ai];by_cases h2:p.data.length>64
  ·rw[if_pos h2] at k;have e2:((p.data.length:Nat):Int)>64:=by omega
   rw[decide_eq_true e2,au];exact k H h
  ·rw[if_neg h2] at k;have e2:¬((p.data.length:Nat):Int)>64:=by omega
   rw[decide_eq_false e2,ai];refine jL h (hr (by omega)) (by omega) (fun q1 c1 H1 we=> ?_);simp only[dH,ay,cy,bV,cz];refine Mz (fun S' hS=> ?_)
   obtain⟨r,hrp,hS,Ux⟩:∃r:Rp,r.p=p.put∧S'=St.mk (ab []) (ab [(3,bg.cells 138 r.cs)]) H1∧az B H1 (r.bW::eC id ps::L):=by
    rcases hS with⟨hh,rfl⟩|⟨hh,rfl⟩
    ·refine⟨⟨p.put,none,0⟩,rfl, ?_, ?_⟩
     ·unfold Rp.cs Pg.put;simp [hh]
     ·have:=jZ we.drop;unfold Rp.bW Pg.put;simpa [hh] using this
    ·refine⟨⟨p.put,q1,c1⟩,rfl, ?_, ?_⟩
     ·unfold Rp.cs Pg.put;simp [hh]
     ·unfold Rp.bW Pg.put;simpa [hh] using we
   subst hS;have hra:r.p.ar=p.ar:=by rw[hrp];rfl
   obtain⟨rs,qc,cc,rfl,hcs⟩:=az.oi Ux.swap;rw[List.length_map] at hl;have hg:=hcs.get;have hrd:=(hcs.up 1).wz;have hfx:ae r.cs 0=.int .i64 p.ar:=by rw[←hra];rfl
   have e3:fg 138 qG (some (bg.cells 138 r.cs))=true:=rfl;simp only[im,reduceIte,e3,ib,hfx,bI,Bool.or_false,ay];refine NG hg hrd (by omega) (fun i hi=> ?_);obtain⟨f1,f2,f3⟩:=sr rfl hs ha hi;have f2:=f2 ⟨by omega,by omega⟩;subst f2;rw[f1];have uC:=wZ (rs.map Rp.p) p.ar;rw[List.length_map] at uC;have e4:Nat.ble (0+1) [V.slice qc rs.length cc].length=true:=rfl;have eo:uY r.cs=r.cs:=rfl;simp only[AK,reduceIte,Nat.reduceEqDiff,Option.isSome_some,Option.getD_some,dI hg,aY hg,e4,eo];cases hf:gx (rs.map Rp.p) p.ar
   ·rw[hf,if_neg (by simp)] at k;simp only[ai];by_cases h8:rs.length≥8
    ·rw[if_pos (by simpa using h8)] at k;have e5:((rs.length:Nat):Int)≥8:=by omega
     simp only[e5,decide_true,au];refine k H1 ?_;exact(az.qz hcs).swap.drop
    ·rw[if_neg (by simpa using h8)] at k;have e5:¬((rs.length:Nat):Int)≥8:=by omega
     simp only[e5,decide_false,ai];have FQ:=(hcs.alloc 138 r.cs);generalize hH2:H1.alloc (.cells 138 r.cs false)=H2 at FQ⊢;have Y3:=FQ.up 1;simp only[iS,iI] at Y3;have HC:=Y3.get
     have fin:∀{K:V→af→Prop},(∀H',az B H' (eC id ((rs.map Rp.p).take (bM (rs.map Rp.p) p.ar)++p.put::(rs.map Rp.p).drop (bM (rs.map Rp.p) p.ar))::L)→K (.int .i64 0) H')→
      cl 137 [V.slice qc rs.length cc,V.int .i64 ((bM (rs.map Rp.p) p.ar:Nat):Int),V.slice (some (H1.next,0)) 1 1] H2 fun v H'=>
       ag (V.av bY.slice v) (ag (af.wr H' id 0 1) (K (.int .i64 0) (af.store H' id 0 [V.slice (V.ak v) (V.ao v) (V.aA v)]))):=by
      intro K hk;have Y4:=FQ.up 2;simp only[iS,iI] at Y4
      have hne:∀id' off,qc=some (id',off)→H1.next≠id':=by
       intro id' off he;subst he;obtain⟨_,_,_,⟨h',_⟩|⟨id2,off2,l2,Qj,_,_,h6⟩⟩:=(hcs.up 1).J1
       ·cases h'
       ·cases Qj;have:=hcs.ok _ _ h6.get;omega
      have Dz:=KB (i:=bM (rs.map Rp.p) p.ar) (vid:=H1.next) (e2:=138) (c:=r.cs) (K:=fun v H'=>
       ag (V.av bY.slice v) (ag (af.wr H' id 0 1) (K (.int .i64 0) (af.store H' id 0 [V.slice (V.ak v) (V.ao v) (V.aA v)])))) Y4 (fun H' h'=>h'.get) (uf rs) r.aJ (by simp;omega) (by simpa using uC) hne
       (fun q' c' H' h'=> ?_)
      ·simpa using Dz
      rw[List.length_map];simp only[dH,ay,cy,bV,cz];have h5:=h'.up 2;simp only[iS,iI] at h5;have hw:af.wr H' id 0 1=true:=by rw[fY h5.get];rfl
      rw[hw,ay];have h6:=h5.store (off:=0) (vs:=[V.slice q' (rs.length+1) c']);have e6:bL [V.slice qc rs.length cc] 0 [V.slice q' (rs.length+1) c']=[V.slice q' (rs.length+1) c']:=rfl;rw[e6] at h6;have h7:=h6.up 2;simp only[iS,iI] at h7;have ZG:=h7.drop;have h9:=(ZG.up 3);simp only[iS,iI] at h9;have hlen:(rs.take (bM (rs.map Rp.p) p.ar)++r::rs.drop (bM (rs.map Rp.p) p.ar)).length=rs.length+1:=by simp;omega
      have xf:az B (af.store H' id 0 [V.slice q' (rs.length+1) c']) (cR id 91 [V.slice q' (rs.take (bM (rs.map Rp.p) p.ar)++r::rs.drop (bM (rs.map Rp.p) p.ar)).length c']::
       Rw 138 3 q' c' ((rs.take (bM (rs.map Rp.p) p.ar)++r::rs.drop (bM (rs.map Rp.p) p.ar)).map Rp.cs)::bj ((rs.take (bM (rs.map Rp.p) p.ar)++r::rs.drop (bM (rs.map Rp.p) p.ar)).map Rp.bW)::L):=by
       rw[hlen];have BD:=(h9.up 3);simp only[iS,iI] at BD;have h12:az B _ (bj (r.bW::rs.map Rp.bW)::cR id 91 [V.slice q' (rs.length+1) c']::Rw 138 3 q' c' ((rs.map Rp.cs).take (bM (rs.map Rp.p) p.ar)++r.cs::(rs.map Rp.cs).drop (bM (rs.map Rp.p) p.ar))::L):=BD.swap.lR
       have OB:=h12.bigPerm (l':=(rs.take (bM (rs.map Rp.p) p.ar)++r::rs.drop (bM (rs.map Rp.p) p.ar)).map Rp.bW) (by
        rw[List.map_append,List.map_cons,List.map_take,List.map_drop]
        conv=>lhs;rw[←List.take_append_drop (bM (rs.map Rp.p) p.ar) (rs.map Rp.bW)]
        exact List.perm_middle.symm)
       have Um:=OB.up 1;simp only[iS,iI] at Um;have h15:=Um.u7 ((List.Perm.swap ..).cons _);rw[List.map_append,List.map_cons,List.map_take,List.map_drop];exact h15
      have YL:=az.qz xf;rw[List.map_append,List.map_cons,List.map_take,List.map_drop,hrp] at YL;exact hk _ YL
     have hI1:af.inb H2 id 0 1=true:=by rw[dI HC];rfl
     have hC1:af.cell H2 id 0=V.slice qc rs.length cc:=by rw[aY HC];rfl
     simp only[hI1,hC1,dH,cy,bV,cz,Bool.and_self,ay];exact⟨fin k,fin k⟩
   ·rw[hf,if_pos rfl] at k;obtain⟨g1,g2⟩:=(ng hs.up).1 hf;rw[List.length_map] at g1;have e5:0≤((bM (rs.map Rp.p) p.ar:Nat):Int):=by omega
    have e6:((bM (rs.map Rp.p) p.ar:Nat):Int)<(rs.length:Int):=by omega
    have hrw:=hcs.up 1;simp only[iS,iI] at hrw;obtain⟨s1,s2,s3⟩:=kC hrd g1;obtain⟨w1,w2⟩:=hrw.QO (uf rs).oD (i:=bM (rs.map Rp.p) p.ar) (by simpa using g1) (c:=r.cs) rfl (jE r.aJ);simp only[au,e5,e6,decide_true,s1,Bool.and_self,ay,Int.toNat_natCast,w1];generalize af.store H1 _ _ _=H3 at w2⊢;refine k _ ?_;have h5:=w2.up 2;simp only[iS,iI] at h5;have h6:=h5.pC (i:=bM (rs.map Rp.p) p.ar) (by simpa using g1);have h7:=h6.drop.up 3;simp only[iS,iI] at h7;have h8:=h7.QP (i:=bM (rs.map Rp.p) p.ar) (by simpa using g1)
    have h9:az B H3 (cR id 91 [V.slice qc (rs.set (bM (rs.map Rp.p) p.ar) r).length cc]::Rw 138 3 qc cc ((rs.set (bM (rs.map Rp.p) p.ar) r).map Rp.cs)::bj ((rs.set (bM (rs.map Rp.p) p.ar) r).map Rp.bW)::L):=by
     rw[List.length_set,List.map_set,List.map_set];have xf:=h8.up 2;simp only[iS,iI] at xf;exact xf.u7 ((List.Perm.swap ..).cons _)
    have BD:=az.qz h9;rw[List.map_set,hrp] at BD;exact BD
end
theorem qA {α β:Type} (f:α→β):∀(l:List α) (i:Nat),(l.eraseIdx i).map f=(l.map f).eraseIdx i
 |[],_=>rfl
 |x::l,0=>rfl
 |x::l,i+1=>by
  show f x::(l.eraseIdx i).map f=f x::(l.map f).eraseIdx i
  rw[qA f l i]
theorem NI {ps:List Pg} (h:eT ps) {p:Pg} (hh:gx ps p.ar=true) (hd:p.data.length≤64):eT (ps.set (bM ps p.ar) p):=by
 obtain⟨g1,g2⟩:=(ng h.up).1 hh;refine⟨?_, ?_, ?_⟩
 ·rw[List.pairwise_iff_getElem];intro i j hi hj hij;rw[List.length_set] at hi hj
  have key:∀k (hk:k<ps.length),((ps.set (bM ps p.ar) p)[k]'(by rw[List.length_set];exact hk)).ar=(ps[k]).ar:=by
   intro k hk;rw[List.getElem_set];split
   ·rename_i he;subst he;exact g2.symm
   ·rfl
  rw[key i hi,key j hj];exact(List.pairwise_iff_getElem.1 h.up) i j hi hj hij
 ·intro x hx;rcases List.mem_or_eq_of_mem_set hx with hx|rfl
  ·exact h.lo x hx
  ·have:=h.lo _ (List.getElem_mem g1);rw[g2] at this;exact this
 ·intro x hx;rcases List.mem_or_eq_of_mem_set hx with hx|rfl
  ·exact h.dl x hx
  ·exact hd
theorem NJ {ps:List Pg} (h:eT ps) {p:Pg} (hh:gx ps p.ar=false) (hr:0≤p.ar∧p.ar≤65535) (hd:p.data.length≤64):eT (ps.take (bM ps p.ar)++p::ps.drop (bM ps p.ar)):=by
 have hmem:∀x,x∈ps.take (bM ps p.ar)++p::ps.drop (bM ps p.ar)→x∈ps∨x=p:=by
  intro x hx;rcases List.mem_append.1 hx with hx|hx
  ·exact .inl (List.mem_of_mem_take hx)
  ·rcases List.mem_cons.1 hx with rfl|hx
   ·exact .inr rfl
   ·exact .inl (List.mem_of_mem_drop hx)
 refine⟨?_, ?_, ?_⟩
 ·have h1:(ps.take (bM ps p.ar)++ps.drop (bM ps p.ar)).Pairwise fun x y=>x.ar<y.ar:=by rw[List.take_append_drop];exact h.up
  rw[List.pairwise_append] at h1;rw[List.pairwise_append,List.pairwise_cons]
  have lo:∀x∈ps.take (bM ps p.ar),x.ar<p.ar:=by
   intro x hx;obtain⟨i,hi,rfl⟩:=List.getElem_of_mem hx;rw[List.length_take] at hi;rw[List.getElem_take];exact w7 (by omega) (by omega)
  have hi:∀x∈ps.drop (bM ps p.ar),p.ar<x.ar:=by
   intro x hx;obtain⟨i,hi,rfl⟩:=List.getElem_of_mem hx;rw[List.length_drop] at hi;rw[List.getElem_drop];have h2:=w8 (a:=p.ar) h.up (i:=bM ps p.ar+i) (by omega) (by omega)
   have h3:(ps[bM ps p.ar+i]).ar≠p.ar:=by
    intro he
    have:gx ps p.ar=true:=by
     unfold gx;rw[List.any_eq_true];exact⟨_,List.getElem_mem _,by simpa using he⟩
    rw[hh] at this;cases this
   omega
  refine⟨h1.1,⟨hi,h1.2.1⟩, ?_⟩;intro x hx y hy;rcases List.mem_cons.1 hy with rfl|hy
  ·exact lo x hx
  ·exact h1.2.2 x hx y hy
 ·intro x hx;rcases hmem x hx with hx|rfl
  ·exact h.lo x hx
  ·exact hr
 ·intro x hx;rcases hmem x hx with hx|rfl
  ·exact h.dl x hx
  ·exact hd
theorem Fh {ps:List Pg} (h:eT ps) (p:Pg):eT (iT ps p).1:=by
 unfold iT;split
 ·exact h
 ·split
  ·exact h
  ·have hd:p.put.data.length≤64:=by
    unfold Pg.put;simp only[];split
    ·simp
    ·omega
   have ha:p.put.ar=p.ar:=rfl;split
   ·rename_i hh;exact NI (p:=p.put) h hh hd
   ·split
    ·exact h
    ·rename_i hh _;exact NJ (p:=p.put) h (by rw[ha];simpa using hh) (by rw[ha];omega) hd
theorem Jf {ps:List Pg} (hl:ps.length≤8) (p:Pg):(iT ps p).1.length≤8:=by
 unfold iT;split
 ·exact hl
 ·split
  ·exact hl
  ·split
   ·simpa using hl
   ·split
    ·exact hl
    ·have:=wZ ps p.ar;simp;omega
theorem vr {ps:List Pg} (h:eT ps) (a:Int):eT (gy ps a):=by
 unfold gy;split
 ·refine⟨h.up.sublist (List.eraseIdx_sublist _ _),fun x hx=>h.lo x (List.mem_of_mem_eraseIdx hx),fun x hx=>h.dl x (List.mem_of_mem_eraseIdx hx)⟩
 ·exact h
theorem NK {ps:List Pg} (hl:ps.length≤8) (a:Int):(gy ps a).length≤8:=by
 unfold gy;split
 ·rw[List.length_eraseIdx];split<;>omega
 ·exact hl
section
variable {B:af} {L:List cq} {H:af} {K:V→af→Prop} {cap:Nat} {q:Oq} {id:Nat} {ps:List Pg} {a:Int}
theorem zg {rs:List Rp} (h:az B H (bj (rs.map Rp.bW)::L)) {i:Nat} (hi:i<rs.length):mn H rs[i].q rs[i].p.data:=by
 have h1:=h.pC (i:=i) (by simpa using hi);rw[List.getElem_map] at h1;exact h1.iY
theorem TD (h:az B H (eC id ps::L)) (hs:eT ps) (hl:ps.length≤8) (ha: -9223372036854775808≤a∧a≤9223372036854775807) (kn:gx ps a=false→∀H',az B H' (eC id ps::L)→K (.tuple [.agg (fP 0 none 0 0 false),.bool false]) H') (ky:∀(hp:bM ps a<ps.length) q' c' H',gx ps a=true→(ps[bM ps a]).ar=a→az B H' (BY q' c' (ps[bM ps a]).data::eC id ps::L)→K (.tuple [.agg (fP a q' (ps[bM ps a]).data.length c' (ps[bM ps a]).cd),.bool true]) H'):cl 79 [.aj (some (id,0)),.int .i64 a] H K:=by
 rw[aaU];(try simp only[NQ]);rw[Option.isNone_some,ai];obtain⟨rs,qc,cc,rfl,hcs⟩:=az.oi h;rw[List.length_map] at hl;have hg:=hcs.get;have hrd:=(hcs.up 1).wz;refine NG hg hrd (by omega) (fun i hi=> ?_);obtain⟨f1,f2,f3⟩:=sr rfl hs ha hi;rw[f1];cases hf:gx (rs.map Rp.p) a
 ·simp only[AK,reduceIte,Nat.reduceEqDiff,Option.isSome_some];exact kn hf H h
 ·have f3:=f3 hf;subst f3;obtain⟨g1,g2⟩:=(ng hs.up).1 hf;have g3:=g1;rw[List.length_map] at g3;have e4:Nat.ble (0+1) [V.slice qc rs.length cc].length=true:=rfl;have e5:0≤((bM (rs.map Rp.p) a:Nat):Int):=by omega
  have e6:((bM (rs.map Rp.p) a:Nat):Int)<(rs.length:Int):=by omega
  obtain⟨s1,s2,s3⟩:=kC hrd g3;have n0:ae (rs[bM (rs.map Rp.p) a]).cs 0=.int .i64 (rs[bM (rs.map Rp.p) a]).p.ar:=rfl;have n1:ae (rs[bM (rs.map Rp.p) a]).cs 1=.slice (rs[bM (rs.map Rp.p) a]).q (rs[bM (rs.map Rp.p) a]).p.data.length (rs[bM (rs.map Rp.p) a]).c:=rfl;have n2:ae (rs[bM (rs.map Rp.p) a]).cs 2=.bool (rs[bM (rs.map Rp.p) a]).p.cd:=rfl;simp only[AK,reduceIte,Nat.reduceEqDiff,Option.isSome_some,Option.getD_some,dI hg,aY hg,e4,e5,e6,Int.toNat_natCast,s1,s2,s3,Rp.aJ,n0,n1,n2];have abz:=zg (hcs.up 2) g3;have Qn:=hs.dl _ (List.getElem_mem g1);simp only[List.getElem_map] at g2 Qn ky;refine jL h abz (by omega) (fun q' c' H' h'=> ?_);simp only[dH,ay,cy,bV,cz,g2];exact ky g1 q' c' H' hf g2 h'
theorem Jg (h:az B H (eC id ps::L)) (hs:eT ps) (hl:ps.length≤8) (ha: -9223372036854775808≤a∧a≤9223372036854775807) (k:∀H',az B H' (eC id (gy ps a)::L)→K (.tuple []) H'):cl 92 [.aj (some (id,0)),.int .i64 a] H K:=by
 rw[aaW];(try simp only[NQ]);rw[Option.isNone_some,ai];obtain⟨rs,qc,cc,rfl,hcs⟩:=az.oi h;rw[List.length_map] at hl;have hg:=hcs.get;have hrd:=(hcs.up 1).wz;unfold gy at k;refine NG hg hrd (by omega) (fun i hi=> ?_);obtain⟨f1,f2,f3⟩:=sr rfl hs ha hi;rw[f1];cases hf:gx (rs.map Rp.p) a
 ·rw[hf,if_neg (by simp)] at k;simp only[AK,reduceIte,Nat.reduceEqDiff,Option.isSome_some];exact k H h
 ·rw[hf,if_pos rfl] at k;have f3:=f3 hf;subst f3;obtain⟨g1,g2⟩:=(ng hs.up).1 hf;have g3:=g1;rw[List.length_map] at g3;have e4:Nat.ble (0+1) [V.slice qc rs.length cc].length=true:=rfl;simp only[AK,reduceIte,Nat.reduceEqDiff,Option.isSome_some,Option.getD_some,dI hg,aY hg,e4];rw[bD (by omega) (by omega)];have hrw:=hcs.up 1;simp only[iS,iI] at hrw;have Dv:=KC (i:=bM (rs.map Rp.p) a) (K:=fun v H'=>ag (V.av bY.slice v) (ag (af.wr H' id 0 1) (K (.tuple []) (af.store H' id 0 [V.slice (V.ak v) (V.ao v) (V.aA v)])))) hrw (uf rs) (by simp;omega) (by simpa using g3) (fun H' h'=> ?_)
  ·have e9:(((bM (rs.map Rp.p) a:Nat):Int)+1)=((bM (rs.map Rp.p) a+1:Nat):Int):=by omega
   rw[e9];simpa using Dv
  ·rw[List.length_map];simp only[dH,ay,cy,bV,cz];have h5:=h'.up 1;simp only[iS,iI] at h5;have hw:af.wr H' id 0 1=true:=by rw[fY h5.get];rfl
   rw[hw,ay];have h6:=h5.store (off:=0) (vs:=[V.slice qc (rs.length-1) cc]);have e6:bL [V.slice qc rs.length cc] 0 [V.slice qc (rs.length-1) cc]=[V.slice qc (rs.length-1) cc]:=rfl;rw[e6] at h6;generalize af.store H' _ _ _=H3 at h6⊢;have h7:=h6.up 2;simp only[iS,iI] at h7;have h8:=(h7.pC (i:=bM (rs.map Rp.p) a) (by simpa using g3)).drop
   have h9:az B H3 (cR id 91 [V.slice qc (rs.eraseIdx (bM (rs.map Rp.p) a)).length cc]::Rw 138 3 qc cc ((rs.eraseIdx (bM (rs.map Rp.p) a)).map Rp.cs)::bj ((rs.eraseIdx (bM (rs.map Rp.p) a)).map Rp.bW)::L):=by
    rw[List.length_eraseIdx,if_pos g3,qA,qA];exact(h8.up 1).u7 ((List.Perm.swap ..).cons _)
   have xf:=az.qz h9;rw[qA] at xf;exact k _ xf
theorem NL {rs:List Rp} (hb:rs.length≤8) (Qn:∀r∈rs,r.p.data.length≤64) {qc:Oq} {cc:Nat} {Kr:Am.St→Prop} {Ke:Nat→Am.St→Prop}:∀(n i:Nat) (os:List Rp) {q:Oq} {cap:Nat} {H:af},i+n=rs.length→os.map Rp.p=(rs.map Rp.p).take i→az B H (Rw 138 3 q cap (os.map Rp.cs)::bj (os.map Rp.bW)::Rw 138 3 qc cc (rs.map Rp.cs)::bj (rs.map Rp.bW)::L)→(∀(os':List Rp) q' c' H',os'.map Rp.p=rs.map Rp.p→az B H' (Rw 138 3 q' c' (os'.map Rp.cs)::bj (os'.map Rp.bW)::Rw 138 3 qc cc (rs.map Rp.cs)::bj (rs.map Rp.bW)::L)→Ke 0 (St.mk (ab [(3,T.v (V.slice q' rs.length c'))]) (ab []) H'))→lo 90 5 (St.mk (ab [(3,T.v (V.slice q os.length cap)),(11,T.v (V.slice qc rs.length cc)),(12,T.v (V.int .i64 (rs.length:Int))),(13,T.v (V.int .i64 (i:Int)))]) (ab []) H) Kr Ke
 |0,i,os,q,cap,H,hi,ho,h,k=>by
  obtain rfl:i=rs.length:=by omega
  have ZD:os.length=rs.length:=by have:=congrArg List.length ho;simpa using this
  rw[Ms];(try simp only[NQ]);have e1:¬(rs.length:Int)<(rs.length:Int):=by omega
  rw[decide_eq_false e1,ai,ZD];exact k os _ _ _ (by rw[ho,List.take_of_length_le (by simp)]) h
 |n+1,i,os,q,cap,H,hi,ho,h,k=>by
  have hlt:i<rs.length:=by omega
  have ZD:os.length=i:=by have:=congrArg List.length ho;simp at this;omega
  have hrd:=(h.up 2).wz;obtain⟨s1,s2,s3⟩:=kC hrd hlt;have e5:0≤(i:Int):=by omega
  have e6:(i:Int)<(rs.length:Int):=by omega
  have n0:ae (rs[i]).cs 0=.int .i64 (rs[i]).p.ar:=rfl;have n1:ae (rs[i]).cs 1=.slice (rs[i]).q (rs[i]).p.data.length (rs[i]).c:=rfl;have n2:ae (rs[i]).cs 2=.bool (rs[i]).p.cd:=rfl;rw[Ms];(try simp only[NQ]);simp only[e5,e6,decide_true,au,Int.toNat_natCast,s1,s2,s3,Rp.aJ,n0,n1,n2,bI,cn,cy,bV,cz,Bool.and_self,ay];refine jL h (zg (h.up 3) hlt) (by have:=Qn _ (List.getElem_mem hlt);omega) (fun q' c' H' h'=> ?_);simp only[dH,ay,cy,bV,cz];have h1:=h'.up 1;simp only[iS,iI] at h1
  have Ol:=h1.CA (t:=89) (u:=89) wY Da Db rfl (by omega) (uf os).oD (e2:=138) (c:=fP (rs[i]).p.ar q' (rs[i]).p.data.length c' (rs[i]).p.cd) rfl
   (jE (f137 _ _ _ _ _)) (by simp;omega) (K:=fun q n c H'=>
   lo 90 5
   (St.mk (ab [(3,T.v (V.slice q n c)),(11,T.v (V.slice qc rs.length cc)),(12,T.v (V.int .i64 (rs.length:Int))),(13,T.v (V.int .i64 (IntKind.i64.wrap ((i:Int)+1))))]) (ab []) H') Kr Ke) (fun q2 c2 H2 h2=> ?_)
  ·simpa using Ol
  ·rw[aQ (by omega),List.length_map];have h3:=h2.up 1;simp only[iS,iI] at h3;have h4:=h3.up 2;simp only[iS,iI] at h4
   have h5:az B H2 (Rw 138 3 q2 c2 ((os++[(⟨(rs[i]).p,q',c'⟩:Rp)]).map Rp.cs)::bj ((os++[(⟨(rs[i]).p,q',c'⟩:Rp)]).map Rp.bW)::Rw 138 3 qc cc (rs.map Rp.cs)::bj (rs.map Rp.bW)::L):=by
    have h6:az B H2 (bj ((⟨(rs[i]).p,q',c'⟩:Rp).bW::os.map Rp.bW)::Rw 138 3 q2 c2 (os.map Rp.cs++[(⟨(rs[i]).p,q',c'⟩:Rp).cs])::Rw 138 3 qc cc (rs.map Rp.cs)::bj (rs.map Rp.bW)::L):=h4.swap.lR
    have h7:=h6.bigPerm (l':=(os++[(⟨(rs[i]).p,q',c'⟩:Rp)]).map Rp.bW) (by
     rw[List.map_append]
     exact(List.perm_append_comm (l₁:=[_])))
    rw[List.map_append (f:=Rp.cs)];exact h7.swap
   have h8:=NL (Kr:=Kr) hb Qn n (i+1) (os++[(⟨(rs[i]).p,q',c'⟩:Rp)]) (by omega) (by
    rw[List.map_append,ho,List.take_succ_eq_append_getElem (by simpa using hlt)]
    simp) h5 k
   simpa using h8
theorem TE (h:az B H (eC id ps::L)) (hs:eT ps) (hl:ps.length≤8) (k:∀q' c' H',az B H' (so q' c' ps::eC id ps::L)→K (.slice q' ps.length c') H'):cl 90 [.aj (some (id,0))] H K:=by
 rw[aaV];(try simp only[NQ]);rw[Option.isNone_some];obtain⟨rs,qc,cc,rfl,hcs⟩:=az.oi h;rw[List.length_map] at hl;have hg:=hcs.get;have e4:Nat.ble (0+1) [V.slice qc rs.length cc].length=true:=rfl;simp only[Bool.not_false,au,Option.isSome_some,Option.getD_some,dI hg,aY hg,e4,eF,dH,cy,bV,cz,Bool.and_self,ay];have h1:=hcs.up 2;simp only[iS,iI] at h1;have h2:=h1.up 2;simp only[iS,iI] at h2;have h3:az B H (Rw 138 3 none 0 (([]:List Rp).map Rp.cs)::bj (([]:List Rp).map Rp.bW)::Rw 138 3 qc cc (rs.map Rp.cs)::bj (rs.map Rp.bW)::cR id 91 [V.slice qc rs.length cc]::L):=h2.pB.rwNil _ _;refine NL (Kr:=fun _=>False) (by omega) (fun r hr=>hs.dl _ (List.mem_map.2 ⟨r,hr,rfl⟩)) rs.length 0 [] (by omega) rfl h3 (fun os q' c' H' ho h'=> ?_);have h4:=az.Je h';rw[ho] at h4;have h5:=h4.up 3;simp only[iS,iI] at h5;have h6:az B H' (cR id 91 [V.slice qc rs.length cc]::Rw 138 3 qc cc (rs.map Rp.cs)::bj (rs.map Rp.bW)::so q' c' (rs.map Rp.p)::L):=h5.u7 (((List.Perm.swap ..).trans ((List.Perm.swap ..).cons _)).cons _);have h7:=(az.qz h6).swap;have:=k q' c' H' h7;simpa [AK,reduceIte,Nat.reduceEqDiff] using this
end
structure R where
 k:Nat→Int
 ty:Int
 ho:Int
 ge:Int
 la:Bool
def R.cs (r:R):List V:=cQ (r.k 0) (r.k 1) (r.k 2) (r.k 3) (r.k 4) (r.k 5) (r.k 6) (r.k 7) r.ty r.ho r.ge r.la
theorem R.zh (r:R):cQ (r.k 0) (r.k 1) (r.k 2) (r.k 3) (r.k 4) (r.k 5) (r.k 6) (r.k 7) r.ty r.ho r.ge r.la=r.cs:=rfl
theorem R.Bj (k:Nat→Int) (ty ho ge:Int) (la:Bool):cQ (k 0) (k 1) (k 2) (k 3) (k 4) (k 5) (k 6) (k 7) ty ho ge la=R.cs ⟨k,ty,ho,ge,la⟩:=rfl
@[simp] theorem R.dX (r:R):aJ qn r.cs=true:=rfl
@[simp] theorem R.eU (r:R):nQ r.cs=r.cs:=rfl
theorem R.NM {r s:R} (hk:∀i,i<8→r.k i=s.k i) (h1:r.ty=s.ty) (h2:r.ho=s.ho) (h3:r.ge=s.ge) (h4:r.la=s.la):r.cs=s.cs:=by
 unfold R.cs;rw[hk 0 (by omega),hk 1 (by omega),hk 2 (by omega),hk 3 (by omega),hk 4 (by omega),hk 5 (by omega),hk 6 (by omega),hk 7 (by omega),h1,h2,h3,h4]
theorem R.Dd (r s:R):fj r.cs s.cs=true↔(∀i,i<8→r.k i=s.k i)∧r.ty=s.ty∧r.ho=s.ho∧r.ge=s.ge∧r.la=s.la:=by
 have e:fj r.cs s.cs=(decide (r.k 0=s.k 0)&&(decide (r.k 1=s.k 1)&&(decide (r.k 2=s.k 2)&&(decide (r.k 3=s.k 3)&&(decide (r.k 4=s.k 4)&&(decide (r.k 5=s.k 5)&&(decide (r.k 6=s.k 6)&&
  (decide (r.k 7=s.k 7)&&(decide (r.ty=s.ty)&&(decide (r.ho=s.ho)&&(decide (r.ge=s.ge)&&(decide (r.la=s.la)||false)))))))))))):=by kernel_rfl
 rw[e];simp only[Bool.and_eq_true,decide_eq_true_eq,Bool.or_false];constructor
 ·rintro⟨a0,a1,a2,a3,a4,a5,a6,a7,b1,b2,b3,b4⟩;refine⟨fun i hi=> ?_,b1,b2,b3,b4⟩;have h:i=0∨i=1∨i=2∨i=3∨i=4∨i=5∨i=6∨i=7:=by omega
  rcases h with rfl|rfl|rfl|rfl|rfl|rfl|rfl|rfl<;>assumption
 ·rintro⟨hk,b1,b2,b3,b4⟩;exact⟨hk 0 (by omega),hk 1 (by omega),hk 2 (by omega),hk 3 (by omega),hk 4 (by omega),hk 5 (by omega),hk 6 (by omega),hk 7 (by omega),b1,b2,b3,b4⟩
theorem R.eq_self (r:R):fj r.cs r.cs=true:=(R.Dd r r).2 ⟨fun _ _=>rfl,rfl,rfl,rfl,rfl⟩
theorem R.vt (r s:R):fj r.cs s.cs=true↔r.cs=s.cs:=by
 constructor
 ·intro h;obtain⟨a,b,c,d,e⟩:=(R.Dd r s).1 h;exact R.NM a b c d e
 ·intro h;rw[h];exact R.eq_self s
def cg (k:Nat→Int) (i:Nat) (x:Int):Nat→Int:=fun j=>if j=i then x else k j
theorem NN {k:Nat→Int} {i:Nat} {x:Int}:cg k i x i=x:=by simp [cg]
theorem Hm {k:Nat→Int} {i j:Nat} {x:Int} (h:j≠i):cg k i x j=k j:=by simp [cg,h]
theorem w9 (r:R) {i:Nat} (hi:i<8) (x ty ho ge:Int) (la:Bool):cQ (bif Nat.beq 0 i then x else r.k 0) (bif Nat.beq 1 i then x else r.k 1) (bif Nat.beq 2 i then x else r.k 2) (bif Nat.beq 3 i then x else r.k 3) (bif Nat.beq 4 i then x else r.k 4) (bif Nat.beq 5 i then x else r.k 5) (bif Nat.beq 6 i then x else r.k 6) (bif Nat.beq 7 i then x else r.k 7) (V.aa (cS (Nat.beq 8 i) (V.int .u32 x) (V.int .u8 ty))) (V.aa (cS (Nat.beq 9 i) (V.int .u32 x) (V.int .i64 ho))) (bif Nat.beq 10 i then x else ge) (V.ax (cS (Nat.beq 11 i) (V.int .u32 x) (V.bool la)))=R.cs ⟨cg r.k i x,ty,ho,ge,la⟩:=by
 have h:i=0∨i=1∨i=2∨i=3∨i=4∨i=5∨i=6∨i=7:=by omega
 rcases h with rfl|rfl|rfl|rfl|rfl|rfl|rfl|rfl<;>rfl
theorem nX (x ty ho:Int) (la:Bool) {i:Nat} (hi:i<8):(Nat.ble (i+1) 12&&(V.av (.int .u8) (cS (Nat.beq 8 i) (V.int .u32 x) (V.int .u8 ty))&&(V.av (.int .i64) (cS (Nat.beq 9 i) (V.int .u32 x) (V.int .i64 ho))&&(V.av .bool (cS (Nat.beq 11 i) (V.int .u32 x) (V.bool la))&&true))))=true:=by
 have h:i=0∨i=1∨i=2∨i=3∨i=4∨i=5∨i=6∨i=7:=by omega
 rcases h with rfl|rfl|rfl|rfl|rfl|rfl|rfl|rfl<;>rfl
theorem ug (r:R) {i:Nat} (hi:i<8):ae (cQ (r.k 0) (r.k 1) (r.k 2) (r.k 3) (r.k 4) (r.k 5) (r.k 6) (r.k 7) r.ty r.ho r.ge r.la) i=.int .u32 (r.k i):=by
 have h:i=0∨i=1∨i=2∨i=3∨i=4∨i=5∨i=6∨i=7:=by omega
 rcases h with rfl|rfl|rfl|rfl|rfl|rfl|rfl|rfl<;>rfl
theorem zi (r:R) {i:Nat} (hi:i<8):ae r.cs i=.int .u32 (r.k i):=ug r hi
def uh (t:Int):Bool:=decide (t=7)||decide (t=8)
def Q2 (h:Int):Bool:=decide (0≤h)&&decide (h<8)
def key (r:R) (h:Int):Int:=r.k h.toNat
def holds (r:R) (h:Int):Bool:=Q2 h&& !decide (r.ty=0)&&(decide (r.ho=h)||uh r.ty&& !decide (key r h=0))
def xb (r:R) (h:Int) (w:Bool):Bool:=
 Q2 h&&(decide (r.ty=0)||holds r h||
  (if r.ty=1 then !w else if r.ty=3 then false else if r.ty=5∨r.ty=7 then !w|| !decide (key r h=0) else !decide (key r h=0)))
def right (t:Int):Bool:=decide (t=1)||decide (t=3)||decide (t=5)||decide (t=6)||decide (t=7)||decide (t=8)
def Bl (r:R):R:=⟨r.k,0, -1,r.ge,r.la⟩
def wa (r:R) (h t:Int):R:=⟨r.k,t,if uh t then-1 else h,r.ge,r.la⟩
def zj (k:Nat→Int):Bool:=
 decide (k 0=0)&&(decide (k 1=0)&&(decide (k 2=0)&&(decide (k 3=0)&&(decide (k 4=0)&&(decide (k 5=0)&&(decide (k 6=0)&&(decide (k 7=0)||false)))))))
def jr (r:R) (h:Int):R:=
 let s:R:=⟨cg r.k h.toNat 0,r.ty,r.ho,r.ge,r.la⟩
 if r.ho=h∨zj s.k=true then Bl s else s
def kD (r:R) (h new:Int) (la:Bool):R:=
 let s:R:=⟨r.k,r.ty,r.ho,IntKind.u32.wrap (r.ge+1),la⟩
 if new=0 then jr s h else ⟨cg s.k h.toNat new,s.ty,s.ho,s.ge,s.la⟩
section
variable (H:af) (K:V→af→Prop)
theorem Hn (t:Int):cl 139 [.int .u8 t] H K=K (.bool (uh t)) H:=by
 rw[Xu];(try simp only[NQ]);unfold uh;by_cases h:t=7<;>simp [h]<;>exact Iff.rfl
theorem Jh:cl 38 [] H K=K (.agg (R.cs ⟨fun _=>0,0, -1,0,false⟩)) H:=by
 rw[aaQ];(try simp only[NQ]);rfl
theorem NO:cl 134 [] H K=K (.agg (mM 1 3 5 6 7 8)) H:=by
 rw[Xs];(try simp only[NQ])
theorem Df (r:R):cl 116 [.agg r.cs] H K=K (.agg (Bl r).cs) H:=by
 unfold R.cs;rw[Xq];(try simp only[NQ]);rfl
theorem Ji (r:R) (h t:Int):cl 115 [.agg r.cs,.int .i64 h,.int .u8 t] H K=K (.agg (wa r h t).cs) H:=by
 unfold R.cs;rw[Xp];(try simp only[NQ]);simp only[Hn,gS,ay,cn];unfold wa;cases uh t<;>rfl
theorem nh (t:Int) (i:Nat) (hi:i<6) (Kr:St→Prop) (Ke:Nat→St→Prop):lo 109 2 (St.mk (ab [(0,T.v (V.int .u8 t)),(5,T.v (V.agg (mM 1 3 5 6 7 8))),(6,T.v (V.int .i64 i))]) (ab []) H) Kr Ke=if V.aa (ae (mM 1 3 5 6 7 8) i)=t then Kr (St.mk (ab [(2,T.v (V.bool true))]) (ab []) H) else lo 109 2 (St.mk (ab [(0,T.v (V.int .u8 t)),(5,T.v (V.agg (mM 1 3 5 6 7 8))),(6,T.v (V.int .i64 (i+1:Nat)))]) (ab []) H) Kr Ke:=by
 have h:i=0∨i=1∨i=2∨i=3∨i=4∨i=5:=by omega
 have e1:decide ((i:Int)<6)=true:=by simp;omega
 have e2:decide (0≤(i:Int))=true:=by simp
 have e3:Nat.ble (Nat.succ ((i:Int).toNat*1)) 6=true:=by simp;omega
 have e4:V.av (.int .u8) (ae (mM 1 3 5 6 7 8) i)=true:=by rcases h with rfl|rfl|rfl|rfl|rfl|rfl<;>rfl
 have e5:(i:Int).toNat*1=i:=by simp
 rw[Ij];(try simp only[NQ]);rw[aQ (by omega)];have e6:i≤5:=by omega
 simp [e1,e4,e6,Ct]<;>exact Iff.rfl
theorem Dg (t:Int) (Kr:St→Prop) (Ke:Nat→St→Prop):lo 109 2 (St.mk (ab [(0,T.v (V.int .u8 t)),(5,T.v (V.agg (mM 1 3 5 6 7 8))),(6,T.v (V.int .i64 (6:Nat)))]) (ab []) H) Kr Ke=Ke 0 (St.mk (ab []) (ab []) H):=by
 rw[Ij];(try simp only[NQ]);rfl
theorem Fi (t:Int):cl 109 [.int .u8 t] H K=K (.bool (right t)) H:=by
 rw[Xl];(try simp only[NQ]);rw[NO];change lo _ _ (St.mk (ab [(0,T.v (V.int .u8 t)),(5,T.v (V.agg (mM 1 3 5 6 7 8))),(6,T.v (V.int .i64 (0:Nat)))]) (ab []) H) _ _=_
 rw[nh H t 0 (by omega),nh H t 1 (by omega),nh H t 2 (by omega),nh H t 3 (by omega),nh H t 4 (by omega),nh H t 5 (by omega),Dg];unfold right
 change (if (1:Int)=t then K (V.bool true) H else if (3:Int)=t then K (V.bool true) H else if (5:Int)=t then K (V.bool true) H else if (6:Int)=t then K (V.bool true) H else
  if (7:Int)=t then K (V.bool true) H else if (8:Int)=t then K (V.bool true) H else K (V.bool false) H)=_
 repeat' split
 all_goals first|(subst_vars;rfl)|skip
 have h1:¬t=1:=by omega
 have h2:¬t=3:=by omega
 have h3:¬t=5:=by omega
 have h4:¬t=6:=by omega
 have h5:¬t=7:=by omega
 have h6:¬t=8:=by omega
 simp [h1,h2,h3,h4,h5,h6]<;>exact Iff.rfl
theorem Q3 {h:Int} (h0:0≤h) (h8:h<8):Q2 h=true:=by simp [Q2,h0,h8]
theorem TF {h:Int}:0+h.toNat*1=h.toNat:=by omega
theorem Fj (r:R) (h:Int):cl 114 [.agg r.cs,.int .i64 h] H K=K (.bool (holds r h)) H:=by
 unfold R.cs;rw[Xo];(try simp only[NQ]);simp only[Hn,TF];by_cases hr:0≤h∧h<8
 ·obtain⟨h0,h8⟩:=hr;have e1:¬h<0:=by omega
  have e2:¬h≥8:=by omega
  have e3:h≤11:=by omega
  have e4:h.toNat<8:=by omega
  rw[ug r e4];unfold holds key;rw[Q3 h0 h8];by_cases ht:r.ty=0
  ·simp [e1,e2,ht]<;>exact Iff.rfl
  ·by_cases hh:r.ho=h
   ·simp [e1,e2,h0,h8,ht,hh]<;>exact Iff.rfl
   ·cases ha:uh r.ty<;>simp [e1,e2,h0,h8,ht,hh,e3]<;>exact Iff.rfl
 ·have e:(bif !decide (h<0) then bif !decide (h≥8) then decide (r.ty=0) else true else true)=true:=by
   by_cases h0:h<0
   ·simp [h0]<;>exact Iff.rfl
   ·have:h≥8:=by omega
    simp [this]<;>exact Iff.rfl
  rw[e,au]
  have:Q2 h=false:=by
   unfold Q2;by_cases h0:0≤h
   ·have:¬h<8:=fun h8=>hr ⟨h0,h8⟩
    simp [this]<;>exact Iff.rfl
   ·simp [h0]<;>exact Iff.rfl
  simp [holds,this]<;>exact Iff.rfl
theorem TG {h:Int} (hr:¬(0≤h∧h<8)):Q2 h=false:=by
 unfold Q2;by_cases h0:0≤h
 ·have:¬h<8:=fun h8=>hr ⟨h0,h8⟩
  simp [this]
 ·simp [h0]
theorem Ho (r:R) (h:Int) (w:Bool):cl 110 [.agg r.cs,.int .i64 h,.bool w] H K=K (.bool (xb r h w)) H:=by
 unfold R.cs;rw[Xm];(try simp only[NQ]);simp only[R.zh,Fj,TF];unfold xb key;by_cases hr:0≤h∧h<8
 ·rw[Q3 hr.1 hr.2];obtain⟨h0,h8⟩:=hr;have e1:¬h<0:=by omega
  have e2:¬h≥8:=by omega
  have e3:h≤11:=by omega
  have e4:h.toNat<8:=by omega
  rw[zi r e4];by_cases ht:r.ty=0
  ·simp [e1,e2,ht]<;>exact Iff.rfl
  ·cases hh:holds r h
   ·by_cases t1:r.ty=1
    ·simp [e1,e2,t1]<;>exact Iff.rfl
    ·by_cases t3:r.ty=3
     ·simp [e1,e2,t3]<;>exact Iff.rfl
     ·by_cases t5:r.ty=5
      ·cases w<;>simp [e1,e2,e3,h0,h8,t5,aR]<;>exact Iff.rfl
      ·by_cases t7:r.ty=7
       ·cases w<;>simp [e1,e2,e3,h0,h8,t7,aR]<;>exact Iff.rfl
       ·simp [e1,e2,e3,h0,h8,ht,t1,t3,t5,t7]<;>exact Iff.rfl
   ·simp [e1,e2,ht]<;>exact Iff.rfl
 ·rw[TG hr];by_cases h0:h<0
  ·simp [h0]<;>exact Iff.rfl
  ·have:h≥8:=by omega
   simp [this]<;>exact Iff.rfl
theorem Zl (r:R) (i:Nat) (hi:i<8) (Kr:St→Prop) (Ke:Nat→St→Prop):lo 86 2 (St.mk (ab [(1,T.lp 1 0),(3,T.v (V.int .i64 i))]) (ab [(1,bg.cells 46 r.cs)]) H) Kr Ke=if r.k i=0 then lo 86 2 (St.mk (ab [(1,T.lp 1 0),(3,T.v (V.int .i64 (i+1:Nat)))]) (ab [(1,bg.cells 46 r.cs)]) H) Kr Ke else Kr (St.mk (ab [(2,T.v (V.bool true))]) (ab []) H):=by
 unfold R.cs;rw[S8];(try simp only[NQ]);rw[aQ (by omega),TF,Int.toNat_natCast,ug r hi];have e1:(i:Int)<8:=by omega
 have e2:i≤11:=by omega
 by_cases h:r.k i=0<;>simp [e1,e2,h]<;>exact Iff.rfl
theorem NP (r:R) (h:Int) (h0:0≤h) (h8:h<8):cl 138 [.agg r.cs,.int .i64 h] H K=K (.agg (jr r h).cs) H:=by
 unfold R.cs;rw[Xt];(try simp only[NQ]);have e4:h.toNat<8:=by omega
 simp only[TF,nX _ _ _ _ e4,w9 r e4]
 have e9:V.aa (cS (Nat.beq 9 h.toNat) (V.int .u32 0) (V.int .i64 r.ho))=r.ho:=by
  have:9≠h.toNat:=by omega
  simp [this]<;>exact Iff.rfl
 have en:∀j,(bif Nat.beq j h.toNat then 0 else r.k j)=cg r.k h.toNat 0 j:=by
  intro j;unfold cg;by_cases hj:j=h.toNat<;>simp [hj]<;>exact Iff.rfl
 rw[e9,en,en,en,en,en,en,en,en]
 have hn:fj (vV (cg r.k h.toNat 0 0) (cg r.k h.toNat 0 1) (cg r.k h.toNat 0 2) (cg r.k h.toNat 0 3) (cg r.k h.toNat 0 4) (cg r.k h.toNat 0 5) (cg r.k h.toNat 0 6) (cg r.k h.toNat 0 7))
  (vV 0 0 0 0 0 0 0 0)=zj (cg r.k h.toNat 0):=by kernel_rfl
 rw[hn];simp only[Df,h0,h8,decide_true,Bool.and_self,ay];unfold jr;by_cases hh:r.ho=h
 ·simp [hh]<;>exact Iff.rfl
 ·cases hn:zj (cg r.k h.toNat 0)<;>simp [hh,hn]<;>exact Iff.rfl
structure Cm where
 kd:Int
 oj:Int
 dp:Oq
 dn:Nat
 dc:Nat
 su:Bool
 ky:Int
 nw:Int
 ty:Int
 la:Bool
def Cm.cs (c:Cm):List V:=nP c.kd c.oj c.dp c.dn c.dc c.su c.ky c.nw c.ty c.la
theorem Cm.zh (c:Cm):nP c.kd c.oj c.dp c.dn c.dc c.su c.ky c.nw c.ty c.la=c.cs:=rfl
@[simp] theorem Cm.dX (c:Cm):aJ Vj c.cs=true:=rfl
@[simp] theorem Cm.eU (c:Cm):Zd c.cs=c.cs:=rfl
theorem Fk (r:R) (h:Int) (c:Cm) (h0:0≤h) (h8:h<8):cl 113 [.agg r.cs,.int .i64 h,.agg c.cs] H K=K (.agg (kD r h c.nw c.la).cs) H:=by
 unfold R.cs Cm.cs;rw[Xn];(try simp only[NQ]);have e4:h.toNat<8:=by omega
 simp only[TF,nX _ _ _ _ e4,w9 r e4,R.Bj,NP _ _ _ _ h0 h8];unfold kD;by_cases hn:c.nw=0
 ·simp [hn]
 ·simp [hn,h0,h8]
def Hq (r:R) (h new:Int) (i:Nat):Bool:= !decide (r.k i=0)&&(!decide ((i:Int)=h)&&(decide (new=0)||decide (r.k i=new)))
def Fl (r:R) (h new:Int):Nat→Bool
 |0=>false
 |i+1=>Fl r h new i||Hq r h new i
def Q4 (r:R) (h new:Int) (b:Bool):Nat→Bool
 |0=>b
 |i+1=>Q4 r h new b i||(Hq r h new i&&decide (r.ho=i))
def kV (r:R) (h new:Int):Nat→Nat→Int
 |0=>r.k
 |i+1=>if Hq r h new i=true then cg (kV r h new i) i 0 else kV r h new i
def Ls (r:R) (h:Int) (c:Cm) (v ho:Bool) (k:Nat→Int) (i:Int):St:=
 St.mk (ab [(1,T.v (V.int .i64 h)),(3,T.lp 3 0),(5,T.lp 5 0),(6,T.lp 6 0),(8,T.v (V.bool v)),(9,T.v (V.bool ho)),(10,T.lp 10 0),
  (48,T.v (V.agg (vV (r.k 0) (r.k 1) (r.k 2) (r.k 3) (r.k 4) (r.k 5) (r.k 6) (r.k 7)))),(49,T.v (V.int .i64 i))])
   (ab [(3,bg.cells 46 r.cs),(5,bg.cells 41 c.cs),(6,bg.cells 46 (cQ 0 0 0 0 0 0 0 0 0 0 0 false)),
    (10,bg.cells 46 (R.cs ⟨k,r.ty,r.ho,r.ge,r.la⟩))]) H
theorem zk (k:Nat→Int) {i:Nat} (hi:i<8):ae (vV (k 0) (k 1) (k 2) (k 3) (k 4) (k 5) (k 6) (k 7)) i=.int .u32 (k i):=by
 have h:i=0∨i=1∨i=2∨i=3∨i=4∨i=5∨i=6∨i=7:=by omega
 rcases h with rfl|rfl|rfl|rfl|rfl|rfl|rfl|rfl<;>rfl
theorem Hr (r:R) (h:Int) (c:Cm) (v ho:Bool) (k:Nat→Int) (i:Nat) (hi:i<8) (Kr:St→Prop) (Ke:Nat→St→Prop):lo 117 8 (Ls H r h c v ho k i) Kr Ke=lo 117 8 (Ls H r h c (v||Hq r h c.nw i) (ho||(Hq r h c.nw i&&decide (r.ho=i))) (if Hq r h c.nw i=true then cg k i 0 else k) (i+1:Nat)) Kr Ke:=by
 have e1:decide ((i:Int)<8)=true:=by simp;omega
 have e2:decide (0≤(i:Int))=true:=by simp
 have e3:Int.toNat (i:Int)*1=i:=by simp
 have e5:0+i=i:=by omega
 have e6:Nat.ble (Nat.succ i) 8=true:=by simp;omega
 have hst:=nX 0 r.ty r.ho r.la hi;have hsk:=w9 ⟨k,r.ty,r.ho,r.ge,r.la⟩ hi 0 r.ty r.ho r.ge r.la
 conv=>lhs;unfold Ls R.cs Cm.cs
 rw[Ik];(try simp only[NQ]);rw[aQ (by omega)];simp only[e1,e2,e3,e5,e6,zk r.k hi,hst,hsk,dW,bI,au,ay,Bool.and_self];unfold Hq;generalize decide (r.k i=0)=b1;generalize decide ((i:Int)=h)=b2;generalize decide (c.nw=0)=b3;generalize decide (r.k i=c.nw)=b4;generalize decide (r.ho=(i:Int))=b5;cases b1
 ·cases b2
  ·cases b3<;>cases b4<;>cases v<;>cases ho<;>cases b5<;>rfl
  ·cases v<;>cases ho<;>rfl
 ·cases v<;>cases ho<;>rfl
theorem zl (r:R) (h:Int) (c:Cm) (v ho:Bool) (k:Nat→Int) (Kr:St→Prop) (Ke:Nat→St→Prop):lo 117 8 (Ls H r h c v ho k (8:Nat)) Kr Ke=Ke 0 (St.mk (ab [(1,T.v (V.int .i64 h)),(3,T.lp 3 0),(5,T.lp 5 0),(6,T.lp 6 0),(8,T.v (V.bool v)),(9,T.v (V.bool ho)),(10,T.lp 10 0)]) (ab [(3,bg.cells 46 r.cs),(5,bg.cells 41 c.cs),(6,bg.cells 46 (cQ 0 0 0 0 0 0 0 0 0 0 0 false)),(10,bg.cells 46 (R.cs ⟨k,r.ty,r.ho,r.ge,r.la⟩))]) H):=by
 conv=>lhs;unfold Ls R.cs Cm.cs
 rw[Ik];(try simp only[NQ]);rfl
def jR (r:R) (h new ty:Int):R×Int:=
 if (decide (new=0)&& !uh r.ty)=true then (r,1) else
 let b:=decide (new=0)||(decide (new=r.k h.toNat)&&(!decide (r.ty=0)&&decide (r.ho=h)))
 let ho:=Q4 r h new b 8
 if (!Fl r h new 8&& !ho)=true then (r,13) else
 let s:R:=⟨kV r h new 8,r.ty,r.ho,IntKind.u32.wrap (r.ge+1),r.la⟩
 if ho=true then (wa (Bl s) h ty,0) else (s,0)
theorem Hs (r:R) (h:Int) (c:Cm) (h0:0≤h) (h8:h<8):cl 117 [.agg r.cs,.int .i64 h,.agg c.cs] H K=K (.tuple [.agg (jR r h c.nw c.ty).1.cs,.int .i64 (jR r h c.nw c.ty).2]) H:=by
 conv=>lhs;unfold R.cs Cm.cs
 rw[Xr];(try simp only[NQ]);have e4:h.toNat<8:=by omega
 have e6:Nat.succ h.toNat≤12:=by omega
 have hb:(bif !decide (c.nw=0) then decide (c.nw=r.k h.toNat)&&(!decide (r.ty=0)&&decide (r.ho=h)) else true)=
  (decide (c.nw=0)||(decide (c.nw=r.k h.toNat)&&(!decide (r.ty=0)&&decide (r.ho=h)))):=by
  cases decide (c.nw=0)<;>rfl
 have hm:aR (!decide (c.nw=0)) true true=true:=rfl;simp only[AK,reduceIte,Nat.reduceEqDiff,R.zh,Cm.zh,Hn,TF,zi r e4,h0,h8,e6,hb,hm];unfold jR;generalize (decide (c.nw=0)||(decide (c.nw=r.k h.toNat)&&(!decide (r.ty=0)&&decide (r.ho=h))))=b
 have run:∀(Kr:St→Prop) (Ke:Nat→St→Prop),lo 117 8 (Ls H r h c false b r.k 0) Kr Ke=
  lo 117 8 (Ls H r h c (Fl r h c.nw 8) (Q4 r h c.nw b 8) (kV r h c.nw 8) (8:Nat)) Kr Ke:=by
  intro Kr Ke
  have step (i:Nat) (hi:i<8):lo 117 8 (Ls H r h c (Fl r h c.nw i) (Q4 r h c.nw b i) (kV r h c.nw i) i) Kr Ke=
   lo 117 8 (Ls H r h c (Fl r h c.nw (i+1)) (Q4 r h c.nw b (i+1)) (kV r h c.nw (i+1)) (i+1:Nat)) Kr Ke:=
   Hr H r h c _ _ _ i hi Kr Ke
  exact(step 0 (by omega)).trans ((step 1 (by omega)).trans ((step 2 (by omega)).trans ((step 3 (by omega)).trans ((step 4 (by omega)).trans ((step 5 (by omega)).trans ((step 6 (by omega)).trans (step 7 (by omega))))))))
 have hs:Ls H r h c false b r.k 0=Ls H r h c false b r.k 0:=rfl
 conv at hs=>lhs;unfold Ls
 have hc (k:Nat→Int) (ge:Int):cQ (V.aa (ae (R.cs ⟨k,r.ty,r.ho,r.ge,r.la⟩) 0)) (V.aa (ae (R.cs ⟨k,r.ty,r.ho,r.ge,r.la⟩) 1)) (V.aa (ae (R.cs ⟨k,r.ty,r.ho,r.ge,r.la⟩) 2))
  (V.aa (ae (R.cs ⟨k,r.ty,r.ho,r.ge,r.la⟩) 3)) (V.aa (ae (R.cs ⟨k,r.ty,r.ho,r.ge,r.la⟩) 4)) (V.aa (ae (R.cs ⟨k,r.ty,r.ho,r.ge,r.la⟩) 5)) (V.aa (ae (R.cs ⟨k,r.ty,r.ho,r.ge,r.la⟩) 6))
  (V.aa (ae (R.cs ⟨k,r.ty,r.ho,r.ge,r.la⟩) 7)) (V.aa (ae (R.cs ⟨k,r.ty,r.ho,r.ge,r.la⟩) 8)) (V.aa (ae (R.cs ⟨k,r.ty,r.ho,r.ge,r.la⟩) 9)) ge (V.ax (ae (R.cs ⟨k,r.ty,r.ho,r.ge,r.la⟩) 11))=
  R.cs ⟨k,r.ty,r.ho,ge,r.la⟩:=rfl
 have hg (k:Nat→Int):V.aa (ae (R.cs ⟨k,r.ty,r.ho,r.ge,r.la⟩) 10)=r.ge:=rfl;have ht:V.aa (ae c.cs 6)=c.ty:=rfl;have hz:aJ qn (cQ 0 0 0 0 0 0 0 0 0 0 0 false)=true:=rfl;rw[hs,run,zl];simp only[AK,reduceIte,Nat.reduceEqDiff,R.dX,Cm.dX,R.eU,hz,hc,hg,ht,Df,Ji,Ct]
 grind
def doR (r:R) (h:Int) (c:Cm):R×Int:=
 if (decide (h<0)||(decide (h≥8)||(decide (c.kd<4)||decide (c.kd>8))))=true then (r,1) else
 if ((decide (c.kd=5)||(decide (c.kd=6)||decide (c.kd=8)))&& !right c.ty)=true then (r,1) else
 if (!decide (key r h=c.ky)||(decide (c.ky=0)&& !decide (c.kd=4)))=true then (r,13) else
 if decide (c.kd=4)=true then (kD r h c.nw c.la,0) else
 if decide (c.kd=5)=true then
  if (!decide (r.ty=0)&&(!holds r h|| !decide (r.ty=c.ty)))=true then (r,13) else
  if decide (r.ty=0)=true then (wa r h c.ty,0) else (r,0) else
 if decide (c.kd=6)=true then
  if (!holds r h)=true then (r,0) else
  if (!decide (r.ty=c.ty))=true then (r,1) else (Bl r,0) else
 if decide (c.kd=7)=true then (⟨fun _=>0,0, -1,IntKind.u32.wrap (r.ge+1),r.la⟩,0) else
 jR r h c.nw c.ty
theorem XU (r:R) (h:Int) (c:Cm):cl 81 [.agg r.cs,.int .i64 h,.agg c.cs] H K=K (.tuple [.agg (doR r h c).1.cs,.int .i64 (doR r h c).2]) H:=by
 conv=>lhs;unfold R.cs Cm.cs
 rw[aaR];(try simp only[NQ]);by_cases hr:0≤h∧h<8
 ·obtain⟨h0,h8⟩:=hr;have e4:h.toNat<8:=by omega
  have e6:Nat.succ h.toNat≤12:=by omega
  have hz (ge:Int) (la:Bool):cQ 0 0 0 0 0 0 0 0 0 (-1) ge la=R.cs ⟨fun _=>0,0, -1,ge,la⟩:=rfl;simp only[AK,reduceIte,Nat.reduceEqDiff,R.zh,Cm.zh,Fi,Fj,Ji,Df,Fk _ _ _ _ _ h0 h8,Hs _ _ _ _ _ h0 h8,TF,zi r e4,R.dX,R.eU,hz,h0,h8,e6,Ct];unfold doR key
  grind
 ·have e:(bif !decide (h<0) then bif !decide (h≥8) then bif !decide (c.kd<4) then decide (c.kd>8) else true else true else true)=true:=by
   by_cases h0:h<0
   ·simp [h0]
   ·have:h≥8:=by omega
    simp [this]
  rw[e,au]
  have e':(decide (h<0)||(decide (h≥8)||(decide (c.kd<4)||decide (c.kd>8))))=true:=by
   by_cases h0:h<0
   ·simp [h0]
   ·have:h≥8:=by omega
    simp [this]
  unfold doR;rw[if_pos e'];rfl
end
theorem Cm.Bj (kd oj:Int) (dp:Oq) (dn dc:Nat) (su:Bool) (ky nw ty:Int) (la:Bool):nP kd oj dp dn dc su ky nw ty la=Cm.cs ⟨kd,oj,dp,dn,dc,su,ky,nw,ty,la⟩:=rfl
structure F5 (r:R):Prop where
 ty:r.ty=0∨right r.ty=true
 none:r.ty=0→r.ho= -1
 all:uh r.ty=true→r.ho= -1
 one:r.ty≠0→uh r.ty=false→∃i:Nat,i<8∧r.ho=i∧r.k i≠0
 some:r.ty≠0→∃i:Nat,i<8∧r.k i≠0
theorem TH:F5 ⟨fun _=>0,0, -1,0,false⟩:=⟨.inl rfl,fun _=>rfl,fun _=>rfl,fun h=>absurd rfl h,fun h=>absurd rfl h⟩
theorem Ht {k:Nat→Int}:zj k=true↔∀i,i<8→k i=0:=by
 unfold zj;simp only[Bool.and_eq_true,Bool.or_false,decide_eq_true_eq];constructor
 ·rintro⟨h0,h1,h2,h3,h4,h5,h6,h7⟩ i hi;have h:i=0∨i=1∨i=2∨i=3∨i=4∨i=5∨i=6∨i=7:=by omega
  rcases h with rfl|rfl|rfl|rfl|rfl|rfl|rfl|rfl<;>assumption
 ·intro h;exact⟨h 0 (by omega),h 1 (by omega),h 2 (by omega),h 3 (by omega),h 4 (by omega),h 5 (by omega),h 6 (by omega),h 7 (by omega)⟩
theorem ui (r:R) (h new:Int):∀n j,kV r h new n j=if j<n∧Hq r h new j=true then 0 else r.k j
 |0,j=>by simp [kV]
 |n+1,j=>by
  have ih:=ui r h new n j;unfold kV;by_cases hv:Hq r h new n=true
  ·rw[if_pos hv];by_cases hj:j=n
   ·subst hj;rw[NN,if_pos ⟨by omega,hv⟩]
   ·rw[Hm hj,ih];by_cases hl:j<n<;>by_cases hw:Hq r h new j=true<;>simp [hl,hw]<;>omega
  ·rw[if_neg hv,ih];by_cases hj:j=n
   ·subst hj;simp [hv]
   ·by_cases hl:j<n<;>by_cases hw:Hq r h new j=true<;>simp [hl,hw]<;>omega
theorem NR (r:R) (h new:Int):∀n,Fl r h new n=true↔∃j,j<n∧Hq r h new j=true
 |0=>by simp [Fl]
 |n+1=>by
  unfold Fl;rw[Bool.or_eq_true,NR r h new n];constructor
  ·rintro(⟨j,h1,h2⟩|h)
   ·exact⟨j,by omega,h2⟩
   ·exact⟨n,by omega,h⟩
  ·rintro⟨j,h1,h2⟩;by_cases hj:j=n
   ·subst hj;exact .inr h2
   ·exact .inl ⟨j,by omega,h2⟩
theorem Jj (r:R) (h new:Int) (b:Bool):∀n,Q4 r h new b n=true↔b=true∨∃j:Nat,j<n∧Hq r h new j=true∧r.ho=j
 |0=>by simp [Q4]
 |n+1=>by
  unfold Q4;rw[Bool.or_eq_true,Jj r h new b n,Bool.and_eq_true,decide_eq_true_eq];constructor
  ·rintro((h|⟨j,h1,h2,h3⟩)|h)
   ·exact .inl h
   ·exact .inr ⟨j,by omega,h2,h3⟩
   ·exact .inr ⟨n,by omega,h.1,h.2⟩
  ·rintro(h|⟨j,h1,h2,h3⟩)
   ·exact .inl (.inl h)
   ·by_cases hj:j=n
    ·subst hj;exact .inr ⟨h2,h3⟩
    ·exact .inl (.inr ⟨j,by omega,h2,h3⟩)
theorem PR {r:R} {h new:Int} {i:Nat}:Hq r h new i=true↔r.k i≠0∧(i:Int)≠h∧(new=0∨r.k i=new):=by
 unfold Hq;simp [Bool.and_eq_true]
theorem vu {t:Int}:right t=true↔t=1∨t=3∨t=5∨t=6∨t=7∨t=8:=by
 unfold right;simp [or_assoc]
theorem Fm {r:R} {h t:Int} (h0:0≤h) (h8:h<8) (hk:r.k h.toNat≠0) (ht:right t=true):F5 (wa r h t):=by
 rw[vu] at ht;refine⟨.inr (vu.2 ht),fun hz=> ?_,fun ha=> ?_,fun _ ha=> ?_,fun _=>⟨h.toNat,by omega,hk⟩⟩
 ·simp only[wa] at hz;omega
 ·simp only[wa] at ha⊢;rw[if_pos ha]
 ·simp only[wa] at ha⊢;rw[if_neg (by simp [ha])];exact⟨h.toNat,by omega,by omega,hk⟩
theorem Fo {r:R}:F5 (Bl r):=⟨.inl rfl,fun _=>rfl,fun _=>rfl,fun h=>absurd rfl h,fun h=>absurd rfl h⟩
theorem KH {r:R} (hr:F5 r) {h:Int} (h0:0≤h) (h8:h<8):F5 (jr r h):=by
 unfold jr;simp only[];split
 ·exact Fo
 ·rename_i hn;rw[not_or] at hn;refine⟨hr.ty,hr.none,hr.all,fun h1 h2=> ?_,fun h1=> ?_⟩
  ·obtain⟨i,hi,e,hk⟩:=hr.one h1 h2;refine⟨i,hi,e, ?_⟩;have:i≠h.toNat:=by intro e2;exact hn.1 (by rw[e,e2];omega)
   simpa [Hm this] using hk
  ·have:=hn.2;rw[Ht] at this;simp only[Classical.not_forall] at this;obtain⟨i,hi,hk⟩:=this;exact⟨i,hi,hk⟩
theorem Dh {r:R} (hr:F5 r) {h new:Int} (h0:0≤h) (h8:h<8) (la:Bool):F5 (kD r h new la):=by
 unfold kD;simp only[];split
 ·have h2:F5 ⟨r.k,r.ty,r.ho,IntKind.u32.wrap (r.ge+1),la⟩:=⟨hr.ty,hr.none,hr.all,hr.one,hr.some⟩;exact KH h2 h0 h8
 ·rename_i hn;refine⟨hr.ty,hr.none,hr.all,fun h1 h2=> ?_,fun h1=> ?_⟩
  ·obtain⟨i,hi,e,hk⟩:=hr.one h1 h2;refine⟨i,hi,e, ?_⟩;simp only[cg];split
   ·exact hn
   ·exact hk
  ·exact⟨h.toNat,by omega,by simp only[NN];exact hn⟩
theorem Fp {r:R} (hr:F5 r) {h new ty:Int} (h0:0≤h) (h8:h<8) (hk:r.k h.toNat≠0) (ht:right ty=true):F5 (jR r h new ty).1:=by
 unfold jR;simp only[]
 have zw:kV r h new 8 h.toNat=r.k h.toNat:=by
  rw[ui,if_neg];rintro⟨_,hv⟩;rw[PR] at hv;exact hv.2.1 (by omega)
 split
 ·exact hr
 ·split
  ·exact hr
  ·split
   ·exact Fm h0 h8 (by simpa [Bl,zw] using hk) ht
   ·rename_i hn;rw[Jj] at hn;refine⟨hr.ty,hr.none,hr.all,fun h1 h2=> ?_,fun h1=>⟨h.toNat,by omega,by simpa [zw] using hk⟩⟩;obtain⟨i,hi,e,hki⟩:=hr.one h1 h2;refine⟨i,hi,e, ?_⟩;simp only[ui];rw[if_neg]
    ·exact hki
    ·rintro⟨_,hv⟩;exact hn (.inr ⟨i,hi,hv,e⟩)
theorem TJ {r:R} (hr:F5 r) (h:Int) (c:Cm):F5 (doR r h c).1:=by
 unfold doR;split
 ·exact hr
 rename_i hv;simp only[Bool.or_eq_true,decide_eq_true_eq,not_or] at hv;have h0:0≤h:=by omega
 have h8:h<8:=by omega
 split
 ·exact hr
 rename_i ht;split
 ·exact hr
 rename_i hk;split
 ·exact Dh hr h0 h8 _
 rename_i h4
 have hk':r.k h.toNat≠0:=by
  unfold key at hk
  grind
 have ZB:(c.kd=5∨c.kd=6∨c.kd=8)→right c.ty=true:=by
  intro hc;simp only[Bool.and_eq_true,Bool.or_eq_true,decide_eq_true_eq,Bool.not_eq_true',not_and,Bool.not_eq_false] at ht;exact ht hc
 split
 ·rename_i h5;split
  ·exact hr
  ·split
   ·exact Fm h0 h8 hk' (ZB (.inl (by simpa using h5)))
   ·exact hr
 split
 ·split
  ·exact hr
  ·split
   ·exact hr
   ·exact Fo
 split
 ·exact⟨.inl rfl,fun _=>rfl,fun _=>rfl,fun h=>absurd rfl h,fun h=>absurd rfl h⟩
 ·rename_i h5 h6 h7;simp only[decide_eq_true_eq] at h4 h5 h6 h7;exact Fp hr h0 h8 hk' (ZB (.inr (.inr (by omega))))
def R.zero:R:=⟨fun _=>0,0,0,0,false⟩
def R.gX:R:=⟨fun _=>0,0, -1,0,false⟩
theorem PT:cQ 0 0 0 0 0 0 0 0 0 (-1) 0 false=R.gX.cs:=rfl
structure Ob where
 su:List (List UInt8)
 ps:List Pg
 r:R
def wt (p:Pg):Int×List UInt8:=(p.ar,p.data)
theorem KI {α:Type} (key:α→Int) (a:Int) {l l':List α} (h:l.Perm l'):(l.map key).Nodup→l.find? (fun x=>decide (key x=a))=l'.find? (fun x=>decide (key x=a)):=by
 induction h with
 |nil=>exact fun _=>rfl
 |cons x _ ih=>
  intro hn;rw[List.map_cons,List.nodup_cons] at hn;simp only[List.find?_cons,ih hn.2]
 |swap x y l=>
  intro hn;rw[List.map_cons,List.map_cons,List.nodup_cons] at hn;have hne:key y≠key x:=fun h=>hn.1 (by simp [h])
  simp only[List.find?_cons];by_cases h1:key y=a
  ·have h2:key x≠a:=fun h=>hne (by omega)
   simp [h1,h2]
  ·by_cases h2:key x=a<;>simp [h1,h2]
 |trans h1 _ ih1 ih2=>
  intro hn;rw[ih1 hn,ih2 ((h1.map key).nodup_iff.1 hn)]
def vv (ps:List Pg) (a:Int):Option (List UInt8):=(ps.find? fun p=>decide (p.ar=a)).map Pg.data
theorem Hu {ps:List Pg} (h:eT ps):(ps.map Pg.ar).Nodup:=by
 rw[List.Nodup,List.pairwise_map];exact h.up.imp fun h=>by omega
theorem KJ {ps ps':List Pg} (h:ps.Perm ps') (hn:(ps.map Pg.ar).Nodup) (a:Int):vv ps a=vv ps' a:=by
 unfold vv;rw[KI Pg.ar a h hn]
theorem Bm {ps:List Pg} {a:Int}:vv ps a=none↔gx ps a=false:=by
 unfold vv gx;rw[Option.map_eq_none_iff,List.find?_eq_none,List.any_eq_false]
theorem KK {ps:List Pg} (hs:eT ps) {a:Int} (hh:gx ps a=true) (hp:bM ps a<ps.length):vv ps a=some (ps[bM ps a]).data:=by
 obtain⟨_,he⟩:=(ng hs.up).1 hh;have h1:=KJ (yx hp) (Hu hs) a;rw[h1];unfold vv;simp [he]
theorem Fq {ps:List Pg} (hs:ps.Pairwise fun x y=>x.ar<y.ar) (a:Int):gy ps a=ps.filter fun p=> !decide (p.ar=a):=by
 induction ps with
 |nil=>rfl
 |cons p l ih=>
  obtain⟨h1,h2⟩:=List.pairwise_cons.1 hs;have ih:=ih h2;by_cases hlt:p.ar<a
  ·have hne:¬p.ar=a:=by omega
   have e1:bM (p::l) a=bM l a+1:=by rw[bM,if_pos hlt]
   have e2:gx (p::l) a=gx l a:=by unfold gx;simp [hne]
   rw[List.filter_cons];simp only[hne,decide_false,Bool.not_false,if_true];rw[←ih];unfold gy;rw[e1,e2];split<;>simp
  ·have e1:bM (p::l) a=0:=by rw[bM,if_neg hlt]
   have hl:l.filter (fun p=> !decide (p.ar=a))=l:=by
    rw[List.filter_eq_self];intro x hx;have:=h1 x hx;have:¬x.ar=a:=by omega
    simp [this]
   by_cases he:p.ar=a
   ·have e2:gx (p::l) a=true:=by unfold gx;simp [he]
    unfold gy;rw[e1,e2,if_pos rfl,List.filter_cons];simp [he,hl]
   ·have e2:gx (p::l) a=false:=by
     unfold gx;rw[List.any_eq_false];intro x hx;rcases List.mem_cons.1 hx with rfl|hx
     ·simpa using he
     ·have:=h1 x hx;have:¬x.ar=a:=by omega
      simpa using this
    unfold gy;rw[e2,if_neg (by simp),List.filter_cons];simp [he,hl]
def eD (su:List (List UInt8)) (ps:List Pg):List (List UInt8):=ps.foldl (fun s p=>s.set p.ar.toNat p.data) su
theorem dN:∀(ps:List Pg) (su:List (List UInt8)),(eD su ps).length=su.length
 |[],_=>rfl
 |p::ps,su=>by
  show (eD (su.set p.ar.toNat p.data) ps).length=su.length
  rw[dN ps,List.length_set]
theorem KL {p:Pg} {ps:List Pg} (hs:eT (p::ps)):eT ps:=⟨(List.pairwise_cons.1 hs.up).2,fun x hx=>hs.lo x (List.mem_cons_of_mem _ hx),fun x hx=>hs.dl x (List.mem_cons_of_mem _ hx)⟩
def XV (o:Ob) (a:Int):List UInt8:=if 0≤a∧a<o.su.length then (vv o.ps a).getD (o.su.getD a.toNat []) else []
def mf (o:Ob):Ob:=⟨eD o.su o.ps,[],o.r⟩
def tJ (o:Ob) (p:Pg) (sure:Bool):Ob:=
 if sure=true then ⟨o.su.set p.ar.toNat p.data,gy o.ps p.ar,o.r⟩ else
 if (iT o.ps p).2=11 then ⟨eD o.su o.ps,(iT [] p).1,o.r⟩ else ⟨o.su,(iT o.ps p).1,o.r⟩
def ri (r:R) (power:Bool):R:=if power=true then if r.la=true then ⟨r.k,r.ty,r.ho,0,r.la⟩ else R.gX else r
def wb (o:Ob) (power:Bool):Ob:=⟨o.su,[],ri o.r power⟩
def uj (h:Int) (c:Cm) (n:Nat):Bool:=
 decide (0≤h)&&decide (h<8)&&decide (c.kd≤9)&&(!(decide (c.kd=0)||decide (c.kd=1)||decide (c.kd=2))||decide (0≤c.oj)&&decide (c.oj<n))&&(!decide (c.kd=1)||decide (c.dn≤64))
def UL (r:R) (h:Int) (c:Cm):Bool:=
 if c.kd=0 then xb r h false else if c.kd=1∨c.kd=2∨c.kd=3 then xb r h true else true
structure Rs where
 e:Int
 d:List UInt8
 r:R
def KM (o:Ob) (h:Int) (c:Cm) (bW:List UInt8):Ob×Rs:=
 if uj h c o.su.length=false then (o,⟨1,[],R.zero⟩) else
 if UL o.r h c=false then (o,⟨13,[],R.zero⟩) else
 if c.kd=0 then (o,⟨0,XV o c.oj,R.zero⟩) else
 if c.kd=1 then (tJ o ⟨c.oj,bW,false⟩ c.su,⟨0,[],R.zero⟩) else
 if c.kd=2 then (tJ o ⟨c.oj,[],true⟩ c.su,⟨0,[],R.zero⟩) else
 if c.kd=3 then (mf o,⟨0,[],R.zero⟩) else
 if c.kd=9 then (o,⟨0,[],o.r⟩) else
 (⟨o.su,o.ps,(doR o.r h c).1⟩,⟨(doR o.r h c).2,[],R.zero⟩)
structure Ob.ok (o:Ob):Prop where
 n1:1≤o.su.length
 n2:o.su.length≤65536
 dl:∀b∈o.su,b.length≤64
 jS:eT o.ps
 F6:o.ps.length≤8
 inr:∀p∈o.ps,p.ar<o.su.length
 wG:F5 o.r
theorem qB:eT []:=⟨.nil,nofun,nofun⟩
theorem vx:∀(ps:List Pg) (su:List (List UInt8)),(∀b∈su,b.length≤64)→(∀p∈ps,p.data.length≤64)→∀b∈eD su ps,b.length≤64
 |[],su,h,_=>h
 |p::ps,su,h,hp=>by
  refine vx ps (su.set p.ar.toNat p.data) (fun b hb=> ?_) (fun x hx=>hp x (List.mem_cons_of_mem _ hx));rcases List.mem_or_eq_of_mem_set hb with hb|rfl
  ·exact h b hb
  ·exact hp p (List.mem_cons_self ..)
theorem zm {o:Ob} (h:o.ok):(mf o).ok:=
 ⟨by unfold mf;rw[dN];exact h.n1,by unfold mf;rw[dN];exact h.n2,vx _ _ h.dl h.jS.dl,qB,by simp [mf],nofun,h.wG⟩
theorem NS {r:R} (h:F5 r) (power:Bool):F5 (ri r power):=by
 unfold ri;split
 ·split
  ·exact⟨h.ty,h.none,h.all,h.one,h.some⟩
  ·exact TH
 ·exact h
theorem Di {o:Ob} (h:o.ok) (power:Bool):(wb o power).ok:=⟨h.n1,h.n2,h.dl,qB,by simp [wb],nofun,NS h.wG power⟩
theorem PU {ps:List Pg} (hl:ps.length≤8) {p:Pg} (h0:0≤p.ar) (h1:p.ar≤65535) (hd:p.data.length≤64):(iT ps p).2=if gx ps p.ar=false∧ps.length≥8 then 11 else 0:=by
 unfold iT;rw[if_neg (by omega),if_neg (by omega)];cases gx ps p.ar
 ·simp only[Bool.false_eq_true,if_false,true_and];split<;>rfl
 ·simp
theorem Dj {ps:List Pg} (hs:eT ps) {p x:Pg} (hx:x∈(iT ps p).1):x∈ps∨x=p.put:=by
 unfold iT at hx;split at hx
 ·exact .inl hx
 ·split at hx
  ·exact .inl hx
  ·split at hx
   ·exact List.mem_or_eq_of_mem_set hx
   ·split at hx
    ·exact .inl hx
    ·rcases List.mem_append.1 hx with hx|hx
     ·exact .inl (List.mem_of_mem_take hx)
     ·rcases List.mem_cons.1 hx with hx|hx
      ·exact .inr hx
      ·exact .inl (List.mem_of_mem_drop hx)
theorem Fs {ps:List Pg} {a:Int} {x:Pg} (hx:x∈gy ps a):x∈ps:=by
 unfold gy at hx;split at hx
 ·exact List.mem_of_mem_eraseIdx hx
 ·exact hx
theorem TK {o:Ob} (h:o.ok) {p:Pg} (h0:0≤p.ar) (h1:p.ar<o.su.length) (hd:p.data.length≤64) (sure:Bool):(tJ o p sure).ok:=by
 have hn:=h.n2;unfold tJ;split
 ·refine⟨by simpa using h.n1,by simpa using hn,fun b hb=> ?_,vr h.jS _,NK h.F6 _,fun x hx=>by simpa using h.inr x (Fs hx),h.wG⟩;rcases List.mem_or_eq_of_mem_set hb with hb|rfl
  ·exact h.dl b hb
  ·exact hd
 ·split
  ·have hf:=zm h;refine⟨hf.n1,hf.n2,hf.dl,Fh qB p,Jf (by simp) p,fun x hx=> ?_,h.wG⟩;rcases Dj qB hx with hx|rfl
   ·cases hx
   ·show p.ar<((eD o.su o.ps).length:Int)
    rw[dN];exact h1
  ·refine⟨h.n1,hn,h.dl,Fh h.jS p,Jf h.F6 p,fun x hx=> ?_,h.wG⟩;rcases Dj h.jS hx with hx|rfl
   ·exact h.inr x hx
   ·exact h1
def Dk (n:Nat):Ob:=⟨List.replicate n [],[],R.gX⟩
theorem TM {n:Nat} (h1:1≤n) (h2:n≤65536):(Dk n).ok:=
 ⟨by simpa [Dk] using h1,by simpa [Dk] using h2,fun b hb=>by have:=(List.mem_replicate.1 hb).2;simp [this],qB,by simp [Dk],nofun,TH⟩
theorem nS {H:af} {q:Oq} {css:List (List V)} {n:Nat} (hr:Rd H q css.flatten) (hu:pA n css) {i k:Nat} (hi:i<css.length) (hk:k<n):q.isSome=true∧H.inb (q.getD (0,0)).1 ((q.getD (0,0)).2+i*n+k) 1=true∧H.cell (q.getD (0,0)).1 ((q.getD (0,0)).2+i*n+k)=ae css[i] k:=by
 have hlen:css.flatten.length=css.length*n:=cB hu
 have hle:i*n+n≤css.length*n:=by
  have:=Nat.mul_le_mul_right n (show i+1≤css.length by omega);rw[Nat.add_mul] at this;omega
 have hne:css.flatten≠[]:=by
  intro e;rw[e] at hlen;simp at hlen;omega
 refine⟨hr.some hne, ?_, ?_⟩
 ·have:=hr.inb (i:=i*n+k) (k:=1) (by omega) hne;rwa [←Nat.add_assoc] at this
 ·have h1:=hr.cell (i:=i*n+k) (by omega);rw[←Nat.add_assoc] at h1;rw[h1];have zH:(css.flatten.drop (i*n)).take n=css[i]:=Iq hu hi;rw[ku,ku, ←zH];simp only[List.getD_eq_getElem?_getD,List.getElem?_take,List.getElem?_drop,if_pos hk]
structure Sr where
 q:Oq
 c:Nat
 bs:List UInt8
section
variable {B:af} {L:List cq} {H:af} {K:V→af→Prop} {id z9:Nat} {o:Ob} {q:Oq} {c n:Nat} {rs:List Sr} {r:R} {ps:List Pg}
theorem KN {p:Pg} {ps:List Pg} (hs:eT (p::ps)):gy (p::ps) p.ar=ps:=by
 rw[Fq hs.up,List.filter_cons];simp only[decide_true,Bool.not_true,Bool.false_eq_true,if_false];rw[List.filter_eq_self];intro x hx;have:=(List.pairwise_cons.1 hs.up).1 x hx;have:¬x.ar=p.ar:=by omega
 simp [this]
theorem KO (h:az B H L):az B (H.alloc (.cells 91 [.slice none 0 0] false)) (eC H.next []::L):=by
 have h1:=h.alloc 91 [V.slice none 0 0];have h2:az B (H.alloc (.cells 91 [.slice none 0 0] false)) (Rw 138 3 none 0 (([]:List Rp).map Rp.cs)::bj (([]:List Rp).map Rp.bW)::cR H.next 91 [V.slice none 0 0]::L):=h1.pB.rwNil _ _;have h3:=h2.up 2;simp only[iS,iI] at h3;exact az.qz (rs:=[]) h3
theorem NT (x:Int) (c:Cm) (n:Int):cl 77 [.int .i64 x,.agg c.cs,.int .i64 n] H K=K (.bool (decide (0≤x)&&(decide (x<8)&&(decide (c.kd≤9)&&((!(decide (c.kd=0)||(decide (c.kd=1)||decide (c.kd=2)))||decide (0≤c.oj)&&decide (c.oj<n))&&(!decide (c.kd=1)||decide ((c.dn:Int)≤64))))))) H:=by
 conv=>lhs;unfold Cm.cs
 rw[aaS];(try simp only[NQ]);simp only[ge_iff_le];congr 2;generalize decide (0≤x)=b1;generalize decide (x<8)=b2;generalize decide (c.kd≤9)=b3;generalize decide (c.kd=0)=b4;generalize decide (c.kd=1)=b5;generalize decide (c.kd=2)=b6;generalize decide (0≤c.oj)=b7;generalize decide (c.oj<n)=b8;generalize decide ((c.dn:Int)≤64)=b9;cases b1<;>cases b2<;>cases b3<;>cases b4<;>cases b5<;>cases b6<;>cases b7<;>cases b8<;>cases b9<;>rfl
theorem NU (x:Int) (c:Cm) (n:Nat):(decide (0≤x)&&(decide (x<8)&&(decide (c.kd≤9)&&((!(decide (c.kd=0)||(decide (c.kd=1)||decide (c.kd=2)))||decide (0≤c.oj)&&decide (c.oj<(n:Int)))&&(!decide (c.kd=1)||decide ((c.dn:Int)≤64))))))=uj x c n:=by
 unfold uj;have e:decide ((c.dn:Int)≤64)=decide (c.dn≤64):=by rw[decide_eq_decide];omega
 rw[e];simp only[Bool.and_assoc,Bool.or_assoc]
theorem Fu (r:R) (x:Int) (c:Cm):cl 78 [.agg r.cs,.int .i64 x,.agg c.cs] H K=K (.bool (UL r x c)) H:=by
 conv=>lhs;unfold Cm.cs R.cs
 rw[aaT];(try simp only[NQ]);simp only[R.zh,Ho,AK,reduceIte,Nat.reduceEqDiff];unfold UL;by_cases h0:c.kd=0
 ·simp [h0]
 ·by_cases h1:c.kd=1
  ·simp [h1]
  ·by_cases h2:c.kd=2
   ·simp [h2]
   ·by_cases h3:c.kd=3<;>simp [h0,h1,h2,h3]
end
def Rs.cs (s:Rs) (q:Oq) (n:Nat):List V:=Ek s.e q s.d.length n (s.r.k 0) (s.r.k 1) (s.r.k 2) (s.r.k 3) (s.r.k 4) (s.r.k 5) (s.r.k 6) (s.r.k 7) s.r.ty s.r.ho s.r.ge s.r.la
theorem Rs.aJ (s:Rs) (q:Oq) (n:Nat):aJ UH (s.cs q n)=true:=rfl
theorem Rs.n1 (s:Rs) (q:Oq) (n:Nat):ae (s.cs q n) 1=.slice q s.d.length n:=rfl
def wc (w:Int×List UInt8):List V:=ZT w.1 (jK w.2)
def st (bs:List UInt8):List V:=[.ea (jK bs)]
def lq (k:Nat→Int):Nat→Bool
 |0=>false
 |n+1=>lq k n|| !decide (k n=0)
def zn (r:R):Bool:= !decide (r.ty=0)&& !uh r.ty
def om (r:R):Bool:=
 !decide (r.ho< -1)&&(!decide (r.ho≥8)&&((decide (r.ty=0)||right r.ty)&&(decide (zn r=decide (r.ho≥0))&&((!zn r|| !decide (r.k r.ho.toNat=0))&&(decide (r.ty=0)||lq r.k 8)))))
def oo (r:R) (was now:Int):R:=if was=now then r else if r.la=false then ⟨fun _=>0,0, -1,0,false⟩ else ⟨r.k,r.ty,r.ho,0,r.la⟩
section
variable (H:af) (K:V→af→Prop)
theorem Fv (r:R) (Kr:St→Prop) (Ke:Nat→St→Prop):∀(n i:Nat),i+n=8→lo 74 6 (St.mk (ab [(1,T.lp 1 0),(3,T.v (V.bool (lq r.k i))),(27,T.v (V.agg (vV (r.k 0) (r.k 1) (r.k 2) (r.k 3) (r.k 4) (r.k 5) (r.k 6) (r.k 7)))),(28,T.v (V.int .i64 (i:Int)))]) (ab [(1,bg.cells 46 r.cs)]) H) Kr Ke=Ke 0 (St.mk (ab [(1,T.lp 1 0),(3,T.v (V.bool (lq r.k 8)))]) (ab [(1,bg.cells 46 r.cs)]) H)
 |0,i,hi=>by
  obtain rfl:i=8:=by omega
  unfold R.cs;rw[Mq];(try simp only[NQ]);rfl
 |n+1,i,hi=>by
  have e1:decide ((i:Int)<8)=true:=by simp;omega
  have e2:decide (0≤(i:Int))=true:=by simp
  have e3:Int.toNat (i:Int)*1=i:=by simp
  have e6:Nat.ble (Nat.succ i) 8=true:=by simp;omega
  have e7:(bif !lq r.k i then !decide (r.k i=0) else true)=lq r.k (i+1):=by rw[lq];cases lq r.k i<;>rfl
  conv=>lhs;unfold R.cs
  rw[Mq];(try simp only[NQ]);rw[aQ (by omega)];simp only[e1,e2,e3,e6,zk r.k (show i<8 by omega),dW,bI,au,ay,Bool.and_self,e7];exact Fv r Kr Ke n (i+1) (by omega)
theorem NV (r:R):cl 74 [.agg r.cs] H K=K (.bool (om r)) H:=by
 conv=>lhs;unfold R.cs
 rw[aaO];(try simp only[NQ])
 have hl:∀Kr Ke,lo 74 6
  (St.mk (ab [(1,T.lp 1 0),(3,T.v (V.bool false)),(27,T.v (V.agg (vV (r.k 0) (r.k 1) (r.k 2) (r.k 3) (r.k 4) (r.k 5) (r.k 6) (r.k 7)))),(28,T.v (V.int .i64 0))])
   (ab [(1,bg.cells 46 r.cs)]) H) Kr Ke=_:=fun Kr Ke=>Fv H r Kr Ke 8 0 (by omega)
 unfold R.cs at hl;simp only[AK,reduceIte,Nat.reduceEqDiff,Fi,Ct,hl,f45,RL,LY,LZ,L4,L5,L6,L7,L8,L9,Ma,Mb,GJ,GK];unfold om;by_cases h1:r.ho< -1
 ·simp [h1]<;>exact Iff.rfl
 by_cases h2:r.ho≥8
 ·simp [h1,h2]<;>exact Iff.rfl
 have hidx:0+Int.toNat r.ho*1=Int.toNat r.ho:=by omega
 have h3:r.ho≤11:=by omega
 have h4:r.ho<8:=by omega
 have hone:zn r=(!decide (r.ty=0)&&(!decide (r.ty=7)&& !decide (r.ty=8))):=by
  unfold zn uh;by_cases h7:r.ty=7<;>by_cases h8:r.ty=8<;>simp [h7,h8]
 by_cases h0:0≤r.ho
 ·have hn:=ug r (i:=r.ho.toNat) (by omega);simp only[hidx,hn,dW,bI];rw[hone];by_cases ht:r.ty=0
  ·simp [h1,h2,h0,ht,h3,h4,aO]<;>exact Iff.rfl
  ·cases hr:right r.ty
   ·simp [h1,h2,h0,ht,hr,h3,h4,aO]<;>exact Iff.rfl
   ·by_cases h7:r.ty=7
    ·simp [h1,h2,h0,ht,h7,h3,h4,aO]<;>exact Iff.rfl
    ·by_cases h8:r.ty=8
     ·simp [h1,h2,h0,ht,h7,h8,h3,h4,aO]<;>exact Iff.rfl
     ·by_cases hk:r.k r.ho.toNat=0
      ·simp [h1,h2,h0,ht,h7,h8,hk,h3,h4,aO]<;>exact Iff.rfl
      ·simp [h1,h2,h0,ht,h7,h8,hk,h3,h4,aO]<;>exact Iff.rfl
 ·rw[hone];by_cases ht:r.ty=0
  ·simp [h1,h2,h0,ht,h3,h4,aO]<;>exact Iff.rfl
  ·cases hr:right r.ty
   ·simp [h1,h2,h0,ht,hr,h3,h4,aO]<;>exact Iff.rfl
   ·by_cases h7:r.ty=7
    ·simp [h1,h2,h0,ht,h7,h3,h4,aO]<;>exact Iff.rfl
    ·by_cases h8:r.ty=8
     ·simp [h1,h2,h0,ht,h7,h8,h3,h4,aO]<;>exact Iff.rfl
     ·simp [h1,h2,h0,ht,h7,h8,h3,h4,aO]<;>exact Iff.rfl
theorem PV (r:R) (was now:Int):cl 42 [.agg r.cs,.int .i64 was,.int .i64 now] H K=K (.agg (oo r was now).cs) H:=by
 conv=>lhs;unfold R.cs
 rw[aaN];(try simp only[NQ]);simp only[AK,reduceIte,Nat.reduceEqDiff,Jh,R.dX,R.eU];unfold oo;by_cases h:was=now
 ·simp [h]<;>exact Iff.rfl
 ·cases hl:r.la<;>simp [h]<;>exact Iff.rfl
end
theorem Bn {k:Nat→Int}:∀{n:Nat},lq k n=true↔∃i,i<n∧k i≠0
 |0=>by simp [lq]
 |n+1=>by
  rw[lq,Bool.or_eq_true,Bn];constructor
  ·rintro(⟨i,h1,h2⟩|h)
   ·exact⟨i,by omega,h2⟩
   ·exact⟨n,by omega,by simpa using h⟩
  ·rintro⟨i,h1,h2⟩;by_cases hn:i=n
   ·subst hn;right;simpa using h2
   ·left;exact⟨i,by omega,h2⟩
structure R.ok (r:R):Prop where
 k:∀i,0≤r.k i∧r.k i≤4294967295
 ty:0≤r.ty∧r.ty≤255
 ho: -1≤r.ho∧r.ho≤254
 ge:0≤r.ge∧r.ge≤4294967295
def wH (k:Nat→Int):Nat→List UInt8
 |0=>[]
 |n+1=>wH k n++le (k n).toNat 4
theorem fR (k:Nat→Int):∀n,(wH k n).length=4*n
 |0=>rfl
 |n+1=>by rw[wH,List.length_append,fR k n,Cz];omega
def gI (r:R) (boots:Nat):List UInt8:=
 wH r.k 8++le r.ty.toNat 1++le (r.ho+1).toNat 1++le r.ge.toNat 4++le (if r.la=true then 1 else 0) 1++le boots 4
theorem uk (r:R) (boots:Nat):(gI r boots).length=43:=by
 simp [gI,fR]
theorem nY {x:Int} (h0:0≤x) (h1:x≤18446744073709551615):IntKind.u64.wrap x=(x.toNat:Int):=by
 rw[IntWalk.u64_in _ ⟨h0,h1⟩];omega
section
variable {B:af} {L:List cq} {H:af} {K:V→af→Prop} {q:Oq} {cap:Nat}
theorem Bo (r:R) (hr:r.ok) (x1:Int) {Kr:Am.St→Prop} {Ke:Nat→Am.St→Prop}:∀(n i:Nat) {q:Oq} {cap:Nat} {H:af},i+n=8→az B H (BY q cap (wH r.k i)::L)→(∀q' c' H',az B H' (BY q' c' (wH r.k 8)::L)→Ke 0 (St.mk (ab [(1,T.v (V.int .i64 x1)),(2,T.lp 2 0),(5,T.v (V.slice q' (wH r.k 8).length c'))]) (ab [(2,bg.cells 46 r.cs)]) H'))→lo 83 3 (St.mk (ab [(1,T.v (V.int .i64 x1)),(2,T.lp 2 0),(5,T.v (V.slice q (wH r.k i).length cap)),(10,T.v (V.agg (vV (r.k 0) (r.k 1) (r.k 2) (r.k 3) (r.k 4) (r.k 5) (r.k 6) (r.k 7)))),(11,T.v (V.int .i64 (i:Int)))]) (ab [(2,bg.cells 46 r.cs)]) H) Kr Ke
 |0,i,q,cap,H,hi,h,k=>by
  obtain rfl:i=8:=by omega
  have:=k _ _ _ h;unfold R.cs at this⊢;rw[Mr];(try simp only[NQ]);exact this
 |n+1,i,q,cap,H,hi,h,k=>by
  have e1:decide ((i:Int)<8)=true:=by simp;omega
  have e2:decide (0≤(i:Int))=true:=by simp
  have e3:Int.toNat (i:Int)*1=i:=by simp
  have e6:Nat.ble (Nat.succ i) 8=true:=by simp;omega
  have e7:=hr.k i;unfold R.cs;rw[Mr];(try simp only[NQ]);rw[aQ (by omega)];simp only[e1,e2,e3,e6,zk r.k (show i<8 by omega),dW,bI,au,ay,Bool.and_self];rw[nY e7.1 (by omega)];refine ef (r.k i).toNat 4 h (by omega) (by rw[fR];omega) (fun q' c' H' h'=> ?_);simp only[AK,reduceIte,Nat.reduceEqDiff];exact Bo r hr x1 n (i+1) (by omega) h' k
theorem KP (r:R) (hr:r.ok) (boots:Nat) (hb:boots<18446744073709551616) (hb':boots<9223372036854775808) (h:az B H L) (k:∀q' c' H',az B H' (BY q' c' (gI r boots)::L)→K (.slice q' (gI r boots).length c') H'):cl 83 [.agg r.cs,.int .i64 (boots:Int)] H K:=by
 unfold R.cs;rw[aaP];(try simp only[NQ]);refine Bo (q:=none) (cap:=0) r hr boots 8 0 (by omega) (jZ h) (fun q1 c1 H1 h1=> ?_);unfold R.cs;simp only[AK,reduceIte,Nat.reduceEqDiff,f45,RL,LY,LZ,L4,L5,L6,L7,L8,L9,Ma,Mb,GJ,GK];have k1:=hr.ty;have k2:=hr.ho;have k3:=hr.ge;rw[nY k1.1 (by omega)];refine ef r.ty.toNat 1 h1 (by omega) (by rw[fR];omega) (fun q2 c2 H2 h2=> ?_);simp only[AK,reduceIte,Nat.reduceEqDiff];rw[bD (by omega) (by omega),nY (by omega) (by omega)];refine ef (r.ho+1).toNat 1 h2 (by omega) (by simp [fR]) (fun q3 c3 H3 h3=> ?_)
 have YW:∀(b:Bool),r.la=b→ag (aI (KT.k (bY.int IntKind.u64)) (some (T.v (V.int IntKind.u64 (((if r.la=true then 1 else 0:Nat)):Int))))||false||false)
  (cl 119 [V.slice q3 (wH r.k 8++le r.ty.toNat 1++le (r.ho+1).toNat 1).length c3,V.int IntKind.u64 (IntKind.u64.wrap r.ge),V.int IntKind.i64 4] H3 fun v H'=>
   ag (V.av bY.slice v) (cl 119 [V.slice (V.ak v) (V.ao v) (V.aA v),V.int IntKind.u64 (((if r.la=true then 1 else 0:Nat)):Int),V.int IntKind.i64 1] H' fun v H'=>
    ag (V.av bY.slice v) (cl 119 [V.slice (V.ak v) (V.ao v) (V.aA v),V.int IntKind.u64 (IntKind.u64.wrap boots),V.int IntKind.i64 4] H' fun v H'=>
     ag (V.av bY.slice v) (K (V.slice (V.ak v) (V.ao v) (V.aA v)) H')))):=by
  intro b hb0;rw[nY k3.1 (by omega),cA hb];simp only[AK,reduceIte,Nat.reduceEqDiff];refine ef r.ge.toNat 4 h3 (by omega) (by simp [fR]) (fun q4 c4 H4 h4=> ?_);simp only[AK,reduceIte,Nat.reduceEqDiff];refine ef _ 1 h4 (by omega) (by simp [fR]) (fun q5 c5 H5 h5=> ?_);simp only[AK,reduceIte,Nat.reduceEqDiff];refine ef boots 4 h5 (by omega) (by simp [fR]) (fun q6 c6 H6 h6=> ?_);simp only[AK,reduceIte,Nat.reduceEqDiff];exact k _ _ _ h6
 have:=YW r.la rfl;cases hl:r.la
 ·simpa [hl,AK,reduceIte,Nat.reduceEqDiff] using this
 ·simpa [hl,AK,reduceIte,Nat.reduceEqDiff] using this
end
def Bp (s:RS):Nat→RS×(Nat→Int)
 |0=>(s,fun _=>0)
 |n+1=>(((Bp s n).1.num 4 4294967295).2,cg (Bp s n).2 n (((Bp s n).1.num 4 4294967295).1:Nat))
structure XW where
 r:R
 n:Nat
 e:RS
def zo (s:RS×(Nat→Int)):XW:=
 let a:=s.1.num 1 255
 let b:=a.2.num 1 8
 let c:=b.2.num 4 4294967295
 let d:=c.2.num 1 1
 let e:=d.2.num 4 2147483647
 ⟨⟨s.2,(a.1:Nat),(b.1:Nat)-1,(c.1:Nat),decide ((d.1:Int)=1)⟩,e.1,e.2⟩
def ss (bs:List UInt8):XW:=zo (Bp ⟨bs,false⟩ 8)
def PW (bs:List UInt8):Option (R×Nat):=
 if (ss bs).e.bP=false∧(ss bs).e.bs=[]∧om (ss bs).r=true then some ((ss bs).r,(ss bs).n) else none
def lu (bs:List UInt8):R:=
 ⟨fun i=>if i<8 then (dm ((bs.drop (4*i)).take 4):Nat) else 0,(bs.getD 32 0).toNat,((bs.getD 33 0).toNat:Int)-1,(dm ((bs.drop 34).take 4):Nat),decide (((bs.getD 38 0).toNat:Int)=1)⟩
def ni (bs:List UInt8):Bool:=decide (bs.length=43)&&(decide ((bs.getD 33 0).toNat≤8)&&(decide ((bs.getD 38 0).toNat≤1)&&decide ((bs.getD 42 0).toNat≤127)))
def Dl (bs:List UInt8):Option (R×Nat):=
 if ni bs=true∧om (lu bs)=true then some (lu bs,dm ((bs.drop 39).take 4)) else none
theorem zp (s:RS) (size most:Nat):(s.num size most).1≤most:=by
 unfold RS.num;split
 ·exact Nat.zero_le _
 ·simp only[];omega
theorem Q5 (l:List UInt8):dm (l.take 4)≤4294967295:=by
 have:=wP (l.take 4);have h:(256:Nat) ^ (l.take 4).length≤256 ^ 4:=Nat.pow_le_pow_right (by omega) (by rw[List.length_take];omega);have h2:(256:Nat) ^ 4=4294967296:=by decide
 omega
theorem um (bs:List UInt8):∀n,4*n≤bs.length→Bp ⟨bs,false⟩ n=(⟨bs.drop (4*n),false⟩,fun i=>if i<n then ((dm ((bs.drop (4*i)).take 4):Nat):Int) else 0)
 |0,_=>by simp [Bp]
 |n+1,h=>by
  rw[Bp,um bs n (by omega)];simp only[];rw[jM (by simp;omega) (Q5 _)];simp only[List.drop_drop];refine Prod.ext ?_ ?_
  ·simp only[];congr 1
  ·funext i;simp only[cg];by_cases h1:i=n
   ·subst h1;simp
   ·by_cases h2:i<n
    ·have:i<n+1:=by omega
     simp [h1,h2,this]
    ·have:¬i<n+1:=by omega
     simp [h1,h2,this]
theorem Jk (bs:List UInt8):∀n,(Bp ⟨bs,false⟩ n).1.bP=false→4*n≤bs.length
 |0,_=>by omega
 |n+1,h=>by
  rw[Bp] at h;obtain⟨h1,h2,_,_⟩:=iq h;have:=Jk bs n h1;rw[um bs n this] at h2;simp at h2;omega
theorem Hv {bs:List UInt8} {i:Nat} (h:i<bs.length):(bs.drop i).take 1=[bs.getD i 0]:=by
 rw[List.drop_eq_getElem_cons h];simp only[List.getD,List.getElem?_eq_getElem h,Option.getD_some,List.take_succ_cons,List.take_zero]
theorem gz {bs:List UInt8} {i:Nat} (h:i<bs.length):dm ((bs.drop i).take 1)=(bs.getD i 0).toNat:=by
 rw[Hv h];simp [dm]
theorem Bq {bs:List UInt8} (h:bs.length=43):dm ((bs.drop 39).take 4)≤2147483647↔(bs.getD 42 0).toNat≤127:=by
 have e:(bs.drop 39).take 4=(bs.drop 39).take 3++[bs.getD 42 0]:=by
  rw[List.take_add_one,List.getElem?_drop];simp [List.getD,h]
 have h3:=wP ((bs.drop 39).take 3);have hl:((bs.drop 39).take 3).length=3:=by simp [h]
 rw[e,py,hl];rw[hl] at h3;have h2:(256:Nat) ^ 3=16777216:=by decide
 rw[h2] at h3⊢;simp only[dm];omega
theorem TN (bs:List UInt8):PW bs=Dl bs:=by
 unfold PW Dl;by_cases hl:bs.length=43
 ·have h1:Bp ⟨bs,false⟩ 8=_:=um bs 8 (by omega);have h2:(RS.mk (bs.drop 32) false).num 1 255=_:=jM (by simp;omega) (by rw[gz (by omega)];have:=(bs.getD 32 0).toNat_lt;omega);by_cases h33:(bs.getD 33 0).toNat≤8
  ·have h3:(RS.mk (bs.drop 33) false).num 1 8=_:=jM (by simp;omega) (by rw[gz (by omega)];exact h33);have h4:(RS.mk (bs.drop 34) false).num 4 4294967295=_:=jM (by simp;omega) (Q5 _);by_cases h38:(bs.getD 38 0).toNat≤1
   ·have h5:(RS.mk (bs.drop 38) false).num 1 1=_:=jM (by simp;omega) (by rw[gz (by omega)];exact h38);by_cases h42:(bs.getD 42 0).toNat≤127
    ·have h6:(RS.mk (bs.drop 39) false).num 4 2147483647=_:=jM (by simp;omega) ((Bq hl).2 h42)
     have hd:ss bs=⟨lu bs,dm ((bs.drop 39).take 4),⟨[],false⟩⟩:=by
      unfold ss zo lu;simp only[h1,h2,List.drop_drop,h3,h4,h5,h6,gz (show 32<bs.length by omega),gz (show 33<bs.length by omega),gz (show 38<bs.length by omega)];simp [hl]
     have hg:ni bs=true:=by unfold ni;rw[decide_eq_true hl,decide_eq_true h33,decide_eq_true h38,decide_eq_true h42];rfl
     rw[hd,hg];simp
    ·have h6:(RS.mk (bs.drop 39) false).num 4 2147483647=_:=tH (by simp;omega) (by have:=Bq hl;omega)
     have hd:(ss bs).e.bP=true:=by
      unfold ss zo;simp only[h1,h2,List.drop_drop,h3,h4,h5,h6]
     have hg:ni bs=false:=by unfold ni;rw[decide_eq_false h42];simp
     rw[hd,hg];simp
   ·have h5:(RS.mk (bs.drop 38) false).num 1 1=_:=tH (by simp;omega) (by rw[gz (by omega)];omega)
    have hd:(ss bs).e.bP=true:=by
     unfold ss zo;simp only[h1,h2,List.drop_drop,h3,h4,h5];exact tI rfl
    have hg:ni bs=false:=by unfold ni;rw[decide_eq_false h38];simp
    rw[hd,hg];simp
  ·have h3:(RS.mk (bs.drop 33) false).num 1 8=_:=tH (by simp;omega) (by rw[gz (by omega)];omega)
   have hd:(ss bs).e.bP=true:=by
    unfold ss zo;simp only[h1,h2,List.drop_drop,h3];exact tI (tI (tI rfl))
   have hg:ni bs=false:=by unfold ni;rw[decide_eq_false h33];simp
   rw[hd,hg];simp
 ·have hg:ni bs=false:=by unfold ni;rw[decide_eq_false hl];simp
  rw[hg,if_neg (fun h:false=true∧_=>by cases h.1),if_neg];rintro⟨hb,he,_⟩;unfold ss zo at hb he;simp only[] at hb he;obtain⟨b1,l1,_,e1⟩:=iq hb;obtain⟨b2,l2,_,e2⟩:=iq b1;obtain⟨b3,l3,_,e3⟩:=iq b2;obtain⟨b4,l4,_,e4⟩:=iq b3;obtain⟨b5,l5,_,e5⟩:=iq b4;have hk:=Jk bs 8 b5;have h1:Bp ⟨bs,false⟩ 8=_:=um bs 8 hk;rw[e1,e2,e3,e4,e5,h1] at he;rw[e2,e3,e4,e5,h1] at l1;rw[List.drop_drop,List.drop_drop,List.drop_drop,List.drop_drop,List.drop_drop,List.drop_eq_nil_iff] at he;simp at l1;omega
section
variable {B:af} {L:List cq} {H:af} {K:V→af→Prop} {q:Oq} {cap:Nat} {bs:List UInt8} {id:Nat}
theorem Br {Kr:Am.St→Prop} {Ke:Nat→Am.St→Prop}:∀(n i:Nat) {H:af},i+n=8→mP B H L id (Bp ⟨bs,false⟩ i).1→(∀H',mP B H' L id (Bp ⟨bs,false⟩ 8).1→Ke 0 (St.mk (ab [(2,T.lp 2 0),(5,T.v (V.aj (some (id,0)))),(6,T.lp 6 0)]) (ab [(2,bg.cells 46 (cQ 0 0 0 0 0 0 0 0 0 0 0 false)),(6,bg.cells 46 (R.cs ⟨(Bp ⟨bs,false⟩ 8).2,0,0,0,false⟩))]) H'))→lo 41 4 (St.mk (ab [(2,T.lp 2 0),(5,T.v (V.aj (some (id,0)))),(6,T.lp 6 0),(11,T.v (V.int .i64 (i:Int)))]) (ab [(2,bg.cells 46 (cQ 0 0 0 0 0 0 0 0 0 0 0 false)),(6,bg.cells 46 (R.cs ⟨(Bp ⟨bs,false⟩ i).2,0,0,0,false⟩))]) H) Kr Ke
 |0,i,H,hi,h,k=>by
  obtain rfl:i=8:=by omega
  have:=k _ h;unfold R.cs at this⊢;rw[Mp];(try simp only[NQ]);exact this
 |n+1,i,H,hi,h,k=>by
  have e1:decide ((i:Int)<8)=true:=by simp;omega
  have e2:decide (0≤(i:Int))=true:=by simp
  have e3:0+Int.toNat (i:Int)*1=i:=by simp
  have hm:=zp (Bp ⟨bs,false⟩ i).1 4 4294967295;unfold R.cs;rw[Mp];(try simp only[NQ]);rw[aQ (by omega),e1,au];refine j3 h 4 4294967295 (by omega) (fun H' h'=> ?_);rw[bI,tz (by omega)];have hst:=nX (((Bp ⟨bs,false⟩ i).1.num 4 4294967295).1:Nat) 0 0 false (show i<8 by omega);have hsk:=w9 ⟨(Bp ⟨bs,false⟩ i).2,0,0,0,false⟩ (show i<8 by omega) (((Bp ⟨bs,false⟩ i).1.num 4 4294967295).1:Nat) 0 0 0 false;simp only[e1,e2,e3,hst,hsk,dW,au,ay,Bool.and_self];exact Br n (i+1) (by omega) h' k
def Hw:Option (R×Nat)→V
 |some (r,n)=>.tuple [.agg r.cs,.int .i64 (n:Int),.int .i64 0]
 |none=>.tuple [.agg (cQ 0 0 0 0 0 0 0 0 0 0 0 false),.int .i64 0,.int .i64 3]
theorem KQ (h:az B H L) (hr:lE B L q bs) (hc:bs.length≤cap) (k:∀H',az B H' L→K (Hw (Dl bs)) H'):cl 41 [.slice q bs.length cap] H K:=by
 rw[aaM];(try simp only[NQ]);refine IC h hr hc (fun id H1 h1=> ?_);simp only[AK,reduceIte,Nat.reduceEqDiff];refine Br (bs:=bs) 8 0 (by omega) h1 (fun H2 h2=> ?_);have hk':∀H',az B H' L→K (Hw (PW bs)) H':=fun H' h'=>by rw[TN];exact k H' h'
 unfold PW ss at hk';generalize Bp ⟨bs,false⟩ 8=s at h2 hk'⊢;obtain⟨s,ks⟩:=s;unfold R.cs;simp only[AK,reduceIte,Nat.reduceEqDiff,f45,RL,LY,LZ,L4,L5,L6,L7,L8,L9,Ma,Mb,GJ,GK];refine j3 h2 1 255 (by omega) (fun H3 h3=> ?_);simp only[AK,reduceIte,Nat.reduceEqDiff];refine j3 h3 1 8 (by omega) (fun H4 h4=> ?_);simp only[AK,reduceIte,Nat.reduceEqDiff];refine j3 h4 4 4294967295 (by omega) (fun H5 h5=> ?_);simp only[AK,reduceIte,Nat.reduceEqDiff];refine j3 h5 1 1 (by omega) (fun H6 h6=> ?_);simp only[AK,reduceIte,Nat.reduceEqDiff];refine j3 h6 4 2147483647 (by omega) (fun H7 h7=> ?_);have m1:=zp s 1 255;have m2:=zp (s.num 1 255).2 1 8;have m3:=zp ((s.num 1 255).2.num 1 8).2 4 4294967295;have m4:=zp ((((s.num 1 255).2.num 1 8).2.num 4 4294967295).2.num 1 1).2 4 2147483647
 have hd:zo (s,ks)=⟨⟨ks,((s.num 1 255).1:Nat),(((s.num 1 255).2.num 1 8).1:Nat)-1,((((s.num 1 255).2.num 1 8).2.num 4 4294967295).1:Nat),
  decide ((((((s.num 1 255).2.num 1 8).2.num 4 4294967295).2.num 1 1).1:Int)=1)⟩,(((((s.num 1 255).2.num 1 8).2.num 4 4294967295).2.num 1 1).2.num 4 2147483647).1,(((((s.num 1 255).2.num 1 8).2.num 4 4294967295).2.num 1 1).2.num 4 2147483647).2⟩:=rfl
 simp only[hd] at hk';simp only[AK,reduceIte,Nat.reduceEqDiff,Ti h7];dsimp+instances only[bI];obtain⟨q7,c7,_,_,h7⟩:=h7.ex;have hk:=hk' H7 h7.drop;generalize s.num 1 255=a at m1 m2 m3 m4 hk⊢;generalize a.2.num 1 8=b at m2 m3 m4 hk⊢;generalize b.2.num 4 4294967295=c at m3 m4 hk⊢;generalize c.2.num 1 1=d at m4 hk⊢;generalize d.2.num 4 2147483647=e at m4 hk⊢;rw[vX,tx (n:=b.1) (by omega),bD (by omega) (by omega),tz (by omega),tx (by omega)];have e8:((UInt8.ofNat a.1).toNat:Int)=(a.1:Nat):=by simp;omega
 rw[e8,R.Bj ks];generalize R.mk ks (a.1:Nat) ((b.1:Nat)-1) (c.1:Nat) (decide ((d.1:Int)=1))=r at hk⊢;simp only[NV];cases hb:e.2.bP
 ·by_cases hn:e.2.bs=[]
  ·cases hf:om r
   ·simpa [hb,hn,hf,Hw] using hk
   ·simpa [hb,hn,hf,Hw] using hk
  ·simpa [hb,hn,Hw] using hk
 ·simpa [hb,Hw] using hk
end
def KF:Nat:=200
structure Un where
 s:FS
 ps:List Pg
 r:R
 down:Bool
def Fw (g:bZ) (s:FS) (p:Pg):Option (FS×Int):=
 if p.cd=true then I0 g KF s p.ar.toNat else tW g KF KF s (QW p.ar.toNat p.data)
def gK (g:bZ):List Pg→FS→List Pg→Option (FS×List Pg×Int)
 |[],s,ps=>some (s,ps,0)
 |p::l,s,ps=>match Fw g s p with
  |none=>none
  |some r=>if r.2=0 then gK g l r.1 (gy ps p.ar) else some (r.1,ps,r.2)
def Dm (g:bZ) (s:FS) (ps:List Pg) (p:Pg) (sure:Bool):Option (FS×List Pg×Int):=
 if sure=true then (match Fw g s p with
  |none=>none
  |some r=>if r.2=0 then some (r.1,gy ps p.ar,0) else some (r.1,ps,r.2))
 else if (iT ps p).2≠11 then some (s,(iT ps p).1,0)
 else match gK g ps s ps with
  |none=>none
  |some r=>if r.2.2=0 then some (r.1,(iT r.2.1 p).1,(iT r.2.1 p).2) else some r
def ja (u:Un):Un×Int:=
 if u.s.a.off=true then ({u with down:=true},9) else if u.down=true∨(u.s.f.ep:Int)<u.s.a.aK then ({u with down:=true},7) else (u,0)
structure Ui where
 js:Nat
 z9:Nat
 aH:Nat
 fid:Nat
 mid:Nat
 pid:Nat
def KR (x:Ui) (m:Gm) (u:Un):List V:=
 ZS (some (x.aH,0)) m.g.aF m.g.aB m.g.aG m.q m.g.bP.length m.c (some (x.fid,0)) (some (x.z9,0)) (u.r.k 0) (u.r.k 1) (u.r.k 2) (u.r.k 3) (u.r.k 4) (u.r.k 5) (u.r.k 6) (u.r.k 7) u.r.ty u.r.ho u.r.ge u.r.la u.down
section
variable {B:af} {L:List cq} {H:af} {K:V→af→Prop} {x:Ui} {m:Gm} {u:Un}
abbrev gA (B H:af) (x:Ui) (m:Gm) (u:Un) (L:List cq):Prop:=
 az B H (cR x.js 93 (KR x m u)::eC x.z9 u.ps::cR x.fid 120 (PD x.aH m u.s.f x.mid x.pid)::tQ x.mid u.s.f.pm::CU x.pid u.s.f.po::df x.aH u.s.a::L)
theorem gA.fs (h:gA B H x m u L):fK B H x.aH x.fid x.mid x.pid m u.s (cR x.js 93 (KR x m u)::eC x.z9 u.ps::L):=h.ord [2,2,2,2]
theorem gA.oi (h:gA B H x m u L):az B H (eC x.z9 u.ps::cR x.js 93 (KR x m u)::cR x.fid 120 (PD x.aH m u.s.f x.mid x.pid)::tQ x.mid u.s.f.pm::CU x.pid u.s.f.po::df x.aH u.s.a::L):=h.ord [1]
theorem gA.sG (h:gA B H x m u L):az B H (df x.aH u.s.a::cR x.js 93 (KR x m u)::eC x.z9 u.ps::cR x.fid 120 (PD x.aH m u.s.f x.mid x.pid)::tQ x.mid u.s.f.pm::CU x.pid u.s.f.po::L):=h.ord [5]
theorem gA.XX {s:FS} (h:fK B H x.aH x.fid x.mid x.pid m s (cR x.js 93 (KR x m u)::eC x.z9 u.ps::L)):gA B H x m {u with s:=s} L:=h.ord [4,4]
structure UnG (H:af) (x:Ui) (m:Gm) (u:Un):Prop where
 i:∀k<20,H.inb x.js k 1=true
 c0:H.cell x.js 0=.aj (some (x.aH,0))
 c5:H.cell x.js 5=.aj (some (x.fid,0))
 c6:H.cell x.js 6=.aj (some (x.z9,0))
 c19:H.cell x.js 19=.bool u.down
 g:H.inb x.js 1 4=true∧H.sub x.js 1 4=ee m.g.aF m.g.aB m.g.aG m.q m.g.bP.length m.c
 r:H.inb x.js 7 12=true∧H.sub x.js 7 12=u.r.cs
 w:H.wr x.js 19 1=true
 wr:H.wr x.js 7 12=true
theorem Dn (h:gA B H x m u L):UnG H x m u:=by
 have hg:=h.get;refine⟨fun k hk=>mO hg (by show k<20;exact hk),aY hg 0,aY hg 5,aY hg 6,aY hg 19,⟨dI hg 1 4, ?_⟩,⟨dI hg 7 12, ?_⟩,fY hg 19 1,fY hg 7 12⟩
 ·rw[kg hg];rfl
 ·rw[kg hg];rfl
theorem gA.uo (h:gA B H x m u L) (b:Bool):gA B (H.store x.js 19 [.bool b]) x m {u with down:=b} L:=by
 obtain⟨w,h1⟩:=az.yy (k:=19) h (by show 19<20;omega) (.bool b);exact h1
theorem Fx (h:gA B H x m u L) (k:∀H',gA B H' x m (ja u).1 L→K (.int .i64 (ja u).2) H'):cl 44 [.aj (some (x.js,0))] H K:=by
 have g:=Dn h;rw[aag];simp only[AN,reduceIte,Nat.reduceEqDiff,Option.isSome_some,Nat.zero_add,g.i 0 (by omega),g.c0];rw[XF h.sG];simp only[AN,reduceIte,Nat.reduceEqDiff];unfold ja at k;by_cases ho:u.s.a.off=true
 ·rw[if_pos ho] at k;simp only[ho,Bool.not_true,Bool.not_false,au,g.w,Option.isSome_some,Nat.zero_add,ay];exact k _ (h.uo true)
 rw[if_neg ho] at k;have ho':u.s.a.off=false:=by simpa using ho
 have FN:∀K:V→af→Prop,cl 76 [.aj (some (x.aH,0))] H K=K (.int .u64 u.s.a.aK) H:=fun K=>MB h.sG
 have EP:∀K:V→af→Prop,cl 58 [.aj (some (x.fid,0))] H K=K (.int .u64 (u.s.f.ep:Int)) H:=fun K=>Bb h.fs
 simp only[ho',Bool.not_false,Bool.not_true,ai,dD,Option.isSome_some,Nat.zero_add,g.i 19 (by omega),g.c19,g.i 0 (by omega),g.c0,g.i 5 (by omega),g.c5,FN,EP,g.w,AJ,reduceIte,Nat.reduceEqDiff];by_cases hd:u.down=true
 ·rw[if_pos (.inl hd)] at k;have:=k _ (h.uo true);simp only[hd,Bool.not_true,ai,au,and_self];exact this
 ·have hd':u.down=false:=by simpa using hd
  simp only[hd',Bool.not_false,au];by_cases hf:(u.s.f.ep:Int)<u.s.a.aK
  ·rw[if_pos (.inr hf)] at k;have:=k _ (h.uo true);have hf':u.s.a.aK>(u.s.f.ep:Int):=hf;simp only[hf',decide_true,au,and_self];exact this
  ·rw[if_neg (fun e=>e.elim hd hf)] at k;have hf':¬u.s.a.aK>(u.s.f.ep:Int):=hf;simp only[hf',decide_false,ai,and_self];exact k H h
theorem zq (h:gA B H x m u L):cl 15 [.aj (some (x.js,0))] H K=K (.agg u.r.cs) H:=by
 have g:=Dn h;rw[WA];simp only[Option.isNone_some,Option.isSome_some,Nat.zero_add,g.r.1,g.r.2,R.dX,R.eU,AJ,reduceIte,Nat.reduceEqDiff]
theorem KS (h:gA B H x m u L):cl 36 [.aj (some (x.js,0))] H K=K (.int .u64 (u.s.f.ep:Int)) H:=by
 have g:=Dn h;have EP:∀K:V→af→Prop,cl 58 [.aj (some (x.fid,0))] H K=K (.int .u64 (u.s.f.ep:Int)) H:=fun K=>Bb h.fs
 rw[aab];simp only[Option.isNone_some,Option.isSome_some,Nat.zero_add,g.i 5 (by omega),g.c5,EP,AJ,reduceIte,Nat.reduceEqDiff]
structure Fy (g:bZ) (p:Pg):Prop where
 lo:0≤p.ar
 hi:p.ar≤g.cap
 dl:p.data.length≤64
theorem Jl (hm:dF B L m) (hg:m.g.In) (hcap:m.g.cap<65000) (h:gA B H x m u L) (hok:aX m.g u.s) {p:Pg} (hp:Fy m.g p) {q:Oq} {c:Nat} (hr:p.cd=false→lE B L q p.data) {r:FS×Int} (hf:Fw m.g u.s p=some r) (k:aX m.g r.1→∀H',gA B H' x m {u with s:=r.1} L→K (.int .i64 r.2) H'):cl 91 [.aj (some (x.js,0)),.agg (fP p.ar q p.data.length c p.cd)] H K:=by
 have g:=Dn h;obtain⟨a,ha⟩:∃a:Nat,p.ar=(a:Int):=⟨p.ar.toNat,by have:=hp.lo;omega⟩;have hm2:dF B (cR x.js 93 (KR x m u)::eC x.z9 u.ps::L) m:=(hm.bO _).bO _;have hhi:=hp.hi;rw[aaB];unfold Fw at hf;rw[ha,Int.toNat_natCast] at hf;rw[ha];by_cases hh:p.cd=true
 ·rw[if_pos hh] at hf;simp only[hh,au,Option.isSome_some,Nat.zero_add,g.i 5 (by omega),g.c5,AJ,reduceIte,Nat.reduceEqDiff];refine Nn hm2 hg hcap (by omega) hf hok h.fs (fun fh H1 h1=> ?_);simp only[AJ,reduceIte,Nat.reduceEqDiff];exact k fh H1 (gA.XX h1)
 ·rw[if_neg hh] at hf;have Yt:p.cd=false:=by simpa using hh
  simp only[Yt,ai,Option.isSome_some,Nat.zero_add,g.i 5 (by omega),g.c5,AJ,reduceIte,Nat.reduceEqDiff];refine Ba hm2 hg hcap (((hr Yt).bO _).bO _) (by omega) hp.dl hf hok h.fs (fun fh H1 h1=> ?_);simp only[AJ,reduceIte,Nat.reduceEqDiff];exact k fh H1 (gA.XX h1)
end
theorem Jm (ps:List Pg) (a:Int):(gy ps a).length≤ps.length:=by
 unfold gy;split
 ·exact(List.eraseIdx_sublist ps _).length_le
 ·exact Nat.le_refl _
section
variable {B:af} {L:List cq} {H:af} {K:V→af→Prop} {x:Ui} {m:Gm} {u:Un}
theorem Bs (hm:dF B L m) (hg:m.g.In) (hcap:0≤m.g.cap∧m.g.cap<65000) {al:List Rp} {q8:Oq} {c8:Nat} (hb:al.length≤8) (hin:∀r∈al,Fy m.g r.p) {Kr:Am.St→Prop} {Ke:Nat→Am.St→Prop}:∀(n i:Nat) (u:Un) {H:af} {r:FS×List Pg×Int},i+n=al.length→gK m.g ((al.map Rp.p).drop i) u.s u.ps=some r→aX m.g u.s→eT u.ps→u.ps.length≤8→gA B H x m u (Rw 138 3 q8 c8 (al.map Rp.cs)::bj (al.map Rp.bW)::L)→(r.2.2=0→aX m.g r.1→∀H',gA B H' x m {u with s:=r.1,ps:=r.2.1} (Rw 138 3 q8 c8 (al.map Rp.cs)::bj (al.map Rp.bW)::L)→Ke 0 (St.mk (ab []) (ab []) H'))→(r.2.2≠0→aX m.g r.1→∀H',gA B H' x m {u with s:=r.1,ps:=r.2.1} (Rw 138 3 q8 c8 (al.map Rp.cs)::bj (al.map Rp.bW)::L)→Kr (St.mk (ab [(2,T.v (V.int .i64 r.2.2))]) (ab []) H'))→lo 54 2 (St.mk (ab [(0,T.v (V.aj (some (x.js,0)))),(10,T.v (V.slice q8 al.length c8)),(11,T.v (V.int .i64 (al.length:Int))),(12,T.v (V.int .i64 (i:Int)))]) (ab []) H) Kr Ke
 |0,i,u,H,r,hi,hf,hok,hs,hl,h,k1,k2=>by
  obtain rfl:i=al.length:=by omega
  rw[Mh,decide_eq_false (by omega),ai];rw[List.drop_of_length_le (by simp),gK] at hf;cases hf;exact k1 rfl hok H h
 |n+1,i,u,H,r,hi,hf,hok,hs,hl,h,k1,k2=>by
  have hlt:i<al.length:=by omega
  have g:=Dn h;obtain⟨s1,s2',HF⟩:=kC (h.ord [6]).wz hlt;have s2:H.inb (pb q8) (po q8+i*3) 3=true:=s2';have s3:H.sub (pb q8) (po q8+i*3) 3=al[i].cs:=HF;have e1:(i:Int)<(al.length:Int):=by omega
  have e2:0≤(i:Int):=by omega
  have e3:IntKind.i64.wrap ((i:Int)+1)=((i+1:Nat):Int):=aQ (by omega);have Uy:=hin _ (List.getElem_mem hlt);have hlo:=Uy.lo;have hhi:=Uy.hi;have n0:ae al[i].cs 0=.int .i64 al[i].p.ar:=rfl;have hop:uY (al[i].cs)=al[i].cs:=rfl;rw[List.drop_eq_getElem_cons (by simpa using hlt),List.getElem_map,gK] at hf;rw[Mh];simp only[e1,e2,s1,s2,s3,Rp.aJ,n0,hop,decide_true,au,Int.toNat_natCast,AJ,reduceIte,Nat.reduceEqDiff]
  cases Uz:Fw m.g u.s al[i].p with
  |none=>rw[Uz] at hf;cases hf
  |some o=>
   rw[Uz] at hf;dsimp only at hf;have hr:al[i].p.cd=false→lE B (Rw 138 3 q8 c8 (al.map Rp.cs)::bj (al.map Rp.bW)::L) al[i].q al[i].p.data:=fun _ H hs=>zg hs.drop hlt
   change cl 91 [V.aj (some (x.js,0)),V.agg (fP al[i].p.ar al[i].q al[i].p.data.length al[i].c al[i].p.cd)] H _
   refine Jl ((hm.bO _).bO _) hg hcap.2 h hok Uy (c:=al[i].c) hr Uz ?_;intro fS H1 h1;have g1:=Dn h1;simp only[AJ,reduceIte,Nat.reduceEqDiff];by_cases he:o.2=0
   ·rw[if_pos he] at hf;simp only[he,decide_true,Bool.not_true,ai,Option.isSome_some,Nat.zero_add,g1.i 6 (by omega),g1.c6,AJ,reduceIte,Nat.reduceEqDiff];refine Jg h1.oi hs hl ⟨by omega,by omega⟩ (fun H2 h2=> ?_);simp only[e3];have h3:gA B H2 x m {u with s:=o.1,ps:=gy u.ps al[i].p.ar} (Rw 138 3 q8 c8 (al.map Rp.cs)::bj (al.map Rp.bW)::L):=h2.ord [1];exact Bs hm hg hcap hb hin n (i+1) {u with s:=o.1,ps:=gy u.ps al[i].p.ar} (by omega) hf fS (vr hs _) (Nat.le_trans (Jm _ _) hl) h3 k1 k2
   ·rw[if_neg he] at hf;cases hf;simp only[he,decide_false,Bool.not_false,au];exact k2 he fS H1 h1
theorem sv (hm:dF B L m) (hg:m.g.In) (hcap:0≤m.g.cap∧m.g.cap<65000) (h:gA B H x m u L) (hok:aX m.g u.s) (hs:eT u.ps) (hl:u.ps.length≤8) (hin:∀p∈u.ps,Fy m.g p) {r:FS×List Pg×Int} (hf:gK m.g u.ps u.s u.ps=some r) (k:aX m.g r.1→∀H',gA B H' x m {u with s:=r.1,ps:=r.2.1} L→K (.int .i64 r.2.2) H'):cl 54 [.aj (some (x.js,0))] H K:=by
 have g:=Dn h;rw[aaj];simp only[Option.isSome_some,Nat.zero_add,g.i 6 (by omega),g.c6,AJ,reduceIte,Nat.reduceEqDiff];refine TE h.oi hs hl (fun q8 c8 H1 h1=> ?_);obtain⟨al,FQ,h2⟩:=az.aB h1;simp only[AJ,reduceIte,Nat.reduceEqDiff];have hla:al.length=u.ps.length:=by rw[←FQ,List.length_map]
 rw[←hla];have h3:gA B H1 x m u (Rw 138 3 q8 c8 (al.map Rp.cs)::bj (al.map Rp.bW)::L):=h2.ord [3,2,2,2,2,2];refine Bs hm hg hcap (by omega) (fun r hr=>hin _ (by rw[←FQ];exact List.mem_map.2 ⟨r,hr,rfl⟩)) al.length 0 u (by omega) (by rw[List.drop_zero,FQ];exact hf) hok hs hl h3 (fun h0 fh H4 h4=> ?_) (fun h0 fh H4 h4=> ?_)
 ·simp only[AJ,reduceIte,Nat.reduceEqDiff];have:=k fh H4 (h4.ord [6,6]).drop.drop;rw[h0] at this;exact this
 ·simp only[AJ,reduceIte,Nat.reduceEqDiff];exact k fh H4 (h4.ord [6,6]).drop.drop
end
def NW (g:bZ) (u:Un) (h:Int) (c:Cm) (bW:List UInt8):Option (Un×Rs×Int):=
 if uj h c g.cap.toNat=false then some (u,⟨0,[],R.zero⟩,1) else
 if UL u.r h c=false then some (u,⟨0,[],R.zero⟩,13) else
 if c.kd=0 then (if gx u.ps c.oj=true then some (u,⟨0,(vv u.ps c.oj).getD [],R.zero⟩,0) else match u.s.mZ c.oj.toNat with
  |none=>none
  |some t=>some (u,⟨0,t.data,R.zero⟩,0)) else
 if c.kd=1 then (match Dm g u.s u.ps ⟨c.oj,bW,false⟩ c.su with
  |none=>none
  |some r=>some ({u with s:=r.1,ps:=r.2.1},⟨0,[],R.zero⟩,r.2.2)) else
 if c.kd=2 then (match Dm g u.s u.ps ⟨c.oj,[],true⟩ c.su with
  |none=>none
  |some r=>some ({u with s:=r.1,ps:=r.2.1},⟨0,[],R.zero⟩,r.2.2)) else
 if c.kd=3 then (match gK g u.ps u.s u.ps with
  |none=>none
  |some r=>some ({u with s:=r.1,ps:=r.2.1},⟨0,[],R.zero⟩,r.2.2)) else
 if c.kd=9 then some (u,⟨0,[],u.r⟩,0) else
 if (doR u.r h c).2≠0∨fj (doR u.r h c).1.cs u.r.cs=true then some (u,⟨0,[],R.zero⟩,(doR u.r h c).2) else
 match tW g KF KF u.s (QW g.cap.toNat (gI (doR u.r h c).1 u.s.a.boots.toNat)) with
  |none=>none
  |some r=>if r.2=0 then some ({u with s:=r.1,r:=(doR u.r h c).1},⟨0,[],R.zero⟩,0) else some ({u with s:=r.1},⟨0,[],R.zero⟩,r.2)
def UM (g:bZ) (u:Un) (h:Int) (c:Cm) (bW:List UInt8):Option (Un×Rs×Int):=
 if (ja u).2≠0 then some ((ja u).1,⟨0,[],R.zero⟩,(ja u).2) else
 match NW g u h c bW with
  |none=>none
  |some r=>if r.2.2=7∨r.2.2=9 then some ({r.1 with down:=true},⟨0,[],R.zero⟩,r.2.2) else some (r.1,{r.2.1 with e:=r.2.2},0)
def UN (g:bZ) (u:Un):Option (Un×Int):=
 if (ja u).2≠0 then some (ja u) else
 match gK g u.ps u.s u.ps with
  |none=>none
  |some r=>some ({u with s:=r.1,ps:=r.2.1,down:=u.down||(decide (r.2.2=7)||decide (r.2.2=9))},r.2.2)
section
variable {B:af} {L:List cq} {H:af} {K:V→af→Prop} {x:Ui} {m:Gm} {u:Un}
structure NY (g:bZ) (u:Un):Prop where
 ok:aX g u.s
 jS:eT u.ps
 F6:u.ps.length≤8
 inr:∀p∈u.ps,Fy g p
theorem PX {ps:List Pg} {p:Pg} (h:(iT ps p).2=11):(iT ps p).1=ps:=by
 unfold iT at h⊢;split at h
 ·rename_i h1;rw[if_pos h1]
 ·rename_i h1;rw[if_neg h1];split at h
  ·rename_i h2;rw[if_pos h2]
  ·rename_i h2;rw[if_neg h2];split at h
   ·cases h
   ·rename_i h3;rw[if_neg h3];split at h
    ·rename_i h4;rw[if_pos h4]
    ·cases h
theorem KU {ps:List Pg} {a:Int} {p:Pg} (h:p∈gy ps a):p∈ps:=by
 unfold gy at h;split at h
 ·exact(List.eraseIdx_sublist ps _).subset h
 ·exact h
theorem Bt {g:bZ}:∀{l:List Pg} {s:FS} {ps:List Pg} {r:FS×List Pg×Int},gK g l s ps=some r→eT ps→ps.length≤8→(∀p∈ps,Fy g p)→eT r.2.1∧r.2.1.length≤8∧∀p∈r.2.1,Fy g p
 |[],s,ps,r,h,h1,h2,h3=>by rw[gK] at h;cases h;exact⟨h1,h2,h3⟩
 |p::l,s,ps,r,h,h1,h2,h3=>by
  rw[gK] at h;split at h
  ·cases h
  ·split at h
   ·exact Bt h (vr h1 _) (Nat.le_trans (Jm _ _) h2) (fun p hp=>h3 p (KU hp))
   ·cases h;exact⟨h1,h2,h3⟩
theorem PY (hm:dF B L m) (hg:m.g.In) (hcap:0≤m.g.cap∧m.g.cap<65000) (h:gA B H x m u L) (hu:NY m.g u) {p:Pg} (hp:Fy m.g p) {q:Oq} {c:Nat} (hr:lE B L q p.data) {sure:Bool} {r:FS×List Pg×Int} (hf:Dm m.g u.s u.ps p sure=some r) (k:∀H',gA B H' x m {u with s:=r.1,ps:=r.2.1} L→K (.int .i64 r.2.2) H'):cl 80 [.aj (some (x.js,0)),.agg (fP p.ar q p.data.length c p.cd),.bool sure] H K:=by
 have g:=Dn h;have hlo:=hp.lo;have hhi:=hp.hi;rw[aaz];unfold Dm at hf;by_cases hs:sure=true
 ·rw[if_pos hs] at hf;rw[hs,au]
  cases Uz:Fw m.g u.s p with
  |none=>rw[Uz] at hf;cases hf
  |some o=>
   rw[Uz] at hf;dsimp only at hf;refine Jl hm hg hcap.2 h hu.ok hp (fun _=>hr) Uz (fun fS H1 h1=> ?_);have g1:=Dn h1;simp only[AJ,reduceIte,Nat.reduceEqDiff];by_cases he:o.2=0
   ·rw[if_pos he] at hf;cases hf;simp only[he,decide_true,Bool.not_true,ai,Option.isSome_some,Nat.zero_add,g1.i 6 (by omega),g1.c6,AJ,reduceIte,Nat.reduceEqDiff];refine Jg h1.oi hu.jS hu.F6 ⟨by omega,by omega⟩ (fun H2 h2=> ?_);exact k H2 (h2.ord [1])
   ·rw[if_neg he] at hf;cases hf;simp only[he,decide_false,Bool.not_false,au];exact k H1 h1
 ·rw[if_neg hs] at hf;have hs':sure=false:=by simpa using hs
  rw[hs',ai];simp only[Option.isSome_some,Nat.zero_add,g.i 6 (by omega),g.c6,AJ,reduceIte,Nat.reduceEqDiff];refine NH h.oi hu.jS hu.F6 p ⟨by omega,by omega⟩ (fun _=>hr H h.drop.drop.drop.drop.drop.drop) (fun H1 h1=> ?_);simp only[AJ,reduceIte,Nat.reduceEqDiff];by_cases BD:(iT u.ps p).2=11
  ·rw[if_neg (fun e=>e BD)] at hf;simp only[BD,decide_true,Bool.not_true,ai];have he:=PX BD;rw[he] at h1;have h2:gA B H1 x m u L:=h1.ord [1]
   cases hfl:gK m.g u.ps u.s u.ps with
   |none=>rw[hfl] at hf;cases hf
   |some o=>
    rw[hfl] at hf;dsimp only at hf;refine sv hm hg hcap h2 hu.ok hu.jS hu.F6 hu.inr hfl (fun fh H2 h2=> ?_);have g2:=Dn h2;simp only[AJ,reduceIte,Nat.reduceEqDiff];by_cases h0:o.2.2=0
    ·rw[if_pos h0] at hf;cases hf;simp only[h0,decide_true,Bool.not_true,ai,Option.isSome_some,Nat.zero_add,g2.i 6 (by omega),g2.c6,AJ,reduceIte,Nat.reduceEqDiff];have hfp:=Bt hfl hu.jS hu.F6 hu.inr;refine NH h2.oi hfp.1 hfp.2.1 p ⟨by omega,by omega⟩ (fun _=>hr H2 h2.drop.drop.drop.drop.drop.drop) (fun H3 h3=> ?_);simp only[AJ,reduceIte,Nat.reduceEqDiff];exact k H3 (h3.ord [1])
    ·rw[if_neg h0] at hf;cases hf;simp only[h0,decide_false,Bool.not_false,au];exact k H2 h2
  ·rw[if_pos BD] at hf;cases hf;simp only[BD,decide_false,Bool.not_false,au];exact k H1 (h1.ord [1])
theorem ur (m:Gm):vU (ee m.g.aF m.g.aB m.g.aG m.q m.g.bP.length m.c)=ee m.g.aF m.g.aB m.g.aG m.q m.g.bP.length m.c:=rfl
theorem uu (m:Gm):aJ AF (ee m.g.aF m.g.aB m.g.aG m.q m.g.bP.length m.c)=true:=rfl
theorem Fz {ps:List Pg} (hs:eT ps) {a:Int} (hh:gx ps a=true) (hp:bM ps a<ps.length):(vv ps a).getD []=(ps[bM ps a]).data:=by
 rw[KK hs hh hp];rfl
theorem PZ (hm:dF B L m) (hg:m.g.In) (hcap:0≤m.g.cap∧m.g.cap<65000) (h:gA B H x m u L) (hu:NY m.g u) (hh:Int) (c:Cm) (bW:List UInt8) (hd:c.dn=bW.length) (hr:lE B L c.dp bW) (US:(doR u.r hh c).1.ok) (hb:0≤u.s.a.boots∧u.s.a.boots<2147483648) {r:Un×Rs×Int} (hf:NW m.g u hh c bW=some r) (k:∀q n H',gA B H' x m r.1 (BY q n r.2.1.d::L)→K (.tuple [.agg (r.2.1.cs q n),.int .i64 r.2.2]) H'):cl 45 [.aj (some (x.js,0)),.int .i64 hh,.agg c.cs] H K:=by
 have g:=Dn h;obtain⟨N,hN⟩:∃N:Nat,m.g.cap=(N:Int):=⟨m.g.cap.toNat,by omega⟩;have nil:∀{u':Un} {H':af},gA B H' x m u' L→gA B H' x m u' (BY none 0 []::L):=fun h'=>(jZ h').ord [1,1,1,1,1,1]
 have ZH:∀A1 A2 A3 A4 A5 A6:cq,dF B (A1::A2::A3::A4::A5::A6::L) m:=fun A1 A2 A3 A4 A5 A6=>(((((hm.bO _).bO _).bO _).bO _).bO _).bO _
 conv in c.cs=>unfold Cm.cs
 rw[aah];simp only[Cm.zh,Option.isNone_some,Option.isSome_some,Option.getD_some,ai,ay,Nat.zero_add,g.g.1,g.g.2,ur,uu,Bool.and_self,qM,qN,n7];refine GP h (ZH _ _ _ _ _ _) hg (fun H1 h1=> ?_);have h1:gA B H1 x m u L:=h1;have g1:=Dn h1;simp only[dW,bI,ay,hN,NT,NU,gS,cn,g1.r.1,g1.r.2,R.dX,R.eU,Bool.and_self,Fu];unfold NW at hf;rw[hN,Int.toNat_natCast] at hf;cases hv:uj hh c N
 ·rw[if_pos hv] at hf;cases hf;simp only[Bool.not_false,au];exact k none 0 H1 (nil h1)
 rw[if_neg (by simp [hv])] at hf;simp only[Bool.not_true,ai];have Qh:=hv;unfold uj at Qh;simp only[Bool.and_eq_true,Bool.or_eq_true,Bool.not_eq_true',Bool.or_eq_false_iff,decide_eq_true_eq,decide_eq_false_iff_not] at Qh;obtain⟨⟨⟨⟨v1,v2⟩,v3⟩,v4⟩,v5⟩:=Qh;cases hmy:UL u.r hh c
 ·rw[if_pos hmy] at hf;cases hf;simp only[Bool.not_false,au];exact k none 0 H1 (nil h1)
 rw[if_neg (by simp [hmy])] at hf;simp only[Bool.not_true,ai];by_cases k0:c.kd=0
 ·rw[if_pos k0] at hf;simp only[k0,decide_true,au,g1.i 6 (by omega),g1.c6,qm,jj,Bool.and_self,ay];have wK:=v4.resolve_left (fun e=>e.1.1 k0);refine TD h1.oi hu.jS hu.F6 ⟨by omega,by omega⟩ (fun hno H2 h2=> ?_) (fun hp q' c' H2 hyes ha h2=> ?_)
  ·rw[if_neg (by simp [hno])] at hf;have h2:gA B H2 x m u L:=h2.ord [1];have g2:=Dn h2
   cases sA:u.s.mZ c.oj.toNat with
   |none=>rw[sA] at hf;cases hf
   |some t=>
    rw[sA] at hf;cases hf;simp only[AJ,reduceIte,Nat.reduceEqDiff,Option.isSome_some,Nat.zero_add,g2.i 5 (by omega),g2.c5];obtain⟨a,ha⟩:∃a:Nat,c.oj=(a:Int):=⟨c.oj.toNat,by omega⟩;rw[ha,Int.toNat_natCast] at sA;rw[ha];refine E7 ((hm.bO _).bO _) h2.fs hu.ok hg (by omega) sA (fun q3 c3 H3 h3=> ?_);simp only[AJ,reduceIte,Nat.reduceEqDiff];exact k q3 c3 H3 (h3.ord [5,5])
  ·rw[if_pos hyes] at hf;cases hf;have h3:gA B H2 x m u (BY q' c' (u.ps[bM u.ps c.oj]).data::L):=h2.ord [2,1,1,1,1,1];simp only[AJ,reduceIte,Nat.reduceEqDiff];have:=k q' c' H2 (by rw[Fz hu.jS hyes hp];exact h3);unfold Rs.cs at this;simp only[Fz hu.jS hyes hp] at this;exact this
 rw[if_neg k0] at hf;simp only[k0,decide_false,ai];have hN':m.g.cap.toNat=N:=by omega
 have hput:∀p:Pg,Fy m.g p→∀(q:Oq) (cc:Nat),lE B L q p.data→(match Dm m.g u.s u.ps p c.su with
  |none=>none
  |some r=>some ({u with s:=r.1,ps:=r.2.1},(⟨0,[],R.zero⟩:Rs),r.2.2))=some r→
  cl 80 [.aj (some (x.js,0)),.agg (fP p.ar q p.data.length cc p.cd),.bool c.su] H1 (fun v H'=>ag (V.av (.int .i64) v) (K (V.tuple [V.agg (Ek 0 none 0 0 0 0 0 0 0 0 0 0 0 0 0 false),V.int .i64 (V.aa v)]) H')):=by
  intro p hp q cc hrd hf
  cases UA:Dm m.g u.s u.ps p c.su with
  |none=>rw[UA] at hf;cases hf
  |some o=>
   rw[UA] at hf;cases hf;refine PY hm hg hcap h1 hu hp hrd UA (fun H2 h2=> ?_);simp only[AJ,reduceIte,Nat.reduceEqDiff];exact k none 0 H2 (nil h2)
 by_cases k1:c.kd=1
 ·rw[if_pos k1] at hf;simp only[k1,decide_true,au];have wK:=v4.resolve_left (fun e=>e.1.2 k1);have hdn:c.dn≤64:=v5.resolve_left (fun e=>e k1);rw[hd];exact hput ⟨c.oj,bW,false⟩ ⟨wK.1,by show c.oj≤_;omega,by show bW.length≤64;omega⟩ c.dp c.dc hr hf
 rw[if_neg k1] at hf;simp only[k1,decide_false,ai];by_cases k2:c.kd=2
 ·rw[if_pos k2] at hf;simp only[k2,decide_true,au];have wK:=v4.resolve_left (fun e=>e.2 k2);exact hput ⟨c.oj,[],true⟩ ⟨wK.1,by show c.oj≤_;omega,Nat.zero_le _⟩ none 0 (lE.nil _ _ _) hf
 rw[if_neg k2] at hf;simp only[k2,decide_false,ai];by_cases k3:c.kd=3
 ·rw[if_pos k3] at hf;simp only[k3,decide_true,au]
  cases hfl:gK m.g u.ps u.s u.ps with
  |none=>rw[hfl] at hf;cases hf
  |some o=>
   rw[hfl] at hf;cases hf;refine sv hm hg hcap h1 hu.ok hu.jS hu.F6 hu.inr hfl (fun fh H2 h2=> ?_);simp only[AJ,reduceIte,Nat.reduceEqDiff];exact k none 0 H2 (nil h2)
 rw[if_neg k3] at hf;simp only[k3,decide_false,ai];by_cases k9:c.kd=9
 ·rw[if_pos k9] at hf;cases hf;simp only[k9,decide_true,au];exact k none 0 H1 (nil h1)
 rw[if_neg k9] at hf;simp only[k9,decide_false,ai,g1.r.1,g1.r.2,R.dX,R.eU,Bool.and_self,ay,XU,dZ,gr,eF,iH,fl,cY,dW,bI,Bool.or_false,List.length_cons,List.length_nil,Nat.reduceAdd,jx,decide_true,Option.isSome_some,Bool.true_and,Bool.and_true,aO,ite_self];obtain⟨d,Om⟩:∃d,d=doR u.r hh c:=⟨_,rfl⟩;rw[←Om] at hf US⊢;by_cases hq1:d.2=0
 case neg=>
  rw[if_pos (.inl hq1)] at hf;cases hf;simp only[hq1,decide_false,Bool.not_false,Bool.not_true,cond_false,au];exact k none 0 H1 (nil h1)
 simp only[hq1,decide_true,Bool.not_true,Bool.not_false,cond_true];cases OH:fj d.1.cs u.r.cs
 case true=>
  rw[if_pos (.inr OH)] at hf;cases hf;rw[au];have:=k none 0 H1 (nil h1);simp only[hq1] at this;exact this
 rw[if_neg (by simp [hq1,OH])] at hf;rw[ai];obtain⟨bt,OF⟩:∃bt:Nat,u.s.a.boots=(bt:Int):=⟨u.s.a.boots.toNat,by omega⟩;rw[OF,Int.toNat_natCast] at hf
 cases UA:tW m.g KF KF u.s (QW N (gI d.1 bt)) with
 |none=>rw[UA] at hf;cases hf
 |some o=>
  rw[UA] at hf;dsimp only at hf;refine kv (fun S:Am.St=>S.1 14=some (T.v (V.int .i64 o.2))∧gA B S.3 x m {u with s:=o.1} L) (fun(S:Am.St) Qw=> ?_) (fun Q hQ=> ?_)
  ·obtain⟨abA,hS⟩:=Qw;generalize S.3=H2 at hS⊢;have g2:=Dn hS;simp only[abA,AJ,reduceIte,Nat.reduceEqDiff];by_cases h0:o.2=0
   ·rw[if_pos h0] at hf;cases hf;simp only[h0,decide_true,Bool.not_true,ai,Option.isSome_some,Nat.zero_add,g2.wr,ay];have h3:=hS.store (off:=7) (vs:=d.1.cs);have e2:bL (KR x m {u with s:=o.1}) 7 d.1.cs=KR x m {u with s:=o.1,r:=d.1}:=rfl;rw[e2] at h3;exact k none 0 _ (nil h3)
   ·rw[if_neg h0] at hf;cases hf;simp only[h0,decide_false,Bool.not_false,au];exact k none 0 H2 (nil hS)
  ·have MT:∀(K:V→af→Prop),(∀H',gA B H' x m u L→K (.int .i64 (N:Int)) H')→cl 40 [V.agg (ee m.g.aF m.g.aB m.g.aG m.q m.g.bP.length m.c)] H1 K:=fun K k=>by
    rw[←hN] at k;exact tF h1 (ZH _ _ _ _ _ _) hg (fun H' h'=>k H' h')
   have BO:∀(H':af) (K:V→af→Prop),gA B H' x m u L→cl 43 [V.aj (some (x.aH,0))] H' K=K (.int .i64 (bt:Int)) H':=fun H' K h'=>by
    rw[EK h'.sG,OF]
   have EN:∀(H':af) (K:V→af→Prop),gA B H' x m u L→(∀q' c' H2,gA B H2 x m u (BY q' c' (gI d.1 bt)::L)→K (.slice q' (gI d.1 bt).length c') H2)→cl 83 [V.agg d.1.cs,V.int .i64 (bt:Int)] H' K:=fun H' K h' k=>
    KP d.1 US bt (by omega) (by omega) h' (fun q' c' H2 h2=>k q' c' H2 (h2.ord [1,1,1,1,1,1]))
   have hel:(gI d.1 bt).length≤64:=by rw[uk];omega
   have WR:∀(H':af) (q':Oq) (c':Nat) (K:V→af→Prop),gA B H' x m u (BY q' c' (gI d.1 bt)::L)→(∀H2,gA B H2 x m {u with s:=o.1} L→K (.int .i64 o.2) H2)→cl 82 [V.aj (some (x.fid,0)),V.int .i64 (N:Int),V.slice q' (gI d.1 bt).length c'] H' K:=fun H' q' c' K h' k=>by
    refine Ba (((hm.bO _).bO _).bO _) hg hcap.2 (L:=cR x.js 93 (KR x m u)::eC x.z9 u.ps::BY q' c' (gI d.1 bt)::L) (fun H hs=>(hs.ord [2]).iY) (by omega) hel UA hu.ok h'.fs (fun fh H2 h2=>k H2 ?_);exact((h2.ord [4,4,4]).ord [2]).drop
   simp only[Option.isSome_some,Nat.zero_add,g1.i 5 (by omega),g1.c5,g1.i 0 (by omega),g1.c0,g1.g.1,g1.g.2,ur,uu,AJ,reduceIte,Nat.reduceEqDiff]
   repeat' apply And.intro
   all_goals
    refine MT _ (fun H2 h2=> ?_);have g2:=Dn h2;simp only[Option.isSome_some,Nat.zero_add,g2.i 5 (by omega),g2.c5,g2.i 0 (by omega),g2.c0,AJ,reduceIte,Nat.reduceEqDiff,BO H2 _ h2]
    repeat' apply And.intro
    all_goals
     refine EN H2 _ h2 (fun q3 c3 H3 h3=> ?_);have g3:=Dn h3;simp only[Option.isSome_some,Nat.zero_add,g3.i 5 (by omega),g3.c5,AJ,reduceIte,Nat.reduceEqDiff];refine WR H3 q3 c3 _ h3 (fun H4 h4=> ?_);simp only[AJ,reduceIte,Nat.reduceEqDiff];exact hQ _ ⟨rfl,h4⟩
end
section
variable {B:af} {L:List cq} {H:af} {K:V→af→Prop} {x:Ui} {m:Gm} {u:Un}
theorem Bu (u:Un):(ja u).1.s=u.s∧(ja u).1.ps=u.ps∧(ja u).1.r=u.r∧((ja u).2=0→(ja u).1=u):=by
 unfold ja;split
 ·exact⟨rfl,rfl,rfl,fun h=>by cases h⟩
 split
 ·exact⟨rfl,rfl,rfl,fun h=>by cases h⟩
 ·exact⟨rfl,rfl,rfl,fun _=>rfl⟩
theorem TO (hm:dF B L m) (hg:m.g.In) (hcap:0≤m.g.cap∧m.g.cap<65000) (h:gA B H x m u L) (hu:NY m.g u) (hh:Int) (c:Cm) (bW:List UInt8) (hd:c.dn=bW.length) (hr:lE B L c.dp bW) (US:(doR u.r hh c).1.ok) (hb:0≤u.s.a.boots∧u.s.a.boots<2147483648) {r:Un×Rs×Int} (hf:UM m.g u hh c bW=some r) (k:∀q n H',gA B H' x m r.1 (BY q n r.2.1.d::L)→K (.tuple [.agg (r.2.1.cs q n),.int .i64 r.2.2]) H'):cl 16 [.aj (some (x.js,0)),.int .i64 hh,.agg c.cs] H K:=by
 have nil:∀{u':Un} {H':af},gA B H' x m u' L→gA B H' x m u' (BY none 0 []::L):=fun h'=>(jZ h').ord [1,1,1,1,1,1]
 conv in c.cs=>unfold Cm.cs
 rw[Z7];simp only[Cm.zh,Option.isNone_some,ai];refine Fx h (fun H1 h1=> ?_);simp only[AJ,reduceIte,Nat.reduceEqDiff];unfold UM at hf;by_cases hl:(ja u).2=0
 case neg=>
  rw[if_pos hl] at hf;cases hf;simp only[hl,decide_false,Bool.not_false,au];exact k none 0 H1 (nil h1)
 rw[if_neg (fun e=>e hl)] at hf;rw[(Bu u).2.2.2 hl] at h1;simp only[hl,decide_true,Bool.not_true,ai]
 cases ho:NW m.g u hh c bW with
 |none=>rw[ho] at hf;cases hf
 |some o=>
  rw[ho] at hf;dsimp only at hf;refine PZ hm hg hcap h1 hu hh c bW hd hr US hb ho (fun q n H2 h2=> ?_);have h2:gA B H2 x m o.1 (BY q n o.2.1.d::L):=h2;have g2:=Dn h2;simp only[AJ,reduceIte,Nat.reduceEqDiff,Rs.aJ,Rs.n1];by_cases Y5:o.2.2=7∨o.2.2=9
  ·rw[if_pos Y5] at hf;cases hf;have h3:gA B _ x m {o.1 with down:=true} L:=((h2.uo true).ord [6]).drop;by_cases h7:o.2.2=7
   ·simp only[h7,decide_true,Bool.not_true,cond_false,au,Option.isSome_some,Nat.zero_add,g2.w,AJ,reduceIte,Nat.reduceEqDiff];have:=k none 0 _ (nil h3);simp only[h7] at this;exact this
   ·have h9:o.2.2=9:=Y5.resolve_left h7;simp only[h9,decide_true,au,Option.isSome_some,Nat.zero_add,g2.w,AJ,reduceIte,Nat.reduceEqDiff];have:=k none 0 _ (nil h3);simp only[h9] at this;exact this
  ·rw[if_neg Y5] at hf;cases hf;have h7:¬o.2.2=7:=fun e=>Y5 (.inl e)
   have h9:¬o.2.2=9:=fun e=>Y5 (.inr e)
   simp only[h7,h9,decide_false,Bool.not_false,cond_true,ai];exact k q n H2 h2
theorem TP (hm:dF B L m) (hg:m.g.In) (hcap:0≤m.g.cap∧m.g.cap<65000) (h:gA B H x m u L) (hu:NY m.g u) {r:Un×Int} (hf:UN m.g u=some r) (k:∀H',gA B H' x m r.1 L→K (.int .i64 r.2) H'):cl 25 [.aj (some (x.js,0))] H K:=by
 rw[aaa];simp only[Option.isNone_some,ai];refine Fx h (fun H1 h1=> ?_);simp only[AJ,reduceIte,Nat.reduceEqDiff];unfold UN at hf;by_cases hl:(ja u).2=0
 case neg=>
  rw[if_pos hl] at hf;cases hf;simp only[hl,decide_false,Bool.not_false,au];exact k H1 h1
 rw[if_neg (fun e=>e hl)] at hf;rw[(Bu u).2.2.2 hl] at h1;simp only[hl,decide_true,Bool.not_true,ai]
 cases hfl:gK m.g u.ps u.s u.ps with
 |none=>rw[hfl] at hf;cases hf
 |some o=>
  rw[hfl] at hf;cases hf;refine sv hm hg hcap h1 hu.ok hu.jS hu.F6 hu.inr hfl (fun fh H2 h2=> ?_);have h2:gA B H2 x m {u with s:=o.1,ps:=o.2.1} L:=h2;have g2:=Dn h2
  have w:∀b:Bool,(u.down||(decide (o.2.2=7)||decide (o.2.2=9)))=b→K (.int .i64 o.2.2) (H2.store x.js 19 [.bool b]):=fun b hb=>by
   subst hb;exact k _ (h2.uo _)
  simp only[Option.isSome_some,Nat.zero_add,g2.i 19 (by omega),g2.c19,g2.w,AJ,reduceIte,Nat.reduceEqDiff];cases hdn:u.down
  ·simp only[Bool.not_false,au];by_cases h7:o.2.2=7
   ·have:=w true (by simp [h7]);simp only[h7,decide_true,Bool.not_true,ai] at this⊢;exact this
   ·simp only[h7,decide_false,Bool.not_false,au];by_cases h9:o.2.2=9
    ·have:=w true (by simp [h9]);simp only[h9,decide_true] at this⊢;exact this
    ·have:=w false (by simp [h7,h9,hdn]);simp only[h9,decide_false];exact this
  ·simp only[Bool.not_true,ai];exact w true (by simp [hdn])
def uM (g:bZ) (s:FS):Option Un:=match s.mZ g.cap.toNat with
 |none=>none
 |some t=>if t.data.length=0 then some ⟨s,[],R.gX,false⟩ else match Dl t.data with
  |none=>none
  |some d=>some ⟨s,[],oo d.1 d.2 s.a.boots,false⟩
theorem KV {aH:Nat} {a:Ar} (h:az B H (df aH a::L)) (hm:dF B L m) (hf:m.g.cM=true) (hg:m.g.In) (hr:a.rd m.g) (hc:0≤m.g.cap∧m.g.cap<65000) {ep:Nat} (Lp:1≤ep∧ep<281474976710656) (uC:∀sq,(cx m.g sq a ep).2=0→∃v,uM m.g (cx m.g sq a ep).1=some v) (k1:∀pz x v H',x.aH=aH→wR pz=a.z5 m.g→(cx m.g (eh pz) a ep).2=0→aX m.g (cx m.g (eh pz) a ep).1→uM m.g (cx m.g (eh pz) a ep).1=some v→gA B H' x m v L→K (.tuple [.aj (some (x.js,0)),.int .i64 0]) H') (k2:∀pz H',wR pz=a.z5 m.g→(cx m.g (eh pz) a ep).2≠0→aX m.g (cx m.g (eh pz) a ep).1→az B H' (df aH (cx m.g (eh pz) a ep).1.a::L)→K (.tuple [.aj none,.int .i64 (cx m.g (eh pz) a ep).2]) H'):cl 13 [.aj (some (aH,0)),m.v,.int .u64 (ep:Int)] H K:=by
 obtain⟨N,hN⟩:∃N:Nat,m.g.cap=(N:Int):=⟨m.g.cap.toNat,by omega⟩;have hv:m.v=.agg (ee m.g.aF m.g.aB m.g.aG m.q m.g.bP.length m.c):=rfl;rw[hv,Z5, ←hv];simp only[Option.isNone_some,ai];refine Kt h hm hf hg hr hc Lp (fun pz fid mid pid H1 Ga DA h0 hok h1=> ?_) (fun pz H1 Ga DA h0 hok h1=> ?_)
 ·simp only[AN,reduceIte,Nat.reduceEqDiff];obtain⟨v,Jz⟩:=uC (eh pz) h0;obtain⟨s,hs⟩:∃s,s=(cx m.g (eh pz) a ep).1:=⟨_,rfl⟩;have Qt:=k1 pz;rw[←hs] at h1 hok Jz Qt;refine kv (fun S:Am.St=>∃js z9,S.1 10=some (T.v (V.aj (some (js,0))))∧gA B S.3 ⟨js,z9,aH,fid,mid,pid⟩ m ⟨s,[],R.gX,false⟩ L) (fun(S:Am.St) Qw=> ?_) (fun Q hQ=> ?_)
  ·obtain⟨js,z9,abB,hS⟩:=Qw;generalize S.3=H2 at hS⊢;have ZH:∀A1 A2 A3 A4 A5 A6:cq,dF B (A1::A2::A3::A4::A5::A6::L) m:=fun A1 A2 A3 A4 A5 A6=>(((((hm.bO _).bO _).bO _).bO _).bO _).bO _
   simp only[abB,AJ,reduceIte,Nat.reduceEqDiff];refine tF hS (ZH _ _ _ _ _ _) hg (fun H3 h3=> ?_);have h3:gA B H3 ⟨js,z9,aH,fid,mid,pid⟩ m ⟨s,[],R.gX,false⟩ L:=h3;simp only[AJ,reduceIte,Nat.reduceEqDiff,hN];unfold uM at Jz;rw[hN,Int.toNat_natCast] at Jz
   cases sA:s.mZ N with
   |none=>rw[sA] at Jz;cases Jz
   |some t=>
    rw[sA] at Jz;dsimp only at Jz;refine E7 ((hm.bO _).bO _) h3.fs hok hg (by omega) sA (fun q3 c3 H4 h4=> ?_);have h5:gA B H4 ⟨js,z9,aH,fid,mid,pid⟩ m ⟨s,[],R.gX,false⟩ (BY q3 c3 t.data::L):=h4.ord [5,5];have pX:=(az.J1 (h4.ord [4])).2.2.1;simp only[AJ,reduceIte,Nat.reduceEqDiff];by_cases hl:t.data.length=0
    ·rw[if_pos hl] at Jz;cases Jz;have e:¬((t.data.length:Nat):Int)>0:=by omega
     simp only[e,decide_false,ai]
     exact Qt ⟨js,z9,aH,fid,mid,pid⟩ _ H4 rfl Ga h0 hok (by
      unfold uM;rw[hN,Int.toNat_natCast,sA];simp only;rw[if_pos hl]) (h5.ord [6]).drop
    ·rw[if_neg hl] at Jz;have e:((t.data.length:Nat):Int)>0:=by omega
     simp only[e,decide_true,au]
     cases hd:Dl t.data with
     |none=>rw[hd] at Jz;cases Jz
     |some d=>
      rw[hd] at Jz;cases Jz;refine KQ h5 (fun H hs=>(hs.ord [6]).iY) pX (fun H6 h6=> ?_);have h6:gA B H6 ⟨js,z9,aH,fid,mid,pid⟩ m ⟨s,[],R.gX,false⟩ (BY q3 c3 t.data::L):=h6;have g6:=Dn h6;rw[hd];unfold Hw;simp only[AJ,reduceIte,Nat.reduceEqDiff,R.dX,R.eU];rw[EK h6.sG];simp only[AJ,reduceIte,Nat.reduceEqDiff,R.dX,R.eU,PV,Option.isSome_some,Nat.zero_add,g6.wr];have h7:=h6.store (off:=7) (vs:=(oo d.1 (d.2:Int) s.a.boots).cs);have e2:bL (KR ⟨js,z9,aH,fid,mid,pid⟩ m ⟨s,[],R.gX,false⟩) 7 (oo d.1 (d.2:Int) s.a.boots).cs=KR ⟨js,z9,aH,fid,mid,pid⟩ m ⟨s,[],oo d.1 (d.2:Int) s.a.boots,false⟩:=rfl;rw[e2] at h7
      exact Qt ⟨js,z9,aH,fid,mid,pid⟩ _ _ rfl Ga h0 hok (by
       unfold uM;rw[hN,Int.toNat_natCast,sA];simp only;rw[if_neg hl,hd]) (h7.ord [6]).drop
  ·simp only[Jh,AJ,reduceIte,Nat.reduceEqDiff];have a1:=KO h1;refine⟨?_, ?_⟩
   all_goals
    have a2:=a1.alloc 93 (KR ⟨0,H1.next,aH,fid,mid,pid⟩ m ⟨s,[],R.gX,false⟩);exact hQ _ ⟨_,H1.next,rfl,a2⟩
 ·simp only[h0,decide_false,Bool.not_false,au,AJ,reduceIte,Nat.reduceEqDiff];exact k2 pz H1 Ga h0 hok h1
end
theorem Bv (k:Nat→Int):∀(n:Nat) (t:List UInt8) (i:Nat),i<n→((wH k n++t).drop (4*i)).take 4=le (k i).toNat 4
 |n+1,t,i,h=>by
  rw[wH,List.append_assoc];by_cases hi:i=n
  ·subst hi;rw[List.drop_left' (by rw[fR]),List.take_left' (by simp)]
  ·exact Bv k n _ i (by omega)
theorem vy (r:R) (n:Nat):gI r n=wH r.k 8++(UInt8.ofNat r.ty.toNat::UInt8.ofNat (r.ho+1).toNat::(le r.ge.toNat 4++(UInt8.ofNat (if r.la=true then 1 else 0)::le n 4))):=by
 simp [gI,le]
theorem qC (r:R) (n j:Nat):(gI r n).getD (32+j) 0=(UInt8.ofNat r.ty.toNat::UInt8.ofNat (r.ho+1).toNat::(le r.ge.toNat 4++(UInt8.ofNat (if r.la=true then 1 else 0)::le n 4))).getD j 0:=by
 rw[vy,List.getD_eq_getElem?_getD,List.getD_eq_getElem?_getD,List.getElem?_append_right (by rw[fR];omega),fR];congr 2;omega
theorem Bw (r:R) (n j:Nat):(gI r n).drop (32+j)=(UInt8.ofNat r.ty.toNat::UInt8.ofNat (r.ho+1).toNat::(le r.ge.toNat 4++(UInt8.ofNat (if r.la=true then 1 else 0)::le n 4))).drop j:=by
 rw[vy, ←List.drop_drop,List.drop_left' (by rw[fR])]
theorem zr {n:Nat} (h:n<4294967296):dm (le n 4)=n:=by
 rw[wO];exact Nat.mod_eq_of_lt (by simpa using h)
theorem FA (bs:List UInt8) (i:Nat):(lu bs).k i=if i<8 then ((dm ((bs.drop (4*i)).take 4):Nat):Int) else 0:=rfl
theorem KW (bs:List UInt8):(lu bs).ty=((bs.getD 32 0).toNat:Int):=rfl
theorem KX (bs:List UInt8):(lu bs).ho=((bs.getD 33 0).toNat:Int)-1:=rfl
theorem KY (bs:List UInt8):(lu bs).ge=((dm ((bs.drop 34).take 4):Nat):Int):=rfl
theorem KZ (bs:List UInt8):(lu bs).la=decide (((bs.getD 38 0).toNat:Int)=1):=rfl
theorem K3 {r:R} (hr:r.ok) (h7:r.ho≤7) {n:Nat} (hn:n<2147483648):(lu (gI r n)).cs=r.cs∧ni (gI r n)=true∧dm (((gI r n).drop 39).take 4)=n:=by
 have k1:=hr.ty;have k2:=hr.ho;have k3:=hr.ge;have g32:(gI r n).getD 32 0=UInt8.ofNat r.ty.toNat:=qC r n 0;have g33:(gI r n).getD 33 0=UInt8.ofNat (r.ho+1).toNat:=qC r n 1
 have g38:(gI r n).getD 38 0=UInt8.ofNat (if r.la=true then 1 else 0):=by
  have:=qC r n 6;rw[this];simp [le]
 have g42:(gI r n).getD 42 0=UInt8.ofNat (n / 256 / 256 / 256):=by
  have:=qC r n 10;rw[this];simp [le]
 have d34:((gI r n).drop 34).take 4=le r.ge.toNat 4:=by
  have:=Bw r n 2;rw[this];simp [le]
 have d39:((gI r n).drop 39).take 4=le n 4:=by
  have:=Bw r n 7;rw[this];simp [le]
 refine⟨?_, ?_, ?_⟩
 ·apply R.NM
  ·intro i hi;have hk:=hr.k i;rw[FA,if_pos hi,vy,Bv _ _ _ _ hi,zr (by omega)];omega
  ·rw[KW,g32];simp;omega
  ·rw[KX,g33];simp;omega
  ·rw[KY,d34,zr (by omega)];omega
  ·rw[KZ,g38];cases r.la<;>simp
 ·unfold ni;rw[g33,g38,g42,uk];have e1:(UInt8.ofNat (r.ho+1).toNat).toNat≤8:=by simp;omega
  have e2:(UInt8.ofNat (if r.la=true then 1 else 0)).toNat≤1:=by cases r.la<;>simp
  have e3:(UInt8.ofNat (n / 256 / 256 / 256)).toNat≤127:=by simp;omega
  rw[decide_eq_true e1,decide_eq_true e2,decide_eq_true e3];simp
 ·rw[d39,zr (by omega)]
theorem P1 {r s:R} (h:r.cs=s.cs):om r=om s:=by
 obtain⟨hk,h1,h2,h3,h4⟩:=(R.Dd r s).1 ((R.vt r s).2 h)
 have hs:lq r.k 8=lq s.k 8:=by
  simp only[lq];rw[hk 0 (by omega),hk 1 (by omega),hk 2 (by omega),hk 3 (by omega),hk 4 (by omega),hk 5 (by omega),hk 6 (by omega),hk 7 (by omega)]
 unfold om zn;rw[h1,h2,hs];by_cases h8:s.ho≥8
 ·simp [h8]
 ·by_cases h0:s.ho≥0
  ·rw[hk s.ho.toNat (by omega)]
  ·by_cases h9:s.ho< -1
   ·simp [h9]
   ·have:s.ho= -1:=by omega
    rw[this];have:Int.toNat (-1)=0:=rfl;rw[this,hk 0 (by omega)]
theorem P3 {r:R} (hr:r.ok) (hf:om r=true) {n:Nat} (hn:n<2147483648):∃s,Dl (gI r n)=some (s,n)∧s.cs=r.cs:=by
 have h7:r.ho≤7:=by
  unfold om at hf;simp at hf;omega
 obtain⟨h1,h2,h3⟩:=K3 hr h7 hn;refine⟨lu (gI r n), ?_,h1⟩;unfold Dl;rw[if_pos ⟨h2,by rw[P1 h1];exact hf⟩,h3]
structure fB (r:R):Prop where
 k:∀i,0≤r.k i∧r.k i≤4294967295
 nz:∀i,8≤i→r.k i=0
 wG:F5 r
 ge:0≤r.ge∧r.ge≤4294967295
theorem fB.gX:fB R.gX:=⟨fun _=>by show (0:Int)≤0∧(0:Int)≤_;omega,fun _ _=>rfl,TH,by show (0:Int)≤0∧(0:Int)≤_;omega⟩
theorem fB.Q6 {r:R} (h:fB r): -1≤r.ho∧r.ho≤7:=by
 by_cases h0:r.ty=0
 ·rw[h.wG.none h0];omega
 ·by_cases h8:uh r.ty=true
  ·rw[h.wG.all h8];omega
  ·obtain⟨i,hi,e,_⟩:=h.wG.one h0 (by simpa using h8);omega
theorem fB.ok {r:R} (h:fB r):r.ok where
 k:=h.k
 ty:=by
  rcases h.wG.ty with e|e
  ·omega
  ·have:=vu.1 e;omega
 ho:=by have:=h.Q6;omega
 ge:=h.ge
theorem fB.cM {r:R} (h:fB r):om r=true:=by
 have hho:=h.Q6;unfold om;have e1:decide (r.ho< -1)=false:=decide_eq_false (by omega);have e2:decide (r.ho≥8)=false:=decide_eq_false (by omega);rw[e1,e2];simp only[Bool.not_false,Bool.true_and];by_cases h0:r.ty=0
 ·have hone:zn r=false:=by simp [zn,h0]
  have e3:decide (r.ho≥0)=false:=by rw[h.wG.none h0];decide
  rw[hone,e3];simp [h0]
 ·have hr:right r.ty=true:=h.wG.ty.resolve_left h0;have hsm:lq r.k 8=true:=Bn.2 (h.wG.some h0);by_cases h8:uh r.ty=true
  ·have hone:zn r=false:=by simp [zn,h8]
   have e3:decide (r.ho≥0)=false:=by rw[h.wG.all h8];decide
   rw[hone,e3,hr,hsm];simp
  ·have ZG:uh r.ty=false:=by simpa using h8
   have hone:zn r=true:=by simp [zn,h0,ZG]
   obtain⟨i,hi,e,hk⟩:=h.wG.one h0 ZG;have e3:decide (r.ho≥0)=true:=by rw[e];simp
   have e4:r.ho.toNat=i:=by omega
   rw[hone,e3,hr,hsm,e4];simp [hk]
theorem fB.ext {r s:R} (h:fB r) (hs:∀i,8≤i→s.k i=0) (e:s.cs=r.cs):s=r:=by
 obtain⟨hk,h1,h2,h3,h4⟩:=(R.Dd s r).1 ((R.vt s r).2 e);cases r;cases s;simp only at h1 h2 h3 h4 hk hs;have:∀i,_:=fun i=>hk i
 congr;funext i;by_cases hi:i<8
 ·exact hk i hi
 ·rw[hs i (by omega)];exact(h.nz i (by omega)).symm
theorem fB.aa5 {r:R} (h:fB r) {n:Nat} (hn:n<2147483648):Dl (gI r n)=some (r,n):=by
 obtain⟨s,h1,h2⟩:=P3 h.ok h.cM hn
 have hs:∀i,8≤i→s.k i=0:=by
  unfold Dl at h1;split at h1
  ·have h1:=congrArg Prod.fst (Option.some.inj h1);simp only at h1;intro i hi;rw[←h1];rw[FA,if_neg (by omega)]
  ·cases h1
 rw[h1,h.ext hs h2]
theorem fB.aa6 {r:R} (h:fB r) (was now:Int):fB (oo r was now):=by
 unfold oo;split
 ·exact h
 split
 ·exact fB.gX
 ·exact⟨h.k,h.nz,⟨h.wG.ty,h.wG.none,h.wG.all,h.wG.one,h.wG.some⟩,by show (0:Int)≤0∧(0:Int)≤_;omega⟩
theorem uv (x:Int):0≤IntKind.u32.wrap x∧IntKind.u32.wrap x≤4294967295:=by
 rw[IntKind.wrap_u32];omega
theorem fB.leave {r:R} (k:∀i,0≤r.k i∧r.k i≤4294967295) (nz:∀i,8≤i→r.k i=0) (ge:0≤r.ge∧r.ge≤4294967295) (h:Int):(∀i,0≤(jr r h).k i∧(jr r h).k i≤4294967295)∧(∀i,8≤i→(jr r h).k i=0)∧(0≤(jr r h).ge∧(jr r h).ge≤4294967295):=by
 have e:(jr r h).k=cg r.k h.toNat 0∧(jr r h).ge=r.ge:=by
  unfold jr;simp only[];split<;>exact⟨rfl,rfl⟩
 rw[e.1,e.2];refine⟨fun i=> ?_,fun i hi=> ?_,ge⟩
 ·unfold cg;split
  ·omega
  ·exact k i
 ·unfold cg;split
  ·rfl
  ·exact nz i hi
theorem fB.doR {r:R} (hr:fB r) (h:Int) (c:Cm) (hn:0≤c.nw∧c.nw≤4294967295):fB (doR r h c).1:=by
 have hi:=TJ hr.wG h c
 have key:(∀i,0≤(Go.Proofs.YtlgdkndamddpkaaGreat.doR r h c).1.k i∧(Go.Proofs.YtlgdkndamddpkaaGreat.doR r h c).1.k i≤4294967295)∧(∀i,8≤i→(Go.Proofs.YtlgdkndamddpkaaGreat.doR r h c).1.k i=0)∧(0≤(Go.Proofs.YtlgdkndamddpkaaGreat.doR r h c).1.ge∧(Go.Proofs.YtlgdkndamddpkaaGreat.doR r h c).1.ge≤4294967295):=by
  have self:(∀i,0≤r.k i∧r.k i≤4294967295)∧(∀i,8≤i→r.k i=0)∧(0≤r.ge∧r.ge≤4294967295):=⟨hr.k,hr.nz,hr.ge⟩;unfold Go.Proofs.YtlgdkndamddpkaaGreat.doR;split
  ·exact self
  rename_i hv;simp only[Bool.or_eq_true,decide_eq_true_eq,not_or] at hv;split
  ·exact self
  split
  ·exact self
  split
  ·unfold kD;simp only[];split
   ·exact fB.leave (r:=⟨r.k,r.ty,r.ho,IntKind.u32.wrap (r.ge+1),c.la⟩) hr.k hr.nz (uv _) h
   ·refine⟨fun i=> ?_,fun i hi=> ?_,uv _⟩
    ·show 0≤cg r.k h.toNat c.nw i∧cg r.k h.toNat c.nw i≤4294967295
     unfold cg;split
     ·exact hn
     ·exact hr.k i
    ·show cg r.k h.toNat c.nw i=0
     rw[Hm (by omega)];exact hr.nz i hi
  split
  ·split
   ·exact self
   split
   ·exact self
   ·exact self
  split
  ·split
   ·exact self
   split
   ·exact self
   ·exact self
  split
  ·exact⟨fun _=>by show (0:Int)≤0∧(0:Int)≤_;omega,fun _ _=>rfl,uv _⟩
  ·have hkv:(∀i,0≤kV r h c.nw 8 i∧kV r h c.nw 8 i≤4294967295)∧(∀i,8≤i→kV r h c.nw 8 i=0):=by
    refine⟨fun i=> ?_,fun i hi=> ?_⟩
    ·rw[ui];split
     ·omega
     ·exact hr.k i
    ·rw[ui];split
     ·rfl
     ·exact hr.nz i hi
   unfold jR;simp only[];split
   ·exact self
   split
   ·exact self
   split
   ·exact⟨hkv.1,hkv.2,uv _⟩
   ·exact⟨hkv.1,hkv.2,uv _⟩
 exact⟨key.1,key.2.1,hi,key.2.2⟩
def CW:Nat:=8000200
theorem Q7:KF*(KF*KF+1)=CW:=by decide
def uw (su:List (List UInt8)) (t:List UInt8):Nat→List UInt8:=fun i=>if i<su.length then su.getD i [] else if i=su.length then t else []
theorem P4 {su:List (List UInt8)} {t:List UInt8} {i:Nat} (hi:i<su.length) (d:List UInt8):nU (uw su t) i d=uw (su.set i d) t:=by
 funext j;unfold nU uw;rw[List.length_set];by_cases hj:j=i
 ·subst hj;rw[if_pos rfl,if_pos hi,List.getD_eq_getElem?_getD,List.getElem?_set];simp [hi]
 ·rw[if_neg hj];by_cases hl:j<su.length
  ·rw[if_pos hl,if_pos hl,List.getD_eq_getElem?_getD,List.getD_eq_getElem?_getD,List.getElem?_set,if_neg (fun e=>hj e.symm)]
  ·rw[if_neg hl,if_neg hl]
theorem P5 {su:List (List UInt8)} {t:List UInt8} (d:List UInt8):nU (uw su t) su.length d=uw su d:=by
 funext j;unfold nU uw;by_cases hj:j=su.length
 ·subst hj;simp
 ·simp [hj]
theorem TQ {su:List (List UInt8)} {t:List UInt8} {i:Nat} (hi:i<su.length):uw su t i=su.getD i []:=if_pos hi
theorem P6 (su:List (List UInt8)) (t:List UInt8):uw su t su.length=t:=by unfold uw;simp
def vz (t:List UInt8) (b:Nat) (r:R):Prop:=(t=[]∧r=R.gX)∨∃r0 b0,t=gI r0 b0∧fB r0∧b0≤b∧r=oo r0 b0 b
theorem vz.XY {t:List UInt8} {b:Nat} {r:R} (h:vz t b r):fB r:=by
 rcases h with⟨_,e⟩|⟨r0,b0,_,h,_,e⟩
 ·rw[e];exact fB.gX
 ·rw[e];exact h.aa6 _ _
theorem vz.XZ {t:List UInt8} {b:Nat} {r:R} (h:vz t b r):vz t (b+1) (ri r true):=by
 rcases h with⟨h1,e⟩|⟨r0,b0,h1,h2,h3,e⟩
 ·exact .inl ⟨h1,by rw[e];rfl⟩
 ·refine .inr ⟨r0,b0,h1,h2,by omega, ?_⟩;have hne:¬(b0:Int)=((b+1:Nat):Int):=by omega
  rw[e];unfold oo ri;rw[if_neg hne];by_cases hb:(b0:Int)=(b:Int)
  ·rw[if_pos hb];cases hl:r0.la<;>simp [R.gX]
  ·rw[if_neg hb];cases hl:r0.la<;>simp [R.gX]
theorem vz.enc {r:R} (h:fB r) (b:Nat):vz (gI r b) b r:=.inr ⟨r,b,rfl,h,Nat.le_refl _,by unfold oo;rw[if_pos rfl]⟩
section
variable {g:bZ} {s:FS} {su:List (List UInt8)} {t:List UInt8} {ds:List Nat} {N:Nat}
structure K4 (su:List (List UInt8)) (p:Pg):Prop where
 lo:0≤p.ar
 hi:p.ar<su.length
 dl:p.data.length≤64
 cd:p.cd=true→p.data=[]
theorem zt (hg:g.In) (hform:g.cM=true) (hc:g.cap<65000) {c:Nat→List UInt8} (h:Rn g s c ds N none) {x:Sh} (hx:yY g x) (hx0:x.fr=0) (hN:N+CW<281474976710656):∃r,tW g KF KF s x=some r∧Kp s r.1 CW∧((r.2=0∧Rn g r.1 (nU c x.ar x.data) ds (N+CW) none)∨(r.2=10∧Rn g r.1 c ds (N+CW) none∧g.aG<r.1.f.po.count 3)∨(r.2=9∧jQ g r.1.a c (nU c x.ar x.data) ds (N+CW))):=by
 have h2:=h.mono (N':=N+CW) (by omega);have Jy:=bZ.k6 g hg.b.2;have hsn:=h.sn;obtain⟨s1,e,h3,h4⟩:=Rn.XS hg hform hc hN (k:=KF) (by decide) hx hx0 KF s h2 (by rw[Q7];omega) (by show _<200;omega);have kp:=(aX.XR hg hc hx.dl KF s h.ok h3).2;rw[Q7] at kp;exact⟨(s1,e),h3,kp,h4⟩
theorem NZ {a:Nat} {d:List UInt8} (ha:(a:Int)≤g.cap) (hd:d.length≤64):yY g (QW a d):=⟨.inl rfl,ha,Nat.zero_le _,hd,.inl rfl⟩
theorem TS {a:Nat} (ha:(a:Int)≤g.cap):yY g (shT a):=⟨.inr rfl,ha,Nat.zero_le _,Nat.zero_le _,.inr rfl⟩
theorem Jn (hg:g.In) (hform:g.cM=true) (hc:g.cap<65000) (h:Rn g s (uw su t) ds N none) (hl:(su.length:Int)=g.cap) {p:Pg} (hp:K4 su p) (hN:N+CW<281474976710656):∃r,Fw g s p=some r∧Kp s r.1 CW∧((r.2=0∧Rn g r.1 (uw (su.set p.ar.toNat p.data) t) ds (N+CW) none)∨(r.2=10∧Rn g r.1 (uw su t) ds (N+CW) none∧g.aG<r.1.f.po.count 3)∨(r.2=9∧jQ g r.1.a (uw su t) (uw (su.set p.ar.toNat p.data) t) ds (N+CW))):=by
 have hlo:=hp.lo;have hhi:=hp.hi;have ha:p.ar.toNat<su.length:=by omega
 rw[←P4 ha];unfold Fw;by_cases hh:p.cd=true
 ·rw[if_pos hh];have hd:=hp.cd hh;unfold I0;by_cases hs:(s.f.pm.cw.getD p.ar.toNat none).isSome=true
  ·rw[if_pos hs];have:=zt hg hform hc h (TS (a:=p.ar.toNat) (by omega)) rfl hN;rw[hd];exact this
  ·rw[if_neg hs]
   have hn:s.f.pm.at p.ar.toNat=none:=by
    have:¬(s.f.pm.at p.ar.toNat).isSome=true:=hs;simpa using this
   obtain⟨t',ht1,ht2,_⟩:=h.mZ p.ar.toNat
   have sA:s.mZ p.ar.toNat=some ⟨2,0,0,p.ar.toNat,0,[]⟩:=by
    unfold FS.mZ;rw[show s.f.pm.cw.getD p.ar.toNat none=none from hn]
   rw[sA] at ht1;cases ht1;refine⟨_,rfl,Kp.rfl s CW,.inl ⟨rfl, ?_⟩⟩
   have e:nU (uw su t) p.ar.toNat p.data=uw su t:=by
    funext j;unfold nU;split
    ·rename_i e;rw[e, ←ht2,hd]
    ·rfl
   rw[e];exact h.mono (by omega)
 ·rw[if_neg hh];exact zt hg hform hc h (NZ (a:=p.ar.toNat) (by omega) hp.dl) rfl hN
theorem qD (hg:g.In) (hform:g.cM=true) (hc:g.cap<65000):∀(l:List Pg) (s:FS) (su:List (List UInt8)) (N:Nat),Rn g s (uw su t) ds N none→(su.length:Int)=g.cap→eT l→(∀p∈l,K4 su p)→N+l.length*CW<281474976710656→∃r,gK g l s l=some r∧Kp s r.1 (l.length*CW)∧((r.2.2=0∧r.2.1=[]∧Rn g r.1 (uw (eD su l) t) ds (N+l.length*CW) none)∨(r.2.2=10∧g.aG<r.1.f.po.count 3∧∃j,j≤l.length∧r.2.1=l.drop j∧Rn g r.1 (uw (eD su (l.take j)) t) ds (N+l.length*CW) none)∨(r.2.2=9∧∃j,j<l.length∧jQ g r.1.a (uw (eD su (l.take j)) t) (uw (eD su (l.take (j+1))) t) ds (N+l.length*CW)))
 |[],s,su,N,h,hl,hs,hp,hN=>⟨(s,[],0),rfl,Kp.rfl s _,.inl ⟨rfl,rfl,h.mono (by omega)⟩⟩
 |p::l,s,su,N,h,hl,hs,hp,hN=>by
  rw[List.length_cons,Nat.succ_mul] at hN;obtain⟨r,h1,h2,h3⟩:=Jn hg hform hc h hl (hp p List.mem_cons_self) (by omega);rw[gK,h1];simp only[List.length_cons,Nat.succ_mul];rcases h3 with⟨e,h3⟩|⟨e,h3,h4⟩|⟨e,h3⟩
  ·rw[if_pos e,KN hs]
   have hp2:∀q∈l,K4 (su.set p.ar.toNat p.data) q:=fun q hq=>by
    have:=hp q (List.mem_cons_of_mem _ hq);exact⟨this.lo,by rw[List.length_set];exact this.hi,this.dl,this.cd⟩
   obtain⟨r',k1,k2,k3⟩:=qD hg hform hc l r.1 (su.set p.ar.toNat p.data) (N+CW) h3 (by rw[List.length_set];exact hl) (KL hs) hp2 (by omega);refine⟨r',k1,(h2.trans k2).mono (by omega), ?_⟩;rw[show N+CW+l.length*CW=N+(l.length*CW+CW) from by omega] at k3;rcases k3 with⟨e1,e2,e3⟩|⟨e1,e2,j,e3,e4,e5⟩|⟨e1,j,e2,e3⟩
   ·exact .inl ⟨e1,e2,e3⟩
   ·exact .inr (.inl ⟨e1,e2,j+1,by omega,e4,e5⟩)
   ·exact .inr (.inr ⟨e1,j+1,by omega,e3⟩)
  ·rw[if_neg (by omega)];refine⟨_,rfl,h2.mono (by omega),.inr (.inl ⟨e,h4,0,Nat.zero_le _,rfl,h3.mono (by omega)⟩)⟩
  ·rw[if_neg (by omega)];refine⟨_,rfl,h2.mono (by omega),.inr (.inr ⟨e,0,by omega,h3.mono (by omega)⟩)⟩
end
def eu (o:Ob) (j:Nat):Ob:=⟨eD o.su (o.ps.take j),o.ps.drop j,o.r⟩
structure Ug (g:bZ) (u:Un) (o:Ob) (ds:List Nat) (N b:Nat):Prop where
 t:∃t,Rn g u.s (uw o.su t) ds N none∧vz t b o.r
 boots:u.s.a.boots=(b:Int)
 ps:u.ps=o.ps
 r:u.r=o.r
 dn:u.down=false
 ook:o.ok
 len:(o.su.length:Int)=g.cap
 cd:∀p∈o.ps,p.cd=true→p.data=[]
structure vA (g:bZ) (a:Ar) (o o':Ob) (ds:List Nat) (N b:Nat):Prop where
 off:a.off=true
 dC:pH a
 boots:a.boots=(b:Int)
 cw:∀cut:Int,∃q,(q=o∨q=o')∧∃i,i≤8∧∃t,Cr g (bQ a cut) (uw (eD q.su (q.ps.take i)) t) ds N∧vz t b q.r
section
variable {g:bZ} {u:Un} {o:Ob} {ds:List Nat} {N b:Nat}
theorem Ug.pg (h:Ug g u o ds N b):∀p∈o.ps,K4 o.su p:=fun p hp=>⟨(h.ook.jS.lo p hp).1,h.ook.inr p hp,h.ook.jS.dl p hp,h.cd p hp⟩
theorem Ug.ok (h:Ug g u o ds N b):NY g u:=by
 obtain⟨t,h1,_⟩:=h.t;refine⟨h1.ok,by rw[h.ps];exact h.ook.jS,by rw[h.ps];exact h.ook.F6,fun p hp=> ?_⟩;rw[h.ps] at hp;have:=h.pg p hp;have hl:=h.len;have hi:=this.hi;exact⟨this.lo,by omega,this.dl⟩
theorem Jo (h:o.ok) (j:Nat):(eu o j).ok where
 n1:=by show 1≤(eD o.su (o.ps.take j)).length;rw[dN];exact h.n1
 n2:=by show (eD o.su (o.ps.take j)).length≤_;rw[dN];exact h.n2
 dl:=vx _ _ h.dl (fun p hp=>h.jS.dl p (List.mem_of_mem_take hp))
 jS:=⟨h.jS.up.sublist (List.drop_sublist _ _),fun p hp=>h.jS.lo p (List.mem_of_mem_drop hp),fun p hp=>h.jS.dl p (List.mem_of_mem_drop hp)⟩
 F6:=by show (o.ps.drop j).length≤8;rw[List.length_drop];have:=h.F6;omega
 inr:=fun p hp=>by
  show p.ar<(((eD o.su (o.ps.take j)).length:Nat):Int)
  rw[dN];exact h.inr p (List.mem_of_mem_drop hp)
 wG:=h.wG
theorem Ug.step (h:Ug g u o ds N b) {s:FS} {j:Nat} {N':Nat} {t:List UInt8} (ht:vz t b o.r) (hr:Rn g s (uw (eD o.su (o.ps.take j)) t) ds N' none) (hb:s.a.boots=u.s.a.boots):Ug g {u with s:=s,ps:=o.ps.drop j} (eu o j) ds N' b where
 t:=⟨t,hr,ht⟩
 boots:=hb.trans h.boots
 ps:=rfl
 r:=h.r
 dn:=h.dn
 ook:=Jo h.ook j
 len:=by show (((eD o.su (o.ps.take j)).length:Nat):Int)=_;rw[dN];exact h.len
 cd:=fun p hp=>h.cd p (List.mem_of_mem_drop hp)
theorem P7 (hg:g.In) (hform:g.cM=true) (hc:g.cap<65000) (h:Ug g u o ds N b) {p:Pg} (hp:K4 o.su p) (sure:Bool) (hN:N+9*CW<281474976710656):∃r,Dm g u.s u.ps p sure=some r∧Kp u.s r.1 (9*CW)∧((r.2.2=0∧Ug g {u with s:=r.1,ps:=r.2.1} (tJ o p sure) ds (N+9*CW) b)∨(r.2.2=10∧g.aG<r.1.f.po.count 3∧∃j,j≤o.ps.length∧Ug g {u with s:=r.1,ps:=r.2.1} (eu o j) ds (N+9*CW) b)∨(r.2.2=9∧vA g r.1.a o (tJ o p sure) ds (N+9*CW) b)):=by
 obtain⟨t,ht,htb⟩:=h.t;have hlen:=h.len;have hlo:=hp.lo;have hhi:=hp.hi;have hn2:=h.ook.n2;have hle:=h.ook.F6;have ha:p.ar.toNat<o.su.length:=by omega
 have hok:=TK h.ook hlo hhi hp.dl sure;unfold Dm;rw[h.ps];by_cases hs:sure=true
 ·subst hs;rw[if_pos rfl];obtain⟨r,h1,h2,h3⟩:=Jn hg hform hc ht hlen hp (by omega);rw[h1];simp only;have e:tJ o p true=⟨o.su.set p.ar.toNat p.data,gy o.ps p.ar,o.r⟩:=rfl;rcases h3 with⟨e1,h3⟩|⟨e1,h3,h4⟩|⟨e1,h3⟩
  ·rw[if_pos e1];refine⟨_,rfl,h2.mono (by omega),.inl ⟨rfl, ?_⟩⟩
   exact {
    t:=⟨t,h3.mono (by omega),htb⟩,boots:=h2.boots.trans h.boots,ps:=rfl,r:=h.r,dn:=h.dn,ook:=hok
    len:=by rw[e];show (((o.su.set p.ar.toNat p.data).length:Nat):Int)=_;rw[List.length_set];exact hlen
    cd:=fun q hq=>h.cd q (Fs hq)}
  ·rw[if_neg (by omega)];refine⟨_,rfl,h2.mono (by omega),.inr (.inl ⟨e1,h4,0,Nat.zero_le _, ?_⟩)⟩;exact h.step (j:=0) htb (h3.mono (by omega)) h2.boots
  ·rw[if_neg (by omega)];refine⟨_,rfl,h2.mono (by omega),.inr (.inr ⟨e1,h3.off,h3.dC,h2.boots.trans h.boots,fun cut=> ?_⟩)⟩;rcases h3.cw cut with h4|h4
   ·exact⟨o,.inl rfl,0,by omega,t,h4.mono (by omega),htb⟩
   ·exact⟨_,.inr rfl,0,by omega,t,h4.mono (by omega),htb⟩
 ·have hs':sure=false:=by simpa using hs
  subst hs';rw[if_neg (by simp)];have sC:tJ o p false=if (iT o.ps p).2=11 then ⟨eD o.su o.ps,(iT [] p).1,o.r⟩ else ⟨o.su,(iT o.ps p).1,o.r⟩:=rfl
  have hput:∀(ps:List Pg),eT ps→(∀q∈ps,q.cd=true→q.data=[])→∀q∈(iT ps p).1,q.cd=true→q.data=[]:=fun ps hss hh q hq ZI=>by
   rcases Dj hss hq with hq|rfl
   ·exact hh q hq ZI
   ·have ZI:p.cd=true:=ZI;show (if p.cd=true then [] else p.data)=[]
    rw[if_pos ZI]
  by_cases BD:(iT o.ps p).2=11
  ·rw[if_neg (fun e=>e BD)];rw[if_pos BD] at sC;have h8:o.ps.length*CW≤8*CW:=Nat.mul_le_mul_right _ hle;obtain⟨r,h1,h2,h3⟩:=qD hg hform hc o.ps u.s o.su N ht hlen h.ook.jS h.pg (by omega);rw[h1];simp only;rcases h3 with⟨e1,e2,h3⟩|⟨e1,h4,j,hj,e2,h3⟩|⟨e1,j,hj,h3⟩
   ·rw[if_pos e1,e2]
    have h0:(iT [] p).2=0:=by
     rw[PU (by simp) hlo (by omega) hp.dl];simp
    refine⟨_,rfl,h2.mono (by omega),.inl ⟨h0, ?_⟩⟩;rw[sC] at hok⊢
    exact {
     t:=⟨t,h3.mono (by omega),htb⟩,boots:=h2.boots.trans h.boots,ps:=rfl,r:=h.r,dn:=h.dn,ook:=hok
     len:=by show (((eD o.su o.ps).length:Nat):Int)=_;rw[dN];exact hlen
     cd:=hput [] qB (fun q hq=>by cases hq)}
   ·rw[if_neg (by omega)];refine⟨_,rfl,h2.mono (by omega),.inr (.inl ⟨e1,h4,j,hj, ?_⟩)⟩;rw[e2];exact h.step htb (h3.mono (by omega)) h2.boots
   ·rw[if_neg (by omega)];refine⟨_,rfl,h2.mono (by omega),.inr (.inr ⟨e1,h3.off,h3.dC,h2.boots.trans h.boots,fun cut=> ?_⟩)⟩;rcases h3.cw cut with h4|h4
    ·exact⟨o,.inl rfl,j,by omega,t,h4.mono (by omega),htb⟩
    ·exact⟨o,.inl rfl,j+1,by omega,t,h4.mono (by omega),htb⟩
  ·rw[if_pos BD];rw[if_neg BD] at sC;refine⟨_,rfl,Kp.rfl u.s _,.inl ⟨rfl, ?_⟩⟩;rw[sC] at hok⊢
   exact {
    t:=⟨t,ht.mono (by omega),htb⟩,boots:=h.boots,ps:=rfl,r:=h.r,dn:=h.dn,ook:=hok,len:=hlen
    cd:=hput o.ps h.ook.jS h.cd}
end
theorem K5 (r:R) (h:Int) (c:Cm) (P:R×Int→Prop) (h0:∀s,P (s,0)) (h1:P (r,1)) (OB:P (r,13)):P (doR r h c):=by
 unfold doR;split
 ·exact h1
 split
 ·exact h1
 split
 ·exact OB
 split
 ·exact h0 _
 split
 ·split
  ·exact OB
  split
  ·exact h0 _
  ·exact h0 _
 split
 ·split
  ·exact h0 _
  split
  ·exact h1
  ·exact h0 _
 split
 ·exact h0 _
 unfold jR;simp only[];split
 ·exact h1
 split
 ·exact OB
 split
 ·exact h0 _
 ·exact h0 _
theorem P8 (r:R) (h:Int) (c:Cm):((doR r h c).2=0∨(doR r h c).2=1∨(doR r h c).2=13)∧((doR r h c).2≠0→(doR r h c).1=r):=
 K5 r h c (fun x=>(x.2=0∨x.2=1∨x.2=13)∧(x.2≠0→x.1=r)) (fun s=>⟨.inl rfl,fun h=>absurd rfl h⟩) ⟨.inr (.inl rfl),fun _=>rfl⟩ ⟨.inr (.inr rfl),fun _=>rfl⟩
section
variable {g:bZ} {u:Un} {o:Ob} {ds:List Nat} {N b:Nat}
def Q8 (g:bZ) (u:Un) (o o':Ob) (a:Rs) (ch:Bool) (ds:List Nat) (N b:Nat) (r:Un×Rs×Int):Prop:=
 (r.2.2=0∧r.2.1=a∧Ug g r.1 o' ds N b)∨
 (r.2.2=0∧r.2.1=⟨10,[],R.zero⟩∧a.e=0∧ch=true∧g.aG<r.1.s.f.po.count 3∧∃j,j≤o.ps.length∧Ug g r.1 (eu o j) ds N b)∨
 (r.2.2=9∧vA g r.1.s.a o o' ds N b)
theorem Jp (h:Ug g u o ds N b):ja u=(u,0):=by
 obtain⟨t,ht,_⟩:=h.t;unfold ja;have h1:=ht.on;have h2:=ht.aK;rw[if_neg (by simp [h1]),if_neg (by rw[h.dn];simp;omega)]
theorem TT (hg:g.In) (hform:g.cM=true) (hc:g.cap<65000) (h:Ug g u o ds N b) (hh:Int) (c:Cm) (bW:List UInt8) (hd:c.dn=bW.length) (Vc:0≤c.nw∧c.nw≤4294967295) (hN:N+9*CW<281474976710656):∃r,UM g u hh c bW=some r∧Kp u.s r.1.s (9*CW)∧Q8 g u o (KM o hh c bW).1 (KM o hh c bW).2 (!decide (c.kd=0)&& !decide (c.kd=9)) ds (N+9*CW) b r:=by
 obtain⟨s,ps,r,dn⟩:=u;have hr:=h.r;have hps:=h.ps;simp only at hr hps;subst hr hps;obtain⟨t,ht,htb⟩:=h.t;have hlen:=h.len;have hcap:g.cap.toNat=o.su.length:=by omega
 have hmono:Ug g ⟨s,o.ps,o.r,dn⟩ o ds (N+9*CW) b:={h with t:=⟨t,ht.mono (by omega),htb⟩};have RC:=htb.XY;unfold UM;rw[Jp h];simp only[ne_eq,not_true_eq_false,if_false]
 have plain:∀(a:Rs),a.e=0∨a.e=1∨a.e=13→(∃r,(if a.e=7∨a.e=9 then some ((⟨s,o.ps,o.r,true⟩:Un),(⟨0,[],R.zero⟩:Rs),a.e) else some ((⟨s,o.ps,o.r,dn⟩:Un),a,0))=some r∧Kp s r.1.s (9*CW)∧r=((⟨s,o.ps,o.r,dn⟩:Un),a,0)):=fun a ha=>by
  rw[if_neg (by omega)];exact⟨_,rfl,Kp.rfl _ _,rfl⟩
 unfold NW KM;rw[hcap];by_cases hv:uj hh c o.su.length=false
 ·rw[if_pos hv,if_pos hv];exact⟨((⟨s,o.ps,o.r,dn⟩:Un),⟨1,[],R.zero⟩,0),rfl,Kp.rfl _ _,.inl ⟨rfl,rfl,hmono⟩⟩
 rw[if_neg hv,if_neg hv];by_cases hm:UL o.r hh c=false
 ·rw[if_pos hm,if_pos hm];exact⟨((⟨s,o.ps,o.r,dn⟩:Un),⟨13,[],R.zero⟩,0),rfl,Kp.rfl _ _,.inl ⟨rfl,rfl,hmono⟩⟩
 rw[if_neg hm,if_neg hm];have Qh:uj hh c o.su.length=true:=by simpa using hv
 unfold uj at Qh;simp only[Bool.and_eq_true,Bool.or_eq_true,Bool.not_eq_true',Bool.or_eq_false_iff,decide_eq_true_eq,decide_eq_false_iff_not] at Qh;obtain⟨⟨⟨⟨v1,v2⟩,v3⟩,v4⟩,v5⟩:=Qh;by_cases k0:c.kd=0
 ·rw[if_pos k0,if_pos k0];have wK:=v4.resolve_left (fun e=>e.1.1 k0);have Y6:XV o c.oj=(vv o.ps c.oj).getD (o.su.getD c.oj.toNat []):=if_pos wK;by_cases hp:gx o.ps c.oj=true
  ·rw[if_pos hp];refine⟨((⟨s,o.ps,o.r,dn⟩:Un),⟨0,(vv o.ps c.oj).getD [],R.zero⟩,0),rfl,Kp.rfl _ _,.inl ⟨rfl, ?_,hmono⟩⟩;simp only;rw[Y6]
   cases hgp:vv o.ps c.oj with
   |none=>rw[Bm.1 hgp] at hp;cases hp
   |some d=>rfl
  ·rw[if_neg hp];obtain⟨t',h1,h2,_⟩:=ht.mZ c.oj.toNat;rw[h1];refine⟨((⟨s,o.ps,o.r,dn⟩:Un),⟨0,t'.data,R.zero⟩,0),rfl,Kp.rfl _ _,.inl ⟨rfl, ?_,hmono⟩⟩;simp only;rw[Y6,Bm.2 (by simpa using hp),h2,TQ (by omega)];rfl
 rw[if_neg k0,if_neg k0]
 have put:∀(p:Pg),K4 o.su p→c.kd≠9→∃r,(match (match Dm g s o.ps p c.su with
  |none=>none
  |some r=>some ((⟨r.1,r.2.1,o.r,dn⟩:Un),(⟨0,[],R.zero⟩:Rs),r.2.2)) with
  |none=>none
  |some r=>if r.2.2=7∨r.2.2=9 then some ({r.1 with down:=true},(⟨0,[],R.zero⟩:Rs),r.2.2) else some (r.1,{r.2.1 with e:=r.2.2},0))=some r∧Kp s r.1.s (9*CW)∧
  Q8 g ⟨s,o.ps,o.r,dn⟩ o (tJ o p c.su) ⟨0,[],R.zero⟩ (!decide (c.kd=0)&& !decide (c.kd=9)) ds (N+9*CW) b r:=fun p hp h9=>by
  obtain⟨r,h1,h2,h3⟩:=P7 hg hform hc h hp c.su hN;rw[h1];simp only;rcases h3 with⟨e,h3⟩|⟨e,h3,h4⟩|⟨e,h3⟩
  ·rw[if_neg (by omega),e];exact⟨_,rfl,h2,.inl ⟨rfl,rfl,h3⟩⟩
  ·rw[if_neg (by omega),e];exact⟨_,rfl,h2,.inr (.inl ⟨rfl,rfl,rfl,by simp [k0,h9],h3,h4⟩)⟩
  ·rw[if_pos (.inr e)];exact⟨_,rfl,h2,.inr (.inr ⟨e,h3⟩)⟩
 by_cases k1:c.kd=1
 ·rw[if_pos k1,if_pos k1];have wK:=v4.resolve_left (fun e=>e.1.2 k1);have hdn:c.dn≤64:=v5.resolve_left (fun e=>e k1);exact put ⟨c.oj,bW,false⟩ ⟨wK.1,wK.2,by show bW.length≤64;omega,fun e=>by cases e⟩ (by omega)
 rw[if_neg k1,if_neg k1];by_cases k2:c.kd=2
 ·rw[if_pos k2,if_pos k2];have wK:=v4.resolve_left (fun e=>e.2 k2);exact put ⟨c.oj,[],true⟩ ⟨wK.1,wK.2,Nat.zero_le _,fun _=>rfl⟩ (by omega)
 rw[if_neg k2,if_neg k2];by_cases k3:c.kd=3
 ·rw[if_pos k3,if_pos k3];have hle:=h.ook.F6;have h8:o.ps.length*CW≤8*CW:=Nat.mul_le_mul_right _ hle;obtain⟨r,h1,h2,h3⟩:=qD hg hform hc o.ps s o.su N ht hlen h.ook.jS h.pg (by omega);rw[h1];simp only;rcases h3 with⟨e1,e2,h3⟩|⟨e1,h4,j,hj,e2,h3⟩|⟨e1,j,hj,h3⟩
  ·rw[if_neg (by omega),e1,e2];refine⟨_,rfl,h2.mono (by omega),.inl ⟨rfl,rfl, ?_⟩⟩
   exact {
    t:=⟨t,h3.mono (by omega),htb⟩,boots:=h2.boots.trans h.boots,ps:=rfl,r:=h.r,dn:=h.dn,ook:=zm h.ook
    len:=by show (((eD o.su o.ps).length:Nat):Int)=_;rw[dN];exact hlen
    cd:=fun q hq=>by cases hq}
  ·rw[if_neg (by omega),e1,e2];exact⟨_,rfl,h2.mono (by omega),.inr (.inl ⟨rfl,rfl,rfl,by simp [k3],h4,j,hj,h.step htb (h3.mono (by omega)) h2.boots⟩)⟩
  ·rw[if_pos (.inr e1)];refine⟨_,rfl,h2.mono (by omega),.inr (.inr ⟨e1,h3.off,h3.dC,h2.boots.trans h.boots,fun cut=> ?_⟩)⟩;rcases h3.cw cut with h4|h4
   ·exact⟨o,.inl rfl,j,by omega,t,h4.mono (by omega),htb⟩
   ·exact⟨o,.inl rfl,j+1,by omega,t,h4.mono (by omega),htb⟩
 rw[if_neg k3,if_neg k3];by_cases k9:c.kd=9
 ·rw[if_pos k9,if_pos k9];exact⟨((⟨s,o.ps,o.r,dn⟩:Un),⟨0,[],o.r⟩,0),rfl,Kp.rfl _ _,.inl ⟨rfl,rfl,hmono⟩⟩
 rw[if_neg k9,if_neg k9];have Oj:=P8 o.r hh c;have ZJ:=RC.doR hh c Vc;by_cases hq:(doR o.r hh c).2≠0∨fj (doR o.r hh c).1.cs o.r.cs=true
 ·rw[if_pos hq]
  have hsame:(doR o.r hh c).1=o.r:=by
   rcases hq with hq|hq
   ·exact Oj.2 hq
   ·exact RC.ext ZJ.nz ((R.vt _ _).1 hq)
  rw[hsame];obtain⟨r,h1,h2,h3⟩:=plain ⟨(doR o.r hh c).2,[],R.zero⟩ Oj.1;refine⟨r,h1,h2,.inl ?_⟩;rw[h3];exact⟨rfl,rfl,hmono⟩
 rw[if_neg hq];have hq0:(doR o.r hh c).2=0:=Classical.byContradiction fun e=>hq (.inl e)
 rw[hq0];have OF:s.a.boots.toNat=b:=by rw[h.boots];rfl
 rw[OF];have hel:(gI (doR o.r hh c).1 b).length≤64:=by rw[uk];omega
 obtain⟨r,h1,h2,h3⟩:=zt hg hform hc ht (NZ (a:=o.su.length) (by omega) hel) rfl (by omega);rw[h1];have ecs:nU (uw o.su t) (QW o.su.length (gI (doR o.r hh c).1 b)).ar (QW o.su.length (gI (doR o.r hh c).1 b)).data=uw o.su (gI (doR o.r hh c).1 b):=P5 _;rw[ecs] at h3;simp only;have hok:(⟨o.su,o.ps,(doR o.r hh c).1⟩:Ob).ok:={h.ook with wG:=ZJ.wG};rcases h3 with⟨e,h3⟩|⟨e,h3,h4⟩|⟨e,h3⟩
 ·rw[if_pos e];simp only;rw[if_neg (by omega)];refine⟨_,rfl,h2.mono (by omega),.inl ⟨rfl,rfl, ?_⟩⟩
  exact {
   t:=⟨_,h3.mono (by omega),vz.enc ZJ b⟩,boots:=h2.boots.trans h.boots,ps:=h.ps,r:=rfl,dn:=h.dn,ook:=hok,len:=hlen,cd:=h.cd}
 ·rw[if_neg (by omega)];simp only;rw[if_neg (by omega),e];refine⟨_,rfl,h2.mono (by omega),.inr (.inl ⟨rfl,rfl,rfl,by simp [k0,k9],h4,0,Nat.zero_le _, ?_⟩)⟩;exact {h with t:=⟨t,h3.mono (by omega),htb⟩,boots:=h2.boots.trans h.boots}
 ·rw[if_neg (by omega)];simp only;rw[if_pos (.inr e)];refine⟨_,rfl,h2.mono (by omega),.inr (.inr ⟨e,h3.off,h3.dC,h2.boots.trans h.boots,fun cut=> ?_⟩)⟩;rcases h3.cw cut with h4|h4
  ·exact⟨o,.inl rfl,0,by omega,t,h4.mono (by omega),htb⟩
  ·exact⟨_,.inr rfl,0,by omega,_,h4.mono (by omega),vz.enc ZJ b⟩
end
end Go.Proofs.YtlgdkndamddpkaaGreat
end
