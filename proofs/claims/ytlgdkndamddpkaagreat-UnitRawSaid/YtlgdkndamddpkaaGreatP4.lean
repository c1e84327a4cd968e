/- Part 4 of the texts behind the law UnitRaw: what its row needs (an abstract machine, its equations, and what the program computes). -/
import Derived.Test.YtlgdkndamddpkaaGreatP3
set_option maxRecDepth 100000
set_option linter.unusedSimpArgs false
set_option linter.unusedVariables false
set_option linter.unusedSectionVars false
section
namespace Go.Proofs.YtlgdkndamddpkaaGreat
open Go.Am
structure eP (B H:ag) (aM:Nat) (a:Ar) (x:Ra) (L:List cA):Prop where
 bs:x.rs.map Rb.b=a.bs
 s:az B H (dj aM 81 (AO a x)::Rw 84 6 x.q x.c (x.rs.map Rb.cs)::bw (x.rs.map Rb.bP)::zC x.q x.w a.eO::L)
abbrev sd (x:Int):Int:=IntKind.i64.wrap x
section
variable {B:ag} {L:List cA} {H:ag} {K:V→ag→Prop} {aM:Nat} {a:Ar} {x:Ra} {i:Nat}
theorem eP.of (h:az B H (dP aM a::L)):∃x,eP B H aM a x L:=by
 obtain⟨x,h1,h2⟩:=az.vz h;exact⟨x,h1,h2⟩
theorem eP.to (h:eP B H aM a x L):az B H (dP aM a::L):=az.Z1 x h.bs h.s
theorem eP.g (h:eP B H aM a x L):ArG H aM a x:=arG h.s
theorem eP.len (h:eP B H aM a x L):a.bs.length=x.rs.length:=by rw[←h.bs];simp
theorem eP.at (h:eP B H aM a x L) (hi:i<a.bs.length):∃hi':i<x.rs.length,(x.rs[i]).b=a.bs[i]:=by
 have hl:=h.len;refine⟨by omega, ?_⟩;have:=h.bs;simp only[←this,List.getElem_map]
theorem eP.oy (h:eP B H aM a x L) {k:Nat} (hk:k<8) (v:V) {a':Ar} (hb:a'.bs=a.bs) (hw:a'.eO=a.eO) (hc:AO a' x=(AO a x).set k v):H.wr aM k 1=true∧eP B (H.store aM k [v]) aM a' x L:=by
 have h1:=h.s.BZ (k:=k) (by exact hk) v;refine⟨h1.1,by rw[hb];exact h.bs, ?_⟩;have h2:=h1.2;rw[←hc, ←hw] at h2;exact h2
theorem eP.bcell (h:eP B H aM a x L) (hi:i<a.bs.length) {k:Nat} (hk:k<6) (hk0:0<k) {v:V} (hv:v.one=true) (b':Bk) (hp:b'.pg=(a.bs[i]).pg) (hc:∀q c,(Rb.mk b' q c).cs=((Rb.mk a.bs[i] q c).cs).set k v):H.wr (pb x.q) (po x.q+i*6+k) 1=true∧∃x',x'.q=x.q∧x'.w=x.w∧eP B (H.store (pb x.q) (po x.q+i*6+k) [v]) aM {a with bs:=a.bs.set i b'} x' L:=by
 obtain⟨hi',hb⟩:=h.at hi;have h1:=h.s.swap.DV (Ip x.rs) (i:=i) (k:=k) (by simpa using hi') hk hv;refine⟨h1.1,{x with rs:=x.rs.set i {x.rs[i] with b:=b'}},rfl,rfl, ?_, ?_⟩
 ·show (x.rs.set i {x.rs[i] with b:=b'}).map Rb.b=a.bs.set i b'
  rw[List.map_set,h.bs]
 ·have h2:=h1.2.swap
  have e1:(x.rs.map Rb.cs).set i ((x.rs.map Rb.cs)[i]'(by simpa using hi') |>.set k v)=(x.rs.set i {x.rs[i] with b:=b'}).map Rb.cs:=by
   rw[List.map_set,List.getElem_map];congr 1;have:=hc (x.rs[i]).q (x.rs[i]).c;rw[←hb] at this;exact this.symm
  have e2:(x.rs.set i {x.rs[i] with b:=b'}).map Rb.bP=x.rs.map Rb.bP:=by
   rw[List.map_set]
   have:Rb.bP {x.rs[i] with b:=b'}=(x.rs.map Rb.bP)[i]'(by simpa using hi'):=by
    rw[List.getElem_map];show pr _ _ b'.pg=pr _ _ _
    rw[hp,hb]
   rw[this,List.set_getElem_self]
  rw[e1] at h2
  show az B _ (dj aM 81 (AO {a with bs:=a.bs.set i b'} {x with rs:=x.rs.set i {x.rs[i] with b:=b'}})::
   Rw 84 6 x.q x.c ((x.rs.set i {x.rs[i] with b:=b'}).map Rb.cs)::bw ((x.rs.set i {x.rs[i] with b:=b'}).map Rb.bP)::zC x.q x.w a.eO::L)
  rw[e2]
  have e3:AO {a with bs:=a.bs.set i b'} {x with rs:=x.rs.set i {x.rs[i] with b:=b'}}=AO a x:=by
   simp only[AO,List.length_set]
  rw[e3];exact h2
theorem eP.c0 (h:eP B H aM a x L) (hi:i<a.bs.length):x.q.isSome=true∧H.inb (pb x.q) (po x.q+i*6) 1=true∧∃q c,H.cell (pb x.q) (po x.q+i*6)=.slice q (a.bs[i]).pg.length c:=by
 obtain⟨hi',hb⟩:=h.at hi;obtain⟨h1,h2,h3⟩:=h.g.b0 hi';exact⟨h1,h2,(x.rs[i]).q,(x.rs[i]).c,by rw[h3,hb]⟩
theorem eP.ck (h:eP B H aM a x L) (hi:i<a.bs.length) {k:Nat} (hk:k<6):x.q.isSome=true∧H.inb (pb x.q) (po x.q+i*6+k) 1=true∧∃q c,H.cell (pb x.q) (po x.q+i*6+k)=ae (S9 q (a.bs[i]).pg.length c (a.bs[i]).er (a.bs[i]).cu (a.bs[i]).bn (a.bs[i]).aR (a.bs[i]).fB) k:=by
 obtain⟨hi',hb⟩:=h.at hi;obtain⟨h1,h2⟩:=h.g.bi i k hi' hk;refine⟨h1,h2,(x.rs[i]).q,(x.rs[i]).c, ?_⟩;rw[h.g.b i hi' k hk];unfold Rb.cs;rw[hb]
theorem eP.ck1 (h:eP B H aM a x L) (hi:i<a.bs.length):H.inb (pb x.q) (po x.q+i*6+1) 1=true∧H.cell (pb x.q) (po x.q+i*6+1)=.int .i64 (a.bs[i]).er:=by
 obtain⟨_,h2,q,c,h3⟩:=h.ck hi (k:=1) (by omega);exact⟨h2,h3⟩
theorem eP.ck2 (h:eP B H aM a x L) (hi:i<a.bs.length):H.inb (pb x.q) (po x.q+i*6+2) 1=true∧H.cell (pb x.q) (po x.q+i*6+2)=.bool (a.bs[i]).cu:=by
 obtain⟨_,h2,q,c,h3⟩:=h.ck hi (k:=2) (by omega);exact⟨h2,h3⟩
theorem eP.ck3 (h:eP B H aM a x L) (hi:i<a.bs.length):H.inb (pb x.q) (po x.q+i*6+3) 1=true∧H.cell (pb x.q) (po x.q+i*6+3)=.bool (a.bs[i]).bn:=by
 obtain⟨_,h2,q,c,h3⟩:=h.ck hi (k:=3) (by omega);exact⟨h2,h3⟩
theorem eP.ck4 (h:eP B H aM a x L) (hi:i<a.bs.length):H.inb (pb x.q) (po x.q+i*6+4) 1=true∧H.cell (pb x.q) (po x.q+i*6+4)=.bool (a.bs[i]).aR:=by
 obtain⟨_,h2,q,c,h3⟩:=h.ck hi (k:=4) (by omega);exact⟨h2,h3⟩
theorem eP.ck5 (h:eP B H aM a x L) (hi:i<a.bs.length):H.inb (pb x.q) (po x.q+i*6+5) 1=true∧H.cell (pb x.q) (po x.q+i*6+5)=.int .i64 (a.bs[i]).fB:=by
 obtain⟨_,h2,q,c,h3⟩:=h.ck hi (k:=5) (by omega);exact⟨h2,h3⟩
theorem JU (h:eP B H aM a x L) (hi:i<a.bs.length):¬(i:Int)<0∧0≤(i:Int)∧¬(i:Int)≥(x.rs.length:Int)∧(i:Int)<(x.rs.length:Int):=by
 have:=h.len;refine⟨?_, ?_, ?_, ?_⟩<;>omega
theorem uQ (h:az B H (dP aM a::L)) (hi:i<a.bs.length):cl 64 [.aj (some (aM,0)),.int .i64 (i:Int)] H K=K (.int .i64 ((a.bs[i]).pg.length:Int)) H:=by
 obtain⟨x,h⟩:=eP.of h;have g:=h.g;obtain⟨n1,n2,n3,n4⟩:=JU h hi;obtain⟨h1,h2,q,c,h3⟩:=h.c0 hi;rw[abD];simp only[AJ,reduceIte,Nat.reduceEqDiff,Option.isNone_some,Option.isSome_some,g.i0,g.c0,aN,Nat.zero_add,n1,n2,n3,n4,Int.toNat_natCast,cond_true,cond_false,if_true,if_false,h1,h2,h3,Bool.false_eq_true]
theorem LF (h:az B H (dP aM a::L)) (hi:i<a.bs.length):cl 155 [.aj (some (aM,0)),.int .i64 (i:Int)] H K=K (.int .i64 (a.bs[i]).er) H:=by
 obtain⟨x,h⟩:=eP.of h;have g:=h.g;obtain⟨n1,n2,n3,n4⟩:=JU h hi;obtain⟨h1,h2,q,c,h3⟩:=h.c0 hi;have h4:=h.ck1 hi;rw[ZA];simp only[AJ,reduceIte,Nat.reduceEqDiff,Option.isNone_some,Option.isSome_some,g.i0,g.c0,aN,Nat.zero_add,n1,n2,n3,n4,Int.toNat_natCast,cond_true,cond_false,if_true,if_false,h1,h4.1,h4.2,Bool.false_eq_true]
theorem Iq (h:az B H (dP aM a::L)) (hi:i<a.bs.length):cl 62 [.aj (some (aM,0)),.int .i64 (i:Int)] H K=K (.bool (a.bs[i]).aR) H:=by
 obtain⟨x,h⟩:=eP.of h;have g:=h.g;obtain⟨n1,n2,n3,n4⟩:=JU h hi;obtain⟨h1,h2,q,c,h3⟩:=h.c0 hi;have h4:=h.ck4 hi;simp only[oV,oW] at h4;have n2':(i:Int)≥0:=n2;rw[abB];simp only[AJ,reduceIte,Nat.reduceEqDiff,Option.isNone_some,Option.isSome_some,g.i0,g.c0,aN,Nat.zero_add,n1,n2,n2',n3,n4,Int.toNat_natCast,cond_true,cond_false,if_true,if_false,h1,h4.1,h4.2,Bool.false_eq_true,ite_self]
theorem B0 (h:az B H (dP aM a::L)):cl 95 [.aj (some (aM,0))] H K=K (.int .i64 (a.bs.length:Int)) H:=by
 obtain⟨x,h⟩:=eP.of h;have g:=h.g;rw[abR,h.len];simp only[AJ,reduceIte,Nat.reduceEqDiff,Option.isNone_some,Option.isSome_some,g.i0,g.c0,Nat.zero_add]
theorem F2 (h:az B H (dP aM a::L)):cl 96 [.aj (some (aM,0))] H K=K (.int .i64 a.aA) H:=by
 obtain⟨x,h⟩:=eP.of h;have g:=h.g;rw[abS];simp only[AJ,reduceIte,Nat.reduceEqDiff,Option.isNone_some,Option.isSome_some,g.i1,g.c1,Nat.zero_add]
theorem Oz (h:az B H (dP aM a::L)):cl 76 [.aj (some (aM,0))] H K=K (.int .u64 a.aU) H:=by
 obtain⟨x,h⟩:=eP.of h;have g:=h.g;rw[abL];simp only[AJ,reduceIte,Nat.reduceEqDiff,Option.isNone_some,Option.isSome_some,g.i2,g.c2,Nat.zero_add]
theorem F3 (h:az B H (dP aM a::L)):cl 43 [.aj (some (aM,0))] H K=K (.int .i64 a.boots) H:=by
 obtain⟨x,h⟩:=eP.of h;have g:=h.g;rw[abr];simp only[AJ,reduceIte,Nat.reduceEqDiff,Option.isNone_some,Option.isSome_some,g.i3,g.c3,Nat.zero_add]
theorem Z2 (h:az B H (dP aM a::L)):cl 75 [.aj (some (aM,0))] H K=K (.bool (!a.off)) H:=by
 obtain⟨x,h⟩:=eP.of h;have g:=h.g;rw[abK];simp only[AJ,reduceIte,Nat.reduceEqDiff,Option.isNone_some,Option.isSome_some,g.i5,g.c5,aN,Nat.zero_add,if_true]
def ada (b:Bk) (n:Int):Bk:={b with fB:=n}
end
section
variable {B:ag} {L:List cA} {H:ag} {K:V→ag→Prop} {aM:Nat} {a:Ar} {x:Ra} {i:Nat}
theorem OA (rs:List Rg):Rx [.slice] (rs.map Rg.cs):=by
 intro c hc;obtain⟨r,_,rfl⟩:=List.mem_map.1 hc;rfl
theorem az.Bo {q:Oq} {c:Nat} {ds:List (List UInt8)} (h:az B H (pr q c ds::L)):∃rs:List Rg,rs.map Rg.d=ds∧az B H (Rw 36 1 q c (rs.map Rg.cs)::bw (rs.map Rg.bP)::L):=by
 obtain⟨rs,h⟩:=h.M6;obtain⟨h1,h⟩:=h.kh.Hm;exact⟨rs,h1,h.LD⟩
theorem az.OB {q:Oq} {c:Nat} (rs:List Rg) (h:az B H (Rw 36 1 q c (rs.map Rg.cs)::bw (rs.map Rg.bP)::L)):az B H (pr q c (rs.map Rg.d)::L):=by
 have h2:az B H (bw [Rw 36 1 q c (rs.map Rg.cs),bw (rs.map Rg.bP)]::L):=az.sV h;exact az.intro (x:=rs) (h2.pure rfl).oH
theorem az.acw {q:Oq} {c:Nat} {ds:List (List UInt8)} (h:az B H (pr q c ds::L)) {k:Nat} (hk:k<ds.length):q.isSome=true∧H.inb (pb q) (po q+k*1) 1=true∧∃q' c',H.cell (pb q) (po q+k*1)=.slice q' (ds[k]).length c'∧lO H q' ds[k]:=by
 obtain⟨rs,rfl,h2⟩:=az.Bo h;clear h;have h:=h2;clear h2;have hk':k<rs.length:=by simpa using hk
 have hu:pq 1 (rs.map Rg.cs):=(OA rs).py;have hr:=jT h.lQ hu (i:=k) (k:=0) (by simpa using hk') (by decide);simp only[List.getElem_map];refine⟨hr.1,hr.2.1,(rs[k]).q,(rs[k]).c, ?_, ?_⟩
 ·rw[show po q+k*1=po q+k*1+0 from rfl,hr.2.2];simp [Rg.cs,ae]
 ·have h2:=h.swap.qn (i:=k) (by simpa using hk');have e:(rs.map Rg.bP)[k]'(by simpa using hk')=(rs[k]).bP:=by rw[List.getElem_map]
  rw[e] at h2;exact h2.iV
theorem eP.pgA (h:eP B H aM a x L) (hi:i<a.bs.length):∃q c,H.cell (pb x.q) (po x.q+i*6)=.slice q (a.bs[i]).pg.length c∧H.inb (pb x.q) (po x.q+i*6) 1=true∧x.q.isSome=true∧∃L',az B H (pr q c (a.bs[i]).pg::L'):=by
 obtain⟨hi',hb⟩:=h.at hi;obtain⟨h1,h2,h3⟩:=h.g.b0 hi';have h4:=(h.s.up 2).qn (i:=i) (by simpa using hi');have e:(x.rs.map Rb.bP)[i]'(by simpa using hi')=(x.rs[i]).bP:=by rw[List.getElem_map]
 rw[e] at h4;unfold Rb.bP at h4;rw[hb] at h3 h4;exact⟨_,_,h3,h2,h1,_,h4⟩
def gz (a:Ar) (i k:Nat):Int×List UInt8:=
 if a.off=true then (9,[]) else if a.aA≤(k:Int) then (1,[]) else match a.bs[i]? with
  |none=>(1,[])
  |some b=>match b.pg[k]? with
   |none=>(5,[])
   |some d=>if b.cu=true then (4,[]) else (0,d)
theorem DW (h:eP B H aM a x L) (hi:i<a.bs.length) (k1:a.off=true→K (.tuple [.aj none,.int .i64 9]) H) (k2:a.off=false→K (.tuple [.aj (some (pb x.q,po x.q+i*6)),.int .i64 0]) H):cl 51 [.aj (some (aM,0)),.int .i64 (i:Int)] H K:=by
 have g:=h.g;obtain⟨n1,n2,n3,n4⟩:=JU h hi;obtain⟨g0,_⟩:=h.c0 hi;rw[abv];simp only[AJ,reduceIte,Nat.reduceEqDiff,Option.isNone_some,Option.isSome_some,g.i0,g.c0,g.i5,g.c5,aN,Nat.zero_add,n1,n2,n3,n4,g0,Int.toNat_natCast,cond_true,if_true];cases ho:a.off
 ·rw[ai];exact k2 ho
 ·rw[ak];exact k1 ho
theorem F4 (h:az B H (dP aM a::L)) (hi:i<a.bs.length) (hd:∀d∈(a.bs[i]).pg,d.length≤1000000) (p:Nat) (k:∀q c H',az B H' (BY q c (gz a i p).2::dP aM a::L)→K (.tuple [.slice q (gz a i p).2.length c,.int .i64 (gz a i p).1]) H'):cl 23 [.aj (some (aM,0)),.int .i64 (i:Int),.int .i64 (p:Int)] H K:=by
 rw[abj];obtain⟨x,hX⟩:=eP.of h;have g:=hX.g;have p0:¬(p:Int)<0:=by omega
 have h9:¬(9:Int)=0:=by decide
 refine DW hX hi (fun ho=> ?_) (fun ho'=> ?_)
 ·have e2:gz a i p=(9,[]):=by simp [gz,ho]
  rw[e2] at k;simp only[AJ,reduceIte,Nat.reduceEqDiff,h9];exact k none 0 H (kG h)
 ·simp only[AJ,reduceIte,Nat.reduceEqDiff,if_true,Option.isSome_some,g.i1,g.c1,aN,p0,Nat.zero_add,cond_true,ite_self,Int.toNat_natCast];by_cases hp:a.aA≤(p:Int)
  ·have e2:gz a i p=(1,[]):=by simp [gz,ho',hp]
   rw[e2] at k;have AW:(p:Int)≥a.aA:=hp;simp only[AW,decide_true,ak];exact k none 0 H (kG h)
  ·have AW:¬(p:Int)≥a.aA:=hp;simp only[AW,decide_false,ai];have hbk:a.bs[i]? =some a.bs[i]:=List.getElem?_eq_getElem hi;obtain⟨q',c',g3,g2,g1,L',tI⟩:=hX.pgA hi;have g5:=hX.ck2 hi;simp only[g2,g3,g5.1,g5.2,AJ,reduceIte,Nat.reduceEqDiff];by_cases hk:(a.bs[i]).pg.length≤p
   ·have e2:gz a i p=(5,[]):=by simp [gz,ho',hp,hbk,List.getElem?_eq_none hk]
    rw[e2] at k;have hk':(p:Int)≥((a.bs[i]).pg.length:Int):=by omega
    simp only[hk',decide_true,ak];exact k none 0 H (kG h)
   ·have Xh:p<(a.bs[i]).pg.length:=by omega
    have hk':¬(p:Int)≥((a.bs[i]).pg.length:Int):=by omega
    simp only[hk',decide_false,ai];have hpk:(a.bs[i]).pg[p]? =some (a.bs[i]).pg[p]:=List.getElem?_eq_getElem Xh;by_cases hh:(a.bs[i]).cu=true
    ·have e2:gz a i p=(4,[]):=by simp [gz,ho',hp,hbk,hpk,hh]
     rw[e2] at k;simp only[hh,ak];exact k none 0 H (kG h)
    ·have hh':(a.bs[i]).cu=false:=by simpa using hh
     have e2:gz a i p=(0,(a.bs[i]).pg[p]):=by simp [gz,ho',hp,hbk,hpk,hh']
     rw[e2] at k;have m1:0≤(p:Int):=by omega
     have m2:(p:Int)<((a.bs[i]).pg.length:Int):=by omega
     obtain⟨f1,f2,q2,c2,f3,f4⟩:=az.acw tI Xh;simp only[hh',ai,m1,m2,f1,f2,f3,decide_true,Bool.and_self,av,AJ,reduceIte,Nat.reduceEqDiff];refine ki h f4 (hd _ (List.getElem_mem Xh)) (fun q2 c2 H2 h2=> ?_);simp only[AJ,reduceIte,Nat.reduceEqDiff];exact k q2 c2 H2 h2
def aD (b:Bk):Bk:=if b.fB>0 then {b with fB:=sd (b.fB-1),bn:=b.bn||decide (sd (b.fB-1)=0)} else b
def bx (a:Ar) (i:Nat) (b:Bk):Ar:=
 {a with aF:=sd (a.aF+1),bO:=if a.bO>0 then sd (a.bO-1) else a.bO,off:=if a.bO>0 then decide (sd (a.bO-1)=0) else a.off,bs:=a.bs.set i (aD b)}
def lR (a:Ar):Ar:=
 {a with aF:=sd (a.aF+1),bO:=if a.bO>0 then sd (a.bO-1) else a.bO,off:=if a.bO>0 then decide (sd (a.bO-1)=0) else a.off}
theorem F5 (h:eP B H aM a x L) (hi:i<a.bs.length) (k:∀x' H',x'.q=x.q→x'.w=x.w→eP B H' aM (bx a i a.bs[i]) x' L→K (.tuple [.bool (!(bx a i a.bs[i]).off),.bool (aD a.bs[i]).bn]) H'):cl 126 [.aj (some (aM,0)),.aj (some (pb x.q,po x.q+i*6))] H K:=by
 have g:=h.g;rw[Zi];simp only[AN,reduceIte,Nat.reduceEqDiff,Option.isSome_some,Nat.zero_add,g.i6,g.c6];obtain⟨w1,h1⟩:=h.oy (k:=6) (by omega) (.int .i64 (sd (a.aF+1))) (a':={a with aF:=sd (a.aF+1)}) rfl rfl rfl;simp only[w1,av];generalize ag.store H aM 6 _=H1 at h1⊢;have g1:=h1.g;simp only[g1.i4,g1.c4,AN,reduceIte,Nat.reduceEqDiff];refine iF (fun S=>eP B S.3 aM (lR a) x L) (fun S hS=> ?_) (fun Q' hQ=> ?_)
 ·generalize S.3=H2 at hS⊢;have hiN:i<(lR a).bs.length:=hi;have gN:=hS.g;have d5:=hS.ck5 hiN;have eb:(lR a).bs[i]=a.bs[i]:=rfl;rw[eb] at d5;simp only[d5.1,d5.2,AJ,reduceIte,Nat.reduceEqDiff,Option.isSome_some];by_cases hd:(a.bs[i]).fB>0
  ·obtain⟨w2,x2,q2,e2,h2⟩:=hS.bcell hiN (k:=5) (by omega) (by omega) (v:=.int .i64 (sd ((a.bs[i]).fB-1))) rfl {a.bs[i] with fB:=sd ((a.bs[i]).fB-1)} rfl (fun _ _=>rfl);simp only[hd,decide_true,ak,w2,av];generalize ag.store H2 _ _ _=H3 at h2⊢;obtain⟨a2,hA⟩:∃a2:Ar,a2={lR a with bs:=(lR a).bs.set i {a.bs[i] with fB:=sd ((a.bs[i]).fB-1)}}:=⟨_,rfl⟩;rw[←hA] at h2;have hi2:i<a2.bs.length:=by rw[hA];show i<(List.set _ _ _).length;rw[List.length_set];exact hi
   have eb2:a2.bs[i]={a.bs[i] with fB:=sd ((a.bs[i]).fB-1)}:=by simp only[hA];exact List.getElem_set_self _
   have d3:=h2.ck3 hi2;have d5:=h2.ck5 hi2;rw[eb2,q2] at d3 d5;simp only[d3.1,d3.2,AJ,reduceIte,Nat.reduceEqDiff];by_cases Qu:(a.bs[i]).bn=true
   ·obtain⟨w3,x3,q3,e3,h3⟩:=h2.bcell hi2 (k:=3) (by omega) (by omega) (v:=.bool true) rfl {a2.bs[i] with bn:=true} rfl (fun _ _=>rfl);rw[q2] at w3 h3;simp only[Qu,Bool.not_true,ai,w3,av];generalize ag.store H3 _ _ _=H4 at h3⊢
    have e5:({a2 with bs:=a2.bs.set i {a2.bs[i] with bn:=true}}:Ar)=bx a i a.bs[i]:=by
     subst hA;simp only[lR,bx,aD,hd,if_true,Qu,Bool.true_or,List.set_set,List.getElem_set_self]
    rw[e5] at h3;have g4:=h3.g;have QD:i<(bx a i a.bs[i]).bs.length:=by unfold bx;simpa using hi
    have d6:=h3.ck3 QD;have e6:((bx a i a.bs[i]).bs[i]).bn=(aD a.bs[i]).bn:=congrArg Bk.bn (List.getElem_set_self (by rw[List.length_set];exact hi));rw[e6,q3,q2] at d6;simp only[g4.i5,g4.c5,d6.1,d6.2,AJ,reduceIte,Nat.reduceEqDiff];exact k x3 H4 (q3.trans q2) (e3.trans e2) h3
   ·have aav:(a.bs[i]).bn=false:=by simpa using Qu
    obtain⟨w3,x3,q3,e3,h3⟩:=h2.bcell hi2 (k:=3) (by omega) (by omega) (v:=.bool (decide (sd ((a.bs[i]).fB-1)=0))) rfl {a2.bs[i] with bn:=decide (sd ((a.bs[i]).fB-1)=0)} rfl (fun _ _=>rfl);rw[q2] at w3 h3;simp only[aav,Bool.not_false,ak,d5.1,d5.2,w3,AJ,reduceIte,Nat.reduceEqDiff];generalize ag.store H3 _ _ _=H4 at h3⊢
    have e5:({a2 with bs:=a2.bs.set i {a2.bs[i] with bn:=decide (sd ((a.bs[i]).fB-1)=0)}}:Ar)=bx a i a.bs[i]:=by
     subst hA;simp only[lR,bx,aD,hd,if_true,aav,Bool.false_or,List.set_set,List.getElem_set_self]
    rw[e5] at h3;have g4:=h3.g;have QD:i<(bx a i a.bs[i]).bs.length:=by unfold bx;simpa using hi
    have d6:=h3.ck3 QD;have e6:((bx a i a.bs[i]).bs[i]).bn=(aD a.bs[i]).bn:=congrArg Bk.bn (List.getElem_set_self (by rw[List.length_set];exact hi));rw[e6,q3,q2] at d6;simp only[g4.i5,g4.c5,d6.1,d6.2,AJ,reduceIte,Nat.reduceEqDiff];exact k x3 H4 (q3.trans q2) (e3.trans e2) h3
  ·have d3:=hS.ck3 hiN;rw[eb] at d3;simp only[hd,decide_false,ai,gN.i5,gN.c5,d3.1,d3.2,AJ,reduceIte,Nat.reduceEqDiff];have eB:aD (a.bs[i]'hi)=a.bs[i]'hi:=if_neg hd;have eL:a.bs.set i (aD (a.bs[i]'hi))=a.bs:=by rw[eB];exact List.set_getElem_self hi
   have eA:bx a i (a.bs[i]'hi)=lR a:=by unfold bx lR;rw[eL]
   have k2:=k x H2 rfl rfl (by rw[eA];exact hS);rw[eA,eB] at k2;exact k2
 ·by_cases hp:a.bO>0
  ·obtain⟨w2,h2⟩:=h1.oy (k:=4) (by omega) (.int .i64 (sd (a.bO-1))) (a':={a with aF:=sd (a.aF+1),bO:=sd (a.bO-1)}) rfl rfl rfl;simp only[hp,decide_true,ak,w2,av];generalize ag.store H1 aM 4 _=H2 at h2⊢;have g2:=h2.g;simp only[g2.i4,g2.c4,AJ,reduceIte,Nat.reduceEqDiff];obtain⟨w3,h3⟩:=h2.oy (k:=5) (by omega) (.bool (decide (sd (a.bO-1)=0))) (a':={a with aF:=sd (a.aF+1),bO:=sd (a.bO-1),off:=decide (sd (a.bO-1)=0)}) rfl rfl rfl;simp only[w3,av];refine hQ _ ?_;simpa only[lR,hp,if_true] using h3
  ·simp only[hp,decide_false,ai];refine hQ _ ?_;simpa only[lR,hp,if_false] using h1
end
def gY (p:List UInt8) (n:Int):List UInt8:=p.take n.toNat++List.replicate (p.length-n.toNat) 255
@[simp] theorem nH (p:List UInt8) (n:Int):(gY p n).length=p.length:=by simp [gY];omega
section
variable {B:ag} {L:List cA} {H:ag} {K:V→ag→Prop} {q:Oq} {cap:Nat} {bs:List UInt8}
theorem OC {x y:Nat} (hx:x<4294967296) (hy:y<4294967296):cl 162 [.int .u64 (x:Int),.int .u64 (y:Int)] H K=K (.tuple [.int .u64 0,.int .u64 ((x*y:Nat):Int)]) H:=by
 have e1:Int.fdiv (x:Int) 4294967296=0:=by rw[Int.fdiv_eq_ediv_of_nonneg _ (by omega)];omega
 have e2:Int.fdiv (y:Int) 4294967296=0:=by rw[Int.fdiv_eq_ediv_of_nonneg _ (by omega)];omega
 have m1:∀z:Nat,z<4294967296→((BitVec.toNat (BitVec.ofInt 64 (z:Int) &&& BitVec.ofInt 64 4294967295):Nat):Int)=z:=by
  intro z hz;have:BitVec.ofInt 64 (z:Int)=BitVec.ofNat 64 z:=rfl;rw[this];have h2:BitVec.ofInt 64 4294967295=BitVec.ofNat 64 4294967295:=rfl;rw[h2,BitVec.toNat_and,BitVec.toNat_ofNat,BitVec.toNat_ofNat,show (4294967295:Nat) % 2 ^ 64=2 ^ 32-1 from rfl,Nat.and_two_pow_sub_one_eq_mod];omega
 have hxy:x*y<18446744073709551616:=by
  have:=Nat.mul_le_mul (show x≤4294967295 by omega) (show y≤4294967295 by omega);omega
 have u:∀z:Nat,z<18446744073709551616→IntKind.u64.wrap (z:Int)=z:=fun z hz=>cK hz
 have u0:IntKind.u64.wrap 0=0:=u 0 (by omega);have e3:((x:Int)*(y:Int))=((x*y:Nat):Int):=by simp
 have e4:∀z:Nat,z<18446744073709551616→Int.fdiv (z:Int) 4294967296=((z / 4294967296:Nat):Int):=fun z hz=>by rw[Int.fdiv_eq_ediv_of_nonneg _ (by omega)];omega
 have hz:x*y / 4294967296<4294967296:=by omega
 have e5:=e4 (x*y / 4294967296) (by omega);have e6:x*y / 4294967296 / 4294967296=0:=by omega
 rw[ZE]
 simp only[e1,e2,m1 x hx,m1 y hy,u x (by omega),u y (by omega),e3,u _ hxy,e4 _ hxy,Int.zero_mul,Int.mul_zero,u0,Int.zero_add,Int.add_zero,u _ (show x*y / 4294967296<18446744073709551616 by omega),e5,e6,m1 _ hz,
  Int.natCast_zero,Int.zero_fdiv]
theorem OD {id:Nat} {Kr:Am.St→Prop} {Ke:Nat→Am.St→Prop}:∀(k bp:Nat) (rest:List UInt8) {H:ag},bp+rest.length=96→0<bp→rest.length≤k→az B H (dj id 5 (bj (List.replicate bp 255++rest))::L)→(∀H',az B H' (dj id 5 (bj (List.replicate 96 255))::L)→Ke 0 (St.mk (ab [(7,T.v (V.slice (some (id,0)) 96 96))]) (ab []) H'))→lo 159 10 (St.mk (ab [(7,T.v (V.slice (some (id,0)) 96 96)),(8,T.v (V.int .i64 (bp:Int)))]) (ab []) H) Kr Ke
 |0,bp,rest,H,h1,h2,h3,h,hk=>by
  have:rest=[]:=List.eq_nil_of_length_eq_zero (by omega);subst this;obtain rfl:bp=96:=by simpa using h1
  rw[FQ];exact hk H (by simpa using h)
 |k+1,bp,rest,H,h1,h2,h3,h,hk=>by
  rw[FQ];by_cases hr:rest=[]
  ·subst hr;obtain rfl:bp=96:=by simpa using h1
   exact hk H (by simpa using h)
  ·have hl:0<rest.length:=List.length_pos_iff.2 hr;have a1:(bp:Int)<((96:Nat):Int):=by omega
   have a2:0≤(bp:Int):=by omega
   have a3:(bp:Int)≤((96:Nat):Int):=by omega
   have a4:bp≤96:=by omega
   have hg:=h.get;obtain⟨j,hj⟩:∃j,j=Nat.min (bp-0) (96-bp):=⟨_,rfl⟩;have hj1:j≤bp:=by rw[hj];exact Nat.le_trans (Nat.min_le_left _ _) (by omega)
   have hj2:j≤rest.length:=by rw[hj];exact Nat.le_trans (Nat.min_le_right _ _) (by omega)
   have hj3:0<j:=by rw[hj];exact Nat.lt_min.2 ⟨by omega,by omega⟩
   have hrd:Rd H (some (id,0)) (bj (List.replicate j 255)):=by
    refine .inr ⟨id,0,_,_,_,rfl,hg, ?_⟩;rw[List.drop_zero,oI,List.length_replicate,mG];congr 1;rw[List.take_append_of_le_length (by simp;omega),List.take_replicate,Nat.min_eq_left hj1]
   have hc:=mH (n:=1) (id:=id) (o:=bp) (k:=96-bp) (ms:=bp-0) (c:=96-0) (j:=j) (qs:=some (id,0)) hg hrd hj.symm (by simp) (jE _) (by omega) (by simp;try omega);have h5:=h.store (off:=bp) (vs:=bj (List.replicate j 255))
   have e5:bM (bj (List.replicate bp 255++rest)) bp (bj (List.replicate j 255))=bj (List.replicate (bp+j) 255++rest.drop j):=by
    rw[fX _ _ _ (by simp;omega),mG,qi, ←jD, ←jD];congr 1
    rw[List.take_left' (by simp),oI,List.length_replicate,List.drop_append,List.drop_of_length_le (by simp),List.length_replicate,Nat.add_sub_cancel_left,List.nil_append, ←List.append_assoc,
     List.replicate_append_replicate]
   rw[e5] at h5;have e6:IntKind.i64.wrap ((bp:Int)+((Nat.min (bp-0) (96-bp):Nat):Int))=((bp+j:Nat):Int):=by rw[←hj,bq (by omega) (by omega)];omega
   have e7:bN (some (id,0)) (bp*1)=some (id,bp):=by simp [bN]
   simp only[AJ,reduceIte,Nat.reduceEqDiff,a1,a2,a3,a4,Int.toNat_natCast,e7,gJ,hc.1,hc.2,e6];exact OD k (bp+j) (rest.drop j) (by simp;omega) (by omega) (by simp;omega) h5 hk
theorem OE (h:az B H L) (hr:lO H q [255]) (k:∀id H',az B H' (dj id 5 (bj (List.replicate 96 255))::L)→K (.slice (some (id,0)) 96 96) H'):cl 159 [.slice q 1 cap,.int .i64 96] H K:=by
 rw[ZC];have w1:IntKind.u64.wrap ((1:Nat):Int)=((1:Nat):Int):=cK (by omega);have w2:IntKind.u64.wrap 96=((96:Nat):Int):=cK (n:=96) (by omega);have w3:IntKind.i64.wrap ((1*96:Nat):Int)=96:=bq (by omega) (by omega);have d1:¬(96:Int)<0:=by decide
 have d2:¬(0:Int)>0:=by decide
 have d3:¬((1*96:Nat):Int)>9223372036854775807:=by decide
 rw[w1,w2];simp only[AJ,reduceIte,Nat.reduceEqDiff,d1];rw[ZD,OC (by omega) (by omega)];simp only[AJ,reduceIte,Nat.reduceEqDiff,d2,d3,cond_true,w3];have e96:Int.toNat 96=96:=rfl;rw[e96];have f1:(decide ((0:Int)≤96)&&(decide ((96:Int)≤96)&&decide ((96:Int)*2≤70368744177664)))=true:=by decide
 rw[f1,av];have hz:dU 96 [V.int .u8 0]=bj (List.replicate 96 0):=by kernel_rfl
 rw[hz];have h1:=h.alloc 5 (bj (List.replicate 96 0));have xN:Rd (H.alloc (.cells 5 (bj (List.replicate 96 0)) false)) q (bj [255]):=hr.fr h.ok (Fr.alloc H _ (fun _=>False)) (fun _ _ _=>id);have hg:=h1.get;have hc:=mH (n:=1) (id:=H.next) (o:=0) (k:=96) (ms:=1) (c:=cap) (j:=1) (qs:=q) hg xN rfl rfl (jE _) (by omega) (by simp);have h2:=h1.store (off:=0) (vs:=bj [255]);have e2:bM (bj (List.replicate 96 0)) 0 (bj [255])=bj (List.replicate 1 255++List.replicate 95 0):=by kernel_rfl
 rw[e2] at h2;rw[hc.1,hc.2,av];have e3:((Nat.min 1 96:Nat):Int)=((1:Nat):Int):=rfl;rw[e3];refine OD (L:=L) 95 1 (List.replicate 95 0) (by simp) (by omega) (by simp) h2 (fun H' h'=> ?_);simp only[AJ,reduceIte,Nat.reduceEqDiff];exact k _ H' h'
theorem RA (h:az B H L) (hr:kU B L q bs) (hl:bs.length=96) (hc:96≤cap) (n:Int) (k:∀q' c' H',az B H' (BY q' c' (gY bs n)::L)→K (.slice q' 96 c') H'):cl 157 [.slice q 96 cap,.int .i64 n] H K:=by
 rw[ZB];have h1:=h.alloc 5 [V.int .u8 255];have xN:lO (H.alloc (.cells 5 [V.int .u8 255] false)) (some (H.next,0)) [255]:=.inr ⟨_,0,_,_,_,rfl,h1.get,rfl⟩;refine OE (L:=L) h1.drop xN (fun id H2 h2=> ?_)
 obtain⟨m,hm⟩:∃m:Nat,(bif decide (((96:Nat):Int)<bif decide (0>n) then 0 else n) then ((96:Nat):Int) else bif decide (0>n) then 0 else n)=m∧m=min n.toNat 96:=by
  by_cases h0:0>n
  ·exact⟨0,by simp [h0],by omega⟩
  ·by_cases h1:((96:Nat):Int)<n
   ·exact⟨96,by simp only[h0,h1,decide_false,decide_true,cond_false,cond_true],by omega⟩
   ·exact⟨n.toNat,by simp only[h0,h1,decide_false,cond_false];omega,by omega⟩
 have adg:m≤96:=by omega
 have a1:0≤(m:Int):=by omega
 have a2:(m:Int)≤(cap:Int):=by omega
 have a3:m≤cap:=by omega
 have hrm:Rd H2 q (bj (bs.take m)):=by
  have:=(hr.part 0 m (by omega)).bW (dj id 5 (bj (List.replicate 96 255))) H2 h2;rw[List.drop_zero,gJ] at this;exact this
 have hg:=h2.get;have hc:=mH (n:=1) (id:=id) (o:=0) (k:=96) (ms:=m-0) (c:=cap-0) (j:=m) (qs:=q) hg hrm (by show min (m-0) 96=m;omega) (by simp;omega) (jE _) (by omega) (by simp;omega);have h3:=h2.store (off:=0) (vs:=bj (bs.take m))
 have e3:bM (bj (List.replicate 96 255)) 0 (bj (bs.take m))=bj (gY bs n):=by
  have e4:bs.take n.toNat=bs.take m:=by
   by_cases hn:n.toNat≤96
   ·congr 1;omega
   ·rw[List.take_of_length_le (by omega),List.take_of_length_le (by omega)]
  have e5:bs.length-n.toNat=96-m:=by omega
  rw[gY,e4,e5,fX _ _ _ (by simp;omega),mG,qi, ←jD, ←jD,oI,List.length_take,List.drop_replicate,List.take_zero,List.nil_append];congr 3;omega
 rw[e3] at h3;simp only[AJ,reduceIte,Nat.reduceEqDiff,hm.1,Int.toNat_natCast,a1,a2,a3,gJ,hc.1,hc.2];refine k _ _ _ (h3.unbuf ?_ (jE _) ?_ ?_ ?_)
 ·simp
 ·simp [hl]
 ·simp [hl]
 ·rw[List.drop_zero,List.take_length]
end
theorem VF:fH dK 82=some (36,1,24,[V.slice none 0 0]):=by kernel_rfl
theorem VG:iO (bh dK 82)=true:=by kernel_rfl
section
variable {B:ag} {L:List cA} {H:ag} {K:V→ag→Prop} {aM:Nat} {a:Ar} {x:Ra} {i:Nat}
theorem az.VH {q q2:Oq} {c c2:Nat} {ds:List (List UInt8)} {d:List UInt8} (h:az B H (pr q c ds::BY q2 c2 d::L)) (hb:ds.length≤1000) {K:Oq→Nat→Nat→ag→Prop} (k:∀q' c' H',az B H' (pr q' c' (ds++[d])::L)→K q' (ds.length+1) c' H'):aP dK [82,82] [.slice q ds.length c,.slice (some (H.next,0)) 1 1] (H.alloc (.cells 36 [.slice q2 d.length c2] false)) K:=by
 obtain⟨rs,rfl,h1⟩:=az.Bo h;rw[List.length_map, ←List.length_map (f:=Rg.cs)]
 refine h1.v8 VF VG (fun v hv=>by rw[List.mem_singleton] at hv;subst hv;rfl) rfl (by omega) (OA rs).py (c:=[.slice q2 d.length c2]) rfl (fun v hv=>by rw[List.mem_singleton] at hv;subst hv;rfl)
  (by rw[List.length_map] at hb⊢;omega) (fun q' c' H' h'=> ?_)
 rw[List.length_map, ←List.length_map (f:=Rg.d)];refine k q' c' H' ?_;have e:rs.map Rg.d++[d]=(rs++[Rg.mk d q2 c2]).map Rg.d:=by simp
 rw[e];refine az.OB _ ?_;have e2:(rs++[Rg.mk d q2 c2]).map Rg.cs=rs.map Rg.cs++[[.slice q2 d.length c2]]:=by simp [Rg.cs]
 rw[e2];have h2:az B H' (Rw 36 1 q' c' (rs.map Rg.cs++[[.slice q2 d.length c2]])::L++[bw (rs.map Rg.bP),BY q2 c2 d]):=h'.m0 (((List.perm_append_comm (l₁:=[bw (rs.map Rg.bP),BY q2 c2 d]) (l₂:=L)).cons _));have h3:az B H' (BY q2 c2 d::bw (rs.map Rg.bP)::Rw 36 1 q' c' (rs.map Rg.cs++[[.slice q2 d.length c2]])::L):=h'.ord [2,1]
 have h4:=h3.mI.bigPerm (l':=(rs++[Rg.mk d q2 c2]).map Rg.bP) (by
  rw[List.map_append]
  exact(List.perm_append_comm (l₁:=[BY q2 c2 d]) (l₂:=rs.map Rg.bP)))
 exact h4.swap
theorem eP.alloc (h:eP B H aM a x L) (e:TypeId) (cs:List V):eP B (H.alloc (.cells e cs false)) aM a x (dj H.next e cs::L):=
 ⟨h.bs,(h.s.alloc e cs).ord [1,1,1,1]⟩
theorem eP.drop {A:cA} (h:eP B H aM a x (A::L)):eP B H aM a x L:=⟨h.bs,(h.s.ord [4]).drop⟩
theorem eP.ord (h:eP B H aM a x L) {L':List cA} (hp:L.Perm L'):eP B H aM a x L':=⟨h.bs,h.s.m0 ((((hp.cons _).cons _).cons _).cons _)⟩
theorem eP.Z3 (h:eP B H aM a x L):az B H L:=h.s.drop.drop.drop.drop
theorem eP.open (h:eP B H aM a x L) (hi:i<a.bs.length):∃hi':i<x.rs.length,(x.rs[i]).b=a.bs[i]∧az B H (pr (x.rs[i]).q (x.rs[i]).c (a.bs[i]).pg::dj aM 81 (AO a x)::Rw 84 6 x.q x.c (x.rs.map Rb.cs)::bw ((x.rs.map Rb.bP).eraseIdx i)::zC x.q x.w a.eO::L):=by
 obtain⟨hi',hb⟩:=h.at hi;refine⟨hi',hb, ?_⟩;have h1:=(h.s.ord [2]).qn (i:=i) (by simpa using hi')
 have e:(x.rs.map Rb.bP)[i]'(by simpa using hi')=pr (x.rs[i]).q (x.rs[i]).c (a.bs[i]).pg:=by
  rw[List.getElem_map];show pr _ _ (x.rs[i]).b.pg=_
  rw[hb]
 rw[e] at h1;exact h1.ord [0,1,1]
theorem eP.close {q':Oq} {c':Nat} {Jb:List (List UInt8)} (Wx:x.rs.map Rb.b=a.bs) (hi:i<a.bs.length) (hi':i<x.rs.length) (h:az B H (pr q' c' Jb::dj aM 81 (AO a x)::Rw 84 6 x.q x.c (x.rs.map Rb.cs)::bw ((x.rs.map Rb.bP).eraseIdx i)::zC x.q x.w a.eO::L)):H.wr (pb x.q) (po x.q+i*6) 1=true∧∃x',x'.q=x.q∧x'.w=x.w∧eP B (H.store (pb x.q) (po x.q+i*6) [.slice q' Jb.length c']) aM {a with bs:=a.bs.set i {a.bs[i] with pg:=Jb}} x' L:=by
 have hb:(x.rs[i]).b=a.bs[i]:=by simp only[←Wx,List.getElem_map]
 have h1:=(h.ord [2]).DV (Ip x.rs) (i:=i) (k:=0) (by simpa using hi') (by omega) (v:=.slice q' Jb.length c') rfl;refine⟨h1.1,{x with rs:=x.rs.set i ⟨{a.bs[i] with pg:=Jb},q',c'⟩},rfl,rfl, ?_, ?_⟩
 ·show (x.rs.set i _).map Rb.b=_
  rw[List.map_set,Wx]
 ·have h2:=h1.2
  have e1:(x.rs.map Rb.cs).set i ((x.rs.map Rb.cs)[i]'(by simpa using hi') |>.set 0 (.slice q' Jb.length c'))=(x.rs.set i ⟨{a.bs[i] with pg:=Jb},q',c'⟩).map Rb.cs:=by
   rw[List.map_set,List.getElem_map];congr 1;unfold Rb.cs;rw[hb];rfl
  rw[e1] at h2;have h3:=(h2.ord [1,2]).Tf (A:=pr q' c' Jb) (l:=x.rs.map Rb.bP) (i:=i) (by simpa using hi');have e2:(x.rs.set i ⟨{a.bs[i] with pg:=Jb},q',c'⟩).map Rb.bP=(x.rs.map Rb.bP).set i (pr q' c' Jb):=by rw[List.map_set];rfl
  show az B _ (dj aM 81 (AO {a with bs:=a.bs.set i {a.bs[i] with pg:=Jb}} {x with rs:=x.rs.set i ⟨{a.bs[i] with pg:=Jb},q',c'⟩})::_::bw ((x.rs.set i ⟨{a.bs[i] with pg:=Jb},q',c'⟩).map Rb.bP)::_)
  rw[e2];have e3:AO {a with bs:=a.bs.set i {a.bs[i] with pg:=Jb}} {x with rs:=x.rs.set i ⟨{a.bs[i] with pg:=Jb},q',c'⟩}=AO a x:=by simp only[AO,List.length_set]
  rw[e3];exact h3.ord [2,1]
theorem eP.push {q2:Oq} {c2:Nat} {d:List UInt8} (h:eP B H aM a x (BY q2 c2 d::L)) (hi:i<a.bs.length) (hb:(a.bs[i]).pg.length≤1000) {Q:ag→Prop} (k:∀x' H',x'.q=x.q→x'.w=x.w→eP B H' aM {a with bs:=a.bs.set i {a.bs[i] with pg:=(a.bs[i]).pg++[d]}} x' L→Q H') (hi':i<x.rs.length):aP dK [82,82] [.slice (x.rs[i]).q (a.bs[i]).pg.length (x.rs[i]).c,.slice (some (H.next,0)) 1 1] (H.alloc (.cells 36 [.slice q2 d.length c2] false)) (fun q n c H'=>ah (H'.wr (pb x.q) (po x.q+i*6) 1) (Q (H'.store (pb x.q) (po x.q+i*6) [.slice q n c]))):=by
 obtain⟨hi',AB,h1⟩:=h.open hi;refine az.VH (L:=_) (h1.ord [0,4]) hb (fun q' c' H' h'=> ?_);obtain⟨w,x',hq,hw,h2⟩:=eP.close (L:=L) h.bs hi hi' h';rw[w,av];rw[List.length_append] at h2;exact k x' _ hq hw h2
end
def fR (a:Ar) (i p:Nat) (d:List UInt8) (e:Int):Ar×Int:=
 if a.off=true then (a,9) else if a.aA≤(p:Int) then (a,1) else if d.length≠96 then (a,3) else match a.bs[i]? with
  |none=>(a,1)
  |some b=>if p≠b.pg.length∨b.cu=true then (a,6) else if e<a.aU then (a,7) else
   if (bx a i b).off=true then ({bx a i b with eO:=.prog i d},9)
   else if (aD b).bn=true then ({bx a i b with bs:=(bx a i b).bs.set i {aD b with pg:=b.pg++[gY d 0],aR:=true}},8)
   else ({bx a i b with bs:=(bx a i b).bs.set i {aD b with pg:=b.pg++[d]}},0)
theorem bA (b:Bk):(aD b).pg=b.pg:=by unfold aD;split<;>rfl
section
variable {B:ag} {L:List cA} {H:ag} {K:V→ag→Prop} {aM:Nat} {a:Ar} {x:Ra} {i:Nat}
theorem fY (a:Ar) (i:Nat) (b:Bk):(bx a i b).bs.length=a.bs.length:=by simp [bx]
theorem B1 (a:Ar) {i:Nat} (b:Bk) (hi:i<a.bs.length):(bx a i b).bs[i]'(by rw[fY];exact hi)=aD b:=by simp [bx]
theorem eP.wayW {W:cA} (h:eP B H aM a x (W::L)) (w:V) (wy:Wy) (hW:∀g,W g→zC x.q w wy g):H.wr aM 7 1=true∧eP B (H.store aM 7 [w]) aM {a with eO:=wy} {x with w:=w} L:=by
 have h1:=h.s.BZ (k:=7) (by show 7<8;omega) w;refine⟨h1.1,h.bs, ?_⟩;have h3:az B (H.store aM 7 [w]) (W::dj aM 81 ((AO a x).set 7 w)::Rw 84 6 x.q x.c (x.rs.map Rb.cs)::bw (x.rs.map Rb.bP)::L):=((h1.2.ord [3]).drop).ord [3];exact(h3.imp hW).ord [1,1,1]
theorem eP.Z4 {l:List cA} (h:eP B H aM a x (l++L)):eP B H aM a x (bw l::L):=by
 have h1:=h.s.m0 (List.perm_append_comm_assoc [dj aM 81 (AO a x),Rw 84 6 x.q x.c (x.rs.map Rb.cs),bw (x.rs.map Rb.bP),zC x.q x.w a.eO] l L);exact⟨h.bs,(az.sV h1).ord [1,1,1,1]⟩
theorem Ir (h:az B H (dP aM a::L)) (hi:i<a.bs.length) (p:Nat) {q:Oq} {c:Nat} {d:List UInt8} (hr:kU B (dP aM a::L) q d) (hd:d.length≤1000) (e:Int) (tI:a.aA≤1000) (k:∀H',az B H' (dP aM (fR a i p d e).1::L)→K (.int .i64 (fR a i p d e).2) H'):cl 151 [.aj (some (aM,0)),.int .i64 (i:Int),.int .i64 (p:Int),.slice q d.length c,.int .u64 e] H K:=by
 rw[Zy];have hrH:=hr H h;obtain⟨x,hX⟩:=eP.of h;have g:=hX.g;have p0:¬(p:Int)<0:=by omega
 have h9:¬(9:Int)=0:=by decide
 refine DW hX hi (fun ho=> ?_) (fun ho'=> ?_)
 ·have e2:fR a i p d e=(a,9):=by simp [fR,ho]
  rw[e2] at k;simp only[AJ,reduceIte,Nat.reduceEqDiff,h9];exact k H h
 simp only[AJ,reduceIte,Nat.reduceEqDiff,if_true,Option.isSome_some,g.i1,g.c1,aN,p0,Nat.zero_add,cond_true,ite_self,Int.toNat_natCast];by_cases hp:a.aA≤(p:Int)
 ·have e2:fR a i p d e=(a,1):=by simp [fR,ho',hp]
  rw[e2] at k;have AW:(p:Int)≥a.aA:=hp;simp only[AW,decide_true,ak];exact k H h
 have AW:¬(p:Int)≥a.aA:=hp;simp only[AW,decide_false,ai];by_cases hl:d.length≠96
 ·have e2:fR a i p d e=(a,3):=by simp [fR,ho',hp,hl]
  rw[e2] at k;have hl':¬(d.length:Int)=96:=by omega
  simp only[hl',decide_false,Bool.not_false,ak];exact k H h
 have TO:d.length=96:=by omega
 have hl':(d.length:Int)=96:=by omega
 have hbk:a.bs[i]? =some a.bs[i]:=List.getElem?_eq_getElem hi;obtain⟨q',c',g3,g2,g1,_⟩:=hX.pgA hi;have g5:=hX.ck2 hi;simp only[hl',decide_true,Bool.not_true,ai,g2,g3,g5.1,g5.2,AJ,reduceIte,Nat.reduceEqDiff,ite_self];by_cases hk:p≠(a.bs[i]).pg.length∨(a.bs[i]).cu=true
 ·have e2:fR a i p d e=(a,6):=by simp only[fR,ho',hp,hl,hbk,hk,if_true,if_false,Bool.false_eq_true]
  rw[e2] at k
  have e3:(bif !!decide ((p:Int)=((a.bs[i]).pg.length:Int)) then (a.bs[i]).cu else true)=true:=by
   rcases hk with hk|hk
   ·have:¬(p:Int)=((a.bs[i]).pg.length:Int):=by omega
    simp [this]
   ·simp [hk]
  simp only[Bool.not_not] at e3;simp only[Bool.not_not,e3,ak];exact k H h
 have Xh:p=(a.bs[i]).pg.length:=by omega
 have hk2:(a.bs[i]).cu=false:=by simpa using fun hh=>hk (.inr hh)
 have hk3:(p:Int)=((a.bs[i]).pg.length:Int):=by omega
 simp only[hk3,hk2,decide_true,Bool.not_not,cond_true,ai,g.i2,g.c2,AJ,reduceIte,Nat.reduceEqDiff];by_cases hf:e<a.aU
 ·have e2:fR a i p d e=(a,7):=by simp only[fR,ho',hp,hl,hbk,hk,hf,if_true,if_false,Bool.false_eq_true]
  rw[e2] at k;simp only[hf,decide_true,ak];exact k H h
 simp only[hf,decide_false,ai]
 have e2:fR a i p d e=if (bx a i a.bs[i]).off=true then ({bx a i a.bs[i] with eO:=.prog i d},9)
  else if (aD a.bs[i]).bn=true then ({bx a i a.bs[i] with bs:=(bx a i a.bs[i]).bs.set i {aD a.bs[i] with pg:=(a.bs[i]).pg++[gY d 0],aR:=true}},8)
  else ({bx a i a.bs[i] with bs:=(bx a i a.bs[i]).bs.set i {aD a.bs[i] with pg:=(a.bs[i]).pg++[d]}},0):=by
  simp only[fR,ho',hp,hl,hbk,hk,hf,if_true,if_false,Bool.false_eq_true]
 rw[e2] at k;clear e2;obtain⟨b,hb⟩:∃b,b=a.bs[i]:=⟨_,rfl⟩;obtain⟨a3,SN⟩:∃a3,a3=bx a i b:=⟨_,rfl⟩;rw[←hb, ←SN] at k;have QD:i<a3.bs.length:=by rw[SN,fY];exact hi
 have E2:a3.bs[i]=aD b:=by subst SN;exact B1 a b hi
 refine ki hX.s hrH (by omega) (fun q2 c2 H2 h2=> ?_);have Ht:d.length≤c2:=(h2.M7).2.2.1;have hX2:eP B H2 aM a x (BY q2 c2 d::L):=⟨hX.bs,h2.ord [1,1,1,1]⟩;simp only[AJ,reduceIte,Nat.reduceEqDiff];refine F5 hX2 hi (fun x3 H3 MY hw3 QE=> ?_);rw[←hb, ←SN] at QE⊢;simp only[AJ,reduceIte,Nat.reduceEqDiff,Bool.not_not];by_cases SO:a3.off=true
 ·rw[if_pos SO] at k;simp only[SO,ak];have hA:=(QE.alloc 104 [.aj (some (pb x.q,po x.q+i*6))]).alloc 36 [.slice q2 d.length c2]
  have hA2:eP B ((H3.alloc (.cells 104 [.aj (some (pb x.q,po x.q+i*6))] false)).alloc (.cells 36 [.slice q2 d.length c2] false)) aM a3 x3 (bw [dj H3.next 104 [.aj (some (pb x.q,po x.q+i*6))],dj (H3.next+1) 36 [.slice q2 d.length c2],BY q2 c2 d]::L):=
   eP.Z4 (l:=[dj H3.next 104 [.aj (some (pb x.q,po x.q+i*6))],dj (H3.next+1) 36 [.slice q2 d.length c2],BY q2 c2 d]) (hA.ord (.swap ..))
  obtain⟨w,hW⟩:=hA2.wayW (.func 156 [.aj (some (H3.next,0)),.aj (some (H3.next+1,0))]) (.prog i d) (fun g hg=>by
   rw[←MY] at hg
   exact⟨(H3.next,H3.next+1),(q2,c2),_,g,lN.empty g,⟨rfl,rfl⟩,hg⟩)
  rw[show (H3.alloc (.cells 104 [.aj (some (pb x.q,po x.q+i*6))] false)).next=H3.next+1 from rfl,w,av];exact k _ hW.to
 ·have Wz:a3.off=false:=by simpa using SO
  rw[if_neg SO] at k;simp only[Wz,ai];obtain⟨hi',hb',_⟩:=QE.open QD;have g3:=QE.g.b0 hi';rw[hb',E2,bA,MY,hb] at g3;simp only[g3.2.1,g3.2.2,AJ,reduceIte,Nat.reduceEqDiff];have AA:(a.bs[i]).pg.length≤1000:=by omega
  by_cases QQ:(aD b).bn=true
  ·rw[if_pos QQ] at k;simp only[QQ,ak]
   have T:∀(K:V→ag→Prop),(∀q' c' H',eP B H' aM a3 x3 (BY q' c' (gY d 0)::L)→K (.slice q' 96 c') H')→cl 157 [.slice q2 d.length c2,.int .i64 0] H3 K:=fun K k=>by
    rw[TO];exact RA QE.s (fun H' h'=>(h'.ord [4]).iV) TO (by omega) 0 (fun q' c' H' h'=>k q' c' H' ⟨QE.bs,(h'.ord [5]).drop.ord [1,1,1,1]⟩)
   have P:∀q' c' H',eP B H' aM a3 x3 (BY q' c' (gY d 0)::L)→aP dK [82,82] [.slice (x3.rs[i]).q (a.bs[i]).pg.length (x3.rs[i]).c,.slice (some (H'.next,0)) 1 1] (H'.alloc (.cells 36 [.slice q' 96 c'] false))
    (fun q n c H'=>ah (H'.wr (pb x.q) (po x.q+i*6) 1) (ah ((H'.store (pb x.q) (po x.q+i*6) [.slice q n c]).wr (pb x.q) (po x.q+i*6+4) 1) (K (.int .i64 8) ((H'.store (pb x.q) (po x.q+i*6) [.slice q n c]).store (pb x.q) (po x.q+i*6+4) [.bool true])))):=by
    intro q' c' H' h';have hp3:(a3.bs[i]).pg.length≤1000:=by rw[E2,bA,hb];exact AA
    have:=h'.push QD hp3 (Q:=fun H2=>ah (H2.wr (pb x.q) (po x.q+i*6+4) 1) (K (.int .i64 8) (H2.store (pb x.q) (po x.q+i*6+4) [.bool true]))) (fun x4 H4 hq4 hw4 hX4=> ?_) hi'
    ·rw[E2,bA,hb,nH,TO,MY] at this;exact this
    ·obtain⟨w,x5,hq5,hw5,hX5⟩:=hX4.bcell (i:=i) (by simpa using QD) (k:=4) (by omega) (by omega) (v:=.bool true) rfl {aD b with pg:=(a.bs[i]).pg++[gY d 0],aR:=true} (by simp [E2,bA,hb]) (by intro q c;simp [E2,bA,hb];rfl);rw[hq4,MY] at w hX5;rw[w,av];refine k _ (eP.to (x:=x5) ?_);simpa [hb] using hX5
   refine⟨T _ (fun q' c' H' h'=> ?_),T _ (fun q' c' H' h'=> ?_)⟩
   ·simp only[AJ,reduceIte,Nat.reduceEqDiff];exact P q' c' H' h'
   ·have g4:=h'.g.b0 hi';have g5:=(h'.alloc 36 [.slice q' 96 c']).g.b0 hi';rw[hb',E2,bA,MY,hb] at g4 g5;simp only[AJ,reduceIte,Nat.reduceEqDiff,g4.2.1,g4.2.2,g5.2.1,g5.2.2,and_self];exact P q' c' H' h'
  ·rw[if_neg QQ] at k;have WA:(aD b).bn=false:=by simpa using QQ
   simp only[WA,ai];have g5:=(QE.alloc 36 [.slice q2 d.length c2]).g.b0 hi';rw[hb',E2,bA,MY,hb] at g5;simp only[AJ,reduceIte,Nat.reduceEqDiff,g5.2.1,g5.2.2,and_self];have hp3:(a3.bs[i]).pg.length≤1000:=by rw[E2,bA,hb];exact AA
   have:=QE.push QD hp3 (Q:=fun H2=>K (.int .i64 0) H2) (fun x4 H4 hq4 hw4 hX4=> ?_) hi'
   ·rw[E2,bA,hb,MY] at this;exact this
   ·refine k _ (eP.to (x:=x4) ?_);simpa [E2,bA] using hX4
end
def xD (b:Bk):Bk:={b with pg:=[],cu:=false,er:=sd (b.er+1)}
def ea (a:Ar) (i:Nat) (e:Int):Ar×Int:=
 if a.off=true then (a,9) else if e<a.aU then (a,7) else match a.bs[i]? with
  |none=>(a,1)
  |some b=>
   if (bx a i b).off=true then ({bx a i b with eO:=.er i (aD b).bn},9)
   else if (aD b).bn=true then ({bx a i b with bs:=(bx a i b).bs.set i {aD b with aR:=true}},8)
   else ({bx a i b with bs:=(bx a i b).bs.set i (xD (aD b))},0)
def xl (a:Ar) (cut:Int):Ar:=match a.eO with
 | .no=>a
 | .any=>a
 | .prog i d=>if cut>0 then match a.bs[i]? with
   |none=>a
   |some b=>{a with bs:=a.bs.set i {b with pg:=b.pg++[gY d cut]}} else a
 | .er i bn=>match a.bs[i]? with
   |none=>a
   |some b=>if 96≤cut∧bn=false then {a with bs:=a.bs.set i (xD b)} else if cut>0 then {a with bs:=a.bs.set i {b with cu:=decide (0<b.pg.length)}} else a
def cE (a:Ar) (cut:Int):Ar:={xl a cut with eO:=.no,off:=false,bO:=0,aU:=0,boots:=sd (a.boots+1)}
def B2 (a:Ar):Prop:=match a.eO with
 | .no=>True
 | .any=>False
 | .prog i d=>d.length=96∧∃h:i<a.bs.length,(a.bs[i]).pg.length≤1000
 | .er i _=>i<a.bs.length
section
variable {B:ag} {L:List cA} {H:ag} {K:V→ag→Prop} {aM:Nat} {a:Ar} {x:Ra} {i:Nat}
theorem acx {id:Nat} {e:TypeId} {v:V} (h:az B H (dj id e [v]::L)):H.inb id 0 1=true∧H.cell id 0=v∧H.wr id 0 1=true:=
 ⟨dF h.get 0 1,aY h.get 0,fK h.get 0 1⟩
theorem eP.b1 {id:Nat} {e:TypeId} {v:V} (h:eP B H aM a x (dj id e [v]::L)):H.inb id 0 1=true∧H.cell id 0=v∧H.wr id 0 1=true:=acx h.Z3
theorem RB {id:Nat} (h:eP B H aM a x (dj id 104 [.aj (some (pb x.q,po x.q+i*6))]::L)) (hi:i<a.bs.length) (k:∀x' H',x'.q=x.q→x'.w=x.w→eP B H' aM {a with bs:=a.bs.set i (xD a.bs[i])} x' (dj id 104 [.aj (some (pb x.q,po x.q+i*6))]::L)→K (.tuple []) H'):cl 127 [.aj (some (id,0))] H K:=by
 rw[Zj];obtain⟨hi',hb',h1⟩:=h.open hi
 have hN:az B H (pr none 0 []::dj aM 81 (AO a x)::Rw 84 6 x.q x.c (x.rs.map Rb.cs)::bw ((x.rs.map Rb.bP).eraseIdx i)::zC x.q x.w a.eO::dj id 104 [.aj (some (pb x.q,po x.q+i*6))]::L):=
  az.OB (rs:=[]) ((h1.drop.qm).rwNil 36 1)
 obtain⟨w1,x1,hq1,hw1,h2⟩:=eP.close (L:=_) h.bs hi hi' hN;have f0:=h.b1;have f1:=h2.b1;have hi1:i<(a.bs.set i {a.bs[i] with pg:=[]}).length:=by simpa using hi
 obtain⟨w2,x2,QN,hw2,h3⟩:=h2.bcell (i:=i) hi1 (k:=2) (by omega) (by omega) (v:=.bool false) rfl {a.bs[i] with pg:=[],cu:=false} (by simp) (by intro q c;simp;rfl);have f2:=h3.b1;have hi2:i<((a.bs.set i {a.bs[i] with pg:=[]}).set i {a.bs[i] with pg:=[],cu:=false}).length:=by simpa using hi
 have f3:=h3.ck1 hi2;obtain⟨w3,x3,MY,hw3,h4⟩:=h3.bcell (i:=i) hi2 (k:=1) (by omega) (by omega) (v:=.int .i64 (sd ((a.bs[i]).er+1))) rfl (xD a.bs[i]) (by simp [xD]) (by intro q c;simp [xD];rfl);rw[hq1] at w2 h3 f2 f3 w3 h4;rw[QN,hq1] at f3 w3 h4;simp only[List.getElem_set_self] at f3;have l0:([]:List (List UInt8)).length=0:=rfl;rw[l0] at w2 h3 f2 f3 w3 h4 f1;simp only[AJ,reduceIte,Nat.reduceEqDiff,f0.1,f0.2.1,w1,f1.1,f1.2.1,w2,Option.isSome_some,and_self];have f3':=f3.1;have acS:=f3.2;simp only[f2.1,f2.2.1,f3',acS,AJ,reduceIte,Nat.reduceEqDiff,Option.isSome_some,w3];refine k x3 _ (by rw[MY,QN,hq1]) (by rw[hw3,hw2,hw1]) ?_;simpa using h4
theorem OF (h:az B H (dP aM a::L)) (hi:i<a.bs.length) (e:Int) (k:∀H',az B H' (dP aM (ea a i e).1::L)→K (.int .i64 (ea a i e).2) H'):cl 104 [.aj (some (aM,0)),.int .i64 (i:Int),.int .u64 e] H K:=by
 rw[Y9];obtain⟨x,hX⟩:=eP.of h;have h9:¬(9:Int)=0:=by decide
 have hbk:a.bs[i]? =some a.bs[i]:=List.getElem?_eq_getElem hi
 have st:∀(p:Oq) {H0:ag} {a0:Ar} {x0:Ra} {L0:List cA} {e:TypeId} {v0 v:V},eP B H0 aM a0 x0 L0→(H0.alloc (.cells e [v0] false)).wr H0.next 0 1=true∧eP B ((H0.alloc (.cells e [v0] false)).store H0.next 0 [v]) aM a0 x0 (dj H0.next e [v]::L0):=by
  intro p H0 a0 x0 L0 e v0 v h0;have h1:=h0.alloc e [v0];have h2:=(h1.s.ord [4]).BZ (k:=0) (by show 0<1;omega) v;exact⟨h2.1,h0.bs,az.ord h2.2 [1,1,1,1]⟩
 refine DW hX hi (fun ho=> ?_) (fun ho'=> ?_)
 ·have e2:ea a i e=(a,9):=by simp [ea,ho]
  rw[e2] at k;obtain⟨w,h1⟩:=st none (e:=104) (v0:=.aj none) (v:=.aj none) hX;simp only[AJ,reduceIte,Nat.reduceEqDiff,h9,w];exact k _ h1.drop.to
 obtain⟨w,h1⟩:=st none (e:=104) (v0:=.aj none) (v:=.aj (some (pb x.q,po x.q+i*6))) hX;obtain⟨pid,SP⟩:∃p,p=H.next:=⟨_,rfl⟩;simp only[AJ,reduceIte,Nat.reduceEqDiff,w];generalize (ag.store _ _ _ _)=H1 at h1⊢;rw[←SP] at h1⊢;have g1:=h1.g;have f1:=h1.b1;simp only[g1.i2,g1.c2,Option.isSome_some,Nat.zero_add,AJ,reduceIte,Nat.reduceEqDiff];by_cases hf:e<a.aU
 ·have e2:ea a i e=(a,7):=by simp [ea,ho',hf]
  rw[e2] at k;simp only[hf,decide_true,ak];exact k _ h1.drop.to
 have e2:ea a i e=if (bx a i a.bs[i]).off=true then ({bx a i a.bs[i] with eO:=.er i (aD a.bs[i]).bn},9)
  else if (aD a.bs[i]).bn=true then ({bx a i a.bs[i] with bs:=(bx a i a.bs[i]).bs.set i {aD a.bs[i] with aR:=true}},8)
  else ({bx a i a.bs[i] with bs:=(bx a i a.bs[i]).bs.set i (xD (aD a.bs[i]))},0):=by
  simp only[ea,ho',hf,hbk,if_false,Bool.false_eq_true]
 rw[e2] at k;clear e2;obtain⟨b,hb⟩:∃b,b=a.bs[i]:=⟨_,rfl⟩;obtain⟨a3,SN⟩:∃a3,a3=bx a i b:=⟨_,rfl⟩;rw[←hb, ←SN] at k;have QD:i<a3.bs.length:=by rw[SN,fY];exact hi
 have E2:a3.bs[i]=aD b:=by subst SN;exact B1 a b hi
 simp only[hf,decide_false,ai,f1.1,f1.2.1,AJ,reduceIte,Nat.reduceEqDiff];refine F5 h1 hi (fun x3 H3 MY hw3 QE=> ?_);rw[←hb, ←SN] at QE⊢;simp only[AJ,reduceIte,Nat.reduceEqDiff];obtain⟨w4,h4⟩:=st none (e:=4) (v0:=.bool false) (v:=.bool (aD b).bn) QE;simp only[w4,av];obtain⟨bid,acT⟩:∃p,p=H3.next:=⟨_,rfl⟩;generalize (ag.store _ _ _ _)=H4 at h4⊢;rw[←acT] at h4⊢;obtain⟨w5,h5⟩:=st none (e:=1) (v0:=.nilFunc) (v:=.func 127 [.aj (some (pid,0))]) h4;simp only[w5,av];obtain⟨fid,MZ⟩:∃p,p=H4.next:=⟨_,rfl⟩;generalize (ag.store _ _ _ _)=H5 at h5⊢;rw[←MZ] at h5⊢;by_cases SO:a3.off=true
 ·rw[if_pos SO] at k
  have hA2:eP B H5 aM a3 x3 (bw [dj bid 4 [.bool (aD b).bn],dj fid 1 [.func 127 [.aj (some (pid,0))]],dj pid 104 [.aj (some (pb x.q,po x.q+i*6))]]::L):=
   eP.Z4 (l:=[dj bid 4 [.bool (aD b).bn],dj fid 1 [.func 127 [.aj (some (pid,0))]],dj pid 104 [.aj (some (pb x.q,po x.q+i*6))]]) (h5.ord (.swap ..))
  obtain⟨w,hW⟩:=hA2.wayW (.func 128 [.aj (some (bid,0)),.aj (some (fid,0)),.aj (some (pid,0))]) (.er i (aD b).bn) (fun g hg=>by
   rw[←MY] at hg
   exact⟨(bid,fid,pid),_,g,lN.empty g,⟨rfl,rfl⟩,hg⟩)
  simp only[SO,Bool.not_true,Bool.not_false,ak,w,av];exact k _ hW.to
 have Wz:a3.off=false:=by simpa using SO
 rw[if_neg SO] at k;have f5:=h5.drop.b1;have f6:=h5.b1;have f7:=h5.drop.drop.b1;simp only[Wz,Bool.not_true,Bool.not_false,ai,f5.1,f5.2.1,AJ,reduceIte,Nat.reduceEqDiff];by_cases QQ:(aD b).bn=true
 ·rw[if_pos QQ] at k;obtain⟨w6,x6,hq6,hw6,h6⟩:=h5.bcell (i:=i) QD (k:=4) (by omega) (by omega) (v:=.bool true) rfl {aD b with aR:=true} (by rw[E2]) (by intro q c;rw[E2];rfl);rw[MY] at w6 h6;simp only[QQ,ak,f7.1,f7.2.1,Option.isSome_some,w6,AJ,reduceIte,Nat.reduceEqDiff];exact k _ (h6.drop.drop.drop).to
 ·rw[if_neg QQ] at k;have WA:(aD b).bn=false:=by simpa using QQ
  simp only[WA,ai,f6.1,f6.2.1,V.aw,av,Bool.and_self]
  have h7:eP B H5 aM a3 x3 (dj pid 104 [.aj (some (pb x3.q,po x3.q+i*6))]::L):=by
   rw[MY];exact h5.drop.drop
  show cl 127 [.aj (some (pid,0))] H5 _
  refine RB h7 QD (fun x8 H8 _ _ h8=> ?_);rw[E2] at h8;exact k _ h8.drop.to
end
def fL:Bk:=⟨[],0,false,false,false,0⟩
def zD:Bk:=⟨[],0,false,true,true,0⟩
def se (bs:List Bk):List Int→List Bk
 |[]=>bs
 |i::l=>se (bs.set i.toNat zD) l
def Bp (n:Nat) (p:Int) (bI:List Int):Ar:={bs:=se (List.replicate n fL) bI,aA:=p,aU:=0,boots:=0,bO:=0,off:=false,aF:=0,eO:=.no}
theorem B3:∀(l:List Int) (bs:List Bk),(se bs l).length=bs.length
 |[],_=>rfl
 |i::l,bs=>by rw[se,B3 l,List.length_set]
section
variable {B:ag} {L:List cA} {H:ag} {K:V→ag→Prop} {aM:Nat} {a:Ar} {x:Ra} {i:Nat}
theorem az.F6 (h:az B H L):∀n:Nat,az B H (bw (List.replicate n (pr none 0 []))::L)
 |0=>h.qm
 |n+1=>az.mI (az.OB (rs:=[]) (((az.F6 h n).qm).rwNil 36 1))
theorem F7 (l:List V):∀n:Nat,(List.replicate n l).flatten=dU n l
 |0=>rfl
 |n+1=>by
  rw[List.replicate_succ,List.flatten_cons,F7 l n];rfl
theorem OG {q:Oq} {c n:Nat} {bI:List Int} (hr:FZ B L q bI) (hl:bI.length≤1000000) {Kr:Am.St→Prop} {Ke:Nat→Am.St→Prop}:∀(k j:Nat) (a:Ar) {x:Ra} {H:ag},j+k=bI.length→a.bs.length=n→(∀b∈a.bs,b=fL∨b=zD)→eP B H aM a x L→((∃i∈bI.drop j,i<0∨(n:Int)≤i)→∀H',az B H' L→Kr (St.mk (ab [(6,T.v (V.aj none)),(7,T.v (V.int .i64 1))]) (ab []) H'))→((∀i∈bI.drop j,0≤i∧i<(n:Int))→∀H' x',eP B H' aM {a with bs:=se a.bs (bI.drop j)} x' L→Ke 0 (St.mk (ab [(8,T.v (V.aj (some (aM,0))))]) (ab []) H'))→lo 12 6 (St.mk (ab [(0,T.v (V.int .i64 (n:Int))),(8,T.v (V.aj (some (aM,0)))),(30,T.v (V.slice q bI.length c)),(31,T.v (V.int .i64 (bI.length:Int))),(32,T.v (V.int .i64 (j:Int)))]) (ab []) H) Kr Ke
 |0,j,a,x,H,hj,hn,hp,h,k1,k2=>by
  obtain rfl:j=bI.length:=by omega
  rw[N0,decide_eq_false (by omega),ai];rw[List.drop_length] at k2;exact k2 (by simp) H x h
 |k+1,j,a,x,H,hj,hn,hp,h,k1,k2=>by
  have hlt:j<bI.length:=by omega
  obtain⟨g1,g2,g3⟩:=(hr H h.Z3).at hlt;have a1:(j:Int)<(bI.length:Int):=by omega
  have a2:0≤(j:Int):=by omega
  rw[List.drop_eq_getElem_cons hlt] at k1 k2;rw[N0];simp only[AJ,reduceIte,Nat.reduceEqDiff,a1,a2,Int.toNat_natCast,g1,g2,g3];by_cases hb:bI[j]<0∨(n:Int)≤bI[j]
  ·have e:(bif !decide (bI[j]<0) then decide (bI[j]≥(n:Int)) else true)=true:=by
    rcases hb with hb|hb
    ·simp [hb]
    ·have:bI[j]≥(n:Int):=hb;simp [this]
   rw[e,ak];exact k1 ⟨_,List.mem_cons_self,hb⟩ H h.Z3
  ·obtain⟨b1,b2⟩:¬bI[j]<0∧¬(n:Int)≤bI[j]:=by omega
   have b2':¬bI[j]≥(n:Int):=b2;have b3:0≤bI[j]:=by omega
   have b4:bI[j]<(n:Int):=by omega
   have hi:bI[j].toNat<a.bs.length:=by omega
   have hp0:=hp _ (List.getElem_mem hi);have g:=h.g;have hx:=h.len;have b5:bI[j]<(x.rs.length:Int):=by omega
   obtain⟨s1,_⟩:=h.c0 hi;obtain⟨w1,x1,q1,e1,h1⟩:=h.bcell hi (k:=3) (by omega) (by omega) (v:=.bool true) rfl {a.bs[bI[j].toNat] with bn:=true} rfl (fun _ _=>rfl);have hi1:bI[j].toNat<(a.bs.set bI[j].toNat {a.bs[bI[j].toNat] with bn:=true}).length:=by simpa using hi
   obtain⟨w2,x2,q2,e2,h2⟩:=h1.bcell hi1 (k:=4) (by omega) (by omega) (v:=.bool true) rfl {a.bs[bI[j].toNat] with bn:=true,aR:=true} (by simp) (fun _ _=>by simp;rfl);rw[q1] at w2 h2;simp only[b1,b2',b3,b4,b5,decide_false,Bool.not_false,cond_true,ai,Option.isSome_some,g.i0,g.c0,Nat.zero_add,s1,w1,w2,AJ,reduceIte,Nat.reduceEqDiff];rw[aL (by omega)]
   have eb:({a.bs[bI[j].toNat] with bn:=true,aR:=true}:Bk)=zD:=by
    rcases hp0 with hp0|hp0<;>rw[hp0]<;>rfl
   rw[eb,List.set_set] at h2;refine OG hr hl k (j+1) {a with bs:=a.bs.set bI[j].toNat zD} (by omega) (by rw[List.length_set];exact hn) (fun b hb'=> ?_) h2 (fun he=>k1 ?_) (fun hall H' x' h'=> ?_)
   ·rcases List.mem_or_eq_of_mem_set hb' with hb'|hb'
    ·exact hp b hb'
    ·exact .inr hb'
   ·obtain⟨z,EK,yi⟩:=he;exact⟨z,List.mem_cons_of_mem _ EK,yi⟩
   ·exact k2 (fun z hz=>by
     rcases List.mem_cons.1 hz with rfl|hz
     ·omega
     ·exact hall z hz) H' x' h'
theorem OH (h:az B H L) (b p:Int) {q:Oq} {c:Nat} {bI:List Int} (hr:FZ B L q bI) (hl:bI.length≤1000000) (k1:¬(1≤b∧b≤64∧1≤p∧p≤32∧∀i∈bI,0≤i∧i<b)→∀H',az B H' L→K (.tuple [.aj none,.int .i64 1]) H') (k2:(1≤b∧b≤64∧1≤p∧p≤32∧∀i∈bI,0≤i∧i<b)→∀aM H',az B H' (dP aM (Bp b.toNat p bI)::L)→K (.tuple [.aj (some (aM,0)),.int .i64 0]) H'):cl 12 [.int .i64 b,.int .i64 p,.slice q bI.length c] H K:=by
 rw[abb];by_cases hn:1≤b∧b≤64∧1≤p∧p≤32
 ·obtain⟨h1,h2,h3,h4⟩:=hn;have b1:¬b<1:=by omega
  have b2:¬b>64:=by omega
  have b3:¬p<1:=by omega
  have b4:¬p>32:=by omega
  have b5:0≤b:=by omega
  have b6:b*49≤70368744177664:=by omega
  have b7:b≤b:=by omega
  simp only[b1,b2,b3,b4,b5,b6,b7,decide_false,decide_true,Bool.not_false,cond_true,ai,Bool.and_self,av,oX];obtain⟨n,rfl⟩:∃n:Nat,b=(n:Int):=⟨b.toNat,by omega⟩;rw[Int.toNat_natCast] at*;have hA:=h.alloc 84 (dU n (S9 none 0 0 0 false false false 0))
  have hrow:az B (H.alloc (.cells 84 (dU n (S9 none 0 0 0 false false false 0)) false)) (Rw 84 6 (some (H.next,0)) n ((List.replicate n (Rb.mk fL none 0)).map Rb.cs)::L):=by
   have e:(List.replicate n (Rb.mk fL none 0)).map Rb.cs=List.replicate n (S9 none 0 0 0 false false false 0):=by rw[List.map_replicate];rfl
   rw[e];have hlen:(dU n (S9 none 0 0 0 false false false 0)).length=n*6:=by rw[dU,gg];rfl
   unfold Rw;rw[F7,List.length_replicate];exact hA.unbuf hlen (gE (fun v hv=>by simp only[S9,List.mem_cons,List.not_mem_nil,or_false] at hv;rcases hv with rfl|rfl|rfl|rfl|rfl|rfl<;>rfl) _) (by omega) (by rw[hlen];omega) (by rw[List.drop_zero,List.take_length])
  generalize ag.alloc H _=H1 at hrow⊢;have hB:=hrow.alloc 81 (c80 (some (H.next,0)) n n p 0 0 0 false 0 .nilFunc);obtain⟨aM,aaw⟩:∃z,z=H1.next:=⟨_,rfl⟩;generalize ag.alloc H1 _=H2 at hB⊢;rw[←aaw] at hB;have hN:H1.2=aM:=aaw.symm;rw[hN]
  have hX:eP B H2 aM {bs:=List.replicate n fL,aA:=p,aU:=0,boots:=0,bO:=0,off:=false,aF:=0,eO:=.no} ⟨.nilFunc,some (H.next,0),n,List.replicate n (Rb.mk fL none 0)⟩ L:=by
   refine⟨by simp, ?_⟩;have h3:=(az.pure (p:=V.nilFunc=V.nilFunc) hB rfl);have h4:=az.F6 h3 n;have e1:(List.replicate n (Rb.mk fL none 0)).map Rb.bP=List.replicate n (pr none 0 []):=by rw[List.map_replicate];rfl
   have h5:=h4.ord [2,2,0,0];show az B H2 (dj aM 81 (c80 (some (H.next,0)) (List.replicate n (Rb.mk fL none 0)).length n p 0 0 0 false 0 .nilFunc)::_::bw ((List.replicate n (Rb.mk fL none 0)).map Rb.bP)::_)
   rw[e1,List.length_replicate];exact h5
  refine OG hr hl bI.length 0 _ (by omega) (by simp) (fun b hb=>.inl (List.eq_of_mem_replicate hb)) hX (fun he H' h'=> ?_) (fun ha H' x' h'=> ?_)
  ·simp only[AJ,reduceIte,Nat.reduceEqDiff];refine k1 (fun hh=> ?_) H' h';obtain⟨z,EK,yi⟩:=he;have:=hh.2.2.2.2 z EK;omega
  ·simp only[AJ,reduceIte,Nat.reduceEqDiff];exact k2 ⟨h1,h2,h3,h4,ha⟩ aM H' h'.to
 ·have e:(bif !decide (b<1) then bif !decide (b>64) then bif !decide (p<1) then decide (p>32) else true else true else true)=true:=by
   by_cases b1:b<1
   ·simp [b1]
   by_cases b2:b>64
   ·simp [b1,b2]
   by_cases b3:p<1
   ·simp [b1,b2,b3]
   have b4:p>32:=by omega
   simp [b1,b2,b3,b4]
  rw[e,ak];exact k1 (fun hh=>hn ⟨hh.1,hh.2.1,hh.2.2.1,hh.2.2.2.1⟩) H h
end
section
variable {B:ag} {L:List cA} {H:ag} {K:V→ag→Prop} {q:Oq} {cap:Nat} {bs:List UInt8}
theorem OI (n size:Nat) (hs:size≤8) (bs:List UInt8) (hb:bs.length+size≤1000000000) {Kr:Am.St→Prop} {Ke:Nat→Am.St→Prop}:∀(k i:Nat) {q:Oq} {cap:Nat} {H:ag},i+k=size→az B H (BY q cap (bs++le n i)::L)→(∀q' c' H',az B H' (BY q' c' (bs++le n size)::L)→Ke 0 (St.mk (ab [(0,T.v (V.slice q' (bs++le n size).length c'))]) (ab []) H'))→lo 119 2 (St.mk (ab [(0,T.v (V.slice q (bs++le n i).length cap)),(1,T.v (V.int .u64 (n:Int))),(8,T.v (V.int .i64 (size:Int))),(9,T.v (V.int .i64 (i:Int)))]) (ab []) H) Kr Ke
 |0,i,q,cap,H,hi,h,hk=>by
  obtain rfl:i=size:=by omega
  rw[JB];(try simp only[NQ]);have e1:decide ((i:Int)<(i:Int))=false:=by simp
  rw[e1,ai];exact hk _ _ _ h
 |k+1,i,q,cap,H,hi,h,hk=>by
  rw[JB];(try simp only[NQ]);have e1:decide ((i:Int)<(size:Int))=true:=by simp;omega
  rw[e1,ak,FR (by omega),av,Om n (by omega)];refine FV h _ (by simp;omega) (fun q' c' H' h'=> ?_);rw[aL (by omega)];rw[List.append_assoc, ←JJ] at h'⊢;exact OI n size hs bs hb k (i+1) (by omega) h' hk
theorem eH (n size:Nat) (h:az B H (BY q cap bs::L)) (hs:size≤8) (hb:bs.length+size≤1000000000) (k:∀q' c' H',az B H' (BY q' c' (bs++le n size)::L)→K (.slice q' (bs++le n size).length c') H'):cl 119 [.slice q bs.length cap,.int .u64 (n:Int),.int .i64 (size:Int)] H K:=by
 rw[ZF];(try simp only[NQ])
 have:=OI (B:=B) (L:=L) n size hs bs hb (Kr:=fun _=>False) (Ke:=fun j S'=>br (Nat.beq j 0) (ah (aB (KT.k cg.slice) (S'.1 0)||false||false) (K (V.slice (V.au (T.val (S'.1 0))) (V.ax (T.val (S'.1 0))) (V.aC (T.val (S'.1 0)))) S'.3)) False)
  size 0 (q:=q) (cap:=cap) (H:=H) (by omega) (by simpa [le] using h) (fun q' c' H' h'=>by simpa [AK,reduceIte,Nat.reduceEqDiff] using k q' c' H' h')
 simpa [le] using this
theorem OJ (hr:lO H q bs) (hb:bs.length≤8) {Kr:Am.St→Prop} {Ke:Nat→Am.St→Prop}:∀(k i:Nat),i+k=bs.length→lo 107 3 (St.mk (ab [(3,T.v (V.int .u64 (dI (bs.take i):Nat))),(6,T.v (V.slice q bs.length cap)),(7,T.v (V.int .i64 (bs.length:Int))),(8,T.v (V.int .i64 (i:Int)))]) (ab []) H) Kr Ke=Ke 0 (St.mk (ab [(3,T.v (V.int .u64 (dI bs:Nat)))]) (ab []) H)
 |0,i,hi=>by
  obtain rfl:i=bs.length:=by omega
  rw[JC];(try simp only[NQ]);rw[List.take_length];have e1:decide ((bs.length:Int)<(bs.length:Int))=false:=by simp
  rw[e1,ai]
 |k+1,i,hi=>by
  have hlt:i<bs.length:=by omega
  obtain⟨h1,h2,h3⟩:=hr.at hlt;rw[JC];(try simp only[NQ]);have e1:decide ((i:Int)<(bs.length:Int))=true:=by simp;omega
  have e2:decide (0≤(i:Int))=true:=by simp
  have e3:0+((i:Int)).toNat*1=i:=by simp
  have e4:(i:Int).toNat*1=i:=by simp
  rw[e1,ak,e2,h1,e4,h2,h3];simp only[Bool.and_self,av,cL,aZ];rw[FR (by omega),av,aL (by omega),Oo (Nat.lt_of_lt_of_le (xV _) (by rw[List.length_take];exact Nat.pow_le_pow_right (by omega) (by omega))) bs[i].toNat_lt (by omega)]
  have e5:dI (bs.take i)+bs[i].toNat*256 ^ i=dI (bs.take (i+1)):=by
   rw[List.take_succ_eq_append_getElem hlt,qj];simp [dI,Nat.mul_comm];rw[Nat.min_eq_left (by omega)]
  rw[e5];exact OJ hr hb k (i+1) (by omega)
theorem B4 (hr:lO H q bs) (hb:bs.length≤8):cl 107 [.slice q bs.length cap] H K=K (.int .u64 (dI bs:Nat)) H:=by
 rw[ZG];(try simp only[NQ]);have:=OJ (cap:=cap) hr hb (Kr:=fun _=>False) (Ke:=fun j S'=>br (Nat.beq j 0) (ah (aB (KT.k (cg.int IntKind.u64)) (S'.1 3)||false||false) (K (V.int IntKind.u64 (V.aa (T.val (S'.1 3)))) S'.3)) False) bs.length 0 (by omega);simp only[List.take_zero,dI] at this;refine this.trans ?_;simp [AK,reduceIte,Nat.reduceEqDiff]
end
structure RS where
 bs:List UInt8
 bI:Bool
def RS.take (s:RS) (n:Nat):List UInt8×RS:=
 if s.bI=true∨s.bs.length<n then ([],⟨s.bs,true⟩) else (s.bs.take n,⟨s.bs.drop n,false⟩)
def RS.num (s:RS) (size most:Nat):Nat×RS:=
 if dI (s.take size).1>most then (0,⟨(s.take size).2.bs,true⟩) else (dI (s.take size).1,(s.take size).2)
structure nI (B H:ag) (L:List cA) (id:Nat) (s:RS):Prop where
 ex:∃q c,s.bs.length≤c∧kU B L q s.bs∧az B H (dj id 182 (Bm q s.bs.length c s.bI)::L)
section
variable {B:ag} {L:List cA} {H:ag} {K:V→ag→Prop} {q:Oq} {cap:Nat} {bs:List UInt8} {id:Nat} {s:RS}
theorem JV (h:az B H L) (hr:kU B L q bs) (hc:bs.length≤cap) (k:∀id H',nI B H' L id ⟨bs,false⟩→K (.aj (some (id,0))) H'):cl 71 [.slice q bs.length cap] H K:=by
 rw[abW];(try simp only[NQ]);exact k _ _ ⟨q,cap,hc,hr,h.alloc _ _⟩
theorem F8 (h:nI B H L id s) (n:Nat) (k:∀q' c' H',nI B H' L id (s.take n).2→kU B L q' (s.take n).1→(s.take n).1.length≤c'→K (.slice q' (s.take n).1.length c') H'):cl 108 [.aj (some (id,0)),.int .i64 (n:Int)] H K:=by
 obtain⟨q,c,hc,hr,hs⟩:=h.ex;have hg:=hs.get;rw[ZH];(try simp only[NQ]);simp only[AK,reduceIte,Nat.reduceEqDiff,Option.isSome_some,Option.getD_some,dF hg,aY hg,fK hg,aN,Nat.zero_add];unfold RS.take at k;by_cases hb:s.bI=true∨s.bs.length<n
 ·rw[if_pos hb] at k
  have e:(bif !s.bI then decide ((n:Int)>(s.bs.length:Int)) else true)=true:=by
   rcases hb with hb|hb
   ·rw[hb];rfl
   ·cases s.bI
    ·simp;omega
    ·rfl
  have h2:az B (H.store id 1 [.bool true]) (dj id 182 (Bm q s.bs.length c true)::L):=hs.store;have:=k none 0 _ ⟨q,c,hc,hr,h2⟩ (kU.nil _ _ _) (by simp);have e2:(s.bI||decide (s.bs.length<n))=true:=by simpa using hb
  simpa [Bm,ae,e2,AK,reduceIte,Nat.reduceEqDiff] using this
 ·rw[if_neg hb] at k;have AB:s.bI=false:=by cases h:s.bI<;>simp_all
  have nf:n≤s.bs.length:=by omega
  have h2:az B (H.store id 0 [.slice (bN q n) (s.bs.length-n) (c-n)]) (dj id 182 (Bm (bN q n) (s.bs.length-n) (c-n) s.bI)::L):=hs.store;have h3:=hr.part n (s.bs.length-n) (by omega);have h4:=hr.part 0 n (by omega);rw[List.drop_zero,gJ] at h4;have e3:((s.bs.drop n).take (s.bs.length-n))=s.bs.drop n:=List.take_of_length_le (by simp);rw[e3] at h3;have hl:(s.bs.take n).length=n:=by simp;omega
  have:=k q n _ ⟨bN q n,c-n,by simp;omega,h3,by simpa [AB] using h2⟩ h4 (by simp;omega);have e5:¬(n:Int)>(s.bs.length:Int):=by omega
  have e6:(n:Int)≤(c:Int):=by omega
  have e7:(n:Int)≤(s.bs.length:Int):=by omega
  rw[hl] at this;simpa [Bm,ae,AB,e5,e6,e7,hc,AK,reduceIte,Nat.reduceEqDiff] using this
theorem kI (h:nI B H L id s) (size most:Nat) (hs:size≤8) (k:∀H',nI B H' L id (s.num size most).2→K (.int .u64 ((s.num size most).1:Nat)) H'):cl 72 [.aj (some (id,0)),.int .i64 (size:Int),.int .u64 (most:Int)] H K:=by
 rw[abX];(try simp only[NQ]);rw[Option.isNone_some,ai];refine F8 h size (fun q' c' H' h' hr' tF=> ?_);have hl:(s.take size).1.length≤8:=by unfold RS.take;split<;>simp;omega
 obtain⟨q2,c2,Ht,xM,n7⟩:=h'.ex;simp only[AK,reduceIte,Nat.reduceEqDiff];rw[B4 (hr' H' n7.drop) hl];simp only[AK,reduceIte,Nat.reduceEqDiff];unfold RS.num at k;by_cases hm:dI (s.take size).1>most
 ·rw[if_pos hm] at k;have hg:=n7.get;have h3:az B (H'.store id 1 [.bool true]) (dj id 182 (Bm q2 (s.take size).2.bs.length c2 true)::L):=n7.store;have:=k _ ⟨q2,c2,Ht,xM,h3⟩;have e1:((dI (s.take size).1:Nat):Int)>(most:Int):=by omega
  simpa [e1,fK hg,Bm] using this
 ·rw[if_neg hm] at k;have e1:¬((dI (s.take size).1:Nat):Int)>(most:Int):=by omega
  have:=k _ h';simpa [e1] using this
theorem VI (h:nI B H L id s):cl 73 [.aj (some (id,0))] H K=K (.bool (!s.bI&&decide (s.bs=[]))) H:=by
 obtain⟨q,c,hc,hr,hs⟩:=h.ex;have hg:=hs.get;rw[abY];(try simp only[NQ]);simp only[AK,reduceIte,Nat.reduceEqDiff,Option.isSome_some,Option.isNone_some,Option.getD_some,dF hg,aY hg,fK hg,aN,Nat.zero_add]
 have e:decide ((s.bs.length:Int)=0)=decide (s.bs=[]):=by
  cases s.bs
  ·simp
  ·simp;omega
 simp only[Bm,dA,fJ,bR,aT,e];simp [AK,reduceIte,Nat.reduceEqDiff]
end
theorem kj {bs:List UInt8} {size most:Nat} (h1:size≤bs.length) (h2:dI (bs.take size)≤most):(RS.mk bs false).num size most=(dI (bs.take size),⟨bs.drop size,false⟩):=by
 have:¬bs.length<size:=by omega
 simp [RS.num,RS.take,this];omega
theorem uR {bs:List UInt8} {size most:Nat} (h1:size≤bs.length) (h2:dI (bs.take size)>most):(RS.mk bs false).num size most=(0,⟨bs.drop size,true⟩):=by
 have:¬bs.length<size:=by omega
 simp [RS.num,RS.take,this];omega
theorem LG {bs:List UInt8} {size most:Nat} (h1:bs.length<size):(RS.mk bs false).num size most=(0,⟨bs,true⟩):=by
 simp [RS.num,RS.take,h1,dI]
theorem uS {s:RS} {size most:Nat} (h:s.bI=true):(s.num size most).2.bI=true:=by
 simp [RS.num,RS.take,h,dI]
theorem iG {s:RS} {size most:Nat} (h:(s.num size most).2.bI=false):s.bI=false∧size≤s.bs.length∧dI (s.bs.take size)≤most∧s.num size most=(dI (s.bs.take size),⟨s.bs.drop size,false⟩):=by
 obtain⟨bs,bI⟩:=s
 have hb:bI=false:=by
  cases bI
  ·rfl
  ·rw[uS rfl] at h;cases h
 subst hb;by_cases h1:size≤bs.length
 ·by_cases h2:dI (bs.take size)≤most
  ·exact⟨rfl,h1,h2,kj h1 h2⟩
  ·rw[uR h1 (by omega)] at h;cases h
 ·rw[LG (by omega)] at h;cases h
def DX (c:BitVec 32):BitVec 32:=(c >>> 1) ^^^ (3988292384#32 &&& (0#32-(c &&& 1#32)))
def VJ:Nat→BitVec 32→BitVec 32
 |0,c=>c
 |n+1,c=>VJ n (DX c)
def JW (c:BitVec 32) (b:UInt8):BitVec 32:=VJ 8 (c ^^^ BitVec.ofNat 32 b.toNat)
def OK:List UInt8→BitVec 32→BitVec 32
 |[],c=>c
 |b::l,c=>OK l (JW c b)
def sX (bs:List UInt8):Nat:=(4294967295#32 ^^^ OK bs 4294967295#32).toNat
theorem DY (bs:List UInt8):sX bs<4294967296:=BitVec.isLt _
theorem sY (x:Int):IntKind.u32.wrap x=((BitVec.ofInt 32 x).toNat:Int):=by
 rw[IntKind.wrap_u32,BitVec.toNat_ofInt];omega
theorem qq (c:BitVec 32):BitVec.ofInt 32 (c.toNat:Int)=c:=by
 apply BitVec.eq_of_toNat_eq;rw[BitVec.toNat_ofInt];have:=c.isLt;omega
theorem Is (c:BitVec 32):IntKind.u32.wrap ((BitVec.toNat (BitVec.ofInt 32 (Int.fdiv (c.toNat:Int) 2) ^^^ BitVec.ofInt 32 (IntKind.u32.wrap ((BitVec.toNat (BitVec.ofInt 32 3988292384 &&& BitVec.ofInt 32 (IntKind.u32.wrap (0-IntKind.u32.wrap ((BitVec.toNat (BitVec.ofInt 32 (c.toNat:Int) &&& BitVec.ofInt 32 1):Nat):Int)))):Nat):Int))):Nat):Int)=((DX c).toNat:Int):=by
 have e1:BitVec.ofInt 32 (Int.fdiv (c.toNat:Int) 2)=c >>> 1:=by
  apply BitVec.eq_of_toNat_eq;rw[BitVec.toNat_ofInt,BitVec.toNat_ushiftRight,Nat.shiftRight_eq_div_pow,Int.fdiv_eq_ediv_of_nonneg _ (by omega)];have:=c.isLt;omega
 have e2:∀y:BitVec 32,BitVec.ofInt 32 (0-(y.toNat:Int))=0#32-y:=by
  intro y;apply BitVec.eq_of_toNat_eq;rw[BitVec.toNat_ofInt,BitVec.toNat_sub];have:=y.isLt;simp only[BitVec.toNat_ofNat];omega
 have e3:BitVec.ofInt 32 1=1#32:=rfl;have e4:BitVec.ofInt 32 3988292384=3988292384#32:=rfl;rw[sY,sY ((BitVec.toNat (BitVec.ofInt 32 3988292384 &&& _):Nat):Int),sY (0-_),sY ((BitVec.toNat (BitVec.ofInt 32 (c.toNat:Int) &&& BitVec.ofInt 32 1):Nat):Int)];simp only[qq,e1,e2,e3,e4];rfl
section
variable {B:ag} {L:List cA} {H:ag} {K:V→ag→Prop} {q:Oq} {cap:Nat} {bs:List UInt8}
theorem JX {Kr:Am.St→Prop} {Ke:Nat→Am.St→Prop} {n i:Int}:∀(k j:Nat) (c:BitVec 32),j+k=8→Ke 2 (St.mk (ab [(3,T.v (V.int .u32 ((VJ k c).toNat:Int))),(6,T.v (V.slice q bs.length cap)),(7,T.v (V.int .i64 n)),(8,T.v (V.int .i64 i))]) (ab []) H)→lo 143 9 (St.mk (ab [(3,T.v (V.int .u32 (c.toNat:Int))),(6,T.v (V.slice q bs.length cap)),(7,T.v (V.int .i64 n)),(8,T.v (V.int .i64 i)),(16,T.v (V.int .i64 (j:Int)))]) (ab []) H) Kr Ke
 |0,j,c,hj,hk=>by
  obtain rfl:j=8:=by omega
  rw[Jy];exact hk
 |k+1,j,c,hj,hk=>by
  rw[Jy,decide_eq_true (by omega),ak,aL (by omega),Is];exact JX k (j+1) (DX c) (by omega) hk
theorem OL (hr:lO H q bs) (hb:bs.length≤1000000) {Kr:Am.St→Prop} {Ke:Nat→Am.St→Prop}:∀(k i:Nat) (c:BitVec 32),i+k=bs.length→Ke 0 (St.mk (ab [(3,T.v (V.int .u32 ((OK (bs.drop i) c).toNat:Int)))]) (ab []) H)→lo 143 3 (St.mk (ab [(3,T.v (V.int .u32 (c.toNat:Int))),(6,T.v (V.slice q bs.length cap)),(7,T.v (V.int .i64 (bs.length:Int))),(8,T.v (V.int .i64 (i:Int)))]) (ab []) H) Kr Ke
 |0,i,c,hi,hk=>by
  obtain rfl:i=bs.length:=by omega
  rw[List.drop_length] at hk;rw[Jx,decide_eq_false (by omega),ai];exact hk
 |k+1,i,c,hi,hk=>by
  have hlt:i<bs.length:=by omega
  obtain⟨h1,h2,h3⟩:=hr.at hlt;have Bw:H.inb (pb q) (po q+i*1) 1=true:=by rw[Nat.mul_one];exact h2
  have TF:H.cell (pb q) (po q+i*1)=.int .u8 (bs[i].toNat:Int):=by rw[Nat.mul_one];exact h3
  have a1:(i:Int)<(bs.length:Int):=by omega
  have a2:0≤(i:Int):=by omega
  rw[List.drop_eq_getElem_cons hlt,OK] at hk;rw[Jx];simp only[AJ,reduceIte,Nat.reduceEqDiff,a1,a2,Int.toNat_natCast,h1,Bw,TF]
  have e:IntKind.u32.wrap ((BitVec.toNat (BitVec.ofInt 32 (c.toNat:Int) ^^^ BitVec.ofInt 32 (IntKind.u32.wrap (bs[i].toNat:Int))):Nat):Int)=((c ^^^ BitVec.ofNat 32 bs[i].toNat).toNat:Int):=by
   have e1:BitVec.ofInt 32 ((bs[i].toNat:Nat):Int)=BitVec.ofNat 32 bs[i].toNat:=rfl;rw[sY,sY ((bs[i].toNat:Nat):Int)];simp only[qq,e1]
  rw[e];refine JX 8 0 _ (by omega) ?_;simp only[AJ,reduceIte,Nat.reduceEqDiff];rw[aL (by omega)];exact OL hr hb k (i+1) (JW c bs[i]) (by omega) hk
theorem OM (hr:lO H q bs) (hb:bs.length≤1000000):K (.int .u32 (sX bs:Int)) H→cl 143 [.slice q bs.length cap] H K:=by
 intro k;rw[Zs];refine OL hr hb bs.length 0 4294967295#32 (by omega) ?_;rw[List.drop_zero]
 have e:IntKind.u32.wrap ((BitVec.toNat (BitVec.ofInt 32 4294967295 ^^^ BitVec.ofInt 32 ((OK bs 4294967295#32).toNat:Int)):Nat):Int)=(sX bs:Int):=by
  rw[sY];simp only[qq];rfl
 simp only[AJ,reduceIte,Nat.reduceEqDiff,e];exact k
def zE (bs:List UInt8):List UInt8:=bs++le (sX bs) 4
theorem RC (h:az B H L) (hr:kU B L q bs) (hb:bs.length≤100000) (k:∀q' c' H',az B H' (BY q' c' (zE bs)::L)→K (.slice q' (zE bs).length c') H'):cl 145 [.slice q bs.length cap] H K:=by
 rw[Zu];refine ki h (hr H h) (by omega) (fun q1 c1 H1 h1=> ?_);simp only[AJ,reduceIte,Nat.reduceEqDiff];refine OM (hr.bW _ H1 h1) (by omega) ?_;simp only[AJ,reduceIte,Nat.reduceEqDiff];rw[cK (by have:=DY bs;omega)];refine eH (sX bs) 4 h1 (by omega) (by omega) (fun q2 c2 H2 h2=> ?_);simp only[AJ,reduceIte,Nat.reduceEqDiff];exact k q2 c2 H2 h2
def nJ (p:List UInt8):Option (List UInt8):=if 4≤p.length∧dI (p.drop (p.length-4))=sX (p.take (p.length-4)) then some (p.take (p.length-4)) else none
theorem RD {p:List UInt8} (h:az B H L) (hr:kU B L q p) (hb:p.length≤100000) (hc:p.length≤cap) (k1:nJ p=none→K (.tuple [.slice none 0 0,.int .i64 (if p.length<4 then 3 else 4)]) H) (k2:∀b,nJ p=some b→∀q' c' H',az B H' (BY q' c' b::L)→K (.tuple [.slice q' b.length c',.int .i64 0]) H'):cl 129 [.slice q p.length cap] H K:=by
 rw[Zk,bq (by omega) (by omega)];by_cases h4:p.length<4
 ·have e:nJ p=none:=by unfold nJ;rw[if_neg (by omega)]
  have SQ:=k1 e;rw[if_pos h4] at SQ;have a1:(p.length:Int)-4<0:=by omega
  simp only[a1,decide_true,ak];exact SQ
 ·obtain⟨n,hn⟩:∃n:Nat,n=p.length-4:=⟨_,rfl⟩;have a0:(p.length:Int)-4=(n:Int):=by omega
  have a1:¬(n:Int)<0:=by omega
  have a2:0≤(n:Int):=by omega
  have a3:(n:Int)≤(p.length:Int):=by omega
  have a4:(n:Int)≤(cap:Int):=by omega
  have a5:n≤cap:=by omega
  rw[a0];simp only[AJ,reduceIte,Nat.reduceEqDiff,a1,a2,a3,a4,a5,hc,Int.toNat_natCast,Nat.mul_one]
  have xN:lO H (bN q n) (p.drop n):=by
   have:=(hr H h).part n (p.length-n) (by omega)
   rwa [List.take_of_length_le (by rw[List.length_drop];omega)] at this
  have xM:kU B L (bN q 0) (p.take n):=by
   have:=hr.part 0 n (by omega);simpa using this
  have TO:p.length-n=(p.drop n).length:=by rw[List.length_drop]
  have Hw:n-0=(p.take n).length:=by rw[List.length_take];omega
  rw[TO,B4 xN (by rw[List.length_drop];omega)];simp only[AJ,reduceIte,Nat.reduceEqDiff,a2,a4,a5];rw[Hw];refine OM (xM H h) (by omega) ?_;simp only[AJ,reduceIte,Nat.reduceEqDiff];have hw:IntKind.u64.wrap ((sX (p.take n):Nat):Int)=((sX (p.take n):Nat):Int):=cK (by have:=DY (p.take n);omega);by_cases he:dI (p.drop n)=sX (p.take n)
  ·have e:nJ p=some (p.take n):=by unfold nJ;rw[if_pos ⟨by omega,by rw[←hn];exact he⟩, ←hn]
   have he':((dI (p.drop n):Nat):Int)=IntKind.u64.wrap ((sX (p.take n):Nat):Int):=by rw[hw];omega
   simp only[he',AJ,reduceIte,Nat.reduceEqDiff,a2,a4,a5];refine ki h (xM H h) (by omega) (fun q1 c1 H1 h1=> ?_);simp only[AJ,reduceIte,Nat.reduceEqDiff];exact k2 _ e q1 c1 H1 h1
  ·have e:nJ p=none:=by unfold nJ;rw[if_neg (fun hh=>he (by rw[hn];exact hh.2))]
   have SQ:=k1 e;rw[if_neg h4] at SQ;have he':¬((dI (p.drop n):Nat):Int)=IntKind.u64.wrap ((sX (p.take n):Nat):Int):=by rw[hw];omega
   simp only[he',decide_false,Bool.not_false,ak];exact SQ
end
structure Sh where
 cU:Nat
 ep:Nat
 seq:Nat
 aq:Nat
 fr:Nat
 data:List UInt8
 deriving DecidableEq
structure Sh.cY (s:Sh):Prop where
 k1:1≤s.cU
 k3:s.cU≤3
 ep:s.ep<281474976710656
 seq:s.seq<281474976710656
 aq:s.aq<65536
 fr:s.fr≤64
 dl:s.data.length≤64
 d0:s.cU=1∨s.data.length=0
instance (s:Sh):Decidable s.cY:=
 if h:1≤s.cU∧s.cU≤3∧s.ep<281474976710656∧s.seq<281474976710656∧s.aq<65536∧s.fr≤64∧s.data.length≤64∧(s.cU=1∨s.data.length=0) then
  .isTrue ⟨h.1,h.2.1,h.2.2.1,h.2.2.2.1,h.2.2.2.2.1,h.2.2.2.2.2.1,h.2.2.2.2.2.2.1,h.2.2.2.2.2.2.2⟩
 else .isFalse fun f=>h ⟨f.k1,f.k3,f.ep,f.seq,f.aq,f.fr,f.dl,f.d0⟩
def gi (s:Sh):List UInt8:=((((([]++le s.cU 1)++le s.ep 6)++le s.seq 6)++le s.aq 2)++le s.fr 1)++le s.data.length 2++s.data
def eC (s:Sh):List UInt8:=zE (gi s++List.replicate (91-(gi s).length) 0)++[90]
theorem we (s:Sh):(gi s).length=18+s.data.length:=by simp [gi];omega
theorem lS (s:Sh) (h:s.data.length≤64):(eC s).length=96:=by simp [eC,zE,we];omega
structure Rd6 where
 k:Nat×RS
 e:Nat×RS
 s:Nat×RS
 a:Nat×RS
 f:Nat×RS
 n:Nat×RS
 d:List UInt8×RS
def DZ (b:List UInt8):Rd6:=
 let k:=(RS.mk b false).num 1 3
 let e:=k.2.num 6 281474976710656
 let s:=e.2.num 6 281474976710656
 let a:=s.2.num 2 65536
 let f:=a.2.num 1 64
 let n:=f.2.num 2 64
 ⟨k,e,s,a,f,n,n.2.take n.1⟩
def Rd6.sh (x:Rd6):Sh:=⟨x.k.1,x.e.1,x.s.1,x.a.1,x.f.1,x.d.1⟩
def fp (p:List UInt8):Option Sh:=
 if p.length=96∧p.getD 95 0=90 then match nJ (p.take 95) with
  |none=>none
  |some b=>if (DZ b).d.2.bI=false∧(DZ b).sh.cY∧eC (DZ b).sh=p then some (DZ b).sh else none
 else none
theorem sZ {p:List UInt8} {s:Sh} (h:fp p=some s):s.cY∧eC s=p:=by
 unfold fp at h;split at h
 ·split at h
  ·cases h
  ·split at h
   ·rename_i h2;cases h;exact h2.2
   ·cases h
 ·cases h
theorem wg {bs l:List UInt8} {n size most:Nat} (hn:n<256 ^ size) (hm:n≤most):(RS.mk (le n size++l) false).num size most=(n,⟨l,false⟩):=by
 have h1:((le n size++l).take size)=le n size:=by rw[List.take_left' (DQ n size)]
 have h2:((le n size++l).drop size)=l:=by rw[List.drop_left' (DQ n size)]
 have h3:dI (le n size)=n:=by rw[xU,Nat.mod_eq_of_lt hn]
 rw[kj (by simp) (by rw[h1,h3];exact hm),h1,h2,h3]
theorem ON {s:Sh} (h:s.cY) (z:List UInt8):(DZ (gi s++z)).sh=s∧(DZ (gi s++z)).d.2.bI=false:=by
 have e:gi s++z=le s.cU 1++(le s.ep 6++(le s.seq 6++(le s.aq 2++(le s.fr 1++(le s.data.length 2++(s.data++z)))))):=by simp [gi]
 have hk:=h.k3;have h1:=h.ep;have h2:=h.seq;have h3:=h.aq;have h4:=h.fr;have h5:=h.dl;rw[e];unfold DZ Rd6.sh;simp only;rw[wg (bs:=[]) (by omega) hk,wg (bs:=[]) (by omega) (by omega),wg (bs:=[]) (by omega) (by omega),wg (bs:=[]) (by omega) (by omega),wg (bs:=[]) (by omega) h4,wg (bs:=[]) (by omega) h5];have hz:¬s.data.length+z.length<s.data.length:=by omega
 simp [RS.take,hz]
theorem It {s:Sh} (h:s.cY):fp (eC s)=some s:=by
 have hl:=lS s h.dl;have hb:=we s;have SI:=h.dl;obtain⟨b,hbd⟩:∃b,b=gi s++List.replicate (91-(gi s).length) 0:=⟨_,rfl⟩;have Bx:b.length=91:=by rw[hbd];simp [hb];omega
 have e0:eC s=b++(le (sX b) 4++[90]):=by rw[hbd];simp [eC,zE]
 have e1:(eC s).take 95=b++le (sX b) 4:=by rw[e0, ←List.append_assoc,List.take_left' (by simp [Bx])]
 have e2:(eC s).getD 95 0=90:=by
  rw[e0, ←List.append_assoc,List.getD_eq_getElem?_getD,List.getElem?_append_right (by simp [Bx])];simp [Bx]
 have e3:nJ (b++le (sX b) 4)=some b:=by
  have hlen:(b++le (sX b) 4).length-4=b.length:=by simp
  unfold nJ;rw[hlen,List.take_left' rfl,List.drop_left' rfl,xU,Nat.mod_eq_of_lt (by have:=DY b;omega)];simp
 obtain⟨r1,r2⟩:=ON h (List.replicate (91-(gi s).length) 0);rw[←hbd] at r1 r2;unfold fp;rw[if_pos ⟨hl,e2⟩,e1,e3];simp only[r1,r2];rw[if_pos ⟨trivial,h,trivial⟩]
theorem s9 {s:Sh} (hl:s.data.length≤64) {n:Int} (h:n<96):fp (gY (eC s) n)=none:=by
 unfold fp;rw[if_neg];rintro⟨h1,h2⟩;have hlen:=lS s hl
 have:(gY (eC s) n).getD 95 0=255:=by
  unfold gY;rw[List.getD_eq_getElem?_getD,List.getElem?_append_right (by simp;omega),List.getElem?_replicate,if_pos (by simp [hlen];omega)];rfl
 rw[this] at h2;exact absurd h2 (by decide)
section
variable {B:ag} {L:List cA} {H:ag} {K:V→ag→Prop} {q:Oq} {cap:Nat}
def AP (s:Sh) (q:Oq) (c:Nat):V:=.agg (fA (s.cU:Int) (s.ep:Int) (s.seq:Int) (s.aq:Int) ((s.fr:Int)-1) q s.data.length c)
theorem OO (s:Sh):K (.bool (decide s.cY)) H→cl 132 [AP s q cap] H K:=by
 intro k;unfold AP;rw[Zn]
 have e:(decide ((s.cU:Int)≥1)&&(decide ((s.cU:Int)≤3)&&(decide ((s.ep:Int)<281474976710656)&&(decide ((s.seq:Int)<281474976710656)&&(decide ((s.aq:Int)≥0)&&(decide ((s.aq:Int)<65536)&&
  (decide ((s.fr:Int)-1≥ -1)&&(decide ((s.fr:Int)-1<64)&&(decide ((s.data.length:Int)≤64)&&bif !decide ((s.cU:Int)=1) then decide ((s.data.length:Int)=0) else true)))))))))=decide s.cY:=by
  by_cases hk:s.cU=1
  ·have:(s.cU:Int)=1:=by omega
   simp only[this,decide_true,Bool.not_true,cond_false,Bool.and_true];simp only[←Bool.decide_and];refine decide_eq_decide.2 ⟨fun h=>⟨by omega,by omega,by omega,by omega,by omega,by omega,by omega,.inl hk⟩,fun h=> ?_⟩;obtain⟨h1,h2,h3,h4,h5,h6,h7,h8⟩:=h;omega
  ·have:¬(s.cU:Int)=1:=by omega
   simp only[this,decide_false,Bool.not_false,cond_true];simp only[←Bool.decide_and];refine decide_eq_decide.2 ⟨fun h=>⟨by omega,by omega,by omega,by omega,by omega,by omega,by omega,.inr (by omega)⟩,fun h=> ?_⟩;obtain⟨h1,h2,h3,h4,h5,h6,h7,h8⟩:=h;omega
 rw[e];exact k
theorem LH {bs d:List UInt8} {dq:Oq} {dc:Nat} (h:az B H (BY q cap bs::L)) (hr:kU B L dq d) (hb:bs.length≤1000000) (hd:d.length≤1000000) (k:∀q' c' H',az B H' (BY q' c' (bs++le d.length 2++d)::L)→K (.slice q' (bs++le d.length 2++d).length c') H'):cl 144 [.slice q bs.length cap,.slice dq d.length dc] H K:=by
 rw[Zt,cK (by omega)];refine eH d.length 2 h (by omega) (by omega) (fun q2 c2 H2 h2=> ?_);simp only[AJ,reduceIte,Nat.reduceEqDiff];have:=hr.bW (BY q2 c2 (bs++le d.length 2)) H2 h2;exact v7 h2 (this.src dc) (by simp;omega) (fun q3 c3 H3 h3=>k q3 c3 H3 h3)
theorem JY {s:Sh} (h:az B H L) (hr:kU B L q s.data) (h1:s.cU<256) (h2:s.ep<18446744073709551616) (h3:s.seq<18446744073709551616) (h4:s.aq<1000000000) (h5:s.fr≤256) (h6:s.data.length≤64) (k:∀q' c' H',az B H' (BY q' c' (eC s)::L)→K (.slice q' (eC s).length c') H'):cl 133 [AP s q cap] H K:=by
 unfold AP;rw[Zo,cK (n:=s.cU) (by omega),cK (n:=s.aq) (by omega)];have e5:IntKind.i64.wrap ((s.fr:Int)-1+1)=((s.fr:Nat):Int):=by rw[bq (by omega) (by omega)];omega
 rw[e5,cK (n:=s.fr) (by omega)];refine eH s.cU 1 (bs:=[]) (kG h) (by omega) (by simp) (fun q1 c1 H1 h1=> ?_);simp only[AJ,reduceIte,Nat.reduceEqDiff];refine eH s.ep 6 h1 (by omega) (by simp) (fun q2 c2 H2 h2=> ?_);simp only[AJ,reduceIte,Nat.reduceEqDiff];refine eH s.seq 6 h2 (by omega) (by simp) (fun q3 c3 H3 h3=> ?_);simp only[AJ,reduceIte,Nat.reduceEqDiff];refine eH s.aq 2 h3 (by omega) (by simp) (fun q4 c4 H4 h4=> ?_);simp only[AJ,reduceIte,Nat.reduceEqDiff];refine eH s.fr 1 h4 (by omega) (by simp) (fun q5 c5 H5 h5=> ?_);simp only[AJ,reduceIte,Nat.reduceEqDiff];refine LH h5 hr (by simp) (by omega) (fun q6 c6 H6 h6=> ?_);have eb:((((([]++le s.cU 1)++le s.ep 6)++le s.seq 6)++le s.aq 2)++le s.fr 1)++le s.data.length 2++s.data=gi s:=rfl;rw[eb] at h6⊢;have Bx:=we s;have e7:IntKind.i64.wrap (91-((gi s).length:Int))=((91-(gi s).length:Nat):Int):=by rw[bq (by omega) (by omega)];omega
 simp only[AJ,reduceIte,Nat.reduceEqDiff,e7];refine h6.Rq FU (by kernel_rfl) (fun v hv=>by rw[List.mem_singleton] at hv;subst hv;rfl) rfl (by omega) (by omega) (by rw[Int.toNat_natCast];omega) (fun q7 c7 H7 h7=> ?_);rw[Int.toNat_natCast] at h7⊢
 have h8:az B H7 (BY q7 c7 (gi s++List.replicate (91-(gi s).length) 0)::L):=by
  have ez:hJ (91-(gi s).length) [V.int .u8 0]=bj (List.replicate (91-(gi s).length) 0):=by
   generalize 91-(gi s).length=n
   induction n with
   |zero=>rfl
   |succ n ih=>
    rw[List.replicate_succ];show [V.int .u8 0]++hJ n [V.int .u8 0]=V.int .u8 ((0:UInt8).toNat:Int)::bj (List.replicate n 0)
    rw[ih];rfl
  rw[ez, ←jD] at h7;unfold BY Y4;rw[List.length_append,List.length_replicate];exact h7
 have e9:(gi s).length+(91-(gi s).length)=(gi s++List.replicate (91-(gi s).length) 0).length:=by simp
 rw[e9];refine RC h8 kU.byt (by simp;omega) (fun q9 c9 H9 h9=> ?_);simp only[AJ,reduceIte,Nat.reduceEqDiff];have Hv:(zE (gi s++List.replicate (91-(gi s).length) 0)).length≤1000:=by simp [zE];omega
 have Nd:V.int .u8 90=V.int .u8 ((90:UInt8).toNat:Int):=rfl;rw[Nd];exact FV (h9.ord [1]).drop 90 (by omega) (fun q10 c10 H10 xO=>k q10 c10 H10 xO)
end
section
variable {B:ag} {L:List cA} {H:ag} {K:V→ag→Prop} {q:Oq} {cap:Nat} {id:Nat} {s:RS}
theorem LI (h:nI B H L id s) (most:Nat) (hm:most≤1000) (k:∀q' c' H',nI B H' (BY q' c' ((s.num 2 most).2.take (s.num 2 most).1).1::L) id ((s.num 2 most).2.take (s.num 2 most).1).2→K (.slice q' ((s.num 2 most).2.take (s.num 2 most).1).1.length c') H'):cl 130 [.aj (some (id,0)),.int .i64 (most:Int)] H K:=by
 rw[Zl,Option.isNone_some,ai,cK (by omega)];refine kI h 2 most (by omega) (fun H1 h1=> ?_);have hn:(s.num 2 most).1≤most:=by unfold RS.num;split<;>simp only<;>omega
 simp only[AJ,reduceIte,Nat.reduceEqDiff];rw[bq (by omega) (by omega)];refine F8 h1 (s.num 2 most).1 (fun q2 c2 H2 h2 xM Ht=> ?_);have hl:(((s.num 2 most).2.take (s.num 2 most).1).1).length≤1000:=by unfold RS.take;split<;>simp;omega
 obtain⟨q3,c3,hc3,Qm,M0⟩:=h2.ex;simp only[AJ,reduceIte,Nat.reduceEqDiff];refine ki M0 (xM H2 M0.drop) (by omega) (fun q4 c4 H4 h4=> ?_);simp only[AJ,reduceIte,Nat.reduceEqDiff];exact k q4 c4 H4 ⟨q3,c3,hc3,Qm.bW _,h4.swap⟩
theorem RE (h:nI B H L id s):K (.bool s.bI) H→cl 131 [.aj (some (id,0))] H K:=by
 intro k;obtain⟨q,c,hc,hr,hs⟩:=h.ex;have hg:=hs.get;rw[Zm];simp only[AJ,reduceIte,Nat.reduceEqDiff,Option.isSome_some,Option.isNone_some,dF hg,aY hg,aN,Nat.zero_add,cond_true,if_true,Bool.not_false];simpa [Bm] using k
theorem nI.Z3 (h:nI B H L id s):az B H L:=by
 obtain⟨q,c,hc,hr,hs⟩:=h.ex;exact hs.drop
theorem F9 {p:List UInt8} (h:az B H L) (hr:kU B L q p) (hb:p.length≤100000) (hc:p.length≤cap) (k1:fp p=none→∀e:Int,e≠0→∀H',az B H' L→K (.tuple [.agg (fA 0 0 0 0 0 none 0 0),.int .i64 e]) H') (k2:∀s,fp p=some s→∀q' c' H',az B H' (BY q' c' s.data::L)→K (.tuple [AP s q' c',.int .i64 0]) H'):cl 106 [.slice q p.length cap] H K:=by
 rw[Zb];by_cases KZ:p.length=96
 case neg=>
  have e:fp p=none:=by unfold fp;rw[if_neg (fun hh=>KZ hh.1)]
  have a1:¬(p.length:Int)=96:=by omega
  simp only[a1,decide_false,Bool.not_false,Bool.not_true,aN,Bool.false_eq_true,if_false,av,cond_false,ak];exact k1 e 3 (by decide) H h
 have a1:(p.length:Int)=96:=by omega
 obtain⟨g1,g2,g3⟩:=(hr H h).at (i:=95) (by omega);have g2':H.inb (pb q) (po q+95) 1=true:=g2;have g3':H.cell (pb q) (po q+95)=.int .u8 (p[95].toNat:Int):=g3;have a2:(95:Int)<96:=by decide
 simp only[a1,a2,decide_true,Bool.not_true,Bool.not_false,aN,if_true,g1,g2',g3',AJ,reduceIte,Nat.reduceEqDiff,cond_true];have hgd:p.getD 95 0=p[95]:=by rw[List.getD_eq_getElem?_getD,List.getElem?_eq_getElem (by omega)];rfl
 by_cases h90:p[95]=90
 case neg=>
  have e:fp p=none:=by unfold fp;rw[if_neg (fun hh=>h90 (by rw[←hgd];exact hh.2))]
  have a3:¬(p[95].toNat:Int)=90:=by
   intro hh;apply h90;apply UInt8.toNat_inj.1;have:(90:UInt8).toNat=90:=rfl;omega
  simp only[a3,decide_false,Bool.not_false,ak];exact k1 e 3 (by decide) H h
 have a3:(p[95].toNat:Int)=90:=by rw[h90];rfl
 have a4:(95:Int)≤(cap:Int):=by omega
 have a5:95≤cap:=by omega
 simp only[a3,a4,a5,decide_true,Bool.not_true,ai,Bool.true_or,Bool.true_and,av,AJ,reduceIte,Nat.reduceEqDiff]
 have acU:kU B L (bN q 0) (p.take 95):=by
  have:=hr.part 0 95 (by omega);simpa using this
 have aax:(95:Nat)=(p.take 95).length:=by rw[List.length_take];omega
 have key:∀{K:V→ag→Prop},(nJ (p.take 95)=none→K (.tuple [.slice none 0 0,.int .i64 (if (p.take 95).length<4 then 3 else 4)]) H)→(∀b,nJ (p.take 95)=some b→∀q' c' H',az B H' (BY q' c' b::L)→K (.tuple [.slice q' b.length c',.int .i64 0]) H')→
  cl 129 [.slice (bN q 0) 95 (cap-0)] H K:=by
  intro K k1 k2;have:=RD (cap:=cap-0) h acU (by omega) (by omega) k1 k2
  rwa [←aax] at this
 refine key (fun ho=> ?_) (fun b ho q1 c1 H1 h1=> ?_)
 ·have e:fp p=none:=by unfold fp;rw[if_pos ⟨KZ,by rw[hgd];exact h90⟩,ho]
  have a6:¬(4:Int)=0:=by decide
  rw[←aax];have a7:¬(95<4):=by decide
  rw[if_neg a7];simp only[AJ,reduceIte,Nat.reduceEqDiff,a6];exact k1 e 4 (by decide) H h
 ·have er:fp p=if (DZ b).d.2.bI=false∧(DZ b).sh.cY∧eC (DZ b).sh=p then some (DZ b).sh else none:=by unfold fp;rw[if_pos ⟨KZ,by rw[hgd];exact h90⟩,ho]
  have hbc:=(h1.M7).2.2.1;simp only[AJ,reduceIte,Nat.reduceEqDiff];refine JV h1 (fun H h=>h.iV) hbc (fun id H2 h2=> ?_);have n3:(3:Int)=((3:Nat):Int):=rfl;have n1:(1:Int)=((1:Nat):Int):=rfl;have n6:(6:Int)=((6:Nat):Int):=rfl;have n2:(2:Int)=((2:Nat):Int):=rfl;have n48:(281474976710656:Int)=((281474976710656:Nat):Int):=rfl;have n16:(65536:Int)=((65536:Nat):Int):=rfl;have n64:(64:Int)=((64:Nat):Int):=rfl;simp only[AJ,reduceIte,Nat.reduceEqDiff];refine kI h2 1 3 (by omega) (fun H3 h3=> ?_);simp only[AJ,reduceIte,Nat.reduceEqDiff];refine kI h3 6 281474976710656 (by omega) (fun H4 h4=> ?_);simp only[AJ,reduceIte,Nat.reduceEqDiff];refine kI h4 6 281474976710656 (by omega) (fun H5 h5=> ?_);simp only[AJ,reduceIte,Nat.reduceEqDiff];refine kI h5 2 65536 (by omega) (fun H6 h6=> ?_);simp only[AJ,reduceIte,Nat.reduceEqDiff];refine kI h6 1 64 (by omega) (fun H7 h7=> ?_);simp only[AJ,reduceIte,Nat.reduceEqDiff];refine LI h7 64 (by omega) (fun q8 c8 H8 h8=> ?_);obtain⟨x,hx⟩:∃x,x=DZ b:=⟨_,rfl⟩;have bnd:∀(r:RS) (size most:Nat),(r.num size most).1≤most:=by intro r size most;unfold RS.num;split<;>simp only<;>omega
  have e1:(RS.mk b false).num 1 3=x.k:=by subst hx;simp only[DZ]
  have e2:x.k.2.num 6 281474976710656=x.e:=by subst hx;simp only[DZ]
  have e3:x.e.2.num 6 281474976710656=x.s:=by subst hx;simp only[DZ]
  have e4:x.s.2.num 2 65536=x.a:=by subst hx;simp only[DZ]
  have e5:x.a.2.num 1 64=x.f:=by subst hx;simp only[DZ]
  have e6:x.f.2.num 2 64=x.n:=by subst hx;simp only[DZ]
  have e7:x.n.2.take x.n.1=x.d:=by subst hx;simp only[DZ]
  have b1:x.k.1≤3:=by rw[←e1];exact bnd _ _ _
  have b2:x.e.1≤281474976710656:=by rw[←e2];exact bnd _ _ _
  have b3:x.s.1≤281474976710656:=by rw[←e3];exact bnd _ _ _
  have b4:x.a.1≤65536:=by rw[←e4];exact bnd _ _ _
  have b5:x.f.1≤64:=by rw[←e5];exact bnd _ _ _
  have b6:x.n.1≤64:=by rw[←e6];exact bnd _ _ _
  have b7:x.d.1.length≤64:=by rw[←e7];unfold RS.take;split<;>simp;omega
  rw[←hx] at er;simp only[e1,e2,e3,e4,e5,e6,e7] at h8⊢;have w1:IntKind.u8.wrap (x.k.1:Int)=(x.k.1:Int):=IntWalk.u8_in _ (by omega);have w2:IntKind.i64.wrap (x.a.1:Int)=(x.a.1:Int):=bq (by omega) (by omega);have w3:IntKind.i64.wrap (x.f.1:Int)=(x.f.1:Int):=bq (by omega) (by omega);have w4:IntKind.i64.wrap ((x.f.1:Int)-1)=(x.f.1:Int)-1:=bq (by omega) (by omega);simp only[AJ,reduceIte,Nat.reduceEqDiff,w1,w2,w3,w4];have hV:V.agg (fA (x.k.1:Int) (x.e.1:Int) (x.s.1:Int) (x.a.1:Int) ((x.f.1:Int)-1) q8 x.d.1.length c8)=AP x.sh q8 c8:=rfl;rw[hV];have hs8:=h8.Z3;have TJ:az B H8 (BY q8 c8 x.d.1::L):=(hs8.ord [1]).drop;refine RE h8 ?_;simp only[AJ,reduceIte,Nat.reduceEqDiff];by_cases AB:x.d.2.bI=true
  ·have e:fp p=none:=by rw[er,if_neg (fun hh=>by rw[hh.1] at AB;cases AB)]
   simp only[AB,Bool.not_true,ai,and_self,ak];exact k1 e 3 (by decide) H8 TJ.drop
  have aay:x.d.2.bI=false:=by simpa using AB
  simp only[aay,Bool.not_false,ak];refine OO x.sh ?_;simp only[AJ,reduceIte,Nat.reduceEqDiff];by_cases hf:x.sh.cY
  case neg=>
   have e:fp p=none:=by rw[er,if_neg (fun hh=>hf hh.2.1)]
   simp only[hf,decide_false,Bool.not_false,Bool.not_true,ai,and_self,ak];exact k1 e 3 (by decide) H8 TJ.drop
  simp only[hf,decide_true,Bool.not_true,Bool.not_false,ak];have hst:∀{H':ag},lO H' q p→eX H' q p.length=true∧eY H' q p.length=cJ p:=fun h=>⟨h.eX,h.eY⟩
  have T:∀(K:V→ag→Prop),(∀q' c' H',az B H' (BY q' c' (eC x.sh)::BY q8 c8 x.d.1::L)→K (.slice q' (eC x.sh).length c') H')→cl 133 [AP x.sh q8 c8] H8 K:=fun K k=>
   JY TJ (fun H h=>h.iV) (show x.k.1<256 by omega) (show x.e.1<_ by omega) (show x.s.1<_ by omega) (show x.a.1<_ by omega) (show x.f.1≤256 by omega) b7 k
  have D:(!mq (cJ (eC x.sh)) (cJ p))= !decide (eC x.sh=p):=by
   rw[qk]
  have hp8:=hst (((hr.bW _) H8 TJ))
  have fin:∀H',az B H' (BY q8 c8 x.d.1::L)→br (!decide (eC x.sh=p)) (K (.tuple [.agg (fA 0 0 0 0 0 none 0 0),.int .i64 3]) H') (K (.tuple [AP x.sh q8 c8,.int .i64 0]) H'):=by
   intro H' h';by_cases hl:eC x.sh=p
   ·have e:fp p=some x.sh:=by rw[er,if_pos ⟨aay,hf,hl⟩]
    simp only[hl,decide_true,Bool.not_true,ai];exact k2 _ e q8 c8 H' h'
   ·have e:fp p=none:=by rw[er,if_neg (fun hh=>hl hh.2.2)]
    simp only[hl,decide_false,Bool.not_false,ak];exact k1 e 3 (by decide) H' h'.drop
  refine⟨T _ (fun q9 c9 H9 h9=> ?_), ?_⟩
  ·have g9:=hst (((hr.bW _).bW _) H9 h9);have l9:=(h9.iV);simp only[AJ,reduceIte,Nat.reduceEqDiff,l9.eX,l9.eY,g9.1,g9.2,D];exact fin H9 h9.drop
  ·simp only[hp8.1,av,hp8.2];refine T _ (fun q9 c9 H9 h9=> ?_);have l9:=(h9.iV);simp only[AJ,reduceIte,Nat.reduceEqDiff,l9.eX,l9.eY,D];exact fin H9 h9.drop
end
structure Fd where
 b:Nat
 p:Nat
 s:Sh
def iy (i:Nat) (mQ:Int):List (List UInt8)→Nat→List Fd
 |[],_=>[]
 |d::l,p=>match fp d with
  |none=>iy i mQ l (p+1)
  |some s=>if s.cU≠3∧(s.aq:Int)≤mQ then ⟨i,p,s⟩::iy i mQ l (p+1) else iy i mQ l (p+1)
def Bk.eR (b:Bk) (i:Nat) (mQ:Int):List Fd:=if b.cu=true then [] else iy i mQ b.pg 0
structure Rf where
 f:Fd
 q:Oq
 c:Nat
def Rf.cs (r:Rf):List V:=kS (r.f.b:Int) (r.f.p:Int) (r.f.s.cU:Int) (r.f.s.ep:Int) (r.f.s.seq:Int) (r.f.s.aq:Int) ((r.f.s.fr:Int)-1) r.q r.f.s.data.length r.c
def Rf.bP (r:Rf):cA:=BY r.q r.c r.f.s.data
theorem wi (rs:List Rf):Rx pn (rs.map Rf.cs):=by
 intro c hc;obtain⟨r,_,rfl⟩:=List.mem_map.1 hc;rfl
structure Rz where
 i:Nat
 q:Oq
 c:Nat
 rs:List Rf
def Rz.bP (z:Rz):cA:=bw [Rw 130 8 z.q z.c (z.rs.map Rf.cs),bw (z.rs.map Rf.bP)]
theorem VK:fH dK 158=some (130,8,80,kS 0 0 0 0 0 0 0 none 0 0):=by kernel_rfl
theorem VL:iO (bh dK 158)=true:=by kernel_rfl
structure Ar.rd (a:Ar) (g:ct):Prop where
 on:a.off=false
 n:(a.bs.length:Int)=g.aE
 p:a.aA=g.aA
 len:∀b∈a.bs,(b.pg.length:Int)≤a.aA
 d:∀b∈a.bs,∀d∈b.pg,d.length=96
section
variable {B:ag} {L:List cA} {H:ag} {K:V→ag→Prop} {aM:Nat} {a:Ar} {m:Gm} {i:Nat}
theorem OP {a:Ar} {g:ct} (hr:a.rd g) {i k:Nat} (hi:i<a.bs.length) (hk:k<(a.bs[i]).pg.length):gz a i k=if (a.bs[i]).cu=true then (4,[]) else (0,(a.bs[i]).pg[k]):=by
 have hl:=hr.len _ (List.getElem_mem hi);have h1:¬a.aA≤(k:Int):=by omega
 unfold gz;simp only[hr.on,Bool.false_eq_true,if_false,h1,List.getElem?_eq_getElem hi,List.getElem?_eq_getElem hk]
theorem nK (hm:dB B L m) (hg:m.g.In) (hr:a.rd m.g) (tJ:a.aA≤32) (hi:i<a.bs.length) {Kr:Am.St→Prop} {Ke:Nat→Am.St→Prop}:∀(k p:Nat) (rs:List Rf) {q:Oq} {c:Nat} {H:ag},p+k=(a.bs[i]).pg.length→rs.length≤p→az B H (Rw 130 8 q c (rs.map Rf.cs)::bw (rs.map Rf.bP)::dP aM a::L)→(∀q' c' (rs':List Rf) H',rs'.map Rf.f=rs.map Rf.f++(if (a.bs[i]).cu=true then [] else iy i m.g.cap ((a.bs[i]).pg.drop p) p)→az B H' (Rw 130 8 q' c' (rs'.map Rf.cs)::bw (rs'.map Rf.bP)::dP aM a::L)→Ke 0 (St.mk (ab [(8,T.v (V.slice q' rs'.length c'))]) (ab []) H'))→lo 98 9 (St.mk (ab [(0,T.v (V.aj (some (aM,0)))),(2,T.v (V.int .i64 (i:Int))),(4,T.lp 4 0),(8,T.v (V.slice q rs.length c)),(42,T.v (V.int .i64 ((a.bs[i]).pg.length:Int))),(43,T.v (V.int .i64 (p:Int)))]) (ab [(4,aO.cells 26 (dS m.g.aE m.g.aA m.g.aH m.q m.g.bI.length m.c))]) H) Kr Ke
 |0,p,rs,q,c,H,hpk,SS,h,hk=>by
  obtain rfl:p=(a.bs[i]).pg.length:=by omega
  rw[N8,decide_eq_false (by omega),ai];refine hk q c rs H ?_ h;rw[List.drop_length];split<;>simp [iy]
 |k+1,p,rs,q,c,H,hpk,SS,h,hk=>by
  have hlt:p<(a.bs[i]).pg.length:=by omega
  have a1:(p:Int)<((a.bs[i]).pg.length:Int):=by omega
  have hrd:=OP hr hi hlt;have hlen:=hr.len _ (List.getElem_mem hi);have KZ:=hr.d _ (List.getElem_mem hi) _ (List.getElem_mem hlt);have hA:=h.ord [2];rw[N8,decide_eq_true a1,ak];refine F4 hA hi (fun d hd=>by rw[hr.d _ (List.getElem_mem hi) _ hd];omega) p (fun q1 c1 H1 h1=> ?_);rw[hrd] at h1⊢;have a2:IntKind.i64.wrap ((p:Int)+1)=((p+1:Nat):Int):=aL (by omega);by_cases hh:(a.bs[i]).cu=true
  ·simp only[hh,if_true] at h1 hk⊢;simp only[AJ,reduceIte,Nat.reduceEqDiff,a2];exact nK hm hg hr tJ hi k (p+1) rs (by omega) (by omega) (h1.drop.ord [1,1]) (fun q' c' rs' H' e h'=>hk q' c' rs' H' (by simpa [hh] using e) h')
  ·simp only[hh,Bool.false_eq_true,if_false] at h1 hk⊢;have a3:¬(0:Int)=4:=by decide
   simp only[AJ,reduceIte,Nat.reduceEqDiff,a3];rw[List.drop_eq_getElem_cons hlt] at hk;have hcap:=(h1.M7).2.2.1;have adh:az B H1 (Rw 130 8 q c (rs.map Rf.cs)::bw (rs.map Rf.bP)::dP aM a::L):=h1.drop.ord [1,1];refine F9 h1 (fun H h=>h.iV) (by omega) hcap (fun hnone e he H2 h2=> ?_) (fun s hs q2 c2 H2 h2=> ?_)
   ·have he':¬e=0:=he;simp only[AJ,reduceIte,Nat.reduceEqDiff,f125,FJ,zl,zm,zn,zo,zp,zq,he',a2];refine nK hm hg hr tJ hi k (p+1) rs (by omega) (by omega) (h2.drop.ord [1,1]) (fun q' c' rs' H' e2 h'=>hk q' c' rs' H' ?_ h');rw[iy,hnone];simpa [hh] using e2
   ·unfold AP;simp only[AJ,reduceIte,Nat.reduceEqDiff,f125,FJ,zl,zm,zn,zo,zp,zq];by_cases hk3:s.cU=3
    ·have WB:(s.cU:Int)=3:=by omega
     simp only[WB,AJ,reduceIte,Nat.reduceEqDiff,a2];refine nK hm hg hr tJ hi k (p+1) rs (by omega) (by omega) (h2.drop.drop.ord [1,1]) (fun q' c' rs' H' e2 h'=>hk q' c' rs' H' ?_ h');rw[iy,hs];simp only[hk3];simpa [hh] using e2
    ·have WB:¬(s.cU:Int)=3:=by omega
     simp only[WB,AJ,reduceIte,Nat.reduceEqDiff];have hmm:dB B (BY q2 c2 s.data::BY q1 c1 (a.bs[i]).pg[p]::dP aM a::Rw 130 8 q c (rs.map Rf.cs)::bw (rs.map Rf.bP)::L) m:=((((hm.bW _).bW _).bW _).bW _).bW _;have:=uP (K:= ?_) h2 hmm hg ?_
     ·exact this
     intro H3 h3;simp only[AJ,reduceIte,Nat.reduceEqDiff,a2];by_cases hle:(s.aq:Int)≤m.g.cap
     ·simp only[hle,decide_true,ak];have h4:az B H3 (Rw 130 8 q c (rs.map Rf.cs)::bw (rs.map Rf.bP)::BY q2 c2 s.data::dP aM a::L):=(h3.ord [1]).drop.ord [2,2]
      have hp:=h4.v8 (K:=fun q n c H'=>lo 98 9
       (St.mk (ab [(0,T.v (V.aj (some (aM,0)))),(2,T.v (V.int .i64 (i:Int))),(4,T.lp 4 0),(8,T.v (V.slice q n c)),(42,T.v (V.int .i64 ((a.bs[i]).pg.length:Int))),(43,T.v (V.int .i64 ((p+1:Nat):Int)))])
        (ab [(4,aO.cells 26 (dS m.g.aE m.g.aA m.g.aH m.q m.g.bI.length m.c))]) H') Kr Ke) (e2:=130) (c:=(Rf.mk ⟨i,p,s⟩ q2 c2).cs) VK VL
       (fun v hv=>by simp only[kS,List.mem_cons,List.not_mem_nil,or_false] at hv;rcases hv with rfl|rfl|rfl|rfl|rfl|rfl|rfl|rfl<;>rfl) rfl (by omega) (wi rs).py rfl
       (fun v hv=>by simp only[Rf.cs,kS,List.mem_cons,List.not_mem_nil,or_false] at hv;rcases hv with rfl|rfl|rfl|rfl|rfl|rfl|rfl|rfl<;>rfl) (by rw[List.length_map];omega) (fun q' c' H' h'=> ?_)
      ·rw[List.length_map] at hp;exact hp
      ·have e1:rs.map Rf.cs++[(Rf.mk ⟨i,p,s⟩ q2 c2).cs]=(rs++[Rf.mk ⟨i,p,s⟩ q2 c2]).map Rf.cs:=by simp
       rw[e1] at h';have e2:(rs.map Rf.cs).length+1=(rs++[Rf.mk ⟨i,p,s⟩ q2 c2]).length:=by simp
       rw[e2]
       have h5:az B H' (Rw 130 8 q' c' ((rs++[Rf.mk ⟨i,p,s⟩ q2 c2]).map Rf.cs)::bw ((rs++[Rf.mk ⟨i,p,s⟩ q2 c2]).map Rf.bP)::dP aM a::L):=by
        have h6:=(h'.ord [2,1]).mI.bigPerm (l':=(rs++[Rf.mk ⟨i,p,s⟩ q2 c2]).map Rf.bP) (by
         show (BY q2 c2 s.data::rs.map Rf.bP).Perm _
         rw[List.map_append]
         exact(List.perm_append_comm (l₁:=[BY q2 c2 s.data]) (l₂:=rs.map Rf.bP)))
        exact h6.swap
       refine nK hm hg hr tJ hi k (p+1) _ (by omega) (by simp;omega) h5 (fun q3 c3 rs' H3 e3 h3=>hk q3 c3 rs' H3 ?_ h3);rw[e3,iy,hs];simp only[hk3,hle,ne_eq,not_false_eq_true,and_self,if_true,hh,if_false,Bool.false_eq_true];simp
     ·simp only[hle,decide_false,ai];refine nK hm hg hr tJ hi k (p+1) rs (by omega) (by omega) (h3.drop.drop.ord [1,1]) (fun q' c' rs' H' e2 h'=>hk q' c' rs' H' ?_ h');rw[iy,hs];simp only[hle,and_false,if_false];simpa [hh] using e2
theorem OQ (h:az B H (dP aM a::L)) (hm:dB B L m) (hf:m.g.cY=true) (hg:m.g.In) (hr:a.rd m.g) (tJ:a.aA≤32) (hu:i∈m.g.us) (hi:i<a.bs.length) (k:∀q c (rs:List Rf) H',rs.map Rf.f=(a.bs[i]).eR i m.g.cap→az B H' (Rw 130 8 q c (rs.map Rf.cs)::bw (rs.map Rf.bP)::dP aM a::L)→K (.tuple [.slice q rs.length c,.int .i64 0]) H'):cl 98 [.aj (some (aM,0)),m.v,.int .i64 (i:Int)] H K:=by
 have hv:m.v=.agg (dS m.g.aE m.g.aA m.g.aH m.q m.g.bI.length m.c):=rfl;rw[hv,abU, ←hv];simp only[Option.isNone_some,ai,eu];refine JS h (hm.bW _) hg.l (fun H1 h1=> ?_);simp only[hf,AJ,reduceIte,Nat.reduceEqDiff];rw[B0 h1];simp only[AJ,reduceIte,Nat.reduceEqDiff,hr.n];rw[F2 h1];simp only[AJ,reduceIte,Nat.reduceEqDiff,hr.p];refine jF h1 (hm.bW _) hg (fun q c H2 h2=> ?_);simp only[AJ,reduceIte,Nat.reduceEqDiff]
 have hc:=qp (cap:=c) (K:=fun v H'=>ah (V.aw .bool v) (ah (aB (KT.k .bool) (some (T.v (V.bool !V.an v)))||false||false) (br (!V.an v) (K (V.tuple [V.slice none 0 0,V.int .i64 1]) H')
  (cl 64 [V.aj (some (aM,0)),V.int .i64 (i:Int)] H' fun v H'=>ah (V.aw (.int .i64) v)
   (lo 98 9 (St.mk (ab [(0,T.v (V.aj (some (aM,0)))),(2,T.v (V.int .i64 (i:Int))),(4,T.lp 4 0),(8,T.v (V.slice none 0 0)),(42,T.v (V.int .i64 (V.aa v))),(43,T.v (V.int .i64 0))])
    (ab [(4,aO.cells 26 (dS m.g.aE m.g.aA m.g.aH m.q m.g.bI.length m.c))]) H')
    (fun S'=>ah (aB (KT.k .slice) (S'.1 6)&&aB (KT.k (.int .i64)) (S'.1 7)) (K (V.tuple [V.slice (V.au (T.val (S'.1 6))) (V.ax (T.val (S'.1 6))) (V.aC (T.val (S'.1 6))),V.int .i64 (V.aa (T.val (S'.1 7)))]) S'.3))
    fun j S'=>br (decide (j=0)) (ah (aB (KT.k .slice) (S'.1 8)) (K (V.tuple [V.slice (V.au (T.val (S'.1 8))) (V.ax (T.val (S'.1 8))) (V.aC (T.val (S'.1 8))),V.int .i64 0]) S'.3)) False)))))
  (h2.ord [0] |> az.uL) (i:Int) (by rw[gK];have:=ct.kH m.g hg.b.2;omega) ?_
 ·rw[gK] at hc;simpa [AJ,reduceIte,Nat.reduceEqDiff] using hc
 ·have hmem:(i:Int)∈da m.g.us:=List.mem_map.2 ⟨i,hu,rfl⟩;simp only[hmem,AJ,reduceIte,Nat.reduceEqDiff];have h3:=h2.drop;rw[uQ h3 hi];simp only[AJ,reduceIte,Nat.reduceEqDiff];refine nK (a:=a) hm hg hr tJ hi (a.bs[i]).pg.length 0 [] (by omega) (by simp) (h3.qm.rwNil _ _) (fun q' c' rs' H' e h'=> ?_);simp only[AJ,reduceIte,Nat.reduceEqDiff];refine k q' c' rs' H' ?_ h';rw[e];simp [Bk.eR]
end
end Go.Proofs.YtlgdkndamddpkaaGreat
end
section
namespace Go.Am
def ob (id:Nat) (o:Obj):cA:=fun h=>h=fun j=>if j=id then some o else none
def Obj.isC:Obj→Bool
 | .cells .. =>true
 |_=>false
section
variable {B:ag} {L:List cA} {H:ag}
theorem az.xE {id:Nat} {o:Obj} (h:az B H (ob id o::L)):H.get id=some o:=by
 obtain⟨g,h1,h2,h3,h4,h5,h6⟩:=h.ex;exact h1 _ _ (h4.Vr (by rw[h5];simp))
theorem az.OR (h:az B H L) (o:Obj):az B (H.alloc o) (ob H.next o::L):=by
 obtain⟨g,h1,h2⟩:=h.ex;refine⟨h.ok.alloc _,Nat.le_succ_of_le h.Lw,fun id o ho=> ?_,fun j=>if j=H.next then some o else g j,fun id o' ho=> ?_,_,g,fun i=> ?_,rfl,h2⟩
 ·have:=h.ok id o (h.ro id o ho).1;exact⟨by rw[ag.fW (by omega)];exact(h.ro id o ho).1,(h.ro id o ho).2⟩
 ·by_cases hid:id=H.next
  ·subst hid;simp only[if_pos] at ho;rw[ag.vZ,ho]
  ·simp only[if_neg hid] at ho;rw[ag.fW hid];exact h1 id o' ho
 ·by_cases hid:i=H.next
  ·subst hid;right;refine⟨?_,by simp⟩
   cases hg:g H.next with
   |none=>rfl
   |some o=>have:=h.ok _ _ (h1 _ _ hg);omega
  ·left;simp [hid]
theorem az.pt {id:Nat} {o o':Obj} (h:az B H (ob id o::L)) (hc:o.isC=false):az B (H.put id o') (ob id o'::L):=by
 have Wv:=h.xE;obtain⟨g,h1,h2,h3,h4,h5,h6⟩:=h.ex;subst h5;refine⟨h.ok.put Wv,h.Lw,fun j o ho=> ?_,fun j=>if j=id then some o' else h3 j,fun j o2 ho=> ?_,_,h3,fun i=> ?_,rfl,h6⟩
 ·have hj:=h.ro j o ho;refine⟨?_,hj.2⟩;by_cases he:j=id
  ·subst he;obtain⟨e',c',rfl⟩:=hj.2;rw[hj.1] at Wv;cases Wv;cases hc
  ·rw[ag.lM he];exact hj.1
 ·by_cases hid:j=id
  ·subst hid;simp only[if_pos] at ho;rw[ag.Jl,ho]
  ·simp only[if_neg hid] at ho;rw[ag.lM hid];exact h1 j o2 (h4.Vs ho)
 ·by_cases hid:i=id
  ·subst hid;right;refine⟨?_,by simp⟩;rcases h4 i with⟨e1,_⟩|⟨e1,_⟩
   ·simp at e1
   ·exact e1
  ·left;simp [hid]
end
structure En where
 k:Int
 v:V
 b:Nat
def uT (es:List En):List (V×V×Nat):=es.map fun e=>(.int .i64 e.k,e.v,e.b)
def Hn (n:Int):List En→Option V
 |[]=>none
 |e::l=>if e.k=n then some e.v else Hn n l
def Bq (n:Int) (v:V):List En→List En
 |[]=>[]
 |e::l=>if e.k=n then {e with v:=v}::l else e::Bq n v l
def D0 (n:Int):List En→List En
 |[]=>[]
 |e::l=>if e.k=n then l else e::D0 n l
structure xF (es:List En) (c:Nat):Prop where
 lt:es.Pairwise fun x y=>x.b<y.b
 all:∀e∈es,e.b<c
theorem JZ:∀es:List En,sv .i64 (uT es)=true
 |[]=>rfl
 |e::l=>by
  show (V.aw (.int .i64) (.int .i64 e.k)&&sv .i64 (uT l))=true
  rw[JZ l,cL];rfl
theorem uU (n:Int):∀es:List En,nq n (uT es)=Hn n es
 |[]=>rfl
 |e::l=>by
  show (bif decide (e.k=n) then some e.v else nq n (uT l))=_
  rw[uU n l,Hn];by_cases h:e.k=n<;>simp [h]
theorem J0 (n:Int) (v:V):∀es:List En,E3 n v (uT es)=uT (Bq n v es)
 |[]=>rfl
 |e::l=>by
  show (bif decide (e.k=n) then (V.int .i64 e.k,v,e.b)::uT l else (V.int .i64 e.k,e.v,e.b)::E3 n v (uT l))=_
  rw[J0 n v l,Bq];by_cases h:e.k=n<;>simp [h,uT]
theorem J1 (n:Int):∀es:List En,yk n (uT es)=uT (D0 n es)
 |[]=>rfl
 |e::l=>by
  show (bif decide (e.k=n) then uT l else (V.int .i64 e.k,e.v,e.b)::yk n (uT l))=_
  rw[J1 n l,D0];by_cases h:e.k=n<;>simp [h,uT]
section
variable {B:ag} {L:List cA} {H:ag} {id c:Nat} {es:List En}
def iI (id:Nat) (es:List En) (c:Nat):cA:=ob id (.map (uT es) c)
theorem az.OS (h:az B H L):az B (H.alloc (.map [] 0)) (iI H.next [] 0::L):=h.OR _
theorem uV (h:az B H (iI id es c::L)):eG H .i64 (some id)=true:=by
 have hg:=h.xE;simp only[eG,Option.isNone_some,Option.getD_some,ag.isMap,ag.ents,hg,JZ,Bool.and_self,Bool.or_true]
theorem Tg (h:az B H (iI id es c::L)):H.isMap id=true:=by
 have hg:=h.xE;simp only[ag.isMap,hg]
theorem zF (h:az B H (iI id es c::L)) (n:Int) (z:V):cj H (some id) n z=(Hn n es).getD z:=by
 have hg:=h.xE;simp only[cj,Option.isNone_some,Option.getD_some,ag.ents,hg,uU,cond_false]
theorem OT (h:az B H (iI id es c::L)) (n:Int):lk H (some id) n=(Hn n es).isSome:=by
 have hg:=h.xE;simp only[lk,Option.isSome_some,Option.getD_some,ag.ents,hg,uU,Bool.true_and]
def rN (n:Int) (v:V) (es:List En) (c:Nat):List En×Nat:=if (Hn n es).isSome then (Bq n v es,c) else (es++[⟨n,v,c⟩],c+1)
theorem az.J2 (h:az B H (iI id es c::L)) (n:Int) (v:V):az B (ik H .i64 id n v) (iI id (rN n v es c).1 (rN n v es c).2::L):=by
 have hg:=h.xE;unfold ik rN;simp only[ag.ents,ag.clock,hg,uU]
 cases hf:(Hn n es).isSome with
 |true=>
  simp only[cond_true,if_true,J0];exact h.pt rfl
 |false=>
  simp only[cond_false,Bool.false_eq_true,if_false];have e:uT es++[(V.int .i64 n,v,c)]=uT (es++[⟨n,v,c⟩]):=by simp [uT]
  rw[e];exact h.pt rfl
theorem az.Z5 (h:az B H (iI id es c::L)) (n:Int):az B (pC H (some id) n) (iI id (D0 n es) c::L):=by
 have hg:=h.xE;unfold pC;simp only[Option.isNone_some,Option.getD_some,ag.ents,ag.clock,hg,J1,cond_false];exact h.pt rfl
theorem OU (n:Int) (v:V):∀es:List En,(Bq n v es).map En.b=es.map En.b
 |[]=>rfl
 |e::l=>by
  rw[Bq];split
  ·rfl
  ·rw[List.map_cons,OU n v l,List.map_cons]
theorem D1 {es:List En} {c:Nat}:xF es c↔(es.map En.b).Pairwise (· < ·)∧∀b∈es.map En.b,b<c:=by
 constructor
 ·intro h;exact⟨List.pairwise_map.2 h.lt,fun b hb=>by obtain⟨e,he,rfl⟩:=List.mem_map.1 hb;exact h.all e he⟩
 ·intro h;exact⟨List.pairwise_map.1 h.1,fun e he=>h.2 _ (List.mem_map.2 ⟨e,he,rfl⟩)⟩
theorem xF.ins (h:xF es c) (n:Int) (v:V):xF (rN n v es c).1 (rN n v es c).2:=by
 unfold rN;split
 ·rw[D1] at h⊢;rw[OU];exact h
 ·refine⟨?_, ?_⟩
  ·rw[List.pairwise_append];exact⟨h.lt,by simp,fun x hx y hy=>by rw[List.mem_singleton] at hy;subst hy;exact h.all x hx⟩
  ·intro e he;rcases List.mem_append.1 he with he|he
   ·have:=h.all e he;simp only;omega
   ·rw[List.mem_singleton] at he;subst he;simp
theorem zG (n:Int):∀es:List En,(D0 n es).Sublist es
 |[]=>.slnil
 |e::l=>by
  rw[D0];split
  ·exact List.sublist_cons_self ..
  ·exact(zG n l).cons_cons e
theorem xF.EY (h:xF es c) (n:Int):xF (D0 n es) c:=⟨h.lt.sublist (zG n es),fun e he=>h.all e ((zG n es).subset he)⟩
theorem xF.nil (c:Nat):xF [] c:=⟨.nil,fun e he=>by cases he⟩
theorem Ga {e:En}:∀{es:List En},(es.Pairwise fun x y=>x.b<y.b)→e∈es→By e.b (uT es)=some (.int .i64 e.k,e.v)
 |x::l,hp,he=>by
  show (bif Nat.beq x.b e.b then some (V.int .i64 x.k,x.v) else By e.b (uT l))=_
  rw[List.pairwise_cons] at hp;rcases List.mem_cons.1 he with rfl|he
  ·simp
  ·have:=hp.1 e he;have hb:Nat.beq x.b e.b=false:=by simp;omega
   rw[hb,cond_false];exact Ga hp.2 he
theorem wj {seen:List Nat} {b:Nat}:∀{es:List En},b∈lj seen (uT es)↔∃e∈es,e.b=b∧b∉seen
 |[]=>by simp [uT,lj]
 |x::l=>by
  show b∈(bif tO x.b seen then lj seen (uT l) else x.b::lj seen (uT l))↔_
  have ih:=wj (seen:=seen) (b:=b) (es:=l)
  cases hx:tO x.b seen with
  |true=>
   have hm:x.b∈seen:=Hh hx;rw[cond_true,ih];constructor
   ·rintro⟨e,he,h1,h2⟩;exact⟨e,List.mem_cons_of_mem _ he,h1,h2⟩
   ·rintro⟨e,he,h1,h2⟩;rcases List.mem_cons.1 he with rfl|he
    ·exact absurd (h1▸hm) h2
    ·exact⟨e,he,h1,h2⟩
  |false=>
   have hm:x.b∉seen:=fun h=>by rw[K3 h] at hx;cases hx
   rw[cond_false,List.mem_cons,ih];constructor
   ·rintro(rfl|⟨e,he,h1,h2⟩)
    ·exact⟨x,List.mem_cons_self,rfl,hm⟩
    ·exact⟨e,List.mem_cons_of_mem _ he,h1,h2⟩
   ·rintro⟨e,he,h1,h2⟩;rcases List.mem_cons.1 he with rfl|he
    ·exact .inl h1.symm
    ·exact .inr ⟨e,he,h1,h2⟩
where
 Hh {n:Nat}:∀{l:List Nat},tO n l=true→n∈l
  |y::l,h=>by
   rw[tO,Bool.or_eq_true] at h;rcases h with h|h
   ·exact List.mem_cons.2 (.inl (Nat.eq_of_beq_eq_true h))
   ·exact List.mem_cons_of_mem _ (Hh h)
 K3 {n:Nat}:∀{l:List Nat},n∈l→tO n l=true
  |y::l,h=>by
   rw[tO,Bool.or_eq_true];rcases List.mem_cons.1 h with rfl|h
   ·exact .inl (Nat.beq_refl _)
   ·exact .inr (K3 h)
theorem B5 {s:Nat}:∀{es:List En},(∀e∈es,e.b<s)→oa s (uT es)=true
 |[],_=>rfl
 |x::l,h=>by
  show (Nat.blt x.b s&&oa s (uT l))=true
  rw[B5 fun e he=>h e (List.mem_cons_of_mem _ he),Bool.and_true];exact Nat.ble_eq_true_of_le (h x List.mem_cons_self)
theorem zH:∀(l:List Nat) (b:Nat),Bz (l++[b])=some b
 |[],b=>rfl
 |[x],b=>rfl
 |x::y::l,b=>by
  show Bz (y::l++[b])=some b
  exact zH (y::l) b
theorem az.OV {it:Nat} {seen:List Nat} (h:az B H (ob it (.dM (some id) c seen c)::iI id es c::L)) (hb:xF es c) {K1:Prop} {K2:ag→Prop} (k1:(∀e∈es,e.b∈seen)→K1) (k2:∀e∈es,e.b∉seen→∀H',az B H' (ob it (.dM (some id) c (seen++[e.b]) c)::iI id es c::L)→sw H' it=true→kM H' it=.int .i64 e.k→iJ H' it=e.v→K2 H'):mapNext H it K1 K2:=by
 have h1:=h.xE;have h2:=h.swap.xE;unfold mapNext;simp only[h1,h2,B5 hb.all,Nat.ble_eq_true_of_le (Nat.le_refl c),Bool.and_self,cond_true]
 have key:∀b,b∈lj seen (uT es)→K2 (H.put it (.dM (some id) c (seen++[b]) c)):=by
  intro b Xc;obtain⟨e,he,rfl,hn⟩:=wj.1 Xc;have h3:=h.pt (o':=.dM (some id) c (seen++[e.b]) c) rfl;have g1:=h3.xE;have g2:=h3.swap.xE
  have rP:vE (H.put it (.dM (some id) c (seen++[e.b]) c)) it=some (.int .i64 e.k,e.v):=by
   unfold vE;simp only[g1,g2,zH,Nat.beq_refl,cond_true];exact Ga hb.lt he
  exact k2 e he hn _ h3 (by unfold sw;rw[rP];rfl) (by unfold kM;rw[rP];rfl) (by unfold iJ;rw[rP];rfl)
 cases hl:lj seen (uT es) with
 |nil=>
  refine k1 (fun e he=> ?_)
  cases hd:decide (e.b∈seen) with
  |true=>exact of_decide_eq_true hd
  |false=>
   have:e.b∈lj seen (uT es):=wj.2 ⟨e,he,rfl,of_decide_eq_false hd⟩;rw[hl] at this;cases this
 |cons x l=>
  rw[hl] at key;exact key
theorem az.OW (h:az B H (iI id es c::L)):az B (H.alloc (mapIter H (some id))) (ob H.next (.dM (some id) c [] c)::iI id es c::L):=by
 have hg:=h.xE;have e:mapIter H (some id)=.dM (some id) c [] c:=by simp only[mapIter,Option.isNone_some,Option.getD_some,ag.clock,hg,cond_false]
 rw[e];exact h.OR _
theorem oK (q:En→Bool) {e:En} {seen:List Nat} (hn:e.b∉seen):∀{es:List En},(es.Pairwise fun x y=>x.b<y.b)→e∈es→es.countP (fun y=>decide (y.b∈seen++[e.b])&&q y)=es.countP (fun y=>decide (y.b∈seen)&&q y)+(if q e=true then 1 else 0)
 |x::l,hp,he=>by
  rw[List.pairwise_cons] at hp;rw[List.countP_cons,List.countP_cons];rcases List.mem_cons.1 he with rfl|he
  ·have e1:l.countP (fun y=>decide (y.b∈seen++[e.b])&&q y)=l.countP (fun y=>decide (y.b∈seen)&&q y):=by
    apply List.countP_congr;intro y hy;have:=hp.1 y hy;have hne:¬y.b=e.b:=by omega
    simp [hne]
   rw[e1];cases hq:q e<;>simp [hq,hn]
  ·have:=hp.1 e he;have hne:¬x.b=e.b:=by omega
   rw[oK q hn hp.2 he];simp only[List.mem_append,List.mem_singleton,hne,or_false];omega
end
end Go.Am
end
section
namespace Go.Proofs.YtlgdkndamddpkaaGreat
open Go.Am
def Iu (o f:Fd):Bool:=decide (o.s.cU=f.s.cU)&&(decide (o.s.aq=f.s.aq)&&(decide (o.s.seq<f.s.seq)&&decide (o.s.data=f.s.data)))
def hT (i:Nat):List (Nat×List Fd)→List Fd
 |[]=>[]
 |x::l=>if x.1=i then x.2 else hT i l
def Iv (cN:List (Nat×List Fd)) (fr:Nat):List Fd:=if fr=0 then [] else hT (fr-1) cN
def ta (cN:List (Nat×List Fd)) (fr:Nat) (f:Fd):Bool:=decide (fr≠0)&&(decide (f.s.fr=fr)&&(Iv cN fr).any fun o=>Iu o f)
def kW (cN:List (Nat×List Fd)) (i:Nat):Bool:=match hT i cN with
 |[]=>false
 |f::l=>(f::l).all (ta cN f.s.fr)
def qt (bz:List (Rz×Nat)):List En:=bz.map fun x=>⟨(x.1.i:Int),.slice x.1.q x.1.rs.length x.1.c,x.2⟩
def nL (bz:List (Rz×Nat)):List (Nat×List Fd):=bz.map fun x=>(x.1.i,x.1.rs.map Rf.f)
def pw (i:Nat):List (Rz×Nat)→Option Rz
 |[]=>none
 |x::l=>if x.1.i=i then some x.1 else pw i l
theorem uW {i:Nat} {z:Rz}:∀{bz:List (Rz×Nat)},pw i bz=some z→∃b,(z,b)∈bz
 |x::l,h=>by
  rw[pw] at h;split at h
  ·cases h;exact⟨x.2,List.mem_cons_self⟩
  ·obtain⟨b,hb⟩:=uW h;exact⟨b,List.mem_cons_of_mem _ hb⟩
theorem uX (i:Nat):∀bz:List (Rz×Nat),hT i (nL bz)=match pw i bz with|some z=>z.rs.map Rf.f|none=>[]
 |[]=>rfl
 |x::l=>by
  show (if x.1.i=i then x.1.rs.map Rf.f else hT i (nL l))=_
  rw[pw];split
  ·rfl
  ·exact uX i l
theorem D2 (i:Nat):∀bz:List (Rz×Nat),Hn (i:Int) (qt bz)=(pw i bz).map fun z:Rz=>V.slice z.q z.rs.length z.c
 |[]=>rfl
 |x::l=>by
  show (if (x.1.i:Int)=(i:Int) then some _ else Hn (i:Int) (qt l))=_
  rw[pw,D2 i l];by_cases h:x.1.i=i
  ·have:(x.1.i:Int)=(i:Int):=by omega
   rw[if_pos this,if_pos h];rfl
  ·have:¬(x.1.i:Int)=(i:Int):=by omega
   rw[if_neg this,if_neg h]
theorem J3:∀bz:List (Rz×Nat),Hn (-1) (qt bz)=none
 |[]=>rfl
 |x::l=>by
  show (if (x.1.i:Int)= -1 then some _ else Hn (-1) (qt l))=_
  rw[if_neg (by omega),J3 l]
section
variable {B:ag} {L:List cA} {H:ag} {K:V→ag→Prop}
theorem uY {zs:List Rz} {z:Rz} (h:az B H (bw (zs.map Rz.bP)::L)) (hz:z∈zs):Rd H z.q (z.rs.map Rf.cs).flatten∧∀r∈z.rs,lO H r.q r.f.s.data:=by
 obtain⟨j,hj,rfl⟩:=List.mem_iff_getElem.1 hz;have h1:=h.qn (i:=j) (by simpa using hj);rw[List.getElem_map] at h1;have h2:=az.LD h1;refine⟨h2.lQ,fun r hr=> ?_⟩;obtain⟨k,hk,rfl⟩:=List.mem_iff_getElem.1 hr;have h3:=(h2.ord [1]).qn (i:=k) (by simpa using hk);rw[List.getElem_map] at h3;exact h3.iV
structure FcG (H:ag) (fid:Nat) (r:Rf):Prop where
 i:∀k<8,H.inb fid k 1=true
 c:∀k<8,H.cell fid k=ae r.cs k
 d:lO H r.q r.f.s.data
theorem fcG {fid:Nat} {r:Rf} (hg:H.get fid=some (.cells 130 r.cs false)) (hd:lO H r.q r.f.s.data):FcG H fid r:=
 ⟨fun k hk=>nG hg (by show k<8;exact hk),fun k hk=>aY hg k,hd⟩
theorem VM {fid:Nat} {o r:Rf} (g:FcG H fid r) (ho:lO H o.q o.f.s.data):cl 123 [.agg o.cs,.aj (some (fid,0))] H K=K (.bool (Iu o.f r.f)) H:=by
 unfold Rf.cs;rw[Zf];have c2:H.cell fid 2=.int .u8 (r.f.s.cU:Int):=g.c 2 (by omega);have c4:H.cell fid 4=.int .u64 (r.f.s.seq:Int):=g.c 4 (by omega);have c5:H.cell fid 5=.int .i64 (r.f.s.aq:Int):=g.c 5 (by omega);have c7:H.cell fid 7=.slice r.q r.f.s.data.length r.c:=g.c 7 (by omega);simp only[AJ,reduceIte,Nat.reduceEqDiff,Nat.zero_add,g.i 2 (by omega),g.i 4 (by omega),g.i 5 (by omega),g.i 7 (by omega),c2,c4,c5,c7];unfold Iu;by_cases h1:o.f.s.cU=r.f.s.cU
 ·have xq:(o.f.s.cU:Int)=(r.f.s.cU:Int):=by omega
  simp only[h1,xq,decide_true,ak,Bool.true_and];by_cases h2:o.f.s.aq=r.f.s.aq
  ·have Bw:(o.f.s.aq:Int)=(r.f.s.aq:Int):=by omega
   simp only[h2,Bw,decide_true,ak,Bool.true_and];by_cases h3:o.f.s.seq<r.f.s.seq
   ·have TF:(o.f.s.seq:Int)<(r.f.s.seq:Int):=by omega
    simp only[h3,TF,decide_true,ak,Bool.true_and,ho.eX,ho.eY,g.d.eX,g.d.eY,av,qk]
   ·have TF:¬(o.f.s.seq:Int)<(r.f.s.seq:Int):=by omega
    simp only[h3,TF,decide_false,ai,Bool.false_and]
  ·have Bw:¬(o.f.s.aq:Int)=(r.f.s.aq:Int):=by omega
   simp only[h2,Bw,decide_false,ai,Bool.false_and]
 ·have xq:¬(o.f.s.cU:Int)=(r.f.s.cU:Int):=by omega
  simp only[h1,xq,decide_false,ai,Bool.false_and]
theorem Th {fid:Nat} {r:Rf} (g:FcG H fid r) {q:Oq} {c:Nat} {rs:List Rf} (hr:Rd H q (rs.map Rf.cs).flatten) (hd:∀o∈rs,lO H o.q o.f.s.data) (hl:rs.length≤1000000) {Kr:Am.St→Prop} {Ke:Nat→Am.St→Prop} (k1:∀j:Nat,(rs.any fun o=>Iu o.f r.f)=true→Kr (St.mk (ab [(4,T.v (V.int .i64 (j:Int)))]) (ab []) H)) (k2:(rs.any fun o=>Iu o.f r.f)=false→Ke 0 (St.mk (ab []) (ab []) H)):∀(k i:Nat),i+k=rs.length→((rs.take i).any fun o=>Iu o.f r.f)=false→lo 142 2 (St.mk (ab [(0,T.v (V.slice q rs.length c)),(1,T.v (V.func 123 [.aj (some (fid,0))])),(7,T.v (V.int .i64 (rs.length:Int))),(8,T.v (V.int .i64 (i:Int)))]) (ab []) H) Kr Ke
 |0,i,hi,hn=>by
  obtain rfl:i=rs.length:=by omega
  rw[List.take_length] at hn;rw[Jw,decide_eq_false (by omega),ai];exact k2 hn
 |k+1,i,hi,hn=>by
  have hlt:i<rs.length:=by omega
  obtain⟨s1,s2,s3⟩:=xh hr (wi rs).py (by decide) (i:=i) (by simpa using hlt);have s2':H.inb (pb q) (po q+i*8) 8=true:=s2
  have Jc:H.sub (pb q) (po q+i*8) 8=(rs[i]).cs:=by
   rw[List.getElem_map] at s3;exact s3
  have a1:(i:Int)<(rs.length:Int):=by omega
  have a2:0≤(i:Int):=by omega
  have hfit:aI pn (rs[i]).cs=true:=rfl;have AG:Ls (rs[i]).cs=(rs[i]).cs:=rfl;rw[Jw];simp only[AJ,reduceIte,Nat.reduceEqDiff,a1,a2,Int.toNat_natCast,s1,s2',Jc,hfit,AG];show cl 123 [.agg (rs[i]).cs,.aj (some (fid,0))] H _
  rw[VM g (hd _ (List.getElem_mem hlt))];simp only[AJ,reduceIte,Nat.reduceEqDiff]
  cases hm:Iu (rs[i]).f r.f with
  |true=>
   simp only[ak];exact k1 i (List.any_eq_true.2 ⟨_,List.getElem_mem hlt,hm⟩)
  |false=>
   simp only[ai];rw[aL (by omega)];refine Th g hr hd hl k1 k2 k (i+1) (by omega) ?_;rw[List.take_succ_eq_append_getElem hlt,List.any_append,hn];simp [hm]
theorem OX {fid:Nat} {r:Rf} (g:FcG H fid r) {q:Oq} {c:Nat} {rs:List Rf} (hr:Rd H q (rs.map Rf.cs).flatten) (hd:∀o∈rs,lO H o.q o.f.s.data) (hl:rs.length≤1000000):K (.bool (rs.any fun o=>Iu o.f r.f)) H→cl 122 [.slice q rs.length c,.func 123 [.aj (some (fid,0))]] H K:=by
 intro k;rw[Ze,Zr];refine Th g hr hd hl (fun j e=> ?_) (fun e=> ?_) rs.length 0 (by omega) (by simp)
 ·have:(j:Int)≥0:=by omega
  simp only[AJ,reduceIte,Nat.reduceEqDiff,this];rw[e] at k;exact k
 ·have:¬(-1:Int)≥0:=by decide
  simp only[AJ,reduceIte,Nat.reduceEqDiff,this];rw[e] at k;exact k
theorem any_map (rs:List Rf) (f:Fd):(rs.map Rf.f).any (fun o=>Iu o f)=rs.any fun o=>Iu o.f f:=by
 rw[List.any_map];rfl
theorem OY {mid c:Nat} {bz:List (Rz×Nat)} (h:az B H (iI mid (qt bz) c::L)) (i:Nat):
 cj H (some mid) (i:Int) (.slice none 0 0)=match pw i bz with|some z=>V.slice z.q z.rs.length z.c|none=>V.slice none 0 0:=by
 rw[zF h,D2];cases pw i bz<;>rfl
theorem Ti {mid c:Nat} {bz:List (Rz×Nat)} {zs:List Rz} (hbz:∀x∈bz,x.1∈zs) (hl:∀z∈zs,z.rs.length≤1000000) {z:Rz} (hz:z∈zs) (fr:Nat) {Kr:Am.St→Prop} {Ke:Nat→Am.St→Prop} (k1:∀H',az B H' (iI mid (qt bz) c::bw (zs.map Rz.bP)::L)→((z.rs.map Rf.f).all (ta (nL bz) fr))=false→Kr (St.mk (ab [(4,T.v (V.bool false))]) (ab []) H')) (k2:∀H',az B H' (iI mid (qt bz) c::bw (zs.map Rz.bP)::L)→((z.rs.map Rf.f).all (ta (nL bz) fr))=true→Ke 0 (St.mk (ab []) (ab []) H')):∀(k i:Nat) {H:ag},i+k=z.rs.length→(((z.rs.take i).map Rf.f).all (ta (nL bz) fr))=true→az B H (iI mid (qt bz) c::bw (zs.map Rz.bP)::L)→lo 99 6 (St.mk (ab [(0,T.v (V.map (some mid))),(5,T.v (V.int .i64 ((fr:Int)-1))),(23,T.v (V.slice z.q z.rs.length z.c)),(24,T.v (V.int .i64 (z.rs.length:Int))),(25,T.v (V.int .i64 (i:Int)))]) (ab []) H) Kr Ke
 |0,i,H,hi,hn,h=>by
  obtain rfl:i=z.rs.length:=by omega
  rw[List.take_length] at hn;rw[N9,decide_eq_false (by omega),ai];exact k2 H h hn
 |k+1,i,H,hi,hn,h=>by
  have hlt:i<z.rs.length:=by omega
  obtain⟨hrz,hdz⟩:=uY (h.ord [1]) hz;obtain⟨s1,s2,s3⟩:=xh hrz (wi z.rs).py (by decide) (i:=i) (by simpa using hlt);have s2':H.inb (pb z.q) (po z.q+i*8) 8=true:=s2
  have Jc:H.sub (pb z.q) (po z.q+i*8) 8=(z.rs[i]).cs:=by
   rw[List.getElem_map] at s3;exact s3
  have a1:(i:Int)<(z.rs.length:Int):=by omega
  have a2:0≤(i:Int):=by omega
  have hfit:aI pn (z.rs[i]).cs=true:=rfl;have AG:Ls (z.rs[i]).cs=(z.rs[i]).cs:=rfl;obtain⟨fid,MZ⟩:∃f,f=H.next:=⟨_,rfl⟩;have h1:=h.alloc 130 (kS 0 0 0 0 0 0 0 none 0 0);have hw:(H.alloc (.cells 130 (kS 0 0 0 0 0 0 0 none 0 0) false)).wr H.next 0 8=true:=fK h1.get 0 8;have h2:=h1.store (off:=0) (vs:=(z.rs[i]).cs)
  have e2:bM (kS 0 0 0 0 0 0 0 none 0 0) 0 (z.rs[i]).cs=(z.rs[i]).cs:=by
   rw[fX _ _ _ (by show 0+8≤8;omega)];rfl
  rw[e2] at h2;rw[N9];simp only[AJ,reduceIte,Nat.reduceEqDiff,a1,a2,Int.toNat_natCast,s1,s2',Jc,hfit,AG,hw];generalize (ag.store _ _ _ _)=H2 at h2⊢;rw[←MZ] at h2⊢;have SJ:lO H2 (z.rs[i]).q (z.rs[i]).f.s.data:=(uY (h2.ord [2]) hz).2 _ (List.getElem_mem hlt);have g:=fcG h2.get SJ;have hm2:=h2.ord [1];have hmo:=uV hm2
  have hnext:∀H',az B H' (dj fid 130 (z.rs[i]).cs::iI mid (qt bz) c::bw (zs.map Rz.bP)::L)→ta (nL bz) fr (z.rs[i]).f=true→
   lo 99 6
    (St.mk (ab [(0,T.v (V.map (some mid))),(5,T.v (V.int .i64 ((fr:Int)-1))),(23,T.v (V.slice z.q z.rs.length z.c)),(24,T.v (V.int .i64 (z.rs.length:Int))),(25,T.v (V.int .i64 (IntKind.i64.wrap ((i:Int)+1))))]) (ab []) H') Kr Ke:=by
   intro H' h' hc;have:=hl z hz;rw[aL (by omega)];refine Ti hbz hl hz fr k1 k2 k (i+1) (by omega) ?_ h'.drop;rw[List.take_succ_eq_append_getElem hlt,List.map_append,List.all_append,hn];simp [hc]
  have hstop:∀H',az B H' (dj fid 130 (z.rs[i]).cs::iI mid (qt bz) c::bw (zs.map Rz.bP)::L)→ta (nL bz) fr (z.rs[i]).f=false→Kr (St.mk (ab [(4,T.v (V.bool false))]) (ab []) H'):=by
   intro H' h' hc;refine k1 H' h'.drop ?_;rw[List.all_eq_false];exact⟨_,List.mem_map.2 ⟨_,List.getElem_mem hlt,rfl⟩,by simp [hc]⟩
  have c6:H2.cell fid 6=.int .i64 (((z.rs[i]).f.s.fr:Int)-1):=g.c 6 (by omega);by_cases hfr:fr=0
  ·subst hfr;have hk:((0:Nat):Int)-1= -1:=rfl;rw[hk] at hnext⊢;have oU:cj H2 (some mid) (-1) (.slice none 0 0)=.slice none 0 0:=by rw[zF hm2,J3];rfl
   have hneg:(-1:Int)<0:=by decide
   have Wq:ta (nL bz) 0 (z.rs[i]).f=false:=by simp [ta]
   simp only[hmo,oU,AJ,reduceIte,Nat.reduceEqDiff];refine OX (rs:=[]) g (Rd.nil _ _) (fun o ho=>by cases ho) (by simp) ?_;simp only[AJ,reduceIte,Nat.reduceEqDiff,hneg,aN,Bool.false_eq_true,if_false,cond_false];exact hstop H2 h2 Wq
  ·have hk:((fr:Nat):Int)-1=((fr-1:Nat):Int):=by omega
   have hnn:¬((fr-1:Nat):Int)<0:=by omega
   have oU:=OY hm2 (fr-1)
   have hlk:Iv (nL bz) fr=match pw (fr-1) bz with|some z=>z.rs.map Rf.f|none=>[]:=by
    unfold Iv;rw[if_neg hfr,uX]
   have fin:∀(b:Bool),b=(Iv (nL bz) fr).any (fun o=>Iu o (z.rs[i]).f)→
    br (bif decide (((z.rs[i]).f.s.fr:Int)-1=((fr-1:Nat):Int)) then !b else true) (Kr (St.mk (ab [(4,T.v (V.bool false))]) (ab []) H2))
     (lo 99 6
    (St.mk (ab [(0,T.v (V.map (some mid))),(5,T.v (V.int .i64 ((fr-1:Nat):Int))),(23,T.v (V.slice z.q z.rs.length z.c)),(24,T.v (V.int .i64 (z.rs.length:Int))),(25,T.v (V.int .i64 (IntKind.i64.wrap ((i:Int)+1))))]) (ab []) H2) Kr Ke):=by
    intro b hb;by_cases SU:(z.rs[i]).f.s.fr=fr
    ·have:((z.rs[i]).f.s.fr:Int)-1=((fr-1:Nat):Int):=by omega
     simp only[this,decide_true,cond_true]
     cases Bv:b with
     |true=>
      simp only[Bool.not_true,ai];have:=hnext H2 h2 (by unfold ta;rw[←hb,Bv];simp [hfr,SU]);rw[hk] at this;exact this
     |false=>
      simp only[Bool.not_false,ak];exact hstop H2 h2 (by unfold ta;rw[←hb,Bv];simp)
    ·have:¬((z.rs[i]).f.s.fr:Int)-1=((fr-1:Nat):Int):=by omega
     simp only[this,decide_false,cond_false,ak];exact hstop H2 h2 (by unfold ta;simp [SU])
   rw[hk]
   cases WC:pw (fr-1) bz with
   |none=>
    rw[WC] at oU hlk;simp only[hmo,oU,AJ,reduceIte,Nat.reduceEqDiff];refine OX (rs:=[]) g (Rd.nil _ _) (fun o ho=>by cases ho) (by simp) ?_;simp only[AJ,reduceIte,Nat.reduceEqDiff,hnn,aN,if_true,g.i 6 (by omega),c6,cond_true,Bool.not_not];have:=fin ([].any fun o:Rf=>Iu o.f (z.rs[i]).f) (by rw[hlk];rfl);exact this
   |some z2=>
    rw[WC] at oU hlk;obtain⟨b2,nf⟩:=uW WC;have yi:=hbz _ nf;obtain⟨xM,hd2⟩:=uY (h2.ord [2]) yi;simp only[hmo,oU,AJ,reduceIte,Nat.reduceEqDiff];refine OX g xM hd2 (hl _ yi) ?_;simp only[AJ,reduceIte,Nat.reduceEqDiff,hnn,aN,if_true,g.i 6 (by omega),c6,cond_true,Bool.not_not];exact fin _ (by rw[hlk];exact(any_map _ _).symm)
theorem LJ {mid c:Nat} {bz:List (Rz×Nat)} {zs:List Rz} (h:az B H (iI mid (qt bz) c::bw (zs.map Rz.bP)::L)) (hbz:∀x∈bz,x.1∈zs) (hl:∀z∈zs,z.rs.length≤1000000) (i:Nat) (k:∀H',az B H' (iI mid (qt bz) c::bw (zs.map Rz.bP)::L)→K (.bool (kW (nL bz) i)) H'):cl 99 [.map (some mid),.int .i64 (i:Int)] H K:=by
 rw[abV];have hmo:=uV h;have oU:=OY h i
 have qJ:kW (nL bz) i=match pw i bz with|some z=>(match z.rs.map Rf.f with|[]=>false|f::l=>(f::l).all (ta (nL bz) f.s.fr))|none=>false:=by
  unfold kW;rw[uX];cases pw i bz<;>rfl
 cases WC:pw i bz with
 |none=>
  rw[WC] at oU qJ;rw[qJ] at k;simp only[hmo,oU,AJ,reduceIte,Nat.reduceEqDiff];exact k H h
 |some z=>
  rw[WC] at oU qJ;obtain⟨b2,nf⟩:=uW WC;have hz:=hbz _ nf;simp only[hmo,oU,AJ,reduceIte,Nat.reduceEqDiff];dsimp only at qJ
  cases SS:z.rs with
  |nil=>
   rw[SS] at qJ;rw[qJ] at k;simp only[AJ,reduceIte,Nat.reduceEqDiff];exact k H h
  |cons r l=>
   have aaz:kW (nL bz) i=(z.rs.map Rf.f).all (ta (nL bz) r.f.s.fr):=by
    rw[qJ,SS];rfl
   obtain⟨hrz,hdz⟩:=uY (h.ord [1]) hz;obtain⟨s1,s2,s3⟩:=jT hrz (wi z.rs).py (i:=0) (k:=6) (by rw[SS];simp) (by decide)
   have Jc:H.cell (pb z.q) (po z.q+2+4)=.int .i64 ((r.f.s.fr:Int)-1):=by
    have:po z.q+0*List.length pn+6=po z.q+2+4:=by omega
    rw[this] at s3;rw[s3];simp only[SS,List.map_cons,List.getElem_cons_zero];rfl
   have s2':H.inb (pb z.q) (po z.q+2+4) 1=true:=by
    have:po z.q+0*List.length pn+6=po z.q+2+4:=by omega
    rw[this] at s2;exact s2
   have a1:¬(((l.length+1:Nat)):Int)=0:=by omega
   have a2:0<(((l.length+1:Nat)):Int):=by omega
   simp only[List.length_cons,a1,a2,decide_false,decide_true,ai,s1,s2',Jc,AJ,reduceIte,Nat.reduceEqDiff];have hlen:z.rs.length=l.length+1:=by rw[SS];rfl
   have:=Ti (mid:=mid) (c:=c) (L:=L) (B:=B) (Kr:=fun S'=>ah (aB (KT.k .bool) (S'.1 4)) (K (V.bool (V.an (T.val (S'.1 4)))) S'.3)) (Ke:=fun j S'=>br (decide (j=0)) (K (V.bool true) S'.3) False) hbz hl (z:=z) hz r.f.s.fr (fun H' h' e=> ?_) (fun H' h' e=> ?_) z.rs.length 0 (Nat.zero_add _) (by simp) h
   ·rw[hlen] at this;exact this
   ·simp only[AJ,reduceIte,Nat.reduceEqDiff];rw[aaz,e] at k;exact k H' h'
   ·simp only[AJ,reduceIte,Nat.reduceEqDiff];rw[aaz,e] at k;exact k H' h'
end
abbrev Pl:=Oq
structure Pm where
 cd:List Pl
 nb:Nat
def vB (b:Nat):Pl→Bool
 |some x=>decide (x.1=b)
 |none=>false
def Pm.ef (m:Pm) (b:Nat):Nat:=m.cd.countP (vB b)
def Pm.hY (m:Pm):List Int:=(List.range m.nb).map fun b=>(m.ef b:Int)
structure Pm.ok (m:Pm):Prop where
 pl:∀b p,some (b,p)∈m.cd→b<m.nb∧p<32
 n:m.cd.length≤65536
 nb:m.nb≤64
def wk:Pl→List V
 |some x=>jh x.1 x.2
 |none=>jh 0 0
def xG (o:Pl):List V:=[.bool o.isSome]
structure Pq where
 q1:Oq
 c1:Nat
 q2:Oq
 c2:Nat
 q3:Oq
 c3:Nat
def Ho (m:Pm) (x:Pq):List V:=Bl x.q1 m.cd.length x.c1 x.q2 m.cd.length x.c2 x.q3 m.nb x.c3
def uZ (id:Nat) (m:Pm):cA:=EX fun x:Pq=>bw [dj id 175 (Ho m x),Rw 128 2 x.q1 x.c1 (m.cd.map wk),Rw 4 1 x.q2 x.c2 (m.cd.map xG),IR x.q3 x.c3 m.hY]
section
variable {B:ag} {L:List cA} {H:ag} {K:V→ag→Prop} {id:Nat} {m:Pm} {x:Pq}
abbrev B6 (B H:ag) (id:Nat) (m:Pm) (x:Pq) (L:List cA):Prop:=az B H (dj id 175 (Ho m x)::Rw 128 2 x.q1 x.c1 (m.cd.map wk)::Rw 4 1 x.q2 x.c2 (m.cd.map xG)::IR x.q3 x.c3 m.hY::L)
theorem B6.of (h:az B H (uZ id m::L)):∃x,B6 B H id m x L:=by
 obtain⟨x,h⟩:=h.M6;exact⟨x,h.LD⟩
theorem B6.to (h:B6 B H id m x L):az B H (uZ id m::L):=by
 have h2:az B H (bw [dj id 175 (Ho m x),Rw 128 2 x.q1 x.c1 (m.cd.map wk),Rw 4 1 x.q2 x.c2 (m.cd.map xG),IR x.q3 x.c3 m.hY]::L):=az.sV h;exact az.intro h2
theorem D3 (l:List Pl):Rx Ih (l.map wk):=by
 intro c hc;obtain⟨r,_,rfl⟩:=List.mem_map.1 hc;cases r<;>rfl
theorem Gb (l:List Pl):Rx [.bool] (l.map xG):=by
 intro c hc;obtain⟨r,_,rfl⟩:=List.mem_map.1 hc;rfl
@[simp] theorem qu (m:Pm):m.hY.length=m.nb:=by simp [Pm.hY]
structure PmG (H:ag) (id:Nat) (m:Pm) (x:Pq):Prop where
 i0:H.inb id 0 1=true
 i1:H.inb id 1 1=true
 i2:H.inb id 2 1=true
 c0:H.cell id 0=.slice x.q1 m.cd.length x.c1
 c1:H.cell id 1=.slice x.q2 m.cd.length x.c2
 c2:H.cell id 2=.slice x.q3 m.nb x.c3
 a0:∀(a:Nat) (ha:a<m.cd.length),x.q1.isSome=true∧H.inb (pb x.q1) (po x.q1+a*2) 2=true∧H.sub (pb x.q1) (po x.q1+a*2) 2=wk (m.cd[a])∧
  H.inb (pb x.q1) (po x.q1+a*2) 1=true∧H.cell (pb x.q1) (po x.q1+a*2)=ae (wk (m.cd[a])) 0
 a1:∀(a:Nat) (ha:a<m.cd.length),x.q2.isSome=true∧H.inb (pb x.q2) (po x.q2+a*1) 1=true∧H.cell (pb x.q2) (po x.q2+a*1)=.bool (m.cd[a]).isSome
 a2:∀(b:Nat) (hb:b<m.nb),x.q3.isSome=true∧H.inb (pb x.q3) (po x.q3+b*1) 1=true∧H.cell (pb x.q3) (po x.q3+b*1)=.int .i64 (m.ef b:Int)
theorem VN (h:B6 B H id m x L):PmG H id m x:=by
 have hg:=h.get;have hl:(Ho m x).length=3:=rfl;have h1:=(h.ord [1]).lQ;have h2:=(h.ord [2]).lQ;have h3:=az.uL (h.ord [3]);refine⟨nG hg (by omega),nG hg (by omega),nG hg (by omega),aY hg 0,aY hg 1,aY hg 2,fun a ha=> ?_,fun a ha=> ?_,fun b hb=> ?_⟩
 ·have ha':a<(m.cd.map wk).length:=by simpa using ha
  obtain⟨s1,s2,s3⟩:=jT h1 (D3 _).py (i:=a) (k:=0) ha' (by decide);obtain⟨t1,t2,t3⟩:=xh h1 (D3 _).py (by decide) ha';refine⟨s1,t2, ?_,s2, ?_⟩
  ·have:=t3;rw[List.getElem_map] at this;exact this
  ·rw[List.getElem_map] at s3;exact s3
 ·have ha':a<(m.cd.map xG).length:=by simpa using ha
  obtain⟨s1,s2,s3⟩:=jT h2 (Gb _).py (i:=a) (k:=0) ha' (by decide);rw[List.getElem_map] at s3;exact⟨s1,s2,s3⟩
 ·obtain⟨s1,s2,s3⟩:=h3.at (i:=b) (by simpa using hb);refine⟨s1,s2, ?_⟩;rw[s3];simp [Pm.hY]
end
def Pm.put (m:Pm) (a:Nat) (o:Pl):Pm:={m with cd:=m.cd.set a o}
def Pm.new (n nb:Nat):Pm:=⟨List.replicate n none,nb⟩
theorem Gc {m m':Pm} (hn:m'.nb=m.nb) {b0:Nat} {v:Int} (h0:(m'.ef b0:Int)=v) (h:∀b,b≠b0→m'.ef b=m.ef b):m'.hY=m.hY.set b0 v:=by
 apply List.ext_getElem
 ·simp [hn]
 ·intro i h1 h2;rw[List.getElem_set];simp only[Pm.hY,List.getElem_map,List.getElem_range];by_cases hb:b0=i
  ·subst hb;rw[if_pos rfl];exact h0
  ·rw[if_neg hb,h i (fun e=>hb e.symm)]
theorem xW (m:Pm) {a:Nat} (ha:a<m.cd.length) (o:Pl) (b:Nat):(m.put a o).ef b+(if vB b m.cd[a]=true then 1 else 0)=m.ef b+(if vB b o=true then 1 else 0):=by
 unfold Pm.ef Pm.put;rw[List.countP_set ha];have:vB b m.cd[a]=true→0<m.cd.countP (vB b):=fun h=>List.countP_pos_iff.2 ⟨_,List.getElem_mem ha,h⟩
 split<;>rename_i h1
 ·have:=this h1;omega
 ·omega
theorem Iw (m:Pm) {a:Nat} (ha:a<m.cd.length) (h:m.cd[a]=none):m.put a none=m:=by
 unfold Pm.put;have:m.cd.set a none=m.cd:=by rw[←h];exact List.set_getElem_self ha
 rw[this]
theorem LK (m:Pm) {a b p:Nat} (ha:a<m.cd.length) (h:m.cd[a]=some (b,p)):(m.put a none).hY=m.hY.set b ((m.ef b:Int)-1):=by
 refine Gc (m:=m) (m':=m.put a none) rfl ?_ (fun b' hb=> ?_)
 ·have:=xW m ha none b;rw[h] at this;simp [vB] at this;omega
 ·have:=xW m ha none b';rw[h] at this;have hb':¬b=b':=fun e=>hb e.symm
  simp [vB,hb'] at this;omega
theorem OZ (m:Pm) {a b p:Nat} (ha:a<m.cd.length) (h:m.cd[a]=none):(m.put a (some (b,p))).hY=m.hY.set b ((m.ef b:Int)+1):=by
 refine Gc (m:=m) (m':=m.put a (some (b,p))) rfl ?_ (fun b' hb=> ?_)
 ·have:=xW m ha (some (b,p)) b;rw[h] at this;simp [vB] at this;omega
 ·have:=xW m ha (some (b,p)) b';rw[h] at this;have hb':¬b=b':=fun e=>hb e.symm
  simp [vB,hb'] at this;omega
theorem O0 (m:Pm) (b:Nat):m.ef b≤m.cd.length:=List.countP_le_length
theorem Pm.ok.put {m:Pm} (h:m.ok) {a:Nat} {o:Pl} (ho:∀b p,o=some (b,p)→b<m.nb∧p<32):(m.put a o).ok:=by
 refine⟨fun b p hm=> ?_,by unfold Pm.put;rw[List.length_set];exact h.n,h.nb⟩;rcases List.mem_or_eq_of_mem_set hm with hm|hm
 ·exact h.pl b p hm
 ·exact ho b p hm.symm
section
variable {B:ag} {L:List cA} {H:ag} {K:V→ag→Prop} {id:Nat} {m:Pm} {x:Pq}
theorem az.Tj {q:Oq} {c:Nat} {l:List Int} (h:az B H (IR q c l::L)) {i:Nat} (hi:i<l.length) (v:Int):H.wr (pb q) (po q+i*1) 1=true∧az B (H.store (pb q) (po q+i*1) [.int .i64 v]) (IR q c (l.set i v)::L):=by
 have hu:pq 1 (l.map fun i=>[V.int .i64 i]):=by
  intro c hc;obtain⟨r,_,rfl⟩:=List.mem_map.1 hc;exact⟨rfl,fun v hv=>by rw[List.mem_singleton] at hv;subst hv;rfl⟩
 have h1:=h.DV hu (i:=i) (k:=0) (by simpa using hi) (by omega) (v:=.int .i64 v) rfl;refine⟨h1.1, ?_⟩;have h2:=h1.2;unfold IR;rw[List.map_set];rw[List.getElem_map] at h2;exact h2
theorem O1 {q:Oq} {c:Nat} {l:List Pl} (h:az B H (Rw 4 1 q c (l.map xG)::L)) {i:Nat} (hi:i<l.length) (o:Pl):H.wr (pb q) (po q+i*1) 1=true∧az B (H.store (pb q) (po q+i*1) [.bool o.isSome]) (Rw 4 1 q c ((l.set i o).map xG)::L):=by
 have h1:=h.DV (Gb l).py (i:=i) (k:=0) (by simpa using hi) (by decide) (v:=.bool o.isSome) rfl;refine⟨h1.1, ?_⟩;have h2:=h1.2;rw[List.map_set];rw[List.getElem_map] at h2;exact h2
theorem Tk {q:Oq} {c:Nat} {l:List Pl} (h:az B H (Rw 128 2 q c (l.map wk)::L)) {i:Nat} (hi:i<l.length) (o:Pl):H.wr (pb q) (po q+i*2) 2=true∧az B (H.store (pb q) (po q+i*2) (wk o)) (Rw 128 2 q c ((l.set i o).map wk)::L):=by
 have h1:=h.JM (D3 l).py (i:=i) (by simpa using hi) (c:=wk o) (by cases o<;>rfl) (fun v hv=>by cases o<;>simp only[wk,jh,List.mem_cons,List.not_mem_nil,or_false] at hv<;>rcases hv with rfl|rfl<;>rfl);refine⟨h1.1, ?_⟩;have h2:=h1.2;rw[List.map_set];exact h2
theorem B6.acy (h:B6 B H id m x L) {a:Nat} (ha:a<m.cd.length) (o:Pl):H.wr (pb x.q1) (po x.q1+a*2) 2=true∧(H.store (pb x.q1) (po x.q1+a*2) (wk o)).wr (pb x.q2) (po x.q2+a*1) 1=true∧az B ((H.store (pb x.q1) (po x.q1+a*2) (wk o)).store (pb x.q2) (po x.q2+a*1) [.bool o.isSome]) (dj id 175 (Ho m x)::Rw 128 2 x.q1 x.c1 ((m.put a o).cd.map wk)::Rw 4 1 x.q2 x.c2 ((m.put a o).cd.map xG)::IR x.q3 x.c3 m.hY::L):=by
 obtain⟨w1,h1⟩:=Tk (h.ord [1]) ha o;obtain⟨w2,h2⟩:=O1 (h1.ord [2]) ha o;exact⟨w1,w2,h2.ord [2,1]⟩
theorem O2 (h:az B H (uZ id m::L)) {a:Nat} (ha:a<m.cd.length):¬(a:Int)<0∧0≤(a:Int)∧¬(a:Int)≥(m.cd.length:Int)∧(a:Int)<(m.cd.length:Int):=by
 refine⟨?_, ?_, ?_, ?_⟩<;>omega
theorem O3 (h:az B H (uZ id m::L)) (hok:m.ok) {a:Nat} (ha:a<m.cd.length) (k:∀H',az B H' (uZ id (m.put a none)::L)→K (.int .i64 0) H'):cl 124 [.aj (some (id,0)),.int .i64 (a:Int)] H K:=by
 obtain⟨n1,n2,n3,n4⟩:=O2 h ha;obtain⟨x,hx⟩:=B6.of h;have g:=VN hx;obtain⟨s1,i1,c1⟩:=g.a1 a ha;obtain⟨s0,_,_,i0,c0⟩:=g.a0 a ha;rw[Zg];simp only[AJ,reduceIte,Nat.reduceEqDiff,Option.isNone_some,Option.isSome_some,aN,ite_self,n1,n2,n3,n4,g.i0,g.i1,g.i2,g.c0,g.c1,g.c2,Nat.zero_add,Int.toNat_natCast,s1,i1,c1,cond_true]
 have fin:∀{H1:ag},az B H1 (dj id 175 (Ho m x)::Rw 128 2 x.q1 x.c1 (m.cd.map wk)::Rw 4 1 x.q2 x.c2 (m.cd.map xG)::IR x.q3 x.c3 (m.put a none).hY::L)→
  H1.inb id 0 1=true∧H1.inb id 1 1=true∧H1.cell id 0=.slice x.q1 m.cd.length x.c1∧H1.cell id 1=.slice x.q2 m.cd.length x.c2∧H1.wr (pb x.q1) (po x.q1+a*2) 2=true∧
  (H1.store (pb x.q1) (po x.q1+a*2) (jh 0 0)).wr (pb x.q2) (po x.q2+a*1) 1=true∧
  K (.int .i64 0) ((H1.store (pb x.q1) (po x.q1+a*2) (jh 0 0)).store (pb x.q2) (po x.q2+a*1) [.bool false]):=by
  intro H1 h1;have hg:=h1.get;have hl:(Ho m x).length=3:=rfl;obtain⟨w1,h2⟩:=Tk (h1.ord [1]) ha none;obtain⟨w2,h3⟩:=O1 (h2.ord [2]) ha none;have h4:=h3.ord [2,1];refine⟨nG hg (by omega),nG hg (by omega),aY hg 0,aY hg 1,w1,w2,k _ (B6.to (x:=x) ?_)⟩;have e:Ho (m.put a none) x=Ho m x:=by unfold Ho Pm.put;simp only[List.length_set]
  unfold B6;rw[e];exact h4
 cases ho:m.cd[a] with
 |none=>
  rw[ho] at c1;have e:(m.put a none).hY=m.hY:=by rw[Iw m ha ho]
  obtain⟨_,_,_,_,w1,w2,kk⟩:=fin (by rw[e];exact hx);simp only[Option.isSome_none,ai,s0,w1,w2,av];exact kk
 |some o=>
  obtain⟨b,p⟩:=o;have hbp:=hok.pl b p (by rw[←ho];exact List.getElem_mem ha);obtain⟨s2,i2,c2⟩:=g.a2 b hbp.1;rw[ho] at c0;have hc0:H.cell (pb x.q1) (po x.q1+a*2)=.int .i64 (b:Int):=c0;have b1:0≤(b:Int):=by omega
  have b2:(b:Int)<(m.nb:Int):=by omega
  have hle:=O0 m b;have hn:=hok.n;obtain⟨w,h1⟩:=az.Tj (hx.ord [3]) (i:=b) (by simpa using hbp.1) ((m.ef b:Int)-1);simp only[Option.isSome_some,ak,s0,i0,hc0,AJ,reduceIte,Nat.reduceEqDiff,b1,b2,s2,i2,c2,Int.toNat_natCast];rw[bq (by omega) (by omega)];obtain⟨j0,j1,d0,d1,w1,w2,kk⟩:=fin (by rw[LK m ha ho];exact h1.ord [1,1,1]);simp only[w,j0,j1,d0,d1,n4,s0,s1,w1,w2,AJ,reduceIte,Nat.reduceEqDiff];exact kk
theorem J4 (h:az B H (uZ id m::L)) (hok:m.ok) {a b p:Nat} (ha:a<m.cd.length) (hb:b<m.nb) (hp:p<32) (k:∀H',az B H' (uZ id (m.put a (some (b,p)))::L)→K (.int .i64 0) H'):cl 100 [.aj (some (id,0)),.int .i64 (a:Int),.agg (jh (b:Int) (p:Int))] H K:=by
 obtain⟨n1,n2,n3,n4⟩:=O2 h ha;obtain⟨x0,hx0⟩:=B6.of h;have g:=VN hx0;rw[Y5];have m1:¬(b:Int)<0:=by omega
 have m2:¬(b:Int)≥(m.nb:Int):=by omega
 have m3:¬(p:Int)<0:=by omega
 have m4:¬(p:Int)≥32:=by omega
 have m5:0≤(b:Int):=by omega
 have m6:(b:Int)<(m.nb:Int):=by omega
 simp only[AJ,reduceIte,Nat.reduceEqDiff,Option.isNone_some,Option.isSome_some,aN,ite_self,n1,n2,n3,n4,m1,m2,m3,m4,g.i0,g.i2,g.c0,g.c2,Nat.zero_add,Int.toNat_natCast,cond_true,if_true];refine O3 h hok ha (fun H1 h1=> ?_);obtain⟨x,hx⟩:=B6.of h1;have MX:a<(m.put a none).cd.length:=by unfold Pm.put;rw[List.length_set];exact ha
 have TO:(m.put a none).cd.length=m.cd.length:=by unfold Pm.put;rw[List.length_set]
 have hnone:(m.put a none).cd[a]=none:=by unfold Pm.put;exact List.getElem_set_self MX
 have g1:=VN hx;obtain⟨s1,_,_⟩:=g1.a1 a MX;obtain⟨s0,_⟩:=g1.a0 a MX;obtain⟨w1,w2,h2⟩:=hx.acy MX (some (b,p));have w1':H1.wr (pb x.q1) (po x.q1+a*2) 2=true:=w1;have w2':(H1.store (pb x.q1) (po x.q1+a*2) (jh (b:Int) (p:Int))).wr (pb x.q2) (po x.q2+a*1) 1=true:=w2;have Bw:az B ((H1.store (pb x.q1) (po x.q1+a*2) (jh (b:Int) (p:Int))).store (pb x.q2) (po x.q2+a*1) [.bool true]) _:=h2;have c0:=g1.c0;have c1:=g1.c1;rw[TO] at c0 c1;simp only[AJ,reduceIte,Nat.reduceEqDiff,g1.i0,g1.i1,c0,c1,n2,n4,s0,s1,w1',w2'];generalize (ag.store _ _ _ _)=H2 at Bw⊢;have hg:=Bw.get;have hl:(Ho (m.put a none) x).length=3:=rfl;have j2:H2.inb id 2 1=true:=nG hg (by omega);have d2:H2.cell id 2=.slice x.q3 m.nb x.c3:=aY hg 2;obtain⟨s3,i3,c3⟩:=(az.uL (Bw.ord [3])).at (i:=b) (by rw[qu];exact hb);have ec:(m.put a none).hY[b]'(by rw[qu];exact hb)=((m.put a none).ef b:Int):=by simp [Pm.hY]
 rw[ec] at c3;have hle:=O0 (m.put a none) b;have hn:=hok.n;obtain⟨w3,h3⟩:=az.Tj (Bw.ord [3]) (i:=b) (by rw[qu];exact hb) (((m.put a none).ef b:Int)+1);simp only[j2,d2,AJ,reduceIte,Nat.reduceEqDiff,m5,m6,s3,i3,c3];rw[bq (by omega) (by omega)];simp only[w3,av];refine k _ (B6.to (x:=x) ?_);have ep:(m.put a none).put a (some (b,p))=m.put a (some (b,p)):=by unfold Pm.put;simp only[List.set_set]
 rw[←OZ (m.put a none) MX hnone (p:=p),ep] at h3;have e:Ho (m.put a (some (b,p))) x=Ho (m.put a none) x:=by unfold Ho Pm.put;simp only[List.length_set]
 unfold B6;rw[e];exact h3.ord [1,1,1]
theorem J5 (h:az B H (uZ id m::L)) {a:Nat} (ha:a<m.cd.length):cl 105 [.aj (some (id,0)),.int .i64 (a:Int)] H K=K (.tuple [.agg (wk m.cd[a]),.bool (m.cd[a]).isSome]) H:=by
 obtain⟨n1,n2,n3,n4⟩:=O2 h ha;obtain⟨x,hx⟩:=B6.of h;have g:=VN hx;obtain⟨s1,i1,c1⟩:=g.a1 a ha;obtain⟨s0,i0,c0,_,_⟩:=g.a0 a ha;simp only[oV,oW] at i1 c1;rw[Za];simp only[AJ,reduceIte,Nat.reduceEqDiff,Option.isNone_some,Option.isSome_some,aN,ite_self,n1,n2,n3,n4,g.i0,g.i1,g.c0,g.c1,Nat.zero_add,Int.toNat_natCast,s1,i1,c1,cond_true,if_true,s0,i0,c0]
 cases ho:m.cd[a] with
 |none=>simp only[Option.isSome_none,Bool.not_false,ak];rfl
 |some o=>obtain⟨b,p⟩:=o;simp only[Option.isSome_some,Bool.not_true,ai,wk,f127,BU,vV,vW,Bool.and_self,av]
theorem nM (h:az B H (uZ id m::L)) {b:Nat} (hb:b<m.nb):cl 65 [.aj (some (id,0)),.int .i64 (b:Int)] H K=K (.int .i64 (m.ef b:Int)) H:=by
 obtain⟨x,hx⟩:=B6.of h;have g:=VN hx;obtain⟨s2,i2,c2⟩:=g.a2 b hb;have m1:¬(b:Int)<0:=by omega
 have m2:¬(b:Int)≥(m.nb:Int):=by omega
 have m5:0≤(b:Int):=by omega
 have m6:(b:Int)<(m.nb:Int):=by omega
 rw[abE];simp only[AJ,reduceIte,Nat.reduceEqDiff,Option.isNone_some,Option.isSome_some,aN,ite_self,m1,m2,m5,m6,g.i2,g.c2,Nat.zero_add,Int.toNat_natCast,s2,i2,c2,cond_true,if_true]
end
def tc (f:Nat→Int):List V:=vY (f 0) (f 1) (f 2) (f 3) (f 4) (f 5) (f 6) (f 7) (f 8) (f 9) (f 10) (f 11) (f 12) (f 13) (f 14) (f 15) (f 16) (f 17) (f 18) (f 19) (f 20) (f 21) (f 22) (f 23) (f 24) (f 25) (f 26) (f 27) (f 28) (f 29) (f 30) (f 31)
theorem RF (f:Nat→Int):tc f=(List.range 32).map fun k=>.int .i64 (f k):=rfl
theorem O4 (f:Nat→Int) {i:Nat} (hi:i<32):ae (tc f) i=.int .i64 (f i):=by
 rw[RF,lf];simp [List.getD_eq_getElem?_getD,List.getElem?_range,hi]
def D4 (f:Nat→Int) (n:Nat) (v:Int):Nat→Int:=fun k=>bif Nat.beq k n then v else f k
def EZ (b:Nat):List Pl→Nat→(Nat→Int)→Nat→Int
 |[],_,f=>f
 |some x::l,i,f=>EZ b l (i+1) (if x.1=b then D4 f x.2 ((i+1:Nat):Int) else f)
 |none::l,i,f=>EZ b l (i+1) f
def Pm.by (m:Pm) (b:Nat):Nat→Int:=EZ b m.cd 0 fun _=>0
def M8 (f:Nat→Int) (i:Nat):List Int:=((List.range 32).drop i).filterMap fun p=>if f p>0 then some (f p-1) else none
def Pm.on (m:Pm) (b:Nat):List Int:=if m.ef b=0 then [] else M8 (m.by b) 0
theorem RG (f:Nat→Int):M8 f 32=[]:=rfl
theorem O5 (f:Nat→Int) {i:Nat} (h:i<32):M8 f i=if f i>0 then (f i-1)::M8 f (i+1) else M8 f (i+1):=by
 unfold M8;rw[List.drop_eq_getElem_cons (by simpa using h),List.filterMap_cons,List.getElem_range];by_cases hf:f i>0<;>simp [hf]
theorem rj (b:Nat):∀(l:List Pl) (i N:Nat) (f:Nat→Int),i+l.length≤N→(∀k,0≤f k∧f k≤N)→∀k,0≤EZ b l i f k∧EZ b l i f k≤N
 |[],i,N,f,h,hf,k=>hf k
 |none::l,i,N,f,h,hf,k=>rj b l (i+1) N f (by simp at h;omega) hf k
 |some x::l,i,N,f,h,hf,k=>by
  rw[EZ];refine rj b l (i+1) N _ (by simp at h;omega) (fun k=> ?_) k;split
  ·unfold D4;have h':i+(l.length+1)≤N:=h;cases Nat.beq k x.2
   ·exact hf k
   ·simp only[cond_true];omega
  ·exact hf k
section
variable {B:ag} {L:List cA} {H:ag} {K:V→ag→Prop} {id:Nat} {m:Pm} {x:Pq}
theorem Ix (hx:B6 B H id m x L) (hok:m.ok) (b:Nat) {Kr:Am.St→Prop} {Ke:Nat→Am.St→Prop}:∀(k i:Nat) (f:Nat→Int),i+k=m.cd.length→Ke 0 (St.mk (ab [(5,T.lp 5 0)]) (ab [(5,aO.cells 177 (tc (EZ b (m.cd.drop i) i f)))]) H)→lo 67 6 (St.mk (ab [(0,T.v (V.aj (some (id,0)))),(1,T.v (V.int .i64 (b:Int))),(5,T.lp 5 0),(40,T.v (V.slice x.q1 m.cd.length x.c1)),(41,T.v (V.int .i64 (m.cd.length:Int))),(42,T.v (V.int .i64 (i:Int)))]) (ab [(5,aO.cells 177 (tc f))]) H) Kr Ke
 |0,i,f,hi,hk=>by
  obtain rfl:i=m.cd.length:=by omega
  rw[List.drop_length] at hk;unfold tc;rw[DP,decide_eq_false (by omega),ai];exact hk
 |k+1,i,f,hi,hk=>by
  have hlt:i<m.cd.length:=by omega
  have g:=VN hx;obtain⟨s0,i0,c0,_⟩:=g.a0 i hlt;obtain⟨s1,i1,c1⟩:=g.a1 i hlt;have a1:(i:Int)<(m.cd.length:Int):=by omega
  have a2:0≤(i:Int):=by omega
  have hn:=hok.n;rw[List.drop_eq_getElem_cons hlt] at hk
  cases ho:m.cd[i] with
  |none=>
   rw[ho] at c0 c1;rw[ho,EZ] at hk;have ih:=Ix hx hok b k (i+1) f (by omega) hk (Kr:=Kr);unfold tc at ih⊢;rw[DP];simp only[AJ,reduceIte,Nat.reduceEqDiff,a1,a2,Int.toNat_natCast,s0,i0,c0,s1,i1,c1,g.i1,g.c1,Nat.zero_add,Option.isSome_some,Option.isSome_none,wk,f127,BU,vV,vW,Bool.false_and];rw[aL (by omega)];exact ih
  |some o=>
   obtain⟨b',p⟩:=o;obtain⟨hb',hp⟩:=hok.pl b' p (by rw[←ho];exact List.getElem_mem hlt);rw[ho] at c0 c1;rw[ho,EZ] at hk;have ih:=Ix hx hok b k (i+1) _ (by omega) hk (Kr:=Kr);by_cases Bv:b'=b
   ·subst Bv;rw[if_pos rfl] at ih;have p1:0≤(p:Int):=by omega
    have p2:(p:Int)<32:=by omega
    have p3:p*1+1≤32:=by omega
    unfold tc D4 at ih;unfold tc;rw[DP];simp only[oX,C0,C1,Option.getD_some,eu,ak,ai,av,iE,lL,reduceIte,reduceCtorEq,TV,mZ,p8,uG,vU,ix,dA,fJ,p9,dY,cI,dW,aZ,bR,fV,jB,bD,aT,cq,cL,ey,jS,re,bT,dm,List.length_cons,List.length_nil,Bool.and_true,Bool.true_and,Bool.or_false,Bool.false_or,Bool.and_self,decide_true,decide_false,Bool.not_true,Bool.not_false,ij,mB,Nat.reduceAdd,Nat.reduceEqDiff,Nat.reduceEqDiff, -ij,a1,a2,Int.toNat_natCast,s0,i0,c0,s1,i1,c1,g.i1,g.c1,Nat.zero_add,Option.isSome_some,wk,f127,BU,vV,vW,p1,p2,p3];rw[aL (by omega)];simp only[Nat.mul_one];exact ih
   ·rw[if_neg Bv] at ih;have acV:¬(b':Int)=(b:Int):=by omega
    unfold tc at ih⊢;rw[DP];simp only[AJ,reduceIte,Nat.reduceEqDiff,a1,a2,Int.toNat_natCast,s0,i0,c0,s1,i1,c1,g.i1,g.c1,Nat.zero_add,Option.isSome_some,wk,f127,BU,vV,vW,acV,Bool.and_false];rw[aL (by omega)];exact ih
theorem Iy (f:Nat→Int) (hf:∀k,0≤f k∧f k≤65536) {Kr:Am.St→Prop} {Ke:Nat→Am.St→Prop}:∀(k i:Nat) (out:List Int) {q:Oq} {c:Nat} {H:ag},i+k=32→out.length≤i→az B H (IR q c out::L)→(∀q' c' H',az B H' (IR q' c' (out++M8 f i)::L)→Ke 2 (St.mk (ab [(8,T.v (V.slice q' (out++M8 f i).length c'))]) (ab []) H'))→lo 67 16 (St.mk (ab [(8,T.v (V.slice q out.length c)),(66,T.v (V.agg (tc f))),(67,T.v (V.int .i64 (i:Int)))]) (ab []) H) Kr Ke
 |0,i,out,q,c,H,hi,ho,h,hk=>by
  obtain rfl:i=32:=by omega
  have:=hk q c H;rw[RG,List.append_nil] at this;unfold tc;rw[Jt];exact this h
 |k+1,i,out,q,c,H,hi,ho,h,hk=>by
  have hlt:i<32:=by omega
  have a1:(i:Int)<32:=by omega
  have a2:0≤(i:Int):=by omega
  have a3:Nat.succ i≤32:=by omega
  have hn:=O4 f hlt;unfold tc at hn;have hs:=O5 f hlt;unfold tc;rw[Jt];simp only[AJ,reduceIte,Nat.reduceEqDiff,a1,a2,Int.toNat_natCast,Nat.mul_one,hn,a3];have SG:=hf i;by_cases hp:f i>0
  ·rw[if_pos hp] at hs;rw[hs] at hk;simp only[hp,decide_true,ak];rw[bq (by omega) (by omega),aL (by omega)];refine az.zA h (f i-1) (by omega) (fun q' c' H' h'=> ?_);refine Iy f hf k (i+1) (out++[f i-1]) (by omega) (by simp;omega) h' (fun q2 c2 H2 h2=> ?_);have:=hk q2 c2 H2;rw[List.append_cons] at this;exact this h2
  ·rw[if_neg hp] at hs;rw[hs] at hk;simp only[hp,decide_false,ai];rw[aL (by omega)];exact Iy f hf k (i+1) out (by omega) (by omega) h hk
theorem O6 (h:az B H (uZ id m::L)) (hok:m.ok) {b:Nat} (hb:b<m.nb) (k:∀q c H',az B H' (IR q c (m.on b)::uZ id m::L)→K (.slice q (m.on b).length c) H'):cl 67 [.aj (some (id,0)),.int .i64 (b:Int)] H K:=by
 obtain⟨x,hx⟩:=B6.of h;have g:=VN hx;obtain⟨s2,i2,c2⟩:=g.a2 b hb;have m1:¬(b:Int)<0:=by omega
 have m2:¬(b:Int)≥(m.nb:Int):=by omega
 have m5:0≤(b:Int):=by omega
 have m6:(b:Int)<(m.nb:Int):=by omega
 have i2':=i2;have c2':=c2;simp only[oV,oW] at i2' c2';rw[abG];simp only[AJ,reduceIte,Nat.reduceEqDiff,Option.isNone_some,Option.isSome_some,aN,ite_self,m1,m2,m5,m6,g.i0,g.i2,g.c0,g.c2,Nat.zero_add,Int.toNat_natCast,s2,i2',c2',cond_true,if_true];unfold Pm.on at k;by_cases hc:m.ef b=0
 ·rw[if_pos hc] at k;have tF:(m.ef b:Int)=0:=by omega
  simp only[tF,decide_true,ak];exact k none 0 H (az.uN h)
 ·rw[if_neg hc] at k;have tF:¬(m.ef b:Int)=0:=by omega
  simp only[tF,decide_false,ai];refine Ix hx hok b m.cd.length 0 (fun _=>0) (by omega) ?_;rw[List.drop_zero];have aaA:aI XG (tc (EZ b m.cd 0 fun _=>0))=true:=rfl;simp only[AJ,reduceIte,Nat.reduceEqDiff,aaA];show lo _ _ (St.mk (ab [(8,T.v (V.slice none 0 0)),(66,T.v (V.agg (tc (m.by b)))),(67,T.v (V.int .i64 0))]) (ab []) H) _ _
  refine Iy (m.by b) (fun k=> ?_) 32 0 [] (by omega) (by simp) (az.uN h) (fun q' c' H' h'=> ?_)
  ·have hn:=hok.n;have:=rj b m.cd 0 m.cd.length (fun _=>0) (by omega) (fun k=>by omega) k;exact⟨this.1,Int.le_trans this.2 (by omega)⟩
  ·simp only[AJ,reduceIte,Nat.reduceEqDiff];exact k q' c' H' h'
end
theorem Tl (l:List V):∀n:Nat,(List.replicate n l).flatten=dU n l
 |0=>rfl
 |n+1=>by
  rw[List.replicate_succ,List.flatten_cons,Tl l n];rfl
section
variable {B:ag} {L:List cA} {H:ag} {K:V→ag→Prop} {id:Nat} {m:Pm} {x:Pq}
theorem az.Iz (h:az B H L) {el n:Nat} {c:List V} (hc:c.length=n) (h1:bf c) (N:Nat):az B (H.alloc (.cells el (dU N c) false)) (Rw el n (some (H.next,0)) N (List.replicate N c)::L):=by
 have hlen:(dU N c).length=N*n:=by rw[dU,gg,hc]
 unfold Rw;rw[Tl,List.length_replicate];exact(h.alloc _ _).unbuf hlen (gE h1 _) (by omega) (by rw[hlen];omega) (by rw[List.drop_zero,List.take_length])
theorem O7 (n nb:Nat):(Pm.new n nb).hY=List.replicate nb 0:=by
 apply List.ext_getElem
 ·simp [Pm.new]
 ·intro i h1 h2;simp [Pm.hY,Pm.ef,Pm.new,List.countP_replicate,vB]
theorem RH (h:az B H L) {n nb:Nat} (hn:1≤n∧n≤65536) (hb:1≤nb∧nb≤64) (k:∀id H',az B H' (uZ id (Pm.new n nb)::L)→K (.tuple [.aj (some (id,0)),.int .i64 0]) H'):cl 97 [.int .i64 (n:Int),.int .i64 (nb:Int)] H K:=by
 rw[abT];have b1:¬(n:Int)<1:=by omega
 have b2:¬(n:Int)>65536:=by omega
 have b3:¬(nb:Int)<1:=by omega
 have b4:¬(nb:Int)>64:=by omega
 have b5:0≤(n:Int):=by omega
 have b6:0≤(nb:Int):=by omega
 have b7:(n:Int)≤(n:Int):=by omega
 have b8:(nb:Int)≤(nb:Int):=by omega
 have b9:(n:Int)*17≤70368744177664:=by omega
 have b10:(n:Int)*2≤70368744177664:=by omega
 have b11:(nb:Int)*9≤70368744177664:=by omega
 simp only[AJ,reduceIte,Nat.reduceEqDiff,b1,b2,b3,b4,b5,b6,b7,b8,b9,b10,b11,cond_true,Int.toNat_natCast]
 have rA:∀{H:ag} {L:List cA},az B H L→az B (H.alloc (.cells 128 (dU n (jh 0 0)) false)) (Rw 128 2 (some (H.next,0)) n ((Pm.new n nb).cd.map wk)::L):=fun h=>by
  have e:(Pm.new n nb).cd.map wk=List.replicate n (jh 0 0):=by unfold Pm.new;rw[List.map_replicate];rfl
  rw[e];exact az.Iz h rfl (fun v hv=>by simp only[jh,List.mem_cons,List.not_mem_nil,or_false] at hv;rcases hv with rfl|rfl<;>rfl) n
 have rB:∀{H:ag} {L:List cA},az B H L→az B (H.alloc (.cells 4 (dU n [V.bool false]) false)) (Rw 4 1 (some (H.next,0)) n ((Pm.new n nb).cd.map xG)::L):=fun h=>by
  have e:(Pm.new n nb).cd.map xG=List.replicate n [V.bool false]:=by unfold Pm.new;rw[List.map_replicate];rfl
  rw[e];exact az.Iz h rfl (fun v hv=>by rw[List.mem_singleton] at hv;subst hv;rfl) n
 have rC:∀{H:ag} {L:List cA},az B H L→az B (H.alloc (.cells 3 (dU nb [V.int .i64 0]) false)) (IR (some (H.next,0)) nb (Pm.new n nb).hY::L):=fun h=>by
  rw[O7];unfold IR;rw[List.map_replicate];exact az.Iz h rfl (fun v hv=>by rw[List.mem_singleton] at hv;subst hv;rfl) nb
 have fin:∀{H:ag} (q1 q2 q3:Oq),az B H (Rw 128 2 q1 n ((Pm.new n nb).cd.map wk)::Rw 4 1 q2 n ((Pm.new n nb).cd.map xG)::IR q3 nb (Pm.new n nb).hY::L)→
  K (.tuple [.aj (some (H.next,0)),.int .i64 0]) (H.alloc (.cells 175 (Bl q1 n n q2 n n q3 nb nb) false)):=by
  intro H q1 q2 q3 h;have h1:=h.alloc 175 (Bl q1 n n q2 n n q3 nb nb);refine k _ _ (B6.to (x:=⟨q1,n,q2,n,q3,nb⟩) ?_);have e:Ho (Pm.new n nb) ⟨q1,n,q2,n,q3,nb⟩=Bl q1 n n q2 n n q3 nb nb:=by unfold Ho Pm.new;simp only[List.length_replicate]
  unfold B6;rw[e];exact h1
 refine⟨⟨?_, ?_⟩,⟨?_, ?_⟩, ?_, ?_⟩
 ·exact fin _ _ _ ((rC (rB (rA h))).ord [2,1])
 ·exact fin _ _ _ ((rB (rC (rA h))).ord [2])
 ·exact fin _ _ _ ((rC (rA (rB h))).ord [1,1])
 ·exact fin _ _ _ ((rA (rC (rB h))).ord [0,1])
 ·exact fin _ _ _ ((rB (rA (rC h))).ord [1])
 ·exact fin _ _ _ (rA (rB (rC h)))
end
def nN:Nat→List Fd→Nat
 |m,[]=>m
 |m,f::l=>nN (max m f.s.seq) l
def Ar.fd (a:Ar) (g:ct) (i:Nat):List Fd:=(a.bs.getD i fL).eR i g.cap
def xH (i:Nat):List (Nat×List Fd)→List (Nat×List Fd)
 |[]=>[]
 |x::l=>if x.1=i then l else x::xH i l
def AQ:List Nat→List (Nat×List Fd)→List (Nat×List Fd)×List Nat
 |[],cN=>(cN,[])
 |i::us,cN=>if kW cN i=true then ((AQ us (xH i cN)).1,i::(AQ us (xH i cN)).2) else AQ us cN
abbrev IA (m:Gm):aO:=.cells 26 (dS m.g.aE m.g.aA m.g.aH m.q m.g.bI.length m.c)
abbrev td (mp:Oq) (pg:Option Nat) (sq:Nat) (q:Oq) (n c:Nat):aO:=.cells 113 (cT mp pg (sq:Int) q n c)
abbrev te:aO:=.cells 113 (cT none none 0 none 0 0)
section
variable {B:ag} {L:List cA} {H:ag} {K:V→ag→Prop} {aM mid pid mpid:Nat} {a:Ar} {m:Gm}
theorem J6 {q:Oq} {c:Nat} {rs:List Rf} (hr:Rd H q (rs.map Rf.cs).flatten) (hl:rs.length≤1000000) {uq:Oq} {un uc:Nat} {tn tj:Int} {Kr:Am.St→Prop} {Ke:Nat→Am.St→Prop}:∀(k i sq:Nat),i+k=rs.length→Ke 2 (St.mk (ab [(0,T.v (V.aj (some (aM,0)))),(3,T.lp 3 0),(4,T.lp 4 0),(6,T.v (V.aj (some (mpid,0)))),(8,T.lp 8 0),(9,T.v (V.map (some mid))),(61,T.v (V.slice uq un uc)),(62,T.v (V.int .i64 tn)),(63,T.v (V.int .i64 tj))]) (ab [(3,IA m),(4,te),(8,td (some (mpid,0)) (some pid) (nN sq ((rs.drop i).map Rf.f)) none 0 0)]) H)→lo 59 21 (St.mk (ab [(0,T.v (V.aj (some (aM,0)))),(3,T.lp 3 0),(4,T.lp 4 0),(6,T.v (V.aj (some (mpid,0)))),(8,T.lp 8 0),(9,T.v (V.map (some mid))),(61,T.v (V.slice uq un uc)),(62,T.v (V.int .i64 tn)),(63,T.v (V.int .i64 tj)),(81,T.v (V.slice q rs.length c)),(82,T.v (V.int .i64 (rs.length:Int))),(83,T.v (V.int .i64 (i:Int)))]) (ab [(3,IA m),(4,te),(8,td (some (mpid,0)) (some pid) sq none 0 0)]) H) Kr Ke
 |0,i,sq,hi,hk=>by
  obtain rfl:i=rs.length:=by omega
  rw[List.drop_length] at hk;rw[Js,decide_eq_false (by omega),ai];exact hk
 |k+1,i,sq,hi,hk=>by
  have hlt:i<rs.length:=by omega
  obtain⟨s1,s2,s3⟩:=xh hr (wi rs).py (by decide) (i:=i) (by simpa using hlt);have s2':H.inb (pb q) (po q+i*8) 8=true:=s2
  have Jc:H.sub (pb q) (po q+i*8) 8=(rs[i]).cs:=by
   rw[List.getElem_map] at s3;exact s3
  have a1:(i:Int)<(rs.length:Int):=by omega
  have a2:0≤(i:Int):=by omega
  have hfit:aI pn (rs[i]).cs=true:=rfl;have hn4:ae (rs[i]).cs 4=.int .u64 ((rs[i]).f.s.seq:Int):=rfl
  have em:(bif decide (((rs[i]).f.s.seq:Int)>(sq:Int)) then ((rs[i]).f.s.seq:Int) else (sq:Int))=((max sq (rs[i]).f.s.seq:Nat):Int):=by
   by_cases h:((rs[i]).f.s.seq:Int)>(sq:Int)
   ·simp only[h,decide_true,cond_true];omega
   ·simp only[h,decide_false,cond_false];omega
  rw[List.drop_eq_getElem_cons hlt,List.map_cons,nN] at hk;rw[Js];simp only[AJ,reduceIte,Nat.reduceEqDiff,a1,a2,Int.toNat_natCast,s1,s2',Jc,hfit,hn4,em];rw[aL (by omega)];exact J6 hr hl k (i+1) (max sq (rs[i]).f.s.seq) (by omega) hk
theorem az.acz {zs:List Rz} {z:Rz} (h:az B H (Rw 130 8 z.q z.c (z.rs.map Rf.cs)::bw (z.rs.map Rf.bP)::bw (zs.map Rz.bP)::L)):az B H (bw ((zs++[z]).map Rz.bP)::L):=by
 have h2:az B H (z.bP::bw (zs.map Rz.bP)::L):=az.sV (l:=[Rw 130 8 z.q z.c (z.rs.map Rf.cs),bw (z.rs.map Rf.bP)]) h;refine h2.mI.bigPerm ?_;rw[List.map_append];exact List.perm_append_comm (l₁:=[z.bP]) (l₂:=zs.map Rz.bP)
theorem LL {i:Nat} {bz:List (Rz×Nat)} (h:∀x∈bz,x.1.i≠i):pw i bz=none:=by
 induction bz with
 |nil=>rfl
 |cons x l ih=>
  rw[pw,if_neg (h x List.mem_cons_self)];exact ih fun y hy=>h y (List.mem_cons_of_mem _ hy)
theorem VO (a:Ar) (g:ct) (i:Nat):(a.fd g i).length≤(a.bs.getD i fL).pg.length:=by
 unfold Ar.fd Bk.eR;split
 ·simp
 ·have key:∀(l:List (List UInt8)) (p:Nat),(iy i g.cap l p).length≤l.length:=by
   intro l
   induction l with
   |nil=>intro p;simp [iy]
   |cons d l ih=>
    intro p;rw[iy];have:=ih (p+1);split
    ·simp;omega
    ·split<;>simp<;>omega
  exact key _ _
theorem J7 (hm:dB B L m) (hf:m.g.cY=true) (hg:m.g.In) (hr:a.rd m.g) (tJ:a.aA≤32) (rK:∀i∈m.g.us,i<a.bs.length) (vx:m.g.us.Nodup) {uq:Oq} {uc:Nat} {Kr:Am.St→Prop} {Ke:Nat→Am.St→Prop} (hk:∀bz c H',nL bz=(m.g.us.map fun i=>(i,a.fd m.g i))→xF (qt bz) c→(∀x∈bz,x.1.rs.length≤32)→
 az B H' (dP aM a::iI mid (qt bz) c::bw ((bz.map Prod.fst).map Rz.bP)::IR uq uc (da m.g.us)::L)→
 Ke 0 (St.mk (ab [(3,T.lp 3 0),(4,T.lp 4 0),(6,T.v (V.aj (some (mpid,0)))),(8,T.lp 8 0),(9,T.v (V.map (some mid)))]) (ab [(3,IA m),(4,te),(8,td (some (mpid,0)) (some pid) (nN 0 (m.g.us.flatMap (a.fd m.g))) none 0 0)]) H')):∀(k j:Nat) (bz:List (Rz×Nat)) (c:Nat) {H:ag},j+k=m.g.us.length→
 nL bz=((m.g.us.take j).map fun i=>(i,a.fd m.g i))→xF (qt bz) c→(∀x∈bz,x.1.rs.length≤32)→
 az B H (dP aM a::iI mid (qt bz) c::bw ((bz.map Prod.fst).map Rz.bP)::IR uq uc (da m.g.us)::L)→
 lo 59 11
  (St.mk (ab [(0,T.v (V.aj (some (aM,0)))),(3,T.lp 3 0),(4,T.lp 4 0),(6,T.v (V.aj (some (mpid,0)))),(8,T.lp 8 0),(9,T.v (V.map (some mid))),(61,T.v (V.slice uq m.g.us.length uc)),(62,T.v (V.int .i64 (m.g.us.length:Int))),(63,T.v (V.int .i64 (j:Int)))])
   (ab [(3,IA m),(4,te),(8,td (some (mpid,0)) (some pid) (nN 0 ((m.g.us.take j).flatMap (a.fd m.g))) none 0 0)]) H) Kr Ke
 |0,j,bz,c,H,hj,hbz,hb,hl,h=>by
  obtain rfl:j=m.g.us.length:=by omega
  rw[List.take_length] at hbz⊢;rw[Jr,decide_eq_false (by omega),ai];exact hk bz c H hbz hb hl h
 |k+1,j,bz,c,H,hj,hbz,hb,hl,h=>by
  have hlt:j<m.g.us.length:=by omega
  have K4:=ct.kH m.g hg.b.2;obtain⟨s1,s2,s3⟩:=(az.uL (h.ord [3])).at (i:=j) (by simpa using hlt);have e1:(da m.g.us)[j]'(by simpa using hlt)=((m.g.us[j]:Nat):Int):=by simp [da]
  rw[e1] at s3;have a1:(j:Int)<(m.g.us.length:Int):=by omega
  have a2:0≤(j:Int):=by omega
  have hmem:=List.getElem_mem hlt;have hi:=rK _ hmem;rw[Jr];simp only[AJ,reduceIte,Nat.reduceEqDiff,a1,a2,Int.toNat_natCast,s1,s2,s3];have hm':dB B (iI mid (qt bz) c::bw ((bz.map Prod.fst).map Rz.bP)::IR uq uc (da m.g.us)::L) m:=((hm.bW _).bW _).bW _;refine OQ h hm' hf hg hr tJ hmem hi (fun q c2 rs H1 SS h1=> ?_)
  have Hu:rs.map Rf.f=a.fd m.g m.g.us[j]:=by
   rw[SS];unfold Ar.fd;rw[List.getD_eq_getElem?_getD,List.getElem?_eq_getElem hi];rfl
  have hrl:rs.length≤32:=by
   have h1:=congrArg List.length Hu;rw[List.length_map] at h1;have h2:=VO a m.g m.g.us[j];rw[List.getD_eq_getElem?_getD,List.getElem?_eq_getElem hi] at h2;have h3:=hr.len _ (List.getElem_mem hi);simp only[Option.getD_some] at h2;omega
  have hmo:=uV (h1.ord [3]);have gB:=(h1.ord [3]).J2 (m.g.us[j]:Int) (.slice q rs.length c2)
  have hnew:pw m.g.us[j] bz=none:=by
   refine LL fun x hx e=> ?_
   have:(x.1.i,x.1.rs.map Rf.f)∈nL bz:=List.mem_map.2 ⟨x,hx,rfl⟩;rw[hbz] at this;obtain⟨y,hy,he⟩:=List.mem_map.1 this;have hxy:y=m.g.us[j]:=by have:=congrArg Prod.fst he;simp only at this;omega
   rw[hxy] at hy;obtain⟨t,ht,het⟩:=List.mem_iff_getElem.1 hy;rw[List.length_take] at ht;rw[List.getElem_take] at het;exact List.pairwise_iff_getElem.1 vx t j (by omega) hlt (by omega) het
  have ET:rN (m.g.us[j]:Int) (.slice q rs.length c2) (qt bz) c=(qt (bz++[(⟨m.g.us[j],q,c2,rs⟩,c)]),c+1):=by
   unfold rN;rw[D2,hnew];simp [qt]
  have nf:=hb.ins (m.g.us[j]:Int) (.slice q rs.length c2);rw[ET] at gB nf;simp only[AJ,reduceIte,Nat.reduceEqDiff,hmo,Option.isSome_some];generalize ik H1 _ _ _ _=H2 at gB⊢;have h2:az B H2 (Rw 130 8 q c2 (rs.map Rf.cs)::bw (rs.map Rf.bP)::bw ((bz.map Prod.fst).map Rz.bP)::dP aM a::iI mid (qt (bz++[(⟨m.g.us[j],q,c2,rs⟩,c)])) (c+1)::IR uq uc (da m.g.us)::L):=gB.ord [1,1,2,1];refine J6 (h2.lQ) (by omega) rs.length 0 _ (by omega) ?_;simp only[AJ,reduceIte,Nat.reduceEqDiff,f25,uH,mC,mD,mE,mF,f112,xf,qe,qf,qg,qh];rw[aL (by omega)];have h3:=az.acz (z:=⟨m.g.us[j],q,c2,rs⟩) h2
  have e3:nN (nN 0 ((m.g.us.take j).flatMap (a.fd m.g))) ((rs.drop 0).map Rf.f)=nN 0 ((m.g.us.take (j+1)).flatMap (a.fd m.g)):=by
   rw[List.drop_zero,Hu,List.take_succ_eq_append_getElem hlt,List.flatMap_append]
   have app:∀(l l':List Fd) (n:Nat),nN n (l++l')=nN (nN n l) l':=by
    intro l
    induction l with
    |nil=>intro l' n;rfl
    |cons x l ih=>intro l' n;rw[List.cons_append,nN,nN,ih]
   rw[app];simp
  rw[e3];refine J7 hm hf hg hr tJ rK vx hk k (j+1) _ (c+1) (by omega) ?_ nf ?_ ?_
  ·have:nL (bz++[(⟨m.g.us[j],q,c2,rs⟩,c)])=nL bz++[(m.g.us[j],rs.map Rf.f)]:=by simp [nL]
   rw[this,hbz,Hu,List.take_succ_eq_append_getElem hlt,List.map_append];rfl
  ·intro x hx;rcases List.mem_append.1 hx with hx|hx
   ·exact hl x hx
   ·rw[List.mem_singleton] at hx;subst hx;exact hrl
  ·have e4:(bz++[(Rz.mk m.g.us[j] q c2 rs,c)]).map Prod.fst=bz.map Prod.fst++[Rz.mk m.g.us[j] q c2 rs]:=by simp
   rw[e4];exact h3.ord [1,1]
def Ge (i:Nat):List (Rz×Nat)→List (Rz×Nat)
 |[]=>[]
 |x::l=>if x.1.i=i then l else x::Ge i l
theorem zI (i:Nat):∀bz:List (Rz×Nat),D0 (i:Int) (qt bz)=qt (Ge i bz)
 |[]=>rfl
 |x::l=>by
  show (if (x.1.i:Int)=(i:Int) then qt l else _::D0 (i:Int) (qt l))=_
  rw[zI i l,Ge];by_cases h:x.1.i=i
  ·have:(x.1.i:Int)=(i:Int):=by omega
   rw[if_pos this,if_pos h]
  ·have:¬(x.1.i:Int)=(i:Int):=by omega
   rw[if_neg this,if_neg h];rfl
theorem Gf (i:Nat):∀bz:List (Rz×Nat),xH i (nL bz)=nL (Ge i bz)
 |[]=>rfl
 |x::l=>by
  show (if x.1.i=i then nL l else _::xH i (nL l))=_
  rw[Gf i l,Ge];split<;>rfl
theorem Gg {i:Nat} {x:Rz×Nat}:∀{bz:List (Rz×Nat)},x∈Ge i bz→x∈bz
 |y::l,h=>by
  rw[Ge] at h;split at h
  ·exact List.mem_cons_of_mem _ h
  ·rcases List.mem_cons.1 h with rfl|h
   ·exact List.mem_cons_self
   ·exact List.mem_cons_of_mem _ (Gg h)
theorem D5 {zs:List Rz} (hzl:∀z∈zs,z.rs.length≤1000000) {uq:Oq} {uc:Nat} {sq:Nat} (K4:m.g.us.length≤62) {Kr:Am.St→Prop} {Ke:Nat→Am.St→Prop}:∀(k j:Nat) (bz:List (Rz×Nat)) (c:Nat) (sp:List Nat) {q:Oq} {sc:Nat} {H:ag},j+k=m.g.us.length→sp.length≤j→xF (qt bz) c→(∀x∈bz,x.1∈zs)→(∀Xi c' q' sc' H',nL Xi=(AQ (m.g.us.drop j) (nL bz)).1→xF (qt Xi) c'→(∀x∈Xi,x.1∈zs)→
 az B H' (iI mid (qt Xi) c'::bw (zs.map Rz.bP)::IR q' sc' (da (sp++(AQ (m.g.us.drop j) (nL bz)).2))::IR uq uc (da m.g.us)::L)→
 Ke 4 (St.mk (ab [(3,T.lp 3 0),(4,T.lp 4 0),(6,T.v (V.aj (some (mpid,0)))),(8,T.lp 8 0),(9,T.v (V.map (some mid)))])
  (ab [(3,IA m),(4,te),(8,td (some (mpid,0)) (some pid) sq q' (sp++(AQ (m.g.us.drop j) (nL bz)).2).length sc')]) H'))→
 az B H (iI mid (qt bz) c::bw (zs.map Rz.bP)::IR q sc (da sp)::IR uq uc (da m.g.us)::L)→
 lo 59 29
  (St.mk (ab [(3,T.lp 3 0),(4,T.lp 4 0),(6,T.v (V.aj (some (mpid,0)))),(8,T.lp 8 0),(9,T.v (V.map (some mid))),(97,T.v (V.slice uq m.g.us.length uc)),(98,T.v (V.int .i64 (m.g.us.length:Int))),(99,T.v (V.int .i64 (j:Int)))])
   (ab [(3,IA m),(4,te),(8,td (some (mpid,0)) (some pid) sq q sp.length sc)]) H) Kr Ke
 |0,j,bz,c,sp,q,sc,H,hj,hsp,hb,hbz,hk,h=>by
  obtain rfl:j=m.g.us.length:=by omega
  rw[Jq,decide_eq_false (by omega),ai];have:=hk bz c q sc H;simp only[List.drop_length,AQ,List.append_nil] at this;exact this trivial hb hbz h
 |k+1,j,bz,c,sp,q,sc,H,hj,hsp,hb,hbz,hk,h=>by
  have hlt:j<m.g.us.length:=by omega
  obtain⟨s1,s2,s3⟩:=(az.uL (h.ord [3])).at (i:=j) (by simpa using hlt);have e1:(da m.g.us)[j]'(by simpa using hlt)=((m.g.us[j]:Nat):Int):=by simp [da]
  rw[e1] at s3;have a1:(j:Int)<(m.g.us.length:Int):=by omega
  have a2:0≤(j:Int):=by omega
  rw[List.drop_eq_getElem_cons hlt,AQ] at hk;rw[Jq];simp only[AJ,reduceIte,Nat.reduceEqDiff,a1,a2,Int.toNat_natCast,s1,s2,s3];rw[aL (by omega)];refine LJ h hbz hzl m.g.us[j] (fun H1 h1=> ?_);simp only[AJ,reduceIte,Nat.reduceEqDiff];by_cases hc:kW (nL bz) m.g.us[j]=true
  ·simp only[hc,if_true] at hk;simp only[hc,ak]
   have hp:=az.zA (h1.ord [2]) (m.g.us[j]:Int) (e2:=3) (by simp;omega) (K:=fun q n c H'=>ah (eG H' .i64 (some mid)) (lo 59 29
    (St.mk (ab [(3,T.lp 3 0),(4,T.lp 4 0),(6,T.v (V.aj (some (mpid,0)))),(8,T.lp 8 0),(9,T.v (V.map (some mid))),(97,T.v (V.slice uq m.g.us.length uc)),(98,T.v (V.int .i64 (m.g.us.length:Int))),(99,T.v (V.int .i64 ((j+1:Nat):Int)))])
    (ab [(3,IA m),(4,te),(8,td (some (mpid,0)) (some pid) sq q n c)]) (pC H' (some mid) (m.g.us[j]:Int))) Kr Ke)) (fun q' c' H2 h2=> ?_)
   ·rw[gK] at hp;exact hp
   ·have hmo:=uV (h2.ord [1]);have EO:=(h2.ord [1]).Z5 (m.g.us[j]:Int);rw[zI] at EO;have nf:=hb.EY (m.g.us[j]:Int);rw[zI] at nf;simp only[hmo,av];have e5:da sp++[(m.g.us[j]:Int)]=da (sp++[m.g.us[j]]):=by simp [da]
    rw[e5] at EO⊢;rw[gK];refine D5 hzl K4 k (j+1) (Ge m.g.us[j] bz) c (sp++[m.g.us[j]]) (by omega) (by simp;omega) nf (fun x hx=>hbz x (Gg hx)) (fun Xi c2 q2 sc2 H3 e3 E2 hz3 h3=> ?_) (EO.ord [0,1]);rw[←Gf] at e3 h3⊢;rw[List.append_assoc] at h3⊢;exact hk Xi c2 q2 sc2 H3 e3 E2 hz3 h3
  ·have tF:kW (nL bz) m.g.us[j]=false:=by simpa using hc
   simp only[tF,Bool.false_eq_true,if_false] at hk;simp only[tF,ai];exact D5 hzl K4 k (j+1) bz c sp (by omega) (by omega) hb hbz hk h1
end
def sf (f:Fd):List Fd→List Fd
 |[]=>[f]
 |o::l=>if o.s.aq=f.s.aq then (if o.s.seq<f.s.seq then f::l else o::l) else o::sf f l
def u5:List Fd→List Fd→List Fd
 |pg,[]=>pg
 |pg,f::l=>u5 (sf f pg) l
def jG (a:Nat):List Fd→Option Fd
 |[]=>none
 |f::l=>if f.s.aq=a then some f else jG a l
def lT (pz:List (Rf×Nat)):List En:=pz.map fun x=>⟨(x.1.f.s.aq:Int),.agg x.1.cs,x.2⟩
def ml (a:Nat):List (Rf×Nat)→Option (Rf×Nat)
 |[]=>none
 |x::l=>if x.1.f.s.aq=a then some x else ml a l
def sg (r:Rf):List (Rf×Nat)→List (Rf×Nat)
 |[]=>[]
 |x::l=>if x.1.f.s.aq=r.f.s.aq then (r,x.2)::l else x::sg r l
theorem u6 (a:Nat):∀pz:List (Rf×Nat),Hn (a:Int) (lT pz)=(ml a pz).map fun x:Rf×Nat=>V.agg x.1.cs
 |[]=>rfl
 |x::l=>by
  show (if (x.1.f.s.aq:Int)=(a:Int) then some _ else Hn (a:Int) (lT l))=_
  rw[ml,u6 a l];by_cases h:x.1.f.s.aq=a
  ·have:(x.1.f.s.aq:Int)=(a:Int):=by omega
   rw[if_pos this,if_pos h];rfl
  ·have:¬(x.1.f.s.aq:Int)=(a:Int):=by omega
   rw[if_neg this,if_neg h]
theorem Gh (r:Rf):∀pz:List (Rf×Nat),Bq (r.f.s.aq:Int) (.agg r.cs) (lT pz)=lT (sg r pz)
 |[]=>rfl
 |x::l=>by
  show (if (x.1.f.s.aq:Int)=(r.f.s.aq:Int) then _::lT l else _::Bq (r.f.s.aq:Int) (.agg r.cs) (lT l))=_
  rw[Gh r l,sg];by_cases h:x.1.f.s.aq=r.f.s.aq
  ·have:(x.1.f.s.aq:Int)=(r.f.s.aq:Int):=by omega
   rw[if_pos this,if_pos h];show (⟨(x.1.f.s.aq:Int),_,_⟩:En)::_=⟨(r.f.s.aq:Int),_,_⟩::_
   rw[h];rfl
  ·have:¬(x.1.f.s.aq:Int)=(r.f.s.aq:Int):=by omega
   rw[if_neg this,if_neg h];rfl
def xX (pz:List (Rf×Nat)):List Fd:=pz.map fun x=>x.1.f
theorem nO {a:Nat} {x:Rf×Nat}:∀{pz:List (Rf×Nat)},ml a pz=some x→x∈pz∧x.1.f.s.aq=a
 |y::l,h=>by
  rw[ml] at h;split at h
  ·rename_i e;cases h;exact⟨List.mem_cons_self,e⟩
  ·obtain⟨h1,h2⟩:=nO h;exact⟨List.mem_cons_of_mem _ h1,h2⟩
theorem B7 {a:Nat}:∀{pz:List (Rf×Nat)},ml a pz=none→∀x∈pz,x.1.f.s.aq≠a
 |y::l,h,x,hx=>by
  rw[ml] at h;split at h
  ·cases h
  ·rename_i e;rcases List.mem_cons.1 hx with rfl|hx
   ·exact e
   ·exact B7 h x hx
theorem B8 {r:Rf} {c:Nat}:∀{pz:List (Rf×Nat)},ml r.f.s.aq pz=none→sf r.f (xX pz)=xX (pz++[(r,c)])
 |[],_=>rfl
 |y::l,h=>by
  rw[ml] at h;split at h
  ·cases h
  ·rename_i e;show (if y.1.f.s.aq=r.f.s.aq then _ else y.1.f::sf r.f (xX l))=_
   rw[if_neg e,B8 h];rfl
theorem B9 {r:Rf} {x:Rf×Nat}:∀{pz:List (Rf×Nat)},ml r.f.s.aq pz=some x→sf r.f (xX pz)=if x.1.f.s.seq<r.f.s.seq then xX (sg r pz) else xX pz
 |y::l,h=>by
  rw[ml] at h;show (if y.1.f.s.aq=r.f.s.aq then (if y.1.f.s.seq<r.f.s.seq then r.f::xX l else y.1.f::xX l) else y.1.f::sf r.f (xX l))=_
  rw[sg];split at h
  ·rename_i e;cases h;rw[if_pos e,if_pos e];rfl
  ·rename_i e;rw[if_neg e,if_neg e,B9 h];split<;>rfl
theorem zJ (r:Rf):∀pz:List (Rf×Nat),(sg r pz).map (fun x=>x.1.f.s.aq)=pz.map fun x=>x.1.f.s.aq
 |[]=>rfl
 |y::l=>by
  rw[sg];split
  ·rename_i e;rw[List.map_cons,List.map_cons,e]
  ·rw[List.map_cons,zJ r l,List.map_cons]
theorem Ca {r:Rf} {x:Rf×Nat}:∀{pz:List (Rf×Nat)},x∈sg r pz→x∈pz∨x.1=r
 |y::l,h=>by
  rw[sg] at h;split at h
  ·rcases List.mem_cons.1 h with rfl|h
   ·exact .inr rfl
   ·exact .inl (List.mem_cons_of_mem _ h)
  ·rcases List.mem_cons.1 h with rfl|h
   ·exact .inl List.mem_cons_self
   ·exact(Ca h).imp (List.mem_cons_of_mem _) id
structure Br (g:ct) (pz:List (Rf×Nat)):Prop where
 nd:(pz.map fun x=>x.1.f.s.aq).Nodup
 b:∀x∈pz,(x.1.f.s.aq:Int)≤g.cap∧(x.1.f.b:Int)<g.aE∧x.1.f.p<32
abbrev LM (g:ct) (f:Fd):Prop:=(f.s.aq:Int)≤g.cap∧(f.b:Int)<g.aE∧f.p<32
section
variable {B:ag} {L:List cA} {H:ag} {K:V→ag→Prop} {aM mid pid mpid:Nat} {a:Ar} {m:Gm}
theorem xY {P0:List Fd} {zs:List Rz} {z:Rz} (hz:z∈zs) (hzl:z.rs.length≤1000000) (hin:∀r∈z.rs,LM m.g r.f) {sq:Nat} {uq spq:Oq} {un uc spn spc:Nat} {tn tj:Int} {Kr:Am.St→Prop} {Ke:Nat→Am.St→Prop} (hk:∀pz c H',xX pz=u5 P0 (z.rs.map Rf.f)→xF (lT pz) c→Br m.g pz→az B H' (iI pid (lT pz) c::bw (zs.map Rz.bP)::L)→Ke 8 (St.mk (ab [(4,T.lp 4 0),(6,T.v (V.aj (some (mpid,0)))),(8,T.lp 8 0),(9,T.v (V.map (some mid))),(116,T.v (V.slice uq un uc)),(117,T.v (V.int .i64 tn)),(118,T.v (V.int .i64 tj))]) (ab [(4,te),(8,td (some (mpid,0)) (some pid) sq spq spn spc)]) H')):∀(k i:Nat) (pz:List (Rf×Nat)) (c:Nat) {H:ag},i+k=z.rs.length→u5 (xX pz) ((z.rs.drop i).map Rf.f)=u5 P0 (z.rs.map Rf.f)→xF (lT pz) c→Br m.g pz→az B H (iI pid (lT pz) c::bw (zs.map Rz.bP)::L)→lo 59 44 (St.mk (ab [(4,T.lp 4 0),(6,T.v (V.aj (some (mpid,0)))),(8,T.lp 8 0),(9,T.v (V.map (some mid))),(116,T.v (V.slice uq un uc)),(117,T.v (V.int .i64 tn)),(118,T.v (V.int .i64 tj)),(124,T.v (V.slice z.q z.rs.length z.c)),(125,T.v (V.int .i64 (z.rs.length:Int))),(126,T.v (V.int .i64 (i:Int)))]) (ab [(4,te),(8,td (some (mpid,0)) (some pid) sq spq spn spc)]) H) Kr Ke
 |0,i,pz,c,H,hi,he,hb,hok,h=>by
  obtain rfl:i=z.rs.length:=by omega
  rw[List.drop_length] at he;rw[DO,decide_eq_false (by omega),ai];exact hk pz c H he hb hok h
 |k+1,i,pz,c,H,hi,he,hb,hok,h=>by
  have hlt:i<z.rs.length:=by omega
  obtain⟨hrz,hdz⟩:=uY (h.ord [1]) hz;obtain⟨s1,s2,s3⟩:=xh hrz (wi z.rs).py (by decide) (i:=i) (by simpa using hlt);have s2':H.inb (pb z.q) (po z.q+i*8) 8=true:=s2
  have Jc:H.sub (pb z.q) (po z.q+i*8) 8=(z.rs[i]).cs:=by
   rw[List.getElem_map] at s3;exact s3
  have a1:(i:Int)<(z.rs.length:Int):=by omega
  have a2:0≤(i:Int):=by omega
  obtain⟨r,hr⟩:∃r,r=z.rs[i]:=⟨_,rfl⟩;have WD:=hin _ (List.getElem_mem hlt);rw[←hr] at Jc WD;have hfit:aI pn r.cs=true:=rfl;have AG:Ls r.cs=r.cs:=rfl;have hn4:ae r.cs 4=.int .u64 (r.f.s.seq:Int):=rfl;have hn5:ae r.cs 5=.int .i64 (r.f.s.aq:Int):=rfl;rw[List.drop_eq_getElem_cons hlt,List.map_cons,u5, ←hr] at he;have hmo:=uV h;have oU:=zF h (r.f.s.aq:Int) (.agg (kS 0 0 0 0 0 0 0 none 0 0));have WE:=OT h (r.f.s.aq:Int);rw[u6] at oU WE;rw[Option.isSome_map] at WE;have gB:=h.J2 (r.f.s.aq:Int) (.agg r.cs);have nf:=hb.ins (r.f.s.aq:Int) (.agg r.cs);rw[DO];simp only[AJ,reduceIte,Nat.reduceEqDiff,a1,a2,Int.toNat_natCast,s1,s2',Jc,hfit,AG,hn4,hn5,hmo,oU,WE,Bool.not_not,Option.isSome_some];rw[aL (by omega)]
  cases hg:ml r.f.s.aq pz with
  |none=>
   have ET:rN (r.f.s.aq:Int) (.agg r.cs) (lT pz) c=(lT (pz++[(r,c)]),c+1):=by
    unfold rN;rw[u6,hg];simp [lT]
   rw[ET] at gB nf;have M3:aI pn (kS 0 0 0 0 0 0 0 none 0 0)=true:=rfl;simp only[Option.map_none,Option.isSome_none,AJ,reduceIte,Nat.reduceEqDiff,M3,cond_false];refine xY hz hzl hin hk k (i+1) _ (c+1) (by omega) ?_ nf ⟨?_, ?_⟩ gB
   ·rw[←he,B8 hg]
   ·rw[List.map_append,List.nodup_append];refine⟨hok.nd,by simp,fun x hx y hy=> ?_⟩;simp only[List.map_cons,List.map_nil,List.mem_singleton] at hy;subst hy;obtain⟨w,hw,rfl⟩:=List.mem_map.1 hx;exact B7 hg w hw
   ·intro x hx;rcases List.mem_append.1 hx with hx|hx
    ·exact hok.b x hx
    ·rw[List.mem_singleton] at hx;subst hx;exact WD
  |some x=>
   obtain⟨hx1,vD⟩:=nO hg;have M3:aI pn x.1.cs=true:=rfl;have hx4:ae x.1.cs 4=.int .u64 (x.1.f.s.seq:Int):=rfl;simp only[Option.map_some,Option.isSome_some,AJ,reduceIte,Nat.reduceEqDiff,M3,hx4,cond_true];have hold:=B9 hg;by_cases Hi:x.1.f.s.seq<r.f.s.seq
   ·have WG:(x.1.f.s.seq:Int)<(r.f.s.seq:Int):=by omega
    have ET:rN (r.f.s.aq:Int) (.agg r.cs) (lT pz) c=(lT (sg r pz),c):=by
     unfold rN;rw[u6,hg];simp only[Option.map_some,Option.isSome_some,if_true,Gh]
    rw[ET] at gB nf;rw[if_pos Hi] at hold;simp only[WG,decide_true,ak];refine xY hz hzl hin hk k (i+1) _ c (by omega) (by rw[←he,hold]) nf ⟨by rw[zJ];exact hok.nd,fun y hy=> ?_⟩ gB;rcases Ca hy with hy|hy
    ·exact hok.b y hy
    ·rw[hy];exact WD
   ·have WG:¬(x.1.f.s.seq:Int)<(r.f.s.seq:Int):=by omega
    rw[if_neg Hi] at hold;simp only[WG,decide_false,ai];exact xY hz hzl hin hk k (i+1) pz c (by omega) (by rw[←he,hold]) hb hok h
def eD (cN:List (Nat×List Fd)):List Fd→List Nat→List Fd
 |pg,[]=>pg
 |pg,i::us=>eD cN (u5 pg (hT i cN)) us
theorem J8 {zs:List Rz} {bz:List (Rz×Nat)} {bc:Nat} (hbz:∀x∈bz,x.1∈zs) (hzl:∀z∈zs,z.rs.length≤1000000) (hin:∀z∈zs,∀r∈z.rs,LM m.g r.f) {sq:Nat} (K4:m.g.us.length≤62) {uq spq:Oq} {uc spn spc:Nat} {Kr:Am.St→Prop} {Ke:Nat→Am.St→Prop} (hk:∀pz c H',xX pz=eD (nL bz) [] m.g.us→xF (lT pz) c→Br m.g pz→az B H' (iI pid (lT pz) c::bw (zs.map Rz.bP)::iI mid (qt bz) bc::IR uq uc (da m.g.us)::L)→Ke 6 (St.mk (ab [(4,T.lp 4 0),(6,T.v (V.aj (some (mpid,0)))),(8,T.lp 8 0)]) (ab [(4,te),(8,td (some (mpid,0)) (some pid) sq spq spn spc)]) H')):∀(k j:Nat) (pz:List (Rf×Nat)) (c:Nat) {H:ag},j+k=m.g.us.length→eD (nL bz) (xX pz) (m.g.us.drop j)=eD (nL bz) [] m.g.us→xF (lT pz) c→Br m.g pz→az B H (iI pid (lT pz) c::bw (zs.map Rz.bP)::iI mid (qt bz) bc::IR uq uc (da m.g.us)::L)→lo 59 39 (St.mk (ab [(4,T.lp 4 0),(6,T.v (V.aj (some (mpid,0)))),(8,T.lp 8 0),(9,T.v (V.map (some mid))),(116,T.v (V.slice uq m.g.us.length uc)),(117,T.v (V.int .i64 (m.g.us.length:Int))),(118,T.v (V.int .i64 (j:Int)))]) (ab [(4,te),(8,td (some (mpid,0)) (some pid) sq spq spn spc)]) H) Kr Ke
 |0,j,pz,c,H,hj,he,hb,hok,h=>by
  obtain rfl:j=m.g.us.length:=by omega
  rw[List.drop_length] at he;rw[Jp,decide_eq_false (by omega),ai];exact hk pz c H he hb hok h
 |k+1,j,pz,c,H,hj,he,hb,hok,h=>by
  have hlt:j<m.g.us.length:=by omega
  obtain⟨s1,s2,s3⟩:=(az.uL (h.ord [3])).at (i:=j) (by simpa using hlt);have e1:(da m.g.us)[j]'(by simpa using hlt)=((m.g.us[j]:Nat):Int):=by simp [da]
  rw[e1] at s3;have a1:(j:Int)<(m.g.us.length:Int):=by omega
  have a2:0≤(j:Int):=by omega
  rw[List.drop_eq_getElem_cons hlt,eD,uX] at he;have hmo:=uV (h.ord [2]);have oU:=OY (h.ord [2]) m.g.us[j];rw[Jp];simp only[AJ,reduceIte,Nat.reduceEqDiff,a1,a2,Int.toNat_natCast,s1,s2,s3,hmo,oU]
  have hnext:∀TP c' H',eD (nL bz) (xX TP) (m.g.us.drop (j+1))=eD (nL bz) [] m.g.us→xF (lT TP) c'→Br m.g TP→az B H' (iI pid (lT TP) c'::bw (zs.map Rz.bP)::iI mid (qt bz) bc::IR uq uc (da m.g.us)::L)→
   lo 59 39
    (St.mk (ab [(4,T.lp 4 0),(6,T.v (V.aj (some (mpid,0)))),(8,T.lp 8 0),(9,T.v (V.map (some mid))),(116,T.v (V.slice uq m.g.us.length uc)),(117,T.v (V.int .i64 (m.g.us.length:Int))),(118,T.v (V.int .i64 (IntKind.i64.wrap ((j:Int)+1))))])
     (ab [(4,te),(8,td (some (mpid,0)) (some pid) sq spq spn spc)]) H') Kr Ke:=by
   intro TP c' H' e' hb' cB h';rw[aL (by omega)];exact J8 hbz hzl hin K4 hk k (j+1) TP c' (by omega) e' hb' cB h'
  have oO:∀(z:Rz),z∈zs→eD (nL bz) (u5 (xX pz) (z.rs.map Rf.f)) (m.g.us.drop (j+1))=eD (nL bz) [] m.g.us→
   lo 59 44
    (St.mk (ab [(4,T.lp 4 0),(6,T.v (V.aj (some (mpid,0)))),(8,T.lp 8 0),(9,T.v (V.map (some mid))),(116,T.v (V.slice uq m.g.us.length uc)),(117,T.v (V.int .i64 (m.g.us.length:Int))),(118,T.v (V.int .i64 (j:Int))),
     (124,T.v (V.slice z.q z.rs.length z.c)),(125,T.v (V.int .i64 (z.rs.length:Int))),(126,T.v (V.int .i64 0))]) (ab [(4,te),(8,td (some (mpid,0)) (some pid) sq spq spn spc)]) H)
    (fun S'=>Kr (St.mk (ab []) (ab []) S'.3)) (fun j' S'=>br (decide (j'=8)) (ah (aB (KT.lp 4) (S'.1 4)&&(aB (KT.k .aj) (S'.1 6)&&(aB (KT.lp 8) (S'.1 8)&&(aB (KT.k .map) (S'.1 9)&&(aB (KT.k .slice) (S'.1 116)&&(aB (KT.k (.int .i64)) (S'.1 117)&&aB (KT.k (.int .i64)) (S'.1 118))))))&&(eh 113 nE (S'.2 4)&&eh 113 nE (S'.2 8)))
     (lo 59 39
      (St.mk (ab [(4,T.lp 4 0),(6,T.v (V.aj (V.ay (T.val (S'.1 6))))),(8,T.lp 8 0),(9,T.v (V.map (V.cM (T.val (S'.1 9))))),(116,T.v (V.slice (V.au (T.val (S'.1 116))) (V.ax (T.val (S'.1 116))) (V.aC (T.val (S'.1 116))))),(117,T.v (V.int .i64 (V.aa (T.val (S'.1 117))))),(118,T.v (V.int .i64 (IntKind.i64.wrap (V.aa (T.val (S'.1 118))+1))))])
       (ab [(4,aO.cells 113 (qd (ao (S'.2 4)))),(8,aO.cells 113 (qd (ao (S'.2 8))))]) S'.3) Kr Ke)) False):=by
   intro z hz SE;refine xY (P0:=xX pz) hz (hzl z hz) (hin z hz) (fun TP c' H' e' hb' cB h'=> ?_) z.rs.length 0 pz c (by omega) rfl hb hok h;simp only[AJ,reduceIte,Nat.reduceEqDiff,f112,xf,qe,qf,qg,qh,V.cM,mZ,V.aw];exact hnext TP c' H' (by rw[e'];exact SE) hb' cB h'
  cases hg:pw m.g.us[j] bz with
  |none=>
   rw[hg] at he;simp only[AJ,reduceIte,Nat.reduceEqDiff];rw[DO,decide_eq_false (by omega),ai];simp only[AJ,reduceIte,Nat.reduceEqDiff,f112,xf,qe,qf,qg,qh,V.cM,mZ,V.aw];exact hnext pz c H he hb hok h
  |some z=>
   rw[hg] at he;obtain⟨b2,nf⟩:=uW hg;simp only[AJ,reduceIte,Nat.reduceEqDiff];exact oO z (hbz _ nf) he
end
abbrev Vw:=Nat→List Fd
def xI (v:Vw) (c:Nat→List UInt8) (x:Nat) (f:Fd):Prop:=
 f.s.aq=x∧f.s.data=c x∧∀b,∀y∈v b,y.s.aq=x→f.s.seq≤y.s.seq→y.s.data=c x
def mt (v:Vw) (f:Fd):Prop:=f.s.fr≠0∧∃o∈v (f.s.fr-1),Iu o f=true
def mf (v:Vw) (b:Nat):Prop:=∃f∈v b,¬mt v f
theorem J9 {o f:Fd}:Iu o f=true↔o.s.cU=f.s.cU∧o.s.aq=f.s.aq∧o.s.seq<f.s.seq∧o.s.data=f.s.data:=by
 unfold Iu;simp
structure Gd (v:Vw) (c:Nat→List UInt8):Prop where
 oy:∀b,∀f∈v b,f.b=b
 a2:∀x,(c x=[]∧∀b,∀f∈v b,f.s.aq≠x)∨∃b,∃f∈v b,xI v c x f
 a3:∀b,∀t∈v b,mt v t→∃u∈v (t.s.fr-1),u.s.aq=t.s.aq∧u.s.seq<t.s.seq∧u.s.data=t.s.data∧
  ∀b',∀y∈v b',y.s.aq=t.s.aq→u.s.seq≤y.s.seq→y.s.seq≤t.s.seq→y.s.data=t.s.data
 a4:∀b,∀f∈v b,f.s.fr≠b+1
 a6:∀b,∀f∈v b,∀h∈v b,f.s.fr≠0→h.s.fr≠0→f.s.fr=h.s.fr
 a7:∀b,∀t∈v b,mt v t→mf v (t.s.fr-1)
def gL (v:Vw) (b:Nat) (f:Fd):Vw:=fun i=>if i=b then v i++[f] else v i
def kX (v:Vw) (b:Nat):Vw:=fun i=>if i=b then [] else v i
theorem bH {v:Vw} {b i:Nat} {f y:Fd}:y∈gL v b f i↔y∈v i∨(i=b∧y=f):=by
 unfold gL;by_cases h:i=b
 ·simp [h]
 ·simp [h]
theorem cP {v:Vw} {b i:Nat} {y:Fd}:y∈kX v b i↔y∈v i∧i≠b:=by
 unfold kX;by_cases h:i=b
 ·simp [h]
 ·simp [h]
section
variable {v:Vw} {c:Nat→List UInt8} {b w x:Nat} {f u t:Fd}
theorem qv (hn:∀i,∀y∈v i,y.s.seq<f.s.seq) {i:Nat} (ht:t∈v i):mt (gL v b f) t↔mt v t:=by
 unfold mt;refine and_congr Iff.rfl ⟨fun⟨o,ho,hm⟩=> ?_,fun⟨o,ho,hm⟩=>⟨o,bH.2 (.inl ho),hm⟩⟩;rcases bH.1 ho with ho|⟨_,rfl⟩
 ·exact⟨o,ho,hm⟩
 ·have:=(J9.1 hm).2.2.1;have:=hn i t ht;omega
theorem mf.add (hn:∀i,∀y∈v i,y.s.seq<f.s.seq) (h:mf v w):mf (gL v b f) w:=by
 obtain⟨t,ht,hm⟩:=h;exact⟨t,bH.2 (.inl ht),fun h=>hm ((qv hn ht).1 h)⟩
theorem D6 (h:mt (kX v b) t):mt v t∧t.s.fr-1≠b:=by
 obtain⟨h0,o,ho,hm⟩:=h;exact⟨⟨h0,o,(cP.1 ho).1,hm⟩,(cP.1 ho).2⟩
theorem mf.EY (h:mf v w) (hw:w≠b):mf (kX v b) w:=by
 obtain⟨t,ht,hm⟩:=h;exact⟨t,cP.2 ⟨ht,hw⟩,fun h=>hm (D6 h).1⟩
theorem xI.EY (h:xI v c x f):xI (kX v b) c x f:=⟨h.1,h.2.1,fun b' y hy=>h.2.2 b' y (cP.1 hy).1⟩
def oL (c:Nat→List UInt8) (x:Nat) (d:List UInt8):Nat→List UInt8:=fun i=>if i=x then d else c i
theorem xI.put (h:xI v c x u) (hx:f.s.aq≠x):xI (gL v b f) (oL c f.s.aq f.s.data) x u:=by
 have e:oL c f.s.aq f.s.data x=c x:=if_neg (fun h=>hx h.symm);refine⟨h.1,by rw[e];exact h.2.1,fun b' y hy Jd hs=> ?_⟩;rw[e];rcases bH.1 hy with hy|⟨_,rfl⟩
 ·exact h.2.2 b' y hy Jd hs
 ·exact absurd Jd hx
theorem xI.new (hn:∀i,∀y∈v i,y.s.seq<f.s.seq):xI (gL v b f) (oL c f.s.aq f.s.data) f.s.aq f:=by
 have e:oL c f.s.aq f.s.data f.s.aq=f.s.data:=if_pos rfl;refine⟨rfl,e.symm,fun b' y hy Jd hs=> ?_⟩;rw[e];rcases bH.1 hy with hy|⟨_,rfl⟩
 ·have:=hn b' y hy;omega
 ·rfl
theorem xI.copy (h:xI v c x u) (hd:f.s.data=c f.s.aq):xI (gL v b f) c x u:=by
 refine⟨h.1,h.2.1,fun b' y hy Jd hs=> ?_⟩;rcases bH.1 hy with hy|⟨_,rfl⟩
 ·exact h.2.2 b' y hy Jd hs
 ·rw[←Jd];exact hd
theorem O8 (hn:∀i,∀y∈v i,y.s.seq<f.s.seq) (h:Gd v c) {i:Nat} (ht:t∈v i) (hm:mt (gL v b f) t):∃u∈gL v b f (t.s.fr-1),u.s.aq=t.s.aq∧u.s.seq<t.s.seq∧u.s.data=t.s.data∧∀b',∀y∈gL v b f b',y.s.aq=t.s.aq→u.s.seq≤y.s.seq→y.s.seq≤t.s.seq→y.s.data=t.s.data:=by
 obtain⟨u,hu,h1,h2,h3,h4⟩:=h.a3 i t ht ((qv hn ht).1 hm);refine⟨u,bH.2 (.inl hu),h1,h2,h3,fun b' y hy Jd hs1 n7=> ?_⟩;rcases bH.1 hy with hy|⟨_,rfl⟩
 ·exact h4 b' y hy Jd hs1 n7
 ·have:=hn i t ht;omega
theorem Gd.put (h:Gd v c) (hn:∀i,∀y∈v i,y.s.seq<f.s.seq) (hb:f.b=b) (hf:f.s.fr=0):Gd (gL v b f) (oL c f.s.aq f.s.data) where
 oy:=fun i y hy=>by
  rcases bH.1 hy with hy|⟨rfl,rfl⟩
  ·exact h.oy i y hy
  ·exact hb
 a2:=fun x=>by
  by_cases hx:f.s.aq=x
  ·subst hx;exact .inr ⟨b,f,bH.2 (.inr ⟨rfl,rfl⟩),xI.new hn⟩
  ·rcases h.a2 x with⟨h1,h2⟩|⟨i,u,hu,hc⟩
   ·refine .inl ⟨by show (if x=_ then _ else _)=_;rw[if_neg (fun h=>hx h.symm)];exact h1,fun i y hy=> ?_⟩;rcases bH.1 hy with hy|⟨rfl,rfl⟩
    ·exact h2 i y hy
    ·exact hx
   ·exact .inr ⟨i,u,bH.2 (.inl hu),hc.put hx⟩
 a3:=fun i t ht hm=>by
  rcases bH.1 ht with ht|⟨rfl,rfl⟩
  ·exact O8 hn h ht hm
  ·exact absurd hf hm.1
 a4:=fun i y hy=>by
  rcases bH.1 hy with hy|⟨rfl,rfl⟩
  ·exact h.a4 i y hy
  ·omega
 a6:=fun i y hy z hz h1 h2=>by
  rcases bH.1 hy with hy|⟨rfl,rfl⟩
  ·rcases bH.1 hz with hz|⟨rfl,rfl⟩
   ·exact h.a6 i y hy z hz h1 h2
   ·exact absurd hf h2
  ·exact absurd hf h1
 a7:=fun i t ht hm=>by
  rcases bH.1 ht with ht|⟨rfl,rfl⟩
  ·exact(h.a7 i t ht ((qv hn ht).1 hm)).add hn
  ·exact absurd hf hm.1
theorem RI (hw:w≠b) (hu:u∈v w) (hf:f.s.fr=w+1) (hk:u.s.cU=f.s.cU) (ha:u.s.aq=f.s.aq) (hd:u.s.data=f.s.data) (hn:∀i,∀y∈v i,y.s.seq<f.s.seq):mt (gL v b f) f:=
 ⟨by omega,u,by rw[hf];exact bH.2 (.inl hu),J9.2 ⟨hk,ha,hn w u hu,hd⟩⟩
theorem Gd.copy (h:Gd v c) (hn:∀i,∀y∈v i,y.s.seq<f.s.seq) (hb:f.b=b) (hw:w≠b) (hu:u∈v w) (hc:xI v c f.s.aq u) (hf:f.s.fr=w+1) (hd:u.s.data=f.s.data) (hall:∀y∈v b,y.s.fr=w+1) (hs:mf v w):Gd (gL v b f) c where
 oy:=fun i y hy=>by
  rcases bH.1 hy with hy|⟨rfl,rfl⟩
  ·exact h.oy i y hy
  ·exact hb
 a2:=fun x=>by
  have hdc:f.s.data=c f.s.aq:=by rw[←hd];exact hc.2.1
  rcases h.a2 x with⟨h1,h2⟩|⟨i,u',hu',tF⟩
  ·refine .inl ⟨h1,fun i y hy=> ?_⟩;rcases bH.1 hy with hy|⟨rfl,rfl⟩
   ·exact h2 i y hy
   ·intro e;exact h2 w u hu (by rw[←e];exact hc.1)
  ·exact .inr ⟨i,u',bH.2 (.inl hu'),tF.copy hdc⟩
 a3:=fun i t ht hm=>by
  rcases bH.1 ht with ht|⟨rfl,rfl⟩
  ·exact O8 hn h ht hm
  ·refine⟨u,by rw[hf];exact bH.2 (.inl hu),hc.1,hn w u hu,hd,fun b' y hy Jd hs1 n7=> ?_⟩;rcases bH.1 hy with hy|⟨_,rfl⟩
   ·rw[←hd,hc.2.1];exact hc.2.2 b' y hy Jd hs1
   ·rfl
 a4:=fun i y hy=>by
  rcases bH.1 hy with hy|⟨rfl,rfl⟩
  ·exact h.a4 i y hy
  ·omega
 a6:=fun i y hy z hz h1 h2=>by
  rcases bH.1 hy with hy'|⟨rfl,rfl⟩
  ·rcases bH.1 hz with KY|⟨rfl,rfl⟩
   ·exact h.a6 i y hy' z KY h1 h2
   ·rw[hf];exact hall y hy'
  ·rcases bH.1 hz with hz|⟨_,rfl⟩
   ·rw[hf];exact(hall z hz).symm
   ·rfl
 a7:=fun i t ht hm=>by
  rcases bH.1 ht with ht|⟨rfl,rfl⟩
  ·exact(h.a7 i t ht ((qv hn ht).1 hm)).add hn
  ·rw[hf];exact hs.add hn
theorem Gd.EY (h:Gd v c) (hc:∀x,(∀i,∀f∈v i,f.s.aq≠x)∨∃i,i≠b∧∃f∈v i,xI v c x f):Gd (kX v b) c where
 oy:=fun i y hy=>h.oy i y (cP.1 hy).1
 a2:=fun x=>by
  rcases hc x with h1|⟨i,hi,f,hf,Wq⟩
  ·refine .inl ⟨?_,fun i y hy=>h1 i y (cP.1 hy).1⟩;rcases h.a2 x with⟨h2,_⟩|⟨i,f,hf,Wq⟩
   ·exact h2
   ·exact absurd Wq.1 (h1 i f hf)
  ·exact .inr ⟨i,f,cP.2 ⟨hf,hi⟩,Wq.EY⟩
 a3:=fun i t ht hm=>by
  obtain⟨TH,hm2⟩:=D6 hm;obtain⟨u,hu,h1,h2,h3,h4⟩:=h.a3 i t (cP.1 ht).1 TH;exact⟨u,cP.2 ⟨hu,hm2⟩,h1,h2,h3,fun b' y hy=>h4 b' y (cP.1 hy).1⟩
 a4:=fun i y hy=>h.a4 i y (cP.1 hy).1
 a6:=fun i y hy z hz=>h.a6 i y (cP.1 hy).1 z (cP.1 hz).1
 a7:=fun i t ht hm=>by
  obtain⟨TH,hm2⟩:=D6 hm;exact(h.a7 i t (cP.1 ht).1 TH).EY hm2
end
def iX (N nb:Nat) (pz:List (Rf×Nat)) (seen:List Nat):Pm:=
 ⟨(List.range N).map fun a=>match ml a pz with|some x=>if x.2∈seen then some (x.1.f.b,x.1.f.p) else none|none=>none,nb⟩
def qw (g:ct) (pg:List Fd):Pm:=⟨(List.range (g.cap+1).toNat).map fun a=>(jG a pg).map fun f=>(f.b,f.p),g.aE.toNat⟩
def Ar.RJ (a:Ar) (g:ct):List (Nat×List Fd):=g.us.map fun i=>(i,a.fd g i)
def Ar.Bo (a:Ar) (g:ct):List Fd:=eD (AQ g.us (a.RJ g)).1 [] g.us
def Ar.LO (a:Ar) (g:ct):Nat:=nN 0 (g.us.flatMap (a.fd g))
theorem RK {pz:List (Rf×Nat)} (vx:(pz.map fun x=>x.1.f.s.aq).Nodup) {x:Rf×Nat} (hx:x∈pz):ml x.1.f.s.aq pz=some x:=by
 induction pz with
 |nil=>cases hx
 |cons y l ih=>
  rw[List.map_cons,List.nodup_cons] at vx;rw[ml];rcases List.mem_cons.1 hx with rfl|hx
  ·rw[if_pos rfl]
  ·rw[if_neg (fun e=>vx.1 (List.mem_map.2 ⟨x,hx,e.symm⟩))];exact ih vx.2 hx
theorem wm (a:Nat):∀pz:List (Rf×Nat),jG a (xX pz)=(ml a pz).map fun x=>x.1.f
 |[]=>rfl
 |x::l=>by
  show (if x.1.f.s.aq=a then some x.1.f else jG a (xX l))=_
  rw[ml,wm a l];split<;>rfl
theorem IB {N nb c:Nat} {pz:List (Rf×Nat)} {seen:List Nat} {x:Rf×Nat} (vx:(pz.map fun x=>x.1.f.s.aq).Nodup) (hb:xF (lT pz) c) (hx:x∈pz) (hN:x.1.f.s.aq<N):(iX N nb pz seen).put x.1.f.s.aq (some (x.1.f.b,x.1.f.p))=iX N nb pz (seen++[x.2]):=by
 unfold Pm.put iX;congr 1;apply List.ext_getElem
 ·simp
 ·intro i h1 h2;rw[List.getElem_set];simp only[List.length_set,List.length_map,List.length_range] at h1;by_cases hi:x.1.f.s.aq=i
  ·rw[if_pos hi];simp only[List.getElem_map,List.getElem_range, ←hi,RK vx hx];rw[if_pos (by simp)]
  ·rw[if_neg hi];simp only[List.getElem_map,List.getElem_range]
   cases hg:ml i pz with
   |none=>rfl
   |some y=>
    obtain⟨hy1,TC⟩:=nO hg
    have hne:¬y.2=x.2:=by
     intro e;have hp:=(D1.1 hb).1;have hm:(lT pz).map En.b=pz.map Prod.snd:=by simp [lT]
     rw[hm] at hp;have hpn:(pz.map Prod.snd).Nodup:=hp.imp (fun h=>Nat.ne_of_lt h)
     have:y=x:=by
      obtain⟨t,ht,rfl⟩:=List.mem_iff_getElem.1 hy1;obtain⟨u,hu,rfl⟩:=List.mem_iff_getElem.1 hx;by_cases htu:t=u
      ·subst htu;rfl
      ·exfalso;rcases Nat.lt_or_gt_of_ne htu with h|h
       ·exact List.pairwise_iff_getElem.1 hpn t u (by simpa using ht) (by simpa using hu) h (by simpa using e)
       ·exact List.pairwise_iff_getElem.1 hpn u t (by simpa using hu) (by simpa using ht) h (by simpa using e.symm)
     rw[this] at TC;exact hi TC
    simp only[List.mem_append,List.mem_singleton,hne,or_false]
theorem D7 {i:Nat} {cap:Int} {f:Fd}:∀{l:List (List UInt8)} {p:Nat},f∈iy i cap l p→f.b=i∧p≤f.p∧f.p<p+l.length∧(f.s.aq:Int)≤cap
 |d::l,p,h=>by
  rw[iy] at h
  have ih:f∈iy i cap l (p+1)→f.b=i∧p≤f.p∧f.p<p+(d::l).length∧(f.s.aq:Int)≤cap:=fun h=>by
   obtain⟨h1,h2,h3,h4⟩:=D7 h;exact⟨h1,by omega,by rw[List.length_cons];omega,h4⟩
  split at h
  ·exact ih h
  ·split at h
   ·rename_i s hs hc;rcases List.mem_cons.1 h with rfl|h
    ·exact⟨rfl,Nat.le_refl _,by show p<p+(l.length+1);omega,hc.2⟩
    ·exact ih h
   ·exact ih h
theorem Z6 {a:Ar} {g:ct} (hr:a.rd g) (tJ:a.aA≤32) {i:Nat} (hi:i<a.bs.length) {f:Fd} (hf:f∈a.fd g i):LM g f:=by
 unfold Ar.fd Bk.eR at hf;rw[List.getD_eq_getElem?_getD,List.getElem?_eq_getElem hi] at hf;simp only[Option.getD_some] at hf;split at hf
 ·cases hf
 ·obtain⟨h1,h2,h3,h4⟩:=D7 hf;have hl:=hr.len _ (List.getElem_mem hi);have hn:=hr.n;exact⟨h4,by omega,by omega⟩
section
variable {B:ag} {L:List cA} {H:ag} {K:V→ag→Prop} {aM mid pid mpid:Nat} {a:Ar} {m:Gm}
theorem LP {g:ct} {pz:List (Rf×Nat)} (hok:Br g pz) {N nb:Nat} (hN:N≤65536) (hnb:nb≤64) (hb:g.aE≤(nb:Int)) (seen:List Nat):(iX N nb pz seen).ok:=by
 refine⟨fun b p hm=> ?_,by simp [iX];exact hN,hnb⟩;obtain⟨x,hx,he⟩:=List.mem_map.1 hm;split at he
 ·rename_i y hy;obtain⟨hy1,_⟩:=nO hy;have:=hok.b _ hy1;split at he
  ·cases he;exact⟨by show _<nb;omega,this.2.2⟩
  ·cases he
 ·cases he
theorem Kb {pz:List (Rf×Nat)} {c N nb it:Nat} (hok:Br m.g pz) (hb:xF (lT pz) c) (hN:N≤65536) (hcN:m.g.cap<(N:Int)) (hnb:nb≤64) (aaB:m.g.aE≤(nb:Int)) {sq:Nat} {spq:Oq} {spn spc:Nat} {Kr:Am.St→Prop} {Ke:Nat→Am.St→Prop} (hk:∀H' seen,(∀e∈lT pz,e.b∈seen)→az B H' (ob it (.dM (some pid) c seen c)::iI pid (lT pz) c::uZ mpid (iX N nb pz seen)::L)→Ke 10 (St.mk (ab [(4,T.lp 4 0),(8,T.lp 8 0)]) (ab [(4,te),(8,td (some (mpid,0)) (some pid) sq spq spn spc)]) H')):∀(k:Nat) (seen:List Nat) {H:ag},(lT pz).countP (fun y=>decide (y.b∉seen))≤k→az B H (ob it (.dM (some pid) c seen c)::iI pid (lT pz) c::uZ mpid (iX N nb pz seen)::L)→lo 59 55 (St.mk (ab [(4,T.lp 4 0),(6,T.v (V.aj (some (mpid,0)))),(8,T.lp 8 0),(160,T.v (V.dM 111 it))]) (ab [(4,te),(8,td (some (mpid,0)) (some pid) sq spq spn spc)]) H) Kr Ke
 |k,seen,H,hle,h=>by
  rw[Rr];refine h.OV hb (fun hall=>hk H seen hall h) (fun e he hn H' h' acW hkey hval=> ?_);obtain⟨x,hx,rfl⟩:=List.mem_map.1 he;have Xj:=hok.b x hx;have n7:=oK (fun _=>true) hn hb.lt he;simp only[Bool.and_true,if_true] at n7
  have hneg:∀s:List Nat,(lT pz).countP (fun y=>decide (y.b∈s))+(lT pz).countP (fun y=>decide (y.b∉s))=(lT pz).length:=by
   intro s;have:=List.length_eq_countP_add_countP (fun y:En=>decide (y.b∈s)) (l:=lT pz);rw[this];congr 1;apply List.countP_congr;intro y _;simp
  have n1:=hneg seen;have n2:=hneg (seen++[x.2]);have hfit:aI pn x.1.cs=true:=rfl;have AG:Rk x.1.cs=jh (x.1.f.b:Int) (x.1.f.p:Int):=rfl;simp only at hkey hval;simp only[acW,hkey,hval,AJ,reduceIte,Nat.reduceEqDiff,hfit,AG]
  cases k with
  |zero=>omega
  |succ k=>
   have hlen:(iX N nb pz seen).cd.length=N:=by simp [iX]
   have TQ:x.1.f.s.aq<N:=by omega
   refine J4 (h'.ord [2]) (LP hok hN hnb aaB seen) (by rw[hlen];exact TQ) (by show x.1.f.b<nb;omega) Xj.2.2 (fun H2 h2=> ?_);simp only[AJ,reduceIte,Nat.reduceEqDiff];rw[IB hok.nd hb hx TQ] at h2;exact Kb hok hb hN hcN hnb aaB hk k (seen++[x.2]) (by omega) (h2.ord [1,1])
theorem O9 (h:az B H (dP aM a::L)) (hm:dB B L m) (hf:m.g.cY=true) (hg:m.g.In) (hr:a.rd m.g) (rK:∀i∈m.g.us,i<a.bs.length) (vx:m.g.us.Nodup) (hc:0≤m.g.cap∧m.g.cap<65000) (k:∀mpid pid zs pz c q sc H',xX pz=a.Bo m.g→xF (lT pz) c→Br m.g pz→az B H' (uZ mpid (qw m.g (a.Bo m.g))::iI pid (lT pz) c::bw (List.map Rz.bP zs)::IR q sc (da (AQ m.g.us (a.RJ m.g)).2)::dP aM a::L)→K (.tuple [.agg (cT (some (mpid,0)) (some pid) (a.LO m.g:Int) q (AQ m.g.us (a.RJ m.g)).2.length sc),.int .i64 0]) H'):cl 59 [.aj (some (aM,0)),m.v] H K:=by
 have tJ:a.aA≤32:=by rw[hr.p];exact hg.p.2
 have Bx:=hg.b;have K4:=ct.kH m.g hg.b.2;have hv:m.v=.agg (dS m.g.aE m.g.aA m.g.aH m.q m.g.bI.length m.c):=rfl;rw[hv,aby, ←hv];simp only[Option.isNone_some,ai,eu];refine JS h (hm.bW _) hg.l (fun H1 h1=> ?_);simp only[hf,AJ,reduceIte,Nat.reduceEqDiff];rw[B0 h1];simp only[AJ,reduceIte,Nat.reduceEqDiff,hr.n];rw[F2 h1];simp only[AJ,reduceIte,Nat.reduceEqDiff,hr.p];refine uP h1 (hm.bW _) hg (fun H2 h2=> ?_);simp only[AJ,reduceIte,Nat.reduceEqDiff];obtain⟨N,hN⟩:∃N:Nat,N=(m.g.cap+1).toNat:=⟨_,rfl⟩;obtain⟨nb,hnb⟩:∃nb:Nat,nb=m.g.aE.toNat:=⟨_,rfl⟩;have eN:IntKind.i64.wrap (m.g.cap+1)=(N:Int):=by rw[bq (by omega) (by omega)];omega
 have enb:m.g.aE=(nb:Int):=by omega
 have hform:4≤m.g.aE:=by
  have:=hf;unfold ct.cY at this;rw[Bool.and_eq_true] at this;exact(of_decide_eq_true this.1:m.g.zB).1
 have hMN:=RH (K:= ?_) h2 (n:=N) (nb:=nb) (by omega) (by omega) ?_
 ·rw[eN];simp only[enb] at hMN⊢;exact hMN
 intro mpid H3 h3;simp only[AJ,reduceIte,Nat.reduceEqDiff];have h4:=(h3.OS).OS;obtain⟨pid,SP⟩:∃p,p=H3.next:=⟨_,rfl⟩;obtain⟨mid,hmid⟩:∃p,p=(H3.alloc (.map [] 0)).next:=⟨_,rfl⟩;have aaC:(H3.alloc (.map [] 0)).2=mid:=hmid.symm;have aaD:H3.2=pid:=SP.symm;rw[←hmid, ←SP] at h4;rw[aaC,aaD];generalize (ag.alloc (ag.alloc H3 _) _)=H4 at h4⊢;simp only[←enb];have hmm:∀(A1 A2 A3 A4:cA),dB B (A1::A2::A3::A4::L) m:=fun A1 A2 A3 A4=>(((hm.bW _).bW _).bW _).bW _
 refine jF h4 (hmm _ _ _ _) hg (fun uq uc H5 h5=> ?_);simp only[AJ,reduceIte,Nat.reduceEqDiff];have hby:∀bz:List (Rz×Nat),nL bz=(m.g.us.map fun i=>(i,a.fd m.g i))→nL bz=a.RJ m.g:=fun _ h=>h
 have h6:az B H5 (dP aM a::iI mid (qt []) 0::bw ((([]:List (Rz×Nat)).map Prod.fst).map Rz.bP)::IR uq uc (da m.g.us)::iI pid (lT []) 0::uZ mpid (Pm.new N nb)::L):=(h5.qm).ord [5,2,0,0,0];have hmA:dB B (iI pid (lT []) 0::uZ mpid (Pm.new N nb)::L) m:=(hm.bW _).bW _;refine J7 (mpid:=mpid) (pid:=pid) (mid:=mid) hmA hf hg hr tJ rK vx (fun bz bc H6 hbz hb hl h7=> ?_) m.g.us.length 0 [] 0 (by omega) rfl (xF.nil _) (by simp) h6;simp only[AJ,reduceIte,Nat.reduceEqDiff,f25,uH,mC,mD,mE,mF,f112,xf,qe,qf,qg,qh,V.cM,mZ,V.aw];rw[show (nN 0 (m.g.us.flatMap (a.fd m.g)))=a.LO m.g from rfl]
 have aaE:∀z∈bz.map Prod.fst,∀r∈z.rs,LM m.g r.f:=by
  intro z hz r hr';obtain⟨x,hx,rfl⟩:=List.mem_map.1 hz;have:(x.1.i,x.1.rs.map Rf.f)∈nL bz:=List.mem_map.2 ⟨x,hx,rfl⟩;rw[hbz] at this;obtain⟨i,hi,he⟩:=List.mem_map.1 this;have SE:=congrArg Prod.snd he;simp only at SE;exact Z6 hr tJ (rK i hi) (by rw[SE];exact List.mem_map.2 ⟨r,hr',rfl⟩)
 have hzl:∀z∈bz.map Prod.fst,z.rs.length≤1000000:=by
  intro z hz;obtain⟨x,hx,rfl⟩:=List.mem_map.1 hz;have:=hl x hx;omega
 have aaF:∀x∈bz,x.1∈bz.map Prod.fst:=fun x hx=>List.mem_map.2 ⟨x,hx,rfl⟩
 obtain⟨zs,hzs⟩:∃zs,zs=bz.map Prod.fst:=⟨_,rfl⟩;rw[←hzs] at h7 aaE hzl aaF;refine jF h7 (((((((hm.bW _).bW _).bW _).bW _).bW _).bW _)) hg (fun uq2 uc2 H8 h8=> ?_);simp only[AJ,reduceIte,Nat.reduceEqDiff];have h9:az B H8 (iI mid (qt bz) bc::bw (zs.map Rz.bP)::IR none 0 (da [])::IR uq2 uc2 (da m.g.us)::dP aM a::iI pid (lT []) 0::uZ mpid (Pm.new N nb)::L):=(((az.uN h8).ord [5]).drop).ord [3,3];refine D5 (mpid:=mpid) (pid:=pid) hzl K4 m.g.us.length 0 bz bc [] (by omega) (by simp) hb aaF (fun bz2 bc2 spq spc H10 WH nf aaG xO=> ?_) h9;rw[List.drop_zero] at WH xO⊢;rw[List.nil_append] at xO⊢;rw[hby bz hbz] at WH xO⊢;simp only[AJ,reduceIte,Nat.reduceEqDiff,f25,uH,mC,mD,mE,mF,f112,xf,qe,qf,qg,qh,V.cM,mZ,V.aw];refine jF xO ((((((((hm.bW _).bW _).bW _).bW _).bW _).bW _).bW _)) hg (fun uq3 uc3 H11 AX=> ?_);simp only[AJ,reduceIte,Nat.reduceEqDiff];have h12:az B H11 (iI pid (lT []) 0::bw (zs.map Rz.bP)::iI mid (qt bz2) bc2::IR uq3 uc3 (da m.g.us)::IR spq spc (da (AQ m.g.us (a.RJ m.g)).2)::dP aM a::uZ mpid (Pm.new N nb)::L):=((AX.ord [4]).drop).ord [5,2,1];refine J8 (mpid:=mpid) (pid:=pid) (m:=m) aaG hzl aaE K4 (fun pz pc H13 Hx hpb EU QF=> ?_) m.g.us.length 0 [] 0 (by omega) rfl (xF.nil _) ⟨by simp,by simp⟩ h12;have aaH:xX pz=a.Bo m.g:=by rw[Hx,WH];rfl
 have hms:=Tg QF;simp only[AJ,reduceIte,Nat.reduceEqDiff,f25,uH,mC,mD,mE,mF,f112,xf,qe,qf,qg,qh,V.cM,mZ,V.aw,Option.isNone_some,hms];have WI:=QF.OW;obtain⟨it,hit⟩:∃it,it=H13.next:=⟨_,rfl⟩;have acX:H13.2=it:=hit.symm;rw[←hit] at WI;rw[acX];generalize (ag.alloc H13 _)=H14 at WI⊢
 have e0:Pm.new N nb=iX N nb pz []:=by
  unfold Pm.new iX;congr 1;apply List.ext_getElem
  ·simp
  ·intro i h1 h2;simp only[List.getElem_replicate,List.getElem_map];split<;>rfl
 rw[e0] at WI;have h15:az B H14 (ob it (.dM (some pid) pc [] pc)::iI pid (lT pz) pc::uZ mpid (iX N nb pz [])::bw (zs.map Rz.bP)::IR spq spc (da (AQ m.g.us (a.RJ m.g)).2)::dP aM a::L):=((WI.ord [3,3]).drop.drop).ord [0,0,3];refine Kb (m:=m) (mpid:=mpid) (pid:=pid) EU hpb (N:=N) (nb:=nb) (by omega) (by omega) (by omega) (by omega) (fun H16 seen hall h16=> ?_) _ [] (Nat.le_refl _) h15;simp only[AJ,reduceIte,Nat.reduceEqDiff,f25,uH,mC,mD,mE,mF,f112,xf,qe,qf,qg,qh]
 have efin:iX N nb pz seen=qw m.g (a.Bo m.g):=by
  unfold iX qw;rw[hN,hnb];congr 1;apply List.map_congr_left;intro i hi;rw[←aaH,wm]
  cases I9:ml i pz with
  |none=>rfl
  |some y=>
   have:=hall _ (List.mem_map.2 ⟨y,(nO I9).1,rfl⟩);simp only at this;simp only[this,if_true];rfl
 rw[efin] at h16;exact k mpid pid zs pz pc spq spc H16 aaH hpb EU (h16.drop.ord [1])
end
def fC (v:Vw) (i:Nat):Prop:=v i≠[]∧∀f∈v i,mt v f
theorem rm {v:Vw} {i:Nat} (h:mf v i):¬fC v i:=fun⟨_,h2⟩=>by
 obtain⟨f,hf,hm⟩:=h;exact hm (h2 f hf)
theorem Cb {v:Vw} {i:Nat} (h:¬fC v i) (hne:v i≠[]):mf v i:=
 Classical.byContradiction fun hn=>h ⟨hne,fun f hf=>Classical.byContradiction fun hm=>hn ⟨f,hf,hm⟩⟩
theorem Cc {i:Nat} (j:Nat):∀{l:List (Nat×List Fd)},(l.map Prod.fst).Nodup→hT j (xH i l)=if j=i then [] else hT j l
 |[],_=>by simp [xH,hT]
 |x::l,h=>by
  rw[List.map_cons,List.nodup_cons] at h;rw[xH];by_cases hx:x.1=i
  ·rw[if_pos hx];by_cases hj:j=i
   ·rw[if_pos hj,hj, ←hx]
    have:∀(l:List (Nat×List Fd)),x.1∉l.map Prod.fst→hT x.1 l=[]:=by
     intro l
     induction l with
     |nil=>intro;rfl
     |cons y l ih=>
      intro hn;rw[List.map_cons,List.mem_cons] at hn;rw[hT,if_neg (fun e=>hn (.inl e.symm))];exact ih (fun h=>hn (.inr h))
    exact this l h.1
   ·rw[if_neg hj,hT,if_neg (by omega)]
  ·rw[if_neg hx];by_cases hxj:x.1=j
   ·subst hxj;rw[hT,if_pos rfl,if_neg hx,hT,if_pos rfl]
   ·rw[hT,if_neg hxj,Cc j h.2,hT,if_neg hxj]
theorem LQ {i:Nat}:∀{l:List (Nat×List Fd)},(l.map Prod.fst).Nodup→((xH i l).map Prod.fst).Nodup
 |[],h=>h
 |x::l,h=>by
  have hsub:∀l:List (Nat×List Fd),(xH i l).Sublist l:=by
   intro l
   induction l with
   |nil=>exact .slnil
   |cons y l ih=>
    rw[xH];split
    ·exact List.sublist_cons_self _ _
    ·exact ih.cons_cons _
  exact h.sublist ((hsub (x::l)).map _)
theorem Gi (f:Nat→List Fd) (i:Nat):∀us:List Nat,hT i (us.map fun i=>(i,f i))=if i∈us then f i else []
 |[]=>rfl
 |j::us=>by
  rw[List.map_cons,hT,Gi f i us];by_cases h:j=i
  ·subst h;simp
  ·have:¬i=j:=fun e=>h e.symm
   simp [h,this]
section
variable {v:Vw} {c:Nat→List UInt8}
theorem IC (h:Gd v c) {cN:List (Nat×List Fd)} (hb:∀i,hT i cN=v i∨hT i cN=[]∧fC v i) {i:Nat} (hi:hT i cN=v i):kW cN i=true↔fC v i:=by
 have hl:∀(t:Fd) (o:Fd),o∈Iv cN t.s.fr→t.s.fr≠0∧o∈v (t.s.fr-1):=fun t o ho=>by
  unfold Iv at ho;split at ho
  ·cases ho
  ·rename_i hf;refine⟨hf, ?_⟩;rcases hb (t.s.fr-1) with e|⟨e,_⟩
   ·rw[e] at ho;exact ho
   ·rw[e] at ho;cases ho
 unfold kW;rw[hi]
 cases hv:v i with
 |nil=>exact⟨fun h=>(by cases h),fun h=>absurd hv h.1⟩
 |cons f l=>
  constructor
  ·intro hall;refine⟨by rw[hv];simp,fun t ht=> ?_⟩;rw[hv] at ht;have:=List.all_eq_true.1 hall t ht;unfold ta at this;simp only[Bool.and_eq_true,decide_eq_true_eq,List.any_eq_true] at this;obtain⟨h0,h1,o,ho,hm⟩:=this;rw[←h1] at ho;obtain⟨h2,h3⟩:=hl t o ho;exact⟨h2,o,h3,hm⟩
  ·intro hs;refine List.all_eq_true.2 fun t ht=> ?_
   have hf:f∈v i:=by rw[hv];exact List.mem_cons_self
   have ht':t∈v i:=by rw[hv];exact ht
   obtain⟨TS,_⟩:=hs.2 f hf;obtain⟨ht0,o,ho,hm⟩:=hs.2 t ht';have he:=h.a6 i t ht' f hf ht0 TS;have hn:=h.a7 i t ht' ⟨ht0,o,ho,hm⟩
   have hg:hT (t.s.fr-1) cN=v (t.s.fr-1):=by
    rcases hb (t.s.fr-1) with e|⟨_,e⟩
    ·exact e
    ·exact absurd e (rm hn)
   unfold ta;simp only[Bool.and_eq_true,decide_eq_true_eq,List.any_eq_true];refine⟨TS,he,o, ?_,hm⟩;unfold Iv;rw[if_neg TS, ←he,hg];exact ho
open Classical in
theorem zK (h:Gd v c):∀(us:List Nat) (cN:List (Nat×List Fd)),us.Nodup→(cN.map Prod.fst).Nodup→(∀i,hT i cN=v i∨hT i cN=[]∧fC v i)→(∀i∈us,hT i cN=v i)→
 ∀i,hT i (AQ us cN).1=if i∈us∧fC v i then [] else hT i cN
 |[],cN,_,_,_,_,i=>by simp [AQ]
 |j::us,cN,vx,hk,hb,hu,i=>by
  rw[List.nodup_cons] at vx;have hj:=hu j List.mem_cons_self;have hc:=IC h hb hj;rw[AQ];by_cases hs:fC v j
  ·rw[if_pos (hc.2 hs)];have hd:=fun i=>Cc (i:=j) i hk
   rw[zK h us (xH j cN) vx.2 (LQ hk) (fun i=> ?_) (fun i hi=> ?_) i,hd i]
   ·by_cases hij:i=j
    ·subst hij;simp [hs]
    ·simp [hij]
   ·rw[hd i];by_cases hij:i=j
    ·subst hij;exact .inr ⟨if_pos rfl,hs⟩
    ·rw[if_neg hij];exact hb i
   ·rw[hd i,if_neg (fun e=>vx.1 (by rw[←e];exact hi))];exact hu i (List.mem_cons_of_mem _ hi)
  ·rw[if_neg (fun e=>hs (hc.1 e)),zK h us cN vx.2 hk hb (fun i hi=>hu i (List.mem_cons_of_mem _ hi)) i];by_cases hij:i=j
   ·subst hij;simp [hs]
   ·simp [hij]
def Nw (pg S:List Fd) (x:Nat):Prop:=
 (jG x pg=none∧∀y∈S,y.s.aq≠x)∨∃f,jG x pg=some f∧f∈S∧f.s.aq=x∧∀y∈S,y.s.aq=x→y.s.seq≤f.s.seq
theorem Gj (x:Nat) (f:Fd):∀pg:List Fd,jG x (sf f pg)=if f.s.aq=x then (match jG x pg with|none=>some f|some o=>if o.s.seq<f.s.seq then some f else some o) else jG x pg
 |[]=>by simp [sf,jG]
 |o::l=>by
  rw[sf];by_cases ho:o.s.aq=f.s.aq
  ·rw[if_pos ho];by_cases hs:o.s.seq<f.s.seq
   ·rw[if_pos hs,jG,jG];by_cases hx:f.s.aq=x
    ·simp [hx,ho.trans hx,hs]
    ·have:¬o.s.aq=x:=fun e=>hx (ho.symm.trans e)
     simp [hx,this]
   ·rw[if_neg hs,jG];by_cases hx:f.s.aq=x
    ·simp [hx,ho.trans hx,hs]
    ·simp [hx]
  ·rw[if_neg ho,jG,Gj x f l,jG];by_cases hx:f.s.aq=x
   ·have:¬o.s.aq=x:=fun e=>ho (e.trans hx.symm)
    simp [hx,this]
   ·simp [hx]
theorem Nw.ins {pg S:List Fd} {x:Nat} (h:Nw pg S x) (f:Fd):Nw (sf f pg) (S++[f]) x:=by
 unfold Nw;rw[Gj];by_cases hx:f.s.aq=x
 ·rw[if_pos hx];right;rcases h with⟨h1,h2⟩|⟨g,h1,h2,h3,h4⟩
  ·rw[h1];refine⟨f,rfl,by simp,hx,fun y hy ha=> ?_⟩;rcases List.mem_append.1 hy with hy|hy
   ·exact absurd ha (h2 y hy)
   ·rw[List.mem_singleton] at hy;rw[hy];exact Nat.le_refl _
  ·rw[h1];by_cases hs:g.s.seq<f.s.seq
   ·refine⟨f,if_pos hs,by simp,hx,fun y hy ha=> ?_⟩;rcases List.mem_append.1 hy with hy|hy
    ·have:=h4 y hy ha;omega
    ·rw[List.mem_singleton] at hy;rw[hy];exact Nat.le_refl _
   ·refine⟨g,if_neg hs,List.mem_append.2 (.inl h2),h3,fun y hy ha=> ?_⟩;rcases List.mem_append.1 hy with hy|hy
    ·exact h4 y hy ha
    ·rw[List.mem_singleton] at hy;rw[hy];omega
 ·rw[if_neg hx];rcases h with⟨h1,h2⟩|⟨g,h1,h2,h3,h4⟩
  ·refine .inl ⟨h1,fun y hy=> ?_⟩;rcases List.mem_append.1 hy with hy|hy
   ·exact h2 y hy
   ·rw[List.mem_singleton] at hy;rw[hy];exact hx
  ·refine .inr ⟨g,h1,List.mem_append.2 (.inl h2),h3,fun y hy ha=> ?_⟩;rcases List.mem_append.1 hy with hy|hy
   ·exact h4 y hy ha
   ·rw[List.mem_singleton] at hy;rw[hy] at ha;exact absurd ha hx
theorem Nw.all {x:Nat}:∀(l:List Fd) {pg S:List Fd},Nw pg S x→Nw (u5 pg l) (S++l) x
 |[],pg,S,h=>by simpa [u5] using h
 |f::l,pg,S,h=>by
  have:=Nw.all l (h.ins f);rw[List.append_assoc] at this;exact this
theorem Nw.aE {x:Nat} {cN:List (Nat×List Fd)}:∀(us:List Nat) {pg S:List Fd},Nw pg S x→Nw (eD cN pg us) (S++us.flatMap fun i=>hT i cN) x
 |[],pg,S,h=>by simpa [eD] using h
 |i::us,pg,S,h=>by
  have:=Nw.aE (cN:=cN) us (h.all (hT i cN));rw[List.append_assoc] at this;exact this
theorem RL (h:Gd v c) {us:List Nat} (vx:us.Nodup) (hout:∀i,i∉us→v i=[]) (x:Nat):(jG x (eD (AQ us (us.map fun i=>(i,v i))).1 [] us)=none∧∀b,∀f∈v b,f.s.aq≠x)∨∃f,jG x (eD (AQ us (us.map fun i=>(i,v i))).1 [] us)=some f∧f∈v f.b∧¬fC v f.b∧xI v c x f:=by
 have hk:((us.map fun i=>(i,v i)).map Prod.fst).Nodup:=by
  rw[List.map_map];have:us.map (Prod.fst ∘ fun i=>(i,v i))=us:=List.map_id _;rw[this];exact vx
 have hg:∀i,hT i (us.map fun i=>(i,v i))=v i:=fun i=>by
  rw[Gi v i us];split
  ·rfl
  ·rename_i hi;exact(hout i hi).symm
 have hsp:=zK h us _ vx hk (fun i=>.inl (hg i)) (fun i _=>hg i);obtain⟨cN,hby⟩:∃cN,cN=(AQ us (us.map fun i=>(i,v i))).1:=⟨_,rfl⟩
 rw[←hby] at hsp⊢
 have hS:∀y:Fd,y∈([]++us.flatMap fun i=>hT i cN)↔∃i,y∈v i∧¬fC v i:=fun y=>by
  rw[List.nil_append,List.mem_flatMap];constructor
  ·rintro⟨i,hi,hy⟩;rw[hsp i,hg i] at hy;split at hy
   ·cases hy
   ·rename_i hn;exact⟨i,hy,fun hs=>hn ⟨hi,hs⟩⟩
  ·rintro⟨i,hy,hs⟩;have hi:i∈us:=Classical.byContradiction fun hi=>by rw[hout i hi] at hy;cases hy
   refine⟨i,hi, ?_⟩;rw[hsp i,hg i,if_neg (fun hh=>hs hh.2)];exact hy
 have hN:Nw (eD cN [] us) ([]++us.flatMap fun i=>hT i cN) x:=Nw.aE us (.inl ⟨rfl,fun y hy=>by cases hy⟩)
 have hfind:∀b,∀t∈v b,t.s.aq=x→∃u i,u∈v i∧¬fC v i∧u.s.aq=x∧u.s.seq≤t.s.seq∧(∀b',∀y∈v b',y.s.aq=x→u.s.seq≤y.s.seq→y.s.seq≤t.s.seq→y.s.data=t.s.data∨¬fC v b):=fun b t ht hx=>by
  by_cases hs:fC v b
  ·obtain⟨u,hu,h1,h2,h3,h4⟩:=h.a3 b t ht (hs.2 t ht);refine⟨u,_,hu,rm (h.a7 b t ht (hs.2 t ht)),h1.trans hx,Nat.le_of_lt h2,fun b' y hy Jd hs1 n7=>.inl (h4 b' y hy (Jd.trans hx.symm) hs1 n7)⟩
  ·exact⟨t,b,ht,hs,hx,Nat.le_refl _,fun _ _ _ _ _ _=>.inr hs⟩
 rcases hN with⟨h1,h2⟩|⟨f,h1,h2,h3,h4⟩
 ·refine .inl ⟨h1,fun b t ht hx=> ?_⟩;obtain⟨u,i,hu,hui,hux,_⟩:=hfind b t ht hx;exact h2 u ((hS u).2 ⟨i,hu,hui⟩) hux
 ·obtain⟨i,SG,his⟩:=(hS f).1 h2;have hfb:=h.oy i f SG;refine .inr ⟨f,h1,by rw[hfb];exact SG,by rw[hfb];exact his,h3, ?_⟩;rcases h.a2 x with⟨_,hno⟩|⟨b,t,ht,htx,htd,htn⟩
  ·exact absurd h3 (hno i f SG)
  ·obtain⟨u,j,hu,huj,hux,rK,acY⟩:=hfind b t ht htx;have huf:=h4 u ((hS u).2 ⟨j,hu,huj⟩) hux
   have key:∀b',∀y∈v b',y.s.aq=x→f.s.seq≤y.s.seq→y.s.data=c x:=fun b' y hy Jd hys=>by
    by_cases hty:t.s.seq≤y.s.seq
    ·exact htn b' y hy Jd hty
    ·rcases acY b' y hy Jd (by omega) (by omega) with e|hs
     ·rw[e];exact htd
     ·have:=h4 t ((hS t).2 ⟨b,ht,hs⟩) htx;omega
   exact⟨key i f SG h3 (Nat.le_refl _),key⟩
end
structure Po where
 bl:List (Nat×Nat)
def fN (b:Nat):List (Nat×Nat)→Option Nat
 |[]=>none
 |x::l=>if x.1=b then some x.2 else fN b l
def Po.how (p:Po) (b:Nat):Option Nat:=fN b p.bl
def qx (b h:Nat):List (Nat×Nat)→List (Nat×Nat)
 |[]=>[]
 |x::l=>if x.1=b then (x.1,h)::l else x::qx b h l
def Po.cw (p:Po) (b h:Nat):Po:=⟨qx b h p.bl⟩
def D8:List (Nat×Nat)→Option Nat
 |[]=>none
 |x::l=>if x.2=2 then some x.1 else D8 l
def Po.kL (p:Po):Option Nat:=D8 p.bl
def Po.count (p:Po) (h:Nat):Nat:=p.bl.countP fun x=>decide (x.2=h)
def Po.jH (p:Po):Po:=match p.kL with|some o=>p.cw o 1|none=>p
def Po.set (p:Po) (b h:Nat):Po:=if p.how b=some 3∧h≠3 then p else (if h=2 then p.jH else p).cw b h
def gu (h:Nat) (w:List Int):List (Nat×Nat)→Option Nat→Option Nat
 |[],o=>o
 |x::l,o=>if x.2≠h∨w.length≤x.1 then gu h w l o else match o with
  |none=>gu h w l (some x.1)
  |some b=>if w.getD x.1 0<w.getD b 0 then gu h w l (some x.1) else gu h w l (some b)
def Po.iY (p:Po) (h:Nat) (w:List Int):Option Nat:=gu h w p.bl none
def Po.new (bs:List Nat):Po:=⟨bs.map fun b=>(b,0)⟩
structure Po.ok (p:Po):Prop where
 lt:(p.bl.map Prod.fst).Pairwise (· < ·)
 b:∀x∈p.bl,x.1<64
 h:∀x∈p.bl,x.2≤3
theorem kl (b h:Nat):∀l,(qx b h l).map Prod.fst=l.map Prod.fst
 |[]=>rfl
 |x::l=>by
  rw[qx];split
  ·rfl
  ·rw[List.map_cons,kl b h l,List.map_cons]
theorem zL {b h:Nat} {x:Nat×Nat}:∀{l},x∈qx b h l→x∈l∨x=(b,h)
 |y::l,hx=>by
  rw[qx] at hx;split at hx
  ·rename_i e;rcases List.mem_cons.1 hx with rfl|hx
   ·right;rw[e]
   ·exact .inl (List.mem_cons_of_mem _ hx)
  ·rcases List.mem_cons.1 hx with rfl|hx
   ·exact .inl List.mem_cons_self
   ·exact(zL hx).imp (List.mem_cons_of_mem _) id
theorem Po.ok.cw {p:Po} (hp:p.ok) {b h:Nat} (hb:b<64) (hh:h≤3):(p.cw b h).ok:=by
 refine⟨?_,fun x hx=> ?_,fun x hx=> ?_⟩
 ·show ((qx b h p.bl).map Prod.fst).Pairwise _
  rw[kl];exact hp.lt
 ·rcases zL hx with hx|rfl
  ·exact hp.b x hx
  ·exact hb
 ·rcases zL hx with hx|rfl
  ·exact hp.h x hx
  ·exact hh
theorem qy {o:Nat}:∀{l:List (Nat×Nat)},D8 l=some o→(o,2)∈l
 |x::l,h=>by
  rw[D8] at h;split at h
  ·rename_i e;cases h;rw[←e];exact List.mem_cons_self
  ·exact List.mem_cons_of_mem _ (qy h)
theorem Po.ok.jH {p:Po} (hp:p.ok):p.jH.ok:=by
 unfold Po.jH
 cases ho:p.kL with
 |none=>exact hp
 |some o=>exact hp.cw (hp.b _ (qy ho)) (by omega)
theorem Po.ok.set {p:Po} (hp:p.ok) {b h:Nat} (hb:b<64) (hh:h≤3):(p.set b h).ok:=by
 unfold Po.set;split
 ·exact hp
 ·split
  ·exact hp.jH.cw hb hh
  ·exact hp.cw hb hh
theorem km {b:Nat}:∀{l:List (Nat×Nat)},(fN b l).isSome=true↔b∈l.map Prod.fst
 |[]=>by simp [fN]
 |x::l=>by
  rw[fN];split
  ·rename_i e;simp [e]
  ·rename_i e;rw[km,List.map_cons,List.mem_cons];exact⟨.inr,fun h=>h.elim (fun h=>absurd h.symm e) id⟩
theorem ID (p:Po):p.jH.bl.map Prod.fst=p.bl.map Prod.fst:=by
 unfold Po.jH
 cases p.kL with
 |none=>rfl
 |some o=>exact kl ..
theorem RM (p:Po) (b h:Nat):(p.set b h).bl.map Prod.fst=p.bl.map Prod.fst:=by
 unfold Po.set;split
 ·rfl
 ·split
  ·exact(kl ..).trans (ID p)
  ·exact kl ..
def nP:List (Nat×Nat)→Nat→List En
 |[],_=>[]
 |x::l,i=>⟨x.1,.int .u8 x.2,i⟩::nP l (i+1)
theorem u7 {b:Nat}:∀(l:List (Nat×Nat)) (i:Nat),Hn (b:Int) (nP l i)=(fN b l).map fun h:Nat=>V.int .u8 (h:Int)
 |[],_=>rfl
 |x::l,i=>by
  rw[nP,Hn,fN,u7 l (i+1)];by_cases h:x.1=b
  ·have:(x.1:Int)=(b:Int):=by omega
   simp [h]
  ·have:¬(x.1:Int)=(b:Int):=by omega
   simp [h,this]
theorem Gk {b h:Nat}:∀(l:List (Nat×Nat)) (i:Nat),Bq (b:Int) (.int .u8 (h:Int)) (nP l i)=nP (qx b h l) i
 |[],_=>rfl
 |x::l,i=>by
  rw[nP,Bq,qx,Gk l (i+1)];by_cases hx:x.1=b
  ·have:(x.1:Int)=(b:Int):=by omega
   simp [hx,nP]
  ·have:¬(x.1:Int)=(b:Int):=by omega
   simp [hx,this,nP]
theorem Pa:∀(l:List (Nat×Nat)) (i:Nat),(nP l i).map En.b=List.range' i l.length
 |[],_=>rfl
 |x::l,i=>by
  rw[nP,List.map_cons,Pa l (i+1),List.length_cons,List.range'_succ]
theorem D9 (l:List (Nat×Nat)):xF (nP l 0) l.length:=by
 rw[D1,Pa];refine⟨List.pairwise_lt_range',fun b hb=> ?_⟩;rw[List.mem_range'_1] at hb;omega
theorem Kc:∀(l:List (Nat×Nat)) (x:Nat×Nat) (i:Nat),nP (l++[x]) i=nP l i++[⟨x.1,.int .u8 x.2,i+l.length⟩]
 |[],x,i=>rfl
 |y::l,x,i=>by
  show _::nP (l++[x]) (i+1)=_
  rw[Kc l x (i+1)];show _=_::(nP l (i+1)++_)
  congr 4;simp;omega
structure Pz where
 q:Oq
 c:Nat
 mid:Nat
def VP (p:Po) (x:Pz):List V:=Lt x.q p.bl.length x.c (some x.mid)
def Ea (id:Nat) (p:Po):cA:=EX fun x:Pz=>bw [dj id 166 (VP p x),IR x.q x.c (da (p.bl.map Prod.fst)),iI x.mid (nP p.bl 0) p.bl.length]
section
variable {B:ag} {L:List cA} {H:ag} {K:V→ag→Prop} {id:Nat} {p:Po} {x:Pz}
abbrev zM (B H:ag) (id:Nat) (p:Po) (x:Pz) (L:List cA):Prop:=az B H (dj id 166 (VP p x)::IR x.q x.c (da (p.bl.map Prod.fst))::iI x.mid (nP p.bl 0) p.bl.length::L)
theorem zM.of (h:az B H (Ea id p::L)):∃x,zM B H id p x L:=by
 obtain⟨x,h⟩:=h.M6;exact⟨x,h.LD⟩
theorem zM.to (h:zM B H id p x L):az B H (Ea id p::L):=by
 have h2:az B H (bw [dj id 166 (VP p x),IR x.q x.c (da (p.bl.map Prod.fst)),iI x.mid (nP p.bl 0) p.bl.length]::L):=az.sV h;exact az.intro h2
structure PoG (H:ag) (id:Nat) (p:Po) (x:Pz):Prop where
 i0:H.inb id 0 1=true
 i1:H.inb id 1 1=true
 c0:H.cell id 0=.slice x.q p.bl.length x.c
 c1:H.cell id 1=.map (some x.mid)
 w0:H.wr id 0 1=true
 mo:eG H .i64 (some x.mid)=true
 ms:H.isMap x.mid=true
 mg:∀(b:Nat) z,cj H (some x.mid) (b:Int) z=((p.how b).map fun h:Nat=>V.int .u8 (h:Int)).getD z
 mh:∀(b:Nat),lk H (some x.mid) (b:Int)=(p.how b).isSome
 r:∀(i:Nat) (hi:i<p.bl.length),x.q.isSome=true∧H.inb (pb x.q) (po x.q+i*1) 1=true∧H.cell (pb x.q) (po x.q+i*1)=.int .i64 ((p.bl[i]).1:Int)
theorem VQ (h:zM B H id p x L):PoG H id p x:=by
 have hg:=h.get;have hl:(VP p x).length=2:=rfl;have hm:=h.ord [2];refine⟨nG hg (by omega),nG hg (by omega),aY hg 0,aY hg 1,fK hg 0 1,uV hm,Tg hm,fun b z=> ?_,fun b=> ?_,fun i hi=> ?_⟩
 ·rw[zF hm,u7];rfl
 ·rw[OT hm,u7,Option.isSome_map];rfl
 ·have:=(az.uL (h.ord [1])).at (i:=i) (by simpa using hi);simpa [da] using this
theorem zM.cw (h:zM B H id p x L) {b:Nat} (hb:(p.how b).isSome=true) (hw:Nat):zM B (ik H .i64 x.mid (b:Int) (.int .u8 (hw:Int))) id (p.cw b hw) x L:=by
 have h1:=(h.ord [2]).J2 (b:Int) (.int .u8 (hw:Int))
 have e:rN (b:Int) (.int .u8 (hw:Int)) (nP p.bl 0) p.bl.length=(nP (p.cw b hw).bl 0,p.bl.length):=by
  unfold rN;rw[u7,Option.isSome_map];have:(fN b p.bl).isSome=true:=hb;rw[if_pos this,Gk];rfl
 rw[e] at h1
 have hl:(p.cw b hw).bl.length=p.bl.length:=by
  have:=congrArg List.length (kl b hw p.bl);rw[List.length_map,List.length_map] at this;exact this
 unfold zM VP;rw[hl,show (p.cw b hw).bl.map Prod.fst=p.bl.map Prod.fst from kl ..];exact h1.ord [1,1]
end
theorem Pb {p:Po} (hp:p.ok) {i:Nat} (hi:i<p.bl.length):p.how (p.bl[i]).1=some (p.bl[i]).2:=by
 have key:∀(l:List (Nat×Nat)) (i:Nat) (hi:i<l.length),(l.map Prod.fst).Pairwise (· < ·)→fN (l[i]).1 l=some (l[i]).2:=by
  intro l
  induction l with
  |nil=>intro i hi;cases hi
  |cons x l ih=>
   intro i hi hp;rw[List.map_cons,List.pairwise_cons] at hp
   cases i with
   |zero=>simp [fN]
   |succ i=>
    have hi':i<l.length:=Nat.lt_of_succ_lt_succ hi;have:=hp.1 (l[i]).1 (List.mem_map.2 ⟨_,List.getElem_mem hi',rfl⟩);rw[List.getElem_cons_succ,fN,if_neg (by omega)];exact ih i hi' hp.2
 exact key _ _ _ hp.lt
theorem Po.ok.Gl {p:Po} (hp:p.ok):(p.bl.map Prod.fst).Nodup:=List.Pairwise.imp (fun {a b} (h:a<b)=>Nat.ne_of_lt h) hp.lt
theorem Po.ok.len {p:Po} (hp:p.ok):p.bl.length≤64:=by
 have h3:=List.Nodup.length_le_of_subset hp.Gl (l₂:=List.range 64) (fun b hb=>by
  obtain⟨x,hx,rfl⟩:=List.mem_map.1 hb
  exact List.mem_range.2 (hp.b x hx))
 simpa using h3
theorem Cd (h:Nat):∀(l:List (Nat×Nat)) (i:Nat),(nP l i).countP (fun y=>decide (V.aa y.v=(h:Int)))=l.countP fun x=>decide (x.2=h)
 |[],_=>rfl
 |x::l,i=>by
  rw[nP,List.countP_cons,List.countP_cons,Cd h l (i+1)];have:decide (V.aa (V.int .u8 (x.2:Int))=(h:Int))=decide (x.2=h):=decide_eq_decide.2 (by rw[aZ];omega);simp only[this]
theorem Kd:∀(l:List (Nat×Nat)) (i:Nat),∀e∈nP l i,∃h:Nat,e.v=.int .u8 (h:Int)
 |x::l,i,e,he=>by
  rw[nP] at he;rcases List.mem_cons.1 he with rfl|he
  ·exact⟨_,rfl⟩
  ·exact Kd l _ e he
section
variable {B:ag} {L L':List cA} {H:ag} {K:V→ag→Prop} {id:Nat} {p:Po} {x:Pz}
theorem Gn (hx:zM B H id p x L) (hp:p.ok) {Kr:Am.St→Prop} {Ke:Nat→Am.St→Prop}:∀(k i:Nat),i+k=p.bl.length→(match D8 (p.bl.drop i) with
 |some o=>Kr (St.mk (ab [(2,T.v (V.int .i64 (o:Int))),(3,T.v (V.bool true))]) (ab []) H)
 |none=>Ke 0 (St.mk (ab []) (ab []) H))→
 lo 103 4
  (St.mk (ab [(0,T.v (V.aj (some (id,0)))),(11,T.v (V.slice x.q p.bl.length x.c)),(12,T.v (V.int .i64 (p.bl.length:Int))),(13,T.v (V.int .i64 (i:Int)))]) (ab []) H) Kr Ke
 |0,i,hi,hk=>by
  obtain rfl:i=p.bl.length:=by omega
  rw[List.drop_length] at hk;rw[Ju,decide_eq_false (by omega),ai];exact hk
 |k+1,i,hi,hk=>by
  have hlt:i<p.bl.length:=by omega
  have g:=VQ hx;obtain⟨s1,i1,c1⟩:=g.r i hlt;have a1:(i:Int)<(p.bl.length:Int):=by omega
  have a2:0≤(i:Int):=by omega
  have hh:=Pb hp hlt;have hb:=hp.b _ (List.getElem_mem hlt);have hle:=hp.len;rw[List.drop_eq_getElem_cons hlt,D8] at hk;rw[Ju];simp only[AJ,reduceIte,Nat.reduceEqDiff,a1,a2,Int.toNat_natCast,s1,i1,c1,Option.isSome_some,Nat.zero_add,g.i1,g.c1,V.cM,V.aw,g.mo,g.mg,hh,Option.map_some];by_cases h2:(p.bl[i]).2=2
  ·have Bw:((p.bl[i]).2:Int)=2:=by omega
   rw[if_pos h2] at hk;simp only[Bw,decide_true,ak];exact hk
  ·have Bw:¬((p.bl[i]).2:Int)=2:=by omega
   rw[if_neg h2] at hk;simp only[Bw,decide_false,ai];rw[aL (by omega)];exact Gn hx hp k (i+1) (by omega) hk
theorem Gp (h:az B H (Ea id p::L)) (hp:p.ok):(K (.tuple [.int .i64 ((p.kL.getD 0:Nat):Int),.bool p.kL.isSome]) H)→cl 103 [.aj (some (id,0))] H K:=by
 intro k;obtain⟨x,hx⟩:=zM.of h;have g:=VQ hx;rw[Y8];simp only[AJ,reduceIte,Nat.reduceEqDiff,Option.isNone_some,Option.isSome_some,g.i0,g.c0];refine Gn hx hp p.bl.length 0 (by omega) ?_;rw[List.drop_zero];have e:D8 p.bl=p.kL:=rfl;rw[e]
 cases ho:p.kL with
 |none=>simp only[AJ,reduceIte,Nat.reduceEqDiff];rw[ho] at k;exact k
 |some o=>simp only[AJ,reduceIte,Nat.reduceEqDiff];rw[ho] at k;exact k
theorem Ce {mid it:Nat} (hp:p.ok) (hw:Nat) {Kr:Am.St→Prop} {Ke:Nat→Am.St→Prop} (hk:∀H',az B H' L→Ke 0 (St.mk (ab [(5,T.v (V.int .i64 (p.count hw:Int)))]) (ab []) H')) (hL:∀H seen,az B H (ob it (.dM (some mid) p.bl.length seen p.bl.length)::iI mid (nP p.bl 0) p.bl.length::L')→az B H L):∀(k:Nat) (seen:List Nat) {H:ag},(nP p.bl 0).countP (fun y=>decide (y.b∉seen))≤k→az B H (ob it (.dM (some mid) p.bl.length seen p.bl.length)::iI mid (nP p.bl 0) p.bl.length::L')→lo 93 5 (St.mk (ab [(1,T.v (V.int .u8 (hw:Int))),(5,T.v (V.int .i64 (((nP p.bl 0).countP (fun y=>decide (y.b∈seen)&&decide (V.aa y.v=(hw:Int))):Nat):Int))),(14,T.v (V.dM 164 it))]) (ab []) H) Kr Ke
 |k,seen,H,hle,h=>by
  rw[Vy];refine h.OV (D9 _) (fun hall=> ?_) (fun e he hn H' h' hok hkey hval=> ?_)
  ·have e1:(nP p.bl 0).countP (fun y=>decide (y.b∈seen)&&decide (V.aa y.v=(hw:Int)))=p.count hw:=by
    unfold Po.count;rw[←Cd hw p.bl 0];apply List.countP_congr;intro y hy;simp [hall y hy]
   rw[e1];exact hk H (hL H seen h)
  ·obtain⟨hv,ev⟩:=Kd _ _ e he;have hs:=oK (fun y=>decide (V.aa y.v=(hw:Int))) hn (D9 p.bl).lt he;have n7:=oK (fun _=>true) hn (D9 p.bl).lt he;simp only[Bool.and_true,if_true] at n7
   have hlen:(nP p.bl 0).length=p.bl.length:=by
    have:=congrArg List.length (Pa p.bl 0);simpa using this
   have adi:=hp.len
   have wN:∀(q:En→Bool),(nP p.bl 0).countP q≤64:=fun q=>by
    have:=List.countP_le_length (p:=q) (l:=nP p.bl 0);omega
   have hneg:∀s:List Nat,(nP p.bl 0).countP (fun y=>decide (y.b∈s))+(nP p.bl 0).countP (fun y=>decide (y.b∉s))=(nP p.bl 0).length:=by
    intro s;have:=List.length_eq_countP_add_countP (fun y:En=>decide (y.b∈s)) (l:=nP p.bl 0);rw[this];congr 1;apply List.countP_congr;intro y _;simp
   have n1:=hneg seen;have n2:=hneg (seen++[e.b])
   cases k with
   |zero=>omega
   |succ k=>
    rw[ev] at hval hs;simp only[hok,hkey,hval,AJ,reduceIte,Nat.reduceEqDiff];have ih:=Ce hp hw hk hL k (seen++[e.b]) (H:=H') (by omega) h' (Kr:=Kr);rw[hs] at ih;by_cases hh:(hv:Int)=(hw:Int)
    ·simp only[hh,decide_true,ak];rw[aL (by have:=wN (fun y=>decide (y.b∈seen)&&decide (V.aa y.v=(hw:Int)));omega)];simpa [hh] using ih
    ·simp only[hh,decide_false,ai];simpa [hh] using ih
theorem wo (h:az B H (Ea id p::L)) (hp:p.ok) (hw:Nat) (k:∀H',az B H' (Ea id p::L)→K (.int .i64 (p.count hw:Int)) H'):cl 93 [.aj (some (id,0)),.int .u8 (hw:Int)] H K:=by
 obtain⟨x,hx⟩:=zM.of h;have g:=VQ hx;rw[abP];simp only[AJ,reduceIte,Nat.reduceEqDiff,Option.isNone_some,Option.isSome_some,Nat.zero_add,g.i1,g.c1,V.cM,V.aw,g.ms];have h1:=(hx.ord [2]).OW
 have:=Ce (L':=dj id 166 (VP p x)::IR x.q x.c (da (p.bl.map Prod.fst))::L) (L:=Ea id p::L) (mid:=x.mid) (it:=H.next) hp hw (Kr:=fun _=>False)
  (Ke:=fun j S'=>br (decide (j=0)) (ah (aB (KT.k (.int .i64)) (S'.1 5)) (K (V.int .i64 (V.aa (T.val (S'.1 5)))) S'.3)) False) (fun H' h'=>by simp only[AJ,reduceIte,Nat.reduceEqDiff];exact k H' h')
  (fun H seen hh=>zM.to (x:=x) ((hh.drop).ord [1,1])) _ [] (Nat.le_refl _) h1
 simpa using this
theorem kY (h:az B H (Ea id p::L)) (hp:p.ok) {b hw:Nat} (hb:(p.how b).isSome=true) (hh:hw≤3) (k:∀e H',az B H' (Ea id (p.set b hw)::L)→K (.int .i64 e) H'):cl 63 [.aj (some (id,0)),.int .i64 (b:Int),.int .u8 (hw:Int)] H K:=by
 obtain⟨x,hx⟩:=zM.of h;have g:=VQ hx;obtain⟨w,aaI⟩:=Option.isSome_iff_exists.1 hb;rw[abC];have a1:¬(hw:Int)>3:=by omega
 simp only[AJ,reduceIte,Nat.reduceEqDiff,Option.isNone_some,Option.isSome_some,Nat.zero_add,g.i1,g.c1,V.cM,V.aw,g.mo,g.mg,g.mh,aaI,Option.map_some,cond_true,a1];unfold Po.set at k;rw[aaI] at k;by_cases hd:w=3∧hw≠3
 ·have e:(decide ((w:Int)=3)&& !decide ((hw:Int)=3))=true:=by
   have h1:(w:Int)=3:=by omega
   have h2:¬(hw:Int)=3:=by omega
   simp [h1,h2]
  have hd':(some w=some 3∧hw≠3):=⟨by rw[hd.1],hd.2⟩;rw[if_pos hd'] at k;rw[e,ak];exact k _ _ (zM.to hx)
 ·have e:(decide ((w:Int)=3)&& !decide ((hw:Int)=3))=false:=by
   by_cases h1:w=3
   ·have h2:(hw:Int)=3:=by omega
    simp [h2]
   ·have xq:¬(w:Int)=3:=by omega
    simp [xq]
  have hd':¬(some w=some 3∧hw≠3):=fun hh=>hd ⟨Option.some.inj hh.1,hh.2⟩
  rw[if_neg hd'] at k;rw[e,ai];by_cases h2:hw=2
  ·rw[if_pos h2] at k;have Bw:(hw:Int)=2:=by omega
   simp only[Bw,decide_true,ak];refine Gp (zM.to hx) hp ?_;simp only[AJ,reduceIte,Nat.reduceEqDiff];unfold Po.jH at k
   cases ho:p.kL with
   |none=>
    rw[ho] at k;simp only[Option.isSome_none,ai,g.i1,g.c1,V.cM,V.aw,g.mo,AJ,reduceIte,Nat.reduceEqDiff,Option.isSome_some];have:=hx.cw hb hw;rw[Bw] at this;exact k _ _ (zM.to this)
   |some o=>
    rw[ho] at k;have hob:(p.how o).isSome=true:=km.2 (List.mem_map.2 ⟨_,qy ho,rfl⟩);have h3:=hx.cw hob 1;have g3:=VQ h3
    have E2:((p.cw o 1).how b).isSome=true:=by
     refine km.2 ?_;show b∈(qx o 1 p.bl).map Prod.fst
     rw[kl];exact km.1 hb
    have h4:=h3.cw E2 hw;rw[Bw] at h4;simp only[Option.isSome_some,ak,g.i1,g.c1,V.cM,V.aw,g.mo,AJ,reduceIte,Nat.reduceEqDiff,Option.getD_some];have e1:(((1:Nat):Int))=1:=rfl;rw[e1] at h3 g3 h4;simp only[g3.i1,g3.c1,V.cM,V.aw,g3.mo,AJ,reduceIte,Nat.reduceEqDiff,Option.isSome_some];exact k _ _ (zM.to h4)
  ·rw[if_neg h2] at k;have Bw:¬(hw:Int)=2:=by omega
   simp only[Bw,decide_false,ai,g.i1,g.c1,V.cM,V.aw,g.mo,AJ,reduceIte,Nat.reduceEqDiff,Option.isSome_some];exact k _ _ (zM.to (hx.cw hb hw))
end
section
variable {B:ag} {L L':List cA} {H:ag} {K:V→ag→Prop} {id:Nat} {p:Po} {x:Pz} {q:Oq} {c:Nat} {l:List Int}
theorem LR (h:az B H L) (hr:Ox H q l) (hb:l.length≤1000000) (k:∀q' c' H',az B H' (IR q' c' l::L)→K (.slice q' l.length c') H'):cl 101 [.slice q l.length c] H K:=by
 rw[Y6]
 cases q with
 |none=>
  have:l=[]:=by
   rcases hr with h|⟨_,_,_,_,_,h,_⟩
   ·simpa [v9] using h
   ·cases h
  subst this;exact k none 0 H (az.uN h)
 |some q=>
  rw[Option.isNone_some,ai];have h1:az B (H.alloc (.cells 3 [] false)) (Rw 3 1 (some (H.next,0)) 0 []::L):=h.DN (el:=3) (n:=1) (len:=0) (c:=0) (l:=[]) (cs:=[]) (by simp) (fun v hv=>by cases hv) (by omega) (by simp) (by simp)
  have xN:Rd (H.alloc (.cells 3 [] false)) (some q) (l.map fun i=>[V.int .i64 i]).flatten:=by
   rw[wa];exact Rd.fr hr h.ok (Fr.alloc H _ (fun _=>False)) (fun _ _ _=>id)
  have hu:pq 1 (l.map fun i=>[V.int .i64 i]):=by
   intro c hc;obtain⟨r,_,rfl⟩:=List.mem_map.1 hc;exact⟨rfl,fun v hv=>by rw[List.mem_singleton] at hv;subst hv;rfl⟩
  have:=h1.Z0 (c2:=c) (K:=fun q n c H'=>K (.slice q n c) H') JP JQ (fun v hv=>by rw[List.mem_singleton] at hv;subst hv;rfl) rfl (by omega) xN hu (by simp;omega) (fun q' c' H' h'=>by
   have:=k q' c' H' h'
   simpa using this)
  simpa using this
theorem RN {b:Nat} {l:List Nat} (h:∀x∈l,x<b):Hn (b:Int) (nP (l.map fun b=>(b,0)) 0)=none:=by
 rw[u7]
 have:fN b (l.map fun b=>(b,0))=none:=by
  cases hh:fN b (l.map fun b=>(b,0)) with
  |none=>rfl
  |some y=>
   have:=km.1 (by rw[hh];rfl:(fN b (l.map fun b=>(b,0))).isSome=true);rw[List.map_map] at this;obtain⟨z,hz,rfl⟩:=List.mem_map.1 this;have:=h z hz;simp at this
 rw[this];rfl
theorem Kf {mid:Nat} {l:List Nat} (hr:FZ B L q (da l)) (hlt:l.Pairwise (· < ·)) (hb:∀b∈l,b<64) (hl:l.length≤64) {Kr:Am.St→Prop} {Ke:Nat→Am.St→Prop} (hk:∀H',az B H' (dj id 166 (Lt none 0 0 (some mid))::iI mid (nP (l.map fun b=>(b,0)) 0) l.length::L)→Ke 0 (St.mk (ab [(0,T.v (V.slice q l.length c)),(4,T.v (V.aj (some (id,0))))]) (ab []) H')):∀(k i:Nat) {H:ag},i+k=l.length→az B H (dj id 166 (Lt none 0 0 (some mid))::iI mid (nP ((l.take i).map fun b=>(b,0)) 0) i::L)→lo 60 3 (St.mk (ab [(0,T.v (V.slice q l.length c)),(4,T.v (V.aj (some (id,0)))),(10,T.v (V.slice q l.length c)),(11,T.v (V.int .i64 (l.length:Int))),(12,T.v (V.int .i64 (i:Int)))]) (ab []) H) Kr Ke
 |0,i,H,hi,h=>by
  obtain rfl:i=l.length:=by omega
  rw[List.take_length] at h;rw[N5,decide_eq_false (by omega),ai];exact hk H h
 |k+1,i,H,hi,h=>by
  have mM:i<l.length:=by omega
  have hrH:=hr H h.drop.drop;obtain⟨s1,i1,c1⟩:=hrH.at (i:=i) (by simpa using mM);have e1:(da l)[i]'(by simpa using mM)=(l[i]:Int):=by simp [da]
  rw[e1] at c1;have hg:=h.get;have hgl:(Lt none 0 0 (some mid)).length=2:=rfl;have j1:H.inb id 1 1=true:=nG hg (by omega);have d1:H.cell id 1=.map (some mid):=aY hg 1;have hm:=h.swap;have hmo:=uV hm;have a1:(i:Int)<(l.length:Int):=by omega
  have a2:0≤(i:Int):=by omega
  have hbi:=hb _ (List.getElem_mem mM);have a3:¬(l[i]:Int)<0:=by omega
  have a4:¬(l[i]:Int)≥64:=by omega
  rw[N5];simp only[AJ,reduceIte,Nat.reduceEqDiff,a1,a2,Int.toNat_natCast,s1,i1,c1,a3,a4,aN,cond_true,if_true,Bool.false_eq_true,if_false,Option.isSome_some,Nat.zero_add];have gB:=hm.J2 (l[i]:Int) (.int .u8 0)
  have ET:rN (l[i]:Int) (.int .u8 0) (nP ((l.take i).map fun b=>(b,0)) 0) i=(nP ((l.take (i+1)).map fun b=>(b,0)) 0,i+1):=by
   unfold rN
   rw[RN (fun x hx=>by
    obtain⟨j,hj,rfl⟩:=List.mem_iff_getElem.1 hx;rw[List.length_take] at hj;rw[List.getElem_take]
    exact List.pairwise_iff_getElem.1 hlt _ _ (by omega) mM (by omega))]
   rw[List.take_succ_eq_append_getElem mM,List.map_append,List.map_singleton,Kc];have:(0:Nat)+((l.take i).map fun b=>(b,(0:Nat))).length=i:=by simp;omega
   simp only[this];rfl
  rw[ET] at gB;have ih:=Kf (Kr:=Kr) hr hlt hb hl hk k (i+1) (by omega) gB.swap;by_cases h0:i=0
  ·subst h0;have b1:¬((0:Nat):Int)>0:=by omega
   have b2:IntKind.i64.wrap (((0:Nat):Int)+1)=((0+1:Nat):Int):=aL (by omega);simp only[b1,decide_false,Bool.false_and,ai,Bool.false_eq_true,if_false,av,j1,d1,V.cM,V.aw,hmo,AJ,reduceIte,Nat.reduceEqDiff,Option.isSome_some,b2];exact ih
  ·obtain⟨j,rfl⟩:∃j,i=j+1:=⟨i-1,by omega⟩;have b1:((j+1:Nat):Int)>0:=by omega
   have b2:IntKind.i64.wrap (((j+1:Nat):Int)-1)=(j:Int):=by rw[bq (by omega) (by omega)];omega
   have b3:0≤(j:Int):=by omega
   have b4:(j:Int)<(l.length:Int):=by omega
   obtain⟨t1,t2,t3⟩:=hrH.at (i:=j) (by simp;omega);have e2:(da l)[j]'(by simp;omega)=(l[j]:Int):=by simp [da]
   rw[e2] at t3;have Hi:l[j]<l[j+1]:=List.pairwise_iff_getElem.1 hlt _ _ (by omega) mM (by omega);have b5:¬(l[j+1]:Int)≤(l[j]:Int):=by omega
   have b6:IntKind.i64.wrap (((j+1:Nat):Int)+1)=((j+1+1:Nat):Int):=aL (by omega);simp only[b1,b2,b3,b4,b5,t1,t2,t3,Int.toNat_natCast,decide_true,decide_false,Bool.and_false,ai,if_true,av,j1,d1,V.cM,V.aw,hmo,AJ,reduceIte,Nat.reduceEqDiff,Option.isSome_some,b6];exact ih
theorem RO {l:List Nat} (h:az B H L) (hr:FZ B L q (da l)) (hlt:l.Pairwise (· < ·)) (hb:∀b∈l,b<64) (hl:l.length≤64) (k:∀id H',az B H' (Ea id (Po.new l)::L)→K (.tuple [.aj (some (id,0)),.int .i64 0]) H'):cl 60 [.slice q l.length c] H K:=by
 rw[abz];have h1:=h.OS;have h2:=h1.alloc 166 (Lt none 0 0 (some H.next));refine Kf hr hlt hb hl (fun H' h'=> ?_) l.length 0 (by omega) h2;simp only[AJ,reduceIte,Nat.reduceEqDiff];have hg:=h'.get;have hn:(da l).length≤1000000:=by simp;omega
 have hC:=LR (c:=c) (K:=fun v H'=>ah (V.aw .slice v) (ah (H'.wr (H.alloc (.map [] 0)).next 0 1) (K (.tuple [.aj (some ((H.alloc (.map [] 0)).next,0)),.int .i64 0]) (H'.store (H.alloc (.map [] 0)).next 0 [.slice (V.au v) (V.ax v) (V.aC v)]))))
  h' ((hr.bW _).bW _ H' h') hn (fun q' c' H2 h2=> ?_)
 ·rw[gK] at hC;simpa [AJ,reduceIte,Nat.reduceEqDiff] using hC
 ·obtain⟨w,h3⟩:=(h2.ord [1]).BZ (k:=0) (by show 0<2;omega) (.slice q' (da l).length c');simp only[AJ,reduceIte,Nat.reduceEqDiff,w];refine k _ _ (zM.to (x:=⟨q',c',H.next⟩) ?_);unfold zM VP Po.new;rw[List.length_map,List.map_map];have e:((Prod.fst ∘ fun b=>(b,0)):Nat→Nat)=id:=rfl;rw[e,List.map_id];rw[gK] at h3⊢;exact h3.ord [0,0]
theorem mJ (h:Nat) (w:List Int) (x:Nat×Nat) (l:List (Nat×Nat)) (o:Option Nat):gu h w (x::l) o=if x.2≠h∨w.length≤x.1 then gu h w l o else match o with
 |none=>gu h w l (some x.1)
 |some b=>if w.getD x.1 0<w.getD b 0 then gu h w l (some x.1) else gu h w l (some b):=by
 cases o<;>rfl
theorem nQ {wq:Oq} {wc:Nat} {w:List Int} (hx:zM B H id p x L) (hp:p.ok) (hr:Ox H wq w) (hw:Nat) {Kr:Am.St→Prop} {Ke:Nat→Am.St→Prop}:∀(k i:Nat) (o:Option Nat),i+k=p.bl.length→(∀b,o=some b→b<w.length)→Ke 0 (St.mk (ab [(8,T.v (V.int .i64 (((gu hw w (p.bl.drop i) o).getD 0:Nat):Int))),(9,T.v (V.bool (gu hw w (p.bl.drop i) o).isSome))]) (ab []) H)→lo 153 6 (St.mk (ab [(0,T.v (V.aj (some (id,0)))),(1,T.v (V.int .u8 (hw:Int))),(2,T.v (V.slice wq w.length wc)),(8,T.v (V.int .i64 ((o.getD 0:Nat):Int))),(9,T.v (V.bool o.isSome)),(17,T.v (V.slice x.q p.bl.length x.c)),(18,T.v (V.int .i64 (p.bl.length:Int))),(19,T.v (V.int .i64 (i:Int)))]) (ab []) H) Kr Ke
 |0,i,o,hi,ho,hk=>by
  obtain rfl:i=p.bl.length:=by omega
  rw[List.drop_length] at hk;rw[Jz,decide_eq_false (by omega),ai];exact hk
 |k+1,i,o,hi,ho,hk=>by
  have hlt:i<p.bl.length:=by omega
  have g:=VQ hx;obtain⟨s1,i1,c1⟩:=g.r i hlt;have a1:(i:Int)<(p.bl.length:Int):=by omega
  have a2:0≤(i:Int):=by omega
  have hh:=Pb hp hlt;have hle:=hp.len;rw[List.drop_eq_getElem_cons hlt,mJ] at hk;rw[Jz];simp only[AJ,reduceIte,Nat.reduceEqDiff,a1,a2,Int.toNat_natCast,s1,i1,c1,Option.isSome_some,Nat.zero_add,g.i1,g.c1,V.cM,V.aw,g.mo,g.mg,hh,Option.map_some,Bool.not_not];rw[aL (by omega)];by_cases hc:(p.bl[i]).2≠hw∨w.length≤(p.bl[i]).1
  ·rw[if_pos hc] at hk
   have e:(bif decide (((p.bl[i]).2:Int)=(hw:Int)) then decide (((p.bl[i]).1:Int)≥(w.length:Int)) else true)=true:=by
    rcases hc with hc|hc
    ·have:¬((p.bl[i]).2:Int)=(hw:Int):=by omega
     simp [this]
    ·have:((p.bl[i]).1:Int)≥(w.length:Int):=by omega
     simp only[this,decide_true];cases decide (((p.bl[i]).2:Int)=(hw:Int))<;>rfl
   rw[e,ak];exact nQ hx hp hr hw k (i+1) o (by omega) ho hk
  ·rw[if_neg hc] at hk;have h1:((p.bl[i]).2:Int)=(hw:Int):=by omega
   have h2:¬((p.bl[i]).1:Int)≥(w.length:Int):=by omega
   have h3:(p.bl[i]).1<w.length:=by omega
   simp only[h1,h2,decide_true,decide_false,cond_true,ai]
   cases o with
   |none=>
    simp only[Option.isSome_none,aN,Bool.false_eq_true,if_false,av,cond_false,ak];exact nQ hx hp hr hw k (i+1) (some (p.bl[i]).1) (by omega) (fun b hb=>by cases hb;exact h3) hk
   |some b0=>
    have hb0:=ho b0 rfl;obtain⟨t1,t2,t3⟩:=hr.at h3;obtain⟨u1,u2,u3⟩:=hr.at hb0;have c1:0≤((p.bl[i]).1:Int):=by omega
    have c2:((p.bl[i]).1:Int)<(w.length:Int):=by omega
    have c3:0≤(b0:Int):=by omega
    have c4:(b0:Int)<(w.length:Int):=by omega
    have w1:w.getD (p.bl[i]).1 0=w[(p.bl[i]).1]:=by rw[List.getD_eq_getElem?_getD,List.getElem?_eq_getElem h3];rfl
    have w2:w.getD b0 0=w[b0]:=by rw[List.getD_eq_getElem?_getD,List.getElem?_eq_getElem hb0];rfl
    simp only[w1,w2] at hk;simp only[Option.isSome_some,Option.getD_some,aN,if_true,c1,c2,c3,c4,t1,t2,t3,u1,u2,u3,Int.toNat_natCast,AJ,reduceIte,Nat.reduceEqDiff,cond_true];by_cases Hi:w[(p.bl[i]).1]<w[b0]
    ·rw[if_pos Hi] at hk;simp only[Hi,decide_true,ak];exact nQ hx hp hr hw k (i+1) (some (p.bl[i]).1) (by omega) (fun b hb=>by cases hb;exact h3) hk
    ·rw[if_neg Hi] at hk;simp only[Hi,decide_false,ai];exact nQ hx hp hr hw k (i+1) (some b0) (by omega) ho hk
theorem Cf {wq:Oq} {wc:Nat} {w:List Int} (h:az B H (Ea id p::L)) (hp:p.ok) (hr:Ox H wq w) (hw:Nat):(K (.tuple [.int .i64 (((p.iY hw w).getD 0:Nat):Int),.bool (p.iY hw w).isSome]) H)→cl 153 [.aj (some (id,0)),.int .u8 (hw:Int),.slice wq w.length wc] H K:=by
 intro k;obtain⟨x,hx⟩:=zM.of h;have g:=VQ hx;rw[Zz];simp only[AJ,reduceIte,Nat.reduceEqDiff,Option.isNone_some,Option.isSome_some,g.i0,g.c0];refine nQ hx hp hr hw p.bl.length 0 none (by omega) (fun b hb=>by cases hb) ?_;rw[List.drop_zero];simp only[AJ,reduceIte,Nat.reduceEqDiff];exact k
end
structure Ft where
 ep:Nat
 pm:Pm
 po:Po
 seq:Nat
structure FS where
 a:Ar
 f:Ft
def FS.bB (s:FS) (b h:Nat):FS:={s with f:={s.f with po:=s.f.po.set b h}}
def FS.next (s:FS) (b:Nat):Nat:=(s.a.bs.getD b fL).pg.length
def bF (s:FS) (b:Nat):FS×Int:=
 if (ea s.a b s.f.ep).2=0 then (FS.bB {s with a:=(ea s.a b s.f.ep).1} b 0,0)
 else if (ea s.a b s.f.ep).2=8 then (FS.bB {s with a:=(ea s.a b s.f.ep).1} b 3,0)
 else ({s with a:=(ea s.a b s.f.ep).1},(ea s.a b s.f.ep).2)
def jf (n:Nat):Nat:=(n+1) % 18446744073709551616
def bZ (s:FS) (b:Nat) (x:Sh):FS×Int:=
 let y:={x with ep:=s.f.ep,seq:=jf s.f.seq}
 let r:=fR s.a b (s.next b) (eC y) s.f.ep
 if r.2=8∨r.2=6 then (⟨r.1,{s.f with seq:=jf s.f.seq,po:=s.f.po.set b 3}⟩,8)
 else if r.2=0 then (⟨r.1,{s.f with seq:=jf s.f.seq,pm:=s.f.pm.put x.aq (some (b,s.next b))}⟩,0)
 else (⟨r.1,{s.f with seq:=jf s.f.seq}⟩,r.2)
def FS.RP (s:FS):List Int:=s.a.bs.map Bk.er
def FS.dC (s:FS):Option Nat:=s.f.po.iY 0 s.RP
def FS.iY (s:FS):Option Nat:=s.f.po.iY 1 s.f.pm.hY
def FS.m9 (s:FS) (aq:Nat):Option Sh:=match s.f.pm.cd.getD aq none with
 |none=>some ⟨2,0,0,aq,0,[]⟩
 |some (b,p)=>if (gz s.a b p).1=0 then fp (gz s.a b p).2 else none
structure bd (g:ct) (s:FS):Prop where
 n:(s.a.bs.length:Int)=g.aE
 p:s.a.aA=g.aA
 len:∀b∈s.a.bs,(b.pg.length:Int)≤g.aA
 d:∀b∈s.a.bs,∀d∈b.pg,d.length=96
 pm:s.f.pm.ok
 nb:(s.f.pm.nb:Int)=g.aE
 na:(s.f.pm.cd.length:Int)=g.cap+1
 po:s.f.po.ok
 us:s.f.po.bl.map Prod.fst=g.us
 seq:s.f.seq<18446744073709551616
 ep:s.f.ep<18446744073709551616
def RQ (aM:Nat) (m:Gm) (f:Ft) (mid pid:Nat):List V:=Ua (some (aM,0)) m.g.aE m.g.aA m.g.aH m.q m.g.bI.length m.c (f.ep:Int) (some (mid,0)) (some (pid,0)) (f.seq:Int)
section
variable {B:ag} {L:List cA} {H:ag} {K:V→ag→Prop} {aM fid mid pid:Nat} {m:Gm} {s:FS}
abbrev ga (B H:ag) (aM fid mid pid:Nat) (m:Gm) (s:FS) (L:List cA):Prop:=
 az B H (dj fid 120 (RQ aM m s.f mid pid)::uZ mid s.f.pm::Ea pid s.f.po::dP aM s.a::L)
structure FtG (H:ag) (aM fid mid pid:Nat) (m:Gm) (s:FS):Prop where
 i:∀k<9,H.inb fid k 1=true
 c0:H.cell fid 0=.aj (some (aM,0))
 c1:H.cell fid 1=.int .i64 m.g.aE
 c2:H.cell fid 2=.int .i64 m.g.aA
 c3:H.cell fid 3=.int .i64 m.g.aH
 c5:H.cell fid 5=.int .u64 (s.f.ep:Int)
 c6:H.cell fid 6=.aj (some (mid,0))
 c7:H.cell fid 7=.aj (some (pid,0))
 c8:H.cell fid 8=.int .u64 (s.f.seq:Int)
 g:H.inb fid 1 4=true∧H.sub fid 1 4=dS m.g.aE m.g.aA m.g.aH m.q m.g.bI.length m.c
 w:H.wr fid 8 1=true
theorem xm (h:ga B H aM fid mid pid m s L):FtG H aM fid mid pid m s:=by
 have hg:=h.get;refine⟨fun k hk=>nG hg (by show k<9;exact hk),aY hg 0,aY hg 1,aY hg 2,aY hg 3,aY hg 5,aY hg 6,aY hg 7,aY hg 8,⟨dF hg 1 4, ?_⟩,fK hg 8 1⟩;rw[kT hg];rfl
theorem ga.vz (h:ga B H aM fid mid pid m s L):az B H (dP aM s.a::dj fid 120 (RQ aM m s.f mid pid)::uZ mid s.f.pm::Ea pid s.f.po::L):=h.ord [3]
theorem ga.pm (h:ga B H aM fid mid pid m s L):az B H (uZ mid s.f.pm::dj fid 120 (RQ aM m s.f mid pid)::Ea pid s.f.po::dP aM s.a::L):=h.ord [1]
theorem ga.po (h:ga B H aM fid mid pid m s L):az B H (Ea pid s.f.po::dj fid 120 (RQ aM m s.f mid pid)::uZ mid s.f.pm::dP aM s.a::L):=h.ord [2]
theorem bd.how {g:ct} (hok:bd g s) {b:Nat} (hb:b∈g.us):(s.f.po.how b).isSome=true:=km.2 (by rw[hok.us];exact hb)
theorem nR {g:ct} {b:Nat} (hb:b∈g.us):(b:Int)<g.aE:=by
 unfold ct.us at hb;have:=(List.mem_filter.1 hb).1;have:=List.mem_of_mem_drop this;rw[List.mem_range] at this;omega
theorem bd.lt {g:ct} (hok:bd g s) {b:Nat} (hb:b∈g.us):b<s.a.bs.length:=by
 have:=nR hb;have:=hok.n;omega
theorem bd.bB {g:ct} (hg:g.In) (hok:bd g s) {b h:Nat} (hb:b∈g.us) (hh:h≤3):bd g (s.bB b h):=
 {hok with
  po:=hok.po.set (by have:=nR hb;have:=hg.b;omega) hh
  us:=by show (s.f.po.set b h).bl.map Prod.fst=_;rw[RM];exact hok.us}
theorem IE {a:Ar} {b:Nat} {e:Int} {P:Ar→Prop} (h0:P a) (h1:∀bs:List Bk,bs.length=a.bs.length→(∀x∈bs,x∈a.bs∨(∃y∈a.bs,x.pg=y.pg)∨x.pg=[])→∀a':Ar,a'.bs=bs→a'.aA=a.aA→P a'):P (ea a b e).1:=by
 unfold ea;split
 ·exact h0
 split
 ·exact h0
 split
 ·exact h0
 rename_i bk hbk;have hmem:=List.mem_of_getElem? hbk
 have key:∀x∈(bx a b bk).bs,x∈a.bs∨(∃y∈a.bs,x.pg=y.pg)∨x.pg=[]:=by
  intro x hx;rcases List.mem_or_eq_of_mem_set hx with hx|rfl
  ·exact .inl hx
  ·exact .inr (.inl ⟨bk,hmem,bA bk⟩)
 split
 ·exact h1 (bx a b bk).bs (fY ..) key _ rfl rfl
 split
 ·refine h1 _ (by simp [fY]) (fun x hx=> ?_) _ rfl rfl;rcases List.mem_or_eq_of_mem_set hx with hx|rfl
  ·exact key x hx
  ·exact .inr (.inl ⟨bk,hmem,bA bk⟩)
 ·refine h1 _ (by simp [fY]) (fun x hx=> ?_) _ rfl rfl;rcases List.mem_or_eq_of_mem_set hx with hx|rfl
  ·exact key x hx
  ·exact .inr (.inr rfl)
theorem bd.zN {g:ct} (hok:bd g s) (b:Nat) (e:Int):bd g {s with a:=(ea s.a b e).1}:=by
 refine IE (P:=fun a=>bd g {s with a:=a}) hok (fun bs hl hx a' hb hp=> ?_)
 have hx':∀x∈a'.bs,(∃y∈s.a.bs,x.pg=y.pg)∨x.pg=[]:=fun x hh=>by
  rw[hb] at hh;rcases hx x hh with h|h|h
  ·exact .inl ⟨x,h,rfl⟩
  ·exact .inl h
  ·exact .inr h
 refine {hok with n:= ?_,p:= ?_,len:= ?_,d:= ?_}
 ·show ((a'.bs.length:Nat):Int)=_;rw[hb,hl];exact hok.n
 ·show a'.aA=_;rw[hp];exact hok.p
 ·intro x hh;rcases hx' x hh with⟨y,hy,e⟩|e
  ·rw[e];exact hok.len y hy
  ·rw[e]
   cases Wx:s.a.bs with
   |nil=>
    have h0:a'.bs.length=0:=by rw[hb,hl,Wx];rfl
    rw[List.eq_nil_of_length_eq_zero h0] at hh;cases hh
   |cons y l=>have:=hok.len y (by rw[Wx];exact List.mem_cons_self);simp only[List.length_nil];omega
 ·intro x hh d hd;rcases hx' x hh with⟨y,hy,e⟩|e
  ·rw[e] at hd;exact hok.d y hy d hd
  ·rw[e] at hd;cases hd
theorem bd.bF {g:ct} (hg:g.In) (hok:bd g s) {b:Nat} (hb:b∈g.us):bd g (bF s b).1:=by
 unfold Go.Proofs.YtlgdkndamddpkaaGreat.bF;split
 ·exact(hok.zN b _).bB hg hb (by omega)
 split
 ·exact(hok.zN b _).bB hg hb (by omega)
 ·exact hok.zN b _
theorem wu (hm:dB B L m) (hg:m.g.In) (h:ga B H aM fid mid pid m s L) (hok:bd m.g s) {b:Nat} (hb:b∈m.g.us) (k:∀H',ga B H' aM fid mid pid m (bF s b).1 L→K (.int .i64 (bF s b).2) H'):cl 66 [.aj (some (fid,0)),.int .i64 (b:Int)] H K:=by
 have g:=xm h;rw[abF];simp only[AJ,reduceIte,Nat.reduceEqDiff,Option.isSome_some,Nat.zero_add,g.i 0 (by omega),g.i 5 (by omega),g.c0,g.c5];refine OF h.vz (hok.lt hb) (s.f.ep:Int) (fun H1 h1=> ?_);simp only[AJ,reduceIte,Nat.reduceEqDiff];have EV:ga B H1 aM fid mid pid m {s with a:=(ea s.a b s.f.ep).1} L:=h1.ord [1,1,1];have g1:=xm EV;unfold bF at k;by_cases h0:(ea s.a b s.f.ep).2=0
 ·rw[if_pos h0] at k;simp only[h0,decide_true,ak,AJ,reduceIte,Nat.reduceEqDiff,Option.isSome_some,Nat.zero_add,g1.i 7 (by omega),g1.c7];refine kY (hw:=0) EV.po hok.po (hok.how hb) (by omega) (fun e H2 h2=> ?_);simp only[AJ,reduceIte,Nat.reduceEqDiff];exact k H2 (h2.ord [1,1])
 ·rw[if_neg h0] at k;simp only[h0,decide_false,ai];by_cases h8:(ea s.a b s.f.ep).2=8
  ·rw[if_pos h8] at k;simp only[h8,decide_true,ak,AJ,reduceIte,Nat.reduceEqDiff,Option.isSome_some,Nat.zero_add,g1.i 7 (by omega),g1.c7];refine kY (hw:=3) EV.po hok.po (hok.how hb) (by omega) (fun e H2 h2=> ?_);simp only[AJ,reduceIte,Nat.reduceEqDiff];exact k H2 (h2.ord [1,1])
  ·rw[if_neg h8] at k;simp only[h8,decide_false,ai];exact k H1 EV
end
section
variable {B:ag} {L:List cA} {H:ag} {K:V→ag→Prop} {aM fid mid pid:Nat} {m:Gm} {s:FS}
theorem VS {t1:V} {N:Nat} (hN:N≤64) {w:Nat→Int} (hc:∀(b:Nat) (H':ag),b<N→az B H' L→∀K':V→ag→Prop,K' (.int .i64 (w b)) H'→lz dK (rT dK) t1 [.int .i64 (b:Int)] H' K') {Kr:Am.St→Prop} {Ke:Nat→Am.St→Prop}:∀(k i:Nat) {q:Oq} {c:Nat} {H:ag},i+k=N→az B H (IR q c ((List.range i).map w)::L)→(∀q' c' H',az B H' (IR q' c' ((List.range N).map w)::L)→Ke 0 (St.mk (ab [(5,T.v (V.slice q' N c'))]) (ab []) H'))→lo 154 3 (St.mk (ab [(1,T.v t1),(5,T.v (V.slice q i c)),(11,T.v (V.int .i64 (N:Int))),(12,T.v (V.int .i64 (i:Int)))]) (ab []) H) Kr Ke
 |0,i,q,c,H,hi,h,hk=>by
  obtain rfl:i=N:=by omega
  rw[JA,decide_eq_false (by omega),ai];exact hk q c H h
 |k+1,i,q,c,H,hi,h,hk=>by
  rw[JA,decide_eq_true (by omega),ak];have tF:∀K':V→ag→Prop,K' (.int .i64 (w i)) H→lz dK (rT dK) t1 [.int .i64 (i:Int)] H K':=hc i H (by omega) h.drop;refine tF _ ?_;simp only[AJ,reduceIte,Nat.reduceEqDiff]
  have hp:=az.zA h (w i) (e2:=3) (by simp;omega) (K:=fun q n c H'=>lo 154 3
   (St.mk (ab [(1,T.v t1),(5,T.v (V.slice q n c)),(11,T.v (V.int .i64 (N:Int))),(12,T.v (V.int .i64 (IntKind.i64.wrap ((i:Int)+1))))]) (ab []) H') Kr Ke) (fun q' c' H' h'=> ?_)
  ·rw[List.length_map,List.length_range] at hp;exact hp
  ·rw[aL (by omega)];have e:(List.range i).map w++[w i]=(List.range (i+1)).map w:=by rw[List.range_succ,List.map_append];rfl
   rw[e] at h'⊢;rw[List.length_map,List.length_range];exact VS hN hc k (i+1) (by omega) h' hk
theorem VT (a:Ar):a.bs.map Bk.er=(List.range a.bs.length).map fun b=>(a.bs.getD b fL).er:=by
 apply List.ext_getElem
 ·simp
 ·intro i h1 h2;simp only[List.getElem_map,List.getElem_range];rw[List.getD_eq_getElem?_getD,List.getElem?_eq_getElem (by simpa using h1)];rfl
theorem Kg (hg:m.g.In) (h:ga B H aM fid mid pid m s L) (hok:bd m.g s) (k:∀q c H',ga B H' aM fid mid pid m s (IR q c s.RP::L)→K (.slice q s.RP.length c) H'):cl 154 [.aj (some (fid,0)),.pe 155 [.aj (some (aM,0))]] H K:=by
 have g:=xm h;rw[Td];have hn:=hok.n;have hb:=hg.b;have e:m.g.aE=((s.a.bs.length:Nat):Int):=by omega
 simp only[AJ,reduceIte,Nat.reduceEqDiff,Option.isSome_some,Nat.zero_add,g.i 1 (by omega),g.c1,e];refine VS (w:=fun b=>(s.a.bs.getD b fL).er) (L:=dj fid 120 (RQ aM m s.f mid pid)::uZ mid s.f.pm::Ea pid s.f.po::dP aM s.a::L) (N:=s.a.bs.length) (by omega) (fun b H' Qz h' K' kk=> ?_) s.a.bs.length 0 (by omega) (az.uN h) (fun q c H' h'=> ?_)
 ·show cl 155 [.aj (some (aM,0)),.int .i64 (b:Int)] H' K'
  rw[LF (ga.vz h') Qz];rw[List.getD_eq_getElem?_getD,List.getElem?_eq_getElem Qz] at kk;exact kk
 ·simp only[AJ,reduceIte,Nat.reduceEqDiff];have hl:s.RP.length=s.a.bs.length:=by simp [FS.RP]
  have:=k q c H' (by unfold FS.RP;rw[VT];exact h'.ord [1,1,1,1]);rw[hl] at this;exact this
theorem Kh (hg:m.g.In) (h:ga B H aM fid mid pid m s L) (hok:bd m.g s) (k:∀q c H',ga B H' aM fid mid pid m s (IR q c s.f.pm.hY::L)→K (.slice q s.f.pm.hY.length c) H'):cl 154 [.aj (some (fid,0)),.pe 65 [.aj (some (mid,0))]] H K:=by
 have g:=xm h;rw[Td];have hn:=hok.nb;have hb:=hg.b;have e:m.g.aE=((s.f.pm.nb:Nat):Int):=by omega
 simp only[AJ,reduceIte,Nat.reduceEqDiff,Option.isSome_some,Nat.zero_add,g.i 1 (by omega),g.c1,e];refine VS (w:=fun b=>(s.f.pm.ef b:Int)) (L:=dj fid 120 (RQ aM m s.f mid pid)::uZ mid s.f.pm::Ea pid s.f.po::dP aM s.a::L) (N:=s.f.pm.nb) (by omega) (fun b H' Qz h' K' kk=> ?_) s.f.pm.nb 0 (by omega) (az.uN h) (fun q c H' h'=> ?_)
 ·show cl 65 [.aj (some (mid,0)),.int .i64 (b:Int)] H' K'
  rw[nM (ga.pm h') Qz];exact kk
 ·simp only[AJ,reduceIte,Nat.reduceEqDiff];have:=k q c H' (h'.ord [1,1,1,1]);rw[qu] at this;exact this
theorem Eb (hg:m.g.In) (h:ga B H aM fid mid pid m s L) (hok:bd m.g s) (k:∀H',ga B H' aM fid mid pid m s L→K (.tuple [.int .i64 ((s.dC.getD 0:Nat):Int),.bool s.dC.isSome]) H'):cl 149 [.aj (some (fid,0))] H K:=by
 have g:=xm h;rw[Zw];simp only[AJ,reduceIte,Nat.reduceEqDiff,Option.isSome_some,Nat.zero_add,g.i 0 (by omega),g.i 7 (by omega),g.c0,g.c7]
 have fin:∀q c H',ga B H' aM fid mid pid m s (IR q c s.RP::L)→∀K':V→ag→Prop,K' (.tuple [.int .i64 ((s.dC.getD 0:Nat):Int),.bool s.dC.isSome]) H'→
  cl 153 [.aj (some (pid,0)),.int .u8 0,.slice q s.RP.length c] H' K':=fun q c H' h' K' kk=>
  Cf (hw:=0) h'.po hok.po (az.uL (h'.ord [4])) kk
 refine⟨Kg hg h hok (fun q c H' h'=> ?_),Kg hg h hok (fun q c H' h'=> ?_)⟩
 ·simp only[AJ,reduceIte,Nat.reduceEqDiff];refine fin q c H' h' _ ?_;simp only[AJ,reduceIte,Nat.reduceEqDiff];exact k H' (h'.ord [4]).drop
 ·have g':=xm h';simp only[AJ,reduceIte,Nat.reduceEqDiff,g'.i 7 (by omega),g'.c7];refine fin q c H' h' _ ?_;simp only[AJ,reduceIte,Nat.reduceEqDiff];exact k H' (h'.ord [4]).drop
theorem Ki (hm:dB B L m) (h:ga B H aM fid mid pid m s L) (hok:bd m.g s) (hg:m.g.In) {aq:Nat} (ha:(aq:Int)≤m.g.cap) {x:Sh} (hx:s.m9 aq=some x) (k:∀q c H',ga B H' aM fid mid pid m s (BY q c x.data::L)→K (.tuple [AP x q c,.int .i64 0]) H'):cl 69 [.aj (some (fid,0)),.int .i64 (aq:Int)] H K:=by
 have g:=xm h;have Hc:aq<s.f.pm.cd.length:=by have:=hok.na;omega
 rw[abI];simp only[AJ,reduceIte,Nat.reduceEqDiff,Option.isSome_some,Nat.zero_add,g.i 6 (by omega),g.c6];rw[J5 h.pm Hc];have hgd:s.f.pm.cd.getD aq none=s.f.pm.cd[aq]:=by rw[List.getD_eq_getElem?_getD,List.getElem?_eq_getElem Hc];rfl
 unfold FS.m9 at hx;rw[hgd] at hx
 cases ho:s.f.pm.cd[aq] with
 |none=>
  rw[ho] at hx;cases hx;simp only[AJ,reduceIte,Nat.reduceEqDiff,wk,f127,BU,vV,vW,Option.isSome_none];have:=k none 0 H ((kG h).ord [1,1,1,1]);simpa [AP] using this
 |some o=>
  obtain⟨b,p⟩:=o;rw[ho] at hx;dsimp only at hx;obtain⟨hb,hp⟩:=hok.pm.pl b p (by rw[←ho];exact List.getElem_mem Hc);have Bx:b<s.a.bs.length:=by have:=hok.n;have:=hok.nb;omega
  simp only[AJ,reduceIte,Nat.reduceEqDiff,wk,f127,BU,vV,vW,Option.isSome_some,Nat.zero_add,g.i 0 (by omega),g.c0];refine F4 h.vz Bx (fun d hd=>by rw[hok.d _ (List.getElem_mem Bx) d hd];omega) p (fun q1 c1 H1 h1=> ?_);by_cases he:(gz s.a b p).1=0
  ·rw[if_pos he] at hx;simp only[AJ,reduceIte,Nat.reduceEqDiff,he]
   have KZ:(gz s.a b p).2.length≤100000:=by
    have:(gz s.a b p).2.length≤96:=by
     unfold gz;split
     ·simp
     split
     ·simp
     rw[List.getElem?_eq_getElem Bx];simp only;split
     ·simp
     rename_i d hd;split
     ·simp
     ·show d.length≤96
      rw[hok.d _ (List.getElem_mem Bx) d (List.mem_of_getElem? hd)];omega
    omega
   refine F9 h1 (fun H h=>h.iV) KZ ((h1.M7).2.2.1) (fun hnone=> ?_) (fun y hy q2 c2 H2 h2=> ?_)
   ·rw[hnone] at hx;cases hx
   ·rw[hy] at hx;cases hx;unfold AP;simp only[AJ,reduceIte,Nat.reduceEqDiff,f125,FJ,zl,zm,zn,zo,zp,zq];exact k q2 c2 H2 ((h2.ord [1]).drop.ord [2,2,2,1])
  ·rw[if_neg he] at hx;cases hx
theorem Ec (hm:dB B L m) (h:ga B H aM fid mid pid m s L) (hg:m.g.In) (a:Int) (k:∀H',ga B H' aM fid mid pid m s L→K (.int .i64 (if 0≤a∧a≤m.g.cap then 0 else 1)) H'):cl 68 [.aj (some (fid,0)),.int .i64 a] H K:=by
 have g:=xm h;rw[abH];simp only[AJ,reduceIte,Nat.reduceEqDiff,Option.isNone_some];by_cases h0:a<0
 ·have e:¬(0≤a∧a≤m.g.cap):=by omega
  rw[if_neg e] at k;simp only[h0,decide_true,Bool.not_true,ai];exact k H h
 ·have hsub:=g.g.2;simp only[h0,decide_false,Bool.not_false,ak,Option.isSome_some,Nat.zero_add,g.g.1,hsub,f25,uH,mC,mD,mE,mF,AJ,reduceIte,Nat.reduceEqDiff];have:=uP (K:=fun v H'=>ah (V.aw (.int .i64) v) (br (decide (a>V.aa v)) (K (V.int .i64 1) H') (K (V.int .i64 0) H'))) h ((((hm.bW _).bW _).bW _).bW _) hg (fun H' h'=> ?_)
  ·exact this
  ·simp only[AJ,reduceIte,Nat.reduceEqDiff];by_cases h1:a>m.g.cap
   ·have e:¬(0≤a∧a≤m.g.cap):=by omega
    have:=k H' h';rw[if_neg e] at this;simp only[h1,decide_true,ak];exact this
   ·have e:0≤a∧a≤m.g.cap:=by omega
    have:=k H' h';rw[if_pos e] at this;simp only[h1,decide_false,ai];exact this
theorem Gq (hm:dB B L m) (h:ga B H aM fid mid pid m s L) (hok:bd m.g s) (hg:m.g.In) {aq:Nat} (ha:(aq:Int)≤m.g.cap) {x:Sh} (hx:s.m9 aq=some x) (k:∀q c H',ga B H' aM fid mid pid m s (BY q c x.data::L)→K (.tuple [.slice q x.data.length c,.int .i64 0]) H'):cl 39 [.aj (some (fid,0)),.int .i64 (aq:Int)] H K:=by
 rw[abp];refine Ec hm h hg (aq:Int) (fun H1 h1=> ?_);have e:0≤(aq:Int)∧(aq:Int)≤m.g.cap:=⟨by omega,ha⟩;simp only[e,and_self,if_true,AJ,reduceIte,Nat.reduceEqDiff];refine Ki hm h1 hok hg ha hx (fun q c H2 h2=> ?_);unfold AP;simp only[AJ,reduceIte,Nat.reduceEqDiff,f125,FJ,zl,zm,zn,zo,zp,zq];exact k q c H2 h2
end
section
variable {B:ag} {L:List cA} {H:ag} {K:V→ag→Prop} {aM fid mid pid:Nat} {m:Gm} {s:FS}
theorem LS {a:Ar} {b p:Nat} {d:List UInt8} {e:Int} {P:Ar→Prop} (h0:P a) (hd:d.length=96) (h1:∀bs:List Bk,bs.length=a.bs.length→(∀x∈bs,x∈a.bs∨(∃y∈a.bs,x.pg=y.pg∨∃z:List UInt8,z.length=96∧x.pg=y.pg++[z]∧(y.pg.length:Int)<a.aA))→∀a':Ar,a'.bs=bs→a'.aA=a.aA→P a'):P (fR a b p d e).1:=by
 unfold fR;split
 ·exact h0
 split
 ·exact h0
 rename_i hp;split
 ·exact h0
 split
 ·exact h0
 rename_i bk hbk;have hmem:=List.mem_of_getElem? hbk;split
 ·exact h0
 rename_i AA;split
 ·exact h0
 have hlen:(bk.pg.length:Int)<a.aA:=by omega
 have key:∀x∈(bx a b bk).bs,x∈a.bs∨(∃y∈a.bs,x.pg=y.pg∨∃z:List UInt8,z.length=96∧x.pg=y.pg++[z]∧(y.pg.length:Int)<a.aA):=by
  intro x hx;rcases List.mem_or_eq_of_mem_set hx with hx|rfl
  ·exact .inl hx
  ·exact .inr ⟨bk,hmem,.inl (bA bk)⟩
 split
 ·exact h1 (bx a b bk).bs (fY ..) key _ rfl rfl
 split
 ·refine h1 _ (by simp [fY]) (fun x hx=> ?_) _ rfl rfl;rcases List.mem_or_eq_of_mem_set hx with hx|rfl
  ·exact key x hx
  ·exact .inr ⟨bk,hmem,.inr ⟨gY d 0,by rw[nH,hd],rfl,hlen⟩⟩
 ·refine h1 _ (by simp [fY]) (fun x hx=> ?_) _ rfl rfl;rcases List.mem_or_eq_of_mem_set hx with hx|rfl
  ·exact key x hx
  ·exact .inr ⟨bk,hmem,.inr ⟨d,hd,rfl,hlen⟩⟩
theorem Pc (n:Nat):jf n<18446744073709551616:=Nat.mod_lt _ (by omega)
theorem bd.prog {g:ct} (hok:bd g s) (b p:Nat) {d:List UInt8} (hd:d.length=96) (e:Int):bd g {s with a:=(fR s.a b p d e).1}:=by
 refine LS (P:=fun a=>bd g {s with a:=a}) hok hd (fun bs hl hx a' hb hp=> ?_);refine {hok with n:= ?_,p:= ?_,len:= ?_,d:= ?_}
 ·show ((a'.bs.length:Nat):Int)=_;rw[hb,hl];exact hok.n
 ·show a'.aA=_;rw[hp];exact hok.p
 ·intro x hh;have hh:x∈a'.bs:=hh;rw[hb] at hh;rcases hx x hh with h|⟨y,hy,h|⟨z,_,h,hlt⟩⟩
  ·exact hok.len x h
  ·rw[h];exact hok.len y hy
  ·rw[h];have:=hok.p;simp;omega
 ·intro x hh d' hd';have hh:x∈a'.bs:=hh;rw[hb] at hh;rcases hx x hh with h|⟨y,hy,h|⟨z,hz,h,hlt⟩⟩
  ·exact hok.d x h d' hd'
  ·rw[h] at hd';exact hok.d y hy d' hd'
  ·rw[h] at hd';rcases List.mem_append.1 hd' with hd'|hd'
   ·exact hok.d y hy d' hd'
   ·rw[List.mem_singleton] at hd';rw[hd'];exact hz
theorem bd.IF {g:ct} (hok:bd g s):bd g {s with f:={s.f with seq:=jf s.f.seq}}:={hok with seq:=Pc _}
theorem Cg {a:Ar} {b:Nat} (hb:b<a.bs.length) {d:List UInt8} {e:Int} (h:(fR a b (a.bs.getD b fL).pg.length d e).2=0):((a.bs.getD b fL).pg.length:Int)<a.aA:=by
 unfold fR at h;split at h
 ·cases h
 split at h
 ·cases h
 omega
theorem bd.bZ {g:ct} (hg:g.In) (hok:bd g s) {b:Nat} (hb:b∈g.us) {x:Sh} (SI:x.data.length≤64):bd g (bZ s b x).1:=by
 have hl:(eC {x with ep:=s.f.ep,seq:=jf s.f.seq}).length=96:=lS _ SI;have h1:=(hok.prog b (s.next b) hl (s.f.ep:Int)).IF;unfold Go.Proofs.YtlgdkndamddpkaaGreat.bZ;simp only;split
 ·exact h1.bB hg hb (h:=3) (by omega)
 split
 ·rename_i h0;have hlt:=hok.lt hb;have hpos:=Cg hlt h0;have hp:=hok.p;have acZ:=hg.p;refine {h1 with pm:= ?_,na:= ?_}
  ·exact hok.pm.put (fun b' p' he=>by
    cases he;have:=nR hb;have:=hok.nb;unfold FS.next
    omega)
  ·show (((s.f.pm.put x.aq (some (b,s.next b))).cd.length:Nat):Int)=_
   unfold Pm.put;rw[List.length_set];exact hok.na
 ·exact h1
theorem Gr (hm:dB B L m) (hg:m.g.In) (h:ga B H aM fid mid pid m s L) (hok:bd m.g s) {b:Nat} (hb:b∈m.g.us) {x:Sh} {q:Oq} {c:Nat} (hr:kU B L q x.data) (h1:x.cU<256) (h4:(x.aq:Int)≤m.g.cap) (hcap:m.g.cap<65000) (h5:x.fr≤256) (h6:x.data.length≤64) (k:∀H',ga B H' aM fid mid pid m (bZ s b x).1 L→K (.int .i64 (bZ s b x).2) H'):cl 141 [.aj (some (fid,0)),.int .i64 (b:Int),AP x q c] H K:=by
 have g:=xm h;have hlt:=hok.lt hb;have hsq:=hok.seq;unfold AP;rw[Zq]
 have e1:IntKind.u64.wrap ((s.f.seq:Int)+1)=(jf s.f.seq:Int):=by
  rw[IntKind.wrap_u64];unfold jf;omega
 obtain⟨w,hst⟩:=h.BZ (k:=8) (by show 8<9;omega) (.int .u64 (jf s.f.seq:Int));have hS:ga B (H.store fid 8 [.int .u64 (jf s.f.seq:Int)]) aM fid mid pid m {s with f:={s.f with seq:=jf s.f.seq}} L:=hst;simp only[AN,reduceIte,Nat.reduceEqDiff,Option.isSome_some,Nat.zero_add,g.i 8 (by omega),g.c8,e1,w];generalize (ag.store _ _ _ _)=H1 at hS⊢;clear hst;have g1:=xm hS;have gk:=hok.IF;simp only[g1.i 0 (by omega),g1.i 5 (by omega),g1.i 8 (by omega),g1.c0,g1.c5,g1.c8,AN,reduceIte,Nat.reduceEqDiff];rw[uQ (ga.vz hS) hlt]
 have nh:((s.a.bs[b]'hlt).pg.length)=s.next b:=by
  unfold FS.next;rw[List.getD_eq_getElem?_getD,List.getElem?_eq_getElem hlt];rfl
 rw[show (({s with f:={s.f with seq:=jf s.f.seq}}:FS).a.bs[b]'hlt).pg.length=s.next b from nh];simp only[AN,reduceIte,Nat.reduceEqDiff,g1.i 0 (by omega),g1.i 5 (by omega),g1.c0,g1.c5];obtain⟨y,hy⟩:∃y:Sh,y={x with ep:=s.f.ep,seq:=jf s.f.seq}:=⟨_,rfl⟩;have hyV:V.agg (fA (x.cU:Int) (s.f.ep:Int) (jf s.f.seq:Int) (x.aq:Int) ((x.fr:Int)-1) q x.data.length c)=AP y q c:=by rw[hy];rfl
 rw[hyV];have hyl:(eC y).length=96:=lS _ (by rw[hy];exact h6)
 have TL:∀(K:V→ag→Prop),(∀q' c' H',ga B H' aM fid mid pid m {s with f:={s.f with seq:=jf s.f.seq}} (BY q' c' (eC y)::L)→K (.slice q' (eC y).length c') H')→cl 133 [AP y q c] H1 K:=fun K k=>
  JY hS (by rw[hy];exact((((hr.bW _).bW _).bW _).bW _)) (by rw[hy];exact h1) (by rw[hy];exact hok.ep) (by rw[hy];exact Pc _) (by rw[hy];show x.aq<_;omega) (by rw[hy];exact h5) (by rw[hy];exact h6) (fun q' c' H' h'=>k q' c' H' (h'.ord [1,1,1,1]))
 obtain⟨r,CT⟩:∃r,r=fR s.a b (s.next b) (eC y) s.f.ep:=⟨_,rfl⟩
 have P:∀(K:V→ag→Prop) q' c' H',ga B H' aM fid mid pid m {s with f:={s.f with seq:=jf s.f.seq}} (BY q' c' (eC y)::L)→(∀H2,ga B H2 aM fid mid pid m ⟨r.1,{s.f with seq:=jf s.f.seq}⟩ L→K (.int .i64 r.2) H2)→
  cl 151 [.aj (some (aM,0)),.int .i64 (b:Int),.int .i64 (s.next b:Int),.slice q' (eC y).length c',.int .u64 (s.f.ep:Int)] H' K:=by
  intro K q' c' H' h' k;have WJ:s.a.aA≤1000:=by have:=hok.p;have:=hg.p;omega
  refine Ir (ga.vz h') hlt (s.next b) (fun H h=>(h.ord [4]).iV) (by omega) (s.f.ep:Int) WJ (fun H2 h2=> ?_);rw[CT] at k;exact k H2 ((h2.ord [4]).drop.ord [1,1,1])
 have fin:∀(Q:Am.St→Prop),(∀H2,ga B H2 aM fid mid pid m ⟨r.1,{s.f with seq:=jf s.f.seq}⟩ L→Q (St.mk (ab [(8,T.v (V.int .i64 r.2))]) (ab []) H2))→
  ∀q' c' H',ga B H' aM fid mid pid m {s with f:={s.f with seq:=jf s.f.seq}} (BY q' c' (eC y)::L)→
  cl 151 [.aj (some (aM,0)),.int .i64 (b:Int),.int .i64 (s.next b:Int),.slice q' (eC y).length c',.int .u64 (s.f.ep:Int)] H' (fun v H'=>ah (V.aw (.int .i64) v) (Q (St.mk (ab [(8,T.v (V.int .i64 (V.aa v)))]) (ab []) H'))):=by
  intro Q hQ q' c' H' h';refine P _ q' c' H' h' (fun H2 h2=> ?_);simp only[AJ,reduceIte,Nat.reduceEqDiff];exact hQ H2 h2
 refine iF (fun S:Am.St=>S.1 8=some (T.v (V.int .i64 r.2))∧ga B S.3 aM fid mid pid m ⟨r.1,{s.f with seq:=jf s.f.seq}⟩ L) (fun(S:Am.St) M4=> ?_) (fun Q' hQ=> ?_)
 ·obtain⟨hS8,QG⟩:=M4;generalize S.3=H2 at QG⊢;have g2:=xm QG
  have hk:bZ s b x=if r.2=8∨r.2=6 then (⟨r.1,{s.f with seq:=jf s.f.seq,po:=s.f.po.set b 3}⟩,8)
   else if r.2=0 then (⟨r.1,{s.f with seq:=jf s.f.seq,pm:=s.f.pm.put x.aq (some (b,s.next b))}⟩,0)
   else (⟨r.1,{s.f with seq:=jf s.f.seq}⟩,r.2):=by rw[CT,hy];rfl
  rw[hk] at k;simp only[hS8,AJ,reduceIte,Nat.reduceEqDiff];have aaJ:bd m.g ⟨r.1,{s.f with seq:=jf s.f.seq}⟩:=by rw[CT];exact(hok.prog b (s.next b) hyl (s.f.ep:Int)).IF
  by_cases h86:r.2=8∨r.2=6
  ·rw[if_pos h86] at k
   have e:(bif !decide (r.2=8) then decide (r.2=6) else true)=true:=by
    rcases h86 with h|h<;>simp [h]
   rw[e,ak];simp only[Option.isSome_some,Nat.zero_add,g2.i 7 (by omega),g2.c7,AJ,reduceIte,Nat.reduceEqDiff];refine kY (hw:=3) (ga.po QG) aaJ.po (aaJ.how hb) (by omega) (fun e H3 h3=> ?_);simp only[AJ,reduceIte,Nat.reduceEqDiff];exact k H3 (h3.ord [1,1])
  ·rw[if_neg h86] at k
   have e:(bif !decide (r.2=8) then decide (r.2=6) else true)=false:=by
    have h8:¬r.2=8:=fun h=>h86 (.inl h)
    have h6:¬r.2=6:=fun h=>h86 (.inr h)
    simp [h8,h6]
   rw[e,ai];by_cases h0:r.2=0
   ·rw[if_pos h0] at k;simp only[h0,decide_true,ak,Option.isSome_some,Nat.zero_add,g2.i 6 (by omega),g2.c6,AJ,reduceIte,Nat.reduceEqDiff];have hna:=hok.na;have hnb:=hok.nb;have K4:=nR hb;have hpos:=Cg hlt (d:=eC y) (e:=(s.f.ep:Int)) (by rw[CT] at h0;exact h0);have hp:=hok.p;have acZ:=hg.p;refine J4 (ga.pm QG) hok.pm (a:=x.aq) (b:=b) (p:=s.next b) (by show x.aq<s.f.pm.cd.length;omega) (by show b<s.f.pm.nb;omega) (by unfold FS.next;omega) (fun H3 h3=> ?_);simp only[AJ,reduceIte,Nat.reduceEqDiff];exact k H3 (h3.ord [1])
   ·rw[if_neg h0] at k;simp only[h0,decide_false,ai];exact k H2 QG
 ·have fin':=fin Q' (fun H2 h2=>hQ _ ⟨rfl,h2⟩)
  repeat' apply And.intro
  all_goals first
   |refine TL _ (fun q' c' H' h'=> ?_)
    have g':=xm h';simp only[AJ,reduceIte,Nat.reduceEqDiff,g'.i 0 (by omega),g'.i 5 (by omega),g'.c0,g'.c5,and_self];exact fin' q' c' H' h'
end
def o7 (g:ct):Nat→FS→Nat→Nat→Option (FS×Int×Nat)
 |0,_,_,_=>none
 |n+1,s,v,d=>if s.f.pm.ef v=0 then some (s,0,d) else match s.f.pm.on v with
  |[]=>none
  |a::_=>match s.m9 a.toNat with
   |none=>none
   |some x=>if (x.aq:Int)≤g.cap then
    (if (bZ s d {x with fr:=v+1}).2=8 then match (bZ s d {x with fr:=v+1}).1.dC with
     |none=>some ((bZ s d {x with fr:=v+1}).1,10,0)
     |some d'=>o7 g n (bZ s d {x with fr:=v+1}).1 v d'
    else if (bZ s d {x with fr:=v+1}).2=0 then o7 g n (bZ s d {x with fr:=v+1}).1 v d
    else some ((bZ s d {x with fr:=v+1}).1,(bZ s d {x with fr:=v+1}).2,0)) else none
def hZ (g:ct) (n:Nat) (s:FS):Option (FS×Int):=match s.iY with
 |none=>some (s,10)
 |some v=>if s.f.pm.ef v=0 then some (bF s v) else match s.dC with
  |none=>some (s,10)
  |some d=>if (s.f.pm.ef v:Int)=g.aA then some (s,10) else match o7 g n s v d with
   |none=>none
   |some (s1,e,d1)=>if e=0 then (if (bF s1 v).2=0 then some ((bF s1 v).1.bB d1 2,0) else some (bF s1 v)) else some (s1,e)
mutual
def jq (g:ct) (k:Nat):Nat→FS→Option (FS×Int×Nat)
 |0,_=>none
 |n+1,s=>match s.f.po.kL with
  |some b=>if (s.next b:Int)<g.aA then some (s,0,b) else lU g k n (s.bB b 1)
  |none=>lU g k n s
def lU (g:ct) (k:Nat) (n:Nat) (s:FS):Option (FS×Int×Nat):=
 if (s.f.po.count 3:Int)>g.aH then some (s,10,0)
 else if (s.f.po.count 0:Int)>1+g.aH-s.f.po.count 3 then match s.dC with
  |none=>none
  |some b=>jq g k n (s.bB b 2)
 else match hZ g k s with
  |none=>none
  |some (s1,e)=>if e=0 then jq g k n s1 else some (s1,e,0)
end
def u9 (g:ct) (k:Nat):Nat→FS→Sh→Option (FS×Int)
 |0,_,_=>none
 |n+1,s,x=>match jq g k k s with
  |none=>none
  |some (s1,e,b)=>if e=0 then (if (bZ s1 b x).2=8 then u9 g k n (bZ s1 b x).1 x else some (bZ s1 b x)) else some (s1,e)
section
variable {B:ag} {L:List cA} {H:ag} {K:V→ag→Prop} {aM fid mid pid:Nat} {m:Gm} {s:FS}
theorem oM (h:Nat) (w:List Int):∀(l:List (Nat×Nat)) (o:Option Nat) (b:Nat),gu h w l o=some b→o=some b∨(b,h)∈l
 |[],o,b,hh=>.inl hh
 |x::l,o,b,hh=>by
  rw[mJ] at hh;split at hh
  ·exact(oM h w l o b hh).imp id (List.mem_cons_of_mem _)
  ·rename_i hx
   have vD:x.2=h:=by
    by_cases e:x.2=h
    ·exact e
    ·exact absurd (.inl e) hx
   have key:gu h w l (some x.1)=some b→o=some b∨(b,h)∈x::l:=fun hh=>by
    rcases oM h w l _ b hh with e|e
    ·cases e;right;rw[←vD];exact List.mem_cons_self
    ·exact .inr (List.mem_cons_of_mem _ e)
   cases o with
   |none=>exact key hh
   |some b0=>
    simp only at hh;split at hh
    ·exact key hh
    ·exact(oM h w l _ b hh).imp id (List.mem_cons_of_mem _)
theorem rp {p:Po} {h b:Nat} {w:List Int} (hh:p.iY h w=some b):(b,h)∈p.bl:=(oM h w _ _ b hh).elim (fun e=>by cases e) id
theorem bd.qz {g:ct} (hok:bd g s) {b:Nat} (h:s.dC=some b):b∈g.us:=by
 rw[←hok.us];exact List.mem_map.2 ⟨_,rp h,rfl⟩
theorem bd.zO {g:ct} (hok:bd g s) {b:Nat} (h:s.iY=some b):b∈g.us:=by
 rw[←hok.us];exact List.mem_map.2 ⟨_,rp h,rfl⟩
theorem bd.RR {g:ct} (hok:bd g s) {b:Nat} (h:s.f.po.kL=some b):b∈g.us:=by
 rw[←hok.us];exact List.mem_map.2 ⟨_,qy h,rfl⟩
theorem wv {s:FS} {a:Nat} (ha:a<65536) {x:Sh} (h:s.m9 a=some x):x.cU≤3∧x.data.length≤64:=by
 unfold FS.m9 at h;split at h
 ·cases h;exact⟨by show (2:Nat)≤3;omega,by simp⟩
 ·split at h
  ·have:=(sZ h).1;exact⟨this.k3,this.dl⟩
  ·cases h
theorem va {mm:Pm} (hok:mm.ok) {b:Nat} {a:Int} (h:a∈mm.on b):0≤a∧a<mm.cd.length:=by
 unfold Pm.on at h;split at h
 ·cases h
 ·unfold M8 at h;obtain⟨p,hp,he⟩:=List.mem_filterMap.1 h;have:=rj b mm.cd 0 mm.cd.length (fun _=>0) (by omega) (fun k=>by omega) p;have e:mm.by b p=EZ b mm.cd 0 (fun _=>0) p:=rfl
  split at he
  ·cases he;omega
  ·cases he
theorem Ed (hm:dB B L m) (hg:m.g.In) (hcap:m.g.cap<65000) {v:Nat} (hv:v∈m.g.us) {Kr:Am.St→Prop} {Ke:Nat→Am.St→Prop}:∀(n:Nat) (s:FS) (d:Nat) {H:ag} {r:FS×Int×Nat},o7 m.g n s v d=some r→bd m.g s→d∈m.g.us→ga B H aM fid mid pid m s L→(r.2.1=0→bd m.g r.1→r.2.2∈m.g.us→∀H',ga B H' aM fid mid pid m r.1 L→Ke 0 (St.mk (ab [(0,T.v (V.aj (some (fid,0)))),(3,T.v (V.int .i64 (v:Int))),(5,T.v (V.int .i64 (r.2.2:Int)))]) (ab []) H'))→(r.2.1≠0→∀H',ga B H' aM fid mid pid m r.1 L→Kr (St.mk (ab [(2,T.v (V.int .i64 r.2.1))]) (ab []) H'))→lo 150 12 (St.mk (ab [(0,T.v (V.aj (some (fid,0)))),(3,T.v (V.int .i64 (v:Int))),(5,T.v (V.int .i64 (d:Int)))]) (ab []) H) Kr Ke
 |0,s,d,H,r,hf,hok,hd,h,k1,k2=>by cases hf
 |n+1,s,d,H,r,hf,hok,hd,h,k1,k2=>by
  have g:=xm h;have Nf:v<s.f.pm.nb:=by have:=nR hv;have:=hok.nb;omega
  rw[Oa];simp only[AJ,reduceIte,Nat.reduceEqDiff,Option.isSome_some,Nat.zero_add,g.i 6 (by omega),g.c6];rw[nM h.pm Nf];simp only[AJ,reduceIte,Nat.reduceEqDiff];rw[o7] at hf;by_cases hc:s.f.pm.ef v=0
  ·rw[if_pos hc] at hf;cases hf;have tF:¬(s.f.pm.ef v:Int)>0:=by omega
   simp only[tF,decide_false,ai];exact k1 rfl hok hd H h
  rw[if_neg hc] at hf;have tF:(s.f.pm.ef v:Int)>0:=by omega
  simp only[tF,decide_true,ak,g.i 6 (by omega),g.c6,AJ,reduceIte,Nat.reduceEqDiff];refine O6 h.pm hok.pm Nf (fun q1 c1 H1 h1=> ?_)
  cases Nc:s.f.pm.on v with
  |nil=>rw[Nc] at hf;cases hf
  |cons a l=>
   rw[Nc] at hf h1;dsimp only at hf;have har:=va hok.pm (by rw[Nc];exact List.mem_cons_self:a∈s.f.pm.on v);obtain⟨s1,s2,s3⟩:=(az.uL h1).at (i:=0) (by simp);rw[Nat.zero_mul,Nat.add_zero] at s2 s3;simp only[oV,oW] at s2 s3;have a1:0<(((l.length+1:Nat)):Int):=by omega
   simp only[AJ,reduceIte,Nat.reduceEqDiff,a1,s1,s2,s3,List.getElem_cons_zero];have EV:ga B H1 aM fid mid pid m s (IR q1 c1 (a::l)::L):=h1.ord [2,1,1,1];have hna:=hok.na;obtain⟨aq,rfl⟩:∃aq:Nat,a=(aq:Int):=⟨a.toNat,by omega⟩;rw[Int.toNat_natCast] at hf
   cases tI:s.m9 aq with
   |none=>rw[tI] at hf;cases hf
   |some x=>
    rw[tI] at hf;dsimp only at hf;by_cases WK:(x.aq:Int)≤m.g.cap
    case neg=>rw[if_neg WK] at hf;cases hf
    rw[if_pos WK] at hf;have ade:m.g.cap<65000:=hcap;obtain⟨hx1,vD⟩:=wv (by omega) tI;refine Ki (hm.bW _) EV hok hg (by omega) tI (fun q2 c2 H2 h2=> ?_);unfold AP;simp only[AJ,reduceIte,Nat.reduceEqDiff,f125,FJ,zl,zm,zn,zo,zp,zq];have QG:ga B H2 aM fid mid pid m s (BY q2 c2 x.data::L):=(h2.ord [5]).drop;obtain⟨y,hy⟩:∃y:Sh,y={x with fr:=v+1}:=⟨_,rfl⟩;have adj:v<64:=by have:=nR hv;have:=hg.b;omega
    have hyV:V.agg (fA (x.cU:Int) (x.ep:Int) (x.seq:Int) (x.aq:Int) (v:Int) q2 x.data.length c2)=AP y q2 c2:=by
     rw[hy];unfold AP;simp only;have:((v+1:Nat):Int)-1=(v:Int):=by omega
     rw[this]
    rw[hyV];rw[←hy] at hf;have hyd:y.data=x.data:=by rw[hy]
    have fE:=hok.bZ hg hd (x:=y) (by rw[hyd];exact vD);refine Gr (hm.bW _) hg QG hok hd (x:=y) (by rw[hyd];exact fun H h=>h.iV) (by rw[hy];show x.cU<256;omega) (by rw[hy];exact WK) hcap (by rw[hy];show v+1≤256;omega) (by rw[hyd];exact vD) (fun H3 h3=> ?_);have TT:ga B H3 aM fid mid pid m (bZ s d y).1 L:=(h3.ord [4]).drop;simp only[AJ,reduceIte,Nat.reduceEqDiff];by_cases h8:(bZ s d y).2=8
    ·rw[if_pos h8] at hf;simp only[h8,decide_true,ak];refine Eb hg TT fE (fun H4 h4=> ?_);simp only[AJ,reduceIte,Nat.reduceEqDiff]
     cases hfr:(bZ s d y).1.dC with
     |none=>
      rw[hfr] at hf;cases hf;simp only[Option.isSome_none,Bool.not_false,ak];exact k2 (by show (10:Int)≠0;decide) H4 h4
     |some d'=>
      rw[hfr] at hf;simp only[Option.isSome_some,Bool.not_true,ai,Option.getD_some];exact Ed hm hg hcap hv n _ d' hf fE (fE.qz hfr) h4 k1 k2
    ·rw[if_neg h8] at hf;simp only[h8,decide_false,ai];by_cases h0:(bZ s d y).2=0
     ·rw[if_pos h0] at hf;simp only[h0,decide_true,Bool.not_true,ai];exact Ed hm hg hcap hv n _ d hf fE hd TT k1 k2
     ·rw[if_neg h0] at hf;cases hf;simp only[h0,decide_false,Bool.not_false,ak];exact k2 h0 H3 TT
theorem qA {g:ct} (hg:g.In) (hcap:g.cap<65000) {v:Nat} (hv:v∈g.us):∀(n:Nat) (s:FS) (d:Nat) {r:FS×Int×Nat},o7 g n s v d=some r→bd g s→d∈g.us→bd g r.1∧(r.2.1=0→r.2.2∈g.us)
 |0,s,d,r,hf,hok,hd=>by cases hf
 |n+1,s,d,r,hf,hok,hd=>by
  rw[o7] at hf;split at hf
  ·cases hf;exact⟨hok,fun _=>hd⟩
  split at hf
  ·cases hf
  rename_i a l Nc;have har:=va hok.pm (by rw[Nc];exact List.mem_cons_self:a∈s.f.pm.on v);have hna:=hok.na;split at hf
  ·cases hf
  rename_i x tI;obtain⟨hx1,vD⟩:=wv (by omega) tI;have fE:=hok.bZ hg hd (x:={x with fr:=v+1}) vD;split at hf
  case isFalse=>cases hf
  split at hf
  ·split at hf
   ·cases hf;exact⟨fE,fun h=>by cases h⟩
   ·rename_i d' hfr;exact qA hg hcap hv n _ d' hf fE (fE.qz hfr)
  split at hf
  ·exact qA hg hcap hv n _ d hf fE hd
  ·rename_i h0;cases hf;exact⟨fE,fun h=>absurd h h0⟩
end
end Go.Proofs.YtlgdkndamddpkaaGreat
end
section
namespace Go.Proofs.YtlgdkndamddpkaaGreat
open Go.Am
def Kj (g:ct) (k:Nat) (s:FS) (aq:Nat):Option (FS×Int):=
 if (s.f.pm.cd.getD aq none).isSome then u9 g k k s ⟨2,0,0,aq,0,[]⟩ else some (s,0)
section
variable {B:ag} {L:List cA} {H:ag} {K:V→ag→Prop} {aM fid mid pid:Nat} {m:Gm} {s:FS}
theorem IG (hm:dB B L m) (hg:m.g.In) (hcap:m.g.cap<65000) {n:Nat} (h:ga B H aM fid mid pid m s L) (hok:bd m.g s) {r:FS×Int} (hf:hZ m.g n s=some r) (k:bd m.g r.1→∀H',ga B H' aM fid mid pid m r.1 L→K (.int .i64 r.2) H'):cl 150 [.aj (some (fid,0))] H K:=by
 have g:=xm h;rw[Zx];refine iF (fun S:Am.St=>S.1 3=some (T.v (V.int .i64 ((s.iY.getD 0:Nat):Int)))∧S.1 4=some (T.v (V.bool s.iY.isSome))∧ga B S.3 aM fid mid pid m s L) (fun(S:Am.St) M4=> ?_) (fun Q hQ=> ?_)
 ·obtain⟨TT,hS4,hS⟩:=M4;generalize S.3=H1 at hS⊢;have g1:=xm hS;unfold hZ at hf;simp only[TT,hS4,AN,reduceIte,Nat.reduceEqDiff]
  cases hl:s.iY with
  |none=>
   rw[hl] at hf;cases hf;simp only[Option.isSome_none,Bool.not_false,ak];exact k hok H1 hS
  |some v=>
   rw[hl] at hf;dsimp only at hf;have hv:=hok.zO hl;have Nf:v<s.f.pm.nb:=by have:=nR hv;have:=hok.nb;omega
   simp only[Option.isSome_some,Bool.not_true,ai,Option.getD_some,Nat.zero_add,g1.i 6 (by omega),g1.c6,AN,reduceIte,Nat.reduceEqDiff];rw[nM hS.pm Nf];simp only[AN,reduceIte,Nat.reduceEqDiff];by_cases hc:s.f.pm.ef v=0
   ·rw[if_pos hc] at hf;cases hf;have tF:(s.f.pm.ef v:Int)=0:=by omega
    simp only[tF,decide_true,ak];refine wu hm hg hS hok hv (fun H2 h2=> ?_);simp only[AJ,reduceIte,Nat.reduceEqDiff];exact k (hok.bF hg hv) H2 h2
   rw[if_neg hc] at hf;have tF:¬(s.f.pm.ef v:Int)=0:=by omega
   simp only[tF,decide_false,ai];refine Eb hg hS hok (fun H2 h2=> ?_);have g2:=xm h2;simp only[AN,reduceIte,Nat.reduceEqDiff]
   cases hfr:s.dC with
   |none=>
    rw[hfr] at hf;cases hf;simp only[Option.isSome_none,Bool.not_false,Bool.not_true,ai,eu,AJ,reduceIte,Nat.reduceEqDiff,ak];exact⟨k hok H2 h2,k hok H2 h2⟩
   |some d=>
    rw[hfr] at hf;dsimp only at hf;have hd:=hok.qz hfr;simp only[Option.isSome_some,Bool.not_false,Bool.not_true,ak,Option.getD_some,Nat.zero_add,g2.i 6 (by omega),g2.i 2 (by omega),g2.c6,g2.c2,eu,AJ,reduceIte,Nat.reduceEqDiff];have e:∀K:V→ag→Prop,cl 65 [V.aj (some (mid,0)),V.int .i64 (v:Int)] H2 K=K (.int .i64 (s.f.pm.ef v:Int)) H2:=fun K=>nM h2.pm Nf
    simp only[e,g2.i 2 (by omega),g2.c2,AJ,reduceIte,Nat.reduceEqDiff,and_self];by_cases hp:(s.f.pm.ef v:Int)=m.g.aA
    ·rw[if_pos hp] at hf;cases hf;simp only[hp,decide_true,ak];exact k hok H2 h2
    rw[if_neg hp] at hf;simp only[hp,decide_false,ai]
    cases qJ:o7 m.g n s v d with
    |none=>rw[qJ] at hf;cases hf
    |some o=>
     obtain⟨s1,e1,d1⟩:=o;rw[qJ] at hf;dsimp only at hf;refine Ed hm hg hcap hv n s d qJ hok hd h2 (fun h0 gk MW H3 h3=> ?_) (fun h0 H3 h3=> ?_)
     ·rw[if_pos h0] at hf;simp only[AJ,reduceIte,Nat.reduceEqDiff];have h0:e1=0:=h0;refine wu hm hg h3 gk hv (fun H4 h4=> ?_);have g4:=xm h4;have SV:=gk.bF hg hv;simp only[AJ,reduceIte,Nat.reduceEqDiff];by_cases he:(bF s1 v).2=0
      ·rw[if_pos he] at hf;cases hf;simp only[he,decide_true,Bool.not_true,ai,Nat.zero_add,Option.isSome_some,g4.i 7 (by omega),g4.c7,AJ,reduceIte,Nat.reduceEqDiff];refine kY (hw:=2) h4.po SV.po (SV.how MW) (by omega) (fun e H5 h5=> ?_);simp only[AJ,reduceIte,Nat.reduceEqDiff];exact k (SV.bB hg MW (by omega)) H5 (h5.ord [1,1])
      ·rw[if_neg he] at hf;cases hf;simp only[he,decide_false,Bool.not_false,ak];exact k SV H4 h4
     ·have h0:e1≠0:=h0;rw[if_neg h0] at hf;cases hf;simp only[AJ,reduceIte,Nat.reduceEqDiff];exact k (qA hg hcap hv n s d qJ hok hd).1 H3 h3
 ·simp only[AJ,reduceIte,Nat.reduceEqDiff,Option.isSome_some,Nat.zero_add,g.i 6 (by omega),g.i 7 (by omega),g.c6,g.c7]
  have fin:∀q c H',ga B H' aM fid mid pid m s (IR q c s.f.pm.hY::L)→∀K':V→ag→Prop,K' (.tuple [.int .i64 ((s.iY.getD 0:Nat):Int),.bool s.iY.isSome]) H'→
   cl 153 [.aj (some (pid,0)),.int .u8 1,.slice q s.f.pm.hY.length c] H' K':=fun q c H' h' K' kk=>
   Cf (hw:=1) h'.po hok.po (az.uL (h'.ord [4])) kk
  refine⟨Kh hg h hok (fun q c H' h'=> ?_),Kh hg h hok (fun q c H' h'=> ?_)⟩
  ·simp only[AJ,reduceIte,Nat.reduceEqDiff];refine fin q c H' h' _ ?_;simp only[AJ,reduceIte,Nat.reduceEqDiff];exact hQ _ ⟨rfl,rfl,(h'.ord [4]).drop⟩
  ·have g':=xm h';simp only[AJ,reduceIte,Nat.reduceEqDiff,g'.i 7 (by omega),g'.c7];refine fin q c H' h' _ ?_;simp only[AJ,reduceIte,Nat.reduceEqDiff];exact hQ _ ⟨rfl,rfl,(h'.ord [4]).drop⟩
theorem Gs {g:ct} (hg:g.In) (hcap:g.cap<65000) {n:Nat} (hok:bd g s) {r:FS×Int} (hf:hZ g n s=some r):bd g r.1:=by
 unfold hZ at hf;split at hf
 ·cases hf;exact hok
 rename_i v hl;have hv:=hok.zO hl;split at hf
 ·cases hf;exact hok.bF hg hv
 split at hf
 ·cases hf;exact hok
 rename_i d hfr;split at hf
 ·cases hf;exact hok
 split at hf
 ·cases hf
 rename_i s1 e d1 qJ;have h1:=qA hg hcap hv n s d qJ hok (hok.qz hfr);split at hf
 ·rename_i h0;split at hf
  ·cases hf;exact(h1.1.bF hg hv).bB hg (h1.2 h0) (by omega)
  ·cases hf;exact h1.1.bF hg hv
 ·cases hf;exact h1.1
def Rm (fid:Nat) (Kr:Am.St→Prop) (Ke:Nat→Am.St→Prop) (H:ag):Prop:=
 ah (Option.isSome (some (fid,0)))
  (nm (pb (some (fid,0))) fun n=>nm ((po (some (fid,0)))+7) fun n_2=>
   ah (ag.inb H n n_2 1&&V.aw .aj (ag.cell H n n_2))
    (cl 93 [V.aj (V.ay (ag.cell H n n_2)),V.int .u8 3] H fun v H'=>
     ah (V.aw (.int .i64) v)
      (ah (Option.isSome (some (fid,0)))
       (nm (pb (some (fid,0))) fun n=>nm ((po (some (fid,0)))+1+2) fun bL=>
        ah (ag.inb H' n bL 1&&V.aw (.int .i64) (ag.cell H' n bL))
         (br (decide (V.aa v>V.aa (ag.cell H' n bL)))
          (Kr (St.mk (ab [(2,T.v (V.int .i64 0)),(3,T.v (V.int .i64 10))]) (ab []) H'))
          (cx
           (fun Q=>
            ah (Option.isSome (some (fid,0)))
             (nm (pb (some (fid,0))) fun n=>nm ((po (some (fid,0)))+7) fun cH=>
              ah (ag.inb H' n cH 1&&V.aw .aj (ag.cell H' n cH))
               (nm (V.ay (ag.cell H' n cH)) fun s=>
                ah (Option.isSome (some (fid,0)))
                 (nm (pb (some (fid,0))) fun n=>nm ((po (some (fid,0)))+1) fun dO=>
                  (cl 93 [V.aj s,V.int .u8 0] H' fun v_1 H'=>
                   ah (V.aw (.int .i64) v_1)
                    (ah (ag.inb H' n dO 4&&aI Bj (ag.sub H' n dO 4))
                     (cl 148 [V.agg (tK (ag.sub H' n dO 4)),V.int .i64 (V.aa v)] H' fun v H'=>
                      ah (V.aw (.int .i64) v)
                       (Q (St.mk (ab [(62,T.v (V.bool (decide (V.aa v_1>V.aa v))))]) (ab []) H')))))∧
                  ah (ag.inb H' n dO 4&&aI Bj (ag.sub H' n dO 4))
                   (cl 93 [V.aj s,V.int .u8 0] H' fun v_1 H'_1=>
                    ah (V.aw (.int .i64) v_1)
                     (cl 148 [V.agg (tK (ag.sub H' n dO 4)),V.int .i64 (V.aa v)] H'_1 fun v H'=>
                      ah (V.aw (.int .i64) v)
                       (Q (St.mk (ab [(62,T.v (V.bool (decide (V.aa v_1>V.aa v))))]) (ab []) H'))))))))
           fun S'=>
            ah (aB (KT.k .bool) (S'.1 62)||false||false)
             (br (V.an (T.val (S'.1 62)))
              (cl 149 [V.aj (some (fid,0))] S'.3 fun v H'=>
               ah (V.aJ 2 v&&(V.aw (.int .i64) (ae (V.ar v) 0)&&(V.aw .bool (ae (V.ar v) 1)||false)))
                (ah (Option.isSome (some (fid,0)))
                 (nm (pb (some (fid,0))) fun n=>nm ((po (some (fid,0)))+7) fun cH=>
                  ah (ag.inb H' n cH 1&&V.aw .aj (ag.cell H' n cH))
                   (cl 63 [V.aj (V.ay (ag.cell H' n cH)),V.int .i64 (V.aa (ae (V.ar v) 0)),V.int .u8 2] H' fun v H'=>
                    ah (V.aw (.int .i64) v)
                     (lo 140 1 (St.mk (ab [(0,T.v (V.aj (some (fid,0))))]) (ab []) H') Kr Ke)))))
              (cl 150 [V.aj (some (fid,0))] S'.3 fun v H'=>
               ah (V.aw (.int .i64) v)
                (br (!decide (V.aa v=0))
                 (Kr (St.mk (ab [(2,T.v (V.int .i64 0)),(3,T.v (V.int .i64 (V.aa v)))]) (ab []) H'))
                 (lo 140 1 (St.mk (ab [(0,T.v (V.aj (some (fid,0))))]) (ab []) H') Kr Ke))))))))))
theorem Ee (hm:dB B L m) (hg:m.g.In) (hcap:m.g.cap<65000) {kf:Nat} {Kr:Am.St→Prop} {Ke:Nat→Am.St→Prop}:∀(n:Nat) (s:FS) {H:ag} {r:FS×Int×Nat},jq m.g kf n s=some r→bd m.g s→ga B H aM fid mid pid m s L→(bd m.g r.1→(r.2.1=0→r.2.2∈m.g.us)→∀H',ga B H' aM fid mid pid m r.1 L→Kr (St.mk (ab [(2,T.v (V.int .i64 (r.2.2:Int))),(3,T.v (V.int .i64 r.2.1))]) (ab []) H'))→lo 140 1 (St.mk (ab [(0,T.v (V.aj (some (fid,0))))]) (ab []) H) Kr Ke
 |0,s,H,r,hf,hok,h,k=>by rw[jq] at hf;cases hf
 |n+1,s,H,r,hf,hok,h,k=>by
  have g:=xm h;rw[Ru];simp only[AN,reduceIte,Nat.reduceEqDiff,Option.isSome_some,Nat.zero_add,g.i 7 (by omega),g.c7];refine Gp h.po hok.po ?_;simp only[AN,reduceIte,Nat.reduceEqDiff];have hgs:=hg.s
  have wN:∀h:Nat,s.f.po.count h≤62:=fun h=>by
   have h1:s.f.po.count h≤s.f.po.bl.length:=List.countP_le_length;have h2:s.f.po.bl.length=m.g.us.length:=by rw[←hok.us,List.length_map]
   have:=ct.kH m.g hg.b.2;omega
  have rest:∀(s:FS) {H:ag},lU m.g kf n s=some r→bd m.g s→(∀h:Nat,s.f.po.count h≤62)→ga B H aM fid mid pid m s L→Rm fid Kr Ke H:=by
   intro s H hf hok wN h;unfold Rm;have g:=xm h;simp only[AN,reduceIte,Nat.reduceEqDiff,Option.isSome_some,Nat.zero_add,g.i 7 (by omega),g.c7];refine wo h.po hok.po 3 (fun H1 h1=> ?_);have EV:ga B H1 aM fid mid pid m s L:=h1.ord [1,1];have g1:=xm EV;simp only[AN,reduceIte,Nat.reduceEqDiff,Option.isSome_some,g1.i 3 (by omega),g1.c3];unfold lU at hf;by_cases hd:(s.f.po.count 3:Int)>m.g.aH
   ·rw[if_pos hd] at hf;cases hf;simp only[hd,decide_true,ak];exact k hok (fun h=>by cases h) H1 EV
   rw[if_neg hd] at hf;simp only[hd,decide_false,ai];have hgc:=g1.g;refine iF (fun S:Am.St=>S.1 62=some (T.v (V.bool (decide ((s.f.po.count 0:Int)>1+m.g.aH-s.f.po.count 3))))∧ga B S.3 aM fid mid pid m s L) (fun(S:Am.St) M4=> ?_) (fun Q hQ=> ?_)
   ·obtain⟨ac0,QG⟩:=M4;generalize S.3=H2 at QG⊢;simp only[ac0,AJ,reduceIte,Nat.reduceEqDiff];by_cases hr:(s.f.po.count 0:Int)>1+m.g.aH-s.f.po.count 3
    ·rw[if_pos hr] at hf;simp only[hr,decide_true,ak]
     cases hfr:s.dC with
     |none=>rw[hfr] at hf;cases hf
     |some b=>
      rw[hfr] at hf;dsimp only at hf;have hb:=hok.qz hfr;refine Eb hg QG hok (fun H3 h3=> ?_);have g3:=xm h3;rw[hfr];simp only[AJ,reduceIte,Nat.reduceEqDiff,Option.isSome_some,Option.getD_some,g3.i 7 (by omega),g3.c7];refine kY (hw:=2) h3.po hok.po (hok.how hb) (by omega) (fun e H4 h4=> ?_);simp only[AJ,reduceIte,Nat.reduceEqDiff];exact Ee hm hg hcap n _ hf (hok.bB hg hb (by omega)) (h4.ord [1,1]) k
    ·rw[if_neg hr] at hf;simp only[hr,decide_false,ai]
     cases hc:hZ m.g kf s with
     |none=>rw[hc] at hf;cases hf
     |some o=>
      obtain⟨s1,e⟩:=o;rw[hc] at hf;dsimp only at hf;refine IG hm hg hcap QG hok hc (fun gk H3 h3=> ?_);simp only[AJ,reduceIte,Nat.reduceEqDiff];by_cases he:e=0
      ·rw[if_pos he] at hf;simp only[he,decide_true,Bool.not_true,ai];exact Ee hm hg hcap n _ hf gk h3 k
      ·rw[if_neg he] at hf;cases hf;simp only[he,decide_false,Bool.not_false,ak];exact k gk (fun h=>absurd h he) H3 h3
   ·have RV:∀(H:ag) (K:V→ag→Prop),cl 148 [V.agg (dS m.g.aE m.g.aA m.g.aH m.q m.g.bI.length m.c),V.int .i64 (s.f.po.count 3:Int)] H K=K (.int .i64 (1+m.g.aH-(s.f.po.count 3:Int))) H:=fun H K=>
     Im (m:=m) hg (by have:=wN 3;omega)
    simp only[AJ,reduceIte,Nat.reduceEqDiff,Option.isSome_some,Nat.zero_add,g1.i 7 (by omega),g1.c7,hgc.1,hgc.2,f25,uH,mC,mD,mE,mF];refine⟨wo EV.po hok.po 0 (fun H3 h3=> ?_),wo EV.po hok.po 0 (fun H3 h3=> ?_)⟩
    all_goals
     have TT:ga B H3 aM fid mid pid m s L:=h3.ord [1,1];have g3:=(xm TT).g;simp only[AJ,reduceIte,Nat.reduceEqDiff,g3.1,g3.2,f25,uH,mC,mD,mE,mF];rw[RV];simp only[AJ,reduceIte,Nat.reduceEqDiff];exact hQ _ ⟨rfl,TT⟩
  rw[jq] at hf
  cases ho:s.f.po.kL with
  |none=>
   rw[ho] at hf;dsimp only at hf;simp only[Option.isSome_none,ai,eu,and_self,AJ,reduceIte,Nat.reduceEqDiff];have:=rest s hf hok wN h;unfold Rm at this;simp only[AJ,reduceIte,Nat.reduceEqDiff] at this;exact this
  |some b=>
   rw[ho] at hf;dsimp only at hf;have hb:=hok.RR ho;have hlt:=hok.lt hb
   have nh:((s.a.bs[b]'hlt).pg.length)=s.next b:=by
    unfold FS.next;rw[List.getD_eq_getElem?_getD,List.getElem?_eq_getElem hlt];rfl
   have NX:∀K:V→ag→Prop,cl 64 [V.aj (some (aM,0)),V.int .i64 (b:Int)] H K=K (.int .i64 (s.next b:Int)) H:=fun K=>by
    rw[uQ (ga.vz h) hlt,nh]
   simp only[Option.isSome_some,Option.getD_some,ak,eu,NX,g.i 0 (by omega),g.i 2 (by omega),g.c0,g.c2,AJ,reduceIte,Nat.reduceEqDiff];refine And.intro ?_ ?_
   all_goals
    by_cases hlt:(s.next b:Int)<m.g.aA
    ·rw[if_pos hlt] at hf;cases hf;simp only[hlt,decide_true,ak];exact k hok (fun _=>hb) H h
    ·rw[if_neg hlt] at hf;simp only[hlt,decide_false,ai,g.i 7 (by omega),g.c7,AJ,reduceIte,Nat.reduceEqDiff];refine kY (hw:=1) h.po hok.po (hok.how hb) (by omega) (fun e H1 h1=> ?_);have gk:=hok.bB hg hb (h:=1) (by omega);simp only[AJ,reduceIte,Nat.reduceEqDiff];have:=rest _ hf gk (fun h=> ?_) (h1.ord [1,1])
     ·unfold Rm at this;simp only[AJ,reduceIte,Nat.reduceEqDiff,eu] at this;exact this
     ·have h1:(s.bB b 1).f.po.count h≤(s.bB b 1).f.po.bl.length:=List.countP_le_length;have h2:(s.bB b 1).f.po.bl.length=m.g.us.length:=by rw[←gk.us,List.length_map]
      have:=ct.kH m.g hg.b.2;omega
end
section
variable {B:ag} {L:List cA} {H:ag} {K:V→ag→Prop} {aM fid mid pid:Nat} {m:Gm} {s:FS}
theorem Pd (hm:dB B L m) (hg:m.g.In) (hcap:m.g.cap<65000) {kf:Nat} {x:Sh} {q:Oq} {c:Nat} (hr:kU B L q x.data) (h1:x.cU<256) (h4:(x.aq:Int)≤m.g.cap) (h5:x.fr≤256) (h6:x.data.length≤64) {Kr:Am.St→Prop} {Ke:Nat→Am.St→Prop}:∀(n:Nat) (s:FS) {H:ag} {r:FS×Int},u9 m.g kf n s x=some r→bd m.g s→ga B H aM fid mid pid m s L→(bd m.g r.1→∀H',ga B H' aM fid mid pid m r.1 L→Kr (St.mk (ab [(4,T.v (V.int .i64 r.2))]) (ab []) H'))→lo 118 1 (St.mk (ab [(0,T.v (V.aj (some (fid,0)))),(3,T.lp 3 0)]) (ab [(3,aO.cells 126 (fA (x.cU:Int) (x.ep:Int) (x.seq:Int) (x.aq:Int) ((x.fr:Int)-1) q x.data.length c))]) H) Kr Ke
 |0,s,H,r,hf,hok,h,k=>by cases hf
 |n+1,s,H,r,hf,hok,h,k=>by
  rw[Rt,Zp];unfold u9 at hf
  cases hro:jq m.g kf kf s with
  |none=>rw[hro] at hf;cases hf
  |some o=>
   obtain⟨s1,e,b⟩:=o;rw[hro] at hf;dsimp only at hf;refine Ee hm hg hcap kf s hro hok h (fun gk hb H1 EV=> ?_);simp only[AJ,reduceIte,Nat.reduceEqDiff];by_cases he:e=0
   ·rw[if_pos he] at hf;have hb:b∈m.g.us:=hb he;simp only[he,decide_true,Bool.not_true,ai]
    have:=Gr (K:=fun v H'=>ah (V.aw (.int .i64) v) (br (!decide (V.aa v=8)) (Kr (St.mk (ab [(4,T.v (V.int .i64 (V.aa v)))]) (ab []) H'))
     (lo 118 1 (St.mk (ab [(0,T.v (V.aj (some (fid,0)))),(3,T.lp 3 0)])
      (ab [(3,aO.cells 126 (fA (x.cU:Int) (x.ep:Int) (x.seq:Int) (x.aq:Int) ((x.fr:Int)-1) q x.data.length c))]) H') Kr Ke))) hm hg EV gk hb (x:=x) (q:=q) (c:=c) hr h1 h4 hcap h5 h6 (fun H2 h2=> ?_)
    ·exact this
    ·simp only[AJ,reduceIte,Nat.reduceEqDiff];have fE:=gk.bZ hg hb (x:=x) h6;by_cases h8:(bZ s1 b x).2=8
     ·rw[if_pos h8] at hf;simp only[h8,decide_true,Bool.not_true,ai];exact Pd hm hg hcap hr h1 h4 h5 h6 n _ hf fE h2 k
     ·rw[if_neg h8] at hf;cases hf;simp only[h8,decide_false,Bool.not_false,ak];exact k fE H2 h2
   ·rw[if_neg he] at hf;cases hf;simp only[he,decide_false,Bool.not_false,ak];exact k gk H1 EV
theorem Kk (hm:dB B L m) (hg:m.g.In) (hcap:m.g.cap<65000) {kf n:Nat} {x:Sh} {q:Oq} {c:Nat} (hr:kU B L q x.data) (h1:x.cU<256) (h4:(x.aq:Int)≤m.g.cap) (h5:x.fr≤256) (h6:x.data.length≤64) {r:FS×Int} (hf:u9 m.g kf n s x=some r) (hok:bd m.g s) (h:ga B H aM fid mid pid m s L) (k:bd m.g r.1→∀H',ga B H' aM fid mid pid m r.1 L→K (.int .i64 r.2) H'):cl 118 [.aj (some (fid,0)),AP x q c] H K:=by
 unfold AP;rw[Zc];refine Pd hm hg hcap hr h1 h4 h5 h6 n s hf hok h (fun gk H1 h1=> ?_);simp only[AJ,reduceIte,Nat.reduceEqDiff];exact k gk H1 h1
def Tm (aq:Nat) (d:List UInt8):Sh:=⟨1,0,0,aq,0,d⟩
def shT (aq:Nat):Sh:=⟨2,0,0,aq,0,[]⟩
theorem Ch (hm:dB B L m) (hg:m.g.In) (hcap:m.g.cap<65000) {kf n:Nat} {aq:Nat} {d:List UInt8} {q:Oq} {c:Nat} (hr:kU B L q d) (h4:(aq:Int)≤m.g.cap) (h6:d.length≤64) {r:FS×Int} (hf:u9 m.g kf n s (Tm aq d)=some r) (hok:bd m.g s) (h:ga B H aM fid mid pid m s L) (k:bd m.g r.1→∀H',ga B H' aM fid mid pid m r.1 L→K (.int .i64 r.2) H'):cl 82 [.aj (some (fid,0)),.int .i64 (aq:Int),.slice q d.length c] H K:=by
 rw[abN];refine Ec hm h hg (aq:Int) (fun H1 h1=> ?_);have e:0≤(aq:Int)∧(aq:Int)≤m.g.cap:=⟨by omega,h4⟩;have e2:¬((d.length:Nat):Int)>64:=by omega
 simp only[e,and_self,if_true,AJ,reduceIte,Nat.reduceEqDiff,e2,decide_true,decide_false,Bool.not_true,ai];have:=Kk (K:=fun v H'=>ah (V.aw (.int .i64) v) (K (V.int .i64 (V.aa v)) H')) hm hg hcap (x:=Tm aq d) (q:=q) (c:=c) hr (by show 1<256;omega) h4 (by show 0≤256;omega) h6 hf hok h1 (fun fE H2 h2=> ?_)
 ·exact this
 ·simp only[AJ,reduceIte,Nat.reduceEqDiff];exact k fE H2 h2
theorem Pe (hm:dB B L m) (hg:m.g.In) (hcap:m.g.cap<65000) {kf:Nat} {aq:Nat} (h4:(aq:Int)≤m.g.cap) {r:FS×Int} (hf:Kj m.g kf s aq=some r) (hok:bd m.g s) (h:ga B H aM fid mid pid m s L) (k:bd m.g r.1→∀H',ga B H' aM fid mid pid m r.1 L→K (.int .i64 r.2) H'):cl 120 [.aj (some (fid,0)),.int .i64 (aq:Int)] H K:=by
 rw[Zd];refine Ec hm h hg (aq:Int) (fun H1 h1=> ?_);have e:0≤(aq:Int)∧(aq:Int)≤m.g.cap:=⟨by omega,h4⟩;have g1:=xm h1;have Hc:aq<s.f.pm.cd.length:=by have:=hok.na;omega
 have hgd:s.f.pm.cd.getD aq none=s.f.pm.cd[aq]:=by rw[List.getD_eq_getElem?_getD,List.getElem?_eq_getElem Hc];rfl
 simp only[e,and_self,if_true,AJ,reduceIte,Nat.reduceEqDiff,decide_true,decide_false,Bool.not_true,ai,Option.isSome_some,Nat.zero_add,g1.i 6 (by omega),g1.c6];rw[J5 h1.pm Hc];unfold Kj at hf;rw[hgd] at hf
 have hfit:aI Ih (wk s.f.pm.cd[aq])=true:=by
  cases s.f.pm.cd[aq]<;>rfl
 simp only[AJ,reduceIte,Nat.reduceEqDiff,hfit];by_cases ho:(s.f.pm.cd[aq]).isSome=true
 ·rw[if_pos ho] at hf;simp only[ho,Bool.not_true,ai];have:=Kk (K:=fun v H'=>ah (V.aw (.int .i64) v) (K (V.int .i64 (V.aa v)) H')) hm hg hcap (x:=shT aq) (q:=none) (c:=0) (fun H h=>(kG h).iV) (by show 2<256;omega) h4 (by show 0≤256;omega) (by show 0≤64;omega) hf hok h1 (fun fE H2 h2=> ?_)
  ·exact this
  ·simp only[AJ,reduceIte,Nat.reduceEqDiff];exact k fE H2 h2
 ·rw[if_neg ho] at hf;cases hf;simp only[ho,Bool.not_false,ak];exact k hok H1 h1
theorem Ci (h:ga B H aM fid mid pid m s L):cl 58 [.aj (some (fid,0))] H K=K (.int .u64 (s.f.ep:Int)) H:=by
 have g:=xm h;rw[abx];simp only[Option.isNone_some,Option.isSome_some,Nat.zero_add,g.i 5 (by omega),g.c5,AJ,reduceIte,Nat.reduceEqDiff]
end
end Go.Proofs.YtlgdkndamddpkaaGreat
end
