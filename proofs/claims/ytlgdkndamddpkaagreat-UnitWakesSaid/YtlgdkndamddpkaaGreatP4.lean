/- Part 4 of the texts behind the law UnitWakes: what its row needs (an abstract machine, its equations, and what the program computes). -/
import Derived.Test.YtlgdkndamddpkaaGreatP3
set_option maxRecDepth 100000
set_option linter.unusedSimpArgs false
set_option linter.unusedVariables false
set_option linter.unusedSectionVars false
section
namespace Go.Proofs.YtlgdkndamddpkaaGreat
open Go.Am
def fA (a:Ar) (i p:Nat) (d:List UInt8) (e:Int):Ar×Int:=
 if a.off=true then (a,9) else if a.aB≤(p:Int) then (a,1) else if d.length≠96 then (a,3) else match a.bs[i]? with
  |none=>(a,1)
  |some b=>if p≠b.pg.length∨b.bX=true then (a,6) else if e<a.aK then (a,7) else
   if (bo a i b).off=true then ({bo a i b with dC:=.prog i d},9)
   else if (aD b).aW=true then ({bo a i b with bs:=(bo a i b).bs.set i {aD b with pg:=b.pg++[fo d 0],aN:=true}},8)
   else ({bo a i b with bs:=(bo a i b).bs.set i {aD b with pg:=b.pg++[d]}},0)
theorem bq (b:Bk):(aD b).pg=b.pg:=by unfold aD;split<;>rfl
section
variable {B:af} {L:List cq} {H:af} {K:V→af→Prop} {aH:Nat} {a:Ar} {x:Ra} {i:Nat}
theorem fI (a:Ar) (i:Nat) (b:Bk):(bo a i b).bs.length=a.bs.length:=by simp [bo]
theorem AP (a:Ar) {i:Nat} (b:Bk) (hi:i<a.bs.length):(bo a i b).bs[i]'(by rw[fI];exact hi)=aD b:=by simp [bo]
theorem dz.wayW {W:cq} (h:dz B H aH a x (W::L)) (w:V) (wy:Wy) (hW:∀g,W g→wA x.q w wy g):H.wr aH 7 1=true∧dz B (H.store aH 7 [w]) aH {a with dC:=wy} {x with w:=w} L:=by
 have h1:=h.s.yy (k:=7) (by show 7<8;omega) w;refine⟨h1.1,h.bs, ?_⟩;have h3:az B (H.store aH 7 [w]) (W::cR aH 81 ((yB a x).set 7 w)::Rw 84 6 x.q x.c (x.rs.map Rb.cs)::bj (x.rs.map Rb.bW)::L):=((h1.2.ord [3]).drop).ord [3];exact(h3.imp hW).ord [1,1,1]
theorem dz.XH {l:List cq} (h:dz B H aH a x (l++L)):dz B H aH a x (bj l::L):=by
 have h1:=h.s.u7 (List.perm_append_comm_assoc [cR aH 81 (yB a x),Rw 84 6 x.q x.c (x.rs.map Rb.cs),bj (x.rs.map Rb.bW),wA x.q x.w a.dC] l L);exact⟨h.bs,(az.rX h1).ord [1,1,1,1]⟩
theorem GU (h:az B H (df aH a::L)) (hi:i<a.bs.length) (p:Nat) {q:Oq} {c:Nat} {d:List UInt8} (hr:lE B (df aH a::L) q d) (hd:d.length≤1000) (e:Int) (sA:a.aB≤1000) (k:∀H',az B H' (df aH (fA a i p d e).1::L)→K (.int .i64 (fA a i p d e).2) H'):cl 151 [.aj (some (aH,0)),.int .i64 (i:Int),.int .i64 (p:Int),.slice q d.length c,.int .u64 e] H K:=by
 rw[Xa];have Zu:=hr H h;obtain⟨x,hX⟩:=dz.of h;have g:=hX.g;have p0:¬(p:Int)<0:=by omega
 have h9:¬(9:Int)=0:=by decide
 refine CG hX hi (fun ho=> ?_) (fun ho'=> ?_)
 ·have e2:fA a i p d e=(a,9):=by simp [fA,ho]
  rw[e2] at k;simp only[AJ,reduceIte,Nat.reduceEqDiff,h9];exact k H h
 simp only[AJ,reduceIte,Nat.reduceEqDiff,if_true,Option.isSome_some,g.i1,g.c1,aO,p0,Nat.zero_add,cond_true,ite_self,Int.toNat_natCast];by_cases hp:a.aB≤(p:Int)
 ·have e2:fA a i p d e=(a,1):=by simp [fA,ho',hp]
  rw[e2] at k;have F8:(p:Int)≥a.aB:=hp;simp only[F8,decide_true,au];exact k H h
 have F8:¬(p:Int)≥a.aB:=hp;simp only[F8,decide_false,ai];by_cases hl:d.length≠96
 ·have e2:fA a i p d e=(a,3):=by simp [fA,ho',hp,hl]
  rw[e2] at k;have hl':¬(d.length:Int)=96:=by omega
  simp only[hl',decide_false,Bool.not_false,au];exact k H h
 have Ub:d.length=96:=by omega
 have hl':(d.length:Int)=96:=by omega
 have hbk:a.bs[i]? =some a.bs[i]:=List.getElem?_eq_getElem hi;obtain⟨q',c',g3,g2,g1,_⟩:=hX.pgA hi;have g5:=hX.ck2 hi;simp only[hl',decide_true,Bool.not_true,ai,g2,g3,g5.1,g5.2,AJ,reduceIte,Nat.reduceEqDiff,ite_self];by_cases hk:p≠(a.bs[i]).pg.length∨(a.bs[i]).bX=true
 ·have e2:fA a i p d e=(a,6):=by simp only[fA,ho',hp,hl,hbk,hk,if_true,if_false,Bool.false_eq_true]
  rw[e2] at k
  have e3:(bif !!decide ((p:Int)=((a.bs[i]).pg.length:Int)) then (a.bs[i]).bX else true)=true:=by
   rcases hk with hk|hk
   ·have:¬(p:Int)=((a.bs[i]).pg.length:Int):=by omega
    simp [this]
   ·simp [hk]
  simp only[Bool.not_not] at e3;simp only[Bool.not_not,e3,au];exact k H h
 have UW:p=(a.bs[i]).pg.length:=by omega
 have hk2:(a.bs[i]).bX=false:=by simpa using fun hh=>hk (.inr hh)
 have Zv:(p:Int)=((a.bs[i]).pg.length:Int):=by omega
 simp only[Zv,hk2,decide_true,Bool.not_not,cond_true,ai,g.i2,g.c2,AJ,reduceIte,Nat.reduceEqDiff];by_cases hf:e<a.aK
 ·have e2:fA a i p d e=(a,7):=by simp only[fA,ho',hp,hl,hbk,hk,hf,if_true,if_false,Bool.false_eq_true]
  rw[e2] at k;simp only[hf,decide_true,au];exact k H h
 simp only[hf,decide_false,ai]
 have e2:fA a i p d e=if (bo a i a.bs[i]).off=true then ({bo a i a.bs[i] with dC:=.prog i d},9)
  else if (aD a.bs[i]).aW=true then ({bo a i a.bs[i] with bs:=(bo a i a.bs[i]).bs.set i {aD a.bs[i] with pg:=(a.bs[i]).pg++[fo d 0],aN:=true}},8)
  else ({bo a i a.bs[i] with bs:=(bo a i a.bs[i]).bs.set i {aD a.bs[i] with pg:=(a.bs[i]).pg++[d]}},0):=by
  simp only[fA,ho',hp,hl,hbk,hk,hf,if_true,if_false,Bool.false_eq_true]
 rw[e2] at k;clear e2;obtain⟨b,hb⟩:∃b,b=a.bs[i]:=⟨_,rfl⟩;obtain⟨a3,Qq⟩:∃a3,a3=bo a i b:=⟨_,rfl⟩;rw[←hb, ←Qq] at k;have Oz:i<a3.bs.length:=by rw[Qq,fI];exact hi
 have DH:a3.bs[i]=aD b:=by subst Qq;exact AP a b hi
 refine jL hX.s Zu (by omega) (fun q2 c2 H2 h2=> ?_);have FK:d.length≤c2:=(h2.J1).2.2.1;have hX2:dz B H2 aH a x (BY q2 c2 d::L):=⟨hX.bs,h2.ord [1,1,1,1]⟩;simp only[AJ,reduceIte,Nat.reduceEqDiff];refine EM hX2 hi (fun x3 H3 Ll hw3 OA=> ?_);rw[←hb, ←Qq] at OA⊢;simp only[AJ,reduceIte,Nat.reduceEqDiff,Bool.not_not];by_cases Qr:a3.off=true
 ·rw[if_pos Qr] at k;simp only[Qr,au];have hA:=(OA.alloc 104 [.aj (some (pb x.q,po x.q+i*6))]).alloc 36 [.slice q2 d.length c2]
  have hA2:dz B ((H3.alloc (.cells 104 [.aj (some (pb x.q,po x.q+i*6))] false)).alloc (.cells 36 [.slice q2 d.length c2] false)) aH a3 x3 (bj [cR H3.next 104 [.aj (some (pb x.q,po x.q+i*6))],cR (H3.next+1) 36 [.slice q2 d.length c2],BY q2 c2 d]::L):=
   dz.XH (l:=[cR H3.next 104 [.aj (some (pb x.q,po x.q+i*6))],cR (H3.next+1) 36 [.slice q2 d.length c2],BY q2 c2 d]) (hA.ord (.swap ..))
  obtain⟨w,hW⟩:=hA2.wayW (.func 156 [.aj (some (H3.next,0)),.aj (some (H3.next+1,0))]) (.prog i d) (fun g hg=>by
   rw[←Ll] at hg
   exact⟨(H3.next,H3.next+1),(q2,c2),_,g,k5.empty g,⟨rfl,rfl⟩,hg⟩)
  rw[show (H3.alloc (.cells 104 [.aj (some (pb x.q,po x.q+i*6))] false)).next=H3.next+1 from rfl,w,ay];exact k _ hW.to
 ·have Uc:a3.off=false:=by simpa using Qr
  rw[if_neg Qr] at k;simp only[Uc,ai];obtain⟨hi',hb',_⟩:=OA.open Oz;have g3:=OA.g.b0 hi';rw[hb',DH,bq,Ll,hb] at g3;simp only[g3.2.1,g3.2.2,AJ,reduceIte,Nat.reduceEqDiff];have uC:(a.bs[i]).pg.length≤1000:=by omega
  by_cases OL:(aD b).aW=true
  ·rw[if_pos OL] at k;simp only[OL,au]
   have T:∀(K:V→af→Prop),(∀q' c' H',dz B H' aH a3 x3 (BY q' c' (fo d 0)::L)→K (.slice q' 96 c') H')→cl 157 [.slice q2 d.length c2,.int .i64 0] H3 K:=fun K k=>by
    rw[Ub];exact IA OA.s (fun H' h'=>(h'.ord [4]).iY) Ub (by omega) 0 (fun q' c' H' h'=>k q' c' H' ⟨OA.bs,(h'.ord [5]).drop.ord [1,1,1,1]⟩)
   have P:∀q' c' H',dz B H' aH a3 x3 (BY q' c' (fo d 0)::L)→aC cP [82,82] [.slice (x3.rs[i]).q (a.bs[i]).pg.length (x3.rs[i]).c,.slice (some (H'.next,0)) 1 1] (H'.alloc (.cells 36 [.slice q' 96 c'] false))
    (fun q n c H'=>ag (H'.wr (pb x.q) (po x.q+i*6) 1) (ag ((H'.store (pb x.q) (po x.q+i*6) [.slice q n c]).wr (pb x.q) (po x.q+i*6+4) 1) (K (.int .i64 8) ((H'.store (pb x.q) (po x.q+i*6) [.slice q n c]).store (pb x.q) (po x.q+i*6+4) [.bool true])))):=by
    intro q' c' H' h';have hp3:(a3.bs[i]).pg.length≤1000:=by rw[DH,bq,hb];exact uC
    have:=h'.push Oz hp3 (Q:=fun H2=>ag (H2.wr (pb x.q) (po x.q+i*6+4) 1) (K (.int .i64 8) (H2.store (pb x.q) (po x.q+i*6+4) [.bool true]))) (fun x4 H4 Zw hw4 Yv=> ?_) hi'
    ·rw[DH,bq,hb,kx,Ub,Ll] at this;exact this
    ·obtain⟨w,x5,hq5,hw5,hX5⟩:=Yv.bcell (i:=i) (by simpa using Oz) (k:=4) (by omega) (by omega) (v:=.bool true) rfl {aD b with pg:=(a.bs[i]).pg++[fo d 0],aN:=true} (by simp [DH,bq,hb]) (by intro q c;simp [DH,bq,hb];rfl);rw[Zw,Ll] at w hX5;rw[w,ay];refine k _ (dz.to (x:=x5) ?_);simpa [hb] using hX5
   refine⟨T _ (fun q' c' H' h'=> ?_),T _ (fun q' c' H' h'=> ?_)⟩
   ·simp only[AJ,reduceIte,Nat.reduceEqDiff];exact P q' c' H' h'
   ·have g4:=h'.g.b0 hi';have g5:=(h'.alloc 36 [.slice q' 96 c']).g.b0 hi';rw[hb',DH,bq,Ll,hb] at g4 g5;simp only[AJ,reduceIte,Nat.reduceEqDiff,g4.2.1,g4.2.2,g5.2.1,g5.2.2,and_self];exact P q' c' H' h'
  ·rw[if_neg OL] at k;have Ud:(aD b).aW=false:=by simpa using OL
   simp only[Ud,ai];have g5:=(OA.alloc 36 [.slice q2 d.length c2]).g.b0 hi';rw[hb',DH,bq,Ll,hb] at g5;simp only[AJ,reduceIte,Nat.reduceEqDiff,g5.2.1,g5.2.2,and_self];have hp3:(a3.bs[i]).pg.length≤1000:=by rw[DH,bq,hb];exact uC
   have:=OA.push Oz hp3 (Q:=fun H2=>K (.int .i64 0) H2) (fun x4 H4 Zw hw4 Yv=> ?_) hi'
   ·rw[DH,bq,hb,Ll] at this;exact this
   ·refine k _ (dz.to (x:=x4) ?_);simpa [DH,bq] using Yv
end
def ve (b:Bk):Bk:={b with pg:=[],bX:=false,er:=oE (b.er+1)}
def dM (a:Ar) (i:Nat) (e:Int):Ar×Int:=
 if a.off=true then (a,9) else if e<a.aK then (a,7) else match a.bs[i]? with
  |none=>(a,1)
  |some b=>
   if (bo a i b).off=true then ({bo a i b with dC:=.er i (aD b).aW},9)
   else if (aD b).aW=true then ({bo a i b with bs:=(bo a i b).bs.set i {aD b with aN:=true}},8)
   else ({bo a i b with bs:=(bo a i b).bs.set i (ve (aD b))},0)
def pG (a:Ar) (cut:Int):Ar:=match a.dC with
 | .no=>a
 | .any=>a
 | .prog i d=>if cut>0 then match a.bs[i]? with
   |none=>a
   |some b=>{a with bs:=a.bs.set i {b with pg:=b.pg++[fo d cut]}} else a
 | .er i aW=>match a.bs[i]? with
   |none=>a
   |some b=>if 96≤cut∧aW=false then {a with bs:=a.bs.set i (ve b)} else if cut>0 then {a with bs:=a.bs.set i {b with bX:=decide (0<b.pg.length)}} else a
def bQ (a:Ar) (cut:Int):Ar:={pG a cut with dC:=.no,off:=false,bA:=0,aK:=0,boots:=oE (a.boots+1)}
def pH (a:Ar):Prop:=match a.dC with
 | .no=>True
 | .any=>False
 | .prog i d=>d.length=96∧∃h:i<a.bs.length,(a.bs[i]).pg.length≤1000
 | .er i _=>i<a.bs.length
section
variable {B:af} {L:List cq} {H:af} {K:V→af→Prop} {aH:Nat} {a:Ar} {x:Ra} {i:Nat}
theorem XI {id:Nat} {e:TypeId} {v:V} (h:az B H (cR id e [v]::L)):H.inb id 0 1=true∧H.cell id 0=v∧H.wr id 0 1=true:=
 ⟨dI h.get 0 1,aY h.get 0,fY h.get 0 1⟩
theorem dz.b1 {id:Nat} {e:TypeId} {v:V} (h:dz B H aH a x (cR id e [v]::L)):H.inb id 0 1=true∧H.cell id 0=v∧H.wr id 0 1=true:=XI h.XG
theorem IB {id:Nat} (h:dz B H aH a x (cR id 104 [.aj (some (pb x.q,po x.q+i*6))]::L)) (hi:i<a.bs.length) (k:∀x' H',x'.q=x.q→x'.w=x.w→dz B H' aH {a with bs:=a.bs.set i (ve a.bs[i])} x' (cR id 104 [.aj (some (pb x.q,po x.q+i*6))]::L)→K (.tuple []) H'):cl 127 [.aj (some (id,0))] H K:=by
 rw[WS];obtain⟨hi',hb',h1⟩:=h.open hi
 have hN:az B H (oA none 0 []::cR aH 81 (yB a x)::Rw 84 6 x.q x.c (x.rs.map Rb.cs)::bj ((x.rs.map Rb.bW).eraseIdx i)::wA x.q x.w a.dC::cR id 104 [.aj (some (pb x.q,po x.q+i*6))]::L):=
  az.MD (rs:=[]) ((h1.drop.pB).rwNil 36 1)
 obtain⟨w1,x1,hq1,hw1,h2⟩:=dz.close (L:=_) h.bs hi hi' hN;have f0:=h.b1;have f1:=h2.b1;have hi1:i<(a.bs.set i {a.bs[i] with pg:=[]}).length:=by simpa using hi
 obtain⟨w2,x2,OH,Zq,h3⟩:=h2.bcell (i:=i) hi1 (k:=2) (by omega) (by omega) (v:=.bool false) rfl {a.bs[i] with pg:=[],bX:=false} (by simp) (by intro q c;simp;rfl);have f2:=h3.b1;have hi2:i<((a.bs.set i {a.bs[i] with pg:=[]}).set i {a.bs[i] with pg:=[],bX:=false}).length:=by simpa using hi
 have f3:=h3.ck1 hi2;obtain⟨w3,x3,Ll,hw3,h4⟩:=h3.bcell (i:=i) hi2 (k:=1) (by omega) (by omega) (v:=.int .i64 (oE ((a.bs[i]).er+1))) rfl (ve a.bs[i]) (by simp [ve]) (by intro q c;simp [ve];rfl);rw[hq1] at w2 h3 f2 f3 w3 h4;rw[OH,hq1] at f3 w3 h4;simp only[List.getElem_set_self] at f3;have l0:([]:List (List UInt8)).length=0:=rfl;rw[l0] at w2 h3 f2 f3 w3 h4 f1;simp only[AJ,reduceIte,Nat.reduceEqDiff,f0.1,f0.2.1,w1,f1.1,f1.2.1,w2,Option.isSome_some,and_self];have f3':=f3.1;have abm:=f3.2;simp only[f2.1,f2.2.1,f3',abm,AJ,reduceIte,Nat.reduceEqDiff,Option.isSome_some,w3];refine k x3 _ (by rw[Ll,OH,hq1]) (by rw[hw3,Zq,hw1]) ?_;simpa using h4
theorem MI (h:az B H (df aH a::L)) (hi:i<a.bs.length) (e:Int) (k:∀H',az B H' (df aH (dM a i e).1::L)→K (.int .i64 (dM a i e).2) H'):cl 104 [.aj (some (aH,0)),.int .i64 (i:Int),.int .u64 e] H K:=by
 rw[WG];obtain⟨x,hX⟩:=dz.of h;have h9:¬(9:Int)=0:=by decide
 have hbk:a.bs[i]? =some a.bs[i]:=List.getElem?_eq_getElem hi
 have st:∀(p:Oq) {H0:af} {a0:Ar} {x0:Ra} {L0:List cq} {e:TypeId} {v0 v:V},dz B H0 aH a0 x0 L0→(H0.alloc (.cells e [v0] false)).wr H0.next 0 1=true∧dz B ((H0.alloc (.cells e [v0] false)).store H0.next 0 [v]) aH a0 x0 (cR H0.next e [v]::L0):=by
  intro p H0 a0 x0 L0 e v0 v h0;have h1:=h0.alloc e [v0];have h2:=(h1.s.ord [4]).yy (k:=0) (by show 0<1;omega) v;exact⟨h2.1,h0.bs,az.ord h2.2 [1,1,1,1]⟩
 refine CG hX hi (fun ho=> ?_) (fun ho'=> ?_)
 ·have e2:dM a i e=(a,9):=by simp [dM,ho]
  rw[e2] at k;obtain⟨w,h1⟩:=st none (e:=104) (v0:=.aj none) (v:=.aj none) hX;simp only[AJ,reduceIte,Nat.reduceEqDiff,h9,w];exact k _ h1.drop.to
 obtain⟨w,h1⟩:=st none (e:=104) (v0:=.aj none) (v:=.aj (some (pb x.q,po x.q+i*6))) hX;obtain⟨pid,Qs⟩:∃p,p=H.next:=⟨_,rfl⟩;simp only[AJ,reduceIte,Nat.reduceEqDiff,w];generalize (af.store _ _ _ _)=H1 at h1⊢;rw[←Qs] at h1⊢;have g1:=h1.g;have f1:=h1.b1;simp only[g1.i2,g1.c2,Option.isSome_some,Nat.zero_add,AJ,reduceIte,Nat.reduceEqDiff];by_cases hf:e<a.aK
 ·have e2:dM a i e=(a,7):=by simp [dM,ho',hf]
  rw[e2] at k;simp only[hf,decide_true,au];exact k _ h1.drop.to
 have e2:dM a i e=if (bo a i a.bs[i]).off=true then ({bo a i a.bs[i] with dC:=.er i (aD a.bs[i]).aW},9)
  else if (aD a.bs[i]).aW=true then ({bo a i a.bs[i] with bs:=(bo a i a.bs[i]).bs.set i {aD a.bs[i] with aN:=true}},8)
  else ({bo a i a.bs[i] with bs:=(bo a i a.bs[i]).bs.set i (ve (aD a.bs[i]))},0):=by
  simp only[dM,ho',hf,hbk,if_false,Bool.false_eq_true]
 rw[e2] at k;clear e2;obtain⟨b,hb⟩:∃b,b=a.bs[i]:=⟨_,rfl⟩;obtain⟨a3,Qq⟩:∃a3,a3=bo a i b:=⟨_,rfl⟩;rw[←hb, ←Qq] at k;have Oz:i<a3.bs.length:=by rw[Qq,fI];exact hi
 have DH:a3.bs[i]=aD b:=by subst Qq;exact AP a b hi
 simp only[hf,decide_false,ai,f1.1,f1.2.1,AJ,reduceIte,Nat.reduceEqDiff];refine EM h1 hi (fun x3 H3 Ll hw3 OA=> ?_);rw[←hb, ←Qq] at OA⊢;simp only[AJ,reduceIte,Nat.reduceEqDiff];obtain⟨w4,h4⟩:=st none (e:=4) (v0:=.bool false) (v:=.bool (aD b).aW) OA;simp only[w4,ay];obtain⟨bid,abn⟩:∃p,p=H3.next:=⟨_,rfl⟩;generalize (af.store _ _ _ _)=H4 at h4⊢;rw[←abn] at h4⊢;obtain⟨w5,h5⟩:=st none (e:=1) (v0:=.nilFunc) (v:=.func 127 [.aj (some (pid,0))]) h4;simp only[w5,ay];obtain⟨fid,Lm⟩:∃p,p=H4.next:=⟨_,rfl⟩;generalize (af.store _ _ _ _)=H5 at h5⊢;rw[←Lm] at h5⊢;by_cases Qr:a3.off=true
 ·rw[if_pos Qr] at k
  have hA2:dz B H5 aH a3 x3 (bj [cR bid 4 [.bool (aD b).aW],cR fid 1 [.func 127 [.aj (some (pid,0))]],cR pid 104 [.aj (some (pb x.q,po x.q+i*6))]]::L):=
   dz.XH (l:=[cR bid 4 [.bool (aD b).aW],cR fid 1 [.func 127 [.aj (some (pid,0))]],cR pid 104 [.aj (some (pb x.q,po x.q+i*6))]]) (h5.ord (.swap ..))
  obtain⟨w,hW⟩:=hA2.wayW (.func 128 [.aj (some (bid,0)),.aj (some (fid,0)),.aj (some (pid,0))]) (.er i (aD b).aW) (fun g hg=>by
   rw[←Ll] at hg
   exact⟨(bid,fid,pid),_,g,k5.empty g,⟨rfl,rfl⟩,hg⟩)
  simp only[Qr,Bool.not_true,Bool.not_false,au,w,ay];exact k _ hW.to
 have Uc:a3.off=false:=by simpa using Qr
 rw[if_neg Qr] at k;have f5:=h5.drop.b1;have f6:=h5.b1;have f7:=h5.drop.drop.b1;simp only[Uc,Bool.not_true,Bool.not_false,ai,f5.1,f5.2.1,AJ,reduceIte,Nat.reduceEqDiff];by_cases OL:(aD b).aW=true
 ·rw[if_pos OL] at k;obtain⟨w6,x6,hq6,hw6,h6⟩:=h5.bcell (i:=i) Oz (k:=4) (by omega) (by omega) (v:=.bool true) rfl {aD b with aN:=true} (by rw[DH]) (by intro q c;rw[DH];rfl);rw[Ll] at w6 h6;simp only[OL,au,f7.1,f7.2.1,Option.isSome_some,w6,AJ,reduceIte,Nat.reduceEqDiff];exact k _ (h6.drop.drop.drop).to
 ·rw[if_neg OL] at k;have Ud:(aD b).aW=false:=by simpa using OL
  simp only[Ud,ai,f6.1,f6.2.1,V.av,ay,Bool.and_self]
  have h7:dz B H5 aH a3 x3 (cR pid 104 [.aj (some (pb x3.q,po x3.q+i*6))]::L):=by
   rw[Ll];exact h5.drop.drop
  show cl 127 [.aj (some (pid,0))] H5 _
  refine IB h7 Oz (fun x8 H8 _ _ h8=> ?_);rw[DH] at h8;exact k _ h8.drop.to
end
section
variable {B:af} {L:List cq} {H:af} {K:V→af→Prop} {aH:Nat} {a:Ar} {x:Ra} {i:Nat}
theorem MJ {i1 i2:Nat} {q:Oq} {c:Nat} {d:List UInt8} (h:dz B H aH a x (cR i1 104 [.aj (some (pb x.q,po x.q+i*6))]::cR i2 36 [.slice q d.length c]::BY q c d::L)) (hi:i<a.bs.length) (hd:d.length=96) (uC:(a.bs[i]).pg.length≤1000) (cut:Int) (k:∀x' H',x'.q=x.q→dz B H' aH (if cut>0 then {a with bs:=a.bs.set i {a.bs[i] with pg:=(a.bs[i]).pg++[fo d cut]}} else a) x' L→K (.tuple []) H'):cl 156 [.int .i64 cut,.aj (some (i1,0)),.aj (some (i2,0))] H K:=by
 rw[Xd];by_cases hc:cut>0
 ·rw[if_pos hc] at k;obtain⟨hi',hb',_⟩:=h.open hi;have f1:=h.b1;have f2:=h.drop.b1;have g0:=h.g.b0 hi';rw[hb'] at g0;have FK:d.length≤c:=((h.s.ord [6]).J1).2.2.1
  have T:∀(K:V→af→Prop),(∀q' c' H',dz B H' aH a x (BY q' c' (fo d cut)::cR i1 104 [.aj (some (pb x.q,po x.q+i*6))]::L)→K (.slice q' 96 c') H')→
   cl 157 [.slice q d.length c,.int .i64 cut] H K:=fun K k=>by
   rw[hd];exact IA h.s (fun H' h'=>(h'.ord [6]).iY) hd (by omega) cut (fun q' c' H' h'=>k q' c' H' ⟨h.bs,(h'.ord [6,6]).drop.drop.ord [1,1,1,1]⟩)
  have P:∀q' c' H',dz B H' aH a x (BY q' c' (fo d cut)::cR i1 104 [.aj (some (pb x.q,po x.q+i*6))]::L)→
   aC cP [82,82] [.slice (x.rs[i]).q (a.bs[i]).pg.length (x.rs[i]).c,.slice (some (H'.next,0)) 1 1] (H'.alloc (.cells 36 [.slice q' 96 c'] false))
   (fun q n c H'=>ag (H'.inb i1 0 1&&V.av .aj (H'.cell i1 0)) (nm (V.an (H'.cell i1 0)) fun s=>ag s.isSome (nm (pb s) fun n1=>nm (po s) fun n2=>ag (H'.wr n1 n2 1) (K (.tuple []) (H'.store n1 n2 [.slice q n c]))))):=by
   intro q' c' H' h';obtain⟨hi',xe,h1⟩:=h'.open hi;have e96:96=(fo d cut).length:=by simp [hd]
   rw[e96];refine az.MH (L:=_) (h1.ord [0,4]) uC (fun q2 c2 H2 h2=> ?_);have f5:=XI (h2.ord [5]);obtain⟨w,x',hq,hw,h3⟩:=dz.close (L:=_) h.bs hi hi' h2;rw[List.length_append] at h3;simp only[f5.1,f5.2.1,AJ,reduceIte,Nat.reduceEqDiff,Option.isSome_some,w];exact k x' _ hq h3.drop
  have P2:∀q' c' H',dz B H' aH a x (BY q' c' (fo d cut)::cR i1 104 [.aj (some (pb x.q,po x.q+i*6))]::L)→
   aC cP [82,82] [.slice (x.rs[i]).q (a.bs[i]).pg.length (x.rs[i]).c,.slice (some (H'.next,0)) 1 1] (H'.alloc (.cells 36 [.slice q' 96 c'] false))
   (fun q n c H'=>ag (H'.wr (pb x.q) (po x.q+i*6) 1) (K (.tuple []) (H'.store (pb x.q) (po x.q+i*6) [.slice q n c]))):=by
   intro q' c' H' h';have:=h'.push hi uC (Q:=fun H2=>K (.tuple []) H2) (fun x4 H4 Zw hw4 Yv=>k x4 _ Zw Yv.drop) hi';rw[kx,hd] at this;exact this
  simp only[hc,decide_true,au,AJ,reduceIte,Nat.reduceEqDiff,f1.1,f1.2.1,f2.1,f2.2.1,g0.1,g0.2.1,g0.2.2,Option.isSome_some]
  repeat' apply And.intro
  all_goals refine T _ (fun q' c' H' h'=> ?_)
  all_goals have f3:=h'.drop.b1
  all_goals have f4:=((h'.alloc 36 [.slice q' 96 c']).drop).drop.b1
  all_goals have g1:=h'.g.b0 hi'
  all_goals have g2:=(h'.alloc 36 [.slice q' 96 c']).g.b0 hi'
  all_goals rw[hb'] at g1 g2
  all_goals simp only[AJ,reduceIte,Nat.reduceEqDiff,f3.1,f3.2.1,f4.1,f4.2.1,g1.1,g1.2.1,g1.2.2,g2.1,g2.2.1,g2.2.2,Option.isSome_some,and_self]
  all_goals repeat' apply And.intro
  all_goals first|exact P2 q' c' H' h'|exact P q' c' H' h'
 ·rw[if_neg hc] at k;simp only[hc,decide_false,ai];exact k x H rfl h.drop.drop.drop
theorem J9 {i1 i2 i3:Nat} {aW:Bool} (h:dz B H aH a x (cR i1 4 [.bool aW]::cR i2 1 [.func 127 [.aj (some (i3,0))]]::cR i3 104 [.aj (some (pb x.q,po x.q+i*6))]::L)) (hi:i<a.bs.length) (cut:Int) (k:∀x' H',x'.q=x.q→dz B H' aH (if 96≤cut∧aW=false then {a with bs:=a.bs.set i (ve a.bs[i])} else if cut>0 then {a with bs:=a.bs.set i {a.bs[i] with bX:=decide (0<(a.bs[i]).pg.length)}} else a) x' L→K (.tuple []) H'):cl 128 [.int .i64 cut,.aj (some (i1,0)),.aj (some (i2,0)),.aj (some (i3,0))] H K:=by
 rw[WT];have f1:=h.b1;have f2:=h.drop.b1;have f3:=h.drop.drop.b1;obtain⟨hi',hb',_⟩:=h.open hi;have g0:=h.g.b0 hi';rw[hb'] at g0;have hge:(cut≥96)=(96≤cut):=rfl;simp only[f1.1,f1.2.1,aO,AJ,reduceIte,Nat.reduceEqDiff,ite_self,hge];by_cases hc:96≤cut∧aW=false
 ·rw[if_pos hc] at k;simp only[hc.1,hc.2,decide_true,Bool.not_false,Bool.and_self,au,f2.1,f2.2.1,V.av,ay];show cl 127 [.aj (some (i3,0))] H _
  refine IB h.drop.drop hi (fun x8 H8 hq8 _ h8=> ?_);exact k x8 _ hq8 h8.drop
 ·rw[if_neg hc] at k
  have qJ:(decide (96≤cut)&& !aW)=false:=by
   by_cases h1:96≤cut
   ·have:aW=true:=by simpa using fun hd=>hc ⟨h1,hd⟩
    simp [this]
   ·simp [h1]
  rw[qJ,ai];by_cases h0:cut>0
  ·rw[if_pos h0] at k;obtain⟨w,x1,hq1,hw1,h2⟩:=h.bcell (i:=i) hi (k:=2) (by omega) (by omega) (v:=.bool (decide (0<(a.bs[i]).pg.length))) rfl {a.bs[i] with bX:=decide (0<(a.bs[i]).pg.length)} rfl (by intro q c;rfl)
   have e:decide (((a.bs[i]).pg.length:Int)>0)=decide (0<(a.bs[i]).pg.length):=by
    by_cases hh:0<(a.bs[i]).pg.length
    ·simp [hh]
    ·simp [hh]
   simp only[h0,decide_true,au,f3.1,f3.2.1,g0.1,g0.2.1,g0.2.2,AJ,reduceIte,Nat.reduceEqDiff,Option.isSome_some,e,w];exact k x1 _ hq1 h2.drop.drop.drop
  ·rw[if_neg h0] at k;simp only[h0,decide_false,ai];exact k x H rfl h.drop.drop.drop
theorem dz.wayOut (h:dz B H aH a x L):dz B H aH {a with dC:=.any} x (wA x.q x.w a.dC::L):=
 ⟨h.bs,(az.pure (p:=True) (h.s.ord [3]) trivial).ord [2,2,2]⟩
theorem dz.Th (h:dz B H aH a x L):H.wr aH 7 1=true∧dz B (H.store aH 7 [.nilFunc]) aH {a with dC:=.no} {x with w:=.nilFunc} L:=by
 have h1:=h.s.yy (k:=7) (by show 7<8;omega) .nilFunc;have h2:az B (H.store aH 7 [.nilFunc]) (cR aH 81 ((yB a x).set 7 .nilFunc)::Rw 84 6 x.q x.c (x.rs.map Rb.cs)::bj (x.rs.map Rb.bW)::L):=(h1.2.ord [3]).drop;exact⟨h1.1,h.bs,(az.pure (p:=V.nilFunc=V.nilFunc) h2 rfl).ord [1,1,1]⟩
theorem GV (h:az B H (df aH a::L)) (hw:pH a) (cut:Int) (k:∀H',az B H' (df aH (bQ a cut)::L)→K (.int .i64 0) H'):cl 17 [.aj (some (aH,0)),.int .i64 cut] H K:=by
 rw[Z8];obtain⟨x,hX⟩:=dz.of h;have g:=hX.g;simp only[AN,reduceIte,Nat.reduceEqDiff,Option.isNone_some,Option.isSome_some,Nat.zero_add,g.i7,g.c7]
 have fin:∀{a0:Ar} {H1:af} {x1:Ra},dz B H1 aH a0 x1 L→a0.boots=a.boots→{a0 with dC:=.no,off:=false,bA:=0,aK:=0,boots:=oE (a.boots+1)}=bQ a cut→
  ag (H1.wr aH 7 1) (nm (H1.store aH 7 [.nilFunc]) fun h=>ag (h.wr aH 5 1) (nm (h.store aH 5 [.bool false]) fun h=>ag (h.wr aH 4 1) (nm (h.store aH 4 [.int .i64 0]) fun h=>ag (h.wr aH 2 1)
   (nm (h.store aH 2 [.int .u64 0]) fun h=>ag (h.inb aH 3 1&&V.av (.int .i64) (h.cell aH 3)) (ag (h.wr aH 3 1) (K (.int .i64 0) (h.store aH 3 [.int .i64 (oE (V.aa (h.cell aH 3)+1))]))))))):=by
  intro a0 H1 x1 h1 hb hr;obtain⟨w1,h2⟩:=h1.Th;obtain⟨w2,h3⟩:=h2.l6 (k:=5) (by omega) (.bool false) (a':={a0 with dC:=.no,off:=false}) rfl rfl rfl;obtain⟨w3,h4⟩:=h3.l6 (k:=4) (by omega) (.int .i64 0) (a':={a0 with dC:=.no,off:=false,bA:=0}) rfl rfl rfl;obtain⟨w4,h5⟩:=h4.l6 (k:=2) (by omega) (.int .u64 0) (a':={a0 with dC:=.no,off:=false,bA:=0,aK:=0}) rfl rfl rfl;obtain⟨w5,h6⟩:=h5.l6 (k:=3) (by omega) (.int .i64 (oE (a.boots+1))) (a':={a0 with dC:=.no,off:=false,bA:=0,aK:=0,boots:=oE (a.boots+1)}) rfl rfl rfl;have g5:=h5.g;have c3:(af.cell _ aH 3)=.int .i64 a0.boots:=g5.c3;rw[hb] at c3;simp only[n7,w1,w2,w3,w4,g5.i3,c3,w5,AJ,reduceIte,Nat.reduceEqDiff];exact k _ (hr▸h6.to)
 cases Dy:a.dC with
 |no=>
  have hx:x.w=.nilFunc:=by
   have:=hX.s.ord [3];rw[Dy] at this;exact(az.Es this).1
  simp only[hx,V.gB,Bool.not_true,ai,V.av,ay];exact fin hX rfl (by simp only[bQ,pG,Dy])
 |any=>unfold pH at hw;rw[Dy] at hw;exact hw.elim
 |prog i d=>
  unfold pH at hw;rw[Dy] at hw;obtain⟨hd,hi,uC⟩:=hw;have h1:=hX.wayOut;rw[Dy] at h1;obtain⟨⟨i1,i2⟩,h2⟩:=(h1.s.ord [4]).OG;obtain⟨⟨q,c⟩,h2⟩:=h2.OG;obtain⟨hw,h2⟩:=h2.lD.Es;have h3:dz B H aH {a with dC:=.any} x (cR i1 104 [.aj (some (pb x.q,po x.q+i*6))]::cR i2 36 [.slice q d.length c]::BY q c d::L):=⟨hX.bs,h2.EE.ord [3,3,3,3]⟩;simp only[hw,V.gB,Bool.not_false,au,V.av,ay];show cC (fun Q=>cl 156 [.int .i64 cut,.aj (some (i1,0)),.aj (some (i2,0))] H fun v H'=>Q (St.mk (ab []) (ab []) H')) _
  rw[dD];refine MJ h3 hi hd uC cut (fun x' H' _ h'=> ?_);refine fin h' (by split<;>rfl) ?_;simp only[bQ,pG,Dy,List.getElem?_eq_getElem hi];split<;>rfl
 |er i aW=>
  unfold pH at hw;rw[Dy] at hw;have hi:i<a.bs.length:=hw;have h1:=hX.wayOut;rw[Dy] at h1;obtain⟨⟨i1,i2,i3⟩,h2⟩:=(h1.s.ord [4]).OG;obtain⟨hw,h2⟩:=h2.lD.Es;have h3:dz B H aH {a with dC:=.any} x (cR i1 4 [.bool aW]::cR i2 1 [.func 127 [.aj (some (i3,0))]]::cR i3 104 [.aj (some (pb x.q,po x.q+i*6))]::L):=⟨hX.bs,h2.EE.ord [3,3,3,3]⟩;simp only[hw,V.gB,Bool.not_false,au,V.av,ay];show cC (fun Q=>cl 128 [.int .i64 cut,.aj (some (i1,0)),.aj (some (i2,0)),.aj (some (i3,0))] H fun v H'=>Q (St.mk (ab []) (ab []) H')) _
  rw[dD];refine J9 h3 hi cut (fun x' H' _ h'=> ?_);refine fin h' (by split<;>first|rfl|(split<;>rfl)) ?_;simp only[bQ,pG,Dy,List.getElem?_eq_getElem hi];split<;>first|rfl|(split<;>rfl)
end
def fp:Bk:=⟨[],0,false,false,false,0⟩
def yC:Bk:=⟨[],0,false,true,true,0⟩
def qZ (bs:List Bk):List Int→List Bk
 |[]=>bs
 |i::l=>qZ (bs.set i.toNat yC) l
def z6 (n:Nat) (p:Int) (bP:List Int):Ar:={bs:=qZ (List.replicate n fp) bP,aB:=p,aK:=0,boots:=0,bA:=0,off:=false,aE:=0,dC:=.no}
theorem AQ:∀(l:List Int) (bs:List Bk),(qZ bs l).length=bs.length
 |[],_=>rfl
 |i::l,bs=>by rw[qZ,AQ l,List.length_set]
section
variable {B:af} {L:List cq} {H:af} {K:V→af→Prop} {aH:Nat} {a:Ar} {x:Ra} {i:Nat}
theorem az.EO (h:az B H L):∀n:Nat,az B H (bj (List.replicate n (oA none 0 []))::L)
 |0=>h.pB
 |n+1=>az.lR (az.MD (rs:=[]) (((az.EO h n).pB).rwNil 36 1))
theorem ER (l:List V):∀n:Nat,(List.replicate n l).flatten=ey n l
 |0=>rfl
 |n+1=>by
  rw[List.replicate_succ,List.flatten_cons,ER l n];rfl
theorem MK {q:Oq} {c n:Nat} {bP:List Int} (hr:EF B L q bP) (hl:bP.length≤1000000) {Kr:Am.St→Prop} {Ke:Nat→Am.St→Prop}:∀(k j:Nat) (a:Ar) {x:Ra} {H:af},j+k=bP.length→a.bs.length=n→(∀b∈a.bs,b=fp∨b=yC)→dz B H aH a x L→((∃i∈bP.drop j,i<0∨(n:Int)≤i)→∀H',az B H' L→Kr (St.mk (ab [(6,T.v (V.aj none)),(7,T.v (V.int .i64 1))]) (ab []) H'))→((∀i∈bP.drop j,0≤i∧i<(n:Int))→∀H' x',dz B H' aH {a with bs:=qZ a.bs (bP.drop j)} x' L→Ke 0 (St.mk (ab [(8,T.v (V.aj (some (aH,0))))]) (ab []) H'))→lo 12 6 (St.mk (ab [(0,T.v (V.int .i64 (n:Int))),(8,T.v (V.aj (some (aH,0)))),(30,T.v (V.slice q bP.length c)),(31,T.v (V.int .i64 (bP.length:Int))),(32,T.v (V.int .i64 (j:Int)))]) (ab []) H) Kr Ke
 |0,j,a,x,H,hj,hn,hp,h,k1,k2=>by
  obtain rfl:j=bP.length:=by omega
  rw[Mg,decide_eq_false (by omega),ai];rw[List.drop_length] at k2;exact k2 (by simp) H x h
 |k+1,j,a,x,H,hj,hn,hp,h,k1,k2=>by
  have hlt:j<bP.length:=by omega
  obtain⟨g1,g2,g3⟩:=(hr H h.XG).at hlt;have a1:(j:Int)<(bP.length:Int):=by omega
  have a2:0≤(j:Int):=by omega
  rw[List.drop_eq_getElem_cons hlt] at k1 k2;rw[Mg];simp only[AJ,reduceIte,Nat.reduceEqDiff,a1,a2,Int.toNat_natCast,g1,g2,g3];by_cases hb:bP[j]<0∨(n:Int)≤bP[j]
  ·have e:(bif !decide (bP[j]<0) then decide (bP[j]≥(n:Int)) else true)=true:=by
    rcases hb with hb|hb
    ·simp [hb]
    ·have:bP[j]≥(n:Int):=hb;simp [this]
   rw[e,au];exact k1 ⟨_,List.mem_cons_self,hb⟩ H h.XG
  ·obtain⟨b1,b2⟩:¬bP[j]<0∧¬(n:Int)≤bP[j]:=by omega
   have b2':¬bP[j]≥(n:Int):=b2;have b3:0≤bP[j]:=by omega
   have b4:bP[j]<(n:Int):=by omega
   have hi:bP[j].toNat<a.bs.length:=by omega
   have Zx:=hp _ (List.getElem_mem hi);have g:=h.g;have hx:=h.len;have b5:bP[j]<(x.rs.length:Int):=by omega
   obtain⟨s1,_⟩:=h.c0 hi;obtain⟨w1,x1,q1,e1,h1⟩:=h.bcell hi (k:=3) (by omega) (by omega) (v:=.bool true) rfl {a.bs[bP[j].toNat] with aW:=true} rfl (fun _ _=>rfl);have hi1:bP[j].toNat<(a.bs.set bP[j].toNat {a.bs[bP[j].toNat] with aW:=true}).length:=by simpa using hi
   obtain⟨w2,x2,q2,e2,h2⟩:=h1.bcell hi1 (k:=4) (by omega) (by omega) (v:=.bool true) rfl {a.bs[bP[j].toNat] with aW:=true,aN:=true} (by simp) (fun _ _=>by simp;rfl);rw[q1] at w2 h2;simp only[b1,b2',b3,b4,b5,decide_false,Bool.not_false,cond_true,ai,Option.isSome_some,g.i0,g.c0,Nat.zero_add,s1,w1,w2,AJ,reduceIte,Nat.reduceEqDiff];rw[aQ (by omega)]
   have eb:({a.bs[bP[j].toNat] with aW:=true,aN:=true}:Bk)=yC:=by
    rcases Zx with Zx|Zx<;>rw[Zx]<;>rfl
   rw[eb,List.set_set] at h2;refine MK hr hl k (j+1) {a with bs:=a.bs.set bP[j].toNat yC} (by omega) (by rw[List.length_set];exact hn) (fun b hb'=> ?_) h2 (fun he=>k1 ?_) (fun hall H' x' h'=> ?_)
   ·rcases List.mem_or_eq_of_mem_set hb' with hb'|hb'
    ·exact hp b hb'
    ·exact .inr hb'
   ·obtain⟨z,Ds,xd⟩:=he;exact⟨z,List.mem_cons_of_mem _ Ds,xd⟩
   ·exact k2 (fun z hz=>by
     rcases List.mem_cons.1 hz with rfl|hz
     ·omega
     ·exact hall z hz) H' x' h'
theorem ML (h:az B H L) (b p:Int) {q:Oq} {c:Nat} {bP:List Int} (hr:EF B L q bP) (hl:bP.length≤1000000) (k1:¬(1≤b∧b≤64∧1≤p∧p≤32∧∀i∈bP,0≤i∧i<b)→∀H',az B H' L→K (.tuple [.aj none,.int .i64 1]) H') (k2:(1≤b∧b≤64∧1≤p∧p≤32∧∀i∈bP,0≤i∧i<b)→∀aH H',az B H' (df aH (z6 b.toNat p bP)::L)→K (.tuple [.aj (some (aH,0)),.int .i64 0]) H'):cl 12 [.int .i64 b,.int .i64 p,.slice q bP.length c] H K:=by
 rw[Z4];by_cases hn:1≤b∧b≤64∧1≤p∧p≤32
 ·obtain⟨h1,h2,h3,h4⟩:=hn;have b1:¬b<1:=by omega
  have b2:¬b>64:=by omega
  have b3:¬p<1:=by omega
  have b4:¬p>32:=by omega
  have b5:0≤b:=by omega
  have b6:b*49≤70368744177664:=by omega
  have b7:b≤b:=by omega
  simp only[b1,b2,b3,b4,b5,b6,b7,decide_false,decide_true,Bool.not_false,cond_true,ai,Bool.and_self,ay,n7];obtain⟨n,rfl⟩:∃n:Nat,b=(n:Int):=⟨b.toNat,by omega⟩;rw[Int.toNat_natCast] at*;have hA:=h.alloc 84 (ey n (QH none 0 0 0 false false false 0))
  have hrow:az B (H.alloc (.cells 84 (ey n (QH none 0 0 0 false false false 0)) false)) (Rw 84 6 (some (H.next,0)) n ((List.replicate n (Rb.mk fp none 0)).map Rb.cs)::L):=by
   have e:(List.replicate n (Rb.mk fp none 0)).map Rb.cs=List.replicate n (QH none 0 0 0 false false false 0):=by rw[List.map_replicate];rfl
   rw[e];have hlen:(ey n (QH none 0 0 0 false false false 0)).length=n*6:=by rw[ey,fO];rfl
   unfold Rw;rw[ER,List.length_replicate];exact hA.unbuf hlen (gm (fun v hv=>by simp only[QH,List.mem_cons,List.not_mem_nil,or_false] at hv;rcases hv with rfl|rfl|rfl|rfl|rfl|rfl<;>rfl) _) (by omega) (by rw[hlen];omega) (by rw[List.drop_zero,List.take_length])
  generalize af.alloc H _=H1 at hrow⊢;have hB:=hrow.alloc 81 (Ze (some (H.next,0)) n n p 0 0 0 false 0 .nilFunc);obtain⟨aH,Yw⟩:∃z,z=H1.next:=⟨_,rfl⟩;generalize af.alloc H1 _=H2 at hB⊢;rw[←Yw] at hB;have hN:H1.2=aH:=Yw.symm;rw[hN]
  have hX:dz B H2 aH {bs:=List.replicate n fp,aB:=p,aK:=0,boots:=0,bA:=0,off:=false,aE:=0,dC:=.no} ⟨.nilFunc,some (H.next,0),n,List.replicate n (Rb.mk fp none 0)⟩ L:=by
   refine⟨by simp, ?_⟩;have h3:=(az.pure (p:=V.nilFunc=V.nilFunc) hB rfl);have h4:=az.EO h3 n;have e1:(List.replicate n (Rb.mk fp none 0)).map Rb.bW=List.replicate n (oA none 0 []):=by rw[List.map_replicate];rfl
   have h5:=h4.ord [2,2,0,0];show az B H2 (cR aH 81 (Ze (some (H.next,0)) (List.replicate n (Rb.mk fp none 0)).length n p 0 0 0 false 0 .nilFunc)::_::bj ((List.replicate n (Rb.mk fp none 0)).map Rb.bW)::_)
   rw[e1,List.length_replicate];exact h5
  refine MK hr hl bP.length 0 _ (by omega) (by simp) (fun b hb=>.inl (List.eq_of_mem_replicate hb)) hX (fun he H' h'=> ?_) (fun ha H' x' h'=> ?_)
  ·simp only[AJ,reduceIte,Nat.reduceEqDiff];refine k1 (fun hh=> ?_) H' h';obtain⟨z,Ds,xd⟩:=he;have:=hh.2.2.2.2 z Ds;omega
  ·simp only[AJ,reduceIte,Nat.reduceEqDiff];exact k2 ⟨h1,h2,h3,h4,ha⟩ aH H' h'.to
 ·have e:(bif !decide (b<1) then bif !decide (b>64) then bif !decide (p<1) then decide (p>32) else true else true else true)=true:=by
   by_cases b1:b<1
   ·simp [b1]
   by_cases b2:b>64
   ·simp [b1,b2]
   by_cases b3:p<1
   ·simp [b1,b2,b3]
   have b4:p>32:=by omega
   simp [b1,b2,b3,b4]
  rw[e,au];exact k1 (fun hh=>hn ⟨hh.1,hh.2.1,hh.2.2.1,hh.2.2.2.1⟩) H h
end
section
variable {B:af} {L:List cq} {H:af} {K:V→af→Prop} {q:Oq} {cap:Nat} {bs:List UInt8}
theorem MM (n size:Nat) (hs:size≤8) (bs:List UInt8) (hb:bs.length+size≤1000000000) {Kr:Am.St→Prop} {Ke:Nat→Am.St→Prop}:∀(k i:Nat) {q:Oq} {cap:Nat} {H:af},i+k=size→az B H (BY q cap (bs++le n i)::L)→(∀q' c' H',az B H' (BY q' c' (bs++le n size)::L)→Ke 0 (St.mk (ab [(0,T.v (V.slice q' (bs++le n size).length c'))]) (ab []) H'))→lo 119 2 (St.mk (ab [(0,T.v (V.slice q (bs++le n i).length cap)),(1,T.v (V.int .u64 (n:Int))),(8,T.v (V.int .i64 (size:Int))),(9,T.v (V.int .i64 (i:Int)))]) (ab []) H) Kr Ke
 |0,i,q,cap,H,hi,h,hk=>by
  obtain rfl:i=size:=by omega
  rw[Ih];(try simp only[NQ]);have e1:decide ((i:Int)<(i:Int))=false:=by simp
  rw[e1,ai];exact hk _ _ _ h
 |k+1,i,q,cap,H,hi,h,hk=>by
  rw[Ih];(try simp only[NQ]);have e1:decide ((i:Int)<(size:Int))=true:=by simp;omega
  rw[e1,au,Ew (by omega),ay,Mt n (by omega)];refine EA h _ (by simp;omega) (fun q' c' H' h'=> ?_);rw[aQ (by omega)];rw[List.append_assoc, ←Io] at h'⊢;exact MM n size hs bs hb k (i+1) (by omega) h' hk
theorem ef (n size:Nat) (h:az B H (BY q cap bs::L)) (hs:size≤8) (hb:bs.length+size≤1000000000) (k:∀q' c' H',az B H' (BY q' c' (bs++le n size)::L)→K (.slice q' (bs++le n size).length c') H'):cl 119 [.slice q bs.length cap,.int .u64 (n:Int),.int .i64 (size:Int)] H K:=by
 rw[Xi];(try simp only[NQ])
 have:=MM (B:=B) (L:=L) n size hs bs hb (Kr:=fun _=>False) (Ke:=fun j S'=>br (Nat.beq j 0) (ag (aI (KT.k bY.slice) (S'.1 0)||false||false) (K (V.slice (V.ak (T.val (S'.1 0))) (V.ao (T.val (S'.1 0))) (V.aA (T.val (S'.1 0)))) S'.3)) False)
  size 0 (q:=q) (cap:=cap) (H:=H) (by omega) (by simpa [le] using h) (fun q' c' H' h'=>by simpa [AK,reduceIte,Nat.reduceEqDiff] using k q' c' H' h')
 simpa [le] using this
theorem MN (hr:mn H q bs) (hb:bs.length≤8) {Kr:Am.St→Prop} {Ke:Nat→Am.St→Prop}:∀(k i:Nat),i+k=bs.length→lo 107 3 (St.mk (ab [(3,T.v (V.int .u64 (dm (bs.take i):Nat))),(6,T.v (V.slice q bs.length cap)),(7,T.v (V.int .i64 (bs.length:Int))),(8,T.v (V.int .i64 (i:Int)))]) (ab []) H) Kr Ke=Ke 0 (St.mk (ab [(3,T.v (V.int .u64 (dm bs:Nat)))]) (ab []) H)
 |0,i,hi=>by
  obtain rfl:i=bs.length:=by omega
  rw[Ii];(try simp only[NQ]);rw[List.take_length];have e1:decide ((bs.length:Int)<(bs.length:Int))=false:=by simp
  rw[e1,ai]
 |k+1,i,hi=>by
  have hlt:i<bs.length:=by omega
  obtain⟨h1,h2,h3⟩:=hr.at hlt;rw[Ii];(try simp only[NQ]);have e1:decide ((i:Int)<(bs.length:Int))=true:=by simp;omega
  have e2:decide (0≤(i:Int))=true:=by simp
  have e3:0+((i:Int)).toNat*1=i:=by simp
  have e4:(i:Int).toNat*1=i:=by simp
  rw[e1,au,e2,h1,e4,h2,h3];simp only[Bool.and_self,ay,dW,bI];rw[Ew (by omega),ay,aQ (by omega),Mv (Nat.lt_of_lt_of_le (wP _) (by rw[List.length_take];exact Nat.pow_le_pow_right (by omega) (by omega))) bs[i].toNat_lt (by omega)]
  have e5:dm (bs.take i)+bs[i].toNat*256 ^ i=dm (bs.take (i+1)):=by
   rw[List.take_succ_eq_append_getElem hlt,py];simp [dm,Nat.mul_comm];rw[Nat.min_eq_left (by omega)]
  rw[e5];exact MN hr hb k (i+1) (by omega)
theorem AR (hr:mn H q bs) (hb:bs.length≤8):cl 107 [.slice q bs.length cap] H K=K (.int .u64 (dm bs:Nat)) H:=by
 rw[Xj];(try simp only[NQ]);have:=MN (cap:=cap) hr hb (Kr:=fun _=>False) (Ke:=fun j S'=>br (Nat.beq j 0) (ag (aI (KT.k (bY.int IntKind.u64)) (S'.1 3)||false||false) (K (V.int IntKind.u64 (V.aa (T.val (S'.1 3)))) S'.3)) False) bs.length 0 (by omega);simp only[List.take_zero,dm] at this;refine this.trans ?_;simp [AK,reduceIte,Nat.reduceEqDiff]
end
structure RS where
 bs:List UInt8
 bP:Bool
def RS.take (s:RS) (n:Nat):List UInt8×RS:=
 if s.bP=true∨s.bs.length<n then ([],⟨s.bs,true⟩) else (s.bs.take n,⟨s.bs.drop n,false⟩)
def RS.num (s:RS) (size most:Nat):Nat×RS:=
 if dm (s.take size).1>most then (0,⟨(s.take size).2.bs,true⟩) else (dm (s.take size).1,(s.take size).2)
structure mP (B H:af) (L:List cq) (id:Nat) (s:RS):Prop where
 ex:∃q c,s.bs.length≤c∧lE B L q s.bs∧az B H (cR id 182 (zY q s.bs.length c s.bP)::L)
section
variable {B:af} {L:List cq} {H:af} {K:V→af→Prop} {q:Oq} {cap:Nat} {bs:List UInt8} {id:Nat} {s:RS}
theorem IC (h:az B H L) (hr:lE B L q bs) (hc:bs.length≤cap) (k:∀id H',mP B H' L id ⟨bs,false⟩→K (.aj (some (id,0))) H'):cl 71 [.slice q bs.length cap] H K:=by
 rw[aaJ];(try simp only[NQ]);exact k _ _ ⟨q,cap,hc,hr,h.alloc _ _⟩
theorem ES (h:mP B H L id s) (n:Nat) (k:∀q' c' H',mP B H' L id (s.take n).2→lE B L q' (s.take n).1→(s.take n).1.length≤c'→K (.slice q' (s.take n).1.length c') H'):cl 108 [.aj (some (id,0)),.int .i64 (n:Int)] H K:=by
 obtain⟨q,c,hc,hr,hs⟩:=h.ex;have hg:=hs.get;rw[Xk];(try simp only[NQ]);simp only[AK,reduceIte,Nat.reduceEqDiff,Option.isSome_some,Option.getD_some,dI hg,aY hg,fY hg,aO,Nat.zero_add];unfold RS.take at k;by_cases hb:s.bP=true∨s.bs.length<n
 ·rw[if_pos hb] at k
  have e:(bif !s.bP then decide ((n:Int)>(s.bs.length:Int)) else true)=true:=by
   rcases hb with hb|hb
   ·rw[hb];rfl
   ·cases s.bP
    ·simp;omega
    ·rfl
  have h2:az B (H.store id 1 [.bool true]) (cR id 182 (zY q s.bs.length c true)::L):=hs.store;have:=k none 0 _ ⟨q,c,hc,hr,h2⟩ (lE.nil _ _ _) (by simp);have e2:(s.bP||decide (s.bs.length<n))=true:=by simpa using hb
  simpa [zY,ae,e2,AK,reduceIte,Nat.reduceEqDiff] using this
 ·rw[if_neg hb] at k;have xe:s.bP=false:=by cases h:s.bP<;>simp_all
  have mj:n≤s.bs.length:=by omega
  have h2:az B (H.store id 0 [.slice (bJ q n) (s.bs.length-n) (c-n)]) (cR id 182 (zY (bJ q n) (s.bs.length-n) (c-n) s.bP)::L):=hs.store;have h3:=hr.part n (s.bs.length-n) (by omega);have h4:=hr.part 0 n (by omega);rw[List.drop_zero,gv] at h4;have e3:((s.bs.drop n).take (s.bs.length-n))=s.bs.drop n:=List.take_of_length_le (by simp);rw[e3] at h3;have hl:(s.bs.take n).length=n:=by simp;omega
  have:=k q n _ ⟨bJ q n,c-n,by simp;omega,h3,by simpa [xe] using h2⟩ h4 (by simp;omega);have e5:¬(n:Int)>(s.bs.length:Int):=by omega
  have e6:(n:Int)≤(c:Int):=by omega
  have e7:(n:Int)≤(s.bs.length:Int):=by omega
  rw[hl] at this;simpa [zY,ae,xe,e5,e6,e7,hc,AK,reduceIte,Nat.reduceEqDiff] using this
theorem j3 (h:mP B H L id s) (size most:Nat) (hs:size≤8) (k:∀H',mP B H' L id (s.num size most).2→K (.int .u64 ((s.num size most).1:Nat)) H'):cl 72 [.aj (some (id,0)),.int .i64 (size:Int),.int .u64 (most:Int)] H K:=by
 rw[aaK];(try simp only[NQ]);rw[Option.isNone_some,ai];refine ES h size (fun q' c' H' h' hr' qJ=> ?_);have hl:(s.take size).1.length≤8:=by unfold RS.take;split<;>simp;omega
 obtain⟨q2,c2,FK,Ad,oC⟩:=h'.ex;simp only[AK,reduceIte,Nat.reduceEqDiff];rw[AR (hr' H' oC.drop) hl];simp only[AK,reduceIte,Nat.reduceEqDiff];unfold RS.num at k;by_cases hm:dm (s.take size).1>most
 ·rw[if_pos hm] at k;have hg:=oC.get;have h3:az B (H'.store id 1 [.bool true]) (cR id 182 (zY q2 (s.take size).2.bs.length c2 true)::L):=oC.store;have:=k _ ⟨q2,c2,FK,Ad,h3⟩;have e1:((dm (s.take size).1:Nat):Int)>(most:Int):=by omega
  simpa [e1,fY hg,zY] using this
 ·rw[if_neg hm] at k;have e1:¬((dm (s.take size).1:Nat):Int)>(most:Int):=by omega
  have:=k _ h';simpa [e1] using this
theorem Ti (h:mP B H L id s):cl 73 [.aj (some (id,0))] H K=K (.bool (!s.bP&&decide (s.bs=[]))) H:=by
 obtain⟨q,c,hc,hr,hs⟩:=h.ex;have hg:=hs.get;rw[aaL];(try simp only[NQ]);simp only[AK,reduceIte,Nat.reduceEqDiff,Option.isSome_some,Option.isNone_some,Option.getD_some,dI hg,aY hg,fY hg,aO,Nat.zero_add]
 have e:decide ((s.bs.length:Int)=0)=decide (s.bs=[]):=by
  cases s.bs
  ·simp
  ·simp;omega
 simp only[zY,eF,iH,cn,bV,e];simp [AK,reduceIte,Nat.reduceEqDiff]
end
theorem jM {bs:List UInt8} {size most:Nat} (h1:size≤bs.length) (h2:dm (bs.take size)≤most):(RS.mk bs false).num size most=(dm (bs.take size),⟨bs.drop size,false⟩):=by
 have:¬bs.length<size:=by omega
 simp [RS.num,RS.take,this];omega
theorem tH {bs:List UInt8} {size most:Nat} (h1:size≤bs.length) (h2:dm (bs.take size)>most):(RS.mk bs false).num size most=(0,⟨bs.drop size,true⟩):=by
 have:¬bs.length<size:=by omega
 simp [RS.num,RS.take,this];omega
theorem Kb {bs:List UInt8} {size most:Nat} (h1:bs.length<size):(RS.mk bs false).num size most=(0,⟨bs,true⟩):=by
 simp [RS.num,RS.take,h1,dm]
theorem tI {s:RS} {size most:Nat} (h:s.bP=true):(s.num size most).2.bP=true:=by
 simp [RS.num,RS.take,h,dm]
theorem iq {s:RS} {size most:Nat} (h:(s.num size most).2.bP=false):s.bP=false∧size≤s.bs.length∧dm (s.bs.take size)≤most∧s.num size most=(dm (s.bs.take size),⟨s.bs.drop size,false⟩):=by
 obtain⟨bs,bP⟩:=s
 have hb:bP=false:=by
  cases bP
  ·rfl
  ·rw[tI rfl] at h;cases h
 subst hb;by_cases h1:size≤bs.length
 ·by_cases h2:dm (bs.take size)≤most
  ·exact⟨rfl,h1,h2,jM h1 h2⟩
  ·rw[tH h1 (by omega)] at h;cases h
 ·rw[Kb (by omega)] at h;cases h
def CH (c:BitVec 32):BitVec 32:=(c >>> 1) ^^^ (3988292384#32 &&& (0#32-(c &&& 1#32)))
def Tj:Nat→BitVec 32→BitVec 32
 |0,c=>c
 |n+1,c=>Tj n (CH c)
def ID (c:BitVec 32) (b:UInt8):BitVec 32:=Tj 8 (c ^^^ BitVec.ofNat 32 b.toNat)
def MO:List UInt8→BitVec 32→BitVec 32
 |[],c=>c
 |b::l,c=>MO l (ID c b)
def rY (bs:List UInt8):Nat:=(4294967295#32 ^^^ MO bs 4294967295#32).toNat
theorem CI (bs:List UInt8):rY bs<4294967296:=BitVec.isLt _
theorem rZ (x:Int):IntKind.u32.wrap x=((BitVec.ofInt 32 x).toNat:Int):=by
 rw[IntKind.wrap_u32,BitVec.toNat_ofInt];omega
theorem pI (c:BitVec 32):BitVec.ofInt 32 (c.toNat:Int)=c:=by
 apply BitVec.eq_of_toNat_eq;rw[BitVec.toNat_ofInt];have:=c.isLt;omega
theorem GW (c:BitVec 32):IntKind.u32.wrap ((BitVec.toNat (BitVec.ofInt 32 (Int.fdiv (c.toNat:Int) 2) ^^^ BitVec.ofInt 32 (IntKind.u32.wrap ((BitVec.toNat (BitVec.ofInt 32 3988292384 &&& BitVec.ofInt 32 (IntKind.u32.wrap (0-IntKind.u32.wrap ((BitVec.toNat (BitVec.ofInt 32 (c.toNat:Int) &&& BitVec.ofInt 32 1):Nat):Int)))):Nat):Int))):Nat):Int)=((CH c).toNat:Int):=by
 have e1:BitVec.ofInt 32 (Int.fdiv (c.toNat:Int) 2)=c >>> 1:=by
  apply BitVec.eq_of_toNat_eq;rw[BitVec.toNat_ofInt,BitVec.toNat_ushiftRight,Nat.shiftRight_eq_div_pow,Int.fdiv_eq_ediv_of_nonneg _ (by omega)];have:=c.isLt;omega
 have e2:∀y:BitVec 32,BitVec.ofInt 32 (0-(y.toNat:Int))=0#32-y:=by
  intro y;apply BitVec.eq_of_toNat_eq;rw[BitVec.toNat_ofInt,BitVec.toNat_sub];have:=y.isLt;simp only[BitVec.toNat_ofNat];omega
 have e3:BitVec.ofInt 32 1=1#32:=rfl;have e4:BitVec.ofInt 32 3988292384=3988292384#32:=rfl;rw[rZ,rZ ((BitVec.toNat (BitVec.ofInt 32 3988292384 &&& _):Nat):Int),rZ (0-_),rZ ((BitVec.toNat (BitVec.ofInt 32 (c.toNat:Int) &&& BitVec.ofInt 32 1):Nat):Int)];simp only[pI,e1,e2,e3,e4];rfl
section
variable {B:af} {L:List cq} {H:af} {K:V→af→Prop} {q:Oq} {cap:Nat} {bs:List UInt8}
theorem IE {Kr:Am.St→Prop} {Ke:Nat→Am.St→Prop} {n i:Int}:∀(k j:Nat) (c:BitVec 32),j+k=8→Ke 2 (St.mk (ab [(3,T.v (V.int .u32 ((Tj k c).toNat:Int))),(6,T.v (V.slice q bs.length cap)),(7,T.v (V.int .i64 n)),(8,T.v (V.int .i64 i))]) (ab []) H)→lo 143 9 (St.mk (ab [(3,T.v (V.int .u32 (c.toNat:Int))),(6,T.v (V.slice q bs.length cap)),(7,T.v (V.int .i64 n)),(8,T.v (V.int .i64 i)),(16,T.v (V.int .i64 (j:Int)))]) (ab []) H) Kr Ke
 |0,j,c,hj,hk=>by
  obtain rfl:j=8:=by omega
  rw[Ic];exact hk
 |k+1,j,c,hj,hk=>by
  rw[Ic,decide_eq_true (by omega),au,aQ (by omega),GW];exact IE k (j+1) (CH c) (by omega) hk
theorem MP (hr:mn H q bs) (hb:bs.length≤1000000) {Kr:Am.St→Prop} {Ke:Nat→Am.St→Prop}:∀(k i:Nat) (c:BitVec 32),i+k=bs.length→Ke 0 (St.mk (ab [(3,T.v (V.int .u32 ((MO (bs.drop i) c).toNat:Int)))]) (ab []) H)→lo 143 3 (St.mk (ab [(3,T.v (V.int .u32 (c.toNat:Int))),(6,T.v (V.slice q bs.length cap)),(7,T.v (V.int .i64 (bs.length:Int))),(8,T.v (V.int .i64 (i:Int)))]) (ab []) H) Kr Ke
 |0,i,c,hi,hk=>by
  obtain rfl:i=bs.length:=by omega
  rw[List.drop_length] at hk;rw[Ib,decide_eq_false (by omega),ai];exact hk
 |k+1,i,c,hi,hk=>by
  have hlt:i<bs.length:=by omega
  obtain⟨h1,h2,h3⟩:=hr.at hlt;have Af:H.inb (pb q) (po q+i*1) 1=true:=by rw[Nat.mul_one];exact h2
  have Rk:H.cell (pb q) (po q+i*1)=.int .u8 (bs[i].toNat:Int):=by rw[Nat.mul_one];exact h3
  have a1:(i:Int)<(bs.length:Int):=by omega
  have a2:0≤(i:Int):=by omega
  rw[List.drop_eq_getElem_cons hlt,MO] at hk;rw[Ib];simp only[AJ,reduceIte,Nat.reduceEqDiff,a1,a2,Int.toNat_natCast,h1,Af,Rk]
  have e:IntKind.u32.wrap ((BitVec.toNat (BitVec.ofInt 32 (c.toNat:Int) ^^^ BitVec.ofInt 32 (IntKind.u32.wrap (bs[i].toNat:Int))):Nat):Int)=((c ^^^ BitVec.ofNat 32 bs[i].toNat).toNat:Int):=by
   have e1:BitVec.ofInt 32 ((bs[i].toNat:Nat):Int)=BitVec.ofNat 32 bs[i].toNat:=rfl;rw[rZ,rZ ((bs[i].toNat:Nat):Int)];simp only[pI,e1]
  rw[e];refine IE 8 0 _ (by omega) ?_;simp only[AJ,reduceIte,Nat.reduceEqDiff];rw[aQ (by omega)];exact MP hr hb k (i+1) (ID c bs[i]) (by omega) hk
theorem MQ (hr:mn H q bs) (hb:bs.length≤1000000):K (.int .u32 (rY bs:Int)) H→cl 143 [.slice q bs.length cap] H K:=by
 intro k;rw[W4];refine MP hr hb bs.length 0 4294967295#32 (by omega) ?_;rw[List.drop_zero]
 have e:IntKind.u32.wrap ((BitVec.toNat (BitVec.ofInt 32 4294967295 ^^^ BitVec.ofInt 32 ((MO bs 4294967295#32).toNat:Int)):Nat):Int)=(rY bs:Int):=by
  rw[rZ];simp only[pI];rfl
 simp only[AJ,reduceIte,Nat.reduceEqDiff,e];exact k
def yD (bs:List UInt8):List UInt8:=bs++le (rY bs) 4
theorem Pk (h:az B H L) (hr:lE B L q bs) (hb:bs.length≤100000) (k:∀q' c' H',az B H' (BY q' c' (yD bs)::L)→K (.slice q' (yD bs).length c') H'):cl 145 [.slice q bs.length cap] H K:=by
 rw[W6];refine jL h (hr H h) (by omega) (fun q1 c1 H1 h1=> ?_);simp only[AJ,reduceIte,Nat.reduceEqDiff];refine MQ (hr.bO _ H1 h1) (by omega) ?_;simp only[AJ,reduceIte,Nat.reduceEqDiff];rw[cA (by have:=CI bs;omega)];refine ef (rY bs) 4 h1 (by omega) (by omega) (fun q2 c2 H2 h2=> ?_);simp only[AJ,reduceIte,Nat.reduceEqDiff];exact k q2 c2 H2 h2
def mR (p:List UInt8):Option (List UInt8):=if 4≤p.length∧dm (p.drop (p.length-4))=rY (p.take (p.length-4)) then some (p.take (p.length-4)) else none
theorem Pn {p:List UInt8} (h:az B H L) (hr:lE B L q p) (hb:p.length≤100000) (hc:p.length≤cap) (k1:mR p=none→K (.tuple [.slice none 0 0,.int .i64 (if p.length<4 then 3 else 4)]) H) (k2:∀b,mR p=some b→∀q' c' H',az B H' (BY q' c' b::L)→K (.tuple [.slice q' b.length c',.int .i64 0]) H'):cl 129 [.slice q p.length cap] H K:=by
 rw[WU,bD (by omega) (by omega)];by_cases h4:p.length<4
 ·have e:mR p=none:=by unfold mR;rw[if_neg (by omega)]
  have Qt:=k1 e;rw[if_pos h4] at Qt;have a1:(p.length:Int)-4<0:=by omega
  simp only[a1,decide_true,au];exact Qt
 ·obtain⟨n,hn⟩:∃n:Nat,n=p.length-4:=⟨_,rfl⟩;have a0:(p.length:Int)-4=(n:Int):=by omega
  have a1:¬(n:Int)<0:=by omega
  have a2:0≤(n:Int):=by omega
  have a3:(n:Int)≤(p.length:Int):=by omega
  have a4:(n:Int)≤(cap:Int):=by omega
  have a5:n≤cap:=by omega
  rw[a0];simp only[AJ,reduceIte,Nat.reduceEqDiff,a1,a2,a3,a4,a5,hc,Int.toNat_natCast,Nat.mul_one]
  have Ae:mn H (bJ q n) (p.drop n):=by
   have:=(hr H h).part n (p.length-n) (by omega)
   rwa [List.take_of_length_le (by rw[List.length_drop];omega)] at this
  have Ad:lE B L (bJ q 0) (p.take n):=by
   have:=hr.part 0 n (by omega);simpa using this
  have Ub:p.length-n=(p.drop n).length:=by rw[List.length_drop]
  have F9:n-0=(p.take n).length:=by rw[List.length_take];omega
  rw[Ub,AR Ae (by rw[List.length_drop];omega)];simp only[AJ,reduceIte,Nat.reduceEqDiff,a2,a4,a5];rw[F9];refine MQ (Ad H h) (by omega) ?_;simp only[AJ,reduceIte,Nat.reduceEqDiff];have hw:IntKind.u64.wrap ((rY (p.take n):Nat):Int)=((rY (p.take n):Nat):Int):=cA (by have:=CI (p.take n);omega);by_cases he:dm (p.drop n)=rY (p.take n)
  ·have e:mR p=some (p.take n):=by unfold mR;rw[if_pos ⟨by omega,by rw[←hn];exact he⟩, ←hn]
   have he':((dm (p.drop n):Nat):Int)=IntKind.u64.wrap ((rY (p.take n):Nat):Int):=by rw[hw];omega
   simp only[he',AJ,reduceIte,Nat.reduceEqDiff,a2,a4,a5];refine jL h (Ad H h) (by omega) (fun q1 c1 H1 h1=> ?_);simp only[AJ,reduceIte,Nat.reduceEqDiff];exact k2 _ e q1 c1 H1 h1
  ·have e:mR p=none:=by unfold mR;rw[if_neg (fun hh=>he (by rw[hn];exact hh.2))]
   have Qt:=k1 e;rw[if_neg h4] at Qt;have he':¬((dm (p.drop n):Nat):Int)=IntKind.u64.wrap ((rY (p.take n):Nat):Int):=by rw[hw];omega
   simp only[he',decide_false,Bool.not_false,au];exact Qt
end
structure Sh where
 cK:Nat
 ep:Nat
 seq:Nat
 ar:Nat
 fr:Nat
 data:List UInt8
 deriving DecidableEq
structure Sh.cM (s:Sh):Prop where
 k1:1≤s.cK
 k3:s.cK≤3
 ep:s.ep<281474976710656
 seq:s.seq<281474976710656
 ar:s.ar<65536
 fr:s.fr≤64
 dl:s.data.length≤64
 d0:s.cK=1∨s.data.length=0
instance (s:Sh):Decidable s.cM:=
 if h:1≤s.cK∧s.cK≤3∧s.ep<281474976710656∧s.seq<281474976710656∧s.ar<65536∧s.fr≤64∧s.data.length≤64∧(s.cK=1∨s.data.length=0) then
  .isTrue ⟨h.1,h.2.1,h.2.2.1,h.2.2.2.1,h.2.2.2.2.1,h.2.2.2.2.2.1,h.2.2.2.2.2.2.1,h.2.2.2.2.2.2.2⟩
 else .isFalse fun f=>h ⟨f.k1,f.k3,f.ep,f.seq,f.ar,f.fr,f.dl,f.d0⟩
def fQ (s:Sh):List UInt8:=((((([]++le s.cK 1)++le s.ep 6)++le s.seq 6)++le s.ar 2)++le s.fr 1)++le s.data.length 2++s.data
def dR (s:Sh):List UInt8:=yD (fQ s++List.replicate (91-(fQ s).length) 0)++[90]
theorem vf (s:Sh):(fQ s).length=18+s.data.length:=by simp [fQ];omega
theorem lf (s:Sh) (h:s.data.length≤64):(dR s).length=96:=by simp [dR,yD,vf];omega
structure Zi where
 k:Nat×RS
 e:Nat×RS
 s:Nat×RS
 a:Nat×RS
 f:Nat×RS
 n:Nat×RS
 d:List UInt8×RS
def CJ (b:List UInt8):Zi:=
 let k:=(RS.mk b false).num 1 3
 let e:=k.2.num 6 281474976710656
 let s:=e.2.num 6 281474976710656
 let a:=s.2.num 2 65536
 let f:=a.2.num 1 64
 let n:=f.2.num 2 64
 ⟨k,e,s,a,f,n,n.2.take n.1⟩
def Zi.sh (x:Zi):Sh:=⟨x.k.1,x.e.1,x.s.1,x.a.1,x.f.1,x.d.1⟩
def eS (p:List UInt8):Option Sh:=
 if p.length=96∧p.getD 95 0=90 then match mR (p.take 95) with
  |none=>none
  |some b=>if (CJ b).d.2.bP=false∧(CJ b).sh.cM∧dR (CJ b).sh=p then some (CJ b).sh else none
 else none
theorem r6 {p:List UInt8} {s:Sh} (h:eS p=some s):s.cM∧dR s=p:=by
 unfold eS at h;split at h
 ·split at h
  ·cases h
  ·split at h
   ·rename_i h2;cases h;exact h2.2
   ·cases h
 ·cases h
theorem vg {bs l:List UInt8} {n size most:Nat} (hn:n<256 ^ size) (hm:n≤most):(RS.mk (le n size++l) false).num size most=(n,⟨l,false⟩):=by
 have h1:((le n size++l).take size)=le n size:=by rw[List.take_left' (Cz n size)]
 have h2:((le n size++l).drop size)=l:=by rw[List.drop_left' (Cz n size)]
 have h3:dm (le n size)=n:=by rw[wO,Nat.mod_eq_of_lt hn]
 rw[jM (by simp) (by rw[h1,h3];exact hm),h1,h2,h3]
theorem MR {s:Sh} (h:s.cM) (z:List UInt8):(CJ (fQ s++z)).sh=s∧(CJ (fQ s++z)).d.2.bP=false:=by
 have e:fQ s++z=le s.cK 1++(le s.ep 6++(le s.seq 6++(le s.ar 2++(le s.fr 1++(le s.data.length 2++(s.data++z)))))):=by simp [fQ]
 have hk:=h.k3;have h1:=h.ep;have h2:=h.seq;have h3:=h.ar;have h4:=h.fr;have h5:=h.dl;rw[e];unfold CJ Zi.sh;simp only;rw[vg (bs:=[]) (by omega) hk,vg (bs:=[]) (by omega) (by omega),vg (bs:=[]) (by omega) (by omega),vg (bs:=[]) (by omega) (by omega),vg (bs:=[]) (by omega) h4,vg (bs:=[]) (by omega) h5];have hz:¬s.data.length+z.length<s.data.length:=by omega
 simp [RS.take,hz]
theorem GX {s:Sh} (h:s.cM):eS (dR s)=some s:=by
 have hl:=lf s h.dl;have hb:=vf s;have Qn:=h.dl;obtain⟨b,hbd⟩:∃b,b=fQ s++List.replicate (91-(fQ s).length) 0:=⟨_,rfl⟩;have Ag:b.length=91:=by rw[hbd];simp [hb];omega
 have e0:dR s=b++(le (rY b) 4++[90]):=by rw[hbd];simp [dR,yD]
 have e1:(dR s).take 95=b++le (rY b) 4:=by rw[e0, ←List.append_assoc,List.take_left' (by simp [Ag])]
 have e2:(dR s).getD 95 0=90:=by
  rw[e0, ←List.append_assoc,List.getD_eq_getElem?_getD,List.getElem?_append_right (by simp [Ag])];simp [Ag]
 have e3:mR (b++le (rY b) 4)=some b:=by
  have hlen:(b++le (rY b) 4).length-4=b.length:=by simp
  unfold mR;rw[hlen,List.take_left' rfl,List.drop_left' rfl,wO,Nat.mod_eq_of_lt (by have:=CI b;omega)];simp
 obtain⟨r1,r2⟩:=MR h (List.replicate (91-(fQ s).length) 0);rw[←hbd] at r1 r2;unfold eS;rw[if_pos ⟨hl,e2⟩,e1,e3];simp only[r1,r2];rw[if_pos ⟨trivial,h,trivial⟩]
theorem r7 {s:Sh} (hl:s.data.length≤64) {n:Int} (h:n<96):eS (fo (dR s) n)=none:=by
 unfold eS;rw[if_neg];rintro⟨h1,h2⟩;have hlen:=lf s hl
 have:(fo (dR s) n).getD 95 0=255:=by
  unfold fo;rw[List.getD_eq_getElem?_getD,List.getElem?_append_right (by simp;omega),List.getElem?_replicate,if_pos (by simp [hlen];omega)];rfl
 rw[this] at h2;exact absurd h2 (by decide)
section
variable {B:af} {L:List cq} {H:af} {K:V→af→Prop} {q:Oq} {cap:Nat}
def zD (s:Sh) (q:Oq) (c:Nat):V:=.agg (eZ (s.cK:Int) (s.ep:Int) (s.seq:Int) (s.ar:Int) ((s.fr:Int)-1) q s.data.length c)
theorem MU (s:Sh):K (.bool (decide s.cM)) H→cl 132 [zD s q cap] H K:=by
 intro k;unfold zD;rw[WX]
 have e:(decide ((s.cK:Int)≥1)&&(decide ((s.cK:Int)≤3)&&(decide ((s.ep:Int)<281474976710656)&&(decide ((s.seq:Int)<281474976710656)&&(decide ((s.ar:Int)≥0)&&(decide ((s.ar:Int)<65536)&&
  (decide ((s.fr:Int)-1≥ -1)&&(decide ((s.fr:Int)-1<64)&&(decide ((s.data.length:Int)≤64)&&bif !decide ((s.cK:Int)=1) then decide ((s.data.length:Int)=0) else true)))))))))=decide s.cM:=by
  by_cases hk:s.cK=1
  ·have:(s.cK:Int)=1:=by omega
   simp only[this,decide_true,Bool.not_true,cond_false,Bool.and_true];simp only[←Bool.decide_and];refine decide_eq_decide.2 ⟨fun h=>⟨by omega,by omega,by omega,by omega,by omega,by omega,by omega,.inl hk⟩,fun h=> ?_⟩;obtain⟨h1,h2,h3,h4,h5,h6,h7,h8⟩:=h;omega
  ·have:¬(s.cK:Int)=1:=by omega
   simp only[this,decide_false,Bool.not_false,cond_true];simp only[←Bool.decide_and];refine decide_eq_decide.2 ⟨fun h=>⟨by omega,by omega,by omega,by omega,by omega,by omega,by omega,.inr (by omega)⟩,fun h=> ?_⟩;obtain⟨h1,h2,h3,h4,h5,h6,h7,h8⟩:=h;omega
 rw[e];exact k
theorem Kc {bs d:List UInt8} {dq:Oq} {dc:Nat} (h:az B H (BY q cap bs::L)) (hr:lE B L dq d) (hb:bs.length≤1000000) (hd:d.length≤1000000) (k:∀q' c' H',az B H' (BY q' c' (bs++le d.length 2++d)::L)→K (.slice q' (bs++le d.length 2++d).length c') H'):cl 144 [.slice q bs.length cap,.slice dq d.length dc] H K:=by
 rw[W5,cA (by omega)];refine ef d.length 2 h (by omega) (by omega) (fun q2 c2 H2 h2=> ?_);simp only[AJ,reduceIte,Nat.reduceEqDiff];have:=hr.bO (BY q2 c2 (bs++le d.length 2)) H2 h2;exact va h2 (this.src dc) (by simp;omega) (fun q3 c3 H3 h3=>k q3 c3 H3 h3)
theorem IF {s:Sh} (h:az B H L) (hr:lE B L q s.data) (h1:s.cK<256) (h2:s.ep<18446744073709551616) (h3:s.seq<18446744073709551616) (h4:s.ar<1000000000) (h5:s.fr≤256) (h6:s.data.length≤64) (k:∀q' c' H',az B H' (BY q' c' (dR s)::L)→K (.slice q' (dR s).length c') H'):cl 133 [zD s q cap] H K:=by
 unfold zD;rw[WY,cA (n:=s.cK) (by omega),cA (n:=s.ar) (by omega)];have e5:IntKind.i64.wrap ((s.fr:Int)-1+1)=((s.fr:Nat):Int):=by rw[bD (by omega) (by omega)];omega
 rw[e5,cA (n:=s.fr) (by omega)];refine ef s.cK 1 (bs:=[]) (jZ h) (by omega) (by simp) (fun q1 c1 H1 h1=> ?_);simp only[AJ,reduceIte,Nat.reduceEqDiff];refine ef s.ep 6 h1 (by omega) (by simp) (fun q2 c2 H2 h2=> ?_);simp only[AJ,reduceIte,Nat.reduceEqDiff];refine ef s.seq 6 h2 (by omega) (by simp) (fun q3 c3 H3 h3=> ?_);simp only[AJ,reduceIte,Nat.reduceEqDiff];refine ef s.ar 2 h3 (by omega) (by simp) (fun q4 c4 H4 h4=> ?_);simp only[AJ,reduceIte,Nat.reduceEqDiff];refine ef s.fr 1 h4 (by omega) (by simp) (fun q5 c5 H5 h5=> ?_);simp only[AJ,reduceIte,Nat.reduceEqDiff];refine Kc h5 hr (by simp) (by omega) (fun q6 c6 H6 h6=> ?_);have eb:((((([]++le s.cK 1)++le s.ep 6)++le s.seq 6)++le s.ar 2)++le s.fr 1)++le s.data.length 2++s.data=fQ s:=rfl;rw[eb] at h6⊢;have Ag:=vf s;have e7:IntKind.i64.wrap (91-((fQ s).length:Int))=((91-(fQ s).length:Nat):Int):=by rw[bD (by omega) (by omega)];omega
 simp only[AJ,reduceIte,Nat.reduceEqDiff,e7];refine h6.Pc Ez (by kernel_rfl) (fun v hv=>by rw[List.mem_singleton] at hv;subst hv;rfl) rfl (by omega) (by omega) (by rw[Int.toNat_natCast];omega) (fun q7 c7 H7 h7=> ?_);rw[Int.toNat_natCast] at h7⊢
 have h8:az B H7 (BY q7 c7 (fQ s++List.replicate (91-(fQ s).length) 0)::L):=by
  have ez:gQ (91-(fQ s).length) [V.int .u8 0]=bd (List.replicate (91-(fQ s).length) 0):=by
   generalize 91-(fQ s).length=n
   induction n with
   |zero=>rfl
   |succ n ih=>
    rw[List.replicate_succ];show [V.int .u8 0]++gQ n [V.int .u8 0]=V.int .u8 ((0:UInt8).toNat:Int)::bd (List.replicate n 0)
    rw[ih];rfl
  rw[ez, ←jk] at h7;unfold BY Wz;rw[List.length_append,List.length_replicate];exact h7
 have e9:(fQ s).length+(91-(fQ s).length)=(fQ s++List.replicate (91-(fQ s).length) 0).length:=by simp
 rw[e9];refine Pk h8 lE.Z1 (by simp;omega) (fun q9 c9 H9 h9=> ?_);simp only[AJ,reduceIte,Nat.reduceEqDiff];have HA:(yD (fQ s++List.replicate (91-(fQ s).length) 0)).length≤1000:=by simp [yD];omega
 have Ru:V.int .u8 90=V.int .u8 ((90:UInt8).toNat:Int):=rfl;rw[Ru];exact EA (h9.ord [1]).drop 90 (by omega) (fun q10 c10 H10 xf=>k q10 c10 H10 xf)
end
section
variable {B:af} {L:List cq} {H:af} {K:V→af→Prop} {q:Oq} {cap:Nat} {id:Nat} {s:RS}
theorem Kd (h:mP B H L id s) (most:Nat) (hm:most≤1000) (k:∀q' c' H',mP B H' (BY q' c' ((s.num 2 most).2.take (s.num 2 most).1).1::L) id ((s.num 2 most).2.take (s.num 2 most).1).2→K (.slice q' ((s.num 2 most).2.take (s.num 2 most).1).1.length c') H'):cl 130 [.aj (some (id,0)),.int .i64 (most:Int)] H K:=by
 rw[WV,Option.isNone_some,ai,cA (by omega)];refine j3 h 2 most (by omega) (fun H1 h1=> ?_);have hn:(s.num 2 most).1≤most:=by unfold RS.num;split<;>simp only<;>omega
 simp only[AJ,reduceIte,Nat.reduceEqDiff];rw[bD (by omega) (by omega)];refine ES h1 (s.num 2 most).1 (fun q2 c2 H2 h2 Ad FK=> ?_);have hl:(((s.num 2 most).2.take (s.num 2 most).1).1).length≤1000:=by unfold RS.take;split<;>simp;omega
 obtain⟨q3,c3,hc3,Oe,Ln⟩:=h2.ex;simp only[AJ,reduceIte,Nat.reduceEqDiff];refine jL Ln (Ad H2 Ln.drop) (by omega) (fun q4 c4 H4 h4=> ?_);simp only[AJ,reduceIte,Nat.reduceEqDiff];exact k q4 c4 H4 ⟨q3,c3,hc3,Oe.bO _,h4.swap⟩
theorem Pp (h:mP B H L id s):K (.bool s.bP) H→cl 131 [.aj (some (id,0))] H K:=by
 intro k;obtain⟨q,c,hc,hr,hs⟩:=h.ex;have hg:=hs.get;rw[WW];simp only[AJ,reduceIte,Nat.reduceEqDiff,Option.isSome_some,Option.isNone_some,dI hg,aY hg,aO,Nat.zero_add,cond_true,if_true,Bool.not_false];simpa [zY] using k
theorem mP.XG (h:mP B H L id s):az B H L:=by
 obtain⟨q,c,hc,hr,hs⟩:=h.ex;exact hs.drop
theorem ET {p:List UInt8} (h:az B H L) (hr:lE B L q p) (hb:p.length≤100000) (hc:p.length≤cap) (k1:eS p=none→∀e:Int,e≠0→∀H',az B H' L→K (.tuple [.agg (eZ 0 0 0 0 0 none 0 0),.int .i64 e]) H') (k2:∀s,eS p=some s→∀q' c' H',az B H' (BY q' c' s.data::L)→K (.tuple [zD s q' c',.int .i64 0]) H'):cl 106 [.slice q p.length cap] H K:=by
 rw[WI];by_cases Jw:p.length=96
 case neg=>
  have e:eS p=none:=by unfold eS;rw[if_neg (fun hh=>Jw hh.1)]
  have a1:¬(p.length:Int)=96:=by omega
  simp only[a1,decide_false,Bool.not_false,Bool.not_true,aO,Bool.false_eq_true,if_false,ay,cond_false,au];exact k1 e 3 (by decide) H h
 have a1:(p.length:Int)=96:=by omega
 obtain⟨g1,g2,g3⟩:=(hr H h).at (i:=95) (by omega);have g2':H.inb (pb q) (po q+95) 1=true:=g2;have g3':H.cell (pb q) (po q+95)=.int .u8 (p[95].toNat:Int):=g3;have a2:(95:Int)<96:=by decide
 simp only[a1,a2,decide_true,Bool.not_true,Bool.not_false,aO,if_true,g1,g2',g3',AJ,reduceIte,Nat.reduceEqDiff,cond_true];have hgd:p.getD 95 0=p[95]:=by rw[List.getD_eq_getElem?_getD,List.getElem?_eq_getElem (by omega)];rfl
 by_cases Yx:p[95]=90
 case neg=>
  have e:eS p=none:=by unfold eS;rw[if_neg (fun hh=>Yx (by rw[←hgd];exact hh.2))]
  have a3:¬(p[95].toNat:Int)=90:=by
   intro hh;apply Yx;apply UInt8.toNat_inj.1;have:(90:UInt8).toNat=90:=rfl;omega
  simp only[a3,decide_false,Bool.not_false,au];exact k1 e 3 (by decide) H h
 have a3:(p[95].toNat:Int)=90:=by rw[Yx];rfl
 have a4:(95:Int)≤(cap:Int):=by omega
 have a5:95≤cap:=by omega
 simp only[a3,a4,a5,decide_true,Bool.not_true,ai,Bool.true_or,Bool.true_and,ay,AJ,reduceIte,Nat.reduceEqDiff]
 have abo:lE B L (bJ q 0) (p.take 95):=by
  have:=hr.part 0 95 (by omega);simpa using this
 have Yy:(95:Nat)=(p.take 95).length:=by rw[List.length_take];omega
 have key:∀{K:V→af→Prop},(mR (p.take 95)=none→K (.tuple [.slice none 0 0,.int .i64 (if (p.take 95).length<4 then 3 else 4)]) H)→(∀b,mR (p.take 95)=some b→∀q' c' H',az B H' (BY q' c' b::L)→K (.tuple [.slice q' b.length c',.int .i64 0]) H')→
  cl 129 [.slice (bJ q 0) 95 (cap-0)] H K:=by
  intro K k1 k2;have:=Pn (cap:=cap-0) h abo (by omega) (by omega) k1 k2
  rwa [←Yy] at this
 refine key (fun ho=> ?_) (fun b ho q1 c1 H1 h1=> ?_)
 ·have e:eS p=none:=by unfold eS;rw[if_pos ⟨Jw,by rw[hgd];exact Yx⟩,ho]
  have a6:¬(4:Int)=0:=by decide
  rw[←Yy];have a7:¬(95<4):=by decide
  rw[if_neg a7];simp only[AJ,reduceIte,Nat.reduceEqDiff,a6];exact k1 e 4 (by decide) H h
 ·have er:eS p=if (CJ b).d.2.bP=false∧(CJ b).sh.cM∧dR (CJ b).sh=p then some (CJ b).sh else none:=by unfold eS;rw[if_pos ⟨Jw,by rw[hgd];exact Yx⟩,ho]
  have hbc:=(h1.J1).2.2.1;simp only[AJ,reduceIte,Nat.reduceEqDiff];refine IC h1 (fun H h=>h.iY) hbc (fun id H2 h2=> ?_);have n3:(3:Int)=((3:Nat):Int):=rfl;have n1:(1:Int)=((1:Nat):Int):=rfl;have n6:(6:Int)=((6:Nat):Int):=rfl;have n2:(2:Int)=((2:Nat):Int):=rfl;have n48:(281474976710656:Int)=((281474976710656:Nat):Int):=rfl;have n16:(65536:Int)=((65536:Nat):Int):=rfl;have n64:(64:Int)=((64:Nat):Int):=rfl;simp only[AJ,reduceIte,Nat.reduceEqDiff];refine j3 h2 1 3 (by omega) (fun H3 h3=> ?_);simp only[AJ,reduceIte,Nat.reduceEqDiff];refine j3 h3 6 281474976710656 (by omega) (fun H4 h4=> ?_);simp only[AJ,reduceIte,Nat.reduceEqDiff];refine j3 h4 6 281474976710656 (by omega) (fun H5 h5=> ?_);simp only[AJ,reduceIte,Nat.reduceEqDiff];refine j3 h5 2 65536 (by omega) (fun H6 h6=> ?_);simp only[AJ,reduceIte,Nat.reduceEqDiff];refine j3 h6 1 64 (by omega) (fun H7 h7=> ?_);simp only[AJ,reduceIte,Nat.reduceEqDiff];refine Kd h7 64 (by omega) (fun q8 c8 H8 h8=> ?_);obtain⟨x,hx⟩:∃x,x=CJ b:=⟨_,rfl⟩;have bnd:∀(r:RS) (size most:Nat),(r.num size most).1≤most:=by intro r size most;unfold RS.num;split<;>simp only<;>omega
  have e1:(RS.mk b false).num 1 3=x.k:=by subst hx;simp only[CJ]
  have e2:x.k.2.num 6 281474976710656=x.e:=by subst hx;simp only[CJ]
  have e3:x.e.2.num 6 281474976710656=x.s:=by subst hx;simp only[CJ]
  have e4:x.s.2.num 2 65536=x.a:=by subst hx;simp only[CJ]
  have e5:x.a.2.num 1 64=x.f:=by subst hx;simp only[CJ]
  have e6:x.f.2.num 2 64=x.n:=by subst hx;simp only[CJ]
  have e7:x.n.2.take x.n.1=x.d:=by subst hx;simp only[CJ]
  have b1:x.k.1≤3:=by rw[←e1];exact bnd _ _ _
  have b2:x.e.1≤281474976710656:=by rw[←e2];exact bnd _ _ _
  have b3:x.s.1≤281474976710656:=by rw[←e3];exact bnd _ _ _
  have b4:x.a.1≤65536:=by rw[←e4];exact bnd _ _ _
  have b5:x.f.1≤64:=by rw[←e5];exact bnd _ _ _
  have b6:x.n.1≤64:=by rw[←e6];exact bnd _ _ _
  have b7:x.d.1.length≤64:=by rw[←e7];unfold RS.take;split<;>simp;omega
  rw[←hx] at er;simp only[e1,e2,e3,e4,e5,e6,e7] at h8⊢;have w1:IntKind.u8.wrap (x.k.1:Int)=(x.k.1:Int):=IntWalk.u8_in _ (by omega);have w2:IntKind.i64.wrap (x.a.1:Int)=(x.a.1:Int):=bD (by omega) (by omega);have w3:IntKind.i64.wrap (x.f.1:Int)=(x.f.1:Int):=bD (by omega) (by omega);have w4:IntKind.i64.wrap ((x.f.1:Int)-1)=(x.f.1:Int)-1:=bD (by omega) (by omega);simp only[AJ,reduceIte,Nat.reduceEqDiff,w1,w2,w3,w4];have hV:V.agg (eZ (x.k.1:Int) (x.e.1:Int) (x.s.1:Int) (x.a.1:Int) ((x.f.1:Int)-1) q8 x.d.1.length c8)=zD x.sh q8 c8:=rfl;rw[hV];have hs8:=h8.XG;have Ro:az B H8 (BY q8 c8 x.d.1::L):=(hs8.ord [1]).drop;refine Pp h8 ?_;simp only[AJ,reduceIte,Nat.reduceEqDiff];by_cases xe:x.d.2.bP=true
  ·have e:eS p=none:=by rw[er,if_neg (fun hh=>by rw[hh.1] at xe;cases xe)]
   simp only[xe,Bool.not_true,ai,and_self,au];exact k1 e 3 (by decide) H8 Ro.drop
  have Yz:x.d.2.bP=false:=by simpa using xe
  simp only[Yz,Bool.not_false,au];refine MU x.sh ?_;simp only[AJ,reduceIte,Nat.reduceEqDiff];by_cases hf:x.sh.cM
  case neg=>
   have e:eS p=none:=by rw[er,if_neg (fun hh=>hf hh.2.1)]
   simp only[hf,decide_false,Bool.not_false,Bool.not_true,ai,and_self,au];exact k1 e 3 (by decide) H8 Ro.drop
  simp only[hf,decide_true,Bool.not_true,Bool.not_false,au];have hst:∀{H':af},mn H' q p→gO H' q p.length=true∧gP H' q p.length=jK p:=fun h=>⟨h.gO,h.gP⟩
  have T:∀(K:V→af→Prop),(∀q' c' H',az B H' (BY q' c' (dR x.sh)::BY q8 c8 x.d.1::L)→K (.slice q' (dR x.sh).length c') H')→cl 133 [zD x.sh q8 c8] H8 K:=fun K k=>
   IF Ro (fun H h=>h.iY) (show x.k.1<256 by omega) (show x.e.1<_ by omega) (show x.s.1<_ by omega) (show x.a.1<_ by omega) (show x.f.1≤256 by omega) b7 k
  have D:(!oI (jK (dR x.sh)) (jK p))= !decide (dR x.sh=p):=by
   rw[yu]
  have hp8:=hst (((hr.bO _) H8 Ro))
  have fin:∀H',az B H' (BY q8 c8 x.d.1::L)→br (!decide (dR x.sh=p)) (K (.tuple [.agg (eZ 0 0 0 0 0 none 0 0),.int .i64 3]) H') (K (.tuple [zD x.sh q8 c8,.int .i64 0]) H'):=by
   intro H' h';by_cases hl:dR x.sh=p
   ·have e:eS p=some x.sh:=by rw[er,if_pos ⟨Yz,hf,hl⟩]
    simp only[hl,decide_true,Bool.not_true,ai];exact k2 _ e q8 c8 H' h'
   ·have e:eS p=none:=by rw[er,if_neg (fun hh=>hl hh.2.2)]
    simp only[hl,decide_false,Bool.not_false,au];exact k1 e 3 (by decide) H' h'.drop
  refine⟨T _ (fun q9 c9 H9 h9=> ?_), ?_⟩
  ·have g9:=hst (((hr.bO _).bO _) H9 h9);have l9:=(h9.iY);simp only[AJ,reduceIte,Nat.reduceEqDiff,l9.gO,l9.gP,g9.1,g9.2,D];exact fin H9 h9.drop
  ·simp only[hp8.1,ay,hp8.2];refine T _ (fun q9 c9 H9 h9=> ?_);have l9:=(h9.iY);simp only[AJ,reduceIte,Nat.reduceEqDiff,l9.gO,l9.gP,D];exact fin H9 h9.drop
end
structure Fd where
 b:Nat
 p:Nat
 s:Sh
def ic (i:Nat) (mQ:Int):List (List UInt8)→Nat→List Fd
 |[],_=>[]
 |d::l,p=>match eS d with
  |none=>ic i mQ l (p+1)
  |some s=>if s.cK≠3∧(s.ar:Int)≤mQ then ⟨i,p,s⟩::ic i mQ l (p+1) else ic i mQ l (p+1)
def Bk.ew (b:Bk) (i:Nat) (mQ:Int):List Fd:=if b.bX=true then [] else ic i mQ b.pg 0
structure Rf where
 f:Fd
 q:Oq
 c:Nat
def Rf.cs (r:Rf):List V:=ke (r.f.b:Int) (r.f.p:Int) (r.f.s.cK:Int) (r.f.s.ep:Int) (r.f.s.seq:Int) (r.f.s.ar:Int) ((r.f.s.fr:Int)-1) r.q r.f.s.data.length r.c
def Rf.bW (r:Rf):cq:=BY r.q r.c r.f.s.data
theorem vh (rs:List Rf):Pj oz (rs.map Rf.cs):=by
 intro c hc;obtain⟨r,_,rfl⟩:=List.mem_map.1 hc;rfl
structure Rz where
 i:Nat
 q:Oq
 c:Nat
 rs:List Rf
def Rz.bW (z:Rz):cq:=bj [Rw 130 8 z.q z.c (z.rs.map Rf.cs),bj (z.rs.map Rf.bW)]
theorem Tk:fD cP 158=some (130,8,80,ke 0 0 0 0 0 0 0 none 0 0):=by kernel_rfl
theorem Tl:jc (ba cP 158)=true:=by kernel_rfl
structure Ar.rd (a:Ar) (g:bZ):Prop where
 on:a.off=false
 n:(a.bs.length:Int)=g.aF
 p:a.aB=g.aB
 len:∀b∈a.bs,(b.pg.length:Int)≤a.aB
 d:∀b∈a.bs,∀d∈b.pg,d.length=96
section
variable {B:af} {L:List cq} {H:af} {K:V→af→Prop} {aH:Nat} {a:Ar} {m:Gm} {i:Nat}
theorem MV {a:Ar} {g:bZ} (hr:a.rd g) {i k:Nat} (hi:i<a.bs.length) (hk:k<(a.bs[i]).pg.length):gh a i k=if (a.bs[i]).bX=true then (4,[]) else (0,(a.bs[i]).pg[k]):=by
 have hl:=hr.len _ (List.getElem_mem hi);have h1:¬a.aB≤(k:Int):=by omega
 unfold gh;simp only[hr.on,Bool.false_eq_true,if_false,h1,List.getElem?_eq_getElem hi,List.getElem?_eq_getElem hk]
theorem mS (hm:dF B L m) (hg:m.g.In) (hr:a.rd m.g) (sB:a.aB≤32) (hi:i<a.bs.length) {Kr:Am.St→Prop} {Ke:Nat→Am.St→Prop}:∀(k p:Nat) (rs:List Rf) {q:Oq} {c:Nat} {H:af},p+k=(a.bs[i]).pg.length→rs.length≤p→az B H (Rw 130 8 q c (rs.map Rf.cs)::bj (rs.map Rf.bW)::df aH a::L)→(∀q' c' (rs':List Rf) H',rs'.map Rf.f=rs.map Rf.f++(if (a.bs[i]).bX=true then [] else ic i m.g.cap ((a.bs[i]).pg.drop p) p)→az B H' (Rw 130 8 q' c' (rs'.map Rf.cs)::bj (rs'.map Rf.bW)::df aH a::L)→Ke 0 (St.mk (ab [(8,T.v (V.slice q' rs'.length c'))]) (ab []) H'))→lo 98 9 (St.mk (ab [(0,T.v (V.aj (some (aH,0)))),(2,T.v (V.int .i64 (i:Int))),(4,T.lp 4 0),(8,T.v (V.slice q rs.length c)),(42,T.v (V.int .i64 ((a.bs[i]).pg.length:Int))),(43,T.v (V.int .i64 (p:Int)))]) (ab [(4,bg.cells 26 (ee m.g.aF m.g.aB m.g.aG m.q m.g.bP.length m.c))]) H) Kr Ke
 |0,p,rs,q,c,H,hpk,Qu,h,hk=>by
  obtain rfl:p=(a.bs[i]).pg.length:=by omega
  rw[Ml,decide_eq_false (by omega),ai];refine hk q c rs H ?_ h;rw[List.drop_length];split<;>simp [ic]
 |k+1,p,rs,q,c,H,hpk,Qu,h,hk=>by
  have hlt:p<(a.bs[i]).pg.length:=by omega
  have a1:(p:Int)<((a.bs[i]).pg.length:Int):=by omega
  have hrd:=MV hr hi hlt;have hlen:=hr.len _ (List.getElem_mem hi);have Jw:=hr.d _ (List.getElem_mem hi) _ (List.getElem_mem hlt);have hA:=h.ord [2];rw[Ml,decide_eq_true a1,au];refine EL hA hi (fun d hd=>by rw[hr.d _ (List.getElem_mem hi) _ hd];omega) p (fun q1 c1 H1 h1=> ?_);rw[hrd] at h1⊢;have a2:IntKind.i64.wrap ((p:Int)+1)=((p+1:Nat):Int):=aQ (by omega);by_cases hh:(a.bs[i]).bX=true
  ·simp only[hh,if_true] at h1 hk⊢;simp only[AJ,reduceIte,Nat.reduceEqDiff,a2];exact mS hm hg hr sB hi k (p+1) rs (by omega) (by omega) (h1.drop.ord [1,1]) (fun q' c' rs' H' e h'=>hk q' c' rs' H' (by simpa [hh] using e) h')
  ·simp only[hh,Bool.false_eq_true,if_false] at h1 hk⊢;have a3:¬(0:Int)=4:=by decide
   simp only[AJ,reduceIte,Nat.reduceEqDiff,a3];rw[List.drop_eq_getElem_cons hlt] at hk;have hcap:=(h1.J1).2.2.1;have abK:az B H1 (Rw 130 8 q c (rs.map Rf.cs)::bj (rs.map Rf.bW)::df aH a::L):=h1.drop.ord [1,1];refine ET h1 (fun H h=>h.iY) (by omega) hcap (fun hnone e he H2 h2=> ?_) (fun s hs q2 c2 H2 h2=> ?_)
   ·have he':¬e=0:=he;simp only[AJ,reduceIte,Nat.reduceEqDiff,f125,El,yg,yh,yi,yj,yk,yl,he',a2];refine mS hm hg hr sB hi k (p+1) rs (by omega) (by omega) (h2.drop.ord [1,1]) (fun q' c' rs' H' e2 h'=>hk q' c' rs' H' ?_ h');rw[ic,hnone];simpa [hh] using e2
   ·unfold zD;simp only[AJ,reduceIte,Nat.reduceEqDiff,f125,El,yg,yh,yi,yj,yk,yl];by_cases Zv:s.cK=3
    ·have Ue:(s.cK:Int)=3:=by omega
     simp only[Ue,AJ,reduceIte,Nat.reduceEqDiff,a2];refine mS hm hg hr sB hi k (p+1) rs (by omega) (by omega) (h2.drop.drop.ord [1,1]) (fun q' c' rs' H' e2 h'=>hk q' c' rs' H' ?_ h');rw[ic,hs];simp only[Zv];simpa [hh] using e2
    ·have Ue:¬(s.cK:Int)=3:=by omega
     simp only[Ue,AJ,reduceIte,Nat.reduceEqDiff];have YA:dF B (BY q2 c2 s.data::BY q1 c1 (a.bs[i]).pg[p]::df aH a::Rw 130 8 q c (rs.map Rf.cs)::bj (rs.map Rf.bW)::L) m:=((((hm.bO _).bO _).bO _).bO _).bO _;have:=tF (K:= ?_) h2 YA hg ?_
     ·exact this
     intro H3 h3;simp only[AJ,reduceIte,Nat.reduceEqDiff,a2];by_cases hle:(s.ar:Int)≤m.g.cap
     ·simp only[hle,decide_true,au];have h4:az B H3 (Rw 130 8 q c (rs.map Rf.cs)::bj (rs.map Rf.bW)::BY q2 c2 s.data::df aH a::L):=(h3.ord [1]).drop.ord [2,2]
      have hp:=h4.CA (K:=fun q n c H'=>lo 98 9
       (St.mk (ab [(0,T.v (V.aj (some (aH,0)))),(2,T.v (V.int .i64 (i:Int))),(4,T.lp 4 0),(8,T.v (V.slice q n c)),(42,T.v (V.int .i64 ((a.bs[i]).pg.length:Int))),(43,T.v (V.int .i64 ((p+1:Nat):Int)))])
        (ab [(4,bg.cells 26 (ee m.g.aF m.g.aB m.g.aG m.q m.g.bP.length m.c))]) H') Kr Ke) (e2:=130) (c:=(Rf.mk ⟨i,p,s⟩ q2 c2).cs) Tk Tl
       (fun v hv=>by simp only[ke,List.mem_cons,List.not_mem_nil,or_false] at hv;rcases hv with rfl|rfl|rfl|rfl|rfl|rfl|rfl|rfl<;>rfl) rfl (by omega) (vh rs).oD rfl
       (fun v hv=>by simp only[Rf.cs,ke,List.mem_cons,List.not_mem_nil,or_false] at hv;rcases hv with rfl|rfl|rfl|rfl|rfl|rfl|rfl|rfl<;>rfl) (by rw[List.length_map];omega) (fun q' c' H' h'=> ?_)
      ·rw[List.length_map] at hp;exact hp
      ·have e1:rs.map Rf.cs++[(Rf.mk ⟨i,p,s⟩ q2 c2).cs]=(rs++[Rf.mk ⟨i,p,s⟩ q2 c2]).map Rf.cs:=by simp
       rw[e1] at h';have e2:(rs.map Rf.cs).length+1=(rs++[Rf.mk ⟨i,p,s⟩ q2 c2]).length:=by simp
       rw[e2]
       have h5:az B H' (Rw 130 8 q' c' ((rs++[Rf.mk ⟨i,p,s⟩ q2 c2]).map Rf.cs)::bj ((rs++[Rf.mk ⟨i,p,s⟩ q2 c2]).map Rf.bW)::df aH a::L):=by
        have h6:=(h'.ord [2,1]).lR.bigPerm (l':=(rs++[Rf.mk ⟨i,p,s⟩ q2 c2]).map Rf.bW) (by
         show (BY q2 c2 s.data::rs.map Rf.bW).Perm _
         rw[List.map_append]
         exact(List.perm_append_comm (l₁:=[BY q2 c2 s.data]) (l₂:=rs.map Rf.bW)))
        exact h6.swap
       refine mS hm hg hr sB hi k (p+1) _ (by omega) (by simp;omega) h5 (fun q3 c3 rs' H3 e3 h3=>hk q3 c3 rs' H3 ?_ h3);rw[e3,ic,hs];simp only[Zv,hle,ne_eq,not_false_eq_true,and_self,if_true,hh,if_false,Bool.false_eq_true];simp
     ·simp only[hle,decide_false,ai];refine mS hm hg hr sB hi k (p+1) rs (by omega) (by omega) (h3.drop.drop.ord [1,1]) (fun q' c' rs' H' e2 h'=>hk q' c' rs' H' ?_ h');rw[ic,hs];simp only[hle,and_false,if_false];simpa [hh] using e2
theorem MW (h:az B H (df aH a::L)) (hm:dF B L m) (hf:m.g.cM=true) (hg:m.g.In) (hr:a.rd m.g) (sB:a.aB≤32) (hu:i∈m.g.us) (hi:i<a.bs.length) (k:∀q c (rs:List Rf) H',rs.map Rf.f=(a.bs[i]).ew i m.g.cap→az B H' (Rw 130 8 q c (rs.map Rf.cs)::bj (rs.map Rf.bW)::df aH a::L)→K (.tuple [.slice q rs.length c,.int .i64 0]) H'):cl 98 [.aj (some (aH,0)),m.v,.int .i64 (i:Int)] H K:=by
 have hv:m.v=.agg (ee m.g.aF m.g.aB m.g.aG m.q m.g.bP.length m.c):=rfl;rw[hv,aaH, ←hv];simp only[Option.isNone_some,ai,dD];refine Ix h (hm.bO _) hg.l (fun H1 h1=> ?_);simp only[hf,AJ,reduceIte,Nat.reduceEqDiff];rw[AO h1];simp only[AJ,reduceIte,Nat.reduceEqDiff,hr.n];rw[EJ h1];simp only[AJ,reduceIte,Nat.reduceEqDiff,hr.p];refine jm h1 (hm.bO _) hg (fun q c H2 h2=> ?_);simp only[AJ,reduceIte,Nat.reduceEqDiff]
 have hc:=pE (cap:=c) (K:=fun v H'=>ag (V.av .bool v) (ag (aI (KT.k .bool) (some (T.v (V.bool !V.ax v)))||false||false) (br (!V.ax v) (K (V.tuple [V.slice none 0 0,V.int .i64 1]) H')
  (cl 64 [V.aj (some (aH,0)),V.int .i64 (i:Int)] H' fun v H'=>ag (V.av (.int .i64) v)
   (lo 98 9 (St.mk (ab [(0,T.v (V.aj (some (aH,0)))),(2,T.v (V.int .i64 (i:Int))),(4,T.lp 4 0),(8,T.v (V.slice none 0 0)),(42,T.v (V.int .i64 (V.aa v))),(43,T.v (V.int .i64 0))])
    (ab [(4,bg.cells 26 (ee m.g.aF m.g.aB m.g.aG m.q m.g.bP.length m.c))]) H')
    (fun S'=>ag (aI (KT.k .slice) (S'.1 6)&&aI (KT.k (.int .i64)) (S'.1 7)) (K (V.tuple [V.slice (V.ak (T.val (S'.1 6))) (V.ao (T.val (S'.1 6))) (V.aA (T.val (S'.1 6))),V.int .i64 (V.aa (T.val (S'.1 7)))]) S'.3))
    fun j S'=>br (decide (j=0)) (ag (aI (KT.k .slice) (S'.1 8)) (K (V.tuple [V.slice (V.ak (T.val (S'.1 8))) (V.ao (T.val (S'.1 8))) (V.aA (T.val (S'.1 8))),V.int .i64 0]) S'.3)) False)))))
  (h2.ord [0] |> az.tD) (i:Int) (by rw[iK];have:=bZ.k6 m.g hg.b.2;omega) ?_
 ·rw[iK] at hc;simpa [AJ,reduceIte,Nat.reduceEqDiff] using hc
 ·have hmem:(i:Int)∈db m.g.us:=List.mem_map.2 ⟨i,hu,rfl⟩;simp only[hmem,AJ,reduceIte,Nat.reduceEqDiff];have h3:=h2.drop;rw[tG h3 hi];simp only[AJ,reduceIte,Nat.reduceEqDiff];refine mS (a:=a) hm hg hr sB hi (a.bs[i]).pg.length 0 [] (by omega) (by simp) (h3.pB.rwNil _ _) (fun q' c' rs' H' e h'=> ?_);simp only[AJ,reduceIte,Nat.reduceEqDiff];refine k q' c' rs' H' ?_ h';rw[e];simp [Bk.ew]
end
end Go.Proofs.YtlgdkndamddpkaaGreat
end
section
namespace Go.Am
def ob (id:Nat) (o:Obj):cq:=fun h=>h=fun j=>if j=id then some o else none
def Obj.isC:Obj→Bool
 | .cells .. =>true
 |_=>false
section
variable {B:af} {L:List cq} {H:af}
theorem az.wB {id:Nat} {o:Obj} (h:az B H (ob id o::L)):H.get id=some o:=by
 obtain⟨g,h1,h2,h3,h4,h5,h6⟩:=h.ex;exact h1 _ _ (h4.SZ (by rw[h5];simp))
theorem az.MX (h:az B H L) (o:Obj):az B (H.alloc o) (ob H.next o::L):=by
 obtain⟨g,h1,h2⟩:=h.ex;refine⟨h.ok.alloc _,Nat.le_succ_of_le h.J0,fun id o ho=> ?_,fun j=>if j=H.next then some o else g j,fun id o' ho=> ?_,_,g,fun i=> ?_,rfl,h2⟩
 ·have:=h.ok id o (h.ro id o ho).1;exact⟨by rw[af.fG (by omega)];exact(h.ro id o ho).1,(h.ro id o ho).2⟩
 ·by_cases hid:id=H.next
  ·subst hid;simp only[if_pos] at ho;rw[af.u5,ho]
  ·simp only[if_neg hid] at ho;rw[af.fG hid];exact h1 id o' ho
 ·by_cases hid:i=H.next
  ·subst hid;right;refine⟨?_,by simp⟩
   cases hg:g H.next with
   |none=>rfl
   |some o=>have:=h.ok _ _ (h1 _ _ hg);omega
  ·left;simp [hid]
theorem az.tJ {id:Nat} {o o':Obj} (h:az B H (ob id o::L)) (hc:o.isC=false):az B (H.put id o') (ob id o'::L):=by
 have T7:=h.wB;obtain⟨g,h1,h2,h3,h4,h5,h6⟩:=h.ex;subst h5;refine⟨h.ok.put T7,h.J0,fun j o ho=> ?_,fun j=>if j=id then some o' else h3 j,fun j o2 ho=> ?_,_,h3,fun i=> ?_,rfl,h6⟩
 ·have hj:=h.ro j o ho;refine⟨?_,hj.2⟩;by_cases he:j=id
  ·subst he;obtain⟨e',c',rfl⟩:=hj.2;rw[hj.1] at T7;cases T7;cases hc
  ·rw[af.kZ he];exact hj.1
 ·by_cases hid:j=id
  ·subst hid;simp only[if_pos] at ho;rw[af.HO,ho]
  ·simp only[if_neg hid] at ho;rw[af.kZ hid];exact h1 j o2 (h4.S3 ho)
 ·by_cases hid:i=id
  ·subst hid;right;refine⟨?_,by simp⟩;rcases h4 i with⟨e1,_⟩|⟨e1,_⟩
   ·simp at e1
   ·exact e1
  ·left;simp [hid]
end
structure En where
 k:Int
 v:V
 b:Nat
def tK (es:List En):List (V×V×Nat):=es.map fun e=>(.int .i64 e.k,e.v,e.b)
def F1 (n:Int):List En→Option V
 |[]=>none
 |e::l=>if e.k=n then some e.v else F1 n l
def z7 (n:Int) (v:V):List En→List En
 |[]=>[]
 |e::l=>if e.k=n then {e with v:=v}::l else e::z7 n v l
def CK (n:Int):List En→List En
 |[]=>[]
 |e::l=>if e.k=n then l else e::CK n l
structure wC (es:List En) (c:Nat):Prop where
 lt:es.Pairwise fun x y=>x.b<y.b
 all:∀e∈es,e.b<c
theorem IG:∀es:List En,rr .i64 (tK es)=true
 |[]=>rfl
 |e::l=>by
  show (V.av (.int .i64) (.int .i64 e.k)&&rr .i64 (tK l))=true
  rw[IG l,dW];rfl
theorem tL (n:Int):∀es:List En,mv n (tK es)=F1 n es
 |[]=>rfl
 |e::l=>by
  show (bif decide (e.k=n) then some e.v else mv n (tK l))=_
  rw[tL n l,F1];by_cases h:e.k=n<;>simp [h]
theorem IH (n:Int) (v:V):∀es:List En,DI n v (tK es)=tK (z7 n v es)
 |[]=>rfl
 |e::l=>by
  show (bif decide (e.k=n) then (V.int .i64 e.k,v,e.b)::tK l else (V.int .i64 e.k,e.v,e.b)::DI n v (tK l))=_
  rw[IH n v l,z7];by_cases h:e.k=n<;>simp [h,tK]
theorem II (n:Int):∀es:List En,xh n (tK es)=tK (CK n es)
 |[]=>rfl
 |e::l=>by
  show (bif decide (e.k=n) then tK l else (V.int .i64 e.k,e.v,e.b)::xh n (tK l))=_
  rw[II n l,CK];by_cases h:e.k=n<;>simp [h,tK]
section
variable {B:af} {L:List cq} {H:af} {id c:Nat} {es:List En}
def iu (id:Nat) (es:List En) (c:Nat):cq:=ob id (.map (tK es) c)
theorem az.MY (h:az B H L):az B (H.alloc (.map [] 0)) (iu H.next [] 0::L):=h.MX _
theorem tM (h:az B H (iu id es c::L)):dY H .i64 (some id)=true:=by
 have hg:=h.wB;simp only[dY,Option.isNone_some,Option.getD_some,af.isMap,af.ents,hg,IG,Bool.and_self,Bool.or_true]
theorem QQ (h:az B H (iu id es c::L)):H.isMap id=true:=by
 have hg:=h.wB;simp only[af.isMap,hg]
theorem yE (h:az B H (iu id es c::L)) (n:Int) (z:V):bU H (some id) n z=(F1 n es).getD z:=by
 have hg:=h.wB;simp only[bU,Option.isNone_some,Option.getD_some,af.ents,hg,tL,cond_false]
theorem MZ (h:az B H (iu id es c::L)) (n:Int):kF H (some id) n=(F1 n es).isSome:=by
 have hg:=h.wB;simp only[kF,Option.isSome_some,Option.getD_some,af.ents,hg,tL,Bool.true_and]
def qH (n:Int) (v:V) (es:List En) (c:Nat):List En×Nat:=if (F1 n es).isSome then (z7 n v es,c) else (es++[⟨n,v,c⟩],c+1)
theorem az.IJ (h:az B H (iu id es c::L)) (n:Int) (v:V):az B (hH H .i64 id n v) (iu id (qH n v es c).1 (qH n v es c).2::L):=by
 have hg:=h.wB;unfold hH qH;simp only[af.ents,af.clock,hg,tL]
 cases hf:(F1 n es).isSome with
 |true=>
  simp only[cond_true,if_true,IH];exact h.tJ rfl
 |false=>
  simp only[cond_false,Bool.false_eq_true,if_false];have e:tK es++[(V.int .i64 n,v,c)]=tK (es++[⟨n,v,c⟩]):=by simp [tK]
  rw[e];exact h.tJ rfl
theorem az.XJ (h:az B H (iu id es c::L)) (n:Int):az B (oH H (some id) n) (iu id (CK n es) c::L):=by
 have hg:=h.wB;unfold oH;simp only[Option.isNone_some,Option.getD_some,af.ents,af.clock,hg,II,cond_false];exact h.tJ rfl
theorem M0 (n:Int) (v:V):∀es:List En,(z7 n v es).map En.b=es.map En.b
 |[]=>rfl
 |e::l=>by
  rw[z7];split
  ·rfl
  ·rw[List.map_cons,M0 n v l,List.map_cons]
theorem CL {es:List En} {c:Nat}:wC es c↔(es.map En.b).Pairwise (· < ·)∧∀b∈es.map En.b,b<c:=by
 constructor
 ·intro h;exact⟨List.pairwise_map.2 h.lt,fun b hb=>by obtain⟨e,he,rfl⟩:=List.mem_map.1 hb;exact h.all e he⟩
 ·intro h;exact⟨List.pairwise_map.1 h.1,fun e he=>h.2 _ (List.mem_map.2 ⟨e,he,rfl⟩)⟩
theorem wC.Zj (h:wC es c) (n:Int) (v:V):wC (qH n v es c).1 (qH n v es c).2:=by
 unfold qH;split
 ·rw[CL] at h⊢;rw[M0];exact h
 ·refine⟨?_, ?_⟩
  ·rw[List.pairwise_append];exact⟨h.lt,by simp,fun x hx y hy=>by rw[List.mem_singleton] at hy;subst hy;exact h.all x hx⟩
  ·intro e he;rcases List.mem_append.1 he with he|he
   ·have:=h.all e he;simp only;omega
   ·rw[List.mem_singleton] at he;subst he;simp
theorem yF (n:Int):∀es:List En,(CK n es).Sublist es
 |[]=>.slnil
 |e::l=>by
  rw[CK];split
  ·exact List.sublist_cons_self ..
  ·exact(yF n l).cons_cons e
theorem wC.DD (h:wC es c) (n:Int):wC (CK n es) c:=⟨h.lt.sublist (yF n es),fun e he=>h.all e ((yF n es).subset he)⟩
theorem wC.nil (c:Nat):wC [] c:=⟨.nil,fun e he=>by cases he⟩
theorem EU {e:En}:∀{es:List En},(es.Pairwise fun x y=>x.b<y.b)→e∈es→Ah e.b (tK es)=some (.int .i64 e.k,e.v)
 |x::l,hp,he=>by
  show (bif Nat.beq x.b e.b then some (V.int .i64 x.k,x.v) else Ah e.b (tK l))=_
  rw[List.pairwise_cons] at hp;rcases List.mem_cons.1 he with rfl|he
  ·simp
  ·have:=hp.1 e he;have hb:Nat.beq x.b e.b=false:=by simp;omega
   rw[hb,cond_false];exact EU hp.2 he
theorem vi {seen:List Nat} {b:Nat}:∀{es:List En},b∈kE seen (tK es)↔∃e∈es,e.b=b∧b∉seen
 |[]=>by simp [tK,kE]
 |x::l=>by
  show b∈(bif sF x.b seen then kE seen (tK l) else x.b::kE seen (tK l))↔_
  have ih:=vi (seen:=seen) (b:=b) (es:=l)
  cases hx:sF x.b seen with
  |true=>
   have hm:x.b∈seen:=FX hx;rw[cond_true,ih];constructor
   ·rintro⟨e,he,h1,h2⟩;exact⟨e,List.mem_cons_of_mem _ he,h1,h2⟩
   ·rintro⟨e,he,h1,h2⟩;rcases List.mem_cons.1 he with rfl|he
    ·exact absurd (h1▸hm) h2
    ·exact⟨e,he,h1,h2⟩
  |false=>
   have hm:x.b∉seen:=fun h=>by rw[Jx h] at hx;cases hx
   rw[cond_false,List.mem_cons,ih];constructor
   ·rintro(rfl|⟨e,he,h1,h2⟩)
    ·exact⟨x,List.mem_cons_self,rfl,hm⟩
    ·exact⟨e,List.mem_cons_of_mem _ he,h1,h2⟩
   ·rintro⟨e,he,h1,h2⟩;rcases List.mem_cons.1 he with rfl|he
    ·exact .inl h1.symm
    ·exact .inr ⟨e,he,h1,h2⟩
where
 FX {n:Nat}:∀{l:List Nat},sF n l=true→n∈l
  |y::l,h=>by
   rw[sF,Bool.or_eq_true] at h;rcases h with h|h
   ·exact List.mem_cons.2 (.inl (Nat.eq_of_beq_eq_true h))
   ·exact List.mem_cons_of_mem _ (FX h)
 Jx {n:Nat}:∀{l:List Nat},n∈l→sF n l=true
  |y::l,h=>by
   rw[sF,Bool.or_eq_true];rcases List.mem_cons.1 h with rfl|h
   ·exact .inl (Nat.beq_refl _)
   ·exact .inr (Jx h)
theorem AS {s:Nat}:∀{es:List En},(∀e∈es,e.b<s)→nr s (tK es)=true
 |[],_=>rfl
 |x::l,h=>by
  show (Nat.blt x.b s&&nr s (tK l))=true
  rw[AS fun e he=>h e (List.mem_cons_of_mem _ he),Bool.and_true];exact Nat.ble_eq_true_of_le (h x List.mem_cons_self)
theorem yG:∀(l:List Nat) (b:Nat),Ai (l++[b])=some b
 |[],b=>rfl
 |[x],b=>rfl
 |x::y::l,b=>by
  show Ai (y::l++[b])=some b
  exact yG (y::l) b
theorem az.M3 {it:Nat} {seen:List Nat} (h:az B H (ob it (.dA (some id) c seen c)::iu id es c::L)) (hb:wC es c) {K1:Prop} {K2:af→Prop} (k1:(∀e∈es,e.b∈seen)→K1) (k2:∀e∈es,e.b∉seen→∀H',az B H' (ob it (.dA (some id) c (seen++[e.b]) c)::iu id es c::L)→ru H' it=true→j6 H' it=.int .i64 e.k→iv H' it=e.v→K2 H'):mapNext H it K1 K2:=by
 have h1:=h.wB;have h2:=h.swap.wB;unfold mapNext;simp only[h1,h2,AS hb.all,Nat.ble_eq_true_of_le (Nat.le_refl c),Bool.and_self,cond_true]
 have key:∀b,b∈kE seen (tK es)→K2 (H.put it (.dA (some id) c (seen++[b]) c)):=by
  intro b UP;obtain⟨e,he,rfl,hn⟩:=vi.1 UP;have h3:=h.tJ (o':=.dA (some id) c (seen++[e.b]) c) rfl;have g1:=h3.wB;have g2:=h3.swap.wB
  have zH:uD (H.put it (.dA (some id) c (seen++[e.b]) c)) it=some (.int .i64 e.k,e.v):=by
   unfold uD;simp only[g1,g2,yG,Nat.beq_refl,cond_true];exact EU hb.lt he
  exact k2 e he hn _ h3 (by unfold ru;rw[zH];rfl) (by unfold j6;rw[zH];rfl) (by unfold iv;rw[zH];rfl)
 cases hl:kE seen (tK es) with
 |nil=>
  refine k1 (fun e he=> ?_)
  cases hd:decide (e.b∈seen) with
  |true=>exact of_decide_eq_true hd
  |false=>
   have:e.b∈kE seen (tK es):=vi.2 ⟨e,he,rfl,of_decide_eq_false hd⟩;rw[hl] at this;cases this
 |cons x l=>
  rw[hl] at key;exact key
theorem az.M4 (h:az B H (iu id es c::L)):az B (H.alloc (mapIter H (some id))) (ob H.next (.dA (some id) c [] c)::iu id es c::L):=by
 have hg:=h.wB;have e:mapIter H (some id)=.dA (some id) c [] c:=by simp only[mapIter,Option.isNone_some,Option.getD_some,af.clock,hg,cond_false]
 rw[e];exact h.MX _
theorem nT (q:En→Bool) {e:En} {seen:List Nat} (hn:e.b∉seen):∀{es:List En},(es.Pairwise fun x y=>x.b<y.b)→e∈es→es.countP (fun y=>decide (y.b∈seen++[e.b])&&q y)=es.countP (fun y=>decide (y.b∈seen)&&q y)+(if q e=true then 1 else 0)
 |x::l,hp,he=>by
  rw[List.pairwise_cons] at hp;rw[List.countP_cons,List.countP_cons];rcases List.mem_cons.1 he with rfl|he
  ·have e1:l.countP (fun y=>decide (y.b∈seen++[e.b])&&q y)=l.countP (fun y=>decide (y.b∈seen)&&q y):=by
    apply List.countP_congr;intro y hy;have:=hp.1 y hy;have hne:¬y.b=e.b:=by omega
    simp [hne]
   rw[e1];cases hq:q e<;>simp [hq,hn]
  ·have:=hp.1 e he;have hne:¬x.b=e.b:=by omega
   rw[nT q hn hp.2 he];simp only[List.mem_append,List.mem_singleton,hne,or_false];omega
end
end Go.Am
end
section
namespace Go.Proofs.YtlgdkndamddpkaaGreat
open Go.Am
def GY (o f:Fd):Bool:=decide (o.s.cK=f.s.cK)&&(decide (o.s.ar=f.s.ar)&&(decide (o.s.seq<f.s.seq)&&decide (o.s.data=f.s.data)))
def gT (i:Nat):List (Nat×List Fd)→List Fd
 |[]=>[]
 |x::l=>if x.1=i then x.2 else gT i l
def GZ (cE:List (Nat×List Fd)) (fr:Nat):List Fd:=if fr=0 then [] else gT (fr-1) cE
def r8 (cE:List (Nat×List Fd)) (fr:Nat) (f:Fd):Bool:=decide (fr≠0)&&(decide (f.s.fr=fr)&&(GZ cE fr).any fun o=>GY o f)
def kh (cE:List (Nat×List Fd)) (i:Nat):Bool:=match gT i cE with
 |[]=>false
 |f::l=>(f::l).all (r8 cE f.s.fr)
def pJ (bz:List (Rz×Nat)):List En:=bz.map fun x=>⟨(x.1.i:Int),.slice x.1.q x.1.rs.length x.1.c,x.2⟩
def mT (bz:List (Rz×Nat)):List (Nat×List Fd):=bz.map fun x=>(x.1.i,x.1.rs.map Rf.f)
def oB (i:Nat):List (Rz×Nat)→Option Rz
 |[]=>none
 |x::l=>if x.1.i=i then some x.1 else oB i l
theorem tN {i:Nat} {z:Rz}:∀{bz:List (Rz×Nat)},oB i bz=some z→∃b,(z,b)∈bz
 |x::l,h=>by
  rw[oB] at h;split at h
  ·cases h;exact⟨x.2,List.mem_cons_self⟩
  ·obtain⟨b,hb⟩:=tN h;exact⟨b,List.mem_cons_of_mem _ hb⟩
theorem tO (i:Nat):∀bz:List (Rz×Nat),gT i (mT bz)=match oB i bz with|some z=>z.rs.map Rf.f|none=>[]
 |[]=>rfl
 |x::l=>by
  show (if x.1.i=i then x.1.rs.map Rf.f else gT i (mT l))=_
  rw[oB];split
  ·rfl
  ·exact tO i l
theorem CM (i:Nat):∀bz:List (Rz×Nat),F1 (i:Int) (pJ bz)=(oB i bz).map fun z:Rz=>V.slice z.q z.rs.length z.c
 |[]=>rfl
 |x::l=>by
  show (if (x.1.i:Int)=(i:Int) then some _ else F1 (i:Int) (pJ l))=_
  rw[oB,CM i l];by_cases h:x.1.i=i
  ·have:(x.1.i:Int)=(i:Int):=by omega
   rw[if_pos this,if_pos h];rfl
  ·have:¬(x.1.i:Int)=(i:Int):=by omega
   rw[if_neg this,if_neg h]
theorem IK:∀bz:List (Rz×Nat),F1 (-1) (pJ bz)=none
 |[]=>rfl
 |x::l=>by
  show (if (x.1.i:Int)= -1 then some _ else F1 (-1) (pJ l))=_
  rw[if_neg (by omega),IK l]
section
variable {B:af} {L:List cq} {H:af} {K:V→af→Prop}
theorem tP {zs:List Rz} {z:Rz} (h:az B H (bj (zs.map Rz.bW)::L)) (hz:z∈zs):Rd H z.q (z.rs.map Rf.cs).flatten∧∀r∈z.rs,mn H r.q r.f.s.data:=by
 obtain⟨j,hj,rfl⟩:=List.mem_iff_getElem.1 hz;have h1:=h.pC (i:=j) (by simpa using hj);rw[List.getElem_map] at h1;have h2:=az.EE h1;refine⟨h2.wz,fun r hr=> ?_⟩;obtain⟨k,hk,rfl⟩:=List.mem_iff_getElem.1 hr;have h3:=(h2.ord [1]).pC (i:=k) (by simpa using hk);rw[List.getElem_map] at h3;exact h3.iY
structure Zk (H:af) (fid:Nat) (r:Rf):Prop where
 i:∀k<8,H.inb fid k 1=true
 c:∀k<8,H.cell fid k=ae r.cs k
 d:mn H r.q r.f.s.data
theorem fcG {fid:Nat} {r:Rf} (hg:H.get fid=some (.cells 130 r.cs false)) (hd:mn H r.q r.f.s.data):Zk H fid r:=
 ⟨fun k hk=>mO hg (by show k<8;exact hk),fun k hk=>aY hg k,hd⟩
theorem Tm {fid:Nat} {o r:Rf} (g:Zk H fid r) (ho:mn H o.q o.f.s.data):cl 123 [.agg o.cs,.aj (some (fid,0))] H K=K (.bool (GY o.f r.f)) H:=by
 unfold Rf.cs;rw[WM];have c2:H.cell fid 2=.int .u8 (r.f.s.cK:Int):=g.c 2 (by omega);have c4:H.cell fid 4=.int .u64 (r.f.s.seq:Int):=g.c 4 (by omega);have c5:H.cell fid 5=.int .i64 (r.f.s.ar:Int):=g.c 5 (by omega);have c7:H.cell fid 7=.slice r.q r.f.s.data.length r.c:=g.c 7 (by omega);simp only[AJ,reduceIte,Nat.reduceEqDiff,Nat.zero_add,g.i 2 (by omega),g.i 4 (by omega),g.i 5 (by omega),g.i 7 (by omega),c2,c4,c5,c7];unfold GY;by_cases h1:o.f.s.cK=r.f.s.cK
 ·have we:(o.f.s.cK:Int)=(r.f.s.cK:Int):=by omega
  simp only[h1,we,decide_true,au,Bool.true_and];by_cases h2:o.f.s.ar=r.f.s.ar
  ·have Af:(o.f.s.ar:Int)=(r.f.s.ar:Int):=by omega
   simp only[h2,Af,decide_true,au,Bool.true_and];by_cases h3:o.f.s.seq<r.f.s.seq
   ·have Rk:(o.f.s.seq:Int)<(r.f.s.seq:Int):=by omega
    simp only[h3,Rk,decide_true,au,Bool.true_and,ho.gO,ho.gP,g.d.gO,g.d.gP,ay,yu]
   ·have Rk:¬(o.f.s.seq:Int)<(r.f.s.seq:Int):=by omega
    simp only[h3,Rk,decide_false,ai,Bool.false_and]
  ·have Af:¬(o.f.s.ar:Int)=(r.f.s.ar:Int):=by omega
   simp only[h2,Af,decide_false,ai,Bool.false_and]
 ·have we:¬(o.f.s.cK:Int)=(r.f.s.cK:Int):=by omega
  simp only[h1,we,decide_false,ai,Bool.false_and]
theorem QR {fid:Nat} {r:Rf} (g:Zk H fid r) {q:Oq} {c:Nat} {rs:List Rf} (hr:Rd H q (rs.map Rf.cs).flatten) (hd:∀o∈rs,mn H o.q o.f.s.data) (hl:rs.length≤1000000) {Kr:Am.St→Prop} {Ke:Nat→Am.St→Prop} (k1:∀j:Nat,(rs.any fun o=>GY o.f r.f)=true→Kr (St.mk (ab [(4,T.v (V.int .i64 (j:Int)))]) (ab []) H)) (k2:(rs.any fun o=>GY o.f r.f)=false→Ke 0 (St.mk (ab []) (ab []) H)):∀(k i:Nat),i+k=rs.length→((rs.take i).any fun o=>GY o.f r.f)=false→lo 142 2 (St.mk (ab [(0,T.v (V.slice q rs.length c)),(1,T.v (V.func 123 [.aj (some (fid,0))])),(7,T.v (V.int .i64 (rs.length:Int))),(8,T.v (V.int .i64 (i:Int)))]) (ab []) H) Kr Ke
 |0,i,hi,hn=>by
  obtain rfl:i=rs.length:=by omega
  rw[List.take_length] at hn;rw[Ia,decide_eq_false (by omega),ai];exact k2 hn
 |k+1,i,hi,hn=>by
  have hlt:i<rs.length:=by omega
  obtain⟨s1,s2,s3⟩:=yw hr (vh rs).oD (by decide) (i:=i) (by simpa using hlt);have s2':H.inb (pb q) (po q+i*8) 8=true:=s2
  have HF:H.sub (pb q) (po q+i*8) 8=(rs[i]).cs:=by
   rw[List.getElem_map] at s3;exact s3
  have a1:(i:Int)<(rs.length:Int):=by omega
  have a2:0≤(i:Int):=by omega
  have hfit:aJ oz (rs[i]).cs=true:=rfl;have zz:JV (rs[i]).cs=(rs[i]).cs:=rfl;rw[Ia];simp only[AJ,reduceIte,Nat.reduceEqDiff,a1,a2,Int.toNat_natCast,s1,s2',HF,hfit,zz];show cl 123 [.agg (rs[i]).cs,.aj (some (fid,0))] H _
  rw[Tm g (hd _ (List.getElem_mem hlt))];simp only[AJ,reduceIte,Nat.reduceEqDiff]
  cases hm:GY (rs[i]).f r.f with
  |true=>
   simp only[au];exact k1 i (List.any_eq_true.2 ⟨_,List.getElem_mem hlt,hm⟩)
  |false=>
   simp only[ai];rw[aQ (by omega)];refine QR g hr hd hl k1 k2 k (i+1) (by omega) ?_;rw[List.take_succ_eq_append_getElem hlt,List.any_append,hn];simp [hm]
theorem M5 {fid:Nat} {r:Rf} (g:Zk H fid r) {q:Oq} {c:Nat} {rs:List Rf} (hr:Rd H q (rs.map Rf.cs).flatten) (hd:∀o∈rs,mn H o.q o.f.s.data) (hl:rs.length≤1000000):K (.bool (rs.any fun o=>GY o.f r.f)) H→cl 122 [.slice q rs.length c,.func 123 [.aj (some (fid,0))]] H K:=by
 intro k;rw[WL,W3];refine QR g hr hd hl (fun j e=> ?_) (fun e=> ?_) rs.length 0 (by omega) (by simp)
 ·have:(j:Int)≥0:=by omega
  simp only[AJ,reduceIte,Nat.reduceEqDiff,this];rw[e] at k;exact k
 ·have:¬(-1:Int)≥0:=by decide
  simp only[AJ,reduceIte,Nat.reduceEqDiff,this];rw[e] at k;exact k
theorem any_map (rs:List Rf) (f:Fd):(rs.map Rf.f).any (fun o=>GY o f)=rs.any fun o=>GY o.f f:=by
 rw[List.any_map];rfl
theorem M6 {mid c:Nat} {bz:List (Rz×Nat)} (h:az B H (iu mid (pJ bz) c::L)) (i:Nat):
 bU H (some mid) (i:Int) (.slice none 0 0)=match oB i bz with|some z=>V.slice z.q z.rs.length z.c|none=>V.slice none 0 0:=by
 rw[yE h,CM];cases oB i bz<;>rfl
theorem QS {mid c:Nat} {bz:List (Rz×Nat)} {zs:List Rz} (hbz:∀x∈bz,x.1∈zs) (hl:∀z∈zs,z.rs.length≤1000000) {z:Rz} (hz:z∈zs) (fr:Nat) {Kr:Am.St→Prop} {Ke:Nat→Am.St→Prop} (k1:∀H',az B H' (iu mid (pJ bz) c::bj (zs.map Rz.bW)::L)→((z.rs.map Rf.f).all (r8 (mT bz) fr))=false→Kr (St.mk (ab [(4,T.v (V.bool false))]) (ab []) H')) (k2:∀H',az B H' (iu mid (pJ bz) c::bj (zs.map Rz.bW)::L)→((z.rs.map Rf.f).all (r8 (mT bz) fr))=true→Ke 0 (St.mk (ab []) (ab []) H')):∀(k i:Nat) {H:af},i+k=z.rs.length→(((z.rs.take i).map Rf.f).all (r8 (mT bz) fr))=true→az B H (iu mid (pJ bz) c::bj (zs.map Rz.bW)::L)→lo 99 6 (St.mk (ab [(0,T.v (V.map (some mid))),(5,T.v (V.int .i64 ((fr:Int)-1))),(23,T.v (V.slice z.q z.rs.length z.c)),(24,T.v (V.int .i64 (z.rs.length:Int))),(25,T.v (V.int .i64 (i:Int)))]) (ab []) H) Kr Ke
 |0,i,H,hi,hn,h=>by
  obtain rfl:i=z.rs.length:=by omega
  rw[List.take_length] at hn;rw[Mm,decide_eq_false (by omega),ai];exact k2 H h hn
 |k+1,i,H,hi,hn,h=>by
  have hlt:i<z.rs.length:=by omega
  obtain⟨YB,hdz⟩:=tP (h.ord [1]) hz;obtain⟨s1,s2,s3⟩:=yw YB (vh z.rs).oD (by decide) (i:=i) (by simpa using hlt);have s2':H.inb (pb z.q) (po z.q+i*8) 8=true:=s2
  have HF:H.sub (pb z.q) (po z.q+i*8) 8=(z.rs[i]).cs:=by
   rw[List.getElem_map] at s3;exact s3
  have a1:(i:Int)<(z.rs.length:Int):=by omega
  have a2:0≤(i:Int):=by omega
  have hfit:aJ oz (z.rs[i]).cs=true:=rfl;have zz:JV (z.rs[i]).cs=(z.rs[i]).cs:=rfl;obtain⟨fid,Lm⟩:∃f,f=H.next:=⟨_,rfl⟩;have h1:=h.alloc 130 (ke 0 0 0 0 0 0 0 none 0 0);have hw:(H.alloc (.cells 130 (ke 0 0 0 0 0 0 0 none 0 0) false)).wr H.next 0 8=true:=fY h1.get 0 8;have h2:=h1.store (off:=0) (vs:=(z.rs[i]).cs)
  have e2:bL (ke 0 0 0 0 0 0 0 none 0 0) 0 (z.rs[i]).cs=(z.rs[i]).cs:=by
   rw[fH _ _ _ (by show 0+8≤8;omega)];rfl
  rw[e2] at h2;rw[Mm];simp only[AJ,reduceIte,Nat.reduceEqDiff,a1,a2,Int.toNat_natCast,s1,s2',HF,hfit,zz,hw];generalize (af.store _ _ _ _)=H2 at h2⊢;rw[←Lm] at h2⊢;have Yl:mn H2 (z.rs[i]).q (z.rs[i]).f.s.data:=(tP (h2.ord [2]) hz).2 _ (List.getElem_mem hlt);have g:=fcG h2.get Yl;have hm2:=h2.ord [1];have hmo:=tM hm2
  have hnext:∀H',az B H' (cR fid 130 (z.rs[i]).cs::iu mid (pJ bz) c::bj (zs.map Rz.bW)::L)→r8 (mT bz) fr (z.rs[i]).f=true→
   lo 99 6
    (St.mk (ab [(0,T.v (V.map (some mid))),(5,T.v (V.int .i64 ((fr:Int)-1))),(23,T.v (V.slice z.q z.rs.length z.c)),(24,T.v (V.int .i64 (z.rs.length:Int))),(25,T.v (V.int .i64 (IntKind.i64.wrap ((i:Int)+1))))]) (ab []) H') Kr Ke:=by
   intro H' h' hc;have:=hl z hz;rw[aQ (by omega)];refine QS hbz hl hz fr k1 k2 k (i+1) (by omega) ?_ h'.drop;rw[List.take_succ_eq_append_getElem hlt,List.map_append,List.all_append,hn];simp [hc]
  have hstop:∀H',az B H' (cR fid 130 (z.rs[i]).cs::iu mid (pJ bz) c::bj (zs.map Rz.bW)::L)→r8 (mT bz) fr (z.rs[i]).f=false→Kr (St.mk (ab [(4,T.v (V.bool false))]) (ab []) H'):=by
   intro H' h' hc;refine k1 H' h'.drop ?_;rw[List.all_eq_false];exact⟨_,List.mem_map.2 ⟨_,List.getElem_mem hlt,rfl⟩,by simp [hc]⟩
  have c6:H2.cell fid 6=.int .i64 (((z.rs[i]).f.s.fr:Int)-1):=g.c 6 (by omega);by_cases hfr:fr=0
  ·subst hfr;have hk:((0:Nat):Int)-1= -1:=rfl;rw[hk] at hnext⊢;have n5:bU H2 (some mid) (-1) (.slice none 0 0)=.slice none 0 0:=by rw[yE hm2,IK];rfl
   have hneg:(-1:Int)<0:=by decide
   have T2:r8 (mT bz) 0 (z.rs[i]).f=false:=by simp [r8]
   simp only[hmo,n5,AJ,reduceIte,Nat.reduceEqDiff];refine M5 (rs:=[]) g (Rd.nil _ _) (fun o ho=>by cases ho) (by simp) ?_;simp only[AJ,reduceIte,Nat.reduceEqDiff,hneg,aO,Bool.false_eq_true,if_false,cond_false];exact hstop H2 h2 T2
  ·have hk:((fr:Nat):Int)-1=((fr-1:Nat):Int):=by omega
   have hnn:¬((fr-1:Nat):Int)<0:=by omega
   have n5:=M6 hm2 (fr-1)
   have hlk:GZ (mT bz) fr=match oB (fr-1) bz with|some z=>z.rs.map Rf.f|none=>[]:=by
    unfold GZ;rw[if_neg hfr,tO]
   have fin:∀(b:Bool),b=(GZ (mT bz) fr).any (fun o=>GY o (z.rs[i]).f)→
    br (bif decide (((z.rs[i]).f.s.fr:Int)-1=((fr-1:Nat):Int)) then !b else true) (Kr (St.mk (ab [(4,T.v (V.bool false))]) (ab []) H2))
     (lo 99 6
    (St.mk (ab [(0,T.v (V.map (some mid))),(5,T.v (V.int .i64 ((fr-1:Nat):Int))),(23,T.v (V.slice z.q z.rs.length z.c)),(24,T.v (V.int .i64 (z.rs.length:Int))),(25,T.v (V.int .i64 (IntKind.i64.wrap ((i:Int)+1))))]) (ab []) H2) Kr Ke):=by
    intro b hb;by_cases Qv:(z.rs[i]).f.s.fr=fr
    ·have:((z.rs[i]).f.s.fr:Int)-1=((fr-1:Nat):Int):=by omega
     simp only[this,decide_true,cond_true]
     cases Ju:b with
     |true=>
      simp only[Bool.not_true,ai];have:=hnext H2 h2 (by unfold r8;rw[←hb,Ju];simp [hfr,Qv]);rw[hk] at this;exact this
     |false=>
      simp only[Bool.not_false,au];exact hstop H2 h2 (by unfold r8;rw[←hb,Ju];simp)
    ·have:¬((z.rs[i]).f.s.fr:Int)-1=((fr-1:Nat):Int):=by omega
     simp only[this,decide_false,cond_false,au];exact hstop H2 h2 (by unfold r8;simp [Qv])
   rw[hk]
   cases Uf:oB (fr-1) bz with
   |none=>
    rw[Uf] at n5 hlk;simp only[hmo,n5,AJ,reduceIte,Nat.reduceEqDiff];refine M5 (rs:=[]) g (Rd.nil _ _) (fun o ho=>by cases ho) (by simp) ?_;simp only[AJ,reduceIte,Nat.reduceEqDiff,hnn,aO,if_true,g.i 6 (by omega),c6,cond_true,Bool.not_not];have:=fin ([].any fun o:Rf=>GY o.f (z.rs[i]).f) (by rw[hlk];rfl);exact this
   |some z2=>
    rw[Uf] at n5 hlk;obtain⟨b2,mj⟩:=tN Uf;have xd:=hbz _ mj;obtain⟨Ad,hd2⟩:=tP (h2.ord [2]) xd;simp only[hmo,n5,AJ,reduceIte,Nat.reduceEqDiff];refine M5 g Ad hd2 (hl _ xd) ?_;simp only[AJ,reduceIte,Nat.reduceEqDiff,hnn,aO,if_true,g.i 6 (by omega),c6,cond_true,Bool.not_not];exact fin _ (by rw[hlk];exact(any_map _ _).symm)
theorem Kf {mid c:Nat} {bz:List (Rz×Nat)} {zs:List Rz} (h:az B H (iu mid (pJ bz) c::bj (zs.map Rz.bW)::L)) (hbz:∀x∈bz,x.1∈zs) (hl:∀z∈zs,z.rs.length≤1000000) (i:Nat) (k:∀H',az B H' (iu mid (pJ bz) c::bj (zs.map Rz.bW)::L)→K (.bool (kh (mT bz) i)) H'):cl 99 [.map (some mid),.int .i64 (i:Int)] H K:=by
 rw[aaI];have hmo:=tM h;have n5:=M6 h i
 have pX:kh (mT bz) i=match oB i bz with|some z=>(match z.rs.map Rf.f with|[]=>false|f::l=>(f::l).all (r8 (mT bz) f.s.fr))|none=>false:=by
  unfold kh;rw[tO];cases oB i bz<;>rfl
 cases Uf:oB i bz with
 |none=>
  rw[Uf] at n5 pX;rw[pX] at k;simp only[hmo,n5,AJ,reduceIte,Nat.reduceEqDiff];exact k H h
 |some z=>
  rw[Uf] at n5 pX;obtain⟨b2,mj⟩:=tN Uf;have hz:=hbz _ mj;simp only[hmo,n5,AJ,reduceIte,Nat.reduceEqDiff];dsimp only at pX
  cases Qu:z.rs with
  |nil=>
   rw[Qu] at pX;rw[pX] at k;simp only[AJ,reduceIte,Nat.reduceEqDiff];exact k H h
  |cons r l=>
   have YC:kh (mT bz) i=(z.rs.map Rf.f).all (r8 (mT bz) r.f.s.fr):=by
    rw[pX,Qu];rfl
   obtain⟨YB,hdz⟩:=tP (h.ord [1]) hz;obtain⟨s1,s2,s3⟩:=nS YB (vh z.rs).oD (i:=0) (k:=6) (by rw[Qu];simp) (by decide)
   have HF:H.cell (pb z.q) (po z.q+2+4)=.int .i64 ((r.f.s.fr:Int)-1):=by
    have:po z.q+0*List.length oz+6=po z.q+2+4:=by omega
    rw[this] at s3;rw[s3];simp only[Qu,List.map_cons,List.getElem_cons_zero];rfl
   have s2':H.inb (pb z.q) (po z.q+2+4) 1=true:=by
    have:po z.q+0*List.length oz+6=po z.q+2+4:=by omega
    rw[this] at s2;exact s2
   have a1:¬(((l.length+1:Nat)):Int)=0:=by omega
   have a2:0<(((l.length+1:Nat)):Int):=by omega
   simp only[List.length_cons,a1,a2,decide_false,decide_true,ai,s1,s2',HF,AJ,reduceIte,Nat.reduceEqDiff];have hlen:z.rs.length=l.length+1:=by rw[Qu];rfl
   have:=QS (mid:=mid) (c:=c) (L:=L) (B:=B) (Kr:=fun S'=>ag (aI (KT.k .bool) (S'.1 4)) (K (V.bool (V.ax (T.val (S'.1 4)))) S'.3)) (Ke:=fun j S'=>br (decide (j=0)) (K (V.bool true) S'.3) False) hbz hl (z:=z) hz r.f.s.fr (fun H' h' e=> ?_) (fun H' h' e=> ?_) z.rs.length 0 (Nat.zero_add _) (by simp) h
   ·rw[hlen] at this;exact this
   ·simp only[AJ,reduceIte,Nat.reduceEqDiff];rw[YC,e] at k;exact k H' h'
   ·simp only[AJ,reduceIte,Nat.reduceEqDiff];rw[YC,e] at k;exact k H' h'
end
abbrev Pl:=Oq
structure Pm where
 cw:List Pl
 nb:Nat
def uA (b:Nat):Pl→Bool
 |some x=>decide (x.1=b)
 |none=>false
def Pm.dO (m:Pm) (b:Nat):Nat:=m.cw.countP (uA b)
def Pm.gU (m:Pm):List Int:=(List.range m.nb).map fun b=>(m.dO b:Int)
structure Pm.ok (m:Pm):Prop where
 pl:∀b p,some (b,p)∈m.cw→b<m.nb∧p<32
 n:m.cw.length≤65536
 nb:m.nb≤64
def vj:Pl→List V
 |some x=>iR x.1 x.2
 |none=>iR 0 0
def wD (o:Pl):List V:=[.bool o.isSome]
structure Pq where
 q1:Oq
 c1:Nat
 q2:Oq
 c2:Nat
 q3:Oq
 c3:Nat
def F2 (m:Pm) (x:Pq):List V:=zX x.q1 m.cw.length x.c1 x.q2 m.cw.length x.c2 x.q3 m.nb x.c3
def tQ (id:Nat) (m:Pm):cq:=JX fun x:Pq=>bj [cR id 175 (F2 m x),Rw 128 2 x.q1 x.c1 (m.cw.map vj),Rw 4 1 x.q2 x.c2 (m.cw.map wD),IR x.q3 x.c3 m.gU]
section
variable {B:af} {L:List cq} {H:af} {K:V→af→Prop} {id:Nat} {m:Pm} {x:Pq}
abbrev AT (B H:af) (id:Nat) (m:Pm) (x:Pq) (L:List cq):Prop:=az B H (cR id 175 (F2 m x)::Rw 128 2 x.q1 x.c1 (m.cw.map vj)::Rw 4 1 x.q2 x.c2 (m.cw.map wD)::IR x.q3 x.c3 m.gU::L)
theorem AT.of (h:az B H (tQ id m::L)):∃x,AT B H id m x L:=by
 obtain⟨x,h⟩:=h.OG;exact⟨x,h.EE⟩
theorem AT.to (h:AT B H id m x L):az B H (tQ id m::L):=by
 have h2:az B H (bj [cR id 175 (F2 m x),Rw 128 2 x.q1 x.c1 (m.cw.map vj),Rw 4 1 x.q2 x.c2 (m.cw.map wD),IR x.q3 x.c3 m.gU]::L):=az.rX h;exact az.intro h2
theorem CN (l:List Pl):Pj GL (l.map vj):=by
 intro c hc;obtain⟨r,_,rfl⟩:=List.mem_map.1 hc;cases r<;>rfl
theorem EV (l:List Pl):Pj [.bool] (l.map wD):=by
 intro c hc;obtain⟨r,_,rfl⟩:=List.mem_map.1 hc;rfl
@[simp] theorem pK (m:Pm):m.gU.length=m.nb:=by simp [Pm.gU]
structure PmG (H:af) (id:Nat) (m:Pm) (x:Pq):Prop where
 i0:H.inb id 0 1=true
 i1:H.inb id 1 1=true
 i2:H.inb id 2 1=true
 c0:H.cell id 0=.slice x.q1 m.cw.length x.c1
 c1:H.cell id 1=.slice x.q2 m.cw.length x.c2
 c2:H.cell id 2=.slice x.q3 m.nb x.c3
 a0:∀(a:Nat) (ha:a<m.cw.length),x.q1.isSome=true∧H.inb (pb x.q1) (po x.q1+a*2) 2=true∧H.sub (pb x.q1) (po x.q1+a*2) 2=vj (m.cw[a])∧
  H.inb (pb x.q1) (po x.q1+a*2) 1=true∧H.cell (pb x.q1) (po x.q1+a*2)=ae (vj (m.cw[a])) 0
 a1:∀(a:Nat) (ha:a<m.cw.length),x.q2.isSome=true∧H.inb (pb x.q2) (po x.q2+a*1) 1=true∧H.cell (pb x.q2) (po x.q2+a*1)=.bool (m.cw[a]).isSome
 a2:∀(b:Nat) (hb:b<m.nb),x.q3.isSome=true∧H.inb (pb x.q3) (po x.q3+b*1) 1=true∧H.cell (pb x.q3) (po x.q3+b*1)=.int .i64 (m.dO b:Int)
theorem Tn (h:AT B H id m x L):PmG H id m x:=by
 have hg:=h.get;have hl:(F2 m x).length=3:=rfl;have h1:=(h.ord [1]).wz;have h2:=(h.ord [2]).wz;have h3:=az.tD (h.ord [3]);refine⟨mO hg (by omega),mO hg (by omega),mO hg (by omega),aY hg 0,aY hg 1,aY hg 2,fun a ha=> ?_,fun a ha=> ?_,fun b hb=> ?_⟩
 ·have Zy:a<(m.cw.map vj).length:=by simpa using ha
  obtain⟨s1,s2,s3⟩:=nS h1 (CN _).oD (i:=a) (k:=0) Zy (by decide);obtain⟨t1,t2,t3⟩:=yw h1 (CN _).oD (by decide) Zy;refine⟨s1,t2, ?_,s2, ?_⟩
  ·have:=t3;rw[List.getElem_map] at this;exact this
  ·rw[List.getElem_map] at s3;exact s3
 ·have Zy:a<(m.cw.map wD).length:=by simpa using ha
  obtain⟨s1,s2,s3⟩:=nS h2 (EV _).oD (i:=a) (k:=0) Zy (by decide);rw[List.getElem_map] at s3;exact⟨s1,s2,s3⟩
 ·obtain⟨s1,s2,s3⟩:=h3.at (i:=b) (by simpa using hb);refine⟨s1,s2, ?_⟩;rw[s3];simp [Pm.gU]
end
def Pm.put (m:Pm) (a:Nat) (o:Pl):Pm:={m with cw:=m.cw.set a o}
def Pm.new (n nb:Nat):Pm:=⟨List.replicate n none,nb⟩
theorem EW {m m':Pm} (hn:m'.nb=m.nb) {b0:Nat} {v:Int} (h0:(m'.dO b0:Int)=v) (h:∀b,b≠b0→m'.dO b=m.dO b):m'.gU=m.gU.set b0 v:=by
 apply List.ext_getElem
 ·simp [hn]
 ·intro i h1 h2;rw[List.getElem_set];simp only[Pm.gU,List.getElem_map,List.getElem_range];by_cases hb:b0=i
  ·subst hb;rw[if_pos rfl];exact h0
  ·rw[if_neg hb,h i (fun e=>hb e.symm)]
theorem wQ (m:Pm) {a:Nat} (ha:a<m.cw.length) (o:Pl) (b:Nat):(m.put a o).dO b+(if uA b m.cw[a]=true then 1 else 0)=m.dO b+(if uA b o=true then 1 else 0):=by
 unfold Pm.dO Pm.put;rw[List.countP_set ha];have:uA b m.cw[a]=true→0<m.cw.countP (uA b):=fun h=>List.countP_pos_iff.2 ⟨_,List.getElem_mem ha,h⟩
 split<;>rename_i h1
 ·have:=this h1;omega
 ·omega
theorem G0 (m:Pm) {a:Nat} (ha:a<m.cw.length) (h:m.cw[a]=none):m.put a none=m:=by
 unfold Pm.put;have:m.cw.set a none=m.cw:=by rw[←h];exact List.set_getElem_self ha
 rw[this]
theorem Kg (m:Pm) {a b p:Nat} (ha:a<m.cw.length) (h:m.cw[a]=some (b,p)):(m.put a none).gU=m.gU.set b ((m.dO b:Int)-1):=by
 refine EW (m:=m) (m':=m.put a none) rfl ?_ (fun b' hb=> ?_)
 ·have:=wQ m ha none b;rw[h] at this;simp [uA] at this;omega
 ·have:=wQ m ha none b';rw[h] at this;have hb':¬b=b':=fun e=>hb e.symm
  simp [uA,hb'] at this;omega
theorem M7 (m:Pm) {a b p:Nat} (ha:a<m.cw.length) (h:m.cw[a]=none):(m.put a (some (b,p))).gU=m.gU.set b ((m.dO b:Int)+1):=by
 refine EW (m:=m) (m':=m.put a (some (b,p))) rfl ?_ (fun b' hb=> ?_)
 ·have:=wQ m ha (some (b,p)) b;rw[h] at this;simp [uA] at this;omega
 ·have:=wQ m ha (some (b,p)) b';rw[h] at this;have hb':¬b=b':=fun e=>hb e.symm
  simp [uA,hb'] at this;omega
theorem M8 (m:Pm) (b:Nat):m.dO b≤m.cw.length:=List.countP_le_length
theorem Pm.ok.put {m:Pm} (h:m.ok) {a:Nat} {o:Pl} (ho:∀b p,o=some (b,p)→b<m.nb∧p<32):(m.put a o).ok:=by
 refine⟨fun b p hm=> ?_,by unfold Pm.put;rw[List.length_set];exact h.n,h.nb⟩;rcases List.mem_or_eq_of_mem_set hm with hm|hm
 ·exact h.pl b p hm
 ·exact ho b p hm.symm
section
variable {B:af} {L:List cq} {H:af} {K:V→af→Prop} {id:Nat} {m:Pm} {x:Pq}
theorem az.QT {q:Oq} {c:Nat} {l:List Int} (h:az B H (IR q c l::L)) {i:Nat} (hi:i<l.length) (v:Int):H.wr (pb q) (po q+i*1) 1=true∧az B (H.store (pb q) (po q+i*1) [.int .i64 v]) (IR q c (l.set i v)::L):=by
 have hu:pA 1 (l.map fun i=>[V.int .i64 i]):=by
  intro c hc;obtain⟨r,_,rfl⟩:=List.mem_map.1 hc;exact⟨rfl,fun v hv=>by rw[List.mem_singleton] at hv;subst hv;rfl⟩
 have h1:=h.CE hu (i:=i) (k:=0) (by simpa using hi) (by omega) (v:=.int .i64 v) rfl;refine⟨h1.1, ?_⟩;have h2:=h1.2;unfold IR;rw[List.map_set];rw[List.getElem_map] at h2;exact h2
theorem M9 {q:Oq} {c:Nat} {l:List Pl} (h:az B H (Rw 4 1 q c (l.map wD)::L)) {i:Nat} (hi:i<l.length) (o:Pl):H.wr (pb q) (po q+i*1) 1=true∧az B (H.store (pb q) (po q+i*1) [.bool o.isSome]) (Rw 4 1 q c ((l.set i o).map wD)::L):=by
 have h1:=h.CE (EV l).oD (i:=i) (k:=0) (by simpa using hi) (by decide) (v:=.bool o.isSome) rfl;refine⟨h1.1, ?_⟩;have h2:=h1.2;rw[List.map_set];rw[List.getElem_map] at h2;exact h2
theorem QU {q:Oq} {c:Nat} {l:List Pl} (h:az B H (Rw 128 2 q c (l.map vj)::L)) {i:Nat} (hi:i<l.length) (o:Pl):H.wr (pb q) (po q+i*2) 2=true∧az B (H.store (pb q) (po q+i*2) (vj o)) (Rw 128 2 q c ((l.set i o).map vj)::L):=by
 have h1:=h.QO (CN l).oD (i:=i) (by simpa using hi) (c:=vj o) (by cases o<;>rfl) (fun v hv=>by cases o<;>simp only[vj,iR,List.mem_cons,List.not_mem_nil,or_false] at hv<;>rcases hv with rfl|rfl<;>rfl);refine⟨h1.1, ?_⟩;have h2:=h1.2;rw[List.map_set];exact h2
theorem AT.aa0 (h:AT B H id m x L) {a:Nat} (ha:a<m.cw.length) (o:Pl):H.wr (pb x.q1) (po x.q1+a*2) 2=true∧(H.store (pb x.q1) (po x.q1+a*2) (vj o)).wr (pb x.q2) (po x.q2+a*1) 1=true∧az B ((H.store (pb x.q1) (po x.q1+a*2) (vj o)).store (pb x.q2) (po x.q2+a*1) [.bool o.isSome]) (cR id 175 (F2 m x)::Rw 128 2 x.q1 x.c1 ((m.put a o).cw.map vj)::Rw 4 1 x.q2 x.c2 ((m.put a o).cw.map wD)::IR x.q3 x.c3 m.gU::L):=by
 obtain⟨w1,h1⟩:=QU (h.ord [1]) ha o;obtain⟨w2,h2⟩:=M9 (h1.ord [2]) ha o;exact⟨w1,w2,h2.ord [2,1]⟩
theorem Na (h:az B H (tQ id m::L)) {a:Nat} (ha:a<m.cw.length):¬(a:Int)<0∧0≤(a:Int)∧¬(a:Int)≥(m.cw.length:Int)∧(a:Int)<(m.cw.length:Int):=by
 refine⟨?_, ?_, ?_, ?_⟩<;>omega
theorem Nb (h:az B H (tQ id m::L)) (hok:m.ok) {a:Nat} (ha:a<m.cw.length) (k:∀H',az B H' (tQ id (m.put a none)::L)→K (.int .i64 0) H'):cl 124 [.aj (some (id,0)),.int .i64 (a:Int)] H K:=by
 obtain⟨n1,n2,n3,n4⟩:=Na h ha;obtain⟨x,hx⟩:=AT.of h;have g:=Tn hx;obtain⟨s1,i1,c1⟩:=g.a1 a ha;obtain⟨s0,_,_,i0,c0⟩:=g.a0 a ha;rw[WN];simp only[AJ,reduceIte,Nat.reduceEqDiff,Option.isNone_some,Option.isSome_some,aO,ite_self,n1,n2,n3,n4,g.i0,g.i1,g.i2,g.c0,g.c1,g.c2,Nat.zero_add,Int.toNat_natCast,s1,i1,c1,cond_true]
 have fin:∀{H1:af},az B H1 (cR id 175 (F2 m x)::Rw 128 2 x.q1 x.c1 (m.cw.map vj)::Rw 4 1 x.q2 x.c2 (m.cw.map wD)::IR x.q3 x.c3 (m.put a none).gU::L)→
  H1.inb id 0 1=true∧H1.inb id 1 1=true∧H1.cell id 0=.slice x.q1 m.cw.length x.c1∧H1.cell id 1=.slice x.q2 m.cw.length x.c2∧H1.wr (pb x.q1) (po x.q1+a*2) 2=true∧
  (H1.store (pb x.q1) (po x.q1+a*2) (iR 0 0)).wr (pb x.q2) (po x.q2+a*1) 1=true∧
  K (.int .i64 0) ((H1.store (pb x.q1) (po x.q1+a*2) (iR 0 0)).store (pb x.q2) (po x.q2+a*1) [.bool false]):=by
  intro H1 h1;have hg:=h1.get;have hl:(F2 m x).length=3:=rfl;obtain⟨w1,h2⟩:=QU (h1.ord [1]) ha none;obtain⟨w2,h3⟩:=M9 (h2.ord [2]) ha none;have h4:=h3.ord [2,1];refine⟨mO hg (by omega),mO hg (by omega),aY hg 0,aY hg 1,w1,w2,k _ (AT.to (x:=x) ?_)⟩;have e:F2 (m.put a none) x=F2 m x:=by unfold F2 Pm.put;simp only[List.length_set]
  unfold AT;rw[e];exact h4
 cases ho:m.cw[a] with
 |none=>
  rw[ho] at c1;have e:(m.put a none).gU=m.gU:=by rw[G0 m ha ho]
  obtain⟨_,_,_,_,w1,w2,kk⟩:=fin (by rw[e];exact hx);simp only[Option.isSome_none,ai,s0,w1,w2,ay];exact kk
 |some o=>
  obtain⟨b,p⟩:=o;have hbp:=hok.pl b p (by rw[←ho];exact List.getElem_mem ha);obtain⟨s2,i2,c2⟩:=g.a2 b hbp.1;rw[ho] at c0;have hc0:H.cell (pb x.q1) (po x.q1+a*2)=.int .i64 (b:Int):=c0;have b1:0≤(b:Int):=by omega
  have b2:(b:Int)<(m.nb:Int):=by omega
  have hle:=M8 m b;have hn:=hok.n;obtain⟨w,h1⟩:=az.QT (hx.ord [3]) (i:=b) (by simpa using hbp.1) ((m.dO b:Int)-1);simp only[Option.isSome_some,au,s0,i0,hc0,AJ,reduceIte,Nat.reduceEqDiff,b1,b2,s2,i2,c2,Int.toNat_natCast];rw[bD (by omega) (by omega)];obtain⟨j0,j1,d0,d1,w1,w2,kk⟩:=fin (by rw[Kg m ha ho];exact h1.ord [1,1,1]);simp only[w,j0,j1,d0,d1,n4,s0,s1,w1,w2,AJ,reduceIte,Nat.reduceEqDiff];exact kk
theorem IL (h:az B H (tQ id m::L)) (hok:m.ok) {a b p:Nat} (ha:a<m.cw.length) (hb:b<m.nb) (hp:p<32) (k:∀H',az B H' (tQ id (m.put a (some (b,p)))::L)→K (.int .i64 0) H'):cl 100 [.aj (some (id,0)),.int .i64 (a:Int),.agg (iR (b:Int) (p:Int))] H K:=by
 obtain⟨n1,n2,n3,n4⟩:=Na h ha;obtain⟨x0,hx0⟩:=AT.of h;have g:=Tn hx0;rw[WB];have m1:¬(b:Int)<0:=by omega
 have m2:¬(b:Int)≥(m.nb:Int):=by omega
 have m3:¬(p:Int)<0:=by omega
 have m4:¬(p:Int)≥32:=by omega
 have m5:0≤(b:Int):=by omega
 have m6:(b:Int)<(m.nb:Int):=by omega
 simp only[AJ,reduceIte,Nat.reduceEqDiff,Option.isNone_some,Option.isSome_some,aO,ite_self,n1,n2,n3,n4,m1,m2,m3,m4,g.i0,g.i2,g.c0,g.c2,Nat.zero_add,Int.toNat_natCast,cond_true,if_true];refine Nb h hok ha (fun H1 h1=> ?_);obtain⟨x,hx⟩:=AT.of h1;have HB:a<(m.put a none).cw.length:=by unfold Pm.put;rw[List.length_set];exact ha
 have Ub:(m.put a none).cw.length=m.cw.length:=by unfold Pm.put;rw[List.length_set]
 have hnone:(m.put a none).cw[a]=none:=by unfold Pm.put;exact List.getElem_set_self HB
 have g1:=Tn hx;obtain⟨s1,_,_⟩:=g1.a1 a HB;obtain⟨s0,_⟩:=g1.a0 a HB;obtain⟨w1,w2,h2⟩:=hx.aa0 HB (some (b,p));have w1':H1.wr (pb x.q1) (po x.q1+a*2) 2=true:=w1;have w2':(H1.store (pb x.q1) (po x.q1+a*2) (iR (b:Int) (p:Int))).wr (pb x.q2) (po x.q2+a*1) 1=true:=w2;have Af:az B ((H1.store (pb x.q1) (po x.q1+a*2) (iR (b:Int) (p:Int))).store (pb x.q2) (po x.q2+a*1) [.bool true]) _:=h2;have c0:=g1.c0;have c1:=g1.c1;rw[Ub] at c0 c1;simp only[AJ,reduceIte,Nat.reduceEqDiff,g1.i0,g1.i1,c0,c1,n2,n4,s0,s1,w1',w2'];generalize (af.store _ _ _ _)=H2 at Af⊢;have hg:=Af.get;have hl:(F2 (m.put a none) x).length=3:=rfl;have j2:H2.inb id 2 1=true:=mO hg (by omega);have d2:H2.cell id 2=.slice x.q3 m.nb x.c3:=aY hg 2;obtain⟨s3,i3,c3⟩:=(az.tD (Af.ord [3])).at (i:=b) (by rw[pK];exact hb);have ec:(m.put a none).gU[b]'(by rw[pK];exact hb)=((m.put a none).dO b:Int):=by simp [Pm.gU]
 rw[ec] at c3;have hle:=M8 (m.put a none) b;have hn:=hok.n;obtain⟨w3,h3⟩:=az.QT (Af.ord [3]) (i:=b) (by rw[pK];exact hb) (((m.put a none).dO b:Int)+1);simp only[j2,d2,AJ,reduceIte,Nat.reduceEqDiff,m5,m6,s3,i3,c3];rw[bD (by omega) (by omega)];simp only[w3,ay];refine k _ (AT.to (x:=x) ?_);have ep:(m.put a none).put a (some (b,p))=m.put a (some (b,p)):=by unfold Pm.put;simp only[List.set_set]
 rw[←M7 (m.put a none) HB hnone (p:=p),ep] at h3;have e:F2 (m.put a (some (b,p))) x=F2 (m.put a none) x:=by unfold F2 Pm.put;simp only[List.length_set]
 unfold AT;rw[e];exact h3.ord [1,1,1]
theorem IM (h:az B H (tQ id m::L)) {a:Nat} (ha:a<m.cw.length):cl 105 [.aj (some (id,0)),.int .i64 (a:Int)] H K=K (.tuple [.agg (vj m.cw[a]),.bool (m.cw[a]).isSome]) H:=by
 obtain⟨n1,n2,n3,n4⟩:=Na h ha;obtain⟨x,hx⟩:=AT.of h;have g:=Tn hx;obtain⟨s1,i1,c1⟩:=g.a1 a ha;obtain⟨s0,i0,c0,_,_⟩:=g.a0 a ha;simp only[qM,qN] at i1 c1;rw[WH];simp only[AJ,reduceIte,Nat.reduceEqDiff,Option.isNone_some,Option.isSome_some,aO,ite_self,n1,n2,n3,n4,g.i0,g.i1,g.c0,g.c1,Nat.zero_add,Int.toNat_natCast,s1,i1,c1,cond_true,if_true,s0,i0,c0]
 cases ho:m.cw[a] with
 |none=>simp only[Option.isSome_none,Bool.not_false,au];rfl
 |some o=>obtain⟨b,p⟩:=o;simp only[Option.isSome_some,Bool.not_true,ai,vj,f127,AG,uW,uX,Bool.and_self,ay]
theorem mU (h:az B H (tQ id m::L)) {b:Nat} (hb:b<m.nb):cl 65 [.aj (some (id,0)),.int .i64 (b:Int)] H K=K (.int .i64 (m.dO b:Int)) H:=by
 obtain⟨x,hx⟩:=AT.of h;have g:=Tn hx;obtain⟨s2,i2,c2⟩:=g.a2 b hb;have m1:¬(b:Int)<0:=by omega
 have m2:¬(b:Int)≥(m.nb:Int):=by omega
 have m5:0≤(b:Int):=by omega
 have m6:(b:Int)<(m.nb:Int):=by omega
 rw[aar];simp only[AJ,reduceIte,Nat.reduceEqDiff,Option.isNone_some,Option.isSome_some,aO,ite_self,m1,m2,m5,m6,g.i2,g.c2,Nat.zero_add,Int.toNat_natCast,s2,i2,c2,cond_true,if_true]
end
def sa (f:Nat→Int):List V:=uZ (f 0) (f 1) (f 2) (f 3) (f 4) (f 5) (f 6) (f 7) (f 8) (f 9) (f 10) (f 11) (f 12) (f 13) (f 14) (f 15) (f 16) (f 17) (f 18) (f 19) (f 20) (f 21) (f 22) (f 23) (f 24) (f 25) (f 26) (f 27) (f 28) (f 29) (f 30) (f 31)
theorem Pr (f:Nat→Int):sa f=(List.range 32).map fun k=>.int .i64 (f k):=rfl
theorem Nc (f:Nat→Int) {i:Nat} (hi:i<32):ae (sa f) i=.int .i64 (f i):=by
 rw[Pr,ku];simp [List.getD_eq_getElem?_getD,List.getElem?_range,hi]
def CO (f:Nat→Int) (n:Nat) (v:Int):Nat→Int:=fun k=>bif Nat.beq k n then v else f k
def DE (b:Nat):List Pl→Nat→(Nat→Int)→Nat→Int
 |[],_,f=>f
 |some x::l,i,f=>DE b l (i+1) (if x.1=b then CO f x.2 ((i+1:Nat):Int) else f)
 |none::l,i,f=>DE b l (i+1) f
def Pm.by (m:Pm) (b:Nat):Nat→Int:=DE b m.cw 0 fun _=>0
def Lr (f:Nat→Int) (i:Nat):List Int:=((List.range 32).drop i).filterMap fun p=>if f p>0 then some (f p-1) else none
def Pm.on (m:Pm) (b:Nat):List Int:=if m.dO b=0 then [] else Lr (m.by b) 0
theorem Ps (f:Nat→Int):Lr f 32=[]:=rfl
theorem Nd (f:Nat→Int) {i:Nat} (h:i<32):Lr f i=if f i>0 then (f i-1)::Lr f (i+1) else Lr f (i+1):=by
 unfold Lr;rw[List.drop_eq_getElem_cons (by simpa using h),List.filterMap_cons,List.getElem_range];by_cases hf:f i>0<;>simp [hf]
theorem qp (b:Nat):∀(l:List Pl) (i N:Nat) (f:Nat→Int),i+l.length≤N→(∀k,0≤f k∧f k≤N)→∀k,0≤DE b l i f k∧DE b l i f k≤N
 |[],i,N,f,h,hf,k=>hf k
 |none::l,i,N,f,h,hf,k=>qp b l (i+1) N f (by simp at h;omega) hf k
 |some x::l,i,N,f,h,hf,k=>by
  rw[DE];refine qp b l (i+1) N _ (by simp at h;omega) (fun k=> ?_) k;split
  ·unfold CO;have h':i+(l.length+1)≤N:=h;cases Nat.beq k x.2
   ·exact hf k
   ·simp only[cond_true];omega
  ·exact hf k
section
variable {B:af} {L:List cq} {H:af} {K:V→af→Prop} {id:Nat} {m:Pm} {x:Pq}
theorem G1 (hx:AT B H id m x L) (hok:m.ok) (b:Nat) {Kr:Am.St→Prop} {Ke:Nat→Am.St→Prop}:∀(k i:Nat) (f:Nat→Int),i+k=m.cw.length→Ke 0 (St.mk (ab [(5,T.lp 5 0)]) (ab [(5,bg.cells 177 (sa (DE b (m.cw.drop i) i f)))]) H)→lo 67 6 (St.mk (ab [(0,T.v (V.aj (some (id,0)))),(1,T.v (V.int .i64 (b:Int))),(5,T.lp 5 0),(40,T.v (V.slice x.q1 m.cw.length x.c1)),(41,T.v (V.int .i64 (m.cw.length:Int))),(42,T.v (V.int .i64 (i:Int)))]) (ab [(5,bg.cells 177 (sa f))]) H) Kr Ke
 |0,i,f,hi,hk=>by
  obtain rfl:i=m.cw.length:=by omega
  rw[List.drop_length] at hk;unfold sa;rw[Cy,decide_eq_false (by omega),ai];exact hk
 |k+1,i,f,hi,hk=>by
  have hlt:i<m.cw.length:=by omega
  have g:=Tn hx;obtain⟨s0,i0,c0,_⟩:=g.a0 i hlt;obtain⟨s1,i1,c1⟩:=g.a1 i hlt;have a1:(i:Int)<(m.cw.length:Int):=by omega
  have a2:0≤(i:Int):=by omega
  have hn:=hok.n;rw[List.drop_eq_getElem_cons hlt] at hk
  cases ho:m.cw[i] with
  |none=>
   rw[ho] at c0 c1;rw[ho,DE] at hk;have ih:=G1 hx hok b k (i+1) f (by omega) hk (Kr:=Kr);unfold sa at ih⊢;rw[Cy];simp only[AJ,reduceIte,Nat.reduceEqDiff,a1,a2,Int.toNat_natCast,s0,i0,c0,s1,i1,c1,g.i1,g.c1,Nat.zero_add,Option.isSome_some,Option.isSome_none,vj,f127,AG,uW,uX,Bool.false_and];rw[aQ (by omega)];exact ih
  |some o=>
   obtain⟨b',p⟩:=o;obtain⟨hb',hp⟩:=hok.pl b' p (by rw[←ho];exact List.getElem_mem hlt);rw[ho] at c0 c1;rw[ho,DE] at hk;have ih:=G1 hx hok b k (i+1) _ (by omega) hk (Kr:=Kr);by_cases Ju:b'=b
   ·subst Ju;rw[if_pos rfl] at ih;have p1:0≤(p:Int):=by omega
    have p2:(p:Int)<32:=by omega
    have p3:p*1+1≤32:=by omega
    unfold sa CO at ih;unfold sa;rw[Cy];simp only[n7,BH,BI,Option.getD_some,dD,au,ai,ay,im,kX,reduceIte,reduceCtorEq,TV,mc,pj,tu,uU,ib,eF,iH,pk,gr,cY,fl,bI,cn,kY,jj,cy,bV,cz,dW,gS,tw,qm,dH,dZ,List.length_cons,List.length_nil,Bool.and_true,Bool.true_and,Bool.or_false,Bool.false_or,Bool.and_self,decide_true,decide_false,Bool.not_true,Bool.not_false,jx,lO,Nat.reduceAdd,Nat.reduceEqDiff,Nat.reduceEqDiff, -jx,a1,a2,Int.toNat_natCast,s0,i0,c0,s1,i1,c1,g.i1,g.c1,Nat.zero_add,Option.isSome_some,vj,f127,AG,uW,uX,p1,p2,p3];rw[aQ (by omega)];simp only[Nat.mul_one];exact ih
   ·rw[if_neg Ju] at ih;have abp:¬(b':Int)=(b:Int):=by omega
    unfold sa at ih⊢;rw[Cy];simp only[AJ,reduceIte,Nat.reduceEqDiff,a1,a2,Int.toNat_natCast,s0,i0,c0,s1,i1,c1,g.i1,g.c1,Nat.zero_add,Option.isSome_some,vj,f127,AG,uW,uX,abp,Bool.and_false];rw[aQ (by omega)];exact ih
theorem G2 (f:Nat→Int) (hf:∀k,0≤f k∧f k≤65536) {Kr:Am.St→Prop} {Ke:Nat→Am.St→Prop}:∀(k i:Nat) (out:List Int) {q:Oq} {c:Nat} {H:af},i+k=32→out.length≤i→az B H (IR q c out::L)→(∀q' c' H',az B H' (IR q' c' (out++Lr f i)::L)→Ke 2 (St.mk (ab [(8,T.v (V.slice q' (out++Lr f i).length c'))]) (ab []) H'))→lo 67 16 (St.mk (ab [(8,T.v (V.slice q out.length c)),(66,T.v (V.agg (sa f))),(67,T.v (V.int .i64 (i:Int)))]) (ab []) H) Kr Ke
 |0,i,out,q,c,H,hi,ho,h,hk=>by
  obtain rfl:i=32:=by omega
  have:=hk q c H;rw[Ps,List.append_nil] at this;unfold sa;rw[HX];exact this h
 |k+1,i,out,q,c,H,hi,ho,h,hk=>by
  have hlt:i<32:=by omega
  have a1:(i:Int)<32:=by omega
  have a2:0≤(i:Int):=by omega
  have a3:Nat.succ i≤32:=by omega
  have hn:=Nc f hlt;unfold sa at hn;have hs:=Nd f hlt;unfold sa;rw[HX];simp only[AJ,reduceIte,Nat.reduceEqDiff,a1,a2,Int.toNat_natCast,Nat.mul_one,hn,a3];have Ql:=hf i;by_cases hp:f i>0
  ·rw[if_pos hp] at hs;rw[hs] at hk;simp only[hp,decide_true,au];rw[bD (by omega) (by omega),aQ (by omega)];refine az.CF h (f i-1) (by omega) (fun q' c' H' h'=> ?_);refine G2 f hf k (i+1) (out++[f i-1]) (by omega) (by simp;omega) h' (fun q2 c2 H2 h2=> ?_);have:=hk q2 c2 H2;rw[List.append_cons] at this;exact this h2
  ·rw[if_neg hp] at hs;rw[hs] at hk;simp only[hp,decide_false,ai];rw[aQ (by omega)];exact G2 f hf k (i+1) out (by omega) (by omega) h hk
theorem Nf (h:az B H (tQ id m::L)) (hok:m.ok) {b:Nat} (hb:b<m.nb) (k:∀q c H',az B H' (IR q c (m.on b)::tQ id m::L)→K (.slice q (m.on b).length c) H'):cl 67 [.aj (some (id,0)),.int .i64 (b:Int)] H K:=by
 obtain⟨x,hx⟩:=AT.of h;have g:=Tn hx;obtain⟨s2,i2,c2⟩:=g.a2 b hb;have m1:¬(b:Int)<0:=by omega
 have m2:¬(b:Int)≥(m.nb:Int):=by omega
 have m5:0≤(b:Int):=by omega
 have m6:(b:Int)<(m.nb:Int):=by omega
 have i2':=i2;have c2':=c2;simp only[qM,qN] at i2' c2';rw[aat];simp only[AJ,reduceIte,Nat.reduceEqDiff,Option.isNone_some,Option.isSome_some,aO,ite_self,m1,m2,m5,m6,g.i0,g.i2,g.c0,g.c2,Nat.zero_add,Int.toNat_natCast,s2,i2',c2',cond_true,if_true];unfold Pm.on at k;by_cases hc:m.dO b=0
 ·rw[if_pos hc] at k;have qJ:(m.dO b:Int)=0:=by omega
  simp only[qJ,decide_true,au];exact k none 0 H (az.vY h)
 ·rw[if_neg hc] at k;have qJ:¬(m.dO b:Int)=0:=by omega
  simp only[qJ,decide_false,ai];refine G1 hx hok b m.cw.length 0 (fun _=>0) (by omega) ?_;rw[List.drop_zero];have YD:aJ Vt (sa (DE b m.cw 0 fun _=>0))=true:=rfl;simp only[AJ,reduceIte,Nat.reduceEqDiff,YD];show lo _ _ (St.mk (ab [(8,T.v (V.slice none 0 0)),(66,T.v (V.agg (sa (m.by b)))),(67,T.v (V.int .i64 0))]) (ab []) H) _ _
  refine G2 (m.by b) (fun k=> ?_) 32 0 [] (by omega) (by simp) (az.vY h) (fun q' c' H' h'=> ?_)
  ·have hn:=hok.n;have:=qp b m.cw 0 m.cw.length (fun _=>0) (by omega) (fun k=>by omega) k;exact⟨this.1,Int.le_trans this.2 (by omega)⟩
  ·simp only[AJ,reduceIte,Nat.reduceEqDiff];exact k q' c' H' h'
end
theorem QV (l:List V):∀n:Nat,(List.replicate n l).flatten=ey n l
 |0=>rfl
 |n+1=>by
  rw[List.replicate_succ,List.flatten_cons,QV l n];rfl
section
variable {B:af} {L:List cq} {H:af} {K:V→af→Prop} {id:Nat} {m:Pm} {x:Pq}
theorem az.G3 (h:az B H L) {el n:Nat} {c:List V} (hc:c.length=n) (h1:aZ c) (N:Nat):az B (H.alloc (.cells el (ey N c) false)) (Rw el n (some (H.next,0)) N (List.replicate N c)::L):=by
 have hlen:(ey N c).length=N*n:=by rw[ey,fO,hc]
 unfold Rw;rw[QV,List.length_replicate];exact(h.alloc _ _).unbuf hlen (gm h1 _) (by omega) (by rw[hlen];omega) (by rw[List.drop_zero,List.take_length])
theorem Ng (n nb:Nat):(Pm.new n nb).gU=List.replicate nb 0:=by
 apply List.ext_getElem
 ·simp [Pm.new]
 ·intro i h1 h2;simp [Pm.gU,Pm.dO,Pm.new,List.countP_replicate,uA]
theorem Pt (h:az B H L) {n nb:Nat} (hn:1≤n∧n≤65536) (hb:1≤nb∧nb≤64) (k:∀id H',az B H' (tQ id (Pm.new n nb)::L)→K (.tuple [.aj (some (id,0)),.int .i64 0]) H'):cl 97 [.int .i64 (n:Int),.int .i64 (nb:Int)] H K:=by
 rw[aaG];have b1:¬(n:Int)<1:=by omega
 have b2:¬(n:Int)>65536:=by omega
 have b3:¬(nb:Int)<1:=by omega
 have b4:¬(nb:Int)>64:=by omega
 have b5:0≤(n:Int):=by omega
 have b6:0≤(nb:Int):=by omega
 have b7:(n:Int)≤(n:Int):=by omega
 have b8:(nb:Int)≤(nb:Int):=by omega
 have b9:(n:Int)*17≤70368744177664:=by omega
 have b10:(n:Int)*2≤70368744177664:=by omega
 have b11:(nb:Int)*9≤70368744177664:=by omega
 simp only[AJ,reduceIte,Nat.reduceEqDiff,b1,b2,b3,b4,b5,b6,b7,b8,b9,b10,b11,cond_true,Int.toNat_natCast]
 have rA:∀{H:af} {L:List cq},az B H L→az B (H.alloc (.cells 128 (ey n (iR 0 0)) false)) (Rw 128 2 (some (H.next,0)) n ((Pm.new n nb).cw.map vj)::L):=fun h=>by
  have e:(Pm.new n nb).cw.map vj=List.replicate n (iR 0 0):=by unfold Pm.new;rw[List.map_replicate];rfl
  rw[e];exact az.G3 h rfl (fun v hv=>by simp only[iR,List.mem_cons,List.not_mem_nil,or_false] at hv;rcases hv with rfl|rfl<;>rfl) n
 have rB:∀{H:af} {L:List cq},az B H L→az B (H.alloc (.cells 4 (ey n [V.bool false]) false)) (Rw 4 1 (some (H.next,0)) n ((Pm.new n nb).cw.map wD)::L):=fun h=>by
  have e:(Pm.new n nb).cw.map wD=List.replicate n [V.bool false]:=by unfold Pm.new;rw[List.map_replicate];rfl
  rw[e];exact az.G3 h rfl (fun v hv=>by rw[List.mem_singleton] at hv;subst hv;rfl) n
 have rC:∀{H:af} {L:List cq},az B H L→az B (H.alloc (.cells 3 (ey nb [V.int .i64 0]) false)) (IR (some (H.next,0)) nb (Pm.new n nb).gU::L):=fun h=>by
  rw[Ng];unfold IR;rw[List.map_replicate];exact az.G3 h rfl (fun v hv=>by rw[List.mem_singleton] at hv;subst hv;rfl) nb
 have fin:∀{H:af} (q1 q2 q3:Oq),az B H (Rw 128 2 q1 n ((Pm.new n nb).cw.map vj)::Rw 4 1 q2 n ((Pm.new n nb).cw.map wD)::IR q3 nb (Pm.new n nb).gU::L)→
  K (.tuple [.aj (some (H.next,0)),.int .i64 0]) (H.alloc (.cells 175 (zX q1 n n q2 n n q3 nb nb) false)):=by
  intro H q1 q2 q3 h;have h1:=h.alloc 175 (zX q1 n n q2 n n q3 nb nb);refine k _ _ (AT.to (x:=⟨q1,n,q2,n,q3,nb⟩) ?_);have e:F2 (Pm.new n nb) ⟨q1,n,q2,n,q3,nb⟩=zX q1 n n q2 n n q3 nb nb:=by unfold F2 Pm.new;simp only[List.length_replicate]
  unfold AT;rw[e];exact h1
 refine⟨⟨?_, ?_⟩,⟨?_, ?_⟩, ?_, ?_⟩
 ·exact fin _ _ _ ((rC (rB (rA h))).ord [2,1])
 ·exact fin _ _ _ ((rB (rC (rA h))).ord [2])
 ·exact fin _ _ _ ((rC (rA (rB h))).ord [1,1])
 ·exact fin _ _ _ ((rA (rC (rB h))).ord [0,1])
 ·exact fin _ _ _ ((rB (rA (rC h))).ord [1])
 ·exact fin _ _ _ (rA (rB (rC h)))
end
def mV:Nat→List Fd→Nat
 |m,[]=>m
 |m,f::l=>mV (max m f.s.seq) l
def Ar.fd (a:Ar) (g:bZ) (i:Nat):List Fd:=(a.bs.getD i fp).ew i g.cap
def wE (i:Nat):List (Nat×List Fd)→List (Nat×List Fd)
 |[]=>[]
 |x::l=>if x.1=i then l else x::wE i l
def zE:List Nat→List (Nat×List Fd)→List (Nat×List Fd)×List Nat
 |[],cE=>(cE,[])
 |i::us,cE=>if kh cE i=true then ((zE us (wE i cE)).1,i::(zE us (wE i cE)).2) else zE us cE
abbrev G4 (m:Gm):bg:=.cells 26 (ee m.g.aF m.g.aB m.g.aG m.q m.g.bP.length m.c)
abbrev sb (mp:Oq) (pg:Option Nat) (sq:Nat) (q:Oq) (n c:Nat):bg:=.cells 113 (cJ mp pg (sq:Int) q n c)
abbrev sd:bg:=.cells 113 (cJ none none 0 none 0 0)
section
variable {B:af} {L:List cq} {H:af} {K:V→af→Prop} {aH mid pid mpid:Nat} {a:Ar} {m:Gm}
theorem IN {q:Oq} {c:Nat} {rs:List Rf} (hr:Rd H q (rs.map Rf.cs).flatten) (hl:rs.length≤1000000) {uq:Oq} {un uc:Nat} {tn tj:Int} {Kr:Am.St→Prop} {Ke:Nat→Am.St→Prop}:∀(k i sq:Nat),i+k=rs.length→Ke 2 (St.mk (ab [(0,T.v (V.aj (some (aH,0)))),(3,T.lp 3 0),(4,T.lp 4 0),(6,T.v (V.aj (some (mpid,0)))),(8,T.lp 8 0),(9,T.v (V.map (some mid))),(61,T.v (V.slice uq un uc)),(62,T.v (V.int .i64 tn)),(63,T.v (V.int .i64 tj))]) (ab [(3,G4 m),(4,sd),(8,sb (some (mpid,0)) (some pid) (mV sq ((rs.drop i).map Rf.f)) none 0 0)]) H)→lo 59 21 (St.mk (ab [(0,T.v (V.aj (some (aH,0)))),(3,T.lp 3 0),(4,T.lp 4 0),(6,T.v (V.aj (some (mpid,0)))),(8,T.lp 8 0),(9,T.v (V.map (some mid))),(61,T.v (V.slice uq un uc)),(62,T.v (V.int .i64 tn)),(63,T.v (V.int .i64 tj)),(81,T.v (V.slice q rs.length c)),(82,T.v (V.int .i64 (rs.length:Int))),(83,T.v (V.int .i64 (i:Int)))]) (ab [(3,G4 m),(4,sd),(8,sb (some (mpid,0)) (some pid) sq none 0 0)]) H) Kr Ke
 |0,i,sq,hi,hk=>by
  obtain rfl:i=rs.length:=by omega
  rw[List.drop_length] at hk;rw[HW,decide_eq_false (by omega),ai];exact hk
 |k+1,i,sq,hi,hk=>by
  have hlt:i<rs.length:=by omega
  obtain⟨s1,s2,s3⟩:=yw hr (vh rs).oD (by decide) (i:=i) (by simpa using hlt);have s2':H.inb (pb q) (po q+i*8) 8=true:=s2
  have HF:H.sub (pb q) (po q+i*8) 8=(rs[i]).cs:=by
   rw[List.getElem_map] at s3;exact s3
  have a1:(i:Int)<(rs.length:Int):=by omega
  have a2:0≤(i:Int):=by omega
  have hfit:aJ oz (rs[i]).cs=true:=rfl;have hn4:ae (rs[i]).cs 4=.int .u64 ((rs[i]).f.s.seq:Int):=rfl
  have em:(bif decide (((rs[i]).f.s.seq:Int)>(sq:Int)) then ((rs[i]).f.s.seq:Int) else (sq:Int))=((max sq (rs[i]).f.s.seq:Nat):Int):=by
   by_cases h:((rs[i]).f.s.seq:Int)>(sq:Int)
   ·simp only[h,decide_true,cond_true];omega
   ·simp only[h,decide_false,cond_false];omega
  rw[List.drop_eq_getElem_cons hlt,List.map_cons,mV] at hk;rw[HW];simp only[AJ,reduceIte,Nat.reduceEqDiff,a1,a2,Int.toNat_natCast,s1,s2',HF,hfit,hn4,em];rw[aQ (by omega)];exact IN hr hl k (i+1) (max sq (rs[i]).f.s.seq) (by omega) hk
theorem az.aa1 {zs:List Rz} {z:Rz} (h:az B H (Rw 130 8 z.q z.c (z.rs.map Rf.cs)::bj (z.rs.map Rf.bW)::bj (zs.map Rz.bW)::L)):az B H (bj ((zs++[z]).map Rz.bW)::L):=by
 have h2:az B H (z.bW::bj (zs.map Rz.bW)::L):=az.rX (l:=[Rw 130 8 z.q z.c (z.rs.map Rf.cs),bj (z.rs.map Rf.bW)]) h;refine h2.lR.bigPerm ?_;rw[List.map_append];exact List.perm_append_comm (l₁:=[z.bW]) (l₂:=zs.map Rz.bW)
theorem Kh {i:Nat} {bz:List (Rz×Nat)} (h:∀x∈bz,x.1.i≠i):oB i bz=none:=by
 induction bz with
 |nil=>rfl
 |cons x l ih=>
  rw[oB,if_neg (h x List.mem_cons_self)];exact ih fun y hy=>h y (List.mem_cons_of_mem _ hy)
theorem To (a:Ar) (g:bZ) (i:Nat):(a.fd g i).length≤(a.bs.getD i fp).pg.length:=by
 unfold Ar.fd Bk.ew;split
 ·simp
 ·have key:∀(l:List (List UInt8)) (p:Nat),(ic i g.cap l p).length≤l.length:=by
   intro l
   induction l with
   |nil=>intro p;simp [ic]
   |cons d l ih=>
    intro p;rw[ic];have:=ih (p+1);split
    ·simp;omega
    ·split<;>simp<;>omega
  exact key _ _
theorem IP (hm:dF B L m) (hf:m.g.cM=true) (hg:m.g.In) (hr:a.rd m.g) (sB:a.aB≤32) (qE:∀i∈m.g.us,i<a.bs.length) (uy:m.g.us.Nodup) {uq:Oq} {uc:Nat} {Kr:Am.St→Prop} {Ke:Nat→Am.St→Prop} (hk:∀bz c H',mT bz=(m.g.us.map fun i=>(i,a.fd m.g i))→wC (pJ bz) c→(∀x∈bz,x.1.rs.length≤32)→
 az B H' (df aH a::iu mid (pJ bz) c::bj ((bz.map Prod.fst).map Rz.bW)::IR uq uc (db m.g.us)::L)→
 Ke 0 (St.mk (ab [(3,T.lp 3 0),(4,T.lp 4 0),(6,T.v (V.aj (some (mpid,0)))),(8,T.lp 8 0),(9,T.v (V.map (some mid)))]) (ab [(3,G4 m),(4,sd),(8,sb (some (mpid,0)) (some pid) (mV 0 (m.g.us.flatMap (a.fd m.g))) none 0 0)]) H')):∀(k j:Nat) (bz:List (Rz×Nat)) (c:Nat) {H:af},j+k=m.g.us.length→
 mT bz=((m.g.us.take j).map fun i=>(i,a.fd m.g i))→wC (pJ bz) c→(∀x∈bz,x.1.rs.length≤32)→
 az B H (df aH a::iu mid (pJ bz) c::bj ((bz.map Prod.fst).map Rz.bW)::IR uq uc (db m.g.us)::L)→
 lo 59 11
  (St.mk (ab [(0,T.v (V.aj (some (aH,0)))),(3,T.lp 3 0),(4,T.lp 4 0),(6,T.v (V.aj (some (mpid,0)))),(8,T.lp 8 0),(9,T.v (V.map (some mid))),(61,T.v (V.slice uq m.g.us.length uc)),(62,T.v (V.int .i64 (m.g.us.length:Int))),(63,T.v (V.int .i64 (j:Int)))])
   (ab [(3,G4 m),(4,sd),(8,sb (some (mpid,0)) (some pid) (mV 0 ((m.g.us.take j).flatMap (a.fd m.g))) none 0 0)]) H) Kr Ke
 |0,j,bz,c,H,hj,hbz,hb,hl,h=>by
  obtain rfl:j=m.g.us.length:=by omega
  rw[List.take_length] at hbz⊢;rw[HV,decide_eq_false (by omega),ai];exact hk bz c H hbz hb hl h
 |k+1,j,bz,c,H,hj,hbz,hb,hl,h=>by
  have hlt:j<m.g.us.length:=by omega
  have Jy:=bZ.k6 m.g hg.b.2;obtain⟨s1,s2,s3⟩:=(az.tD (h.ord [3])).at (i:=j) (by simpa using hlt);have e1:(db m.g.us)[j]'(by simpa using hlt)=((m.g.us[j]:Nat):Int):=by simp [db]
  rw[e1] at s3;have a1:(j:Int)<(m.g.us.length:Int):=by omega
  have a2:0≤(j:Int):=by omega
  have hmem:=List.getElem_mem hlt;have hi:=qE _ hmem;rw[HV];simp only[AJ,reduceIte,Nat.reduceEqDiff,a1,a2,Int.toNat_natCast,s1,s2,s3];have hm':dF B (iu mid (pJ bz) c::bj ((bz.map Prod.fst).map Rz.bW)::IR uq uc (db m.g.us)::L) m:=((hm.bO _).bO _).bO _;refine MW h hm' hf hg hr sB hmem hi (fun q c2 rs H1 Qu h1=> ?_)
  have F7:rs.map Rf.f=a.fd m.g m.g.us[j]:=by
   rw[Qu];unfold Ar.fd;rw[List.getD_eq_getElem?_getD,List.getElem?_eq_getElem hi];rfl
  have hrl:rs.length≤32:=by
   have h1:=congrArg List.length F7;rw[List.length_map] at h1;have h2:=To a m.g m.g.us[j];rw[List.getD_eq_getElem?_getD,List.getElem?_eq_getElem hi] at h2;have h3:=hr.len _ (List.getElem_mem hi);simp only[Option.getD_some] at h2;omega
  have hmo:=tM (h1.ord [3]);have gj:=(h1.ord [3]).IJ (m.g.us[j]:Int) (.slice q rs.length c2)
  have hnew:oB m.g.us[j] bz=none:=by
   refine Kh fun x hx e=> ?_
   have:(x.1.i,x.1.rs.map Rf.f)∈mT bz:=List.mem_map.2 ⟨x,hx,rfl⟩;rw[hbz] at this;obtain⟨y,hy,he⟩:=List.mem_map.1 this;have hxy:y=m.g.us[j]:=by have:=congrArg Prod.fst he;simp only at this;omega
   rw[hxy] at hy;obtain⟨t,ht,het⟩:=List.mem_iff_getElem.1 hy;rw[List.length_take] at ht;rw[List.getElem_take] at het;exact List.pairwise_iff_getElem.1 uy t j (by omega) hlt (by omega) het
  have Dz:qH (m.g.us[j]:Int) (.slice q rs.length c2) (pJ bz) c=(pJ (bz++[(⟨m.g.us[j],q,c2,rs⟩,c)]),c+1):=by
   unfold qH;rw[CM,hnew];simp [pJ]
  have mj:=hb.Zj (m.g.us[j]:Int) (.slice q rs.length c2);rw[Dz] at gj mj;simp only[AJ,reduceIte,Nat.reduceEqDiff,hmo,Option.isSome_some];generalize hH H1 _ _ _ _=H2 at gj⊢;have h2:az B H2 (Rw 130 8 q c2 (rs.map Rf.cs)::bj (rs.map Rf.bW)::bj ((bz.map Prod.fst).map Rz.bW)::df aH a::iu mid (pJ (bz++[(⟨m.g.us[j],q,c2,rs⟩,c)])) (c+1)::IR uq uc (db m.g.us)::L):=gj.ord [1,1,2,1];refine IN (h2.wz) (by omega) rs.length 0 _ (by omega) ?_;simp only[AJ,reduceIte,Nat.reduceEqDiff,f25,uV,mH,mI,mJ,mK,f112,vW,pq,pr,pt,pw];rw[aQ (by omega)];have h3:=az.aa1 (z:=⟨m.g.us[j],q,c2,rs⟩) h2
  have e3:mV (mV 0 ((m.g.us.take j).flatMap (a.fd m.g))) ((rs.drop 0).map Rf.f)=mV 0 ((m.g.us.take (j+1)).flatMap (a.fd m.g)):=by
   rw[List.drop_zero,F7,List.take_succ_eq_append_getElem hlt,List.flatMap_append]
   have app:∀(l l':List Fd) (n:Nat),mV n (l++l')=mV (mV n l) l':=by
    intro l
    induction l with
    |nil=>intro l' n;rfl
    |cons x l ih=>intro l' n;rw[List.cons_append,mV,mV,ih]
   rw[app];simp
  rw[e3];refine IP hm hf hg hr sB qE uy hk k (j+1) _ (c+1) (by omega) ?_ mj ?_ ?_
  ·have:mT (bz++[(⟨m.g.us[j],q,c2,rs⟩,c)])=mT bz++[(m.g.us[j],rs.map Rf.f)]:=by simp [mT]
   rw[this,hbz,F7,List.take_succ_eq_append_getElem hlt,List.map_append];rfl
  ·intro x hx;rcases List.mem_append.1 hx with hx|hx
   ·exact hl x hx
   ·rw[List.mem_singleton] at hx;subst hx;exact hrl
  ·have e4:(bz++[(Rz.mk m.g.us[j] q c2 rs,c)]).map Prod.fst=bz.map Prod.fst++[Rz.mk m.g.us[j] q c2 rs]:=by simp
   rw[e4];exact h3.ord [1,1]
def EX (i:Nat):List (Rz×Nat)→List (Rz×Nat)
 |[]=>[]
 |x::l=>if x.1.i=i then l else x::EX i l
theorem yH (i:Nat):∀bz:List (Rz×Nat),CK (i:Int) (pJ bz)=pJ (EX i bz)
 |[]=>rfl
 |x::l=>by
  show (if (x.1.i:Int)=(i:Int) then pJ l else _::CK (i:Int) (pJ l))=_
  rw[yH i l,EX];by_cases h:x.1.i=i
  ·have:(x.1.i:Int)=(i:Int):=by omega
   rw[if_pos this,if_pos h]
  ·have:¬(x.1.i:Int)=(i:Int):=by omega
   rw[if_neg this,if_neg h];rfl
theorem EY (i:Nat):∀bz:List (Rz×Nat),wE i (mT bz)=mT (EX i bz)
 |[]=>rfl
 |x::l=>by
  show (if x.1.i=i then mT l else _::wE i (mT l))=_
  rw[EY i l,EX];split<;>rfl
theorem EZ {i:Nat} {x:Rz×Nat}:∀{bz:List (Rz×Nat)},x∈EX i bz→x∈bz
 |y::l,h=>by
  rw[EX] at h;split at h
  ·exact List.mem_cons_of_mem _ h
  ·rcases List.mem_cons.1 h with rfl|h
   ·exact List.mem_cons_self
   ·exact List.mem_cons_of_mem _ (EZ h)
theorem CP {zs:List Rz} (hzl:∀z∈zs,z.rs.length≤1000000) {uq:Oq} {uc:Nat} {sq:Nat} (Jy:m.g.us.length≤62) {Kr:Am.St→Prop} {Ke:Nat→Am.St→Prop}:∀(k j:Nat) (bz:List (Rz×Nat)) (c:Nat) (sp:List Nat) {q:Oq} {sc:Nat} {H:af},j+k=m.g.us.length→sp.length≤j→wC (pJ bz) c→(∀x∈bz,x.1∈zs)→(∀UX c' q' sc' H',mT UX=(zE (m.g.us.drop j) (mT bz)).1→wC (pJ UX) c'→(∀x∈UX,x.1∈zs)→
 az B H' (iu mid (pJ UX) c'::bj (zs.map Rz.bW)::IR q' sc' (db (sp++(zE (m.g.us.drop j) (mT bz)).2))::IR uq uc (db m.g.us)::L)→
 Ke 4 (St.mk (ab [(3,T.lp 3 0),(4,T.lp 4 0),(6,T.v (V.aj (some (mpid,0)))),(8,T.lp 8 0),(9,T.v (V.map (some mid)))])
  (ab [(3,G4 m),(4,sd),(8,sb (some (mpid,0)) (some pid) sq q' (sp++(zE (m.g.us.drop j) (mT bz)).2).length sc')]) H'))→
 az B H (iu mid (pJ bz) c::bj (zs.map Rz.bW)::IR q sc (db sp)::IR uq uc (db m.g.us)::L)→
 lo 59 29
  (St.mk (ab [(3,T.lp 3 0),(4,T.lp 4 0),(6,T.v (V.aj (some (mpid,0)))),(8,T.lp 8 0),(9,T.v (V.map (some mid))),(97,T.v (V.slice uq m.g.us.length uc)),(98,T.v (V.int .i64 (m.g.us.length:Int))),(99,T.v (V.int .i64 (j:Int)))])
   (ab [(3,G4 m),(4,sd),(8,sb (some (mpid,0)) (some pid) sq q sp.length sc)]) H) Kr Ke
 |0,j,bz,c,sp,q,sc,H,hj,hsp,hb,hbz,hk,h=>by
  obtain rfl:j=m.g.us.length:=by omega
  rw[HU,decide_eq_false (by omega),ai];have:=hk bz c q sc H;simp only[List.drop_length,zE,List.append_nil] at this;exact this trivial hb hbz h
 |k+1,j,bz,c,sp,q,sc,H,hj,hsp,hb,hbz,hk,h=>by
  have hlt:j<m.g.us.length:=by omega
  obtain⟨s1,s2,s3⟩:=(az.tD (h.ord [3])).at (i:=j) (by simpa using hlt);have e1:(db m.g.us)[j]'(by simpa using hlt)=((m.g.us[j]:Nat):Int):=by simp [db]
  rw[e1] at s3;have a1:(j:Int)<(m.g.us.length:Int):=by omega
  have a2:0≤(j:Int):=by omega
  rw[List.drop_eq_getElem_cons hlt,zE] at hk;rw[HU];simp only[AJ,reduceIte,Nat.reduceEqDiff,a1,a2,Int.toNat_natCast,s1,s2,s3];rw[aQ (by omega)];refine Kf h hbz hzl m.g.us[j] (fun H1 h1=> ?_);simp only[AJ,reduceIte,Nat.reduceEqDiff];by_cases hc:kh (mT bz) m.g.us[j]=true
  ·simp only[hc,if_true] at hk;simp only[hc,au]
   have hp:=az.CF (h1.ord [2]) (m.g.us[j]:Int) (e2:=3) (by simp;omega) (K:=fun q n c H'=>ag (dY H' .i64 (some mid)) (lo 59 29
    (St.mk (ab [(3,T.lp 3 0),(4,T.lp 4 0),(6,T.v (V.aj (some (mpid,0)))),(8,T.lp 8 0),(9,T.v (V.map (some mid))),(97,T.v (V.slice uq m.g.us.length uc)),(98,T.v (V.int .i64 (m.g.us.length:Int))),(99,T.v (V.int .i64 ((j+1:Nat):Int)))])
    (ab [(3,G4 m),(4,sd),(8,sb (some (mpid,0)) (some pid) sq q n c)]) (oH H' (some mid) (m.g.us[j]:Int))) Kr Ke)) (fun q' c' H2 h2=> ?_)
   ·rw[iK] at hp;exact hp
   ·have hmo:=tM (h2.ord [1]);have Dv:=(h2.ord [1]).XJ (m.g.us[j]:Int);rw[yH] at Dv;have mj:=hb.DD (m.g.us[j]:Int);rw[yH] at mj;simp only[hmo,ay];have e5:db sp++[(m.g.us[j]:Int)]=db (sp++[m.g.us[j]]):=by simp [db]
    rw[e5] at Dv⊢;rw[iK];refine CP hzl Jy k (j+1) (EX m.g.us[j] bz) c (sp++[m.g.us[j]]) (by omega) (by simp;omega) mj (fun x hx=>hbz x (EZ hx)) (fun UX c2 q2 sc2 H3 e3 DH hz3 h3=> ?_) (Dv.ord [0,1]);rw[←EY] at e3 h3⊢;rw[List.append_assoc] at h3⊢;exact hk UX c2 q2 sc2 H3 e3 DH hz3 h3
  ·have qJ:kh (mT bz) m.g.us[j]=false:=by simpa using hc
   simp only[qJ,Bool.false_eq_true,if_false] at hk;simp only[qJ,ai];exact CP hzl Jy k (j+1) bz c sp (by omega) (by omega) hb hbz hk h1
end
def re (f:Fd):List Fd→List Fd
 |[]=>[f]
 |o::l=>if o.s.ar=f.s.ar then (if o.s.seq<f.s.seq then f::l else o::l) else o::re f l
def tT:List Fd→List Fd→List Fd
 |pg,[]=>pg
 |pg,f::l=>tT (re f pg) l
def jn (a:Nat):List Fd→Option Fd
 |[]=>none
 |f::l=>if f.s.ar=a then some f else jn a l
def lg (pz:List (Rf×Nat)):List En:=pz.map fun x=>⟨(x.1.f.s.ar:Int),.agg x.1.cs,x.2⟩
def lF (a:Nat):List (Rf×Nat)→Option (Rf×Nat)
 |[]=>none
 |x::l=>if x.1.f.s.ar=a then some x else lF a l
def rf (r:Rf):List (Rf×Nat)→List (Rf×Nat)
 |[]=>[]
 |x::l=>if x.1.f.s.ar=r.f.s.ar then (r,x.2)::l else x::rf r l
theorem tU (a:Nat):∀pz:List (Rf×Nat),F1 (a:Int) (lg pz)=(lF a pz).map fun x:Rf×Nat=>V.agg x.1.cs
 |[]=>rfl
 |x::l=>by
  show (if (x.1.f.s.ar:Int)=(a:Int) then some _ else F1 (a:Int) (lg l))=_
  rw[lF,tU a l];by_cases h:x.1.f.s.ar=a
  ·have:(x.1.f.s.ar:Int)=(a:Int):=by omega
   rw[if_pos this,if_pos h];rfl
  ·have:¬(x.1.f.s.ar:Int)=(a:Int):=by omega
   rw[if_neg this,if_neg h]
theorem E0 (r:Rf):∀pz:List (Rf×Nat),z7 (r.f.s.ar:Int) (.agg r.cs) (lg pz)=lg (rf r pz)
 |[]=>rfl
 |x::l=>by
  show (if (x.1.f.s.ar:Int)=(r.f.s.ar:Int) then _::lg l else _::z7 (r.f.s.ar:Int) (.agg r.cs) (lg l))=_
  rw[E0 r l,rf];by_cases h:x.1.f.s.ar=r.f.s.ar
  ·have:(x.1.f.s.ar:Int)=(r.f.s.ar:Int):=by omega
   rw[if_pos this,if_pos h];show (⟨(x.1.f.s.ar:Int),_,_⟩:En)::_=⟨(r.f.s.ar:Int),_,_⟩::_
   rw[h];rfl
  ·have:¬(x.1.f.s.ar:Int)=(r.f.s.ar:Int):=by omega
   rw[if_neg this,if_neg h];rfl
def wR (pz:List (Rf×Nat)):List Fd:=pz.map fun x=>x.1.f
theorem mW {a:Nat} {x:Rf×Nat}:∀{pz:List (Rf×Nat)},lF a pz=some x→x∈pz∧x.1.f.s.ar=a
 |y::l,h=>by
  rw[lF] at h;split at h
  ·rename_i e;cases h;exact⟨List.mem_cons_self,e⟩
  ·obtain⟨h1,h2⟩:=mW h;exact⟨List.mem_cons_of_mem _ h1,h2⟩
theorem AU {a:Nat}:∀{pz:List (Rf×Nat)},lF a pz=none→∀x∈pz,x.1.f.s.ar≠a
 |y::l,h,x,hx=>by
  rw[lF] at h;split at h
  ·cases h
  ·rename_i e;rcases List.mem_cons.1 hx with rfl|hx
   ·exact e
   ·exact AU h x hx
theorem AV {r:Rf} {c:Nat}:∀{pz:List (Rf×Nat)},lF r.f.s.ar pz=none→re r.f (wR pz)=wR (pz++[(r,c)])
 |[],_=>rfl
 |y::l,h=>by
  rw[lF] at h;split at h
  ·cases h
  ·rename_i e;show (if y.1.f.s.ar=r.f.s.ar then _ else y.1.f::re r.f (wR l))=_
   rw[if_neg e,AV h];rfl
theorem AW {r:Rf} {x:Rf×Nat}:∀{pz:List (Rf×Nat)},lF r.f.s.ar pz=some x→re r.f (wR pz)=if x.1.f.s.seq<r.f.s.seq then wR (rf r pz) else wR pz
 |y::l,h=>by
  rw[lF] at h;show (if y.1.f.s.ar=r.f.s.ar then (if y.1.f.s.seq<r.f.s.seq then r.f::wR l else y.1.f::wR l) else y.1.f::re r.f (wR l))=_
  rw[rf];split at h
  ·rename_i e;cases h;rw[if_pos e,if_pos e];rfl
  ·rename_i e;rw[if_neg e,if_neg e,AW h];split<;>rfl
theorem yI (r:Rf):∀pz:List (Rf×Nat),(rf r pz).map (fun x=>x.1.f.s.ar)=pz.map fun x=>x.1.f.s.ar
 |[]=>rfl
 |y::l=>by
  rw[rf];split
  ·rename_i e;rw[List.map_cons,List.map_cons,e]
  ·rw[List.map_cons,yI r l,List.map_cons]
theorem AX {r:Rf} {x:Rf×Nat}:∀{pz:List (Rf×Nat)},x∈rf r pz→x∈pz∨x.1=r
 |y::l,h=>by
  rw[rf] at h;split at h
  ·rcases List.mem_cons.1 h with rfl|h
   ·exact .inr rfl
   ·exact .inl (List.mem_cons_of_mem _ h)
  ·rcases List.mem_cons.1 h with rfl|h
   ·exact .inl List.mem_cons_self
   ·exact(AX h).imp (List.mem_cons_of_mem _) id
structure z8 (g:bZ) (pz:List (Rf×Nat)):Prop where
 nd:(pz.map fun x=>x.1.f.s.ar).Nodup
 b:∀x∈pz,(x.1.f.s.ar:Int)≤g.cap∧(x.1.f.b:Int)<g.aF∧x.1.f.p<32
abbrev Ki (g:bZ) (f:Fd):Prop:=(f.s.ar:Int)≤g.cap∧(f.b:Int)<g.aF∧f.p<32
section
variable {B:af} {L:List cq} {H:af} {K:V→af→Prop} {aH mid pid mpid:Nat} {a:Ar} {m:Gm}
theorem wS {P0:List Fd} {zs:List Rz} {z:Rz} (hz:z∈zs) (hzl:z.rs.length≤1000000) (hin:∀r∈z.rs,Ki m.g r.f) {sq:Nat} {uq spq:Oq} {un uc spn spc:Nat} {tn tj:Int} {Kr:Am.St→Prop} {Ke:Nat→Am.St→Prop} (hk:∀pz c H',wR pz=tT P0 (z.rs.map Rf.f)→wC (lg pz) c→z8 m.g pz→az B H' (iu pid (lg pz) c::bj (zs.map Rz.bW)::L)→Ke 8 (St.mk (ab [(4,T.lp 4 0),(6,T.v (V.aj (some (mpid,0)))),(8,T.lp 8 0),(9,T.v (V.map (some mid))),(116,T.v (V.slice uq un uc)),(117,T.v (V.int .i64 tn)),(118,T.v (V.int .i64 tj))]) (ab [(4,sd),(8,sb (some (mpid,0)) (some pid) sq spq spn spc)]) H')):∀(k i:Nat) (pz:List (Rf×Nat)) (c:Nat) {H:af},i+k=z.rs.length→tT (wR pz) ((z.rs.drop i).map Rf.f)=tT P0 (z.rs.map Rf.f)→wC (lg pz) c→z8 m.g pz→az B H (iu pid (lg pz) c::bj (zs.map Rz.bW)::L)→lo 59 44 (St.mk (ab [(4,T.lp 4 0),(6,T.v (V.aj (some (mpid,0)))),(8,T.lp 8 0),(9,T.v (V.map (some mid))),(116,T.v (V.slice uq un uc)),(117,T.v (V.int .i64 tn)),(118,T.v (V.int .i64 tj)),(124,T.v (V.slice z.q z.rs.length z.c)),(125,T.v (V.int .i64 (z.rs.length:Int))),(126,T.v (V.int .i64 (i:Int)))]) (ab [(4,sd),(8,sb (some (mpid,0)) (some pid) sq spq spn spc)]) H) Kr Ke
 |0,i,pz,c,H,hi,he,hb,hok,h=>by
  obtain rfl:i=z.rs.length:=by omega
  rw[List.drop_length] at he;rw[Cx,decide_eq_false (by omega),ai];exact hk pz c H he hb hok h
 |k+1,i,pz,c,H,hi,he,hb,hok,h=>by
  have hlt:i<z.rs.length:=by omega
  obtain⟨YB,hdz⟩:=tP (h.ord [1]) hz;obtain⟨s1,s2,s3⟩:=yw YB (vh z.rs).oD (by decide) (i:=i) (by simpa using hlt);have s2':H.inb (pb z.q) (po z.q+i*8) 8=true:=s2
  have HF:H.sub (pb z.q) (po z.q+i*8) 8=(z.rs[i]).cs:=by
   rw[List.getElem_map] at s3;exact s3
  have a1:(i:Int)<(z.rs.length:Int):=by omega
  have a2:0≤(i:Int):=by omega
  obtain⟨r,hr⟩:∃r,r=z.rs[i]:=⟨_,rfl⟩;have Uh:=hin _ (List.getElem_mem hlt);rw[←hr] at HF Uh;have hfit:aJ oz r.cs=true:=rfl;have zz:JV r.cs=r.cs:=rfl;have hn4:ae r.cs 4=.int .u64 (r.f.s.seq:Int):=rfl;have hn5:ae r.cs 5=.int .i64 (r.f.s.ar:Int):=rfl;rw[List.drop_eq_getElem_cons hlt,List.map_cons,tT, ←hr] at he;have hmo:=tM h;have n5:=yE h (r.f.s.ar:Int) (.agg (ke 0 0 0 0 0 0 0 none 0 0));have Uj:=MZ h (r.f.s.ar:Int);rw[tU] at n5 Uj;rw[Option.isSome_map] at Uj;have gj:=h.IJ (r.f.s.ar:Int) (.agg r.cs);have mj:=hb.Zj (r.f.s.ar:Int) (.agg r.cs);rw[Cx];simp only[AJ,reduceIte,Nat.reduceEqDiff,a1,a2,Int.toNat_natCast,s1,s2',HF,hfit,zz,hn4,hn5,hmo,n5,Uj,Bool.not_not,Option.isSome_some];rw[aQ (by omega)]
  cases hg:lF r.f.s.ar pz with
  |none=>
   have Dz:qH (r.f.s.ar:Int) (.agg r.cs) (lg pz) c=(lg (pz++[(r,c)]),c+1):=by
    unfold qH;rw[tU,hg];simp [lg]
   rw[Dz] at gj mj;have Lo:aJ oz (ke 0 0 0 0 0 0 0 none 0 0)=true:=rfl;simp only[Option.map_none,Option.isSome_none,AJ,reduceIte,Nat.reduceEqDiff,Lo,cond_false];refine wS hz hzl hin hk k (i+1) _ (c+1) (by omega) ?_ mj ⟨?_, ?_⟩ gj
   ·rw[←he,AV hg]
   ·rw[List.map_append,List.nodup_append];refine⟨hok.nd,by simp,fun x hx y hy=> ?_⟩;simp only[List.map_cons,List.map_nil,List.mem_singleton] at hy;subst hy;obtain⟨w,hw,rfl⟩:=List.mem_map.1 hx;exact AU hg w hw
   ·intro x hx;rcases List.mem_append.1 hx with hx|hx
    ·exact hok.b x hx
    ·rw[List.mem_singleton] at hx;subst hx;exact Uh
  |some x=>
   obtain⟨hx1,ux⟩:=mW hg;have Lo:aJ oz x.1.cs=true:=rfl;have hx4:ae x.1.cs 4=.int .u64 (x.1.f.s.seq:Int):=rfl;simp only[Option.map_some,Option.isSome_some,AJ,reduceIte,Nat.reduceEqDiff,Lo,hx4,cond_true];have hold:=AW hg;by_cases FY:x.1.f.s.seq<r.f.s.seq
   ·have Uk:(x.1.f.s.seq:Int)<(r.f.s.seq:Int):=by omega
    have Dz:qH (r.f.s.ar:Int) (.agg r.cs) (lg pz) c=(lg (rf r pz),c):=by
     unfold qH;rw[tU,hg];simp only[Option.map_some,Option.isSome_some,if_true,E0]
    rw[Dz] at gj mj;rw[if_pos FY] at hold;simp only[Uk,decide_true,au];refine wS hz hzl hin hk k (i+1) _ c (by omega) (by rw[←he,hold]) mj ⟨by rw[yI];exact hok.nd,fun y hy=> ?_⟩ gj;rcases AX hy with hy|hy
    ·exact hok.b y hy
    ·rw[hy];exact Uh
   ·have Uk:¬(x.1.f.s.seq:Int)<(r.f.s.seq:Int):=by omega
    rw[if_neg FY] at hold;simp only[Uk,decide_false,ai];exact wS hz hzl hin hk k (i+1) pz c (by omega) (by rw[←he,hold]) hb hok h
def dS (cE:List (Nat×List Fd)):List Fd→List Nat→List Fd
 |pg,[]=>pg
 |pg,i::us=>dS cE (tT pg (gT i cE)) us
theorem IQ {zs:List Rz} {bz:List (Rz×Nat)} {bc:Nat} (hbz:∀x∈bz,x.1∈zs) (hzl:∀z∈zs,z.rs.length≤1000000) (hin:∀z∈zs,∀r∈z.rs,Ki m.g r.f) {sq:Nat} (Jy:m.g.us.length≤62) {uq spq:Oq} {uc spn spc:Nat} {Kr:Am.St→Prop} {Ke:Nat→Am.St→Prop} (hk:∀pz c H',wR pz=dS (mT bz) [] m.g.us→wC (lg pz) c→z8 m.g pz→az B H' (iu pid (lg pz) c::bj (zs.map Rz.bW)::iu mid (pJ bz) bc::IR uq uc (db m.g.us)::L)→Ke 6 (St.mk (ab [(4,T.lp 4 0),(6,T.v (V.aj (some (mpid,0)))),(8,T.lp 8 0)]) (ab [(4,sd),(8,sb (some (mpid,0)) (some pid) sq spq spn spc)]) H')):∀(k j:Nat) (pz:List (Rf×Nat)) (c:Nat) {H:af},j+k=m.g.us.length→dS (mT bz) (wR pz) (m.g.us.drop j)=dS (mT bz) [] m.g.us→wC (lg pz) c→z8 m.g pz→az B H (iu pid (lg pz) c::bj (zs.map Rz.bW)::iu mid (pJ bz) bc::IR uq uc (db m.g.us)::L)→lo 59 39 (St.mk (ab [(4,T.lp 4 0),(6,T.v (V.aj (some (mpid,0)))),(8,T.lp 8 0),(9,T.v (V.map (some mid))),(116,T.v (V.slice uq m.g.us.length uc)),(117,T.v (V.int .i64 (m.g.us.length:Int))),(118,T.v (V.int .i64 (j:Int)))]) (ab [(4,sd),(8,sb (some (mpid,0)) (some pid) sq spq spn spc)]) H) Kr Ke
 |0,j,pz,c,H,hj,he,hb,hok,h=>by
  obtain rfl:j=m.g.us.length:=by omega
  rw[List.drop_length] at he;rw[HT,decide_eq_false (by omega),ai];exact hk pz c H he hb hok h
 |k+1,j,pz,c,H,hj,he,hb,hok,h=>by
  have hlt:j<m.g.us.length:=by omega
  obtain⟨s1,s2,s3⟩:=(az.tD (h.ord [3])).at (i:=j) (by simpa using hlt);have e1:(db m.g.us)[j]'(by simpa using hlt)=((m.g.us[j]:Nat):Int):=by simp [db]
  rw[e1] at s3;have a1:(j:Int)<(m.g.us.length:Int):=by omega
  have a2:0≤(j:Int):=by omega
  rw[List.drop_eq_getElem_cons hlt,dS,tO] at he;have hmo:=tM (h.ord [2]);have n5:=M6 (h.ord [2]) m.g.us[j];rw[HT];simp only[AJ,reduceIte,Nat.reduceEqDiff,a1,a2,Int.toNat_natCast,s1,s2,s3,hmo,n5]
  have hnext:∀Rv c' H',dS (mT bz) (wR Rv) (m.g.us.drop (j+1))=dS (mT bz) [] m.g.us→wC (lg Rv) c'→z8 m.g Rv→az B H' (iu pid (lg Rv) c'::bj (zs.map Rz.bW)::iu mid (pJ bz) bc::IR uq uc (db m.g.us)::L)→
   lo 59 39
    (St.mk (ab [(4,T.lp 4 0),(6,T.v (V.aj (some (mpid,0)))),(8,T.lp 8 0),(9,T.v (V.map (some mid))),(116,T.v (V.slice uq m.g.us.length uc)),(117,T.v (V.int .i64 (m.g.us.length:Int))),(118,T.v (V.int .i64 (IntKind.i64.wrap ((j:Int)+1))))])
     (ab [(4,sd),(8,sb (some (mpid,0)) (some pid) sq spq spn spc)]) H') Kr Ke:=by
   intro Rv c' H' e' hb' ct h';rw[aQ (by omega)];exact IQ hbz hzl hin Jy hk k (j+1) Rv c' (by omega) e' hb' ct h'
  have zh:∀(z:Rz),z∈zs→dS (mT bz) (tT (wR pz) (z.rs.map Rf.f)) (m.g.us.drop (j+1))=dS (mT bz) [] m.g.us→
   lo 59 44
    (St.mk (ab [(4,T.lp 4 0),(6,T.v (V.aj (some (mpid,0)))),(8,T.lp 8 0),(9,T.v (V.map (some mid))),(116,T.v (V.slice uq m.g.us.length uc)),(117,T.v (V.int .i64 (m.g.us.length:Int))),(118,T.v (V.int .i64 (j:Int))),
     (124,T.v (V.slice z.q z.rs.length z.c)),(125,T.v (V.int .i64 (z.rs.length:Int))),(126,T.v (V.int .i64 0))]) (ab [(4,sd),(8,sb (some (mpid,0)) (some pid) sq spq spn spc)]) H)
    (fun S'=>Kr (St.mk (ab []) (ab []) S'.3)) (fun j' S'=>br (decide (j'=8)) (ag (aI (KT.lp 4) (S'.1 4)&&(aI (KT.k .aj) (S'.1 6)&&(aI (KT.lp 8) (S'.1 8)&&(aI (KT.k .map) (S'.1 9)&&(aI (KT.k .slice) (S'.1 116)&&(aI (KT.k (.int .i64)) (S'.1 117)&&aI (KT.k (.int .i64)) (S'.1 118))))))&&(fg 113 mL (S'.2 4)&&fg 113 mL (S'.2 8)))
     (lo 59 39
      (St.mk (ab [(4,T.lp 4 0),(6,T.v (V.aj (V.an (T.val (S'.1 6))))),(8,T.lp 8 0),(9,T.v (V.map (V.cD (T.val (S'.1 9))))),(116,T.v (V.slice (V.ak (T.val (S'.1 116))) (V.ao (T.val (S'.1 116))) (V.aA (T.val (S'.1 116))))),(117,T.v (V.int .i64 (V.aa (T.val (S'.1 117))))),(118,T.v (V.int .i64 (IntKind.i64.wrap (V.aa (T.val (S'.1 118))+1))))])
       (ab [(4,bg.cells 113 (pn (aw (S'.2 4)))),(8,bg.cells 113 (pn (aw (S'.2 8))))]) S'.3) Kr Ke)) False):=by
   intro z hz Qj;refine wS (P0:=wR pz) hz (hzl z hz) (hin z hz) (fun Rv c' H' e' hb' ct h'=> ?_) z.rs.length 0 pz c (by omega) rfl hb hok h;simp only[AJ,reduceIte,Nat.reduceEqDiff,f112,vW,pq,pr,pt,pw,V.cD,mc,V.av];exact hnext Rv c' H' (by rw[e'];exact Qj) hb' ct h'
  cases hg:oB m.g.us[j] bz with
  |none=>
   rw[hg] at he;simp only[AJ,reduceIte,Nat.reduceEqDiff];rw[Cx,decide_eq_false (by omega),ai];simp only[AJ,reduceIte,Nat.reduceEqDiff,f112,vW,pq,pr,pt,pw,V.cD,mc,V.av];exact hnext pz c H he hb hok h
  |some z=>
   rw[hg] at he;obtain⟨b2,mj⟩:=tN hg;simp only[AJ,reduceIte,Nat.reduceEqDiff];exact zh z (hbz _ mj) he
end
abbrev Vw:=Nat→List Fd
def wF (v:Vw) (c:Nat→List UInt8) (x:Nat) (f:Fd):Prop:=
 f.s.ar=x∧f.s.data=c x∧∀b,∀y∈v b,y.s.ar=x→f.s.seq≤y.s.seq→y.s.data=c x
def mt (v:Vw) (f:Fd):Prop:=f.s.fr≠0∧∃o∈v (f.s.fr-1),GY o f=true
def lB (v:Vw) (b:Nat):Prop:=∃f∈v b,¬mt v f
theorem IS {o f:Fd}:GY o f=true↔o.s.cK=f.s.cK∧o.s.ar=f.s.ar∧o.s.seq<f.s.seq∧o.s.data=f.s.data:=by
 unfold GY;simp
structure Gd (v:Vw) (c:Nat→List UInt8):Prop where
 l6:∀b,∀f∈v b,f.b=b
 a2:∀x,(c x=[]∧∀b,∀f∈v b,f.s.ar≠x)∨∃b,∃f∈v b,wF v c x f
 a3:∀b,∀t∈v b,mt v t→∃u∈v (t.s.fr-1),u.s.ar=t.s.ar∧u.s.seq<t.s.seq∧u.s.data=t.s.data∧
  ∀b',∀y∈v b',y.s.ar=t.s.ar→u.s.seq≤y.s.seq→y.s.seq≤t.s.seq→y.s.data=t.s.data
 a4:∀b,∀f∈v b,f.s.fr≠b+1
 a6:∀b,∀f∈v b,∀h∈v b,f.s.fr≠0→h.s.fr≠0→f.s.fr=h.s.fr
 a7:∀b,∀t∈v b,mt v t→lB v (t.s.fr-1)
def gw (v:Vw) (b:Nat) (f:Fd):Vw:=fun i=>if i=b then v i++[f] else v i
def ki (v:Vw) (b:Nat):Vw:=fun i=>if i=b then [] else v i
theorem bE {v:Vw} {b i:Nat} {f y:Fd}:y∈gw v b f i↔y∈v i∨(i=b∧y=f):=by
 unfold gw;by_cases h:i=b
 ·simp [h]
 ·simp [h]
theorem cG {v:Vw} {b i:Nat} {y:Fd}:y∈ki v b i↔y∈v i∧i≠b:=by
 unfold ki;by_cases h:i=b
 ·simp [h]
 ·simp [h]
section
variable {v:Vw} {c:Nat→List UInt8} {b w x:Nat} {f u t:Fd}
theorem pL (hn:∀i,∀y∈v i,y.s.seq<f.s.seq) {i:Nat} (ht:t∈v i):mt (gw v b f) t↔mt v t:=by
 unfold mt;refine and_congr Iff.rfl ⟨fun⟨o,ho,hm⟩=> ?_,fun⟨o,ho,hm⟩=>⟨o,bE.2 (.inl ho),hm⟩⟩;rcases bE.1 ho with ho|⟨_,rfl⟩
 ·exact⟨o,ho,hm⟩
 ·have:=(IS.1 hm).2.2.1;have:=hn i t ht;omega
theorem lB.add (hn:∀i,∀y∈v i,y.s.seq<f.s.seq) (h:lB v w):lB (gw v b f) w:=by
 obtain⟨t,ht,hm⟩:=h;exact⟨t,bE.2 (.inl ht),fun h=>hm ((pL hn ht).1 h)⟩
theorem CQ (h:mt (ki v b) t):mt v t∧t.s.fr-1≠b:=by
 obtain⟨h0,o,ho,hm⟩:=h;exact⟨⟨h0,o,(cG.1 ho).1,hm⟩,(cG.1 ho).2⟩
theorem lB.DD (h:lB v w) (hw:w≠b):lB (ki v b) w:=by
 obtain⟨t,ht,hm⟩:=h;exact⟨t,cG.2 ⟨ht,hw⟩,fun h=>hm (CQ h).1⟩
theorem wF.DD (h:wF v c x f):wF (ki v b) c x f:=⟨h.1,h.2.1,fun b' y hy=>h.2.2 b' y (cG.1 hy).1⟩
def nU (c:Nat→List UInt8) (x:Nat) (d:List UInt8):Nat→List UInt8:=fun i=>if i=x then d else c i
theorem wF.put (h:wF v c x u) (hx:f.s.ar≠x):wF (gw v b f) (nU c f.s.ar f.s.data) x u:=by
 have e:nU c f.s.ar f.s.data x=c x:=if_neg (fun h=>hx h.symm);refine⟨h.1,by rw[e];exact h.2.1,fun b' y hy HG hs=> ?_⟩;rw[e];rcases bE.1 hy with hy|⟨_,rfl⟩
 ·exact h.2.2 b' y hy HG hs
 ·exact absurd HG hx
theorem wF.new (hn:∀i,∀y∈v i,y.s.seq<f.s.seq):wF (gw v b f) (nU c f.s.ar f.s.data) f.s.ar f:=by
 have e:nU c f.s.ar f.s.data f.s.ar=f.s.data:=if_pos rfl;refine⟨rfl,e.symm,fun b' y hy HG hs=> ?_⟩;rw[e];rcases bE.1 hy with hy|⟨_,rfl⟩
 ·have:=hn b' y hy;omega
 ·rfl
theorem wF.copy (h:wF v c x u) (hd:f.s.data=c f.s.ar):wF (gw v b f) c x u:=by
 refine⟨h.1,h.2.1,fun b' y hy HG hs=> ?_⟩;rcases bE.1 hy with hy|⟨_,rfl⟩
 ·exact h.2.2 b' y hy HG hs
 ·rw[←HG];exact hd
theorem Nh (hn:∀i,∀y∈v i,y.s.seq<f.s.seq) (h:Gd v c) {i:Nat} (ht:t∈v i) (hm:mt (gw v b f) t):∃u∈gw v b f (t.s.fr-1),u.s.ar=t.s.ar∧u.s.seq<t.s.seq∧u.s.data=t.s.data∧∀b',∀y∈gw v b f b',y.s.ar=t.s.ar→u.s.seq≤y.s.seq→y.s.seq≤t.s.seq→y.s.data=t.s.data:=by
 obtain⟨u,hu,h1,h2,h3,h4⟩:=h.a3 i t ht ((pL hn ht).1 hm);refine⟨u,bE.2 (.inl hu),h1,h2,h3,fun b' y hy HG hs1 oC=> ?_⟩;rcases bE.1 hy with hy|⟨_,rfl⟩
 ·exact h4 b' y hy HG hs1 oC
 ·have:=hn i t ht;omega
theorem Gd.put (h:Gd v c) (hn:∀i,∀y∈v i,y.s.seq<f.s.seq) (hb:f.b=b) (hf:f.s.fr=0):Gd (gw v b f) (nU c f.s.ar f.s.data) where
 l6:=fun i y hy=>by
  rcases bE.1 hy with hy|⟨rfl,rfl⟩
  ·exact h.l6 i y hy
  ·exact hb
 a2:=fun x=>by
  by_cases hx:f.s.ar=x
  ·subst hx;exact .inr ⟨b,f,bE.2 (.inr ⟨rfl,rfl⟩),wF.new hn⟩
  ·rcases h.a2 x with⟨h1,h2⟩|⟨i,u,hu,hc⟩
   ·refine .inl ⟨by show (if x=_ then _ else _)=_;rw[if_neg (fun h=>hx h.symm)];exact h1,fun i y hy=> ?_⟩;rcases bE.1 hy with hy|⟨rfl,rfl⟩
    ·exact h2 i y hy
    ·exact hx
   ·exact .inr ⟨i,u,bE.2 (.inl hu),hc.put hx⟩
 a3:=fun i t ht hm=>by
  rcases bE.1 ht with ht|⟨rfl,rfl⟩
  ·exact Nh hn h ht hm
  ·exact absurd hf hm.1
 a4:=fun i y hy=>by
  rcases bE.1 hy with hy|⟨rfl,rfl⟩
  ·exact h.a4 i y hy
  ·omega
 a6:=fun i y hy z hz h1 h2=>by
  rcases bE.1 hy with hy|⟨rfl,rfl⟩
  ·rcases bE.1 hz with hz|⟨rfl,rfl⟩
   ·exact h.a6 i y hy z hz h1 h2
   ·exact absurd hf h2
  ·exact absurd hf h1
 a7:=fun i t ht hm=>by
  rcases bE.1 ht with ht|⟨rfl,rfl⟩
  ·exact(h.a7 i t ht ((pL hn ht).1 hm)).add hn
  ·exact absurd hf hm.1
theorem Pu (hw:w≠b) (hu:u∈v w) (hf:f.s.fr=w+1) (hk:u.s.cK=f.s.cK) (ha:u.s.ar=f.s.ar) (hd:u.s.data=f.s.data) (hn:∀i,∀y∈v i,y.s.seq<f.s.seq):mt (gw v b f) f:=
 ⟨by omega,u,by rw[hf];exact bE.2 (.inl hu),IS.2 ⟨hk,ha,hn w u hu,hd⟩⟩
theorem Gd.copy (h:Gd v c) (hn:∀i,∀y∈v i,y.s.seq<f.s.seq) (hb:f.b=b) (hw:w≠b) (hu:u∈v w) (hc:wF v c f.s.ar u) (hf:f.s.fr=w+1) (hd:u.s.data=f.s.data) (hall:∀y∈v b,y.s.fr=w+1) (hs:lB v w):Gd (gw v b f) c where
 l6:=fun i y hy=>by
  rcases bE.1 hy with hy|⟨rfl,rfl⟩
  ·exact h.l6 i y hy
  ·exact hb
 a2:=fun x=>by
  have hdc:f.s.data=c f.s.ar:=by rw[←hd];exact hc.2.1
  rcases h.a2 x with⟨h1,h2⟩|⟨i,u',Yd,qJ⟩
  ·refine .inl ⟨h1,fun i y hy=> ?_⟩;rcases bE.1 hy with hy|⟨rfl,rfl⟩
   ·exact h2 i y hy
   ·intro e;exact h2 w u hu (by rw[←e];exact hc.1)
  ·exact .inr ⟨i,u',bE.2 (.inl Yd),qJ.copy hdc⟩
 a3:=fun i t ht hm=>by
  rcases bE.1 ht with ht|⟨rfl,rfl⟩
  ·exact Nh hn h ht hm
  ·refine⟨u,by rw[hf];exact bE.2 (.inl hu),hc.1,hn w u hu,hd,fun b' y hy HG hs1 oC=> ?_⟩;rcases bE.1 hy with hy|⟨_,rfl⟩
   ·rw[←hd,hc.2.1];exact hc.2.2 b' y hy HG hs1
   ·rfl
 a4:=fun i y hy=>by
  rcases bE.1 hy with hy|⟨rfl,rfl⟩
  ·exact h.a4 i y hy
  ·omega
 a6:=fun i y hy z hz h1 h2=>by
  rcases bE.1 hy with hy'|⟨rfl,rfl⟩
  ·rcases bE.1 hz with Jv|⟨rfl,rfl⟩
   ·exact h.a6 i y hy' z Jv h1 h2
   ·rw[hf];exact hall y hy'
  ·rcases bE.1 hz with hz|⟨_,rfl⟩
   ·rw[hf];exact(hall z hz).symm
   ·rfl
 a7:=fun i t ht hm=>by
  rcases bE.1 ht with ht|⟨rfl,rfl⟩
  ·exact(h.a7 i t ht ((pL hn ht).1 hm)).add hn
  ·rw[hf];exact hs.add hn
theorem Gd.DD (h:Gd v c) (hc:∀x,(∀i,∀f∈v i,f.s.ar≠x)∨∃i,i≠b∧∃f∈v i,wF v c x f):Gd (ki v b) c where
 l6:=fun i y hy=>h.l6 i y (cG.1 hy).1
 a2:=fun x=>by
  rcases hc x with h1|⟨i,hi,f,hf,T2⟩
  ·refine .inl ⟨?_,fun i y hy=>h1 i y (cG.1 hy).1⟩;rcases h.a2 x with⟨h2,_⟩|⟨i,f,hf,T2⟩
   ·exact h2
   ·exact absurd T2.1 (h1 i f hf)
  ·exact .inr ⟨i,f,cG.2 ⟨hf,hi⟩,T2.DD⟩
 a3:=fun i t ht hm=>by
  obtain⟨Rl,hm2⟩:=CQ hm;obtain⟨u,hu,h1,h2,h3,h4⟩:=h.a3 i t (cG.1 ht).1 Rl;exact⟨u,cG.2 ⟨hu,hm2⟩,h1,h2,h3,fun b' y hy=>h4 b' y (cG.1 hy).1⟩
 a4:=fun i y hy=>h.a4 i y (cG.1 hy).1
 a6:=fun i y hy z hz=>h.a6 i y (cG.1 hy).1 z (cG.1 hz).1
 a7:=fun i t ht hm=>by
  obtain⟨Rl,hm2⟩:=CQ hm;exact(h.a7 i t (cG.1 ht).1 Rl).DD hm2
end
def iL (N nb:Nat) (pz:List (Rf×Nat)) (seen:List Nat):Pm:=
 ⟨(List.range N).map fun a=>match lF a pz with|some x=>if x.2∈seen then some (x.1.f.b,x.1.f.p) else none|none=>none,nb⟩
def pM (g:bZ) (pg:List Fd):Pm:=⟨(List.range (g.cap+1).toNat).map fun a=>(jn a pg).map fun f=>(f.b,f.p),g.aF.toNat⟩
def Ar.Pv (a:Ar) (g:bZ):List (Nat×List Fd):=g.us.map fun i=>(i,a.fd g i)
def Ar.z5 (a:Ar) (g:bZ):List Fd:=dS (zE g.us (a.Pv g)).1 [] g.us
def Ar.Kj (a:Ar) (g:bZ):Nat:=mV 0 (g.us.flatMap (a.fd g))
theorem Pw {pz:List (Rf×Nat)} (uy:(pz.map fun x=>x.1.f.s.ar).Nodup) {x:Rf×Nat} (hx:x∈pz):lF x.1.f.s.ar pz=some x:=by
 induction pz with
 |nil=>cases hx
 |cons y l ih=>
  rw[List.map_cons,List.nodup_cons] at uy;rw[lF];rcases List.mem_cons.1 hx with rfl|hx
  ·rw[if_pos rfl]
  ·rw[if_neg (fun e=>uy.1 (List.mem_map.2 ⟨x,hx,e.symm⟩))];exact ih uy.2 hx
theorem vk (a:Nat):∀pz:List (Rf×Nat),jn a (wR pz)=(lF a pz).map fun x=>x.1.f
 |[]=>rfl
 |x::l=>by
  show (if x.1.f.s.ar=a then some x.1.f else jn a (wR l))=_
  rw[lF,vk a l];split<;>rfl
theorem G5 {N nb c:Nat} {pz:List (Rf×Nat)} {seen:List Nat} {x:Rf×Nat} (uy:(pz.map fun x=>x.1.f.s.ar).Nodup) (hb:wC (lg pz) c) (hx:x∈pz) (hN:x.1.f.s.ar<N):(iL N nb pz seen).put x.1.f.s.ar (some (x.1.f.b,x.1.f.p))=iL N nb pz (seen++[x.2]):=by
 unfold Pm.put iL;congr 1;apply List.ext_getElem
 ·simp
 ·intro i h1 h2;rw[List.getElem_set];simp only[List.length_set,List.length_map,List.length_range] at h1;by_cases hi:x.1.f.s.ar=i
  ·rw[if_pos hi];simp only[List.getElem_map,List.getElem_range, ←hi,Pw uy hx];rw[if_pos (by simp)]
  ·rw[if_neg hi];simp only[List.getElem_map,List.getElem_range]
   cases hg:lF i pz with
   |none=>rfl
   |some y=>
    obtain⟨hy1,Rh⟩:=mW hg
    have hne:¬y.2=x.2:=by
     intro e;have hp:=(CL.1 hb).1;have hm:(lg pz).map En.b=pz.map Prod.snd:=by simp [lg]
     rw[hm] at hp;have hpn:(pz.map Prod.snd).Nodup:=hp.imp (fun h=>Nat.ne_of_lt h)
     have:y=x:=by
      obtain⟨t,ht,rfl⟩:=List.mem_iff_getElem.1 hy1;obtain⟨u,hu,rfl⟩:=List.mem_iff_getElem.1 hx;by_cases htu:t=u
      ·subst htu;rfl
      ·exfalso;rcases Nat.lt_or_gt_of_ne htu with h|h
       ·exact List.pairwise_iff_getElem.1 hpn t u (by simpa using ht) (by simpa using hu) h (by simpa using e)
       ·exact List.pairwise_iff_getElem.1 hpn u t (by simpa using hu) (by simpa using ht) h (by simpa using e.symm)
     rw[this] at Rh;exact hi Rh
    simp only[List.mem_append,List.mem_singleton,hne,or_false]
theorem CR {i:Nat} {cap:Int} {f:Fd}:∀{l:List (List UInt8)} {p:Nat},f∈ic i cap l p→f.b=i∧p≤f.p∧f.p<p+l.length∧(f.s.ar:Int)≤cap
 |d::l,p,h=>by
  rw[ic] at h
  have ih:f∈ic i cap l (p+1)→f.b=i∧p≤f.p∧f.p<p+(d::l).length∧(f.s.ar:Int)≤cap:=fun h=>by
   obtain⟨h1,h2,h3,h4⟩:=CR h;exact⟨h1,by omega,by rw[List.length_cons];omega,h4⟩
  split at h
  ·exact ih h
  ·split at h
   ·rename_i s hs hc;rcases List.mem_cons.1 h with rfl|h
    ·exact⟨rfl,Nat.le_refl _,by show p<p+(l.length+1);omega,hc.2⟩
    ·exact ih h
   ·exact ih h
theorem XL {a:Ar} {g:bZ} (hr:a.rd g) (sB:a.aB≤32) {i:Nat} (hi:i<a.bs.length) {f:Fd} (hf:f∈a.fd g i):Ki g f:=by
 unfold Ar.fd Bk.ew at hf;rw[List.getD_eq_getElem?_getD,List.getElem?_eq_getElem hi] at hf;simp only[Option.getD_some] at hf;split at hf
 ·cases hf
 ·obtain⟨h1,h2,h3,h4⟩:=CR hf;have hl:=hr.len _ (List.getElem_mem hi);have hn:=hr.n;exact⟨h4,by omega,by omega⟩
section
variable {B:af} {L:List cq} {H:af} {K:V→af→Prop} {aH mid pid mpid:Nat} {a:Ar} {m:Gm}
theorem Kk {g:bZ} {pz:List (Rf×Nat)} (hok:z8 g pz) {N nb:Nat} (hN:N≤65536) (hnb:nb≤64) (hb:g.aF≤(nb:Int)) (seen:List Nat):(iL N nb pz seen).ok:=by
 refine⟨fun b p hm=> ?_,by simp [iL];exact hN,hnb⟩;obtain⟨x,hx,he⟩:=List.mem_map.1 hm;split at he
 ·rename_i y hy;obtain⟨hy1,_⟩:=mW hy;have:=hok.b _ hy1;split at he
  ·cases he;exact⟨by show _<nb;omega,this.2.2⟩
  ·cases he
 ·cases he
theorem IT {pz:List (Rf×Nat)} {c N nb it:Nat} (hok:z8 m.g pz) (hb:wC (lg pz) c) (hN:N≤65536) (hcN:m.g.cap<(N:Int)) (hnb:nb≤64) (YE:m.g.aF≤(nb:Int)) {sq:Nat} {spq:Oq} {spn spc:Nat} {Kr:Am.St→Prop} {Ke:Nat→Am.St→Prop} (hk:∀H' seen,(∀e∈lg pz,e.b∈seen)→az B H' (ob it (.dA (some pid) c seen c)::iu pid (lg pz) c::tQ mpid (iL N nb pz seen)::L)→Ke 10 (St.mk (ab [(4,T.lp 4 0),(8,T.lp 8 0)]) (ab [(4,sd),(8,sb (some (mpid,0)) (some pid) sq spq spn spc)]) H')):∀(k:Nat) (seen:List Nat) {H:af},(lg pz).countP (fun y=>decide (y.b∉seen))≤k→az B H (ob it (.dA (some pid) c seen c)::iu pid (lg pz) c::tQ mpid (iL N nb pz seen)::L)→lo 59 55 (St.mk (ab [(4,T.lp 4 0),(6,T.v (V.aj (some (mpid,0)))),(8,T.lp 8 0),(160,T.v (V.dA 111 it))]) (ab [(4,sd),(8,sb (some (mpid,0)) (some pid) sq spq spn spc)]) H) Kr Ke
 |k,seen,H,hle,h=>by
  rw[Pd];refine h.M3 hb (fun hall=>hk H seen hall h) (fun e he hn H' h' abq hkey hval=> ?_);obtain⟨x,hx,rfl⟩:=List.mem_map.1 he;have UY:=hok.b x hx;have oC:=nT (fun _=>true) hn hb.lt he;simp only[Bool.and_true,if_true] at oC
  have hneg:∀s:List Nat,(lg pz).countP (fun y=>decide (y.b∈s))+(lg pz).countP (fun y=>decide (y.b∉s))=(lg pz).length:=by
   intro s;have:=List.length_eq_countP_add_countP (fun y:En=>decide (y.b∈s)) (l:=lg pz);rw[this];congr 1;apply List.countP_congr;intro y _;simp
  have n1:=hneg seen;have n2:=hneg (seen++[x.2]);have hfit:aJ oz x.1.cs=true:=rfl;have zz:O9 x.1.cs=iR (x.1.f.b:Int) (x.1.f.p:Int):=rfl;simp only at hkey hval;simp only[abq,hkey,hval,AJ,reduceIte,Nat.reduceEqDiff,hfit,zz]
  cases k with
  |zero=>omega
  |succ k=>
   have hlen:(iL N nb pz seen).cw.length=N:=by simp [iL]
   have Rx:x.1.f.s.ar<N:=by omega
   refine IL (h'.ord [2]) (Kk hok hN hnb YE seen) (by rw[hlen];exact Rx) (by show x.1.f.b<nb;omega) UY.2.2 (fun H2 h2=> ?_);simp only[AJ,reduceIte,Nat.reduceEqDiff];rw[G5 hok.nd hb hx Rx] at h2;exact IT hok hb hN hcN hnb YE hk k (seen++[x.2]) (by omega) (h2.ord [1,1])
theorem Ni (h:az B H (df aH a::L)) (hm:dF B L m) (hf:m.g.cM=true) (hg:m.g.In) (hr:a.rd m.g) (qE:∀i∈m.g.us,i<a.bs.length) (uy:m.g.us.Nodup) (hc:0≤m.g.cap∧m.g.cap<65000) (k:∀mpid pid zs pz c q sc H',wR pz=a.z5 m.g→wC (lg pz) c→z8 m.g pz→az B H' (tQ mpid (pM m.g (a.z5 m.g))::iu pid (lg pz) c::bj (List.map Rz.bW zs)::IR q sc (db (zE m.g.us (a.Pv m.g)).2)::df aH a::L)→K (.tuple [.agg (cJ (some (mpid,0)) (some pid) (a.Kj m.g:Int) q (zE m.g.us (a.Pv m.g)).2.length sc),.int .i64 0]) H'):cl 59 [.aj (some (aH,0)),m.v] H K:=by
 have sB:a.aB≤32:=by rw[hr.p];exact hg.p.2
 have Ag:=hg.b;have Jy:=bZ.k6 m.g hg.b.2;have hv:m.v=.agg (ee m.g.aF m.g.aB m.g.aG m.q m.g.bP.length m.c):=rfl;rw[hv,aal, ←hv];simp only[Option.isNone_some,ai,dD];refine Ix h (hm.bO _) hg.l (fun H1 h1=> ?_);simp only[hf,AJ,reduceIte,Nat.reduceEqDiff];rw[AO h1];simp only[AJ,reduceIte,Nat.reduceEqDiff,hr.n];rw[EJ h1];simp only[AJ,reduceIte,Nat.reduceEqDiff,hr.p];refine tF h1 (hm.bO _) hg (fun H2 h2=> ?_);simp only[AJ,reduceIte,Nat.reduceEqDiff];obtain⟨N,hN⟩:∃N:Nat,N=(m.g.cap+1).toNat:=⟨_,rfl⟩;obtain⟨nb,hnb⟩:∃nb:Nat,nb=m.g.aF.toNat:=⟨_,rfl⟩;have eN:IntKind.i64.wrap (m.g.cap+1)=(N:Int):=by rw[bD (by omega) (by omega)];omega
 have enb:m.g.aF=(nb:Int):=by omega
 have hform:4≤m.g.aF:=by
  have:=hf;unfold bZ.cM at this;rw[Bool.and_eq_true] at this;exact(of_decide_eq_true this.1:m.g.yA).1
 have hMN:=Pt (K:= ?_) h2 (n:=N) (nb:=nb) (by omega) (by omega) ?_
 ·rw[eN];simp only[enb] at hMN⊢;exact hMN
 intro mpid H3 h3;simp only[AJ,reduceIte,Nat.reduceEqDiff];have h4:=(h3.MY).MY;obtain⟨pid,Qs⟩:∃p,p=H3.next:=⟨_,rfl⟩;obtain⟨mid,hmid⟩:∃p,p=(H3.alloc (.map [] 0)).next:=⟨_,rfl⟩;have YF:(H3.alloc (.map [] 0)).2=mid:=hmid.symm;have YG:H3.2=pid:=Qs.symm;rw[←hmid, ←Qs] at h4;rw[YF,YG];generalize (af.alloc (af.alloc H3 _) _)=H4 at h4⊢;simp only[←enb];have YA:∀(A1 A2 A3 A4:cq),dF B (A1::A2::A3::A4::L) m:=fun A1 A2 A3 A4=>(((hm.bO _).bO _).bO _).bO _
 refine jm h4 (YA _ _ _ _) hg (fun uq uc H5 h5=> ?_);simp only[AJ,reduceIte,Nat.reduceEqDiff];have hby:∀bz:List (Rz×Nat),mT bz=(m.g.us.map fun i=>(i,a.fd m.g i))→mT bz=a.Pv m.g:=fun _ h=>h
 have h6:az B H5 (df aH a::iu mid (pJ []) 0::bj ((([]:List (Rz×Nat)).map Prod.fst).map Rz.bW)::IR uq uc (db m.g.us)::iu pid (lg []) 0::tQ mpid (Pm.new N nb)::L):=(h5.pB).ord [5,2,0,0,0];have hmA:dF B (iu pid (lg []) 0::tQ mpid (Pm.new N nb)::L) m:=(hm.bO _).bO _;refine IP (mpid:=mpid) (pid:=pid) (mid:=mid) hmA hf hg hr sB qE uy (fun bz bc H6 hbz hb hl h7=> ?_) m.g.us.length 0 [] 0 (by omega) rfl (wC.nil _) (by simp) h6;simp only[AJ,reduceIte,Nat.reduceEqDiff,f25,uV,mH,mI,mJ,mK,f112,vW,pq,pr,pt,pw,V.cD,mc,V.av];rw[show (mV 0 (m.g.us.flatMap (a.fd m.g)))=a.Kj m.g from rfl]
 have YH:∀z∈bz.map Prod.fst,∀r∈z.rs,Ki m.g r.f:=by
  intro z hz r hr';obtain⟨x,hx,rfl⟩:=List.mem_map.1 hz;have:(x.1.i,x.1.rs.map Rf.f)∈mT bz:=List.mem_map.2 ⟨x,hx,rfl⟩;rw[hbz] at this;obtain⟨i,hi,he⟩:=List.mem_map.1 this;have Qj:=congrArg Prod.snd he;simp only at Qj;exact XL hr sB (qE i hi) (by rw[Qj];exact List.mem_map.2 ⟨r,hr',rfl⟩)
 have hzl:∀z∈bz.map Prod.fst,z.rs.length≤1000000:=by
  intro z hz;obtain⟨x,hx,rfl⟩:=List.mem_map.1 hz;have:=hl x hx;omega
 have YI:∀x∈bz,x.1∈bz.map Prod.fst:=fun x hx=>List.mem_map.2 ⟨x,hx,rfl⟩
 obtain⟨zs,hzs⟩:∃zs,zs=bz.map Prod.fst:=⟨_,rfl⟩;rw[←hzs] at h7 YH hzl YI;refine jm h7 (((((((hm.bO _).bO _).bO _).bO _).bO _).bO _)) hg (fun uq2 uc2 H8 h8=> ?_);simp only[AJ,reduceIte,Nat.reduceEqDiff];have h9:az B H8 (iu mid (pJ bz) bc::bj (zs.map Rz.bW)::IR none 0 (db [])::IR uq2 uc2 (db m.g.us)::df aH a::iu pid (lg []) 0::tQ mpid (Pm.new N nb)::L):=(((az.vY h8).ord [5]).drop).ord [3,3];refine CP (mpid:=mpid) (pid:=pid) hzl Jy m.g.us.length 0 bz bc [] (by omega) (by simp) hb YI (fun bz2 bc2 spq spc H10 Ul mj YJ xf=> ?_) h9;rw[List.drop_zero] at Ul xf⊢;rw[List.nil_append] at xf⊢;rw[hby bz hbz] at Ul xf⊢;simp only[AJ,reduceIte,Nat.reduceEqDiff,f25,uV,mH,mI,mJ,mK,f112,vW,pq,pr,pt,pw,V.cD,mc,V.av];refine jm xf ((((((((hm.bO _).bO _).bO _).bO _).bO _).bO _).bO _)) hg (fun uq3 uc3 H11 BD=> ?_);simp only[AJ,reduceIte,Nat.reduceEqDiff];have h12:az B H11 (iu pid (lg []) 0::bj (zs.map Rz.bW)::iu mid (pJ bz2) bc2::IR uq3 uc3 (db m.g.us)::IR spq spc (db (zE m.g.us (a.Pv m.g)).2)::df aH a::tQ mpid (Pm.new N nb)::L):=((BD.ord [4]).drop).ord [5,2,1];refine IQ (mpid:=mpid) (pid:=pid) (m:=m) YJ hzl YH Jy (fun pz pc H13 Ga Zz DA OB=> ?_) m.g.us.length 0 [] 0 (by omega) rfl (wC.nil _) ⟨by simp,by simp⟩ h12;have YK:wR pz=a.z5 m.g:=by rw[Ga,Ul];rfl
 have ZA:=QQ OB;simp only[AJ,reduceIte,Nat.reduceEqDiff,f25,uV,mH,mI,mJ,mK,f112,vW,pq,pr,pt,pw,V.cD,mc,V.av,Option.isNone_some,ZA];have Um:=OB.M4;obtain⟨it,hit⟩:∃it,it=H13.next:=⟨_,rfl⟩;have abr:H13.2=it:=hit.symm;rw[←hit] at Um;rw[abr];generalize (af.alloc H13 _)=H14 at Um⊢
 have e0:Pm.new N nb=iL N nb pz []:=by
  unfold Pm.new iL;congr 1;apply List.ext_getElem
  ·simp
  ·intro i h1 h2;simp only[List.getElem_replicate,List.getElem_map];split<;>rfl
 rw[e0] at Um;have h15:az B H14 (ob it (.dA (some pid) pc [] pc)::iu pid (lg pz) pc::tQ mpid (iL N nb pz [])::bj (zs.map Rz.bW)::IR spq spc (db (zE m.g.us (a.Pv m.g)).2)::df aH a::L):=((Um.ord [3,3]).drop.drop).ord [0,0,3];refine IT (m:=m) (mpid:=mpid) (pid:=pid) DA Zz (N:=N) (nb:=nb) (by omega) (by omega) (by omega) (by omega) (fun H16 seen hall YL=> ?_) _ [] (Nat.le_refl _) h15;simp only[AJ,reduceIte,Nat.reduceEqDiff,f25,uV,mH,mI,mJ,mK,f112,vW,pq,pr,pt,pw]
 have efin:iL N nb pz seen=pM m.g (a.z5 m.g):=by
  unfold iL pM;rw[hN,hnb];congr 1;apply List.map_congr_left;intro i hi;rw[←YK,vk]
  cases HC:lF i pz with
  |none=>rfl
  |some y=>
   have:=hall _ (List.mem_map.2 ⟨y,(mW HC).1,rfl⟩);simp only at this;simp only[this,if_true];rfl
 rw[efin] at YL;exact k mpid pid zs pz pc spq spc H16 YK Zz DA (YL.drop.ord [1])
end
def ff (v:Vw) (i:Nat):Prop:=v i≠[]∧∀f∈v i,mt v f
theorem qq {v:Vw} {i:Nat} (h:lB v i):¬ff v i:=fun⟨_,h2⟩=>by
 obtain⟨f,hf,hm⟩:=h;exact hm (h2 f hf)
theorem AY {v:Vw} {i:Nat} (h:¬ff v i) (hne:v i≠[]):lB v i:=
 Classical.byContradiction fun hn=>h ⟨hne,fun f hf=>Classical.byContradiction fun hm=>hn ⟨f,hf,hm⟩⟩
theorem AZ {i:Nat} (j:Nat):∀{l:List (Nat×List Fd)},(l.map Prod.fst).Nodup→gT j (wE i l)=if j=i then [] else gT j l
 |[],_=>by simp [wE,gT]
 |x::l,h=>by
  rw[List.map_cons,List.nodup_cons] at h;rw[wE];by_cases hx:x.1=i
  ·rw[if_pos hx];by_cases hj:j=i
   ·rw[if_pos hj,hj, ←hx]
    have:∀(l:List (Nat×List Fd)),x.1∉l.map Prod.fst→gT x.1 l=[]:=by
     intro l
     induction l with
     |nil=>intro;rfl
     |cons y l ih=>
      intro hn;rw[List.map_cons,List.mem_cons] at hn;rw[gT,if_neg (fun e=>hn (.inl e.symm))];exact ih (fun h=>hn (.inr h))
    exact this l h.1
   ·rw[if_neg hj,gT,if_neg (by omega)]
  ·rw[if_neg hx];by_cases hxj:x.1=j
   ·subst hxj;rw[gT,if_pos rfl,if_neg hx,gT,if_pos rfl]
   ·rw[gT,if_neg hxj,AZ j h.2,gT,if_neg hxj]
theorem Kl {i:Nat}:∀{l:List (Nat×List Fd)},(l.map Prod.fst).Nodup→((wE i l).map Prod.fst).Nodup
 |[],h=>h
 |x::l,h=>by
  have hsub:∀l:List (Nat×List Fd),(wE i l).Sublist l:=by
   intro l
   induction l with
   |nil=>exact .slnil
   |cons y l ih=>
    rw[wE];split
    ·exact List.sublist_cons_self _ _
    ·exact ih.cons_cons _
  exact h.sublist ((hsub (x::l)).map _)
theorem E1 (f:Nat→List Fd) (i:Nat):∀us:List Nat,gT i (us.map fun i=>(i,f i))=if i∈us then f i else []
 |[]=>rfl
 |j::us=>by
  rw[List.map_cons,gT,E1 f i us];by_cases h:j=i
  ·subst h;simp
  ·have:¬i=j:=fun e=>h e.symm
   simp [h,this]
section
variable {v:Vw} {c:Nat→List UInt8}
theorem G6 (h:Gd v c) {cE:List (Nat×List Fd)} (hb:∀i,gT i cE=v i∨gT i cE=[]∧ff v i) {i:Nat} (hi:gT i cE=v i):kh cE i=true↔ff v i:=by
 have hl:∀(t:Fd) (o:Fd),o∈GZ cE t.s.fr→t.s.fr≠0∧o∈v (t.s.fr-1):=fun t o ho=>by
  unfold GZ at ho;split at ho
  ·cases ho
  ·rename_i hf;refine⟨hf, ?_⟩;rcases hb (t.s.fr-1) with e|⟨e,_⟩
   ·rw[e] at ho;exact ho
   ·rw[e] at ho;cases ho
 unfold kh;rw[hi]
 cases hv:v i with
 |nil=>exact⟨fun h=>(by cases h),fun h=>absurd hv h.1⟩
 |cons f l=>
  constructor
  ·intro hall;refine⟨by rw[hv];simp,fun t ht=> ?_⟩;rw[hv] at ht;have:=List.all_eq_true.1 hall t ht;unfold r8 at this;simp only[Bool.and_eq_true,decide_eq_true_eq,List.any_eq_true] at this;obtain⟨h0,h1,o,ho,hm⟩:=this;rw[←h1] at ho;obtain⟨h2,h3⟩:=hl t o ho;exact⟨h2,o,h3,hm⟩
  ·intro hs;refine List.all_eq_true.2 fun t ht=> ?_
   have hf:f∈v i:=by rw[hv];exact List.mem_cons_self
   have ht':t∈v i:=by rw[hv];exact ht
   obtain⟨Ry,_⟩:=hs.2 f hf;obtain⟨Zn,o,ho,hm⟩:=hs.2 t ht';have he:=h.a6 i t ht' f hf Zn Ry;have hn:=h.a7 i t ht' ⟨Zn,o,ho,hm⟩
   have hg:gT (t.s.fr-1) cE=v (t.s.fr-1):=by
    rcases hb (t.s.fr-1) with e|⟨_,e⟩
    ·exact e
    ·exact absurd e (qq hn)
   unfold r8;simp only[Bool.and_eq_true,decide_eq_true_eq,List.any_eq_true];refine⟨Ry,he,o, ?_,hm⟩;unfold GZ;rw[if_neg Ry, ←he,hg];exact ho
open Classical in
theorem yJ (h:Gd v c):∀(us:List Nat) (cE:List (Nat×List Fd)),us.Nodup→(cE.map Prod.fst).Nodup→(∀i,gT i cE=v i∨gT i cE=[]∧ff v i)→(∀i∈us,gT i cE=v i)→
 ∀i,gT i (zE us cE).1=if i∈us∧ff v i then [] else gT i cE
 |[],cE,_,_,_,_,i=>by simp [zE]
 |j::us,cE,uy,hk,hb,hu,i=>by
  rw[List.nodup_cons] at uy;have hj:=hu j List.mem_cons_self;have hc:=G6 h hb hj;rw[zE];by_cases hs:ff v j
  ·rw[if_pos (hc.2 hs)];have hd:=fun i=>AZ (i:=j) i hk
   rw[yJ h us (wE j cE) uy.2 (Kl hk) (fun i=> ?_) (fun i hi=> ?_) i,hd i]
   ·by_cases hij:i=j
    ·subst hij;simp [hs]
    ·simp [hij]
   ·rw[hd i];by_cases hij:i=j
    ·subst hij;exact .inr ⟨if_pos rfl,hs⟩
    ·rw[if_neg hij];exact hb i
   ·rw[hd i,if_neg (fun e=>uy.1 (by rw[←e];exact hi))];exact hu i (List.mem_cons_of_mem _ hi)
  ·rw[if_neg (fun e=>hs (hc.1 e)),yJ h us cE uy.2 hk hb (fun i hi=>hu i (List.mem_cons_of_mem _ hi)) i];by_cases hij:i=j
   ·subst hij;simp [hs]
   ·simp [hij]
def Nw (pg S:List Fd) (x:Nat):Prop:=
 (jn x pg=none∧∀y∈S,y.s.ar≠x)∨∃f,jn x pg=some f∧f∈S∧f.s.ar=x∧∀y∈S,y.s.ar=x→y.s.seq≤f.s.seq
theorem E2 (x:Nat) (f:Fd):∀pg:List Fd,jn x (re f pg)=if f.s.ar=x then (match jn x pg with|none=>some f|some o=>if o.s.seq<f.s.seq then some f else some o) else jn x pg
 |[]=>by simp [re,jn]
 |o::l=>by
  rw[re];by_cases ho:o.s.ar=f.s.ar
  ·rw[if_pos ho];by_cases hs:o.s.seq<f.s.seq
   ·rw[if_pos hs,jn,jn];by_cases hx:f.s.ar=x
    ·simp [hx,ho.trans hx,hs]
    ·have:¬o.s.ar=x:=fun e=>hx (ho.symm.trans e)
     simp [hx,this]
   ·rw[if_neg hs,jn];by_cases hx:f.s.ar=x
    ·simp [hx,ho.trans hx,hs]
    ·simp [hx]
  ·rw[if_neg ho,jn,E2 x f l,jn];by_cases hx:f.s.ar=x
   ·have:¬o.s.ar=x:=fun e=>ho (e.trans hx.symm)
    simp [hx,this]
   ·simp [hx]
theorem Nw.Zj {pg S:List Fd} {x:Nat} (h:Nw pg S x) (f:Fd):Nw (re f pg) (S++[f]) x:=by
 unfold Nw;rw[E2];by_cases hx:f.s.ar=x
 ·rw[if_pos hx];right;rcases h with⟨h1,h2⟩|⟨g,h1,h2,h3,h4⟩
  ·rw[h1];refine⟨f,rfl,by simp,hx,fun y hy ha=> ?_⟩;rcases List.mem_append.1 hy with hy|hy
   ·exact absurd ha (h2 y hy)
   ·rw[List.mem_singleton] at hy;rw[hy];exact Nat.le_refl _
  ·rw[h1];by_cases hs:g.s.seq<f.s.seq
   ·refine⟨f,if_pos hs,by simp,hx,fun y hy ha=> ?_⟩;rcases List.mem_append.1 hy with hy|hy
    ·have:=h4 y hy ha;omega
    ·rw[List.mem_singleton] at hy;rw[hy];exact Nat.le_refl _
   ·refine⟨g,if_neg hs,List.mem_append.2 (.inl h2),h3,fun y hy ha=> ?_⟩;rcases List.mem_append.1 hy with hy|hy
    ·exact h4 y hy ha
    ·rw[List.mem_singleton] at hy;rw[hy];omega
 ·rw[if_neg hx];rcases h with⟨h1,h2⟩|⟨g,h1,h2,h3,h4⟩
  ·refine .inl ⟨h1,fun y hy=> ?_⟩;rcases List.mem_append.1 hy with hy|hy
   ·exact h2 y hy
   ·rw[List.mem_singleton] at hy;rw[hy];exact hx
  ·refine .inr ⟨g,h1,List.mem_append.2 (.inl h2),h3,fun y hy ha=> ?_⟩;rcases List.mem_append.1 hy with hy|hy
   ·exact h4 y hy ha
   ·rw[List.mem_singleton] at hy;rw[hy] at ha;exact absurd ha hx
theorem Nw.all {x:Nat}:∀(l:List Fd) {pg S:List Fd},Nw pg S x→Nw (tT pg l) (S++l) x
 |[],pg,S,h=>by simpa [tT] using h
 |f::l,pg,S,h=>by
  have:=Nw.all l (h.Zj f);rw[List.append_assoc] at this;exact this
theorem Nw.aF {x:Nat} {cE:List (Nat×List Fd)}:∀(us:List Nat) {pg S:List Fd},Nw pg S x→Nw (dS cE pg us) (S++us.flatMap fun i=>gT i cE) x
 |[],pg,S,h=>by simpa [dS] using h
 |i::us,pg,S,h=>by
  have:=Nw.aF (cE:=cE) us (h.all (gT i cE));rw[List.append_assoc] at this;exact this
theorem Px (h:Gd v c) {us:List Nat} (uy:us.Nodup) (hout:∀i,i∉us→v i=[]) (x:Nat):(jn x (dS (zE us (us.map fun i=>(i,v i))).1 [] us)=none∧∀b,∀f∈v b,f.s.ar≠x)∨∃f,jn x (dS (zE us (us.map fun i=>(i,v i))).1 [] us)=some f∧f∈v f.b∧¬ff v f.b∧wF v c x f:=by
 have hk:((us.map fun i=>(i,v i)).map Prod.fst).Nodup:=by
  rw[List.map_map];have:us.map (Prod.fst ∘ fun i=>(i,v i))=us:=List.map_id _;rw[this];exact uy
 have hg:∀i,gT i (us.map fun i=>(i,v i))=v i:=fun i=>by
  rw[E1 v i us];split
  ·rfl
  ·rename_i hi;exact(hout i hi).symm
 have hsp:=yJ h us _ uy hk (fun i=>.inl (hg i)) (fun i _=>hg i);obtain⟨cE,hby⟩:∃cE,cE=(zE us (us.map fun i=>(i,v i))).1:=⟨_,rfl⟩
 rw[←hby] at hsp⊢
 have hS:∀y:Fd,y∈([]++us.flatMap fun i=>gT i cE)↔∃i,y∈v i∧¬ff v i:=fun y=>by
  rw[List.nil_append,List.mem_flatMap];constructor
  ·rintro⟨i,hi,hy⟩;rw[hsp i,hg i] at hy;split at hy
   ·cases hy
   ·rename_i hn;exact⟨i,hy,fun hs=>hn ⟨hi,hs⟩⟩
  ·rintro⟨i,hy,hs⟩;have hi:i∈us:=Classical.byContradiction fun hi=>by rw[hout i hi] at hy;cases hy
   refine⟨i,hi, ?_⟩;rw[hsp i,hg i,if_neg (fun hh=>hs hh.2)];exact hy
 have hN:Nw (dS cE [] us) ([]++us.flatMap fun i=>gT i cE) x:=Nw.aF us (.inl ⟨rfl,fun y hy=>by cases hy⟩)
 have hfind:∀b,∀t∈v b,t.s.ar=x→∃u i,u∈v i∧¬ff v i∧u.s.ar=x∧u.s.seq≤t.s.seq∧(∀b',∀y∈v b',y.s.ar=x→u.s.seq≤y.s.seq→y.s.seq≤t.s.seq→y.s.data=t.s.data∨¬ff v b):=fun b t ht hx=>by
  by_cases hs:ff v b
  ·obtain⟨u,hu,h1,h2,h3,h4⟩:=h.a3 b t ht (hs.2 t ht);refine⟨u,_,hu,qq (h.a7 b t ht (hs.2 t ht)),h1.trans hx,Nat.le_of_lt h2,fun b' y hy HG hs1 oC=>.inl (h4 b' y hy (HG.trans hx.symm) hs1 oC)⟩
  ·exact⟨t,b,ht,hs,hx,Nat.le_refl _,fun _ _ _ _ _ _=>.inr hs⟩
 rcases hN with⟨h1,h2⟩|⟨f,h1,h2,h3,h4⟩
 ·refine .inl ⟨h1,fun b t ht hx=> ?_⟩;obtain⟨u,i,hu,hui,hux,_⟩:=hfind b t ht hx;exact h2 u ((hS u).2 ⟨i,hu,hui⟩) hux
 ·obtain⟨i,Ql,his⟩:=(hS f).1 h2;have hfb:=h.l6 i f Ql;refine .inr ⟨f,h1,by rw[hfb];exact Ql,by rw[hfb];exact his,h3, ?_⟩;rcases h.a2 x with⟨_,hno⟩|⟨b,t,ht,htx,htd,htn⟩
  ·exact absurd h3 (hno i f Ql)
  ·obtain⟨u,j,hu,huj,hux,qE,abt⟩:=hfind b t ht htx;have huf:=h4 u ((hS u).2 ⟨j,hu,huj⟩) hux
   have key:∀b',∀y∈v b',y.s.ar=x→f.s.seq≤y.s.seq→y.s.data=c x:=fun b' y hy HG hys=>by
    by_cases ZB:t.s.seq≤y.s.seq
    ·exact htn b' y hy HG ZB
    ·rcases abt b' y hy HG (by omega) (by omega) with e|hs
     ·rw[e];exact htd
     ·have:=h4 t ((hS t).2 ⟨b,ht,hs⟩) htx;omega
   exact⟨key i f Ql h3 (Nat.le_refl _),key⟩
end
structure Po where
 bl:List (Nat×Nat)
def fq (b:Nat):List (Nat×Nat)→Option Nat
 |[]=>none
 |x::l=>if x.1=b then some x.2 else fq b l
def Po.how (p:Po) (b:Nat):Option Nat:=fq b p.bl
def pN (b h:Nat):List (Nat×Nat)→List (Nat×Nat)
 |[]=>[]
 |x::l=>if x.1=b then (x.1,h)::l else x::pN b h l
def Po.cg (p:Po) (b h:Nat):Po:=⟨pN b h p.bl⟩
def CS:List (Nat×Nat)→Option Nat
 |[]=>none
 |x::l=>if x.2=2 then some x.1 else CS l
def Po.j5 (p:Po):Option Nat:=CS p.bl
def Po.count (p:Po) (h:Nat):Nat:=p.bl.countP fun x=>decide (x.2=h)
def Po.jo (p:Po):Po:=match p.j5 with|some o=>p.cg o 1|none=>p
def Po.set (p:Po) (b h:Nat):Po:=if p.how b=some 3∧h≠3 then p else (if h=2 then p.jo else p).cg b h
def fZ (h:Nat) (w:List Int):List (Nat×Nat)→Option Nat→Option Nat
 |[],o=>o
 |x::l,o=>if x.2≠h∨w.length≤x.1 then fZ h w l o else match o with
  |none=>fZ h w l (some x.1)
  |some b=>if w.getD x.1 0<w.getD b 0 then fZ h w l (some x.1) else fZ h w l (some b)
def Po.iM (p:Po) (h:Nat) (w:List Int):Option Nat:=fZ h w p.bl none
def Po.new (bs:List Nat):Po:=⟨bs.map fun b=>(b,0)⟩
structure Po.ok (p:Po):Prop where
 lt:(p.bl.map Prod.fst).Pairwise (· < ·)
 b:∀x∈p.bl,x.1<64
 h:∀x∈p.bl,x.2≤3
theorem jN (b h:Nat):∀l,(pN b h l).map Prod.fst=l.map Prod.fst
 |[]=>rfl
 |x::l=>by
  rw[pN];split
  ·rfl
  ·rw[List.map_cons,jN b h l,List.map_cons]
theorem yK {b h:Nat} {x:Nat×Nat}:∀{l},x∈pN b h l→x∈l∨x=(b,h)
 |y::l,hx=>by
  rw[pN] at hx;split at hx
  ·rename_i e;rcases List.mem_cons.1 hx with rfl|hx
   ·right;rw[e]
   ·exact .inl (List.mem_cons_of_mem _ hx)
  ·rcases List.mem_cons.1 hx with rfl|hx
   ·exact .inl List.mem_cons_self
   ·exact(yK hx).imp (List.mem_cons_of_mem _) id
theorem Po.ok.cg {p:Po} (hp:p.ok) {b h:Nat} (hb:b<64) (hh:h≤3):(p.cg b h).ok:=by
 refine⟨?_,fun x hx=> ?_,fun x hx=> ?_⟩
 ·show ((pN b h p.bl).map Prod.fst).Pairwise _
  rw[jN];exact hp.lt
 ·rcases yK hx with hx|rfl
  ·exact hp.b x hx
  ·exact hb
 ·rcases yK hx with hx|rfl
  ·exact hp.h x hx
  ·exact hh
theorem pO {o:Nat}:∀{l:List (Nat×Nat)},CS l=some o→(o,2)∈l
 |x::l,h=>by
  rw[CS] at h;split at h
  ·rename_i e;cases h;rw[←e];exact List.mem_cons_self
  ·exact List.mem_cons_of_mem _ (pO h)
theorem Po.ok.jo {p:Po} (hp:p.ok):p.jo.ok:=by
 unfold Po.jo
 cases ho:p.j5 with
 |none=>exact hp
 |some o=>exact hp.cg (hp.b _ (pO ho)) (by omega)
theorem Po.ok.set {p:Po} (hp:p.ok) {b h:Nat} (hb:b<64) (hh:h≤3):(p.set b h).ok:=by
 unfold Po.set;split
 ·exact hp
 ·split
  ·exact hp.jo.cg hb hh
  ·exact hp.cg hb hh
theorem jO {b:Nat}:∀{l:List (Nat×Nat)},(fq b l).isSome=true↔b∈l.map Prod.fst
 |[]=>by simp [fq]
 |x::l=>by
  rw[fq];split
  ·rename_i e;simp [e]
  ·rename_i e;rw[jO,List.map_cons,List.mem_cons];exact⟨.inr,fun h=>h.elim (fun h=>absurd h.symm e) id⟩
theorem G7 (p:Po):p.jo.bl.map Prod.fst=p.bl.map Prod.fst:=by
 unfold Po.jo
 cases p.j5 with
 |none=>rfl
 |some o=>exact jN ..
theorem Py (p:Po) (b h:Nat):(p.set b h).bl.map Prod.fst=p.bl.map Prod.fst:=by
 unfold Po.set;split
 ·rfl
 ·split
  ·exact(jN ..).trans (G7 p)
  ·exact jN ..
def mX:List (Nat×Nat)→Nat→List En
 |[],_=>[]
 |x::l,i=>⟨x.1,.int .u8 x.2,i⟩::mX l (i+1)
theorem tV {b:Nat}:∀(l:List (Nat×Nat)) (i:Nat),F1 (b:Int) (mX l i)=(fq b l).map fun h:Nat=>V.int .u8 (h:Int)
 |[],_=>rfl
 |x::l,i=>by
  rw[mX,F1,fq,tV l (i+1)];by_cases h:x.1=b
  ·have:(x.1:Int)=(b:Int):=by omega
   simp [h]
  ·have:¬(x.1:Int)=(b:Int):=by omega
   simp [h,this]
theorem E3 {b h:Nat}:∀(l:List (Nat×Nat)) (i:Nat),z7 (b:Int) (.int .u8 (h:Int)) (mX l i)=mX (pN b h l) i
 |[],_=>rfl
 |x::l,i=>by
  rw[mX,z7,pN,E3 l (i+1)];by_cases hx:x.1=b
  ·have:(x.1:Int)=(b:Int):=by omega
   simp [hx,mX]
  ·have:¬(x.1:Int)=(b:Int):=by omega
   simp [hx,this,mX]
theorem Nj:∀(l:List (Nat×Nat)) (i:Nat),(mX l i).map En.b=List.range' i l.length
 |[],_=>rfl
 |x::l,i=>by
  rw[mX,List.map_cons,Nj l (i+1),List.length_cons,List.range'_succ]
theorem CT (l:List (Nat×Nat)):wC (mX l 0) l.length:=by
 rw[CL,Nj];refine⟨List.pairwise_lt_range',fun b hb=> ?_⟩;rw[List.mem_range'_1] at hb;omega
theorem IU:∀(l:List (Nat×Nat)) (x:Nat×Nat) (i:Nat),mX (l++[x]) i=mX l i++[⟨x.1,.int .u8 x.2,i+l.length⟩]
 |[],x,i=>rfl
 |y::l,x,i=>by
  show _::mX (l++[x]) (i+1)=_
  rw[IU l x (i+1)];show _=_::(mX l (i+1)++_)
  congr 4;simp;omega
structure Pz where
 q:Oq
 c:Nat
 mid:Nat
def Tp (p:Po) (x:Pz):List V:=JW x.q p.bl.length x.c (some x.mid)
def CU (id:Nat) (p:Po):cq:=JX fun x:Pz=>bj [cR id 166 (Tp p x),IR x.q x.c (db (p.bl.map Prod.fst)),iu x.mid (mX p.bl 0) p.bl.length]
section
variable {B:af} {L:List cq} {H:af} {K:V→af→Prop} {id:Nat} {p:Po} {x:Pz}
abbrev yL (B H:af) (id:Nat) (p:Po) (x:Pz) (L:List cq):Prop:=az B H (cR id 166 (Tp p x)::IR x.q x.c (db (p.bl.map Prod.fst))::iu x.mid (mX p.bl 0) p.bl.length::L)
theorem yL.of (h:az B H (CU id p::L)):∃x,yL B H id p x L:=by
 obtain⟨x,h⟩:=h.OG;exact⟨x,h.EE⟩
theorem yL.to (h:yL B H id p x L):az B H (CU id p::L):=by
 have h2:az B H (bj [cR id 166 (Tp p x),IR x.q x.c (db (p.bl.map Prod.fst)),iu x.mid (mX p.bl 0) p.bl.length]::L):=az.rX h;exact az.intro h2
structure PoG (H:af) (id:Nat) (p:Po) (x:Pz):Prop where
 i0:H.inb id 0 1=true
 i1:H.inb id 1 1=true
 c0:H.cell id 0=.slice x.q p.bl.length x.c
 c1:H.cell id 1=.map (some x.mid)
 w0:H.wr id 0 1=true
 mo:dY H .i64 (some x.mid)=true
 ms:H.isMap x.mid=true
 mg:∀(b:Nat) z,bU H (some x.mid) (b:Int) z=((p.how b).map fun h:Nat=>V.int .u8 (h:Int)).getD z
 mh:∀(b:Nat),kF H (some x.mid) (b:Int)=(p.how b).isSome
 r:∀(i:Nat) (hi:i<p.bl.length),x.q.isSome=true∧H.inb (pb x.q) (po x.q+i*1) 1=true∧H.cell (pb x.q) (po x.q+i*1)=.int .i64 ((p.bl[i]).1:Int)
theorem Tq (h:yL B H id p x L):PoG H id p x:=by
 have hg:=h.get;have hl:(Tp p x).length=2:=rfl;have hm:=h.ord [2];refine⟨mO hg (by omega),mO hg (by omega),aY hg 0,aY hg 1,fY hg 0 1,tM hm,QQ hm,fun b z=> ?_,fun b=> ?_,fun i hi=> ?_⟩
 ·rw[yE hm,tV];rfl
 ·rw[MZ hm,tV,Option.isSome_map];rfl
 ·have:=(az.tD (h.ord [1])).at (i:=i) (by simpa using hi);simpa [db] using this
theorem yL.cg (h:yL B H id p x L) {b:Nat} (hb:(p.how b).isSome=true) (hw:Nat):yL B (hH H .i64 x.mid (b:Int) (.int .u8 (hw:Int))) id (p.cg b hw) x L:=by
 have h1:=(h.ord [2]).IJ (b:Int) (.int .u8 (hw:Int))
 have e:qH (b:Int) (.int .u8 (hw:Int)) (mX p.bl 0) p.bl.length=(mX (p.cg b hw).bl 0,p.bl.length):=by
  unfold qH;rw[tV,Option.isSome_map];have:(fq b p.bl).isSome=true:=hb;rw[if_pos this,E3];rfl
 rw[e] at h1
 have hl:(p.cg b hw).bl.length=p.bl.length:=by
  have:=congrArg List.length (jN b hw p.bl);rw[List.length_map,List.length_map] at this;exact this
 unfold yL Tp;rw[hl,show (p.cg b hw).bl.map Prod.fst=p.bl.map Prod.fst from jN ..];exact h1.ord [1,1]
end
theorem Nk {p:Po} (hp:p.ok) {i:Nat} (hi:i<p.bl.length):p.how (p.bl[i]).1=some (p.bl[i]).2:=by
 have key:∀(l:List (Nat×Nat)) (i:Nat) (hi:i<l.length),(l.map Prod.fst).Pairwise (· < ·)→fq (l[i]).1 l=some (l[i]).2:=by
  intro l
  induction l with
  |nil=>intro i hi;cases hi
  |cons x l ih=>
   intro i hi hp;rw[List.map_cons,List.pairwise_cons] at hp
   cases i with
   |zero=>simp [fq]
   |succ i=>
    have hi':i<l.length:=Nat.lt_of_succ_lt_succ hi;have:=hp.1 (l[i]).1 (List.mem_map.2 ⟨_,List.getElem_mem hi',rfl⟩);rw[List.getElem_cons_succ,fq,if_neg (by omega)];exact ih i hi' hp.2
 exact key _ _ _ hp.lt
theorem Po.ok.E4 {p:Po} (hp:p.ok):(p.bl.map Prod.fst).Nodup:=List.Pairwise.imp (fun {a b} (h:a<b)=>Nat.ne_of_lt h) hp.lt
theorem Po.ok.len {p:Po} (hp:p.ok):p.bl.length≤64:=by
 have h3:=List.Nodup.length_le_of_subset hp.E4 (l₂:=List.range 64) (fun b hb=>by
  obtain⟨x,hx,rfl⟩:=List.mem_map.1 hb
  exact List.mem_range.2 (hp.b x hx))
 simpa using h3
theorem A0 (h:Nat):∀(l:List (Nat×Nat)) (i:Nat),(mX l i).countP (fun y=>decide (V.aa y.v=(h:Int)))=l.countP fun x=>decide (x.2=h)
 |[],_=>rfl
 |x::l,i=>by
  rw[mX,List.countP_cons,List.countP_cons,A0 h l (i+1)];have:decide (V.aa (V.int .u8 (x.2:Int))=(h:Int))=decide (x.2=h):=decide_eq_decide.2 (by rw[bI];omega);simp only[this]
theorem IV:∀(l:List (Nat×Nat)) (i:Nat),∀e∈mX l i,∃h:Nat,e.v=.int .u8 (h:Int)
 |x::l,i,e,he=>by
  rw[mX] at he;rcases List.mem_cons.1 he with rfl|he
  ·exact⟨_,rfl⟩
  ·exact IV l _ e he
section
variable {B:af} {L L':List cq} {H:af} {K:V→af→Prop} {id:Nat} {p:Po} {x:Pz}
theorem E5 (hx:yL B H id p x L) (hp:p.ok) {Kr:Am.St→Prop} {Ke:Nat→Am.St→Prop}:∀(k i:Nat),i+k=p.bl.length→(match CS (p.bl.drop i) with
 |some o=>Kr (St.mk (ab [(2,T.v (V.int .i64 (o:Int))),(3,T.v (V.bool true))]) (ab []) H)
 |none=>Ke 0 (St.mk (ab []) (ab []) H))→
 lo 103 4
  (St.mk (ab [(0,T.v (V.aj (some (id,0)))),(11,T.v (V.slice x.q p.bl.length x.c)),(12,T.v (V.int .i64 (p.bl.length:Int))),(13,T.v (V.int .i64 (i:Int)))]) (ab []) H) Kr Ke
 |0,i,hi,hk=>by
  obtain rfl:i=p.bl.length:=by omega
  rw[List.drop_length] at hk;rw[HY,decide_eq_false (by omega),ai];exact hk
 |k+1,i,hi,hk=>by
  have hlt:i<p.bl.length:=by omega
  have g:=Tq hx;obtain⟨s1,i1,c1⟩:=g.r i hlt;have a1:(i:Int)<(p.bl.length:Int):=by omega
  have a2:0≤(i:Int):=by omega
  have hh:=Nk hp hlt;have hb:=hp.b _ (List.getElem_mem hlt);have hle:=hp.len;rw[List.drop_eq_getElem_cons hlt,CS] at hk;rw[HY];simp only[AJ,reduceIte,Nat.reduceEqDiff,a1,a2,Int.toNat_natCast,s1,i1,c1,Option.isSome_some,Nat.zero_add,g.i1,g.c1,V.cD,V.av,g.mo,g.mg,hh,Option.map_some];by_cases h2:(p.bl[i]).2=2
  ·have Af:((p.bl[i]).2:Int)=2:=by omega
   rw[if_pos h2] at hk;simp only[Af,decide_true,au];exact hk
  ·have Af:¬((p.bl[i]).2:Int)=2:=by omega
   rw[if_neg h2] at hk;simp only[Af,decide_false,ai];rw[aQ (by omega)];exact E5 hx hp k (i+1) (by omega) hk
theorem E6 (h:az B H (CU id p::L)) (hp:p.ok):(K (.tuple [.int .i64 ((p.j5.getD 0:Nat):Int),.bool p.j5.isSome]) H)→cl 103 [.aj (some (id,0))] H K:=by
 intro k;obtain⟨x,hx⟩:=yL.of h;have g:=Tq hx;rw[WE];simp only[AJ,reduceIte,Nat.reduceEqDiff,Option.isNone_some,Option.isSome_some,g.i0,g.c0];refine E5 hx hp p.bl.length 0 (by omega) ?_;rw[List.drop_zero];have e:CS p.bl=p.j5:=rfl;rw[e]
 cases ho:p.j5 with
 |none=>simp only[AJ,reduceIte,Nat.reduceEqDiff];rw[ho] at k;exact k
 |some o=>simp only[AJ,reduceIte,Nat.reduceEqDiff];rw[ho] at k;exact k
theorem A7 {mid it:Nat} (hp:p.ok) (hw:Nat) {Kr:Am.St→Prop} {Ke:Nat→Am.St→Prop} (hk:∀H',az B H' L→Ke 0 (St.mk (ab [(5,T.v (V.int .i64 (p.count hw:Int)))]) (ab []) H')) (hL:∀H seen,az B H (ob it (.dA (some mid) p.bl.length seen p.bl.length)::iu mid (mX p.bl 0) p.bl.length::L')→az B H L):∀(k:Nat) (seen:List Nat) {H:af},(mX p.bl 0).countP (fun y=>decide (y.b∉seen))≤k→az B H (ob it (.dA (some mid) p.bl.length seen p.bl.length)::iu mid (mX p.bl 0) p.bl.length::L')→lo 93 5 (St.mk (ab [(1,T.v (V.int .u8 (hw:Int))),(5,T.v (V.int .i64 (((mX p.bl 0).countP (fun y=>decide (y.b∈seen)&&decide (V.aa y.v=(hw:Int))):Nat):Int))),(14,T.v (V.dA 164 it))]) (ab []) H) Kr Ke
 |k,seen,H,hle,h=>by
  rw[S7];refine h.M3 (CT _) (fun hall=> ?_) (fun e he hn H' h' hok hkey hval=> ?_)
  ·have e1:(mX p.bl 0).countP (fun y=>decide (y.b∈seen)&&decide (V.aa y.v=(hw:Int)))=p.count hw:=by
    unfold Po.count;rw[←A0 hw p.bl 0];apply List.countP_congr;intro y hy;simp [hall y hy]
   rw[e1];exact hk H (hL H seen h)
  ·obtain⟨hv,ev⟩:=IV _ _ e he;have hs:=nT (fun y=>decide (V.aa y.v=(hw:Int))) hn (CT p.bl).lt he;have oC:=nT (fun _=>true) hn (CT p.bl).lt he;simp only[Bool.and_true,if_true] at oC
   have hlen:(mX p.bl 0).length=p.bl.length:=by
    have:=congrArg List.length (Nj p.bl 0);simpa using this
   have abL:=hp.len
   have vC:∀(q:En→Bool),(mX p.bl 0).countP q≤64:=fun q=>by
    have:=List.countP_le_length (p:=q) (l:=mX p.bl 0);omega
   have hneg:∀s:List Nat,(mX p.bl 0).countP (fun y=>decide (y.b∈s))+(mX p.bl 0).countP (fun y=>decide (y.b∉s))=(mX p.bl 0).length:=by
    intro s;have:=List.length_eq_countP_add_countP (fun y:En=>decide (y.b∈s)) (l:=mX p.bl 0);rw[this];congr 1;apply List.countP_congr;intro y _;simp
   have n1:=hneg seen;have n2:=hneg (seen++[e.b])
   cases k with
   |zero=>omega
   |succ k=>
    rw[ev] at hval hs;simp only[hok,hkey,hval,AJ,reduceIte,Nat.reduceEqDiff];have ih:=A7 hp hw hk hL k (seen++[e.b]) (H:=H') (by omega) h' (Kr:=Kr);rw[hs] at ih;by_cases hh:(hv:Int)=(hw:Int)
    ·simp only[hh,decide_true,au];rw[aQ (by have:=vC (fun y=>decide (y.b∈seen)&&decide (V.aa y.v=(hw:Int)));omega)];simpa [hh] using ih
    ·simp only[hh,decide_false,ai];simpa [hh] using ih
theorem vl (h:az B H (CU id p::L)) (hp:p.ok) (hw:Nat) (k:∀H',az B H' (CU id p::L)→K (.int .i64 (p.count hw:Int)) H'):cl 93 [.aj (some (id,0)),.int .u8 (hw:Int)] H K:=by
 obtain⟨x,hx⟩:=yL.of h;have g:=Tq hx;rw[aaC];simp only[AJ,reduceIte,Nat.reduceEqDiff,Option.isNone_some,Option.isSome_some,Nat.zero_add,g.i1,g.c1,V.cD,V.av,g.ms];have h1:=(hx.ord [2]).M4
 have:=A7 (L':=cR id 166 (Tp p x)::IR x.q x.c (db (p.bl.map Prod.fst))::L) (L:=CU id p::L) (mid:=x.mid) (it:=H.next) hp hw (Kr:=fun _=>False)
  (Ke:=fun j S'=>br (decide (j=0)) (ag (aI (KT.k (.int .i64)) (S'.1 5)) (K (V.int .i64 (V.aa (T.val (S'.1 5)))) S'.3)) False) (fun H' h'=>by simp only[AJ,reduceIte,Nat.reduceEqDiff];exact k H' h')
  (fun H seen hh=>yL.to (x:=x) ((hh.drop).ord [1,1])) _ [] (Nat.le_refl _) h1
 simpa using this
theorem kj (h:az B H (CU id p::L)) (hp:p.ok) {b hw:Nat} (hb:(p.how b).isSome=true) (hh:hw≤3) (k:∀e H',az B H' (CU id (p.set b hw)::L)→K (.int .i64 e) H'):cl 63 [.aj (some (id,0)),.int .i64 (b:Int),.int .u8 (hw:Int)] H K:=by
 obtain⟨x,hx⟩:=yL.of h;have g:=Tq hx;obtain⟨w,YM⟩:=Option.isSome_iff_exists.1 hb;rw[aap];have a1:¬(hw:Int)>3:=by omega
 simp only[AJ,reduceIte,Nat.reduceEqDiff,Option.isNone_some,Option.isSome_some,Nat.zero_add,g.i1,g.c1,V.cD,V.av,g.mo,g.mg,g.mh,YM,Option.map_some,cond_true,a1];unfold Po.set at k;rw[YM] at k;by_cases hd:w=3∧hw≠3
 ·have e:(decide ((w:Int)=3)&& !decide ((hw:Int)=3))=true:=by
   have h1:(w:Int)=3:=by omega
   have h2:¬(hw:Int)=3:=by omega
   simp [h1,h2]
  have hd':(some w=some 3∧hw≠3):=⟨by rw[hd.1],hd.2⟩;rw[if_pos hd'] at k;rw[e,au];exact k _ _ (yL.to hx)
 ·have e:(decide ((w:Int)=3)&& !decide ((hw:Int)=3))=false:=by
   by_cases h1:w=3
   ·have h2:(hw:Int)=3:=by omega
    simp [h2]
   ·have we:¬(w:Int)=3:=by omega
    simp [we]
  have hd':¬(some w=some 3∧hw≠3):=fun hh=>hd ⟨Option.some.inj hh.1,hh.2⟩
  rw[if_neg hd'] at k;rw[e,ai];by_cases h2:hw=2
  ·rw[if_pos h2] at k;have Af:(hw:Int)=2:=by omega
   simp only[Af,decide_true,au];refine E6 (yL.to hx) hp ?_;simp only[AJ,reduceIte,Nat.reduceEqDiff];unfold Po.jo at k
   cases ho:p.j5 with
   |none=>
    rw[ho] at k;simp only[Option.isSome_none,ai,g.i1,g.c1,V.cD,V.av,g.mo,AJ,reduceIte,Nat.reduceEqDiff,Option.isSome_some];have:=hx.cg hb hw;rw[Af] at this;exact k _ _ (yL.to this)
   |some o=>
    rw[ho] at k;have hob:(p.how o).isSome=true:=jO.2 (List.mem_map.2 ⟨_,pO ho,rfl⟩);have h3:=hx.cg hob 1;have g3:=Tq h3
    have DH:((p.cg o 1).how b).isSome=true:=by
     refine jO.2 ?_;show b∈(pN o 1 p.bl).map Prod.fst
     rw[jN];exact jO.1 hb
    have h4:=h3.cg DH hw;rw[Af] at h4;simp only[Option.isSome_some,au,g.i1,g.c1,V.cD,V.av,g.mo,AJ,reduceIte,Nat.reduceEqDiff,Option.getD_some];have e1:(((1:Nat):Int))=1:=rfl;rw[e1] at h3 g3 h4;simp only[g3.i1,g3.c1,V.cD,V.av,g3.mo,AJ,reduceIte,Nat.reduceEqDiff,Option.isSome_some];exact k _ _ (yL.to h4)
  ·rw[if_neg h2] at k;have Af:¬(hw:Int)=2:=by omega
   simp only[Af,decide_false,ai,g.i1,g.c1,V.cD,V.av,g.mo,AJ,reduceIte,Nat.reduceEqDiff,Option.isSome_some];exact k _ _ (yL.to (hx.cg hb hw))
end
section
variable {B:af} {L L':List cq} {H:af} {K:V→af→Prop} {id:Nat} {p:Po} {x:Pz} {q:Oq} {c:Nat} {l:List Int}
theorem Km (h:az B H L) (hr:MA H q l) (hb:l.length≤1000000) (k:∀q' c' H',az B H' (IR q' c' l::L)→K (.slice q' l.length c') H'):cl 101 [.slice q l.length c] H K:=by
 rw[WC]
 cases q with
 |none=>
  have:l=[]:=by
   rcases hr with h|⟨_,_,_,_,_,h,_⟩
   ·simpa [vb] using h
   ·cases h
  subst this;exact k none 0 H (az.vY h)
 |some q=>
  rw[Option.isNone_some,ai];have h1:az B (H.alloc (.cells 3 [] false)) (Rw 3 1 (some (H.next,0)) 0 []::L):=h.Cw (el:=3) (n:=1) (len:=0) (c:=0) (l:=[]) (cs:=[]) (by simp) (fun v hv=>by cases hv) (by omega) (by simp) (by simp)
  have Ae:Rd (H.alloc (.cells 3 [] false)) (some q) (l.map fun i=>[V.int .i64 i]).flatten:=by
   rw[vc];exact Rd.fr hr h.ok (Fr.alloc H _ (fun _=>False)) (fun _ _ _=>id)
  have hu:pA 1 (l.map fun i=>[V.int .i64 i]):=by
   intro c hc;obtain⟨r,_,rfl⟩:=List.mem_map.1 hc;exact⟨rfl,fun v hv=>by rw[List.mem_singleton] at hv;subst hv;rfl⟩
  have:=h1.XD (c2:=c) (K:=fun q n c H'=>K (.slice q n c) H') Iu Iv (fun v hv=>by rw[List.mem_singleton] at hv;subst hv;rfl) rfl (by omega) Ae hu (by simp;omega) (fun q' c' H' h'=>by
   have:=k q' c' H' h'
   simpa using this)
  simpa using this
theorem PA {b:Nat} {l:List Nat} (h:∀x∈l,x<b):F1 (b:Int) (mX (l.map fun b=>(b,0)) 0)=none:=by
 rw[tV]
 have:fq b (l.map fun b=>(b,0))=none:=by
  cases hh:fq b (l.map fun b=>(b,0)) with
  |none=>rfl
  |some y=>
   have:=jO.1 (by rw[hh];rfl:(fq b (l.map fun b=>(b,0))).isSome=true);rw[List.map_map] at this;obtain⟨z,hz,rfl⟩:=List.mem_map.1 this;have:=h z hz;simp at this
 rw[this];rfl
theorem IW {mid:Nat} {l:List Nat} (hr:EF B L q (db l)) (hlt:l.Pairwise (· < ·)) (hb:∀b∈l,b<64) (hl:l.length≤64) {Kr:Am.St→Prop} {Ke:Nat→Am.St→Prop} (hk:∀H',az B H' (cR id 166 (JW none 0 0 (some mid))::iu mid (mX (l.map fun b=>(b,0)) 0) l.length::L)→Ke 0 (St.mk (ab [(0,T.v (V.slice q l.length c)),(4,T.v (V.aj (some (id,0))))]) (ab []) H')):∀(k i:Nat) {H:af},i+k=l.length→az B H (cR id 166 (JW none 0 0 (some mid))::iu mid (mX ((l.take i).map fun b=>(b,0)) 0) i::L)→lo 60 3 (St.mk (ab [(0,T.v (V.slice q l.length c)),(4,T.v (V.aj (some (id,0)))),(10,T.v (V.slice q l.length c)),(11,T.v (V.int .i64 (l.length:Int))),(12,T.v (V.int .i64 (i:Int)))]) (ab []) H) Kr Ke
 |0,i,H,hi,h=>by
  obtain rfl:i=l.length:=by omega
  rw[List.take_length] at h;rw[Mi,decide_eq_false (by omega),ai];exact hk H h
 |k+1,i,H,hi,h=>by
  have lT:i<l.length:=by omega
  have Zu:=hr H h.drop.drop;obtain⟨s1,i1,c1⟩:=Zu.at (i:=i) (by simpa using lT);have e1:(db l)[i]'(by simpa using lT)=(l[i]:Int):=by simp [db]
  rw[e1] at c1;have hg:=h.get;have ZC:(JW none 0 0 (some mid)).length=2:=rfl;have j1:H.inb id 1 1=true:=mO hg (by omega);have d1:H.cell id 1=.map (some mid):=aY hg 1;have hm:=h.swap;have hmo:=tM hm;have a1:(i:Int)<(l.length:Int):=by omega
  have a2:0≤(i:Int):=by omega
  have hbi:=hb _ (List.getElem_mem lT);have a3:¬(l[i]:Int)<0:=by omega
  have a4:¬(l[i]:Int)≥64:=by omega
  rw[Mi];simp only[AJ,reduceIte,Nat.reduceEqDiff,a1,a2,Int.toNat_natCast,s1,i1,c1,a3,a4,aO,cond_true,if_true,Bool.false_eq_true,if_false,Option.isSome_some,Nat.zero_add];have gj:=hm.IJ (l[i]:Int) (.int .u8 0)
  have Dz:qH (l[i]:Int) (.int .u8 0) (mX ((l.take i).map fun b=>(b,0)) 0) i=(mX ((l.take (i+1)).map fun b=>(b,0)) 0,i+1):=by
   unfold qH
   rw[PA (fun x hx=>by
    obtain⟨j,hj,rfl⟩:=List.mem_iff_getElem.1 hx;rw[List.length_take] at hj;rw[List.getElem_take]
    exact List.pairwise_iff_getElem.1 hlt _ _ (by omega) lT (by omega))]
   rw[List.take_succ_eq_append_getElem lT,List.map_append,List.map_singleton,IU];have:(0:Nat)+((l.take i).map fun b=>(b,(0:Nat))).length=i:=by simp;omega
   simp only[this];rfl
  rw[Dz] at gj;have ih:=IW (Kr:=Kr) hr hlt hb hl hk k (i+1) (by omega) gj.swap;by_cases h0:i=0
  ·subst h0;have b1:¬((0:Nat):Int)>0:=by omega
   have b2:IntKind.i64.wrap (((0:Nat):Int)+1)=((0+1:Nat):Int):=aQ (by omega);simp only[b1,decide_false,Bool.false_and,ai,Bool.false_eq_true,if_false,ay,j1,d1,V.cD,V.av,hmo,AJ,reduceIte,Nat.reduceEqDiff,Option.isSome_some,b2];exact ih
  ·obtain⟨j,rfl⟩:∃j,i=j+1:=⟨i-1,by omega⟩;have b1:((j+1:Nat):Int)>0:=by omega
   have b2:IntKind.i64.wrap (((j+1:Nat):Int)-1)=(j:Int):=by rw[bD (by omega) (by omega)];omega
   have b3:0≤(j:Int):=by omega
   have b4:(j:Int)<(l.length:Int):=by omega
   obtain⟨t1,t2,t3⟩:=Zu.at (i:=j) (by simp;omega);have e2:(db l)[j]'(by simp;omega)=(l[j]:Int):=by simp [db]
   rw[e2] at t3;have FY:l[j]<l[j+1]:=List.pairwise_iff_getElem.1 hlt _ _ (by omega) lT (by omega);have b5:¬(l[j+1]:Int)≤(l[j]:Int):=by omega
   have b6:IntKind.i64.wrap (((j+1:Nat):Int)+1)=((j+1+1:Nat):Int):=aQ (by omega);simp only[b1,b2,b3,b4,b5,t1,t2,t3,Int.toNat_natCast,decide_true,decide_false,Bool.and_false,ai,if_true,ay,j1,d1,V.cD,V.av,hmo,AJ,reduceIte,Nat.reduceEqDiff,Option.isSome_some,b6];exact ih
theorem PB {l:List Nat} (h:az B H L) (hr:EF B L q (db l)) (hlt:l.Pairwise (· < ·)) (hb:∀b∈l,b<64) (hl:l.length≤64) (k:∀id H',az B H' (CU id (Po.new l)::L)→K (.tuple [.aj (some (id,0)),.int .i64 0]) H'):cl 60 [.slice q l.length c] H K:=by
 rw[aam];have h1:=h.MY;have h2:=h1.alloc 166 (JW none 0 0 (some H.next));refine IW hr hlt hb hl (fun H' h'=> ?_) l.length 0 (by omega) h2;simp only[AJ,reduceIte,Nat.reduceEqDiff];have hg:=h'.get;have hn:(db l).length≤1000000:=by simp;omega
 have hC:=Km (c:=c) (K:=fun v H'=>ag (V.av .slice v) (ag (H'.wr (H.alloc (.map [] 0)).next 0 1) (K (.tuple [.aj (some ((H.alloc (.map [] 0)).next,0)),.int .i64 0]) (H'.store (H.alloc (.map [] 0)).next 0 [.slice (V.ak v) (V.ao v) (V.aA v)]))))
  h' ((hr.bO _).bO _ H' h') hn (fun q' c' H2 h2=> ?_)
 ·rw[iK] at hC;simpa [AJ,reduceIte,Nat.reduceEqDiff] using hC
 ·obtain⟨w,h3⟩:=(h2.ord [1]).yy (k:=0) (by show 0<2;omega) (.slice q' (db l).length c');simp only[AJ,reduceIte,Nat.reduceEqDiff,w];refine k _ _ (yL.to (x:=⟨q',c',H.next⟩) ?_);unfold yL Tp Po.new;rw[List.length_map,List.map_map];have e:((Prod.fst ∘ fun b=>(b,0)):Nat→Nat)=id:=rfl;rw[e,List.map_id];rw[iK] at h3⊢;exact h3.ord [0,0]
theorem lS (h:Nat) (w:List Int) (x:Nat×Nat) (l:List (Nat×Nat)) (o:Option Nat):fZ h w (x::l) o=if x.2≠h∨w.length≤x.1 then fZ h w l o else match o with
 |none=>fZ h w l (some x.1)
 |some b=>if w.getD x.1 0<w.getD b 0 then fZ h w l (some x.1) else fZ h w l (some b):=by
 cases o<;>rfl
theorem mY {wq:Oq} {wc:Nat} {w:List Int} (hx:yL B H id p x L) (hp:p.ok) (hr:MA H wq w) (hw:Nat) {Kr:Am.St→Prop} {Ke:Nat→Am.St→Prop}:∀(k i:Nat) (o:Option Nat),i+k=p.bl.length→(∀b,o=some b→b<w.length)→Ke 0 (St.mk (ab [(8,T.v (V.int .i64 (((fZ hw w (p.bl.drop i) o).getD 0:Nat):Int))),(9,T.v (V.bool (fZ hw w (p.bl.drop i) o).isSome))]) (ab []) H)→lo 153 6 (St.mk (ab [(0,T.v (V.aj (some (id,0)))),(1,T.v (V.int .u8 (hw:Int))),(2,T.v (V.slice wq w.length wc)),(8,T.v (V.int .i64 ((o.getD 0:Nat):Int))),(9,T.v (V.bool o.isSome)),(17,T.v (V.slice x.q p.bl.length x.c)),(18,T.v (V.int .i64 (p.bl.length:Int))),(19,T.v (V.int .i64 (i:Int)))]) (ab []) H) Kr Ke
 |0,i,o,hi,ho,hk=>by
  obtain rfl:i=p.bl.length:=by omega
  rw[List.drop_length] at hk;rw[Ie,decide_eq_false (by omega),ai];exact hk
 |k+1,i,o,hi,ho,hk=>by
  have hlt:i<p.bl.length:=by omega
  have g:=Tq hx;obtain⟨s1,i1,c1⟩:=g.r i hlt;have a1:(i:Int)<(p.bl.length:Int):=by omega
  have a2:0≤(i:Int):=by omega
  have hh:=Nk hp hlt;have hle:=hp.len;rw[List.drop_eq_getElem_cons hlt,lS] at hk;rw[Ie];simp only[AJ,reduceIte,Nat.reduceEqDiff,a1,a2,Int.toNat_natCast,s1,i1,c1,Option.isSome_some,Nat.zero_add,g.i1,g.c1,V.cD,V.av,g.mo,g.mg,hh,Option.map_some,Bool.not_not];rw[aQ (by omega)];by_cases hc:(p.bl[i]).2≠hw∨w.length≤(p.bl[i]).1
  ·rw[if_pos hc] at hk
   have e:(bif decide (((p.bl[i]).2:Int)=(hw:Int)) then decide (((p.bl[i]).1:Int)≥(w.length:Int)) else true)=true:=by
    rcases hc with hc|hc
    ·have:¬((p.bl[i]).2:Int)=(hw:Int):=by omega
     simp [this]
    ·have:((p.bl[i]).1:Int)≥(w.length:Int):=by omega
     simp only[this,decide_true];cases decide (((p.bl[i]).2:Int)=(hw:Int))<;>rfl
   rw[e,au];exact mY hx hp hr hw k (i+1) o (by omega) ho hk
  ·rw[if_neg hc] at hk;have h1:((p.bl[i]).2:Int)=(hw:Int):=by omega
   have h2:¬((p.bl[i]).1:Int)≥(w.length:Int):=by omega
   have h3:(p.bl[i]).1<w.length:=by omega
   simp only[h1,h2,decide_true,decide_false,cond_true,ai]
   cases o with
   |none=>
    simp only[Option.isSome_none,aO,Bool.false_eq_true,if_false,ay,cond_false,au];exact mY hx hp hr hw k (i+1) (some (p.bl[i]).1) (by omega) (fun b hb=>by cases hb;exact h3) hk
   |some b0=>
    have hb0:=ho b0 rfl;obtain⟨t1,t2,t3⟩:=hr.at h3;obtain⟨u1,u2,u3⟩:=hr.at hb0;have c1:0≤((p.bl[i]).1:Int):=by omega
    have c2:((p.bl[i]).1:Int)<(w.length:Int):=by omega
    have c3:0≤(b0:Int):=by omega
    have c4:(b0:Int)<(w.length:Int):=by omega
    have w1:w.getD (p.bl[i]).1 0=w[(p.bl[i]).1]:=by rw[List.getD_eq_getElem?_getD,List.getElem?_eq_getElem h3];rfl
    have w2:w.getD b0 0=w[b0]:=by rw[List.getD_eq_getElem?_getD,List.getElem?_eq_getElem hb0];rfl
    simp only[w1,w2] at hk;simp only[Option.isSome_some,Option.getD_some,aO,if_true,c1,c2,c3,c4,t1,t2,t3,u1,u2,u3,Int.toNat_natCast,AJ,reduceIte,Nat.reduceEqDiff,cond_true];by_cases FY:w[(p.bl[i]).1]<w[b0]
    ·rw[if_pos FY] at hk;simp only[FY,decide_true,au];exact mY hx hp hr hw k (i+1) (some (p.bl[i]).1) (by omega) (fun b hb=>by cases hb;exact h3) hk
    ·rw[if_neg FY] at hk;simp only[FY,decide_false,ai];exact mY hx hp hr hw k (i+1) (some b0) (by omega) ho hk
theorem A8 {wq:Oq} {wc:Nat} {w:List Int} (h:az B H (CU id p::L)) (hp:p.ok) (hr:MA H wq w) (hw:Nat):(K (.tuple [.int .i64 (((p.iM hw w).getD 0:Nat):Int),.bool (p.iM hw w).isSome]) H)→cl 153 [.aj (some (id,0)),.int .u8 (hw:Int),.slice wq w.length wc] H K:=by
 intro k;obtain⟨x,hx⟩:=yL.of h;have g:=Tq hx;rw[Xb];simp only[AJ,reduceIte,Nat.reduceEqDiff,Option.isNone_some,Option.isSome_some,g.i0,g.c0];refine mY hx hp hr hw p.bl.length 0 none (by omega) (fun b hb=>by cases hb) ?_;rw[List.drop_zero];simp only[AJ,reduceIte,Nat.reduceEqDiff];exact k
end
structure Ft where
 ep:Nat
 pm:Pm
 po:Po
 seq:Nat
structure FS where
 a:Ar
 f:Ft
def FS.bu (s:FS) (b h:Nat):FS:={s with f:={s.f with po:=s.f.po.set b h}}
def FS.next (s:FS) (b:Nat):Nat:=(s.a.bs.getD b fp).pg.length
def bB (s:FS) (b:Nat):FS×Int:=
 if (dM s.a b s.f.ep).2=0 then (FS.bu {s with a:=(dM s.a b s.f.ep).1} b 0,0)
 else if (dM s.a b s.f.ep).2=8 then (FS.bu {s with a:=(dM s.a b s.f.ep).1} b 3,0)
 else ({s with a:=(dM s.a b s.f.ep).1},(dM s.a b s.f.ep).2)
def iQ (n:Nat):Nat:=(n+1) % 18446744073709551616
def bT (s:FS) (b:Nat) (x:Sh):FS×Int:=
 let y:={x with ep:=s.f.ep,seq:=iQ s.f.seq}
 let r:=fA s.a b (s.next b) (dR y) s.f.ep
 if r.2=8∨r.2=6 then (⟨r.1,{s.f with seq:=iQ s.f.seq,po:=s.f.po.set b 3}⟩,8)
 else if r.2=0 then (⟨r.1,{s.f with seq:=iQ s.f.seq,pm:=s.f.pm.put x.ar (some (b,s.next b))}⟩,0)
 else (⟨r.1,{s.f with seq:=iQ s.f.seq}⟩,r.2)
def FS.PC (s:FS):List Int:=s.a.bs.map Bk.er
def FS.cZ (s:FS):Option Nat:=s.f.po.iM 0 s.PC
def FS.iM (s:FS):Option Nat:=s.f.po.iM 1 s.f.pm.gU
def FS.mZ (s:FS) (ar:Nat):Option Sh:=match s.f.pm.cw.getD ar none with
 |none=>some ⟨2,0,0,ar,0,[]⟩
 |some (b,p)=>if (gh s.a b p).1=0 then eS (gh s.a b p).2 else none
structure aX (g:bZ) (s:FS):Prop where
 n:(s.a.bs.length:Int)=g.aF
 p:s.a.aB=g.aB
 len:∀b∈s.a.bs,(b.pg.length:Int)≤g.aB
 d:∀b∈s.a.bs,∀d∈b.pg,d.length=96
 pm:s.f.pm.ok
 nb:(s.f.pm.nb:Int)=g.aF
 na:(s.f.pm.cw.length:Int)=g.cap+1
 po:s.f.po.ok
 us:s.f.po.bl.map Prod.fst=g.us
 seq:s.f.seq<18446744073709551616
 ep:s.f.ep<18446744073709551616
def PD (aH:Nat) (m:Gm) (f:Ft) (mid pid:Nat):List V:=RM (some (aH,0)) m.g.aF m.g.aB m.g.aG m.q m.g.bP.length m.c (f.ep:Int) (some (mid,0)) (some (pid,0)) (f.seq:Int)
section
variable {B:af} {L:List cq} {H:af} {K:V→af→Prop} {aH fid mid pid:Nat} {m:Gm} {s:FS}
abbrev fK (B H:af) (aH fid mid pid:Nat) (m:Gm) (s:FS) (L:List cq):Prop:=
 az B H (cR fid 120 (PD aH m s.f mid pid)::tQ mid s.f.pm::CU pid s.f.po::df aH s.a::L)
structure FtG (H:af) (aH fid mid pid:Nat) (m:Gm) (s:FS):Prop where
 i:∀k<9,H.inb fid k 1=true
 c0:H.cell fid 0=.aj (some (aH,0))
 c1:H.cell fid 1=.int .i64 m.g.aF
 c2:H.cell fid 2=.int .i64 m.g.aB
 c3:H.cell fid 3=.int .i64 m.g.aG
 c5:H.cell fid 5=.int .u64 (s.f.ep:Int)
 c6:H.cell fid 6=.aj (some (mid,0))
 c7:H.cell fid 7=.aj (some (pid,0))
 c8:H.cell fid 8=.int .u64 (s.f.seq:Int)
 g:H.inb fid 1 4=true∧H.sub fid 1 4=ee m.g.aF m.g.aB m.g.aG m.q m.g.bP.length m.c
 w:H.wr fid 8 1=true
theorem v8 (h:fK B H aH fid mid pid m s L):FtG H aH fid mid pid m s:=by
 have hg:=h.get;refine⟨fun k hk=>mO hg (by show k<9;exact hk),aY hg 0,aY hg 1,aY hg 2,aY hg 3,aY hg 5,aY hg 6,aY hg 7,aY hg 8,⟨dI hg 1 4, ?_⟩,fY hg 8 1⟩;rw[kg hg];rfl
theorem fK.sG (h:fK B H aH fid mid pid m s L):az B H (df aH s.a::cR fid 120 (PD aH m s.f mid pid)::tQ mid s.f.pm::CU pid s.f.po::L):=h.ord [3]
theorem fK.pm (h:fK B H aH fid mid pid m s L):az B H (tQ mid s.f.pm::cR fid 120 (PD aH m s.f mid pid)::CU pid s.f.po::df aH s.a::L):=h.ord [1]
theorem fK.po (h:fK B H aH fid mid pid m s L):az B H (CU pid s.f.po::cR fid 120 (PD aH m s.f mid pid)::tQ mid s.f.pm::df aH s.a::L):=h.ord [2]
theorem aX.how {g:bZ} (hok:aX g s) {b:Nat} (hb:b∈g.us):(s.f.po.how b).isSome=true:=jO.2 (by rw[hok.us];exact hb)
theorem m0 {g:bZ} {b:Nat} (hb:b∈g.us):(b:Int)<g.aF:=by
 unfold bZ.us at hb;have:=(List.mem_filter.1 hb).1;have:=List.mem_of_mem_drop this;rw[List.mem_range] at this;omega
theorem aX.lt {g:bZ} (hok:aX g s) {b:Nat} (hb:b∈g.us):b<s.a.bs.length:=by
 have:=m0 hb;have:=hok.n;omega
theorem aX.bu {g:bZ} (hg:g.In) (hok:aX g s) {b h:Nat} (hb:b∈g.us) (hh:h≤3):aX g (s.bu b h):=
 {hok with
  po:=hok.po.set (by have:=m0 hb;have:=hg.b;omega) hh
  us:=by show (s.f.po.set b h).bl.map Prod.fst=_;rw[Py];exact hok.us}
theorem G8 {a:Ar} {b:Nat} {e:Int} {P:Ar→Prop} (h0:P a) (h1:∀bs:List Bk,bs.length=a.bs.length→(∀x∈bs,x∈a.bs∨(∃y∈a.bs,x.pg=y.pg)∨x.pg=[])→∀a':Ar,a'.bs=bs→a'.aB=a.aB→P a'):P (dM a b e).1:=by
 unfold dM;split
 ·exact h0
 split
 ·exact h0
 split
 ·exact h0
 rename_i bk hbk;have hmem:=List.mem_of_getElem? hbk
 have key:∀x∈(bo a b bk).bs,x∈a.bs∨(∃y∈a.bs,x.pg=y.pg)∨x.pg=[]:=by
  intro x hx;rcases List.mem_or_eq_of_mem_set hx with hx|rfl
  ·exact .inl hx
  ·exact .inr (.inl ⟨bk,hmem,bq bk⟩)
 split
 ·exact h1 (bo a b bk).bs (fI ..) key _ rfl rfl
 split
 ·refine h1 _ (by simp [fI]) (fun x hx=> ?_) _ rfl rfl;rcases List.mem_or_eq_of_mem_set hx with hx|rfl
  ·exact key x hx
  ·exact .inr (.inl ⟨bk,hmem,bq bk⟩)
 ·refine h1 _ (by simp [fI]) (fun x hx=> ?_) _ rfl rfl;rcases List.mem_or_eq_of_mem_set hx with hx|rfl
  ·exact key x hx
  ·exact .inr (.inr rfl)
theorem aX.yM {g:bZ} (hok:aX g s) (b:Nat) (e:Int):aX g {s with a:=(dM s.a b e).1}:=by
 refine G8 (P:=fun a=>aX g {s with a:=a}) hok (fun bs hl hx a' hb hp=> ?_)
 have hx':∀x∈a'.bs,(∃y∈s.a.bs,x.pg=y.pg)∨x.pg=[]:=fun x hh=>by
  rw[hb] at hh;rcases hx x hh with h|h|h
  ·exact .inl ⟨x,h,rfl⟩
  ·exact .inl h
  ·exact .inr h
 refine {hok with n:= ?_,p:= ?_,len:= ?_,d:= ?_}
 ·show ((a'.bs.length:Nat):Int)=_;rw[hb,hl];exact hok.n
 ·show a'.aB=_;rw[hp];exact hok.p
 ·intro x hh;rcases hx' x hh with⟨y,hy,e⟩|e
  ·rw[e];exact hok.len y hy
  ·rw[e]
   cases Ua:s.a.bs with
   |nil=>
    have h0:a'.bs.length=0:=by rw[hb,hl,Ua];rfl
    rw[List.eq_nil_of_length_eq_zero h0] at hh;cases hh
   |cons y l=>have:=hok.len y (by rw[Ua];exact List.mem_cons_self);simp only[List.length_nil];omega
 ·intro x hh d hd;rcases hx' x hh with⟨y,hy,e⟩|e
  ·rw[e] at hd;exact hok.d y hy d hd
  ·rw[e] at hd;cases hd
theorem aX.bB {g:bZ} (hg:g.In) (hok:aX g s) {b:Nat} (hb:b∈g.us):aX g (bB s b).1:=by
 unfold Go.Proofs.YtlgdkndamddpkaaGreat.bB;split
 ·exact(hok.yM b _).bu hg hb (by omega)
 split
 ·exact(hok.yM b _).bu hg hb (by omega)
 ·exact hok.yM b _
theorem vm (hm:dF B L m) (hg:m.g.In) (h:fK B H aH fid mid pid m s L) (hok:aX m.g s) {b:Nat} (hb:b∈m.g.us) (k:∀H',fK B H' aH fid mid pid m (bB s b).1 L→K (.int .i64 (bB s b).2) H'):cl 66 [.aj (some (fid,0)),.int .i64 (b:Int)] H K:=by
 have g:=v8 h;rw[aas];simp only[AJ,reduceIte,Nat.reduceEqDiff,Option.isSome_some,Nat.zero_add,g.i 0 (by omega),g.i 5 (by omega),g.c0,g.c5];refine MI h.sG (hok.lt hb) (s.f.ep:Int) (fun H1 h1=> ?_);simp only[AJ,reduceIte,Nat.reduceEqDiff];have DB:fK B H1 aH fid mid pid m {s with a:=(dM s.a b s.f.ep).1} L:=h1.ord [1,1,1];have g1:=v8 DB;unfold bB at k;by_cases h0:(dM s.a b s.f.ep).2=0
 ·rw[if_pos h0] at k;simp only[h0,decide_true,au,AJ,reduceIte,Nat.reduceEqDiff,Option.isSome_some,Nat.zero_add,g1.i 7 (by omega),g1.c7];refine kj (hw:=0) DB.po hok.po (hok.how hb) (by omega) (fun e H2 h2=> ?_);simp only[AJ,reduceIte,Nat.reduceEqDiff];exact k H2 (h2.ord [1,1])
 ·rw[if_neg h0] at k;simp only[h0,decide_false,ai];by_cases h8:(dM s.a b s.f.ep).2=8
  ·rw[if_pos h8] at k;simp only[h8,decide_true,au,AJ,reduceIte,Nat.reduceEqDiff,Option.isSome_some,Nat.zero_add,g1.i 7 (by omega),g1.c7];refine kj (hw:=3) DB.po hok.po (hok.how hb) (by omega) (fun e H2 h2=> ?_);simp only[AJ,reduceIte,Nat.reduceEqDiff];exact k H2 (h2.ord [1,1])
  ·rw[if_neg h8] at k;simp only[h8,decide_false,ai];exact k H1 DB
end
section
variable {B:af} {L:List cq} {H:af} {K:V→af→Prop} {aH fid mid pid:Nat} {m:Gm} {s:FS}
theorem Tr {t1:V} {N:Nat} (hN:N≤64) {w:Nat→Int} (hc:∀(b:Nat) (H':af),b<N→az B H' L→∀K':V→af→Prop,K' (.int .i64 (w b)) H'→jz cP (p8 cP) t1 [.int .i64 (b:Int)] H' K') {Kr:Am.St→Prop} {Ke:Nat→Am.St→Prop}:∀(k i:Nat) {q:Oq} {c:Nat} {H:af},i+k=N→az B H (IR q c ((List.range i).map w)::L)→(∀q' c' H',az B H' (IR q' c' ((List.range N).map w)::L)→Ke 0 (St.mk (ab [(5,T.v (V.slice q' N c'))]) (ab []) H'))→lo 154 3 (St.mk (ab [(1,T.v t1),(5,T.v (V.slice q i c)),(11,T.v (V.int .i64 (N:Int))),(12,T.v (V.int .i64 (i:Int)))]) (ab []) H) Kr Ke
 |0,i,q,c,H,hi,h,hk=>by
  obtain rfl:i=N:=by omega
  rw[Ig,decide_eq_false (by omega),ai];exact hk q c H h
 |k+1,i,q,c,H,hi,h,hk=>by
  rw[Ig,decide_eq_true (by omega),au];have qJ:∀K':V→af→Prop,K' (.int .i64 (w i)) H→jz cP (p8 cP) t1 [.int .i64 (i:Int)] H K':=hc i H (by omega) h.drop;refine qJ _ ?_;simp only[AJ,reduceIte,Nat.reduceEqDiff]
  have hp:=az.CF h (w i) (e2:=3) (by simp;omega) (K:=fun q n c H'=>lo 154 3
   (St.mk (ab [(1,T.v t1),(5,T.v (V.slice q n c)),(11,T.v (V.int .i64 (N:Int))),(12,T.v (V.int .i64 (IntKind.i64.wrap ((i:Int)+1))))]) (ab []) H') Kr Ke) (fun q' c' H' h'=> ?_)
  ·rw[List.length_map,List.length_range] at hp;exact hp
  ·rw[aQ (by omega)];have e:(List.range i).map w++[w i]=(List.range (i+1)).map w:=by rw[List.range_succ,List.map_append];rfl
   rw[e] at h'⊢;rw[List.length_map,List.length_range];exact Tr hN hc k (i+1) (by omega) h' hk
theorem Ts (a:Ar):a.bs.map Bk.er=(List.range a.bs.length).map fun b=>(a.bs.getD b fp).er:=by
 apply List.ext_getElem
 ·simp
 ·intro i h1 h2;simp only[List.getElem_map,List.getElem_range];rw[List.getD_eq_getElem?_getD,List.getElem?_eq_getElem (by simpa using h1)];rfl
theorem IX (hg:m.g.In) (h:fK B H aH fid mid pid m s L) (hok:aX m.g s) (k:∀q c H',fK B H' aH fid mid pid m s (IR q c s.PC::L)→K (.slice q s.PC.length c) H'):cl 154 [.aj (some (fid,0)),.oq 155 [.aj (some (aH,0))]] H K:=by
 have g:=v8 h;rw[QM];have hn:=hok.n;have hb:=hg.b;have e:m.g.aF=((s.a.bs.length:Nat):Int):=by omega
 simp only[AJ,reduceIte,Nat.reduceEqDiff,Option.isSome_some,Nat.zero_add,g.i 1 (by omega),g.c1,e];refine Tr (w:=fun b=>(s.a.bs.getD b fp).er) (L:=cR fid 120 (PD aH m s.f mid pid)::tQ mid s.f.pm::CU pid s.f.po::df aH s.a::L) (N:=s.a.bs.length) (by omega) (fun b H' Ov h' K' kk=> ?_) s.a.bs.length 0 (by omega) (az.vY h) (fun q c H' h'=> ?_)
 ·show cl 155 [.aj (some (aH,0)),.int .i64 (b:Int)] H' K'
  rw[J8 (fK.sG h') Ov];rw[List.getD_eq_getElem?_getD,List.getElem?_eq_getElem Ov] at kk;exact kk
 ·simp only[AJ,reduceIte,Nat.reduceEqDiff];have hl:s.PC.length=s.a.bs.length:=by simp [FS.PC]
  have:=k q c H' (by unfold FS.PC;rw[Ts];exact h'.ord [1,1,1,1]);rw[hl] at this;exact this
theorem IY (hg:m.g.In) (h:fK B H aH fid mid pid m s L) (hok:aX m.g s) (k:∀q c H',fK B H' aH fid mid pid m s (IR q c s.f.pm.gU::L)→K (.slice q s.f.pm.gU.length c) H'):cl 154 [.aj (some (fid,0)),.oq 65 [.aj (some (mid,0))]] H K:=by
 have g:=v8 h;rw[QM];have hn:=hok.nb;have hb:=hg.b;have e:m.g.aF=((s.f.pm.nb:Nat):Int):=by omega
 simp only[AJ,reduceIte,Nat.reduceEqDiff,Option.isSome_some,Nat.zero_add,g.i 1 (by omega),g.c1,e];refine Tr (w:=fun b=>(s.f.pm.dO b:Int)) (L:=cR fid 120 (PD aH m s.f mid pid)::tQ mid s.f.pm::CU pid s.f.po::df aH s.a::L) (N:=s.f.pm.nb) (by omega) (fun b H' Ov h' K' kk=> ?_) s.f.pm.nb 0 (by omega) (az.vY h) (fun q c H' h'=> ?_)
 ·show cl 65 [.aj (some (mid,0)),.int .i64 (b:Int)] H' K'
  rw[mU (fK.pm h') Ov];exact kk
 ·simp only[AJ,reduceIte,Nat.reduceEqDiff];have:=k q c H' (h'.ord [1,1,1,1]);rw[pK] at this;exact this
theorem CV (hg:m.g.In) (h:fK B H aH fid mid pid m s L) (hok:aX m.g s) (k:∀H',fK B H' aH fid mid pid m s L→K (.tuple [.int .i64 ((s.cZ.getD 0:Nat):Int),.bool s.cZ.isSome]) H'):cl 149 [.aj (some (fid,0))] H K:=by
 have g:=v8 h;rw[W8];simp only[AJ,reduceIte,Nat.reduceEqDiff,Option.isSome_some,Nat.zero_add,g.i 0 (by omega),g.i 7 (by omega),g.c0,g.c7]
 have fin:∀q c H',fK B H' aH fid mid pid m s (IR q c s.PC::L)→∀K':V→af→Prop,K' (.tuple [.int .i64 ((s.cZ.getD 0:Nat):Int),.bool s.cZ.isSome]) H'→
  cl 153 [.aj (some (pid,0)),.int .u8 0,.slice q s.PC.length c] H' K':=fun q c H' h' K' kk=>
  A8 (hw:=0) h'.po hok.po (az.tD (h'.ord [4])) kk
 refine⟨IX hg h hok (fun q c H' h'=> ?_),IX hg h hok (fun q c H' h'=> ?_)⟩
 ·simp only[AJ,reduceIte,Nat.reduceEqDiff];refine fin q c H' h' _ ?_;simp only[AJ,reduceIte,Nat.reduceEqDiff];exact k H' (h'.ord [4]).drop
 ·have g':=v8 h';simp only[AJ,reduceIte,Nat.reduceEqDiff,g'.i 7 (by omega),g'.c7];refine fin q c H' h' _ ?_;simp only[AJ,reduceIte,Nat.reduceEqDiff];exact k H' (h'.ord [4]).drop
theorem IZ (hm:dF B L m) (h:fK B H aH fid mid pid m s L) (hok:aX m.g s) (hg:m.g.In) {ar:Nat} (ha:(ar:Int)≤m.g.cap) {x:Sh} (hx:s.mZ ar=some x) (k:∀q c H',fK B H' aH fid mid pid m s (BY q c x.data::L)→K (.tuple [zD x q c,.int .i64 0]) H'):cl 69 [.aj (some (fid,0)),.int .i64 (ar:Int)] H K:=by
 have g:=v8 h;have FQ:ar<s.f.pm.cw.length:=by have:=hok.na;omega
 rw[aav];simp only[AJ,reduceIte,Nat.reduceEqDiff,Option.isSome_some,Nat.zero_add,g.i 6 (by omega),g.c6];rw[IM h.pm FQ];have hgd:s.f.pm.cw.getD ar none=s.f.pm.cw[ar]:=by rw[List.getD_eq_getElem?_getD,List.getElem?_eq_getElem FQ];rfl
 unfold FS.mZ at hx;rw[hgd] at hx
 cases ho:s.f.pm.cw[ar] with
 |none=>
  rw[ho] at hx;cases hx;simp only[AJ,reduceIte,Nat.reduceEqDiff,vj,f127,AG,uW,uX,Option.isSome_none];have:=k none 0 H ((jZ h).ord [1,1,1,1]);simpa [zD] using this
 |some o=>
  obtain⟨b,p⟩:=o;rw[ho] at hx;dsimp only at hx;obtain⟨hb,hp⟩:=hok.pm.pl b p (by rw[←ho];exact List.getElem_mem FQ);have Ag:b<s.a.bs.length:=by have:=hok.n;have:=hok.nb;omega
  simp only[AJ,reduceIte,Nat.reduceEqDiff,vj,f127,AG,uW,uX,Option.isSome_some,Nat.zero_add,g.i 0 (by omega),g.c0];refine EL h.sG Ag (fun d hd=>by rw[hok.d _ (List.getElem_mem Ag) d hd];omega) p (fun q1 c1 H1 h1=> ?_);by_cases he:(gh s.a b p).1=0
  ·rw[if_pos he] at hx;simp only[AJ,reduceIte,Nat.reduceEqDiff,he]
   have Jw:(gh s.a b p).2.length≤100000:=by
    have:(gh s.a b p).2.length≤96:=by
     unfold gh;split
     ·simp
     split
     ·simp
     rw[List.getElem?_eq_getElem Ag];simp only;split
     ·simp
     rename_i d hd;split
     ·simp
     ·show d.length≤96
      rw[hok.d _ (List.getElem_mem Ag) d (List.mem_of_getElem? hd)];omega
    omega
   refine ET h1 (fun H h=>h.iY) Jw ((h1.J1).2.2.1) (fun hnone=> ?_) (fun y hy q2 c2 H2 h2=> ?_)
   ·rw[hnone] at hx;cases hx
   ·rw[hy] at hx;cases hx;unfold zD;simp only[AJ,reduceIte,Nat.reduceEqDiff,f125,El,yg,yh,yi,yj,yk,yl];exact k q2 c2 H2 ((h2.ord [1]).drop.ord [2,2,2,1])
  ·rw[if_neg he] at hx;cases hx
theorem CX (hm:dF B L m) (h:fK B H aH fid mid pid m s L) (hg:m.g.In) (a:Int) (k:∀H',fK B H' aH fid mid pid m s L→K (.int .i64 (if 0≤a∧a≤m.g.cap then 0 else 1)) H'):cl 68 [.aj (some (fid,0)),.int .i64 a] H K:=by
 have g:=v8 h;rw[aau];simp only[AJ,reduceIte,Nat.reduceEqDiff,Option.isNone_some];by_cases h0:a<0
 ·have e:¬(0≤a∧a≤m.g.cap):=by omega
  rw[if_neg e] at k;simp only[h0,decide_true,Bool.not_true,ai];exact k H h
 ·have hsub:=g.g.2;simp only[h0,decide_false,Bool.not_false,au,Option.isSome_some,Nat.zero_add,g.g.1,hsub,f25,uV,mH,mI,mJ,mK,AJ,reduceIte,Nat.reduceEqDiff];have:=tF (K:=fun v H'=>ag (V.av (.int .i64) v) (br (decide (a>V.aa v)) (K (V.int .i64 1) H') (K (V.int .i64 0) H'))) h ((((hm.bO _).bO _).bO _).bO _) hg (fun H' h'=> ?_)
  ·exact this
  ·simp only[AJ,reduceIte,Nat.reduceEqDiff];by_cases h1:a>m.g.cap
   ·have e:¬(0≤a∧a≤m.g.cap):=by omega
    have:=k H' h';rw[if_neg e] at this;simp only[h1,decide_true,au];exact this
   ·have e:0≤a∧a≤m.g.cap:=by omega
    have:=k H' h';rw[if_pos e] at this;simp only[h1,decide_false,ai];exact this
theorem E7 (hm:dF B L m) (h:fK B H aH fid mid pid m s L) (hok:aX m.g s) (hg:m.g.In) {ar:Nat} (ha:(ar:Int)≤m.g.cap) {x:Sh} (hx:s.mZ ar=some x) (k:∀q c H',fK B H' aH fid mid pid m s (BY q c x.data::L)→K (.tuple [.slice q x.data.length c,.int .i64 0]) H'):cl 39 [.aj (some (fid,0)),.int .i64 (ar:Int)] H K:=by
 rw[aad];refine CX hm h hg (ar:Int) (fun H1 h1=> ?_);have e:0≤(ar:Int)∧(ar:Int)≤m.g.cap:=⟨by omega,ha⟩;simp only[e,and_self,if_true,AJ,reduceIte,Nat.reduceEqDiff];refine IZ hm h1 hok hg ha hx (fun q c H2 h2=> ?_);unfold zD;simp only[AJ,reduceIte,Nat.reduceEqDiff,f125,El,yg,yh,yi,yj,yk,yl];exact k q c H2 h2
end
section
variable {B:af} {L:List cq} {H:af} {K:V→af→Prop} {aH fid mid pid:Nat} {m:Gm} {s:FS}
theorem Kn {a:Ar} {b p:Nat} {d:List UInt8} {e:Int} {P:Ar→Prop} (h0:P a) (hd:d.length=96) (h1:∀bs:List Bk,bs.length=a.bs.length→(∀x∈bs,x∈a.bs∨(∃y∈a.bs,x.pg=y.pg∨∃z:List UInt8,z.length=96∧x.pg=y.pg++[z]∧(y.pg.length:Int)<a.aB))→∀a':Ar,a'.bs=bs→a'.aB=a.aB→P a'):P (fA a b p d e).1:=by
 unfold fA;split
 ·exact h0
 split
 ·exact h0
 rename_i hp;split
 ·exact h0
 split
 ·exact h0
 rename_i bk hbk;have hmem:=List.mem_of_getElem? hbk;split
 ·exact h0
 rename_i uC;split
 ·exact h0
 have hlen:(bk.pg.length:Int)<a.aB:=by omega
 have key:∀x∈(bo a b bk).bs,x∈a.bs∨(∃y∈a.bs,x.pg=y.pg∨∃z:List UInt8,z.length=96∧x.pg=y.pg++[z]∧(y.pg.length:Int)<a.aB):=by
  intro x hx;rcases List.mem_or_eq_of_mem_set hx with hx|rfl
  ·exact .inl hx
  ·exact .inr ⟨bk,hmem,.inl (bq bk)⟩
 split
 ·exact h1 (bo a b bk).bs (fI ..) key _ rfl rfl
 split
 ·refine h1 _ (by simp [fI]) (fun x hx=> ?_) _ rfl rfl;rcases List.mem_or_eq_of_mem_set hx with hx|rfl
  ·exact key x hx
  ·exact .inr ⟨bk,hmem,.inr ⟨fo d 0,by rw[kx,hd],rfl,hlen⟩⟩
 ·refine h1 _ (by simp [fI]) (fun x hx=> ?_) _ rfl rfl;rcases List.mem_or_eq_of_mem_set hx with hx|rfl
  ·exact key x hx
  ·exact .inr ⟨bk,hmem,.inr ⟨d,hd,rfl,hlen⟩⟩
theorem Nl (n:Nat):iQ n<18446744073709551616:=Nat.mod_lt _ (by omega)
theorem aX.prog {g:bZ} (hok:aX g s) (b p:Nat) {d:List UInt8} (hd:d.length=96) (e:Int):aX g {s with a:=(fA s.a b p d e).1}:=by
 refine Kn (P:=fun a=>aX g {s with a:=a}) hok hd (fun bs hl hx a' hb hp=> ?_);refine {hok with n:= ?_,p:= ?_,len:= ?_,d:= ?_}
 ·show ((a'.bs.length:Nat):Int)=_;rw[hb,hl];exact hok.n
 ·show a'.aB=_;rw[hp];exact hok.p
 ·intro x hh;have hh:x∈a'.bs:=hh;rw[hb] at hh;rcases hx x hh with h|⟨y,hy,h|⟨z,_,h,hlt⟩⟩
  ·exact hok.len x h
  ·rw[h];exact hok.len y hy
  ·rw[h];have:=hok.p;simp;omega
 ·intro x hh d' hd';have hh:x∈a'.bs:=hh;rw[hb] at hh;rcases hx x hh with h|⟨y,hy,h|⟨z,hz,h,hlt⟩⟩
  ·exact hok.d x h d' hd'
  ·rw[h] at hd';exact hok.d y hy d' hd'
  ·rw[h] at hd';rcases List.mem_append.1 hd' with hd'|hd'
   ·exact hok.d y hy d' hd'
   ·rw[List.mem_singleton] at hd';rw[hd'];exact hz
theorem aX.G9 {g:bZ} (hok:aX g s):aX g {s with f:={s.f with seq:=iQ s.f.seq}}:={hok with seq:=Nl _}
theorem A9 {a:Ar} {b:Nat} (hb:b<a.bs.length) {d:List UInt8} {e:Int} (h:(fA a b (a.bs.getD b fp).pg.length d e).2=0):((a.bs.getD b fp).pg.length:Int)<a.aB:=by
 unfold fA at h;split at h
 ·cases h
 split at h
 ·cases h
 omega
theorem aX.bT {g:bZ} (hg:g.In) (hok:aX g s) {b:Nat} (hb:b∈g.us) {x:Sh} (Qn:x.data.length≤64):aX g (bT s b x).1:=by
 have hl:(dR {x with ep:=s.f.ep,seq:=iQ s.f.seq}).length=96:=lf _ Qn;have h1:=(hok.prog b (s.next b) hl (s.f.ep:Int)).G9;unfold Go.Proofs.YtlgdkndamddpkaaGreat.bT;simp only;split
 ·exact h1.bu hg hb (h:=3) (by omega)
 split
 ·rename_i h0;have hlt:=hok.lt hb;have hpos:=A9 hlt h0;have hp:=hok.p;have abu:=hg.p;refine {h1 with pm:= ?_,na:= ?_}
  ·exact hok.pm.put (fun b' p' he=>by
    cases he;have:=m0 hb;have:=hok.nb;unfold FS.next
    omega)
  ·show (((s.f.pm.put x.ar (some (b,s.next b))).cw.length:Nat):Int)=_
   unfold Pm.put;rw[List.length_set];exact hok.na
 ·exact h1
theorem E8 (hm:dF B L m) (hg:m.g.In) (h:fK B H aH fid mid pid m s L) (hok:aX m.g s) {b:Nat} (hb:b∈m.g.us) {x:Sh} {q:Oq} {c:Nat} (hr:lE B L q x.data) (h1:x.cK<256) (h4:(x.ar:Int)≤m.g.cap) (hcap:m.g.cap<65000) (h5:x.fr≤256) (h6:x.data.length≤64) (k:∀H',fK B H' aH fid mid pid m (bT s b x).1 L→K (.int .i64 (bT s b x).2) H'):cl 141 [.aj (some (fid,0)),.int .i64 (b:Int),zD x q c] H K:=by
 have g:=v8 h;have hlt:=hok.lt hb;have hsq:=hok.seq;unfold zD;rw[W0]
 have e1:IntKind.u64.wrap ((s.f.seq:Int)+1)=(iQ s.f.seq:Int):=by
  rw[IntKind.wrap_u64];unfold iQ;omega
 obtain⟨w,hst⟩:=h.yy (k:=8) (by show 8<9;omega) (.int .u64 (iQ s.f.seq:Int));have hS:fK B (H.store fid 8 [.int .u64 (iQ s.f.seq:Int)]) aH fid mid pid m {s with f:={s.f with seq:=iQ s.f.seq}} L:=hst;simp only[AN,reduceIte,Nat.reduceEqDiff,Option.isSome_some,Nat.zero_add,g.i 8 (by omega),g.c8,e1,w];generalize (af.store _ _ _ _)=H1 at hS⊢;clear hst;have g1:=v8 hS;have fS:=hok.G9;simp only[g1.i 0 (by omega),g1.i 5 (by omega),g1.i 8 (by omega),g1.c0,g1.c5,g1.c8,AN,reduceIte,Nat.reduceEqDiff];rw[tG (fK.sG hS) hlt]
 have ml:((s.a.bs[b]'hlt).pg.length)=s.next b:=by
  unfold FS.next;rw[List.getD_eq_getElem?_getD,List.getElem?_eq_getElem hlt];rfl
 rw[show (({s with f:={s.f with seq:=iQ s.f.seq}}:FS).a.bs[b]'hlt).pg.length=s.next b from ml];simp only[AN,reduceIte,Nat.reduceEqDiff,g1.i 0 (by omega),g1.i 5 (by omega),g1.c0,g1.c5];obtain⟨y,hy⟩:∃y:Sh,y={x with ep:=s.f.ep,seq:=iQ s.f.seq}:=⟨_,rfl⟩;have hyV:V.agg (eZ (x.cK:Int) (s.f.ep:Int) (iQ s.f.seq:Int) (x.ar:Int) ((x.fr:Int)-1) q x.data.length c)=zD y q c:=by rw[hy];rfl
 rw[hyV];have hyl:(dR y).length=96:=lf _ (by rw[hy];exact h6)
 have TL:∀(K:V→af→Prop),(∀q' c' H',fK B H' aH fid mid pid m {s with f:={s.f with seq:=iQ s.f.seq}} (BY q' c' (dR y)::L)→K (.slice q' (dR y).length c') H')→cl 133 [zD y q c] H1 K:=fun K k=>
  IF hS (by rw[hy];exact((((hr.bO _).bO _).bO _).bO _)) (by rw[hy];exact h1) (by rw[hy];exact hok.ep) (by rw[hy];exact Nl _) (by rw[hy];show x.ar<_;omega) (by rw[hy];exact h5) (by rw[hy];exact h6) (fun q' c' H' h'=>k q' c' H' (h'.ord [1,1,1,1]))
 obtain⟨r,FL⟩:∃r,r=fA s.a b (s.next b) (dR y) s.f.ep:=⟨_,rfl⟩
 have P:∀(K:V→af→Prop) q' c' H',fK B H' aH fid mid pid m {s with f:={s.f with seq:=iQ s.f.seq}} (BY q' c' (dR y)::L)→(∀H2,fK B H2 aH fid mid pid m ⟨r.1,{s.f with seq:=iQ s.f.seq}⟩ L→K (.int .i64 r.2) H2)→
  cl 151 [.aj (some (aH,0)),.int .i64 (b:Int),.int .i64 (s.next b:Int),.slice q' (dR y).length c',.int .u64 (s.f.ep:Int)] H' K:=by
  intro K q' c' H' h' k;have Uo:s.a.aB≤1000:=by have:=hok.p;have:=hg.p;omega
  refine GU (fK.sG h') hlt (s.next b) (fun H h=>(h.ord [4]).iY) (by omega) (s.f.ep:Int) Uo (fun H2 h2=> ?_);rw[FL] at k;exact k H2 ((h2.ord [4]).drop.ord [1,1,1])
 have fin:∀(Q:Am.St→Prop),(∀H2,fK B H2 aH fid mid pid m ⟨r.1,{s.f with seq:=iQ s.f.seq}⟩ L→Q (St.mk (ab [(8,T.v (V.int .i64 r.2))]) (ab []) H2))→
  ∀q' c' H',fK B H' aH fid mid pid m {s with f:={s.f with seq:=iQ s.f.seq}} (BY q' c' (dR y)::L)→
  cl 151 [.aj (some (aH,0)),.int .i64 (b:Int),.int .i64 (s.next b:Int),.slice q' (dR y).length c',.int .u64 (s.f.ep:Int)] H' (fun v H'=>ag (V.av (.int .i64) v) (Q (St.mk (ab [(8,T.v (V.int .i64 (V.aa v)))]) (ab []) H'))):=by
  intro Q hQ q' c' H' h';refine P _ q' c' H' h' (fun H2 h2=> ?_);simp only[AJ,reduceIte,Nat.reduceEqDiff];exact hQ H2 h2
 refine kv (fun S:Am.St=>S.1 8=some (T.v (V.int .i64 r.2))∧fK B S.3 aH fid mid pid m ⟨r.1,{s.f with seq:=iQ s.f.seq}⟩ L) (fun(S:Am.St) Qw=> ?_) (fun Q' hQ=> ?_)
 ·obtain⟨hS8,OC⟩:=Qw;generalize S.3=H2 at OC⊢;have g2:=v8 OC
  have hk:bT s b x=if r.2=8∨r.2=6 then (⟨r.1,{s.f with seq:=iQ s.f.seq,po:=s.f.po.set b 3}⟩,8)
   else if r.2=0 then (⟨r.1,{s.f with seq:=iQ s.f.seq,pm:=s.f.pm.put x.ar (some (b,s.next b))}⟩,0)
   else (⟨r.1,{s.f with seq:=iQ s.f.seq}⟩,r.2):=by rw[FL,hy];rfl
  rw[hk] at k;simp only[hS8,AJ,reduceIte,Nat.reduceEqDiff];have YN:aX m.g ⟨r.1,{s.f with seq:=iQ s.f.seq}⟩:=by rw[FL];exact(hok.prog b (s.next b) hyl (s.f.ep:Int)).G9
  by_cases YO:r.2=8∨r.2=6
  ·rw[if_pos YO] at k
   have e:(bif !decide (r.2=8) then decide (r.2=6) else true)=true:=by
    rcases YO with h|h<;>simp [h]
   rw[e,au];simp only[Option.isSome_some,Nat.zero_add,g2.i 7 (by omega),g2.c7,AJ,reduceIte,Nat.reduceEqDiff];refine kj (hw:=3) (fK.po OC) YN.po (YN.how hb) (by omega) (fun e H3 h3=> ?_);simp only[AJ,reduceIte,Nat.reduceEqDiff];exact k H3 (h3.ord [1,1])
  ·rw[if_neg YO] at k
   have e:(bif !decide (r.2=8) then decide (r.2=6) else true)=false:=by
    have h8:¬r.2=8:=fun h=>YO (.inl h)
    have h6:¬r.2=6:=fun h=>YO (.inr h)
    simp [h8,h6]
   rw[e,ai];by_cases h0:r.2=0
   ·rw[if_pos h0] at k;simp only[h0,decide_true,au,Option.isSome_some,Nat.zero_add,g2.i 6 (by omega),g2.c6,AJ,reduceIte,Nat.reduceEqDiff];have hna:=hok.na;have hnb:=hok.nb;have Jy:=m0 hb;have hpos:=A9 hlt (d:=dR y) (e:=(s.f.ep:Int)) (by rw[FL] at h0;exact h0);have hp:=hok.p;have abu:=hg.p;refine IL (fK.pm OC) hok.pm (a:=x.ar) (b:=b) (p:=s.next b) (by show x.ar<s.f.pm.cw.length;omega) (by show b<s.f.pm.nb;omega) (by unfold FS.next;omega) (fun H3 h3=> ?_);simp only[AJ,reduceIte,Nat.reduceEqDiff];exact k H3 (h3.ord [1])
   ·rw[if_neg h0] at k;simp only[h0,decide_false,ai];exact k H2 OC
 ·have fin':=fin Q' (fun H2 h2=>hQ _ ⟨rfl,h2⟩)
  repeat' apply And.intro
  all_goals first
   |refine TL _ (fun q' c' H' h'=> ?_)
    have g':=v8 h';simp only[AJ,reduceIte,Nat.reduceEqDiff,g'.i 0 (by omega),g'.i 5 (by omega),g'.c0,g'.c5,and_self];exact fin' q' c' H' h'
end
def oh (g:bZ):Nat→FS→Nat→Nat→Option (FS×Int×Nat)
 |0,_,_,_=>none
 |n+1,s,v,d=>if s.f.pm.dO v=0 then some (s,0,d) else match s.f.pm.on v with
  |[]=>none
  |a::_=>match s.mZ a.toNat with
   |none=>none
   |some x=>if (x.ar:Int)≤g.cap then
    (if (bT s d {x with fr:=v+1}).2=8 then match (bT s d {x with fr:=v+1}).1.cZ with
     |none=>some ((bT s d {x with fr:=v+1}).1,10,0)
     |some d'=>oh g n (bT s d {x with fr:=v+1}).1 v d'
    else if (bT s d {x with fr:=v+1}).2=0 then oh g n (bT s d {x with fr:=v+1}).1 v d
    else some ((bT s d {x with fr:=v+1}).1,(bT s d {x with fr:=v+1}).2,0)) else none
def gV (g:bZ) (n:Nat) (s:FS):Option (FS×Int):=match s.iM with
 |none=>some (s,10)
 |some v=>if s.f.pm.dO v=0 then some (bB s v) else match s.cZ with
  |none=>some (s,10)
  |some d=>if (s.f.pm.dO v:Int)=g.aB then some (s,10) else match oh g n s v d with
   |none=>none
   |some (s1,e,d1)=>if e=0 then (if (bB s1 v).2=0 then some ((bB s1 v).1.bu d1 2,0) else some (bB s1 v)) else some (s1,e)
mutual
def iZ (g:bZ) (k:Nat):Nat→FS→Option (FS×Int×Nat)
 |0,_=>none
 |n+1,s=>match s.f.po.j5 with
  |some b=>if (s.next b:Int)<g.aB then some (s,0,b) else lh g k n (s.bu b 1)
  |none=>lh g k n s
def lh (g:bZ) (k:Nat) (n:Nat) (s:FS):Option (FS×Int×Nat):=
 if (s.f.po.count 3:Int)>g.aG then some (s,10,0)
 else if (s.f.po.count 0:Int)>1+g.aG-s.f.po.count 3 then match s.cZ with
  |none=>none
  |some b=>iZ g k n (s.bu b 2)
 else match gV g k s with
  |none=>none
  |some (s1,e)=>if e=0 then iZ g k n s1 else some (s1,e,0)
end
def tW (g:bZ) (k:Nat):Nat→FS→Sh→Option (FS×Int)
 |0,_,_=>none
 |n+1,s,x=>match iZ g k k s with
  |none=>none
  |some (s1,e,b)=>if e=0 then (if (bT s1 b x).2=8 then tW g k n (bT s1 b x).1 x else some (bT s1 b x)) else some (s1,e)
section
variable {B:af} {L:List cq} {H:af} {K:V→af→Prop} {aH fid mid pid:Nat} {m:Gm} {s:FS}
theorem nV (h:Nat) (w:List Int):∀(l:List (Nat×Nat)) (o:Option Nat) (b:Nat),fZ h w l o=some b→o=some b∨(b,h)∈l
 |[],o,b,hh=>.inl hh
 |x::l,o,b,hh=>by
  rw[lS] at hh;split at hh
  ·exact(nV h w l o b hh).imp id (List.mem_cons_of_mem _)
  ·rename_i hx
   have ux:x.2=h:=by
    by_cases e:x.2=h
    ·exact e
    ·exact absurd (.inl e) hx
   have key:fZ h w l (some x.1)=some b→o=some b∨(b,h)∈x::l:=fun hh=>by
    rcases nV h w l _ b hh with e|e
    ·cases e;right;rw[←ux];exact List.mem_cons_self
    ·exact .inr (List.mem_cons_of_mem _ e)
   cases o with
   |none=>exact key hh
   |some b0=>
    simp only at hh;split at hh
    ·exact key hh
    ·exact(nV h w l _ b hh).imp id (List.mem_cons_of_mem _)
theorem qt {p:Po} {h b:Nat} {w:List Int} (hh:p.iM h w=some b):(b,h)∈p.bl:=(nV h w _ _ b hh).elim (fun e=>by cases e) id
theorem aX.pP {g:bZ} (hok:aX g s) {b:Nat} (h:s.cZ=some b):b∈g.us:=by
 rw[←hok.us];exact List.mem_map.2 ⟨_,qt h,rfl⟩
theorem aX.yN {g:bZ} (hok:aX g s) {b:Nat} (h:s.iM=some b):b∈g.us:=by
 rw[←hok.us];exact List.mem_map.2 ⟨_,qt h,rfl⟩
theorem aX.PE {g:bZ} (hok:aX g s) {b:Nat} (h:s.f.po.j5=some b):b∈g.us:=by
 rw[←hok.us];exact List.mem_map.2 ⟨_,pO h,rfl⟩
theorem vn {s:FS} {a:Nat} (ha:a<65536) {x:Sh} (h:s.mZ a=some x):x.cK≤3∧x.data.length≤64:=by
 unfold FS.mZ at h;split at h
 ·cases h;exact⟨by show (2:Nat)≤3;omega,by simp⟩
 ·split at h
  ·have:=(r6 h).1;exact⟨this.k3,this.dl⟩
  ·cases h
theorem tX {mm:Pm} (hok:mm.ok) {b:Nat} {a:Int} (h:a∈mm.on b):0≤a∧a<mm.cw.length:=by
 unfold Pm.on at h;split at h
 ·cases h
 ·unfold Lr at h;obtain⟨p,hp,he⟩:=List.mem_filterMap.1 h;have:=qp b mm.cw 0 mm.cw.length (fun _=>0) (by omega) (fun k=>by omega) p;have e:mm.by b p=DE b mm.cw 0 (fun _=>0) p:=rfl
  split at he
  ·cases he;omega
  ·cases he
theorem CY (hm:dF B L m) (hg:m.g.In) (hcap:m.g.cap<65000) {v:Nat} (hv:v∈m.g.us) {Kr:Am.St→Prop} {Ke:Nat→Am.St→Prop}:∀(n:Nat) (s:FS) (d:Nat) {H:af} {r:FS×Int×Nat},oh m.g n s v d=some r→aX m.g s→d∈m.g.us→fK B H aH fid mid pid m s L→(r.2.1=0→aX m.g r.1→r.2.2∈m.g.us→∀H',fK B H' aH fid mid pid m r.1 L→Ke 0 (St.mk (ab [(0,T.v (V.aj (some (fid,0)))),(3,T.v (V.int .i64 (v:Int))),(5,T.v (V.int .i64 (r.2.2:Int)))]) (ab []) H'))→(r.2.1≠0→∀H',fK B H' aH fid mid pid m r.1 L→Kr (St.mk (ab [(2,T.v (V.int .i64 r.2.1))]) (ab []) H'))→lo 150 12 (St.mk (ab [(0,T.v (V.aj (some (fid,0)))),(3,T.v (V.int .i64 (v:Int))),(5,T.v (V.int .i64 (d:Int)))]) (ab []) H) Kr Ke
 |0,s,d,H,r,hf,hok,hd,h,k1,k2=>by cases hf
 |n+1,s,d,H,r,hf,hok,hd,h,k1,k2=>by
  have g:=v8 h;have Lu:v<s.f.pm.nb:=by have:=m0 hv;have:=hok.nb;omega
  rw[Mo];simp only[AJ,reduceIte,Nat.reduceEqDiff,Option.isSome_some,Nat.zero_add,g.i 6 (by omega),g.c6];rw[mU h.pm Lu];simp only[AJ,reduceIte,Nat.reduceEqDiff];rw[oh] at hf;by_cases hc:s.f.pm.dO v=0
  ·rw[if_pos hc] at hf;cases hf;have qJ:¬(s.f.pm.dO v:Int)>0:=by omega
   simp only[qJ,decide_false,ai];exact k1 rfl hok hd H h
  rw[if_neg hc] at hf;have qJ:(s.f.pm.dO v:Int)>0:=by omega
  simp only[qJ,decide_true,au,g.i 6 (by omega),g.c6,AJ,reduceIte,Nat.reduceEqDiff];refine Nf h.pm hok.pm Lu (fun q1 c1 H1 h1=> ?_)
  cases Lt:s.f.pm.on v with
  |nil=>rw[Lt] at hf;cases hf
  |cons a l=>
   rw[Lt] at hf h1;dsimp only at hf;have har:=tX hok.pm (by rw[Lt];exact List.mem_cons_self:a∈s.f.pm.on v);obtain⟨s1,s2,s3⟩:=(az.tD h1).at (i:=0) (by simp);rw[Nat.zero_mul,Nat.add_zero] at s2 s3;simp only[qM,qN] at s2 s3;have a1:0<(((l.length+1:Nat)):Int):=by omega
   simp only[AJ,reduceIte,Nat.reduceEqDiff,a1,s1,s2,s3,List.getElem_cons_zero];have DB:fK B H1 aH fid mid pid m s (IR q1 c1 (a::l)::L):=h1.ord [2,1,1,1];have hna:=hok.na;obtain⟨ar,rfl⟩:∃ar:Nat,a=(ar:Int):=⟨a.toNat,by omega⟩;rw[Int.toNat_natCast] at hf
   cases sA:s.mZ ar with
   |none=>rw[sA] at hf;cases hf
   |some x=>
    rw[sA] at hf;dsimp only at hf;by_cases Uq:(x.ar:Int)≤m.g.cap
    case neg=>rw[if_neg Uq] at hf;cases hf
    rw[if_pos Uq] at hf;have abH:m.g.cap<65000:=hcap;obtain⟨hx1,ux⟩:=vn (by omega) sA;refine IZ (hm.bO _) DB hok hg (by omega) sA (fun q2 c2 H2 h2=> ?_);unfold zD;simp only[AJ,reduceIte,Nat.reduceEqDiff,f125,El,yg,yh,yi,yj,yk,yl];have OC:fK B H2 aH fid mid pid m s (BY q2 c2 x.data::L):=(h2.ord [5]).drop;obtain⟨y,hy⟩:∃y:Sh,y={x with fr:=v+1}:=⟨_,rfl⟩;have abM:v<64:=by have:=m0 hv;have:=hg.b;omega
    have hyV:V.agg (eZ (x.cK:Int) (x.ep:Int) (x.seq:Int) (x.ar:Int) (v:Int) q2 x.data.length c2)=zD y q2 c2:=by
     rw[hy];unfold zD;simp only;have:((v+1:Nat):Int)-1=(v:Int):=by omega
     rw[this]
    rw[hyV];rw[←hy] at hf;have hyd:y.data=x.data:=by rw[hy]
    have fh:=hok.bT hg hd (x:=y) (by rw[hyd];exact ux);refine E8 (hm.bO _) hg OC hok hd (x:=y) (by rw[hyd];exact fun H h=>h.iY) (by rw[hy];show x.cK<256;omega) (by rw[hy];exact Uq) hcap (by rw[hy];show v+1≤256;omega) (by rw[hyd];exact ux) (fun H3 h3=> ?_);have RA:fK B H3 aH fid mid pid m (bT s d y).1 L:=(h3.ord [4]).drop;simp only[AJ,reduceIte,Nat.reduceEqDiff];by_cases h8:(bT s d y).2=8
    ·rw[if_pos h8] at hf;simp only[h8,decide_true,au];refine CV hg RA fh (fun H4 h4=> ?_);simp only[AJ,reduceIte,Nat.reduceEqDiff]
     cases hfr:(bT s d y).1.cZ with
     |none=>
      rw[hfr] at hf;cases hf;simp only[Option.isSome_none,Bool.not_false,au];exact k2 (by show (10:Int)≠0;decide) H4 h4
     |some d'=>
      rw[hfr] at hf;simp only[Option.isSome_some,Bool.not_true,ai,Option.getD_some];exact CY hm hg hcap hv n _ d' hf fh (fh.pP hfr) h4 k1 k2
    ·rw[if_neg h8] at hf;simp only[h8,decide_false,ai];by_cases h0:(bT s d y).2=0
     ·rw[if_pos h0] at hf;simp only[h0,decide_true,Bool.not_true,ai];exact CY hm hg hcap hv n _ d hf fh hd RA k1 k2
     ·rw[if_neg h0] at hf;cases hf;simp only[h0,decide_false,Bool.not_false,au];exact k2 h0 H3 RA
theorem pQ {g:bZ} (hg:g.In) (hcap:g.cap<65000) {v:Nat} (hv:v∈g.us):∀(n:Nat) (s:FS) (d:Nat) {r:FS×Int×Nat},oh g n s v d=some r→aX g s→d∈g.us→aX g r.1∧(r.2.1=0→r.2.2∈g.us)
 |0,s,d,r,hf,hok,hd=>by cases hf
 |n+1,s,d,r,hf,hok,hd=>by
  rw[oh] at hf;split at hf
  ·cases hf;exact⟨hok,fun _=>hd⟩
  split at hf
  ·cases hf
  rename_i a l Lt;have har:=tX hok.pm (by rw[Lt];exact List.mem_cons_self:a∈s.f.pm.on v);have hna:=hok.na;split at hf
  ·cases hf
  rename_i x sA;obtain⟨hx1,ux⟩:=vn (by omega) sA;have fh:=hok.bT hg hd (x:={x with fr:=v+1}) ux;split at hf
  case isFalse=>cases hf
  split at hf
  ·split at hf
   ·cases hf;exact⟨fh,fun h=>by cases h⟩
   ·rename_i d' hfr;exact pQ hg hcap hv n _ d' hf fh (fh.pP hfr)
  split at hf
  ·exact pQ hg hcap hv n _ d hf fh hd
  ·rename_i h0;cases hf;exact⟨fh,fun h=>absurd h h0⟩
end
end Go.Proofs.YtlgdkndamddpkaaGreat
end
section
namespace Go.Proofs.YtlgdkndamddpkaaGreat
open Go.Am
def I0 (g:bZ) (k:Nat) (s:FS) (ar:Nat):Option (FS×Int):=
 if (s.f.pm.cw.getD ar none).isSome then tW g k k s ⟨2,0,0,ar,0,[]⟩ else some (s,0)
section
variable {B:af} {L:List cq} {H:af} {K:V→af→Prop} {aH fid mid pid:Nat} {m:Gm} {s:FS}
theorem Ha (hm:dF B L m) (hg:m.g.In) (hcap:m.g.cap<65000) {n:Nat} (h:fK B H aH fid mid pid m s L) (hok:aX m.g s) {r:FS×Int} (hf:gV m.g n s=some r) (k:aX m.g r.1→∀H',fK B H' aH fid mid pid m r.1 L→K (.int .i64 r.2) H'):cl 150 [.aj (some (fid,0))] H K:=by
 have g:=v8 h;rw[W9];refine kv (fun S:Am.St=>S.1 3=some (T.v (V.int .i64 ((s.iM.getD 0:Nat):Int)))∧S.1 4=some (T.v (V.bool s.iM.isSome))∧fK B S.3 aH fid mid pid m s L) (fun(S:Am.St) Qw=> ?_) (fun Q hQ=> ?_)
 ·obtain⟨RA,hS4,hS⟩:=Qw;generalize S.3=H1 at hS⊢;have g1:=v8 hS;unfold gV at hf;simp only[RA,hS4,AN,reduceIte,Nat.reduceEqDiff]
  cases hl:s.iM with
  |none=>
   rw[hl] at hf;cases hf;simp only[Option.isSome_none,Bool.not_false,au];exact k hok H1 hS
  |some v=>
   rw[hl] at hf;dsimp only at hf;have hv:=hok.yN hl;have Lu:v<s.f.pm.nb:=by have:=m0 hv;have:=hok.nb;omega
   simp only[Option.isSome_some,Bool.not_true,ai,Option.getD_some,Nat.zero_add,g1.i 6 (by omega),g1.c6,AN,reduceIte,Nat.reduceEqDiff];rw[mU hS.pm Lu];simp only[AN,reduceIte,Nat.reduceEqDiff];by_cases hc:s.f.pm.dO v=0
   ·rw[if_pos hc] at hf;cases hf;have qJ:(s.f.pm.dO v:Int)=0:=by omega
    simp only[qJ,decide_true,au];refine vm hm hg hS hok hv (fun H2 h2=> ?_);simp only[AJ,reduceIte,Nat.reduceEqDiff];exact k (hok.bB hg hv) H2 h2
   rw[if_neg hc] at hf;have qJ:¬(s.f.pm.dO v:Int)=0:=by omega
   simp only[qJ,decide_false,ai];refine CV hg hS hok (fun H2 h2=> ?_);have g2:=v8 h2;simp only[AN,reduceIte,Nat.reduceEqDiff]
   cases hfr:s.cZ with
   |none=>
    rw[hfr] at hf;cases hf;simp only[Option.isSome_none,Bool.not_false,Bool.not_true,ai,dD,AJ,reduceIte,Nat.reduceEqDiff,au];exact⟨k hok H2 h2,k hok H2 h2⟩
   |some d=>
    rw[hfr] at hf;dsimp only at hf;have hd:=hok.pP hfr;simp only[Option.isSome_some,Bool.not_false,Bool.not_true,au,Option.getD_some,Nat.zero_add,g2.i 6 (by omega),g2.i 2 (by omega),g2.c6,g2.c2,dD,AJ,reduceIte,Nat.reduceEqDiff];have e:∀K:V→af→Prop,cl 65 [V.aj (some (mid,0)),V.int .i64 (v:Int)] H2 K=K (.int .i64 (s.f.pm.dO v:Int)) H2:=fun K=>mU h2.pm Lu
    simp only[e,g2.i 2 (by omega),g2.c2,AJ,reduceIte,Nat.reduceEqDiff,and_self];by_cases hp:(s.f.pm.dO v:Int)=m.g.aB
    ·rw[if_pos hp] at hf;cases hf;simp only[hp,decide_true,au];exact k hok H2 h2
    rw[if_neg hp] at hf;simp only[hp,decide_false,ai]
    cases pX:oh m.g n s v d with
    |none=>rw[pX] at hf;cases hf
    |some o=>
     obtain⟨s1,e1,d1⟩:=o;rw[pX] at hf;dsimp only at hf;refine CY hm hg hcap hv n s d pX hok hd h2 (fun h0 fS Lk H3 h3=> ?_) (fun h0 H3 h3=> ?_)
     ·rw[if_pos h0] at hf;simp only[AJ,reduceIte,Nat.reduceEqDiff];have h0:e1=0:=h0;refine vm hm hg h3 fS hv (fun H4 h4=> ?_);have g4:=v8 h4;have Qx:=fS.bB hg hv;simp only[AJ,reduceIte,Nat.reduceEqDiff];by_cases he:(bB s1 v).2=0
      ·rw[if_pos he] at hf;cases hf;simp only[he,decide_true,Bool.not_true,ai,Nat.zero_add,Option.isSome_some,g4.i 7 (by omega),g4.c7,AJ,reduceIte,Nat.reduceEqDiff];refine kj (hw:=2) h4.po Qx.po (Qx.how Lk) (by omega) (fun e H5 h5=> ?_);simp only[AJ,reduceIte,Nat.reduceEqDiff];exact k (Qx.bu hg Lk (by omega)) H5 (h5.ord [1,1])
      ·rw[if_neg he] at hf;cases hf;simp only[he,decide_false,Bool.not_false,au];exact k Qx H4 h4
     ·have h0:e1≠0:=h0;rw[if_neg h0] at hf;cases hf;simp only[AJ,reduceIte,Nat.reduceEqDiff];exact k (pQ hg hcap hv n s d pX hok hd).1 H3 h3
 ·simp only[AJ,reduceIte,Nat.reduceEqDiff,Option.isSome_some,Nat.zero_add,g.i 6 (by omega),g.i 7 (by omega),g.c6,g.c7]
  have fin:∀q c H',fK B H' aH fid mid pid m s (IR q c s.f.pm.gU::L)→∀K':V→af→Prop,K' (.tuple [.int .i64 ((s.iM.getD 0:Nat):Int),.bool s.iM.isSome]) H'→
   cl 153 [.aj (some (pid,0)),.int .u8 1,.slice q s.f.pm.gU.length c] H' K':=fun q c H' h' K' kk=>
   A8 (hw:=1) h'.po hok.po (az.tD (h'.ord [4])) kk
  refine⟨IY hg h hok (fun q c H' h'=> ?_),IY hg h hok (fun q c H' h'=> ?_)⟩
  ·simp only[AJ,reduceIte,Nat.reduceEqDiff];refine fin q c H' h' _ ?_;simp only[AJ,reduceIte,Nat.reduceEqDiff];exact hQ _ ⟨rfl,rfl,(h'.ord [4]).drop⟩
  ·have g':=v8 h';simp only[AJ,reduceIte,Nat.reduceEqDiff,g'.i 7 (by omega),g'.c7];refine fin q c H' h' _ ?_;simp only[AJ,reduceIte,Nat.reduceEqDiff];exact hQ _ ⟨rfl,rfl,(h'.ord [4]).drop⟩
theorem E9 {g:bZ} (hg:g.In) (hcap:g.cap<65000) {n:Nat} (hok:aX g s) {r:FS×Int} (hf:gV g n s=some r):aX g r.1:=by
 unfold gV at hf;split at hf
 ·cases hf;exact hok
 rename_i v hl;have hv:=hok.yN hl;split at hf
 ·cases hf;exact hok.bB hg hv
 split at hf
 ·cases hf;exact hok
 rename_i d hfr;split at hf
 ·cases hf;exact hok
 split at hf
 ·cases hf
 rename_i s1 e d1 pX;have h1:=pQ hg hcap hv n s d pX hok (hok.pP hfr);split at hf
 ·rename_i h0;split at hf
  ·cases hf;exact(h1.1.bB hg hv).bu hg (h1.2 h0) (by omega)
  ·cases hf;exact h1.1.bB hg hv
 ·cases hf;exact h1.1
def Rm (fid:Nat) (Kr:Am.St→Prop) (Ke:Nat→Am.St→Prop) (H:af):Prop:=
 ag (Option.isSome (some (fid,0)))
  (nm (pb (some (fid,0))) fun n=>nm ((po (some (fid,0)))+7) fun n_2=>
   ag (af.inb H n n_2 1&&V.av .aj (af.cell H n n_2))
    (cl 93 [V.aj (V.an (af.cell H n n_2)),V.int .u8 3] H fun v H'=>
     ag (V.av (.int .i64) v)
      (ag (Option.isSome (some (fid,0)))
       (nm (pb (some (fid,0))) fun n=>nm ((po (some (fid,0)))+1+2) fun aT=>
        ag (af.inb H' n aT 1&&V.av (.int .i64) (af.cell H' n aT))
         (br (decide (V.aa v>V.aa (af.cell H' n aT)))
          (Kr (St.mk (ab [(2,T.v (V.int .i64 0)),(3,T.v (V.int .i64 10))]) (ab []) H'))
          (cC
           (fun Q=>
            ag (Option.isSome (some (fid,0)))
             (nm (pb (some (fid,0))) fun n=>nm ((po (some (fid,0)))+7) fun bF=>
              ag (af.inb H' n bF 1&&V.av .aj (af.cell H' n bF))
               (nm (V.an (af.cell H' n bF)) fun s=>
                ag (Option.isSome (some (fid,0)))
                 (nm (pb (some (fid,0))) fun n=>nm ((po (some (fid,0)))+1) fun cu=>
                  (cl 93 [V.aj s,V.int .u8 0] H' fun v_1 H'=>
                   ag (V.av (.int .i64) v_1)
                    (ag (af.inb H' n cu 4&&aJ AF (af.sub H' n cu 4))
                     (cl 148 [V.agg (vU (af.sub H' n cu 4)),V.int .i64 (V.aa v)] H' fun v H'=>
                      ag (V.av (.int .i64) v)
                       (Q (St.mk (ab [(62,T.v (V.bool (decide (V.aa v_1>V.aa v))))]) (ab []) H')))))∧
                  ag (af.inb H' n cu 4&&aJ AF (af.sub H' n cu 4))
                   (cl 93 [V.aj s,V.int .u8 0] H' fun v_1 H'_1=>
                    ag (V.av (.int .i64) v_1)
                     (cl 148 [V.agg (vU (af.sub H' n cu 4)),V.int .i64 (V.aa v)] H'_1 fun v H'=>
                      ag (V.av (.int .i64) v)
                       (Q (St.mk (ab [(62,T.v (V.bool (decide (V.aa v_1>V.aa v))))]) (ab []) H'))))))))
           fun S'=>
            ag (aI (KT.k .bool) (S'.1 62)||false||false)
             (br (V.ax (T.val (S'.1 62)))
              (cl 149 [V.aj (some (fid,0))] S'.3 fun v H'=>
               ag (V.aL 2 v&&(V.av (.int .i64) (ae (V.aq v) 0)&&(V.av .bool (ae (V.aq v) 1)||false)))
                (ag (Option.isSome (some (fid,0)))
                 (nm (pb (some (fid,0))) fun n=>nm ((po (some (fid,0)))+7) fun bF=>
                  ag (af.inb H' n bF 1&&V.av .aj (af.cell H' n bF))
                   (cl 63 [V.aj (V.an (af.cell H' n bF)),V.int .i64 (V.aa (ae (V.aq v) 0)),V.int .u8 2] H' fun v H'=>
                    ag (V.av (.int .i64) v)
                     (lo 140 1 (St.mk (ab [(0,T.v (V.aj (some (fid,0))))]) (ab []) H') Kr Ke)))))
              (cl 150 [V.aj (some (fid,0))] S'.3 fun v H'=>
               ag (V.av (.int .i64) v)
                (br (!decide (V.aa v=0))
                 (Kr (St.mk (ab [(2,T.v (V.int .i64 0)),(3,T.v (V.int .i64 (V.aa v)))]) (ab []) H'))
                 (lo 140 1 (St.mk (ab [(0,T.v (V.aj (some (fid,0))))]) (ab []) H') Kr Ke))))))))))
theorem CZ (hm:dF B L m) (hg:m.g.In) (hcap:m.g.cap<65000) {kf:Nat} {Kr:Am.St→Prop} {Ke:Nat→Am.St→Prop}:∀(n:Nat) (s:FS) {H:af} {r:FS×Int×Nat},iZ m.g kf n s=some r→aX m.g s→fK B H aH fid mid pid m s L→(aX m.g r.1→(r.2.1=0→r.2.2∈m.g.us)→∀H',fK B H' aH fid mid pid m r.1 L→Kr (St.mk (ab [(2,T.v (V.int .i64 (r.2.2:Int))),(3,T.v (V.int .i64 r.2.1))]) (ab []) H'))→lo 140 1 (St.mk (ab [(0,T.v (V.aj (some (fid,0))))]) (ab []) H) Kr Ke
 |0,s,H,r,hf,hok,h,k=>by rw[iZ] at hf;cases hf
 |n+1,s,H,r,hf,hok,h,k=>by
  have g:=v8 h;rw[Pf];simp only[AN,reduceIte,Nat.reduceEqDiff,Option.isSome_some,Nat.zero_add,g.i 7 (by omega),g.c7];refine E6 h.po hok.po ?_;simp only[AN,reduceIte,Nat.reduceEqDiff];have hgs:=hg.s
  have vC:∀h:Nat,s.f.po.count h≤62:=fun h=>by
   have h1:s.f.po.count h≤s.f.po.bl.length:=List.countP_le_length;have h2:s.f.po.bl.length=m.g.us.length:=by rw[←hok.us,List.length_map]
   have:=bZ.k6 m.g hg.b.2;omega
  have rest:∀(s:FS) {H:af},lh m.g kf n s=some r→aX m.g s→(∀h:Nat,s.f.po.count h≤62)→fK B H aH fid mid pid m s L→Rm fid Kr Ke H:=by
   intro s H hf hok vC h;unfold Rm;have g:=v8 h;simp only[AN,reduceIte,Nat.reduceEqDiff,Option.isSome_some,Nat.zero_add,g.i 7 (by omega),g.c7];refine vl h.po hok.po 3 (fun H1 h1=> ?_);have DB:fK B H1 aH fid mid pid m s L:=h1.ord [1,1];have g1:=v8 DB;simp only[AN,reduceIte,Nat.reduceEqDiff,Option.isSome_some,g1.i 3 (by omega),g1.c3];unfold lh at hf;by_cases hd:(s.f.po.count 3:Int)>m.g.aG
   ·rw[if_pos hd] at hf;cases hf;simp only[hd,decide_true,au];exact k hok (fun h=>by cases h) H1 DB
   rw[if_neg hd] at hf;simp only[hd,decide_false,ai];have hgc:=g1.g;refine kv (fun S:Am.St=>S.1 62=some (T.v (V.bool (decide ((s.f.po.count 0:Int)>1+m.g.aG-s.f.po.count 3))))∧fK B S.3 aH fid mid pid m s L) (fun(S:Am.St) Qw=> ?_) (fun Q hQ=> ?_)
   ·obtain⟨abv,OC⟩:=Qw;generalize S.3=H2 at OC⊢;simp only[abv,AJ,reduceIte,Nat.reduceEqDiff];by_cases hr:(s.f.po.count 0:Int)>1+m.g.aG-s.f.po.count 3
    ·rw[if_pos hr] at hf;simp only[hr,decide_true,au]
     cases hfr:s.cZ with
     |none=>rw[hfr] at hf;cases hf
     |some b=>
      rw[hfr] at hf;dsimp only at hf;have hb:=hok.pP hfr;refine CV hg OC hok (fun H3 h3=> ?_);have g3:=v8 h3;rw[hfr];simp only[AJ,reduceIte,Nat.reduceEqDiff,Option.isSome_some,Option.getD_some,g3.i 7 (by omega),g3.c7];refine kj (hw:=2) h3.po hok.po (hok.how hb) (by omega) (fun e H4 h4=> ?_);simp only[AJ,reduceIte,Nat.reduceEqDiff];exact CZ hm hg hcap n _ hf (hok.bu hg hb (by omega)) (h4.ord [1,1]) k
    ·rw[if_neg hr] at hf;simp only[hr,decide_false,ai]
     cases hc:gV m.g kf s with
     |none=>rw[hc] at hf;cases hf
     |some o=>
      obtain⟨s1,e⟩:=o;rw[hc] at hf;dsimp only at hf;refine Ha hm hg hcap OC hok hc (fun fS H3 h3=> ?_);simp only[AJ,reduceIte,Nat.reduceEqDiff];by_cases he:e=0
      ·rw[if_pos he] at hf;simp only[he,decide_true,Bool.not_true,ai];exact CZ hm hg hcap n _ hf fS h3 k
      ·rw[if_neg he] at hf;cases hf;simp only[he,decide_false,Bool.not_false,au];exact k fS (fun h=>absurd h he) H3 h3
   ·have RV:∀(H:af) (K:V→af→Prop),cl 148 [V.agg (ee m.g.aF m.g.aB m.g.aG m.q m.g.bP.length m.c),V.int .i64 (s.f.po.count 3:Int)] H K=K (.int .i64 (1+m.g.aG-(s.f.po.count 3:Int))) H:=fun H K=>
     GQ (m:=m) hg (by have:=vC 3;omega)
    simp only[AJ,reduceIte,Nat.reduceEqDiff,Option.isSome_some,Nat.zero_add,g1.i 7 (by omega),g1.c7,hgc.1,hgc.2,f25,uV,mH,mI,mJ,mK];refine⟨vl DB.po hok.po 0 (fun H3 h3=> ?_),vl DB.po hok.po 0 (fun H3 h3=> ?_)⟩
    all_goals
     have RA:fK B H3 aH fid mid pid m s L:=h3.ord [1,1];have g3:=(v8 RA).g;simp only[AJ,reduceIte,Nat.reduceEqDiff,g3.1,g3.2,f25,uV,mH,mI,mJ,mK];rw[RV];simp only[AJ,reduceIte,Nat.reduceEqDiff];exact hQ _ ⟨rfl,RA⟩
  rw[iZ] at hf
  cases ho:s.f.po.j5 with
  |none=>
   rw[ho] at hf;dsimp only at hf;simp only[Option.isSome_none,ai,dD,and_self,AJ,reduceIte,Nat.reduceEqDiff];have:=rest s hf hok vC h;unfold Rm at this;simp only[AJ,reduceIte,Nat.reduceEqDiff] at this;exact this
  |some b=>
   rw[ho] at hf;dsimp only at hf;have hb:=hok.PE ho;have hlt:=hok.lt hb
   have ml:((s.a.bs[b]'hlt).pg.length)=s.next b:=by
    unfold FS.next;rw[List.getD_eq_getElem?_getD,List.getElem?_eq_getElem hlt];rfl
   have NX:∀K:V→af→Prop,cl 64 [V.aj (some (aH,0)),V.int .i64 (b:Int)] H K=K (.int .i64 (s.next b:Int)) H:=fun K=>by
    rw[tG (fK.sG h) hlt,ml]
   simp only[Option.isSome_some,Option.getD_some,au,dD,NX,g.i 0 (by omega),g.i 2 (by omega),g.c0,g.c2,AJ,reduceIte,Nat.reduceEqDiff];refine And.intro ?_ ?_
   all_goals
    by_cases hlt:(s.next b:Int)<m.g.aB
    ·rw[if_pos hlt] at hf;cases hf;simp only[hlt,decide_true,au];exact k hok (fun _=>hb) H h
    ·rw[if_neg hlt] at hf;simp only[hlt,decide_false,ai,g.i 7 (by omega),g.c7,AJ,reduceIte,Nat.reduceEqDiff];refine kj (hw:=1) h.po hok.po (hok.how hb) (by omega) (fun e H1 h1=> ?_);have fS:=hok.bu hg hb (h:=1) (by omega);simp only[AJ,reduceIte,Nat.reduceEqDiff];have:=rest _ hf fS (fun h=> ?_) (h1.ord [1,1])
     ·unfold Rm at this;simp only[AJ,reduceIte,Nat.reduceEqDiff,dD] at this;exact this
     ·have h1:(s.bu b 1).f.po.count h≤(s.bu b 1).f.po.bl.length:=List.countP_le_length;have h2:(s.bu b 1).f.po.bl.length=m.g.us.length:=by rw[←fS.us,List.length_map]
      have:=bZ.k6 m.g hg.b.2;omega
end
section
variable {B:af} {L:List cq} {H:af} {K:V→af→Prop} {aH fid mid pid:Nat} {m:Gm} {s:FS}
theorem Nm (hm:dF B L m) (hg:m.g.In) (hcap:m.g.cap<65000) {kf:Nat} {x:Sh} {q:Oq} {c:Nat} (hr:lE B L q x.data) (h1:x.cK<256) (h4:(x.ar:Int)≤m.g.cap) (h5:x.fr≤256) (h6:x.data.length≤64) {Kr:Am.St→Prop} {Ke:Nat→Am.St→Prop}:∀(n:Nat) (s:FS) {H:af} {r:FS×Int},tW m.g kf n s x=some r→aX m.g s→fK B H aH fid mid pid m s L→(aX m.g r.1→∀H',fK B H' aH fid mid pid m r.1 L→Kr (St.mk (ab [(4,T.v (V.int .i64 r.2))]) (ab []) H'))→lo 118 1 (St.mk (ab [(0,T.v (V.aj (some (fid,0)))),(3,T.lp 3 0)]) (ab [(3,bg.cells 126 (eZ (x.cK:Int) (x.ep:Int) (x.seq:Int) (x.ar:Int) ((x.fr:Int)-1) q x.data.length c))]) H) Kr Ke
 |0,s,H,r,hf,hok,h,k=>by cases hf
 |n+1,s,H,r,hf,hok,h,k=>by
  rw[Pe,WZ];unfold tW at hf
  cases hro:iZ m.g kf kf s with
  |none=>rw[hro] at hf;cases hf
  |some o=>
   obtain⟨s1,e,b⟩:=o;rw[hro] at hf;dsimp only at hf;refine CZ hm hg hcap kf s hro hok h (fun fS hb H1 DB=> ?_);simp only[AJ,reduceIte,Nat.reduceEqDiff];by_cases he:e=0
   ·rw[if_pos he] at hf;have hb:b∈m.g.us:=hb he;simp only[he,decide_true,Bool.not_true,ai]
    have:=E8 (K:=fun v H'=>ag (V.av (.int .i64) v) (br (!decide (V.aa v=8)) (Kr (St.mk (ab [(4,T.v (V.int .i64 (V.aa v)))]) (ab []) H'))
     (lo 118 1 (St.mk (ab [(0,T.v (V.aj (some (fid,0)))),(3,T.lp 3 0)])
      (ab [(3,bg.cells 126 (eZ (x.cK:Int) (x.ep:Int) (x.seq:Int) (x.ar:Int) ((x.fr:Int)-1) q x.data.length c))]) H') Kr Ke))) hm hg DB fS hb (x:=x) (q:=q) (c:=c) hr h1 h4 hcap h5 h6 (fun H2 h2=> ?_)
    ·exact this
    ·simp only[AJ,reduceIte,Nat.reduceEqDiff];have fh:=fS.bT hg hb (x:=x) h6;by_cases h8:(bT s1 b x).2=8
     ·rw[if_pos h8] at hf;simp only[h8,decide_true,Bool.not_true,ai];exact Nm hm hg hcap hr h1 h4 h5 h6 n _ hf fh h2 k
     ·rw[if_neg h8] at hf;cases hf;simp only[h8,decide_false,Bool.not_false,au];exact k fh H2 h2
   ·rw[if_neg he] at hf;cases hf;simp only[he,decide_false,Bool.not_false,au];exact k fS H1 DB
theorem I1 (hm:dF B L m) (hg:m.g.In) (hcap:m.g.cap<65000) {kf n:Nat} {x:Sh} {q:Oq} {c:Nat} (hr:lE B L q x.data) (h1:x.cK<256) (h4:(x.ar:Int)≤m.g.cap) (h5:x.fr≤256) (h6:x.data.length≤64) {r:FS×Int} (hf:tW m.g kf n s x=some r) (hok:aX m.g s) (h:fK B H aH fid mid pid m s L) (k:aX m.g r.1→∀H',fK B H' aH fid mid pid m r.1 L→K (.int .i64 r.2) H'):cl 118 [.aj (some (fid,0)),zD x q c] H K:=by
 unfold zD;rw[WJ];refine Nm hm hg hcap hr h1 h4 h5 h6 n s hf hok h (fun fS H1 h1=> ?_);simp only[AJ,reduceIte,Nat.reduceEqDiff];exact k fS H1 h1
def QW (ar:Nat) (d:List UInt8):Sh:=⟨1,0,0,ar,0,d⟩
def shT (ar:Nat):Sh:=⟨2,0,0,ar,0,[]⟩
theorem Ba (hm:dF B L m) (hg:m.g.In) (hcap:m.g.cap<65000) {kf n:Nat} {ar:Nat} {d:List UInt8} {q:Oq} {c:Nat} (hr:lE B L q d) (h4:(ar:Int)≤m.g.cap) (h6:d.length≤64) {r:FS×Int} (hf:tW m.g kf n s (QW ar d)=some r) (hok:aX m.g s) (h:fK B H aH fid mid pid m s L) (k:aX m.g r.1→∀H',fK B H' aH fid mid pid m r.1 L→K (.int .i64 r.2) H'):cl 82 [.aj (some (fid,0)),.int .i64 (ar:Int),.slice q d.length c] H K:=by
 rw[aaA];refine CX hm h hg (ar:Int) (fun H1 h1=> ?_);have e:0≤(ar:Int)∧(ar:Int)≤m.g.cap:=⟨by omega,h4⟩;have e2:¬((d.length:Nat):Int)>64:=by omega
 simp only[e,and_self,if_true,AJ,reduceIte,Nat.reduceEqDiff,e2,decide_true,decide_false,Bool.not_true,ai];have:=I1 (K:=fun v H'=>ag (V.av (.int .i64) v) (K (V.int .i64 (V.aa v)) H')) hm hg hcap (x:=QW ar d) (q:=q) (c:=c) hr (by show 1<256;omega) h4 (by show 0≤256;omega) h6 hf hok h1 (fun fh H2 h2=> ?_)
 ·exact this
 ·simp only[AJ,reduceIte,Nat.reduceEqDiff];exact k fh H2 h2
theorem Nn (hm:dF B L m) (hg:m.g.In) (hcap:m.g.cap<65000) {kf:Nat} {ar:Nat} (h4:(ar:Int)≤m.g.cap) {r:FS×Int} (hf:I0 m.g kf s ar=some r) (hok:aX m.g s) (h:fK B H aH fid mid pid m s L) (k:aX m.g r.1→∀H',fK B H' aH fid mid pid m r.1 L→K (.int .i64 r.2) H'):cl 120 [.aj (some (fid,0)),.int .i64 (ar:Int)] H K:=by
 rw[WK];refine CX hm h hg (ar:Int) (fun H1 h1=> ?_);have e:0≤(ar:Int)∧(ar:Int)≤m.g.cap:=⟨by omega,h4⟩;have g1:=v8 h1;have FQ:ar<s.f.pm.cw.length:=by have:=hok.na;omega
 have hgd:s.f.pm.cw.getD ar none=s.f.pm.cw[ar]:=by rw[List.getD_eq_getElem?_getD,List.getElem?_eq_getElem FQ];rfl
 simp only[e,and_self,if_true,AJ,reduceIte,Nat.reduceEqDiff,decide_true,decide_false,Bool.not_true,ai,Option.isSome_some,Nat.zero_add,g1.i 6 (by omega),g1.c6];rw[IM h1.pm FQ];unfold I0 at hf;rw[hgd] at hf
 have hfit:aJ GL (vj s.f.pm.cw[ar])=true:=by
  cases s.f.pm.cw[ar]<;>rfl
 simp only[AJ,reduceIte,Nat.reduceEqDiff,hfit];by_cases ho:(s.f.pm.cw[ar]).isSome=true
 ·rw[if_pos ho] at hf;simp only[ho,Bool.not_true,ai];have:=I1 (K:=fun v H'=>ag (V.av (.int .i64) v) (K (V.int .i64 (V.aa v)) H')) hm hg hcap (x:=shT ar) (q:=none) (c:=0) (fun H h=>(jZ h).iY) (by show 2<256;omega) h4 (by show 0≤256;omega) (by show 0≤64;omega) hf hok h1 (fun fh H2 h2=> ?_)
  ·exact this
  ·simp only[AJ,reduceIte,Nat.reduceEqDiff];exact k fh H2 h2
 ·rw[if_neg ho] at hf;cases hf;simp only[ho,Bool.not_false,au];exact k hok H1 h1
theorem Bb (h:fK B H aH fid mid pid m s L):cl 58 [.aj (some (fid,0))] H K=K (.int .u64 (s.f.ep:Int)) H:=by
 have g:=v8 h;rw[aak];simp only[Option.isNone_some,Option.isSome_some,Nat.zero_add,g.i 5 (by omega),g.c5,AJ,reduceIte,Nat.reduceEqDiff]
end
def Ko (g:bZ) (sq:Int→Nat) (b nx:Nat):List Int→Nat×Int→Nat×Int
 |[],o=>o
 |a::l,o=>if (nx:Int)<g.aB∧o.1<sq a then Ko g sq b nx l (sq a,b) else Ko g sq b nx l o
def fM (g:bZ) (sq:Int→Nat):List Nat→FS→Nat×Int→FS×Int×Nat×Int
 |[],s,o=>(s,0,o)
 |b::l,s,o=>
  if (s.a.bs.getD b fp).aN=true then fM g sq l (s.bu b 3) o
  else if s.next b=0 then fM g sq l s o
  else if s.f.pm.dO b=0 then (if (bB (s.bu b 1) b).2=0 then fM g sq l (bB (s.bu b 1) b).1 o else ((bB (s.bu b 1) b).1,(bB (s.bu b 1) b).2,o))
  else fM g sq l (s.bu b 1) (Ko g sq b (s.next b) (s.f.pm.on b) o)
def eh (pz:List (Rf×Nat)) (a:Int):Nat:=((lF a.toNat pz).map fun x=>x.1.f.s.seq).getD 0
def FS.wU (g:bZ) (a:Ar) (ep:Nat):FS:=⟨a,⟨ep,pM g (a.z5 g),Po.new g.us,a.Kj g⟩⟩
def cx (g:bZ) (sq:Int→Nat) (a:Ar) (ep:Nat):FS×Int:=
 let r:=fM g sq g.us (FS.wU g a ep) (0, -1)
 if r.2.1=0 then (if 0≤r.2.2.2 then (r.1.bu r.2.2.2.toNat 2,0) else (r.1,0)) else (r.1,r.2.1)
section
variable {B:af} {L:List cq} {H:af} {K:V→af→Prop} {aH fid mid pid:Nat} {m:Gm} {s:FS}
theorem Tt {id c:Nat} {pz:List (Rf×Nat)} (h:az B H (iu id (lg pz) c::L)) {n:Int} (hn:0≤n):∃x:Rf,bU H (some id) n (V.agg (ke 0 0 0 0 0 0 0 none 0 0))=.agg x.cs∧x.f.s.seq=eh pz n∨bU H (some id) n (V.agg (ke 0 0 0 0 0 0 0 none 0 0))=V.agg (ke 0 0 0 0 0 0 0 none 0 0)∧eh pz n=0:=by
 rw[yE h];obtain⟨a,rfl⟩:∃a:Nat,n=(a:Int):=⟨n.toNat,by omega⟩;unfold eh;rw[tU,Int.toNat_natCast]
 cases lF a pz with
 |none=>exact⟨⟨⟨0,0,⟨0,0,0,0,0,[]⟩⟩,none,0⟩,.inr ⟨rfl,rfl⟩⟩
 |some x=>exact⟨x.1,.inl ⟨rfl,rfl⟩⟩
def F3 (m:Gm):bg:=bg.cells 26 (ee m.g.aF m.g.aB m.g.aG m.q m.g.bP.length m.c)
def QX (mid pg:Nat) (sq:Nat) (q:Oq) (n c:Nat):bg:=bg.cells 113 (cJ (some (mid,0)) (some pg) (sq:Int) q n c)
theorem QY {pg pc Lv:Nat} {pz:List (Rf×Nat)} {YP q90 spq:Oq} {YQ YR c90 spn spc:Nat} {t54 t55:Int} {b:Nat} (hb:b<s.a.bs.length) (l:List Int) (hl:∀a∈l,0≤a) (hlen:l.length≤1000000) {Kr:Am.St→Prop} {Ke:Nat→Am.St→Prop} (h:fK B H aH fid mid pid m s (IR q90 c90 l::iu pg (lg pz) pc::L)):∀(k i:Nat) (o:Nat×Int),i+k=l.length→Ke 2 (St.mk (ab [(0,T.v (V.aj (some (aH,0)))),(4,T.lp 4 0),(8,T.lp 8 0),(10,T.v (V.aj (some (pid,0)))),(12,T.v (V.aj (some (fid,0)))),(13,T.v (V.int .u64 ((Ko m.g (eh pz) b (s.next b) (l.drop i) o).1:Int))),(14,T.v (V.int .i64 (Ko m.g (eh pz) b (s.next b) (l.drop i) o).2)),(53,T.v (V.slice YP YQ YR)),(54,T.v (V.int .i64 t54)),(55,T.v (V.int .i64 t55))]) (ab [(4,F3 m),(8,QX mid pg Lv spq spn spc)]) H)→lo 37 29 (St.mk (ab [(0,T.v (V.aj (some (aH,0)))),(4,T.lp 4 0),(8,T.lp 8 0),(10,T.v (V.aj (some (pid,0)))),(12,T.v (V.aj (some (fid,0)))),(13,T.v (V.int .u64 (o.1:Int))),(14,T.v (V.int .i64 o.2)),(16,T.v (V.int .i64 (b:Int))),(53,T.v (V.slice YP YQ YR)),(54,T.v (V.int .i64 t54)),(55,T.v (V.int .i64 t55)),(90,T.v (V.slice q90 l.length c90)),(91,T.v (V.int .i64 (l.length:Int))),(92,T.v (V.int .i64 (i:Int)))]) (ab [(4,F3 m),(8,QX mid pg Lv spq spn spc)]) H) Kr Ke
 |0,i,o,hi,hk=>by
  unfold F3 QX at*;obtain rfl:i=l.length:=by omega
  rw[HS,decide_eq_false (by omega),ai];rw[List.drop_length,Ko] at hk;exact hk
 |k+1,i,o,hi,hk=>by
  have hlt:i<l.length:=by omega
  obtain⟨s1,s2,s3⟩:=(az.tD (h.ord [4])).at hlt;simp only[Nat.mul_one] at s2 s3;rw[List.drop_eq_getElem_cons hlt,Ko] at hk;have ih:=QY (Kr:=Kr) (Ke:=Ke) (YQ:=YQ) (YR:=YR) (YP:=YP) (t54:=t54) (t55:=t55) (Lv:=Lv) (spq:=spq) (spn:=spn) (spc:=spc) hb l hl hlen h k (i+1);unfold F3 QX at*;have a1:(i:Int)<(l.length:Int):=by omega
  have a2:(0:Int)≤(i:Int):=by omega
  have a3:IntKind.i64.wrap ((i:Int)+1)=((i+1:Nat):Int):=aQ (by omega);have hmp:=h.ord [5];have hok:=tM hmp;rw[HS];simp only[a1,a2,decide_true,au,s1,s2,s3,Int.toNat_natCast,Nat.mul_one,hok,AJ,reduceIte,Nat.reduceEqDiff,a3]
  have ml:((s.a.bs[b]'hb).pg.length)=s.next b:=by
   unfold FS.next;rw[List.getD_eq_getElem?_getD,List.getElem?_eq_getElem hb];rfl
  obtain⟨x,hx⟩:=Tt hmp (hl _ (List.getElem_mem hlt))
  obtain⟨cs,e1,e2,e3⟩:∃cs:List V,bU H (some pg) l[i] (V.agg (ke 0 0 0 0 0 0 0 none 0 0))=.agg cs∧aJ oz cs=true∧V.aa (ae cs 4)=(eh pz l[i]:Int):=by
   rcases hx with⟨e,e'⟩|⟨e,e'⟩
   ·exact⟨_,e,rfl,by rw[←e'];rfl⟩
   ·exact⟨_,e,rfl,by rw[e'];rfl⟩
  simp only[e1,e2,e3,AJ,reduceIte,Nat.reduceEqDiff];rw[tG (fK.sG h) hb,ml];simp only[AJ,reduceIte,Nat.reduceEqDiff];by_cases hc:(s.next b:Int)<m.g.aB∧o.1<eh pz l[i]
  ·rw[if_pos hc] at hk;have d1:(s.next b:Int)<m.g.aB:=hc.1;have d2:(eh pz l[i]:Int)>(o.1:Int):=by omega
   simp only[d1,d2,decide_true,Bool.and_self,au];exact ih _ (by omega) hk
  ·rw[if_neg hc] at hk;by_cases d1:(s.next b:Int)<m.g.aB
   ·have d2:¬(eh pz l[i]:Int)>(o.1:Int):=fun h=>hc ⟨d1,by omega⟩
    simp only[d1,d2,decide_true,decide_false,Bool.and_false,ai];exact ih _ (by omega) hk
   ·simp only[d1,decide_false,Bool.false_and,ai];exact ih _ (by omega) hk
theorem XM (hm:dF B L m) (hg:m.g.In) {pg pc Lv:Nat} {pz:List (Rf×Nat)} {uq spq:Oq} {uc spn spc:Nat} {Kr:Am.St→Prop} {Ke:Nat→Am.St→Prop}:∀(k i:Nat) (s:FS) (o:Nat×Int) {H:af},i+k=m.g.us.length→aX m.g s→fK B H aH fid mid pid m s (IR uq uc (db m.g.us)::iu pg (lg pz) pc::L)→((fM m.g (eh pz) (m.g.us.drop i) s o).2.1=0→aX m.g (fM m.g (eh pz) (m.g.us.drop i) s o).1→∀H',fK B H' aH fid mid pid m (fM m.g (eh pz) (m.g.us.drop i) s o).1 (IR uq uc (db m.g.us)::iu pg (lg pz) pc::L)→Ke 0 (St.mk (ab [(10,T.v (V.aj (some (pid,0)))),(12,T.v (V.aj (some (fid,0)))),(14,T.v (V.int .i64 (fM m.g (eh pz) (m.g.us.drop i) s o).2.2.2))]) (ab []) H'))→((fM m.g (eh pz) (m.g.us.drop i) s o).2.1≠0→aX m.g (fM m.g (eh pz) (m.g.us.drop i) s o).1→∀H',fK B H' aH fid mid pid m (fM m.g (eh pz) (m.g.us.drop i) s o).1 (IR uq uc (db m.g.us)::iu pg (lg pz) pc::L)→Kr (St.mk (ab [(6,T.v (V.aj none)),(7,T.v (V.int .i64 (fM m.g (eh pz) (m.g.us.drop i) s o).2.1))]) (ab []) H'))→lo 37 12 (St.mk (ab [(0,T.v (V.aj (some (aH,0)))),(4,T.lp 4 0),(8,T.lp 8 0),(10,T.v (V.aj (some (pid,0)))),(12,T.v (V.aj (some (fid,0)))),(13,T.v (V.int .u64 (o.1:Int))),(14,T.v (V.int .i64 o.2)),(53,T.v (V.slice uq m.g.us.length uc)),(54,T.v (V.int .i64 (m.g.us.length:Int))),(55,T.v (V.int .i64 (i:Int)))]) (ab [(4,F3 m),(8,QX mid pg Lv spq spn spc)]) H) Kr Ke
 |0,i,s,o,H,hi,hok,h,k1,k2=>by
  obtain rfl:i=m.g.us.length:=by omega
  unfold F3 QX;rw[HQ,decide_eq_false (by omega),ai];rw[List.drop_length] at k1;exact k1 rfl hok H h
 |k+1,i,s,o,H,hi,hok,h,k1,k2=>by
  have hlt:i<m.g.us.length:=by omega
  have Jy:=bZ.k6 m.g hg.b.2;obtain⟨b,hbe⟩:∃b,b=m.g.us[i]:=⟨_,rfl⟩;have hb:b∈m.g.us:=by rw[hbe];exact List.getElem_mem hlt
  have Ag:=hok.lt hb;have Lu:b<s.f.pm.nb:=by have:=m0 hb;have:=hok.nb;omega
  obtain⟨s1,s2,s3⟩:=(az.tD (h.ord [4])).at (i:=i) (by simpa using hlt);simp only[Nat.mul_one] at s2 s3;have e1:(db m.g.us)[i]'(by simpa using hlt)=(b:Int):=by simp [db,hbe]
  rw[e1] at s3;rw[List.drop_eq_getElem_cons hlt, ←hbe,fM] at k1 k2;have ih:=fun s o H=>XM (Kr:=Kr) (Ke:=Ke) (Lv:=Lv) (spq:=spq) (spn:=spn) (spc:=spc) hm hg k (i+1) s o (H:=H) (pz:=pz) (pg:=pg) (pc:=pc) (uq:=uq) (uc:=uc)
  have hfl:(s.a.bs.getD b fp)=s.a.bs[b]:=by rw[List.getD_eq_getElem?_getD,List.getElem?_eq_getElem Ag];rfl
  have ml:((s.a.bs[b]'Ag).pg.length)=s.next b:=by unfold FS.next;rw[hfl]
  rw[hfl] at k1 k2;unfold F3 QX at*;have a1:(i:Int)<(m.g.us.length:Int):=by omega
  have a2:(0:Int)≤(i:Int):=by omega
  have a3:IntKind.i64.wrap ((i:Int)+1)=((i+1:Nat):Int):=aQ (by omega);have abN:(db m.g.us).length=m.g.us.length:=iK _;rw[HQ];simp only[a1,a2,decide_true,au,s1,s2,s3,Int.toNat_natCast,Nat.mul_one,AJ,reduceIte,Nat.reduceEqDiff,a3];rw[GS (fK.sG h) Ag];simp only[AJ,reduceIte,Nat.reduceEqDiff];by_cases hf:(s.a.bs[b]).aN=true
  ·simp only[hf,if_true] at k1 k2;rw[hf,au];refine kj (hw:=3) h.po hok.po (hok.how hb) (by omega) (fun e H1 h1=> ?_);simp only[AJ,reduceIte,Nat.reduceEqDiff];exact ih _ o _ (by omega) (hok.bu hg hb (by omega)) (h1.ord [1,1]) k1 k2
  simp only[hf,Bool.false_eq_true,if_false] at k1 k2;rw[Bool.not_eq_true] at hf;rw[hf,ai,tG (fK.sG h) Ag,ml];simp only[AJ,reduceIte,Nat.reduceEqDiff];by_cases hn:s.next b=0
  ·rw[if_pos hn] at k1 k2;have hn':(s.next b:Int)=0:=by omega
   simp only[hn',decide_true,au];exact ih _ o _ (by omega) hok h k1 k2
  rw[if_neg hn] at k1 k2;have hn':¬(s.next b:Int)=0:=by omega
  simp only[hn',decide_false,ai];refine kj (hw:=1) h.po hok.po (hok.how hb) (by omega) (fun e H1 h1=> ?_);have DB:fK B H1 aH fid mid pid m (s.bu b 1) (IR uq uc (db m.g.us)::iu pg (lg pz) pc::L):=h1.ord [1,1];have fS:=hok.bu hg hb (h:=1) (by omega);have g1:=v8 DB;simp only[Option.isSome_some,Nat.zero_add,g1.i 6 (by omega),g1.c6,AJ,reduceIte,Nat.reduceEqDiff];rw[mU (fK.pm DB) Lu];simp only[AJ,reduceIte,Nat.reduceEqDiff];by_cases hc:s.f.pm.dO b=0
  ·rw[if_pos hc] at k1 k2;have qJ:((s.bu b 1).f.pm.dO b:Int)=0:=by show (s.f.pm.dO b:Int)=0;omega
   simp only[qJ,decide_true,au];refine vm ((hm.bO _).bO _) hg DB fS hb (fun H2 h2=> ?_);simp only[AJ,reduceIte,Nat.reduceEqDiff];by_cases he:(bB (s.bu b 1) b).2=0
   ·rw[if_pos he] at k1 k2;simp only[he,decide_true,Bool.not_true,ai];exact ih _ o _ (by omega) (fS.bB hg hb) h2 k1 k2
   ·rw[if_neg he] at k1 k2;simp only[he,decide_false,Bool.not_false,au];exact k2 he (fS.bB hg hb) H2 h2
  ·rw[if_neg hc] at k1 k2;have qJ:¬((s.bu b 1).f.pm.dO b:Int)=0:=by show¬(s.f.pm.dO b:Int)=0;omega
   simp only[qJ,decide_false,ai,Option.isSome_some,Nat.zero_add,g1.i 6 (by omega),g1.c6,AJ,reduceIte,Nat.reduceEqDiff];refine Nf DB.pm fS.pm Lu (fun q2 c2 H2 h2=> ?_);simp only[AJ,reduceIte,Nat.reduceEqDiff]
   have ZD:(s.f.pm.on b).length≤1000000:=by
    unfold Pm.on;split
    ·simp
    ·have:=List.length_filterMap_le (fun p=>if s.f.pm.by b p>0 then some (s.f.pm.by b p-1) else none) ((List.range 32).drop 0);simp only[List.length_drop,List.length_range] at this;unfold Lr;exact Nat.le_trans this (by omega)
   have:=QY (s:=s.bu b 1) (m:=m) (Kr:=fun _=>False) (YQ:=m.g.us.length) (YR:=uc) (YP:=uq) (t54:=(m.g.us.length:Int)) (t55:=(i:Int)) (Lv:=Lv) (spq:=spq) (spn:=spn) (spc:=spc) (aH:=aH) (fid:=fid) (mid:=mid) (pid:=pid) (pg:=pg) (pc:=pc) (pz:=pz) (q90:=q2) (c90:=c2) (L:=IR uq uc (db m.g.us)::L) (B:=B) (H:=H2) (b:=b) Ag (s.f.pm.on b) (fun a ha=>(tX hok.pm ha).1) ZD
    (h2.ord [2,1,1,1,0,1]) (Ke:= ?_) (s.f.pm.on b).length 0 o (by omega) ?_
   ·exact this
   ·unfold F3 QX;have hkk:aJ mL (cJ (some (mid,0)) (some pg) (Lv:Int) spq spn spc)=true:=rfl;have hgg:aJ AF (ee m.g.aF m.g.aB m.g.aG m.q m.g.bP.length m.c)=true:=rfl;simp only[AJ,reduceIte,Nat.reduceEqDiff,a3,hkk,hgg];exact ih _ _ _ (by omega) fS (h2.drop.ord [1]) k1 k2
theorem qu (g:bZ):g.us.Pairwise (· < ·):=by
 unfold bZ.us;exact(List.pairwise_lt_range.sublist (List.drop_sublist 2 _)).sublist List.filter_sublist
theorem No {g:bZ} (hg:g.In):∀b∈g.us,b<64:=fun b hb=>by
 have:=m0 hb;have:=hg.b;omega
theorem C0 {M:Nat}:∀(l:List Fd) (m:Nat),m≤M→(∀f∈l,f.s.seq≤M)→mV m l≤M
 |[],m,hm,h=>hm
 |f::l,m,hm,h=>C0 l _ (Nat.max_le.2 ⟨hm,h f List.mem_cons_self⟩) (fun x hx=>h x (List.mem_cons_of_mem _ hx))
theorem Bc {i:Nat} {cap:Int} {f:Fd}:∀{l:List (List UInt8)} {p:Nat},f∈ic i cap l p→∃d∈l,eS d=some f.s
 |d::l,p,h=>by
  rw[ic] at h
  have ih:f∈ic i cap l (p+1)→∃d'∈d::l,eS d'=some f.s:=fun h=>by
   obtain⟨d',hd,e⟩:=Bc h;exact⟨d',List.mem_cons_of_mem _ hd,e⟩
  split at h
  ·exact ih h
  ·split at h
   ·rename_i s hs hc;rcases List.mem_cons.1 h with rfl|h
    ·exact⟨d,List.mem_cons_self,hs⟩
    ·exact ih h
   ·exact ih h
theorem Tu {a:Ar} {g:bZ} {i:Nat} {f:Fd} (hf:f∈a.fd g i):f.s.seq<281474976710656:=by
 unfold Ar.fd Bk.ew at hf;split at hf
 ·cases hf
 ·obtain⟨d,_,e⟩:=Bc hf;exact(r6 e).1.seq
theorem yO {x:Nat} {f:Fd}:∀{l:List Fd},jn x l=some f→f∈l∧f.s.ar=x
 |y::l,h=>by
  rw[jn] at h;split at h
  ·rename_i e;cases h;exact⟨List.mem_cons_self,e⟩
  ·exact⟨List.mem_cons_of_mem _ (yO h).1,(yO h).2⟩
theorem Kq {g:bZ} (hg:g.In) (hc:0≤g.cap∧g.cap<65000) {pg:List Fd} (h:∀x f,jn x pg=some f→Ki g f):(pM g pg).ok:=by
 refine⟨fun b p hm=> ?_,by simp [pM];omega,by show g.aF.toNat≤64;have:=hg.b;omega⟩;obtain⟨x,_,he⟩:=List.mem_map.1 hm
 cases hgf:jn x pg with
 |none=>rw[hgf] at he;cases he
 |some f=>
  rw[hgf] at he;cases he;have:=h x f hgf;exact⟨by show f.b<g.aF.toNat;omega,this.2.2⟩
theorem I2 (l:List Nat):(l.map fun b=>(b,0)).map Prod.fst=l:=by
 rw[List.map_map];exact List.map_id _
theorem Np {g:bZ} (hg:g.In) (hc:0≤g.cap∧g.cap<65000) {a:Ar} (hr:a.rd g) (Ga:∀x f,jn x (a.z5 g)=some f→Ki g f) {ep:Nat} (he:ep<281474976710656):aX g (FS.wU g a ep) where
 n:=hr.n
 p:=hr.p
 len:=fun b hb=>by rw[←hr.p];exact hr.len b hb
 d:=hr.d
 pm:=Kq hg hc Ga
 nb:=by show ((g.aF.toNat:Nat):Int)=_;have:=hg.b;omega
 na:=by show (((pM g (a.z5 g)).cw.length:Nat):Int)=_;simp [pM];omega
 po:={
  lt:=by show ((g.us.map fun b=>(b,0)).map Prod.fst).Pairwise _;rw[I2];exact qu g
  b:=fun x hx=>by
   obtain⟨b,hb,rfl⟩:=List.mem_map.1 hx;exact No hg b hb
  h:=fun x hx=>by
   obtain⟨b,hb,rfl⟩:=List.mem_map.1 hx
   exact Nat.zero_le _}
 us:=I2 _
 seq:=by
  have:mV 0 (g.us.flatMap (a.fd g))≤281474976710656:=C0 _ _ (Nat.zero_le _) (fun f hf=>by
   obtain⟨i,_,hf⟩:=List.mem_flatMap.1 hf
   exact Nat.le_of_lt (Tu hf))
  show mV 0 (g.us.flatMap (a.fd g))<_
  omega
 ep:=by show ep<_;omega
theorem yP {g:bZ} (hg:g.In) {sq:Int→Nat}:∀(l:List Nat) (s:FS) (o:Nat×Int),(∀b∈l,b∈g.us)→aX g s→(o.2<0∨o.2.toNat∈g.us)→aX g (fM g sq l s o).1∧((fM g sq l s o).2.2.2<0∨(fM g sq l s o).2.2.2.toNat∈g.us)
 |[],s,o,hl,hok,ho=>⟨hok,ho⟩
 |b::l,s,o,hl,hok,ho=>by
  have hb:=hl b List.mem_cons_self;have F9:∀b∈l,b∈g.us:=fun b hb=>hl b (List.mem_cons_of_mem _ hb)
  have h1:∀(l:List Int) (o:Nat×Int),(o.2<0∨o.2.toNat∈g.us)→((Ko g sq b (s.next b) l o).2<0∨(Ko g sq b (s.next b) l o).2.toNat∈g.us):=fun l=>by
   induction l with
   |nil=>exact fun o h=>h
   |cons a l ih=>
    intro o h;rw[Ko];split
    ·exact ih _ (.inr (by simpa using hb))
    ·exact ih _ h
  rw[fM];split
  ·exact yP hg l _ o F9 (hok.bu hg hb (by omega)) ho
  split
  ·exact yP hg l _ o F9 hok ho
  have fS:=hok.bu hg hb (h:=1) (by omega);split
  ·split
   ·exact yP hg l _ o F9 (fS.bB hg hb) ho
   ·exact⟨fS.bB hg hb,ho⟩
  ·exact yP hg l _ _ F9 fS (h1 _ _ ho)
theorem Ks {g:bZ} (hg:g.In) {sq:Int→Nat} {a:Ar} {ep:Nat} (h:aX g (FS.wU g a ep)):aX g (cx g sq a ep).1:=by
 have:=yP hg (sq:=sq) g.us _ (0, -1) (fun b hb=>hb) h (.inl (by decide));unfold cx;simp only;split
 ·split
  ·rename_i h0;exact this.1.bu hg (this.2.resolve_left (by omega)) (by omega)
  ·exact this.1
 ·exact this.1
theorem Kt {a:Ar} (h:az B H (df aH a::L)) (hm:dF B L m) (hf:m.g.cM=true) (hg:m.g.In) (hr:a.rd m.g) (hc:0≤m.g.cap∧m.g.cap<65000) {ep:Nat} (Lp:1≤ep∧ep<281474976710656) (k1:∀pz fid mid pid H',wR pz=a.z5 m.g→z8 m.g pz→(cx m.g (eh pz) a ep).2=0→aX m.g (cx m.g (eh pz) a ep).1→fK B H' aH fid mid pid m (cx m.g (eh pz) a ep).1 L→K (.tuple [.aj (some (fid,0)),.int .i64 0]) H') (k2:∀pz H',wR pz=a.z5 m.g→z8 m.g pz→(cx m.g (eh pz) a ep).2≠0→aX m.g (cx m.g (eh pz) a ep).1→az B H' (df aH (cx m.g (eh pz) a ep).1.a::L)→K (.tuple [.aj none,.int .i64 (cx m.g (eh pz) a ep).2]) H'):cl 37 [.aj (some (aH,0)),m.v,.int .u64 (ep:Int)] H K:=by
 have hv:m.v=.agg (ee m.g.aF m.g.aB m.g.aG m.q m.g.bP.length m.c):=rfl;have qE:∀i∈m.g.us,i<a.bs.length:=fun i hi=>by have:=m0 hi;have:=hr.n;omega
 have uy:m.g.us.Nodup:=(qu m.g).imp (fun h=>Nat.ne_of_lt h);have Jy:=bZ.k6 m.g hg.b.2;rw[hv,aac, ←hv];have e1:¬(ep:Int)<1:=by omega
 have e2:¬(ep:Int)≥281474976710656:=by omega
 simp only[e1,e2,decide_false,Bool.not_false,cond_true,ai];refine Ni h hm hf hg hr qE uy hc (fun mid pg zs pz pc q sc H1 Ga abO DA h1=> ?_);have hfit:aJ mL (cJ (some (mid,0)) (some pg) (a.Kj m.g:Int) q (zE m.g.us (a.Pv m.g)).2.length sc)=true:=rfl;simp only[hfit,AJ,reduceIte,Nat.reduceEqDiff];have ZA:∀A1 A2 A3 A4 A5:cq,dF B (A1::A2::A3::A4::A5::L) m:=fun A1 A2 A3 A4 A5=>((((hm.bO _).bO _).bO _).bO _).bO _
 refine jm h1 (ZA _ _ _ _ _) hg (fun uq uc H2 h2=> ?_);simp only[AJ,reduceIte,Nat.reduceEqDiff];have hPN:=PB (K:= ?_) (c:=uc) h2 (l:=m.g.us) (q:=uq) (fun H h=>az.tD h) (qu m.g) (No hg) (by omega) ?_
 ·exact hPN
 intro pid H3 h3;simp only[AJ,reduceIte,Nat.reduceEqDiff]
 have hok:=Np hg hc hr (fun y f hf=>by
  have hf:=(yO hf).1;rw[←Ga] at hf;obtain⟨z,hz,rfl⟩:=List.mem_map.1 hf
  exact DA.b z hz) (ep:=ep) (by omega)
 have h4:=h3.alloc 120 (RM (some (aH,0)) m.g.aF m.g.aB m.g.aG m.q m.g.bP.length m.c (ep:Int) (some (mid,0)) (some (pid,0)) (a.Kj m.g:Int));obtain⟨fid,Lm⟩:∃p,p=H3.next:=⟨_,rfl⟩;have YS:H3.2=fid:=Lm.symm;rw[←Lm] at h4;rw[YS];simp only[f112,vW,pq,pr,pt,pw,AJ,reduceIte,Nat.reduceEqDiff];generalize (af.alloc H3 _)=H4 at h4⊢;have hS:fK B H4 aH fid mid pid m (FS.wU m.g a ep) (iu pg (lg pz) pc::L):=(h4.ord [2,4,4,0,1,0,1]).drop.drop.drop;refine jm hS (ZA _ _ _ _ _) hg (fun uq2 uc2 H5 h5=> ?_);simp only[AJ,reduceIte,Nat.reduceEqDiff];have hM:=Ks hg (sq:=eh pz) hok;have wJ:cx m.g (eh pz) a ep=(let r:=fM m.g (eh pz) m.g.us (FS.wU m.g a ep) (0, -1);if r.2.1=0 then (if 0≤r.2.2.2 then (r.1.bu r.2.2.2.toNat 2,0) else (r.1,0)) else (r.1,r.2.1)):=rfl;simp only at wJ;have abw:=yP hg (sq:=eh pz) m.g.us _ (0, -1) (fun b hb=>hb) hok (.inl (by decide));have hL:=XM (m:=m) (aH:=aH) (fid:=fid) (mid:=mid) (pid:=pid) (L:=L) (B:=B) hm hg (pg:=pg) (pc:=pc) (Lv:=a.Kj m.g) (pz:=pz) (uq:=uq2) (spq:=q) (uc:=uc2) (spn:=(zE m.g.us (a.Pv m.g)).2.length) (spc:=sc) (Kr:= ?_) (Ke:= ?_) m.g.us.length 0 (FS.wU m.g a ep) (0, -1) (H:=H5) (by omega) hok (h5.ord [1,1,1,1]) ?_ ?_
 ·exact hL
 ·rw[List.drop_zero];intro h0 fh H6 h6;simp only[AJ,reduceIte,Nat.reduceEqDiff];rw[if_pos h0] at wJ;by_cases hop:0≤(fM m.g (eh pz) m.g.us (FS.wU m.g a ep) (0, -1)).2.2.2
  ·rw[if_pos hop] at wJ;have Ur:(fM m.g (eh pz) m.g.us (FS.wU m.g a ep) (0, -1)).2.2.2≥0:=hop;simp only[Ur,decide_true,au];have hbu:=abw.2.resolve_left (by omega);have ebb:(fM m.g (eh pz) m.g.us (FS.wU m.g a ep) (0, -1)).2.2.2=(((fM m.g (eh pz) m.g.us (FS.wU m.g a ep) (0, -1)).2.2.2.toNat:Nat):Int):=by omega
   rw[ebb];refine kj (hw:=2) (fK.po h6) fh.po (fh.how hbu) (by omega) (fun e H7 h7=> ?_);simp only[AJ,reduceIte,Nat.reduceEqDiff];refine k1 pz fid mid pid H7 Ga DA (by rw[wJ]) hM ?_;rw[wJ];exact(h7.ord [4,4]).drop.drop.ord [1,1]
  ·rw[if_neg hop] at wJ;have Ur:¬(fM m.g (eh pz) m.g.us (FS.wU m.g a ep) (0, -1)).2.2.2≥0:=hop;simp only[Ur,decide_false,ai];refine k1 pz fid mid pid H6 Ga DA (by rw[wJ]) hM ?_;rw[wJ];exact(h6.ord [4,4]).drop.drop
 ·rw[List.drop_zero];intro h0 fh H6 h6;simp only[AJ,reduceIte,Nat.reduceEqDiff];rw[if_neg h0] at wJ;refine(congrArg (fun e=>K (V.tuple [V.aj none,V.int .i64 e]) H6) (congrArg Prod.snd wJ)).mp ?_;refine k2 pz H6 Ga DA (by rw[wJ];exact h0) hM ?_;rw[wJ];exact(h6.drop.drop.drop.ord [1,1]).drop.drop
end
def Ar.bk (a:Ar) (b:Nat):Bk:=a.bs.getD b fp
def vw (g:bZ) (a:Ar):Vw:=fun b=>if b∈g.us then a.fd g b else []
theorem C1 {g:bZ} {a:Ar} (i:Nat) (h:i∉g.us):vw g a i=[]:=if_neg h
theorem I3 {g:bZ} {a:Ar} {i:Nat} (h:i∈g.us):vw g a i=(a.bk i).ew i g.cap:=if_pos h
theorem m7 (g:bZ):g.us.Nodup:=(qu g).imp (fun h=>Nat.ne_of_lt h)
theorem Tv (g:bZ) (a:Ar):a.z5 g=dS (zE g.us (g.us.map fun i=>(i,vw g a i))).1 [] g.us:=by
 have:(g.us.map fun i=>(i,vw g a i))=a.Pv g:=List.map_congr_left fun i hi=>by
  show (i,vw g a i)=(i,a.fd g i)
  rw[show vw g a i=a.fd g i from if_pos hi]
 unfold Ar.z5;rw[this]
theorem yQ (i:Nat) (cap:Int) (d:List UInt8):∀(l:List (List UInt8)) (p:Nat),ic i cap (l++[d]) p=ic i cap l p++ic i cap [d] (p+l.length)
 |[],p=>by simp [ic]
 |e::l,p=>by
  rw[List.cons_append,ic,ic,yQ i cap d l (p+1),List.length_cons,show p+1+l.length=p+(l.length+1) from by omega];split
  ·rfl
  ·split
   ·rfl
   ·rfl
theorem Nq {i:Nat} {cap:Int} {f:Fd} {l:List (List UInt8)} {p:Nat} (h:f∈ic i cap l p):f.s.cM∧f.s.cK≠3∧∃k,k<l.length∧f.p=p+k∧(l[k]?).map eS=some (some f.s):=by
 induction l generalizing p with
 |nil=>cases h
 |cons d l ih=>
  rw[ic] at h
  have step:f∈ic i cap l (p+1)→f.s.cM∧f.s.cK≠3∧∃k,k<(d::l).length∧f.p=p+k∧((d::l)[k]?).map eS=some (some f.s):=fun h=>by
   obtain⟨h1,h0,k,h2,h3,h4⟩:=ih h;exact⟨h1,h0,k+1,by rw[List.length_cons];omega,by omega,by simpa using h4⟩
  split at h
  ·exact step h
  ·rename_i s hs;split at h
   ·rename_i hc;rcases List.mem_cons.1 h with rfl|h
    ·exact⟨(r6 hs).1,hc.1,0,by simp,rfl,by simp [hs]⟩
    ·exact step h
   ·exact step h
theorem nW {g:bZ} {a:Ar} {b:Nat} {f:Fd} (h:f∈vw g a b):b∈g.us∧f.b=b∧(a.bk b).bX=false∧f.p<(a.bk b).pg.length∧((a.bk b).pg[f.p]?).map eS=some (some f.s)∧f.s.cM∧f.s.cK≠3∧(f.s.ar:Int)≤g.cap:=by
 unfold vw at h;split at h
 ·rename_i hb;unfold Ar.fd Bk.ew at h;split at h
  ·cases h
  ·rename_i hh;obtain⟨h1,h0,k,h2,h3,h4⟩:=Nq h;obtain⟨i1,i2,i3,i4⟩:=CR h;rw[Nat.zero_add] at h3;exact⟨hb,i1,by simpa [Ar.bk] using hh,by rw[h3];exact h2,by rw[h3];exact h4,h1,h0,i4⟩
 ·cases h
structure uB (a a':Ar) (b:Nat) (k:Bk):Prop where
 bs:a'.bs=a.bs.set b k
 aB:a'.aB=a.aB
structure F4 (a a':Ar) (b:Nat) (k:Bk):Prop extends uB a a' b k where
 aK:a'.aK=a.aK
 boots:a'.boots=a.boots
 zF:a.bA≤0→a'.bA≤0∧a'.off=a.off
theorem uB.bk {a a':Ar} {b:Nat} {k:Bk} (h:uB a a' b k) (hb:b<a.bs.length) (i:Nat):a'.bk i=if i=b then k else a.bk i:=by
 unfold Ar.bk;rw[h.bs,List.getD_eq_getElem?_getD,List.getElem?_set];by_cases hi:b=i
 ·subst hi;simp [hb]
 ·have:¬i=b:=fun e=>hi e.symm
  rw[if_neg hi,if_neg this,List.getD_eq_getElem?_getD]
theorem uB.vw {g:bZ} {a a':Ar} {b:Nat} {k:Bk} (h:uB a a' b k) (hb:b<a.bs.length) (hu:b∈g.us):vw g a'=fun i=>if i=b then k.ew b g.cap else vw g a i:=by
 funext i;by_cases hi:i∈g.us
 ·rw[I3 hi,h.bk hb];by_cases bh:i=b
  ·subst bh;simp
  ·rw[if_neg bh,if_neg bh,I3 hi]
 ·rw[C1 i hi,C1 i hi,if_neg (fun e=>hi (by rw[e];exact hu))]
theorem uB.wx {g:bZ} {a a':Ar} {b:Nat} {k:Bk} (h:uB a a' b k) (hb:b<a.bs.length) (hu:b∈g.us) (hk:k.ew b g.cap=(a.bk b).ew b g.cap):Go.Proofs.YtlgdkndamddpkaaGreat.vw g a'=Go.Proofs.YtlgdkndamddpkaaGreat.vw g a:=by
 rw[h.vw hb hu,hk];funext i;split
 ·rename_i e;subst e;exact(I3 hu).symm
 ·rfl
theorem yR {a:Ar} {b:Nat} (hb:b<a.bs.length):a.bs[b]? =some (a.bk b):=by
 unfold Ar.bk;rw[List.getD_eq_getElem?_getD,List.getElem?_eq_getElem hb];rfl
theorem bC (k:Bk):(aD k).bX=k.bX:=by unfold aD;split<;>rfl
theorem dE (k:Bk):(aD k).aN=k.aN:=by unfold aD;split<;>rfl
theorem tY (k:Bk) (i:Nat) (cap:Int):(aD k).ew i cap=k.ew i cap:=by
 unfold Bk.ew;rw[bC,bq]
theorem Fa {k:Bk} (h1:k.fc≤0) (h2:k.aW=false):aD k=k:=by
 unfold aD;rw[if_neg (by omega)]
theorem kz {a:Ar} {b:Nat} (k:Bk) {k':Bk} {a':Ar} (Ua:a'.bs=(bo a b k).bs.set b k') (hp:a'.aB=a.aB) (hf:a'.aK=a.aK) (hb:a'.boots=a.boots) (ha:a'.bA=(bo a b k).bA) (ho:a'.off=(bo a b k).off):F4 a a' b k' where
 bs:=by rw[Ua];show (a.bs.set b (aD k)).set b k'=_;rw[List.set_set]
 aB:=hp
 aK:=hf
 boots:=hb
 zF:=fun h=>by
  rw[ha,ho];have:¬a.bA>0:=by omega
  exact⟨by show (if a.bA>0 then _ else _)≤0;rw[if_neg this];exact h,by show (if a.bA>0 then _ else _)=_;rw[if_neg this]⟩
theorem Nr {a:Ar} {b:Nat} {d:List UInt8} {e:Int} (hb:b<a.bs.length) (ho:a.off=false) (hp:((a.bk b).pg.length:Int)<a.aB) (hd:d.length=96) (hh:(a.bk b).bX=false) (hf:a.aK≤e):∃a' r,fA a b (a.bk b).pg.length d e=(a',r)∧((r=0∧a'.off=false∧(aD (a.bk b)).aW=false∧a'.dC=a.dC∧F4 a a' b {aD (a.bk b) with pg:=(a.bk b).pg++[d]})∨(r=8∧a'.off=false∧(aD (a.bk b)).aW=true∧a'.dC=a.dC∧F4 a a' b {aD (a.bk b) with pg:=(a.bk b).pg++[fo d 0],aN:=true})∨(r=9∧a'.off=true∧a.bA>0∧a'.dC=.prog b d∧F4 a a' b (aD (a.bk b)))):=by
 have hnp:¬a.aB≤(((a.bk b).pg.length:Nat):Int):=by omega
 have uy:¬d.length≠96:=by omega
 have hnf:¬e<a.aK:=by omega
 have h6:¬((a.bk b).pg.length≠(a.bk b).pg.length∨(a.bk b).bX=true):=by simp [hh]
 unfold fA;rw[if_neg (by simp [ho]),if_neg hnp,if_neg uy,yR hb];simp only;rw[if_neg h6,if_neg hnf];by_cases h1:(bo a b (a.bk b)).off=true
 ·rw[if_pos h1]
  have DC:a.bA>0:=by
   by_cases DC:a.bA>0
   ·exact DC
   ·have:(bo a b (a.bk b)).off=a.off:=by show (if a.bA>0 then _ else _)=_;rw[if_neg DC]
    rw[this,ho] at h1;cases h1
  refine⟨_,_,rfl,.inr (.inr ⟨rfl,h1,DC,rfl,kz (a.bk b) ?_ rfl rfl rfl rfl rfl⟩)⟩;show a.bs.set b _=(a.bs.set b _).set b _
  rw[List.set_set]
 ·rw[if_neg h1];have we:(bo a b (a.bk b)).off=false:=by simpa using h1
  by_cases h2:(aD (a.bk b)).aW=true
  ·rw[if_pos h2];exact⟨_,_,rfl,.inr (.inl ⟨rfl,we,h2,rfl,kz (a.bk b) rfl rfl rfl rfl rfl rfl⟩)⟩
  ·rw[if_neg h2];exact⟨_,_,rfl,.inl ⟨rfl,we,by simpa using h2,rfl,kz (a.bk b) rfl rfl rfl rfl rfl rfl⟩⟩
theorem Ku {a:Ar} {b:Nat} {e:Int} (hb:b<a.bs.length) (ho:a.off=false) (hf:a.aK≤e):∃a' r,dM a b e=(a',r)∧((r=0∧a'.off=false∧(aD (a.bk b)).aW=false∧a'.dC=a.dC∧F4 a a' b (ve (aD (a.bk b))))∨(r=8∧a'.off=false∧(aD (a.bk b)).aW=true∧a'.dC=a.dC∧F4 a a' b {aD (a.bk b) with aN:=true})∨(r=9∧a'.off=true∧a.bA>0∧a'.dC=.er b (aD (a.bk b)).aW∧F4 a a' b (aD (a.bk b)))):=by
 have hnf:¬e<a.aK:=by omega
 unfold dM;rw[if_neg (by simp [ho]),if_neg hnf,yR hb];simp only;by_cases h1:(bo a b (a.bk b)).off=true
 ·rw[if_pos h1]
  have DC:a.bA>0:=by
   by_cases DC:a.bA>0
   ·exact DC
   ·have:(bo a b (a.bk b)).off=a.off:=by show (if a.bA>0 then _ else _)=_;rw[if_neg DC]
    rw[this,ho] at h1;cases h1
  refine⟨_,_,rfl,.inr (.inr ⟨rfl,h1,DC,rfl,kz (a.bk b) ?_ rfl rfl rfl rfl rfl⟩)⟩;show a.bs.set b _=(a.bs.set b _).set b _
  rw[List.set_set]
 ·rw[if_neg h1];have we:(bo a b (a.bk b)).off=false:=by simpa using h1
  by_cases h2:(aD (a.bk b)).aW=true
  ·rw[if_pos h2];exact⟨_,_,rfl,.inr (.inl ⟨rfl,we,h2,rfl,kz (a.bk b) rfl rfl rfl rfl rfl rfl⟩)⟩
  ·rw[if_neg h2];exact⟨_,_,rfl,.inl ⟨rfl,we,by simpa using h2,rfl,kz (a.bk b) rfl rfl rfl rfl rfl rfl⟩⟩
theorem Kv {k:Bk} {b:Nat} {cap:Int} {s:Sh} (hk:k.bX=false) (hs:s.cM) (h3:s.cK≠3) (hc:(s.ar:Int)≤cap) {k':Bk} (hh:k'.bX=false) (hp:k'.pg=k.pg++[dR s]):k'.ew b cap=k.ew b cap++[⟨b,k.pg.length,s⟩]:=by
 unfold Bk.ew;rw[hh,hk,hp];simp only[Bool.false_eq_true,if_false];rw[yQ];simp [ic,GX hs,h3,hc]
theorem se {k:Bk} {b:Nat} {cap:Int} {d:List UInt8} (hn:eS d=none) {k':Bk} (hh:k'.bX=k.bX) (hp:k'.pg=k.pg++[d]):k'.ew b cap=k.ew b cap:=by
 unfold Bk.ew;rw[hh,hp];split
 ·rfl
 ·rw[yQ];simp [ic,hn]
theorem Bd {k:Bk} {b:Nat} {cap:Int} (h:k.pg=[]∨k.bX=true):k.ew b cap=[]:=by
 unfold Bk.ew;rcases h with h|h
 ·rw[h];simp [ic]
 ·rw[if_pos h]
end Go.Proofs.YtlgdkndamddpkaaGreat
end
