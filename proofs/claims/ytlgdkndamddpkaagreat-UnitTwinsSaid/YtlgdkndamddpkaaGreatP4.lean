/- Part 4 of the texts behind the law UnitTwins: what its row needs (an abstract machine, its equations, and what the program computes). -/
import Derived.Test.YtlgdkndamddpkaaGreatP3
set_option maxRecDepth 100000
set_option linter.unusedSimpArgs false
set_option linter.unusedVariables false
set_option linter.unusedSectionVars false
section
namespace Go.Proofs.YtlgdkndamddpkaaGreat
open Go.Am
def fq (a:Ar) (i p:Nat) (d:List UInt8) (e:Int):Ar×Int:=
 if a.off=true then (a,9) else if a.ay≤(p:Int) then (a,1) else if d.length≠96 then (a,3) else match a.bs[i]? with
  |none=>(a,1)
  |some b=>if p≠b.pg.length∨b.bY=true then (a,6) else if e<a.aN then (a,7) else
   if (bq a i b).off=true then ({bq a i b with ee:=.prog i d},9)
   else if (aD b).bd=true then ({bq a i b with bs:=(bq a i b).bs.set i {aD b with pg:=b.pg++[gG d 0],aM:=true}},8)
   else ({bq a i b with bs:=(bq a i b).bs.set i {aD b with pg:=b.pg++[d]}},0)
theorem bu (b:Bk):(aD b).pg=b.pg:=by unfold aD;split<;>rfl
section
variable {B:ag} {L:List bV} {H:ag} {K:V→ag→Prop} {aK:Nat} {a:Ar} {x:Ra} {i:Nat}
theorem fF (a:Ar) (i:Nat) (b:Bk):(bq a i b).bs.length=a.bs.length:=by simp [bq]
theorem AV (a:Ar) {i:Nat} (b:Bk) (hi:i<a.bs.length):(bq a i b).bs[i]'(by rw[fF];exact hi)=aD b:=by simp [bq]
theorem eg.wayW {W:bV} (h:eg B H aK a x (W::L)) (w:V) (wy:Wy) (hW:∀g,W g→yz x.q w wy g):H.wr aK 7 1=true∧eg B (H.store aK 7 [w]) aK {a with ee:=wy} {x with w:=w} L:=by
 have h1:=h.s.AT (k:=7) (by show 7<8;omega) w;refine⟨h1.1,h.bs, ?_⟩;have h3:az B (H.store aK 7 [w]) (W::di aK 81 ((zF a x).set 7 w)::Rw 84 6 x.q x.c (x.rs.map Rb.cs)::bo (x.rs.map Rb.bR)::L):=((h1.2.ord [3]).drop).ord [3];exact(h3.imp hW).ord [1,1,1]
theorem eg.XJ {l:List bV} (h:eg B H aK a x (l++L)):eg B H aK a x (bo l::L):=by
 have h1:=h.s.vc (List.perm_append_comm_assoc [di aK 81 (zF a x),Rw 84 6 x.q x.c (x.rs.map Rb.cs),bo (x.rs.map Rb.bR),yz x.q x.w a.ee] l L);exact⟨h.bs,(az.rX h1).ord [1,1,1,1]⟩
theorem G0 (h:az B H (cO aK a::L)) (hi:i<a.bs.length) (p:Nat) {q:Oq} {c:Nat} {d:List UInt8} (hr:lC B (cO aK a::L) q d) (hd:d.length≤1000) (e:Int) (sC:a.ay≤1000) (k:∀H',az B H' (cO aK (fq a i p d e).1::L)→K (.int .i64 (fq a i p d e).2) H'):cl 151 [.ak (some (aK,0)),.int .i64 (i:Int),.int .i64 (p:Int),.slice q d.length c,.int .u64 e] H K:=by
 rw[Xd];have Zt:=hr H h;obtain⟨x,hX⟩:=eg.of h;have g:=hX.g;have p0:¬(p:Int)<0:=by omega
 have h9:¬(9:Int)=0:=by decide
 refine CR hX hi (fun ho=> ?_) (fun ho'=> ?_)
 ·have e2:fq a i p d e=(a,9):=by simp [fq,ho]
  rw[e2] at k;simp only[AJ,reduceIte,Nat.reduceEqDiff,h9];exact k H h
 simp only[AJ,reduceIte,Nat.reduceEqDiff,if_true,Option.isSome_some,g.i1,g.c1,aO,p0,Nat.zero_add,cond_true,ite_self,Int.toNat_natCast];by_cases hp:a.ay≤(p:Int)
 ·have e2:fq a i p d e=(a,1):=by simp [fq,ho',hp]
  rw[e2] at k;have Gc:(p:Int)≥a.ay:=hp;simp only[Gc,decide_true,aq];exact k H h
 have Gc:¬(p:Int)≥a.ay:=hp;simp only[Gc,decide_false,ai];by_cases hl:d.length≠96
 ·have e2:fq a i p d e=(a,3):=by simp [fq,ho',hp,hl]
  rw[e2] at k;have hl':¬(d.length:Int)=96:=by omega
  simp only[hl',decide_false,Bool.not_false,aq];exact k H h
 have Uk:d.length=96:=by omega
 have hl':(d.length:Int)=96:=by omega
 have hbk:a.bs[i]? =some a.bs[i]:=List.getElem?_eq_getElem hi;obtain⟨q',c',g3,g2,g1,_⟩:=hX.pgA hi;have g5:=hX.ck2 hi;simp only[hl',decide_true,Bool.not_true,ai,g2,g3,g5.1,g5.2,AJ,reduceIte,Nat.reduceEqDiff,ite_self];by_cases hk:p≠(a.bs[i]).pg.length∨(a.bs[i]).bY=true
 ·have e2:fq a i p d e=(a,6):=by simp only[fq,ho',hp,hl,hbk,hk,if_true,if_false,Bool.false_eq_true]
  rw[e2] at k
  have e3:(bif !!decide ((p:Int)=((a.bs[i]).pg.length:Int)) then (a.bs[i]).bY else true)=true:=by
   rcases hk with hk|hk
   ·have:¬(p:Int)=((a.bs[i]).pg.length:Int):=by omega
    simp [this]
   ·simp [hk]
  simp only[Bool.not_not] at e3;simp only[Bool.not_not,e3,aq];exact k H h
 have U9:p=(a.bs[i]).pg.length:=by omega
 have hk2:(a.bs[i]).bY=false:=by simpa using fun hh=>hk (.inr hh)
 have Zu:(p:Int)=((a.bs[i]).pg.length:Int):=by omega
 simp only[Zu,hk2,decide_true,Bool.not_not,cond_true,ai,g.i2,g.c2,AJ,reduceIte,Nat.reduceEqDiff];by_cases hf:e<a.aN
 ·have e2:fq a i p d e=(a,7):=by simp only[fq,ho',hp,hl,hbk,hk,hf,if_true,if_false,Bool.false_eq_true]
  rw[e2] at k;simp only[hf,decide_true,aq];exact k H h
 simp only[hf,decide_false,ai]
 have e2:fq a i p d e=if (bq a i a.bs[i]).off=true then ({bq a i a.bs[i] with ee:=.prog i d},9)
  else if (aD a.bs[i]).bd=true then ({bq a i a.bs[i] with bs:=(bq a i a.bs[i]).bs.set i {aD a.bs[i] with pg:=(a.bs[i]).pg++[gG d 0],aM:=true}},8)
  else ({bq a i a.bs[i] with bs:=(bq a i a.bs[i]).bs.set i {aD a.bs[i] with pg:=(a.bs[i]).pg++[d]}},0):=by
  simp only[fq,ho',hp,hl,hbk,hk,hf,if_true,if_false,Bool.false_eq_true]
 rw[e2] at k;clear e2;obtain⟨b,hb⟩:∃b,b=a.bs[i]:=⟨_,rfl⟩;obtain⟨a3,Qv⟩:∃a3,a3=bq a i b:=⟨_,rfl⟩;rw[←hb, ←Qv] at k;have OE:i<a3.bs.length:=by rw[Qv,fF];exact hi
 have DQ:a3.bs[i]=aD b:=by subst Qv;exact AV a b hi
 refine jK hX.s Zt (by omega) (fun q2 c2 H2 h2=> ?_);have Ga:d.length≤c2:=(h2.Lq).2.2.1;have hX2:eg B H2 aK a x (BY q2 c2 d::L):=⟨hX.bs,h2.ord [1,1,1,1]⟩;simp only[AJ,reduceIte,Nat.reduceEqDiff];refine EU hX2 hi (fun x3 H3 Lj hw3 OF=> ?_);rw[←hb, ←Qv] at OF⊢;simp only[AJ,reduceIte,Nat.reduceEqDiff,Bool.not_not];by_cases Qw:a3.off=true
 ·rw[if_pos Qw] at k;simp only[Qw,aq];have hA:=(OF.alloc 104 [.ak (some (pb x.q,po x.q+i*6))]).alloc 36 [.slice q2 d.length c2]
  have hA2:eg B ((H3.alloc (.cells 104 [.ak (some (pb x.q,po x.q+i*6))] false)).alloc (.cells 36 [.slice q2 d.length c2] false)) aK a3 x3 (bo [di H3.next 104 [.ak (some (pb x.q,po x.q+i*6))],di (H3.next+1) 36 [.slice q2 d.length c2],BY q2 c2 d]::L):=
   eg.XJ (l:=[di H3.next 104 [.ak (some (pb x.q,po x.q+i*6))],di (H3.next+1) 36 [.slice q2 d.length c2],BY q2 c2 d]) (hA.ord (.swap ..))
  obtain⟨w,hW⟩:=hA2.wayW (.func 156 [.ak (some (H3.next,0)),.ak (some (H3.next+1,0))]) (.prog i d) (fun g hg=>by
   rw[←Lj] at hg
   exact⟨(H3.next,H3.next+1),(q2,c2),_,g,kZ.empty g,⟨rfl,rfl⟩,hg⟩)
  rw[show (H3.alloc (.cells 104 [.ak (some (pb x.q,po x.q+i*6))] false)).next=H3.next+1 from rfl,w,aA];exact k _ hW.to
 ·have Ul:a3.off=false:=by simpa using Qw
  rw[if_neg Qw] at k;simp only[Ul,ai];obtain⟨hi',hb',_⟩:=OF.open OE;have g3:=OF.g.b0 hi';rw[hb',DQ,bu,Lj,hb] at g3;simp only[g3.2.1,g3.2.2,AJ,reduceIte,Nat.reduceEqDiff];have zt:(a.bs[i]).pg.length≤1000:=by omega
  by_cases OO:(aD b).bd=true
  ·rw[if_pos OO] at k;simp only[OO,aq]
   have T:∀(K:V→ag→Prop),(∀q' c' H',eg B H' aK a3 x3 (BY q' c' (gG d 0)::L)→K (.slice q' 96 c') H')→cl 157 [.slice q2 d.length c2,.int .i64 0] H3 K:=fun K k=>by
    rw[Uk];exact Pt OF.s (fun H' h'=>(h'.ord [4]).gQ) Uk (by omega) 0 (fun q' c' H' h'=>k q' c' H' ⟨OF.bs,(h'.ord [5]).drop.ord [1,1,1,1]⟩)
   have P:∀q' c' H',eg B H' aK a3 x3 (BY q' c' (gG d 0)::L)→aQ ej [82,82] [.slice (x3.rs[i]).q (a.bs[i]).pg.length (x3.rs[i]).c,.slice (some (H'.next,0)) 1 1] (H'.alloc (.cells 36 [.slice q' 96 c'] false))
    (fun q n c H'=>ah (H'.wr (pb x.q) (po x.q+i*6) 1) (ah ((H'.store (pb x.q) (po x.q+i*6) [.slice q n c]).wr (pb x.q) (po x.q+i*6+4) 1) (K (.int .i64 8) ((H'.store (pb x.q) (po x.q+i*6) [.slice q n c]).store (pb x.q) (po x.q+i*6+4) [.bool true])))):=by
    intro q' c' H' h';have hp3:(a3.bs[i]).pg.length≤1000:=by rw[DQ,bu,hb];exact zt
    have:=h'.push OE hp3 (Q:=fun H2=>ah (H2.wr (pb x.q) (po x.q+i*6+4) 1) (K (.int .i64 8) (H2.store (pb x.q) (po x.q+i*6+4) [.bool true]))) (fun x4 H4 hq4 hw4 hX4=> ?_) hi'
    ·rw[DQ,bu,hb,mV,Uk,Lj] at this;exact this
    ·obtain⟨w,x5,hq5,hw5,hX5⟩:=hX4.bcell (i:=i) (by simpa using OE) (k:=4) (by omega) (by omega) (v:=.bool true) rfl {aD b with pg:=(a.bs[i]).pg++[gG d 0],aM:=true} (by simp [DQ,bu,hb]) (by intro q c;simp [DQ,bu,hb];rfl);rw[hq4,Lj] at w hX5;rw[w,aA];refine k _ (eg.to (x:=x5) ?_);simpa [hb] using hX5
   refine⟨T _ (fun q' c' H' h'=> ?_),T _ (fun q' c' H' h'=> ?_)⟩
   ·simp only[AJ,reduceIte,Nat.reduceEqDiff];exact P q' c' H' h'
   ·have g4:=h'.g.b0 hi';have g5:=(h'.alloc 36 [.slice q' 96 c']).g.b0 hi';rw[hb',DQ,bu,Lj,hb] at g4 g5;simp only[AJ,reduceIte,Nat.reduceEqDiff,g4.2.1,g4.2.2,g5.2.1,g5.2.2,and_self];exact P q' c' H' h'
  ·rw[if_neg OO] at k;have Um:(aD b).bd=false:=by simpa using OO
   simp only[Um,ai];have g5:=(OF.alloc 36 [.slice q2 d.length c2]).g.b0 hi';rw[hb',DQ,bu,Lj,hb] at g5;simp only[AJ,reduceIte,Nat.reduceEqDiff,g5.2.1,g5.2.2,and_self];have hp3:(a3.bs[i]).pg.length≤1000:=by rw[DQ,bu,hb];exact zt
   have:=OF.push OE hp3 (Q:=fun H2=>K (.int .i64 0) H2) (fun x4 H4 hq4 hw4 hX4=> ?_) hi'
   ·rw[DQ,bu,hb,Lj] at this;exact this
   ·refine k _ (eg.to (x:=x4) ?_);simpa [DQ,bu] using hX4
end
def wC (b:Bk):Bk:={b with pg:=[],bY:=false,er:=qZ (b.er+1)}
def dF (a:Ar) (i:Nat) (e:Int):Ar×Int:=
 if a.off=true then (a,9) else if e<a.aN then (a,7) else match a.bs[i]? with
  |none=>(a,1)
  |some b=>
   if (bq a i b).off=true then ({bq a i b with ee:=.er i (aD b).bd},9)
   else if (aD b).bd=true then ({bq a i b with bs:=(bq a i b).bs.set i {aD b with aM:=true}},8)
   else ({bq a i b with bs:=(bq a i b).bs.set i (wC (aD b))},0)
def v9 (a:Ar) (cut:Int):Ar:=match a.ee with
 | .no=>a
 | .any=>a
 | .prog i d=>if cut>0 then match a.bs[i]? with
   |none=>a
   |some b=>{a with bs:=a.bs.set i {b with pg:=b.pg++[gG d cut]}} else a
 | .er i bd=>match a.bs[i]? with
   |none=>a
   |some b=>if 96≤cut∧bd=false then {a with bs:=a.bs.set i (wC b)} else if cut>0 then {a with bs:=a.bs.set i {b with bY:=decide (0<b.pg.length)}} else a
def cq (a:Ar) (cut:Int):Ar:={v9 a cut with ee:=.no,off:=false,bI:=0,aN:=0,boots:=qZ (a.boots+1)}
def AW (a:Ar):Prop:=match a.ee with
 | .no=>True
 | .any=>False
 | .prog i d=>d.length=96∧∃h:i<a.bs.length,(a.bs[i]).pg.length≤1000
 | .er i _=>i<a.bs.length
section
variable {B:ag} {L:List bV} {H:ag} {K:V→ag→Prop} {aK:Nat} {a:Ar} {x:Ra} {i:Nat}
theorem aa4 {id:Nat} {e:TypeId} {v:V} (h:az B H (di id e [v]::L)):H.inb id 0 1=true∧H.cell id 0=v∧H.wr id 0 1=true:=
 ⟨dP h.get 0 1,aX h.get 0,fY h.get 0 1⟩
theorem eg.b1 {id:Nat} {e:TypeId} {v:V} (h:eg B H aK a x (di id e [v]::L)):H.inb id 0 1=true∧H.cell id 0=v∧H.wr id 0 1=true:=aa4 h.XI
theorem Pu {id:Nat} (h:eg B H aK a x (di id 104 [.ak (some (pb x.q,po x.q+i*6))]::L)) (hi:i<a.bs.length) (k:∀x' H',x'.q=x.q→x'.w=x.w→eg B H' aK {a with bs:=a.bs.set i (wC a.bs[i])} x' (di id 104 [.ak (some (pb x.q,po x.q+i*6))]::L)→K (.tuple []) H'):cl 127 [.ak (some (id,0))] H K:=by
 rw[WW];obtain⟨hi',hb',h1⟩:=h.open hi
 have hN:az B H (oF none 0 []::di aK 81 (zF a x)::Rw 84 6 x.q x.c (x.rs.map Rb.cs)::bo ((x.rs.map Rb.bR).eraseIdx i)::yz x.q x.w a.ee::di id 104 [.ak (some (pb x.q,po x.q+i*6))]::L):=
  az.ML (rs:=[]) ((h1.drop.pI).rwNil 36 1)
 obtain⟨w1,x1,hq1,hw1,h2⟩:=eg.close (L:=_) h.bs hi hi' hN;have f0:=h.b1;have f1:=h2.b1;have hi1:i<(a.bs.set i {a.bs[i] with pg:=[]}).length:=by simpa using hi
 obtain⟨w2,x2,OL,Zo,h3⟩:=h2.bcell (i:=i) hi1 (k:=2) (by omega) (by omega) (v:=.bool false) rfl {a.bs[i] with pg:=[],bY:=false} (by simp) (by intro q c;simp;rfl);have f2:=h3.b1;have hi2:i<((a.bs.set i {a.bs[i] with pg:=[]}).set i {a.bs[i] with pg:=[],bY:=false}).length:=by simpa using hi
 have f3:=h3.ck1 hi2;obtain⟨w3,x3,Lj,hw3,h4⟩:=h3.bcell (i:=i) hi2 (k:=1) (by omega) (by omega) (v:=.int .i64 (qZ ((a.bs[i]).er+1))) rfl (wC a.bs[i]) (by simp [wC]) (by intro q c;simp [wC];rfl);rw[hq1] at w2 h3 f2 f3 w3 h4;rw[OL,hq1] at f3 w3 h4;simp only[List.getElem_set_self] at f3;have l0:([]:List (List UInt8)).length=0:=rfl;rw[l0] at w2 h3 f2 f3 w3 h4 f1;simp only[AJ,reduceIte,Nat.reduceEqDiff,f0.1,f0.2.1,w1,f1.1,f1.2.1,w2,Option.isSome_some,and_self];have f3':=f3.1;have abq:=f3.2;simp only[f2.1,f2.2.1,f3',abq,AJ,reduceIte,Nat.reduceEqDiff,Option.isSome_some,w3];refine k x3 _ (by rw[Lj,OL,hq1]) (by rw[hw3,Zo,hw1]) ?_;simpa using h4
theorem MP (h:az B H (cO aK a::L)) (hi:i<a.bs.length) (e:Int) (k:∀H',az B H' (cO aK (dF a i e).1::L)→K (.int .i64 (dF a i e).2) H'):cl 104 [.ak (some (aK,0)),.int .i64 (i:Int),.int .u64 e] H K:=by
 rw[WK];obtain⟨x,hX⟩:=eg.of h;have h9:¬(9:Int)=0:=by decide
 have hbk:a.bs[i]? =some a.bs[i]:=List.getElem?_eq_getElem hi
 have st:∀(p:Oq) {H0:ag} {a0:Ar} {x0:Ra} {L0:List bV} {e:TypeId} {v0 v:V},eg B H0 aK a0 x0 L0→(H0.alloc (.cells e [v0] false)).wr H0.next 0 1=true∧eg B ((H0.alloc (.cells e [v0] false)).store H0.next 0 [v]) aK a0 x0 (di H0.next e [v]::L0):=by
  intro p H0 a0 x0 L0 e v0 v h0;have h1:=h0.alloc e [v0];have h2:=(h1.s.ord [4]).AT (k:=0) (by show 0<1;omega) v;exact⟨h2.1,h0.bs,az.ord h2.2 [1,1,1,1]⟩
 refine CR hX hi (fun ho=> ?_) (fun ho'=> ?_)
 ·have e2:dF a i e=(a,9):=by simp [dF,ho]
  rw[e2] at k;obtain⟨w,h1⟩:=st none (e:=104) (v0:=.ak none) (v:=.ak none) hX;simp only[AJ,reduceIte,Nat.reduceEqDiff,h9,w];exact k _ h1.drop.to
 obtain⟨w,h1⟩:=st none (e:=104) (v0:=.ak none) (v:=.ak (some (pb x.q,po x.q+i*6))) hX;obtain⟨pid,Qx⟩:∃p,p=H.next:=⟨_,rfl⟩;simp only[AJ,reduceIte,Nat.reduceEqDiff,w];generalize (ag.store _ _ _ _)=H1 at h1⊢;rw[←Qx] at h1⊢;have g1:=h1.g;have f1:=h1.b1;simp only[g1.i2,g1.c2,Option.isSome_some,Nat.zero_add,AJ,reduceIte,Nat.reduceEqDiff];by_cases hf:e<a.aN
 ·have e2:dF a i e=(a,7):=by simp [dF,ho',hf]
  rw[e2] at k;simp only[hf,decide_true,aq];exact k _ h1.drop.to
 have e2:dF a i e=if (bq a i a.bs[i]).off=true then ({bq a i a.bs[i] with ee:=.er i (aD a.bs[i]).bd},9)
  else if (aD a.bs[i]).bd=true then ({bq a i a.bs[i] with bs:=(bq a i a.bs[i]).bs.set i {aD a.bs[i] with aM:=true}},8)
  else ({bq a i a.bs[i] with bs:=(bq a i a.bs[i]).bs.set i (wC (aD a.bs[i]))},0):=by
  simp only[dF,ho',hf,hbk,if_false,Bool.false_eq_true]
 rw[e2] at k;clear e2;obtain⟨b,hb⟩:∃b,b=a.bs[i]:=⟨_,rfl⟩;obtain⟨a3,Qv⟩:∃a3,a3=bq a i b:=⟨_,rfl⟩;rw[←hb, ←Qv] at k;have OE:i<a3.bs.length:=by rw[Qv,fF];exact hi
 have DQ:a3.bs[i]=aD b:=by subst Qv;exact AV a b hi
 simp only[hf,decide_false,ai,f1.1,f1.2.1,AJ,reduceIte,Nat.reduceEqDiff];refine EU h1 hi (fun x3 H3 Lj hw3 OF=> ?_);rw[←hb, ←Qv] at OF⊢;simp only[AJ,reduceIte,Nat.reduceEqDiff];obtain⟨w4,h4⟩:=st none (e:=4) (v0:=.bool false) (v:=.bool (aD b).bd) OF;simp only[w4,aA];obtain⟨bid,abr⟩:∃p,p=H3.next:=⟨_,rfl⟩;generalize (ag.store _ _ _ _)=H4 at h4⊢;rw[←abr] at h4⊢;obtain⟨w5,h5⟩:=st none (e:=1) (v0:=.nilFunc) (v:=.func 127 [.ak (some (pid,0))]) h4;simp only[w5,aA];obtain⟨fid,Lk⟩:∃p,p=H4.next:=⟨_,rfl⟩;generalize (ag.store _ _ _ _)=H5 at h5⊢;rw[←Lk] at h5⊢;by_cases Qw:a3.off=true
 ·rw[if_pos Qw] at k
  have hA2:eg B H5 aK a3 x3 (bo [di bid 4 [.bool (aD b).bd],di fid 1 [.func 127 [.ak (some (pid,0))]],di pid 104 [.ak (some (pb x.q,po x.q+i*6))]]::L):=
   eg.XJ (l:=[di bid 4 [.bool (aD b).bd],di fid 1 [.func 127 [.ak (some (pid,0))]],di pid 104 [.ak (some (pb x.q,po x.q+i*6))]]) (h5.ord (.swap ..))
  obtain⟨w,hW⟩:=hA2.wayW (.func 128 [.ak (some (bid,0)),.ak (some (fid,0)),.ak (some (pid,0))]) (.er i (aD b).bd) (fun g hg=>by
   rw[←Lj] at hg
   exact⟨(bid,fid,pid),_,g,kZ.empty g,⟨rfl,rfl⟩,hg⟩)
  simp only[Qw,Bool.not_true,Bool.not_false,aq,w,aA];exact k _ hW.to
 have Ul:a3.off=false:=by simpa using Qw
 rw[if_neg Qw] at k;have f5:=h5.drop.b1;have f6:=h5.b1;have f7:=h5.drop.drop.b1;simp only[Ul,Bool.not_true,Bool.not_false,ai,f5.1,f5.2.1,AJ,reduceIte,Nat.reduceEqDiff];by_cases OO:(aD b).bd=true
 ·rw[if_pos OO] at k;obtain⟨w6,x6,hq6,hw6,h6⟩:=h5.bcell (i:=i) OE (k:=4) (by omega) (by omega) (v:=.bool true) rfl {aD b with aM:=true} (by rw[DQ]) (by intro q c;rw[DQ];rfl);rw[Lj] at w6 h6;simp only[OO,aq,f7.1,f7.2.1,Option.isSome_some,w6,AJ,reduceIte,Nat.reduceEqDiff];exact k _ (h6.drop.drop.drop).to
 ·rw[if_neg OO] at k;have Um:(aD b).bd=false:=by simpa using OO
  simp only[Um,ai,f6.1,f6.2.1,V.aw,aA,Bool.and_self]
  have h7:eg B H5 aK a3 x3 (di pid 104 [.ak (some (pb x3.q,po x3.q+i*6))]::L):=by
   rw[Lj];exact h5.drop.drop
  show cl 127 [.ak (some (pid,0))] H5 _
  refine Pu h7 OE (fun x8 H8 _ _ h8=> ?_);rw[DQ] at h8;exact k _ h8.drop.to
end
def fj:Bk:=⟨[],0,false,false,false,0⟩
def yA:Bk:=⟨[],0,false,true,true,0⟩
def re (bs:List Bk):List Int→List Bk
 |[]=>bs
 |i::l=>re (bs.set i.toNat yA) l
def z9 (n:Nat) (p:Int) (bB:List Int):Ar:={bs:=re (List.replicate n fj) bB,ay:=p,aN:=0,boots:=0,bI:=0,off:=false,aE:=0,ee:=.no}
theorem AX:∀(l:List Int) (bs:List Bk),(re bs l).length=bs.length
 |[],_=>rfl
 |i::l,bs=>by rw[re,AX l,List.length_set]
section
variable {B:ag} {L:List bV} {H:ag} {K:V→ag→Prop} {aK:Nat} {a:Ar} {x:Ra} {i:Nat}
theorem az.EV (h:az B H L):∀n:Nat,az B H (bo (List.replicate n (oF none 0 []))::L)
 |0=>h.pI
 |n+1=>az.lW (az.ML (rs:=[]) (((az.EV h n).pI).rwNil 36 1))
theorem EW (l:List V):∀n:Nat,(List.replicate n l).flatten=ew n l
 |0=>rfl
 |n+1=>by
  rw[List.replicate_succ,List.flatten_cons,EW l n];rfl
theorem MQ {q:Oq} {c n:Nat} {bB:List Int} (hr:EM B L q bB) (hl:bB.length≤1000000) {Kr:Am.St→Prop} {Ke:Nat→Am.St→Prop}:∀(k j:Nat) (a:Ar) {x:Ra} {H:ag},j+k=bB.length→a.bs.length=n→(∀b∈a.bs,b=fj∨b=yA)→eg B H aK a x L→((∃i∈bB.drop j,i<0∨(n:Int)≤i)→∀H',az B H' L→Kr (St.mk (ab [(6,T.v (V.ak none)),(7,T.v (V.int .i64 1))]) (ab []) H'))→((∀i∈bB.drop j,0≤i∧i<(n:Int))→∀H' x',eg B H' aK {a with bs:=re a.bs (bB.drop j)} x' L→Ke 0 (St.mk (ab [(8,T.v (V.ak (some (aK,0))))]) (ab []) H'))→lo 12 6 (St.mk (ab [(0,T.v (V.int .i64 (n:Int))),(8,T.v (V.ak (some (aK,0)))),(30,T.v (V.slice q bB.length c)),(31,T.v (V.int .i64 (bB.length:Int))),(32,T.v (V.int .i64 (j:Int)))]) (ab []) H) Kr Ke
 |0,j,a,x,H,hj,hn,hp,h,k1,k2=>by
  obtain rfl:j=bB.length:=by omega
  rw[Ml,decide_eq_false (by omega),ai];rw[List.drop_length] at k2;exact k2 (by simp) H x h
 |k+1,j,a,x,H,hj,hn,hp,h,k1,k2=>by
  have hlt:j<bB.length:=by omega
  obtain⟨g1,g2,g3⟩:=(hr H h.XI).at hlt;have a1:(j:Int)<(bB.length:Int):=by omega
  have a2:0≤(j:Int):=by omega
  rw[List.drop_eq_getElem_cons hlt] at k1 k2;rw[Ml];simp only[AJ,reduceIte,Nat.reduceEqDiff,a1,a2,Int.toNat_natCast,g1,g2,g3];by_cases hb:bB[j]<0∨(n:Int)≤bB[j]
  ·have e:(bif !decide (bB[j]<0) then decide (bB[j]≥(n:Int)) else true)=true:=by
    rcases hb with hb|hb
    ·simp [hb]
    ·have:bB[j]≥(n:Int):=hb;simp [this]
   rw[e,aq];exact k1 ⟨_,List.mem_cons_self,hb⟩ H h.XI
  ·obtain⟨b1,b2⟩:¬bB[j]<0∧¬(n:Int)≤bB[j]:=by omega
   have b2':¬bB[j]≥(n:Int):=b2;have b3:0≤bB[j]:=by omega
   have b4:bB[j]<(n:Int):=by omega
   have hi:bB[j].toNat<a.bs.length:=by omega
   have Zv:=hp _ (List.getElem_mem hi);have g:=h.g;have hx:=h.len;have b5:bB[j]<(x.rs.length:Int):=by omega
   obtain⟨s1,_⟩:=h.c0 hi;obtain⟨w1,x1,q1,e1,h1⟩:=h.bcell hi (k:=3) (by omega) (by omega) (v:=.bool true) rfl {a.bs[bB[j].toNat] with bd:=true} rfl (fun _ _=>rfl);have hi1:bB[j].toNat<(a.bs.set bB[j].toNat {a.bs[bB[j].toNat] with bd:=true}).length:=by simpa using hi
   obtain⟨w2,x2,q2,e2,h2⟩:=h1.bcell hi1 (k:=4) (by omega) (by omega) (v:=.bool true) rfl {a.bs[bB[j].toNat] with bd:=true,aM:=true} (by simp) (fun _ _=>by simp;rfl);rw[q1] at w2 h2;simp only[b1,b2',b3,b4,b5,decide_false,Bool.not_false,cond_true,ai,Option.isSome_some,g.i0,g.c0,Nat.zero_add,s1,w1,w2,AJ,reduceIte,Nat.reduceEqDiff];rw[aJ (by omega)]
   have eb:({a.bs[bB[j].toNat] with bd:=true,aM:=true}:Bk)=yA:=by
    rcases Zv with Zv|Zv<;>rw[Zv]<;>rfl
   rw[eb,List.set_set] at h2;refine MQ hr hl k (j+1) {a with bs:=a.bs.set bB[j].toNat yA} (by omega) (by rw[List.length_set];exact hn) (fun b hb'=> ?_) h2 (fun he=>k1 ?_) (fun hall H' x' h'=> ?_)
   ·rcases List.mem_or_eq_of_mem_set hb' with hb'|hb'
    ·exact hp b hb'
    ·exact .inr hb'
   ·obtain⟨z,DB,xf⟩:=he;exact⟨z,List.mem_cons_of_mem _ DB,xf⟩
   ·exact k2 (fun z hz=>by
     rcases List.mem_cons.1 hz with rfl|hz
     ·omega
     ·exact hall z hz) H' x' h'
theorem MR (h:az B H L) (b p:Int) {q:Oq} {c:Nat} {bB:List Int} (hr:EM B L q bB) (hl:bB.length≤1000000) (k1:¬(1≤b∧b≤64∧1≤p∧p≤32∧∀i∈bB,0≤i∧i<b)→∀H',az B H' L→K (.tuple [.ak none,.int .i64 1]) H') (k2:(1≤b∧b≤64∧1≤p∧p≤32∧∀i∈bB,0≤i∧i<b)→∀aK H',az B H' (cO aK (z9 b.toNat p bB)::L)→K (.tuple [.ak (some (aK,0)),.int .i64 0]) H'):cl 12 [.int .i64 b,.int .i64 p,.slice q bB.length c] H K:=by
 rw[Z5];by_cases hn:1≤b∧b≤64∧1≤p∧p≤32
 ·obtain⟨h1,h2,h3,h4⟩:=hn;have b1:¬b<1:=by omega
  have b2:¬b>64:=by omega
  have b3:¬p<1:=by omega
  have b4:¬p>32:=by omega
  have b5:0≤b:=by omega
  have b6:b*49≤70368744177664:=by omega
  have b7:b≤b:=by omega
  simp only[b1,b2,b3,b4,b5,b6,b7,decide_false,decide_true,Bool.not_false,cond_true,ai,Bool.and_self,aA,oM];obtain⟨n,rfl⟩:∃n:Nat,b=(n:Int):=⟨b.toNat,by omega⟩;rw[Int.toNat_natCast] at*;have hA:=h.alloc 84 (ew n (QN none 0 0 0 false false false 0))
  have hrow:az B (H.alloc (.cells 84 (ew n (QN none 0 0 0 false false false 0)) false)) (Rw 84 6 (some (H.next,0)) n ((List.replicate n (Rb.mk fj none 0)).map Rb.cs)::L):=by
   have e:(List.replicate n (Rb.mk fj none 0)).map Rb.cs=List.replicate n (QN none 0 0 0 false false false 0):=by rw[List.map_replicate];rfl
   rw[e];have hlen:(ew n (QN none 0 0 0 false false false 0)).length=n*6:=by rw[ew,fL];rfl
   unfold Rw;rw[EW,List.length_replicate];exact hA.unbuf hlen (gk (fun v hv=>by simp only[QN,List.mem_cons,List.not_mem_nil,or_false] at hv;rcases hv with rfl|rfl|rfl|rfl|rfl|rfl<;>rfl) _) (by omega) (by rw[hlen];omega) (by rw[List.drop_zero,List.take_length])
  generalize ag.alloc H _=H1 at hrow⊢;have hB:=hrow.alloc 81 (Zc (some (H.next,0)) n n p 0 0 0 false 0 .nilFunc);obtain⟨aK,Yt⟩:∃z,z=H1.next:=⟨_,rfl⟩;generalize ag.alloc H1 _=H2 at hB⊢;rw[←Yt] at hB;have hN:H1.2=aK:=Yt.symm;rw[hN]
  have hX:eg B H2 aK {bs:=List.replicate n fj,ay:=p,aN:=0,boots:=0,bI:=0,off:=false,aE:=0,ee:=.no} ⟨.nilFunc,some (H.next,0),n,List.replicate n (Rb.mk fj none 0)⟩ L:=by
   refine⟨by simp, ?_⟩;have h3:=(az.pure (p:=V.nilFunc=V.nilFunc) hB rfl);have h4:=az.EV h3 n;have e1:(List.replicate n (Rb.mk fj none 0)).map Rb.bR=List.replicate n (oF none 0 []):=by rw[List.map_replicate];rfl
   have h5:=h4.ord [2,2,0,0];show az B H2 (di aK 81 (Zc (some (H.next,0)) (List.replicate n (Rb.mk fj none 0)).length n p 0 0 0 false 0 .nilFunc)::_::bo ((List.replicate n (Rb.mk fj none 0)).map Rb.bR)::_)
   rw[e1,List.length_replicate];exact h5
  refine MQ hr hl bB.length 0 _ (by omega) (by simp) (fun b hb=>.inl (List.eq_of_mem_replicate hb)) hX (fun he H' h'=> ?_) (fun ha H' x' h'=> ?_)
  ·simp only[AJ,reduceIte,Nat.reduceEqDiff];refine k1 (fun hh=> ?_) H' h';obtain⟨z,DB,xf⟩:=he;have:=hh.2.2.2.2 z DB;omega
  ·simp only[AJ,reduceIte,Nat.reduceEqDiff];exact k2 ⟨h1,h2,h3,h4,ha⟩ aK H' h'.to
 ·have e:(bif !decide (b<1) then bif !decide (b>64) then bif !decide (p<1) then decide (p>32) else true else true else true)=true:=by
   by_cases b1:b<1
   ·simp [b1]
   by_cases b2:b>64
   ·simp [b1,b2]
   by_cases b3:p<1
   ·simp [b1,b2,b3]
   have b4:p>32:=by omega
   simp [b1,b2,b3,b4]
  rw[e,aq];exact k1 (fun hh=>hn ⟨hh.1,hh.2.1,hh.2.2.1,hh.2.2.2.1⟩) H h
end
section
variable {B:ag} {L:List bV} {H:ag} {K:V→ag→Prop} {q:Oq} {cap:Nat} {bs:List UInt8}
theorem MU (n size:Nat) (hs:size≤8) (bs:List UInt8) (hb:bs.length+size≤1000000000) {Kr:Am.St→Prop} {Ke:Nat→Am.St→Prop}:∀(k i:Nat) {q:Oq} {cap:Nat} {H:ag},i+k=size→az B H (BY q cap (bs++le n i)::L)→(∀q' c' H',az B H' (BY q' c' (bs++le n size)::L)→Ke 0 (St.mk (ab [(0,T.v (V.slice q' (bs++le n size).length c'))]) (ab []) H'))→lo 119 2 (St.mk (ab [(0,T.v (V.slice q (bs++le n i).length cap)),(1,T.v (V.int .u64 (n:Int))),(8,T.v (V.int .i64 (size:Int))),(9,T.v (V.int .i64 (i:Int)))]) (ab []) H) Kr Ke
 |0,i,q,cap,H,hi,h,hk=>by
  obtain rfl:i=size:=by omega
  rw[Il];(try simp only[NQ]);have e1:decide ((i:Int)<(i:Int))=false:=by simp
  rw[e1,ai];exact hk _ _ _ h
 |k+1,i,q,cap,H,hi,h,hk=>by
  rw[Il];(try simp only[NQ]);have e1:decide ((i:Int)<(size:Int))=true:=by simp;omega
  rw[e1,aq,EF (by omega),aA,MA n (by omega)];refine EI h _ (by simp;omega) (fun q' c' H' h'=> ?_);rw[aJ (by omega)];rw[List.append_assoc, ←Is] at h'⊢;exact MU n size hs bs hb k (i+1) (by omega) h' hk
theorem dU (n size:Nat) (h:az B H (BY q cap bs::L)) (hs:size≤8) (hb:bs.length+size≤1000000000) (k:∀q' c' H',az B H' (BY q' c' (bs++le n size)::L)→K (.slice q' (bs++le n size).length c') H'):cl 119 [.slice q bs.length cap,.int .u64 (n:Int),.int .i64 (size:Int)] H K:=by
 rw[Xk];(try simp only[NQ])
 have:=MU (B:=B) (L:=L) n size hs bs hb (Kr:=fun _=>False) (Ke:=fun j S'=>br (Nat.beq j 0) (ah (aG (KT.k bX.slice) (S'.1 0)||false||false) (K (V.slice (V.au (T.val (S'.1 0))) (V.ax (T.val (S'.1 0))) (V.aC (T.val (S'.1 0)))) S'.3)) False)
  size 0 (q:=q) (cap:=cap) (H:=H) (by omega) (by simpa [le] using h) (fun q' c' H' h'=>by simpa [AK,reduceIte,Nat.reduceEqDiff] using k q' c' H' h')
 simpa [le] using this
theorem MV (hr:lz H q bs) (hb:bs.length≤8) {Kr:Am.St→Prop} {Ke:Nat→Am.St→Prop}:∀(k i:Nat),i+k=bs.length→lo 107 3 (St.mk (ab [(3,T.v (V.int .u64 (dj (bs.take i):Nat))),(6,T.v (V.slice q bs.length cap)),(7,T.v (V.int .i64 (bs.length:Int))),(8,T.v (V.int .i64 (i:Int)))]) (ab []) H) Kr Ke=Ke 0 (St.mk (ab [(3,T.v (V.int .u64 (dj bs:Nat)))]) (ab []) H)
 |0,i,hi=>by
  obtain rfl:i=bs.length:=by omega
  rw[Im];(try simp only[NQ]);rw[List.take_length];have e1:decide ((bs.length:Int)<(bs.length:Int))=false:=by simp
  rw[e1,ai]
 |k+1,i,hi=>by
  have hlt:i<bs.length:=by omega
  obtain⟨h1,h2,h3⟩:=hr.at hlt;rw[Im];(try simp only[NQ]);have e1:decide ((i:Int)<(bs.length:Int))=true:=by simp;omega
  have e2:decide (0≤(i:Int))=true:=by simp
  have e3:0+((i:Int)).toNat*1=i:=by simp
  have e4:(i:Int).toNat*1=i:=by simp
  rw[e1,aq,e2,h1,e4,h2,h3];simp only[Bool.and_self,aA,eT,bK];rw[EF (by omega),aA,aJ (by omega),MC (Nat.lt_of_lt_of_le (wR _) (by rw[List.length_take];exact Nat.pow_le_pow_right (by omega) (by omega))) bs[i].toNat_lt (by omega)]
  have e5:dj (bs.take i)+bs[i].toNat*256 ^ i=dj (bs.take (i+1)):=by
   rw[List.take_succ_eq_append_getElem hlt,pF];simp [dj,Nat.mul_comm];rw[Nat.min_eq_left (by omega)]
  rw[e5];exact MV hr hb k (i+1) (by omega)
theorem AY (hr:lz H q bs) (hb:bs.length≤8):cl 107 [.slice q bs.length cap] H K=K (.int .u64 (dj bs:Nat)) H:=by
 rw[Xl];(try simp only[NQ]);have:=MV (cap:=cap) hr hb (Kr:=fun _=>False) (Ke:=fun j S'=>br (Nat.beq j 0) (ah (aG (KT.k (bX.int IntKind.u64)) (S'.1 3)||false||false) (K (V.int IntKind.u64 (V.aa (T.val (S'.1 3)))) S'.3)) False) bs.length 0 (by omega);simp only[List.take_zero,dj] at this;refine this.trans ?_;simp [AK,reduceIte,Nat.reduceEqDiff]
end
structure RS where
 bs:List UInt8
 bB:Bool
def RS.take (s:RS) (n:Nat):List UInt8×RS:=
 if s.bB=true∨s.bs.length<n then ([],⟨s.bs,true⟩) else (s.bs.take n,⟨s.bs.drop n,false⟩)
def RS.num (s:RS) (size most:Nat):Nat×RS:=
 if dj (s.take size).1>most then (0,⟨(s.take size).2.bs,true⟩) else (dj (s.take size).1,(s.take size).2)
structure mW (B H:ag) (L:List bV) (id:Nat) (s:RS):Prop where
 ex:∃q c,s.bs.length≤c∧lC B L q s.bs∧az B H (di id 182 (z6 q s.bs.length c s.bB)::L)
section
variable {B:ag} {L:List bV} {H:ag} {K:V→ag→Prop} {q:Oq} {cap:Nat} {bs:List UInt8} {id:Nat} {s:RS}
theorem ID (h:az B H L) (hr:lC B L q bs) (hc:bs.length≤cap) (k:∀id H',mW B H' L id ⟨bs,false⟩→K (.ak (some (id,0))) H'):cl 71 [.slice q bs.length cap] H K:=by
 rw[aaN];(try simp only[NQ]);exact k _ _ ⟨q,cap,hc,hr,h.alloc _ _⟩
theorem EX (h:mW B H L id s) (n:Nat) (k:∀q' c' H',mW B H' L id (s.take n).2→lC B L q' (s.take n).1→(s.take n).1.length≤c'→K (.slice q' (s.take n).1.length c') H'):cl 108 [.ak (some (id,0)),.int .i64 (n:Int)] H K:=by
 obtain⟨q,c,hc,hr,hs⟩:=h.ex;have hg:=hs.get;rw[Xm];(try simp only[NQ]);simp only[AK,reduceIte,Nat.reduceEqDiff,Option.isSome_some,Option.getD_some,dP hg,aX hg,fY hg,aO,Nat.zero_add];unfold RS.take at k;by_cases hb:s.bB=true∨s.bs.length<n
 ·rw[if_pos hb] at k
  have e:(bif !s.bB then decide ((n:Int)>(s.bs.length:Int)) else true)=true:=by
   rcases hb with hb|hb
   ·rw[hb];rfl
   ·cases s.bB
    ·simp;omega
    ·rfl
  have h2:az B (H.store id 1 [.bool true]) (di id 182 (z6 q s.bs.length c true)::L):=hs.store;have:=k none 0 _ ⟨q,c,hc,hr,h2⟩ (lC.nil _ _ _) (by simp);have e2:(s.bB||decide (s.bs.length<n))=true:=by simpa using hb
  simpa [z6,ae,e2,AK,reduceIte,Nat.reduceEqDiff] using this
 ·rw[if_neg hb] at k;have zu:s.bB=false:=by cases h:s.bB<;>simp_all
  have mv:n≤s.bs.length:=by omega
  have h2:az B (H.store id 0 [.slice (bH q n) (s.bs.length-n) (c-n)]) (di id 182 (z6 (bH q n) (s.bs.length-n) (c-n) s.bB)::L):=hs.store;have h3:=hr.part n (s.bs.length-n) (by omega);have h4:=hr.part 0 n (by omega);rw[List.drop_zero,gr] at h4;have e3:((s.bs.drop n).take (s.bs.length-n))=s.bs.drop n:=List.take_of_length_le (by simp);rw[e3] at h3;have hl:(s.bs.take n).length=n:=by simp;omega
  have:=k q n _ ⟨bH q n,c-n,by simp;omega,h3,by simpa [zu] using h2⟩ h4 (by simp;omega);have e5:¬(n:Int)>(s.bs.length:Int):=by omega
  have e6:(n:Int)≤(c:Int):=by omega
  have e7:(n:Int)≤(s.bs.length:Int):=by omega
  rw[hl] at this;simpa [z6,ae,zu,e5,e6,e7,hc,AK,reduceIte,Nat.reduceEqDiff] using this
theorem jY (h:mW B H L id s) (size most:Nat) (hs:size≤8) (k:∀H',mW B H' L id (s.num size most).2→K (.int .u64 ((s.num size most).1:Nat)) H'):cl 72 [.ak (some (id,0)),.int .i64 (size:Int),.int .u64 (most:Int)] H K:=by
 rw[aaO];(try simp only[NQ]);rw[Option.isNone_some,ai];refine EX h size (fun q' c' H' h' hr' sy=> ?_);have hl:(s.take size).1.length≤8:=by unfold RS.take;split<;>simp;omega
 obtain⟨q2,c2,Ga,Ah,oH⟩:=h'.ex;simp only[AK,reduceIte,Nat.reduceEqDiff];rw[AY (hr' H' oH.drop) hl];simp only[AK,reduceIte,Nat.reduceEqDiff];unfold RS.num at k;by_cases hm:dj (s.take size).1>most
 ·rw[if_pos hm] at k;have hg:=oH.get;have h3:az B (H'.store id 1 [.bool true]) (di id 182 (z6 q2 (s.take size).2.bs.length c2 true)::L):=oH.store;have:=k _ ⟨q2,c2,Ga,Ah,h3⟩;have e1:((dj (s.take size).1:Nat):Int)>(most:Int):=by omega
  simpa [e1,fY hg,z6] using this
 ·rw[if_neg hm] at k;have e1:¬((dj (s.take size).1:Nat):Int)>(most:Int):=by omega
  have:=k _ h';simpa [e1] using this
theorem To (h:mW B H L id s):cl 73 [.ak (some (id,0))] H K=K (.bool (!s.bB&&decide (s.bs=[]))) H:=by
 obtain⟨q,c,hc,hr,hs⟩:=h.ex;have hg:=hs.get;rw[aaP];(try simp only[NQ]);simp only[AK,reduceIte,Nat.reduceEqDiff,Option.isSome_some,Option.isNone_some,Option.getD_some,dP hg,aX hg,fY hg,aO,Nat.zero_add]
 have e:decide ((s.bs.length:Int)=0)=decide (s.bs=[]):=by
  cases s.bs
  ·simp
  ·simp;omega
 simp only[z6,fT,kW,cD,bU,e];simp [AK,reduceIte,Nat.reduceEqDiff]
end
theorem jL {bs:List UInt8} {size most:Nat} (h1:size≤bs.length) (h2:dj (bs.take size)≤most):(RS.mk bs false).num size most=(dj (bs.take size),⟨bs.drop size,false⟩):=by
 have:¬bs.length<size:=by omega
 simp [RS.num,RS.take,this];omega
theorem tM {bs:List UInt8} {size most:Nat} (h1:size≤bs.length) (h2:dj (bs.take size)>most):(RS.mk bs false).num size most=(0,⟨bs.drop size,true⟩):=by
 have:¬bs.length<size:=by omega
 simp [RS.num,RS.take,this];omega
theorem J8 {bs:List UInt8} {size most:Nat} (h1:bs.length<size):(RS.mk bs false).num size most=(0,⟨bs,true⟩):=by
 simp [RS.num,RS.take,h1,dj]
theorem tN {s:RS} {size most:Nat} (h:s.bB=true):(s.num size most).2.bB=true:=by
 simp [RS.num,RS.take,h,dj]
theorem im {s:RS} {size most:Nat} (h:(s.num size most).2.bB=false):s.bB=false∧size≤s.bs.length∧dj (s.bs.take size)≤most∧s.num size most=(dj (s.bs.take size),⟨s.bs.drop size,false⟩):=by
 obtain⟨bs,bB⟩:=s
 have hb:bB=false:=by
  cases bB
  ·rfl
  ·rw[tN rfl] at h;cases h
 subst hb;by_cases h1:size≤bs.length
 ·by_cases h2:dj (bs.take size)≤most
  ·exact⟨rfl,h1,h2,jL h1 h2⟩
  ·rw[tM h1 (by omega)] at h;cases h
 ·rw[J8 (by omega)] at h;cases h
def CS (c:BitVec 32):BitVec 32:=(c >>> 1) ^^^ (3988292384#32 &&& (0#32-(c &&& 1#32)))
def Tp:Nat→BitVec 32→BitVec 32
 |0,c=>c
 |n+1,c=>Tp n (CS c)
def IE (c:BitVec 32) (b:UInt8):BitVec 32:=Tp 8 (c ^^^ BitVec.ofNat 32 b.toNat)
def MW:List UInt8→BitVec 32→BitVec 32
 |[],c=>c
 |b::l,c=>MW l (IE c b)
def rZ (bs:List UInt8):Nat:=(4294967295#32 ^^^ MW bs 4294967295#32).toNat
theorem CT (bs:List UInt8):rZ bs<4294967296:=BitVec.isLt _
theorem r6 (x:Int):IntKind.u32.wrap x=((BitVec.ofInt 32 x).toNat:Int):=by
 rw[IntKind.wrap_u32,BitVec.toNat_ofInt];omega
theorem pM (c:BitVec 32):BitVec.ofInt 32 (c.toNat:Int)=c:=by
 apply BitVec.eq_of_toNat_eq;rw[BitVec.toNat_ofInt];have:=c.isLt;omega
theorem G1 (c:BitVec 32):IntKind.u32.wrap ((BitVec.toNat (BitVec.ofInt 32 (Int.fdiv (c.toNat:Int) 2) ^^^ BitVec.ofInt 32 (IntKind.u32.wrap ((BitVec.toNat (BitVec.ofInt 32 3988292384 &&& BitVec.ofInt 32 (IntKind.u32.wrap (0-IntKind.u32.wrap ((BitVec.toNat (BitVec.ofInt 32 (c.toNat:Int) &&& BitVec.ofInt 32 1):Nat):Int)))):Nat):Int))):Nat):Int)=((CS c).toNat:Int):=by
 have e1:BitVec.ofInt 32 (Int.fdiv (c.toNat:Int) 2)=c >>> 1:=by
  apply BitVec.eq_of_toNat_eq;rw[BitVec.toNat_ofInt,BitVec.toNat_ushiftRight,Nat.shiftRight_eq_div_pow,Int.fdiv_eq_ediv_of_nonneg _ (by omega)];have:=c.isLt;omega
 have e2:∀y:BitVec 32,BitVec.ofInt 32 (0-(y.toNat:Int))=0#32-y:=by
  intro y;apply BitVec.eq_of_toNat_eq;rw[BitVec.toNat_ofInt,BitVec.toNat_sub];have:=y.isLt;simp only[BitVec.toNat_ofNat];omega
 have e3:BitVec.ofInt 32 1=1#32:=rfl;have e4:BitVec.ofInt 32 3988292384=3988292384#32:=rfl;rw[r6,r6 ((BitVec.toNat (BitVec.ofInt 32 3988292384 &&& _):Nat):Int),r6 (0-_),r6 ((BitVec.toNat (BitVec.ofInt 32 (c.toNat:Int) &&& BitVec.ofInt 32 1):Nat):Int)];simp only[pM,e1,e2,e3,e4];rfl
section
variable {B:ag} {L:List bV} {H:ag} {K:V→ag→Prop} {q:Oq} {cap:Nat} {bs:List UInt8}
theorem IF {Kr:Am.St→Prop} {Ke:Nat→Am.St→Prop} {n i:Int}:∀(k j:Nat) (c:BitVec 32),j+k=8→Ke 2 (St.mk (ab [(3,T.v (V.int .u32 ((Tp k c).toNat:Int))),(6,T.v (V.slice q bs.length cap)),(7,T.v (V.int .i64 n)),(8,T.v (V.int .i64 i))]) (ab []) H)→lo 143 9 (St.mk (ab [(3,T.v (V.int .u32 (c.toNat:Int))),(6,T.v (V.slice q bs.length cap)),(7,T.v (V.int .i64 n)),(8,T.v (V.int .i64 i)),(16,T.v (V.int .i64 (j:Int)))]) (ab []) H) Kr Ke
 |0,j,c,hj,hk=>by
  obtain rfl:j=8:=by omega
  rw[Ii];exact hk
 |k+1,j,c,hj,hk=>by
  rw[Ii,decide_eq_true (by omega),aq,aJ (by omega),G1];exact IF k (j+1) (CS c) (by omega) hk
theorem MX (hr:lz H q bs) (hb:bs.length≤1000000) {Kr:Am.St→Prop} {Ke:Nat→Am.St→Prop}:∀(k i:Nat) (c:BitVec 32),i+k=bs.length→Ke 0 (St.mk (ab [(3,T.v (V.int .u32 ((MW (bs.drop i) c).toNat:Int)))]) (ab []) H)→lo 143 3 (St.mk (ab [(3,T.v (V.int .u32 (c.toNat:Int))),(6,T.v (V.slice q bs.length cap)),(7,T.v (V.int .i64 (bs.length:Int))),(8,T.v (V.int .i64 (i:Int)))]) (ab []) H) Kr Ke
 |0,i,c,hi,hk=>by
  obtain rfl:i=bs.length:=by omega
  rw[List.drop_length] at hk;rw[Ih,decide_eq_false (by omega),ai];exact hk
 |k+1,i,c,hi,hk=>by
  have hlt:i<bs.length:=by omega
  obtain⟨h1,h2,h3⟩:=hr.at hlt;have Aj:H.inb (pb q) (po q+i*1) 1=true:=by rw[Nat.mul_one];exact h2
  have Rx:H.cell (pb q) (po q+i*1)=.int .u8 (bs[i].toNat:Int):=by rw[Nat.mul_one];exact h3
  have a1:(i:Int)<(bs.length:Int):=by omega
  have a2:0≤(i:Int):=by omega
  rw[List.drop_eq_getElem_cons hlt,MW] at hk;rw[Ih];simp only[AJ,reduceIte,Nat.reduceEqDiff,a1,a2,Int.toNat_natCast,h1,Aj,Rx]
  have e:IntKind.u32.wrap ((BitVec.toNat (BitVec.ofInt 32 (c.toNat:Int) ^^^ BitVec.ofInt 32 (IntKind.u32.wrap (bs[i].toNat:Int))):Nat):Int)=((c ^^^ BitVec.ofNat 32 bs[i].toNat).toNat:Int):=by
   have e1:BitVec.ofInt 32 ((bs[i].toNat:Nat):Int)=BitVec.ofNat 32 bs[i].toNat:=rfl;rw[r6,r6 ((bs[i].toNat:Nat):Int)];simp only[pM,e1]
  rw[e];refine IF 8 0 _ (by omega) ?_;simp only[AJ,reduceIte,Nat.reduceEqDiff];rw[aJ (by omega)];exact MX hr hb k (i+1) (IE c bs[i]) (by omega) hk
theorem MY (hr:lz H q bs) (hb:bs.length≤1000000):K (.int .u32 (rZ bs:Int)) H→cl 143 [.slice q bs.length cap] H K:=by
 intro k;rw[W7];refine MX hr hb bs.length 0 4294967295#32 (by omega) ?_;rw[List.drop_zero]
 have e:IntKind.u32.wrap ((BitVec.toNat (BitVec.ofInt 32 4294967295 ^^^ BitVec.ofInt 32 ((MW bs 4294967295#32).toNat:Int)):Nat):Int)=(rZ bs:Int):=by
  rw[r6];simp only[pM];rfl
 simp only[AJ,reduceIte,Nat.reduceEqDiff,e];exact k
def yB (bs:List UInt8):List UInt8:=bs++le (rZ bs) 4
theorem Pv (h:az B H L) (hr:lC B L q bs) (hb:bs.length≤100000) (k:∀q' c' H',az B H' (BY q' c' (yB bs)::L)→K (.slice q' (yB bs).length c') H'):cl 145 [.slice q bs.length cap] H K:=by
 rw[W9];refine jK h (hr H h) (by omega) (fun q1 c1 H1 h1=> ?_);simp only[AJ,reduceIte,Nat.reduceEqDiff];refine MY (hr.bg _ H1 h1) (by omega) ?_;simp only[AJ,reduceIte,Nat.reduceEqDiff];rw[cx (by have:=CT bs;omega)];refine dU (rZ bs) 4 h1 (by omega) (by omega) (fun q2 c2 H2 h2=> ?_);simp only[AJ,reduceIte,Nat.reduceEqDiff];exact k q2 c2 H2 h2
def mX (p:List UInt8):Option (List UInt8):=if 4≤p.length∧dj (p.drop (p.length-4))=rZ (p.take (p.length-4)) then some (p.take (p.length-4)) else none
theorem Pw {p:List UInt8} (h:az B H L) (hr:lC B L q p) (hb:p.length≤100000) (hc:p.length≤cap) (k1:mX p=none→K (.tuple [.slice none 0 0,.int .i64 (if p.length<4 then 3 else 4)]) H) (k2:∀b,mX p=some b→∀q' c' H',az B H' (BY q' c' b::L)→K (.tuple [.slice q' b.length c',.int .i64 0]) H'):cl 129 [.slice q p.length cap] H K:=by
 rw[WX,bn (by omega) (by omega)];by_cases h4:p.length<4
 ·have e:mX p=none:=by unfold mX;rw[if_neg (by omega)]
  have Qy:=k1 e;rw[if_pos h4] at Qy;have a1:(p.length:Int)-4<0:=by omega
  simp only[a1,decide_true,aq];exact Qy
 ·obtain⟨n,hn⟩:∃n:Nat,n=p.length-4:=⟨_,rfl⟩;have a0:(p.length:Int)-4=(n:Int):=by omega
  have a1:¬(n:Int)<0:=by omega
  have a2:0≤(n:Int):=by omega
  have a3:(n:Int)≤(p.length:Int):=by omega
  have a4:(n:Int)≤(cap:Int):=by omega
  have a5:n≤cap:=by omega
  rw[a0];simp only[AJ,reduceIte,Nat.reduceEqDiff,a1,a2,a3,a4,a5,hc,Int.toNat_natCast,Nat.mul_one]
  have Ai:lz H (bH q n) (p.drop n):=by
   have:=(hr H h).part n (p.length-n) (by omega)
   rwa [List.take_of_length_le (by rw[List.length_drop];omega)] at this
  have Ah:lC B L (bH q 0) (p.take n):=by
   have:=hr.part 0 n (by omega);simpa using this
  have Uk:p.length-n=(p.drop n).length:=by rw[List.length_drop]
  have Ge:n-0=(p.take n).length:=by rw[List.length_take];omega
  rw[Uk,AY Ai (by rw[List.length_drop];omega)];simp only[AJ,reduceIte,Nat.reduceEqDiff,a2,a4,a5];rw[Ge];refine MY (Ah H h) (by omega) ?_;simp only[AJ,reduceIte,Nat.reduceEqDiff];have hw:IntKind.u64.wrap ((rZ (p.take n):Nat):Int)=((rZ (p.take n):Nat):Int):=cx (by have:=CT (p.take n);omega);by_cases he:dj (p.drop n)=rZ (p.take n)
  ·have e:mX p=some (p.take n):=by unfold mX;rw[if_pos ⟨by omega,by rw[←hn];exact he⟩, ←hn]
   have he':((dj (p.drop n):Nat):Int)=IntKind.u64.wrap ((rZ (p.take n):Nat):Int):=by rw[hw];omega
   simp only[he',AJ,reduceIte,Nat.reduceEqDiff,a2,a4,a5];refine jK h (Ah H h) (by omega) (fun q1 c1 H1 h1=> ?_);simp only[AJ,reduceIte,Nat.reduceEqDiff];exact k2 _ e q1 c1 H1 h1
  ·have e:mX p=none:=by unfold mX;rw[if_neg (fun hh=>he (by rw[hn];exact hh.2))]
   have Qy:=k1 e;rw[if_neg h4] at Qy;have he':¬((dj (p.drop n):Nat):Int)=IntKind.u64.wrap ((rZ (p.take n):Nat):Int):=by rw[hw];omega
   simp only[he',decide_false,Bool.not_false,aq];exact Qy
end
structure Sh where
 cK:Nat
 ep:Nat
 seq:Nat
 an:Nat
 fr:Nat
 data:List UInt8
 deriving DecidableEq
structure Sh.cN (s:Sh):Prop where
 k1:1≤s.cK
 k3:s.cK≤3
 ep:s.ep<281474976710656
 seq:s.seq<281474976710656
 an:s.an<65536
 fr:s.fr≤64
 dl:s.data.length≤64
 d0:s.cK=1∨s.data.length=0
instance (s:Sh):Decidable s.cN:=
 if h:1≤s.cK∧s.cK≤3∧s.ep<281474976710656∧s.seq<281474976710656∧s.an<65536∧s.fr≤64∧s.data.length≤64∧(s.cK=1∨s.data.length=0) then
  .isTrue ⟨h.1,h.2.1,h.2.2.1,h.2.2.2.1,h.2.2.2.2.1,h.2.2.2.2.2.1,h.2.2.2.2.2.2.1,h.2.2.2.2.2.2.2⟩
 else .isFalse fun f=>h ⟨f.k1,f.k3,f.ep,f.seq,f.an,f.fr,f.dl,f.d0⟩
def fO (s:Sh):List UInt8:=((((([]++le s.cK 1)++le s.ep 6)++le s.seq 6)++le s.an 2)++le s.fr 1)++le s.data.length 2++s.data
def dK (s:Sh):List UInt8:=yB (fO s++List.replicate (91-(fO s).length) 0)++[90]
theorem vi (s:Sh):(fO s).length=18+s.data.length:=by simp [fO];omega
theorem k6 (s:Sh) (h:s.data.length≤64):(dK s).length=96:=by simp [dK,yB,vi];omega
structure Zg where
 k:Nat×RS
 e:Nat×RS
 s:Nat×RS
 a:Nat×RS
 f:Nat×RS
 n:Nat×RS
 d:List UInt8×RS
def CU (b:List UInt8):Zg:=
 let k:=(RS.mk b false).num 1 3
 let e:=k.2.num 6 281474976710656
 let s:=e.2.num 6 281474976710656
 let a:=s.2.num 2 65536
 let f:=a.2.num 1 64
 let n:=f.2.num 2 64
 ⟨k,e,s,a,f,n,n.2.take n.1⟩
def Zg.sh (x:Zg):Sh:=⟨x.k.1,x.e.1,x.s.1,x.a.1,x.f.1,x.d.1⟩
def eU (p:List UInt8):Option Sh:=
 if p.length=96∧p.getD 95 0=90 then match mX (p.take 95) with
  |none=>none
  |some b=>if (CU b).d.2.bB=false∧(CU b).sh.cN∧dK (CU b).sh=p then some (CU b).sh else none
 else none
theorem r7 {p:List UInt8} {s:Sh} (h:eU p=some s):s.cN∧dK s=p:=by
 unfold eU at h;split at h
 ·split at h
  ·cases h
  ·split at h
   ·rename_i h2;cases h;exact h2.2
   ·cases h
 ·cases h
theorem vj {bs l:List UInt8} {n size most:Nat} (hn:n<256 ^ size) (hm:n≤most):(RS.mk (le n size++l) false).num size most=(n,⟨l,false⟩):=by
 have h1:((le n size++l).take size)=le n size:=by rw[List.take_left' (CK n size)]
 have h2:((le n size++l).drop size)=l:=by rw[List.drop_left' (CK n size)]
 have h3:dj (le n size)=n:=by rw[wQ,Nat.mod_eq_of_lt hn]
 rw[jL (by simp) (by rw[h1,h3];exact hm),h1,h2,h3]
theorem MZ {s:Sh} (h:s.cN) (z:List UInt8):(CU (fO s++z)).sh=s∧(CU (fO s++z)).d.2.bB=false:=by
 have e:fO s++z=le s.cK 1++(le s.ep 6++(le s.seq 6++(le s.an 2++(le s.fr 1++(le s.data.length 2++(s.data++z)))))):=by simp [fO]
 have hk:=h.k3;have h1:=h.ep;have h2:=h.seq;have h3:=h.an;have h4:=h.fr;have h5:=h.dl;rw[e];unfold CU Zg.sh;simp only;rw[vj (bs:=[]) (by omega) hk,vj (bs:=[]) (by omega) (by omega),vj (bs:=[]) (by omega) (by omega),vj (bs:=[]) (by omega) (by omega),vj (bs:=[]) (by omega) h4,vj (bs:=[]) (by omega) h5];have hz:¬s.data.length+z.length<s.data.length:=by omega
 simp [RS.take,hz]
theorem G2 {s:Sh} (h:s.cN):eU (dK s)=some s:=by
 have hl:=k6 s h.dl;have hb:=vi s;have Qr:=h.dl;obtain⟨b,hbd⟩:∃b,b=fO s++List.replicate (91-(fO s).length) 0:=⟨_,rfl⟩;have Ak:b.length=91:=by rw[hbd];simp [hb];omega
 have e0:dK s=b++(le (rZ b) 4++[90]):=by rw[hbd];simp [dK,yB]
 have e1:(dK s).take 95=b++le (rZ b) 4:=by rw[e0, ←List.append_assoc,List.take_left' (by simp [Ak])]
 have e2:(dK s).getD 95 0=90:=by
  rw[e0, ←List.append_assoc,List.getD_eq_getElem?_getD,List.getElem?_append_right (by simp [Ak])];simp [Ak]
 have e3:mX (b++le (rZ b) 4)=some b:=by
  have hlen:(b++le (rZ b) 4).length-4=b.length:=by simp
  unfold mX;rw[hlen,List.take_left' rfl,List.drop_left' rfl,wQ,Nat.mod_eq_of_lt (by have:=CT b;omega)];simp
 obtain⟨r1,r2⟩:=MZ h (List.replicate (91-(fO s).length) 0);rw[←hbd] at r1 r2;unfold eU;rw[if_pos ⟨hl,e2⟩,e1,e3];simp only[r1,r2];rw[if_pos ⟨trivial,h,trivial⟩]
theorem r8 {s:Sh} (hl:s.data.length≤64) {n:Int} (h:n<96):eU (gG (dK s) n)=none:=by
 unfold eU;rw[if_neg];rintro⟨h1,h2⟩;have hlen:=k6 s hl
 have:(gG (dK s) n).getD 95 0=255:=by
  unfold gG;rw[List.getD_eq_getElem?_getD,List.getElem?_append_right (by simp;omega),List.getElem?_replicate,if_pos (by simp [hlen];omega)];rfl
 rw[this] at h2;exact absurd h2 (by decide)
section
variable {B:ag} {L:List bV} {H:ag} {K:V→ag→Prop} {q:Oq} {cap:Nat}
def zG (s:Sh) (q:Oq) (c:Nat):V:=.agg (fc (s.cK:Int) (s.ep:Int) (s.seq:Int) (s.an:Int) ((s.fr:Int)-1) q s.data.length c)
theorem M0 (s:Sh):K (.bool (decide s.cN)) H→cl 132 [zG s q cap] H K:=by
 intro k;unfold zG;rw[W0]
 have e:(decide ((s.cK:Int)≥1)&&(decide ((s.cK:Int)≤3)&&(decide ((s.ep:Int)<281474976710656)&&(decide ((s.seq:Int)<281474976710656)&&(decide ((s.an:Int)≥0)&&(decide ((s.an:Int)<65536)&&
  (decide ((s.fr:Int)-1≥ -1)&&(decide ((s.fr:Int)-1<64)&&(decide ((s.data.length:Int)≤64)&&bif !decide ((s.cK:Int)=1) then decide ((s.data.length:Int)=0) else true)))))))))=decide s.cN:=by
  by_cases hk:s.cK=1
  ·have:(s.cK:Int)=1:=by omega
   simp only[this,decide_true,Bool.not_true,cond_false,Bool.and_true];simp only[←Bool.decide_and];refine decide_eq_decide.2 ⟨fun h=>⟨by omega,by omega,by omega,by omega,by omega,by omega,by omega,.inl hk⟩,fun h=> ?_⟩;obtain⟨h1,h2,h3,h4,h5,h6,h7,h8⟩:=h;omega
  ·have:¬(s.cK:Int)=1:=by omega
   simp only[this,decide_false,Bool.not_false,cond_true];simp only[←Bool.decide_and];refine decide_eq_decide.2 ⟨fun h=>⟨by omega,by omega,by omega,by omega,by omega,by omega,by omega,.inr (by omega)⟩,fun h=> ?_⟩;obtain⟨h1,h2,h3,h4,h5,h6,h7,h8⟩:=h;omega
 rw[e];exact k
theorem J9 {bs d:List UInt8} {dq:Oq} {dc:Nat} (h:az B H (BY q cap bs::L)) (hr:lC B L dq d) (hb:bs.length≤1000000) (hd:d.length≤1000000) (k:∀q' c' H',az B H' (BY q' c' (bs++le d.length 2++d)::L)→K (.slice q' (bs++le d.length 2++d).length c') H'):cl 144 [.slice q bs.length cap,.slice dq d.length dc] H K:=by
 rw[W8,cx (by omega)];refine dU d.length 2 h (by omega) (by omega) (fun q2 c2 H2 h2=> ?_);simp only[AJ,reduceIte,Nat.reduceEqDiff];have:=hr.bg (BY q2 c2 (bs++le d.length 2)) H2 h2;exact ve h2 (this.src dc) (by simp;omega) (fun q3 c3 H3 h3=>k q3 c3 H3 h3)
theorem IG {s:Sh} (h:az B H L) (hr:lC B L q s.data) (h1:s.cK<256) (h2:s.ep<18446744073709551616) (h3:s.seq<18446744073709551616) (h4:s.an<1000000000) (h5:s.fr≤256) (h6:s.data.length≤64) (k:∀q' c' H',az B H' (BY q' c' (dK s)::L)→K (.slice q' (dK s).length c') H'):cl 133 [zG s q cap] H K:=by
 unfold zG;rw[W3,cx (n:=s.cK) (by omega),cx (n:=s.an) (by omega)];have e5:IntKind.i64.wrap ((s.fr:Int)-1+1)=((s.fr:Nat):Int):=by rw[bn (by omega) (by omega)];omega
 rw[e5,cx (n:=s.fr) (by omega)];refine dU s.cK 1 (bs:=[]) (jW h) (by omega) (by simp) (fun q1 c1 H1 h1=> ?_);simp only[AJ,reduceIte,Nat.reduceEqDiff];refine dU s.ep 6 h1 (by omega) (by simp) (fun q2 c2 H2 h2=> ?_);simp only[AJ,reduceIte,Nat.reduceEqDiff];refine dU s.seq 6 h2 (by omega) (by simp) (fun q3 c3 H3 h3=> ?_);simp only[AJ,reduceIte,Nat.reduceEqDiff];refine dU s.an 2 h3 (by omega) (by simp) (fun q4 c4 H4 h4=> ?_);simp only[AJ,reduceIte,Nat.reduceEqDiff];refine dU s.fr 1 h4 (by omega) (by simp) (fun q5 c5 H5 h5=> ?_);simp only[AJ,reduceIte,Nat.reduceEqDiff];refine J9 h5 hr (by simp) (by omega) (fun q6 c6 H6 h6=> ?_);have eb:((((([]++le s.cK 1)++le s.ep 6)++le s.seq 6)++le s.an 2)++le s.fr 1)++le s.data.length 2++s.data=fO s:=rfl;rw[eb] at h6⊢;have Ak:=vi s;have e7:IntKind.i64.wrap (91-((fO s).length:Int))=((91-(fO s).length:Nat):Int):=by rw[bn (by omega) (by omega)];omega
 simp only[AJ,reduceIte,Nat.reduceEqDiff,e7];refine h6.Ph EH (by kernel_rfl) (fun v hv=>by rw[List.mem_singleton] at hv;subst hv;rfl) rfl (by omega) (by omega) (by rw[Int.toNat_natCast];omega) (fun q7 c7 H7 h7=> ?_);rw[Int.toNat_natCast] at h7⊢
 have h8:az B H7 (BY q7 c7 (fO s++List.replicate (91-(fO s).length) 0)::L):=by
  have ez:gM (91-(fO s).length) [V.int .u8 0]=ba (List.replicate (91-(fO s).length) 0):=by
   generalize 91-(fO s).length=n
   induction n with
   |zero=>rfl
   |succ n ih=>
    rw[List.replicate_succ];show [V.int .u8 0]++gM n [V.int .u8 0]=V.int .u8 ((0:UInt8).toNat:Int)::ba (List.replicate n 0)
    rw[ih];rfl
  rw[ez, ←jl] at h7;unfold BY WE;rw[List.length_append,List.length_replicate];exact h7
 have e9:(fO s).length+(91-(fO s).length)=(fO s++List.replicate (91-(fO s).length) 0).length:=by simp
 rw[e9];refine Pv h8 lC.Z2 (by simp;omega) (fun q9 c9 H9 h9=> ?_);simp only[AJ,reduceIte,Nat.reduceEqDiff];have HF:(yB (fO s++List.replicate (91-(fO s).length) 0)).length≤1000:=by simp [yB];omega
 have RF:V.int .u8 90=V.int .u8 ((90:UInt8).toNat:Int):=rfl;rw[RF];exact EI (h9.ord [1]).drop 90 (by omega) (fun q10 c10 H10 xg=>k q10 c10 H10 xg)
end
section
variable {B:ag} {L:List bV} {H:ag} {K:V→ag→Prop} {q:Oq} {cap:Nat} {id:Nat} {s:RS}
theorem Kb (h:mW B H L id s) (most:Nat) (hm:most≤1000) (k:∀q' c' H',mW B H' (BY q' c' ((s.num 2 most).2.take (s.num 2 most).1).1::L) id ((s.num 2 most).2.take (s.num 2 most).1).2→K (.slice q' ((s.num 2 most).2.take (s.num 2 most).1).1.length c') H'):cl 130 [.ak (some (id,0)),.int .i64 (most:Int)] H K:=by
 rw[WY,Option.isNone_some,ai,cx (by omega)];refine jY h 2 most (by omega) (fun H1 h1=> ?_);have hn:(s.num 2 most).1≤most:=by unfold RS.num;split<;>simp only<;>omega
 simp only[AJ,reduceIte,Nat.reduceEqDiff];rw[bn (by omega) (by omega)];refine EX h1 (s.num 2 most).1 (fun q2 c2 H2 h2 Ah Ga=> ?_);have hl:(((s.num 2 most).2.take (s.num 2 most).1).1).length≤1000:=by unfold RS.take;split<;>simp;omega
 obtain⟨q3,c3,hc3,Oj,Ll⟩:=h2.ex;simp only[AJ,reduceIte,Nat.reduceEqDiff];refine jK Ll (Ah H2 Ll.drop) (by omega) (fun q4 c4 H4 h4=> ?_);simp only[AJ,reduceIte,Nat.reduceEqDiff];exact k q4 c4 H4 ⟨q3,c3,hc3,Oj.bg _,h4.swap⟩
theorem Px (h:mW B H L id s):K (.bool s.bB) H→cl 131 [.ak (some (id,0))] H K:=by
 intro k;obtain⟨q,c,hc,hr,hs⟩:=h.ex;have hg:=hs.get;rw[WZ];simp only[AJ,reduceIte,Nat.reduceEqDiff,Option.isSome_some,Option.isNone_some,dP hg,aX hg,aO,Nat.zero_add,cond_true,if_true,Bool.not_false];simpa [z6] using k
theorem mW.XI (h:mW B H L id s):az B H L:=by
 obtain⟨q,c,hc,hr,hs⟩:=h.ex;exact hs.drop
theorem EY {p:List UInt8} (h:az B H L) (hr:lC B L q p) (hb:p.length≤100000) (hc:p.length≤cap) (k1:eU p=none→∀e:Int,e≠0→∀H',az B H' L→K (.tuple [.agg (fc 0 0 0 0 0 none 0 0),.int .i64 e]) H') (k2:∀s,eU p=some s→∀q' c' H',az B H' (BY q' c' s.data::L)→K (.tuple [zG s q' c',.int .i64 0]) H'):cl 106 [.slice q p.length cap] H K:=by
 rw[WM];by_cases Jv:p.length=96
 case neg=>
  have e:eU p=none:=by unfold eU;rw[if_neg (fun hh=>Jv hh.1)]
  have a1:¬(p.length:Int)=96:=by omega
  simp only[a1,decide_false,Bool.not_false,Bool.not_true,aO,Bool.false_eq_true,if_false,aA,cond_false,aq];exact k1 e 3 (by decide) H h
 have a1:(p.length:Int)=96:=by omega
 obtain⟨g1,g2,g3⟩:=(hr H h).at (i:=95) (by omega);have g2':H.inb (pb q) (po q+95) 1=true:=g2;have g3':H.cell (pb q) (po q+95)=.int .u8 (p[95].toNat:Int):=g3;have a2:(95:Int)<96:=by decide
 simp only[a1,a2,decide_true,Bool.not_true,Bool.not_false,aO,if_true,g1,g2',g3',AJ,reduceIte,Nat.reduceEqDiff,cond_true];have hgd:p.getD 95 0=p[95]:=by rw[List.getD_eq_getElem?_getD,List.getElem?_eq_getElem (by omega)];rfl
 by_cases Yu:p[95]=90
 case neg=>
  have e:eU p=none:=by unfold eU;rw[if_neg (fun hh=>Yu (by rw[←hgd];exact hh.2))]
  have a3:¬(p[95].toNat:Int)=90:=by
   intro hh;apply Yu;apply UInt8.toNat_inj.1;have:(90:UInt8).toNat=90:=rfl;omega
  simp only[a3,decide_false,Bool.not_false,aq];exact k1 e 3 (by decide) H h
 have a3:(p[95].toNat:Int)=90:=by rw[Yu];rfl
 have a4:(95:Int)≤(cap:Int):=by omega
 have a5:95≤cap:=by omega
 simp only[a3,a4,a5,decide_true,Bool.not_true,ai,Bool.true_or,Bool.true_and,aA,AJ,reduceIte,Nat.reduceEqDiff]
 have abt:lC B L (bH q 0) (p.take 95):=by
  have:=hr.part 0 95 (by omega);simpa using this
 have Yv:(95:Nat)=(p.take 95).length:=by rw[List.length_take];omega
 have key:∀{K:V→ag→Prop},(mX (p.take 95)=none→K (.tuple [.slice none 0 0,.int .i64 (if (p.take 95).length<4 then 3 else 4)]) H)→(∀b,mX (p.take 95)=some b→∀q' c' H',az B H' (BY q' c' b::L)→K (.tuple [.slice q' b.length c',.int .i64 0]) H')→
  cl 129 [.slice (bH q 0) 95 (cap-0)] H K:=by
  intro K k1 k2;have:=Pw (cap:=cap-0) h abt (by omega) (by omega) k1 k2
  rwa [←Yv] at this
 refine key (fun ho=> ?_) (fun b ho q1 c1 H1 h1=> ?_)
 ·have e:eU p=none:=by unfold eU;rw[if_pos ⟨Jv,by rw[hgd];exact Yu⟩,ho]
  have a6:¬(4:Int)=0:=by decide
  rw[←Yv];have a7:¬(95<4):=by decide
  rw[if_neg a7];simp only[AJ,reduceIte,Nat.reduceEqDiff,a6];exact k1 e 4 (by decide) H h
 ·have er:eU p=if (CU b).d.2.bB=false∧(CU b).sh.cN∧dK (CU b).sh=p then some (CU b).sh else none:=by unfold eU;rw[if_pos ⟨Jv,by rw[hgd];exact Yu⟩,ho]
  have hbc:=(h1.Lq).2.2.1;simp only[AJ,reduceIte,Nat.reduceEqDiff];refine ID h1 (fun H h=>h.gQ) hbc (fun id H2 h2=> ?_);have n3:(3:Int)=((3:Nat):Int):=rfl;have n1:(1:Int)=((1:Nat):Int):=rfl;have n6:(6:Int)=((6:Nat):Int):=rfl;have n2:(2:Int)=((2:Nat):Int):=rfl;have n48:(281474976710656:Int)=((281474976710656:Nat):Int):=rfl;have n16:(65536:Int)=((65536:Nat):Int):=rfl;have n64:(64:Int)=((64:Nat):Int):=rfl;simp only[AJ,reduceIte,Nat.reduceEqDiff];refine jY h2 1 3 (by omega) (fun H3 h3=> ?_);simp only[AJ,reduceIte,Nat.reduceEqDiff];refine jY h3 6 281474976710656 (by omega) (fun H4 h4=> ?_);simp only[AJ,reduceIte,Nat.reduceEqDiff];refine jY h4 6 281474976710656 (by omega) (fun H5 h5=> ?_);simp only[AJ,reduceIte,Nat.reduceEqDiff];refine jY h5 2 65536 (by omega) (fun H6 h6=> ?_);simp only[AJ,reduceIte,Nat.reduceEqDiff];refine jY h6 1 64 (by omega) (fun H7 h7=> ?_);simp only[AJ,reduceIte,Nat.reduceEqDiff];refine Kb h7 64 (by omega) (fun q8 c8 H8 h8=> ?_);obtain⟨x,hx⟩:∃x,x=CU b:=⟨_,rfl⟩;have bnd:∀(r:RS) (size most:Nat),(r.num size most).1≤most:=by intro r size most;unfold RS.num;split<;>simp only<;>omega
  have e1:(RS.mk b false).num 1 3=x.k:=by subst hx;simp only[CU]
  have e2:x.k.2.num 6 281474976710656=x.e:=by subst hx;simp only[CU]
  have e3:x.e.2.num 6 281474976710656=x.s:=by subst hx;simp only[CU]
  have e4:x.s.2.num 2 65536=x.a:=by subst hx;simp only[CU]
  have e5:x.a.2.num 1 64=x.f:=by subst hx;simp only[CU]
  have e6:x.f.2.num 2 64=x.n:=by subst hx;simp only[CU]
  have e7:x.n.2.take x.n.1=x.d:=by subst hx;simp only[CU]
  have b1:x.k.1≤3:=by rw[←e1];exact bnd _ _ _
  have b2:x.e.1≤281474976710656:=by rw[←e2];exact bnd _ _ _
  have b3:x.s.1≤281474976710656:=by rw[←e3];exact bnd _ _ _
  have b4:x.a.1≤65536:=by rw[←e4];exact bnd _ _ _
  have b5:x.f.1≤64:=by rw[←e5];exact bnd _ _ _
  have b6:x.n.1≤64:=by rw[←e6];exact bnd _ _ _
  have b7:x.d.1.length≤64:=by rw[←e7];unfold RS.take;split<;>simp;omega
  rw[←hx] at er;simp only[e1,e2,e3,e4,e5,e6,e7] at h8⊢;have w1:IntKind.u8.wrap (x.k.1:Int)=(x.k.1:Int):=IntWalk.u8_in _ (by omega);have w2:IntKind.i64.wrap (x.a.1:Int)=(x.a.1:Int):=bn (by omega) (by omega);have w3:IntKind.i64.wrap (x.f.1:Int)=(x.f.1:Int):=bn (by omega) (by omega);have w4:IntKind.i64.wrap ((x.f.1:Int)-1)=(x.f.1:Int)-1:=bn (by omega) (by omega);simp only[AJ,reduceIte,Nat.reduceEqDiff,w1,w2,w3,w4];have hV:V.agg (fc (x.k.1:Int) (x.e.1:Int) (x.s.1:Int) (x.a.1:Int) ((x.f.1:Int)-1) q8 x.d.1.length c8)=zG x.sh q8 c8:=rfl;rw[hV];have hs8:=h8.XI;have RB:az B H8 (BY q8 c8 x.d.1::L):=(hs8.ord [1]).drop;refine Px h8 ?_;simp only[AJ,reduceIte,Nat.reduceEqDiff];by_cases zu:x.d.2.bB=true
  ·have e:eU p=none:=by rw[er,if_neg (fun hh=>by rw[hh.1] at zu;cases zu)]
   simp only[zu,Bool.not_true,ai,and_self,aq];exact k1 e 3 (by decide) H8 RB.drop
  have Yw:x.d.2.bB=false:=by simpa using zu
  simp only[Yw,Bool.not_false,aq];refine M0 x.sh ?_;simp only[AJ,reduceIte,Nat.reduceEqDiff];by_cases hf:x.sh.cN
  case neg=>
   have e:eU p=none:=by rw[er,if_neg (fun hh=>hf hh.2.1)]
   simp only[hf,decide_false,Bool.not_false,Bool.not_true,ai,and_self,aq];exact k1 e 3 (by decide) H8 RB.drop
  simp only[hf,decide_true,Bool.not_true,Bool.not_false,aq];have hst:∀{H':ag},lz H' q p→eG H' q p.length=true∧eH H' q p.length=jJ p:=fun h=>⟨h.eG,h.eH⟩
  have T:∀(K:V→ag→Prop),(∀q' c' H',az B H' (BY q' c' (dK x.sh)::BY q8 c8 x.d.1::L)→K (.slice q' (dK x.sh).length c') H')→cl 133 [zG x.sh q8 c8] H8 K:=fun K k=>
   IG RB (fun H h=>h.gQ) (show x.k.1<256 by omega) (show x.e.1<_ by omega) (show x.s.1<_ by omega) (show x.a.1<_ by omega) (show x.f.1≤256 by omega) b7 k
  have D:(!mD (jJ (dK x.sh)) (jJ p))= !decide (dK x.sh=p):=by
   rw[pG]
  have hp8:=hst (((hr.bg _) H8 RB))
  have fin:∀H',az B H' (BY q8 c8 x.d.1::L)→br (!decide (dK x.sh=p)) (K (.tuple [.agg (fc 0 0 0 0 0 none 0 0),.int .i64 3]) H') (K (.tuple [zG x.sh q8 c8,.int .i64 0]) H'):=by
   intro H' h';by_cases hl:dK x.sh=p
   ·have e:eU p=some x.sh:=by rw[er,if_pos ⟨Yw,hf,hl⟩]
    simp only[hl,decide_true,Bool.not_true,ai];exact k2 _ e q8 c8 H' h'
   ·have e:eU p=none:=by rw[er,if_neg (fun hh=>hl hh.2.2)]
    simp only[hl,decide_false,Bool.not_false,aq];exact k1 e 3 (by decide) H' h'.drop
  refine⟨T _ (fun q9 c9 H9 h9=> ?_), ?_⟩
  ·have g9:=hst (((hr.bg _).bg _) H9 h9);have l9:=(h9.gQ);simp only[AJ,reduceIte,Nat.reduceEqDiff,l9.eG,l9.eH,g9.1,g9.2,D];exact fin H9 h9.drop
  ·simp only[hp8.1,aA,hp8.2];refine T _ (fun q9 c9 H9 h9=> ?_);have l9:=(h9.gQ);simp only[AJ,reduceIte,Nat.reduceEqDiff,l9.eG,l9.eH,D];exact fin H9 h9.drop
end
structure Fd where
 b:Nat
 p:Nat
 s:Sh
def hZ (i:Nat) (mQ:Int):List (List UInt8)→Nat→List Fd
 |[],_=>[]
 |d::l,p=>match eU d with
  |none=>hZ i mQ l (p+1)
  |some s=>if s.cK≠3∧(s.an:Int)≤mQ then ⟨i,p,s⟩::hZ i mQ l (p+1) else hZ i mQ l (p+1)
def Bk.eu (b:Bk) (i:Nat) (mQ:Int):List Fd:=if b.bY=true then [] else hZ i mQ b.pg 0
structure Rf where
 f:Fd
 q:Oq
 c:Nat
def Rf.cs (r:Rf):List V:=kb (r.f.b:Int) (r.f.p:Int) (r.f.s.cK:Int) (r.f.s.ep:Int) (r.f.s.seq:Int) (r.f.s.an:Int) ((r.f.s.fr:Int)-1) r.q r.f.s.data.length r.c
def Rf.bR (r:Rf):bV:=BY r.q r.c r.f.s.data
theorem vk (rs:List Rf):Pr oE (rs.map Rf.cs):=by
 intro c hc;obtain⟨r,_,rfl⟩:=List.mem_map.1 hc;rfl
structure Rz where
 i:Nat
 q:Oq
 c:Nat
 rs:List Rf
def Rz.bR (z:Rz):bV:=bo [Rw 130 8 z.q z.c (z.rs.map Rf.cs),bo (z.rs.map Rf.bR)]
theorem Tq:fA ej 158=some (130,8,80,kb 0 0 0 0 0 0 0 none 0 0):=by kernel_rfl
theorem Tr:jc (aZ ej 158)=true:=by kernel_rfl
structure Ar.rd (a:Ar) (g:bW):Prop where
 on:a.off=false
 n:(a.bs.length:Int)=g.aB
 p:a.ay=g.ay
 len:∀b∈a.bs,(b.pg.length:Int)≤a.ay
 d:∀b∈a.bs,∀d∈b.pg,d.length=96
section
variable {B:ag} {L:List bV} {H:ag} {K:V→ag→Prop} {aK:Nat} {a:Ar} {m:Gm} {i:Nat}
theorem M3 {a:Ar} {g:bW} (hr:a.rd g) {i k:Nat} (hi:i<a.bs.length) (hk:k<(a.bs[i]).pg.length):fp a i k=if (a.bs[i]).bY=true then (4,[]) else (0,(a.bs[i]).pg[k]):=by
 have hl:=hr.len _ (List.getElem_mem hi);have h1:¬a.ay≤(k:Int):=by omega
 unfold fp;simp only[hr.on,Bool.false_eq_true,if_false,h1,List.getElem?_eq_getElem hi,List.getElem?_eq_getElem hk]
theorem mY (hm:cY B L m) (hg:m.g.In) (hr:a.rd m.g) (sD:a.ay≤32) (hi:i<a.bs.length) {Kr:Am.St→Prop} {Ke:Nat→Am.St→Prop}:∀(k p:Nat) (rs:List Rf) {q:Oq} {c:Nat} {H:ag},p+k=(a.bs[i]).pg.length→rs.length≤p→az B H (Rw 130 8 q c (rs.map Rf.cs)::bo (rs.map Rf.bR)::cO aK a::L)→(∀q' c' (rs':List Rf) H',rs'.map Rf.f=rs.map Rf.f++(if (a.bs[i]).bY=true then [] else hZ i m.g.cap ((a.bs[i]).pg.drop p) p)→az B H' (Rw 130 8 q' c' (rs'.map Rf.cs)::bo (rs'.map Rf.bR)::cO aK a::L)→Ke 0 (St.mk (ab [(8,T.v (V.slice q' rs'.length c'))]) (ab []) H'))→lo 98 9 (St.mk (ab [(0,T.v (V.ak (some (aK,0)))),(2,T.v (V.int .i64 (i:Int))),(4,T.lp 4 0),(8,T.v (V.slice q rs.length c)),(42,T.v (V.int .i64 ((a.bs[i]).pg.length:Int))),(43,T.v (V.int .i64 (p:Int)))]) (ab [(4,aV.cells 26 (cV m.g.aB m.g.ay m.g.aF m.q m.g.bB.length m.c))]) H) Kr Ke
 |0,p,rs,q,c,H,hpk,Qz,h,hk=>by
  obtain rfl:p=(a.bs[i]).pg.length:=by omega
  rw[Mt,decide_eq_false (by omega),ai];refine hk q c rs H ?_ h;rw[List.drop_length];split<;>simp [hZ]
 |k+1,p,rs,q,c,H,hpk,Qz,h,hk=>by
  have hlt:p<(a.bs[i]).pg.length:=by omega
  have a1:(p:Int)<((a.bs[i]).pg.length:Int):=by omega
  have hrd:=M3 hr hi hlt;have hlen:=hr.len _ (List.getElem_mem hi);have Jv:=hr.d _ (List.getElem_mem hi) _ (List.getElem_mem hlt);have hA:=h.ord [2];rw[Mt,decide_eq_true a1,aq];refine tL hA hi (fun d hd=>by rw[hr.d _ (List.getElem_mem hi) _ hd];omega) p (fun q1 c1 H1 h1=> ?_);rw[hrd] at h1⊢;have a2:IntKind.i64.wrap ((p:Int)+1)=((p+1:Nat):Int):=aJ (by omega);by_cases hh:(a.bs[i]).bY=true
  ·simp only[hh,if_true] at h1 hk⊢;simp only[AJ,reduceIte,Nat.reduceEqDiff,a2];exact mY hm hg hr sD hi k (p+1) rs (by omega) (by omega) (h1.drop.ord [1,1]) (fun q' c' rs' H' e h'=>hk q' c' rs' H' (by simpa [hh] using e) h')
  ·simp only[hh,Bool.false_eq_true,if_false] at h1 hk⊢;have a3:¬(0:Int)=4:=by decide
   simp only[AJ,reduceIte,Nat.reduceEqDiff,a3];rw[List.drop_eq_getElem_cons hlt] at hk;have hcap:=(h1.Lq).2.2.1;have abR:az B H1 (Rw 130 8 q c (rs.map Rf.cs)::bo (rs.map Rf.bR)::cO aK a::L):=h1.drop.ord [1,1];refine EY h1 (fun H h=>h.gQ) (by omega) hcap (fun hnone e he H2 h2=> ?_) (fun s hs q2 c2 H2 h2=> ?_)
   ·have he':¬e=0:=he;simp only[AJ,reduceIte,Nat.reduceEqDiff,f125,Ey,yg,yh,yi,yj,yk,yl,he',a2];refine mY hm hg hr sD hi k (p+1) rs (by omega) (by omega) (h2.drop.ord [1,1]) (fun q' c' rs' H' e2 h'=>hk q' c' rs' H' ?_ h');rw[hZ,hnone];simpa [hh] using e2
   ·unfold zG;simp only[AJ,reduceIte,Nat.reduceEqDiff,f125,Ey,yg,yh,yi,yj,yk,yl];by_cases Zu:s.cK=3
    ·have Uo:(s.cK:Int)=3:=by omega
     simp only[Uo,AJ,reduceIte,Nat.reduceEqDiff,a2];refine mY hm hg hr sD hi k (p+1) rs (by omega) (by omega) (h2.drop.drop.ord [1,1]) (fun q' c' rs' H' e2 h'=>hk q' c' rs' H' ?_ h');rw[hZ,hs];simp only[Zu];simpa [hh] using e2
    ·have Uo:¬(s.cK:Int)=3:=by omega
     simp only[Uo,AJ,reduceIte,Nat.reduceEqDiff];have Uq:cY B (BY q2 c2 s.data::BY q1 c1 (a.bs[i]).pg[p]::cO aK a::Rw 130 8 q c (rs.map Rf.cs)::bo (rs.map Rf.bR)::L) m:=((((hm.bg _).bg _).bg _).bg _).bg _;have:=tJ (K:= ?_) h2 Uq hg ?_
     ·exact this
     intro H3 h3;simp only[AJ,reduceIte,Nat.reduceEqDiff,a2];by_cases hle:(s.an:Int)≤m.g.cap
     ·simp only[hle,decide_true,aq];have h4:az B H3 (Rw 130 8 q c (rs.map Rf.cs)::bo (rs.map Rf.bR)::BY q2 c2 s.data::cO aK a::L):=(h3.ord [1]).drop.ord [2,2]
      have hp:=h4.CL (K:=fun q n c H'=>lo 98 9
       (St.mk (ab [(0,T.v (V.ak (some (aK,0)))),(2,T.v (V.int .i64 (i:Int))),(4,T.lp 4 0),(8,T.v (V.slice q n c)),(42,T.v (V.int .i64 ((a.bs[i]).pg.length:Int))),(43,T.v (V.int .i64 ((p+1:Nat):Int)))])
        (ab [(4,aV.cells 26 (cV m.g.aB m.g.ay m.g.aF m.q m.g.bB.length m.c))]) H') Kr Ke) (e2:=130) (c:=(Rf.mk ⟨i,p,s⟩ q2 c2).cs) Tq Tr
       (fun v hv=>by simp only[kb,List.mem_cons,List.not_mem_nil,or_false] at hv;rcases hv with rfl|rfl|rfl|rfl|rfl|rfl|rfl|rfl<;>rfl) rfl (by omega) (vk rs).oI rfl
       (fun v hv=>by simp only[Rf.cs,kb,List.mem_cons,List.not_mem_nil,or_false] at hv;rcases hv with rfl|rfl|rfl|rfl|rfl|rfl|rfl|rfl<;>rfl) (by rw[List.length_map];omega) (fun q' c' H' h'=> ?_)
      ·rw[List.length_map] at hp;exact hp
      ·have e1:rs.map Rf.cs++[(Rf.mk ⟨i,p,s⟩ q2 c2).cs]=(rs++[Rf.mk ⟨i,p,s⟩ q2 c2]).map Rf.cs:=by simp
       rw[e1] at h';have e2:(rs.map Rf.cs).length+1=(rs++[Rf.mk ⟨i,p,s⟩ q2 c2]).length:=by simp
       rw[e2]
       have h5:az B H' (Rw 130 8 q' c' ((rs++[Rf.mk ⟨i,p,s⟩ q2 c2]).map Rf.cs)::bo ((rs++[Rf.mk ⟨i,p,s⟩ q2 c2]).map Rf.bR)::cO aK a::L):=by
        have h6:=(h'.ord [2,1]).lW.bigPerm (l':=(rs++[Rf.mk ⟨i,p,s⟩ q2 c2]).map Rf.bR) (by
         show (BY q2 c2 s.data::rs.map Rf.bR).Perm _
         rw[List.map_append]
         exact(List.perm_append_comm (l₁:=[BY q2 c2 s.data]) (l₂:=rs.map Rf.bR)))
        exact h6.swap
       refine mY hm hg hr sD hi k (p+1) _ (by omega) (by simp;omega) h5 (fun q3 c3 rs' H3 e3 h3=>hk q3 c3 rs' H3 ?_ h3);rw[e3,hZ,hs];simp only[Zu,hle,ne_eq,not_false_eq_true,and_self,if_true,hh,if_false,Bool.false_eq_true];simp
     ·simp only[hle,decide_false,ai];refine mY hm hg hr sD hi k (p+1) rs (by omega) (by omega) (h3.drop.drop.ord [1,1]) (fun q' c' rs' H' e2 h'=>hk q' c' rs' H' ?_ h');rw[hZ,hs];simp only[hle,and_false,if_false];simpa [hh] using e2
theorem M4 (h:az B H (cO aK a::L)) (hm:cY B L m) (hf:m.g.cN=true) (hg:m.g.In) (hr:a.rd m.g) (sD:a.ay≤32) (hu:i∈m.g.us) (hi:i<a.bs.length) (k:∀q c (rs:List Rf) H',rs.map Rf.f=(a.bs[i]).eu i m.g.cap→az B H' (Rw 130 8 q c (rs.map Rf.cs)::bo (rs.map Rf.bR)::cO aK a::L)→K (.tuple [.slice q rs.length c,.int .i64 0]) H'):cl 98 [.ak (some (aK,0)),m.v,.int .i64 (i:Int)] H K:=by
 have hv:m.v=.agg (cV m.g.aB m.g.ay m.g.aF m.q m.g.bB.length m.c):=rfl;rw[hv,aaL, ←hv];simp only[Option.isNone_some,ai,dW];refine IB h (hm.bg _) hg.l (fun H1 h1=> ?_);simp only[hf,AJ,reduceIte,Nat.reduceEqDiff];rw[AU h1];simp only[AJ,reduceIte,Nat.reduceEqDiff,hr.n];rw[ES h1];simp only[AJ,reduceIte,Nat.reduceEqDiff,hr.p];refine jo h1 (hm.bg _) hg (fun q c H2 h2=> ?_);simp only[AJ,reduceIte,Nat.reduceEqDiff]
 have hc:=pL (cap:=c) (K:=fun v H'=>ah (V.aw .bool v) (ah (aG (KT.k .bool) (some (T.v (V.bool !V.av v)))||false||false) (br (!V.av v) (K (V.tuple [V.slice none 0 0,V.int .i64 1]) H')
  (cl 64 [V.ak (some (aK,0)),V.int .i64 (i:Int)] H' fun v H'=>ah (V.aw (.int .i64) v)
   (lo 98 9 (St.mk (ab [(0,T.v (V.ak (some (aK,0)))),(2,T.v (V.int .i64 (i:Int))),(4,T.lp 4 0),(8,T.v (V.slice none 0 0)),(42,T.v (V.int .i64 (V.aa v))),(43,T.v (V.int .i64 0))])
    (ab [(4,aV.cells 26 (cV m.g.aB m.g.ay m.g.aF m.q m.g.bB.length m.c))]) H')
    (fun S'=>ah (aG (KT.k .slice) (S'.1 6)&&aG (KT.k (.int .i64)) (S'.1 7)) (K (V.tuple [V.slice (V.au (T.val (S'.1 6))) (V.ax (T.val (S'.1 6))) (V.aC (T.val (S'.1 6))),V.int .i64 (V.aa (T.val (S'.1 7)))]) S'.3))
    fun j S'=>br (decide (j=0)) (ah (aG (KT.k .slice) (S'.1 8)) (K (V.tuple [V.slice (V.au (T.val (S'.1 8))) (V.ax (T.val (S'.1 8))) (V.aC (T.val (S'.1 8))),V.int .i64 0]) S'.3)) False)))))
  (h2.ord [0] |> az.tG) (i:Int) (by rw[gu];have:=bW.jX m.g hg.b.2;omega) ?_
 ·rw[gu] at hc;simpa [AJ,reduceIte,Nat.reduceEqDiff] using hc
 ·have hmem:(i:Int)∈cR m.g.us:=List.mem_map.2 ⟨i,hu,rfl⟩;simp only[hmem,AJ,reduceIte,Nat.reduceEqDiff];have h3:=h2.drop;rw[tK h3 hi];simp only[AJ,reduceIte,Nat.reduceEqDiff];refine mY (a:=a) hm hg hr sD hi (a.bs[i]).pg.length 0 [] (by omega) (by simp) (h3.pI.rwNil _ _) (fun q' c' rs' H' e h'=> ?_);simp only[AJ,reduceIte,Nat.reduceEqDiff];refine k q' c' rs' H' ?_ h';rw[e];simp [Bk.eu]
end
end Go.Proofs.YtlgdkndamddpkaaGreat
end
section
namespace Go.Am
def ob (id:Nat) (o:Obj):bV:=fun h=>h=fun j=>if j=id then some o else none
def Obj.isC:Obj→Bool
 | .cells .. =>true
 |_=>false
section
variable {B:ag} {L:List bV} {H:ag}
theorem az.wD {id:Nat} {o:Obj} (h:az B H (ob id o::L)):H.get id=some o:=by
 obtain⟨g,h1,h2,h3,h4,h5,h6⟩:=h.ex;exact h1 _ _ (h4.S7 (by rw[h5];simp))
theorem az.M5 (h:az B H L) (o:Obj):az B (H.alloc o) (ob H.next o::L):=by
 obtain⟨g,h1,h2⟩:=h.ex;refine⟨h.ok.alloc _,Nat.le_succ_of_le h.JZ,fun id o ho=> ?_,fun j=>if j=H.next then some o else g j,fun id o' ho=> ?_,_,g,fun i=> ?_,rfl,h2⟩
 ·have:=h.ok id o (h.ro id o ho).1;exact⟨by rw[ag.fD (by omega)];exact(h.ro id o ho).1,(h.ro id o ho).2⟩
 ·by_cases hid:id=H.next
  ·subst hid;simp only[if_pos] at ho;rw[ag.va,ho]
  ·simp only[if_neg hid] at ho;rw[ag.fD hid];exact h1 id o' ho
 ·by_cases hid:i=H.next
  ·subst hid;right;refine⟨?_,by simp⟩
   cases hg:g H.next with
   |none=>rfl
   |some o=>have:=h.ok _ _ (h1 _ _ hg);omega
  ·left;simp [hid]
theorem az.tO {id:Nat} {o o':Obj} (h:az B H (ob id o::L)) (hc:o.isC=false):az B (H.put id o') (ob id o'::L):=by
 have Ue:=h.wD;obtain⟨g,h1,h2,h3,h4,h5,h6⟩:=h.ex;subst h5;refine⟨h.ok.put Ue,h.JZ,fun j o ho=> ?_,fun j=>if j=id then some o' else h3 j,fun j o2 ho=> ?_,_,h3,fun i=> ?_,rfl,h6⟩
 ·have hj:=h.ro j o ho;refine⟨?_,hj.2⟩;by_cases he:j=id
  ·subst he;obtain⟨e',c',rfl⟩:=hj.2;rw[hj.1] at Ue;cases Ue;cases hc
  ·rw[ag.kY he];exact hj.1
 ·by_cases hid:j=id
  ·subst hid;simp only[if_pos] at ho;rw[ag.HS,ho]
  ·simp only[if_neg hid] at ho;rw[ag.kY hid];exact h1 j o2 (h4.S8 ho)
 ·by_cases hid:i=id
  ·subst hid;right;refine⟨?_,by simp⟩;rcases h4 i with⟨e1,_⟩|⟨e1,_⟩
   ·simp at e1
   ·exact e1
  ·left;simp [hid]
end
structure En where
 k:Int
 v:V
 b:Nat
def tP (es:List En):List (V×V×Nat):=es.map fun e=>(.int .i64 e.k,e.v,e.b)
def F6 (n:Int):List En→Option V
 |[]=>none
 |e::l=>if e.k=n then some e.v else F6 n l
def Aa (n:Int) (v:V):List En→List En
 |[]=>[]
 |e::l=>if e.k=n then {e with v:=v}::l else e::Aa n v l
def CV (n:Int):List En→List En
 |[]=>[]
 |e::l=>if e.k=n then l else e::CV n l
structure wE (es:List En) (c:Nat):Prop where
 lt:es.Pairwise fun x y=>x.b<y.b
 all:∀e∈es,e.b<c
theorem IH:∀es:List En,rr .i64 (tP es)=true
 |[]=>rfl
 |e::l=>by
  show (V.aw (.int .i64) (.int .i64 e.k)&&rr .i64 (tP l))=true
  rw[IH l,eT];rfl
theorem tQ (n:Int):∀es:List En,mC n (tP es)=F6 n es
 |[]=>rfl
 |e::l=>by
  show (bif decide (e.k=n) then some e.v else mC n (tP l))=_
  rw[tQ n l,F6];by_cases h:e.k=n<;>simp [h]
theorem II (n:Int) (v:V):∀es:List En,DR n v (tP es)=tP (Aa n v es)
 |[]=>rfl
 |e::l=>by
  show (bif decide (e.k=n) then (V.int .i64 e.k,v,e.b)::tP l else (V.int .i64 e.k,e.v,e.b)::DR n v (tP l))=_
  rw[II n v l,Aa];by_cases h:e.k=n<;>simp [h,tP]
theorem IJ (n:Int):∀es:List En,xi n (tP es)=tP (CV n es)
 |[]=>rfl
 |e::l=>by
  show (bif decide (e.k=n) then tP l else (V.int .i64 e.k,e.v,e.b)::xi n (tP l))=_
  rw[IJ n l,CV];by_cases h:e.k=n<;>simp [h,tP]
section
variable {B:ag} {L:List bV} {H:ag} {id c:Nat} {es:List En}
def ir (id:Nat) (es:List En) (c:Nat):bV:=ob id (.map (tP es) c)
theorem az.M6 (h:az B H L):az B (H.alloc (.map [] 0)) (ir H.next [] 0::L):=h.M5 _
theorem tT (h:az B H (ir id es c::L)):dR H .i64 (some id)=true:=by
 have hg:=h.wD;simp only[dR,Option.isNone_some,Option.getD_some,ag.isMap,ag.ents,hg,IH,Bool.and_self,Bool.or_true]
theorem QV (h:az B H (ir id es c::L)):H.isMap id=true:=by
 have hg:=h.wD;simp only[ag.isMap,hg]
theorem yC (h:az B H (ir id es c::L)) (n:Int) (z:V):bT H (some id) n z=(F6 n es).getD z:=by
 have hg:=h.wD;simp only[bT,Option.isNone_some,Option.getD_some,ag.ents,hg,tQ,cond_false]
theorem M7 (h:az B H (ir id es c::L)) (n:Int):kC H (some id) n=(F6 n es).isSome:=by
 have hg:=h.wD;simp only[kC,Option.isSome_some,Option.getD_some,ag.ents,hg,tQ,Bool.true_and]
def qJ (n:Int) (v:V) (es:List En) (c:Nat):List En×Nat:=if (F6 n es).isSome then (Aa n v es,c) else (es++[⟨n,v,c⟩],c+1)
theorem az.IK (h:az B H (ir id es c::L)) (n:Int) (v:V):az B (gZ H .i64 id n v) (ir id (qJ n v es c).1 (qJ n v es c).2::L):=by
 have hg:=h.wD;unfold gZ qJ;simp only[ag.ents,ag.clock,hg,tQ]
 cases hf:(F6 n es).isSome with
 |true=>
  simp only[cond_true,if_true,II];exact h.tO rfl
 |false=>
  simp only[cond_false,Bool.false_eq_true,if_false];have e:tP es++[(V.int .i64 n,v,c)]=tP (es++[⟨n,v,c⟩]):=by simp [tP]
  rw[e];exact h.tO rfl
theorem az.XL (h:az B H (ir id es c::L)) (n:Int):az B (oL H (some id) n) (ir id (CV n es) c::L):=by
 have hg:=h.wD;unfold oL;simp only[Option.isNone_some,Option.getD_some,ag.ents,ag.clock,hg,IJ,cond_false];exact h.tO rfl
theorem M8 (n:Int) (v:V):∀es:List En,(Aa n v es).map En.b=es.map En.b
 |[]=>rfl
 |e::l=>by
  rw[Aa];split
  ·rfl
  ·rw[List.map_cons,M8 n v l,List.map_cons]
theorem CX {es:List En} {c:Nat}:wE es c↔(es.map En.b).Pairwise (· < ·)∧∀b∈es.map En.b,b<c:=by
 constructor
 ·intro h;exact⟨List.pairwise_map.2 h.lt,fun b hb=>by obtain⟨e,he,rfl⟩:=List.mem_map.1 hb;exact h.all e he⟩
 ·intro h;exact⟨List.pairwise_map.1 h.1,fun e he=>h.2 _ (List.mem_map.2 ⟨e,he,rfl⟩)⟩
theorem wE.Zh (h:wE es c) (n:Int) (v:V):wE (qJ n v es c).1 (qJ n v es c).2:=by
 unfold qJ;split
 ·rw[CX] at h⊢;rw[M8];exact h
 ·refine⟨?_, ?_⟩
  ·rw[List.pairwise_append];exact⟨h.lt,by simp,fun x hx y hy=>by rw[List.mem_singleton] at hy;subst hy;exact h.all x hx⟩
  ·intro e he;rcases List.mem_append.1 he with he|he
   ·have:=h.all e he;simp only;omega
   ·rw[List.mem_singleton] at he;subst he;simp
theorem yD (n:Int):∀es:List En,(CV n es).Sublist es
 |[]=>.slnil
 |e::l=>by
  rw[CV];split
  ·exact List.sublist_cons_self ..
  ·exact(yD n l).cons_cons e
theorem wE.DL (h:wE es c) (n:Int):wE (CV n es) c:=⟨h.lt.sublist (yD n es),fun e he=>h.all e ((yD n es).subset he)⟩
theorem wE.nil (c:Nat):wE [] c:=⟨.nil,fun e he=>by cases he⟩
theorem EZ {e:En}:∀{es:List En},(es.Pairwise fun x y=>x.b<y.b)→e∈es→Ao e.b (tP es)=some (.int .i64 e.k,e.v)
 |x::l,hp,he=>by
  show (bif Nat.beq x.b e.b then some (V.int .i64 x.k,x.v) else Ao e.b (tP l))=_
  rw[List.pairwise_cons] at hp;rcases List.mem_cons.1 he with rfl|he
  ·simp
  ·have:=hp.1 e he;have hb:Nat.beq x.b e.b=false:=by simp;omega
   rw[hb,cond_false];exact EZ hp.2 he
theorem vl {seen:List Nat} {b:Nat}:∀{es:List En},b∈kz seen (tP es)↔∃e∈es,e.b=b∧b∉seen
 |[]=>by simp [tP,kz]
 |x::l=>by
  show b∈(bif sI x.b seen then kz seen (tP l) else x.b::kz seen (tP l))↔_
  have ih:=vl (seen:=seen) (b:=b) (es:=l)
  cases hx:sI x.b seen with
  |true=>
   have hm:x.b∈seen:=F2 hx;rw[cond_true,ih];constructor
   ·rintro⟨e,he,h1,h2⟩;exact⟨e,List.mem_cons_of_mem _ he,h1,h2⟩
   ·rintro⟨e,he,h1,h2⟩;rcases List.mem_cons.1 he with rfl|he
    ·exact absurd (h1▸hm) h2
    ·exact⟨e,he,h1,h2⟩
  |false=>
   have hm:x.b∉seen:=fun h=>by rw[Jw h] at hx;cases hx
   rw[cond_false,List.mem_cons,ih];constructor
   ·rintro(rfl|⟨e,he,h1,h2⟩)
    ·exact⟨x,List.mem_cons_self,rfl,hm⟩
    ·exact⟨e,List.mem_cons_of_mem _ he,h1,h2⟩
   ·rintro⟨e,he,h1,h2⟩;rcases List.mem_cons.1 he with rfl|he
    ·exact .inl h1.symm
    ·exact .inr ⟨e,he,h1,h2⟩
where
 F2 {n:Nat}:∀{l:List Nat},sI n l=true→n∈l
  |y::l,h=>by
   rw[sI,Bool.or_eq_true] at h;rcases h with h|h
   ·exact List.mem_cons.2 (.inl (Nat.eq_of_beq_eq_true h))
   ·exact List.mem_cons_of_mem _ (F2 h)
 Jw {n:Nat}:∀{l:List Nat},n∈l→sI n l=true
  |y::l,h=>by
   rw[sI,Bool.or_eq_true];rcases List.mem_cons.1 h with rfl|h
   ·exact .inl (Nat.beq_refl _)
   ·exact .inr (Jw h)
theorem AZ {s:Nat}:∀{es:List En},(∀e∈es,e.b<s)→nA s (tP es)=true
 |[],_=>rfl
 |x::l,h=>by
  show (Nat.blt x.b s&&nA s (tP l))=true
  rw[AZ fun e he=>h e (List.mem_cons_of_mem _ he),Bool.and_true];exact Nat.ble_eq_true_of_le (h x List.mem_cons_self)
theorem yE:∀(l:List Nat) (b:Nat),Ap (l++[b])=some b
 |[],b=>rfl
 |[x],b=>rfl
 |x::y::l,b=>by
  show Ap (y::l++[b])=some b
  exact yE (y::l) b
theorem az.M9 {it:Nat} {seen:List Nat} (h:az B H (ob it (.dz (some id) c seen c)::ir id es c::L)) (hb:wE es c) {K1:Prop} {K2:ag→Prop} (k1:(∀e∈es,e.b∈seen)→K1) (k2:∀e∈es,e.b∉seen→∀H',az B H' (ob it (.dz (some id) c (seen++[e.b]) c)::ir id es c::L)→ru H' it=true→j4 H' it=.int .i64 e.k→iw H' it=e.v→K2 H'):mapNext H it K1 K2:=by
 have h1:=h.wD;have h2:=h.swap.wD;unfold mapNext;simp only[h1,h2,AZ hb.all,Nat.ble_eq_true_of_le (Nat.le_refl c),Bool.and_self,cond_true]
 have key:∀b,b∈kz seen (tP es)→K2 (H.put it (.dz (some id) c (seen++[b]) c)):=by
  intro b UW;obtain⟨e,he,rfl,hn⟩:=vl.1 UW;have h3:=h.tO (o':=.dz (some id) c (seen++[e.b]) c) rfl;have g1:=h3.wD;have g2:=h3.swap.wD
  have zJ:uI (H.put it (.dz (some id) c (seen++[e.b]) c)) it=some (.int .i64 e.k,e.v):=by
   unfold uI;simp only[g1,g2,yE,Nat.beq_refl,cond_true];exact EZ hb.lt he
  exact k2 e he hn _ h3 (by unfold ru;rw[zJ];rfl) (by unfold j4;rw[zJ];rfl) (by unfold iw;rw[zJ];rfl)
 cases hl:kz seen (tP es) with
 |nil=>
  refine k1 (fun e he=> ?_)
  cases hd:decide (e.b∈seen) with
  |true=>exact of_decide_eq_true hd
  |false=>
   have:e.b∈kz seen (tP es):=vl.2 ⟨e,he,rfl,of_decide_eq_false hd⟩;rw[hl] at this;cases this
 |cons x l=>
  rw[hl] at key;exact key
theorem az.Na (h:az B H (ir id es c::L)):az B (H.alloc (mapIter H (some id))) (ob H.next (.dz (some id) c [] c)::ir id es c::L):=by
 have hg:=h.wD;have e:mapIter H (some id)=.dz (some id) c [] c:=by simp only[mapIter,Option.isNone_some,Option.getD_some,ag.clock,hg,cond_false]
 rw[e];exact h.M5 _
theorem n5 (q:En→Bool) {e:En} {seen:List Nat} (hn:e.b∉seen):∀{es:List En},(es.Pairwise fun x y=>x.b<y.b)→e∈es→es.countP (fun y=>decide (y.b∈seen++[e.b])&&q y)=es.countP (fun y=>decide (y.b∈seen)&&q y)+(if q e=true then 1 else 0)
 |x::l,hp,he=>by
  rw[List.pairwise_cons] at hp;rw[List.countP_cons,List.countP_cons];rcases List.mem_cons.1 he with rfl|he
  ·have e1:l.countP (fun y=>decide (y.b∈seen++[e.b])&&q y)=l.countP (fun y=>decide (y.b∈seen)&&q y):=by
    apply List.countP_congr;intro y hy;have:=hp.1 y hy;have hne:¬y.b=e.b:=by omega
    simp [hne]
   rw[e1];cases hq:q e<;>simp [hq,hn]
  ·have:=hp.1 e he;have hne:¬x.b=e.b:=by omega
   rw[n5 q hn hp.2 he];simp only[List.mem_append,List.mem_singleton,hne,or_false];omega
end
end Go.Am
end
section
namespace Go.Proofs.YtlgdkndamddpkaaGreat
open Go.Am
def G3 (o f:Fd):Bool:=decide (o.s.cK=f.s.cK)&&(decide (o.s.an=f.s.an)&&(decide (o.s.seq<f.s.seq)&&decide (o.s.data=f.s.data)))
def gR (i:Nat):List (Nat×List Fd)→List Fd
 |[]=>[]
 |x::l=>if x.1=i then x.2 else gR i l
def G4 (cB:List (Nat×List Fd)) (fr:Nat):List Fd:=if fr=0 then [] else gR (fr-1) cB
def sa (cB:List (Nat×List Fd)) (fr:Nat) (f:Fd):Bool:=decide (fr≠0)&&(decide (f.s.fr=fr)&&(G4 cB fr).any fun o=>G3 o f)
def kc (cB:List (Nat×List Fd)) (i:Nat):Bool:=match gR i cB with
 |[]=>false
 |f::l=>(f::l).all (sa cB f.s.fr)
def pN (bz:List (Rz×Nat)):List En:=bz.map fun x=>⟨(x.1.i:Int),.slice x.1.q x.1.rs.length x.1.c,x.2⟩
def mZ (bz:List (Rz×Nat)):List (Nat×List Fd):=bz.map fun x=>(x.1.i,x.1.rs.map Rf.f)
def oG (i:Nat):List (Rz×Nat)→Option Rz
 |[]=>none
 |x::l=>if x.1.i=i then some x.1 else oG i l
theorem tU {i:Nat} {z:Rz}:∀{bz:List (Rz×Nat)},oG i bz=some z→∃b,(z,b)∈bz
 |x::l,h=>by
  rw[oG] at h;split at h
  ·cases h;exact⟨x.2,List.mem_cons_self⟩
  ·obtain⟨b,hb⟩:=tU h;exact⟨b,List.mem_cons_of_mem _ hb⟩
theorem tV (i:Nat):∀bz:List (Rz×Nat),gR i (mZ bz)=match oG i bz with|some z=>z.rs.map Rf.f|none=>[]
 |[]=>rfl
 |x::l=>by
  show (if x.1.i=i then x.1.rs.map Rf.f else gR i (mZ l))=_
  rw[oG];split
  ·rfl
  ·exact tV i l
theorem CY (i:Nat):∀bz:List (Rz×Nat),F6 (i:Int) (pN bz)=(oG i bz).map fun z:Rz=>V.slice z.q z.rs.length z.c
 |[]=>rfl
 |x::l=>by
  show (if (x.1.i:Int)=(i:Int) then some _ else F6 (i:Int) (pN l))=_
  rw[oG,CY i l];by_cases h:x.1.i=i
  ·have:(x.1.i:Int)=(i:Int):=by omega
   rw[if_pos this,if_pos h];rfl
  ·have:¬(x.1.i:Int)=(i:Int):=by omega
   rw[if_neg this,if_neg h]
theorem IL:∀bz:List (Rz×Nat),F6 (-1) (pN bz)=none
 |[]=>rfl
 |x::l=>by
  show (if (x.1.i:Int)= -1 then some _ else F6 (-1) (pN l))=_
  rw[if_neg (by omega),IL l]
section
variable {B:ag} {L:List bV} {H:ag} {K:V→ag→Prop}
theorem tW {zs:List Rz} {z:Rz} (h:az B H (bo (zs.map Rz.bR)::L)) (hz:z∈zs):Rd H z.q (z.rs.map Rf.cs).flatten∧∀r∈z.rs,lz H r.q r.f.s.data:=by
 obtain⟨j,hj,rfl⟩:=List.mem_iff_getElem.1 hz;have h1:=h.pJ (i:=j) (by simpa using hj);rw[List.getElem_map] at h1;have h2:=az.J6 h1;refine⟨h2.wB,fun r hr=> ?_⟩;obtain⟨k,hk,rfl⟩:=List.mem_iff_getElem.1 hr;have h3:=(h2.ord [1]).pJ (i:=k) (by simpa using hk);rw[List.getElem_map] at h3;exact h3.gQ
structure Zi (H:ag) (fid:Nat) (r:Rf):Prop where
 i:∀k<8,H.inb fid k 1=true
 c:∀k<8,H.cell fid k=ae r.cs k
 d:lz H r.q r.f.s.data
theorem fcG {fid:Nat} {r:Rf} (hg:H.get fid=some (.cells 130 r.cs false)) (hd:lz H r.q r.f.s.data):Zi H fid r:=
 ⟨fun k hk=>mU hg (by show k<8;exact hk),fun k hk=>aX hg k,hd⟩
theorem Ts {fid:Nat} {o r:Rf} (g:Zi H fid r) (ho:lz H o.q o.f.s.data):cl 123 [.agg o.cs,.ak (some (fid,0))] H K=K (.bool (G3 o.f r.f)) H:=by
 unfold Rf.cs;rw[WS];have c2:H.cell fid 2=.int .u8 (r.f.s.cK:Int):=g.c 2 (by omega);have c4:H.cell fid 4=.int .u64 (r.f.s.seq:Int):=g.c 4 (by omega);have c5:H.cell fid 5=.int .i64 (r.f.s.an:Int):=g.c 5 (by omega);have c7:H.cell fid 7=.slice r.q r.f.s.data.length r.c:=g.c 7 (by omega);simp only[AJ,reduceIte,Nat.reduceEqDiff,Nat.zero_add,g.i 2 (by omega),g.i 4 (by omega),g.i 5 (by omega),g.i 7 (by omega),c2,c4,c5,c7];unfold G3;by_cases h1:o.f.s.cK=r.f.s.cK
 ·have wi:(o.f.s.cK:Int)=(r.f.s.cK:Int):=by omega
  simp only[h1,wi,decide_true,aq,Bool.true_and];by_cases h2:o.f.s.an=r.f.s.an
  ·have Aj:(o.f.s.an:Int)=(r.f.s.an:Int):=by omega
   simp only[h2,Aj,decide_true,aq,Bool.true_and];by_cases h3:o.f.s.seq<r.f.s.seq
   ·have Rx:(o.f.s.seq:Int)<(r.f.s.seq:Int):=by omega
    simp only[h3,Rx,decide_true,aq,Bool.true_and,ho.eG,ho.eH,g.d.eG,g.d.eH,aA,pG]
   ·have Rx:¬(o.f.s.seq:Int)<(r.f.s.seq:Int):=by omega
    simp only[h3,Rx,decide_false,ai,Bool.false_and]
  ·have Aj:¬(o.f.s.an:Int)=(r.f.s.an:Int):=by omega
   simp only[h2,Aj,decide_false,ai,Bool.false_and]
 ·have wi:¬(o.f.s.cK:Int)=(r.f.s.cK:Int):=by omega
  simp only[h1,wi,decide_false,ai,Bool.false_and]
theorem QW {fid:Nat} {r:Rf} (g:Zi H fid r) {q:Oq} {c:Nat} {rs:List Rf} (hr:Rd H q (rs.map Rf.cs).flatten) (hd:∀o∈rs,lz H o.q o.f.s.data) (hl:rs.length≤1000000) {Kr:Am.St→Prop} {Ke:Nat→Am.St→Prop} (k1:∀j:Nat,(rs.any fun o=>G3 o.f r.f)=true→Kr (St.mk (ab [(4,T.v (V.int .i64 (j:Int)))]) (ab []) H)) (k2:(rs.any fun o=>G3 o.f r.f)=false→Ke 0 (St.mk (ab []) (ab []) H)):∀(k i:Nat),i+k=rs.length→((rs.take i).any fun o=>G3 o.f r.f)=false→lo 142 2 (St.mk (ab [(0,T.v (V.slice q rs.length c)),(1,T.v (V.func 123 [.ak (some (fid,0))])),(7,T.v (V.int .i64 (rs.length:Int))),(8,T.v (V.int .i64 (i:Int)))]) (ab []) H) Kr Ke
 |0,i,hi,hn=>by
  obtain rfl:i=rs.length:=by omega
  rw[List.take_length] at hn;rw[Ig,decide_eq_false (by omega),ai];exact k2 hn
 |k+1,i,hi,hn=>by
  have hlt:i<rs.length:=by omega
  obtain⟨s1,s2,s3⟩:=yu hr (vk rs).oI (by decide) (i:=i) (by simpa using hlt);have s2':H.inb (pb q) (po q+i*8) 8=true:=s2
  have Gf:H.sub (pb q) (po q+i*8) 8=(rs[i]).cs:=by
   rw[List.getElem_map] at s3;exact s3
  have a1:(i:Int)<(rs.length:Int):=by omega
  have a2:0≤(i:Int):=by omega
  have hfit:aI oE (rs[i]).cs=true:=rfl;have zB:JU (rs[i]).cs=(rs[i]).cs:=rfl;rw[Ig];simp only[AJ,reduceIte,Nat.reduceEqDiff,a1,a2,Int.toNat_natCast,s1,s2',Gf,hfit,zB];show cl 123 [.agg (rs[i]).cs,.ak (some (fid,0))] H _
  rw[Ts g (hd _ (List.getElem_mem hlt))];simp only[AJ,reduceIte,Nat.reduceEqDiff]
  cases hm:G3 (rs[i]).f r.f with
  |true=>
   simp only[aq];exact k1 i (List.any_eq_true.2 ⟨_,List.getElem_mem hlt,hm⟩)
  |false=>
   simp only[ai];rw[aJ (by omega)];refine QW g hr hd hl k1 k2 k (i+1) (by omega) ?_;rw[List.take_succ_eq_append_getElem hlt,List.any_append,hn];simp [hm]
theorem Nb {fid:Nat} {r:Rf} (g:Zi H fid r) {q:Oq} {c:Nat} {rs:List Rf} (hr:Rd H q (rs.map Rf.cs).flatten) (hd:∀o∈rs,lz H o.q o.f.s.data) (hl:rs.length≤1000000):K (.bool (rs.any fun o=>G3 o.f r.f)) H→cl 122 [.slice q rs.length c,.func 123 [.ak (some (fid,0))]] H K:=by
 intro k;rw[WQ,W6];refine QW g hr hd hl (fun j e=> ?_) (fun e=> ?_) rs.length 0 (by omega) (by simp)
 ·have:(j:Int)≥0:=by omega
  simp only[AJ,reduceIte,Nat.reduceEqDiff,this];rw[e] at k;exact k
 ·have:¬(-1:Int)≥0:=by decide
  simp only[AJ,reduceIte,Nat.reduceEqDiff,this];rw[e] at k;exact k
theorem any_map (rs:List Rf) (f:Fd):(rs.map Rf.f).any (fun o=>G3 o f)=rs.any fun o=>G3 o.f f:=by
 rw[List.any_map];rfl
theorem Nc {mid c:Nat} {bz:List (Rz×Nat)} (h:az B H (ir mid (pN bz) c::L)) (i:Nat):
 bT H (some mid) (i:Int) (.slice none 0 0)=match oG i bz with|some z=>V.slice z.q z.rs.length z.c|none=>V.slice none 0 0:=by
 rw[yC h,CY];cases oG i bz<;>rfl
theorem QX {mid c:Nat} {bz:List (Rz×Nat)} {zs:List Rz} (hbz:∀x∈bz,x.1∈zs) (hl:∀z∈zs,z.rs.length≤1000000) {z:Rz} (hz:z∈zs) (fr:Nat) {Kr:Am.St→Prop} {Ke:Nat→Am.St→Prop} (k1:∀H',az B H' (ir mid (pN bz) c::bo (zs.map Rz.bR)::L)→((z.rs.map Rf.f).all (sa (mZ bz) fr))=false→Kr (St.mk (ab [(4,T.v (V.bool false))]) (ab []) H')) (k2:∀H',az B H' (ir mid (pN bz) c::bo (zs.map Rz.bR)::L)→((z.rs.map Rf.f).all (sa (mZ bz) fr))=true→Ke 0 (St.mk (ab []) (ab []) H')):∀(k i:Nat) {H:ag},i+k=z.rs.length→(((z.rs.take i).map Rf.f).all (sa (mZ bz) fr))=true→az B H (ir mid (pN bz) c::bo (zs.map Rz.bR)::L)→lo 99 6 (St.mk (ab [(0,T.v (V.map (some mid))),(5,T.v (V.int .i64 ((fr:Int)-1))),(23,T.v (V.slice z.q z.rs.length z.c)),(24,T.v (V.int .i64 (z.rs.length:Int))),(25,T.v (V.int .i64 (i:Int)))]) (ab []) H) Kr Ke
 |0,i,H,hi,hn,h=>by
  obtain rfl:i=z.rs.length:=by omega
  rw[List.take_length] at hn;rw[Mu,decide_eq_false (by omega),ai];exact k2 H h hn
 |k+1,i,H,hi,hn,h=>by
  have hlt:i<z.rs.length:=by omega
  obtain⟨Yx,hdz⟩:=tW (h.ord [1]) hz;obtain⟨s1,s2,s3⟩:=yu Yx (vk z.rs).oI (by decide) (i:=i) (by simpa using hlt);have s2':H.inb (pb z.q) (po z.q+i*8) 8=true:=s2
  have Gf:H.sub (pb z.q) (po z.q+i*8) 8=(z.rs[i]).cs:=by
   rw[List.getElem_map] at s3;exact s3
  have a1:(i:Int)<(z.rs.length:Int):=by omega
  have a2:0≤(i:Int):=by omega
  have hfit:aI oE (z.rs[i]).cs=true:=rfl;have zB:JU (z.rs[i]).cs=(z.rs[i]).cs:=rfl;obtain⟨fid,Lk⟩:∃f,f=H.next:=⟨_,rfl⟩;have h1:=h.alloc 130 (kb 0 0 0 0 0 0 0 none 0 0);have hw:(H.alloc (.cells 130 (kb 0 0 0 0 0 0 0 none 0 0) false)).wr H.next 0 8=true:=fY h1.get 0 8;have h2:=h1.store (off:=0) (vs:=(z.rs[i]).cs)
  have e2:bL (kb 0 0 0 0 0 0 0 none 0 0) 0 (z.rs[i]).cs=(z.rs[i]).cs:=by
   rw[fE _ _ _ (by show 0+8≤8;omega)];rfl
  rw[e2] at h2;rw[Mu];simp only[AJ,reduceIte,Nat.reduceEqDiff,a1,a2,Int.toNat_natCast,s1,s2',Gf,hfit,zB,hw];generalize (ag.store _ _ _ _)=H2 at h2⊢;rw[←Lk] at h2⊢;have Yj:lz H2 (z.rs[i]).q (z.rs[i]).f.s.data:=(tW (h2.ord [2]) hz).2 _ (List.getElem_mem hlt);have g:=fcG h2.get Yj;have hm2:=h2.ord [1];have hmo:=tT hm2
  have hnext:∀H',az B H' (di fid 130 (z.rs[i]).cs::ir mid (pN bz) c::bo (zs.map Rz.bR)::L)→sa (mZ bz) fr (z.rs[i]).f=true→
   lo 99 6
    (St.mk (ab [(0,T.v (V.map (some mid))),(5,T.v (V.int .i64 ((fr:Int)-1))),(23,T.v (V.slice z.q z.rs.length z.c)),(24,T.v (V.int .i64 (z.rs.length:Int))),(25,T.v (V.int .i64 (IntKind.i64.wrap ((i:Int)+1))))]) (ab []) H') Kr Ke:=by
   intro H' h' hc;have:=hl z hz;rw[aJ (by omega)];refine QX hbz hl hz fr k1 k2 k (i+1) (by omega) ?_ h'.drop;rw[List.take_succ_eq_append_getElem hlt,List.map_append,List.all_append,hn];simp [hc]
  have hstop:∀H',az B H' (di fid 130 (z.rs[i]).cs::ir mid (pN bz) c::bo (zs.map Rz.bR)::L)→sa (mZ bz) fr (z.rs[i]).f=false→Kr (St.mk (ab [(4,T.v (V.bool false))]) (ab []) H'):=by
   intro H' h' hc;refine k1 H' h'.drop ?_;rw[List.all_eq_false];exact⟨_,List.mem_map.2 ⟨_,List.getElem_mem hlt,rfl⟩,by simp [hc]⟩
  have c6:H2.cell fid 6=.int .i64 (((z.rs[i]).f.s.fr:Int)-1):=g.c 6 (by omega);by_cases hfr:fr=0
  ·subst hfr;have hk:((0:Nat):Int)-1= -1:=rfl;rw[hk] at hnext⊢;have oe:bT H2 (some mid) (-1) (.slice none 0 0)=.slice none 0 0:=by rw[yC hm2,IL];rfl
   have hneg:(-1:Int)<0:=by decide
   have T9:sa (mZ bz) 0 (z.rs[i]).f=false:=by simp [sa]
   simp only[hmo,oe,AJ,reduceIte,Nat.reduceEqDiff];refine Nb (rs:=[]) g (Rd.nil _ _) (fun o ho=>by cases ho) (by simp) ?_;simp only[AJ,reduceIte,Nat.reduceEqDiff,hneg,aO,Bool.false_eq_true,if_false,cond_false];exact hstop H2 h2 T9
  ·have hk:((fr:Nat):Int)-1=((fr-1:Nat):Int):=by omega
   have hnn:¬((fr-1:Nat):Int)<0:=by omega
   have oe:=Nc hm2 (fr-1)
   have hlk:G4 (mZ bz) fr=match oG (fr-1) bz with|some z=>z.rs.map Rf.f|none=>[]:=by
    unfold G4;rw[if_neg hfr,tV]
   have fin:∀(b:Bool),b=(G4 (mZ bz) fr).any (fun o=>G3 o (z.rs[i]).f)→
    br (bif decide (((z.rs[i]).f.s.fr:Int)-1=((fr-1:Nat):Int)) then !b else true) (Kr (St.mk (ab [(4,T.v (V.bool false))]) (ab []) H2))
     (lo 99 6
    (St.mk (ab [(0,T.v (V.map (some mid))),(5,T.v (V.int .i64 ((fr-1:Nat):Int))),(23,T.v (V.slice z.q z.rs.length z.c)),(24,T.v (V.int .i64 (z.rs.length:Int))),(25,T.v (V.int .i64 (IntKind.i64.wrap ((i:Int)+1))))]) (ab []) H2) Kr Ke):=by
    intro b hb;by_cases QA:(z.rs[i]).f.s.fr=fr
    ·have:((z.rs[i]).f.s.fr:Int)-1=((fr-1:Nat):Int):=by omega
     simp only[this,decide_true,cond_true]
     cases Jt:b with
     |true=>
      simp only[Bool.not_true,ai];have:=hnext H2 h2 (by unfold sa;rw[←hb,Jt];simp [hfr,QA]);rw[hk] at this;exact this
     |false=>
      simp only[Bool.not_false,aq];exact hstop H2 h2 (by unfold sa;rw[←hb,Jt];simp)
    ·have:¬((z.rs[i]).f.s.fr:Int)-1=((fr-1:Nat):Int):=by omega
     simp only[this,decide_false,cond_false,aq];exact hstop H2 h2 (by unfold sa;simp [QA])
   rw[hk]
   cases Ur:oG (fr-1) bz with
   |none=>
    rw[Ur] at oe hlk;simp only[hmo,oe,AJ,reduceIte,Nat.reduceEqDiff];refine Nb (rs:=[]) g (Rd.nil _ _) (fun o ho=>by cases ho) (by simp) ?_;simp only[AJ,reduceIte,Nat.reduceEqDiff,hnn,aO,if_true,g.i 6 (by omega),c6,cond_true,Bool.not_not];have:=fin ([].any fun o:Rf=>G3 o.f (z.rs[i]).f) (by rw[hlk];rfl);exact this
   |some z2=>
    rw[Ur] at oe hlk;obtain⟨b2,mv⟩:=tU Ur;have xf:=hbz _ mv;obtain⟨Ah,hd2⟩:=tW (h2.ord [2]) xf;simp only[hmo,oe,AJ,reduceIte,Nat.reduceEqDiff];refine Nb g Ah hd2 (hl _ xf) ?_;simp only[AJ,reduceIte,Nat.reduceEqDiff,hnn,aO,if_true,g.i 6 (by omega),c6,cond_true,Bool.not_not];exact fin _ (by rw[hlk];exact(any_map _ _).symm)
theorem Kc {mid c:Nat} {bz:List (Rz×Nat)} {zs:List Rz} (h:az B H (ir mid (pN bz) c::bo (zs.map Rz.bR)::L)) (hbz:∀x∈bz,x.1∈zs) (hl:∀z∈zs,z.rs.length≤1000000) (i:Nat) (k:∀H',az B H' (ir mid (pN bz) c::bo (zs.map Rz.bR)::L)→K (.bool (kc (mZ bz) i)) H'):cl 99 [.map (some mid),.int .i64 (i:Int)] H K:=by
 rw[aaM];have hmo:=tT h;have oe:=Nc h i
 have p4:kc (mZ bz) i=match oG i bz with|some z=>(match z.rs.map Rf.f with|[]=>false|f::l=>(f::l).all (sa (mZ bz) f.s.fr))|none=>false:=by
  unfold kc;rw[tV];cases oG i bz<;>rfl
 cases Ur:oG i bz with
 |none=>
  rw[Ur] at oe p4;rw[p4] at k;simp only[hmo,oe,AJ,reduceIte,Nat.reduceEqDiff];exact k H h
 |some z=>
  rw[Ur] at oe p4;obtain⟨b2,mv⟩:=tU Ur;have hz:=hbz _ mv;simp only[hmo,oe,AJ,reduceIte,Nat.reduceEqDiff];dsimp only at p4
  cases Qz:z.rs with
  |nil=>
   rw[Qz] at p4;rw[p4] at k;simp only[AJ,reduceIte,Nat.reduceEqDiff];exact k H h
  |cons r l=>
   have Yy:kc (mZ bz) i=(z.rs.map Rf.f).all (sa (mZ bz) r.f.s.fr):=by
    rw[p4,Qz];rfl
   obtain⟨Yx,hdz⟩:=tW (h.ord [1]) hz;obtain⟨s1,s2,s3⟩:=nY Yx (vk z.rs).oI (i:=0) (k:=6) (by rw[Qz];simp) (by decide)
   have Gf:H.cell (pb z.q) (po z.q+2+4)=.int .i64 ((r.f.s.fr:Int)-1):=by
    have:po z.q+0*List.length oE+6=po z.q+2+4:=by omega
    rw[this] at s3;rw[s3];simp only[Qz,List.map_cons,List.getElem_cons_zero];rfl
   have s2':H.inb (pb z.q) (po z.q+2+4) 1=true:=by
    have:po z.q+0*List.length oE+6=po z.q+2+4:=by omega
    rw[this] at s2;exact s2
   have a1:¬(((l.length+1:Nat)):Int)=0:=by omega
   have a2:0<(((l.length+1:Nat)):Int):=by omega
   simp only[List.length_cons,a1,a2,decide_false,decide_true,ai,s1,s2',Gf,AJ,reduceIte,Nat.reduceEqDiff];have hlen:z.rs.length=l.length+1:=by rw[Qz];rfl
   have:=QX (mid:=mid) (c:=c) (L:=L) (B:=B) (Kr:=fun S'=>ah (aG (KT.k .bool) (S'.1 4)) (K (V.bool (V.av (T.val (S'.1 4)))) S'.3)) (Ke:=fun j S'=>br (decide (j=0)) (K (V.bool true) S'.3) False) hbz hl (z:=z) hz r.f.s.fr (fun H' h' e=> ?_) (fun H' h' e=> ?_) z.rs.length 0 (Nat.zero_add _) (by simp) h
   ·rw[hlen] at this;exact this
   ·simp only[AJ,reduceIte,Nat.reduceEqDiff];rw[Yy,e] at k;exact k H' h'
   ·simp only[AJ,reduceIte,Nat.reduceEqDiff];rw[Yy,e] at k;exact k H' h'
end
abbrev Pl:=Oq
structure Pm where
 ct:List Pl
 nb:Nat
def uF (b:Nat):Pl→Bool
 |some x=>decide (x.1=b)
 |none=>false
def Pm.dH (m:Pm) (b:Nat):Nat:=m.ct.countP (uF b)
def Pm.gS (m:Pm):List Int:=(List.range m.nb).map fun b=>(m.dH b:Int)
structure Pm.ok (m:Pm):Prop where
 pl:∀b p,some (b,p)∈m.ct→b<m.nb∧p<32
 n:m.ct.length≤65536
 nb:m.nb≤64
def vm:Pl→List V
 |some x=>iS x.1 x.2
 |none=>iS 0 0
def wF (o:Pl):List V:=[.bool o.isSome]
structure Pq where
 q1:Oq
 c1:Nat
 q2:Oq
 c2:Nat
 q3:Oq
 c3:Nat
def F7 (m:Pm) (x:Pq):List V:=z5 x.q1 m.ct.length x.c1 x.q2 m.ct.length x.c2 x.q3 m.nb x.c3
def sE (id:Nat) (m:Pm):bV:=JW fun x:Pq=>bo [di id 175 (F7 m x),Rw 128 2 x.q1 x.c1 (m.ct.map vm),Rw 4 1 x.q2 x.c2 (m.ct.map wF),IR x.q3 x.c3 m.gS]
section
variable {B:ag} {L:List bV} {H:ag} {K:V→ag→Prop} {id:Nat} {m:Pm} {x:Pq}
abbrev A0 (B H:ag) (id:Nat) (m:Pm) (x:Pq) (L:List bV):Prop:=az B H (di id 175 (F7 m x)::Rw 128 2 x.q1 x.c1 (m.ct.map vm)::Rw 4 1 x.q2 x.c2 (m.ct.map wF)::IR x.q3 x.c3 m.gS::L)
theorem A0.of (h:az B H (sE id m::L)):∃x,A0 B H id m x L:=by
 obtain⟨x,h⟩:=h.S9;exact⟨x,h.J6⟩
theorem A0.to (h:A0 B H id m x L):az B H (sE id m::L):=by
 have h2:az B H (bo [di id 175 (F7 m x),Rw 128 2 x.q1 x.c1 (m.ct.map vm),Rw 4 1 x.q2 x.c2 (m.ct.map wF),IR x.q3 x.c3 m.gS]::L):=az.rX h;exact az.intro h2
theorem CZ (l:List Pl):Pr GQ (l.map vm):=by
 intro c hc;obtain⟨r,_,rfl⟩:=List.mem_map.1 hc;cases r<;>rfl
theorem E0 (l:List Pl):Pr [.bool] (l.map wF):=by
 intro c hc;obtain⟨r,_,rfl⟩:=List.mem_map.1 hc;rfl
@[simp] theorem pO (m:Pm):m.gS.length=m.nb:=by simp [Pm.gS]
structure PmG (H:ag) (id:Nat) (m:Pm) (x:Pq):Prop where
 i0:H.inb id 0 1=true
 i1:H.inb id 1 1=true
 i2:H.inb id 2 1=true
 c0:H.cell id 0=.slice x.q1 m.ct.length x.c1
 c1:H.cell id 1=.slice x.q2 m.ct.length x.c2
 c2:H.cell id 2=.slice x.q3 m.nb x.c3
 a0:∀(a:Nat) (ha:a<m.ct.length),x.q1.isSome=true∧H.inb (pb x.q1) (po x.q1+a*2) 2=true∧H.sub (pb x.q1) (po x.q1+a*2) 2=vm (m.ct[a])∧
  H.inb (pb x.q1) (po x.q1+a*2) 1=true∧H.cell (pb x.q1) (po x.q1+a*2)=ae (vm (m.ct[a])) 0
 a1:∀(a:Nat) (ha:a<m.ct.length),x.q2.isSome=true∧H.inb (pb x.q2) (po x.q2+a*1) 1=true∧H.cell (pb x.q2) (po x.q2+a*1)=.bool (m.ct[a]).isSome
 a2:∀(b:Nat) (hb:b<m.nb),x.q3.isSome=true∧H.inb (pb x.q3) (po x.q3+b*1) 1=true∧H.cell (pb x.q3) (po x.q3+b*1)=.int .i64 (m.dH b:Int)
theorem Tt (h:A0 B H id m x L):PmG H id m x:=by
 have hg:=h.get;have hl:(F7 m x).length=3:=rfl;have h1:=(h.ord [1]).wB;have h2:=(h.ord [2]).wB;have h3:=az.tG (h.ord [3]);refine⟨mU hg (by omega),mU hg (by omega),mU hg (by omega),aX hg 0,aX hg 1,aX hg 2,fun a ha=> ?_,fun a ha=> ?_,fun b hb=> ?_⟩
 ·have Zw:a<(m.ct.map vm).length:=by simpa using ha
  obtain⟨s1,s2,s3⟩:=nY h1 (CZ _).oI (i:=a) (k:=0) Zw (by decide);obtain⟨t1,t2,t3⟩:=yu h1 (CZ _).oI (by decide) Zw;refine⟨s1,t2, ?_,s2, ?_⟩
  ·have:=t3;rw[List.getElem_map] at this;exact this
  ·rw[List.getElem_map] at s3;exact s3
 ·have Zw:a<(m.ct.map wF).length:=by simpa using ha
  obtain⟨s1,s2,s3⟩:=nY h2 (E0 _).oI (i:=a) (k:=0) Zw (by decide);rw[List.getElem_map] at s3;exact⟨s1,s2,s3⟩
 ·obtain⟨s1,s2,s3⟩:=h3.at (i:=b) (by simpa using hb);refine⟨s1,s2, ?_⟩;rw[s3];simp [Pm.gS]
end
def Pm.put (m:Pm) (a:Nat) (o:Pl):Pm:={m with ct:=m.ct.set a o}
def Pm.new (n nb:Nat):Pm:=⟨List.replicate n none,nb⟩
theorem E1 {m m':Pm} (hn:m'.nb=m.nb) {b0:Nat} {v:Int} (h0:(m'.dH b0:Int)=v) (h:∀b,b≠b0→m'.dH b=m.dH b):m'.gS=m.gS.set b0 v:=by
 apply List.ext_getElem
 ·simp [hn]
 ·intro i h1 h2;rw[List.getElem_set];simp only[Pm.gS,List.getElem_map,List.getElem_range];by_cases hb:b0=i
  ·subst hb;rw[if_pos rfl];exact h0
  ·rw[if_neg hb,h i (fun e=>hb e.symm)]
theorem wS (m:Pm) {a:Nat} (ha:a<m.ct.length) (o:Pl) (b:Nat):(m.put a o).dH b+(if uF b m.ct[a]=true then 1 else 0)=m.dH b+(if uF b o=true then 1 else 0):=by
 unfold Pm.dH Pm.put;rw[List.countP_set ha];have:uF b m.ct[a]=true→0<m.ct.countP (uF b):=fun h=>List.countP_pos_iff.2 ⟨_,List.getElem_mem ha,h⟩
 split<;>rename_i h1
 ·have:=this h1;omega
 ·omega
theorem G5 (m:Pm) {a:Nat} (ha:a<m.ct.length) (h:m.ct[a]=none):m.put a none=m:=by
 unfold Pm.put;have:m.ct.set a none=m.ct:=by rw[←h];exact List.set_getElem_self ha
 rw[this]
theorem Kd (m:Pm) {a b p:Nat} (ha:a<m.ct.length) (h:m.ct[a]=some (b,p)):(m.put a none).gS=m.gS.set b ((m.dH b:Int)-1):=by
 refine E1 (m:=m) (m':=m.put a none) rfl ?_ (fun b' hb=> ?_)
 ·have:=wS m ha none b;rw[h] at this;simp [uF] at this;omega
 ·have:=wS m ha none b';rw[h] at this;have hb':¬b=b':=fun e=>hb e.symm
  simp [uF,hb'] at this;omega
theorem Nd (m:Pm) {a b p:Nat} (ha:a<m.ct.length) (h:m.ct[a]=none):(m.put a (some (b,p))).gS=m.gS.set b ((m.dH b:Int)+1):=by
 refine E1 (m:=m) (m':=m.put a (some (b,p))) rfl ?_ (fun b' hb=> ?_)
 ·have:=wS m ha (some (b,p)) b;rw[h] at this;simp [uF] at this;omega
 ·have:=wS m ha (some (b,p)) b';rw[h] at this;have hb':¬b=b':=fun e=>hb e.symm
  simp [uF,hb'] at this;omega
theorem Nf (m:Pm) (b:Nat):m.dH b≤m.ct.length:=List.countP_le_length
theorem Pm.ok.put {m:Pm} (h:m.ok) {a:Nat} {o:Pl} (ho:∀b p,o=some (b,p)→b<m.nb∧p<32):(m.put a o).ok:=by
 refine⟨fun b p hm=> ?_,by unfold Pm.put;rw[List.length_set];exact h.n,h.nb⟩;rcases List.mem_or_eq_of_mem_set hm with hm|hm
 ·exact h.pl b p hm
 ·exact ho b p hm.symm
section
variable {B:ag} {L:List bV} {H:ag} {K:V→ag→Prop} {id:Nat} {m:Pm} {x:Pq}
theorem az.QY {q:Oq} {c:Nat} {l:List Int} (h:az B H (IR q c l::L)) {i:Nat} (hi:i<l.length) (v:Int):H.wr (pb q) (po q+i*1) 1=true∧az B (H.store (pb q) (po q+i*1) [.int .i64 v]) (IR q c (l.set i v)::L):=by
 have hu:pH 1 (l.map fun i=>[V.int .i64 i]):=by
  intro c hc;obtain⟨r,_,rfl⟩:=List.mem_map.1 hc;exact⟨rfl,fun v hv=>by rw[List.mem_singleton] at hv;subst hv;rfl⟩
 have h1:=h.CQ hu (i:=i) (k:=0) (by simpa using hi) (by omega) (v:=.int .i64 v) rfl;refine⟨h1.1, ?_⟩;have h2:=h1.2;unfold IR;rw[List.map_set];rw[List.getElem_map] at h2;exact h2
theorem Ng {q:Oq} {c:Nat} {l:List Pl} (h:az B H (Rw 4 1 q c (l.map wF)::L)) {i:Nat} (hi:i<l.length) (o:Pl):H.wr (pb q) (po q+i*1) 1=true∧az B (H.store (pb q) (po q+i*1) [.bool o.isSome]) (Rw 4 1 q c ((l.set i o).map wF)::L):=by
 have h1:=h.CQ (E0 l).oI (i:=i) (k:=0) (by simpa using hi) (by decide) (v:=.bool o.isSome) rfl;refine⟨h1.1, ?_⟩;have h2:=h1.2;rw[List.map_set];rw[List.getElem_map] at h2;exact h2
theorem QZ {q:Oq} {c:Nat} {l:List Pl} (h:az B H (Rw 128 2 q c (l.map vm)::L)) {i:Nat} (hi:i<l.length) (o:Pl):H.wr (pb q) (po q+i*2) 2=true∧az B (H.store (pb q) (po q+i*2) (vm o)) (Rw 128 2 q c ((l.set i o).map vm)::L):=by
 have h1:=h.QT (CZ l).oI (i:=i) (by simpa using hi) (c:=vm o) (by cases o<;>rfl) (fun v hv=>by cases o<;>simp only[vm,iS,List.mem_cons,List.not_mem_nil,or_false] at hv<;>rcases hv with rfl|rfl<;>rfl);refine⟨h1.1, ?_⟩;have h2:=h1.2;rw[List.map_set];exact h2
theorem A0.aa5 (h:A0 B H id m x L) {a:Nat} (ha:a<m.ct.length) (o:Pl):H.wr (pb x.q1) (po x.q1+a*2) 2=true∧(H.store (pb x.q1) (po x.q1+a*2) (vm o)).wr (pb x.q2) (po x.q2+a*1) 1=true∧az B ((H.store (pb x.q1) (po x.q1+a*2) (vm o)).store (pb x.q2) (po x.q2+a*1) [.bool o.isSome]) (di id 175 (F7 m x)::Rw 128 2 x.q1 x.c1 ((m.put a o).ct.map vm)::Rw 4 1 x.q2 x.c2 ((m.put a o).ct.map wF)::IR x.q3 x.c3 m.gS::L):=by
 obtain⟨w1,h1⟩:=QZ (h.ord [1]) ha o;obtain⟨w2,h2⟩:=Ng (h1.ord [2]) ha o;exact⟨w1,w2,h2.ord [2,1]⟩
theorem Nh (h:az B H (sE id m::L)) {a:Nat} (ha:a<m.ct.length):¬(a:Int)<0∧0≤(a:Int)∧¬(a:Int)≥(m.ct.length:Int)∧(a:Int)<(m.ct.length:Int):=by
 refine⟨?_, ?_, ?_, ?_⟩<;>omega
theorem Ni (h:az B H (sE id m::L)) (hok:m.ok) {a:Nat} (ha:a<m.ct.length) (k:∀H',az B H' (sE id (m.put a none)::L)→K (.int .i64 0) H'):cl 124 [.ak (some (id,0)),.int .i64 (a:Int)] H K:=by
 obtain⟨n1,n2,n3,n4⟩:=Nh h ha;obtain⟨x,hx⟩:=A0.of h;have g:=Tt hx;obtain⟨s1,i1,c1⟩:=g.a1 a ha;obtain⟨s0,_,_,i0,c0⟩:=g.a0 a ha;rw[WT];simp only[AJ,reduceIte,Nat.reduceEqDiff,Option.isNone_some,Option.isSome_some,aO,ite_self,n1,n2,n3,n4,g.i0,g.i1,g.i2,g.c0,g.c1,g.c2,Nat.zero_add,Int.toNat_natCast,s1,i1,c1,cond_true]
 have fin:∀{H1:ag},az B H1 (di id 175 (F7 m x)::Rw 128 2 x.q1 x.c1 (m.ct.map vm)::Rw 4 1 x.q2 x.c2 (m.ct.map wF)::IR x.q3 x.c3 (m.put a none).gS::L)→
  H1.inb id 0 1=true∧H1.inb id 1 1=true∧H1.cell id 0=.slice x.q1 m.ct.length x.c1∧H1.cell id 1=.slice x.q2 m.ct.length x.c2∧H1.wr (pb x.q1) (po x.q1+a*2) 2=true∧
  (H1.store (pb x.q1) (po x.q1+a*2) (iS 0 0)).wr (pb x.q2) (po x.q2+a*1) 1=true∧
  K (.int .i64 0) ((H1.store (pb x.q1) (po x.q1+a*2) (iS 0 0)).store (pb x.q2) (po x.q2+a*1) [.bool false]):=by
  intro H1 h1;have hg:=h1.get;have hl:(F7 m x).length=3:=rfl;obtain⟨w1,h2⟩:=QZ (h1.ord [1]) ha none;obtain⟨w2,h3⟩:=Ng (h2.ord [2]) ha none;have h4:=h3.ord [2,1];refine⟨mU hg (by omega),mU hg (by omega),aX hg 0,aX hg 1,w1,w2,k _ (A0.to (x:=x) ?_)⟩;have e:F7 (m.put a none) x=F7 m x:=by unfold F7 Pm.put;simp only[List.length_set]
  unfold A0;rw[e];exact h4
 cases ho:m.ct[a] with
 |none=>
  rw[ho] at c1;have e:(m.put a none).gS=m.gS:=by rw[G5 m ha ho]
  obtain⟨_,_,_,_,w1,w2,kk⟩:=fin (by rw[e];exact hx);simp only[Option.isSome_none,ai,s0,w1,w2,aA];exact kk
 |some o=>
  obtain⟨b,p⟩:=o;have hbp:=hok.pl b p (by rw[←ho];exact List.getElem_mem ha);obtain⟨s2,i2,c2⟩:=g.a2 b hbp.1;rw[ho] at c0;have hc0:H.cell (pb x.q1) (po x.q1+a*2)=.int .i64 (b:Int):=c0;have b1:0≤(b:Int):=by omega
  have b2:(b:Int)<(m.nb:Int):=by omega
  have hle:=Nf m b;have hn:=hok.n;obtain⟨w,h1⟩:=az.QY (hx.ord [3]) (i:=b) (by simpa using hbp.1) ((m.dH b:Int)-1);simp only[Option.isSome_some,aq,s0,i0,hc0,AJ,reduceIte,Nat.reduceEqDiff,b1,b2,s2,i2,c2,Int.toNat_natCast];rw[bn (by omega) (by omega)];obtain⟨j0,j1,d0,d1,w1,w2,kk⟩:=fin (by rw[Kd m ha ho];exact h1.ord [1,1,1]);simp only[w,j0,j1,d0,d1,n4,s0,s1,w1,w2,AJ,reduceIte,Nat.reduceEqDiff];exact kk
theorem IM (h:az B H (sE id m::L)) (hok:m.ok) {a b p:Nat} (ha:a<m.ct.length) (hb:b<m.nb) (hp:p<32) (k:∀H',az B H' (sE id (m.put a (some (b,p)))::L)→K (.int .i64 0) H'):cl 100 [.ak (some (id,0)),.int .i64 (a:Int),.agg (iS (b:Int) (p:Int))] H K:=by
 obtain⟨n1,n2,n3,n4⟩:=Nh h ha;obtain⟨x0,hx0⟩:=A0.of h;have g:=Tt hx0;rw[WG];have m1:¬(b:Int)<0:=by omega
 have m2:¬(b:Int)≥(m.nb:Int):=by omega
 have m3:¬(p:Int)<0:=by omega
 have m4:¬(p:Int)≥32:=by omega
 have m5:0≤(b:Int):=by omega
 have m6:(b:Int)<(m.nb:Int):=by omega
 simp only[AJ,reduceIte,Nat.reduceEqDiff,Option.isNone_some,Option.isSome_some,aO,ite_self,n1,n2,n3,n4,m1,m2,m3,m4,g.i0,g.i2,g.c0,g.c2,Nat.zero_add,Int.toNat_natCast,cond_true,if_true];refine Ni h hok ha (fun H1 h1=> ?_);obtain⟨x,hx⟩:=A0.of h1;have Li:a<(m.put a none).ct.length:=by unfold Pm.put;rw[List.length_set];exact ha
 have Uk:(m.put a none).ct.length=m.ct.length:=by unfold Pm.put;rw[List.length_set]
 have hnone:(m.put a none).ct[a]=none:=by unfold Pm.put;exact List.getElem_set_self Li
 have g1:=Tt hx;obtain⟨s1,_,_⟩:=g1.a1 a Li;obtain⟨s0,_⟩:=g1.a0 a Li;obtain⟨w1,w2,h2⟩:=hx.aa5 Li (some (b,p));have w1':H1.wr (pb x.q1) (po x.q1+a*2) 2=true:=w1;have w2':(H1.store (pb x.q1) (po x.q1+a*2) (iS (b:Int) (p:Int))).wr (pb x.q2) (po x.q2+a*1) 1=true:=w2;have Aj:az B ((H1.store (pb x.q1) (po x.q1+a*2) (iS (b:Int) (p:Int))).store (pb x.q2) (po x.q2+a*1) [.bool true]) _:=h2;have c0:=g1.c0;have c1:=g1.c1;rw[Uk] at c0 c1;simp only[AJ,reduceIte,Nat.reduceEqDiff,g1.i0,g1.i1,c0,c1,n2,n4,s0,s1,w1',w2'];generalize (ag.store _ _ _ _)=H2 at Aj⊢;have hg:=Aj.get;have hl:(F7 (m.put a none) x).length=3:=rfl;have j2:H2.inb id 2 1=true:=mU hg (by omega);have d2:H2.cell id 2=.slice x.q3 m.nb x.c3:=aX hg 2;obtain⟨s3,i3,c3⟩:=(az.tG (Aj.ord [3])).at (i:=b) (by rw[pO];exact hb);have ec:(m.put a none).gS[b]'(by rw[pO];exact hb)=((m.put a none).dH b:Int):=by simp [Pm.gS]
 rw[ec] at c3;have hle:=Nf (m.put a none) b;have hn:=hok.n;obtain⟨w3,h3⟩:=az.QY (Aj.ord [3]) (i:=b) (by rw[pO];exact hb) (((m.put a none).dH b:Int)+1);simp only[j2,d2,AJ,reduceIte,Nat.reduceEqDiff,m5,m6,s3,i3,c3];rw[bn (by omega) (by omega)];simp only[w3,aA];refine k _ (A0.to (x:=x) ?_);have ep:(m.put a none).put a (some (b,p))=m.put a (some (b,p)):=by unfold Pm.put;simp only[List.set_set]
 rw[←Nd (m.put a none) Li hnone (p:=p),ep] at h3;have e:F7 (m.put a (some (b,p))) x=F7 (m.put a none) x:=by unfold F7 Pm.put;simp only[List.length_set]
 unfold A0;rw[e];exact h3.ord [1,1,1]
theorem IN (h:az B H (sE id m::L)) {a:Nat} (ha:a<m.ct.length):cl 105 [.ak (some (id,0)),.int .i64 (a:Int)] H K=K (.tuple [.agg (vm m.ct[a]),.bool (m.ct[a]).isSome]) H:=by
 obtain⟨n1,n2,n3,n4⟩:=Nh h ha;obtain⟨x,hx⟩:=A0.of h;have g:=Tt hx;obtain⟨s1,i1,c1⟩:=g.a1 a ha;obtain⟨s0,i0,c0,_,_⟩:=g.a0 a ha;simp only[og,oh] at i1 c1;rw[WL];simp only[AJ,reduceIte,Nat.reduceEqDiff,Option.isNone_some,Option.isSome_some,aO,ite_self,n1,n2,n3,n4,g.i0,g.i1,g.c0,g.c1,Nat.zero_add,Int.toNat_natCast,s1,i1,c1,cond_true,if_true,s0,i0,c0]
 cases ho:m.ct[a] with
 |none=>simp only[Option.isSome_none,Bool.not_false,aq];rfl
 |some o=>obtain⟨b,p⟩:=o;simp only[Option.isSome_some,Bool.not_true,ai,vm,f127,AP,u5,u6,Bool.and_self,aA]
theorem m0 (h:az B H (sE id m::L)) {b:Nat} (hb:b<m.nb):cl 65 [.ak (some (id,0)),.int .i64 (b:Int)] H K=K (.int .i64 (m.dH b:Int)) H:=by
 obtain⟨x,hx⟩:=A0.of h;have g:=Tt hx;obtain⟨s2,i2,c2⟩:=g.a2 b hb;have m1:¬(b:Int)<0:=by omega
 have m2:¬(b:Int)≥(m.nb:Int):=by omega
 have m5:0≤(b:Int):=by omega
 have m6:(b:Int)<(m.nb:Int):=by omega
 rw[aav];simp only[AJ,reduceIte,Nat.reduceEqDiff,Option.isNone_some,Option.isSome_some,aO,ite_self,m1,m2,m5,m6,g.i2,g.c2,Nat.zero_add,Int.toNat_natCast,s2,i2,c2,cond_true,if_true]
end
def sb (f:Nat→Int):List V:=u9 (f 0) (f 1) (f 2) (f 3) (f 4) (f 5) (f 6) (f 7) (f 8) (f 9) (f 10) (f 11) (f 12) (f 13) (f 14) (f 15) (f 16) (f 17) (f 18) (f 19) (f 20) (f 21) (f 22) (f 23) (f 24) (f 25) (f 26) (f 27) (f 28) (f 29) (f 30) (f 31)
theorem Py (f:Nat→Int):sb f=(List.range 32).map fun k=>.int .i64 (f k):=rfl
theorem Nj (f:Nat→Int) {i:Nat} (hi:i<32):ae (sb f) i=.int .i64 (f i):=by
 rw[Py,ko];simp [List.getD_eq_getElem?_getD,List.getElem?_range,hi]
def C0 (f:Nat→Int) (n:Nat) (v:Int):Nat→Int:=fun k=>bif Nat.beq k n then v else f k
def DM (b:Nat):List Pl→Nat→(Nat→Int)→Nat→Int
 |[],_,f=>f
 |some x::l,i,f=>DM b l (i+1) (if x.1=b then C0 f x.2 ((i+1:Nat):Int) else f)
 |none::l,i,f=>DM b l (i+1) f
def Pm.by (m:Pm) (b:Nat):Nat→Int:=DM b m.ct 0 fun _=>0
def Lr (f:Nat→Int) (i:Nat):List Int:=((List.range 32).drop i).filterMap fun p=>if f p>0 then some (f p-1) else none
def Pm.on (m:Pm) (b:Nat):List Int:=if m.dH b=0 then [] else Lr (m.by b) 0
theorem PA (f:Nat→Int):Lr f 32=[]:=rfl
theorem Nk (f:Nat→Int) {i:Nat} (h:i<32):Lr f i=if f i>0 then (f i-1)::Lr f (i+1) else Lr f (i+1):=by
 unfold Lr;rw[List.drop_eq_getElem_cons (by simpa using h),List.filterMap_cons,List.getElem_range];by_cases hf:f i>0<;>simp [hf]
theorem qq (b:Nat):∀(l:List Pl) (i N:Nat) (f:Nat→Int),i+l.length≤N→(∀k,0≤f k∧f k≤N)→∀k,0≤DM b l i f k∧DM b l i f k≤N
 |[],i,N,f,h,hf,k=>hf k
 |none::l,i,N,f,h,hf,k=>qq b l (i+1) N f (by simp at h;omega) hf k
 |some x::l,i,N,f,h,hf,k=>by
  rw[DM];refine qq b l (i+1) N _ (by simp at h;omega) (fun k=> ?_) k;split
  ·unfold C0;have h':i+(l.length+1)≤N:=h;cases Nat.beq k x.2
   ·exact hf k
   ·simp only[cond_true];omega
  ·exact hf k
section
variable {B:ag} {L:List bV} {H:ag} {K:V→ag→Prop} {id:Nat} {m:Pm} {x:Pq}
theorem G6 (hx:A0 B H id m x L) (hok:m.ok) (b:Nat) {Kr:Am.St→Prop} {Ke:Nat→Am.St→Prop}:∀(k i:Nat) (f:Nat→Int),i+k=m.ct.length→Ke 0 (St.mk (ab [(5,T.lp 5 0)]) (ab [(5,aV.cells 177 (sb (DM b (m.ct.drop i) i f)))]) H)→lo 67 6 (St.mk (ab [(0,T.v (V.ak (some (id,0)))),(1,T.v (V.int .i64 (b:Int))),(5,T.lp 5 0),(40,T.v (V.slice x.q1 m.ct.length x.c1)),(41,T.v (V.int .i64 (m.ct.length:Int))),(42,T.v (V.int .i64 (i:Int)))]) (ab [(5,aV.cells 177 (sb f))]) H) Kr Ke
 |0,i,f,hi,hk=>by
  obtain rfl:i=m.ct.length:=by omega
  rw[List.drop_length] at hk;unfold sb;rw[CJ,decide_eq_false (by omega),ai];exact hk
 |k+1,i,f,hi,hk=>by
  have hlt:i<m.ct.length:=by omega
  have g:=Tt hx;obtain⟨s0,i0,c0,_⟩:=g.a0 i hlt;obtain⟨s1,i1,c1⟩:=g.a1 i hlt;have a1:(i:Int)<(m.ct.length:Int):=by omega
  have a2:0≤(i:Int):=by omega
  have hn:=hok.n;rw[List.drop_eq_getElem_cons hlt] at hk
  cases ho:m.ct[i] with
  |none=>
   rw[ho] at c0 c1;rw[ho,DM] at hk;have ih:=G6 hx hok b k (i+1) f (by omega) hk (Kr:=Kr);unfold sb at ih⊢;rw[CJ];simp only[AJ,reduceIte,Nat.reduceEqDiff,a1,a2,Int.toNat_natCast,s0,i0,c0,s1,i1,c1,g.i1,g.c1,Nat.zero_add,Option.isSome_some,Option.isSome_none,vm,f127,AP,u5,u6,Bool.false_and];rw[aJ (by omega)];exact ih
  |some o=>
   obtain⟨b',p⟩:=o;obtain⟨hb',hp⟩:=hok.pl b' p (by rw[←ho];exact List.getElem_mem hlt);rw[ho] at c0 c1;rw[ho,DM] at hk;have ih:=G6 hx hok b k (i+1) _ (by omega) hk (Kr:=Kr);by_cases Jt:b'=b
   ·subst Jt;rw[if_pos rfl] at ih;have p1:0≤(p:Int):=by omega
    have p2:(p:Int)<32:=by omega
    have p3:p*1+1≤32:=by omega
    unfold sb C0 at ih;unfold sb;rw[CJ];simp only[oM,BT,BU,Option.getD_some,dW,aq,ai,aA,ik,kU,reduceIte,reduceCtorEq,TV,mn,pr,tx,uZ,hY,fT,kW,pt,jj,eS,il,bK,cD,kX,jk,cv,bU,cw,eT,gP,tz,qo,dD,fU,List.length_cons,List.length_nil,Bool.and_true,Bool.true_and,Bool.or_false,Bool.false_or,Bool.and_self,decide_true,decide_false,Bool.not_true,Bool.not_false,lN,lO,Nat.reduceAdd,Nat.reduceEqDiff,Nat.reduceEqDiff, -lN,a1,a2,Int.toNat_natCast,s0,i0,c0,s1,i1,c1,g.i1,g.c1,Nat.zero_add,Option.isSome_some,vm,f127,AP,u5,u6,p1,p2,p3];rw[aJ (by omega)];simp only[Nat.mul_one];exact ih
   ·rw[if_neg Jt] at ih;have abu:¬(b':Int)=(b:Int):=by omega
    unfold sb at ih⊢;rw[CJ];simp only[AJ,reduceIte,Nat.reduceEqDiff,a1,a2,Int.toNat_natCast,s0,i0,c0,s1,i1,c1,g.i1,g.c1,Nat.zero_add,Option.isSome_some,vm,f127,AP,u5,u6,abu,Bool.and_false];rw[aJ (by omega)];exact ih
theorem G7 (f:Nat→Int) (hf:∀k,0≤f k∧f k≤65536) {Kr:Am.St→Prop} {Ke:Nat→Am.St→Prop}:∀(k i:Nat) (out:List Int) {q:Oq} {c:Nat} {H:ag},i+k=32→out.length≤i→az B H (IR q c out::L)→(∀q' c' H',az B H' (IR q' c' (out++Lr f i)::L)→Ke 2 (St.mk (ab [(8,T.v (V.slice q' (out++Lr f i).length c'))]) (ab []) H'))→lo 67 16 (St.mk (ab [(8,T.v (V.slice q out.length c)),(66,T.v (V.agg (sb f))),(67,T.v (V.int .i64 (i:Int)))]) (ab []) H) Kr Ke
 |0,i,out,q,c,H,hi,ho,h,hk=>by
  obtain rfl:i=32:=by omega
  have:=hk q c H;rw[PA,List.append_nil] at this;unfold sb;rw[Ib];exact this h
 |k+1,i,out,q,c,H,hi,ho,h,hk=>by
  have hlt:i<32:=by omega
  have a1:(i:Int)<32:=by omega
  have a2:0≤(i:Int):=by omega
  have a3:Nat.succ i≤32:=by omega
  have hn:=Nj f hlt;unfold sb at hn;have hs:=Nk f hlt;unfold sb;rw[Ib];simp only[AJ,reduceIte,Nat.reduceEqDiff,a1,a2,Int.toNat_natCast,Nat.mul_one,hn,a3];have Qp:=hf i;by_cases hp:f i>0
  ·rw[if_pos hp] at hs;rw[hs] at hk;simp only[hp,decide_true,aq];rw[bn (by omega) (by omega),aJ (by omega)];refine az.yx h (f i-1) (by omega) (fun q' c' H' h'=> ?_);refine G7 f hf k (i+1) (out++[f i-1]) (by omega) (by simp;omega) h' (fun q2 c2 H2 h2=> ?_);have:=hk q2 c2 H2;rw[List.append_cons] at this;exact this h2
  ·rw[if_neg hp] at hs;rw[hs] at hk;simp only[hp,decide_false,ai];rw[aJ (by omega)];exact G7 f hf k (i+1) out (by omega) (by omega) h hk
theorem Nl (h:az B H (sE id m::L)) (hok:m.ok) {b:Nat} (hb:b<m.nb) (k:∀q c H',az B H' (IR q c (m.on b)::sE id m::L)→K (.slice q (m.on b).length c) H'):cl 67 [.ak (some (id,0)),.int .i64 (b:Int)] H K:=by
 obtain⟨x,hx⟩:=A0.of h;have g:=Tt hx;obtain⟨s2,i2,c2⟩:=g.a2 b hb;have m1:¬(b:Int)<0:=by omega
 have m2:¬(b:Int)≥(m.nb:Int):=by omega
 have m5:0≤(b:Int):=by omega
 have m6:(b:Int)<(m.nb:Int):=by omega
 have i2':=i2;have c2':=c2;simp only[og,oh] at i2' c2';rw[aax];simp only[AJ,reduceIte,Nat.reduceEqDiff,Option.isNone_some,Option.isSome_some,aO,ite_self,m1,m2,m5,m6,g.i0,g.i2,g.c0,g.c2,Nat.zero_add,Int.toNat_natCast,s2,i2',c2',cond_true,if_true];unfold Pm.on at k;by_cases hc:m.dH b=0
 ·rw[if_pos hc] at k;have sy:(m.dH b:Int)=0:=by omega
  simp only[sy,decide_true,aq];exact k none 0 H (az.tH h)
 ·rw[if_neg hc] at k;have sy:¬(m.dH b:Int)=0:=by omega
  simp only[sy,decide_false,ai];refine G6 hx hok b m.ct.length 0 (fun _=>0) (by omega) ?_;rw[List.drop_zero];have Yz:aI Vv (sb (DM b m.ct 0 fun _=>0))=true:=rfl;simp only[AJ,reduceIte,Nat.reduceEqDiff,Yz];show lo _ _ (St.mk (ab [(8,T.v (V.slice none 0 0)),(66,T.v (V.agg (sb (m.by b)))),(67,T.v (V.int .i64 0))]) (ab []) H) _ _
  refine G7 (m.by b) (fun k=> ?_) 32 0 [] (by omega) (by simp) (az.tH h) (fun q' c' H' h'=> ?_)
  ·have hn:=hok.n;have:=qq b m.ct 0 m.ct.length (fun _=>0) (by omega) (fun k=>by omega) k;exact⟨this.1,Int.le_trans this.2 (by omega)⟩
  ·simp only[AJ,reduceIte,Nat.reduceEqDiff];exact k q' c' H' h'
end
theorem Q0 (l:List V):∀n:Nat,(List.replicate n l).flatten=ew n l
 |0=>rfl
 |n+1=>by
  rw[List.replicate_succ,List.flatten_cons,Q0 l n];rfl
section
variable {B:ag} {L:List bV} {H:ag} {K:V→ag→Prop} {id:Nat} {m:Pm} {x:Pq}
theorem az.G8 (h:az B H L) {el n:Nat} {c:List V} (hc:c.length=n) (h1:aY c) (N:Nat):az B (H.alloc (.cells el (ew N c) false)) (Rw el n (some (H.next,0)) N (List.replicate N c)::L):=by
 have hlen:(ew N c).length=N*n:=by rw[ew,fL,hc]
 unfold Rw;rw[Q0,List.length_replicate];exact(h.alloc _ _).unbuf hlen (gk h1 _) (by omega) (by rw[hlen];omega) (by rw[List.drop_zero,List.take_length])
theorem Nm (n nb:Nat):(Pm.new n nb).gS=List.replicate nb 0:=by
 apply List.ext_getElem
 ·simp [Pm.new]
 ·intro i h1 h2;simp [Pm.gS,Pm.dH,Pm.new,List.countP_replicate,uF]
theorem PB (h:az B H L) {n nb:Nat} (hn:1≤n∧n≤65536) (hb:1≤nb∧nb≤64) (k:∀id H',az B H' (sE id (Pm.new n nb)::L)→K (.tuple [.ak (some (id,0)),.int .i64 0]) H'):cl 97 [.int .i64 (n:Int),.int .i64 (nb:Int)] H K:=by
 rw[aaK];have b1:¬(n:Int)<1:=by omega
 have b2:¬(n:Int)>65536:=by omega
 have b3:¬(nb:Int)<1:=by omega
 have b4:¬(nb:Int)>64:=by omega
 have b5:0≤(n:Int):=by omega
 have b6:0≤(nb:Int):=by omega
 have b7:(n:Int)≤(n:Int):=by omega
 have b8:(nb:Int)≤(nb:Int):=by omega
 have b9:(n:Int)*17≤70368744177664:=by omega
 have b10:(n:Int)*2≤70368744177664:=by omega
 have b11:(nb:Int)*9≤70368744177664:=by omega
 simp only[AJ,reduceIte,Nat.reduceEqDiff,b1,b2,b3,b4,b5,b6,b7,b8,b9,b10,b11,cond_true,Int.toNat_natCast]
 have rA:∀{H:ag} {L:List bV},az B H L→az B (H.alloc (.cells 128 (ew n (iS 0 0)) false)) (Rw 128 2 (some (H.next,0)) n ((Pm.new n nb).ct.map vm)::L):=fun h=>by
  have e:(Pm.new n nb).ct.map vm=List.replicate n (iS 0 0):=by unfold Pm.new;rw[List.map_replicate];rfl
  rw[e];exact az.G8 h rfl (fun v hv=>by simp only[iS,List.mem_cons,List.not_mem_nil,or_false] at hv;rcases hv with rfl|rfl<;>rfl) n
 have rB:∀{H:ag} {L:List bV},az B H L→az B (H.alloc (.cells 4 (ew n [V.bool false]) false)) (Rw 4 1 (some (H.next,0)) n ((Pm.new n nb).ct.map wF)::L):=fun h=>by
  have e:(Pm.new n nb).ct.map wF=List.replicate n [V.bool false]:=by unfold Pm.new;rw[List.map_replicate];rfl
  rw[e];exact az.G8 h rfl (fun v hv=>by rw[List.mem_singleton] at hv;subst hv;rfl) n
 have rC:∀{H:ag} {L:List bV},az B H L→az B (H.alloc (.cells 3 (ew nb [V.int .i64 0]) false)) (IR (some (H.next,0)) nb (Pm.new n nb).gS::L):=fun h=>by
  rw[Nm];unfold IR;rw[List.map_replicate];exact az.G8 h rfl (fun v hv=>by rw[List.mem_singleton] at hv;subst hv;rfl) nb
 have fin:∀{H:ag} (q1 q2 q3:Oq),az B H (Rw 128 2 q1 n ((Pm.new n nb).ct.map vm)::Rw 4 1 q2 n ((Pm.new n nb).ct.map wF)::IR q3 nb (Pm.new n nb).gS::L)→
  K (.tuple [.ak (some (H.next,0)),.int .i64 0]) (H.alloc (.cells 175 (z5 q1 n n q2 n n q3 nb nb) false)):=by
  intro H q1 q2 q3 h;have h1:=h.alloc 175 (z5 q1 n n q2 n n q3 nb nb);refine k _ _ (A0.to (x:=⟨q1,n,q2,n,q3,nb⟩) ?_);have e:F7 (Pm.new n nb) ⟨q1,n,q2,n,q3,nb⟩=z5 q1 n n q2 n n q3 nb nb:=by unfold F7 Pm.new;simp only[List.length_replicate]
  unfold A0;rw[e];exact h1
 refine⟨⟨?_, ?_⟩,⟨?_, ?_⟩, ?_, ?_⟩
 ·exact fin _ _ _ ((rC (rB (rA h))).ord [2,1])
 ·exact fin _ _ _ ((rB (rC (rA h))).ord [2])
 ·exact fin _ _ _ ((rC (rA (rB h))).ord [1,1])
 ·exact fin _ _ _ ((rA (rC (rB h))).ord [0,1])
 ·exact fin _ _ _ ((rB (rA (rC h))).ord [1])
 ·exact fin _ _ _ (rA (rB (rC h)))
end
def m7:Nat→List Fd→Nat
 |m,[]=>m
 |m,f::l=>m7 (max m f.s.seq) l
def Ar.fd (a:Ar) (g:bW) (i:Nat):List Fd:=(a.bs.getD i fj).eu i g.cap
def wG (i:Nat):List (Nat×List Fd)→List (Nat×List Fd)
 |[]=>[]
 |x::l=>if x.1=i then l else x::wG i l
def zH:List Nat→List (Nat×List Fd)→List (Nat×List Fd)×List Nat
 |[],cB=>(cB,[])
 |i::us,cB=>if kc cB i=true then ((zH us (wG i cB)).1,i::(zH us (wG i cB)).2) else zH us cB
abbrev G9 (m:Gm):aV:=.cells 26 (cV m.g.aB m.g.ay m.g.aF m.q m.g.bB.length m.c)
abbrev sd (mp:Oq) (pg:Option Nat) (sq:Nat) (q:Oq) (n c:Nat):aV:=.cells 113 (cJ mp pg (sq:Int) q n c)
abbrev se:aV:=.cells 113 (cJ none none 0 none 0 0)
section
variable {B:ag} {L:List bV} {H:ag} {K:V→ag→Prop} {aK mid pid mpid:Nat} {a:Ar} {m:Gm}
theorem IP {q:Oq} {c:Nat} {rs:List Rf} (hr:Rd H q (rs.map Rf.cs).flatten) (hl:rs.length≤1000000) {uq:Oq} {un uc:Nat} {tn tj:Int} {Kr:Am.St→Prop} {Ke:Nat→Am.St→Prop}:∀(k i sq:Nat),i+k=rs.length→Ke 2 (St.mk (ab [(0,T.v (V.ak (some (aK,0)))),(3,T.lp 3 0),(4,T.lp 4 0),(6,T.v (V.ak (some (mpid,0)))),(8,T.lp 8 0),(9,T.v (V.map (some mid))),(61,T.v (V.slice uq un uc)),(62,T.v (V.int .i64 tn)),(63,T.v (V.int .i64 tj))]) (ab [(3,G9 m),(4,se),(8,sd (some (mpid,0)) (some pid) (m7 sq ((rs.drop i).map Rf.f)) none 0 0)]) H)→lo 59 21 (St.mk (ab [(0,T.v (V.ak (some (aK,0)))),(3,T.lp 3 0),(4,T.lp 4 0),(6,T.v (V.ak (some (mpid,0)))),(8,T.lp 8 0),(9,T.v (V.map (some mid))),(61,T.v (V.slice uq un uc)),(62,T.v (V.int .i64 tn)),(63,T.v (V.int .i64 tj)),(81,T.v (V.slice q rs.length c)),(82,T.v (V.int .i64 (rs.length:Int))),(83,T.v (V.int .i64 (i:Int)))]) (ab [(3,G9 m),(4,se),(8,sd (some (mpid,0)) (some pid) sq none 0 0)]) H) Kr Ke
 |0,i,sq,hi,hk=>by
  obtain rfl:i=rs.length:=by omega
  rw[List.drop_length] at hk;rw[Ia,decide_eq_false (by omega),ai];exact hk
 |k+1,i,sq,hi,hk=>by
  have hlt:i<rs.length:=by omega
  obtain⟨s1,s2,s3⟩:=yu hr (vk rs).oI (by decide) (i:=i) (by simpa using hlt);have s2':H.inb (pb q) (po q+i*8) 8=true:=s2
  have Gf:H.sub (pb q) (po q+i*8) 8=(rs[i]).cs:=by
   rw[List.getElem_map] at s3;exact s3
  have a1:(i:Int)<(rs.length:Int):=by omega
  have a2:0≤(i:Int):=by omega
  have hfit:aI oE (rs[i]).cs=true:=rfl;have hn4:ae (rs[i]).cs 4=.int .u64 ((rs[i]).f.s.seq:Int):=rfl
  have em:(bif decide (((rs[i]).f.s.seq:Int)>(sq:Int)) then ((rs[i]).f.s.seq:Int) else (sq:Int))=((max sq (rs[i]).f.s.seq:Nat):Int):=by
   by_cases h:((rs[i]).f.s.seq:Int)>(sq:Int)
   ·simp only[h,decide_true,cond_true];omega
   ·simp only[h,decide_false,cond_false];omega
  rw[List.drop_eq_getElem_cons hlt,List.map_cons,m7] at hk;rw[Ia];simp only[AJ,reduceIte,Nat.reduceEqDiff,a1,a2,Int.toNat_natCast,s1,s2',Gf,hfit,hn4,em];rw[aJ (by omega)];exact IP hr hl k (i+1) (max sq (rs[i]).f.s.seq) (by omega) hk
theorem az.aa6 {zs:List Rz} {z:Rz} (h:az B H (Rw 130 8 z.q z.c (z.rs.map Rf.cs)::bo (z.rs.map Rf.bR)::bo (zs.map Rz.bR)::L)):az B H (bo ((zs++[z]).map Rz.bR)::L):=by
 have h2:az B H (z.bR::bo (zs.map Rz.bR)::L):=az.rX (l:=[Rw 130 8 z.q z.c (z.rs.map Rf.cs),bo (z.rs.map Rf.bR)]) h;refine h2.lW.bigPerm ?_;rw[List.map_append];exact List.perm_append_comm (l₁:=[z.bR]) (l₂:=zs.map Rz.bR)
theorem Kf {i:Nat} {bz:List (Rz×Nat)} (h:∀x∈bz,x.1.i≠i):oG i bz=none:=by
 induction bz with
 |nil=>rfl
 |cons x l ih=>
  rw[oG,if_neg (h x List.mem_cons_self)];exact ih fun y hy=>h y (List.mem_cons_of_mem _ hy)
theorem Tu (a:Ar) (g:bW) (i:Nat):(a.fd g i).length≤(a.bs.getD i fj).pg.length:=by
 unfold Ar.fd Bk.eu;split
 ·simp
 ·have key:∀(l:List (List UInt8)) (p:Nat),(hZ i g.cap l p).length≤l.length:=by
   intro l
   induction l with
   |nil=>intro p;simp [hZ]
   |cons d l ih=>
    intro p;rw[hZ];have:=ih (p+1);split
    ·simp;omega
    ·split<;>simp<;>omega
  exact key _ _
theorem IQ (hm:cY B L m) (hf:m.g.cN=true) (hg:m.g.In) (hr:a.rd m.g) (sD:a.ay≤32) (qG:∀i∈m.g.us,i<a.bs.length) (uC:m.g.us.Nodup) {uq:Oq} {uc:Nat} {Kr:Am.St→Prop} {Ke:Nat→Am.St→Prop} (hk:∀bz c H',mZ bz=(m.g.us.map fun i=>(i,a.fd m.g i))→wE (pN bz) c→(∀x∈bz,x.1.rs.length≤32)→
 az B H' (cO aK a::ir mid (pN bz) c::bo ((bz.map Prod.fst).map Rz.bR)::IR uq uc (cR m.g.us)::L)→
 Ke 0 (St.mk (ab [(3,T.lp 3 0),(4,T.lp 4 0),(6,T.v (V.ak (some (mpid,0)))),(8,T.lp 8 0),(9,T.v (V.map (some mid)))]) (ab [(3,G9 m),(4,se),(8,sd (some (mpid,0)) (some pid) (m7 0 (m.g.us.flatMap (a.fd m.g))) none 0 0)]) H')):∀(k j:Nat) (bz:List (Rz×Nat)) (c:Nat) {H:ag},j+k=m.g.us.length→
 mZ bz=((m.g.us.take j).map fun i=>(i,a.fd m.g i))→wE (pN bz) c→(∀x∈bz,x.1.rs.length≤32)→
 az B H (cO aK a::ir mid (pN bz) c::bo ((bz.map Prod.fst).map Rz.bR)::IR uq uc (cR m.g.us)::L)→
 lo 59 11
  (St.mk (ab [(0,T.v (V.ak (some (aK,0)))),(3,T.lp 3 0),(4,T.lp 4 0),(6,T.v (V.ak (some (mpid,0)))),(8,T.lp 8 0),(9,T.v (V.map (some mid))),(61,T.v (V.slice uq m.g.us.length uc)),(62,T.v (V.int .i64 (m.g.us.length:Int))),(63,T.v (V.int .i64 (j:Int)))])
   (ab [(3,G9 m),(4,se),(8,sd (some (mpid,0)) (some pid) (m7 0 ((m.g.us.take j).flatMap (a.fd m.g))) none 0 0)]) H) Kr Ke
 |0,j,bz,c,H,hj,hbz,hb,hl,h=>by
  obtain rfl:j=m.g.us.length:=by omega
  rw[List.take_length] at hbz⊢;rw[HZ,decide_eq_false (by omega),ai];exact hk bz c H hbz hb hl h
 |k+1,j,bz,c,H,hj,hbz,hb,hl,h=>by
  have hlt:j<m.g.us.length:=by omega
  have Jx:=bW.jX m.g hg.b.2;obtain⟨s1,s2,s3⟩:=(az.tG (h.ord [3])).at (i:=j) (by simpa using hlt);have e1:(cR m.g.us)[j]'(by simpa using hlt)=((m.g.us[j]:Nat):Int):=by simp [cR]
  rw[e1] at s3;have a1:(j:Int)<(m.g.us.length:Int):=by omega
  have a2:0≤(j:Int):=by omega
  have hmem:=List.getElem_mem hlt;have hi:=qG _ hmem;rw[HZ];simp only[AJ,reduceIte,Nat.reduceEqDiff,a1,a2,Int.toNat_natCast,s1,s2,s3];have hm':cY B (ir mid (pN bz) c::bo ((bz.map Prod.fst).map Rz.bR)::IR uq uc (cR m.g.us)::L) m:=((hm.bg _).bg _).bg _;refine M4 h hm' hf hg hr sD hmem hi (fun q c2 rs H1 Qz h1=> ?_)
  have Gb:rs.map Rf.f=a.fd m.g m.g.us[j]:=by
   rw[Qz];unfold Ar.fd;rw[List.getD_eq_getElem?_getD,List.getElem?_eq_getElem hi];rfl
  have hrl:rs.length≤32:=by
   have h1:=congrArg List.length Gb;rw[List.length_map] at h1;have h2:=Tu a m.g m.g.us[j];rw[List.getD_eq_getElem?_getD,List.getElem?_eq_getElem hi] at h2;have h3:=hr.len _ (List.getElem_mem hi);simp only[Option.getD_some] at h2;omega
  have hmo:=tT (h1.ord [3]);have gi:=(h1.ord [3]).IK (m.g.us[j]:Int) (.slice q rs.length c2)
  have hnew:oG m.g.us[j] bz=none:=by
   refine Kf fun x hx e=> ?_
   have:(x.1.i,x.1.rs.map Rf.f)∈mZ bz:=List.mem_map.2 ⟨x,hx,rfl⟩;rw[hbz] at this;obtain⟨y,hy,he⟩:=List.mem_map.1 this;have hxy:y=m.g.us[j]:=by have:=congrArg Prod.fst he;simp only at this;omega
   rw[hxy] at hy;obtain⟨t,ht,het⟩:=List.mem_iff_getElem.1 hy;rw[List.length_take] at ht;rw[List.getElem_take] at het;exact List.pairwise_iff_getElem.1 uC t j (by omega) hlt (by omega) het
  have DH:qJ (m.g.us[j]:Int) (.slice q rs.length c2) (pN bz) c=(pN (bz++[(⟨m.g.us[j],q,c2,rs⟩,c)]),c+1):=by
   unfold qJ;rw[CY,hnew];simp [pN]
  have mv:=hb.Zh (m.g.us[j]:Int) (.slice q rs.length c2);rw[DH] at gi mv;simp only[AJ,reduceIte,Nat.reduceEqDiff,hmo,Option.isSome_some];generalize gZ H1 _ _ _ _=H2 at gi⊢;have h2:az B H2 (Rw 130 8 q c2 (rs.map Rf.cs)::bo (rs.map Rf.bR)::bo ((bz.map Prod.fst).map Rz.bR)::cO aK a::ir mid (pN (bz++[(⟨m.g.us[j],q,c2,rs⟩,c)])) (c+1)::IR uq uc (cR m.g.us)::L):=gi.ord [1,1,2,1];refine IP (h2.wB) (by omega) rs.length 0 _ (by omega) ?_;simp only[AJ,reduceIte,Nat.reduceEqDiff,f25,tC,lP,lQ,lR,lS,f112,vX,pA,pB,pC,pD];rw[aJ (by omega)];have h3:=az.aa6 (z:=⟨m.g.us[j],q,c2,rs⟩) h2
  have e3:m7 (m7 0 ((m.g.us.take j).flatMap (a.fd m.g))) ((rs.drop 0).map Rf.f)=m7 0 ((m.g.us.take (j+1)).flatMap (a.fd m.g)):=by
   rw[List.drop_zero,Gb,List.take_succ_eq_append_getElem hlt,List.flatMap_append]
   have app:∀(l l':List Fd) (n:Nat),m7 n (l++l')=m7 (m7 n l) l':=by
    intro l
    induction l with
    |nil=>intro l' n;rfl
    |cons x l ih=>intro l' n;rw[List.cons_append,m7,m7,ih]
   rw[app];simp
  rw[e3];refine IQ hm hf hg hr sD qG uC hk k (j+1) _ (c+1) (by omega) ?_ mv ?_ ?_
  ·have:mZ (bz++[(⟨m.g.us[j],q,c2,rs⟩,c)])=mZ bz++[(m.g.us[j],rs.map Rf.f)]:=by simp [mZ]
   rw[this,hbz,Gb,List.take_succ_eq_append_getElem hlt,List.map_append];rfl
  ·intro x hx;rcases List.mem_append.1 hx with hx|hx
   ·exact hl x hx
   ·rw[List.mem_singleton] at hx;subst hx;exact hrl
  ·have e4:(bz++[(Rz.mk m.g.us[j] q c2 rs,c)]).map Prod.fst=bz.map Prod.fst++[Rz.mk m.g.us[j] q c2 rs]:=by simp
   rw[e4];exact h3.ord [1,1]
def E2 (i:Nat):List (Rz×Nat)→List (Rz×Nat)
 |[]=>[]
 |x::l=>if x.1.i=i then l else x::E2 i l
theorem yF (i:Nat):∀bz:List (Rz×Nat),CV (i:Int) (pN bz)=pN (E2 i bz)
 |[]=>rfl
 |x::l=>by
  show (if (x.1.i:Int)=(i:Int) then pN l else _::CV (i:Int) (pN l))=_
  rw[yF i l,E2];by_cases h:x.1.i=i
  ·have:(x.1.i:Int)=(i:Int):=by omega
   rw[if_pos this,if_pos h]
  ·have:¬(x.1.i:Int)=(i:Int):=by omega
   rw[if_neg this,if_neg h];rfl
theorem E3 (i:Nat):∀bz:List (Rz×Nat),wG i (mZ bz)=mZ (E2 i bz)
 |[]=>rfl
 |x::l=>by
  show (if x.1.i=i then mZ l else _::wG i (mZ l))=_
  rw[E3 i l,E2];split<;>rfl
theorem E4 {i:Nat} {x:Rz×Nat}:∀{bz:List (Rz×Nat)},x∈E2 i bz→x∈bz
 |y::l,h=>by
  rw[E2] at h;split at h
  ·exact List.mem_cons_of_mem _ h
  ·rcases List.mem_cons.1 h with rfl|h
   ·exact List.mem_cons_self
   ·exact List.mem_cons_of_mem _ (E4 h)
theorem C1 {zs:List Rz} (hzl:∀z∈zs,z.rs.length≤1000000) {uq:Oq} {uc:Nat} {sq:Nat} (Jx:m.g.us.length≤62) {Kr:Am.St→Prop} {Ke:Nat→Am.St→Prop}:∀(k j:Nat) (bz:List (Rz×Nat)) (c:Nat) (sp:List Nat) {q:Oq} {sc:Nat} {H:ag},j+k=m.g.us.length→sp.length≤j→wE (pN bz) c→(∀x∈bz,x.1∈zs)→(∀Va c' q' sc' H',mZ Va=(zH (m.g.us.drop j) (mZ bz)).1→wE (pN Va) c'→(∀x∈Va,x.1∈zs)→
 az B H' (ir mid (pN Va) c'::bo (zs.map Rz.bR)::IR q' sc' (cR (sp++(zH (m.g.us.drop j) (mZ bz)).2))::IR uq uc (cR m.g.us)::L)→
 Ke 4 (St.mk (ab [(3,T.lp 3 0),(4,T.lp 4 0),(6,T.v (V.ak (some (mpid,0)))),(8,T.lp 8 0),(9,T.v (V.map (some mid)))])
  (ab [(3,G9 m),(4,se),(8,sd (some (mpid,0)) (some pid) sq q' (sp++(zH (m.g.us.drop j) (mZ bz)).2).length sc')]) H'))→
 az B H (ir mid (pN bz) c::bo (zs.map Rz.bR)::IR q sc (cR sp)::IR uq uc (cR m.g.us)::L)→
 lo 59 29
  (St.mk (ab [(3,T.lp 3 0),(4,T.lp 4 0),(6,T.v (V.ak (some (mpid,0)))),(8,T.lp 8 0),(9,T.v (V.map (some mid))),(97,T.v (V.slice uq m.g.us.length uc)),(98,T.v (V.int .i64 (m.g.us.length:Int))),(99,T.v (V.int .i64 (j:Int)))])
   (ab [(3,G9 m),(4,se),(8,sd (some (mpid,0)) (some pid) sq q sp.length sc)]) H) Kr Ke
 |0,j,bz,c,sp,q,sc,H,hj,hsp,hb,hbz,hk,h=>by
  obtain rfl:j=m.g.us.length:=by omega
  rw[HY,decide_eq_false (by omega),ai];have:=hk bz c q sc H;simp only[List.drop_length,zH,List.append_nil] at this;exact this trivial hb hbz h
 |k+1,j,bz,c,sp,q,sc,H,hj,hsp,hb,hbz,hk,h=>by
  have hlt:j<m.g.us.length:=by omega
  obtain⟨s1,s2,s3⟩:=(az.tG (h.ord [3])).at (i:=j) (by simpa using hlt);have e1:(cR m.g.us)[j]'(by simpa using hlt)=((m.g.us[j]:Nat):Int):=by simp [cR]
  rw[e1] at s3;have a1:(j:Int)<(m.g.us.length:Int):=by omega
  have a2:0≤(j:Int):=by omega
  rw[List.drop_eq_getElem_cons hlt,zH] at hk;rw[HY];simp only[AJ,reduceIte,Nat.reduceEqDiff,a1,a2,Int.toNat_natCast,s1,s2,s3];rw[aJ (by omega)];refine Kc h hbz hzl m.g.us[j] (fun H1 h1=> ?_);simp only[AJ,reduceIte,Nat.reduceEqDiff];by_cases hc:kc (mZ bz) m.g.us[j]=true
  ·simp only[hc,if_true] at hk;simp only[hc,aq]
   have hp:=az.yx (h1.ord [2]) (m.g.us[j]:Int) (e2:=3) (by simp;omega) (K:=fun q n c H'=>ah (dR H' .i64 (some mid)) (lo 59 29
    (St.mk (ab [(3,T.lp 3 0),(4,T.lp 4 0),(6,T.v (V.ak (some (mpid,0)))),(8,T.lp 8 0),(9,T.v (V.map (some mid))),(97,T.v (V.slice uq m.g.us.length uc)),(98,T.v (V.int .i64 (m.g.us.length:Int))),(99,T.v (V.int .i64 ((j+1:Nat):Int)))])
    (ab [(3,G9 m),(4,se),(8,sd (some (mpid,0)) (some pid) sq q n c)]) (oL H' (some mid) (m.g.us[j]:Int))) Kr Ke)) (fun q' c' H2 h2=> ?_)
   ·rw[gu] at hp;exact hp
   ·have hmo:=tT (h2.ord [1]);have DE:=(h2.ord [1]).XL (m.g.us[j]:Int);rw[yF] at DE;have mv:=hb.DL (m.g.us[j]:Int);rw[yF] at mv;simp only[hmo,aA];have e5:cR sp++[(m.g.us[j]:Int)]=cR (sp++[m.g.us[j]]):=by simp [cR]
    rw[e5] at DE⊢;rw[gu];refine C1 hzl Jx k (j+1) (E2 m.g.us[j] bz) c (sp++[m.g.us[j]]) (by omega) (by simp;omega) mv (fun x hx=>hbz x (E4 hx)) (fun Va c2 q2 sc2 H3 e3 DQ hz3 h3=> ?_) (DE.ord [0,1]);rw[←E3] at e3 h3⊢;rw[List.append_assoc] at h3⊢;exact hk Va c2 q2 sc2 H3 e3 DQ hz3 h3
  ·have sy:kc (mZ bz) m.g.us[j]=false:=by simpa using hc
   simp only[sy,Bool.false_eq_true,if_false] at hk;simp only[sy,ai];exact C1 hzl Jx k (j+1) bz c sp (by omega) (by omega) hb hbz hk h1
end
def rf (f:Fd):List Fd→List Fd
 |[]=>[f]
 |o::l=>if o.s.an=f.s.an then (if o.s.seq<f.s.seq then f::l else o::l) else o::rf f l
def tX:List Fd→List Fd→List Fd
 |pg,[]=>pg
 |pg,f::l=>tX (rf f pg) l
def jq (a:Nat):List Fd→Option Fd
 |[]=>none
 |f::l=>if f.s.an=a then some f else jq a l
def k8 (pz:List (Rf×Nat)):List En:=pz.map fun x=>⟨(x.1.f.s.an:Int),.agg x.1.cs,x.2⟩
def lD (a:Nat):List (Rf×Nat)→Option (Rf×Nat)
 |[]=>none
 |x::l=>if x.1.f.s.an=a then some x else lD a l
def ri (r:Rf):List (Rf×Nat)→List (Rf×Nat)
 |[]=>[]
 |x::l=>if x.1.f.s.an=r.f.s.an then (r,x.2)::l else x::ri r l
theorem tY (a:Nat):∀pz:List (Rf×Nat),F6 (a:Int) (k8 pz)=(lD a pz).map fun x:Rf×Nat=>V.agg x.1.cs
 |[]=>rfl
 |x::l=>by
  show (if (x.1.f.s.an:Int)=(a:Int) then some _ else F6 (a:Int) (k8 l))=_
  rw[lD,tY a l];by_cases h:x.1.f.s.an=a
  ·have:(x.1.f.s.an:Int)=(a:Int):=by omega
   rw[if_pos this,if_pos h];rfl
  ·have:¬(x.1.f.s.an:Int)=(a:Int):=by omega
   rw[if_neg this,if_neg h]
theorem E5 (r:Rf):∀pz:List (Rf×Nat),Aa (r.f.s.an:Int) (.agg r.cs) (k8 pz)=k8 (ri r pz)
 |[]=>rfl
 |x::l=>by
  show (if (x.1.f.s.an:Int)=(r.f.s.an:Int) then _::k8 l else _::Aa (r.f.s.an:Int) (.agg r.cs) (k8 l))=_
  rw[E5 r l,ri];by_cases h:x.1.f.s.an=r.f.s.an
  ·have:(x.1.f.s.an:Int)=(r.f.s.an:Int):=by omega
   rw[if_pos this,if_pos h];show (⟨(x.1.f.s.an:Int),_,_⟩:En)::_=⟨(r.f.s.an:Int),_,_⟩::_
   rw[h];rfl
  ·have:¬(x.1.f.s.an:Int)=(r.f.s.an:Int):=by omega
   rw[if_neg this,if_neg h];rfl
def wU (pz:List (Rf×Nat)):List Fd:=pz.map fun x=>x.1.f
theorem m8 {a:Nat} {x:Rf×Nat}:∀{pz:List (Rf×Nat)},lD a pz=some x→x∈pz∧x.1.f.s.an=a
 |y::l,h=>by
  rw[lD] at h;split at h
  ·rename_i e;cases h;exact⟨List.mem_cons_self,e⟩
  ·obtain⟨h1,h2⟩:=m8 h;exact⟨List.mem_cons_of_mem _ h1,h2⟩
theorem A7 {a:Nat}:∀{pz:List (Rf×Nat)},lD a pz=none→∀x∈pz,x.1.f.s.an≠a
 |y::l,h,x,hx=>by
  rw[lD] at h;split at h
  ·cases h
  ·rename_i e;rcases List.mem_cons.1 hx with rfl|hx
   ·exact e
   ·exact A7 h x hx
theorem A8 {r:Rf} {c:Nat}:∀{pz:List (Rf×Nat)},lD r.f.s.an pz=none→rf r.f (wU pz)=wU (pz++[(r,c)])
 |[],_=>rfl
 |y::l,h=>by
  rw[lD] at h;split at h
  ·cases h
  ·rename_i e;show (if y.1.f.s.an=r.f.s.an then _ else y.1.f::rf r.f (wU l))=_
   rw[if_neg e,A8 h];rfl
theorem A9 {r:Rf} {x:Rf×Nat}:∀{pz:List (Rf×Nat)},lD r.f.s.an pz=some x→rf r.f (wU pz)=if x.1.f.s.seq<r.f.s.seq then wU (ri r pz) else wU pz
 |y::l,h=>by
  rw[lD] at h;show (if y.1.f.s.an=r.f.s.an then (if y.1.f.s.seq<r.f.s.seq then r.f::wU l else y.1.f::wU l) else y.1.f::rf r.f (wU l))=_
  rw[ri];split at h
  ·rename_i e;cases h;rw[if_pos e,if_pos e];rfl
  ·rename_i e;rw[if_neg e,if_neg e,A9 h];split<;>rfl
theorem yG (r:Rf):∀pz:List (Rf×Nat),(ri r pz).map (fun x=>x.1.f.s.an)=pz.map fun x=>x.1.f.s.an
 |[]=>rfl
 |y::l=>by
  rw[ri];split
  ·rename_i e;rw[List.map_cons,List.map_cons,e]
  ·rw[List.map_cons,yG r l,List.map_cons]
theorem Ba {r:Rf} {x:Rf×Nat}:∀{pz:List (Rf×Nat)},x∈ri r pz→x∈pz∨x.1=r
 |y::l,h=>by
  rw[ri] at h;split at h
  ·rcases List.mem_cons.1 h with rfl|h
   ·exact .inr rfl
   ·exact .inl (List.mem_cons_of_mem _ h)
  ·rcases List.mem_cons.1 h with rfl|h
   ·exact .inl List.mem_cons_self
   ·exact(Ba h).imp (List.mem_cons_of_mem _) id
structure Ab (g:bW) (pz:List (Rf×Nat)):Prop where
 nd:(pz.map fun x=>x.1.f.s.an).Nodup
 b:∀x∈pz,(x.1.f.s.an:Int)≤g.cap∧(x.1.f.b:Int)<g.aB∧x.1.f.p<32
abbrev Kg (g:bW) (f:Fd):Prop:=(f.s.an:Int)≤g.cap∧(f.b:Int)<g.aB∧f.p<32
section
variable {B:ag} {L:List bV} {H:ag} {K:V→ag→Prop} {aK mid pid mpid:Nat} {a:Ar} {m:Gm}
theorem wV {P0:List Fd} {zs:List Rz} {z:Rz} (hz:z∈zs) (hzl:z.rs.length≤1000000) (hin:∀r∈z.rs,Kg m.g r.f) {sq:Nat} {uq spq:Oq} {un uc spn spc:Nat} {tn tj:Int} {Kr:Am.St→Prop} {Ke:Nat→Am.St→Prop} (hk:∀pz c H',wU pz=tX P0 (z.rs.map Rf.f)→wE (k8 pz) c→Ab m.g pz→az B H' (ir pid (k8 pz) c::bo (zs.map Rz.bR)::L)→Ke 8 (St.mk (ab [(4,T.lp 4 0),(6,T.v (V.ak (some (mpid,0)))),(8,T.lp 8 0),(9,T.v (V.map (some mid))),(116,T.v (V.slice uq un uc)),(117,T.v (V.int .i64 tn)),(118,T.v (V.int .i64 tj))]) (ab [(4,se),(8,sd (some (mpid,0)) (some pid) sq spq spn spc)]) H')):∀(k i:Nat) (pz:List (Rf×Nat)) (c:Nat) {H:ag},i+k=z.rs.length→tX (wU pz) ((z.rs.drop i).map Rf.f)=tX P0 (z.rs.map Rf.f)→wE (k8 pz) c→Ab m.g pz→az B H (ir pid (k8 pz) c::bo (zs.map Rz.bR)::L)→lo 59 44 (St.mk (ab [(4,T.lp 4 0),(6,T.v (V.ak (some (mpid,0)))),(8,T.lp 8 0),(9,T.v (V.map (some mid))),(116,T.v (V.slice uq un uc)),(117,T.v (V.int .i64 tn)),(118,T.v (V.int .i64 tj)),(124,T.v (V.slice z.q z.rs.length z.c)),(125,T.v (V.int .i64 (z.rs.length:Int))),(126,T.v (V.int .i64 (i:Int)))]) (ab [(4,se),(8,sd (some (mpid,0)) (some pid) sq spq spn spc)]) H) Kr Ke
 |0,i,pz,c,H,hi,he,hb,hok,h=>by
  obtain rfl:i=z.rs.length:=by omega
  rw[List.drop_length] at he;rw[CI,decide_eq_false (by omega),ai];exact hk pz c H he hb hok h
 |k+1,i,pz,c,H,hi,he,hb,hok,h=>by
  have hlt:i<z.rs.length:=by omega
  obtain⟨Yx,hdz⟩:=tW (h.ord [1]) hz;obtain⟨s1,s2,s3⟩:=yu Yx (vk z.rs).oI (by decide) (i:=i) (by simpa using hlt);have s2':H.inb (pb z.q) (po z.q+i*8) 8=true:=s2
  have Gf:H.sub (pb z.q) (po z.q+i*8) 8=(z.rs[i]).cs:=by
   rw[List.getElem_map] at s3;exact s3
  have a1:(i:Int)<(z.rs.length:Int):=by omega
  have a2:0≤(i:Int):=by omega
  obtain⟨r,hr⟩:∃r,r=z.rs[i]:=⟨_,rfl⟩;have Us:=hin _ (List.getElem_mem hlt);rw[←hr] at Gf Us;have hfit:aI oE r.cs=true:=rfl;have zB:JU r.cs=r.cs:=rfl;have hn4:ae r.cs 4=.int .u64 (r.f.s.seq:Int):=rfl;have hn5:ae r.cs 5=.int .i64 (r.f.s.an:Int):=rfl;rw[List.drop_eq_getElem_cons hlt,List.map_cons,tX, ←hr] at he;have hmo:=tT h;have oe:=yC h (r.f.s.an:Int) (.agg (kb 0 0 0 0 0 0 0 none 0 0));have Ut:=M7 h (r.f.s.an:Int);rw[tY] at oe Ut;rw[Option.isSome_map] at Ut;have gi:=h.IK (r.f.s.an:Int) (.agg r.cs);have mv:=hb.Zh (r.f.s.an:Int) (.agg r.cs);rw[CI];simp only[AJ,reduceIte,Nat.reduceEqDiff,a1,a2,Int.toNat_natCast,s1,s2',Gf,hfit,zB,hn4,hn5,hmo,oe,Ut,Bool.not_not,Option.isSome_some];rw[aJ (by omega)]
  cases hg:lD r.f.s.an pz with
  |none=>
   have DH:qJ (r.f.s.an:Int) (.agg r.cs) (k8 pz) c=(k8 (pz++[(r,c)]),c+1):=by
    unfold qJ;rw[tY,hg];simp [k8]
   rw[DH] at gi mv;have Lm:aI oE (kb 0 0 0 0 0 0 0 none 0 0)=true:=rfl;simp only[Option.map_none,Option.isSome_none,AJ,reduceIte,Nat.reduceEqDiff,Lm,cond_false];refine wV hz hzl hin hk k (i+1) _ (c+1) (by omega) ?_ mv ⟨?_, ?_⟩ gi
   ·rw[←he,A8 hg]
   ·rw[List.map_append,List.nodup_append];refine⟨hok.nd,by simp,fun x hx y hy=> ?_⟩;simp only[List.map_cons,List.map_nil,List.mem_singleton] at hy;subst hy;obtain⟨w,hw,rfl⟩:=List.mem_map.1 hx;exact A7 hg w hw
   ·intro x hx;rcases List.mem_append.1 hx with hx|hx
    ·exact hok.b x hx
    ·rw[List.mem_singleton] at hx;subst hx;exact Us
  |some x=>
   obtain⟨hx1,uH⟩:=m8 hg;have Lm:aI oE x.1.cs=true:=rfl;have hx4:ae x.1.cs 4=.int .u64 (x.1.f.s.seq:Int):=rfl;simp only[Option.map_some,Option.isSome_some,AJ,reduceIte,Nat.reduceEqDiff,Lm,hx4,cond_true];have hold:=A9 hg;by_cases F3:x.1.f.s.seq<r.f.s.seq
   ·have Uu:(x.1.f.s.seq:Int)<(r.f.s.seq:Int):=by omega
    have DH:qJ (r.f.s.an:Int) (.agg r.cs) (k8 pz) c=(k8 (ri r pz),c):=by
     unfold qJ;rw[tY,hg];simp only[Option.map_some,Option.isSome_some,if_true,E5]
    rw[DH] at gi mv;rw[if_pos F3] at hold;simp only[Uu,decide_true,aq];refine wV hz hzl hin hk k (i+1) _ c (by omega) (by rw[←he,hold]) mv ⟨by rw[yG];exact hok.nd,fun y hy=> ?_⟩ gi;rcases Ba hy with hy|hy
    ·exact hok.b y hy
    ·rw[hy];exact Us
   ·have Uu:¬(x.1.f.s.seq:Int)<(r.f.s.seq:Int):=by omega
    rw[if_neg F3] at hold;simp only[Uu,decide_false,ai];exact wV hz hzl hin hk k (i+1) pz c (by omega) (by rw[←he,hold]) hb hok h
def dM (cB:List (Nat×List Fd)):List Fd→List Nat→List Fd
 |pg,[]=>pg
 |pg,i::us=>dM cB (tX pg (gR i cB)) us
theorem IS {zs:List Rz} {bz:List (Rz×Nat)} {bc:Nat} (hbz:∀x∈bz,x.1∈zs) (hzl:∀z∈zs,z.rs.length≤1000000) (hin:∀z∈zs,∀r∈z.rs,Kg m.g r.f) {sq:Nat} (Jx:m.g.us.length≤62) {uq spq:Oq} {uc spn spc:Nat} {Kr:Am.St→Prop} {Ke:Nat→Am.St→Prop} (hk:∀pz c H',wU pz=dM (mZ bz) [] m.g.us→wE (k8 pz) c→Ab m.g pz→az B H' (ir pid (k8 pz) c::bo (zs.map Rz.bR)::ir mid (pN bz) bc::IR uq uc (cR m.g.us)::L)→Ke 6 (St.mk (ab [(4,T.lp 4 0),(6,T.v (V.ak (some (mpid,0)))),(8,T.lp 8 0)]) (ab [(4,se),(8,sd (some (mpid,0)) (some pid) sq spq spn spc)]) H')):∀(k j:Nat) (pz:List (Rf×Nat)) (c:Nat) {H:ag},j+k=m.g.us.length→dM (mZ bz) (wU pz) (m.g.us.drop j)=dM (mZ bz) [] m.g.us→wE (k8 pz) c→Ab m.g pz→az B H (ir pid (k8 pz) c::bo (zs.map Rz.bR)::ir mid (pN bz) bc::IR uq uc (cR m.g.us)::L)→lo 59 39 (St.mk (ab [(4,T.lp 4 0),(6,T.v (V.ak (some (mpid,0)))),(8,T.lp 8 0),(9,T.v (V.map (some mid))),(116,T.v (V.slice uq m.g.us.length uc)),(117,T.v (V.int .i64 (m.g.us.length:Int))),(118,T.v (V.int .i64 (j:Int)))]) (ab [(4,se),(8,sd (some (mpid,0)) (some pid) sq spq spn spc)]) H) Kr Ke
 |0,j,pz,c,H,hj,he,hb,hok,h=>by
  obtain rfl:j=m.g.us.length:=by omega
  rw[List.drop_length] at he;rw[HX,decide_eq_false (by omega),ai];exact hk pz c H he hb hok h
 |k+1,j,pz,c,H,hj,he,hb,hok,h=>by
  have hlt:j<m.g.us.length:=by omega
  obtain⟨s1,s2,s3⟩:=(az.tG (h.ord [3])).at (i:=j) (by simpa using hlt);have e1:(cR m.g.us)[j]'(by simpa using hlt)=((m.g.us[j]:Nat):Int):=by simp [cR]
  rw[e1] at s3;have a1:(j:Int)<(m.g.us.length:Int):=by omega
  have a2:0≤(j:Int):=by omega
  rw[List.drop_eq_getElem_cons hlt,dM,tV] at he;have hmo:=tT (h.ord [2]);have oe:=Nc (h.ord [2]) m.g.us[j];rw[HX];simp only[AJ,reduceIte,Nat.reduceEqDiff,a1,a2,Int.toNat_natCast,s1,s2,s3,hmo,oe]
  have hnext:∀RG c' H',dM (mZ bz) (wU RG) (m.g.us.drop (j+1))=dM (mZ bz) [] m.g.us→wE (k8 RG) c'→Ab m.g RG→az B H' (ir pid (k8 RG) c'::bo (zs.map Rz.bR)::ir mid (pN bz) bc::IR uq uc (cR m.g.us)::L)→
   lo 59 39
    (St.mk (ab [(4,T.lp 4 0),(6,T.v (V.ak (some (mpid,0)))),(8,T.lp 8 0),(9,T.v (V.map (some mid))),(116,T.v (V.slice uq m.g.us.length uc)),(117,T.v (V.int .i64 (m.g.us.length:Int))),(118,T.v (V.int .i64 (IntKind.i64.wrap ((j:Int)+1))))])
     (ab [(4,se),(8,sd (some (mpid,0)) (some pid) sq spq spn spc)]) H') Kr Ke:=by
   intro RG c' H' e' hb' cj h';rw[aJ (by omega)];exact IS hbz hzl hin Jx hk k (j+1) RG c' (by omega) e' hb' cj h'
  have zf:∀(z:Rz),z∈zs→dM (mZ bz) (tX (wU pz) (z.rs.map Rf.f)) (m.g.us.drop (j+1))=dM (mZ bz) [] m.g.us→
   lo 59 44
    (St.mk (ab [(4,T.lp 4 0),(6,T.v (V.ak (some (mpid,0)))),(8,T.lp 8 0),(9,T.v (V.map (some mid))),(116,T.v (V.slice uq m.g.us.length uc)),(117,T.v (V.int .i64 (m.g.us.length:Int))),(118,T.v (V.int .i64 (j:Int))),
     (124,T.v (V.slice z.q z.rs.length z.c)),(125,T.v (V.int .i64 (z.rs.length:Int))),(126,T.v (V.int .i64 0))]) (ab [(4,se),(8,sd (some (mpid,0)) (some pid) sq spq spn spc)]) H)
    (fun S'=>Kr (St.mk (ab []) (ab []) S'.3)) (fun j' S'=>br (decide (j'=8)) (ah (aG (KT.lp 4) (S'.1 4)&&(aG (KT.k .ak) (S'.1 6)&&(aG (KT.lp 8) (S'.1 8)&&(aG (KT.k .map) (S'.1 9)&&(aG (KT.k .slice) (S'.1 116)&&(aG (KT.k (.int .i64)) (S'.1 117)&&aG (KT.k (.int .i64)) (S'.1 118))))))&&(ef 113 mP (S'.2 4)&&ef 113 mP (S'.2 8)))
     (lo 59 39
      (St.mk (ab [(4,T.lp 4 0),(6,T.v (V.ak (V.ao (T.val (S'.1 6))))),(8,T.lp 8 0),(9,T.v (V.map (V.cA (T.val (S'.1 9))))),(116,T.v (V.slice (V.au (T.val (S'.1 116))) (V.ax (T.val (S'.1 116))) (V.aC (T.val (S'.1 116))))),(117,T.v (V.int .i64 (V.aa (T.val (S'.1 117))))),(118,T.v (V.int .i64 (IntKind.i64.wrap (V.aa (T.val (S'.1 118))+1))))])
       (ab [(4,aV.cells 113 (py (ar (S'.2 4)))),(8,aV.cells 113 (py (ar (S'.2 8))))]) S'.3) Kr Ke)) False):=by
   intro z hz Qn;refine wV (P0:=wU pz) hz (hzl z hz) (hin z hz) (fun RG c' H' e' hb' cj h'=> ?_) z.rs.length 0 pz c (by omega) rfl hb hok h;simp only[AJ,reduceIte,Nat.reduceEqDiff,f112,vX,pA,pB,pC,pD,V.cA,mn,V.aw];exact hnext RG c' H' (by rw[e'];exact Qn) hb' cj h'
  cases hg:oG m.g.us[j] bz with
  |none=>
   rw[hg] at he;simp only[AJ,reduceIte,Nat.reduceEqDiff];rw[CI,decide_eq_false (by omega),ai];simp only[AJ,reduceIte,Nat.reduceEqDiff,f112,vX,pA,pB,pC,pD,V.cA,mn,V.aw];exact hnext pz c H he hb hok h
  |some z=>
   rw[hg] at he;obtain⟨b2,mv⟩:=tU hg;simp only[AJ,reduceIte,Nat.reduceEqDiff];exact zf z (hbz _ mv) he
end
abbrev Vw:=Nat→List Fd
def wH (v:Vw) (c:Nat→List UInt8) (x:Nat) (f:Fd):Prop:=
 f.s.an=x∧f.s.data=c x∧∀b,∀y∈v b,y.s.an=x→f.s.seq≤y.s.seq→y.s.data=c x
def mt (v:Vw) (f:Fd):Prop:=f.s.fr≠0∧∃o∈v (f.s.fr-1),G3 o f=true
def lA (v:Vw) (b:Nat):Prop:=∃f∈v b,¬mt v f
theorem IT {o f:Fd}:G3 o f=true↔o.s.cK=f.s.cK∧o.s.an=f.s.an∧o.s.seq<f.s.seq∧o.s.data=f.s.data:=by
 unfold G3;simp
structure Gd (v:Vw) (c:Nat→List UInt8):Prop where
 nN:∀b,∀f∈v b,f.b=b
 a2:∀x,(c x=[]∧∀b,∀f∈v b,f.s.an≠x)∨∃b,∃f∈v b,wH v c x f
 a3:∀b,∀t∈v b,mt v t→∃u∈v (t.s.fr-1),u.s.an=t.s.an∧u.s.seq<t.s.seq∧u.s.data=t.s.data∧
  ∀b',∀y∈v b',y.s.an=t.s.an→u.s.seq≤y.s.seq→y.s.seq≤t.s.seq→y.s.data=t.s.data
 a4:∀b,∀f∈v b,f.s.fr≠b+1
 a6:∀b,∀f∈v b,∀h∈v b,f.s.fr≠0→h.s.fr≠0→f.s.fr=h.s.fr
 a7:∀b,∀t∈v b,mt v t→lA v (t.s.fr-1)
def gv (v:Vw) (b:Nat) (f:Fd):Vw:=fun i=>if i=b then v i++[f] else v i
def ke (v:Vw) (b:Nat):Vw:=fun i=>if i=b then [] else v i
theorem bE {v:Vw} {b i:Nat} {f y:Fd}:y∈gv v b f i↔y∈v i∨(i=b∧y=f):=by
 unfold gv;by_cases h:i=b
 ·simp [h]
 ·simp [h]
theorem cE {v:Vw} {b i:Nat} {y:Fd}:y∈ke v b i↔y∈v i∧i≠b:=by
 unfold ke;by_cases h:i=b
 ·simp [h]
 ·simp [h]
section
variable {v:Vw} {c:Nat→List UInt8} {b w x:Nat} {f u t:Fd}
theorem pP (hn:∀i,∀y∈v i,y.s.seq<f.s.seq) {i:Nat} (ht:t∈v i):mt (gv v b f) t↔mt v t:=by
 unfold mt;refine and_congr Iff.rfl ⟨fun⟨o,ho,hm⟩=> ?_,fun⟨o,ho,hm⟩=>⟨o,bE.2 (.inl ho),hm⟩⟩;rcases bE.1 ho with ho|⟨_,rfl⟩
 ·exact⟨o,ho,hm⟩
 ·have:=(IT.1 hm).2.2.1;have:=hn i t ht;omega
theorem lA.add (hn:∀i,∀y∈v i,y.s.seq<f.s.seq) (h:lA v w):lA (gv v b f) w:=by
 obtain⟨t,ht,hm⟩:=h;exact⟨t,bE.2 (.inl ht),fun h=>hm ((pP hn ht).1 h)⟩
theorem C2 (h:mt (ke v b) t):mt v t∧t.s.fr-1≠b:=by
 obtain⟨h0,o,ho,hm⟩:=h;exact⟨⟨h0,o,(cE.1 ho).1,hm⟩,(cE.1 ho).2⟩
theorem lA.DL (h:lA v w) (hw:w≠b):lA (ke v b) w:=by
 obtain⟨t,ht,hm⟩:=h;exact⟨t,cE.2 ⟨ht,hw⟩,fun h=>hm (C2 h).1⟩
theorem wH.DL (h:wH v c x f):wH (ke v b) c x f:=⟨h.1,h.2.1,fun b' y hy=>h.2.2 b' y (cE.1 hy).1⟩
def n7 (c:Nat→List UInt8) (x:Nat) (d:List UInt8):Nat→List UInt8:=fun i=>if i=x then d else c i
theorem wH.put (h:wH v c x u) (hx:f.s.an≠x):wH (gv v b f) (n7 c f.s.an f.s.data) x u:=by
 have e:n7 c f.s.an f.s.data x=c x:=if_neg (fun h=>hx h.symm);refine⟨h.1,by rw[e];exact h.2.1,fun b' y hy HJ hs=> ?_⟩;rw[e];rcases bE.1 hy with hy|⟨_,rfl⟩
 ·exact h.2.2 b' y hy HJ hs
 ·exact absurd HJ hx
theorem wH.new (hn:∀i,∀y∈v i,y.s.seq<f.s.seq):wH (gv v b f) (n7 c f.s.an f.s.data) f.s.an f:=by
 have e:n7 c f.s.an f.s.data f.s.an=f.s.data:=if_pos rfl;refine⟨rfl,e.symm,fun b' y hy HJ hs=> ?_⟩;rw[e];rcases bE.1 hy with hy|⟨_,rfl⟩
 ·have:=hn b' y hy;omega
 ·rfl
theorem wH.copy (h:wH v c x u) (hd:f.s.data=c f.s.an):wH (gv v b f) c x u:=by
 refine⟨h.1,h.2.1,fun b' y hy HJ hs=> ?_⟩;rcases bE.1 hy with hy|⟨_,rfl⟩
 ·exact h.2.2 b' y hy HJ hs
 ·rw[←HJ];exact hd
theorem Nn (hn:∀i,∀y∈v i,y.s.seq<f.s.seq) (h:Gd v c) {i:Nat} (ht:t∈v i) (hm:mt (gv v b f) t):∃u∈gv v b f (t.s.fr-1),u.s.an=t.s.an∧u.s.seq<t.s.seq∧u.s.data=t.s.data∧∀b',∀y∈gv v b f b',y.s.an=t.s.an→u.s.seq≤y.s.seq→y.s.seq≤t.s.seq→y.s.data=t.s.data:=by
 obtain⟨u,hu,h1,h2,h3,h4⟩:=h.a3 i t ht ((pP hn ht).1 hm);refine⟨u,bE.2 (.inl hu),h1,h2,h3,fun b' y hy HJ hs1 oH=> ?_⟩;rcases bE.1 hy with hy|⟨_,rfl⟩
 ·exact h4 b' y hy HJ hs1 oH
 ·have:=hn i t ht;omega
theorem Gd.put (h:Gd v c) (hn:∀i,∀y∈v i,y.s.seq<f.s.seq) (hb:f.b=b) (hf:f.s.fr=0):Gd (gv v b f) (n7 c f.s.an f.s.data) where
 nN:=fun i y hy=>by
  rcases bE.1 hy with hy|⟨rfl,rfl⟩
  ·exact h.nN i y hy
  ·exact hb
 a2:=fun x=>by
  by_cases hx:f.s.an=x
  ·subst hx;exact .inr ⟨b,f,bE.2 (.inr ⟨rfl,rfl⟩),wH.new hn⟩
  ·rcases h.a2 x with⟨h1,h2⟩|⟨i,u,hu,hc⟩
   ·refine .inl ⟨by show (if x=_ then _ else _)=_;rw[if_neg (fun h=>hx h.symm)];exact h1,fun i y hy=> ?_⟩;rcases bE.1 hy with hy|⟨rfl,rfl⟩
    ·exact h2 i y hy
    ·exact hx
   ·exact .inr ⟨i,u,bE.2 (.inl hu),hc.put hx⟩
 a3:=fun i t ht hm=>by
  rcases bE.1 ht with ht|⟨rfl,rfl⟩
  ·exact Nn hn h ht hm
  ·exact absurd hf hm.1
 a4:=fun i y hy=>by
  rcases bE.1 hy with hy|⟨rfl,rfl⟩
  ·exact h.a4 i y hy
  ·omega
 a6:=fun i y hy z hz h1 h2=>by
  rcases bE.1 hy with hy|⟨rfl,rfl⟩
  ·rcases bE.1 hz with hz|⟨rfl,rfl⟩
   ·exact h.a6 i y hy z hz h1 h2
   ·exact absurd hf h2
  ·exact absurd hf h1
 a7:=fun i t ht hm=>by
  rcases bE.1 ht with ht|⟨rfl,rfl⟩
  ·exact(h.a7 i t ht ((pP hn ht).1 hm)).add hn
  ·exact absurd hf hm.1
theorem PC (hw:w≠b) (hu:u∈v w) (hf:f.s.fr=w+1) (hk:u.s.cK=f.s.cK) (ha:u.s.an=f.s.an) (hd:u.s.data=f.s.data) (hn:∀i,∀y∈v i,y.s.seq<f.s.seq):mt (gv v b f) f:=
 ⟨by omega,u,by rw[hf];exact bE.2 (.inl hu),IT.2 ⟨hk,ha,hn w u hu,hd⟩⟩
theorem Gd.copy (h:Gd v c) (hn:∀i,∀y∈v i,y.s.seq<f.s.seq) (hb:f.b=b) (hw:w≠b) (hu:u∈v w) (hc:wH v c f.s.an u) (hf:f.s.fr=w+1) (hd:u.s.data=f.s.data) (hall:∀y∈v b,y.s.fr=w+1) (hs:lA v w):Gd (gv v b f) c where
 nN:=fun i y hy=>by
  rcases bE.1 hy with hy|⟨rfl,rfl⟩
  ·exact h.nN i y hy
  ·exact hb
 a2:=fun x=>by
  have hdc:f.s.data=c f.s.an:=by rw[←hd];exact hc.2.1
  rcases h.a2 x with⟨h1,h2⟩|⟨i,u',Yb,sy⟩
  ·refine .inl ⟨h1,fun i y hy=> ?_⟩;rcases bE.1 hy with hy|⟨rfl,rfl⟩
   ·exact h2 i y hy
   ·intro e;exact h2 w u hu (by rw[←e];exact hc.1)
  ·exact .inr ⟨i,u',bE.2 (.inl Yb),sy.copy hdc⟩
 a3:=fun i t ht hm=>by
  rcases bE.1 ht with ht|⟨rfl,rfl⟩
  ·exact Nn hn h ht hm
  ·refine⟨u,by rw[hf];exact bE.2 (.inl hu),hc.1,hn w u hu,hd,fun b' y hy HJ hs1 oH=> ?_⟩;rcases bE.1 hy with hy|⟨_,rfl⟩
   ·rw[←hd,hc.2.1];exact hc.2.2 b' y hy HJ hs1
   ·rfl
 a4:=fun i y hy=>by
  rcases bE.1 hy with hy|⟨rfl,rfl⟩
  ·exact h.a4 i y hy
  ·omega
 a6:=fun i y hy z hz h1 h2=>by
  rcases bE.1 hy with hy'|⟨rfl,rfl⟩
  ·rcases bE.1 hz with Ju|⟨rfl,rfl⟩
   ·exact h.a6 i y hy' z Ju h1 h2
   ·rw[hf];exact hall y hy'
  ·rcases bE.1 hz with hz|⟨_,rfl⟩
   ·rw[hf];exact(hall z hz).symm
   ·rfl
 a7:=fun i t ht hm=>by
  rcases bE.1 ht with ht|⟨rfl,rfl⟩
  ·exact(h.a7 i t ht ((pP hn ht).1 hm)).add hn
  ·rw[hf];exact hs.add hn
theorem Gd.DL (h:Gd v c) (hc:∀x,(∀i,∀f∈v i,f.s.an≠x)∨∃i,i≠b∧∃f∈v i,wH v c x f):Gd (ke v b) c where
 nN:=fun i y hy=>h.nN i y (cE.1 hy).1
 a2:=fun x=>by
  rcases hc x with h1|⟨i,hi,f,hf,T9⟩
  ·refine .inl ⟨?_,fun i y hy=>h1 i y (cE.1 hy).1⟩;rcases h.a2 x with⟨h2,_⟩|⟨i,f,hf,T9⟩
   ·exact h2
   ·exact absurd T9.1 (h1 i f hf)
  ·exact .inr ⟨i,f,cE.2 ⟨hf,hi⟩,T9.DL⟩
 a3:=fun i t ht hm=>by
  obtain⟨Ry,hm2⟩:=C2 hm;obtain⟨u,hu,h1,h2,h3,h4⟩:=h.a3 i t (cE.1 ht).1 Ry;exact⟨u,cE.2 ⟨hu,hm2⟩,h1,h2,h3,fun b' y hy=>h4 b' y (cE.1 hy).1⟩
 a4:=fun i y hy=>h.a4 i y (cE.1 hy).1
 a6:=fun i y hy z hz=>h.a6 i y (cE.1 hy).1 z (cE.1 hz).1
 a7:=fun i t ht hm=>by
  obtain⟨Ry,hm2⟩:=C2 hm;exact(h.a7 i t (cE.1 ht).1 Ry).DL hm2
end
def iJ (N nb:Nat) (pz:List (Rf×Nat)) (seen:List Nat):Pm:=
 ⟨(List.range N).map fun a=>match lD a pz with|some x=>if x.2∈seen then some (x.1.f.b,x.1.f.p) else none|none=>none,nb⟩
def pQ (g:bW) (pg:List Fd):Pm:=⟨(List.range (g.cap+1).toNat).map fun a=>(jq a pg).map fun f=>(f.b,f.p),g.aB.toNat⟩
def Ar.PD (a:Ar) (g:bW):List (Nat×List Fd):=g.us.map fun i=>(i,a.fd g i)
def Ar.z8 (a:Ar) (g:bW):List Fd:=dM (zH g.us (a.PD g)).1 [] g.us
def Ar.Kh (a:Ar) (g:bW):Nat:=m7 0 (g.us.flatMap (a.fd g))
theorem PE {pz:List (Rf×Nat)} (uC:(pz.map fun x=>x.1.f.s.an).Nodup) {x:Rf×Nat} (hx:x∈pz):lD x.1.f.s.an pz=some x:=by
 induction pz with
 |nil=>cases hx
 |cons y l ih=>
  rw[List.map_cons,List.nodup_cons] at uC;rw[lD];rcases List.mem_cons.1 hx with rfl|hx
  ·rw[if_pos rfl]
  ·rw[if_neg (fun e=>uC.1 (List.mem_map.2 ⟨x,hx,e.symm⟩))];exact ih uC.2 hx
theorem vn (a:Nat):∀pz:List (Rf×Nat),jq a (wU pz)=(lD a pz).map fun x=>x.1.f
 |[]=>rfl
 |x::l=>by
  show (if x.1.f.s.an=a then some x.1.f else jq a (wU l))=_
  rw[lD,vn a l];split<;>rfl
theorem Ha {N nb c:Nat} {pz:List (Rf×Nat)} {seen:List Nat} {x:Rf×Nat} (uC:(pz.map fun x=>x.1.f.s.an).Nodup) (hb:wE (k8 pz) c) (hx:x∈pz) (hN:x.1.f.s.an<N):(iJ N nb pz seen).put x.1.f.s.an (some (x.1.f.b,x.1.f.p))=iJ N nb pz (seen++[x.2]):=by
 unfold Pm.put iJ;congr 1;apply List.ext_getElem
 ·simp
 ·intro i h1 h2;rw[List.getElem_set];simp only[List.length_set,List.length_map,List.length_range] at h1;by_cases hi:x.1.f.s.an=i
  ·rw[if_pos hi];simp only[List.getElem_map,List.getElem_range, ←hi,PE uC hx];rw[if_pos (by simp)]
  ·rw[if_neg hi];simp only[List.getElem_map,List.getElem_range]
   cases hg:lD i pz with
   |none=>rfl
   |some y=>
    obtain⟨hy1,Rt⟩:=m8 hg
    have hne:¬y.2=x.2:=by
     intro e;have hp:=(CX.1 hb).1;have hm:(k8 pz).map En.b=pz.map Prod.snd:=by simp [k8]
     rw[hm] at hp;have hpn:(pz.map Prod.snd).Nodup:=hp.imp (fun h=>Nat.ne_of_lt h)
     have:y=x:=by
      obtain⟨t,ht,rfl⟩:=List.mem_iff_getElem.1 hy1;obtain⟨u,hu,rfl⟩:=List.mem_iff_getElem.1 hx;by_cases htu:t=u
      ·subst htu;rfl
      ·exfalso;rcases Nat.lt_or_gt_of_ne htu with h|h
       ·exact List.pairwise_iff_getElem.1 hpn t u (by simpa using ht) (by simpa using hu) h (by simpa using e)
       ·exact List.pairwise_iff_getElem.1 hpn u t (by simpa using hu) (by simpa using ht) h (by simpa using e.symm)
     rw[this] at Rt;exact hi Rt
    simp only[List.mem_append,List.mem_singleton,hne,or_false]
theorem C3 {i:Nat} {cap:Int} {f:Fd}:∀{l:List (List UInt8)} {p:Nat},f∈hZ i cap l p→f.b=i∧p≤f.p∧f.p<p+l.length∧(f.s.an:Int)≤cap
 |d::l,p,h=>by
  rw[hZ] at h
  have ih:f∈hZ i cap l (p+1)→f.b=i∧p≤f.p∧f.p<p+(d::l).length∧(f.s.an:Int)≤cap:=fun h=>by
   obtain⟨h1,h2,h3,h4⟩:=C3 h;exact⟨h1,by omega,by rw[List.length_cons];omega,h4⟩
  split at h
  ·exact ih h
  ·split at h
   ·rename_i s hs hc;rcases List.mem_cons.1 h with rfl|h
    ·exact⟨rfl,Nat.le_refl _,by show p<p+(l.length+1);omega,hc.2⟩
    ·exact ih h
   ·exact ih h
theorem XM {a:Ar} {g:bW} (hr:a.rd g) (sD:a.ay≤32) {i:Nat} (hi:i<a.bs.length) {f:Fd} (hf:f∈a.fd g i):Kg g f:=by
 unfold Ar.fd Bk.eu at hf;rw[List.getD_eq_getElem?_getD,List.getElem?_eq_getElem hi] at hf;simp only[Option.getD_some] at hf;split at hf
 ·cases hf
 ·obtain⟨h1,h2,h3,h4⟩:=C3 hf;have hl:=hr.len _ (List.getElem_mem hi);have hn:=hr.n;exact⟨h4,by omega,by omega⟩
section
variable {B:ag} {L:List bV} {H:ag} {K:V→ag→Prop} {aK mid pid mpid:Nat} {a:Ar} {m:Gm}
theorem Ki {g:bW} {pz:List (Rf×Nat)} (hok:Ab g pz) {N nb:Nat} (hN:N≤65536) (hnb:nb≤64) (hb:g.aB≤(nb:Int)) (seen:List Nat):(iJ N nb pz seen).ok:=by
 refine⟨fun b p hm=> ?_,by simp [iJ];exact hN,hnb⟩;obtain⟨x,hx,he⟩:=List.mem_map.1 hm;split at he
 ·rename_i y hy;obtain⟨hy1,_⟩:=m8 hy;have:=hok.b _ hy1;split at he
  ·cases he;exact⟨by show _<nb;omega,this.2.2⟩
  ·cases he
 ·cases he
theorem IU {pz:List (Rf×Nat)} {c N nb it:Nat} (hok:Ab m.g pz) (hb:wE (k8 pz) c) (hN:N≤65536) (hcN:m.g.cap<(N:Int)) (hnb:nb≤64) (YA:m.g.aB≤(nb:Int)) {sq:Nat} {spq:Oq} {spn spc:Nat} {Kr:Am.St→Prop} {Ke:Nat→Am.St→Prop} (hk:∀H' seen,(∀e∈k8 pz,e.b∈seen)→az B H' (ob it (.dz (some pid) c seen c)::ir pid (k8 pz) c::sE mpid (iJ N nb pz seen)::L)→Ke 10 (St.mk (ab [(4,T.lp 4 0),(8,T.lp 8 0)]) (ab [(4,se),(8,sd (some (mpid,0)) (some pid) sq spq spn spc)]) H')):∀(k:Nat) (seen:List Nat) {H:ag},(k8 pz).countP (fun y=>decide (y.b∉seen))≤k→az B H (ob it (.dz (some pid) c seen c)::ir pid (k8 pz) c::sE mpid (iJ N nb pz seen)::L)→lo 59 55 (St.mk (ab [(4,T.lp 4 0),(6,T.v (V.ak (some (mpid,0)))),(8,T.lp 8 0),(160,T.v (V.dz 111 it))]) (ab [(4,se),(8,sd (some (mpid,0)) (some pid) sq spq spn spc)]) H) Kr Ke
 |k,seen,H,hle,h=>by
  rw[Pj];refine h.M9 hb (fun hall=>hk H seen hall h) (fun e he hn H' h' abv hkey hval=> ?_);obtain⟨x,hx,rfl⟩:=List.mem_map.1 he;have Vb:=hok.b x hx;have oH:=n5 (fun _=>true) hn hb.lt he;simp only[Bool.and_true,if_true] at oH
  have hneg:∀s:List Nat,(k8 pz).countP (fun y=>decide (y.b∈s))+(k8 pz).countP (fun y=>decide (y.b∉s))=(k8 pz).length:=by
   intro s;have:=List.length_eq_countP_add_countP (fun y:En=>decide (y.b∈s)) (l:=k8 pz);rw[this];congr 1;apply List.countP_congr;intro y _;simp
  have n1:=hneg seen;have n2:=hneg (seen++[x.2]);have hfit:aI oE x.1.cs=true:=rfl;have zB:Pd x.1.cs=iS (x.1.f.b:Int) (x.1.f.p:Int):=rfl;simp only at hkey hval;simp only[abv,hkey,hval,AJ,reduceIte,Nat.reduceEqDiff,hfit,zB]
  cases k with
  |zero=>omega
  |succ k=>
   have hlen:(iJ N nb pz seen).ct.length=N:=by simp [iJ]
   have RH:x.1.f.s.an<N:=by omega
   refine IM (h'.ord [2]) (Ki hok hN hnb YA seen) (by rw[hlen];exact RH) (by show x.1.f.b<nb;omega) Vb.2.2 (fun H2 h2=> ?_);simp only[AJ,reduceIte,Nat.reduceEqDiff];rw[Ha hok.nd hb hx RH] at h2;exact IU hok hb hN hcN hnb YA hk k (seen++[x.2]) (by omega) (h2.ord [1,1])
theorem No (h:az B H (cO aK a::L)) (hm:cY B L m) (hf:m.g.cN=true) (hg:m.g.In) (hr:a.rd m.g) (qG:∀i∈m.g.us,i<a.bs.length) (uC:m.g.us.Nodup) (hc:0≤m.g.cap∧m.g.cap<65000) (k:∀mpid pid zs pz c q sc H',wU pz=a.z8 m.g→wE (k8 pz) c→Ab m.g pz→az B H' (sE mpid (pQ m.g (a.z8 m.g))::ir pid (k8 pz) c::bo (List.map Rz.bR zs)::IR q sc (cR (zH m.g.us (a.PD m.g)).2)::cO aK a::L)→K (.tuple [.agg (cJ (some (mpid,0)) (some pid) (a.Kh m.g:Int) q (zH m.g.us (a.PD m.g)).2.length sc),.int .i64 0]) H'):cl 59 [.ak (some (aK,0)),m.v] H K:=by
 have sD:a.ay≤32:=by rw[hr.p];exact hg.p.2
 have Ak:=hg.b;have Jx:=bW.jX m.g hg.b.2;have hv:m.v=.agg (cV m.g.aB m.g.ay m.g.aF m.q m.g.bB.length m.c):=rfl;rw[hv,aap, ←hv];simp only[Option.isNone_some,ai,dW];refine IB h (hm.bg _) hg.l (fun H1 h1=> ?_);simp only[hf,AJ,reduceIte,Nat.reduceEqDiff];rw[AU h1];simp only[AJ,reduceIte,Nat.reduceEqDiff,hr.n];rw[ES h1];simp only[AJ,reduceIte,Nat.reduceEqDiff,hr.p];refine tJ h1 (hm.bg _) hg (fun H2 h2=> ?_);simp only[AJ,reduceIte,Nat.reduceEqDiff];obtain⟨N,hN⟩:∃N:Nat,N=(m.g.cap+1).toNat:=⟨_,rfl⟩;obtain⟨nb,hnb⟩:∃nb:Nat,nb=m.g.aB.toNat:=⟨_,rfl⟩;have eN:IntKind.i64.wrap (m.g.cap+1)=(N:Int):=by rw[bn (by omega) (by omega)];omega
 have enb:m.g.aB=(nb:Int):=by omega
 have hform:4≤m.g.aB:=by
  have:=hf;unfold bW.cN at this;rw[Bool.and_eq_true] at this;exact(of_decide_eq_true this.1:m.g.yy).1
 have hMN:=PB (K:= ?_) h2 (n:=N) (nb:=nb) (by omega) (by omega) ?_
 ·rw[eN];simp only[enb] at hMN⊢;exact hMN
 intro mpid H3 h3;simp only[AJ,reduceIte,Nat.reduceEqDiff];have h4:=(h3.M6).M6;obtain⟨pid,Qx⟩:∃p,p=H3.next:=⟨_,rfl⟩;obtain⟨mid,hmid⟩:∃p,p=(H3.alloc (.map [] 0)).next:=⟨_,rfl⟩;have YB:(H3.alloc (.map [] 0)).2=mid:=hmid.symm;have YC:H3.2=pid:=Qx.symm;rw[←hmid, ←Qx] at h4;rw[YB,YC];generalize (ag.alloc (ag.alloc H3 _) _)=H4 at h4⊢;simp only[←enb];have Uq:∀(A1 A2 A3 A4:bV),cY B (A1::A2::A3::A4::L) m:=fun A1 A2 A3 A4=>(((hm.bg _).bg _).bg _).bg _
 refine jo h4 (Uq _ _ _ _) hg (fun uq uc H5 h5=> ?_);simp only[AJ,reduceIte,Nat.reduceEqDiff];have hby:∀bz:List (Rz×Nat),mZ bz=(m.g.us.map fun i=>(i,a.fd m.g i))→mZ bz=a.PD m.g:=fun _ h=>h
 have h6:az B H5 (cO aK a::ir mid (pN []) 0::bo ((([]:List (Rz×Nat)).map Prod.fst).map Rz.bR)::IR uq uc (cR m.g.us)::ir pid (k8 []) 0::sE mpid (Pm.new N nb)::L):=(h5.pI).ord [5,2,0,0,0];have hmA:cY B (ir pid (k8 []) 0::sE mpid (Pm.new N nb)::L) m:=(hm.bg _).bg _;refine IQ (mpid:=mpid) (pid:=pid) (mid:=mid) hmA hf hg hr sD qG uC (fun bz bc H6 hbz hb hl h7=> ?_) m.g.us.length 0 [] 0 (by omega) rfl (wE.nil _) (by simp) h6;simp only[AJ,reduceIte,Nat.reduceEqDiff,f25,tC,lP,lQ,lR,lS,f112,vX,pA,pB,pC,pD,V.cA,mn,V.aw];rw[show (m7 0 (m.g.us.flatMap (a.fd m.g)))=a.Kh m.g from rfl]
 have YD:∀z∈bz.map Prod.fst,∀r∈z.rs,Kg m.g r.f:=by
  intro z hz r hr';obtain⟨x,hx,rfl⟩:=List.mem_map.1 hz;have:(x.1.i,x.1.rs.map Rf.f)∈mZ bz:=List.mem_map.2 ⟨x,hx,rfl⟩;rw[hbz] at this;obtain⟨i,hi,he⟩:=List.mem_map.1 this;have Qn:=congrArg Prod.snd he;simp only at Qn;exact XM hr sD (qG i hi) (by rw[Qn];exact List.mem_map.2 ⟨r,hr',rfl⟩)
 have hzl:∀z∈bz.map Prod.fst,z.rs.length≤1000000:=by
  intro z hz;obtain⟨x,hx,rfl⟩:=List.mem_map.1 hz;have:=hl x hx;omega
 have YE:∀x∈bz,x.1∈bz.map Prod.fst:=fun x hx=>List.mem_map.2 ⟨x,hx,rfl⟩
 obtain⟨zs,hzs⟩:∃zs,zs=bz.map Prod.fst:=⟨_,rfl⟩;rw[←hzs] at h7 YD hzl YE;refine jo h7 (((((((hm.bg _).bg _).bg _).bg _).bg _).bg _)) hg (fun uq2 uc2 H8 h8=> ?_);simp only[AJ,reduceIte,Nat.reduceEqDiff];have h9:az B H8 (ir mid (pN bz) bc::bo (zs.map Rz.bR)::IR none 0 (cR [])::IR uq2 uc2 (cR m.g.us)::cO aK a::ir pid (k8 []) 0::sE mpid (Pm.new N nb)::L):=(((az.tH h8).ord [5]).drop).ord [3,3];refine C1 (mpid:=mpid) (pid:=pid) hzl Jx m.g.us.length 0 bz bc [] (by omega) (by simp) hb YE (fun bz2 bc2 spq spc H10 Uv mv YF xg=> ?_) h9;rw[List.drop_zero] at Uv xg⊢;rw[List.nil_append] at xg⊢;rw[hby bz hbz] at Uv xg⊢;simp only[AJ,reduceIte,Nat.reduceEqDiff,f25,tC,lP,lQ,lR,lS,f112,vX,pA,pB,pC,pD,V.cA,mn,V.aw];refine jo xg ((((((((hm.bg _).bg _).bg _).bg _).bg _).bg _).bg _)) hg (fun uq3 uc3 H11 zK=> ?_);simp only[AJ,reduceIte,Nat.reduceEqDiff];have h12:az B H11 (ir pid (k8 []) 0::bo (zs.map Rz.bR)::ir mid (pN bz2) bc2::IR uq3 uc3 (cR m.g.us)::IR spq spc (cR (zH m.g.us (a.PD m.g)).2)::cO aK a::sE mpid (Pm.new N nb)::L):=((zK.ord [4]).drop).ord [5,2,1];refine IS (mpid:=mpid) (pid:=pid) (m:=m) YF hzl YD Jx (fun pz pc H13 Gg Zx DI Ln=> ?_) m.g.us.length 0 [] 0 (by omega) rfl (wE.nil _) ⟨by simp,by simp⟩ h12;have YG:wU pz=a.z8 m.g:=by rw[Gg,Uv];rfl
 have Zy:=QV Ln;simp only[AJ,reduceIte,Nat.reduceEqDiff,f25,tC,lP,lQ,lR,lS,f112,vX,pA,pB,pC,pD,V.cA,mn,V.aw,Option.isNone_some,Zy];have Uw:=Ln.Na;obtain⟨it,hit⟩:∃it,it=H13.next:=⟨_,rfl⟩;have abw:H13.2=it:=hit.symm;rw[←hit] at Uw;rw[abw];generalize (ag.alloc H13 _)=H14 at Uw⊢
 have e0:Pm.new N nb=iJ N nb pz []:=by
  unfold Pm.new iJ;congr 1;apply List.ext_getElem
  ·simp
  ·intro i h1 h2;simp only[List.getElem_replicate,List.getElem_map];split<;>rfl
 rw[e0] at Uw;have h15:az B H14 (ob it (.dz (some pid) pc [] pc)::ir pid (k8 pz) pc::sE mpid (iJ N nb pz [])::bo (zs.map Rz.bR)::IR spq spc (cR (zH m.g.us (a.PD m.g)).2)::cO aK a::L):=((Uw.ord [3,3]).drop.drop).ord [0,0,3];refine IU (m:=m) (mpid:=mpid) (pid:=pid) DI Zx (N:=N) (nb:=nb) (by omega) (by omega) (by omega) (by omega) (fun H16 seen hall YH=> ?_) _ [] (Nat.le_refl _) h15;simp only[AJ,reduceIte,Nat.reduceEqDiff,f25,tC,lP,lQ,lR,lS,f112,vX,pA,pB,pC,pD]
 have efin:iJ N nb pz seen=pQ m.g (a.z8 m.g):=by
  unfold iJ pQ;rw[hN,hnb];congr 1;apply List.map_congr_left;intro i hi;rw[←YG,vn]
  cases HG:lD i pz with
  |none=>rfl
  |some y=>
   have:=hall _ (List.mem_map.2 ⟨y,(m8 HG).1,rfl⟩);simp only at this;simp only[this,if_true];rfl
 rw[efin] at YH;exact k mpid pid zs pz pc spq spc H16 YG Zx DI (YH.drop.ord [1])
end
def ff (v:Vw) (i:Nat):Prop:=v i≠[]∧∀f∈v i,mt v f
theorem qt {v:Vw} {i:Nat} (h:lA v i):¬ff v i:=fun⟨_,h2⟩=>by
 obtain⟨f,hf,hm⟩:=h;exact hm (h2 f hf)
theorem Bb {v:Vw} {i:Nat} (h:¬ff v i) (hne:v i≠[]):lA v i:=
 Classical.byContradiction fun hn=>h ⟨hne,fun f hf=>Classical.byContradiction fun hm=>hn ⟨f,hf,hm⟩⟩
theorem Bc {i:Nat} (j:Nat):∀{l:List (Nat×List Fd)},(l.map Prod.fst).Nodup→gR j (wG i l)=if j=i then [] else gR j l
 |[],_=>by simp [wG,gR]
 |x::l,h=>by
  rw[List.map_cons,List.nodup_cons] at h;rw[wG];by_cases hx:x.1=i
  ·rw[if_pos hx];by_cases hj:j=i
   ·rw[if_pos hj,hj, ←hx]
    have:∀(l:List (Nat×List Fd)),x.1∉l.map Prod.fst→gR x.1 l=[]:=by
     intro l
     induction l with
     |nil=>intro;rfl
     |cons y l ih=>
      intro hn;rw[List.map_cons,List.mem_cons] at hn;rw[gR,if_neg (fun e=>hn (.inl e.symm))];exact ih (fun h=>hn (.inr h))
    exact this l h.1
   ·rw[if_neg hj,gR,if_neg (by omega)]
  ·rw[if_neg hx];by_cases hxj:x.1=j
   ·subst hxj;rw[gR,if_pos rfl,if_neg hx,gR,if_pos rfl]
   ·rw[gR,if_neg hxj,Bc j h.2,gR,if_neg hxj]
theorem Kj {i:Nat}:∀{l:List (Nat×List Fd)},(l.map Prod.fst).Nodup→((wG i l).map Prod.fst).Nodup
 |[],h=>h
 |x::l,h=>by
  have hsub:∀l:List (Nat×List Fd),(wG i l).Sublist l:=by
   intro l
   induction l with
   |nil=>exact .slnil
   |cons y l ih=>
    rw[wG];split
    ·exact List.sublist_cons_self _ _
    ·exact ih.cons_cons _
  exact h.sublist ((hsub (x::l)).map _)
theorem E6 (f:Nat→List Fd) (i:Nat):∀us:List Nat,gR i (us.map fun i=>(i,f i))=if i∈us then f i else []
 |[]=>rfl
 |j::us=>by
  rw[List.map_cons,gR,E6 f i us];by_cases h:j=i
  ·subst h;simp
  ·have:¬i=j:=fun e=>h e.symm
   simp [h,this]
section
variable {v:Vw} {c:Nat→List UInt8}
theorem Hb (h:Gd v c) {cB:List (Nat×List Fd)} (hb:∀i,gR i cB=v i∨gR i cB=[]∧ff v i) {i:Nat} (hi:gR i cB=v i):kc cB i=true↔ff v i:=by
 have hl:∀(t:Fd) (o:Fd),o∈G4 cB t.s.fr→t.s.fr≠0∧o∈v (t.s.fr-1):=fun t o ho=>by
  unfold G4 at ho;split at ho
  ·cases ho
  ·rename_i hf;refine⟨hf, ?_⟩;rcases hb (t.s.fr-1) with e|⟨e,_⟩
   ·rw[e] at ho;exact ho
   ·rw[e] at ho;cases ho
 unfold kc;rw[hi]
 cases hv:v i with
 |nil=>exact⟨fun h=>(by cases h),fun h=>absurd hv h.1⟩
 |cons f l=>
  constructor
  ·intro hall;refine⟨by rw[hv];simp,fun t ht=> ?_⟩;rw[hv] at ht;have:=List.all_eq_true.1 hall t ht;unfold sa at this;simp only[Bool.and_eq_true,decide_eq_true_eq,List.any_eq_true] at this;obtain⟨h0,h1,o,ho,hm⟩:=this;rw[←h1] at ho;obtain⟨h2,h3⟩:=hl t o ho;exact⟨h2,o,h3,hm⟩
  ·intro hs;refine List.all_eq_true.2 fun t ht=> ?_
   have hf:f∈v i:=by rw[hv];exact List.mem_cons_self
   have ht':t∈v i:=by rw[hv];exact ht
   obtain⟨QB,_⟩:=hs.2 f hf;obtain⟨Zl,o,ho,hm⟩:=hs.2 t ht';have he:=h.a6 i t ht' f hf Zl QB;have hn:=h.a7 i t ht' ⟨Zl,o,ho,hm⟩
   have hg:gR (t.s.fr-1) cB=v (t.s.fr-1):=by
    rcases hb (t.s.fr-1) with e|⟨_,e⟩
    ·exact e
    ·exact absurd e (qt hn)
   unfold sa;simp only[Bool.and_eq_true,decide_eq_true_eq,List.any_eq_true];refine⟨QB,he,o, ?_,hm⟩;unfold G4;rw[if_neg QB, ←he,hg];exact ho
open Classical in
theorem yH (h:Gd v c):∀(us:List Nat) (cB:List (Nat×List Fd)),us.Nodup→(cB.map Prod.fst).Nodup→(∀i,gR i cB=v i∨gR i cB=[]∧ff v i)→(∀i∈us,gR i cB=v i)→
 ∀i,gR i (zH us cB).1=if i∈us∧ff v i then [] else gR i cB
 |[],cB,_,_,_,_,i=>by simp [zH]
 |j::us,cB,uC,hk,hb,hu,i=>by
  rw[List.nodup_cons] at uC;have hj:=hu j List.mem_cons_self;have hc:=Hb h hb hj;rw[zH];by_cases hs:ff v j
  ·rw[if_pos (hc.2 hs)];have hd:=fun i=>Bc (i:=j) i hk
   rw[yH h us (wG j cB) uC.2 (Kj hk) (fun i=> ?_) (fun i hi=> ?_) i,hd i]
   ·by_cases hij:i=j
    ·subst hij;simp [hs]
    ·simp [hij]
   ·rw[hd i];by_cases hij:i=j
    ·subst hij;exact .inr ⟨if_pos rfl,hs⟩
    ·rw[if_neg hij];exact hb i
   ·rw[hd i,if_neg (fun e=>uC.1 (by rw[←e];exact hi))];exact hu i (List.mem_cons_of_mem _ hi)
  ·rw[if_neg (fun e=>hs (hc.1 e)),yH h us cB uC.2 hk hb (fun i hi=>hu i (List.mem_cons_of_mem _ hi)) i];by_cases hij:i=j
   ·subst hij;simp [hs]
   ·simp [hij]
def Nw (pg S:List Fd) (x:Nat):Prop:=
 (jq x pg=none∧∀y∈S,y.s.an≠x)∨∃f,jq x pg=some f∧f∈S∧f.s.an=x∧∀y∈S,y.s.an=x→y.s.seq≤f.s.seq
theorem E7 (x:Nat) (f:Fd):∀pg:List Fd,jq x (rf f pg)=if f.s.an=x then (match jq x pg with|none=>some f|some o=>if o.s.seq<f.s.seq then some f else some o) else jq x pg
 |[]=>by simp [rf,jq]
 |o::l=>by
  rw[rf];by_cases ho:o.s.an=f.s.an
  ·rw[if_pos ho];by_cases hs:o.s.seq<f.s.seq
   ·rw[if_pos hs,jq,jq];by_cases hx:f.s.an=x
    ·simp [hx,ho.trans hx,hs]
    ·have:¬o.s.an=x:=fun e=>hx (ho.symm.trans e)
     simp [hx,this]
   ·rw[if_neg hs,jq];by_cases hx:f.s.an=x
    ·simp [hx,ho.trans hx,hs]
    ·simp [hx]
  ·rw[if_neg ho,jq,E7 x f l,jq];by_cases hx:f.s.an=x
   ·have:¬o.s.an=x:=fun e=>ho (e.trans hx.symm)
    simp [hx,this]
   ·simp [hx]
theorem Nw.Zh {pg S:List Fd} {x:Nat} (h:Nw pg S x) (f:Fd):Nw (rf f pg) (S++[f]) x:=by
 unfold Nw;rw[E7];by_cases hx:f.s.an=x
 ·rw[if_pos hx];right;rcases h with⟨h1,h2⟩|⟨g,h1,h2,h3,h4⟩
  ·rw[h1];refine⟨f,rfl,by simp,hx,fun y hy ha=> ?_⟩;rcases List.mem_append.1 hy with hy|hy
   ·exact absurd ha (h2 y hy)
   ·rw[List.mem_singleton] at hy;rw[hy];exact Nat.le_refl _
  ·rw[h1];by_cases hs:g.s.seq<f.s.seq
   ·refine⟨f,if_pos hs,by simp,hx,fun y hy ha=> ?_⟩;rcases List.mem_append.1 hy with hy|hy
    ·have:=h4 y hy ha;omega
    ·rw[List.mem_singleton] at hy;rw[hy];exact Nat.le_refl _
   ·refine⟨g,if_neg hs,List.mem_append.2 (.inl h2),h3,fun y hy ha=> ?_⟩;rcases List.mem_append.1 hy with hy|hy
    ·exact h4 y hy ha
    ·rw[List.mem_singleton] at hy;rw[hy];omega
 ·rw[if_neg hx];rcases h with⟨h1,h2⟩|⟨g,h1,h2,h3,h4⟩
  ·refine .inl ⟨h1,fun y hy=> ?_⟩;rcases List.mem_append.1 hy with hy|hy
   ·exact h2 y hy
   ·rw[List.mem_singleton] at hy;rw[hy];exact hx
  ·refine .inr ⟨g,h1,List.mem_append.2 (.inl h2),h3,fun y hy ha=> ?_⟩;rcases List.mem_append.1 hy with hy|hy
   ·exact h4 y hy ha
   ·rw[List.mem_singleton] at hy;rw[hy] at ha;exact absurd ha hx
theorem Nw.all {x:Nat}:∀(l:List Fd) {pg S:List Fd},Nw pg S x→Nw (tX pg l) (S++l) x
 |[],pg,S,h=>by simpa [tX] using h
 |f::l,pg,S,h=>by
  have:=Nw.all l (h.Zh f);rw[List.append_assoc] at this;exact this
theorem Nw.aB {x:Nat} {cB:List (Nat×List Fd)}:∀(us:List Nat) {pg S:List Fd},Nw pg S x→Nw (dM cB pg us) (S++us.flatMap fun i=>gR i cB) x
 |[],pg,S,h=>by simpa [dM] using h
 |i::us,pg,S,h=>by
  have:=Nw.aB (cB:=cB) us (h.all (gR i cB));rw[List.append_assoc] at this;exact this
theorem PG (h:Gd v c) {us:List Nat} (uC:us.Nodup) (hout:∀i,i∉us→v i=[]) (x:Nat):(jq x (dM (zH us (us.map fun i=>(i,v i))).1 [] us)=none∧∀b,∀f∈v b,f.s.an≠x)∨∃f,jq x (dM (zH us (us.map fun i=>(i,v i))).1 [] us)=some f∧f∈v f.b∧¬ff v f.b∧wH v c x f:=by
 have hk:((us.map fun i=>(i,v i)).map Prod.fst).Nodup:=by
  rw[List.map_map];have:us.map (Prod.fst ∘ fun i=>(i,v i))=us:=List.map_id _;rw[this];exact uC
 have hg:∀i,gR i (us.map fun i=>(i,v i))=v i:=fun i=>by
  rw[E6 v i us];split
  ·rfl
  ·rename_i hi;exact(hout i hi).symm
 have hsp:=yH h us _ uC hk (fun i=>.inl (hg i)) (fun i _=>hg i);obtain⟨cB,hby⟩:∃cB,cB=(zH us (us.map fun i=>(i,v i))).1:=⟨_,rfl⟩
 rw[←hby] at hsp⊢
 have hS:∀y:Fd,y∈([]++us.flatMap fun i=>gR i cB)↔∃i,y∈v i∧¬ff v i:=fun y=>by
  rw[List.nil_append,List.mem_flatMap];constructor
  ·rintro⟨i,hi,hy⟩;rw[hsp i,hg i] at hy;split at hy
   ·cases hy
   ·rename_i hn;exact⟨i,hy,fun hs=>hn ⟨hi,hs⟩⟩
  ·rintro⟨i,hy,hs⟩;have hi:i∈us:=Classical.byContradiction fun hi=>by rw[hout i hi] at hy;cases hy
   refine⟨i,hi, ?_⟩;rw[hsp i,hg i,if_neg (fun hh=>hs hh.2)];exact hy
 have hN:Nw (dM cB [] us) ([]++us.flatMap fun i=>gR i cB) x:=Nw.aB us (.inl ⟨rfl,fun y hy=>by cases hy⟩)
 have hfind:∀b,∀t∈v b,t.s.an=x→∃u i,u∈v i∧¬ff v i∧u.s.an=x∧u.s.seq≤t.s.seq∧(∀b',∀y∈v b',y.s.an=x→u.s.seq≤y.s.seq→y.s.seq≤t.s.seq→y.s.data=t.s.data∨¬ff v b):=fun b t ht hx=>by
  by_cases hs:ff v b
  ·obtain⟨u,hu,h1,h2,h3,h4⟩:=h.a3 b t ht (hs.2 t ht);refine⟨u,_,hu,qt (h.a7 b t ht (hs.2 t ht)),h1.trans hx,Nat.le_of_lt h2,fun b' y hy HJ hs1 oH=>.inl (h4 b' y hy (HJ.trans hx.symm) hs1 oH)⟩
  ·exact⟨t,b,ht,hs,hx,Nat.le_refl _,fun _ _ _ _ _ _=>.inr hs⟩
 rcases hN with⟨h1,h2⟩|⟨f,h1,h2,h3,h4⟩
 ·refine .inl ⟨h1,fun b t ht hx=> ?_⟩;obtain⟨u,i,hu,hui,hux,_⟩:=hfind b t ht hx;exact h2 u ((hS u).2 ⟨i,hu,hui⟩) hux
 ·obtain⟨i,Qp,his⟩:=(hS f).1 h2;have hfb:=h.nN i f Qp;refine .inr ⟨f,h1,by rw[hfb];exact Qp,by rw[hfb];exact his,h3, ?_⟩;rcases h.a2 x with⟨_,hno⟩|⟨b,t,ht,htx,htd,htn⟩
  ·exact absurd h3 (hno i f Qp)
  ·obtain⟨u,j,hu,huj,hux,qG,abx⟩:=hfind b t ht htx;have huf:=h4 u ((hS u).2 ⟨j,hu,huj⟩) hux
   have key:∀b',∀y∈v b',y.s.an=x→f.s.seq≤y.s.seq→y.s.data=c x:=fun b' y hy HJ hys=>by
    by_cases Zz:t.s.seq≤y.s.seq
    ·exact htn b' y hy HJ Zz
    ·rcases abx b' y hy HJ (by omega) (by omega) with e|hs
     ·rw[e];exact htd
     ·have:=h4 t ((hS t).2 ⟨b,ht,hs⟩) htx;omega
   exact⟨key i f Qp h3 (Nat.le_refl _),key⟩
end
structure Po where
 bl:List (Nat×Nat)
def fk (b:Nat):List (Nat×Nat)→Option Nat
 |[]=>none
 |x::l=>if x.1=b then some x.2 else fk b l
def Po.how (p:Po) (b:Nat):Option Nat:=fk b p.bl
def pR (b h:Nat):List (Nat×Nat)→List (Nat×Nat)
 |[]=>[]
 |x::l=>if x.1=b then (x.1,h)::l else x::pR b h l
def Po.cd (p:Po) (b h:Nat):Po:=⟨pR b h p.bl⟩
def C4:List (Nat×Nat)→Option Nat
 |[]=>none
 |x::l=>if x.2=2 then some x.1 else C4 l
def Po.j3 (p:Po):Option Nat:=C4 p.bl
def Po.count (p:Po) (h:Nat):Nat:=p.bl.countP fun x=>decide (x.2=h)
def Po.jr (p:Po):Po:=match p.j3 with|some o=>p.cd o 1|none=>p
def Po.set (p:Po) (b h:Nat):Po:=if p.how b=some 3∧h≠3 then p else (if h=2 then p.jr else p).cd b h
def fZ (h:Nat) (w:List Int):List (Nat×Nat)→Option Nat→Option Nat
 |[],o=>o
 |x::l,o=>if x.2≠h∨w.length≤x.1 then fZ h w l o else match o with
  |none=>fZ h w l (some x.1)
  |some b=>if w.getD x.1 0<w.getD b 0 then fZ h w l (some x.1) else fZ h w l (some b)
def Po.iK (p:Po) (h:Nat) (w:List Int):Option Nat:=fZ h w p.bl none
def Po.new (bs:List Nat):Po:=⟨bs.map fun b=>(b,0)⟩
structure Po.ok (p:Po):Prop where
 lt:(p.bl.map Prod.fst).Pairwise (· < ·)
 b:∀x∈p.bl,x.1<64
 h:∀x∈p.bl,x.2≤3
theorem jM (b h:Nat):∀l,(pR b h l).map Prod.fst=l.map Prod.fst
 |[]=>rfl
 |x::l=>by
  rw[pR];split
  ·rfl
  ·rw[List.map_cons,jM b h l,List.map_cons]
theorem yI {b h:Nat} {x:Nat×Nat}:∀{l},x∈pR b h l→x∈l∨x=(b,h)
 |y::l,hx=>by
  rw[pR] at hx;split at hx
  ·rename_i e;rcases List.mem_cons.1 hx with rfl|hx
   ·right;rw[e]
   ·exact .inl (List.mem_cons_of_mem _ hx)
  ·rcases List.mem_cons.1 hx with rfl|hx
   ·exact .inl List.mem_cons_self
   ·exact(yI hx).imp (List.mem_cons_of_mem _) id
theorem Po.ok.cd {p:Po} (hp:p.ok) {b h:Nat} (hb:b<64) (hh:h≤3):(p.cd b h).ok:=by
 refine⟨?_,fun x hx=> ?_,fun x hx=> ?_⟩
 ·show ((pR b h p.bl).map Prod.fst).Pairwise _
  rw[jM];exact hp.lt
 ·rcases yI hx with hx|rfl
  ·exact hp.b x hx
  ·exact hb
 ·rcases yI hx with hx|rfl
  ·exact hp.h x hx
  ·exact hh
theorem pS {o:Nat}:∀{l:List (Nat×Nat)},C4 l=some o→(o,2)∈l
 |x::l,h=>by
  rw[C4] at h;split at h
  ·rename_i e;cases h;rw[←e];exact List.mem_cons_self
  ·exact List.mem_cons_of_mem _ (pS h)
theorem Po.ok.jr {p:Po} (hp:p.ok):p.jr.ok:=by
 unfold Po.jr
 cases ho:p.j3 with
 |none=>exact hp
 |some o=>exact hp.cd (hp.b _ (pS ho)) (by omega)
theorem Po.ok.set {p:Po} (hp:p.ok) {b h:Nat} (hb:b<64) (hh:h≤3):(p.set b h).ok:=by
 unfold Po.set;split
 ·exact hp
 ·split
  ·exact hp.jr.cd hb hh
  ·exact hp.cd hb hh
theorem jN {b:Nat}:∀{l:List (Nat×Nat)},(fk b l).isSome=true↔b∈l.map Prod.fst
 |[]=>by simp [fk]
 |x::l=>by
  rw[fk];split
  ·rename_i e;simp [e]
  ·rename_i e;rw[jN,List.map_cons,List.mem_cons];exact⟨.inr,fun h=>h.elim (fun h=>absurd h.symm e) id⟩
theorem Hc (p:Po):p.jr.bl.map Prod.fst=p.bl.map Prod.fst:=by
 unfold Po.jr
 cases p.j3 with
 |none=>rfl
 |some o=>exact jM ..
theorem PH (p:Po) (b h:Nat):(p.set b h).bl.map Prod.fst=p.bl.map Prod.fst:=by
 unfold Po.set;split
 ·rfl
 ·split
  ·exact(jM ..).trans (Hc p)
  ·exact jM ..
def m9:List (Nat×Nat)→Nat→List En
 |[],_=>[]
 |x::l,i=>⟨x.1,.int .u8 x.2,i⟩::m9 l (i+1)
theorem tZ {b:Nat}:∀(l:List (Nat×Nat)) (i:Nat),F6 (b:Int) (m9 l i)=(fk b l).map fun h:Nat=>V.int .u8 (h:Int)
 |[],_=>rfl
 |x::l,i=>by
  rw[m9,F6,fk,tZ l (i+1)];by_cases h:x.1=b
  ·have:(x.1:Int)=(b:Int):=by omega
   simp [h]
  ·have:¬(x.1:Int)=(b:Int):=by omega
   simp [h,this]
theorem E8 {b h:Nat}:∀(l:List (Nat×Nat)) (i:Nat),Aa (b:Int) (.int .u8 (h:Int)) (m9 l i)=m9 (pR b h l) i
 |[],_=>rfl
 |x::l,i=>by
  rw[m9,Aa,pR,E8 l (i+1)];by_cases hx:x.1=b
  ·have:(x.1:Int)=(b:Int):=by omega
   simp [hx,m9]
  ·have:¬(x.1:Int)=(b:Int):=by omega
   simp [hx,this,m9]
theorem Np:∀(l:List (Nat×Nat)) (i:Nat),(m9 l i).map En.b=List.range' i l.length
 |[],_=>rfl
 |x::l,i=>by
  rw[m9,List.map_cons,Np l (i+1),List.length_cons,List.range'_succ]
theorem C5 (l:List (Nat×Nat)):wE (m9 l 0) l.length:=by
 rw[CX,Np];refine⟨List.pairwise_lt_range',fun b hb=> ?_⟩;rw[List.mem_range'_1] at hb;omega
theorem IV:∀(l:List (Nat×Nat)) (x:Nat×Nat) (i:Nat),m9 (l++[x]) i=m9 l i++[⟨x.1,.int .u8 x.2,i+l.length⟩]
 |[],x,i=>rfl
 |y::l,x,i=>by
  show _::m9 (l++[x]) (i+1)=_
  rw[IV l x (i+1)];show _=_::(m9 l (i+1)++_)
  congr 4;simp;omega
structure Pz where
 q:Oq
 c:Nat
 mid:Nat
def Tv (p:Po) (x:Pz):List V:=JV x.q p.bl.length x.c (some x.mid)
def Bd (id:Nat) (p:Po):bV:=JW fun x:Pz=>bo [di id 166 (Tv p x),IR x.q x.c (cR (p.bl.map Prod.fst)),ir x.mid (m9 p.bl 0) p.bl.length]
section
variable {B:ag} {L:List bV} {H:ag} {K:V→ag→Prop} {id:Nat} {p:Po} {x:Pz}
abbrev yJ (B H:ag) (id:Nat) (p:Po) (x:Pz) (L:List bV):Prop:=az B H (di id 166 (Tv p x)::IR x.q x.c (cR (p.bl.map Prod.fst))::ir x.mid (m9 p.bl 0) p.bl.length::L)
theorem yJ.of (h:az B H (Bd id p::L)):∃x,yJ B H id p x L:=by
 obtain⟨x,h⟩:=h.S9;exact⟨x,h.J6⟩
theorem yJ.to (h:yJ B H id p x L):az B H (Bd id p::L):=by
 have h2:az B H (bo [di id 166 (Tv p x),IR x.q x.c (cR (p.bl.map Prod.fst)),ir x.mid (m9 p.bl 0) p.bl.length]::L):=az.rX h;exact az.intro h2
structure PoG (H:ag) (id:Nat) (p:Po) (x:Pz):Prop where
 i0:H.inb id 0 1=true
 i1:H.inb id 1 1=true
 c0:H.cell id 0=.slice x.q p.bl.length x.c
 c1:H.cell id 1=.map (some x.mid)
 w0:H.wr id 0 1=true
 mo:dR H .i64 (some x.mid)=true
 ms:H.isMap x.mid=true
 mg:∀(b:Nat) z,bT H (some x.mid) (b:Int) z=((p.how b).map fun h:Nat=>V.int .u8 (h:Int)).getD z
 mh:∀(b:Nat),kC H (some x.mid) (b:Int)=(p.how b).isSome
 r:∀(i:Nat) (hi:i<p.bl.length),x.q.isSome=true∧H.inb (pb x.q) (po x.q+i*1) 1=true∧H.cell (pb x.q) (po x.q+i*1)=.int .i64 ((p.bl[i]).1:Int)
theorem Tw (h:yJ B H id p x L):PoG H id p x:=by
 have hg:=h.get;have hl:(Tv p x).length=2:=rfl;have hm:=h.ord [2];refine⟨mU hg (by omega),mU hg (by omega),aX hg 0,aX hg 1,fY hg 0 1,tT hm,QV hm,fun b z=> ?_,fun b=> ?_,fun i hi=> ?_⟩
 ·rw[yC hm,tZ];rfl
 ·rw[M7 hm,tZ,Option.isSome_map];rfl
 ·have:=(az.tG (h.ord [1])).at (i:=i) (by simpa using hi);simpa [cR] using this
theorem yJ.cd (h:yJ B H id p x L) {b:Nat} (hb:(p.how b).isSome=true) (hw:Nat):yJ B (gZ H .i64 x.mid (b:Int) (.int .u8 (hw:Int))) id (p.cd b hw) x L:=by
 have h1:=(h.ord [2]).IK (b:Int) (.int .u8 (hw:Int))
 have e:qJ (b:Int) (.int .u8 (hw:Int)) (m9 p.bl 0) p.bl.length=(m9 (p.cd b hw).bl 0,p.bl.length):=by
  unfold qJ;rw[tZ,Option.isSome_map];have:(fk b p.bl).isSome=true:=hb;rw[if_pos this,E8];rfl
 rw[e] at h1
 have hl:(p.cd b hw).bl.length=p.bl.length:=by
  have:=congrArg List.length (jM b hw p.bl);rw[List.length_map,List.length_map] at this;exact this
 unfold yJ Tv;rw[hl,show (p.cd b hw).bl.map Prod.fst=p.bl.map Prod.fst from jM ..];exact h1.ord [1,1]
end
theorem Nq {p:Po} (hp:p.ok) {i:Nat} (hi:i<p.bl.length):p.how (p.bl[i]).1=some (p.bl[i]).2:=by
 have key:∀(l:List (Nat×Nat)) (i:Nat) (hi:i<l.length),(l.map Prod.fst).Pairwise (· < ·)→fk (l[i]).1 l=some (l[i]).2:=by
  intro l
  induction l with
  |nil=>intro i hi;cases hi
  |cons x l ih=>
   intro i hi hp;rw[List.map_cons,List.pairwise_cons] at hp
   cases i with
   |zero=>simp [fk]
   |succ i=>
    have hi':i<l.length:=Nat.lt_of_succ_lt_succ hi;have:=hp.1 (l[i]).1 (List.mem_map.2 ⟨_,List.getElem_mem hi',rfl⟩);rw[List.getElem_cons_succ,fk,if_neg (by omega)];exact ih i hi' hp.2
 exact key _ _ _ hp.lt
theorem Po.ok.E9 {p:Po} (hp:p.ok):(p.bl.map Prod.fst).Nodup:=List.Pairwise.imp (fun {a b} (h:a<b)=>Nat.ne_of_lt h) hp.lt
theorem Po.ok.len {p:Po} (hp:p.ok):p.bl.length≤64:=by
 have h3:=List.Nodup.length_le_of_subset hp.E9 (l₂:=List.range 64) (fun b hb=>by
  obtain⟨x,hx,rfl⟩:=List.mem_map.1 hb
  exact List.mem_range.2 (hp.b x hx))
 simpa using h3
theorem Be (h:Nat):∀(l:List (Nat×Nat)) (i:Nat),(m9 l i).countP (fun y=>decide (V.aa y.v=(h:Int)))=l.countP fun x=>decide (x.2=h)
 |[],_=>rfl
 |x::l,i=>by
  rw[m9,List.countP_cons,List.countP_cons,Be h l (i+1)];have:decide (V.aa (V.int .u8 (x.2:Int))=(h:Int))=decide (x.2=h):=decide_eq_decide.2 (by rw[bK];omega);simp only[this]
theorem IW:∀(l:List (Nat×Nat)) (i:Nat),∀e∈m9 l i,∃h:Nat,e.v=.int .u8 (h:Int)
 |x::l,i,e,he=>by
  rw[m9] at he;rcases List.mem_cons.1 he with rfl|he
  ·exact⟨_,rfl⟩
  ·exact IW l _ e he
section
variable {B:ag} {L L':List bV} {H:ag} {K:V→ag→Prop} {id:Nat} {p:Po} {x:Pz}
theorem Fa (hx:yJ B H id p x L) (hp:p.ok) {Kr:Am.St→Prop} {Ke:Nat→Am.St→Prop}:∀(k i:Nat),i+k=p.bl.length→(match C4 (p.bl.drop i) with
 |some o=>Kr (St.mk (ab [(2,T.v (V.int .i64 (o:Int))),(3,T.v (V.bool true))]) (ab []) H)
 |none=>Ke 0 (St.mk (ab []) (ab []) H))→
 lo 103 4
  (St.mk (ab [(0,T.v (V.ak (some (id,0)))),(11,T.v (V.slice x.q p.bl.length x.c)),(12,T.v (V.int .i64 (p.bl.length:Int))),(13,T.v (V.int .i64 (i:Int)))]) (ab []) H) Kr Ke
 |0,i,hi,hk=>by
  obtain rfl:i=p.bl.length:=by omega
  rw[List.drop_length] at hk;rw[Ic,decide_eq_false (by omega),ai];exact hk
 |k+1,i,hi,hk=>by
  have hlt:i<p.bl.length:=by omega
  have g:=Tw hx;obtain⟨s1,i1,c1⟩:=g.r i hlt;have a1:(i:Int)<(p.bl.length:Int):=by omega
  have a2:0≤(i:Int):=by omega
  have hh:=Nq hp hlt;have hb:=hp.b _ (List.getElem_mem hlt);have hle:=hp.len;rw[List.drop_eq_getElem_cons hlt,C4] at hk;rw[Ic];simp only[AJ,reduceIte,Nat.reduceEqDiff,a1,a2,Int.toNat_natCast,s1,i1,c1,Option.isSome_some,Nat.zero_add,g.i1,g.c1,V.cA,V.aw,g.mo,g.mg,hh,Option.map_some];by_cases h2:(p.bl[i]).2=2
  ·have Aj:((p.bl[i]).2:Int)=2:=by omega
   rw[if_pos h2] at hk;simp only[Aj,decide_true,aq];exact hk
  ·have Aj:¬((p.bl[i]).2:Int)=2:=by omega
   rw[if_neg h2] at hk;simp only[Aj,decide_false,ai];rw[aJ (by omega)];exact Fa hx hp k (i+1) (by omega) hk
theorem Fb (h:az B H (Bd id p::L)) (hp:p.ok):(K (.tuple [.int .i64 ((p.j3.getD 0:Nat):Int),.bool p.j3.isSome]) H)→cl 103 [.ak (some (id,0))] H K:=by
 intro k;obtain⟨x,hx⟩:=yJ.of h;have g:=Tw hx;rw[WJ];simp only[AJ,reduceIte,Nat.reduceEqDiff,Option.isNone_some,Option.isSome_some,g.i0,g.c0];refine Fa hx hp p.bl.length 0 (by omega) ?_;rw[List.drop_zero];have e:C4 p.bl=p.j3:=rfl;rw[e]
 cases ho:p.j3 with
 |none=>simp only[AJ,reduceIte,Nat.reduceEqDiff];rw[ho] at k;exact k
 |some o=>simp only[AJ,reduceIte,Nat.reduceEqDiff];rw[ho] at k;exact k
theorem Bf {mid it:Nat} (hp:p.ok) (hw:Nat) {Kr:Am.St→Prop} {Ke:Nat→Am.St→Prop} (hk:∀H',az B H' L→Ke 0 (St.mk (ab [(5,T.v (V.int .i64 (p.count hw:Int)))]) (ab []) H')) (hL:∀H seen,az B H (ob it (.dz (some mid) p.bl.length seen p.bl.length)::ir mid (m9 p.bl 0) p.bl.length::L')→az B H L):∀(k:Nat) (seen:List Nat) {H:ag},(m9 p.bl 0).countP (fun y=>decide (y.b∉seen))≤k→az B H (ob it (.dz (some mid) p.bl.length seen p.bl.length)::ir mid (m9 p.bl 0) p.bl.length::L')→lo 93 5 (St.mk (ab [(1,T.v (V.int .u8 (hw:Int))),(5,T.v (V.int .i64 (((m9 p.bl 0).countP (fun y=>decide (y.b∈seen)&&decide (V.aa y.v=(hw:Int))):Nat):Int))),(14,T.v (V.dz 164 it))]) (ab []) H) Kr Ke
 |k,seen,H,hle,h=>by
  rw[Td];refine h.M9 (C5 _) (fun hall=> ?_) (fun e he hn H' h' hok hkey hval=> ?_)
  ·have e1:(m9 p.bl 0).countP (fun y=>decide (y.b∈seen)&&decide (V.aa y.v=(hw:Int)))=p.count hw:=by
    unfold Po.count;rw[←Be hw p.bl 0];apply List.countP_congr;intro y hy;simp [hall y hy]
   rw[e1];exact hk H (hL H seen h)
  ·obtain⟨hv,ev⟩:=IW _ _ e he;have hs:=n5 (fun y=>decide (V.aa y.v=(hw:Int))) hn (C5 p.bl).lt he;have oH:=n5 (fun _=>true) hn (C5 p.bl).lt he;simp only[Bool.and_true,if_true] at oH
   have hlen:(m9 p.bl 0).length=p.bl.length:=by
    have:=congrArg List.length (Np p.bl 0);simpa using this
   have abS:=hp.len
   have vE:∀(q:En→Bool),(m9 p.bl 0).countP q≤64:=fun q=>by
    have:=List.countP_le_length (p:=q) (l:=m9 p.bl 0);omega
   have hneg:∀s:List Nat,(m9 p.bl 0).countP (fun y=>decide (y.b∈s))+(m9 p.bl 0).countP (fun y=>decide (y.b∉s))=(m9 p.bl 0).length:=by
    intro s;have:=List.length_eq_countP_add_countP (fun y:En=>decide (y.b∈s)) (l:=m9 p.bl 0);rw[this];congr 1;apply List.countP_congr;intro y _;simp
   have n1:=hneg seen;have n2:=hneg (seen++[e.b])
   cases k with
   |zero=>omega
   |succ k=>
    rw[ev] at hval hs;simp only[hok,hkey,hval,AJ,reduceIte,Nat.reduceEqDiff];have ih:=Bf hp hw hk hL k (seen++[e.b]) (H:=H') (by omega) h' (Kr:=Kr);rw[hs] at ih;by_cases hh:(hv:Int)=(hw:Int)
    ·simp only[hh,decide_true,aq];rw[aJ (by have:=vE (fun y=>decide (y.b∈seen)&&decide (V.aa y.v=(hw:Int)));omega)];simpa [hh] using ih
    ·simp only[hh,decide_false,ai];simpa [hh] using ih
theorem vo (h:az B H (Bd id p::L)) (hp:p.ok) (hw:Nat) (k:∀H',az B H' (Bd id p::L)→K (.int .i64 (p.count hw:Int)) H'):cl 93 [.ak (some (id,0)),.int .u8 (hw:Int)] H K:=by
 obtain⟨x,hx⟩:=yJ.of h;have g:=Tw hx;rw[aaG];simp only[AJ,reduceIte,Nat.reduceEqDiff,Option.isNone_some,Option.isSome_some,Nat.zero_add,g.i1,g.c1,V.cA,V.aw,g.ms];have h1:=(hx.ord [2]).Na
 have:=Bf (L':=di id 166 (Tv p x)::IR x.q x.c (cR (p.bl.map Prod.fst))::L) (L:=Bd id p::L) (mid:=x.mid) (it:=H.next) hp hw (Kr:=fun _=>False)
  (Ke:=fun j S'=>br (decide (j=0)) (ah (aG (KT.k (.int .i64)) (S'.1 5)) (K (V.int .i64 (V.aa (T.val (S'.1 5)))) S'.3)) False) (fun H' h'=>by simp only[AJ,reduceIte,Nat.reduceEqDiff];exact k H' h')
  (fun H seen hh=>yJ.to (x:=x) ((hh.drop).ord [1,1])) _ [] (Nat.le_refl _) h1
 simpa using this
theorem kg (h:az B H (Bd id p::L)) (hp:p.ok) {b hw:Nat} (hb:(p.how b).isSome=true) (hh:hw≤3) (k:∀e H',az B H' (Bd id (p.set b hw)::L)→K (.int .i64 e) H'):cl 63 [.ak (some (id,0)),.int .i64 (b:Int),.int .u8 (hw:Int)] H K:=by
 obtain⟨x,hx⟩:=yJ.of h;have g:=Tw hx;obtain⟨w,YI⟩:=Option.isSome_iff_exists.1 hb;rw[aat];have a1:¬(hw:Int)>3:=by omega
 simp only[AJ,reduceIte,Nat.reduceEqDiff,Option.isNone_some,Option.isSome_some,Nat.zero_add,g.i1,g.c1,V.cA,V.aw,g.mo,g.mg,g.mh,YI,Option.map_some,cond_true,a1];unfold Po.set at k;rw[YI] at k;by_cases hd:w=3∧hw≠3
 ·have e:(decide ((w:Int)=3)&& !decide ((hw:Int)=3))=true:=by
   have h1:(w:Int)=3:=by omega
   have h2:¬(hw:Int)=3:=by omega
   simp [h1,h2]
  have hd':(some w=some 3∧hw≠3):=⟨by rw[hd.1],hd.2⟩;rw[if_pos hd'] at k;rw[e,aq];exact k _ _ (yJ.to hx)
 ·have e:(decide ((w:Int)=3)&& !decide ((hw:Int)=3))=false:=by
   by_cases h1:w=3
   ·have h2:(hw:Int)=3:=by omega
    simp [h2]
   ·have wi:¬(w:Int)=3:=by omega
    simp [wi]
  have hd':¬(some w=some 3∧hw≠3):=fun hh=>hd ⟨Option.some.inj hh.1,hh.2⟩
  rw[if_neg hd'] at k;rw[e,ai];by_cases h2:hw=2
  ·rw[if_pos h2] at k;have Aj:(hw:Int)=2:=by omega
   simp only[Aj,decide_true,aq];refine Fb (yJ.to hx) hp ?_;simp only[AJ,reduceIte,Nat.reduceEqDiff];unfold Po.jr at k
   cases ho:p.j3 with
   |none=>
    rw[ho] at k;simp only[Option.isSome_none,ai,g.i1,g.c1,V.cA,V.aw,g.mo,AJ,reduceIte,Nat.reduceEqDiff,Option.isSome_some];have:=hx.cd hb hw;rw[Aj] at this;exact k _ _ (yJ.to this)
   |some o=>
    rw[ho] at k;have hob:(p.how o).isSome=true:=jN.2 (List.mem_map.2 ⟨_,pS ho,rfl⟩);have h3:=hx.cd hob 1;have g3:=Tw h3
    have DQ:((p.cd o 1).how b).isSome=true:=by
     refine jN.2 ?_;show b∈(pR o 1 p.bl).map Prod.fst
     rw[jM];exact jN.1 hb
    have h4:=h3.cd DQ hw;rw[Aj] at h4;simp only[Option.isSome_some,aq,g.i1,g.c1,V.cA,V.aw,g.mo,AJ,reduceIte,Nat.reduceEqDiff,Option.getD_some];have e1:(((1:Nat):Int))=1:=rfl;rw[e1] at h3 g3 h4;simp only[g3.i1,g3.c1,V.cA,V.aw,g3.mo,AJ,reduceIte,Nat.reduceEqDiff,Option.isSome_some];exact k _ _ (yJ.to h4)
  ·rw[if_neg h2] at k;have Aj:¬(hw:Int)=2:=by omega
   simp only[Aj,decide_false,ai,g.i1,g.c1,V.cA,V.aw,g.mo,AJ,reduceIte,Nat.reduceEqDiff,Option.isSome_some];exact k _ _ (yJ.to (hx.cd hb hw))
end
section
variable {B:ag} {L L':List bV} {H:ag} {K:V→ag→Prop} {id:Nat} {p:Po} {x:Pz} {q:Oq} {c:Nat} {l:List Int}
theorem Kk (h:az B H L) (hr:MH H q l) (hb:l.length≤1000000) (k:∀q' c' H',az B H' (IR q' c' l::L)→K (.slice q' l.length c') H'):cl 101 [.slice q l.length c] H K:=by
 rw[WH]
 cases q with
 |none=>
  have:l=[]:=by
   rcases hr with h|⟨_,_,_,_,_,h,_⟩
   ·simpa [vf] using h
   ·cases h
  subst this;exact k none 0 H (az.tH h)
 |some q=>
  rw[Option.isNone_some,ai];have h1:az B (H.alloc (.cells 3 [] false)) (Rw 3 1 (some (H.next,0)) 0 []::L):=h.CH (el:=3) (n:=1) (len:=0) (c:=0) (l:=[]) (cs:=[]) (by simp) (fun v hv=>by cases hv) (by omega) (by simp) (by simp)
  have Ai:Rd (H.alloc (.cells 3 [] false)) (some q) (l.map fun i=>[V.int .i64 i]).flatten:=by
   rw[vg];exact Rd.fr hr h.ok (Fr.alloc H _ (fun _=>False)) (fun _ _ _=>id)
  have hu:pH 1 (l.map fun i=>[V.int .i64 i]):=by
   intro c hc;obtain⟨r,_,rfl⟩:=List.mem_map.1 hc;exact⟨rfl,fun v hv=>by rw[List.mem_singleton] at hv;subst hv;rfl⟩
  have:=h1.XF (c2:=c) (K:=fun q n c H'=>K (.slice q n c) H') Iy Iz (fun v hv=>by rw[List.mem_singleton] at hv;subst hv;rfl) rfl (by omega) Ai hu (by simp;omega) (fun q' c' H' h'=>by
   have:=k q' c' H' h'
   simpa using this)
  simpa using this
theorem PI {b:Nat} {l:List Nat} (h:∀x∈l,x<b):F6 (b:Int) (m9 (l.map fun b=>(b,0)) 0)=none:=by
 rw[tZ]
 have:fk b (l.map fun b=>(b,0))=none:=by
  cases hh:fk b (l.map fun b=>(b,0)) with
  |none=>rfl
  |some y=>
   have:=jN.1 (by rw[hh];rfl:(fk b (l.map fun b=>(b,0))).isSome=true);rw[List.map_map] at this;obtain⟨z,hz,rfl⟩:=List.mem_map.1 this;have:=h z hz;simp at this
 rw[this];rfl
theorem IX {mid:Nat} {l:List Nat} (hr:EM B L q (cR l)) (hlt:l.Pairwise (· < ·)) (hb:∀b∈l,b<64) (hl:l.length≤64) {Kr:Am.St→Prop} {Ke:Nat→Am.St→Prop} (hk:∀H',az B H' (di id 166 (JV none 0 0 (some mid))::ir mid (m9 (l.map fun b=>(b,0)) 0) l.length::L)→Ke 0 (St.mk (ab [(0,T.v (V.slice q l.length c)),(4,T.v (V.ak (some (id,0))))]) (ab []) H')):∀(k i:Nat) {H:ag},i+k=l.length→az B H (di id 166 (JV none 0 0 (some mid))::ir mid (m9 ((l.take i).map fun b=>(b,0)) 0) i::L)→lo 60 3 (St.mk (ab [(0,T.v (V.slice q l.length c)),(4,T.v (V.ak (some (id,0)))),(10,T.v (V.slice q l.length c)),(11,T.v (V.int .i64 (l.length:Int))),(12,T.v (V.int .i64 (i:Int)))]) (ab []) H) Kr Ke
 |0,i,H,hi,h=>by
  obtain rfl:i=l.length:=by omega
  rw[List.take_length] at h;rw[Mq,decide_eq_false (by omega),ai];exact hk H h
 |k+1,i,H,hi,h=>by
  have lY:i<l.length:=by omega
  have Zt:=hr H h.drop.drop;obtain⟨s1,i1,c1⟩:=Zt.at (i:=i) (by simpa using lY);have e1:(cR l)[i]'(by simpa using lY)=(l[i]:Int):=by simp [cR]
  rw[e1] at c1;have hg:=h.get;have ZA:(JV none 0 0 (some mid)).length=2:=rfl;have j1:H.inb id 1 1=true:=mU hg (by omega);have d1:H.cell id 1=.map (some mid):=aX hg 1;have hm:=h.swap;have hmo:=tT hm;have a1:(i:Int)<(l.length:Int):=by omega
  have a2:0≤(i:Int):=by omega
  have hbi:=hb _ (List.getElem_mem lY);have a3:¬(l[i]:Int)<0:=by omega
  have a4:¬(l[i]:Int)≥64:=by omega
  rw[Mq];simp only[AJ,reduceIte,Nat.reduceEqDiff,a1,a2,Int.toNat_natCast,s1,i1,c1,a3,a4,aO,cond_true,if_true,Bool.false_eq_true,if_false,Option.isSome_some,Nat.zero_add];have gi:=hm.IK (l[i]:Int) (.int .u8 0)
  have DH:qJ (l[i]:Int) (.int .u8 0) (m9 ((l.take i).map fun b=>(b,0)) 0) i=(m9 ((l.take (i+1)).map fun b=>(b,0)) 0,i+1):=by
   unfold qJ
   rw[PI (fun x hx=>by
    obtain⟨j,hj,rfl⟩:=List.mem_iff_getElem.1 hx;rw[List.length_take] at hj;rw[List.getElem_take]
    exact List.pairwise_iff_getElem.1 hlt _ _ (by omega) lY (by omega))]
   rw[List.take_succ_eq_append_getElem lY,List.map_append,List.map_singleton,IV];have:(0:Nat)+((l.take i).map fun b=>(b,(0:Nat))).length=i:=by simp;omega
   simp only[this];rfl
  rw[DH] at gi;have ih:=IX (Kr:=Kr) hr hlt hb hl hk k (i+1) (by omega) gi.swap;by_cases h0:i=0
  ·subst h0;have b1:¬((0:Nat):Int)>0:=by omega
   have b2:IntKind.i64.wrap (((0:Nat):Int)+1)=((0+1:Nat):Int):=aJ (by omega);simp only[b1,decide_false,Bool.false_and,ai,Bool.false_eq_true,if_false,aA,j1,d1,V.cA,V.aw,hmo,AJ,reduceIte,Nat.reduceEqDiff,Option.isSome_some,b2];exact ih
  ·obtain⟨j,rfl⟩:∃j,i=j+1:=⟨i-1,by omega⟩;have b1:((j+1:Nat):Int)>0:=by omega
   have b2:IntKind.i64.wrap (((j+1:Nat):Int)-1)=(j:Int):=by rw[bn (by omega) (by omega)];omega
   have b3:0≤(j:Int):=by omega
   have b4:(j:Int)<(l.length:Int):=by omega
   obtain⟨t1,t2,t3⟩:=Zt.at (i:=j) (by simp;omega);have e2:(cR l)[j]'(by simp;omega)=(l[j]:Int):=by simp [cR]
   rw[e2] at t3;have F3:l[j]<l[j+1]:=List.pairwise_iff_getElem.1 hlt _ _ (by omega) lY (by omega);have b5:¬(l[j+1]:Int)≤(l[j]:Int):=by omega
   have b6:IntKind.i64.wrap (((j+1:Nat):Int)+1)=((j+1+1:Nat):Int):=aJ (by omega);simp only[b1,b2,b3,b4,b5,t1,t2,t3,Int.toNat_natCast,decide_true,decide_false,Bool.and_false,ai,if_true,aA,j1,d1,V.cA,V.aw,hmo,AJ,reduceIte,Nat.reduceEqDiff,Option.isSome_some,b6];exact ih
theorem PJ {l:List Nat} (h:az B H L) (hr:EM B L q (cR l)) (hlt:l.Pairwise (· < ·)) (hb:∀b∈l,b<64) (hl:l.length≤64) (k:∀id H',az B H' (Bd id (Po.new l)::L)→K (.tuple [.ak (some (id,0)),.int .i64 0]) H'):cl 60 [.slice q l.length c] H K:=by
 rw[aaq];have h1:=h.M6;have h2:=h1.alloc 166 (JV none 0 0 (some H.next));refine IX hr hlt hb hl (fun H' h'=> ?_) l.length 0 (by omega) h2;simp only[AJ,reduceIte,Nat.reduceEqDiff];have hg:=h'.get;have hn:(cR l).length≤1000000:=by simp;omega
 have hC:=Kk (c:=c) (K:=fun v H'=>ah (V.aw .slice v) (ah (H'.wr (H.alloc (.map [] 0)).next 0 1) (K (.tuple [.ak (some ((H.alloc (.map [] 0)).next,0)),.int .i64 0]) (H'.store (H.alloc (.map [] 0)).next 0 [.slice (V.au v) (V.ax v) (V.aC v)]))))
  h' ((hr.bg _).bg _ H' h') hn (fun q' c' H2 h2=> ?_)
 ·rw[gu] at hC;simpa [AJ,reduceIte,Nat.reduceEqDiff] using hC
 ·obtain⟨w,h3⟩:=(h2.ord [1]).AT (k:=0) (by show 0<2;omega) (.slice q' (cR l).length c');simp only[AJ,reduceIte,Nat.reduceEqDiff,w];refine k _ _ (yJ.to (x:=⟨q',c',H.next⟩) ?_);unfold yJ Tv Po.new;rw[List.length_map,List.map_map];have e:((Prod.fst ∘ fun b=>(b,0)):Nat→Nat)=id:=rfl;rw[e,List.map_id];rw[gu] at h3⊢;exact h3.ord [0,0]
theorem lX (h:Nat) (w:List Int) (x:Nat×Nat) (l:List (Nat×Nat)) (o:Option Nat):fZ h w (x::l) o=if x.2≠h∨w.length≤x.1 then fZ h w l o else match o with
 |none=>fZ h w l (some x.1)
 |some b=>if w.getD x.1 0<w.getD b 0 then fZ h w l (some x.1) else fZ h w l (some b):=by
 cases o<;>rfl
theorem nc {wq:Oq} {wc:Nat} {w:List Int} (hx:yJ B H id p x L) (hp:p.ok) (hr:MH H wq w) (hw:Nat) {Kr:Am.St→Prop} {Ke:Nat→Am.St→Prop}:∀(k i:Nat) (o:Option Nat),i+k=p.bl.length→(∀b,o=some b→b<w.length)→Ke 0 (St.mk (ab [(8,T.v (V.int .i64 (((fZ hw w (p.bl.drop i) o).getD 0:Nat):Int))),(9,T.v (V.bool (fZ hw w (p.bl.drop i) o).isSome))]) (ab []) H)→lo 153 6 (St.mk (ab [(0,T.v (V.ak (some (id,0)))),(1,T.v (V.int .u8 (hw:Int))),(2,T.v (V.slice wq w.length wc)),(8,T.v (V.int .i64 ((o.getD 0:Nat):Int))),(9,T.v (V.bool o.isSome)),(17,T.v (V.slice x.q p.bl.length x.c)),(18,T.v (V.int .i64 (p.bl.length:Int))),(19,T.v (V.int .i64 (i:Int)))]) (ab []) H) Kr Ke
 |0,i,o,hi,ho,hk=>by
  obtain rfl:i=p.bl.length:=by omega
  rw[List.drop_length] at hk;rw[Ij,decide_eq_false (by omega),ai];exact hk
 |k+1,i,o,hi,ho,hk=>by
  have hlt:i<p.bl.length:=by omega
  have g:=Tw hx;obtain⟨s1,i1,c1⟩:=g.r i hlt;have a1:(i:Int)<(p.bl.length:Int):=by omega
  have a2:0≤(i:Int):=by omega
  have hh:=Nq hp hlt;have hle:=hp.len;rw[List.drop_eq_getElem_cons hlt,lX] at hk;rw[Ij];simp only[AJ,reduceIte,Nat.reduceEqDiff,a1,a2,Int.toNat_natCast,s1,i1,c1,Option.isSome_some,Nat.zero_add,g.i1,g.c1,V.cA,V.aw,g.mo,g.mg,hh,Option.map_some,Bool.not_not];rw[aJ (by omega)];by_cases hc:(p.bl[i]).2≠hw∨w.length≤(p.bl[i]).1
  ·rw[if_pos hc] at hk
   have e:(bif decide (((p.bl[i]).2:Int)=(hw:Int)) then decide (((p.bl[i]).1:Int)≥(w.length:Int)) else true)=true:=by
    rcases hc with hc|hc
    ·have:¬((p.bl[i]).2:Int)=(hw:Int):=by omega
     simp [this]
    ·have:((p.bl[i]).1:Int)≥(w.length:Int):=by omega
     simp only[this,decide_true];cases decide (((p.bl[i]).2:Int)=(hw:Int))<;>rfl
   rw[e,aq];exact nc hx hp hr hw k (i+1) o (by omega) ho hk
  ·rw[if_neg hc] at hk;have h1:((p.bl[i]).2:Int)=(hw:Int):=by omega
   have h2:¬((p.bl[i]).1:Int)≥(w.length:Int):=by omega
   have h3:(p.bl[i]).1<w.length:=by omega
   simp only[h1,h2,decide_true,decide_false,cond_true,ai]
   cases o with
   |none=>
    simp only[Option.isSome_none,aO,Bool.false_eq_true,if_false,aA,cond_false,aq];exact nc hx hp hr hw k (i+1) (some (p.bl[i]).1) (by omega) (fun b hb=>by cases hb;exact h3) hk
   |some b0=>
    have hb0:=ho b0 rfl;obtain⟨t1,t2,t3⟩:=hr.at h3;obtain⟨u1,u2,u3⟩:=hr.at hb0;have c1:0≤((p.bl[i]).1:Int):=by omega
    have c2:((p.bl[i]).1:Int)<(w.length:Int):=by omega
    have c3:0≤(b0:Int):=by omega
    have c4:(b0:Int)<(w.length:Int):=by omega
    have w1:w.getD (p.bl[i]).1 0=w[(p.bl[i]).1]:=by rw[List.getD_eq_getElem?_getD,List.getElem?_eq_getElem h3];rfl
    have w2:w.getD b0 0=w[b0]:=by rw[List.getD_eq_getElem?_getD,List.getElem?_eq_getElem hb0];rfl
    simp only[w1,w2] at hk;simp only[Option.isSome_some,Option.getD_some,aO,if_true,c1,c2,c3,c4,t1,t2,t3,u1,u2,u3,Int.toNat_natCast,AJ,reduceIte,Nat.reduceEqDiff,cond_true];by_cases F3:w[(p.bl[i]).1]<w[b0]
    ·rw[if_pos F3] at hk;simp only[F3,decide_true,aq];exact nc hx hp hr hw k (i+1) (some (p.bl[i]).1) (by omega) (fun b hb=>by cases hb;exact h3) hk
    ·rw[if_neg F3] at hk;simp only[F3,decide_false,ai];exact nc hx hp hr hw k (i+1) (some b0) (by omega) ho hk
theorem Bg {wq:Oq} {wc:Nat} {w:List Int} (h:az B H (Bd id p::L)) (hp:p.ok) (hr:MH H wq w) (hw:Nat):(K (.tuple [.int .i64 (((p.iK hw w).getD 0:Nat):Int),.bool (p.iK hw w).isSome]) H)→cl 153 [.ak (some (id,0)),.int .u8 (hw:Int),.slice wq w.length wc] H K:=by
 intro k;obtain⟨x,hx⟩:=yJ.of h;have g:=Tw hx;rw[Xe];simp only[AJ,reduceIte,Nat.reduceEqDiff,Option.isNone_some,Option.isSome_some,g.i0,g.c0];refine nc hx hp hr hw p.bl.length 0 none (by omega) (fun b hb=>by cases hb) ?_;rw[List.drop_zero];simp only[AJ,reduceIte,Nat.reduceEqDiff];exact k
end
structure Ft where
 ep:Nat
 pm:Pm
 po:Po
 seq:Nat
structure FS where
 a:Ar
 f:Ft
def FS.bw (s:FS) (b h:Nat):FS:={s with f:={s.f with po:=s.f.po.set b h}}
def FS.next (s:FS) (b:Nat):Nat:=(s.a.bs.getD b fj).pg.length
def bC (s:FS) (b:Nat):FS×Int:=
 if (dF s.a b s.f.ep).2=0 then (FS.bw {s with a:=(dF s.a b s.f.ep).1} b 0,0)
 else if (dF s.a b s.f.ep).2=8 then (FS.bw {s with a:=(dF s.a b s.f.ep).1} b 3,0)
 else ({s with a:=(dF s.a b s.f.ep).1},(dF s.a b s.f.ep).2)
def iP (n:Nat):Nat:=(n+1) % 18446744073709551616
def bQ (s:FS) (b:Nat) (x:Sh):FS×Int:=
 let y:={x with ep:=s.f.ep,seq:=iP s.f.seq}
 let r:=fq s.a b (s.next b) (dK y) s.f.ep
 if r.2=8∨r.2=6 then (⟨r.1,{s.f with seq:=iP s.f.seq,po:=s.f.po.set b 3}⟩,8)
 else if r.2=0 then (⟨r.1,{s.f with seq:=iP s.f.seq,pm:=s.f.pm.put x.an (some (b,s.next b))}⟩,0)
 else (⟨r.1,{s.f with seq:=iP s.f.seq}⟩,r.2)
def FS.PK (s:FS):List Int:=s.a.bs.map Bk.er
def FS.cZ (s:FS):Option Nat:=s.f.po.iK 0 s.PK
def FS.iK (s:FS):Option Nat:=s.f.po.iK 1 s.f.pm.gS
def FS.nf (s:FS) (an:Nat):Option Sh:=match s.f.pm.ct.getD an none with
 |none=>some ⟨2,0,0,an,0,[]⟩
 |some (b,p)=>if (fp s.a b p).1=0 then eU (fp s.a b p).2 else none
structure aW (g:bW) (s:FS):Prop where
 n:(s.a.bs.length:Int)=g.aB
 p:s.a.ay=g.ay
 len:∀b∈s.a.bs,(b.pg.length:Int)≤g.ay
 d:∀b∈s.a.bs,∀d∈b.pg,d.length=96
 pm:s.f.pm.ok
 nb:(s.f.pm.nb:Int)=g.aB
 na:(s.f.pm.ct.length:Int)=g.cap+1
 po:s.f.po.ok
 us:s.f.po.bl.map Prod.fst=g.us
 seq:s.f.seq<18446744073709551616
 ep:s.f.ep<18446744073709551616
def OK (aK:Nat) (m:Gm) (f:Ft) (mid pid:Nat):List V:=RX (some (aK,0)) m.g.aB m.g.ay m.g.aF m.q m.g.bB.length m.c (f.ep:Int) (some (mid,0)) (some (pid,0)) (f.seq:Int)
section
variable {B:ag} {L:List bV} {H:ag} {K:V→ag→Prop} {aK fid mid pid:Nat} {m:Gm} {s:FS}
abbrev fH (B H:ag) (aK fid mid pid:Nat) (m:Gm) (s:FS) (L:List bV):Prop:=
 az B H (di fid 120 (OK aK m s.f mid pid)::sE mid s.f.pm::Bd pid s.f.po::cO aK s.a::L)
structure FtG (H:ag) (aK fid mid pid:Nat) (m:Gm) (s:FS):Prop where
 i:∀k<9,H.inb fid k 1=true
 c0:H.cell fid 0=.ak (some (aK,0))
 c1:H.cell fid 1=.int .i64 m.g.aB
 c2:H.cell fid 2=.int .i64 m.g.ay
 c3:H.cell fid 3=.int .i64 m.g.aF
 c5:H.cell fid 5=.int .u64 (s.f.ep:Int)
 c6:H.cell fid 6=.ak (some (mid,0))
 c7:H.cell fid 7=.ak (some (pid,0))
 c8:H.cell fid 8=.int .u64 (s.f.seq:Int)
 g:H.inb fid 1 4=true∧H.sub fid 1 4=cV m.g.aB m.g.ay m.g.aF m.q m.g.bB.length m.c
 w:H.wr fid 8 1=true
theorem wa (h:fH B H aK fid mid pid m s L):FtG H aK fid mid pid m s:=by
 have hg:=h.get;refine⟨fun k hk=>mU hg (by show k<9;exact hk),aX hg 0,aX hg 1,aX hg 2,aX hg 3,aX hg 5,aX hg 6,aX hg 7,aX hg 8,⟨dP hg 1 4, ?_⟩,fY hg 8 1⟩;rw[lU hg];rfl
theorem fH.arr (h:fH B H aK fid mid pid m s L):az B H (cO aK s.a::di fid 120 (OK aK m s.f mid pid)::sE mid s.f.pm::Bd pid s.f.po::L):=h.ord [3]
theorem fH.pm (h:fH B H aK fid mid pid m s L):az B H (sE mid s.f.pm::di fid 120 (OK aK m s.f mid pid)::Bd pid s.f.po::cO aK s.a::L):=h.ord [1]
theorem fH.po (h:fH B H aK fid mid pid m s L):az B H (Bd pid s.f.po::di fid 120 (OK aK m s.f mid pid)::sE mid s.f.pm::cO aK s.a::L):=h.ord [2]
theorem aW.how {g:bW} (hok:aW g s) {b:Nat} (hb:b∈g.us):(s.f.po.how b).isSome=true:=jN.2 (by rw[hok.us];exact hb)
theorem ng {g:bW} {b:Nat} (hb:b∈g.us):(b:Int)<g.aB:=by
 unfold bW.us at hb;have:=(List.mem_filter.1 hb).1;have:=List.mem_of_mem_drop this;rw[List.mem_range] at this;omega
theorem aW.lt {g:bW} (hok:aW g s) {b:Nat} (hb:b∈g.us):b<s.a.bs.length:=by
 have:=ng hb;have:=hok.n;omega
theorem aW.bw {g:bW} (hg:g.In) (hok:aW g s) {b h:Nat} (hb:b∈g.us) (hh:h≤3):aW g (s.bw b h):=
 {hok with
  po:=hok.po.set (by have:=ng hb;have:=hg.b;omega) hh
  us:=by show (s.f.po.set b h).bl.map Prod.fst=_;rw[PH];exact hok.us}
theorem Hd {a:Ar} {b:Nat} {e:Int} {P:Ar→Prop} (h0:P a) (h1:∀bs:List Bk,bs.length=a.bs.length→(∀x∈bs,x∈a.bs∨(∃y∈a.bs,x.pg=y.pg)∨x.pg=[])→∀a':Ar,a'.bs=bs→a'.ay=a.ay→P a'):P (dF a b e).1:=by
 unfold dF;split
 ·exact h0
 split
 ·exact h0
 split
 ·exact h0
 rename_i bk hbk;have hmem:=List.mem_of_getElem? hbk
 have key:∀x∈(bq a b bk).bs,x∈a.bs∨(∃y∈a.bs,x.pg=y.pg)∨x.pg=[]:=by
  intro x hx;rcases List.mem_or_eq_of_mem_set hx with hx|rfl
  ·exact .inl hx
  ·exact .inr (.inl ⟨bk,hmem,bu bk⟩)
 split
 ·exact h1 (bq a b bk).bs (fF ..) key _ rfl rfl
 split
 ·refine h1 _ (by simp [fF]) (fun x hx=> ?_) _ rfl rfl;rcases List.mem_or_eq_of_mem_set hx with hx|rfl
  ·exact key x hx
  ·exact .inr (.inl ⟨bk,hmem,bu bk⟩)
 ·refine h1 _ (by simp [fF]) (fun x hx=> ?_) _ rfl rfl;rcases List.mem_or_eq_of_mem_set hx with hx|rfl
  ·exact key x hx
  ·exact .inr (.inr rfl)
theorem aW.yK {g:bW} (hok:aW g s) (b:Nat) (e:Int):aW g {s with a:=(dF s.a b e).1}:=by
 refine Hd (P:=fun a=>aW g {s with a:=a}) hok (fun bs hl hx a' hb hp=> ?_)
 have hx':∀x∈a'.bs,(∃y∈s.a.bs,x.pg=y.pg)∨x.pg=[]:=fun x hh=>by
  rw[hb] at hh;rcases hx x hh with h|h|h
  ·exact .inl ⟨x,h,rfl⟩
  ·exact .inl h
  ·exact .inr h
 refine {hok with n:= ?_,p:= ?_,len:= ?_,d:= ?_}
 ·show ((a'.bs.length:Nat):Int)=_;rw[hb,hl];exact hok.n
 ·show a'.ay=_;rw[hp];exact hok.p
 ·intro x hh;rcases hx' x hh with⟨y,hy,e⟩|e
  ·rw[e];exact hok.len y hy
  ·rw[e]
   cases Uj:s.a.bs with
   |nil=>
    have h0:a'.bs.length=0:=by rw[hb,hl,Uj];rfl
    rw[List.eq_nil_of_length_eq_zero h0] at hh;cases hh
   |cons y l=>have:=hok.len y (by rw[Uj];exact List.mem_cons_self);simp only[List.length_nil];omega
 ·intro x hh d hd;rcases hx' x hh with⟨y,hy,e⟩|e
  ·rw[e] at hd;exact hok.d y hy d hd
  ·rw[e] at hd;cases hd
theorem aW.bC {g:bW} (hg:g.In) (hok:aW g s) {b:Nat} (hb:b∈g.us):aW g (bC s b).1:=by
 unfold Go.Proofs.YtlgdkndamddpkaaGreat.bC;split
 ·exact(hok.yK b _).bw hg hb (by omega)
 split
 ·exact(hok.yK b _).bw hg hb (by omega)
 ·exact hok.yK b _
theorem vp (hm:cY B L m) (hg:m.g.In) (h:fH B H aK fid mid pid m s L) (hok:aW m.g s) {b:Nat} (hb:b∈m.g.us) (k:∀H',fH B H' aK fid mid pid m (bC s b).1 L→K (.int .i64 (bC s b).2) H'):cl 66 [.ak (some (fid,0)),.int .i64 (b:Int)] H K:=by
 have g:=wa h;rw[aaw];simp only[AJ,reduceIte,Nat.reduceEqDiff,Option.isSome_some,Nat.zero_add,g.i 0 (by omega),g.i 5 (by omega),g.c0,g.c5];refine MP h.arr (hok.lt hb) (s.f.ep:Int) (fun H1 h1=> ?_);simp only[AJ,reduceIte,Nat.reduceEqDiff];have Al:fH B H1 aK fid mid pid m {s with a:=(dF s.a b s.f.ep).1} L:=h1.ord [1,1,1];have g1:=wa Al;unfold bC at k;by_cases h0:(dF s.a b s.f.ep).2=0
 ·rw[if_pos h0] at k;simp only[h0,decide_true,aq,AJ,reduceIte,Nat.reduceEqDiff,Option.isSome_some,Nat.zero_add,g1.i 7 (by omega),g1.c7];refine kg (hw:=0) Al.po hok.po (hok.how hb) (by omega) (fun e H2 h2=> ?_);simp only[AJ,reduceIte,Nat.reduceEqDiff];exact k H2 (h2.ord [1,1])
 ·rw[if_neg h0] at k;simp only[h0,decide_false,ai];by_cases h8:(dF s.a b s.f.ep).2=8
  ·rw[if_pos h8] at k;simp only[h8,decide_true,aq,AJ,reduceIte,Nat.reduceEqDiff,Option.isSome_some,Nat.zero_add,g1.i 7 (by omega),g1.c7];refine kg (hw:=3) Al.po hok.po (hok.how hb) (by omega) (fun e H2 h2=> ?_);simp only[AJ,reduceIte,Nat.reduceEqDiff];exact k H2 (h2.ord [1,1])
  ·rw[if_neg h8] at k;simp only[h8,decide_false,ai];exact k H1 Al
end
section
variable {B:ag} {L:List bV} {H:ag} {K:V→ag→Prop} {aK fid mid pid:Nat} {m:Gm} {s:FS}
theorem Tx {t1:V} {N:Nat} (hN:N≤64) {w:Nat→Int} (hc:∀(b:Nat) (H':ag),b<N→az B H' L→∀K':V→ag→Prop,K' (.int .i64 (w b)) H'→kI ej (qO ej) t1 [.int .i64 (b:Int)] H' K') {Kr:Am.St→Prop} {Ke:Nat→Am.St→Prop}:∀(k i:Nat) {q:Oq} {c:Nat} {H:ag},i+k=N→az B H (IR q c ((List.range i).map w)::L)→(∀q' c' H',az B H' (IR q' c' ((List.range N).map w)::L)→Ke 0 (St.mk (ab [(5,T.v (V.slice q' N c'))]) (ab []) H'))→lo 154 3 (St.mk (ab [(1,T.v t1),(5,T.v (V.slice q i c)),(11,T.v (V.int .i64 (N:Int))),(12,T.v (V.int .i64 (i:Int)))]) (ab []) H) Kr Ke
 |0,i,q,c,H,hi,h,hk=>by
  obtain rfl:i=N:=by omega
  rw[Ik,decide_eq_false (by omega),ai];exact hk q c H h
 |k+1,i,q,c,H,hi,h,hk=>by
  rw[Ik,decide_eq_true (by omega),aq];have sy:∀K':V→ag→Prop,K' (.int .i64 (w i)) H→kI ej (qO ej) t1 [.int .i64 (i:Int)] H K':=hc i H (by omega) h.drop;refine sy _ ?_;simp only[AJ,reduceIte,Nat.reduceEqDiff]
  have hp:=az.yx h (w i) (e2:=3) (by simp;omega) (K:=fun q n c H'=>lo 154 3
   (St.mk (ab [(1,T.v t1),(5,T.v (V.slice q n c)),(11,T.v (V.int .i64 (N:Int))),(12,T.v (V.int .i64 (IntKind.i64.wrap ((i:Int)+1))))]) (ab []) H') Kr Ke) (fun q' c' H' h'=> ?_)
  ·rw[List.length_map,List.length_range] at hp;exact hp
  ·rw[aJ (by omega)];have e:(List.range i).map w++[w i]=(List.range (i+1)).map w:=by rw[List.range_succ,List.map_append];rfl
   rw[e] at h'⊢;rw[List.length_map,List.length_range];exact Tx hN hc k (i+1) (by omega) h' hk
theorem Ty (a:Ar):a.bs.map Bk.er=(List.range a.bs.length).map fun b=>(a.bs.getD b fj).er:=by
 apply List.ext_getElem
 ·simp
 ·intro i h1 h2;simp only[List.getElem_map,List.getElem_range];rw[List.getD_eq_getElem?_getD,List.getElem?_eq_getElem (by simpa using h1)];rfl
theorem IY (hg:m.g.In) (h:fH B H aK fid mid pid m s L) (hok:aW m.g s) (k:∀q c H',fH B H' aK fid mid pid m s (IR q c s.PK::L)→K (.slice q s.PK.length c) H'):cl 154 [.ak (some (fid,0)),.oA 155 [.ak (some (aK,0))]] H K:=by
 have g:=wa h;rw[QR];have hn:=hok.n;have hb:=hg.b;have e:m.g.aB=((s.a.bs.length:Nat):Int):=by omega
 simp only[AJ,reduceIte,Nat.reduceEqDiff,Option.isSome_some,Nat.zero_add,g.i 1 (by omega),g.c1,e];refine Tx (w:=fun b=>(s.a.bs.getD b fj).er) (L:=di fid 120 (OK aK m s.f mid pid)::sE mid s.f.pm::Bd pid s.f.po::cO aK s.a::L) (N:=s.a.bs.length) (by omega) (fun b H' OA h' K' kk=> ?_) s.a.bs.length 0 (by omega) (az.tH h) (fun q c H' h'=> ?_)
 ·show cl 155 [.ak (some (aK,0)),.int .i64 (b:Int)] H' K'
  rw[J7 (fH.arr h') OA];rw[List.getD_eq_getElem?_getD,List.getElem?_eq_getElem OA] at kk;exact kk
 ·simp only[AJ,reduceIte,Nat.reduceEqDiff];have hl:s.PK.length=s.a.bs.length:=by simp [FS.PK]
  have:=k q c H' (by unfold FS.PK;rw[Ty];exact h'.ord [1,1,1,1]);rw[hl] at this;exact this
theorem IZ (hg:m.g.In) (h:fH B H aK fid mid pid m s L) (hok:aW m.g s) (k:∀q c H',fH B H' aK fid mid pid m s (IR q c s.f.pm.gS::L)→K (.slice q s.f.pm.gS.length c) H'):cl 154 [.ak (some (fid,0)),.oA 65 [.ak (some (mid,0))]] H K:=by
 have g:=wa h;rw[QR];have hn:=hok.nb;have hb:=hg.b;have e:m.g.aB=((s.f.pm.nb:Nat):Int):=by omega
 simp only[AJ,reduceIte,Nat.reduceEqDiff,Option.isSome_some,Nat.zero_add,g.i 1 (by omega),g.c1,e];refine Tx (w:=fun b=>(s.f.pm.dH b:Int)) (L:=di fid 120 (OK aK m s.f mid pid)::sE mid s.f.pm::Bd pid s.f.po::cO aK s.a::L) (N:=s.f.pm.nb) (by omega) (fun b H' OA h' K' kk=> ?_) s.f.pm.nb 0 (by omega) (az.tH h) (fun q c H' h'=> ?_)
 ·show cl 65 [.ak (some (mid,0)),.int .i64 (b:Int)] H' K'
  rw[m0 (fH.pm h') OA];exact kk
 ·simp only[AJ,reduceIte,Nat.reduceEqDiff];have:=k q c H' (h'.ord [1,1,1,1]);rw[pO] at this;exact this
theorem C6 (hg:m.g.In) (h:fH B H aK fid mid pid m s L) (hok:aW m.g s) (k:∀H',fH B H' aK fid mid pid m s L→K (.tuple [.int .i64 ((s.cZ.getD 0:Nat):Int),.bool s.cZ.isSome]) H'):cl 149 [.ak (some (fid,0))] H K:=by
 have g:=wa h;rw[Xb];simp only[AJ,reduceIte,Nat.reduceEqDiff,Option.isSome_some,Nat.zero_add,g.i 0 (by omega),g.i 7 (by omega),g.c0,g.c7]
 have fin:∀q c H',fH B H' aK fid mid pid m s (IR q c s.PK::L)→∀K':V→ag→Prop,K' (.tuple [.int .i64 ((s.cZ.getD 0:Nat):Int),.bool s.cZ.isSome]) H'→
  cl 153 [.ak (some (pid,0)),.int .u8 0,.slice q s.PK.length c] H' K':=fun q c H' h' K' kk=>
  Bg (hw:=0) h'.po hok.po (az.tG (h'.ord [4])) kk
 refine⟨IY hg h hok (fun q c H' h'=> ?_),IY hg h hok (fun q c H' h'=> ?_)⟩
 ·simp only[AJ,reduceIte,Nat.reduceEqDiff];refine fin q c H' h' _ ?_;simp only[AJ,reduceIte,Nat.reduceEqDiff];exact k H' (h'.ord [4]).drop
 ·have g':=wa h';simp only[AJ,reduceIte,Nat.reduceEqDiff,g'.i 7 (by omega),g'.c7];refine fin q c H' h' _ ?_;simp only[AJ,reduceIte,Nat.reduceEqDiff];exact k H' (h'.ord [4]).drop
theorem I0 (hm:cY B L m) (h:fH B H aK fid mid pid m s L) (hok:aW m.g s) (hg:m.g.In) {an:Nat} (ha:(an:Int)≤m.g.cap) {x:Sh} (hx:s.nf an=some x) (k:∀q c H',fH B H' aK fid mid pid m s (BY q c x.data::L)→K (.tuple [zG x q c,.int .i64 0]) H'):cl 69 [.ak (some (fid,0)),.int .i64 (an:Int)] H K:=by
 have g:=wa h;have FX:an<s.f.pm.ct.length:=by have:=hok.na;omega
 rw[aaz];simp only[AJ,reduceIte,Nat.reduceEqDiff,Option.isSome_some,Nat.zero_add,g.i 6 (by omega),g.c6];rw[IN h.pm FX];have hgd:s.f.pm.ct.getD an none=s.f.pm.ct[an]:=by rw[List.getD_eq_getElem?_getD,List.getElem?_eq_getElem FX];rfl
 unfold FS.nf at hx;rw[hgd] at hx
 cases ho:s.f.pm.ct[an] with
 |none=>
  rw[ho] at hx;cases hx;simp only[AJ,reduceIte,Nat.reduceEqDiff,vm,f127,AP,u5,u6,Option.isSome_none];have:=k none 0 H ((jW h).ord [1,1,1,1]);simpa [zG] using this
 |some o=>
  obtain⟨b,p⟩:=o;rw[ho] at hx;dsimp only at hx;obtain⟨hb,hp⟩:=hok.pm.pl b p (by rw[←ho];exact List.getElem_mem FX);have Ak:b<s.a.bs.length:=by have:=hok.n;have:=hok.nb;omega
  simp only[AJ,reduceIte,Nat.reduceEqDiff,vm,f127,AP,u5,u6,Option.isSome_some,Nat.zero_add,g.i 0 (by omega),g.c0];refine tL h.arr Ak (fun d hd=>by rw[hok.d _ (List.getElem_mem Ak) d hd];omega) p (fun q1 c1 H1 h1=> ?_);by_cases he:(fp s.a b p).1=0
  ·rw[if_pos he] at hx;simp only[AJ,reduceIte,Nat.reduceEqDiff,he]
   have Jv:(fp s.a b p).2.length≤100000:=by
    have:(fp s.a b p).2.length≤96:=by
     unfold fp;split
     ·simp
     split
     ·simp
     rw[List.getElem?_eq_getElem Ak];simp only;split
     ·simp
     rename_i d hd;split
     ·simp
     ·show d.length≤96
      rw[hok.d _ (List.getElem_mem Ak) d (List.mem_of_getElem? hd)];omega
    omega
   refine EY h1 (fun H h=>h.gQ) Jv ((h1.Lq).2.2.1) (fun hnone=> ?_) (fun y hy q2 c2 H2 h2=> ?_)
   ·rw[hnone] at hx;cases hx
   ·rw[hy] at hx;cases hx;unfold zG;simp only[AJ,reduceIte,Nat.reduceEqDiff,f125,Ey,yg,yh,yi,yj,yk,yl];exact k q2 c2 H2 ((h2.ord [1]).drop.ord [2,2,2,1])
  ·rw[if_neg he] at hx;cases hx
theorem C7 (hm:cY B L m) (h:fH B H aK fid mid pid m s L) (hg:m.g.In) (a:Int) (k:∀H',fH B H' aK fid mid pid m s L→K (.int .i64 (if 0≤a∧a≤m.g.cap then 0 else 1)) H'):cl 68 [.ak (some (fid,0)),.int .i64 a] H K:=by
 have g:=wa h;rw[aay];simp only[AJ,reduceIte,Nat.reduceEqDiff,Option.isNone_some];by_cases h0:a<0
 ·have e:¬(0≤a∧a≤m.g.cap):=by omega
  rw[if_neg e] at k;simp only[h0,decide_true,Bool.not_true,ai];exact k H h
 ·have hsub:=g.g.2;simp only[h0,decide_false,Bool.not_false,aq,Option.isSome_some,Nat.zero_add,g.g.1,hsub,f25,tC,lP,lQ,lR,lS,AJ,reduceIte,Nat.reduceEqDiff];have:=tJ (K:=fun v H'=>ah (V.aw (.int .i64) v) (br (decide (a>V.aa v)) (K (V.int .i64 1) H') (K (V.int .i64 0) H'))) h ((((hm.bg _).bg _).bg _).bg _) hg (fun H' h'=> ?_)
  ·exact this
  ·simp only[AJ,reduceIte,Nat.reduceEqDiff];by_cases h1:a>m.g.cap
   ·have e:¬(0≤a∧a≤m.g.cap):=by omega
    have:=k H' h';rw[if_neg e] at this;simp only[h1,decide_true,aq];exact this
   ·have e:0≤a∧a≤m.g.cap:=by omega
    have:=k H' h';rw[if_pos e] at this;simp only[h1,decide_false,ai];exact this
theorem Fc (hm:cY B L m) (h:fH B H aK fid mid pid m s L) (hok:aW m.g s) (hg:m.g.In) {an:Nat} (ha:(an:Int)≤m.g.cap) {x:Sh} (hx:s.nf an=some x) (k:∀q c H',fH B H' aK fid mid pid m s (BY q c x.data::L)→K (.tuple [.slice q x.data.length c,.int .i64 0]) H'):cl 39 [.ak (some (fid,0)),.int .i64 (an:Int)] H K:=by
 rw[aah];refine C7 hm h hg (an:Int) (fun H1 h1=> ?_);have e:0≤(an:Int)∧(an:Int)≤m.g.cap:=⟨by omega,ha⟩;simp only[e,and_self,if_true,AJ,reduceIte,Nat.reduceEqDiff];refine I0 hm h1 hok hg ha hx (fun q c H2 h2=> ?_);unfold zG;simp only[AJ,reduceIte,Nat.reduceEqDiff,f125,Ey,yg,yh,yi,yj,yk,yl];exact k q c H2 h2
end
section
variable {B:ag} {L:List bV} {H:ag} {K:V→ag→Prop} {aK fid mid pid:Nat} {m:Gm} {s:FS}
theorem Kl {a:Ar} {b p:Nat} {d:List UInt8} {e:Int} {P:Ar→Prop} (h0:P a) (hd:d.length=96) (h1:∀bs:List Bk,bs.length=a.bs.length→(∀x∈bs,x∈a.bs∨(∃y∈a.bs,x.pg=y.pg∨∃z:List UInt8,z.length=96∧x.pg=y.pg++[z]∧(y.pg.length:Int)<a.ay))→∀a':Ar,a'.bs=bs→a'.ay=a.ay→P a'):P (fq a b p d e).1:=by
 unfold fq;split
 ·exact h0
 split
 ·exact h0
 rename_i hp;split
 ·exact h0
 split
 ·exact h0
 rename_i bk hbk;have hmem:=List.mem_of_getElem? hbk;split
 ·exact h0
 rename_i zt;split
 ·exact h0
 have hlen:(bk.pg.length:Int)<a.ay:=by omega
 have key:∀x∈(bq a b bk).bs,x∈a.bs∨(∃y∈a.bs,x.pg=y.pg∨∃z:List UInt8,z.length=96∧x.pg=y.pg++[z]∧(y.pg.length:Int)<a.ay):=by
  intro x hx;rcases List.mem_or_eq_of_mem_set hx with hx|rfl
  ·exact .inl hx
  ·exact .inr ⟨bk,hmem,.inl (bu bk)⟩
 split
 ·exact h1 (bq a b bk).bs (fF ..) key _ rfl rfl
 split
 ·refine h1 _ (by simp [fF]) (fun x hx=> ?_) _ rfl rfl;rcases List.mem_or_eq_of_mem_set hx with hx|rfl
  ·exact key x hx
  ·exact .inr ⟨bk,hmem,.inr ⟨gG d 0,by rw[mV,hd],rfl,hlen⟩⟩
 ·refine h1 _ (by simp [fF]) (fun x hx=> ?_) _ rfl rfl;rcases List.mem_or_eq_of_mem_set hx with hx|rfl
  ·exact key x hx
  ·exact .inr ⟨bk,hmem,.inr ⟨d,hd,rfl,hlen⟩⟩
theorem Nr (n:Nat):iP n<18446744073709551616:=Nat.mod_lt _ (by omega)
theorem aW.prog {g:bW} (hok:aW g s) (b p:Nat) {d:List UInt8} (hd:d.length=96) (e:Int):aW g {s with a:=(fq s.a b p d e).1}:=by
 refine Kl (P:=fun a=>aW g {s with a:=a}) hok hd (fun bs hl hx a' hb hp=> ?_);refine {hok with n:= ?_,p:= ?_,len:= ?_,d:= ?_}
 ·show ((a'.bs.length:Nat):Int)=_;rw[hb,hl];exact hok.n
 ·show a'.ay=_;rw[hp];exact hok.p
 ·intro x hh;have hh:x∈a'.bs:=hh;rw[hb] at hh;rcases hx x hh with h|⟨y,hy,h|⟨z,_,h,hlt⟩⟩
  ·exact hok.len x h
  ·rw[h];exact hok.len y hy
  ·rw[h];have:=hok.p;simp;omega
 ·intro x hh d' hd';have hh:x∈a'.bs:=hh;rw[hb] at hh;rcases hx x hh with h|⟨y,hy,h|⟨z,hz,h,hlt⟩⟩
  ·exact hok.d x h d' hd'
  ·rw[h] at hd';exact hok.d y hy d' hd'
  ·rw[h] at hd';rcases List.mem_append.1 hd' with hd'|hd'
   ·exact hok.d y hy d' hd'
   ·rw[List.mem_singleton] at hd';rw[hd'];exact hz
theorem aW.He {g:bW} (hok:aW g s):aW g {s with f:={s.f with seq:=iP s.f.seq}}:={hok with seq:=Nr _}
theorem Bh {a:Ar} {b:Nat} (hb:b<a.bs.length) {d:List UInt8} {e:Int} (h:(fq a b (a.bs.getD b fj).pg.length d e).2=0):((a.bs.getD b fj).pg.length:Int)<a.ay:=by
 unfold fq at h;split at h
 ·cases h
 split at h
 ·cases h
 omega
theorem aW.bQ {g:bW} (hg:g.In) (hok:aW g s) {b:Nat} (hb:b∈g.us) {x:Sh} (Qr:x.data.length≤64):aW g (bQ s b x).1:=by
 have hl:(dK {x with ep:=s.f.ep,seq:=iP s.f.seq}).length=96:=k6 _ Qr;have h1:=(hok.prog b (s.next b) hl (s.f.ep:Int)).He;unfold Go.Proofs.YtlgdkndamddpkaaGreat.bQ;simp only;split
 ·exact h1.bw hg hb (h:=3) (by omega)
 split
 ·rename_i h0;have hlt:=hok.lt hb;have hpos:=Bh hlt h0;have hp:=hok.p;have aby:=hg.p;refine {h1 with pm:= ?_,na:= ?_}
  ·exact hok.pm.put (fun b' p' he=>by
    cases he;have:=ng hb;have:=hok.nb;unfold FS.next
    omega)
  ·show (((s.f.pm.put x.an (some (b,s.next b))).ct.length:Nat):Int)=_
   unfold Pm.put;rw[List.length_set];exact hok.na
 ·exact h1
theorem Fe (hm:cY B L m) (hg:m.g.In) (h:fH B H aK fid mid pid m s L) (hok:aW m.g s) {b:Nat} (hb:b∈m.g.us) {x:Sh} {q:Oq} {c:Nat} (hr:lC B L q x.data) (h1:x.cK<256) (h4:(x.an:Int)≤m.g.cap) (hcap:m.g.cap<65000) (h5:x.fr≤256) (h6:x.data.length≤64) (k:∀H',fH B H' aK fid mid pid m (bQ s b x).1 L→K (.int .i64 (bQ s b x).2) H'):cl 141 [.ak (some (fid,0)),.int .i64 (b:Int),zG x q c] H K:=by
 have g:=wa h;have hlt:=hok.lt hb;have hsq:=hok.seq;unfold zG;rw[W5]
 have e1:IntKind.u64.wrap ((s.f.seq:Int)+1)=(iP s.f.seq:Int):=by
  rw[IntKind.wrap_u64];unfold iP;omega
 obtain⟨w,hst⟩:=h.AT (k:=8) (by show 8<9;omega) (.int .u64 (iP s.f.seq:Int));have hS:fH B (H.store fid 8 [.int .u64 (iP s.f.seq:Int)]) aK fid mid pid m {s with f:={s.f with seq:=iP s.f.seq}} L:=hst;simp only[AN,reduceIte,Nat.reduceEqDiff,Option.isSome_some,Nat.zero_add,g.i 8 (by omega),g.c8,e1,w];generalize (ag.store _ _ _ _)=H1 at hS⊢;clear hst;have g1:=wa hS;have fQ:=hok.He;simp only[g1.i 0 (by omega),g1.i 5 (by omega),g1.i 8 (by omega),g1.c0,g1.c5,g1.c8,AN,reduceIte,Nat.reduceEqDiff];rw[tK (fH.arr hS) hlt]
 have mw:((s.a.bs[b]'hlt).pg.length)=s.next b:=by
  unfold FS.next;rw[List.getD_eq_getElem?_getD,List.getElem?_eq_getElem hlt];rfl
 rw[show (({s with f:={s.f with seq:=iP s.f.seq}}:FS).a.bs[b]'hlt).pg.length=s.next b from mw];simp only[AN,reduceIte,Nat.reduceEqDiff,g1.i 0 (by omega),g1.i 5 (by omega),g1.c0,g1.c5];obtain⟨y,hy⟩:∃y:Sh,y={x with ep:=s.f.ep,seq:=iP s.f.seq}:=⟨_,rfl⟩;have hyV:V.agg (fc (x.cK:Int) (s.f.ep:Int) (iP s.f.seq:Int) (x.an:Int) ((x.fr:Int)-1) q x.data.length c)=zG y q c:=by rw[hy];rfl
 rw[hyV];have hyl:(dK y).length=96:=k6 _ (by rw[hy];exact h6)
 have TL:∀(K:V→ag→Prop),(∀q' c' H',fH B H' aK fid mid pid m {s with f:={s.f with seq:=iP s.f.seq}} (BY q' c' (dK y)::L)→K (.slice q' (dK y).length c') H')→cl 133 [zG y q c] H1 K:=fun K k=>
  IG hS (by rw[hy];exact((((hr.bg _).bg _).bg _).bg _)) (by rw[hy];exact h1) (by rw[hy];exact hok.ep) (by rw[hy];exact Nr _) (by rw[hy];show x.an<_;omega) (by rw[hy];exact h5) (by rw[hy];exact h6) (fun q' c' H' h'=>k q' c' H' (h'.ord [1,1,1,1]))
 obtain⟨r,FT⟩:∃r,r=fq s.a b (s.next b) (dK y) s.f.ep:=⟨_,rfl⟩
 have P:∀(K:V→ag→Prop) q' c' H',fH B H' aK fid mid pid m {s with f:={s.f with seq:=iP s.f.seq}} (BY q' c' (dK y)::L)→(∀H2,fH B H2 aK fid mid pid m ⟨r.1,{s.f with seq:=iP s.f.seq}⟩ L→K (.int .i64 r.2) H2)→
  cl 151 [.ak (some (aK,0)),.int .i64 (b:Int),.int .i64 (s.next b:Int),.slice q' (dK y).length c',.int .u64 (s.f.ep:Int)] H' K:=by
  intro K q' c' H' h' k;have Ux:s.a.ay≤1000:=by have:=hok.p;have:=hg.p;omega
  refine G0 (fH.arr h') hlt (s.next b) (fun H h=>(h.ord [4]).gQ) (by omega) (s.f.ep:Int) Ux (fun H2 h2=> ?_);rw[FT] at k;exact k H2 ((h2.ord [4]).drop.ord [1,1,1])
 have fin:∀(Q:Am.St→Prop),(∀H2,fH B H2 aK fid mid pid m ⟨r.1,{s.f with seq:=iP s.f.seq}⟩ L→Q (St.mk (ab [(8,T.v (V.int .i64 r.2))]) (ab []) H2))→
  ∀q' c' H',fH B H' aK fid mid pid m {s with f:={s.f with seq:=iP s.f.seq}} (BY q' c' (dK y)::L)→
  cl 151 [.ak (some (aK,0)),.int .i64 (b:Int),.int .i64 (s.next b:Int),.slice q' (dK y).length c',.int .u64 (s.f.ep:Int)] H' (fun v H'=>ah (V.aw (.int .i64) v) (Q (St.mk (ab [(8,T.v (V.int .i64 (V.aa v)))]) (ab []) H'))):=by
  intro Q hQ q' c' H' h';refine P _ q' c' H' h' (fun H2 h2=> ?_);simp only[AJ,reduceIte,Nat.reduceEqDiff];exact hQ H2 h2
 refine jn (fun S:Am.St=>S.1 8=some (T.v (V.int .i64 r.2))∧fH B S.3 aK fid mid pid m ⟨r.1,{s.f with seq:=iP s.f.seq}⟩ L) (fun(S:Am.St) OG=> ?_) (fun Q' hQ=> ?_)
 ·obtain⟨hS8,Lo⟩:=OG;generalize S.3=H2 at Lo⊢;have g2:=wa Lo
  have hk:bQ s b x=if r.2=8∨r.2=6 then (⟨r.1,{s.f with seq:=iP s.f.seq,po:=s.f.po.set b 3}⟩,8)
   else if r.2=0 then (⟨r.1,{s.f with seq:=iP s.f.seq,pm:=s.f.pm.put x.an (some (b,s.next b))}⟩,0)
   else (⟨r.1,{s.f with seq:=iP s.f.seq}⟩,r.2):=by rw[FT,hy];rfl
  rw[hk] at k;simp only[hS8,AJ,reduceIte,Nat.reduceEqDiff];have YJ:aW m.g ⟨r.1,{s.f with seq:=iP s.f.seq}⟩:=by rw[FT];exact(hok.prog b (s.next b) hyl (s.f.ep:Int)).He
  by_cases YK:r.2=8∨r.2=6
  ·rw[if_pos YK] at k
   have e:(bif !decide (r.2=8) then decide (r.2=6) else true)=true:=by
    rcases YK with h|h<;>simp [h]
   rw[e,aq];simp only[Option.isSome_some,Nat.zero_add,g2.i 7 (by omega),g2.c7,AJ,reduceIte,Nat.reduceEqDiff];refine kg (hw:=3) (fH.po Lo) YJ.po (YJ.how hb) (by omega) (fun e H3 h3=> ?_);simp only[AJ,reduceIte,Nat.reduceEqDiff];exact k H3 (h3.ord [1,1])
  ·rw[if_neg YK] at k
   have e:(bif !decide (r.2=8) then decide (r.2=6) else true)=false:=by
    have h8:¬r.2=8:=fun h=>YK (.inl h)
    have h6:¬r.2=6:=fun h=>YK (.inr h)
    simp [h8,h6]
   rw[e,ai];by_cases h0:r.2=0
   ·rw[if_pos h0] at k;simp only[h0,decide_true,aq,Option.isSome_some,Nat.zero_add,g2.i 6 (by omega),g2.c6,AJ,reduceIte,Nat.reduceEqDiff];have hna:=hok.na;have hnb:=hok.nb;have Jx:=ng hb;have hpos:=Bh hlt (d:=dK y) (e:=(s.f.ep:Int)) (by rw[FT] at h0;exact h0);have hp:=hok.p;have aby:=hg.p;refine IM (fH.pm Lo) hok.pm (a:=x.an) (b:=b) (p:=s.next b) (by show x.an<s.f.pm.ct.length;omega) (by show b<s.f.pm.nb;omega) (by unfold FS.next;omega) (fun H3 h3=> ?_);simp only[AJ,reduceIte,Nat.reduceEqDiff];exact k H3 (h3.ord [1])
   ·rw[if_neg h0] at k;simp only[h0,decide_false,ai];exact k H2 Lo
 ·have fin':=fin Q' (fun H2 h2=>hQ _ ⟨rfl,h2⟩)
  repeat' apply And.intro
  all_goals first
   |refine TL _ (fun q' c' H' h'=> ?_)
    have g':=wa h';simp only[AJ,reduceIte,Nat.reduceEqDiff,g'.i 0 (by omega),g'.i 5 (by omega),g'.c0,g'.c5,and_self];exact fin' q' c' H' h'
end
def ov (g:bW):Nat→FS→Nat→Nat→Option (FS×Int×Nat)
 |0,_,_,_=>none
 |n+1,s,v,d=>if s.f.pm.dH v=0 then some (s,0,d) else match s.f.pm.on v with
  |[]=>none
  |a::_=>match s.nf a.toNat with
   |none=>none
   |some x=>if (x.an:Int)≤g.cap then
    (if (bQ s d {x with fr:=v+1}).2=8 then match (bQ s d {x with fr:=v+1}).1.cZ with
     |none=>some ((bQ s d {x with fr:=v+1}).1,10,0)
     |some d'=>ov g n (bQ s d {x with fr:=v+1}).1 v d'
    else if (bQ s d {x with fr:=v+1}).2=0 then ov g n (bQ s d {x with fr:=v+1}).1 v d
    else some ((bQ s d {x with fr:=v+1}).1,(bQ s d {x with fr:=v+1}).2,0)) else none
def gT (g:bW) (n:Nat) (s:FS):Option (FS×Int):=match s.iK with
 |none=>some (s,10)
 |some v=>if s.f.pm.dH v=0 then some (bC s v) else match s.cZ with
  |none=>some (s,10)
  |some d=>if (s.f.pm.dH v:Int)=g.ay then some (s,10) else match ov g n s v d with
   |none=>none
   |some (s1,e,d1)=>if e=0 then (if (bC s1 v).2=0 then some ((bC s1 v).1.bw d1 2,0) else some (bC s1 v)) else some (s1,e)
mutual
def iZ (g:bW) (k:Nat):Nat→FS→Option (FS×Int×Nat)
 |0,_=>none
 |n+1,s=>match s.f.po.j3 with
  |some b=>if (s.next b:Int)<g.ay then some (s,0,b) else lf g k n (s.bw b 1)
  |none=>lf g k n s
def lf (g:bW) (k:Nat) (n:Nat) (s:FS):Option (FS×Int×Nat):=
 if (s.f.po.count 3:Int)>g.aF then some (s,10,0)
 else if (s.f.po.count 0:Int)>1+g.aF-s.f.po.count 3 then match s.cZ with
  |none=>none
  |some b=>iZ g k n (s.bw b 2)
 else match gT g k s with
  |none=>none
  |some (s1,e)=>if e=0 then iZ g k n s1 else some (s1,e,0)
end
def ua (g:bW) (k:Nat):Nat→FS→Sh→Option (FS×Int)
 |0,_,_=>none
 |n+1,s,x=>match iZ g k k s with
  |none=>none
  |some (s1,e,b)=>if e=0 then (if (bQ s1 b x).2=8 then ua g k n (bQ s1 b x).1 x else some (bQ s1 b x)) else some (s1,e)
section
variable {B:ag} {L:List bV} {H:ag} {K:V→ag→Prop} {aK fid mid pid:Nat} {m:Gm} {s:FS}
theorem n8 (h:Nat) (w:List Int):∀(l:List (Nat×Nat)) (o:Option Nat) (b:Nat),fZ h w l o=some b→o=some b∨(b,h)∈l
 |[],o,b,hh=>.inl hh
 |x::l,o,b,hh=>by
  rw[lX] at hh;split at hh
  ·exact(n8 h w l o b hh).imp id (List.mem_cons_of_mem _)
  ·rename_i hx
   have uH:x.2=h:=by
    by_cases e:x.2=h
    ·exact e
    ·exact absurd (.inl e) hx
   have key:fZ h w l (some x.1)=some b→o=some b∨(b,h)∈x::l:=fun hh=>by
    rcases n8 h w l _ b hh with e|e
    ·cases e;right;rw[←uH];exact List.mem_cons_self
    ·exact .inr (List.mem_cons_of_mem _ e)
   cases o with
   |none=>exact key hh
   |some b0=>
    simp only at hh;split at hh
    ·exact key hh
    ·exact(n8 h w l _ b hh).imp id (List.mem_cons_of_mem _)
theorem qu {p:Po} {h b:Nat} {w:List Int} (hh:p.iK h w=some b):(b,h)∈p.bl:=(n8 h w _ _ b hh).elim (fun e=>by cases e) id
theorem aW.pT {g:bW} (hok:aW g s) {b:Nat} (h:s.cZ=some b):b∈g.us:=by
 rw[←hok.us];exact List.mem_map.2 ⟨_,qu h,rfl⟩
theorem aW.yL {g:bW} (hok:aW g s) {b:Nat} (h:s.iK=some b):b∈g.us:=by
 rw[←hok.us];exact List.mem_map.2 ⟨_,qu h,rfl⟩
theorem aW.PL {g:bW} (hok:aW g s) {b:Nat} (h:s.f.po.j3=some b):b∈g.us:=by
 rw[←hok.us];exact List.mem_map.2 ⟨_,pS h,rfl⟩
theorem vq {s:FS} {a:Nat} (ha:a<65536) {x:Sh} (h:s.nf a=some x):x.cK≤3∧x.data.length≤64:=by
 unfold FS.nf at h;split at h
 ·cases h;exact⟨by show (2:Nat)≤3;omega,by simp⟩
 ·split at h
  ·have:=(r7 h).1;exact⟨this.k3,this.dl⟩
  ·cases h
theorem ub {mm:Pm} (hok:mm.ok) {b:Nat} {a:Int} (h:a∈mm.on b):0≤a∧a<mm.ct.length:=by
 unfold Pm.on at h;split at h
 ·cases h
 ·unfold Lr at h;obtain⟨p,hp,he⟩:=List.mem_filterMap.1 h;have:=qq b mm.ct 0 mm.ct.length (fun _=>0) (by omega) (fun k=>by omega) p;have e:mm.by b p=DM b mm.ct 0 (fun _=>0) p:=rfl
  split at he
  ·cases he;omega
  ·cases he
theorem C8 (hm:cY B L m) (hg:m.g.In) (hcap:m.g.cap<65000) {v:Nat} (hv:v∈m.g.us) {Kr:Am.St→Prop} {Ke:Nat→Am.St→Prop}:∀(n:Nat) (s:FS) (d:Nat) {H:ag} {r:FS×Int×Nat},ov m.g n s v d=some r→aW m.g s→d∈m.g.us→fH B H aK fid mid pid m s L→(r.2.1=0→aW m.g r.1→r.2.2∈m.g.us→∀H',fH B H' aK fid mid pid m r.1 L→Ke 0 (St.mk (ab [(0,T.v (V.ak (some (fid,0)))),(3,T.v (V.int .i64 (v:Int))),(5,T.v (V.int .i64 (r.2.2:Int)))]) (ab []) H'))→(r.2.1≠0→∀H',fH B H' aK fid mid pid m r.1 L→Kr (St.mk (ab [(2,T.v (V.int .i64 r.2.1))]) (ab []) H'))→lo 150 12 (St.mk (ab [(0,T.v (V.ak (some (fid,0)))),(3,T.v (V.int .i64 (v:Int))),(5,T.v (V.int .i64 (d:Int)))]) (ab []) H) Kr Ke
 |0,s,d,H,r,hf,hok,hd,h,k1,k2=>by cases hf
 |n+1,s,d,H,r,hf,hok,hd,h,k1,k2=>by
  have g:=wa h;have Lv:v<s.f.pm.nb:=by have:=ng hv;have:=hok.nb;omega
  rw[Mv];simp only[AJ,reduceIte,Nat.reduceEqDiff,Option.isSome_some,Nat.zero_add,g.i 6 (by omega),g.c6];rw[m0 h.pm Lv];simp only[AJ,reduceIte,Nat.reduceEqDiff];rw[ov] at hf;by_cases hc:s.f.pm.dH v=0
  ·rw[if_pos hc] at hf;cases hf;have sy:¬(s.f.pm.dH v:Int)>0:=by omega
   simp only[sy,decide_false,ai];exact k1 rfl hok hd H h
  rw[if_neg hc] at hf;have sy:(s.f.pm.dH v:Int)>0:=by omega
  simp only[sy,decide_true,aq,g.i 6 (by omega),g.c6,AJ,reduceIte,Nat.reduceEqDiff];refine Nl h.pm hok.pm Lv (fun q1 c1 H1 h1=> ?_)
  cases Lu:s.f.pm.on v with
  |nil=>rw[Lu] at hf;cases hf
  |cons a l=>
   rw[Lu] at hf h1;dsimp only at hf;have har:=ub hok.pm (by rw[Lu];exact List.mem_cons_self:a∈s.f.pm.on v);obtain⟨s1,s2,s3⟩:=(az.tG h1).at (i:=0) (by simp);rw[Nat.zero_mul,Nat.add_zero] at s2 s3;simp only[og,oh] at s2 s3;have a1:0<(((l.length+1:Nat)):Int):=by omega
   simp only[AJ,reduceIte,Nat.reduceEqDiff,a1,s1,s2,s3,List.getElem_cons_zero];have Al:fH B H1 aK fid mid pid m s (IR q1 c1 (a::l)::L):=h1.ord [2,1,1,1];have hna:=hok.na;obtain⟨an,rfl⟩:∃an:Nat,a=(an:Int):=⟨a.toNat,by omega⟩;rw[Int.toNat_natCast] at hf
   cases sC:s.nf an with
   |none=>rw[sC] at hf;cases hf
   |some x=>
    rw[sC] at hf;dsimp only at hf;by_cases Uy:(x.an:Int)≤m.g.cap
    case neg=>rw[if_neg Uy] at hf;cases hf
    rw[if_pos Uy] at hf;have abO:m.g.cap<65000:=hcap;obtain⟨hx1,uH⟩:=vq (by omega) sC;refine I0 (hm.bg _) Al hok hg (by omega) sC (fun q2 c2 H2 h2=> ?_);unfold zG;simp only[AJ,reduceIte,Nat.reduceEqDiff,f125,Ey,yg,yh,yi,yj,yk,yl];have Lo:fH B H2 aK fid mid pid m s (BY q2 c2 x.data::L):=(h2.ord [5]).drop;obtain⟨y,hy⟩:∃y:Sh,y={x with fr:=v+1}:=⟨_,rfl⟩;have abT:v<64:=by have:=ng hv;have:=hg.b;omega
    have hyV:V.agg (fc (x.cK:Int) (x.ep:Int) (x.seq:Int) (x.an:Int) (v:Int) q2 x.data.length c2)=zG y q2 c2:=by
     rw[hy];unfold zG;simp only;have:((v+1:Nat):Int)-1=(v:Int):=by omega
     rw[this]
    rw[hyV];rw[←hy] at hf;have hyd:y.data=x.data:=by rw[hy]
    have fg:=hok.bQ hg hd (x:=y) (by rw[hyd];exact uH);refine Fe (hm.bg _) hg Lo hok hd (x:=y) (by rw[hyd];exact fun H h=>h.gQ) (by rw[hy];show x.cK<256;omega) (by rw[hy];exact Uy) hcap (by rw[hy];show v+1≤256;omega) (by rw[hyd];exact uH) (fun H3 h3=> ?_);have OP:fH B H3 aK fid mid pid m (bQ s d y).1 L:=(h3.ord [4]).drop;simp only[AJ,reduceIte,Nat.reduceEqDiff];by_cases h8:(bQ s d y).2=8
    ·rw[if_pos h8] at hf;simp only[h8,decide_true,aq];refine C6 hg OP fg (fun H4 h4=> ?_);simp only[AJ,reduceIte,Nat.reduceEqDiff]
     cases hfr:(bQ s d y).1.cZ with
     |none=>
      rw[hfr] at hf;cases hf;simp only[Option.isSome_none,Bool.not_false,aq];exact k2 (by show (10:Int)≠0;decide) H4 h4
     |some d'=>
      rw[hfr] at hf;simp only[Option.isSome_some,Bool.not_true,ai,Option.getD_some];exact C8 hm hg hcap hv n _ d' hf fg (fg.pT hfr) h4 k1 k2
    ·rw[if_neg h8] at hf;simp only[h8,decide_false,ai];by_cases h0:(bQ s d y).2=0
     ·rw[if_pos h0] at hf;simp only[h0,decide_true,Bool.not_true,ai];exact C8 hm hg hcap hv n _ d hf fg hd OP k1 k2
     ·rw[if_neg h0] at hf;cases hf;simp only[h0,decide_false,Bool.not_false,aq];exact k2 h0 H3 OP
theorem pU {g:bW} (hg:g.In) (hcap:g.cap<65000) {v:Nat} (hv:v∈g.us):∀(n:Nat) (s:FS) (d:Nat) {r:FS×Int×Nat},ov g n s v d=some r→aW g s→d∈g.us→aW g r.1∧(r.2.1=0→r.2.2∈g.us)
 |0,s,d,r,hf,hok,hd=>by cases hf
 |n+1,s,d,r,hf,hok,hd=>by
  rw[ov] at hf;split at hf
  ·cases hf;exact⟨hok,fun _=>hd⟩
  split at hf
  ·cases hf
  rename_i a l Lu;have har:=ub hok.pm (by rw[Lu];exact List.mem_cons_self:a∈s.f.pm.on v);have hna:=hok.na;split at hf
  ·cases hf
  rename_i x sC;obtain⟨hx1,uH⟩:=vq (by omega) sC;have fg:=hok.bQ hg hd (x:={x with fr:=v+1}) uH;split at hf
  case isFalse=>cases hf
  split at hf
  ·split at hf
   ·cases hf;exact⟨fg,fun h=>by cases h⟩
   ·rename_i d' hfr;exact pU hg hcap hv n _ d' hf fg (fg.pT hfr)
  split at hf
  ·exact pU hg hcap hv n _ d hf fg hd
  ·rename_i h0;cases hf;exact⟨fg,fun h=>absurd h h0⟩
end
end Go.Proofs.YtlgdkndamddpkaaGreat
end
section
namespace Go.Proofs.YtlgdkndamddpkaaGreat
open Go.Am
def I1 (g:bW) (k:Nat) (s:FS) (an:Nat):Option (FS×Int):=
 if (s.f.pm.ct.getD an none).isSome then ua g k k s ⟨2,0,0,an,0,[]⟩ else some (s,0)
section
variable {B:ag} {L:List bV} {H:ag} {K:V→ag→Prop} {aK fid mid pid:Nat} {m:Gm} {s:FS}
theorem Hf (hm:cY B L m) (hg:m.g.In) (hcap:m.g.cap<65000) {n:Nat} (h:fH B H aK fid mid pid m s L) (hok:aW m.g s) {r:FS×Int} (hf:gT m.g n s=some r) (k:aW m.g r.1→∀H',fH B H' aK fid mid pid m r.1 L→K (.int .i64 r.2) H'):cl 150 [.ak (some (fid,0))] H K:=by
 have g:=wa h;rw[Xc];refine jn (fun S:Am.St=>S.1 3=some (T.v (V.int .i64 ((s.iK.getD 0:Nat):Int)))∧S.1 4=some (T.v (V.bool s.iK.isSome))∧fH B S.3 aK fid mid pid m s L) (fun(S:Am.St) OG=> ?_) (fun Q hQ=> ?_)
 ·obtain⟨OP,hS4,hS⟩:=OG;generalize S.3=H1 at hS⊢;have g1:=wa hS;unfold gT at hf;simp only[OP,hS4,AN,reduceIte,Nat.reduceEqDiff]
  cases hl:s.iK with
  |none=>
   rw[hl] at hf;cases hf;simp only[Option.isSome_none,Bool.not_false,aq];exact k hok H1 hS
  |some v=>
   rw[hl] at hf;dsimp only at hf;have hv:=hok.yL hl;have Lv:v<s.f.pm.nb:=by have:=ng hv;have:=hok.nb;omega
   simp only[Option.isSome_some,Bool.not_true,ai,Option.getD_some,Nat.zero_add,g1.i 6 (by omega),g1.c6,AN,reduceIte,Nat.reduceEqDiff];rw[m0 hS.pm Lv];simp only[AN,reduceIte,Nat.reduceEqDiff];by_cases hc:s.f.pm.dH v=0
   ·rw[if_pos hc] at hf;cases hf;have sy:(s.f.pm.dH v:Int)=0:=by omega
    simp only[sy,decide_true,aq];refine vp hm hg hS hok hv (fun H2 h2=> ?_);simp only[AJ,reduceIte,Nat.reduceEqDiff];exact k (hok.bC hg hv) H2 h2
   rw[if_neg hc] at hf;have sy:¬(s.f.pm.dH v:Int)=0:=by omega
   simp only[sy,decide_false,ai];refine C6 hg hS hok (fun H2 h2=> ?_);have g2:=wa h2;simp only[AN,reduceIte,Nat.reduceEqDiff]
   cases hfr:s.cZ with
   |none=>
    rw[hfr] at hf;cases hf;simp only[Option.isSome_none,Bool.not_false,Bool.not_true,ai,dW,AJ,reduceIte,Nat.reduceEqDiff,aq];exact⟨k hok H2 h2,k hok H2 h2⟩
   |some d=>
    rw[hfr] at hf;dsimp only at hf;have hd:=hok.pT hfr;simp only[Option.isSome_some,Bool.not_false,Bool.not_true,aq,Option.getD_some,Nat.zero_add,g2.i 6 (by omega),g2.i 2 (by omega),g2.c6,g2.c2,dW,AJ,reduceIte,Nat.reduceEqDiff];have e:∀K:V→ag→Prop,cl 65 [V.ak (some (mid,0)),V.int .i64 (v:Int)] H2 K=K (.int .i64 (s.f.pm.dH v:Int)) H2:=fun K=>m0 h2.pm Lv
    simp only[e,g2.i 2 (by omega),g2.c2,AJ,reduceIte,Nat.reduceEqDiff,and_self];by_cases hp:(s.f.pm.dH v:Int)=m.g.ay
    ·rw[if_pos hp] at hf;cases hf;simp only[hp,decide_true,aq];exact k hok H2 h2
    rw[if_neg hp] at hf;simp only[hp,decide_false,ai]
    cases p4:ov m.g n s v d with
    |none=>rw[p4] at hf;cases hf
    |some o=>
     obtain⟨s1,e1,d1⟩:=o;rw[p4] at hf;dsimp only at hf;refine C8 hm hg hcap hv n s d p4 hok hd h2 (fun h0 fQ Lh H3 h3=> ?_) (fun h0 H3 h3=> ?_)
     ·rw[if_pos h0] at hf;simp only[AJ,reduceIte,Nat.reduceEqDiff];have h0:e1=0:=h0;refine vp hm hg h3 fQ hv (fun H4 h4=> ?_);have g4:=wa h4;have QC:=fQ.bC hg hv;simp only[AJ,reduceIte,Nat.reduceEqDiff];by_cases he:(bC s1 v).2=0
      ·rw[if_pos he] at hf;cases hf;simp only[he,decide_true,Bool.not_true,ai,Nat.zero_add,Option.isSome_some,g4.i 7 (by omega),g4.c7,AJ,reduceIte,Nat.reduceEqDiff];refine kg (hw:=2) h4.po QC.po (QC.how Lh) (by omega) (fun e H5 h5=> ?_);simp only[AJ,reduceIte,Nat.reduceEqDiff];exact k (QC.bw hg Lh (by omega)) H5 (h5.ord [1,1])
      ·rw[if_neg he] at hf;cases hf;simp only[he,decide_false,Bool.not_false,aq];exact k QC H4 h4
     ·have h0:e1≠0:=h0;rw[if_neg h0] at hf;cases hf;simp only[AJ,reduceIte,Nat.reduceEqDiff];exact k (pU hg hcap hv n s d p4 hok hd).1 H3 h3
 ·simp only[AJ,reduceIte,Nat.reduceEqDiff,Option.isSome_some,Nat.zero_add,g.i 6 (by omega),g.i 7 (by omega),g.c6,g.c7]
  have fin:∀q c H',fH B H' aK fid mid pid m s (IR q c s.f.pm.gS::L)→∀K':V→ag→Prop,K' (.tuple [.int .i64 ((s.iK.getD 0:Nat):Int),.bool s.iK.isSome]) H'→
   cl 153 [.ak (some (pid,0)),.int .u8 1,.slice q s.f.pm.gS.length c] H' K':=fun q c H' h' K' kk=>
   Bg (hw:=1) h'.po hok.po (az.tG (h'.ord [4])) kk
  refine⟨IZ hg h hok (fun q c H' h'=> ?_),IZ hg h hok (fun q c H' h'=> ?_)⟩
  ·simp only[AJ,reduceIte,Nat.reduceEqDiff];refine fin q c H' h' _ ?_;simp only[AJ,reduceIte,Nat.reduceEqDiff];exact hQ _ ⟨rfl,rfl,(h'.ord [4]).drop⟩
  ·have g':=wa h';simp only[AJ,reduceIte,Nat.reduceEqDiff,g'.i 7 (by omega),g'.c7];refine fin q c H' h' _ ?_;simp only[AJ,reduceIte,Nat.reduceEqDiff];exact hQ _ ⟨rfl,rfl,(h'.ord [4]).drop⟩
theorem Ff {g:bW} (hg:g.In) (hcap:g.cap<65000) {n:Nat} (hok:aW g s) {r:FS×Int} (hf:gT g n s=some r):aW g r.1:=by
 unfold gT at hf;split at hf
 ·cases hf;exact hok
 rename_i v hl;have hv:=hok.yL hl;split at hf
 ·cases hf;exact hok.bC hg hv
 split at hf
 ·cases hf;exact hok
 rename_i d hfr;split at hf
 ·cases hf;exact hok
 split at hf
 ·cases hf
 rename_i s1 e d1 p4;have h1:=pU hg hcap hv n s d p4 hok (hok.pT hfr);split at hf
 ·rename_i h0;split at hf
  ·cases hf;exact(h1.1.bC hg hv).bw hg (h1.2 h0) (by omega)
  ·cases hf;exact h1.1.bC hg hv
 ·cases hf;exact h1.1
def Rm (fid:Nat) (Kr:Am.St→Prop) (Ke:Nat→Am.St→Prop) (H:ag):Prop:=
 ah (Option.isSome (some (fid,0)))
  (nm (pb (some (fid,0))) fun n=>nm ((po (some (fid,0)))+7) fun n_2=>
   ah (ag.inb H n n_2 1&&V.aw .ak (ag.cell H n n_2))
    (cl 93 [V.ak (V.ao (ag.cell H n n_2)),V.int .u8 3] H fun v H'=>
     ah (V.aw (.int .i64) v)
      (ah (Option.isSome (some (fid,0)))
       (nm (pb (some (fid,0))) fun n=>nm ((po (some (fid,0)))+1+2) fun bS=>
        ah (ag.inb H' n bS 1&&V.aw (.int .i64) (ag.cell H' n bS))
         (br (decide (V.aa v>V.aa (ag.cell H' n bS)))
          (Kr (St.mk (ab [(2,T.v (V.int .i64 0)),(3,T.v (V.int .i64 10))]) (ab []) H'))
          (cI
           (fun Q=>
            ah (Option.isSome (some (fid,0)))
             (nm (pb (some (fid,0))) fun n=>nm ((po (some (fid,0)))+7) fun cQ=>
              ah (ag.inb H' n cQ 1&&V.aw .ak (ag.cell H' n cQ))
               (nm (V.ao (ag.cell H' n cQ)) fun s=>
                ah (Option.isSome (some (fid,0)))
                 (nm (pb (some (fid,0))) fun n=>nm ((po (some (fid,0)))+1) fun eF=>
                  (cl 93 [V.ak s,V.int .u8 0] H' fun v_1 H'=>
                   ah (V.aw (.int .i64) v_1)
                    (ah (ag.inb H' n eF 4&&aI wz (ag.sub H' n eF 4))
                     (cl 148 [V.agg (pw (ag.sub H' n eF 4)),V.int .i64 (V.aa v)] H' fun v H'=>
                      ah (V.aw (.int .i64) v)
                       (Q (St.mk (ab [(62,T.v (V.bool (decide (V.aa v_1>V.aa v))))]) (ab []) H')))))∧
                  ah (ag.inb H' n eF 4&&aI wz (ag.sub H' n eF 4))
                   (cl 93 [V.ak s,V.int .u8 0] H' fun v_1 H'_1=>
                    ah (V.aw (.int .i64) v_1)
                     (cl 148 [V.agg (pw (ag.sub H' n eF 4)),V.int .i64 (V.aa v)] H'_1 fun v H'=>
                      ah (V.aw (.int .i64) v)
                       (Q (St.mk (ab [(62,T.v (V.bool (decide (V.aa v_1>V.aa v))))]) (ab []) H'))))))))
           fun S'=>
            ah (aG (KT.k .bool) (S'.1 62)||false||false)
             (br (V.av (T.val (S'.1 62)))
              (cl 149 [V.ak (some (fid,0))] S'.3 fun v H'=>
               ah (V.aH 2 v&&(V.aw (.int .i64) (ae (V.aj v) 0)&&(V.aw .bool (ae (V.aj v) 1)||false)))
                (ah (Option.isSome (some (fid,0)))
                 (nm (pb (some (fid,0))) fun n=>nm ((po (some (fid,0)))+7) fun cQ=>
                  ah (ag.inb H' n cQ 1&&V.aw .ak (ag.cell H' n cQ))
                   (cl 63 [V.ak (V.ao (ag.cell H' n cQ)),V.int .i64 (V.aa (ae (V.aj v) 0)),V.int .u8 2] H' fun v H'=>
                    ah (V.aw (.int .i64) v)
                     (lo 140 1 (St.mk (ab [(0,T.v (V.ak (some (fid,0))))]) (ab []) H') Kr Ke)))))
              (cl 150 [V.ak (some (fid,0))] S'.3 fun v H'=>
               ah (V.aw (.int .i64) v)
                (br (!decide (V.aa v=0))
                 (Kr (St.mk (ab [(2,T.v (V.int .i64 0)),(3,T.v (V.int .i64 (V.aa v)))]) (ab []) H'))
                 (lo 140 1 (St.mk (ab [(0,T.v (V.ak (some (fid,0))))]) (ab []) H') Kr Ke))))))))))
theorem C9 (hm:cY B L m) (hg:m.g.In) (hcap:m.g.cap<65000) {kf:Nat} {Kr:Am.St→Prop} {Ke:Nat→Am.St→Prop}:∀(n:Nat) (s:FS) {H:ag} {r:FS×Int×Nat},iZ m.g kf n s=some r→aW m.g s→fH B H aK fid mid pid m s L→(aW m.g r.1→(r.2.1=0→r.2.2∈m.g.us)→∀H',fH B H' aK fid mid pid m r.1 L→Kr (St.mk (ab [(2,T.v (V.int .i64 (r.2.2:Int))),(3,T.v (V.int .i64 r.2.1))]) (ab []) H'))→lo 140 1 (St.mk (ab [(0,T.v (V.ak (some (fid,0))))]) (ab []) H) Kr Ke
 |0,s,H,r,hf,hok,h,k=>by rw[iZ] at hf;cases hf
 |n+1,s,H,r,hf,hok,h,k=>by
  have g:=wa h;rw[Pn];simp only[AN,reduceIte,Nat.reduceEqDiff,Option.isSome_some,Nat.zero_add,g.i 7 (by omega),g.c7];refine Fb h.po hok.po ?_;simp only[AN,reduceIte,Nat.reduceEqDiff];have hgs:=hg.s
  have vE:∀h:Nat,s.f.po.count h≤62:=fun h=>by
   have h1:s.f.po.count h≤s.f.po.bl.length:=List.countP_le_length;have h2:s.f.po.bl.length=m.g.us.length:=by rw[←hok.us,List.length_map]
   have:=bW.jX m.g hg.b.2;omega
  have rest:∀(s:FS) {H:ag},lf m.g kf n s=some r→aW m.g s→(∀h:Nat,s.f.po.count h≤62)→fH B H aK fid mid pid m s L→Rm fid Kr Ke H:=by
   intro s H hf hok vE h;unfold Rm;have g:=wa h;simp only[AN,reduceIte,Nat.reduceEqDiff,Option.isSome_some,Nat.zero_add,g.i 7 (by omega),g.c7];refine vo h.po hok.po 3 (fun H1 h1=> ?_);have Al:fH B H1 aK fid mid pid m s L:=h1.ord [1,1];have g1:=wa Al;simp only[AN,reduceIte,Nat.reduceEqDiff,Option.isSome_some,g1.i 3 (by omega),g1.c3];unfold lf at hf;by_cases hd:(s.f.po.count 3:Int)>m.g.aF
   ·rw[if_pos hd] at hf;cases hf;simp only[hd,decide_true,aq];exact k hok (fun h=>by cases h) H1 Al
   rw[if_neg hd] at hf;simp only[hd,decide_false,ai];have hgc:=g1.g;refine jn (fun S:Am.St=>S.1 62=some (T.v (V.bool (decide ((s.f.po.count 0:Int)>1+m.g.aF-s.f.po.count 3))))∧fH B S.3 aK fid mid pid m s L) (fun(S:Am.St) OG=> ?_) (fun Q hQ=> ?_)
   ·obtain⟨abz,Lo⟩:=OG;generalize S.3=H2 at Lo⊢;simp only[abz,AJ,reduceIte,Nat.reduceEqDiff];by_cases hr:(s.f.po.count 0:Int)>1+m.g.aF-s.f.po.count 3
    ·rw[if_pos hr] at hf;simp only[hr,decide_true,aq]
     cases hfr:s.cZ with
     |none=>rw[hfr] at hf;cases hf
     |some b=>
      rw[hfr] at hf;dsimp only at hf;have hb:=hok.pT hfr;refine C6 hg Lo hok (fun H3 h3=> ?_);have g3:=wa h3;rw[hfr];simp only[AJ,reduceIte,Nat.reduceEqDiff,Option.isSome_some,Option.getD_some,g3.i 7 (by omega),g3.c7];refine kg (hw:=2) h3.po hok.po (hok.how hb) (by omega) (fun e H4 h4=> ?_);simp only[AJ,reduceIte,Nat.reduceEqDiff];exact C9 hm hg hcap n _ hf (hok.bw hg hb (by omega)) (h4.ord [1,1]) k
    ·rw[if_neg hr] at hf;simp only[hr,decide_false,ai]
     cases hc:gT m.g kf s with
     |none=>rw[hc] at hf;cases hf
     |some o=>
      obtain⟨s1,e⟩:=o;rw[hc] at hf;dsimp only at hf;refine Hf hm hg hcap Lo hok hc (fun fQ H3 h3=> ?_);simp only[AJ,reduceIte,Nat.reduceEqDiff];by_cases he:e=0
      ·rw[if_pos he] at hf;simp only[he,decide_true,Bool.not_true,ai];exact C9 hm hg hcap n _ hf fQ h3 k
      ·rw[if_neg he] at hf;cases hf;simp only[he,decide_false,Bool.not_false,aq];exact k fQ (fun h=>absurd h he) H3 h3
   ·have RV:∀(H:ag) (K:V→ag→Prop),cl 148 [V.agg (cV m.g.aB m.g.ay m.g.aF m.q m.g.bB.length m.c),V.int .i64 (s.f.po.count 3:Int)] H K=K (.int .i64 (1+m.g.aF-(s.f.po.count 3:Int))) H:=fun H K=>
     GW (m:=m) hg (by have:=vE 3;omega)
    simp only[AJ,reduceIte,Nat.reduceEqDiff,Option.isSome_some,Nat.zero_add,g1.i 7 (by omega),g1.c7,hgc.1,hgc.2,f25,tC,lP,lQ,lR,lS];refine⟨vo Al.po hok.po 0 (fun H3 h3=> ?_),vo Al.po hok.po 0 (fun H3 h3=> ?_)⟩
    all_goals
     have OP:fH B H3 aK fid mid pid m s L:=h3.ord [1,1];have g3:=(wa OP).g;simp only[AJ,reduceIte,Nat.reduceEqDiff,g3.1,g3.2,f25,tC,lP,lQ,lR,lS];rw[RV];simp only[AJ,reduceIte,Nat.reduceEqDiff];exact hQ _ ⟨rfl,OP⟩
  rw[iZ] at hf
  cases ho:s.f.po.j3 with
  |none=>
   rw[ho] at hf;dsimp only at hf;simp only[Option.isSome_none,ai,dW,and_self,AJ,reduceIte,Nat.reduceEqDiff];have:=rest s hf hok vE h;unfold Rm at this;simp only[AJ,reduceIte,Nat.reduceEqDiff] at this;exact this
  |some b=>
   rw[ho] at hf;dsimp only at hf;have hb:=hok.PL ho;have hlt:=hok.lt hb
   have mw:((s.a.bs[b]'hlt).pg.length)=s.next b:=by
    unfold FS.next;rw[List.getD_eq_getElem?_getD,List.getElem?_eq_getElem hlt];rfl
   have NX:∀K:V→ag→Prop,cl 64 [V.ak (some (aK,0)),V.int .i64 (b:Int)] H K=K (.int .i64 (s.next b:Int)) H:=fun K=>by
    rw[tK (fH.arr h) hlt,mw]
   simp only[Option.isSome_some,Option.getD_some,aq,dW,NX,g.i 0 (by omega),g.i 2 (by omega),g.c0,g.c2,AJ,reduceIte,Nat.reduceEqDiff];refine And.intro ?_ ?_
   all_goals
    by_cases hlt:(s.next b:Int)<m.g.ay
    ·rw[if_pos hlt] at hf;cases hf;simp only[hlt,decide_true,aq];exact k hok (fun _=>hb) H h
    ·rw[if_neg hlt] at hf;simp only[hlt,decide_false,ai,g.i 7 (by omega),g.c7,AJ,reduceIte,Nat.reduceEqDiff];refine kg (hw:=1) h.po hok.po (hok.how hb) (by omega) (fun e H1 h1=> ?_);have fQ:=hok.bw hg hb (h:=1) (by omega);simp only[AJ,reduceIte,Nat.reduceEqDiff];have:=rest _ hf fQ (fun h=> ?_) (h1.ord [1,1])
     ·unfold Rm at this;simp only[AJ,reduceIte,Nat.reduceEqDiff,dW] at this;exact this
     ·have h1:(s.bw b 1).f.po.count h≤(s.bw b 1).f.po.bl.length:=List.countP_le_length;have h2:(s.bw b 1).f.po.bl.length=m.g.us.length:=by rw[←fQ.us,List.length_map]
      have:=bW.jX m.g hg.b.2;omega
end
section
variable {B:ag} {L:List bV} {H:ag} {K:V→ag→Prop} {aK fid mid pid:Nat} {m:Gm} {s:FS}
theorem Ns (hm:cY B L m) (hg:m.g.In) (hcap:m.g.cap<65000) {kf:Nat} {x:Sh} {q:Oq} {c:Nat} (hr:lC B L q x.data) (h1:x.cK<256) (h4:(x.an:Int)≤m.g.cap) (h5:x.fr≤256) (h6:x.data.length≤64) {Kr:Am.St→Prop} {Ke:Nat→Am.St→Prop}:∀(n:Nat) (s:FS) {H:ag} {r:FS×Int},ua m.g kf n s x=some r→aW m.g s→fH B H aK fid mid pid m s L→(aW m.g r.1→∀H',fH B H' aK fid mid pid m r.1 L→Kr (St.mk (ab [(4,T.v (V.int .i64 r.2))]) (ab []) H'))→lo 118 1 (St.mk (ab [(0,T.v (V.ak (some (fid,0)))),(3,T.lp 3 0)]) (ab [(3,aV.cells 126 (fc (x.cK:Int) (x.ep:Int) (x.seq:Int) (x.an:Int) ((x.fr:Int)-1) q x.data.length c))]) H) Kr Ke
 |0,s,H,r,hf,hok,h,k=>by cases hf
 |n+1,s,H,r,hf,hok,h,k=>by
  rw[Pk,W4];unfold ua at hf
  cases hro:iZ m.g kf kf s with
  |none=>rw[hro] at hf;cases hf
  |some o=>
   obtain⟨s1,e,b⟩:=o;rw[hro] at hf;dsimp only at hf;refine C9 hm hg hcap kf s hro hok h (fun fQ hb H1 Al=> ?_);simp only[AJ,reduceIte,Nat.reduceEqDiff];by_cases he:e=0
   ·rw[if_pos he] at hf;have hb:b∈m.g.us:=hb he;simp only[he,decide_true,Bool.not_true,ai]
    have:=Fe (K:=fun v H'=>ah (V.aw (.int .i64) v) (br (!decide (V.aa v=8)) (Kr (St.mk (ab [(4,T.v (V.int .i64 (V.aa v)))]) (ab []) H'))
     (lo 118 1 (St.mk (ab [(0,T.v (V.ak (some (fid,0)))),(3,T.lp 3 0)])
      (ab [(3,aV.cells 126 (fc (x.cK:Int) (x.ep:Int) (x.seq:Int) (x.an:Int) ((x.fr:Int)-1) q x.data.length c))]) H') Kr Ke))) hm hg Al fQ hb (x:=x) (q:=q) (c:=c) hr h1 h4 hcap h5 h6 (fun H2 h2=> ?_)
    ·exact this
    ·simp only[AJ,reduceIte,Nat.reduceEqDiff];have fg:=fQ.bQ hg hb (x:=x) h6;by_cases h8:(bQ s1 b x).2=8
     ·rw[if_pos h8] at hf;simp only[h8,decide_true,Bool.not_true,ai];exact Ns hm hg hcap hr h1 h4 h5 h6 n _ hf fg h2 k
     ·rw[if_neg h8] at hf;cases hf;simp only[h8,decide_false,Bool.not_false,aq];exact k fg H2 h2
   ·rw[if_neg he] at hf;cases hf;simp only[he,decide_false,Bool.not_false,aq];exact k fQ H1 Al
theorem I2 (hm:cY B L m) (hg:m.g.In) (hcap:m.g.cap<65000) {kf n:Nat} {x:Sh} {q:Oq} {c:Nat} (hr:lC B L q x.data) (h1:x.cK<256) (h4:(x.an:Int)≤m.g.cap) (h5:x.fr≤256) (h6:x.data.length≤64) {r:FS×Int} (hf:ua m.g kf n s x=some r) (hok:aW m.g s) (h:fH B H aK fid mid pid m s L) (k:aW m.g r.1→∀H',fH B H' aK fid mid pid m r.1 L→K (.int .i64 r.2) H'):cl 118 [.ak (some (fid,0)),zG x q c] H K:=by
 unfold zG;rw[WN];refine Ns hm hg hcap hr h1 h4 h5 h6 n s hf hok h (fun fQ H1 h1=> ?_);simp only[AJ,reduceIte,Nat.reduceEqDiff];exact k fQ H1 h1
def Q1 (an:Nat) (d:List UInt8):Sh:=⟨1,0,0,an,0,d⟩
def shT (an:Nat):Sh:=⟨2,0,0,an,0,[]⟩
theorem Bi (hm:cY B L m) (hg:m.g.In) (hcap:m.g.cap<65000) {kf n:Nat} {an:Nat} {d:List UInt8} {q:Oq} {c:Nat} (hr:lC B L q d) (h4:(an:Int)≤m.g.cap) (h6:d.length≤64) {r:FS×Int} (hf:ua m.g kf n s (Q1 an d)=some r) (hok:aW m.g s) (h:fH B H aK fid mid pid m s L) (k:aW m.g r.1→∀H',fH B H' aK fid mid pid m r.1 L→K (.int .i64 r.2) H'):cl 82 [.ak (some (fid,0)),.int .i64 (an:Int),.slice q d.length c] H K:=by
 rw[aaE];refine C7 hm h hg (an:Int) (fun H1 h1=> ?_);have e:0≤(an:Int)∧(an:Int)≤m.g.cap:=⟨by omega,h4⟩;have e2:¬((d.length:Nat):Int)>64:=by omega
 simp only[e,and_self,if_true,AJ,reduceIte,Nat.reduceEqDiff,e2,decide_true,decide_false,Bool.not_true,ai];have:=I2 (K:=fun v H'=>ah (V.aw (.int .i64) v) (K (V.int .i64 (V.aa v)) H')) hm hg hcap (x:=Q1 an d) (q:=q) (c:=c) hr (by show 1<256;omega) h4 (by show 0≤256;omega) h6 hf hok h1 (fun fg H2 h2=> ?_)
 ·exact this
 ·simp only[AJ,reduceIte,Nat.reduceEqDiff];exact k fg H2 h2
theorem Nt (hm:cY B L m) (hg:m.g.In) (hcap:m.g.cap<65000) {kf:Nat} {an:Nat} (h4:(an:Int)≤m.g.cap) {r:FS×Int} (hf:I1 m.g kf s an=some r) (hok:aW m.g s) (h:fH B H aK fid mid pid m s L) (k:aW m.g r.1→∀H',fH B H' aK fid mid pid m r.1 L→K (.int .i64 r.2) H'):cl 120 [.ak (some (fid,0)),.int .i64 (an:Int)] H K:=by
 rw[WO];refine C7 hm h hg (an:Int) (fun H1 h1=> ?_);have e:0≤(an:Int)∧(an:Int)≤m.g.cap:=⟨by omega,h4⟩;have g1:=wa h1;have FX:an<s.f.pm.ct.length:=by have:=hok.na;omega
 have hgd:s.f.pm.ct.getD an none=s.f.pm.ct[an]:=by rw[List.getD_eq_getElem?_getD,List.getElem?_eq_getElem FX];rfl
 simp only[e,and_self,if_true,AJ,reduceIte,Nat.reduceEqDiff,decide_true,decide_false,Bool.not_true,ai,Option.isSome_some,Nat.zero_add,g1.i 6 (by omega),g1.c6];rw[IN h1.pm FX];unfold I1 at hf;rw[hgd] at hf
 have hfit:aI GQ (vm s.f.pm.ct[an])=true:=by
  cases s.f.pm.ct[an]<;>rfl
 simp only[AJ,reduceIte,Nat.reduceEqDiff,hfit];by_cases ho:(s.f.pm.ct[an]).isSome=true
 ·rw[if_pos ho] at hf;simp only[ho,Bool.not_true,ai];have:=I2 (K:=fun v H'=>ah (V.aw (.int .i64) v) (K (V.int .i64 (V.aa v)) H')) hm hg hcap (x:=shT an) (q:=none) (c:=0) (fun H h=>(jW h).gQ) (by show 2<256;omega) h4 (by show 0≤256;omega) (by show 0≤64;omega) hf hok h1 (fun fg H2 h2=> ?_)
  ·exact this
  ·simp only[AJ,reduceIte,Nat.reduceEqDiff];exact k fg H2 h2
 ·rw[if_neg ho] at hf;cases hf;simp only[ho,Bool.not_false,aq];exact k hok H1 h1
theorem Bj (h:fH B H aK fid mid pid m s L):cl 58 [.ak (some (fid,0))] H K=K (.int .u64 (s.f.ep:Int)) H:=by
 have g:=wa h;rw[aao];simp only[Option.isNone_some,Option.isSome_some,Nat.zero_add,g.i 5 (by omega),g.c5,AJ,reduceIte,Nat.reduceEqDiff]
end
def Km (g:bW) (sq:Int→Nat) (b nx:Nat):List Int→Nat×Int→Nat×Int
 |[],o=>o
 |a::l,o=>if (nx:Int)<g.ay∧o.1<sq a then Km g sq b nx l (sq a,b) else Km g sq b nx l o
def fM (g:bW) (sq:Int→Nat):List Nat→FS→Nat×Int→FS×Int×Nat×Int
 |[],s,o=>(s,0,o)
 |b::l,s,o=>
  if (s.a.bs.getD b fj).aM=true then fM g sq l (s.bw b 3) o
  else if s.next b=0 then fM g sq l s o
  else if s.f.pm.dH b=0 then (if (bC (s.bw b 1) b).2=0 then fM g sq l (bC (s.bw b 1) b).1 o else ((bC (s.bw b 1) b).1,(bC (s.bw b 1) b).2,o))
  else fM g sq l (s.bw b 1) (Km g sq b (s.next b) (s.f.pm.on b) o)
def dX (pz:List (Rf×Nat)) (a:Int):Nat:=((lD a.toNat pz).map fun x=>x.1.f.s.seq).getD 0
def FS.wW (g:bW) (a:Ar) (ep:Nat):FS:=⟨a,⟨ep,pQ g (a.z8 g),Po.new g.us,a.Kh g⟩⟩
def cu (g:bW) (sq:Int→Nat) (a:Ar) (ep:Nat):FS×Int:=
 let r:=fM g sq g.us (FS.wW g a ep) (0, -1)
 if r.2.1=0 then (if 0≤r.2.2.2 then (r.1.bw r.2.2.2.toNat 2,0) else (r.1,0)) else (r.1,r.2.1)
section
variable {B:ag} {L:List bV} {H:ag} {K:V→ag→Prop} {aK fid mid pid:Nat} {m:Gm} {s:FS}
theorem Tz {id c:Nat} {pz:List (Rf×Nat)} (h:az B H (ir id (k8 pz) c::L)) {n:Int} (hn:0≤n):∃x:Rf,bT H (some id) n (V.agg (kb 0 0 0 0 0 0 0 none 0 0))=.agg x.cs∧x.f.s.seq=dX pz n∨bT H (some id) n (V.agg (kb 0 0 0 0 0 0 0 none 0 0))=V.agg (kb 0 0 0 0 0 0 0 none 0 0)∧dX pz n=0:=by
 rw[yC h];obtain⟨a,rfl⟩:∃a:Nat,n=(a:Int):=⟨n.toNat,by omega⟩;unfold dX;rw[tY,Int.toNat_natCast]
 cases lD a pz with
 |none=>exact⟨⟨⟨0,0,⟨0,0,0,0,0,[]⟩⟩,none,0⟩,.inr ⟨rfl,rfl⟩⟩
 |some x=>exact⟨x.1,.inl ⟨rfl,rfl⟩⟩
def ud (m:Gm):aV:=aV.cells 26 (cV m.g.aB m.g.ay m.g.aF m.q m.g.bB.length m.c)
def Q2 (mid pg:Nat) (sq:Nat) (q:Oq) (n c:Nat):aV:=aV.cells 113 (cJ (some (mid,0)) (some pg) (sq:Int) q n c)
theorem Q3 {pg pc Lw:Nat} {pz:List (Rf×Nat)} {YL q90 spq:Oq} {YM YN c90 spn spc:Nat} {t54 t55:Int} {b:Nat} (hb:b<s.a.bs.length) (l:List Int) (hl:∀a∈l,0≤a) (hlen:l.length≤1000000) {Kr:Am.St→Prop} {Ke:Nat→Am.St→Prop} (h:fH B H aK fid mid pid m s (IR q90 c90 l::ir pg (k8 pz) pc::L)):∀(k i:Nat) (o:Nat×Int),i+k=l.length→Ke 2 (St.mk (ab [(0,T.v (V.ak (some (aK,0)))),(4,T.lp 4 0),(8,T.lp 8 0),(10,T.v (V.ak (some (pid,0)))),(12,T.v (V.ak (some (fid,0)))),(13,T.v (V.int .u64 ((Km m.g (dX pz) b (s.next b) (l.drop i) o).1:Int))),(14,T.v (V.int .i64 (Km m.g (dX pz) b (s.next b) (l.drop i) o).2)),(53,T.v (V.slice YL YM YN)),(54,T.v (V.int .i64 t54)),(55,T.v (V.int .i64 t55))]) (ab [(4,ud m),(8,Q2 mid pg Lw spq spn spc)]) H)→lo 37 29 (St.mk (ab [(0,T.v (V.ak (some (aK,0)))),(4,T.lp 4 0),(8,T.lp 8 0),(10,T.v (V.ak (some (pid,0)))),(12,T.v (V.ak (some (fid,0)))),(13,T.v (V.int .u64 (o.1:Int))),(14,T.v (V.int .i64 o.2)),(16,T.v (V.int .i64 (b:Int))),(53,T.v (V.slice YL YM YN)),(54,T.v (V.int .i64 t54)),(55,T.v (V.int .i64 t55)),(90,T.v (V.slice q90 l.length c90)),(91,T.v (V.int .i64 (l.length:Int))),(92,T.v (V.int .i64 (i:Int)))]) (ab [(4,ud m),(8,Q2 mid pg Lw spq spn spc)]) H) Kr Ke
 |0,i,o,hi,hk=>by
  unfold ud Q2 at*;obtain rfl:i=l.length:=by omega
  rw[HW,decide_eq_false (by omega),ai];rw[List.drop_length,Km] at hk;exact hk
 |k+1,i,o,hi,hk=>by
  have hlt:i<l.length:=by omega
  obtain⟨s1,s2,s3⟩:=(az.tG (h.ord [4])).at hlt;simp only[Nat.mul_one] at s2 s3;rw[List.drop_eq_getElem_cons hlt,Km] at hk;have ih:=Q3 (Kr:=Kr) (Ke:=Ke) (YM:=YM) (YN:=YN) (YL:=YL) (t54:=t54) (t55:=t55) (Lw:=Lw) (spq:=spq) (spn:=spn) (spc:=spc) hb l hl hlen h k (i+1);unfold ud Q2 at*;have a1:(i:Int)<(l.length:Int):=by omega
  have a2:(0:Int)≤(i:Int):=by omega
  have a3:IntKind.i64.wrap ((i:Int)+1)=((i+1:Nat):Int):=aJ (by omega);have hmp:=h.ord [5];have hok:=tT hmp;rw[HW];simp only[a1,a2,decide_true,aq,s1,s2,s3,Int.toNat_natCast,Nat.mul_one,hok,AJ,reduceIte,Nat.reduceEqDiff,a3]
  have mw:((s.a.bs[b]'hb).pg.length)=s.next b:=by
   unfold FS.next;rw[List.getD_eq_getElem?_getD,List.getElem?_eq_getElem hb];rfl
  obtain⟨x,hx⟩:=Tz hmp (hl _ (List.getElem_mem hlt))
  obtain⟨cs,e1,e2,e3⟩:∃cs:List V,bT H (some pg) l[i] (V.agg (kb 0 0 0 0 0 0 0 none 0 0))=.agg cs∧aI oE cs=true∧V.aa (ae cs 4)=(dX pz l[i]:Int):=by
   rcases hx with⟨e,e'⟩|⟨e,e'⟩
   ·exact⟨_,e,rfl,by rw[←e'];rfl⟩
   ·exact⟨_,e,rfl,by rw[e'];rfl⟩
  simp only[e1,e2,e3,AJ,reduceIte,Nat.reduceEqDiff];rw[tK (fH.arr h) hb,mw];simp only[AJ,reduceIte,Nat.reduceEqDiff];by_cases hc:(s.next b:Int)<m.g.ay∧o.1<dX pz l[i]
  ·rw[if_pos hc] at hk;have d1:(s.next b:Int)<m.g.ay:=hc.1;have d2:(dX pz l[i]:Int)>(o.1:Int):=by omega
   simp only[d1,d2,decide_true,Bool.and_self,aq];exact ih _ (by omega) hk
  ·rw[if_neg hc] at hk;by_cases d1:(s.next b:Int)<m.g.ay
   ·have d2:¬(dX pz l[i]:Int)>(o.1:Int):=fun h=>hc ⟨d1,by omega⟩
    simp only[d1,d2,decide_true,decide_false,Bool.and_false,ai];exact ih _ (by omega) hk
   ·simp only[d1,decide_false,Bool.false_and,ai];exact ih _ (by omega) hk
theorem XN (hm:cY B L m) (hg:m.g.In) {pg pc Lw:Nat} {pz:List (Rf×Nat)} {uq spq:Oq} {uc spn spc:Nat} {Kr:Am.St→Prop} {Ke:Nat→Am.St→Prop}:∀(k i:Nat) (s:FS) (o:Nat×Int) {H:ag},i+k=m.g.us.length→aW m.g s→fH B H aK fid mid pid m s (IR uq uc (cR m.g.us)::ir pg (k8 pz) pc::L)→((fM m.g (dX pz) (m.g.us.drop i) s o).2.1=0→aW m.g (fM m.g (dX pz) (m.g.us.drop i) s o).1→∀H',fH B H' aK fid mid pid m (fM m.g (dX pz) (m.g.us.drop i) s o).1 (IR uq uc (cR m.g.us)::ir pg (k8 pz) pc::L)→Ke 0 (St.mk (ab [(10,T.v (V.ak (some (pid,0)))),(12,T.v (V.ak (some (fid,0)))),(14,T.v (V.int .i64 (fM m.g (dX pz) (m.g.us.drop i) s o).2.2.2))]) (ab []) H'))→((fM m.g (dX pz) (m.g.us.drop i) s o).2.1≠0→aW m.g (fM m.g (dX pz) (m.g.us.drop i) s o).1→∀H',fH B H' aK fid mid pid m (fM m.g (dX pz) (m.g.us.drop i) s o).1 (IR uq uc (cR m.g.us)::ir pg (k8 pz) pc::L)→Kr (St.mk (ab [(6,T.v (V.ak none)),(7,T.v (V.int .i64 (fM m.g (dX pz) (m.g.us.drop i) s o).2.1))]) (ab []) H'))→lo 37 12 (St.mk (ab [(0,T.v (V.ak (some (aK,0)))),(4,T.lp 4 0),(8,T.lp 8 0),(10,T.v (V.ak (some (pid,0)))),(12,T.v (V.ak (some (fid,0)))),(13,T.v (V.int .u64 (o.1:Int))),(14,T.v (V.int .i64 o.2)),(53,T.v (V.slice uq m.g.us.length uc)),(54,T.v (V.int .i64 (m.g.us.length:Int))),(55,T.v (V.int .i64 (i:Int)))]) (ab [(4,ud m),(8,Q2 mid pg Lw spq spn spc)]) H) Kr Ke
 |0,i,s,o,H,hi,hok,h,k1,k2=>by
  obtain rfl:i=m.g.us.length:=by omega
  unfold ud Q2;rw[HV,decide_eq_false (by omega),ai];rw[List.drop_length] at k1;exact k1 rfl hok H h
 |k+1,i,s,o,H,hi,hok,h,k1,k2=>by
  have hlt:i<m.g.us.length:=by omega
  have Jx:=bW.jX m.g hg.b.2;obtain⟨b,hbe⟩:∃b,b=m.g.us[i]:=⟨_,rfl⟩;have hb:b∈m.g.us:=by rw[hbe];exact List.getElem_mem hlt
  have Ak:=hok.lt hb;have Lv:b<s.f.pm.nb:=by have:=ng hb;have:=hok.nb;omega
  obtain⟨s1,s2,s3⟩:=(az.tG (h.ord [4])).at (i:=i) (by simpa using hlt);simp only[Nat.mul_one] at s2 s3;have e1:(cR m.g.us)[i]'(by simpa using hlt)=(b:Int):=by simp [cR,hbe]
  rw[e1] at s3;rw[List.drop_eq_getElem_cons hlt, ←hbe,fM] at k1 k2;have ih:=fun s o H=>XN (Kr:=Kr) (Ke:=Ke) (Lw:=Lw) (spq:=spq) (spn:=spn) (spc:=spc) hm hg k (i+1) s o (H:=H) (pz:=pz) (pg:=pg) (pc:=pc) (uq:=uq) (uc:=uc)
  have hfl:(s.a.bs.getD b fj)=s.a.bs[b]:=by rw[List.getD_eq_getElem?_getD,List.getElem?_eq_getElem Ak];rfl
  have mw:((s.a.bs[b]'Ak).pg.length)=s.next b:=by unfold FS.next;rw[hfl]
  rw[hfl] at k1 k2;unfold ud Q2 at*;have a1:(i:Int)<(m.g.us.length:Int):=by omega
  have a2:(0:Int)≤(i:Int):=by omega
  have a3:IntKind.i64.wrap ((i:Int)+1)=((i+1:Nat):Int):=aJ (by omega);have abU:(cR m.g.us).length=m.g.us.length:=gu _;rw[HV];simp only[a1,a2,decide_true,aq,s1,s2,s3,Int.toNat_natCast,Nat.mul_one,AJ,reduceIte,Nat.reduceEqDiff,a3];rw[GZ (fH.arr h) Ak];simp only[AJ,reduceIte,Nat.reduceEqDiff];by_cases hf:(s.a.bs[b]).aM=true
  ·simp only[hf,if_true] at k1 k2;rw[hf,aq];refine kg (hw:=3) h.po hok.po (hok.how hb) (by omega) (fun e H1 h1=> ?_);simp only[AJ,reduceIte,Nat.reduceEqDiff];exact ih _ o _ (by omega) (hok.bw hg hb (by omega)) (h1.ord [1,1]) k1 k2
  simp only[hf,Bool.false_eq_true,if_false] at k1 k2;rw[Bool.not_eq_true] at hf;rw[hf,ai,tK (fH.arr h) Ak,mw];simp only[AJ,reduceIte,Nat.reduceEqDiff];by_cases hn:s.next b=0
  ·rw[if_pos hn] at k1 k2;have hn':(s.next b:Int)=0:=by omega
   simp only[hn',decide_true,aq];exact ih _ o _ (by omega) hok h k1 k2
  rw[if_neg hn] at k1 k2;have hn':¬(s.next b:Int)=0:=by omega
  simp only[hn',decide_false,ai];refine kg (hw:=1) h.po hok.po (hok.how hb) (by omega) (fun e H1 h1=> ?_);have Al:fH B H1 aK fid mid pid m (s.bw b 1) (IR uq uc (cR m.g.us)::ir pg (k8 pz) pc::L):=h1.ord [1,1];have fQ:=hok.bw hg hb (h:=1) (by omega);have g1:=wa Al;simp only[Option.isSome_some,Nat.zero_add,g1.i 6 (by omega),g1.c6,AJ,reduceIte,Nat.reduceEqDiff];rw[m0 (fH.pm Al) Lv];simp only[AJ,reduceIte,Nat.reduceEqDiff];by_cases hc:s.f.pm.dH b=0
  ·rw[if_pos hc] at k1 k2;have sy:((s.bw b 1).f.pm.dH b:Int)=0:=by show (s.f.pm.dH b:Int)=0;omega
   simp only[sy,decide_true,aq];refine vp ((hm.bg _).bg _) hg Al fQ hb (fun H2 h2=> ?_);simp only[AJ,reduceIte,Nat.reduceEqDiff];by_cases he:(bC (s.bw b 1) b).2=0
   ·rw[if_pos he] at k1 k2;simp only[he,decide_true,Bool.not_true,ai];exact ih _ o _ (by omega) (fQ.bC hg hb) h2 k1 k2
   ·rw[if_neg he] at k1 k2;simp only[he,decide_false,Bool.not_false,aq];exact k2 he (fQ.bC hg hb) H2 h2
  ·rw[if_neg hc] at k1 k2;have sy:¬((s.bw b 1).f.pm.dH b:Int)=0:=by show¬(s.f.pm.dH b:Int)=0;omega
   simp only[sy,decide_false,ai,Option.isSome_some,Nat.zero_add,g1.i 6 (by omega),g1.c6,AJ,reduceIte,Nat.reduceEqDiff];refine Nl Al.pm fQ.pm Lv (fun q2 c2 H2 h2=> ?_);simp only[AJ,reduceIte,Nat.reduceEqDiff]
   have ZB:(s.f.pm.on b).length≤1000000:=by
    unfold Pm.on;split
    ·simp
    ·have:=List.length_filterMap_le (fun p=>if s.f.pm.by b p>0 then some (s.f.pm.by b p-1) else none) ((List.range 32).drop 0);simp only[List.length_drop,List.length_range] at this;unfold Lr;exact Nat.le_trans this (by omega)
   have:=Q3 (s:=s.bw b 1) (m:=m) (Kr:=fun _=>False) (YM:=m.g.us.length) (YN:=uc) (YL:=uq) (t54:=(m.g.us.length:Int)) (t55:=(i:Int)) (Lw:=Lw) (spq:=spq) (spn:=spn) (spc:=spc) (aK:=aK) (fid:=fid) (mid:=mid) (pid:=pid) (pg:=pg) (pc:=pc) (pz:=pz) (q90:=q2) (c90:=c2) (L:=IR uq uc (cR m.g.us)::L) (B:=B) (H:=H2) (b:=b) Ak (s.f.pm.on b) (fun a ha=>(ub hok.pm ha).1) ZB
    (h2.ord [2,1,1,1,0,1]) (Ke:= ?_) (s.f.pm.on b).length 0 o (by omega) ?_
   ·exact this
   ·unfold ud Q2;have hkk:aI mP (cJ (some (mid,0)) (some pg) (Lw:Int) spq spn spc)=true:=rfl;have hgg:aI wz (cV m.g.aB m.g.ay m.g.aF m.q m.g.bB.length m.c)=true:=rfl;simp only[AJ,reduceIte,Nat.reduceEqDiff,a3,hkk,hgg];exact ih _ _ _ (by omega) fQ (h2.drop.ord [1]) k1 k2
theorem qv (g:bW):g.us.Pairwise (· < ·):=by
 unfold bW.us;exact(List.pairwise_lt_range.sublist (List.drop_sublist 2 _)).sublist List.filter_sublist
theorem Nu {g:bW} (hg:g.In):∀b∈g.us,b<64:=fun b hb=>by
 have:=ng hb;have:=hg.b;omega
theorem Da {M:Nat}:∀(l:List Fd) (m:Nat),m≤M→(∀f∈l,f.s.seq≤M)→m7 m l≤M
 |[],m,hm,h=>hm
 |f::l,m,hm,h=>Da l _ (Nat.max_le.2 ⟨hm,h f List.mem_cons_self⟩) (fun x hx=>h x (List.mem_cons_of_mem _ hx))
theorem Bl {i:Nat} {cap:Int} {f:Fd}:∀{l:List (List UInt8)} {p:Nat},f∈hZ i cap l p→∃d∈l,eU d=some f.s
 |d::l,p,h=>by
  rw[hZ] at h
  have ih:f∈hZ i cap l (p+1)→∃d'∈d::l,eU d'=some f.s:=fun h=>by
   obtain⟨d',hd,e⟩:=Bl h;exact⟨d',List.mem_cons_of_mem _ hd,e⟩
  split at h
  ·exact ih h
  ·split at h
   ·rename_i s hs hc;rcases List.mem_cons.1 h with rfl|h
    ·exact⟨d,List.mem_cons_self,hs⟩
    ·exact ih h
   ·exact ih h
theorem TA {a:Ar} {g:bW} {i:Nat} {f:Fd} (hf:f∈a.fd g i):f.s.seq<281474976710656:=by
 unfold Ar.fd Bk.eu at hf;split at hf
 ·cases hf
 ·obtain⟨d,_,e⟩:=Bl hf;exact(r7 e).1.seq
theorem yM {x:Nat} {f:Fd}:∀{l:List Fd},jq x l=some f→f∈l∧f.s.an=x
 |y::l,h=>by
  rw[jq] at h;split at h
  ·rename_i e;cases h;exact⟨List.mem_cons_self,e⟩
  ·exact⟨List.mem_cons_of_mem _ (yM h).1,(yM h).2⟩
theorem Kn {g:bW} (hg:g.In) (hc:0≤g.cap∧g.cap<65000) {pg:List Fd} (h:∀x f,jq x pg=some f→Kg g f):(pQ g pg).ok:=by
 refine⟨fun b p hm=> ?_,by simp [pQ];omega,by show g.aB.toNat≤64;have:=hg.b;omega⟩;obtain⟨x,_,he⟩:=List.mem_map.1 hm
 cases hgf:jq x pg with
 |none=>rw[hgf] at he;cases he
 |some f=>
  rw[hgf] at he;cases he;have:=h x f hgf;exact⟨by show f.b<g.aB.toNat;omega,this.2.2⟩
theorem I3 (l:List Nat):(l.map fun b=>(b,0)).map Prod.fst=l:=by
 rw[List.map_map];exact List.map_id _
theorem Nv {g:bW} (hg:g.In) (hc:0≤g.cap∧g.cap<65000) {a:Ar} (hr:a.rd g) (Gg:∀x f,jq x (a.z8 g)=some f→Kg g f) {ep:Nat} (he:ep<281474976710656):aW g (FS.wW g a ep) where
 n:=hr.n
 p:=hr.p
 len:=fun b hb=>by rw[←hr.p];exact hr.len b hb
 d:=hr.d
 pm:=Kn hg hc Gg
 nb:=by show ((g.aB.toNat:Nat):Int)=_;have:=hg.b;omega
 na:=by show (((pQ g (a.z8 g)).ct.length:Nat):Int)=_;simp [pQ];omega
 po:={
  lt:=by show ((g.us.map fun b=>(b,0)).map Prod.fst).Pairwise _;rw[I3];exact qv g
  b:=fun x hx=>by
   obtain⟨b,hb,rfl⟩:=List.mem_map.1 hx;exact Nu hg b hb
  h:=fun x hx=>by
   obtain⟨b,hb,rfl⟩:=List.mem_map.1 hx
   exact Nat.zero_le _}
 us:=I3 _
 seq:=by
  have:m7 0 (g.us.flatMap (a.fd g))≤281474976710656:=Da _ _ (Nat.zero_le _) (fun f hf=>by
   obtain⟨i,_,hf⟩:=List.mem_flatMap.1 hf
   exact Nat.le_of_lt (TA hf))
  show m7 0 (g.us.flatMap (a.fd g))<_
  omega
 ep:=by show ep<_;omega
theorem yN {g:bW} (hg:g.In) {sq:Int→Nat}:∀(l:List Nat) (s:FS) (o:Nat×Int),(∀b∈l,b∈g.us)→aW g s→(o.2<0∨o.2.toNat∈g.us)→aW g (fM g sq l s o).1∧((fM g sq l s o).2.2.2<0∨(fM g sq l s o).2.2.2.toNat∈g.us)
 |[],s,o,hl,hok,ho=>⟨hok,ho⟩
 |b::l,s,o,hl,hok,ho=>by
  have hb:=hl b List.mem_cons_self;have Ge:∀b∈l,b∈g.us:=fun b hb=>hl b (List.mem_cons_of_mem _ hb)
  have h1:∀(l:List Int) (o:Nat×Int),(o.2<0∨o.2.toNat∈g.us)→((Km g sq b (s.next b) l o).2<0∨(Km g sq b (s.next b) l o).2.toNat∈g.us):=fun l=>by
   induction l with
   |nil=>exact fun o h=>h
   |cons a l ih=>
    intro o h;rw[Km];split
    ·exact ih _ (.inr (by simpa using hb))
    ·exact ih _ h
  rw[fM];split
  ·exact yN hg l _ o Ge (hok.bw hg hb (by omega)) ho
  split
  ·exact yN hg l _ o Ge hok ho
  have fQ:=hok.bw hg hb (h:=1) (by omega);split
  ·split
   ·exact yN hg l _ o Ge (fQ.bC hg hb) ho
   ·exact⟨fQ.bC hg hb,ho⟩
  ·exact yN hg l _ _ Ge fQ (h1 _ _ ho)
theorem Ko {g:bW} (hg:g.In) {sq:Int→Nat} {a:Ar} {ep:Nat} (h:aW g (FS.wW g a ep)):aW g (cu g sq a ep).1:=by
 have:=yN hg (sq:=sq) g.us _ (0, -1) (fun b hb=>hb) h (.inl (by decide));unfold cu;simp only;split
 ·split
  ·rename_i h0;exact this.1.bw hg (this.2.resolve_left (by omega)) (by omega)
  ·exact this.1
 ·exact this.1
theorem Kq {a:Ar} (h:az B H (cO aK a::L)) (hm:cY B L m) (hf:m.g.cN=true) (hg:m.g.In) (hr:a.rd m.g) (hc:0≤m.g.cap∧m.g.cap<65000) {ep:Nat} (RI:1≤ep∧ep<281474976710656) (k1:∀pz fid mid pid H',wU pz=a.z8 m.g→Ab m.g pz→(cu m.g (dX pz) a ep).2=0→aW m.g (cu m.g (dX pz) a ep).1→fH B H' aK fid mid pid m (cu m.g (dX pz) a ep).1 L→K (.tuple [.ak (some (fid,0)),.int .i64 0]) H') (k2:∀pz H',wU pz=a.z8 m.g→Ab m.g pz→(cu m.g (dX pz) a ep).2≠0→aW m.g (cu m.g (dX pz) a ep).1→az B H' (cO aK (cu m.g (dX pz) a ep).1.a::L)→K (.tuple [.ak none,.int .i64 (cu m.g (dX pz) a ep).2]) H'):cl 37 [.ak (some (aK,0)),m.v,.int .u64 (ep:Int)] H K:=by
 have hv:m.v=.agg (cV m.g.aB m.g.ay m.g.aF m.q m.g.bB.length m.c):=rfl;have qG:∀i∈m.g.us,i<a.bs.length:=fun i hi=>by have:=ng hi;have:=hr.n;omega
 have uC:m.g.us.Nodup:=(qv m.g).imp (fun h=>Nat.ne_of_lt h);have Jx:=bW.jX m.g hg.b.2;rw[hv,aag, ←hv];have e1:¬(ep:Int)<1:=by omega
 have e2:¬(ep:Int)≥281474976710656:=by omega
 simp only[e1,e2,decide_false,Bool.not_false,cond_true,ai];refine No h hm hf hg hr qG uC hc (fun mid pg zs pz pc q sc H1 Gg abV DI h1=> ?_);have hfit:aI mP (cJ (some (mid,0)) (some pg) (a.Kh m.g:Int) q (zH m.g.us (a.PD m.g)).2.length sc)=true:=rfl;simp only[hfit,AJ,reduceIte,Nat.reduceEqDiff];have Zy:∀A1 A2 A3 A4 A5:bV,cY B (A1::A2::A3::A4::A5::L) m:=fun A1 A2 A3 A4 A5=>((((hm.bg _).bg _).bg _).bg _).bg _
 refine jo h1 (Zy _ _ _ _ _) hg (fun uq uc H2 h2=> ?_);simp only[AJ,reduceIte,Nat.reduceEqDiff];have hPN:=PJ (K:= ?_) (c:=uc) h2 (l:=m.g.us) (q:=uq) (fun H h=>az.tG h) (qv m.g) (Nu hg) (by omega) ?_
 ·exact hPN
 intro pid H3 h3;simp only[AJ,reduceIte,Nat.reduceEqDiff]
 have hok:=Nv hg hc hr (fun y f hf=>by
  have hf:=(yM hf).1;rw[←Gg] at hf;obtain⟨z,hz,rfl⟩:=List.mem_map.1 hf
  exact DI.b z hz) (ep:=ep) (by omega)
 have h4:=h3.alloc 120 (RX (some (aK,0)) m.g.aB m.g.ay m.g.aF m.q m.g.bB.length m.c (ep:Int) (some (mid,0)) (some (pid,0)) (a.Kh m.g:Int));obtain⟨fid,Lk⟩:∃p,p=H3.next:=⟨_,rfl⟩;have YO:H3.2=fid:=Lk.symm;rw[←Lk] at h4;rw[YO];simp only[f112,vX,pA,pB,pC,pD,AJ,reduceIte,Nat.reduceEqDiff];generalize (ag.alloc H3 _)=H4 at h4⊢;have hS:fH B H4 aK fid mid pid m (FS.wW m.g a ep) (ir pg (k8 pz) pc::L):=(h4.ord [2,4,4,0,1,0,1]).drop.drop.drop;refine jo hS (Zy _ _ _ _ _) hg (fun uq2 uc2 H5 h5=> ?_);simp only[AJ,reduceIte,Nat.reduceEqDiff];have hM:=Ko hg (sq:=dX pz) hok;have wM:cu m.g (dX pz) a ep=(let r:=fM m.g (dX pz) m.g.us (FS.wW m.g a ep) (0, -1);if r.2.1=0 then (if 0≤r.2.2.2 then (r.1.bw r.2.2.2.toNat 2,0) else (r.1,0)) else (r.1,r.2.1)):=rfl;simp only at wM;have abA:=yN hg (sq:=dX pz) m.g.us _ (0, -1) (fun b hb=>hb) hok (.inl (by decide));have hL:=XN (m:=m) (aK:=aK) (fid:=fid) (mid:=mid) (pid:=pid) (L:=L) (B:=B) hm hg (pg:=pg) (pc:=pc) (Lw:=a.Kh m.g) (pz:=pz) (uq:=uq2) (spq:=q) (uc:=uc2) (spn:=(zH m.g.us (a.PD m.g)).2.length) (spc:=sc) (Kr:= ?_) (Ke:= ?_) m.g.us.length 0 (FS.wW m.g a ep) (0, -1) (H:=H5) (by omega) hok (h5.ord [1,1,1,1]) ?_ ?_
 ·exact hL
 ·rw[List.drop_zero];intro h0 fg H6 h6;simp only[AJ,reduceIte,Nat.reduceEqDiff];rw[if_pos h0] at wM;by_cases hop:0≤(fM m.g (dX pz) m.g.us (FS.wW m.g a ep) (0, -1)).2.2.2
  ·rw[if_pos hop] at wM;have Uz:(fM m.g (dX pz) m.g.us (FS.wW m.g a ep) (0, -1)).2.2.2≥0:=hop;simp only[Uz,decide_true,aq];have hbu:=abA.2.resolve_left (by omega);have ebb:(fM m.g (dX pz) m.g.us (FS.wW m.g a ep) (0, -1)).2.2.2=(((fM m.g (dX pz) m.g.us (FS.wW m.g a ep) (0, -1)).2.2.2.toNat:Nat):Int):=by omega
   rw[ebb];refine kg (hw:=2) (fH.po h6) fg.po (fg.how hbu) (by omega) (fun e H7 h7=> ?_);simp only[AJ,reduceIte,Nat.reduceEqDiff];refine k1 pz fid mid pid H7 Gg DI (by rw[wM]) hM ?_;rw[wM];exact(h7.ord [4,4]).drop.drop.ord [1,1]
  ·rw[if_neg hop] at wM;have Uz:¬(fM m.g (dX pz) m.g.us (FS.wW m.g a ep) (0, -1)).2.2.2≥0:=hop;simp only[Uz,decide_false,ai];refine k1 pz fid mid pid H6 Gg DI (by rw[wM]) hM ?_;rw[wM];exact(h6.ord [4,4]).drop.drop
 ·rw[List.drop_zero];intro h0 fg H6 h6;simp only[AJ,reduceIte,Nat.reduceEqDiff];rw[if_neg h0] at wM;refine(congrArg (fun e=>K (V.tuple [V.ak none,V.int .i64 e]) H6) (congrArg Prod.snd wM)).mp ?_;refine k2 pz H6 Gg DI (by rw[wM];exact h0) hM ?_;rw[wM];exact(h6.drop.drop.drop.ord [1,1]).drop.drop
end
def Ar.bk (a:Ar) (b:Nat):Bk:=a.bs.getD b fj
def vw (g:bW) (a:Ar):Vw:=fun b=>if b∈g.us then a.fd g b else []
theorem Db {g:bW} {a:Ar} (i:Nat) (h:i∉g.us):vw g a i=[]:=if_neg h
theorem I4 {g:bW} {a:Ar} {i:Nat} (h:i∈g.us):vw g a i=(a.bk i).eu i g.cap:=if_pos h
theorem nh (g:bW):g.us.Nodup:=(qv g).imp (fun h=>Nat.ne_of_lt h)
theorem TB (g:bW) (a:Ar):a.z8 g=dM (zH g.us (g.us.map fun i=>(i,vw g a i))).1 [] g.us:=by
 have:(g.us.map fun i=>(i,vw g a i))=a.PD g:=List.map_congr_left fun i hi=>by
  show (i,vw g a i)=(i,a.fd g i)
  rw[show vw g a i=a.fd g i from if_pos hi]
 unfold Ar.z8;rw[this]
theorem yO (i:Nat) (cap:Int) (d:List UInt8):∀(l:List (List UInt8)) (p:Nat),hZ i cap (l++[d]) p=hZ i cap l p++hZ i cap [d] (p+l.length)
 |[],p=>by simp [hZ]
 |e::l,p=>by
  rw[List.cons_append,hZ,hZ,yO i cap d l (p+1),List.length_cons,show p+1+l.length=p+(l.length+1) from by omega];split
  ·rfl
  ·split
   ·rfl
   ·rfl
theorem Nx {i:Nat} {cap:Int} {f:Fd} {l:List (List UInt8)} {p:Nat} (h:f∈hZ i cap l p):f.s.cN∧f.s.cK≠3∧∃k,k<l.length∧f.p=p+k∧(l[k]?).map eU=some (some f.s):=by
 induction l generalizing p with
 |nil=>cases h
 |cons d l ih=>
  rw[hZ] at h
  have step:f∈hZ i cap l (p+1)→f.s.cN∧f.s.cK≠3∧∃k,k<(d::l).length∧f.p=p+k∧((d::l)[k]?).map eU=some (some f.s):=fun h=>by
   obtain⟨h1,h0,k,h2,h3,h4⟩:=ih h;exact⟨h1,h0,k+1,by rw[List.length_cons];omega,by omega,by simpa using h4⟩
  split at h
  ·exact step h
  ·rename_i s hs;split at h
   ·rename_i hc;rcases List.mem_cons.1 h with rfl|h
    ·exact⟨(r7 hs).1,hc.1,0,by simp,rfl,by simp [hs]⟩
    ·exact step h
   ·exact step h
theorem n9 {g:bW} {a:Ar} {b:Nat} {f:Fd} (h:f∈vw g a b):b∈g.us∧f.b=b∧(a.bk b).bY=false∧f.p<(a.bk b).pg.length∧((a.bk b).pg[f.p]?).map eU=some (some f.s)∧f.s.cN∧f.s.cK≠3∧(f.s.an:Int)≤g.cap:=by
 unfold vw at h;split at h
 ·rename_i hb;unfold Ar.fd Bk.eu at h;split at h
  ·cases h
  ·rename_i hh;obtain⟨h1,h0,k,h2,h3,h4⟩:=Nx h;obtain⟨i1,i2,i3,i4⟩:=C3 h;rw[Nat.zero_add] at h3;exact⟨hb,i1,by simpa [Ar.bk] using hh,by rw[h3];exact h2,by rw[h3];exact h4,h1,h0,i4⟩
 ·cases h
structure uG (a a':Ar) (b:Nat) (k:Bk):Prop where
 bs:a'.bs=a.bs.set b k
 ay:a'.ay=a.ay
structure F8 (a a':Ar) (b:Nat) (k:Bk):Prop extends uG a a' b k where
 aN:a'.aN=a.aN
 boots:a'.boots=a.boots
 zI:a.bI≤0→a'.bI≤0∧a'.off=a.off
theorem uG.bk {a a':Ar} {b:Nat} {k:Bk} (h:uG a a' b k) (hb:b<a.bs.length) (i:Nat):a'.bk i=if i=b then k else a.bk i:=by
 unfold Ar.bk;rw[h.bs,List.getD_eq_getElem?_getD,List.getElem?_set];by_cases hi:b=i
 ·subst hi;simp [hb]
 ·have:¬i=b:=fun e=>hi e.symm
  rw[if_neg hi,if_neg this,List.getD_eq_getElem?_getD]
theorem uG.vw {g:bW} {a a':Ar} {b:Nat} {k:Bk} (h:uG a a' b k) (hb:b<a.bs.length) (hu:b∈g.us):vw g a'=fun i=>if i=b then k.eu b g.cap else vw g a i:=by
 funext i;by_cases hi:i∈g.us
 ·rw[I4 hi,h.bk hb];by_cases bh:i=b
  ·subst bh;simp
  ·rw[if_neg bh,if_neg bh,I4 hi]
 ·rw[Db i hi,Db i hi,if_neg (fun e=>hi (by rw[e];exact hu))]
theorem uG.wA {g:bW} {a a':Ar} {b:Nat} {k:Bk} (h:uG a a' b k) (hb:b<a.bs.length) (hu:b∈g.us) (hk:k.eu b g.cap=(a.bk b).eu b g.cap):Go.Proofs.YtlgdkndamddpkaaGreat.vw g a'=Go.Proofs.YtlgdkndamddpkaaGreat.vw g a:=by
 rw[h.vw hb hu,hk];funext i;split
 ·rename_i e;subst e;exact(I4 hu).symm
 ·rfl
theorem yP {a:Ar} {b:Nat} (hb:b<a.bs.length):a.bs[b]? =some (a.bk b):=by
 unfold Ar.bk;rw[List.getD_eq_getElem?_getD,List.getElem?_eq_getElem hb];rfl
theorem bD (k:Bk):(aD k).bY=k.bY:=by unfold aD;split<;>rfl
theorem dB (k:Bk):(aD k).aM=k.aM:=by unfold aD;split<;>rfl
theorem ue (k:Bk) (i:Nat) (cap:Int):(aD k).eu i cap=k.eu i cap:=by
 unfold Bk.eu;rw[bD,bu]
theorem Fg {k:Bk} (h1:k.doom≤0) (h2:k.bd=false):aD k=k:=by
 unfold aD;rw[if_neg (by omega)]
theorem kr {a:Ar} {b:Nat} (k:Bk) {k':Bk} {a':Ar} (Uj:a'.bs=(bq a b k).bs.set b k') (hp:a'.ay=a.ay) (hf:a'.aN=a.aN) (hb:a'.boots=a.boots) (ha:a'.bI=(bq a b k).bI) (ho:a'.off=(bq a b k).off):F8 a a' b k' where
 bs:=by rw[Uj];show (a.bs.set b (aD k)).set b k'=_;rw[List.set_set]
 ay:=hp
 aN:=hf
 boots:=hb
 zI:=fun h=>by
  rw[ha,ho];have:¬a.bI>0:=by omega
  exact⟨by show (if a.bI>0 then _ else _)≤0;rw[if_neg this];exact h,by show (if a.bI>0 then _ else _)=_;rw[if_neg this]⟩
theorem Ny {a:Ar} {b:Nat} {d:List UInt8} {e:Int} (hb:b<a.bs.length) (ho:a.off=false) (hp:((a.bk b).pg.length:Int)<a.ay) (hd:d.length=96) (hh:(a.bk b).bY=false) (hf:a.aN≤e):∃a' r,fq a b (a.bk b).pg.length d e=(a',r)∧((r=0∧a'.off=false∧(aD (a.bk b)).bd=false∧a'.ee=a.ee∧F8 a a' b {aD (a.bk b) with pg:=(a.bk b).pg++[d]})∨(r=8∧a'.off=false∧(aD (a.bk b)).bd=true∧a'.ee=a.ee∧F8 a a' b {aD (a.bk b) with pg:=(a.bk b).pg++[gG d 0],aM:=true})∨(r=9∧a'.off=true∧a.bI>0∧a'.ee=.prog b d∧F8 a a' b (aD (a.bk b)))):=by
 have hnp:¬a.ay≤(((a.bk b).pg.length:Nat):Int):=by omega
 have uC:¬d.length≠96:=by omega
 have hnf:¬e<a.aN:=by omega
 have h6:¬((a.bk b).pg.length≠(a.bk b).pg.length∨(a.bk b).bY=true):=by simp [hh]
 unfold fq;rw[if_neg (by simp [ho]),if_neg hnp,if_neg uC,yP hb];simp only;rw[if_neg h6,if_neg hnf];by_cases h1:(bq a b (a.bk b)).off=true
 ·rw[if_pos h1]
  have DJ:a.bI>0:=by
   by_cases DJ:a.bI>0
   ·exact DJ
   ·have:(bq a b (a.bk b)).off=a.off:=by show (if a.bI>0 then _ else _)=_;rw[if_neg DJ]
    rw[this,ho] at h1;cases h1
  refine⟨_,_,rfl,.inr (.inr ⟨rfl,h1,DJ,rfl,kr (a.bk b) ?_ rfl rfl rfl rfl rfl⟩)⟩;show a.bs.set b _=(a.bs.set b _).set b _
  rw[List.set_set]
 ·rw[if_neg h1];have wi:(bq a b (a.bk b)).off=false:=by simpa using h1
  by_cases h2:(aD (a.bk b)).bd=true
  ·rw[if_pos h2];exact⟨_,_,rfl,.inr (.inl ⟨rfl,wi,h2,rfl,kr (a.bk b) rfl rfl rfl rfl rfl rfl⟩)⟩
  ·rw[if_neg h2];exact⟨_,_,rfl,.inl ⟨rfl,wi,by simpa using h2,rfl,kr (a.bk b) rfl rfl rfl rfl rfl rfl⟩⟩
theorem Ks {a:Ar} {b:Nat} {e:Int} (hb:b<a.bs.length) (ho:a.off=false) (hf:a.aN≤e):∃a' r,dF a b e=(a',r)∧((r=0∧a'.off=false∧(aD (a.bk b)).bd=false∧a'.ee=a.ee∧F8 a a' b (wC (aD (a.bk b))))∨(r=8∧a'.off=false∧(aD (a.bk b)).bd=true∧a'.ee=a.ee∧F8 a a' b {aD (a.bk b) with aM:=true})∨(r=9∧a'.off=true∧a.bI>0∧a'.ee=.er b (aD (a.bk b)).bd∧F8 a a' b (aD (a.bk b)))):=by
 have hnf:¬e<a.aN:=by omega
 unfold dF;rw[if_neg (by simp [ho]),if_neg hnf,yP hb];simp only;by_cases h1:(bq a b (a.bk b)).off=true
 ·rw[if_pos h1]
  have DJ:a.bI>0:=by
   by_cases DJ:a.bI>0
   ·exact DJ
   ·have:(bq a b (a.bk b)).off=a.off:=by show (if a.bI>0 then _ else _)=_;rw[if_neg DJ]
    rw[this,ho] at h1;cases h1
  refine⟨_,_,rfl,.inr (.inr ⟨rfl,h1,DJ,rfl,kr (a.bk b) ?_ rfl rfl rfl rfl rfl⟩)⟩;show a.bs.set b _=(a.bs.set b _).set b _
  rw[List.set_set]
 ·rw[if_neg h1];have wi:(bq a b (a.bk b)).off=false:=by simpa using h1
  by_cases h2:(aD (a.bk b)).bd=true
  ·rw[if_pos h2];exact⟨_,_,rfl,.inr (.inl ⟨rfl,wi,h2,rfl,kr (a.bk b) rfl rfl rfl rfl rfl rfl⟩)⟩
  ·rw[if_neg h2];exact⟨_,_,rfl,.inl ⟨rfl,wi,by simpa using h2,rfl,kr (a.bk b) rfl rfl rfl rfl rfl rfl⟩⟩
theorem Kt {k:Bk} {b:Nat} {cap:Int} {s:Sh} (hk:k.bY=false) (hs:s.cN) (h3:s.cK≠3) (hc:(s.an:Int)≤cap) {k':Bk} (hh:k'.bY=false) (hp:k'.pg=k.pg++[dK s]):k'.eu b cap=k.eu b cap++[⟨b,k.pg.length,s⟩]:=by
 unfold Bk.eu;rw[hh,hk,hp];simp only[Bool.false_eq_true,if_false];rw[yO];simp [hZ,G2 hs,h3,hc]
theorem sf {k:Bk} {b:Nat} {cap:Int} {d:List UInt8} (hn:eU d=none) {k':Bk} (hh:k'.bY=k.bY) (hp:k'.pg=k.pg++[d]):k'.eu b cap=k.eu b cap:=by
 unfold Bk.eu;rw[hh,hp];split
 ·rfl
 ·rw[yO];simp [hZ,hn]
theorem Bm {k:Bk} {b:Nat} {cap:Int} (h:k.pg=[]∨k.bY=true):k.eu b cap=[]:=by
 unfold Bk.eu;rcases h with h|h
 ·rw[h];simp [hZ]
 ·rw[if_pos h]
theorem Bn {b h:Nat} (b':Nat):∀{l:List (Nat×Nat)},(fk b l).isSome=true→fk b' (pR b h l)=if b'=b then some h else fk b' l
 |[],hs=>by cases hs
 |x::l,hs=>by
  rw[pR];by_cases hx:x.1=b
  ·rw[if_pos hx,fk];by_cases hb:b'=b
   ·subst hb;simp [hx]
   ·rw[if_neg hb,if_neg (by show¬x.1=b';omega),fk,if_neg (by omega)]
  ·rw[fk,if_neg hx] at hs;rw[if_neg hx,fk];by_cases Vb:x.1=b'
   ·rw[if_pos Vb,if_neg (by omega),fk,if_pos Vb]
   ·rw[if_neg Vb,Bn b' hs,fk,if_neg Vb]
theorem fh {p:Po} {b h:Nat} (b':Nat) (hs:(p.how b).isSome=true):(p.cd b h).how b'=if b'=b then some h else p.how b':=Bn b' hs
theorem sg {b h w k:Nat}:∀{l:List (Nat×Nat)},fk b l=some w→(pR b h l).countP (fun x=>decide (x.2=k))+(if w=k then 1 else 0)=l.countP (fun x=>decide (x.2=k))+(if h=k then 1 else 0)
 |[],hs=>by cases hs
 |x::l,hs=>by
  rw[fk] at hs;rw[pR];by_cases hx:x.1=b
  ·rw[if_pos hx] at hs⊢;cases hs;rw[List.countP_cons,List.countP_cons];simp only[decide_eq_true_eq];omega
  ·rw[if_neg hx] at hs⊢;have:=sg (h:=h) (k:=k) hs;rw[List.countP_cons,List.countP_cons];omega
theorem eD {p:Po} {b h w:Nat} (k:Nat) (hs:p.how b=some w):(p.cd b h).count k+(if w=k then 1 else 0)=p.count k+(if h=k then 1 else 0):=sg hs
theorem uf {b h:Nat}:∀{l:List (Nat×Nat)},fk b l=some h→(b,h)∈l
 |x::l,hs=>by
  rw[fk] at hs;split at hs
  ·rename_i e;cases hs;rw[←e];exact List.mem_cons_self
  ·exact List.mem_cons_of_mem _ (uf hs)
theorem ug {b h:Nat}:∀{l:List (Nat×Nat)},(l.map Prod.fst).Nodup→(b,h)∈l→fk b l=some h
 |x::l,hn,hm=>by
  rw[List.map_cons,List.nodup_cons] at hn;rw[fk];rcases List.mem_cons.1 hm with rfl|hm
  ·rw[if_pos rfl]
  ·rw[if_neg (fun e=>hn.1 (by rw[e];exact List.mem_map.2 ⟨_,hm,rfl⟩))];exact ug hn.2 hm
theorem yQ:∀{l:List (Nat×Nat)} (k:Nat),(l.map Prod.fst).Nodup→l.countP (fun x=>decide (x.2=k))=(l.map Prod.fst).countP (fun b=>decide (fk b l=some k))
 |[],k,_=>rfl
 |x::l,k,hn=>by
  rw[List.map_cons,List.nodup_cons] at hn;rw[List.countP_cons,List.map_cons,List.countP_cons,yQ k hn.2];have e1:fk x.1 (x::l)=some x.2:=by rw[fk,if_pos rfl]
  have e2:(l.map Prod.fst).countP (fun b=>decide (fk b l=some k))=(l.map Prod.fst).countP (fun b=>decide (fk b (x::l)=some k)):=List.countP_congr (fun b hb=>by
   rw[fk,if_neg (fun e=>hn.1 (by rw[e];exact hb))])
  rw[e1, ←e2];simp
theorem vr {p:Po} (hp:p.ok) {us:List Nat} (hu:p.bl.map Prod.fst=us) (k:Nat):p.count k=us.countP (fun b=>decide (p.how b=some k)):=by
 have:=yQ k hp.E9;rw[hu] at this;exact this
theorem wX {p:Po} (hp:p.ok) {b:Nat} (h:p.j3=some b):p.how b=some 2:=ug hp.E9 (pS h)
theorem pV {p:Po}:p.j3=none↔p.count 2=0:=by
 unfold Po.j3 Po.count
 induction p.bl with
 |nil=>simp [C4]
 |cons x l ih=>
  rw[C4,List.countP_cons];by_cases h:x.2=2
  ·simp [h]
  ·simp [h,ih]
theorem fG {p:Po} {b h:Nat} (hs:p.how b≠some 3) (ho:h≠2∨p.count 2=0):p.set b h=p.cd b h:=by
 unfold Po.set;rw[if_neg (fun e=>hs e.1)];split
 ·rename_i e;rw[Po.jr,pV.2 (ho.resolve_left (fun h=>h e))]
 ·rfl
theorem TC {p:Po} (hp:p.ok) {b h:Nat} (hs:p.how b=some h):h≤3:=hp.h _ (uf hs)
theorem pW {h:Nat} {w:List Int}:∀{l:List (Nat×Nat)} {o:Option Nat},fZ h w l o=none→o=none∧∀x∈l,x.2=h→w.length≤x.1
 |[],o,hn=>⟨hn,fun x hx=>by cases hx⟩
 |x::l,o,hn=>by
  rw[lX] at hn;split at hn
  ·rename_i hx;obtain⟨h1,h2⟩:=pW hn;refine⟨h1,fun y hy e=> ?_⟩;rcases List.mem_cons.1 hy with rfl|hy
   ·exact hx.resolve_left (fun h=>h e)
   ·exact h2 y hy e
  ·have:∀b,fZ h w l (some b)≠none:=fun b hb=>by cases (pW hb).1
   cases o with
   |none=>exact absurd hn (this _)
   |some b=>
    simp only at hn;split at hn
    ·exact absurd hn (this _)
    ·exact absurd hn (this _)
theorem lg {h:Nat} {w:List Int} {b:Nat}:∀{l:List (Nat×Nat)} {o:Option Nat},fZ h w l o=some b→(∀c,o=some c→w.getD b 0≤w.getD c 0)∧∀x∈l,x.2=h→x.1<w.length→w.getD b 0≤w.getD x.1 0
 |[],o,hn=>⟨fun c hc=>by rw[fZ] at hn;rw[hn] at hc;cases hc;exact Int.le_refl _,fun x hx=>by cases hx⟩
 |x::l,o,hn=>by
  rw[lX] at hn;split at hn
  ·rename_i hx;obtain⟨h1,h2⟩:=lg hn;refine⟨h1,fun y hy e hl=> ?_⟩;rcases List.mem_cons.1 hy with rfl|hy
   ·rcases hx with hx|hx
    ·exact absurd e hx
    ·omega
   ·exact h2 y hy e hl
  ·cases o with
   |none=>
    obtain⟨h1,h2⟩:=lg hn;refine⟨fun c hc=>(by cases hc),fun y hy e hl=> ?_⟩;rcases List.mem_cons.1 hy with rfl|hy
    ·exact h1 _ rfl
    ·exact h2 y hy e hl
   |some b0=>
    simp only at hn;split at hn
    ·rename_i hlt;obtain⟨h1,h2⟩:=lg hn;have:=h1 _ rfl;refine⟨fun c hc=>(by cases hc;omega),fun y hy e hl=> ?_⟩;rcases List.mem_cons.1 hy with rfl|hy
     ·exact this
     ·exact h2 y hy e hl
    ·rename_i hlt;obtain⟨h1,h2⟩:=lg hn;have:=h1 _ rfl;refine⟨fun c hc=>(by cases hc;exact this),fun y hy e hl=> ?_⟩;rcases List.mem_cons.1 hy with rfl|hy
     ·omega
     ·exact h2 y hy e hl
theorem yR {p:Po} {h:Nat} {w:List Int} {b:Nat} (hb:p.how b=some h) (hl:b<w.length):∃d,p.iK h w=some d:=by
 cases hn:p.iK h w with
 |some d=>exact⟨d,rfl⟩
 |none=>
  have:=(pW hn).2 _ (uf hb) rfl;simp only at this;omega
def Pm.at (m:Pm) (x:Nat):Pl:=m.ct.getD x none
theorem I5 {m:Pm} {x:Nat} {o:Nat×Nat} (h:m.at x=some o):x<m.ct.length:=by
 unfold Pm.at at h;rw[List.getD_eq_getElem?_getD] at h;by_cases hx:x<m.ct.length
 ·exact hx
 ·rw[List.getElem?_eq_none (by omega)] at h;cases h
theorem yS {m:Pm} {x:Nat} (h:x<m.ct.length):m.ct[x]=m.at x:=by
 unfold Pm.at;rw[List.getD_eq_getElem?_getD,List.getElem?_eq_getElem h];rfl
theorem Nz {m:Pm} {x:Nat} {o:Pl} (hx:x<m.ct.length) (y:Nat):(m.put x o).at y=if y=x then o else m.at y:=by
 unfold Pm.at Pm.put;rw[List.getD_eq_getElem?_getD,List.getElem?_set];by_cases h:x=y
 ·subst h;simp [hx]
 ·rw[if_neg h,if_neg (fun e=>h e.symm),List.getD_eq_getElem?_getD]
theorem qw {b:Nat} {o:Pl}:uF b o=true↔∃p,o=some (b,p):=by
 cases o with
 |none=>simp [uF]
 |some x=>
  obtain⟨b',p⟩:=x;simp only[uF,beq_iff_eq,Option.some.injEq,Prod.mk.injEq,decide_eq_true_eq];exact⟨fun h=>⟨p,h,rfl⟩,fun⟨_,h,_⟩=>h⟩
theorem pX {m:Pm} {b:Nat} (h:m.dH b=0) (x p:Nat):m.at x≠some (b,p):=by
 intro e;have hx:=I5 e;have:=List.countP_eq_zero.1 h _ (List.getElem_mem hx);rw[yS hx] at this;exact this (qw.2 ⟨p,e⟩)
theorem wY {m:Pm} {b:Nat} (h:m.dH b≠0):∃x p,m.at x=some (b,p):=by
 have hp:0<m.dH b:=by omega
 obtain⟨o,ho,hb⟩:=List.countP_pos_iff.1 hp;obtain⟨x,hx,rfl⟩:=List.mem_iff_getElem.1 ho;obtain⟨p,hp⟩:=qw.1 hb;exact⟨x,p,by rw[←yS hx];exact hp⟩
theorem NA {m:Pm} {x v p d q:Nat} (hx:m.at x=some (v,p)) (hd:d≠v):(m.put x (some (d,q))).dH v+1=m.dH v:=by
 have hl:=I5 hx;have e1:uF v m.ct[x]=true:=by rw[yS hl];exact qw.2 ⟨p,hx⟩
 have e2:uF v (some (d,q))=false:=by
  rw[←Bool.not_eq_true];intro h;obtain⟨_,h⟩:=qw.1 h;cases h;exact hd rfl
 have hpos:0<m.dH v:=List.countP_pos_iff.2 ⟨_,List.getElem_mem hl,e1⟩;show ((m.ct.set x (some (d,q))).countP (uF v))+1=_
 rw[List.countP_set hl];simp only[e1,e2,if_true,Bool.false_eq_true,if_false];show m.dH v-1+0+1=m.dH v
 omega
theorem yT (b p:Nat):∀(l:List Pl) (i:Nat) (f:Nat→Int),DM b l i f p=f p∨∃(j:Nat) (hj:j<l.length),l[j]=some (b,p)∧DM b l i f p=((i+j+1:Nat):Int)
 |[],i,f=>.inl rfl
 |none::l,i,f=>by
  rw[DM];rcases yT b p l (i+1) f with h|⟨j,hj,h1,h2⟩
  ·exact .inl h
  ·exact .inr ⟨j+1,by rw[List.length_cons];omega,by simpa using h1,by rw[h2];congr 1;omega⟩
 |some x::l,i,f=>by
  rw[DM];rcases yT b p l (i+1) (if x.1=b then C0 f x.2 ((i+1:Nat):Int) else f) with h|⟨j,hj,h1,h2⟩
  ·rw[h];by_cases hx:x.1=b
   ·rw[if_pos hx];by_cases hp:p=x.2
    ·right;refine⟨0,by simp, ?_, ?_⟩
     ·simp only[List.getElem_cons_zero];rw[←hx,hp]
     ·unfold C0;simp [hp]
    ·left;unfold C0;simp [hp]
   ·rw[if_neg hx];exact .inl rfl
  ·exact .inr ⟨j+1,by rw[List.length_cons];omega,by simpa using h1,by rw[h2];congr 1;omega⟩
theorem Dc (b p:Nat):∀(l:List Pl) (i:Nat) (f:Nat→Int),(∀k,0≤f k)→(0<f p∨some (b,p)∈l)→0<DM b l i f p
 |[],i,f,hf,h=>by
  rcases h with h|h
  ·exact h
  ·cases h
 |none::l,i,f,hf,h=>by
  rw[DM];refine Dc b p l (i+1) f hf (h.imp id fun h=> ?_);rcases List.mem_cons.1 h with h|h
  ·cases h
  ·exact h
 |some x::l,i,f,hf,h=>by
  rw[DM];refine Dc b p l (i+1) _ (fun k=> ?_) ?_
  ·split
   ·unfold C0;cases Nat.beq k x.2
    ·exact hf k
    ·simp only[cond_true];omega
   ·exact hf k
  ·rcases h with h|h
   ·left;split
    ·unfold C0;cases Nat.beq p x.2
     ·exact h
     ·simp only[cond_true];omega
    ·exact h
   ·rcases List.mem_cons.1 h with h|h
    ·left;have:x=(b,p):=by cases h;rfl
     subst this;simp only[if_true];unfold C0;rw[Nat.beq_refl,cond_true];omega
    ·exact .inr h
theorem PM {m:Pm} {b:Nat} {a:Int} (h:a∈m.on b):∃x p,a=(x:Nat)∧m.at x=some (b,p):=by
 unfold Pm.on at h;split at h
 ·cases h
 ·unfold Lr at h;obtain⟨p,hp,he⟩:=List.mem_filterMap.1 h;split at he
  ·rename_i hpos;rcases yT b p m.ct 0 (fun _=>0) with h|⟨j,hj,h1,h2⟩
   ·have:m.by b p=0:=h
    omega
   ·have e:m.by b p=((0+j+1:Nat):Int):=h2
    cases he;exact⟨j,p,by omega,by rw[←yS hj];exact h1⟩
  ·cases he
theorem XO {m:Pm} (hm:m.ok) {b:Nat} (h:m.dH b≠0):m.on b≠[]:=by
 obtain⟨x,p,hx⟩:=wY h;have hl:=I5 hx;have hmem:some (b,p)∈m.ct:=by rw[←hx, ←yS hl];exact List.getElem_mem hl
 have hp:=(hm.pl b p hmem).2;have hpos:0<m.by b p:=Dc b p m.ct 0 (fun _=>0) (fun _=>Int.le_refl _) (.inr hmem)
 unfold Pm.on;rw[if_neg h];unfold Lr;intro hn
 have:m.by b p-1∈(List.range 32).filterMap fun p=>if m.by b p>0 then some (m.by b p-1) else none:=
  List.mem_filterMap.2 ⟨p,List.mem_range.2 hp,by rw[if_pos hpos]⟩
 rw[List.drop_zero] at hn;rw[hn] at this;cases this
theorem Dd {α:Type} (f h:α→Nat):∀l:List α,(∀x∈l,f x≤h x)→(l.map f).sum≤(l.map h).sum
 |[],_=>Nat.le_refl _
 |x::l,hl=>by
  rw[List.map_cons,List.map_cons,List.sum_cons,List.sum_cons];have:=hl x List.mem_cons_self;have:=Dd f h l (fun y hy=>hl y (List.mem_cons_of_mem _ hy));omega
theorem I6 {α:Type} (f h:α→Nat):∀l:List α,(l.map fun x=>f x+h x).sum=(l.map f).sum+(l.map h).sum
 |[]=>rfl
 |x::l=>by
  rw[List.map_cons,List.map_cons,List.map_cons,List.sum_cons,List.sum_cons,List.sum_cons,I6 f h l];omega
theorem yU {α:Type} (l:List α):(l.map fun _=>0).sum=0:=by
 induction l with
 |nil=>rfl
 |cons x l ih=>rw[List.map_cons,List.sum_cons,ih]
theorem I7 {us:List Nat} (hn:us.Nodup):∀l:List Pl,(us.map fun b=>l.countP (uF b)).sum≤l.length
 |[]=>by show (us.map fun _=>0).sum≤0;rw[yU];exact Nat.le_refl _
 |o::l=>by
  have ih:=I7 hn l;have e:(us.map fun b=>(o::l).countP (uF b))=us.map fun b=>l.countP (uF b)+(if uF b o=true then 1 else 0):=List.map_congr_left fun b _=>List.countP_cons
  rw[e,I6 (fun b=>l.countP (uF b))]
  have h1:(us.map fun b=>if uF b o=true then 1 else 0).sum≤1:=by
   cases o with
   |none=>
    have:(us.map fun b=>if uF b none=true then 1 else 0).sum≤(us.map fun _=>0).sum:=Dd _ _ _ (fun b _=>by rw[show uF b none=false from rfl];exact Nat.le_refl _);rw[yU] at this;omega
   |some x=>
    clear e ih
    induction us with
    |nil=>simp
    |cons b us ih=>
     rw[List.nodup_cons] at hn;rw[List.map_cons,List.sum_cons];by_cases hb:uF b (some x)=true
     ·rw[if_pos hb]
      have hz:(us.map fun b=>if uF b (some x)=true then 1 else 0).sum≤(us.map fun _=>0).sum:=Dd _ _ _ (fun b' hb'=>by
       have:¬uF b' (some x)=true:=fun h=>by
        obtain⟨p1,e1⟩:=qw.1 hb;obtain⟨p2,e2⟩:=qw.1 h;rw[e1] at e2;cases e2;exact hn.1 hb'
       rw[if_neg this];exact Nat.le_refl _)
      rw[yU] at hz;omega
     ·rw[if_neg hb];have:=ih hn.2;omega
  rw[List.length_cons];omega
end Go.Proofs.YtlgdkndamddpkaaGreat
end
