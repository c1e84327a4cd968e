/- Part 4 of the texts behind the law UnitPlays: what its row needs (an abstract machine, its equations, and what the program computes). -/
import Derived.Test.YtlgdkndamddpkaaGreatP3
set_option maxRecDepth 100000
set_option linter.unusedSimpArgs false
set_option linter.unusedVariables false
set_option linter.unusedSectionVars false
section
namespace Go.Proofs.YtlgdkndamddpkaaGreat
open Go.Am
structure Bk where
 pg:List (List UInt8)
 er:Int
 cw:Bool
 bn:Bool
 aT:Bool
 fD:Int
inductive Wy where
 |no
 |prog (i:Nat) (d:List UInt8)
 |er (i:Nat) (bn:Bool)
 |any
structure Ar where
 bs:List Bk
 aA:Int
 aM:Int
 boots:Int
 bN:Int
 off:Bool
 aG:Int
 eV:Wy
structure Rg where
 d:List UInt8
 q:Oq
 c:Nat
def Rg.cs (r:Rg):List V:=[.slice r.q r.d.length r.c]
def Rg.bX (r:Rg):cv:=BY r.q r.c r.d
def pn (q:Oq) (cap:Nat) (ds:List (List UInt8)):cv:=
 ES fun rs:List Rg=>kc (Hg (rs.map Rg.d=ds)) (bw [Rw 36 1 q cap (rs.map Rg.cs),bw (rs.map Rg.bX)])
structure Rb where
 b:Bk
 q:Oq
 c:Nat
def Rb.cs (r:Rb):List V:=S8 r.q r.b.pg.length r.c r.b.er r.b.cw r.b.bn r.b.aT r.b.fD
def Rb.bX (r:Rb):cv:=pn r.q r.c r.b.pg
def zt (qb:Oq) (w:V):Wy→cv
 | .no=>Hg (w=.nilFunc)
 | .any=>Hg True
 | .prog i d=>ES fun x:Nat×Nat=>ES fun y:Oq×Nat=>
  kc (Hg (w=.func 156 [.aj (some (x.1,0)),.aj (some (x.2,0))]))
   (bw [df x.1 104 [.aj (some (pb qb,po qb+i*6))],df x.2 36 [.slice y.1 d.length y.2],BY y.1 y.2 d])
 | .er i bn=>ES fun x:Nat×Nat×Nat=>
  kc (Hg (w=.func 128 [.aj (some (x.1,0)),.aj (some (x.2.1,0)),.aj (some (x.2.2,0))]))
   (bw [df x.1 4 [.bool bn],df x.2.1 1 [.func 127 [.aj (some (x.2.2,0))]],df x.2.2 104 [.aj (some (pb qb,po qb+i*6))]])
structure Ra where
 w:V
 q:Oq
 c:Nat
 rs:List Rb
def AE (a:Ar) (x:Ra):List V:=c80 x.q x.rs.length x.c a.aA a.aM a.boots a.bN a.off a.aG x.w
def dJ (aN:Nat) (a:Ar):cv:=ES fun x:Ra=>
 kc (Hg (x.rs.map Rb.b=a.bs)) (bw [df aN 81 (AE a x),Rw 84 6 x.q x.c (x.rs.map Rb.cs),bw (x.rs.map Rb.bX),zt x.q x.w a.eV])
section
variable {B:ag} {L:List cv} {H:ag} {K:V→ag→Prop} {aN:Nat} {a:Ar}
theorem az.arr (h:az B H (dJ aN a::L)):∃x:Ra,x.rs.map Rb.b=a.bs∧az B H (df aN 81 (AE a x)::Rw 84 6 x.q x.c (x.rs.map Rb.cs)::bw (x.rs.map Rb.bX)::zt x.q x.w a.eV::L):=by
 obtain⟨x,h⟩:=h.MX;obtain⟨h1,h⟩:=h.kc.Hg;exact⟨x,h1,h.Ly⟩
theorem az.Z1 (x:Ra) (hx:x.rs.map Rb.b=a.bs) (h:az B H (df aN 81 (AE a x)::Rw 84 6 x.q x.c (x.rs.map Rb.cs)::bw (x.rs.map Rb.bX)::zt x.q x.w a.eV::L)):az B H (dJ aN a::L):=by
 have h2:az B H (bw [df aN 81 (AE a x),Rw 84 6 x.q x.c (x.rs.map Rb.cs),bw (x.rs.map Rb.bX),zt x.q x.w a.eV]::L):=az.sX h;exact az.intro (x:=x) (h2.pure hx).oG
theorem Vy (rs:List Rb):Rv k83 (rs.map Rb.cs):=by
 intro c hc;obtain⟨r,_,rfl⟩:=List.mem_map.1 hc;rfl
theorem Ih (rs:List Rb):pk 6 (rs.map Rb.cs):=(Vy rs).pw
structure ArG (H:ag) (aN:Nat) (a:Ar) (x:Ra):Prop where
 i0:H.inb aN 0 1=true
 i1:H.inb aN 1 1=true
 i2:H.inb aN 2 1=true
 i3:H.inb aN 3 1=true
 i4:H.inb aN 4 1=true
 i5:H.inb aN 5 1=true
 i6:H.inb aN 6 1=true
 i7:H.inb aN 7 1=true
 c0:H.cell aN 0=.slice x.q x.rs.length x.c
 c1:H.cell aN 1=.int .i64 a.aA
 c2:H.cell aN 2=.int .u64 a.aM
 c3:H.cell aN 3=.int .i64 a.boots
 c4:H.cell aN 4=.int .i64 a.bN
 c5:H.cell aN 5=.bool a.off
 c6:H.cell aN 6=.int .i64 a.aG
 c7:H.cell aN 7=x.w
 bi:∀i k,i<x.rs.length→k<6→x.q.isSome=true∧H.inb (pb x.q) (po x.q+i*6+k) 1=true
 b:∀(i:Nat) (hi:i<x.rs.length) k,k<6→H.cell (pb x.q) (po x.q+i*6+k)=ae (x.rs[i]).cs k
theorem arG {x:Ra} (h:az B H (df aN 81 (AE a x)::Rw 84 6 x.q x.c (x.rs.map Rb.cs)::L)):ArG H aN a x:=by
 have hg:=h.get;have hl:(AE a x).length=8:=rfl;have hr:=h.swap.lO;have key:∀(i:Nat) (hi:i<x.rs.length) k,k<6→_:=fun i hi k hk=>jR hr (Ih x.rs) (i:=i) (k:=k) (by simpa using hi) hk
 refine⟨nH hg (by omega),nH hg (by omega),nH hg (by omega),nH hg (by omega),nH hg (by omega),nH hg (by omega),nH hg (by omega),nH hg (by omega),
  aY hg 0,aY hg 1,aY hg 2,aY hg 3,aY hg 4,aY hg 5,aY hg 6,aY hg 7,fun i k hi hk=> ?_,fun i hi k hk=> ?_⟩
 ·obtain⟨h1,h2,h3⟩:=key i hi k hk;exact⟨h1,h2⟩
 ·obtain⟨h1,h2,h3⟩:=key i hi k hk;rw[h3];simp
theorem ArG.b0 {x:Ra} (g:ArG H aN a x) {i:Nat} (hi:i<x.rs.length):x.q.isSome=true∧H.inb (pb x.q) (po x.q+i*6) 1=true∧H.cell (pb x.q) (po x.q+i*6)=.slice (x.rs[i]).q (x.rs[i]).b.pg.length (x.rs[i]).c:=
 ⟨(g.bi i 0 hi (by omega)).1,(g.bi i 0 hi (by omega)).2,g.b i hi 0 (by omega)⟩
end
structure eP (B H:ag) (aN:Nat) (a:Ar) (x:Ra) (L:List cv):Prop where
 bs:x.rs.map Rb.b=a.bs
 s:az B H (df aN 81 (AE a x)::Rw 84 6 x.q x.c (x.rs.map Rb.cs)::bw (x.rs.map Rb.bX)::zt x.q x.w a.eV::L)
abbrev uR (x:Int):Int:=IntKind.i64.wrap x
section
variable {B:ag} {L:List cv} {H:ag} {K:V→ag→Prop} {aN:Nat} {a:Ar} {x:Ra} {i:Nat}
theorem eP.of (h:az B H (dJ aN a::L)):∃x,eP B H aN a x L:=by
 obtain⟨x,h1,h2⟩:=az.arr h;exact⟨x,h1,h2⟩
theorem eP.to (h:eP B H aN a x L):az B H (dJ aN a::L):=az.Z1 x h.bs h.s
theorem eP.g (h:eP B H aN a x L):ArG H aN a x:=arG h.s
theorem eP.len (h:eP B H aN a x L):a.bs.length=x.rs.length:=by rw[←h.bs];simp
theorem eP.at (h:eP B H aN a x L) (hi:i<a.bs.length):∃hi':i<x.rs.length,(x.rs[i]).b=a.bs[i]:=by
 have hl:=h.len;refine⟨by omega, ?_⟩;have:=h.bs;simp only[←this,List.getElem_map]
theorem eP.n8 (h:eP B H aN a x L) {k:Nat} (hk:k<8) (v:V) {a':Ar} (hb:a'.bs=a.bs) (hw:a'.eV=a.eV) (hc:AE a' x=(AE a x).set k v):H.wr aN k 1=true∧eP B (H.store aN k [v]) aN a' x L:=by
 have h1:=h.s.BT (k:=k) (by exact hk) v;refine⟨h1.1,by rw[hb];exact h.bs, ?_⟩;have h2:=h1.2;rw[←hc, ←hw] at h2;exact h2
theorem eP.bcell (h:eP B H aN a x L) (hi:i<a.bs.length) {k:Nat} (hk:k<6) (hk0:0<k) {v:V} (hv:v.one=true) (b':Bk) (hp:b'.pg=(a.bs[i]).pg) (hc:∀q c,(Rb.mk b' q c).cs=((Rb.mk a.bs[i] q c).cs).set k v):H.wr (pb x.q) (po x.q+i*6+k) 1=true∧∃x',x'.q=x.q∧x'.w=x.w∧eP B (H.store (pb x.q) (po x.q+i*6+k) [v]) aN {a with bs:=a.bs.set i b'} x' L:=by
 obtain⟨hi',hb⟩:=h.at hi;have h1:=h.s.swap.DQ (Ih x.rs) (i:=i) (k:=k) (by simpa using hi') hk hv;refine⟨h1.1,{x with rs:=x.rs.set i {x.rs[i] with b:=b'}},rfl,rfl, ?_, ?_⟩
 ·show (x.rs.set i {x.rs[i] with b:=b'}).map Rb.b=a.bs.set i b'
  rw[List.map_set,h.bs]
 ·have h2:=h1.2.swap
  have e1:(x.rs.map Rb.cs).set i ((x.rs.map Rb.cs)[i]'(by simpa using hi') |>.set k v)=(x.rs.set i {x.rs[i] with b:=b'}).map Rb.cs:=by
   rw[List.map_set,List.getElem_map];congr 1;have:=hc (x.rs[i]).q (x.rs[i]).c;rw[←hb] at this;exact this.symm
  have e2:(x.rs.set i {x.rs[i] with b:=b'}).map Rb.bX=x.rs.map Rb.bX:=by
   rw[List.map_set]
   have:Rb.bX {x.rs[i] with b:=b'}=(x.rs.map Rb.bX)[i]'(by simpa using hi'):=by
    rw[List.getElem_map];show pn _ _ b'.pg=pn _ _ _
    rw[hp,hb]
   rw[this,List.set_getElem_self]
  rw[e1] at h2
  show az B _ (df aN 81 (AE {a with bs:=a.bs.set i b'} {x with rs:=x.rs.set i {x.rs[i] with b:=b'}})::
   Rw 84 6 x.q x.c ((x.rs.set i {x.rs[i] with b:=b'}).map Rb.cs)::bw ((x.rs.set i {x.rs[i] with b:=b'}).map Rb.bX)::zt x.q x.w a.eV::L)
  rw[e2]
  have e3:AE {a with bs:=a.bs.set i b'} {x with rs:=x.rs.set i {x.rs[i] with b:=b'}}=AE a x:=by
   simp only[AE,List.length_set]
  rw[e3];exact h2
theorem eP.c0 (h:eP B H aN a x L) (hi:i<a.bs.length):x.q.isSome=true∧H.inb (pb x.q) (po x.q+i*6) 1=true∧∃q c,H.cell (pb x.q) (po x.q+i*6)=.slice q (a.bs[i]).pg.length c:=by
 obtain⟨hi',hb⟩:=h.at hi;obtain⟨h1,h2,h3⟩:=h.g.b0 hi';exact⟨h1,h2,(x.rs[i]).q,(x.rs[i]).c,by rw[h3,hb]⟩
theorem eP.ck (h:eP B H aN a x L) (hi:i<a.bs.length) {k:Nat} (hk:k<6):x.q.isSome=true∧H.inb (pb x.q) (po x.q+i*6+k) 1=true∧∃q c,H.cell (pb x.q) (po x.q+i*6+k)=ae (S8 q (a.bs[i]).pg.length c (a.bs[i]).er (a.bs[i]).cw (a.bs[i]).bn (a.bs[i]).aT (a.bs[i]).fD) k:=by
 obtain⟨hi',hb⟩:=h.at hi;obtain⟨h1,h2⟩:=h.g.bi i k hi' hk;refine⟨h1,h2,(x.rs[i]).q,(x.rs[i]).c, ?_⟩;rw[h.g.b i hi' k hk];unfold Rb.cs;rw[hb]
theorem eP.ck1 (h:eP B H aN a x L) (hi:i<a.bs.length):H.inb (pb x.q) (po x.q+i*6+1) 1=true∧H.cell (pb x.q) (po x.q+i*6+1)=.int .i64 (a.bs[i]).er:=by
 obtain⟨_,h2,q,c,h3⟩:=h.ck hi (k:=1) (by omega);exact⟨h2,h3⟩
theorem eP.ck2 (h:eP B H aN a x L) (hi:i<a.bs.length):H.inb (pb x.q) (po x.q+i*6+2) 1=true∧H.cell (pb x.q) (po x.q+i*6+2)=.bool (a.bs[i]).cw:=by
 obtain⟨_,h2,q,c,h3⟩:=h.ck hi (k:=2) (by omega);exact⟨h2,h3⟩
theorem eP.ck3 (h:eP B H aN a x L) (hi:i<a.bs.length):H.inb (pb x.q) (po x.q+i*6+3) 1=true∧H.cell (pb x.q) (po x.q+i*6+3)=.bool (a.bs[i]).bn:=by
 obtain⟨_,h2,q,c,h3⟩:=h.ck hi (k:=3) (by omega);exact⟨h2,h3⟩
theorem eP.ck4 (h:eP B H aN a x L) (hi:i<a.bs.length):H.inb (pb x.q) (po x.q+i*6+4) 1=true∧H.cell (pb x.q) (po x.q+i*6+4)=.bool (a.bs[i]).aT:=by
 obtain⟨_,h2,q,c,h3⟩:=h.ck hi (k:=4) (by omega);exact⟨h2,h3⟩
theorem eP.ck5 (h:eP B H aN a x L) (hi:i<a.bs.length):H.inb (pb x.q) (po x.q+i*6+5) 1=true∧H.cell (pb x.q) (po x.q+i*6+5)=.int .i64 (a.bs[i]).fD:=by
 obtain⟨_,h2,q,c,h3⟩:=h.ck hi (k:=5) (by omega);exact⟨h2,h3⟩
theorem JQ (h:eP B H aN a x L) (hi:i<a.bs.length):¬(i:Int)<0∧0≤(i:Int)∧¬(i:Int)≥(x.rs.length:Int)∧(i:Int)<(x.rs.length:Int):=by
 have:=h.len;refine⟨?_, ?_, ?_, ?_⟩<;>omega
theorem uS (h:az B H (dJ aN a::L)) (hi:i<a.bs.length):cl 64 [.aj (some (aN,0)),.int .i64 (i:Int)] H K=K (.int .i64 ((a.bs[i]).pg.length:Int)) H:=by
 obtain⟨x,h⟩:=eP.of h;have g:=h.g;obtain⟨n1,n2,n3,n4⟩:=JQ h hi;obtain⟨h1,h2,q,c,h3⟩:=h.c0 hi;rw[abF];simp only[AJ,reduceIte,Nat.reduceEqDiff,Option.isNone_some,Option.isSome_some,g.i0,g.c0,aO,Nat.zero_add,n1,n2,n3,n4,Int.toNat_natCast,cond_true,cond_false,if_true,if_false,h1,h2,h3,Bool.false_eq_true]
theorem Lz (h:az B H (dJ aN a::L)) (hi:i<a.bs.length):cl 155 [.aj (some (aN,0)),.int .i64 (i:Int)] H K=K (.int .i64 (a.bs[i]).er) H:=by
 obtain⟨x,h⟩:=eP.of h;have g:=h.g;obtain⟨n1,n2,n3,n4⟩:=JQ h hi;obtain⟨h1,h2,q,c,h3⟩:=h.c0 hi;have h4:=h.ck1 hi;rw[ZA];simp only[AJ,reduceIte,Nat.reduceEqDiff,Option.isNone_some,Option.isSome_some,g.i0,g.c0,aO,Nat.zero_add,n1,n2,n3,n4,Int.toNat_natCast,cond_true,cond_false,if_true,if_false,h1,h4.1,h4.2,Bool.false_eq_true]
theorem Ii (h:az B H (dJ aN a::L)) (hi:i<a.bs.length):cl 62 [.aj (some (aN,0)),.int .i64 (i:Int)] H K=K (.bool (a.bs[i]).aT) H:=by
 obtain⟨x,h⟩:=eP.of h;have g:=h.g;obtain⟨n1,n2,n3,n4⟩:=JQ h hi;obtain⟨h1,h2,q,c,h3⟩:=h.c0 hi;have h4:=h.ck4 hi;simp only[oU,oV] at h4;have n2':(i:Int)≥0:=n2;rw[abD];simp only[AJ,reduceIte,Nat.reduceEqDiff,Option.isNone_some,Option.isSome_some,g.i0,g.c0,aO,Nat.zero_add,n1,n2,n2',n3,n4,Int.toNat_natCast,cond_true,cond_false,if_true,if_false,h1,h4.1,h4.2,Bool.false_eq_true,ite_self]
theorem BU (h:az B H (dJ aN a::L)):cl 95 [.aj (some (aN,0))] H K=K (.int .i64 (a.bs.length:Int)) H:=by
 obtain⟨x,h⟩:=eP.of h;have g:=h.g;rw[abT,h.len];simp only[AJ,reduceIte,Nat.reduceEqDiff,Option.isNone_some,Option.isSome_some,g.i0,g.c0,Nat.zero_add]
theorem FX (h:az B H (dJ aN a::L)):cl 96 [.aj (some (aN,0))] H K=K (.int .i64 a.aA) H:=by
 obtain⟨x,h⟩:=eP.of h;have g:=h.g;rw[abU];simp only[AJ,reduceIte,Nat.reduceEqDiff,Option.isNone_some,Option.isSome_some,g.i1,g.c1,Nat.zero_add]
theorem Ot (h:az B H (dJ aN a::L)):cl 76 [.aj (some (aN,0))] H K=K (.int .u64 a.aM) H:=by
 obtain⟨x,h⟩:=eP.of h;have g:=h.g;rw[abN];simp only[AJ,reduceIte,Nat.reduceEqDiff,Option.isNone_some,Option.isSome_some,g.i2,g.c2,Nat.zero_add]
theorem FY (h:az B H (dJ aN a::L)):cl 43 [.aj (some (aN,0))] H K=K (.int .i64 a.boots) H:=by
 obtain⟨x,h⟩:=eP.of h;have g:=h.g;rw[abt];simp only[AJ,reduceIte,Nat.reduceEqDiff,Option.isNone_some,Option.isSome_some,g.i3,g.c3,Nat.zero_add]
theorem Z2 (h:az B H (dJ aN a::L)):cl 75 [.aj (some (aN,0))] H K=K (.bool (!a.off)) H:=by
 obtain⟨x,h⟩:=eP.of h;have g:=h.g;rw[abM];simp only[AJ,reduceIte,Nat.reduceEqDiff,Option.isNone_some,Option.isSome_some,g.i5,g.c5,aO,Nat.zero_add,if_true]
def nc (a:Ar) (e:Int):Ar×Int:=if a.off=true then (a,9) else if e≤a.aM then (a,7) else ({a with aM:=e},0)
theorem Ou (h:az B H (dJ aN a::L)) (e:Int) (k:∀H',az B H' (dJ aN (nc a e).1::L)→K (.int .i64 (nc a e).2) H'):cl 31 [.aj (some (aN,0)),.int .u64 e] H K:=by
 obtain⟨x,h⟩:=eP.of h;have g:=h.g;rw[abm];simp only[AJ,reduceIte,Nat.reduceEqDiff,Option.isNone_some,Option.isSome_some,g.i5,g.c5,g.i2,g.c2,Nat.zero_add];by_cases ho:a.off=true
 ·have e1:nc a e=(a,9):=by simp [nc,ho]
  rw[e1] at k;simp only[ho,ak];exact k _ h.to
 ·have ho':a.off=false:=by simpa using ho
  by_cases he:e≤a.aM
  ·have e1:nc a e=(a,7):=by simp [nc,ho,he]
   rw[e1] at k;simp only[ho',he,decide_true,ak,ai];exact k _ h.to
  ·have e1:nc a e=({a with aM:=e},0):=by simp [nc,ho,he]
   rw[e1] at k;obtain⟨h1,h2⟩:=h.n8 (k:=2) (by omega) (.int .u64 e) (a':={a with aM:=e}) rfl rfl rfl;simp only[ho',he,decide_false,ak,ai,h1,aw];exact k _ h2.to
def adg (b:Bk) (n:Int):Bk:={b with fD:=n}
end
section
variable {B:ag} {L:List cv} {H:ag} {K:V→ag→Prop} {aN:Nat} {a:Ar} {x:Ra} {i:Nat}
theorem Ov (rs:List Rg):Rv [.slice] (rs.map Rg.cs):=by
 intro c hc;obtain⟨r,_,rfl⟩:=List.mem_map.1 hc;rfl
theorem az.Be {q:Oq} {c:Nat} {ds:List (List UInt8)} (h:az B H (pn q c ds::L)):∃rs:List Rg,rs.map Rg.d=ds∧az B H (Rw 36 1 q c (rs.map Rg.cs)::bw (rs.map Rg.bX)::L):=by
 obtain⟨rs,h⟩:=h.MX;obtain⟨h1,h⟩:=h.kc.Hg;exact⟨rs,h1,h.Ly⟩
theorem az.Ow {q:Oq} {c:Nat} (rs:List Rg) (h:az B H (Rw 36 1 q c (rs.map Rg.cs)::bw (rs.map Rg.bX)::L)):az B H (pn q c (rs.map Rg.d)::L):=by
 have h2:az B H (bw [Rw 36 1 q c (rs.map Rg.cs),bw (rs.map Rg.bX)]::L):=az.sX h;exact az.intro (x:=rs) (h2.pure rfl).oG
theorem az.acA {q:Oq} {c:Nat} {ds:List (List UInt8)} (h:az B H (pn q c ds::L)) {k:Nat} (hk:k<ds.length):q.isSome=true∧H.inb (pb q) (po q+k*1) 1=true∧∃q' c',H.cell (pb q) (po q+k*1)=.slice q' (ds[k]).length c'∧mn H q' ds[k]:=by
 obtain⟨rs,rfl,h2⟩:=az.Be h;clear h;have h:=h2;clear h2;have hk':k<rs.length:=by simpa using hk
 have hu:pk 1 (rs.map Rg.cs):=(Ov rs).pw;have hr:=jR h.lO hu (i:=k) (k:=0) (by simpa using hk') (by decide);simp only[List.getElem_map];refine⟨hr.1,hr.2.1,(rs[k]).q,(rs[k]).c, ?_, ?_⟩
 ·rw[show po q+k*1=po q+k*1+0 from rfl,hr.2.2];simp [Rg.cs,ae]
 ·have h2:=h.swap.qk (i:=k) (by simpa using hk');have e:(rs.map Rg.bX)[k]'(by simpa using hk')=(rs[k]).bX:=by rw[List.getElem_map]
  rw[e] at h2;exact h2.ja
theorem eP.pgA (h:eP B H aN a x L) (hi:i<a.bs.length):∃q c,H.cell (pb x.q) (po x.q+i*6)=.slice q (a.bs[i]).pg.length c∧H.inb (pb x.q) (po x.q+i*6) 1=true∧x.q.isSome=true∧∃L',az B H (pn q c (a.bs[i]).pg::L'):=by
 obtain⟨hi',hb⟩:=h.at hi;obtain⟨h1,h2,h3⟩:=h.g.b0 hi';have h4:=(h.s.up 2).qk (i:=i) (by simpa using hi');have e:(x.rs.map Rb.bX)[i]'(by simpa using hi')=(x.rs[i]).bX:=by rw[List.getElem_map]
 rw[e] at h4;unfold Rb.bX at h4;rw[hb] at h3 h4;exact⟨_,_,h3,h2,h1,_,h4⟩
def gA (a:Ar) (i k:Nat):Int×List UInt8:=
 if a.off=true then (9,[]) else if a.aA≤(k:Int) then (1,[]) else match a.bs[i]? with
  |none=>(1,[])
  |some b=>match b.pg[k]? with
   |none=>(5,[])
   |some d=>if b.cw=true then (4,[]) else (0,d)
theorem DR (h:eP B H aN a x L) (hi:i<a.bs.length) (k1:a.off=true→K (.tuple [.aj none,.int .i64 9]) H) (k2:a.off=false→K (.tuple [.aj (some (pb x.q,po x.q+i*6)),.int .i64 0]) H):cl 51 [.aj (some (aN,0)),.int .i64 (i:Int)] H K:=by
 have g:=h.g;obtain⟨n1,n2,n3,n4⟩:=JQ h hi;obtain⟨g0,_⟩:=h.c0 hi;rw[abw];simp only[AJ,reduceIte,Nat.reduceEqDiff,Option.isNone_some,Option.isSome_some,g.i0,g.c0,g.i5,g.c5,aO,Nat.zero_add,n1,n2,n3,n4,g0,Int.toNat_natCast,cond_true,if_true];cases ho:a.off
 ·rw[ai];exact k2 ho
 ·rw[ak];exact k1 ho
theorem FZ (h:az B H (dJ aN a::L)) (hi:i<a.bs.length) (hd:∀d∈(a.bs[i]).pg,d.length≤1000000) (p:Nat) (k:∀q c H',az B H' (BY q c (gA a i p).2::dJ aN a::L)→K (.tuple [.slice q (gA a i p).2.length c,.int .i64 (gA a i p).1]) H'):cl 23 [.aj (some (aN,0)),.int .i64 (i:Int),.int .i64 (p:Int)] H K:=by
 rw[abi];obtain⟨x,hX⟩:=eP.of h;have g:=hX.g;have p0:¬(p:Int)<0:=by omega
 have h9:¬(9:Int)=0:=by decide
 refine DR hX hi (fun ho=> ?_) (fun ho'=> ?_)
 ·have e2:gA a i p=(9,[]):=by simp [gA,ho]
  rw[e2] at k;simp only[AJ,reduceIte,Nat.reduceEqDiff,h9];exact k none 0 H (kD h)
 ·simp only[AJ,reduceIte,Nat.reduceEqDiff,if_true,Option.isSome_some,g.i1,g.c1,aO,p0,Nat.zero_add,cond_true,ite_self,Int.toNat_natCast];by_cases hp:a.aA≤(p:Int)
  ·have e2:gA a i p=(1,[]):=by simp [gA,ho',hp]
   rw[e2] at k;have AO:(p:Int)≥a.aA:=hp;simp only[AO,decide_true,ak];exact k none 0 H (kD h)
  ·have AO:¬(p:Int)≥a.aA:=hp;simp only[AO,decide_false,ai];have hbk:a.bs[i]? =some a.bs[i]:=List.getElem?_eq_getElem hi;obtain⟨q',c',g3,g2,g1,L',tJ⟩:=hX.pgA hi;have g5:=hX.ck2 hi;simp only[g2,g3,g5.1,g5.2,AJ,reduceIte,Nat.reduceEqDiff];by_cases hk:(a.bs[i]).pg.length≤p
   ·have e2:gA a i p=(5,[]):=by simp [gA,ho',hp,hbk,List.getElem?_eq_none hk]
    rw[e2] at k;have hk':(p:Int)≥((a.bs[i]).pg.length:Int):=by omega
    simp only[hk',decide_true,ak];exact k none 0 H (kD h)
   ·have Xa:p<(a.bs[i]).pg.length:=by omega
    have hk':¬(p:Int)≥((a.bs[i]).pg.length:Int):=by omega
    simp only[hk',decide_false,ai];have hpk:(a.bs[i]).pg[p]? =some (a.bs[i]).pg[p]:=List.getElem?_eq_getElem Xa;by_cases hh:(a.bs[i]).cw=true
    ·have e2:gA a i p=(4,[]):=by simp [gA,ho',hp,hbk,hpk,hh]
     rw[e2] at k;simp only[hh,ak];exact k none 0 H (kD h)
    ·have hh':(a.bs[i]).cw=false:=by simpa using hh
     have e2:gA a i p=(0,(a.bs[i]).pg[p]):=by simp [gA,ho',hp,hbk,hpk,hh']
     rw[e2] at k;have m1:0≤(p:Int):=by omega
     have m2:(p:Int)<((a.bs[i]).pg.length:Int):=by omega
     obtain⟨f1,f2,q2,c2,f3,f4⟩:=az.acA tJ Xa;simp only[hh',ai,m1,m2,f1,f2,f3,decide_true,Bool.and_self,aw,AJ,reduceIte,Nat.reduceEqDiff];refine kg h f4 (hd _ (List.getElem_mem Xa)) (fun q2 c2 H2 h2=> ?_);simp only[AJ,reduceIte,Nat.reduceEqDiff];exact k q2 c2 H2 h2
def aF (b:Bk):Bk:=if b.fD>0 then {b with fD:=uR (b.fD-1),bn:=b.bn||decide (uR (b.fD-1)=0)} else b
def bx (a:Ar) (i:Nat) (b:Bk):Ar:=
 {a with aG:=uR (a.aG+1),bN:=if a.bN>0 then uR (a.bN-1) else a.bN,off:=if a.bN>0 then decide (uR (a.bN-1)=0) else a.off,bs:=a.bs.set i (aF b)}
def lP (a:Ar):Ar:=
 {a with aG:=uR (a.aG+1),bN:=if a.bN>0 then uR (a.bN-1) else a.bN,off:=if a.bN>0 then decide (uR (a.bN-1)=0) else a.off}
theorem F0 (h:eP B H aN a x L) (hi:i<a.bs.length) (k:∀x' H',x'.q=x.q→x'.w=x.w→eP B H' aN (bx a i a.bs[i]) x' L→K (.tuple [.bool (!(bx a i a.bs[i]).off),.bool (aF a.bs[i]).bn]) H'):cl 126 [.aj (some (aN,0)),.aj (some (pb x.q,po x.q+i*6))] H K:=by
 have g:=h.g;rw[Zi];simp only[AN,reduceIte,Nat.reduceEqDiff,Option.isSome_some,Nat.zero_add,g.i6,g.c6];obtain⟨w1,h1⟩:=h.n8 (k:=6) (by omega) (.int .i64 (uR (a.aG+1))) (a':={a with aG:=uR (a.aG+1)}) rfl rfl rfl;simp only[w1,aw];generalize ag.store H aN 6 _=H1 at h1⊢;have g1:=h1.g;simp only[g1.i4,g1.c4,AN,reduceIte,Nat.reduceEqDiff];refine gp (fun S=>eP B S.3 aN (lP a) x L) (fun S hS=> ?_) (fun Q' hQ=> ?_)
 ·generalize S.3=H2 at hS⊢;have hiN:i<(lP a).bs.length:=hi;have gN:=hS.g;have d5:=hS.ck5 hiN;have eb:(lP a).bs[i]=a.bs[i]:=rfl;rw[eb] at d5;simp only[d5.1,d5.2,AJ,reduceIte,Nat.reduceEqDiff,Option.isSome_some];by_cases hd:(a.bs[i]).fD>0
  ·obtain⟨w2,x2,q2,e2,h2⟩:=hS.bcell hiN (k:=5) (by omega) (by omega) (v:=.int .i64 (uR ((a.bs[i]).fD-1))) rfl {a.bs[i] with fD:=uR ((a.bs[i]).fD-1)} rfl (fun _ _=>rfl);simp only[hd,decide_true,ak,w2,aw];generalize ag.store H2 _ _ _=H3 at h2⊢;obtain⟨a2,hA⟩:∃a2:Ar,a2={lP a with bs:=(lP a).bs.set i {a.bs[i] with fD:=uR ((a.bs[i]).fD-1)}}:=⟨_,rfl⟩;rw[←hA] at h2;have hi2:i<a2.bs.length:=by rw[hA];show i<(List.set _ _ _).length;rw[List.length_set];exact hi
   have eb2:a2.bs[i]={a.bs[i] with fD:=uR ((a.bs[i]).fD-1)}:=by simp only[hA];exact List.getElem_set_self _
   have d3:=h2.ck3 hi2;have d5:=h2.ck5 hi2;rw[eb2,q2] at d3 d5;simp only[d3.1,d3.2,AJ,reduceIte,Nat.reduceEqDiff];by_cases Qs:(a.bs[i]).bn=true
   ·obtain⟨w3,x3,q3,e3,h3⟩:=h2.bcell hi2 (k:=3) (by omega) (by omega) (v:=.bool true) rfl {a2.bs[i] with bn:=true} rfl (fun _ _=>rfl);rw[q2] at w3 h3;simp only[Qs,Bool.not_true,ai,w3,aw];generalize ag.store H3 _ _ _=H4 at h3⊢
    have e5:({a2 with bs:=a2.bs.set i {a2.bs[i] with bn:=true}}:Ar)=bx a i a.bs[i]:=by
     subst hA;simp only[lP,bx,aF,hd,if_true,Qs,Bool.true_or,List.set_set,List.getElem_set_self]
    rw[e5] at h3;have g4:=h3.g;have QB:i<(bx a i a.bs[i]).bs.length:=by unfold bx;simpa using hi
    have d6:=h3.ck3 QB;have e6:((bx a i a.bs[i]).bs[i]).bn=(aF a.bs[i]).bn:=congrArg Bk.bn (List.getElem_set_self (by rw[List.length_set];exact hi));rw[e6,q3,q2] at d6;simp only[g4.i5,g4.c5,d6.1,d6.2,AJ,reduceIte,Nat.reduceEqDiff];exact k x3 H4 (q3.trans q2) (e3.trans e2) h3
   ·have aau:(a.bs[i]).bn=false:=by simpa using Qs
    obtain⟨w3,x3,q3,e3,h3⟩:=h2.bcell hi2 (k:=3) (by omega) (by omega) (v:=.bool (decide (uR ((a.bs[i]).fD-1)=0))) rfl {a2.bs[i] with bn:=decide (uR ((a.bs[i]).fD-1)=0)} rfl (fun _ _=>rfl);rw[q2] at w3 h3;simp only[aau,Bool.not_false,ak,d5.1,d5.2,w3,AJ,reduceIte,Nat.reduceEqDiff];generalize ag.store H3 _ _ _=H4 at h3⊢
    have e5:({a2 with bs:=a2.bs.set i {a2.bs[i] with bn:=decide (uR ((a.bs[i]).fD-1)=0)}}:Ar)=bx a i a.bs[i]:=by
     subst hA;simp only[lP,bx,aF,hd,if_true,aau,Bool.false_or,List.set_set,List.getElem_set_self]
    rw[e5] at h3;have g4:=h3.g;have QB:i<(bx a i a.bs[i]).bs.length:=by unfold bx;simpa using hi
    have d6:=h3.ck3 QB;have e6:((bx a i a.bs[i]).bs[i]).bn=(aF a.bs[i]).bn:=congrArg Bk.bn (List.getElem_set_self (by rw[List.length_set];exact hi));rw[e6,q3,q2] at d6;simp only[g4.i5,g4.c5,d6.1,d6.2,AJ,reduceIte,Nat.reduceEqDiff];exact k x3 H4 (q3.trans q2) (e3.trans e2) h3
  ·have d3:=hS.ck3 hiN;rw[eb] at d3;simp only[hd,decide_false,ai,gN.i5,gN.c5,d3.1,d3.2,AJ,reduceIte,Nat.reduceEqDiff];have eB:aF (a.bs[i]'hi)=a.bs[i]'hi:=if_neg hd;have eL:a.bs.set i (aF (a.bs[i]'hi))=a.bs:=by rw[eB];exact List.set_getElem_self hi
   have eA:bx a i (a.bs[i]'hi)=lP a:=by unfold bx lP;rw[eL]
   have k2:=k x H2 rfl rfl (by rw[eA];exact hS);rw[eA,eB] at k2;exact k2
 ·by_cases hp:a.bN>0
  ·obtain⟨w2,h2⟩:=h1.n8 (k:=4) (by omega) (.int .i64 (uR (a.bN-1))) (a':={a with aG:=uR (a.aG+1),bN:=uR (a.bN-1)}) rfl rfl rfl;simp only[hp,decide_true,ak,w2,aw];generalize ag.store H1 aN 4 _=H2 at h2⊢;have g2:=h2.g;simp only[g2.i4,g2.c4,AJ,reduceIte,Nat.reduceEqDiff];obtain⟨w3,h3⟩:=h2.n8 (k:=5) (by omega) (.bool (decide (uR (a.bN-1)=0))) (a':={a with aG:=uR (a.aG+1),bN:=uR (a.bN-1),off:=decide (uR (a.bN-1)=0)}) rfl rfl rfl;simp only[w3,aw];refine hQ _ ?_;simpa only[lP,hp,if_true] using h3
  ·simp only[hp,decide_false,ai];refine hQ _ ?_;simpa only[lP,hp,if_false] using h1
end
def gY (p:List UInt8) (n:Int):List UInt8:=p.take n.toNat++List.replicate (p.length-n.toNat) 255
@[simp] theorem nI (p:List UInt8) (n:Int):(gY p n).length=p.length:=by simp [gY];omega
section
variable {B:ag} {L:List cv} {H:ag} {K:V→ag→Prop} {q:Oq} {cap:Nat} {bs:List UInt8}
theorem Ox {x y:Nat} (hx:x<4294967296) (hy:y<4294967296):cl 162 [.int .u64 (x:Int),.int .u64 (y:Int)] H K=K (.tuple [.int .u64 0,.int .u64 ((x*y:Nat):Int)]) H:=by
 have e1:Int.fdiv (x:Int) 4294967296=0:=by rw[Int.fdiv_eq_ediv_of_nonneg _ (by omega)];omega
 have e2:Int.fdiv (y:Int) 4294967296=0:=by rw[Int.fdiv_eq_ediv_of_nonneg _ (by omega)];omega
 have m1:∀z:Nat,z<4294967296→((BitVec.toNat (BitVec.ofInt 64 (z:Int) &&& BitVec.ofInt 64 4294967295):Nat):Int)=z:=by
  intro z hz;have:BitVec.ofInt 64 (z:Int)=BitVec.ofNat 64 z:=rfl;rw[this];have h2:BitVec.ofInt 64 4294967295=BitVec.ofNat 64 4294967295:=rfl;rw[h2,BitVec.toNat_and,BitVec.toNat_ofNat,BitVec.toNat_ofNat,show (4294967295:Nat) % 2 ^ 64=2 ^ 32-1 from rfl,Nat.and_two_pow_sub_one_eq_mod];omega
 have hxy:x*y<18446744073709551616:=by
  have:=Nat.mul_le_mul (show x≤4294967295 by omega) (show y≤4294967295 by omega);omega
 have u:∀z:Nat,z<18446744073709551616→IntKind.u64.wrap (z:Int)=z:=fun z hz=>cJ hz
 have u0:IntKind.u64.wrap 0=0:=u 0 (by omega);have e3:((x:Int)*(y:Int))=((x*y:Nat):Int):=by simp
 have e4:∀z:Nat,z<18446744073709551616→Int.fdiv (z:Int) 4294967296=((z / 4294967296:Nat):Int):=fun z hz=>by rw[Int.fdiv_eq_ediv_of_nonneg _ (by omega)];omega
 have hz:x*y / 4294967296<4294967296:=by omega
 have e5:=e4 (x*y / 4294967296) (by omega);have e6:x*y / 4294967296 / 4294967296=0:=by omega
 rw[ZE]
 simp only[e1,e2,m1 x hx,m1 y hy,u x (by omega),u y (by omega),e3,u _ hxy,e4 _ hxy,Int.zero_mul,Int.mul_zero,u0,Int.zero_add,Int.add_zero,u _ (show x*y / 4294967296<18446744073709551616 by omega),e5,e6,m1 _ hz,
  Int.natCast_zero,Int.zero_fdiv]
theorem Oy {id:Nat} {Kr:Am.St→Prop} {Ke:Nat→Am.St→Prop}:∀(k bp:Nat) (rest:List UInt8) {H:ag},bp+rest.length=96→0<bp→rest.length≤k→az B H (df id 5 (bj (List.replicate bp 255++rest))::L)→(∀H',az B H' (df id 5 (bj (List.replicate 96 255))::L)→Ke 0 (St.mk (ab [(7,T.v (V.slice (some (id,0)) 96 96))]) (ab []) H'))→lo 159 10 (St.mk (ab [(7,T.v (V.slice (some (id,0)) 96 96)),(8,T.v (V.int .i64 (bp:Int)))]) (ab []) H) Kr Ke
 |0,bp,rest,H,h1,h2,h3,h,hk=>by
  have:rest=[]:=List.eq_nil_of_length_eq_zero (by omega);subst this;obtain rfl:bp=96:=by simpa using h1
  rw[FK];exact hk H (by simpa using h)
 |k+1,bp,rest,H,h1,h2,h3,h,hk=>by
  rw[FK];by_cases hr:rest=[]
  ·subst hr;obtain rfl:bp=96:=by simpa using h1
   exact hk H (by simpa using h)
  ·have hl:0<rest.length:=List.length_pos_iff.2 hr;have a1:(bp:Int)<((96:Nat):Int):=by omega
   have a2:0≤(bp:Int):=by omega
   have a3:(bp:Int)≤((96:Nat):Int):=by omega
   have a4:bp≤96:=by omega
   have hg:=h.get;obtain⟨j,hj⟩:∃j,j=Nat.min (bp-0) (96-bp):=⟨_,rfl⟩;have hj1:j≤bp:=by rw[hj];exact Nat.le_trans (Nat.min_le_left _ _) (by omega)
   have hj2:j≤rest.length:=by rw[hj];exact Nat.le_trans (Nat.min_le_right _ _) (by omega)
   have hj3:0<j:=by rw[hj];exact Nat.lt_min.2 ⟨by omega,by omega⟩
   have hrd:Rd H (some (id,0)) (bj (List.replicate j 255)):=by
    refine .inr ⟨id,0,_,_,_,rfl,hg, ?_⟩;rw[List.drop_zero,oH,List.length_replicate,mJ];congr 1;rw[List.take_append_of_le_length (by simp;omega),List.take_replicate,Nat.min_eq_left hj1]
   have hc:=mK (n:=1) (id:=id) (o:=bp) (k:=96-bp) (ms:=bp-0) (c:=96-0) (j:=j) (qs:=some (id,0)) hg hrd hj.symm (by simp) (jE _) (by omega) (by simp;try omega);have h5:=h.store (off:=bp) (vs:=bj (List.replicate j 255))
   have e5:bI (bj (List.replicate bp 255++rest)) bp (bj (List.replicate j 255))=bj (List.replicate (bp+j) 255++rest.drop j):=by
    rw[fW _ _ _ (by simp;omega),mJ,qg, ←jD, ←jD];congr 1
    rw[List.take_left' (by simp),oH,List.length_replicate,List.drop_append,List.drop_of_length_le (by simp),List.length_replicate,Nat.add_sub_cancel_left,List.nil_append, ←List.append_assoc,
     List.replicate_append_replicate]
   rw[e5] at h5;have e6:IntKind.i64.wrap ((bp:Int)+((Nat.min (bp-0) (96-bp):Nat):Int))=((bp+j:Nat):Int):=by rw[←hj,bu (by omega) (by omega)];omega
   have e7:bP (some (id,0)) (bp*1)=some (id,bp):=by simp [bP]
   simp only[AJ,reduceIte,Nat.reduceEqDiff,a1,a2,a3,a4,Int.toNat_natCast,e7,gK,hc.1,hc.2,e6];exact Oy k (bp+j) (rest.drop j) (by simp;omega) (by omega) (by simp;omega) h5 hk
theorem Oz (h:az B H L) (hr:mn H q [255]) (k:∀id H',az B H' (df id 5 (bj (List.replicate 96 255))::L)→K (.slice (some (id,0)) 96 96) H'):cl 159 [.slice q 1 cap,.int .i64 96] H K:=by
 rw[ZC];have w1:IntKind.u64.wrap ((1:Nat):Int)=((1:Nat):Int):=cJ (by omega);have w2:IntKind.u64.wrap 96=((96:Nat):Int):=cJ (n:=96) (by omega);have w3:IntKind.i64.wrap ((1*96:Nat):Int)=96:=bu (by omega) (by omega);have d1:¬(96:Int)<0:=by decide
 have d2:¬(0:Int)>0:=by decide
 have d3:¬((1*96:Nat):Int)>9223372036854775807:=by decide
 rw[w1,w2];simp only[AJ,reduceIte,Nat.reduceEqDiff,d1];rw[ZD,Ox (by omega) (by omega)];simp only[AJ,reduceIte,Nat.reduceEqDiff,d2,d3,cond_true,w3];have e96:Int.toNat 96=96:=rfl;rw[e96];have f1:(decide ((0:Int)≤96)&&(decide ((96:Int)≤96)&&decide ((96:Int)*2≤70368744177664)))=true:=by decide
 rw[f1,aw];have hz:dU 96 [V.int .u8 0]=bj (List.replicate 96 0):=by kernel_rfl
 rw[hz];have h1:=h.alloc 5 (bj (List.replicate 96 0));have xH:Rd (H.alloc (.cells 5 (bj (List.replicate 96 0)) false)) q (bj [255]):=hr.fr h.ok (Fr.alloc H _ (fun _=>False)) (fun _ _ _=>id);have hg:=h1.get;have hc:=mK (n:=1) (id:=H.next) (o:=0) (k:=96) (ms:=1) (c:=cap) (j:=1) (qs:=q) hg xH rfl rfl (jE _) (by omega) (by simp);have h2:=h1.store (off:=0) (vs:=bj [255]);have e2:bI (bj (List.replicate 96 0)) 0 (bj [255])=bj (List.replicate 1 255++List.replicate 95 0):=by kernel_rfl
 rw[e2] at h2;rw[hc.1,hc.2,aw];have e3:((Nat.min 1 96:Nat):Int)=((1:Nat):Int):=rfl;rw[e3];refine Oy (L:=L) 95 1 (List.replicate 95 0) (by simp) (by omega) (by simp) h2 (fun H' h'=> ?_);simp only[AJ,reduceIte,Nat.reduceEqDiff];exact k _ H' h'
theorem Ry (h:az B H L) (hr:k6 B L q bs) (hl:bs.length=96) (hc:96≤cap) (n:Int) (k:∀q' c' H',az B H' (BY q' c' (gY bs n)::L)→K (.slice q' 96 c') H'):cl 157 [.slice q 96 cap,.int .i64 n] H K:=by
 rw[ZB];have h1:=h.alloc 5 [V.int .u8 255];have xH:mn (H.alloc (.cells 5 [V.int .u8 255] false)) (some (H.next,0)) [255]:=.inr ⟨_,0,_,_,_,rfl,h1.get,rfl⟩;refine Oz (L:=L) h1.drop xH (fun id H2 h2=> ?_)
 obtain⟨m,hm⟩:∃m:Nat,(bif decide (((96:Nat):Int)<bif decide (0>n) then 0 else n) then ((96:Nat):Int) else bif decide (0>n) then 0 else n)=m∧m=min n.toNat 96:=by
  by_cases h0:0>n
  ·exact⟨0,by simp [h0],by omega⟩
  ·by_cases h1:((96:Nat):Int)<n
   ·exact⟨96,by simp only[h0,h1,decide_false,decide_true,cond_false,cond_true],by omega⟩
   ·exact⟨n.toNat,by simp only[h0,h1,decide_false,cond_false];omega,by omega⟩
 have adk:m≤96:=by omega
 have a1:0≤(m:Int):=by omega
 have a2:(m:Int)≤(cap:Int):=by omega
 have a3:m≤cap:=by omega
 have hrm:Rd H2 q (bj (bs.take m)):=by
  have:=(hr.part 0 m (by omega)).bS (df id 5 (bj (List.replicate 96 255))) H2 h2;rw[List.drop_zero,gK] at this;exact this
 have hg:=h2.get;have hc:=mK (n:=1) (id:=id) (o:=0) (k:=96) (ms:=m-0) (c:=cap-0) (j:=m) (qs:=q) hg hrm (by show min (m-0) 96=m;omega) (by simp;omega) (jE _) (by omega) (by simp;omega);have h3:=h2.store (off:=0) (vs:=bj (bs.take m))
 have e3:bI (bj (List.replicate 96 255)) 0 (bj (bs.take m))=bj (gY bs n):=by
  have e4:bs.take n.toNat=bs.take m:=by
   by_cases hn:n.toNat≤96
   ·congr 1;omega
   ·rw[List.take_of_length_le (by omega),List.take_of_length_le (by omega)]
  have e5:bs.length-n.toNat=96-m:=by omega
  rw[gY,e4,e5,fW _ _ _ (by simp;omega),mJ,qg, ←jD, ←jD,oH,List.length_take,List.drop_replicate,List.take_zero,List.nil_append];congr 3;omega
 rw[e3] at h3;simp only[AJ,reduceIte,Nat.reduceEqDiff,hm.1,Int.toNat_natCast,a1,a2,a3,gK,hc.1,hc.2];refine k _ _ _ (h3.unbuf ?_ (jE _) ?_ ?_ ?_)
 ·simp
 ·simp [hl]
 ·simp [hl]
 ·rw[List.drop_zero,List.take_length]
end
theorem Vz:fH eF 82=some (36,1,24,[V.slice none 0 0]):=by kernel_rfl
theorem VA:iT (bh eF 82)=true:=by kernel_rfl
section
variable {B:ag} {L:List cv} {H:ag} {K:V→ag→Prop} {aN:Nat} {a:Ar} {x:Ra} {i:Nat}
theorem az.VB {q q2:Oq} {c c2:Nat} {ds:List (List UInt8)} {d:List UInt8} (h:az B H (pn q c ds::BY q2 c2 d::L)) (hb:ds.length≤1000) {K:Oq→Nat→Nat→ag→Prop} (k:∀q' c' H',az B H' (pn q' c' (ds++[d])::L)→K q' (ds.length+1) c' H'):aP eF [82,82] [.slice q ds.length c,.slice (some (H.next,0)) 1 1] (H.alloc (.cells 36 [.slice q2 d.length c2] false)) K:=by
 obtain⟨rs,rfl,h1⟩:=az.Be h;rw[List.length_map, ←List.length_map (f:=Rg.cs)]
 refine h1.v8 Vz VA (fun v hv=>by rw[List.mem_singleton] at hv;subst hv;rfl) rfl (by omega) (Ov rs).pw (c:=[.slice q2 d.length c2]) rfl (fun v hv=>by rw[List.mem_singleton] at hv;subst hv;rfl)
  (by rw[List.length_map] at hb⊢;omega) (fun q' c' H' h'=> ?_)
 rw[List.length_map, ←List.length_map (f:=Rg.d)];refine k q' c' H' ?_;have e:rs.map Rg.d++[d]=(rs++[Rg.mk d q2 c2]).map Rg.d:=by simp
 rw[e];refine az.Ow _ ?_;have e2:(rs++[Rg.mk d q2 c2]).map Rg.cs=rs.map Rg.cs++[[.slice q2 d.length c2]]:=by simp [Rg.cs]
 rw[e2];have h2:az B H' (Rw 36 1 q' c' (rs.map Rg.cs++[[.slice q2 d.length c2]])::L++[bw (rs.map Rg.bX),BY q2 c2 d]):=h'.lM (((List.perm_append_comm (l₁:=[bw (rs.map Rg.bX),BY q2 c2 d]) (l₂:=L)).cons _));have h3:az B H' (BY q2 c2 d::bw (rs.map Rg.bX)::Rw 36 1 q' c' (rs.map Rg.cs++[[.slice q2 d.length c2]])::L):=h'.ord [2,1]
 have h4:=h3.mL.bigPerm (l':=(rs++[Rg.mk d q2 c2]).map Rg.bX) (by
  rw[List.map_append]
  exact(List.perm_append_comm (l₁:=[BY q2 c2 d]) (l₂:=rs.map Rg.bX)))
 exact h4.swap
theorem eP.alloc (h:eP B H aN a x L) (e:TypeId) (cs:List V):eP B (H.alloc (.cells e cs false)) aN a x (df H.next e cs::L):=
 ⟨h.bs,(h.s.alloc e cs).ord [1,1,1,1]⟩
theorem eP.drop {A:cv} (h:eP B H aN a x (A::L)):eP B H aN a x L:=⟨h.bs,(h.s.ord [4]).drop⟩
theorem eP.ord (h:eP B H aN a x L) {L':List cv} (hp:L.Perm L'):eP B H aN a x L':=⟨h.bs,h.s.lM ((((hp.cons _).cons _).cons _).cons _)⟩
theorem eP.Z3 (h:eP B H aN a x L):az B H L:=h.s.drop.drop.drop.drop
theorem eP.open (h:eP B H aN a x L) (hi:i<a.bs.length):∃hi':i<x.rs.length,(x.rs[i]).b=a.bs[i]∧az B H (pn (x.rs[i]).q (x.rs[i]).c (a.bs[i]).pg::df aN 81 (AE a x)::Rw 84 6 x.q x.c (x.rs.map Rb.cs)::bw ((x.rs.map Rb.bX).eraseIdx i)::zt x.q x.w a.eV::L):=by
 obtain⟨hi',hb⟩:=h.at hi;refine⟨hi',hb, ?_⟩;have h1:=(h.s.ord [2]).qk (i:=i) (by simpa using hi')
 have e:(x.rs.map Rb.bX)[i]'(by simpa using hi')=pn (x.rs[i]).q (x.rs[i]).c (a.bs[i]).pg:=by
  rw[List.getElem_map];show pn _ _ (x.rs[i]).b.pg=_
  rw[hb]
 rw[e] at h1;exact h1.ord [0,1,1]
theorem eP.close {q':Oq} {c':Nat} {I7:List (List UInt8)} (Wq:x.rs.map Rb.b=a.bs) (hi:i<a.bs.length) (hi':i<x.rs.length) (h:az B H (pn q' c' I7::df aN 81 (AE a x)::Rw 84 6 x.q x.c (x.rs.map Rb.cs)::bw ((x.rs.map Rb.bX).eraseIdx i)::zt x.q x.w a.eV::L)):H.wr (pb x.q) (po x.q+i*6) 1=true∧∃x',x'.q=x.q∧x'.w=x.w∧eP B (H.store (pb x.q) (po x.q+i*6) [.slice q' I7.length c']) aN {a with bs:=a.bs.set i {a.bs[i] with pg:=I7}} x' L:=by
 have hb:(x.rs[i]).b=a.bs[i]:=by simp only[←Wq,List.getElem_map]
 have h1:=(h.ord [2]).DQ (Ih x.rs) (i:=i) (k:=0) (by simpa using hi') (by omega) (v:=.slice q' I7.length c') rfl;refine⟨h1.1,{x with rs:=x.rs.set i ⟨{a.bs[i] with pg:=I7},q',c'⟩},rfl,rfl, ?_, ?_⟩
 ·show (x.rs.set i _).map Rb.b=_
  rw[List.map_set,Wq]
 ·have h2:=h1.2
  have e1:(x.rs.map Rb.cs).set i ((x.rs.map Rb.cs)[i]'(by simpa using hi') |>.set 0 (.slice q' I7.length c'))=(x.rs.set i ⟨{a.bs[i] with pg:=I7},q',c'⟩).map Rb.cs:=by
   rw[List.map_set,List.getElem_map];congr 1;unfold Rb.cs;rw[hb];rfl
  rw[e1] at h2;have h3:=(h2.ord [1,2]).Te (A:=pn q' c' I7) (l:=x.rs.map Rb.bX) (i:=i) (by simpa using hi');have e2:(x.rs.set i ⟨{a.bs[i] with pg:=I7},q',c'⟩).map Rb.bX=(x.rs.map Rb.bX).set i (pn q' c' I7):=by rw[List.map_set];rfl
  show az B _ (df aN 81 (AE {a with bs:=a.bs.set i {a.bs[i] with pg:=I7}} {x with rs:=x.rs.set i ⟨{a.bs[i] with pg:=I7},q',c'⟩})::_::bw ((x.rs.set i ⟨{a.bs[i] with pg:=I7},q',c'⟩).map Rb.bX)::_)
  rw[e2];have e3:AE {a with bs:=a.bs.set i {a.bs[i] with pg:=I7}} {x with rs:=x.rs.set i ⟨{a.bs[i] with pg:=I7},q',c'⟩}=AE a x:=by simp only[AE,List.length_set]
  rw[e3];exact h3.ord [2,1]
theorem eP.push {q2:Oq} {c2:Nat} {d:List UInt8} (h:eP B H aN a x (BY q2 c2 d::L)) (hi:i<a.bs.length) (hb:(a.bs[i]).pg.length≤1000) {Q:ag→Prop} (k:∀x' H',x'.q=x.q→x'.w=x.w→eP B H' aN {a with bs:=a.bs.set i {a.bs[i] with pg:=(a.bs[i]).pg++[d]}} x' L→Q H') (hi':i<x.rs.length):aP eF [82,82] [.slice (x.rs[i]).q (a.bs[i]).pg.length (x.rs[i]).c,.slice (some (H.next,0)) 1 1] (H.alloc (.cells 36 [.slice q2 d.length c2] false)) (fun q n c H'=>ah (H'.wr (pb x.q) (po x.q+i*6) 1) (Q (H'.store (pb x.q) (po x.q+i*6) [.slice q n c]))):=by
 obtain⟨hi',Au,h1⟩:=h.open hi;refine az.VB (L:=_) (h1.ord [0,4]) hb (fun q' c' H' h'=> ?_);obtain⟨w,x',hq,hw,h2⟩:=eP.close (L:=L) h.bs hi hi' h';rw[w,aw];rw[List.length_append] at h2;exact k x' _ hq hw h2
end
def fP (a:Ar) (i p:Nat) (d:List UInt8) (e:Int):Ar×Int:=
 if a.off=true then (a,9) else if a.aA≤(p:Int) then (a,1) else if d.length≠96 then (a,3) else match a.bs[i]? with
  |none=>(a,1)
  |some b=>if p≠b.pg.length∨b.cw=true then (a,6) else if e<a.aM then (a,7) else
   if (bx a i b).off=true then ({bx a i b with eV:=.prog i d},9)
   else if (aF b).bn=true then ({bx a i b with bs:=(bx a i b).bs.set i {aF b with pg:=b.pg++[gY d 0],aT:=true}},8)
   else ({bx a i b with bs:=(bx a i b).bs.set i {aF b with pg:=b.pg++[d]}},0)
theorem bA (b:Bk):(aF b).pg=b.pg:=by unfold aF;split<;>rfl
section
variable {B:ag} {L:List cv} {H:ag} {K:V→ag→Prop} {aN:Nat} {a:Ar} {x:Ra} {i:Nat}
theorem fX (a:Ar) (i:Nat) (b:Bk):(bx a i b).bs.length=a.bs.length:=by simp [bx]
theorem BV (a:Ar) {i:Nat} (b:Bk) (hi:i<a.bs.length):(bx a i b).bs[i]'(by rw[fX];exact hi)=aF b:=by simp [bx]
theorem eP.wayW {W:cv} (h:eP B H aN a x (W::L)) (w:V) (wy:Wy) (hW:∀g,W g→zt x.q w wy g):H.wr aN 7 1=true∧eP B (H.store aN 7 [w]) aN {a with eV:=wy} {x with w:=w} L:=by
 have h1:=h.s.BT (k:=7) (by show 7<8;omega) w;refine⟨h1.1,h.bs, ?_⟩;have h3:az B (H.store aN 7 [w]) (W::df aN 81 ((AE a x).set 7 w)::Rw 84 6 x.q x.c (x.rs.map Rb.cs)::bw (x.rs.map Rb.bX)::L):=((h1.2.ord [3]).drop).ord [3];exact(h3.imp hW).ord [1,1,1]
theorem eP.Z4 {l:List cv} (h:eP B H aN a x (l++L)):eP B H aN a x (bw l::L):=by
 have h1:=h.s.lM (List.perm_append_comm_assoc [df aN 81 (AE a x),Rw 84 6 x.q x.c (x.rs.map Rb.cs),bw (x.rs.map Rb.bX),zt x.q x.w a.eV] l L);exact⟨h.bs,(az.sX h1).ord [1,1,1,1]⟩
theorem Ij (h:az B H (dJ aN a::L)) (hi:i<a.bs.length) (p:Nat) {q:Oq} {c:Nat} {d:List UInt8} (hr:k6 B (dJ aN a::L) q d) (hd:d.length≤1000) (e:Int) (tJ:a.aA≤1000) (k:∀H',az B H' (dJ aN (fP a i p d e).1::L)→K (.int .i64 (fP a i p d e).2) H'):cl 151 [.aj (some (aN,0)),.int .i64 (i:Int),.int .i64 (p:Int),.slice q d.length c,.int .u64 e] H K:=by
 rw[Zy];have hrH:=hr H h;obtain⟨x,hX⟩:=eP.of h;have g:=hX.g;have p0:¬(p:Int)<0:=by omega
 have h9:¬(9:Int)=0:=by decide
 refine DR hX hi (fun ho=> ?_) (fun ho'=> ?_)
 ·have e2:fP a i p d e=(a,9):=by simp [fP,ho]
  rw[e2] at k;simp only[AJ,reduceIte,Nat.reduceEqDiff,h9];exact k H h
 simp only[AJ,reduceIte,Nat.reduceEqDiff,if_true,Option.isSome_some,g.i1,g.c1,aO,p0,Nat.zero_add,cond_true,ite_self,Int.toNat_natCast];by_cases hp:a.aA≤(p:Int)
 ·have e2:fP a i p d e=(a,1):=by simp [fP,ho',hp]
  rw[e2] at k;have AO:(p:Int)≥a.aA:=hp;simp only[AO,decide_true,ak];exact k H h
 have AO:¬(p:Int)≥a.aA:=hp;simp only[AO,decide_false,ai];by_cases hl:d.length≠96
 ·have e2:fP a i p d e=(a,3):=by simp [fP,ho',hp,hl]
  rw[e2] at k;have hl':¬(d.length:Int)=96:=by omega
  simp only[hl',decide_false,Bool.not_false,ak];exact k H h
 have TK:d.length=96:=by omega
 have hl':(d.length:Int)=96:=by omega
 have hbk:a.bs[i]? =some a.bs[i]:=List.getElem?_eq_getElem hi;obtain⟨q',c',g3,g2,g1,_⟩:=hX.pgA hi;have g5:=hX.ck2 hi;simp only[hl',decide_true,Bool.not_true,ai,g2,g3,g5.1,g5.2,AJ,reduceIte,Nat.reduceEqDiff,ite_self];by_cases hk:p≠(a.bs[i]).pg.length∨(a.bs[i]).cw=true
 ·have e2:fP a i p d e=(a,6):=by simp only[fP,ho',hp,hl,hbk,hk,if_true,if_false,Bool.false_eq_true]
  rw[e2] at k
  have e3:(bif !!decide ((p:Int)=((a.bs[i]).pg.length:Int)) then (a.bs[i]).cw else true)=true:=by
   rcases hk with hk|hk
   ·have:¬(p:Int)=((a.bs[i]).pg.length:Int):=by omega
    simp [this]
   ·simp [hk]
  simp only[Bool.not_not] at e3;simp only[Bool.not_not,e3,ak];exact k H h
 have Xa:p=(a.bs[i]).pg.length:=by omega
 have hk2:(a.bs[i]).cw=false:=by simpa using fun hh=>hk (.inr hh)
 have hk3:(p:Int)=((a.bs[i]).pg.length:Int):=by omega
 simp only[hk3,hk2,decide_true,Bool.not_not,cond_true,ai,g.i2,g.c2,AJ,reduceIte,Nat.reduceEqDiff];by_cases hf:e<a.aM
 ·have e2:fP a i p d e=(a,7):=by simp only[fP,ho',hp,hl,hbk,hk,hf,if_true,if_false,Bool.false_eq_true]
  rw[e2] at k;simp only[hf,decide_true,ak];exact k H h
 simp only[hf,decide_false,ai]
 have e2:fP a i p d e=if (bx a i a.bs[i]).off=true then ({bx a i a.bs[i] with eV:=.prog i d},9)
  else if (aF a.bs[i]).bn=true then ({bx a i a.bs[i] with bs:=(bx a i a.bs[i]).bs.set i {aF a.bs[i] with pg:=(a.bs[i]).pg++[gY d 0],aT:=true}},8)
  else ({bx a i a.bs[i] with bs:=(bx a i a.bs[i]).bs.set i {aF a.bs[i] with pg:=(a.bs[i]).pg++[d]}},0):=by
  simp only[fP,ho',hp,hl,hbk,hk,hf,if_true,if_false,Bool.false_eq_true]
 rw[e2] at k;clear e2;obtain⟨b,hb⟩:∃b,b=a.bs[i]:=⟨_,rfl⟩;obtain⟨a3,SM⟩:∃a3,a3=bx a i b:=⟨_,rfl⟩;rw[←hb, ←SM] at k;have QB:i<a3.bs.length:=by rw[SM,fX];exact hi
 have EX:a3.bs[i]=aF b:=by subst SM;exact BV a b hi
 refine kg hX.s hrH (by omega) (fun q2 c2 H2 h2=> ?_);have Hl:d.length≤c2:=(h2.MY).2.2.1;have hX2:eP B H2 aN a x (BY q2 c2 d::L):=⟨hX.bs,h2.ord [1,1,1,1]⟩;simp only[AJ,reduceIte,Nat.reduceEqDiff];refine F0 hX2 hi (fun x3 H3 MQ hw3 QC=> ?_);rw[←hb, ←SM] at QC⊢;simp only[AJ,reduceIte,Nat.reduceEqDiff,Bool.not_not];by_cases SN:a3.off=true
 ·rw[if_pos SN] at k;simp only[SN,ak];have hA:=(QC.alloc 104 [.aj (some (pb x.q,po x.q+i*6))]).alloc 36 [.slice q2 d.length c2]
  have hA2:eP B ((H3.alloc (.cells 104 [.aj (some (pb x.q,po x.q+i*6))] false)).alloc (.cells 36 [.slice q2 d.length c2] false)) aN a3 x3 (bw [df H3.next 104 [.aj (some (pb x.q,po x.q+i*6))],df (H3.next+1) 36 [.slice q2 d.length c2],BY q2 c2 d]::L):=
   eP.Z4 (l:=[df H3.next 104 [.aj (some (pb x.q,po x.q+i*6))],df (H3.next+1) 36 [.slice q2 d.length c2],BY q2 c2 d]) (hA.ord (.swap ..))
  obtain⟨w,hW⟩:=hA2.wayW (.func 156 [.aj (some (H3.next,0)),.aj (some (H3.next+1,0))]) (.prog i d) (fun g hg=>by
   rw[←MQ] at hg
   exact⟨(H3.next,H3.next+1),(q2,c2),_,g,lL.empty g,⟨rfl,rfl⟩,hg⟩)
  rw[show (H3.alloc (.cells 104 [.aj (some (pb x.q,po x.q+i*6))] false)).next=H3.next+1 from rfl,w,aw];exact k _ hW.to
 ·have Wr:a3.off=false:=by simpa using SN
  rw[if_neg SN] at k;simp only[Wr,ai];obtain⟨hi',hb',_⟩:=QC.open QB;have g3:=QC.g.b0 hi';rw[hb',EX,bA,MQ,hb] at g3;simp only[g3.2.1,g3.2.2,AJ,reduceIte,Nat.reduceEqDiff];have At:(a.bs[i]).pg.length≤1000:=by omega
  by_cases QO:(aF b).bn=true
  ·rw[if_pos QO] at k;simp only[QO,ak]
   have T:∀(K:V→ag→Prop),(∀q' c' H',eP B H' aN a3 x3 (BY q' c' (gY d 0)::L)→K (.slice q' 96 c') H')→cl 157 [.slice q2 d.length c2,.int .i64 0] H3 K:=fun K k=>by
    rw[TK];exact Ry QC.s (fun H' h'=>(h'.ord [4]).ja) TK (by omega) 0 (fun q' c' H' h'=>k q' c' H' ⟨QC.bs,(h'.ord [5]).drop.ord [1,1,1,1]⟩)
   have P:∀q' c' H',eP B H' aN a3 x3 (BY q' c' (gY d 0)::L)→aP eF [82,82] [.slice (x3.rs[i]).q (a.bs[i]).pg.length (x3.rs[i]).c,.slice (some (H'.next,0)) 1 1] (H'.alloc (.cells 36 [.slice q' 96 c'] false))
    (fun q n c H'=>ah (H'.wr (pb x.q) (po x.q+i*6) 1) (ah ((H'.store (pb x.q) (po x.q+i*6) [.slice q n c]).wr (pb x.q) (po x.q+i*6+4) 1) (K (.int .i64 8) ((H'.store (pb x.q) (po x.q+i*6) [.slice q n c]).store (pb x.q) (po x.q+i*6+4) [.bool true])))):=by
    intro q' c' H' h';have hp3:(a3.bs[i]).pg.length≤1000:=by rw[EX,bA,hb];exact At
    have:=h'.push QB hp3 (Q:=fun H2=>ah (H2.wr (pb x.q) (po x.q+i*6+4) 1) (K (.int .i64 8) (H2.store (pb x.q) (po x.q+i*6+4) [.bool true]))) (fun x4 H4 hq4 hw4 hX4=> ?_) hi'
    ·rw[EX,bA,hb,nI,TK,MQ] at this;exact this
    ·obtain⟨w,x5,hq5,hw5,hX5⟩:=hX4.bcell (i:=i) (by simpa using QB) (k:=4) (by omega) (by omega) (v:=.bool true) rfl {aF b with pg:=(a.bs[i]).pg++[gY d 0],aT:=true} (by simp [EX,bA,hb]) (by intro q c;simp [EX,bA,hb];rfl);rw[hq4,MQ] at w hX5;rw[w,aw];refine k _ (eP.to (x:=x5) ?_);simpa [hb] using hX5
   refine⟨T _ (fun q' c' H' h'=> ?_),T _ (fun q' c' H' h'=> ?_)⟩
   ·simp only[AJ,reduceIte,Nat.reduceEqDiff];exact P q' c' H' h'
   ·have g4:=h'.g.b0 hi';have g5:=(h'.alloc 36 [.slice q' 96 c']).g.b0 hi';rw[hb',EX,bA,MQ,hb] at g4 g5;simp only[AJ,reduceIte,Nat.reduceEqDiff,g4.2.1,g4.2.2,g5.2.1,g5.2.2,and_self];exact P q' c' H' h'
  ·rw[if_neg QO] at k;have Ws:(aF b).bn=false:=by simpa using QO
   simp only[Ws,ai];have g5:=(QC.alloc 36 [.slice q2 d.length c2]).g.b0 hi';rw[hb',EX,bA,MQ,hb] at g5;simp only[AJ,reduceIte,Nat.reduceEqDiff,g5.2.1,g5.2.2,and_self];have hp3:(a3.bs[i]).pg.length≤1000:=by rw[EX,bA,hb];exact At
   have:=QC.push QB hp3 (Q:=fun H2=>K (.int .i64 0) H2) (fun x4 H4 hq4 hw4 hX4=> ?_) hi'
   ·rw[EX,bA,hb,MQ] at this;exact this
   ·refine k _ (eP.to (x:=x4) ?_);simpa [EX,bA] using hX4
end
def xw (b:Bk):Bk:={b with pg:=[],cw:=false,er:=uR (b.er+1)}
def dY (a:Ar) (i:Nat) (e:Int):Ar×Int:=
 if a.off=true then (a,9) else if e<a.aM then (a,7) else match a.bs[i]? with
  |none=>(a,1)
  |some b=>
   if (bx a i b).off=true then ({bx a i b with eV:=.er i (aF b).bn},9)
   else if (aF b).bn=true then ({bx a i b with bs:=(bx a i b).bs.set i {aF b with aT:=true}},8)
   else ({bx a i b with bs:=(bx a i b).bs.set i (xw (aF b))},0)
def OA (a:Ar) (cut:Int):Ar:=match a.eV with
 | .no=>a
 | .any=>a
 | .prog i d=>if cut>0 then match a.bs[i]? with
   |none=>a
   |some b=>{a with bs:=a.bs.set i {b with pg:=b.pg++[gY d cut]}} else a
 | .er i bn=>match a.bs[i]? with
   |none=>a
   |some b=>if 96≤cut∧bn=false then {a with bs:=a.bs.set i (xw b)} else if cut>0 then {a with bs:=a.bs.set i {b with cw:=decide (0<b.pg.length)}} else a
def dh (a:Ar) (cut:Int):Ar:={OA a cut with eV:=.no,off:=false,bN:=0,aM:=0,boots:=uR (a.boots+1)}
def BW (a:Ar):Prop:=match a.eV with
 | .no=>True
 | .any=>False
 | .prog i d=>d.length=96∧∃h:i<a.bs.length,(a.bs[i]).pg.length≤1000
 | .er i _=>i<a.bs.length
section
variable {B:ag} {L:List cv} {H:ag} {K:V→ag→Prop} {aN:Nat} {a:Ar} {x:Ra} {i:Nat}
theorem acB {id:Nat} {e:TypeId} {v:V} (h:az B H (df id e [v]::L)):H.inb id 0 1=true∧H.cell id 0=v∧H.wr id 0 1=true:=
 ⟨dE h.get 0 1,aY h.get 0,fI h.get 0 1⟩
theorem eP.b1 {id:Nat} {e:TypeId} {v:V} (h:eP B H aN a x (df id e [v]::L)):H.inb id 0 1=true∧H.cell id 0=v∧H.wr id 0 1=true:=acB h.Z3
theorem RA {id:Nat} (h:eP B H aN a x (df id 104 [.aj (some (pb x.q,po x.q+i*6))]::L)) (hi:i<a.bs.length) (k:∀x' H',x'.q=x.q→x'.w=x.w→eP B H' aN {a with bs:=a.bs.set i (xw a.bs[i])} x' (df id 104 [.aj (some (pb x.q,po x.q+i*6))]::L)→K (.tuple []) H'):cl 127 [.aj (some (id,0))] H K:=by
 rw[Zj];obtain⟨hi',hb',h1⟩:=h.open hi
 have hN:az B H (pn none 0 []::df aN 81 (AE a x)::Rw 84 6 x.q x.c (x.rs.map Rb.cs)::bw ((x.rs.map Rb.bX).eraseIdx i)::zt x.q x.w a.eV::df id 104 [.aj (some (pb x.q,po x.q+i*6))]::L):=
  az.Ow (rs:=[]) ((h1.drop.qj).rwNil 36 1)
 obtain⟨w1,x1,hq1,hw1,h2⟩:=eP.close (L:=_) h.bs hi hi' hN;have f0:=h.b1;have f1:=h2.b1;have hi1:i<(a.bs.set i {a.bs[i] with pg:=[]}).length:=by simpa using hi
 obtain⟨w2,x2,QL,hw2,h3⟩:=h2.bcell (i:=i) hi1 (k:=2) (by omega) (by omega) (v:=.bool false) rfl {a.bs[i] with pg:=[],cw:=false} (by simp) (by intro q c;simp;rfl);have f2:=h3.b1;have hi2:i<((a.bs.set i {a.bs[i] with pg:=[]}).set i {a.bs[i] with pg:=[],cw:=false}).length:=by simpa using hi
 have f3:=h3.ck1 hi2;obtain⟨w3,x3,MQ,hw3,h4⟩:=h3.bcell (i:=i) hi2 (k:=1) (by omega) (by omega) (v:=.int .i64 (uR ((a.bs[i]).er+1))) rfl (xw a.bs[i]) (by simp [xw]) (by intro q c;simp [xw];rfl);rw[hq1] at w2 h3 f2 f3 w3 h4;rw[QL,hq1] at f3 w3 h4;simp only[List.getElem_set_self] at f3;have l0:([]:List (List UInt8)).length=0:=rfl;rw[l0] at w2 h3 f2 f3 w3 h4 f1;simp only[AJ,reduceIte,Nat.reduceEqDiff,f0.1,f0.2.1,w1,f1.1,f1.2.1,w2,Option.isSome_some,and_self];have f3':=f3.1;have acW:=f3.2;simp only[f2.1,f2.2.1,f3',acW,AJ,reduceIte,Nat.reduceEqDiff,Option.isSome_some,w3];refine k x3 _ (by rw[MQ,QL,hq1]) (by rw[hw3,hw2,hw1]) ?_;simpa using h4
theorem OB (h:az B H (dJ aN a::L)) (hi:i<a.bs.length) (e:Int) (k:∀H',az B H' (dJ aN (dY a i e).1::L)→K (.int .i64 (dY a i e).2) H'):cl 104 [.aj (some (aN,0)),.int .i64 (i:Int),.int .u64 e] H K:=by
 rw[Y9];obtain⟨x,hX⟩:=eP.of h;have h9:¬(9:Int)=0:=by decide
 have hbk:a.bs[i]? =some a.bs[i]:=List.getElem?_eq_getElem hi
 have st:∀(p:Oq) {H0:ag} {a0:Ar} {x0:Ra} {L0:List cv} {e:TypeId} {v0 v:V},eP B H0 aN a0 x0 L0→(H0.alloc (.cells e [v0] false)).wr H0.next 0 1=true∧eP B ((H0.alloc (.cells e [v0] false)).store H0.next 0 [v]) aN a0 x0 (df H0.next e [v]::L0):=by
  intro p H0 a0 x0 L0 e v0 v h0;have h1:=h0.alloc e [v0];have h2:=(h1.s.ord [4]).BT (k:=0) (by show 0<1;omega) v;exact⟨h2.1,h0.bs,az.ord h2.2 [1,1,1,1]⟩
 refine DR hX hi (fun ho=> ?_) (fun ho'=> ?_)
 ·have e2:dY a i e=(a,9):=by simp [dY,ho]
  rw[e2] at k;obtain⟨w,h1⟩:=st none (e:=104) (v0:=.aj none) (v:=.aj none) hX;simp only[AJ,reduceIte,Nat.reduceEqDiff,h9,w];exact k _ h1.drop.to
 obtain⟨w,h1⟩:=st none (e:=104) (v0:=.aj none) (v:=.aj (some (pb x.q,po x.q+i*6))) hX;obtain⟨pid,SO⟩:∃p,p=H.next:=⟨_,rfl⟩;simp only[AJ,reduceIte,Nat.reduceEqDiff,w];generalize (ag.store _ _ _ _)=H1 at h1⊢;rw[←SO] at h1⊢;have g1:=h1.g;have f1:=h1.b1;simp only[g1.i2,g1.c2,Option.isSome_some,Nat.zero_add,AJ,reduceIte,Nat.reduceEqDiff];by_cases hf:e<a.aM
 ·have e2:dY a i e=(a,7):=by simp [dY,ho',hf]
  rw[e2] at k;simp only[hf,decide_true,ak];exact k _ h1.drop.to
 have e2:dY a i e=if (bx a i a.bs[i]).off=true then ({bx a i a.bs[i] with eV:=.er i (aF a.bs[i]).bn},9)
  else if (aF a.bs[i]).bn=true then ({bx a i a.bs[i] with bs:=(bx a i a.bs[i]).bs.set i {aF a.bs[i] with aT:=true}},8)
  else ({bx a i a.bs[i] with bs:=(bx a i a.bs[i]).bs.set i (xw (aF a.bs[i]))},0):=by
  simp only[dY,ho',hf,hbk,if_false,Bool.false_eq_true]
 rw[e2] at k;clear e2;obtain⟨b,hb⟩:∃b,b=a.bs[i]:=⟨_,rfl⟩;obtain⟨a3,SM⟩:∃a3,a3=bx a i b:=⟨_,rfl⟩;rw[←hb, ←SM] at k;have QB:i<a3.bs.length:=by rw[SM,fX];exact hi
 have EX:a3.bs[i]=aF b:=by subst SM;exact BV a b hi
 simp only[hf,decide_false,ai,f1.1,f1.2.1,AJ,reduceIte,Nat.reduceEqDiff];refine F0 h1 hi (fun x3 H3 MQ hw3 QC=> ?_);rw[←hb, ←SM] at QC⊢;simp only[AJ,reduceIte,Nat.reduceEqDiff];obtain⟨w4,h4⟩:=st none (e:=4) (v0:=.bool false) (v:=.bool (aF b).bn) QC;simp only[w4,aw];obtain⟨bid,acX⟩:∃p,p=H3.next:=⟨_,rfl⟩;generalize (ag.store _ _ _ _)=H4 at h4⊢;rw[←acX] at h4⊢;obtain⟨w5,h5⟩:=st none (e:=1) (v0:=.nilFunc) (v:=.func 127 [.aj (some (pid,0))]) h4;simp only[w5,aw];obtain⟨fid,MR⟩:∃p,p=H4.next:=⟨_,rfl⟩;generalize (ag.store _ _ _ _)=H5 at h5⊢;rw[←MR] at h5⊢;by_cases SN:a3.off=true
 ·rw[if_pos SN] at k
  have hA2:eP B H5 aN a3 x3 (bw [df bid 4 [.bool (aF b).bn],df fid 1 [.func 127 [.aj (some (pid,0))]],df pid 104 [.aj (some (pb x.q,po x.q+i*6))]]::L):=
   eP.Z4 (l:=[df bid 4 [.bool (aF b).bn],df fid 1 [.func 127 [.aj (some (pid,0))]],df pid 104 [.aj (some (pb x.q,po x.q+i*6))]]) (h5.ord (.swap ..))
  obtain⟨w,hW⟩:=hA2.wayW (.func 128 [.aj (some (bid,0)),.aj (some (fid,0)),.aj (some (pid,0))]) (.er i (aF b).bn) (fun g hg=>by
   rw[←MQ] at hg
   exact⟨(bid,fid,pid),_,g,lL.empty g,⟨rfl,rfl⟩,hg⟩)
  simp only[SN,Bool.not_true,Bool.not_false,ak,w,aw];exact k _ hW.to
 have Wr:a3.off=false:=by simpa using SN
 rw[if_neg SN] at k;have f5:=h5.drop.b1;have f6:=h5.b1;have f7:=h5.drop.drop.b1;simp only[Wr,Bool.not_true,Bool.not_false,ai,f5.1,f5.2.1,AJ,reduceIte,Nat.reduceEqDiff];by_cases QO:(aF b).bn=true
 ·rw[if_pos QO] at k;obtain⟨w6,x6,hq6,hw6,h6⟩:=h5.bcell (i:=i) QB (k:=4) (by omega) (by omega) (v:=.bool true) rfl {aF b with aT:=true} (by rw[EX]) (by intro q c;rw[EX];rfl);rw[MQ] at w6 h6;simp only[QO,ak,f7.1,f7.2.1,Option.isSome_some,w6,AJ,reduceIte,Nat.reduceEqDiff];exact k _ (h6.drop.drop.drop).to
 ·rw[if_neg QO] at k;have Ws:(aF b).bn=false:=by simpa using QO
  simp only[Ws,ai,f6.1,f6.2.1,V.av,aw,Bool.and_self]
  have h7:eP B H5 aN a3 x3 (df pid 104 [.aj (some (pb x3.q,po x3.q+i*6))]::L):=by
   rw[MQ];exact h5.drop.drop
  show cl 127 [.aj (some (pid,0))] H5 _
  refine RA h7 QB (fun x8 H8 _ _ h8=> ?_);rw[EX] at h8;exact k _ h8.drop.to
end
def fJ:Bk:=⟨[],0,false,false,false,0⟩
def zu:Bk:=⟨[],0,false,true,true,0⟩
def sf (bs:List Bk):List Int→List Bk
 |[]=>bs
 |i::l=>sf (bs.set i.toNat zu) l
def Bf (n:Nat) (p:Int) (bK:List Int):Ar:={bs:=sf (List.replicate n fJ) bK,aA:=p,aM:=0,boots:=0,bN:=0,off:=false,aG:=0,eV:=.no}
theorem BX:∀(l:List Int) (bs:List Bk),(sf bs l).length=bs.length
 |[],_=>rfl
 |i::l,bs=>by rw[sf,BX l,List.length_set]
section
variable {B:ag} {L:List cv} {H:ag} {K:V→ag→Prop} {aN:Nat} {a:Ar} {x:Ra} {i:Nat}
theorem az.F1 (h:az B H L):∀n:Nat,az B H (bw (List.replicate n (pn none 0 []))::L)
 |0=>h.qj
 |n+1=>az.mL (az.Ow (rs:=[]) (((az.F1 h n).qj).rwNil 36 1))
theorem F2 (l:List V):∀n:Nat,(List.replicate n l).flatten=dU n l
 |0=>rfl
 |n+1=>by
  rw[List.replicate_succ,List.flatten_cons,F2 l n];rfl
theorem OC {q:Oq} {c n:Nat} {bK:List Int} (hr:FU B L q bK) (hl:bK.length≤1000000) {Kr:Am.St→Prop} {Ke:Nat→Am.St→Prop}:∀(k j:Nat) (a:Ar) {x:Ra} {H:ag},j+k=bK.length→a.bs.length=n→(∀b∈a.bs,b=fJ∨b=zu)→eP B H aN a x L→((∃i∈bK.drop j,i<0∨(n:Int)≤i)→∀H',az B H' L→Kr (St.mk (ab [(6,T.v (V.aj none)),(7,T.v (V.int .i64 1))]) (ab []) H'))→((∀i∈bK.drop j,0≤i∧i<(n:Int))→∀H' x',eP B H' aN {a with bs:=sf a.bs (bK.drop j)} x' L→Ke 0 (St.mk (ab [(8,T.v (V.aj (some (aN,0))))]) (ab []) H'))→lo 12 6 (St.mk (ab [(0,T.v (V.int .i64 (n:Int))),(8,T.v (V.aj (some (aN,0)))),(30,T.v (V.slice q bK.length c)),(31,T.v (V.int .i64 (bK.length:Int))),(32,T.v (V.int .i64 (j:Int)))]) (ab []) H) Kr Ke
 |0,j,a,x,H,hj,hn,hp,h,k1,k2=>by
  obtain rfl:j=bK.length:=by omega
  rw[NT,decide_eq_false (by omega),ai];rw[List.drop_length] at k2;exact k2 (by simp) H x h
 |k+1,j,a,x,H,hj,hn,hp,h,k1,k2=>by
  have hlt:j<bK.length:=by omega
  obtain⟨g1,g2,g3⟩:=(hr H h.Z3).at hlt;have a1:(j:Int)<(bK.length:Int):=by omega
  have a2:0≤(j:Int):=by omega
  rw[List.drop_eq_getElem_cons hlt] at k1 k2;rw[NT];simp only[AJ,reduceIte,Nat.reduceEqDiff,a1,a2,Int.toNat_natCast,g1,g2,g3];by_cases hb:bK[j]<0∨(n:Int)≤bK[j]
  ·have e:(bif !decide (bK[j]<0) then decide (bK[j]≥(n:Int)) else true)=true:=by
    rcases hb with hb|hb
    ·simp [hb]
    ·have:bK[j]≥(n:Int):=hb;simp [this]
   rw[e,ak];exact k1 ⟨_,List.mem_cons_self,hb⟩ H h.Z3
  ·obtain⟨b1,b2⟩:¬bK[j]<0∧¬(n:Int)≤bK[j]:=by omega
   have b2':¬bK[j]≥(n:Int):=b2;have b3:0≤bK[j]:=by omega
   have b4:bK[j]<(n:Int):=by omega
   have hi:bK[j].toNat<a.bs.length:=by omega
   have hp0:=hp _ (List.getElem_mem hi);have g:=h.g;have hx:=h.len;have b5:bK[j]<(x.rs.length:Int):=by omega
   obtain⟨s1,_⟩:=h.c0 hi;obtain⟨w1,x1,q1,e1,h1⟩:=h.bcell hi (k:=3) (by omega) (by omega) (v:=.bool true) rfl {a.bs[bK[j].toNat] with bn:=true} rfl (fun _ _=>rfl);have hi1:bK[j].toNat<(a.bs.set bK[j].toNat {a.bs[bK[j].toNat] with bn:=true}).length:=by simpa using hi
   obtain⟨w2,x2,q2,e2,h2⟩:=h1.bcell hi1 (k:=4) (by omega) (by omega) (v:=.bool true) rfl {a.bs[bK[j].toNat] with bn:=true,aT:=true} (by simp) (fun _ _=>by simp;rfl);rw[q1] at w2 h2;simp only[b1,b2',b3,b4,b5,decide_false,Bool.not_false,cond_true,ai,Option.isSome_some,g.i0,g.c0,Nat.zero_add,s1,w1,w2,AJ,reduceIte,Nat.reduceEqDiff];rw[aK (by omega)]
   have eb:({a.bs[bK[j].toNat] with bn:=true,aT:=true}:Bk)=zu:=by
    rcases hp0 with hp0|hp0<;>rw[hp0]<;>rfl
   rw[eb,List.set_set] at h2;refine OC hr hl k (j+1) {a with bs:=a.bs.set bK[j].toNat zu} (by omega) (by rw[List.length_set];exact hn) (fun b hb'=> ?_) h2 (fun he=>k1 ?_) (fun hall H' x' h'=> ?_)
   ·rcases List.mem_or_eq_of_mem_set hb' with hb'|hb'
    ·exact hp b hb'
    ·exact .inr hb'
   ·obtain⟨z,EG,ya⟩:=he;exact⟨z,List.mem_cons_of_mem _ EG,ya⟩
   ·exact k2 (fun z hz=>by
     rcases List.mem_cons.1 hz with rfl|hz
     ·omega
     ·exact hall z hz) H' x' h'
theorem OD (h:az B H L) (b p:Int) {q:Oq} {c:Nat} {bK:List Int} (hr:FU B L q bK) (hl:bK.length≤1000000) (k1:¬(1≤b∧b≤64∧1≤p∧p≤32∧∀i∈bK,0≤i∧i<b)→∀H',az B H' L→K (.tuple [.aj none,.int .i64 1]) H') (k2:(1≤b∧b≤64∧1≤p∧p≤32∧∀i∈bK,0≤i∧i<b)→∀aN H',az B H' (dJ aN (Bf b.toNat p bK)::L)→K (.tuple [.aj (some (aN,0)),.int .i64 0]) H'):cl 12 [.int .i64 b,.int .i64 p,.slice q bK.length c] H K:=by
 rw[aba];by_cases hn:1≤b∧b≤64∧1≤p∧p≤32
 ·obtain⟨h1,h2,h3,h4⟩:=hn;have b1:¬b<1:=by omega
  have b2:¬b>64:=by omega
  have b3:¬p<1:=by omega
  have b4:¬p>32:=by omega
  have b5:0≤b:=by omega
  have b6:b*49≤70368744177664:=by omega
  have b7:b≤b:=by omega
  simp only[b1,b2,b3,b4,b5,b6,b7,decide_false,decide_true,Bool.not_false,cond_true,ai,Bool.and_self,aw,oW];obtain⟨n,rfl⟩:∃n:Nat,b=(n:Int):=⟨b.toNat,by omega⟩;rw[Int.toNat_natCast] at*;have hA:=h.alloc 84 (dU n (S8 none 0 0 0 false false false 0))
  have hrow:az B (H.alloc (.cells 84 (dU n (S8 none 0 0 0 false false false 0)) false)) (Rw 84 6 (some (H.next,0)) n ((List.replicate n (Rb.mk fJ none 0)).map Rb.cs)::L):=by
   have e:(List.replicate n (Rb.mk fJ none 0)).map Rb.cs=List.replicate n (S8 none 0 0 0 false false false 0):=by rw[List.map_replicate];rfl
   rw[e];have hlen:(dU n (S8 none 0 0 0 false false false 0)).length=n*6:=by rw[dU,gf];rfl
   unfold Rw;rw[F2,List.length_replicate];exact hA.unbuf hlen (gF (fun v hv=>by simp only[S8,List.mem_cons,List.not_mem_nil,or_false] at hv;rcases hv with rfl|rfl|rfl|rfl|rfl|rfl<;>rfl) _) (by omega) (by rw[hlen];omega) (by rw[List.drop_zero,List.take_length])
  generalize ag.alloc H _=H1 at hrow⊢;have hB:=hrow.alloc 81 (c80 (some (H.next,0)) n n p 0 0 0 false 0 .nilFunc);obtain⟨aN,aav⟩:∃z,z=H1.next:=⟨_,rfl⟩;generalize ag.alloc H1 _=H2 at hB⊢;rw[←aav] at hB;have hN:H1.2=aN:=aav.symm;rw[hN]
  have hX:eP B H2 aN {bs:=List.replicate n fJ,aA:=p,aM:=0,boots:=0,bN:=0,off:=false,aG:=0,eV:=.no} ⟨.nilFunc,some (H.next,0),n,List.replicate n (Rb.mk fJ none 0)⟩ L:=by
   refine⟨by simp, ?_⟩;have h3:=(az.pure (p:=V.nilFunc=V.nilFunc) hB rfl);have h4:=az.F1 h3 n;have e1:(List.replicate n (Rb.mk fJ none 0)).map Rb.bX=List.replicate n (pn none 0 []):=by rw[List.map_replicate];rfl
   have h5:=h4.ord [2,2,0,0];show az B H2 (df aN 81 (c80 (some (H.next,0)) (List.replicate n (Rb.mk fJ none 0)).length n p 0 0 0 false 0 .nilFunc)::_::bw ((List.replicate n (Rb.mk fJ none 0)).map Rb.bX)::_)
   rw[e1,List.length_replicate];exact h5
  refine OC hr hl bK.length 0 _ (by omega) (by simp) (fun b hb=>.inl (List.eq_of_mem_replicate hb)) hX (fun he H' h'=> ?_) (fun ha H' x' h'=> ?_)
  ·simp only[AJ,reduceIte,Nat.reduceEqDiff];refine k1 (fun hh=> ?_) H' h';obtain⟨z,EG,ya⟩:=he;have:=hh.2.2.2.2 z EG;omega
  ·simp only[AJ,reduceIte,Nat.reduceEqDiff];exact k2 ⟨h1,h2,h3,h4,ha⟩ aN H' h'.to
 ·have e:(bif !decide (b<1) then bif !decide (b>64) then bif !decide (p<1) then decide (p>32) else true else true else true)=true:=by
   by_cases b1:b<1
   ·simp [b1]
   by_cases b2:b>64
   ·simp [b1,b2]
   by_cases b3:p<1
   ·simp [b1,b2,b3]
   have b4:p>32:=by omega
   simp [b1,b2,b3,b4]
  rw[e,ak];exact k1 (fun hh=>hn ⟨hh.1,hh.2.1,hh.2.2.1,hh.2.2.2.1⟩) H h
end
section
variable {B:ag} {L:List cv} {H:ag} {K:V→ag→Prop} {q:Oq} {cap:Nat} {bs:List UInt8}
theorem OE (n size:Nat) (hs:size≤8) (bs:List UInt8) (hb:bs.length+size≤1000000000) {Kr:Am.St→Prop} {Ke:Nat→Am.St→Prop}:∀(k i:Nat) {q:Oq} {cap:Nat} {H:ag},i+k=size→az B H (BY q cap (bs++le n i)::L)→(∀q' c' H',az B H' (BY q' c' (bs++le n size)::L)→Ke 0 (St.mk (ab [(0,T.v (V.slice q' (bs++le n size).length c'))]) (ab []) H'))→lo 119 2 (St.mk (ab [(0,T.v (V.slice q (bs++le n i).length cap)),(1,T.v (V.int .u64 (n:Int))),(8,T.v (V.int .i64 (size:Int))),(9,T.v (V.int .i64 (i:Int)))]) (ab []) H) Kr Ke
 |0,i,q,cap,H,hi,h,hk=>by
  obtain rfl:i=size:=by omega
  rw[Jx];(try simp only[NQ]);have e1:decide ((i:Int)<(i:Int))=false:=by simp
  rw[e1,ai];exact hk _ _ _ h
 |k+1,i,q,cap,H,hi,h,hk=>by
  rw[Jx];(try simp only[NQ]);have e1:decide ((i:Int)<(size:Int))=true:=by simp;omega
  rw[e1,ak,FL (by omega),aw,Og n (by omega)];refine FP h _ (by simp;omega) (fun q' c' H' h'=> ?_);rw[aK (by omega)];rw[List.append_assoc, ←JF] at h'⊢;exact OE n size hs bs hb k (i+1) (by omega) h' hk
theorem eG (n size:Nat) (h:az B H (BY q cap bs::L)) (hs:size≤8) (hb:bs.length+size≤1000000000) (k:∀q' c' H',az B H' (BY q' c' (bs++le n size)::L)→K (.slice q' (bs++le n size).length c') H'):cl 119 [.slice q bs.length cap,.int .u64 (n:Int),.int .i64 (size:Int)] H K:=by
 rw[ZF];(try simp only[NQ])
 have:=OE (B:=B) (L:=L) n size hs bs hb (Kr:=fun _=>False) (Ke:=fun j S'=>br (Nat.beq j 0) (ah (aC (KT.k cj.slice) (S'.1 0)||false||false) (K (V.slice (V.au (T.val (S'.1 0))) (V.ax (T.val (S'.1 0))) (V.aD (T.val (S'.1 0)))) S'.3)) False)
  size 0 (q:=q) (cap:=cap) (H:=H) (by omega) (by simpa [le] using h) (fun q' c' H' h'=>by simpa [AK,reduceIte,Nat.reduceEqDiff] using k q' c' H' h')
 simpa [le] using this
theorem OF (hr:mn H q bs) (hb:bs.length≤8) {Kr:Am.St→Prop} {Ke:Nat→Am.St→Prop}:∀(k i:Nat),i+k=bs.length→lo 107 3 (St.mk (ab [(3,T.v (V.int .u64 (dI (bs.take i):Nat))),(6,T.v (V.slice q bs.length cap)),(7,T.v (V.int .i64 (bs.length:Int))),(8,T.v (V.int .i64 (i:Int)))]) (ab []) H) Kr Ke=Ke 0 (St.mk (ab [(3,T.v (V.int .u64 (dI bs:Nat)))]) (ab []) H)
 |0,i,hi=>by
  obtain rfl:i=bs.length:=by omega
  rw[Jy];(try simp only[NQ]);rw[List.take_length];have e1:decide ((bs.length:Int)<(bs.length:Int))=false:=by simp
  rw[e1,ai]
 |k+1,i,hi=>by
  have hlt:i<bs.length:=by omega
  obtain⟨h1,h2,h3⟩:=hr.at hlt;rw[Jy];(try simp only[NQ]);have e1:decide ((i:Int)<(bs.length:Int))=true:=by simp;omega
  have e2:decide (0≤(i:Int))=true:=by simp
  have e3:0+((i:Int)).toNat*1=i:=by simp
  have e4:(i:Int).toNat*1=i:=by simp
  rw[e1,ak,e2,h1,e4,h2,h3];simp only[Bool.and_self,aw,cP,aZ];rw[FL (by omega),aw,aK (by omega),Oi (Nat.lt_of_lt_of_le (xO _) (by rw[List.length_take];exact Nat.pow_le_pow_right (by omega) (by omega))) bs[i].toNat_lt (by omega)]
  have e5:dI (bs.take i)+bs[i].toNat*256 ^ i=dI (bs.take (i+1)):=by
   rw[List.take_succ_eq_append_getElem hlt,qh];simp [dI,Nat.mul_comm];rw[Nat.min_eq_left (by omega)]
  rw[e5];exact OF hr hb k (i+1) (by omega)
theorem BZ (hr:mn H q bs) (hb:bs.length≤8):cl 107 [.slice q bs.length cap] H K=K (.int .u64 (dI bs:Nat)) H:=by
 rw[ZG];(try simp only[NQ]);have:=OF (cap:=cap) hr hb (Kr:=fun _=>False) (Ke:=fun j S'=>br (Nat.beq j 0) (ah (aC (KT.k (cj.int IntKind.u64)) (S'.1 3)||false||false) (K (V.int IntKind.u64 (V.aa (T.val (S'.1 3)))) S'.3)) False) bs.length 0 (by omega);simp only[List.take_zero,dI] at this;refine this.trans ?_;simp [AK,reduceIte,Nat.reduceEqDiff]
end
structure RS where
 bs:List UInt8
 bK:Bool
def RS.take (s:RS) (n:Nat):List UInt8×RS:=
 if s.bK=true∨s.bs.length<n then ([],⟨s.bs,true⟩) else (s.bs.take n,⟨s.bs.drop n,false⟩)
def RS.num (s:RS) (size most:Nat):Nat×RS:=
 if dI (s.take size).1>most then (0,⟨(s.take size).2.bs,true⟩) else (dI (s.take size).1,(s.take size).2)
structure nJ (B H:ag) (L:List cv) (id:Nat) (s:RS):Prop where
 ex:∃q c,s.bs.length≤c∧k6 B L q s.bs∧az B H (df id 182 (Bc q s.bs.length c s.bK)::L)
section
variable {B:ag} {L:List cv} {H:ag} {K:V→ag→Prop} {q:Oq} {cap:Nat} {bs:List UInt8} {id:Nat} {s:RS}
theorem JR (h:az B H L) (hr:k6 B L q bs) (hc:bs.length≤cap) (k:∀id H',nJ B H' L id ⟨bs,false⟩→K (.aj (some (id,0))) H'):cl 71 [.slice q bs.length cap] H K:=by
 rw[abY];(try simp only[NQ]);exact k _ _ ⟨q,cap,hc,hr,h.alloc _ _⟩
theorem F3 (h:nJ B H L id s) (n:Nat) (k:∀q' c' H',nJ B H' L id (s.take n).2→k6 B L q' (s.take n).1→(s.take n).1.length≤c'→K (.slice q' (s.take n).1.length c') H'):cl 108 [.aj (some (id,0)),.int .i64 (n:Int)] H K:=by
 obtain⟨q,c,hc,hr,hs⟩:=h.ex;have hg:=hs.get;rw[ZH];(try simp only[NQ]);simp only[AK,reduceIte,Nat.reduceEqDiff,Option.isSome_some,Option.getD_some,dE hg,aY hg,fI hg,aO,Nat.zero_add];unfold RS.take at k;by_cases hb:s.bK=true∨s.bs.length<n
 ·rw[if_pos hb] at k
  have e:(bif !s.bK then decide ((n:Int)>(s.bs.length:Int)) else true)=true:=by
   rcases hb with hb|hb
   ·rw[hb];rfl
   ·cases s.bK
    ·simp;omega
    ·rfl
  have h2:az B (H.store id 1 [.bool true]) (df id 182 (Bc q s.bs.length c true)::L):=hs.store;have:=k none 0 _ ⟨q,c,hc,hr,h2⟩ (k6.nil _ _ _) (by simp);have e2:(s.bK||decide (s.bs.length<n))=true:=by simpa using hb
  simpa [Bc,ae,e2,AK,reduceIte,Nat.reduceEqDiff] using this
 ·rw[if_neg hb] at k;have Au:s.bK=false:=by cases h:s.bK<;>simp_all
  have nh:n≤s.bs.length:=by omega
  have h2:az B (H.store id 0 [.slice (bP q n) (s.bs.length-n) (c-n)]) (df id 182 (Bc (bP q n) (s.bs.length-n) (c-n) s.bK)::L):=hs.store;have h3:=hr.part n (s.bs.length-n) (by omega);have h4:=hr.part 0 n (by omega);rw[List.drop_zero,gK] at h4;have e3:((s.bs.drop n).take (s.bs.length-n))=s.bs.drop n:=List.take_of_length_le (by simp);rw[e3] at h3;have hl:(s.bs.take n).length=n:=by simp;omega
  have:=k q n _ ⟨bP q n,c-n,by simp;omega,h3,by simpa [Au] using h2⟩ h4 (by simp;omega);have e5:¬(n:Int)>(s.bs.length:Int):=by omega
  have e6:(n:Int)≤(c:Int):=by omega
  have e7:(n:Int)≤(s.bs.length:Int):=by omega
  rw[hl] at this;simpa [Bc,ae,Au,e5,e6,e7,hc,AK,reduceIte,Nat.reduceEqDiff] using this
theorem kF (h:nJ B H L id s) (size most:Nat) (hs:size≤8) (k:∀H',nJ B H' L id (s.num size most).2→K (.int .u64 ((s.num size most).1:Nat)) H'):cl 72 [.aj (some (id,0)),.int .i64 (size:Int),.int .u64 (most:Int)] H K:=by
 rw[abZ];(try simp only[NQ]);rw[Option.isNone_some,ai];refine F3 h size (fun q' c' H' h' hr' tG=> ?_);have hl:(s.take size).1.length≤8:=by unfold RS.take;split<;>simp;omega
 obtain⟨q2,c2,Hl,xG,n7⟩:=h'.ex;simp only[AK,reduceIte,Nat.reduceEqDiff];rw[BZ (hr' H' n7.drop) hl];simp only[AK,reduceIte,Nat.reduceEqDiff];unfold RS.num at k;by_cases hm:dI (s.take size).1>most
 ·rw[if_pos hm] at k;have hg:=n7.get;have h3:az B (H'.store id 1 [.bool true]) (df id 182 (Bc q2 (s.take size).2.bs.length c2 true)::L):=n7.store;have:=k _ ⟨q2,c2,Hl,xG,h3⟩;have e1:((dI (s.take size).1:Nat):Int)>(most:Int):=by omega
  simpa [e1,fI hg,Bc] using this
 ·rw[if_neg hm] at k;have e1:¬((dI (s.take size).1:Nat):Int)>(most:Int):=by omega
  have:=k _ h';simpa [e1] using this
theorem VC (h:nJ B H L id s):cl 73 [.aj (some (id,0))] H K=K (.bool (!s.bK&&decide (s.bs=[]))) H:=by
 obtain⟨q,c,hc,hr,hs⟩:=h.ex;have hg:=hs.get;rw[ab0];(try simp only[NQ]);simp only[AK,reduceIte,Nat.reduceEqDiff,Option.isSome_some,Option.isNone_some,Option.getD_some,dE hg,aY hg,fI hg,aO,Nat.zero_add]
 have e:decide ((s.bs.length:Int)=0)=decide (s.bs=[]):=by
  cases s.bs
  ·simp
  ·simp;omega
 simp only[Bc,dM,gg,bV,aU,e];simp [AK,reduceIte,Nat.reduceEqDiff]
end
theorem kh {bs:List UInt8} {size most:Nat} (h1:size≤bs.length) (h2:dI (bs.take size)≤most):(RS.mk bs false).num size most=(dI (bs.take size),⟨bs.drop size,false⟩):=by
 have:¬bs.length<size:=by omega
 simp [RS.num,RS.take,this];omega
theorem uT {bs:List UInt8} {size most:Nat} (h1:size≤bs.length) (h2:dI (bs.take size)>most):(RS.mk bs false).num size most=(0,⟨bs.drop size,true⟩):=by
 have:¬bs.length<size:=by omega
 simp [RS.num,RS.take,this];omega
theorem LA {bs:List UInt8} {size most:Nat} (h1:bs.length<size):(RS.mk bs false).num size most=(0,⟨bs,true⟩):=by
 simp [RS.num,RS.take,h1,dI]
theorem uU {s:RS} {size most:Nat} (h:s.bK=true):(s.num size most).2.bK=true:=by
 simp [RS.num,RS.take,h,dI]
theorem iH {s:RS} {size most:Nat} (h:(s.num size most).2.bK=false):s.bK=false∧size≤s.bs.length∧dI (s.bs.take size)≤most∧s.num size most=(dI (s.bs.take size),⟨s.bs.drop size,false⟩):=by
 obtain⟨bs,bK⟩:=s
 have hb:bK=false:=by
  cases bK
  ·rfl
  ·rw[uU rfl] at h;cases h
 subst hb;by_cases h1:size≤bs.length
 ·by_cases h2:dI (bs.take size)≤most
  ·exact⟨rfl,h1,h2,kh h1 h2⟩
  ·rw[uT h1 (by omega)] at h;cases h
 ·rw[LA (by omega)] at h;cases h
def DS (c:BitVec 32):BitVec 32:=(c >>> 1) ^^^ (3988292384#32 &&& (0#32-(c &&& 1#32)))
def VD:Nat→BitVec 32→BitVec 32
 |0,c=>c
 |n+1,c=>VD n (DS c)
def JS (c:BitVec 32) (b:UInt8):BitVec 32:=VD 8 (c ^^^ BitVec.ofNat 32 b.toNat)
def OG:List UInt8→BitVec 32→BitVec 32
 |[],c=>c
 |b::l,c=>OG l (JS c b)
def sZ (bs:List UInt8):Nat:=(4294967295#32 ^^^ OG bs 4294967295#32).toNat
theorem DT (bs:List UInt8):sZ bs<4294967296:=BitVec.isLt _
theorem s9 (x:Int):IntKind.u32.wrap x=((BitVec.ofInt 32 x).toNat:Int):=by
 rw[IntKind.wrap_u32,BitVec.toNat_ofInt];omega
theorem qo (c:BitVec 32):BitVec.ofInt 32 (c.toNat:Int)=c:=by
 apply BitVec.eq_of_toNat_eq;rw[BitVec.toNat_ofInt];have:=c.isLt;omega
theorem Ik (c:BitVec 32):IntKind.u32.wrap ((BitVec.toNat (BitVec.ofInt 32 (Int.fdiv (c.toNat:Int) 2) ^^^ BitVec.ofInt 32 (IntKind.u32.wrap ((BitVec.toNat (BitVec.ofInt 32 3988292384 &&& BitVec.ofInt 32 (IntKind.u32.wrap (0-IntKind.u32.wrap ((BitVec.toNat (BitVec.ofInt 32 (c.toNat:Int) &&& BitVec.ofInt 32 1):Nat):Int)))):Nat):Int))):Nat):Int)=((DS c).toNat:Int):=by
 have e1:BitVec.ofInt 32 (Int.fdiv (c.toNat:Int) 2)=c >>> 1:=by
  apply BitVec.eq_of_toNat_eq;rw[BitVec.toNat_ofInt,BitVec.toNat_ushiftRight,Nat.shiftRight_eq_div_pow,Int.fdiv_eq_ediv_of_nonneg _ (by omega)];have:=c.isLt;omega
 have e2:∀y:BitVec 32,BitVec.ofInt 32 (0-(y.toNat:Int))=0#32-y:=by
  intro y;apply BitVec.eq_of_toNat_eq;rw[BitVec.toNat_ofInt,BitVec.toNat_sub];have:=y.isLt;simp only[BitVec.toNat_ofNat];omega
 have e3:BitVec.ofInt 32 1=1#32:=rfl;have e4:BitVec.ofInt 32 3988292384=3988292384#32:=rfl;rw[s9,s9 ((BitVec.toNat (BitVec.ofInt 32 3988292384 &&& _):Nat):Int),s9 (0-_),s9 ((BitVec.toNat (BitVec.ofInt 32 (c.toNat:Int) &&& BitVec.ofInt 32 1):Nat):Int)];simp only[qo,e1,e2,e3,e4];rfl
section
variable {B:ag} {L:List cv} {H:ag} {K:V→ag→Prop} {q:Oq} {cap:Nat} {bs:List UInt8}
theorem JT {Kr:Am.St→Prop} {Ke:Nat→Am.St→Prop} {n i:Int}:∀(k j:Nat) (c:BitVec 32),j+k=8→Ke 2 (St.mk (ab [(3,T.v (V.int .u32 ((VD k c).toNat:Int))),(6,T.v (V.slice q bs.length cap)),(7,T.v (V.int .i64 n)),(8,T.v (V.int .i64 i))]) (ab []) H)→lo 143 9 (St.mk (ab [(3,T.v (V.int .u32 (c.toNat:Int))),(6,T.v (V.slice q bs.length cap)),(7,T.v (V.int .i64 n)),(8,T.v (V.int .i64 i)),(16,T.v (V.int .i64 (j:Int)))]) (ab []) H) Kr Ke
 |0,j,c,hj,hk=>by
  obtain rfl:j=8:=by omega
  rw[Ju];exact hk
 |k+1,j,c,hj,hk=>by
  rw[Ju,decide_eq_true (by omega),ak,aK (by omega),Ik];exact JT k (j+1) (DS c) (by omega) hk
theorem OH (hr:mn H q bs) (hb:bs.length≤1000000) {Kr:Am.St→Prop} {Ke:Nat→Am.St→Prop}:∀(k i:Nat) (c:BitVec 32),i+k=bs.length→Ke 0 (St.mk (ab [(3,T.v (V.int .u32 ((OG (bs.drop i) c).toNat:Int)))]) (ab []) H)→lo 143 3 (St.mk (ab [(3,T.v (V.int .u32 (c.toNat:Int))),(6,T.v (V.slice q bs.length cap)),(7,T.v (V.int .i64 (bs.length:Int))),(8,T.v (V.int .i64 (i:Int)))]) (ab []) H) Kr Ke
 |0,i,c,hi,hk=>by
  obtain rfl:i=bs.length:=by omega
  rw[List.drop_length] at hk;rw[Jt,decide_eq_false (by omega),ai];exact hk
 |k+1,i,c,hi,hk=>by
  have hlt:i<bs.length:=by omega
  obtain⟨h1,h2,h3⟩:=hr.at hlt;have Bq:H.inb (pb q) (po q+i*1) 1=true:=by rw[Nat.mul_one];exact h2
  have TC:H.cell (pb q) (po q+i*1)=.int .u8 (bs[i].toNat:Int):=by rw[Nat.mul_one];exact h3
  have a1:(i:Int)<(bs.length:Int):=by omega
  have a2:0≤(i:Int):=by omega
  rw[List.drop_eq_getElem_cons hlt,OG] at hk;rw[Jt];simp only[AJ,reduceIte,Nat.reduceEqDiff,a1,a2,Int.toNat_natCast,h1,Bq,TC]
  have e:IntKind.u32.wrap ((BitVec.toNat (BitVec.ofInt 32 (c.toNat:Int) ^^^ BitVec.ofInt 32 (IntKind.u32.wrap (bs[i].toNat:Int))):Nat):Int)=((c ^^^ BitVec.ofNat 32 bs[i].toNat).toNat:Int):=by
   have e1:BitVec.ofInt 32 ((bs[i].toNat:Nat):Int)=BitVec.ofNat 32 bs[i].toNat:=rfl;rw[s9,s9 ((bs[i].toNat:Nat):Int)];simp only[qo,e1]
  rw[e];refine JT 8 0 _ (by omega) ?_;simp only[AJ,reduceIte,Nat.reduceEqDiff];rw[aK (by omega)];exact OH hr hb k (i+1) (JS c bs[i]) (by omega) hk
theorem OI (hr:mn H q bs) (hb:bs.length≤1000000):K (.int .u32 (sZ bs:Int)) H→cl 143 [.slice q bs.length cap] H K:=by
 intro k;rw[Zs];refine OH hr hb bs.length 0 4294967295#32 (by omega) ?_;rw[List.drop_zero]
 have e:IntKind.u32.wrap ((BitVec.toNat (BitVec.ofInt 32 4294967295 ^^^ BitVec.ofInt 32 ((OG bs 4294967295#32).toNat:Int)):Nat):Int)=(sZ bs:Int):=by
  rw[s9];simp only[qo];rfl
 simp only[AJ,reduceIte,Nat.reduceEqDiff,e];exact k
def zw (bs:List UInt8):List UInt8:=bs++le (sZ bs) 4
theorem RB (h:az B H L) (hr:k6 B L q bs) (hb:bs.length≤100000) (k:∀q' c' H',az B H' (BY q' c' (zw bs)::L)→K (.slice q' (zw bs).length c') H'):cl 145 [.slice q bs.length cap] H K:=by
 rw[Zu];refine kg h (hr H h) (by omega) (fun q1 c1 H1 h1=> ?_);simp only[AJ,reduceIte,Nat.reduceEqDiff];refine OI (hr.bS _ H1 h1) (by omega) ?_;simp only[AJ,reduceIte,Nat.reduceEqDiff];rw[cJ (by have:=DT bs;omega)];refine eG (sZ bs) 4 h1 (by omega) (by omega) (fun q2 c2 H2 h2=> ?_);simp only[AJ,reduceIte,Nat.reduceEqDiff];exact k q2 c2 H2 h2
def nK (p:List UInt8):Option (List UInt8):=if 4≤p.length∧dI (p.drop (p.length-4))=sZ (p.take (p.length-4)) then some (p.take (p.length-4)) else none
theorem RC {p:List UInt8} (h:az B H L) (hr:k6 B L q p) (hb:p.length≤100000) (hc:p.length≤cap) (k1:nK p=none→K (.tuple [.slice none 0 0,.int .i64 (if p.length<4 then 3 else 4)]) H) (k2:∀b,nK p=some b→∀q' c' H',az B H' (BY q' c' b::L)→K (.tuple [.slice q' b.length c',.int .i64 0]) H'):cl 129 [.slice q p.length cap] H K:=by
 rw[Zk,bu (by omega) (by omega)];by_cases h4:p.length<4
 ·have e:nK p=none:=by unfold nK;rw[if_neg (by omega)]
  have SP:=k1 e;rw[if_pos h4] at SP;have a1:(p.length:Int)-4<0:=by omega
  simp only[a1,decide_true,ak];exact SP
 ·obtain⟨n,hn⟩:∃n:Nat,n=p.length-4:=⟨_,rfl⟩;have a0:(p.length:Int)-4=(n:Int):=by omega
  have a1:¬(n:Int)<0:=by omega
  have a2:0≤(n:Int):=by omega
  have a3:(n:Int)≤(p.length:Int):=by omega
  have a4:(n:Int)≤(cap:Int):=by omega
  have a5:n≤cap:=by omega
  rw[a0];simp only[AJ,reduceIte,Nat.reduceEqDiff,a1,a2,a3,a4,a5,hc,Int.toNat_natCast,Nat.mul_one]
  have xH:mn H (bP q n) (p.drop n):=by
   have:=(hr H h).part n (p.length-n) (by omega)
   rwa [List.take_of_length_le (by rw[List.length_drop];omega)] at this
  have xG:k6 B L (bP q 0) (p.take n):=by
   have:=hr.part 0 n (by omega);simpa using this
  have TK:p.length-n=(p.drop n).length:=by rw[List.length_drop]
  have Ho:n-0=(p.take n).length:=by rw[List.length_take];omega
  rw[TK,BZ xH (by rw[List.length_drop];omega)];simp only[AJ,reduceIte,Nat.reduceEqDiff,a2,a4,a5];rw[Ho];refine OI (xG H h) (by omega) ?_;simp only[AJ,reduceIte,Nat.reduceEqDiff];have hw:IntKind.u64.wrap ((sZ (p.take n):Nat):Int)=((sZ (p.take n):Nat):Int):=cJ (by have:=DT (p.take n);omega);by_cases he:dI (p.drop n)=sZ (p.take n)
  ·have e:nK p=some (p.take n):=by unfold nK;rw[if_pos ⟨by omega,by rw[←hn];exact he⟩, ←hn]
   have he':((dI (p.drop n):Nat):Int)=IntKind.u64.wrap ((sZ (p.take n):Nat):Int):=by rw[hw];omega
   simp only[he',AJ,reduceIte,Nat.reduceEqDiff,a2,a4,a5];refine kg h (xG H h) (by omega) (fun q1 c1 H1 h1=> ?_);simp only[AJ,reduceIte,Nat.reduceEqDiff];exact k2 _ e q1 c1 H1 h1
  ·have e:nK p=none:=by unfold nK;rw[if_neg (fun hh=>he (by rw[hn];exact hh.2))]
   have SP:=k1 e;rw[if_neg h4] at SP;have he':¬((dI (p.drop n):Nat):Int)=IntKind.u64.wrap ((sZ (p.take n):Nat):Int):=by rw[hw];omega
   simp only[he',decide_false,Bool.not_false,ak];exact SP
end
structure Sh where
 cU:Nat
 ep:Nat
 seq:Nat
 ao:Nat
 fr:Nat
 data:List UInt8
 deriving DecidableEq
structure Sh.cY (s:Sh):Prop where
 k1:1≤s.cU
 k3:s.cU≤3
 ep:s.ep<281474976710656
 seq:s.seq<281474976710656
 ao:s.ao<65536
 fr:s.fr≤64
 dl:s.data.length≤64
 d0:s.cU=1∨s.data.length=0
instance (s:Sh):Decidable s.cY:=
 if h:1≤s.cU∧s.cU≤3∧s.ep<281474976710656∧s.seq<281474976710656∧s.ao<65536∧s.fr≤64∧s.data.length≤64∧(s.cU=1∨s.data.length=0) then
  .isTrue ⟨h.1,h.2.1,h.2.2.1,h.2.2.2.1,h.2.2.2.2.1,h.2.2.2.2.2.1,h.2.2.2.2.2.2.1,h.2.2.2.2.2.2.2⟩
 else .isFalse fun f=>h ⟨f.k1,f.k3,f.ep,f.seq,f.ao,f.fr,f.dl,f.d0⟩
def gi (s:Sh):List UInt8:=((((([]++le s.cU 1)++le s.ep 6)++le s.seq 6)++le s.ao 2)++le s.fr 1)++le s.data.length 2++s.data
def eh (s:Sh):List UInt8:=zw (gi s++List.replicate (91-(gi s).length) 0)++[90]
theorem we (s:Sh):(gi s).length=18+s.data.length:=by simp [gi];omega
theorem lQ (s:Sh) (h:s.data.length≤64):(eh s).length=96:=by simp [eh,zw,we];omega
structure Rd6 where
 k:Nat×RS
 e:Nat×RS
 s:Nat×RS
 a:Nat×RS
 f:Nat×RS
 n:Nat×RS
 d:List UInt8×RS
def DU (b:List UInt8):Rd6:=
 let k:=(RS.mk b false).num 1 3
 let e:=k.2.num 6 281474976710656
 let s:=e.2.num 6 281474976710656
 let a:=s.2.num 2 65536
 let f:=a.2.num 1 64
 let n:=f.2.num 2 64
 ⟨k,e,s,a,f,n,n.2.take n.1⟩
def Rd6.sh (x:Rd6):Sh:=⟨x.k.1,x.e.1,x.s.1,x.a.1,x.f.1,x.d.1⟩
def fu (p:List UInt8):Option Sh:=
 if p.length=96∧p.getD 95 0=90 then match nK (p.take 95) with
  |none=>none
  |some b=>if (DU b).d.2.bK=false∧(DU b).sh.cY∧eh (DU b).sh=p then some (DU b).sh else none
 else none
theorem ta {p:List UInt8} {s:Sh} (h:fu p=some s):s.cY∧eh s=p:=by
 unfold fu at h;split at h
 ·split at h
  ·cases h
  ·split at h
   ·rename_i h2;cases h;exact h2.2
   ·cases h
 ·cases h
theorem wg {bs l:List UInt8} {n size most:Nat} (hn:n<256 ^ size) (hm:n≤most):(RS.mk (le n size++l) false).num size most=(n,⟨l,false⟩):=by
 have h1:((le n size++l).take size)=le n size:=by rw[List.take_left' (DL n size)]
 have h2:((le n size++l).drop size)=l:=by rw[List.drop_left' (DL n size)]
 have h3:dI (le n size)=n:=by rw[xN,Nat.mod_eq_of_lt hn]
 rw[kh (by simp) (by rw[h1,h3];exact hm),h1,h2,h3]
theorem OJ {s:Sh} (h:s.cY) (z:List UInt8):(DU (gi s++z)).sh=s∧(DU (gi s++z)).d.2.bK=false:=by
 have e:gi s++z=le s.cU 1++(le s.ep 6++(le s.seq 6++(le s.ao 2++(le s.fr 1++(le s.data.length 2++(s.data++z)))))):=by simp [gi]
 have hk:=h.k3;have h1:=h.ep;have h2:=h.seq;have h3:=h.ao;have h4:=h.fr;have h5:=h.dl;rw[e];unfold DU Rd6.sh;simp only;rw[wg (bs:=[]) (by omega) hk,wg (bs:=[]) (by omega) (by omega),wg (bs:=[]) (by omega) (by omega),wg (bs:=[]) (by omega) (by omega),wg (bs:=[]) (by omega) h4,wg (bs:=[]) (by omega) h5];have hz:¬s.data.length+z.length<s.data.length:=by omega
 simp [RS.take,hz]
theorem Il {s:Sh} (h:s.cY):fu (eh s)=some s:=by
 have hl:=lQ s h.dl;have hb:=we s;have SH:=h.dl;obtain⟨b,hbd⟩:∃b,b=gi s++List.replicate (91-(gi s).length) 0:=⟨_,rfl⟩;have Br:b.length=91:=by rw[hbd];simp [hb];omega
 have e0:eh s=b++(le (sZ b) 4++[90]):=by rw[hbd];simp [eh,zw]
 have e1:(eh s).take 95=b++le (sZ b) 4:=by rw[e0, ←List.append_assoc,List.take_left' (by simp [Br])]
 have e2:(eh s).getD 95 0=90:=by
  rw[e0, ←List.append_assoc,List.getD_eq_getElem?_getD,List.getElem?_append_right (by simp [Br])];simp [Br]
 have e3:nK (b++le (sZ b) 4)=some b:=by
  have hlen:(b++le (sZ b) 4).length-4=b.length:=by simp
  unfold nK;rw[hlen,List.take_left' rfl,List.drop_left' rfl,xN,Nat.mod_eq_of_lt (by have:=DT b;omega)];simp
 obtain⟨r1,r2⟩:=OJ h (List.replicate (91-(gi s).length) 0);rw[←hbd] at r1 r2;unfold fu;rw[if_pos ⟨hl,e2⟩,e1,e3];simp only[r1,r2];rw[if_pos ⟨trivial,h,trivial⟩]
theorem tc {s:Sh} (hl:s.data.length≤64) {n:Int} (h:n<96):fu (gY (eh s) n)=none:=by
 unfold fu;rw[if_neg];rintro⟨h1,h2⟩;have hlen:=lQ s hl
 have:(gY (eh s) n).getD 95 0=255:=by
  unfold gY;rw[List.getD_eq_getElem?_getD,List.getElem?_append_right (by simp;omega),List.getElem?_replicate,if_pos (by simp [hlen];omega)];rfl
 rw[this] at h2;exact absurd h2 (by decide)
section
variable {B:ag} {L:List cv} {H:ag} {K:V→ag→Prop} {q:Oq} {cap:Nat}
def AF (s:Sh) (q:Oq) (c:Nat):V:=.agg (fC (s.cU:Int) (s.ep:Int) (s.seq:Int) (s.ao:Int) ((s.fr:Int)-1) q s.data.length c)
theorem OK (s:Sh):K (.bool (decide s.cY)) H→cl 132 [AF s q cap] H K:=by
 intro k;unfold AF;rw[Zn]
 have e:(decide ((s.cU:Int)≥1)&&(decide ((s.cU:Int)≤3)&&(decide ((s.ep:Int)<281474976710656)&&(decide ((s.seq:Int)<281474976710656)&&(decide ((s.ao:Int)≥0)&&(decide ((s.ao:Int)<65536)&&
  (decide ((s.fr:Int)-1≥ -1)&&(decide ((s.fr:Int)-1<64)&&(decide ((s.data.length:Int)≤64)&&bif !decide ((s.cU:Int)=1) then decide ((s.data.length:Int)=0) else true)))))))))=decide s.cY:=by
  by_cases hk:s.cU=1
  ·have:(s.cU:Int)=1:=by omega
   simp only[this,decide_true,Bool.not_true,cond_false,Bool.and_true];simp only[←Bool.decide_and];refine decide_eq_decide.2 ⟨fun h=>⟨by omega,by omega,by omega,by omega,by omega,by omega,by omega,.inl hk⟩,fun h=> ?_⟩;obtain⟨h1,h2,h3,h4,h5,h6,h7,h8⟩:=h;omega
  ·have:¬(s.cU:Int)=1:=by omega
   simp only[this,decide_false,Bool.not_false,cond_true];simp only[←Bool.decide_and];refine decide_eq_decide.2 ⟨fun h=>⟨by omega,by omega,by omega,by omega,by omega,by omega,by omega,.inr (by omega)⟩,fun h=> ?_⟩;obtain⟨h1,h2,h3,h4,h5,h6,h7,h8⟩:=h;omega
 rw[e];exact k
theorem LB {bs d:List UInt8} {dq:Oq} {dc:Nat} (h:az B H (BY q cap bs::L)) (hr:k6 B L dq d) (hb:bs.length≤1000000) (hd:d.length≤1000000) (k:∀q' c' H',az B H' (BY q' c' (bs++le d.length 2++d)::L)→K (.slice q' (bs++le d.length 2++d).length c') H'):cl 144 [.slice q bs.length cap,.slice dq d.length dc] H K:=by
 rw[Zt,cJ (by omega)];refine eG d.length 2 h (by omega) (by omega) (fun q2 c2 H2 h2=> ?_);simp only[AJ,reduceIte,Nat.reduceEqDiff];have:=hr.bS (BY q2 c2 (bs++le d.length 2)) H2 h2;exact v7 h2 (this.src dc) (by simp;omega) (fun q3 c3 H3 h3=>k q3 c3 H3 h3)
theorem JU {s:Sh} (h:az B H L) (hr:k6 B L q s.data) (h1:s.cU<256) (h2:s.ep<18446744073709551616) (h3:s.seq<18446744073709551616) (h4:s.ao<1000000000) (h5:s.fr≤256) (h6:s.data.length≤64) (k:∀q' c' H',az B H' (BY q' c' (eh s)::L)→K (.slice q' (eh s).length c') H'):cl 133 [AF s q cap] H K:=by
 unfold AF;rw[Zo,cJ (n:=s.cU) (by omega),cJ (n:=s.ao) (by omega)];have e5:IntKind.i64.wrap ((s.fr:Int)-1+1)=((s.fr:Nat):Int):=by rw[bu (by omega) (by omega)];omega
 rw[e5,cJ (n:=s.fr) (by omega)];refine eG s.cU 1 (bs:=[]) (kD h) (by omega) (by simp) (fun q1 c1 H1 h1=> ?_);simp only[AJ,reduceIte,Nat.reduceEqDiff];refine eG s.ep 6 h1 (by omega) (by simp) (fun q2 c2 H2 h2=> ?_);simp only[AJ,reduceIte,Nat.reduceEqDiff];refine eG s.seq 6 h2 (by omega) (by simp) (fun q3 c3 H3 h3=> ?_);simp only[AJ,reduceIte,Nat.reduceEqDiff];refine eG s.ao 2 h3 (by omega) (by simp) (fun q4 c4 H4 h4=> ?_);simp only[AJ,reduceIte,Nat.reduceEqDiff];refine eG s.fr 1 h4 (by omega) (by simp) (fun q5 c5 H5 h5=> ?_);simp only[AJ,reduceIte,Nat.reduceEqDiff];refine LB h5 hr (by simp) (by omega) (fun q6 c6 H6 h6=> ?_);have eb:((((([]++le s.cU 1)++le s.ep 6)++le s.seq 6)++le s.ao 2)++le s.fr 1)++le s.data.length 2++s.data=gi s:=rfl;rw[eb] at h6⊢;have Br:=we s;have e7:IntKind.i64.wrap (91-((gi s).length:Int))=((91-(gi s).length:Nat):Int):=by rw[bu (by omega) (by omega)];omega
 simp only[AJ,reduceIte,Nat.reduceEqDiff,e7];refine h6.Ro FO (by kernel_rfl) (fun v hv=>by rw[List.mem_singleton] at hv;subst hv;rfl) rfl (by omega) (by omega) (by rw[Int.toNat_natCast];omega) (fun q7 c7 H7 h7=> ?_);rw[Int.toNat_natCast] at h7⊢
 have h8:az B H7 (BY q7 c7 (gi s++List.replicate (91-(gi s).length) 0)::L):=by
  have ez:hO (91-(gi s).length) [V.int .u8 0]=bj (List.replicate (91-(gi s).length) 0):=by
   generalize 91-(gi s).length=n
   induction n with
   |zero=>rfl
   |succ n ih=>
    rw[List.replicate_succ];show [V.int .u8 0]++hO n [V.int .u8 0]=V.int .u8 ((0:UInt8).toNat:Int)::bj (List.replicate n 0)
    rw[ih];rfl
  rw[ez, ←jD] at h7;unfold BY Y4;rw[List.length_append,List.length_replicate];exact h7
 have e9:(gi s).length+(91-(gi s).length)=(gi s++List.replicate (91-(gi s).length) 0).length:=by simp
 rw[e9];refine RB h8 k6.byt (by simp;omega) (fun q9 c9 H9 h9=> ?_);simp only[AJ,reduceIte,Nat.reduceEqDiff];have Hn:(zw (gi s++List.replicate (91-(gi s).length) 0)).length≤1000:=by simp [zw];omega
 have QP:V.int .u8 90=V.int .u8 ((90:UInt8).toNat:Int):=rfl;rw[QP];exact FP (h9.ord [1]).drop 90 (by omega) (fun q10 c10 H10 AP=>k q10 c10 H10 AP)
end
section
variable {B:ag} {L:List cv} {H:ag} {K:V→ag→Prop} {q:Oq} {cap:Nat} {id:Nat} {s:RS}
theorem LC (h:nJ B H L id s) (most:Nat) (hm:most≤1000) (k:∀q' c' H',nJ B H' (BY q' c' ((s.num 2 most).2.take (s.num 2 most).1).1::L) id ((s.num 2 most).2.take (s.num 2 most).1).2→K (.slice q' ((s.num 2 most).2.take (s.num 2 most).1).1.length c') H'):cl 130 [.aj (some (id,0)),.int .i64 (most:Int)] H K:=by
 rw[Zl,Option.isNone_some,ai,cJ (by omega)];refine kF h 2 most (by omega) (fun H1 h1=> ?_);have hn:(s.num 2 most).1≤most:=by unfold RS.num;split<;>simp only<;>omega
 simp only[AJ,reduceIte,Nat.reduceEqDiff];rw[bu (by omega) (by omega)];refine F3 h1 (s.num 2 most).1 (fun q2 c2 H2 h2 xG Hl=> ?_);have hl:(((s.num 2 most).2.take (s.num 2 most).1).1).length≤1000:=by unfold RS.take;split<;>simp;omega
 obtain⟨q3,c3,hc3,Qk,MU⟩:=h2.ex;simp only[AJ,reduceIte,Nat.reduceEqDiff];refine kg MU (xG H2 MU.drop) (by omega) (fun q4 c4 H4 h4=> ?_);simp only[AJ,reduceIte,Nat.reduceEqDiff];exact k q4 c4 H4 ⟨q3,c3,hc3,Qk.bS _,h4.swap⟩
theorem RD (h:nJ B H L id s):K (.bool s.bK) H→cl 131 [.aj (some (id,0))] H K:=by
 intro k;obtain⟨q,c,hc,hr,hs⟩:=h.ex;have hg:=hs.get;rw[Zm];simp only[AJ,reduceIte,Nat.reduceEqDiff,Option.isSome_some,Option.isNone_some,dE hg,aY hg,aO,Nat.zero_add,cond_true,if_true,Bool.not_false];simpa [Bc] using k
theorem nJ.Z3 (h:nJ B H L id s):az B H L:=by
 obtain⟨q,c,hc,hr,hs⟩:=h.ex;exact hs.drop
theorem F4 {p:List UInt8} (h:az B H L) (hr:k6 B L q p) (hb:p.length≤100000) (hc:p.length≤cap) (k1:fu p=none→∀e:Int,e≠0→∀H',az B H' L→K (.tuple [.agg (fC 0 0 0 0 0 none 0 0),.int .i64 e]) H') (k2:∀s,fu p=some s→∀q' c' H',az B H' (BY q' c' s.data::L)→K (.tuple [AF s q' c',.int .i64 0]) H'):cl 106 [.slice q p.length cap] H K:=by
 rw[Zb];by_cases KU:p.length=96
 case neg=>
  have e:fu p=none:=by unfold fu;rw[if_neg (fun hh=>KU hh.1)]
  have a1:¬(p.length:Int)=96:=by omega
  simp only[a1,decide_false,Bool.not_false,Bool.not_true,aO,Bool.false_eq_true,if_false,aw,cond_false,ak];exact k1 e 3 (by decide) H h
 have a1:(p.length:Int)=96:=by omega
 obtain⟨g1,g2,g3⟩:=(hr H h).at (i:=95) (by omega);have g2':H.inb (pb q) (po q+95) 1=true:=g2;have g3':H.cell (pb q) (po q+95)=.int .u8 (p[95].toNat:Int):=g3;have a2:(95:Int)<96:=by decide
 simp only[a1,a2,decide_true,Bool.not_true,Bool.not_false,aO,if_true,g1,g2',g3',AJ,reduceIte,Nat.reduceEqDiff,cond_true];have hgd:p.getD 95 0=p[95]:=by rw[List.getD_eq_getElem?_getD,List.getElem?_eq_getElem (by omega)];rfl
 by_cases h90:p[95]=90
 case neg=>
  have e:fu p=none:=by unfold fu;rw[if_neg (fun hh=>h90 (by rw[←hgd];exact hh.2))]
  have a3:¬(p[95].toNat:Int)=90:=by
   intro hh;apply h90;apply UInt8.toNat_inj.1;have:(90:UInt8).toNat=90:=rfl;omega
  simp only[a3,decide_false,Bool.not_false,ak];exact k1 e 3 (by decide) H h
 have a3:(p[95].toNat:Int)=90:=by rw[h90];rfl
 have a4:(95:Int)≤(cap:Int):=by omega
 have a5:95≤cap:=by omega
 simp only[a3,a4,a5,decide_true,Bool.not_true,ai,Bool.true_or,Bool.true_and,aw,AJ,reduceIte,Nat.reduceEqDiff]
 have acY:k6 B L (bP q 0) (p.take 95):=by
  have:=hr.part 0 95 (by omega);simpa using this
 have aaw:(95:Nat)=(p.take 95).length:=by rw[List.length_take];omega
 have key:∀{K:V→ag→Prop},(nK (p.take 95)=none→K (.tuple [.slice none 0 0,.int .i64 (if (p.take 95).length<4 then 3 else 4)]) H)→(∀b,nK (p.take 95)=some b→∀q' c' H',az B H' (BY q' c' b::L)→K (.tuple [.slice q' b.length c',.int .i64 0]) H')→
  cl 129 [.slice (bP q 0) 95 (cap-0)] H K:=by
  intro K k1 k2;have:=RC (cap:=cap-0) h acY (by omega) (by omega) k1 k2
  rwa [←aaw] at this
 refine key (fun ho=> ?_) (fun b ho q1 c1 H1 h1=> ?_)
 ·have e:fu p=none:=by unfold fu;rw[if_pos ⟨KU,by rw[hgd];exact h90⟩,ho]
  have a6:¬(4:Int)=0:=by decide
  rw[←aaw];have a7:¬(95<4):=by decide
  rw[if_neg a7];simp only[AJ,reduceIte,Nat.reduceEqDiff,a6];exact k1 e 4 (by decide) H h
 ·have er:fu p=if (DU b).d.2.bK=false∧(DU b).sh.cY∧eh (DU b).sh=p then some (DU b).sh else none:=by unfold fu;rw[if_pos ⟨KU,by rw[hgd];exact h90⟩,ho]
  have hbc:=(h1.MY).2.2.1;simp only[AJ,reduceIte,Nat.reduceEqDiff];refine JR h1 (fun H h=>h.ja) hbc (fun id H2 h2=> ?_);have n3:(3:Int)=((3:Nat):Int):=rfl;have n1:(1:Int)=((1:Nat):Int):=rfl;have n6:(6:Int)=((6:Nat):Int):=rfl;have n2:(2:Int)=((2:Nat):Int):=rfl;have n48:(281474976710656:Int)=((281474976710656:Nat):Int):=rfl;have n16:(65536:Int)=((65536:Nat):Int):=rfl;have n64:(64:Int)=((64:Nat):Int):=rfl;simp only[AJ,reduceIte,Nat.reduceEqDiff];refine kF h2 1 3 (by omega) (fun H3 h3=> ?_);simp only[AJ,reduceIte,Nat.reduceEqDiff];refine kF h3 6 281474976710656 (by omega) (fun H4 h4=> ?_);simp only[AJ,reduceIte,Nat.reduceEqDiff];refine kF h4 6 281474976710656 (by omega) (fun H5 h5=> ?_);simp only[AJ,reduceIte,Nat.reduceEqDiff];refine kF h5 2 65536 (by omega) (fun H6 h6=> ?_);simp only[AJ,reduceIte,Nat.reduceEqDiff];refine kF h6 1 64 (by omega) (fun H7 h7=> ?_);simp only[AJ,reduceIte,Nat.reduceEqDiff];refine LC h7 64 (by omega) (fun q8 c8 H8 h8=> ?_);obtain⟨x,hx⟩:∃x,x=DU b:=⟨_,rfl⟩;have bnd:∀(r:RS) (size most:Nat),(r.num size most).1≤most:=by intro r size most;unfold RS.num;split<;>simp only<;>omega
  have e1:(RS.mk b false).num 1 3=x.k:=by subst hx;simp only[DU]
  have e2:x.k.2.num 6 281474976710656=x.e:=by subst hx;simp only[DU]
  have e3:x.e.2.num 6 281474976710656=x.s:=by subst hx;simp only[DU]
  have e4:x.s.2.num 2 65536=x.a:=by subst hx;simp only[DU]
  have e5:x.a.2.num 1 64=x.f:=by subst hx;simp only[DU]
  have e6:x.f.2.num 2 64=x.n:=by subst hx;simp only[DU]
  have e7:x.n.2.take x.n.1=x.d:=by subst hx;simp only[DU]
  have b1:x.k.1≤3:=by rw[←e1];exact bnd _ _ _
  have b2:x.e.1≤281474976710656:=by rw[←e2];exact bnd _ _ _
  have b3:x.s.1≤281474976710656:=by rw[←e3];exact bnd _ _ _
  have b4:x.a.1≤65536:=by rw[←e4];exact bnd _ _ _
  have b5:x.f.1≤64:=by rw[←e5];exact bnd _ _ _
  have b6:x.n.1≤64:=by rw[←e6];exact bnd _ _ _
  have b7:x.d.1.length≤64:=by rw[←e7];unfold RS.take;split<;>simp;omega
  rw[←hx] at er;simp only[e1,e2,e3,e4,e5,e6,e7] at h8⊢;have w1:IntKind.u8.wrap (x.k.1:Int)=(x.k.1:Int):=IntWalk.u8_in _ (by omega);have w2:IntKind.i64.wrap (x.a.1:Int)=(x.a.1:Int):=bu (by omega) (by omega);have w3:IntKind.i64.wrap (x.f.1:Int)=(x.f.1:Int):=bu (by omega) (by omega);have w4:IntKind.i64.wrap ((x.f.1:Int)-1)=(x.f.1:Int)-1:=bu (by omega) (by omega);simp only[AJ,reduceIte,Nat.reduceEqDiff,w1,w2,w3,w4];have hV:V.agg (fC (x.k.1:Int) (x.e.1:Int) (x.s.1:Int) (x.a.1:Int) ((x.f.1:Int)-1) q8 x.d.1.length c8)=AF x.sh q8 c8:=rfl;rw[hV];have hs8:=h8.Z3;have TF:az B H8 (BY q8 c8 x.d.1::L):=(hs8.ord [1]).drop;refine RD h8 ?_;simp only[AJ,reduceIte,Nat.reduceEqDiff];by_cases Au:x.d.2.bK=true
  ·have e:fu p=none:=by rw[er,if_neg (fun hh=>by rw[hh.1] at Au;cases Au)]
   simp only[Au,Bool.not_true,ai,and_self,ak];exact k1 e 3 (by decide) H8 TF.drop
  have aax:x.d.2.bK=false:=by simpa using Au
  simp only[aax,Bool.not_false,ak];refine OK x.sh ?_;simp only[AJ,reduceIte,Nat.reduceEqDiff];by_cases hf:x.sh.cY
  case neg=>
   have e:fu p=none:=by rw[er,if_neg (fun hh=>hf hh.2.1)]
   simp only[hf,decide_false,Bool.not_false,Bool.not_true,ai,and_self,ak];exact k1 e 3 (by decide) H8 TF.drop
  simp only[hf,decide_true,Bool.not_true,Bool.not_false,ak];have hst:∀{H':ag},mn H' q p→eY H' q p.length=true∧eZ H' q p.length=cK p:=fun h=>⟨h.eY,h.eZ⟩
  have T:∀(K:V→ag→Prop),(∀q' c' H',az B H' (BY q' c' (eh x.sh)::BY q8 c8 x.d.1::L)→K (.slice q' (eh x.sh).length c') H')→cl 133 [AF x.sh q8 c8] H8 K:=fun K k=>
   JU TF (fun H h=>h.ja) (show x.k.1<256 by omega) (show x.e.1<_ by omega) (show x.s.1<_ by omega) (show x.a.1<_ by omega) (show x.f.1≤256 by omega) b7 k
  have D:(!mv (cK (eh x.sh)) (cK p))= !decide (eh x.sh=p):=by
   rw[qi]
  have hp8:=hst (((hr.bS _) H8 TF))
  have fin:∀H',az B H' (BY q8 c8 x.d.1::L)→br (!decide (eh x.sh=p)) (K (.tuple [.agg (fC 0 0 0 0 0 none 0 0),.int .i64 3]) H') (K (.tuple [AF x.sh q8 c8,.int .i64 0]) H'):=by
   intro H' h';by_cases hl:eh x.sh=p
   ·have e:fu p=some x.sh:=by rw[er,if_pos ⟨aax,hf,hl⟩]
    simp only[hl,decide_true,Bool.not_true,ai];exact k2 _ e q8 c8 H' h'
   ·have e:fu p=none:=by rw[er,if_neg (fun hh=>hl hh.2.2)]
    simp only[hl,decide_false,Bool.not_false,ak];exact k1 e 3 (by decide) H' h'.drop
  refine⟨T _ (fun q9 c9 H9 h9=> ?_), ?_⟩
  ·have g9:=hst (((hr.bS _).bS _) H9 h9);have l9:=(h9.ja);simp only[AJ,reduceIte,Nat.reduceEqDiff,l9.eY,l9.eZ,g9.1,g9.2,D];exact fin H9 h9.drop
  ·simp only[hp8.1,aw,hp8.2];refine T _ (fun q9 c9 H9 h9=> ?_);have l9:=(h9.ja);simp only[AJ,reduceIte,Nat.reduceEqDiff,l9.eY,l9.eZ,D];exact fin H9 h9.drop
end
structure Fd where
 b:Nat
 p:Nat
 s:Sh
def iz (i:Nat) (mQ:Int):List (List UInt8)→Nat→List Fd
 |[],_=>[]
 |d::l,p=>match fu d with
  |none=>iz i mQ l (p+1)
  |some s=>if s.cU≠3∧(s.ao:Int)≤mQ then ⟨i,p,s⟩::iz i mQ l (p+1) else iz i mQ l (p+1)
def Bk.eQ (b:Bk) (i:Nat) (mQ:Int):List Fd:=if b.cw=true then [] else iz i mQ b.pg 0
structure Rf where
 f:Fd
 q:Oq
 c:Nat
def Rf.cs (r:Rf):List V:=kQ (r.f.b:Int) (r.f.p:Int) (r.f.s.cU:Int) (r.f.s.ep:Int) (r.f.s.seq:Int) (r.f.s.ao:Int) ((r.f.s.fr:Int)-1) r.q r.f.s.data.length r.c
def Rf.bX (r:Rf):cv:=BY r.q r.c r.f.s.data
theorem wi (rs:List Rf):Rv pj (rs.map Rf.cs):=by
 intro c hc;obtain⟨r,_,rfl⟩:=List.mem_map.1 hc;rfl
structure Rz where
 i:Nat
 q:Oq
 c:Nat
 rs:List Rf
def Rz.bX (z:Rz):cv:=bw [Rw 130 8 z.q z.c (z.rs.map Rf.cs),bw (z.rs.map Rf.bX)]
theorem VE:fH eF 158=some (130,8,80,kQ 0 0 0 0 0 0 0 none 0 0):=by kernel_rfl
theorem VF:iT (bh eF 158)=true:=by kernel_rfl
structure Ar.rd (a:Ar) (g:cn):Prop where
 on:a.off=false
 n:(a.bs.length:Int)=g.aE
 p:a.aA=g.aA
 len:∀b∈a.bs,(b.pg.length:Int)≤a.aA
 d:∀b∈a.bs,∀d∈b.pg,d.length=96
section
variable {B:ag} {L:List cv} {H:ag} {K:V→ag→Prop} {aN:Nat} {a:Ar} {m:Gm} {i:Nat}
theorem OL {a:Ar} {g:cn} (hr:a.rd g) {i k:Nat} (hi:i<a.bs.length) (hk:k<(a.bs[i]).pg.length):gA a i k=if (a.bs[i]).cw=true then (4,[]) else (0,(a.bs[i]).pg[k]):=by
 have hl:=hr.len _ (List.getElem_mem hi);have h1:¬a.aA≤(k:Int):=by omega
 unfold gA;simp only[hr.on,Bool.false_eq_true,if_false,h1,List.getElem?_eq_getElem hi,List.getElem?_eq_getElem hk]
theorem nL (hm:dA B L m) (hg:m.g.In) (hr:a.rd m.g) (tK:a.aA≤32) (hi:i<a.bs.length) {Kr:Am.St→Prop} {Ke:Nat→Am.St→Prop}:∀(k p:Nat) (rs:List Rf) {q:Oq} {c:Nat} {H:ag},p+k=(a.bs[i]).pg.length→rs.length≤p→az B H (Rw 130 8 q c (rs.map Rf.cs)::bw (rs.map Rf.bX)::dJ aN a::L)→(∀q' c' (rs':List Rf) H',rs'.map Rf.f=rs.map Rf.f++(if (a.bs[i]).cw=true then [] else iz i m.g.cap ((a.bs[i]).pg.drop p) p)→az B H' (Rw 130 8 q' c' (rs'.map Rf.cs)::bw (rs'.map Rf.bX)::dJ aN a::L)→Ke 0 (St.mk (ab [(8,T.v (V.slice q' rs'.length c'))]) (ab []) H'))→lo 98 9 (St.mk (ab [(0,T.v (V.aj (some (aN,0)))),(2,T.v (V.int .i64 (i:Int))),(4,T.lp 4 0),(8,T.v (V.slice q rs.length c)),(42,T.v (V.int .i64 ((a.bs[i]).pg.length:Int))),(43,T.v (V.int .i64 (p:Int)))]) (ab [(4,aR.cells 26 (dN m.g.aE m.g.aA m.g.aH m.q m.g.bK.length m.c))]) H) Kr Ke
 |0,p,rs,q,c,H,hpk,SQ,h,hk=>by
  obtain rfl:p=(a.bs[i]).pg.length:=by omega
  rw[N2,decide_eq_false (by omega),ai];refine hk q c rs H ?_ h;rw[List.drop_length];split<;>simp [iz]
 |k+1,p,rs,q,c,H,hpk,SQ,h,hk=>by
  have hlt:p<(a.bs[i]).pg.length:=by omega
  have a1:(p:Int)<((a.bs[i]).pg.length:Int):=by omega
  have hrd:=OL hr hi hlt;have hlen:=hr.len _ (List.getElem_mem hi);have KU:=hr.d _ (List.getElem_mem hi) _ (List.getElem_mem hlt);have hA:=h.ord [2];rw[N2,decide_eq_true a1,ak];refine FZ hA hi (fun d hd=>by rw[hr.d _ (List.getElem_mem hi) _ hd];omega) p (fun q1 c1 H1 h1=> ?_);rw[hrd] at h1⊢;have a2:IntKind.i64.wrap ((p:Int)+1)=((p+1:Nat):Int):=aK (by omega);by_cases hh:(a.bs[i]).cw=true
  ·simp only[hh,if_true] at h1 hk⊢;simp only[AJ,reduceIte,Nat.reduceEqDiff,a2];exact nL hm hg hr tK hi k (p+1) rs (by omega) (by omega) (h1.drop.ord [1,1]) (fun q' c' rs' H' e h'=>hk q' c' rs' H' (by simpa [hh] using e) h')
  ·simp only[hh,Bool.false_eq_true,if_false] at h1 hk⊢;have a3:¬(0:Int)=4:=by decide
   simp only[AJ,reduceIte,Nat.reduceEqDiff,a3];rw[List.drop_eq_getElem_cons hlt] at hk;have hcap:=(h1.MY).2.2.1;have adl:az B H1 (Rw 130 8 q c (rs.map Rf.cs)::bw (rs.map Rf.bX)::dJ aN a::L):=h1.drop.ord [1,1];refine F4 h1 (fun H h=>h.ja) (by omega) hcap (fun hnone e he H2 h2=> ?_) (fun s hs q2 c2 H2 h2=> ?_)
   ·have he':¬e=0:=he;simp only[AJ,reduceIte,Nat.reduceEqDiff,f125,FE,zd,ze,zf,zg,zh,zi,he',a2];refine nL hm hg hr tK hi k (p+1) rs (by omega) (by omega) (h2.drop.ord [1,1]) (fun q' c' rs' H' e2 h'=>hk q' c' rs' H' ?_ h');rw[iz,hnone];simpa [hh] using e2
   ·unfold AF;simp only[AJ,reduceIte,Nat.reduceEqDiff,f125,FE,zd,ze,zf,zg,zh,zi];by_cases hk3:s.cU=3
    ·have Wt:(s.cU:Int)=3:=by omega
     simp only[Wt,AJ,reduceIte,Nat.reduceEqDiff,a2];refine nL hm hg hr tK hi k (p+1) rs (by omega) (by omega) (h2.drop.drop.ord [1,1]) (fun q' c' rs' H' e2 h'=>hk q' c' rs' H' ?_ h');rw[iz,hs];simp only[hk3];simpa [hh] using e2
    ·have Wt:¬(s.cU:Int)=3:=by omega
     simp only[Wt,AJ,reduceIte,Nat.reduceEqDiff];have hmm:dA B (BY q2 c2 s.data::BY q1 c1 (a.bs[i]).pg[p]::dJ aN a::Rw 130 8 q c (rs.map Rf.cs)::bw (rs.map Rf.bX)::L) m:=((((hm.bS _).bS _).bS _).bS _).bS _;have:=uQ (K:= ?_) h2 hmm hg ?_
     ·exact this
     intro H3 h3;simp only[AJ,reduceIte,Nat.reduceEqDiff,a2];by_cases hle:(s.ao:Int)≤m.g.cap
     ·simp only[hle,decide_true,ak];have h4:az B H3 (Rw 130 8 q c (rs.map Rf.cs)::bw (rs.map Rf.bX)::BY q2 c2 s.data::dJ aN a::L):=(h3.ord [1]).drop.ord [2,2]
      have hp:=h4.v8 (K:=fun q n c H'=>lo 98 9
       (St.mk (ab [(0,T.v (V.aj (some (aN,0)))),(2,T.v (V.int .i64 (i:Int))),(4,T.lp 4 0),(8,T.v (V.slice q n c)),(42,T.v (V.int .i64 ((a.bs[i]).pg.length:Int))),(43,T.v (V.int .i64 ((p+1:Nat):Int)))])
        (ab [(4,aR.cells 26 (dN m.g.aE m.g.aA m.g.aH m.q m.g.bK.length m.c))]) H') Kr Ke) (e2:=130) (c:=(Rf.mk ⟨i,p,s⟩ q2 c2).cs) VE VF
       (fun v hv=>by simp only[kQ,List.mem_cons,List.not_mem_nil,or_false] at hv;rcases hv with rfl|rfl|rfl|rfl|rfl|rfl|rfl|rfl<;>rfl) rfl (by omega) (wi rs).pw rfl
       (fun v hv=>by simp only[Rf.cs,kQ,List.mem_cons,List.not_mem_nil,or_false] at hv;rcases hv with rfl|rfl|rfl|rfl|rfl|rfl|rfl|rfl<;>rfl) (by rw[List.length_map];omega) (fun q' c' H' h'=> ?_)
      ·rw[List.length_map] at hp;exact hp
      ·have e1:rs.map Rf.cs++[(Rf.mk ⟨i,p,s⟩ q2 c2).cs]=(rs++[Rf.mk ⟨i,p,s⟩ q2 c2]).map Rf.cs:=by simp
       rw[e1] at h';have e2:(rs.map Rf.cs).length+1=(rs++[Rf.mk ⟨i,p,s⟩ q2 c2]).length:=by simp
       rw[e2]
       have h5:az B H' (Rw 130 8 q' c' ((rs++[Rf.mk ⟨i,p,s⟩ q2 c2]).map Rf.cs)::bw ((rs++[Rf.mk ⟨i,p,s⟩ q2 c2]).map Rf.bX)::dJ aN a::L):=by
        have h6:=(h'.ord [2,1]).mL.bigPerm (l':=(rs++[Rf.mk ⟨i,p,s⟩ q2 c2]).map Rf.bX) (by
         show (BY q2 c2 s.data::rs.map Rf.bX).Perm _
         rw[List.map_append]
         exact(List.perm_append_comm (l₁:=[BY q2 c2 s.data]) (l₂:=rs.map Rf.bX)))
        exact h6.swap
       refine nL hm hg hr tK hi k (p+1) _ (by omega) (by simp;omega) h5 (fun q3 c3 rs' H3 e3 h3=>hk q3 c3 rs' H3 ?_ h3);rw[e3,iz,hs];simp only[hk3,hle,ne_eq,not_false_eq_true,and_self,if_true,hh,if_false,Bool.false_eq_true];simp
     ·simp only[hle,decide_false,ai];refine nL hm hg hr tK hi k (p+1) rs (by omega) (by omega) (h3.drop.drop.ord [1,1]) (fun q' c' rs' H' e2 h'=>hk q' c' rs' H' ?_ h');rw[iz,hs];simp only[hle,and_false,if_false];simpa [hh] using e2
theorem OM (h:az B H (dJ aN a::L)) (hm:dA B L m) (hf:m.g.cY=true) (hg:m.g.In) (hr:a.rd m.g) (tK:a.aA≤32) (hu:i∈m.g.us) (hi:i<a.bs.length) (k:∀q c (rs:List Rf) H',rs.map Rf.f=(a.bs[i]).eQ i m.g.cap→az B H' (Rw 130 8 q c (rs.map Rf.cs)::bw (rs.map Rf.bX)::dJ aN a::L)→K (.tuple [.slice q rs.length c,.int .i64 0]) H'):cl 98 [.aj (some (aN,0)),m.v,.int .i64 (i:Int)] H K:=by
 have hv:m.v=.agg (dN m.g.aE m.g.aA m.g.aH m.q m.g.bK.length m.c):=rfl;rw[hv,abW, ←hv];simp only[Option.isNone_some,ai,eg];refine JO h (hm.bS _) hg.l (fun H1 h1=> ?_);simp only[hf,AJ,reduceIte,Nat.reduceEqDiff];rw[BU h1];simp only[AJ,reduceIte,Nat.reduceEqDiff,hr.n];rw[FX h1];simp only[AJ,reduceIte,Nat.reduceEqDiff,hr.p];refine jF h1 (hm.bS _) hg (fun q c H2 h2=> ?_);simp only[AJ,reduceIte,Nat.reduceEqDiff]
 have hc:=qn (cap:=c) (K:=fun v H'=>ah (V.av .bool v) (ah (aC (KT.k .bool) (some (T.v (V.bool !V.an v)))||false||false) (br (!V.an v) (K (V.tuple [V.slice none 0 0,V.int .i64 1]) H')
  (cl 64 [V.aj (some (aN,0)),V.int .i64 (i:Int)] H' fun v H'=>ah (V.av (.int .i64) v)
   (lo 98 9 (St.mk (ab [(0,T.v (V.aj (some (aN,0)))),(2,T.v (V.int .i64 (i:Int))),(4,T.lp 4 0),(8,T.v (V.slice none 0 0)),(42,T.v (V.int .i64 (V.aa v))),(43,T.v (V.int .i64 0))])
    (ab [(4,aR.cells 26 (dN m.g.aE m.g.aA m.g.aH m.q m.g.bK.length m.c))]) H')
    (fun S'=>ah (aC (KT.k .slice) (S'.1 6)&&aC (KT.k (.int .i64)) (S'.1 7)) (K (V.tuple [V.slice (V.au (T.val (S'.1 6))) (V.ax (T.val (S'.1 6))) (V.aD (T.val (S'.1 6))),V.int .i64 (V.aa (T.val (S'.1 7)))]) S'.3))
    fun j S'=>br (decide (j=0)) (ah (aC (KT.k .slice) (S'.1 8)) (K (V.tuple [V.slice (V.au (T.val (S'.1 8))) (V.ax (T.val (S'.1 8))) (V.aD (T.val (S'.1 8))),V.int .i64 0]) S'.3)) False)))))
  (h2.ord [0] |> az.uN) (i:Int) (by rw[gL];have:=cn.kE m.g hg.b.2;omega) ?_
 ·rw[gL] at hc;simpa [AJ,reduceIte,Nat.reduceEqDiff] using hc
 ·have hmem:(i:Int)∈cZ m.g.us:=List.mem_map.2 ⟨i,hu,rfl⟩;simp only[hmem,AJ,reduceIte,Nat.reduceEqDiff];have h3:=h2.drop;rw[uS h3 hi];simp only[AJ,reduceIte,Nat.reduceEqDiff];refine nL (a:=a) hm hg hr tK hi (a.bs[i]).pg.length 0 [] (by omega) (by simp) (h3.qj.rwNil _ _) (fun q' c' rs' H' e h'=> ?_);simp only[AJ,reduceIte,Nat.reduceEqDiff];refine k q' c' rs' H' ?_ h';rw[e];simp [Bk.eQ]
end
end Go.Proofs.YtlgdkndamddpkaaGreat
end
section
namespace Go.Am
def ob (id:Nat) (o:Obj):cv:=fun h=>h=fun j=>if j=id then some o else none
def Obj.isC:Obj→Bool
 | .cells .. =>true
 |_=>false
section
variable {B:ag} {L:List cv} {H:ag}
theorem az.xx {id:Nat} {o:Obj} (h:az B H (ob id o::L)):H.get id=some o:=by
 obtain⟨g,h1,h2,h3,h4,h5,h6⟩:=h.ex;exact h1 _ _ (h4.Vl (by rw[h5];simp))
theorem az.ON (h:az B H L) (o:Obj):az B (H.alloc o) (ob H.next o::L):=by
 obtain⟨g,h1,h2⟩:=h.ex;refine⟨h.ok.alloc _,Nat.le_succ_of_le h.Lr,fun id o ho=> ?_,fun j=>if j=H.next then some o else g j,fun id o' ho=> ?_,_,g,fun i=> ?_,rfl,h2⟩
 ·have:=h.ok id o (h.ro id o ho).1;exact⟨by rw[ag.fV (by omega)];exact(h.ro id o ho).1,(h.ro id o ho).2⟩
 ·by_cases hid:id=H.next
  ·subst hid;simp only[if_pos] at ho;rw[ag.vZ,ho]
  ·simp only[if_neg hid] at ho;rw[ag.fV hid];exact h1 id o' ho
 ·by_cases hid:i=H.next
  ·subst hid;right;refine⟨?_,by simp⟩
   cases hg:g H.next with
   |none=>rfl
   |some o=>have:=h.ok _ _ (h1 _ _ hg);omega
  ·left;simp [hid]
theorem az.pq {id:Nat} {o o':Obj} (h:az B H (ob id o::L)) (hc:o.isC=false):az B (H.put id o') (ob id o'::L):=by
 have Wo:=h.xx;obtain⟨g,h1,h2,h3,h4,h5,h6⟩:=h.ex;subst h5;refine⟨h.ok.put Wo,h.Lr,fun j o ho=> ?_,fun j=>if j=id then some o' else h3 j,fun j o2 ho=> ?_,_,h3,fun i=> ?_,rfl,h6⟩
 ·have hj:=h.ro j o ho;refine⟨?_,hj.2⟩;by_cases he:j=id
  ·subst he;obtain⟨e',c',rfl⟩:=hj.2;rw[hj.1] at Wo;cases Wo;cases hc
  ·rw[ag.lK he];exact hj.1
 ·by_cases hid:j=id
  ·subst hid;simp only[if_pos] at ho;rw[ag.Jh,ho]
  ·simp only[if_neg hid] at ho;rw[ag.lK hid];exact h1 j o2 (h4.Vm ho)
 ·by_cases hid:i=id
  ·subst hid;right;refine⟨?_,by simp⟩;rcases h4 i with⟨e1,_⟩|⟨e1,_⟩
   ·simp at e1
   ·exact e1
  ·left;simp [hid]
end
structure En where
 k:Int
 v:V
 b:Nat
def uV (es:List En):List (V×V×Nat):=es.map fun e=>(.int .i64 e.k,e.v,e.b)
def Hh (n:Int):List En→Option V
 |[]=>none
 |e::l=>if e.k=n then some e.v else Hh n l
def Bg (n:Int) (v:V):List En→List En
 |[]=>[]
 |e::l=>if e.k=n then {e with v:=v}::l else e::Bg n v l
def DV (n:Int):List En→List En
 |[]=>[]
 |e::l=>if e.k=n then l else e::DV n l
structure xy (es:List En) (c:Nat):Prop where
 lt:es.Pairwise fun x y=>x.b<y.b
 all:∀e∈es,e.b<c
theorem JV:∀es:List En,sw .i64 (uV es)=true
 |[]=>rfl
 |e::l=>by
  show (V.av (.int .i64) (.int .i64 e.k)&&sw .i64 (uV l))=true
  rw[JV l,cP];rfl
theorem uW (n:Int):∀es:List En,nr n (uV es)=Hh n es
 |[]=>rfl
 |e::l=>by
  show (bif decide (e.k=n) then some e.v else nr n (uV l))=_
  rw[uW n l,Hh];by_cases h:e.k=n<;>simp [h]
theorem JW (n:Int) (v:V):∀es:List En,EY n v (uV es)=uV (Bg n v es)
 |[]=>rfl
 |e::l=>by
  show (bif decide (e.k=n) then (V.int .i64 e.k,v,e.b)::uV l else (V.int .i64 e.k,e.v,e.b)::EY n v (uV l))=_
  rw[JW n v l,Bg];by_cases h:e.k=n<;>simp [h,uV]
theorem JX (n:Int):∀es:List En,yc n (uV es)=uV (DV n es)
 |[]=>rfl
 |e::l=>by
  show (bif decide (e.k=n) then uV l else (V.int .i64 e.k,e.v,e.b)::yc n (uV l))=_
  rw[JX n l,DV];by_cases h:e.k=n<;>simp [h,uV]
section
variable {B:ag} {L:List cv} {H:ag} {id c:Nat} {es:List En}
def iM (id:Nat) (es:List En) (c:Nat):cv:=ob id (.map (uV es) c)
theorem az.OO (h:az B H L):az B (H.alloc (.map [] 0)) (iM H.next [] 0::L):=h.ON _
theorem uX (h:az B H (iM id es c::L)):eD H .i64 (some id)=true:=by
 have hg:=h.xx;simp only[eD,Option.isNone_some,Option.getD_some,ag.isMap,ag.ents,hg,JV,Bool.and_self,Bool.or_true]
theorem Tf (h:az B H (iM id es c::L)):H.isMap id=true:=by
 have hg:=h.xx;simp only[ag.isMap,hg]
theorem zx (h:az B H (iM id es c::L)) (n:Int) (z:V):cq H (some id) n z=(Hh n es).getD z:=by
 have hg:=h.xx;simp only[cq,Option.isNone_some,Option.getD_some,ag.ents,hg,uW,cond_false]
theorem OP (h:az B H (iM id es c::L)) (n:Int):lh H (some id) n=(Hh n es).isSome:=by
 have hg:=h.xx;simp only[lh,Option.isSome_some,Option.getD_some,ag.ents,hg,uW,Bool.true_and]
def rP (n:Int) (v:V) (es:List En) (c:Nat):List En×Nat:=if (Hh n es).isSome then (Bg n v es,c) else (es++[⟨n,v,c⟩],c+1)
theorem az.JY (h:az B H (iM id es c::L)) (n:Int) (v:V):az B (il H .i64 id n v) (iM id (rP n v es c).1 (rP n v es c).2::L):=by
 have hg:=h.xx;unfold il rP;simp only[ag.ents,ag.clock,hg,uW]
 cases hf:(Hh n es).isSome with
 |true=>
  simp only[cond_true,if_true,JW];exact h.pq rfl
 |false=>
  simp only[cond_false,Bool.false_eq_true,if_false];have e:uV es++[(V.int .i64 n,v,c)]=uV (es++[⟨n,v,c⟩]):=by simp [uV]
  rw[e];exact h.pq rfl
theorem az.Z5 (h:az B H (iM id es c::L)) (n:Int):az B (pA H (some id) n) (iM id (DV n es) c::L):=by
 have hg:=h.xx;unfold pA;simp only[Option.isNone_some,Option.getD_some,ag.ents,ag.clock,hg,JX,cond_false];exact h.pq rfl
theorem OQ (n:Int) (v:V):∀es:List En,(Bg n v es).map En.b=es.map En.b
 |[]=>rfl
 |e::l=>by
  rw[Bg];split
  ·rfl
  ·rw[List.map_cons,OQ n v l,List.map_cons]
theorem DW {es:List En} {c:Nat}:xy es c↔(es.map En.b).Pairwise (· < ·)∧∀b∈es.map En.b,b<c:=by
 constructor
 ·intro h;exact⟨List.pairwise_map.2 h.lt,fun b hb=>by obtain⟨e,he,rfl⟩:=List.mem_map.1 hb;exact h.all e he⟩
 ·intro h;exact⟨List.pairwise_map.1 h.1,fun e he=>h.2 _ (List.mem_map.2 ⟨e,he,rfl⟩)⟩
theorem xy.ins (h:xy es c) (n:Int) (v:V):xy (rP n v es c).1 (rP n v es c).2:=by
 unfold rP;split
 ·rw[DW] at h⊢;rw[OQ];exact h
 ·refine⟨?_, ?_⟩
  ·rw[List.pairwise_append];exact⟨h.lt,by simp,fun x hx y hy=>by rw[List.mem_singleton] at hy;subst hy;exact h.all x hx⟩
  ·intro e he;rcases List.mem_append.1 he with he|he
   ·have:=h.all e he;simp only;omega
   ·rw[List.mem_singleton] at he;subst he;simp
theorem zy (n:Int):∀es:List En,(DV n es).Sublist es
 |[]=>.slnil
 |e::l=>by
  rw[DV];split
  ·exact List.sublist_cons_self ..
  ·exact(zy n l).cons_cons e
theorem xy.ET (h:xy es c) (n:Int):xy (DV n es) c:=⟨h.lt.sublist (zy n es),fun e he=>h.all e ((zy n es).subset he)⟩
theorem xy.nil (c:Nat):xy [] c:=⟨.nil,fun e he=>by cases he⟩
theorem F5 {e:En}:∀{es:List En},(es.Pairwise fun x y=>x.b<y.b)→e∈es→Bt e.b (uV es)=some (.int .i64 e.k,e.v)
 |x::l,hp,he=>by
  show (bif Nat.beq x.b e.b then some (V.int .i64 x.k,x.v) else Bt e.b (uV l))=_
  rw[List.pairwise_cons] at hp;rcases List.mem_cons.1 he with rfl|he
  ·simp
  ·have:=hp.1 e he;have hb:Nat.beq x.b e.b=false:=by simp;omega
   rw[hb,cond_false];exact F5 hp.2 he
theorem wj {seen:List Nat} {b:Nat}:∀{es:List En},b∈lg seen (uV es)↔∃e∈es,e.b=b∧b∉seen
 |[]=>by simp [uV,lg]
 |x::l=>by
  show b∈(bif tP x.b seen then lg seen (uV l) else x.b::lg seen (uV l))↔_
  have ih:=wj (seen:=seen) (b:=b) (es:=l)
  cases hx:tP x.b seen with
  |true=>
   have hm:x.b∈seen:=Ha hx;rw[cond_true,ih];constructor
   ·rintro⟨e,he,h1,h2⟩;exact⟨e,List.mem_cons_of_mem _ he,h1,h2⟩
   ·rintro⟨e,he,h1,h2⟩;rcases List.mem_cons.1 he with rfl|he
    ·exact absurd (h1▸hm) h2
    ·exact⟨e,he,h1,h2⟩
  |false=>
   have hm:x.b∉seen:=fun h=>by rw[KV h] at hx;cases hx
   rw[cond_false,List.mem_cons,ih];constructor
   ·rintro(rfl|⟨e,he,h1,h2⟩)
    ·exact⟨x,List.mem_cons_self,rfl,hm⟩
    ·exact⟨e,List.mem_cons_of_mem _ he,h1,h2⟩
   ·rintro⟨e,he,h1,h2⟩;rcases List.mem_cons.1 he with rfl|he
    ·exact .inl h1.symm
    ·exact .inr ⟨e,he,h1,h2⟩
where
 Ha {n:Nat}:∀{l:List Nat},tP n l=true→n∈l
  |y::l,h=>by
   rw[tP,Bool.or_eq_true] at h;rcases h with h|h
   ·exact List.mem_cons.2 (.inl (Nat.eq_of_beq_eq_true h))
   ·exact List.mem_cons_of_mem _ (Ha h)
 KV {n:Nat}:∀{l:List Nat},n∈l→tP n l=true
  |y::l,h=>by
   rw[tP,Bool.or_eq_true];rcases List.mem_cons.1 h with rfl|h
   ·exact .inl (Nat.beq_refl _)
   ·exact .inr (KV h)
theorem B0 {s:Nat}:∀{es:List En},(∀e∈es,e.b<s)→oa s (uV es)=true
 |[],_=>rfl
 |x::l,h=>by
  show (Nat.blt x.b s&&oa s (uV l))=true
  rw[B0 fun e he=>h e (List.mem_cons_of_mem _ he),Bool.and_true];exact Nat.ble_eq_true_of_le (h x List.mem_cons_self)
theorem zz:∀(l:List Nat) (b:Nat),Bu (l++[b])=some b
 |[],b=>rfl
 |[x],b=>rfl
 |x::y::l,b=>by
  show Bu (y::l++[b])=some b
  exact zz (y::l) b
theorem az.OR {it:Nat} {seen:List Nat} (h:az B H (ob it (.dO (some id) c seen c)::iM id es c::L)) (hb:xy es c) {K1:Prop} {K2:ag→Prop} (k1:(∀e∈es,e.b∈seen)→K1) (k2:∀e∈es,e.b∉seen→∀H',az B H' (ob it (.dO (some id) c (seen++[e.b]) c)::iM id es c::L)→sx H' it=true→kJ H' it=.int .i64 e.k→iO H' it=e.v→K2 H'):mapNext H it K1 K2:=by
 have h1:=h.xx;have h2:=h.swap.xx;unfold mapNext;simp only[h1,h2,B0 hb.all,Nat.ble_eq_true_of_le (Nat.le_refl c),Bool.and_self,cond_true]
 have key:∀b,b∈lg seen (uV es)→K2 (H.put it (.dO (some id) c (seen++[b]) c)):=by
  intro b W5;obtain⟨e,he,rfl,hn⟩:=wj.1 W5;have h3:=h.pq (o':=.dO (some id) c (seen++[e.b]) c) rfl;have g1:=h3.xx;have g2:=h3.swap.xx
  have rS:vE (H.put it (.dO (some id) c (seen++[e.b]) c)) it=some (.int .i64 e.k,e.v):=by
   unfold vE;simp only[g1,g2,zz,Nat.beq_refl,cond_true];exact F5 hb.lt he
  exact k2 e he hn _ h3 (by unfold sx;rw[rS];rfl) (by unfold kJ;rw[rS];rfl) (by unfold iO;rw[rS];rfl)
 cases hl:lg seen (uV es) with
 |nil=>
  refine k1 (fun e he=> ?_)
  cases hd:decide (e.b∈seen) with
  |true=>exact of_decide_eq_true hd
  |false=>
   have:e.b∈lg seen (uV es):=wj.2 ⟨e,he,rfl,of_decide_eq_false hd⟩;rw[hl] at this;cases this
 |cons x l=>
  rw[hl] at key;exact key
theorem az.OS (h:az B H (iM id es c::L)):az B (H.alloc (mapIter H (some id))) (ob H.next (.dO (some id) c [] c)::iM id es c::L):=by
 have hg:=h.xx;have e:mapIter H (some id)=.dO (some id) c [] c:=by simp only[mapIter,Option.isNone_some,Option.getD_some,ag.clock,hg,cond_false]
 rw[e];exact h.ON _
theorem oJ (q:En→Bool) {e:En} {seen:List Nat} (hn:e.b∉seen):∀{es:List En},(es.Pairwise fun x y=>x.b<y.b)→e∈es→es.countP (fun y=>decide (y.b∈seen++[e.b])&&q y)=es.countP (fun y=>decide (y.b∈seen)&&q y)+(if q e=true then 1 else 0)
 |x::l,hp,he=>by
  rw[List.pairwise_cons] at hp;rw[List.countP_cons,List.countP_cons];rcases List.mem_cons.1 he with rfl|he
  ·have e1:l.countP (fun y=>decide (y.b∈seen++[e.b])&&q y)=l.countP (fun y=>decide (y.b∈seen)&&q y):=by
    apply List.countP_congr;intro y hy;have:=hp.1 y hy;have hne:¬y.b=e.b:=by omega
    simp [hne]
   rw[e1];cases hq:q e<;>simp [hq,hn]
  ·have:=hp.1 e he;have hne:¬x.b=e.b:=by omega
   rw[oJ q hn hp.2 he];simp only[List.mem_append,List.mem_singleton,hne,or_false];omega
end
end Go.Am
end
section
namespace Go.Proofs.YtlgdkndamddpkaaGreat
open Go.Am
def Im (o f:Fd):Bool:=decide (o.s.cU=f.s.cU)&&(decide (o.s.ao=f.s.ao)&&(decide (o.s.seq<f.s.seq)&&decide (o.s.data=f.s.data)))
def hY (i:Nat):List (Nat×List Fd)→List Fd
 |[]=>[]
 |x::l=>if x.1=i then x.2 else hY i l
def Io (cM:List (Nat×List Fd)) (fr:Nat):List Fd:=if fr=0 then [] else hY (fr-1) cM
def td (cM:List (Nat×List Fd)) (fr:Nat) (f:Fd):Bool:=decide (fr≠0)&&(decide (f.s.fr=fr)&&(Io cM fr).any fun o=>Im o f)
def kS (cM:List (Nat×List Fd)) (i:Nat):Bool:=match hY i cM with
 |[]=>false
 |f::l=>(f::l).all (td cM f.s.fr)
def qp (bz:List (Rz×Nat)):List En:=bz.map fun x=>⟨(x.1.i:Int),.slice x.1.q x.1.rs.length x.1.c,x.2⟩
def nM (bz:List (Rz×Nat)):List (Nat×List Fd):=bz.map fun x=>(x.1.i,x.1.rs.map Rf.f)
def pr (i:Nat):List (Rz×Nat)→Option Rz
 |[]=>none
 |x::l=>if x.1.i=i then some x.1 else pr i l
theorem uY {i:Nat} {z:Rz}:∀{bz:List (Rz×Nat)},pr i bz=some z→∃b,(z,b)∈bz
 |x::l,h=>by
  rw[pr] at h;split at h
  ·cases h;exact⟨x.2,List.mem_cons_self⟩
  ·obtain⟨b,hb⟩:=uY h;exact⟨b,List.mem_cons_of_mem _ hb⟩
theorem uZ (i:Nat):∀bz:List (Rz×Nat),hY i (nM bz)=match pr i bz with|some z=>z.rs.map Rf.f|none=>[]
 |[]=>rfl
 |x::l=>by
  show (if x.1.i=i then x.1.rs.map Rf.f else hY i (nM l))=_
  rw[pr];split
  ·rfl
  ·exact uZ i l
theorem DX (i:Nat):∀bz:List (Rz×Nat),Hh (i:Int) (qp bz)=(pr i bz).map fun z:Rz=>V.slice z.q z.rs.length z.c
 |[]=>rfl
 |x::l=>by
  show (if (x.1.i:Int)=(i:Int) then some _ else Hh (i:Int) (qp l))=_
  rw[pr,DX i l];by_cases h:x.1.i=i
  ·have:(x.1.i:Int)=(i:Int):=by omega
   rw[if_pos this,if_pos h];rfl
  ·have:¬(x.1.i:Int)=(i:Int):=by omega
   rw[if_neg this,if_neg h]
theorem JZ:∀bz:List (Rz×Nat),Hh (-1) (qp bz)=none
 |[]=>rfl
 |x::l=>by
  show (if (x.1.i:Int)= -1 then some _ else Hh (-1) (qp l))=_
  rw[if_neg (by omega),JZ l]
section
variable {B:ag} {L:List cv} {H:ag} {K:V→ag→Prop}
theorem u5 {zs:List Rz} {z:Rz} (h:az B H (bw (zs.map Rz.bX)::L)) (hz:z∈zs):Rd H z.q (z.rs.map Rf.cs).flatten∧∀r∈z.rs,mn H r.q r.f.s.data:=by
 obtain⟨j,hj,rfl⟩:=List.mem_iff_getElem.1 hz;have h1:=h.qk (i:=j) (by simpa using hj);rw[List.getElem_map] at h1;have h2:=az.Ly h1;refine⟨h2.lO,fun r hr=> ?_⟩;obtain⟨k,hk,rfl⟩:=List.mem_iff_getElem.1 hr;have h3:=(h2.ord [1]).qk (i:=k) (by simpa using hk);rw[List.getElem_map] at h3;exact h3.ja
structure FcG (H:ag) (fid:Nat) (r:Rf):Prop where
 i:∀k<8,H.inb fid k 1=true
 c:∀k<8,H.cell fid k=ae r.cs k
 d:mn H r.q r.f.s.data
theorem fcG {fid:Nat} {r:Rf} (hg:H.get fid=some (.cells 130 r.cs false)) (hd:mn H r.q r.f.s.data):FcG H fid r:=
 ⟨fun k hk=>nH hg (by show k<8;exact hk),fun k hk=>aY hg k,hd⟩
theorem VG {fid:Nat} {o r:Rf} (g:FcG H fid r) (ho:mn H o.q o.f.s.data):cl 123 [.agg o.cs,.aj (some (fid,0))] H K=K (.bool (Im o.f r.f)) H:=by
 unfold Rf.cs;rw[Zf];have c2:H.cell fid 2=.int .u8 (r.f.s.cU:Int):=g.c 2 (by omega);have c4:H.cell fid 4=.int .u64 (r.f.s.seq:Int):=g.c 4 (by omega);have c5:H.cell fid 5=.int .i64 (r.f.s.ao:Int):=g.c 5 (by omega);have c7:H.cell fid 7=.slice r.q r.f.s.data.length r.c:=g.c 7 (by omega);simp only[AJ,reduceIte,Nat.reduceEqDiff,Nat.zero_add,g.i 2 (by omega),g.i 4 (by omega),g.i 5 (by omega),g.i 7 (by omega),c2,c4,c5,c7];unfold Im;by_cases h1:o.f.s.cU=r.f.s.cU
 ·have xk:(o.f.s.cU:Int)=(r.f.s.cU:Int):=by omega
  simp only[h1,xk,decide_true,ak,Bool.true_and];by_cases h2:o.f.s.ao=r.f.s.ao
  ·have Bq:(o.f.s.ao:Int)=(r.f.s.ao:Int):=by omega
   simp only[h2,Bq,decide_true,ak,Bool.true_and];by_cases h3:o.f.s.seq<r.f.s.seq
   ·have TC:(o.f.s.seq:Int)<(r.f.s.seq:Int):=by omega
    simp only[h3,TC,decide_true,ak,Bool.true_and,ho.eY,ho.eZ,g.d.eY,g.d.eZ,aw,qi]
   ·have TC:¬(o.f.s.seq:Int)<(r.f.s.seq:Int):=by omega
    simp only[h3,TC,decide_false,ai,Bool.false_and]
  ·have Bq:¬(o.f.s.ao:Int)=(r.f.s.ao:Int):=by omega
   simp only[h2,Bq,decide_false,ai,Bool.false_and]
 ·have xk:¬(o.f.s.cU:Int)=(r.f.s.cU:Int):=by omega
  simp only[h1,xk,decide_false,ai,Bool.false_and]
theorem Tg {fid:Nat} {r:Rf} (g:FcG H fid r) {q:Oq} {c:Nat} {rs:List Rf} (hr:Rd H q (rs.map Rf.cs).flatten) (hd:∀o∈rs,mn H o.q o.f.s.data) (hl:rs.length≤1000000) {Kr:Am.St→Prop} {Ke:Nat→Am.St→Prop} (k1:∀j:Nat,(rs.any fun o=>Im o.f r.f)=true→Kr (St.mk (ab [(4,T.v (V.int .i64 (j:Int)))]) (ab []) H)) (k2:(rs.any fun o=>Im o.f r.f)=false→Ke 0 (St.mk (ab []) (ab []) H)):∀(k i:Nat),i+k=rs.length→((rs.take i).any fun o=>Im o.f r.f)=false→lo 142 2 (St.mk (ab [(0,T.v (V.slice q rs.length c)),(1,T.v (V.func 123 [.aj (some (fid,0))])),(7,T.v (V.int .i64 (rs.length:Int))),(8,T.v (V.int .i64 (i:Int)))]) (ab []) H) Kr Ke
 |0,i,hi,hn=>by
  obtain rfl:i=rs.length:=by omega
  rw[List.take_length] at hn;rw[Js,decide_eq_false (by omega),ai];exact k2 hn
 |k+1,i,hi,hn=>by
  have hlt:i<rs.length:=by omega
  obtain⟨s1,s2,s3⟩:=xd hr (wi rs).pw (by decide) (i:=i) (by simpa using hlt);have s2':H.inb (pb q) (po q+i*8) 8=true:=s2
  have I8:H.sub (pb q) (po q+i*8) 8=(rs[i]).cs:=by
   rw[List.getElem_map] at s3;exact s3
  have a1:(i:Int)<(rs.length:Int):=by omega
  have a2:0≤(i:Int):=by omega
  have hfit:aI pj (rs[i]).cs=true:=rfl;have Ay:Ln (rs[i]).cs=(rs[i]).cs:=rfl;rw[Js];simp only[AJ,reduceIte,Nat.reduceEqDiff,a1,a2,Int.toNat_natCast,s1,s2',I8,hfit,Ay];show cl 123 [.agg (rs[i]).cs,.aj (some (fid,0))] H _
  rw[VG g (hd _ (List.getElem_mem hlt))];simp only[AJ,reduceIte,Nat.reduceEqDiff]
  cases hm:Im (rs[i]).f r.f with
  |true=>
   simp only[ak];exact k1 i (List.any_eq_true.2 ⟨_,List.getElem_mem hlt,hm⟩)
  |false=>
   simp only[ai];rw[aK (by omega)];refine Tg g hr hd hl k1 k2 k (i+1) (by omega) ?_;rw[List.take_succ_eq_append_getElem hlt,List.any_append,hn];simp [hm]
theorem OT {fid:Nat} {r:Rf} (g:FcG H fid r) {q:Oq} {c:Nat} {rs:List Rf} (hr:Rd H q (rs.map Rf.cs).flatten) (hd:∀o∈rs,mn H o.q o.f.s.data) (hl:rs.length≤1000000):K (.bool (rs.any fun o=>Im o.f r.f)) H→cl 122 [.slice q rs.length c,.func 123 [.aj (some (fid,0))]] H K:=by
 intro k;rw[Ze,Zr];refine Tg g hr hd hl (fun j e=> ?_) (fun e=> ?_) rs.length 0 (by omega) (by simp)
 ·have:(j:Int)≥0:=by omega
  simp only[AJ,reduceIte,Nat.reduceEqDiff,this];rw[e] at k;exact k
 ·have:¬(-1:Int)≥0:=by decide
  simp only[AJ,reduceIte,Nat.reduceEqDiff,this];rw[e] at k;exact k
theorem any_map (rs:List Rf) (f:Fd):(rs.map Rf.f).any (fun o=>Im o f)=rs.any fun o=>Im o.f f:=by
 rw[List.any_map];rfl
theorem OU {mid c:Nat} {bz:List (Rz×Nat)} (h:az B H (iM mid (qp bz) c::L)) (i:Nat):
 cq H (some mid) (i:Int) (.slice none 0 0)=match pr i bz with|some z=>V.slice z.q z.rs.length z.c|none=>V.slice none 0 0:=by
 rw[zx h,DX];cases pr i bz<;>rfl
theorem Th {mid c:Nat} {bz:List (Rz×Nat)} {zs:List Rz} (hbz:∀x∈bz,x.1∈zs) (hl:∀z∈zs,z.rs.length≤1000000) {z:Rz} (hz:z∈zs) (fr:Nat) {Kr:Am.St→Prop} {Ke:Nat→Am.St→Prop} (k1:∀H',az B H' (iM mid (qp bz) c::bw (zs.map Rz.bX)::L)→((z.rs.map Rf.f).all (td (nM bz) fr))=false→Kr (St.mk (ab [(4,T.v (V.bool false))]) (ab []) H')) (k2:∀H',az B H' (iM mid (qp bz) c::bw (zs.map Rz.bX)::L)→((z.rs.map Rf.f).all (td (nM bz) fr))=true→Ke 0 (St.mk (ab []) (ab []) H')):∀(k i:Nat) {H:ag},i+k=z.rs.length→(((z.rs.take i).map Rf.f).all (td (nM bz) fr))=true→az B H (iM mid (qp bz) c::bw (zs.map Rz.bX)::L)→lo 99 6 (St.mk (ab [(0,T.v (V.map (some mid))),(5,T.v (V.int .i64 ((fr:Int)-1))),(23,T.v (V.slice z.q z.rs.length z.c)),(24,T.v (V.int .i64 (z.rs.length:Int))),(25,T.v (V.int .i64 (i:Int)))]) (ab []) H) Kr Ke
 |0,i,H,hi,hn,h=>by
  obtain rfl:i=z.rs.length:=by omega
  rw[List.take_length] at hn;rw[N3,decide_eq_false (by omega),ai];exact k2 H h hn
 |k+1,i,H,hi,hn,h=>by
  have hlt:i<z.rs.length:=by omega
  obtain⟨hrz,hdz⟩:=u5 (h.ord [1]) hz;obtain⟨s1,s2,s3⟩:=xd hrz (wi z.rs).pw (by decide) (i:=i) (by simpa using hlt);have s2':H.inb (pb z.q) (po z.q+i*8) 8=true:=s2
  have I8:H.sub (pb z.q) (po z.q+i*8) 8=(z.rs[i]).cs:=by
   rw[List.getElem_map] at s3;exact s3
  have a1:(i:Int)<(z.rs.length:Int):=by omega
  have a2:0≤(i:Int):=by omega
  have hfit:aI pj (z.rs[i]).cs=true:=rfl;have Ay:Ln (z.rs[i]).cs=(z.rs[i]).cs:=rfl;obtain⟨fid,MR⟩:∃f,f=H.next:=⟨_,rfl⟩;have h1:=h.alloc 130 (kQ 0 0 0 0 0 0 0 none 0 0);have hw:(H.alloc (.cells 130 (kQ 0 0 0 0 0 0 0 none 0 0) false)).wr H.next 0 8=true:=fI h1.get 0 8;have h2:=h1.store (off:=0) (vs:=(z.rs[i]).cs)
  have e2:bI (kQ 0 0 0 0 0 0 0 none 0 0) 0 (z.rs[i]).cs=(z.rs[i]).cs:=by
   rw[fW _ _ _ (by show 0+8≤8;omega)];rfl
  rw[e2] at h2;rw[N3];simp only[AJ,reduceIte,Nat.reduceEqDiff,a1,a2,Int.toNat_natCast,s1,s2',I8,hfit,Ay,hw];generalize (ag.store _ _ _ _)=H2 at h2⊢;rw[←MR] at h2⊢;have SI:mn H2 (z.rs[i]).q (z.rs[i]).f.s.data:=(u5 (h2.ord [2]) hz).2 _ (List.getElem_mem hlt);have g:=fcG h2.get SI;have hm2:=h2.ord [1];have hmo:=uX hm2
  have hnext:∀H',az B H' (df fid 130 (z.rs[i]).cs::iM mid (qp bz) c::bw (zs.map Rz.bX)::L)→td (nM bz) fr (z.rs[i]).f=true→
   lo 99 6
    (St.mk (ab [(0,T.v (V.map (some mid))),(5,T.v (V.int .i64 ((fr:Int)-1))),(23,T.v (V.slice z.q z.rs.length z.c)),(24,T.v (V.int .i64 (z.rs.length:Int))),(25,T.v (V.int .i64 (IntKind.i64.wrap ((i:Int)+1))))]) (ab []) H') Kr Ke:=by
   intro H' h' hc;have:=hl z hz;rw[aK (by omega)];refine Th hbz hl hz fr k1 k2 k (i+1) (by omega) ?_ h'.drop;rw[List.take_succ_eq_append_getElem hlt,List.map_append,List.all_append,hn];simp [hc]
  have hstop:∀H',az B H' (df fid 130 (z.rs[i]).cs::iM mid (qp bz) c::bw (zs.map Rz.bX)::L)→td (nM bz) fr (z.rs[i]).f=false→Kr (St.mk (ab [(4,T.v (V.bool false))]) (ab []) H'):=by
   intro H' h' hc;refine k1 H' h'.drop ?_;rw[List.all_eq_false];exact⟨_,List.mem_map.2 ⟨_,List.getElem_mem hlt,rfl⟩,by simp [hc]⟩
  have c6:H2.cell fid 6=.int .i64 (((z.rs[i]).f.s.fr:Int)-1):=g.c 6 (by omega);by_cases hfr:fr=0
  ·subst hfr;have hk:((0:Nat):Int)-1= -1:=rfl;rw[hk] at hnext⊢;have oT:cq H2 (some mid) (-1) (.slice none 0 0)=.slice none 0 0:=by rw[zx hm2,JZ];rfl
   have hneg:(-1:Int)<0:=by decide
   have Wj:td (nM bz) 0 (z.rs[i]).f=false:=by simp [td]
   simp only[hmo,oT,AJ,reduceIte,Nat.reduceEqDiff];refine OT (rs:=[]) g (Rd.nil _ _) (fun o ho=>by cases ho) (by simp) ?_;simp only[AJ,reduceIte,Nat.reduceEqDiff,hneg,aO,Bool.false_eq_true,if_false,cond_false];exact hstop H2 h2 Wj
  ·have hk:((fr:Nat):Int)-1=((fr-1:Nat):Int):=by omega
   have hnn:¬((fr-1:Nat):Int)<0:=by omega
   have oT:=OU hm2 (fr-1)
   have hlk:Io (nM bz) fr=match pr (fr-1) bz with|some z=>z.rs.map Rf.f|none=>[]:=by
    unfold Io;rw[if_neg hfr,uZ]
   have fin:∀(b:Bool),b=(Io (nM bz) fr).any (fun o=>Im o (z.rs[i]).f)→
    br (bif decide (((z.rs[i]).f.s.fr:Int)-1=((fr-1:Nat):Int)) then !b else true) (Kr (St.mk (ab [(4,T.v (V.bool false))]) (ab []) H2))
     (lo 99 6
    (St.mk (ab [(0,T.v (V.map (some mid))),(5,T.v (V.int .i64 ((fr-1:Nat):Int))),(23,T.v (V.slice z.q z.rs.length z.c)),(24,T.v (V.int .i64 (z.rs.length:Int))),(25,T.v (V.int .i64 (IntKind.i64.wrap ((i:Int)+1))))]) (ab []) H2) Kr Ke):=by
    intro b hb;by_cases SS:(z.rs[i]).f.s.fr=fr
    ·have:((z.rs[i]).f.s.fr:Int)-1=((fr-1:Nat):Int):=by omega
     simp only[this,decide_true,cond_true]
     cases Bp:b with
     |true=>
      simp only[Bool.not_true,ai];have:=hnext H2 h2 (by unfold td;rw[←hb,Bp];simp [hfr,SS]);rw[hk] at this;exact this
     |false=>
      simp only[Bool.not_false,ak];exact hstop H2 h2 (by unfold td;rw[←hb,Bp];simp)
    ·have:¬((z.rs[i]).f.s.fr:Int)-1=((fr-1:Nat):Int):=by omega
     simp only[this,decide_false,cond_false,ak];exact hstop H2 h2 (by unfold td;simp [SS])
   rw[hk]
   cases Wu:pr (fr-1) bz with
   |none=>
    rw[Wu] at oT hlk;simp only[hmo,oT,AJ,reduceIte,Nat.reduceEqDiff];refine OT (rs:=[]) g (Rd.nil _ _) (fun o ho=>by cases ho) (by simp) ?_;simp only[AJ,reduceIte,Nat.reduceEqDiff,hnn,aO,if_true,g.i 6 (by omega),c6,cond_true,Bool.not_not];have:=fin ([].any fun o:Rf=>Im o.f (z.rs[i]).f) (by rw[hlk];rfl);exact this
   |some z2=>
    rw[Wu] at oT hlk;obtain⟨b2,nh⟩:=uY Wu;have ya:=hbz _ nh;obtain⟨xG,hd2⟩:=u5 (h2.ord [2]) ya;simp only[hmo,oT,AJ,reduceIte,Nat.reduceEqDiff];refine OT g xG hd2 (hl _ ya) ?_;simp only[AJ,reduceIte,Nat.reduceEqDiff,hnn,aO,if_true,g.i 6 (by omega),c6,cond_true,Bool.not_not];exact fin _ (by rw[hlk];exact(any_map _ _).symm)
theorem LD {mid c:Nat} {bz:List (Rz×Nat)} {zs:List Rz} (h:az B H (iM mid (qp bz) c::bw (zs.map Rz.bX)::L)) (hbz:∀x∈bz,x.1∈zs) (hl:∀z∈zs,z.rs.length≤1000000) (i:Nat) (k:∀H',az B H' (iM mid (qp bz) c::bw (zs.map Rz.bX)::L)→K (.bool (kS (nM bz) i)) H'):cl 99 [.map (some mid),.int .i64 (i:Int)] H K:=by
 rw[abX];have hmo:=uX h;have oT:=OU h i
 have qJ:kS (nM bz) i=match pr i bz with|some z=>(match z.rs.map Rf.f with|[]=>false|f::l=>(f::l).all (td (nM bz) f.s.fr))|none=>false:=by
  unfold kS;rw[uZ];cases pr i bz<;>rfl
 cases Wu:pr i bz with
 |none=>
  rw[Wu] at oT qJ;rw[qJ] at k;simp only[hmo,oT,AJ,reduceIte,Nat.reduceEqDiff];exact k H h
 |some z=>
  rw[Wu] at oT qJ;obtain⟨b2,nh⟩:=uY Wu;have hz:=hbz _ nh;simp only[hmo,oT,AJ,reduceIte,Nat.reduceEqDiff];dsimp only at qJ
  cases SQ:z.rs with
  |nil=>
   rw[SQ] at qJ;rw[qJ] at k;simp only[AJ,reduceIte,Nat.reduceEqDiff];exact k H h
  |cons r l=>
   have aay:kS (nM bz) i=(z.rs.map Rf.f).all (td (nM bz) r.f.s.fr):=by
    rw[qJ,SQ];rfl
   obtain⟨hrz,hdz⟩:=u5 (h.ord [1]) hz;obtain⟨s1,s2,s3⟩:=jR hrz (wi z.rs).pw (i:=0) (k:=6) (by rw[SQ];simp) (by decide)
   have I8:H.cell (pb z.q) (po z.q+2+4)=.int .i64 ((r.f.s.fr:Int)-1):=by
    have:po z.q+0*List.length pj+6=po z.q+2+4:=by omega
    rw[this] at s3;rw[s3];simp only[SQ,List.map_cons,List.getElem_cons_zero];rfl
   have s2':H.inb (pb z.q) (po z.q+2+4) 1=true:=by
    have:po z.q+0*List.length pj+6=po z.q+2+4:=by omega
    rw[this] at s2;exact s2
   have a1:¬(((l.length+1:Nat)):Int)=0:=by omega
   have a2:0<(((l.length+1:Nat)):Int):=by omega
   simp only[List.length_cons,a1,a2,decide_false,decide_true,ai,s1,s2',I8,AJ,reduceIte,Nat.reduceEqDiff];have hlen:z.rs.length=l.length+1:=by rw[SQ];rfl
   have:=Th (mid:=mid) (c:=c) (L:=L) (B:=B) (Kr:=fun S'=>ah (aC (KT.k .bool) (S'.1 4)) (K (V.bool (V.an (T.val (S'.1 4)))) S'.3)) (Ke:=fun j S'=>br (decide (j=0)) (K (V.bool true) S'.3) False) hbz hl (z:=z) hz r.f.s.fr (fun H' h' e=> ?_) (fun H' h' e=> ?_) z.rs.length 0 (Nat.zero_add _) (by simp) h
   ·rw[hlen] at this;exact this
   ·simp only[AJ,reduceIte,Nat.reduceEqDiff];rw[aay,e] at k;exact k H' h'
   ·simp only[AJ,reduceIte,Nat.reduceEqDiff];rw[aay,e] at k;exact k H' h'
end
abbrev Pl:=Oq
structure Pm where
 cg:List Pl
 nb:Nat
def vB (b:Nat):Pl→Bool
 |some x=>decide (x.1=b)
 |none=>false
def Pm.ea (m:Pm) (b:Nat):Nat:=m.cg.countP (vB b)
def Pm.hZ (m:Pm):List Int:=(List.range m.nb).map fun b=>(m.ea b:Int)
structure Pm.ok (m:Pm):Prop where
 pl:∀b p,some (b,p)∈m.cg→b<m.nb∧p<32
 n:m.cg.length≤65536
 nb:m.nb≤64
def wk:Pl→List V
 |some x=>jl x.1 x.2
 |none=>jl 0 0
def xz (o:Pl):List V:=[.bool o.isSome]
structure Pq where
 q1:Oq
 c1:Nat
 q2:Oq
 c2:Nat
 q3:Oq
 c3:Nat
def Hi (m:Pm) (x:Pq):List V:=Bb x.q1 m.cg.length x.c1 x.q2 m.cg.length x.c2 x.q3 m.nb x.c3
def u6 (id:Nat) (m:Pm):cv:=ES fun x:Pq=>bw [df id 175 (Hi m x),Rw 128 2 x.q1 x.c1 (m.cg.map wk),Rw 4 1 x.q2 x.c2 (m.cg.map xz),IR x.q3 x.c3 m.hZ]
section
variable {B:ag} {L:List cv} {H:ag} {K:V→ag→Prop} {id:Nat} {m:Pm} {x:Pq}
abbrev B1 (B H:ag) (id:Nat) (m:Pm) (x:Pq) (L:List cv):Prop:=az B H (df id 175 (Hi m x)::Rw 128 2 x.q1 x.c1 (m.cg.map wk)::Rw 4 1 x.q2 x.c2 (m.cg.map xz)::IR x.q3 x.c3 m.hZ::L)
theorem B1.of (h:az B H (u6 id m::L)):∃x,B1 B H id m x L:=by
 obtain⟨x,h⟩:=h.MX;exact⟨x,h.Ly⟩
theorem B1.to (h:B1 B H id m x L):az B H (u6 id m::L):=by
 have h2:az B H (bw [df id 175 (Hi m x),Rw 128 2 x.q1 x.c1 (m.cg.map wk),Rw 4 1 x.q2 x.c2 (m.cg.map xz),IR x.q3 x.c3 m.hZ]::L):=az.sX h;exact az.intro h2
theorem DY (l:List Pl):Rv HY (l.map wk):=by
 intro c hc;obtain⟨r,_,rfl⟩:=List.mem_map.1 hc;cases r<;>rfl
theorem F6 (l:List Pl):Rv [.bool] (l.map xz):=by
 intro c hc;obtain⟨r,_,rfl⟩:=List.mem_map.1 hc;rfl
@[simp] theorem qq (m:Pm):m.hZ.length=m.nb:=by simp [Pm.hZ]
structure PmG (H:ag) (id:Nat) (m:Pm) (x:Pq):Prop where
 i0:H.inb id 0 1=true
 i1:H.inb id 1 1=true
 i2:H.inb id 2 1=true
 c0:H.cell id 0=.slice x.q1 m.cg.length x.c1
 c1:H.cell id 1=.slice x.q2 m.cg.length x.c2
 c2:H.cell id 2=.slice x.q3 m.nb x.c3
 a0:∀(a:Nat) (ha:a<m.cg.length),x.q1.isSome=true∧H.inb (pb x.q1) (po x.q1+a*2) 2=true∧H.sub (pb x.q1) (po x.q1+a*2) 2=wk (m.cg[a])∧
  H.inb (pb x.q1) (po x.q1+a*2) 1=true∧H.cell (pb x.q1) (po x.q1+a*2)=ae (wk (m.cg[a])) 0
 a1:∀(a:Nat) (ha:a<m.cg.length),x.q2.isSome=true∧H.inb (pb x.q2) (po x.q2+a*1) 1=true∧H.cell (pb x.q2) (po x.q2+a*1)=.bool (m.cg[a]).isSome
 a2:∀(b:Nat) (hb:b<m.nb),x.q3.isSome=true∧H.inb (pb x.q3) (po x.q3+b*1) 1=true∧H.cell (pb x.q3) (po x.q3+b*1)=.int .i64 (m.ea b:Int)
theorem VH (h:B1 B H id m x L):PmG H id m x:=by
 have hg:=h.get;have hl:(Hi m x).length=3:=rfl;have h1:=(h.ord [1]).lO;have h2:=(h.ord [2]).lO;have h3:=az.uN (h.ord [3]);refine⟨nH hg (by omega),nH hg (by omega),nH hg (by omega),aY hg 0,aY hg 1,aY hg 2,fun a ha=> ?_,fun a ha=> ?_,fun b hb=> ?_⟩
 ·have Xb:a<(m.cg.map wk).length:=by simpa using ha
  obtain⟨s1,s2,s3⟩:=jR h1 (DY _).pw (i:=a) (k:=0) Xb (by decide);obtain⟨t1,t2,t3⟩:=xd h1 (DY _).pw (by decide) Xb;refine⟨s1,t2, ?_,s2, ?_⟩
  ·have:=t3;rw[List.getElem_map] at this;exact this
  ·rw[List.getElem_map] at s3;exact s3
 ·have Xb:a<(m.cg.map xz).length:=by simpa using ha
  obtain⟨s1,s2,s3⟩:=jR h2 (F6 _).pw (i:=a) (k:=0) Xb (by decide);rw[List.getElem_map] at s3;exact⟨s1,s2,s3⟩
 ·obtain⟨s1,s2,s3⟩:=h3.at (i:=b) (by simpa using hb);refine⟨s1,s2, ?_⟩;rw[s3];simp [Pm.hZ]
end
def Pm.put (m:Pm) (a:Nat) (o:Pl):Pm:={m with cg:=m.cg.set a o}
def Pm.new (n nb:Nat):Pm:=⟨List.replicate n none,nb⟩
theorem F7 {m m':Pm} (hn:m'.nb=m.nb) {b0:Nat} {v:Int} (h0:(m'.ea b0:Int)=v) (h:∀b,b≠b0→m'.ea b=m.ea b):m'.hZ=m.hZ.set b0 v:=by
 apply List.ext_getElem
 ·simp [hn]
 ·intro i h1 h2;rw[List.getElem_set];simp only[Pm.hZ,List.getElem_map,List.getElem_range];by_cases hb:b0=i
  ·subst hb;rw[if_pos rfl];exact h0
  ·rw[if_neg hb,h i (fun e=>hb e.symm)]
theorem xP (m:Pm) {a:Nat} (ha:a<m.cg.length) (o:Pl) (b:Nat):(m.put a o).ea b+(if vB b m.cg[a]=true then 1 else 0)=m.ea b+(if vB b o=true then 1 else 0):=by
 unfold Pm.ea Pm.put;rw[List.countP_set ha];have:vB b m.cg[a]=true→0<m.cg.countP (vB b):=fun h=>List.countP_pos_iff.2 ⟨_,List.getElem_mem ha,h⟩
 split<;>rename_i h1
 ·have:=this h1;omega
 ·omega
theorem Ip (m:Pm) {a:Nat} (ha:a<m.cg.length) (h:m.cg[a]=none):m.put a none=m:=by
 unfold Pm.put;have:m.cg.set a none=m.cg:=by rw[←h];exact List.set_getElem_self ha
 rw[this]
theorem LF (m:Pm) {a b p:Nat} (ha:a<m.cg.length) (h:m.cg[a]=some (b,p)):(m.put a none).hZ=m.hZ.set b ((m.ea b:Int)-1):=by
 refine F7 (m:=m) (m':=m.put a none) rfl ?_ (fun b' hb=> ?_)
 ·have:=xP m ha none b;rw[h] at this;simp [vB] at this;omega
 ·have:=xP m ha none b';rw[h] at this;have hb':¬b=b':=fun e=>hb e.symm
  simp [vB,hb'] at this;omega
theorem OV (m:Pm) {a b p:Nat} (ha:a<m.cg.length) (h:m.cg[a]=none):(m.put a (some (b,p))).hZ=m.hZ.set b ((m.ea b:Int)+1):=by
 refine F7 (m:=m) (m':=m.put a (some (b,p))) rfl ?_ (fun b' hb=> ?_)
 ·have:=xP m ha (some (b,p)) b;rw[h] at this;simp [vB] at this;omega
 ·have:=xP m ha (some (b,p)) b';rw[h] at this;have hb':¬b=b':=fun e=>hb e.symm
  simp [vB,hb'] at this;omega
theorem OW (m:Pm) (b:Nat):m.ea b≤m.cg.length:=List.countP_le_length
theorem Pm.ok.put {m:Pm} (h:m.ok) {a:Nat} {o:Pl} (ho:∀b p,o=some (b,p)→b<m.nb∧p<32):(m.put a o).ok:=by
 refine⟨fun b p hm=> ?_,by unfold Pm.put;rw[List.length_set];exact h.n,h.nb⟩;rcases List.mem_or_eq_of_mem_set hm with hm|hm
 ·exact h.pl b p hm
 ·exact ho b p hm.symm
section
variable {B:ag} {L:List cv} {H:ag} {K:V→ag→Prop} {id:Nat} {m:Pm} {x:Pq}
theorem az.Ti {q:Oq} {c:Nat} {l:List Int} (h:az B H (IR q c l::L)) {i:Nat} (hi:i<l.length) (v:Int):H.wr (pb q) (po q+i*1) 1=true∧az B (H.store (pb q) (po q+i*1) [.int .i64 v]) (IR q c (l.set i v)::L):=by
 have hu:pk 1 (l.map fun i=>[V.int .i64 i]):=by
  intro c hc;obtain⟨r,_,rfl⟩:=List.mem_map.1 hc;exact⟨rfl,fun v hv=>by rw[List.mem_singleton] at hv;subst hv;rfl⟩
 have h1:=h.DQ hu (i:=i) (k:=0) (by simpa using hi) (by omega) (v:=.int .i64 v) rfl;refine⟨h1.1, ?_⟩;have h2:=h1.2;unfold IR;rw[List.map_set];rw[List.getElem_map] at h2;exact h2
theorem OX {q:Oq} {c:Nat} {l:List Pl} (h:az B H (Rw 4 1 q c (l.map xz)::L)) {i:Nat} (hi:i<l.length) (o:Pl):H.wr (pb q) (po q+i*1) 1=true∧az B (H.store (pb q) (po q+i*1) [.bool o.isSome]) (Rw 4 1 q c ((l.set i o).map xz)::L):=by
 have h1:=h.DQ (F6 l).pw (i:=i) (k:=0) (by simpa using hi) (by decide) (v:=.bool o.isSome) rfl;refine⟨h1.1, ?_⟩;have h2:=h1.2;rw[List.map_set];rw[List.getElem_map] at h2;exact h2
theorem Tj {q:Oq} {c:Nat} {l:List Pl} (h:az B H (Rw 128 2 q c (l.map wk)::L)) {i:Nat} (hi:i<l.length) (o:Pl):H.wr (pb q) (po q+i*2) 2=true∧az B (H.store (pb q) (po q+i*2) (wk o)) (Rw 128 2 q c ((l.set i o).map wk)::L):=by
 have h1:=h.JI (DY l).pw (i:=i) (by simpa using hi) (c:=wk o) (by cases o<;>rfl) (fun v hv=>by cases o<;>simp only[wk,jl,List.mem_cons,List.not_mem_nil,or_false] at hv<;>rcases hv with rfl|rfl<;>rfl);refine⟨h1.1, ?_⟩;have h2:=h1.2;rw[List.map_set];exact h2
theorem B1.acC (h:B1 B H id m x L) {a:Nat} (ha:a<m.cg.length) (o:Pl):H.wr (pb x.q1) (po x.q1+a*2) 2=true∧(H.store (pb x.q1) (po x.q1+a*2) (wk o)).wr (pb x.q2) (po x.q2+a*1) 1=true∧az B ((H.store (pb x.q1) (po x.q1+a*2) (wk o)).store (pb x.q2) (po x.q2+a*1) [.bool o.isSome]) (df id 175 (Hi m x)::Rw 128 2 x.q1 x.c1 ((m.put a o).cg.map wk)::Rw 4 1 x.q2 x.c2 ((m.put a o).cg.map xz)::IR x.q3 x.c3 m.hZ::L):=by
 obtain⟨w1,h1⟩:=Tj (h.ord [1]) ha o;obtain⟨w2,h2⟩:=OX (h1.ord [2]) ha o;exact⟨w1,w2,h2.ord [2,1]⟩
theorem OY (h:az B H (u6 id m::L)) {a:Nat} (ha:a<m.cg.length):¬(a:Int)<0∧0≤(a:Int)∧¬(a:Int)≥(m.cg.length:Int)∧(a:Int)<(m.cg.length:Int):=by
 refine⟨?_, ?_, ?_, ?_⟩<;>omega
theorem OZ (h:az B H (u6 id m::L)) (hok:m.ok) {a:Nat} (ha:a<m.cg.length) (k:∀H',az B H' (u6 id (m.put a none)::L)→K (.int .i64 0) H'):cl 124 [.aj (some (id,0)),.int .i64 (a:Int)] H K:=by
 obtain⟨n1,n2,n3,n4⟩:=OY h ha;obtain⟨x,hx⟩:=B1.of h;have g:=VH hx;obtain⟨s1,i1,c1⟩:=g.a1 a ha;obtain⟨s0,_,_,i0,c0⟩:=g.a0 a ha;rw[Zg];simp only[AJ,reduceIte,Nat.reduceEqDiff,Option.isNone_some,Option.isSome_some,aO,ite_self,n1,n2,n3,n4,g.i0,g.i1,g.i2,g.c0,g.c1,g.c2,Nat.zero_add,Int.toNat_natCast,s1,i1,c1,cond_true]
 have fin:∀{H1:ag},az B H1 (df id 175 (Hi m x)::Rw 128 2 x.q1 x.c1 (m.cg.map wk)::Rw 4 1 x.q2 x.c2 (m.cg.map xz)::IR x.q3 x.c3 (m.put a none).hZ::L)→
  H1.inb id 0 1=true∧H1.inb id 1 1=true∧H1.cell id 0=.slice x.q1 m.cg.length x.c1∧H1.cell id 1=.slice x.q2 m.cg.length x.c2∧H1.wr (pb x.q1) (po x.q1+a*2) 2=true∧
  (H1.store (pb x.q1) (po x.q1+a*2) (jl 0 0)).wr (pb x.q2) (po x.q2+a*1) 1=true∧
  K (.int .i64 0) ((H1.store (pb x.q1) (po x.q1+a*2) (jl 0 0)).store (pb x.q2) (po x.q2+a*1) [.bool false]):=by
  intro H1 h1;have hg:=h1.get;have hl:(Hi m x).length=3:=rfl;obtain⟨w1,h2⟩:=Tj (h1.ord [1]) ha none;obtain⟨w2,h3⟩:=OX (h2.ord [2]) ha none;have h4:=h3.ord [2,1];refine⟨nH hg (by omega),nH hg (by omega),aY hg 0,aY hg 1,w1,w2,k _ (B1.to (x:=x) ?_)⟩;have e:Hi (m.put a none) x=Hi m x:=by unfold Hi Pm.put;simp only[List.length_set]
  unfold B1;rw[e];exact h4
 cases ho:m.cg[a] with
 |none=>
  rw[ho] at c1;have e:(m.put a none).hZ=m.hZ:=by rw[Ip m ha ho]
  obtain⟨_,_,_,_,w1,w2,kk⟩:=fin (by rw[e];exact hx);simp only[Option.isSome_none,ai,s0,w1,w2,aw];exact kk
 |some o=>
  obtain⟨b,p⟩:=o;have hbp:=hok.pl b p (by rw[←ho];exact List.getElem_mem ha);obtain⟨s2,i2,c2⟩:=g.a2 b hbp.1;rw[ho] at c0;have hc0:H.cell (pb x.q1) (po x.q1+a*2)=.int .i64 (b:Int):=c0;have b1:0≤(b:Int):=by omega
  have b2:(b:Int)<(m.nb:Int):=by omega
  have hle:=OW m b;have hn:=hok.n;obtain⟨w,h1⟩:=az.Ti (hx.ord [3]) (i:=b) (by simpa using hbp.1) ((m.ea b:Int)-1);simp only[Option.isSome_some,ak,s0,i0,hc0,AJ,reduceIte,Nat.reduceEqDiff,b1,b2,s2,i2,c2,Int.toNat_natCast];rw[bu (by omega) (by omega)];obtain⟨j0,j1,d0,d1,w1,w2,kk⟩:=fin (by rw[LF m ha ho];exact h1.ord [1,1,1]);simp only[w,j0,j1,d0,d1,n4,s0,s1,w1,w2,AJ,reduceIte,Nat.reduceEqDiff];exact kk
theorem J0 (h:az B H (u6 id m::L)) (hok:m.ok) {a b p:Nat} (ha:a<m.cg.length) (hb:b<m.nb) (hp:p<32) (k:∀H',az B H' (u6 id (m.put a (some (b,p)))::L)→K (.int .i64 0) H'):cl 100 [.aj (some (id,0)),.int .i64 (a:Int),.agg (jl (b:Int) (p:Int))] H K:=by
 obtain⟨n1,n2,n3,n4⟩:=OY h ha;obtain⟨x0,hx0⟩:=B1.of h;have g:=VH hx0;rw[Y5];have m1:¬(b:Int)<0:=by omega
 have m2:¬(b:Int)≥(m.nb:Int):=by omega
 have m3:¬(p:Int)<0:=by omega
 have m4:¬(p:Int)≥32:=by omega
 have m5:0≤(b:Int):=by omega
 have m6:(b:Int)<(m.nb:Int):=by omega
 simp only[AJ,reduceIte,Nat.reduceEqDiff,Option.isNone_some,Option.isSome_some,aO,ite_self,n1,n2,n3,n4,m1,m2,m3,m4,g.i0,g.i2,g.c0,g.c2,Nat.zero_add,Int.toNat_natCast,cond_true,if_true];refine OZ h hok ha (fun H1 h1=> ?_);obtain⟨x,hx⟩:=B1.of h1;have MP:a<(m.put a none).cg.length:=by unfold Pm.put;rw[List.length_set];exact ha
 have TK:(m.put a none).cg.length=m.cg.length:=by unfold Pm.put;rw[List.length_set]
 have hnone:(m.put a none).cg[a]=none:=by unfold Pm.put;exact List.getElem_set_self MP
 have g1:=VH hx;obtain⟨s1,_,_⟩:=g1.a1 a MP;obtain⟨s0,_⟩:=g1.a0 a MP;obtain⟨w1,w2,h2⟩:=hx.acC MP (some (b,p));have w1':H1.wr (pb x.q1) (po x.q1+a*2) 2=true:=w1;have w2':(H1.store (pb x.q1) (po x.q1+a*2) (jl (b:Int) (p:Int))).wr (pb x.q2) (po x.q2+a*1) 1=true:=w2;have Bq:az B ((H1.store (pb x.q1) (po x.q1+a*2) (jl (b:Int) (p:Int))).store (pb x.q2) (po x.q2+a*1) [.bool true]) _:=h2;have c0:=g1.c0;have c1:=g1.c1;rw[TK] at c0 c1;simp only[AJ,reduceIte,Nat.reduceEqDiff,g1.i0,g1.i1,c0,c1,n2,n4,s0,s1,w1',w2'];generalize (ag.store _ _ _ _)=H2 at Bq⊢;have hg:=Bq.get;have hl:(Hi (m.put a none) x).length=3:=rfl;have j2:H2.inb id 2 1=true:=nH hg (by omega);have d2:H2.cell id 2=.slice x.q3 m.nb x.c3:=aY hg 2;obtain⟨s3,i3,c3⟩:=(az.uN (Bq.ord [3])).at (i:=b) (by rw[qq];exact hb);have ec:(m.put a none).hZ[b]'(by rw[qq];exact hb)=((m.put a none).ea b:Int):=by simp [Pm.hZ]
 rw[ec] at c3;have hle:=OW (m.put a none) b;have hn:=hok.n;obtain⟨w3,h3⟩:=az.Ti (Bq.ord [3]) (i:=b) (by rw[qq];exact hb) (((m.put a none).ea b:Int)+1);simp only[j2,d2,AJ,reduceIte,Nat.reduceEqDiff,m5,m6,s3,i3,c3];rw[bu (by omega) (by omega)];simp only[w3,aw];refine k _ (B1.to (x:=x) ?_);have ep:(m.put a none).put a (some (b,p))=m.put a (some (b,p)):=by unfold Pm.put;simp only[List.set_set]
 rw[←OV (m.put a none) MP hnone (p:=p),ep] at h3;have e:Hi (m.put a (some (b,p))) x=Hi (m.put a none) x:=by unfold Hi Pm.put;simp only[List.length_set]
 unfold B1;rw[e];exact h3.ord [1,1,1]
theorem J1 (h:az B H (u6 id m::L)) {a:Nat} (ha:a<m.cg.length):cl 105 [.aj (some (id,0)),.int .i64 (a:Int)] H K=K (.tuple [.agg (wk m.cg[a]),.bool (m.cg[a]).isSome]) H:=by
 obtain⟨n1,n2,n3,n4⟩:=OY h ha;obtain⟨x,hx⟩:=B1.of h;have g:=VH hx;obtain⟨s1,i1,c1⟩:=g.a1 a ha;obtain⟨s0,i0,c0,_,_⟩:=g.a0 a ha;simp only[oU,oV] at i1 c1;rw[Za];simp only[AJ,reduceIte,Nat.reduceEqDiff,Option.isNone_some,Option.isSome_some,aO,ite_self,n1,n2,n3,n4,g.i0,g.i1,g.c0,g.c1,Nat.zero_add,Int.toNat_natCast,s1,i1,c1,cond_true,if_true,s0,i0,c0]
 cases ho:m.cg[a] with
 |none=>simp only[Option.isSome_none,Bool.not_false,ak];rfl
 |some o=>obtain⟨b,p⟩:=o;simp only[Option.isSome_some,Bool.not_true,ai,wk,f127,BP,vV,vW,Bool.and_self,aw]
theorem nN (h:az B H (u6 id m::L)) {b:Nat} (hb:b<m.nb):cl 65 [.aj (some (id,0)),.int .i64 (b:Int)] H K=K (.int .i64 (m.ea b:Int)) H:=by
 obtain⟨x,hx⟩:=B1.of h;have g:=VH hx;obtain⟨s2,i2,c2⟩:=g.a2 b hb;have m1:¬(b:Int)<0:=by omega
 have m2:¬(b:Int)≥(m.nb:Int):=by omega
 have m5:0≤(b:Int):=by omega
 have m6:(b:Int)<(m.nb:Int):=by omega
 rw[abG];simp only[AJ,reduceIte,Nat.reduceEqDiff,Option.isNone_some,Option.isSome_some,aO,ite_self,m1,m2,m5,m6,g.i2,g.c2,Nat.zero_add,Int.toNat_natCast,s2,i2,c2,cond_true,if_true]
end
def te (f:Nat→Int):List V:=vY (f 0) (f 1) (f 2) (f 3) (f 4) (f 5) (f 6) (f 7) (f 8) (f 9) (f 10) (f 11) (f 12) (f 13) (f 14) (f 15) (f 16) (f 17) (f 18) (f 19) (f 20) (f 21) (f 22) (f 23) (f 24) (f 25) (f 26) (f 27) (f 28) (f 29) (f 30) (f 31)
theorem RE (f:Nat→Int):te f=(List.range 32).map fun k=>.int .i64 (f k):=rfl
theorem O0 (f:Nat→Int) {i:Nat} (hi:i<32):ae (te f) i=.int .i64 (f i):=by
 rw[RE,k5];simp [List.getD_eq_getElem?_getD,List.getElem?_range,hi]
def DZ (f:Nat→Int) (n:Nat) (v:Int):Nat→Int:=fun k=>bif Nat.beq k n then v else f k
def EU (b:Nat):List Pl→Nat→(Nat→Int)→Nat→Int
 |[],_,f=>f
 |some x::l,i,f=>EU b l (i+1) (if x.1=b then DZ f x.2 ((i+1:Nat):Int) else f)
 |none::l,i,f=>EU b l (i+1) f
def Pm.by (m:Pm) (b:Nat):Nat→Int:=EU b m.cg 0 fun _=>0
def MZ (f:Nat→Int) (i:Nat):List Int:=((List.range 32).drop i).filterMap fun p=>if f p>0 then some (f p-1) else none
def Pm.on (m:Pm) (b:Nat):List Int:=if m.ea b=0 then [] else MZ (m.by b) 0
theorem RF (f:Nat→Int):MZ f 32=[]:=rfl
theorem O1 (f:Nat→Int) {i:Nat} (h:i<32):MZ f i=if f i>0 then (f i-1)::MZ f (i+1) else MZ f (i+1):=by
 unfold MZ;rw[List.drop_eq_getElem_cons (by simpa using h),List.filterMap_cons,List.getElem_range];by_cases hf:f i>0<;>simp [hf]
theorem rj (b:Nat):∀(l:List Pl) (i N:Nat) (f:Nat→Int),i+l.length≤N→(∀k,0≤f k∧f k≤N)→∀k,0≤EU b l i f k∧EU b l i f k≤N
 |[],i,N,f,h,hf,k=>hf k
 |none::l,i,N,f,h,hf,k=>rj b l (i+1) N f (by simp at h;omega) hf k
 |some x::l,i,N,f,h,hf,k=>by
  rw[EU];refine rj b l (i+1) N _ (by simp at h;omega) (fun k=> ?_) k;split
  ·unfold DZ;have h':i+(l.length+1)≤N:=h;cases Nat.beq k x.2
   ·exact hf k
   ·simp only[cond_true];omega
  ·exact hf k
section
variable {B:ag} {L:List cv} {H:ag} {K:V→ag→Prop} {id:Nat} {m:Pm} {x:Pq}
theorem Iq (hx:B1 B H id m x L) (hok:m.ok) (b:Nat) {Kr:Am.St→Prop} {Ke:Nat→Am.St→Prop}:∀(k i:Nat) (f:Nat→Int),i+k=m.cg.length→Ke 0 (St.mk (ab [(5,T.lp 5 0)]) (ab [(5,aR.cells 177 (te (EU b (m.cg.drop i) i f)))]) H)→lo 67 6 (St.mk (ab [(0,T.v (V.aj (some (id,0)))),(1,T.v (V.int .i64 (b:Int))),(5,T.lp 5 0),(40,T.v (V.slice x.q1 m.cg.length x.c1)),(41,T.v (V.int .i64 (m.cg.length:Int))),(42,T.v (V.int .i64 (i:Int)))]) (ab [(5,aR.cells 177 (te f))]) H) Kr Ke
 |0,i,f,hi,hk=>by
  obtain rfl:i=m.cg.length:=by omega
  rw[List.drop_length] at hk;unfold te;rw[DK,decide_eq_false (by omega),ai];exact hk
 |k+1,i,f,hi,hk=>by
  have hlt:i<m.cg.length:=by omega
  have g:=VH hx;obtain⟨s0,i0,c0,_⟩:=g.a0 i hlt;obtain⟨s1,i1,c1⟩:=g.a1 i hlt;have a1:(i:Int)<(m.cg.length:Int):=by omega
  have a2:0≤(i:Int):=by omega
  have hn:=hok.n;rw[List.drop_eq_getElem_cons hlt] at hk
  cases ho:m.cg[i] with
  |none=>
   rw[ho] at c0 c1;rw[ho,EU] at hk;have ih:=Iq hx hok b k (i+1) f (by omega) hk (Kr:=Kr);unfold te at ih⊢;rw[DK];simp only[AJ,reduceIte,Nat.reduceEqDiff,a1,a2,Int.toNat_natCast,s0,i0,c0,s1,i1,c1,g.i1,g.c1,Nat.zero_add,Option.isSome_some,Option.isSome_none,wk,f127,BP,vV,vW,Bool.false_and];rw[aK (by omega)];exact ih
  |some o=>
   obtain⟨b',p⟩:=o;obtain⟨hb',hp⟩:=hok.pl b' p (by rw[←ho];exact List.getElem_mem hlt);rw[ho] at c0 c1;rw[ho,EU] at hk;have ih:=Iq hx hok b k (i+1) _ (by omega) hk (Kr:=Kr);by_cases Bp:b'=b
   ·subst Bp;rw[if_pos rfl] at ih;have p1:0≤(p:Int):=by omega
    have p2:(p:Int)<32:=by omega
    have p3:p*1+1≤32:=by omega
    unfold te DZ at ih;unfold te;rw[DK];simp only[oW,CU,CV,Option.getD_some,eg,ak,ai,aw,iG,lJ,reduceIte,reduceCtorEq,TV,m7,p6,uH,vU,iy,dM,gg,p7,eJ,cI,dW,aZ,bV,fU,jC,bF,aU,cu,cP,eK,kP,re,bR,dm,List.length_cons,List.length_nil,Bool.and_true,Bool.true_and,Bool.or_false,Bool.false_or,Bool.and_self,decide_true,decide_false,Bool.not_true,Bool.not_false,ik,mE,Nat.reduceAdd,Nat.reduceEqDiff,Nat.reduceEqDiff, -ik,a1,a2,Int.toNat_natCast,s0,i0,c0,s1,i1,c1,g.i1,g.c1,Nat.zero_add,Option.isSome_some,wk,f127,BP,vV,vW,p1,p2,p3];rw[aK (by omega)];simp only[Nat.mul_one];exact ih
   ·rw[if_neg Bp] at ih;have acZ:¬(b':Int)=(b:Int):=by omega
    unfold te at ih⊢;rw[DK];simp only[AJ,reduceIte,Nat.reduceEqDiff,a1,a2,Int.toNat_natCast,s0,i0,c0,s1,i1,c1,g.i1,g.c1,Nat.zero_add,Option.isSome_some,wk,f127,BP,vV,vW,acZ,Bool.and_false];rw[aK (by omega)];exact ih
theorem Ir (f:Nat→Int) (hf:∀k,0≤f k∧f k≤65536) {Kr:Am.St→Prop} {Ke:Nat→Am.St→Prop}:∀(k i:Nat) (out:List Int) {q:Oq} {c:Nat} {H:ag},i+k=32→out.length≤i→az B H (IR q c out::L)→(∀q' c' H',az B H' (IR q' c' (out++MZ f i)::L)→Ke 2 (St.mk (ab [(8,T.v (V.slice q' (out++MZ f i).length c'))]) (ab []) H'))→lo 67 16 (St.mk (ab [(8,T.v (V.slice q out.length c)),(66,T.v (V.agg (te f))),(67,T.v (V.int .i64 (i:Int)))]) (ab []) H) Kr Ke
 |0,i,out,q,c,H,hi,ho,h,hk=>by
  obtain rfl:i=32:=by omega
  have:=hk q c H;rw[RF,List.append_nil] at this;unfold te;rw[Jp];exact this h
 |k+1,i,out,q,c,H,hi,ho,h,hk=>by
  have hlt:i<32:=by omega
  have a1:(i:Int)<32:=by omega
  have a2:0≤(i:Int):=by omega
  have a3:Nat.succ i≤32:=by omega
  have hn:=O0 f hlt;unfold te at hn;have hs:=O1 f hlt;unfold te;rw[Jp];simp only[AJ,reduceIte,Nat.reduceEqDiff,a1,a2,Int.toNat_natCast,Nat.mul_one,hn,a3];have SF:=hf i;by_cases hp:f i>0
  ·rw[if_pos hp] at hs;rw[hs] at hk;simp only[hp,decide_true,ak];rw[bu (by omega) (by omega),aK (by omega)];refine az.zq h (f i-1) (by omega) (fun q' c' H' h'=> ?_);refine Ir f hf k (i+1) (out++[f i-1]) (by omega) (by simp;omega) h' (fun q2 c2 H2 h2=> ?_);have:=hk q2 c2 H2;rw[List.append_cons] at this;exact this h2
  ·rw[if_neg hp] at hs;rw[hs] at hk;simp only[hp,decide_false,ai];rw[aK (by omega)];exact Ir f hf k (i+1) out (by omega) (by omega) h hk
theorem O2 (h:az B H (u6 id m::L)) (hok:m.ok) {b:Nat} (hb:b<m.nb) (k:∀q c H',az B H' (IR q c (m.on b)::u6 id m::L)→K (.slice q (m.on b).length c) H'):cl 67 [.aj (some (id,0)),.int .i64 (b:Int)] H K:=by
 obtain⟨x,hx⟩:=B1.of h;have g:=VH hx;obtain⟨s2,i2,c2⟩:=g.a2 b hb;have m1:¬(b:Int)<0:=by omega
 have m2:¬(b:Int)≥(m.nb:Int):=by omega
 have m5:0≤(b:Int):=by omega
 have m6:(b:Int)<(m.nb:Int):=by omega
 have i2':=i2;have c2':=c2;simp only[oU,oV] at i2' c2';rw[abI];simp only[AJ,reduceIte,Nat.reduceEqDiff,Option.isNone_some,Option.isSome_some,aO,ite_self,m1,m2,m5,m6,g.i0,g.i2,g.c0,g.c2,Nat.zero_add,Int.toNat_natCast,s2,i2',c2',cond_true,if_true];unfold Pm.on at k;by_cases hc:m.ea b=0
 ·rw[if_pos hc] at k;have tG:(m.ea b:Int)=0:=by omega
  simp only[tG,decide_true,ak];exact k none 0 H (az.uO h)
 ·rw[if_neg hc] at k;have tG:¬(m.ea b:Int)=0:=by omega
  simp only[tG,decide_false,ai];refine Iq hx hok b m.cg.length 0 (fun _=>0) (by omega) ?_;rw[List.drop_zero];have aaz:aI XB (te (EU b m.cg 0 fun _=>0))=true:=rfl;simp only[AJ,reduceIte,Nat.reduceEqDiff,aaz];show lo _ _ (St.mk (ab [(8,T.v (V.slice none 0 0)),(66,T.v (V.agg (te (m.by b)))),(67,T.v (V.int .i64 0))]) (ab []) H) _ _
  refine Ir (m.by b) (fun k=> ?_) 32 0 [] (by omega) (by simp) (az.uO h) (fun q' c' H' h'=> ?_)
  ·have hn:=hok.n;have:=rj b m.cg 0 m.cg.length (fun _=>0) (by omega) (fun k=>by omega) k;exact⟨this.1,Int.le_trans this.2 (by omega)⟩
  ·simp only[AJ,reduceIte,Nat.reduceEqDiff];exact k q' c' H' h'
end
theorem Tk (l:List V):∀n:Nat,(List.replicate n l).flatten=dU n l
 |0=>rfl
 |n+1=>by
  rw[List.replicate_succ,List.flatten_cons,Tk l n];rfl
section
variable {B:ag} {L:List cv} {H:ag} {K:V→ag→Prop} {id:Nat} {m:Pm} {x:Pq}
theorem az.Is (h:az B H L) {el n:Nat} {c:List V} (hc:c.length=n) (h1:bf c) (N:Nat):az B (H.alloc (.cells el (dU N c) false)) (Rw el n (some (H.next,0)) N (List.replicate N c)::L):=by
 have hlen:(dU N c).length=N*n:=by rw[dU,gf,hc]
 unfold Rw;rw[Tk,List.length_replicate];exact(h.alloc _ _).unbuf hlen (gF h1 _) (by omega) (by rw[hlen];omega) (by rw[List.drop_zero,List.take_length])
theorem O3 (n nb:Nat):(Pm.new n nb).hZ=List.replicate nb 0:=by
 apply List.ext_getElem
 ·simp [Pm.new]
 ·intro i h1 h2;simp [Pm.hZ,Pm.ea,Pm.new,List.countP_replicate,vB]
theorem RG (h:az B H L) {n nb:Nat} (hn:1≤n∧n≤65536) (hb:1≤nb∧nb≤64) (k:∀id H',az B H' (u6 id (Pm.new n nb)::L)→K (.tuple [.aj (some (id,0)),.int .i64 0]) H'):cl 97 [.int .i64 (n:Int),.int .i64 (nb:Int)] H K:=by
 rw[abV];have b1:¬(n:Int)<1:=by omega
 have b2:¬(n:Int)>65536:=by omega
 have b3:¬(nb:Int)<1:=by omega
 have b4:¬(nb:Int)>64:=by omega
 have b5:0≤(n:Int):=by omega
 have b6:0≤(nb:Int):=by omega
 have b7:(n:Int)≤(n:Int):=by omega
 have b8:(nb:Int)≤(nb:Int):=by omega
 have b9:(n:Int)*17≤70368744177664:=by omega
 have b10:(n:Int)*2≤70368744177664:=by omega
 have b11:(nb:Int)*9≤70368744177664:=by omega
 simp only[AJ,reduceIte,Nat.reduceEqDiff,b1,b2,b3,b4,b5,b6,b7,b8,b9,b10,b11,cond_true,Int.toNat_natCast]
 have rA:∀{H:ag} {L:List cv},az B H L→az B (H.alloc (.cells 128 (dU n (jl 0 0)) false)) (Rw 128 2 (some (H.next,0)) n ((Pm.new n nb).cg.map wk)::L):=fun h=>by
  have e:(Pm.new n nb).cg.map wk=List.replicate n (jl 0 0):=by unfold Pm.new;rw[List.map_replicate];rfl
  rw[e];exact az.Is h rfl (fun v hv=>by simp only[jl,List.mem_cons,List.not_mem_nil,or_false] at hv;rcases hv with rfl|rfl<;>rfl) n
 have rB:∀{H:ag} {L:List cv},az B H L→az B (H.alloc (.cells 4 (dU n [V.bool false]) false)) (Rw 4 1 (some (H.next,0)) n ((Pm.new n nb).cg.map xz)::L):=fun h=>by
  have e:(Pm.new n nb).cg.map xz=List.replicate n [V.bool false]:=by unfold Pm.new;rw[List.map_replicate];rfl
  rw[e];exact az.Is h rfl (fun v hv=>by rw[List.mem_singleton] at hv;subst hv;rfl) n
 have rC:∀{H:ag} {L:List cv},az B H L→az B (H.alloc (.cells 3 (dU nb [V.int .i64 0]) false)) (IR (some (H.next,0)) nb (Pm.new n nb).hZ::L):=fun h=>by
  rw[O3];unfold IR;rw[List.map_replicate];exact az.Is h rfl (fun v hv=>by rw[List.mem_singleton] at hv;subst hv;rfl) nb
 have fin:∀{H:ag} (q1 q2 q3:Oq),az B H (Rw 128 2 q1 n ((Pm.new n nb).cg.map wk)::Rw 4 1 q2 n ((Pm.new n nb).cg.map xz)::IR q3 nb (Pm.new n nb).hZ::L)→
  K (.tuple [.aj (some (H.next,0)),.int .i64 0]) (H.alloc (.cells 175 (Bb q1 n n q2 n n q3 nb nb) false)):=by
  intro H q1 q2 q3 h;have h1:=h.alloc 175 (Bb q1 n n q2 n n q3 nb nb);refine k _ _ (B1.to (x:=⟨q1,n,q2,n,q3,nb⟩) ?_);have e:Hi (Pm.new n nb) ⟨q1,n,q2,n,q3,nb⟩=Bb q1 n n q2 n n q3 nb nb:=by unfold Hi Pm.new;simp only[List.length_replicate]
  unfold B1;rw[e];exact h1
 refine⟨⟨?_, ?_⟩,⟨?_, ?_⟩, ?_, ?_⟩
 ·exact fin _ _ _ ((rC (rB (rA h))).ord [2,1])
 ·exact fin _ _ _ ((rB (rC (rA h))).ord [2])
 ·exact fin _ _ _ ((rC (rA (rB h))).ord [1,1])
 ·exact fin _ _ _ ((rA (rC (rB h))).ord [0,1])
 ·exact fin _ _ _ ((rB (rA (rC h))).ord [1])
 ·exact fin _ _ _ (rA (rB (rC h)))
end
def nO:Nat→List Fd→Nat
 |m,[]=>m
 |m,f::l=>nO (max m f.s.seq) l
def Ar.fd (a:Ar) (g:cn) (i:Nat):List Fd:=(a.bs.getD i fJ).eQ i g.cap
def xA (i:Nat):List (Nat×List Fd)→List (Nat×List Fd)
 |[]=>[]
 |x::l=>if x.1=i then l else x::xA i l
def AG:List Nat→List (Nat×List Fd)→List (Nat×List Fd)×List Nat
 |[],cM=>(cM,[])
 |i::us,cM=>if kS cM i=true then ((AG us (xA i cM)).1,i::(AG us (xA i cM)).2) else AG us cM
abbrev It (m:Gm):aR:=.cells 26 (dN m.g.aE m.g.aA m.g.aH m.q m.g.bK.length m.c)
abbrev tf (mp:Oq) (pg:Option Nat) (sq:Nat) (q:Oq) (n c:Nat):aR:=.cells 113 (cT mp pg (sq:Int) q n c)
abbrev th:aR:=.cells 113 (cT none none 0 none 0 0)
section
variable {B:ag} {L:List cv} {H:ag} {K:V→ag→Prop} {aN mid pid mpid:Nat} {a:Ar} {m:Gm}
theorem J2 {q:Oq} {c:Nat} {rs:List Rf} (hr:Rd H q (rs.map Rf.cs).flatten) (hl:rs.length≤1000000) {uq:Oq} {un uc:Nat} {tn tj:Int} {Kr:Am.St→Prop} {Ke:Nat→Am.St→Prop}:∀(k i sq:Nat),i+k=rs.length→Ke 2 (St.mk (ab [(0,T.v (V.aj (some (aN,0)))),(3,T.lp 3 0),(4,T.lp 4 0),(6,T.v (V.aj (some (mpid,0)))),(8,T.lp 8 0),(9,T.v (V.map (some mid))),(61,T.v (V.slice uq un uc)),(62,T.v (V.int .i64 tn)),(63,T.v (V.int .i64 tj))]) (ab [(3,It m),(4,th),(8,tf (some (mpid,0)) (some pid) (nO sq ((rs.drop i).map Rf.f)) none 0 0)]) H)→lo 59 21 (St.mk (ab [(0,T.v (V.aj (some (aN,0)))),(3,T.lp 3 0),(4,T.lp 4 0),(6,T.v (V.aj (some (mpid,0)))),(8,T.lp 8 0),(9,T.v (V.map (some mid))),(61,T.v (V.slice uq un uc)),(62,T.v (V.int .i64 tn)),(63,T.v (V.int .i64 tj)),(81,T.v (V.slice q rs.length c)),(82,T.v (V.int .i64 (rs.length:Int))),(83,T.v (V.int .i64 (i:Int)))]) (ab [(3,It m),(4,th),(8,tf (some (mpid,0)) (some pid) sq none 0 0)]) H) Kr Ke
 |0,i,sq,hi,hk=>by
  obtain rfl:i=rs.length:=by omega
  rw[List.drop_length] at hk;rw[Jo,decide_eq_false (by omega),ai];exact hk
 |k+1,i,sq,hi,hk=>by
  have hlt:i<rs.length:=by omega
  obtain⟨s1,s2,s3⟩:=xd hr (wi rs).pw (by decide) (i:=i) (by simpa using hlt);have s2':H.inb (pb q) (po q+i*8) 8=true:=s2
  have I8:H.sub (pb q) (po q+i*8) 8=(rs[i]).cs:=by
   rw[List.getElem_map] at s3;exact s3
  have a1:(i:Int)<(rs.length:Int):=by omega
  have a2:0≤(i:Int):=by omega
  have hfit:aI pj (rs[i]).cs=true:=rfl;have hn4:ae (rs[i]).cs 4=.int .u64 ((rs[i]).f.s.seq:Int):=rfl
  have em:(bif decide (((rs[i]).f.s.seq:Int)>(sq:Int)) then ((rs[i]).f.s.seq:Int) else (sq:Int))=((max sq (rs[i]).f.s.seq:Nat):Int):=by
   by_cases h:((rs[i]).f.s.seq:Int)>(sq:Int)
   ·simp only[h,decide_true,cond_true];omega
   ·simp only[h,decide_false,cond_false];omega
  rw[List.drop_eq_getElem_cons hlt,List.map_cons,nO] at hk;rw[Jo];simp only[AJ,reduceIte,Nat.reduceEqDiff,a1,a2,Int.toNat_natCast,s1,s2',I8,hfit,hn4,em];rw[aK (by omega)];exact J2 hr hl k (i+1) (max sq (rs[i]).f.s.seq) (by omega) hk
theorem az.acD {zs:List Rz} {z:Rz} (h:az B H (Rw 130 8 z.q z.c (z.rs.map Rf.cs)::bw (z.rs.map Rf.bX)::bw (zs.map Rz.bX)::L)):az B H (bw ((zs++[z]).map Rz.bX)::L):=by
 have h2:az B H (z.bX::bw (zs.map Rz.bX)::L):=az.sX (l:=[Rw 130 8 z.q z.c (z.rs.map Rf.cs),bw (z.rs.map Rf.bX)]) h;refine h2.mL.bigPerm ?_;rw[List.map_append];exact List.perm_append_comm (l₁:=[z.bX]) (l₂:=zs.map Rz.bX)
theorem LG {i:Nat} {bz:List (Rz×Nat)} (h:∀x∈bz,x.1.i≠i):pr i bz=none:=by
 induction bz with
 |nil=>rfl
 |cons x l ih=>
  rw[pr,if_neg (h x List.mem_cons_self)];exact ih fun y hy=>h y (List.mem_cons_of_mem _ hy)
theorem VI (a:Ar) (g:cn) (i:Nat):(a.fd g i).length≤(a.bs.getD i fJ).pg.length:=by
 unfold Ar.fd Bk.eQ;split
 ·simp
 ·have key:∀(l:List (List UInt8)) (p:Nat),(iz i g.cap l p).length≤l.length:=by
   intro l
   induction l with
   |nil=>intro p;simp [iz]
   |cons d l ih=>
    intro p;rw[iz];have:=ih (p+1);split
    ·simp;omega
    ·split<;>simp<;>omega
  exact key _ _
theorem J3 (hm:dA B L m) (hf:m.g.cY=true) (hg:m.g.In) (hr:a.rd m.g) (tK:a.aA≤32) (rM:∀i∈m.g.us,i<a.bs.length) (vy:m.g.us.Nodup) {uq:Oq} {uc:Nat} {Kr:Am.St→Prop} {Ke:Nat→Am.St→Prop} (hk:∀bz c H',nM bz=(m.g.us.map fun i=>(i,a.fd m.g i))→xy (qp bz) c→(∀x∈bz,x.1.rs.length≤32)→
 az B H' (dJ aN a::iM mid (qp bz) c::bw ((bz.map Prod.fst).map Rz.bX)::IR uq uc (cZ m.g.us)::L)→
 Ke 0 (St.mk (ab [(3,T.lp 3 0),(4,T.lp 4 0),(6,T.v (V.aj (some (mpid,0)))),(8,T.lp 8 0),(9,T.v (V.map (some mid)))]) (ab [(3,It m),(4,th),(8,tf (some (mpid,0)) (some pid) (nO 0 (m.g.us.flatMap (a.fd m.g))) none 0 0)]) H')):∀(k j:Nat) (bz:List (Rz×Nat)) (c:Nat) {H:ag},j+k=m.g.us.length→
 nM bz=((m.g.us.take j).map fun i=>(i,a.fd m.g i))→xy (qp bz) c→(∀x∈bz,x.1.rs.length≤32)→
 az B H (dJ aN a::iM mid (qp bz) c::bw ((bz.map Prod.fst).map Rz.bX)::IR uq uc (cZ m.g.us)::L)→
 lo 59 11
  (St.mk (ab [(0,T.v (V.aj (some (aN,0)))),(3,T.lp 3 0),(4,T.lp 4 0),(6,T.v (V.aj (some (mpid,0)))),(8,T.lp 8 0),(9,T.v (V.map (some mid))),(61,T.v (V.slice uq m.g.us.length uc)),(62,T.v (V.int .i64 (m.g.us.length:Int))),(63,T.v (V.int .i64 (j:Int)))])
   (ab [(3,It m),(4,th),(8,tf (some (mpid,0)) (some pid) (nO 0 ((m.g.us.take j).flatMap (a.fd m.g))) none 0 0)]) H) Kr Ke
 |0,j,bz,c,H,hj,hbz,hb,hl,h=>by
  obtain rfl:j=m.g.us.length:=by omega
  rw[List.take_length] at hbz⊢;rw[Jn,decide_eq_false (by omega),ai];exact hk bz c H hbz hb hl h
 |k+1,j,bz,c,H,hj,hbz,hb,hl,h=>by
  have hlt:j<m.g.us.length:=by omega
  have KW:=cn.kE m.g hg.b.2;obtain⟨s1,s2,s3⟩:=(az.uN (h.ord [3])).at (i:=j) (by simpa using hlt);have e1:(cZ m.g.us)[j]'(by simpa using hlt)=((m.g.us[j]:Nat):Int):=by simp [cZ]
  rw[e1] at s3;have a1:(j:Int)<(m.g.us.length:Int):=by omega
  have a2:0≤(j:Int):=by omega
  have hmem:=List.getElem_mem hlt;have hi:=rM _ hmem;rw[Jn];simp only[AJ,reduceIte,Nat.reduceEqDiff,a1,a2,Int.toNat_natCast,s1,s2,s3];have hm':dA B (iM mid (qp bz) c::bw ((bz.map Prod.fst).map Rz.bX)::IR uq uc (cZ m.g.us)::L) m:=((hm.bS _).bS _).bS _;refine OM h hm' hf hg hr tK hmem hi (fun q c2 rs H1 SQ h1=> ?_)
  have Hm:rs.map Rf.f=a.fd m.g m.g.us[j]:=by
   rw[SQ];unfold Ar.fd;rw[List.getD_eq_getElem?_getD,List.getElem?_eq_getElem hi];rfl
  have hrl:rs.length≤32:=by
   have h1:=congrArg List.length Hm;rw[List.length_map] at h1;have h2:=VI a m.g m.g.us[j];rw[List.getD_eq_getElem?_getD,List.getElem?_eq_getElem hi] at h2;have h3:=hr.len _ (List.getElem_mem hi);simp only[Option.getD_some] at h2;omega
  have hmo:=uX (h1.ord [3]);have gC:=(h1.ord [3]).JY (m.g.us[j]:Int) (.slice q rs.length c2)
  have hnew:pr m.g.us[j] bz=none:=by
   refine LG fun x hx e=> ?_
   have:(x.1.i,x.1.rs.map Rf.f)∈nM bz:=List.mem_map.2 ⟨x,hx,rfl⟩;rw[hbz] at this;obtain⟨y,hy,he⟩:=List.mem_map.1 this;have hxy:y=m.g.us[j]:=by have:=congrArg Prod.fst he;simp only at this;omega
   rw[hxy] at hy;obtain⟨t,ht,het⟩:=List.mem_iff_getElem.1 hy;rw[List.length_take] at ht;rw[List.getElem_take] at het;exact List.pairwise_iff_getElem.1 vy t j (by omega) hlt (by omega) het
  have EM:rP (m.g.us[j]:Int) (.slice q rs.length c2) (qp bz) c=(qp (bz++[(⟨m.g.us[j],q,c2,rs⟩,c)]),c+1):=by
   unfold rP;rw[DX,hnew];simp [qp]
  have nh:=hb.ins (m.g.us[j]:Int) (.slice q rs.length c2);rw[EM] at gC nh;simp only[AJ,reduceIte,Nat.reduceEqDiff,hmo,Option.isSome_some];generalize il H1 _ _ _ _=H2 at gC⊢;have h2:az B H2 (Rw 130 8 q c2 (rs.map Rf.cs)::bw (rs.map Rf.bX)::bw ((bz.map Prod.fst).map Rz.bX)::dJ aN a::iM mid (qp (bz++[(⟨m.g.us[j],q,c2,rs⟩,c)])) (c+1)::IR uq uc (cZ m.g.us)::L):=gC.ord [1,1,2,1];refine J2 (h2.lO) (by omega) rs.length 0 _ (by omega) ?_;simp only[AJ,reduceIte,Nat.reduceEqDiff,f25,uI,mF,mG,mH,mI,f112,xb,p9,qd,qe,qf];rw[aK (by omega)];have h3:=az.acD (z:=⟨m.g.us[j],q,c2,rs⟩) h2
  have e3:nO (nO 0 ((m.g.us.take j).flatMap (a.fd m.g))) ((rs.drop 0).map Rf.f)=nO 0 ((m.g.us.take (j+1)).flatMap (a.fd m.g)):=by
   rw[List.drop_zero,Hm,List.take_succ_eq_append_getElem hlt,List.flatMap_append]
   have app:∀(l l':List Fd) (n:Nat),nO n (l++l')=nO (nO n l) l':=by
    intro l
    induction l with
    |nil=>intro l' n;rfl
    |cons x l ih=>intro l' n;rw[List.cons_append,nO,nO,ih]
   rw[app];simp
  rw[e3];refine J3 hm hf hg hr tK rM vy hk k (j+1) _ (c+1) (by omega) ?_ nh ?_ ?_
  ·have:nM (bz++[(⟨m.g.us[j],q,c2,rs⟩,c)])=nM bz++[(m.g.us[j],rs.map Rf.f)]:=by simp [nM]
   rw[this,hbz,Hm,List.take_succ_eq_append_getElem hlt,List.map_append];rfl
  ·intro x hx;rcases List.mem_append.1 hx with hx|hx
   ·exact hl x hx
   ·rw[List.mem_singleton] at hx;subst hx;exact hrl
  ·have e4:(bz++[(Rz.mk m.g.us[j] q c2 rs,c)]).map Prod.fst=bz.map Prod.fst++[Rz.mk m.g.us[j] q c2 rs]:=by simp
   rw[e4];exact h3.ord [1,1]
def F8 (i:Nat):List (Rz×Nat)→List (Rz×Nat)
 |[]=>[]
 |x::l=>if x.1.i=i then l else x::F8 i l
theorem zA (i:Nat):∀bz:List (Rz×Nat),DV (i:Int) (qp bz)=qp (F8 i bz)
 |[]=>rfl
 |x::l=>by
  show (if (x.1.i:Int)=(i:Int) then qp l else _::DV (i:Int) (qp l))=_
  rw[zA i l,F8];by_cases h:x.1.i=i
  ·have:(x.1.i:Int)=(i:Int):=by omega
   rw[if_pos this,if_pos h]
  ·have:¬(x.1.i:Int)=(i:Int):=by omega
   rw[if_neg this,if_neg h];rfl
theorem F9 (i:Nat):∀bz:List (Rz×Nat),xA i (nM bz)=nM (F8 i bz)
 |[]=>rfl
 |x::l=>by
  show (if x.1.i=i then nM l else _::xA i (nM l))=_
  rw[F9 i l,F8];split<;>rfl
theorem Ga {i:Nat} {x:Rz×Nat}:∀{bz:List (Rz×Nat)},x∈F8 i bz→x∈bz
 |y::l,h=>by
  rw[F8] at h;split at h
  ·exact List.mem_cons_of_mem _ h
  ·rcases List.mem_cons.1 h with rfl|h
   ·exact List.mem_cons_self
   ·exact List.mem_cons_of_mem _ (Ga h)
theorem D0 {zs:List Rz} (hzl:∀z∈zs,z.rs.length≤1000000) {uq:Oq} {uc:Nat} {sq:Nat} (KW:m.g.us.length≤62) {Kr:Am.St→Prop} {Ke:Nat→Am.St→Prop}:∀(k j:Nat) (bz:List (Rz×Nat)) (c:Nat) (sp:List Nat) {q:Oq} {sc:Nat} {H:ag},j+k=m.g.us.length→sp.length≤j→xy (qp bz) c→(∀x∈bz,x.1∈zs)→(∀Xc c' q' sc' H',nM Xc=(AG (m.g.us.drop j) (nM bz)).1→xy (qp Xc) c'→(∀x∈Xc,x.1∈zs)→
 az B H' (iM mid (qp Xc) c'::bw (zs.map Rz.bX)::IR q' sc' (cZ (sp++(AG (m.g.us.drop j) (nM bz)).2))::IR uq uc (cZ m.g.us)::L)→
 Ke 4 (St.mk (ab [(3,T.lp 3 0),(4,T.lp 4 0),(6,T.v (V.aj (some (mpid,0)))),(8,T.lp 8 0),(9,T.v (V.map (some mid)))])
  (ab [(3,It m),(4,th),(8,tf (some (mpid,0)) (some pid) sq q' (sp++(AG (m.g.us.drop j) (nM bz)).2).length sc')]) H'))→
 az B H (iM mid (qp bz) c::bw (zs.map Rz.bX)::IR q sc (cZ sp)::IR uq uc (cZ m.g.us)::L)→
 lo 59 29
  (St.mk (ab [(3,T.lp 3 0),(4,T.lp 4 0),(6,T.v (V.aj (some (mpid,0)))),(8,T.lp 8 0),(9,T.v (V.map (some mid))),(97,T.v (V.slice uq m.g.us.length uc)),(98,T.v (V.int .i64 (m.g.us.length:Int))),(99,T.v (V.int .i64 (j:Int)))])
   (ab [(3,It m),(4,th),(8,tf (some (mpid,0)) (some pid) sq q sp.length sc)]) H) Kr Ke
 |0,j,bz,c,sp,q,sc,H,hj,hsp,hb,hbz,hk,h=>by
  obtain rfl:j=m.g.us.length:=by omega
  rw[Jm,decide_eq_false (by omega),ai];have:=hk bz c q sc H;simp only[List.drop_length,AG,List.append_nil] at this;exact this trivial hb hbz h
 |k+1,j,bz,c,sp,q,sc,H,hj,hsp,hb,hbz,hk,h=>by
  have hlt:j<m.g.us.length:=by omega
  obtain⟨s1,s2,s3⟩:=(az.uN (h.ord [3])).at (i:=j) (by simpa using hlt);have e1:(cZ m.g.us)[j]'(by simpa using hlt)=((m.g.us[j]:Nat):Int):=by simp [cZ]
  rw[e1] at s3;have a1:(j:Int)<(m.g.us.length:Int):=by omega
  have a2:0≤(j:Int):=by omega
  rw[List.drop_eq_getElem_cons hlt,AG] at hk;rw[Jm];simp only[AJ,reduceIte,Nat.reduceEqDiff,a1,a2,Int.toNat_natCast,s1,s2,s3];rw[aK (by omega)];refine LD h hbz hzl m.g.us[j] (fun H1 h1=> ?_);simp only[AJ,reduceIte,Nat.reduceEqDiff];by_cases hc:kS (nM bz) m.g.us[j]=true
  ·simp only[hc,if_true] at hk;simp only[hc,ak]
   have hp:=az.zq (h1.ord [2]) (m.g.us[j]:Int) (e2:=3) (by simp;omega) (K:=fun q n c H'=>ah (eD H' .i64 (some mid)) (lo 59 29
    (St.mk (ab [(3,T.lp 3 0),(4,T.lp 4 0),(6,T.v (V.aj (some (mpid,0)))),(8,T.lp 8 0),(9,T.v (V.map (some mid))),(97,T.v (V.slice uq m.g.us.length uc)),(98,T.v (V.int .i64 (m.g.us.length:Int))),(99,T.v (V.int .i64 ((j+1:Nat):Int)))])
    (ab [(3,It m),(4,th),(8,tf (some (mpid,0)) (some pid) sq q n c)]) (pA H' (some mid) (m.g.us[j]:Int))) Kr Ke)) (fun q' c' H2 h2=> ?_)
   ·rw[gL] at hp;exact hp
   ·have hmo:=uX (h2.ord [1]);have EJ:=(h2.ord [1]).Z5 (m.g.us[j]:Int);rw[zA] at EJ;have nh:=hb.ET (m.g.us[j]:Int);rw[zA] at nh;simp only[hmo,aw];have e5:cZ sp++[(m.g.us[j]:Int)]=cZ (sp++[m.g.us[j]]):=by simp [cZ]
    rw[e5] at EJ⊢;rw[gL];refine D0 hzl KW k (j+1) (F8 m.g.us[j] bz) c (sp++[m.g.us[j]]) (by omega) (by simp;omega) nh (fun x hx=>hbz x (Ga hx)) (fun Xc c2 q2 sc2 H3 e3 EX hz3 h3=> ?_) (EJ.ord [0,1]);rw[←F9] at e3 h3⊢;rw[List.append_assoc] at h3⊢;exact hk Xc c2 q2 sc2 H3 e3 EX hz3 h3
  ·have tG:kS (nM bz) m.g.us[j]=false:=by simpa using hc
   simp only[tG,Bool.false_eq_true,if_false] at hk;simp only[tG,ai];exact D0 hzl KW k (j+1) bz c sp (by omega) (by omega) hb hbz hk h1
end
def sg (f:Fd):List Fd→List Fd
 |[]=>[f]
 |o::l=>if o.s.ao=f.s.ao then (if o.s.seq<f.s.seq then f::l else o::l) else o::sg f l
def u7:List Fd→List Fd→List Fd
 |pg,[]=>pg
 |pg,f::l=>u7 (sg f pg) l
def jG (a:Nat):List Fd→Option Fd
 |[]=>none
 |f::l=>if f.s.ao=a then some f else jG a l
def lR (pz:List (Rf×Nat)):List En:=pz.map fun x=>⟨(x.1.f.s.ao:Int),.agg x.1.cs,x.2⟩
def mq (a:Nat):List (Rf×Nat)→Option (Rf×Nat)
 |[]=>none
 |x::l=>if x.1.f.s.ao=a then some x else mq a l
def si (r:Rf):List (Rf×Nat)→List (Rf×Nat)
 |[]=>[]
 |x::l=>if x.1.f.s.ao=r.f.s.ao then (r,x.2)::l else x::si r l
theorem u9 (a:Nat):∀pz:List (Rf×Nat),Hh (a:Int) (lR pz)=(mq a pz).map fun x:Rf×Nat=>V.agg x.1.cs
 |[]=>rfl
 |x::l=>by
  show (if (x.1.f.s.ao:Int)=(a:Int) then some _ else Hh (a:Int) (lR l))=_
  rw[mq,u9 a l];by_cases h:x.1.f.s.ao=a
  ·have:(x.1.f.s.ao:Int)=(a:Int):=by omega
   rw[if_pos this,if_pos h];rfl
  ·have:¬(x.1.f.s.ao:Int)=(a:Int):=by omega
   rw[if_neg this,if_neg h]
theorem Gb (r:Rf):∀pz:List (Rf×Nat),Bg (r.f.s.ao:Int) (.agg r.cs) (lR pz)=lR (si r pz)
 |[]=>rfl
 |x::l=>by
  show (if (x.1.f.s.ao:Int)=(r.f.s.ao:Int) then _::lR l else _::Bg (r.f.s.ao:Int) (.agg r.cs) (lR l))=_
  rw[Gb r l,si];by_cases h:x.1.f.s.ao=r.f.s.ao
  ·have:(x.1.f.s.ao:Int)=(r.f.s.ao:Int):=by omega
   rw[if_pos this,if_pos h];show (⟨(x.1.f.s.ao:Int),_,_⟩:En)::_=⟨(r.f.s.ao:Int),_,_⟩::_
   rw[h];rfl
  ·have:¬(x.1.f.s.ao:Int)=(r.f.s.ao:Int):=by omega
   rw[if_neg this,if_neg h];rfl
def xQ (pz:List (Rf×Nat)):List Fd:=pz.map fun x=>x.1.f
theorem nP {a:Nat} {x:Rf×Nat}:∀{pz:List (Rf×Nat)},mq a pz=some x→x∈pz∧x.1.f.s.ao=a
 |y::l,h=>by
  rw[mq] at h;split at h
  ·rename_i e;cases h;exact⟨List.mem_cons_self,e⟩
  ·obtain⟨h1,h2⟩:=nP h;exact⟨List.mem_cons_of_mem _ h1,h2⟩
theorem B2 {a:Nat}:∀{pz:List (Rf×Nat)},mq a pz=none→∀x∈pz,x.1.f.s.ao≠a
 |y::l,h,x,hx=>by
  rw[mq] at h;split at h
  ·cases h
  ·rename_i e;rcases List.mem_cons.1 hx with rfl|hx
   ·exact e
   ·exact B2 h x hx
theorem B3 {r:Rf} {c:Nat}:∀{pz:List (Rf×Nat)},mq r.f.s.ao pz=none→sg r.f (xQ pz)=xQ (pz++[(r,c)])
 |[],_=>rfl
 |y::l,h=>by
  rw[mq] at h;split at h
  ·cases h
  ·rename_i e;show (if y.1.f.s.ao=r.f.s.ao then _ else y.1.f::sg r.f (xQ l))=_
   rw[if_neg e,B3 h];rfl
theorem B4 {r:Rf} {x:Rf×Nat}:∀{pz:List (Rf×Nat)},mq r.f.s.ao pz=some x→sg r.f (xQ pz)=if x.1.f.s.seq<r.f.s.seq then xQ (si r pz) else xQ pz
 |y::l,h=>by
  rw[mq] at h;show (if y.1.f.s.ao=r.f.s.ao then (if y.1.f.s.seq<r.f.s.seq then r.f::xQ l else y.1.f::xQ l) else y.1.f::sg r.f (xQ l))=_
  rw[si];split at h
  ·rename_i e;cases h;rw[if_pos e,if_pos e];rfl
  ·rename_i e;rw[if_neg e,if_neg e,B4 h];split<;>rfl
theorem zB (r:Rf):∀pz:List (Rf×Nat),(si r pz).map (fun x=>x.1.f.s.ao)=pz.map fun x=>x.1.f.s.ao
 |[]=>rfl
 |y::l=>by
  rw[si];split
  ·rename_i e;rw[List.map_cons,List.map_cons,e]
  ·rw[List.map_cons,zB r l,List.map_cons]
theorem B5 {r:Rf} {x:Rf×Nat}:∀{pz:List (Rf×Nat)},x∈si r pz→x∈pz∨x.1=r
 |y::l,h=>by
  rw[si] at h;split at h
  ·rcases List.mem_cons.1 h with rfl|h
   ·exact .inr rfl
   ·exact .inl (List.mem_cons_of_mem _ h)
  ·rcases List.mem_cons.1 h with rfl|h
   ·exact .inl List.mem_cons_self
   ·exact(B5 h).imp (List.mem_cons_of_mem _) id
structure Bh (g:cn) (pz:List (Rf×Nat)):Prop where
 nd:(pz.map fun x=>x.1.f.s.ao).Nodup
 b:∀x∈pz,(x.1.f.s.ao:Int)≤g.cap∧(x.1.f.b:Int)<g.aE∧x.1.f.p<32
abbrev LH (g:cn) (f:Fd):Prop:=(f.s.ao:Int)≤g.cap∧(f.b:Int)<g.aE∧f.p<32
section
variable {B:ag} {L:List cv} {H:ag} {K:V→ag→Prop} {aN mid pid mpid:Nat} {a:Ar} {m:Gm}
theorem xR {P0:List Fd} {zs:List Rz} {z:Rz} (hz:z∈zs) (hzl:z.rs.length≤1000000) (hin:∀r∈z.rs,LH m.g r.f) {sq:Nat} {uq spq:Oq} {un uc spn spc:Nat} {tn tj:Int} {Kr:Am.St→Prop} {Ke:Nat→Am.St→Prop} (hk:∀pz c H',xQ pz=u7 P0 (z.rs.map Rf.f)→xy (lR pz) c→Bh m.g pz→az B H' (iM pid (lR pz) c::bw (zs.map Rz.bX)::L)→Ke 8 (St.mk (ab [(4,T.lp 4 0),(6,T.v (V.aj (some (mpid,0)))),(8,T.lp 8 0),(9,T.v (V.map (some mid))),(116,T.v (V.slice uq un uc)),(117,T.v (V.int .i64 tn)),(118,T.v (V.int .i64 tj))]) (ab [(4,th),(8,tf (some (mpid,0)) (some pid) sq spq spn spc)]) H')):∀(k i:Nat) (pz:List (Rf×Nat)) (c:Nat) {H:ag},i+k=z.rs.length→u7 (xQ pz) ((z.rs.drop i).map Rf.f)=u7 P0 (z.rs.map Rf.f)→xy (lR pz) c→Bh m.g pz→az B H (iM pid (lR pz) c::bw (zs.map Rz.bX)::L)→lo 59 44 (St.mk (ab [(4,T.lp 4 0),(6,T.v (V.aj (some (mpid,0)))),(8,T.lp 8 0),(9,T.v (V.map (some mid))),(116,T.v (V.slice uq un uc)),(117,T.v (V.int .i64 tn)),(118,T.v (V.int .i64 tj)),(124,T.v (V.slice z.q z.rs.length z.c)),(125,T.v (V.int .i64 (z.rs.length:Int))),(126,T.v (V.int .i64 (i:Int)))]) (ab [(4,th),(8,tf (some (mpid,0)) (some pid) sq spq spn spc)]) H) Kr Ke
 |0,i,pz,c,H,hi,he,hb,hok,h=>by
  obtain rfl:i=z.rs.length:=by omega
  rw[List.drop_length] at he;rw[DJ,decide_eq_false (by omega),ai];exact hk pz c H he hb hok h
 |k+1,i,pz,c,H,hi,he,hb,hok,h=>by
  have hlt:i<z.rs.length:=by omega
  obtain⟨hrz,hdz⟩:=u5 (h.ord [1]) hz;obtain⟨s1,s2,s3⟩:=xd hrz (wi z.rs).pw (by decide) (i:=i) (by simpa using hlt);have s2':H.inb (pb z.q) (po z.q+i*8) 8=true:=s2
  have I8:H.sub (pb z.q) (po z.q+i*8) 8=(z.rs[i]).cs:=by
   rw[List.getElem_map] at s3;exact s3
  have a1:(i:Int)<(z.rs.length:Int):=by omega
  have a2:0≤(i:Int):=by omega
  obtain⟨r,hr⟩:∃r,r=z.rs[i]:=⟨_,rfl⟩;have Wv:=hin _ (List.getElem_mem hlt);rw[←hr] at I8 Wv;have hfit:aI pj r.cs=true:=rfl;have Ay:Ln r.cs=r.cs:=rfl;have hn4:ae r.cs 4=.int .u64 (r.f.s.seq:Int):=rfl;have hn5:ae r.cs 5=.int .i64 (r.f.s.ao:Int):=rfl;rw[List.drop_eq_getElem_cons hlt,List.map_cons,u7, ←hr] at he;have hmo:=uX h;have oT:=zx h (r.f.s.ao:Int) (.agg (kQ 0 0 0 0 0 0 0 none 0 0));have Ww:=OP h (r.f.s.ao:Int);rw[u9] at oT Ww;rw[Option.isSome_map] at Ww;have gC:=h.JY (r.f.s.ao:Int) (.agg r.cs);have nh:=hb.ins (r.f.s.ao:Int) (.agg r.cs);rw[DJ];simp only[AJ,reduceIte,Nat.reduceEqDiff,a1,a2,Int.toNat_natCast,s1,s2',I8,hfit,Ay,hn4,hn5,hmo,oT,Ww,Bool.not_not,Option.isSome_some];rw[aK (by omega)]
  cases hg:mq r.f.s.ao pz with
  |none=>
   have EM:rP (r.f.s.ao:Int) (.agg r.cs) (lR pz) c=(lR (pz++[(r,c)]),c+1):=by
    unfold rP;rw[u9,hg];simp [lR]
   rw[EM] at gC nh;have MV:aI pj (kQ 0 0 0 0 0 0 0 none 0 0)=true:=rfl;simp only[Option.map_none,Option.isSome_none,AJ,reduceIte,Nat.reduceEqDiff,MV,cond_false];refine xR hz hzl hin hk k (i+1) _ (c+1) (by omega) ?_ nh ⟨?_, ?_⟩ gC
   ·rw[←he,B3 hg]
   ·rw[List.map_append,List.nodup_append];refine⟨hok.nd,by simp,fun x hx y hy=> ?_⟩;simp only[List.map_cons,List.map_nil,List.mem_singleton] at hy;subst hy;obtain⟨w,hw,rfl⟩:=List.mem_map.1 hx;exact B2 hg w hw
   ·intro x hx;rcases List.mem_append.1 hx with hx|hx
    ·exact hok.b x hx
    ·rw[List.mem_singleton] at hx;subst hx;exact Wv
  |some x=>
   obtain⟨hx1,tL⟩:=nP hg;have MV:aI pj x.1.cs=true:=rfl;have hx4:ae x.1.cs 4=.int .u64 (x.1.f.s.seq:Int):=rfl;simp only[Option.map_some,Option.isSome_some,AJ,reduceIte,Nat.reduceEqDiff,MV,hx4,cond_true];have hold:=B4 hg;by_cases Hb:x.1.f.s.seq<r.f.s.seq
   ·have Wx:(x.1.f.s.seq:Int)<(r.f.s.seq:Int):=by omega
    have EM:rP (r.f.s.ao:Int) (.agg r.cs) (lR pz) c=(lR (si r pz),c):=by
     unfold rP;rw[u9,hg];simp only[Option.map_some,Option.isSome_some,if_true,Gb]
    rw[EM] at gC nh;rw[if_pos Hb] at hold;simp only[Wx,decide_true,ak];refine xR hz hzl hin hk k (i+1) _ c (by omega) (by rw[←he,hold]) nh ⟨by rw[zB];exact hok.nd,fun y hy=> ?_⟩ gC;rcases B5 hy with hy|hy
    ·exact hok.b y hy
    ·rw[hy];exact Wv
   ·have Wx:¬(x.1.f.s.seq:Int)<(r.f.s.seq:Int):=by omega
    rw[if_neg Hb] at hold;simp only[Wx,decide_false,ai];exact xR hz hzl hin hk k (i+1) pz c (by omega) (by rw[←he,hold]) hb hok h
def ej (cM:List (Nat×List Fd)):List Fd→List Nat→List Fd
 |pg,[]=>pg
 |pg,i::us=>ej cM (u7 pg (hY i cM)) us
theorem J4 {zs:List Rz} {bz:List (Rz×Nat)} {bc:Nat} (hbz:∀x∈bz,x.1∈zs) (hzl:∀z∈zs,z.rs.length≤1000000) (hin:∀z∈zs,∀r∈z.rs,LH m.g r.f) {sq:Nat} (KW:m.g.us.length≤62) {uq spq:Oq} {uc spn spc:Nat} {Kr:Am.St→Prop} {Ke:Nat→Am.St→Prop} (hk:∀pz c H',xQ pz=ej (nM bz) [] m.g.us→xy (lR pz) c→Bh m.g pz→az B H' (iM pid (lR pz) c::bw (zs.map Rz.bX)::iM mid (qp bz) bc::IR uq uc (cZ m.g.us)::L)→Ke 6 (St.mk (ab [(4,T.lp 4 0),(6,T.v (V.aj (some (mpid,0)))),(8,T.lp 8 0)]) (ab [(4,th),(8,tf (some (mpid,0)) (some pid) sq spq spn spc)]) H')):∀(k j:Nat) (pz:List (Rf×Nat)) (c:Nat) {H:ag},j+k=m.g.us.length→ej (nM bz) (xQ pz) (m.g.us.drop j)=ej (nM bz) [] m.g.us→xy (lR pz) c→Bh m.g pz→az B H (iM pid (lR pz) c::bw (zs.map Rz.bX)::iM mid (qp bz) bc::IR uq uc (cZ m.g.us)::L)→lo 59 39 (St.mk (ab [(4,T.lp 4 0),(6,T.v (V.aj (some (mpid,0)))),(8,T.lp 8 0),(9,T.v (V.map (some mid))),(116,T.v (V.slice uq m.g.us.length uc)),(117,T.v (V.int .i64 (m.g.us.length:Int))),(118,T.v (V.int .i64 (j:Int)))]) (ab [(4,th),(8,tf (some (mpid,0)) (some pid) sq spq spn spc)]) H) Kr Ke
 |0,j,pz,c,H,hj,he,hb,hok,h=>by
  obtain rfl:j=m.g.us.length:=by omega
  rw[List.drop_length] at he;rw[Jl,decide_eq_false (by omega),ai];exact hk pz c H he hb hok h
 |k+1,j,pz,c,H,hj,he,hb,hok,h=>by
  have hlt:j<m.g.us.length:=by omega
  obtain⟨s1,s2,s3⟩:=(az.uN (h.ord [3])).at (i:=j) (by simpa using hlt);have e1:(cZ m.g.us)[j]'(by simpa using hlt)=((m.g.us[j]:Nat):Int):=by simp [cZ]
  rw[e1] at s3;have a1:(j:Int)<(m.g.us.length:Int):=by omega
  have a2:0≤(j:Int):=by omega
  rw[List.drop_eq_getElem_cons hlt,ej,uZ] at he;have hmo:=uX (h.ord [2]);have oT:=OU (h.ord [2]) m.g.us[j];rw[Jl];simp only[AJ,reduceIte,Nat.reduceEqDiff,a1,a2,Int.toNat_natCast,s1,s2,s3,hmo,oT]
  have hnext:∀TM c' H',ej (nM bz) (xQ TM) (m.g.us.drop (j+1))=ej (nM bz) [] m.g.us→xy (lR TM) c'→Bh m.g TM→az B H' (iM pid (lR TM) c'::bw (zs.map Rz.bX)::iM mid (qp bz) bc::IR uq uc (cZ m.g.us)::L)→
   lo 59 39
    (St.mk (ab [(4,T.lp 4 0),(6,T.v (V.aj (some (mpid,0)))),(8,T.lp 8 0),(9,T.v (V.map (some mid))),(116,T.v (V.slice uq m.g.us.length uc)),(117,T.v (V.int .i64 (m.g.us.length:Int))),(118,T.v (V.int .i64 (IntKind.i64.wrap ((j:Int)+1))))])
     (ab [(4,th),(8,tf (some (mpid,0)) (some pid) sq spq spn spc)]) H') Kr Ke:=by
   intro TM c' H' e' hb' cB h';rw[aK (by omega)];exact J4 hbz hzl hin KW hk k (j+1) TM c' (by omega) e' hb' cB h'
  have rR:∀(z:Rz),z∈zs→ej (nM bz) (u7 (xQ pz) (z.rs.map Rf.f)) (m.g.us.drop (j+1))=ej (nM bz) [] m.g.us→
   lo 59 44
    (St.mk (ab [(4,T.lp 4 0),(6,T.v (V.aj (some (mpid,0)))),(8,T.lp 8 0),(9,T.v (V.map (some mid))),(116,T.v (V.slice uq m.g.us.length uc)),(117,T.v (V.int .i64 (m.g.us.length:Int))),(118,T.v (V.int .i64 (j:Int))),
     (124,T.v (V.slice z.q z.rs.length z.c)),(125,T.v (V.int .i64 (z.rs.length:Int))),(126,T.v (V.int .i64 0))]) (ab [(4,th),(8,tf (some (mpid,0)) (some pid) sq spq spn spc)]) H)
    (fun S'=>Kr (St.mk (ab []) (ab []) S'.3)) (fun j' S'=>br (decide (j'=8)) (ah (aC (KT.lp 4) (S'.1 4)&&(aC (KT.k .aj) (S'.1 6)&&(aC (KT.lp 8) (S'.1 8)&&(aC (KT.k .map) (S'.1 9)&&(aC (KT.k .slice) (S'.1 116)&&(aC (KT.k (.int .i64)) (S'.1 117)&&aC (KT.k (.int .i64)) (S'.1 118))))))&&(ey 113 nF (S'.2 4)&&ey 113 nF (S'.2 8)))
     (lo 59 39
      (St.mk (ab [(4,T.lp 4 0),(6,T.v (V.aj (V.ay (T.val (S'.1 6))))),(8,T.lp 8 0),(9,T.v (V.map (V.cL (T.val (S'.1 9))))),(116,T.v (V.slice (V.au (T.val (S'.1 116))) (V.ax (T.val (S'.1 116))) (V.aD (T.val (S'.1 116))))),(117,T.v (V.int .i64 (V.aa (T.val (S'.1 117))))),(118,T.v (V.int .i64 (IntKind.i64.wrap (V.aa (T.val (S'.1 118))+1))))])
       (ab [(4,aR.cells 113 (p8 (aq (S'.2 4)))),(8,aR.cells 113 (p8 (aq (S'.2 8))))]) S'.3) Kr Ke)) False):=by
   intro z hz SD;refine xR (P0:=xQ pz) hz (hzl z hz) (hin z hz) (fun TM c' H' e' hb' cB h'=> ?_) z.rs.length 0 pz c (by omega) rfl hb hok h;simp only[AJ,reduceIte,Nat.reduceEqDiff,f112,xb,p9,qd,qe,qf,V.cL,m7,V.av];exact hnext TM c' H' (by rw[e'];exact SD) hb' cB h'
  cases hg:pr m.g.us[j] bz with
  |none=>
   rw[hg] at he;simp only[AJ,reduceIte,Nat.reduceEqDiff];rw[DJ,decide_eq_false (by omega),ai];simp only[AJ,reduceIte,Nat.reduceEqDiff,f112,xb,p9,qd,qe,qf,V.cL,m7,V.av];exact hnext pz c H he hb hok h
  |some z=>
   rw[hg] at he;obtain⟨b2,nh⟩:=uY hg;simp only[AJ,reduceIte,Nat.reduceEqDiff];exact rR z (hbz _ nh) he
end
abbrev Vw:=Nat→List Fd
def xB (v:Vw) (c:Nat→List UInt8) (x:Nat) (f:Fd):Prop:=
 f.s.ao=x∧f.s.data=c x∧∀b,∀y∈v b,y.s.ao=x→f.s.seq≤y.s.seq→y.s.data=c x
def mt (v:Vw) (f:Fd):Prop:=f.s.fr≠0∧∃o∈v (f.s.fr-1),Im o f=true
def mf (v:Vw) (b:Nat):Prop:=∃f∈v b,¬mt v f
theorem J5 {o f:Fd}:Im o f=true↔o.s.cU=f.s.cU∧o.s.ao=f.s.ao∧o.s.seq<f.s.seq∧o.s.data=f.s.data:=by
 unfold Im;simp
structure Gd (v:Vw) (c:Nat→List UInt8):Prop where
 n8:∀b,∀f∈v b,f.b=b
 a2:∀x,(c x=[]∧∀b,∀f∈v b,f.s.ao≠x)∨∃b,∃f∈v b,xB v c x f
 a3:∀b,∀t∈v b,mt v t→∃u∈v (t.s.fr-1),u.s.ao=t.s.ao∧u.s.seq<t.s.seq∧u.s.data=t.s.data∧
  ∀b',∀y∈v b',y.s.ao=t.s.ao→u.s.seq≤y.s.seq→y.s.seq≤t.s.seq→y.s.data=t.s.data
 a4:∀b,∀f∈v b,f.s.fr≠b+1
 a6:∀b,∀f∈v b,∀h∈v b,f.s.fr≠0→h.s.fr≠0→f.s.fr=h.s.fr
 a7:∀b,∀t∈v b,mt v t→mf v (t.s.fr-1)
def gM (v:Vw) (b:Nat) (f:Fd):Vw:=fun i=>if i=b then v i++[f] else v i
def kT (v:Vw) (b:Nat):Vw:=fun i=>if i=b then [] else v i
theorem bJ {v:Vw} {b i:Nat} {f y:Fd}:y∈gM v b f i↔y∈v i∨(i=b∧y=f):=by
 unfold gM;by_cases h:i=b
 ·simp [h]
 ·simp [h]
theorem cQ {v:Vw} {b i:Nat} {y:Fd}:y∈kT v b i↔y∈v i∧i≠b:=by
 unfold kT;by_cases h:i=b
 ·simp [h]
 ·simp [h]
section
variable {v:Vw} {c:Nat→List UInt8} {b w x:Nat} {f u t:Fd}
theorem qt (hn:∀i,∀y∈v i,y.s.seq<f.s.seq) {i:Nat} (ht:t∈v i):mt (gM v b f) t↔mt v t:=by
 unfold mt;refine and_congr Iff.rfl ⟨fun⟨o,ho,hm⟩=> ?_,fun⟨o,ho,hm⟩=>⟨o,bJ.2 (.inl ho),hm⟩⟩;rcases bJ.1 ho with ho|⟨_,rfl⟩
 ·exact⟨o,ho,hm⟩
 ·have:=(J5.1 hm).2.2.1;have:=hn i t ht;omega
theorem mf.add (hn:∀i,∀y∈v i,y.s.seq<f.s.seq) (h:mf v w):mf (gM v b f) w:=by
 obtain⟨t,ht,hm⟩:=h;exact⟨t,bJ.2 (.inl ht),fun h=>hm ((qt hn ht).1 h)⟩
theorem D1 (h:mt (kT v b) t):mt v t∧t.s.fr-1≠b:=by
 obtain⟨h0,o,ho,hm⟩:=h;exact⟨⟨h0,o,(cQ.1 ho).1,hm⟩,(cQ.1 ho).2⟩
theorem mf.ET (h:mf v w) (hw:w≠b):mf (kT v b) w:=by
 obtain⟨t,ht,hm⟩:=h;exact⟨t,cQ.2 ⟨ht,hw⟩,fun h=>hm (D1 h).1⟩
theorem xB.ET (h:xB v c x f):xB (kT v b) c x f:=⟨h.1,h.2.1,fun b' y hy=>h.2.2 b' y (cQ.1 hy).1⟩
def oK (c:Nat→List UInt8) (x:Nat) (d:List UInt8):Nat→List UInt8:=fun i=>if i=x then d else c i
theorem xB.put (h:xB v c x u) (hx:f.s.ao≠x):xB (gM v b f) (oK c f.s.ao f.s.data) x u:=by
 have e:oK c f.s.ao f.s.data x=c x:=if_neg (fun h=>hx h.symm);refine⟨h.1,by rw[e];exact h.2.1,fun b' y hy I9 hs=> ?_⟩;rw[e];rcases bJ.1 hy with hy|⟨_,rfl⟩
 ·exact h.2.2 b' y hy I9 hs
 ·exact absurd I9 hx
theorem xB.new (hn:∀i,∀y∈v i,y.s.seq<f.s.seq):xB (gM v b f) (oK c f.s.ao f.s.data) f.s.ao f:=by
 have e:oK c f.s.ao f.s.data f.s.ao=f.s.data:=if_pos rfl;refine⟨rfl,e.symm,fun b' y hy I9 hs=> ?_⟩;rw[e];rcases bJ.1 hy with hy|⟨_,rfl⟩
 ·have:=hn b' y hy;omega
 ·rfl
theorem xB.copy (h:xB v c x u) (hd:f.s.data=c f.s.ao):xB (gM v b f) c x u:=by
 refine⟨h.1,h.2.1,fun b' y hy I9 hs=> ?_⟩;rcases bJ.1 hy with hy|⟨_,rfl⟩
 ·exact h.2.2 b' y hy I9 hs
 ·rw[←I9];exact hd
theorem O4 (hn:∀i,∀y∈v i,y.s.seq<f.s.seq) (h:Gd v c) {i:Nat} (ht:t∈v i) (hm:mt (gM v b f) t):∃u∈gM v b f (t.s.fr-1),u.s.ao=t.s.ao∧u.s.seq<t.s.seq∧u.s.data=t.s.data∧∀b',∀y∈gM v b f b',y.s.ao=t.s.ao→u.s.seq≤y.s.seq→y.s.seq≤t.s.seq→y.s.data=t.s.data:=by
 obtain⟨u,hu,h1,h2,h3,h4⟩:=h.a3 i t ht ((qt hn ht).1 hm);refine⟨u,bJ.2 (.inl hu),h1,h2,h3,fun b' y hy I9 hs1 n7=> ?_⟩;rcases bJ.1 hy with hy|⟨_,rfl⟩
 ·exact h4 b' y hy I9 hs1 n7
 ·have:=hn i t ht;omega
theorem Gd.put (h:Gd v c) (hn:∀i,∀y∈v i,y.s.seq<f.s.seq) (hb:f.b=b) (hf:f.s.fr=0):Gd (gM v b f) (oK c f.s.ao f.s.data) where
 n8:=fun i y hy=>by
  rcases bJ.1 hy with hy|⟨rfl,rfl⟩
  ·exact h.n8 i y hy
  ·exact hb
 a2:=fun x=>by
  by_cases hx:f.s.ao=x
  ·subst hx;exact .inr ⟨b,f,bJ.2 (.inr ⟨rfl,rfl⟩),xB.new hn⟩
  ·rcases h.a2 x with⟨h1,h2⟩|⟨i,u,hu,hc⟩
   ·refine .inl ⟨by show (if x=_ then _ else _)=_;rw[if_neg (fun h=>hx h.symm)];exact h1,fun i y hy=> ?_⟩;rcases bJ.1 hy with hy|⟨rfl,rfl⟩
    ·exact h2 i y hy
    ·exact hx
   ·exact .inr ⟨i,u,bJ.2 (.inl hu),hc.put hx⟩
 a3:=fun i t ht hm=>by
  rcases bJ.1 ht with ht|⟨rfl,rfl⟩
  ·exact O4 hn h ht hm
  ·exact absurd hf hm.1
 a4:=fun i y hy=>by
  rcases bJ.1 hy with hy|⟨rfl,rfl⟩
  ·exact h.a4 i y hy
  ·omega
 a6:=fun i y hy z hz h1 h2=>by
  rcases bJ.1 hy with hy|⟨rfl,rfl⟩
  ·rcases bJ.1 hz with hz|⟨rfl,rfl⟩
   ·exact h.a6 i y hy z hz h1 h2
   ·exact absurd hf h2
  ·exact absurd hf h1
 a7:=fun i t ht hm=>by
  rcases bJ.1 ht with ht|⟨rfl,rfl⟩
  ·exact(h.a7 i t ht ((qt hn ht).1 hm)).add hn
  ·exact absurd hf hm.1
theorem RH (hw:w≠b) (hu:u∈v w) (hf:f.s.fr=w+1) (hk:u.s.cU=f.s.cU) (ha:u.s.ao=f.s.ao) (hd:u.s.data=f.s.data) (hn:∀i,∀y∈v i,y.s.seq<f.s.seq):mt (gM v b f) f:=
 ⟨by omega,u,by rw[hf];exact bJ.2 (.inl hu),J5.2 ⟨hk,ha,hn w u hu,hd⟩⟩
theorem Gd.copy (h:Gd v c) (hn:∀i,∀y∈v i,y.s.seq<f.s.seq) (hb:f.b=b) (hw:w≠b) (hu:u∈v w) (hc:xB v c f.s.ao u) (hf:f.s.fr=w+1) (hd:u.s.data=f.s.data) (hall:∀y∈v b,y.s.fr=w+1) (hs:mf v w):Gd (gM v b f) c where
 n8:=fun i y hy=>by
  rcases bJ.1 hy with hy|⟨rfl,rfl⟩
  ·exact h.n8 i y hy
  ·exact hb
 a2:=fun x=>by
  have hdc:f.s.data=c f.s.ao:=by rw[←hd];exact hc.2.1
  rcases h.a2 x with⟨h1,h2⟩|⟨i,u',hu',tG⟩
  ·refine .inl ⟨h1,fun i y hy=> ?_⟩;rcases bJ.1 hy with hy|⟨rfl,rfl⟩
   ·exact h2 i y hy
   ·intro e;exact h2 w u hu (by rw[←e];exact hc.1)
  ·exact .inr ⟨i,u',bJ.2 (.inl hu'),tG.copy hdc⟩
 a3:=fun i t ht hm=>by
  rcases bJ.1 ht with ht|⟨rfl,rfl⟩
  ·exact O4 hn h ht hm
  ·refine⟨u,by rw[hf];exact bJ.2 (.inl hu),hc.1,hn w u hu,hd,fun b' y hy I9 hs1 n7=> ?_⟩;rcases bJ.1 hy with hy|⟨_,rfl⟩
   ·rw[←hd,hc.2.1];exact hc.2.2 b' y hy I9 hs1
   ·rfl
 a4:=fun i y hy=>by
  rcases bJ.1 hy with hy|⟨rfl,rfl⟩
  ·exact h.a4 i y hy
  ·omega
 a6:=fun i y hy z hz h1 h2=>by
  rcases bJ.1 hy with hy'|⟨rfl,rfl⟩
  ·rcases bJ.1 hz with KS|⟨rfl,rfl⟩
   ·exact h.a6 i y hy' z KS h1 h2
   ·rw[hf];exact hall y hy'
  ·rcases bJ.1 hz with hz|⟨_,rfl⟩
   ·rw[hf];exact(hall z hz).symm
   ·rfl
 a7:=fun i t ht hm=>by
  rcases bJ.1 ht with ht|⟨rfl,rfl⟩
  ·exact(h.a7 i t ht ((qt hn ht).1 hm)).add hn
  ·rw[hf];exact hs.add hn
theorem Gd.ET (h:Gd v c) (hc:∀x,(∀i,∀f∈v i,f.s.ao≠x)∨∃i,i≠b∧∃f∈v i,xB v c x f):Gd (kT v b) c where
 n8:=fun i y hy=>h.n8 i y (cQ.1 hy).1
 a2:=fun x=>by
  rcases hc x with h1|⟨i,hi,f,hf,Wj⟩
  ·refine .inl ⟨?_,fun i y hy=>h1 i y (cQ.1 hy).1⟩;rcases h.a2 x with⟨h2,_⟩|⟨i,f,hf,Wj⟩
   ·exact h2
   ·exact absurd Wj.1 (h1 i f hf)
  ·exact .inr ⟨i,f,cQ.2 ⟨hf,hi⟩,Wj.ET⟩
 a3:=fun i t ht hm=>by
  obtain⟨TE,hm2⟩:=D1 hm;obtain⟨u,hu,h1,h2,h3,h4⟩:=h.a3 i t (cQ.1 ht).1 TE;exact⟨u,cQ.2 ⟨hu,hm2⟩,h1,h2,h3,fun b' y hy=>h4 b' y (cQ.1 hy).1⟩
 a4:=fun i y hy=>h.a4 i y (cQ.1 hy).1
 a6:=fun i y hy z hz=>h.a6 i y (cQ.1 hy).1 z (cQ.1 hz).1
 a7:=fun i t ht hm=>by
  obtain⟨TE,hm2⟩:=D1 hm;exact(h.a7 i t (cQ.1 ht).1 TE).ET hm2
end
def jc (N nb:Nat) (pz:List (Rf×Nat)) (seen:List Nat):Pm:=
 ⟨(List.range N).map fun a=>match mq a pz with|some x=>if x.2∈seen then some (x.1.f.b,x.1.f.p) else none|none=>none,nb⟩
def qu (g:cn) (pg:List Fd):Pm:=⟨(List.range (g.cap+1).toNat).map fun a=>(jG a pg).map fun f=>(f.b,f.p),g.aE.toNat⟩
def Ar.RI (a:Ar) (g:cn):List (Nat×List Fd):=g.us.map fun i=>(i,a.fd g i)
def Ar.Be (a:Ar) (g:cn):List Fd:=ej (AG g.us (a.RI g)).1 [] g.us
def Ar.LI (a:Ar) (g:cn):Nat:=nO 0 (g.us.flatMap (a.fd g))
theorem RJ {pz:List (Rf×Nat)} (vy:(pz.map fun x=>x.1.f.s.ao).Nodup) {x:Rf×Nat} (hx:x∈pz):mq x.1.f.s.ao pz=some x:=by
 induction pz with
 |nil=>cases hx
 |cons y l ih=>
  rw[List.map_cons,List.nodup_cons] at vy;rw[mq];rcases List.mem_cons.1 hx with rfl|hx
  ·rw[if_pos rfl]
  ·rw[if_neg (fun e=>vy.1 (List.mem_map.2 ⟨x,hx,e.symm⟩))];exact ih vy.2 hx
theorem wm (a:Nat):∀pz:List (Rf×Nat),jG a (xQ pz)=(mq a pz).map fun x=>x.1.f
 |[]=>rfl
 |x::l=>by
  show (if x.1.f.s.ao=a then some x.1.f else jG a (xQ l))=_
  rw[mq,wm a l];split<;>rfl
theorem Iu {N nb c:Nat} {pz:List (Rf×Nat)} {seen:List Nat} {x:Rf×Nat} (vy:(pz.map fun x=>x.1.f.s.ao).Nodup) (hb:xy (lR pz) c) (hx:x∈pz) (hN:x.1.f.s.ao<N):(jc N nb pz seen).put x.1.f.s.ao (some (x.1.f.b,x.1.f.p))=jc N nb pz (seen++[x.2]):=by
 unfold Pm.put jc;congr 1;apply List.ext_getElem
 ·simp
 ·intro i h1 h2;rw[List.getElem_set];simp only[List.length_set,List.length_map,List.length_range] at h1;by_cases hi:x.1.f.s.ao=i
  ·rw[if_pos hi];simp only[List.getElem_map,List.getElem_range, ←hi,RJ vy hx];rw[if_pos (by simp)]
  ·rw[if_neg hi];simp only[List.getElem_map,List.getElem_range]
   cases hg:mq i pz with
   |none=>rfl
   |some y=>
    obtain⟨hy1,Tz⟩:=nP hg
    have hne:¬y.2=x.2:=by
     intro e;have hp:=(DW.1 hb).1;have hm:(lR pz).map En.b=pz.map Prod.snd:=by simp [lR]
     rw[hm] at hp;have hpn:(pz.map Prod.snd).Nodup:=hp.imp (fun h=>Nat.ne_of_lt h)
     have:y=x:=by
      obtain⟨t,ht,rfl⟩:=List.mem_iff_getElem.1 hy1;obtain⟨u,hu,rfl⟩:=List.mem_iff_getElem.1 hx;by_cases htu:t=u
      ·subst htu;rfl
      ·exfalso;rcases Nat.lt_or_gt_of_ne htu with h|h
       ·exact List.pairwise_iff_getElem.1 hpn t u (by simpa using ht) (by simpa using hu) h (by simpa using e)
       ·exact List.pairwise_iff_getElem.1 hpn u t (by simpa using hu) (by simpa using ht) h (by simpa using e.symm)
     rw[this] at Tz;exact hi Tz
    simp only[List.mem_append,List.mem_singleton,hne,or_false]
theorem D2 {i:Nat} {cap:Int} {f:Fd}:∀{l:List (List UInt8)} {p:Nat},f∈iz i cap l p→f.b=i∧p≤f.p∧f.p<p+l.length∧(f.s.ao:Int)≤cap
 |d::l,p,h=>by
  rw[iz] at h
  have ih:f∈iz i cap l (p+1)→f.b=i∧p≤f.p∧f.p<p+(d::l).length∧(f.s.ao:Int)≤cap:=fun h=>by
   obtain⟨h1,h2,h3,h4⟩:=D2 h;exact⟨h1,by omega,by rw[List.length_cons];omega,h4⟩
  split at h
  ·exact ih h
  ·split at h
   ·rename_i s hs hc;rcases List.mem_cons.1 h with rfl|h
    ·exact⟨rfl,Nat.le_refl _,by show p<p+(l.length+1);omega,hc.2⟩
    ·exact ih h
   ·exact ih h
theorem Z6 {a:Ar} {g:cn} (hr:a.rd g) (tK:a.aA≤32) {i:Nat} (hi:i<a.bs.length) {f:Fd} (hf:f∈a.fd g i):LH g f:=by
 unfold Ar.fd Bk.eQ at hf;rw[List.getD_eq_getElem?_getD,List.getElem?_eq_getElem hi] at hf;simp only[Option.getD_some] at hf;split at hf
 ·cases hf
 ·obtain⟨h1,h2,h3,h4⟩:=D2 hf;have hl:=hr.len _ (List.getElem_mem hi);have hn:=hr.n;exact⟨h4,by omega,by omega⟩
section
variable {B:ag} {L:List cv} {H:ag} {K:V→ag→Prop} {aN mid pid mpid:Nat} {a:Ar} {m:Gm}
theorem LJ {g:cn} {pz:List (Rf×Nat)} (hok:Bh g pz) {N nb:Nat} (hN:N≤65536) (hnb:nb≤64) (hb:g.aE≤(nb:Int)) (seen:List Nat):(jc N nb pz seen).ok:=by
 refine⟨fun b p hm=> ?_,by simp [jc];exact hN,hnb⟩;obtain⟨x,hx,he⟩:=List.mem_map.1 hm;split at he
 ·rename_i y hy;obtain⟨hy1,_⟩:=nP hy;have:=hok.b _ hy1;split at he
  ·cases he;exact⟨by show _<nb;omega,this.2.2⟩
  ·cases he
 ·cases he
theorem J6 {pz:List (Rf×Nat)} {c N nb it:Nat} (hok:Bh m.g pz) (hb:xy (lR pz) c) (hN:N≤65536) (hcN:m.g.cap<(N:Int)) (hnb:nb≤64) (aaA:m.g.aE≤(nb:Int)) {sq:Nat} {spq:Oq} {spn spc:Nat} {Kr:Am.St→Prop} {Ke:Nat→Am.St→Prop} (hk:∀H' seen,(∀e∈lR pz,e.b∈seen)→az B H' (ob it (.dO (some pid) c seen c)::iM pid (lR pz) c::u6 mpid (jc N nb pz seen)::L)→Ke 10 (St.mk (ab [(4,T.lp 4 0),(8,T.lp 8 0)]) (ab [(4,th),(8,tf (some (mpid,0)) (some pid) sq spq spn spc)]) H')):∀(k:Nat) (seen:List Nat) {H:ag},(lR pz).countP (fun y=>decide (y.b∉seen))≤k→az B H (ob it (.dO (some pid) c seen c)::iM pid (lR pz) c::u6 mpid (jc N nb pz seen)::L)→lo 59 55 (St.mk (ab [(4,T.lp 4 0),(6,T.v (V.aj (some (mpid,0)))),(8,T.lp 8 0),(160,T.v (V.dO 111 it))]) (ab [(4,th),(8,tf (some (mpid,0)) (some pid) sq spq spn spc)]) H) Kr Ke
 |k,seen,H,hle,h=>by
  rw[Rq];refine h.OR hb (fun hall=>hk H seen hall h) (fun e he hn H' h' ac0 hkey hval=> ?_);obtain⟨x,hx,rfl⟩:=List.mem_map.1 he;have Xd:=hok.b x hx;have n7:=oJ (fun _=>true) hn hb.lt he;simp only[Bool.and_true,if_true] at n7
  have hneg:∀s:List Nat,(lR pz).countP (fun y=>decide (y.b∈s))+(lR pz).countP (fun y=>decide (y.b∉s))=(lR pz).length:=by
   intro s;have:=List.length_eq_countP_add_countP (fun y:En=>decide (y.b∈s)) (l:=lR pz);rw[this];congr 1;apply List.countP_congr;intro y _;simp
  have n1:=hneg seen;have n2:=hneg (seen++[x.2]);have hfit:aI pj x.1.cs=true:=rfl;have Ay:Rj x.1.cs=jl (x.1.f.b:Int) (x.1.f.p:Int):=rfl;simp only at hkey hval;simp only[ac0,hkey,hval,AJ,reduceIte,Nat.reduceEqDiff,hfit,Ay]
  cases k with
  |zero=>omega
  |succ k=>
   have hlen:(jc N nb pz seen).cg.length=N:=by simp [jc]
   have TN:x.1.f.s.ao<N:=by omega
   refine J0 (h'.ord [2]) (LJ hok hN hnb aaA seen) (by rw[hlen];exact TN) (by show x.1.f.b<nb;omega) Xd.2.2 (fun H2 h2=> ?_);simp only[AJ,reduceIte,Nat.reduceEqDiff];rw[Iu hok.nd hb hx TN] at h2;exact J6 hok hb hN hcN hnb aaA hk k (seen++[x.2]) (by omega) (h2.ord [1,1])
theorem O5 (h:az B H (dJ aN a::L)) (hm:dA B L m) (hf:m.g.cY=true) (hg:m.g.In) (hr:a.rd m.g) (rM:∀i∈m.g.us,i<a.bs.length) (vy:m.g.us.Nodup) (hc:0≤m.g.cap∧m.g.cap<65000) (k:∀mpid pid zs pz c q sc H',xQ pz=a.Be m.g→xy (lR pz) c→Bh m.g pz→az B H' (u6 mpid (qu m.g (a.Be m.g))::iM pid (lR pz) c::bw (List.map Rz.bX zs)::IR q sc (cZ (AG m.g.us (a.RI m.g)).2)::dJ aN a::L)→K (.tuple [.agg (cT (some (mpid,0)) (some pid) (a.LI m.g:Int) q (AG m.g.us (a.RI m.g)).2.length sc),.int .i64 0]) H'):cl 59 [.aj (some (aN,0)),m.v] H K:=by
 have tK:a.aA≤32:=by rw[hr.p];exact hg.p.2
 have Br:=hg.b;have KW:=cn.kE m.g hg.b.2;have hv:m.v=.agg (dN m.g.aE m.g.aA m.g.aH m.q m.g.bK.length m.c):=rfl;rw[hv,abA, ←hv];simp only[Option.isNone_some,ai,eg];refine JO h (hm.bS _) hg.l (fun H1 h1=> ?_);simp only[hf,AJ,reduceIte,Nat.reduceEqDiff];rw[BU h1];simp only[AJ,reduceIte,Nat.reduceEqDiff,hr.n];rw[FX h1];simp only[AJ,reduceIte,Nat.reduceEqDiff,hr.p];refine uQ h1 (hm.bS _) hg (fun H2 h2=> ?_);simp only[AJ,reduceIte,Nat.reduceEqDiff];obtain⟨N,hN⟩:∃N:Nat,N=(m.g.cap+1).toNat:=⟨_,rfl⟩;obtain⟨nb,hnb⟩:∃nb:Nat,nb=m.g.aE.toNat:=⟨_,rfl⟩;have eN:IntKind.i64.wrap (m.g.cap+1)=(N:Int):=by rw[bu (by omega) (by omega)];omega
 have enb:m.g.aE=(nb:Int):=by omega
 have hform:4≤m.g.aE:=by
  have:=hf;unfold cn.cY at this;rw[Bool.and_eq_true] at this;exact(of_decide_eq_true this.1:m.g.zr).1
 have hMN:=RG (K:= ?_) h2 (n:=N) (nb:=nb) (by omega) (by omega) ?_
 ·rw[eN];simp only[enb] at hMN⊢;exact hMN
 intro mpid H3 h3;simp only[AJ,reduceIte,Nat.reduceEqDiff];have h4:=(h3.OO).OO;obtain⟨pid,SO⟩:∃p,p=H3.next:=⟨_,rfl⟩;obtain⟨mid,hmid⟩:∃p,p=(H3.alloc (.map [] 0)).next:=⟨_,rfl⟩;have aaB:(H3.alloc (.map [] 0)).2=mid:=hmid.symm;have aaC:H3.2=pid:=SO.symm;rw[←hmid, ←SO] at h4;rw[aaB,aaC];generalize (ag.alloc (ag.alloc H3 _) _)=H4 at h4⊢;simp only[←enb];have hmm:∀(A1 A2 A3 A4:cv),dA B (A1::A2::A3::A4::L) m:=fun A1 A2 A3 A4=>(((hm.bS _).bS _).bS _).bS _
 refine jF h4 (hmm _ _ _ _) hg (fun uq uc H5 h5=> ?_);simp only[AJ,reduceIte,Nat.reduceEqDiff];have hby:∀bz:List (Rz×Nat),nM bz=(m.g.us.map fun i=>(i,a.fd m.g i))→nM bz=a.RI m.g:=fun _ h=>h
 have h6:az B H5 (dJ aN a::iM mid (qp []) 0::bw ((([]:List (Rz×Nat)).map Prod.fst).map Rz.bX)::IR uq uc (cZ m.g.us)::iM pid (lR []) 0::u6 mpid (Pm.new N nb)::L):=(h5.qj).ord [5,2,0,0,0];have hmA:dA B (iM pid (lR []) 0::u6 mpid (Pm.new N nb)::L) m:=(hm.bS _).bS _;refine J3 (mpid:=mpid) (pid:=pid) (mid:=mid) hmA hf hg hr tK rM vy (fun bz bc H6 hbz hb hl h7=> ?_) m.g.us.length 0 [] 0 (by omega) rfl (xy.nil _) (by simp) h6;simp only[AJ,reduceIte,Nat.reduceEqDiff,f25,uI,mF,mG,mH,mI,f112,xb,p9,qd,qe,qf,V.cL,m7,V.av];rw[show (nO 0 (m.g.us.flatMap (a.fd m.g)))=a.LI m.g from rfl]
 have aaD:∀z∈bz.map Prod.fst,∀r∈z.rs,LH m.g r.f:=by
  intro z hz r hr';obtain⟨x,hx,rfl⟩:=List.mem_map.1 hz;have:(x.1.i,x.1.rs.map Rf.f)∈nM bz:=List.mem_map.2 ⟨x,hx,rfl⟩;rw[hbz] at this;obtain⟨i,hi,he⟩:=List.mem_map.1 this;have SD:=congrArg Prod.snd he;simp only at SD;exact Z6 hr tK (rM i hi) (by rw[SD];exact List.mem_map.2 ⟨r,hr',rfl⟩)
 have hzl:∀z∈bz.map Prod.fst,z.rs.length≤1000000:=by
  intro z hz;obtain⟨x,hx,rfl⟩:=List.mem_map.1 hz;have:=hl x hx;omega
 have aaE:∀x∈bz,x.1∈bz.map Prod.fst:=fun x hx=>List.mem_map.2 ⟨x,hx,rfl⟩
 obtain⟨zs,hzs⟩:∃zs,zs=bz.map Prod.fst:=⟨_,rfl⟩;rw[←hzs] at h7 aaD hzl aaE;refine jF h7 (((((((hm.bS _).bS _).bS _).bS _).bS _).bS _)) hg (fun uq2 uc2 H8 h8=> ?_);simp only[AJ,reduceIte,Nat.reduceEqDiff];have h9:az B H8 (iM mid (qp bz) bc::bw (zs.map Rz.bX)::IR none 0 (cZ [])::IR uq2 uc2 (cZ m.g.us)::dJ aN a::iM pid (lR []) 0::u6 mpid (Pm.new N nb)::L):=(((az.uO h8).ord [5]).drop).ord [3,3];refine D0 (mpid:=mpid) (pid:=pid) hzl KW m.g.us.length 0 bz bc [] (by omega) (by simp) hb aaE (fun bz2 bc2 spq spc H10 Wz nh aaF AP=> ?_) h9;rw[List.drop_zero] at Wz AP⊢;rw[List.nil_append] at AP⊢;rw[hby bz hbz] at Wz AP⊢;simp only[AJ,reduceIte,Nat.reduceEqDiff,f25,uI,mF,mG,mH,mI,f112,xb,p9,qd,qe,qf,V.cL,m7,V.av];refine jF AP ((((((((hm.bS _).bS _).bS _).bS _).bS _).bS _).bS _)) hg (fun uq3 uc3 H11 CP=> ?_);simp only[AJ,reduceIte,Nat.reduceEqDiff];have h12:az B H11 (iM pid (lR []) 0::bw (zs.map Rz.bX)::iM mid (qp bz2) bc2::IR uq3 uc3 (cZ m.g.us)::IR spq spc (cZ (AG m.g.us (a.RI m.g)).2)::dJ aN a::u6 mpid (Pm.new N nb)::L):=((CP.ord [4]).drop).ord [5,2,1];refine J4 (mpid:=mpid) (pid:=pid) (m:=m) aaF hzl aaD KW (fun pz pc H13 Hq hpb EO QD=> ?_) m.g.us.length 0 [] 0 (by omega) rfl (xy.nil _) ⟨by simp,by simp⟩ h12;have aaG:xQ pz=a.Be m.g:=by rw[Hq,Wz];rfl
 have hms:=Tf QD;simp only[AJ,reduceIte,Nat.reduceEqDiff,f25,uI,mF,mG,mH,mI,f112,xb,p9,qd,qe,qf,V.cL,m7,V.av,Option.isNone_some,hms];have TO:=QD.OS;obtain⟨it,hit⟩:∃it,it=H13.next:=⟨_,rfl⟩;have ac1:H13.2=it:=hit.symm;rw[←hit] at TO;rw[ac1];generalize (ag.alloc H13 _)=H14 at TO⊢
 have e0:Pm.new N nb=jc N nb pz []:=by
  unfold Pm.new jc;congr 1;apply List.ext_getElem
  ·simp
  ·intro i h1 h2;simp only[List.getElem_replicate,List.getElem_map];split<;>rfl
 rw[e0] at TO;have h15:az B H14 (ob it (.dO (some pid) pc [] pc)::iM pid (lR pz) pc::u6 mpid (jc N nb pz [])::bw (zs.map Rz.bX)::IR spq spc (cZ (AG m.g.us (a.RI m.g)).2)::dJ aN a::L):=((TO.ord [3,3]).drop.drop).ord [0,0,3];refine J6 (m:=m) (mpid:=mpid) (pid:=pid) EO hpb (N:=N) (nb:=nb) (by omega) (by omega) (by omega) (by omega) (fun H16 seen hall h16=> ?_) _ [] (Nat.le_refl _) h15;simp only[AJ,reduceIte,Nat.reduceEqDiff,f25,uI,mF,mG,mH,mI,f112,xb,p9,qd,qe,qf]
 have efin:jc N nb pz seen=qu m.g (a.Be m.g):=by
  unfold jc qu;rw[hN,hnb];congr 1;apply List.map_congr_left;intro i hi;rw[←aaG,wm]
  cases I5:mq i pz with
  |none=>rfl
  |some y=>
   have:=hall _ (List.mem_map.2 ⟨y,(nP I5).1,rfl⟩);simp only at this;simp only[this,if_true];rfl
 rw[efin] at h16;exact k mpid pid zs pz pc spq spc H16 aaG hpb EO (h16.drop.ord [1])
end
def fE (v:Vw) (i:Nat):Prop:=v i≠[]∧∀f∈v i,mt v f
theorem rm {v:Vw} {i:Nat} (h:mf v i):¬fE v i:=fun⟨_,h2⟩=>by
 obtain⟨f,hf,hm⟩:=h;exact hm (h2 f hf)
theorem B6 {v:Vw} {i:Nat} (h:¬fE v i) (hne:v i≠[]):mf v i:=
 Classical.byContradiction fun hn=>h ⟨hne,fun f hf=>Classical.byContradiction fun hm=>hn ⟨f,hf,hm⟩⟩
theorem B7 {i:Nat} (j:Nat):∀{l:List (Nat×List Fd)},(l.map Prod.fst).Nodup→hY j (xA i l)=if j=i then [] else hY j l
 |[],_=>by simp [xA,hY]
 |x::l,h=>by
  rw[List.map_cons,List.nodup_cons] at h;rw[xA];by_cases hx:x.1=i
  ·rw[if_pos hx];by_cases hj:j=i
   ·rw[if_pos hj,hj, ←hx]
    have:∀(l:List (Nat×List Fd)),x.1∉l.map Prod.fst→hY x.1 l=[]:=by
     intro l
     induction l with
     |nil=>intro;rfl
     |cons y l ih=>
      intro hn;rw[List.map_cons,List.mem_cons] at hn;rw[hY,if_neg (fun e=>hn (.inl e.symm))];exact ih (fun h=>hn (.inr h))
    exact this l h.1
   ·rw[if_neg hj,hY,if_neg (by omega)]
  ·rw[if_neg hx];by_cases hxj:x.1=j
   ·subst hxj;rw[hY,if_pos rfl,if_neg hx,hY,if_pos rfl]
   ·rw[hY,if_neg hxj,B7 j h.2,hY,if_neg hxj]
theorem LK {i:Nat}:∀{l:List (Nat×List Fd)},(l.map Prod.fst).Nodup→((xA i l).map Prod.fst).Nodup
 |[],h=>h
 |x::l,h=>by
  have hsub:∀l:List (Nat×List Fd),(xA i l).Sublist l:=by
   intro l
   induction l with
   |nil=>exact .slnil
   |cons y l ih=>
    rw[xA];split
    ·exact List.sublist_cons_self _ _
    ·exact ih.cons_cons _
  exact h.sublist ((hsub (x::l)).map _)
theorem Gc (f:Nat→List Fd) (i:Nat):∀us:List Nat,hY i (us.map fun i=>(i,f i))=if i∈us then f i else []
 |[]=>rfl
 |j::us=>by
  rw[List.map_cons,hY,Gc f i us];by_cases h:j=i
  ·subst h;simp
  ·have:¬i=j:=fun e=>h e.symm
   simp [h,this]
section
variable {v:Vw} {c:Nat→List UInt8}
theorem Iv (h:Gd v c) {cM:List (Nat×List Fd)} (hb:∀i,hY i cM=v i∨hY i cM=[]∧fE v i) {i:Nat} (hi:hY i cM=v i):kS cM i=true↔fE v i:=by
 have hl:∀(t:Fd) (o:Fd),o∈Io cM t.s.fr→t.s.fr≠0∧o∈v (t.s.fr-1):=fun t o ho=>by
  unfold Io at ho;split at ho
  ·cases ho
  ·rename_i hf;refine⟨hf, ?_⟩;rcases hb (t.s.fr-1) with e|⟨e,_⟩
   ·rw[e] at ho;exact ho
   ·rw[e] at ho;cases ho
 unfold kS;rw[hi]
 cases hv:v i with
 |nil=>exact⟨fun h=>(by cases h),fun h=>absurd hv h.1⟩
 |cons f l=>
  constructor
  ·intro hall;refine⟨by rw[hv];simp,fun t ht=> ?_⟩;rw[hv] at ht;have:=List.all_eq_true.1 hall t ht;unfold td at this;simp only[Bool.and_eq_true,decide_eq_true_eq,List.any_eq_true] at this;obtain⟨h0,h1,o,ho,hm⟩:=this;rw[←h1] at ho;obtain⟨h2,h3⟩:=hl t o ho;exact⟨h2,o,h3,hm⟩
  ·intro hs;refine List.all_eq_true.2 fun t ht=> ?_
   have hf:f∈v i:=by rw[hv];exact List.mem_cons_self
   have ht':t∈v i:=by rw[hv];exact ht
   obtain⟨TP,_⟩:=hs.2 f hf;obtain⟨ht0,o,ho,hm⟩:=hs.2 t ht';have he:=h.a6 i t ht' f hf ht0 TP;have hn:=h.a7 i t ht' ⟨ht0,o,ho,hm⟩
   have hg:hY (t.s.fr-1) cM=v (t.s.fr-1):=by
    rcases hb (t.s.fr-1) with e|⟨_,e⟩
    ·exact e
    ·exact absurd e (rm hn)
   unfold td;simp only[Bool.and_eq_true,decide_eq_true_eq,List.any_eq_true];refine⟨TP,he,o, ?_,hm⟩;unfold Io;rw[if_neg TP, ←he,hg];exact ho
open Classical in
theorem zC (h:Gd v c):∀(us:List Nat) (cM:List (Nat×List Fd)),us.Nodup→(cM.map Prod.fst).Nodup→(∀i,hY i cM=v i∨hY i cM=[]∧fE v i)→(∀i∈us,hY i cM=v i)→
 ∀i,hY i (AG us cM).1=if i∈us∧fE v i then [] else hY i cM
 |[],cM,_,_,_,_,i=>by simp [AG]
 |j::us,cM,vy,hk,hb,hu,i=>by
  rw[List.nodup_cons] at vy;have hj:=hu j List.mem_cons_self;have hc:=Iv h hb hj;rw[AG];by_cases hs:fE v j
  ·rw[if_pos (hc.2 hs)];have hd:=fun i=>B7 (i:=j) i hk
   rw[zC h us (xA j cM) vy.2 (LK hk) (fun i=> ?_) (fun i hi=> ?_) i,hd i]
   ·by_cases hij:i=j
    ·subst hij;simp [hs]
    ·simp [hij]
   ·rw[hd i];by_cases hij:i=j
    ·subst hij;exact .inr ⟨if_pos rfl,hs⟩
    ·rw[if_neg hij];exact hb i
   ·rw[hd i,if_neg (fun e=>vy.1 (by rw[←e];exact hi))];exact hu i (List.mem_cons_of_mem _ hi)
  ·rw[if_neg (fun e=>hs (hc.1 e)),zC h us cM vy.2 hk hb (fun i hi=>hu i (List.mem_cons_of_mem _ hi)) i];by_cases hij:i=j
   ·subst hij;simp [hs]
   ·simp [hij]
def Nw (pg S:List Fd) (x:Nat):Prop:=
 (jG x pg=none∧∀y∈S,y.s.ao≠x)∨∃f,jG x pg=some f∧f∈S∧f.s.ao=x∧∀y∈S,y.s.ao=x→y.s.seq≤f.s.seq
theorem Ge (x:Nat) (f:Fd):∀pg:List Fd,jG x (sg f pg)=if f.s.ao=x then (match jG x pg with|none=>some f|some o=>if o.s.seq<f.s.seq then some f else some o) else jG x pg
 |[]=>by simp [sg,jG]
 |o::l=>by
  rw[sg];by_cases ho:o.s.ao=f.s.ao
  ·rw[if_pos ho];by_cases hs:o.s.seq<f.s.seq
   ·rw[if_pos hs,jG,jG];by_cases hx:f.s.ao=x
    ·simp [hx,ho.trans hx,hs]
    ·have:¬o.s.ao=x:=fun e=>hx (ho.symm.trans e)
     simp [hx,this]
   ·rw[if_neg hs,jG];by_cases hx:f.s.ao=x
    ·simp [hx,ho.trans hx,hs]
    ·simp [hx]
  ·rw[if_neg ho,jG,Ge x f l,jG];by_cases hx:f.s.ao=x
   ·have:¬o.s.ao=x:=fun e=>ho (e.trans hx.symm)
    simp [hx,this]
   ·simp [hx]
theorem Nw.ins {pg S:List Fd} {x:Nat} (h:Nw pg S x) (f:Fd):Nw (sg f pg) (S++[f]) x:=by
 unfold Nw;rw[Ge];by_cases hx:f.s.ao=x
 ·rw[if_pos hx];right;rcases h with⟨h1,h2⟩|⟨g,h1,h2,h3,h4⟩
  ·rw[h1];refine⟨f,rfl,by simp,hx,fun y hy ha=> ?_⟩;rcases List.mem_append.1 hy with hy|hy
   ·exact absurd ha (h2 y hy)
   ·rw[List.mem_singleton] at hy;rw[hy];exact Nat.le_refl _
  ·rw[h1];by_cases hs:g.s.seq<f.s.seq
   ·refine⟨f,if_pos hs,by simp,hx,fun y hy ha=> ?_⟩;rcases List.mem_append.1 hy with hy|hy
    ·have:=h4 y hy ha;omega
    ·rw[List.mem_singleton] at hy;rw[hy];exact Nat.le_refl _
   ·refine⟨g,if_neg hs,List.mem_append.2 (.inl h2),h3,fun y hy ha=> ?_⟩;rcases List.mem_append.1 hy with hy|hy
    ·exact h4 y hy ha
    ·rw[List.mem_singleton] at hy;rw[hy];omega
 ·rw[if_neg hx];rcases h with⟨h1,h2⟩|⟨g,h1,h2,h3,h4⟩
  ·refine .inl ⟨h1,fun y hy=> ?_⟩;rcases List.mem_append.1 hy with hy|hy
   ·exact h2 y hy
   ·rw[List.mem_singleton] at hy;rw[hy];exact hx
  ·refine .inr ⟨g,h1,List.mem_append.2 (.inl h2),h3,fun y hy ha=> ?_⟩;rcases List.mem_append.1 hy with hy|hy
   ·exact h4 y hy ha
   ·rw[List.mem_singleton] at hy;rw[hy] at ha;exact absurd ha hx
theorem Nw.all {x:Nat}:∀(l:List Fd) {pg S:List Fd},Nw pg S x→Nw (u7 pg l) (S++l) x
 |[],pg,S,h=>by simpa [u7] using h
 |f::l,pg,S,h=>by
  have:=Nw.all l (h.ins f);rw[List.append_assoc] at this;exact this
theorem Nw.aE {x:Nat} {cM:List (Nat×List Fd)}:∀(us:List Nat) {pg S:List Fd},Nw pg S x→Nw (ej cM pg us) (S++us.flatMap fun i=>hY i cM) x
 |[],pg,S,h=>by simpa [ej] using h
 |i::us,pg,S,h=>by
  have:=Nw.aE (cM:=cM) us (h.all (hY i cM));rw[List.append_assoc] at this;exact this
theorem RK (h:Gd v c) {us:List Nat} (vy:us.Nodup) (hout:∀i,i∉us→v i=[]) (x:Nat):(jG x (ej (AG us (us.map fun i=>(i,v i))).1 [] us)=none∧∀b,∀f∈v b,f.s.ao≠x)∨∃f,jG x (ej (AG us (us.map fun i=>(i,v i))).1 [] us)=some f∧f∈v f.b∧¬fE v f.b∧xB v c x f:=by
 have hk:((us.map fun i=>(i,v i)).map Prod.fst).Nodup:=by
  rw[List.map_map];have:us.map (Prod.fst ∘ fun i=>(i,v i))=us:=List.map_id _;rw[this];exact vy
 have hg:∀i,hY i (us.map fun i=>(i,v i))=v i:=fun i=>by
  rw[Gc v i us];split
  ·rfl
  ·rename_i hi;exact(hout i hi).symm
 have hsp:=zC h us _ vy hk (fun i=>.inl (hg i)) (fun i _=>hg i);obtain⟨cM,hby⟩:∃cM,cM=(AG us (us.map fun i=>(i,v i))).1:=⟨_,rfl⟩
 rw[←hby] at hsp⊢
 have hS:∀y:Fd,y∈([]++us.flatMap fun i=>hY i cM)↔∃i,y∈v i∧¬fE v i:=fun y=>by
  rw[List.nil_append,List.mem_flatMap];constructor
  ·rintro⟨i,hi,hy⟩;rw[hsp i,hg i] at hy;split at hy
   ·cases hy
   ·rename_i hn;exact⟨i,hy,fun hs=>hn ⟨hi,hs⟩⟩
  ·rintro⟨i,hy,hs⟩;have hi:i∈us:=Classical.byContradiction fun hi=>by rw[hout i hi] at hy;cases hy
   refine⟨i,hi, ?_⟩;rw[hsp i,hg i,if_neg (fun hh=>hs hh.2)];exact hy
 have hN:Nw (ej cM [] us) ([]++us.flatMap fun i=>hY i cM) x:=Nw.aE us (.inl ⟨rfl,fun y hy=>by cases hy⟩)
 have hfind:∀b,∀t∈v b,t.s.ao=x→∃u i,u∈v i∧¬fE v i∧u.s.ao=x∧u.s.seq≤t.s.seq∧(∀b',∀y∈v b',y.s.ao=x→u.s.seq≤y.s.seq→y.s.seq≤t.s.seq→y.s.data=t.s.data∨¬fE v b):=fun b t ht hx=>by
  by_cases hs:fE v b
  ·obtain⟨u,hu,h1,h2,h3,h4⟩:=h.a3 b t ht (hs.2 t ht);refine⟨u,_,hu,rm (h.a7 b t ht (hs.2 t ht)),h1.trans hx,Nat.le_of_lt h2,fun b' y hy I9 hs1 n7=>.inl (h4 b' y hy (I9.trans hx.symm) hs1 n7)⟩
  ·exact⟨t,b,ht,hs,hx,Nat.le_refl _,fun _ _ _ _ _ _=>.inr hs⟩
 rcases hN with⟨h1,h2⟩|⟨f,h1,h2,h3,h4⟩
 ·refine .inl ⟨h1,fun b t ht hx=> ?_⟩;obtain⟨u,i,hu,hui,hux,_⟩:=hfind b t ht hx;exact h2 u ((hS u).2 ⟨i,hu,hui⟩) hux
 ·obtain⟨i,SF,his⟩:=(hS f).1 h2;have hfb:=h.n8 i f SF;refine .inr ⟨f,h1,by rw[hfb];exact SF,by rw[hfb];exact his,h3, ?_⟩;rcases h.a2 x with⟨_,hno⟩|⟨b,t,ht,htx,htd,htn⟩
  ·exact absurd h3 (hno i f SF)
  ·obtain⟨u,j,hu,huj,hux,rM,ac2⟩:=hfind b t ht htx;have huf:=h4 u ((hS u).2 ⟨j,hu,huj⟩) hux
   have key:∀b',∀y∈v b',y.s.ao=x→f.s.seq≤y.s.seq→y.s.data=c x:=fun b' y hy I9 hys=>by
    by_cases hty:t.s.seq≤y.s.seq
    ·exact htn b' y hy I9 hty
    ·rcases ac2 b' y hy I9 (by omega) (by omega) with e|hs
     ·rw[e];exact htd
     ·have:=h4 t ((hS t).2 ⟨b,ht,hs⟩) htx;omega
   exact⟨key i f SF h3 (Nat.le_refl _),key⟩
end
structure Po where
 bl:List (Nat×Nat)
def fK (b:Nat):List (Nat×Nat)→Option Nat
 |[]=>none
 |x::l=>if x.1=b then some x.2 else fK b l
def Po.how (p:Po) (b:Nat):Option Nat:=fK b p.bl
def qv (b h:Nat):List (Nat×Nat)→List (Nat×Nat)
 |[]=>[]
 |x::l=>if x.1=b then (x.1,h)::l else x::qv b h l
def Po.cy (p:Po) (b h:Nat):Po:=⟨qv b h p.bl⟩
def D3:List (Nat×Nat)→Option Nat
 |[]=>none
 |x::l=>if x.2=2 then some x.1 else D3 l
def Po.kI (p:Po):Option Nat:=D3 p.bl
def Po.count (p:Po) (h:Nat):Nat:=p.bl.countP fun x=>decide (x.2=h)
def Po.jH (p:Po):Po:=match p.kI with|some o=>p.cy o 1|none=>p
def Po.set (p:Po) (b h:Nat):Po:=if p.how b=some 3∧h≠3 then p else (if h=2 then p.jH else p).cy b h
def gv (h:Nat) (w:List Int):List (Nat×Nat)→Option Nat→Option Nat
 |[],o=>o
 |x::l,o=>if x.2≠h∨w.length≤x.1 then gv h w l o else match o with
  |none=>gv h w l (some x.1)
  |some b=>if w.getD x.1 0<w.getD b 0 then gv h w l (some x.1) else gv h w l (some b)
def Po.jd (p:Po) (h:Nat) (w:List Int):Option Nat:=gv h w p.bl none
def Po.new (bs:List Nat):Po:=⟨bs.map fun b=>(b,0)⟩
structure Po.ok (p:Po):Prop where
 lt:(p.bl.map Prod.fst).Pairwise (· < ·)
 b:∀x∈p.bl,x.1<64
 h:∀x∈p.bl,x.2≤3
theorem ki (b h:Nat):∀l,(qv b h l).map Prod.fst=l.map Prod.fst
 |[]=>rfl
 |x::l=>by
  rw[qv];split
  ·rfl
  ·rw[List.map_cons,ki b h l,List.map_cons]
theorem zD {b h:Nat} {x:Nat×Nat}:∀{l},x∈qv b h l→x∈l∨x=(b,h)
 |y::l,hx=>by
  rw[qv] at hx;split at hx
  ·rename_i e;rcases List.mem_cons.1 hx with rfl|hx
   ·right;rw[e]
   ·exact .inl (List.mem_cons_of_mem _ hx)
  ·rcases List.mem_cons.1 hx with rfl|hx
   ·exact .inl List.mem_cons_self
   ·exact(zD hx).imp (List.mem_cons_of_mem _) id
theorem Po.ok.cy {p:Po} (hp:p.ok) {b h:Nat} (hb:b<64) (hh:h≤3):(p.cy b h).ok:=by
 refine⟨?_,fun x hx=> ?_,fun x hx=> ?_⟩
 ·show ((qv b h p.bl).map Prod.fst).Pairwise _
  rw[ki];exact hp.lt
 ·rcases zD hx with hx|rfl
  ·exact hp.b x hx
  ·exact hb
 ·rcases zD hx with hx|rfl
  ·exact hp.h x hx
  ·exact hh
theorem qw {o:Nat}:∀{l:List (Nat×Nat)},D3 l=some o→(o,2)∈l
 |x::l,h=>by
  rw[D3] at h;split at h
  ·rename_i e;cases h;rw[←e];exact List.mem_cons_self
  ·exact List.mem_cons_of_mem _ (qw h)
theorem Po.ok.jH {p:Po} (hp:p.ok):p.jH.ok:=by
 unfold Po.jH
 cases ho:p.kI with
 |none=>exact hp
 |some o=>exact hp.cy (hp.b _ (qw ho)) (by omega)
theorem Po.ok.set {p:Po} (hp:p.ok) {b h:Nat} (hb:b<64) (hh:h≤3):(p.set b h).ok:=by
 unfold Po.set;split
 ·exact hp
 ·split
  ·exact hp.jH.cy hb hh
  ·exact hp.cy hb hh
theorem kj {b:Nat}:∀{l:List (Nat×Nat)},(fK b l).isSome=true↔b∈l.map Prod.fst
 |[]=>by simp [fK]
 |x::l=>by
  rw[fK];split
  ·rename_i e;simp [e]
  ·rename_i e;rw[kj,List.map_cons,List.mem_cons];exact⟨.inr,fun h=>h.elim (fun h=>absurd h.symm e) id⟩
theorem Iw (p:Po):p.jH.bl.map Prod.fst=p.bl.map Prod.fst:=by
 unfold Po.jH
 cases p.kI with
 |none=>rfl
 |some o=>exact ki ..
theorem RL (p:Po) (b h:Nat):(p.set b h).bl.map Prod.fst=p.bl.map Prod.fst:=by
 unfold Po.set;split
 ·rfl
 ·split
  ·exact(ki ..).trans (Iw p)
  ·exact ki ..
def nQ:List (Nat×Nat)→Nat→List En
 |[],_=>[]
 |x::l,i=>⟨x.1,.int .u8 x.2,i⟩::nQ l (i+1)
theorem va {b:Nat}:∀(l:List (Nat×Nat)) (i:Nat),Hh (b:Int) (nQ l i)=(fK b l).map fun h:Nat=>V.int .u8 (h:Int)
 |[],_=>rfl
 |x::l,i=>by
  rw[nQ,Hh,fK,va l (i+1)];by_cases h:x.1=b
  ·have:(x.1:Int)=(b:Int):=by omega
   simp [h]
  ·have:¬(x.1:Int)=(b:Int):=by omega
   simp [h,this]
theorem Gf {b h:Nat}:∀(l:List (Nat×Nat)) (i:Nat),Bg (b:Int) (.int .u8 (h:Int)) (nQ l i)=nQ (qv b h l) i
 |[],_=>rfl
 |x::l,i=>by
  rw[nQ,Bg,qv,Gf l (i+1)];by_cases hx:x.1=b
  ·have:(x.1:Int)=(b:Int):=by omega
   simp [hx,nQ]
  ·have:¬(x.1:Int)=(b:Int):=by omega
   simp [hx,this,nQ]
theorem O6:∀(l:List (Nat×Nat)) (i:Nat),(nQ l i).map En.b=List.range' i l.length
 |[],_=>rfl
 |x::l,i=>by
  rw[nQ,List.map_cons,O6 l (i+1),List.length_cons,List.range'_succ]
theorem D4 (l:List (Nat×Nat)):xy (nQ l 0) l.length:=by
 rw[DW,O6];refine⟨List.pairwise_lt_range',fun b hb=> ?_⟩;rw[List.mem_range'_1] at hb;omega
theorem J7:∀(l:List (Nat×Nat)) (x:Nat×Nat) (i:Nat),nQ (l++[x]) i=nQ l i++[⟨x.1,.int .u8 x.2,i+l.length⟩]
 |[],x,i=>rfl
 |y::l,x,i=>by
  show _::nQ (l++[x]) (i+1)=_
  rw[J7 l x (i+1)];show _=_::(nQ l (i+1)++_)
  congr 4;simp;omega
structure Pz where
 q:Oq
 c:Nat
 mid:Nat
def VJ (p:Po) (x:Pz):List V:=Lo x.q p.bl.length x.c (some x.mid)
def D5 (id:Nat) (p:Po):cv:=ES fun x:Pz=>bw [df id 166 (VJ p x),IR x.q x.c (cZ (p.bl.map Prod.fst)),iM x.mid (nQ p.bl 0) p.bl.length]
section
variable {B:ag} {L:List cv} {H:ag} {K:V→ag→Prop} {id:Nat} {p:Po} {x:Pz}
abbrev zE (B H:ag) (id:Nat) (p:Po) (x:Pz) (L:List cv):Prop:=az B H (df id 166 (VJ p x)::IR x.q x.c (cZ (p.bl.map Prod.fst))::iM x.mid (nQ p.bl 0) p.bl.length::L)
theorem zE.of (h:az B H (D5 id p::L)):∃x,zE B H id p x L:=by
 obtain⟨x,h⟩:=h.MX;exact⟨x,h.Ly⟩
theorem zE.to (h:zE B H id p x L):az B H (D5 id p::L):=by
 have h2:az B H (bw [df id 166 (VJ p x),IR x.q x.c (cZ (p.bl.map Prod.fst)),iM x.mid (nQ p.bl 0) p.bl.length]::L):=az.sX h;exact az.intro h2
structure PoG (H:ag) (id:Nat) (p:Po) (x:Pz):Prop where
 i0:H.inb id 0 1=true
 i1:H.inb id 1 1=true
 c0:H.cell id 0=.slice x.q p.bl.length x.c
 c1:H.cell id 1=.map (some x.mid)
 w0:H.wr id 0 1=true
 mo:eD H .i64 (some x.mid)=true
 ms:H.isMap x.mid=true
 mg:∀(b:Nat) z,cq H (some x.mid) (b:Int) z=((p.how b).map fun h:Nat=>V.int .u8 (h:Int)).getD z
 mh:∀(b:Nat),lh H (some x.mid) (b:Int)=(p.how b).isSome
 r:∀(i:Nat) (hi:i<p.bl.length),x.q.isSome=true∧H.inb (pb x.q) (po x.q+i*1) 1=true∧H.cell (pb x.q) (po x.q+i*1)=.int .i64 ((p.bl[i]).1:Int)
theorem VK (h:zE B H id p x L):PoG H id p x:=by
 have hg:=h.get;have hl:(VJ p x).length=2:=rfl;have hm:=h.ord [2];refine⟨nH hg (by omega),nH hg (by omega),aY hg 0,aY hg 1,fI hg 0 1,uX hm,Tf hm,fun b z=> ?_,fun b=> ?_,fun i hi=> ?_⟩
 ·rw[zx hm,va];rfl
 ·rw[OP hm,va,Option.isSome_map];rfl
 ·have:=(az.uN (h.ord [1])).at (i:=i) (by simpa using hi);simpa [cZ] using this
theorem zE.cy (h:zE B H id p x L) {b:Nat} (hb:(p.how b).isSome=true) (hw:Nat):zE B (il H .i64 x.mid (b:Int) (.int .u8 (hw:Int))) id (p.cy b hw) x L:=by
 have h1:=(h.ord [2]).JY (b:Int) (.int .u8 (hw:Int))
 have e:rP (b:Int) (.int .u8 (hw:Int)) (nQ p.bl 0) p.bl.length=(nQ (p.cy b hw).bl 0,p.bl.length):=by
  unfold rP;rw[va,Option.isSome_map];have:(fK b p.bl).isSome=true:=hb;rw[if_pos this,Gf];rfl
 rw[e] at h1
 have hl:(p.cy b hw).bl.length=p.bl.length:=by
  have:=congrArg List.length (ki b hw p.bl);rw[List.length_map,List.length_map] at this;exact this
 unfold zE VJ;rw[hl,show (p.cy b hw).bl.map Prod.fst=p.bl.map Prod.fst from ki ..];exact h1.ord [1,1]
end
theorem O7 {p:Po} (hp:p.ok) {i:Nat} (hi:i<p.bl.length):p.how (p.bl[i]).1=some (p.bl[i]).2:=by
 have key:∀(l:List (Nat×Nat)) (i:Nat) (hi:i<l.length),(l.map Prod.fst).Pairwise (· < ·)→fK (l[i]).1 l=some (l[i]).2:=by
  intro l
  induction l with
  |nil=>intro i hi;cases hi
  |cons x l ih=>
   intro i hi hp;rw[List.map_cons,List.pairwise_cons] at hp
   cases i with
   |zero=>simp [fK]
   |succ i=>
    have hi':i<l.length:=Nat.lt_of_succ_lt_succ hi;have:=hp.1 (l[i]).1 (List.mem_map.2 ⟨_,List.getElem_mem hi',rfl⟩);rw[List.getElem_cons_succ,fK,if_neg (by omega)];exact ih i hi' hp.2
 exact key _ _ _ hp.lt
theorem Po.ok.Gg {p:Po} (hp:p.ok):(p.bl.map Prod.fst).Nodup:=List.Pairwise.imp (fun {a b} (h:a<b)=>Nat.ne_of_lt h) hp.lt
theorem Po.ok.len {p:Po} (hp:p.ok):p.bl.length≤64:=by
 have h3:=List.Nodup.length_le_of_subset hp.Gg (l₂:=List.range 64) (fun b hb=>by
  obtain⟨x,hx,rfl⟩:=List.mem_map.1 hb
  exact List.mem_range.2 (hp.b x hx))
 simpa using h3
theorem B8 (h:Nat):∀(l:List (Nat×Nat)) (i:Nat),(nQ l i).countP (fun y=>decide (V.aa y.v=(h:Int)))=l.countP fun x=>decide (x.2=h)
 |[],_=>rfl
 |x::l,i=>by
  rw[nQ,List.countP_cons,List.countP_cons,B8 h l (i+1)];have:decide (V.aa (V.int .u8 (x.2:Int))=(h:Int))=decide (x.2=h):=decide_eq_decide.2 (by rw[aZ];omega);simp only[this]
theorem J8:∀(l:List (Nat×Nat)) (i:Nat),∀e∈nQ l i,∃h:Nat,e.v=.int .u8 (h:Int)
 |x::l,i,e,he=>by
  rw[nQ] at he;rcases List.mem_cons.1 he with rfl|he
  ·exact⟨_,rfl⟩
  ·exact J8 l _ e he
section
variable {B:ag} {L L':List cv} {H:ag} {K:V→ag→Prop} {id:Nat} {p:Po} {x:Pz}
theorem Gh (hx:zE B H id p x L) (hp:p.ok) {Kr:Am.St→Prop} {Ke:Nat→Am.St→Prop}:∀(k i:Nat),i+k=p.bl.length→(match D3 (p.bl.drop i) with
 |some o=>Kr (St.mk (ab [(2,T.v (V.int .i64 (o:Int))),(3,T.v (V.bool true))]) (ab []) H)
 |none=>Ke 0 (St.mk (ab []) (ab []) H))→
 lo 103 4
  (St.mk (ab [(0,T.v (V.aj (some (id,0)))),(11,T.v (V.slice x.q p.bl.length x.c)),(12,T.v (V.int .i64 (p.bl.length:Int))),(13,T.v (V.int .i64 (i:Int)))]) (ab []) H) Kr Ke
 |0,i,hi,hk=>by
  obtain rfl:i=p.bl.length:=by omega
  rw[List.drop_length] at hk;rw[Jq,decide_eq_false (by omega),ai];exact hk
 |k+1,i,hi,hk=>by
  have hlt:i<p.bl.length:=by omega
  have g:=VK hx;obtain⟨s1,i1,c1⟩:=g.r i hlt;have a1:(i:Int)<(p.bl.length:Int):=by omega
  have a2:0≤(i:Int):=by omega
  have hh:=O7 hp hlt;have hb:=hp.b _ (List.getElem_mem hlt);have hle:=hp.len;rw[List.drop_eq_getElem_cons hlt,D3] at hk;rw[Jq];simp only[AJ,reduceIte,Nat.reduceEqDiff,a1,a2,Int.toNat_natCast,s1,i1,c1,Option.isSome_some,Nat.zero_add,g.i1,g.c1,V.cL,V.av,g.mo,g.mg,hh,Option.map_some];by_cases h2:(p.bl[i]).2=2
  ·have Bq:((p.bl[i]).2:Int)=2:=by omega
   rw[if_pos h2] at hk;simp only[Bq,decide_true,ak];exact hk
  ·have Bq:¬((p.bl[i]).2:Int)=2:=by omega
   rw[if_neg h2] at hk;simp only[Bq,decide_false,ai];rw[aK (by omega)];exact Gh hx hp k (i+1) (by omega) hk
theorem Gi (h:az B H (D5 id p::L)) (hp:p.ok):(K (.tuple [.int .i64 ((p.kI.getD 0:Nat):Int),.bool p.kI.isSome]) H)→cl 103 [.aj (some (id,0))] H K:=by
 intro k;obtain⟨x,hx⟩:=zE.of h;have g:=VK hx;rw[Y8];simp only[AJ,reduceIte,Nat.reduceEqDiff,Option.isNone_some,Option.isSome_some,g.i0,g.c0];refine Gh hx hp p.bl.length 0 (by omega) ?_;rw[List.drop_zero];have e:D3 p.bl=p.kI:=rfl;rw[e]
 cases ho:p.kI with
 |none=>simp only[AJ,reduceIte,Nat.reduceEqDiff];rw[ho] at k;exact k
 |some o=>simp only[AJ,reduceIte,Nat.reduceEqDiff];rw[ho] at k;exact k
theorem B9 {mid it:Nat} (hp:p.ok) (hw:Nat) {Kr:Am.St→Prop} {Ke:Nat→Am.St→Prop} (hk:∀H',az B H' L→Ke 0 (St.mk (ab [(5,T.v (V.int .i64 (p.count hw:Int)))]) (ab []) H')) (hL:∀H seen,az B H (ob it (.dO (some mid) p.bl.length seen p.bl.length)::iM mid (nQ p.bl 0) p.bl.length::L')→az B H L):∀(k:Nat) (seen:List Nat) {H:ag},(nQ p.bl 0).countP (fun y=>decide (y.b∉seen))≤k→az B H (ob it (.dO (some mid) p.bl.length seen p.bl.length)::iM mid (nQ p.bl 0) p.bl.length::L')→lo 93 5 (St.mk (ab [(1,T.v (V.int .u8 (hw:Int))),(5,T.v (V.int .i64 (((nQ p.bl 0).countP (fun y=>decide (y.b∈seen)&&decide (V.aa y.v=(hw:Int))):Nat):Int))),(14,T.v (V.dO 164 it))]) (ab []) H) Kr Ke
 |k,seen,H,hle,h=>by
  rw[Vr];refine h.OR (D4 _) (fun hall=> ?_) (fun e he hn H' h' hok hkey hval=> ?_)
  ·have e1:(nQ p.bl 0).countP (fun y=>decide (y.b∈seen)&&decide (V.aa y.v=(hw:Int)))=p.count hw:=by
    unfold Po.count;rw[←B8 hw p.bl 0];apply List.countP_congr;intro y hy;simp [hall y hy]
   rw[e1];exact hk H (hL H seen h)
  ·obtain⟨hv,ev⟩:=J8 _ _ e he;have hs:=oJ (fun y=>decide (V.aa y.v=(hw:Int))) hn (D4 p.bl).lt he;have n7:=oJ (fun _=>true) hn (D4 p.bl).lt he;simp only[Bool.and_true,if_true] at n7
   have hlen:(nQ p.bl 0).length=p.bl.length:=by
    have:=congrArg List.length (O6 p.bl 0);simpa using this
   have adm:=hp.len
   have wI:∀(q:En→Bool),(nQ p.bl 0).countP q≤64:=fun q=>by
    have:=List.countP_le_length (p:=q) (l:=nQ p.bl 0);omega
   have hneg:∀s:List Nat,(nQ p.bl 0).countP (fun y=>decide (y.b∈s))+(nQ p.bl 0).countP (fun y=>decide (y.b∉s))=(nQ p.bl 0).length:=by
    intro s;have:=List.length_eq_countP_add_countP (fun y:En=>decide (y.b∈s)) (l:=nQ p.bl 0);rw[this];congr 1;apply List.countP_congr;intro y _;simp
   have n1:=hneg seen;have n2:=hneg (seen++[e.b])
   cases k with
   |zero=>omega
   |succ k=>
    rw[ev] at hval hs;simp only[hok,hkey,hval,AJ,reduceIte,Nat.reduceEqDiff];have ih:=B9 hp hw hk hL k (seen++[e.b]) (H:=H') (by omega) h' (Kr:=Kr);rw[hs] at ih;by_cases hh:(hv:Int)=(hw:Int)
    ·simp only[hh,decide_true,ak];rw[aK (by have:=wI (fun y=>decide (y.b∈seen)&&decide (V.aa y.v=(hw:Int)));omega)];simpa [hh] using ih
    ·simp only[hh,decide_false,ai];simpa [hh] using ih
theorem rp (h:az B H (D5 id p::L)) (hp:p.ok) (hw:Nat) (k:∀H',az B H' (D5 id p::L)→K (.int .i64 (p.count hw:Int)) H'):cl 93 [.aj (some (id,0)),.int .u8 (hw:Int)] H K:=by
 obtain⟨x,hx⟩:=zE.of h;have g:=VK hx;rw[abR];simp only[AJ,reduceIte,Nat.reduceEqDiff,Option.isNone_some,Option.isSome_some,Nat.zero_add,g.i1,g.c1,V.cL,V.av,g.ms];have h1:=(hx.ord [2]).OS
 have:=B9 (L':=df id 166 (VJ p x)::IR x.q x.c (cZ (p.bl.map Prod.fst))::L) (L:=D5 id p::L) (mid:=x.mid) (it:=H.next) hp hw (Kr:=fun _=>False)
  (Ke:=fun j S'=>br (decide (j=0)) (ah (aC (KT.k (.int .i64)) (S'.1 5)) (K (V.int .i64 (V.aa (T.val (S'.1 5)))) S'.3)) False) (fun H' h'=>by simp only[AJ,reduceIte,Nat.reduceEqDiff];exact k H' h')
  (fun H seen hh=>zE.to (x:=x) ((hh.drop).ord [1,1])) _ [] (Nat.le_refl _) h1
 simpa using this
theorem kU (h:az B H (D5 id p::L)) (hp:p.ok) {b hw:Nat} (hb:(p.how b).isSome=true) (hh:hw≤3) (k:∀e H',az B H' (D5 id (p.set b hw)::L)→K (.int .i64 e) H'):cl 63 [.aj (some (id,0)),.int .i64 (b:Int),.int .u8 (hw:Int)] H K:=by
 obtain⟨x,hx⟩:=zE.of h;have g:=VK hx;obtain⟨w,aaH⟩:=Option.isSome_iff_exists.1 hb;rw[abE];have a1:¬(hw:Int)>3:=by omega
 simp only[AJ,reduceIte,Nat.reduceEqDiff,Option.isNone_some,Option.isSome_some,Nat.zero_add,g.i1,g.c1,V.cL,V.av,g.mo,g.mg,g.mh,aaH,Option.map_some,cond_true,a1];unfold Po.set at k;rw[aaH] at k;by_cases hd:w=3∧hw≠3
 ·have e:(decide ((w:Int)=3)&& !decide ((hw:Int)=3))=true:=by
   have h1:(w:Int)=3:=by omega
   have h2:¬(hw:Int)=3:=by omega
   simp [h1,h2]
  have hd':(some w=some 3∧hw≠3):=⟨by rw[hd.1],hd.2⟩;rw[if_pos hd'] at k;rw[e,ak];exact k _ _ (zE.to hx)
 ·have e:(decide ((w:Int)=3)&& !decide ((hw:Int)=3))=false:=by
   by_cases h1:w=3
   ·have h2:(hw:Int)=3:=by omega
    simp [h2]
   ·have xk:¬(w:Int)=3:=by omega
    simp [xk]
  have hd':¬(some w=some 3∧hw≠3):=fun hh=>hd ⟨Option.some.inj hh.1,hh.2⟩
  rw[if_neg hd'] at k;rw[e,ai];by_cases h2:hw=2
  ·rw[if_pos h2] at k;have Bq:(hw:Int)=2:=by omega
   simp only[Bq,decide_true,ak];refine Gi (zE.to hx) hp ?_;simp only[AJ,reduceIte,Nat.reduceEqDiff];unfold Po.jH at k
   cases ho:p.kI with
   |none=>
    rw[ho] at k;simp only[Option.isSome_none,ai,g.i1,g.c1,V.cL,V.av,g.mo,AJ,reduceIte,Nat.reduceEqDiff,Option.isSome_some];have:=hx.cy hb hw;rw[Bq] at this;exact k _ _ (zE.to this)
   |some o=>
    rw[ho] at k;have hob:(p.how o).isSome=true:=kj.2 (List.mem_map.2 ⟨_,qw ho,rfl⟩);have h3:=hx.cy hob 1;have g3:=VK h3
    have EX:((p.cy o 1).how b).isSome=true:=by
     refine kj.2 ?_;show b∈(qv o 1 p.bl).map Prod.fst
     rw[ki];exact kj.1 hb
    have h4:=h3.cy EX hw;rw[Bq] at h4;simp only[Option.isSome_some,ak,g.i1,g.c1,V.cL,V.av,g.mo,AJ,reduceIte,Nat.reduceEqDiff,Option.getD_some];have e1:(((1:Nat):Int))=1:=rfl;rw[e1] at h3 g3 h4;simp only[g3.i1,g3.c1,V.cL,V.av,g3.mo,AJ,reduceIte,Nat.reduceEqDiff,Option.isSome_some];exact k _ _ (zE.to h4)
  ·rw[if_neg h2] at k;have Bq:¬(hw:Int)=2:=by omega
   simp only[Bq,decide_false,ai,g.i1,g.c1,V.cL,V.av,g.mo,AJ,reduceIte,Nat.reduceEqDiff,Option.isSome_some];exact k _ _ (zE.to (hx.cy hb hw))
end
section
variable {B:ag} {L L':List cv} {H:ag} {K:V→ag→Prop} {id:Nat} {p:Po} {x:Pz} {q:Oq} {c:Nat} {l:List Int}
theorem LL (h:az B H L) (hr:On H q l) (hb:l.length≤1000000) (k:∀q' c' H',az B H' (IR q' c' l::L)→K (.slice q' l.length c') H'):cl 101 [.slice q l.length c] H K:=by
 rw[Y6]
 cases q with
 |none=>
  have:l=[]:=by
   rcases hr with h|⟨_,_,_,_,_,h,_⟩
   ·simpa [v9] using h
   ·cases h
  subst this;exact k none 0 H (az.uO h)
 |some q=>
  rw[Option.isNone_some,ai];have h1:az B (H.alloc (.cells 3 [] false)) (Rw 3 1 (some (H.next,0)) 0 []::L):=h.DI (el:=3) (n:=1) (len:=0) (c:=0) (l:=[]) (cs:=[]) (by simp) (fun v hv=>by cases hv) (by omega) (by simp) (by simp)
  have xH:Rd (H.alloc (.cells 3 [] false)) (some q) (l.map fun i=>[V.int .i64 i]).flatten:=by
   rw[wa];exact Rd.fr hr h.ok (Fr.alloc H _ (fun _=>False)) (fun _ _ _=>id)
  have hu:pk 1 (l.map fun i=>[V.int .i64 i]):=by
   intro c hc;obtain⟨r,_,rfl⟩:=List.mem_map.1 hc;exact⟨rfl,fun v hv=>by rw[List.mem_singleton] at hv;subst hv;rfl⟩
  have:=h1.Z0 (c2:=c) (K:=fun q n c H'=>K (.slice q n c) H') JL JM (fun v hv=>by rw[List.mem_singleton] at hv;subst hv;rfl) rfl (by omega) xH hu (by simp;omega) (fun q' c' H' h'=>by
   have:=k q' c' H' h'
   simpa using this)
  simpa using this
theorem RM {b:Nat} {l:List Nat} (h:∀x∈l,x<b):Hh (b:Int) (nQ (l.map fun b=>(b,0)) 0)=none:=by
 rw[va]
 have:fK b (l.map fun b=>(b,0))=none:=by
  cases hh:fK b (l.map fun b=>(b,0)) with
  |none=>rfl
  |some y=>
   have:=kj.1 (by rw[hh];rfl:(fK b (l.map fun b=>(b,0))).isSome=true);rw[List.map_map] at this;obtain⟨z,hz,rfl⟩:=List.mem_map.1 this;have:=h z hz;simp at this
 rw[this];rfl
theorem J9 {mid:Nat} {l:List Nat} (hr:FU B L q (cZ l)) (hlt:l.Pairwise (· < ·)) (hb:∀b∈l,b<64) (hl:l.length≤64) {Kr:Am.St→Prop} {Ke:Nat→Am.St→Prop} (hk:∀H',az B H' (df id 166 (Lo none 0 0 (some mid))::iM mid (nQ (l.map fun b=>(b,0)) 0) l.length::L)→Ke 0 (St.mk (ab [(0,T.v (V.slice q l.length c)),(4,T.v (V.aj (some (id,0))))]) (ab []) H')):∀(k i:Nat) {H:ag},i+k=l.length→az B H (df id 166 (Lo none 0 0 (some mid))::iM mid (nQ ((l.take i).map fun b=>(b,0)) 0) i::L)→lo 60 3 (St.mk (ab [(0,T.v (V.slice q l.length c)),(4,T.v (V.aj (some (id,0)))),(10,T.v (V.slice q l.length c)),(11,T.v (V.int .i64 (l.length:Int))),(12,T.v (V.int .i64 (i:Int)))]) (ab []) H) Kr Ke
 |0,i,H,hi,h=>by
  obtain rfl:i=l.length:=by omega
  rw[List.take_length] at h;rw[NZ,decide_eq_false (by omega),ai];exact hk H h
 |k+1,i,H,hi,h=>by
  have mP:i<l.length:=by omega
  have hrH:=hr H h.drop.drop;obtain⟨s1,i1,c1⟩:=hrH.at (i:=i) (by simpa using mP);have e1:(cZ l)[i]'(by simpa using mP)=(l[i]:Int):=by simp [cZ]
  rw[e1] at c1;have hg:=h.get;have hgl:(Lo none 0 0 (some mid)).length=2:=rfl;have j1:H.inb id 1 1=true:=nH hg (by omega);have d1:H.cell id 1=.map (some mid):=aY hg 1;have hm:=h.swap;have hmo:=uX hm;have a1:(i:Int)<(l.length:Int):=by omega
  have a2:0≤(i:Int):=by omega
  have hbi:=hb _ (List.getElem_mem mP);have a3:¬(l[i]:Int)<0:=by omega
  have a4:¬(l[i]:Int)≥64:=by omega
  rw[NZ];simp only[AJ,reduceIte,Nat.reduceEqDiff,a1,a2,Int.toNat_natCast,s1,i1,c1,a3,a4,aO,cond_true,if_true,Bool.false_eq_true,if_false,Option.isSome_some,Nat.zero_add];have gC:=hm.JY (l[i]:Int) (.int .u8 0)
  have EM:rP (l[i]:Int) (.int .u8 0) (nQ ((l.take i).map fun b=>(b,0)) 0) i=(nQ ((l.take (i+1)).map fun b=>(b,0)) 0,i+1):=by
   unfold rP
   rw[RM (fun x hx=>by
    obtain⟨j,hj,rfl⟩:=List.mem_iff_getElem.1 hx;rw[List.length_take] at hj;rw[List.getElem_take]
    exact List.pairwise_iff_getElem.1 hlt _ _ (by omega) mP (by omega))]
   rw[List.take_succ_eq_append_getElem mP,List.map_append,List.map_singleton,J7];have:(0:Nat)+((l.take i).map fun b=>(b,(0:Nat))).length=i:=by simp;omega
   simp only[this];rfl
  rw[EM] at gC;have ih:=J9 (Kr:=Kr) hr hlt hb hl hk k (i+1) (by omega) gC.swap;by_cases h0:i=0
  ·subst h0;have b1:¬((0:Nat):Int)>0:=by omega
   have b2:IntKind.i64.wrap (((0:Nat):Int)+1)=((0+1:Nat):Int):=aK (by omega);simp only[b1,decide_false,Bool.false_and,ai,Bool.false_eq_true,if_false,aw,j1,d1,V.cL,V.av,hmo,AJ,reduceIte,Nat.reduceEqDiff,Option.isSome_some,b2];exact ih
  ·obtain⟨j,rfl⟩:∃j,i=j+1:=⟨i-1,by omega⟩;have b1:((j+1:Nat):Int)>0:=by omega
   have b2:IntKind.i64.wrap (((j+1:Nat):Int)-1)=(j:Int):=by rw[bu (by omega) (by omega)];omega
   have b3:0≤(j:Int):=by omega
   have b4:(j:Int)<(l.length:Int):=by omega
   obtain⟨t1,t2,t3⟩:=hrH.at (i:=j) (by simp;omega);have e2:(cZ l)[j]'(by simp;omega)=(l[j]:Int):=by simp [cZ]
   rw[e2] at t3;have Hb:l[j]<l[j+1]:=List.pairwise_iff_getElem.1 hlt _ _ (by omega) mP (by omega);have b5:¬(l[j+1]:Int)≤(l[j]:Int):=by omega
   have b6:IntKind.i64.wrap (((j+1:Nat):Int)+1)=((j+1+1:Nat):Int):=aK (by omega);simp only[b1,b2,b3,b4,b5,t1,t2,t3,Int.toNat_natCast,decide_true,decide_false,Bool.and_false,ai,if_true,aw,j1,d1,V.cL,V.av,hmo,AJ,reduceIte,Nat.reduceEqDiff,Option.isSome_some,b6];exact ih
theorem RN {l:List Nat} (h:az B H L) (hr:FU B L q (cZ l)) (hlt:l.Pairwise (· < ·)) (hb:∀b∈l,b<64) (hl:l.length≤64) (k:∀id H',az B H' (D5 id (Po.new l)::L)→K (.tuple [.aj (some (id,0)),.int .i64 0]) H'):cl 60 [.slice q l.length c] H K:=by
 rw[abB];have h1:=h.OO;have h2:=h1.alloc 166 (Lo none 0 0 (some H.next));refine J9 hr hlt hb hl (fun H' h'=> ?_) l.length 0 (by omega) h2;simp only[AJ,reduceIte,Nat.reduceEqDiff];have hg:=h'.get;have hn:(cZ l).length≤1000000:=by simp;omega
 have hC:=LL (c:=c) (K:=fun v H'=>ah (V.av .slice v) (ah (H'.wr (H.alloc (.map [] 0)).next 0 1) (K (.tuple [.aj (some ((H.alloc (.map [] 0)).next,0)),.int .i64 0]) (H'.store (H.alloc (.map [] 0)).next 0 [.slice (V.au v) (V.ax v) (V.aD v)]))))
  h' ((hr.bS _).bS _ H' h') hn (fun q' c' H2 h2=> ?_)
 ·rw[gL] at hC;simpa [AJ,reduceIte,Nat.reduceEqDiff] using hC
 ·obtain⟨w,h3⟩:=(h2.ord [1]).BT (k:=0) (by show 0<2;omega) (.slice q' (cZ l).length c');simp only[AJ,reduceIte,Nat.reduceEqDiff,w];refine k _ _ (zE.to (x:=⟨q',c',H.next⟩) ?_);unfold zE VJ Po.new;rw[List.length_map,List.map_map];have e:((Prod.fst ∘ fun b=>(b,0)):Nat→Nat)=id:=rfl;rw[e,List.map_id];rw[gL] at h3⊢;exact h3.ord [0,0]
theorem mM (h:Nat) (w:List Int) (x:Nat×Nat) (l:List (Nat×Nat)) (o:Option Nat):gv h w (x::l) o=if x.2≠h∨w.length≤x.1 then gv h w l o else match o with
 |none=>gv h w l (some x.1)
 |some b=>if w.getD x.1 0<w.getD b 0 then gv h w l (some x.1) else gv h w l (some b):=by
 cases o<;>rfl
theorem nR {wq:Oq} {wc:Nat} {w:List Int} (hx:zE B H id p x L) (hp:p.ok) (hr:On H wq w) (hw:Nat) {Kr:Am.St→Prop} {Ke:Nat→Am.St→Prop}:∀(k i:Nat) (o:Option Nat),i+k=p.bl.length→(∀b,o=some b→b<w.length)→Ke 0 (St.mk (ab [(8,T.v (V.int .i64 (((gv hw w (p.bl.drop i) o).getD 0:Nat):Int))),(9,T.v (V.bool (gv hw w (p.bl.drop i) o).isSome))]) (ab []) H)→lo 153 6 (St.mk (ab [(0,T.v (V.aj (some (id,0)))),(1,T.v (V.int .u8 (hw:Int))),(2,T.v (V.slice wq w.length wc)),(8,T.v (V.int .i64 ((o.getD 0:Nat):Int))),(9,T.v (V.bool o.isSome)),(17,T.v (V.slice x.q p.bl.length x.c)),(18,T.v (V.int .i64 (p.bl.length:Int))),(19,T.v (V.int .i64 (i:Int)))]) (ab []) H) Kr Ke
 |0,i,o,hi,ho,hk=>by
  obtain rfl:i=p.bl.length:=by omega
  rw[List.drop_length] at hk;rw[Jv,decide_eq_false (by omega),ai];exact hk
 |k+1,i,o,hi,ho,hk=>by
  have hlt:i<p.bl.length:=by omega
  have g:=VK hx;obtain⟨s1,i1,c1⟩:=g.r i hlt;have a1:(i:Int)<(p.bl.length:Int):=by omega
  have a2:0≤(i:Int):=by omega
  have hh:=O7 hp hlt;have hle:=hp.len;rw[List.drop_eq_getElem_cons hlt,mM] at hk;rw[Jv];simp only[AJ,reduceIte,Nat.reduceEqDiff,a1,a2,Int.toNat_natCast,s1,i1,c1,Option.isSome_some,Nat.zero_add,g.i1,g.c1,V.cL,V.av,g.mo,g.mg,hh,Option.map_some,Bool.not_not];rw[aK (by omega)];by_cases hc:(p.bl[i]).2≠hw∨w.length≤(p.bl[i]).1
  ·rw[if_pos hc] at hk
   have e:(bif decide (((p.bl[i]).2:Int)=(hw:Int)) then decide (((p.bl[i]).1:Int)≥(w.length:Int)) else true)=true:=by
    rcases hc with hc|hc
    ·have:¬((p.bl[i]).2:Int)=(hw:Int):=by omega
     simp [this]
    ·have:((p.bl[i]).1:Int)≥(w.length:Int):=by omega
     simp only[this,decide_true];cases decide (((p.bl[i]).2:Int)=(hw:Int))<;>rfl
   rw[e,ak];exact nR hx hp hr hw k (i+1) o (by omega) ho hk
  ·rw[if_neg hc] at hk;have h1:((p.bl[i]).2:Int)=(hw:Int):=by omega
   have h2:¬((p.bl[i]).1:Int)≥(w.length:Int):=by omega
   have h3:(p.bl[i]).1<w.length:=by omega
   simp only[h1,h2,decide_true,decide_false,cond_true,ai]
   cases o with
   |none=>
    simp only[Option.isSome_none,aO,Bool.false_eq_true,if_false,aw,cond_false,ak];exact nR hx hp hr hw k (i+1) (some (p.bl[i]).1) (by omega) (fun b hb=>by cases hb;exact h3) hk
   |some b0=>
    have hb0:=ho b0 rfl;obtain⟨t1,t2,t3⟩:=hr.at h3;obtain⟨u1,u2,u3⟩:=hr.at hb0;have c1:0≤((p.bl[i]).1:Int):=by omega
    have c2:((p.bl[i]).1:Int)<(w.length:Int):=by omega
    have c3:0≤(b0:Int):=by omega
    have c4:(b0:Int)<(w.length:Int):=by omega
    have w1:w.getD (p.bl[i]).1 0=w[(p.bl[i]).1]:=by rw[List.getD_eq_getElem?_getD,List.getElem?_eq_getElem h3];rfl
    have w2:w.getD b0 0=w[b0]:=by rw[List.getD_eq_getElem?_getD,List.getElem?_eq_getElem hb0];rfl
    simp only[w1,w2] at hk;simp only[Option.isSome_some,Option.getD_some,aO,if_true,c1,c2,c3,c4,t1,t2,t3,u1,u2,u3,Int.toNat_natCast,AJ,reduceIte,Nat.reduceEqDiff,cond_true];by_cases Hb:w[(p.bl[i]).1]<w[b0]
    ·rw[if_pos Hb] at hk;simp only[Hb,decide_true,ak];exact nR hx hp hr hw k (i+1) (some (p.bl[i]).1) (by omega) (fun b hb=>by cases hb;exact h3) hk
    ·rw[if_neg Hb] at hk;simp only[Hb,decide_false,ai];exact nR hx hp hr hw k (i+1) (some b0) (by omega) ho hk
theorem Ca {wq:Oq} {wc:Nat} {w:List Int} (h:az B H (D5 id p::L)) (hp:p.ok) (hr:On H wq w) (hw:Nat):(K (.tuple [.int .i64 (((p.jd hw w).getD 0:Nat):Int),.bool (p.jd hw w).isSome]) H)→cl 153 [.aj (some (id,0)),.int .u8 (hw:Int),.slice wq w.length wc] H K:=by
 intro k;obtain⟨x,hx⟩:=zE.of h;have g:=VK hx;rw[Zz];simp only[AJ,reduceIte,Nat.reduceEqDiff,Option.isNone_some,Option.isSome_some,g.i0,g.c0];refine nR hx hp hr hw p.bl.length 0 none (by omega) (fun b hb=>by cases hb) ?_;rw[List.drop_zero];simp only[AJ,reduceIte,Nat.reduceEqDiff];exact k
end
structure Ft where
 ep:Nat
 pm:Pm
 po:Po
 seq:Nat
structure FS where
 a:Ar
 f:Ft
def FS.bB (s:FS) (b h:Nat):FS:={s with f:={s.f with po:=s.f.po.set b h}}
def FS.next (s:FS) (b:Nat):Nat:=(s.a.bs.getD b fJ).pg.length
def bG (s:FS) (b:Nat):FS×Int:=
 if (dY s.a b s.f.ep).2=0 then (FS.bB {s with a:=(dY s.a b s.f.ep).1} b 0,0)
 else if (dY s.a b s.f.ep).2=8 then (FS.bB {s with a:=(dY s.a b s.f.ep).1} b 3,0)
 else ({s with a:=(dY s.a b s.f.ep).1},(dY s.a b s.f.ep).2)
def jj (n:Nat):Nat:=(n+1) % 18446744073709551616
def bZ (s:FS) (b:Nat) (x:Sh):FS×Int:=
 let y:={x with ep:=s.f.ep,seq:=jj s.f.seq}
 let r:=fP s.a b (s.next b) (eh y) s.f.ep
 if r.2=8∨r.2=6 then (⟨r.1,{s.f with seq:=jj s.f.seq,po:=s.f.po.set b 3}⟩,8)
 else if r.2=0 then (⟨r.1,{s.f with seq:=jj s.f.seq,pm:=s.f.pm.put x.ao (some (b,s.next b))}⟩,0)
 else (⟨r.1,{s.f with seq:=jj s.f.seq}⟩,r.2)
def FS.RO (s:FS):List Int:=s.a.bs.map Bk.er
def FS.dB (s:FS):Option Nat:=s.f.po.jd 0 s.RO
def FS.jd (s:FS):Option Nat:=s.f.po.jd 1 s.f.pm.hZ
def FS.nf (s:FS) (ao:Nat):Option Sh:=match s.f.pm.cg.getD ao none with
 |none=>some ⟨2,0,0,ao,0,[]⟩
 |some (b,p)=>if (gA s.a b p).1=0 then fu (gA s.a b p).2 else none
structure ba (g:cn) (s:FS):Prop where
 n:(s.a.bs.length:Int)=g.aE
 p:s.a.aA=g.aA
 len:∀b∈s.a.bs,(b.pg.length:Int)≤g.aA
 d:∀b∈s.a.bs,∀d∈b.pg,d.length=96
 pm:s.f.pm.ok
 nb:(s.f.pm.nb:Int)=g.aE
 na:(s.f.pm.cg.length:Int)=g.cap+1
 po:s.f.po.ok
 us:s.f.po.bl.map Prod.fst=g.us
 seq:s.f.seq<18446744073709551616
 ep:s.f.ep<18446744073709551616
def RP (aN:Nat) (m:Gm) (f:Ft) (mid pid:Nat):List V:=T5 (some (aN,0)) m.g.aE m.g.aA m.g.aH m.q m.g.bK.length m.c (f.ep:Int) (some (mid,0)) (some (pid,0)) (f.seq:Int)
section
variable {B:ag} {L:List cv} {H:ag} {K:V→ag→Prop} {aN fid mid pid:Nat} {m:Gm} {s:FS}
abbrev fQ (B H:ag) (aN fid mid pid:Nat) (m:Gm) (s:FS) (L:List cv):Prop:=
 az B H (df fid 120 (RP aN m s.f mid pid)::u6 mid s.f.pm::D5 pid s.f.po::dJ aN s.a::L)
structure FtG (H:ag) (aN fid mid pid:Nat) (m:Gm) (s:FS):Prop where
 i:∀k<9,H.inb fid k 1=true
 c0:H.cell fid 0=.aj (some (aN,0))
 c1:H.cell fid 1=.int .i64 m.g.aE
 c2:H.cell fid 2=.int .i64 m.g.aA
 c3:H.cell fid 3=.int .i64 m.g.aH
 c5:H.cell fid 5=.int .u64 (s.f.ep:Int)
 c6:H.cell fid 6=.aj (some (mid,0))
 c7:H.cell fid 7=.aj (some (pid,0))
 c8:H.cell fid 8=.int .u64 (s.f.seq:Int)
 g:H.inb fid 1 4=true∧H.sub fid 1 4=dN m.g.aE m.g.aA m.g.aH m.q m.g.bK.length m.c
 w:H.wr fid 8 1=true
theorem wo (h:fQ B H aN fid mid pid m s L):FtG H aN fid mid pid m s:=by
 have hg:=h.get;refine⟨fun k hk=>nH hg (by show k<9;exact hk),aY hg 0,aY hg 1,aY hg 2,aY hg 3,aY hg 5,aY hg 6,aY hg 7,aY hg 8,⟨dE hg 1 4, ?_⟩,fI hg 8 1⟩;rw[kR hg];rfl
theorem fQ.arr (h:fQ B H aN fid mid pid m s L):az B H (dJ aN s.a::df fid 120 (RP aN m s.f mid pid)::u6 mid s.f.pm::D5 pid s.f.po::L):=h.ord [3]
theorem fQ.pm (h:fQ B H aN fid mid pid m s L):az B H (u6 mid s.f.pm::df fid 120 (RP aN m s.f mid pid)::D5 pid s.f.po::dJ aN s.a::L):=h.ord [1]
theorem fQ.po (h:fQ B H aN fid mid pid m s L):az B H (D5 pid s.f.po::df fid 120 (RP aN m s.f mid pid)::u6 mid s.f.pm::dJ aN s.a::L):=h.ord [2]
theorem ba.how {g:cn} (hok:ba g s) {b:Nat} (hb:b∈g.us):(s.f.po.how b).isSome=true:=kj.2 (by rw[hok.us];exact hb)
theorem nS {g:cn} {b:Nat} (hb:b∈g.us):(b:Int)<g.aE:=by
 unfold cn.us at hb;have:=(List.mem_filter.1 hb).1;have:=List.mem_of_mem_drop this;rw[List.mem_range] at this;omega
theorem ba.lt {g:cn} (hok:ba g s) {b:Nat} (hb:b∈g.us):b<s.a.bs.length:=by
 have:=nS hb;have:=hok.n;omega
theorem ba.bB {g:cn} (hg:g.In) (hok:ba g s) {b h:Nat} (hb:b∈g.us) (hh:h≤3):ba g (s.bB b h):=
 {hok with
  po:=hok.po.set (by have:=nS hb;have:=hg.b;omega) hh
  us:=by show (s.f.po.set b h).bl.map Prod.fst=_;rw[RL];exact hok.us}
theorem Ix {a:Ar} {b:Nat} {e:Int} {P:Ar→Prop} (h0:P a) (h1:∀bs:List Bk,bs.length=a.bs.length→(∀x∈bs,x∈a.bs∨(∃y∈a.bs,x.pg=y.pg)∨x.pg=[])→∀a':Ar,a'.bs=bs→a'.aA=a.aA→P a'):P (dY a b e).1:=by
 unfold dY;split
 ·exact h0
 split
 ·exact h0
 split
 ·exact h0
 rename_i bk hbk;have hmem:=List.mem_of_getElem? hbk
 have key:∀x∈(bx a b bk).bs,x∈a.bs∨(∃y∈a.bs,x.pg=y.pg)∨x.pg=[]:=by
  intro x hx;rcases List.mem_or_eq_of_mem_set hx with hx|rfl
  ·exact .inl hx
  ·exact .inr (.inl ⟨bk,hmem,bA bk⟩)
 split
 ·exact h1 (bx a b bk).bs (fX ..) key _ rfl rfl
 split
 ·refine h1 _ (by simp [fX]) (fun x hx=> ?_) _ rfl rfl;rcases List.mem_or_eq_of_mem_set hx with hx|rfl
  ·exact key x hx
  ·exact .inr (.inl ⟨bk,hmem,bA bk⟩)
 ·refine h1 _ (by simp [fX]) (fun x hx=> ?_) _ rfl rfl;rcases List.mem_or_eq_of_mem_set hx with hx|rfl
  ·exact key x hx
  ·exact .inr (.inr rfl)
theorem ba.zF {g:cn} (hok:ba g s) (b:Nat) (e:Int):ba g {s with a:=(dY s.a b e).1}:=by
 refine Ix (P:=fun a=>ba g {s with a:=a}) hok (fun bs hl hx a' hb hp=> ?_)
 have hx':∀x∈a'.bs,(∃y∈s.a.bs,x.pg=y.pg)∨x.pg=[]:=fun x hh=>by
  rw[hb] at hh;rcases hx x hh with h|h|h
  ·exact .inl ⟨x,h,rfl⟩
  ·exact .inl h
  ·exact .inr h
 refine {hok with n:= ?_,p:= ?_,len:= ?_,d:= ?_}
 ·show ((a'.bs.length:Nat):Int)=_;rw[hb,hl];exact hok.n
 ·show a'.aA=_;rw[hp];exact hok.p
 ·intro x hh;rcases hx' x hh with⟨y,hy,e⟩|e
  ·rw[e];exact hok.len y hy
  ·rw[e]
   cases Wq:s.a.bs with
   |nil=>
    have h0:a'.bs.length=0:=by rw[hb,hl,Wq];rfl
    rw[List.eq_nil_of_length_eq_zero h0] at hh;cases hh
   |cons y l=>have:=hok.len y (by rw[Wq];exact List.mem_cons_self);simp only[List.length_nil];omega
 ·intro x hh d hd;rcases hx' x hh with⟨y,hy,e⟩|e
  ·rw[e] at hd;exact hok.d y hy d hd
  ·rw[e] at hd;cases hd
theorem ba.bG {g:cn} (hg:g.In) (hok:ba g s) {b:Nat} (hb:b∈g.us):ba g (bG s b).1:=by
 unfold Go.Proofs.YtlgdkndamddpkaaGreat.bG;split
 ·exact(hok.zF b _).bB hg hb (by omega)
 split
 ·exact(hok.zF b _).bB hg hb (by omega)
 ·exact hok.zF b _
theorem wu (hm:dA B L m) (hg:m.g.In) (h:fQ B H aN fid mid pid m s L) (hok:ba m.g s) {b:Nat} (hb:b∈m.g.us) (k:∀H',fQ B H' aN fid mid pid m (bG s b).1 L→K (.int .i64 (bG s b).2) H'):cl 66 [.aj (some (fid,0)),.int .i64 (b:Int)] H K:=by
 have g:=wo h;rw[abH];simp only[AJ,reduceIte,Nat.reduceEqDiff,Option.isSome_some,Nat.zero_add,g.i 0 (by omega),g.i 5 (by omega),g.c0,g.c5];refine OB h.arr (hok.lt hb) (s.f.ep:Int) (fun H1 h1=> ?_);simp only[AJ,reduceIte,Nat.reduceEqDiff];have Bs:fQ B H1 aN fid mid pid m {s with a:=(dY s.a b s.f.ep).1} L:=h1.ord [1,1,1];have g1:=wo Bs;unfold bG at k;by_cases h0:(dY s.a b s.f.ep).2=0
 ·rw[if_pos h0] at k;simp only[h0,decide_true,ak,AJ,reduceIte,Nat.reduceEqDiff,Option.isSome_some,Nat.zero_add,g1.i 7 (by omega),g1.c7];refine kU (hw:=0) Bs.po hok.po (hok.how hb) (by omega) (fun e H2 h2=> ?_);simp only[AJ,reduceIte,Nat.reduceEqDiff];exact k H2 (h2.ord [1,1])
 ·rw[if_neg h0] at k;simp only[h0,decide_false,ai];by_cases h8:(dY s.a b s.f.ep).2=8
  ·rw[if_pos h8] at k;simp only[h8,decide_true,ak,AJ,reduceIte,Nat.reduceEqDiff,Option.isSome_some,Nat.zero_add,g1.i 7 (by omega),g1.c7];refine kU (hw:=3) Bs.po hok.po (hok.how hb) (by omega) (fun e H2 h2=> ?_);simp only[AJ,reduceIte,Nat.reduceEqDiff];exact k H2 (h2.ord [1,1])
  ·rw[if_neg h8] at k;simp only[h8,decide_false,ai];exact k H1 Bs
end
section
variable {B:ag} {L:List cv} {H:ag} {K:V→ag→Prop} {aN fid mid pid:Nat} {m:Gm} {s:FS}
theorem VL {t1:V} {N:Nat} (hN:N≤64) {w:Nat→Int} (hc:∀(b:Nat) (H':ag),b<N→az B H' L→∀K':V→ag→Prop,K' (.int .i64 (w b)) H'→lu eF (rW eF) t1 [.int .i64 (b:Int)] H' K') {Kr:Am.St→Prop} {Ke:Nat→Am.St→Prop}:∀(k i:Nat) {q:Oq} {c:Nat} {H:ag},i+k=N→az B H (IR q c ((List.range i).map w)::L)→(∀q' c' H',az B H' (IR q' c' ((List.range N).map w)::L)→Ke 0 (St.mk (ab [(5,T.v (V.slice q' N c'))]) (ab []) H'))→lo 154 3 (St.mk (ab [(1,T.v t1),(5,T.v (V.slice q i c)),(11,T.v (V.int .i64 (N:Int))),(12,T.v (V.int .i64 (i:Int)))]) (ab []) H) Kr Ke
 |0,i,q,c,H,hi,h,hk=>by
  obtain rfl:i=N:=by omega
  rw[Jw,decide_eq_false (by omega),ai];exact hk q c H h
 |k+1,i,q,c,H,hi,h,hk=>by
  rw[Jw,decide_eq_true (by omega),ak];have tG:∀K':V→ag→Prop,K' (.int .i64 (w i)) H→lu eF (rW eF) t1 [.int .i64 (i:Int)] H K':=hc i H (by omega) h.drop;refine tG _ ?_;simp only[AJ,reduceIte,Nat.reduceEqDiff]
  have hp:=az.zq h (w i) (e2:=3) (by simp;omega) (K:=fun q n c H'=>lo 154 3
   (St.mk (ab [(1,T.v t1),(5,T.v (V.slice q n c)),(11,T.v (V.int .i64 (N:Int))),(12,T.v (V.int .i64 (IntKind.i64.wrap ((i:Int)+1))))]) (ab []) H') Kr Ke) (fun q' c' H' h'=> ?_)
  ·rw[List.length_map,List.length_range] at hp;exact hp
  ·rw[aK (by omega)];have e:(List.range i).map w++[w i]=(List.range (i+1)).map w:=by rw[List.range_succ,List.map_append];rfl
   rw[e] at h'⊢;rw[List.length_map,List.length_range];exact VL hN hc k (i+1) (by omega) h' hk
theorem VM (a:Ar):a.bs.map Bk.er=(List.range a.bs.length).map fun b=>(a.bs.getD b fJ).er:=by
 apply List.ext_getElem
 ·simp
 ·intro i h1 h2;simp only[List.getElem_map,List.getElem_range];rw[List.getD_eq_getElem?_getD,List.getElem?_eq_getElem (by simpa using h1)];rfl
theorem Kb (hg:m.g.In) (h:fQ B H aN fid mid pid m s L) (hok:ba m.g s) (k:∀q c H',fQ B H' aN fid mid pid m s (IR q c s.RO::L)→K (.slice q s.RO.length c) H'):cl 154 [.aj (some (fid,0)),.o9 155 [.aj (some (aN,0))]] H K:=by
 have g:=wo h;rw[Tc];have hn:=hok.n;have hb:=hg.b;have e:m.g.aE=((s.a.bs.length:Nat):Int):=by omega
 simp only[AJ,reduceIte,Nat.reduceEqDiff,Option.isSome_some,Nat.zero_add,g.i 1 (by omega),g.c1,e];refine VL (w:=fun b=>(s.a.bs.getD b fJ).er) (L:=df fid 120 (RP aN m s.f mid pid)::u6 mid s.f.pm::D5 pid s.f.po::dJ aN s.a::L) (N:=s.a.bs.length) (by omega) (fun b H' Qx h' K' kk=> ?_) s.a.bs.length 0 (by omega) (az.uO h) (fun q c H' h'=> ?_)
 ·show cl 155 [.aj (some (aN,0)),.int .i64 (b:Int)] H' K'
  rw[Lz (fQ.arr h') Qx];rw[List.getD_eq_getElem?_getD,List.getElem?_eq_getElem Qx] at kk;exact kk
 ·simp only[AJ,reduceIte,Nat.reduceEqDiff];have hl:s.RO.length=s.a.bs.length:=by simp [FS.RO]
  have:=k q c H' (by unfold FS.RO;rw[VM];exact h'.ord [1,1,1,1]);rw[hl] at this;exact this
theorem Kc (hg:m.g.In) (h:fQ B H aN fid mid pid m s L) (hok:ba m.g s) (k:∀q c H',fQ B H' aN fid mid pid m s (IR q c s.f.pm.hZ::L)→K (.slice q s.f.pm.hZ.length c) H'):cl 154 [.aj (some (fid,0)),.o9 65 [.aj (some (mid,0))]] H K:=by
 have g:=wo h;rw[Tc];have hn:=hok.nb;have hb:=hg.b;have e:m.g.aE=((s.f.pm.nb:Nat):Int):=by omega
 simp only[AJ,reduceIte,Nat.reduceEqDiff,Option.isSome_some,Nat.zero_add,g.i 1 (by omega),g.c1,e];refine VL (w:=fun b=>(s.f.pm.ea b:Int)) (L:=df fid 120 (RP aN m s.f mid pid)::u6 mid s.f.pm::D5 pid s.f.po::dJ aN s.a::L) (N:=s.f.pm.nb) (by omega) (fun b H' Qx h' K' kk=> ?_) s.f.pm.nb 0 (by omega) (az.uO h) (fun q c H' h'=> ?_)
 ·show cl 65 [.aj (some (mid,0)),.int .i64 (b:Int)] H' K'
  rw[nN (fQ.pm h') Qx];exact kk
 ·simp only[AJ,reduceIte,Nat.reduceEqDiff];have:=k q c H' (h'.ord [1,1,1,1]);rw[qq] at this;exact this
theorem D6 (hg:m.g.In) (h:fQ B H aN fid mid pid m s L) (hok:ba m.g s) (k:∀H',fQ B H' aN fid mid pid m s L→K (.tuple [.int .i64 ((s.dB.getD 0:Nat):Int),.bool s.dB.isSome]) H'):cl 149 [.aj (some (fid,0))] H K:=by
 have g:=wo h;rw[Zw];simp only[AJ,reduceIte,Nat.reduceEqDiff,Option.isSome_some,Nat.zero_add,g.i 0 (by omega),g.i 7 (by omega),g.c0,g.c7]
 have fin:∀q c H',fQ B H' aN fid mid pid m s (IR q c s.RO::L)→∀K':V→ag→Prop,K' (.tuple [.int .i64 ((s.dB.getD 0:Nat):Int),.bool s.dB.isSome]) H'→
  cl 153 [.aj (some (pid,0)),.int .u8 0,.slice q s.RO.length c] H' K':=fun q c H' h' K' kk=>
  Ca (hw:=0) h'.po hok.po (az.uN (h'.ord [4])) kk
 refine⟨Kb hg h hok (fun q c H' h'=> ?_),Kb hg h hok (fun q c H' h'=> ?_)⟩
 ·simp only[AJ,reduceIte,Nat.reduceEqDiff];refine fin q c H' h' _ ?_;simp only[AJ,reduceIte,Nat.reduceEqDiff];exact k H' (h'.ord [4]).drop
 ·have g':=wo h';simp only[AJ,reduceIte,Nat.reduceEqDiff,g'.i 7 (by omega),g'.c7];refine fin q c H' h' _ ?_;simp only[AJ,reduceIte,Nat.reduceEqDiff];exact k H' (h'.ord [4]).drop
theorem Kd (hm:dA B L m) (h:fQ B H aN fid mid pid m s L) (hok:ba m.g s) (hg:m.g.In) {ao:Nat} (ha:(ao:Int)≤m.g.cap) {x:Sh} (hx:s.nf ao=some x) (k:∀q c H',fQ B H' aN fid mid pid m s (BY q c x.data::L)→K (.tuple [AF x q c,.int .i64 0]) H'):cl 69 [.aj (some (fid,0)),.int .i64 (ao:Int)] H K:=by
 have g:=wo h;have CM:ao<s.f.pm.cg.length:=by have:=hok.na;omega
 rw[abK];simp only[AJ,reduceIte,Nat.reduceEqDiff,Option.isSome_some,Nat.zero_add,g.i 6 (by omega),g.c6];rw[J1 h.pm CM];have hgd:s.f.pm.cg.getD ao none=s.f.pm.cg[ao]:=by rw[List.getD_eq_getElem?_getD,List.getElem?_eq_getElem CM];rfl
 unfold FS.nf at hx;rw[hgd] at hx
 cases ho:s.f.pm.cg[ao] with
 |none=>
  rw[ho] at hx;cases hx;simp only[AJ,reduceIte,Nat.reduceEqDiff,wk,f127,BP,vV,vW,Option.isSome_none];have:=k none 0 H ((kD h).ord [1,1,1,1]);simpa [AF] using this
 |some o=>
  obtain⟨b,p⟩:=o;rw[ho] at hx;dsimp only at hx;obtain⟨hb,hp⟩:=hok.pm.pl b p (by rw[←ho];exact List.getElem_mem CM);have Br:b<s.a.bs.length:=by have:=hok.n;have:=hok.nb;omega
  simp only[AJ,reduceIte,Nat.reduceEqDiff,wk,f127,BP,vV,vW,Option.isSome_some,Nat.zero_add,g.i 0 (by omega),g.c0];refine FZ h.arr Br (fun d hd=>by rw[hok.d _ (List.getElem_mem Br) d hd];omega) p (fun q1 c1 H1 h1=> ?_);by_cases he:(gA s.a b p).1=0
  ·rw[if_pos he] at hx;simp only[AJ,reduceIte,Nat.reduceEqDiff,he]
   have KU:(gA s.a b p).2.length≤100000:=by
    have:(gA s.a b p).2.length≤96:=by
     unfold gA;split
     ·simp
     split
     ·simp
     rw[List.getElem?_eq_getElem Br];simp only;split
     ·simp
     rename_i d hd;split
     ·simp
     ·show d.length≤96
      rw[hok.d _ (List.getElem_mem Br) d (List.mem_of_getElem? hd)];omega
    omega
   refine F4 h1 (fun H h=>h.ja) KU ((h1.MY).2.2.1) (fun hnone=> ?_) (fun y hy q2 c2 H2 h2=> ?_)
   ·rw[hnone] at hx;cases hx
   ·rw[hy] at hx;cases hx;unfold AF;simp only[AJ,reduceIte,Nat.reduceEqDiff,f125,FE,zd,ze,zf,zg,zh,zi];exact k q2 c2 H2 ((h2.ord [1]).drop.ord [2,2,2,1])
  ·rw[if_neg he] at hx;cases hx
theorem D7 (hm:dA B L m) (h:fQ B H aN fid mid pid m s L) (hg:m.g.In) (a:Int) (k:∀H',fQ B H' aN fid mid pid m s L→K (.int .i64 (if 0≤a∧a≤m.g.cap then 0 else 1)) H'):cl 68 [.aj (some (fid,0)),.int .i64 a] H K:=by
 have g:=wo h;rw[abJ];simp only[AJ,reduceIte,Nat.reduceEqDiff,Option.isNone_some];by_cases h0:a<0
 ·have e:¬(0≤a∧a≤m.g.cap):=by omega
  rw[if_neg e] at k;simp only[h0,decide_true,Bool.not_true,ai];exact k H h
 ·have hsub:=g.g.2;simp only[h0,decide_false,Bool.not_false,ak,Option.isSome_some,Nat.zero_add,g.g.1,hsub,f25,uI,mF,mG,mH,mI,AJ,reduceIte,Nat.reduceEqDiff];have:=uQ (K:=fun v H'=>ah (V.av (.int .i64) v) (br (decide (a>V.aa v)) (K (V.int .i64 1) H') (K (V.int .i64 0) H'))) h ((((hm.bS _).bS _).bS _).bS _) hg (fun H' h'=> ?_)
  ·exact this
  ·simp only[AJ,reduceIte,Nat.reduceEqDiff];by_cases h1:a>m.g.cap
   ·have e:¬(0≤a∧a≤m.g.cap):=by omega
    have:=k H' h';rw[if_neg e] at this;simp only[h1,decide_true,ak];exact this
   ·have e:0≤a∧a≤m.g.cap:=by omega
    have:=k H' h';rw[if_pos e] at this;simp only[h1,decide_false,ai];exact this
theorem Gj (hm:dA B L m) (h:fQ B H aN fid mid pid m s L) (hok:ba m.g s) (hg:m.g.In) {ao:Nat} (ha:(ao:Int)≤m.g.cap) {x:Sh} (hx:s.nf ao=some x) (k:∀q c H',fQ B H' aN fid mid pid m s (BY q c x.data::L)→K (.tuple [.slice q x.data.length c,.int .i64 0]) H'):cl 39 [.aj (some (fid,0)),.int .i64 (ao:Int)] H K:=by
 rw[abq];refine D7 hm h hg (ao:Int) (fun H1 h1=> ?_);have e:0≤(ao:Int)∧(ao:Int)≤m.g.cap:=⟨by omega,ha⟩;simp only[e,and_self,if_true,AJ,reduceIte,Nat.reduceEqDiff];refine Kd hm h1 hok hg ha hx (fun q c H2 h2=> ?_);unfold AF;simp only[AJ,reduceIte,Nat.reduceEqDiff,f125,FE,zd,ze,zf,zg,zh,zi];exact k q c H2 h2
end
section
variable {B:ag} {L:List cv} {H:ag} {K:V→ag→Prop} {aN fid mid pid:Nat} {m:Gm} {s:FS}
theorem LM {a:Ar} {b p:Nat} {d:List UInt8} {e:Int} {P:Ar→Prop} (h0:P a) (hd:d.length=96) (h1:∀bs:List Bk,bs.length=a.bs.length→(∀x∈bs,x∈a.bs∨(∃y∈a.bs,x.pg=y.pg∨∃z:List UInt8,z.length=96∧x.pg=y.pg++[z]∧(y.pg.length:Int)<a.aA))→∀a':Ar,a'.bs=bs→a'.aA=a.aA→P a'):P (fP a b p d e).1:=by
 unfold fP;split
 ·exact h0
 split
 ·exact h0
 rename_i hp;split
 ·exact h0
 split
 ·exact h0
 rename_i bk hbk;have hmem:=List.mem_of_getElem? hbk;split
 ·exact h0
 rename_i At;split
 ·exact h0
 have hlen:(bk.pg.length:Int)<a.aA:=by omega
 have key:∀x∈(bx a b bk).bs,x∈a.bs∨(∃y∈a.bs,x.pg=y.pg∨∃z:List UInt8,z.length=96∧x.pg=y.pg++[z]∧(y.pg.length:Int)<a.aA):=by
  intro x hx;rcases List.mem_or_eq_of_mem_set hx with hx|rfl
  ·exact .inl hx
  ·exact .inr ⟨bk,hmem,.inl (bA bk)⟩
 split
 ·exact h1 (bx a b bk).bs (fX ..) key _ rfl rfl
 split
 ·refine h1 _ (by simp [fX]) (fun x hx=> ?_) _ rfl rfl;rcases List.mem_or_eq_of_mem_set hx with hx|rfl
  ·exact key x hx
  ·exact .inr ⟨bk,hmem,.inr ⟨gY d 0,by rw[nI,hd],rfl,hlen⟩⟩
 ·refine h1 _ (by simp [fX]) (fun x hx=> ?_) _ rfl rfl;rcases List.mem_or_eq_of_mem_set hx with hx|rfl
  ·exact key x hx
  ·exact .inr ⟨bk,hmem,.inr ⟨d,hd,rfl,hlen⟩⟩
theorem O8 (n:Nat):jj n<18446744073709551616:=Nat.mod_lt _ (by omega)
theorem ba.prog {g:cn} (hok:ba g s) (b p:Nat) {d:List UInt8} (hd:d.length=96) (e:Int):ba g {s with a:=(fP s.a b p d e).1}:=by
 refine LM (P:=fun a=>ba g {s with a:=a}) hok hd (fun bs hl hx a' hb hp=> ?_);refine {hok with n:= ?_,p:= ?_,len:= ?_,d:= ?_}
 ·show ((a'.bs.length:Nat):Int)=_;rw[hb,hl];exact hok.n
 ·show a'.aA=_;rw[hp];exact hok.p
 ·intro x hh;have hh:x∈a'.bs:=hh;rw[hb] at hh;rcases hx x hh with h|⟨y,hy,h|⟨z,_,h,hlt⟩⟩
  ·exact hok.len x h
  ·rw[h];exact hok.len y hy
  ·rw[h];have:=hok.p;simp;omega
 ·intro x hh d' hd';have hh:x∈a'.bs:=hh;rw[hb] at hh;rcases hx x hh with h|⟨y,hy,h|⟨z,hz,h,hlt⟩⟩
  ·exact hok.d x h d' hd'
  ·rw[h] at hd';exact hok.d y hy d' hd'
  ·rw[h] at hd';rcases List.mem_append.1 hd' with hd'|hd'
   ·exact hok.d y hy d' hd'
   ·rw[List.mem_singleton] at hd';rw[hd'];exact hz
theorem ba.Iy {g:cn} (hok:ba g s):ba g {s with f:={s.f with seq:=jj s.f.seq}}:={hok with seq:=O8 _}
theorem Cb {a:Ar} {b:Nat} (hb:b<a.bs.length) {d:List UInt8} {e:Int} (h:(fP a b (a.bs.getD b fJ).pg.length d e).2=0):((a.bs.getD b fJ).pg.length:Int)<a.aA:=by
 unfold fP at h;split at h
 ·cases h
 split at h
 ·cases h
 omega
theorem ba.bZ {g:cn} (hg:g.In) (hok:ba g s) {b:Nat} (hb:b∈g.us) {x:Sh} (SH:x.data.length≤64):ba g (bZ s b x).1:=by
 have hl:(eh {x with ep:=s.f.ep,seq:=jj s.f.seq}).length=96:=lQ _ SH;have h1:=(hok.prog b (s.next b) hl (s.f.ep:Int)).Iy;unfold Go.Proofs.YtlgdkndamddpkaaGreat.bZ;simp only;split
 ·exact h1.bB hg hb (h:=3) (by omega)
 split
 ·rename_i h0;have hlt:=hok.lt hb;have hpos:=Cb hlt h0;have hp:=hok.p;have ac3:=hg.p;refine {h1 with pm:= ?_,na:= ?_}
  ·exact hok.pm.put (fun b' p' he=>by
    cases he;have:=nS hb;have:=hok.nb;unfold FS.next
    omega)
  ·show (((s.f.pm.put x.ao (some (b,s.next b))).cg.length:Nat):Int)=_
   unfold Pm.put;rw[List.length_set];exact hok.na
 ·exact h1
theorem Gk (hm:dA B L m) (hg:m.g.In) (h:fQ B H aN fid mid pid m s L) (hok:ba m.g s) {b:Nat} (hb:b∈m.g.us) {x:Sh} {q:Oq} {c:Nat} (hr:k6 B L q x.data) (h1:x.cU<256) (h4:(x.ao:Int)≤m.g.cap) (hcap:m.g.cap<65000) (h5:x.fr≤256) (h6:x.data.length≤64) (k:∀H',fQ B H' aN fid mid pid m (bZ s b x).1 L→K (.int .i64 (bZ s b x).2) H'):cl 141 [.aj (some (fid,0)),.int .i64 (b:Int),AF x q c] H K:=by
 have g:=wo h;have hlt:=hok.lt hb;have hsq:=hok.seq;unfold AF;rw[Zq]
 have e1:IntKind.u64.wrap ((s.f.seq:Int)+1)=(jj s.f.seq:Int):=by
  rw[IntKind.wrap_u64];unfold jj;omega
 obtain⟨w,hst⟩:=h.BT (k:=8) (by show 8<9;omega) (.int .u64 (jj s.f.seq:Int));have hS:fQ B (H.store fid 8 [.int .u64 (jj s.f.seq:Int)]) aN fid mid pid m {s with f:={s.f with seq:=jj s.f.seq}} L:=hst;simp only[AN,reduceIte,Nat.reduceEqDiff,Option.isSome_some,Nat.zero_add,g.i 8 (by omega),g.c8,e1,w];generalize (ag.store _ _ _ _)=H1 at hS⊢;clear hst;have g1:=wo hS;have gk:=hok.Iy;simp only[g1.i 0 (by omega),g1.i 5 (by omega),g1.i 8 (by omega),g1.c0,g1.c5,g1.c8,AN,reduceIte,Nat.reduceEqDiff];rw[uS (fQ.arr hS) hlt]
 have nj:((s.a.bs[b]'hlt).pg.length)=s.next b:=by
  unfold FS.next;rw[List.getD_eq_getElem?_getD,List.getElem?_eq_getElem hlt];rfl
 rw[show (({s with f:={s.f with seq:=jj s.f.seq}}:FS).a.bs[b]'hlt).pg.length=s.next b from nj];simp only[AN,reduceIte,Nat.reduceEqDiff,g1.i 0 (by omega),g1.i 5 (by omega),g1.c0,g1.c5];obtain⟨y,hy⟩:∃y:Sh,y={x with ep:=s.f.ep,seq:=jj s.f.seq}:=⟨_,rfl⟩;have hyV:V.agg (fC (x.cU:Int) (s.f.ep:Int) (jj s.f.seq:Int) (x.ao:Int) ((x.fr:Int)-1) q x.data.length c)=AF y q c:=by rw[hy];rfl
 rw[hyV];have hyl:(eh y).length=96:=lQ _ (by rw[hy];exact h6)
 have TL:∀(K:V→ag→Prop),(∀q' c' H',fQ B H' aN fid mid pid m {s with f:={s.f with seq:=jj s.f.seq}} (BY q' c' (eh y)::L)→K (.slice q' (eh y).length c') H')→cl 133 [AF y q c] H1 K:=fun K k=>
  JU hS (by rw[hy];exact((((hr.bS _).bS _).bS _).bS _)) (by rw[hy];exact h1) (by rw[hy];exact hok.ep) (by rw[hy];exact O8 _) (by rw[hy];show x.ao<_;omega) (by rw[hy];exact h5) (by rw[hy];exact h6) (fun q' c' H' h'=>k q' c' H' (h'.ord [1,1,1,1]))
 obtain⟨r,CL⟩:∃r,r=fP s.a b (s.next b) (eh y) s.f.ep:=⟨_,rfl⟩
 have P:∀(K:V→ag→Prop) q' c' H',fQ B H' aN fid mid pid m {s with f:={s.f with seq:=jj s.f.seq}} (BY q' c' (eh y)::L)→(∀H2,fQ B H2 aN fid mid pid m ⟨r.1,{s.f with seq:=jj s.f.seq}⟩ L→K (.int .i64 r.2) H2)→
  cl 151 [.aj (some (aN,0)),.int .i64 (b:Int),.int .i64 (s.next b:Int),.slice q' (eh y).length c',.int .u64 (s.f.ep:Int)] H' K:=by
  intro K q' c' H' h' k;have WA:s.a.aA≤1000:=by have:=hok.p;have:=hg.p;omega
  refine Ij (fQ.arr h') hlt (s.next b) (fun H h=>(h.ord [4]).ja) (by omega) (s.f.ep:Int) WA (fun H2 h2=> ?_);rw[CL] at k;exact k H2 ((h2.ord [4]).drop.ord [1,1,1])
 have fin:∀(Q:Am.St→Prop),(∀H2,fQ B H2 aN fid mid pid m ⟨r.1,{s.f with seq:=jj s.f.seq}⟩ L→Q (St.mk (ab [(8,T.v (V.int .i64 r.2))]) (ab []) H2))→
  ∀q' c' H',fQ B H' aN fid mid pid m {s with f:={s.f with seq:=jj s.f.seq}} (BY q' c' (eh y)::L)→
  cl 151 [.aj (some (aN,0)),.int .i64 (b:Int),.int .i64 (s.next b:Int),.slice q' (eh y).length c',.int .u64 (s.f.ep:Int)] H' (fun v H'=>ah (V.av (.int .i64) v) (Q (St.mk (ab [(8,T.v (V.int .i64 (V.aa v)))]) (ab []) H'))):=by
  intro Q hQ q' c' H' h';refine P _ q' c' H' h' (fun H2 h2=> ?_);simp only[AJ,reduceIte,Nat.reduceEqDiff];exact hQ H2 h2
 refine gp (fun S:Am.St=>S.1 8=some (T.v (V.int .i64 r.2))∧fQ B S.3 aN fid mid pid m ⟨r.1,{s.f with seq:=jj s.f.seq}⟩ L) (fun(S:Am.St) Hc=> ?_) (fun Q' hQ=> ?_)
 ·obtain⟨hS8,KX⟩:=Hc;generalize S.3=H2 at KX⊢;have g2:=wo KX
  have hk:bZ s b x=if r.2=8∨r.2=6 then (⟨r.1,{s.f with seq:=jj s.f.seq,po:=s.f.po.set b 3}⟩,8)
   else if r.2=0 then (⟨r.1,{s.f with seq:=jj s.f.seq,pm:=s.f.pm.put x.ao (some (b,s.next b))}⟩,0)
   else (⟨r.1,{s.f with seq:=jj s.f.seq}⟩,r.2):=by rw[CL,hy];rfl
  rw[hk] at k;simp only[hS8,AJ,reduceIte,Nat.reduceEqDiff];have aaI:ba m.g ⟨r.1,{s.f with seq:=jj s.f.seq}⟩:=by rw[CL];exact(hok.prog b (s.next b) hyl (s.f.ep:Int)).Iy
  by_cases h86:r.2=8∨r.2=6
  ·rw[if_pos h86] at k
   have e:(bif !decide (r.2=8) then decide (r.2=6) else true)=true:=by
    rcases h86 with h|h<;>simp [h]
   rw[e,ak];simp only[Option.isSome_some,Nat.zero_add,g2.i 7 (by omega),g2.c7,AJ,reduceIte,Nat.reduceEqDiff];refine kU (hw:=3) (fQ.po KX) aaI.po (aaI.how hb) (by omega) (fun e H3 h3=> ?_);simp only[AJ,reduceIte,Nat.reduceEqDiff];exact k H3 (h3.ord [1,1])
  ·rw[if_neg h86] at k
   have e:(bif !decide (r.2=8) then decide (r.2=6) else true)=false:=by
    have h8:¬r.2=8:=fun h=>h86 (.inl h)
    have h6:¬r.2=6:=fun h=>h86 (.inr h)
    simp [h8,h6]
   rw[e,ai];by_cases h0:r.2=0
   ·rw[if_pos h0] at k;simp only[h0,decide_true,ak,Option.isSome_some,Nat.zero_add,g2.i 6 (by omega),g2.c6,AJ,reduceIte,Nat.reduceEqDiff];have hna:=hok.na;have hnb:=hok.nb;have KW:=nS hb;have hpos:=Cb hlt (d:=eh y) (e:=(s.f.ep:Int)) (by rw[CL] at h0;exact h0);have hp:=hok.p;have ac3:=hg.p;refine J0 (fQ.pm KX) hok.pm (a:=x.ao) (b:=b) (p:=s.next b) (by show x.ao<s.f.pm.cg.length;omega) (by show b<s.f.pm.nb;omega) (by unfold FS.next;omega) (fun H3 h3=> ?_);simp only[AJ,reduceIte,Nat.reduceEqDiff];exact k H3 (h3.ord [1])
   ·rw[if_neg h0] at k;simp only[h0,decide_false,ai];exact k H2 KX
 ·have fin':=fin Q' (fun H2 h2=>hQ _ ⟨rfl,h2⟩)
  repeat' apply And.intro
  all_goals first
   |refine TL _ (fun q' c' H' h'=> ?_)
    have g':=wo h';simp only[AJ,reduceIte,Nat.reduceEqDiff,g'.i 0 (by omega),g'.i 5 (by omega),g'.c0,g'.c5,and_self];exact fin' q' c' H' h'
end
def o6 (g:cn):Nat→FS→Nat→Nat→Option (FS×Int×Nat)
 |0,_,_,_=>none
 |n+1,s,v,d=>if s.f.pm.ea v=0 then some (s,0,d) else match s.f.pm.on v with
  |[]=>none
  |a::_=>match s.nf a.toNat with
   |none=>none
   |some x=>if (x.ao:Int)≤g.cap then
    (if (bZ s d {x with fr:=v+1}).2=8 then match (bZ s d {x with fr:=v+1}).1.dB with
     |none=>some ((bZ s d {x with fr:=v+1}).1,10,0)
     |some d'=>o6 g n (bZ s d {x with fr:=v+1}).1 v d'
    else if (bZ s d {x with fr:=v+1}).2=0 then o6 g n (bZ s d {x with fr:=v+1}).1 v d
    else some ((bZ s d {x with fr:=v+1}).1,(bZ s d {x with fr:=v+1}).2,0)) else none
def ia (g:cn) (n:Nat) (s:FS):Option (FS×Int):=match s.jd with
 |none=>some (s,10)
 |some v=>if s.f.pm.ea v=0 then some (bG s v) else match s.dB with
  |none=>some (s,10)
  |some d=>if (s.f.pm.ea v:Int)=g.aA then some (s,10) else match o6 g n s v d with
   |none=>none
   |some (s1,e,d1)=>if e=0 then (if (bG s1 v).2=0 then some ((bG s1 v).1.bB d1 2,0) else some (bG s1 v)) else some (s1,e)
mutual
def jt (g:cn) (k:Nat):Nat→FS→Option (FS×Int×Nat)
 |0,_=>none
 |n+1,s=>match s.f.po.kI with
  |some b=>if (s.next b:Int)<g.aA then some (s,0,b) else lS g k n (s.bB b 1)
  |none=>lS g k n s
def lS (g:cn) (k:Nat) (n:Nat) (s:FS):Option (FS×Int×Nat):=
 if (s.f.po.count 3:Int)>g.aH then some (s,10,0)
 else if (s.f.po.count 0:Int)>1+g.aH-s.f.po.count 3 then match s.dB with
  |none=>none
  |some b=>jt g k n (s.bB b 2)
 else match ia g k s with
  |none=>none
  |some (s1,e)=>if e=0 then jt g k n s1 else some (s1,e,0)
end
def vb (g:cn) (k:Nat):Nat→FS→Sh→Option (FS×Int)
 |0,_,_=>none
 |n+1,s,x=>match jt g k k s with
  |none=>none
  |some (s1,e,b)=>if e=0 then (if (bZ s1 b x).2=8 then vb g k n (bZ s1 b x).1 x else some (bZ s1 b x)) else some (s1,e)
section
variable {B:ag} {L:List cv} {H:ag} {K:V→ag→Prop} {aN fid mid pid:Nat} {m:Gm} {s:FS}
theorem oL (h:Nat) (w:List Int):∀(l:List (Nat×Nat)) (o:Option Nat) (b:Nat),gv h w l o=some b→o=some b∨(b,h)∈l
 |[],o,b,hh=>.inl hh
 |x::l,o,b,hh=>by
  rw[mM] at hh;split at hh
  ·exact(oL h w l o b hh).imp id (List.mem_cons_of_mem _)
  ·rename_i hx
   have tL:x.2=h:=by
    by_cases e:x.2=h
    ·exact e
    ·exact absurd (.inl e) hx
   have key:gv h w l (some x.1)=some b→o=some b∨(b,h)∈x::l:=fun hh=>by
    rcases oL h w l _ b hh with e|e
    ·cases e;right;rw[←tL];exact List.mem_cons_self
    ·exact .inr (List.mem_cons_of_mem _ e)
   cases o with
   |none=>exact key hh
   |some b0=>
    simp only at hh;split at hh
    ·exact key hh
    ·exact(oL h w l _ b hh).imp id (List.mem_cons_of_mem _)
theorem rr {p:Po} {h b:Nat} {w:List Int} (hh:p.jd h w=some b):(b,h)∈p.bl:=(oL h w _ _ b hh).elim (fun e=>by cases e) id
theorem ba.qx {g:cn} (hok:ba g s) {b:Nat} (h:s.dB=some b):b∈g.us:=by
 rw[←hok.us];exact List.mem_map.2 ⟨_,rr h,rfl⟩
theorem ba.zG {g:cn} (hok:ba g s) {b:Nat} (h:s.jd=some b):b∈g.us:=by
 rw[←hok.us];exact List.mem_map.2 ⟨_,rr h,rfl⟩
theorem ba.RQ {g:cn} (hok:ba g s) {b:Nat} (h:s.f.po.kI=some b):b∈g.us:=by
 rw[←hok.us];exact List.mem_map.2 ⟨_,qw h,rfl⟩
theorem wv {s:FS} {a:Nat} (ha:a<65536) {x:Sh} (h:s.nf a=some x):x.cU≤3∧x.data.length≤64:=by
 unfold FS.nf at h;split at h
 ·cases h;exact⟨by show (2:Nat)≤3;omega,by simp⟩
 ·split at h
  ·have:=(ta h).1;exact⟨this.k3,this.dl⟩
  ·cases h
theorem vc {mm:Pm} (hok:mm.ok) {b:Nat} {a:Int} (h:a∈mm.on b):0≤a∧a<mm.cg.length:=by
 unfold Pm.on at h;split at h
 ·cases h
 ·unfold MZ at h;obtain⟨p,hp,he⟩:=List.mem_filterMap.1 h;have:=rj b mm.cg 0 mm.cg.length (fun _=>0) (by omega) (fun k=>by omega) p;have e:mm.by b p=EU b mm.cg 0 (fun _=>0) p:=rfl
  split at he
  ·cases he;omega
  ·cases he
theorem D8 (hm:dA B L m) (hg:m.g.In) (hcap:m.g.cap<65000) {v:Nat} (hv:v∈m.g.us) {Kr:Am.St→Prop} {Ke:Nat→Am.St→Prop}:∀(n:Nat) (s:FS) (d:Nat) {H:ag} {r:FS×Int×Nat},o6 m.g n s v d=some r→ba m.g s→d∈m.g.us→fQ B H aN fid mid pid m s L→(r.2.1=0→ba m.g r.1→r.2.2∈m.g.us→∀H',fQ B H' aN fid mid pid m r.1 L→Ke 0 (St.mk (ab [(0,T.v (V.aj (some (fid,0)))),(3,T.v (V.int .i64 (v:Int))),(5,T.v (V.int .i64 (r.2.2:Int)))]) (ab []) H'))→(r.2.1≠0→∀H',fQ B H' aN fid mid pid m r.1 L→Kr (St.mk (ab [(2,T.v (V.int .i64 r.2.1))]) (ab []) H'))→lo 150 12 (St.mk (ab [(0,T.v (V.aj (some (fid,0)))),(3,T.v (V.int .i64 (v:Int))),(5,T.v (V.int .i64 (d:Int)))]) (ab []) H) Kr Ke
 |0,s,d,H,r,hf,hok,hd,h,k1,k2=>by cases hf
 |n+1,s,d,H,r,hf,hok,hd,h,k1,k2=>by
  have g:=wo h;have M7:v<s.f.pm.nb:=by have:=nS hv;have:=hok.nb;omega
  rw[N4];simp only[AJ,reduceIte,Nat.reduceEqDiff,Option.isSome_some,Nat.zero_add,g.i 6 (by omega),g.c6];rw[nN h.pm M7];simp only[AJ,reduceIte,Nat.reduceEqDiff];rw[o6] at hf;by_cases hc:s.f.pm.ea v=0
  ·rw[if_pos hc] at hf;cases hf;have tG:¬(s.f.pm.ea v:Int)>0:=by omega
   simp only[tG,decide_false,ai];exact k1 rfl hok hd H h
  rw[if_neg hc] at hf;have tG:(s.f.pm.ea v:Int)>0:=by omega
  simp only[tG,decide_true,ak,g.i 6 (by omega),g.c6,AJ,reduceIte,Nat.reduceEqDiff];refine O2 h.pm hok.pm M7 (fun q1 c1 H1 h1=> ?_)
  cases M6:s.f.pm.on v with
  |nil=>rw[M6] at hf;cases hf
  |cons a l=>
   rw[M6] at hf h1;dsimp only at hf;have har:=vc hok.pm (by rw[M6];exact List.mem_cons_self:a∈s.f.pm.on v);obtain⟨s1,s2,s3⟩:=(az.uN h1).at (i:=0) (by simp);rw[Nat.zero_mul,Nat.add_zero] at s2 s3;simp only[oU,oV] at s2 s3;have a1:0<(((l.length+1:Nat)):Int):=by omega
   simp only[AJ,reduceIte,Nat.reduceEqDiff,a1,s1,s2,s3,List.getElem_cons_zero];have Bs:fQ B H1 aN fid mid pid m s (IR q1 c1 (a::l)::L):=h1.ord [2,1,1,1];have hna:=hok.na;obtain⟨ao,rfl⟩:∃ao:Nat,a=(ao:Int):=⟨a.toNat,by omega⟩;rw[Int.toNat_natCast] at hf
   cases tJ:s.nf ao with
   |none=>rw[tJ] at hf;cases hf
   |some x=>
    rw[tJ] at hf;dsimp only at hf;by_cases WB:(x.ao:Int)≤m.g.cap
    case neg=>rw[if_neg WB] at hf;cases hf
    rw[if_pos WB] at hf;have adi:m.g.cap<65000:=hcap;obtain⟨hx1,tL⟩:=wv (by omega) tJ;refine Kd (hm.bS _) Bs hok hg (by omega) tJ (fun q2 c2 H2 h2=> ?_);unfold AF;simp only[AJ,reduceIte,Nat.reduceEqDiff,f125,FE,zd,ze,zf,zg,zh,zi];have KX:fQ B H2 aN fid mid pid m s (BY q2 c2 x.data::L):=(h2.ord [5]).drop;obtain⟨y,hy⟩:∃y:Sh,y={x with fr:=v+1}:=⟨_,rfl⟩;have adn:v<64:=by have:=nS hv;have:=hg.b;omega
    have hyV:V.agg (fC (x.cU:Int) (x.ep:Int) (x.seq:Int) (x.ao:Int) (v:Int) q2 x.data.length c2)=AF y q2 c2:=by
     rw[hy];unfold AF;simp only;have:((v+1:Nat):Int)-1=(v:Int):=by omega
     rw[this]
    rw[hyV];rw[←hy] at hf;have hyd:y.data=x.data:=by rw[hy]
    have eT:=hok.bZ hg hd (x:=y) (by rw[hyd];exact tL);refine Gk (hm.bS _) hg KX hok hd (x:=y) (by rw[hyd];exact fun H h=>h.ja) (by rw[hy];show x.cU<256;omega) (by rw[hy];exact WB) hcap (by rw[hy];show v+1≤256;omega) (by rw[hyd];exact tL) (fun H3 h3=> ?_);have TQ:fQ B H3 aN fid mid pid m (bZ s d y).1 L:=(h3.ord [4]).drop;simp only[AJ,reduceIte,Nat.reduceEqDiff];by_cases h8:(bZ s d y).2=8
    ·rw[if_pos h8] at hf;simp only[h8,decide_true,ak];refine D6 hg TQ eT (fun H4 h4=> ?_);simp only[AJ,reduceIte,Nat.reduceEqDiff]
     cases hfr:(bZ s d y).1.dB with
     |none=>
      rw[hfr] at hf;cases hf;simp only[Option.isSome_none,Bool.not_false,ak];exact k2 (by show (10:Int)≠0;decide) H4 h4
     |some d'=>
      rw[hfr] at hf;simp only[Option.isSome_some,Bool.not_true,ai,Option.getD_some];exact D8 hm hg hcap hv n _ d' hf eT (eT.qx hfr) h4 k1 k2
    ·rw[if_neg h8] at hf;simp only[h8,decide_false,ai];by_cases h0:(bZ s d y).2=0
     ·rw[if_pos h0] at hf;simp only[h0,decide_true,Bool.not_true,ai];exact D8 hm hg hcap hv n _ d hf eT hd TQ k1 k2
     ·rw[if_neg h0] at hf;cases hf;simp only[h0,decide_false,Bool.not_false,ak];exact k2 h0 H3 TQ
theorem qy {g:cn} (hg:g.In) (hcap:g.cap<65000) {v:Nat} (hv:v∈g.us):∀(n:Nat) (s:FS) (d:Nat) {r:FS×Int×Nat},o6 g n s v d=some r→ba g s→d∈g.us→ba g r.1∧(r.2.1=0→r.2.2∈g.us)
 |0,s,d,r,hf,hok,hd=>by cases hf
 |n+1,s,d,r,hf,hok,hd=>by
  rw[o6] at hf;split at hf
  ·cases hf;exact⟨hok,fun _=>hd⟩
  split at hf
  ·cases hf
  rename_i a l M6;have har:=vc hok.pm (by rw[M6];exact List.mem_cons_self:a∈s.f.pm.on v);have hna:=hok.na;split at hf
  ·cases hf
  rename_i x tJ;obtain⟨hx1,tL⟩:=wv (by omega) tJ;have eT:=hok.bZ hg hd (x:={x with fr:=v+1}) tL;split at hf
  case isFalse=>cases hf
  split at hf
  ·split at hf
   ·cases hf;exact⟨eT,fun h=>by cases h⟩
   ·rename_i d' hfr;exact qy hg hcap hv n _ d' hf eT (eT.qx hfr)
  split at hf
  ·exact qy hg hcap hv n _ d hf eT hd
  ·rename_i h0;cases hf;exact⟨eT,fun h=>absurd h h0⟩
end
end Go.Proofs.YtlgdkndamddpkaaGreat
end
section
namespace Go.Proofs.YtlgdkndamddpkaaGreat
open Go.Am
def Kf (g:cn) (k:Nat) (s:FS) (ao:Nat):Option (FS×Int):=
 if (s.f.pm.cg.getD ao none).isSome then vb g k k s ⟨2,0,0,ao,0,[]⟩ else some (s,0)
section
variable {B:ag} {L:List cv} {H:ag} {K:V→ag→Prop} {aN fid mid pid:Nat} {m:Gm} {s:FS}
theorem Iz (hm:dA B L m) (hg:m.g.In) (hcap:m.g.cap<65000) {n:Nat} (h:fQ B H aN fid mid pid m s L) (hok:ba m.g s) {r:FS×Int} (hf:ia m.g n s=some r) (k:ba m.g r.1→∀H',fQ B H' aN fid mid pid m r.1 L→K (.int .i64 r.2) H'):cl 150 [.aj (some (fid,0))] H K:=by
 have g:=wo h;rw[Zx];refine gp (fun S:Am.St=>S.1 3=some (T.v (V.int .i64 ((s.jd.getD 0:Nat):Int)))∧S.1 4=some (T.v (V.bool s.jd.isSome))∧fQ B S.3 aN fid mid pid m s L) (fun(S:Am.St) Hc=> ?_) (fun Q hQ=> ?_)
 ·obtain⟨TQ,hS4,hS⟩:=Hc;generalize S.3=H1 at hS⊢;have g1:=wo hS;unfold ia at hf;simp only[TQ,hS4,AN,reduceIte,Nat.reduceEqDiff]
  cases hl:s.jd with
  |none=>
   rw[hl] at hf;cases hf;simp only[Option.isSome_none,Bool.not_false,ak];exact k hok H1 hS
  |some v=>
   rw[hl] at hf;dsimp only at hf;have hv:=hok.zG hl;have M7:v<s.f.pm.nb:=by have:=nS hv;have:=hok.nb;omega
   simp only[Option.isSome_some,Bool.not_true,ai,Option.getD_some,Nat.zero_add,g1.i 6 (by omega),g1.c6,AN,reduceIte,Nat.reduceEqDiff];rw[nN hS.pm M7];simp only[AN,reduceIte,Nat.reduceEqDiff];by_cases hc:s.f.pm.ea v=0
   ·rw[if_pos hc] at hf;cases hf;have tG:(s.f.pm.ea v:Int)=0:=by omega
    simp only[tG,decide_true,ak];refine wu hm hg hS hok hv (fun H2 h2=> ?_);simp only[AJ,reduceIte,Nat.reduceEqDiff];exact k (hok.bG hg hv) H2 h2
   rw[if_neg hc] at hf;have tG:¬(s.f.pm.ea v:Int)=0:=by omega
   simp only[tG,decide_false,ai];refine D6 hg hS hok (fun H2 h2=> ?_);have g2:=wo h2;simp only[AN,reduceIte,Nat.reduceEqDiff]
   cases hfr:s.dB with
   |none=>
    rw[hfr] at hf;cases hf;simp only[Option.isSome_none,Bool.not_false,Bool.not_true,ai,eg,AJ,reduceIte,Nat.reduceEqDiff,ak];exact⟨k hok H2 h2,k hok H2 h2⟩
   |some d=>
    rw[hfr] at hf;dsimp only at hf;have hd:=hok.qx hfr;simp only[Option.isSome_some,Bool.not_false,Bool.not_true,ak,Option.getD_some,Nat.zero_add,g2.i 6 (by omega),g2.i 2 (by omega),g2.c6,g2.c2,eg,AJ,reduceIte,Nat.reduceEqDiff];have e:∀K:V→ag→Prop,cl 65 [V.aj (some (mid,0)),V.int .i64 (v:Int)] H2 K=K (.int .i64 (s.f.pm.ea v:Int)) H2:=fun K=>nN h2.pm M7
    simp only[e,g2.i 2 (by omega),g2.c2,AJ,reduceIte,Nat.reduceEqDiff,and_self];by_cases hp:(s.f.pm.ea v:Int)=m.g.aA
    ·rw[if_pos hp] at hf;cases hf;simp only[hp,decide_true,ak];exact k hok H2 h2
    rw[if_neg hp] at hf;simp only[hp,decide_false,ai]
    cases qJ:o6 m.g n s v d with
    |none=>rw[qJ] at hf;cases hf
    |some o=>
     obtain⟨s1,e1,d1⟩:=o;rw[qJ] at hf;dsimp only at hf;refine D8 hm hg hcap hv n s d qJ hok hd h2 (fun h0 gk MO H3 h3=> ?_) (fun h0 H3 h3=> ?_)
     ·rw[if_pos h0] at hf;simp only[AJ,reduceIte,Nat.reduceEqDiff];have h0:e1=0:=h0;refine wu hm hg h3 gk hv (fun H4 h4=> ?_);have g4:=wo h4;have SU:=gk.bG hg hv;simp only[AJ,reduceIte,Nat.reduceEqDiff];by_cases he:(bG s1 v).2=0
      ·rw[if_pos he] at hf;cases hf;simp only[he,decide_true,Bool.not_true,ai,Nat.zero_add,Option.isSome_some,g4.i 7 (by omega),g4.c7,AJ,reduceIte,Nat.reduceEqDiff];refine kU (hw:=2) h4.po SU.po (SU.how MO) (by omega) (fun e H5 h5=> ?_);simp only[AJ,reduceIte,Nat.reduceEqDiff];exact k (SU.bB hg MO (by omega)) H5 (h5.ord [1,1])
      ·rw[if_neg he] at hf;cases hf;simp only[he,decide_false,Bool.not_false,ak];exact k SU H4 h4
     ·have h0:e1≠0:=h0;rw[if_neg h0] at hf;cases hf;simp only[AJ,reduceIte,Nat.reduceEqDiff];exact k (qy hg hcap hv n s d qJ hok hd).1 H3 h3
 ·simp only[AJ,reduceIte,Nat.reduceEqDiff,Option.isSome_some,Nat.zero_add,g.i 6 (by omega),g.i 7 (by omega),g.c6,g.c7]
  have fin:∀q c H',fQ B H' aN fid mid pid m s (IR q c s.f.pm.hZ::L)→∀K':V→ag→Prop,K' (.tuple [.int .i64 ((s.jd.getD 0:Nat):Int),.bool s.jd.isSome]) H'→
   cl 153 [.aj (some (pid,0)),.int .u8 1,.slice q s.f.pm.hZ.length c] H' K':=fun q c H' h' K' kk=>
   Ca (hw:=1) h'.po hok.po (az.uN (h'.ord [4])) kk
  refine⟨Kc hg h hok (fun q c H' h'=> ?_),Kc hg h hok (fun q c H' h'=> ?_)⟩
  ·simp only[AJ,reduceIte,Nat.reduceEqDiff];refine fin q c H' h' _ ?_;simp only[AJ,reduceIte,Nat.reduceEqDiff];exact hQ _ ⟨rfl,rfl,(h'.ord [4]).drop⟩
  ·have g':=wo h';simp only[AJ,reduceIte,Nat.reduceEqDiff,g'.i 7 (by omega),g'.c7];refine fin q c H' h' _ ?_;simp only[AJ,reduceIte,Nat.reduceEqDiff];exact hQ _ ⟨rfl,rfl,(h'.ord [4]).drop⟩
theorem Gl {g:cn} (hg:g.In) (hcap:g.cap<65000) {n:Nat} (hok:ba g s) {r:FS×Int} (hf:ia g n s=some r):ba g r.1:=by
 unfold ia at hf;split at hf
 ·cases hf;exact hok
 rename_i v hl;have hv:=hok.zG hl;split at hf
 ·cases hf;exact hok.bG hg hv
 split at hf
 ·cases hf;exact hok
 rename_i d hfr;split at hf
 ·cases hf;exact hok
 split at hf
 ·cases hf
 rename_i s1 e d1 qJ;have h1:=qy hg hcap hv n s d qJ hok (hok.qx hfr);split at hf
 ·rename_i h0;split at hf
  ·cases hf;exact(h1.1.bG hg hv).bB hg (h1.2 h0) (by omega)
  ·cases hf;exact h1.1.bG hg hv
 ·cases hf;exact h1.1
def Rm (fid:Nat) (Kr:Am.St→Prop) (Ke:Nat→Am.St→Prop) (H:ag):Prop:=
 ah (Option.isSome (some (fid,0)))
  (nm (pb (some (fid,0))) fun n=>nm ((po (some (fid,0)))+7) fun n_2=>
   ah (ag.inb H n n_2 1&&V.av .aj (ag.cell H n n_2))
    (cl 93 [V.aj (V.ay (ag.cell H n n_2)),V.int .u8 3] H fun v H'=>
     ah (V.av (.int .i64) v)
      (ah (Option.isSome (some (fid,0)))
       (nm (pb (some (fid,0))) fun n=>nm ((po (some (fid,0)))+1+2) fun bC=>
        ah (ag.inb H' n bC 1&&V.av (.int .i64) (ag.cell H' n bC))
         (br (decide (V.aa v>V.aa (ag.cell H' n bC)))
          (Kr (St.mk (ab [(2,T.v (V.int .i64 0)),(3,T.v (V.int .i64 10))]) (ab []) H'))
          (ct
           (fun Q=>
            ah (Option.isSome (some (fid,0)))
             (nm (pb (some (fid,0))) fun n=>nm ((po (some (fid,0)))+7) fun cH=>
              ah (ag.inb H' n cH 1&&V.av .aj (ag.cell H' n cH))
               (nm (V.ay (ag.cell H' n cH)) fun s=>
                ah (Option.isSome (some (fid,0)))
                 (nm (pb (some (fid,0))) fun n=>nm ((po (some (fid,0)))+1) fun dQ=>
                  (cl 93 [V.aj s,V.int .u8 0] H' fun v_1 H'=>
                   ah (V.av (.int .i64) v_1)
                    (ah (ag.inb H' n dQ 4&&aI AD (ag.sub H' n dQ 4))
                     (cl 148 [V.agg (sW (ag.sub H' n dQ 4)),V.int .i64 (V.aa v)] H' fun v H'=>
                      ah (V.av (.int .i64) v)
                       (Q (St.mk (ab [(62,T.v (V.bool (decide (V.aa v_1>V.aa v))))]) (ab []) H')))))∧
                  ah (ag.inb H' n dQ 4&&aI AD (ag.sub H' n dQ 4))
                   (cl 93 [V.aj s,V.int .u8 0] H' fun v_1 H'_1=>
                    ah (V.av (.int .i64) v_1)
                     (cl 148 [V.agg (sW (ag.sub H' n dQ 4)),V.int .i64 (V.aa v)] H'_1 fun v H'=>
                      ah (V.av (.int .i64) v)
                       (Q (St.mk (ab [(62,T.v (V.bool (decide (V.aa v_1>V.aa v))))]) (ab []) H'))))))))
           fun S'=>
            ah (aC (KT.k .bool) (S'.1 62)||false||false)
             (br (V.an (T.val (S'.1 62)))
              (cl 149 [V.aj (some (fid,0))] S'.3 fun v H'=>
               ah (V.aL 2 v&&(V.av (.int .i64) (ae (V.ar v) 0)&&(V.av .bool (ae (V.ar v) 1)||false)))
                (ah (Option.isSome (some (fid,0)))
                 (nm (pb (some (fid,0))) fun n=>nm ((po (some (fid,0)))+7) fun cH=>
                  ah (ag.inb H' n cH 1&&V.av .aj (ag.cell H' n cH))
                   (cl 63 [V.aj (V.ay (ag.cell H' n cH)),V.int .i64 (V.aa (ae (V.ar v) 0)),V.int .u8 2] H' fun v H'=>
                    ah (V.av (.int .i64) v)
                     (lo 140 1 (St.mk (ab [(0,T.v (V.aj (some (fid,0))))]) (ab []) H') Kr Ke)))))
              (cl 150 [V.aj (some (fid,0))] S'.3 fun v H'=>
               ah (V.av (.int .i64) v)
                (br (!decide (V.aa v=0))
                 (Kr (St.mk (ab [(2,T.v (V.int .i64 0)),(3,T.v (V.int .i64 (V.aa v)))]) (ab []) H'))
                 (lo 140 1 (St.mk (ab [(0,T.v (V.aj (some (fid,0))))]) (ab []) H') Kr Ke))))))))))
theorem D9 (hm:dA B L m) (hg:m.g.In) (hcap:m.g.cap<65000) {kf:Nat} {Kr:Am.St→Prop} {Ke:Nat→Am.St→Prop}:∀(n:Nat) (s:FS) {H:ag} {r:FS×Int×Nat},jt m.g kf n s=some r→ba m.g s→fQ B H aN fid mid pid m s L→(ba m.g r.1→(r.2.1=0→r.2.2∈m.g.us)→∀H',fQ B H' aN fid mid pid m r.1 L→Kr (St.mk (ab [(2,T.v (V.int .i64 (r.2.2:Int))),(3,T.v (V.int .i64 r.2.1))]) (ab []) H'))→lo 140 1 (St.mk (ab [(0,T.v (V.aj (some (fid,0))))]) (ab []) H) Kr Ke
 |0,s,H,r,hf,hok,h,k=>by rw[jt] at hf;cases hf
 |n+1,s,H,r,hf,hok,h,k=>by
  have g:=wo h;rw[Rt];simp only[AN,reduceIte,Nat.reduceEqDiff,Option.isSome_some,Nat.zero_add,g.i 7 (by omega),g.c7];refine Gi h.po hok.po ?_;simp only[AN,reduceIte,Nat.reduceEqDiff];have hgs:=hg.s
  have wI:∀h:Nat,s.f.po.count h≤62:=fun h=>by
   have h1:s.f.po.count h≤s.f.po.bl.length:=List.countP_le_length;have h2:s.f.po.bl.length=m.g.us.length:=by rw[←hok.us,List.length_map]
   have:=cn.kE m.g hg.b.2;omega
  have rest:∀(s:FS) {H:ag},lS m.g kf n s=some r→ba m.g s→(∀h:Nat,s.f.po.count h≤62)→fQ B H aN fid mid pid m s L→Rm fid Kr Ke H:=by
   intro s H hf hok wI h;unfold Rm;have g:=wo h;simp only[AN,reduceIte,Nat.reduceEqDiff,Option.isSome_some,Nat.zero_add,g.i 7 (by omega),g.c7];refine rp h.po hok.po 3 (fun H1 h1=> ?_);have Bs:fQ B H1 aN fid mid pid m s L:=h1.ord [1,1];have g1:=wo Bs;simp only[AN,reduceIte,Nat.reduceEqDiff,Option.isSome_some,g1.i 3 (by omega),g1.c3];unfold lS at hf;by_cases hd:(s.f.po.count 3:Int)>m.g.aH
   ·rw[if_pos hd] at hf;cases hf;simp only[hd,decide_true,ak];exact k hok (fun h=>by cases h) H1 Bs
   rw[if_neg hd] at hf;simp only[hd,decide_false,ai];have hgc:=g1.g;refine gp (fun S:Am.St=>S.1 62=some (T.v (V.bool (decide ((s.f.po.count 0:Int)>1+m.g.aH-s.f.po.count 3))))∧fQ B S.3 aN fid mid pid m s L) (fun(S:Am.St) Hc=> ?_) (fun Q hQ=> ?_)
   ·obtain⟨ac4,KX⟩:=Hc;generalize S.3=H2 at KX⊢;simp only[ac4,AJ,reduceIte,Nat.reduceEqDiff];by_cases hr:(s.f.po.count 0:Int)>1+m.g.aH-s.f.po.count 3
    ·rw[if_pos hr] at hf;simp only[hr,decide_true,ak]
     cases hfr:s.dB with
     |none=>rw[hfr] at hf;cases hf
     |some b=>
      rw[hfr] at hf;dsimp only at hf;have hb:=hok.qx hfr;refine D6 hg KX hok (fun H3 h3=> ?_);have g3:=wo h3;rw[hfr];simp only[AJ,reduceIte,Nat.reduceEqDiff,Option.isSome_some,Option.getD_some,g3.i 7 (by omega),g3.c7];refine kU (hw:=2) h3.po hok.po (hok.how hb) (by omega) (fun e H4 h4=> ?_);simp only[AJ,reduceIte,Nat.reduceEqDiff];exact D9 hm hg hcap n _ hf (hok.bB hg hb (by omega)) (h4.ord [1,1]) k
    ·rw[if_neg hr] at hf;simp only[hr,decide_false,ai]
     cases hc:ia m.g kf s with
     |none=>rw[hc] at hf;cases hf
     |some o=>
      obtain⟨s1,e⟩:=o;rw[hc] at hf;dsimp only at hf;refine Iz hm hg hcap KX hok hc (fun gk H3 h3=> ?_);simp only[AJ,reduceIte,Nat.reduceEqDiff];by_cases he:e=0
      ·rw[if_pos he] at hf;simp only[he,decide_true,Bool.not_true,ai];exact D9 hm hg hcap n _ hf gk h3 k
      ·rw[if_neg he] at hf;cases hf;simp only[he,decide_false,Bool.not_false,ak];exact k gk (fun h=>absurd h he) H3 h3
   ·have RV:∀(H:ag) (K:V→ag→Prop),cl 148 [V.agg (dN m.g.aE m.g.aA m.g.aH m.q m.g.bK.length m.c),V.int .i64 (s.f.po.count 3:Int)] H K=K (.int .i64 (1+m.g.aH-(s.f.po.count 3:Int))) H:=fun H K=>
     Ie (m:=m) hg (by have:=wI 3;omega)
    simp only[AJ,reduceIte,Nat.reduceEqDiff,Option.isSome_some,Nat.zero_add,g1.i 7 (by omega),g1.c7,hgc.1,hgc.2,f25,uI,mF,mG,mH,mI];refine⟨rp Bs.po hok.po 0 (fun H3 h3=> ?_),rp Bs.po hok.po 0 (fun H3 h3=> ?_)⟩
    all_goals
     have TQ:fQ B H3 aN fid mid pid m s L:=h3.ord [1,1];have g3:=(wo TQ).g;simp only[AJ,reduceIte,Nat.reduceEqDiff,g3.1,g3.2,f25,uI,mF,mG,mH,mI];rw[RV];simp only[AJ,reduceIte,Nat.reduceEqDiff];exact hQ _ ⟨rfl,TQ⟩
  rw[jt] at hf
  cases ho:s.f.po.kI with
  |none=>
   rw[ho] at hf;dsimp only at hf;simp only[Option.isSome_none,ai,eg,and_self,AJ,reduceIte,Nat.reduceEqDiff];have:=rest s hf hok wI h;unfold Rm at this;simp only[AJ,reduceIte,Nat.reduceEqDiff] at this;exact this
  |some b=>
   rw[ho] at hf;dsimp only at hf;have hb:=hok.RQ ho;have hlt:=hok.lt hb
   have nj:((s.a.bs[b]'hlt).pg.length)=s.next b:=by
    unfold FS.next;rw[List.getD_eq_getElem?_getD,List.getElem?_eq_getElem hlt];rfl
   have NX:∀K:V→ag→Prop,cl 64 [V.aj (some (aN,0)),V.int .i64 (b:Int)] H K=K (.int .i64 (s.next b:Int)) H:=fun K=>by
    rw[uS (fQ.arr h) hlt,nj]
   simp only[Option.isSome_some,Option.getD_some,ak,eg,NX,g.i 0 (by omega),g.i 2 (by omega),g.c0,g.c2,AJ,reduceIte,Nat.reduceEqDiff];refine And.intro ?_ ?_
   all_goals
    by_cases hlt:(s.next b:Int)<m.g.aA
    ·rw[if_pos hlt] at hf;cases hf;simp only[hlt,decide_true,ak];exact k hok (fun _=>hb) H h
    ·rw[if_neg hlt] at hf;simp only[hlt,decide_false,ai,g.i 7 (by omega),g.c7,AJ,reduceIte,Nat.reduceEqDiff];refine kU (hw:=1) h.po hok.po (hok.how hb) (by omega) (fun e H1 h1=> ?_);have gk:=hok.bB hg hb (h:=1) (by omega);simp only[AJ,reduceIte,Nat.reduceEqDiff];have:=rest _ hf gk (fun h=> ?_) (h1.ord [1,1])
     ·unfold Rm at this;simp only[AJ,reduceIte,Nat.reduceEqDiff,eg] at this;exact this
     ·have h1:(s.bB b 1).f.po.count h≤(s.bB b 1).f.po.bl.length:=List.countP_le_length;have h2:(s.bB b 1).f.po.bl.length=m.g.us.length:=by rw[←gk.us,List.length_map]
      have:=cn.kE m.g hg.b.2;omega
end
section
variable {B:ag} {L:List cv} {H:ag} {K:V→ag→Prop} {aN fid mid pid:Nat} {m:Gm} {s:FS}
theorem O9 (hm:dA B L m) (hg:m.g.In) (hcap:m.g.cap<65000) {kf:Nat} {x:Sh} {q:Oq} {c:Nat} (hr:k6 B L q x.data) (h1:x.cU<256) (h4:(x.ao:Int)≤m.g.cap) (h5:x.fr≤256) (h6:x.data.length≤64) {Kr:Am.St→Prop} {Ke:Nat→Am.St→Prop}:∀(n:Nat) (s:FS) {H:ag} {r:FS×Int},vb m.g kf n s x=some r→ba m.g s→fQ B H aN fid mid pid m s L→(ba m.g r.1→∀H',fQ B H' aN fid mid pid m r.1 L→Kr (St.mk (ab [(4,T.v (V.int .i64 r.2))]) (ab []) H'))→lo 118 1 (St.mk (ab [(0,T.v (V.aj (some (fid,0)))),(3,T.lp 3 0)]) (ab [(3,aR.cells 126 (fC (x.cU:Int) (x.ep:Int) (x.seq:Int) (x.ao:Int) ((x.fr:Int)-1) q x.data.length c))]) H) Kr Ke
 |0,s,H,r,hf,hok,h,k=>by cases hf
 |n+1,s,H,r,hf,hok,h,k=>by
  rw[Rr,Zp];unfold vb at hf
  cases hro:jt m.g kf kf s with
  |none=>rw[hro] at hf;cases hf
  |some o=>
   obtain⟨s1,e,b⟩:=o;rw[hro] at hf;dsimp only at hf;refine D9 hm hg hcap kf s hro hok h (fun gk hb H1 Bs=> ?_);simp only[AJ,reduceIte,Nat.reduceEqDiff];by_cases he:e=0
   ·rw[if_pos he] at hf;have hb:b∈m.g.us:=hb he;simp only[he,decide_true,Bool.not_true,ai]
    have:=Gk (K:=fun v H'=>ah (V.av (.int .i64) v) (br (!decide (V.aa v=8)) (Kr (St.mk (ab [(4,T.v (V.int .i64 (V.aa v)))]) (ab []) H'))
     (lo 118 1 (St.mk (ab [(0,T.v (V.aj (some (fid,0)))),(3,T.lp 3 0)])
      (ab [(3,aR.cells 126 (fC (x.cU:Int) (x.ep:Int) (x.seq:Int) (x.ao:Int) ((x.fr:Int)-1) q x.data.length c))]) H') Kr Ke))) hm hg Bs gk hb (x:=x) (q:=q) (c:=c) hr h1 h4 hcap h5 h6 (fun H2 h2=> ?_)
    ·exact this
    ·simp only[AJ,reduceIte,Nat.reduceEqDiff];have eT:=gk.bZ hg hb (x:=x) h6;by_cases h8:(bZ s1 b x).2=8
     ·rw[if_pos h8] at hf;simp only[h8,decide_true,Bool.not_true,ai];exact O9 hm hg hcap hr h1 h4 h5 h6 n _ hf eT h2 k
     ·rw[if_neg h8] at hf;cases hf;simp only[h8,decide_false,Bool.not_false,ak];exact k eT H2 h2
   ·rw[if_neg he] at hf;cases hf;simp only[he,decide_false,Bool.not_false,ak];exact k gk H1 Bs
theorem Kg (hm:dA B L m) (hg:m.g.In) (hcap:m.g.cap<65000) {kf n:Nat} {x:Sh} {q:Oq} {c:Nat} (hr:k6 B L q x.data) (h1:x.cU<256) (h4:(x.ao:Int)≤m.g.cap) (h5:x.fr≤256) (h6:x.data.length≤64) {r:FS×Int} (hf:vb m.g kf n s x=some r) (hok:ba m.g s) (h:fQ B H aN fid mid pid m s L) (k:ba m.g r.1→∀H',fQ B H' aN fid mid pid m r.1 L→K (.int .i64 r.2) H'):cl 118 [.aj (some (fid,0)),AF x q c] H K:=by
 unfold AF;rw[Zc];refine O9 hm hg hcap hr h1 h4 h5 h6 n s hf hok h (fun gk H1 h1=> ?_);simp only[AJ,reduceIte,Nat.reduceEqDiff];exact k gk H1 h1
def Tl (ao:Nat) (d:List UInt8):Sh:=⟨1,0,0,ao,0,d⟩
def shT (ao:Nat):Sh:=⟨2,0,0,ao,0,[]⟩
theorem Cc (hm:dA B L m) (hg:m.g.In) (hcap:m.g.cap<65000) {kf n:Nat} {ao:Nat} {d:List UInt8} {q:Oq} {c:Nat} (hr:k6 B L q d) (h4:(ao:Int)≤m.g.cap) (h6:d.length≤64) {r:FS×Int} (hf:vb m.g kf n s (Tl ao d)=some r) (hok:ba m.g s) (h:fQ B H aN fid mid pid m s L) (k:ba m.g r.1→∀H',fQ B H' aN fid mid pid m r.1 L→K (.int .i64 r.2) H'):cl 82 [.aj (some (fid,0)),.int .i64 (ao:Int),.slice q d.length c] H K:=by
 rw[abP];refine D7 hm h hg (ao:Int) (fun H1 h1=> ?_);have e:0≤(ao:Int)∧(ao:Int)≤m.g.cap:=⟨by omega,h4⟩;have e2:¬((d.length:Nat):Int)>64:=by omega
 simp only[e,and_self,if_true,AJ,reduceIte,Nat.reduceEqDiff,e2,decide_true,decide_false,Bool.not_true,ai];have:=Kg (K:=fun v H'=>ah (V.av (.int .i64) v) (K (V.int .i64 (V.aa v)) H')) hm hg hcap (x:=Tl ao d) (q:=q) (c:=c) hr (by show 1<256;omega) h4 (by show 0≤256;omega) h6 hf hok h1 (fun eT H2 h2=> ?_)
 ·exact this
 ·simp only[AJ,reduceIte,Nat.reduceEqDiff];exact k eT H2 h2
theorem Pa (hm:dA B L m) (hg:m.g.In) (hcap:m.g.cap<65000) {kf:Nat} {ao:Nat} (h4:(ao:Int)≤m.g.cap) {r:FS×Int} (hf:Kf m.g kf s ao=some r) (hok:ba m.g s) (h:fQ B H aN fid mid pid m s L) (k:ba m.g r.1→∀H',fQ B H' aN fid mid pid m r.1 L→K (.int .i64 r.2) H'):cl 120 [.aj (some (fid,0)),.int .i64 (ao:Int)] H K:=by
 rw[Zd];refine D7 hm h hg (ao:Int) (fun H1 h1=> ?_);have e:0≤(ao:Int)∧(ao:Int)≤m.g.cap:=⟨by omega,h4⟩;have g1:=wo h1;have CM:ao<s.f.pm.cg.length:=by have:=hok.na;omega
 have hgd:s.f.pm.cg.getD ao none=s.f.pm.cg[ao]:=by rw[List.getD_eq_getElem?_getD,List.getElem?_eq_getElem CM];rfl
 simp only[e,and_self,if_true,AJ,reduceIte,Nat.reduceEqDiff,decide_true,decide_false,Bool.not_true,ai,Option.isSome_some,Nat.zero_add,g1.i 6 (by omega),g1.c6];rw[J1 h1.pm CM];unfold Kf at hf;rw[hgd] at hf
 have hfit:aI HY (wk s.f.pm.cg[ao])=true:=by
  cases s.f.pm.cg[ao]<;>rfl
 simp only[AJ,reduceIte,Nat.reduceEqDiff,hfit];by_cases ho:(s.f.pm.cg[ao]).isSome=true
 ·rw[if_pos ho] at hf;simp only[ho,Bool.not_true,ai];have:=Kg (K:=fun v H'=>ah (V.av (.int .i64) v) (K (V.int .i64 (V.aa v)) H')) hm hg hcap (x:=shT ao) (q:=none) (c:=0) (fun H h=>(kD h).ja) (by show 2<256;omega) h4 (by show 0≤256;omega) (by show 0≤64;omega) hf hok h1 (fun eT H2 h2=> ?_)
  ·exact this
  ·simp only[AJ,reduceIte,Nat.reduceEqDiff];exact k eT H2 h2
 ·rw[if_neg ho] at hf;cases hf;simp only[ho,Bool.not_false,ak];exact k hok H1 h1
theorem IA (h:fQ B H aN fid mid pid m s L) (hok:ba m.g s) (k:∀H',fQ B H' aN fid mid pid m s L→K (.int .i64 (s.f.po.count 3:Int)) H'):cl 57 [.aj (some (fid,0))] H K:=by
 have g:=wo h;rw[aby];simp only[Option.isNone_some,Option.isSome_some,Nat.zero_add,g.i 7 (by omega),g.c7,AJ,reduceIte,Nat.reduceEqDiff];refine rp h.po hok.po 3 (fun H1 h1=> ?_);simp only[AJ,reduceIte,Nat.reduceEqDiff];exact k H1 (h1.ord [1,1])
theorem Cd (h:fQ B H aN fid mid pid m s L):cl 58 [.aj (some (fid,0))] H K=K (.int .u64 (s.f.ep:Int)) H:=by
 have g:=wo h;rw[abz];simp only[Option.isNone_some,Option.isSome_some,Nat.zero_add,g.i 5 (by omega),g.c5,AJ,reduceIte,Nat.reduceEqDiff]
end
end Go.Proofs.YtlgdkndamddpkaaGreat
end
