/- Part 4 of the texts behind the law UnitFull: what its row needs (an abstract machine, its equations, and what the program computes). -/
import Derived.Test.YtlgdkndamddpkaaGreatP3
set_option maxRecDepth 100000
set_option linter.unusedSimpArgs false
set_option linter.unusedVariables false
set_option linter.unusedSectionVars false
section
namespace Go.Proofs.YtlgdkndamddpkaaGreat
open Go.Am
structure Bk where
 pg:List (List UInt8)
 er:Int
 cn:Bool
 bn:Bool
 aP:Bool
 doom:Int
inductive Wy where
 |no
 |prog (i:Nat) (d:List UInt8)
 |er (i:Nat) (bn:Bool)
 |any
structure Ar where
 bs:List Bk
 aA:Int
 aR:Int
 boots:Int
 bR:Int
 off:Bool
 aF:Int
 eK:Wy
structure Rg where
 d:List UInt8
 q:Oq
 c:Nat
def Rg.cs (r:Rg):List V:=[.slice r.q r.d.length r.c]
def Rg.bX (r:Rg):cw:=BY r.q r.c r.d
def pk (q:Oq) (cap:Nat) (ds:List (List UInt8)):cw:=
 EK fun rs:List Rg=>j9 (Hb (rs.map Rg.d=ds)) (bw [Rw 36 1 q cap (rs.map Rg.cs),bw (rs.map Rg.bX)])
structure Rb where
 b:Bk
 q:Oq
 c:Nat
def Rb.cs (r:Rb):List V:=Tb r.q r.b.pg.length r.c r.b.er r.b.cn r.b.bn r.b.aP r.b.doom
def Rb.bX (r:Rb):cw:=pk r.q r.c r.b.pg
def zl (qb:Oq) (w:V):Wy→cw
 | .no=>Hb (w=.nilFunc)
 | .any=>Hb True
 | .prog i d=>EK fun x:Nat×Nat=>EK fun y:Oq×Nat=>
  j9 (Hb (w=.func 156 [.aj (some (x.1,0)),.aj (some (x.2,0))]))
   (bw [db x.1 104 [.aj (some (pb qb,po qb+i*6))],db x.2 36 [.slice y.1 d.length y.2],BY y.1 y.2 d])
 | .er i bn=>EK fun x:Nat×Nat×Nat=>
  j9 (Hb (w=.func 128 [.aj (some (x.1,0)),.aj (some (x.2.1,0)),.aj (some (x.2.2,0))]))
   (bw [db x.1 4 [.bool bn],db x.2.1 1 [.func 127 [.aj (some (x.2.2,0))]],db x.2.2 104 [.aj (some (pb qb,po qb+i*6))]])
structure Ra where
 w:V
 q:Oq
 c:Nat
 rs:List Rb
def As (a:Ar) (x:Ra):List V:=c80 x.q x.rs.length x.c a.aA a.aR a.boots a.bR a.off a.aF x.w
def dK (aM:Nat) (a:Ar):cw:=EK fun x:Ra=>
 j9 (Hb (x.rs.map Rb.b=a.bs)) (bw [db aM 81 (As a x),Rw 84 6 x.q x.c (x.rs.map Rb.cs),bw (x.rs.map Rb.bX),zl x.q x.w a.eK])
section
variable {B:ag} {L:List cw} {H:ag} {K:V→ag→Prop} {aM:Nat} {a:Ar}
theorem az.arr (h:az B H (dK aM a::L)):∃x:Ra,x.rs.map Rb.b=a.bs∧az B H (db aM 81 (As a x)::Rw 84 6 x.q x.c (x.rs.map Rb.cs)::bw (x.rs.map Rb.bX)::zl x.q x.w a.eK::L):=by
 obtain⟨x,h⟩:=h.MV;obtain⟨h1,h⟩:=h.j9.Hb;exact⟨x,h1,h.Ly⟩
theorem az.Z6 (x:Ra) (hx:x.rs.map Rb.b=a.bs) (h:az B H (db aM 81 (As a x)::Rw 84 6 x.q x.c (x.rs.map Rb.cs)::bw (x.rs.map Rb.bX)::zl x.q x.w a.eK::L)):az B H (dK aM a::L):=by
 have h2:az B H (bw [db aM 81 (As a x),Rw 84 6 x.q x.c (x.rs.map Rb.cs),bw (x.rs.map Rb.bX),zl x.q x.w a.eK]::L):=az.sN h;exact az.intro (x:=x) (h2.pure hx).oG
theorem VD (rs:List Rb):Rq k83 (rs.map Rb.cs):=by
 intro c hc;obtain⟨r,_,rfl⟩:=List.mem_map.1 hc;rfl
theorem Ie (rs:List Rb):pj 6 (rs.map Rb.cs):=(VD rs).pr
structure ArG (H:ag) (aM:Nat) (a:Ar) (x:Ra):Prop where
 i0:H.inb aM 0 1=true
 i1:H.inb aM 1 1=true
 i2:H.inb aM 2 1=true
 i3:H.inb aM 3 1=true
 i4:H.inb aM 4 1=true
 i5:H.inb aM 5 1=true
 i6:H.inb aM 6 1=true
 i7:H.inb aM 7 1=true
 c0:H.cell aM 0=.slice x.q x.rs.length x.c
 c1:H.cell aM 1=.int .i64 a.aA
 c2:H.cell aM 2=.int .u64 a.aR
 c3:H.cell aM 3=.int .i64 a.boots
 c4:H.cell aM 4=.int .i64 a.bR
 c5:H.cell aM 5=.bool a.off
 c6:H.cell aM 6=.int .i64 a.aF
 c7:H.cell aM 7=x.w
 bi:∀i k,i<x.rs.length→k<6→x.q.isSome=true∧H.inb (pb x.q) (po x.q+i*6+k) 1=true
 b:∀(i:Nat) (hi:i<x.rs.length) k,k<6→H.cell (pb x.q) (po x.q+i*6+k)=ae (x.rs[i]).cs k
theorem arG {x:Ra} (h:az B H (db aM 81 (As a x)::Rw 84 6 x.q x.c (x.rs.map Rb.cs)::L)):ArG H aM a x:=by
 have hg:=h.get;have hl:(As a x).length=8:=rfl;have hr:=h.swap.kF;have key:∀(i:Nat) (hi:i<x.rs.length) k,k<6→_:=fun i hi k hk=>jP hr (Ie x.rs) (i:=i) (k:=k) (by simpa using hi) hk
 refine⟨nD hg (by omega),nD hg (by omega),nD hg (by omega),nD hg (by omega),nD hg (by omega),nD hg (by omega),nD hg (by omega),nD hg (by omega),
  aZ hg 0,aZ hg 1,aZ hg 2,aZ hg 3,aZ hg 4,aZ hg 5,aZ hg 6,aZ hg 7,fun i k hi hk=> ?_,fun i hi k hk=> ?_⟩
 ·obtain⟨h1,h2,h3⟩:=key i hi k hk;exact⟨h1,h2⟩
 ·obtain⟨h1,h2,h3⟩:=key i hi k hk;rw[h3];simp
theorem ArG.b0 {x:Ra} (g:ArG H aM a x) {i:Nat} (hi:i<x.rs.length):x.q.isSome=true∧H.inb (pb x.q) (po x.q+i*6) 1=true∧H.cell (pb x.q) (po x.q+i*6)=.slice (x.rs[i]).q (x.rs[i]).b.pg.length (x.rs[i]).c:=
 ⟨(g.bi i 0 hi (by omega)).1,(g.bi i 0 hi (by omega)).2,g.b i hi 0 (by omega)⟩
end
structure eU (B H:ag) (aM:Nat) (a:Ar) (x:Ra) (L:List cw):Prop where
 bs:x.rs.map Rb.b=a.bs
 s:az B H (db aM 81 (As a x)::Rw 84 6 x.q x.c (x.rs.map Rb.cs)::bw (x.rs.map Rb.bX)::zl x.q x.w a.eK::L)
abbrev rX (x:Int):Int:=IntKind.i64.wrap x
section
variable {B:ag} {L:List cw} {H:ag} {K:V→ag→Prop} {aM:Nat} {a:Ar} {x:Ra} {i:Nat}
theorem eU.of (h:az B H (dK aM a::L)):∃x,eU B H aM a x L:=by
 obtain⟨x,h1,h2⟩:=az.arr h;exact⟨x,h1,h2⟩
theorem eU.to (h:eU B H aM a x L):az B H (dK aM a::L):=az.Z6 x h.bs h.s
theorem eU.g (h:eU B H aM a x L):ArG H aM a x:=arG h.s
theorem eU.len (h:eU B H aM a x L):a.bs.length=x.rs.length:=by rw[←h.bs];simp
theorem eU.at (h:eU B H aM a x L) (hi:i<a.bs.length):∃hi':i<x.rs.length,(x.rs[i]).b=a.bs[i]:=by
 have hl:=h.len;refine⟨by omega, ?_⟩;have:=h.bs;simp only[←this,List.getElem_map]
theorem eU.ov (h:eU B H aM a x L) {k:Nat} (hk:k<8) (v:V) {a':Ar} (hb:a'.bs=a.bs) (hw:a'.eK=a.eK) (hc:As a' x=(As a x).set k v):H.wr aM k 1=true∧eU B (H.store aM k [v]) aM a' x L:=by
 have h1:=h.s.BA (k:=k) (by exact hk) v;refine⟨h1.1,by rw[hb];exact h.bs, ?_⟩;have h2:=h1.2;rw[←hc, ←hw] at h2;exact h2
theorem eU.bcell (h:eU B H aM a x L) (hi:i<a.bs.length) {k:Nat} (hk:k<6) (hk0:0<k) {v:V} (hv:v.one=true) (b':Bk) (hp:b'.pg=(a.bs[i]).pg) (hc:∀q c,(Rb.mk b' q c).cs=((Rb.mk a.bs[i] q c).cs).set k v):H.wr (pb x.q) (po x.q+i*6+k) 1=true∧∃x',x'.q=x.q∧x'.w=x.w∧eU B (H.store (pb x.q) (po x.q+i*6+k) [v]) aM {a with bs:=a.bs.set i b'} x' L:=by
 obtain⟨hi',hb⟩:=h.at hi;have h1:=h.s.swap.DH (Ie x.rs) (i:=i) (k:=k) (by simpa using hi') hk hv;refine⟨h1.1,{x with rs:=x.rs.set i {x.rs[i] with b:=b'}},rfl,rfl, ?_, ?_⟩
 ·show (x.rs.set i {x.rs[i] with b:=b'}).map Rb.b=a.bs.set i b'
  rw[List.map_set,h.bs]
 ·have h2:=h1.2.swap
  have e1:(x.rs.map Rb.cs).set i ((x.rs.map Rb.cs)[i]'(by simpa using hi') |>.set k v)=(x.rs.set i {x.rs[i] with b:=b'}).map Rb.cs:=by
   rw[List.map_set,List.getElem_map];congr 1;have:=hc (x.rs[i]).q (x.rs[i]).c;rw[←hb] at this;exact this.symm
  have e2:(x.rs.set i {x.rs[i] with b:=b'}).map Rb.bX=x.rs.map Rb.bX:=by
   rw[List.map_set]
   have:Rb.bX {x.rs[i] with b:=b'}=(x.rs.map Rb.bX)[i]'(by simpa using hi'):=by
    rw[List.getElem_map];show pk _ _ b'.pg=pk _ _ _
    rw[hp,hb]
   rw[this,List.set_getElem_self]
  rw[e1] at h2
  show az B _ (db aM 81 (As {a with bs:=a.bs.set i b'} {x with rs:=x.rs.set i {x.rs[i] with b:=b'}})::
   Rw 84 6 x.q x.c ((x.rs.set i {x.rs[i] with b:=b'}).map Rb.cs)::bw ((x.rs.set i {x.rs[i] with b:=b'}).map Rb.bX)::zl x.q x.w a.eK::L)
  rw[e2]
  have e3:As {a with bs:=a.bs.set i b'} {x with rs:=x.rs.set i {x.rs[i] with b:=b'}}=As a x:=by
   simp only[As,List.length_set]
  rw[e3];exact h2
theorem eU.c0 (h:eU B H aM a x L) (hi:i<a.bs.length):x.q.isSome=true∧H.inb (pb x.q) (po x.q+i*6) 1=true∧∃q c,H.cell (pb x.q) (po x.q+i*6)=.slice q (a.bs[i]).pg.length c:=by
 obtain⟨hi',hb⟩:=h.at hi;obtain⟨h1,h2,h3⟩:=h.g.b0 hi';exact⟨h1,h2,(x.rs[i]).q,(x.rs[i]).c,by rw[h3,hb]⟩
theorem eU.ck (h:eU B H aM a x L) (hi:i<a.bs.length) {k:Nat} (hk:k<6):x.q.isSome=true∧H.inb (pb x.q) (po x.q+i*6+k) 1=true∧∃q c,H.cell (pb x.q) (po x.q+i*6+k)=ae (Tb q (a.bs[i]).pg.length c (a.bs[i]).er (a.bs[i]).cn (a.bs[i]).bn (a.bs[i]).aP (a.bs[i]).doom) k:=by
 obtain⟨hi',hb⟩:=h.at hi;obtain⟨h1,h2⟩:=h.g.bi i k hi' hk;refine⟨h1,h2,(x.rs[i]).q,(x.rs[i]).c, ?_⟩;rw[h.g.b i hi' k hk];unfold Rb.cs;rw[hb]
theorem eU.ck1 (h:eU B H aM a x L) (hi:i<a.bs.length):H.inb (pb x.q) (po x.q+i*6+1) 1=true∧H.cell (pb x.q) (po x.q+i*6+1)=.int .i64 (a.bs[i]).er:=by
 obtain⟨_,h2,q,c,h3⟩:=h.ck hi (k:=1) (by omega);exact⟨h2,h3⟩
theorem eU.ck2 (h:eU B H aM a x L) (hi:i<a.bs.length):H.inb (pb x.q) (po x.q+i*6+2) 1=true∧H.cell (pb x.q) (po x.q+i*6+2)=.bool (a.bs[i]).cn:=by
 obtain⟨_,h2,q,c,h3⟩:=h.ck hi (k:=2) (by omega);exact⟨h2,h3⟩
theorem eU.ck3 (h:eU B H aM a x L) (hi:i<a.bs.length):H.inb (pb x.q) (po x.q+i*6+3) 1=true∧H.cell (pb x.q) (po x.q+i*6+3)=.bool (a.bs[i]).bn:=by
 obtain⟨_,h2,q,c,h3⟩:=h.ck hi (k:=3) (by omega);exact⟨h2,h3⟩
theorem eU.ck4 (h:eU B H aM a x L) (hi:i<a.bs.length):H.inb (pb x.q) (po x.q+i*6+4) 1=true∧H.cell (pb x.q) (po x.q+i*6+4)=.bool (a.bs[i]).aP:=by
 obtain⟨_,h2,q,c,h3⟩:=h.ck hi (k:=4) (by omega);exact⟨h2,h3⟩
theorem eU.ck5 (h:eU B H aM a x L) (hi:i<a.bs.length):H.inb (pb x.q) (po x.q+i*6+5) 1=true∧H.cell (pb x.q) (po x.q+i*6+5)=.int .i64 (a.bs[i]).doom:=by
 obtain⟨_,h2,q,c,h3⟩:=h.ck hi (k:=5) (by omega);exact⟨h2,h3⟩
theorem FP (h:eU B H aM a x L) (hi:i<a.bs.length):¬(i:Int)<0∧0≤(i:Int)∧¬(i:Int)≥(x.rs.length:Int)∧(i:Int)<(x.rs.length:Int):=by
 have:=h.len;refine⟨?_, ?_, ?_, ?_⟩<;>omega
theorem uF (h:az B H (dK aM a::L)) (hi:i<a.bs.length):cl 64 [.aj (some (aM,0)),.int .i64 (i:Int)] H K=K (.int .i64 ((a.bs[i]).pg.length:Int)) H:=by
 obtain⟨x,h⟩:=eU.of h;have g:=h.g;obtain⟨n1,n2,n3,n4⟩:=FP h hi;obtain⟨h1,h2,q,c,h3⟩:=h.c0 hi;rw[abK];simp only[AN,Option.isNone_some,Option.isSome_some,g.i0,g.c0,aQ,n1,n2,n3,n4,Int.toNat_natCast,cond_true,if_true,if_false,h1,h2,h3,Bool.false_eq_true]
theorem Lz (h:az B H (dK aM a::L)) (hi:i<a.bs.length):cl 155 [.aj (some (aM,0)),.int .i64 (i:Int)] H K=K (.int .i64 (a.bs[i]).er) H:=by
 obtain⟨x,h⟩:=eU.of h;have g:=h.g;obtain⟨n1,n2,n3,n4⟩:=FP h hi;obtain⟨h1,h2,q,c,h3⟩:=h.c0 hi;have h4:=h.ck1 hi;rw[ZG];simp only[AN,Option.isNone_some,Option.isSome_some,g.i0,g.c0,aQ,n1,n2,n3,n4,Int.toNat_natCast,cond_true,if_true,if_false,h1,h4.1,h4.2,Bool.false_eq_true]
theorem Ig (h:az B H (dK aM a::L)) (hi:i<a.bs.length):cl 62 [.aj (some (aM,0)),.int .i64 (i:Int)] H K=K (.bool (a.bs[i]).aP) H:=by
 obtain⟨x,h⟩:=eU.of h;have g:=h.g;obtain⟨n1,n2,n3,n4⟩:=FP h hi;obtain⟨h1,h2,q,c,h3⟩:=h.c0 hi;have h4:=h.ck4 hi;simp only[ni,nj] at h4;have n2':(i:Int)≥0:=n2;rw[abI];simp only[AN,Option.isNone_some,Option.isSome_some,g.i0,g.c0,aQ,n2,n4,Int.toNat_natCast,h1,h4.1,h4.2,Bool.false_eq_true,ite_self]
theorem BB (h:az B H (dK aM a::L)):cl 95 [.aj (some (aM,0))] H K=K (.int .i64 (a.bs.length:Int)) H:=by
 obtain⟨x,h⟩:=eU.of h;have g:=h.g;rw[abY,h.len];simp only[AN,Option.isNone_some,Option.isSome_some,g.i0,g.c0]
theorem FQ (h:az B H (dK aM a::L)):cl 96 [.aj (some (aM,0))] H K=K (.int .i64 a.aA) H:=by
 obtain⟨x,h⟩:=eU.of h;have g:=h.g;rw[abZ];simp only[AN,Option.isNone_some,Option.isSome_some,g.i1,g.c1,Nat.zero_add]
theorem Ok (h:az B H (dK aM a::L)):cl 76 [.aj (some (aM,0))] H K=K (.int .u64 a.aR) H:=by
 obtain⟨x,h⟩:=eU.of h;have g:=h.g;rw[abS];simp only[AN,Option.isNone_some,Option.isSome_some,g.i2,g.c2,Nat.zero_add]
theorem FR (h:az B H (dK aM a::L)):cl 43 [.aj (some (aM,0))] H K=K (.int .i64 a.boots) H:=by
 obtain⟨x,h⟩:=eU.of h;have g:=h.g;rw[abz];simp only[AN,Option.isNone_some,Option.isSome_some,g.i3,g.c3,Nat.zero_add]
theorem Z7 (h:az B H (dK aM a::L)):cl 75 [.aj (some (aM,0))] H K=K (.bool (!a.off)) H:=by
 obtain⟨x,h⟩:=eU.of h;have g:=h.g;rw[abR];simp only[AN,Option.isNone_some,Option.isSome_some,g.i5,g.c5,aQ,Nat.zero_add,if_true]
def BC (b:Bk) (n:Int):Bk:={b with doom:=n}
theorem Rt (h:az B H (dK aM a::L)) (hi:i<a.bs.length) {n:Int} (hn:0≤n) (k:∀H',az B H' (dK aM {a with bs:=a.bs.set i (BC a.bs[i] n)}::L)→K (.int .i64 0) H'):cl 28 [.aj (some (aM,0)),.int .i64 (i:Int),.int .i64 n] H K:=by
 obtain⟨x,h⟩:=eU.of h;have g:=h.g;obtain⟨n1,n2,n3,n4⟩:=FP h hi;obtain⟨g1,_⟩:=h.c0 hi;obtain⟨h1,x',hq,hw,h2⟩:=h.bcell hi (k:=5) (by omega) (by omega) (v:=.int .i64 n) rfl (BC a.bs[i] n) rfl (fun _ _=>rfl);have hn':¬n<0:=by omega
 rw[abu];simp only[AN,Option.isNone_some,Option.isSome_some,g.i0,g.c0,aQ,n1,n2,n3,n4,hn',Int.toNat_natCast,cond_true,if_true,g1,h1];exact k _ h2.to
end
section
variable {B:ag} {L:List cw} {H:ag} {K:V→ag→Prop} {aM:Nat} {a:Ar} {x:Ra} {i:Nat}
theorem Ol (rs:List Rg):Rq [.slice] (rs.map Rg.cs):=by
 intro c hc;obtain⟨r,_,rfl⟩:=List.mem_map.1 hc;rfl
theorem az.AW {q:Oq} {c:Nat} {ds:List (List UInt8)} (h:az B H (pk q c ds::L)):∃rs:List Rg,rs.map Rg.d=ds∧az B H (Rw 36 1 q c (rs.map Rg.cs)::bw (rs.map Rg.bX)::L):=by
 obtain⟨rs,h⟩:=h.MV;obtain⟨h1,h⟩:=h.j9.Hb;exact⟨rs,h1,h.Ly⟩
theorem az.Om {q:Oq} {c:Nat} (rs:List Rg) (h:az B H (Rw 36 1 q c (rs.map Rg.cs)::bw (rs.map Rg.bX)::L)):az B H (pk q c (rs.map Rg.d)::L):=by
 have h2:az B H (bw [Rw 36 1 q c (rs.map Rg.cs),bw (rs.map Rg.bX)]::L):=az.sN h;exact az.intro (x:=rs) (h2.pure rfl).oG
theorem az.acE {q:Oq} {c:Nat} {ds:List (List UInt8)} (h:az B H (pk q c ds::L)) {k:Nat} (hk:k<ds.length):q.isSome=true∧H.inb (pb q) (po q+k*1) 1=true∧∃q' c',H.cell (pb q) (po q+k*1)=.slice q' (ds[k]).length c'∧mn H q' ds[k]:=by
 obtain⟨rs,rfl,h2⟩:=az.AW h;clear h;have h:=h2;clear h2;have hk':k<rs.length:=by simpa using hk
 have hu:pj 1 (rs.map Rg.cs):=(Ol rs).pr;have hr:=jP h.kF hu (i:=k) (k:=0) (by simpa using hk') (by decide);simp only[List.getElem_map];refine⟨hr.1,hr.2.1,(rs[k]).q,(rs[k]).c, ?_, ?_⟩
 ·rw[show po q+k*1=po q+k*1+0 from rfl,hr.2.2];simp [Rg.cs]
 ·have h2:=h.swap.p9 (i:=k) (by simpa using hk');have e:(rs.map Rg.bX)[k]'(by simpa using hk')=(rs[k]).bX:=by rw[List.getElem_map]
  rw[e] at h2;exact h2.iU
theorem eU.pgA (h:eU B H aM a x L) (hi:i<a.bs.length):∃q c,H.cell (pb x.q) (po x.q+i*6)=.slice q (a.bs[i]).pg.length c∧H.inb (pb x.q) (po x.q+i*6) 1=true∧x.q.isSome=true∧∃L',az B H (pk q c (a.bs[i]).pg::L'):=by
 obtain⟨hi',hb⟩:=h.at hi;obtain⟨h1,h2,h3⟩:=h.g.b0 hi';have h4:=(h.s.up 2).p9 (i:=i) (by simpa using hi');have e:(x.rs.map Rb.bX)[i]'(by simpa using hi')=(x.rs[i]).bX:=by rw[List.getElem_map]
 rw[e] at h4;unfold Rb.bX at h4;rw[hb] at h3 h4;exact⟨_,_,h3,h2,h1,_,h4⟩
def gB (a:Ar) (i k:Nat):Int×List UInt8:=
 if a.off=true then (9,[]) else if a.aA≤(k:Int) then (1,[]) else match a.bs[i]? with
  |none=>(1,[])
  |some b=>match b.pg[k]? with
   |none=>(5,[])
   |some d=>if b.cn=true then (4,[]) else (0,d)
theorem DI (h:eU B H aM a x L) (hi:i<a.bs.length) (k1:a.off=true→K (.tuple [.aj none,.int .i64 9]) H) (k2:a.off=false→K (.tuple [.aj (some (pb x.q,po x.q+i*6)),.int .i64 0]) H):cl 51 [.aj (some (aM,0)),.int .i64 (i:Int)] H K:=by
 have g:=h.g;obtain⟨n1,n2,n3,n4⟩:=FP h hi;obtain⟨g0,_⟩:=h.c0 hi;rw[abC];simp only[AN,Option.isNone_some,Option.isSome_some,g.i0,g.c0,g.i5,g.c5,aQ,Nat.zero_add,n1,n2,n3,n4,g0,Int.toNat_natCast,cond_true,if_true];cases ho:a.off
 ·rw[ai];exact k2 ho
 ·rw[ar];exact k1 ho
theorem FT (h:az B H (dK aM a::L)) (hi:i<a.bs.length) (hd:∀d∈(a.bs[i]).pg,d.length≤1000000) (p:Nat) (k:∀q c H',az B H' (BY q c (gB a i p).2::dK aM a::L)→K (.tuple [.slice q (gB a i p).2.length c,.int .i64 (gB a i p).1]) H'):cl 23 [.aj (some (aM,0)),.int .i64 (i:Int),.int .i64 (p:Int)] H K:=by
 rw[abp];obtain⟨x,hX⟩:=eU.of h;have g:=hX.g;have p0:¬(p:Int)<0:=by omega
 have h9:¬(9:Int)=0:=by decide
 refine DI hX hi (fun ho=> ?_) (fun ho'=> ?_)
 ·have e2:gB a i p=(9,[]):=by simp [gB,ho]
  rw[e2] at k;simp only[AN,h9];exact k none 0 H (kE h)
 ·simp only[AN,Option.isSome_some,g.i1,g.c1,aQ,p0,Nat.zero_add,cond_true,ite_self,Int.toNat_natCast];by_cases hp:a.aA≤(p:Int)
  ·have e2:gB a i p=(1,[]):=by simp [gB,ho',hp]
   rw[e2] at k;have Ai:(p:Int)≥a.aA:=hp;simp only[Ai,decide_true,ar];exact k none 0 H (kE h)
  ·have Ai:¬(p:Int)≥a.aA:=hp;simp only[Ai,decide_false,ai];have hbk:a.bs[i]? =some a.bs[i]:=List.getElem?_eq_getElem hi;obtain⟨q',c',g3,g2,g1,L',tw⟩:=hX.pgA hi;have g5:=hX.ck2 hi;simp only[g2,g3,g5.1,g5.2,AN];by_cases hk:(a.bs[i]).pg.length≤p
   ·have e2:gB a i p=(5,[]):=by simp [gB,ho',hp,hbk,List.getElem?_eq_none hk]
    rw[e2] at k;have hk':(p:Int)≥((a.bs[i]).pg.length:Int):=by omega
    simp only[hk',decide_true,ar];exact k none 0 H (kE h)
   ·have Xj:p<(a.bs[i]).pg.length:=by omega
    have hk':¬(p:Int)≥((a.bs[i]).pg.length:Int):=by omega
    simp only[hk',decide_false,ai];have hpk:(a.bs[i]).pg[p]? =some (a.bs[i]).pg[p]:=List.getElem?_eq_getElem Xj;by_cases hh:(a.bs[i]).cn=true
    ·have e2:gB a i p=(4,[]):=by simp [gB,ho',hp,hbk,hpk,hh]
     rw[e2] at k;simp only[hh,ar];exact k none 0 H (kE h)
    ·have hh':(a.bs[i]).cn=false:=by simpa using hh
     have e2:gB a i p=(0,(a.bs[i]).pg[p]):=by simp [gB,ho',hp,hbk,hpk,hh']
     rw[e2] at k;have m1:0≤(p:Int):=by omega
     have m2:(p:Int)<((a.bs[i]).pg.length:Int):=by omega
     obtain⟨f1,f2,q2,c2,f3,f4⟩:=az.acE tw Xj;simp only[hh',ai,m1,m2,f1,f2,f3,decide_true,Bool.and_self,av,AN];refine kb h f4 (hd _ (List.getElem_mem Xj)) (fun q2 c2 H2 h2=> ?_);simp only[AN];exact k q2 c2 H2 h2
def aD (b:Bk):Bk:=if b.doom>0 then {b with doom:=rX (b.doom-1),bn:=b.bn||decide (rX (b.doom-1)=0)} else b
def bA (a:Ar) (i:Nat) (b:Bk):Ar:=
 {a with aF:=rX (a.aF+1),bR:=if a.bR>0 then rX (a.bR-1) else a.bR,off:=if a.bR>0 then decide (rX (a.bR-1)=0) else a.off,bs:=a.bs.set i (aD b)}
def lP (a:Ar):Ar:=
 {a with aF:=rX (a.aF+1),bR:=if a.bR>0 then rX (a.bR-1) else a.bR,off:=if a.bR>0 then decide (rX (a.bR-1)=0) else a.off}
theorem FU (h:eU B H aM a x L) (hi:i<a.bs.length) (k:∀x' H',x'.q=x.q→x'.w=x.w→eU B H' aM (bA a i a.bs[i]) x' L→K (.tuple [.bool (!(bA a i a.bs[i]).off),.bool (aD a.bs[i]).bn]) H'):cl 126 [.aj (some (aM,0)),.aj (some (pb x.q,po x.q+i*6))] H K:=by
 have g:=h.g;rw[Zo];simp only[AN,Option.isSome_some,Nat.zero_add,g.i6,g.c6];obtain⟨w1,h1⟩:=h.ov (k:=6) (by omega) (.int .i64 (rX (a.aF+1))) (a':={a with aF:=rX (a.aF+1)}) rfl rfl rfl;simp only[w1,av];generalize ag.store H aM 6 _=H1 at h1⊢;have g1:=h1.g;simp only[g1.i4,g1.c4,AN];refine iE (fun S=>eU B S.3 aM (lP a) x L) (fun S hS=> ?_) (fun Q' hQ=> ?_)
 ·generalize S.3=H2 at hS⊢;have hiN:i<(lP a).bs.length:=hi;have gN:=hS.g;have d5:=hS.ck5 hiN;have eb:(lP a).bs[i]=a.bs[i]:=rfl;rw[eb] at d5;simp only[d5.1,d5.2,AN];by_cases hd:(a.bs[i]).doom>0
  ·obtain⟨w2,x2,q2,e2,h2⟩:=hS.bcell hiN (k:=5) (by omega) (by omega) (v:=.int .i64 (rX ((a.bs[i]).doom-1))) rfl {a.bs[i] with doom:=rX ((a.bs[i]).doom-1)} rfl (fun _ _=>rfl);simp only[hd,decide_true,ar,w2,av];generalize ag.store H2 _ _ _=H3 at h2⊢;obtain⟨a2,hA⟩:∃a2:Ar,a2={lP a with bs:=(lP a).bs.set i {a.bs[i] with doom:=rX ((a.bs[i]).doom-1)}}:=⟨_,rfl⟩;rw[←hA] at h2;have hi2:i<a2.bs.length:=by rw[hA];show i<(List.set _ _ _).length;rw[List.length_set];exact hi
   have eb2:a2.bs[i]={a.bs[i] with doom:=rX ((a.bs[i]).doom-1)}:=by simp only[hA];exact List.getElem_set_self _
   have d3:=h2.ck3 hi2;have d5:=h2.ck5 hi2;rw[eb2,q2] at d3 d5;simp only[d3.1,d3.2,AN];by_cases Qm:(a.bs[i]).bn=true
   ·obtain⟨w3,x3,q3,e3,h3⟩:=h2.bcell hi2 (k:=3) (by omega) (by omega) (v:=.bool true) rfl {a2.bs[i] with bn:=true} rfl (fun _ _=>rfl);rw[q2] at w3 h3;simp only[Qm,Bool.not_true,ai,w3,av];generalize ag.store H3 _ _ _=H4 at h3⊢
    have e5:({a2 with bs:=a2.bs.set i {a2.bs[i] with bn:=true}}:Ar)=bA a i a.bs[i]:=by
     subst hA;simp only[lP,bA,aD,hd,if_true,Qm,Bool.true_or,List.set_set,List.getElem_set_self]
    rw[e5] at h3;have g4:=h3.g;have Qv:i<(bA a i a.bs[i]).bs.length:=by unfold bA;simpa using hi
    have d6:=h3.ck3 Qv;have e6:((bA a i a.bs[i]).bs[i]).bn=(aD a.bs[i]).bn:=congrArg Bk.bn (List.getElem_set_self (by rw[List.length_set];exact hi));rw[e6,q3,q2] at d6;simp only[g4.i5,g4.c5,d6.1,d6.2,AN];exact k x3 H4 (q3.trans q2) (e3.trans e2) h3
   ·have aaB:(a.bs[i]).bn=false:=by simpa using Qm
    obtain⟨w3,x3,q3,e3,h3⟩:=h2.bcell hi2 (k:=3) (by omega) (by omega) (v:=.bool (decide (rX ((a.bs[i]).doom-1)=0))) rfl {a2.bs[i] with bn:=decide (rX ((a.bs[i]).doom-1)=0)} rfl (fun _ _=>rfl);rw[q2] at w3 h3;simp only[aaB,Bool.not_false,ar,d5.1,d5.2,w3,AN];generalize ag.store H3 _ _ _=H4 at h3⊢
    have e5:({a2 with bs:=a2.bs.set i {a2.bs[i] with bn:=decide (rX ((a.bs[i]).doom-1)=0)}}:Ar)=bA a i a.bs[i]:=by
     subst hA;simp only[lP,bA,aD,hd,if_true,aaB,Bool.false_or,List.set_set,List.getElem_set_self]
    rw[e5] at h3;have g4:=h3.g;have Qv:i<(bA a i a.bs[i]).bs.length:=by unfold bA;simpa using hi
    have d6:=h3.ck3 Qv;have e6:((bA a i a.bs[i]).bs[i]).bn=(aD a.bs[i]).bn:=congrArg Bk.bn (List.getElem_set_self (by rw[List.length_set];exact hi));rw[e6,q3,q2] at d6;simp only[g4.i5,g4.c5,d6.1,d6.2,AN];exact k x3 H4 (q3.trans q2) (e3.trans e2) h3
  ·have d3:=hS.ck3 hiN;rw[eb] at d3;simp only[hd,decide_false,ai,gN.i5,gN.c5,d3.1,d3.2,AN];have eB:aD (a.bs[i]'hi)=a.bs[i]'hi:=if_neg hd;have eL:a.bs.set i (aD (a.bs[i]'hi))=a.bs:=by rw[eB];exact List.set_getElem_self hi
   have eA:bA a i (a.bs[i]'hi)=lP a:=by unfold bA lP;rw[eL]
   have k2:=k x H2 rfl rfl (by rw[eA];exact hS);rw[eA,eB] at k2;exact k2
 ·by_cases hp:a.bR>0
  ·obtain⟨w2,h2⟩:=h1.ov (k:=4) (by omega) (.int .i64 (rX (a.bR-1))) (a':={a with aF:=rX (a.aF+1),bR:=rX (a.bR-1)}) rfl rfl rfl;simp only[hp,decide_true,ar,w2,av];generalize ag.store H1 aM 4 _=H2 at h2⊢;have g2:=h2.g;simp only[g2.i4,g2.c4,AN];obtain⟨w3,h3⟩:=h2.ov (k:=5) (by omega) (.bool (decide (rX (a.bR-1)=0))) (a':={a with aF:=rX (a.aF+1),bR:=rX (a.bR-1),off:=decide (rX (a.bR-1)=0)}) rfl rfl rfl;simp only[w3,av];refine hQ _ ?_;simpa only[lP,hp,if_true] using h3
  ·simp only[hp,decide_false,ai];refine hQ _ ?_;simpa only[lP,hp,if_false] using h1
end
def gY (p:List UInt8) (n:Int):List UInt8:=p.take n.toNat++List.replicate (p.length-n.toNat) 255
@[simp] theorem nE (p:List UInt8) (n:Int):(gY p n).length=p.length:=by simp [gY];omega
section
variable {B:ag} {L:List cw} {H:ag} {K:V→ag→Prop} {q:Oq} {cap:Nat} {bs:List UInt8}
theorem On {x y:Nat} (hx:x<4294967296) (hy:y<4294967296):cl 162 [.int .u64 (x:Int),.int .u64 (y:Int)] H K=K (.tuple [.int .u64 0,.int .u64 ((x*y:Nat):Int)]) H:=by
 have e1:Int.fdiv (x:Int) 4294967296=0:=by rw[Int.fdiv_eq_ediv_of_nonneg _ (by omega)];omega
 have e2:Int.fdiv (y:Int) 4294967296=0:=by rw[Int.fdiv_eq_ediv_of_nonneg _ (by omega)];omega
 have m1:∀z:Nat,z<4294967296→((BitVec.toNat (BitVec.ofInt 64 (z:Int) &&& BitVec.ofInt 64 4294967295):Nat):Int)=z:=by
  intro z hz;have:BitVec.ofInt 64 (z:Int)=BitVec.ofNat 64 z:=rfl;rw[this];have h2:BitVec.ofInt 64 4294967295=BitVec.ofNat 64 4294967295:=rfl;rw[h2,BitVec.toNat_and,BitVec.toNat_ofNat,BitVec.toNat_ofNat,show (4294967295:Nat) % 2 ^ 64=2 ^ 32-1 from rfl,Nat.and_two_pow_sub_one_eq_mod];omega
 have hxy:x*y<18446744073709551616:=by
  have:=Nat.mul_le_mul (show x≤4294967295 by omega) (show y≤4294967295 by omega);omega
 have u:∀z:Nat,z<18446744073709551616→IntKind.u64.wrap (z:Int)=z:=fun z hz=>cM hz
 have u0:IntKind.u64.wrap 0=0:=u 0 (by omega);have e3:((x:Int)*(y:Int))=((x*y:Nat):Int):=by simp
 have e4:∀z:Nat,z<18446744073709551616→Int.fdiv (z:Int) 4294967296=((z / 4294967296:Nat):Int):=fun z hz=>by rw[Int.fdiv_eq_ediv_of_nonneg _ (by omega)];omega
 have hz:x*y / 4294967296<4294967296:=by omega
 have e5:=e4 (x*y / 4294967296) (by omega);have e6:x*y / 4294967296 / 4294967296=0:=by omega
 rw[ZK]
 simp only[e1,e2,m1 x hx,m1 y hy,u x (by omega),u y (by omega),e3,u _ hxy,e4 _ hxy,Int.zero_mul,Int.mul_zero,u0,Int.zero_add,Int.add_zero,u _ (show x*y / 4294967296<18446744073709551616 by omega),e5,e6,m1 _ hz,
  Int.natCast_zero]
theorem Oo {id:Nat} {Kr:Am.St→Prop} {Ke:Nat→Am.St→Prop}:∀(k bp:Nat) (rest:List UInt8) {H:ag},bp+rest.length=96→0<bp→rest.length≤k→az B H (db id 5 (bo (List.replicate bp 255++rest))::L)→(∀H',az B H' (db id 5 (bo (List.replicate 96 255))::L)→Ke 0 (St.mk (ab [(7,T.v (V.slice (some (id,0)) 96 96))]) (ab []) H'))→lo 159 10 (St.mk (ab [(7,T.v (V.slice (some (id,0)) 96 96)),(8,T.v (V.int .i64 (bp:Int)))]) (ab []) H) Kr Ke
 |0,bp,rest,H,h1,h2,h3,h,hk=>by
  have:rest=[]:=List.eq_nil_of_length_eq_zero (by omega);subst this;obtain rfl:bp=96:=by simpa using h1
  rw[FD];exact hk H (by simpa using h)
 |k+1,bp,rest,H,h1,h2,h3,h,hk=>by
  rw[FD];by_cases hr:rest=[]
  ·subst hr;obtain rfl:bp=96:=by simpa using h1
   exact hk H (by simpa using h)
  ·have hl:0<rest.length:=List.length_pos_iff.2 hr;have a1:(bp:Int)<((96:Nat):Int):=by omega
   have a2:0≤(bp:Int):=by omega
   have a3:(bp:Int)≤((96:Nat):Int):=by omega
   have a4:bp≤96:=by omega
   have hg:=h.get;obtain⟨j,hj⟩:∃j,j=Nat.min (bp-0) (96-bp):=⟨_,rfl⟩;have hj1:j≤bp:=by rw[hj];exact Nat.le_trans (Nat.min_le_left _ _) (by omega)
   have hj2:j≤rest.length:=by rw[hj];exact Nat.le_trans (Nat.min_le_right _ _) (by omega)
   have hj3:0<j:=by rw[hj];exact Nat.lt_min.2 ⟨by omega,by omega⟩
   have hrd:Rd H (some (id,0)) (bo (List.replicate j 255)):=by
    refine .inr ⟨id,0,_,_,_,rfl,hg, ?_⟩;rw[List.drop_zero,oH,List.length_replicate,mE];congr 1;rw[List.take_append_of_le_length (by simp;omega),List.take_replicate,Nat.min_eq_left hj1]
   have hc:=mF (n:=1) (id:=id) (o:=bp) (k:=96-bp) (ms:=bp-0) (c:=96-0) (j:=j) (qs:=some (id,0)) hg hrd hj.symm (by simp) (jC _) (by omega) (by simp;try omega);have h5:=h.store (off:=bp) (vs:=bo (List.replicate j 255))
   have e5:bI (bo (List.replicate bp 255++rest)) bp (bo (List.replicate j 255))=bo (List.replicate (bp+j) 255++rest.drop j):=by
    rw[fW _ _ _ (by simp;omega),mE,p5, ←jB, ←jB];congr 1
    rw[List.take_left' (by simp),oH,List.length_replicate,List.drop_append,List.drop_of_length_le (by simp),List.length_replicate,Nat.add_sub_cancel_left,List.nil_append, ←List.append_assoc,
     List.replicate_append_replicate]
   rw[e5] at h5;have e6:IntKind.i64.wrap ((bp:Int)+((Nat.min (bp-0) (96-bp):Nat):Int))=((bp+j:Nat):Int):=by rw[←hj,bj (by omega) (by omega)];omega
   have e7:bP (some (id,0)) (bp*1)=some (id,bp):=by simp [bP]
   simp only[AN,a1,a2,a3,a4,Int.toNat_natCast,e7,gK,hc.1,hc.2,e6];exact Oo k (bp+j) (rest.drop j) (by simp;omega) (by omega) (by simp;omega) h5 hk
theorem Ot (h:az B H L) (hr:mn H q [255]) (k:∀id H',az B H' (db id 5 (bo (List.replicate 96 255))::L)→K (.slice (some (id,0)) 96 96) H'):cl 159 [.slice q 1 cap,.int .i64 96] H K:=by
 rw[ZI];have w1:IntKind.u64.wrap ((1:Nat):Int)=((1:Nat):Int):=cM (by omega);have w2:IntKind.u64.wrap 96=((96:Nat):Int):=cM (n:=96) (by omega);have w3:IntKind.i64.wrap ((1*96:Nat):Int)=96:=bj (by omega) (by omega);have d1:¬(96:Int)<0:=by decide
 have d2:¬(0:Int)>0:=by decide
 have d3:¬((1*96:Nat):Int)>9223372036854775807:=by decide
 rw[w1,w2];simp only[AJ,d1];rw[ZJ,On (by omega) (by omega)];simp only[AN,d2,d3,cond_true,w3];have e96:Int.toNat 96=96:=rfl;rw[e96];have f1:(decide ((0:Int)≤96)&&(decide ((96:Int)≤96)&&decide ((96:Int)*2≤70368744177664)))=true:=by decide
 rw[f1,av];have hz:dU 96 [V.int .u8 0]=bo (List.replicate 96 0):=by kernel_rfl
 rw[hz];have h1:=h.alloc 5 (bo (List.replicate 96 0));have wz:Rd (H.alloc (.cells 5 (bo (List.replicate 96 0)) false)) q (bo [255]):=hr.fr h.ok (Fr.alloc H _ (fun _=>False)) (fun _ _ _=>id);have hg:=h1.get;have hc:=mF (n:=1) (id:=H.next) (o:=0) (k:=96) (ms:=1) (c:=cap) (j:=1) (qs:=q) hg wz rfl rfl (jC _) (by omega) (by simp);have h2:=h1.store (off:=0) (vs:=bo [255]);have e2:bI (bo (List.replicate 96 0)) 0 (bo [255])=bo (List.replicate 1 255++List.replicate 95 0):=by kernel_rfl
 rw[e2] at h2;rw[hc.1,hc.2,av];have e3:((Nat.min 1 96:Nat):Int)=((1:Nat):Int):=rfl;rw[e3];refine Oo (L:=L) 95 1 (List.replicate 95 0) (by simp) (by omega) (by simp) h2 (fun H' h'=> ?_);simp only[AN,reduceIte];exact k _ H' h'
theorem Ru (h:az B H L) (hr:lN B L q bs) (hl:bs.length=96) (hc:96≤cap) (n:Int) (k:∀q' c' H',az B H' (BY q' c' (gY bs n)::L)→K (.slice q' 96 c') H'):cl 157 [.slice q 96 cap,.int .i64 n] H K:=by
 rw[ZH];have h1:=h.alloc 5 [V.int .u8 255];have wz:mn (H.alloc (.cells 5 [V.int .u8 255] false)) (some (H.next,0)) [255]:=.inr ⟨_,0,_,_,_,rfl,h1.get,rfl⟩;refine Ot (L:=L) h1.drop wz (fun id H2 h2=> ?_)
 obtain⟨m,hm⟩:∃m:Nat,(bif decide (((96:Nat):Int)<bif decide (0>n) then 0 else n) then ((96:Nat):Int) else bif decide (0>n) then 0 else n)=m∧m=min n.toNat 96:=by
  by_cases h0:0>n
  ·exact⟨0,by simp [h0],by omega⟩
  ·by_cases h1:((96:Nat):Int)<n
   ·exact⟨96,by simp only[h0,h1,decide_false,decide_true,cond_false,cond_true],by omega⟩
   ·exact⟨n.toNat,by simp only[h0,h1,decide_false,cond_false];omega,by omega⟩
 have adn:m≤96:=by omega
 have a1:0≤(m:Int):=by omega
 have a2:(m:Int)≤(cap:Int):=by omega
 have a3:m≤cap:=by omega
 have hrm:Rd H2 q (bo (bs.take m)):=by
  have:=(hr.part 0 m (by omega)).bO (db id 5 (bo (List.replicate 96 255))) H2 h2;rw[List.drop_zero,gK] at this;exact this
 have hg:=h2.get;have hc:=mF (n:=1) (id:=id) (o:=0) (k:=96) (ms:=m-0) (c:=cap-0) (j:=m) (qs:=q) hg hrm (by show min (m-0) 96=m;omega) (by simp;omega) (jC _) (by omega) (by simp;omega);have h3:=h2.store (off:=0) (vs:=bo (bs.take m))
 have e3:bI (bo (List.replicate 96 255)) 0 (bo (bs.take m))=bo (gY bs n):=by
  have e4:bs.take n.toNat=bs.take m:=by
   by_cases hn:n.toNat≤96
   ·congr 1;omega
   ·rw[List.take_of_length_le (by omega),List.take_of_length_le (by omega)]
  have e5:bs.length-n.toNat=96-m:=by omega
  rw[gY,e4,e5,fW _ _ _ (by simp;omega),mE,p5, ←jB, ←jB,oH,List.length_take,List.drop_replicate,List.take_zero,List.nil_append];congr 3;omega
 rw[e3] at h3;simp only[AN,hm.1,Int.toNat_natCast,a1,a2,a3,gK,hc.1,hc.2];refine k _ _ _ (h3.unbuf ?_ (jC _) ?_ ?_ ?_)
 ·simp
 ·simp [hl]
 ·simp [hl]
 ·rw[List.drop_zero,List.take_length]
end
theorem VE:fB ej 82=some (36,1,24,[V.slice none 0 0]):=by kernel_rfl
theorem VF:ik (bh ej 82)=true:=by kernel_rfl
section
variable {B:ag} {L:List cw} {H:ag} {K:V→ag→Prop} {aM:Nat} {a:Ar} {x:Ra} {i:Nat}
theorem az.VG {q q2:Oq} {c c2:Nat} {ds:List (List UInt8)} {d:List UInt8} (h:az B H (pk q c ds::BY q2 c2 d::L)) (hb:ds.length≤1000) {K:Oq→Nat→Nat→ag→Prop} (k:∀q' c' H',az B H' (pk q' c' (ds++[d])::L)→K q' (ds.length+1) c' H'):aO ej [82,82] [.slice q ds.length c,.slice (some (H.next,0)) 1 1] (H.alloc (.cells 36 [.slice q2 d.length c2] false)) K:=by
 obtain⟨rs,rfl,h1⟩:=az.AW h;rw[List.length_map, ←List.length_map (f:=Rg.cs)]
 refine h1.vK VE VF (fun v hv=>by rw[List.mem_singleton] at hv;subst hv;rfl) rfl (by omega) (Ol rs).pr (c:=[.slice q2 d.length c2]) rfl (fun v hv=>by rw[List.mem_singleton] at hv;subst hv;rfl)
  (by rw[List.length_map] at hb⊢;omega) (fun q' c' H' h'=> ?_)
 rw[List.length_map, ←List.length_map (f:=Rg.d)];refine k q' c' H' ?_;have e:rs.map Rg.d++[d]=(rs++[Rg.mk d q2 c2]).map Rg.d:=by simp
 rw[e];refine az.Om _ ?_;have e2:(rs++[Rg.mk d q2 c2]).map Rg.cs=rs.map Rg.cs++[[.slice q2 d.length c2]]:=by simp [Rg.cs]
 rw[e2];have h2:az B H' (Rw 36 1 q' c' (rs.map Rg.cs++[[.slice q2 d.length c2]])::L++[bw (rs.map Rg.bX),BY q2 c2 d]):=h'.mW (((List.perm_append_comm (l₁:=[bw (rs.map Rg.bX),BY q2 c2 d]) (l₂:=L)).cons _));have h3:az B H' (BY q2 c2 d::bw (rs.map Rg.bX)::Rw 36 1 q' c' (rs.map Rg.cs++[[.slice q2 d.length c2]])::L):=h'.ord [2,1]
 have h4:=h3.mG.bigPerm (l':=(rs++[Rg.mk d q2 c2]).map Rg.bX) (by
  rw[List.map_append]
  exact(List.perm_append_comm (l₁:=[BY q2 c2 d]) (l₂:=rs.map Rg.bX)))
 exact h4.swap
theorem eU.alloc (h:eU B H aM a x L) (e:TypeId) (cs:List V):eU B (H.alloc (.cells e cs false)) aM a x (db H.next e cs::L):=
 ⟨h.bs,(h.s.alloc e cs).ord [1,1,1,1]⟩
theorem eU.drop {A:cw} (h:eU B H aM a x (A::L)):eU B H aM a x L:=⟨h.bs,(h.s.ord [4]).drop⟩
theorem eU.ord (h:eU B H aM a x L) {L':List cw} (hp:L.Perm L'):eU B H aM a x L':=⟨h.bs,h.s.mW ((((hp.cons _).cons _).cons _).cons _)⟩
theorem eU.Z8 (h:eU B H aM a x L):az B H L:=h.s.drop.drop.drop.drop
theorem eU.open (h:eU B H aM a x L) (hi:i<a.bs.length):∃hi':i<x.rs.length,(x.rs[i]).b=a.bs[i]∧az B H (pk (x.rs[i]).q (x.rs[i]).c (a.bs[i]).pg::db aM 81 (As a x)::Rw 84 6 x.q x.c (x.rs.map Rb.cs)::bw ((x.rs.map Rb.bX).eraseIdx i)::zl x.q x.w a.eK::L):=by
 obtain⟨hi',hb⟩:=h.at hi;refine⟨hi',hb, ?_⟩;have h1:=(h.s.ord [2]).p9 (i:=i) (by simpa using hi')
 have e:(x.rs.map Rb.bX)[i]'(by simpa using hi')=pk (x.rs[i]).q (x.rs[i]).c (a.bs[i]).pg:=by
  rw[List.getElem_map];show pk _ _ (x.rs[i]).b.pg=_
  rw[hb]
 rw[e] at h1;exact h1.ord [0,1,1]
theorem eU.close {q':Oq} {c':Nat} {I6:List (List UInt8)} (Wz:x.rs.map Rb.b=a.bs) (hi:i<a.bs.length) (hi':i<x.rs.length) (h:az B H (pk q' c' I6::db aM 81 (As a x)::Rw 84 6 x.q x.c (x.rs.map Rb.cs)::bw ((x.rs.map Rb.bX).eraseIdx i)::zl x.q x.w a.eK::L)):H.wr (pb x.q) (po x.q+i*6) 1=true∧∃x',x'.q=x.q∧x'.w=x.w∧eU B (H.store (pb x.q) (po x.q+i*6) [.slice q' I6.length c']) aM {a with bs:=a.bs.set i {a.bs[i] with pg:=I6}} x' L:=by
 have hb:(x.rs[i]).b=a.bs[i]:=by simp only[←Wz,List.getElem_map]
 have h1:=(h.ord [2]).DH (Ie x.rs) (i:=i) (k:=0) (by simpa using hi') (by omega) (v:=.slice q' I6.length c') rfl;refine⟨h1.1,{x with rs:=x.rs.set i ⟨{a.bs[i] with pg:=I6},q',c'⟩},rfl,rfl, ?_, ?_⟩
 ·show (x.rs.set i _).map Rb.b=_
  rw[List.map_set,Wz]
 ·have h2:=h1.2
  have e1:(x.rs.map Rb.cs).set i ((x.rs.map Rb.cs)[i]'(by simpa using hi') |>.set 0 (.slice q' I6.length c'))=(x.rs.set i ⟨{a.bs[i] with pg:=I6},q',c'⟩).map Rb.cs:=by
   rw[List.map_set,List.getElem_map];congr 1;unfold Rb.cs;rw[hb];rfl
  rw[e1] at h2;have h3:=(h2.ord [1,2]).Th (A:=pk q' c' I6) (l:=x.rs.map Rb.bX) (i:=i) (by simpa using hi');have e2:(x.rs.set i ⟨{a.bs[i] with pg:=I6},q',c'⟩).map Rb.bX=(x.rs.map Rb.bX).set i (pk q' c' I6):=by rw[List.map_set];rfl
  show az B _ (db aM 81 (As {a with bs:=a.bs.set i {a.bs[i] with pg:=I6}} {x with rs:=x.rs.set i ⟨{a.bs[i] with pg:=I6},q',c'⟩})::_::bw ((x.rs.set i ⟨{a.bs[i] with pg:=I6},q',c'⟩).map Rb.bX)::_)
  rw[e2];have e3:As {a with bs:=a.bs.set i {a.bs[i] with pg:=I6}} {x with rs:=x.rs.set i ⟨{a.bs[i] with pg:=I6},q',c'⟩}=As a x:=by simp only[As,List.length_set]
  rw[e3];exact h3.ord [2,1]
theorem eU.push {q2:Oq} {c2:Nat} {d:List UInt8} (h:eU B H aM a x (BY q2 c2 d::L)) (hi:i<a.bs.length) (hb:(a.bs[i]).pg.length≤1000) {Q:ag→Prop} (k:∀x' H',x'.q=x.q→x'.w=x.w→eU B H' aM {a with bs:=a.bs.set i {a.bs[i] with pg:=(a.bs[i]).pg++[d]}} x' L→Q H') (hi':i<x.rs.length):aO ej [82,82] [.slice (x.rs[i]).q (a.bs[i]).pg.length (x.rs[i]).c,.slice (some (H.next,0)) 1 1] (H.alloc (.cells 36 [.slice q2 d.length c2] false)) (fun q n c H'=>ah (H'.wr (pb x.q) (po x.q+i*6) 1) (Q (H'.store (pb x.q) (po x.q+i*6) [.slice q n c]))):=by
 obtain⟨hi',Ah,h1⟩:=h.open hi;refine az.VG (L:=_) (h1.ord [0,4]) hb (fun q' c' H' h'=> ?_);obtain⟨w,x',hq,hw,h2⟩:=eU.close (L:=L) h.bs hi hi' h';rw[w,av];rw[List.length_append] at h2;exact k x' _ hq hw h2
end
def fQ (a:Ar) (i p:Nat) (d:List UInt8) (e:Int):Ar×Int:=
 if a.off=true then (a,9) else if a.aA≤(p:Int) then (a,1) else if d.length≠96 then (a,3) else match a.bs[i]? with
  |none=>(a,1)
  |some b=>if p≠b.pg.length∨b.cn=true then (a,6) else if e<a.aR then (a,7) else
   if (bA a i b).off=true then ({bA a i b with eK:=.prog i d},9)
   else if (aD b).bn=true then ({bA a i b with bs:=(bA a i b).bs.set i {aD b with pg:=b.pg++[gY d 0],aP:=true}},8)
   else ({bA a i b with bs:=(bA a i b).bs.set i {aD b with pg:=b.pg++[d]}},0)
theorem bB (b:Bk):(aD b).pg=b.pg:=by unfold aD;split<;>rfl
section
variable {B:ag} {L:List cw} {H:ag} {K:V→ag→Prop} {aM:Nat} {a:Ar} {x:Ra} {i:Nat}
theorem fX (a:Ar) (i:Nat) (b:Bk):(bA a i b).bs.length=a.bs.length:=by simp [bA]
theorem BD (a:Ar) {i:Nat} (b:Bk) (hi:i<a.bs.length):(bA a i b).bs[i]'(by rw[fX];exact hi)=aD b:=by simp [bA]
theorem eU.wayW {W:cw} (h:eU B H aM a x (W::L)) (w:V) (wy:Wy) (hW:∀g,W g→zl x.q w wy g):H.wr aM 7 1=true∧eU B (H.store aM 7 [w]) aM {a with eK:=wy} {x with w:=w} L:=by
 have h1:=h.s.BA (k:=7) (by show 7<8;omega) w;refine⟨h1.1,h.bs, ?_⟩;have h3:az B (H.store aM 7 [w]) (W::db aM 81 ((As a x).set 7 w)::Rw 84 6 x.q x.c (x.rs.map Rb.cs)::bw (x.rs.map Rb.bX)::L):=((h1.2.ord [3]).drop).ord [3];exact(h3.imp hW).ord [1,1,1]
theorem eU.Z9 {l:List cw} (h:eU B H aM a x (l++L)):eU B H aM a x (bw l::L):=by
 have h1:=h.s.mW (List.perm_append_comm_assoc [db aM 81 (As a x),Rw 84 6 x.q x.c (x.rs.map Rb.cs),bw (x.rs.map Rb.bX),zl x.q x.w a.eK] l L);exact⟨h.bs,(az.sN h1).ord [1,1,1,1]⟩
theorem Ih (h:az B H (dK aM a::L)) (hi:i<a.bs.length) (p:Nat) {q:Oq} {c:Nat} {d:List UInt8} (hr:lN B (dK aM a::L) q d) (hd:d.length≤1000) (e:Int) (tw:a.aA≤1000) (k:∀H',az B H' (dK aM (fQ a i p d e).1::L)→K (.int .i64 (fQ a i p d e).2) H'):cl 151 [.aj (some (aM,0)),.int .i64 (i:Int),.int .i64 (p:Int),.slice q d.length c,.int .u64 e] H K:=by
 rw[ZE];have hrH:=hr H h;obtain⟨x,hX⟩:=eU.of h;have g:=hX.g;have p0:¬(p:Int)<0:=by omega
 have h9:¬(9:Int)=0:=by decide
 refine DI hX hi (fun ho=> ?_) (fun ho'=> ?_)
 ·have e2:fQ a i p d e=(a,9):=by simp [fQ,ho]
  rw[e2] at k;simp only[AJ,h9];exact k H h
 simp only[AJ,Option.isSome_some,g.i1,g.c1,aQ,p0,Nat.zero_add,cond_true,ite_self];by_cases hp:a.aA≤(p:Int)
 ·have e2:fQ a i p d e=(a,1):=by simp [fQ,ho',hp]
  rw[e2] at k;have Ai:(p:Int)≥a.aA:=hp;simp only[Ai,decide_true,ar];exact k H h
 have Ai:¬(p:Int)≥a.aA:=hp;simp only[Ai,decide_false,ai];by_cases hl:d.length≠96
 ·have e2:fQ a i p d e=(a,3):=by simp [fQ,ho',hp,hl]
  rw[e2] at k;have hl':¬(d.length:Int)=96:=by omega
  simp only[hl',decide_false,Bool.not_false,ar];exact k H h
 have TO:d.length=96:=by omega
 have hl':(d.length:Int)=96:=by omega
 have hbk:a.bs[i]? =some a.bs[i]:=List.getElem?_eq_getElem hi;obtain⟨q',c',g3,g2,g1,_⟩:=hX.pgA hi;have g5:=hX.ck2 hi;simp only[hl',decide_true,Bool.not_true,ai,g2,g3,g5.1,g5.2,AN,ite_self];by_cases hk:p≠(a.bs[i]).pg.length∨(a.bs[i]).cn=true
 ·have e2:fQ a i p d e=(a,6):=by simp only[fQ,ho',hp,hl,hbk,hk,if_true,if_false,Bool.false_eq_true]
  rw[e2] at k
  have e3:(bif !!decide ((p:Int)=((a.bs[i]).pg.length:Int)) then (a.bs[i]).cn else true)=true:=by
   rcases hk with hk|hk
   ·have:¬(p:Int)=((a.bs[i]).pg.length:Int):=by omega
    simp [this]
   ·simp [hk]
  simp only[Bool.not_not] at e3;simp only[Bool.not_not,e3,ar];exact k H h
 have Xj:p=(a.bs[i]).pg.length:=by omega
 have hk2:(a.bs[i]).cn=false:=by simpa using fun hh=>hk (.inr hh)
 have hk3:(p:Int)=((a.bs[i]).pg.length:Int):=by omega
 simp only[hk3,hk2,decide_true,cond_true,ai,g.i2,g.c2,AN];by_cases hf:e<a.aR
 ·have e2:fQ a i p d e=(a,7):=by simp only[fQ,ho',hp,hl,hbk,hk,hf,if_true,if_false,Bool.false_eq_true]
  rw[e2] at k;simp only[hf,decide_true,ar];exact k H h
 simp only[hf,decide_false,ai]
 have e2:fQ a i p d e=if (bA a i a.bs[i]).off=true then ({bA a i a.bs[i] with eK:=.prog i d},9)
  else if (aD a.bs[i]).bn=true then ({bA a i a.bs[i] with bs:=(bA a i a.bs[i]).bs.set i {aD a.bs[i] with pg:=(a.bs[i]).pg++[gY d 0],aP:=true}},8)
  else ({bA a i a.bs[i] with bs:=(bA a i a.bs[i]).bs.set i {aD a.bs[i] with pg:=(a.bs[i]).pg++[d]}},0):=by
  simp only[fQ,ho',hp,hl,hbk,hk,hf,if_false,Bool.false_eq_true]
 rw[e2] at k;clear e2;obtain⟨b,hb⟩:∃b,b=a.bs[i]:=⟨_,rfl⟩;obtain⟨a3,SH⟩:∃a3,a3=bA a i b:=⟨_,rfl⟩;rw[←hb, ←SH] at k;have Qv:i<a3.bs.length:=by rw[SH,fX];exact hi
 have ER:a3.bs[i]=aD b:=by subst SH;exact BD a b hi
 refine kb hX.s hrH (by omega) (fun q2 c2 H2 h2=> ?_);have Hh:d.length≤c2:=(h2.MW).2.2.1;have hX2:eU B H2 aM a x (BY q2 c2 d::L):=⟨hX.bs,h2.ord [1,1,1,1]⟩;simp only[AN];refine FU hX2 hi (fun x3 H3 MN hw3 Qw=> ?_);rw[←hb, ←SH] at Qw⊢;simp only[AN,Bool.not_not];by_cases SI:a3.off=true
 ·rw[if_pos SI] at k;simp only[SI,ar];have hA:=(Qw.alloc 104 [.aj (some (pb x.q,po x.q+i*6))]).alloc 36 [.slice q2 d.length c2]
  have hA2:eU B ((H3.alloc (.cells 104 [.aj (some (pb x.q,po x.q+i*6))] false)).alloc (.cells 36 [.slice q2 d.length c2] false)) aM a3 x3 (bw [db H3.next 104 [.aj (some (pb x.q,po x.q+i*6))],db (H3.next+1) 36 [.slice q2 d.length c2],BY q2 c2 d]::L):=
   eU.Z9 (l:=[db H3.next 104 [.aj (some (pb x.q,po x.q+i*6))],db (H3.next+1) 36 [.slice q2 d.length c2],BY q2 c2 d]) (hA.ord (.swap ..))
  obtain⟨w,hW⟩:=hA2.wayW (.func 156 [.aj (some (H3.next,0)),.aj (some (H3.next+1,0))]) (.prog i d) (fun g hg=>by
   rw[←MN] at hg
   exact⟨(H3.next,H3.next+1),(q2,c2),_,g,lM.empty g,⟨rfl,rfl⟩,hg⟩)
  rw[show (H3.alloc (.cells 104 [.aj (some (pb x.q,po x.q+i*6))] false)).next=H3.next+1 from rfl,w,av];exact k _ hW.to
 ·have WA:a3.off=false:=by simpa using SI
  rw[if_neg SI] at k;simp only[WA,ai];obtain⟨hi',hb',_⟩:=Qw.open Qv;have g3:=Qw.g.b0 hi';rw[hb',ER,bB,MN,hb] at g3;simp only[g3.2.1,g3.2.2,AN];have Ag:(a.bs[i]).pg.length≤1000:=by omega
  by_cases QL:(aD b).bn=true
  ·rw[if_pos QL] at k;simp only[QL,ar]
   have T:∀(K:V→ag→Prop),(∀q' c' H',eU B H' aM a3 x3 (BY q' c' (gY d 0)::L)→K (.slice q' 96 c') H')→cl 157 [.slice q2 d.length c2,.int .i64 0] H3 K:=fun K k=>by
    rw[TO];exact Ru Qw.s (fun H' h'=>(h'.ord [4]).iU) TO (by omega) 0 (fun q' c' H' h'=>k q' c' H' ⟨Qw.bs,(h'.ord [5]).drop.ord [1,1,1,1]⟩)
   have P:∀q' c' H',eU B H' aM a3 x3 (BY q' c' (gY d 0)::L)→aO ej [82,82] [.slice (x3.rs[i]).q (a.bs[i]).pg.length (x3.rs[i]).c,.slice (some (H'.next,0)) 1 1] (H'.alloc (.cells 36 [.slice q' 96 c'] false))
    (fun q n c H'=>ah (H'.wr (pb x.q) (po x.q+i*6) 1) (ah ((H'.store (pb x.q) (po x.q+i*6) [.slice q n c]).wr (pb x.q) (po x.q+i*6+4) 1) (K (.int .i64 8) ((H'.store (pb x.q) (po x.q+i*6) [.slice q n c]).store (pb x.q) (po x.q+i*6+4) [.bool true])))):=by
    intro q' c' H' h';have hp3:(a3.bs[i]).pg.length≤1000:=by rw[ER,bB,hb];exact Ag
    have:=h'.push Qv hp3 (Q:=fun H2=>ah (H2.wr (pb x.q) (po x.q+i*6+4) 1) (K (.int .i64 8) (H2.store (pb x.q) (po x.q+i*6+4) [.bool true]))) (fun x4 H4 hq4 hw4 hX4=> ?_) hi'
    ·rw[ER,bB,hb,nE,TO,MN] at this;exact this
    ·obtain⟨w,x5,hq5,hw5,hX5⟩:=hX4.bcell (i:=i) (by simpa using Qv) (k:=4) (by omega) (by omega) (v:=.bool true) rfl {aD b with pg:=(a.bs[i]).pg++[gY d 0],aP:=true} (by simp [ER,bB,hb]) (by intro q c;simp [ER,bB,hb];rfl);rw[hq4,MN] at w hX5;rw[w,av];refine k _ (eU.to (x:=x5) ?_);simpa [hb] using hX5
   refine⟨T _ (fun q' c' H' h'=> ?_),T _ (fun q' c' H' h'=> ?_)⟩
   ·simp only[AN];exact P q' c' H' h'
   ·have g4:=h'.g.b0 hi';have g5:=(h'.alloc 36 [.slice q' 96 c']).g.b0 hi';rw[hb',ER,bB,MN,hb] at g4 g5;simp only[AN,g4.2.1,g4.2.2,g5.2.1,g5.2.2,and_self];exact P q' c' H' h'
  ·rw[if_neg QL] at k;have WB:(aD b).bn=false:=by simpa using QL
   simp only[WB,ai];have g5:=(Qw.alloc 36 [.slice q2 d.length c2]).g.b0 hi';rw[hb',ER,bB,MN,hb] at g5;simp only[AN,g5.2.1,g5.2.2,and_self];have hp3:(a3.bs[i]).pg.length≤1000:=by rw[ER,bB,hb];exact Ag
   have:=Qw.push Qv hp3 (Q:=fun H2=>K (.int .i64 0) H2) (fun x4 H4 hq4 hw4 hX4=> ?_) hi'
   ·rw[ER,bB,hb,MN] at this;exact this
   ·refine k _ (eU.to (x:=x4) ?_);simpa [ER,bB] using hX4
end
def xq (b:Bk):Bk:={b with pg:=[],cn:=false,er:=rX (b.er+1)}
def ee (a:Ar) (i:Nat) (e:Int):Ar×Int:=
 if a.off=true then (a,9) else if e<a.aR then (a,7) else match a.bs[i]? with
  |none=>(a,1)
  |some b=>
   if (bA a i b).off=true then ({bA a i b with eK:=.er i (aD b).bn},9)
   else if (aD b).bn=true then ({bA a i b with bs:=(bA a i b).bs.set i {aD b with aP:=true}},8)
   else ({bA a i b with bs:=(bA a i b).bs.set i (xq (aD b))},0)
def w7 (a:Ar) (cut:Int):Ar:=match a.eK with
 | .no=>a
 | .any=>a
 | .prog i d=>if cut>0 then match a.bs[i]? with
   |none=>a
   |some b=>{a with bs:=a.bs.set i {b with pg:=b.pg++[gY d cut]}} else a
 | .er i bn=>match a.bs[i]? with
   |none=>a
   |some b=>if 96≤cut∧bn=false then {a with bs:=a.bs.set i (xq b)} else if cut>0 then {a with bs:=a.bs.set i {b with cn:=decide (0<b.pg.length)}} else a
def cG (a:Ar) (cut:Int):Ar:={w7 a cut with eK:=.no,off:=false,bR:=0,aR:=0,boots:=rX (a.boots+1)}
def BE (a:Ar):Prop:=match a.eK with
 | .no=>True
 | .any=>False
 | .prog i d=>d.length=96∧∃h:i<a.bs.length,(a.bs[i]).pg.length≤1000
 | .er i _=>i<a.bs.length
section
variable {B:ag} {L:List cw} {H:ag} {K:V→ag→Prop} {aM:Nat} {a:Ar} {x:Ra} {i:Nat}
theorem acF {id:Nat} {e:TypeId} {v:V} (h:az B H (db id e [v]::L)):H.inb id 0 1=true∧H.cell id 0=v∧H.wr id 0 1=true:=
 ⟨dE h.get 0 1,aZ h.get 0,fF h.get 0 1⟩
theorem eU.b1 {id:Nat} {e:TypeId} {v:V} (h:eU B H aM a x (db id e [v]::L)):H.inb id 0 1=true∧H.cell id 0=v∧H.wr id 0 1=true:=acF h.Z8
theorem Rv {id:Nat} (h:eU B H aM a x (db id 104 [.aj (some (pb x.q,po x.q+i*6))]::L)) (hi:i<a.bs.length) (k:∀x' H',x'.q=x.q→x'.w=x.w→eU B H' aM {a with bs:=a.bs.set i (xq a.bs[i])} x' (db id 104 [.aj (some (pb x.q,po x.q+i*6))]::L)→K (.tuple []) H'):cl 127 [.aj (some (id,0))] H K:=by
 rw[Zp];obtain⟨hi',hb',h1⟩:=h.open hi
 have hN:az B H (pk none 0 []::db aM 81 (As a x)::Rw 84 6 x.q x.c (x.rs.map Rb.cs)::bw ((x.rs.map Rb.bX).eraseIdx i)::zl x.q x.w a.eK::db id 104 [.aj (some (pb x.q,po x.q+i*6))]::L):=
  az.Om (rs:=[]) ((h1.drop.p8).rwNil 36 1)
 obtain⟨w1,x1,hq1,hw1,h2⟩:=eU.close (L:=_) h.bs hi hi' hN;have f0:=h.b1;have f1:=h2.b1;have hi1:i<(a.bs.set i {a.bs[i] with pg:=[]}).length:=by simpa using hi
 obtain⟨w2,x2,QI,hw2,h3⟩:=h2.bcell (i:=i) hi1 (k:=2) (by omega) (by omega) (v:=.bool false) rfl {a.bs[i] with pg:=[],cn:=false} (by simp) (by intro q c;simp;rfl);have f2:=h3.b1;have hi2:i<((a.bs.set i {a.bs[i] with pg:=[]}).set i {a.bs[i] with pg:=[],cn:=false}).length:=by simpa using hi
 have f3:=h3.ck1 hi2;obtain⟨w3,x3,MN,hw3,h4⟩:=h3.bcell (i:=i) hi2 (k:=1) (by omega) (by omega) (v:=.int .i64 (rX ((a.bs[i]).er+1))) rfl (xq a.bs[i]) (by simp [xq]) (by intro q c;simp [xq];rfl);rw[hq1] at w2 h3 f2 f3 w3 h4;rw[QI,hq1] at f3 w3 h4;simp only[List.getElem_set_self] at f3;have l0:([]:List (List UInt8)).length=0:=rfl;rw[l0] at w2 h3 f2 f3 w3 h4 f1;simp only[AJ,f0.1,f0.2.1,w1,f1.1,f1.2.1,w2,Option.isSome_some,and_self];have f3':=f3.1;have ac0:=f3.2;simp only[f2.1,f2.2.1,f3',ac0,AN,Option.isSome_some,w3];refine k x3 _ (by rw[MN,QI,hq1]) (by rw[hw3,hw2,hw1]) ?_;simpa using h4
theorem Ou (h:az B H (dK aM a::L)) (hi:i<a.bs.length) (e:Int) (k:∀H',az B H' (dK aM (ee a i e).1::L)→K (.int .i64 (ee a i e).2) H'):cl 104 [.aj (some (aM,0)),.int .i64 (i:Int),.int .u64 e] H K:=by
 rw[Zf];obtain⟨x,hX⟩:=eU.of h;have h9:¬(9:Int)=0:=by decide
 have hbk:a.bs[i]? =some a.bs[i]:=List.getElem?_eq_getElem hi
 have st:∀(p:Oq) {H0:ag} {a0:Ar} {x0:Ra} {L0:List cw} {e:TypeId} {v0 v:V},eU B H0 aM a0 x0 L0→(H0.alloc (.cells e [v0] false)).wr H0.next 0 1=true∧eU B ((H0.alloc (.cells e [v0] false)).store H0.next 0 [v]) aM a0 x0 (db H0.next e [v]::L0):=by
  intro p H0 a0 x0 L0 e v0 v h0;have h1:=h0.alloc e [v0];have h2:=(h1.s.ord [4]).BA (k:=0) (by show 0<1;omega) v;exact⟨h2.1,h0.bs,az.ord h2.2 [1,1,1,1]⟩
 refine DI hX hi (fun ho=> ?_) (fun ho'=> ?_)
 ·have e2:ee a i e=(a,9):=by simp [ee,ho]
  rw[e2] at k;obtain⟨w,h1⟩:=st none (e:=104) (v0:=.aj none) (v:=.aj none) hX;simp only[AN,h9,w];exact k _ h1.drop.to
 obtain⟨w,h1⟩:=st none (e:=104) (v0:=.aj none) (v:=.aj (some (pb x.q,po x.q+i*6))) hX;obtain⟨pid,SJ⟩:∃p,p=H.next:=⟨_,rfl⟩;simp only[AN,w];generalize (ag.store _ _ _ _)=H1 at h1⊢;rw[←SJ] at h1⊢;have g1:=h1.g;have f1:=h1.b1;simp only[g1.i2,g1.c2,Option.isSome_some,Nat.zero_add,AN];by_cases hf:e<a.aR
 ·have e2:ee a i e=(a,7):=by simp [ee,ho',hf]
  rw[e2] at k;simp only[hf,decide_true,ar];exact k _ h1.drop.to
 have e2:ee a i e=if (bA a i a.bs[i]).off=true then ({bA a i a.bs[i] with eK:=.er i (aD a.bs[i]).bn},9)
  else if (aD a.bs[i]).bn=true then ({bA a i a.bs[i] with bs:=(bA a i a.bs[i]).bs.set i {aD a.bs[i] with aP:=true}},8)
  else ({bA a i a.bs[i] with bs:=(bA a i a.bs[i]).bs.set i (xq (aD a.bs[i]))},0):=by
  simp only[ee,ho',hf,hbk,if_false,Bool.false_eq_true]
 rw[e2] at k;clear e2;obtain⟨b,hb⟩:∃b,b=a.bs[i]:=⟨_,rfl⟩;obtain⟨a3,SH⟩:∃a3,a3=bA a i b:=⟨_,rfl⟩;rw[←hb, ←SH] at k;have Qv:i<a3.bs.length:=by rw[SH,fX];exact hi
 have ER:a3.bs[i]=aD b:=by subst SH;exact BD a b hi
 simp only[hf,decide_false,ai,f1.1,f1.2.1,AN];refine FU h1 hi (fun x3 H3 MN hw3 Qw=> ?_);rw[←hb, ←SH] at Qw⊢;simp only[AN];obtain⟨w4,h4⟩:=st none (e:=4) (v0:=.bool false) (v:=.bool (aD b).bn) Qw;simp only[w4,av];obtain⟨bid,ac1⟩:∃p,p=H3.next:=⟨_,rfl⟩;generalize (ag.store _ _ _ _)=H4 at h4⊢;rw[←ac1] at h4⊢;obtain⟨w5,h5⟩:=st none (e:=1) (v0:=.nilFunc) (v:=.func 127 [.aj (some (pid,0))]) h4;simp only[w5,av];obtain⟨fid,MO⟩:∃p,p=H4.next:=⟨_,rfl⟩;generalize (ag.store _ _ _ _)=H5 at h5⊢;rw[←MO] at h5⊢;by_cases SI:a3.off=true
 ·rw[if_pos SI] at k
  have hA2:eU B H5 aM a3 x3 (bw [db bid 4 [.bool (aD b).bn],db fid 1 [.func 127 [.aj (some (pid,0))]],db pid 104 [.aj (some (pb x.q,po x.q+i*6))]]::L):=
   eU.Z9 (l:=[db bid 4 [.bool (aD b).bn],db fid 1 [.func 127 [.aj (some (pid,0))]],db pid 104 [.aj (some (pb x.q,po x.q+i*6))]]) (h5.ord (.swap ..))
  obtain⟨w,hW⟩:=hA2.wayW (.func 128 [.aj (some (bid,0)),.aj (some (fid,0)),.aj (some (pid,0))]) (.er i (aD b).bn) (fun g hg=>by
   rw[←MN] at hg
   exact⟨(bid,fid,pid),_,g,lM.empty g,⟨rfl,rfl⟩,hg⟩)
  simp only[SI,Bool.not_true,Bool.not_false,ar,w,av];exact k _ hW.to
 have WA:a3.off=false:=by simpa using SI
 rw[if_neg SI] at k;have f5:=h5.drop.b1;have f6:=h5.b1;have f7:=h5.drop.drop.b1;simp only[WA,Bool.not_true,Bool.not_false,ai,f5.1,f5.2.1,AN];by_cases QL:(aD b).bn=true
 ·rw[if_pos QL] at k;obtain⟨w6,x6,hq6,hw6,h6⟩:=h5.bcell (i:=i) Qv (k:=4) (by omega) (by omega) (v:=.bool true) rfl {aD b with aP:=true} (by rw[ER]) (by intro q c;rw[ER];rfl);rw[MN] at w6 h6;simp only[QL,ar,f7.1,f7.2.1,Option.isSome_some,w6,AN];exact k _ (h6.drop.drop.drop).to
 ·rw[if_neg QL] at k;have WB:(aD b).bn=false:=by simpa using QL
  simp only[WB,ai,f6.1,f6.2.1,V.ax,av,Bool.and_self]
  have h7:eU B H5 aM a3 x3 (db pid 104 [.aj (some (pb x3.q,po x3.q+i*6))]::L):=by
   rw[MN];exact h5.drop.drop
  show cl 127 [.aj (some (pid,0))] H5 _
  refine Rv h7 Qv (fun x8 H8 _ _ h8=> ?_);rw[ER] at h8;exact k _ h8.drop.to
end
def fq:Bk:=⟨[],0,false,false,false,0⟩
def zm:Bk:=⟨[],0,false,true,true,0⟩
def rY (bs:List Bk):List Int→List Bk
 |[]=>bs
 |i::l=>rY (bs.set i.toNat zm) l
def AX (n:Nat) (p:Int) (bK:List Int):Ar:={bs:=rY (List.replicate n fq) bK,aA:=p,aR:=0,boots:=0,bR:=0,off:=false,aF:=0,eK:=.no}
theorem BF:∀(l:List Int) (bs:List Bk),(rY bs l).length=bs.length
 |[],_=>rfl
 |i::l,bs=>by rw[rY,BF l,List.length_set]
section
variable {B:ag} {L:List cw} {H:ag} {K:V→ag→Prop} {aM:Nat} {a:Ar} {x:Ra} {i:Nat}
theorem az.FV (h:az B H L):∀n:Nat,az B H (bw (List.replicate n (pk none 0 []))::L)
 |0=>h.p8
 |n+1=>az.mG (az.Om (rs:=[]) (((az.FV h n).p8).rwNil 36 1))
theorem FW (l:List V):∀n:Nat,(List.replicate n l).flatten=dU n l
 |0=>rfl
 |n+1=>by
  rw[List.replicate_succ,List.flatten_cons,FW l n];rfl
theorem Ov {q:Oq} {c n:Nat} {bK:List Int} (hr:FL B L q bK) (hl:bK.length≤1000000) {Kr:Am.St→Prop} {Ke:Nat→Am.St→Prop}:∀(k j:Nat) (a:Ar) {x:Ra} {H:ag},j+k=bK.length→a.bs.length=n→(∀b∈a.bs,b=fq∨b=zm)→eU B H aM a x L→((∃i∈bK.drop j,i<0∨(n:Int)≤i)→∀H',az B H' L→Kr (St.mk (ab [(6,T.v (V.aj none)),(7,T.v (V.int .i64 1))]) (ab []) H'))→((∀i∈bK.drop j,0≤i∧i<(n:Int))→∀H' x',eU B H' aM {a with bs:=rY a.bs (bK.drop j)} x' L→Ke 0 (St.mk (ab [(8,T.v (V.aj (some (aM,0))))]) (ab []) H'))→lo 12 6 (St.mk (ab [(0,T.v (V.int .i64 (n:Int))),(8,T.v (V.aj (some (aM,0)))),(30,T.v (V.slice q bK.length c)),(31,T.v (V.int .i64 (bK.length:Int))),(32,T.v (V.int .i64 (j:Int)))]) (ab []) H) Kr Ke
 |0,j,a,x,H,hj,hn,hp,h,k1,k2=>by
  obtain rfl:j=bK.length:=by omega
  rw[NM,decide_eq_false (by omega),ai];rw[List.drop_length] at k2;exact k2 (by simp) H x h
 |k+1,j,a,x,H,hj,hn,hp,h,k1,k2=>by
  have hlt:j<bK.length:=by omega
  obtain⟨g1,g2,g3⟩:=(hr H h.Z8).at hlt;have a1:(j:Int)<(bK.length:Int):=by omega
  have a2:0≤(j:Int):=by omega
  rw[List.drop_eq_getElem_cons hlt] at k1 k2;rw[NM];simp only[AN,a1,a2,Int.toNat_natCast,g1,g2,g3];by_cases hb:bK[j]<0∨(n:Int)≤bK[j]
  ·have e:(bif !decide (bK[j]<0) then decide (bK[j]≥(n:Int)) else true)=true:=by
    rcases hb with hb|hb
    ·simp [hb]
    ·have:bK[j]≥(n:Int):=hb;simp [this]
   rw[e,ar];exact k1 ⟨_,List.mem_cons_self,hb⟩ H h.Z8
  ·obtain⟨b1,b2⟩:¬bK[j]<0∧¬(n:Int)≤bK[j]:=by omega
   have b2':¬bK[j]≥(n:Int):=b2;have b3:0≤bK[j]:=by omega
   have b4:bK[j]<(n:Int):=by omega
   have hi:bK[j].toNat<a.bs.length:=by omega
   have hp0:=hp _ (List.getElem_mem hi);have g:=h.g;have hx:=h.len;have b5:bK[j]<(x.rs.length:Int):=by omega
   obtain⟨s1,_⟩:=h.c0 hi;obtain⟨w1,x1,q1,e1,h1⟩:=h.bcell hi (k:=3) (by omega) (by omega) (v:=.bool true) rfl {a.bs[bK[j].toNat] with bn:=true} rfl (fun _ _=>rfl);have hi1:bK[j].toNat<(a.bs.set bK[j].toNat {a.bs[bK[j].toNat] with bn:=true}).length:=by simpa using hi
   obtain⟨w2,x2,q2,e2,h2⟩:=h1.bcell hi1 (k:=4) (by omega) (by omega) (v:=.bool true) rfl {a.bs[bK[j].toNat] with bn:=true,aP:=true} (by simp) (fun _ _=>by simp;rfl);rw[q1] at w2 h2;simp only[b1,b2',b3,b5,decide_false,Bool.not_false,cond_true,ai,Option.isSome_some,g.i0,g.c0,s1,w1,w2,AN];rw[aK (by omega)]
   have eb:({a.bs[bK[j].toNat] with bn:=true,aP:=true}:Bk)=zm:=by
    rcases hp0 with hp0|hp0<;>rw[hp0]<;>rfl
   rw[eb,List.set_set] at h2;refine Ov hr hl k (j+1) {a with bs:=a.bs.set bK[j].toNat zm} (by omega) (by rw[List.length_set];exact hn) (fun b hb'=> ?_) h2 (fun he=>k1 ?_) (fun hall H' x' h'=> ?_)
   ·rcases List.mem_or_eq_of_mem_set hb' with hb'|hb'
    ·exact hp b hb'
    ·exact .inr hb'
   ·obtain⟨z,EA,xY⟩:=he;exact⟨z,List.mem_cons_of_mem _ EA,xY⟩
   ·exact k2 (fun z hz=>by
     rcases List.mem_cons.1 hz with rfl|hz
     ·omega
     ·exact hall z hz) H' x' h'
theorem Ow (h:az B H L) (b p:Int) {q:Oq} {c:Nat} {bK:List Int} (hr:FL B L q bK) (hl:bK.length≤1000000) (k1:¬(1≤b∧b≤64∧1≤p∧p≤32∧∀i∈bK,0≤i∧i<b)→∀H',az B H' L→K (.tuple [.aj none,.int .i64 1]) H') (k2:(1≤b∧b≤64∧1≤p∧p≤32∧∀i∈bK,0≤i∧i<b)→∀aM H',az B H' (dK aM (AX b.toNat p bK)::L)→K (.tuple [.aj (some (aM,0)),.int .i64 0]) H'):cl 12 [.int .i64 b,.int .i64 p,.slice q bK.length c] H K:=by
 rw[abi];by_cases hn:1≤b∧b≤64∧1≤p∧p≤32
 ·obtain⟨h1,h2,h3,h4⟩:=hn;have b1:¬b<1:=by omega
  have b2:¬b>64:=by omega
  have b3:¬p<1:=by omega
  have b4:¬p>32:=by omega
  have b5:0≤b:=by omega
  have b6:b*49≤70368744177664:=by omega
  have b7:b≤b:=by omega
  simp only[b1,b2,b3,b4,b5,b6,b7,decide_false,decide_true,Bool.not_false,cond_true,ai,Bool.and_self,av,oU];obtain⟨n,rfl⟩:∃n:Nat,b=(n:Int):=⟨b.toNat,by omega⟩;rw[Int.toNat_natCast] at*;have hA:=h.alloc 84 (dU n (Tb none 0 0 0 false false false 0))
  have hrow:az B (H.alloc (.cells 84 (dU n (Tb none 0 0 0 false false false 0)) false)) (Rw 84 6 (some (H.next,0)) n ((List.replicate n (Rb.mk fq none 0)).map Rb.cs)::L):=by
   have e:(List.replicate n (Rb.mk fq none 0)).map Rb.cs=List.replicate n (Tb none 0 0 0 false false false 0):=by rw[List.map_replicate];rfl
   rw[e];have hlen:(dU n (Tb none 0 0 0 false false false 0)).length=n*6:=by rw[dU,gg];rfl
   unfold Rw;rw[FW,List.length_replicate];exact hA.unbuf hlen (gF (fun v hv=>by simp only[Tb,List.mem_cons,List.not_mem_nil,or_false] at hv;rcases hv with rfl|rfl|rfl|rfl|rfl|rfl<;>rfl) _) (by omega) (by rw[hlen];omega) (by rw[List.drop_zero,List.take_length])
  generalize ag.alloc H _=H1 at hrow⊢;have hB:=hrow.alloc 81 (c80 (some (H.next,0)) n n p 0 0 0 false 0 .nilFunc);obtain⟨aM,aaC⟩:∃z,z=H1.next:=⟨_,rfl⟩;generalize ag.alloc H1 _=H2 at hB⊢;rw[←aaC] at hB;have hN:H1.2=aM:=aaC.symm;rw[hN]
  have hX:eU B H2 aM {bs:=List.replicate n fq,aA:=p,aR:=0,boots:=0,bR:=0,off:=false,aF:=0,eK:=.no} ⟨.nilFunc,some (H.next,0),n,List.replicate n (Rb.mk fq none 0)⟩ L:=by
   refine⟨by simp, ?_⟩;have h3:=(az.pure (p:=V.nilFunc=V.nilFunc) hB rfl);have h4:=az.FV h3 n;have e1:(List.replicate n (Rb.mk fq none 0)).map Rb.bX=List.replicate n (pk none 0 []):=by rw[List.map_replicate];rfl
   have h5:=h4.ord [2,2,0,0];show az B H2 (db aM 81 (c80 (some (H.next,0)) (List.replicate n (Rb.mk fq none 0)).length n p 0 0 0 false 0 .nilFunc)::_::bw ((List.replicate n (Rb.mk fq none 0)).map Rb.bX)::_)
   rw[e1,List.length_replicate];exact h5
  refine Ov hr hl bK.length 0 _ (by omega) (by simp) (fun b hb=>.inl (List.eq_of_mem_replicate hb)) hX (fun he H' h'=> ?_) (fun ha H' x' h'=> ?_)
  ·simp only[AN,reduceIte,Nat.reduceEqDiff];refine k1 (fun hh=> ?_) H' h';obtain⟨z,EA,xY⟩:=he;have:=hh.2.2.2.2 z EA;omega
  ·simp only[AN,reduceIte];exact k2 ⟨h1,h2,h3,h4,ha⟩ aM H' h'.to
 ·have e:(bif !decide (b<1) then bif !decide (b>64) then bif !decide (p<1) then decide (p>32) else true else true else true)=true:=by
   by_cases b1:b<1
   ·simp [b1]
   by_cases b2:b>64
   ·simp [b1,b2]
   by_cases b3:p<1
   ·simp [b1,b2,b3]
   have b4:p>32:=by omega
   simp [b1,b2,b3,b4]
  rw[e,ar];exact k1 (fun hh=>hn ⟨hh.1,hh.2.1,hh.2.2.1,hh.2.2.2.1⟩) H h
end
section
variable {B:ag} {L:List cw} {H:ag} {K:V→ag→Prop} {q:Oq} {cap:Nat} {bs:List UInt8}
theorem Ox (n size:Nat) (hs:size≤8) (bs:List UInt8) (hb:bs.length+size≤1000000000) {Kr:Am.St→Prop} {Ke:Nat→Am.St→Prop}:∀(k i:Nat) {q:Oq} {cap:Nat} {H:ag},i+k=size→az B H (BY q cap (bs++le n i)::L)→(∀q' c' H',az B H' (BY q' c' (bs++le n size)::L)→Ke 0 (St.mk (ab [(0,T.v (V.slice q' (bs++le n size).length c'))]) (ab []) H'))→lo 119 2 (St.mk (ab [(0,T.v (V.slice q (bs++le n i).length cap)),(1,T.v (V.int .u64 (n:Int))),(8,T.v (V.int .i64 (size:Int))),(9,T.v (V.int .i64 (i:Int)))]) (ab []) H) Kr Ke
 |0,i,q,cap,H,hi,h,hk=>by
  obtain rfl:i=size:=by omega
  rw[JB];(try simp only[NQ]);have e1:decide ((i:Int)<(i:Int))=false:=by simp
  rw[e1,ai];exact hk _ _ _ h
 |k+1,i,q,cap,H,hi,h,hk=>by
  rw[JB];(try simp only[NQ]);have e1:decide ((i:Int)<(size:Int))=true:=by simp;omega
  rw[e1,ar,FE (by omega),av,N9 n (by omega)];refine FH h _ (by simp;omega) (fun q' c' H' h'=> ?_);rw[aK (by omega)];rw[List.append_assoc, ←JJ] at h'⊢;exact Ox n size hs bs hb k (i+1) (by omega) h' hk
theorem eJ (n size:Nat) (h:az B H (BY q cap bs::L)) (hs:size≤8) (hb:bs.length+size≤1000000000) (k:∀q' c' H',az B H' (BY q' c' (bs++le n size)::L)→K (.slice q' (bs++le n size).length c') H'):cl 119 [.slice q bs.length cap,.int .u64 (n:Int),.int .i64 (size:Int)] H K:=by
 rw[ZL];(try simp only[NQ])
 have:=Ox (B:=B) (L:=L) n size hs bs hb (Kr:=fun _=>False) (Ke:=fun j S'=>br (Nat.beq j 0) (ah (aB (KT.k cq.slice) (S'.1 0)||false||false) (K (V.slice (V.au (T.val (S'.1 0))) (V.aw (T.val (S'.1 0))) (V.aC (T.val (S'.1 0)))) S'.3)) False)
  size 0 (q:=q) (cap:=cap) (H:=H) (by omega) (by simpa [le] using h) (fun q' c' H' h'=>by simpa [AK,reduceIte,Nat.reduceEqDiff] using k q' c' H' h')
 simpa [le] using this
theorem Oy (hr:mn H q bs) (hb:bs.length≤8) {Kr:Am.St→Prop} {Ke:Nat→Am.St→Prop}:∀(k i:Nat),i+k=bs.length→lo 107 3 (St.mk (ab [(3,T.v (V.int .u64 (dH (bs.take i):Nat))),(6,T.v (V.slice q bs.length cap)),(7,T.v (V.int .i64 (bs.length:Int))),(8,T.v (V.int .i64 (i:Int)))]) (ab []) H) Kr Ke=Ke 0 (St.mk (ab [(3,T.v (V.int .u64 (dH bs:Nat)))]) (ab []) H)
 |0,i,hi=>by
  obtain rfl:i=bs.length:=by omega
  rw[JC];(try simp only[NQ]);rw[List.take_length];have e1:decide ((bs.length:Int)<(bs.length:Int))=false:=by simp
  rw[e1,ai]
 |k+1,i,hi=>by
  have hlt:i<bs.length:=by omega
  obtain⟨h1,h2,h3⟩:=hr.at hlt;rw[JC];(try simp only[NQ]);have e1:decide ((i:Int)<(bs.length:Int))=true:=by simp;omega
  have e2:decide (0≤(i:Int))=true:=by simp
  have e3:0+((i:Int)).toNat*1=i:=by simp
  have e4:(i:Int).toNat*1=i:=by simp
  rw[e1,ar,e2,h1,e4,h2,h3];simp only[Bool.and_self,av,cL,aV];rw[FE (by omega),av,aK (by omega),Oc (Nat.lt_of_lt_of_le (xK _) (by rw[List.length_take];exact Nat.pow_le_pow_right (by omega) (by omega))) bs[i].toNat_lt (by omega)]
  have e5:dH (bs.take i)+bs[i].toNat*256 ^ i=dH (bs.take (i+1)):=by
   rw[List.take_succ_eq_append_getElem hlt,p6];simp [dH,Nat.mul_comm];rw[Nat.min_eq_left (by omega)]
  rw[e5];exact Oy hr hb k (i+1) (by omega)
theorem BG (hr:mn H q bs) (hb:bs.length≤8):cl 107 [.slice q bs.length cap] H K=K (.int .u64 (dH bs:Nat)) H:=by
 rw[ZM];(try simp only[NQ]);have:=Oy (cap:=cap) hr hb (Kr:=fun _=>False) (Ke:=fun j S'=>br (Nat.beq j 0) (ah (aB (KT.k (cq.int IntKind.u64)) (S'.1 3)||false||false) (K (V.int IntKind.u64 (V.aa (T.val (S'.1 3)))) S'.3)) False) bs.length 0 (by omega);simp only[List.take_zero,dH] at this;refine this.trans ?_;simp [AM,reduceIte]
end
structure RS where
 bs:List UInt8
 bK:Bool
def RS.take (s:RS) (n:Nat):List UInt8×RS:=
 if s.bK=true∨s.bs.length<n then ([],⟨s.bs,true⟩) else (s.bs.take n,⟨s.bs.drop n,false⟩)
def RS.num (s:RS) (size most:Nat):Nat×RS:=
 if dH (s.take size).1>most then (0,⟨(s.take size).2.bs,true⟩) else (dH (s.take size).1,(s.take size).2)
structure nF (B H:ag) (L:List cw) (id:Nat) (s:RS):Prop where
 ex:∃q c,s.bs.length≤c∧lN B L q s.bs∧az B H (db id 182 (AU q s.bs.length c s.bK)::L)
section
variable {B:ag} {L:List cw} {H:ag} {K:V→ag→Prop} {q:Oq} {cap:Nat} {bs:List UInt8} {id:Nat} {s:RS}
theorem JT (h:az B H L) (hr:lN B L q bs) (hc:bs.length≤cap) (k:∀id H',nF B H' L id ⟨bs,false⟩→K (.aj (some (id,0))) H'):cl 71 [.slice q bs.length cap] H K:=by
 rw[ab3];(try simp only[NQ]);exact k _ _ ⟨q,cap,hc,hr,h.alloc _ _⟩
theorem FX (h:nF B H L id s) (n:Nat) (k:∀q' c' H',nF B H' L id (s.take n).2→lN B L q' (s.take n).1→(s.take n).1.length≤c'→K (.slice q' (s.take n).1.length c') H'):cl 108 [.aj (some (id,0)),.int .i64 (n:Int)] H K:=by
 obtain⟨q,c,hc,hr,hs⟩:=h.ex;have hg:=hs.get;rw[ZN];(try simp only[NQ]);simp only[AM,Option.isSome_some,dE hg,aZ hg,fF hg,aQ,Nat.zero_add];unfold RS.take at k;by_cases hb:s.bK=true∨s.bs.length<n
 ·rw[if_pos hb] at k
  have e:(bif !s.bK then decide ((n:Int)>(s.bs.length:Int)) else true)=true:=by
   rcases hb with hb|hb
   ·rw[hb];rfl
   ·cases s.bK
    ·simp;omega
    ·rfl
  have h2:az B (H.store id 1 [.bool true]) (db id 182 (AU q s.bs.length c true)::L):=hs.store;have:=k none 0 _ ⟨q,c,hc,hr,h2⟩ (lN.nil _ _ _) (by simp);have e2:(s.bK||decide (s.bs.length<n))=true:=by simpa using hb
  simpa [AU,ae,e2,AK,reduceIte,Nat.reduceEqDiff] using this
 ·rw[if_neg hb] at k;have Ah:s.bK=false:=by cases h:s.bK<;>simp_all
  have m7:n≤s.bs.length:=by omega
  have h2:az B (H.store id 0 [.slice (bP q n) (s.bs.length-n) (c-n)]) (db id 182 (AU (bP q n) (s.bs.length-n) (c-n) s.bK)::L):=hs.store;have h3:=hr.part n (s.bs.length-n) (by omega);have h4:=hr.part 0 n (by omega);rw[List.drop_zero,gK] at h4;have e3:((s.bs.drop n).take (s.bs.length-n))=s.bs.drop n:=List.take_of_length_le (by simp);rw[e3] at h3;have hl:(s.bs.take n).length=n:=by simp;omega
  have:=k q n _ ⟨bP q n,c-n,by simp;omega,h3,by simpa [Ah] using h2⟩ h4 (by simp;omega);have e5:¬(n:Int)>(s.bs.length:Int):=by omega
  have e6:(n:Int)≤(c:Int):=by omega
  have e7:(n:Int)≤(s.bs.length:Int):=by omega
  rw[hl] at this;simpa [AU,ae,Ah,e5,e6,e7,hc,AK,reduceIte,Nat.reduceEqDiff] using this
theorem kH (h:nF B H L id s) (size most:Nat) (hs:size≤8) (k:∀H',nF B H' L id (s.num size most).2→K (.int .u64 ((s.num size most).1:Nat)) H'):cl 72 [.aj (some (id,0)),.int .i64 (size:Int),.int .u64 (most:Int)] H K:=by
 rw[ab4];(try simp only[NQ]);rw[Option.isNone_some,ai];refine FX h size (fun q' c' H' h' hr' tq=> ?_);have hl:(s.take size).1.length≤8:=by unfold RS.take;split<;>simp;omega
 obtain⟨q2,c2,Hh,xC,nY⟩:=h'.ex;simp only[AM];rw[BG (hr' H' nY.drop) hl];simp only[AM];unfold RS.num at k;by_cases hm:dH (s.take size).1>most
 ·rw[if_pos hm] at k;have hg:=nY.get;have h3:az B (H'.store id 1 [.bool true]) (db id 182 (AU q2 (s.take size).2.bs.length c2 true)::L):=nY.store;have:=k _ ⟨q2,c2,Hh,xC,h3⟩;have e1:((dH (s.take size).1:Nat):Int)>(most:Int):=by omega
  simpa [e1,fF hg,AU] using this
 ·rw[if_neg hm] at k;have e1:¬((dH (s.take size).1:Nat):Int)>(most:Int):=by omega
  have:=k _ h';simpa [e1] using this
theorem VH (h:nF B H L id s):cl 73 [.aj (some (id,0))] H K=K (.bool (!s.bK&&decide (s.bs=[]))) H:=by
 obtain⟨q,c,hc,hr,hs⟩:=h.ex;have hg:=hs.get;rw[ab5];(try simp only[NQ]);simp only[AM,reduceIte,Option.isSome_some,Option.isNone_some,dE hg,aZ hg,aQ,Nat.zero_add]
 have e:decide ((s.bs.length:Int)=0)=decide (s.bs=[]):=by
  cases s.bs
  ·simp
  ·simp;omega
 simp only[AU,dJ,gh,bV,aN];simp [AM]
end
theorem kc {bs:List UInt8} {size most:Nat} (h1:size≤bs.length) (h2:dH (bs.take size)≤most):(RS.mk bs false).num size most=(dH (bs.take size),⟨bs.drop size,false⟩):=by
 have:¬bs.length<size:=by omega
 simp [RS.num,RS.take,this];omega
theorem uG {bs:List UInt8} {size most:Nat} (h1:size≤bs.length) (h2:dH (bs.take size)>most):(RS.mk bs false).num size most=(0,⟨bs.drop size,true⟩):=by
 have:¬bs.length<size:=by omega
 simp [RS.num,RS.take,this];omega
theorem LA {bs:List UInt8} {size most:Nat} (h1:bs.length<size):(RS.mk bs false).num size most=(0,⟨bs,true⟩):=by
 simp [RS.num,RS.take,h1,dH]
theorem uH {s:RS} {size most:Nat} (h:s.bK=true):(s.num size most).2.bK=true:=by
 simp [RS.num,RS.take,h,dH]
theorem iF {s:RS} {size most:Nat} (h:(s.num size most).2.bK=false):s.bK=false∧size≤s.bs.length∧dH (s.bs.take size)≤most∧s.num size most=(dH (s.bs.take size),⟨s.bs.drop size,false⟩):=by
 obtain⟨bs,bK⟩:=s
 have hb:bK=false:=by
  cases bK
  ·rfl
  ·rw[uH rfl] at h;cases h
 subst hb;by_cases h1:size≤bs.length
 ·by_cases h2:dH (bs.take size)≤most
  ·exact⟨rfl,h1,h2,kc h1 h2⟩
  ·rw[uG h1 (by omega)] at h;cases h
 ·rw[LA (by omega)] at h;cases h
def DJ (c:BitVec 32):BitVec 32:=(c >>> 1) ^^^ (3988292384#32 &&& (0#32-(c &&& 1#32)))
def VI:Nat→BitVec 32→BitVec 32
 |0,c=>c
 |n+1,c=>VI n (DJ c)
def JU (c:BitVec 32) (b:UInt8):BitVec 32:=VI 8 (c ^^^ BitVec.ofNat 32 b.toNat)
def Oz:List UInt8→BitVec 32→BitVec 32
 |[],c=>c
 |b::l,c=>Oz l (JU c b)
def sQ (bs:List UInt8):Nat:=(4294967295#32 ^^^ Oz bs 4294967295#32).toNat
theorem DK (bs:List UInt8):sQ bs<4294967296:=BitVec.isLt _
theorem sR (x:Int):IntKind.u32.wrap x=((BitVec.ofInt 32 x).toNat:Int):=by
 rw[IntKind.wrap_u32,BitVec.toNat_ofInt];omega
theorem qf (c:BitVec 32):BitVec.ofInt 32 (c.toNat:Int)=c:=by
 apply BitVec.eq_of_toNat_eq;rw[BitVec.toNat_ofInt];have:=c.isLt;omega
theorem Ii (c:BitVec 32):IntKind.u32.wrap ((BitVec.toNat (BitVec.ofInt 32 (Int.fdiv (c.toNat:Int) 2) ^^^ BitVec.ofInt 32 (IntKind.u32.wrap ((BitVec.toNat (BitVec.ofInt 32 3988292384 &&& BitVec.ofInt 32 (IntKind.u32.wrap (0-IntKind.u32.wrap ((BitVec.toNat (BitVec.ofInt 32 (c.toNat:Int) &&& BitVec.ofInt 32 1):Nat):Int)))):Nat):Int))):Nat):Int)=((DJ c).toNat:Int):=by
 have e1:BitVec.ofInt 32 (Int.fdiv (c.toNat:Int) 2)=c >>> 1:=by
  apply BitVec.eq_of_toNat_eq;rw[BitVec.toNat_ofInt,BitVec.toNat_ushiftRight,Nat.shiftRight_eq_div_pow,Int.fdiv_eq_ediv_of_nonneg _ (by omega)];have:=c.isLt;omega
 have e2:∀y:BitVec 32,BitVec.ofInt 32 (0-(y.toNat:Int))=0#32-y:=by
  intro y;apply BitVec.eq_of_toNat_eq;rw[BitVec.toNat_ofInt,BitVec.toNat_sub];have:=y.isLt;simp only[BitVec.toNat_ofNat];omega
 have e3:BitVec.ofInt 32 1=1#32:=rfl;have e4:BitVec.ofInt 32 3988292384=3988292384#32:=rfl;rw[sR,sR ((BitVec.toNat (BitVec.ofInt 32 3988292384 &&& _):Nat):Int),sR (0-_),sR ((BitVec.toNat (BitVec.ofInt 32 (c.toNat:Int) &&& BitVec.ofInt 32 1):Nat):Int)];simp only[qf,e1,e2,e3,e4];rfl
section
variable {B:ag} {L:List cw} {H:ag} {K:V→ag→Prop} {q:Oq} {cap:Nat} {bs:List UInt8}
theorem JV {Kr:Am.St→Prop} {Ke:Nat→Am.St→Prop} {n i:Int}:∀(k j:Nat) (c:BitVec 32),j+k=8→Ke 2 (St.mk (ab [(3,T.v (V.int .u32 ((VI k c).toNat:Int))),(6,T.v (V.slice q bs.length cap)),(7,T.v (V.int .i64 n)),(8,T.v (V.int .i64 i))]) (ab []) H)→lo 143 9 (St.mk (ab [(3,T.v (V.int .u32 (c.toNat:Int))),(6,T.v (V.slice q bs.length cap)),(7,T.v (V.int .i64 n)),(8,T.v (V.int .i64 i)),(16,T.v (V.int .i64 (j:Int)))]) (ab []) H) Kr Ke
 |0,j,c,hj,hk=>by
  obtain rfl:j=8:=by omega
  rw[Jy];exact hk
 |k+1,j,c,hj,hk=>by
  rw[Jy,decide_eq_true (by omega),ar,aK (by omega),Ii];exact JV k (j+1) (DJ c) (by omega) hk
theorem OA (hr:mn H q bs) (hb:bs.length≤1000000) {Kr:Am.St→Prop} {Ke:Nat→Am.St→Prop}:∀(k i:Nat) (c:BitVec 32),i+k=bs.length→Ke 0 (St.mk (ab [(3,T.v (V.int .u32 ((Oz (bs.drop i) c).toNat:Int)))]) (ab []) H)→lo 143 3 (St.mk (ab [(3,T.v (V.int .u32 (c.toNat:Int))),(6,T.v (V.slice q bs.length cap)),(7,T.v (V.int .i64 (bs.length:Int))),(8,T.v (V.int .i64 (i:Int)))]) (ab []) H) Kr Ke
 |0,i,c,hi,hk=>by
  obtain rfl:i=bs.length:=by omega
  rw[List.drop_length] at hk;rw[Jx,decide_eq_false (by omega),ai];exact hk
 |k+1,i,c,hi,hk=>by
  have hlt:i<bs.length:=by omega
  obtain⟨h1,h2,h3⟩:=hr.at hlt;have Cz:H.inb (pb q) (po q+i*1) 1=true:=by rw[Nat.mul_one];exact h2
  have TG:H.cell (pb q) (po q+i*1)=.int .u8 (bs[i].toNat:Int):=by rw[Nat.mul_one];exact h3
  have a1:(i:Int)<(bs.length:Int):=by omega
  have a2:0≤(i:Int):=by omega
  rw[List.drop_eq_getElem_cons hlt,Oz] at hk;rw[Jx];simp only[AN,a1,a2,Int.toNat_natCast,h1,Cz,TG]
  have e:IntKind.u32.wrap ((BitVec.toNat (BitVec.ofInt 32 (c.toNat:Int) ^^^ BitVec.ofInt 32 (IntKind.u32.wrap (bs[i].toNat:Int))):Nat):Int)=((c ^^^ BitVec.ofNat 32 bs[i].toNat).toNat:Int):=by
   have e1:BitVec.ofInt 32 ((bs[i].toNat:Nat):Int)=BitVec.ofNat 32 bs[i].toNat:=rfl;rw[sR,sR ((bs[i].toNat:Nat):Int)];simp only[qf,e1]
  rw[e];refine JV 8 0 _ (by omega) ?_;simp only[AN,reduceIte,Nat.reduceEqDiff];rw[aK (by omega)];exact OA hr hb k (i+1) (JU c bs[i]) (by omega) hk
theorem OB (hr:mn H q bs) (hb:bs.length≤1000000):K (.int .u32 (sQ bs:Int)) H→cl 143 [.slice q bs.length cap] H K:=by
 intro k;rw[Zy];refine OA hr hb bs.length 0 4294967295#32 (by omega) ?_;rw[List.drop_zero]
 have e:IntKind.u32.wrap ((BitVec.toNat (BitVec.ofInt 32 4294967295 ^^^ BitVec.ofInt 32 ((Oz bs 4294967295#32).toNat:Int)):Nat):Int)=(sQ bs:Int):=by
  rw[sR];simp only[qf];rfl
 simp only[AN,reduceIte,e];exact k
def zn (bs:List UInt8):List UInt8:=bs++le (sQ bs) 4
theorem Rx (h:az B H L) (hr:lN B L q bs) (hb:bs.length≤100000) (k:∀q' c' H',az B H' (BY q' c' (zn bs)::L)→K (.slice q' (zn bs).length c') H'):cl 145 [.slice q bs.length cap] H K:=by
 rw[ZA];refine kb h (hr H h) (by omega) (fun q1 c1 H1 h1=> ?_);simp only[AN];refine OB (hr.bO _ H1 h1) (by omega) ?_;simp only[AN];rw[cM (by have:=DK bs;omega)];refine eJ (sQ bs) 4 h1 (by omega) (by omega) (fun q2 c2 H2 h2=> ?_);simp only[AN];exact k q2 c2 H2 h2
def nG (p:List UInt8):Option (List UInt8):=if 4≤p.length∧dH (p.drop (p.length-4))=sQ (p.take (p.length-4)) then some (p.take (p.length-4)) else none
theorem Ry {p:List UInt8} (h:az B H L) (hr:lN B L q p) (hb:p.length≤100000) (hc:p.length≤cap) (k1:nG p=none→K (.tuple [.slice none 0 0,.int .i64 (if p.length<4 then 3 else 4)]) H) (k2:∀b,nG p=some b→∀q' c' H',az B H' (BY q' c' b::L)→K (.tuple [.slice q' b.length c',.int .i64 0]) H'):cl 129 [.slice q p.length cap] H K:=by
 rw[Zq,bj (by omega) (by omega)];by_cases h4:p.length<4
 ·have e:nG p=none:=by unfold nG;rw[if_neg (by omega)]
  have SK:=k1 e;rw[if_pos h4] at SK;have a1:(p.length:Int)-4<0:=by omega
  simp only[a1,decide_true,ar];exact SK
 ·obtain⟨n,hn⟩:∃n:Nat,n=p.length-4:=⟨_,rfl⟩;have a0:(p.length:Int)-4=(n:Int):=by omega
  have a1:¬(n:Int)<0:=by omega
  have a2:0≤(n:Int):=by omega
  have a3:(n:Int)≤(p.length:Int):=by omega
  have a4:(n:Int)≤(cap:Int):=by omega
  have a5:n≤cap:=by omega
  rw[a0];simp only[AN,a1,a2,a3,a4,a5,hc,Int.toNat_natCast,Nat.mul_one]
  have wz:mn H (bP q n) (p.drop n):=by
   have:=(hr H h).part n (p.length-n) (by omega)
   rwa [List.take_of_length_le (by rw[List.length_drop];omega)] at this
  have xC:lN B L (bP q 0) (p.take n):=by
   have:=hr.part 0 n (by omega);simpa using this
  have TO:p.length-n=(p.drop n).length:=by rw[List.length_drop]
  have Hk:n-0=(p.take n).length:=by rw[List.length_take];omega
  rw[TO,BG wz (by rw[List.length_drop];omega)];simp only[AN];rw[Hk];refine OB (xC H h) (by omega) ?_;simp only[AN];have hw:IntKind.u64.wrap ((sQ (p.take n):Nat):Int)=((sQ (p.take n):Nat):Int):=cM (by have:=DK (p.take n);omega);by_cases he:dH (p.drop n)=sQ (p.take n)
  ·have e:nG p=some (p.take n):=by unfold nG;rw[if_pos ⟨by omega,by rw[←hn];exact he⟩, ←hn]
   have he':((dH (p.drop n):Nat):Int)=IntKind.u64.wrap ((sQ (p.take n):Nat):Int):=by rw[hw];omega
   simp only[he',AN];refine kb h (xC H h) (by omega) (fun q1 c1 H1 h1=> ?_);simp only[AN];exact k2 _ e q1 c1 H1 h1
  ·have e:nG p=none:=by unfold nG;rw[if_neg (fun hh=>he (by rw[hn];exact hh.2))]
   have SK:=k1 e;rw[if_neg h4] at SK;have he':¬((dH (p.drop n):Nat):Int)=IntKind.u64.wrap ((sQ (p.take n):Nat):Int):=by rw[hw];omega
   simp only[he',decide_false,Bool.not_false,ar];exact SK
end
structure Sh where
 cU:Nat
 ep:Nat
 seq:Nat
 an:Nat
 fr:Nat
 data:List UInt8
 deriving DecidableEq
structure Sh.cZ (s:Sh):Prop where
 k1:1≤s.cU
 k3:s.cU≤3
 ep:s.ep<281474976710656
 seq:s.seq<281474976710656
 an:s.an<65536
 fr:s.fr≤64
 dl:s.data.length≤64
 d0:s.cU=1∨s.data.length=0
instance (s:Sh):Decidable s.cZ:=
 if h:1≤s.cU∧s.cU≤3∧s.ep<281474976710656∧s.seq<281474976710656∧s.an<65536∧s.fr≤64∧s.data.length≤64∧(s.cU=1∨s.data.length=0) then
  .isTrue ⟨h.1,h.2.1,h.2.2.1,h.2.2.2.1,h.2.2.2.2.1,h.2.2.2.2.2.1,h.2.2.2.2.2.2.1,h.2.2.2.2.2.2.2⟩
 else .isFalse fun f=>h ⟨f.k1,f.k3,f.ep,f.seq,f.an,f.fr,f.dl,f.d0⟩
def gj (s:Sh):List UInt8:=((((([]++le s.cU 1)++le s.ep 6)++le s.seq 6)++le s.an 2)++le s.fr 1)++le s.data.length 2++s.data
def eu (s:Sh):List UInt8:=zn (gj s++List.replicate (91-(gj s).length) 0)++[90]
theorem vO (s:Sh):(gj s).length=18+s.data.length:=by simp [gj];omega
theorem lQ (s:Sh) (h:s.data.length≤64):(eu s).length=96:=by simp [eu,zn,vO];omega
structure Rd6 where
 k:Nat×RS
 e:Nat×RS
 s:Nat×RS
 a:Nat×RS
 f:Nat×RS
 n:Nat×RS
 d:List UInt8×RS
def DL (b:List UInt8):Rd6:=
 let k:=(RS.mk b false).num 1 3
 let e:=k.2.num 6 281474976710656
 let s:=e.2.num 6 281474976710656
 let a:=s.2.num 2 65536
 let f:=a.2.num 1 64
 let n:=f.2.num 2 64
 ⟨k,e,s,a,f,n,n.2.take n.1⟩
def Rd6.sh (x:Rd6):Sh:=⟨x.k.1,x.e.1,x.s.1,x.a.1,x.f.1,x.d.1⟩
def fu (p:List UInt8):Option Sh:=
 if p.length=96∧p.getD 95 0=90 then match nG (p.take 95) with
  |none=>none
  |some b=>if (DL b).d.2.bK=false∧(DL b).sh.cZ∧eu (DL b).sh=p then some (DL b).sh else none
 else none
theorem sS {p:List UInt8} {s:Sh} (h:fu p=some s):s.cZ∧eu s=p:=by
 unfold fu at h;split at h
 ·split at h
  ·cases h
  ·split at h
   ·rename_i h2;cases h;exact h2.2
   ·cases h
 ·cases h
theorem vP {bs l:List UInt8} {n size most:Nat} (hn:n<256 ^ size) (hm:n≤most):(RS.mk (le n size++l) false).num size most=(n,⟨l,false⟩):=by
 have h1:((le n size++l).take size)=le n size:=by rw[List.take_left' (DC n size)]
 have h2:((le n size++l).drop size)=l:=by rw[List.drop_left' (DC n size)]
 have h3:dH (le n size)=n:=by rw[xJ,Nat.mod_eq_of_lt hn]
 rw[kc (by simp) (by rw[h1,h3];exact hm),h1,h2,h3]
theorem OC {s:Sh} (h:s.cZ) (z:List UInt8):(DL (gj s++z)).sh=s∧(DL (gj s++z)).d.2.bK=false:=by
 have e:gj s++z=le s.cU 1++(le s.ep 6++(le s.seq 6++(le s.an 2++(le s.fr 1++(le s.data.length 2++(s.data++z)))))):=by simp [gj]
 have hk:=h.k3;have h1:=h.ep;have h2:=h.seq;have h3:=h.an;have h4:=h.fr;have h5:=h.dl;rw[e];unfold DL Rd6.sh;simp only;rw[vP (bs:=[]) (by omega) hk,vP (bs:=[]) (by omega) (by omega),vP (bs:=[]) (by omega) (by omega),vP (bs:=[]) (by omega) (by omega),vP (bs:=[]) (by omega) h4,vP (bs:=[]) (by omega) h5];have hz:¬s.data.length+z.length<s.data.length:=by omega
 simp [RS.take,hz]
theorem Ij {s:Sh} (h:s.cZ):fu (eu s)=some s:=by
 have hl:=lQ s h.dl;have hb:=vO s;have SC:=h.dl;obtain⟨b,hbd⟩:∃b,b=gj s++List.replicate (91-(gj s).length) 0:=⟨_,rfl⟩;have Ba:b.length=91:=by rw[hbd];simp [hb];omega
 have e0:eu s=b++(le (sQ b) 4++[90]):=by rw[hbd];simp [eu,zn]
 have e1:(eu s).take 95=b++le (sQ b) 4:=by rw[e0, ←List.append_assoc,List.take_left' (by simp [Ba])]
 have e2:(eu s).getD 95 0=90:=by
  rw[e0, ←List.append_assoc,List.getD_eq_getElem?_getD,List.getElem?_append_right (by simp [Ba])];simp [Ba]
 have e3:nG (b++le (sQ b) 4)=some b:=by
  have hlen:(b++le (sQ b) 4).length-4=b.length:=by simp
  unfold nG;rw[hlen,List.take_left' rfl,List.drop_left' rfl,xJ,Nat.mod_eq_of_lt (by have:=DK b;omega)];simp
 obtain⟨r1,r2⟩:=OC h (List.replicate (91-(gj s).length) 0);rw[←hbd] at r1 r2;unfold fu;rw[if_pos ⟨hl,e2⟩,e1,e3];simp only[r1,r2];rw[if_pos ⟨trivial,h,trivial⟩]
theorem sT {s:Sh} (hl:s.data.length≤64) {n:Int} (h:n<96):fu (gY (eu s) n)=none:=by
 unfold fu;rw[if_neg];rintro⟨h1,h2⟩;have hlen:=lQ s hl
 have:(gY (eu s) n).getD 95 0=255:=by
  unfold gY;rw[List.getD_eq_getElem?_getD,List.getElem?_append_right (by simp;omega),List.getElem?_replicate,if_pos (by simp [hlen];omega)];rfl
 rw[this] at h2;exact absurd h2 (by decide)
section
variable {B:ag} {L:List cw} {H:ag} {K:V→ag→Prop} {q:Oq} {cap:Nat}
def At (s:Sh) (q:Oq) (c:Nat):V:=.agg (fE (s.cU:Int) (s.ep:Int) (s.seq:Int) (s.an:Int) ((s.fr:Int)-1) q s.data.length c)
theorem OD (s:Sh):K (.bool (decide s.cZ)) H→cl 132 [At s q cap] H K:=by
 intro k;unfold At;rw[Zt]
 have e:(decide ((s.cU:Int)≥1)&&(decide ((s.cU:Int)≤3)&&(decide ((s.ep:Int)<281474976710656)&&(decide ((s.seq:Int)<281474976710656)&&(decide ((s.an:Int)≥0)&&(decide ((s.an:Int)<65536)&&
  (decide ((s.fr:Int)-1≥ -1)&&(decide ((s.fr:Int)-1<64)&&(decide ((s.data.length:Int)≤64)&&bif !decide ((s.cU:Int)=1) then decide ((s.data.length:Int)=0) else true)))))))))=decide s.cZ:=by
  by_cases hk:s.cU=1
  ·have:(s.cU:Int)=1:=by omega
   simp only[this,decide_true,Bool.not_true,cond_false,Bool.and_true];simp only[←Bool.decide_and];refine decide_eq_decide.2 ⟨fun h=>⟨by omega,by omega,by omega,by omega,by omega,by omega,by omega,.inl hk⟩,fun h=> ?_⟩;obtain⟨h1,h2,h3,h4,h5,h6,h7,h8⟩:=h;omega
  ·have:¬(s.cU:Int)=1:=by omega
   simp only[this,decide_false,Bool.not_false,cond_true];simp only[←Bool.decide_and];refine decide_eq_decide.2 ⟨fun h=>⟨by omega,by omega,by omega,by omega,by omega,by omega,by omega,.inr (by omega)⟩,fun h=> ?_⟩;obtain⟨h1,h2,h3,h4,h5,h6,h7,h8⟩:=h;omega
 rw[e];exact k
theorem LB {bs d:List UInt8} {dq:Oq} {dc:Nat} (h:az B H (BY q cap bs::L)) (hr:lN B L dq d) (hb:bs.length≤1000000) (hd:d.length≤1000000) (k:∀q' c' H',az B H' (BY q' c' (bs++le d.length 2++d)::L)→K (.slice q' (bs++le d.length 2++d).length c') H'):cl 144 [.slice q bs.length cap,.slice dq d.length dc] H K:=by
 rw[Zz,cM (by omega)];refine eJ d.length 2 h (by omega) (by omega) (fun q2 c2 H2 h2=> ?_);simp only[AN];have:=hr.bO (BY q2 c2 (bs++le d.length 2)) H2 h2;exact vJ h2 (this.src dc) (by simp;omega) (fun q3 c3 H3 h3=>k q3 c3 H3 h3)
theorem JW {s:Sh} (h:az B H L) (hr:lN B L q s.data) (h1:s.cU<256) (h2:s.ep<18446744073709551616) (h3:s.seq<18446744073709551616) (h4:s.an<1000000000) (h5:s.fr≤256) (h6:s.data.length≤64) (k:∀q' c' H',az B H' (BY q' c' (eu s)::L)→K (.slice q' (eu s).length c') H'):cl 133 [At s q cap] H K:=by
 unfold At;rw[Zu,cM (n:=s.cU) (by omega),cM (n:=s.an) (by omega)];have e5:IntKind.i64.wrap ((s.fr:Int)-1+1)=((s.fr:Nat):Int):=by rw[bj (by omega) (by omega)];omega
 rw[e5,cM (n:=s.fr) (by omega)];refine eJ s.cU 1 (bs:=[]) (kE h) (by omega) (by simp) (fun q1 c1 H1 h1=> ?_);simp only[AN];refine eJ s.ep 6 h1 (by omega) (by simp) (fun q2 c2 H2 h2=> ?_);simp only[AN];refine eJ s.seq 6 h2 (by omega) (by simp) (fun q3 c3 H3 h3=> ?_);simp only[AN];refine eJ s.an 2 h3 (by omega) (by simp) (fun q4 c4 H4 h4=> ?_);simp only[AN];refine eJ s.fr 1 h4 (by omega) (by simp) (fun q5 c5 H5 h5=> ?_);simp only[AN];refine LB h5 hr (by simp) (by omega) (fun q6 c6 H6 h6=> ?_);have eb:((((([]++le s.cU 1)++le s.ep 6)++le s.seq 6)++le s.an 2)++le s.fr 1)++le s.data.length 2++s.data=gj s:=rfl;rw[eb] at h6⊢;have Ba:=vO s;have e7:IntKind.i64.wrap (91-((gj s).length:Int))=((91-(gj s).length:Nat):Int):=by rw[bj (by omega) (by omega)];omega
 simp only[AN,e7];refine h6.Ri FG (by kernel_rfl) (fun v hv=>by rw[List.mem_singleton] at hv;subst hv;rfl) rfl (by omega) (by omega) (by rw[Int.toNat_natCast];omega) (fun q7 c7 H7 h7=> ?_);rw[Int.toNat_natCast] at h7⊢
 have h8:az B H7 (BY q7 c7 (gj s++List.replicate (91-(gj s).length) 0)::L):=by
  have ez:hO (91-(gj s).length) [V.int .u8 0]=bo (List.replicate (91-(gj s).length) 0):=by
   generalize 91-(gj s).length=n
   induction n with
   |zero=>rfl
   |succ n ih=>
    rw[List.replicate_succ];show [V.int .u8 0]++hO n [V.int .u8 0]=V.int .u8 ((0:UInt8).toNat:Int)::bo (List.replicate n 0)
    rw[ih];rfl
  rw[ez, ←jB] at h7;unfold BY Za;rw[List.length_append,List.length_replicate];exact h7
 have e9:(gj s).length+(91-(gj s).length)=(gj s++List.replicate (91-(gj s).length) 0).length:=by simp
 rw[e9];refine Rx h8 lN.byt (by simp;omega) (fun q9 c9 H9 h9=> ?_);simp only[AN];have Hj:(zn (gj s++List.replicate (91-(gj s).length) 0)).length≤1000:=by simp [zn];omega
 have Qx:V.int .u8 90=V.int .u8 ((90:UInt8).toNat:Int):=rfl;rw[Qx];exact FH (h9.ord [1]).drop 90 (by omega) (fun q10 c10 H10 xZ=>k q10 c10 H10 xZ)
end
section
variable {B:ag} {L:List cw} {H:ag} {K:V→ag→Prop} {q:Oq} {cap:Nat} {id:Nat} {s:RS}
theorem LC (h:nF B H L id s) (most:Nat) (hm:most≤1000) (k:∀q' c' H',nF B H' (BY q' c' ((s.num 2 most).2.take (s.num 2 most).1).1::L) id ((s.num 2 most).2.take (s.num 2 most).1).2→K (.slice q' ((s.num 2 most).2.take (s.num 2 most).1).1.length c') H'):cl 130 [.aj (some (id,0)),.int .i64 (most:Int)] H K:=by
 rw[Zr,Option.isNone_some,ai,cM (by omega)];refine kH h 2 most (by omega) (fun H1 h1=> ?_);have hn:(s.num 2 most).1≤most:=by unfold RS.num;split<;>simp only<;>omega
 simp only[AN];rw[bj (by omega) (by omega)];refine FX h1 (s.num 2 most).1 (fun q2 c2 H2 h2 xC Hh=> ?_);have hl:(((s.num 2 most).2.take (s.num 2 most).1).1).length≤1000:=by unfold RS.take;split<;>simp;omega
 obtain⟨q3,c3,hc3,Qe,MP⟩:=h2.ex;simp only[AN];refine kb MP (xC H2 MP.drop) (by omega) (fun q4 c4 H4 h4=> ?_);simp only[AN];exact k q4 c4 H4 ⟨q3,c3,hc3,Qe.bO _,h4.swap⟩
theorem RA (h:nF B H L id s):K (.bool s.bK) H→cl 131 [.aj (some (id,0))] H K:=by
 intro k;obtain⟨q,c,hc,hr,hs⟩:=h.ex;have hg:=hs.get;rw[Zs];simp only[AN,Option.isSome_some,Option.isNone_some,dE hg,aZ hg,aQ,Nat.zero_add,cond_true,if_true];simpa [AU] using k
theorem nF.Z8 (h:nF B H L id s):az B H L:=by
 obtain⟨q,c,hc,hr,hs⟩:=h.ex;exact hs.drop
theorem FY {p:List UInt8} (h:az B H L) (hr:lN B L q p) (hb:p.length≤100000) (hc:p.length≤cap) (k1:fu p=none→∀e:Int,e≠0→∀H',az B H' L→K (.tuple [.agg (fE 0 0 0 0 0 none 0 0),.int .i64 e]) H') (k2:∀s,fu p=some s→∀q' c' H',az B H' (BY q' c' s.data::L)→K (.tuple [At s q' c',.int .i64 0]) H'):cl 106 [.slice q p.length cap] H K:=by
 rw[Zh];by_cases KV:p.length=96
 case neg=>
  have e:fu p=none:=by unfold fu;rw[if_neg (fun hh=>KV hh.1)]
  have a1:¬(p.length:Int)=96:=by omega
  simp only[a1,decide_false,Bool.not_false,Bool.not_true,aQ,Bool.false_eq_true,if_false,av,cond_false,ar];exact k1 e 3 (by decide) H h
 have a1:(p.length:Int)=96:=by omega
 obtain⟨g1,g2,g3⟩:=(hr H h).at (i:=95) (by omega);have g2':H.inb (pb q) (po q+95) 1=true:=g2;have g3':H.cell (pb q) (po q+95)=.int .u8 (p[95].toNat:Int):=g3;have a2:(95:Int)<96:=by decide
 simp only[a1,a2,decide_true,Bool.not_true,Bool.not_false,aQ,if_true,g1,g2',g3',AJ,cond_true];have hgd:p.getD 95 0=p[95]:=by rw[List.getD_eq_getElem?_getD,List.getElem?_eq_getElem (by omega)];rfl
 by_cases h90:p[95]=90
 case neg=>
  have e:fu p=none:=by unfold fu;rw[if_neg (fun hh=>h90 (by rw[←hgd];exact hh.2))]
  have a3:¬(p[95].toNat:Int)=90:=by
   intro hh;apply h90;apply UInt8.toNat_inj.1;have:(90:UInt8).toNat=90:=rfl;omega
  simp only[a3,decide_false,Bool.not_false,ar];exact k1 e 3 (by decide) H h
 have a3:(p[95].toNat:Int)=90:=by rw[h90];rfl
 have a4:(95:Int)≤(cap:Int):=by omega
 have a5:95≤cap:=by omega
 simp only[a3,a4,a5,decide_true,Bool.not_true,ai,av,AN]
 have ac2:lN B L (bP q 0) (p.take 95):=by
  have:=hr.part 0 95 (by omega);simpa using this
 have aaD:(95:Nat)=(p.take 95).length:=by rw[List.length_take];omega
 have key:∀{K:V→ag→Prop},(nG (p.take 95)=none→K (.tuple [.slice none 0 0,.int .i64 (if (p.take 95).length<4 then 3 else 4)]) H)→(∀b,nG (p.take 95)=some b→∀q' c' H',az B H' (BY q' c' b::L)→K (.tuple [.slice q' b.length c',.int .i64 0]) H')→
  cl 129 [.slice (bP q 0) 95 (cap-0)] H K:=by
  intro K k1 k2;have:=Ry (cap:=cap-0) h ac2 (by omega) (by omega) k1 k2
  rwa [←aaD] at this
 refine key (fun ho=> ?_) (fun b ho q1 c1 H1 h1=> ?_)
 ·have e:fu p=none:=by unfold fu;rw[if_pos ⟨KV,by rw[hgd];exact h90⟩,ho]
  have a6:¬(4:Int)=0:=by decide
  rw[←aaD];have a7:¬(95<4):=by decide
  rw[if_neg a7];simp only[AN,a6];exact k1 e 4 (by decide) H h
 ·have er:fu p=if (DL b).d.2.bK=false∧(DL b).sh.cZ∧eu (DL b).sh=p then some (DL b).sh else none:=by unfold fu;rw[if_pos ⟨KV,by rw[hgd];exact h90⟩,ho]
  have hbc:=(h1.MW).2.2.1;simp only[AN];refine JT h1 (fun H h=>h.iU) hbc (fun id H2 h2=> ?_);have n3:(3:Int)=((3:Nat):Int):=rfl;have n1:(1:Int)=((1:Nat):Int):=rfl;have n6:(6:Int)=((6:Nat):Int):=rfl;have n2:(2:Int)=((2:Nat):Int):=rfl;have n48:(281474976710656:Int)=((281474976710656:Nat):Int):=rfl;have n16:(65536:Int)=((65536:Nat):Int):=rfl;have n64:(64:Int)=((64:Nat):Int):=rfl;simp only[AN];refine kH h2 1 3 (by omega) (fun H3 h3=> ?_);simp only[AN];refine kH h3 6 281474976710656 (by omega) (fun H4 h4=> ?_);simp only[AN];refine kH h4 6 281474976710656 (by omega) (fun H5 h5=> ?_);simp only[AN];refine kH h5 2 65536 (by omega) (fun H6 h6=> ?_);simp only[AN];refine kH h6 1 64 (by omega) (fun H7 h7=> ?_);simp only[AN];refine LC h7 64 (by omega) (fun q8 c8 H8 h8=> ?_);obtain⟨x,hx⟩:∃x,x=DL b:=⟨_,rfl⟩;have bnd:∀(r:RS) (size most:Nat),(r.num size most).1≤most:=by intro r size most;unfold RS.num;split<;>simp only<;>omega
  have e1:(RS.mk b false).num 1 3=x.k:=by subst hx;simp only[DL]
  have e2:x.k.2.num 6 281474976710656=x.e:=by subst hx;simp only[DL]
  have e3:x.e.2.num 6 281474976710656=x.s:=by subst hx;simp only[DL]
  have e4:x.s.2.num 2 65536=x.a:=by subst hx;simp only[DL]
  have e5:x.a.2.num 1 64=x.f:=by subst hx;simp only[DL]
  have e6:x.f.2.num 2 64=x.n:=by subst hx;simp only[DL]
  have e7:x.n.2.take x.n.1=x.d:=by subst hx;simp only[DL]
  have b1:x.k.1≤3:=by rw[←e1];exact bnd _ _ _
  have b2:x.e.1≤281474976710656:=by rw[←e2];exact bnd _ _ _
  have b3:x.s.1≤281474976710656:=by rw[←e3];exact bnd _ _ _
  have b4:x.a.1≤65536:=by rw[←e4];exact bnd _ _ _
  have b5:x.f.1≤64:=by rw[←e5];exact bnd _ _ _
  have b6:x.n.1≤64:=by rw[←e6];exact bnd _ _ _
  have b7:x.d.1.length≤64:=by rw[←e7];unfold RS.take;split<;>simp;omega
  rw[←hx] at er;simp only[e1,e2,e3,e4,e5,e6,e7] at h8⊢;have w1:IntKind.u8.wrap (x.k.1:Int)=(x.k.1:Int):=IntWalk.u8_in _ (by omega);have w2:IntKind.i64.wrap (x.a.1:Int)=(x.a.1:Int):=bj (by omega) (by omega);have w3:IntKind.i64.wrap (x.f.1:Int)=(x.f.1:Int):=bj (by omega) (by omega);have w4:IntKind.i64.wrap ((x.f.1:Int)-1)=(x.f.1:Int)-1:=bj (by omega) (by omega);simp only[AN,w1,w2,w3,w4];have hV:V.agg (fE (x.k.1:Int) (x.e.1:Int) (x.s.1:Int) (x.a.1:Int) ((x.f.1:Int)-1) q8 x.d.1.length c8)=At x.sh q8 c8:=rfl;rw[hV];have hs8:=h8.Z8;have TJ:az B H8 (BY q8 c8 x.d.1::L):=(hs8.ord [1]).drop;refine RA h8 ?_;simp only[AN];by_cases Ah:x.d.2.bK=true
  ·have e:fu p=none:=by rw[er,if_neg (fun hh=>by rw[hh.1] at Ah;cases Ah)]
   simp only[Ah,Bool.not_true,ai,and_self];exact k1 e 3 (by decide) H8 TJ.drop
  have aaE:x.d.2.bK=false:=by simpa using Ah
  simp only[aaE,Bool.not_false,ar];refine OD x.sh ?_;simp only[AN];by_cases hf:x.sh.cZ
  case neg=>
   have e:fu p=none:=by rw[er,if_neg (fun hh=>hf hh.2.1)]
   simp only[hf,decide_false,Bool.not_false,Bool.not_true,ai,and_self];exact k1 e 3 (by decide) H8 TJ.drop
  simp only[hf,decide_true,Bool.not_true,Bool.not_false,ar];have hst:∀{H':ag},mn H' q p→eY H' q p.length=true∧eZ H' q p.length=cJ p:=fun h=>⟨h.eY,h.eZ⟩
  have T:∀(K:V→ag→Prop),(∀q' c' H',az B H' (BY q' c' (eu x.sh)::BY q8 c8 x.d.1::L)→K (.slice q' (eu x.sh).length c') H')→cl 133 [At x.sh q8 c8] H8 K:=fun K k=>
   JW TJ (fun H h=>h.iU) (show x.k.1<256 by omega) (show x.e.1<_ by omega) (show x.s.1<_ by omega) (show x.a.1<_ by omega) (show x.f.1≤256 by omega) b7 k
  have D:(!mu (cJ (eu x.sh)) (cJ p))= !decide (eu x.sh=p):=by
   rw[p7]
  have hp8:=hst (((hr.bO _) H8 TJ))
  have fin:∀H',az B H' (BY q8 c8 x.d.1::L)→br (!decide (eu x.sh=p)) (K (.tuple [.agg (fE 0 0 0 0 0 none 0 0),.int .i64 3]) H') (K (.tuple [At x.sh q8 c8,.int .i64 0]) H'):=by
   intro H' h';by_cases hl:eu x.sh=p
   ·have e:fu p=some x.sh:=by rw[er,if_pos ⟨aaE,hf,hl⟩]
    simp only[hl,decide_true,Bool.not_true,ai];exact k2 _ e q8 c8 H' h'
   ·have e:fu p=none:=by rw[er,if_neg (fun hh=>hl hh.2.2)]
    simp only[hl,decide_false,Bool.not_false,ar];exact k1 e 3 (by decide) H' h'.drop
  refine⟨T _ (fun q9 c9 H9 h9=> ?_), ?_⟩
  ·have g9:=hst (((hr.bO _).bO _) H9 h9);have l9:=(h9.iU);simp only[AN,l9.eY,l9.eZ,g9.1,g9.2,D];exact fin H9 h9.drop
  ·simp only[hp8.1,av,hp8.2];refine T _ (fun q9 c9 H9 h9=> ?_);have l9:=(h9.iU);simp only[AN,l9.eY,l9.eZ,D];exact fin H9 h9.drop
end
structure Fd where
 b:Nat
 p:Nat
 s:Sh
def iy (i:Nat) (mQ:Int):List (List UInt8)→Nat→List Fd
 |[],_=>[]
 |d::l,p=>match fu d with
  |none=>iy i mQ l (p+1)
  |some s=>if s.cU≠3∧(s.an:Int)≤mQ then ⟨i,p,s⟩::iy i mQ l (p+1) else iy i mQ l (p+1)
def Bk.eQ (b:Bk) (i:Nat) (mQ:Int):List Fd:=if b.cn=true then [] else iy i mQ b.pg 0
structure Rf where
 f:Fd
 q:Oq
 c:Nat
def Rf.cs (r:Rf):List V:=kR (r.f.b:Int) (r.f.p:Int) (r.f.s.cU:Int) (r.f.s.ep:Int) (r.f.s.seq:Int) (r.f.s.an:Int) ((r.f.s.fr:Int)-1) r.q r.f.s.data.length r.c
def Rf.bX (r:Rf):cw:=BY r.q r.c r.f.s.data
theorem vQ (rs:List Rf):Rq pf (rs.map Rf.cs):=by
 intro c hc;obtain⟨r,_,rfl⟩:=List.mem_map.1 hc;rfl
structure Rz where
 i:Nat
 q:Oq
 c:Nat
 rs:List Rf
def Rz.bX (z:Rz):cw:=bw [Rw 130 8 z.q z.c (z.rs.map Rf.cs),bw (z.rs.map Rf.bX)]
theorem VJ:fB ej 158=some (130,8,80,kR 0 0 0 0 0 0 0 none 0 0):=by kernel_rfl
theorem VK:ik (bh ej 158)=true:=by kernel_rfl
structure Ar.rd (a:Ar) (g:ct):Prop where
 on:a.off=false
 n:(a.bs.length:Int)=g.aE
 p:a.aA=g.aA
 len:∀b∈a.bs,(b.pg.length:Int)≤a.aA
 d:∀b∈a.bs,∀d∈b.pg,d.length=96
section
variable {B:ag} {L:List cw} {H:ag} {K:V→ag→Prop} {aM:Nat} {a:Ar} {m:Gm} {i:Nat}
theorem OE {a:Ar} {g:ct} (hr:a.rd g) {i k:Nat} (hi:i<a.bs.length) (hk:k<(a.bs[i]).pg.length):gB a i k=if (a.bs[i]).cn=true then (4,[]) else (0,(a.bs[i]).pg[k]):=by
 have hl:=hr.len _ (List.getElem_mem hi);have h1:¬a.aA≤(k:Int):=by omega
 unfold gB;simp only[hr.on,Bool.false_eq_true,if_false,h1,List.getElem?_eq_getElem hi,List.getElem?_eq_getElem hk]
theorem nH (hm:dB B L m) (hg:m.g.In) (hr:a.rd m.g) (tx:a.aA≤32) (hi:i<a.bs.length) {Kr:Am.St→Prop} {Ke:Nat→Am.St→Prop}:∀(k p:Nat) (rs:List Rf) {q:Oq} {c:Nat} {H:ag},p+k=(a.bs[i]).pg.length→rs.length≤p→az B H (Rw 130 8 q c (rs.map Rf.cs)::bw (rs.map Rf.bX)::dK aM a::L)→(∀q' c' (rs':List Rf) H',rs'.map Rf.f=rs.map Rf.f++(if (a.bs[i]).cn=true then [] else iy i m.g.cap ((a.bs[i]).pg.drop p) p)→az B H' (Rw 130 8 q' c' (rs'.map Rf.cs)::bw (rs'.map Rf.bX)::dK aM a::L)→Ke 0 (St.mk (ab [(8,T.v (V.slice q' rs'.length c'))]) (ab []) H'))→lo 98 9 (St.mk (ab [(0,T.v (V.aj (some (aM,0)))),(2,T.v (V.int .i64 (i:Int))),(4,T.lp 4 0),(8,T.v (V.slice q rs.length c)),(42,T.v (V.int .i64 ((a.bs[i]).pg.length:Int))),(43,T.v (V.int .i64 (p:Int)))]) (ab [(4,aU.cells 26 (dV m.g.aE m.g.aA m.g.aH m.q m.g.bK.length m.c))]) H) Kr Ke
 |0,p,rs,q,c,H,hpk,SL,h,hk=>by
  obtain rfl:p=(a.bs[i]).pg.length:=by omega
  rw[NV,decide_eq_false (by omega),ai];refine hk q c rs H ?_ h;rw[List.drop_length];split<;>simp [iy]
 |k+1,p,rs,q,c,H,hpk,SL,h,hk=>by
  have hlt:p<(a.bs[i]).pg.length:=by omega
  have a1:(p:Int)<((a.bs[i]).pg.length:Int):=by omega
  have hrd:=OE hr hi hlt;have hlen:=hr.len _ (List.getElem_mem hi);have KV:=hr.d _ (List.getElem_mem hi) _ (List.getElem_mem hlt);have hA:=h.ord [2];rw[NV,decide_eq_true a1,ar];refine FT hA hi (fun d hd=>by rw[hr.d _ (List.getElem_mem hi) _ hd];omega) p (fun q1 c1 H1 h1=> ?_);rw[hrd] at h1⊢;have a2:IntKind.i64.wrap ((p:Int)+1)=((p+1:Nat):Int):=aK (by omega);by_cases hh:(a.bs[i]).cn=true
  ·simp only[hh,if_true] at h1 hk⊢;simp only[AJ,reduceIte,a2];exact nH hm hg hr tx hi k (p+1) rs (by omega) (by omega) (h1.drop.ord [1,1]) (fun q' c' rs' H' e h'=>hk q' c' rs' H' (by simpa [hh] using e) h')
  ·simp only[hh,Bool.false_eq_true,if_false] at h1 hk⊢;have a3:¬(0:Int)=4:=by decide
   simp only[AJ,reduceIte,a3];rw[List.drop_eq_getElem_cons hlt] at hk;have hcap:=(h1.MW).2.2.1;have ado:az B H1 (Rw 130 8 q c (rs.map Rf.cs)::bw (rs.map Rf.bX)::dK aM a::L):=h1.drop.ord [1,1];refine FY h1 (fun H h=>h.iU) (by omega) hcap (fun hnone e he H2 h2=> ?_) (fun s hs q2 c2 H2 h2=> ?_)
   ·have he':¬e=0:=he;simp only[AN,f125,HS,HT,HU,HV,NG,Dv,he',a2];refine nH hm hg hr tx hi k (p+1) rs (by omega) (by omega) (h2.drop.ord [1,1]) (fun q' c' rs' H' e2 h'=>hk q' c' rs' H' ?_ h');rw[iy,hnone];simpa [hh] using e2
   ·unfold At;simp only[AN,f125,HS,HT,HU,HV,NG,Dv];by_cases hk3:s.cU=3
    ·have WC:(s.cU:Int)=3:=by omega
     simp only[WC,AN,a2];refine nH hm hg hr tx hi k (p+1) rs (by omega) (by omega) (h2.drop.drop.ord [1,1]) (fun q' c' rs' H' e2 h'=>hk q' c' rs' H' ?_ h');rw[iy,hs];simp only[hk3];simpa [hh] using e2
    ·have WC:¬(s.cU:Int)=3:=by omega
     simp only[WC,AN];have hmm:dB B (BY q2 c2 s.data::BY q1 c1 (a.bs[i]).pg[p]::dK aM a::Rw 130 8 q c (rs.map Rf.cs)::bw (rs.map Rf.bX)::L) m:=((((hm.bO _).bO _).bO _).bO _).bO _;have:=uE (K:= ?_) h2 hmm hg ?_
     ·exact this
     intro H3 h3;simp only[AN,a2];by_cases hle:(s.an:Int)≤m.g.cap
     ·simp only[hle,decide_true,ar];have h4:az B H3 (Rw 130 8 q c (rs.map Rf.cs)::bw (rs.map Rf.bX)::BY q2 c2 s.data::dK aM a::L):=(h3.ord [1]).drop.ord [2,2]
      have hp:=h4.vK (K:=fun q n c H'=>lo 98 9
       (St.mk (ab [(0,T.v (V.aj (some (aM,0)))),(2,T.v (V.int .i64 (i:Int))),(4,T.lp 4 0),(8,T.v (V.slice q n c)),(42,T.v (V.int .i64 ((a.bs[i]).pg.length:Int))),(43,T.v (V.int .i64 ((p+1:Nat):Int)))])
        (ab [(4,aU.cells 26 (dV m.g.aE m.g.aA m.g.aH m.q m.g.bK.length m.c))]) H') Kr Ke) (e2:=130) (c:=(Rf.mk ⟨i,p,s⟩ q2 c2).cs) VJ VK
       (fun v hv=>by simp only[kR,List.mem_cons,List.not_mem_nil,or_false] at hv;rcases hv with rfl|rfl|rfl|rfl|rfl|rfl|rfl|rfl<;>rfl) rfl (by omega) (vQ rs).pr rfl
       (fun v hv=>by simp only[Rf.cs,kR,List.mem_cons,List.not_mem_nil,or_false] at hv;rcases hv with rfl|rfl|rfl|rfl|rfl|rfl|rfl|rfl<;>rfl) (by rw[List.length_map];omega) (fun q' c' H' h'=> ?_)
      ·rw[List.length_map] at hp;exact hp
      ·have e1:rs.map Rf.cs++[(Rf.mk ⟨i,p,s⟩ q2 c2).cs]=(rs++[Rf.mk ⟨i,p,s⟩ q2 c2]).map Rf.cs:=by simp
       rw[e1] at h';have e2:(rs.map Rf.cs).length+1=(rs++[Rf.mk ⟨i,p,s⟩ q2 c2]).length:=by simp
       rw[e2]
       have h5:az B H' (Rw 130 8 q' c' ((rs++[Rf.mk ⟨i,p,s⟩ q2 c2]).map Rf.cs)::bw ((rs++[Rf.mk ⟨i,p,s⟩ q2 c2]).map Rf.bX)::dK aM a::L):=by
        have h6:=(h'.ord [2,1]).mG.bigPerm (l':=(rs++[Rf.mk ⟨i,p,s⟩ q2 c2]).map Rf.bX) (by
         show (BY q2 c2 s.data::rs.map Rf.bX).Perm _
         rw[List.map_append]
         exact(List.perm_append_comm (l₁:=[BY q2 c2 s.data]) (l₂:=rs.map Rf.bX)))
        exact h6.swap
       refine nH hm hg hr tx hi k (p+1) _ (by omega) (by simp;omega) h5 (fun q3 c3 rs' H3 e3 h3=>hk q3 c3 rs' H3 ?_ h3);rw[e3,iy,hs];simp only[hk3,hle,ne_eq,not_false_eq_true,and_self,if_true,hh,if_false,Bool.false_eq_true];simp
     ·simp only[hle,decide_false,ai];refine nH hm hg hr tx hi k (p+1) rs (by omega) (by omega) (h3.drop.drop.ord [1,1]) (fun q' c' rs' H' e2 h'=>hk q' c' rs' H' ?_ h');rw[iy,hs];simp only[hle,and_false,if_false];simpa [hh] using e2
theorem OF (h:az B H (dK aM a::L)) (hm:dB B L m) (hf:m.g.cZ=true) (hg:m.g.In) (hr:a.rd m.g) (tx:a.aA≤32) (hu:i∈m.g.us) (hi:i<a.bs.length) (k:∀q c (rs:List Rf) H',rs.map Rf.f=(a.bs[i]).eQ i m.g.cap→az B H' (Rw 130 8 q c (rs.map Rf.cs)::bw (rs.map Rf.bX)::dK aM a::L)→K (.tuple [.slice q rs.length c,.int .i64 0]) H'):cl 98 [.aj (some (aM,0)),m.v,.int .i64 (i:Int)] H K:=by
 have hv:m.v=.agg (dV m.g.aE m.g.aA m.g.aH m.q m.g.bK.length m.c):=rfl;rw[hv,ab1, ←hv];simp only[Option.isNone_some,ai,eO];refine JS h (hm.bO _) hg.l (fun H1 h1=> ?_);simp only[hf,AN,reduceIte];rw[BB h1];simp only[AN,hr.n];rw[FQ h1];simp only[AN,hr.p];refine jD h1 (hm.bO _) hg (fun q c H2 h2=> ?_);simp only[AN]
 have hc:=qe (cap:=c) (K:=fun v H'=>ah (V.ax .bool v) (ah (aB (KT.k .bool) (some (T.v (V.bool !V.ak v)))||false||false) (br (!V.ak v) (K (V.tuple [V.slice none 0 0,V.int .i64 1]) H')
  (cl 64 [V.aj (some (aM,0)),V.int .i64 (i:Int)] H' fun v H'=>ah (V.ax (.int .i64) v)
   (lo 98 9 (St.mk (ab [(0,T.v (V.aj (some (aM,0)))),(2,T.v (V.int .i64 (i:Int))),(4,T.lp 4 0),(8,T.v (V.slice none 0 0)),(42,T.v (V.int .i64 (V.aa v))),(43,T.v (V.int .i64 0))])
    (ab [(4,aU.cells 26 (dV m.g.aE m.g.aA m.g.aH m.q m.g.bK.length m.c))]) H')
    (fun S'=>ah (aB (KT.k .slice) (S'.1 6)&&aB (KT.k (.int .i64)) (S'.1 7)) (K (V.tuple [V.slice (V.au (T.val (S'.1 6))) (V.aw (T.val (S'.1 6))) (V.aC (T.val (S'.1 6))),V.int .i64 (V.aa (T.val (S'.1 7)))]) S'.3))
    fun j S'=>br (decide (j=0)) (ah (aB (KT.k .slice) (S'.1 8)) (K (V.tuple [V.slice (V.au (T.val (S'.1 8))) (V.aw (T.val (S'.1 8))) (V.aC (T.val (S'.1 8))),V.int .i64 0]) S'.3)) False)))))
  (h2.ord [0] |> az.sO) (i:Int) (by rw[gL];have:=ct.kG m.g hg.b.2;omega) ?_
 ·rw[gL] at hc;simpa [AJ,reduceIte,Nat.reduceEqDiff] using hc
 ·have hmem:(i:Int)∈cF m.g.us:=List.mem_map.2 ⟨i,hu,rfl⟩;simp only[hmem,AN];have h3:=h2.drop;rw[uF h3 hi];simp only[AN];refine nH (a:=a) hm hg hr tx hi (a.bs[i]).pg.length 0 [] (by omega) (by simp) (h3.p8.rwNil _ _) (fun q' c' rs' H' e h'=> ?_);simp only[AN,reduceIte];refine k q' c' rs' H' ?_ h';rw[e];simp [Bk.eQ]
end
end Go.Proofs.YtlgdkndamddpkaaGreat
end
section
namespace Go.Am
def ob (id:Nat) (o:Obj):cw:=fun h=>h=fun j=>if j=id then some o else none
def Obj.isC:Obj→Bool
 | .cells .. =>true
 |_=>false
section
variable {B:ag} {L:List cw} {H:ag}
theorem az.xr {id:Nat} {o:Obj} (h:az B H (ob id o::L)):H.get id=some o:=by
 obtain⟨g,h1,h2,h3,h4,h5,h6⟩:=h.ex;exact h1 _ _ (h4.Vq (by rw[h5];simp))
theorem az.OG (h:az B H L) (o:Obj):az B (H.alloc o) (ob H.next o::L):=by
 obtain⟨g,h1,h2⟩:=h.ex;refine⟨h.ok.alloc _,Nat.le_succ_of_le h.Lr,fun id o ho=> ?_,fun j=>if j=H.next then some o else g j,fun id o' ho=> ?_,_,g,fun i=> ?_,rfl,h2⟩
 ·have:=h.ok id o (h.ro id o ho).1;exact⟨by rw[ag.fV (by omega)];exact(h.ro id o ho).1,(h.ro id o ho).2⟩
 ·by_cases hid:id=H.next
  ·subst hid;simp only[if_pos] at ho;rw[ag.vI,ho]
  ·simp only[if_neg hid] at ho;rw[ag.fV hid];exact h1 id o' ho
 ·by_cases hid:i=H.next
  ·subst hid;right;refine⟨?_,by simp⟩
   cases hg:g H.next with
   |none=>rfl
   |some o=>have:=h.ok _ _ (h1 _ _ hg);omega
  ·left;simp [hid]
theorem az.pn {id:Nat} {o o':Obj} (h:az B H (ob id o::L)) (hc:o.isC=false):az B (H.put id o') (ob id o'::L):=by
 have Ww:=h.xr;obtain⟨g,h1,h2,h3,h4,h5,h6⟩:=h.ex;subst h5;refine⟨h.ok.put Ww,h.Lr,fun j o ho=> ?_,fun j=>if j=id then some o' else h3 j,fun j o2 ho=> ?_,_,h3,fun i=> ?_,rfl,h6⟩
 ·have hj:=h.ro j o ho;refine⟨?_,hj.2⟩;by_cases he:j=id
  ·subst he;obtain⟨e',c',rfl⟩:=hj.2;rw[hj.1] at Ww;cases Ww;cases hc
  ·rw[ag.lL he];exact hj.1
 ·by_cases hid:j=id
  ·subst hid;simp only[if_pos] at ho;rw[ag.Jl,ho]
  ·simp only[if_neg hid] at ho;rw[ag.lL hid];exact h1 j o2 (h4.Vr ho)
 ·by_cases hid:i=id
  ·subst hid;right;refine⟨?_,by simp⟩;rcases h4 i with⟨e1,_⟩|⟨e1,_⟩
   ·simp at e1
   ·exact e1
  ·left;simp [hid]
end
structure En where
 k:Int
 v:V
 b:Nat
def uI (es:List En):List (V×V×Nat):=es.map fun e=>(.int .i64 e.k,e.v,e.b)
def Hc (n:Int):List En→Option V
 |[]=>none
 |e::l=>if e.k=n then some e.v else Hc n l
def AY (n:Int) (v:V):List En→List En
 |[]=>[]
 |e::l=>if e.k=n then {e with v:=v}::l else e::AY n v l
def DM (n:Int):List En→List En
 |[]=>[]
 |e::l=>if e.k=n then l else e::DM n l
structure xu (es:List En) (c:Nat):Prop where
 lt:es.Pairwise fun x y=>x.b<y.b
 all:∀e∈es,e.b<c
theorem JX:∀es:List En,sf .i64 (uI es)=true
 |[]=>rfl
 |e::l=>by
  show (V.ax (.int .i64) (.int .i64 e.k)&&sf .i64 (uI l))=true
  rw[JX l,cL];rfl
theorem uJ (n:Int):∀es:List En,nh n (uI es)=Hc n es
 |[]=>rfl
 |e::l=>by
  show (bif decide (e.k=n) then some e.v else nh n (uI l))=_
  rw[uJ n l,Hc];by_cases h:e.k=n<;>simp [h]
theorem JY (n:Int) (v:V):∀es:List En,ES n v (uI es)=uI (AY n v es)
 |[]=>rfl
 |e::l=>by
  show (bif decide (e.k=n) then (V.int .i64 e.k,v,e.b)::uI l else (V.int .i64 e.k,e.v,e.b)::ES n v (uI l))=_
  rw[JY n v l,AY];by_cases h:e.k=n<;>simp [h,uI]
theorem JZ (n:Int):∀es:List En,x9 n (uI es)=uI (DM n es)
 |[]=>rfl
 |e::l=>by
  show (bif decide (e.k=n) then uI l else (V.int .i64 e.k,e.v,e.b)::x9 n (uI l))=_
  rw[JZ n l,DM];by_cases h:e.k=n<;>simp [h,uI]
section
variable {B:ag} {L:List cw} {H:ag} {id c:Nat} {es:List En}
def iI (id:Nat) (es:List En) (c:Nat):cw:=ob id (.map (uI es) c)
theorem az.OH (h:az B H L):az B (H.alloc (.map [] 0)) (iI H.next [] 0::L):=h.OG _
theorem uK (h:az B H (iI id es c::L)):eG H .i64 (some id)=true:=by
 have hg:=h.xr;simp only[eG,Option.isNone_some,Option.getD_some,ag.isMap,ag.ents,hg,JX,Bool.and_self,Bool.or_true]
theorem Ti (h:az B H (iI id es c::L)):H.isMap id=true:=by
 have hg:=h.xr;simp only[ag.isMap,hg]
theorem zo (h:az B H (iI id es c::L)) (n:Int) (z:V):cu H (some id) n z=(Hc n es).getD z:=by
 have hg:=h.xr;simp only[cu,Option.isNone_some,Option.getD_some,ag.ents,hg,uJ,cond_false]
theorem OI (h:az B H (iI id es c::L)) (n:Int):lj H (some id) n=(Hc n es).isSome:=by
 have hg:=h.xr;simp only[lj,Option.isSome_some,Option.getD_some,ag.ents,hg,uJ,Bool.true_and]
def rE (n:Int) (v:V) (es:List En) (c:Nat):List En×Nat:=if (Hc n es).isSome then (AY n v es,c) else (es++[⟨n,v,c⟩],c+1)
theorem az.J0 (h:az B H (iI id es c::L)) (n:Int) (v:V):az B (ij H .i64 id n v) (iI id (rE n v es c).1 (rE n v es c).2::L):=by
 have hg:=h.xr;unfold ij rE;simp only[ag.ents,ag.clock,hg,uJ]
 cases hf:(Hc n es).isSome with
 |true=>
  simp only[cond_true,if_true,JY];exact h.pn rfl
 |false=>
  simp only[cond_false,Bool.false_eq_true,if_false];have e:uI es++[(V.int .i64 n,v,c)]=uI (es++[⟨n,v,c⟩]):=by simp [uI]
  rw[e];exact h.pn rfl
theorem az.aaa (h:az B H (iI id es c::L)) (n:Int):az B (px H (some id) n) (iI id (DM n es) c::L):=by
 have hg:=h.xr;unfold px;simp only[Option.isNone_some,Option.getD_some,ag.ents,ag.clock,hg,JZ,cond_false];exact h.pn rfl
theorem OJ (n:Int) (v:V):∀es:List En,(AY n v es).map En.b=es.map En.b
 |[]=>rfl
 |e::l=>by
  rw[AY];split
  ·rfl
  ·rw[List.map_cons,OJ n v l,List.map_cons]
theorem DN {es:List En} {c:Nat}:xu es c↔(es.map En.b).Pairwise (· < ·)∧∀b∈es.map En.b,b<c:=by
 constructor
 ·intro h;exact⟨List.pairwise_map.2 h.lt,fun b hb=>by obtain⟨e,he,rfl⟩:=List.mem_map.1 hb;exact h.all e he⟩
 ·intro h;exact⟨List.pairwise_map.1 h.1,fun e he=>h.2 _ (List.mem_map.2 ⟨e,he,rfl⟩)⟩
theorem xu.ins (h:xu es c) (n:Int) (v:V):xu (rE n v es c).1 (rE n v es c).2:=by
 unfold rE;split
 ·rw[DN] at h⊢;rw[OJ];exact h
 ·refine⟨?_, ?_⟩
  ·rw[List.pairwise_append];exact⟨h.lt,by simp,fun x hx y hy=>by rw[List.mem_singleton] at hy;subst hy;exact h.all x hx⟩
  ·intro e he;rcases List.mem_append.1 he with he|he
   ·have:=h.all e he;simp only;omega
   ·rw[List.mem_singleton] at he;subst he;simp
theorem zp (n:Int):∀es:List En,(DM n es).Sublist es
 |[]=>.slnil
 |e::l=>by
  rw[DM];split
  ·exact List.sublist_cons_self ..
  ·exact(zp n l).cons_cons e
theorem xu.EL (h:xu es c) (n:Int):xu (DM n es) c:=⟨h.lt.sublist (zp n es),fun e he=>h.all e ((zp n es).subset he)⟩
theorem xu.nil (c:Nat):xu [] c:=⟨.nil,fun e he=>by cases he⟩
theorem FZ {e:En}:∀{es:List En},(es.Pairwise fun x y=>x.b<y.b)→e∈es→Bb e.b (uI es)=some (.int .i64 e.k,e.v)
 |x::l,hp,he=>by
  show (bif Nat.beq x.b e.b then some (V.int .i64 x.k,x.v) else Bb e.b (uI l))=_
  rw[List.pairwise_cons] at hp;rcases List.mem_cons.1 he with rfl|he
  ·simp
  ·have:=hp.1 e he;have hb:Nat.beq x.b e.b=false:=by simp;omega
   rw[hb,cond_false];exact FZ hp.2 he
theorem vR {seen:List Nat} {b:Nat}:∀{es:List En},b∈lh seen (uI es)↔∃e∈es,e.b=b∧b∉seen
 |[]=>by simp [uI,lh]
 |x::l=>by
  show b∈(bif tE x.b seen then lh seen (uI l) else x.b::lh seen (uI l))↔_
  have ih:=vR (seen:=seen) (b:=b) (es:=l)
  cases hx:tE x.b seen with
  |true=>
   have hm:x.b∈seen:=G6 hx;rw[cond_true,ih];constructor
   ·rintro⟨e,he,h1,h2⟩;exact⟨e,List.mem_cons_of_mem _ he,h1,h2⟩
   ·rintro⟨e,he,h1,h2⟩;rcases List.mem_cons.1 he with rfl|he
    ·exact absurd (h1▸hm) h2
    ·exact⟨e,he,h1,h2⟩
  |false=>
   have hm:x.b∉seen:=fun h=>by rw[KW h] at hx;cases hx
   rw[cond_false,List.mem_cons,ih];constructor
   ·rintro(rfl|⟨e,he,h1,h2⟩)
    ·exact⟨x,List.mem_cons_self,rfl,hm⟩
    ·exact⟨e,List.mem_cons_of_mem _ he,h1,h2⟩
   ·rintro⟨e,he,h1,h2⟩;rcases List.mem_cons.1 he with rfl|he
    ·exact .inl h1.symm
    ·exact .inr ⟨e,he,h1,h2⟩
where
 G6 {n:Nat}:∀{l:List Nat},tE n l=true→n∈l
  |y::l,h=>by
   rw[tE,Bool.or_eq_true] at h;rcases h with h|h
   ·exact List.mem_cons.2 (.inl (Nat.eq_of_beq_eq_true h))
   ·exact List.mem_cons_of_mem _ (G6 h)
 KW {n:Nat}:∀{l:List Nat},n∈l→tE n l=true
  |y::l,h=>by
   rw[tE,Bool.or_eq_true];rcases List.mem_cons.1 h with rfl|h
   ·exact .inl (Nat.beq_refl _)
   ·exact .inr (KW h)
theorem BH {s:Nat}:∀{es:List En},(∀e∈es,e.b<s)→n5 s (uI es)=true
 |[],_=>rfl
 |x::l,h=>by
  show (Nat.blt x.b s&&n5 s (uI l))=true
  rw[BH fun e he=>h e (List.mem_cons_of_mem _ he),Bool.and_true];exact Nat.ble_eq_true_of_le (h x List.mem_cons_self)
theorem zq:∀(l:List Nat) (b:Nat),Bc (l++[b])=some b
 |[],b=>rfl
 |[x],b=>rfl
 |x::y::l,b=>by
  show Bc (y::l++[b])=some b
  exact zq (y::l) b
theorem az.OK {it:Nat} {seen:List Nat} (h:az B H (ob it (.dN (some id) c seen c)::iI id es c::L)) (hb:xu es c) {K1:Prop} {K2:ag→Prop} (k1:(∀e∈es,e.b∈seen)→K1) (k2:∀e∈es,e.b∉seen→∀H',az B H' (ob it (.dN (some id) c (seen++[e.b]) c)::iI id es c::L)→sg H' it=true→kK H' it=.int .i64 e.k→iJ H' it=e.v→K2 H'):mapNext H it K1 K2:=by
 have h1:=h.xr;have h2:=h.swap.xr;unfold mapNext;simp only[h1,h2,BH hb.all,Nat.ble_eq_true_of_le (Nat.le_refl c),Bool.and_self,cond_true]
 have key:∀b,b∈lh seen (uI es)→K2 (H.put it (.dN (some id) c (seen++[b]) c)):=by
  intro b Xe;obtain⟨e,he,rfl,hn⟩:=vR.1 Xe;have h3:=h.pn (o':=.dN (some id) c (seen++[e.b]) c) rfl;have g1:=h3.xr;have g2:=h3.swap.xr
  have rI:vn (H.put it (.dN (some id) c (seen++[e.b]) c)) it=some (.int .i64 e.k,e.v):=by
   unfold vn;simp only[g1,g2,zq,Nat.beq_refl,cond_true];exact FZ hb.lt he
  exact k2 e he hn _ h3 (by unfold sg;rw[rI];rfl) (by unfold kK;rw[rI];rfl) (by unfold iJ;rw[rI];rfl)
 cases hl:lh seen (uI es) with
 |nil=>
  refine k1 (fun e he=> ?_)
  cases hd:decide (e.b∈seen) with
  |true=>exact of_decide_eq_true hd
  |false=>
   have:e.b∈lh seen (uI es):=vR.2 ⟨e,he,rfl,of_decide_eq_false hd⟩;rw[hl] at this;cases this
 |cons x l=>
  rw[hl] at key;exact key
theorem az.OL (h:az B H (iI id es c::L)):az B (H.alloc (mapIter H (some id))) (ob H.next (.dN (some id) c [] c)::iI id es c::L):=by
 have hg:=h.xr;have e:mapIter H (some id)=.dN (some id) c [] c:=by simp only[mapIter,Option.isNone_some,Option.getD_some,ag.clock,hg,cond_false]
 rw[e];exact h.OG _
theorem oJ (q:En→Bool) {e:En} {seen:List Nat} (hn:e.b∉seen):∀{es:List En},(es.Pairwise fun x y=>x.b<y.b)→e∈es→es.countP (fun y=>decide (y.b∈seen++[e.b])&&q y)=es.countP (fun y=>decide (y.b∈seen)&&q y)+(if q e=true then 1 else 0)
 |x::l,hp,he=>by
  rw[List.pairwise_cons] at hp;rw[List.countP_cons,List.countP_cons];rcases List.mem_cons.1 he with rfl|he
  ·have e1:l.countP (fun y=>decide (y.b∈seen++[e.b])&&q y)=l.countP (fun y=>decide (y.b∈seen)&&q y):=by
    apply List.countP_congr;intro y hy;have:=hp.1 y hy;have hne:¬y.b=e.b:=by omega
    simp [hne]
   rw[e1];cases hq:q e<;>simp [hn]
  ·have:=hp.1 e he;have hne:¬x.b=e.b:=by omega
   rw[oJ q hn hp.2 he];simp only[List.mem_append,List.mem_singleton,hne,or_false];omega
end
end Go.Am
end
section
namespace Go.Proofs.YtlgdkndamddpkaaGreat
open Go.Am
def Ik (o f:Fd):Bool:=decide (o.s.cU=f.s.cU)&&(decide (o.s.an=f.s.an)&&(decide (o.s.seq<f.s.seq)&&decide (o.s.data=f.s.data)))
def hY (i:Nat):List (Nat×List Fd)→List Fd
 |[]=>[]
 |x::l=>if x.1=i then x.2 else hY i l
def Il (cN:List (Nat×List Fd)) (fr:Nat):List Fd:=if fr=0 then [] else hY (fr-1) cN
def sU (cN:List (Nat×List Fd)) (fr:Nat) (f:Fd):Bool:=decide (fr≠0)&&(decide (f.s.fr=fr)&&(Il cN fr).any fun o=>Ik o f)
def kT (cN:List (Nat×List Fd)) (i:Nat):Bool:=match hY i cN with
 |[]=>false
 |f::l=>(f::l).all (sU cN f.s.fr)
def qg (bz:List (Rz×Nat)):List En:=bz.map fun x=>⟨(x.1.i:Int),.slice x.1.q x.1.rs.length x.1.c,x.2⟩
def nI (bz:List (Rz×Nat)):List (Nat×List Fd):=bz.map fun x=>(x.1.i,x.1.rs.map Rf.f)
def pq (i:Nat):List (Rz×Nat)→Option Rz
 |[]=>none
 |x::l=>if x.1.i=i then some x.1 else pq i l
theorem uL {i:Nat} {z:Rz}:∀{bz:List (Rz×Nat)},pq i bz=some z→∃b,(z,b)∈bz
 |x::l,h=>by
  rw[pq] at h;split at h
  ·cases h;exact⟨x.2,List.mem_cons_self⟩
  ·obtain⟨b,hb⟩:=uL h;exact⟨b,List.mem_cons_of_mem _ hb⟩
theorem uN (i:Nat):∀bz:List (Rz×Nat),hY i (nI bz)=match pq i bz with|some z=>z.rs.map Rf.f|none=>[]
 |[]=>rfl
 |x::l=>by
  show (if x.1.i=i then x.1.rs.map Rf.f else hY i (nI l))=_
  rw[pq];split
  ·rfl
  ·exact uN i l
theorem DO (i:Nat):∀bz:List (Rz×Nat),Hc (i:Int) (qg bz)=(pq i bz).map fun z:Rz=>V.slice z.q z.rs.length z.c
 |[]=>rfl
 |x::l=>by
  show (if (x.1.i:Int)=(i:Int) then some _ else Hc (i:Int) (qg l))=_
  rw[pq,DO i l];by_cases h:x.1.i=i
  ·have:(x.1.i:Int)=(i:Int):=by omega
   rw[if_pos this,if_pos h];rfl
  ·have:¬(x.1.i:Int)=(i:Int):=by omega
   rw[if_neg this,if_neg h]
theorem J1:∀bz:List (Rz×Nat),Hc (-1) (qg bz)=none
 |[]=>rfl
 |x::l=>by
  show (if (x.1.i:Int)= -1 then some _ else Hc (-1) (qg l))=_
  rw[if_neg (by omega),J1 l]
section
variable {B:ag} {L:List cw} {H:ag} {K:V→ag→Prop}
theorem uO {zs:List Rz} {z:Rz} (h:az B H (bw (zs.map Rz.bX)::L)) (hz:z∈zs):Rd H z.q (z.rs.map Rf.cs).flatten∧∀r∈z.rs,mn H r.q r.f.s.data:=by
 obtain⟨j,hj,rfl⟩:=List.mem_iff_getElem.1 hz;have h1:=h.p9 (i:=j) (by simpa using hj);rw[List.getElem_map] at h1;have h2:=az.Ly h1;refine⟨h2.kF,fun r hr=> ?_⟩;obtain⟨k,hk,rfl⟩:=List.mem_iff_getElem.1 hr;have h3:=(h2.ord [1]).p9 (i:=k) (by simpa using hk);rw[List.getElem_map] at h3;exact h3.iU
structure FcG (H:ag) (fid:Nat) (r:Rf):Prop where
 i:∀k<8,H.inb fid k 1=true
 c:∀k<8,H.cell fid k=ae r.cs k
 d:mn H r.q r.f.s.data
theorem fcG {fid:Nat} {r:Rf} (hg:H.get fid=some (.cells 130 r.cs false)) (hd:mn H r.q r.f.s.data):FcG H fid r:=
 ⟨fun k hk=>nD hg (by show k<8;exact hk),fun k hk=>aZ hg k,hd⟩
theorem VL {fid:Nat} {o r:Rf} (g:FcG H fid r) (ho:mn H o.q o.f.s.data):cl 123 [.agg o.cs,.aj (some (fid,0))] H K=K (.bool (Ik o.f r.f)) H:=by
 unfold Rf.cs;rw[Zl];have c2:H.cell fid 2=.int .u8 (r.f.s.cU:Int):=g.c 2 (by omega);have c4:H.cell fid 4=.int .u64 (r.f.s.seq:Int):=g.c 4 (by omega);have c5:H.cell fid 5=.int .i64 (r.f.s.an:Int):=g.c 5 (by omega);have c7:H.cell fid 7=.slice r.q r.f.s.data.length r.c:=g.c 7 (by omega);simp only[AN,Nat.zero_add,g.i 2 (by omega),g.i 4 (by omega),g.i 5 (by omega),g.i 7 (by omega),c2,c4,c5,c7];unfold Ik;by_cases h1:o.f.s.cU=r.f.s.cU
 ·have xB:(o.f.s.cU:Int)=(r.f.s.cU:Int):=by omega
  simp only[h1,decide_true,ar,Bool.true_and];by_cases h2:o.f.s.an=r.f.s.an
  ·have Cz:(o.f.s.an:Int)=(r.f.s.an:Int):=by omega
   simp only[h2,decide_true,ar,Bool.true_and];by_cases h3:o.f.s.seq<r.f.s.seq
   ·have TG:(o.f.s.seq:Int)<(r.f.s.seq:Int):=by omega
    simp only[h3,TG,decide_true,ar,Bool.true_and,ho.eY,ho.eZ,g.d.eY,g.d.eZ,av,p7]
   ·have TG:¬(o.f.s.seq:Int)<(r.f.s.seq:Int):=by omega
    simp only[h3,TG,decide_false,ai,Bool.false_and]
  ·have Cz:¬(o.f.s.an:Int)=(r.f.s.an:Int):=by omega
   simp only[h2,Cz,decide_false,ai,Bool.false_and]
 ·have xB:¬(o.f.s.cU:Int)=(r.f.s.cU:Int):=by omega
  simp only[h1,xB,decide_false,ai,Bool.false_and]
theorem Tj {fid:Nat} {r:Rf} (g:FcG H fid r) {q:Oq} {c:Nat} {rs:List Rf} (hr:Rd H q (rs.map Rf.cs).flatten) (hd:∀o∈rs,mn H o.q o.f.s.data) (hl:rs.length≤1000000) {Kr:Am.St→Prop} {Ke:Nat→Am.St→Prop} (k1:∀j:Nat,(rs.any fun o=>Ik o.f r.f)=true→Kr (St.mk (ab [(4,T.v (V.int .i64 (j:Int)))]) (ab []) H)) (k2:(rs.any fun o=>Ik o.f r.f)=false→Ke 0 (St.mk (ab []) (ab []) H)):∀(k i:Nat),i+k=rs.length→((rs.take i).any fun o=>Ik o.f r.f)=false→lo 142 2 (St.mk (ab [(0,T.v (V.slice q rs.length c)),(1,T.v (V.func 123 [.aj (some (fid,0))])),(7,T.v (V.int .i64 (rs.length:Int))),(8,T.v (V.int .i64 (i:Int)))]) (ab []) H) Kr Ke
 |0,i,hi,hn=>by
  obtain rfl:i=rs.length:=by omega
  rw[List.take_length] at hn;rw[Jw,decide_eq_false (by omega),ai];exact k2 hn
 |k+1,i,hi,hn=>by
  have hlt:i<rs.length:=by omega
  obtain⟨s1,s2,s3⟩:=wW hr (vQ rs).pr (by decide) (i:=i) (by simpa using hlt);have s2':H.inb (pb q) (po q+i*8) 8=true:=s2
  have I7:H.sub (pb q) (po q+i*8) 8=(rs[i]).cs:=by
   rw[List.getElem_map] at s3;exact s3
  have a1:(i:Int)<(rs.length:Int):=by omega
  have a2:0≤(i:Int):=by omega
  have hfit:aI pf (rs[i]).cs=true:=rfl;have An:Ln (rs[i]).cs=(rs[i]).cs:=rfl;rw[Jw];simp only[AN,a1,a2,Int.toNat_natCast,s1,s2',I7,hfit,An];show cl 123 [.agg (rs[i]).cs,.aj (some (fid,0))] H _
  rw[VL g (hd _ (List.getElem_mem hlt))];simp only[AN]
  cases hm:Ik (rs[i]).f r.f with
  |true=>
   simp only[ar];exact k1 i (List.any_eq_true.2 ⟨_,List.getElem_mem hlt,hm⟩)
  |false=>
   simp only[ai];rw[aK (by omega)];refine Tj g hr hd hl k1 k2 k (i+1) (by omega) ?_;rw[List.take_succ_eq_append_getElem hlt,List.any_append,hn];simp [hm]
theorem OM {fid:Nat} {r:Rf} (g:FcG H fid r) {q:Oq} {c:Nat} {rs:List Rf} (hr:Rd H q (rs.map Rf.cs).flatten) (hd:∀o∈rs,mn H o.q o.f.s.data) (hl:rs.length≤1000000):K (.bool (rs.any fun o=>Ik o.f r.f)) H→cl 122 [.slice q rs.length c,.func 123 [.aj (some (fid,0))]] H K:=by
 intro k;rw[Zk,Zx];refine Tj g hr hd hl (fun j e=> ?_) (fun e=> ?_) rs.length 0 (by omega) (by simp)
 ·have:(j:Int)≥0:=by omega
  simp only[AN,reduceIte,this];rw[e] at k;exact k
 ·have:¬(-1:Int)≥0:=by decide
  simp only[AN,this];rw[e] at k;exact k
theorem any_map (rs:List Rf) (f:Fd):(rs.map Rf.f).any (fun o=>Ik o f)=rs.any fun o=>Ik o.f f:=by
 rw[List.any_map];rfl
theorem ON {mid c:Nat} {bz:List (Rz×Nat)} (h:az B H (iI mid (qg bz) c::L)) (i:Nat):
 cu H (some mid) (i:Int) (.slice none 0 0)=match pq i bz with|some z=>V.slice z.q z.rs.length z.c|none=>V.slice none 0 0:=by
 rw[zo h,DO];cases pq i bz<;>rfl
theorem Tk {mid c:Nat} {bz:List (Rz×Nat)} {zs:List Rz} (hbz:∀x∈bz,x.1∈zs) (hl:∀z∈zs,z.rs.length≤1000000) {z:Rz} (hz:z∈zs) (fr:Nat) {Kr:Am.St→Prop} {Ke:Nat→Am.St→Prop} (k1:∀H',az B H' (iI mid (qg bz) c::bw (zs.map Rz.bX)::L)→((z.rs.map Rf.f).all (sU (nI bz) fr))=false→Kr (St.mk (ab [(4,T.v (V.bool false))]) (ab []) H')) (k2:∀H',az B H' (iI mid (qg bz) c::bw (zs.map Rz.bX)::L)→((z.rs.map Rf.f).all (sU (nI bz) fr))=true→Ke 0 (St.mk (ab []) (ab []) H')):∀(k i:Nat) {H:ag},i+k=z.rs.length→(((z.rs.take i).map Rf.f).all (sU (nI bz) fr))=true→az B H (iI mid (qg bz) c::bw (zs.map Rz.bX)::L)→lo 99 6 (St.mk (ab [(0,T.v (V.map (some mid))),(5,T.v (V.int .i64 ((fr:Int)-1))),(23,T.v (V.slice z.q z.rs.length z.c)),(24,T.v (V.int .i64 (z.rs.length:Int))),(25,T.v (V.int .i64 (i:Int)))]) (ab []) H) Kr Ke
 |0,i,H,hi,hn,h=>by
  obtain rfl:i=z.rs.length:=by omega
  rw[List.take_length] at hn;rw[NW,decide_eq_false (by omega),ai];exact k2 H h hn
 |k+1,i,H,hi,hn,h=>by
  have hlt:i<z.rs.length:=by omega
  obtain⟨hrz,hdz⟩:=uO (h.ord [1]) hz;obtain⟨s1,s2,s3⟩:=wW hrz (vQ z.rs).pr (by decide) (i:=i) (by simpa using hlt);have s2':H.inb (pb z.q) (po z.q+i*8) 8=true:=s2
  have I7:H.sub (pb z.q) (po z.q+i*8) 8=(z.rs[i]).cs:=by
   rw[List.getElem_map] at s3;exact s3
  have a1:(i:Int)<(z.rs.length:Int):=by omega
  have a2:0≤(i:Int):=by omega
  have hfit:aI pf (z.rs[i]).cs=true:=rfl;have An:Ln (z.rs[i]).cs=(z.rs[i]).cs:=rfl;obtain⟨fid,MO⟩:∃f,f=H.next:=⟨_,rfl⟩;have h1:=h.alloc 130 (kR 0 0 0 0 0 0 0 none 0 0);have hw:(H.alloc (.cells 130 (kR 0 0 0 0 0 0 0 none 0 0) false)).wr H.next 0 8=true:=fF h1.get 0 8;have h2:=h1.store (off:=0) (vs:=(z.rs[i]).cs)
  have e2:bI (kR 0 0 0 0 0 0 0 none 0 0) 0 (z.rs[i]).cs=(z.rs[i]).cs:=by
   rw[fW _ _ _ (by show 0+8≤8;omega)];rfl
  rw[e2] at h2;rw[NW];simp only[AN,a1,a2,Int.toNat_natCast,s1,s2',I7,hfit,An,hw];generalize (ag.store _ _ _ _)=H2 at h2⊢;rw[←MO] at h2⊢;have SD:mn H2 (z.rs[i]).q (z.rs[i]).f.s.data:=(uO (h2.ord [2]) hz).2 _ (List.getElem_mem hlt);have g:=fcG h2.get SD;have hm2:=h2.ord [1];have hmo:=uK hm2
  have hnext:∀H',az B H' (db fid 130 (z.rs[i]).cs::iI mid (qg bz) c::bw (zs.map Rz.bX)::L)→sU (nI bz) fr (z.rs[i]).f=true→
   lo 99 6
    (St.mk (ab [(0,T.v (V.map (some mid))),(5,T.v (V.int .i64 ((fr:Int)-1))),(23,T.v (V.slice z.q z.rs.length z.c)),(24,T.v (V.int .i64 (z.rs.length:Int))),(25,T.v (V.int .i64 (IntKind.i64.wrap ((i:Int)+1))))]) (ab []) H') Kr Ke:=by
   intro H' h' hc;have:=hl z hz;rw[aK (by omega)];refine Tk hbz hl hz fr k1 k2 k (i+1) (by omega) ?_ h'.drop;rw[List.take_succ_eq_append_getElem hlt,List.map_append,List.all_append,hn];simp [hc]
  have hstop:∀H',az B H' (db fid 130 (z.rs[i]).cs::iI mid (qg bz) c::bw (zs.map Rz.bX)::L)→sU (nI bz) fr (z.rs[i]).f=false→Kr (St.mk (ab [(4,T.v (V.bool false))]) (ab []) H'):=by
   intro H' h' hc;refine k1 H' h'.drop ?_;rw[List.all_eq_false];exact⟨_,List.mem_map.2 ⟨_,List.getElem_mem hlt,rfl⟩,by simp [hc]⟩
  have c6:H2.cell fid 6=.int .i64 (((z.rs[i]).f.s.fr:Int)-1):=g.c 6 (by omega);by_cases hfr:fr=0
  ·subst hfr;have hk:((0:Nat):Int)-1= -1:=rfl;rw[hk] at hnext⊢;have oT:cu H2 (some mid) (-1) (.slice none 0 0)=.slice none 0 0:=by rw[zo hm2,J1];rfl
   have hneg:(-1:Int)<0:=by decide
   have Wr:sU (nI bz) 0 (z.rs[i]).f=false:=by simp [sU]
   simp only[hmo,oT,AN];refine OM (rs:=[]) g (Rd.nil _ _) (fun o ho=>by cases ho) (by simp) ?_;simp only[AN,hneg,aQ,Bool.false_eq_true,if_false,cond_false];exact hstop H2 h2 Wr
  ·have hk:((fr:Nat):Int)-1=((fr-1:Nat):Int):=by omega
   have hnn:¬((fr-1:Nat):Int)<0:=by omega
   have oT:=ON hm2 (fr-1)
   have hlk:Il (nI bz) fr=match pq (fr-1) bz with|some z=>z.rs.map Rf.f|none=>[]:=by
    unfold Il;rw[if_neg hfr,uN]
   have fin:∀(b:Bool),b=(Il (nI bz) fr).any (fun o=>Ik o (z.rs[i]).f)→
    br (bif decide (((z.rs[i]).f.s.fr:Int)-1=((fr-1:Nat):Int)) then !b else true) (Kr (St.mk (ab [(4,T.v (V.bool false))]) (ab []) H2))
     (lo 99 6
    (St.mk (ab [(0,T.v (V.map (some mid))),(5,T.v (V.int .i64 ((fr-1:Nat):Int))),(23,T.v (V.slice z.q z.rs.length z.c)),(24,T.v (V.int .i64 (z.rs.length:Int))),(25,T.v (V.int .i64 (IntKind.i64.wrap ((i:Int)+1))))]) (ab []) H2) Kr Ke):=by
    intro b hb;by_cases SM:(z.rs[i]).f.s.fr=fr
    ·have:((z.rs[i]).f.s.fr:Int)-1=((fr-1:Nat):Int):=by omega
     simp only[this,decide_true,cond_true]
     cases A9:b with
     |true=>
      simp only[Bool.not_true,ai];have:=hnext H2 h2 (by unfold sU;rw[←hb,A9];simp [hfr,SM]);rw[hk] at this;exact this
     |false=>
      simp only[Bool.not_false,ar];exact hstop H2 h2 (by unfold sU;rw[←hb,A9];simp)
    ·have:¬((z.rs[i]).f.s.fr:Int)-1=((fr-1:Nat):Int):=by omega
     simp only[this,decide_false,cond_false,ar];exact hstop H2 h2 (by unfold sU;simp [SM])
   rw[hk]
   cases WD:pq (fr-1) bz with
   |none=>
    rw[WD] at oT hlk;simp only[hmo,oT,AN];refine OM (rs:=[]) g (Rd.nil _ _) (fun o ho=>by cases ho) (by simp) ?_;simp only[AN,hnn,aQ,if_true,g.i 6 (by omega),c6,cond_true,Bool.not_not];have:=fin ([].any fun o:Rf=>Ik o.f (z.rs[i]).f) (by rw[hlk];rfl);exact this
   |some z2=>
    rw[WD] at oT hlk;obtain⟨b2,m7⟩:=uL WD;have xY:=hbz _ m7;obtain⟨xC,hd2⟩:=uO (h2.ord [2]) xY;simp only[hmo,oT,AN];refine OM g xC hd2 (hl _ xY) ?_;simp only[AN,hnn,aQ,if_true,g.i 6 (by omega),c6,cond_true,Bool.not_not];exact fin _ (by rw[hlk];exact(any_map _ _).symm)
theorem LD {mid c:Nat} {bz:List (Rz×Nat)} {zs:List Rz} (h:az B H (iI mid (qg bz) c::bw (zs.map Rz.bX)::L)) (hbz:∀x∈bz,x.1∈zs) (hl:∀z∈zs,z.rs.length≤1000000) (i:Nat) (k:∀H',az B H' (iI mid (qg bz) c::bw (zs.map Rz.bX)::L)→K (.bool (kT (nI bz) i)) H'):cl 99 [.map (some mid),.int .i64 (i:Int)] H K:=by
 rw[ab2];have hmo:=uK h;have oT:=ON h i
 have qA:kT (nI bz) i=match pq i bz with|some z=>(match z.rs.map Rf.f with|[]=>false|f::l=>(f::l).all (sU (nI bz) f.s.fr))|none=>false:=by
  unfold kT;rw[uN];cases pq i bz<;>rfl
 cases WD:pq i bz with
 |none=>
  rw[WD] at oT qA;rw[qA] at k;simp only[hmo,oT,AN];exact k H h
 |some z=>
  rw[WD] at oT qA;obtain⟨b2,m7⟩:=uL WD;have hz:=hbz _ m7;simp only[hmo,oT,AN];dsimp only at qA
  cases SL:z.rs with
  |nil=>
   rw[SL] at qA;rw[qA] at k;simp only[AN];exact k H h
  |cons r l=>
   have aaF:kT (nI bz) i=(z.rs.map Rf.f).all (sU (nI bz) r.f.s.fr):=by
    rw[qA,SL];rfl
   obtain⟨hrz,hdz⟩:=uO (h.ord [1]) hz;obtain⟨s1,s2,s3⟩:=jP hrz (vQ z.rs).pr (i:=0) (k:=6) (by rw[SL];simp) (by decide)
   have I7:H.cell (pb z.q) (po z.q+2+4)=.int .i64 ((r.f.s.fr:Int)-1):=by
    have:po z.q+0*List.length pf+6=po z.q+2+4:=by omega
    rw[this] at s3;rw[s3];simp only[SL,List.map_cons,List.getElem_cons_zero];rfl
   have s2':H.inb (pb z.q) (po z.q+2+4) 1=true:=by
    have:po z.q+0*List.length pf+6=po z.q+2+4:=by omega
    rw[this] at s2;exact s2
   have a1:¬(((l.length+1:Nat)):Int)=0:=by omega
   have a2:0<(((l.length+1:Nat)):Int):=by omega
   simp only[List.length_cons,a1,a2,decide_false,decide_true,ai,s1,s2',I7,AN];have hlen:z.rs.length=l.length+1:=by rw[SL];rfl
   have:=Tk (mid:=mid) (c:=c) (L:=L) (B:=B) (Kr:=fun S'=>ah (aB (KT.k .bool) (S'.1 4)) (K (V.bool (V.ak (T.val (S'.1 4)))) S'.3)) (Ke:=fun j S'=>br (decide (j=0)) (K (V.bool true) S'.3) False) hbz hl (z:=z) hz r.f.s.fr (fun H' h' e=> ?_) (fun H' h' e=> ?_) z.rs.length 0 (Nat.zero_add _) (by simp) h
   ·rw[hlen] at this;exact this
   ·simp only[AN,reduceIte];rw[aaF,e] at k;exact k H' h'
   ·simp only[AN];rw[aaF,e] at k;exact k H' h'
end
abbrev Pl:=Oq
structure Pm where
 cg:List Pl
 nb:Nat
def vk (b:Nat):Pl→Bool
 |some x=>decide (x.1=b)
 |none=>false
def Pm.ef (m:Pm) (b:Nat):Nat:=m.cg.countP (vk b)
def Pm.hZ (m:Pm):List Int:=(List.range m.nb).map fun b=>(m.ef b:Int)
structure Pm.ok (m:Pm):Prop where
 pl:∀b p,some (b,p)∈m.cg→b<m.nb∧p<32
 n:m.cg.length≤65536
 nb:m.nb≤64
def vS:Pl→List V
 |some x=>jg x.1 x.2
 |none=>jg 0 0
def xw (o:Pl):List V:=[.bool o.isSome]
structure Pq where
 q1:Oq
 c1:Nat
 q2:Oq
 c2:Nat
 q3:Oq
 c3:Nat
def Hd (m:Pm) (x:Pq):List V:=AT x.q1 m.cg.length x.c1 x.q2 m.cg.length x.c2 x.q3 m.nb x.c3
def uP (id:Nat) (m:Pm):cw:=EK fun x:Pq=>bw [db id 175 (Hd m x),Rw 128 2 x.q1 x.c1 (m.cg.map vS),Rw 4 1 x.q2 x.c2 (m.cg.map xw),IR x.q3 x.c3 m.hZ]
section
variable {B:ag} {L:List cw} {H:ag} {K:V→ag→Prop} {id:Nat} {m:Pm} {x:Pq}
abbrev BI (B H:ag) (id:Nat) (m:Pm) (x:Pq) (L:List cw):Prop:=az B H (db id 175 (Hd m x)::Rw 128 2 x.q1 x.c1 (m.cg.map vS)::Rw 4 1 x.q2 x.c2 (m.cg.map xw)::IR x.q3 x.c3 m.hZ::L)
theorem BI.of (h:az B H (uP id m::L)):∃x,BI B H id m x L:=by
 obtain⟨x,h⟩:=h.MV;exact⟨x,h.Ly⟩
theorem BI.to (h:BI B H id m x L):az B H (uP id m::L):=by
 have h2:az B H (bw [db id 175 (Hd m x),Rw 128 2 x.q1 x.c1 (m.cg.map vS),Rw 4 1 x.q2 x.c2 (m.cg.map xw),IR x.q3 x.c3 m.hZ]::L):=az.sN h;exact az.intro h2
theorem DP (l:List Pl):Rq HW (l.map vS):=by
 intro c hc;obtain⟨r,_,rfl⟩:=List.mem_map.1 hc;cases r<;>rfl
theorem F0 (l:List Pl):Rq [.bool] (l.map xw):=by
 intro c hc;obtain⟨r,_,rfl⟩:=List.mem_map.1 hc;rfl
@[simp] theorem qh (m:Pm):m.hZ.length=m.nb:=by simp [Pm.hZ]
structure PmG (H:ag) (id:Nat) (m:Pm) (x:Pq):Prop where
 i0:H.inb id 0 1=true
 i1:H.inb id 1 1=true
 i2:H.inb id 2 1=true
 c0:H.cell id 0=.slice x.q1 m.cg.length x.c1
 c1:H.cell id 1=.slice x.q2 m.cg.length x.c2
 c2:H.cell id 2=.slice x.q3 m.nb x.c3
 a0:∀(a:Nat) (ha:a<m.cg.length),x.q1.isSome=true∧H.inb (pb x.q1) (po x.q1+a*2) 2=true∧H.sub (pb x.q1) (po x.q1+a*2) 2=vS (m.cg[a])∧
  H.inb (pb x.q1) (po x.q1+a*2) 1=true∧H.cell (pb x.q1) (po x.q1+a*2)=ae (vS (m.cg[a])) 0
 a1:∀(a:Nat) (ha:a<m.cg.length),x.q2.isSome=true∧H.inb (pb x.q2) (po x.q2+a*1) 1=true∧H.cell (pb x.q2) (po x.q2+a*1)=.bool (m.cg[a]).isSome
 a2:∀(b:Nat) (hb:b<m.nb),x.q3.isSome=true∧H.inb (pb x.q3) (po x.q3+b*1) 1=true∧H.cell (pb x.q3) (po x.q3+b*1)=.int .i64 (m.ef b:Int)
theorem VM (h:BI B H id m x L):PmG H id m x:=by
 have hg:=h.get;have hl:(Hd m x).length=3:=rfl;have h1:=(h.ord [1]).kF;have h2:=(h.ord [2]).kF;have h3:=az.sO (h.ord [3]);refine⟨nD hg (by omega),nD hg (by omega),nD hg (by omega),aZ hg 0,aZ hg 1,aZ hg 2,fun a ha=> ?_,fun a ha=> ?_,fun b hb=> ?_⟩
 ·have ha':a<(m.cg.map vS).length:=by simpa using ha
  obtain⟨s1,s2,s3⟩:=jP h1 (DP _).pr (i:=a) (k:=0) ha' (by decide);obtain⟨t1,t2,t3⟩:=wW h1 (DP _).pr (by decide) ha';refine⟨s1,t2, ?_,s2, ?_⟩
  ·have:=t3;rw[List.getElem_map] at this;exact this
  ·rw[List.getElem_map] at s3;exact s3
 ·have ha':a<(m.cg.map xw).length:=by simpa using ha
  obtain⟨s1,s2,s3⟩:=jP h2 (F0 _).pr (i:=a) (k:=0) ha' (by decide);rw[List.getElem_map] at s3;exact⟨s1,s2,s3⟩
 ·obtain⟨s1,s2,s3⟩:=h3.at (i:=b) (by simpa using hb);refine⟨s1,s2, ?_⟩;rw[s3];simp [Pm.hZ]
end
def Pm.put (m:Pm) (a:Nat) (o:Pl):Pm:={m with cg:=m.cg.set a o}
def Pm.new (n nb:Nat):Pm:=⟨List.replicate n none,nb⟩
theorem F1 {m m':Pm} (hn:m'.nb=m.nb) {b0:Nat} {v:Int} (h0:(m'.ef b0:Int)=v) (h:∀b,b≠b0→m'.ef b=m.ef b):m'.hZ=m.hZ.set b0 v:=by
 apply List.ext_getElem
 ·simp [hn]
 ·intro i h1 h2;rw[List.getElem_set];simp only[Pm.hZ,List.getElem_map,List.getElem_range];by_cases hb:b0=i
  ·subst hb;rw[if_pos rfl];exact h0
  ·rw[if_neg hb,h i (fun e=>hb e.symm)]
theorem xL (m:Pm) {a:Nat} (ha:a<m.cg.length) (o:Pl) (b:Nat):(m.put a o).ef b+(if vk b m.cg[a]=true then 1 else 0)=m.ef b+(if vk b o=true then 1 else 0):=by
 unfold Pm.ef Pm.put;rw[List.countP_set ha];have:vk b m.cg[a]=true→0<m.cg.countP (vk b):=fun h=>List.countP_pos_iff.2 ⟨_,List.getElem_mem ha,h⟩
 split<;>rename_i h1
 ·have:=this h1;omega
 ·omega
theorem Im (m:Pm) {a:Nat} (ha:a<m.cg.length) (h:m.cg[a]=none):m.put a none=m:=by
 unfold Pm.put;have:m.cg.set a none=m.cg:=by rw[←h];exact List.set_getElem_self ha
 rw[this]
theorem LF (m:Pm) {a b p:Nat} (ha:a<m.cg.length) (h:m.cg[a]=some (b,p)):(m.put a none).hZ=m.hZ.set b ((m.ef b:Int)-1):=by
 refine F1 (m:=m) (m':=m.put a none) rfl ?_ (fun b' hb=> ?_)
 ·have:=xL m ha none b;rw[h] at this;simp [vk] at this;omega
 ·have:=xL m ha none b';rw[h] at this;have hb':¬b=b':=fun e=>hb e.symm
  simp [vk,hb'] at this;omega
theorem OO (m:Pm) {a b p:Nat} (ha:a<m.cg.length) (h:m.cg[a]=none):(m.put a (some (b,p))).hZ=m.hZ.set b ((m.ef b:Int)+1):=by
 refine F1 (m:=m) (m':=m.put a (some (b,p))) rfl ?_ (fun b' hb=> ?_)
 ·have:=xL m ha (some (b,p)) b;rw[h] at this;simp [vk] at this;omega
 ·have:=xL m ha (some (b,p)) b';rw[h] at this;have hb':¬b=b':=fun e=>hb e.symm
  simp [vk,hb'] at this;omega
theorem OP (m:Pm) (b:Nat):m.ef b≤m.cg.length:=List.countP_le_length
theorem Pm.ok.put {m:Pm} (h:m.ok) {a:Nat} {o:Pl} (ho:∀b p,o=some (b,p)→b<m.nb∧p<32):(m.put a o).ok:=by
 refine⟨fun b p hm=> ?_,by unfold Pm.put;rw[List.length_set];exact h.n,h.nb⟩;rcases List.mem_or_eq_of_mem_set hm with hm|hm
 ·exact h.pl b p hm
 ·exact ho b p hm.symm
section
variable {B:ag} {L:List cw} {H:ag} {K:V→ag→Prop} {id:Nat} {m:Pm} {x:Pq}
theorem az.Tl {q:Oq} {c:Nat} {l:List Int} (h:az B H (IR q c l::L)) {i:Nat} (hi:i<l.length) (v:Int):H.wr (pb q) (po q+i*1) 1=true∧az B (H.store (pb q) (po q+i*1) [.int .i64 v]) (IR q c (l.set i v)::L):=by
 have hu:pj 1 (l.map fun i=>[V.int .i64 i]):=by
  intro c hc;obtain⟨r,_,rfl⟩:=List.mem_map.1 hc;exact⟨rfl,fun v hv=>by rw[List.mem_singleton] at hv;subst hv;rfl⟩
 have h1:=h.DH hu (i:=i) (k:=0) (by simpa using hi) (by omega) (v:=.int .i64 v) rfl;refine⟨h1.1, ?_⟩;have h2:=h1.2;unfold IR;rw[List.map_set];rw[List.getElem_map] at h2;exact h2
theorem OQ {q:Oq} {c:Nat} {l:List Pl} (h:az B H (Rw 4 1 q c (l.map xw)::L)) {i:Nat} (hi:i<l.length) (o:Pl):H.wr (pb q) (po q+i*1) 1=true∧az B (H.store (pb q) (po q+i*1) [.bool o.isSome]) (Rw 4 1 q c ((l.set i o).map xw)::L):=by
 have h1:=h.DH (F0 l).pr (i:=i) (k:=0) (by simpa using hi) (by decide) (v:=.bool o.isSome) rfl;refine⟨h1.1, ?_⟩;have h2:=h1.2;rw[List.map_set];rw[List.getElem_map] at h2;exact h2
theorem Tm {q:Oq} {c:Nat} {l:List Pl} (h:az B H (Rw 128 2 q c (l.map vS)::L)) {i:Nat} (hi:i<l.length) (o:Pl):H.wr (pb q) (po q+i*2) 2=true∧az B (H.store (pb q) (po q+i*2) (vS o)) (Rw 128 2 q c ((l.set i o).map vS)::L):=by
 have h1:=h.JM (DP l).pr (i:=i) (by simpa using hi) (c:=vS o) (by cases o<;>rfl) (fun v hv=>by cases o<;>simp only[vS,jg,List.mem_cons,List.not_mem_nil,or_false] at hv<;>rcases hv with rfl|rfl<;>rfl);refine⟨h1.1, ?_⟩;have h2:=h1.2;rw[List.map_set];exact h2
theorem BI.acG (h:BI B H id m x L) {a:Nat} (ha:a<m.cg.length) (o:Pl):H.wr (pb x.q1) (po x.q1+a*2) 2=true∧(H.store (pb x.q1) (po x.q1+a*2) (vS o)).wr (pb x.q2) (po x.q2+a*1) 1=true∧az B ((H.store (pb x.q1) (po x.q1+a*2) (vS o)).store (pb x.q2) (po x.q2+a*1) [.bool o.isSome]) (db id 175 (Hd m x)::Rw 128 2 x.q1 x.c1 ((m.put a o).cg.map vS)::Rw 4 1 x.q2 x.c2 ((m.put a o).cg.map xw)::IR x.q3 x.c3 m.hZ::L):=by
 obtain⟨w1,h1⟩:=Tm (h.ord [1]) ha o;obtain⟨w2,h2⟩:=OQ (h1.ord [2]) ha o;exact⟨w1,w2,h2.ord [2,1]⟩
theorem OR (h:az B H (uP id m::L)) {a:Nat} (ha:a<m.cg.length):¬(a:Int)<0∧0≤(a:Int)∧¬(a:Int)≥(m.cg.length:Int)∧(a:Int)<(m.cg.length:Int):=by
 refine⟨?_, ?_, ?_, ?_⟩<;>omega
theorem OS (h:az B H (uP id m::L)) (hok:m.ok) {a:Nat} (ha:a<m.cg.length) (k:∀H',az B H' (uP id (m.put a none)::L)→K (.int .i64 0) H'):cl 124 [.aj (some (id,0)),.int .i64 (a:Int)] H K:=by
 obtain⟨n1,n2,n3,n4⟩:=OR h ha;obtain⟨x,hx⟩:=BI.of h;have g:=VM hx;obtain⟨s1,i1,c1⟩:=g.a1 a ha;obtain⟨s0,_,_,i0,c0⟩:=g.a0 a ha;rw[Zm];simp only[AJ,Option.isNone_some,Option.isSome_some,aQ,ite_self,n1,n2,n3,n4,g.i0,g.i1,g.i2,g.c0,g.c1,g.c2,Nat.zero_add,Int.toNat_natCast,s1,i1,c1,cond_true]
 have fin:∀{H1:ag},az B H1 (db id 175 (Hd m x)::Rw 128 2 x.q1 x.c1 (m.cg.map vS)::Rw 4 1 x.q2 x.c2 (m.cg.map xw)::IR x.q3 x.c3 (m.put a none).hZ::L)→
  H1.inb id 0 1=true∧H1.inb id 1 1=true∧H1.cell id 0=.slice x.q1 m.cg.length x.c1∧H1.cell id 1=.slice x.q2 m.cg.length x.c2∧H1.wr (pb x.q1) (po x.q1+a*2) 2=true∧
  (H1.store (pb x.q1) (po x.q1+a*2) (jg 0 0)).wr (pb x.q2) (po x.q2+a*1) 1=true∧
  K (.int .i64 0) ((H1.store (pb x.q1) (po x.q1+a*2) (jg 0 0)).store (pb x.q2) (po x.q2+a*1) [.bool false]):=by
  intro H1 h1;have hg:=h1.get;have hl:(Hd m x).length=3:=rfl;obtain⟨w1,h2⟩:=Tm (h1.ord [1]) ha none;obtain⟨w2,h3⟩:=OQ (h2.ord [2]) ha none;have h4:=h3.ord [2,1];refine⟨nD hg (by omega),nD hg (by omega),aZ hg 0,aZ hg 1,w1,w2,k _ (BI.to (x:=x) ?_)⟩;have e:Hd (m.put a none) x=Hd m x:=by unfold Hd Pm.put;simp only[List.length_set]
  unfold BI;rw[e];exact h4
 cases ho:m.cg[a] with
 |none=>
  rw[ho] at c1;have e:(m.put a none).hZ=m.hZ:=by rw[Im m ha ho]
  obtain⟨_,_,_,_,w1,w2,kk⟩:=fin (by rw[e];exact hx);simp only[Option.isSome_none,ai,s0,w1,w2,av];exact kk
 |some o=>
  obtain⟨b,p⟩:=o;have hbp:=hok.pl b p (by rw[←ho];exact List.getElem_mem ha);obtain⟨s2,i2,c2⟩:=g.a2 b hbp.1;rw[ho] at c0;have hc0:H.cell (pb x.q1) (po x.q1+a*2)=.int .i64 (b:Int):=c0;have b1:0≤(b:Int):=by omega
  have b2:(b:Int)<(m.nb:Int):=by omega
  have hle:=OP m b;have hn:=hok.n;obtain⟨w,h1⟩:=az.Tl (hx.ord [3]) (i:=b) (by simpa using hbp.1) ((m.ef b:Int)-1);simp only[Option.isSome_some,ar,s0,i0,hc0,AN,b1,b2,s2,i2,c2,Int.toNat_natCast];rw[bj (by omega) (by omega)];obtain⟨j0,j1,d0,d1,w1,w2,kk⟩:=fin (by rw[LF m ha ho];exact h1.ord [1,1,1]);simp only[w,j0,j1,d0,d1,n4,s0,s1,w1,w2,AN];exact kk
theorem J2 (h:az B H (uP id m::L)) (hok:m.ok) {a b p:Nat} (ha:a<m.cg.length) (hb:b<m.nb) (hp:p<32) (k:∀H',az B H' (uP id (m.put a (some (b,p)))::L)→K (.int .i64 0) H'):cl 100 [.aj (some (id,0)),.int .i64 (a:Int),.agg (jg (b:Int) (p:Int))] H K:=by
 obtain⟨n1,n2,n3,n4⟩:=OR h ha;obtain⟨x0,hx0⟩:=BI.of h;have g:=VM hx0;rw[Zb];have m1:¬(b:Int)<0:=by omega
 have m2:¬(b:Int)≥(m.nb:Int):=by omega
 have m3:¬(p:Int)<0:=by omega
 have m4:¬(p:Int)≥32:=by omega
 have m5:0≤(b:Int):=by omega
 have m6:(b:Int)<(m.nb:Int):=by omega
 simp only[AN,Option.isNone_some,Option.isSome_some,aQ,ite_self,n1,n2,n3,m1,m2,m3,m4,g.i0,g.i2,g.c0,g.c2,Nat.zero_add,Int.toNat_natCast,cond_true];refine OS h hok ha (fun H1 h1=> ?_);obtain⟨x,hx⟩:=BI.of h1;have MM:a<(m.put a none).cg.length:=by unfold Pm.put;rw[List.length_set];exact ha
 have TO:(m.put a none).cg.length=m.cg.length:=by unfold Pm.put;rw[List.length_set]
 have hnone:(m.put a none).cg[a]=none:=by unfold Pm.put;exact List.getElem_set_self MM
 have g1:=VM hx;obtain⟨s1,_,_⟩:=g1.a1 a MM;obtain⟨s0,_⟩:=g1.a0 a MM;obtain⟨w1,w2,h2⟩:=hx.acG MM (some (b,p));have w1':H1.wr (pb x.q1) (po x.q1+a*2) 2=true:=w1;have w2':(H1.store (pb x.q1) (po x.q1+a*2) (jg (b:Int) (p:Int))).wr (pb x.q2) (po x.q2+a*1) 1=true:=w2;have Cz:az B ((H1.store (pb x.q1) (po x.q1+a*2) (jg (b:Int) (p:Int))).store (pb x.q2) (po x.q2+a*1) [.bool true]) _:=h2;have c0:=g1.c0;have c1:=g1.c1;rw[TO] at c0 c1;simp only[AN,g1.i0,g1.i1,c0,c1,n4,s0,s1,w1',w2'];generalize (ag.store _ _ _ _)=H2 at Cz⊢;have hg:=Cz.get;have hl:(Hd (m.put a none) x).length=3:=rfl;have j2:H2.inb id 2 1=true:=nD hg (by omega);have d2:H2.cell id 2=.slice x.q3 m.nb x.c3:=aZ hg 2;obtain⟨s3,i3,c3⟩:=(az.sO (Cz.ord [3])).at (i:=b) (by rw[qh];exact hb);have ec:(m.put a none).hZ[b]'(by rw[qh];exact hb)=((m.put a none).ef b:Int):=by simp [Pm.hZ]
 rw[ec] at c3;have hle:=OP (m.put a none) b;have hn:=hok.n;obtain⟨w3,h3⟩:=az.Tl (Cz.ord [3]) (i:=b) (by rw[qh];exact hb) (((m.put a none).ef b:Int)+1);simp only[j2,d2,AN,m5,m6,s3,i3,c3];rw[bj (by omega) (by omega)];simp only[w3,av];refine k _ (BI.to (x:=x) ?_);have ep:(m.put a none).put a (some (b,p))=m.put a (some (b,p)):=by unfold Pm.put;simp only[List.set_set]
 rw[←OO (m.put a none) MM hnone (p:=p),ep] at h3;have e:Hd (m.put a (some (b,p))) x=Hd (m.put a none) x:=by unfold Hd Pm.put;simp only[List.length_set]
 unfold BI;rw[e];exact h3.ord [1,1,1]
theorem J3 (h:az B H (uP id m::L)) {a:Nat} (ha:a<m.cg.length):cl 105 [.aj (some (id,0)),.int .i64 (a:Int)] H K=K (.tuple [.agg (vS m.cg[a]),.bool (m.cg[a]).isSome]) H:=by
 obtain⟨n1,n2,n3,n4⟩:=OR h ha;obtain⟨x,hx⟩:=BI.of h;have g:=VM hx;obtain⟨s1,i1,c1⟩:=g.a1 a ha;obtain⟨s0,i0,c0,_,_⟩:=g.a0 a ha;simp only[ni,nj] at i1 c1;rw[Zg];simp only[AN,Option.isNone_some,Option.isSome_some,aQ,ite_self,n1,n2,n3,n4,g.i0,g.i1,g.c0,g.c1,Nat.zero_add,Int.toNat_natCast,s1,i1,c1,cond_true,s0,i0,c0]
 cases ho:m.cg[a] with
 |none=>simp only[Option.isSome_none,Bool.not_false,ar];rfl
 |some o=>obtain⟨b,p⟩:=o;simp only[Option.isSome_some,Bool.not_true,ai,vS,f127,XJ,av]
theorem nJ (h:az B H (uP id m::L)) {b:Nat} (hb:b<m.nb):cl 65 [.aj (some (id,0)),.int .i64 (b:Int)] H K=K (.int .i64 (m.ef b:Int)) H:=by
 obtain⟨x,hx⟩:=BI.of h;have g:=VM hx;obtain⟨s2,i2,c2⟩:=g.a2 b hb;have m1:¬(b:Int)<0:=by omega
 have m2:¬(b:Int)≥(m.nb:Int):=by omega
 have m5:0≤(b:Int):=by omega
 have m6:(b:Int)<(m.nb:Int):=by omega
 rw[abL];simp only[AN,Option.isNone_some,Option.isSome_some,aQ,ite_self,m1,m2,m5,m6,g.i2,g.c2,Nat.zero_add,Int.toNat_natCast,s2,i2,c2,cond_true]
end
def sV (f:Nat→Int):List V:=vH (f 0) (f 1) (f 2) (f 3) (f 4) (f 5) (f 6) (f 7) (f 8) (f 9) (f 10) (f 11) (f 12) (f 13) (f 14) (f 15) (f 16) (f 17) (f 18) (f 19) (f 20) (f 21) (f 22) (f 23) (f 24) (f 25) (f 26) (f 27) (f 28) (f 29) (f 30) (f 31)
theorem RB (f:Nat→Int):sV f=(List.range 32).map fun k=>.int .i64 (f k):=rfl
theorem OT (f:Nat→Int) {i:Nat} (hi:i<32):ae (sV f) i=.int .i64 (f i):=by
 rw[RB,k6];simp [List.getD_eq_getElem?_getD,hi]
def DQ (f:Nat→Int) (n:Nat) (v:Int):Nat→Int:=fun k=>bif Nat.beq k n then v else f k
def EM (b:Nat):List Pl→Nat→(Nat→Int)→Nat→Int
 |[],_,f=>f
 |some x::l,i,f=>EM b l (i+1) (if x.1=b then DQ f x.2 ((i+1:Nat):Int) else f)
 |none::l,i,f=>EM b l (i+1) f
def Pm.by (m:Pm) (b:Nat):Nat→Int:=EM b m.cg 0 fun _=>0
def MX (f:Nat→Int) (i:Nat):List Int:=((List.range 32).drop i).filterMap fun p=>if f p>0 then some (f p-1) else none
def Pm.on (m:Pm) (b:Nat):List Int:=if m.ef b=0 then [] else MX (m.by b) 0
theorem RC (f:Nat→Int):MX f 32=[]:=rfl
theorem OU (f:Nat→Int) {i:Nat} (h:i<32):MX f i=if f i>0 then (f i-1)::MX f (i+1) else MX f (i+1):=by
 unfold MX;rw[List.drop_eq_getElem_cons (by simpa using h),List.filterMap_cons,List.getElem_range];by_cases hf:f i>0<;>simp [hf]
theorem qT (b:Nat):∀(l:List Pl) (i N:Nat) (f:Nat→Int),i+l.length≤N→(∀k,0≤f k∧f k≤N)→∀k,0≤EM b l i f k∧EM b l i f k≤N
 |[],i,N,f,h,hf,k=>hf k
 |none::l,i,N,f,h,hf,k=>qT b l (i+1) N f (by simp at h;omega) hf k
 |some x::l,i,N,f,h,hf,k=>by
  rw[EM];refine qT b l (i+1) N _ (by simp at h;omega) (fun k=> ?_) k;split
  ·unfold DQ;have h':i+(l.length+1)≤N:=h;cases Nat.beq k x.2
   ·exact hf k
   ·simp only[cond_true];omega
  ·exact hf k
section
variable {B:ag} {L:List cw} {H:ag} {K:V→ag→Prop} {id:Nat} {m:Pm} {x:Pq}
theorem Io (hx:BI B H id m x L) (hok:m.ok) (b:Nat) {Kr:Am.St→Prop} {Ke:Nat→Am.St→Prop}:∀(k i:Nat) (f:Nat→Int),i+k=m.cg.length→Ke 0 (St.mk (ab [(5,T.lp 5 0)]) (ab [(5,aU.cells 177 (sV (EM b (m.cg.drop i) i f)))]) H)→lo 67 6 (St.mk (ab [(0,T.v (V.aj (some (id,0)))),(1,T.v (V.int .i64 (b:Int))),(5,T.lp 5 0),(40,T.v (V.slice x.q1 m.cg.length x.c1)),(41,T.v (V.int .i64 (m.cg.length:Int))),(42,T.v (V.int .i64 (i:Int)))]) (ab [(5,aU.cells 177 (sV f))]) H) Kr Ke
 |0,i,f,hi,hk=>by
  obtain rfl:i=m.cg.length:=by omega
  rw[List.drop_length] at hk;unfold sV;rw[DB,decide_eq_false (by omega),ai];exact hk
 |k+1,i,f,hi,hk=>by
  have hlt:i<m.cg.length:=by omega
  have g:=VM hx;obtain⟨s0,i0,c0,_⟩:=g.a0 i hlt;obtain⟨s1,i1,c1⟩:=g.a1 i hlt;have a1:(i:Int)<(m.cg.length:Int):=by omega
  have a2:0≤(i:Int):=by omega
  have hn:=hok.n;rw[List.drop_eq_getElem_cons hlt] at hk
  cases ho:m.cg[i] with
  |none=>
   rw[ho] at c0 c1;rw[ho,EM] at hk;have ih:=Io hx hok b k (i+1) f (by omega) hk (Kr:=Kr);unfold sV at ih⊢;rw[DB];simp only[AN,a1,a2,Int.toNat_natCast,s0,i0,c0,s1,i1,c1,g.i1,g.c1,Nat.zero_add,Option.isSome_some,Option.isSome_none,vS,f127,Bool.false_and];rw[aK (by omega)];exact ih
  |some o=>
   obtain⟨b',p⟩:=o;obtain⟨hb',hp⟩:=hok.pl b' p (by rw[←ho];exact List.getElem_mem hlt);rw[ho] at c0 c1;rw[ho,EM] at hk;have ih:=Io hx hok b k (i+1) _ (by omega) hk (Kr:=Kr);by_cases A9:b'=b
   ·subst A9;rw[if_pos rfl] at ih;have p1:0≤(p:Int):=by omega
    have p2:(p:Int)<32:=by omega
    have p3:p*1+1≤32:=by omega
    unfold sV DQ at ih;unfold sV;rw[DB];simp only[oU,CH,CI,ar,av,TV,ix,aV,bV,bx,aN,fp,bN,Bool.true_and,Bool.or_false,Bool.and_self,decide_true,mD, a1,a2,Int.toNat_natCast,s0,i0,c0,s1,i1,c1,g.i1,g.c1,Nat.zero_add,Option.isSome_some,vS,f127,Dw,Dx,p1,p2,p3];rw[aK (by omega)];simp only[Nat.mul_one];exact ih
   ·rw[if_neg A9] at ih;have ac3:¬(b':Int)=(b:Int):=by omega
    unfold sV at ih⊢;rw[DB];simp only[AN,a1,a2,Int.toNat_natCast,s0,i0,c0,s1,i1,c1,g.i1,g.c1,Nat.zero_add,Option.isSome_some,vS,f127,Dw,Dx,ac3];rw[aK (by omega)];exact ih
theorem Ip (f:Nat→Int) (hf:∀k,0≤f k∧f k≤65536) {Kr:Am.St→Prop} {Ke:Nat→Am.St→Prop}:∀(k i:Nat) (out:List Int) {q:Oq} {c:Nat} {H:ag},i+k=32→out.length≤i→az B H (IR q c out::L)→(∀q' c' H',az B H' (IR q' c' (out++MX f i)::L)→Ke 2 (St.mk (ab [(8,T.v (V.slice q' (out++MX f i).length c'))]) (ab []) H'))→lo 67 16 (St.mk (ab [(8,T.v (V.slice q out.length c)),(66,T.v (V.agg (sV f))),(67,T.v (V.int .i64 (i:Int)))]) (ab []) H) Kr Ke
 |0,i,out,q,c,H,hi,ho,h,hk=>by
  obtain rfl:i=32:=by omega
  have:=hk q c H;rw[RC,List.append_nil] at this;unfold sV;rw[Jt];exact this h
 |k+1,i,out,q,c,H,hi,ho,h,hk=>by
  have hlt:i<32:=by omega
  have a1:(i:Int)<32:=by omega
  have a2:0≤(i:Int):=by omega
  have a3:Nat.succ i≤32:=by omega
  have hn:=OT f hlt;unfold sV at hn;have hs:=OU f hlt;unfold sV;rw[Jt];simp only[AN,a1,a2,Int.toNat_natCast,Nat.mul_one,hn,a3];have SA:=hf i;by_cases hp:f i>0
  ·rw[if_pos hp] at hs;rw[hs] at hk;simp only[hp,decide_true,ar];rw[bj (by omega) (by omega),aK (by omega)];refine az.zi h (f i-1) (by omega) (fun q' c' H' h'=> ?_);refine Ip f hf k (i+1) (out++[f i-1]) (by omega) (by simp;omega) h' (fun q2 c2 H2 h2=> ?_);have:=hk q2 c2 H2;rw[List.append_cons] at this;exact this h2
  ·rw[if_neg hp] at hs;rw[hs] at hk;simp only[hp,decide_false,ai];rw[aK (by omega)];exact Ip f hf k (i+1) out (by omega) (by omega) h hk
theorem OV (h:az B H (uP id m::L)) (hok:m.ok) {b:Nat} (hb:b<m.nb) (k:∀q c H',az B H' (IR q c (m.on b)::uP id m::L)→K (.slice q (m.on b).length c) H'):cl 67 [.aj (some (id,0)),.int .i64 (b:Int)] H K:=by
 obtain⟨x,hx⟩:=BI.of h;have g:=VM hx;obtain⟨s2,i2,c2⟩:=g.a2 b hb;have m1:¬(b:Int)<0:=by omega
 have m2:¬(b:Int)≥(m.nb:Int):=by omega
 have m5:0≤(b:Int):=by omega
 have m6:(b:Int)<(m.nb:Int):=by omega
 have i2':=i2;have c2':=c2;simp only[ni,nj] at i2' c2';rw[abN];simp only[AN,Option.isNone_some,Option.isSome_some,aQ,ite_self,m1,m2,m5,m6,g.i0,g.i2,g.c0,g.c2,Nat.zero_add,Int.toNat_natCast,s2,i2',c2',cond_true];unfold Pm.on at k;by_cases hc:m.ef b=0
 ·rw[if_pos hc] at k;have tq:(m.ef b:Int)=0:=by omega
  simp only[tq,decide_true,ar];exact k none 0 H (az.uC h)
 ·rw[if_neg hc] at k;have tq:¬(m.ef b:Int)=0:=by omega
  simp only[tq,decide_false,ai];refine Io hx hok b m.cg.length 0 (fun _=>0) (by omega) ?_;rw[List.drop_zero];have aaG:aI XL (sV (EM b m.cg 0 fun _=>0))=true:=rfl;simp only[AN,reduceIte,aaG];show lo _ _ (St.mk (ab [(8,T.v (V.slice none 0 0)),(66,T.v (V.agg (sV (m.by b)))),(67,T.v (V.int .i64 0))]) (ab []) H) _ _
  refine Ip (m.by b) (fun k=> ?_) 32 0 [] (by omega) (by simp) (az.uC h) (fun q' c' H' h'=> ?_)
  ·have hn:=hok.n;have:=qT b m.cg 0 m.cg.length (fun _=>0) (by omega) (fun k=>by omega) k;exact⟨this.1,Int.le_trans this.2 (by omega)⟩
  ·simp only[AN,reduceIte];exact k q' c' H' h'
end
theorem Tn (l:List V):∀n:Nat,(List.replicate n l).flatten=dU n l
 |0=>rfl
 |n+1=>by
  rw[List.replicate_succ,List.flatten_cons,Tn l n];rfl
section
variable {B:ag} {L:List cw} {H:ag} {K:V→ag→Prop} {id:Nat} {m:Pm} {x:Pq}
theorem az.Iq (h:az B H L) {el n:Nat} {c:List V} (hc:c.length=n) (h1:bd c) (N:Nat):az B (H.alloc (.cells el (dU N c) false)) (Rw el n (some (H.next,0)) N (List.replicate N c)::L):=by
 have hlen:(dU N c).length=N*n:=by rw[dU,gg,hc]
 unfold Rw;rw[Tn,List.length_replicate];exact(h.alloc _ _).unbuf hlen (gF h1 _) (by omega) (by rw[hlen];omega) (by rw[List.drop_zero,List.take_length])
theorem OW (n nb:Nat):(Pm.new n nb).hZ=List.replicate nb 0:=by
 apply List.ext_getElem
 ·simp [Pm.new]
 ·intro i h1 h2;simp [Pm.hZ,Pm.ef,Pm.new,List.countP_replicate,vk]
theorem RD (h:az B H L) {n nb:Nat} (hn:1≤n∧n≤65536) (hb:1≤nb∧nb≤64) (k:∀id H',az B H' (uP id (Pm.new n nb)::L)→K (.tuple [.aj (some (id,0)),.int .i64 0]) H'):cl 97 [.int .i64 (n:Int),.int .i64 (nb:Int)] H K:=by
 rw[ab0];have b1:¬(n:Int)<1:=by omega
 have b2:¬(n:Int)>65536:=by omega
 have b3:¬(nb:Int)<1:=by omega
 have b4:¬(nb:Int)>64:=by omega
 have b5:0≤(n:Int):=by omega
 have b6:0≤(nb:Int):=by omega
 have b7:(n:Int)≤(n:Int):=by omega
 have b8:(nb:Int)≤(nb:Int):=by omega
 have b9:(n:Int)*17≤70368744177664:=by omega
 have b10:(n:Int)*2≤70368744177664:=by omega
 have b11:(nb:Int)*9≤70368744177664:=by omega
 simp only[AJ,reduceIte,Nat.reduceEqDiff,b1,b2,b3,b4,b5,b6,b7,b8,b9,b10,b11,cond_true,Int.toNat_natCast]
 have rA:∀{H:ag} {L:List cw},az B H L→az B (H.alloc (.cells 128 (dU n (jg 0 0)) false)) (Rw 128 2 (some (H.next,0)) n ((Pm.new n nb).cg.map vS)::L):=fun h=>by
  have e:(Pm.new n nb).cg.map vS=List.replicate n (jg 0 0):=by unfold Pm.new;rw[List.map_replicate];rfl
  rw[e];exact az.Iq h rfl (fun v hv=>by simp only[jg,List.mem_cons,List.not_mem_nil,or_false] at hv;rcases hv with rfl|rfl<;>rfl) n
 have rB:∀{H:ag} {L:List cw},az B H L→az B (H.alloc (.cells 4 (dU n [V.bool false]) false)) (Rw 4 1 (some (H.next,0)) n ((Pm.new n nb).cg.map xw)::L):=fun h=>by
  have e:(Pm.new n nb).cg.map xw=List.replicate n [V.bool false]:=by unfold Pm.new;rw[List.map_replicate];rfl
  rw[e];exact az.Iq h rfl (fun v hv=>by rw[List.mem_singleton] at hv;subst hv;rfl) n
 have rC:∀{H:ag} {L:List cw},az B H L→az B (H.alloc (.cells 3 (dU nb [V.int .i64 0]) false)) (IR (some (H.next,0)) nb (Pm.new n nb).hZ::L):=fun h=>by
  rw[OW];unfold IR;rw[List.map_replicate];exact az.Iq h rfl (fun v hv=>by rw[List.mem_singleton] at hv;subst hv;rfl) nb
 have fin:∀{H:ag} (q1 q2 q3:Oq),az B H (Rw 128 2 q1 n ((Pm.new n nb).cg.map vS)::Rw 4 1 q2 n ((Pm.new n nb).cg.map xw)::IR q3 nb (Pm.new n nb).hZ::L)→
  K (.tuple [.aj (some (H.next,0)),.int .i64 0]) (H.alloc (.cells 175 (AT q1 n n q2 n n q3 nb nb) false)):=by
  intro H q1 q2 q3 h;have h1:=h.alloc 175 (AT q1 n n q2 n n q3 nb nb);refine k _ _ (BI.to (x:=⟨q1,n,q2,n,q3,nb⟩) ?_);have e:Hd (Pm.new n nb) ⟨q1,n,q2,n,q3,nb⟩=AT q1 n n q2 n n q3 nb nb:=by unfold Hd Pm.new;simp only[List.length_replicate]
  unfold BI;rw[e];exact h1
 refine⟨⟨?_, ?_⟩,⟨?_, ?_⟩, ?_, ?_⟩
 ·exact fin _ _ _ ((rC (rB (rA h))).ord [2,1])
 ·exact fin _ _ _ ((rB (rC (rA h))).ord [2])
 ·exact fin _ _ _ ((rC (rA (rB h))).ord [1,1])
 ·exact fin _ _ _ ((rA (rC (rB h))).ord [0,1])
 ·exact fin _ _ _ ((rB (rA (rC h))).ord [1])
 ·exact fin _ _ _ (rA (rB (rC h)))
end
def nK:Nat→List Fd→Nat
 |m,[]=>m
 |m,f::l=>nK (max m f.s.seq) l
def Ar.fd (a:Ar) (g:ct) (i:Nat):List Fd:=(a.bs.getD i fq).eQ i g.cap
def xx (i:Nat):List (Nat×List Fd)→List (Nat×List Fd)
 |[]=>[]
 |x::l=>if x.1=i then l else x::xx i l
def Au:List Nat→List (Nat×List Fd)→List (Nat×List Fd)×List Nat
 |[],cN=>(cN,[])
 |i::us,cN=>if kT cN i=true then ((Au us (xx i cN)).1,i::(Au us (xx i cN)).2) else Au us cN
abbrev Ir (m:Gm):aU:=.cells 26 (dV m.g.aE m.g.aA m.g.aH m.q m.g.bK.length m.c)
abbrev sW (mp:Oq) (pg:Option Nat) (sq:Nat) (q:Oq) (n c:Nat):aU:=.cells 113 (cV mp pg (sq:Int) q n c)
abbrev sX:aU:=.cells 113 (cV none none 0 none 0 0)
section
variable {B:ag} {L:List cw} {H:ag} {K:V→ag→Prop} {aM mid pid mpid:Nat} {a:Ar} {m:Gm}
theorem J4 {q:Oq} {c:Nat} {rs:List Rf} (hr:Rd H q (rs.map Rf.cs).flatten) (hl:rs.length≤1000000) {uq:Oq} {un uc:Nat} {tn tj:Int} {Kr:Am.St→Prop} {Ke:Nat→Am.St→Prop}:∀(k i sq:Nat),i+k=rs.length→Ke 2 (St.mk (ab [(0,T.v (V.aj (some (aM,0)))),(3,T.lp 3 0),(4,T.lp 4 0),(6,T.v (V.aj (some (mpid,0)))),(8,T.lp 8 0),(9,T.v (V.map (some mid))),(61,T.v (V.slice uq un uc)),(62,T.v (V.int .i64 tn)),(63,T.v (V.int .i64 tj))]) (ab [(3,Ir m),(4,sX),(8,sW (some (mpid,0)) (some pid) (nK sq ((rs.drop i).map Rf.f)) none 0 0)]) H)→lo 59 21 (St.mk (ab [(0,T.v (V.aj (some (aM,0)))),(3,T.lp 3 0),(4,T.lp 4 0),(6,T.v (V.aj (some (mpid,0)))),(8,T.lp 8 0),(9,T.v (V.map (some mid))),(61,T.v (V.slice uq un uc)),(62,T.v (V.int .i64 tn)),(63,T.v (V.int .i64 tj)),(81,T.v (V.slice q rs.length c)),(82,T.v (V.int .i64 (rs.length:Int))),(83,T.v (V.int .i64 (i:Int)))]) (ab [(3,Ir m),(4,sX),(8,sW (some (mpid,0)) (some pid) sq none 0 0)]) H) Kr Ke
 |0,i,sq,hi,hk=>by
  obtain rfl:i=rs.length:=by omega
  rw[List.drop_length] at hk;rw[Js,decide_eq_false (by omega),ai];exact hk
 |k+1,i,sq,hi,hk=>by
  have hlt:i<rs.length:=by omega
  obtain⟨s1,s2,s3⟩:=wW hr (vQ rs).pr (by decide) (i:=i) (by simpa using hlt);have s2':H.inb (pb q) (po q+i*8) 8=true:=s2
  have I7:H.sub (pb q) (po q+i*8) 8=(rs[i]).cs:=by
   rw[List.getElem_map] at s3;exact s3
  have a1:(i:Int)<(rs.length:Int):=by omega
  have a2:0≤(i:Int):=by omega
  have hfit:aI pf (rs[i]).cs=true:=rfl;have hn4:ae (rs[i]).cs 4=.int .u64 ((rs[i]).f.s.seq:Int):=rfl
  have em:(bif decide (((rs[i]).f.s.seq:Int)>(sq:Int)) then ((rs[i]).f.s.seq:Int) else (sq:Int))=((max sq (rs[i]).f.s.seq:Nat):Int):=by
   by_cases h:((rs[i]).f.s.seq:Int)>(sq:Int)
   ·simp only[h,decide_true,cond_true];omega
   ·simp only[h,decide_false,cond_false];omega
  rw[List.drop_eq_getElem_cons hlt,List.map_cons,nK] at hk;rw[Js];simp only[AN,a1,a2,Int.toNat_natCast,s1,s2',I7,hfit,hn4,em];rw[aK (by omega)];exact J4 hr hl k (i+1) (max sq (rs[i]).f.s.seq) (by omega) hk
theorem az.acH {zs:List Rz} {z:Rz} (h:az B H (Rw 130 8 z.q z.c (z.rs.map Rf.cs)::bw (z.rs.map Rf.bX)::bw (zs.map Rz.bX)::L)):az B H (bw ((zs++[z]).map Rz.bX)::L):=by
 have h2:az B H (z.bX::bw (zs.map Rz.bX)::L):=az.sN (l:=[Rw 130 8 z.q z.c (z.rs.map Rf.cs),bw (z.rs.map Rf.bX)]) h;refine h2.mG.bigPerm ?_;rw[List.map_append];exact List.perm_append_comm (l₁:=[z.bX]) (l₂:=zs.map Rz.bX)
theorem LG {i:Nat} {bz:List (Rz×Nat)} (h:∀x∈bz,x.1.i≠i):pq i bz=none:=by
 induction bz with
 |nil=>rfl
 |cons x l ih=>
  rw[pq,if_neg (h x List.mem_cons_self)];exact ih fun y hy=>h y (List.mem_cons_of_mem _ hy)
theorem VN (a:Ar) (g:ct) (i:Nat):(a.fd g i).length≤(a.bs.getD i fq).pg.length:=by
 unfold Ar.fd Bk.eQ;split
 ·simp
 ·have key:∀(l:List (List UInt8)) (p:Nat),(iy i g.cap l p).length≤l.length:=by
   intro l
   induction l with
   |nil=>intro p;simp [iy]
   |cons d l ih=>
    intro p;rw[iy];have:=ih (p+1);split
    ·simp;omega
    ·split<;>simp<;>omega
  exact key _ _
theorem J5 (hm:dB B L m) (hf:m.g.cZ=true) (hg:m.g.In) (hr:a.rd m.g) (tx:a.aA≤32) (ry:∀i∈m.g.us,i<a.bs.length) (vi:m.g.us.Nodup) {uq:Oq} {uc:Nat} {Kr:Am.St→Prop} {Ke:Nat→Am.St→Prop} (hk:∀bz c H',nI bz=(m.g.us.map fun i=>(i,a.fd m.g i))→xu (qg bz) c→(∀x∈bz,x.1.rs.length≤32)→
 az B H' (dK aM a::iI mid (qg bz) c::bw ((bz.map Prod.fst).map Rz.bX)::IR uq uc (cF m.g.us)::L)→
 Ke 0 (St.mk (ab [(3,T.lp 3 0),(4,T.lp 4 0),(6,T.v (V.aj (some (mpid,0)))),(8,T.lp 8 0),(9,T.v (V.map (some mid)))]) (ab [(3,Ir m),(4,sX),(8,sW (some (mpid,0)) (some pid) (nK 0 (m.g.us.flatMap (a.fd m.g))) none 0 0)]) H')):∀(k j:Nat) (bz:List (Rz×Nat)) (c:Nat) {H:ag},j+k=m.g.us.length→
 nI bz=((m.g.us.take j).map fun i=>(i,a.fd m.g i))→xu (qg bz) c→(∀x∈bz,x.1.rs.length≤32)→
 az B H (dK aM a::iI mid (qg bz) c::bw ((bz.map Prod.fst).map Rz.bX)::IR uq uc (cF m.g.us)::L)→
 lo 59 11
  (St.mk (ab [(0,T.v (V.aj (some (aM,0)))),(3,T.lp 3 0),(4,T.lp 4 0),(6,T.v (V.aj (some (mpid,0)))),(8,T.lp 8 0),(9,T.v (V.map (some mid))),(61,T.v (V.slice uq m.g.us.length uc)),(62,T.v (V.int .i64 (m.g.us.length:Int))),(63,T.v (V.int .i64 (j:Int)))])
   (ab [(3,Ir m),(4,sX),(8,sW (some (mpid,0)) (some pid) (nK 0 ((m.g.us.take j).flatMap (a.fd m.g))) none 0 0)]) H) Kr Ke
 |0,j,bz,c,H,hj,hbz,hb,hl,h=>by
  obtain rfl:j=m.g.us.length:=by omega
  rw[List.take_length] at hbz⊢;rw[Jr,decide_eq_false (by omega),ai];exact hk bz c H hbz hb hl h
 |k+1,j,bz,c,H,hj,hbz,hb,hl,h=>by
  have hlt:j<m.g.us.length:=by omega
  have KX:=ct.kG m.g hg.b.2;obtain⟨s1,s2,s3⟩:=(az.sO (h.ord [3])).at (i:=j) (by simpa using hlt);have e1:(cF m.g.us)[j]'(by simpa using hlt)=((m.g.us[j]:Nat):Int):=by simp [cF]
  rw[e1] at s3;have a1:(j:Int)<(m.g.us.length:Int):=by omega
  have a2:0≤(j:Int):=by omega
  have hmem:=List.getElem_mem hlt;have hi:=ry _ hmem;rw[Jr];simp only[AN,a1,a2,Int.toNat_natCast,s1,s2,s3];have hm':dB B (iI mid (qg bz) c::bw ((bz.map Prod.fst).map Rz.bX)::IR uq uc (cF m.g.us)::L) m:=((hm.bO _).bO _).bO _;refine OF h hm' hf hg hr tx hmem hi (fun q c2 rs H1 SL h1=> ?_)
  have Hi:rs.map Rf.f=a.fd m.g m.g.us[j]:=by
   rw[SL];unfold Ar.fd;rw[List.getD_eq_getElem?_getD,List.getElem?_eq_getElem hi];rfl
  have hrl:rs.length≤32:=by
   have h1:=congrArg List.length Hi;rw[List.length_map] at h1;have h2:=VN a m.g m.g.us[j];rw[List.getD_eq_getElem?_getD,List.getElem?_eq_getElem hi] at h2;have h3:=hr.len _ (List.getElem_mem hi);simp only[Option.getD_some] at h2;omega
  have hmo:=uK (h1.ord [3]);have gC:=(h1.ord [3]).J0 (m.g.us[j]:Int) (.slice q rs.length c2)
  have hnew:pq m.g.us[j] bz=none:=by
   refine LG fun x hx e=> ?_
   have:(x.1.i,x.1.rs.map Rf.f)∈nI bz:=List.mem_map.2 ⟨x,hx,rfl⟩;rw[hbz] at this;obtain⟨y,hy,he⟩:=List.mem_map.1 this;have hxy:y=m.g.us[j]:=by have:=congrArg Prod.fst he;simp only at this;omega
   rw[hxy] at hy;obtain⟨t,ht,het⟩:=List.mem_iff_getElem.1 hy;rw[List.length_take] at ht;rw[List.getElem_take] at het;exact List.pairwise_iff_getElem.1 vi t j (by omega) hlt (by omega) het
  have EG:rE (m.g.us[j]:Int) (.slice q rs.length c2) (qg bz) c=(qg (bz++[(⟨m.g.us[j],q,c2,rs⟩,c)]),c+1):=by
   unfold rE;rw[DO,hnew];simp [qg]
  have m7:=hb.ins (m.g.us[j]:Int) (.slice q rs.length c2);rw[EG] at gC m7;simp only[AN,hmo,Option.isSome_some];generalize ij H1 _ _ _ _=H2 at gC⊢;have h2:az B H2 (Rw 130 8 q c2 (rs.map Rf.cs)::bw (rs.map Rf.bX)::bw ((bz.map Prod.fst).map Rz.bX)::dK aM a::iI mid (qg (bz++[(⟨m.g.us[j],q,c2,rs⟩,c)])) (c+1)::IR uq uc (cF m.g.us)::L):=gC.ord [1,1,2,1];refine J4 (h2.kF) (by omega) rs.length 0 _ (by omega) ?_;simp only[AN,reduceIte,Nat.reduceEqDiff,f25,xo,f112,wU];rw[aK (by omega)];have h3:=az.acH (z:=⟨m.g.us[j],q,c2,rs⟩) h2
  have e3:nK (nK 0 ((m.g.us.take j).flatMap (a.fd m.g))) ((rs.drop 0).map Rf.f)=nK 0 ((m.g.us.take (j+1)).flatMap (a.fd m.g)):=by
   rw[List.drop_zero,Hi,List.take_succ_eq_append_getElem hlt,List.flatMap_append]
   have app:∀(l l':List Fd) (n:Nat),nK n (l++l')=nK (nK n l) l':=by
    intro l
    induction l with
    |nil=>intro l' n;rfl
    |cons x l ih=>intro l' n;rw[List.cons_append,nK,nK,ih]
   rw[app];simp
  rw[e3];refine J5 hm hf hg hr tx ry vi hk k (j+1) _ (c+1) (by omega) ?_ m7 ?_ ?_
  ·have:nI (bz++[(⟨m.g.us[j],q,c2,rs⟩,c)])=nI bz++[(m.g.us[j],rs.map Rf.f)]:=by simp [nI]
   rw[this,hbz,Hi,List.take_succ_eq_append_getElem hlt,List.map_append];rfl
  ·intro x hx;rcases List.mem_append.1 hx with hx|hx
   ·exact hl x hx
   ·rw[List.mem_singleton] at hx;subst hx;exact hrl
  ·have e4:(bz++[(Rz.mk m.g.us[j] q c2 rs,c)]).map Prod.fst=bz.map Prod.fst++[Rz.mk m.g.us[j] q c2 rs]:=by simp
   rw[e4];exact h3.ord [1,1]
def F2 (i:Nat):List (Rz×Nat)→List (Rz×Nat)
 |[]=>[]
 |x::l=>if x.1.i=i then l else x::F2 i l
theorem zr (i:Nat):∀bz:List (Rz×Nat),DM (i:Int) (qg bz)=qg (F2 i bz)
 |[]=>rfl
 |x::l=>by
  show (if (x.1.i:Int)=(i:Int) then qg l else _::DM (i:Int) (qg l))=_
  rw[zr i l,F2];by_cases h:x.1.i=i
  ·have:(x.1.i:Int)=(i:Int):=by omega
   rw[if_pos this,if_pos h]
  ·have:¬(x.1.i:Int)=(i:Int):=by omega
   rw[if_neg this,if_neg h];rfl
theorem F3 (i:Nat):∀bz:List (Rz×Nat),xx i (nI bz)=nI (F2 i bz)
 |[]=>rfl
 |x::l=>by
  show (if x.1.i=i then nI l else _::xx i (nI l))=_
  rw[F3 i l,F2];split<;>rfl
theorem F4 {i:Nat} {x:Rz×Nat}:∀{bz:List (Rz×Nat)},x∈F2 i bz→x∈bz
 |y::l,h=>by
  rw[F2] at h;split at h
  ·exact List.mem_cons_of_mem _ h
  ·rcases List.mem_cons.1 h with rfl|h
   ·exact List.mem_cons_self
   ·exact List.mem_cons_of_mem _ (F4 h)
theorem DR {zs:List Rz} (hzl:∀z∈zs,z.rs.length≤1000000) {uq:Oq} {uc:Nat} {sq:Nat} (KX:m.g.us.length≤62) {Kr:Am.St→Prop} {Ke:Nat→Am.St→Prop}:∀(k j:Nat) (bz:List (Rz×Nat)) (c:Nat) (sp:List Nat) {q:Oq} {sc:Nat} {H:ag},j+k=m.g.us.length→sp.length≤j→xu (qg bz) c→(∀x∈bz,x.1∈zs)→(∀Xk c' q' sc' H',nI Xk=(Au (m.g.us.drop j) (nI bz)).1→xu (qg Xk) c'→(∀x∈Xk,x.1∈zs)→
 az B H' (iI mid (qg Xk) c'::bw (zs.map Rz.bX)::IR q' sc' (cF (sp++(Au (m.g.us.drop j) (nI bz)).2))::IR uq uc (cF m.g.us)::L)→
 Ke 4 (St.mk (ab [(3,T.lp 3 0),(4,T.lp 4 0),(6,T.v (V.aj (some (mpid,0)))),(8,T.lp 8 0),(9,T.v (V.map (some mid)))])
  (ab [(3,Ir m),(4,sX),(8,sW (some (mpid,0)) (some pid) sq q' (sp++(Au (m.g.us.drop j) (nI bz)).2).length sc')]) H'))→
 az B H (iI mid (qg bz) c::bw (zs.map Rz.bX)::IR q sc (cF sp)::IR uq uc (cF m.g.us)::L)→
 lo 59 29
  (St.mk (ab [(3,T.lp 3 0),(4,T.lp 4 0),(6,T.v (V.aj (some (mpid,0)))),(8,T.lp 8 0),(9,T.v (V.map (some mid))),(97,T.v (V.slice uq m.g.us.length uc)),(98,T.v (V.int .i64 (m.g.us.length:Int))),(99,T.v (V.int .i64 (j:Int)))])
   (ab [(3,Ir m),(4,sX),(8,sW (some (mpid,0)) (some pid) sq q sp.length sc)]) H) Kr Ke
 |0,j,bz,c,sp,q,sc,H,hj,hsp,hb,hbz,hk,h=>by
  obtain rfl:j=m.g.us.length:=by omega
  rw[Jq,decide_eq_false (by omega),ai];have:=hk bz c q sc H;simp only[List.drop_length,Au,List.append_nil] at this;exact this trivial hb hbz h
 |k+1,j,bz,c,sp,q,sc,H,hj,hsp,hb,hbz,hk,h=>by
  have hlt:j<m.g.us.length:=by omega
  obtain⟨s1,s2,s3⟩:=(az.sO (h.ord [3])).at (i:=j) (by simpa using hlt);have e1:(cF m.g.us)[j]'(by simpa using hlt)=((m.g.us[j]:Nat):Int):=by simp [cF]
  rw[e1] at s3;have a1:(j:Int)<(m.g.us.length:Int):=by omega
  have a2:0≤(j:Int):=by omega
  rw[List.drop_eq_getElem_cons hlt,Au] at hk;rw[Jq];simp only[AN,a1,a2,Int.toNat_natCast,s1,s2,s3];rw[aK (by omega)];refine LD h hbz hzl m.g.us[j] (fun H1 h1=> ?_);simp only[AN];by_cases hc:kT (nI bz) m.g.us[j]=true
  ·simp only[hc,if_true] at hk;simp only[hc,ar]
   have hp:=az.zi (h1.ord [2]) (m.g.us[j]:Int) (e2:=3) (by simp;omega) (K:=fun q n c H'=>ah (eG H' .i64 (some mid)) (lo 59 29
    (St.mk (ab [(3,T.lp 3 0),(4,T.lp 4 0),(6,T.v (V.aj (some (mpid,0)))),(8,T.lp 8 0),(9,T.v (V.map (some mid))),(97,T.v (V.slice uq m.g.us.length uc)),(98,T.v (V.int .i64 (m.g.us.length:Int))),(99,T.v (V.int .i64 ((j+1:Nat):Int)))])
    (ab [(3,Ir m),(4,sX),(8,sW (some (mpid,0)) (some pid) sq q n c)]) (px H' (some mid) (m.g.us[j]:Int))) Kr Ke)) (fun q' c' H2 h2=> ?_)
   ·rw[gL] at hp;exact hp
   ·have hmo:=uK (h2.ord [1]);have ED:=(h2.ord [1]).aaa (m.g.us[j]:Int);rw[zr] at ED;have m7:=hb.EL (m.g.us[j]:Int);rw[zr] at m7;simp only[hmo,av];have e5:cF sp++[(m.g.us[j]:Int)]=cF (sp++[m.g.us[j]]):=by simp [cF]
    rw[e5] at ED⊢;rw[gL];refine DR hzl KX k (j+1) (F2 m.g.us[j] bz) c (sp++[m.g.us[j]]) (by omega) (by simp;omega) m7 (fun x hx=>hbz x (F4 hx)) (fun Xk c2 q2 sc2 H3 e3 ER hz3 h3=> ?_) (ED.ord [0,1]);rw[←F3] at e3 h3⊢;rw[List.append_assoc] at h3⊢;exact hk Xk c2 q2 sc2 H3 e3 ER hz3 h3
  ·have tq:kT (nI bz) m.g.us[j]=false:=by simpa using hc
   simp only[tq,Bool.false_eq_true,if_false] at hk;simp only[tq,ai];exact DR hzl KX k (j+1) bz c sp (by omega) (by omega) hb hbz hk h1
end
def rZ (f:Fd):List Fd→List Fd
 |[]=>[f]
 |o::l=>if o.s.an=f.s.an then (if o.s.seq<f.s.seq then f::l else o::l) else o::rZ f l
def uQ:List Fd→List Fd→List Fd
 |pg,[]=>pg
 |pg,f::l=>uQ (rZ f pg) l
def jE (a:Nat):List Fd→Option Fd
 |[]=>none
 |f::l=>if f.s.an=a then some f else jE a l
def lR (pz:List (Rf×Nat)):List En:=pz.map fun x=>⟨(x.1.f.s.an:Int),.agg x.1.cs,x.2⟩
def mq (a:Nat):List (Rf×Nat)→Option (Rf×Nat)
 |[]=>none
 |x::l=>if x.1.f.s.an=a then some x else mq a l
def r6 (r:Rf):List (Rf×Nat)→List (Rf×Nat)
 |[]=>[]
 |x::l=>if x.1.f.s.an=r.f.s.an then (r,x.2)::l else x::r6 r l
theorem uR (a:Nat):∀pz:List (Rf×Nat),Hc (a:Int) (lR pz)=(mq a pz).map fun x:Rf×Nat=>V.agg x.1.cs
 |[]=>rfl
 |x::l=>by
  show (if (x.1.f.s.an:Int)=(a:Int) then some _ else Hc (a:Int) (lR l))=_
  rw[mq,uR a l];by_cases h:x.1.f.s.an=a
  ·have:(x.1.f.s.an:Int)=(a:Int):=by omega
   rw[if_pos this,if_pos h];rfl
  ·have:¬(x.1.f.s.an:Int)=(a:Int):=by omega
   rw[if_neg this,if_neg h]
theorem F5 (r:Rf):∀pz:List (Rf×Nat),AY (r.f.s.an:Int) (.agg r.cs) (lR pz)=lR (r6 r pz)
 |[]=>rfl
 |x::l=>by
  show (if (x.1.f.s.an:Int)=(r.f.s.an:Int) then _::lR l else _::AY (r.f.s.an:Int) (.agg r.cs) (lR l))=_
  rw[F5 r l,r6];by_cases h:x.1.f.s.an=r.f.s.an
  ·have:(x.1.f.s.an:Int)=(r.f.s.an:Int):=by omega
   rw[if_pos this,if_pos h];show (⟨(x.1.f.s.an:Int),_,_⟩:En)::_=⟨(r.f.s.an:Int),_,_⟩::_
   rw[h];rfl
  ·have:¬(x.1.f.s.an:Int)=(r.f.s.an:Int):=by omega
   rw[if_neg this,if_neg h];rfl
def xM (pz:List (Rf×Nat)):List Fd:=pz.map fun x=>x.1.f
theorem nL {a:Nat} {x:Rf×Nat}:∀{pz:List (Rf×Nat)},mq a pz=some x→x∈pz∧x.1.f.s.an=a
 |y::l,h=>by
  rw[mq] at h;split at h
  ·rename_i e;cases h;exact⟨List.mem_cons_self,e⟩
  ·obtain⟨h1,h2⟩:=nL h;exact⟨List.mem_cons_of_mem _ h1,h2⟩
theorem BJ {a:Nat}:∀{pz:List (Rf×Nat)},mq a pz=none→∀x∈pz,x.1.f.s.an≠a
 |y::l,h,x,hx=>by
  rw[mq] at h;split at h
  ·cases h
  ·rename_i e;rcases List.mem_cons.1 hx with rfl|hx
   ·exact e
   ·exact BJ h x hx
theorem BK {r:Rf} {c:Nat}:∀{pz:List (Rf×Nat)},mq r.f.s.an pz=none→rZ r.f (xM pz)=xM (pz++[(r,c)])
 |[],_=>rfl
 |y::l,h=>by
  rw[mq] at h;split at h
  ·cases h
  ·rename_i e;show (if y.1.f.s.an=r.f.s.an then _ else y.1.f::rZ r.f (xM l))=_
   rw[if_neg e,BK h];rfl
theorem BL {r:Rf} {x:Rf×Nat}:∀{pz:List (Rf×Nat)},mq r.f.s.an pz=some x→rZ r.f (xM pz)=if x.1.f.s.seq<r.f.s.seq then xM (r6 r pz) else xM pz
 |y::l,h=>by
  rw[mq] at h;show (if y.1.f.s.an=r.f.s.an then (if y.1.f.s.seq<r.f.s.seq then r.f::xM l else y.1.f::xM l) else y.1.f::rZ r.f (xM l))=_
  rw[r6];split at h
  ·rename_i e;cases h;rw[if_pos e,if_pos e];rfl
  ·rename_i e;rw[if_neg e,if_neg e,BL h];split<;>rfl
theorem zt (r:Rf):∀pz:List (Rf×Nat),(r6 r pz).map (fun x=>x.1.f.s.an)=pz.map fun x=>x.1.f.s.an
 |[]=>rfl
 |y::l=>by
  rw[r6];split
  ·rename_i e;rw[List.map_cons,List.map_cons,e]
  ·rw[List.map_cons,zt r l,List.map_cons]
theorem BM {r:Rf} {x:Rf×Nat}:∀{pz:List (Rf×Nat)},x∈r6 r pz→x∈pz∨x.1=r
 |y::l,h=>by
  rw[r6] at h;split at h
  ·rcases List.mem_cons.1 h with rfl|h
   ·exact .inr rfl
   ·exact .inl (List.mem_cons_of_mem _ h)
  ·rcases List.mem_cons.1 h with rfl|h
   ·exact .inl List.mem_cons_self
   ·exact(BM h).imp (List.mem_cons_of_mem _) id
structure AZ (g:ct) (pz:List (Rf×Nat)):Prop where
 nd:(pz.map fun x=>x.1.f.s.an).Nodup
 b:∀x∈pz,(x.1.f.s.an:Int)≤g.cap∧(x.1.f.b:Int)<g.aE∧x.1.f.p<32
abbrev LH (g:ct) (f:Fd):Prop:=(f.s.an:Int)≤g.cap∧(f.b:Int)<g.aE∧f.p<32
section
variable {B:ag} {L:List cw} {H:ag} {K:V→ag→Prop} {aM mid pid mpid:Nat} {a:Ar} {m:Gm}
theorem xN {P0:List Fd} {zs:List Rz} {z:Rz} (hz:z∈zs) (hzl:z.rs.length≤1000000) (hin:∀r∈z.rs,LH m.g r.f) {sq:Nat} {uq spq:Oq} {un uc spn spc:Nat} {tn tj:Int} {Kr:Am.St→Prop} {Ke:Nat→Am.St→Prop} (hk:∀pz c H',xM pz=uQ P0 (z.rs.map Rf.f)→xu (lR pz) c→AZ m.g pz→az B H' (iI pid (lR pz) c::bw (zs.map Rz.bX)::L)→Ke 8 (St.mk (ab [(4,T.lp 4 0),(6,T.v (V.aj (some (mpid,0)))),(8,T.lp 8 0),(9,T.v (V.map (some mid))),(116,T.v (V.slice uq un uc)),(117,T.v (V.int .i64 tn)),(118,T.v (V.int .i64 tj))]) (ab [(4,sX),(8,sW (some (mpid,0)) (some pid) sq spq spn spc)]) H')):∀(k i:Nat) (pz:List (Rf×Nat)) (c:Nat) {H:ag},i+k=z.rs.length→uQ (xM pz) ((z.rs.drop i).map Rf.f)=uQ P0 (z.rs.map Rf.f)→xu (lR pz) c→AZ m.g pz→az B H (iI pid (lR pz) c::bw (zs.map Rz.bX)::L)→lo 59 44 (St.mk (ab [(4,T.lp 4 0),(6,T.v (V.aj (some (mpid,0)))),(8,T.lp 8 0),(9,T.v (V.map (some mid))),(116,T.v (V.slice uq un uc)),(117,T.v (V.int .i64 tn)),(118,T.v (V.int .i64 tj)),(124,T.v (V.slice z.q z.rs.length z.c)),(125,T.v (V.int .i64 (z.rs.length:Int))),(126,T.v (V.int .i64 (i:Int)))]) (ab [(4,sX),(8,sW (some (mpid,0)) (some pid) sq spq spn spc)]) H) Kr Ke
 |0,i,pz,c,H,hi,he,hb,hok,h=>by
  obtain rfl:i=z.rs.length:=by omega
  rw[List.drop_length] at he;rw[DA,decide_eq_false (by omega),ai];exact hk pz c H he hb hok h
 |k+1,i,pz,c,H,hi,he,hb,hok,h=>by
  have hlt:i<z.rs.length:=by omega
  obtain⟨hrz,hdz⟩:=uO (h.ord [1]) hz;obtain⟨s1,s2,s3⟩:=wW hrz (vQ z.rs).pr (by decide) (i:=i) (by simpa using hlt);have s2':H.inb (pb z.q) (po z.q+i*8) 8=true:=s2
  have I7:H.sub (pb z.q) (po z.q+i*8) 8=(z.rs[i]).cs:=by
   rw[List.getElem_map] at s3;exact s3
  have a1:(i:Int)<(z.rs.length:Int):=by omega
  have a2:0≤(i:Int):=by omega
  obtain⟨r,hr⟩:∃r,r=z.rs[i]:=⟨_,rfl⟩;have WE:=hin _ (List.getElem_mem hlt);rw[←hr] at I7 WE;have hfit:aI pf r.cs=true:=rfl;have An:Ln r.cs=r.cs:=rfl;have hn4:ae r.cs 4=.int .u64 (r.f.s.seq:Int):=rfl;have hn5:ae r.cs 5=.int .i64 (r.f.s.an:Int):=rfl;rw[List.drop_eq_getElem_cons hlt,List.map_cons,uQ, ←hr] at he;have hmo:=uK h;have oT:=zo h (r.f.s.an:Int) (.agg (kR 0 0 0 0 0 0 0 none 0 0));have WG:=OI h (r.f.s.an:Int);rw[uR] at oT WG;rw[Option.isSome_map] at WG;have gC:=h.J0 (r.f.s.an:Int) (.agg r.cs);have m7:=hb.ins (r.f.s.an:Int) (.agg r.cs);rw[DA];simp only[AN,a1,a2,Int.toNat_natCast,s1,s2',I7,hfit,An,hn4,hn5,hmo,oT,WG,Bool.not_not,Option.isSome_some];rw[aK (by omega)]
  cases hg:mq r.f.s.an pz with
  |none=>
   have EG:rE (r.f.s.an:Int) (.agg r.cs) (lR pz) c=(lR (pz++[(r,c)]),c+1):=by
    unfold rE;rw[uR,hg];simp [lR]
   rw[EG] at gC m7;have M5:aI pf (kR 0 0 0 0 0 0 0 none 0 0)=true:=rfl;simp only[Option.map_none,Option.isSome_none,AN,cond_false];refine xN hz hzl hin hk k (i+1) _ (c+1) (by omega) ?_ m7 ⟨?_, ?_⟩ gC
   ·rw[←he,BK hg]
   ·rw[List.map_append,List.nodup_append];refine⟨hok.nd,by simp,fun x hx y hy=> ?_⟩;simp only[List.map_cons,List.map_nil,List.mem_singleton] at hy;subst hy;obtain⟨w,hw,rfl⟩:=List.mem_map.1 hx;exact BJ hg w hw
   ·intro x hx;rcases List.mem_append.1 hx with hx|hx
    ·exact hok.b x hx
    ·rw[List.mem_singleton] at hx;subst hx;exact WE
  |some x=>
   obtain⟨hx1,vm⟩:=nL hg;have M5:aI pf x.1.cs=true:=rfl;have hx4:ae x.1.cs 4=.int .u64 (x.1.f.s.seq:Int):=rfl;simp only[Option.map_some,Option.isSome_some,AN,M5,hx4,cond_true];have hold:=BL hg;by_cases G7:x.1.f.s.seq<r.f.s.seq
   ·have WH:(x.1.f.s.seq:Int)<(r.f.s.seq:Int):=by omega
    have EG:rE (r.f.s.an:Int) (.agg r.cs) (lR pz) c=(lR (r6 r pz),c):=by
     unfold rE;rw[uR,hg];simp only[Option.map_some,Option.isSome_some,if_true,F5]
    rw[EG] at gC m7;rw[if_pos G7] at hold;simp only[WH,decide_true,ar];refine xN hz hzl hin hk k (i+1) _ c (by omega) (by rw[←he,hold]) m7 ⟨by rw[zt];exact hok.nd,fun y hy=> ?_⟩ gC;rcases BM hy with hy|hy
    ·exact hok.b y hy
    ·rw[hy];exact WE
   ·have WH:¬(x.1.f.s.seq:Int)<(r.f.s.seq:Int):=by omega
    rw[if_neg G7] at hold;simp only[WH,decide_false,ai];exact xN hz hzl hin hk k (i+1) pz c (by omega) (by rw[←he,hold]) hb hok h
def ey (cN:List (Nat×List Fd)):List Fd→List Nat→List Fd
 |pg,[]=>pg
 |pg,i::us=>ey cN (uQ pg (hY i cN)) us
theorem J6 {zs:List Rz} {bz:List (Rz×Nat)} {bc:Nat} (hbz:∀x∈bz,x.1∈zs) (hzl:∀z∈zs,z.rs.length≤1000000) (hin:∀z∈zs,∀r∈z.rs,LH m.g r.f) {sq:Nat} (KX:m.g.us.length≤62) {uq spq:Oq} {uc spn spc:Nat} {Kr:Am.St→Prop} {Ke:Nat→Am.St→Prop} (hk:∀pz c H',xM pz=ey (nI bz) [] m.g.us→xu (lR pz) c→AZ m.g pz→az B H' (iI pid (lR pz) c::bw (zs.map Rz.bX)::iI mid (qg bz) bc::IR uq uc (cF m.g.us)::L)→Ke 6 (St.mk (ab [(4,T.lp 4 0),(6,T.v (V.aj (some (mpid,0)))),(8,T.lp 8 0)]) (ab [(4,sX),(8,sW (some (mpid,0)) (some pid) sq spq spn spc)]) H')):∀(k j:Nat) (pz:List (Rf×Nat)) (c:Nat) {H:ag},j+k=m.g.us.length→ey (nI bz) (xM pz) (m.g.us.drop j)=ey (nI bz) [] m.g.us→xu (lR pz) c→AZ m.g pz→az B H (iI pid (lR pz) c::bw (zs.map Rz.bX)::iI mid (qg bz) bc::IR uq uc (cF m.g.us)::L)→lo 59 39 (St.mk (ab [(4,T.lp 4 0),(6,T.v (V.aj (some (mpid,0)))),(8,T.lp 8 0),(9,T.v (V.map (some mid))),(116,T.v (V.slice uq m.g.us.length uc)),(117,T.v (V.int .i64 (m.g.us.length:Int))),(118,T.v (V.int .i64 (j:Int)))]) (ab [(4,sX),(8,sW (some (mpid,0)) (some pid) sq spq spn spc)]) H) Kr Ke
 |0,j,pz,c,H,hj,he,hb,hok,h=>by
  obtain rfl:j=m.g.us.length:=by omega
  rw[List.drop_length] at he;rw[Jp,decide_eq_false (by omega),ai];exact hk pz c H he hb hok h
 |k+1,j,pz,c,H,hj,he,hb,hok,h=>by
  have hlt:j<m.g.us.length:=by omega
  obtain⟨s1,s2,s3⟩:=(az.sO (h.ord [3])).at (i:=j) (by simpa using hlt);have e1:(cF m.g.us)[j]'(by simpa using hlt)=((m.g.us[j]:Nat):Int):=by simp [cF]
  rw[e1] at s3;have a1:(j:Int)<(m.g.us.length:Int):=by omega
  have a2:0≤(j:Int):=by omega
  rw[List.drop_eq_getElem_cons hlt,ey,uN] at he;have hmo:=uK (h.ord [2]);have oT:=ON (h.ord [2]) m.g.us[j];rw[Jp];simp only[AN,a1,a2,Int.toNat_natCast,s1,s2,s3,hmo,oT]
  have hnext:∀TP c' H',ey (nI bz) (xM TP) (m.g.us.drop (j+1))=ey (nI bz) [] m.g.us→xu (lR TP) c'→AZ m.g TP→az B H' (iI pid (lR TP) c'::bw (zs.map Rz.bX)::iI mid (qg bz) bc::IR uq uc (cF m.g.us)::L)→
   lo 59 39
    (St.mk (ab [(4,T.lp 4 0),(6,T.v (V.aj (some (mpid,0)))),(8,T.lp 8 0),(9,T.v (V.map (some mid))),(116,T.v (V.slice uq m.g.us.length uc)),(117,T.v (V.int .i64 (m.g.us.length:Int))),(118,T.v (V.int .i64 (IntKind.i64.wrap ((j:Int)+1))))])
     (ab [(4,sX),(8,sW (some (mpid,0)) (some pid) sq spq spn spc)]) H') Kr Ke:=by
   intro TP c' H' e' hb' cD h';rw[aK (by omega)];exact J6 hbz hzl hin KX hk k (j+1) TP c' (by omega) e' hb' cD h'
  have rH:∀(z:Rz),z∈zs→ey (nI bz) (uQ (xM pz) (z.rs.map Rf.f)) (m.g.us.drop (j+1))=ey (nI bz) [] m.g.us→
   lo 59 44
    (St.mk (ab [(4,T.lp 4 0),(6,T.v (V.aj (some (mpid,0)))),(8,T.lp 8 0),(9,T.v (V.map (some mid))),(116,T.v (V.slice uq m.g.us.length uc)),(117,T.v (V.int .i64 (m.g.us.length:Int))),(118,T.v (V.int .i64 (j:Int))),
     (124,T.v (V.slice z.q z.rs.length z.c)),(125,T.v (V.int .i64 (z.rs.length:Int))),(126,T.v (V.int .i64 0))]) (ab [(4,sX),(8,sW (some (mpid,0)) (some pid) sq spq spn spc)]) H)
    (fun S'=>Kr (St.mk (ab []) (ab []) S'.3)) (fun j' S'=>br (decide (j'=8)) (ah (aB (KT.lp 4) (S'.1 4)&&(aB (KT.k .aj) (S'.1 6)&&(aB (KT.lp 8) (S'.1 8)&&(aB (KT.k .map) (S'.1 9)&&(aB (KT.k .slice) (S'.1 116)&&(aB (KT.k (.int .i64)) (S'.1 117)&&aB (KT.k (.int .i64)) (S'.1 118))))))&&(eD 113 nB (S'.2 4)&&eD 113 nB (S'.2 8)))
     (lo 59 39
      (St.mk (ab [(4,T.lp 4 0),(6,T.v (V.aj (V.ay (T.val (S'.1 6))))),(8,T.lp 8 0),(9,T.v (V.map (V.dv (T.val (S'.1 9))))),(116,T.v (V.slice (V.au (T.val (S'.1 116))) (V.aw (T.val (S'.1 116))) (V.aC (T.val (S'.1 116))))),(117,T.v (V.int .i64 (V.aa (T.val (S'.1 117))))),(118,T.v (V.int .i64 (IntKind.i64.wrap (V.aa (T.val (S'.1 118))+1))))])
       (ab [(4,aU.cells 113 (p4 (ao (S'.2 4)))),(8,aU.cells 113 (p4 (ao (S'.2 8))))]) S'.3) Kr Ke)) False):=by
   intro z hz Sy;refine xN (P0:=xM pz) hz (hzl z hz) (hin z hz) (fun TP c' H' e' hb' cD h'=> ?_) z.rs.length 0 pz c (by omega) rfl hb hok h;simp only[AN,reduceIte,Nat.reduceEqDiff,f112,wU,V.dv,V.ax];exact hnext TP c' H' (by rw[e'];exact Sy) hb' cD h'
  cases hg:pq m.g.us[j] bz with
  |none=>
   rw[hg] at he;simp only[AN];rw[DA,decide_eq_false (by omega),ai];simp only[AN,reduceIte,Nat.reduceEqDiff,f112,wU,V.dv,V.ax];exact hnext pz c H he hb hok h
  |some z=>
   rw[hg] at he;obtain⟨b2,m7⟩:=uL hg;simp only[AN];exact rH z (hbz _ m7) he
end
abbrev Vw:=Nat→List Fd
def xb (v:Vw) (c:Nat→List UInt8) (x:Nat) (f:Fd):Prop:=
 f.s.an=x∧f.s.data=c x∧∀b,∀y∈v b,y.s.an=x→f.s.seq≤y.s.seq→y.s.data=c x
def mt (v:Vw) (f:Fd):Prop:=f.s.fr≠0∧∃o∈v (f.s.fr-1),Ik o f=true
def k8 (v:Vw) (b:Nat):Prop:=∃f∈v b,¬mt v f
theorem J7 {o f:Fd}:Ik o f=true↔o.s.cU=f.s.cU∧o.s.an=f.s.an∧o.s.seq<f.s.seq∧o.s.data=f.s.data:=by
 unfold Ik;simp
structure Gd (v:Vw) (c:Nat→List UInt8):Prop where
 ov:∀b,∀f∈v b,f.b=b
 a2:∀x,(c x=[]∧∀b,∀f∈v b,f.s.an≠x)∨∃b,∃f∈v b,xb v c x f
 a3:∀b,∀t∈v b,mt v t→∃u∈v (t.s.fr-1),u.s.an=t.s.an∧u.s.seq<t.s.seq∧u.s.data=t.s.data∧
  ∀b',∀y∈v b',y.s.an=t.s.an→u.s.seq≤y.s.seq→y.s.seq≤t.s.seq→y.s.data=t.s.data
 a4:∀b,∀f∈v b,f.s.fr≠b+1
 a6:∀b,∀f∈v b,∀h∈v b,f.s.fr≠0→h.s.fr≠0→f.s.fr=h.s.fr
 a7:∀b,∀t∈v b,mt v t→k8 v (t.s.fr-1)
def gM (v:Vw) (b:Nat) (f:Fd):Vw:=fun i=>if i=b then v i++[f] else v i
def kU (v:Vw) (b:Nat):Vw:=fun i=>if i=b then [] else v i
theorem bJ {v:Vw} {b i:Nat} {f y:Fd}:y∈gM v b f i↔y∈v i∨(i=b∧y=f):=by
 unfold gM;by_cases h:i=b
 ·simp [h]
 ·simp [h]
theorem cQ {v:Vw} {b i:Nat} {y:Fd}:y∈kU v b i↔y∈v i∧i≠b:=by
 unfold kU;by_cases h:i=b
 ·simp [h]
 ·simp [h]
section
variable {v:Vw} {c:Nat→List UInt8} {b w x:Nat} {f u t:Fd}
theorem qi (hn:∀i,∀y∈v i,y.s.seq<f.s.seq) {i:Nat} (ht:t∈v i):mt (gM v b f) t↔mt v t:=by
 unfold mt;refine and_congr Iff.rfl ⟨fun⟨o,ho,hm⟩=> ?_,fun⟨o,ho,hm⟩=>⟨o,bJ.2 (.inl ho),hm⟩⟩;rcases bJ.1 ho with ho|⟨_,rfl⟩
 ·exact⟨o,ho,hm⟩
 ·have:=(J7.1 hm).2.2.1;have:=hn i t ht;omega
theorem k8.add (hn:∀i,∀y∈v i,y.s.seq<f.s.seq) (h:k8 v w):k8 (gM v b f) w:=by
 obtain⟨t,ht,hm⟩:=h;exact⟨t,bJ.2 (.inl ht),fun h=>hm ((qi hn ht).1 h)⟩
theorem DS (h:mt (kU v b) t):mt v t∧t.s.fr-1≠b:=by
 obtain⟨h0,o,ho,hm⟩:=h;exact⟨⟨h0,o,(cQ.1 ho).1,hm⟩,(cQ.1 ho).2⟩
theorem k8.EL (h:k8 v w) (hw:w≠b):k8 (kU v b) w:=by
 obtain⟨t,ht,hm⟩:=h;exact⟨t,cQ.2 ⟨ht,hw⟩,fun h=>hm (DS h).1⟩
theorem xb.EL (h:xb v c x f):xb (kU v b) c x f:=⟨h.1,h.2.1,fun b' y hy=>h.2.2 b' y (cQ.1 hy).1⟩
def oK (c:Nat→List UInt8) (x:Nat) (d:List UInt8):Nat→List UInt8:=fun i=>if i=x then d else c i
theorem xb.put (h:xb v c x u) (hx:f.s.an≠x):xb (gM v b f) (oK c f.s.an f.s.data) x u:=by
 have e:oK c f.s.an f.s.data x=c x:=if_neg (fun h=>hx h.symm);refine⟨h.1,by rw[e];exact h.2.1,fun b' y hy I8 hs=> ?_⟩;rw[e];rcases bJ.1 hy with hy|⟨_,rfl⟩
 ·exact h.2.2 b' y hy I8 hs
 ·exact absurd I8 hx
theorem xb.new (hn:∀i,∀y∈v i,y.s.seq<f.s.seq):xb (gM v b f) (oK c f.s.an f.s.data) f.s.an f:=by
 have e:oK c f.s.an f.s.data f.s.an=f.s.data:=if_pos rfl;refine⟨rfl,e.symm,fun b' y hy I8 hs=> ?_⟩;rw[e];rcases bJ.1 hy with hy|⟨_,rfl⟩
 ·have:=hn b' y hy;omega
 ·rfl
theorem xb.copy (h:xb v c x u) (hd:f.s.data=c f.s.an):xb (gM v b f) c x u:=by
 refine⟨h.1,h.2.1,fun b' y hy I8 hs=> ?_⟩;rcases bJ.1 hy with hy|⟨_,rfl⟩
 ·exact h.2.2 b' y hy I8 hs
 ·rw[←I8];exact hd
theorem OX (hn:∀i,∀y∈v i,y.s.seq<f.s.seq) (h:Gd v c) {i:Nat} (ht:t∈v i) (hm:mt (gM v b f) t):∃u∈gM v b f (t.s.fr-1),u.s.an=t.s.an∧u.s.seq<t.s.seq∧u.s.data=t.s.data∧∀b',∀y∈gM v b f b',y.s.an=t.s.an→u.s.seq≤y.s.seq→y.s.seq≤t.s.seq→y.s.data=t.s.data:=by
 obtain⟨u,hu,h1,h2,h3,h4⟩:=h.a3 i t ht ((qi hn ht).1 hm);refine⟨u,bJ.2 (.inl hu),h1,h2,h3,fun b' y hy I8 hs1 nY=> ?_⟩;rcases bJ.1 hy with hy|⟨_,rfl⟩
 ·exact h4 b' y hy I8 hs1 nY
 ·have:=hn i t ht;omega
theorem Gd.put (h:Gd v c) (hn:∀i,∀y∈v i,y.s.seq<f.s.seq) (hb:f.b=b) (hf:f.s.fr=0):Gd (gM v b f) (oK c f.s.an f.s.data) where
 ov:=fun i y hy=>by
  rcases bJ.1 hy with hy|⟨rfl,rfl⟩
  ·exact h.ov i y hy
  ·exact hb
 a2:=fun x=>by
  by_cases hx:f.s.an=x
  ·subst hx;exact .inr ⟨b,f,bJ.2 (.inr ⟨rfl,rfl⟩),xb.new hn⟩
  ·rcases h.a2 x with⟨h1,h2⟩|⟨i,u,hu,hc⟩
   ·refine .inl ⟨by show (if x=_ then _ else _)=_;rw[if_neg (fun h=>hx h.symm)];exact h1,fun i y hy=> ?_⟩;rcases bJ.1 hy with hy|⟨rfl,rfl⟩
    ·exact h2 i y hy
    ·exact hx
   ·exact .inr ⟨i,u,bJ.2 (.inl hu),hc.put hx⟩
 a3:=fun i t ht hm=>by
  rcases bJ.1 ht with ht|⟨rfl,rfl⟩
  ·exact OX hn h ht hm
  ·exact absurd hf hm.1
 a4:=fun i y hy=>by
  rcases bJ.1 hy with hy|⟨rfl,rfl⟩
  ·exact h.a4 i y hy
  ·omega
 a6:=fun i y hy z hz h1 h2=>by
  rcases bJ.1 hy with hy|⟨rfl,rfl⟩
  ·rcases bJ.1 hz with hz|⟨rfl,rfl⟩
   ·exact h.a6 i y hy z hz h1 h2
   ·exact absurd hf h2
  ·exact absurd hf h1
 a7:=fun i t ht hm=>by
  rcases bJ.1 ht with ht|⟨rfl,rfl⟩
  ·exact(h.a7 i t ht ((qi hn ht).1 hm)).add hn
  ·exact absurd hf hm.1
theorem RE (hw:w≠b) (hu:u∈v w) (hf:f.s.fr=w+1) (hk:u.s.cU=f.s.cU) (ha:u.s.an=f.s.an) (hd:u.s.data=f.s.data) (hn:∀i,∀y∈v i,y.s.seq<f.s.seq):mt (gM v b f) f:=
 ⟨by omega,u,by rw[hf];exact bJ.2 (.inl hu),J7.2 ⟨hk,ha,hn w u hu,hd⟩⟩
theorem Gd.copy (h:Gd v c) (hn:∀i,∀y∈v i,y.s.seq<f.s.seq) (hb:f.b=b) (hw:w≠b) (hu:u∈v w) (hc:xb v c f.s.an u) (hf:f.s.fr=w+1) (hd:u.s.data=f.s.data) (hall:∀y∈v b,y.s.fr=w+1) (hs:k8 v w):Gd (gM v b f) c where
 ov:=fun i y hy=>by
  rcases bJ.1 hy with hy|⟨rfl,rfl⟩
  ·exact h.ov i y hy
  ·exact hb
 a2:=fun x=>by
  have hdc:f.s.data=c f.s.an:=by rw[←hd];exact hc.2.1
  rcases h.a2 x with⟨h1,h2⟩|⟨i,u',hu',tq⟩
  ·refine .inl ⟨h1,fun i y hy=> ?_⟩;rcases bJ.1 hy with hy|⟨rfl,rfl⟩
   ·exact h2 i y hy
   ·intro e;exact h2 w u hu (by rw[←e];exact hc.1)
  ·exact .inr ⟨i,u',bJ.2 (.inl hu'),tq.copy hdc⟩
 a3:=fun i t ht hm=>by
  rcases bJ.1 ht with ht|⟨rfl,rfl⟩
  ·exact OX hn h ht hm
  ·refine⟨u,by rw[hf];exact bJ.2 (.inl hu),hc.1,hn w u hu,hd,fun b' y hy I8 hs1 nY=> ?_⟩;rcases bJ.1 hy with hy|⟨_,rfl⟩
   ·rw[←hd,hc.2.1];exact hc.2.2 b' y hy I8 hs1
   ·rfl
 a4:=fun i y hy=>by
  rcases bJ.1 hy with hy|⟨rfl,rfl⟩
  ·exact h.a4 i y hy
  ·omega
 a6:=fun i y hy z hz h1 h2=>by
  rcases bJ.1 hy with hy'|⟨rfl,rfl⟩
  ·rcases bJ.1 hz with KU|⟨rfl,rfl⟩
   ·exact h.a6 i y hy' z KU h1 h2
   ·rw[hf];exact hall y hy'
  ·rcases bJ.1 hz with hz|⟨_,rfl⟩
   ·rw[hf];exact(hall z hz).symm
   ·rfl
 a7:=fun i t ht hm=>by
  rcases bJ.1 ht with ht|⟨rfl,rfl⟩
  ·exact(h.a7 i t ht ((qi hn ht).1 hm)).add hn
  ·rw[hf];exact hs.add hn
theorem Gd.EL (h:Gd v c) (hc:∀x,(∀i,∀f∈v i,f.s.an≠x)∨∃i,i≠b∧∃f∈v i,xb v c x f):Gd (kU v b) c where
 ov:=fun i y hy=>h.ov i y (cQ.1 hy).1
 a2:=fun x=>by
  rcases hc x with h1|⟨i,hi,f,hf,Wr⟩
  ·refine .inl ⟨?_,fun i y hy=>h1 i y (cQ.1 hy).1⟩;rcases h.a2 x with⟨h2,_⟩|⟨i,f,hf,Wr⟩
   ·exact h2
   ·exact absurd Wr.1 (h1 i f hf)
  ·exact .inr ⟨i,f,cQ.2 ⟨hf,hi⟩,Wr.EL⟩
 a3:=fun i t ht hm=>by
  obtain⟨TH,hm2⟩:=DS hm;obtain⟨u,hu,h1,h2,h3,h4⟩:=h.a3 i t (cQ.1 ht).1 TH;exact⟨u,cQ.2 ⟨hu,hm2⟩,h1,h2,h3,fun b' y hy=>h4 b' y (cQ.1 hy).1⟩
 a4:=fun i y hy=>h.a4 i y (cQ.1 hy).1
 a6:=fun i y hy z hz=>h.a6 i y (cQ.1 hy).1 z (cQ.1 hz).1
 a7:=fun i t ht hm=>by
  obtain⟨TH,hm2⟩:=DS hm;exact(h.a7 i t (cQ.1 ht).1 TH).EL hm2
end
def iW (N nb:Nat) (pz:List (Rf×Nat)) (seen:List Nat):Pm:=
 ⟨(List.range N).map fun a=>match mq a pz with|some x=>if x.2∈seen then some (x.1.f.b,x.1.f.p) else none|none=>none,nb⟩
def qj (g:ct) (pg:List Fd):Pm:=⟨(List.range (g.cap+1).toNat).map fun a=>(jE a pg).map fun f=>(f.b,f.p),g.aE.toNat⟩
def Ar.RF (a:Ar) (g:ct):List (Nat×List Fd):=g.us.map fun i=>(i,a.fd g i)
def Ar.AW (a:Ar) (g:ct):List Fd:=ey (Au g.us (a.RF g)).1 [] g.us
def Ar.LI (a:Ar) (g:ct):Nat:=nK 0 (g.us.flatMap (a.fd g))
theorem RG {pz:List (Rf×Nat)} (vi:(pz.map fun x=>x.1.f.s.an).Nodup) {x:Rf×Nat} (hx:x∈pz):mq x.1.f.s.an pz=some x:=by
 induction pz with
 |nil=>cases hx
 |cons y l ih=>
  rw[List.map_cons,List.nodup_cons] at vi;rw[mq];rcases List.mem_cons.1 hx with rfl|hx
  ·rw[if_pos rfl]
  ·rw[if_neg (fun e=>vi.1 (List.mem_map.2 ⟨x,hx,e.symm⟩))];exact ih vi.2 hx
theorem vT (a:Nat):∀pz:List (Rf×Nat),jE a (xM pz)=(mq a pz).map fun x=>x.1.f
 |[]=>rfl
 |x::l=>by
  show (if x.1.f.s.an=a then some x.1.f else jE a (xM l))=_
  rw[mq,vT a l];split<;>rfl
theorem Is {N nb c:Nat} {pz:List (Rf×Nat)} {seen:List Nat} {x:Rf×Nat} (vi:(pz.map fun x=>x.1.f.s.an).Nodup) (hb:xu (lR pz) c) (hx:x∈pz) (hN:x.1.f.s.an<N):(iW N nb pz seen).put x.1.f.s.an (some (x.1.f.b,x.1.f.p))=iW N nb pz (seen++[x.2]):=by
 unfold Pm.put iW;congr 1;apply List.ext_getElem
 ·simp
 ·intro i h1 h2;rw[List.getElem_set];simp only[List.length_set,List.length_map,List.length_range] at h1;by_cases hi:x.1.f.s.an=i
  ·rw[if_pos hi];simp only[List.getElem_map,List.getElem_range, ←hi,RG vi hx];rw[if_pos (by simp)]
  ·rw[if_neg hi];simp only[List.getElem_map,List.getElem_range]
   cases hg:mq i pz with
   |none=>rfl
   |some y=>
    obtain⟨hy1,TD⟩:=nL hg
    have hne:¬y.2=x.2:=by
     intro e;have hp:=(DN.1 hb).1;have hm:(lR pz).map En.b=pz.map Prod.snd:=by simp [lR]
     rw[hm] at hp;have hpn:(pz.map Prod.snd).Nodup:=hp.imp (fun h=>Nat.ne_of_lt h)
     have:y=x:=by
      obtain⟨t,ht,rfl⟩:=List.mem_iff_getElem.1 hy1;obtain⟨u,hu,rfl⟩:=List.mem_iff_getElem.1 hx;by_cases htu:t=u
      ·subst htu;rfl
      ·exfalso;rcases Nat.lt_or_gt_of_ne htu with h|h
       ·exact List.pairwise_iff_getElem.1 hpn t u (by simpa using ht) (by simpa using hu) h (by simpa using e)
       ·exact List.pairwise_iff_getElem.1 hpn u t (by simpa using hu) (by simpa using ht) h (by simpa using e.symm)
     rw[this] at TD;exact hi TD
    simp only[List.mem_append,List.mem_singleton,hne,or_false]
theorem DT {i:Nat} {cap:Int} {f:Fd}:∀{l:List (List UInt8)} {p:Nat},f∈iy i cap l p→f.b=i∧p≤f.p∧f.p<p+l.length∧(f.s.an:Int)≤cap
 |d::l,p,h=>by
  rw[iy] at h
  have ih:f∈iy i cap l (p+1)→f.b=i∧p≤f.p∧f.p<p+(d::l).length∧(f.s.an:Int)≤cap:=fun h=>by
   obtain⟨h1,h2,h3,h4⟩:=DT h;exact⟨h1,by omega,by rw[List.length_cons];omega,h4⟩
  split at h
  ·exact ih h
  ·split at h
   ·rename_i s hs hc;rcases List.mem_cons.1 h with rfl|h
    ·exact⟨rfl,Nat.le_refl _,by show p<p+(l.length+1);omega,hc.2⟩
    ·exact ih h
   ·exact ih h
theorem aab {a:Ar} {g:ct} (hr:a.rd g) (tx:a.aA≤32) {i:Nat} (hi:i<a.bs.length) {f:Fd} (hf:f∈a.fd g i):LH g f:=by
 unfold Ar.fd Bk.eQ at hf;rw[List.getD_eq_getElem?_getD,List.getElem?_eq_getElem hi] at hf;simp only[Option.getD_some] at hf;split at hf
 ·cases hf
 ·obtain⟨h1,h2,h3,h4⟩:=DT hf;have hl:=hr.len _ (List.getElem_mem hi);have hn:=hr.n;exact⟨h4,by omega,by omega⟩
section
variable {B:ag} {L:List cw} {H:ag} {K:V→ag→Prop} {aM mid pid mpid:Nat} {a:Ar} {m:Gm}
theorem LJ {g:ct} {pz:List (Rf×Nat)} (hok:AZ g pz) {N nb:Nat} (hN:N≤65536) (hnb:nb≤64) (hb:g.aE≤(nb:Int)) (seen:List Nat):(iW N nb pz seen).ok:=by
 refine⟨fun b p hm=> ?_,by simp [iW];exact hN,hnb⟩;obtain⟨x,hx,he⟩:=List.mem_map.1 hm;split at he
 ·rename_i y hy;obtain⟨hy1,_⟩:=nL hy;have:=hok.b _ hy1;split at he
  ·cases he;exact⟨by show _<nb;omega,this.2.2⟩
  ·cases he
 ·cases he
theorem J8 {pz:List (Rf×Nat)} {c N nb it:Nat} (hok:AZ m.g pz) (hb:xu (lR pz) c) (hN:N≤65536) (hcN:m.g.cap<(N:Int)) (hnb:nb≤64) (aaH:m.g.aE≤(nb:Int)) {sq:Nat} {spq:Oq} {spn spc:Nat} {Kr:Am.St→Prop} {Ke:Nat→Am.St→Prop} (hk:∀H' seen,(∀e∈lR pz,e.b∈seen)→az B H' (ob it (.dN (some pid) c seen c)::iI pid (lR pz) c::uP mpid (iW N nb pz seen)::L)→Ke 10 (St.mk (ab [(4,T.lp 4 0),(8,T.lp 8 0)]) (ab [(4,sX),(8,sW (some (mpid,0)) (some pid) sq spq spn spc)]) H')):∀(k:Nat) (seen:List Nat) {H:ag},(lR pz).countP (fun y=>decide (y.b∉seen))≤k→az B H (ob it (.dN (some pid) c seen c)::iI pid (lR pz) c::uP mpid (iW N nb pz seen)::L)→lo 59 55 (St.mk (ab [(4,T.lp 4 0),(6,T.v (V.aj (some (mpid,0)))),(8,T.lp 8 0),(160,T.v (V.dN 111 it))]) (ab [(4,sX),(8,sW (some (mpid,0)) (some pid) sq spq spn spc)]) H) Kr Ke
 |k,seen,H,hle,h=>by
  rw[Rj];refine h.OK hb (fun hall=>hk H seen hall h) (fun e he hn H' h' ac4 hkey hval=> ?_);obtain⟨x,hx,rfl⟩:=List.mem_map.1 he;have Xl:=hok.b x hx;have nY:=oJ (fun _=>true) hn hb.lt he;simp only[Bool.and_true,if_true] at nY
  have hneg:∀s:List Nat,(lR pz).countP (fun y=>decide (y.b∈s))+(lR pz).countP (fun y=>decide (y.b∉s))=(lR pz).length:=by
   intro s;have:=List.length_eq_countP_add_countP (fun y:En=>decide (y.b∈s)) (l:=lR pz);rw[this];congr 1;apply List.countP_congr;intro y _;simp
  have n1:=hneg seen;have n2:=hneg (seen++[x.2]);have hfit:aI pf x.1.cs=true:=rfl;have An:Rc x.1.cs=jg (x.1.f.b:Int) (x.1.f.p:Int):=rfl;simp only at hkey hval;simp only[ac4,hkey,hval,AN,hfit,An]
  cases k with
  |zero=>omega
  |succ k=>
   have hlen:(iW N nb pz seen).cg.length=N:=by simp [iW]
   have TQ:x.1.f.s.an<N:=by omega
   refine J2 (h'.ord [2]) (LJ hok hN hnb aaH seen) (by rw[hlen];exact TQ) (by show x.1.f.b<nb;omega) Xl.2.2 (fun H2 h2=> ?_);simp only[AN];rw[Is hok.nd hb hx TQ] at h2;exact J8 hok hb hN hcN hnb aaH hk k (seen++[x.2]) (by omega) (h2.ord [1,1])
theorem OY (h:az B H (dK aM a::L)) (hm:dB B L m) (hf:m.g.cZ=true) (hg:m.g.In) (hr:a.rd m.g) (ry:∀i∈m.g.us,i<a.bs.length) (vi:m.g.us.Nodup) (hc:0≤m.g.cap∧m.g.cap<65000) (k:∀mpid pid zs pz c q sc H',xM pz=a.AW m.g→xu (lR pz) c→AZ m.g pz→az B H' (uP mpid (qj m.g (a.AW m.g))::iI pid (lR pz) c::bw (List.map Rz.bX zs)::IR q sc (cF (Au m.g.us (a.RF m.g)).2)::dK aM a::L)→K (.tuple [.agg (cV (some (mpid,0)) (some pid) (a.LI m.g:Int) q (Au m.g.us (a.RF m.g)).2.length sc),.int .i64 0]) H'):cl 59 [.aj (some (aM,0)),m.v] H K:=by
 have tx:a.aA≤32:=by rw[hr.p];exact hg.p.2
 have Ba:=hg.b;have KX:=ct.kG m.g hg.b.2;have hv:m.v=.agg (dV m.g.aE m.g.aA m.g.aH m.q m.g.bK.length m.c):=rfl;rw[hv,abF, ←hv];simp only[Option.isNone_some,ai,eO];refine JS h (hm.bO _) hg.l (fun H1 h1=> ?_);simp only[hf,AN,reduceIte];rw[BB h1];simp only[AN,hr.n];rw[FQ h1];simp only[AN,hr.p];refine uE h1 (hm.bO _) hg (fun H2 h2=> ?_);simp only[AN];obtain⟨N,hN⟩:∃N:Nat,N=(m.g.cap+1).toNat:=⟨_,rfl⟩;obtain⟨nb,hnb⟩:∃nb:Nat,nb=m.g.aE.toNat:=⟨_,rfl⟩;have eN:IntKind.i64.wrap (m.g.cap+1)=(N:Int):=by rw[bj (by omega) (by omega)];omega
 have enb:m.g.aE=(nb:Int):=by omega
 have hform:4≤m.g.aE:=by
  have:=hf;unfold ct.cZ at this;rw[Bool.and_eq_true] at this;exact(of_decide_eq_true this.1:m.g.zj).1
 have hMN:=RD (K:= ?_) h2 (n:=N) (nb:=nb) (by omega) (by omega) ?_
 ·rw[eN];simp only[enb] at hMN⊢;exact hMN
 intro mpid H3 h3;simp only[AN];have h4:=(h3.OH).OH;obtain⟨pid,SJ⟩:∃p,p=H3.next:=⟨_,rfl⟩;obtain⟨mid,hmid⟩:∃p,p=(H3.alloc (.map [] 0)).next:=⟨_,rfl⟩;have aaI:(H3.alloc (.map [] 0)).2=mid:=hmid.symm;have aaJ:H3.2=pid:=SJ.symm;rw[←hmid, ←SJ] at h4;rw[aaI,aaJ];generalize (ag.alloc (ag.alloc H3 _) _)=H4 at h4⊢;simp only[←enb];have hmm:∀(A1 A2 A3 A4:cw),dB B (A1::A2::A3::A4::L) m:=fun A1 A2 A3 A4=>(((hm.bO _).bO _).bO _).bO _
 refine jD h4 (hmm _ _ _ _) hg (fun uq uc H5 h5=> ?_);simp only[AN];have hby:∀bz:List (Rz×Nat),nI bz=(m.g.us.map fun i=>(i,a.fd m.g i))→nI bz=a.RF m.g:=fun _ h=>h
 have h6:az B H5 (dK aM a::iI mid (qg []) 0::bw ((([]:List (Rz×Nat)).map Prod.fst).map Rz.bX)::IR uq uc (cF m.g.us)::iI pid (lR []) 0::uP mpid (Pm.new N nb)::L):=(h5.p8).ord [5,2,0,0,0];have hmA:dB B (iI pid (lR []) 0::uP mpid (Pm.new N nb)::L) m:=(hm.bO _).bO _;refine J5 (mpid:=mpid) (pid:=pid) (mid:=mid) hmA hf hg hr tx ry vi (fun bz bc H6 hbz hb hl h7=> ?_) m.g.us.length 0 [] 0 (by omega) rfl (xu.nil _) (by simp) h6;simp only[AN,reduceIte,Nat.reduceEqDiff,f25,xo,f112,wU,V.dv,V.ax];rw[show (nK 0 (m.g.us.flatMap (a.fd m.g)))=a.LI m.g from rfl]
 have aaK:∀z∈bz.map Prod.fst,∀r∈z.rs,LH m.g r.f:=by
  intro z hz r hr';obtain⟨x,hx,rfl⟩:=List.mem_map.1 hz;have:(x.1.i,x.1.rs.map Rf.f)∈nI bz:=List.mem_map.2 ⟨x,hx,rfl⟩;rw[hbz] at this;obtain⟨i,hi,he⟩:=List.mem_map.1 this;have Sy:=congrArg Prod.snd he;simp only at Sy;exact aab hr tx (ry i hi) (by rw[Sy];exact List.mem_map.2 ⟨r,hr',rfl⟩)
 have hzl:∀z∈bz.map Prod.fst,z.rs.length≤1000000:=by
  intro z hz;obtain⟨x,hx,rfl⟩:=List.mem_map.1 hz;have:=hl x hx;omega
 have aaL:∀x∈bz,x.1∈bz.map Prod.fst:=fun x hx=>List.mem_map.2 ⟨x,hx,rfl⟩
 obtain⟨zs,hzs⟩:∃zs,zs=bz.map Prod.fst:=⟨_,rfl⟩;rw[←hzs] at h7 aaK hzl aaL;refine jD h7 (((((((hm.bO _).bO _).bO _).bO _).bO _).bO _)) hg (fun uq2 uc2 H8 h8=> ?_);simp only[AN];have h9:az B H8 (iI mid (qg bz) bc::bw (zs.map Rz.bX)::IR none 0 (cF [])::IR uq2 uc2 (cF m.g.us)::dK aM a::iI pid (lR []) 0::uP mpid (Pm.new N nb)::L):=(((az.uC h8).ord [5]).drop).ord [3,3];refine DR (mpid:=mpid) (pid:=pid) hzl KX m.g.us.length 0 bz bc [] (by omega) (by simp) hb aaL (fun bz2 bc2 spq spc H10 WI m7 aaM xZ=> ?_) h9;rw[List.drop_zero] at WI xZ⊢;rw[List.nil_append] at xZ⊢;rw[hby bz hbz] at WI xZ⊢;simp only[AN,reduceIte,Nat.reduceEqDiff,f25,xo,f112,wU,V.ax];refine jD xZ ((((((((hm.bO _).bO _).bO _).bO _).bO _).bO _).bO _)) hg (fun uq3 uc3 H11 CC=> ?_);simp only[AN];have h12:az B H11 (iI pid (lR []) 0::bw (zs.map Rz.bX)::iI mid (qg bz2) bc2::IR uq3 uc3 (cF m.g.us)::IR spq spc (cF (Au m.g.us (a.RF m.g)).2)::dK aM a::uP mpid (Pm.new N nb)::L):=((CC.ord [4]).drop).ord [5,2,1];refine J6 (mpid:=mpid) (pid:=pid) (m:=m) aaM hzl aaK KX (fun pz pc H13 Hl hpb EH Qy=> ?_) m.g.us.length 0 [] 0 (by omega) rfl (xu.nil _) ⟨by simp,by simp⟩ h12;have aaN:xM pz=a.AW m.g:=by rw[Hl,WI];rfl
 have hms:=Ti Qy;simp only[AN,reduceIte,Nat.reduceEqDiff,f112,wU,T9,V.ax,Option.isNone_some,hms];have SN:=Qy.OL;obtain⟨it,hit⟩:∃it,it=H13.next:=⟨_,rfl⟩;have ac5:H13.2=it:=hit.symm;rw[←hit] at SN;rw[ac5];generalize (ag.alloc H13 _)=H14 at SN⊢
 have e0:Pm.new N nb=iW N nb pz []:=by
  unfold Pm.new iW;congr 1;apply List.ext_getElem
  ·simp
  ·intro i h1 h2;simp only[List.getElem_replicate,List.getElem_map];split<;>rfl
 rw[e0] at SN;have h15:az B H14 (ob it (.dN (some pid) pc [] pc)::iI pid (lR pz) pc::uP mpid (iW N nb pz [])::bw (zs.map Rz.bX)::IR spq spc (cF (Au m.g.us (a.RF m.g)).2)::dK aM a::L):=((SN.ord [3,3]).drop.drop).ord [0,0,3];refine J8 (m:=m) (mpid:=mpid) (pid:=pid) EH hpb (N:=N) (nb:=nb) (by omega) (by omega) (by omega) (by omega) (fun H16 seen hall h16=> ?_) _ [] (Nat.le_refl _) h15;simp only[AN,reduceIte,Nat.reduceEqDiff,f112,wU]
 have efin:iW N nb pz seen=qj m.g (a.AW m.g):=by
  unfold iW qj;rw[hN,hnb];congr 1;apply List.map_congr_left;intro i hi;rw[←aaN,vT]
  cases I4:mq i pz with
  |none=>rfl
  |some y=>
   have:=hall _ (List.mem_map.2 ⟨y,(nL I4).1,rfl⟩);simp only at this;simp only[this,if_true];rfl
 rw[efin] at h16;exact k mpid pid zs pz pc spq spc H16 aaN hpb EH (h16.drop.ord [1])
end
def fG (v:Vw) (i:Nat):Prop:=v i≠[]∧∀f∈v i,mt v f
theorem qU {v:Vw} {i:Nat} (h:k8 v i):¬fG v i:=fun⟨_,h2⟩=>by
 obtain⟨f,hf,hm⟩:=h;exact hm (h2 f hf)
theorem BN {v:Vw} {i:Nat} (h:¬fG v i) (hne:v i≠[]):k8 v i:=
 Classical.byContradiction fun hn=>h ⟨hne,fun f hf=>Classical.byContradiction fun hm=>hn ⟨f,hf,hm⟩⟩
theorem BP {i:Nat} (j:Nat):∀{l:List (Nat×List Fd)},(l.map Prod.fst).Nodup→hY j (xx i l)=if j=i then [] else hY j l
 |[],_=>by simp [xx,hY]
 |x::l,h=>by
  rw[List.map_cons,List.nodup_cons] at h;rw[xx];by_cases hx:x.1=i
  ·rw[if_pos hx];by_cases hj:j=i
   ·rw[if_pos hj,hj, ←hx]
    have:∀(l:List (Nat×List Fd)),x.1∉l.map Prod.fst→hY x.1 l=[]:=by
     intro l
     induction l with
     |nil=>intro;rfl
     |cons y l ih=>
      intro hn;rw[List.map_cons,List.mem_cons] at hn;rw[hY,if_neg (fun e=>hn (.inl e.symm))];exact ih (fun h=>hn (.inr h))
    exact this l h.1
   ·rw[if_neg hj,hY,if_neg (by omega)]
  ·rw[if_neg hx];by_cases hxj:x.1=j
   ·subst hxj;rw[hY,if_pos rfl,if_neg hx,hY,if_pos rfl]
   ·rw[hY,if_neg hxj,BP j h.2,hY,if_neg hxj]
theorem LK {i:Nat}:∀{l:List (Nat×List Fd)},(l.map Prod.fst).Nodup→((xx i l).map Prod.fst).Nodup
 |[],h=>h
 |x::l,h=>by
  have hsub:∀l:List (Nat×List Fd),(xx i l).Sublist l:=by
   intro l
   induction l with
   |nil=>exact .slnil
   |cons y l ih=>
    rw[xx];split
    ·exact List.sublist_cons_self _ _
    ·exact ih.cons_cons _
  exact h.sublist ((hsub (x::l)).map _)
theorem F6 (f:Nat→List Fd) (i:Nat):∀us:List Nat,hY i (us.map fun i=>(i,f i))=if i∈us then f i else []
 |[]=>rfl
 |j::us=>by
  rw[List.map_cons,hY,F6 f i us];by_cases h:j=i
  ·subst h;simp
  ·have:¬i=j:=fun e=>h e.symm
   simp [h,this]
section
variable {v:Vw} {c:Nat→List UInt8}
theorem It (h:Gd v c) {cN:List (Nat×List Fd)} (hb:∀i,hY i cN=v i∨hY i cN=[]∧fG v i) {i:Nat} (hi:hY i cN=v i):kT cN i=true↔fG v i:=by
 have hl:∀(t:Fd) (o:Fd),o∈Il cN t.s.fr→t.s.fr≠0∧o∈v (t.s.fr-1):=fun t o ho=>by
  unfold Il at ho;split at ho
  ·cases ho
  ·rename_i hf;refine⟨hf, ?_⟩;rcases hb (t.s.fr-1) with e|⟨e,_⟩
   ·rw[e] at ho;exact ho
   ·rw[e] at ho;cases ho
 unfold kT;rw[hi]
 cases hv:v i with
 |nil=>exact⟨fun h=>(by cases h),fun h=>absurd hv h.1⟩
 |cons f l=>
  constructor
  ·intro hall;refine⟨by rw[hv];simp,fun t ht=> ?_⟩;rw[hv] at ht;have:=List.all_eq_true.1 hall t ht;unfold sU at this;simp only[Bool.and_eq_true,decide_eq_true_eq,List.any_eq_true] at this;obtain⟨h0,h1,o,ho,hm⟩:=this;rw[←h1] at ho;obtain⟨h2,h3⟩:=hl t o ho;exact⟨h2,o,h3,hm⟩
  ·intro hs;refine List.all_eq_true.2 fun t ht=> ?_
   have hf:f∈v i:=by rw[hv];exact List.mem_cons_self
   have ht':t∈v i:=by rw[hv];exact ht
   obtain⟨TS,_⟩:=hs.2 f hf;obtain⟨ht0,o,ho,hm⟩:=hs.2 t ht';have he:=h.a6 i t ht' f hf ht0 TS;have hn:=h.a7 i t ht' ⟨ht0,o,ho,hm⟩
   have hg:hY (t.s.fr-1) cN=v (t.s.fr-1):=by
    rcases hb (t.s.fr-1) with e|⟨_,e⟩
    ·exact e
    ·exact absurd e (qU hn)
   unfold sU;simp only[Bool.and_eq_true,decide_eq_true_eq,List.any_eq_true];refine⟨TS,he,o, ?_,hm⟩;unfold Il;rw[if_neg TS, ←he,hg];exact ho
open Classical in
theorem zu (h:Gd v c):∀(us:List Nat) (cN:List (Nat×List Fd)),us.Nodup→(cN.map Prod.fst).Nodup→(∀i,hY i cN=v i∨hY i cN=[]∧fG v i)→(∀i∈us,hY i cN=v i)→
 ∀i,hY i (Au us cN).1=if i∈us∧fG v i then [] else hY i cN
 |[],cN,_,_,_,_,i=>by simp [Au]
 |j::us,cN,vi,hk,hb,hu,i=>by
  rw[List.nodup_cons] at vi;have hj:=hu j List.mem_cons_self;have hc:=It h hb hj;rw[Au];by_cases hs:fG v j
  ·rw[if_pos (hc.2 hs)];have hd:=fun i=>BP (i:=j) i hk
   rw[zu h us (xx j cN) vi.2 (LK hk) (fun i=> ?_) (fun i hi=> ?_) i,hd i]
   ·by_cases hij:i=j
    ·subst hij;simp [hs]
    ·simp [hij]
   ·rw[hd i];by_cases hij:i=j
    ·subst hij;exact .inr ⟨if_pos rfl,hs⟩
    ·rw[if_neg hij];exact hb i
   ·rw[hd i,if_neg (fun e=>vi.1 (by rw[←e];exact hi))];exact hu i (List.mem_cons_of_mem _ hi)
  ·rw[if_neg (fun e=>hs (hc.1 e)),zu h us cN vi.2 hk hb (fun i hi=>hu i (List.mem_cons_of_mem _ hi)) i];by_cases hij:i=j
   ·subst hij;simp [hs]
   ·simp [hij]
def Nw (pg S:List Fd) (x:Nat):Prop:=
 (jE x pg=none∧∀y∈S,y.s.an≠x)∨∃f,jE x pg=some f∧f∈S∧f.s.an=x∧∀y∈S,y.s.an=x→y.s.seq≤f.s.seq
theorem F7 (x:Nat) (f:Fd):∀pg:List Fd,jE x (rZ f pg)=if f.s.an=x then (match jE x pg with|none=>some f|some o=>if o.s.seq<f.s.seq then some f else some o) else jE x pg
 |[]=>by simp [rZ,jE]
 |o::l=>by
  rw[rZ];by_cases ho:o.s.an=f.s.an
  ·rw[if_pos ho];by_cases hs:o.s.seq<f.s.seq
   ·rw[if_pos hs,jE,jE];by_cases hx:f.s.an=x
    ·simp [hx,ho.trans hx,hs]
    ·have:¬o.s.an=x:=fun e=>hx (ho.symm.trans e)
     simp [hx,this]
   ·rw[if_neg hs,jE];by_cases hx:f.s.an=x
    ·simp [hx,ho.trans hx,hs]
    ·simp [hx]
  ·rw[if_neg ho,jE,F7 x f l,jE];by_cases hx:f.s.an=x
   ·have:¬o.s.an=x:=fun e=>ho (e.trans hx.symm)
    simp [hx,this]
   ·simp [hx]
theorem Nw.ins {pg S:List Fd} {x:Nat} (h:Nw pg S x) (f:Fd):Nw (rZ f pg) (S++[f]) x:=by
 unfold Nw;rw[F7];by_cases hx:f.s.an=x
 ·rw[if_pos hx];right;rcases h with⟨h1,h2⟩|⟨g,h1,h2,h3,h4⟩
  ·rw[h1];refine⟨f,rfl,by simp,hx,fun y hy ha=> ?_⟩;rcases List.mem_append.1 hy with hy|hy
   ·exact absurd ha (h2 y hy)
   ·rw[List.mem_singleton] at hy;rw[hy];exact Nat.le_refl _
  ·rw[h1];by_cases hs:g.s.seq<f.s.seq
   ·refine⟨f,if_pos hs,by simp,hx,fun y hy ha=> ?_⟩;rcases List.mem_append.1 hy with hy|hy
    ·have:=h4 y hy ha;omega
    ·rw[List.mem_singleton] at hy;rw[hy];exact Nat.le_refl _
   ·refine⟨g,if_neg hs,List.mem_append.2 (.inl h2),h3,fun y hy ha=> ?_⟩;rcases List.mem_append.1 hy with hy|hy
    ·exact h4 y hy ha
    ·rw[List.mem_singleton] at hy;rw[hy];omega
 ·rw[if_neg hx];rcases h with⟨h1,h2⟩|⟨g,h1,h2,h3,h4⟩
  ·refine .inl ⟨h1,fun y hy=> ?_⟩;rcases List.mem_append.1 hy with hy|hy
   ·exact h2 y hy
   ·rw[List.mem_singleton] at hy;rw[hy];exact hx
  ·refine .inr ⟨g,h1,List.mem_append.2 (.inl h2),h3,fun y hy ha=> ?_⟩;rcases List.mem_append.1 hy with hy|hy
   ·exact h4 y hy ha
   ·rw[List.mem_singleton] at hy;rw[hy] at ha;exact absurd ha hx
theorem Nw.all {x:Nat}:∀(l:List Fd) {pg S:List Fd},Nw pg S x→Nw (uQ pg l) (S++l) x
 |[],pg,S,h=>by simpa [uQ] using h
 |f::l,pg,S,h=>by
  have:=Nw.all l (h.ins f);rw[List.append_assoc] at this;exact this
theorem Nw.aE {x:Nat} {cN:List (Nat×List Fd)}:∀(us:List Nat) {pg S:List Fd},Nw pg S x→Nw (ey cN pg us) (S++us.flatMap fun i=>hY i cN) x
 |[],pg,S,h=>by simpa [ey] using h
 |i::us,pg,S,h=>by
  have:=Nw.aE (cN:=cN) us (h.all (hY i cN));rw[List.append_assoc] at this;exact this
theorem RH (h:Gd v c) {us:List Nat} (vi:us.Nodup) (hout:∀i,i∉us→v i=[]) (x:Nat):(jE x (ey (Au us (us.map fun i=>(i,v i))).1 [] us)=none∧∀b,∀f∈v b,f.s.an≠x)∨∃f,jE x (ey (Au us (us.map fun i=>(i,v i))).1 [] us)=some f∧f∈v f.b∧¬fG v f.b∧xb v c x f:=by
 have hk:((us.map fun i=>(i,v i)).map Prod.fst).Nodup:=by
  rw[List.map_map];have:us.map (Prod.fst ∘ fun i=>(i,v i))=us:=List.map_id _;rw[this];exact vi
 have hg:∀i,hY i (us.map fun i=>(i,v i))=v i:=fun i=>by
  rw[F6 v i us];split
  ·rfl
  ·rename_i hi;exact(hout i hi).symm
 have hsp:=zu h us _ vi hk (fun i=>.inl (hg i)) (fun i _=>hg i);obtain⟨cN,hby⟩:∃cN,cN=(Au us (us.map fun i=>(i,v i))).1:=⟨_,rfl⟩
 rw[←hby] at hsp⊢
 have hS:∀y:Fd,y∈([]++us.flatMap fun i=>hY i cN)↔∃i,y∈v i∧¬fG v i:=fun y=>by
  rw[List.nil_append,List.mem_flatMap];constructor
  ·rintro⟨i,hi,hy⟩;rw[hsp i,hg i] at hy;split at hy
   ·cases hy
   ·rename_i hn;exact⟨i,hy,fun hs=>hn ⟨hi,hs⟩⟩
  ·rintro⟨i,hy,hs⟩;have hi:i∈us:=Classical.byContradiction fun hi=>by rw[hout i hi] at hy;cases hy
   refine⟨i,hi, ?_⟩;rw[hsp i,hg i,if_neg (fun hh=>hs hh.2)];exact hy
 have hN:Nw (ey cN [] us) ([]++us.flatMap fun i=>hY i cN) x:=Nw.aE us (.inl ⟨rfl,fun y hy=>by cases hy⟩)
 have hfind:∀b,∀t∈v b,t.s.an=x→∃u i,u∈v i∧¬fG v i∧u.s.an=x∧u.s.seq≤t.s.seq∧(∀b',∀y∈v b',y.s.an=x→u.s.seq≤y.s.seq→y.s.seq≤t.s.seq→y.s.data=t.s.data∨¬fG v b):=fun b t ht hx=>by
  by_cases hs:fG v b
  ·obtain⟨u,hu,h1,h2,h3,h4⟩:=h.a3 b t ht (hs.2 t ht);refine⟨u,_,hu,qU (h.a7 b t ht (hs.2 t ht)),h1.trans hx,Nat.le_of_lt h2,fun b' y hy I8 hs1 nY=>.inl (h4 b' y hy (I8.trans hx.symm) hs1 nY)⟩
  ·exact⟨t,b,ht,hs,hx,Nat.le_refl _,fun _ _ _ _ _ _=>.inr hs⟩
 rcases hN with⟨h1,h2⟩|⟨f,h1,h2,h3,h4⟩
 ·refine .inl ⟨h1,fun b t ht hx=> ?_⟩;obtain⟨u,i,hu,hui,hux,_⟩:=hfind b t ht hx;exact h2 u ((hS u).2 ⟨i,hu,hui⟩) hux
 ·obtain⟨i,SA,his⟩:=(hS f).1 h2;have hfb:=h.ov i f SA;refine .inr ⟨f,h1,by rw[hfb];exact SA,by rw[hfb];exact his,h3, ?_⟩;rcases h.a2 x with⟨_,hno⟩|⟨b,t,ht,htx,htd,htn⟩
  ·exact absurd h3 (hno i f SA)
  ·obtain⟨u,j,hu,huj,hux,ry,ac6⟩:=hfind b t ht htx;have huf:=h4 u ((hS u).2 ⟨j,hu,huj⟩) hux
   have key:∀b',∀y∈v b',y.s.an=x→f.s.seq≤y.s.seq→y.s.data=c x:=fun b' y hy I8 hys=>by
    by_cases hty:t.s.seq≤y.s.seq
    ·exact htn b' y hy I8 hty
    ·rcases ac6 b' y hy I8 (by omega) (by omega) with e|hs
     ·rw[e];exact htd
     ·have:=h4 t ((hS t).2 ⟨b,ht,hs⟩) htx;omega
   exact⟨key i f SA h3 (Nat.le_refl _),key⟩
end
structure Po where
 bl:List (Nat×Nat)
def fK (b:Nat):List (Nat×Nat)→Option Nat
 |[]=>none
 |x::l=>if x.1=b then some x.2 else fK b l
def Po.how (p:Po) (b:Nat):Option Nat:=fK b p.bl
def qk (b h:Nat):List (Nat×Nat)→List (Nat×Nat)
 |[]=>[]
 |x::l=>if x.1=b then (x.1,h)::l else x::qk b h l
def Po.cz (p:Po) (b h:Nat):Po:=⟨qk b h p.bl⟩
def DU:List (Nat×Nat)→Option Nat
 |[]=>none
 |x::l=>if x.2=2 then some x.1 else DU l
def Po.ku (p:Po):Option Nat:=DU p.bl
def Po.count (p:Po) (h:Nat):Nat:=p.bl.countP fun x=>decide (x.2=h)
def Po.jF (p:Po):Po:=match p.ku with|some o=>p.cz o 1|none=>p
def Po.set (p:Po) (b h:Nat):Po:=if p.how b=some 3∧h≠3 then p else (if h=2 then p.jF else p).cz b h
def gw (h:Nat) (w:List Int):List (Nat×Nat)→Option Nat→Option Nat
 |[],o=>o
 |x::l,o=>if x.2≠h∨w.length≤x.1 then gw h w l o else match o with
  |none=>gw h w l (some x.1)
  |some b=>if w.getD x.1 0<w.getD b 0 then gw h w l (some x.1) else gw h w l (some b)
def Po.iX (p:Po) (h:Nat) (w:List Int):Option Nat:=gw h w p.bl none
def Po.new (bs:List Nat):Po:=⟨bs.map fun b=>(b,0)⟩
structure Po.ok (p:Po):Prop where
 lt:(p.bl.map Prod.fst).Pairwise (· < ·)
 b:∀x∈p.bl,x.1<64
 h:∀x∈p.bl,x.2≤3
theorem kg (b h:Nat):∀l,(qk b h l).map Prod.fst=l.map Prod.fst
 |[]=>rfl
 |x::l=>by
  rw[qk];split
  ·rfl
  ·rw[List.map_cons,kg b h l,List.map_cons]
theorem zw {b h:Nat} {x:Nat×Nat}:∀{l},x∈qk b h l→x∈l∨x=(b,h)
 |y::l,hx=>by
  rw[qk] at hx;split at hx
  ·rename_i e;rcases List.mem_cons.1 hx with rfl|hx
   ·right;rw[e]
   ·exact .inl (List.mem_cons_of_mem _ hx)
  ·rcases List.mem_cons.1 hx with rfl|hx
   ·exact .inl List.mem_cons_self
   ·exact(zw hx).imp (List.mem_cons_of_mem _) id
theorem Po.ok.cz {p:Po} (hp:p.ok) {b h:Nat} (hb:b<64) (hh:h≤3):(p.cz b h).ok:=by
 refine⟨?_,fun x hx=> ?_,fun x hx=> ?_⟩
 ·show ((qk b h p.bl).map Prod.fst).Pairwise _
  rw[kg];exact hp.lt
 ·rcases zw hx with hx|rfl
  ·exact hp.b x hx
  ·exact hb
 ·rcases zw hx with hx|rfl
  ·exact hp.h x hx
  ·exact hh
theorem qm {o:Nat}:∀{l:List (Nat×Nat)},DU l=some o→(o,2)∈l
 |x::l,h=>by
  rw[DU] at h;split at h
  ·rename_i e;cases h;rw[←e];exact List.mem_cons_self
  ·exact List.mem_cons_of_mem _ (qm h)
theorem Po.ok.jF {p:Po} (hp:p.ok):p.jF.ok:=by
 unfold Po.jF
 cases ho:p.ku with
 |none=>exact hp
 |some o=>exact hp.cz (hp.b _ (qm ho)) (by omega)
theorem Po.ok.set {p:Po} (hp:p.ok) {b h:Nat} (hb:b<64) (hh:h≤3):(p.set b h).ok:=by
 unfold Po.set;split
 ·exact hp
 ·split
  ·exact hp.jF.cz hb hh
  ·exact hp.cz hb hh
theorem kh {b:Nat}:∀{l:List (Nat×Nat)},(fK b l).isSome=true↔b∈l.map Prod.fst
 |[]=>by simp [fK]
 |x::l=>by
  rw[fK];split
  ·rename_i e;simp [e]
  ·rename_i e;rw[kh,List.map_cons,List.mem_cons];exact⟨.inr,fun h=>h.elim (fun h=>absurd h.symm e) id⟩
theorem Iu (p:Po):p.jF.bl.map Prod.fst=p.bl.map Prod.fst:=by
 unfold Po.jF
 cases p.ku with
 |none=>rfl
 |some o=>exact kg ..
theorem RI (p:Po) (b h:Nat):(p.set b h).bl.map Prod.fst=p.bl.map Prod.fst:=by
 unfold Po.set;split
 ·rfl
 ·split
  ·exact(kg ..).trans (Iu p)
  ·exact kg ..
def nM:List (Nat×Nat)→Nat→List En
 |[],_=>[]
 |x::l,i=>⟨x.1,.int .u8 x.2,i⟩::nM l (i+1)
theorem uS {b:Nat}:∀(l:List (Nat×Nat)) (i:Nat),Hc (b:Int) (nM l i)=(fK b l).map fun h:Nat=>V.int .u8 (h:Int)
 |[],_=>rfl
 |x::l,i=>by
  rw[nM,Hc,fK,uS l (i+1)];by_cases h:x.1=b
  ·have:(x.1:Int)=(b:Int):=by omega
   simp [h]
  ·have:¬(x.1:Int)=(b:Int):=by omega
   simp [h,this]
theorem F8 {b h:Nat}:∀(l:List (Nat×Nat)) (i:Nat),AY (b:Int) (.int .u8 (h:Int)) (nM l i)=nM (qk b h l) i
 |[],_=>rfl
 |x::l,i=>by
  rw[nM,AY,qk,F8 l (i+1)];by_cases hx:x.1=b
  ·have:(x.1:Int)=(b:Int):=by omega
   simp [hx,nM]
  ·have:¬(x.1:Int)=(b:Int):=by omega
   simp [hx,this,nM]
theorem OZ:∀(l:List (Nat×Nat)) (i:Nat),(nM l i).map En.b=List.range' i l.length
 |[],_=>rfl
 |x::l,i=>by
  rw[nM,List.map_cons,OZ l (i+1),List.length_cons,List.range'_succ]
theorem DV (l:List (Nat×Nat)):xu (nM l 0) l.length:=by
 rw[DN,OZ];refine⟨List.pairwise_lt_range',fun b hb=> ?_⟩;rw[List.mem_range'_1] at hb;omega
theorem J9:∀(l:List (Nat×Nat)) (x:Nat×Nat) (i:Nat),nM (l++[x]) i=nM l i++[⟨x.1,.int .u8 x.2,i+l.length⟩]
 |[],x,i=>rfl
 |y::l,x,i=>by
  show _::nM (l++[x]) (i+1)=_
  rw[J9 l x (i+1)];show _=_::(nM l (i+1)++_)
  congr 4;simp;omega
structure Pz where
 q:Oq
 c:Nat
 mid:Nat
def VO (p:Po) (x:Pz):List V:=Lo x.q p.bl.length x.c (some x.mid)
def DW (id:Nat) (p:Po):cw:=EK fun x:Pz=>bw [db id 166 (VO p x),IR x.q x.c (cF (p.bl.map Prod.fst)),iI x.mid (nM p.bl 0) p.bl.length]
section
variable {B:ag} {L:List cw} {H:ag} {K:V→ag→Prop} {id:Nat} {p:Po} {x:Pz}
abbrev zx (B H:ag) (id:Nat) (p:Po) (x:Pz) (L:List cw):Prop:=az B H (db id 166 (VO p x)::IR x.q x.c (cF (p.bl.map Prod.fst))::iI x.mid (nM p.bl 0) p.bl.length::L)
theorem zx.of (h:az B H (DW id p::L)):∃x,zx B H id p x L:=by
 obtain⟨x,h⟩:=h.MV;exact⟨x,h.Ly⟩
theorem zx.to (h:zx B H id p x L):az B H (DW id p::L):=by
 have h2:az B H (bw [db id 166 (VO p x),IR x.q x.c (cF (p.bl.map Prod.fst)),iI x.mid (nM p.bl 0) p.bl.length]::L):=az.sN h;exact az.intro h2
structure PoG (H:ag) (id:Nat) (p:Po) (x:Pz):Prop where
 i0:H.inb id 0 1=true
 i1:H.inb id 1 1=true
 c0:H.cell id 0=.slice x.q p.bl.length x.c
 c1:H.cell id 1=.map (some x.mid)
 w0:H.wr id 0 1=true
 mo:eG H .i64 (some x.mid)=true
 ms:H.isMap x.mid=true
 mg:∀(b:Nat) z,cu H (some x.mid) (b:Int) z=((p.how b).map fun h:Nat=>V.int .u8 (h:Int)).getD z
 mh:∀(b:Nat),lj H (some x.mid) (b:Int)=(p.how b).isSome
 r:∀(i:Nat) (hi:i<p.bl.length),x.q.isSome=true∧H.inb (pb x.q) (po x.q+i*1) 1=true∧H.cell (pb x.q) (po x.q+i*1)=.int .i64 ((p.bl[i]).1:Int)
theorem VP (h:zx B H id p x L):PoG H id p x:=by
 have hg:=h.get;have hl:(VO p x).length=2:=rfl;have hm:=h.ord [2];refine⟨nD hg (by omega),nD hg (by omega),aZ hg 0,aZ hg 1,fF hg 0 1,uK hm,Ti hm,fun b z=> ?_,fun b=> ?_,fun i hi=> ?_⟩
 ·rw[zo hm,uS];rfl
 ·rw[OI hm,uS,Option.isSome_map];rfl
 ·have:=(az.sO (h.ord [1])).at (i:=i) (by simpa using hi);simpa [cF] using this
theorem zx.cz (h:zx B H id p x L) {b:Nat} (hb:(p.how b).isSome=true) (hw:Nat):zx B (ij H .i64 x.mid (b:Int) (.int .u8 (hw:Int))) id (p.cz b hw) x L:=by
 have h1:=(h.ord [2]).J0 (b:Int) (.int .u8 (hw:Int))
 have e:rE (b:Int) (.int .u8 (hw:Int)) (nM p.bl 0) p.bl.length=(nM (p.cz b hw).bl 0,p.bl.length):=by
  unfold rE;rw[uS,Option.isSome_map];have:(fK b p.bl).isSome=true:=hb;rw[if_pos this,F8];rfl
 rw[e] at h1
 have hl:(p.cz b hw).bl.length=p.bl.length:=by
  have:=congrArg List.length (kg b hw p.bl);rw[List.length_map,List.length_map] at this;exact this
 unfold zx VO;rw[hl,show (p.cz b hw).bl.map Prod.fst=p.bl.map Prod.fst from kg ..];exact h1.ord [1,1]
end
theorem O0 {p:Po} (hp:p.ok) {i:Nat} (hi:i<p.bl.length):p.how (p.bl[i]).1=some (p.bl[i]).2:=by
 have key:∀(l:List (Nat×Nat)) (i:Nat) (hi:i<l.length),(l.map Prod.fst).Pairwise (· < ·)→fK (l[i]).1 l=some (l[i]).2:=by
  intro l
  induction l with
  |nil=>intro i hi;cases hi
  |cons x l ih=>
   intro i hi hp;rw[List.map_cons,List.pairwise_cons] at hp
   cases i with
   |zero=>simp [fK]
   |succ i=>
    have hi':i<l.length:=Nat.lt_of_succ_lt_succ hi;have:=hp.1 (l[i]).1 (List.mem_map.2 ⟨_,List.getElem_mem hi',rfl⟩);rw[List.getElem_cons_succ,fK,if_neg (by omega)];exact ih i hi' hp.2
 exact key _ _ _ hp.lt
theorem Po.ok.F9 {p:Po} (hp:p.ok):(p.bl.map Prod.fst).Nodup:=List.Pairwise.imp (fun {a b} (h:a<b)=>Nat.ne_of_lt h) hp.lt
theorem Po.ok.len {p:Po} (hp:p.ok):p.bl.length≤64:=by
 have h3:=List.Nodup.length_le_of_subset hp.F9 (l₂:=List.range 64) (fun b hb=>by
  obtain⟨x,hx,rfl⟩:=List.mem_map.1 hb
  exact List.mem_range.2 (hp.b x hx))
 simpa using h3
theorem BQ (h:Nat):∀(l:List (Nat×Nat)) (i:Nat),(nM l i).countP (fun y=>decide (V.aa y.v=(h:Int)))=l.countP fun x=>decide (x.2=h)
 |[],_=>rfl
 |x::l,i=>by
  rw[nM,List.countP_cons,List.countP_cons,BQ h l (i+1)];have:decide (V.aa (V.int .u8 (x.2:Int))=(h:Int))=decide (x.2=h):=decide_eq_decide.2 (by rw[aV];omega);simp only[this]
theorem Kb:∀(l:List (Nat×Nat)) (i:Nat),∀e∈nM l i,∃h:Nat,e.v=.int .u8 (h:Int)
 |x::l,i,e,he=>by
  rw[nM] at he;rcases List.mem_cons.1 he with rfl|he
  ·exact⟨_,rfl⟩
  ·exact Kb l _ e he
section
variable {B:ag} {L L':List cw} {H:ag} {K:V→ag→Prop} {id:Nat} {p:Po} {x:Pz}
theorem Ga (hx:zx B H id p x L) (hp:p.ok) {Kr:Am.St→Prop} {Ke:Nat→Am.St→Prop}:∀(k i:Nat),i+k=p.bl.length→(match DU (p.bl.drop i) with
 |some o=>Kr (St.mk (ab [(2,T.v (V.int .i64 (o:Int))),(3,T.v (V.bool true))]) (ab []) H)
 |none=>Ke 0 (St.mk (ab []) (ab []) H))→
 lo 103 4
  (St.mk (ab [(0,T.v (V.aj (some (id,0)))),(11,T.v (V.slice x.q p.bl.length x.c)),(12,T.v (V.int .i64 (p.bl.length:Int))),(13,T.v (V.int .i64 (i:Int)))]) (ab []) H) Kr Ke
 |0,i,hi,hk=>by
  obtain rfl:i=p.bl.length:=by omega
  rw[List.drop_length] at hk;rw[Ju,decide_eq_false (by omega),ai];exact hk
 |k+1,i,hi,hk=>by
  have hlt:i<p.bl.length:=by omega
  have g:=VP hx;obtain⟨s1,i1,c1⟩:=g.r i hlt;have a1:(i:Int)<(p.bl.length:Int):=by omega
  have a2:0≤(i:Int):=by omega
  have hh:=O0 hp hlt;have hb:=hp.b _ (List.getElem_mem hlt);have hle:=hp.len;rw[List.drop_eq_getElem_cons hlt,DU] at hk;rw[Ju];simp only[AN,a1,a2,Int.toNat_natCast,s1,i1,c1,Option.isSome_some,Nat.zero_add,g.i1,g.c1,V.dv,V.ax,g.mo,g.mg,hh,Option.map_some];by_cases h2:(p.bl[i]).2=2
  ·have Cz:((p.bl[i]).2:Int)=2:=by omega
   rw[if_pos h2] at hk;simp only[Cz,decide_true,ar];exact hk
  ·have Cz:¬((p.bl[i]).2:Int)=2:=by omega
   rw[if_neg h2] at hk;simp only[Cz,decide_false,ai];rw[aK (by omega)];exact Ga hx hp k (i+1) (by omega) hk
theorem Gb (h:az B H (DW id p::L)) (hp:p.ok):(K (.tuple [.int .i64 ((p.ku.getD 0:Nat):Int),.bool p.ku.isSome]) H)→cl 103 [.aj (some (id,0))] H K:=by
 intro k;obtain⟨x,hx⟩:=zx.of h;have g:=VP hx;rw[Ze];simp only[AN,Option.isNone_some,Option.isSome_some,g.i0,g.c0];refine Ga hx hp p.bl.length 0 (by omega) ?_;rw[List.drop_zero];have e:DU p.bl=p.ku:=rfl;rw[e]
 cases ho:p.ku with
 |none=>simp only[AN];rw[ho] at k;exact k
 |some o=>simp only[AN,reduceIte,Nat.reduceEqDiff];rw[ho] at k;exact k
theorem BR {mid it:Nat} (hp:p.ok) (hw:Nat) {Kr:Am.St→Prop} {Ke:Nat→Am.St→Prop} (hk:∀H',az B H' L→Ke 0 (St.mk (ab [(5,T.v (V.int .i64 (p.count hw:Int)))]) (ab []) H')) (hL:∀H seen,az B H (ob it (.dN (some mid) p.bl.length seen p.bl.length)::iI mid (nM p.bl 0) p.bl.length::L')→az B H L):∀(k:Nat) (seen:List Nat) {H:ag},(nM p.bl 0).countP (fun y=>decide (y.b∉seen))≤k→az B H (ob it (.dN (some mid) p.bl.length seen p.bl.length)::iI mid (nM p.bl 0) p.bl.length::L')→lo 93 5 (St.mk (ab [(1,T.v (V.int .u8 (hw:Int))),(5,T.v (V.int .i64 (((nM p.bl 0).countP (fun y=>decide (y.b∈seen)&&decide (V.aa y.v=(hw:Int))):Nat):Int))),(14,T.v (V.dN 164 it))]) (ab []) H) Kr Ke
 |k,seen,H,hle,h=>by
  rw[Vx];refine h.OK (DV _) (fun hall=> ?_) (fun e he hn H' h' hok hkey hval=> ?_)
  ·have e1:(nM p.bl 0).countP (fun y=>decide (y.b∈seen)&&decide (V.aa y.v=(hw:Int)))=p.count hw:=by
    unfold Po.count;rw[←BQ hw p.bl 0];apply List.countP_congr;intro y hy;simp [hall y hy]
   rw[e1];exact hk H (hL H seen h)
  ·obtain⟨hv,ev⟩:=Kb _ _ e he;have hs:=oJ (fun y=>decide (V.aa y.v=(hw:Int))) hn (DV p.bl).lt he;have nY:=oJ (fun _=>true) hn (DV p.bl).lt he;simp only[Bool.and_true,if_true] at nY
   have hlen:(nM p.bl 0).length=p.bl.length:=by
    have:=congrArg List.length (OZ p.bl 0);simpa using this
   have adp:=hp.len
   have wx:∀(q:En→Bool),(nM p.bl 0).countP q≤64:=fun q=>by
    have:=List.countP_le_length (p:=q) (l:=nM p.bl 0);omega
   have hneg:∀s:List Nat,(nM p.bl 0).countP (fun y=>decide (y.b∈s))+(nM p.bl 0).countP (fun y=>decide (y.b∉s))=(nM p.bl 0).length:=by
    intro s;have:=List.length_eq_countP_add_countP (fun y:En=>decide (y.b∈s)) (l:=nM p.bl 0);rw[this];congr 1;apply List.countP_congr;intro y _;simp
   have n1:=hneg seen;have n2:=hneg (seen++[e.b])
   cases k with
   |zero=>omega
   |succ k=>
    rw[ev] at hval hs;simp only[hok,hkey,hval,AN];have ih:=BR hp hw hk hL k (seen++[e.b]) (H:=H') (by omega) h' (Kr:=Kr);rw[hs] at ih;by_cases hh:(hv:Int)=(hw:Int)
    ·simp only[hh,decide_true,ar];rw[aK (by have:=wx (fun y=>decide (y.b∈seen)&&decide (V.aa y.v=(hw:Int)));omega)];simpa [hh] using ih
    ·simp only[hh,decide_false,ai];simpa [hh] using ih
theorem vU (h:az B H (DW id p::L)) (hp:p.ok) (hw:Nat) (k:∀H',az B H' (DW id p::L)→K (.int .i64 (p.count hw:Int)) H'):cl 93 [.aj (some (id,0)),.int .u8 (hw:Int)] H K:=by
 obtain⟨x,hx⟩:=zx.of h;have g:=VP hx;rw[abW];simp only[AN,Option.isNone_some,Option.isSome_some,Nat.zero_add,g.i1,g.c1,V.dv,V.ax,g.ms];have h1:=(hx.ord [2]).OL
 have:=BR (L':=db id 166 (VO p x)::IR x.q x.c (cF (p.bl.map Prod.fst))::L) (L:=DW id p::L) (mid:=x.mid) (it:=H.next) hp hw (Kr:=fun _=>False)
  (Ke:=fun j S'=>br (decide (j=0)) (ah (aB (KT.k (.int .i64)) (S'.1 5)) (K (V.int .i64 (V.aa (T.val (S'.1 5)))) S'.3)) False) (fun H' h'=>by simp only[AN,reduceIte];exact k H' h')
  (fun H seen hh=>zx.to (x:=x) ((hh.drop).ord [1,1])) _ [] (Nat.le_refl _) h1
 simpa using this
theorem kW (h:az B H (DW id p::L)) (hp:p.ok) {b hw:Nat} (hb:(p.how b).isSome=true) (hh:hw≤3) (k:∀e H',az B H' (DW id (p.set b hw)::L)→K (.int .i64 e) H'):cl 63 [.aj (some (id,0)),.int .i64 (b:Int),.int .u8 (hw:Int)] H K:=by
 obtain⟨x,hx⟩:=zx.of h;have g:=VP hx;obtain⟨w,aaO⟩:=Option.isSome_iff_exists.1 hb;rw[abJ];have a1:¬(hw:Int)>3:=by omega
 simp only[AN,Option.isNone_some,Option.isSome_some,Nat.zero_add,g.i1,g.c1,V.dv,V.ax,g.mo,g.mg,g.mh,aaO,Option.map_some,cond_true,a1];unfold Po.set at k;rw[aaO] at k;by_cases hd:w=3∧hw≠3
 ·have e:(decide ((w:Int)=3)&& !decide ((hw:Int)=3))=true:=by
   have h1:(w:Int)=3:=by omega
   have h2:¬(hw:Int)=3:=by omega
   simp [h1,h2]
  have hd':(some w=some 3∧hw≠3):=⟨by rw[hd.1],hd.2⟩;rw[if_pos hd'] at k;rw[e,ar];exact k _ _ (zx.to hx)
 ·have e:(decide ((w:Int)=3)&& !decide ((hw:Int)=3))=false:=by
   by_cases h1:w=3
   ·have h2:(hw:Int)=3:=by omega
    simp [h2]
   ·have xB:¬(w:Int)=3:=by omega
    simp [xB]
  have hd':¬(some w=some 3∧hw≠3):=fun hh=>hd ⟨Option.some.inj hh.1,hh.2⟩
  rw[if_neg hd'] at k;rw[e,ai];by_cases h2:hw=2
  ·rw[if_pos h2] at k;have Cz:(hw:Int)=2:=by omega
   simp only[Cz,decide_true,ar];refine Gb (zx.to hx) hp ?_;simp only[AN];unfold Po.jF at k
   cases ho:p.ku with
   |none=>
    rw[ho] at k;simp only[Option.isSome_none,ai,g.i1,g.c1,g.mo,AN,Option.isSome_some];have:=hx.cz hb hw;rw[Cz] at this;exact k _ _ (zx.to this)
   |some o=>
    rw[ho] at k;have hob:(p.how o).isSome=true:=kh.2 (List.mem_map.2 ⟨_,qm ho,rfl⟩);have h3:=hx.cz hob 1;have g3:=VP h3
    have ER:((p.cz o 1).how b).isSome=true:=by
     refine kh.2 ?_;show b∈(qk o 1 p.bl).map Prod.fst
     rw[kg];exact kh.1 hb
    have h4:=h3.cz ER hw;rw[Cz] at h4;simp only[Option.isSome_some,ar,g.i1,g.c1,g.mo,AN];have e1:(((1:Nat):Int))=1:=rfl;rw[e1] at h3 g3 h4;simp only[g3.i1,g3.c1,g3.mo,AN,Option.isSome_some];exact k _ _ (zx.to h4)
  ·rw[if_neg h2] at k;have Cz:¬(hw:Int)=2:=by omega
   simp only[Cz,decide_false,ai,AN];exact k _ _ (zx.to (hx.cz hb hw))
end
section
variable {B:ag} {L L':List cw} {H:ag} {K:V→ag→Prop} {id:Nat} {p:Po} {x:Pz} {q:Oq} {c:Nat} {l:List Int}
theorem LL (h:az B H L) (hr:Oi H q l) (hb:l.length≤1000000) (k:∀q' c' H',az B H' (IR q' c' l::L)→K (.slice q' l.length c') H'):cl 101 [.slice q l.length c] H K:=by
 rw[Zc]
 cases q with
 |none=>
  have:l=[]:=by
   rcases hr with h|⟨_,_,_,_,_,h,_⟩
   ·simpa [vL] using h
   ·cases h
  subst this;exact k none 0 H (az.uC h)
 |some q=>
  rw[Option.isNone_some,ai];have h1:az B (H.alloc (.cells 3 [] false)) (Rw 3 1 (some (H.next,0)) 0 []::L):=h.Dz (el:=3) (n:=1) (len:=0) (c:=0) (l:=[]) (cs:=[]) (by simp) (fun v hv=>by cases hv) (by omega) (by simp) (by simp)
  have wz:Rd (H.alloc (.cells 3 [] false)) (some q) (l.map fun i=>[V.int .i64 i]).flatten:=by
   rw[vM];exact Rd.fr hr h.ok (Fr.alloc H _ (fun _=>False)) (fun _ _ _=>id)
  have hu:pj 1 (l.map fun i=>[V.int .i64 i]):=by
   intro c hc;obtain⟨r,_,rfl⟩:=List.mem_map.1 hc;exact⟨rfl,fun v hv=>by rw[List.mem_singleton] at hv;subst hv;rfl⟩
  have:=h1.Og (c2:=c) (K:=fun q n c H'=>K (.slice q n c) H') JP JQ (fun v hv=>by rw[List.mem_singleton] at hv;subst hv;rfl) rfl (by omega) wz hu (by simp;omega) (fun q' c' H' h'=>by
   have:=k q' c' H' h'
   simpa using this)
  simpa using this
theorem RJ {b:Nat} {l:List Nat} (h:∀x∈l,x<b):Hc (b:Int) (nM (l.map fun b=>(b,0)) 0)=none:=by
 rw[uS]
 have:fK b (l.map fun b=>(b,0))=none:=by
  cases hh:fK b (l.map fun b=>(b,0)) with
  |none=>rfl
  |some y=>
   have:=kh.1 (by rw[hh];rfl:(fK b (l.map fun b=>(b,0))).isSome=true);rw[List.map_map] at this;obtain⟨z,hz,rfl⟩:=List.mem_map.1 this;have:=h z hz;simp at this
 rw[this];rfl
theorem Kc {mid:Nat} {l:List Nat} (hr:FL B L q (cF l)) (hlt:l.Pairwise (· < ·)) (hb:∀b∈l,b<64) (hl:l.length≤64) {Kr:Am.St→Prop} {Ke:Nat→Am.St→Prop} (hk:∀H',az B H' (db id 166 (Lo none 0 0 (some mid))::iI mid (nM (l.map fun b=>(b,0)) 0) l.length::L)→Ke 0 (St.mk (ab [(0,T.v (V.slice q l.length c)),(4,T.v (V.aj (some (id,0))))]) (ab []) H')):∀(k i:Nat) {H:ag},i+k=l.length→az B H (db id 166 (Lo none 0 0 (some mid))::iI mid (nM ((l.take i).map fun b=>(b,0)) 0) i::L)→lo 60 3 (St.mk (ab [(0,T.v (V.slice q l.length c)),(4,T.v (V.aj (some (id,0)))),(10,T.v (V.slice q l.length c)),(11,T.v (V.int .i64 (l.length:Int))),(12,T.v (V.int .i64 (i:Int)))]) (ab []) H) Kr Ke
 |0,i,H,hi,h=>by
  obtain rfl:i=l.length:=by omega
  rw[List.take_length] at h;rw[NS,decide_eq_false (by omega),ai];exact hk H h
 |k+1,i,H,hi,h=>by
  have mK:i<l.length:=by omega
  have hrH:=hr H h.drop.drop;obtain⟨s1,i1,c1⟩:=hrH.at (i:=i) (by simpa using mK);have e1:(cF l)[i]'(by simpa using mK)=(l[i]:Int):=by simp [cF]
  rw[e1] at c1;have hg:=h.get;have hgl:(Lo none 0 0 (some mid)).length=2:=rfl;have j1:H.inb id 1 1=true:=nD hg (by omega);have d1:H.cell id 1=.map (some mid):=aZ hg 1;have hm:=h.swap;have hmo:=uK hm;have a1:(i:Int)<(l.length:Int):=by omega
  have a2:0≤(i:Int):=by omega
  have hbi:=hb _ (List.getElem_mem mK);have a3:¬(l[i]:Int)<0:=by omega
  have a4:¬(l[i]:Int)≥64:=by omega
  rw[NS];simp only[AN,a1,a2,Int.toNat_natCast,s1,i1,c1,a3,a4,aQ,cond_true,if_true,Bool.false_eq_true,if_false,Option.isSome_some,Nat.zero_add];have gC:=hm.J0 (l[i]:Int) (.int .u8 0)
  have EG:rE (l[i]:Int) (.int .u8 0) (nM ((l.take i).map fun b=>(b,0)) 0) i=(nM ((l.take (i+1)).map fun b=>(b,0)) 0,i+1):=by
   unfold rE
   rw[RJ (fun x hx=>by
    obtain⟨j,hj,rfl⟩:=List.mem_iff_getElem.1 hx;rw[List.length_take] at hj;rw[List.getElem_take]
    exact List.pairwise_iff_getElem.1 hlt _ _ (by omega) mK (by omega))]
   rw[List.take_succ_eq_append_getElem mK,List.map_append,List.map_singleton,J9];have:(0:Nat)+((l.take i).map fun b=>(b,(0:Nat))).length=i:=by simp;omega
   simp only[this];rfl
  rw[EG] at gC;have ih:=Kc (Kr:=Kr) hr hlt hb hl hk k (i+1) (by omega) gC.swap;by_cases h0:i=0
  ·subst h0;have b1:¬((0:Nat):Int)>0:=by omega
   have b2:IntKind.i64.wrap (((0:Nat):Int)+1)=((0+1:Nat):Int):=aK (by omega);simp only[b1,decide_false,Bool.false_and,ai,Bool.false_eq_true,if_false,av,j1,d1,V.dv,V.ax,hmo,AN,Option.isSome_some,b2];exact ih
  ·obtain⟨j,rfl⟩:∃j,i=j+1:=⟨i-1,by omega⟩;have b1:((j+1:Nat):Int)>0:=by omega
   have b2:IntKind.i64.wrap (((j+1:Nat):Int)-1)=(j:Int):=by rw[bj (by omega) (by omega)];omega
   have b3:0≤(j:Int):=by omega
   have b4:(j:Int)<(l.length:Int):=by omega
   obtain⟨t1,t2,t3⟩:=hrH.at (i:=j) (by simp;omega);have e2:(cF l)[j]'(by simp;omega)=(l[j]:Int):=by simp [cF]
   rw[e2] at t3;have G7:l[j]<l[j+1]:=List.pairwise_iff_getElem.1 hlt _ _ (by omega) mK (by omega);have b5:¬(l[j+1]:Int)≤(l[j]:Int):=by omega
   have b6:IntKind.i64.wrap (((j+1:Nat):Int)+1)=((j+1+1:Nat):Int):=aK (by omega);simp only[b1,b2,b3,b4,b5,t2,t3,Int.toNat_natCast,decide_true,decide_false,Bool.and_false,ai,if_true,av,j1,d1,V.dv,V.ax,hmo,AN,Option.isSome_some,b6];exact ih
theorem RK {l:List Nat} (h:az B H L) (hr:FL B L q (cF l)) (hlt:l.Pairwise (· < ·)) (hb:∀b∈l,b<64) (hl:l.length≤64) (k:∀id H',az B H' (DW id (Po.new l)::L)→K (.tuple [.aj (some (id,0)),.int .i64 0]) H'):cl 60 [.slice q l.length c] H K:=by
 rw[abG];have h1:=h.OH;have h2:=h1.alloc 166 (Lo none 0 0 (some H.next));refine Kc hr hlt hb hl (fun H' h'=> ?_) l.length 0 (by omega) h2;simp only[AN,reduceIte,Nat.reduceEqDiff];have hg:=h'.get;have hn:(cF l).length≤1000000:=by simp;omega
 have hC:=LL (c:=c) (K:=fun v H'=>ah (V.ax .slice v) (ah (H'.wr (H.alloc (.map [] 0)).next 0 1) (K (.tuple [.aj (some ((H.alloc (.map [] 0)).next,0)),.int .i64 0]) (H'.store (H.alloc (.map [] 0)).next 0 [.slice (V.au v) (V.aw v) (V.aC v)]))))
  h' ((hr.bO _).bO _ H' h') hn (fun q' c' H2 h2=> ?_)
 ·rw[gL] at hC;simpa [AJ,reduceIte,Nat.reduceEqDiff] using hC
 ·obtain⟨w,h3⟩:=(h2.ord [1]).BA (k:=0) (by show 0<2;omega) (.slice q' (cF l).length c');simp only[AN,w];refine k _ _ (zx.to (x:=⟨q',c',H.next⟩) ?_);unfold zx VO Po.new;rw[List.length_map,List.map_map];have e:((Prod.fst ∘ fun b=>(b,0)):Nat→Nat)=id:=rfl;rw[e,List.map_id];rw[gL] at h3⊢;exact h3.ord [0,0]
theorem mH (h:Nat) (w:List Int) (x:Nat×Nat) (l:List (Nat×Nat)) (o:Option Nat):gw h w (x::l) o=if x.2≠h∨w.length≤x.1 then gw h w l o else match o with
 |none=>gw h w l (some x.1)
 |some b=>if w.getD x.1 0<w.getD b 0 then gw h w l (some x.1) else gw h w l (some b):=by
 cases o<;>rfl
theorem nN {wq:Oq} {wc:Nat} {w:List Int} (hx:zx B H id p x L) (hp:p.ok) (hr:Oi H wq w) (hw:Nat) {Kr:Am.St→Prop} {Ke:Nat→Am.St→Prop}:∀(k i:Nat) (o:Option Nat),i+k=p.bl.length→(∀b,o=some b→b<w.length)→Ke 0 (St.mk (ab [(8,T.v (V.int .i64 (((gw hw w (p.bl.drop i) o).getD 0:Nat):Int))),(9,T.v (V.bool (gw hw w (p.bl.drop i) o).isSome))]) (ab []) H)→lo 153 6 (St.mk (ab [(0,T.v (V.aj (some (id,0)))),(1,T.v (V.int .u8 (hw:Int))),(2,T.v (V.slice wq w.length wc)),(8,T.v (V.int .i64 ((o.getD 0:Nat):Int))),(9,T.v (V.bool o.isSome)),(17,T.v (V.slice x.q p.bl.length x.c)),(18,T.v (V.int .i64 (p.bl.length:Int))),(19,T.v (V.int .i64 (i:Int)))]) (ab []) H) Kr Ke
 |0,i,o,hi,ho,hk=>by
  obtain rfl:i=p.bl.length:=by omega
  rw[List.drop_length] at hk;rw[Jz,decide_eq_false (by omega),ai];exact hk
 |k+1,i,o,hi,ho,hk=>by
  have hlt:i<p.bl.length:=by omega
  have g:=VP hx;obtain⟨s1,i1,c1⟩:=g.r i hlt;have a1:(i:Int)<(p.bl.length:Int):=by omega
  have a2:0≤(i:Int):=by omega
  have hh:=O0 hp hlt;have hle:=hp.len;rw[List.drop_eq_getElem_cons hlt,mH] at hk;rw[Jz];simp only[AN,a1,a2,Int.toNat_natCast,s1,i1,c1,Option.isSome_some,Nat.zero_add,g.i1,g.c1,V.dv,V.ax,g.mo,g.mg,hh,Option.map_some,Bool.not_not];rw[aK (by omega)];by_cases hc:(p.bl[i]).2≠hw∨w.length≤(p.bl[i]).1
  ·rw[if_pos hc] at hk
   have e:(bif decide (((p.bl[i]).2:Int)=(hw:Int)) then decide (((p.bl[i]).1:Int)≥(w.length:Int)) else true)=true:=by
    rcases hc with hc|hc
    ·have:¬((p.bl[i]).2:Int)=(hw:Int):=by omega
     simp [this]
    ·have:((p.bl[i]).1:Int)≥(w.length:Int):=by omega
     simp only[this,decide_true];cases decide (((p.bl[i]).2:Int)=(hw:Int))<;>rfl
   rw[e,ar];exact nN hx hp hr hw k (i+1) o (by omega) ho hk
  ·rw[if_neg hc] at hk;have h1:((p.bl[i]).2:Int)=(hw:Int):=by omega
   have h2:¬((p.bl[i]).1:Int)≥(w.length:Int):=by omega
   have h3:(p.bl[i]).1<w.length:=by omega
   simp only[h1,h2,decide_true,decide_false,cond_true,ai]
   cases o with
   |none=>
    simp only[Option.isSome_none,aQ,Bool.false_eq_true,if_false,av,cond_false,ar];exact nN hx hp hr hw k (i+1) (some (p.bl[i]).1) (by omega) (fun b hb=>by cases hb;exact h3) hk
   |some b0=>
    have hb0:=ho b0 rfl;obtain⟨t1,t2,t3⟩:=hr.at h3;obtain⟨u1,u2,u3⟩:=hr.at hb0;have c1:0≤((p.bl[i]).1:Int):=by omega
    have c2:((p.bl[i]).1:Int)<(w.length:Int):=by omega
    have c3:0≤(b0:Int):=by omega
    have c4:(b0:Int)<(w.length:Int):=by omega
    have w1:w.getD (p.bl[i]).1 0=w[(p.bl[i]).1]:=by rw[List.getD_eq_getElem?_getD,List.getElem?_eq_getElem h3];rfl
    have w2:w.getD b0 0=w[b0]:=by rw[List.getD_eq_getElem?_getD,List.getElem?_eq_getElem hb0];rfl
    simp only[w1,w2] at hk;simp only[Option.isSome_some,Option.getD_some,aQ,if_true,c1,c2,c3,c4,t1,t2,t3,u2,u3,AN,cond_true];by_cases G7:w[(p.bl[i]).1]<w[b0]
    ·rw[if_pos G7] at hk;simp only[G7,decide_true,ar];exact nN hx hp hr hw k (i+1) (some (p.bl[i]).1) (by omega) (fun b hb=>by cases hb;exact h3) hk
    ·rw[if_neg G7] at hk;simp only[G7,decide_false,ai];exact nN hx hp hr hw k (i+1) (some b0) (by omega) ho hk
theorem BS {wq:Oq} {wc:Nat} {w:List Int} (h:az B H (DW id p::L)) (hp:p.ok) (hr:Oi H wq w) (hw:Nat):(K (.tuple [.int .i64 (((p.iX hw w).getD 0:Nat):Int),.bool (p.iX hw w).isSome]) H)→cl 153 [.aj (some (id,0)),.int .u8 (hw:Int),.slice wq w.length wc] H K:=by
 intro k;obtain⟨x,hx⟩:=zx.of h;have g:=VP hx;rw[ZF];simp only[AN,Option.isNone_some,Option.isSome_some,g.i0,g.c0];refine nN hx hp hr hw p.bl.length 0 none (by omega) (fun b hb=>by cases hb) ?_;rw[List.drop_zero];simp only[AN,reduceIte,Nat.reduceEqDiff];exact k
end
structure Ft where
 ep:Nat
 pm:Pm
 po:Po
 seq:Nat
structure FS where
 a:Ar
 f:Ft
def FS.bC (s:FS) (b h:Nat):FS:={s with f:={s.f with po:=s.f.po.set b h}}
def FS.next (s:FS) (b:Nat):Nat:=(s.a.bs.getD b fq).pg.length
def bG (s:FS) (b:Nat):FS×Int:=
 if (ee s.a b s.f.ep).2=0 then (FS.bC {s with a:=(ee s.a b s.f.ep).1} b 0,0)
 else if (ee s.a b s.f.ep).2=8 then (FS.bC {s with a:=(ee s.a b s.f.ep).1} b 3,0)
 else ({s with a:=(ee s.a b s.f.ep).1},(ee s.a b s.f.ep).2)
def je (n:Nat):Nat:=(n+1) % 18446744073709551616
def cd (s:FS) (b:Nat) (x:Sh):FS×Int:=
 let y:={x with ep:=s.f.ep,seq:=je s.f.seq}
 let r:=fQ s.a b (s.next b) (eu y) s.f.ep
 if r.2=8∨r.2=6 then (⟨r.1,{s.f with seq:=je s.f.seq,po:=s.f.po.set b 3}⟩,8)
 else if r.2=0 then (⟨r.1,{s.f with seq:=je s.f.seq,pm:=s.f.pm.put x.an (some (b,s.next b))}⟩,0)
 else (⟨r.1,{s.f with seq:=je s.f.seq}⟩,r.2)
def FS.RL (s:FS):List Int:=s.a.bs.map Bk.er
def FS.dm (s:FS):Option Nat:=s.f.po.iX 0 s.RL
def FS.iX (s:FS):Option Nat:=s.f.po.iX 1 s.f.pm.hZ
def FS.mZ (s:FS) (an:Nat):Option Sh:=match s.f.pm.cg.getD an none with
 |none=>some ⟨2,0,0,an,0,[]⟩
 |some (b,p)=>if (gB s.a b p).1=0 then fu (gB s.a b p).2 else none
structure bf (g:ct) (s:FS):Prop where
 n:(s.a.bs.length:Int)=g.aE
 p:s.a.aA=g.aA
 len:∀b∈s.a.bs,(b.pg.length:Int)≤g.aA
 d:∀b∈s.a.bs,∀d∈b.pg,d.length=96
 pm:s.f.pm.ok
 nb:(s.f.pm.nb:Int)=g.aE
 na:(s.f.pm.cg.length:Int)=g.cap+1
 po:s.f.po.ok
 us:s.f.po.bl.map Prod.fst=g.us
 seq:s.f.seq<18446744073709551616
 ep:s.f.ep<18446744073709551616
def RM (aM:Nat) (m:Gm) (f:Ft) (mid pid:Nat):List V:=Ub (some (aM,0)) m.g.aE m.g.aA m.g.aH m.q m.g.bK.length m.c (f.ep:Int) (some (mid,0)) (some (pid,0)) (f.seq:Int)
section
variable {B:ag} {L:List cw} {H:ag} {K:V→ag→Prop} {aM fid mid pid:Nat} {m:Gm} {s:FS}
abbrev fZ (B H:ag) (aM fid mid pid:Nat) (m:Gm) (s:FS) (L:List cw):Prop:=
 az B H (db fid 120 (RM aM m s.f mid pid)::uP mid s.f.pm::DW pid s.f.po::dK aM s.a::L)
structure FtG (H:ag) (aM fid mid pid:Nat) (m:Gm) (s:FS):Prop where
 i:∀k<9,H.inb fid k 1=true
 c0:H.cell fid 0=.aj (some (aM,0))
 c1:H.cell fid 1=.int .i64 m.g.aE
 c2:H.cell fid 2=.int .i64 m.g.aA
 c3:H.cell fid 3=.int .i64 m.g.aH
 c5:H.cell fid 5=.int .u64 (s.f.ep:Int)
 c6:H.cell fid 6=.aj (some (mid,0))
 c7:H.cell fid 7=.aj (some (pid,0))
 c8:H.cell fid 8=.int .u64 (s.f.seq:Int)
 g:H.inb fid 1 4=true∧H.sub fid 1 4=dV m.g.aE m.g.aA m.g.aH m.q m.g.bK.length m.c
 w:H.wr fid 8 1=true
theorem xc (h:fZ B H aM fid mid pid m s L):FtG H aM fid mid pid m s:=by
 have hg:=h.get;refine⟨fun k hk=>nD hg (by show k<9;exact hk),aZ hg 0,aZ hg 1,aZ hg 2,aZ hg 3,aZ hg 5,aZ hg 6,aZ hg 7,aZ hg 8,⟨dE hg 1 4, ?_⟩,fF hg 8 1⟩;rw[kS hg];rfl
theorem fZ.arr (h:fZ B H aM fid mid pid m s L):az B H (dK aM s.a::db fid 120 (RM aM m s.f mid pid)::uP mid s.f.pm::DW pid s.f.po::L):=h.ord [3]
theorem fZ.pm (h:fZ B H aM fid mid pid m s L):az B H (uP mid s.f.pm::db fid 120 (RM aM m s.f mid pid)::DW pid s.f.po::dK aM s.a::L):=h.ord [1]
theorem fZ.po (h:fZ B H aM fid mid pid m s L):az B H (DW pid s.f.po::db fid 120 (RM aM m s.f mid pid)::uP mid s.f.pm::dK aM s.a::L):=h.ord [2]
theorem bf.how {g:ct} (hok:bf g s) {b:Nat} (hb:b∈g.us):(s.f.po.how b).isSome=true:=kh.2 (by rw[hok.us];exact hb)
theorem nO {g:ct} {b:Nat} (hb:b∈g.us):(b:Int)<g.aE:=by
 unfold ct.us at hb;have:=(List.mem_filter.1 hb).1;have:=List.mem_of_mem_drop this;rw[List.mem_range] at this;omega
theorem bf.lt {g:ct} (hok:bf g s) {b:Nat} (hb:b∈g.us):b<s.a.bs.length:=by
 have:=nO hb;have:=hok.n;omega
theorem bf.bC {g:ct} (hg:g.In) (hok:bf g s) {b h:Nat} (hb:b∈g.us) (hh:h≤3):bf g (s.bC b h):=
 {hok with
  po:=hok.po.set (by have:=nO hb;have:=hg.b;omega) hh
  us:=by show (s.f.po.set b h).bl.map Prod.fst=_;rw[RI];exact hok.us}
theorem Iv {a:Ar} {b:Nat} {e:Int} {P:Ar→Prop} (h0:P a) (h1:∀bs:List Bk,bs.length=a.bs.length→(∀x∈bs,x∈a.bs∨(∃y∈a.bs,x.pg=y.pg)∨x.pg=[])→∀a':Ar,a'.bs=bs→a'.aA=a.aA→P a'):P (ee a b e).1:=by
 unfold ee;split
 ·exact h0
 split
 ·exact h0
 split
 ·exact h0
 rename_i bk hbk;have hmem:=List.mem_of_getElem? hbk
 have key:∀x∈(bA a b bk).bs,x∈a.bs∨(∃y∈a.bs,x.pg=y.pg)∨x.pg=[]:=by
  intro x hx;rcases List.mem_or_eq_of_mem_set hx with hx|rfl
  ·exact .inl hx
  ·exact .inr (.inl ⟨bk,hmem,bB bk⟩)
 split
 ·exact h1 (bA a b bk).bs (fX ..) key _ rfl rfl
 split
 ·refine h1 _ (by simp [fX]) (fun x hx=> ?_) _ rfl rfl;rcases List.mem_or_eq_of_mem_set hx with hx|rfl
  ·exact key x hx
  ·exact .inr (.inl ⟨bk,hmem,bB bk⟩)
 ·refine h1 _ (by simp [fX]) (fun x hx=> ?_) _ rfl rfl;rcases List.mem_or_eq_of_mem_set hx with hx|rfl
  ·exact key x hx
  ·exact .inr (.inr rfl)
theorem bf.zy {g:ct} (hok:bf g s) (b:Nat) (e:Int):bf g {s with a:=(ee s.a b e).1}:=by
 refine Iv (P:=fun a=>bf g {s with a:=a}) hok (fun bs hl hx a' hb hp=> ?_)
 have hx':∀x∈a'.bs,(∃y∈s.a.bs,x.pg=y.pg)∨x.pg=[]:=fun x hh=>by
  rw[hb] at hh;rcases hx x hh with h|h|h
  ·exact .inl ⟨x,h,rfl⟩
  ·exact .inl h
  ·exact .inr h
 refine {hok with n:= ?_,p:= ?_,len:= ?_,d:= ?_}
 ·show ((a'.bs.length:Nat):Int)=_;rw[hb,hl];exact hok.n
 ·show a'.aA=_;rw[hp];exact hok.p
 ·intro x hh;rcases hx' x hh with⟨y,hy,e⟩|e
  ·rw[e];exact hok.len y hy
  ·rw[e]
   cases Wz:s.a.bs with
   |nil=>
    have h0:a'.bs.length=0:=by rw[hb,hl,Wz];rfl
    rw[List.eq_nil_of_length_eq_zero h0] at hh;cases hh
   |cons y l=>have:=hok.len y (by rw[Wz];exact List.mem_cons_self);simp only[List.length_nil];omega
 ·intro x hh d hd;rcases hx' x hh with⟨y,hy,e⟩|e
  ·rw[e] at hd;exact hok.d y hy d hd
  ·rw[e] at hd;cases hd
theorem bf.bG {g:ct} (hg:g.In) (hok:bf g s) {b:Nat} (hb:b∈g.us):bf g (bG s b).1:=by
 unfold Go.Proofs.YtlgdkndamddpkaaGreat.bG;split
 ·exact(hok.zy b _).bC hg hb (by omega)
 split
 ·exact(hok.zy b _).bC hg hb (by omega)
 ·exact hok.zy b _
theorem vV (hm:dB B L m) (hg:m.g.In) (h:fZ B H aM fid mid pid m s L) (hok:bf m.g s) {b:Nat} (hb:b∈m.g.us) (k:∀H',fZ B H' aM fid mid pid m (bG s b).1 L→K (.int .i64 (bG s b).2) H'):cl 66 [.aj (some (fid,0)),.int .i64 (b:Int)] H K:=by
 have g:=xc h;rw[abM];simp only[AN,Option.isSome_some,Nat.zero_add,g.i 0 (by omega),g.i 5 (by omega),g.c0,g.c5];refine Ou h.arr (hok.lt hb) (s.f.ep:Int) (fun H1 h1=> ?_);simp only[AN];have EI:fZ B H1 aM fid mid pid m {s with a:=(ee s.a b s.f.ep).1} L:=h1.ord [1,1,1];have g1:=xc EI;unfold bG at k;by_cases h0:(ee s.a b s.f.ep).2=0
 ·rw[if_pos h0] at k;simp only[h0,decide_true,ar,AN,g1.i 7 (by omega),g1.c7];refine kW (hw:=0) EI.po hok.po (hok.how hb) (by omega) (fun e H2 h2=> ?_);simp only[AN];exact k H2 (h2.ord [1,1])
 ·rw[if_neg h0] at k;simp only[h0,decide_false,ai];by_cases h8:(ee s.a b s.f.ep).2=8
  ·rw[if_pos h8] at k;simp only[h8,decide_true,ar,AN,g1.i 7 (by omega),g1.c7];refine kW (hw:=3) EI.po hok.po (hok.how hb) (by omega) (fun e H2 h2=> ?_);simp only[AN];exact k H2 (h2.ord [1,1])
  ·rw[if_neg h8] at k;simp only[h8,decide_false,ai];exact k H1 EI
end
section
variable {B:ag} {L:List cw} {H:ag} {K:V→ag→Prop} {aM fid mid pid:Nat} {m:Gm} {s:FS}
theorem VQ {t1:V} {N:Nat} (hN:N≤64) {w:Nat→Int} (hc:∀(b:Nat) (H':ag),b<N→az B H' L→∀K':V→ag→Prop,K' (.int .i64 (w b)) H'→ly ej (rM ej) t1 [.int .i64 (b:Int)] H' K') {Kr:Am.St→Prop} {Ke:Nat→Am.St→Prop}:∀(k i:Nat) {q:Oq} {c:Nat} {H:ag},i+k=N→az B H (IR q c ((List.range i).map w)::L)→(∀q' c' H',az B H' (IR q' c' ((List.range N).map w)::L)→Ke 0 (St.mk (ab [(5,T.v (V.slice q' N c'))]) (ab []) H'))→lo 154 3 (St.mk (ab [(1,T.v t1),(5,T.v (V.slice q i c)),(11,T.v (V.int .i64 (N:Int))),(12,T.v (V.int .i64 (i:Int)))]) (ab []) H) Kr Ke
 |0,i,q,c,H,hi,h,hk=>by
  obtain rfl:i=N:=by omega
  rw[JA,decide_eq_false (by omega),ai];exact hk q c H h
 |k+1,i,q,c,H,hi,h,hk=>by
  rw[JA,decide_eq_true (by omega),ar];have tq:∀K':V→ag→Prop,K' (.int .i64 (w i)) H→ly ej (rM ej) t1 [.int .i64 (i:Int)] H K':=hc i H (by omega) h.drop;refine tq _ ?_;simp only[AN]
  have hp:=az.zi h (w i) (e2:=3) (by simp;omega) (K:=fun q n c H'=>lo 154 3
   (St.mk (ab [(1,T.v t1),(5,T.v (V.slice q n c)),(11,T.v (V.int .i64 (N:Int))),(12,T.v (V.int .i64 (IntKind.i64.wrap ((i:Int)+1))))]) (ab []) H') Kr Ke) (fun q' c' H' h'=> ?_)
  ·rw[List.length_map,List.length_range] at hp;exact hp
  ·rw[aK (by omega)];have e:(List.range i).map w++[w i]=(List.range (i+1)).map w:=by rw[List.range_succ,List.map_append];rfl
   rw[e] at h'⊢;rw[List.length_map,List.length_range];exact VQ hN hc k (i+1) (by omega) h' hk
theorem VS (a:Ar):a.bs.map Bk.er=(List.range a.bs.length).map fun b=>(a.bs.getD b fq).er:=by
 apply List.ext_getElem
 ·simp
 ·intro i h1 h2;simp only[List.getElem_map,List.getElem_range];rw[List.getD_eq_getElem?_getD,List.getElem?_eq_getElem (by simpa using h1)];rfl
theorem Kd (hg:m.g.In) (h:fZ B H aM fid mid pid m s L) (hok:bf m.g s) (k:∀q c H',fZ B H' aM fid mid pid m s (IR q c s.RL::L)→K (.slice q s.RL.length c) H'):cl 154 [.aj (some (fid,0)),.o8 155 [.aj (some (aM,0))]] H K:=by
 have g:=xc h;rw[Tf];have hn:=hok.n;have hb:=hg.b;have e:m.g.aE=((s.a.bs.length:Nat):Int):=by omega
 simp only[AN,Option.isSome_some,Nat.zero_add,g.i 1 (by omega),g.c1,e];refine VQ (w:=fun b=>(s.a.bs.getD b fq).er) (L:=db fid 120 (RM aM m s.f mid pid)::uP mid s.f.pm::DW pid s.f.po::dK aM s.a::L) (N:=s.a.bs.length) (by omega) (fun b H' Qr h' K' kk=> ?_) s.a.bs.length 0 (by omega) (az.uC h) (fun q c H' h'=> ?_)
 ·show cl 155 [.aj (some (aM,0)),.int .i64 (b:Int)] H' K'
  rw[Lz (fZ.arr h') Qr];rw[List.getD_eq_getElem?_getD,List.getElem?_eq_getElem Qr] at kk;exact kk
 ·simp only[AN,reduceIte];have hl:s.RL.length=s.a.bs.length:=by simp [FS.RL]
  have:=k q c H' (by unfold FS.RL;rw[VS];exact h'.ord [1,1,1,1]);rw[hl] at this;exact this
theorem Kf (hg:m.g.In) (h:fZ B H aM fid mid pid m s L) (hok:bf m.g s) (k:∀q c H',fZ B H' aM fid mid pid m s (IR q c s.f.pm.hZ::L)→K (.slice q s.f.pm.hZ.length c) H'):cl 154 [.aj (some (fid,0)),.o8 65 [.aj (some (mid,0))]] H K:=by
 have g:=xc h;rw[Tf];have hn:=hok.nb;have hb:=hg.b;have e:m.g.aE=((s.f.pm.nb:Nat):Int):=by omega
 simp only[AN,Option.isSome_some,Nat.zero_add,g.i 1 (by omega),g.c1,e];refine VQ (w:=fun b=>(s.f.pm.ef b:Int)) (L:=db fid 120 (RM aM m s.f mid pid)::uP mid s.f.pm::DW pid s.f.po::dK aM s.a::L) (N:=s.f.pm.nb) (by omega) (fun b H' Qr h' K' kk=> ?_) s.f.pm.nb 0 (by omega) (az.uC h) (fun q c H' h'=> ?_)
 ·show cl 65 [.aj (some (mid,0)),.int .i64 (b:Int)] H' K'
  rw[nJ (fZ.pm h') Qr];exact kk
 ·simp only[AN,reduceIte];have:=k q c H' (h'.ord [1,1,1,1]);rw[qh] at this;exact this
theorem DX (hg:m.g.In) (h:fZ B H aM fid mid pid m s L) (hok:bf m.g s) (k:∀H',fZ B H' aM fid mid pid m s L→K (.tuple [.int .i64 ((s.dm.getD 0:Nat):Int),.bool s.dm.isSome]) H'):cl 149 [.aj (some (fid,0))] H K:=by
 have g:=xc h;rw[ZC];simp only[AJ,reduceIte,Nat.reduceEqDiff,Option.isSome_some,Nat.zero_add,g.i 0 (by omega),g.i 7 (by omega),g.c0,g.c7]
 have fin:∀q c H',fZ B H' aM fid mid pid m s (IR q c s.RL::L)→∀K':V→ag→Prop,K' (.tuple [.int .i64 ((s.dm.getD 0:Nat):Int),.bool s.dm.isSome]) H'→
  cl 153 [.aj (some (pid,0)),.int .u8 0,.slice q s.RL.length c] H' K':=fun q c H' h' K' kk=>
  BS (hw:=0) h'.po hok.po (az.sO (h'.ord [4])) kk
 refine⟨Kd hg h hok (fun q c H' h'=> ?_),Kd hg h hok (fun q c H' h'=> ?_)⟩
 ·simp only[AN];refine fin q c H' h' _ ?_;simp only[AN];exact k H' (h'.ord [4]).drop
 ·have g':=xc h';simp only[AN,g'.i 7 (by omega),g'.c7];refine fin q c H' h' _ ?_;simp only[AN];exact k H' (h'.ord [4]).drop
theorem Kg (hm:dB B L m) (h:fZ B H aM fid mid pid m s L) (hok:bf m.g s) (hg:m.g.In) {an:Nat} (ha:(an:Int)≤m.g.cap) {x:Sh} (hx:s.mZ an=some x) (k:∀q c H',fZ B H' aM fid mid pid m s (BY q c x.data::L)→K (.tuple [At x q c,.int .i64 0]) H'):cl 69 [.aj (some (fid,0)),.int .i64 (an:Int)] H K:=by
 have g:=xc h;have Cy:an<s.f.pm.cg.length:=by have:=hok.na;omega
 rw[abP];simp only[AN,Option.isSome_some,Nat.zero_add,g.i 6 (by omega),g.c6];rw[J3 h.pm Cy];have hgd:s.f.pm.cg.getD an none=s.f.pm.cg[an]:=by rw[List.getD_eq_getElem?_getD,List.getElem?_eq_getElem Cy];rfl
 unfold FS.mZ at hx;rw[hgd] at hx
 cases ho:s.f.pm.cg[an] with
 |none=>
  rw[ho] at hx;cases hx;simp only[AN,vS,f127,Dw,Dx,Option.isSome_none];have:=k none 0 H ((kE h).ord [1,1,1,1]);simpa [At] using this
 |some o=>
  obtain⟨b,p⟩:=o;rw[ho] at hx;dsimp only at hx;obtain⟨hb,hp⟩:=hok.pm.pl b p (by rw[←ho];exact List.getElem_mem Cy);have Ba:b<s.a.bs.length:=by have:=hok.n;have:=hok.nb;omega
  simp only[AN,vS,f127,Dw,Dx,Option.isSome_some,Nat.zero_add,g.i 0 (by omega),g.c0];refine FT h.arr Ba (fun d hd=>by rw[hok.d _ (List.getElem_mem Ba) d hd];omega) p (fun q1 c1 H1 h1=> ?_);by_cases he:(gB s.a b p).1=0
  ·rw[if_pos he] at hx;simp only[AN,he]
   have KV:(gB s.a b p).2.length≤100000:=by
    have:(gB s.a b p).2.length≤96:=by
     unfold gB;split
     ·simp
     split
     ·simp
     rw[List.getElem?_eq_getElem Ba];simp only;split
     ·simp
     rename_i d hd;split
     ·simp
     ·show d.length≤96
      rw[hok.d _ (List.getElem_mem Ba) d (List.mem_of_getElem? hd)];omega
    omega
   refine FY h1 (fun H h=>h.iU) KV ((h1.MW).2.2.1) (fun hnone=> ?_) (fun y hy q2 c2 H2 h2=> ?_)
   ·rw[hnone] at hx;cases hx
   ·rw[hy] at hx;cases hx;unfold At;simp only[AN,f125,XI];exact k q2 c2 H2 ((h2.ord [1]).drop.ord [2,2,2,1])
  ·rw[if_neg he] at hx;cases hx
theorem DY (hm:dB B L m) (h:fZ B H aM fid mid pid m s L) (hg:m.g.In) (a:Int) (k:∀H',fZ B H' aM fid mid pid m s L→K (.int .i64 (if 0≤a∧a≤m.g.cap then 0 else 1)) H'):cl 68 [.aj (some (fid,0)),.int .i64 a] H K:=by
 have g:=xc h;rw[abO];simp only[AN,Option.isNone_some];by_cases h0:a<0
 ·have e:¬(0≤a∧a≤m.g.cap):=by omega
  rw[if_neg e] at k;simp only[h0,decide_true,Bool.not_true,ai];exact k H h
 ·have hsub:=g.g.2;simp only[h0,decide_false,Bool.not_false,ar,Option.isSome_some,Nat.zero_add,g.g.1,hsub,f25,xo,AN];have:=uE (K:=fun v H'=>ah (V.ax (.int .i64) v) (br (decide (a>V.aa v)) (K (V.int .i64 1) H') (K (V.int .i64 0) H'))) h ((((hm.bO _).bO _).bO _).bO _) hg (fun H' h'=> ?_)
  ·exact this
  ·simp only[AN];by_cases h1:a>m.g.cap
   ·have e:¬(0≤a∧a≤m.g.cap):=by omega
    have:=k H' h';rw[if_neg e] at this;simp only[h1,decide_true,ar];exact this
   ·have e:0≤a∧a≤m.g.cap:=by omega
    have:=k H' h';rw[if_pos e] at this;simp only[h1,decide_false,ai];exact this
theorem Gc (hm:dB B L m) (h:fZ B H aM fid mid pid m s L) (hok:bf m.g s) (hg:m.g.In) {an:Nat} (ha:(an:Int)≤m.g.cap) {x:Sh} (hx:s.mZ an=some x) (k:∀q c H',fZ B H' aM fid mid pid m s (BY q c x.data::L)→K (.tuple [.slice q x.data.length c,.int .i64 0]) H'):cl 39 [.aj (some (fid,0)),.int .i64 (an:Int)] H K:=by
 rw[abx];refine DY hm h hg (an:Int) (fun H1 h1=> ?_);have e:0≤(an:Int)∧(an:Int)≤m.g.cap:=⟨by omega,ha⟩;simp only[e,and_self,if_true,AN];refine Kg hm h1 hok hg ha hx (fun q c H2 h2=> ?_);unfold At;simp only[AN,f125,Dv];exact k q c H2 h2
end
section
variable {B:ag} {L:List cw} {H:ag} {K:V→ag→Prop} {aM fid mid pid:Nat} {m:Gm} {s:FS}
theorem LM {a:Ar} {b p:Nat} {d:List UInt8} {e:Int} {P:Ar→Prop} (h0:P a) (hd:d.length=96) (h1:∀bs:List Bk,bs.length=a.bs.length→(∀x∈bs,x∈a.bs∨(∃y∈a.bs,x.pg=y.pg∨∃z:List UInt8,z.length=96∧x.pg=y.pg++[z]∧(y.pg.length:Int)<a.aA))→∀a':Ar,a'.bs=bs→a'.aA=a.aA→P a'):P (fQ a b p d e).1:=by
 unfold fQ;split
 ·exact h0
 split
 ·exact h0
 rename_i hp;split
 ·exact h0
 split
 ·exact h0
 rename_i bk hbk;have hmem:=List.mem_of_getElem? hbk;split
 ·exact h0
 rename_i Ag;split
 ·exact h0
 have hlen:(bk.pg.length:Int)<a.aA:=by omega
 have key:∀x∈(bA a b bk).bs,x∈a.bs∨(∃y∈a.bs,x.pg=y.pg∨∃z:List UInt8,z.length=96∧x.pg=y.pg++[z]∧(y.pg.length:Int)<a.aA):=by
  intro x hx;rcases List.mem_or_eq_of_mem_set hx with hx|rfl
  ·exact .inl hx
  ·exact .inr ⟨bk,hmem,.inl (bB bk)⟩
 split
 ·exact h1 (bA a b bk).bs (fX ..) key _ rfl rfl
 split
 ·refine h1 _ (by simp [fX]) (fun x hx=> ?_) _ rfl rfl;rcases List.mem_or_eq_of_mem_set hx with hx|rfl
  ·exact key x hx
  ·exact .inr ⟨bk,hmem,.inr ⟨gY d 0,by rw[nE,hd],rfl,hlen⟩⟩
 ·refine h1 _ (by simp [fX]) (fun x hx=> ?_) _ rfl rfl;rcases List.mem_or_eq_of_mem_set hx with hx|rfl
  ·exact key x hx
  ·exact .inr ⟨bk,hmem,.inr ⟨d,hd,rfl,hlen⟩⟩
theorem O1 (n:Nat):je n<18446744073709551616:=Nat.mod_lt _ (by omega)
theorem bf.prog {g:ct} (hok:bf g s) (b p:Nat) {d:List UInt8} (hd:d.length=96) (e:Int):bf g {s with a:=(fQ s.a b p d e).1}:=by
 refine LM (P:=fun a=>bf g {s with a:=a}) hok hd (fun bs hl hx a' hb hp=> ?_);refine {hok with n:= ?_,p:= ?_,len:= ?_,d:= ?_}
 ·show ((a'.bs.length:Nat):Int)=_;rw[hb,hl];exact hok.n
 ·show a'.aA=_;rw[hp];exact hok.p
 ·intro x hh;have hh:x∈a'.bs:=hh;rw[hb] at hh;rcases hx x hh with h|⟨y,hy,h|⟨z,_,h,hlt⟩⟩
  ·exact hok.len x h
  ·rw[h];exact hok.len y hy
  ·rw[h];have:=hok.p;simp;omega
 ·intro x hh d' hd';have hh:x∈a'.bs:=hh;rw[hb] at hh;rcases hx x hh with h|⟨y,hy,h|⟨z,hz,h,hlt⟩⟩
  ·exact hok.d x h d' hd'
  ·rw[h] at hd';exact hok.d y hy d' hd'
  ·rw[h] at hd';rcases List.mem_append.1 hd' with hd'|hd'
   ·exact hok.d y hy d' hd'
   ·rw[List.mem_singleton] at hd';rw[hd'];exact hz
theorem bf.Iw {g:ct} (hok:bf g s):bf g {s with f:={s.f with seq:=je s.f.seq}}:={hok with seq:=O1 _}
theorem BT {a:Ar} {b:Nat} (hb:b<a.bs.length) {d:List UInt8} {e:Int} (h:(fQ a b (a.bs.getD b fq).pg.length d e).2=0):((a.bs.getD b fq).pg.length:Int)<a.aA:=by
 unfold fQ at h;split at h
 ·cases h
 split at h
 ·cases h
 omega
theorem bf.cd {g:ct} (hg:g.In) (hok:bf g s) {b:Nat} (hb:b∈g.us) {x:Sh} (SC:x.data.length≤64):bf g (cd s b x).1:=by
 have hl:(eu {x with ep:=s.f.ep,seq:=je s.f.seq}).length=96:=lQ _ SC;have h1:=(hok.prog b (s.next b) hl (s.f.ep:Int)).Iw;unfold Go.Proofs.YtlgdkndamddpkaaGreat.cd;simp only;split
 ·exact h1.bC hg hb (h:=3) (by omega)
 split
 ·rename_i h0;have hlt:=hok.lt hb;have hpos:=BT hlt h0;have hp:=hok.p;have ac7:=hg.p;refine {h1 with pm:= ?_,na:= ?_}
  ·exact hok.pm.put (fun b' p' he=>by
    cases he;have:=nO hb;have:=hok.nb;unfold FS.next
    omega)
  ·show (((s.f.pm.put x.an (some (b,s.next b))).cg.length:Nat):Int)=_
   unfold Pm.put;rw[List.length_set];exact hok.na
 ·exact h1
theorem Ge (hm:dB B L m) (hg:m.g.In) (h:fZ B H aM fid mid pid m s L) (hok:bf m.g s) {b:Nat} (hb:b∈m.g.us) {x:Sh} {q:Oq} {c:Nat} (hr:lN B L q x.data) (h1:x.cU<256) (h4:(x.an:Int)≤m.g.cap) (hcap:m.g.cap<65000) (h5:x.fr≤256) (h6:x.data.length≤64) (k:∀H',fZ B H' aM fid mid pid m (cd s b x).1 L→K (.int .i64 (cd s b x).2) H'):cl 141 [.aj (some (fid,0)),.int .i64 (b:Int),At x q c] H K:=by
 have g:=xc h;have hlt:=hok.lt hb;have hsq:=hok.seq;unfold At;rw[Zw]
 have e1:IntKind.u64.wrap ((s.f.seq:Int)+1)=(je s.f.seq:Int):=by
  rw[IntKind.wrap_u64];unfold je;omega
 obtain⟨w,hst⟩:=h.BA (k:=8) (by show 8<9;omega) (.int .u64 (je s.f.seq:Int));have hS:fZ B (H.store fid 8 [.int .u64 (je s.f.seq:Int)]) aM fid mid pid m {s with f:={s.f with seq:=je s.f.seq}} L:=hst;simp only[AN,Option.isSome_some,Nat.zero_add,g.i 8 (by omega),g.c8,e1,w];generalize (ag.store _ _ _ _)=H1 at hS⊢;clear hst;have g1:=xc hS;have gn:=hok.Iw;simp only[g1.i 0 (by omega),g1.i 5 (by omega),g1.i 8 (by omega),g1.c0,g1.c5,g1.c8,AN];rw[uF (fZ.arr hS) hlt]
 have mf:((s.a.bs[b]'hlt).pg.length)=s.next b:=by
  unfold FS.next;rw[List.getD_eq_getElem?_getD,List.getElem?_eq_getElem hlt];rfl
 rw[show (({s with f:={s.f with seq:=je s.f.seq}}:FS).a.bs[b]'hlt).pg.length=s.next b from mf];simp only[AN,g1.i 0 (by omega),g1.i 5 (by omega),g1.c0,g1.c5];obtain⟨y,hy⟩:∃y:Sh,y={x with ep:=s.f.ep,seq:=je s.f.seq}:=⟨_,rfl⟩;have hyV:V.agg (fE (x.cU:Int) (s.f.ep:Int) (je s.f.seq:Int) (x.an:Int) ((x.fr:Int)-1) q x.data.length c)=At y q c:=by rw[hy];rfl
 rw[hyV];have hyl:(eu y).length=96:=lQ _ (by rw[hy];exact h6)
 have TL:∀(K:V→ag→Prop),(∀q' c' H',fZ B H' aM fid mid pid m {s with f:={s.f with seq:=je s.f.seq}} (BY q' c' (eu y)::L)→K (.slice q' (eu y).length c') H')→cl 133 [At y q c] H1 K:=fun K k=>
  JW hS (by rw[hy];exact((((hr.bO _).bO _).bO _).bO _)) (by rw[hy];exact h1) (by rw[hy];exact hok.ep) (by rw[hy];exact O1 _) (by rw[hy];show x.an<_;omega) (by rw[hy];exact h5) (by rw[hy];exact h6) (fun q' c' H' h'=>k q' c' H' (h'.ord [1,1,1,1]))
 obtain⟨r,Cx⟩:∃r,r=fQ s.a b (s.next b) (eu y) s.f.ep:=⟨_,rfl⟩
 have P:∀(K:V→ag→Prop) q' c' H',fZ B H' aM fid mid pid m {s with f:={s.f with seq:=je s.f.seq}} (BY q' c' (eu y)::L)→(∀H2,fZ B H2 aM fid mid pid m ⟨r.1,{s.f with seq:=je s.f.seq}⟩ L→K (.int .i64 r.2) H2)→
  cl 151 [.aj (some (aM,0)),.int .i64 (b:Int),.int .i64 (s.next b:Int),.slice q' (eu y).length c',.int .u64 (s.f.ep:Int)] H' K:=by
  intro K q' c' H' h' k;have WJ:s.a.aA≤1000:=by have:=hok.p;have:=hg.p;omega
  refine Ih (fZ.arr h') hlt (s.next b) (fun H h=>(h.ord [4]).iU) (by omega) (s.f.ep:Int) WJ (fun H2 h2=> ?_);rw[Cx] at k;exact k H2 ((h2.ord [4]).drop.ord [1,1,1])
 have fin:∀(Q:Am.St→Prop),(∀H2,fZ B H2 aM fid mid pid m ⟨r.1,{s.f with seq:=je s.f.seq}⟩ L→Q (St.mk (ab [(8,T.v (V.int .i64 r.2))]) (ab []) H2))→
  ∀q' c' H',fZ B H' aM fid mid pid m {s with f:={s.f with seq:=je s.f.seq}} (BY q' c' (eu y)::L)→
  cl 151 [.aj (some (aM,0)),.int .i64 (b:Int),.int .i64 (s.next b:Int),.slice q' (eu y).length c',.int .u64 (s.f.ep:Int)] H' (fun v H'=>ah (V.ax (.int .i64) v) (Q (St.mk (ab [(8,T.v (V.int .i64 (V.aa v)))]) (ab []) H'))):=by
  intro Q hQ q' c' H' h';refine P _ q' c' H' h' (fun H2 h2=> ?_);simp only[AN];exact hQ H2 h2
 refine iE (fun S:Am.St=>S.1 8=some (T.v (V.int .i64 r.2))∧fZ B S.3 aM fid mid pid m ⟨r.1,{s.f with seq:=je s.f.seq}⟩ L) (fun(S:Am.St) MQ=> ?_) (fun Q' hQ=> ?_)
 ·obtain⟨hS8,Qz⟩:=MQ;generalize S.3=H2 at Qz⊢;have g2:=xc Qz
  have hk:cd s b x=if r.2=8∨r.2=6 then (⟨r.1,{s.f with seq:=je s.f.seq,po:=s.f.po.set b 3}⟩,8)
   else if r.2=0 then (⟨r.1,{s.f with seq:=je s.f.seq,pm:=s.f.pm.put x.an (some (b,s.next b))}⟩,0)
   else (⟨r.1,{s.f with seq:=je s.f.seq}⟩,r.2):=by rw[Cx,hy];rfl
  rw[hk] at k;simp only[hS8,AN];have aaP:bf m.g ⟨r.1,{s.f with seq:=je s.f.seq}⟩:=by rw[Cx];exact(hok.prog b (s.next b) hyl (s.f.ep:Int)).Iw
  by_cases h86:r.2=8∨r.2=6
  ·rw[if_pos h86] at k
   have e:(bif !decide (r.2=8) then decide (r.2=6) else true)=true:=by
    rcases h86 with h|h<;>simp [h]
   rw[e,ar];simp only[g2.i 7 (by omega),g2.c7,AN];refine kW (hw:=3) (fZ.po Qz) aaP.po (aaP.how hb) (by omega) (fun e H3 h3=> ?_);simp only[AN];exact k H3 (h3.ord [1,1])
  ·rw[if_neg h86] at k
   have e:(bif !decide (r.2=8) then decide (r.2=6) else true)=false:=by
    have h8:¬r.2=8:=fun h=>h86 (.inl h)
    have h6:¬r.2=6:=fun h=>h86 (.inr h)
    simp [h8,h6]
   rw[e,ai];by_cases h0:r.2=0
   ·rw[if_pos h0] at k;simp only[h0,decide_true,ar,g2.i 6 (by omega),g2.c6,AN];have hna:=hok.na;have hnb:=hok.nb;have KX:=nO hb;have hpos:=BT hlt (d:=eu y) (e:=(s.f.ep:Int)) (by rw[Cx] at h0;exact h0);have hp:=hok.p;have ac7:=hg.p;refine J2 (fZ.pm Qz) hok.pm (a:=x.an) (b:=b) (p:=s.next b) (by show x.an<s.f.pm.cg.length;omega) (by show b<s.f.pm.nb;omega) (by unfold FS.next;omega) (fun H3 h3=> ?_);simp only[AN];exact k H3 (h3.ord [1])
   ·rw[if_neg h0] at k;simp only[h0,decide_false,ai];exact k H2 Qz
 ·have fin':=fin Q' (fun H2 h2=>hQ _ ⟨rfl,h2⟩)
  repeat' apply And.intro
  all_goals first
   |refine TL _ (fun q' c' H' h'=> ?_)
    have g':=xc h';simp only[AN,g'.i 0 (by omega),g'.i 5 (by omega),g'.c0,g'.c5];exact fin' q' c' H' h'
end
def o4 (g:ct):Nat→FS→Nat→Nat→Option (FS×Int×Nat)
 |0,_,_,_=>none
 |n+1,s,v,d=>if s.f.pm.ef v=0 then some (s,0,d) else match s.f.pm.on v with
  |[]=>none
  |a::_=>match s.mZ a.toNat with
   |none=>none
   |some x=>if (x.an:Int)≤g.cap then
    (if (cd s d {x with fr:=v+1}).2=8 then match (cd s d {x with fr:=v+1}).1.dm with
     |none=>some ((cd s d {x with fr:=v+1}).1,10,0)
     |some d'=>o4 g n (cd s d {x with fr:=v+1}).1 v d'
    else if (cd s d {x with fr:=v+1}).2=0 then o4 g n (cd s d {x with fr:=v+1}).1 v d
    else some ((cd s d {x with fr:=v+1}).1,(cd s d {x with fr:=v+1}).2,0)) else none
def ia (g:ct) (n:Nat) (s:FS):Option (FS×Int):=match s.iX with
 |none=>some (s,10)
 |some v=>if s.f.pm.ef v=0 then some (bG s v) else match s.dm with
  |none=>some (s,10)
  |some d=>if (s.f.pm.ef v:Int)=g.aA then some (s,10) else match o4 g n s v d with
   |none=>none
   |some (s1,e,d1)=>if e=0 then (if (bG s1 v).2=0 then some ((bG s1 v).1.bC d1 2,0) else some (bG s1 v)) else some (s1,e)
mutual
def jo (g:ct) (k:Nat):Nat→FS→Option (FS×Int×Nat)
 |0,_=>none
 |n+1,s=>match s.f.po.ku with
  |some b=>if (s.next b:Int)<g.aA then some (s,0,b) else lS g k n (s.bC b 1)
  |none=>lS g k n s
def lS (g:ct) (k:Nat) (n:Nat) (s:FS):Option (FS×Int×Nat):=
 if (s.f.po.count 3:Int)>g.aH then some (s,10,0)
 else if (s.f.po.count 0:Int)>1+g.aH-s.f.po.count 3 then match s.dm with
  |none=>none
  |some b=>jo g k n (s.bC b 2)
 else match ia g k s with
  |none=>none
  |some (s1,e)=>if e=0 then jo g k n s1 else some (s1,e,0)
end
def uT (g:ct) (k:Nat):Nat→FS→Sh→Option (FS×Int)
 |0,_,_=>none
 |n+1,s,x=>match jo g k k s with
  |none=>none
  |some (s1,e,b)=>if e=0 then (if (cd s1 b x).2=8 then uT g k n (cd s1 b x).1 x else some (cd s1 b x)) else some (s1,e)
section
variable {B:ag} {L:List cw} {H:ag} {K:V→ag→Prop} {aM fid mid pid:Nat} {m:Gm} {s:FS}
theorem oL (h:Nat) (w:List Int):∀(l:List (Nat×Nat)) (o:Option Nat) (b:Nat),gw h w l o=some b→o=some b∨(b,h)∈l
 |[],o,b,hh=>.inl hh
 |x::l,o,b,hh=>by
  rw[mH] at hh;split at hh
  ·exact(oL h w l o b hh).imp id (List.mem_cons_of_mem _)
  ·rename_i hx
   have vm:x.2=h:=by
    by_cases e:x.2=h
    ·exact e
    ·exact absurd (.inl e) hx
   have key:gw h w l (some x.1)=some b→o=some b∨(b,h)∈x::l:=fun hh=>by
    rcases oL h w l _ b hh with e|e
    ·cases e;right;rw[←vm];exact List.mem_cons_self
    ·exact .inr (List.mem_cons_of_mem _ e)
   cases o with
   |none=>exact key hh
   |some b0=>
    simp only at hh;split at hh
    ·exact key hh
    ·exact(oL h w l _ b hh).imp id (List.mem_cons_of_mem _)
theorem qV {p:Po} {h b:Nat} {w:List Int} (hh:p.iX h w=some b):(b,h)∈p.bl:=(oL h w _ _ b hh).elim (fun e=>by cases e) id
theorem bf.qn {g:ct} (hok:bf g s) {b:Nat} (h:s.dm=some b):b∈g.us:=by
 rw[←hok.us];exact List.mem_map.2 ⟨_,qV h,rfl⟩
theorem bf.zz {g:ct} (hok:bf g s) {b:Nat} (h:s.iX=some b):b∈g.us:=by
 rw[←hok.us];exact List.mem_map.2 ⟨_,qV h,rfl⟩
theorem bf.RN {g:ct} (hok:bf g s) {b:Nat} (h:s.f.po.ku=some b):b∈g.us:=by
 rw[←hok.us];exact List.mem_map.2 ⟨_,qm h,rfl⟩
theorem vW {s:FS} {a:Nat} (ha:a<65536) {x:Sh} (h:s.mZ a=some x):x.cU≤3∧x.data.length≤64:=by
 unfold FS.mZ at h;split at h
 ·cases h;exact⟨by show (2:Nat)≤3;omega,by simp⟩
 ·split at h
  ·have:=(sS h).1;exact⟨this.k3,this.dl⟩
  ·cases h
theorem uU {mm:Pm} (hok:mm.ok) {b:Nat} {a:Int} (h:a∈mm.on b):0≤a∧a<mm.cg.length:=by
 unfold Pm.on at h;split at h
 ·cases h
 ·unfold MX at h;obtain⟨p,hp,he⟩:=List.mem_filterMap.1 h;have:=qT b mm.cg 0 mm.cg.length (fun _=>0) (by omega) (fun k=>by omega) p;have e:mm.by b p=EM b mm.cg 0 (fun _=>0) p:=rfl
  split at he
  ·cases he;omega
  ·cases he
theorem DZ (hm:dB B L m) (hg:m.g.In) (hcap:m.g.cap<65000) {v:Nat} (hv:v∈m.g.us) {Kr:Am.St→Prop} {Ke:Nat→Am.St→Prop}:∀(n:Nat) (s:FS) (d:Nat) {H:ag} {r:FS×Int×Nat},o4 m.g n s v d=some r→bf m.g s→d∈m.g.us→fZ B H aM fid mid pid m s L→(r.2.1=0→bf m.g r.1→r.2.2∈m.g.us→∀H',fZ B H' aM fid mid pid m r.1 L→Ke 0 (St.mk (ab [(0,T.v (V.aj (some (fid,0)))),(3,T.v (V.int .i64 (v:Int))),(5,T.v (V.int .i64 (r.2.2:Int)))]) (ab []) H'))→(r.2.1≠0→∀H',fZ B H' aM fid mid pid m r.1 L→Kr (St.mk (ab [(2,T.v (V.int .i64 r.2.1))]) (ab []) H'))→lo 150 12 (St.mk (ab [(0,T.v (V.aj (some (fid,0)))),(3,T.v (V.int .i64 (v:Int))),(5,T.v (V.int .i64 (d:Int)))]) (ab []) H) Kr Ke
 |0,s,d,H,r,hf,hok,hd,h,k1,k2=>by cases hf
 |n+1,s,d,H,r,hf,hok,hd,h,k1,k2=>by
  have g:=xc h;have M6:v<s.f.pm.nb:=by have:=nO hv;have:=hok.nb;omega
  rw[NY];simp only[AN,Option.isSome_some,Nat.zero_add,g.i 6 (by omega),g.c6];rw[nJ h.pm M6];simp only[AN];rw[o4] at hf;by_cases hc:s.f.pm.ef v=0
  ·rw[if_pos hc] at hf;cases hf;have tq:¬(s.f.pm.ef v:Int)>0:=by omega
   simp only[tq,decide_false,ai];exact k1 rfl hok hd H h
  rw[if_neg hc] at hf;have tq:(s.f.pm.ef v:Int)>0:=by omega
  simp only[tq,decide_true,ar,g.i 6 (by omega),g.c6,AN];refine OV h.pm hok.pm M6 (fun q1 c1 H1 h1=> ?_)
  cases M4:s.f.pm.on v with
  |nil=>rw[M4] at hf;cases hf
  |cons a l=>
   rw[M4] at hf h1;dsimp only at hf;have har:=uU hok.pm (by rw[M4];exact List.mem_cons_self:a∈s.f.pm.on v);obtain⟨s1,s2,s3⟩:=(az.sO h1).at (i:=0) (by simp);rw[Nat.zero_mul,Nat.add_zero] at s2 s3;simp only[ni,nj] at s2 s3;have a1:0<(((l.length+1:Nat)):Int):=by omega
   simp only[AN,a1,s1,s2,s3,List.getElem_cons_zero];have EI:fZ B H1 aM fid mid pid m s (IR q1 c1 (a::l)::L):=h1.ord [2,1,1,1];have hna:=hok.na;obtain⟨an,rfl⟩:∃an:Nat,a=(an:Int):=⟨a.toNat,by omega⟩;rw[Int.toNat_natCast] at hf
   cases tw:s.mZ an with
   |none=>rw[tw] at hf;cases hf
   |some x=>
    rw[tw] at hf;dsimp only at hf;by_cases WK:(x.an:Int)≤m.g.cap
    case neg=>rw[if_neg WK] at hf;cases hf
    rw[if_pos WK] at hf;have adl:m.g.cap<65000:=hcap;obtain⟨hx1,vm⟩:=vW (by omega) tw;refine Kg (hm.bO _) EI hok hg (by omega) tw (fun q2 c2 H2 h2=> ?_);unfold At;simp only[AN,f125,HS,HT,HU,HV,Dv];have Qz:fZ B H2 aM fid mid pid m s (BY q2 c2 x.data::L):=(h2.ord [5]).drop;obtain⟨y,hy⟩:∃y:Sh,y={x with fr:=v+1}:=⟨_,rfl⟩;have adq:v<64:=by have:=nO hv;have:=hg.b;omega
    have hyV:V.agg (fE (x.cU:Int) (x.ep:Int) (x.seq:Int) (x.an:Int) (v:Int) q2 x.data.length c2)=At y q2 c2:=by
     rw[hy];unfold At;simp only;have:((v+1:Nat):Int)-1=(v:Int):=by omega
     rw[this]
    rw[hyV];rw[←hy] at hf;have hyd:y.data=x.data:=by rw[hy]
    have fI:=hok.cd hg hd (x:=y) (by rw[hyd];exact vm);refine Ge (hm.bO _) hg Qz hok hd (x:=y) (by rw[hyd];exact fun H h=>h.iU) (by rw[hy];show x.cU<256;omega) (by rw[hy];exact WK) hcap (by rw[hy];show v+1≤256;omega) (by rw[hyd];exact vm) (fun H3 h3=> ?_);have TT:fZ B H3 aM fid mid pid m (cd s d y).1 L:=(h3.ord [4]).drop;simp only[AN];by_cases h8:(cd s d y).2=8
    ·rw[if_pos h8] at hf;simp only[h8,decide_true,ar];refine DX hg TT fI (fun H4 h4=> ?_);simp only[AN]
     cases hfr:(cd s d y).1.dm with
     |none=>
      rw[hfr] at hf;cases hf;simp only[Option.isSome_none,Bool.not_false,ar];exact k2 (by show (10:Int)≠0;decide) H4 h4
     |some d'=>
      rw[hfr] at hf;simp only[Option.isSome_some,Bool.not_true,ai,Option.getD_some];exact DZ hm hg hcap hv n _ d' hf fI (fI.qn hfr) h4 k1 k2
    ·rw[if_neg h8] at hf;simp only[h8,decide_false,ai];by_cases h0:(cd s d y).2=0
     ·rw[if_pos h0] at hf;simp only[h0,decide_true,Bool.not_true,ai];exact DZ hm hg hcap hv n _ d hf fI hd TT k1 k2
     ·rw[if_neg h0] at hf;cases hf;simp only[h0,decide_false,Bool.not_false,ar];exact k2 h0 H3 TT
theorem qo {g:ct} (hg:g.In) (hcap:g.cap<65000) {v:Nat} (hv:v∈g.us):∀(n:Nat) (s:FS) (d:Nat) {r:FS×Int×Nat},o4 g n s v d=some r→bf g s→d∈g.us→bf g r.1∧(r.2.1=0→r.2.2∈g.us)
 |0,s,d,r,hf,hok,hd=>by cases hf
 |n+1,s,d,r,hf,hok,hd=>by
  rw[o4] at hf;split at hf
  ·cases hf;exact⟨hok,fun _=>hd⟩
  split at hf
  ·cases hf
  rename_i a l M4;have har:=uU hok.pm (by rw[M4];exact List.mem_cons_self:a∈s.f.pm.on v);have hna:=hok.na;split at hf
  ·cases hf
  rename_i x tw;obtain⟨hx1,vm⟩:=vW (by omega) tw;have fI:=hok.cd hg hd (x:={x with fr:=v+1}) vm;split at hf
  case isFalse=>cases hf
  split at hf
  ·split at hf
   ·cases hf;exact⟨fI,fun h=>by cases h⟩
   ·rename_i d' hfr;exact qo hg hcap hv n _ d' hf fI (fI.qn hfr)
  split at hf
  ·exact qo hg hcap hv n _ d hf fI hd
  ·rename_i h0;cases hf;exact⟨fI,fun h=>absurd h h0⟩
end
end Go.Proofs.YtlgdkndamddpkaaGreat
end
section
namespace Go.Proofs.YtlgdkndamddpkaaGreat
open Go.Am
def Kh (g:ct) (k:Nat) (s:FS) (an:Nat):Option (FS×Int):=
 if (s.f.pm.cg.getD an none).isSome then uT g k k s ⟨2,0,0,an,0,[]⟩ else some (s,0)
section
variable {B:ag} {L:List cw} {H:ag} {K:V→ag→Prop} {aM fid mid pid:Nat} {m:Gm} {s:FS}
theorem Ix (hm:dB B L m) (hg:m.g.In) (hcap:m.g.cap<65000) {n:Nat} (h:fZ B H aM fid mid pid m s L) (hok:bf m.g s) {r:FS×Int} (hf:ia m.g n s=some r) (k:bf m.g r.1→∀H',fZ B H' aM fid mid pid m r.1 L→K (.int .i64 r.2) H'):cl 150 [.aj (some (fid,0))] H K:=by
 have g:=xc h;rw[ZD];refine iE (fun S:Am.St=>S.1 3=some (T.v (V.int .i64 ((s.iX.getD 0:Nat):Int)))∧S.1 4=some (T.v (V.bool s.iX.isSome))∧fZ B S.3 aM fid mid pid m s L) (fun(S:Am.St) MQ=> ?_) (fun Q hQ=> ?_)
 ·obtain⟨TT,hS4,hS⟩:=MQ;generalize S.3=H1 at hS⊢;have g1:=xc hS;unfold ia at hf;simp only[TT,hS4,AN]
  cases hl:s.iX with
  |none=>
   rw[hl] at hf;cases hf;simp only[Option.isSome_none,Bool.not_false,ar];exact k hok H1 hS
  |some v=>
   rw[hl] at hf;dsimp only at hf;have hv:=hok.zz hl;have M6:v<s.f.pm.nb:=by have:=nO hv;have:=hok.nb;omega
   simp only[Option.isSome_some,Bool.not_true,ai,Option.getD_some,Nat.zero_add,g1.i 6 (by omega),g1.c6,AN];rw[nJ hS.pm M6];simp only[AN];by_cases hc:s.f.pm.ef v=0
   ·rw[if_pos hc] at hf;cases hf;have tq:(s.f.pm.ef v:Int)=0:=by omega
    simp only[tq,decide_true,ar];refine vV hm hg hS hok hv (fun H2 h2=> ?_);simp only[AN];exact k (hok.bG hg hv) H2 h2
   rw[if_neg hc] at hf;have tq:¬(s.f.pm.ef v:Int)=0:=by omega
   simp only[tq,decide_false,ai];refine DX hg hS hok (fun H2 h2=> ?_);have g2:=xc h2;simp only[AN]
   cases hfr:s.dm with
   |none=>
    rw[hfr] at hf;cases hf;simp only[Option.isSome_none,Bool.not_false,Bool.not_true,ai,eO,AJ,reduceIte];exact⟨k hok H2 h2,k hok H2 h2⟩
   |some d=>
    rw[hfr] at hf;dsimp only at hf;have hd:=hok.qn hfr;simp only[Option.isSome_some,Bool.not_false,Bool.not_true,ar,Option.getD_some,g2.i 6 (by omega),g2.i 2 (by omega),g2.c6,g2.c2,eO,AJ,reduceIte];have e:∀K:V→ag→Prop,cl 65 [V.aj (some (mid,0)),V.int .i64 (v:Int)] H2 K=K (.int .i64 (s.f.pm.ef v:Int)) H2:=fun K=>nJ h2.pm M6
    simp only[e,g2.i 2 (by omega),g2.c2,AN,and_self];by_cases hp:(s.f.pm.ef v:Int)=m.g.aA
    ·rw[if_pos hp] at hf;cases hf;simp only[hp,decide_true,ar];exact k hok H2 h2
    rw[if_neg hp] at hf;simp only[hp,decide_false,ai]
    cases qA:o4 m.g n s v d with
    |none=>rw[qA] at hf;cases hf
    |some o=>
     obtain⟨s1,e1,d1⟩:=o;rw[qA] at hf;dsimp only at hf;refine DZ hm hg hcap hv n s d qA hok hd h2 (fun h0 gn ML H3 h3=> ?_) (fun h0 H3 h3=> ?_)
     ·rw[if_pos h0] at hf;simp only[AN,reduceIte,Nat.reduceEqDiff];have h0:e1=0:=h0;refine vV hm hg h3 gn hv (fun H4 h4=> ?_);have g4:=xc h4;have SO:=gn.bG hg hv;simp only[AN];by_cases he:(bG s1 v).2=0
      ·rw[if_pos he] at hf;cases hf;simp only[he,decide_true,Bool.not_true,ai,Nat.zero_add,Option.isSome_some,g4.i 7 (by omega),g4.c7,AN];refine kW (hw:=2) h4.po SO.po (SO.how ML) (by omega) (fun e H5 h5=> ?_);simp only[AN];exact k (SO.bC hg ML (by omega)) H5 (h5.ord [1,1])
      ·rw[if_neg he] at hf;cases hf;simp only[he,decide_false,Bool.not_false,ar];exact k SO H4 h4
     ·have h0:e1≠0:=h0;rw[if_neg h0] at hf;cases hf;simp only[AN,reduceIte];exact k (qo hg hcap hv n s d qA hok hd).1 H3 h3
 ·simp only[AN,Option.isSome_some,Nat.zero_add,g.i 6 (by omega),g.i 7 (by omega),g.c6,g.c7]
  have fin:∀q c H',fZ B H' aM fid mid pid m s (IR q c s.f.pm.hZ::L)→∀K':V→ag→Prop,K' (.tuple [.int .i64 ((s.iX.getD 0:Nat):Int),.bool s.iX.isSome]) H'→
   cl 153 [.aj (some (pid,0)),.int .u8 1,.slice q s.f.pm.hZ.length c] H' K':=fun q c H' h' K' kk=>
   BS (hw:=1) h'.po hok.po (az.sO (h'.ord [4])) kk
  refine⟨Kf hg h hok (fun q c H' h'=> ?_),Kf hg h hok (fun q c H' h'=> ?_)⟩
  ·simp only[AN];refine fin q c H' h' _ ?_;simp only[AN];exact hQ _ ⟨rfl,rfl,(h'.ord [4]).drop⟩
  ·have g':=xc h';simp only[AN,g'.i 7 (by omega),g'.c7];refine fin q c H' h' _ ?_;simp only[AN];exact hQ _ ⟨rfl,rfl,(h'.ord [4]).drop⟩
theorem Gf {g:ct} (hg:g.In) (hcap:g.cap<65000) {n:Nat} (hok:bf g s) {r:FS×Int} (hf:ia g n s=some r):bf g r.1:=by
 unfold ia at hf;split at hf
 ·cases hf;exact hok
 rename_i v hl;have hv:=hok.zz hl;split at hf
 ·cases hf;exact hok.bG hg hv
 split at hf
 ·cases hf;exact hok
 rename_i d hfr;split at hf
 ·cases hf;exact hok
 split at hf
 ·cases hf
 rename_i s1 e d1 qA;have h1:=qo hg hcap hv n s d qA hok (hok.qn hfr);split at hf
 ·rename_i h0;split at hf
  ·cases hf;exact(h1.1.bG hg hv).bC hg (h1.2 h0) (by omega)
  ·cases hf;exact h1.1.bG hg hv
 ·cases hf;exact h1.1
def Rm (fid:Nat) (Kr:Am.St→Prop) (Ke:Nat→Am.St→Prop) (H:ag):Prop:=
 ah (Option.isSome (some (fid,0)))
  (nm (pb (some (fid,0))) fun n=>nm ((po (some (fid,0)))+7) fun n_2=>
   ah (ag.inb H n n_2 1&&V.ax .aj (ag.cell H n n_2))
    (cl 93 [V.aj (V.ay (ag.cell H n n_2)),V.int .u8 3] H fun v H'=>
     ah (V.ax (.int .i64) v)
      (ah (Option.isSome (some (fid,0)))
       (nm (pb (some (fid,0))) fun n=>nm ((po (some (fid,0)))+1+2) fun bE=>
        ah (ag.inb H' n bE 1&&V.ax (.int .i64) (ag.cell H' n bE))
         (br (decide (V.aa v>V.aa (ag.cell H' n bE)))
          (Kr (St.mk (ab [(2,T.v (V.int .i64 0)),(3,T.v (V.int .i64 10))]) (ab []) H'))
          (cy
           (fun Q=>
            ah (Option.isSome (some (fid,0)))
             (nm (pb (some (fid,0))) fun n=>nm ((po (some (fid,0)))+7) fun cK=>
              ah (ag.inb H' n cK 1&&V.ax .aj (ag.cell H' n cK))
               (nm (V.ay (ag.cell H' n cK)) fun s=>
                ah (Option.isSome (some (fid,0)))
                 (nm (pb (some (fid,0))) fun n=>nm ((po (some (fid,0)))+1) fun dQ=>
                  (cl 93 [V.aj s,V.int .u8 0] H' fun v_1 H'=>
                   ah (V.ax (.int .i64) v_1)
                    (ah (ag.inb H' n dQ 4&&aI AS (ag.sub H' n dQ 4))
                     (cl 148 [V.agg (sM (ag.sub H' n dQ 4)),V.int .i64 (V.aa v)] H' fun v H'=>
                      ah (V.ax (.int .i64) v)
                       (Q (St.mk (ab [(62,T.v (V.bool (decide (V.aa v_1>V.aa v))))]) (ab []) H')))))∧
                  ah (ag.inb H' n dQ 4&&aI AS (ag.sub H' n dQ 4))
                   (cl 93 [V.aj s,V.int .u8 0] H' fun v_1 H'_1=>
                    ah (V.ax (.int .i64) v_1)
                     (cl 148 [V.agg (sM (ag.sub H' n dQ 4)),V.int .i64 (V.aa v)] H'_1 fun v H'=>
                      ah (V.ax (.int .i64) v)
                       (Q (St.mk (ab [(62,T.v (V.bool (decide (V.aa v_1>V.aa v))))]) (ab []) H'))))))))
           fun S'=>
            ah (aB (KT.k .bool) (S'.1 62)||false||false)
             (br (V.ak (T.val (S'.1 62)))
              (cl 149 [V.aj (some (fid,0))] S'.3 fun v H'=>
               ah (V.aL 2 v&&(V.ax (.int .i64) (ae (V.aq v) 0)&&(V.ax .bool (ae (V.aq v) 1)||false)))
                (ah (Option.isSome (some (fid,0)))
                 (nm (pb (some (fid,0))) fun n=>nm ((po (some (fid,0)))+7) fun cK=>
                  ah (ag.inb H' n cK 1&&V.ax .aj (ag.cell H' n cK))
                   (cl 63 [V.aj (V.ay (ag.cell H' n cK)),V.int .i64 (V.aa (ae (V.aq v) 0)),V.int .u8 2] H' fun v H'=>
                    ah (V.ax (.int .i64) v)
                     (lo 140 1 (St.mk (ab [(0,T.v (V.aj (some (fid,0))))]) (ab []) H') Kr Ke)))))
              (cl 150 [V.aj (some (fid,0))] S'.3 fun v H'=>
               ah (V.ax (.int .i64) v)
                (br (!decide (V.aa v=0))
                 (Kr (St.mk (ab [(2,T.v (V.int .i64 0)),(3,T.v (V.int .i64 (V.aa v)))]) (ab []) H'))
                 (lo 140 1 (St.mk (ab [(0,T.v (V.aj (some (fid,0))))]) (ab []) H') Kr Ke))))))))))
theorem D0 (hm:dB B L m) (hg:m.g.In) (hcap:m.g.cap<65000) {kf:Nat} {Kr:Am.St→Prop} {Ke:Nat→Am.St→Prop}:∀(n:Nat) (s:FS) {H:ag} {r:FS×Int×Nat},jo m.g kf n s=some r→bf m.g s→fZ B H aM fid mid pid m s L→(bf m.g r.1→(r.2.1=0→r.2.2∈m.g.us)→∀H',fZ B H' aM fid mid pid m r.1 L→Kr (St.mk (ab [(2,T.v (V.int .i64 (r.2.2:Int))),(3,T.v (V.int .i64 r.2.1))]) (ab []) H'))→lo 140 1 (St.mk (ab [(0,T.v (V.aj (some (fid,0))))]) (ab []) H) Kr Ke
 |0,s,H,r,hf,hok,h,k=>by rw[jo] at hf;cases hf
 |n+1,s,H,r,hf,hok,h,k=>by
  have g:=xc h;rw[Rl];simp only[AN,Option.isSome_some,Nat.zero_add,g.i 7 (by omega),g.c7];refine Gb h.po hok.po ?_;simp only[AN];have hgs:=hg.s
  have wx:∀h:Nat,s.f.po.count h≤62:=fun h=>by
   have h1:s.f.po.count h≤s.f.po.bl.length:=List.countP_le_length;have h2:s.f.po.bl.length=m.g.us.length:=by rw[←hok.us,List.length_map]
   have:=ct.kG m.g hg.b.2;omega
  have rest:∀(s:FS) {H:ag},lS m.g kf n s=some r→bf m.g s→(∀h:Nat,s.f.po.count h≤62)→fZ B H aM fid mid pid m s L→Rm fid Kr Ke H:=by
   intro s H hf hok wx h;unfold Rm;have g:=xc h;simp only[AN,Option.isSome_some,Nat.zero_add,g.i 7 (by omega),g.c7];refine vU h.po hok.po 3 (fun H1 h1=> ?_);have EI:fZ B H1 aM fid mid pid m s L:=h1.ord [1,1];have g1:=xc EI;simp only[AN,g1.i 3 (by omega),g1.c3];unfold lS at hf;by_cases hd:(s.f.po.count 3:Int)>m.g.aH
   ·rw[if_pos hd] at hf;cases hf;simp only[hd,decide_true,ar];exact k hok (fun h=>by cases h) H1 EI
   rw[if_neg hd] at hf;simp only[hd,decide_false,ai];have hgc:=g1.g;refine iE (fun S:Am.St=>S.1 62=some (T.v (V.bool (decide ((s.f.po.count 0:Int)>1+m.g.aH-s.f.po.count 3))))∧fZ B S.3 aM fid mid pid m s L) (fun(S:Am.St) MQ=> ?_) (fun Q hQ=> ?_)
   ·obtain⟨ac8,Qz⟩:=MQ;generalize S.3=H2 at Qz⊢;simp only[ac8,AN];by_cases hr:(s.f.po.count 0:Int)>1+m.g.aH-s.f.po.count 3
    ·rw[if_pos hr] at hf;simp only[hr,decide_true,ar]
     cases hfr:s.dm with
     |none=>rw[hfr] at hf;cases hf
     |some b=>
      rw[hfr] at hf;dsimp only at hf;have hb:=hok.qn hfr;refine DX hg Qz hok (fun H3 h3=> ?_);have g3:=xc h3;rw[hfr];simp only[AN,Option.isSome_some,g3.i 7 (by omega),g3.c7];refine kW (hw:=2) h3.po hok.po (hok.how hb) (by omega) (fun e H4 h4=> ?_);simp only[AN];exact D0 hm hg hcap n _ hf (hok.bC hg hb (by omega)) (h4.ord [1,1]) k
    ·rw[if_neg hr] at hf;simp only[hr,decide_false,ai]
     cases hc:ia m.g kf s with
     |none=>rw[hc] at hf;cases hf
     |some o=>
      obtain⟨s1,e⟩:=o;rw[hc] at hf;dsimp only at hf;refine Ix hm hg hcap Qz hok hc (fun gn H3 h3=> ?_);simp only[AN];by_cases he:e=0
      ·rw[if_pos he] at hf;simp only[he,decide_true,Bool.not_true,ai];exact D0 hm hg hcap n _ hf gn h3 k
      ·rw[if_neg he] at hf;cases hf;simp only[he,decide_false,Bool.not_false,ar];exact k gn (fun h=>absurd h he) H3 h3
   ·have RV:∀(H:ag) (K:V→ag→Prop),cl 148 [V.agg (dV m.g.aE m.g.aA m.g.aH m.q m.g.bK.length m.c),V.int .i64 (s.f.po.count 3:Int)] H K=K (.int .i64 (1+m.g.aH-(s.f.po.count 3:Int))) H:=fun H K=>
     Ib (m:=m) hg (by have:=wx 3;omega)
    simp only[AN,g1.i 7 (by omega),g1.c7,hgc.1,hgc.2,f25,xo];refine⟨vU EI.po hok.po 0 (fun H3 h3=> ?_),vU EI.po hok.po 0 (fun H3 h3=> ?_)⟩
    all_goals
     have TT:fZ B H3 aM fid mid pid m s L:=h3.ord [1,1];have g3:=(xc TT).g;simp only[AN,g3.1,g3.2,f25,xo];rw[RV];simp only[AN];exact hQ _ ⟨rfl,TT⟩
  rw[jo] at hf
  cases ho:s.f.po.ku with
  |none=>
   rw[ho] at hf;dsimp only at hf;simp only[Option.isSome_none,ai,eO,and_self,AJ,reduceIte];have:=rest s hf hok wx h;unfold Rm at this;simp only[AJ,reduceIte] at this;exact this
  |some b=>
   rw[ho] at hf;dsimp only at hf;have hb:=hok.RN ho;have hlt:=hok.lt hb
   have mf:((s.a.bs[b]'hlt).pg.length)=s.next b:=by
    unfold FS.next;rw[List.getD_eq_getElem?_getD,List.getElem?_eq_getElem hlt];rfl
   have NX:∀K:V→ag→Prop,cl 64 [V.aj (some (aM,0)),V.int .i64 (b:Int)] H K=K (.int .i64 (s.next b:Int)) H:=fun K=>by
    rw[uF (fZ.arr h) hlt,mf]
   simp only[Option.isSome_some,Option.getD_some,ar,eO,NX,g.i 0 (by omega),g.i 2 (by omega),g.c0,g.c2,AJ,reduceIte];refine And.intro ?_ ?_
   all_goals
    by_cases hlt:(s.next b:Int)<m.g.aA
    ·rw[if_pos hlt] at hf;cases hf;simp only[hlt,decide_true,ar];exact k hok (fun _=>hb) H h
    ·rw[if_neg hlt] at hf;simp only[hlt,decide_false,ai,g.i 7 (by omega),g.c7,AN];refine kW (hw:=1) h.po hok.po (hok.how hb) (by omega) (fun e H1 h1=> ?_);have gn:=hok.bC hg hb (h:=1) (by omega);simp only[AN];have:=rest _ hf gn (fun h=> ?_) (h1.ord [1,1])
     ·unfold Rm at this;simp only[AJ,reduceIte,eO] at this;exact this
     ·have h1:(s.bC b 1).f.po.count h≤(s.bC b 1).f.po.bl.length:=List.countP_le_length;have h2:(s.bC b 1).f.po.bl.length=m.g.us.length:=by rw[←gn.us,List.length_map]
      have:=ct.kG m.g hg.b.2;omega
end
section
variable {B:ag} {L:List cw} {H:ag} {K:V→ag→Prop} {aM fid mid pid:Nat} {m:Gm} {s:FS}
theorem O2 (hm:dB B L m) (hg:m.g.In) (hcap:m.g.cap<65000) {kf:Nat} {x:Sh} {q:Oq} {c:Nat} (hr:lN B L q x.data) (h1:x.cU<256) (h4:(x.an:Int)≤m.g.cap) (h5:x.fr≤256) (h6:x.data.length≤64) {Kr:Am.St→Prop} {Ke:Nat→Am.St→Prop}:∀(n:Nat) (s:FS) {H:ag} {r:FS×Int},uT m.g kf n s x=some r→bf m.g s→fZ B H aM fid mid pid m s L→(bf m.g r.1→∀H',fZ B H' aM fid mid pid m r.1 L→Kr (St.mk (ab [(4,T.v (V.int .i64 r.2))]) (ab []) H'))→lo 118 1 (St.mk (ab [(0,T.v (V.aj (some (fid,0)))),(3,T.lp 3 0)]) (ab [(3,aU.cells 126 (fE (x.cU:Int) (x.ep:Int) (x.seq:Int) (x.an:Int) ((x.fr:Int)-1) q x.data.length c))]) H) Kr Ke
 |0,s,H,r,hf,hok,h,k=>by cases hf
 |n+1,s,H,r,hf,hok,h,k=>by
  rw[Rk,Zv];unfold uT at hf
  cases hro:jo m.g kf kf s with
  |none=>rw[hro] at hf;cases hf
  |some o=>
   obtain⟨s1,e,b⟩:=o;rw[hro] at hf;dsimp only at hf;refine D0 hm hg hcap kf s hro hok h (fun gn hb H1 EI=> ?_);simp only[AN,reduceIte,Nat.reduceEqDiff];by_cases he:e=0
   ·rw[if_pos he] at hf;have hb:b∈m.g.us:=hb he;simp only[he,decide_true,Bool.not_true,ai]
    have:=Ge (K:=fun v H'=>ah (V.ax (.int .i64) v) (br (!decide (V.aa v=8)) (Kr (St.mk (ab [(4,T.v (V.int .i64 (V.aa v)))]) (ab []) H'))
     (lo 118 1 (St.mk (ab [(0,T.v (V.aj (some (fid,0)))),(3,T.lp 3 0)])
      (ab [(3,aU.cells 126 (fE (x.cU:Int) (x.ep:Int) (x.seq:Int) (x.an:Int) ((x.fr:Int)-1) q x.data.length c))]) H') Kr Ke))) hm hg EI gn hb (x:=x) (q:=q) (c:=c) hr h1 h4 hcap h5 h6 (fun H2 h2=> ?_)
    ·exact this
    ·simp only[AN];have fI:=gn.cd hg hb (x:=x) h6;by_cases h8:(cd s1 b x).2=8
     ·rw[if_pos h8] at hf;simp only[h8,decide_true,Bool.not_true,ai];exact O2 hm hg hcap hr h1 h4 h5 h6 n _ hf fI h2 k
     ·rw[if_neg h8] at hf;cases hf;simp only[h8,decide_false,Bool.not_false,ar];exact k fI H2 h2
   ·rw[if_neg he] at hf;cases hf;simp only[he,decide_false,Bool.not_false,ar];exact k gn H1 EI
theorem Ki (hm:dB B L m) (hg:m.g.In) (hcap:m.g.cap<65000) {kf n:Nat} {x:Sh} {q:Oq} {c:Nat} (hr:lN B L q x.data) (h1:x.cU<256) (h4:(x.an:Int)≤m.g.cap) (h5:x.fr≤256) (h6:x.data.length≤64) {r:FS×Int} (hf:uT m.g kf n s x=some r) (hok:bf m.g s) (h:fZ B H aM fid mid pid m s L) (k:bf m.g r.1→∀H',fZ B H' aM fid mid pid m r.1 L→K (.int .i64 r.2) H'):cl 118 [.aj (some (fid,0)),At x q c] H K:=by
 unfold At;rw[Zi];refine O2 hm hg hcap hr h1 h4 h5 h6 n s hf hok h (fun gn H1 h1=> ?_);simp only[AN,reduceIte];exact k gn H1 h1
def To (an:Nat) (d:List UInt8):Sh:=⟨1,0,0,an,0,d⟩
def shT (an:Nat):Sh:=⟨2,0,0,an,0,[]⟩
theorem BU (hm:dB B L m) (hg:m.g.In) (hcap:m.g.cap<65000) {kf n:Nat} {an:Nat} {d:List UInt8} {q:Oq} {c:Nat} (hr:lN B L q d) (h4:(an:Int)≤m.g.cap) (h6:d.length≤64) {r:FS×Int} (hf:uT m.g kf n s (To an d)=some r) (hok:bf m.g s) (h:fZ B H aM fid mid pid m s L) (k:bf m.g r.1→∀H',fZ B H' aM fid mid pid m r.1 L→K (.int .i64 r.2) H'):cl 82 [.aj (some (fid,0)),.int .i64 (an:Int),.slice q d.length c] H K:=by
 rw[abU];refine DY hm h hg (an:Int) (fun H1 h1=> ?_);have e:0≤(an:Int)∧(an:Int)≤m.g.cap:=⟨by omega,h4⟩;have e2:¬((d.length:Nat):Int)>64:=by omega
 simp only[e,and_self,if_true,AN,e2];have:=Ki (K:=fun v H'=>ah (V.ax (.int .i64) v) (K (V.int .i64 (V.aa v)) H')) hm hg hcap (x:=To an d) (q:=q) (c:=c) hr (by show 1<256;omega) h4 (by show 0≤256;omega) h6 hf hok h1 (fun fI H2 h2=> ?_)
 ·exact this
 ·simp only[AN];exact k fI H2 h2
theorem O3 (hm:dB B L m) (hg:m.g.In) (hcap:m.g.cap<65000) {kf:Nat} {an:Nat} (h4:(an:Int)≤m.g.cap) {r:FS×Int} (hf:Kh m.g kf s an=some r) (hok:bf m.g s) (h:fZ B H aM fid mid pid m s L) (k:bf m.g r.1→∀H',fZ B H' aM fid mid pid m r.1 L→K (.int .i64 r.2) H'):cl 120 [.aj (some (fid,0)),.int .i64 (an:Int)] H K:=by
 rw[Zj];refine DY hm h hg (an:Int) (fun H1 h1=> ?_);have e:0≤(an:Int)∧(an:Int)≤m.g.cap:=⟨by omega,h4⟩;have g1:=xc h1;have Cy:an<s.f.pm.cg.length:=by have:=hok.na;omega
 have hgd:s.f.pm.cg.getD an none=s.f.pm.cg[an]:=by rw[List.getD_eq_getElem?_getD,List.getElem?_eq_getElem Cy];rfl
 simp only[e,and_self,if_true,AN,Option.isSome_some,Nat.zero_add,g1.i 6 (by omega),g1.c6];rw[J3 h1.pm Cy];unfold Kh at hf;rw[hgd] at hf
 have hfit:aI HW (vS s.f.pm.cg[an])=true:=by
  cases s.f.pm.cg[an]<;>rfl
 simp only[AN,hfit];by_cases ho:(s.f.pm.cg[an]).isSome=true
 ·rw[if_pos ho] at hf;simp only[ho,Bool.not_true,ai];have:=Ki (K:=fun v H'=>ah (V.ax (.int .i64) v) (K (V.int .i64 (V.aa v)) H')) hm hg hcap (x:=shT an) (q:=none) (c:=0) (fun H h=>(kE h).iU) (by show 2<256;omega) h4 (by show 0≤256;omega) (by show 0≤64;omega) hf hok h1 (fun fI H2 h2=> ?_)
  ·exact this
  ·simp only[AN];exact k fI H2 h2
 ·rw[if_neg ho] at hf;cases hf;simp only[ho,Bool.not_false,ar];exact k hok H1 h1
theorem BV (h:fZ B H aM fid mid pid m s L):cl 58 [.aj (some (fid,0))] H K=K (.int .u64 (s.f.ep:Int)) H:=by
 have g:=xc h;rw[abE];simp only[Option.isNone_some,Option.isSome_some,Nat.zero_add,g.i 5 (by omega),g.c5,AN]
end
end Go.Proofs.YtlgdkndamddpkaaGreat
end
