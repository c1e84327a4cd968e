/- Part 5 of what the law UnitFalls wants. -/
import Derived.Test.YtlgdkndamddpkaaGreatP4
set_option maxRecDepth 100000
set_option linter.unusedSimpArgs false
set_option linter.unusedVariables false
set_option linter.unusedSectionVars false
open List Option
section
namespace Go.Proofs.YtlgdkndamddpkaaGreat
open Go.Am
def Mg (g:cy) (sq:Int→Nat) (b nx:Nat):List Int→Nat×Int→Nat×Int
 |[],o=>o
 |a::l,o=>if (nx:Int)<g.aB∧o.1<sq a then Mg g sq b nx l (sq a,b) else Mg g sq b nx l o
def fM (g:cy) (sq:Int→Nat):List Nat→FS→Nat×Int→FS×Int×Nat×Int
 |[],s,o=>(s,0,o)
 |b::l,s,o=>
  if (s.a.bs.getD b fp).aV=true then fM g sq l (s.bG b 3) o
  else if s.next b=0 then fM g sq l s o
  else if s.f.pm.eu b=0 then (if (bN (s.bG b 1) b).2=0 then fM g sq l (bN (s.bG b 1) b).1 o else ((bN (s.bG b 1) b).1,(bN (s.bG b 1) b).2,o))
  else fM g sq l (s.bG b 1) (Mg g sq b (s.next b) (s.f.pm.on b) o)
def eG (pz:List (Rf×Nat)) (a:Int):Nat:=((mv a.toNat pz).map fun x=>x.1.f.s.seq).getD 0
def FS.xZ (g:cy) (a:Ar) (ep:Nat):FS:=⟨a,⟨ep,qx g (a.Bg g),Po.new g.us,a.Mb g⟩⟩
def cK (g:cy) (sq:Int→Nat) (a:Ar) (ep:Nat):FS×Int:=
 let r:=fM g sq g.us (FS.xZ g a ep) (0, -1)
 if r.2.1=0 then (if 0≤r.2.2.2 then (r.1.bG r.2.2.2.toNat 2,0) else (r.1,0)) else (r.1,r.2.1)
section
variable {B:ai} {L:List cw} {H:ai} {K:KP} {aK fid mid pid:Nat} {m:Gm} {s:FS}
theorem Wx {id c:Nat} {pz:List (Rf×Nat)} (h:aA B H (iN id (lY pz) c::L)) {n:Int} (hn:0≤n):∃x:Rf,cC H (some id) n (V.agg (kZ 0 0 0 0 0 0 0 none 0 0))=.agg x.cs∧x.f.s.seq=eG pz n∨cC H (some id) n (V.agg (kZ 0 0 0 0 0 0 0 none 0 0))=V.agg (kZ 0 0 0 0 0 0 0 none 0 0)∧eG pz n=0:=by
 rw[zI h];obtain⟨a,rfl⟩:∃a:Nat,n=(a:Int):=⟨n.toNat,by omega⟩;unfold eG;rw[u9,Int.toNat_natCast]
 cases mv a pz with
 |none=>exact⟨⟨⟨0,0,⟨0,0,0,0,0,[]⟩⟩,none,0⟩,.inr ⟨rfl,rfl⟩⟩
 |some x=>exact⟨x.1,.inl ⟨rfl,rfl⟩⟩
def Eh (m:Gm):aU:=aU.cells 26 (dI m.g.aG m.g.aB m.g.aI m.q m.g.bM.length m.c)
def T6 (mid pg:Nat) (sq:Nat) (q:Oq) (n c:Nat):aU:=aU.cells 113 (db (some (mid,0)) (some pg) (sq:Int) q n c)
theorem T7 {pg pc Nt:Nat} {pz:List (Rf×Nat)} {q53 q90 spq:Oq} {n53 c53 c90 spn spc:Nat} {t54 t55:Int} {b:Nat} (hb:b<s.a.bs.length) (l:List Int) (hl:∀a∈l,0≤a) (hlen:l.length≤1000000) {Kr:PS} {Ke:NS} (h:fZ B H aK fid mid pid m s (IR q90 c90 l::iN pg (lY pz) pc::L)):∀(k i:Nat) (o:Nat×Int),i+k=l.length→Ke 2 (St.mk (ab [(0,tp (some (aK,0))),(4,T.lp 4 0),(8,T.lp 8 0),(10,tp (some (pid,0))),(12,tp (some (fid,0))),(13,T.v (V.int .u64 ((Mg m.g (eG pz) b (s.next b) (l.drop i) o).1:Int))),(14,ti (Mg m.g (eG pz) b (s.next b) (l.drop i) o).2),(53,ts q53 n53 c53),(54,ti t54),(55,ti t55)]) (ab [(4,Eh m),(8,T6 mid pg Nt spq spn spc)]) H)→lo 37 29 (St.mk (ab [(0,tp (some (aK,0))),(4,T.lp 4 0),(8,T.lp 8 0),(10,tp (some (pid,0))),(12,tp (some (fid,0))),(13,T.v (V.int .u64 (o.1:Int))),(14,ti o.2),(16,ti (b:Int)),(53,ts q53 n53 c53),(54,ti t54),(55,ti t55),(90,ts q90 l.length c90),(91,ti (l.length:Int)),(92,ti (i:Int))]) (ab [(4,Eh m),(8,T6 mid pg Nt spq spn spc)]) H) Kr Ke
 |0,i,o,hi,hk=>by
  unfold Eh T6 at*;obtain rfl:i=l.length:=by omega
  rw[JE,decide_eq_false (by omega),ah];rw[drop_length,Mg] at hk;exact hk
 |k+1,i,o,hi,hk=>by
  have hlt:i<l.length:=by omega
  obtain⟨s1,s2,s3⟩:=(aA.ta (h.ord [4])).at hlt;simp only[Nat.mul_one] at s2 s3;rw[drop_eq_getElem_cons hlt,Mg] at hk;have ih:=T7 (Kr:=Kr) (Ke:=Ke) (n53:=n53) (c53:=c53) (q53:=q53) (t54:=t54) (t55:=t55) (Nt:=Nt) (spq:=spq) (spn:=spn) (spc:=spc) hb l hl hlen h k (i+1);unfold Eh T6 at*;have a1:(i:Int)<(l.length:Int):=by omega
  have a2:(0:Int)≤(i:Int):=by omega
  have a3:IntKind.i64.wrap ((i:Int)+1)=((i+1:Nat):Int):=aL (by omega);have hmp:=h.ord [5];have hok:=uY hmp;rw[JE];simp only[a1,a2,decide_true,ao,s1,s2,s3,Int.toNat_natCast,Nat.mul_one,hok,AN,a3]
  have mq:((s.a.bs[b]'hb).pg.length)=s.next b:=by
   unfold FS.next;rw[getD_eq_getElem?_getD,List.getElem?_eq_getElem hb];rfl
  obtain⟨x,hx⟩:=Wx hmp (hl _ (getElem_mem hlt))
  obtain⟨cs,e1,e2,e3⟩:∃cs:List V,cC H (some pg) l[i] (V.agg (kZ 0 0 0 0 0 0 0 none 0 0))=.agg cs∧aM pw cs=true∧V.aa (ae cs 4)=(eG pz l[i]:Int):=by
   rcases hx with⟨e,e'⟩|⟨e,e'⟩
   ·exact⟨_,e,rfl,by rw[←e'];rfl⟩
   ·exact⟨_,e,rfl,by rw[e'];rfl⟩
  simp only[e1,e2,e3,AN];rw[uT (fZ.arr h) hb,mq];simp only[AN];by_cases hc:(s.next b:Int)<m.g.aB∧o.1<eG pz l[i]
  ·rw[if_pos hc] at hk;have d1:(s.next b:Int)<m.g.aB:=hc.1;have d2:(eG pz l[i]:Int)>(o.1:Int):=by omega
   simp only[d1,d2,decide_true,Bool.and_self,ao];exact ih _ (by omega) hk
  ·rw[if_neg hc] at hk;by_cases d1:(s.next b:Int)<m.g.aB
   ·have d2:¬(eG pz l[i]:Int)>(o.1:Int):=fun h=>hc ⟨d1,by omega⟩
    simp only[d1,d2,decide_true,decide_false,Bool.and_false,ah];exact ih _ (by omega) hk
   ·simp only[d1,decide_false,Bool.false_and,ah];exact ih _ (by omega) hk
theorem aaZ (hm:dz B L m) (hg:m.g.In) {pg pc Nt:Nat} {pz:List (Rf×Nat)} {uq spq:Oq} {uc spn spc:Nat} {Kr:PS} {Ke:NS}:∀(k i:Nat) (s:FS) (o:Nat×Int) {H:ai},i+k=m.g.us.length→bo m.g s→fZ B H aK fid mid pid m s (IR uq uc (cZ m.g.us)::iN pg (lY pz) pc::L)→((fM m.g (eG pz) (m.g.us.drop i) s o).2.1=0→bo m.g (fM m.g (eG pz) (m.g.us.drop i) s o).1→∀H',fZ B H' aK fid mid pid m (fM m.g (eG pz) (m.g.us.drop i) s o).1 (IR uq uc (cZ m.g.us)::iN pg (lY pz) pc::L)→Ke 0 (St.mk (ab [(10,tp (some (pid,0))),(12,tp (some (fid,0))),(14,ti (fM m.g (eG pz) (m.g.us.drop i) s o).2.2.2)]) (ab []) H'))→((fM m.g (eG pz) (m.g.us.drop i) s o).2.1≠0→bo m.g (fM m.g (eG pz) (m.g.us.drop i) s o).1→∀H',fZ B H' aK fid mid pid m (fM m.g (eG pz) (m.g.us.drop i) s o).1 (IR uq uc (cZ m.g.us)::iN pg (lY pz) pc::L)→Kr (St.mk (ab [(6,tp none),(7,ti (fM m.g (eG pz) (m.g.us.drop i) s o).2.1)]) (ab []) H'))→lo 37 12 (St.mk (ab [(0,tp (some (aK,0))),(4,T.lp 4 0),(8,T.lp 8 0),(10,tp (some (pid,0))),(12,tp (some (fid,0))),(13,T.v (V.int .u64 (o.1:Int))),(14,ti o.2),(53,ts uq m.g.us.length uc),(54,ti (m.g.us.length:Int)),(55,ti (i:Int))]) (ab [(4,Eh m),(8,T6 mid pg Nt spq spn spc)]) H) Kr Ke
 |0,i,s,o,H,hi,hok,h,k1,k2=>by
  obtain rfl:i=m.g.us.length:=by omega
  unfold Eh T6;rw[JD,decide_eq_false (by omega),ah];rw[drop_length] at k1;exact k1 rfl hok H h
 |k+1,i,s,o,H,hi,hok,h,k1,k2=>by
  have hlt:i<m.g.us.length:=by omega
  have Lm:=cy.kN m.g hg.b.2;obtain⟨b,hbe⟩:∃b,b=m.g.us[i]:=⟨_,rfl⟩;have hb:b∈m.g.us:=by rw[hbe];exact getElem_mem hlt
  have Bq:=hok.lt hb;have Ns:b<s.f.pm.nb:=by have:=nU hb;have:=hok.nb;omega
  obtain⟨s1,s2,s3⟩:=(aA.ta (h.ord [4])).at (i:=i) (by simpa using hlt);simp only[Nat.mul_one] at s2 s3;have e1:(cZ m.g.us)[i]'(by simpa using hlt)=(b:Int):=by simp [cZ,hbe]
  rw[e1] at s3;rw[drop_eq_getElem_cons hlt, ←hbe,fM] at k1 k2;have ih:=fun s o H=>aaZ (Kr:=Kr) (Ke:=Ke) (Nt:=Nt) (spq:=spq) (spn:=spn) (spc:=spc) hm hg k (i+1) s o (H:=H) (pz:=pz) (pg:=pg) (pc:=pc) (uq:=uq) (uc:=uc)
  have hfl:(s.a.bs.getD b fp)=s.a.bs[b]:=by rw[getD_eq_getElem?_getD,List.getElem?_eq_getElem Bq];rfl
  have mq:((s.a.bs[b]'Bq).pg.length)=s.next b:=by unfold FS.next;rw[hfl]
  rw[hfl] at k1 k2;unfold Eh T6 at*;have a1:(i:Int)<(m.g.us.length:Int):=by omega
  have a2:(0:Int)≤(i:Int):=by omega
  have a3:IntKind.i64.wrap ((i:Int)+1)=((i+1:Nat):Int):=aL (by omega);have aer:(cZ m.g.us).length=m.g.us.length:=gP _;rw[JD];simp only[a1,a2,decide_true,ao,s1,s2,s3,Int.toNat_natCast,Nat.mul_one,AN,a3];rw[Iw (fZ.arr h) Bq];simp only[AN];by_cases hf:(s.a.bs[b]).aV=true
  ·simp only[hf,if_true] at k1 k2;rw[hf,ao];refine lf (hw:=3) h.po hok.po (hok.how hb) (by omega) (fun e H1 h1=> ?_);simp only[AN];exact ih _ o _ (by omega) (hok.bG hg hb (by omega)) (h1.ord [1,1]) k1 k2
  simp only[hf,Bool.false_eq_true,if_false] at k1 k2;rw[Bool.not_eq_true] at hf;rw[hf,ah,uT (fZ.arr h) Bq,mq];simp only[AN];by_cases hn:s.next b=0
  ·rw[if_pos hn] at k1 k2;have hn':(s.next b:Int)=0:=by omega
   simp only[hn',decide_true,ao];exact ih _ o _ (by omega) hok h k1 k2
  rw[if_neg hn] at k1 k2;have hn':¬(s.next b:Int)=0:=by omega
  simp only[hn',decide_false,ah];refine lf (hw:=1) h.po hok.po (hok.how hb) (by omega) (fun e H1 h1=> ?_);have E0:fZ B H1 aK fid mid pid m (s.bG b 1) (IR uq uc (cZ m.g.us)::iN pg (lY pz) pc::L):=h1.ord [1,1];have gn:=hok.bG hg hb (h:=1) (by omega);have g1:=xo E0;simp only[isSome_some,Nat.zero_add,g1.i 6 (by omega),g1.c6,AN];rw[nP (fZ.pm E0) Ns];simp only[AN];by_cases hc:s.f.pm.eu b=0
  ·rw[if_pos hc] at k1 k2;have rW:((s.bG b 1).f.pm.eu b:Int)=0:=by show (s.f.pm.eu b:Int)=0;omega
   simp only[rW,decide_true,ao];refine wm ((hm.bK _).bK _) hg E0 gn hb (fun H2 h2=> ?_);simp only[AN];by_cases he:(bN (s.bG b 1) b).2=0
   ·rw[if_pos he] at k1 k2;simp only[he,decide_true,Bool.not_true,ah];exact ih _ o _ (by omega) (gn.bN hg hb) h2 k1 k2
   ·rw[if_neg he] at k1 k2;simp only[he,decide_false,Bool.not_false,ao];exact k2 he (gn.bN hg hb) H2 h2
  ·rw[if_neg hc] at k1 k2;have rW:¬((s.bG b 1).f.pm.eu b:Int)=0:=by show¬(s.f.pm.eu b:Int)=0;omega
   simp only[rW,decide_false,ah,g1.i 6 (by omega),g1.c6,AN];refine Ps E0.pm gn.pm Ns (fun q2 c2 H2 h2=> ?_);simp only[AN]
   have Q9:(s.f.pm.on b).length≤1000000:=by
    unfold Pm.on;split
    ·simp
    ·have:=length_filterMap_le (fun p=>if s.f.pm.by b p>0 then some (s.f.pm.by b p-1) else none) ((List.range 32).drop 0);simp only[length_drop,length_range] at this;unfold Nj;exact Nat.le_trans this (by omega)
   have:=T7 (s:=s.bG b 1) (m:=m) (Kr:=fun _=>False) (n53:=m.g.us.length) (c53:=uc) (q53:=uq) (t54:=(m.g.us.length:Int)) (t55:=(i:Int)) (Nt:=Nt) (spq:=spq) (spn:=spn) (spc:=spc) (aK:=aK) (fid:=fid) (mid:=mid) (pid:=pid) (pg:=pg) (pc:=pc) (pz:=pz) (q90:=q2) (c90:=c2) (L:=IR uq uc (cZ m.g.us)::L) (B:=B) (H:=H2) (b:=b) Bq (s.f.pm.on b) (fun a ha=>(vc hok.pm ha).1) Q9
    (h2.ord [2,1,1,1,0,1]) (Ke:= ?_) (s.f.pm.on b).length 0 o (by omega) ?_
   ·exact this
   ·unfold Eh T6;have hkk:aM nH (db (some (mid,0)) (some pg) (Nt:Int) spq spn spc)=true:=rfl;have hgg:aM zq (dI m.g.aG m.g.aB m.g.aI m.q m.g.bM.length m.c)=true:=rfl;simp only[AN,reduceIte,Nat.reduceEqDiff,a3,hkk,hgg];exact ih _ _ _ (by omega) gn (h2.drop.ord [1]) k1 k2
theorem ry (g:cy):g.us.Pairwise (· < ·):=by
 unfold cy.us;exact(pairwise_lt_range.sublist (drop_sublist 2 _)).sublist filter_sublist
theorem PD {g:cy} (hg:g.In):∀b∈g.us,b<64:=fun b hb=>by
 have:=nU hb;have:=hg.b;omega
theorem Ei {M:Nat}:∀(l:List Fd) (m:Nat),m≤M→(∀f∈l,f.s.seq≤M)→nQ m l≤M
 |[],m,hm,h=>hm
 |f::l,m,hm,h=>Ei l _ (Nat.max_le.2 ⟨hm,h f mem_cons_self⟩) (fun x hx=>h x (mem_cons_of_mem _ hx))
theorem Ca {i:Nat} {cap:Int} {f:Fd}:∀{l:List (List UInt8)} {p:Nat},f∈iC i cap l p→∃d∈l,fq d=some f.s
 |d::l,p,h=>by
  rw[iC] at h
  have ih:f∈iC i cap l (p+1)→∃d'∈d::l,fq d'=some f.s:=fun h=>by
   obtain⟨d',hd,e⟩:=Ca h;exact⟨d',mem_cons_of_mem _ hd,e⟩
  split at h
  ·exact ih h
  ·split at h
   ·rename_i s hs hc;rcases mem_cons.1 h with rfl|h
    ·exact⟨d,mem_cons_self,hs⟩
    ·exact ih h
   ·exact ih h
theorem Wz {a:Ar} {g:cy} {i:Nat} {f:Fd} (hf:f∈a.fd g i):f.s.seq<281474976710656:=by
 unfold Ar.fd Bk.eT at hf;split at hf
 ·cases hf
 ·obtain⟨d,_,e⟩:=Ca hf;exact(tf e).1.seq
theorem zS {x:Nat} {f:Fd}:∀{l:List Fd},jK x l=some f→f∈l∧f.s.au=x
 |y::l,h=>by
  rw[jK] at h;split at h
  ·rename_i e;cases h;exact⟨mem_cons_self,e⟩
  ·exact⟨mem_cons_of_mem _ (zS h).1,(zS h).2⟩
theorem Mh {g:cy} (hg:g.In) (hc:0≤g.cap∧g.cap<65000) {pg:List Fd} (h:∀x f,jK x pg=some f→Ma g f):(qx g pg).ok:=by
 refine⟨fun b p hm=> ?_,by simp [qx];omega,by show g.aG.toNat≤64;have:=hg.b;omega⟩;obtain⟨x,_,he⟩:=mem_map.1 hm
 cases hgf:jK x pg with
 |none=>rw[hgf] at he;cases he
 |some f=>
  rw[hgf] at he;cases he;have:=h x f hgf;exact⟨by show f.b<g.aG.toNat;omega,this.2.2⟩
theorem KE (l:List Nat):(l.map fun b=>(b,0)).map Prod.fst=l:=by
 rw[List.map_map];exact List.map_id _
theorem PE {g:cy} (hg:g.In) (hc:0≤g.cap∧g.cap<65000) {a:Ar} (hr:a.rd g) (E7:∀x f,jK x (a.Bg g)=some f→Ma g f) {ep:Nat} (he:ep<281474976710656):bo g (FS.xZ g a ep) where
 n:=hr.n
 p:=hr.p
 len:=fun b hb=>by rw[←hr.p];exact hr.len b hb
 d:=hr.d
 pm:=Mh hg hc E7
 nb:=by show ((g.aG.toNat:Nat):Int)=_;have:=hg.b;omega
 na:=by show (((qx g (a.Bg g)).cx.length:Nat):Int)=_;simp [qx];omega
 po:={
  lt:=by show ((g.us.map fun b=>(b,0)).map Prod.fst).Pairwise _;rw[KE];exact ry g
  b:=fun x hx=>by
   obtain⟨b,hb,rfl⟩:=mem_map.1 hx;exact PD hg b hb
  h:=fun x hx=>by
   obtain⟨b,hb,rfl⟩:=mem_map.1 hx
   exact Nat.zero_le _}
 us:=KE _
 seq:=by
  have:nQ 0 (g.us.flatMap (a.fd g))≤281474976710656:=Ei _ _ (Nat.zero_le _) (fun f hf=>by
   obtain⟨i,_,hf⟩:=mem_flatMap.1 hf
   exact Nat.le_of_lt (Wz hf))
  show nQ 0 (g.us.flatMap (a.fd g))<_
  omega
 ep:=by show ep<_;omega
theorem zT {g:cy} (hg:g.In) {sq:Int→Nat}:∀(l:List Nat) (s:FS) (o:Nat×Int),(∀b∈l,b∈g.us)→bo g s→(o.2<0∨o.2.toNat∈g.us)→bo g (fM g sq l s o).1∧((fM g sq l s o).2.2.2<0∨(fM g sq l s o).2.2.2.toNat∈g.us)
 |[],s,o,hl,hok,ho=>⟨hok,ho⟩
 |b::l,s,o,hl,hok,ho=>by
  have hb:=hl b mem_cons_self;have CQ:∀b∈l,b∈g.us:=fun b hb=>hl b (mem_cons_of_mem _ hb)
  have h1:∀(l:List Int) (o:Nat×Int),(o.2<0∨o.2.toNat∈g.us)→((Mg g sq b (s.next b) l o).2<0∨(Mg g sq b (s.next b) l o).2.toNat∈g.us):=fun l=>by
   induction l with
   |nil=>exact fun o h=>h
   |cons a l ih=>
    intro o h;rw[Mg];split
    ·exact ih _ (.inr (by simpa using hb))
    ·exact ih _ h
  rw[fM];split
  ·exact zT hg l _ o CQ (hok.bG hg hb (by omega)) ho
  split
  ·exact zT hg l _ o CQ hok ho
  have gn:=hok.bG hg hb (h:=1) (by omega);split
  ·split
   ·exact zT hg l _ o CQ (gn.bN hg hb) ho
   ·exact⟨gn.bN hg hb,ho⟩
  ·exact zT hg l _ _ CQ gn (h1 _ _ ho)
theorem Mi {g:cy} (hg:g.In) {sq:Int→Nat} {a:Ar} {ep:Nat} (h:bo g (FS.xZ g a ep)):bo g (cK g sq a ep).1:=by
 have:=zT hg (sq:=sq) g.us _ (0, -1) (fun b hb=>hb) h (.inl (by decide));unfold cK;simp only;split
 ·split
  ·rename_i h0;exact this.1.bG hg (this.2.resolve_left (by omega)) (by omega)
  ·exact this.1
 ·exact this.1
theorem Mj {a:Ar} (h:aA B H (cS aK a::L)) (hm:dz B L m) (hf:m.g.df=true) (hg:m.g.In) (hr:a.rd m.g) (hc:0≤m.g.cap∧m.g.cap<65000) {ep:Nat} (Rc:1≤ep∧ep<281474976710656) (k1:∀pz fid mid pid H',xX pz=a.Bg m.g→Bj m.g pz→(cK m.g (eG pz) a ep).2=0→bo m.g (cK m.g (eG pz) a ep).1→fZ B H' aK fid mid pid m (cK m.g (eG pz) a ep).1 L→K (.tuple [.ay (some (fid,0)),vi 0]) H') (k2:∀pz H',xX pz=a.Bg m.g→Bj m.g pz→(cK m.g (eG pz) a ep).2≠0→bo m.g (cK m.g (eG pz) a ep).1→aA B H' (cS aK (cK m.g (eG pz) a ep).1.a::L)→K (.tuple [.ay none,vi (cK m.g (eG pz) a ep).2]) H'):cl 37 [.ay (some (aK,0)),m.v,.int .u64 (ep:Int)] H K:=by
 have hv:m.v=.agg (dI m.g.aG m.g.aB m.g.aI m.q m.g.bM.length m.c):=rfl;have rO:∀i∈m.g.us,i<a.bs.length:=fun i hi=>by have:=nU hi;have:=hr.n;omega
 have vz:m.g.us.Nodup:=(ry m.g).imp (fun h=>Nat.ne_of_lt h);have Lm:=cy.kN m.g hg.b.2;rw[hv,acv, ←hv];have e1:¬(ep:Int)<1:=by omega
 have e2:¬(ep:Int)≥281474976710656:=by omega
 simp only[e1,e2,decide_false,Bool.not_false,cond_true,ah];refine Pv h hm hf hg hr rO vz hc (fun mid pg zs pz pc q sc H1 E7 aes EZ h1=> ?_);have hfit:aM nH (db (some (mid,0)) (some pg) (a.Mb m.g:Int) q (AO m.g.us (a.Sk m.g)).2.length sc)=true:=rfl;simp only[hfit,AN];have hms:∀A1 A2 A3 A4 A5:cw,dz B (A1::A2::A3::A4::A5::L) m:=fun A1 A2 A3 A4 A5=>((((hm.bK _).bK _).bK _).bK _).bK _
 refine jJ h1 (hms _ _ _ _ _) hg (fun uq uc H2 h2=> ?_);simp only[AN];have hPN:=Sp (K:= ?_) (c:=uc) h2 (l:=m.g.us) (q:=uq) (fun H h=>aA.ta h) (ry m.g) (PD hg) (by omega) ?_
 ·exact hPN
 intro pid H3 h3;simp only[AN]
 have hok:=PE hg hc hr (fun y f hf=>by
  have hf:=(zS hf).1;rw[←E7] at hf;obtain⟨z,hz,rfl⟩:=mem_map.1 hf
  exact EZ.b z hz) (ep:=ep) (by omega)
 have h4:=h3.alloc 120 (UR (some (aK,0)) m.g.aG m.g.aB m.g.aI m.q m.g.bM.length m.c (ep:Int) (some (mid,0)) (some (pid,0)) (a.Mb m.g:Int));obtain⟨fid,Ng⟩:∃p,p=H3.next:=⟨_,rfl⟩;have abH:H3.2=fid:=Ng.symm;rw[←Ng] at h4;rw[abH];simp only[xh,UO,UQ,AN];generalize (ai.alloc H3 _)=H4 at h4⊢;have hS:fZ B H4 aK fid mid pid m (FS.xZ m.g a ep) (iN pg (lY pz) pc::L):=(h4.ord [2,4,4,0,1,0,1]).drop.drop.drop;refine jJ hS (hms _ _ _ _ _) hg (fun uq2 uc2 H5 h5=> ?_);simp only[AN];have hM:=Mi hg (sq:=eG pz) hok;have xP:cK m.g (eG pz) a ep=(let r:=fM m.g (eG pz) m.g.us (FS.xZ m.g a ep) (0, -1);if r.2.1=0 then (if 0≤r.2.2.2 then (r.1.bG r.2.2.2.toNat 2,0) else (r.1,0)) else (r.1,r.2.1)):=rfl;simp only at xP;have ad7:=zT hg (sq:=eG pz) m.g.us _ (0, -1) (fun b hb=>hb) hok (.inl (by decide));have hL:=aaZ (m:=m) (aK:=aK) (fid:=fid) (mid:=mid) (pid:=pid) (L:=L) (B:=B) hm hg (pg:=pg) (pc:=pc) (Nt:=a.Mb m.g) (pz:=pz) (uq:=uq2) (spq:=q) (uc:=uc2) (spn:=(AO m.g.us (a.Sk m.g)).2.length) (spc:=sc) (Kr:= ?_) (Ke:= ?_) m.g.us.length 0 (FS.xZ m.g a ep) (0, -1) (H:=H5) (by omega) hok (h5.ord [1,1,1,1]) ?_ ?_
 ·exact hL
 ·rw[drop_zero];intro h0 fH H6 h6;simp only[AN,reduceIte,Nat.reduceEqDiff];rw[if_pos h0] at xP;by_cases hop:0≤(fM m.g (eG pz) m.g.us (FS.xZ m.g a ep) (0, -1)).2.2.2
  ·rw[if_pos hop] at xP;have Xu:(fM m.g (eG pz) m.g.us (FS.xZ m.g a ep) (0, -1)).2.2.2≥0:=hop;simp only[Xu,decide_true,ao];have hbu:=ad7.2.resolve_left (by omega);have ebb:(fM m.g (eG pz) m.g.us (FS.xZ m.g a ep) (0, -1)).2.2.2=(((fM m.g (eG pz) m.g.us (FS.xZ m.g a ep) (0, -1)).2.2.2.toNat:Nat):Int):=by omega
   rw[ebb];refine lf (hw:=2) (fZ.po h6) fH.po (fH.how hbu) (by omega) (fun e H7 h7=> ?_);simp only[AN];refine k1 pz fid mid pid H7 E7 EZ (by rw[xP]) hM ?_;rw[xP];exact(h7.ord [4,4]).drop.drop.ord [1,1]
  ·rw[if_neg hop] at xP;have Xu:¬(fM m.g (eG pz) m.g.us (FS.xZ m.g a ep) (0, -1)).2.2.2≥0:=hop;simp only[Xu,decide_false,ah];refine k1 pz fid mid pid H6 E7 EZ (by rw[xP]) hM ?_;rw[xP];exact(h6.ord [4,4]).drop.drop
 ·rw[drop_zero];intro h0 fH H6 h6;simp only[AN,reduceIte,Nat.reduceEqDiff];rw[if_neg h0] at xP;refine(congrArg (fun e=>K (V.tuple [V.ay none,vi e]) H6) (congrArg Prod.snd xP)).mp ?_;refine k2 pz H6 E7 EZ (by rw[xP];exact h0) hM ?_;rw[xP];exact(h6.drop.drop.drop.ord [1,1]).drop.drop
end
def Ar.bk (a:Ar) (b:Nat):Bk:=a.bs.getD b fp
def vw (g:cy) (a:Ar):Vw:=fun b=>if b∈g.us then a.fd g b else []
theorem wu {g:cy} {a:Ar} (i:Nat) (h:i∉g.us):vw g a i=[]:=if_neg h
theorem Cb {g:cy} {a:Ar} {i:Nat} (h:i∈g.us):vw g a i=(a.bk i).eT i g.cap:=if_pos h
theorem nV (g:cy):g.us.Nodup:=(ry g).imp (fun h=>Nat.ne_of_lt h)
theorem WA (g:cy) (a:Ar):a.Bg g=eF (AO g.us (g.us.map fun i=>(i,vw g a i))).1 [] g.us:=by
 have:(g.us.map fun i=>(i,vw g a i))=a.Sk g:=map_congr_left fun i hi=>by
  show (i,vw g a i)=(i,a.fd g i)
  rw[show vw g a i=a.fd g i from if_pos hi]
 unfold Ar.Bg;rw[this]
theorem zU (i:Nat) (cap:Int) (d:List UInt8):∀(l:List (List UInt8)) (p:Nat),iC i cap (l++[d]) p=iC i cap l p++iC i cap [d] (p+l.length)
 |[],p=>by simp [iC]
 |e::l,p=>by
  rw[cons_append,iC,iC,zU i cap d l (p+1),length_cons,show p+1+l.length=p+(l.length+1) from by omega];split
  ·rfl
  ·split
   ·rfl
   ·rfl
theorem PG {i:Nat} {cap:Int} {f:Fd} {l:List (List UInt8)} {p:Nat} (h:f∈iC i cap l p):f.s.df∧f.s.da≠3∧∃k,k<l.length∧f.p=p+k∧(l[k]?).map fq=some (some f.s):=by
 induction l generalizing p with
 |nil=>cases h
 |cons d l ih=>
  rw[iC] at h
  have step:f∈iC i cap l (p+1)→f.s.df∧f.s.da≠3∧∃k,k<(d::l).length∧f.p=p+k∧((d::l)[k]?).map fq=some (some f.s):=fun h=>by
   obtain⟨h1,h0,k,h2,h3,h4⟩:=ih h;exact⟨h1,h0,k+1,by rw[length_cons];omega,by omega,by simpa using h4⟩
  split at h
  ·exact step h
  ·rename_i s hs;split at h
   ·rename_i hc;rcases mem_cons.1 h with rfl|h
    ·exact⟨(tf hs).1,hc.1,0,by simp,rfl,by simp [hs]⟩
    ·exact step h
   ·exact step h
theorem oS {g:cy} {a:Ar} {b:Nat} {f:Fd} (h:f∈vw g a b):b∈g.us∧f.b=b∧(a.bk b).cu=false∧f.p<(a.bk b).pg.length∧((a.bk b).pg[f.p]?).map fq=some (some f.s)∧f.s.df∧f.s.da≠3∧(f.s.au:Int)≤g.cap:=by
 unfold vw at h;split at h
 ·rename_i hb;unfold Ar.fd Bk.eT at h;split at h
  ·cases h
  ·rename_i hh;obtain⟨h1,h0,k,h2,h3,h4⟩:=PG h;obtain⟨i1,i2,i3,i4⟩:=Ea h;rw[Nat.zero_add] at h3;exact⟨hb,i1,by simpa [Ar.bk] using hh,by rw[h3];exact h2,by rw[h3];exact h4,h1,h0,i4⟩
 ·cases h
structure vC (a a':Ar) (b:Nat) (k:Bk):Prop where
 bs:a'.bs=a.bs.set b k
 aB:a'.aB=a.aB
structure Hy (a a':Ar) (b:Nat) (k:Bk):Prop extends vC a a' b k where
 aR:a'.aR=a.aR
 boots:a'.boots=a.boots
 arm:a.bD≤0→a'.bD≤0∧a'.off=a.off
theorem vC.bk {a a':Ar} {b:Nat} {k:Bk} (h:vC a a' b k) (hb:b<a.bs.length) (i:Nat):a'.bk i=if i=b then k else a.bk i:=by
 unfold Ar.bk;rw[h.bs,getD_eq_getElem?_getD,List.getElem?_set];by_cases hi:b=i
 ·subst hi;simp [hb]
 ·have:¬i=b:=fun e=>hi e.symm
  rw[if_neg hi,if_neg this,getD_eq_getElem?_getD]
theorem vC.vw {g:cy} {a a':Ar} {b:Nat} {k:Bk} (h:vC a a' b k) (hb:b<a.bs.length) (hu:b∈g.us):vw g a'=fun i=>if i=b then k.eT b g.cap else vw g a i:=by
 funext i;by_cases hi:i∈g.us
 ·rw[Cb hi,h.bk hb];by_cases bx:i=b
  ·subst bx;simp
  ·rw[if_neg bx,if_neg bx,Cb hi]
 ·rw[wu i hi,wu i hi,if_neg (fun e=>hi (by rw[e];exact hu))]
theorem vC.xE {g:cy} {a a':Ar} {b:Nat} {k:Bk} (h:vC a a' b k) (hb:b<a.bs.length) (hu:b∈g.us) (hk:k.eT b g.cap=(a.bk b).eT b g.cap):Go.Proofs.YtlgdkndamddpkaaGreat.vw g a'=Go.Proofs.YtlgdkndamddpkaaGreat.vw g a:=by
 rw[h.vw hb hu,hk];funext i;split
 ·rename_i e;subst e;exact(Cb hu).symm
 ·rfl
theorem zV {a:Ar} {b:Nat} (hb:b<a.bs.length):a.bs[b]? =some (a.bk b):=by
 unfold Ar.bk;rw[getD_eq_getElem?_getD,List.getElem?_eq_getElem hb];rfl
theorem bO (k:Bk):(aH k).cu=k.cu:=by unfold aH;split<;>rfl
theorem dZ (k:Bk):(aH k).aV=k.aV:=by unfold aH;split<;>rfl
theorem vd (k:Bk) (i:Nat) (cap:Int):(aH k).eT i cap=k.eT i cap:=by
 unfold Bk.eT;rw[bO,bF]
theorem Gz {k:Bk} (h1:k.doom≤0) (h2:k.bd=false):aH k=k:=by
 unfold aH;rw[if_neg (by omega)]
theorem lu {a:Ar} {b:Nat} (k:Bk) {k':Bk} {a':Ar} (Xg:a'.bs=(bE a b k).bs.set b k') (hp:a'.aB=a.aB) (hf:a'.aR=a.aR) (hb:a'.boots=a.boots) (ha:a'.bD=(bE a b k).bD) (ho:a'.off=(bE a b k).off):Hy a a' b k' where
 bs:=by rw[Xg];show (a.bs.set b (aH k)).set b k'=_;rw[set_set]
 aB:=hp
 aR:=hf
 boots:=hb
 arm:=fun h=>by
  rw[ha,ho];have:¬a.bD>0:=by omega
  exact⟨by show (if a.bD>0 then _ else _)≤0;rw[if_neg this];exact h,by show (if a.bD>0 then _ else _)=_;rw[if_neg this]⟩
theorem PH {a:Ar} {b:Nat} {d:List UInt8} {e:Int} (hb:b<a.bs.length) (ho:a.off=false) (hp:((a.bk b).pg.length:Int)<a.aB) (hd:d.length=96) (hh:(a.bk b).cu=false) (hf:a.aR≤e):∃a' r,fR a b (a.bk b).pg.length d e=(a',r)∧((r=0∧a'.off=false∧(aH (a.bk b)).bd=false∧a'.way=a.way∧Hy a a' b {aH (a.bk b) with pg:=(a.bk b).pg++[d]})∨(r=8∧a'.off=false∧(aH (a.bk b)).bd=true∧a'.way=a.way∧Hy a a' b {aH (a.bk b) with pg:=(a.bk b).pg++[fL d 0],aV:=true})∨(r=9∧a'.off=true∧a.bD>0∧a'.way=.prog b d∧Hy a a' b (aH (a.bk b)))):=by
 have hnp:¬a.aB≤(((a.bk b).pg.length:Nat):Int):=by omega
 have vz:¬d.length≠96:=by omega
 have hnf:¬e<a.aR:=by omega
 have h6:¬((a.bk b).pg.length≠(a.bk b).pg.length∨(a.bk b).cu=true):=by simp [hh]
 unfold fR;rw[if_neg (by simp [ho]),if_neg hnp,if_neg vz,zV hb];simp only;rw[if_neg h6,if_neg hnf];by_cases h1:(bE a b (a.bk b)).off=true
 ·rw[if_pos h1]
  have E1:a.bD>0:=by
   by_cases E1:a.bD>0
   ·exact E1
   ·have:(bE a b (a.bk b)).off=a.off:=by show (if a.bD>0 then _ else _)=_;rw[if_neg E1]
    rw[this,ho] at h1;cases h1
  refine⟨_,_,rfl,.inr (.inr ⟨rfl,h1,E1,rfl,lu (a.bk b) ?_ rfl rfl rfl rfl rfl⟩)⟩;show a.bs.set b _=(a.bs.set b _).set b _
  rw[set_set]
 ·rw[if_neg h1];have xu:(bE a b (a.bk b)).off=false:=by simpa using h1
  by_cases h2:(aH (a.bk b)).bd=true
  ·rw[if_pos h2];exact⟨_,_,rfl,.inr (.inl ⟨rfl,xu,h2,rfl,lu (a.bk b) rfl rfl rfl rfl rfl rfl⟩)⟩
  ·rw[if_neg h2];exact⟨_,_,rfl,.inl ⟨rfl,xu,by simpa using h2,rfl,lu (a.bk b) rfl rfl rfl rfl rfl rfl⟩⟩
theorem Mk {a:Ar} {b:Nat} {e:Int} (hb:b<a.bs.length) (ho:a.off=false) (hf:a.aR≤e):∃a' r,ej a b e=(a',r)∧((r=0∧a'.off=false∧(aH (a.bk b)).bd=false∧a'.way=a.way∧Hy a a' b (v9 (aH (a.bk b))))∨(r=8∧a'.off=false∧(aH (a.bk b)).bd=true∧a'.way=a.way∧Hy a a' b {aH (a.bk b) with aV:=true})∨(r=9∧a'.off=true∧a.bD>0∧a'.way=.er b (aH (a.bk b)).bd∧Hy a a' b (aH (a.bk b)))):=by
 have hnf:¬e<a.aR:=by omega
 unfold ej;rw[if_neg (by simp [ho]),if_neg hnf,zV hb];simp only;by_cases h1:(bE a b (a.bk b)).off=true
 ·rw[if_pos h1]
  have E1:a.bD>0:=by
   by_cases E1:a.bD>0
   ·exact E1
   ·have:(bE a b (a.bk b)).off=a.off:=by show (if a.bD>0 then _ else _)=_;rw[if_neg E1]
    rw[this,ho] at h1;cases h1
  refine⟨_,_,rfl,.inr (.inr ⟨rfl,h1,E1,rfl,lu (a.bk b) ?_ rfl rfl rfl rfl rfl⟩)⟩;show a.bs.set b _=(a.bs.set b _).set b _
  rw[set_set]
 ·rw[if_neg h1];have xu:(bE a b (a.bk b)).off=false:=by simpa using h1
  by_cases h2:(aH (a.bk b)).bd=true
  ·rw[if_pos h2];exact⟨_,_,rfl,.inr (.inl ⟨rfl,xu,h2,rfl,lu (a.bk b) rfl rfl rfl rfl rfl rfl⟩)⟩
  ·rw[if_neg h2];exact⟨_,_,rfl,.inl ⟨rfl,xu,by simpa using h2,rfl,lu (a.bk b) rfl rfl rfl rfl rfl rfl⟩⟩
theorem Ml {k:Bk} {b:Nat} {cap:Int} {s:Sh} (hk:k.cu=false) (hs:s.df) (h3:s.da≠3) (hc:(s.au:Int)≤cap) {k':Bk} (hh:k'.cu=false) (hp:k'.pg=k.pg++[eE s]):k'.eT b cap=k.eT b cap++[⟨b,k.pg.length,s⟩]:=by
 unfold Bk.eT;rw[hh,hk,hp];simp only[Bool.false_eq_true,if_false];rw[zU];simp [iC,Iz hs,h3,hc]
theorem tw {k:Bk} {b:Nat} {cap:Int} {d:List UInt8} (hn:fq d=none) {k':Bk} (hh:k'.cu=k.cu) (hp:k'.pg=k.pg++[d]):k'.eT b cap=k.eT b cap:=by
 unfold Bk.eT;rw[hh,hp];split
 ·rfl
 ·rw[zU];simp [iC,hn]
theorem Cc {k:Bk} {b:Nat} {cap:Int} (h:k.pg=[]∨k.cu=true):k.eT b cap=[]:=by
 unfold Bk.eT;rcases h with h|h
 ·rw[h];simp [iC]
 ·rw[if_pos h]
theorem Cd {b h:Nat} (b':Nat):∀{l:List (Nat×Nat)},(fN b l).isSome=true→fN b' (qy b h l)=if b'=b then some h else fN b' l
 |[],hs=>by cases hs
 |x::l,hs=>by
  rw[qy];by_cases hx:x.1=b
  ·rw[if_pos hx,fN];by_cases hb:b'=b
   ·subst hb;simp [hx]
   ·rw[if_neg hb,if_neg (by show¬x.1=b';omega),fN,if_neg (by omega)]
  ·rw[fN,if_neg hx] at hs;rw[if_neg hx,fN];by_cases X5:x.1=b'
   ·rw[if_pos X5,if_neg (by omega),fN,if_pos X5]
   ·rw[if_neg X5,Cd b' hs,fN,if_neg X5]
theorem fI {p:Po} {b h:Nat} (b':Nat) (hs:(p.how b).isSome=true):(p.cF b h).how b'=if b'=b then some h else p.how b':=Cd b' hs
theorem tx {b h w k:Nat}:∀{l:List (Nat×Nat)},fN b l=some w→(qy b h l).countP (fun x=>decide (x.2=k))+(if w=k then 1 else 0)=l.countP (fun x=>decide (x.2=k))+(if h=k then 1 else 0)
 |[],hs=>by cases hs
 |x::l,hs=>by
  rw[fN] at hs;rw[qy];by_cases hx:x.1=b
  ·rw[if_pos hx] at hs⊢;cases hs;rw[countP_cons,countP_cons];simp only[decide_eq_true_eq];omega
  ·rw[if_neg hx] at hs⊢;have:=tx (h:=h) (k:=k) hs;rw[countP_cons,countP_cons];omega
theorem eX {p:Po} {b h w:Nat} (k:Nat) (hs:p.how b=some w):(p.cF b h).count k+(if w=k then 1 else 0)=p.count k+(if h=k then 1 else 0):=tx hs
theorem ve {b h:Nat}:∀{l:List (Nat×Nat)},fN b l=some h→(b,h)∈l
 |x::l,hs=>by
  rw[fN] at hs;split at hs
  ·rename_i e;cases hs;rw[←e];exact mem_cons_self
  ·exact mem_cons_of_mem _ (ve hs)
theorem vf {b h:Nat}:∀{l:List (Nat×Nat)},(l.map Prod.fst).Nodup→(b,h)∈l→fN b l=some h
 |x::l,hn,hm=>by
  rw[map_cons,nodup_cons] at hn;rw[fN];rcases mem_cons.1 hm with rfl|hm
  ·rw[if_pos rfl]
  ·rw[if_neg (fun e=>hn.1 (by rw[e];exact mem_map.2 ⟨_,hm,rfl⟩))];exact vf hn.2 hm
theorem zW:∀{l:List (Nat×Nat)} (k:Nat),(l.map Prod.fst).Nodup→l.countP (fun x=>decide (x.2=k))=(l.map Prod.fst).countP (fun b=>decide (fN b l=some k))
 |[],k,_=>rfl
 |x::l,k,hn=>by
  rw[map_cons,nodup_cons] at hn;rw[countP_cons,map_cons,countP_cons,zW k hn.2];have e1:fN x.1 (x::l)=some x.2:=by rw[fN,if_pos rfl]
  have e2:(l.map Prod.fst).countP (fun b=>decide (fN b l=some k))=(l.map Prod.fst).countP (fun b=>decide (fN b (x::l)=some k)):=countP_congr (fun b hb=>by
   rw[fN,if_neg (fun e=>hn.1 (by rw[e];exact hb))])
  rw[e1, ←e2];simp
theorem wv {p:Po} (hp:p.ok) {us:List Nat} (hu:p.bl.map Prod.fst=us) (k:Nat):p.count k=us.countP (fun b=>decide (p.how b=some k)):=by
 have:=zW k hp.Gt;rw[hu] at this;exact this
theorem x7 {p:Po} (hp:p.ok) {b:Nat} (h:p.kF=some b):p.how b=some 2:=vf hp.Gt (qz h)
theorem qC {p:Po}:p.kF=none↔p.count 2=0:=by
 unfold Po.kF Po.count
 induction p.bl with
 |nil=>simp [Eb]
 |cons x l ih=>
  rw[Eb,countP_cons];by_cases h:x.2=2
  ·simp [h]
  ·simp [h,ih]
theorem fY {p:Po} {b h:Nat} (hs:p.how b≠some 3) (ho:h≠2∨p.count 2=0):p.set b h=p.cF b h:=by
 unfold Po.set;rw[if_neg (fun e=>hs e.1)];split
 ·rename_i e;rw[Po.jL,qC.2 (ho.resolve_left (fun h=>h e))]
 ·rfl
theorem WB {p:Po} (hp:p.ok) {b h:Nat} (hs:p.how b=some h):h≤3:=hp.h _ (ve hs)
theorem qD {h:Nat} {w:List Int}:∀{l:List (Nat×Nat)} {o:Option Nat},gw h w l o=none→o=none∧∀x∈l,x.2=h→w.length≤x.1
 |[],o,hn=>⟨hn,fun x hx=>by cases hx⟩
 |x::l,o,hn=>by
  rw[mN] at hn;split at hn
  ·rename_i hx;obtain⟨h1,h2⟩:=qD hn;refine⟨h1,fun y hy e=> ?_⟩;rcases mem_cons.1 hy with rfl|hy
   ·exact hx.resolve_left (fun h=>h e)
   ·exact h2 y hy e
  ·have:∀b,gw h w l (some b)≠none:=fun b hb=>by cases (qD hb).1
   cases o with
   |none=>exact absurd hn (this _)
   |some b=>
    simp only at hn;split at hn
    ·exact absurd hn (this _)
    ·exact absurd hn (this _)
theorem l6 {h:Nat} {w:List Int} {b:Nat}:∀{l:List (Nat×Nat)} {o:Option Nat},gw h w l o=some b→(∀c,o=some c→w.getD b 0≤w.getD c 0)∧∀x∈l,x.2=h→x.1<w.length→w.getD b 0≤w.getD x.1 0
 |[],o,hn=>⟨fun c hc=>by rw[gw] at hn;rw[hn] at hc;cases hc;exact Int.le_refl _,fun x hx=>by cases hx⟩
 |x::l,o,hn=>by
  rw[mN] at hn;split at hn
  ·rename_i hx;obtain⟨h1,h2⟩:=l6 hn;refine⟨h1,fun y hy e hl=> ?_⟩;rcases mem_cons.1 hy with rfl|hy
   ·rcases hx with hx|hx
    ·exact absurd e hx
    ·omega
   ·exact h2 y hy e hl
  ·cases o with
   |none=>
    obtain⟨h1,h2⟩:=l6 hn;refine⟨fun c hc=>(by cases hc),fun y hy e hl=> ?_⟩;rcases mem_cons.1 hy with rfl|hy
    ·exact h1 _ rfl
    ·exact h2 y hy e hl
   |some b0=>
    simp only at hn;split at hn
    ·rename_i hlt;obtain⟨h1,h2⟩:=l6 hn;have:=h1 _ rfl;refine⟨fun c hc=>(by cases hc;omega),fun y hy e hl=> ?_⟩;rcases mem_cons.1 hy with rfl|hy
     ·exact this
     ·exact h2 y hy e hl
    ·rename_i hlt;obtain⟨h1,h2⟩:=l6 hn;have:=h1 _ rfl;refine⟨fun c hc=>(by cases hc;exact this),fun y hy e hl=> ?_⟩;rcases mem_cons.1 hy with rfl|hy
     ·omega
     ·exact h2 y hy e hl
theorem zX {p:Po} {h:Nat} {w:List Int} {b:Nat} (hb:p.how b=some h) (hl:b<w.length):∃d,p.jc h w=some d:=by
 cases hn:p.jc h w with
 |some d=>exact⟨d,rfl⟩
 |none=>
  have:=(qD hn).2 _ (ve hb) rfl;simp only at this;omega
def Pm.at (m:Pm) (x:Nat):Pl:=m.cx.getD x none
theorem KG {m:Pm} {x:Nat} {o:Nat×Nat} (h:m.at x=some o):x<m.cx.length:=by
 unfold Pm.at at h;rw[getD_eq_getElem?_getD] at h;by_cases hx:x<m.cx.length
 ·exact hx
 ·rw[List.getElem?_eq_none (by omega)] at h;cases h
theorem zY {m:Pm} {x:Nat} (h:x<m.cx.length):m.cx[x]=m.at x:=by
 unfold Pm.at;rw[getD_eq_getElem?_getD,List.getElem?_eq_getElem h];rfl
theorem PI {m:Pm} {x:Nat} {o:Pl} (hx:x<m.cx.length) (y:Nat):(m.put x o).at y=if y=x then o else m.at y:=by
 unfold Pm.at Pm.put;rw[getD_eq_getElem?_getD,List.getElem?_set];by_cases h:x=y
 ·subst h;simp [hx]
 ·rw[if_neg h,if_neg (fun e=>h e.symm),getD_eq_getElem?_getD]
theorem rz {b:Nat} {o:Pl}:vB b o=true↔∃p,o=some (b,p):=by
 cases o with
 |none=>simp [vB]
 |some x=>
  obtain⟨b',p⟩:=x;simp only[vB,some.injEq,Prod.mk.injEq,decide_eq_true_eq];exact⟨fun h=>⟨p,h,rfl⟩,fun⟨_,h,_⟩=>h⟩
theorem qE {m:Pm} {b:Nat} (h:m.eu b=0) (x p:Nat):m.at x≠some (b,p):=by
 intro e;have hx:=KG e;have:=countP_eq_zero.1 h _ (getElem_mem hx);rw[zY hx] at this;exact this (rz.2 ⟨p,e⟩)
theorem x9 {m:Pm} {b:Nat} (h:m.eu b≠0):∃x p,m.at x=some (b,p):=by
 have hp:0<m.eu b:=by omega
 obtain⟨o,ho,hb⟩:=countP_pos_iff.1 hp;obtain⟨x,hx,rfl⟩:=mem_iff_getElem.1 ho;obtain⟨p,hp⟩:=rz.1 hb;exact⟨x,p,by rw[←zY hx];exact hp⟩
theorem PJ {m:Pm} {x v p d q:Nat} (hx:m.at x=some (v,p)) (hd:d≠v):(m.put x (some (d,q))).eu v+1=m.eu v:=by
 have hl:=KG hx;have e1:vB v m.cx[x]=true:=by rw[zY hl];exact rz.2 ⟨p,hx⟩
 have e2:vB v (some (d,q))=false:=by
  rw[←Bool.not_eq_true];intro h;obtain⟨_,h⟩:=rz.1 h;cases h;exact hd rfl
 have hpos:0<m.eu v:=countP_pos_iff.2 ⟨_,getElem_mem hl,e1⟩;show ((m.cx.set x (some (d,q))).countP (vB v))+1=_
 rw[countP_set hl];simp only[e1,e2,if_true,Bool.false_eq_true,if_false];show m.eu v-1+0+1=m.eu v
 omega
theorem zZ (b p:Nat):∀(l:List Pl) (i:Nat) (f:Nat→Int),E4 b l i f p=f p∨∃(j:Nat) (hj:j<l.length),l[j]=some (b,p)∧E4 b l i f p=((i+j+1:Nat):Int)
 |[],i,f=>.inl rfl
 |none::l,i,f=>by
  rw[E4];rcases zZ b p l (i+1) f with h|⟨j,hj,h1,h2⟩
  ·exact .inl h
  ·exact .inr ⟨j+1,by rw[length_cons];omega,by simpa using h1,by rw[h2];congr 1;omega⟩
 |some x::l,i,f=>by
  rw[E4];rcases zZ b p l (i+1) (if x.1=b then D7 f x.2 ((i+1:Nat):Int) else f) with h|⟨j,hj,h1,h2⟩
  ·rw[h];by_cases hx:x.1=b
   ·rw[if_pos hx];by_cases hp:p=x.2
    ·right;refine⟨0,by simp, ?_, ?_⟩
     ·simp only[getElem_cons_zero];rw[←hx,hp]
     ·unfold D7;simp [hp]
    ·left;unfold D7;simp [hp]
   ·rw[if_neg hx];exact .inl rfl
  ·exact .inr ⟨j+1,by rw[length_cons];omega,by simpa using h1,by rw[h2];congr 1;omega⟩
theorem Ej (b p:Nat):∀(l:List Pl) (i:Nat) (f:Nat→Int),(∀k,0≤f k)→(0<f p∨some (b,p)∈l)→0<E4 b l i f p
 |[],i,f,hf,h=>by
  rcases h with h|h
  ·exact h
  ·cases h
 |none::l,i,f,hf,h=>by
  rw[E4];refine Ej b p l (i+1) f hf (h.imp id fun h=> ?_);rcases mem_cons.1 h with h|h
  ·cases h
  ·exact h
 |some x::l,i,f,hf,h=>by
  rw[E4];refine Ej b p l (i+1) _ (fun k=> ?_) ?_
  ·split
   ·unfold D7;cases Nat.beq k x.2
    ·exact hf k
    ·simp only[cond_true];omega
   ·exact hf k
  ·rcases h with h|h
   ·left;split
    ·unfold D7;cases Nat.beq p x.2
     ·exact h
     ·simp only[cond_true];omega
    ·exact h
   ·rcases mem_cons.1 h with h|h
    ·left;have:x=(b,p):=by cases h;rfl
     subst this;simp only[if_true];unfold D7;rw[Nat.beq_refl,cond_true];omega
    ·exact .inr h
theorem Su {m:Pm} {b:Nat} {a:Int} (h:a∈m.on b):∃x p,a=(x:Nat)∧m.at x=some (b,p):=by
 unfold Pm.on at h;split at h
 ·cases h
 ·unfold Nj at h;obtain⟨p,hp,he⟩:=mem_filterMap.1 h;split at he
  ·rename_i hpos;rcases zZ b p m.cx 0 (fun _=>0) with h|⟨j,hj,h1,h2⟩
   ·have:m.by b p=0:=h
    omega
   ·have e:m.by b p=((0+j+1:Nat):Int):=h2
    cases he;exact⟨j,p,by omega,by rw[←zY hj];exact h1⟩
  ·cases he
theorem aa0 {m:Pm} (hm:m.ok) {b:Nat} (h:m.eu b≠0):m.on b≠[]:=by
 obtain⟨x,p,hx⟩:=x9 h;have hl:=KG hx;have hmem:some (b,p)∈m.cx:=by rw[←hx, ←zY hl];exact getElem_mem hl
 have hp:=(hm.pl b p hmem).2;have hpos:0<m.by b p:=Ej b p m.cx 0 (fun _=>0) (fun _=>Int.le_refl _) (.inr hmem)
 unfold Pm.on;rw[if_neg h];unfold Nj;intro hn
 have:m.by b p-1∈(List.range 32).filterMap fun p=>if m.by b p>0 then some (m.by b p-1) else none:=
  mem_filterMap.2 ⟨p,mem_range.2 hp,by rw[if_pos hpos]⟩
 rw[drop_zero] at hn;rw[hn] at this;cases this
theorem Ek {α:Type} (f h:α→Nat):∀l:List α,(∀x∈l,f x≤h x)→(l.map f).sum≤(l.map h).sum
 |[],_=>Nat.le_refl _
 |x::l,hl=>by
  rw[map_cons,map_cons,sum_cons,sum_cons];have:=hl x mem_cons_self;have:=Ek f h l (fun y hy=>hl y (mem_cons_of_mem _ hy));omega
theorem KH {α:Type} (f h:α→Nat):∀l:List α,(l.map fun x=>f x+h x).sum=(l.map f).sum+(l.map h).sum
 |[]=>rfl
 |x::l=>by
  rw[map_cons,map_cons,map_cons,sum_cons,sum_cons,sum_cons,KH f h l];omega
theorem z5 {α:Type} (l:List α):(l.map fun _=>0).sum=0:=by
 induction l with
 |nil=>rfl
 |cons x l ih=>rw[map_cons,sum_cons,ih]
theorem KI {us:List Nat} (hn:us.Nodup):∀l:List Pl,(us.map fun b=>l.countP (vB b)).sum≤l.length
 |[]=>by show (us.map fun _=>0).sum≤0;rw[z5];exact Nat.le_refl _
 |o::l=>by
  have ih:=KI hn l;have e:(us.map fun b=>(o::l).countP (vB b))=us.map fun b=>l.countP (vB b)+(if vB b o=true then 1 else 0):=map_congr_left fun b _=>countP_cons
  rw[e,KH (fun b=>l.countP (vB b))]
  have h1:(us.map fun b=>if vB b o=true then 1 else 0).sum≤1:=by
   cases o with
   |none=>
    have:(us.map fun b=>if vB b none=true then 1 else 0).sum≤(us.map fun _=>0).sum:=Ek _ _ _ (fun b _=>by rw[show vB b none=false from rfl];exact Nat.le_refl _);rw[z5] at this;omega
   |some x=>
    clear e ih
    induction us with
    |nil=>simp
    |cons b us ih=>
     rw[nodup_cons] at hn;rw[map_cons,sum_cons];by_cases hb:vB b (some x)=true
     ·rw[if_pos hb]
      have hz:(us.map fun b=>if vB b (some x)=true then 1 else 0).sum≤(us.map fun _=>0).sum:=Ek _ _ _ (fun b' hb'=>by
       have:¬vB b' (some x)=true:=fun h=>by
        obtain⟨p1,e1⟩:=rz.1 hb;obtain⟨p2,e2⟩:=rz.1 h;rw[e1] at e2;cases e2;exact hn.1 hb'
       rw[if_neg this];exact Nat.le_refl _)
      rw[z5] at hz;omega
     ·rw[if_neg hb];have:=ih hn.2;omega
  rw[length_cons];omega
structure rD (g:cy) (a:Ar) (ds:List Nat):Prop where
 n:(a.bs.length:Int)=g.aG
 p:a.aB=g.aB
 len:∀b∈a.bs,(b.pg.length:Int)≤g.aB
 d:∀b∈a.bs,∀d∈b.pg,d.length=96
 cu:∀b∈g.us,(a.bk b).cu=true→(a.bk b).pg≠[]
 doom:∀b∈g.us,b∉ds→(a.bk b).doom≤0∧(a.bk b).bd=false∧(a.bk b).aV=false
theorem rD.lt {g:cy} {a:Ar} {ds:List Nat} (h:rD g a ds) {b:Nat} (hb:b∈g.us):b<a.bs.length:=by
 have:=nU hb;have:=h.n;omega
theorem jd {a:Ar} {b:Nat} (h:b<a.bs.length):a.bk b∈a.bs:=mem_of_getElem? (zV h)
theorem rD.XR {g:cy} {a a':Ar} {ds:List Nat} {b:Nat} {k:Bk} (h:rD g a ds) (hb:b∈g.us) (he:vC a a' b k) (h1:(k.pg.length:Int)≤g.aB) (h2:∀d∈k.pg,d.length=96) (h3:k.cu=true→k.pg≠[]) (h4:b∉ds→k.doom≤0∧k.bd=false∧k.aV=false):rD g a' ds where
 n:=by rw[he.bs,length_set];exact h.n
 p:=by rw[he.aB];exact h.p
 len:=fun x hx=>by
  rw[he.bs] at hx;rcases mem_or_eq_of_mem_set hx with hx|rfl
  ·exact h.len x hx
  ·exact h1
 d:=fun x hx=>by
  rw[he.bs] at hx;rcases mem_or_eq_of_mem_set hx with hx|rfl
  ·exact h.d x hx
  ·exact h2
 cu:=fun i hi=>by
  rw[he.bk (h.lt hb)];split
  ·exact h3
  ·exact h.cu i hi
 doom:=fun i hi hn=>by
  rw[he.bk (h.lt hb)];split
  ·rename_i e;subst e;exact h4 hn
  ·exact h.doom i hi hn
open Classical in
noncomputable def ku (g:cy) (a:Ar):Nat:=g.us.countP fun b=>decide ((a.bk b).aV=false∧lq (vw g a) b)
def l7 (g:cy) (a:Ar):Nat:=g.us.countP fun b=>(a.bk b).aV
structure Cr (g:cy) (a:Ar) (c:Nat→List UInt8) (ds:List Nat) (N:Nat):Prop where
 ph:rD g a ds
 gd:Gd (vw g a) c
 e:(l7 g a:Int)≤g.aI→(ku g a:Int)+g.aI+1≤g.us.length
 seq:∀b,∀f∈vw g a b,f.s.seq≤N
 sp:∀i∈g.us,∀j∈g.us,(a.bk i).aV=false→(a.bk j).aV=false→fF (vw g a) i→fF (vw g a) j→i=j
structure kv (g:cy) (a:Ar) (c c':Nat→List UInt8) (ds:List Nat) (N:Nat):Prop where
 off:a.off=true
 way:pe a
 cx:∀cut:Int,Cr g (bZ a cut) c ds N∨Cr g (bZ a cut) c' ds N
structure Rn (g:cy) (s:FS) (c:Nat→List UInt8) (ds:List Nat) (N:Nat) (tg:Oq):Prop where
 ok:bo g s
 on:s.a.off=false
 way:s.a.way=.no
 aR:s.a.aR≤s.f.ep
 ep:1≤s.f.ep∧s.f.ep<281474976710656
 ph:rD g s.a ds
 gd:Gd (vw g s.a) c
 cx:∀x,(s.f.pm.at x=none∧∀b,∀f∈vw g s.a b,f.s.au≠x)∨∃b p,s.f.pm.at x=some (b,p)∧∃f∈vw g s.a b,f.p=p∧xn (vw g s.a) c x f
 seq:∀b,∀f∈vw g s.a b,f.s.seq≤s.f.seq
 sn:s.f.seq≤N
 bd:∀b∈g.us,s.f.po.how b=some 3↔(s.a.bk b).aV=true
 hf:∀b∈g.us,(s.a.bk b).aV=false→(s.a.bk b).cu=false
 dD:∀b∈g.us,s.f.po.how b=some 0→(∀v,tg≠some (b,v))→s.next b=0
 gj:∀b∈g.us,s.f.po.how b=some 1→vw g s.a b=[]∨lq (vw g s.a) b
 kF:∀b∈g.us,s.f.po.how b=some 2→vw g s.a b=[]∨lq (vw g s.a) b∨(s.next b:Int)<g.aB
 El:∀d v,tg=some (d,v)→d∈g.us∧v∈g.us∧d≠v∧s.f.po.how d=some 0∧s.f.po.how v=some 1∧lq (vw g s.a) v∧(∀f∈vw g s.a d,f.s.fr=v+1∧mt (vw g s.a) f)∧(s.next d:Int)+s.f.pm.eu v<g.aB
 Hz:tg≠none→s.f.po.count 2=0
 one:s.f.po.count 2≤1
 rT:(s.f.po.count 3:Int)≤g.aI→1+g.aI≤s.f.po.count 0+s.f.po.count 3
section
variable {g:cy} {s:FS} {c:Nat→List UInt8} {ds:List Nat} {N:Nat} {tg:Oq}
theorem l8 {α:Type} {p q:α→Bool}:∀{l:List α},(∀b∈l,p b=true→q b=true)→l.countP p≤l.countP q:=fun h=>countP_mono_left h
theorem ma {p q r:Nat→Bool}:∀{l:List Nat},(∀b∈l,r b=true→p b=true∨q b=true)→l.countP r≤l.countP p+l.countP q
 |[],_=>Nat.le_refl _
 |x::l,h=>by
  have ih:=ma (p:=p) (q:=q) (r:=r) (fun b hb=>h b (mem_cons_of_mem _ hb));have hx:=h x mem_cons_self;rw[countP_cons,countP_cons,countP_cons];by_cases hr:r x=true
  ·rcases hx hr with hp|hq
   ·rw[if_pos hr,if_pos hp];omega
   ·rw[if_pos hr,if_pos hq];omega
  ·rw[if_neg hr];omega
theorem rE {p q:Nat→Bool} {v:Nat}:∀{l:List Nat},(∀b∈l,p b=true→q b=true)→v∈l→q v=true→p v=false→l.countP p+1≤l.countP q
 |x::l,h,hv,hq,hp=>by
  rw[countP_cons,countP_cons];rcases mem_cons.1 hv with rfl|hv
  ·have:=l8 (p:=p) (q:=q) (fun b hb=>h b (mem_cons_of_mem _ hb));rw[if_pos hq,if_neg (by simp [hp])];omega
  ·have ih:=rE (fun b hb=>h b (mem_cons_of_mem _ hb)) hv hq hp;by_cases hx:p x=true
   ·rw[if_pos hx,if_pos (h x mem_cons_self hx)];omega
   ·rw[if_neg hx];omega
theorem IN {l:List (Nat×Nat)} (h:∀x∈l,x.2≤3):l.countP (fun x=>decide (x.2=0))+l.countP (fun x=>decide (x.2=1))+l.countP (fun x=>decide (x.2=2))+l.countP (fun x=>decide (x.2=3))=l.length:=by
 induction l with
 |nil=>rfl
 |cons x l ih=>
  have ih:=ih (fun y hy=>h y (mem_cons_of_mem _ hy));have hx:=h x mem_cons_self;simp only[countP_cons,length_cons,decide_eq_true_eq];have:x.2=0∨x.2=1∨x.2=2∨x.2=3:=by omega
  rcases this with e|e|e|e<;>simp only[e]<;>simp<;>omega
theorem bo.PK (h:bo g s):s.f.po.count 0+s.f.po.count 1+s.f.po.count 2+s.f.po.count 3=g.us.length:=by
 have:=IN h.po.h;rw[←h.us,length_map];exact this
theorem bo.eu (h:bo g s) (k:Nat):s.f.po.count k=g.us.countP (fun b=>decide (s.f.po.how b=some k)):=wv h.po h.us k
theorem bo.WC (h:bo g s) {b:Nat} (hb:b∈g.us):s.f.po.how b=some 0∨s.f.po.how b=some 1∨s.f.po.how b=some 2∨s.f.po.how b=some 3:=by
 obtain⟨k,hk⟩:=isSome_iff_exists.1 (h.how hb);have:=WB h.po hk;have:k=0∨k=1∨k=2∨k=3:=by omega
 rcases this with rfl|rfl|rfl|rfl<;>simp [hk]
theorem z6 {a:Ar} {b:Nat} (h:(a.bk b).pg=[]∨(a.bk b).cu=true):vw g a b=[]:=by
 unfold vw;split
 ·exact Cc h
 ·rfl
theorem xp {v:Vw} {b:Nat} (h:v b=[]):¬lq v b:=fun⟨f,hf,_⟩=>by rw[h] at hf;cases hf
theorem Rn.iV (h:Rn g s c ds N tg) {b:Nat} (hb:b∈g.us) (hf:(s.a.bk b).aV=false) (hn:lq (vw g s.a) b):s.f.po.how b=some 1∨s.f.po.how b=some 2:=by
 rcases h.ok.WC hb with e|e|e|e
 ·exfalso;by_cases ht:∃v,tg=some (b,v)
  ·obtain⟨v,hv⟩:=ht;obtain⟨_,_,_,_,_,_,hall,_⟩:=h.El b v hv;obtain⟨f,hf,hm⟩:=hn;exact hm (hall f hf).2
  ·have:=h.dD b hb e (fun v hv=>ht ⟨v,hv⟩);exact xp (z6 (.inl (eq_nil_of_length_eq_zero this))) hn
 ·exact .inl e
 ·exact .inr e
 ·rw[(h.bd b hb).1 e] at hf;cases hf
theorem Rn.l7 (h:Rn g s c ds N tg) {a:Ar} (hf:∀b∈g.us,(a.bk b).aV=(s.a.bk b).aV):l7 g a=s.f.po.count 3:=by
 rw[h.ok.eu 3];exact countP_congr fun b hb=>by rw[hf b hb, ←h.bd b hb];simp
open Classical in
theorem Rn.XS (h:Rn g s c ds N tg) {a:Ar} (hf:∀b∈g.us,(a.bk b).aV=(s.a.bk b).aV) (hn:∀b∈g.us,(a.bk b).aV=false→lq (vw g a) b→s.f.po.how b=some 1∨s.f.po.how b=some 2):
 (Go.Proofs.YtlgdkndamddpkaaGreat.l7 g a:Int)≤g.aI→(ku g a:Int)+g.aI+1≤g.us.length:=by
 intro hle;rw[h.l7 hf] at hle;have h4:=h.ok.PK;have hr:=h.rT hle
 have:ku g a≤s.f.po.count 1+s.f.po.count 2:=by
  rw[h.ok.eu 1,h.ok.eu 2];refine ma (fun b hb hx=> ?_);have hx:=of_decide_eq_true hx;simpa using hn b hb hx.1 hx.2
 omega
open Classical in
theorem Rn.adH (h:Rn g s c ds N tg) {a:Ar} {v d:Nat} (hv:v∈g.us) (pF:s.f.po.how v=some 1) (hf:∀b∈g.us,(a.bk b).aV=(s.a.bk b).aV)
 (hn:∀b∈g.us,(a.bk b).aV=false→lq (vw g a) b→b≠v∧(s.f.po.how b=some 1∨s.f.po.how b=some 2∨b=d)):
 (Go.Proofs.YtlgdkndamddpkaaGreat.l7 g a:Int)≤g.aI→(ku g a:Int)+g.aI+1≤g.us.length:=by
 intro hle;rw[h.l7 hf] at hle;have h4:=h.ok.PK;have hr:=h.rT hle
 have:ku g a≤s.f.po.count 1+s.f.po.count 2:=by
  have h1:ku g a≤g.us.countP (fun b=>decide (b≠v∧(s.f.po.how b=some 1∨s.f.po.how b=some 2)))+g.us.countP (fun b=>decide (b=d)):=by
   refine ma (fun b hb hx=> ?_);have hx:=of_decide_eq_true hx;obtain⟨h1,h2⟩:=hn b hb hx.1 hx.2;simp only[decide_eq_true_eq];rcases h2 with h2|h2|h2
   ·exact .inl ⟨h1,.inl h2⟩
   ·exact .inl ⟨h1,.inr h2⟩
   ·exact .inr h2
  have h2:g.us.countP (fun b=>decide (b≠v∧(s.f.po.how b=some 1∨s.f.po.how b=some 2)))+1≤g.us.countP (fun b=>decide (s.f.po.how b=some 1∨s.f.po.how b=some 2)):=
   rE (v:=v) (fun b hb hx=>by simp only[decide_eq_true_eq] at hx⊢;exact hx.2) hv (by simp [pF]) (by simp)
  have h3:g.us.countP (fun b=>decide (s.f.po.how b=some 1∨s.f.po.how b=some 2))≤s.f.po.count 1+s.f.po.count 2:=by
   rw[h.ok.eu 1,h.ok.eu 2];exact ma (fun b hb hx=>by simpa using hx)
  have h5:g.us.countP (fun b=>decide (b=d))≤1:=by
   have:=nodup_iff_count.1 (nV g) d
   have e:g.us.countP (fun b=>decide (b=d))=g.us.count d:=by
    unfold List.count;exact countP_congr (fun b _=>by simp)
   rw[e];exact this
  omega
 omega
theorem wx {p:Po} (hp:p.ok) {us:List Nat} (hu:p.bl.map Prod.fst=us) {d:Nat} (hd:p.how d=some 2) (h1:p.count 2≤1):p.kF=some d:=by
 have Rr:d∈us:=by rw[←hu];exact ko.1 (by show (p.how d).isSome=true;rw[hd];rfl)
 cases ho:p.kF with
 |none=>
  have:=qC.1 ho;rw[wv hp hu] at this;have:=countP_eq_zero.1 this d Rr;rw[hd] at this;exact absurd rfl this
 |some o=>
  by_cases hod:o=d
  ·rw[hod]
  ·exfalso;have ho2:=x7 hp ho;have hou:o∈us:=by rw[←hu];exact ko.1 (by show (p.how o).isSome=true;rw[ho2];rfl)
   have h2:us.countP (fun b=>decide (b=d))+1≤us.countP (fun b=>decide (p.how b=some 2)):=
    rE (v:=o) (fun b _ hb=>by simp only[decide_eq_true_eq] at hb⊢;rw[hb];exact hd) hou (by simp [ho2]) (by simp [hod])
   have h3:0<us.countP (fun b=>decide (b=d)):=countP_pos_iff.2 ⟨d,Rr,by simp⟩;rw[wv hp hu] at h1;omega
theorem Rn.GA (h:Rn g s c ds N tg) {i:Nat} (hi:i∈g.us) (hf:(s.a.bk i).aV=false) (hs:fF (vw g s.a) i):s.f.po.how i=some 2∨∃v,tg=some (i,v):=by
 rcases h.ok.WC hi with e|e|e|e
 ·by_cases ht:∃v,tg=some (i,v)
  ·exact .inr ht
  ·have:=h.dD i hi e (fun v hv=>ht ⟨v,hv⟩);exact absurd (z6 (.inl (eq_nil_of_length_eq_zero this))) hs.1
 ·rcases h.gj i hi e with e|e
  ·exact absurd e hs.1
  ·exact absurd hs (ru e)
 ·exact .inl e
 ·rw[(h.bd i hi).1 e] at hf;cases hf
theorem Rn.sp1 (h:Rn g s c ds N tg) {i j:Nat} (hi:i∈g.us) (hj:j∈g.us) (h1:s.f.po.how i=some 2∨∃v,tg=some (i,v)) (h2:s.f.po.how j=some 2∨∃v,tg=some (j,v)):i=j:=by
 have no:∀i v,tg=some (i,v)→∀j,s.f.po.how j≠some 2:=fun i v e j hj=>by
  have h0:=h.Hz (by rw[e];simp);have:=wx h.ok.po h.ok.us hj (by omega);rw[qC.2 h0] at this;cases this
 rcases h1 with h1|⟨v,h1⟩
 ·rcases h2 with h2|⟨w,h2⟩
  ·have e1:=wx h.ok.po h.ok.us h1 h.one;rw[wx h.ok.po h.ok.us h2 h.one] at e1;exact(Option.some.inj e1).symm
  ·exact absurd h1 (no j w h2 i)
 ·rcases h2 with h2|⟨w,h2⟩
  ·exact absurd h2 (no i v h1 j)
  ·rw[h1] at h2;cases h2;rfl
theorem Rn.IP (h:Rn g s c ds N tg) {a:Ar} (hf:∀b∈g.us,(a.bk b).aV=(s.a.bk b).aV) (hn:∀i∈g.us,(s.a.bk i).aV=false→fF (vw g a) i→s.f.po.how i=some 2∨∃v,tg=some (i,v)):∀i∈g.us,∀j∈g.us,(a.bk i).aV=false→(a.bk j).aV=false→fF (vw g a) i→fF (vw g a) j→i=j:=fun i hi j hj h1 h2 h3 h4=>
 h.sp1 hi hj (hn i hi (by rw[←hf i hi];exact h1) h3) (hn j hj (by rw[←hf j hj];exact h2) h4)
theorem Rn.cr (h:Rn g s c ds N tg):Cr g s.a c ds N where
 ph:=h.ph
 gd:=h.gd
 e:=h.XS (fun _ _=>rfl) (fun b hb hf hn=>h.iV hb hf hn)
 seq:=fun b f hf=>Nat.le_trans (h.seq b f hf) h.sn
 sp:=h.IP (fun _ _=>rfl) (fun i hi hf hs=>h.GA hi hf hs)
theorem IQ {a:Ar} (hw:a.way=.no) (cut:Int):(bZ a cut).bs=a.bs∧(bZ a cut).aB=a.aB:=by
 unfold bZ qp;rw[hw];exact⟨rfl,rfl⟩
theorem nW {a a':Ar} (h:a'.bs=a.bs) (b:Nat):a'.bk b=a.bk b:=by unfold Ar.bk;rw[h]
theorem vg {a a':Ar} (h:a'.bs=a.bs):vw g a'=vw g a:=by
 funext b;unfold vw Ar.fd;rw[h]
theorem rD.congr {a a':Ar} (h:rD g a ds) (hb:a'.bs=a.bs) (hp:a'.aB=a.aB):rD g a' ds where
 n:=by rw[hb];exact h.n
 p:=by rw[hp];exact h.p
 len:=by rw[hb];exact h.len
 d:=by rw[hb];exact h.d
 cu:=fun b hu=>by rw[nW hb];exact h.cu b hu
 doom:=fun b hu=>by rw[nW hb];exact h.doom b hu
theorem Cr.congr {a a':Ar} (h:Cr g a c ds N) (hb:a'.bs=a.bs) (hp:a'.aB=a.aB):Cr g a' c ds N where
 ph:=h.ph.congr hb hp
 gd:=by rw[vg hb];exact h.gd
 e:=by
  have e1:Go.Proofs.YtlgdkndamddpkaaGreat.l7 g a'=Go.Proofs.YtlgdkndamddpkaaGreat.l7 g a:=countP_congr fun b hu=>by rw[nW hb]
  have e2:ku g a'=ku g a:=by
   unfold ku;rw[vg hb];exact countP_congr fun b hu=>by rw[nW hb]
  rw[e1,e2];exact h.e
 seq:=by rw[vg hb];exact h.seq
 sp:=fun i hi j hj=>by rw[vg hb,nW hb,nW hb];exact h.sp i hi j hj
end
end Go.Proofs.YtlgdkndamddpkaaGreat
end
section
namespace Go.Proofs.YtlgdkndamddpkaaGreat
open Go.Am
section
variable {g:cy} {s:FS} {c:Nat→List UInt8} {ds:List Nat} {N:Nat} {tg:Oq}
def rU (s:FS) (x:Sh):Sh:={x with ep:=s.f.ep,seq:=jl s.f.seq}
structure z7 (g:cy) (x:Sh):Prop where
 k:x.da=1∨x.da=2
 a:(x.au:Int)≤g.cap
 fr:x.fr≤64
 dl:x.data.length≤64
 d0:x.da=1∨x.data.length=0
theorem z7.df {x:Sh} (h:z7 g x) (hc:g.cap<65000) (he:s.f.ep<281474976710656) (hs:s.f.seq+1<281474976710656):(rU s x).df∧(rU s x).da≠3∧(rU s x).seq=s.f.seq+1:=by
 have e:jl s.f.seq=s.f.seq+1:=by unfold jl;omega
 have hk:=h.k;have ha:=h.a;refine⟨⟨?_, ?_,he, ?_, ?_,h.fr,h.dl,h.d0⟩, ?_,e⟩
 ·show 1≤x.da;omega
 ·show x.da≤3;omega
 ·show jl s.f.seq<_;omega
 ·show x.au<_;omega
 ·show x.da≠3;omega
theorem ya (s:FS) (b:Nat):s.next b=(s.a.bk b).pg.length:=rfl
theorem Ce (h:Rn g s c ds N tg) (hc:g.cap<65000) {b:Nat} (hb:b∈g.us) (h3:s.f.po.how b≠some 3) (hp:(s.next b:Int)<g.aB) {x:Sh} (hx:z7 g x) (hs:s.f.seq+1<281474976710656):∃a',(cv s b x=(⟨a',{s.f with seq:=jl s.f.seq,pm:=s.f.pm.put x.au (some (b,s.next b))}⟩,0)∧a'.off=false∧a'.way=.no∧Hy s.a a' b {aH (s.a.bk b) with pg:=(s.a.bk b).pg++[eE (rU s x)]})∨(cv s b x=(⟨a',{s.f with seq:=jl s.f.seq,po:=s.f.po.set b 3}⟩,8)∧a'.off=false∧a'.way=.no∧(aH (s.a.bk b)).bd=true∧Hy s.a a' b {aH (s.a.bk b) with pg:=(s.a.bk b).pg++[fL (eE (rU s x)) 0],aV:=true})∨(cv s b x=(⟨a',{s.f with seq:=jl s.f.seq}⟩,9)∧a'.off=true∧s.a.bD>0∧a'.way=.prog b (eE (rU s x))∧Hy s.a a' b (aH (s.a.bk b))):=by
 have hlt:=h.ph.lt hb
 have qK:(s.a.bk b).aV=false:=by
  rw[←Bool.not_eq_true];intro e;exact h3 ((h.bd b hb).2 e)
 have hf:=hx.df hc h.ep.2 hs;have hl:(eE (rU s x)).length=96:=lX _ hx.dl;obtain⟨a',r,he,ho⟩:=PH (e:=(s.f.ep:Int)) hlt h.on (by rw[h.ph.p];exact hp) hl (h.hf b hb qK) h.aR;refine⟨a', ?_⟩;have he':fR s.a b (s.next b) (eE (rU s x)) s.f.ep=(a',r):=he
 have hP:cv s b x=if r=8∨r=6 then (⟨a',{s.f with seq:=jl s.f.seq,po:=s.f.po.set b 3}⟩,8)
  else if r=0 then (⟨a',{s.f with seq:=jl s.f.seq,pm:=s.f.pm.put x.au (some (b,s.next b))}⟩,0)
  else (⟨a',{s.f with seq:=jl s.f.seq}⟩,r):=by
  unfold cv;simp only;rw[show ({x with ep:=s.f.ep,seq:=jl s.f.seq}:Sh)=rU s x from rfl,he']
 rw[hP];rcases ho with⟨rfl,h1,h2,h3,h4⟩|⟨rfl,h1,h2,h3,h4⟩|⟨rfl,h1,h2,h3,h4⟩
 ·exact .inl ⟨by simp,h1,h3.trans h.way,h4⟩
 ·exact .inr (.inl ⟨by simp,h1,h3.trans h.way,h2,h4⟩)
 ·exact .inr (.inr ⟨by simp,h1,h2,h3,h4⟩)
theorem GB {k:Bk} (h:(aH k).bd=true):0<k.doom∨k.bd=true:=by
 unfold aH at h;split at h
 ·exact .inl (by omega)
 ·exact .inr h
theorem iL {k:Bk} (h:k.doom≤0∧k.bd=false∧k.aV=false):(aH k).doom≤0∧(aH k).bd=false∧(aH k).aV=false:=by
 rw[Gz h.1 h.2.1];exact h
theorem Rn.PL (h:rD g s.a ds) {b:Nat} (hb:b∈g.us) (hd:(aH (s.a.bk b)).bd=true):b∈ds:=
 Classical.byContradiction fun hn=>by
  have:=h.doom b hb hn;rcases GB hd with e|e
  ·omega
  ·rw[this.2.1] at e;cases e
theorem rD.prog (h:rD g s.a ds) {b:Nat} (hb:b∈g.us) (hp:(s.next b:Int)<g.aB) (hh:(s.a.bk b).cu=false) {d:List UInt8} (hd:d.length=96) {a':Ar} {k:Bk} (he:vC s.a a' b k) (h1:k.pg=(s.a.bk b).pg++[d]) (h2:k.cu=(s.a.bk b).cu) (h3:b∉ds→k.doom≤0∧k.bd=false∧k.aV=false):rD g a' ds:=by
 have hm:=jd (h.lt hb);refine h.XR hb he ?_ (fun x hx=> ?_) (fun e=> ?_) h3
 ·rw[h1,length_append];have:=ya s b;simp only[length_singleton];omega
 ·rw[h1] at hx;rcases mem_append.1 hx with hx|hx
  ·exact h.d _ hm x hx
  ·rw[mem_singleton] at hx;rw[hx];exact hd
 ·rw[h2,hh] at e;cases e
def wz (s:FS) (b:Nat) (x:Sh):Fd:=⟨b,s.next b,rU s x⟩
theorem z8 (hp:rD g s.a ds) {b:Nat} (hb:b∈g.us) (hh:(s.a.bk b).cu=false) {x:Sh} (hf:(rU s x).df) (h3:(rU s x).da≠3) (ha:(x.au:Int)≤g.cap) {a':Ar} {k:Bk} (he:vC s.a a' b k) (h1:k.pg=(s.a.bk b).pg++[eE (rU s x)]) (h2:k.cu=(s.a.bk b).cu):vw g a'=gQ (vw g s.a) b (wz s b x):=by
 rw[he.vw (hp.lt hb) hb];funext i;unfold gQ;by_cases hi:i=b
 ·subst hi;rw[if_pos rfl,if_pos rfl,Cb hb,Ml hh hf h3 ha (h2.trans hh) h1];rfl
 ·rw[if_neg hi,if_neg hi]
theorem KJ (h:∀b,∀f∈vw g s.a b,f.s.seq≤s.f.seq) {x:Sh} {b:Nat} (e:(rU s x).seq=s.f.seq+1):∀i,∀y∈vw g s.a i,y.s.seq<(wz s b x).s.seq:=fun i y hy=>by
 have:=h i y hy;show _<(rU s x).seq
 omega
theorem vh {a a':Ar} {b:Nat} {d:List UInt8} {k:Bk} (hb:b<a.bs.length) (hw:a'.way=.prog b d) (he:vC a a' b k) (cut:Int):vC a (bZ a' cut) b (if cut>0 then {k with pg:=k.pg++[fL d cut]} else k):=by
 have hk:a'.bs[b]? =some k:=by
  rw[he.bs,List.getElem?_set];simp [hb]
 unfold bZ qp;rw[hw];simp only;by_cases hc:cut>0
 ·rw[if_pos hc,if_pos hc,hk];refine⟨?_,he.aB⟩;show a'.bs.set b _=_
  rw[he.bs,set_set]
 ·rw[if_neg hc,if_neg hc];exact⟨he.bs,he.aB⟩
theorem Mm {d:List UInt8} (hd:d.length=96) {cut:Int} (h:96≤cut):fL d cut=d:=by
 unfold fL;rw[take_of_length_le (by omega),show d.length-cut.toNat=0 from by omega];simp
theorem ij {a':Ar} {f:Ft} {b:Nat} {k:Bk} (hb:b<s.a.bs.length) (he:vC s.a a' b k) (i:Nat):FS.next ⟨a',f⟩ i=if i=b then k.pg.length else s.next i:=by
 rw[ya,ya];show (a'.bk i).pg.length=_
 rw[he.bk hb];split<;>rfl
theorem z9 (hph:rD g s.a ds) (hg:g.In) {a':Ar} {b:Nat} (hb:b∈g.us) {d:List UInt8} (hd:d.length=96) {k:Bk} (hk:k.pg=(s.a.bk b).pg) (hw:a'.way=.prog b d) (he:vC s.a a' b k):pe a':=by
 unfold pe;rw[hw];have hl:=hph.lt hb;have hl':b<a'.bs.length:=by rw[he.bs,length_set];exact hl
 refine⟨hd,hl', ?_⟩
 have e:a'.bs[b]=k:=by
  have:=he.bk hl b;rw[if_pos rfl] at this;rw[←this];exact(Option.some.inj ((List.getElem?_eq_getElem hl').symm.trans (zV hl')))
 rw[e,hk];have:=hph.len _ (jd hl);have:=hg.p;omega
theorem Cf {v:Vw} {b:Nat} {f:Fd} (hn:∀i,∀y∈v i,y.s.seq<f.s.seq) {i:Nat} (hi:i≠b) (h:fF (gQ v b f) i):fF v i:=by
 have e:gQ v b f i=v i:=if_neg hi;refine⟨by rw[←e];exact h.1,fun t ht=>(qw hn ht).1 (h.2 t (by rw[e];exact ht))⟩
theorem rF {v:Vw} {b:Nat} {i:Nat} (h:fF (k8 v b) i):i≠b∧fF v i:=by
 have hi:i≠b:=fun e=>h.1 (if_pos e)
 have e:k8 v b i=v i:=if_neg hi;exact⟨hi,by rw[←e];exact h.1,fun t ht=>(D9 (h.2 t (by rw[e];exact ht))).1⟩
theorem je {a':Ar} {b:Nat} {k:Bk} (hb:b<s.a.bs.length) (he:vC s.a a' b k) (hk:k.aV=(s.a.bk b).aV) (i:Nat):(a'.bk i).aV=(s.a.bk i).aV:=by
 rw[he.bk hb];split
 ·rename_i e;rw[e];exact hk
 ·rfl
theorem Rn.aa1 (h:Rn g s c ds N tg) {b:Nat} (hb:b∈g.us) (hh:(s.a.bk b).cu=false) (hp:(s.next b:Int)<g.aB) {x:Sh} (hx:z7 g x) (f1:(rU s x).df) (f2:(rU s x).da≠3) (hl:(eE (rU s x)).length=96) {a':Ar} (hw:a'.way=.prog b (eE (rU s x))) (he:vC s.a a' b (aH (s.a.bk b))) {cut:Int} (Lk:96≤cut) {c':Nat→List UInt8} (hgd:Gd (gQ (vw g s.a) b (wz s b x)) c') (Ht:∀i∈g.us,(s.a.bk i).aV=false→lq (gQ (vw g s.a) b (wz s b x)) i→s.f.po.how i=some 1∨s.f.po.how i=some 2) (Jp:∀i,∀f∈gQ (vw g s.a) b (wz s b x) i,f.s.seq≤N) (hsp:∀i∈g.us,(s.a.bk i).aV=false→fF (gQ (vw g s.a) b (wz s b x)) i→s.f.po.how i=some 2∨∃v,tg=some (i,v)):Cr g (bZ a' cut) c' ds N:=by
 have hlt:=h.ph.lt hb;have hr:=vh hlt hw he cut;rw[if_pos (by omega),Mm hl Lk] at hr;obtain⟨k,hk⟩:∃k:Bk,k={aH (s.a.bk b) with pg:=(aH (s.a.bk b)).pg++[eE (rU s x)]}:=⟨_,rfl⟩;rw[←hk] at hr;have k1:k.pg=(s.a.bk b).pg++[eE (rU s x)]:=by rw[hk,bF]
 have k2:k.cu=(s.a.bk b).cu:=by rw[hk];exact bO _
 have k3:k.aV=(s.a.bk b).aV:=by rw[hk];exact dZ _
 have k4:b∉ds→k.doom≤0∧k.bd=false∧k.aV=false:=fun hn=>by rw[hk];exact iL (h.ph.doom b hb hn)
 clear hk;have hv:=z8 h.ph hb hh f1 f2 hx.a hr k1 k2;have hfl:=je hlt hr k3;refine⟨h.ph.prog hb hp hh hl hr k1 k2 k4,by rw[hv];exact hgd,h.XS (fun i _=>hfl i) (fun i hi hf hs'=> ?_),by rw[hv];exact Jp,h.IP (fun i _=>hfl i) (fun i hi hf hs'=>by rw[hv] at hs';exact hsp i hi hf hs')⟩;rw[hv] at hs';rw[hfl i] at hf;exact Ht i hi hf hs'
theorem Rn.aa2 (h:Rn g s c ds N tg) {b:Nat} (hb:b∈g.us) (hh:(s.a.bk b).cu=false) (hp:(s.next b:Int)<g.aB) {x:Sh} (hx:z7 g x) (hl:(eE (rU s x)).length=96) {a':Ar} (hw:a'.way=.prog b (eE (rU s x))) (he:vC s.a a' b (aH (s.a.bk b))) {cut:Int} (Lk:cut<96):Cr g (bZ a' cut) c ds N:=by
 have hlt:=h.ph.lt hb;have hr:=vh hlt hw he cut
 have key:∀k:Bk,vC s.a (bZ a' cut) b k→k.eT b g.cap=(s.a.bk b).eT b g.cap→k.aV=(s.a.bk b).aV→rD g (bZ a' cut) ds→Cr g (bZ a' cut) c ds N:=fun k hk h1 h2 h3=>by
  have hv:=hk.xE hlt hb h1;have hfl:=je hlt hk h2;refine⟨h3,by rw[hv];exact h.gd,h.XS (fun i _=>hfl i) (fun i hi hf hs'=> ?_),by rw[hv];exact fun i f hf=>Nat.le_trans (h.seq i f hf) h.sn,h.IP (fun i _=>hfl i) (fun i hi hf hs'=>by rw[hv] at hs';exact h.GA hi hf hs')⟩;rw[hv] at hs';rw[hfl i] at hf;exact h.iV hi hf hs'
 by_cases h0:cut>0
 ·rw[if_pos h0] at hr;obtain⟨k,hk⟩:∃k:Bk,k={aH (s.a.bk b) with pg:=(aH (s.a.bk b)).pg++[fL (eE (rU s x)) cut]}:=⟨_,rfl⟩;rw[←hk] at hr;have k1:k.pg=(s.a.bk b).pg++[fL (eE (rU s x)) cut]:=by rw[hk,bF]
  have k2:k.cu=(s.a.bk b).cu:=by rw[hk];exact bO _
  have k3:k.aV=(s.a.bk b).aV:=by rw[hk];exact dZ _
  have k4:b∉ds→k.doom≤0∧k.bd=false∧k.aV=false:=fun hn=>by rw[hk];exact iL (h.ph.doom b hb hn)
  exact key k hr (tw (th (s:=rU s x) hx.dl (n:=cut) Lk) k2 k1) k3 (h.ph.prog hb hp hh (by rw[ln];exact hl) hr k1 k2 k4)
 ·rw[if_neg h0] at hr;refine key _ hr (vd _ _ _) (dZ _) (h.ph.XR hb hr ?_ ?_ ?_ (fun hn=>iL (h.ph.doom b hb hn)))
  ·rw[bF];exact h.ph.len _ (jd hlt)
  ·rw[bF];exact h.ph.d _ (jd hlt)
  ·rw[bO,bF];exact h.ph.cu b hb
theorem Rn.put (h:Rn g s c ds N none) (hg:g.In) (hc:g.cap<65000) {b:Nat} (hb:b∈g.us) (h2:s.f.po.how b=some 2) (hp:(s.next b:Int)<g.aB) {x:Sh} (hx:z7 g x) (hx0:x.fr=0) (hs:s.f.seq+1<281474976710656) (hN:s.f.seq+1≤N):((cv s b x).2=0∧Rn g (cv s b x).1 (oQ c x.au x.data) ds N none)∨((cv s b x).2=8∧Rn g (cv s b x).1 c ds N none∧(cv s b x).1.f.po.count 2=0∧(cv s b x).1.f.po.count 3=s.f.po.count 3+1)∨((cv s b x).2=9∧s.a.bD>0∧kv g (cv s b x).1.a c (oQ c x.au x.data) ds N):=by
 have cI:=h.ok.cv hg hb (x:=x) hx.dl;have hlt:=h.ph.lt hb
 have qK:(s.a.bk b).aV=false:=by
  rw[←Bool.not_eq_true];intro e;rw[(h.bd b hb).2 e] at h2;cases h2
 have hh:=h.hf b hb qK;obtain⟨f1,f2,f3⟩:=hx.df hc h.ep.2 hs;have hl:(eE (rU s x)).length=96:=lX _ hx.dl;have hna:=h.ok.na;have hxl:x.au<s.f.pm.cx.length:=by have:=hx.a;omega
 have hn:=KJ (x:=x) (b:=b) h.seq f3;have hgd:=h.gd.put (f:=wz s b x) (b:=b) hn rfl hx0;have hgd:Gd (gQ (vw g s.a) b (wz s b x)) (oQ c x.au x.data):=hgd;have abI:lq (gQ (vw g s.a) b (wz s b x)) b:=⟨wz s b x,bP.2 (.inr ⟨rfl,rfl⟩),fun hm=>hm.1 hx0⟩
 have Jp:∀i,∀f∈gQ (vw g s.a) b (wz s b x) i,f.s.seq≤s.f.seq+1:=fun i f hf=>by
  rcases bP.1 hf with hf|⟨_,rfl⟩
  ·have:=h.seq i f hf;omega
  ·show (rU s x).seq≤_;omega
 have Ht:∀i∈g.us,(s.a.bk i).aV=false→lq (gQ (vw g s.a) b (wz s b x)) i→s.f.po.how i=some 1∨s.f.po.how i=some 2:=fun i hi hf hs'=>by
  by_cases bx:i=b
  ·subst bx;exact .inr h2
  ·obtain⟨t,ht,hm⟩:=hs';rcases bP.1 ht with ht|⟨e,_⟩
   ·exact h.iV hi hf ⟨t,ht,fun hh=>hm ((qw hn ht).2 hh)⟩
   ·exact absurd e bx
 obtain⟨a',ho⟩:=Ce h hc hb (by rw[h2];simp) hp hx hs;rcases ho with⟨ho,o1,o2,he⟩|⟨ho,o1,o2,o3,he⟩|⟨ho,o1,o2,o3,he⟩
 ·left;rw[ho] at cI⊢;refine⟨rfl, ?_⟩;have hv:=z8 h.ph hb hh f1 f2 hx.a he.tovC rfl (by rw[bO]);have hbk:=fun i=>he.tovC.bk hlt i
  have hfl:∀i,(a'.bk i).aV=(s.a.bk i).aV:=fun i=>by
   rw[hbk];split
   ·rename_i e;subst e;exact dZ _
   ·rfl
  have Rh:∀i,(a'.bk i).cu=(s.a.bk i).cu:=fun i=>by
   rw[hbk];split
   ·rename_i e;subst e;exact bO _
   ·rfl
  have mq:=fun i=>ij (f:={s.f with seq:=jl s.f.seq,pm:=s.f.pm.put x.au (some (b,s.next b))}) hlt he.tovC i
  exact {
   ok:=cI,on:=o1,way:=o2,aR:=by rw[he.aR];exact h.aR,ep:=h.ep
   ph:=h.ph.prog hb hp hh hl he.tovC rfl (bO _) (fun hn=>iL (h.ph.doom b hb hn))
   gd:=by rw[hv];exact hgd
   cx:=fun y=>by
    show ((s.f.pm.put x.au (some (b,s.next b))).at y=none∧_)∨∃b' p,(s.f.pm.put x.au (some (b,s.next b))).at y=some (b',p)∧_
    rw[hv,PI hxl];by_cases hy:y=x.au
    ·subst hy;right;exact⟨b,s.next b,if_pos rfl,wz s b x,bP.2 (.inr ⟨rfl,rfl⟩),rfl,xn.new (f:=wz s b x) hn⟩
    ·rw[if_neg hy];rcases h.cx y with⟨h1,h2⟩|⟨b',p,h1,f,h2,h3,h4⟩
     ·refine .inl ⟨h1,fun i f hf=> ?_⟩;rcases bP.1 hf with hf|⟨_,rfl⟩
      ·exact h2 i f hf
      ·exact fun e=>hy e.symm
     ·exact .inr ⟨b',p,h1,f,bP.2 (.inl h2),h3,h4.put (f:=wz s b x) (fun e=>hy e.symm)⟩
   seq:=fun i f hf=>by
    rw[hv] at hf;have:=Jp i f hf;have:jl s.f.seq=s.f.seq+1:=f3;show _≤jl s.f.seq
    omega
   sn:=by show jl s.f.seq≤N;have:jl s.f.seq=s.f.seq+1:=f3;omega
   bd:=fun i hi=>by show s.f.po.how i=some 3↔(a'.bk i).aV=true;rw[hfl];exact h.bd i hi
   hf:=fun i hi e=>by show (a'.bk i).cu=false;rw[Rh];exact h.hf i hi (by rw[←hfl];exact e)
   dD:=fun i hi e ht=>by
    have e:s.f.po.how i=some 0:=e;rw[mq,if_neg (fun e2=>by rw[e2,h2] at e;cases e)];exact h.dD i hi e ht
   gj:=fun i hi e=>by
    have e:s.f.po.how i=some 1:=e;have bx:i≠b:=fun e2=>by rw[e2,h2] at e;cases e
    show vw g a' i=[]∨lq (vw g a') i
    rw[hv];refine(h.gj i hi e).imp (fun e=> ?_) (fun e=>e.add hn);unfold gQ;rw[if_neg bx];exact e
   kF:=fun i hi e=>by
    show vw g a' i=[]∨lq (vw g a') i∨_
    rw[hv];by_cases bx:i=b
    ·subst bx;exact .inr (.inl abI)
    ·rw[mq,if_neg bx];refine(h.kF i hi e).imp (fun e=> ?_) (fun e=>e.imp (fun e=>e.add hn) id);unfold gQ;rw[if_neg bx];exact e
   El:=fun d v e=>by cases e
   Hz:=fun e=>absurd rfl e
   one:=h.one
   rT:=h.rT}
 ·right;left;rw[ho] at cI⊢;have gC:s.f.po.set b 3=s.f.po.cF b 3:=fY (by rw[h2];simp) (.inl (by omega));rw[gC] at cI⊢;have hv:vw g a'=vw g s.a:=he.tovC.xE hlt hb (tw (th (s:=rU s x) hx.dl (n:=0) (by omega)) (by show (aH (s.a.bk b)).cu=_;rw[bO]) rfl);have hbk:=fun i=>he.tovC.bk hlt i
  have cX:=fun i=>fI (p:=s.f.po) (b:=b) (h:=3) i (h.ok.how hb)
  have jP:=fun k=>eX (p:=s.f.po) (b:=b) (h:=3) k h2
  have Rh:∀i,(a'.bk i).cu=(s.a.bk i).cu:=fun i=>by
   rw[hbk];split
   ·rename_i e;subst e;exact bO _
   ·rfl
  have mq:=fun i=>ij (f:={s.f with seq:=jl s.f.seq,po:=s.f.po.cF b 3}) hlt he.tovC i
  have c2:=jP 2;have c3:=jP 3;have c0:=jP 0;have hone:=h.one;simp only[if_true,show ((2:Nat)=3)=False from by simp,show ((3:Nat)=2)=False from by simp,show ((2:Nat)=0)=False from by simp,show ((3:Nat)=0)=False from by simp,if_false] at c2 c3 c0;refine⟨rfl, ?_,by show (s.f.po.cF b 3).count 2=0;omega,by show (s.f.po.cF b 3).count 3=_;omega⟩
  exact {
   ok:=cI,on:=o1,way:=o2,aR:=by rw[he.aR];exact h.aR,ep:=h.ep
   ph:=h.ph.prog hb hp hh (by rw[ln];exact hl) he.tovC rfl (bO _) (fun hn=>absurd (Rn.PL h.ph hb o3) hn)
   gd:=by rw[hv];exact h.gd
   cx:=fun y=>by rw[hv];exact h.cx y
   seq:=fun i f hf=>by
    rw[hv] at hf;have:=h.seq i f hf;have:jl s.f.seq=s.f.seq+1:=f3;show _≤jl s.f.seq
    omega
   sn:=by show jl s.f.seq≤N;have:jl s.f.seq=s.f.seq+1:=f3;omega
   bd:=fun i hi=>by
    show (s.f.po.cF b 3).how i=some 3↔(a'.bk i).aV=true
    rw[cX,hbk];by_cases bx:i=b
    ·simp [bx]
    ·rw[if_neg bx,if_neg bx];exact h.bd i hi
   hf:=fun i hi e=>by
    show (a'.bk i).cu=false
    rw[Rh];have e:(a'.bk i).aV=false:=e;rw[hbk] at e;by_cases bx:i=b
    ·rw[bx];exact hh
    ·rw[if_neg bx] at e;exact h.hf i hi e
   dD:=fun i hi e ht=>by
    have e:(s.f.po.cF b 3).how i=some 0:=e;rw[cX] at e;by_cases bx:i=b
    ·rw[if_pos bx] at e;cases e
    ·rw[if_neg bx] at e;rw[mq,if_neg bx];exact h.dD i hi e ht
   gj:=fun i hi e=>by
    have e:(s.f.po.cF b 3).how i=some 1:=e;rw[cX] at e;show vw g a' i=[]∨lq (vw g a') i
    rw[hv];by_cases bx:i=b
    ·rw[if_pos bx] at e;cases e
    ·rw[if_neg bx] at e;exact h.gj i hi e
   kF:=fun i hi e=>by
    have e:(s.f.po.cF b 3).how i=some 2:=e;rw[cX] at e;show vw g a' i=[]∨lq (vw g a') i∨_
    rw[hv];by_cases bx:i=b
    ·rw[if_pos bx] at e;cases e
    ·rw[if_neg bx] at e;rw[mq,if_neg bx];exact h.kF i hi e
   El:=fun d v e=>by cases e
   Hz:=fun e=>absurd rfl e
   one:=by show (s.f.po.cF b 3).count 2≤1;omega
   rT:=by
    show ((s.f.po.cF b 3).count 3:Int)≤g.aI→_≤(((s.f.po.cF b 3).count 0:Nat):Int)+((s.f.po.cF b 3).count 3:Nat)
    intro hle;have:=h.rT (by omega)
    omega}
 ·right;right;rw[ho] at cI⊢;have hwo:=z9 (k:=aH (s.a.bk b)) h.ph hg hb hl (bF _) o3 he.tovC;refine⟨rfl,o2,⟨o1,hwo,fun cut=> ?_⟩⟩;by_cases Lk:96≤cut
  ·right
   exact h.aa1 hb hh hp hx f1 f2 hl o3 he.tovC Lk hgd Ht (fun i f hf=>Nat.le_trans (Jp i f hf) hN) (fun i hi hf hs'=>by
    by_cases bx:i=b
    ·rw[bx] at hs';exact absurd hs' (ru abI)
    ·exact h.GA hi hf (Cf hn bx hs'))
  ·left;exact h.aa2 hb hh hp hx hl o3 he.tovC (by omega)
theorem aa3 {v:Nat} (hv:v<64) {u:Fd} {b:Nat} {a:Ar} (hu:u∈vw g a b):z7 g {u.s with fr:=v+1}:=by
 obtain⟨_,_,_,_,_,hf,h3,ha⟩:=oS hu;have h1:=hf.k1;have h2:=hf.k3;exact⟨by show u.s.da=1∨u.s.da=2;omega,ha,by show v+1≤64;omega,hf.dl,hf.d0⟩
theorem Rn.copy {d v:Nat} (h:Rn g s c ds N (some (d,v))) (hg:g.In) (hc:g.cap<65000) {xa p:Nat} (rX:s.f.pm.at xa=some (v,p)) {u:Fd} (hu:u∈vw g s.a v) (Hu:xn (vw g s.a) c xa u) (hs:s.f.seq+1<281474976710656) (hN:s.f.seq+1≤N):((cv s d {u.s with fr:=v+1}).2=0∧Rn g (cv s d {u.s with fr:=v+1}).1 c ds N (some (d,v))∧(cv s d {u.s with fr:=v+1}).1.f.pm.eu v+1=s.f.pm.eu v∧(cv s d {u.s with fr:=v+1}).1.f.po=s.f.po)∨((cv s d {u.s with fr:=v+1}).2=8∧Rn g (cv s d {u.s with fr:=v+1}).1 c ds N none∧(cv s d {u.s with fr:=v+1}).1.f.pm=s.f.pm∧(cv s d {u.s with fr:=v+1}).1.f.po.how v=some 1∧(cv s d {u.s with fr:=v+1}).1.f.po.count 3=s.f.po.count 3+1∧(cv s d {u.s with fr:=v+1}).1.f.po.count 2=s.f.po.count 2)∨((cv s d {u.s with fr:=v+1}).2=9∧s.a.bD>0∧kv g (cv s d {u.s with fr:=v+1}).1.a c c ds N):=by
 obtain⟨hb,X6,Nu,h2,pF,Ns,hall,hroom⟩:=h.El d v rfl;have qJ:s.f.pm.eu v≠0:=fun e=>qE e xa p rX
 have hp:(s.next d:Int)<g.aB:=by omega
 have hx:=aa3 (PD hg v X6) hu;have hxd:({u.s with fr:=v+1}:Sh).data=u.s.data:=rfl;have Xt:({u.s with fr:=v+1}:Sh).au=xa:=Hu.1;have hxf:({u.s with fr:=v+1}:Sh).fr=v+1:=rfl;have hxk:({u.s with fr:=v+1}:Sh).da=u.s.da:=rfl;obtain⟨x,hxx⟩:∃x:Sh,x={u.s with fr:=v+1}:=⟨_,rfl⟩;rw[←hxx] at hx hxd Xt hxf hxk⊢;clear hxx;have cI:=h.ok.cv hg hb (x:=x) hx.dl;have hlt:=h.ph.lt hb
 have qK:(s.a.bk d).aV=false:=by
  rw[←Bool.not_eq_true];intro e;rw[(h.bd d hb).2 e] at h2;cases h2
 have hh:=h.hf d hb qK;obtain⟨f1,f2,f3⟩:=hx.df hc h.ep.2 hs;have hl:(eE (rU s x)).length=96:=lX _ hx.dl;have hxl:=KG rX;have hn:=KJ (x:=x) (b:=d) h.seq f3;have Q2:(wz s d x).s.au=xa:=Xt;have HB:u.s.data=(wz s d x).s.data:=hxd.symm;have hgd:Gd (gQ (vw g s.a) d (wz s d x)) c:=h.gd.copy hn rfl (fun e=>Nu e.symm) hu (by rw[Q2];exact Hu) hxf HB (fun y hy=>(hall y hy).1) Ns;have hmt:mt (gQ (vw g s.a) d (wz s d x)) (wz s d x):=Sj (fun e=>Nu e.symm) hu hxf hxk.symm (Hu.1.trans Q2.symm) HB hn
 have UD:∀f∈gQ (vw g s.a) d (wz s d x) d,f.s.fr=v+1∧mt (gQ (vw g s.a) d (wz s d x)) f:=fun f hf=>by
  rcases bP.1 hf with hf|⟨_,rfl⟩
  ·exact⟨(hall f hf).1,(qw hn hf).2 (hall f hf).2⟩
  ·exact⟨hxf,hmt⟩
 have Jp:∀i,∀f∈gQ (vw g s.a) d (wz s d x) i,f.s.seq≤s.f.seq+1:=fun i f hf=>by
  rcases bP.1 hf with hf|⟨_,rfl⟩
  ·have:=h.seq i f hf;omega
  ·show (rU s x).seq≤_;omega
 have Ht:∀i∈g.us,(s.a.bk i).aV=false→lq (gQ (vw g s.a) d (wz s d x)) i→s.f.po.how i=some 1∨s.f.po.how i=some 2:=fun i hi hf hs'=>by
  obtain⟨t,ht,hm⟩:=hs';by_cases bx:i=d
  ·subst bx;exact absurd (UD t ht).2 hm
  ·rcases bP.1 ht with ht|⟨e,_⟩
   ·exact h.iV hi hf ⟨t,ht,fun hh=>hm ((qw hn ht).2 hh)⟩
   ·exact absurd e bx
 obtain⟨a',ho⟩:=Ce h hc hb (by rw[h2];simp) hp hx hs;rcases ho with⟨ho,o1,o2,he⟩|⟨ho,o1,o2,o3,he⟩|⟨ho,o1,o2,o3,he⟩
 ·left;rw[ho] at cI⊢;have hput:x.au=xa:=Xt;rw[hput] at cI⊢;have hcm:=PJ (q:=s.next d) rX Nu;refine⟨rfl, ?_,hcm,rfl⟩;have hv:=z8 h.ph hb hh f1 f2 hx.a he.tovC rfl (by rw[bO]);have hbk:=fun i=>he.tovC.bk hlt i
  have hfl:∀i,(a'.bk i).aV=(s.a.bk i).aV:=je hlt he.tovC (dZ _)
  have Rh:∀i,(a'.bk i).cu=(s.a.bk i).cu:=fun i=>by
   rw[hbk];split
   ·rename_i e;subst e;exact bO _
   ·rfl
  have mq:=fun i=>ij (f:={s.f with seq:=jl s.f.seq,pm:=s.f.pm.put xa (some (d,s.next d))}) hlt he.tovC i
  exact {
   ok:=cI,on:=o1,way:=o2,aR:=by rw[he.aR];exact h.aR,ep:=h.ep
   ph:=h.ph.prog hb hp hh hl he.tovC rfl (bO _) (fun hn=>iL (h.ph.doom d hb hn))
   gd:=by rw[hv];exact hgd
   cx:=fun y=>by
    show ((s.f.pm.put xa (some (d,s.next d))).at y=none∧_)∨∃b' p,(s.f.pm.put xa (some (d,s.next d))).at y=some (b',p)∧_
    rw[hv,PI hxl];have hdc:(wz s d x).s.data=c (wz s d x).s.au:=by rw[Q2, ←HB];exact Hu.2.1
    by_cases hy:y=xa
    ·subst hy;right;refine⟨d,s.next d,if_pos rfl,wz s d x,bP.2 (.inr ⟨rfl,rfl⟩),rfl,Q2,by rw[←HB];exact Hu.2.1,fun b' z hz hza hzs=> ?_⟩;rcases bP.1 hz with hz|⟨_,rfl⟩
     ·have:=hn b' z hz;omega
     ·rw[←HB];exact Hu.2.1
    ·rw[if_neg hy];rcases h.cx y with⟨h1,h2⟩|⟨b',p,h1,f,h2,h3,h4⟩
     ·refine .inl ⟨h1,fun i f hf=> ?_⟩;rcases bP.1 hf with hf|⟨_,rfl⟩
      ·exact h2 i f hf
      ·rw[Q2];exact fun e=>hy e.symm
     ·exact .inr ⟨b',p,h1,f,bP.2 (.inl h2),h3,h4.copy hdc⟩
   seq:=fun i f hf=>by
    rw[hv] at hf;have:=Jp i f hf;have:jl s.f.seq=s.f.seq+1:=f3;show _≤jl s.f.seq
    omega
   sn:=by show jl s.f.seq≤N;have:jl s.f.seq=s.f.seq+1:=f3;omega
   bd:=fun i hi=>by show s.f.po.how i=some 3↔(a'.bk i).aV=true;rw[hfl];exact h.bd i hi
   hf:=fun i hi e=>by show (a'.bk i).cu=false;rw[Rh];exact h.hf i hi (by rw[←hfl];exact e)
   dD:=fun i hi e ht=>by
    rw[mq,if_neg (fun e2=>ht v (by rw[e2]))];exact h.dD i hi e ht
   gj:=fun i hi e=>by
    have e:s.f.po.how i=some 1:=e;have bx:i≠d:=fun e2=>by rw[e2,h2] at e;cases e
    show vw g a' i=[]∨lq (vw g a') i
    rw[hv];refine(h.gj i hi e).imp (fun e=> ?_) (fun e=>e.add hn);unfold gQ;rw[if_neg bx];exact e
   kF:=fun i hi e=>by
    have e:s.f.po.how i=some 2:=e;have bx:i≠d:=fun e2=>by rw[e2,h2] at e;cases e
    show vw g a' i=[]∨lq (vw g a') i∨_
    rw[hv,mq,if_neg bx];refine(h.kF i hi e).imp (fun e=> ?_) (fun e=>e.imp (fun e=>e.add hn) id);unfold gQ;rw[if_neg bx];exact e
   El:=fun d' v' e=>by
    cases e;refine⟨hb,X6,Nu,h2,pF, ?_, ?_, ?_⟩
    ·show lq (vw g a') v;rw[hv];exact Ns.add hn
    ·show∀f∈vw g a' d,_∧mt (vw g a') f;rw[hv];exact UD
    ·rw[mq,if_pos rfl];show ((((s.a.bk d).pg++[eE (rU s x)]).length:Nat):Int)+((s.f.pm.put xa (some (d,s.next d))).eu v:Nat)<g.aB
     rw[length_append];have:=ya s d;simp only[length_singleton];omega
   Hz:=h.Hz
   one:=h.one
   rT:=h.rT}
 ·right;left;rw[ho] at cI⊢;have gC:s.f.po.set d 3=s.f.po.cF d 3:=fY (by rw[h2];simp) (.inl (by omega));rw[gC] at cI⊢;have hv:vw g a'=vw g s.a:=he.tovC.xE hlt hb (tw (th (s:=rU s x) hx.dl (n:=0) (by omega)) (by show (aH (s.a.bk d)).cu=_;rw[bO]) rfl);have hbk:=fun i=>he.tovC.bk hlt i
  have cX:=fun i=>fI (p:=s.f.po) (b:=d) (h:=3) i (h.ok.how hb)
  have jP:=fun k=>eX (p:=s.f.po) (b:=d) (h:=3) k h2
  have Rh:∀i,(a'.bk i).cu=(s.a.bk i).cu:=fun i=>by
   rw[hbk];split
   ·rename_i e;subst e;exact bO _
   ·rfl
  have mq:=fun i=>ij (f:={s.f with seq:=jl s.f.seq,po:=s.f.po.cF d 3}) hlt he.tovC i
  have c2:=jP 2;have c3:=jP 3;have c0:=jP 0;have hone:=h.one;simp only[if_true,show ((0:Nat)=3)=False from by simp,show ((3:Nat)=2)=False from by simp,show ((0:Nat)=2)=False from by simp,show ((3:Nat)=0)=False from by simp,if_false] at c2 c3 c0;refine⟨rfl, ?_,rfl,by show (s.f.po.cF d 3).how v=some 1;rw[cX,if_neg (fun e=>Nu e.symm)];exact pF,by show (s.f.po.cF d 3).count 3=_;omega,by show (s.f.po.cF d 3).count 2=_;omega⟩
  exact {
   ok:=cI,on:=o1,way:=o2,aR:=by rw[he.aR];exact h.aR,ep:=h.ep
   ph:=h.ph.prog hb hp hh (by rw[ln];exact hl) he.tovC rfl (bO _) (fun hn=>absurd (Rn.PL h.ph hb o3) hn)
   gd:=by rw[hv];exact h.gd
   cx:=fun y=>by rw[hv];exact h.cx y
   seq:=fun i f hf=>by
    rw[hv] at hf;have:=h.seq i f hf;have:jl s.f.seq=s.f.seq+1:=f3;show _≤jl s.f.seq
    omega
   sn:=by show jl s.f.seq≤N;have:jl s.f.seq=s.f.seq+1:=f3;omega
   bd:=fun i hi=>by
    show (s.f.po.cF d 3).how i=some 3↔(a'.bk i).aV=true
    rw[cX,hbk];by_cases bx:i=d
    ·simp [bx]
    ·rw[if_neg bx,if_neg bx];exact h.bd i hi
   hf:=fun i hi e=>by
    show (a'.bk i).cu=false
    rw[Rh];have e:(a'.bk i).aV=false:=e;rw[hbk] at e;by_cases bx:i=d
    ·rw[bx];exact hh
    ·rw[if_neg bx] at e;exact h.hf i hi e
   dD:=fun i hi e ht=>by
    have e:(s.f.po.cF d 3).how i=some 0:=e;rw[cX] at e;by_cases bx:i=d
    ·rw[if_pos bx] at e;cases e
    ·rw[if_neg bx] at e;rw[mq,if_neg bx];exact h.dD i hi e (fun v' e2=>bx (by cases e2;rfl))
   gj:=fun i hi e=>by
    have e:(s.f.po.cF d 3).how i=some 1:=e;rw[cX] at e;show vw g a' i=[]∨lq (vw g a') i
    rw[hv];by_cases bx:i=d
    ·rw[if_pos bx] at e;cases e
    ·rw[if_neg bx] at e;exact h.gj i hi e
   kF:=fun i hi e=>by
    have e:(s.f.po.cF d 3).how i=some 2:=e;rw[cX] at e;show vw g a' i=[]∨lq (vw g a') i∨_
    rw[hv];by_cases bx:i=d
    ·rw[if_pos bx] at e;cases e
    ·rw[if_neg bx] at e;rw[mq,if_neg bx];exact h.kF i hi e
   El:=fun d v e=>by cases e
   Hz:=fun e=>absurd rfl e
   one:=by show (s.f.po.cF d 3).count 2≤1;omega
   rT:=by
    show ((s.f.po.cF d 3).count 3:Int)≤g.aI→_≤(((s.f.po.cF d 3).count 0:Nat):Int)+((s.f.po.cF d 3).count 3:Nat)
    intro hle;have:=h.rT (by omega)
    omega}
 ·right;right;rw[ho] at cI⊢;have hwo:=z9 (k:=aH (s.a.bk d)) h.ph hg hb hl (bF _) o3 he.tovC;refine⟨rfl,o2,⟨o1,hwo,fun cut=>.inl ?_⟩⟩;by_cases Lk:96≤cut
  ·exact h.aa1 hb hh hp hx f1 f2 hl o3 he.tovC Lk hgd Ht (fun i f hf=>Nat.le_trans (Jp i f hf) hN) (fun i hi hf hs'=>by
    by_cases bx:i=d
    ·exact .inr ⟨v,by rw[bx]⟩
    ·exact h.GA hi hf (Cf hn bx hs'))
  ·exact h.aa2 hb hh hp hx hl o3 he.tovC (by omega)
theorem Rn.T8 (h:Rn g s c ds N tg) {b:Nat} (hb:b∈g.us) (hf:(s.a.bk b).aV=false) (hn:vw g s.a b≠[]):s.f.po.how b=some 1∨s.f.po.how b=some 2∨∃v,tg=some (b,v):=by
 rcases h.ok.WC hb with e|e|e|e
 ·by_cases ht:∃v,tg=some (b,v)
  ·exact .inr (.inr ht)
  ·have:=h.dD b hb e (fun v hv=>ht ⟨v,hv⟩);exact absurd (z6 (.inl (eq_nil_of_length_eq_zero this))) hn
 ·exact .inl e
 ·exact .inr (.inl e)
 ·rw[(h.bd b hb).1 e] at hf;cases hf
theorem tz {v:Vw} {b w:Nat} (h:lq (k8 v w) b):b≠w∧v b≠[]:=by
 obtain⟨f,hf,_⟩:=h;obtain⟨h1,h2⟩:=cW.1 hf;exact⟨h2,fun e=>by rw[e] at h1;cases h1⟩
theorem nX {a':Ar} {v:Nat} {k:Bk} (hv:v<s.a.bs.length) (hu:v∈g.us) (he:vC s.a a' v k) (hk:k.pg=[]∨k.cu=true):vw g a'=k8 (vw g s.a) v:=by
 rw[he.vw hv hu];funext i;unfold k8;split
 ·exact Cc hk
 ·rfl
theorem Rn.Em (h:Rn g s c ds N tg) {v:Nat} (hc:s.f.pm.eu v=0):Gd (k8 (vw g s.a) v) c:=
 h.gd.E3 fun x=>by
   rcases h.cx x with⟨h1,h2⟩|⟨b,p,h1,f,h2,h3,h4⟩
   ·exact .inl h2
   ·exact .inr ⟨b,fun e=>by rw[e] at h1;exact qE hc x p h1,f,h2,h4⟩
theorem Rn.T9 (h:Rn g s c ds N tg) {v:Nat} (hc:s.f.pm.eu v=0) (x:Nat):(s.f.pm.at x=none∧∀b,∀f∈k8 (vw g s.a) v b,f.s.au≠x)∨∃b p,s.f.pm.at x=some (b,p)∧∃f∈k8 (vw g s.a) v b,f.p=p∧xn (k8 (vw g s.a) v) c x f:=by
 rcases h.cx x with⟨h1,h2⟩|⟨b,p,h1,f,h2,h3,h4⟩
 ·exact .inl ⟨h1,fun b f hf=>h2 b f (cW.1 hf).1⟩
 ·exact .inr ⟨b,p,h1,f,cW.2 ⟨h2,fun e=>by rw[e] at h1;exact qE hc x p h1⟩,h3,h4.E3⟩
theorem IS {a a':Ar} {b:Nat} {bd:Bool} {k:Bk} (hb:b<a.bs.length) (hw:a'.way=.er b bd) (he:vC a a' b k) (cut:Int):vC a (bZ a' cut) b (if 96≤cut∧bd=false then v9 k else if cut>0 then {k with cu:=decide (0<k.pg.length)} else k):=by
 have hk:a'.bs[b]? =some k:=by
  rw[he.bs,List.getElem?_set];simp [hb]
 unfold bZ qp;rw[hw];simp only;rw[hk];simp only;by_cases h1:96≤cut∧bd=false
 ·rw[if_pos h1,if_pos h1];refine⟨?_,he.aB⟩;show a'.bs.set b _=_
  rw[he.bs,set_set]
 ·rw[if_neg h1,if_neg h1];by_cases hc:cut>0
  ·rw[if_pos hc,if_pos hc];refine⟨?_,he.aB⟩;show a'.bs.set b _=_
   rw[he.bs,set_set]
  ·rw[if_neg hc,if_neg hc];exact⟨he.bs,he.aB⟩
theorem vj (h:rD g s.a ds) {v:Nat} (hv:v∈g.us) {a':Ar} (he:vC s.a a' v (v9 (aH (s.a.bk v)))):rD g a' ds:=
 h.XR hv he (by show ((0:Nat):Int)≤_;have:=h.len _ (jd (h.lt hv));omega) (fun d hd=>by cases hd) (fun e=>by cases e) (fun hn=>iL (h.doom v hv hn))
theorem Mo (h:rD g s.a ds) {v:Nat} (hv:v∈g.us) {a':Ar} (he:vC s.a a' v (aH (s.a.bk v))):rD g a' ds:=
 h.XR hv he (by rw[bF];exact h.len _ (jd (h.lt hv))) (by rw[bF];exact h.d _ (jd (h.lt hv))) (by rw[bO,bF];exact h.cu v hv) (fun hn=>iL (h.doom v hv hn))
theorem PM (h:rD g s.a ds) {v:Nat} (hv:v∈g.us) {a':Ar} (he:vC s.a a' v {aH (s.a.bk v) with cu:=decide (0<(aH (s.a.bk v)).pg.length)}):rD g a' ds:=
 h.XR hv he (by show (((aH (s.a.bk v)).pg.length:Nat):Int)≤_;rw[bF];exact h.len _ (jd (h.lt hv)))
   (by show∀d∈(aH (s.a.bk v)).pg,_;rw[bF];exact h.d _ (jd (h.lt hv)))
   (fun e=>by
    have e:decide (0<(aH (s.a.bk v)).pg.length)=true:=e;have e:=of_decide_eq_true e;show (aH (s.a.bk v)).pg≠[]
    intro e2;rw[e2] at e;exact absurd e (Nat.lt_irrefl 0))
   (fun hn=>iL (h.doom v hv hn))
theorem rD.GC (h:rD g s.a ds) {v:Nat} (hv:v∈g.us) {a':Ar} {bd:Bool} (hw:a'.way=.er v bd) (he:vC s.a a' v (aH (s.a.bk v))) (cut:Int):rD g (bZ a' cut) ds∧(∀i,((bZ a' cut).bk i).aV=(s.a.bk i).aV)∧(vw g (bZ a' cut)=vw g s.a∨vw g (bZ a' cut)=k8 (vw g s.a) v):=by
 have hlt:=h.lt hv;have hr:=IS hlt hw he cut;by_cases h1:96≤cut∧bd=false
 ·rw[if_pos h1] at hr;exact⟨vj h hv hr,je hlt hr (dZ _),.inr (nX hlt hv hr (.inl rfl))⟩
 ·rw[if_neg h1] at hr;by_cases h2:cut>0
  ·rw[if_pos h2] at hr;refine⟨PM h hv hr,je hlt hr (dZ _),.inr (nX hlt hv hr ?_)⟩;by_cases h3:(aH (s.a.bk v)).pg=[]
   ·exact .inl h3
   ·right;show decide _=true
    exact decide_eq_true (length_pos_iff.2 h3)
  ·rw[if_neg h2] at hr;exact⟨Mo h hv hr,je hlt hr (dZ _),.inl (hr.xE hlt hv (vd _ _ _))⟩
theorem Rn.GC (h:Rn g s c ds N tg) {v:Nat} (hv:v∈g.us) {a':Ar} {bd:Bool} (hw:a'.way=.er v bd) (he:vC s.a a' v (aH (s.a.bk v))) (cut:Int):rD g (bZ a' cut) ds∧(∀i,((bZ a' cut).bk i).aV=(s.a.bk i).aV)∧(vw g (bZ a' cut)=vw g s.a∨vw g (bZ a' cut)=k8 (vw g s.a) v):=h.ph.GC hv hw he cut
theorem Aa {a':Ar} {v:Nat} {bd:Bool} {k:Bk} (hlt:v<s.a.bs.length) (hw:a'.way=.er v bd) (he:vC s.a a' v k):pe a':=by
 unfold pe;rw[hw];show v<a'.bs.length
 rw[he.bs,length_set];exact hlt
theorem tC {v:Nat} (hlt:v<s.a.bs.length) (on:s.a.off=false) (way:s.a.way=.no) (aR:s.a.aR≤s.f.ep):∃a',(bN s v=(FS.bG {s with a:=a'} v 0,0)∧a'.off=false∧a'.way=.no∧Hy s.a a' v (v9 (aH (s.a.bk v))))∨(bN s v=(FS.bG {s with a:=a'} v 3,0)∧a'.off=false∧a'.way=.no∧(aH (s.a.bk v)).bd=true∧Hy s.a a' v {aH (s.a.bk v) with aV:=true})∨(bN s v=({s with a:=a'},9)∧a'.off=true∧s.a.bD>0∧a'.way=.er v (aH (s.a.bk v)).bd∧Hy s.a a' v (aH (s.a.bk v))):=by
 obtain⟨a',r,he,ho⟩:=Mk (e:=(s.f.ep:Int)) hlt on aR;refine⟨a', ?_⟩;unfold bN;rw[he];simp only;rcases ho with⟨rfl,h1,h2,h3,h4⟩|⟨rfl,h1,h2,h3,h4⟩|⟨rfl,h1,h2,h3,h4⟩
 ·exact .inl ⟨by simp,h1,h3.trans way,h4⟩
 ·exact .inr (.inl ⟨by simp,h1,h3.trans way,h2,h4⟩)
 ·exact .inr (.inr ⟨by simp,h1,h2,h3,h4⟩)
theorem Ab (h:rD g s.a ds) {v:Nat} (hv:v∈g.us) (hd:(aH (s.a.bk v)).bd=true) {a':Ar} (he:vC s.a a' v {aH (s.a.bk v) with aV:=true}):rD g a' ds:=
 h.XR hv he (by show (((aH (s.a.bk v)).pg.length:Nat):Int)≤_;rw[bF];exact h.len _ (jd (h.lt hv)))
   (by show∀d∈(aH (s.a.bk v)).pg,_;rw[bF];exact h.d _ (jd (h.lt hv)))
   (by show (aH (s.a.bk v)).cu=true→(aH (s.a.bk v)).pg≠[];rw[bO,bF];exact h.cu v hv)
   (fun hn=>absurd (Rn.PL h hv hd) hn)
theorem Rn.zQ (h:Rn g s c ds N none) (hg:g.In) {v:Nat} (hv:v∈g.us) (pF:s.f.po.how v=some 1) (hc:s.f.pm.eu v=0):((bN s v).2=0∧Rn g (bN s v).1 c ds N none∧(bN s v).1.f.po.count 2=s.f.po.count 2∧s.f.po.count 0+s.f.po.count 3+1=(bN s v).1.f.po.count 0+(bN s v).1.f.po.count 3)∨((bN s v).2=9∧s.a.bD>0∧kv g (bN s v).1.a c c ds N):=by
 have cI:=h.ok.bN hg hv;have hlt:=h.ph.lt hv
 have qK:(s.a.bk v).aV=false:=by
  rw[←Bool.not_eq_true];intro e;rw[(h.bd v hv).2 e] at pF;cases pF
 have hgd:=h.Em hc;obtain⟨a',ho⟩:=tC hlt h.on h.way h.aR;rcases ho with⟨ho,o1,o2,he⟩|⟨ho,o1,o2,o3,he⟩|⟨ho,o1,o2,o3,he⟩
 ·left;rw[ho] at cI⊢;unfold FS.bG at cI⊢;have gC:s.f.po.set v 0=s.f.po.cF v 0:=fY (by rw[pF];simp) (.inl (by omega));simp only[gC] at cI⊢;have rY:=nX hlt hv he.tovC (.inl rfl);have hbk:=fun i=>he.tovC.bk hlt i
  have hfl:∀i,(a'.bk i).aV=(s.a.bk i).aV:=je hlt he.tovC (dZ _);have cX:=fun i=>fI (p:=s.f.po) (b:=v) (h:=0) i (h.ok.how hv)
  have jP:=fun k=>eX (p:=s.f.po) (b:=v) (h:=0) k pF
  have mq:=fun i=>ij (f:={s.f with po:=s.f.po.cF v 0}) hlt he.tovC i
  have c2:=jP 2;have c3:=jP 3;have c0:=jP 0;have hone:=h.one;simp only[if_true,show ((1:Nat)=3)=False from by simp,show ((0:Nat)=2)=False from by simp,show ((1:Nat)=2)=False from by simp,show ((0:Nat)=3)=False from by simp,show ((1:Nat)=0)=False from by simp,if_false] at c2 c3 c0;refine⟨trivial, ?_,by omega,by omega⟩
  exact {
   ok:=cI,on:=o1,way:=o2,aR:=by rw[he.aR];exact h.aR,ep:=h.ep
   ph:=vj h.ph hv he.tovC
   gd:=by rw[rY];exact hgd
   cx:=fun y=>by rw[rY];exact h.T9 hc y
   seq:=fun i f hf=>by rw[rY] at hf;exact h.seq i f (cW.1 hf).1
   sn:=h.sn
   bd:=fun i hi=>by
    show (s.f.po.cF v 0).how i=some 3↔(a'.bk i).aV=true
    rw[cX,hfl];by_cases bx:i=v
    ·rw[bx,if_pos rfl,qK];simp
    ·rw[if_neg bx];exact h.bd i hi
   hf:=fun i hi e=>by
    show (a'.bk i).cu=false
    have e:(a'.bk i).aV=false:=e;rw[hfl] at e;rw[hbk];by_cases bx:i=v
    ·rw[if_pos bx];rfl
    ·rw[if_neg bx];exact h.hf i hi e
   dD:=fun i hi e ht=>by
    have e:(s.f.po.cF v 0).how i=some 0:=e;rw[cX] at e;rw[mq];by_cases bx:i=v
    ·rw[if_pos bx];rfl
    ·rw[if_neg bx] at e⊢;exact h.dD i hi e ht
   gj:=fun i hi e=>by
    have e:(s.f.po.cF v 0).how i=some 1:=e;rw[cX] at e;show vw g a' i=[]∨lq (vw g a') i
    rw[rY];by_cases bx:i=v
    ·rw[if_pos bx] at e;cases e
    ·rw[if_neg bx] at e;refine(h.gj i hi e).imp (fun e=> ?_) (fun e=>e.E3 bx);unfold k8;rw[if_neg bx];exact e
   kF:=fun i hi e=>by
    have e:(s.f.po.cF v 0).how i=some 2:=e;rw[cX] at e;show vw g a' i=[]∨lq (vw g a') i∨_
    rw[rY];by_cases bx:i=v
    ·rw[if_pos bx] at e;cases e
    ·rw[if_neg bx] at e;rw[mq,if_neg bx];refine(h.kF i hi e).imp (fun e=> ?_) (fun e=>e.imp (fun e=>e.E3 bx) id);unfold k8;rw[if_neg bx];exact e
   El:=fun d v e=>by cases e
   Hz:=fun e=>absurd rfl e
   one:=by show (s.f.po.cF v 0).count 2≤1;omega
   rT:=by
    show ((s.f.po.cF v 0).count 3:Int)≤g.aI→_≤(((s.f.po.cF v 0).count 0:Nat):Int)+((s.f.po.cF v 0).count 3:Nat)
    intro hle;have:=h.rT (by omega)
    omega}
 ·left;rw[ho] at cI⊢;unfold FS.bG at cI⊢;have gC:s.f.po.set v 3=s.f.po.cF v 3:=fY (by rw[pF];simp) (.inl (by omega));simp only[gC] at cI⊢;have rY:vw g a'=vw g s.a:=he.tovC.xE hlt hv (by show Bk.eT _ _ _=_;unfold Bk.eT;simp only[bO,bF]);have hbk:=fun i=>he.tovC.bk hlt i
  have cX:=fun i=>fI (p:=s.f.po) (b:=v) (h:=3) i (h.ok.how hv)
  have jP:=fun k=>eX (p:=s.f.po) (b:=v) (h:=3) k pF
  have Rh:∀i,(a'.bk i).cu=(s.a.bk i).cu:=fun i=>by
   rw[hbk];split
   ·rename_i e;subst e;exact bO _
   ·rfl
  have mq:=fun i=>ij (f:={s.f with po:=s.f.po.cF v 3}) hlt he.tovC i
  have c2:=jP 2;have c3:=jP 3;have c0:=jP 0;have hone:=h.one;simp only[if_true,show ((1:Nat)=3)=False from by simp,show ((3:Nat)=2)=False from by simp,show ((1:Nat)=2)=False from by simp,show ((3:Nat)=0)=False from by simp,show ((1:Nat)=0)=False from by simp,if_false] at c2 c3 c0;refine⟨trivial, ?_,by omega,by omega⟩
  exact {
   ok:=cI,on:=o1,way:=o2,aR:=by rw[he.aR];exact h.aR,ep:=h.ep
   ph:=Ab h.ph hv o3 he.tovC
   gd:=by rw[rY];exact h.gd
   cx:=fun y=>by rw[rY];exact h.cx y
   seq:=fun i f hf=>by rw[rY] at hf;exact h.seq i f hf
   sn:=h.sn
   bd:=fun i hi=>by
    show (s.f.po.cF v 3).how i=some 3↔(a'.bk i).aV=true
    rw[cX,hbk];by_cases bx:i=v
    ·simp [bx]
    ·rw[if_neg bx,if_neg bx];exact h.bd i hi
   hf:=fun i hi e=>by
    show (a'.bk i).cu=false
    have e:(a'.bk i).aV=false:=e;rw[Rh];rw[hbk] at e;by_cases bx:i=v
    ·rw[bx];exact h.hf v hv qK
    ·rw[if_neg bx] at e;exact h.hf i hi e
   dD:=fun i hi e ht=>by
    have e:(s.f.po.cF v 3).how i=some 0:=e;rw[cX] at e;by_cases bx:i=v
    ·rw[if_pos bx] at e;cases e
    ·rw[if_neg bx] at e;rw[mq,if_neg bx];exact h.dD i hi e ht
   gj:=fun i hi e=>by
    have e:(s.f.po.cF v 3).how i=some 1:=e;rw[cX] at e;show vw g a' i=[]∨lq (vw g a') i
    rw[rY];by_cases bx:i=v
    ·rw[if_pos bx] at e;cases e
    ·rw[if_neg bx] at e;exact h.gj i hi e
   kF:=fun i hi e=>by
    have e:(s.f.po.cF v 3).how i=some 2:=e;rw[cX] at e;show vw g a' i=[]∨lq (vw g a') i∨_
    rw[rY];by_cases bx:i=v
    ·rw[if_pos bx] at e;cases e
    ·rw[if_neg bx] at e;rw[mq,if_neg bx];exact h.kF i hi e
   El:=fun d v e=>by cases e
   Hz:=fun e=>absurd rfl e
   one:=by show (s.f.po.cF v 3).count 2≤1;omega
   rT:=by
    show ((s.f.po.cF v 3).count 3:Int)≤g.aI→_≤(((s.f.po.cF v 3).count 0:Nat):Int)+((s.f.po.cF v 3).count 3:Nat)
    intro hle;have:=h.rT (by omega)
    omega}
 ·right;rw[ho];refine⟨rfl,o2,⟨o1,Aa hlt o3 he.tovC,fun cut=>.inl ?_⟩⟩;obtain⟨p1,p2,p3⟩:=h.GC hv o3 he.tovC cut;rcases p3 with p3|p3
  ·refine⟨p1,by rw[p3];exact h.gd,h.XS (fun i _=>p2 i) (fun i hi hf hs=> ?_),by rw[p3];exact fun i f hf=>Nat.le_trans (h.seq i f hf) h.sn,h.IP (fun i _=>p2 i) (fun i hi hf hs=>by rw[p3] at hs;exact h.GA hi hf hs)⟩;rw[p3] at hs;rw[p2 i] at hf;exact h.iV hi hf hs
  ·refine⟨p1,by rw[p3];exact hgd,h.XS (fun i _=>p2 i) (fun i hi hf hs=> ?_),by rw[p3];exact fun i f hf=>Nat.le_trans (h.seq i f (cW.1 hf).1) h.sn,h.IP (fun i _=>p2 i) (fun i hi hf hs=>by rw[p3] at hs;exact h.GA hi hf (rF hs).2)⟩;rw[p3] at hs;rw[p2 i] at hf;rcases h.T8 hi hf (tz hs).2 with e|e|⟨v,e⟩
   ·exact .inl e
   ·exact .inr e
   ·cases e
theorem Rn.swap {d v:Nat} (h:Rn g s c ds N (some (d,v))) (hg:g.In) (hc:s.f.pm.eu v=0) (h20:s.f.po.count 2=0):((bN s v).2=0∧Rn g ((bN s v).1.bG d 2) c ds N none∧((bN s v).1.bG d 2).f.po.kF=some d∧(((bN s v).1.bG d 2).next d:Int)<g.aB)∨((bN s v).2=9∧s.a.bD>0∧kv g (bN s v).1.a c c ds N):=by
 obtain⟨hd,hv,Nu,Nr,pF,Ns,hall,hroom⟩:=h.El d v rfl;have cI:=h.ok.bN hg hv;have hlt:=h.ph.lt hv
 have qK:(s.a.bk v).aV=false:=by
  rw[←Bool.not_eq_true];intro e;rw[(h.bd v hv).2 e] at pF;cases pF
 have hgd:=h.Em hc;obtain⟨a',ho⟩:=tC hlt h.on h.way h.aR;have hvd:¬v=d:=fun e=>Nu e.symm
 rcases ho with⟨ho,o1,o2,he⟩|⟨ho,o1,o2,o3,he⟩|⟨ho,o1,o2,o3,he⟩
 ·left;rw[ho] at cI⊢;have cI:=cI.bG hg hd (h:=2) (by omega);unfold FS.bG at cI⊢;have gC:s.f.po.set v 0=s.f.po.cF v 0:=fY (by rw[pF];simp) (.inl (by omega));simp only[gC] at cI⊢;have vA:=fun i=>fI (p:=s.f.po) (b:=v) (h:=0) i (h.ok.how hv)
  have Nd:(s.f.po.cF v 0).how d=some 0:=by rw[vA,if_neg Nu];exact Nr
  have AG:=fun k=>eX (p:=s.f.po) (b:=v) (h:=0) k pF
  have d2:=AG 2;simp only[show ((0:Nat)=2)=False from by simp,show ((1:Nat)=2)=False from by simp,if_false] at d2;have AH:(s.f.po.cF v 0).set d 2=(s.f.po.cF v 0).cF d 2:=fY (by rw[Nd];simp) (.inr (by omega));simp only[AH] at cI⊢;obtain⟨po,tO⟩:∃po,po=(s.f.po.cF v 0).cF d 2:=⟨_,rfl⟩
  have cX:∀i,po.how i=if i=d then some 2 else if i=v then some 0 else s.f.po.how i:=fun i=>by
   rw[tO,fI i (by rw[Nd];rfl),vA]
  have AI:=fun k=>eX (p:=s.f.po.cF v 0) (b:=d) (h:=2) k Nd
  have c2:po.count 2=1:=by
   have:=AI 2;simp only[if_true,show ((0:Nat)=2)=False from by simp,if_false] at this;rw[tO];omega
  have c3:po.count 3=s.f.po.count 3:=by
   have:=AI 3;have:=AG 3;simp only[show ((0:Nat)=3)=False from by simp,show ((2:Nat)=3)=False from by simp,show ((1:Nat)=3)=False from by simp,if_false] at*;rw[tO];omega
  have c0:po.count 0=s.f.po.count 0:=by
   have:=AI 0;have:=AG 0;simp only[if_true,show ((2:Nat)=0)=False from by simp,show ((1:Nat)=0)=False from by simp,if_false] at*;rw[tO];omega
  rw[←tO] at cI⊢;have rY:=nX hlt hv he.tovC (.inl rfl);have hbk:=fun i=>he.tovC.bk hlt i
  have hfl:∀i,(a'.bk i).aV=(s.a.bk i).aV:=je hlt he.tovC (dZ _);have mq:=fun i=>ij (f:={s.f with po:=po}) hlt he.tovC i
  have vz:((FS.next ⟨a',{s.f with po:=po}⟩ d:Nat):Int)<g.aB:=by rw[mq,if_neg Nu];omega
  have hpd:po.how d=some 2:=by rw[cX,if_pos rfl]
  have Xv:po.kF=some d:=wx cI.po cI.us hpd (by show po.count 2≤1;omega);refine⟨trivial, ?_,Xv,vz⟩
  exact {
   ok:=cI,on:=o1,way:=o2,aR:=by rw[he.aR];exact h.aR,ep:=h.ep
   ph:=vj h.ph hv he.tovC
   gd:=by rw[rY];exact hgd
   cx:=fun y=>by rw[rY];exact h.T9 hc y
   seq:=fun i f hf=>by rw[rY] at hf;exact h.seq i f (cW.1 hf).1
   sn:=h.sn
   bd:=fun i hi=>by
    show po.how i=some 3↔(a'.bk i).aV=true
    rw[cX,hfl];by_cases hid:i=d
    ·rw[hid,if_pos rfl];have:=h.bd d hd;rw[Nr] at this;simpa using this
    rw[if_neg hid];by_cases bx:i=v
    ·rw[bx,if_pos rfl,qK];simp
    ·rw[if_neg bx];exact h.bd i hi
   hf:=fun i hi e=>by
    show (a'.bk i).cu=false
    have e:(a'.bk i).aV=false:=e;rw[hfl] at e;rw[hbk];by_cases bx:i=v
    ·rw[if_pos bx];rfl
    ·rw[if_neg bx];exact h.hf i hi e
   dD:=fun i hi e ht=>by
    have e:po.how i=some 0:=e;rw[cX] at e;rw[mq];by_cases hid:i=d
    ·rw[if_pos hid] at e;cases e
    rw[if_neg hid] at e;by_cases bx:i=v
    ·rw[if_pos bx];rfl
    ·rw[if_neg bx] at e⊢;exact h.dD i hi e (fun v' e2=>hid (by cases e2;rfl))
   gj:=fun i hi e=>by
    have e:po.how i=some 1:=e;rw[cX] at e;show vw g a' i=[]∨lq (vw g a') i
    rw[rY];by_cases hid:i=d
    ·rw[if_pos hid] at e;cases e
    rw[if_neg hid] at e;by_cases bx:i=v
    ·rw[if_pos bx] at e;cases e
    ·rw[if_neg bx] at e;refine(h.gj i hi e).imp (fun e=> ?_) (fun e=>e.E3 bx);unfold k8;rw[if_neg bx];exact e
   kF:=fun i hi e=>by
    have e:po.how i=some 2:=e;rw[cX] at e;by_cases hid:i=d
    ·rw[hid];exact .inr (.inr vz)
    show vw g a' i=[]∨lq (vw g a') i∨_
    rw[rY];rw[if_neg hid] at e;by_cases bx:i=v
    ·rw[if_pos bx] at e;cases e
    ·rw[if_neg bx] at e;rw[mq,if_neg bx];refine(h.kF i hi e).imp (fun e=> ?_) (fun e=>e.imp (fun e=>e.E3 bx) id);unfold k8;rw[if_neg bx];exact e
   El:=fun d v e=>by cases e
   Hz:=fun e=>absurd rfl e
   one:=by show po.count 2≤1;omega
   rT:=by
    show (po.count 3:Int)≤g.aI→_≤((po.count 0:Nat):Int)+(po.count 3:Nat)
    rw[c3,c0]
    exact h.rT}
 ·left;rw[ho] at cI⊢;have cI:=cI.bG hg hd (h:=2) (by omega);unfold FS.bG at cI⊢;have gC:s.f.po.set v 3=s.f.po.cF v 3:=fY (by rw[pF];simp) (.inl (by omega));simp only[gC] at cI⊢;have vA:=fun i=>fI (p:=s.f.po) (b:=v) (h:=3) i (h.ok.how hv)
  have Nd:(s.f.po.cF v 3).how d=some 0:=by rw[vA,if_neg Nu];exact Nr
  have AG:=fun k=>eX (p:=s.f.po) (b:=v) (h:=3) k pF
  have d2:=AG 2;simp only[show ((3:Nat)=2)=False from by simp,show ((1:Nat)=2)=False from by simp,if_false] at d2;have AH:(s.f.po.cF v 3).set d 2=(s.f.po.cF v 3).cF d 2:=fY (by rw[Nd];simp) (.inr (by omega));simp only[AH] at cI⊢;obtain⟨po,tO⟩:∃po,po=(s.f.po.cF v 3).cF d 2:=⟨_,rfl⟩
  have cX:∀i,po.how i=if i=d then some 2 else if i=v then some 3 else s.f.po.how i:=fun i=>by
   rw[tO,fI i (by rw[Nd];rfl),vA]
  have AI:=fun k=>eX (p:=s.f.po.cF v 3) (b:=d) (h:=2) k Nd
  have c2:po.count 2=1:=by
   have:=AI 2;simp only[if_true,show ((0:Nat)=2)=False from by simp,if_false] at this;rw[tO];omega
  have c3:po.count 3=s.f.po.count 3+1:=by
   have:=AI 3;have:=AG 3;simp only[if_true,show ((0:Nat)=3)=False from by simp,show ((2:Nat)=3)=False from by simp,show ((1:Nat)=3)=False from by simp,if_false] at*;rw[tO];omega
  have c0:po.count 0+1=s.f.po.count 0:=by
   have:=AI 0;have:=AG 0;simp only[if_true,show ((2:Nat)=0)=False from by simp,show ((1:Nat)=0)=False from by simp,show ((3:Nat)=0)=False from by simp,if_false] at*;rw[tO];omega
  rw[←tO] at cI⊢;have rY:vw g a'=vw g s.a:=he.tovC.xE hlt hv (by show Bk.eT _ _ _=_;unfold Bk.eT;simp only[bO,bF]);have hbk:=fun i=>he.tovC.bk hlt i
  have mq:=fun i=>ij (f:={s.f with po:=po}) hlt he.tovC i
  have Rh:∀i,(a'.bk i).cu=(s.a.bk i).cu:=fun i=>by
   rw[hbk];split
   ·rename_i e;subst e;exact bO _
   ·rfl
  have vz:((FS.next ⟨a',{s.f with po:=po}⟩ d:Nat):Int)<g.aB:=by rw[mq,if_neg Nu];omega
  have hpd:po.how d=some 2:=by rw[cX,if_pos rfl]
  have Xv:po.kF=some d:=wx cI.po cI.us hpd (by show po.count 2≤1;omega);refine⟨trivial, ?_,Xv,vz⟩
  exact {
   ok:=cI,on:=o1,way:=o2,aR:=by rw[he.aR];exact h.aR,ep:=h.ep
   ph:=Ab h.ph hv o3 he.tovC
   gd:=by rw[rY];exact h.gd
   cx:=fun y=>by rw[rY];exact h.cx y
   seq:=fun i f hf=>by rw[rY] at hf;exact h.seq i f hf
   sn:=h.sn
   bd:=fun i hi=>by
    show po.how i=some 3↔(a'.bk i).aV=true
    rw[cX,hbk];by_cases hid:i=d
    ·rw[hid,if_pos rfl,if_neg Nu];have:=h.bd d hd;rw[Nr] at this;simpa using this
    rw[if_neg hid];by_cases bx:i=v
    ·simp [bx]
    ·rw[if_neg bx,if_neg bx];exact h.bd i hi
   hf:=fun i hi e=>by
    show (a'.bk i).cu=false
    have e:(a'.bk i).aV=false:=e;rw[Rh];rw[hbk] at e;by_cases bx:i=v
    ·rw[bx];exact h.hf v hv qK
    ·rw[if_neg bx] at e;exact h.hf i hi e
   dD:=fun i hi e ht=>by
    have e:po.how i=some 0:=e;rw[cX] at e;rw[mq];by_cases hid:i=d
    ·rw[if_pos hid] at e;cases e
    rw[if_neg hid] at e;by_cases bx:i=v
    ·rw[if_pos bx] at e;cases e
    ·rw[if_neg bx] at e⊢;exact h.dD i hi e (fun v' e2=>hid (by cases e2;rfl))
   gj:=fun i hi e=>by
    have e:po.how i=some 1:=e;rw[cX] at e;show vw g a' i=[]∨lq (vw g a') i
    rw[rY];by_cases hid:i=d
    ·rw[if_pos hid] at e;cases e
    rw[if_neg hid] at e;by_cases bx:i=v
    ·rw[if_pos bx] at e;cases e
    ·rw[if_neg bx] at e;exact h.gj i hi e
   kF:=fun i hi e=>by
    have e:po.how i=some 2:=e;rw[cX] at e;by_cases hid:i=d
    ·rw[hid];exact .inr (.inr vz)
    show vw g a' i=[]∨lq (vw g a') i∨_
    rw[rY];rw[if_neg hid] at e;by_cases bx:i=v
    ·rw[if_pos bx] at e;cases e
    ·rw[if_neg bx] at e;rw[mq,if_neg bx];exact h.kF i hi e
   El:=fun d v e=>by cases e
   Hz:=fun e=>absurd rfl e
   one:=by show po.count 2≤1;omega
   rT:=by
    show (po.count 3:Int)≤g.aI→_≤((po.count 0:Nat):Int)+(po.count 3:Nat)
    intro hle;have:=h.rT (by omega)
    omega}
 ·right;rw[ho];refine⟨rfl,o2,⟨o1,Aa hlt o3 he.tovC,fun cut=>.inl ?_⟩⟩;obtain⟨p1,p2,p3⟩:=h.GC hv o3 he.tovC cut;rcases p3 with p3|p3
  ·refine⟨p1,by rw[p3];exact h.gd,h.XS (fun i _=>p2 i) (fun i hi hf hs=> ?_),by rw[p3];exact fun i f hf=>Nat.le_trans (h.seq i f hf) h.sn,h.IP (fun i _=>p2 i) (fun i hi hf hs=>by rw[p3] at hs;exact h.GA hi hf hs)⟩;rw[p3] at hs;rw[p2 i] at hf;exact h.iV hi hf hs
  ·refine⟨p1,by rw[p3];exact hgd,h.adH (d:=d) hv pF (fun i _=>p2 i) (fun i hi hf hs=> ?_),by rw[p3];exact fun i f hf=>Nat.le_trans (h.seq i f (cW.1 hf).1) h.sn,h.IP (fun i _=>p2 i) (fun i hi hf hs=>by rw[p3] at hs;exact h.GA hi hf (rF hs).2)⟩;rw[p3] at hs;rw[p2 i] at hf;have hne:=tz hs;refine⟨hne.1, ?_⟩;rcases h.T8 hi hf hne.2 with e|e|⟨v',e⟩
   ·exact .inl e
   ·exact .inr (.inl e)
   ·cases e;exact .inr (.inr rfl)
end
structure Kp (s s':FS) (m:Nat):Prop where
 boots:s'.a.boots=s.a.boots
 aR:s'.a.aR=s.a.aR
 ep:s'.f.ep=s.f.ep
 arm:s.a.bD≤0→s'.a.bD≤0∧s'.a.off=s.a.off
 c3:s.f.po.count 3≤s'.f.po.count 3
 seq:s'.f.seq≤s.f.seq+m
theorem Kp.rfl (s:FS) (m:Nat):Kp s s m:=⟨Eq.refl _,Eq.refl _,Eq.refl _,fun h=>⟨h,Eq.refl _⟩,Nat.le_refl _,Nat.le_add_right _ _⟩
theorem Kp.trans {s s' s'':FS} {m m':Nat} (h:Kp s s' m) (h':Kp s' s'' m'):Kp s s'' (m+m') where
 boots:=h'.boots.trans h.boots
 aR:=h'.aR.trans h.aR
 ep:=h'.ep.trans h.ep
 arm:=fun e=>⟨(h'.arm (h.arm e).1).1,(h'.arm (h.arm e).1).2.trans (h.arm e).2⟩
 c3:=Nat.le_trans h.c3 h'.c3
 seq:=by have:=h.seq;have:=h'.seq;omega
theorem Kp.mono {s s':FS} {m m':Nat} (h:Kp s s' m) (hm:m≤m'):Kp s s' m':={h with seq:=by have:=h.seq;omega}
structure Ka (a a':Ar):Prop where
 boots:a'.boots=a.boots
 aR:a'.aR=a.aR
 arm:a.bD≤0→a'.bD≤0∧a'.off=a.off
theorem Ka.rfl (a:Ar):Ka a a:=⟨Eq.refl _,Eq.refl _,fun h=>⟨h,Eq.refl _⟩⟩
theorem nY {a a':Ar} (h1:a'.boots=a.boots) (h2:a'.aR=a.aR) (h3:a'.bD=if a.bD>0 then pE (a.bD-1) else a.bD) (h4:a'.off=if a.bD>0 then decide (pE (a.bD-1)=0) else a.off):Ka a a':=
 ⟨h1,h2,fun h=>by
  rw[h3,h4];have:¬a.bD>0:=by omega
  exact⟨by rw[if_neg this];exact h,by rw[if_neg this]⟩⟩
theorem Sv (a:Ar) (i p:Nat) (d:List UInt8) (e:Int):Ka a (fR a i p d e).1:=by
 unfold fR;split
 ·exact Ka.rfl a
 split
 ·exact Ka.rfl a
 split
 ·exact Ka.rfl a
 split
 ·exact Ka.rfl a
 split
 ·exact Ka.rfl a
 split
 ·exact Ka.rfl a
 split
 ·exact nY rfl rfl rfl rfl
 split
 ·exact nY rfl rfl rfl rfl
 ·exact nY rfl rfl rfl rfl
theorem PN (a:Ar) (i:Nat) (e:Int):Ka a (ej a i e).1:=by
 unfold ej;split
 ·exact Ka.rfl a
 split
 ·exact Ka.rfl a
 split
 ·exact Ka.rfl a
 split
 ·exact nY rfl rfl rfl rfl
 split
 ·exact nY rfl rfl rfl rfl
 ·exact nY rfl rfl rfl rfl
theorem KK {b h:Nat} {l:List (Nat×Nat)} (hh:h=3∨fN b l≠some 3):∀{l':List (Nat×Nat)},l'=l→l'.countP (fun x=>decide (x.2=3))≤(qy b h l').countP (fun x=>decide (x.2=3)):=by
 intro l' e;subst e
 cases ho:fN b l' with
 |none=>
  have:∀l:List (Nat×Nat),fN b l=none→qy b h l=l:=by
   intro l
   induction l with
   |nil=>intro _;rfl
   |cons x l ih=>
    intro h;rw[fN] at h;rw[qy];split at h
    ·cases h
    ·rename_i hx;rw[if_neg hx,ih h]
  rw[this _ ho];exact Nat.le_refl _
 |some w=>
  have:=tx (h:=h) (k:=3) ho;rcases hh with rfl|hh
  ·simp only[if_true] at this;split at this<;>omega
  ·have hw:¬w=3:=fun e=>hh (by rw[ho,e])
   rw[if_neg hw] at this;omega
theorem IT {p:Po} (hp:p.ok) (b h:Nat):p.count 3≤(p.set b h).count 3:=by
 unfold Po.set;split
 ·exact Nat.le_refl _
 ·rename_i hn
  have h1:h=3∨p.how b≠some 3:=by
   by_cases e:h=3
   ·exact .inl e
   ·exact .inr (fun h2=>hn ⟨h2,e⟩)
  split
  ·rename_i h2
   have hu:p.count 3≤p.jL.count 3∧(p.how b≠some 3→p.jL.how b≠some 3):=by
    unfold Po.jL
    cases ho:p.kF with
    |none=>exact⟨Nat.le_refl _,id⟩
    |some o=>
     have ho2:=x7 hp ho;refine⟨?_,fun h3=> ?_⟩
     ·have:=eX (h:=1) 3 ho2;simp at this;exact Nat.le_of_eq this.symm
     ·show (p.cF o 1).how b≠some 3
      rw[fI b (by rw[ho2];rfl)];split
      ·simp
      ·exact h3
   exact Nat.le_trans hu.1 (KK (l:=p.jL.bl) (h1.imp id hu.2) rfl)
  ·exact KK (l:=p.bl) h1 rfl
theorem IU (n:Nat):jl n≤n+1:=Nat.mod_le _ _
section
variable {g:cy} {s:FS}
theorem bo.Mp (h:bo g s) (b w:Nat):Kp s (s.bG b w) 0:=
 ⟨rfl,rfl,rfl,fun e=>⟨e,rfl⟩,IT h.po b w,Nat.le_refl _⟩
theorem bo.IV (h:bo g s) (b:Nat):Kp s (Go.Proofs.YtlgdkndamddpkaaGreat.bN s b).1 0:=by
 have ka:=PN s.a b s.f.ep;have key:∀w,Kp s (FS.bG {s with a:=(ej s.a b s.f.ep).1} b w) 0:=fun w=>⟨ka.boots,ka.aR,rfl,ka.arm,IT h.po b w,Nat.le_refl _⟩
 unfold Go.Proofs.YtlgdkndamddpkaaGreat.bN;split
 ·exact key 0
 split
 ·exact key 3
 ·exact⟨ka.boots,ka.aR,rfl,ka.arm,Nat.le_refl _,Nat.le_refl _⟩
theorem bo.KL (h:bo g s) (b:Nat) (x:Sh):Kp s (Go.Proofs.YtlgdkndamddpkaaGreat.cv s b x).1 1:=by
 have ka:=Sv s.a b (s.next b) (eE {x with ep:=s.f.ep,seq:=jl s.f.seq}) s.f.ep;unfold Go.Proofs.YtlgdkndamddpkaaGreat.cv;simp only;split
 ·exact⟨ka.boots,ka.aR,rfl,ka.arm,IT h.po b 3,IU _⟩
 split
 ·exact⟨ka.boots,ka.aR,rfl,ka.arm,Nat.le_refl _,IU _⟩
 ·exact⟨ka.boots,ka.aR,rfl,ka.arm,Nat.le_refl _,IU _⟩
theorem bo.PO (hg:g.In) (hcap:g.cap<65000) {v:Nat} (hv:v∈g.us):∀(n:Nat) (s:FS) (d:Nat) {r:FS×Int×Nat},pf g n s v d=some r→bo g s→d∈g.us→Kp s r.1 n
 |0,s,d,r,hf,hok,hd=>by cases hf
 |n+1,s,d,r,hf,hok,hd=>by
  rw[pf] at hf;split at hf
  ·cases hf;exact Kp.rfl _ _
  split at hf
  ·cases hf
  rename_i a l No;have har:=vc hok.pm (by rw[No];exact mem_cons_self:a∈s.f.pm.on v);have hna:=hok.na;split at hf
  ·cases hf
  rename_i x tL;obtain⟨hx1,vD⟩:=wo (by omega) tL;have fH:=hok.cv hg hd (x:={x with fr:=v+1}) vD;have k1:=hok.KL d {x with fr:=v+1};split at hf
  case isFalse=>cases hf
  split at hf
  ·split at hf
   ·cases hf;exact k1.mono (by omega)
   ·rename_i d' hfr;exact(k1.trans (bo.PO hg hcap hv n _ d' hf fH (fH.qA hfr))).mono (by omega)
  split at hf
  ·exact(k1.trans (bo.PO hg hcap hv n _ d hf fH hd)).mono (by omega)
  ·cases hf;exact k1.mono (by omega)
theorem bo.PQ (hg:g.In) (hcap:g.cap<65000) {n:Nat} (hok:bo g s) {r:FS×Int} (hf:ig g n s=some r):Kp s r.1 n:=by
 unfold ig at hf;split at hf
 ·cases hf;exact Kp.rfl _ _
 rename_i v hl;have hv:=hok.zR hl;split at hf
 ·cases hf;exact(hok.IV v).mono (by omega)
 split at hf
 ·cases hf;exact Kp.rfl _ _
 rename_i d hfr;split at hf
 ·cases hf;exact Kp.rfl _ _
 split at hf
 ·cases hf
 rename_i s1 e d1 qJ;have h1:=qB hg hcap hv n s d qJ hok (hok.qA hfr);have k1:=bo.PO hg hcap hv n s d qJ hok (hok.qA hfr);split at hf
 ·rename_i h0;have k2:=h1.1.IV v;split at hf
  ·cases hf;exact((k1.trans k2).trans ((h1.1.bN hg hv).Mp d1 2)).mono (by omega)
  ·cases hf;exact(k1.trans k2).mono (by omega)
 ·cases hf;exact k1
theorem bo.Ua (hg:g.In) (hcap:g.cap<65000) {k:Nat}:∀(n:Nat) (s:FS) {r:FS×Int×Nat},bo g s→(jv g k n s=some r→bo g r.1∧(r.2.1=0→r.2.2∈g.us)∧Kp s r.1 (n*k))∧(lZ g k n s=some r→bo g r.1∧(r.2.1=0→r.2.2∈g.us)∧Kp s r.1 ((n+1)*k))
 |n,s,r,hok=>by
  have Cg:∀(n:Nat),(∀(s:FS) {r:FS×Int×Nat},bo g s→jv g k n s=some r→bo g r.1∧(r.2.1=0→r.2.2∈g.us)∧Kp s r.1 (n*k))→∀(s:FS) {r:FS×Int×Nat},bo g s→lZ g k n s=some r→bo g r.1∧(r.2.1=0→r.2.2∈g.us)∧Kp s r.1 ((n+1)*k):=by
   intro n ih s r hok hf;unfold lZ at hf;split at hf
   ·cases hf;exact⟨hok,fun h=>(by cases h),Kp.rfl _ _⟩
   split at hf
   ·split at hf
    ·cases hf
    ·rename_i b hfr;have hb:=hok.qA hfr;obtain⟨h1,h2,h3⟩:=ih _ (hok.bG hg hb (by omega)) hf;exact⟨h1,h2,((hok.Mp b 2).trans h3).mono (by rw[Nat.succ_mul];omega)⟩
   split at hf
   ·cases hf
   rename_i s1 e hc;have gn:=Gy hg hcap hok hc;have k1:=hok.PQ hg hcap hc;split at hf
   ·obtain⟨h1,h2,h3⟩:=ih _ gn hf;exact⟨h1,h2,(k1.trans h3).mono (by rw[Nat.succ_mul];omega)⟩
   ·rename_i he;cases hf;exact⟨gn,fun h=>absurd h he,k1.mono (by rw[Nat.succ_mul];omega)⟩
  have Sz:∀(n:Nat) (s:FS) {r:FS×Int×Nat},bo g s→jv g k n s=some r→bo g r.1∧(r.2.1=0→r.2.2∈g.us)∧Kp s r.1 (n*k):=by
   intro n
   induction n with
   |zero=>intro s r hok hf;rw[jv] at hf;cases hf
   |succ n ih=>
    intro s r hok hf;rw[jv] at hf;split at hf
    ·rename_i b ho;have hb:=hok.Ss ho;split at hf
     ·cases hf;exact⟨hok,fun _=>hb,Kp.rfl _ _⟩
     ·obtain⟨h1,h2,h3⟩:=Cg n (fun s=>ih s) _ (hok.bG hg hb (by omega)) hf;exact⟨h1,h2,((hok.Mp b 1).trans h3).mono (by omega)⟩
    ·exact Cg n (fun s=>ih s) _ hok hf
  exact⟨Sz n s hok,Cg n (Sz n) s hok⟩
theorem bo.aa4 (hg:g.In) (hcap:g.cap<65000) {k:Nat} {x:Sh} (hx:x.data.length≤64):∀(n:Nat) (s:FS) {r:FS×Int},bo g s→vb g k n s x=some r→bo g r.1∧Kp s r.1 (n*(k*k+1))
 |0,s,r,hok,hf=>by cases hf
 |n+1,s,r,hok,hf=>by
  rw[vb] at hf;split at hf
  ·cases hf
  rename_i s1 e b hro;obtain⟨h1,h2,h3⟩:=(bo.Ua hg hcap k s hok).1 hro;split at hf
  ·rename_i he;have hb:=h2 he;have fH:=h1.cv hg hb hx;have k2:=h1.KL b x;split at hf
   ·obtain⟨h4,h5⟩:=bo.aa4 hg hcap hx n _ fH hf;exact⟨h4,((h3.trans k2).trans h5).mono (by rw[Nat.succ_mul];omega)⟩
   ·cases hf;exact⟨fH,(h3.trans k2).mono (by rw[Nat.succ_mul];omega)⟩
  ·cases hf;exact⟨h1,h3.mono (by rw[Nat.succ_mul];omega)⟩
end
section
variable {g:cy} {s:FS} {c:Nat→List UInt8} {ds:List Nat} {N:Nat} {tg:Oq}
theorem Rn.WD (h:Rn g s c ds N tg) {x b p:Nat} (rX:s.f.pm.at x=some (b,p)):∃f∈vw g s.a b,f.p=p∧xn (vw g s.a) c x f:=by
 rcases h.cx x with⟨h1,_⟩|⟨b',p',h1,h2⟩
 ·rw[h1] at rX;cases rX
 ·rw[h1] at rX;cases rX;exact h2
theorem Rn.adI (h:Rn g s c ds N tg) {b:Nat} {f:Fd} (hf:f∈vw g s.a b):(gB s.a b f.p).1=0∧fq (gB s.a b f.p).2=some f.s:=by
 obtain⟨hb,_,hh,hp,hr,_,_,_⟩:=oS hf;have hlt:=h.ph.lt hb;have hlen:=h.ph.len _ (jd hlt);have hnp:¬s.a.aB≤(f.p:Int):=by rw[h.ph.p];omega
 rw[List.getElem?_eq_getElem hp] at hr;unfold gB;rw[if_neg (by simp [h.on]),if_neg hnp,zV hlt];simp only;rw[List.getElem?_eq_getElem hp];simp only;rw[if_neg (by simp [hh])];exact⟨rfl,by simpa using hr⟩
theorem Rn.nc (h:Rn g s c ds N tg) (x:Nat):∃t:Sh,s.nc x=some t∧t.data=c x∧∀b p,s.f.pm.at x=some (b,p)→∃f∈vw g s.a b,f.p=p∧f.s=t∧xn (vw g s.a) c x f:=by
 unfold FS.nc;rw[show s.f.pm.cx.getD x none=s.f.pm.at x from rfl];rcases h.cx x with⟨h1,h2⟩|⟨b,p,h1,f,h2,h3,h4⟩
 ·rw[h1];refine⟨_,rfl, ?_,fun b p e=>by cases e⟩;rcases h.gd.a2 x with⟨h3,_⟩|⟨b,f,hf,hc⟩
  ·exact h3.symm
  ·exact absurd hc.1 (h2 b f hf)
 ·rw[h1];obtain⟨r1,r2⟩:=h.adI h2;rw[h3] at r1 r2;refine⟨f.s, ?_,h4.2.1,fun b' p' e=>by cases e;exact⟨f,h2,h3,rfl,h4⟩⟩;simp only;rw[if_pos r1];exact r2
theorem Rn.Sw (h:Rn g s c ds N tg) {v:Nat} (hc:s.f.pm.eu v≠0):vw g s.a v≠[]:=by
 obtain⟨x,p,hx⟩:=x9 hc;obtain⟨f,hf,_⟩:=h.WD hx;intro e;rw[e] at hf;cases hf
theorem bo.KM (h:bo g s) {d:Nat} (hf:s.dD=some d):s.f.po.how d=some 0:=vf h.po.Gt (rv hf)
theorem bo.Ad (h:bo g s) (hc:0<s.f.po.count 0):∃d,s.dD=some d:=by
 rw[h.eu 0] at hc;obtain⟨b,hb,e⟩:=countP_pos_iff.1 hc;refine zX (of_decide_eq_true e) ?_;have:=h.lt hb;simpa [FS.Sq] using this
theorem Rn.begin (h:Rn g s c ds N none) {d v:Nat} (hf:s.dD=some d) (hv:v∈g.us) (pF:s.f.po.how v=some 1) (hc:s.f.pm.eu v≠0) (hp:(s.f.pm.eu v:Int)<g.aB) (h2:s.f.po.count 2=0):Rn g s c ds N (some (d,v)):=by
 have hd:=h.ok.qA hf;have Nr:=h.ok.KM hf;have mq:=h.dD d hd Nr (fun v e=>by cases e)
 exact {h with
  Hz:=fun _=>h2
  dD:=fun b hb e ht=>h.dD b hb e (fun v e=>by cases e)
  El:=fun d' v' e=>by
   cases e;refine⟨hd,hv,fun e=>(by rw[e,pF] at Nr;cases Nr),Nr,pF,(h.gj v hv pF).resolve_left (h.Sw hc),fun f hf=> ?_,by omega⟩
   rw[z6 (.inl (eq_nil_of_length_eq_zero mq))] at hf;cases hf}
theorem Rn.Eo (h:Rn g s c ds N tg):s.f.po.count 3≤g.us.length:=by
 have:=h.ok.PK;omega
theorem Rn.IW (hg:g.In) (hc:g.cap<65000) (hN:N<281474976710656) {v:Nat} (hv:v∈g.us):∀(n:Nat) (s:FS) (d:Nat),Rn g s c ds N (some (d,v))→s.f.po.count 2=0→s.f.seq+n≤N→s.f.pm.eu v+(g.us.length-s.f.po.count 3)<n→∃s1 e d1,pf g n s v d=some (s1,e,d1)∧((e=0∧Rn g s1 c ds N (some (d1,v))∧s1.f.pm.eu v=0∧s1.f.po.count 2=0)∨(e=10∧Rn g s1 c ds N none∧g.aI<s1.f.po.count 3∧s1.f.po.count 2=0)∨(e=9∧kv g s1.a c c ds N))
 |0,s,d,h,h2,hs,hm=>by omega
 |n+1,s,d,h,h2,hs,hm=>by
  rw[pf];by_cases h0:s.f.pm.eu v=0
  ·rw[if_pos h0];exact⟨s,0,d,rfl,.inl ⟨rfl,h,h0,h2⟩⟩
  rw[if_neg h0]
  cases No:s.f.pm.on v with
  |nil=>exact absurd No (aa0 h.ok.pm h0)
  |cons a l=>
   obtain⟨x,p,rfl,rX⟩:=Su (by rw[No];exact mem_cons_self:a∈s.f.pm.on v);obtain⟨t,ht,_,htp⟩:=h.nc x;obtain⟨u,hu,hup,rO,Hu⟩:=htp v p rX;subst rO;simp only[Int.toNat_natCast];rw[ht];simp only;have tL:=oS hu;rw[if_pos tL.2.2.2.2.2.2.2];have hd:=(h.El d v rfl).1;have kp:=h.ok.KL d {u.s with fr:=v+1};have fH:=h.ok.cv hg hd (x:={u.s with fr:=v+1}) tL.2.2.2.2.2.1.dl;have kseq:=kp.seq;have kc3:=kp.c3;have qJ:=h.copy hg hc rX hu Hu (by omega) (by omega);generalize cv s d {u.s with fr:=v+1}=r at qJ kseq kc3 fH⊢;have hc3:=h.Eo;rcases qJ with⟨e,h1,hcm,tO⟩|⟨e,h1,hpm,pF,aet,Hi⟩|⟨e,_,Nv⟩
   ·rw[if_neg (by omega),if_pos e];exact Rn.IW hg hc hN hv n r.1 d h1 (by rw[tO];exact h2) (by omega) (by omega)
   ·rw[if_pos e]
    cases hfr:r.1.dD with
    |none=>
     refine⟨r.1,10,0,rfl,.inr (.inl ⟨rfl,h1, ?_,by omega⟩)⟩;by_cases hsp:(r.1.f.po.count 3:Int)≤g.aI
     ·have:=h1.rT hsp
      have hpos:¬0<r.1.f.po.count 0:=fun hp=>by
       obtain⟨d',hd'⟩:=h1.ok.Ad hp;rw[hfr] at hd';cases hd'
      omega
     ·omega
    |some d'=>
     simp only;have hroom:=(h.El d v rfl).2.2.2.2.2.2.2;have hb:=h1.begin hfr hv pF (by rw[hpm];exact h0) (by rw[hpm];omega) (by omega);have h1c:=h1.Eo;exact Rn.IW hg hc hN hv n r.1 d' hb (by omega) (by omega) (by rw[hpm];omega)
   ·rw[if_neg (by omega),if_neg (by omega)];exact⟨r.1,r.2,0,rfl,.inr (.inr ⟨e,Nv⟩)⟩
end
theorem KN {α:Type} (p:α→Bool) (P:Nat):∀l:List α,(l.map fun b=>if p b=true then P else 0).sum=P*l.countP p
 |[]=>rfl
 |x::l=>by
  rw[map_cons,sum_cons,countP_cons,KN p P l];by_cases h:p x=true
  ·rw[if_pos h,if_pos h,Nat.mul_add,Nat.mul_one,Nat.add_comm]
  ·rw[if_neg h,if_neg h,Nat.zero_add,Nat.add_zero]
theorem cy.dU {g:cy} (h:g.df=true):g.zC:=by
 unfold cy.df at h;rw[Bool.and_eq_true] at h;exact of_decide_eq_true h.1
theorem cy.jf {g:cy} (h:g.df=true):0<g.cap:=by
 unfold cy.df at h;rw[Bool.and_eq_true,Bool.and_eq_true] at h;exact of_decide_eq_true h.2.2
section
variable {g:cy} {s:FS} {c:Nat→List UInt8} {ds:List Nat} {N:Nat} {tg:Oq}
theorem bo.PR (h:bo g s) {d:Nat} (hf:s.jc=some d):s.f.po.how d=some 1:=vf h.po.Gt (rv hf)
theorem bo.Ep (h:bo g s) {b:Nat} (hb:b∈g.us):b<s.f.pm.ie.length∧s.f.pm.ie.getD b 0=(s.f.pm.eu b:Int):=by
 have h1:=nU hb;have h2:=h.nb;have hl:b<s.f.pm.ie.length:=by rw[qv];omega
 refine⟨hl, ?_⟩;rw[getD_eq_getElem?_getD,List.getElem?_eq_getElem hl];simp [Pm.ie]
theorem bo.PT (h:bo g s) {v:Nat} (hf:s.jc=some v) {b:Nat} (hb:b∈g.us) (h1:s.f.po.how b=some 1):s.f.pm.eu v≤s.f.pm.eu b:=by
 obtain⟨l1,l2⟩:=h.Ep hb;obtain⟨m1,m2⟩:=h.Ep (h.zR hf);have:=(l6 hf).2 _ (ve h1) rfl l1;simp only at this;rw[l2,m2] at this;omega
theorem bo.Mq (h:bo g s) (hc:0<s.f.po.count 1):∃v,s.jc=some v:=by
 rw[h.eu 1] at hc;obtain⟨b,hb,e⟩:=countP_pos_iff.1 hc;exact zX (of_decide_eq_true e) (h.Ep hb).1
theorem bo.Sx (h:bo g s) (hform:g.df=true) {v:Nat} (hf:s.jc=some v) (h1:(s.f.po.count 1:Int)=g.us.length-1-g.aI):(s.f.pm.eu v:Int)<g.aB:=by
 have hn:=cy.dU hform;obtain⟨P,hP⟩:∃P:Nat,g.aB=(P:Int):=⟨g.aB.toNat,by have:=hn.2.2.1;omega⟩;by_cases hlt:(s.f.pm.eu v:Int)<g.aB
 ·exact hlt
 exfalso;have hge:P≤s.f.pm.eu v:=by omega
 have aeu:=KI (nV g) s.f.pm.cx
 have hle:(g.us.map fun b=>if decide (s.f.po.how b=some 1)=true then P else 0).sum≤(g.us.map fun b=>s.f.pm.cx.countP (vB b)).sum:=Ek _ _ _ (fun b hb=>by
  split
  ·rename_i e;exact Nat.le_trans hge (h.PT hf hb (of_decide_eq_true e))
  ·exact Nat.zero_le _)
 rw[KN, ←h.eu 1] at hle;have hna:=h.na;have hcap:g.cap=g.aB*(g.us.length-g.aI-1)-2:=rfl
 have e1:((P*s.f.po.count 1:Nat):Int)=g.aB*(g.us.length-g.aI-1):=by
  rw[Int.natCast_mul, ←hP,h1];congr 1;omega
 omega
theorem Rn.mono (h:Rn g s c ds N tg) {N':Nat} (hN:N≤N'):Rn g s c ds N' tg:={h with sn:=Nat.le_trans h.sn hN}
theorem Cr.mono {a:Ar} (h:Cr g a c ds N) {N':Nat} (hN:N≤N'):Cr g a c ds N':={h with seq:=fun b f hf=>Nat.le_trans (h.seq b f hf) hN}
theorem kv.mono {a:Ar} {c':Nat→List UInt8} (h:kv g a c c' ds N) {N':Nat} (hN:N≤N'):kv g a c c' ds N':={h with cx:=fun cut=>(h.cx cut).imp (fun h=>h.mono hN) (fun h=>h.mono hN)}
theorem Rn.open (h:Rn g s c ds N none) (hg:g.In) (hform:g.df=true) {b:Nat} (hf:s.dD=some b) (h2:s.f.po.count 2=0) (hr:(s.f.po.count 3:Int)≤g.aI→1+g.aI<s.f.po.count 0+s.f.po.count 3):Rn g (s.bG b 2) c ds N none∧(s.bG b 2).f.po.kF=some b∧((s.bG b 2).next b:Int)<g.aB:=by
 have hb:=h.ok.qA hf;have hb0:=h.ok.KM hf;have cI:=h.ok.bG hg hb (h:=2) (by omega);unfold FS.bG at cI⊢;have gC:s.f.po.set b 2=s.f.po.cF b 2:=fY (by rw[hb0];simp) (.inr h2);simp only[gC] at cI⊢;have cX:=fun i=>fI (p:=s.f.po) (b:=b) (h:=2) i (h.ok.how hb)
 have jP:=fun k=>eX (p:=s.f.po) (b:=b) (h:=2) k hb0
 have c2:=jP 2;have c3:=jP 3;have c0:=jP 0;simp only[if_true,show ((0:Nat)=3)=False from by simp,show ((2:Nat)=3)=False from by simp,show ((0:Nat)=2)=False from by simp,show ((2:Nat)=0)=False from by simp,if_false] at c2 c3 c0;have mq:s.next b=0:=h.dD b hb hb0 (fun v e=>by cases e);have tL:=(cy.dU hform).2.2.1;have hpb:(s.f.po.cF b 2).how b=some 2:=by rw[cX,if_pos rfl]
 refine⟨?_,wx cI.po cI.us hpb (by show (s.f.po.cF b 2).count 2≤1;omega),by show ((s.next b:Nat):Int)<_;omega⟩
 exact {h with
  ok:=cI
  bd:=fun i hi=>by
   show (s.f.po.cF b 2).how i=some 3↔_
   rw[cX];by_cases bx:i=b
   ·rw[bx,if_pos rfl];have:=h.bd b hb;rw[hb0] at this;simpa using this
   ·rw[if_neg bx];exact h.bd i hi
  dD:=fun i hi e ht=>by
   have e:(s.f.po.cF b 2).how i=some 0:=e;rw[cX] at e;by_cases bx:i=b
   ·rw[if_pos bx] at e;cases e
   ·rw[if_neg bx] at e;exact h.dD i hi e ht
  gj:=fun i hi e=>by
   have e:(s.f.po.cF b 2).how i=some 1:=e;rw[cX] at e;by_cases bx:i=b
   ·rw[if_pos bx] at e;cases e
   ·rw[if_neg bx] at e;exact h.gj i hi e
  kF:=fun i hi e=>by
   have e:(s.f.po.cF b 2).how i=some 2:=e;rw[cX] at e;by_cases bx:i=b
   ·right;right;show ((s.next i:Nat):Int)<_;rw[bx];omega
   ·rw[if_neg bx] at e;exact h.kF i hi e
  El:=fun d v e=>by cases e
  Hz:=fun e=>absurd rfl e
  one:=by show (s.f.po.cF b 2).count 2≤1;omega
  rT:=by
   show ((s.f.po.cF b 2).count 3:Int)≤g.aI→_≤(((s.f.po.cF b 2).count 0:Nat):Int)+((s.f.po.cF b 2).count 3:Nat)
   intro hle;have:=hr (by omega)
   omega}
theorem Rn.close (h:Rn g s c ds N none) (hg:g.In) {b:Nat} (hf:s.f.po.kF=some b) (hp:¬(s.next b:Int)<g.aB):Rn g (s.bG b 1) c ds N none∧(s.bG b 1).f.po.count 2=0:=by
 have hb:=h.ok.Ss hf;have nh:=x7 h.ok.po hf;have cI:=h.ok.bG hg hb (h:=1) (by omega);unfold FS.bG at cI⊢;have gC:s.f.po.set b 1=s.f.po.cF b 1:=fY (by rw[nh];simp) (.inl (by omega));simp only[gC] at cI⊢;have cX:=fun i=>fI (p:=s.f.po) (b:=b) (h:=1) i (h.ok.how hb)
 have jP:=fun k=>eX (p:=s.f.po) (b:=b) (h:=1) k nh
 have c2:=jP 2;have c3:=jP 3;have c0:=jP 0;have hone:=h.one;simp only[if_true,show ((1:Nat)=3)=False from by simp,show ((2:Nat)=3)=False from by simp,show ((1:Nat)=2)=False from by simp,show ((1:Nat)=0)=False from by simp,show ((2:Nat)=0)=False from by simp,if_false] at c2 c3 c0;refine⟨?_,by omega⟩
 exact {h with
  ok:=cI
  bd:=fun i hi=>by
   show (s.f.po.cF b 1).how i=some 3↔_
   rw[cX];by_cases bx:i=b
   ·rw[bx,if_pos rfl];have:=h.bd b hb;rw[nh] at this;simpa using this
   ·rw[if_neg bx];exact h.bd i hi
  dD:=fun i hi e ht=>by
   have e:(s.f.po.cF b 1).how i=some 0:=e;rw[cX] at e;by_cases bx:i=b
   ·rw[if_pos bx] at e;cases e
   ·rw[if_neg bx] at e;exact h.dD i hi e ht
  gj:=fun i hi e=>by
   have e:(s.f.po.cF b 1).how i=some 1:=e;rw[cX] at e;by_cases bx:i=b
   ·rw[bx];rcases h.kF b hb nh with e|e|e
    ·exact .inl e
    ·exact .inr e
    ·exact absurd e hp
   ·rw[if_neg bx] at e;exact h.gj i hi e
  kF:=fun i hi e=>by
   have e:(s.f.po.cF b 1).how i=some 2:=e;rw[cX] at e;by_cases bx:i=b
   ·rw[if_pos bx] at e;cases e
   ·rw[if_neg bx] at e;exact h.kF i hi e
  El:=fun d v e=>by cases e
  Hz:=fun e=>absurd rfl e
  one:=by show (s.f.po.cF b 1).count 2≤1;omega
  rT:=by
   show ((s.f.po.cF b 1).count 3:Int)≤g.aI→_≤(((s.f.po.cF b 1).count 0:Nat):Int)+((s.f.po.cF b 1).count 3:Nat)
   intro hle;have:=h.rT (by omega)
   omega}
theorem Rn.Sy (h:Rn g s c ds N none) (hg:g.In) (hform:g.df=true) (hc:g.cap<65000) (hN:N<281474976710656) {n:Nat} (hn:100≤n) (hs:s.f.seq+n≤N) (h2:s.f.po.count 2=0) (hd:(s.f.po.count 3:Int)≤g.aI) (hfr:¬(s.f.po.count 0:Int)>1+g.aI-s.f.po.count 3):∃s1 e,ig g n s=some (s1,e)∧((e=0∧Rn g s1 c ds N none∧((∃d,s1.f.po.kF=some d∧(s1.next d:Int)<g.aB)∨(s1.f.po.count 2=0∧s.f.po.count 0+s.f.po.count 3+1=s1.f.po.count 0+s1.f.po.count 3)))∨(e=10∧Rn g s1 c ds N none∧g.aI<s1.f.po.count 3)∨(e=9∧kv g s1.a c c ds N)):=by
 have h4:=h.ok.PK;have hres:=h.rT hd;have hcap:=cy.jf hform;have Tv:=cy.dU hform;have hcd:g.cap=g.aB*(g.us.length-g.aI-1)-2:=rfl
 have aem:0<(g.us.length:Int)-g.aI-1:=by
  by_cases hz:0<(g.us.length:Int)-g.aI-1
  ·exact hz
  ·exfalso;have:=Int.mul_nonpos_of_nonneg_of_nonpos (a:=g.aB) (b:=(g.us.length:Int)-g.aI-1) (by have:=Tv.2.2.1;omega) (by omega);omega
 obtain⟨v,hv⟩:=h.ok.Mq (by omega);have X6:=h.ok.zR hv;have pF:=h.ok.PR hv;have hlt:=h.ok.Sx hform hv (by omega);have Lm:=cy.kN g hg.b.2;have tM:=hg.p;unfold ig;rw[hv];simp only;by_cases h0:s.f.pm.eu v=0
 ·rw[if_pos h0];rcases h.zQ hg X6 pF h0 with⟨e1,e2,e3,e4⟩|⟨e1,_,e2⟩
  ·exact⟨_,_,rfl,.inl ⟨e1,e2,.inr ⟨e3.trans h2,e4⟩⟩⟩
  ·exact⟨_,_,rfl,.inr (.inr ⟨e1,e2⟩)⟩
 rw[if_neg h0];obtain⟨d,HB⟩:=h.ok.Ad (by omega);rw[HB];simp only;rw[if_neg (by omega)];have hb:=h.begin HB X6 pF h0 hlt h2;obtain⟨s1,e,d1,qJ,hres⟩:=Rn.IW hg hc hN X6 n s d hb h2 hs (by omega);rw[qJ];simp only;rcases hres with⟨rfl,k1,k2,k3⟩|⟨rfl,k1,k2,k3⟩|⟨rfl,k1⟩
 ·rw[if_pos rfl];rcases k1.swap hg k2 k3 with⟨e1,e2,e3,e4⟩|⟨e1,_,e2⟩
  ·rw[if_pos e1];exact⟨_,_,rfl,.inl ⟨rfl,e2,.inl ⟨d1,e3,e4⟩⟩⟩
  ·rw[if_neg (by omega)];exact⟨_,_,rfl,.inr (.inr ⟨e1,e2⟩)⟩
 ·rw[if_neg (by omega)];exact⟨_,_,rfl,.inr (.inl ⟨rfl,k1,k2⟩)⟩
 ·rw[if_neg (by omega)];exact⟨_,_,rfl,.inr (.inr ⟨rfl,k1⟩)⟩
def Er (g:cy) (c:Nat→List UInt8) (ds:List Nat) (N:Nat) (o:Option (FS×Int×Nat)):Prop:=
 ∃s1 e b,o=some (s1,e,b)∧((e=0∧Rn g s1 c ds N none∧b∈g.us∧s1.f.po.how b=some 2∧(s1.next b:Int)<g.aB)∨(e=10∧Rn g s1 c ds N none∧g.aI<s1.f.po.count 3)∨(e=9∧kv g s1.a c c ds N))
theorem Rn.Es (h:Rn g s c ds N none) {b:Nat} (hf:s.f.po.kF=some b) (hp:(s.next b:Int)<g.aB) (k n:Nat):Er g c ds N (jv g k (n+1) s):=by
 rw[jv,hf];simp only;rw[if_pos hp];exact⟨s,0,b,rfl,.inl ⟨rfl,h,h.ok.Ss hf,x7 h.ok.po hf,hp⟩⟩
theorem Rn.GD (h:Rn g s c ds N none) (hg:g.In) (hform:g.df=true) (h2:s.f.po.count 2=0) (hf:(s.f.po.count 0:Int)>1+g.aI-s.f.po.count 3) (k n:Nat):Er g c ds N (lZ g k (n+1) s):=by
 unfold lZ;by_cases hd:(s.f.po.count 3:Int)>g.aI
 ·rw[if_pos hd];exact⟨s,10,0,rfl,.inr (.inl ⟨rfl,h,by omega⟩)⟩
 rw[if_neg hd,if_pos hf];obtain⟨b,hb⟩:=h.ok.Ad (by omega);rw[hb];simp only;obtain⟨h1,h3,h4⟩:=h.open hg hform hb h2 (fun _=>by omega);exact h1.Es h3 h4 k n
theorem Rn.Cg (h:Rn g s c ds N none) (hg:g.In) (hform:g.df=true) (hc:g.cap<65000) (hN:N<281474976710656) {k n:Nat} (hk:100≤k) (hs:s.f.seq+k≤N) (h2:s.f.po.count 2=0):Er g c ds N (lZ g k (n+2) s):=by
 by_cases hf:(s.f.po.count 0:Int)>1+g.aI-s.f.po.count 3
 ·exact h.GD hg hform h2 hf k (n+1)
 unfold lZ;by_cases hd:(s.f.po.count 3:Int)>g.aI
 ·rw[if_pos hd];exact⟨s,10,0,rfl,.inr (.inl ⟨rfl,h,by omega⟩)⟩
 rw[if_neg hd,if_neg hf];obtain⟨s1,e,wM,hr⟩:=h.Sy hg hform hc hN hk hs h2 (by omega) hf;rw[wM];simp only;rcases hr with⟨rfl,k1,k2⟩|⟨rfl,k1,k2⟩|⟨rfl,k1⟩
 ·rw[if_pos rfl];rcases k2 with⟨d,k2,k3⟩|⟨k2,k3⟩
  ·exact k1.Es k2 k3 k (n+1)
  ·rw[jv,qC.2 k2];simp only;have hres:=h.rT (by omega);exact k1.GD hg hform k2 (by omega) k n
 ·rw[if_neg (by omega)];exact⟨_,_,_,rfl,.inr (.inl ⟨rfl,k1,k2⟩)⟩
 ·rw[if_neg (by omega)];exact⟨_,_,_,rfl,.inr (.inr ⟨rfl,k1⟩)⟩
theorem Rn.Sz (h:Rn g s c ds N none) (hg:g.In) (hform:g.df=true) (hc:g.cap<65000) (hN:N<281474976710656) {k n:Nat} (hk:100≤k) (hs:s.f.seq+k≤N):Er g c ds N (jv g k (n+3) s):=by
 cases ho:s.f.po.kF with
 |none=>
  rw[jv,ho];simp only;exact h.Cg hg hform hc hN hk hs (qC.1 ho)
 |some b=>
  by_cases hp:(s.next b:Int)<g.aB
  ·exact h.Es ho hp k (n+2)
  ·rw[jv,ho];simp only;rw[if_neg hp];obtain⟨h1,h2⟩:=h.close hg ho hp;exact h1.Cg hg hform hc hN hk hs h2
theorem Rn.aa5 (hg:g.In) (hform:g.df=true) (hc:g.cap<65000) (hN:N<281474976710656) {k:Nat} (hk:100≤k) {x:Sh} (hx:z7 g x) (hx0:x.fr=0):∀(n:Nat) (s:FS),Rn g s c ds N none→s.f.seq+n*(k*k+1)≤N→g.us.length-s.f.po.count 3<n→∃s1 e,vb g k n s x=some (s1,e)∧((e=0∧Rn g s1 (oQ c x.au x.data) ds N none)∨(e=10∧Rn g s1 c ds N none∧g.aI<s1.f.po.count 3)∨(e=9∧kv g s1.a c (oQ c x.au x.data) ds N))
 |0,s,h,hs,hm=>by omega
 |n+1,s,h,hs,hm=>by
  have hkk:k≤k*k:=Nat.le_mul_of_pos_left k (by omega);rw[Nat.succ_mul] at hs;obtain⟨s1,e,b,hro,hr⟩:=h.Sz hg hform hc hN (n:=k-3) hk (by omega);rw[show k-3+3=k from by omega] at hro;have kp:=((bo.Ua hg hc k s h.ok).1 hro).2.2;have kseq:=kp.seq;have kc3:=kp.c3;simp only at kseq kc3;unfold vb;rw[hro];simp only;rcases hr with⟨rfl,k1,k2,k3,k4⟩|⟨rfl,k1,k2⟩|⟨rfl,k1⟩
  ·rw[if_pos rfl];have kq:=(k1.ok.KL b x).seq;have c3:=k1.Eo;have hput:=k1.put hg hc k2 k3 k4 hx hx0 (by omega) (by omega);generalize cv s1 b x=r at hput kq⊢;rcases hput with⟨e,e1⟩|⟨e,e1,e2,e3⟩|⟨e,_,e1⟩
   ·rw[if_neg (by omega)];exact⟨r.1,r.2,rfl,.inl ⟨e,e1⟩⟩
   ·rw[if_pos e];have c3':=e1.Eo;exact Rn.aa5 hg hform hc hN hk hx hx0 n r.1 e1 (by omega) (by omega)
   ·rw[if_neg (by omega)];exact⟨r.1,r.2,rfl,.inr (.inr ⟨e,e1⟩)⟩
  ·rw[if_neg (by omega)];exact⟨s1,10,rfl,.inr (.inl ⟨rfl,k1,k2⟩)⟩
  ·rw[if_neg (by omega)];exact⟨s1,9,rfl,.inr (.inr ⟨rfl,{k1 with cx:=fun cut=>.inl ((k1.cx cut).elim id id)}⟩)⟩
end
theorem Ae {q:Nat→Bool}:∀{l:List Nat},l.Nodup→(∀i∈l,∀j∈l,q i=true→q j=true→i=j)→l.countP q≤1
 |[],_,_=>Nat.zero_le _
 |x::l,hn,h=>by
  rw[nodup_cons] at hn;rw[countP_cons];by_cases hx:q x=true
  ·have:l.countP q=0:=countP_eq_zero.2 (fun j hj hq=>hn.1 (by rw[h x mem_cons_self j (mem_cons_of_mem _ hj) hx hq];exact hj));rw[if_pos hx];omega
  ·rw[if_neg hx];exact Ae hn.2 (fun i hi j hj=>h i (mem_cons_of_mem _ hi) j (mem_cons_of_mem _ hj))
section
variable {g:cy} {s:FS} {c:Nat→List UInt8} {ds:List Nat} {N:Nat} {a a':Ar}
open Classical in
theorem Cr.E3 (h:Cr g a c ds N) {b:Nat} (hb:b∈g.us) (hbf:(a.bk b).aV=false) (hp:rD g a' ds) (hf:∀i,(a'.bk i).aV=(a.bk i).aV) (hv:vw g a'=k8 (vw g a) b) (hg:Gd (k8 (vw g a) b) c):Cr g a' c ds N where
 ph:=hp
 gd:=by rw[hv];exact hg
 e:=by
  have e1:l7 g a'=l7 g a:=countP_congr fun i _=>by rw[hf i]
  rw[e1];intro hle;have hle:=h.e hle
  have:ku g a'≤ku g a:=by
   by_cases hn:lq (vw g a) b
   ·have h1:ku g a'≤g.us.countP (fun i=>decide (((a.bk i).aV=false∧lq (vw g a) i)∧i≠b))+g.us.countP (fun i=>decide ((a.bk i).aV=false∧fF (vw g a) i)):=by
     refine ma (fun i hi hx=> ?_);have hx:=of_decide_eq_true hx;rw[hf i,hv] at hx;obtain⟨hx1,vD⟩:=hx;have hne:=tz vD;simp only[decide_eq_true_eq];by_cases hsp:fF (vw g a) i
     ·exact .inr ⟨hx1,hsp⟩
     ·exact .inl ⟨⟨hx1,B2 hsp hne.2⟩,hne.1⟩
    have h2:g.us.countP (fun i=>decide (((a.bk i).aV=false∧lq (vw g a) i)∧i≠b))+1≤ku g a:=
     rE (v:=b) (fun i _ hx=>by simp only[decide_eq_true_eq] at hx⊢;exact hx.1) hb (by simp [hbf,hn]) (by simp)
    have h3:g.us.countP (fun i=>decide ((a.bk i).aV=false∧fF (vw g a) i))≤1:=
     Ae (nV g) (fun i hi j hj h1 h2=>by
      simp only[decide_eq_true_eq] at h1 h2
      exact h.sp i hi j hj h1.1 h2.1 h1.2 h2.2)
    omega
   ·refine l8 (fun i hi hx=> ?_);have hx:=of_decide_eq_true hx;rw[hf i,hv] at hx;obtain⟨hx1,f,Tm,vD⟩:=hx;have Tm:=cW.1 Tm;refine decide_eq_true ⟨hx1,f,Tm.1,fun hm=>vD ?_⟩;have hne:f.s.fr-1≠b:=fun e=>hn (by rw[←e];exact h.gd.a7 i f Tm.1 hm)
    obtain⟨h0,o,ho,Xk⟩:=hm;exact⟨h0,o,cW.2 ⟨ho,hne⟩,Xk⟩
  omega
 seq:=fun i f hf=>by rw[hv] at hf;exact h.seq i f (cW.1 hf).1
 sp:=fun i hi j hj h1 h2 h3 h4=>by
  rw[hv] at h3 h4;rw[hf] at h1 h2;exact h.sp i hi j hj h1 h2 (rF h3).2 (rF h4).2
open Classical in
theorem Cr.xE (h:Cr g a c ds N) (hp:rD g a' ds) (hf:∀i,(a.bk i).aV=true→(a'.bk i).aV=true) (hv:vw g a'=vw g a):Cr g a' c ds N where
 ph:=hp
 gd:=by rw[hv];exact h.gd
 e:=by
  have e1:l7 g a≤l7 g a':=l8 (fun i _=>hf i)
  have e2:ku g a'≤ku g a:=l8 (fun i _ hx=>by
   have hx:=of_decide_eq_true hx;rw[hv] at hx;refine decide_eq_true ⟨?_,hx.2⟩;rw[←Bool.not_eq_true]
   intro e;rw[hf i e] at hx;cases hx.1)
  intro hle;have:=h.e (by omega);omega
 seq:=by rw[hv];exact h.seq
 sp:=fun i hi j hj h1 h2 h3 h4=>by
  rw[hv] at h3 h4;refine h.sp i hi j hj ?_ ?_ h3 h4
  ·rw[←Bool.not_eq_true];intro e;rw[hf i e] at h1;cases h1
  ·rw[←Bool.not_eq_true];intro e;rw[hf j e] at h2;cases h2
structure Mn (g:cy) (s:FS) (c:Nat→List UInt8) (ds:List Nat) (N:Nat) (l:List Nat) (o:Nat×Int):Prop where
 ok:bo g s
 on:s.a.off=false
 way:s.a.way=.no
 aR:s.a.aR≤s.f.ep
 ep:1≤s.f.ep∧s.f.ep<281474976710656
 cr:Cr g s.a c ds N
 cx:∀x,(s.f.pm.at x=none∧∀b,∀f∈vw g s.a b,f.s.au≠x)∨∃b p,s.f.pm.at x=some (b,p)∧∃f∈vw g s.a b,f.p=p∧xn (vw g s.a) c x f
 seq:∀b,∀f∈vw g s.a b,f.s.seq≤s.f.seq
 sn:s.f.seq≤N
 bd:∀b∈g.us,b∉l→(s.f.po.how b=some 3↔(s.a.bk b).aV=true)
 rem:∀b∈g.us,b∈l→s.f.po.how b=some 0
 hf:∀b∈g.us,b∉l→(s.a.bk b).aV=false→(s.a.bk b).cu=false
 dD:∀b∈g.us,b∉l→s.f.po.how b=some 0→s.next b=0
 gj:∀b∈g.us,s.f.po.how b=some 1→(s.a.bk b).aV=false∧s.f.pm.eu b≠0
 WE:∀b∈g.us,s.f.pm.eu b≠0→lq (vw g s.a) b
 SA:∀b∈g.us,s.f.po.how b≠some 2
 op:0≤o.2→o.2.toNat∈g.us∧s.f.po.how o.2.toNat=some 1∧(s.next o.2.toNat:Int)<g.aB
theorem Mn.Em {l:List Nat} {o:Nat×Int} (h:Mn g s c ds N l o) {v:Nat} (hc:s.f.pm.eu v=0):Gd (k8 (vw g s.a) v) c:=
 h.cr.gd.E3 fun x=>by
   rcases h.cx x with⟨h1,h2⟩|⟨b,p,h1,f,h2,h3,h4⟩
   ·exact .inl h2
   ·exact .inr ⟨b,fun e=>by rw[e] at h1;exact qE hc x p h1,f,h2,h4⟩
theorem Mn.IX {l:List Nat} {o:Nat×Int} (h:Mn g s c ds N l o):s.f.po.count 2=0:=by
 rw[h.ok.eu 2];exact countP_eq_zero.2 (fun b hb e=>h.SA b hb (of_decide_eq_true e))
theorem Mn.set {b w:Nat} {l:List Nat} {o o':Nat×Int} (h:Mn g s c ds N (b::l) o) (hg:g.In) (hb:b∈g.us) (hl:b∉l) (hw:w=1∨w=3) (h1:w=3↔(s.a.bk b).aV=true) (h2:w=1→s.f.pm.eu b≠0) (ho:0≤o'.2→(o'.2.toNat=b∧w=1∧(s.next b:Int)<g.aB)∨o'=o):Mn g (s.bG b w) c ds N l o':=by
 have hb0:=h.rem b hb mem_cons_self;have gC:s.f.po.set b w=s.f.po.cF b w:=fY (by rw[hb0];simp) (.inl (by omega));have cI:=h.ok.bG hg hb (h:=w) (by omega);unfold FS.bG at cI⊢;simp only[gC] at cI⊢;have cX:=fun i=>fI (p:=s.f.po) (b:=b) (h:=w) i (h.ok.how hb)
 have hne:∀i,i≠b→i∉l→i∉b::l:=fun i h1 h2 h3=>(mem_cons.1 h3).elim h1 h2
 exact {h with
  ok:=cI
  bd:=fun i hi mR=>by
   show (s.f.po.cF b w).how i=some 3↔_
   rw[cX];by_cases bx:i=b
   ·rw[bx,if_pos rfl, ←h1];simp
   ·rw[if_neg bx];exact h.bd i hi (hne i bx mR)
  rem:=fun i hi mR=>by
   show (s.f.po.cF b w).how i=some 0
   rw[cX,if_neg (fun e=>hl (by rw[←e];exact mR))];exact h.rem i hi (mem_cons_of_mem _ mR)
  hf:=fun i hi mR e=>by
   by_cases bx:i=b
   ·subst bx;have hw1:w=1:=hw.resolve_right (fun e2=>by rw[h1.1 e2] at e;cases e);obtain⟨x,p,hx⟩:=x9 (h2 hw1);rcases h.cx x with⟨h1,_⟩|⟨b',p',h1,f,hf,_⟩
    ·rw[h1] at hx;cases hx
    ·rw[h1] at hx;cases hx;exact(oS hf).2.2.1
   ·exact h.hf i hi (hne i bx mR) e
  dD:=fun i hi mR e=>by
   have e:(s.f.po.cF b w).how i=some 0:=e;rw[cX] at e;by_cases bx:i=b
   ·rw[if_pos bx] at e;have:=Option.some.inj e;omega
   ·rw[if_neg bx] at e;exact h.dD i hi (hne i bx mR) e
  gj:=fun i hi e=>by
   have e:(s.f.po.cF b w).how i=some 1:=e;rw[cX] at e;by_cases bx:i=b
   ·rw[if_pos bx] at e;have hw1:=Option.some.inj e;rw[bx];refine⟨?_,h2 hw1⟩;rw[←Bool.not_eq_true];intro e2;have:=h1.2 e2;omega
   ·rw[if_neg bx] at e;exact h.gj i hi e
  SA:=fun i hi e=>by
   have e:(s.f.po.cF b w).how i=some 2:=e;rw[cX] at e;by_cases bx:i=b
   ·rw[if_pos bx] at e;have:=Option.some.inj e;omega
   ·rw[if_neg bx] at e;exact h.SA i hi e
  op:=fun e=>by
   show _∧(s.f.po.cF b w).how _=some 1∧_
   rw[cX];rcases ho e with⟨e1,e2,e3⟩|e1
   ·rw[e1,if_pos rfl,e2];exact⟨hb,rfl,e3⟩
   ·rw[e1] at e⊢;obtain⟨h3,h4,h5⟩:=h.op e;rw[if_neg (fun e2=>by rw[e2,hb0] at h4;cases h4)]
    exact⟨h3,h4,h5⟩}
theorem Mn.skip {b:Nat} {l:List Nat} {o:Nat×Int} (h:Mn g s c ds N (b::l) o) (hb:b∈g.us) (hl:b∉l) (hf:(s.a.bk b).aV=false) (hn:s.next b=0):Mn g s c ds N l o:=by
 have hb0:=h.rem b hb mem_cons_self;have hne:∀i,i≠b→i∉l→i∉b::l:=fun i h1 h2 h3=>(mem_cons.1 h3).elim h1 h2
 exact {h with
  bd:=fun i hi mR=>by
   by_cases bx:i=b
   ·rw[bx,hb0,hf];simp
   ·exact h.bd i hi (hne i bx mR)
  rem:=fun i hi mR=>h.rem i hi (mem_cons_of_mem _ mR)
  hf:=fun i hi mR e=>by
   by_cases bx:i=b
   ·rw[bx, ←Bool.not_eq_true];intro e2;exact h.cr.ph.cu b hb e2 (eq_nil_of_length_eq_zero hn)
   ·exact h.hf i hi (hne i bx mR) e
  dD:=fun i hi mR e=>by
   by_cases bx:i=b
   ·rw[bx];exact hn
   ·exact h.dD i hi (hne i bx mR) e}
theorem Mn.zQ {b:Nat} {l:List Nat} {o:Nat×Int} (h:Mn g s c ds N (b::l) o) (hg:g.In) (hb:b∈g.us) (hl:b∉l) (hfl:(s.a.bk b).aV=false) (hc:s.f.pm.eu b=0):((bN (s.bG b 1) b).2=0∧Mn g (bN (s.bG b 1) b).1 c ds N l o)∨((bN (s.bG b 1) b).2=9∧s.a.bD>0∧kv g (bN (s.bG b 1) b).1.a c c ds N):=by
 have hb0:=h.rem b hb mem_cons_self;have hlt:=h.cr.ph.lt hb;have gn:=h.ok.bG hg hb (h:=1) (by omega);have cI:=gn.bN hg hb;have hgd:=h.Em hc;have gC:s.f.po.set b 1=s.f.po.cF b 1:=fY (by rw[hb0];simp) (.inl (by omega));have vA:=fun i=>fI (p:=s.f.po) (b:=b) (h:=1) i (h.ok.how hb)
 have ym:(s.f.po.cF b 1).how b=some 1:=by rw[vA,if_pos rfl]
 have hne:∀i,i≠b→i∉l→i∉b::l:=fun i h1 h2 h3=>(mem_cons.1 h3).elim h1 h2
 have Tw:0≤o.2→o.2.toNat≠b:=fun e e2=>by
  have:=(h.op e).2.1;rw[e2,hb0] at this;cases this
 obtain⟨a',ho⟩:=tC (s:=s.bG b 1) (v:=b) hlt h.on h.way h.aR;rcases ho with⟨ho,o1,o2,he⟩|⟨ho,o1,o2,o3,he⟩|⟨ho,o1,o2,o3,he⟩
 ·left;rw[ho] at cI⊢;unfold FS.bG at cI⊢;have AH:(s.f.po.set b 1).set b 0=(s.f.po.cF b 1).cF b 0:=by rw[gC];exact fY (by rw[ym];simp) (.inl (by omega))
  simp only[AH] at cI⊢;obtain⟨po,tO⟩:∃po,po=(s.f.po.cF b 1).cF b 0:=⟨_,rfl⟩
  have cX:∀i,po.how i=if i=b then some 0 else s.f.po.how i:=fun i=>by
   rw[tO,fI i (by rw[ym];rfl),vA];split<;>rfl
  rw[←tO] at cI⊢;have he:Hy s.a a' b (v9 (aH (s.a.bk b))):=he;have rY:=nX hlt hb he.tovC (.inl rfl);have hbk:=fun i=>he.tovC.bk hlt i
  have Q6:∀i,(a'.bk i).aV=(s.a.bk i).aV:=je hlt he.tovC (dZ _);have mq:=fun i=>ij (f:={s.f with po:=po}) hlt he.tovC i
  refine⟨trivial, ?_⟩
  exact {
   ok:=cI,on:=o1,way:=o2,aR:=by rw[he.aR];exact h.aR,ep:=h.ep
   cr:=h.cr.E3 hb hfl (vj h.cr.ph hb he.tovC) Q6 rY hgd
   cx:=fun x=>by
    rw[rY];rcases h.cx x with⟨h1,h2⟩|⟨b',p,h1,f,h2,h3,h4⟩
    ·exact .inl ⟨h1,fun b f hf=>h2 b f (cW.1 hf).1⟩
    ·exact .inr ⟨b',p,h1,f,cW.2 ⟨h2,fun e=>by rw[e] at h1;exact qE hc x p h1⟩,h3,h4.E3⟩
   seq:=fun i f hf=>by rw[rY] at hf;exact h.seq i f (cW.1 hf).1
   sn:=h.sn
   bd:=fun i hi mR=>by
    show po.how i=some 3↔(a'.bk i).aV=true
    rw[cX,Q6];by_cases bx:i=b
    ·rw[bx,if_pos rfl,hfl];simp
    ·rw[if_neg bx];exact h.bd i hi (hne i bx mR)
   rem:=fun i hi mR=>by
    show po.how i=some 0
    rw[cX,if_neg (fun e=>hl (by rw[←e];exact mR))];exact h.rem i hi (mem_cons_of_mem _ mR)
   hf:=fun i hi mR e=>by
    show (a'.bk i).cu=false
    have e:(a'.bk i).aV=false:=e;rw[Q6] at e;rw[hbk];by_cases bx:i=b
    ·rw[if_pos bx];rfl
    ·rw[if_neg bx];exact h.hf i hi (hne i bx mR) e
   dD:=fun i hi mR e=>by
    have e:po.how i=some 0:=e;rw[cX] at e;rw[mq];by_cases bx:i=b
    ·rw[if_pos bx];rfl
    ·rw[if_neg bx] at e⊢;exact h.dD i hi (hne i bx mR) e
   gj:=fun i hi e=>by
    have e:po.how i=some 1:=e;rw[cX] at e;by_cases bx:i=b
    ·rw[if_pos bx] at e;cases e
    ·rw[if_neg bx] at e;show (a'.bk i).aV=false∧_
     rw[Q6];exact h.gj i hi e
   WE:=fun i hi e=>by
    show lq (vw g a') i
    rw[rY];exact(h.WE i hi e).E3 (fun e2=>e (by rw[e2];exact hc))
   SA:=fun i hi e=>by
    have e:po.how i=some 2:=e;rw[cX] at e;by_cases bx:i=b
    ·rw[if_pos bx] at e;cases e
    ·rw[if_neg bx] at e;exact h.SA i hi e
   op:=fun e=>by
    obtain⟨h3,h4,h5⟩:=h.op e;refine⟨h3, ?_, ?_⟩
    ·show po.how _=_
     rw[cX,if_neg (Tw e)];exact h4
    ·rw[mq,if_neg (Tw e)];exact h5}
 ·left;rw[ho] at cI⊢;unfold FS.bG at cI⊢;have AH:(s.f.po.set b 1).set b 3=(s.f.po.cF b 1).cF b 3:=by rw[gC];exact fY (by rw[ym];simp) (.inl (by omega))
  simp only[AH] at cI⊢;obtain⟨po,tO⟩:∃po,po=(s.f.po.cF b 1).cF b 3:=⟨_,rfl⟩
  have cX:∀i,po.how i=if i=b then some 3 else s.f.po.how i:=fun i=>by
   rw[tO,fI i (by rw[ym];rfl),vA];split<;>rfl
  rw[←tO] at cI⊢;have he:Hy s.a a' b {aH (s.a.bk b) with aV:=true}:=he;have o3:(aH (s.a.bk b)).bd=true:=o3;have rY:vw g a'=vw g s.a:=he.tovC.xE hlt hb (by show Bk.eT _ _ _=_;unfold Bk.eT;simp only[bO,bF]);have hbk:=fun i=>he.tovC.bk hlt i
  have mq:=fun i=>ij (f:={s.f with po:=po}) hlt he.tovC i
  have Q6:∀i,i≠b→(a'.bk i).aV=(s.a.bk i).aV:=fun i bx=>by rw[hbk,if_neg bx]
  refine⟨trivial, ?_⟩
  exact {
   ok:=cI,on:=o1,way:=o2,aR:=by rw[he.aR];exact h.aR,ep:=h.ep
   cr:=h.cr.xE (Ab h.cr.ph hb o3 he.tovC) (fun i e=>by
    rw[hbk];split
    ·rfl
    ·exact e) rY
   cx:=fun x=>by rw[rY];exact h.cx x
   seq:=fun i f hf=>by rw[rY] at hf;exact h.seq i f hf
   sn:=h.sn
   bd:=fun i hi mR=>by
    show po.how i=some 3↔(a'.bk i).aV=true
    rw[cX,hbk];by_cases bx:i=b
    ·simp [bx]
    ·rw[if_neg bx,if_neg bx];exact h.bd i hi (hne i bx mR)
   rem:=fun i hi mR=>by
    show po.how i=some 0
    rw[cX,if_neg (fun e=>hl (by rw[←e];exact mR))];exact h.rem i hi (mem_cons_of_mem _ mR)
   hf:=fun i hi mR e=>by
    show (a'.bk i).cu=false
    have e:(a'.bk i).aV=false:=e;rw[hbk] at e⊢;by_cases bx:i=b
    ·rw[if_pos bx] at e;cases e
    ·rw[if_neg bx] at e⊢;exact h.hf i hi (hne i bx mR) e
   dD:=fun i hi mR e=>by
    have e:po.how i=some 0:=e;rw[cX] at e;rw[mq];by_cases bx:i=b
    ·rw[if_pos bx] at e;cases e
    ·rw[if_neg bx] at e⊢;exact h.dD i hi (hne i bx mR) e
   gj:=fun i hi e=>by
    have e:po.how i=some 1:=e;rw[cX] at e;by_cases bx:i=b
    ·rw[if_pos bx] at e;cases e
    ·rw[if_neg bx] at e;show (a'.bk i).aV=false∧_
     rw[Q6 i bx];exact h.gj i hi e
   WE:=fun i hi e=>by show lq (vw g a') i;rw[rY];exact h.WE i hi e
   SA:=fun i hi e=>by
    have e:po.how i=some 2:=e;rw[cX] at e;by_cases bx:i=b
    ·rw[if_pos bx] at e;cases e
    ·rw[if_neg bx] at e;exact h.SA i hi e
   op:=fun e=>by
    obtain⟨h3,h4,h5⟩:=h.op e;refine⟨h3, ?_, ?_⟩
    ·show po.how _=_
     rw[cX,if_neg (Tw e)];exact h4
    ·rw[mq,if_neg (Tw e)];exact h5}
 ·right;rw[ho];have he:Hy s.a a' b (aH (s.a.bk b)):=he;refine⟨rfl,o2,⟨o1,Aa hlt o3 he.tovC,fun cut=>.inl ?_⟩⟩;obtain⟨p1,p2,p3⟩:=h.cr.ph.GC hb o3 he.tovC cut;rcases p3 with p3|p3
  ·exact h.cr.xE p1 (fun i e=>by rw[p2];exact e) p3
  ·exact h.cr.E3 hb hfl p1 p2 p3 hgd
end
section
variable {g:cy} {s:FS} {c:Nat→List UInt8} {ds:List Nat} {N:Nat} {a:Ar}
theorem Et {sq:Int→Nat} {b nx:Nat}:∀(l:List Int) (o:Nat×Int),Mg g sq b nx l o=o∨((Mg g sq b nx l o).2=(b:Int)∧(nx:Int)<g.aB)
 |[],o=>.inl rfl
 |x::l,o=>by
  rw[Mg];split
  ·rename_i h;rcases Et (sq:=sq) (b:=b) (nx:=nx) l (sq x,(b:Int)) with e|e
   ·right;rw[e];exact⟨rfl,h.1⟩
   ·exact .inr e
  ·exact Et l o
theorem Mn.loop (hg:g.In) {sq:Int→Nat}:∀(l:List Nat) (s:FS) (o:Nat×Int),(∀b∈l,b∈g.us)→l.Nodup→Mn g s c ds N l o→((fM g sq l s o).2.1=0∧Mn g (fM g sq l s o).1 c ds N [] (fM g sq l s o).2.2)∨((fM g sq l s o).2.1=9∧kv g (fM g sq l s o).1.a c c ds N)
 |[],s,o,_,_,h=>.inl ⟨rfl,h⟩
 |b::l,s,o,hl,hn,h=>by
  rw[nodup_cons] at hn;have hb:=hl b mem_cons_self;have CQ:∀b∈l,b∈g.us:=fun b hb=>hl b (mem_cons_of_mem _ hb)
  have e0:s.a.bs.getD b fp=s.a.bk b:=rfl;rw[fM,e0];by_cases hf:(s.a.bk b).aV=true
  ·rw[if_pos hf];exact Mn.loop hg l _ o CQ hn.2 (h.set hg hb hn.1 (.inr rfl) (by simp [hf]) (fun e=>by omega) (fun _=>.inr rfl))
  rw[if_neg hf];have hf':(s.a.bk b).aV=false:=by simpa using hf
  by_cases h0:s.next b=0
  ·rw[if_pos h0];exact Mn.loop hg l _ o CQ hn.2 (h.skip hb hn.1 hf' h0)
  rw[if_neg h0];by_cases hc:s.f.pm.eu b=0
  ·rw[if_pos hc];rcases h.zQ hg hb hn.1 hf' hc with⟨e1,e2⟩|⟨e1,_,e2⟩
   ·rw[if_pos e1];exact Mn.loop hg l _ o CQ hn.2 e2
   ·rw[if_neg (by omega)];exact .inr ⟨e1,e2⟩
  ·rw[if_neg hc];refine Mn.loop hg l _ _ CQ hn.2 (h.set hg hb hn.1 (.inl rfl) (by simp [hf']) (fun _=>hc) (fun e=> ?_));rcases Et (sq:=sq) (b:=b) (nx:=s.next b) (s.f.pm.on b) o with e1|⟨e1,e2⟩
   ·exact .inr e1
   ·exact .inl ⟨by rw[e1];simp,rfl,e2⟩
open Classical in
theorem Mn.rn {o:Nat×Int} (h:Mn g s c ds N [] o):Rn g s c ds N none where
 ok:=h.ok
 on:=h.on
 way:=h.way
 aR:=h.aR
 ep:=h.ep
 ph:=h.cr.ph
 gd:=h.cr.gd
 cx:=h.cx
 seq:=h.seq
 sn:=h.sn
 bd:=fun b hb=>h.bd b hb (by simp)
 hf:=fun b hb=>h.hf b hb (by simp)
 dD:=fun b hb e _=>h.dD b hb (by simp) e
 gj:=fun b hb e=>.inr (h.WE b hb (h.gj b hb e).2)
 kF:=fun b hb e=>absurd e (h.SA b hb)
 El:=fun d v e=>by cases e
 Hz:=fun e=>absurd rfl e
 one:=by rw[h.IX];omega
 rT:=by
  intro hle;have h4:=h.ok.PK;have h2:=h.IX
  have e3:l7 g s.a=s.f.po.count 3:=by
   rw[h.ok.eu 3]
   exact countP_congr fun b hb=>by
    have:=h.bd b hb (by simp);simp [this]
  have e1:s.f.po.count 1≤ku g s.a:=by
   rw[h.ok.eu 1];refine l8 (fun b hb e=> ?_);have e:=of_decide_eq_true e;exact decide_eq_true ⟨(h.gj b hb e).1,h.WE b hb (h.gj b hb e).2⟩
  have:=h.cr.e (by omega);omega
theorem Rn.aa6 (h:Rn g s c ds N none) (hg:g.In) {b:Nat} (hb:b∈g.us) (ym:s.f.po.how b=some 1) (hp:(s.next b:Int)<g.aB) (h2:s.f.po.count 2=0):Rn g (s.bG b 2) c ds N none:=by
 have cI:=h.ok.bG hg hb (h:=2) (by omega);unfold FS.bG at cI⊢;have gC:s.f.po.set b 2=s.f.po.cF b 2:=fY (by rw[ym];simp) (.inr h2);simp only[gC] at cI⊢;have cX:=fun i=>fI (p:=s.f.po) (b:=b) (h:=2) i (h.ok.how hb)
 have jP:=fun k=>eX (p:=s.f.po) (b:=b) (h:=2) k ym
 have c2:=jP 2;have c3:=jP 3;have c0:=jP 0;simp only[if_true,show ((1:Nat)=3)=False from by simp,show ((2:Nat)=3)=False from by simp,show ((1:Nat)=2)=False from by simp,show ((2:Nat)=0)=False from by simp,show ((1:Nat)=0)=False from by simp,if_false] at c2 c3 c0
 exact {h with
  ok:=cI
  bd:=fun i hi=>by
   show (s.f.po.cF b 2).how i=some 3↔_
   rw[cX];by_cases bx:i=b
   ·rw[bx,if_pos rfl];have:=h.bd b hb;rw[ym] at this;simpa using this
   ·rw[if_neg bx];exact h.bd i hi
  dD:=fun i hi e ht=>by
   have e:(s.f.po.cF b 2).how i=some 0:=e;rw[cX] at e;by_cases bx:i=b
   ·rw[if_pos bx] at e;cases e
   ·rw[if_neg bx] at e;exact h.dD i hi e ht
  gj:=fun i hi e=>by
   have e:(s.f.po.cF b 2).how i=some 1:=e;rw[cX] at e;by_cases bx:i=b
   ·rw[if_pos bx] at e;cases e
   ·rw[if_neg bx] at e;exact h.gj i hi e
  kF:=fun i hi e=>by
   have e:(s.f.po.cF b 2).how i=some 2:=e;rw[cX] at e;by_cases bx:i=b
   ·right;right;show ((s.next i:Nat):Int)<_;rw[bx];exact hp
   ·rw[if_neg bx] at e;exact h.kF i hi e
  El:=fun d v e=>by cases e
  Hz:=fun e=>absurd rfl e
  one:=by show (s.f.po.cF b 2).count 2≤1;omega
  rT:=by
   show ((s.f.po.cF b 2).count 3:Int)≤g.aI→_≤(((s.f.po.cF b 2).count 0:Nat):Int)+((s.f.po.cF b 2).count 3:Nat)
   intro hle;have:=h.rT (by omega)
   omega}
theorem KO:∀(l:List Fd) (m:Nat),m≤nQ m l∧∀f∈l,f.s.seq≤nQ m l
 |[],m=>⟨Nat.le_refl _,fun f hf=>by cases hf⟩
 |f::l,m=>by
  obtain⟨h1,h2⟩:=KO l (max m f.s.seq);refine⟨Nat.le_trans (Nat.le_max_left _ _) h1,fun x hx=> ?_⟩;rcases mem_cons.1 hx with rfl|hx
  ·exact Nat.le_trans (Nat.le_max_right _ _) h1
  ·exact h2 x hx
theorem Cr.rd (h:Cr g a c ds N) (ho:a.off=false):a.rd g:=⟨ho,h.ph.n,h.ph.p,by rw[h.ph.p];exact h.ph.len,h.ph.d⟩
theorem Cr.WG (h:Cr g a c ds N) (x:Nat):(jK x (a.Bg g)=none∧∀b,∀f∈vw g a b,f.s.au≠x)∨∃f,jK x (a.Bg g)=some f∧f∈vw g a f.b∧¬fF (vw g a) f.b∧xn (vw g a) c x f:=by
 rw[WA];exact Sm h.gd (nV g) wu x
theorem Cr.xZ (h:Cr g a c ds N) (hg:g.In) (hc:0≤g.cap∧g.cap<65000) (ho:a.off=false) (hw:a.way=.no) {ep:Nat} (he:1≤ep∧ep<281474976710656) (hf:a.aR≤ep):Mn g (FS.xZ g a ep) c ds N g.us (0, -1):=by
 have hok:bo g (FS.xZ g a ep):=PE hg hc (h.rd ho) (fun x f hx=>by
  rcases h.WG x with⟨h1,_⟩|⟨f',h1,h2,_⟩
  ·rw[h1] at hx;cases hx
  ·rw[h1] at hx;cases hx;obtain⟨p1,_,_,p2,_,_,_,p3⟩:=oS h2;have hlt:=h.ph.lt p1;have:=h.ph.len _ (jd hlt);have:=hg.p
   exact⟨p3,nU p1,by omega⟩) he.2
 have rX:∀x,(FS.xZ g a ep).f.pm.at x=(jK x (a.Bg g)).map fun f=>(f.b,f.p):=fun x=>by
  show ((List.range (g.cap+1).toNat).map fun a'=>(jK a' (a.Bg g)).map fun f=>(f.b,f.p)).getD x none=_
  rw[getD_eq_getElem?_getD,List.getElem?_map];by_cases hx:x<(g.cap+1).toNat
  ·rw[List.getElem?_range hx];rfl
  ·rw[List.getElem?_eq_none (by simpa using hx)];rcases h.WG x with⟨h1,_⟩|⟨f,h1,h2,_,h3⟩
   ·rw[h1];rfl
   ·have:=(oS h2).2.2.2.2.2.2.2;have:=h3.1;omega
 have abJ:∀x,((FS.xZ g a ep).f.pm.at x=none∧∀b,∀f∈vw g a b,f.s.au≠x)∨∃b p,(FS.xZ g a ep).f.pm.at x=some (b,p)∧∃f∈vw g a b,f.p=p∧¬fF (vw g a) b∧xn (vw g a) c x f:=fun x=>by
  rw[rX x];rcases h.WG x with⟨h1,h2⟩|⟨f,h1,h2,h3,h4⟩
  ·rw[h1];exact .inl ⟨rfl,h2⟩
  ·rw[h1];exact .inr ⟨f.b,f.p,rfl,f,h2,rfl,h3,h4⟩
 have hnew:∀b,(FS.xZ g a ep).f.po.how b=if b∈g.us then some 0 else none:=fun b=>by
  show fN b (g.us.map fun b=>(b,0))=_
  induction g.us with
  |nil=>rfl
  |cons y l ih=>
   rw[map_cons,fN,ih];by_cases hy:y=b
   ·simp [hy]
   ·have:¬b=y:=fun e=>hy e.symm
    simp [hy,this]
 exact {
  ok:=hok,on:=ho,way:=hw,aR:=hf,ep:=he,cr:=h
  cx:=fun x=>by
   rcases abJ x with h1|⟨b,p,h1,f,h2,h3,_,h4⟩
   ·exact .inl h1
   ·exact .inr ⟨b,p,h1,f,h2,h3,h4⟩
  seq:=fun b f hf=>by
   have hb:=(oS hf).1;have:f∈g.us.flatMap (a.fd g):=mem_flatMap.2 ⟨b,hb,by unfold vw at hf;rw[if_pos hb] at hf;exact hf⟩;exact(KO (g.us.flatMap (a.fd g)) 0).2 f this
  sn:=Ei _ _ (Nat.zero_le _) (fun f hf=>by
   obtain⟨b,hb,hf⟩:=mem_flatMap.1 hf
   exact h.seq b f (by unfold vw;rw[if_pos hb];exact hf))
  bd:=fun b hb hn=>absurd hb hn
  rem:=fun b hb _=>by rw[hnew,if_pos hb]
  hf:=fun b hb hn=>absurd hb hn
  dD:=fun b hb hn=>absurd hb hn
  gj:=fun b hb e=>by rw[hnew,if_pos hb] at e;cases e
  WE:=fun b hb e=>by
   obtain⟨x,p,hx⟩:=x9 e;rcases abJ x with⟨h1,_⟩|⟨b',p',h1,f,h2,_,h3,_⟩
   ·rw[h1] at hx;cases hx
   ·rw[h1] at hx;cases hx
    exact B2 h3 (fun e=>by
     have e:vw g a b=[]:=e
     rw[e] at h2;cases h2)
  SA:=fun b hb e=>by rw[hnew,if_pos hb] at e;cases e
  op:=fun e=>by exact absurd e (by decide)}
theorem Cr.mount (h:Cr g a c ds N) (hg:g.In) (hc:0≤g.cap∧g.cap<65000) (ho:a.off=false) (hw:a.way=.no) {ep:Nat} (he:1≤ep∧ep<281474976710656) (hf:a.aR≤ep) (sq:Int→Nat):((cK g sq a ep).2=0∧Rn g (cK g sq a ep).1 c ds N none)∨((cK g sq a ep).2=9∧kv g (cK g sq a ep).1.a c c ds N):=by
 have hm:=Mn.loop hg (sq:=sq) g.us _ _ (fun b hb=>hb) (nV g) (h.xZ hg hc ho hw he hf);unfold cK;simp only;rcases hm with⟨e,hm⟩|⟨e,hm⟩
 ·rw[if_pos e];by_cases hop:0≤(fM g sq g.us (FS.xZ g a ep) (0, -1)).2.2.2
  ·rw[if_pos hop];obtain⟨o1,o2,o3⟩:=hm.op hop;exact .inl ⟨rfl,hm.rn.aa6 hg o1 o2 o3 hm.IX⟩
  ·rw[if_neg hop];exact .inl ⟨rfl,hm.rn⟩
 ·rw[if_neg (by omega)];exact .inr ⟨e,hm⟩
theorem GF (hg:g.In) {sq:Int→Nat}:∀(l:List Nat) (s:FS) (o:Nat×Int),(∀b∈l,b∈g.us)→bo g s→Kp s (fM g sq l s o).1 0
 |[],s,o,hl,hok=>Kp.rfl s 0
 |b::l,s,o,hl,hok=>by
  have hb:=hl b mem_cons_self;have CQ:∀b∈l,b∈g.us:=fun b hb=>hl b (mem_cons_of_mem _ hb)
  have gn:=hok.bG hg hb (h:=1) (by omega);have k1:=hok.Mp b 1;rw[fM];split
  ·exact((hok.Mp b 3).trans (GF hg l _ o CQ (hok.bG hg hb (by omega)))).mono (by omega)
  split
  ·exact GF hg l _ o CQ hok
  split
  ·have k2:=k1.trans (gn.IV b);split
   ·exact(k2.trans (GF hg l _ o CQ (gn.bN hg hb))).mono (by omega)
   ·exact k2.mono (by omega)
  ·exact(k1.trans (GF hg l _ _ CQ gn)).mono (by omega)
theorem Mr (hg:g.In) {sq:Int→Nat} {ep:Nat} (hok:bo g (FS.xZ g a ep)):Kp (FS.xZ g a ep) (cK g sq a ep).1 0:=by
 have k:=GF hg (sq:=sq) g.us _ (0, -1) (fun b hb=>hb) hok;have cI:=zT hg (sq:=sq) g.us _ (0, -1) (fun b hb=>hb) hok (.inl (by decide));unfold cK;simp only;split
 ·split
  ·exact(k.trans (cI.1.Mp _ 2)).mono (by omega)
  ·exact k
 ·exact k
end
theorem yb:fw cV 89=some (138,3,40,gh 0 none 0 0 false):=by kernel_rfl
theorem Eu:ir (bq cV 89)=true:=by kernel_rfl
theorem SB:bq cV 3=some (.int .i64):=by kernel_rfl
theorem Ew:bn (gh 0 none 0 0 false):=gf (f137 0 none 0 0 false)
theorem Af (a:Int) (q:Oq) (n c:Nat) (b:Bool):(gh a q n c b).length=3:=rfl
abbrev PF (css:List (List V)):Prop:=R9 rR css
theorem PU {c:List V} (h:aM rR c=true):∃a q n cp b,c=gh a q n cp b:=by
 obtain⟨v1,r1,rfl,h1,h⟩:=m8 h;obtain⟨v2,r2,rfl,h2,h⟩:=m8 h;obtain⟨v3,r3,rfl,h3,h⟩:=m8 h;obtain rfl:=DV h;obtain⟨a,rfl⟩:=F2 h1;obtain⟨q,n,cp,rfl⟩:=Bf h2;obtain⟨b,rfl⟩:=DU h3;exact⟨a,q,n,cp,b,rfl⟩
theorem PV {c:List V} (h:aM rR c=true):vU c=c:=by
 obtain⟨a,q,n,cp,b,rfl⟩:=PU h;rfl
theorem PF.pD {css:List (List V)} (h:PF css):px 3 css:=R9.pD h
section
variable {B:ai} {L:List cw} {H:ai} {K:KP} {id o len cap:Nat} {e:TypeId}
theorem WH {Kr:PS} {Ke:NS}:∀(k:Nat) (mid:List (List V)) (X Y:List V) (i:Nat) {H:ai},mid.length≤k→PF mid→X.length=o+i*3→i+mid.length≤len→len≤1000000→aA B H (cP id e (X++(mid.flatten++Y))::L)→(∀H',aA B H' (cP id e (X++(mid.reverse.flatten++Y))::L)→Ke 0 (St.mk (ab []) (ab []) H'))→lo 158 1 (St.mk (ab [(0,ts (some (id,o)) len cap),(2,ti (i:Int)),(3,ti ((i:Int)+mid.length-1))]) (ab []) H) Kr Ke:=by
 intro k
 induction k with
 |zero=>
  intro mid X Y i H hk hf hX hl hb h K;have:mid=[]:=eq_nil_of_length_eq_zero (by omega);subst this;rw[JW];(try simp only[NQ]);have e1:¬(i:Int)<(i:Int)+(0:Nat)-1:=by omega
  simp only[length_nil,e1,decide_false,ah];exact K _ h
 |succ k ih=>
  intro mid X Y i H hk hf hX hl hb h K;rw[JW];(try simp only[NQ])
  match mid,hk,hf,hl,h,K with
  |[],hk,hf,hl,h,K=>
   have e1:¬(i:Int)<(i:Int)+(0:Nat)-1:=by omega
   simp only[length_nil,e1,decide_false,ah];exact K _ h
  |[a],hk,hf,hl,h,K=>
   have e1:¬(i:Int)<(i:Int)+(1:Nat)-1:=by omega
   simp only[length_cons,length_nil,e1,decide_false,ah];exact K _ h
  |a::r1::rs,hk,hf,hl,h,K=>
   obtain⟨m',b,hm⟩:∃m' b,r1::rs=m'++[b]:=⟨_,_,(dropLast_concat_getLast (by simp)).symm⟩;have hml:rs.length+1=m'.length+1:=by have:=congrArg List.length hm;simpa using this
   rw[hm] at hf h K;have hlen:(a::r1::rs).length=m'.length+2:=by simp;omega
   rw[hlen] at hk hl⊢;have fa:=hf a (mem_cons_self ..);have fb:=hf b (by simp);have fm:PF m':=fun c hc=>hf c (by simp [hc])
   have la:a.length=3:=(fk fa).symm;have lb:b.length=3:=(fk fb).symm;have lm:m'.flatten.length=m'.length*3:=cG fm.pD;have e1:(i:Int)<(i:Int)+((m'.length+2:Nat):Int)-1:=by omega
   have e2:0≤(i:Int)+((m'.length+2:Nat):Int)-1:=by omega
   have e3:(i:Int)+((m'.length+2:Nat):Int)-1<(len:Int):=by omega
   have e4:0≤(i:Int):=by omega
   have e5:(i:Int)<(len:Int):=by omega
   have e6:((i:Int)+((m'.length+2:Nat):Int)-1).toNat=i+m'.length+1:=by omega
   have e7:IntKind.i64.wrap ((i:Int)+((m'.length+2:Nat):Int)-1-1)=((i+1:Nat):Int)+(m'.length:Nat)-1:=by rw[bf (by omega) (by omega)];omega
   have hg:=h.get;have s1:X++((a::(m'++[b])).flatten++Y)=(X++(a++m'.flatten))++(b++Y):=by simp
   have s2:X++((a::(m'++[b])).flatten++Y)=X++(a++(m'.flatten++(b++Y))):=by simp
   have Tn:=hg;rw[s1] at Tn;have Jj:=hg;rw[s2] at Jj;have o1:o+(i+m'.length+1)*3=(X++(a++m'.flatten)).length:=by simp only[length_append,hX,la,lm];omega
   have i1:=J4 Tn o1 lb.symm;have u1:=J3 Tn o1 lb.symm;have i2:=J4 Jj hX.symm la.symm;have u2:=J3 Jj hX.symm la.symm;have w2:=Is Jj hX.symm la.symm;have h2:=h;rw[s2] at h2;have h3:=h2.ja hX.symm (vs:=b) (by rw[la,lb]);have s3:X++(b++(m'.flatten++(b++Y)))=(X++(b++m'.flatten))++(b++Y):=by simp
   rw[s3] at h3;have o3:o+(i+m'.length+1)*3=(X++(b++m'.flatten)).length:=by simp only[length_append,hX,lb,lm];omega
   have w3:=Is h3.get o3 lb.symm;have h4:=h3.ja o3 (vs:=a) (by rw[la,lb]);have s4:(X++(b++m'.flatten))++(a++Y)=(X++b)++(m'.flatten++(a++Y)):=by simp
   rw[s4] at h4;simp only[e1,e2,e3,e4,e5,e6,Int.toNat_natCast,decide_true,ao,isSome_some,getD_some,Bool.and_self,az,i1,u1,i2,u2,w2,fa,fb,PV fa,PV fb,w3];rw[aL (by omega),e7];refine ih m' (X++b) (a++Y) (i+1) (by omega) fm (by rw[length_append,hX,lb];omega) (by omega) hb h4 (fun H' h'=> ?_);refine K H' ?_;have s5:X++((a::(m'++[b])).reverse.flatten++Y)=(X++b)++(m'.reverse.flatten++(a++Y)):=by simp
   rw[s5];exact h'
theorem IY {css:List (List V)} {X Y:List V} (hf:PF css) (hX:X.length=o) (hb:css.length≤1000000) (h:aA B H (cP id e (X++(css.flatten++Y))::L)) (k:∀H',aA B H' (cP id e (X++(css.reverse.flatten++Y))::L)→K (.tuple []) H'):cl 158 [.slice (some (id,o)) css.length cap] H K:=by
 rw[aaS];(try simp only[NQ]);rw[bf (by omega) (by omega)]
 have:=WH (B:=B) (L:=L) (id:=id) (o:=o) (len:=css.length) (cap:=cap) (e:=e) (Kr:=fun S'=>K (V.tuple []) S'.3) (Ke:=fun j S'=>br (Nat.beq j 0) (K (V.tuple []) S'.3) False)
  css.length css X Y 0 (H:=H) (Nat.le_refl _) hf (by omega) (by omega) hb h (fun H' h'=>by simpa using k H' h')
 simpa using this
theorem SC {css:List (List V)} {X Y:List V} (hf:PF css) (hX:X.length=o) (hb:css.length≤1000000) (hc:css.length≤cap) {r:Nat} (hr:r≤css.length) (h:aA B H (cP id e (X++(css.flatten++Y))::L)) (k:∀H',aA B H' (cP id e (X++((css.drop r++css.take r).flatten++Y))::L)→K (.tuple []) H'):cl 152 [.slice (some (id,o)) css.length cap,vi (r:Int)] H K:=by
 have e1:0≤(r:Int):=by omega
 have e2:(r:Int)≤(cap:Int):=by omega
 have e3:r≤cap:=by omega
 have e4:(r:Int)≤(css.length:Int):=by omega
 have la:(css.take r).length=r:=by rw[length_take];omega
 have lb:(css.drop r).length=css.length-r:=length_drop;have fa:PF (css.take r):=fun c hc=>hf c (mem_of_mem_take hc)
 have fb:PF (css.drop r):=fun c hc=>hf c (mem_of_mem_drop hc)
 have lfa:(css.take r).flatten.length=r*3:=by rw[cG fa.pD,la]
 rw[aaR];(try simp only[NQ]);simp only[e1,e2,e3,e4,hc,decide_true,Bool.and_self,Bool.or_false,mI,Int.toNat_natCast,az,gO,Nat.sub_zero];have s1:X++(css.flatten++Y)=X++((css.take r).flatten++((css.drop r).flatten++Y)):=by rw[eh css r];simp
 rw[s1] at h;have g1:=fun K c=>IY (K:=K) (cap:=c) fa hX (by omega) h
 rw[la] at g1;refine g1 _ _ (fun H1 h1=> ?_);have s2:X++((css.take r).reverse.flatten++((css.drop r).flatten++Y))=(X++(css.take r).reverse.flatten)++((css.drop r).flatten++Y):=by simp
 rw[s2] at h1;have lr:((css.take r).reverse.flatten).length=r*3:=by rw[cG (px.rev fa.pD),length_reverse,la]
 have g2:=fun K c=>IY (K:=K) (cap:=c) (o:=o+r*3) fb (by rw[length_append,hX,lr]) (by omega) h1
 rw[lb] at g2;refine g2 _ _ (fun H2 h2=> ?_)
 have fr:PF ((css.take r).reverse++(css.drop r).reverse):=by
  intro c hc;rcases mem_append.1 hc with hc|hc
  ·exact fa c (mem_reverse.1 hc)
  ·exact fb c (mem_reverse.1 hc)
 have s3:(X++(css.take r).reverse.flatten)++((css.drop r).reverse.flatten++Y)=X++(((css.take r).reverse++(css.drop r).reverse).flatten++Y):=by simp
 rw[s3] at h2;have lx:((css.take r).reverse++(css.drop r).reverse).length=css.length:=by simp;omega
 have g3:=fun K=>IY (K:=K) (cap:=cap) fr hX (by omega) h2
 rw[lx] at g3;refine g3 _ (fun H3 h3=> ?_);have s4:((css.take r).reverse++(css.drop r).reverse).reverse=css.drop r++css.take r:=by simp
 rw[s4] at h3;exact k _ h3
theorem SD {css:List (List V)} {X Y:List V} (hf:PF css) (hX:X.length=o) (hb:css.length≤1000000) (hc:css.length≤cap) (hr:1≤css.length) (h:aA B H (cP id e (X++(css.flatten++Y))::L)) (k:∀H',aA B H' (cP id e (X++((css.drop (css.length-1)++css.take (css.length-1)).flatten++Y))::L)→K (.tuple []) H'):cl 147 [.slice (some (id,o)) css.length cap,vi 1] H K:=by
 have e:IntKind.i64.wrap ((css.length:Int)-1)=((css.length-1:Nat):Int):=by rw[bf (by omega) (by omega)];omega
 rw[aaQ];(try simp only[NQ]);rw[e];exact SC hf hX hb hc (by omega) h k
end
theorem WI (args:List V) (H:ai) (K:KP):iT cV 146 args H K=BL args H K:=by kernel_rfl
section
variable {B:ai} {L:List cw} {H:ai} {K:KP} {cap:Nat} {q:Oq} {css:List (List V)}
theorem Ms (h:aA B H (Rw 138 3 q cap css::L)) {vid:Nat} {e2:TypeId} {c:List V} (hv:∀H,aA B H L→H.get vid=some (.cells e2 c false)) (hf:PF css) (hfc:aM rR c=true) (hb:css.length≤1000) {i:Nat} (hi:i≤css.length) (hne:∀id off,q=some (id,off)→vid≠id) (k:∀q' c' H',aA B H' (Rw 138 3 q' c' (css.take i++c::css.drop i)::L)→K (.slice q' (css.length+1) c') H'):cl 137 [.slice q css.length cap,vi (i:Int),.slice (some (vid,0)) 1 1] H K:=by
 have hle:=h.We;have hu:=hf.pD;have lc:c.length=3:=(fk hfc).symm;have oc:bn c:=gf hfc;have e1:0≤(i:Int):=by omega
 have e2':(i:Int)≤(css.length:Int):=by omega
 have e3:¬((1:Nat):Int)=0:=by omega
 have hvg:=hv H h.drop;have hrv:Rd H (some (vid,0)) c:=.inr ⟨vid,0,e2,c,false,rfl,hvg,by rw[drop_zero,take_length]⟩;have w1:IntKind.i64.wrap ((css.length:Int)+((1:Nat):Int))=((css.length+1:Nat):Int):=by rw[bf (by omega) (by omega)];omega
 have w2:IntKind.i64.wrap ((i:Int)+((1:Nat):Int))=((i+1:Nat):Int):=by rw[bf (by omega) (by omega)];omega
 rw[aaP];(try simp only[NQ]);simp only[e1,e2',e3,hle,decide_true,decide_false,Bool.and_self,Bool.true_and,Bool.or_false,mI,az,ah,w1,w2,Int.toNat_natCast,gO,Nat.sub_zero];by_cases hin:i=css.length
 ·subst hin;rw[decide_eq_true rfl,ao];have hx:V5 H 3 (.slice (some (vid,0)) 1 1) 1 c:=⟨by rw[lc],oc,.inl ⟨_,_,rfl,hrv⟩⟩;refine h.append yb Eu Ew rfl (by omega) hx (by omega) (fun q' c' H' h'=> ?_);have e:css.take css.length++c::css.drop css.length=css++[c]:=by simp
  rw[e] at k;refine k q' c' H' ?_;unfold Rw;rw[length_append,flatten_append];simpa using h'
 ·have hlt:i<css.length:=by omega
  have e4:¬(i:Int)=(css.length:Int):=by omega
  rw[decide_eq_false e4,ah];have fa:PF (css.take i):=fun c hc=>hf c (mem_of_mem_take hc)
  have fd:PF (css.drop i):=fun c hc=>hf c (mem_of_mem_drop hc)
  have la:(css.take i).flatten.length=i*3:=by rw[cG fa.pD,length_take,Nat.min_eq_left hi]
  have ld:(css.drop i).flatten.length=(css.length-i)*3:=by rw[cG fd.pD,length_drop]
  have abK:(css.take i++c::css.drop i).flatten=(css.take i).flatten++(c++(css.drop i).flatten):=by simp
  have hlen:(css.take i++c::css.drop i).length=css.length+1:=by simp;omega
  have ffin:PF (css.take i++c::css.drop i):=by
   intro x hx;rcases mem_append.1 hx with hx|hx
   ·exact fa x hx
   ·rcases mem_cons.1 hx with rfl|hx
    ·exact hfc
    ·exact fd x hx
  obtain⟨id,off,pre,post,rfl,hp,tO,hs⟩:=h.OH hu (by omega);have ad8:=hne id off rfl;have hg:=hs.get
  have abL:Rd H (some (id,off+i*3)) (css.drop i).flatten:=by
   have hg':=hg;rw[eh css i,show pre++((css.take i).flatten++(css.drop i).flatten++post)=(pre++(css.take i).flatten)++((css.drop i).flatten++post) by simp] at hg';exact DW hg' (by rw[length_append,hp,la])
  have padd:∀m,bT (some (id,off)) m=some (id,off+m):=fun m=>rfl
  by_cases hroom:css.length+1≤cap
  ·have e5:¬((css.length+1:Nat):Int)>(cap:Int):=by omega
   have e6:0≤((css.length+1:Nat):Int):=by omega
   have e7:((css.length+1:Nat):Int)≤(cap:Int):=by omega
   have e8:0≤((i+1:Nat):Int):=by omega
   have e9:((i+1:Nat):Int)≤((css.length+1:Nat):Int):=by omega
   have Nq:(i:Int)≤((css.length+1:Nat):Int):=by omega
   have e11:0≤(css.length:Int):=by omega
   have e12:(css.length:Int)≤((css.length+1:Nat):Int):=by omega
   rw[decide_eq_false e5,ah];simp only[e6,e7,e8,e9,hroom,decide_true,Bool.and_self,az,padd];rw[WI];refine⟨ad8,by omega,by omega,⟨e2,c,hvg,by omega⟩,⟨_,_,_,hg⟩, ?_, ?_⟩
   ·
    simp only[fK,ct,Bool.not_true,ah,az,e11,e12,decide_true,Bool.and_self]
    have hpost:3≤post.length:=by
     have:1*3≤(cap-css.length)*3:=Nat.mul_le_mul_right _ (by omega);omega
    have lcs:css.flatten.length=css.length*3:=cG hu
    have qJ:=mL (n:=3) (k:=css.length+1-css.length) (o:=off+css.length*3) (ms:=1) (c:=1) (j:=1) hg hrv (by rw[show css.length+1-css.length=1 by omega];rfl) (by rw[lc]) oc (by omega)
     (by simp only[length_append];omega)
    rw[qJ.1,qJ.2,az];have s1:pre++(css.flatten++post)=(pre++css.flatten)++(post.take 3++post.drop 3):=by rw[take_append_drop,append_assoc]
    rw[s1] at hs;have oh:=hs.ja (o:=off+css.length*3) (vs:=c) (by rw[length_append,hp,lcs]) (by rw[length_take,lc];omega)
    have fdc:PF (css.drop i++[c]):=by
     intro x hx;rcases mem_append.1 hx with hx|hx
     ·exact fd x hx
     ·rw[mem_singleton] at hx;subst hx;exact hfc
    have ldc:(css.drop i++[c]).length=css.length+1-i:=by simp;omega
    have s2:(pre++css.flatten)++(c++post.drop 3)=(pre++(css.take i).flatten)++((css.drop i++[c]).flatten++post.drop 3):=by rw[eh css i];simp
    rw[s2] at oh;have e13:i≤css.length+1:=by omega
    simp only[Nq,decide_true,Bool.and_self,az];have abM:=fun K=>SD (K:=K) (cap:=cap-i) (o:=off+i*3) fdc (by rw[length_append,hp,la]) (by omega) (by omega) (by omega) oh
    rw[ldc] at abM;refine abM _ (fun H3 h3=> ?_);have ldd:css.length+1-i-1=(css.drop i).length:=by rw[length_drop];omega
    have s3:(css.drop i++[c]).drop (css.length+1-i-1)++(css.drop i++[c]).take (css.length+1-i-1)=c::css.drop i:=by
     rw[ldd,drop_left' rfl,take_left' rfl];rfl
    rw[s3,show (pre++(css.take i).flatten)++((c::css.drop i).flatten++post.drop 3)=pre++((css.take i++c::css.drop i).flatten++post.drop 3) by simp] at h3;have:=h3.F0 (cap:=cap) ffin.pD (by omega) (by rw[hlen,length_drop,Nat.sub_mul,Nat.add_mul];rw[Nat.sub_mul] at tO;omega);rw[hp] at this;exact k _ _ _ this
   ·simp only[fK,ct,Bool.not_false,ao,az,Nq,decide_true,Bool.and_self]
    have hpost:3≤post.length:=by
     have:1*3≤(cap-css.length)*3:=Nat.mul_le_mul_right _ (by omega);omega
    have lcs:css.flatten.length=css.length*3:=cG hu
    have qJ:=mL (n:=3) (k:=css.length+1-(i+1)) (o:=off+(i+1)*3) (ms:=css.length+1-i) (c:=cap-i) (j:=css.length-i) hg abL (by
     rw[show css.length+1-(i+1)=css.length-i by omega];exact Nat.min_eq_right (by omega)) ld (lV fd.pD) (by omega)
     (by simp only[length_append,lcs];have:(css.length-i)*3+i*3=css.length*3:=by rw[←Nat.add_mul];congr 1;omega
         omega)
    rw[qJ.1,qJ.2,az];have ls:((css.drop i).flatten++post).length=((css.drop i).flatten).length+post.length:=length_append
    have s1:pre++(css.flatten++post)=(pre++((css.take i).flatten++((css.drop i).flatten++post).take 3))++((((css.drop i).flatten++post).drop 3).take ((css.length-i)*3)++post.drop 3):=by
     have a1:((css.drop i).flatten++post)=((css.drop i).flatten++post).take 3++((((css.drop i).flatten++post).drop 3).take ((css.length-i)*3)++(((css.drop i).flatten++post).drop 3).drop ((css.length-i)*3)):=by
      rw[take_append_drop,take_append_drop]
     have a2:(((css.drop i).flatten++post).drop 3).drop ((css.length-i)*3)=post.drop 3:=by
      rw[drop_drop,Nat.add_comm, ←ld, ←drop_drop,drop_left' rfl]
     rw[a2] at a1
     conv=>lhs;rw[eh css i,append_assoc,a1]
     simp only[append_assoc]
    rw[s1] at hs;have l3:(((css.drop i).flatten++post).take 3).length=3:=by rw[length_take];omega
    have oh:=hs.ja (o:=off+(i+1)*3) (vs:=(css.drop i).flatten) (by simp only[length_append,hp,la,l3];omega) (by rw[ld,length_take,length_drop];omega);have s2:(pre++((css.take i).flatten++((css.drop i).flatten++post).take 3))++((css.drop i).flatten++post.drop 3)=(pre++(css.take i).flatten)++(((css.drop i).flatten++post).take 3++((css.drop i).flatten++post.drop 3)):=by simp only[append_assoc]
    rw[s2] at oh;have Tx:=hv _ oh.drop;have Xw:Rd (H.store id (off+(i+1)*3) (css.drop i).flatten) (some (vid,0)) c:=.inr ⟨vid,0,e2,c,false,rfl,Tx,by rw[drop_zero,take_length]⟩;have Ri:=mL (n:=3) (k:=css.length+1-i) (o:=off+i*3) (ms:=1) (c:=1) (j:=1) oh.get Xw (Nat.min_eq_left (by omega)) (by rw[lc]) oc (by omega) (by simp only[length_append,la,l3,hp];omega);rw[Ri.1,Ri.2,az];have Nh:=oh.ja (o:=off+i*3) (vs:=c) (by rw[length_append,hp,la]) (by rw[l3,lc]);rw[show (pre++(css.take i).flatten)++(c++((css.drop i).flatten++post.drop 3))=pre++((css.take i++c::css.drop i).flatten++post.drop 3) by simp] at Nh;have:=Nh.F0 (cap:=cap) ffin.pD (by omega) (by rw[hlen,length_drop,Nat.sub_mul,Nat.add_mul];rw[Nat.sub_mul] at tO;omega);rw[hp] at this;exact k _ _ _ this
  ·have e5:((css.length+1:Nat):Int)>(cap:Int):=by omega
   have e6:(i:Int)≤(cap:Int):=by omega
   have e7:i≤cap:=by omega
   rw[decide_eq_true e5,ao];have w3:IntKind.i64.wrap (((css.length+1:Nat):Int)-(i:Int))=((css.length+1-i:Nat):Int):=by rw[bf (by omega) (by omega)];omega
   simp only[e6,e7,w3,decide_true,Bool.and_self,az]
   have abN:Rd H (some (id,off)) (css.take i).flatten:=by
    have hg':=hg;rw[eh css i,show pre++((css.take i).flatten++(css.drop i).flatten++post)=pre++((css.take i).flatten++((css.drop i).flatten++post)) by simp] at hg';exact DW hg' hp.symm
   have hz:(ia (css.length+1-i) (gh 0 none 0 0 false)).length=(css.length+1-i)*3:=by rw[gg,Af]
   refine hs.LW (u:=3) yb Ew rfl (by omega) abN la (lV fa.pD) (OI SB (by omega) (by omega)) rfl rfl (by rw[show ef _ _=ia _ _ from rfl,Int.toNat_natCast];exact hz) (gG Ew _) (by omega) (by omega) (fun c' po rW Xx oh=> ?_);simp only[show∀(n:Nat) (z:List V),ef n z=ia n z from fun _ _=>rfl,Int.toNat_natCast] at oh Xx rW⊢;have hn2:i+(css.length+1-i)=css.length+1:=by omega
   simp only[hn2] at rW Xx⊢;generalize hz0:ia (css.length+1-i) (gh 0 none 0 0 false)=zs at oh hz⊢;have abO:∀m,bT (some (H.next,0)) m=some (H.next,m):=fun m=>by simp [bT]
   have e8:(i:Int)≤((css.length+1:Nat):Int):=by omega
   have e9:0≤((i+1:Nat):Int):=by omega
   have Nq:((i+1:Nat):Int)≤((css.length+1:Nat):Int):=by omega
   simp only[padd,abO,e8,e9,Nq,rW,decide_true,Bool.and_self,az];have Tx:=hv _ oh.drop.drop;generalize hH2:ai.alloc H _=H2 at oh Tx⊢;have Xw:Rd H2 (some (vid,0)) c:=.inr ⟨vid,0,e2,c,false,rfl,Tx,by rw[drop_zero,take_length]⟩;have qJ:=mL (n:=3) (k:=css.length+1-i) (o:=i*3) (ms:=1) (c:=1) (j:=1) oh.get Xw (Nat.min_eq_left (by omega)) (by rw[lc]) oc (by omega) (by simp only[length_append,la,hz];omega);rw[qJ.1,qJ.2,az];have z3:(zs.take 3).length=3:=by rw[length_take,hz];omega
   rw[show (css.take i).flatten++(zs++po)=(css.take i).flatten++(zs.take 3++(zs.drop 3++po)) by rw[←append_assoc (zs.take 3),take_append_drop]] at oh;have Nh:=oh.ja (o:=i*3) (vs:=c) (by rw[la]) (by rw[z3,lc]);have hs4:=Nh.up 1;simp only[eO,eJ] at hs4
   have Xy:Rd (H2.store H.next (i*3) c) (some (id,off+i*3)) (css.drop i).flatten:=by
    have hg':=hs4.get;rw[eh css i,show pre++((css.take i).flatten++(css.drop i).flatten++post)=(pre++(css.take i).flatten)++((css.drop i).flatten++post) by simp] at hg';exact DW hg' (by rw[length_append,hp,la])
   have z4:(zs.drop 3).length=(css.length-i)*3:=by rw[length_drop,hz];omega
   have Ri:=mL (n:=3) (k:=css.length+1-(i+1)) (o:=(i+1)*3) (ms:=css.length-i) (c:=cap-i) (j:=css.length-i) Nh.get Xy (by
    rw[show css.length+1-(i+1)=css.length-i by omega];exact Nat.min_eq_left (by omega)) ld (lV fd.pD) (by omega) (by simp only[length_append,la,lc,z4];omega)
   rw[Ri.1,Ri.2,az];rw[show (css.take i).flatten++(c++(zs.drop 3++po))=((css.take i).flatten++c)++(zs.drop 3++po) by simp] at Nh;have hs5:=Nh.ja (o:=(i+1)*3) (vs:=(css.drop i).flatten) (by rw[length_append,la,lc];omega) (by rw[z4,ld]);rw[show ((css.take i).flatten++c)++((css.drop i).flatten++po)=[]++((css.take i++c::css.drop i).flatten++po) by simp] at hs5;have hs6:=hs5.F0 (cap:=c') ffin.pD (by omega) (by rw[hlen,Xx];exact Nat.le_refl _);have hs7:=(hs6.up 1).drop;exact k _ _ _ hs7
theorem Mt (h:aA B H (Rw 138 3 q cap css::L)) (hf:PF css) (hb:css.length≤1000) {i:Nat} (hi:i<css.length) (k:∀H',aA B H' (Rw 138 3 q cap (css.eraseIdx i)::L)→K (.slice q (css.length-1) cap) H'):cl 121 [.slice q css.length cap,vi (i:Int),vi ((i+1:Nat):Int)] H K:=by
 have hle:=h.We;have hu:=hf.pD;rw[aaN];(try simp only[NQ]);have e1:0≤(css.length:Int):=by omega
 have e2:(css.length:Int)≤(cap:Int):=by omega
 have e3:0≤((i+1:Nat):Int):=by omega
 have e4:((i+1:Nat):Int)≤(css.length:Int):=by omega
 have e5:0≤(i:Int):=by omega
 have e6:(i:Int)≤((i+1:Nat):Int):=by omega
 have e7:i+1≤css.length:=by omega
 have e8:¬(i:Int)=((i+1:Nat):Int):=by omega
 have e9:(i:Int)≤(cap:Int):=by omega
 have Nq:i≤cap:=by omega
 simp only[e1,e2,e3,e4,e5,e6,e7,e8,e9,Nq,hle,decide_true,decide_false,Bool.and_self,Bool.true_and,Bool.or_false,mI,az,ah,Int.toNat_natCast,gO,Nat.sub_zero];obtain⟨id,off,pre,post,rfl,hp,tO,hs⟩:=h.OH hu (by omega);have hg:=hs.get;have padd:∀m,bT (some (id,off)) m=some (id,off+m):=fun m=>rfl
 have fa:PF (css.take i):=fun c hc=>hf c (mem_of_mem_take hc)
 have fd:PF (css.drop (i+1)):=fun c hc=>hf c (mem_of_mem_drop hc)
 have la:(css.take i).flatten.length=i*3:=by rw[cG fa.pD,length_take,Nat.min_eq_left (by omega)]
 have ld:(css.drop (i+1)).flatten.length=(css.length-(i+1))*3:=by rw[cG fd.pD,length_drop]
 have lx:(css[i]).length=3:=(fk (hf _ (getElem_mem hi))).symm;have s0:css.flatten=(css.take i).flatten++(css[i]++(css.drop (i+1)).flatten):=by rw[eh css i,drop_eq_getElem_cons hi,flatten_cons]
 have hrd:Rd H (some (id,off+(i+1)*3)) (css.drop (i+1)).flatten:=by
  have hg':=hg;rw[s0,show pre++((css.take i).flatten++(css[i]++(css.drop (i+1)).flatten)++post)=(pre++((css.take i).flatten++css[i]))++((css.drop (i+1)).flatten++post) by simp] at hg';exact DW hg' (by simp only[length_append,hp,la,lx];omega)
 have hn:css.length-(i+1)+(i+1)=css.length:=by omega
 have hx:V5 H 3 (.slice (some (id,off+(i+1)*3)) (css.length-(i+1)) (cap-(i+1))) (css.length-(i+1)) (css.drop (i+1)).flatten:=⟨ld,lV fd.pD,.inl ⟨_,_,rfl,hrd⟩⟩;have lcs:css.flatten.length=css.length*3:=cG hu;simp only[padd]
 refine LX yb Eu (by omega) hg hx (by omega) (by simp only[length_append,lcs];have:(css.length-(i+1))*3+i*3≤css.length*3:=by rw[←Nat.add_mul];exact Nat.mul_le_mul_right _ (by omega)
                                                 omega) ?_
 have hm:i+(css.length-(i+1))=css.length-1:=by omega
 have e11:0≤((css.length-1:Nat):Int):=by omega
 have e12:((css.length-1:Nat):Int)≤(css.length:Int):=by omega
 have X3:css.length-(css.length-1)=1:=by omega
 have EO:Nat.beq 1 0=false:=rfl;simp only[hm,e2,e11,e12,hle,X3,EO,decide_true,Bool.and_self,az,padd,isNone_some,Bool.false_or,Bool.or_self,getD_some,cond_false];have s1:((css.drop i).flatten).length=(css.length-i)*3:=by rw[cG (px.drop hu i),length_drop]
 have abP:css.flatten=(css.take i).flatten++(((css.drop i).flatten).take ((css.length-(i+1))*3)++((css.drop i).flatten).drop ((css.length-(i+1))*3)):=by
  rw[take_append_drop, ←eh]
 have l2:(((css.drop i).flatten).take ((css.length-(i+1))*3)).length=(css.length-(i+1))*3:=by rw[length_take,s1];omega
 have l3:(((css.drop i).flatten).drop ((css.length-(i+1))*3)).length=3:=by rw[length_drop,s1];omega
 rw[show pre++(css.flatten++post)=(pre++(css.take i).flatten)++(((css.drop i).flatten).take ((css.length-(i+1))*3)++(((css.drop i).flatten).drop ((css.length-(i+1))*3)++post)) by
  conv=>lhs;rw[abP]
  simp only[append_assoc]] at hs
 have oh:=hs.ja (o:=off+i*3) (vs:=(css.drop (i+1)).flatten) (by rw[length_append,hp,la]) (by rw[l2,ld])
 rw[show (pre++(css.take i).flatten)++((css.drop (i+1)).flatten++(((css.drop i).flatten).drop ((css.length-(i+1))*3)++post))=
  (pre++((css.take i).flatten++(css.drop (i+1)).flatten))++(((css.drop i).flatten).drop ((css.length-(i+1))*3)++post) by simp] at oh
 have ho:off+(css.length-1)*3=(pre++((css.take i).flatten++(css.drop (i+1)).flatten)).length:=by
  simp only[length_append,hp,la,ld];have:(css.length-1)*3=i*3+(css.length-(i+1))*3:=by rw[←Nat.add_mul];congr 1;omega
  omega
 rw[Is oh.get ho (by rw[l3]),az];have hrow:ef 1 (gh 0 none 0 0 false)=gh 0 none 0 0 false:=by show _++[]=_;rw[append_nil]
 rw[hrow];have Nh:=oh.ja ho (vs:=gh 0 none 0 0 false) (by rw[l3,Af]);have he:css.eraseIdx i=css.take i++css.drop (i+1):=eraseIdx_eq_take_drop_succ css i;rw[show (pre++((css.take i).flatten++(css.drop (i+1)).flatten))++(gh 0 none 0 0 false++post)=pre++((css.eraseIdx i).flatten++(gh 0 none 0 0 false++post)) by rw[he];simp] at Nh;have ad9:(css.eraseIdx i).length=css.length-1:=by rw[length_eraseIdx,if_pos hi]
 have fe:PF (css.eraseIdx i):=fun c hc=>hf c (mem_of_mem_eraseIdx hc)
 have:=Nh.F0 (cap:=cap) fe.pD (by omega) (by
  rw[ad9,length_append,Af]
  have:(cap-(css.length-1))*3=(cap-css.length)*3+3:=by
   rw[show cap-(css.length-1)=cap-css.length+1 by omega,Nat.add_mul]
  omega)
 rw[hp] at this;exact k _ this
end
structure Pg where
 au:Int
 data:List UInt8
 cB:Bool
structure Rp where
 p:Pg
 q:Oq
 c:Nat
def Rp.cs (r:Rp):List V:=gh r.p.au r.q r.p.data.length r.c r.p.cB
def Rp.bV (r:Rp):cw:=BY r.q r.c r.p.data
theorem Rp.aM (r:Rp):aM rR r.cs=true:=rfl
theorem vk (rs:List Rp):PF (rs.map Rp.cs):=by
 intro c hc;obtain⟨r,_,rfl⟩:=mem_map.1 hc;exact r.aM
def Ey (rs:List Rp) (a:Int) (k:Nat):Int:=match rs[k]? with
 |some r=>IntKind.i64.wrap (r.p.au-a)
 |none=>0
theorem rG {rs:List Rp} {a:Int} {k:Nat} (h:k<rs.length):Ey rs a k=IntKind.i64.wrap (rs[k].p.au-a):=by
 unfold Ey;rw[List.getElem?_eq_getElem h]
def KQ (rs:List Rp) (a:Int) (i:Nat):Prop:=i≤rs.length∧(i=0∨Ey rs a (i-1)<0)∧(i=rs.length∨¬Ey rs a i<0)
section
variable {B:ai} {L:List cw} {H:ai} {K:KP} {cap:Nat} {q:Oq} {rs:List Rp} {a:Int}
theorem Ch (args:List V) (H:ai) (K:KP):jV cV (qQ cV) (.func 136 []) args H K=cl 136 (args++[]) H K:=by kernel_rfl
theorem ly (hr:Rd H q (rs.map Rp.cs).flatten) {i:Nat} (hi:i<rs.length):q.isSome=true∧H.inb (q.getD (0,0)).1 ((q.getD (0,0)).2+i*3) 3=true∧H.sub (q.getD (0,0)).1 ((q.getD (0,0)).2+i*3) 3=rs[i].cs:=by
 have:=xj hr (vk rs).pD (by omega) (i:=i) (by simpa using hi);simpa using this
theorem Mu (hr:Rd H q (rs.map Rp.cs).flatten) (hb:rs.length≤1000) {Kr:PS} {Ke:NS} (k:∀i,KQ rs a i→Ke 0 (St.mk (ab [(0,ts q rs.length cap),(1,ti a),(2,T.v (V.func 136 [])),(8,ti (rs.length:Int)),(9,ti (i:Int))]) (ab []) H)):∀(n i j:Nat),j-i≤n→i≤j→j≤rs.length→(i=0∨Ey rs a (i-1)<0)→(j=rs.length∨¬Ey rs a j<0)→lo 135 3 (St.mk (ab [(0,ts q rs.length cap),(1,ti a),(2,T.v (V.func 136 [])),(8,ti (rs.length:Int)),(9,ti (i:Int)),(10,ti (j:Int))]) (ab []) H) Kr Ke:=by
 intro n
 induction n with
 |zero=>
  intro i j hn hij hj h1 h2;obtain rfl:i=j:=by omega
  rw[JV];(try simp only[NQ]);have e1:¬(i:Int)<(i:Int):=by omega
  rw[decide_eq_false e1,ah];exact k i ⟨hj,h1,h2⟩
 |succ n ih=>
  intro i j hn hij hj h1 h2;rw[JV];(try simp only[NQ]);by_cases hlt:i<j
  ·have e1:(i:Int)<(j:Int):=by omega
   have em:IntKind.i64.wrap (Int.fdiv (IntKind.u64.wrap (IntKind.i64.wrap ((i:Int)+(j:Int)))) 2)=(((i+j) / 2:Nat):Int):=by
    rw[bf (x:=(i:Int)+(j:Int)) (by omega) (by omega),IntWalk.u64_in _ (by omega),Int.fdiv_eq_ediv_of_nonneg _ (by omega),bf (by omega) (by omega)];omega
   generalize hm:(i+j) / 2=m at em;have Ur:i≤m:=by omega
   have hm2:m<j:=by omega
   obtain⟨r1,r2,r3⟩:=ly hr (i:=m) (by omega);have e2:0≤(m:Int):=by omega
   have e3:(m:Int)<(rs.length:Int):=by omega
   have ho:vU rs[m].cs=rs[m].cs:=rfl;simp only[e1,em,e2,e3,Int.toNat_natCast,decide_true,ao,r1,r2,r3,Bool.and_self,az,Rp.aM,ho,Ch,append_nil];unfold Rp.cs;rw[TX];(try simp only[NQ]);have hc:=rG (a:=a) (show m<rs.length by omega);simp only[dh,bh,az, ←hc];rw[bf (x:=(m:Int)+1) (by omega) (by omega)];by_cases hneg:Ey rs a m<0
   ·rw[decide_eq_true hneg,ao];have:=ih (m+1) j (by omega) (by omega) hj (.inr (by simpa using hneg)) h2;simpa using this
   ·rw[decide_eq_false hneg,ah];exact ih i m (by omega) Ur (by omega) h1 (.inr hneg)
  ·obtain rfl:i=j:=by omega
   have e1:¬(i:Int)<(i:Int):=by omega
   rw[decide_eq_false e1,ah];exact k i ⟨hj,h1,h2⟩
def tD (rs:List Rp) (a:Int) (i:Nat):Bool:=decide (i<rs.length)&&decide (Ey rs a i=0)
theorem Mv (hr:Rd H q (rs.map Rp.cs).flatten) (hb:rs.length≤1000) (k:∀i,KQ rs a i→K (.tuple [vi (i:Int),.bool (tD rs a i)]) H):cl 135 [.slice q rs.length cap,vi a,.func 136 []] H K:=by
 rw[aaO];(try simp only[NQ]);refine Mu hr hb (fun i hi=> ?_) rs.length 0 rs.length (by omega) (by omega) (Nat.le_refl _) (.inl rfl) (.inl rfl);have hk:=k i hi;unfold tD at hk;have ek:V.ax cA.func (V.func 136 [])=true:=rfl;simp only[AM,reduceIte,Nat.reduceEqDiff,ek];by_cases hlt:i<rs.length
 ·have e1:(i:Int)<(rs.length:Int):=by omega
  obtain⟨r1,r2,r3⟩:=ly hr (i:=i) (by omega);have e2:0≤(i:Int):=by omega
  have ho:vU rs[i].cs=rs[i].cs:=rfl;simp only[e1,e2,Int.toNat_natCast,decide_true,ao,r1,r2,r3,Bool.and_self,az,Rp.aM,ho,Ch,append_nil];unfold Rp.cs;rw[TX];(try simp only[NQ]);have hc:=rG (a:=a) (show i<rs.length by omega);simp only[dh,bh,az, ←hc];rw[decide_eq_true hlt,Bool.true_and] at hk;exact hk
 ·have e1:¬(i:Int)<(rs.length:Int):=by omega
  rw[decide_eq_false hlt,Bool.false_and] at hk;simp only[e1,decide_false,ah];exact hk
theorem PW {id:Nat} (hg:H.get id=some (.cells 91 [.slice q rs.length cap] false)) (hr:Rd H q (rs.map Rp.cs).flatten) (hb:rs.length≤1000) (k:∀i,KQ rs a i→K (.tuple [vi (i:Int),.bool (tD rs a i)]) H):cl 111 [.ay (some (id,0)),vi a] H K:=by
 rw[aaL];(try simp only[NQ]);have e1:Nat.ble (0+1) [V.slice q rs.length cap].length=true:=rfl;simp only[isSome_some,getD_some,az,dN hg,ba hg,e1,eW,bL,bA,aQ,cE,Bool.and_self];refine Mv hr hb (fun i hi=> ?_);simp only[AM];exact k i hi
def tE (q:Oq) (cap:Nat) (ps:List Pg):cw:=
 E2 fun rs:List Rp=>jo (DN (rs.map Rp.p=ps)) (jo (Rw 138 3 q cap (rs.map Rp.cs)) (bB (rs.map Rp.bV)))
theorem aA.aB {ps:List Pg} (h:aA B H (tE q cap ps::L)):∃rs:List Rp,rs.map Rp.p=ps∧aA B H (Rw 138 3 q cap (rs.map Rp.cs)::bB (rs.map Rp.bV)::L):=by
 obtain⟨rs,h⟩:=h.Iq;obtain⟨h1,h⟩:=h.jo.DN;exact⟨rs,h1,h.jo⟩
theorem aA.KR (h:aA B H (Rw 138 3 q cap (rs.map Rp.cs)::bB (rs.map Rp.bV)::L)):aA B H (tE q cap (rs.map Rp.p)::L):=
 aA.intro (A:=fun rs':List Rp=>jo (DN (rs'.map Rp.p=rs.map Rp.p)) (jo (Rw 138 3 q cap (rs'.map Rp.cs)) (bB (rs'.map Rp.bV)))) (h.oM.pure rfl).oM
def eK (id:Nat) (ps:List Pg):cw:=E2 fun q=>E2 fun cap=>jo (cP id 91 [.slice q ps.length cap]) (tE q cap ps)
theorem aA.nZ {id:Nat} {ps:List Pg} (h:aA B H (eK id ps::L)):∃(rs:List Rp) (q:Oq) (cap:Nat),rs.map Rp.p=ps∧aA B H (cP id 91 [.slice q rs.length cap]::Rw 138 3 q cap (rs.map Rp.cs)::bB (rs.map Rp.bV)::L):=by
 obtain⟨q,h⟩:=h.Iq;obtain⟨cap,h⟩:=h.Iq;have h:=h.jo.swap;obtain⟨rs,rfl,h⟩:=aA.aB h;have h2:=h.up 2;simp only[eO,eJ,length_map] at h2;exact⟨rs,q,cap,rfl,h2⟩
theorem aA.rH {id:Nat} (h:aA B H (cP id 91 [.slice q rs.length cap]::Rw 138 3 q cap (rs.map Rp.cs)::bB (rs.map Rp.bV)::L)):aA B H (eK id (rs.map Rp.p)::L):=by
 have h2:aA B H (Rw 138 3 q cap (rs.map Rp.cs)::bB (rs.map Rp.bV)::cP id 91 [.slice q rs.length cap]::L):=by
  exact(h.up 1).lT (by simp only[eO,eJ];exact(List.Perm.refl _).cons _ |>.trans ((List.Perm.swap ..).cons _))
 have h3:=(aA.KR h2).swap;have h4:=h3.oM;refine aA.intro (A:=fun q=>E2 fun cap=>jo (cP id 91 [.slice q (rs.map Rp.p).length cap]) (tE q cap (rs.map Rp.p))) (x:=q) ?_;refine aA.intro (A:=fun cap=>jo (cP id 91 [.slice q (rs.map Rp.p).length cap]) (tE q cap (rs.map Rp.p))) (x:=cap) ?_;simpa using h4
end
def bX:List Pg→Int→Nat
 |[],_=>0
 |p::l,a=>if p.au<a then bX l a+1 else 0
def fO (ps:List Pg) (a:Int):Bool:=ps.any fun p=>decide (p.au=a)
structure ee (ps:List Pg):Prop where
 up:ps.Pairwise fun x y=>x.au<y.au
 lo:∀p∈ps,0≤p.au∧p.au≤65535
 dl:∀p∈ps,p.data.length≤64
theorem yc:∀(ps:List Pg) (a:Int),bX ps a≤ps.length
 |[],_=>Nat.le_refl _
 |p::l,a=>by
  unfold bX;split
  ·have:=yc l a;simp;omega
  ·exact Nat.zero_le _
theorem yd:∀{ps:List Pg} {a:Int} {i:Nat} (h:i<ps.length),i<bX ps a→(ps[i]).au<a
 |p::l,a,0,_,h=>by
  unfold bX at h;split at h
  ·assumption
  ·omega
 |p::l,a,i+1,hl,h=>by
  unfold bX at h;split at h
  ·exact yd (ps:=l) (Nat.lt_of_succ_lt_succ hl) (by omega)
  ·omega
theorem ye:∀{ps:List Pg} {a:Int} (hs:ps.Pairwise fun x y=>x.au<y.au) {i:Nat} (h:i<ps.length),bX ps a≤i→a≤(ps[i]).au
 |p::l,a,hs,0,_,h=>by
  unfold bX at h;split at h
  ·omega
  ·rename_i hn;simpa using hn
 |p::l,a,hs,i+1,hl,h=>by
  obtain⟨h1,h2⟩:=pairwise_cons.1 hs;unfold bX at h;split at h
  ·exact ye h2 (i:=i) (Nat.lt_of_succ_lt_succ hl) (by omega)
  ·rename_i hn;have:=h1 _ (getElem_mem (Nat.lt_of_succ_lt_succ hl));simp only[getElem_cons_succ];omega
theorem Mw {ps:List Pg} {a:Int} (hs:ps.Pairwise fun x y=>x.au<y.au) {i:Nat} (hi:i≤ps.length) (h1:∀h:0<i,(ps[i-1]'(by omega)).au<a) (h2:∀h:i<ps.length,a≤(ps[i]).au):i=bX ps a:=by
 have hle:=yc ps a;rcases Nat.lt_trichotomy i (bX ps a) with h|h|h
 ·have:=yd (ps:=ps) (a:=a) (i:=i) (by omega) h;have:=h2 (by omega);omega
 ·exact h
 ·have:=ye (a:=a) hs (i:=i-1) (by omega) (by omega);have:=h1 (by omega);omega
theorem mb {ps:List Pg} {a:Int} (hs:ps.Pairwise fun x y=>x.au<y.au):fO ps a=true↔∃h:bX ps a<ps.length,(ps[bX ps a]).au=a:=by
 unfold fO;rw[List.any_eq_true];constructor
 ·rintro⟨p,hp,he⟩;have he:p.au=a:=by simpa using he
  obtain⟨j,hj,rfl⟩:=getElem_of_mem hp
  have:bX ps a=j:=by
   rcases Nat.lt_trichotomy j (bX ps a) with h|h|h
   ·have:=yd (ps:=ps) (a:=a) (i:=j) hj h;omega
   ·exact h.symm
   ·have h3:=ye (a:=a) hs (i:=bX ps a) (by omega) (Nat.le_refl _);have h4:=(pairwise_iff_getElem.1 hs) (bX ps a) j (by omega) hj h;omega
  subst this;exact⟨hj,he⟩
 ·rintro⟨h,he⟩;exact⟨_,getElem_mem h,by simpa using he⟩
theorem tF {rs:List Rp} {ps:List Pg} (he:rs.map Rp.p=ps) (hs:ee ps) {a:Int} (ha: -9223372036854775808≤a∧a≤9223372036854775807) {i:Nat} (hi:KQ rs a i):tD rs a i=fO ps a∧(0≤a∧a≤1000000→i=bX ps a)∧(fO ps a=true→i=bX ps a):=by
 subst he;obtain⟨h1,h2,h3⟩:=hi;have hl:(rs.map Rp.p).length=rs.length:=length_map _
 have hr:∀k (hk:k<rs.length),0≤rs[k].p.au∧rs[k].p.au≤65535:=fun k hk=>hs.lo _ (by
  rw[mem_map];exact⟨_,getElem_mem hk,rfl⟩)
 have jr:0≤a∧a≤1000000→i=bX (rs.map Rp.p) a:=by
  intro xN;refine Mw hs.up (by omega) (fun h0=> ?_) (fun hlt=> ?_)
  ·rcases h2 with h2|h2
   ·omega
   ·rw[rG (by omega)] at h2;have:=hr (i-1) (by omega);rw[bf (by omega) (by omega)] at h2;simp only[getElem_map];omega
  ·rw[hl] at hlt;rcases h3 with h3|h3
   ·omega
   ·rw[rG (by omega)] at h3;have:=hr i (by omega);rw[bf (by omega) (by omega)] at h3;simp only[getElem_map];omega
 have Xz:fO (rs.map Rp.p) a=true→0≤a∧a≤65535:=by
  intro h;unfold fO at h;rw[List.any_eq_true] at h;obtain⟨p,hp,he⟩:=h;have he:p.au=a:=by simpa using he
  have:=hs.lo p hp;omega
 have hiff:tD rs a i=true↔fO (rs.map Rp.p) a=true:=by
  unfold tD;constructor
  ·intro h;rw[Bool.and_eq_true] at h;have hlt:i<rs.length:=by simpa using h.1
   have h0:Ey rs a i=0:=by simpa using h.2
   rw[rG hlt] at h0;have hr':=hr i hlt
   have he:rs[i].p.au=a:=by
    rw[IntKind.wrap_i64] at h0;omega
   unfold fO;rw[List.any_eq_true];exact⟨rs[i].p,by rw[mem_map];exact⟨_,getElem_mem hlt,rfl⟩,by simpa using he⟩
  ·intro h;obtain⟨r1,r2⟩:=Xz h;have hp:=jr ⟨r1,by omega⟩;obtain⟨g1,g2⟩:=(mb hs.up).1 h;rw[hl] at g1;have g2:(rs[bX (rs.map Rp.p) a]).p.au=a:=by simpa using g2
   rw[hp,decide_eq_true g1,rG g1,g2];have:IntKind.i64.wrap (a-a)=0:=by rw[bf (by omega) (by omega)];omega
   rw[this];rfl
 refine⟨?_,jr,fun h=>jr ⟨(Xz h).1,by have:=(Xz h).2;omega⟩⟩;cases hf:tD rs a i<;>cases hh:fO (rs.map Rp.p) a<;>simp_all
def Pg.put (p:Pg):Pg:=⟨p.au,if p.cB=true then [] else p.data,p.cB⟩
def hH (ps:List Pg) (p:Pg):List Pg×Int:=
 if p.au<0∨p.au≥65536 then (ps,1) else if p.data.length>64 then (ps,2) else
 if fO ps p.au=true then (ps.set (bX ps p.au) p.put,0) else if ps.length≥8 then (ps,11) else
 (ps.take (bX ps p.au)++p.put::ps.drop (bX ps p.au),0)
def fG (ps:List Pg) (a:Int):List Pg:=if fO ps a=true then ps.eraseIdx (bX ps a) else ps
section
variable {B:ai} {L:List cw} {H:ai} {K:KP} {cap:Nat} {q:Oq} {id:Nat} {ps:List Pg}
theorem WJ (h:aA B H (eK id ps::L)):cl 53 [.ay (some (id,0))] H K=K (vi (ps.length:Int)) H:=by
 obtain⟨rs,q,cap,rfl,h2⟩:=aA.nZ h;have hg:=h2.get;rw[adi];(try simp only[NQ]);have e1:Nat.ble (0+1) [V.slice q rs.length cap].length=true:=rfl;simp only[isNone_some,isSome_some,getD_some,ah,az,dN hg,ba hg,e1,eW,bL,aQ,Bool.and_self,length_map]
theorem PX (h:aA B H (eK id ps::L)) (hs:ee ps) (hl:ps.length≤8) (p:Pg) (ha: -9223372036854775808≤p.au∧p.au≤9223372036854775807) (hr:p.data.length≤64→mu H q p.data) (k:∀H',aA B H' (eK id (hH ps p).1::L)→K (vi (hH ps p).2) H'):cl 112 [.ay (some (id,0)),.agg (gh p.au q p.data.length cap p.cB)] H K:=by
 rw[aaM];(try simp only[NQ]);unfold hH at k;rw[isNone_some,ah];by_cases h1:p.au<0∨p.au≥65536
 ·rw[if_pos h1] at k
  have e:(bif !decide (p.au<0) then decide (p.au≥65536) else true)=true:=by
   rcases h1 with h1|h1
   ·simp [h1]
   ·have:¬p.au<0:=by omega
    simp [h1]
  rw[e,ao];exact k H h
 ·rw[if_neg h1] at k
  have e:(bif !decide (p.au<0) then decide (p.au≥65536) else true)=false:=by
   have a1:¬p.au<0:=by omega
   have a2:¬p.au≥65536:=by omega
   simp [a1,a2]
  rw[e,ah];by_cases h2:p.data.length>64
  ·rw[if_pos h2] at k;have e2:((p.data.length:Nat):Int)>64:=by omega
   rw[decide_eq_true e2,ao];exact k H h
  ·rw[if_neg h2] at k;have e2:¬((p.data.length:Nat):Int)>64:=by omega
   rw[decide_eq_false e2,ah];refine kj h (hr (by omega)) (by omega) (fun q1 c1 H1 xu=> ?_);simp only[bL,az,bA,aQ,cE];refine OK (fun S' hS=> ?_)
   obtain⟨r,hrp,hS,XA⟩:∃r:Rp,r.p=p.put∧S'=St.mk (ab []) (ab [(3,aU.cells 138 r.cs)]) H1∧aA B H1 (r.bV::eK id ps::L):=by
    rcases hS with⟨hh,rfl⟩|⟨hh,rfl⟩
    ·refine⟨⟨p.put,none,0⟩,rfl, ?_, ?_⟩
     ·unfold Rp.cs Pg.put;simp [hh]
     ·have:=kL xu.drop;unfold Rp.bV Pg.put;simpa [hh] using this
    ·refine⟨⟨p.put,q1,c1⟩,rfl, ?_, ?_⟩
     ·unfold Rp.cs Pg.put;simp [hh]
     ·unfold Rp.bV Pg.put;simpa [hh] using xu
   subst hS;have hra:r.p.au=p.au:=by rw[hrp];rfl
   obtain⟨rs,qc,cc,rfl,hcs⟩:=aA.nZ XA.swap;rw[length_map] at hl;have hg:=hcs.get;have hrd:=(hcs.up 1).kM;have hfx:ae r.cs 0=vi p.au:=by rw[←hra];rfl
   have e3:eC 138 rR (some (aU.cells 138 r.cs))=true:=rfl;simp only[jF,reduceIte,e3,iB,hfx,bh,Bool.or_false,az];refine PW hg hrd (by omega) (fun i hi=> ?_);obtain⟨f1,f2,f3⟩:=tF rfl hs ha hi;have f2:=f2 ⟨by omega,by omega⟩;subst f2;rw[f1];have wN:=yc (rs.map Rp.p) p.au;rw[length_map] at wN;have e4:Nat.ble (0+1) [V.slice qc rs.length cc].length=true:=rfl;have eo:vU r.cs=r.cs:=rfl;simp only[AK,isSome_some,dN hg,ba hg,eo];cases hf:fO (rs.map Rp.p) p.au
   ·rw[hf,if_neg (by simp)] at k;simp only[ah];by_cases h8:rs.length≥8
    ·rw[if_pos (by simpa using h8)] at k;have e5:((rs.length:Nat):Int)≥8:=by omega
     simp only[e5,decide_true,ao];refine k H1 ?_;exact(aA.rH hcs).swap.drop
    ·rw[if_neg (by simpa using h8)] at k;have e5:¬((rs.length:Nat):Int)≥8:=by omega
     simp only[e5,decide_false,ah];have CM:=(hcs.alloc 138 r.cs);generalize hH2:H1.alloc (.cells 138 r.cs false)=H2 at CM⊢;have abQ:=CM.up 1;simp only[eO,eJ] at abQ;have Jj:=abQ.get
     have fin:∀{K:KP},(∀H',aA B H' (eK id ((rs.map Rp.p).take (bX (rs.map Rp.p) p.au)++p.put::(rs.map Rp.p).drop (bX (rs.map Rp.p) p.au))::L)→K (vi 0) H')→
      cl 137 [V.slice qc rs.length cc,vi ((bX (rs.map Rp.p) p.au:Nat):Int),V.slice (some (H1.next,0)) 1 1] H2 fun v H'=>
       af (V.ax cA.slice v) (af (ai.wr H' id 0 1) (K (vi 0) (ai.store H' id 0 [V.slice (V.aj v) (V.an v) (V.aC v)]))):=by
      intro K hk;have abR:=CM.up 2;simp only[eO,eJ] at abR
      have hne:∀id' off,qc=some (id',off)→H1.next≠id':=by
       intro id' off he;subst he;obtain⟨_,_,_,⟨h',_⟩|⟨id2,off2,l2,Tg,_,_,h6⟩⟩:=(hcs.up 1).LQ
       ·cases h'
       ·cases Tg;have:=hcs.ok _ _ h6.get;omega
      have EY:=Ms (i:=bX (rs.map Rp.p) p.au) (vid:=H1.next) (e2:=138) (c:=r.cs) (K:=fun v H'=>
       af (V.ax cA.slice v) (af (ai.wr H' id 0 1) (K (vi 0) (ai.store H' id 0 [V.slice (V.aj v) (V.an v) (V.aC v)])))) abR (fun H' h'=>h'.get) (vk rs) r.aM (by simp;omega) (by simpa using wN) hne
       (fun q' c' H' h'=> ?_)
      ·simpa using EY
      rw[length_map];simp only[bL,az,bA,aQ,cE];have h5:=h'.up 2;simp only[eO,eJ] at h5;have hw:ai.wr H' id 0 1=true:=by rw[fE h5.get];rfl
      rw[hw,az];have h6:=h5.store (off:=0) (vs:=[V.slice q' (rs.length+1) c']);have e6:bH [V.slice qc rs.length cc] 0 [V.slice q' (rs.length+1) c']=[V.slice q' (rs.length+1) c']:=rfl;rw[e6] at h6;have h7:=h6.up 2;simp only[eO,eJ] at h7;have X7:=h7.drop;have h9:=(X7.up 3);simp only[eO,eJ] at h9;have hlen:(rs.take (bX (rs.map Rp.p) p.au)++r::rs.drop (bX (rs.map Rp.p) p.au)).length=rs.length+1:=by simp;omega
      have AR:aA B (ai.store H' id 0 [V.slice q' (rs.length+1) c']) (cP id 91 [V.slice q' (rs.take (bX (rs.map Rp.p) p.au)++r::rs.drop (bX (rs.map Rp.p) p.au)).length c']::
       Rw 138 3 q' c' ((rs.take (bX (rs.map Rp.p) p.au)++r::rs.drop (bX (rs.map Rp.p) p.au)).map Rp.cs)::bB ((rs.take (bX (rs.map Rp.p) p.au)++r::rs.drop (bX (rs.map Rp.p) p.au)).map Rp.bV)::L):=by
       rw[hlen];have CR:=(h9.up 3);simp only[eO,eJ] at CR;have h12:aA B _ (bB (r.bV::rs.map Rp.bV)::cP id 91 [V.slice q' (rs.length+1) c']::Rw 138 3 q' c' ((rs.map Rp.cs).take (bX (rs.map Rp.p) p.au)++r.cs::(rs.map Rp.cs).drop (bX (rs.map Rp.p) p.au))::L):=CR.swap.mM
       have Q7:=h12.bigPerm (l':=(rs.take (bX (rs.map Rp.p) p.au)++r::rs.drop (bX (rs.map Rp.p) p.au)).map Rp.bV) (by
        rw[map_append,map_cons,map_take,map_drop]
        conv=>lhs;rw[←take_append_drop (bX (rs.map Rp.p) p.au) (rs.map Rp.bV)]
        exact perm_middle.symm)
       have Xr:=Q7.up 1;simp only[eO,eJ] at Xr;have h15:=Xr.lT ((List.Perm.swap ..).cons _);rw[map_append,map_cons,map_take,map_drop];exact h15
      have h16:=aA.rH AR;rw[map_append,map_cons,map_take,map_drop,hrp] at h16;exact hk _ h16
     have hI1:ai.inb H2 id 0 1=true:=by rw[dN Jj];rfl
     have hC1:ai.cell H2 id 0=V.slice qc rs.length cc:=by rw[ba Jj];rfl
     simp only[hI1,hC1,bL,bA,aQ,cE,Bool.and_self,az];exact⟨fin k,fin k⟩
   ·rw[hf,if_pos rfl] at k;obtain⟨g1,g2⟩:=(mb hs.up).1 hf;rw[length_map] at g1;have e5:0≤((bX (rs.map Rp.p) p.au:Nat):Int):=by omega
    have e6:((bX (rs.map Rp.p) p.au:Nat):Int)<(rs.length:Int):=by omega
    have hrw:=hcs.up 1;simp only[eO,eJ] at hrw;obtain⟨s1,s2,s3⟩:=ly hrd g1;obtain⟨w1,w2⟩:=hrw.J2 (vk rs).pD (i:=bX (rs.map Rp.p) p.au) (by simpa using g1) (c:=r.cs) rfl (gf r.aM);simp only[ao,e5,e6,decide_true,s1,Bool.and_self,az,Int.toNat_natCast,w1];generalize ai.store H1 _ _ _=H3 at w2⊢;refine k _ ?_;have h5:=w2.up 2;simp only[eO,eJ] at h5;have h6:=h5.qm (i:=bX (rs.map Rp.p) p.au) (by simpa using g1);have h7:=h6.drop.up 3;simp only[eO,eJ] at h7;have h8:=h7.TY (i:=bX (rs.map Rp.p) p.au) (by simpa using g1)
    have h9:aA B H3 (cP id 91 [V.slice qc (rs.set (bX (rs.map Rp.p) p.au) r).length cc]::Rw 138 3 qc cc ((rs.set (bX (rs.map Rp.p) p.au) r).map Rp.cs)::bB ((rs.set (bX (rs.map Rp.p) p.au) r).map Rp.bV)::L):=by
     rw[length_set,map_set,map_set];have AR:=h8.up 2;simp only[eO,eJ] at AR;exact AR.lT ((List.Perm.swap ..).cons _)
    have CR:=aA.rH h9;rw[map_set,hrp] at CR;exact CR
end
theorem rI {α β:Type} (f:α→β):∀(l:List α) (i:Nat),(l.eraseIdx i).map f=(l.map f).eraseIdx i
 |[],_=>rfl
 |x::l,0=>rfl
 |x::l,i+1=>by
  show f x::(l.eraseIdx i).map f=f x::(l.map f).eraseIdx i
  rw[rI f l i]
theorem PY {ps:List Pg} (h:ee ps) {p:Pg} (hh:fO ps p.au=true) (hd:p.data.length≤64):ee (ps.set (bX ps p.au) p):=by
 obtain⟨g1,g2⟩:=(mb h.up).1 hh;refine⟨?_, ?_, ?_⟩
 ·rw[pairwise_iff_getElem];intro i j hi hj hij;rw[length_set] at hi hj
  have key:∀k (hk:k<ps.length),((ps.set (bX ps p.au) p)[k]'(by rw[length_set];exact hk)).au=(ps[k]).au:=by
   intro k hk;rw[getElem_set];split
   ·rename_i he;subst he;exact g2.symm
   ·rfl
  rw[key i hi,key j hj];exact(pairwise_iff_getElem.1 h.up) i j hi hj hij
 ·intro x hx;rcases mem_or_eq_of_mem_set hx with hx|rfl
  ·exact h.lo x hx
  ·have:=h.lo _ (getElem_mem g1);rw[g2] at this;exact this
 ·intro x hx;rcases mem_or_eq_of_mem_set hx with hx|rfl
  ·exact h.dl x hx
  ·exact hd
theorem PZ {ps:List Pg} (h:ee ps) {p:Pg} (hh:fO ps p.au=false) (hr:0≤p.au∧p.au≤65535) (hd:p.data.length≤64):ee (ps.take (bX ps p.au)++p::ps.drop (bX ps p.au)):=by
 have hmem:∀x,x∈ps.take (bX ps p.au)++p::ps.drop (bX ps p.au)→x∈ps∨x=p:=by
  intro x hx;rcases mem_append.1 hx with hx|hx
  ·exact .inl (mem_of_mem_take hx)
  ·rcases mem_cons.1 hx with rfl|hx
   ·exact .inr rfl
   ·exact .inl (mem_of_mem_drop hx)
 refine⟨?_, ?_, ?_⟩
 ·have h1:(ps.take (bX ps p.au)++ps.drop (bX ps p.au)).Pairwise fun x y=>x.au<y.au:=by rw[take_append_drop];exact h.up
  rw[pairwise_append] at h1;rw[pairwise_append,pairwise_cons]
  have lo:∀x∈ps.take (bX ps p.au),x.au<p.au:=by
   intro x hx;obtain⟨i,hi,rfl⟩:=getElem_of_mem hx;rw[length_take] at hi;rw[getElem_take];exact yd (by omega) (by omega)
  have hi:∀x∈ps.drop (bX ps p.au),p.au<x.au:=by
   intro x hx;obtain⟨i,hi,rfl⟩:=getElem_of_mem hx;rw[length_drop] at hi;rw[getElem_drop];have h2:=ye (a:=p.au) h.up (i:=bX ps p.au+i) (by omega) (by omega)
   have h3:(ps[bX ps p.au+i]).au≠p.au:=by
    intro he
    have:fO ps p.au=true:=by
     unfold fO;rw[List.any_eq_true];exact⟨_,getElem_mem _,by simpa using he⟩
    rw[hh] at this;cases this
   omega
  refine⟨h1.1,⟨hi,h1.2.1⟩, ?_⟩;intro x hx y hy;rcases mem_cons.1 hy with rfl|hy
  ·exact lo x hx
  ·exact h1.2.2 x hx y hy
 ·intro x hx;rcases hmem x hx with hx|rfl
  ·exact h.lo x hx
  ·exact hr
 ·intro x hx;rcases hmem x hx with hx|rfl
  ·exact h.dl x hx
  ·exact hd
theorem GG {ps:List Pg} (h:ee ps) (p:Pg):ee (hH ps p).1:=by
 unfold hH;split
 ·exact h
 ·split
  ·exact h
  ·have hd:p.put.data.length≤64:=by
    unfold Pg.put;simp only[];split
    ·simp
    ·omega
   have ha:p.put.au=p.au:=rfl;split
   ·rename_i hh;exact PY (p:=p.put) h hh hd
   ·split
    ·exact h
    ·rename_i hh _;exact PZ (p:=p.put) h (by rw[ha];simpa using hh) (by rw[ha];omega) hd
theorem KS {ps:List Pg} (hl:ps.length≤8) (p:Pg):(hH ps p).1.length≤8:=by
 unfold hH;split
 ·exact hl
 ·split
  ·exact hl
  ·split
   ·simpa using hl
   ·split
    ·exact hl
    ·have:=yc ps p.au;simp;omega
theorem wA {ps:List Pg} (h:ee ps) (a:Int):ee (fG ps a):=by
 unfold fG;split
 ·refine⟨h.up.sublist (eraseIdx_sublist _ _),fun x hx=>h.lo x (mem_of_mem_eraseIdx hx),fun x hx=>h.dl x (mem_of_mem_eraseIdx hx)⟩
 ·exact h
theorem P1 {ps:List Pg} (hl:ps.length≤8) (a:Int):(fG ps a).length≤8:=by
 unfold fG;split
 ·rw[length_eraseIdx];split<;>omega
 ·exact hl
section
variable {B:ai} {L:List cw} {H:ai} {K:KP} {cap:Nat} {q:Oq} {id:Nat} {ps:List Pg} {a:Int}
theorem Ag {rs:List Rp} (h:aA B H (bB (rs.map Rp.bV)::L)) {i:Nat} (hi:i<rs.length):mu H rs[i].q rs[i].p.data:=by
 have h1:=h.qm (i:=i) (by simpa using hi);rw[getElem_map] at h1;exact h1.iJ
theorem WK (h:aA B H (eK id ps::L)) (hs:ee ps) (hl:ps.length≤8) (ha: -9223372036854775808≤a∧a≤9223372036854775807) (kn:fO ps a=false→∀H',aA B H' (eK id ps::L)→K (.tuple [.agg (gh 0 none 0 0 false),.bool false]) H') (ky:∀(hp:bX ps a<ps.length) q' c' H',fO ps a=true→(ps[bX ps a]).au=a→aA B H' (BY q' c' (ps[bX ps a]).data::eK id ps::L)→K (.tuple [.agg (gh a q' (ps[bX ps a]).data.length c' (ps[bX ps a]).cB),.bool true]) H'):cl 79 [.ay (some (id,0)),vi a] H K:=by
 rw[adf];(try simp only[NQ]);rw[isNone_some,ah];obtain⟨rs,qc,cc,rfl,hcs⟩:=aA.nZ h;rw[length_map] at hl;have hg:=hcs.get;have hrd:=(hcs.up 1).kM;refine PW hg hrd (by omega) (fun i hi=> ?_);obtain⟨f1,f2,f3⟩:=tF rfl hs ha hi;rw[f1];cases hf:fO (rs.map Rp.p) a
 ·simp only[AM,isSome_some];exact kn hf H h
 ·have f3:=f3 hf;subst f3;obtain⟨g1,g2⟩:=(mb hs.up).1 hf;have g3:=g1;rw[length_map] at g3;have e4:Nat.ble (0+1) [V.slice qc rs.length cc].length=true:=rfl;have e5:0≤((bX (rs.map Rp.p) a:Nat):Int):=by omega
  have e6:((bX (rs.map Rp.p) a:Nat):Int)<(rs.length:Int):=by omega
  obtain⟨s1,s2,s3⟩:=ly hrd g3;have n0:ae (rs[bX (rs.map Rp.p) a]).cs 0=vi (rs[bX (rs.map Rp.p) a]).p.au:=rfl;have n1:ae (rs[bX (rs.map Rp.p) a]).cs 1=.slice (rs[bX (rs.map Rp.p) a]).q (rs[bX (rs.map Rp.p) a]).p.data.length (rs[bX (rs.map Rp.p) a]).c:=rfl;have n2:ae (rs[bX (rs.map Rp.p) a]).cs 2=.bool (rs[bX (rs.map Rp.p) a]).p.cB:=rfl;simp only[AM,isSome_some,dN hg,ba hg,e5,e6,Int.toNat_natCast,s1,s2,s3,Rp.aM,n0,n1,n2];have aea:=Ag (hcs.up 2) g3;have Tk:=hs.dl _ (getElem_mem g1);simp only[getElem_map] at g2 Tk ky;refine kj h aea (by omega) (fun q' c' H' h'=> ?_);simp only[bL,az,bA,aQ,cE,g2];exact ky g1 q' c' H' hf g2 h'
theorem KU (h:aA B H (eK id ps::L)) (hs:ee ps) (hl:ps.length≤8) (ha: -9223372036854775808≤a∧a≤9223372036854775807) (k:∀H',aA B H' (eK id (fG ps a)::L)→K (.tuple []) H'):cl 92 [.ay (some (id,0)),vi a] H K:=by
 rw[adh];(try simp only[NQ]);rw[isNone_some,ah];obtain⟨rs,qc,cc,rfl,hcs⟩:=aA.nZ h;rw[length_map] at hl;have hg:=hcs.get;have hrd:=(hcs.up 1).kM;unfold fG at k;refine PW hg hrd (by omega) (fun i hi=> ?_);obtain⟨f1,f2,f3⟩:=tF rfl hs ha hi;rw[f1];cases hf:fO (rs.map Rp.p) a
 ·rw[hf,if_neg (by simp)] at k;simp only[AM,isSome_some];exact k H h
 ·rw[hf,if_pos rfl] at k;have f3:=f3 hf;subst f3;obtain⟨g1,g2⟩:=(mb hs.up).1 hf;have g3:=g1;rw[length_map] at g3;have e4:Nat.ble (0+1) [V.slice qc rs.length cc].length=true:=rfl;simp only[AM,isSome_some,dN hg,ba hg];rw[bf (by omega) (by omega)];have hrw:=hcs.up 1;simp only[eO,eJ] at hrw;have ET:=Mt (i:=bX (rs.map Rp.p) a) (K:=fun v H'=>af (V.ax cA.slice v) (af (ai.wr H' id 0 1) (K (.tuple []) (ai.store H' id 0 [V.slice (V.aj v) (V.an v) (V.aC v)])))) hrw (vk rs) (by simp;omega) (by simpa using g3) (fun H' h'=> ?_)
  ·have e9:(((bX (rs.map Rp.p) a:Nat):Int)+1)=((bX (rs.map Rp.p) a+1:Nat):Int):=by omega
   rw[e9];simpa using ET
  ·rw[length_map];simp only[bL,az,bA,aQ,cE];have h5:=h'.up 1;simp only[eO,eJ] at h5;have hw:ai.wr H' id 0 1=true:=by rw[fE h5.get];rfl
   rw[hw,az];have h6:=h5.store (off:=0) (vs:=[V.slice qc (rs.length-1) cc]);have e6:bH [V.slice qc rs.length cc] 0 [V.slice qc (rs.length-1) cc]=[V.slice qc (rs.length-1) cc]:=rfl;rw[e6] at h6;generalize ai.store H' _ _ _=H3 at h6⊢;have h7:=h6.up 2;simp only[eO,eJ] at h7;have h8:=(h7.qm (i:=bX (rs.map Rp.p) a) (by simpa using g3)).drop
   have h9:aA B H3 (cP id 91 [V.slice qc (rs.eraseIdx (bX (rs.map Rp.p) a)).length cc]::Rw 138 3 qc cc ((rs.eraseIdx (bX (rs.map Rp.p) a)).map Rp.cs)::bB ((rs.eraseIdx (bX (rs.map Rp.p) a)).map Rp.bV)::L):=by
    rw[length_eraseIdx,if_pos g3,rI,rI];exact(h8.up 1).lT ((List.Perm.swap ..).cons _)
   have AR:=aA.rH h9;rw[rI] at AR;exact k _ AR
theorem P3 {rs:List Rp} (hb:rs.length≤8) (Tk:∀r∈rs,r.p.data.length≤64) {qc:Oq} {cc:Nat} {Kr:PS} {Ke:NS}:∀(n i:Nat) (os:List Rp) {q:Oq} {cap:Nat} {H:ai},i+n=rs.length→os.map Rp.p=(rs.map Rp.p).take i→aA B H (Rw 138 3 q cap (os.map Rp.cs)::bB (os.map Rp.bV)::Rw 138 3 qc cc (rs.map Rp.cs)::bB (rs.map Rp.bV)::L)→(∀(os':List Rp) q' c' H',os'.map Rp.p=rs.map Rp.p→aA B H' (Rw 138 3 q' c' (os'.map Rp.cs)::bB (os'.map Rp.bV)::Rw 138 3 qc cc (rs.map Rp.cs)::bB (rs.map Rp.bV)::L)→Ke 0 (St.mk (ab [(3,ts q' rs.length c')]) (ab []) H'))→lo 90 5 (St.mk (ab [(3,ts q os.length cap),(11,ts qc rs.length cc),(12,ti (rs.length:Int)),(13,ti (i:Int))]) (ab []) H) Kr Ke
 |0,i,os,q,cap,H,hi,ho,h,k=>by
  obtain rfl:i=rs.length:=by omega
  have Q9:os.length=rs.length:=by have:=congrArg List.length ho;simpa using this
  rw[Ow];(try simp only[NQ]);have e1:¬(rs.length:Int)<(rs.length:Int):=by omega
  rw[decide_eq_false e1,ah,Q9];exact k os _ _ _ (by rw[ho,take_of_length_le (by simp)]) h
 |n+1,i,os,q,cap,H,hi,ho,h,k=>by
  have hlt:i<rs.length:=by omega
  have Q9:os.length=i:=by have:=congrArg List.length ho;simp at this;omega
  have hrd:=(h.up 2).kM;obtain⟨s1,s2,s3⟩:=ly hrd hlt;have e5:0≤(i:Int):=by omega
  have e6:(i:Int)<(rs.length:Int):=by omega
  have n0:ae (rs[i]).cs 0=vi (rs[i]).p.au:=rfl;have n1:ae (rs[i]).cs 1=.slice (rs[i]).q (rs[i]).p.data.length (rs[i]).c:=rfl;have n2:ae (rs[i]).cs 2=.bool (rs[i]).p.cB:=rfl;rw[Ow];(try simp only[NQ]);simp only[e5,e6,decide_true,ao,Int.toNat_natCast,s1,s2,s3,Rp.aM,n0,n1,n2,bh,ct,bA,aQ,cE,Bool.and_self,az];refine kj h (Ag (h.up 3) hlt) (by have:=Tk _ (getElem_mem hlt);omega) (fun q' c' H' h'=> ?_);simp only[bL,az,bA,aQ,cE];have h1:=h'.up 1;simp only[eO,eJ] at h1
  have QU:=h1.vY (t:=89) (u:=89) yb Eu Ew rfl (by omega) (vk os).pD (e2:=138) (c:=gh (rs[i]).p.au q' (rs[i]).p.data.length c' (rs[i]).p.cB) rfl
   (gf (f137 _ _ _ _ _)) (by simp;omega) (K:=fun q n c H'=>
   lo 90 5
   (St.mk (ab [(3,ts q n c),(11,ts qc rs.length cc),(12,ti (rs.length:Int)),(13,ti (IntKind.i64.wrap ((i:Int)+1)))]) (ab []) H') Kr Ke) (fun q2 c2 H2 h2=> ?_)
  ·simpa using QU
  ·rw[aL (by omega),length_map];have h3:=h2.up 1;simp only[eO,eJ] at h3;have h4:=h3.up 2;simp only[eO,eJ] at h4
   have h5:aA B H2 (Rw 138 3 q2 c2 ((os++[(⟨(rs[i]).p,q',c'⟩:Rp)]).map Rp.cs)::bB ((os++[(⟨(rs[i]).p,q',c'⟩:Rp)]).map Rp.bV)::Rw 138 3 qc cc (rs.map Rp.cs)::bB (rs.map Rp.bV)::L):=by
    have h6:aA B H2 (bB ((⟨(rs[i]).p,q',c'⟩:Rp).bV::os.map Rp.bV)::Rw 138 3 q2 c2 (os.map Rp.cs++[(⟨(rs[i]).p,q',c'⟩:Rp).cs])::Rw 138 3 qc cc (rs.map Rp.cs)::bB (rs.map Rp.bV)::L):=h4.swap.mM
    have h7:=h6.bigPerm (l':=(os++[(⟨(rs[i]).p,q',c'⟩:Rp)]).map Rp.bV) (by
     rw[map_append]
     exact(perm_append_comm (l₁:=[_])))
    rw[map_append (f:=Rp.cs)];exact h7.swap
   have h8:=P3 (Kr:=Kr) hb Tk n (i+1) (os++[(⟨(rs[i]).p,q',c'⟩:Rp)]) (by omega) (by
    rw[map_append,ho,take_succ_eq_append_getElem (by simpa using hlt)]
    simp) h5 k
   simpa using h8
theorem WL (h:aA B H (eK id ps::L)) (hs:ee ps) (hl:ps.length≤8) (k:∀q' c' H',aA B H' (tE q' c' ps::eK id ps::L)→K (.slice q' ps.length c') H'):cl 90 [.ay (some (id,0))] H K:=by
 rw[adg];(try simp only[NQ]);rw[isNone_some];obtain⟨rs,qc,cc,rfl,hcs⟩:=aA.nZ h;rw[length_map] at hl;have hg:=hcs.get;have e4:Nat.ble (0+1) [V.slice qc rs.length cc].length=true:=rfl;simp only[Bool.not_false,ao,isSome_some,getD_some,dN hg,ba hg,e4,eW,bL,bA,aQ,cE,Bool.and_self,az];have h1:=hcs.up 2;simp only[eO,eJ] at h1;have h2:=h1.up 2;simp only[eO,eJ] at h2;have h3:aA B H (Rw 138 3 none 0 (([]:List Rp).map Rp.cs)::bB (([]:List Rp).map Rp.bV)::Rw 138 3 qc cc (rs.map Rp.cs)::bB (rs.map Rp.bV)::cP id 91 [V.slice qc rs.length cc]::L):=h2.qk.rwNil _ _;refine P3 (Kr:=fun _=>False) (by omega) (fun r hr=>hs.dl _ (mem_map.2 ⟨r,hr,rfl⟩)) rs.length 0 [] (by omega) rfl h3 (fun os q' c' H' ho h'=> ?_);have h4:=aA.KR h';rw[ho] at h4;have h5:=h4.up 3;simp only[eO,eJ] at h5;have h6:aA B H' (cP id 91 [V.slice qc rs.length cc]::Rw 138 3 qc cc (rs.map Rp.cs)::bB (rs.map Rp.bV)::tE q' c' (rs.map Rp.p)::L):=h5.lT (((List.Perm.swap ..).trans ((List.Perm.swap ..).cons _)).cons _);have h7:=(aA.rH h6).swap;have:=k q' c' H' h7;simpa [AK,reduceIte,Nat.reduceEqDiff] using this
end
structure R where
 k:Nat→Int
 ty:Int
 ho:Int
 ge:Int
 la:Bool
def R.cs (r:R):List V:=bJ (r.k 0) (r.k 1) (r.k 2) (r.k 3) (r.k 4) (r.k 5) (r.k 6) (r.k 7) r.ty r.ho r.ge r.la
theorem R.rV (r:R):bJ (r.k 0) (r.k 1) (r.k 2) (r.k 3) (r.k 4) (r.k 5) (r.k 6) (r.k 7) r.ty r.ho r.ge r.la=r.cs:=rfl
theorem R.Ah (k:Nat→Int) (ty ho ge:Int) (la:Bool):bJ (k 0) (k 1) (k 2) (k 3) (k 4) (k 5) (k 6) (k 7) ty ho ge la=R.cs ⟨k,ty,ho,ge,la⟩:=rfl
@[simp] theorem R.dv (r:R):aM jk r.cs=true:=rfl
@[simp] theorem R.dX (r:R):jm r.cs=r.cs:=rfl
theorem R.P4 {r s:R} (hk:∀i,i<8→r.k i=s.k i) (h1:r.ty=s.ty) (h2:r.ho=s.ho) (h3:r.ge=s.ge) (h4:r.la=s.la):r.cs=s.cs:=by
 unfold R.cs;rw[hk 0 (by omega),hk 1 (by omega),hk 2 (by omega),hk 3 (by omega),hk 4 (by omega),hk 5 (by omega),hk 6 (by omega),hk 7 (by omega),h1,h2,h3,h4]
theorem R.Ez (r s:R):dm r.cs s.cs=true↔(∀i,i<8→r.k i=s.k i)∧r.ty=s.ty∧r.ho=s.ho∧r.ge=s.ge∧r.la=s.la:=by
 have e:dm r.cs s.cs=(decide (r.k 0=s.k 0)&&(decide (r.k 1=s.k 1)&&(decide (r.k 2=s.k 2)&&(decide (r.k 3=s.k 3)&&(decide (r.k 4=s.k 4)&&(decide (r.k 5=s.k 5)&&(decide (r.k 6=s.k 6)&&
  (decide (r.k 7=s.k 7)&&(decide (r.ty=s.ty)&&(decide (r.ho=s.ho)&&(decide (r.ge=s.ge)&&(decide (r.la=s.la)||false)))))))))))):=by kernel_rfl
 rw[e];simp only[Bool.and_eq_true,decide_eq_true_eq,Bool.or_false];constructor
 ·rintro⟨a0,a1,a2,a3,a4,a5,a6,a7,b1,b2,b3,b4⟩;refine⟨fun i hi=> ?_,b1,b2,b3,b4⟩;have h:i=0∨i=1∨i=2∨i=3∨i=4∨i=5∨i=6∨i=7:=by omega
  rcases h with rfl|rfl|rfl|rfl|rfl|rfl|rfl|rfl<;>assumption
 ·rintro⟨hk,b1,b2,b3,b4⟩;exact⟨hk 0 (by omega),hk 1 (by omega),hk 2 (by omega),hk 3 (by omega),hk 4 (by omega),hk 5 (by omega),hk 6 (by omega),hk 7 (by omega),b1,b2,b3,b4⟩
theorem R.eq_self (r:R):dm r.cs r.cs=true:=(R.Ez r r).2 ⟨fun _ _=>rfl,rfl,rfl,rfl,rfl⟩
theorem R.rJ (r s:R):dm r.cs s.cs=true↔r.cs=s.cs:=by
 constructor
 ·intro h;obtain⟨a,b,c,d,e⟩:=(R.Ez r s).1 h;exact R.P4 a b c d e
 ·intro h;rw[h];exact R.eq_self s
def cF (k:Nat→Int) (i:Nat) (x:Int):Nat→Int:=fun j=>if j=i then x else k j
theorem P5 {k:Nat→Int} {i:Nat} {x:Int}:cF k i x i=x:=by simp [cF]
theorem IZ {k:Nat→Int} {i j:Nat} {x:Int} (h:j≠i):cF k i x j=k j:=by simp [cF,h]
theorem oT (r:R) {i:Nat} (hi:i<8) (x ty ho ge:Int) (la:Bool):bJ (bif Nat.beq 0 i then x else r.k 0) (bif Nat.beq 1 i then x else r.k 1) (bif Nat.beq 2 i then x else r.k 2) (bif Nat.beq 3 i then x else r.k 3) (bif Nat.beq 4 i then x else r.k 4) (bif Nat.beq 5 i then x else r.k 5) (bif Nat.beq 6 i then x else r.k 6) (bif Nat.beq 7 i then x else r.k 7) (V.aa (bU (Nat.beq 8 i) (V.int .u32 x) (V.int .u8 ty))) (V.aa (bU (Nat.beq 9 i) (V.int .u32 x) (vi ho))) (bif Nat.beq 10 i then x else ge) (V.aq (bU (Nat.beq 11 i) (V.int .u32 x) (V.bool la)))=R.cs ⟨cF r.k i x,ty,ho,ge,la⟩:=by
 have h:i=0∨i=1∨i=2∨i=3∨i=4∨i=5∨i=6∨i=7:=by omega
 rcases h with rfl|rfl|rfl|rfl|rfl|rfl|rfl|rfl<;>rfl
theorem iD (x ty ho:Int) (la:Bool) {i:Nat} (hi:i<8):(Nat.ble (i+1) 12&&(V.ax (.int .u8) (bU (Nat.beq 8 i) (V.int .u32 x) (V.int .u8 ty))&&(V.ax (.int .i64) (bU (Nat.beq 9 i) (V.int .u32 x) (vi ho))&&(V.ax .bool (bU (Nat.beq 11 i) (V.int .u32 x) (V.bool la))&&true))))=true:=by
 have h:i=0∨i=1∨i=2∨i=3∨i=4∨i=5∨i=6∨i=7:=by omega
 rcases h with rfl|rfl|rfl|rfl|rfl|rfl|rfl|rfl<;>rfl
theorem oU (r:R) {i:Nat} (hi:i<8):ae (bJ (r.k 0) (r.k 1) (r.k 2) (r.k 3) (r.k 4) (r.k 5) (r.k 6) (r.k 7) r.ty r.ho r.ge r.la) i=.int .u32 (r.k i):=by
 have h:i=0∨i=1∨i=2∨i=3∨i=4∨i=5∨i=6∨i=7:=by omega
 rcases h with rfl|rfl|rfl|rfl|rfl|rfl|rfl|rfl<;>rfl
theorem qF (r:R) {i:Nat} (hi:i<8):ae r.cs i=.int .u32 (r.k i):=oU r hi
def nf (t:Int):Bool:=decide (t=7)||decide (t=8)
def I0 (h:Int):Bool:=decide (0≤h)&&decide (h<8)
def key (r:R) (h:Int):Int:=r.k h.toNat
def holds (r:R) (h:Int):Bool:=I0 h&& !decide (r.ty=0)&&(decide (r.ho=h)||nf r.ty&& !decide (key r h=0))
def mO (r:R) (h:Int) (w:Bool):Bool:=
 I0 h&&(decide (r.ty=0)||holds r h||
  (if r.ty=1 then !w else if r.ty=3 then false else if r.ty=5∨r.ty=7 then !w|| !decide (key r h=0) else !decide (key r h=0)))
def right (t:Int):Bool:=decide (t=1)||decide (t=3)||decide (t=5)||decide (t=6)||decide (t=7)||decide (t=8)
def sr (r:R):R:=⟨r.k,0, -1,r.ge,r.la⟩
def pj (r:R) (h t:Int):R:=⟨r.k,t,if nf t then-1 else h,r.ge,r.la⟩
def tG (k:Nat→Int):Bool:=
 decide (k 0=0)&&(decide (k 1=0)&&(decide (k 2=0)&&(decide (k 3=0)&&(decide (k 4=0)&&(decide (k 5=0)&&(decide (k 6=0)&&(decide (k 7=0)||false)))))))
def jg (r:R) (h:Int):R:=
 let s:R:=⟨cF r.k h.toNat 0,r.ty,r.ho,r.ge,r.la⟩
 if r.ho=h∨tG s.k=true then sr s else s
def jM (r:R) (h new:Int) (la:Bool):R:=
 let s:R:=⟨r.k,r.ty,r.ho,IntKind.u32.wrap (r.ge+1),la⟩
 if new=0 then jg s h else ⟨cF s.k h.toNat new,s.ty,s.ho,s.ge,s.la⟩
section
variable (H:ai) (K:KP)
theorem I1 (t:Int):cl 139 [.int .u8 t] H K=K (.bool (nf t)) H:=by
 rw[aaK];(try simp only[NQ]);unfold nf;by_cases h:t=7<;>simp [h]<;>exact Iff.rfl
theorem KV:cl 38 [] H K=K (.agg (R.cs ⟨fun _=>0,0, -1,0,false⟩)) H:=by
 rw[ac9];(try simp only[NQ]);rfl
theorem P6:cl 134 [] H K=K (.agg (nI 1 3 5 6 7 8)) H:=by
 rw[aaI];(try simp only[NQ])
theorem EA (r:R):cl 116 [.agg r.cs] H K=K (.agg (sr r).cs) H:=by
 unfold R.cs;rw[aaG];(try simp only[NQ]);rfl
theorem KW (r:R) (h t:Int):cl 115 [.agg r.cs,vi h,.int .u8 t] H K=K (.agg (pj r h t).cs) H:=by
 unfold R.cs;rw[aaF];(try simp only[NQ]);simp only[I1,fK,az,ct];unfold pj;cases nf t<;>rfl
theorem n5 (t:Int) (i:Nat) (hi:i<6) (Kr:PS) (Ke:NS):lo 109 2 (St.mk (ab [(0,T.v (V.int .u8 t)),(5,T.v (V.agg (nI 1 3 5 6 7 8))),(6,ti i)]) (ab []) H) Kr Ke=if V.aa (ae (nI 1 3 5 6 7 8) i)=t then Kr (St.mk (ab [(2,tb true)]) (ab []) H) else lo 109 2 (St.mk (ab [(0,T.v (V.int .u8 t)),(5,T.v (V.agg (nI 1 3 5 6 7 8))),(6,ti (i+1:Nat))]) (ab []) H) Kr Ke:=by
 have h:i=0∨i=1∨i=2∨i=3∨i=4∨i=5:=by omega
 have e1:decide ((i:Int)<6)=true:=by simp;omega
 have e2:decide (0≤(i:Int))=true:=by simp
 have e3:Nat.ble (Nat.succ ((i:Int).toNat*1)) 6=true:=by simp;omega
 have e4:V.ax (.int .u8) (ae (nI 1 3 5 6 7 8) i)=true:=by rcases h with rfl|rfl|rfl|rfl|rfl|rfl<;>rfl
 have e5:(i:Int).toNat*1=i:=by simp
 rw[JT];(try simp only[NQ]);rw[aL (by omega)];have e6:i≤5:=by omega
 simp [e1,e4,e6,zo]<;>exact Iff.rfl
theorem EB (t:Int) (Kr:PS) (Ke:NS):lo 109 2 (St.mk (ab [(0,T.v (V.int .u8 t)),(5,T.v (V.agg (nI 1 3 5 6 7 8))),(6,ti (6:Nat))]) (ab []) H) Kr Ke=Ke 0 (St.mk (ab []) (ab []) H):=by
 rw[JT];(try simp only[NQ]);rfl
theorem GH (t:Int):cl 109 [.int .u8 t] H K=K (.bool (right t)) H:=by
 rw[aaB];(try simp only[NQ]);rw[P6];change lo _ _ (St.mk (ab [(0,T.v (V.int .u8 t)),(5,T.v (V.agg (nI 1 3 5 6 7 8))),(6,ti (0:Nat))]) (ab []) H) _ _=_
 rw[n5 H t 0 (by omega),n5 H t 1 (by omega),n5 H t 2 (by omega),n5 H t 3 (by omega),n5 H t 4 (by omega),n5 H t 5 (by omega),EB];unfold right
 change (if (1:Int)=t then K (V.bool true) H else if (3:Int)=t then K (V.bool true) H else if (5:Int)=t then K (V.bool true) H else if (6:Int)=t then K (V.bool true) H else
  if (7:Int)=t then K (V.bool true) H else if (8:Int)=t then K (V.bool true) H else K (V.bool false) H)=_
 repeat' split
 all_goals first|(subst_vars;rfl)|skip
 have h1:¬t=1:=by omega
 have h2:¬t=3:=by omega
 have h3:¬t=5:=by omega
 have h4:¬t=6:=by omega
 have h5:¬t=7:=by omega
 have h6:¬t=8:=by omega
 simp [h1,h2,h3,h4,h5,h6]<;>exact Iff.rfl
theorem KX {h:Int} (h0:0≤h) (h8:h<8):I0 h=true:=by simp [I0,h0,h8]
theorem Rl {h:Int}:0+h.toNat*1=h.toNat:=by omega
theorem GI (r:R) (h:Int):cl 114 [.agg r.cs,vi h] H K=K (.bool (holds r h)) H:=by
 unfold R.cs;rw[aaE];(try simp only[NQ]);simp only[I1,Rl];by_cases hr:0≤h∧h<8
 ·obtain⟨h0,h8⟩:=hr;have e1:¬h<0:=by omega
  have e2:¬h≥8:=by omega
  have e3:h≤11:=by omega
  have e4:h.toNat<8:=by omega
  rw[oU r e4];unfold holds key;rw[KX h0 h8];by_cases ht:r.ty=0
  ·simp [e1,e2,ht]<;>exact Iff.rfl
  ·by_cases hh:r.ho=h
   ·simp [e1,e2,h0,h8,ht,hh]<;>exact Iff.rfl
   ·cases ha:nf r.ty<;>simp [e1,e2,h0,h8,ht,hh,e3]<;>exact Iff.rfl
 ·have e:(bif !decide (h<0) then bif !decide (h≥8) then decide (r.ty=0) else true else true)=true:=by
   by_cases h0:h<0
   ·simp [h0]<;>exact Iff.rfl
   ·have:h≥8:=by omega
    simp [this]<;>exact Iff.rfl
  rw[e,ao]
  have:I0 h=false:=by
   unfold I0;by_cases h0:0≤h
   ·have:¬h<8:=fun h8=>hr ⟨h0,h8⟩
    simp [this]<;>exact Iff.rfl
   ·simp [h0]<;>exact Iff.rfl
  simp [holds,this]<;>exact Iff.rfl
theorem I2 {h:Int} (hr:¬(0≤h∧h<8)):I0 h=false:=by
 unfold I0;by_cases h0:0≤h
 ·have:¬h<8:=fun h8=>hr ⟨h0,h8⟩
  simp [this]
 ·simp [h0]
theorem I3 (r:R) (h:Int) (w:Bool):cl 110 [.agg r.cs,vi h,.bool w] H K=K (.bool (mO r h w)) H:=by
 unfold R.cs;rw[aaC];(try simp only[NQ]);simp only[R.rV,GI,Rl];unfold mO key;by_cases hr:0≤h∧h<8
 ·rw[KX hr.1 hr.2];obtain⟨h0,h8⟩:=hr;have e1:¬h<0:=by omega
  have e2:¬h≥8:=by omega
  have e3:h≤11:=by omega
  have e4:h.toNat<8:=by omega
  rw[qF r e4];by_cases ht:r.ty=0
  ·simp [e1,e2,ht]<;>exact Iff.rfl
  ·cases hh:holds r h
   ·by_cases t1:r.ty=1
    ·simp [e1,e2,t1]<;>exact Iff.rfl
    ·by_cases t3:r.ty=3
     ·simp [e1,e2,t3]<;>exact Iff.rfl
     ·by_cases t5:r.ty=5
      ·cases w<;>simp [e1,e2,e3,h0,h8,t5,aN]<;>exact Iff.rfl
      ·by_cases t7:r.ty=7
       ·cases w<;>simp [e1,e2,e3,h0,h8,t7,aN]<;>exact Iff.rfl
       ·simp [e1,e2,e3,h0,h8,ht,t1,t3,t5,t7]<;>exact Iff.rfl
   ·simp [e1,e2,ht]<;>exact Iff.rfl
 ·rw[I2 hr];by_cases h0:h<0
  ·simp [h0]<;>exact Iff.rfl
  ·have:h≥8:=by omega
   simp [this]<;>exact Iff.rfl
theorem Mx (t:Int):cl 85 [.int .u8 t] H K=K (.bool (right t)) H:=by
 rw[adl];(try simp only[NQ]);congr 2;unfold right;rw[Bool.eq_iff_iff];by_cases h1:t=1
 ·simp [h1]<;>exact Iff.rfl
 ·by_cases h3:t=3
  ·simp [h3]<;>exact Iff.rfl
  ·by_cases h5:5≤t
   ·simp [h1,h3,h5];omega
   ·simp [h1,h3,h5];omega
def wB (r:R) (h:Int):Bool:=
 I0 h&& !decide (r.ty=0)&&(if nf r.ty then !decide (key r h=0) else decide (r.ho=h))
theorem Ci (r:R) (h:Int):cl 89 [.agg r.cs,vi h] H K=K (.bool (wB r h)) H:=by
 unfold R.cs;rw[adp];(try simp only[NQ]);simp only[R.rV,Rl];unfold wB key;by_cases hr:0≤h∧h<8
 ·rw[KX hr.1 hr.2];obtain⟨h0,h8⟩:=hr;have e1:¬h<0:=by omega
  have e2:¬h>7:=by omega
  have e3:h≤11:=by omega
  have e4:h.toNat<8:=by omega
  rw[qF r e4];unfold nf;by_cases ht:r.ty=0
  ·simp [e1,e2,ht]<;>exact Iff.rfl
  ·by_cases t7:r.ty=7
   ·simp [e1,e2,e3,h0,h8,t7]<;>exact Iff.rfl
   ·by_cases t8:r.ty=8
    ·simp [e1,e2,e3,h0,h8,t8]<;>exact Iff.rfl
    ·simp [e1,e2,ht,t7,t8]<;>exact Iff.rfl
 ·rw[I2 hr];by_cases h0:h<0
  ·simp [h0]<;>exact Iff.rfl
  ·have:h>7:=by omega
   simp [this]<;>exact Iff.rfl
def vl (r:R) (h:Int) (w:Bool):Bool:=
 I0 h&&(decide (r.ty=0)||wB r h||
  (if r.ty=1 then !w else if r.ty=5∨r.ty=7 then !w|| !decide (key r h=0) else if r.ty=6∨r.ty=8 then !decide (key r h=0) else false))
theorem GJ (r:R) (h:Int) (w:Bool):cl 84 [.agg r.cs,vi h,.bool w] H K=K (.bool (vl r h w)) H:=by
 unfold R.cs;rw[adk];(try simp only[NQ]);simp only[R.rV,Ci,Rl];unfold vl key;by_cases hr:0≤h∧h<8
 ·rw[KX hr.1 hr.2];obtain⟨h0,h8⟩:=hr;have e1:¬h<0:=by omega
  have e2:¬h>7:=by omega
  have e3:h≤11:=by omega
  have e4:h.toNat<8:=by omega
  rw[qF r e4];by_cases ht:r.ty=0
  ·simp [e1,e2,ht]<;>exact Iff.rfl
  ·cases hh:wB r h
   ·by_cases t1:r.ty=1
    ·simp [e1,e2,e3,h0,h8,t1]<;>exact Iff.rfl
    ·by_cases t5:r.ty=5
     ·cases w<;>simp [e1,e2,e3,h0,h8,t5]<;>exact Iff.rfl
     ·by_cases t7:r.ty=7
      ·cases w<;>simp [e1,e2,e3,h0,h8,t7]<;>exact Iff.rfl
      ·by_cases t6:r.ty=6
       ·simp [e1,e2,e3,h0,h8,t6]<;>exact Iff.rfl
       ·by_cases t8:r.ty=8
        ·simp [e1,e2,e3,h0,h8,t8]<;>exact Iff.rfl
        ·simp [e1,e2,e3,h0,h8,ht,t1,t5,t6,t7,t8]<;>exact Iff.rfl
   ·simp [e1,e2,ht]<;>exact Iff.rfl
 ·rw[I2 hr];by_cases h0:h<0
  ·simp [h0]<;>exact Iff.rfl
  ·have:h>7:=by omega
   simp [this]<;>exact Iff.rfl
theorem P7 (r:R):cl 87 [.agg r.cs] H K=K (.agg (sr r).cs) H:=by
 unfold R.cs;rw[adn];(try simp only[NQ]);rfl
theorem P8 (r:R) (h t:Int):cl 88 [.agg r.cs,vi h,.int .u8 t] H K=K (.agg (pj r h t).cs) H:=by
 unfold R.cs;rw[ado];(try simp only[NQ]);unfold pj nf;by_cases t7:t=7
 ·subst t7;rfl
 ·by_cases t8:t=8
  ·subst t8;rfl
  ·simp only[t7,t8,decide_false,Bool.or_self];rfl
theorem mP (r:R) (i:Nat) (hi:i<8) (Kr:PS) (Ke:NS):lo 86 2 (St.mk (ab [(1,T.lp 1 0),(3,ti i)]) (ab [(1,aU.cells 46 r.cs)]) H) Kr Ke=if r.k i=0 then lo 86 2 (St.mk (ab [(1,T.lp 1 0),(3,ti (i+1:Nat))]) (ab [(1,aU.cells 46 r.cs)]) H) Kr Ke else Kr (St.mk (ab [(2,tb true)]) (ab []) H):=by
 unfold R.cs;rw[Ox];(try simp only[NQ]);rw[aL (by omega),Rl,Int.toNat_natCast,oU r hi];have e1:(i:Int)<8:=by omega
 have e2:i≤11:=by omega
 by_cases h:r.k i=0<;>simp [e1,e2,h]<;>exact Iff.rfl
theorem SE (r:R):cl 86 [.agg r.cs] H K=K (.bool (!tG r.k)) H:=by
 unfold R.cs;rw[adm];(try simp only[NQ]);change lo _ _ (St.mk (ab [(1,T.lp 1 0),(3,ti (0:Nat))]) (ab [(1,aU.cells 46 r.cs)]) H) _ _=_
 rw[mP H r 0 (by omega),mP H r 1 (by omega),mP H r 2 (by omega),mP H r 3 (by omega),mP H r 4 (by omega),mP H r 5 (by omega),mP H r 6 (by omega),mP H r 7 (by omega)];unfold R.cs;rw[Ox];(try simp only[NQ]);unfold tG;by_cases h0:r.k 0=0
 ·by_cases h1:r.k 1=0
  ·by_cases h2:r.k 2=0
   ·by_cases h3:r.k 3=0
    ·by_cases h4:r.k 4=0
     ·by_cases h5:r.k 5=0
      ·by_cases h6:r.k 6=0
       ·by_cases h7:r.k 7=0<;>simp [h0,h1,h2,h3,h4,h5,h6,h7]<;>exact Iff.rfl
       ·simp [h0,h1,h2,h3,h4,h5,h6]<;>exact Iff.rfl
      ·simp [h0,h1,h2,h3,h4,h5]<;>exact Iff.rfl
     ·simp [h0,h1,h2,h3,h4]<;>exact Iff.rfl
    ·simp [h0,h1,h2,h3]<;>exact Iff.rfl
   ·simp [h0,h1,h2]<;>exact Iff.rfl
  ·simp [h0,h1]<;>exact Iff.rfl
 ·simp [h0]<;>exact Iff.rfl
theorem P9 (r:R) (h:Int) (h0:0≤h) (h8:h<8):cl 138 [.agg r.cs,vi h] H K=K (.agg (jg r h).cs) H:=by
 unfold R.cs;rw[aaJ];(try simp only[NQ]);have e4:h.toNat<8:=by omega
 simp only[Rl,iD _ _ _ _ e4,oT r e4]
 have e9:V.aa (bU (Nat.beq 9 h.toNat) (V.int .u32 0) (vi r.ho))=r.ho:=by
  have:9≠h.toNat:=by omega
  simp [this]<;>exact Iff.rfl
 have en:∀j,(bif Nat.beq j h.toNat then 0 else r.k j)=cF r.k h.toNat 0 j:=by
  intro j;unfold cF;by_cases hj:j=h.toNat<;>simp [hj]<;>exact Iff.rfl
 rw[e9,en,en,en,en,en,en,en,en]
 have hn:dm (xg (cF r.k h.toNat 0 0) (cF r.k h.toNat 0 1) (cF r.k h.toNat 0 2) (cF r.k h.toNat 0 3) (cF r.k h.toNat 0 4) (cF r.k h.toNat 0 5) (cF r.k h.toNat 0 6) (cF r.k h.toNat 0 7))
  (xg 0 0 0 0 0 0 0 0)=tG (cF r.k h.toNat 0):=by kernel_rfl
 rw[hn];simp only[EA,h0,h8,decide_true,Bool.and_self,az];unfold jg;by_cases hh:r.ho=h
 ·simp [hh]<;>exact Iff.rfl
 ·cases hn:tG (cF r.k h.toNat 0)<;>simp [hh,hn]<;>exact Iff.rfl
structure Cm where
 kd:Int
 kP:Int
 dp:Oq
 dn:Nat
 dc:Nat
 su:Bool
 ky:Int
 nw:Int
 ty:Int
 la:Bool
def Cm.cs (c:Cm):List V:=kE c.kd c.kP c.dp c.dn c.dc c.su c.ky c.nw c.ty c.la
theorem Cm.rV (c:Cm):kE c.kd c.kP c.dp c.dn c.dc c.su c.ky c.nw c.ty c.la=c.cs:=rfl
@[simp] theorem Cm.dv (c:Cm):aM XP c.cs=true:=rfl
@[simp] theorem Cm.dX (c:Cm):Yg c.cs=c.cs:=rfl
theorem GK (r:R) (h:Int) (c:Cm) (h0:0≤h) (h8:h<8):cl 113 [.agg r.cs,vi h,.agg c.cs] H K=K (.agg (jM r h c.nw c.la).cs) H:=by
 unfold R.cs Cm.cs;rw[aaD];(try simp only[NQ]);have e4:h.toNat<8:=by omega
 simp only[Rl,iD _ _ _ _ e4,oT r e4,R.Ah,P9 _ _ _ _ h0 h8];unfold jM;by_cases hn:c.nw=0
 ·simp [hn]
 ·simp [hn,h0,h8]
def AP (r:R) (h new:Int) (i:Nat):Bool:= !decide (r.k i=0)&&(!decide ((i:Int)=h)&&(decide (new=0)||decide (r.k i=new)))
def wC (r:R) (h new:Int):Nat→Bool
 |0=>false
 |i+1=>wC r h new i||AP r h new i
def Ro (r:R) (h new:Int) (b:Bool):Nat→Bool
 |0=>b
 |i+1=>Ro r h new b i||(AP r h new i&&decide (r.ho=i))
def kV (r:R) (h new:Int):Nat→Nat→Int
 |0=>r.k
 |i+1=>if AP r h new i=true then cF (kV r h new i) i 0 else kV r h new i
def Nk (r:R) (h:Int) (c:Cm) (v ho:Bool) (k:Nat→Int) (i:Int):St:=
 St.mk (ab [(1,ti h),(3,T.lp 3 0),(5,T.lp 5 0),(6,T.lp 6 0),(8,tb v),(9,tb ho),(10,T.lp 10 0),
  (48,T.v (V.agg (xg (r.k 0) (r.k 1) (r.k 2) (r.k 3) (r.k 4) (r.k 5) (r.k 6) (r.k 7)))),(49,ti i)])
   (ab [(3,aU.cells 46 r.cs),(5,aU.cells 41 c.cs),(6,aU.cells 46 (bJ 0 0 0 0 0 0 0 0 0 0 0 false)),
    (10,aU.cells 46 (R.cs ⟨k,r.ty,r.ho,r.ge,r.la⟩))]) H
theorem Ai (k:Nat→Int) {i:Nat} (hi:i<8):ae (xg (k 0) (k 1) (k 2) (k 3) (k 4) (k 5) (k 6) (k 7)) i=.int .u32 (k i):=by
 have h:i=0∨i=1∨i=2∨i=3∨i=4∨i=5∨i=6∨i=7:=by omega
 rcases h with rfl|rfl|rfl|rfl|rfl|rfl|rfl|rfl<;>rfl
theorem I4 (r:R) (h:Int) (c:Cm) (v ho:Bool) (k:Nat→Int) (i:Nat) (hi:i<8) (Kr:PS) (Ke:NS):lo 117 8 (Nk H r h c v ho k i) Kr Ke=lo 117 8 (Nk H r h c (v||AP r h c.nw i) (ho||(AP r h c.nw i&&decide (r.ho=i))) (if AP r h c.nw i=true then cF k i 0 else k) (i+1:Nat)) Kr Ke:=by
 have e1:decide ((i:Int)<8)=true:=by simp;omega
 have e2:decide (0≤(i:Int))=true:=by simp
 have e3:Int.toNat (i:Int)*1=i:=by simp
 have e5:0+i=i:=by omega
 have e6:Nat.ble (Nat.succ i) 8=true:=by simp;omega
 have hst:=iD 0 r.ty r.ho r.la hi;have Rj:=oT ⟨k,r.ty,r.ho,r.ge,r.la⟩ hi 0 r.ty r.ho r.ge r.la
 conv=>lhs;unfold Nk R.cs Cm.cs
 rw[JU];(try simp only[NQ]);rw[aL (by omega)];simp only[e1,e2,e3,e5,e6,Ai r.k hi,hst,Rj,dh,bh,ao,az,Bool.and_self];unfold AP;generalize decide (r.k i=0)=b1;generalize decide ((i:Int)=h)=b2;generalize decide (c.nw=0)=b3;generalize decide (r.k i=c.nw)=b4;generalize decide (r.ho=(i:Int))=b5;cases b1
 ·cases b2
  ·cases b3<;>cases b4<;>cases v<;>cases ho<;>cases b5<;>rfl
  ·cases v<;>cases ho<;>rfl
 ·cases v<;>cases ho<;>rfl
theorem Aj (r:R) (h:Int) (c:Cm) (v ho:Bool) (k:Nat→Int) (Kr:PS) (Ke:NS):lo 117 8 (Nk H r h c v ho k (8:Nat)) Kr Ke=Ke 0 (St.mk (ab [(1,ti h),(3,T.lp 3 0),(5,T.lp 5 0),(6,T.lp 6 0),(8,tb v),(9,tb ho),(10,T.lp 10 0)]) (ab [(3,aU.cells 46 r.cs),(5,aU.cells 41 c.cs),(6,aU.cells 46 (bJ 0 0 0 0 0 0 0 0 0 0 0 false)),(10,aU.cells 46 (R.cs ⟨k,r.ty,r.ho,r.ge,r.la⟩))]) H):=by
 conv=>lhs;unfold Nk R.cs Cm.cs
 rw[JU];(try simp only[NQ]);rfl
def jh (r:R) (h new ty:Int):R×Int:=
 if (decide (new=0)&& !nf r.ty)=true then (r,1) else
 let b:=decide (new=0)||(decide (new=r.k h.toNat)&&(!decide (r.ty=0)&&decide (r.ho=h)))
 let ho:=Ro r h new b 8
 if (!wC r h new 8&& !ho)=true then (r,13) else
 let s:R:=⟨kV r h new 8,r.ty,r.ho,IntKind.u32.wrap (r.ge+1),r.la⟩
 if ho=true then (pj (sr s) h ty,0) else (s,0)
theorem I5 (r:R) (h:Int) (c:Cm) (h0:0≤h) (h8:h<8):cl 117 [.agg r.cs,vi h,.agg c.cs] H K=K (.tuple [.agg (jh r h c.nw c.ty).1.cs,vi (jh r h c.nw c.ty).2]) H:=by
 conv=>lhs;unfold R.cs Cm.cs
 rw[aaH];(try simp only[NQ]);have e4:h.toNat<8:=by omega
 have e6:Nat.succ h.toNat≤12:=by omega
 have hb:(bif !decide (c.nw=0) then decide (c.nw=r.k h.toNat)&&(!decide (r.ty=0)&&decide (r.ho=h)) else true)=
  (decide (c.nw=0)||(decide (c.nw=r.k h.toNat)&&(!decide (r.ty=0)&&decide (r.ho=h)))):=by
  cases decide (c.nw=0)<;>rfl
 have hm:aN (!decide (c.nw=0)) true true=true:=rfl;simp only[AK,reduceIte,R.rV,Cm.rV,I1,Rl,qF r e4,h0,h8,e6,hb,hm];unfold jh;generalize (decide (c.nw=0)||(decide (c.nw=r.k h.toNat)&&(!decide (r.ty=0)&&decide (r.ho=h))))=b
 have run:∀(Kr:PS) (Ke:NS),lo 117 8 (Nk H r h c false b r.k 0) Kr Ke=
  lo 117 8 (Nk H r h c (wC r h c.nw 8) (Ro r h c.nw b 8) (kV r h c.nw 8) (8:Nat)) Kr Ke:=by
  intro Kr Ke
  have step (i:Nat) (hi:i<8):lo 117 8 (Nk H r h c (wC r h c.nw i) (Ro r h c.nw b i) (kV r h c.nw i) i) Kr Ke=
   lo 117 8 (Nk H r h c (wC r h c.nw (i+1)) (Ro r h c.nw b (i+1)) (kV r h c.nw (i+1)) (i+1:Nat)) Kr Ke:=
   I4 H r h c _ _ _ i hi Kr Ke
  exact(step 0 (by omega)).trans ((step 1 (by omega)).trans ((step 2 (by omega)).trans ((step 3 (by omega)).trans ((step 4 (by omega)).trans ((step 5 (by omega)).trans ((step 6 (by omega)).trans (step 7 (by omega))))))))
 have hs:Nk H r h c false b r.k 0=Nk H r h c false b r.k 0:=rfl
 conv at hs=>lhs;unfold Nk
 have hc (k:Nat→Int) (ge:Int):bJ (V.aa (ae (R.cs ⟨k,r.ty,r.ho,r.ge,r.la⟩) 0)) (V.aa (ae (R.cs ⟨k,r.ty,r.ho,r.ge,r.la⟩) 1)) (V.aa (ae (R.cs ⟨k,r.ty,r.ho,r.ge,r.la⟩) 2))
  (V.aa (ae (R.cs ⟨k,r.ty,r.ho,r.ge,r.la⟩) 3)) (V.aa (ae (R.cs ⟨k,r.ty,r.ho,r.ge,r.la⟩) 4)) (V.aa (ae (R.cs ⟨k,r.ty,r.ho,r.ge,r.la⟩) 5)) (V.aa (ae (R.cs ⟨k,r.ty,r.ho,r.ge,r.la⟩) 6))
  (V.aa (ae (R.cs ⟨k,r.ty,r.ho,r.ge,r.la⟩) 7)) (V.aa (ae (R.cs ⟨k,r.ty,r.ho,r.ge,r.la⟩) 8)) (V.aa (ae (R.cs ⟨k,r.ty,r.ho,r.ge,r.la⟩) 9)) ge (V.aq (ae (R.cs ⟨k,r.ty,r.ho,r.ge,r.la⟩) 11))=
  R.cs ⟨k,r.ty,r.ho,ge,r.la⟩:=rfl
 have hg (k:Nat→Int):V.aa (ae (R.cs ⟨k,r.ty,r.ho,r.ge,r.la⟩) 10)=r.ge:=rfl;have ht:V.aa (ae c.cs 6)=c.ty:=rfl;have hz:aM jk (bJ 0 0 0 0 0 0 0 0 0 0 0 false)=true:=rfl;rw[hs,run,Aj];simp only[AM,reduceIte,Nat.reduceEqDiff,R.dv,Cm.dv,R.dX,hz,hc,hg,ht,EA,KW,zo]
 grind
def doR (r:R) (h:Int) (c:Cm):R×Int:=
 if (decide (h<0)||(decide (h≥8)||(decide (c.kd<4)||decide (c.kd>8))))=true then (r,1) else
 if ((decide (c.kd=5)||(decide (c.kd=6)||decide (c.kd=8)))&& !right c.ty)=true then (r,1) else
 if (!decide (key r h=c.ky)||(decide (c.ky=0)&& !decide (c.kd=4)))=true then (r,13) else
 if decide (c.kd=4)=true then (jM r h c.nw c.la,0) else
 if decide (c.kd=5)=true then
  if (!decide (r.ty=0)&&(!holds r h|| !decide (r.ty=c.ty)))=true then (r,13) else
  if decide (r.ty=0)=true then (pj r h c.ty,0) else (r,0) else
 if decide (c.kd=6)=true then
  if (!holds r h)=true then (r,0) else
  if (!decide (r.ty=c.ty))=true then (r,1) else (sr r,0) else
 if decide (c.kd=7)=true then (⟨fun _=>0,0, -1,IntKind.u32.wrap (r.ge+1),r.la⟩,0) else
 jh r h c.nw c.ty
theorem aa7 (r:R) (h:Int) (c:Cm):cl 81 [.agg r.cs,vi h,.agg c.cs] H K=K (.tuple [.agg (doR r h c).1.cs,vi (doR r h c).2]) H:=by
 conv=>lhs;unfold R.cs Cm.cs
 rw[ada];(try simp only[NQ]);by_cases hr:0≤h∧h<8
 ·obtain⟨h0,h8⟩:=hr;have e4:h.toNat<8:=by omega
  have e6:Nat.succ h.toNat≤12:=by omega
  have hz (ge:Int) (la:Bool):bJ 0 0 0 0 0 0 0 0 0 (-1) ge la=R.cs ⟨fun _=>0,0, -1,ge,la⟩:=rfl;simp only[AK,reduceIte,R.rV,Cm.rV,GH,GI,KW,EA,GK _ _ _ _ _ h0 h8,I5 _ _ _ _ _ h0 h8,Rl,qF r e4,R.dv,R.dX,hz,h0,h8,e6,zo];unfold doR key
  grind
 ·have e:(bif !decide (h<0) then bif !decide (h≥8) then bif !decide (c.kd<4) then decide (c.kd>8) else true else true else true)=true:=by
   by_cases h0:h<0
   ·simp [h0]
   ·have:h≥8:=by omega
    simp [this]
  rw[e,ao]
  have e':(decide (h<0)||(decide (h≥8)||(decide (c.kd<4)||decide (c.kd>8))))=true:=by
   by_cases h0:h<0
   ·simp [h0]
   ·have:h≥8:=by omega
    simp [this]
  unfold doR;rw[if_pos e'];rfl
end
theorem Cm.Ah (kd kP:Int) (dp:Oq) (dn dc:Nat) (su:Bool) (ky nw ty:Int) (la:Bool):kE kd kP dp dn dc su ky nw ty la=Cm.cs ⟨kd,kP,dp,dn,dc,su,ky,nw,ty,la⟩:=rfl
structure AQ (r:R):Prop where
 ty:r.ty=0∨right r.ty=true
 none:r.ty=0→r.ho= -1
 all:nf r.ty=true→r.ho= -1
 one:r.ty≠0→nf r.ty=false→∃i:Nat,i<8∧r.ho=i∧r.k i≠0
 some:r.ty≠0→∃i:Nat,i<8∧r.k i≠0
theorem WM:AQ ⟨fun _=>0,0, -1,0,false⟩:=⟨.inl rfl,fun _=>rfl,fun _=>rfl,fun h=>absurd rfl h,fun h=>absurd rfl h⟩
theorem I6 {k:Nat→Int}:tG k=true↔∀i,i<8→k i=0:=by
 unfold tG;simp only[Bool.and_eq_true,Bool.or_false,decide_eq_true_eq];constructor
 ·rintro⟨h0,h1,h2,h3,h4,h5,h6,h7⟩ i hi;have h:i=0∨i=1∨i=2∨i=3∨i=4∨i=5∨i=6∨i=7:=by omega
  rcases h with rfl|rfl|rfl|rfl|rfl|rfl|rfl|rfl<;>assumption
 ·intro h;exact⟨h 0 (by omega),h 1 (by omega),h 2 (by omega),h 3 (by omega),h 4 (by omega),h 5 (by omega),h 6 (by omega),h 7 (by omega)⟩
theorem vm (r:R) (h new:Int):∀n j,kV r h new n j=if j<n∧AP r h new j=true then 0 else r.k j
 |0,j=>by simp [kV]
 |n+1,j=>by
  have ih:=vm r h new n j;unfold kV;by_cases hv:AP r h new n=true
  ·rw[if_pos hv];by_cases hj:j=n
   ·subst hj;rw[P5,if_pos ⟨by omega,hv⟩]
   ·rw[IZ hj,ih];by_cases hl:j<n<;>by_cases hw:AP r h new j=true<;>simp [hl,hw]<;>omega
  ·rw[if_neg hv,ih];by_cases hj:j=n
   ·subst hj;simp [hv]
   ·by_cases hl:j<n<;>by_cases hw:AP r h new j=true<;>simp [hl,hw]<;>omega
theorem Qa (r:R) (h new:Int):∀n,wC r h new n=true↔∃j,j<n∧AP r h new j=true
 |0=>by simp [wC]
 |n+1=>by
  unfold wC;rw[Bool.or_eq_true,Qa r h new n];constructor
  ·rintro(⟨j,h1,h2⟩|h)
   ·exact⟨j,by omega,h2⟩
   ·exact⟨n,by omega,h⟩
  ·rintro⟨j,h1,h2⟩;by_cases hj:j=n
   ·subst hj;exact .inr h2
   ·exact .inl ⟨j,by omega,h2⟩
theorem KY (r:R) (h new:Int) (b:Bool):∀n,Ro r h new b n=true↔b=true∨∃j:Nat,j<n∧AP r h new j=true∧r.ho=j
 |0=>by simp [Ro]
 |n+1=>by
  unfold Ro;rw[Bool.or_eq_true,KY r h new b n,Bool.and_eq_true,decide_eq_true_eq];constructor
  ·rintro((h|⟨j,h1,h2,h3⟩)|h)
   ·exact .inl h
   ·exact .inr ⟨j,by omega,h2,h3⟩
   ·exact .inr ⟨n,by omega,h.1,h.2⟩
  ·rintro(h|⟨j,h1,h2,h3⟩)
   ·exact .inl (.inl h)
   ·by_cases hj:j=n
    ·subst hj;exact .inr ⟨h2,h3⟩
    ·exact .inl (.inr ⟨j,by omega,h2,h3⟩)
theorem SF {r:R} {h new:Int} {i:Nat}:AP r h new i=true↔r.k i≠0∧(i:Int)≠h∧(new=0∨r.k i=new):=by
 unfold AP;simp [Bool.and_eq_true]
theorem rK {t:Int}:right t=true↔t=1∨t=3∨t=5∨t=6∨t=7∨t=8:=by
 unfold right;simp [_root_.or_assoc]
theorem GL {r:R} {h t:Int} (h0:0≤h) (h8:h<8) (hk:r.k h.toNat≠0) (ht:right t=true):AQ (pj r h t):=by
 rw[rK] at ht;refine⟨.inr (rK.2 ht),fun hz=> ?_,fun ha=> ?_,fun _ ha=> ?_,fun _=>⟨h.toNat,by omega,hk⟩⟩
 ·simp only[pj] at hz;omega
 ·simp only[pj] at ha⊢;rw[if_pos ha]
 ·simp only[pj] at ha⊢;rw[if_neg (by simp [ha])];exact⟨h.toNat,by omega,by omega,hk⟩
theorem GM {r:R}:AQ (sr r):=⟨.inl rfl,fun _=>rfl,fun _=>rfl,fun h=>absurd rfl h,fun h=>absurd rfl h⟩
theorem My {r:R} (hr:AQ r) {h:Int} (h0:0≤h) (h8:h<8):AQ (jg r h):=by
 unfold jg;simp only[];split
 ·exact GM
 ·rename_i hn;rw[not_or] at hn;refine⟨hr.ty,hr.none,hr.all,fun h1 h2=> ?_,fun h1=> ?_⟩
  ·obtain⟨i,hi,e,hk⟩:=hr.one h1 h2;refine⟨i,hi,e, ?_⟩;have:i≠h.toNat:=by intro e2;exact hn.1 (by rw[e,e2];omega)
   simpa [IZ this] using hk
  ·have:=hn.2;rw[I6] at this;simp only[Classical.not_forall] at this;obtain⟨i,hi,hk⟩:=this;exact⟨i,hi,hk⟩
theorem EC {r:R} (hr:AQ r) {h new:Int} (h0:0≤h) (h8:h<8) (la:Bool):AQ (jM r h new la):=by
 unfold jM;simp only[];split
 ·have h2:AQ ⟨r.k,r.ty,r.ho,IntKind.u32.wrap (r.ge+1),la⟩:=⟨hr.ty,hr.none,hr.all,hr.one,hr.some⟩;exact My h2 h0 h8
 ·rename_i hn;refine⟨hr.ty,hr.none,hr.all,fun h1 h2=> ?_,fun h1=> ?_⟩
  ·obtain⟨i,hi,e,hk⟩:=hr.one h1 h2;refine⟨i,hi,e, ?_⟩;simp only[cF];split
   ·exact hn
   ·exact hk
  ·exact⟨h.toNat,by omega,by simp only[P5];exact hn⟩
theorem GN {r:R} (hr:AQ r) {h new ty:Int} (h0:0≤h) (h8:h<8) (hk:r.k h.toNat≠0) (ht:right ty=true):AQ (jh r h new ty).1:=by
 unfold jh;simp only[]
 have AB:kV r h new 8 h.toNat=r.k h.toNat:=by
  rw[vm,if_neg];rintro⟨_,hv⟩;rw[SF] at hv;exact hv.2.1 (by omega)
 split
 ·exact hr
 ·split
  ·exact hr
  ·split
   ·exact GL h0 h8 (by simpa [sr,AB] using hk) ht
   ·rename_i hn;rw[KY] at hn;refine⟨hr.ty,hr.none,hr.all,fun h1 h2=> ?_,fun h1=>⟨h.toNat,by omega,by simpa [AB] using hk⟩⟩;obtain⟨i,hi,e,hki⟩:=hr.one h1 h2;refine⟨i,hi,e, ?_⟩;simp only[vm];rw[if_neg]
    ·exact hki
    ·rintro⟨_,hv⟩;exact hn (.inr ⟨i,hi,hv,e⟩)
theorem Qb {r:R} (hr:AQ r) (h:Int) (c:Cm):AQ (doR r h c).1:=by
 unfold doR;split
 ·exact hr
 rename_i hv;simp only[Bool.or_eq_true,decide_eq_true_eq,not_or] at hv;have h0:0≤h:=by omega
 have h8:h<8:=by omega
 split
 ·exact hr
 rename_i ht;split
 ·exact hr
 rename_i hk;split
 ·exact EC hr h0 h8 _
 rename_i h4
 have hk':r.k h.toNat≠0:=by
  unfold key at hk
  grind
 have hty:(c.kd=5∨c.kd=6∨c.kd=8)→right c.ty=true:=by
  intro hc;simp only[Bool.and_eq_true,Bool.or_eq_true,decide_eq_true_eq,Bool.not_eq_true',not_and,Bool.not_eq_false] at ht;exact ht hc
 split
 ·rename_i h5;split
  ·exact hr
  ·split
   ·exact GL h0 h8 hk' (hty (.inl (by simpa using h5)))
   ·exact hr
 split
 ·split
  ·exact hr
  ·split
   ·exact hr
   ·exact GM
 split
 ·exact⟨.inl rfl,fun _=>rfl,fun _=>rfl,fun h=>absurd rfl h,fun h=>absurd rfl h⟩
 ·rename_i h5 h6 h7;simp only[decide_eq_true_eq] at h4 h5 h6 h7;exact GN hr h0 h8 hk' (hty (.inr (.inr (by omega))))
section
variable (H:ai) (K:KP)
def xK (r:R) (h new:Int):Nat→Nat
 |0=>0
 |i+1=>if AP r h new i=true then xK r h new i+1 else xK r h new i
theorem KZ (r:R) (h new:Int):∀n,xK r h new n≤n
 |0=>Nat.le_refl _
 |n+1=>by have:=KZ r h new n;unfold xK;split<;>omega
theorem Cj (r:R) (h new:Int):∀n,xK r h new n=0↔wC r h new n=false
 |0=>by simp [xK,wC]
 |n+1=>by
  have:=Cj r h new n;unfold xK wC;by_cases hv:AP r h new n=true
  ·simp [hv]
  ·simp [hv,this]
def Nl (r:R) (h:Int) (c:Cm) (ho:Bool) (v:Int) (k:Nat→Int) (i:Int):St:=
 St.mk (ab [(1,ti h),(3,T.lp 3 0),(5,T.lp 5 0),(6,T.lp 6 0),(8,T.lp 8 0),(10,tb ho),(11,ti v),(12,ti i)])
   (ab [(3,aU.cells 46 r.cs),(5,aU.cells 41 c.cs),(6,aU.cells 46 (bJ 0 0 0 0 0 0 0 0 0 0 0 false)),
    (8,aU.cells 46 (R.cs ⟨k,r.ty,r.ho,r.ge,r.la⟩))]) H
theorem WN (r:R) (h:Int) (c:Cm) (ho:Bool) (v:Nat) (k:Nat→Int) (i:Nat) (hi:i<8) (hv:v≤8) (Kr:PS) (Ke:NS):lo 50 53 (Nl H r h c ho v k i) Kr Ke=lo 50 53 (Nl H r h c (ho||(AP r h c.nw i&&(!decide (r.ty=0)&&decide (r.ho=i)))) (if AP r h c.nw i=true then v+1 else v:Nat) (if AP r h c.nw i=true then cF k i 0 else k) (i+1:Nat)) Kr Ke:=by
 have e1:decide ((i:Int)<8)=true:=by simp;omega
 have e2:decide (0≤(i:Int))=true:=by simp
 have e3:0+Int.toNat (i:Int)*1=i:=by simp
 have e6:Nat.ble (Nat.succ i) 12=true:=by simp;omega
 have hst:=iD 0 r.ty r.ho r.la hi;have Rj:=oT ⟨k,r.ty,r.ho,r.ge,r.la⟩ hi 0 r.ty r.ho r.ge r.la
 conv=>lhs;unfold Nl R.cs Cm.cs
 rw[JX];(try simp only[NQ]);rw[aL (by omega),aL (by omega)];simp only[e3,hst,Rj];simp only[e1,e2,e6,oU r hi,dh,bh,ao,az,Bool.and_self];unfold AP;generalize decide (r.k i=0)=b1;generalize decide ((i:Int)=h)=b2;generalize decide (c.nw=0)=b3;generalize decide (r.k i=c.nw)=b4;generalize decide (r.ho=(i:Int))=b5;generalize decide (r.ty=0)=b6;cases b1
 ·cases b2
  ·cases b3<;>cases b4<;>cases ho<;>cases b5<;>cases b6<;>rfl
  ·cases b3<;>cases ho<;>rfl
 ·cases b2<;>cases b3<;>cases ho<;>rfl
theorem I7 (r:R) (h:Int) (c:Cm) (ho:Bool) (v:Int) (k:Nat→Int) (Kr:PS) (Ke:NS):lo 50 53 (Nl H r h c ho v k (8:Nat)) Kr Ke=Ke 1 (St.mk (ab [(1,ti h),(3,T.lp 3 0),(5,T.lp 5 0),(6,T.lp 6 0),(8,T.lp 8 0),(10,tb ho),(11,ti v)]) (ab [(3,aU.cells 46 r.cs),(5,aU.cells 41 c.cs),(6,aU.cells 46 (bJ 0 0 0 0 0 0 0 0 0 0 0 false)),(8,aU.cells 46 (R.cs ⟨k,r.ty,r.ho,r.ge,r.la⟩))]) H):=by
 conv=>lhs;unfold Nl R.cs Cm.cs
 rw[JX];(try simp only[NQ]);rfl
def XT (r:R) (h new:Int) (b:Bool):Nat→Bool
 |0=>b
 |i+1=>XT r h new b i||(AP r h new i&&(!decide (r.ty=0)&&decide (r.ho=i)))
theorem Qc {r:R} (hr:AQ r) (h new:Int) (b:Bool):∀n,XT r h new b n=Ro r h new b n
 |0=>rfl
 |n+1=>by
  unfold XT Ro;rw[Qc hr h new b n];by_cases ht:r.ty=0
  ·have h1:=hr.none ht;have h2:decide (r.ho=(n:Int))=false:=by rw[h1];simp
   rw[h2];simp
  ·simp [ht]
theorem SG (r:R) (h:Int) (c:Cm) (b:Bool) (Kr:PS) (Ke:NS):lo 50 53 (Nl H r h c b 0 r.k 0) Kr Ke=lo 50 53 (Nl H r h c (XT r h c.nw b 8) (xK r h c.nw 8:Nat) (kV r h c.nw 8) (8:Nat)) Kr Ke:=by
 have step (i:Nat) (hi:i<8):lo 50 53 (Nl H r h c (XT r h c.nw b i) (xK r h c.nw i:Nat) (kV r h c.nw i) i) Kr Ke=
  lo 50 53 (Nl H r h c (XT r h c.nw b (i+1)) (xK r h c.nw (i+1):Nat) (kV r h c.nw (i+1)) (i+1:Nat)) Kr Ke:=
  WN H r h c _ _ _ i hi (by have:=KZ r h c.nw i;omega) Kr Ke
 exact(step 0 (by omega)).trans ((step 1 (by omega)).trans ((step 2 (by omega)).trans ((step 3 (by omega)).trans ((step 4 (by omega)).trans ((step 5 (by omega)).trans ((step 6 (by omega)).trans (step 7 (by omega))))))))
def Qd (r:R) (k:Nat→Int) (i:Int):St:=
 St.mk (ab [(6,T.lp 6 0),(8,T.lp 8 0),(9,ti i)])
   (ab [(6,aU.cells 46 (bJ 0 0 0 0 0 0 0 0 0 0 0 false)),(8,aU.cells 46 (R.cs ⟨k,r.ty,r.ho,r.ge,r.la⟩))]) H
theorem kx (r:R) (k:Nat→Int) (i:Nat) (hi:i<8) (Kr:PS) (Ke:NS):lo 50 40 (Qd H r k i) Kr Ke=lo 50 40 (Qd H r (cF k i 0) (i+1:Nat)) Kr Ke:=by
 have e1:decide ((i:Int)<8)=true:=by simp;omega
 have e2:decide (0≤(i:Int))=true:=by simp
 have e3:0+Int.toNat (i:Int)*1=i:=by simp
 have hst:=iD 0 r.ty r.ho r.la hi;have Rj:=oT ⟨k,r.ty,r.ho,r.ge,r.la⟩ hi 0 r.ty r.ho r.ge r.la
 conv=>lhs;unfold Qd R.cs
 rw[JY];(try simp only[NQ]);rw[aL (by omega)];simp only[e1,e2,e3,hst,Rj,ao,az,Bool.and_self];rfl
theorem ED (r:R) (k:Nat→Int) (Kr:PS) (Ke:NS):lo 50 40 (Qd H r k (8:Nat)) Kr Ke=Ke 3 (St.mk (ab [(6,T.lp 6 0),(8,T.lp 8 0)]) (ab [(6,aU.cells 46 (bJ 0 0 0 0 0 0 0 0 0 0 0 false)),(8,aU.cells 46 (R.cs ⟨k,r.ty,r.ho,r.ge,r.la⟩))]) H):=by
 conv=>lhs;unfold Qd R.cs
 rw[JY];(try simp only[NQ]);rfl
theorem Mz (r:R) (Kr:PS) (Ke:NS):lo 50 40 (Qd H r r.k 0) Kr Ke=Ke 3 (St.mk (ab [(6,T.lp 6 0),(8,T.lp 8 0)]) (ab [(6,aU.cells 46 (bJ 0 0 0 0 0 0 0 0 0 0 0 false)),(8,aU.cells 46 (R.cs ⟨fun _=>0,r.ty,r.ho,r.ge,r.la⟩))]) H):=by
 have e0:Qd H r r.k 0=Qd H r r.k (0:Nat):=rfl;rw[e0,kx H r _ 0 (by omega),kx H r _ 1 (by omega),kx H r _ 2 (by omega),kx H r _ 3 (by omega),kx H r _ 4 (by omega),kx H r _ 5 (by omega),kx H r _ 6 (by omega),kx H r _ 7 (by omega),ED];rfl
theorem Ck {r:R} (hr:AQ r) (h:Int):wB r h=holds r h:=by
 unfold wB holds;by_cases hi:I0 h=true
 ·have h0:0≤h:=by unfold I0 at hi;simp at hi;exact hi.1
  cases ha:nf r.ty
  ·simp
  ·have:=hr.all ha;have hne:¬r.ho=h:=by omega
   simp [hne]
 ·simp [hi]
theorem GO {r:R} (hr:AQ r) (h:Int) (w:Bool):vl r h w=mO r h w:=by
 unfold vl mO;rw[Ck hr];have:=hr.ty;rw[rK] at this
 grind
theorem WO (r:R) (hr:AQ r) (h:Int) (c:Cm):cl 50 [.agg r.cs,vi h,.agg c.cs] H K=K (.tuple [.agg (doR r h c).1.cs,vi (doR r h c).2]) H:=by
 obtain⟨rk,rty,rho,rge,rla⟩:=r;obtain⟨kd,kP,dp,dn,dc,su,ky,nw,cty,la⟩:=c
 conv=>lhs;simp only[R.cs,Cm.cs]
 rw[adj];(try simp only[NQ]);by_cases XB:0≤h∧h<8
 ·obtain⟨h0,h8⟩:=XB;have e4:h.toNat<8:=by omega
  have e6:Nat.succ h.toNat≤12:=by omega
  have hst:=iD nw rty rho la e4;have Rj:=oT ⟨rk,rty,rho,rge,rla⟩ e4 nw rty rho (IntKind.u32.wrap (rge+1)) la;have hs (b:Bool):Nl H ⟨rk,rty,rho,rge,rla⟩ h ⟨kd,kP,dp,dn,dc,su,ky,nw,cty,la⟩ b 0 rk 0=Nl H ⟨rk,rty,rho,rge,rla⟩ h ⟨kd,kP,dp,dn,dc,su,ky,nw,cty,la⟩ b 0 rk 0:=rfl
  conv at hs=>ext b;lhs;unfold Nl
  have oh:Qd H ⟨rk,rty,rho,rge,rla⟩ rk 0=Qd H ⟨rk,rty,rho,rge,rla⟩ rk 0:=rfl
  conv at oh=>lhs;unfold Qd
  have hc (k:Nat→Int) (ty ho g ge:Int) (la:Bool):bJ (V.aa (ae (R.cs ⟨k,ty,ho,g,la⟩) 0)) (V.aa (ae (R.cs ⟨k,ty,ho,g,la⟩) 1)) (V.aa (ae (R.cs ⟨k,ty,ho,g,la⟩) 2))
   (V.aa (ae (R.cs ⟨k,ty,ho,g,la⟩) 3)) (V.aa (ae (R.cs ⟨k,ty,ho,g,la⟩) 4)) (V.aa (ae (R.cs ⟨k,ty,ho,g,la⟩) 5)) (V.aa (ae (R.cs ⟨k,ty,ho,g,la⟩) 6))
   (V.aa (ae (R.cs ⟨k,ty,ho,g,la⟩) 7)) (V.aa (ae (R.cs ⟨k,ty,ho,g,la⟩) 8)) (V.aa (ae (R.cs ⟨k,ty,ho,g,la⟩) 9)) ge (V.aq (ae (R.cs ⟨k,ty,ho,g,la⟩) 11))=
   R.cs ⟨k,ty,ho,ge,la⟩:=rfl
  have hg (k:Nat→Int) (ty ho g:Int) (la:Bool):V.aa (ae (R.cs ⟨k,ty,ho,g,la⟩) 10)=g:=rfl;have ht:V.aa (ae (Cm.cs ⟨kd,kP,dp,dn,dc,su,ky,nw,cty,la⟩) 6)=cty:=rfl;have hz:aM jk (bJ 0 0 0 0 0 0 0 0 0 0 0 false)=true:=rfl;have hm (a b cc:Bool):aN a (aN b (aN cc true true) (aN false true true)) true=true:=by cases a<;>cases b<;>cases cc<;>rfl
  have vy (b:Bool) (Kr:PS) (Ke:NS):=SG H ⟨rk,rty,rho,rge,rla⟩ h ⟨kd,kP,dp,dn,dc,su,ky,nw,cty,la⟩ b Kr Ke;dsimp only at vy;have xN (Kr:PS) (Ke:NS):=Mz H ⟨rk,rty,rho,rge,rla⟩ Kr Ke;dsimp only at xN;have hk0 (a:Int):(a=0)=(a=0):=rfl;have hnk:=oU ⟨rk,rty,rho,rge,rla⟩ e4;simp only[Rl,dY] at hst Rj hnk⊢;simp only[hst,Rj,hnk]
  simp only[AM,reduceIte,Nat.reduceEqDiff,R.Ah,Cm.Ah,Mx,Ci,P8,P7,SE,R.dv,Cm.dv,R.dX,h0,h8,e6,hs,oh,vy,xN,I7,hz,hc,hg,ht,hm,zo,
   Ck hr,Qc hr]
  have hv0:decide (((xK ⟨rk,rty,rho,rge,rla⟩ h nw 8:Nat):Int)=0)= !wC ⟨rk,rty,rho,rge,rla⟩ h nw 8:=by
   have:=Cj ⟨rk,rty,rho,rge,rla⟩ h nw 8;cases hb:wC ⟨rk,rty,rho,rge,rla⟩ h nw 8
   ·rw[this.2 hb];rfl
   ·have h2:xK ⟨rk,rty,rho,rge,rla⟩ h nw 8≠0:=fun e=>by rw[this.1 e] at hb;cases hb
    rw[Bool.not_true,decide_eq_false_iff_not];omega
  have htd (x:R):pj (sr x) h cty=pj x h cty:=rfl;have hq:(nw=rk h.toNat)=(rk h.toNat=nw):=propext ⟨Eq.symm,Eq.symm⟩;simp only[hv0];unfold doR key jh jM jg nf;simp only[htd,hq];clear hs oh hc hg ht hz hm vy xN hk0 hnk hst Rj hv0 htd hq;by_cases h4:rk h.toNat=nw
  ·have hb (a b cc:Bool):(bif !a then !b&&(cc&&true) else true)=(a||(true&&(!b&&cc))):=by cases a<;>cases b<;>cases cc<;>rfl
   simp only[h4,decide_true,hb];generalize (decide (nw=0)||(true&&(!decide (rty=0)&&decide (rho=h))))=b1
   grind (splits:=40) [sr]
  ·have hb (a b cc:Bool):(bif !a then !b&&(cc&&false) else true)=(a||(false&&(!b&&cc))):=by cases a<;>cases b<;>cases cc<;>rfl
   simp only[h4,decide_false,hb];generalize (decide (nw=0)||(false&&(!decide (rty=0)&&decide (rho=h))))=b1
   grind (splits:=40) [sr]
 ·have e:(bif !decide (h<0) then bif !decide (h>7) then bif !decide (kd<4) then decide (kd>8) else true else true else true)=true:=by
   by_cases h0:h<0
   ·simp [h0]
   ·have:h>7:=by omega
    simp [this]
  rw[e,ao]
  have e':(decide (h<0)||(decide (h≥8)||(decide (kd<4)||decide (kd>8))))=true:=by
   by_cases h0:h<0
   ·simp [h0]
   ·have:h≥8:=by omega
    simp [this]
  unfold doR;rw[if_pos e'];rfl
end
def R.zero:R:=⟨fun _=>0,0,0,0,false⟩
def R.gk:R:=⟨fun _=>0,0, -1,0,false⟩
theorem SH:bJ 0 0 0 0 0 0 0 0 0 0 0 false=R.zero.cs:=rfl
structure Ob where
 su:List (List UInt8)
 ps:List Pg
 r:R
def wt (p:Pg):Int×List UInt8:=(p.au,p.data)
theorem Cl {α:Type} (key:α→Int) (a:Int) {l l':List α} (h:l.Perm l'):(l.map key).Nodup→l.find? (fun x=>decide (key x=a))=l'.find? (fun x=>decide (key x=a)):=by
 induction h with
 |nil=>exact fun _=>rfl
 |cons x _ ih=>
  intro hn;rw[map_cons,nodup_cons] at hn;simp only[List.find?_cons,ih hn.2]
 |swap x y l=>
  intro hn;rw[map_cons,map_cons,nodup_cons] at hn;have hne:key y≠key x:=fun h=>hn.1 (by simp [h])
  simp only[List.find?_cons];by_cases h1:key y=a
  ·have h2:key x≠a:=fun h=>hne (by omega)
   simp [h1,h2]
  ·by_cases h2:key x=a<;>simp [h1,h2]
 |trans h1 _ ih1 ih2=>
  intro hn;rw[ih1 hn,ih2 ((h1.map key).nodup_iff.1 hn)]
def pB (ps:List Pg) (a:Int):Option (List UInt8):=(ps.find? fun p=>decide (p.au=a)).map Pg.data
def Bm (l:List (Int×List UInt8)) (a:Int):Option (List UInt8):=(l.find? fun w=>decide (w.1=a)).map Prod.snd
theorem Ak {ps:List Pg} (h:ee ps):(ps.map Pg.au).Nodup:=by
 rw[List.Nodup,pairwise_map];exact h.up.imp fun h=>by omega
theorem MA {ps ps':List Pg} (h:ps.Perm ps') (hn:(ps.map Pg.au).Nodup) (a:Int):pB ps a=pB ps' a:=by
 unfold pB;rw[Cl Pg.au a h hn]
theorem MB {l:List (Int×List UInt8)} {ps:List Pg} (h:l.Perm (ps.map wt)) (hs:ee ps) (a:Int):Bm l a=pB ps a:=by
 have hn:(l.map Prod.fst).Nodup:=by
  have:=(h.map Prod.fst).nodup_iff.2 (by
   rw[List.map_map]
   exact Ak hs)
  exact this
 unfold Bm;rw[Cl Prod.fst a h hn,List.find?_map];unfold pB;rw[Option.map_map];rfl
theorem rL {ps:List Pg} {a:Int}:pB ps a=none↔fO ps a=false:=by
 unfold pB fO;rw[map_eq_none_iff,List.find?_eq_none,List.any_eq_false]
theorem MC {ps:List Pg} (hs:ee ps) {a:Int} (hh:fO ps a=true) (hp:bX ps a<ps.length):pB ps a=some (ps[bX ps a]).data:=by
 obtain⟨_,he⟩:=(mb hs.up).1 hh;have h1:=MA (zz hp) (Ak hs) a;rw[h1];unfold pB;simp [he]
theorem xq {ps:List Pg} (hs:ps.Pairwise fun x y=>x.au<y.au) (a:Int):fG ps a=ps.filter fun p=> !decide (p.au=a):=by
 induction ps with
 |nil=>rfl
 |cons p l ih=>
  obtain⟨h1,h2⟩:=pairwise_cons.1 hs;have ih:=ih h2;by_cases hlt:p.au<a
  ·have hne:¬p.au=a:=by omega
   have e1:bX (p::l) a=bX l a+1:=by rw[bX,if_pos hlt]
   have e2:fO (p::l) a=fO l a:=by unfold fO;simp [hne]
   rw[filter_cons];simp only[hne,decide_false,Bool.not_false,if_true];rw[←ih];unfold fG;rw[e1,e2];split<;>simp
  ·have e1:bX (p::l) a=0:=by rw[bX,if_neg hlt]
   have hl:l.filter (fun p=> !decide (p.au=a))=l:=by
    rw[filter_eq_self];intro x hx;have:=h1 x hx;have:¬x.au=a:=by omega
    simp [this]
   by_cases he:p.au=a
   ·have e2:fO (p::l) a=true:=by unfold fO;simp [he]
    unfold fG;rw[e1,e2,if_pos rfl,filter_cons];simp [he,hl]
   ·have e2:fO (p::l) a=false:=by
     unfold fO;rw[List.any_eq_false];intro x hx;rcases mem_cons.1 hx with rfl|hx
     ·simpa using he
     ·have:=h1 x hx;have:¬x.au=a:=by omega
      simpa using this
    unfold fG;rw[e2,if_neg (by simp),filter_cons];simp [he,hl]
theorem GP {ps:List Pg} (hs:ee ps) {p:Pg} (h0:(hH ps p).2=0):(hH ps p).1.Perm (p.put::fG ps p.au):=by
 unfold hH at h0⊢;split at h0
 ·simp at h0
 ·rename_i c1;rw[if_neg c1];split at h0
  ·simp at h0
  ·rename_i c2;rw[if_neg c2];split at h0
   ·rename_i c3;rw[if_pos c3];unfold fG;rw[if_pos c3];obtain⟨g1,_⟩:=(mb hs.up).1 c3;exact(DT p.put g1).symm
   ·rename_i c3;rw[if_neg c3];split at h0
    ·simp at h0
    ·rename_i c4;rw[if_neg c4];unfold fG;rw[if_neg c3];have:=perm_middle (a:=p.put) (l₁:=ps.take (bX ps p.au)) (l₂:=ps.drop (bX ps p.au));rw[take_append_drop] at this;exact this
def dJ (su:List (List UInt8)) (ps:List Pg):List (List UInt8):=ps.foldl (fun s p=>s.set p.au.toNat p.data) su
theorem cR:∀(ps:List Pg) (su:List (List UInt8)),(dJ su ps).length=su.length
 |[],_=>rfl
 |p::ps,su=>by
  show (dJ (su.set p.au.toNat p.data) ps).length=su.length
  rw[cR ps,length_set]
theorem Cn {p:Pg} {ps:List Pg} (hs:ee (p::ps)):ee ps:=⟨(pairwise_cons.1 hs.up).2,fun x hx=>hs.lo x (mem_cons_of_mem _ hx),fun x hx=>hs.dl x (mem_cons_of_mem _ hx)⟩
def kz (o:Ob) (a:Int):List UInt8:=if 0≤a∧a<o.su.length then (pB o.ps a).getD (o.su.getD a.toNat []) else []
def gR (o:Ob):Ob:=⟨dJ o.su o.ps,[],o.r⟩
def nN (o:Ob) (p:Pg) (sure:Bool):Ob:=
 if sure=true then ⟨o.su.set p.au.toNat p.data,fG o.ps p.au,o.r⟩ else
 if (hH o.ps p).2=11 then ⟨dJ o.su o.ps,(hH [] p).1,o.r⟩ else ⟨o.su,(hH o.ps p).1,o.r⟩
def kC (r:R) (power:Bool):R:=if power=true then if r.la=true then ⟨r.k,r.ty,r.ho,0,r.la⟩ else R.gk else r
def gS (o:Ob) (power:Bool):Ob:=⟨o.su,[],kC o.r power⟩
def kD (h:Int) (c:Cm) (n:Nat):Bool:=
 decide (0≤h)&&decide (h<8)&&decide (c.kd≤9)&&(!(decide (c.kd=0)||decide (c.kd=1)||decide (c.kd=2))||decide (0≤c.kP)&&decide (c.kP<n))&&(!decide (c.kd=1)||decide (c.dn≤64))
def HA (r:R) (h:Int) (c:Cm):Bool:=
 if c.kd=0 then mO r h false else if c.kd=1∨c.kd=2∨c.kd=3 then mO r h true else true
structure Rs where
 e:Int
 d:List UInt8
 r:R
def ss (o:Ob) (h:Int) (c:Cm) (bV:List UInt8):Ob×Rs:=
 if kD h c o.su.length=false then (o,⟨1,[],R.zero⟩) else
 if HA o.r h c=false then (o,⟨13,[],R.zero⟩) else
 if c.kd=0 then (o,⟨0,kz o c.kP,R.zero⟩) else
 if c.kd=1 then (nN o ⟨c.kP,bV,false⟩ c.su,⟨0,[],R.zero⟩) else
 if c.kd=2 then (nN o ⟨c.kP,[],true⟩ c.su,⟨0,[],R.zero⟩) else
 if c.kd=3 then (gR o,⟨0,[],R.zero⟩) else
 if c.kd=9 then (o,⟨0,[],o.r⟩) else
 (⟨o.su,o.ps,(doR o.r h c).1⟩,⟨(doR o.r h c).2,[],R.zero⟩)
structure Ob.ok (o:Ob):Prop where
 n1:1≤o.su.length
 n2:o.su.length≤65536
 dl:∀b∈o.su,b.length≤64
 sort:ee o.ps
 le8:o.ps.length≤8
 inr:∀p∈o.ps,p.au<o.su.length
 tN:AQ o.r
theorem oV:ee []:=⟨.nil,nofun,nofun⟩
theorem wD:∀(ps:List Pg) (su:List (List UInt8)),(∀b∈su,b.length≤64)→(∀p∈ps,p.data.length≤64)→∀b∈dJ su ps,b.length≤64
 |[],su,h,_=>h
 |p::ps,su,h,hp=>by
  refine wD ps (su.set p.au.toNat p.data) (fun b hb=> ?_) (fun x hx=>hp x (mem_cons_of_mem _ hx));rcases mem_or_eq_of_mem_set hb with hb|rfl
  ·exact h b hb
  ·exact hp p (mem_cons_self ..)
theorem n9 {o:Ob} (h:o.ok):(gR o).ok:=
 ⟨by unfold gR;rw[cR];exact h.n1,by unfold gR;rw[cR];exact h.n2,wD _ _ h.dl h.sort.dl,oV,by simp [gR],nofun,h.tN⟩
theorem Qe {r:R} (h:AQ r) (power:Bool):AQ (kC r power):=by
 unfold kC;split
 ·split
  ·exact⟨h.ty,h.none,h.all,h.one,h.some⟩
  ·exact WM
 ·exact h
theorem yf {o:Ob} (h:o.ok) (power:Bool):(gS o power).ok:=⟨h.n1,h.n2,h.dl,oV,by simp [gS],nofun,Qe h.tN power⟩
theorem EE {ps:List Pg} (hl:ps.length≤8) {p:Pg} (h0:0≤p.au) (h1:p.au≤65535) (hd:p.data.length≤64):(hH ps p).2=if fO ps p.au=false∧ps.length≥8 then 11 else 0:=by
 unfold hH;rw[if_neg (by omega),if_neg (by omega)];cases fO ps p.au
 ·simp only[Bool.false_eq_true,if_false,true_and];split<;>rfl
 ·simp
theorem EF {ps:List Pg} (hs:ee ps) {p x:Pg} (hx:x∈(hH ps p).1):x∈ps∨x=p.put:=by
 unfold hH at hx;split at hx
 ·exact .inl hx
 ·split at hx
  ·exact .inl hx
  ·split at hx
   ·exact mem_or_eq_of_mem_set hx
   ·split at hx
    ·exact .inl hx
    ·rcases mem_append.1 hx with hx|hx
     ·exact .inl (mem_of_mem_take hx)
     ·rcases mem_cons.1 hx with hx|hx
      ·exact .inr hx
      ·exact .inl (mem_of_mem_drop hx)
theorem GQ {ps:List Pg} {a:Int} {x:Pg} (hx:x∈fG ps a):x∈ps:=by
 unfold fG at hx;split at hx
 ·exact mem_of_mem_eraseIdx hx
 ·exact hx
theorem I8 {o:Ob} (h:o.ok) {p:Pg} (h0:0≤p.au) (h1:p.au<o.su.length) (hd:p.data.length≤64) (sure:Bool):(nN o p sure).ok:=by
 have hn:=h.n2;unfold nN;split
 ·refine⟨by simpa using h.n1,by simpa using hn,fun b hb=> ?_,wA h.sort _,P1 h.le8 _,fun x hx=>by simpa using h.inr x (GQ hx),h.tN⟩;rcases mem_or_eq_of_mem_set hb with hb|rfl
  ·exact h.dl b hb
  ·exact hd
 ·split
  ·have hf:=n9 h;refine⟨hf.n1,hf.n2,hf.dl,GG oV p,KS (by simp) p,fun x hx=> ?_,h.tN⟩;rcases EF oV hx with hx|rfl
   ·cases hx
   ·show p.au<((dJ o.su o.ps).length:Int)
    rw[cR];exact h1
  ·refine⟨h.n1,hn,h.dl,GG h.sort p,KS h.le8 p,fun x hx=> ?_,h.tN⟩;rcases EF h.sort hx with hx|rfl
   ·exact h.inr x hx
   ·exact h1
theorem Ub {o:Ob} (ho:o.ok) (h:Int) (c:Cm) {bV:List UInt8} (hd:c.dn=bV.length):(ss o h c bV).1.ok:=by
 unfold ss;split
 ·exact ho
 ·rename_i hv;have hv:kD h c o.su.length=true:=by simpa using hv
  unfold kD at hv;simp only[Bool.and_eq_true,Bool.or_eq_true,Bool.not_eq_true',Bool.or_eq_false_iff,decide_eq_true_eq,decide_eq_false_iff_not] at hv;obtain⟨⟨⟨⟨v1,v2⟩,v3⟩,v4⟩,v5⟩:=hv;split
  ·exact ho
  ·split
   ·exact ho
   ·split
    ·rename_i k1;have:c.dn≤64:=by omega
     exact I8 ho (by simp only[];omega) (by simp only[];omega) (by simp only[];omega) _
    ·split
     ·exact I8 ho (by simp only[];omega) (by simp only[];omega) (by simp) _
     ·split
      ·exact n9 ho
      ·split
       ·exact ho
       ·exact⟨ho.n1,ho.n2,ho.dl,ho.sort,ho.le8,ho.inr,Qb ho.tN h c⟩
def vn (n:Nat):Ob:=⟨List.replicate n [],[],R.gk⟩
theorem WQ {n:Nat} (h1:1≤n) (h2:n≤65536):(vn n).ok:=
 ⟨by simpa [vn] using h1,by simpa [vn] using h2,fun b hb=>by have:=(mem_replicate.1 hb).2;simp [this],oV,by simp [vn],nofun,WM⟩
theorem aE {L L':List cw} (n:Nat) (hn:Nat.blt n L.length=true) (h:(eJ L n).Perm L'):L.Perm (eO L n::L'):=
 (rp (Nat.le_of_ble_eq_true hn)).trans (h.cons _)
theorem jT {H:ai} {q:Oq} {css:List (List V)} {n:Nat} (hr:Rd H q css.flatten) (hu:px n css) {i k:Nat} (hi:i<css.length) (hk:k<n):q.isSome=true∧H.inb (q.getD (0,0)).1 ((q.getD (0,0)).2+i*n+k) 1=true∧H.cell (q.getD (0,0)).1 ((q.getD (0,0)).2+i*n+k)=ae css[i] k:=by
 have hlen:css.flatten.length=css.length*n:=cG hu
 have hle:i*n+n≤css.length*n:=by
  have:=Nat.mul_le_mul_right n (show i+1≤css.length by omega);rw[Nat.add_mul] at this;omega
 have hne:css.flatten≠[]:=by
  intro e;rw[e] at hlen;simp at hlen;omega
 refine⟨hr.some hne, ?_, ?_⟩
 ·have:=hr.inb (i:=i*n+k) (k:=1) (by omega) hne;rwa [←Nat.add_assoc] at this
 ·have h1:=hr.cell (i:=i*n+k) (by omega);rw[←Nat.add_assoc] at h1;rw[h1];have rX:(css.flatten.drop (i*n)).take n=css[i]:=J1 hu hi;rw[ll,ll, ←rX];simp only[getD_eq_getElem?_getD,List.getElem?_take,List.getElem?_drop,if_pos hk]
structure Sr where
 q:Oq
 c:Nat
 bs:List UInt8
section
variable {B:ai} {L:List cw} {H:ai} {K:KP} {id yh:Nat} {o:Ob} {q:Oq} {c n:Nat} {rs:List Sr} {r:R} {ps:List Pg}
theorem oW {i:Nat} (h:i<1000000):IntKind.i64.wrap ((i:Int)+1)=((i+1:Nat):Int):=by rw[bf (by omega) (by omega)];omega
theorem Co {p:Pg} {ps:List Pg} (hs:ee (p::ps)):fG (p::ps) p.au=ps:=by
 rw[xq hs.up,filter_cons];simp only[decide_true,Bool.not_true,Bool.false_eq_true,if_false];rw[filter_eq_self];intro x hx;have:=(pairwise_cons.1 hs.up).1 x hx;have:¬x.au=p.au:=by omega
 simp [this]
theorem MD (h:aA B H L):aA B (H.alloc (.cells 91 [.slice none 0 0] false)) (eK H.next []::L):=by
 have h1:=h.alloc 91 [V.slice none 0 0];have h2:aA B (H.alloc (.cells 91 [.slice none 0 0] false)) (Rw 138 3 none 0 (([]:List Rp).map Rp.cs)::bB (([]:List Rp).map Rp.bV)::cP H.next 91 [V.slice none 0 0]::L):=h1.qk.rwNil _ _;have h3:=h2.up 2;simp only[eO,eJ] at h3;exact aA.rH (rs:=[]) h3
theorem GR (n:Nat) (z:List V):ef n z=(List.replicate n z).flatten:=by
 unfold ef
 induction n with
 |zero=>rfl
 |succ n ih=>rw[replicate_succ,flatten_cons, ←ih];rfl
theorem Qf (x:Int) (c:Cm) (n:Int):cl 77 [vi x,.agg c.cs,vi n] H K=K (.bool (decide (0≤x)&&(decide (x<8)&&(decide (c.kd≤9)&&((!(decide (c.kd=0)||(decide (c.kd=1)||decide (c.kd=2)))||decide (0≤c.kP)&&decide (c.kP<n))&&(!decide (c.kd=1)||decide ((c.dn:Int)≤64))))))) H:=by
 conv=>lhs;unfold Cm.cs
 rw[adb];(try simp only[NQ]);simp only[ge_iff_le];congr 2;generalize decide (0≤x)=b1;generalize decide (x<8)=b2;generalize decide (c.kd≤9)=b3;generalize decide (c.kd=0)=b4;generalize decide (c.kd=1)=b5;generalize decide (c.kd=2)=b6;generalize decide (0≤c.kP)=b7;generalize decide (c.kP<n)=b8;generalize decide ((c.dn:Int)≤64)=b9;cases b1<;>cases b2<;>cases b3<;>cases b4<;>cases b5<;>cases b6<;>cases b7<;>cases b8<;>cases b9<;>rfl
theorem Qg (x:Int) (c:Cm) (n:Nat):(decide (0≤x)&&(decide (x<8)&&(decide (c.kd≤9)&&((!(decide (c.kd=0)||(decide (c.kd=1)||decide (c.kd=2)))||decide (0≤c.kP)&&decide (c.kP<(n:Int)))&&(!decide (c.kd=1)||decide ((c.dn:Int)≤64))))))=kD x c n:=by
 unfold kD;have e:decide ((c.dn:Int)≤64)=decide (c.dn≤64):=by rw[decide_eq_decide];omega
 rw[e];simp only[Bool.and_assoc,Bool.or_assoc]
theorem GS (r:R) (x:Int) (c:Cm):cl 78 [.agg r.cs,vi x,.agg c.cs] H K=K (.bool (HA r x c)) H:=by
 conv=>lhs;unfold Cm.cs R.cs
 rw[ade];(try simp only[NQ]);simp only[R.rV,I3,AK,reduceIte];unfold HA;by_cases h0:c.kd=0
 ·simp [h0]
 ·by_cases h1:c.kd=1
  ·simp [h1]
  ·by_cases h2:c.kd=2
   ·simp [h2]
   ·by_cases h3:c.kd=3<;>simp [h0,h1,h2,h3]
end
def Rs.cs (s:Rs) (q:Oq) (n:Nat):List V:=DJ s.e q s.d.length n (s.r.k 0) (s.r.k 1) (s.r.k 2) (s.r.k 3) (s.r.k 4) (s.r.k 5) (s.r.k 6) (s.r.k 7) s.r.ty s.r.ho s.r.ge s.r.la
theorem Rs.aM (s:Rs) (q:Oq) (n:Nat):aM UM (s.cs q n)=true:=rfl
theorem Rs.open (s:Rs) (q:Oq) (n:Nat):o48 (s.cs q n)=s.cs q n:=rfl
theorem Rs.n0 (s:Rs) (q:Oq) (n:Nat):ae (s.cs q n) 0=vi s.e:=rfl
theorem Rs.n1 (s:Rs) (q:Oq) (n:Nat):ae (s.cs q n) 1=.slice q s.d.length n:=rfl
def wc (w:Int×List UInt8):List V:=Ii w.1 (cM w.2)
def st (bs:List UInt8):List V:=[.cL (cM bs)]
def pC (q:Oq) (n c:Nat) (q2:Oq) (n2 c2:Nat) (r:R):List V:=c59 q n c q2 n2 c2 (r.k 0) (r.k 1) (r.k 2) (r.k 3) (r.k 4) (r.k 5) (r.k 6) (r.k 7) r.ty r.ho r.ge r.la
theorem EG:fw cV 58=some (109,2,24,Ii 0 (cM [])):=by kernel_rfl
theorem EH:ir (bq cV 58)=true:=by kernel_rfl
theorem I9:bn (Ii 0 (cM [])):=gf (f108 0 (cM []))
theorem yg (w:Int×List UInt8):aM UN (wc w)=true:=rfl
theorem SI (w:Int×List UInt8):Yo (wc w)=wc w:=rfl
theorem wE (l:List (Int×List UInt8)):px 2 (l.map wc):=by
 intro c hc;obtain⟨r,_,rfl⟩:=mem_map.1 hc;exact⟨rfl,gf (yg r)⟩
theorem Al (l:List (List UInt8)):px 1 (l.map st):=by
 intro c hc;obtain⟨r,_,rfl⟩:=mem_map.1 hc;exact⟨rfl,fun v hv=>by rw[st,mem_singleton] at hv;subst hv;rfl⟩
def oa (id:Nat) (su:List (List UInt8)) (l:List (Int×List UInt8)) (r:R):cw:=
 E2 fun q=>E2 fun c=>E2 fun q2=>E2 fun c2=>jo (cP id 60 (pC q su.length c q2 l.length c2 r)) (jo (Rw 9 1 q c (su.map st)) (Rw 109 2 q2 c2 (l.map wc)))
section
variable {B:ai} {L:List cw} {H:ai} {K:KP} {id:Nat} {su:List (List UInt8)} {l:List (Int×List UInt8)} {r:R} {q q2:Oq} {c c2 n n2:Nat}
theorem aA.Qh (h:aA B H (oa id su l r::L)):∃q c q2 c2,aA B H (cP id 60 (pC q su.length c q2 l.length c2 r)::Rw 9 1 q c (su.map st)::Rw 109 2 q2 c2 (l.map wc)::L):=by
 obtain⟨q,h⟩:=h.Iq;obtain⟨c,h⟩:=h.Iq;obtain⟨q2,h⟩:=h.Iq;obtain⟨c2,h⟩:=h.Iq;exact⟨q,c,q2,c2,(h.jo.swap.jo).lT (by repeat (first|exact List.Perm.refl _|refine aE 0 rfl ?_|refine aE 1 rfl ?_|refine aE 2 rfl ?_|refine aE 3 rfl ?_|refine aE 4 rfl ?_|refine aE 5 rfl ?_|refine aE 6 rfl ?_|refine aE 7 rfl ?_|refine aE 8 rfl ?_|refine aE 9 rfl ?_))⟩
theorem aA.vo (h:aA B H (cP id 60 (pC q su.length c q2 l.length c2 r)::Rw 9 1 q c (su.map st)::Rw 109 2 q2 c2 (l.map wc)::L)):aA B H (oa id su l r::L):=by
 have h1:aA B H (Rw 9 1 q c (su.map st)::Rw 109 2 q2 c2 (l.map wc)::cP id 60 (pC q su.length c q2 l.length c2 r)::L):=h.lT (by repeat (first|exact List.Perm.refl _|refine aE 0 rfl ?_|refine aE 1 rfl ?_|refine aE 2 rfl ?_|refine aE 3 rfl ?_|refine aE 4 rfl ?_|refine aE 5 rfl ?_|refine aE 6 rfl ?_|refine aE 7 rfl ?_|refine aE 8 rfl ?_|refine aE 9 rfl ?_));exact aA.intro (aA.intro (aA.intro (aA.intro h1.oM.swap.oM)))
theorem bW (hg:H.get id=some (.cells 60 (pC q n c q2 n2 c2 r) false)):H.inb id 0 1=true∧H.cell id 0=.slice q n c∧H.inb id 1 1=true∧H.cell id 1=.slice q2 n2 c2∧H.inb id 2 12=true∧H.sub id 2 12=r.cs∧H.wr id 1 1=true∧H.wr id 2 12=true:=by
 refine⟨?_, ?_, ?_, ?_, ?_, ?_, ?_, ?_⟩
 ·rw[dN hg];rfl
 ·rw[ba hg];rfl
 ·rw[dN hg];rfl
 ·rw[ba hg];rfl
 ·rw[dN hg];rfl
 ·rw[k5 hg];rfl
 ·rw[fE hg];rfl
 ·rw[fE hg];rfl
theorem mc (hr:Rd H q (l.map wc).flatten) {i:Nat} (hi:i<l.length):q.isSome=true∧H.inb (q.getD (0,0)).1 ((q.getD (0,0)).2+i*2) 1=true∧H.cell (q.getD (0,0)).1 ((q.getD (0,0)).2+i*2)=vi l[i].1∧H.inb (q.getD (0,0)).1 ((q.getD (0,0)).2+i*2+1) 1=true∧H.cell (q.getD (0,0)).1 ((q.getD (0,0)).2+i*2+1)=.cL (cM l[i].2)∧H.inb (q.getD (0,0)).1 ((q.getD (0,0)).2+i*2) 2=true∧H.sub (q.getD (0,0)).1 ((q.getD (0,0)).2+i*2) 2=wc l[i]:=by
 obtain⟨a,b,c⟩:=jT hr (wE l) (i:=i) (k:=0) (by simpa using hi) (by omega);obtain⟨_,d,e⟩:=jT hr (wE l) (i:=i) (k:=1) (by simpa using hi) (by omega);obtain⟨_,f,g⟩:=xj hr (wE l) (by omega) (i:=i) (by simpa using hi);rw[Nat.add_zero] at b c;rw[getElem_map] at c e g;exact⟨a,b,c,d,e,f,g⟩
theorem An (hr:Rd H q (su.map st).flatten) {i:Nat} (hi:i<su.length):q.isSome=true∧H.inb (q.getD (0,0)).1 ((q.getD (0,0)).2+i*1) 1=true∧H.cell (q.getD (0,0)).1 ((q.getD (0,0)).2+i*1)=.cL (cM su[i]):=by
 obtain⟨a,b,c⟩:=jT hr (Al su) (i:=i) (k:=0) (by simpa using hi) (by omega);rw[Nat.add_zero] at b c;rw[getElem_map] at c;exact⟨a,b,c⟩
theorem SJ {i:Nat} (hi:i<su.length):su.getD i []=su[i]:=by
 rw[getD_eq_getElem?_getD,List.getElem?_eq_getElem hi];rfl
theorem K3 {a:Int} (h0:0≤a) (ha:a<su.length) (hl:l.length≤1000) (h:aA B H (cP id 60 (pC q su.length c q2 l.length c2 r)::Rw 9 1 q c (su.map st)::Rw 109 2 q2 c2 (l.map wc)::L)) {Kr:PS} {Ke:NS}:∀(m i:Nat),i+m=l.length→(∀bs,Bm (l.drop i) a=some bs→Kr (St.mk (ab [(4,T.v (V.cL (cM bs)))]) (ab []) H))→(Bm (l.drop i) a=none→Ke 0 (St.mk (ab [(0,tp (some (id,0))),(1,ti a)]) (ab []) H))→lo 48 2 (St.mk (ab [(0,tp (some (id,0))),(1,ti a),(5,ti (i:Int))]) (ab []) H) Kr Ke
 |0,i,hi,kr,ke=>by
  obtain⟨f1,f2,f3,f4,_⟩:=bW h.get;rw[OA];(try simp only[NQ]);have e1:¬(i:Int)<(l.length:Int):=by omega
  have e2:l.drop i=[]:=drop_of_length_le (by omega);rw[e2] at ke;simp only[isSome_some,getD_some,az,Nat.zero_add,f3,f4,bL,aQ,Bool.and_self,e1,decide_false,ah];exact ke rfl
 |m+1,i,hi,kr,ke=>by
  have hlt:i<l.length:=by omega
  obtain⟨f1,f2,f3,f4,_⟩:=bW h.get;have h2:=h.up 2;simp only[eO,eJ] at h2;obtain⟨g1,g2,g3,g4,g5,_⟩:=mc h2.kM hlt;have e1:(i:Int)<(l.length:Int):=by omega
  have e2:0≤(i:Int):=by omega
  have Tl:l.drop i=l[i]::l.drop (i+1):=drop_eq_getElem_cons hlt;rw[OA];(try simp only[NQ]);simp only[isSome_some,getD_some,az,Nat.zero_add,f3,f4,bL,aQ,bA,Bool.and_self,e1,e2,decide_true,ao,g1,g2,g3,g4,g5,Int.toNat_natCast,dh,mJ,bh,gL];rw[Tl] at kr ke;by_cases he:l[i].1=a
  ·simp only[he,decide_true,ao];exact kr _ (by unfold Bm;rw[List.find?_cons];simp [he])
  ·simp only[he,decide_false,ah];rw[oW (by omega)];have hg:Bm (l[i]::l.drop (i+1)) a=Bm (l.drop (i+1)) a:=by unfold Bm;rw[List.find?_cons];simp [he]
   rw[hg] at kr ke;exact K3 h0 ha hl h m (i+1) (by omega) kr ke
theorem SK (h:aA B H (oa id su l r::L)) (hl:l.length≤1000) {a:Int} (h0:0≤a) (ha:a<su.length):∀{K:KP},K (.cL (cM ((Bm l a).getD (su.getD a.toNat [])))) H→cl 48 [.ay (some (id,0)),vi a] H K:=by
 intro K k;obtain⟨q,c,q2,c2,h1⟩:=aA.Qh h;obtain⟨f1,f2,f3,f4,_⟩:=bW h1.get;rw[adA];(try simp only[NQ]);refine K3 h0 ha hl h1 l.length 0 (by omega) (fun bs hb=> ?_) (fun hn=> ?_)
 ·rw[drop_zero] at hb;rw[hb] at k;simp only[AM,reduceIte];exact k
 ·rw[drop_zero] at hn;rw[hn] at k;have h2:=h1.up 1;simp only[eO,eJ] at h2;obtain⟨g1,g2,g3⟩:=An h2.kM (show a.toNat<su.length by omega);simp only[AM,reduceIte,Nat.reduceEqDiff,isSome_some,f1,f2,h0,ha,g1,g2,g3];have e:su.getD a.toNat []=su[a.toNat]'(by omega):=SJ (by omega);simp only[getD_none,e] at k;exact k
def jq (a:Int) (l:List (Int×List UInt8)):List (Int×List UInt8):=l.filter fun w=> !decide (w.1=a)
theorem Ao {a:Int} (hl:l.length≤1000) {Kr:PS} {Ke:NS}:∀(m i:Nat) {acc:List (Int×List UInt8)} {q4:Oq} {c4:Nat} {H:ai},i+m=l.length→acc.length≤i→aA B H (Rw 109 2 q4 c4 (acc.map wc)::cP id 60 (pC q n c q2 l.length c2 r)::Rw 109 2 q2 c2 (l.map wc)::L)→(∀q' c' H',aA B H' (Rw 109 2 q' c' ((acc++jq a (l.drop i)).map wc)::cP id 60 (pC q n c q2 l.length c2 r)::Rw 109 2 q2 c2 (l.map wc)::L)→Ke 0 (St.mk (ab [(0,tp (some (id,0))),(4,ts q' (acc++jq a (l.drop i)).length c')]) (ab []) H'))→lo 55 2 (St.mk (ab [(0,tp (some (id,0))),(1,ti a),(4,ts q4 acc.length c4),(5,ti (i:Int))]) (ab []) H) Kr Ke
 |0,i,acc,q4,c4,H,hi,hac,h,k=>by
  have hb:=h.up 1;simp only[eO,eJ] at hb;obtain⟨f1,f2,f3,f4,_⟩:=bW hb.get;rw[OC];(try simp only[NQ]);have e1:¬(i:Int)<(l.length:Int):=by omega
  have e2:l.drop i=[]:=drop_of_length_le (by omega);rw[e2] at k;simp only[isSome_some,getD_some,az,Nat.zero_add,f3,f4,bL,aQ,Bool.and_self,e1,decide_false,ah];have:=k q4 c4 H;simp only[jq,filter_nil,append_nil] at this;exact this h
 |m+1,i,acc,q4,c4,H,hi,hac,h,k=>by
  have hlt:i<l.length:=by omega
  have hb:=h.up 1;simp only[eO,eJ] at hb;obtain⟨f1,f2,f3,f4,_⟩:=bW hb.get;have h2:=h.up 2;simp only[eO,eJ] at h2;obtain⟨g1,g2,g3,g4,g5,g6,g7⟩:=mc h2.kM hlt;have e1:(i:Int)<(l.length:Int):=by omega
  have e2:0≤(i:Int):=by omega
  have Tl:l.drop i=l[i]::l.drop (i+1):=drop_eq_getElem_cons hlt;rw[OC];(try simp only[NQ]);simp only[isSome_some,getD_some,az,Nat.zero_add,f3,f4,bL,aQ,bA,Bool.and_self,e1,e2,decide_true,ao,g1,g2,g3,g6,g7,Int.toNat_natCast,dh,bh,yg,SI];rw[Tl] at k;rw[oW (by omega)];by_cases he:l[i].1=a
  ·simp only[he,decide_true,Bool.not_true,ah];have hg:jq a (l[i]::l.drop (i+1))=jq a (l.drop (i+1)):=by unfold jq;rw[filter_cons];simp [he]
   rw[hg] at k;exact Ao hl m (i+1) (by omega) (by omega) h k
  ·simp only[he,decide_false,Bool.not_false,ao];have hg:acc++jq a (l[i]::l.drop (i+1))=(acc++[l[i]])++jq a (l.drop (i+1)):=by unfold jq;rw[filter_cons];simp [he]
   rw[hg] at k;have hp:=fun K=>h.vY (t:=58) (u:=58) (K:=K) EG EH I9 rfl (by omega) (wE acc) (e2:=109) (c:=wc l[i]) rfl (gf (yg _)) (by simp;omega)
   rw[length_map] at hp;refine hp _ (fun q6 c6 H6 h6=> ?_);have e3:(acc++[l[i]]).map wc=acc.map wc++[wc l[i]]:=by simp
   rw[←e3] at h6;have e4:acc.length+1=(acc++[l[i]]).length:=by simp
   rw[e4];exact Ao hl m (i+1) (by omega) (by simp;omega) h6 k
theorem GU (h:aA B H (oa id su l r::L)) (hl:l.length≤1000) (a:Int) (k:∀H',aA B H' (oa id su (jq a l) r::L)→K (.tuple []) H'):cl 55 [.ay (some (id,0)),vi a] H K:=by
 obtain⟨q,c,q2,c2,h1⟩:=aA.Qh h;rw[adC];(try simp only[NQ]);have h2:=h1.rwNil 109 2;have h3:aA B H (Rw 109 2 none 0 (([]:List (Int×List UInt8)).map wc)::cP id 60 (pC q su.length c q2 l.length c2 r)::Rw 109 2 q2 c2 (l.map wc)::Rw 9 1 q c (su.map st)::L):=h2.lT (by repeat (first|exact List.Perm.refl _|refine aE 0 rfl ?_|refine aE 1 rfl ?_|refine aE 2 rfl ?_|refine aE 3 rfl ?_|refine aE 4 rfl ?_|refine aE 5 rfl ?_|refine aE 6 rfl ?_|refine aE 7 rfl ?_|refine aE 8 rfl ?_|refine aE 9 rfl ?_));refine Ao (acc:=[]) hl l.length 0 (by omega) (by simp) h3 (fun q' c' H' h'=> ?_);rw[nil_append,drop_zero] at h'⊢;have h4:=h'.up 1;simp only[eO,eJ] at h4;obtain⟨f1,f2,f3,f4,f5,f6,f7,f8⟩:=bW h4.get;simp only[AM,reduceIte,Nat.reduceEqDiff,isSome_some,f7];have h5:=h4.store (off:=1) (vs:=[V.slice q' (jq a l).length c']);have e:bH (pC q su.length c q2 l.length c2 r) 1 [V.slice q' (jq a l).length c']=pC q su.length c q' (jq a l).length c' r:=rfl;rw[e] at h5;have h6:aA B _ (Rw 109 2 q2 c2 (l.map wc)::cP id 60 (pC q su.length c q' (jq a l).length c' r)::Rw 9 1 q c (su.map st)::Rw 109 2 q' c' ((jq a l).map wc)::L):=h5.lT (by repeat (first|exact List.Perm.refl _|refine aE 0 rfl ?_|refine aE 1 rfl ?_|refine aE 2 rfl ?_|refine aE 3 rfl ?_|refine aE 4 rfl ?_|refine aE 5 rfl ?_|refine aE 6 rfl ?_|refine aE 7 rfl ?_|refine aE 8 rfl ?_|refine aE 9 rfl ?_));exact k _ (aA.vo h6.drop)
end
theorem Ap {ps:List Pg} (hs:ee ps) (a:Int):jq a (ps.map wt)=(fG ps a).map wt:=by
 rw[xq hs.up];unfold jq;rw[List.filter_map];rfl
theorem wF {l l':List (Int×List UInt8)} (h:l.Perm l') (a:Int):(jq a l).Perm (jq a l'):=h.filter _
theorem Qi (bs:List UInt8):bn (st bs):=fun v hv=>by rw[st,mem_singleton] at hv;subst hv;rfl
section
variable {B:ai} {L:List cw} {H:ai} {K:KP} {id:Nat} {su:List (List UInt8)} {l:List (Int×List UInt8)} {r:R} {q q2:Oq} {c c2 n n2:Nat}
theorem wG (hl:l.length≤1000) (h:aA B H (cP id 60 (pC q su.length c q2 l.length c2 r)::Rw 9 1 q c (su.map st)::Rw 109 2 q2 c2 (l.map wc)::L)) {Kr:PS} {Ke:NS}:∀(m i cx:Nat) (rX:cx<l.length),i+m=l.length→(∀j (hj:j<l.length),j<i→l[cx].1≤l[j].1)→(∀(cx:Nat) (rX:cx<l.length),(∀j (hj:j<l.length),l[cx].1≤l[j].1)→Ke 0 (St.mk (ab [(0,tp (some (id,0))),(2,ti (cx:Int))]) (ab []) H))→lo 30 2 (St.mk (ab [(0,tp (some (id,0))),(2,ti (cx:Int)),(3,ti (i:Int))]) (ab []) H) Kr Ke
 |0,i,cx,rX,hi,hm,k=>by
  obtain⟨f1,f2,f3,f4,_⟩:=bW h.get;rw[Oz];(try simp only[NQ]);have e1:¬(i:Int)<(l.length:Int):=by omega
  simp only[isSome_some,getD_some,az,Nat.zero_add,f3,f4,bL,aQ,Bool.and_self,e1,decide_false,ah];exact k cx rX (fun j hj=>hm j hj (by omega))
 |m+1,i,cx,rX,hi,hm,k=>by
  have hlt:i<l.length:=by omega
  obtain⟨f1,f2,f3,f4,_⟩:=bW h.get;have h2:=h.up 2;simp only[eO,eJ] at h2;obtain⟨g1,g2,g3,_⟩:=mc h2.kM hlt;obtain⟨i1,i2,i3,_⟩:=mc h2.kM rX;have e1:(i:Int)<(l.length:Int):=by omega
  have e2:0≤(i:Int):=by omega
  have e3:(cx:Int)<(l.length:Int):=by omega
  have e4:0≤(cx:Int):=by omega
  rw[Oz];(try simp only[NQ]);simp only[isSome_some,getD_some,az,Nat.zero_add,f3,f4,bL,aQ,bA,Bool.and_self,e1,e2,e3,e4,decide_true,ao,g1,g2,g3,i2,i3,Int.toNat_natCast,dh,bh];rw[oW (by omega)];by_cases hc:l[i].1<l[cx].1
  ·simp only[hc,decide_true,ao];refine wG hl h m (i+1) i hlt (by omega) (fun j hj hji=> ?_) k;by_cases hj':j=i
   ·subst hj';exact Int.le_refl _
   ·have:=hm j hj (by omega);omega
  ·simp only[hc,decide_false,ah];refine wG hl h m (i+1) cx rX (by omega) (fun j hj hji=> ?_) k;by_cases hj':j=i
   ·subst hj';omega
   ·exact hm j hj (by omega)
theorem Cp (h:aA B H (oa id su l r::L)) {p:Pg} {ps:List Pg} (hp:l.Perm ((p::ps).map wt)) (hs:ee (p::ps)) (hl:(p::ps).length≤8) (hin:p.au<su.length) (k:∀l' H',l'.Perm (ps.map wt)→aA B H' (oa id (su.set p.au.toNat p.data) l' r::L)→K (.tuple []) H'):cl 30 [.ay (some (id,0))] H K:=by
 obtain⟨q,c,q2,c2,h1⟩:=aA.Qh h;have hll:l.length=(p::ps).length:=by rw[hp.length_eq,length_map]
 have hlo:=hs.lo p (mem_cons_self ..);rw[adw];(try simp only[NQ]);refine wG (by omega) h1 l.length 0 0 (by rw[hll];simp) (by omega) (fun j hj h0=>by omega) (fun cx rX hm=> ?_)
 have hw:l[cx]=wt p:=by
  obtain⟨x,hx,he⟩:=mem_map.1 (hp.mem_iff.1 (getElem_mem rX));have hpm:wt p∈l:=hp.mem_iff.2 (mem_map.2 ⟨p,mem_cons_self ..,rfl⟩);obtain⟨j,hj,hje⟩:=getElem_of_mem hpm;have h2:=hm j hj;rw[hje, ←he] at h2;have h2:x.au≤p.au:=h2;rcases mem_cons.1 hx with rfl|hx
  ·exact he.symm
  ·have:=(pairwise_cons.1 hs.up).1 x hx;omega
 obtain⟨f1,f2,f3,f4,f5,f6,f7,f8⟩:=bW h1.get;have h2:=h1.up 2;simp only[eO,eJ] at h2;obtain⟨g1,g2,g3,g4,g5,_⟩:=mc h2.kM rX;have e1:(cx:Int)<(l.length:Int):=by omega
 have e2:0≤(cx:Int):=by omega
 have w1:l[cx].1=p.au:=by rw[hw];rfl
 have w2:l[cx].2=p.data:=by rw[hw];rfl
 rw[w1] at g3;rw[w2] at g5;have h3:=h1.up 1;simp only[eO,eJ] at h3;have hai:p.au.toNat<su.length:=by omega
 obtain⟨s1,s2⟩:=h3.J2 (Al su) (i:=p.au.toNat) (by simpa using hai) (c:=st p.data) rfl (Qi _);have X8:q.isSome=true:=(An h3.kM hai).1;obtain⟨H1,hH1⟩:∃H1,H.store (q.getD (0,0)).1 ((q.getD (0,0)).2+p.au.toNat*1) [V.cL (cM p.data)]=H1:=⟨_,rfl⟩;have es:st p.data=[V.cL (cM p.data)]:=rfl;rw[es,hH1, ←es] at s2;have h4:=s2.up 1;simp only[eO,eJ] at h4;obtain⟨j1,j2,j3,j4,_⟩:=bW h4.get;have h5:=s2.up 2;simp only[eO,eJ] at h5;obtain⟨i1,i2,i3,_⟩:=mc h5.kM rX;rw[w1] at i3;simp only[AM,reduceIte,Nat.reduceEqDiff,isSome_some,f1,f2,f3,f4,e1,e2,g1,g2,g3,g4,g5,Int.toNat_natCast,hlo.1,hin,X8,s1,hH1,j3,j4,i2,i3]
 have h6:aA B H1 (oa id (su.set p.au.toNat p.data) l r::L):=by
  refine aA.vo (q:=q) (c:=c) (q2:=q2) (c2:=c2) ?_;rw[length_set,map_set];exact s2.lT (by repeat (first|exact List.Perm.refl _|refine aE 0 rfl ?_|refine aE 1 rfl ?_|refine aE 2 rfl ?_|refine aE 3 rfl ?_|refine aE 4 rfl ?_|refine aE 5 rfl ?_|refine aE 6 rfl ?_|refine aE 7 rfl ?_|refine aE 8 rfl ?_|refine aE 9 rfl ?_))
 refine GU h6 (by omega) p.au (fun H7 h7=> ?_);refine k _ H7 ?_ h7;refine(wF hp _).trans ?_;rw[Ap hs,Co hs]
theorem Aq {Kr:PS} {Ke:NS}:∀(ps:List Pg) {l:List (Int×List UInt8)} {su:List (List UInt8)} {H:ai},l.Perm (ps.map wt)→ee ps→ps.length≤8→(∀p∈ps,p.au<su.length)→aA B H (oa id su l r::L)→(∀H',aA B H' (oa id (dJ su ps) [] r::L)→Ke 0 (St.mk (ab []) (ab []) H'))→lo 26 0 (St.mk (ab [(0,tp (some (id,0)))]) (ab []) H) Kr Ke
 |[],l,su,H,hp,hs,hl,hin,h,k=>by
  obtain rfl:l=[]:=perm_nil.1 hp;obtain⟨q,c,q2,c2,h1⟩:=aA.Qh h;obtain⟨f1,f2,f3,f4,_⟩:=bW h1.get;rw[Oy];(try simp only[NQ]);simp only[isSome_some,getD_some,az,Nat.zero_add,f3,f4,bL,aQ,Bool.and_self,length_nil];exact k H h
 |p::ps,l,su,H,hp,hs,hl,hin,h,k=>by
  obtain⟨q,c,q2,c2,h1⟩:=aA.Qh h;obtain⟨f1,f2,f3,f4,_⟩:=bW h1.get;have hll:l.length=(p::ps).length:=by rw[hp.length_eq,length_map]
  have e1:(l.length:Int)>0:=by rw[hll];simp
  rw[Oy];(try simp only[NQ]);simp only[isSome_some,getD_some,az,Nat.zero_add,f3,f4,bL,aQ,Bool.and_self,e1,decide_true,ao];refine Cp h hp hs hl (hin p (mem_cons_self ..)) (fun l' H' AA h'=> ?_);refine Aq ps AA (Cn hs) (by simp at hl;omega) (fun x hx=>by rw[length_set];exact hin x (mem_cons_of_mem _ hx)) h' k
theorem As (h:aA B H (oa id su l r::L)) {ps:List Pg} (hp:l.Perm (ps.map wt)) (hs:ee ps) (hl:ps.length≤8) (hin:∀p∈ps,p.au<su.length) (k:∀H',aA B H' (oa id (dJ su ps) [] r::L)→K (.tuple []) H'):cl 26 [.ay (some (id,0))] H K:=by
 rw[adu];(try simp only[NQ]);refine Aq ps hp hs hl hin h (fun H' h'=> ?_);have e0:Nat.beq 0 0=true:=rfl;rw[e0,ao];exact k H' h'
def qG (l:List (Int×List UInt8)) (a:Int):Bool:=l.any fun w=>decide (w.1=a)
theorem Ja {l:List (Int×List UInt8)} {ps:List Pg} (hp:l.Perm (ps.map wt)) (a:Int):qG l a=fO ps a:=by
 unfold qG fO
 have h1:l.any (fun w=>decide (w.1=a))=(ps.map wt).any (fun w=>decide (w.1=a)):=by
  rw[Bool.eq_iff_iff,List.any_eq_true,List.any_eq_true];constructor
  ·rintro⟨x,hx,he⟩;exact⟨x,hp.mem_iff.1 hx,he⟩
  ·rintro⟨x,hx,he⟩;exact⟨x,hp.mem_iff.2 hx,he⟩
 rw[h1,List.any_map];rfl
theorem K4 {a:Int} {s:ByteArray} {sure:Bool} (hl:l.length≤1000) (h:aA B H (cP id 60 (pC q su.length c q2 l.length c2 r)::Rw 9 1 q c (su.map st)::Rw 109 2 q2 c2 (l.map wc)::L)) {Kr:PS} {Ke:NS} (k:Ke 0 (St.mk (ab [(0,tp (some (id,0))),(1,ti a),(2,T.v (V.cL s)),(3,tb sure),(8,tb (qG l a))]) (ab []) H)):∀(m i:Nat),i+m=l.length→lo 49 2 (St.mk (ab [(0,tp (some (id,0))),(1,ti a),(2,T.v (V.cL s)),(3,tb sure),(8,tb (qG (l.take i) a)),(9,ti (i:Int))]) (ab []) H) Kr Ke
 |0,i,hi=>by
  obtain⟨f1,f2,f3,f4,_⟩:=bW h.get;rw[OB];(try simp only[NQ]);have e1:¬(i:Int)<(l.length:Int):=by omega
  simp only[isSome_some,getD_some,az,Nat.zero_add,f3,f4,bL,aQ,Bool.and_self,e1,decide_false,ah];rw[take_of_length_le (by omega)];exact k
 |m+1,i,hi=>by
  have hlt:i<l.length:=by omega
  obtain⟨f1,f2,f3,f4,_⟩:=bW h.get;have h2:=h.up 2;simp only[eO,eJ] at h2;obtain⟨g1,g2,g3,_⟩:=mc h2.kM hlt;have e1:(i:Int)<(l.length:Int):=by omega
  have e2:0≤(i:Int):=by omega
  have hth:qG (l.take (i+1)) a=(qG (l.take i) a||decide (l[i].1=a)):=by
   unfold qG;rw[take_succ_eq_append_getElem hlt,any_append];simp
  have ih:=K4 (a:=a) (s:=s) (sure:=sure) hl h (Kr:=Kr) (Ke:=Ke) k m (i+1) (by omega);rw[hth] at ih;rw[OB];(try simp only[NQ]);simp only[isSome_some,getD_some,az,Nat.zero_add,f3,f4,bL,aQ,bA,Bool.and_self,e1,e2,decide_true,ao,g1,g2,g3,Int.toNat_natCast,dh,bh,aP,ite_self];rw[oW (by omega)];cases hb:qG (l.take i) a<;>rw[hb] at ih
  ·exact ih
  ·exact ih
end
def cN (id:Nat) (o:Ob):cw:=E2 fun l=>jo (DN (l.Perm (o.ps.map wt))) (oa id o.su l o.r)
theorem SL {o:Ob} (ho:o.ok) {l:List (Int×List UInt8)} (hp:l.Perm (o.ps.map wt)) {a:Int} (h0:0≤a) (ha:a<o.su.length):(Bm l a).getD (o.su.getD a.toNat [])=kz o a:=by
 unfold kz;rw[if_pos ⟨h0,ha⟩,MB hp ho.sort]
section
variable {B:ai} {L:List cw} {H:ai} {K:KP} {id:Nat} {o:Ob} {r:R} {q q2:Oq} {c c2 n n2:Nat}
theorem aA.GV (h:aA B H (cN id o::L)):∃l,l.Perm (o.ps.map wt)∧aA B H (oa id o.su l o.r::L):=by
 obtain⟨l,h⟩:=h.Iq;obtain⟨h1,h⟩:=h.jo.DN;exact⟨l,h1,h⟩
theorem aA.ng {l:List (Int×List UInt8)} (h:aA B H (oa id o.su l o.r::L)) (hp:l.Perm (o.ps.map wt)):aA B H (cN id o::L):=aA.intro (h.pure hp).oM
theorem vp {l:List (Int×List UInt8)} (hp:l.Perm (o.ps.map wt)):l.length=o.ps.length:=by rw[hp.length_eq,length_map]
theorem K5 (h:aA B H (cN id o::L)) (ho:o.ok) {a:Int} (h0:0≤a) (ha:a<o.su.length) {K:KP} (k:K (.cL (cM (kz o a))) H):cl 48 [.ay (some (id,0)),vi a] H K:=by
 obtain⟨l,hp,h1⟩:=aA.GV h;have hl8:=ho.le8;refine SK h1 (by rw[vp hp];omega) h0 ha ?_;rw[SL ho hp h0 ha];exact k
theorem At (h:aA B H (cN id o::L)) (ho:o.ok) (k:∀H',aA B H' (cN id (gR o)::L)→K (.tuple []) H'):cl 26 [.ay (some (id,0))] H K:=by
 obtain⟨l,hp,h1⟩:=aA.GV h;exact As h1 hp ho.sort ho.le8 ho.inr (fun H' h'=>k H' (aA.ng (o:=gR o) h' (List.Perm.refl _)))
theorem K6 (h:aA B H (cN id o::L)) (ho:o.ok) (p:Pg) (hpp:p.put.data=p.data) (h0:0≤p.au) (h1:p.au<o.su.length) (hd:p.data.length≤64) (sure:Bool) (k:∀H',aA B H' (cN id (nN o p sure)::L)→K (.tuple []) H'):cl 49 [.ay (some (id,0)),vi p.au,.cL (cM p.data),.bool sure] H K:=by
 obtain⟨l,hp,g1⟩:=aA.GV h;obtain⟨q,c,q2,c2,g2⟩:=aA.Qh g1;have hl8:=ho.le8;have hn2:=ho.n2;have hll:=vp hp;obtain⟨f1,f2,f3,f4,_⟩:=bW g2.get;rw[adB];(try simp only[NQ]);refine K4 (by omega) g2 ?_ l.length 0 (by omega);rw[Ja hp];simp only[AK,reduceIte,Nat.reduceEqDiff,isSome_some,f3,f4,aP,ite_self];have hres:=EE ho.le8 h0 (by omega) hd
 have tail:∀{o1:Ob} {l1:List (Int×List UInt8)} {H1:ai},o1.su.length=o.su.length→l1.length≤8→aA B H1 (oa id o1.su l1 o.r::L)→∀{K:KP},
  (sure=true→∀H',aA B H' (oa id (o1.su.set p.au.toNat p.data) (jq p.au l1) o.r::L)→K (.tuple []) H')→
  (sure=false→∀H',aA B H' (oa id o1.su (jq p.au l1++[(p.au,p.data)]) o.r::L)→K (.tuple []) H')→
  cl 55 [.ay (some (id,0)),vi p.au] H1 fun v H'=>
   br sure
    (af (H'.inb id 0 1&&V.ax cA.slice (H'.cell id 0))
     (af (decide (0≤p.au)&&decide (p.au<((H'.cell id 0).an:Int))&&(H'.cell id 0).aj.isSome)
      (af (H'.wr ((H'.cell id 0).aj.getD (0,0)).1 (((H'.cell id 0).aj.getD (0,0)).2+p.au.toNat*1) 1)
       (K (V.tuple []) (H'.store ((H'.cell id 0).aj.getD (0,0)).1 (((H'.cell id 0).aj.getD (0,0)).2+p.au.toNat*1) [V.cL (cM p.data)])))))
    (af (H'.inb id 1 1&&V.ax cA.slice (H'.cell id 1))
     (aD cV [58,58] [V.slice (H'.cell id 1).aj (H'.cell id 1).an (H'.cell id 1).aC,V.slice (some (H'.next,0)) 1 1]
      (H'.alloc (Am.Obj.cells 109 (Ii p.au (cM p.data)) false)) fun q n c H'=>
      af (H'.wr id 1 1) (K (V.tuple []) (H'.store id 1 [V.slice q n c])))):=by
  intro o1 l1 H1 EU Uy s1 K kt kf;refine GU s1 (by omega) p.au (fun H2 s2=> ?_);obtain⟨qa,ca,qb,cb,s3⟩:=aA.Qh s2;obtain⟨j1,j2,j3,j4,j5,j6,j7,j8⟩:=bW s3.get;have QK:(jq p.au l1).length≤l1.length:=length_filter_le _ _;cases sure
  ·rw[ah];simp only[j3,j4,bL,bA,aQ,cE,Bool.and_self,az];have s4:=s3.up 2;simp only[eO,eJ] at s4;have Ry:=fun K=>s4.vY (t:=58) (u:=58) (K:=K) EG EH I9 rfl (by omega) (wE _) (e2:=109) (c:=wc (p.au,p.data)) rfl (gf (yg _)) (by simp;omega)
   rw[length_map] at Ry;refine Ry _ (fun q6 c6 H6 s6=> ?_);have s7:=s6.up 1;simp only[eO,eJ] at s7;obtain⟨_,_,_,_,_,_,i7,_⟩:=bW s7.get;simp only[i7,az];have s8:=s7.store (off:=1) (vs:=[V.slice q6 ((jq p.au l1).length+1) c6])
   have e:bH (pC qa o1.su.length ca qb (jq p.au l1).length cb o.r) 1 [V.slice q6 ((jq p.au l1).length+1) c6]=pC qa o1.su.length ca q6 (jq p.au l1++[(p.au,p.data)]).length c6 o.r:=by
    rw[length_append];rfl
   rw[e] at s8;have e2:(jq p.au l1).map wc++[wc (p.au,p.data)]=(jq p.au l1++[(p.au,p.data)]).map wc:=by simp
   rw[e2] at s8;exact kf rfl _ (aA.vo (s8.lT (by repeat (first|exact List.Perm.refl _|refine aE 0 rfl ?_|refine aE 1 rfl ?_|refine aE 2 rfl ?_|refine aE 3 rfl ?_|refine aE 4 rfl ?_|refine aE 5 rfl ?_|refine aE 6 rfl ?_|refine aE 7 rfl ?_|refine aE 8 rfl ?_|refine aE 9 rfl ?_))))
  ·rw[ao];have s4:=s3.up 1;simp only[eO,eJ] at s4;have hai:p.au.toNat<o1.su.length:=by omega
   obtain⟨w1,w2⟩:=s4.J2 (Al o1.su) (i:=p.au.toNat) (by simpa using hai) (c:=st p.data) rfl (Qi _);have X8:qa.isSome=true:=(An s4.kM hai).1;have e3:p.au<(o1.su.length:Int):=by omega
   simp only[j1,j2,bL,bA,aQ,Bool.and_self,az,h0,e3,X8,decide_true,w1];refine kt rfl _ (aA.vo (q:=qa) (c:=ca) (q2:=qb) (c2:=cb) ?_);rw[length_set,map_set];exact w2.lT (by repeat (first|exact List.Perm.refl _|refine aE 0 rfl ?_|refine aE 1 rfl ?_|refine aE 2 rfl ?_|refine aE 3 rfl ?_|refine aE 4 rfl ?_|refine aE 5 rfl ?_|refine aE 6 rfl ?_|refine aE 7 rfl ?_|refine aE 8 rfl ?_|refine aE 9 rfl ?_))
 unfold nN at k;cases hs:sure
 ·rw[hs] at k tail;simp only[Bool.false_eq_true,if_false] at k;simp only[Bool.not_false,Bool.true_and];by_cases hb:fO o.ps p.au=false∧o.ps.length≥8
  ·have e8:(l.length:Int)=8:=by omega
   rw[if_pos hb] at hres;rw[if_pos hres] at k;simp only[hb.1,Bool.not_false,e8,decide_true,Bool.and_self,ao];refine As g1 hp ho.sort ho.le8 ho.inr (fun H' h'=> ?_);refine tail (o1:=gR o) (cR _ _) (by simp) h' (fun h=>by cases h) (fun _ H2 h2=> ?_);refine k H2 (aA.ng (o:=⟨dJ o.su o.ps,(hH [] p).1,o.r⟩) h2 ?_);have hz:(hH [] p).2=0:=by rw[EE (by simp) h0 (by omega) hd,if_neg (by simp)]
   have hpe:=(GP oV hz).map wt;have ew:wt p.put=(p.au,p.data):=by unfold wt;rw[hpp];rfl
   refine List.Perm.trans ?_ hpe.symm;rw[map_cons,ew];exact List.Perm.refl _
  ·rw[if_neg hb] at hres;rw[if_neg (by rw[hres];omega)] at k
   have e8:(!fO o.ps p.au&&decide ((l.length:Int)=8))=false:=by
    cases hh:fO o.ps p.au
    ·have:¬(l.length:Int)=8:=fun h=>hb ⟨hh,by omega⟩
     simp [this]
    ·rfl
   rw[e8,ah];refine tail (o1:=o) rfl (by omega) g1 (fun h=>by cases h) (fun _ H2 h2=> ?_);refine k H2 (aA.ng (o:=⟨o.su,(hH o.ps p).1,o.r⟩) h2 ?_);have hpe:=(GP ho.sort hres).map wt;have ew:wt p.put=(p.au,p.data):=by unfold wt;rw[hpp];rfl
   refine List.Perm.trans ?_ hpe.symm;rw[map_cons,ew, ←Ap ho.sort];exact perm_append_comm.trans ((wF hp _).cons _)
 ·rw[hs] at k tail;simp only[if_true] at k;simp only[Bool.not_true,Bool.false_and,ah];refine tail (o1:=o) rfl (by omega) g1 (fun _ H2 h2=> ?_) (fun h=>by cases h);refine k H2 (aA.ng (o:=⟨o.su.set p.au.toNat p.data,fG o.ps p.au,o.r⟩) h2 ?_);rw[←Ap ho.sort];exact wF hp _
theorem ME (x:Int) (c:Cm) (hk:0≤c.kd) (n:Nat):cl 46 [vi x,.agg c.cs,vi (n:Int)] H K=K (.bool (kD x c n)) H:=by
 conv=>lhs;unfold Cm.cs
 rw[ady];(try simp only[NQ]);unfold kD;have e:decide ((c.dn:Int)≤64)=decide (c.dn≤64):=by rw[decide_eq_decide];omega
 rw[e];by_cases a1:x<0
 ·have:¬0≤x:=by omega
  simp [a1,this]
 ·have b1:0≤x:=by omega
  by_cases a2:x>7
  ·have:¬x<8:=by omega
   simp [a1,a2,this]
  ·have b2:x<8:=by omega
   by_cases a3:c.kd>9
   ·have:¬c.kd≤9:=by omega
    simp [a1,a2,a3,this]
   ·have b3:c.kd≤9:=by omega
    by_cases a4:c.kd<3
    ·have b4:c.kd=0∨c.kd=1∨c.kd=2:=by omega
     by_cases a5:c.kP<0
     ·have b5:¬0≤c.kP:=by omega
      rcases b4 with b4|b4|b4<;>simp [a1,a2,b1,b2,b4,a5,b5]
     ·have b5:0≤c.kP:=by omega
      by_cases a6:c.kP≥(n:Int)
      ·have b6:¬c.kP<(n:Int):=by omega
       rcases b4 with b4|b4|b4<;>simp [a1,a2,b1,b2,b4,a5,b5,a6,b6]
      ·have b6:c.kP<(n:Int):=by omega
       rcases b4 with b4|b4|b4<;>simp [a1,a2,b1,b2,b4,a5,b5,a6,b6]
    ·have c0:¬c.kd=0:=by omega
     have c1:¬c.kd=1:=by omega
     have c2:¬c.kd=2:=by omega
     simp [a1,a2,a3,a4,b1,b2,b3,c0,c1,c2]
theorem sv (r:R) (hr:AQ r) (x:Int) (c:Cm) (hk:0≤c.kd):cl 47 [.agg r.cs,vi x,.agg c.cs] H K=K (.bool (HA r x c)) H:=by
 conv=>lhs;unfold Cm.cs R.cs
 rw[adz];(try simp only[NQ]);simp only[R.rV,GJ,GO hr,AM];unfold HA;by_cases h3:c.kd>3
 ·have h0:¬c.kd=0:=by omega
  have h1:¬(c.kd=1∨c.kd=2∨c.kd=3):=by omega
  simp only[h3,decide_true,ao,h0,h1,if_false]
 ·by_cases h0:c.kd=0
  ·simp [h0]
  ·have h1:c.kd=1∨c.kd=2∨c.kd=3:=by omega
   have h4:c.kd>0:=by omega
   simp only[h3,h4,decide_true,decide_false,ah,h0,h1,if_true,if_false]
theorem Qj (h:aA B H (cN id o::L)) (ho:o.ok) (x:Int) (c:Cm) (hk:0≤c.kd) (bV:List UInt8) (hd:c.dn=bV.length) (hr:lU B L c.dp bV) (k:∀H',aA B H' (cN id (ss o x c bV).1::L)→K (.tuple [vi (ss o x c bV).2.e,.cL (cM (ss o x c bV).2.d),.agg (ss o x c bV).2.r.cs]) H'):cl 20 [.ay (some (id,0)),vi x,.agg c.cs] H K:=by
 obtain⟨l,hp,g1⟩:=aA.GV h;obtain⟨q,cc,q2,c2,g2⟩:=aA.Qh g1;obtain⟨f1,f2,f3,f4,f5,f6,f7,f8⟩:=bW g2.get
 conv in c.cs=>unfold Cm.cs
 rw[ads];(try simp only[NQ]);simp only[Cm.rV,isSome_some,getD_some,az,Nat.zero_add,f1,f2,bL,aQ,Bool.and_self,ME _ _ hk,fK,ct,SH];unfold ss at k;cases hv:kD x c o.su.length
 ·rw[if_pos hv] at k;exact k H h
 ·simp only[Bool.not_true,ah,f5,f6,R.dv,R.dX,Bool.and_self,az,sv _ ho.tN _ _ hk,fK,ct];rw[if_neg (by simp [hv])] at k;have M6:=hv;unfold kD at M6;simp only[Bool.and_eq_true,Bool.or_eq_true,Bool.not_eq_true',Bool.or_eq_false_iff,decide_eq_true_eq,decide_eq_false_iff_not] at M6;obtain⟨⟨⟨⟨v1,v2⟩,v3⟩,v4⟩,v5⟩:=M6;cases hm:HA o.r x c
  ·rw[if_pos hm] at k;exact k H h
  ·rw[if_neg (by simp [hm])] at k;simp only[Bool.not_true,ah];by_cases k0:c.kd=0
   ·rw[if_pos k0] at k;simp only[k0,decide_true,ao];refine K5 h ho (by omega) (by omega) ?_;simp only[mJ,az,gL];exact k H h
   ·rw[if_neg k0] at k;simp only[k0,decide_false,ah];by_cases k1:c.kd=1
    ·rw[if_pos k1] at k;simp only[k1,decide_true,ao];have hdn:c.dn≤64:=by omega
     have hrb:=hr H h.drop;rw[hd];simp only[hrb.eY,hrb.eZ,az];refine K6 h ho ⟨c.kP,bV,false⟩ rfl (by simp only[];omega) (by simp only[];omega) (by simp only[];omega) c.su (fun H5 h5=> ?_);exact k H5 h5
    ·rw[if_neg k1] at k;simp only[k1,decide_false,ah];by_cases k2:c.kd=2
     ·rw[if_pos k2] at k;simp only[k2,decide_true,ao];refine K6 h ho ⟨c.kP,[],true⟩ rfl (by simp only[];omega) (by simp only[];omega) (by simp) c.su (fun H5 h5=> ?_);exact k H5 h5
     ·rw[if_neg k2] at k;simp only[k2,decide_false,ah];by_cases k3:c.kd=3
      ·rw[if_pos k3] at k;simp only[k3,decide_true,ao];refine At h ho (fun H5 h5=> ?_);exact k H5 h5
      ·rw[if_neg k3] at k;simp only[k3,decide_false,ah];by_cases k9:c.kd=9
       ·rw[if_pos k9] at k;simp only[k9,decide_true,ao];exact k H h
       ·rw[if_neg k9] at k;simp only[k9,decide_false,ah,WO _ _ _ ho.tN,fC,gK,eW,iZ,fJ,dH,R.dv,R.dX,dh,bh,Bool.or_false,Bool.and_self,az,f8,length_cons,length_nil,Nat.reduceAdd,decide_true];have h4:=g2.store (off:=2) (vs:=(doR o.r x c).1.cs);have e2:bH (pC q o.su.length cc q2 l.length c2 o.r) 2 (doR o.r x c).1.cs=pC q o.su.length cc q2 l.length c2 (doR o.r x c).1:=rfl;rw[e2] at h4;exact k _ (aA.ng (o:=⟨o.su,o.ps,(doR o.r x c).1⟩) (aA.vo h4) hp)
theorem Qk (h:aA B H (cN id o::L)) (power:Bool) (k:∀H',aA B H' (cN id (gS o power)::L)→K (.tuple []) H'):cl 32 [.ay (some (id,0)),.bool power] H K:=by
 obtain⟨l,hp,g1⟩:=aA.GV h;obtain⟨q,c,q2,c2,g2⟩:=aA.Qh g1;obtain⟨f1,f2,f3,f4,f5,f6,f7,f8⟩:=bW g2.get;rw[adx];(try simp only[NQ]);have h3:=g2.store (off:=1) (vs:=[V.slice none 0 0]);have e1:bH (pC q o.su.length c q2 l.length c2 o.r) 1 [V.slice none 0 0]=pC q o.su.length c none 0 0 o.r:=rfl;rw[e1] at h3;obtain⟨j1,j2,j3,j4,j5,j6,j7,j8⟩:=bW h3.get;simp only[isSome_some,getD_some,az,Nat.zero_add,f7,j5,j6,R.dv,R.dX,Bool.and_self];generalize ai.store _ id 1 _=H1 at h3 j1 j2 j3 j4 j5 j6 j7 j8
 have fin:∀(r':R) H',aA B H' (cP id 60 (pC q o.su.length c none 0 0 r')::Rw 9 1 q c (o.su.map st)::Rw 109 2 q2 c2 (l.map wc)::L)→aA B H' (cN id ⟨o.su,[],r'⟩::L):=by
  intro r' H' h';have h8:aA B H' (Rw 109 2 q2 c2 (l.map wc)::cP id 60 (pC q o.su.length c none 0 0 r')::Rw 9 1 q c (o.su.map st)::L):=h'.lT (by repeat (first|exact List.Perm.refl _|refine aE 0 rfl ?_|refine aE 1 rfl ?_|refine aE 2 rfl ?_|refine aE 3 rfl ?_|refine aE 4 rfl ?_|refine aE 5 rfl ?_|refine aE 6 rfl ?_|refine aE 7 rfl ?_|refine aE 8 rfl ?_|refine aE 9 rfl ?_));have h9:=h8.drop.rwNil 109 2;exact aA.ng (o:=⟨o.su,[],r'⟩) (l:=[]) (aA.vo (l:=[]) (h9.lT (by repeat (first|exact List.Perm.refl _|refine aE 0 rfl ?_|refine aE 1 rfl ?_|refine aE 2 rfl ?_|refine aE 3 rfl ?_|refine aE 4 rfl ?_|refine aE 5 rfl ?_|refine aE 6 rfl ?_|refine aE 7 rfl ?_|refine aE 8 rfl ?_|refine aE 9 rfl ?_)))) (List.Perm.refl _)
 unfold gS kC at k;cases power
 ·simp only[ah];exact k _ (fin _ _ h3)
 ·have ew:cl 56 [.agg o.r.cs,vi 0,vi 1] H1=fun K=>K (.agg (kC o.r true).cs) H1:=by
   funext K
   conv=>lhs;unfold R.cs
   rw[adq];(try simp only[NQ]);unfold kC;cases hl:o.r.la<;>simp<;>rfl
  simp only[ao,ew,fJ,dH,R.dv,R.dX,Bool.and_self,az,j8];have h4:=h3.store (off:=2) (vs:=(kC o.r true).cs);have e2:bH (pC q o.su.length c none 0 0 o.r) 2 (kC o.r true).cs=pC q o.su.length c none 0 0 (kC o.r true):=rfl;rw[e2] at h4;exact k _ (fin _ _ h4)
theorem SM (h:aA B H L) {n:Nat} (h1:1≤n) (h2:n≤65536) (k:∀mid H',aA B H' (cN mid (vn n)::L)→K (.ay (some (mid,0))) H'):cl 19 [vi (n:Int)] H K:=by
 rw[adr];(try simp only[NQ]);have e1:0≤(n:Int):=by omega
 have e4:(n:Int)*17≤70368744177664:=by omega
 simp only[e1,e4,Int.le_refl,decide_true,Bool.and_self,az,Int.toNat_natCast];have a1:=h.alloc 9 (ef n [V.cL (cM [])]);have a2:=a1.alloc 60 (pC (some (H.next,0)) n n none 0 0 R.gk);have e5:(List.replicate n ([]:List UInt8)).map st=List.replicate n [V.cL (cM [])]:=by rw[map_replicate];rfl
 have hu:=Al (List.replicate n ([]:List UInt8));have hlen:(ef n [V.cL (cM [])]).length=n:=by rw[GR, ←e5,cG hu];simp
 have a3:=a2.swap
 have a4:aA B ((H.alloc (.cells 9 (ef n [V.cL (cM [])]) false)).alloc (.cells 60 (pC (some (H.next,0)) n n none 0 0 R.gk) false))
  (Rw 9 1 (some (H.next,0)) n ((List.replicate n ([]:List UInt8)).map st)::cP (H.alloc (.cells 9 (ef n [V.cL (cM [])]) false)).next 60 (pC (some (H.next,0)) n n none 0 0 R.gk)::L):=by
  unfold Rw;have hl:((List.replicate n ([]:List UInt8)).map st).length=n:=by simp
  rw[hl];refine a3.unbuf ?_ (lV hu) (Nat.le_refl _) (by rw[hlen];omega) ?_
  ·rw[cG hu];simp
  ·rw[e5, ←GR,drop_zero,take_length]
 have a5:=a4.rwNil 109 2;refine k _ _ (aA.ng (o:=vn n) (l:=[]) (aA.vo (l:=[]) (q:=some (H.next,0)) (c:=n) (q2:=none) (c2:=0) ?_) (List.Perm.refl _));show aA B _ (cP _ 60 (pC (some (H.next,0)) (List.replicate n ([]:List UInt8)).length n none 0 0 R.gk)::_)
 rw[length_replicate];exact a5.lT (by repeat (first|exact List.Perm.refl _|refine aE 0 rfl ?_|refine aE 1 rfl ?_|refine aE 2 rfl ?_|refine aE 3 rfl ?_|refine aE 4 rfl ?_|refine aE 5 rfl ?_|refine aE 6 rfl ?_|refine aE 7 rfl ?_|refine aE 8 rfl ?_|refine aE 9 rfl ?_))
theorem SN {s:Rs} (hr:mu H q s.d):cl 21 [.agg (s.cs q n),vi s.e,.cL (cM s.d),.agg s.r.cs] H K=K (.bool true) H:=by
 conv=>lhs;unfold Rs.cs R.cs
 rw[adt];(try simp only[NQ]);simp only[R.rV,decide_true,ao,hr.eY,hr.eZ,az,qj,R.eq_self]
end
def me (k:Nat→Int):Nat→Bool
 |0=>false
 |n+1=>me k n|| !decide (k n=0)
def Au (r:R):Bool:= !decide (r.ty=0)&& !nf r.ty
def pk (r:R):Bool:=
 !decide (r.ho< -1)&&(!decide (r.ho≥8)&&((decide (r.ty=0)||right r.ty)&&(decide (Au r=decide (r.ho≥0))&&((!Au r|| !decide (r.k r.ho.toNat=0))&&(decide (r.ty=0)||me r.k 8)))))
def od (r:R) (was now:Int):R:=if was=now then r else if r.la=false then ⟨fun _=>0,0, -1,0,false⟩ else ⟨r.k,r.ty,r.ho,0,r.la⟩
section
variable (H:ai) (K:KP)
theorem GW (r:R) (Kr:PS) (Ke:NS):∀(n i:Nat),i+n=8→lo 74 6 (St.mk (ab [(1,T.lp 1 0),(3,tb (me r.k i)),(27,T.v (V.agg (xg (r.k 0) (r.k 1) (r.k 2) (r.k 3) (r.k 4) (r.k 5) (r.k 6) (r.k 7)))),(28,ti (i:Int))]) (ab [(1,aU.cells 46 r.cs)]) H) Kr Ke=Ke 0 (St.mk (ab [(1,T.lp 1 0),(3,tb (me r.k 8))]) (ab [(1,aU.cells 46 r.cs)]) H)
 |0,i,hi=>by
  obtain rfl:i=8:=by omega
  unfold R.cs;rw[Ou];(try simp only[NQ]);rfl
 |n+1,i,hi=>by
  have e1:decide ((i:Int)<8)=true:=by simp;omega
  have e2:decide (0≤(i:Int))=true:=by simp
  have e3:Int.toNat (i:Int)*1=i:=by simp
  have e6:Nat.ble (Nat.succ i) 8=true:=by simp;omega
  have e7:(bif !me r.k i then !decide (r.k i=0) else true)=me r.k (i+1):=by rw[me];cases me r.k i<;>rfl
  conv=>lhs;unfold R.cs
  rw[Ou];(try simp only[NQ]);rw[aL (by omega)];simp only[e1,e2,e3,e6,Ai r.k (show i<8 by omega),dh,bh,ao,az,Bool.and_self,e7];exact GW r Kr Ke n (i+1) (by omega)
theorem Ql (r:R):cl 74 [.agg r.cs] H K=K (.bool (pk r)) H:=by
 conv=>lhs;unfold R.cs
 rw[ac7];(try simp only[NQ])
 have hl:∀Kr Ke,lo 74 6
  (St.mk (ab [(1,T.lp 1 0),(3,tb false),(27,T.v (V.agg (xg (r.k 0) (r.k 1) (r.k 2) (r.k 3) (r.k 4) (r.k 5) (r.k 6) (r.k 7)))),(28,ti 0)])
   (ab [(1,aU.cells 46 r.cs)]) H) Kr Ke=_:=fun Kr Ke=>GW H r Kr Ke 8 0 (by omega)
 unfold R.cs at hl;simp only[AK,reduceIte,Nat.reduceEqDiff,GH,zo,hl,f45,ab2,N1,N2];unfold pk;by_cases h1:r.ho< -1
 ·simp [h1]<;>exact Iff.rfl
 by_cases h2:r.ho≥8
 ·simp [h1,h2]<;>exact Iff.rfl
 have hidx:0+Int.toNat r.ho*1=Int.toNat r.ho:=by omega
 have h3:r.ho≤11:=by omega
 have h4:r.ho<8:=by omega
 have hone:Au r=(!decide (r.ty=0)&&(!decide (r.ty=7)&& !decide (r.ty=8))):=by
  unfold Au nf;by_cases h7:r.ty=7<;>by_cases h8:r.ty=8<;>simp [h7,h8]
 by_cases h0:0≤r.ho
 ·have hn:=oU r (i:=r.ho.toNat) (by omega);simp only[hidx,hn,dh,bh];rw[hone];by_cases ht:r.ty=0
  ·simp [h1,h2,h0,ht,h3,h4,aP]<;>exact Iff.rfl
  ·cases hr:right r.ty
   ·simp [h1,h2,h0,ht]<;>exact Iff.rfl
   ·by_cases h7:r.ty=7
    ·simp [h1,h2,h0,h7,h3,h4,aP]<;>exact Iff.rfl
    ·by_cases h8:r.ty=8
     ·simp [h1,h2,h0,h8,h3,h4,aP]<;>exact Iff.rfl
     ·by_cases hk:r.k r.ho.toNat=0
      ·simp [h1,h2,h0,ht,h7,h8,hk,h3,h4,aP]<;>exact Iff.rfl
      ·simp [h1,h2,h0,ht,h7,h8,hk,h3,h4,aP]<;>exact Iff.rfl
 ·rw[hone];by_cases ht:r.ty=0
  ·simp [h1,h2,h0,ht,h3,h4,aP]<;>exact Iff.rfl
  ·cases hr:right r.ty
   ·simp [h1,h2,h0,ht]<;>exact Iff.rfl
   ·by_cases h7:r.ty=7
    ·simp [h1,h2,h0,h7,h3,h4,aP]<;>exact Iff.rfl
    ·by_cases h8:r.ty=8
     ·simp [h1,h2,h0,h8,h3,h4,aP]<;>exact Iff.rfl
     ·simp [h1,h2,h0,ht,h7,h8,h3,h4,aP]<;>exact Iff.rfl
theorem SO (r:R) (was now:Int):cl 42 [.agg r.cs,vi was,vi now] H K=K (.agg (od r was now).cs) H:=by
 conv=>lhs;unfold R.cs
 rw[ac6];(try simp only[NQ]);simp only[AM,KV,R.dv,R.dX];unfold od;by_cases h:was=now
 ·simp [h]<;>exact Iff.rfl
 ·cases hl:r.la<;>simp [h]<;>exact Iff.rfl
end
theorem Cq {k:Nat→Int}:∀{n:Nat},me k n=true↔∃i,i<n∧k i≠0
 |0=>by simp [me]
 |n+1=>by
  rw[me,Bool.or_eq_true,Cq];constructor
  ·rintro(⟨i,h1,h2⟩|h)
   ·exact⟨i,by omega,h2⟩
   ·exact⟨n,by omega,by simpa using h⟩
  ·rintro⟨i,h1,h2⟩;by_cases hn:i=n
   ·subst hn;right;simpa using h2
   ·left;exact⟨i,by omega,h2⟩
structure R.ok (r:R):Prop where
 k:∀i,0≤r.k i∧r.k i≤4294967295
 ty:0≤r.ty∧r.ty≤255
 ho: -1≤r.ho∧r.ho≤254
 ge:0≤r.ge∧r.ge≤4294967295
def xL (k:Nat→Int):Nat→List UInt8
 |0=>[]
 |n+1=>xL k n++le (k n).toNat 4
theorem gm (k:Nat→Int):∀n,(xL k n).length=4*n
 |0=>rfl
 |n+1=>by rw[xL,length_append,gm k n,DS];omega
def hI (r:R) (boots:Nat):List UInt8:=
 xL r.k 8++le r.ty.toNat 1++le (r.ho+1).toNat 1++le r.ge.toNat 4++le (if r.la=true then 1 else 0) 1++le boots 4
theorem vq (r:R) (boots:Nat):(hI r boots).length=43:=by
 simp [hI,gm]
theorem oX {x:Int} (h0:0≤x) (h1:x≤18446744073709551615):IntKind.u64.wrap x=(x.toNat:Int):=by
 rw[IntWalk.u64_in _ ⟨h0,h1⟩];omega
section
variable {B:ai} {L:List cw} {H:ai} {K:KP} {q:Oq} {cap:Nat}
theorem Cs (r:R) (hr:r.ok) (x1:Int) {Kr:PS} {Ke:NS}:∀(n i:Nat) {q:Oq} {cap:Nat} {H:ai},i+n=8→aA B H (BY q cap (xL r.k i)::L)→(∀q' c' H',aA B H' (BY q' c' (xL r.k 8)::L)→Ke 0 (St.mk (ab [(1,ti x1),(2,T.lp 2 0),(5,ts q' (xL r.k 8).length c')]) (ab [(2,aU.cells 46 r.cs)]) H'))→lo 83 3 (St.mk (ab [(1,ti x1),(2,T.lp 2 0),(5,ts q (xL r.k i).length cap),(10,T.v (V.agg (xg (r.k 0) (r.k 1) (r.k 2) (r.k 3) (r.k 4) (r.k 5) (r.k 6) (r.k 7)))),(11,ti (i:Int))]) (ab [(2,aU.cells 46 r.cs)]) H) Kr Ke
 |0,i,q,cap,H,hi,h,k=>by
  obtain rfl:i=8:=by omega
  have:=k _ _ _ h;unfold R.cs at this⊢;rw[Ov];(try simp only[NQ]);exact this
 |n+1,i,q,cap,H,hi,h,k=>by
  have e1:decide ((i:Int)<8)=true:=by simp;omega
  have e2:decide (0≤(i:Int))=true:=by simp
  have e3:Int.toNat (i:Int)*1=i:=by simp
  have e6:Nat.ble (Nat.succ i) 8=true:=by simp;omega
  have e7:=hr.k i;unfold R.cs;rw[Ov];(try simp only[NQ]);rw[aL (by omega)];simp only[e1,e2,e3,e6,Ai r.k (show i<8 by omega),dh,bh,ao,az,Bool.and_self];rw[oX e7.1 (by omega)];refine eP (r.k i).toNat 4 h (by omega) (by rw[gm];omega) (fun q' c' H' h'=> ?_);simp only[AM];exact Cs r hr x1 n (i+1) (by omega) h' k
theorem MF (r:R) (hr:r.ok) (boots:Nat) (hb:boots<18446744073709551616) (hb':boots<9223372036854775808) (h:aA B H L) (k:∀q' c' H',aA B H' (BY q' c' (hI r boots)::L)→K (.slice q' (hI r boots).length c') H'):cl 83 [.agg r.cs,vi (boots:Int)] H K:=by
 unfold R.cs;rw[ac8];(try simp only[NQ]);refine Cs (q:=none) (cap:=0) r hr boots 8 0 (by omega) (kL h) (fun q1 c1 H1 h1=> ?_);unfold R.cs;simp only[AK,reduceIte,Nat.reduceEqDiff,f45,N1,N2,N3,N4];have k1:=hr.ty;have k2:=hr.ho;have k3:=hr.ge;rw[oX k1.1 (by omega)];refine eP r.ty.toNat 1 h1 (by omega) (by rw[gm];omega) (fun q2 c2 H2 h2=> ?_);simp only[AM];rw[bf (by omega) (by omega),oX (by omega) (by omega)];refine eP (r.ho+1).toNat 1 h2 (by omega) (by simp [gm]) (fun q3 c3 H3 h3=> ?_)
 have abK:∀(b:Bool),r.la=b→af (aF (KT.k (cA.int IntKind.u64)) (some (T.v (V.int IntKind.u64 (((if r.la=true then 1 else 0:Nat)):Int))))||false||false)
  (cl 119 [V.slice q3 (xL r.k 8++le r.ty.toNat 1++le (r.ho+1).toNat 1).length c3,V.int IntKind.u64 (IntKind.u64.wrap r.ge),V.int IntKind.i64 4] H3 fun v H'=>
   af (V.ax cA.slice v) (cl 119 [V.slice (V.aj v) (V.an v) (V.aC v),V.int IntKind.u64 (((if r.la=true then 1 else 0:Nat)):Int),V.int IntKind.i64 1] H' fun v H'=>
    af (V.ax cA.slice v) (cl 119 [V.slice (V.aj v) (V.an v) (V.aC v),V.int IntKind.u64 (IntKind.u64.wrap boots),V.int IntKind.i64 4] H' fun v H'=>
     af (V.ax cA.slice v) (K (V.slice (V.aj v) (V.an v) (V.aC v)) H')))):=by
  intro b hb0;rw[oX k3.1 (by omega),cO hb];simp only[AM];refine eP r.ge.toNat 4 h3 (by omega) (by simp [gm]) (fun q4 c4 H4 h4=> ?_);simp only[AM];refine eP _ 1 h4 (by omega) (by simp [gm]) (fun q5 c5 H5 h5=> ?_);simp only[AM];refine eP boots 4 h5 (by omega) (by simp [gm]) (fun q6 c6 H6 h6=> ?_);simp only[AM];exact k _ _ _ h6
 have:=abK r.la rfl;cases hl:r.la
 ·simpa [hl,AK,reduceIte,Nat.reduceEqDiff] using this
 ·simpa [hl,AK,reduceIte,Nat.reduceEqDiff] using this
end
end Go.Proofs.YtlgdkndamddpkaaGreat
end
