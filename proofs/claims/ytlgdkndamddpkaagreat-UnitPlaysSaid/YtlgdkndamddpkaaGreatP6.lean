/- Part 6 of the texts behind the law UnitPlays: what its row needs (an abstract machine, its equations, and what the program computes). -/
import Derived.Below
import Derived.ChangeSame
import Derived.WideKeyArgs
import Derived.OpenShut
import Derived.ProofKit
import Derived.Test.YtlgdkndamddpkaaGreatP5
set_option maxRecDepth 100000
set_option linter.unusedSimpArgs false
set_option linter.unusedVariables false
set_option linter.unusedSectionVars false
section
namespace Go.Proofs.YtlgdkndamddpkaaGreat
open Go.Am
def l8 (k:Nat→Int):Nat→Bool
 |0=>false
 |n+1=>l8 k n|| !decide (k n=0)
def Al (r:R):Bool:= !decide (r.ty=0)&& !ng r.ty
def o8 (r:R):Bool:=
 !decide (r.ho< -1)&&(!decide (r.ho≥8)&&((decide (r.ty=0)||right r.ty)&&(decide (Al r=decide (r.ho≥0))&&((!Al r|| !decide (r.k r.ho.toNat=0))&&(decide (r.ty=0)||l8 r.k 8)))))
def qF (r:R) (was now:Int):R:=if was=now then r else if r.la=false then ⟨fun _=>0,0, -1,0,false⟩ else ⟨r.k,r.ty,r.ho,0,r.la⟩
section
variable (H:ag) (K:V→ag→Prop)
theorem GJ (r:R) (Kr:St→Prop) (Ke:Nat→St→Prop):∀(n i:Nat),i+n=8→lo 74 6 (St.mk (ab [(1,T.lp 1 0),(3,T.v (V.bool (l8 r.k i))),(27,T.v (V.agg (w9 (r.k 0) (r.k 1) (r.k 2) (r.k 3) (r.k 4) (r.k 5) (r.k 6) (r.k 7)))),(28,T.v (V.int .i64 (i:Int)))]) (ab [(1,aR.cells 46 r.cs)]) H) Kr Ke=Ke 0 (St.mk (ab [(1,T.lp 1 0),(3,T.v (V.bool (l8 r.k 8)))]) (ab [(1,aR.cells 46 r.cs)]) H)
 |0,i,hi=>by
  obtain rfl:i=8:=by omega
  unfold R.cs;rw[N6];(try simp only[NQ]);rfl
 |n+1,i,hi=>by
  have e1:decide ((i:Int)<8)=true:=by simp;omega
  have e2:decide (0≤(i:Int))=true:=by simp
  have e3:Int.toNat (i:Int)*1=i:=by simp
  have e6:Nat.ble (Nat.succ i) 8=true:=by simp;omega
  have e7:(bif !l8 r.k i then !decide (r.k i=0) else true)=l8 r.k (i+1):=by rw[l8];cases l8 r.k i<;>rfl
  conv=>lhs;unfold R.cs
  rw[N6];(try simp only[NQ]);rw[aK (by omega)];simp only[e1,e2,e3,e6,z6 r.k (show i<8 by omega),cP,aZ,ak,aw,Bool.and_self,e7];exact GJ r Kr Ke n (i+1) (by omega)
theorem PX (r:R):cl 74 [.agg r.cs] H K=K (.bool (o8 r)) H:=by
 conv=>lhs;unfold R.cs
 rw[ab3];(try simp only[NQ])
 have hl:∀Kr Ke,lo 74 6
  (St.mk (ab [(1,T.lp 1 0),(3,T.v (V.bool false)),(27,T.v (V.agg (w9 (r.k 0) (r.k 1) (r.k 2) (r.k 3) (r.k 4) (r.k 5) (r.k 6) (r.k 7)))),(28,T.v (V.int .i64 0))])
   (ab [(1,aR.cells 46 r.cs)]) H) Kr Ke=_:=fun Kr Ke=>GJ H r Kr Ke 8 0 (by omega)
 unfold R.cs at hl;simp only[AK,reduceIte,Nat.reduceEqDiff,Gv,zb,hl,f45,T3,NC,ND,NF,NG,NH,NI,NJ,NK,NL,NM,HV,HW];unfold o8;by_cases h1:r.ho< -1
 ·simp [h1]<;>exact Iff.rfl
 by_cases h2:r.ho≥8
 ·simp [h1,h2]<;>exact Iff.rfl
 have hidx:0+Int.toNat r.ho*1=Int.toNat r.ho:=by omega
 have h3:r.ho≤11:=by omega
 have h4:r.ho<8:=by omega
 have hone:Al r=(!decide (r.ty=0)&&(!decide (r.ty=7)&& !decide (r.ty=8))):=by
  unfold Al ng;by_cases h7:r.ty=7<;>by_cases h8:r.ty=8<;>simp [h7,h8]
 by_cases h0:0≤r.ho
 ·have hn:=oO r (i:=r.ho.toNat) (by omega);simp only[hidx,hn,cP,aZ];rw[hone];by_cases ht:r.ty=0
  ·simp [h1,h2,h0,ht,h3,h4,aO]<;>exact Iff.rfl
  ·cases hr:right r.ty
   ·simp [h1,h2,h0,ht,hr,h3,h4,aO]<;>exact Iff.rfl
   ·by_cases h7:r.ty=7
    ·simp [h1,h2,h0,ht,h7,h3,h4,aO]<;>exact Iff.rfl
    ·by_cases h8:r.ty=8
     ·simp [h1,h2,h0,ht,h7,h8,h3,h4,aO]<;>exact Iff.rfl
     ·by_cases hk:r.k r.ho.toNat=0
      ·simp [h1,h2,h0,ht,h7,h8,hk,h3,h4,aO]<;>exact Iff.rfl
      ·simp [h1,h2,h0,ht,h7,h8,hk,h3,h4,aO]<;>exact Iff.rfl
 ·rw[hone];by_cases ht:r.ty=0
  ·simp [h1,h2,h0,ht,h3,h4,aO]<;>exact Iff.rfl
  ·cases hr:right r.ty
   ·simp [h1,h2,h0,ht,hr,h3,h4,aO]<;>exact Iff.rfl
   ·by_cases h7:r.ty=7
    ·simp [h1,h2,h0,ht,h7,h3,h4,aO]<;>exact Iff.rfl
    ·by_cases h8:r.ty=8
     ·simp [h1,h2,h0,ht,h7,h8,h3,h4,aO]<;>exact Iff.rfl
     ·simp [h1,h2,h0,ht,h7,h8,h3,h4,aO]<;>exact Iff.rfl
theorem Se (r:R) (was now:Int):cl 42 [.agg r.cs,.int .i64 was,.int .i64 now] H K=K (.agg (qF r was now).cs) H:=by
 conv=>lhs;unfold R.cs
 rw[ab2];(try simp only[NQ]);simp only[AK,reduceIte,Nat.reduceEqDiff,Ky,R.da,R.dF];unfold qF;by_cases h:was=now
 ·simp [h]<;>exact Iff.rfl
 ·cases hl:r.la<;>simp [h]<;>exact Iff.rfl
end
theorem Ct {k:Nat→Int}:∀{n:Nat},l8 k n=true↔∃i,i<n∧k i≠0
 |0=>by simp [l8]
 |n+1=>by
  rw[l8,Bool.or_eq_true,Ct];constructor
  ·rintro(⟨i,h1,h2⟩|h)
   ·exact⟨i,by omega,h2⟩
   ·exact⟨n,by omega,by simpa using h⟩
  ·rintro⟨i,h1,h2⟩;by_cases hn:i=n
   ·subst hn;right;simpa using h2
   ·left;exact⟨i,by omega,h2⟩
structure R.ok (r:R):Prop where
 k:∀i,0≤r.k i∧r.k i≤4294967295
 ty:0≤r.ty∧r.ty≤255
 ho: -1≤r.ho∧r.ho≤254
 ge:0≤r.ge∧r.ge≤4294967295
def xE (k:Nat→Int):Nat→List UInt8
 |0=>[]
 |n+1=>xE k n++le (k n).toNat 4
theorem gj (k:Nat→Int):∀n,(xE k n).length=4*n
 |0=>rfl
 |n+1=>by rw[xE,List.length_append,gj k n,DL];omega
def gX (r:R) (boots:Nat):List UInt8:=
 xE r.k 8++le r.ty.toNat 1++le (r.ho+1).toNat 1++le r.ge.toNat 4++le (if r.la=true then 1 else 0) 1++le boots 4
theorem vp (r:R) (boots:Nat):(gX r boots).length=43:=by
 simp [gX,gj]
theorem oR {x:Int} (h0:0≤x) (h1:x≤18446744073709551615):IntKind.u64.wrap x=(x.toNat:Int):=by
 rw[IntWalk.u64_in _ ⟨h0,h1⟩];omega
section
variable {B:ag} {L:List cv} {H:ag} {K:V→ag→Prop} {q:Oq} {cap:Nat}
theorem Cu (r:R) (hr:r.ok) (x1:Int) {Kr:Am.St→Prop} {Ke:Nat→Am.St→Prop}:∀(n i:Nat) {q:Oq} {cap:Nat} {H:ag},i+n=8→az B H (BY q cap (xE r.k i)::L)→(∀q' c' H',az B H' (BY q' c' (xE r.k 8)::L)→Ke 0 (St.mk (ab [(1,T.v (V.int .i64 x1)),(2,T.lp 2 0),(5,T.v (V.slice q' (xE r.k 8).length c'))]) (ab [(2,aR.cells 46 r.cs)]) H'))→lo 83 3 (St.mk (ab [(1,T.v (V.int .i64 x1)),(2,T.lp 2 0),(5,T.v (V.slice q (xE r.k i).length cap)),(10,T.v (V.agg (w9 (r.k 0) (r.k 1) (r.k 2) (r.k 3) (r.k 4) (r.k 5) (r.k 6) (r.k 7)))),(11,T.v (V.int .i64 (i:Int)))]) (ab [(2,aR.cells 46 r.cs)]) H) Kr Ke
 |0,i,q,cap,H,hi,h,k=>by
  obtain rfl:i=8:=by omega
  have:=k _ _ _ h;unfold R.cs at this⊢;rw[N7];(try simp only[NQ]);exact this
 |n+1,i,q,cap,H,hi,h,k=>by
  have e1:decide ((i:Int)<8)=true:=by simp;omega
  have e2:decide (0≤(i:Int))=true:=by simp
  have e3:Int.toNat (i:Int)*1=i:=by simp
  have e6:Nat.ble (Nat.succ i) 8=true:=by simp;omega
  have e7:=hr.k i;unfold R.cs;rw[N7];(try simp only[NQ]);rw[aK (by omega)];simp only[e1,e2,e3,e6,z6 r.k (show i<8 by omega),cP,aZ,ak,aw,Bool.and_self];rw[oR e7.1 (by omega)];refine eG (r.k i).toNat 4 h (by omega) (by rw[gj];omega) (fun q' c' H' h'=> ?_);simp only[AK,reduceIte,Nat.reduceEqDiff];exact Cu r hr x1 n (i+1) (by omega) h' k
theorem Mk (r:R) (hr:r.ok) (boots:Nat) (hb:boots<18446744073709551616) (hb':boots<9223372036854775808) (h:az B H L) (k:∀q' c' H',az B H' (BY q' c' (gX r boots)::L)→K (.slice q' (gX r boots).length c') H'):cl 83 [.agg r.cs,.int .i64 (boots:Int)] H K:=by
 unfold R.cs;rw[ab4];(try simp only[NQ]);refine Cu (q:=none) (cap:=0) r hr boots 8 0 (by omega) (kD h) (fun q1 c1 H1 h1=> ?_);unfold R.cs;simp only[AK,reduceIte,Nat.reduceEqDiff,f45,T3,NC,ND,NF,NG,NH,NI,NJ,NK,NL,NM,HV,HW];have k1:=hr.ty;have k2:=hr.ho;have k3:=hr.ge;rw[oR k1.1 (by omega)];refine eG r.ty.toNat 1 h1 (by omega) (by rw[gj];omega) (fun q2 c2 H2 h2=> ?_);simp only[AK,reduceIte,Nat.reduceEqDiff];rw[bu (by omega) (by omega),oR (by omega) (by omega)];refine eG (r.ho+1).toNat 1 h2 (by omega) (by simp [gj]) (fun q3 c3 H3 h3=> ?_)
 have aaM:∀(b:Bool),r.la=b→ah (aC (KT.k (cj.int IntKind.u64)) (some (T.v (V.int IntKind.u64 (((if r.la=true then 1 else 0:Nat)):Int))))||false||false)
  (cl 119 [V.slice q3 (xE r.k 8++le r.ty.toNat 1++le (r.ho+1).toNat 1).length c3,V.int IntKind.u64 (IntKind.u64.wrap r.ge),V.int IntKind.i64 4] H3 fun v H'=>
   ah (V.av cj.slice v) (cl 119 [V.slice (V.au v) (V.ax v) (V.aD v),V.int IntKind.u64 (((if r.la=true then 1 else 0:Nat)):Int),V.int IntKind.i64 1] H' fun v H'=>
    ah (V.av cj.slice v) (cl 119 [V.slice (V.au v) (V.ax v) (V.aD v),V.int IntKind.u64 (IntKind.u64.wrap boots),V.int IntKind.i64 4] H' fun v H'=>
     ah (V.av cj.slice v) (K (V.slice (V.au v) (V.ax v) (V.aD v)) H')))):=by
  intro b hb0;rw[oR k3.1 (by omega),cJ hb];simp only[AK,reduceIte,Nat.reduceEqDiff];refine eG r.ge.toNat 4 h3 (by omega) (by simp [gj]) (fun q4 c4 H4 h4=> ?_);simp only[AK,reduceIte,Nat.reduceEqDiff];refine eG _ 1 h4 (by omega) (by simp [gj]) (fun q5 c5 H5 h5=> ?_);simp only[AK,reduceIte,Nat.reduceEqDiff];refine eG boots 4 h5 (by omega) (by simp [gj]) (fun q6 c6 H6 h6=> ?_);simp only[AK,reduceIte,Nat.reduceEqDiff];exact k _ _ _ h6
 have:=aaM r.la rfl;cases hl:r.la
 ·simpa [hl,AK,reduceIte,Nat.reduceEqDiff] using this
 ·simpa [hl,AK,reduceIte,Nat.reduceEqDiff] using this
end
def Cv (s:RS):Nat→RS×(Nat→Int)
 |0=>(s,fun _=>0)
 |n+1=>(((Cv s n).1.num 4 4294967295).2,cy (Cv s n).2 n (((Cv s n).1.num 4 4294967295).1:Nat))
structure aag where
 r:R
 n:Nat
 e:RS
def An (s:RS×(Nat→Int)):aag:=
 let a:=s.1.num 1 255
 let b:=a.2.num 1 8
 let c:=b.2.num 4 4294967295
 let d:=c.2.num 1 1
 let e:=d.2.num 4 2147483647
 ⟨⟨s.2,(a.1:Nat),(b.1:Nat)-1,(c.1:Nat),decide ((d.1:Int)=1)⟩,e.1,e.2⟩
def tE (bs:List UInt8):aag:=An (Cv ⟨bs,false⟩ 8)
def Sf (bs:List UInt8):Option (R×Nat):=
 if (tE bs).e.bK=false∧(tE bs).e.bs=[]∧o8 (tE bs).r=true then some ((tE bs).r,(tE bs).n) else none
def ma (bs:List UInt8):R:=
 ⟨fun i=>if i<8 then (dI ((bs.drop (4*i)).take 4):Nat) else 0,(bs.getD 32 0).toNat,((bs.getD 33 0).toNat:Int)-1,(dI ((bs.drop 34).take 4):Nat),decide (((bs.getD 38 0).toNat:Int)=1)⟩
def nZ (bs:List UInt8):Bool:=decide (bs.length=43)&&(decide ((bs.getD 33 0).toNat≤8)&&(decide ((bs.getD 38 0).toNat≤1)&&decide ((bs.getD 42 0).toNat≤127)))
def Ez (bs:List UInt8):Option (R×Nat):=
 if nZ bs=true∧o8 (ma bs)=true then some (ma bs,dI ((bs.drop 39).take 4)) else none
theorem Ao (s:RS) (size most:Nat):(s.num size most).1≤most:=by
 unfold RS.num;split
 ·exact Nat.zero_le _
 ·simp only[];omega
theorem Tr (l:List UInt8):dI (l.take 4)≤4294967295:=by
 have:=xO (l.take 4);have h:(256:Nat) ^ (l.take 4).length≤256 ^ 4:=Nat.pow_le_pow_right (by omega) (by rw[List.length_take];omega);have h2:(256:Nat) ^ 4=4294967296:=by decide
 omega
theorem vq (bs:List UInt8):∀n,4*n≤bs.length→Cv ⟨bs,false⟩ n=(⟨bs.drop (4*n),false⟩,fun i=>if i<n then ((dI ((bs.drop (4*i)).take 4):Nat):Int) else 0)
 |0,_=>by simp [Cv]
 |n+1,h=>by
  rw[Cv,vq bs n (by omega)];simp only[];rw[kh (by simp;omega) (Tr _)];simp only[List.drop_drop];refine Prod.ext ?_ ?_
  ·simp only[];congr 1
  ·funext i;simp only[cy];by_cases h1:i=n
   ·subst h1;simp
   ·by_cases h2:i<n
    ·have:i<n+1:=by omega
     simp [h1,h2,this]
    ·have:¬i<n+1:=by omega
     simp [h1,h2,this]
theorem KK (bs:List UInt8):∀n,(Cv ⟨bs,false⟩ n).1.bK=false→4*n≤bs.length
 |0,_=>by omega
 |n+1,h=>by
  rw[Cv] at h;obtain⟨h1,h2,_,_⟩:=iH h;have:=KK bs n h1;rw[vq bs n this] at h2;simp at h2;omega
theorem IX {bs:List UInt8} {i:Nat} (h:i<bs.length):(bs.drop i).take 1=[bs.getD i 0]:=by
 rw[List.drop_eq_getElem_cons h];simp only[List.getD,List.getElem?_eq_getElem h,Option.getD_some,List.take_succ_cons,List.take_zero]
theorem gO {bs:List UInt8} {i:Nat} (h:i<bs.length):dI ((bs.drop i).take 1)=(bs.getD i 0).toNat:=by
 rw[IX h];simp [dI]
theorem Cw {bs:List UInt8} (h:bs.length=43):dI ((bs.drop 39).take 4)≤2147483647↔(bs.getD 42 0).toNat≤127:=by
 have e:(bs.drop 39).take 4=(bs.drop 39).take 3++[bs.getD 42 0]:=by
  rw[List.take_add_one,List.getElem?_drop];simp [List.getD,h]
 have h3:=xO ((bs.drop 39).take 3);have hl:((bs.drop 39).take 3).length=3:=by simp [h]
 rw[e,qh,hl];rw[hl] at h3;have h2:(256:Nat) ^ 3=16777216:=by decide
 rw[h2] at h3⊢;simp only[dI];omega
theorem V7 (bs:List UInt8):Sf bs=Ez bs:=by
 unfold Sf Ez;by_cases hl:bs.length=43
 ·have h1:Cv ⟨bs,false⟩ 8=_:=vq bs 8 (by omega);have h2:(RS.mk (bs.drop 32) false).num 1 255=_:=kh (by simp;omega) (by rw[gO (by omega)];have:=(bs.getD 32 0).toNat_lt;omega);by_cases h33:(bs.getD 33 0).toNat≤8
  ·have h3:(RS.mk (bs.drop 33) false).num 1 8=_:=kh (by simp;omega) (by rw[gO (by omega)];exact h33);have h4:(RS.mk (bs.drop 34) false).num 4 4294967295=_:=kh (by simp;omega) (Tr _);by_cases h38:(bs.getD 38 0).toNat≤1
   ·have h5:(RS.mk (bs.drop 38) false).num 1 1=_:=kh (by simp;omega) (by rw[gO (by omega)];exact h38);by_cases h42:(bs.getD 42 0).toNat≤127
    ·have h6:(RS.mk (bs.drop 39) false).num 4 2147483647=_:=kh (by simp;omega) ((Cw hl).2 h42)
     have hd:tE bs=⟨ma bs,dI ((bs.drop 39).take 4),⟨[],false⟩⟩:=by
      unfold tE An ma;simp only[h1,h2,List.drop_drop,h3,h4,h5,h6,gO (show 32<bs.length by omega),gO (show 33<bs.length by omega),gO (show 38<bs.length by omega)];simp [hl]
     have hg:nZ bs=true:=by unfold nZ;rw[decide_eq_true hl,decide_eq_true h33,decide_eq_true h38,decide_eq_true h42];rfl
     rw[hd,hg];simp
    ·have h6:(RS.mk (bs.drop 39) false).num 4 2147483647=_:=uT (by simp;omega) (by have:=Cw hl;omega)
     have hd:(tE bs).e.bK=true:=by
      unfold tE An;simp only[h1,h2,List.drop_drop,h3,h4,h5,h6]
     have hg:nZ bs=false:=by unfold nZ;rw[decide_eq_false h42];simp
     rw[hd,hg];simp
   ·have h5:(RS.mk (bs.drop 38) false).num 1 1=_:=uT (by simp;omega) (by rw[gO (by omega)];omega)
    have hd:(tE bs).e.bK=true:=by
     unfold tE An;simp only[h1,h2,List.drop_drop,h3,h4,h5];exact uU rfl
    have hg:nZ bs=false:=by unfold nZ;rw[decide_eq_false h38];simp
    rw[hd,hg];simp
  ·have h3:(RS.mk (bs.drop 33) false).num 1 8=_:=uT (by simp;omega) (by rw[gO (by omega)];omega)
   have hd:(tE bs).e.bK=true:=by
    unfold tE An;simp only[h1,h2,List.drop_drop,h3];exact uU (uU (uU rfl))
   have hg:nZ bs=false:=by unfold nZ;rw[decide_eq_false h33];simp
   rw[hd,hg];simp
 ·have hg:nZ bs=false:=by unfold nZ;rw[decide_eq_false hl];simp
  rw[hg,if_neg (fun h:false=true∧_=>by cases h.1),if_neg];rintro⟨hb,he,_⟩;unfold tE An at hb he;simp only[] at hb he;obtain⟨b1,l1,_,e1⟩:=iH hb;obtain⟨b2,l2,_,e2⟩:=iH b1;obtain⟨b3,l3,_,e3⟩:=iH b2;obtain⟨b4,l4,_,e4⟩:=iH b3;obtain⟨b5,l5,_,e5⟩:=iH b4;have hk:=KK bs 8 b5;have h1:Cv ⟨bs,false⟩ 8=_:=vq bs 8 hk;rw[e1,e2,e3,e4,e5,h1] at he;rw[e2,e3,e4,e5,h1] at l1;rw[List.drop_drop,List.drop_drop,List.drop_drop,List.drop_drop,List.drop_drop,List.drop_eq_nil_iff] at he;simp at l1;omega
section
variable {B:ag} {L:List cv} {H:ag} {K:V→ag→Prop} {q:Oq} {cap:Nat} {bs:List UInt8} {id:Nat}
theorem Cx {Kr:Am.St→Prop} {Ke:Nat→Am.St→Prop}:∀(n i:Nat) {H:ag},i+n=8→nJ B H L id (Cv ⟨bs,false⟩ i).1→(∀H',nJ B H' L id (Cv ⟨bs,false⟩ 8).1→Ke 0 (St.mk (ab [(2,T.lp 2 0),(5,T.v (V.aj (some (id,0)))),(6,T.lp 6 0)]) (ab [(2,aR.cells 46 (bE 0 0 0 0 0 0 0 0 0 0 0 false)),(6,aR.cells 46 (R.cs ⟨(Cv ⟨bs,false⟩ 8).2,0,0,0,false⟩))]) H'))→lo 41 4 (St.mk (ab [(2,T.lp 2 0),(5,T.v (V.aj (some (id,0)))),(6,T.lp 6 0),(11,T.v (V.int .i64 (i:Int)))]) (ab [(2,aR.cells 46 (bE 0 0 0 0 0 0 0 0 0 0 0 false)),(6,aR.cells 46 (R.cs ⟨(Cv ⟨bs,false⟩ i).2,0,0,0,false⟩))]) H) Kr Ke
 |0,i,H,hi,h,k=>by
  obtain rfl:i=8:=by omega
  have:=k _ h;unfold R.cs at this⊢;rw[N5];(try simp only[NQ]);exact this
 |n+1,i,H,hi,h,k=>by
  have e1:decide ((i:Int)<8)=true:=by simp;omega
  have e2:decide (0≤(i:Int))=true:=by simp
  have e3:0+Int.toNat (i:Int)*1=i:=by simp
  have hm:=Ao (Cv ⟨bs,false⟩ i).1 4 4294967295;unfold R.cs;rw[N5];(try simp only[NQ]);rw[aK (by omega),e1,ak];refine kF h 4 4294967295 (by omega) (fun H' h'=> ?_);rw[aZ,uK (by omega)];have hst:=iA (((Cv ⟨bs,false⟩ i).1.num 4 4294967295).1:Nat) 0 0 false (show i<8 by omega);have QG:=oN ⟨(Cv ⟨bs,false⟩ i).2,0,0,0,false⟩ (show i<8 by omega) (((Cv ⟨bs,false⟩ i).1.num 4 4294967295).1:Nat) 0 0 0 false;simp only[e1,e2,e3,hst,QG,cP,ak,aw,Bool.and_self];exact Cx n (i+1) (by omega) h' k
def IY:Option (R×Nat)→V
 |some (r,n)=>.tuple [.agg r.cs,.int .i64 (n:Int),.int .i64 0]
 |none=>.tuple [.agg (bE 0 0 0 0 0 0 0 0 0 0 0 false),.int .i64 0,.int .i64 3]
theorem Ml (h:az B H L) (hr:k6 B L q bs) (hc:bs.length≤cap) (k:∀H',az B H' L→K (IY (Ez bs)) H'):cl 41 [.slice q bs.length cap] H K:=by
 rw[ab1];(try simp only[NQ]);refine JR h hr hc (fun id H1 h1=> ?_);simp only[AK,reduceIte,Nat.reduceEqDiff];refine Cx (bs:=bs) 8 0 (by omega) h1 (fun H2 h2=> ?_);have hk':∀H',az B H' L→K (IY (Sf bs)) H':=fun H' h'=>by rw[V7];exact k H' h'
 unfold Sf tE at hk';generalize Cv ⟨bs,false⟩ 8=s at h2 hk'⊢;obtain⟨s,ks⟩:=s;unfold R.cs;simp only[AK,reduceIte,Nat.reduceEqDiff,f45,T3,NC,ND,NF,NG,NH,NI,NJ,NK,NL,NM,HV,HW];refine kF h2 1 255 (by omega) (fun H3 h3=> ?_);simp only[AK,reduceIte,Nat.reduceEqDiff];refine kF h3 1 8 (by omega) (fun H4 h4=> ?_);simp only[AK,reduceIte,Nat.reduceEqDiff];refine kF h4 4 4294967295 (by omega) (fun H5 h5=> ?_);simp only[AK,reduceIte,Nat.reduceEqDiff];refine kF h5 1 1 (by omega) (fun H6 h6=> ?_);simp only[AK,reduceIte,Nat.reduceEqDiff];refine kF h6 4 2147483647 (by omega) (fun H7 h7=> ?_);have m1:=Ao s 1 255;have m2:=Ao (s.num 1 255).2 1 8;have m3:=Ao ((s.num 1 255).2.num 1 8).2 4 4294967295;have m4:=Ao ((((s.num 1 255).2.num 1 8).2.num 4 4294967295).2.num 1 1).2 4 2147483647
 have hd:An (s,ks)=⟨⟨ks,((s.num 1 255).1:Nat),(((s.num 1 255).2.num 1 8).1:Nat)-1,((((s.num 1 255).2.num 1 8).2.num 4 4294967295).1:Nat),
  decide ((((((s.num 1 255).2.num 1 8).2.num 4 4294967295).2.num 1 1).1:Int)=1)⟩,(((((s.num 1 255).2.num 1 8).2.num 4 4294967295).2.num 1 1).2.num 4 2147483647).1,(((((s.num 1 255).2.num 1 8).2.num 4 4294967295).2.num 1 1).2.num 4 2147483647).2⟩:=rfl
 simp only[hd] at hk';simp only[AK,reduceIte,Nat.reduceEqDiff,VC h7];dsimp+instances only[aZ];obtain⟨q7,c7,_,_,h7⟩:=h7.ex;have hk:=hk' H7 h7.drop;generalize s.num 1 255=a at m1 m2 m3 m4 hk⊢;generalize a.2.num 1 8=b at m2 m3 m4 hk⊢;generalize b.2.num 4 4294967295=c at m3 m4 hk⊢;generalize c.2.num 1 1=d at m4 hk⊢;generalize d.2.num 4 2147483647=e at m4 hk⊢;rw[xc,uJ (n:=b.1) (by omega),bu (by omega) (by omega),uK (by omega),uJ (by omega)];have e8:((UInt8.ofNat a.1).toNat:Int)=(a.1:Nat):=by simp;omega
 rw[e8,R.sj ks];generalize R.mk ks (a.1:Nat) ((b.1:Nat)-1) (c.1:Nat) (decide ((d.1:Int)=1))=r at hk⊢;simp only[PX];cases hb:e.2.bK
 ·by_cases hn:e.2.bs=[]
  ·cases hf:o8 r
   ·simpa [hb,hn,hf,IY] using hk
   ·simpa [hb,hn,hf,IY] using hk
  ·simpa [hb,hn,IY] using hk
 ·simpa [hb,IY] using hk
end
def KF:Nat:=200
structure Un where
 s:FS
 ps:List Pg
 r:R
 down:Bool
def GK (g:cn) (s:FS) (p:Pg):Option (FS×Int):=
 if p.cx=true then Kf g KF s p.ao.toNat else vb g KF KF s (Tl p.ao.toNat p.data)
def g8 (g:cn):List Pg→FS→List Pg→Option (FS×List Pg×Int)
 |[],s,ps=>some (s,ps,0)
 |p::l,s,ps=>match GK g s p with
  |none=>none
  |some r=>if r.2=0 then g8 g l r.1 (fF ps p.ao) else some (r.1,ps,r.2)
def EA (g:cn) (s:FS) (ps:List Pg) (p:Pg) (sure:Bool):Option (FS×List Pg×Int):=
 if sure=true then (match GK g s p with
  |none=>none
  |some r=>if r.2=0 then some (r.1,fF ps p.ao,0) else some (r.1,ps,r.2))
 else if (gV ps p).2≠11 then some (s,(gV ps p).1,0)
 else match g8 g ps s ps with
  |none=>none
  |some r=>if r.2.2=0 then some (r.1,(gV r.2.1 p).1,(gV r.2.1 p).2) else some r
def iJ (u:Un):Un×Int:=
 if u.s.a.off=true then ({u with down:=true},9) else if u.down=true∨(u.s.f.ep:Int)<u.s.a.aM then ({u with down:=true},7) else (u,0)
structure Ui where
 iN:Nat
 AL:Nat
 aN:Nat
 fid:Nat
 mid:Nat
 pid:Nat
def M4 (x:Ui) (m:Gm) (u:Un):List V:=
 c92 (some (x.aN,0)) m.g.aE m.g.aA m.g.aH m.q m.g.bK.length m.c (some (x.fid,0)) (some (x.AL,0)) (u.r.k 0) (u.r.k 1) (u.r.k 2) (u.r.k 3) (u.r.k 4) (u.r.k 5) (u.r.k 6) (u.r.k 7) u.r.ty u.r.ho u.r.ge u.r.la u.down
section
variable {B:ag} {L:List cv} {H:ag} {K:V→ag→Prop} {x:Ui} {m:Gm} {u:Un}
abbrev eX (B H:ag) (x:Ui) (m:Gm) (u:Un) (L:List cv):Prop:=
 az B H (df x.iN 93 (M4 x m u)::eS x.AL u.ps::df x.fid 120 (RP x.aN m u.s.f x.mid x.pid)::u6 x.mid u.s.f.pm::D5 x.pid u.s.f.po::dJ x.aN u.s.a::L)
theorem eX.fs (h:eX B H x m u L):fQ B H x.aN x.fid x.mid x.pid m u.s (df x.iN 93 (M4 x m u)::eS x.AL u.ps::L):=h.ord [2,2,2,2]
theorem eX.nX (h:eX B H x m u L):az B H (eS x.AL u.ps::df x.iN 93 (M4 x m u)::df x.fid 120 (RP x.aN m u.s.f x.mid x.pid)::u6 x.mid u.s.f.pm::D5 x.pid u.s.f.po::dJ x.aN u.s.a::L):=h.ord [1]
theorem eX.arr (h:eX B H x m u L):az B H (dJ x.aN u.s.a::df x.iN 93 (M4 x m u)::eS x.AL u.ps::df x.fid 120 (RP x.aN m u.s.f x.mid x.pid)::u6 x.mid u.s.f.pm::D5 x.pid u.s.f.po::L):=h.ord [5]
theorem eX.V8 {s:FS} (h:fQ B H x.aN x.fid x.mid x.pid m s (df x.iN 93 (M4 x m u)::eS x.AL u.ps::L)):eX B H x m {u with s:=s} L:=h.ord [4,4]
structure UnG (H:ag) (x:Ui) (m:Gm) (u:Un):Prop where
 i:∀k<20,H.inb x.iN k 1=true
 c0:H.cell x.iN 0=.aj (some (x.aN,0))
 c5:H.cell x.iN 5=.aj (some (x.fid,0))
 c6:H.cell x.iN 6=.aj (some (x.AL,0))
 c19:H.cell x.iN 19=.bool u.down
 g:H.inb x.iN 1 4=true∧H.sub x.iN 1 4=dN m.g.aE m.g.aA m.g.aH m.q m.g.bK.length m.c
 r:H.inb x.iN 7 12=true∧H.sub x.iN 7 12=u.r.cs
 w:H.wr x.iN 19 1=true
 wr:H.wr x.iN 7 12=true
theorem Bj (h:eX B H x m u L):UnG H x m u:=by
 have hg:=h.get;refine⟨fun k hk=>nH hg (by show k<20;exact hk),aY hg 0,aY hg 5,aY hg 6,aY hg 19,⟨dE hg 1 4, ?_⟩,⟨dE hg 7 12, ?_⟩,fI hg 19 1,fI hg 7 12⟩
 ·rw[kR hg];rfl
 ·rw[kR hg];rfl
theorem eX.vr (h:eX B H x m u L) (b:Bool):eX B (H.store x.iN 19 [.bool b]) x m {u with down:=b} L:=by
 obtain⟨w,h1⟩:=az.BT (k:=19) h (by show 19<20;omega) (.bool b);exact h1
theorem GL (h:eX B H x m u L) (k:∀H',eX B H' x m (iJ u).1 L→K (.int .i64 (iJ u).2) H'):cl 44 [.aj (some (x.iN,0))] H K:=by
 have g:=Bj h;rw[abu];simp only[AN,reduceIte,Nat.reduceEqDiff,Option.isSome_some,Nat.zero_add,g.i 0 (by omega),g.c0];rw[Z2 h.arr];simp only[AN,reduceIte,Nat.reduceEqDiff];unfold iJ at k;by_cases ho:u.s.a.off=true
 ·rw[if_pos ho] at k;simp only[ho,Bool.not_true,Bool.not_false,ak,g.w,Option.isSome_some,Nat.zero_add,aw];exact k _ (h.vr true)
 rw[if_neg ho] at k;have ho':u.s.a.off=false:=by simpa using ho
 have FN:∀K:V→ag→Prop,cl 76 [.aj (some (x.aN,0))] H K=K (.int .u64 u.s.a.aM) H:=fun K=>Ot h.arr
 have EP:∀K:V→ag→Prop,cl 58 [.aj (some (x.fid,0))] H K=K (.int .u64 (u.s.f.ep:Int)) H:=fun K=>Cd h.fs
 simp only[ho',Bool.not_false,Bool.not_true,ai,eg,Option.isSome_some,Nat.zero_add,g.i 19 (by omega),g.c19,g.i 0 (by omega),g.c0,g.i 5 (by omega),g.c5,FN,EP,g.w,AJ,reduceIte,Nat.reduceEqDiff];by_cases hd:u.down=true
 ·rw[if_pos (.inl hd)] at k;have:=k _ (h.vr true);simp only[hd,Bool.not_true,ai,ak,and_self];exact this
 ·have hd':u.down=false:=by simpa using hd
  simp only[hd',Bool.not_false,ak];by_cases hf:(u.s.f.ep:Int)<u.s.a.aM
  ·rw[if_pos (.inr hf)] at k;have:=k _ (h.vr true);have hf':u.s.a.aM>(u.s.f.ep:Int):=hf;simp only[hf',decide_true,ak,and_self];exact this
  ·rw[if_neg (fun e=>e.elim hd hf)] at k;have hf':¬u.s.a.aM>(u.s.f.ep:Int):=hf;simp only[hf',decide_false,ai,and_self];exact k H h
theorem Cy (h:eX B H x m u L):cl 24 [.aj (some (x.iN,0))] H K=K (.int .i64 (u.ps.length:Int)) H:=by
 have g:=Bj h;have LN:∀K:V→ag→Prop,cl 53 [.aj (some (x.AL,0))] H K=K (.int .i64 (u.ps.length:Int)) H:=fun K=>VY h.nX
 rw[abj];simp only[Option.isNone_some,Option.isSome_some,Nat.zero_add,g.i 6 (by omega),g.c6,LN,AJ,reduceIte,Nat.reduceEqDiff]
theorem GM (h:eX B H x m u L):cl 15 [.aj (some (x.iN,0))] H K=K (.agg u.r.cs) H:=by
 have g:=Bj h;rw[abe];simp only[Option.isNone_some,Option.isSome_some,Nat.zero_add,g.r.1,g.r.2,R.da,R.dF,AJ,reduceIte,Nat.reduceEqDiff]
theorem Mm (h:eX B H x m u L):cl 36 [.aj (some (x.iN,0))] H K=K (.int .u64 (u.s.f.ep:Int)) H:=by
 have g:=Bj h;have EP:∀K:V→ag→Prop,cl 58 [.aj (some (x.fid,0))] H K=K (.int .u64 (u.s.f.ep:Int)) H:=fun K=>Cd h.fs
 rw[abo];simp only[Option.isNone_some,Option.isSome_some,Nat.zero_add,g.i 5 (by omega),g.c5,EP,AJ,reduceIte,Nat.reduceEqDiff]
theorem IZ (h:eX B H x m u L) (hok:ba m.g u.s) (k:∀H',eX B H' x m u L→K (.int .i64 (u.s.f.po.count 3:Int)) H'):cl 33 [.aj (some (x.iN,0))] H K:=by
 have g:=Bj h;rw[abn];simp only[Option.isNone_some,Option.isSome_some,Nat.zero_add,g.i 5 (by omega),g.c5,AJ,reduceIte,Nat.reduceEqDiff];refine IA h.fs hok (fun H1 h1=> ?_);simp only[AJ,reduceIte,Nat.reduceEqDiff];exact k H1 (eX.V8 h1)
structure GN (g:cn) (p:Pg):Prop where
 lo:0≤p.ao
 hi:p.ao≤g.cap
 dl:p.data.length≤64
theorem KL (hm:dA B L m) (hg:m.g.In) (hcap:m.g.cap<65000) (h:eX B H x m u L) (hok:ba m.g u.s) {p:Pg} (hp:GN m.g p) {q:Oq} {c:Nat} (hr:p.cx=false→k6 B L q p.data) {r:FS×Int} (hf:GK m.g u.s p=some r) (k:ba m.g r.1→∀H',eX B H' x m {u with s:=r.1} L→K (.int .i64 r.2) H'):cl 91 [.aj (some (x.iN,0)),.agg (gh p.ao q p.data.length c p.cx)] H K:=by
 have g:=Bj h;obtain⟨a,ha⟩:∃a:Nat,p.ao=(a:Int):=⟨p.ao.toNat,by have:=hp.lo;omega⟩;have hm2:dA B (df x.iN 93 (M4 x m u)::eS x.AL u.ps::L) m:=(hm.bS _).bS _;have hhi:=hp.hi;rw[abQ];unfold GK at hf;rw[ha,Int.toNat_natCast] at hf;rw[ha];by_cases hh:p.cx=true
 ·rw[if_pos hh] at hf;simp only[hh,ak,Option.isSome_some,Nat.zero_add,g.i 5 (by omega),g.c5,AJ,reduceIte,Nat.reduceEqDiff];refine Pa hm2 hg hcap (by omega) hf hok h.fs (fun eT H1 h1=> ?_);simp only[AJ,reduceIte,Nat.reduceEqDiff];exact k eT H1 (eX.V8 h1)
 ·rw[if_neg hh] at hf;have hh':p.cx=false:=by simpa using hh
  simp only[hh',ai,Option.isSome_some,Nat.zero_add,g.i 5 (by omega),g.c5,AJ,reduceIte,Nat.reduceEqDiff];refine Cc hm2 hg hcap (((hr hh').bS _).bS _) (by omega) hp.dl hf hok h.fs (fun eT H1 h1=> ?_);simp only[AJ,reduceIte,Nat.reduceEqDiff];exact k eT H1 (eX.V8 h1)
end
theorem KM (ps:List Pg) (a:Int):(fF ps a).length≤ps.length:=by
 unfold fF;split
 ·exact(List.eraseIdx_sublist ps _).length_le
 ·exact Nat.le_refl _
section
variable {B:ag} {L:List cv} {H:ag} {K:V→ag→Prop} {x:Ui} {m:Gm} {u:Un}
theorem Cz (hm:dA B L m) (hg:m.g.In) (hcap:0≤m.g.cap∧m.g.cap<65000) {al:List Rp} {q8:Oq} {c8:Nat} (hb:al.length≤8) (hin:∀r∈al,GN m.g r.p) {Kr:Am.St→Prop} {Ke:Nat→Am.St→Prop}:∀(n i:Nat) (u:Un) {H:ag} {r:FS×List Pg×Int},i+n=al.length→g8 m.g ((al.map Rp.p).drop i) u.s u.ps=some r→ba m.g u.s→dS u.ps→u.ps.length≤8→eX B H x m u (Rw 138 3 q8 c8 (al.map Rp.cs)::bw (al.map Rp.bX)::L)→(r.2.2=0→ba m.g r.1→∀H',eX B H' x m {u with s:=r.1,ps:=r.2.1} (Rw 138 3 q8 c8 (al.map Rp.cs)::bw (al.map Rp.bX)::L)→Ke 0 (St.mk (ab []) (ab []) H'))→(r.2.2≠0→ba m.g r.1→∀H',eX B H' x m {u with s:=r.1,ps:=r.2.1} (Rw 138 3 q8 c8 (al.map Rp.cs)::bw (al.map Rp.bX)::L)→Kr (St.mk (ab [(2,T.v (V.int .i64 r.2.2))]) (ab []) H'))→lo 54 2 (St.mk (ab [(0,T.v (V.aj (some (x.iN,0)))),(10,T.v (V.slice q8 al.length c8)),(11,T.v (V.int .i64 (al.length:Int))),(12,T.v (V.int .i64 (i:Int)))]) (ab []) H) Kr Ke
 |0,i,u,H,r,hi,hf,hok,hs,hl,h,k1,k2=>by
  obtain rfl:i=al.length:=by omega
  rw[NY,decide_eq_false (by omega),ai];rw[List.drop_of_length_le (by simp),g8] at hf;cases hf;exact k1 rfl hok H h
 |n+1,i,u,H,r,hi,hf,hok,hs,hl,h,k1,k2=>by
  have hlt:i<al.length:=by omega
  have g:=Bj h;obtain⟨s1,s2',I8⟩:=lf (h.ord [6]).lO hlt;have s2:H.inb (pb q8) (po q8+i*3) 3=true:=s2';have s3:H.sub (pb q8) (po q8+i*3) 3=al[i].cs:=I8;have e1:(i:Int)<(al.length:Int):=by omega
  have e2:0≤(i:Int):=by omega
  have e3:IntKind.i64.wrap ((i:Int)+1)=((i+1:Nat):Int):=aK (by omega);have WL:=hin _ (List.getElem_mem hlt);have hlo:=WL.lo;have hhi:=WL.hi;have n0:ae al[i].cs 0=.int .i64 al[i].p.ao:=rfl;have hop:vX (al[i].cs)=al[i].cs:=rfl;rw[List.drop_eq_getElem_cons (by simpa using hlt),List.getElem_map,g8] at hf;rw[NY];simp only[e1,e2,s1,s2,s3,Rp.aI,n0,hop,decide_true,ak,Int.toNat_natCast,AJ,reduceIte,Nat.reduceEqDiff]
  cases WM:GK m.g u.s al[i].p with
  |none=>rw[WM] at hf;cases hf
  |some o=>
   rw[WM] at hf;dsimp only at hf;have hr:al[i].p.cx=false→k6 B (Rw 138 3 q8 c8 (al.map Rp.cs)::bw (al.map Rp.bX)::L) al[i].q al[i].p.data:=fun _ H hs=>z5 hs.drop hlt
   change cl 91 [V.aj (some (x.iN,0)),V.agg (gh al[i].p.ao al[i].q al[i].p.data.length al[i].c al[i].p.cx)] H _
   refine KL ((hm.bS _).bS _) hg hcap.2 h hok WL (c:=al[i].c) hr WM ?_;intro gk H1 h1;have g1:=Bj h1;simp only[AJ,reduceIte,Nat.reduceEqDiff];by_cases he:o.2=0
   ·rw[if_pos he] at hf;simp only[he,decide_true,Bool.not_true,ai,Option.isSome_some,Nat.zero_add,g1.i 6 (by omega),g1.c6,AJ,reduceIte,Nat.reduceEqDiff];refine Kx h1.nX hs hl ⟨by omega,by omega⟩ (fun H2 h2=> ?_);simp only[e3];have h3:eX B H2 x m {u with s:=o.1,ps:=fF u.ps al[i].p.ao} (Rw 138 3 q8 c8 (al.map Rp.cs)::bw (al.map Rp.bX)::L):=h2.ord [1];exact Cz hm hg hcap hb hin n (i+1) {u with s:=o.1,ps:=fF u.ps al[i].p.ao} (by omega) hf gk (wB hs _) (Nat.le_trans (KM _ _) hl) h3 k1 k2
   ·rw[if_neg he] at hf;cases hf;simp only[he,decide_false,Bool.not_false,ak];exact k2 he gk H1 h1
theorem tF (hm:dA B L m) (hg:m.g.In) (hcap:0≤m.g.cap∧m.g.cap<65000) (h:eX B H x m u L) (hok:ba m.g u.s) (hs:dS u.ps) (hl:u.ps.length≤8) (hin:∀p∈u.ps,GN m.g p) {r:FS×List Pg×Int} (hf:g8 m.g u.ps u.s u.ps=some r) (k:ba m.g r.1→∀H',eX B H' x m {u with s:=r.1,ps:=r.2.1} L→K (.int .i64 r.2.2) H'):cl 54 [.aj (some (x.iN,0))] H K:=by
 have g:=Bj h;rw[abx];simp only[Option.isSome_some,Nat.zero_add,g.i 6 (by omega),g.c6,AJ,reduceIte,Nat.reduceEqDiff];refine V0 h.nX hs hl (fun q8 c8 H1 h1=> ?_);obtain⟨al,CM,h2⟩:=az.aA h1;simp only[AJ,reduceIte,Nat.reduceEqDiff];have hla:al.length=u.ps.length:=by rw[←CM,List.length_map]
 rw[←hla];have h3:eX B H1 x m u (Rw 138 3 q8 c8 (al.map Rp.cs)::bw (al.map Rp.bX)::L):=h2.ord [3,2,2,2,2,2];refine Cz hm hg hcap (by omega) (fun r hr=>hin _ (by rw[←CM];exact List.mem_map.2 ⟨r,hr,rfl⟩)) al.length 0 u (by omega) (by rw[List.drop_zero,CM];exact hf) hok hs hl h3 (fun h0 eT H4 h4=> ?_) (fun h0 eT H4 h4=> ?_)
 ·simp only[AJ,reduceIte,Nat.reduceEqDiff];have:=k eT H4 (h4.ord [6,6]).drop.drop;rw[h0] at this;exact this
 ·simp only[AJ,reduceIte,Nat.reduceEqDiff];exact k eT H4 (h4.ord [6,6]).drop.drop
end
def Mo (g:cn) (u:Un) (h:Int) (c:Cm) (bX:List UInt8):Option (Un×Rs×Int):=
 if l6 h c g.cap.toNat=false then some (u,⟨0,[],R.zero⟩,1) else
 if Hk u.r h c=false then some (u,⟨0,[],R.zero⟩,13) else
 if c.kd=0 then (if fL u.ps c.kG=true then some (u,⟨0,(qD u.ps c.kG).getD [],R.zero⟩,0) else match u.s.nf c.kG.toNat with
  |none=>none
  |some t=>some (u,⟨0,t.data,R.zero⟩,0)) else
 if c.kd=1 then (match EA g u.s u.ps ⟨c.kG,bX,false⟩ c.su with
  |none=>none
  |some r=>some ({u with s:=r.1,ps:=r.2.1},⟨0,[],R.zero⟩,r.2.2)) else
 if c.kd=2 then (match EA g u.s u.ps ⟨c.kG,[],true⟩ c.su with
  |none=>none
  |some r=>some ({u with s:=r.1,ps:=r.2.1},⟨0,[],R.zero⟩,r.2.2)) else
 if c.kd=3 then (match g8 g u.ps u.s u.ps with
  |none=>none
  |some r=>some ({u with s:=r.1,ps:=r.2.1},⟨0,[],R.zero⟩,r.2.2)) else
 if c.kd=9 then some (u,⟨0,[],u.r⟩,0) else
 if (doR u.r h c).2≠0∨cO (doR u.r h c).1.cs u.r.cs=true then some (u,⟨0,[],R.zero⟩,(doR u.r h c).2) else
 match vb g KF KF u.s (Tl g.cap.toNat (gX (doR u.r h c).1 u.s.a.boots.toNat)) with
  |none=>none
  |some r=>if r.2=0 then some ({u with s:=r.1,r:=(doR u.r h c).1},⟨0,[],R.zero⟩,0) else some ({u with s:=r.1},⟨0,[],R.zero⟩,r.2)
def QK (g:cn) (u:Un) (h:Int) (c:Cm) (bX:List UInt8):Option (Un×Rs×Int):=
 if (iJ u).2≠0 then some ((iJ u).1,⟨0,[],R.zero⟩,(iJ u).2) else
 match Mo g u h c bX with
  |none=>none
  |some r=>if r.2.2=7∨r.2.2=9 then some ({r.1 with down:=true},⟨0,[],R.zero⟩,r.2.2) else some (r.1,{r.2.1 with e:=r.2.2},0)
def Ts (g:cn) (u:Un):Option (Un×Int):=
 if (iJ u).2≠0 then some (iJ u) else
 match g8 g u.ps u.s u.ps with
  |none=>none
  |some r=>some ({u with s:=r.1,ps:=r.2.1,down:=u.down||(decide (r.2.2=7)||decide (r.2.2=9))},r.2.2)
section
variable {B:ag} {L:List cv} {H:ag} {K:V→ag→Prop} {x:Ui} {m:Gm} {u:Un}
structure I0 (g:cn) (u:Un):Prop where
 ok:ba g u.s
 sort:dS u.ps
 le8:u.ps.length≤8
 inr:∀p∈u.ps,GN g p
theorem Sg {ps:List Pg} {p:Pg} (h:(gV ps p).2=11):(gV ps p).1=ps:=by
 unfold gV at h⊢;split at h
 ·rename_i h1;rw[if_pos h1]
 ·rename_i h1;rw[if_neg h1];split at h
  ·rename_i h2;rw[if_pos h2]
  ·rename_i h2;rw[if_neg h2];split at h
   ·cases h
   ·rename_i h3;rw[if_neg h3];split at h
    ·rename_i h4;rw[if_pos h4]
    ·cases h
theorem Mp {ps:List Pg} {a:Int} {p:Pg} (h:p∈fF ps a):p∈ps:=by
 unfold fF at h;split at h
 ·exact(List.eraseIdx_sublist ps _).subset h
 ·exact h
theorem CA {g:cn}:∀{l:List Pg} {s:FS} {ps:List Pg} {r:FS×List Pg×Int},g8 g l s ps=some r→dS ps→ps.length≤8→(∀p∈ps,GN g p)→dS r.2.1∧r.2.1.length≤8∧∀p∈r.2.1,GN g p
 |[],s,ps,r,h,h1,h2,h3=>by rw[g8] at h;cases h;exact⟨h1,h2,h3⟩
 |p::l,s,ps,r,h,h1,h2,h3=>by
  rw[g8] at h;split at h
  ·cases h
  ·split at h
   ·exact CA h (wB h1 _) (Nat.le_trans (KM _ _) h2) (fun p hp=>h3 p (Mp hp))
   ·cases h;exact⟨h1,h2,h3⟩
theorem Si (hm:dA B L m) (hg:m.g.In) (hcap:0≤m.g.cap∧m.g.cap<65000) (h:eX B H x m u L) (hu:I0 m.g u) {p:Pg} (hp:GN m.g p) {q:Oq} {c:Nat} (hr:k6 B L q p.data) {sure:Bool} {r:FS×List Pg×Int} (hf:EA m.g u.s u.ps p sure=some r) (k:∀H',eX B H' x m {u with s:=r.1,ps:=r.2.1} L→K (.int .i64 r.2.2) H'):cl 80 [.aj (some (x.iN,0)),.agg (gh p.ao q p.data.length c p.cx),.bool sure] H K:=by
 have g:=Bj h;have hlo:=hp.lo;have hhi:=hp.hi;rw[abO];unfold EA at hf;by_cases hs:sure=true
 ·rw[if_pos hs] at hf;rw[hs,ak]
  cases WM:GK m.g u.s p with
  |none=>rw[WM] at hf;cases hf
  |some o=>
   rw[WM] at hf;dsimp only at hf;refine KL hm hg hcap.2 h hu.ok hp (fun _=>hr) WM (fun gk H1 h1=> ?_);have g1:=Bj h1;simp only[AJ,reduceIte,Nat.reduceEqDiff];by_cases he:o.2=0
   ·rw[if_pos he] at hf;cases hf;simp only[he,decide_true,Bool.not_true,ai,Option.isSome_some,Nat.zero_add,g1.i 6 (by omega),g1.c6,AJ,reduceIte,Nat.reduceEqDiff];refine Kx h1.nX hu.sort hu.le8 ⟨by omega,by omega⟩ (fun H2 h2=> ?_);exact k H2 (h2.ord [1])
   ·rw[if_neg he] at hf;cases hf;simp only[he,decide_false,Bool.not_false,ak];exact k H1 h1
 ·rw[if_neg hs] at hf;have hs':sure=false:=by simpa using hs
  rw[hs',ai];simp only[Option.isSome_some,Nat.zero_add,g.i 6 (by omega),g.c6,AJ,reduceIte,Nat.reduceEqDiff];refine Py h.nX hu.sort hu.le8 p ⟨by omega,by omega⟩ (fun _=>hr H h.drop.drop.drop.drop.drop.drop) (fun H1 h1=> ?_);simp only[AJ,reduceIte,Nat.reduceEqDiff];by_cases CP:(gV u.ps p).2=11
  ·rw[if_neg (fun e=>e CP)] at hf;simp only[CP,decide_true,Bool.not_true,ai];have he:=Sg CP;rw[he] at h1;have h2:eX B H1 x m u L:=h1.ord [1]
   cases hfl:g8 m.g u.ps u.s u.ps with
   |none=>rw[hfl] at hf;cases hf
   |some o=>
    rw[hfl] at hf;dsimp only at hf;refine tF hm hg hcap h2 hu.ok hu.sort hu.le8 hu.inr hfl (fun eT H2 h2=> ?_);have g2:=Bj h2;simp only[AJ,reduceIte,Nat.reduceEqDiff];by_cases h0:o.2.2=0
    ·rw[if_pos h0] at hf;cases hf;simp only[h0,decide_true,Bool.not_true,ai,Option.isSome_some,Nat.zero_add,g2.i 6 (by omega),g2.c6,AJ,reduceIte,Nat.reduceEqDiff];have hfp:=CA hfl hu.sort hu.le8 hu.inr;refine Py h2.nX hfp.1 hfp.2.1 p ⟨by omega,by omega⟩ (fun _=>hr H2 h2.drop.drop.drop.drop.drop.drop) (fun H3 h3=> ?_);simp only[AJ,reduceIte,Nat.reduceEqDiff];exact k H3 (h3.ord [1])
    ·rw[if_neg h0] at hf;cases hf;simp only[h0,decide_false,Bool.not_false,ak];exact k H2 h2
  ·rw[if_pos CP] at hf;cases hf;simp only[CP,decide_false,Bool.not_false,ak];exact k H1 (h1.ord [1])
theorem vt (m:Gm):sW (dN m.g.aE m.g.aA m.g.aH m.q m.g.bK.length m.c)=dN m.g.aE m.g.aA m.g.aH m.q m.g.bK.length m.c:=rfl
theorem vu (m:Gm):aI AD (dN m.g.aE m.g.aA m.g.aH m.q m.g.bK.length m.c)=true:=rfl
theorem GO {ps:List Pg} (hs:dS ps) {a:Int} (hh:fL ps a=true) (hp:bT ps a<ps.length):(qD ps a).getD []=(ps[bT ps a]).data:=by
 rw[Mf hs hh hp];rfl
theorem Sj (hm:dA B L m) (hg:m.g.In) (hcap:0≤m.g.cap∧m.g.cap<65000) (h:eX B H x m u L) (hu:I0 m.g u) (hh:Int) (c:Cm) (bX:List UInt8) (hd:c.dn=bX.length) (hr:k6 B L c.dp bX) (W8:(doR u.r hh c).1.ok) (hb:0≤u.s.a.boots∧u.s.a.boots<2147483648) {r:Un×Rs×Int} (hf:Mo m.g u hh c bX=some r) (k:∀q n H',eX B H' x m r.1 (BY q n r.2.1.d::L)→K (.tuple [.agg (r.2.1.cs q n),.int .i64 r.2.2]) H'):cl 45 [.aj (some (x.iN,0)),.int .i64 hh,.agg c.cs] H K:=by
 have g:=Bj h;obtain⟨N,hN⟩:∃N:Nat,m.g.cap=(N:Int):=⟨m.g.cap.toNat,by omega⟩;have nil:∀{u':Un} {H':ag},eX B H' x m u' L→eX B H' x m u' (BY none 0 []::L):=fun h'=>(kD h').ord [1,1,1,1,1,1]
 have hm6:∀A1 A2 A3 A4 A5 A6:cv,dA B (A1::A2::A3::A4::A5::A6::L) m:=fun A1 A2 A3 A4 A5 A6=>(((((hm.bS _).bS _).bS _).bS _).bS _).bS _
 conv in c.cs=>unfold Cm.cs
 rw[abv];simp only[Cm.rR,Option.isNone_some,Option.isSome_some,Option.getD_some,ai,aw,Nat.zero_add,g.g.1,g.g.2,vt,vu,Bool.and_self,oU,oV,oW];refine Ic h (hm6 _ _ _ _ _ _) hg (fun H1 h1=> ?_);have h1:eX B H1 x m u L:=h1;have g1:=Bj h1;simp only[cP,aZ,aw,hN,PQ,PR,eK,bV,g1.r.1,g1.r.2,R.da,R.dF,Bool.and_self,GH];unfold Mo at hf;rw[hN,Int.toNat_natCast] at hf;cases hv:l6 hh c N
 ·rw[if_pos hv] at hf;cases hf;simp only[Bool.not_false,ak];exact k none 0 H1 (nil h1)
 rw[if_neg (by simp [hv])] at hf;simp only[Bool.not_true,ai];have MG:=hv;unfold l6 at MG;simp only[Bool.and_eq_true,Bool.or_eq_true,Bool.not_eq_true',Bool.or_eq_false_iff,decide_eq_true_eq,decide_eq_false_iff_not] at MG;obtain⟨⟨⟨⟨v1,v2⟩,v3⟩,v4⟩,v5⟩:=MG;cases WN:Hk u.r hh c
 ·rw[if_pos WN] at hf;cases hf;simp only[Bool.not_false,ak];exact k none 0 H1 (nil h1)
 rw[if_neg (by simp [WN])] at hf;simp only[Bool.not_true,ai];by_cases k0:c.kd=0
 ·rw[if_pos k0] at hf;simp only[k0,decide_true,ak,g1.i 6 (by omega),g1.c6,re,jC,Bool.and_self,aw];have xK:=v4.resolve_left (fun e=>e.1.1 k0);refine VZ h1.nX hu.sort hu.le8 ⟨by omega,by omega⟩ (fun hno H2 h2=> ?_) (fun hp q' c' H2 hyes ha h2=> ?_)
  ·rw[if_neg (by simp [hno])] at hf;have h2:eX B H2 x m u L:=h2.ord [1];have g2:=Bj h2
   cases tJ:u.s.nf c.kG.toNat with
   |none=>rw[tJ] at hf;cases hf
   |some t=>
    rw[tJ] at hf;cases hf;simp only[AJ,reduceIte,Nat.reduceEqDiff,Option.isSome_some,Nat.zero_add,g2.i 5 (by omega),g2.c5];obtain⟨a,ha⟩:∃a:Nat,c.kG=(a:Int):=⟨c.kG.toNat,by omega⟩;rw[ha,Int.toNat_natCast] at tJ;rw[ha];refine Gj ((hm.bS _).bS _) h2.fs hu.ok hg (by omega) tJ (fun q3 c3 H3 h3=> ?_);simp only[AJ,reduceIte,Nat.reduceEqDiff];exact k q3 c3 H3 (h3.ord [5,5])
  ·rw[if_pos hyes] at hf;cases hf;have h3:eX B H2 x m u (BY q' c' (u.ps[bT u.ps c.kG]).data::L):=h2.ord [2,1,1,1,1,1];simp only[AJ,reduceIte,Nat.reduceEqDiff];have:=k q' c' H2 (by rw[GO hu.sort hyes hp];exact h3);unfold Rs.cs at this;simp only[GO hu.sort hyes hp] at this;exact this
 rw[if_neg k0] at hf;simp only[k0,decide_false,ai];have hN':m.g.cap.toNat=N:=by omega
 have hput:∀p:Pg,GN m.g p→∀(q:Oq) (cc:Nat),k6 B L q p.data→(match EA m.g u.s u.ps p c.su with
  |none=>none
  |some r=>some ({u with s:=r.1,ps:=r.2.1},(⟨0,[],R.zero⟩:Rs),r.2.2))=some r→
  cl 80 [.aj (some (x.iN,0)),.agg (gh p.ao q p.data.length cc p.cx),.bool c.su] H1 (fun v H'=>ah (V.av (.int .i64) v) (K (V.tuple [V.agg (DG 0 none 0 0 0 0 0 0 0 0 0 0 0 0 0 false),V.int .i64 (V.aa v)]) H')):=by
  intro p hp q cc hrd hf
  cases QQ:EA m.g u.s u.ps p c.su with
  |none=>rw[QQ] at hf;cases hf
  |some o=>
   rw[QQ] at hf;cases hf;refine Si hm hg hcap h1 hu hp hrd QQ (fun H2 h2=> ?_);simp only[AJ,reduceIte,Nat.reduceEqDiff];exact k none 0 H2 (nil h2)
 by_cases k1:c.kd=1
 ·rw[if_pos k1] at hf;simp only[k1,decide_true,ak];have xK:=v4.resolve_left (fun e=>e.1.2 k1);have hdn:c.dn≤64:=v5.resolve_left (fun e=>e k1);rw[hd];exact hput ⟨c.kG,bX,false⟩ ⟨xK.1,by show c.kG≤_;omega,by show bX.length≤64;omega⟩ c.dp c.dc hr hf
 rw[if_neg k1] at hf;simp only[k1,decide_false,ai];by_cases k2:c.kd=2
 ·rw[if_pos k2] at hf;simp only[k2,decide_true,ak];have xK:=v4.resolve_left (fun e=>e.2 k2);exact hput ⟨c.kG,[],true⟩ ⟨xK.1,by show c.kG≤_;omega,Nat.zero_le _⟩ none 0 (k6.nil _ _ _) hf
 rw[if_neg k2] at hf;simp only[k2,decide_false,ai];by_cases k3:c.kd=3
 ·rw[if_pos k3] at hf;simp only[k3,decide_true,ak]
  cases hfl:g8 m.g u.ps u.s u.ps with
  |none=>rw[hfl] at hf;cases hf
  |some o=>
   rw[hfl] at hf;cases hf;refine tF hm hg hcap h1 hu.ok hu.sort hu.le8 hu.inr hfl (fun eT H2 h2=> ?_);simp only[AJ,reduceIte,Nat.reduceEqDiff];exact k none 0 H2 (nil h2)
 rw[if_neg k3] at hf;simp only[k3,decide_false,ai];by_cases k9:c.kd=9
 ·rw[if_pos k9] at hf;cases hf;simp only[k9,decide_true,ak];exact k none 0 H1 (nil h1)
 rw[if_neg k9] at hf;simp only[k9,decide_false,ai,g1.r.1,g1.r.2,R.da,R.dF,Bool.and_self,aw,aaf,dm,eJ,dM,gg,dW,cI,cP,aZ,Bool.or_false,List.length_cons,List.length_nil,Nat.reduceAdd,ik,decide_true,Option.isSome_some,Bool.true_and,Bool.and_true,aO,ite_self];obtain⟨d,Qs⟩:∃d,d=doR u.r hh c:=⟨_,rfl⟩;rw[←Qs] at hf W8⊢;by_cases hq1:d.2=0
 case neg=>
  rw[if_pos (.inl hq1)] at hf;cases hf;simp only[hq1,decide_false,Bool.not_false,Bool.not_true,cond_false,ak];exact k none 0 H1 (nil h1)
 simp only[hq1,decide_true,Bool.not_true,Bool.not_false,cond_true];cases QL:cO d.1.cs u.r.cs
 case true=>
  rw[if_pos (.inr QL)] at hf;cases hf;rw[ak];have:=k none 0 H1 (nil h1);simp only[hq1] at this;exact this
 rw[if_neg (by simp [hq1,QL])] at hf;rw[ai];obtain⟨bt,Na⟩:∃bt:Nat,u.s.a.boots=(bt:Int):=⟨u.s.a.boots.toNat,by omega⟩;rw[Na,Int.toNat_natCast] at hf
 cases QQ:vb m.g KF KF u.s (Tl N (gX d.1 bt)) with
 |none=>rw[QQ] at hf;cases hf
 |some o=>
  rw[QQ] at hf;dsimp only at hf;refine gp (fun S:Am.St=>S.1 14=some (T.v (V.int .i64 o.2))∧eX B S.3 x m {u with s:=o.1} L) (fun(S:Am.St) Hc=> ?_) (fun Q hQ=> ?_)
  ·obtain⟨ac9,hS⟩:=Hc;generalize S.3=H2 at hS⊢;have g2:=Bj hS;simp only[ac9,AJ,reduceIte,Nat.reduceEqDiff];by_cases h0:o.2=0
   ·rw[if_pos h0] at hf;cases hf;simp only[h0,decide_true,Bool.not_true,ai,Option.isSome_some,Nat.zero_add,g2.wr,aw];have h3:=hS.store (off:=7) (vs:=d.1.cs);have e2:bI (M4 x m {u with s:=o.1}) 7 d.1.cs=M4 x m {u with s:=o.1,r:=d.1}:=rfl;rw[e2] at h3;exact k none 0 _ (nil h3)
   ·rw[if_neg h0] at hf;cases hf;simp only[h0,decide_false,Bool.not_false,ak];exact k none 0 H2 (nil hS)
  ·have MT:∀(K:V→ag→Prop),(∀H',eX B H' x m u L→K (.int .i64 (N:Int)) H')→cl 40 [V.agg (dN m.g.aE m.g.aA m.g.aH m.q m.g.bK.length m.c)] H1 K:=fun K k=>by
    rw[←hN] at k;exact uQ h1 (hm6 _ _ _ _ _ _) hg (fun H' h'=>k H' h')
   have BO:∀(H':ag) (K:V→ag→Prop),eX B H' x m u L→cl 43 [V.aj (some (x.aN,0))] H' K=K (.int .i64 (bt:Int)) H':=fun H' K h'=>by
    rw[FY h'.arr,Na]
   have EN:∀(H':ag) (K:V→ag→Prop),eX B H' x m u L→(∀q' c' H2,eX B H2 x m u (BY q' c' (gX d.1 bt)::L)→K (.slice q' (gX d.1 bt).length c') H2)→cl 83 [V.agg d.1.cs,V.int .i64 (bt:Int)] H' K:=fun H' K h' k=>
    Mk d.1 W8 bt (by omega) (by omega) h' (fun q' c' H2 h2=>k q' c' H2 (h2.ord [1,1,1,1,1,1]))
   have hel:(gX d.1 bt).length≤64:=by rw[vp];omega
   have WR:∀(H':ag) (q':Oq) (c':Nat) (K:V→ag→Prop),eX B H' x m u (BY q' c' (gX d.1 bt)::L)→(∀H2,eX B H2 x m {u with s:=o.1} L→K (.int .i64 o.2) H2)→cl 82 [V.aj (some (x.fid,0)),V.int .i64 (N:Int),V.slice q' (gX d.1 bt).length c'] H' K:=fun H' q' c' K h' k=>by
    refine Cc (((hm.bS _).bS _).bS _) hg hcap.2 (L:=df x.iN 93 (M4 x m u)::eS x.AL u.ps::BY q' c' (gX d.1 bt)::L) (fun H hs=>(hs.ord [2]).ja) (by omega) hel QQ hu.ok h'.fs (fun eT H2 h2=>k H2 ?_);exact((h2.ord [4,4,4]).ord [2]).drop
   simp only[Option.isSome_some,Nat.zero_add,g1.i 5 (by omega),g1.c5,g1.i 0 (by omega),g1.c0,g1.g.1,g1.g.2,vt,vu,AJ,reduceIte,Nat.reduceEqDiff]
   repeat' apply And.intro
   all_goals
    refine MT _ (fun H2 h2=> ?_);have g2:=Bj h2;simp only[Option.isSome_some,Nat.zero_add,g2.i 5 (by omega),g2.c5,g2.i 0 (by omega),g2.c0,AJ,reduceIte,Nat.reduceEqDiff,BO H2 _ h2]
    repeat' apply And.intro
    all_goals
     refine EN H2 _ h2 (fun q3 c3 H3 h3=> ?_);have g3:=Bj h3;simp only[Option.isSome_some,Nat.zero_add,g3.i 5 (by omega),g3.c5,AJ,reduceIte,Nat.reduceEqDiff];refine WR H3 q3 c3 _ h3 (fun H4 h4=> ?_);simp only[AJ,reduceIte,Nat.reduceEqDiff];exact hQ _ ⟨rfl,h4⟩
end
section
variable {B:ag} {L:List cv} {H:ag} {K:V→ag→Prop} {x:Ui} {m:Gm} {u:Un}
theorem CB (u:Un):(iJ u).1.s=u.s∧(iJ u).1.ps=u.ps∧(iJ u).1.r=u.r∧((iJ u).2=0→(iJ u).1=u):=by
 unfold iJ;split
 ·exact⟨rfl,rfl,rfl,fun h=>by cases h⟩
 split
 ·exact⟨rfl,rfl,rfl,fun h=>by cases h⟩
 ·exact⟨rfl,rfl,rfl,fun _=>rfl⟩
theorem I1 (hm:dA B L m) (hg:m.g.In) (hcap:0≤m.g.cap∧m.g.cap<65000) (h:eX B H x m u L) (hu:I0 m.g u) (hh:Int) (c:Cm) (bX:List UInt8) (hd:c.dn=bX.length) (hr:k6 B L c.dp bX) (W8:(doR u.r hh c).1.ok) (hb:0≤u.s.a.boots∧u.s.a.boots<2147483648) {r:Un×Rs×Int} (hf:QK m.g u hh c bX=some r) (k:∀q n H',eX B H' x m r.1 (BY q n r.2.1.d::L)→K (.tuple [.agg (r.2.1.cs q n),.int .i64 r.2.2]) H'):cl 16 [.aj (some (x.iN,0)),.int .i64 hh,.agg c.cs] H K:=by
 have nil:∀{u':Un} {H':ag},eX B H' x m u' L→eX B H' x m u' (BY none 0 []::L):=fun h'=>(kD h').ord [1,1,1,1,1,1]
 conv in c.cs=>unfold Cm.cs
 rw[abf];simp only[Cm.rR,Option.isNone_some,ai];refine GL h (fun H1 h1=> ?_);simp only[AJ,reduceIte,Nat.reduceEqDiff];unfold QK at hf;by_cases hl:(iJ u).2=0
 case neg=>
  rw[if_pos hl] at hf;cases hf;simp only[hl,decide_false,Bool.not_false,ak];exact k none 0 H1 (nil h1)
 rw[if_neg (fun e=>e hl)] at hf;rw[(CB u).2.2.2 hl] at h1;simp only[hl,decide_true,Bool.not_true,ai]
 cases ho:Mo m.g u hh c bX with
 |none=>rw[ho] at hf;cases hf
 |some o=>
  rw[ho] at hf;dsimp only at hf;refine Sj hm hg hcap h1 hu hh c bX hd hr W8 hb ho (fun q n H2 h2=> ?_);have h2:eX B H2 x m o.1 (BY q n o.2.1.d::L):=h2;have g2:=Bj h2;simp only[AJ,reduceIte,Nat.reduceEqDiff,Rs.aI,Rs.n1];by_cases h79:o.2.2=7∨o.2.2=9
  ·rw[if_pos h79] at hf;cases hf;have h3:eX B _ x m {o.1 with down:=true} L:=((h2.vr true).ord [6]).drop;by_cases h7:o.2.2=7
   ·simp only[h7,decide_true,Bool.not_true,cond_false,ak,Option.isSome_some,Nat.zero_add,g2.w,AJ,reduceIte,Nat.reduceEqDiff];have:=k none 0 _ (nil h3);simp only[h7] at this;exact this
   ·have h9:o.2.2=9:=h79.resolve_left h7;simp only[h9,decide_true,ak,Option.isSome_some,Nat.zero_add,g2.w,AJ,reduceIte,Nat.reduceEqDiff];have:=k none 0 _ (nil h3);simp only[h9] at this;exact this
  ·rw[if_neg h79] at hf;cases hf;have h7:¬o.2.2=7:=fun e=>h79 (.inl e)
   have h9:¬o.2.2=9:=fun e=>h79 (.inr e)
   simp only[h7,h9,decide_false,Bool.not_false,cond_true,ai];exact k q n H2 h2
theorem PY (hm:dA B L m) (hg:m.g.In) (hcap:0≤m.g.cap∧m.g.cap<65000) (h:eX B H x m u L) (hu:I0 m.g u) {r:Un×Int} (hf:Ts m.g u=some r) (k:∀H',eX B H' x m r.1 L→K (.int .i64 r.2) H'):cl 25 [.aj (some (x.iN,0))] H K:=by
 rw[abk];simp only[Option.isNone_some,ai];refine GL h (fun H1 h1=> ?_);simp only[AJ,reduceIte,Nat.reduceEqDiff];unfold Ts at hf;by_cases hl:(iJ u).2=0
 case neg=>
  rw[if_pos hl] at hf;cases hf;simp only[hl,decide_false,Bool.not_false,ak];exact k H1 h1
 rw[if_neg (fun e=>e hl)] at hf;rw[(CB u).2.2.2 hl] at h1;simp only[hl,decide_true,Bool.not_true,ai]
 cases hfl:g8 m.g u.ps u.s u.ps with
 |none=>rw[hfl] at hf;cases hf
 |some o=>
  rw[hfl] at hf;cases hf;refine tF hm hg hcap h1 hu.ok hu.sort hu.le8 hu.inr hfl (fun eT H2 h2=> ?_);have h2:eX B H2 x m {u with s:=o.1,ps:=o.2.1} L:=h2;have g2:=Bj h2
  have w:∀b:Bool,(u.down||(decide (o.2.2=7)||decide (o.2.2=9)))=b→K (.int .i64 o.2.2) (H2.store x.iN 19 [.bool b]):=fun b hb=>by
   subst hb;exact k _ (h2.vr _)
  simp only[Option.isSome_some,Nat.zero_add,g2.i 19 (by omega),g2.c19,g2.w,AJ,reduceIte,Nat.reduceEqDiff];cases hdn:u.down
  ·simp only[Bool.not_false,ak];by_cases h7:o.2.2=7
   ·have:=w true (by simp [h7]);simp only[h7,decide_true,Bool.not_true,ai] at this⊢;exact this
   ·simp only[h7,decide_false,Bool.not_false,ak];by_cases h9:o.2.2=9
    ·have:=w true (by simp [h9]);simp only[h9,decide_true] at this⊢;exact this
    ·have:=w false (by simp [h7,h9,hdn]);simp only[h9,decide_false];exact this
  ·simp only[Bool.not_true,ai];exact w true (by simp [hdn])
def uM (g:cn) (s:FS):Option Un:=match s.nf g.cap.toNat with
 |none=>none
 |some t=>if t.data.length=0 then some ⟨s,[],R.ic,false⟩ else match Ez t.data with
  |none=>none
  |some d=>some ⟨s,[],qF d.1 d.2 s.a.boots,false⟩
theorem Mq {aN:Nat} {a:Ar} (h:az B H (dJ aN a::L)) (hm:dA B L m) (hf:m.g.cY=true) (hg:m.g.In) (hr:a.rd m.g) (hc:0≤m.g.cap∧m.g.cap<65000) {ep:Nat} (TS:1≤ep∧ep<281474976710656) (At:∀sq,(cE m.g sq a ep).2=0→∃v,uM m.g (cE m.g sq a ep).1=some v) (k1:∀pz x v H',x.aN=aN→xQ pz=a.Be m.g→(cE m.g (eM pz) a ep).2=0→ba m.g (cE m.g (eM pz) a ep).1→uM m.g (cE m.g (eM pz) a ep).1=some v→eX B H' x m v L→K (.tuple [.aj (some (x.iN,0)),.int .i64 0]) H') (k2:∀pz H',xQ pz=a.Be m.g→(cE m.g (eM pz) a ep).2≠0→ba m.g (cE m.g (eM pz) a ep).1→az B H' (dJ aN (cE m.g (eM pz) a ep).1.a::L)→K (.tuple [.aj none,.int .i64 (cE m.g (eM pz) a ep).2]) H'):cl 13 [.aj (some (aN,0)),m.v,.int .u64 (ep:Int)] H K:=by
 obtain⟨N,hN⟩:∃N:Nat,m.g.cap=(N:Int):=⟨m.g.cap.toNat,by omega⟩;have hv:m.v=.agg (dN m.g.aE m.g.aA m.g.aH m.q m.g.bK.length m.c):=rfl;rw[hv,abb, ←hv];simp only[Option.isNone_some,ai];refine LS h hm hf hg hr hc TS (fun pz fid mid pid H1 Hq EO h0 hok h1=> ?_) (fun pz H1 Hq EO h0 hok h1=> ?_)
 ·simp only[AN,reduceIte,Nat.reduceEqDiff];obtain⟨v,KY⟩:=At (eM pz) h0;obtain⟨s,hs⟩:∃s,s=(cE m.g (eM pz) a ep).1:=⟨_,rfl⟩;have SP:=k1 pz;rw[←hs] at h1 hok KY SP;refine gp (fun S:Am.St=>∃iN AL,S.1 10=some (T.v (V.aj (some (iN,0))))∧eX B S.3 ⟨iN,AL,aN,fid,mid,pid⟩ m ⟨s,[],R.ic,false⟩ L) (fun(S:Am.St) Hc=> ?_) (fun Q hQ=> ?_)
  ·obtain⟨iN,AL,WO,hS⟩:=Hc;generalize S.3=H2 at hS⊢;have hm6:∀A1 A2 A3 A4 A5 A6:cv,dA B (A1::A2::A3::A4::A5::A6::L) m:=fun A1 A2 A3 A4 A5 A6=>(((((hm.bS _).bS _).bS _).bS _).bS _).bS _
   simp only[WO,AJ,reduceIte,Nat.reduceEqDiff];refine uQ hS (hm6 _ _ _ _ _ _) hg (fun H3 h3=> ?_);have h3:eX B H3 ⟨iN,AL,aN,fid,mid,pid⟩ m ⟨s,[],R.ic,false⟩ L:=h3;simp only[AJ,reduceIte,Nat.reduceEqDiff,hN];unfold uM at KY;rw[hN,Int.toNat_natCast] at KY
   cases tJ:s.nf N with
   |none=>rw[tJ] at KY;cases KY
   |some t=>
    rw[tJ] at KY;dsimp only at KY;refine Gj ((hm.bS _).bS _) h3.fs hok hg (by omega) tJ (fun q3 c3 H4 h4=> ?_);have h5:eX B H4 ⟨iN,AL,aN,fid,mid,pid⟩ m ⟨s,[],R.ic,false⟩ (BY q3 c3 t.data::L):=h4.ord [5,5];have qJ:=(az.MY (h4.ord [4])).2.2.1;simp only[AJ,reduceIte,Nat.reduceEqDiff];by_cases hl:t.data.length=0
    ·rw[if_pos hl] at KY;cases KY;have e:¬((t.data.length:Nat):Int)>0:=by omega
     simp only[e,decide_false,ai]
     exact SP ⟨iN,AL,aN,fid,mid,pid⟩ _ H4 rfl Hq h0 hok (by
      unfold uM;rw[hN,Int.toNat_natCast,tJ];simp only;rw[if_pos hl]) (h5.ord [6]).drop
    ·rw[if_neg hl] at KY;have e:((t.data.length:Nat):Int)>0:=by omega
     simp only[e,decide_true,ak]
     cases hd:Ez t.data with
     |none=>rw[hd] at KY;cases KY
     |some d=>
      rw[hd] at KY;cases KY;refine Ml h5 (fun H hs=>(hs.ord [6]).ja) qJ (fun H6 h6=> ?_);have h6:eX B H6 ⟨iN,AL,aN,fid,mid,pid⟩ m ⟨s,[],R.ic,false⟩ (BY q3 c3 t.data::L):=h6;have g6:=Bj h6;rw[hd];unfold IY;simp only[AJ,reduceIte,Nat.reduceEqDiff,R.da,R.dF];rw[FY h6.arr];simp only[AJ,reduceIte,Nat.reduceEqDiff,R.da,R.dF,Se,Option.isSome_some,Nat.zero_add,g6.wr];have h7:=h6.store (off:=7) (vs:=(qF d.1 (d.2:Int) s.a.boots).cs);have e2:bI (M4 ⟨iN,AL,aN,fid,mid,pid⟩ m ⟨s,[],R.ic,false⟩) 7 (qF d.1 (d.2:Int) s.a.boots).cs=M4 ⟨iN,AL,aN,fid,mid,pid⟩ m ⟨s,[],qF d.1 (d.2:Int) s.a.boots,false⟩:=rfl;rw[e2] at h7
      exact SP ⟨iN,AL,aN,fid,mid,pid⟩ _ _ rfl Hq h0 hok (by
       unfold uM;rw[hN,Int.toNat_natCast,tJ];simp only;rw[if_neg hl,hd]) (h7.ord [6]).drop
  ·simp only[Ky,AJ,reduceIte,Nat.reduceEqDiff];have a1:=Mg h1;refine⟨?_, ?_⟩
   all_goals
    have a2:=a1.alloc 93 (M4 ⟨0,H1.next,aN,fid,mid,pid⟩ m ⟨s,[],R.ic,false⟩);exact hQ _ ⟨_,H1.next,rfl,a2⟩
 ·simp only[h0,decide_false,Bool.not_false,ak,AJ,reduceIte,Nat.reduceEqDiff];exact k2 pz H1 Hq h0 hok h1
end
theorem CC (k:Nat→Int):∀(n:Nat) (t:List UInt8) (i:Nat),i<n→((xE k n++t).drop (4*i)).take 4=le (k i).toNat 4
 |n+1,t,i,h=>by
  rw[xE,List.append_assoc];by_cases hi:i=n
  ·subst hi;rw[List.drop_left' (by rw[gj]),List.take_left' (by simp)]
  ·exact CC k n _ i (by omega)
theorem wH (r:R) (n:Nat):gX r n=xE r.k 8++(UInt8.ofNat r.ty.toNat::UInt8.ofNat (r.ho+1).toNat::(le r.ge.toNat 4++(UInt8.ofNat (if r.la=true then 1 else 0)::le n 4))):=by
 simp [gX,le]
theorem rJ (r:R) (n j:Nat):(gX r n).getD (32+j) 0=(UInt8.ofNat r.ty.toNat::UInt8.ofNat (r.ho+1).toNat::(le r.ge.toNat 4++(UInt8.ofNat (if r.la=true then 1 else 0)::le n 4))).getD j 0:=by
 rw[wH,List.getD_eq_getElem?_getD,List.getD_eq_getElem?_getD,List.getElem?_append_right (by rw[gj];omega),gj];congr 2;omega
theorem CD (r:R) (n j:Nat):(gX r n).drop (32+j)=(UInt8.ofNat r.ty.toNat::UInt8.ofNat (r.ho+1).toNat::(le r.ge.toNat 4++(UInt8.ofNat (if r.la=true then 1 else 0)::le n 4))).drop j:=by
 rw[wH, ←List.drop_drop,List.drop_left' (by rw[gj])]
theorem Ap {n:Nat} (h:n<4294967296):dI (le n 4)=n:=by
 rw[xN];exact Nat.mod_eq_of_lt (by simpa using h)
theorem GP (bs:List UInt8) (i:Nat):(ma bs).k i=if i<8 then ((dI ((bs.drop (4*i)).take 4):Nat):Int) else 0:=rfl
theorem Mr (bs:List UInt8):(ma bs).ty=((bs.getD 32 0).toNat:Int):=rfl
theorem Ms (bs:List UInt8):(ma bs).ho=((bs.getD 33 0).toNat:Int)-1:=rfl
theorem Mt (bs:List UInt8):(ma bs).ge=((dI ((bs.drop 34).take 4):Nat):Int):=rfl
theorem Mu (bs:List UInt8):(ma bs).la=decide (((bs.getD 38 0).toNat:Int)=1):=rfl
theorem Mv {r:R} (hr:r.ok) (h7:r.ho≤7) {n:Nat} (hn:n<2147483648):(ma (gX r n)).cs=r.cs∧nZ (gX r n)=true∧dI (((gX r n).drop 39).take 4)=n:=by
 have k1:=hr.ty;have k2:=hr.ho;have k3:=hr.ge;have g32:(gX r n).getD 32 0=UInt8.ofNat r.ty.toNat:=rJ r n 0;have g33:(gX r n).getD 33 0=UInt8.ofNat (r.ho+1).toNat:=rJ r n 1
 have g38:(gX r n).getD 38 0=UInt8.ofNat (if r.la=true then 1 else 0):=by
  have:=rJ r n 6;rw[this];simp [le]
 have g42:(gX r n).getD 42 0=UInt8.ofNat (n / 256 / 256 / 256):=by
  have:=rJ r n 10;rw[this];simp [le]
 have d34:((gX r n).drop 34).take 4=le r.ge.toNat 4:=by
  have:=CD r n 2;rw[this];simp [le]
 have d39:((gX r n).drop 39).take 4=le n 4:=by
  have:=CD r n 7;rw[this];simp [le]
 refine⟨?_, ?_, ?_⟩
 ·apply R.PE
  ·intro i hi;have hk:=hr.k i;rw[GP,if_pos hi,wH,CC _ _ _ _ hi,Ap (by omega)];omega
  ·rw[Mr,g32];simp;omega
  ·rw[Ms,g33];simp;omega
  ·rw[Mt,d34,Ap (by omega)];omega
  ·rw[Mu,g38];cases r.la<;>simp
 ·unfold nZ;rw[g33,g38,g42,vp];have e1:(UInt8.ofNat (r.ho+1).toNat).toNat≤8:=by simp;omega
  have e2:(UInt8.ofNat (if r.la=true then 1 else 0)).toNat≤1:=by cases r.la<;>simp
  have e3:(UInt8.ofNat (n / 256 / 256 / 256)).toNat≤127:=by simp;omega
  rw[decide_eq_true e1,decide_eq_true e2,decide_eq_true e3];simp
 ·rw[d39,Ap (by omega)]
theorem Sk {r s:R} (h:r.cs=s.cs):o8 r=o8 s:=by
 obtain⟨hk,h1,h2,h3,h4⟩:=(R.Eo r s).1 ((R.rG r s).2 h)
 have hs:l8 r.k 8=l8 s.k 8:=by
  simp only[l8];rw[hk 0 (by omega),hk 1 (by omega),hk 2 (by omega),hk 3 (by omega),hk 4 (by omega),hk 5 (by omega),hk 6 (by omega),hk 7 (by omega)]
 unfold o8 Al;rw[h1,h2,hs];by_cases h8:s.ho≥8
 ·simp [h8]
 ·by_cases h0:s.ho≥0
  ·rw[hk s.ho.toNat (by omega)]
  ·by_cases h9:s.ho< -1
   ·simp [h9]
   ·have:s.ho= -1:=by omega
    rw[this];have:Int.toNat (-1)=0:=rfl;rw[this,hk 0 (by omega)]
theorem Sl {r:R} (hr:r.ok) (hf:o8 r=true) {n:Nat} (hn:n<2147483648):∃s,Ez (gX r n)=some (s,n)∧s.cs=r.cs:=by
 have h7:r.ho≤7:=by
  unfold o8 at hf;simp at hf;omega
 obtain⟨h1,h2,h3⟩:=Mv hr h7 hn;refine⟨ma (gX r n), ?_,h1⟩;unfold Ez;rw[if_pos ⟨h2,by rw[Sk h1];exact hf⟩,h3]
structure eE (r:R):Prop where
 k:∀i,0≤r.k i∧r.k i≤4294967295
 nz:∀i,8≤i→r.k i=0
 vn:AI r
 ge:0≤r.ge∧r.ge≤4294967295
theorem eE.ic:eE R.ic:=⟨fun _=>by show (0:Int)≤0∧(0:Int)≤_;omega,fun _ _=>rfl,V1,by show (0:Int)≤0∧(0:Int)≤_;omega⟩
theorem eE.Tt {r:R} (h:eE r): -1≤r.ho∧r.ho≤7:=by
 by_cases h0:r.ty=0
 ·rw[h.vn.none h0];omega
 ·by_cases h8:ng r.ty=true
  ·rw[h.vn.all h8];omega
  ·obtain⟨i,hi,e,_⟩:=h.vn.one h0 (by simpa using h8);omega
theorem eE.ok {r:R} (h:eE r):r.ok where
 k:=h.k
 ty:=by
  rcases h.vn.ty with e|e
  ·omega
  ·have:=rH.1 e;omega
 ho:=by have:=h.Tt;omega
 ge:=h.ge
theorem eE.cY {r:R} (h:eE r):o8 r=true:=by
 have hho:=h.Tt;unfold o8;have e1:decide (r.ho< -1)=false:=decide_eq_false (by omega);have e2:decide (r.ho≥8)=false:=decide_eq_false (by omega);rw[e1,e2];simp only[Bool.not_false,Bool.true_and];by_cases h0:r.ty=0
 ·have hone:Al r=false:=by simp [Al,h0]
  have e3:decide (r.ho≥0)=false:=by rw[h.vn.none h0];decide
  rw[hone,e3];simp [h0]
 ·have hr:right r.ty=true:=h.vn.ty.resolve_left h0;have Xi:l8 r.k 8=true:=Ct.2 (h.vn.some h0);by_cases h8:ng r.ty=true
  ·have hone:Al r=false:=by simp [Al,h8]
   have e3:decide (r.ho≥0)=false:=by rw[h.vn.all h8];decide
   rw[hone,e3,hr,Xi];simp
  ·have Xh:ng r.ty=false:=by simpa using h8
   have hone:Al r=true:=by simp [Al,h0,Xh]
   obtain⟨i,hi,e,hk⟩:=h.vn.one h0 Xh;have e3:decide (r.ho≥0)=true:=by rw[e];simp
   have e4:r.ho.toNat=i:=by omega
   rw[hone,e3,hr,Xi,e4];simp [hk]
theorem eE.ext {r s:R} (h:eE r) (hs:∀i,8≤i→s.k i=0) (e:s.cs=r.cs):s=r:=by
 obtain⟨hk,h1,h2,h3,h4⟩:=(R.Eo s r).1 ((R.rG s r).2 e);cases r;cases s;simp only at h1 h2 h3 h4 hk hs;have:∀i,_:=fun i=>hk i
 congr;funext i;by_cases hi:i<8
 ·exact hk i hi
 ·rw[hs i (by omega)];exact(h.nz i (by omega)).symm
theorem eE.acG {r:R} (h:eE r) {n:Nat} (hn:n<2147483648):Ez (gX r n)=some (r,n):=by
 obtain⟨s,h1,h2⟩:=Sl h.ok h.cY hn
 have hs:∀i,8≤i→s.k i=0:=by
  unfold Ez at h1;split at h1
  ·have h1:=congrArg Prod.fst (Option.some.inj h1);simp only at h1;intro i hi;rw[←h1];rw[GP,if_neg (by omega)]
  ·cases h1
 rw[h1,h.ext hs h2]
theorem eE.acH {r:R} (h:eE r) (was now:Int):eE (qF r was now):=by
 unfold qF;split
 ·exact h
 split
 ·exact eE.ic
 ·exact⟨h.k,h.nz,⟨h.vn.ty,h.vn.none,h.vn.all,h.vn.one,h.vn.some⟩,by show (0:Int)≤0∧(0:Int)≤_;omega⟩
theorem vv (x:Int):0≤IntKind.u32.wrap x∧IntKind.u32.wrap x≤4294967295:=by
 rw[IntKind.wrap_u32];omega
theorem eE.leave {r:R} (k:∀i,0≤r.k i∧r.k i≤4294967295) (nz:∀i,8≤i→r.k i=0) (ge:0≤r.ge∧r.ge≤4294967295) (h:Int):(∀i,0≤(jf r h).k i∧(jf r h).k i≤4294967295)∧(∀i,8≤i→(jf r h).k i=0)∧(0≤(jf r h).ge∧(jf r h).ge≤4294967295):=by
 have e:(jf r h).k=cy r.k h.toNat 0∧(jf r h).ge=r.ge:=by
  unfold jf;simp only[];split<;>exact⟨rfl,rfl⟩
 rw[e.1,e.2];refine⟨fun i=> ?_,fun i hi=> ?_,ge⟩
 ·unfold cy;split
  ·omega
  ·exact k i
 ·unfold cy;split
  ·rfl
  ·exact nz i hi
theorem eE.doR {r:R} (hr:eE r) (h:Int) (c:Cm) (hn:0≤c.nw∧c.nw≤4294967295):eE (doR r h c).1:=by
 have hi:=V2 hr.vn h c
 have key:(∀i,0≤(Go.Proofs.YtlgdkndamddpkaaGreat.doR r h c).1.k i∧(Go.Proofs.YtlgdkndamddpkaaGreat.doR r h c).1.k i≤4294967295)∧(∀i,8≤i→(Go.Proofs.YtlgdkndamddpkaaGreat.doR r h c).1.k i=0)∧(0≤(Go.Proofs.YtlgdkndamddpkaaGreat.doR r h c).1.ge∧(Go.Proofs.YtlgdkndamddpkaaGreat.doR r h c).1.ge≤4294967295):=by
  have self:(∀i,0≤r.k i∧r.k i≤4294967295)∧(∀i,8≤i→r.k i=0)∧(0≤r.ge∧r.ge≤4294967295):=⟨hr.k,hr.nz,hr.ge⟩;unfold Go.Proofs.YtlgdkndamddpkaaGreat.doR;split
  ·exact self
  rename_i hv;simp only[Bool.or_eq_true,decide_eq_true_eq,not_or] at hv;split
  ·exact self
  split
  ·exact self
  split
  ·unfold jJ;simp only[];split
   ·exact eE.leave (r:=⟨r.k,r.ty,r.ho,IntKind.u32.wrap (r.ge+1),c.la⟩) hr.k hr.nz (vv _) h
   ·refine⟨fun i=> ?_,fun i hi=> ?_,vv _⟩
    ·show 0≤cy r.k h.toNat c.nw i∧cy r.k h.toNat c.nw i≤4294967295
     unfold cy;split
     ·exact hn
     ·exact hr.k i
    ·show cy r.k h.toNat c.nw i=0
     rw[IL (by omega)];exact hr.nz i hi
  split
  ·split
   ·exact self
   split
   ·exact self
   ·exact self
  split
  ·split
   ·exact self
   split
   ·exact self
   ·exact self
  split
  ·exact⟨fun _=>by show (0:Int)≤0∧(0:Int)≤_;omega,fun _ _=>rfl,vv _⟩
  ·have hkv:(∀i,0≤kV r h c.nw 8 i∧kV r h c.nw 8 i≤4294967295)∧(∀i,8≤i→kV r h c.nw 8 i=0):=by
    refine⟨fun i=> ?_,fun i hi=> ?_⟩
    ·rw[vl];split
     ·omega
     ·exact hr.k i
    ·rw[vl];split
     ·rfl
     ·exact hr.nz i hi
   unfold jg;simp only[];split
   ·exact self
   split
   ·exact self
   split
   ·exact⟨hkv.1,hkv.2,vv _⟩
   ·exact⟨hkv.1,hkv.2,vv _⟩
 exact⟨key.1,key.2.1,hi,key.2.2⟩
def CW:Nat:=8000200
theorem Tu:KF*(KF*KF+1)=CW:=by decide
def vx (su:List (List UInt8)) (t:List UInt8):Nat→List UInt8:=fun i=>if i<su.length then su.getD i [] else if i=su.length then t else []
theorem Sm {su:List (List UInt8)} {t:List UInt8} {i:Nat} (hi:i<su.length) (d:List UInt8):oK (vx su t) i d=vx (su.set i d) t:=by
 funext j;unfold oK vx;rw[List.length_set];by_cases hj:j=i
 ·subst hj;rw[if_pos rfl,if_pos hi,List.getD_eq_getElem?_getD,List.getElem?_set];simp [hi]
 ·rw[if_neg hj];by_cases hl:j<su.length
  ·rw[if_pos hl,if_pos hl,List.getD_eq_getElem?_getD,List.getD_eq_getElem?_getD,List.getElem?_set,if_neg (fun e=>hj e.symm)]
  ·rw[if_neg hl,if_neg hl]
theorem Sn {su:List (List UInt8)} {t:List UInt8} (d:List UInt8):oK (vx su t) su.length d=vx su d:=by
 funext j;unfold oK vx;by_cases hj:j=su.length
 ·subst hj;simp
 ·simp [hj]
theorem PZ {su:List (List UInt8)} {t:List UInt8} {i:Nat} (hi:i<su.length):vx su t i=su.getD i []:=if_pos hi
theorem So (su:List (List UInt8)) (t:List UInt8):vx su t su.length=t:=by unfold vx;simp
def Bl (t:List UInt8) (b:Nat) (r:R):Prop:=(t=[]∧r=R.ic)∨∃r0 b0,t=gX r0 b0∧eE r0∧b0≤b∧r=qF r0 b0 b
theorem Bl.P1 {t:List UInt8} {b:Nat} {r:R} (h:Bl t b r):eE r:=by
 rcases h with⟨_,e⟩|⟨r0,b0,_,h,_,e⟩
 ·rw[e];exact eE.ic
 ·rw[e];exact h.acH _ _
theorem Bl.enc {r:R} (h:eE r) (b:Nat):Bl (gX r b) b r:=.inr ⟨r,b,rfl,h,Nat.le_refl _,by unfold qF;rw[if_pos rfl]⟩
section
variable {g:cn} {s:FS} {su:List (List UInt8)} {t:List UInt8} {ds:List Nat} {N:Nat}
structure Mw (su:List (List UInt8)) (p:Pg):Prop where
 lo:0≤p.ao
 hi:p.ao<su.length
 dl:p.data.length≤64
 cx:p.cx=true→p.data=[]
theorem Aq (hg:g.In) (hform:g.cY=true) (hc:g.cap<65000) {c:Nat→List UInt8} (h:Rn g s c ds N none) {x:Sh} (hx:zS g x) (hx0:x.fr=0) (hN:N+CW<281474976710656):∃r,vb g KF KF s x=some r∧Kp s r.1 CW∧((r.2=0∧Rn g r.1 (oK c x.ao x.data) ds (N+CW) none)∨(r.2=10∧Rn g r.1 c ds (N+CW) none∧g.aH<r.1.f.po.count 3)∨(r.2=9∧km g r.1.a c (oK c x.ao x.data) ds (N+CW))):=by
 have h2:=h.mono (N':=N+CW) (by omega);have KW:=cn.kE g hg.b.2;have hsn:=h.sn;obtain⟨s1,e,h3,h4⟩:=Rn.aad hg hform hc hN (k:=KF) (by decide) hx hx0 KF s h2 (by rw[Tu];omega) (by show _<200;omega);have kp:=(ba.aac hg hc hx.dl KF s h.ok h3).2;rw[Tu] at kp;exact⟨(s1,e),h3,kp,h4⟩
theorem P2 {a:Nat} {d:List UInt8} (ha:(a:Int)≤g.cap) (hd:d.length≤64):zS g (Tl a d):=⟨.inl rfl,ha,Nat.zero_le _,hd,.inl rfl⟩
theorem V9 {a:Nat} (ha:(a:Int)≤g.cap):zS g (shT a):=⟨.inr rfl,ha,Nat.zero_le _,Nat.zero_le _,.inr rfl⟩
theorem KN (hg:g.In) (hform:g.cY=true) (hc:g.cap<65000) (h:Rn g s (vx su t) ds N none) (hl:(su.length:Int)=g.cap) {p:Pg} (hp:Mw su p) (hN:N+CW<281474976710656):∃r,GK g s p=some r∧Kp s r.1 CW∧((r.2=0∧Rn g r.1 (vx (su.set p.ao.toNat p.data) t) ds (N+CW) none)∨(r.2=10∧Rn g r.1 (vx su t) ds (N+CW) none∧g.aH<r.1.f.po.count 3)∨(r.2=9∧km g r.1.a (vx su t) (vx (su.set p.ao.toNat p.data) t) ds (N+CW))):=by
 have hlo:=hp.lo;have hhi:=hp.hi;have ha:p.ao.toNat<su.length:=by omega
 rw[←Sm ha];unfold GK;by_cases hh:p.cx=true
 ·rw[if_pos hh];have hd:=hp.cx hh;unfold Kf;by_cases hs:(s.f.pm.cg.getD p.ao.toNat none).isSome=true
  ·rw[if_pos hs];have:=Aq hg hform hc h (V9 (a:=p.ao.toNat) (by omega)) rfl hN;rw[hd];exact this
  ·rw[if_neg hs]
   have hn:s.f.pm.at p.ao.toNat=none:=by
    have:¬(s.f.pm.at p.ao.toNat).isSome=true:=hs;simpa using this
   obtain⟨t',ht1,ht2,_⟩:=h.nf p.ao.toNat
   have tJ:s.nf p.ao.toNat=some ⟨2,0,0,p.ao.toNat,0,[]⟩:=by
    unfold FS.nf;rw[show s.f.pm.cg.getD p.ao.toNat none=none from hn]
   rw[tJ] at ht1;cases ht1;refine⟨_,rfl,Kp.rfl s CW,.inl ⟨rfl, ?_⟩⟩
   have e:oK (vx su t) p.ao.toNat p.data=vx su t:=by
    funext j;unfold oK;split
    ·rename_i e;rw[e, ←ht2,hd]
    ·rfl
   rw[e];exact h.mono (by omega)
 ·rw[if_neg hh];exact Aq hg hform hc h (P2 (a:=p.ao.toNat) (by omega) hp.dl) rfl hN
theorem rK (hg:g.In) (hform:g.cY=true) (hc:g.cap<65000):∀(l:List Pg) (s:FS) (su:List (List UInt8)) (N:Nat),Rn g s (vx su t) ds N none→(su.length:Int)=g.cap→dS l→(∀p∈l,Mw su p)→N+l.length*CW<281474976710656→∃r,g8 g l s l=some r∧Kp s r.1 (l.length*CW)∧((r.2.2=0∧r.2.1=[]∧Rn g r.1 (vx (dZ su l) t) ds (N+l.length*CW) none)∨(r.2.2=10∧g.aH<r.1.f.po.count 3∧∃j,j≤l.length∧r.2.1=l.drop j∧Rn g r.1 (vx (dZ su (l.take j)) t) ds (N+l.length*CW) none)∨(r.2.2=9∧∃j,j<l.length∧km g r.1.a (vx (dZ su (l.take j)) t) (vx (dZ su (l.take (j+1))) t) ds (N+l.length*CW)))
 |[],s,su,N,h,hl,hs,hp,hN=>⟨(s,[],0),rfl,Kp.rfl s _,.inl ⟨rfl,rfl,h.mono (by omega)⟩⟩
 |p::l,s,su,N,h,hl,hs,hp,hN=>by
  rw[List.length_cons,Nat.succ_mul] at hN;obtain⟨r,h1,h2,h3⟩:=KN hg hform hc h hl (hp p List.mem_cons_self) (by omega);rw[g8,h1];simp only[List.length_cons,Nat.succ_mul];rcases h3 with⟨e,h3⟩|⟨e,h3,h4⟩|⟨e,h3⟩
  ·rw[if_pos e,Cs hs]
   have hp2:∀q∈l,Mw (su.set p.ao.toNat p.data) q:=fun q hq=>by
    have:=hp q (List.mem_cons_of_mem _ hq);exact⟨this.lo,by rw[List.length_set];exact this.hi,this.dl,this.cx⟩
   obtain⟨r',k1,k2,k3⟩:=rK hg hform hc l r.1 (su.set p.ao.toNat p.data) (N+CW) h3 (by rw[List.length_set];exact hl) (Cq hs) hp2 (by omega);refine⟨r',k1,(h2.trans k2).mono (by omega), ?_⟩;rw[show N+CW+l.length*CW=N+(l.length*CW+CW) from by omega] at k3;rcases k3 with⟨e1,e2,e3⟩|⟨e1,e2,j,e3,e4,e5⟩|⟨e1,j,e2,e3⟩
   ·exact .inl ⟨e1,e2,e3⟩
   ·exact .inr (.inl ⟨e1,e2,j+1,by omega,e4,e5⟩)
   ·exact .inr (.inr ⟨e1,j+1,by omega,e3⟩)
  ·rw[if_neg (by omega)];refine⟨_,rfl,h2.mono (by omega),.inr (.inl ⟨e,h4,0,Nat.zero_le _,rfl,h3.mono (by omega)⟩)⟩
  ·rw[if_neg (by omega)];refine⟨_,rfl,h2.mono (by omega),.inr (.inr ⟨e,0,by omega,h3.mono (by omega)⟩)⟩
end
def ff (o:Ob) (j:Nat):Ob:=⟨dZ o.su (o.ps.take j),o.ps.drop j,o.r⟩
structure Ug (g:cn) (u:Un) (o:Ob) (ds:List Nat) (N b:Nat):Prop where
 t:∃t,Rn g u.s (vx o.su t) ds N none∧Bl t b o.r
 boots:u.s.a.boots=(b:Int)
 ps:u.ps=o.ps
 r:u.r=o.r
 dn:u.down=false
 ook:o.ok
 len:(o.su.length:Int)=g.cap
 cx:∀p∈o.ps,p.cx=true→p.data=[]
structure EB (g:cn) (a:Ar) (o o':Ob) (ds:List Nat) (N b:Nat):Prop where
 off:a.off=true
 eV:BW a
 boots:a.boots=(b:Int)
 cg:∀cut:Int,∃q,(q=o∨q=o')∧∃i,i≤8∧∃t,Cr g (dh a cut) (vx (dZ q.su (q.ps.take i)) t) ds N∧Bl t b q.r
section
variable {g:cn} {u:Un} {o:Ob} {ds:List Nat} {N b:Nat}
theorem Ug.pg (h:Ug g u o ds N b):∀p∈o.ps,Mw o.su p:=fun p hp=>⟨(h.ook.sort.lo p hp).1,h.ook.inr p hp,h.ook.sort.dl p hp,h.cx p hp⟩
theorem Ug.ok (h:Ug g u o ds N b):I0 g u:=by
 obtain⟨t,h1,_⟩:=h.t;refine⟨h1.ok,by rw[h.ps];exact h.ook.sort,by rw[h.ps];exact h.ook.le8,fun p hp=> ?_⟩;rw[h.ps] at hp;have:=h.pg p hp;have hl:=h.len;have hi:=this.hi;exact⟨this.lo,by omega,this.dl⟩
theorem Sp (h:o.ok) (j:Nat):(ff o j).ok where
 n1:=by show 1≤(dZ o.su (o.ps.take j)).length;rw[db];exact h.n1
 n2:=by show (dZ o.su (o.ps.take j)).length≤_;rw[db];exact h.n2
 dl:=wE _ _ h.dl (fun p hp=>h.sort.dl p (List.mem_of_mem_take hp))
 sort:=⟨h.sort.up.sublist (List.drop_sublist _ _),fun p hp=>h.sort.lo p (List.mem_of_mem_drop hp),fun p hp=>h.sort.dl p (List.mem_of_mem_drop hp)⟩
 le8:=by show (o.ps.drop j).length≤8;rw[List.length_drop];have:=h.le8;omega
 inr:=fun p hp=>by
  show p.ao<(((dZ o.su (o.ps.take j)).length:Nat):Int)
  rw[db];exact h.inr p (List.mem_of_mem_drop hp)
 vn:=h.vn
theorem Ug.step (h:Ug g u o ds N b) {s:FS} {j:Nat} {N':Nat} {t:List UInt8} (ht:Bl t b o.r) (hr:Rn g s (vx (dZ o.su (o.ps.take j)) t) ds N' none) (hb:s.a.boots=u.s.a.boots):Ug g {u with s:=s,ps:=o.ps.drop j} (ff o j) ds N' b where
 t:=⟨t,hr,ht⟩
 boots:=hb.trans h.boots
 ps:=rfl
 r:=h.r
 dn:=h.dn
 ook:=Sp h.ook j
 len:=by show (((dZ o.su (o.ps.take j)).length:Nat):Int)=_;rw[db];exact h.len
 cx:=fun p hp=>h.cx p (List.mem_of_mem_drop hp)
theorem Sq (hg:g.In) (hform:g.cY=true) (hc:g.cap<65000) (h:Ug g u o ds N b) {p:Pg} (hp:Mw o.su p) (sure:Bool) (hN:N+9*CW<281474976710656):∃r,EA g u.s u.ps p sure=some r∧Kp u.s r.1 (9*CW)∧((r.2.2=0∧Ug g {u with s:=r.1,ps:=r.2.1} (pq o p sure) ds (N+9*CW) b)∨(r.2.2=10∧g.aH<r.1.f.po.count 3∧∃j,j≤o.ps.length∧Ug g {u with s:=r.1,ps:=r.2.1} (ff o j) ds (N+9*CW) b)∨(r.2.2=9∧EB g r.1.a o (pq o p sure) ds (N+9*CW) b)):=by
 obtain⟨t,ht,htb⟩:=h.t;have hlen:=h.len;have hlo:=hp.lo;have hhi:=hp.hi;have hn2:=h.ook.n2;have hle:=h.ook.le8;have ha:p.ao.toNat<o.su.length:=by omega
 have hok:=V5 h.ook hlo hhi hp.dl sure;unfold EA;rw[h.ps];by_cases hs:sure=true
 ·subst hs;rw[if_pos rfl];obtain⟨r,h1,h2,h3⟩:=KN hg hform hc ht hlen hp (by omega);rw[h1];simp only;have e:pq o p true=⟨o.su.set p.ao.toNat p.data,fF o.ps p.ao,o.r⟩:=rfl;rcases h3 with⟨e1,h3⟩|⟨e1,h3,h4⟩|⟨e1,h3⟩
  ·rw[if_pos e1];refine⟨_,rfl,h2.mono (by omega),.inl ⟨rfl, ?_⟩⟩
   exact {
    t:=⟨t,h3.mono (by omega),htb⟩,boots:=h2.boots.trans h.boots,ps:=rfl,r:=h.r,dn:=h.dn,ook:=hok
    len:=by rw[e];show (((o.su.set p.ao.toNat p.data).length:Nat):Int)=_;rw[List.length_set];exact hlen
    cx:=fun q hq=>h.cx q (GF hq)}
  ·rw[if_neg (by omega)];refine⟨_,rfl,h2.mono (by omega),.inr (.inl ⟨e1,h4,0,Nat.zero_le _, ?_⟩)⟩;exact h.step (j:=0) htb (h3.mono (by omega)) h2.boots
  ·rw[if_neg (by omega)];refine⟨_,rfl,h2.mono (by omega),.inr (.inr ⟨e1,h3.off,h3.eV,h2.boots.trans h.boots,fun cut=> ?_⟩)⟩;rcases h3.cg cut with h4|h4
   ·exact⟨o,.inl rfl,0,by omega,t,h4.mono (by omega),htb⟩
   ·exact⟨_,.inr rfl,0,by omega,t,h4.mono (by omega),htb⟩
 ·have hs':sure=false:=by simpa using hs
  subst hs';rw[if_neg (by simp)];have tM:pq o p false=if (gV o.ps p).2=11 then ⟨dZ o.su o.ps,(gV [] p).1,o.r⟩ else ⟨o.su,(gV o.ps p).1,o.r⟩:=rfl
  have hput:∀(ps:List Pg),dS ps→(∀q∈ps,q.cx=true→q.data=[])→∀q∈(gV ps p).1,q.cx=true→q.data=[]:=fun ps hss hh q hq hqh=>by
   rcases Ew hss hq with hq|rfl
   ·exact hh q hq hqh
   ·have hqh:p.cx=true:=hqh;show (if p.cx=true then [] else p.data)=[]
    rw[if_pos hqh]
  by_cases CP:(gV o.ps p).2=11
  ·rw[if_neg (fun e=>e CP)];rw[if_pos CP] at tM;have h8:o.ps.length*CW≤8*CW:=Nat.mul_le_mul_right _ hle;obtain⟨r,h1,h2,h3⟩:=rK hg hform hc o.ps u.s o.su N ht hlen h.ook.sort h.pg (by omega);rw[h1];simp only;rcases h3 with⟨e1,e2,h3⟩|⟨e1,h4,j,hj,e2,h3⟩|⟨e1,j,hj,h3⟩
   ·rw[if_pos e1,e2]
    have h0:(gV [] p).2=0:=by
     rw[Eu (by simp) hlo (by omega) hp.dl];simp
    refine⟨_,rfl,h2.mono (by omega),.inl ⟨h0, ?_⟩⟩;rw[tM] at hok⊢
    exact {
     t:=⟨t,h3.mono (by omega),htb⟩,boots:=h2.boots.trans h.boots,ps:=rfl,r:=h.r,dn:=h.dn,ook:=hok
     len:=by show (((dZ o.su o.ps).length:Nat):Int)=_;rw[db];exact hlen
     cx:=hput [] oP (fun q hq=>by cases hq)}
   ·rw[if_neg (by omega)];refine⟨_,rfl,h2.mono (by omega),.inr (.inl ⟨e1,h4,j,hj, ?_⟩)⟩;rw[e2];exact h.step htb (h3.mono (by omega)) h2.boots
   ·rw[if_neg (by omega)];refine⟨_,rfl,h2.mono (by omega),.inr (.inr ⟨e1,h3.off,h3.eV,h2.boots.trans h.boots,fun cut=> ?_⟩)⟩;rcases h3.cg cut with h4|h4
    ·exact⟨o,.inl rfl,j,by omega,t,h4.mono (by omega),htb⟩
    ·exact⟨o,.inl rfl,j+1,by omega,t,h4.mono (by omega),htb⟩
  ·rw[if_pos CP];rw[if_neg CP] at tM;refine⟨_,rfl,Kp.rfl u.s _,.inl ⟨rfl, ?_⟩⟩;rw[tM] at hok⊢
   exact {
    t:=⟨t,ht.mono (by omega),htb⟩,boots:=h.boots,ps:=rfl,r:=h.r,dn:=h.dn,ook:=hok,len:=hlen
    cx:=hput o.ps h.ook.sort h.cx}
end
theorem Mx (r:R) (h:Int) (c:Cm) (P:R×Int→Prop) (h0:∀s,P (s,0)) (h1:P (r,1)) (QD:P (r,13)):P (doR r h c):=by
 unfold doR;split
 ·exact h1
 split
 ·exact h1
 split
 ·exact QD
 split
 ·exact h0 _
 split
 ·split
  ·exact QD
  split
  ·exact h0 _
  ·exact h0 _
 split
 ·split
  ·exact h0 _
  split
  ·exact h1
  ·exact h0 _
 split
 ·exact h0 _
 unfold jg;simp only[];split
 ·exact h1
 split
 ·exact QD
 split
 ·exact h0 _
 ·exact h0 _
theorem Ss (r:R) (h:Int) (c:Cm):((doR r h c).2=0∨(doR r h c).2=1∨(doR r h c).2=13)∧((doR r h c).2≠0→(doR r h c).1=r):=
 Mx r h c (fun x=>(x.2=0∨x.2=1∨x.2=13)∧(x.2≠0→x.1=r)) (fun s=>⟨.inl rfl,fun h=>absurd rfl h⟩) ⟨.inr (.inl rfl),fun _=>rfl⟩ ⟨.inr (.inr rfl),fun _=>rfl⟩
section
variable {g:cn} {u:Un} {o:Ob} {ds:List Nat} {N b:Nat}
def Tv (g:cn) (u:Un) (o o':Ob) (a:Rs) (ch:Bool) (ds:List Nat) (N b:Nat) (r:Un×Rs×Int):Prop:=
 (r.2.2=0∧r.2.1=a∧Ug g r.1 o' ds N b)∨
 (r.2.2=0∧r.2.1=⟨10,[],R.zero⟩∧a.e=0∧ch=true∧g.aH<r.1.s.f.po.count 3∧∃j,j≤o.ps.length∧Ug g r.1 (ff o j) ds N b)∨
 (r.2.2=9∧EB g r.1.s.a o o' ds N b)
theorem EC (h:Ug g u o ds N b):iJ u=(u,0):=by
 obtain⟨t,ht,_⟩:=h.t;unfold iJ;have h1:=ht.on;have h2:=ht.aM;rw[if_neg (by simp [h1]),if_neg (by rw[h.dn];simp;omega)]
theorem Wa (hg:g.In) (hform:g.cY=true) (hc:g.cap<65000) (h:Ug g u o ds N b) (hh:Int) (c:Cm) (bX:List UInt8) (hd:c.dn=bX.length) (Xj:0≤c.nw∧c.nw≤4294967295) (hN:N+9*CW<281474976710656):∃r,QK g u hh c bX=some r∧Kp u.s r.1.s (9*CW)∧Tv g u o (xD o hh c bX).1 (xD o hh c bX).2 (!decide (c.kd=0)&& !decide (c.kd=9)) ds (N+9*CW) b r:=by
 obtain⟨s,ps,r,dn⟩:=u;have hr:=h.r;have hps:=h.ps;simp only at hr hps;subst hr hps;obtain⟨t,ht,htb⟩:=h.t;have hlen:=h.len;have hcap:g.cap.toNat=o.su.length:=by omega
 have hmono:Ug g ⟨s,o.ps,o.r,dn⟩ o ds (N+9*CW) b:={h with t:=⟨t,ht.mono (by omega),htb⟩};have CQ:=htb.P1;unfold QK;rw[EC h];simp only[ne_eq,not_true_eq_false,if_false]
 have plain:∀(a:Rs),a.e=0∨a.e=1∨a.e=13→(∃r,(if a.e=7∨a.e=9 then some ((⟨s,o.ps,o.r,true⟩:Un),(⟨0,[],R.zero⟩:Rs),a.e) else some ((⟨s,o.ps,o.r,dn⟩:Un),a,0))=some r∧Kp s r.1.s (9*CW)∧r=((⟨s,o.ps,o.r,dn⟩:Un),a,0)):=fun a ha=>by
  rw[if_neg (by omega)];exact⟨_,rfl,Kp.rfl _ _,rfl⟩
 unfold Mo xD;rw[hcap];by_cases hv:l6 hh c o.su.length=false
 ·rw[if_pos hv,if_pos hv];exact⟨((⟨s,o.ps,o.r,dn⟩:Un),⟨1,[],R.zero⟩,0),rfl,Kp.rfl _ _,.inl ⟨rfl,rfl,hmono⟩⟩
 rw[if_neg hv,if_neg hv];by_cases hm:Hk o.r hh c=false
 ·rw[if_pos hm,if_pos hm];exact⟨((⟨s,o.ps,o.r,dn⟩:Un),⟨13,[],R.zero⟩,0),rfl,Kp.rfl _ _,.inl ⟨rfl,rfl,hmono⟩⟩
 rw[if_neg hm,if_neg hm];have MG:l6 hh c o.su.length=true:=by simpa using hv
 unfold l6 at MG;simp only[Bool.and_eq_true,Bool.or_eq_true,Bool.not_eq_true',Bool.or_eq_false_iff,decide_eq_true_eq,decide_eq_false_iff_not] at MG;obtain⟨⟨⟨⟨v1,v2⟩,v3⟩,v4⟩,v5⟩:=MG;by_cases k0:c.kd=0
 ·rw[if_pos k0,if_pos k0];have xK:=v4.resolve_left (fun e=>e.1.1 k0);have Hf:lZ o c.kG=(qD o.ps c.kG).getD (o.su.getD c.kG.toNat []):=if_pos xK;by_cases hp:fL o.ps c.kG=true
  ·rw[if_pos hp];refine⟨((⟨s,o.ps,o.r,dn⟩:Un),⟨0,(qD o.ps c.kG).getD [],R.zero⟩,0),rfl,Kp.rfl _ _,.inl ⟨rfl, ?_,hmono⟩⟩;simp only;rw[Hf]
   cases hgp:qD o.ps c.kG with
   |none=>rw[rI.1 hgp] at hp;cases hp
   |some d=>rfl
  ·rw[if_neg hp];obtain⟨t',h1,h2,_⟩:=ht.nf c.kG.toNat;rw[h1];refine⟨((⟨s,o.ps,o.r,dn⟩:Un),⟨0,t'.data,R.zero⟩,0),rfl,Kp.rfl _ _,.inl ⟨rfl, ?_,hmono⟩⟩;simp only;rw[Hf,rI.2 (by simpa using hp),h2,PZ (by omega)];rfl
 rw[if_neg k0,if_neg k0]
 have put:∀(p:Pg),Mw o.su p→c.kd≠9→∃r,(match (match EA g s o.ps p c.su with
  |none=>none
  |some r=>some ((⟨r.1,r.2.1,o.r,dn⟩:Un),(⟨0,[],R.zero⟩:Rs),r.2.2)) with
  |none=>none
  |some r=>if r.2.2=7∨r.2.2=9 then some ({r.1 with down:=true},(⟨0,[],R.zero⟩:Rs),r.2.2) else some (r.1,{r.2.1 with e:=r.2.2},0))=some r∧Kp s r.1.s (9*CW)∧
  Tv g ⟨s,o.ps,o.r,dn⟩ o (pq o p c.su) ⟨0,[],R.zero⟩ (!decide (c.kd=0)&& !decide (c.kd=9)) ds (N+9*CW) b r:=fun p hp h9=>by
  obtain⟨r,h1,h2,h3⟩:=Sq hg hform hc h hp c.su hN;rw[h1];simp only;rcases h3 with⟨e,h3⟩|⟨e,h3,h4⟩|⟨e,h3⟩
  ·rw[if_neg (by omega),e];exact⟨_,rfl,h2,.inl ⟨rfl,rfl,h3⟩⟩
  ·rw[if_neg (by omega),e];exact⟨_,rfl,h2,.inr (.inl ⟨rfl,rfl,rfl,by simp [k0,h9],h3,h4⟩)⟩
  ·rw[if_pos (.inr e)];exact⟨_,rfl,h2,.inr (.inr ⟨e,h3⟩)⟩
 by_cases k1:c.kd=1
 ·rw[if_pos k1,if_pos k1];have xK:=v4.resolve_left (fun e=>e.1.2 k1);have hdn:c.dn≤64:=v5.resolve_left (fun e=>e k1);exact put ⟨c.kG,bX,false⟩ ⟨xK.1,xK.2,by show bX.length≤64;omega,fun e=>by cases e⟩ (by omega)
 rw[if_neg k1,if_neg k1];by_cases k2:c.kd=2
 ·rw[if_pos k2,if_pos k2];have xK:=v4.resolve_left (fun e=>e.2 k2);exact put ⟨c.kG,[],true⟩ ⟨xK.1,xK.2,Nat.zero_le _,fun _=>rfl⟩ (by omega)
 rw[if_neg k2,if_neg k2];by_cases k3:c.kd=3
 ·rw[if_pos k3,if_pos k3];have hle:=h.ook.le8;have h8:o.ps.length*CW≤8*CW:=Nat.mul_le_mul_right _ hle;obtain⟨r,h1,h2,h3⟩:=rK hg hform hc o.ps s o.su N ht hlen h.ook.sort h.pg (by omega);rw[h1];simp only;rcases h3 with⟨e1,e2,h3⟩|⟨e1,h4,j,hj,e2,h3⟩|⟨e1,j,hj,h3⟩
  ·rw[if_neg (by omega),e1,e2];refine⟨_,rfl,h2.mono (by omega),.inl ⟨rfl,rfl, ?_⟩⟩
   exact {
    t:=⟨t,h3.mono (by omega),htb⟩,boots:=h2.boots.trans h.boots,ps:=rfl,r:=h.r,dn:=h.dn,ook:=Aa h.ook
    len:=by show (((dZ o.su o.ps).length:Nat):Int)=_;rw[db];exact hlen
    cx:=fun q hq=>by cases hq}
  ·rw[if_neg (by omega),e1,e2];exact⟨_,rfl,h2.mono (by omega),.inr (.inl ⟨rfl,rfl,rfl,by simp [k3],h4,j,hj,h.step htb (h3.mono (by omega)) h2.boots⟩)⟩
  ·rw[if_pos (.inr e1)];refine⟨_,rfl,h2.mono (by omega),.inr (.inr ⟨e1,h3.off,h3.eV,h2.boots.trans h.boots,fun cut=> ?_⟩)⟩;rcases h3.cg cut with h4|h4
   ·exact⟨o,.inl rfl,j,by omega,t,h4.mono (by omega),htb⟩
   ·exact⟨o,.inl rfl,j+1,by omega,t,h4.mono (by omega),htb⟩
 rw[if_neg k3,if_neg k3];by_cases k9:c.kd=9
 ·rw[if_pos k9,if_pos k9];exact⟨((⟨s,o.ps,o.r,dn⟩:Un),⟨0,[],o.r⟩,0),rfl,Kp.rfl _ _,.inl ⟨rfl,rfl,hmono⟩⟩
 rw[if_neg k9,if_neg k9];have Qp:=Ss o.r hh c;have hdg:=CQ.doR hh c Xj;by_cases hq:(doR o.r hh c).2≠0∨cO (doR o.r hh c).1.cs o.r.cs=true
 ·rw[if_pos hq]
  have hsame:(doR o.r hh c).1=o.r:=by
   rcases hq with hq|hq
   ·exact Qp.2 hq
   ·exact CQ.ext hdg.nz ((R.rG _ _).1 hq)
  rw[hsame];obtain⟨r,h1,h2,h3⟩:=plain ⟨(doR o.r hh c).2,[],R.zero⟩ Qp.1;refine⟨r,h1,h2,.inl ?_⟩;rw[h3];exact⟨rfl,rfl,hmono⟩
 rw[if_neg hq];have hq0:(doR o.r hh c).2=0:=Classical.byContradiction fun e=>hq (.inl e)
 rw[hq0];have Na:s.a.boots.toNat=b:=by rw[h.boots];rfl
 rw[Na];have hel:(gX (doR o.r hh c).1 b).length≤64:=by rw[vp];omega
 obtain⟨r,h1,h2,h3⟩:=Aq hg hform hc ht (P2 (a:=o.su.length) (by omega) hel) rfl (by omega);rw[h1];have ecs:oK (vx o.su t) (Tl o.su.length (gX (doR o.r hh c).1 b)).ao (Tl o.su.length (gX (doR o.r hh c).1 b)).data=vx o.su (gX (doR o.r hh c).1 b):=Sn _;rw[ecs] at h3;simp only;have hok:(⟨o.su,o.ps,(doR o.r hh c).1⟩:Ob).ok:={h.ook with vn:=hdg.vn};rcases h3 with⟨e,h3⟩|⟨e,h3,h4⟩|⟨e,h3⟩
 ·rw[if_pos e];simp only;rw[if_neg (by omega)];refine⟨_,rfl,h2.mono (by omega),.inl ⟨rfl,rfl, ?_⟩⟩
  exact {
   t:=⟨_,h3.mono (by omega),Bl.enc hdg b⟩,boots:=h2.boots.trans h.boots,ps:=h.ps,r:=rfl,dn:=h.dn,ook:=hok,len:=hlen,cx:=h.cx}
 ·rw[if_neg (by omega)];simp only;rw[if_neg (by omega),e];refine⟨_,rfl,h2.mono (by omega),.inr (.inl ⟨rfl,rfl,rfl,by simp [k0,k9],h4,0,Nat.zero_le _, ?_⟩)⟩;exact {h with t:=⟨t,h3.mono (by omega),htb⟩,boots:=h2.boots.trans h.boots}
 ·rw[if_neg (by omega)];simp only;rw[if_pos (.inr e)];refine⟨_,rfl,h2.mono (by omega),.inr (.inr ⟨e,h3.off,h3.eV,h2.boots.trans h.boots,fun cut=> ?_⟩)⟩;rcases h3.cg cut with h4|h4
  ·exact⟨o,.inl rfl,0,by omega,t,h4.mono (by omega),htb⟩
  ·exact⟨_,.inr rfl,0,by omega,_,h4.mono (by omega),Bl.enc hdg b⟩
end
structure Up (g:cn) (a:Ar) (o:Ob) (ds:List Nat) (N b:Nat):Prop where
 t:∃t,Cr g a (vx o.su t) ds N∧Bl t b o.r
 on:a.off=false
 eV:a.eV=.no
 boots:a.boots=(b:Int)
 ps:o.ps=[]
 ook:o.ok
 len:(o.su.length:Int)=g.cap
section
variable {g:cn} {u:Un} {o o':Ob} {a:Ar} {ds:List Nat} {N b:Nat}
theorem Wb (hg:g.In) (hform:g.cY=true) (hc:g.cap<65000) (h:Ug g u o ds N b) (hN:N+9*CW<281474976710656):∃r,Ts g u=some r∧Kp u.s r.1.s (9*CW)∧((r.2=0∧Ug g r.1 (iB o) ds (N+9*CW) b)∨(r.2=10∧g.aH<r.1.s.f.po.count 3∧∃j,j≤o.ps.length∧Ug g r.1 (ff o j) ds (N+9*CW) b)∨(r.2=9∧EB g r.1.s.a o (iB o) ds (N+9*CW) b)):=by
 obtain⟨s,ps,r,dn⟩:=u;have hr:=h.r;have hps:=h.ps;have hdn:=h.dn;simp only at hr hps hdn;subst hr hps hdn;obtain⟨t,ht,htb⟩:=h.t;have hlen:=h.len;have hle:=h.ook.le8;have h8:o.ps.length*CW≤8*CW:=Nat.mul_le_mul_right _ hle;obtain⟨r,h1,h2,h3⟩:=rK hg hform hc o.ps s o.su N ht hlen h.ook.sort h.pg (by omega);unfold Ts;rw[EC h];simp only[ne_eq,not_true_eq_false,if_false];rw[h1];simp only;rcases h3 with⟨e1,e2,h3⟩|⟨e1,h4,j,hj,e2,h3⟩|⟨e1,j,hj,h3⟩
 ·rw[e1,e2];refine⟨_,rfl,h2.mono (by omega),.inl ⟨rfl, ?_⟩⟩
  exact {
   t:=⟨t,h3.mono (by omega),htb⟩,boots:=h2.boots.trans h.boots,ps:=rfl,r:=rfl,dn:=rfl,ook:=Aa h.ook
   len:=by show (((dZ o.su o.ps).length:Nat):Int)=_;rw[db];exact hlen
   cx:=fun q hq=>by cases hq}
 ·rw[e1,e2];exact⟨_,rfl,h2.mono (by omega),.inr (.inl ⟨rfl,h4,j,hj,h.step htb (h3.mono (by omega)) h2.boots⟩)⟩
 ·refine⟨_,rfl,h2.mono (by omega),.inr (.inr ⟨e1,h3.off,h3.eV,h2.boots.trans h.boots,fun cut=> ?_⟩)⟩;rcases h3.cg cut with h4|h4
  ·exact⟨o,.inl rfl,j,by omega,t,h4.mono (by omega),htb⟩
  ·exact⟨o,.inl rfl,j+1,by omega,t,h4.mono (by omega),htb⟩
theorem Ug.leave (h:Ug g u o ds N b) (a:Ar) (hb:a.bs=u.s.a.bs) (hp:a.aA=u.s.a.aA) (ho:a.off=false) (hw:a.eV=.no) (Na:a.boots=u.s.a.boots):Up g a (z9 o false) ds N b:=by
 obtain⟨t,ht,htb⟩:=h.t
 exact {
  t:=⟨t,ht.cr.congr hb hp,htb⟩
  on:=ho
  eV:=hw
  boots:=Na.trans h.boots
  ps:=rfl
  ook:=R7 h.ook false
  len:=h.len}
theorem Up.mount (h:Up g a o ds N b) (hg:g.In) (hc:0≤g.cap∧g.cap<65000) {ep:Nat} (he:1≤ep∧ep<281474976710656) (hf:a.aM≤ep) (hb:b<2147483648) (sq:Int→Nat):Kp (FS.xS g a ep) (cE g sq a ep).1 0∧(((cE g sq a ep).2=0∧∃v,uM g (cE g sq a ep).1=some v∧v.s=(cE g sq a ep).1∧Ug g v o ds N b)∨((cE g sq a ep).2=9∧EB g (cE g sq a ep).1.a o o ds N b)):=by
 obtain⟨t,Xf,htb⟩:=h.t;have ada:=(Xf.xS hg hc h.on h.eV he hf).ok;have kp:=L4 hg (sq:=sq) ada;have hlen:=h.len;refine⟨kp, ?_⟩;rcases Xf.mount hg hc h.on h.eV he hf sq with⟨h1,h2⟩|⟨h1,h2⟩
 ·left;refine⟨h1, ?_⟩;obtain⟨x,hx1,tL,_⟩:=h2.nf g.cap.toNat;have hcap:g.cap.toNat=o.su.length:=by omega
  have hx3:x.data=t:=by rw[tL,hcap,So]
  have Na:(cE g sq a ep).1.a.boots=(b:Int):=kp.boots.trans h.boots;have cx:∀p∈o.ps,p.cx=true→p.data=[]:=fun p hp=>by rw[h.ps] at hp;cases hp
  unfold uM;rw[hx1];simp only;rcases htb with⟨e1,e2⟩|⟨r0,b0,e1,e2,e3,e4⟩
  ·rw[if_pos (by rw[hx3,e1];rfl)];exact⟨_,rfl,rfl,⟨t,h2,.inl ⟨e1,e2⟩⟩,Na,h.ps.symm,e2.symm,rfl,h.ook,hlen,cx⟩
  ·rw[if_neg (by rw[hx3,e1,vp];omega),hx3,e1,e2.acG (by omega)];refine⟨_,rfl,rfl,⟨t,h2,.inr ⟨r0,b0,e1,e2,e3,e4⟩⟩,Na,h.ps.symm, ?_,rfl,h.ook,hlen,cx⟩;show qF r0 (b0:Int) _=o.r
   rw[Na,e4]
 ·right;refine⟨h1,h2.off,h2.eV,kp.boots.trans h.boots,fun cut=> ?_⟩;have h3:=(h2.cg cut).elim id id;exact⟨o,.inl rfl,0,by omega,t,h3,htb⟩
end
end Go.Proofs.YtlgdkndamddpkaaGreat
end
section
namespace Go.Am
open Go.ChangeShapes Go.WideShapes Go.RowKit
def I2 (W:World):Value→V
 | .bool b=>.bool b
 | .int k n=>.int k n
 | .string s=>.cG s
 | .pointer none=>.aj none
 | .pointer (some ⟨b,o,none⟩)=>if b<W.heap.size then .aj (some (b,o)) else .cx
 | .slice none n c=>.slice none n c
 | .slice (some a) 0 0=>.slice (some (a.block,a.off)) 0 0
 | .slice (some ⟨b,o,none⟩) n c=>if b<W.heap.size then .slice (some (b,o)) n c else .cx
 | .map none=>.map none
 | .nilFunc=>.nilFunc
 | .nilIface=>.nilIface
 | .iface t _=>.iface t .cx
 |_=>.cx
def M5 (W:World):Value→V
 | .agg cs=>if∀c∈cs.toList.map (I2 W),c.one=true then .agg (cs.toList.map (I2 W)) else .cx
 |v=>I2 W v
def Su (W:World):dC:=fun b=>if b<W.heap.size then some b else none
def hG (W:World):ag where
 get:=fun b=>match W.heap[b]? with
  |some (.cells cs e _)=>some (.cells e (cs.toList.map (I2 W)) true)
  |_=>none
 next:=W.heap.size
theorem ED {W:World} {b:Nat} (h:b<W.heap.size):Su W b=some b:=if_pos h
theorem KO (W:World) (x:Value):VR (Su W) (I2 W x) x:=by
 unfold I2;split
 ·exact .bool _
 ·exact .int _ _
 ·exact .cG _
 ·exact .Dd
 ·split
  ·rename_i h;exact .aj (ED h)
  ·exact .cx _
 ·exact .nB _ _
 ·exact .pJ _ _
 ·split
  ·rename_i h;exact .slice _ _ (ED h)
  ·exact .cx _
 ·exact .yu
 ·exact .nilFunc
 ·exact .nilIface
 ·exact .iface _ (.cx _)
 ·exact .cx _
theorem GQ (W:World) (l:List Value):eO (Su W) (l.map (I2 W)) l:=by
 refine⟨by simp,fun i x y hx hy=> ?_⟩;rw[List.getElem?_map,hy,Option.map_some,Option.some.injEq] at hx;subst hx;exact KO W y
theorem Sv (W:World) (x:Value):VR (Su W) (M5 W x) x:=by
 unfold M5;split
 ·split
  ·rename_i cs h;exact .vK h (GQ W _)
  ·exact .cx _
 ·exact KO W _
theorem P3 (W:World) (l:List Value):eO (Su W) (l.map (M5 W)) l:=by
 refine⟨by simp,fun i x y hx hy=> ?_⟩;rw[List.getElem?_map,hy,Option.map_some,Option.some.injEq] at hx;subst hx;exact Sv W y
theorem mb {W:World} {b:Nat} {o:Obj} (h:(hG W).get b=some o):∃cs e fz,W.heap[b]? =some (.cells cs e fz)∧o=.cells e (cs.toList.map (I2 W)) true:=by
 simp only[hG] at h;split at h
 ·rename_i cs e fz hb;cases h;exact⟨cs,e,fz,hb,rfl⟩
 ·cases h
theorem My (W:World) (hgl:∀g∈Nc,g<W.heap.size):HR (Su W) (hG W) W where
 gl:=fun g hg=>ED (hgl g hg)
 wR:=fun b o h=>by
  obtain⟨cs,e,fz,hb,rfl⟩:=mb h
  have hlt:b<W.heap.size:=by
   rcases Nat.lt_or_ge b W.heap.size with h|h
   ·exact h
   ·rw[Array.getElem?_eq_none h] at hb;cases hb
  refine⟨b,ED hlt,cs,fz,hb,GQ W _, ?_, ?_⟩
  ·intro h;cases h
  ·intro h;cases h
 inj:=fun id id' o o' b h _ hr _ _=>by
  obtain⟨cs,e,fz,hb,rfl⟩:=mb h;cases hr
 lt:=fun id b h=>by
  unfold Su at h;split at h
  ·rename_i hlt;cases h;exact⟨hlt,hlt⟩
  ·cases h
theorem GR {W W':World} {H':ag} {ρ':dC} (h:lD (hG W) (Su W) W H' ρ' W'):Below W.heap.size W W' where
 os:=h.os
 tape:=h.tape
 output:=h.output
 size:=h.size
 block:=fun k hk=>h.frame k hk (by
  rintro⟨id,o,h1,h2,_⟩;obtain⟨cs,e,fz,hb,rfl⟩:=mb h1
  cases h2)
def Bm (P:Program) (H:ag):Nat→TypeId→List V→Prop
 |0,_,_=>False
 |n+1,t,cs=>match P.underlying t with
  |some .bool=>∃b,cs=[.bool b]
  |some (.int k)=>∃x,cs=[.int k x]∧k.min≤x∧x≤k.max
  |some .string=>∃s,cs=[.cG s]∧s.size≤maxLen
  |some (.slice e)=>0<P.cellsOf e→∃p len cap,cs=[.slice p len cap]∧len≤cap∧cap≤maxLen∧(p=none→cap=0)∧
   ∀i,i<cap→∃id off,p=some (id,off)∧id<H.next∧H.inb id (off+i*P.cellsOf e) (P.cellsOf e)=true∧Bm P H n e (H.sub id (off+i*P.cellsOf e) (P.cellsOf e))
  |some (.struct fs)=>cs.length=P.cellsOf t∧∀f∈fs.toList,Bm P H n f.type ((cs.drop f.offset).take (P.cellsOf f.type))
  |some (.array m e)=>cs.length=P.cellsOf t∧∀i,i<m→Bm P H n e ((cs.drop (i*P.cellsOf e)).take (P.cellsOf e))
  |_=>True
theorem GS {α β:Type} {f:α→Option β}:∀{l:List α} {r:List β},l.mapM f=some r→r.length=l.length∧∀(i:Nat) x,l[i]? =some x→∃y,r[i]? =some y∧f x=some y
 |[],r,h=>by simp at h;subst h;exact⟨rfl,fun i x hx=>by simp at hx⟩
 |a::l,r,h=>by
  rw[List.mapM_cons] at h
  cases ha:f a with
  |none=>simp [ha] at h
  |some y=>
   cases hl:l.mapM f with
   |none=>simp [ha,hl] at h
   |some m=>
    simp [ha,hl] at h;subst h;obtain⟨h1,h2⟩:=GS hl;refine⟨by simp [h1],fun i x hx=> ?_⟩
    cases i with
    |zero=>simp at hx;subst hx;exact⟨y,rfl,ha⟩
    |succ i=>exact h2 i x (by simpa using hx)
theorem CE {W:World} {aV n:Nat} {a:Addr} {cs:List Value} (h:W.cells? aV a n=some cs) (hn:0<n):a.spot=none∧a.block<W.heap.size∧(hG W).inb a.block a.off n=true∧(hG W).sub a.block a.off n=cs.map (I2 W):=by
 unfold World.cells? at h;split at h;rotate_left
 ·cases h
 obtain⟨hlen,hall⟩:=GS h;simp only[List.length_range] at hlen;have hcell:∀i,i<n→∃y,cs[i]? =some y∧W.cell? (a.add i)=some y:=fun i hi=>hall i i (by simp [hi])
 obtain⟨y0,_,h0⟩:=hcell 0 hn
 have Qu:∃cs' e fz,W.heap[a.block]? =some (.cells cs' e fz)∧a.spot=none:=by
  simp only[World.cell?,Addr.add] at h0;revert h0
  cases hb:W.heap[a.block]? with
  |none=>intro h0;simp [hb] at h0
  |some o=>
   cases o with
   |cells cs' e fz=>
    intro h0
    cases hsp:a.spot with
    |none=>exact⟨cs',e,fz,rfl,rfl⟩
    |some s=>simp [hb,hsp] at h0
   |_=>intro h0;simp [hb] at h0
 obtain⟨cs',e,fz,hb,hsp⟩:=Qu
 have hlt:a.block<W.heap.size:=by
  rcases Nat.lt_or_ge a.block W.heap.size with h|h
  ·exact h
  ·rw[Array.getElem?_eq_none h] at hb;cases hb
 have oT:(hG W).get a.block=some (.cells e (cs'.toList.map (I2 W)) true):=by simp only[hG,hb]
 have rS:∀i,i<n→∃y,cs[i]? =some y∧cs'[a.off+i]? =some y:=by
  intro i hi;obtain⟨y,h1,h2⟩:=hcell i hi;refine⟨y,h1, ?_⟩
  have:a.add i=⟨a.block,a.off+i,none⟩:=by
   obtain⟨b,o,s⟩:=a;cases hsp;exact ga _ _ _
  rw[this,qS hb] at h2;exact h2
 have hle:a.off+n≤cs'.size:=by
  obtain⟨y,_,h2⟩:=rS (n-1) (by omega);rcases Nat.lt_or_ge (a.off+(n-1)) cs'.size with h|h
  ·omega
  ·rw[Array.getElem?_eq_none h] at h2;cases h2
 refine⟨hsp,hlt,by simp [ag.inb,oT];omega, ?_⟩;simp only[ag.sub,ag.cs,oT];apply List.ext_getElem?;intro i;rw[List.getElem?_take,List.getElem?_drop];by_cases hi:i<n
 ·rw[if_pos hi];obtain⟨y,h1,h2⟩:=rS i hi;simp [h1,h2]
 ·rw[if_neg hi];rw[List.getElem?_eq_none];simp;omega
section
variable {H:Type} {enc:TypeId×Value→H} {P:Program} {W:World} {aV:Nat} {held:Bool}
theorem Mz {k:IntKind} {n:Int} (h:(Lit.int k n).wf=true):k.min≤n∧n≤k.max:=by
 simpa only[Lit.wf,Bool.and_eq_true,decide_eq_true_eq] using h
theorem MA {a:Addr} {n c:Nat} (hs:a.spot=none) (hb:a.block<W.heap.size):I2 W (.slice (some a) n c)=.slice (some (a.block,a.off)) n c:=by
 obtain⟨b,o,s⟩:=a;simp only at hs hb;subst hs
 cases n with
 |zero=>cases c with
  |zero=>rfl
  |succ c=>exact if_pos hb
 |succ n=>exact if_pos hb
theorem Sw:∀(fuel:Nat) (t:TypeId) (cs:List Value) (d:DataW H) (ps:List MemPlace),DataW.trod enc P W aV (fun _=>true) held fuel t cs=some (d,ps)→Bm P (hG W) fuel t (cs.map (I2 W)):=by
 intro fuel
 induction fuel with
 |zero=>intro t cs d ps h;simp [DataW.trod] at h
 |succ n ih=>
  intro t cs d ps h;unfold Bm;split
  ·rename_i hu;obtain⟨b,rfl,_⟩:=DataW.trod_bool hu h;exact⟨b,rfl⟩
  ·rename_i k hu;obtain⟨x,rfl,_,hw⟩:=DataW.trod_int hu h;exact⟨x,rfl,Mz hw⟩
  ·rename_i hu;obtain⟨s,rfl,_,hs⟩:=DataW.trod_string hu h;exact⟨s,rfl,hs⟩
  ·rename_i e hu;intro hpos;rcases DataW.trod_slice hu h with⟨rfl,_⟩|⟨a,len,cap,elems,rest,m,hm,rfl,_,_,hle,WQ,hel,hE,hR,_⟩
   ·exact⟨none,0,0,rfl,Nat.le_refl _,Nat.zero_le _,fun _=>rfl,fun i hi=>by omega⟩
   ·cases hm;obtain⟨hrl,hR⟩:=hR rfl
    have hall:∀i,i<cap→∃cs' y,W.cells? aV (a.add (i*P.cellsOf e)) (P.cellsOf e)=some cs'∧DataW.trod enc P W aV (fun _=>true) held n e cs'=some y:=by
     intro i hi;by_cases hl:i<len
     ·have h1:=hE i hl;rw[List.getElem?_eq_getElem (by omega),Option.bind_eq_some_iff] at h1;obtain⟨cs',h1,h2⟩:=h1;exact⟨cs',_,h1,h2⟩
     ·have h1:=hR (i-len) (by omega);rw[List.getElem?_eq_getElem (by omega),Option.bind_eq_some_iff,show len+(i-len)=i by omega] at h1;obtain⟨cs',h1,h2⟩:=h1;exact⟨cs',_,h1,h2⟩
    by_cases hc:cap=0
    ·subst hc;have:len=0:=by omega
     subst this;refine⟨some (a.block,a.off),0,0, ?_,Nat.le_refl _,Nat.zero_le _,(fun _=>rfl),fun i hi=>by omega⟩;obtain⟨b,o,s⟩:=a;cases s<;>rfl
    ·obtain⟨cs0,y0,h0,_⟩:=hall 0 (by omega);have hz:a.add (0*P.cellsOf e)=a:=by simp [Addr.add]
     rw[hz] at h0;obtain⟨hs,hb,_,_⟩:=CE h0 hpos;refine⟨some (a.block,a.off),len,cap,by rw[List.map_cons,List.map_nil,MA hs hb],hle,WQ,fun h=>(by cases h),fun i hi=> ?_⟩;obtain⟨cs',y,h1,h2⟩:=hall i hi
     have adb:a.add (i*P.cellsOf e)=⟨a.block,a.off+i*P.cellsOf e,none⟩:=by
      obtain⟨b,o,s⟩:=a;cases hs;exact ga _ _ _
     rw[adb] at h1;obtain⟨_,_,h3,h4⟩:=CE h1 hpos;refine⟨a.block,a.off,rfl,hb,h3, ?_⟩;rw[h4];exact ih e cs' y.1 y.2 h2
  ·rename_i fs hu;obtain⟨xs,m,hm,_,hl,hxl,hF⟩:=DataW.trod_struct hu h;cases hm;refine⟨by simpa using hl,fun f hf=> ?_⟩;obtain⟨i,hi,SF⟩:=List.getElem_of_mem hf
   have hi':fs[i]? =some f:=by
    rw[←Array.getElem?_toList,List.getElem?_eq_getElem hi,SF]
   have h1:=hF i f hi';have Wi:i<xs.length:=by rw[hxl];simpa using hi
   rw[List.getElem?_eq_getElem Wi] at h1;have:=ih _ _ _ _ h1;rw[List.map_take,List.map_drop] at this;exact this
  ·rename_i m e hu;obtain⟨xs,m',hm,_,hl,hxl,hF⟩:=DataW.trod_array hu h;cases hm;refine⟨by simpa using hl,fun i hi=> ?_⟩;have h1:=hF i hi;rw[List.getElem?_eq_getElem (by omega)] at h1;have:=ih _ _ _ _ h1;rw[List.map_take,List.map_drop] at this;exact this
  ·trivial
theorem Sx {x:Value} (h:∀cs,x≠ .agg cs):M5 W x=I2 W x:=by
 unfold M5;split
 ·exact absurd rfl (h _)
 ·rfl
end
section
variable {H:Type} {enc:TypeId×Value→H} {P:Program}
theorem Bn {f:Func} {s:ChangeSpec} {gx fresh handsOn again:Bool} {W W':World} {args:Array Value} {v:Value} {ds gs:List (DataW H)} {before pa pv:List MemPlace} (hW:DataW.Whole enc P f.params.toList s.vars gx W args.toList ds gs before) (hres:∀(b:Nat) (sp:Nat→Bool) (hd:Bool),DataW.TrodAll enc P W' b sp hd f.resultTypes.toList (v.resultList f.resultTypes.size) (s.fn H (ds++gs)).results []) (hargs:∀sp:Nat→Bool,(∀p∈before,sp p.block=true)→DataW.TrodAll enc P W' 0 sp true f.params.toList args.toList (s.fn H (ds++gs)).args pa) (hvars:∀sp:Nat→Bool,(∀p∈before,sp p.block=true)→DataW.TrodVars enc P W' sp s.vars (s.fn H (ds++gs)).vars pv) (hps:before=pa++pv) (hb:Below W.heap.size W W') (hok:∀(j:Nat) (t:TypeId) (r:Value),f.resultTypes[j]? =some t→(v.resultList f.resultTypes.size)[j]? =some r→Value.okWide P W' .any 0 t r):s.post enc P f gx fresh handsOn again W args v W':=by
 have hlt:∀p∈before,p.block<W.heap.size:=fun p hp=>hW.lt p hp
 have hold:∀p∈before,(fun b=>decide (b<W.heap.size)) p.block=true:=fun p hp=>by simpa using hlt p hp
 refine⟨ds,gs,before,[],pa,pv,hW,hres _ _ _,hargs _ hold,hvars _ hold,World.keptBut_mono (fun p hp=>⟨hp, ?_⟩) (hb.frame (· ∈before)),fun _=> ?_⟩
 ·rw[hps,List.mem_append] at hp;exact Or.inr hp
 ·obtain⟨_,_,_,_,_,hz,hn⟩:=hW;refine⟨hok,_,_,([]++pa)++pv,⟨[]++pa,pv,trodAll_append (hargs _ (fun _ _=>rfl)) (hres _ _ _),hvars _ (fun _ _=>rfl),rfl, ?_, ?_⟩, ?_⟩
  ·intro b off hp;have hin:MemPlace.cell b off∈before:=by rw[hps];simpa using hp
   rw[hb.frozen (hlt _ hin)];exact hz b off hin
  ·intro ha;have:=hn ha;rw[hps] at this;simpa using this
  ·intro p hp _;rw[hps];simpa using hp
end
section
variable {H:Type} {enc:TypeId×Value→H} {P:Program} {W:World}
theorem so (hl:laidOutB P=true) {W':World} (hb:Below W.heap.size W W') {sp:Nat→Bool}:∀{ts:List TypeId} {vs:List Value} {ds:List (DataW H)} {p:List MemPlace},(∀t∈ts,P.readableRec t=true∧t<P.types.size)→(∀x∈p,sp x.block=true)→(∀x∈p,x.block<W.heap.size)→DataW.TrodAll enc P W 0 (fun _=>true) true ts vs ds p→DataW.TrodAll enc P W' 0 sp true ts vs ds p
 |[],vs,ds,p,_,_,_,h=>by
  obtain⟨rfl,rfl,rfl⟩:=trodAll_nil h;exact trodAll_mk0
 |t::ts,vs,ds,p,ht,hs,hlt,h=>by
  obtain⟨v,vs1,d,ds1,a,b,rfl,rfl,rfl,h1,h2⟩:=trodAll_cons h;refine trodAll_cons_mk ?_ (so hl hb (fun u hu=>ht u (List.mem_cons_of_mem _ hu)) (fun x hx=>hs x (List.mem_append_right _ hx)) (fun x hx=>hlt x (List.mem_append_right _ hx)) h2);refine WideElems.Trod_stays hl (ht t (List.mem_cons_self ..)).1 (ht t (List.mem_cons_self ..)).2 h1 (fun x hx=> ?_) (fun x hx=>hs x (List.mem_append_left _ hx));have hx':=hlt x (List.mem_append_left _ hx)
  cases x with
  |cell b o=>exact hb.cell (p:=⟨b,o,none⟩) hx'
  |map b=>exact hb.block b hx'
theorem xj {t:TypeId} {v:Value} {d:DataW H} {p:List MemPlace} (h:DataW.Trod enc P W 0 (fun _=>true) true t v d p):∃n,Bm P (hG W) n t (v.cells.toList.map (I2 W)):=by
 obtain⟨n,hn⟩:=h;exact⟨n,Sw n t _ _ _ hn⟩
theorem GU {E:ku} (hX:jX E) (hm:E.P.follows .mixedOrders=true) (hl:laidOutB E.P=true) {f:FuncId} {fn:Func} {s:ChangeSpec} {gx fresh handsOn again:Bool} {args:Array Value} {ds gs:List (DataW H)} {before:List MemPlace} {tb:TypeId} (hb:E.P.underlying tb=some .bool) (hpar:∀t∈fn.params.toList,E.P.readableRec t=true∧t<E.P.types.size) (hres:fn.resultTypes= #[tb]) (hv:s.vars=[]) (hs:∀ds:List (DataW H),ds.length=fn.params.size→s.fn H ds={results:=[.lit (.bool true)],args:=ds}) (hW:DataW.Whole enc E.P fn.params.toList s.vars gx W args.toList ds gs before) (hc:(rW E).call f (args.toList.map (M5 W)) (hG W) fun v _=>v=.bool true) (hgl:∀g∈Nc,g<W.heap.size:=by intro g hg;cases hg):
 Calls E.P f args W fun e W'=>∃v,e=.returned v∧s.post enc E.P fn gx fresh handsOn again W args v W':=by
 refine((BM hX hm).call _ _ _ _ hc (Su W) W args (My W hgl) (P3 W _)).mono ?_;rintro e W' ⟨v,v',H',ρ',rfl,rfl,hv',_,WS⟩;have Br:=GR WS;refine⟨v',rfl, ?_⟩;rw[hv'.Df];have hW0:=hW;obtain⟨p,q,hA,hV,hpq,hfz,vy⟩:=hW;rw[hv] at hV;obtain⟨rfl,rfl⟩:=trodVars_none hV;simp only[List.append_nil] at hpq;subst hpq
 have hlen:ds.length=fn.params.size:=by
  have key:∀{ts:List TypeId} {vs:List Value} {ds:List (DataW H)} {p:List MemPlace},DataW.TrodAll enc E.P W 0 (fun _=>true) true ts vs ds p→ds.length=ts.length:=by
   intro ts
   induction ts with
   |nil=>intro vs ds p h;obtain⟨_,rfl,_⟩:=trodAll_nil h;rfl
   |cons t ts ih=>
    intro vs ds p h;obtain⟨v,vs1,d,ds1,a,b,rfl,rfl,rfl,_,h2⟩:=trodAll_cons h;simp [ih h2]
  simpa using key hA
 have hsp:=hs ds hlen;have hlt:∀x∈before,x.block<W.heap.size:=fun x hx=>hW0.lt x hx
 refine Bn (pa:=before) (pv:=[]) hW0 (fun b sp hd=> ?_) (fun sp ade=> ?_) (fun sp _=> ?_) (by simp) Br ?_
 ·rw[List.append_nil,hsp,hres];exact trodAll_cons_mk (p:=[]) (p':=[]) (shut_bool hb true) trodAll_mk0
 ·rw[List.append_nil,hsp];exact so hl Br hpar ade hlt hA
 ·rw[List.append_nil,hsp,hv];rfl
 ·exact ok_one hres rfl (okWide_bool_mk hb true)
theorem I3 {t:TypeId} {d:TypeDesc} {r:Reach} {aV:Nat} {cs:Array Value} (hu:P.underlying t=some d) (hd:iP d=false) (h:Value.okWide P W r aV t (.agg cs)):False:=by
 cases d<;>simp [iP] at hd<;>simp [Value.okWide,hu,Cell.okWide,Cell.ok] at h
theorem CF {t:TypeId} {d:TypeDesc} {r:Reach} {aV:Nat} {v:Value} (hu:P.underlying t=some d) (hd:iP d=false) (h:Value.okWide P W r aV t v):v.cells.toList.map (I2 W)=[M5 W v]:=by
 have hn:∀cs,v≠ .agg cs:=by rintro cs rfl;exact I3 hu hd h
 rw[Sx hn];cases v<;>first|rfl|exact absurd rfl (hn _)
variable {r:Reach} {aV:Nat} {v:Value} {d:DataW H} {p:List MemPlace} {t:TypeId}
theorem Sy {k:IntKind} (hu:P.underlying t=some (.int k)) (hval:Value.okWide P W r aV t v) (h:DataW.Trod enc P W 0 (fun _=>true) true t v d p):∃x,M5 W v=.int k x∧k.min≤x∧x≤k.max:=by
 obtain⟨n,hn⟩:=xj h;rw[CF hu rfl hval] at hn
 cases n with
 |zero=>exact hn.elim
 |succ n=>
  simp only[Bm,hu] at hn;obtain⟨x,hx,hr⟩:=hn;exact⟨x,by simpa using hx,hr⟩
end
section
variable {P:Program} {H:ag} {n:Nat} {t:TypeId} {x:V}
theorem qG {k:IntKind} (hu:P.underlying t=some (.int k)) (h:Bm P H n t [x]):∃y,x=.int k y∧k.min≤y∧y≤k.max:=by
 cases n with
 |zero=>exact h.elim
 |succ n=>
  simp only[Bm,hu] at h;obtain⟨y,hy,hr⟩:=h;exact⟨y,by simpa using hy,hr⟩
theorem KP (hu:P.underlying t=some .bool) (h:Bm P H n t [x]):∃y,x=.bool y:=by
 cases n with
 |zero=>exact h.elim
 |succ n=>
  simp only[Bm,hu] at h;obtain⟨y,hy⟩:=h;exact⟨y,by simpa using hy⟩
def MB (P:Program) (H:ag) (e:TypeId) (q:Oq) (len cap:Nat):Prop:=
 len≤cap∧cap≤maxLen∧(q=none→cap=0)∧
  ∃n,∀i,i<cap→∃id off,q=some (id,off)∧id<H.next∧H.inb id (off+i*P.cellsOf e) (P.cellsOf e)=true∧Bm P H n e (H.sub id (off+i*P.cellsOf e) (P.cellsOf e))
theorem GV {e:TypeId} (hu:P.underlying t=some (.slice e)) (hpos:0<P.cellsOf e) (h:Bm P H n t [x]):∃q len cap,x=.slice q len cap∧MB P H e q len cap:=by
 cases n with
 |zero=>exact h.elim
 |succ n=>
  simp only[Bm,hu] at h;obtain⟨q,len,cap,hx,h1,h2,h3,h4⟩:=h hpos;exact⟨q,len,cap,by simpa using hx,h1,h2,h3,n,h4⟩
theorem MC {fs:Array Field} {cs:List V} (hu:P.underlying t=some (.struct fs)) (h:Bm P H n t cs):cs.length=P.cellsOf t∧∃m,∀f∈fs.toList,Bm P H m f.type ((cs.drop f.offset).take (P.cellsOf f.type)):=by
 cases n with
 |zero=>exact h.elim
 |succ n=>
  simp only[Bm,hu] at h;exact⟨h.1,n,h.2⟩
end
section
variable {H:Type} {enc:TypeId×Value→H} {P:Program} {W:World} {r:Reach} {aV:Nat} {v:Value} {d:DataW H} {p:List MemPlace} {t:TypeId}
theorem MD {e:TypeId} (hu:P.underlying t=some (.slice e)) (hpos:0<P.cellsOf e) (hval:Value.okWide P W r aV t v) (h:DataW.Trod enc P W 0 (fun _=>true) true t v d p):∃q len cap,M5 W v=.slice q len cap∧MB P (hG W) e q len cap:=by
 obtain⟨n,hn⟩:=xj h;rw[CF hu rfl hval] at hn;exact GV hu hpos hn
end
end Go.Am
end
section
namespace Go.Am
theorem P4 (W:World):az (hG W) (hG W) []:=by
 refine az.start ?_ ?_
 ·intro id o h;obtain⟨cs,e,fz,hb,rfl⟩:=mb h;show id<W.heap.size
  rcases Nat.lt_or_ge id W.heap.size with h|h
  ·exact h
  ·rw[Array.getElem?_eq_none h] at hb;cases hb
 ·intro id o h;obtain⟨cs,e,fz,hb,rfl⟩:=mb h;exact⟨e,_,rfl⟩
theorem x9 {H:ag} {id off n:Nat} (h:H.inb id off n=true):∃e l ro,H.get id=some (.cells e l ro)∧off+n≤l.length:=by
 unfold ag.inb at h;split at h
 ·rename_i e l ro hg;exact⟨e,l,ro,hg,by simpa using h⟩
 ·cases h
theorem P5 {P:Program} {H:ag} {t:TypeId} {q:Oq} {len cap:Nat} (hu:P.underlying t=some (.int .u8)) (hc:P.cellsOf t=1) (h:MB P H t q len cap):
 ∃bs:List UInt8,bs.length=len∧mn H q bs∧len≤cap∧len≤maxLen:=by
 obtain⟨h1,WQ,_,n,h2⟩:=h;rw[hc] at h2
 have key:∀i,∃b:UInt8,i<len→∃id off,q=some (id,off)∧H.inb id (off+i) 1=true∧H.sub id (off+i) 1=[.int .u8 (b.toNat:Int)]:=by
  intro i;by_cases hi:i<len
  ·obtain⟨id,off,e1,_,e3,e4⟩:=h2 i (by omega);simp only[Nat.mul_one] at e3 e4
   have hl:∃x,H.sub id (off+i) 1=[x]:=by
    obtain⟨e,l,ro,hg,hle⟩:=x9 e3;have:(H.sub id (off+i) 1).length=1:=by rw[kR hg];simp;omega
    match hs:H.sub id (off+i) 1,this with
    |[x],_=>exact⟨x,rfl⟩
   obtain⟨x,hx⟩:=hl;rw[hx] at e4;obtain⟨y,rfl,hy1,Tz⟩:=qG (P:=P) hu e4;have m1:IntKind.u8.min=0:=by decide
   have m2:IntKind.u8.max=255:=by decide
   rw[m1] at hy1;rw[m2] at Tz;refine⟨UInt8.ofNat y.toNat,fun _=>⟨id,off,e1,e3, ?_⟩⟩;rw[hx];simp;omega
  ·exact⟨0,fun h=>absurd h hi⟩
 refine⟨(List.range len).map fun i=>Classical.choose (key i),by simp, ?_,h1,by omega⟩;by_cases h0:len=0
 ·subst h0;exact .inl rfl
 ·obtain⟨id,off,e1,e2,_⟩:=Classical.choose_spec (key 0) (by omega);obtain⟨e,l,ro,hg,_⟩:=x9 e2;refine .inr ⟨id,off,e,l,ro,e1,hg, ?_⟩;apply List.ext_getElem?;intro i;rw[oH,List.length_map,List.length_range,List.getElem?_take];by_cases hi:i<len
  ·obtain⟨id',off',QN,Xg,e3'⟩:=Classical.choose_spec (key i) hi;rw[e1] at QN;cases QN;rw[kR hg] at e3';rw[if_pos hi,List.getElem?_drop];simp only[bj,List.map_map,List.getElem?_map,List.getElem?_range hi,Option.map_some,Function.comp];have:=congrArg (fun m=>m[0]?) e3';simpa using this
  ·rw[if_neg hi];simp [bj,hi]
theorem CG {l:List V} {off n:Nat} {f:Nat→List V}:∀(len:Nat),(∀i,i<len→(l.drop (off+i*n)).take n=f i∧(f i).length=n)→(l.drop off).take (len*n)=((List.range len).map f).flatten
 |0,_=>by simp
 |k+1,h=>by
  rw[List.range_succ,List.map_append,List.flatten_append, ←CG k (fun i hi=>h i (by omega))];rw[Nat.add_mul,Nat.one_mul,List.take_add,List.drop_drop,(h k (by omega)).1];simp
theorem Sz {P:Program} {H:ag} {t:TypeId} {q:Oq} {len cap n:Nat} (hc:P.cellsOf t=n) (h:MB P H t q len cap):∃(css:List (List V)) (m:Nat),css.length=len∧Rd H q css.flatten∧(∀c∈css,c.length=n∧Bm P H m t c)∧len≤cap∧len≤maxLen:=by
 obtain⟨h1,WQ,_,m,h2⟩:=h;rw[hc] at h2
 have key:∀i,∃c:List V,i<len→∃id off,q=some (id,off)∧H.inb id (off+i*n) n=true∧H.sub id (off+i*n) n=c∧c.length=n∧Bm P H m t c:=by
  intro i;by_cases hi:i<len
  ·obtain⟨id,off,e1,_,e3,e4⟩:=h2 i (by omega);refine⟨_,fun _=>⟨id,off,e1,e3,rfl, ?_,e4⟩⟩;obtain⟨e,l,ro,hg,hle⟩:=x9 e3;rw[kR hg];simp;omega
  ·exact⟨[],fun h=>absurd h hi⟩
 refine⟨(List.range len).map fun i=>Classical.choose (key i),m,by simp, ?_, ?_,h1,by omega⟩
 ·by_cases h0:len=0
  ·subst h0;exact .inl rfl
  ·obtain⟨id,off,e1,e2,_⟩:=Classical.choose_spec (key 0) (by omega);obtain⟨e,l,ro,hg,_⟩:=x9 e2;refine .inr ⟨id,off,e,l,ro,e1,hg, ?_⟩
   have TU:=CG (l:=l) (off:=off) (n:=n) (f:=fun i=>Classical.choose (key i)) len (fun i hi=>by
    obtain⟨id',off',QN,_,e3',e4',_⟩:=Classical.choose_spec (key i) hi;rw[e1] at QN;cases QN;rw[kR hg] at e3'
    exact⟨e3',e4'⟩)
   have hlen:((List.range len).map fun i=>Classical.choose (key i)).flatten.length=len*n:=by
    rw[←TU,List.length_take,List.length_drop];obtain⟨id',off',QN,Xg,_⟩:=Classical.choose_spec (key (len-1)) (by omega);rw[e1] at QN;cases QN;rw[dE hg] at Xg;have:=Nat.le_of_ble_eq_true Xg;have e:(len-1)*n+n=len*n:=by rw[←Nat.succ_mul];congr 1;omega
    omega
   rw[hlen];exact TU
 ·intro c hc;obtain⟨i,hi,rfl⟩:=List.mem_map.1 hc;obtain⟨_,_,_,_,_,e4,e5⟩:=Classical.choose_spec (key i) (List.mem_range.1 hi);exact⟨e4,e5⟩
end Go.Am
end
section
namespace Go.Proofs.YtlgdkndamddpkaaGreat
open Go.Am
structure Ac where
 ho:Int
 kd:Int
 lb:Int
 ky:Int
 nw:Int
 ty:Int
 su:Bool
 ow:Bool
 q:Oq
 c:Nat
 d:List UInt8
 n:Int
def Ac.cs (a:Ac):List V:=c37 a.ho a.kd a.lb a.ky a.nw a.ty a.su a.ow a.q a.d.length a.c a.n
structure Ac.ok (B:ag) (a:Ac):Prop where
 ho:0≤a.ho∧a.ho≤255
 kd:0≤a.kd∧a.kd≤255
 lb:0≤a.lb∧a.lb≤255
 ky:0≤a.ky∧a.ky≤255
 nw:0≤a.nw∧a.nw≤255
 ty:0≤a.ty∧a.ty≤255
 rd:mn B a.q a.d
 n:0≤a.n∧a.n≤255
def KQ (i:Nat):Int:=[0,0,1,1,1,2,3,4,4,5,6,7,8,9].getD i 0
def Tw (i:Nat):Int:=[1,3,5,6,7,8].getD i 0
theorem P6 {i:Nat} (h:i<14):0≤KQ i∧KQ i≤9:=by
 have hh:i=0∨i=1∨i=2∨i=3∨i=4∨i=5∨i=6∨i=7∨i=8∨i=9∨i=10∨i=11∨i=12∨i=13:=by omega
 rcases hh with h|h|h|h|h|h|h|h|h|h|h|h|h|h<;>subst h<;>decide
def Ac.bX (a:Ac):List UInt8:=if a.d.length≤64 then a.d else []
def Ac.cm (a:Ac) (r:R) (n:Int):Cm:=
 ⟨KQ (a.kd % 14).toNat,a.lb % n,if a.d.length≤64 then a.q else none,if a.d.length≤64 then a.d.length else 0,if a.d.length≤64 then a.c else 0,a.su,
  if a.ow=true then r.k (a.ho % 4).toNat else a.ky % 4,a.nw % 4,Tw (a.ty % 6).toNat,a.su⟩
theorem Ac.Tx (a:Ac) (r:R) (n:Int):(a.cm r n).dn=a.bX.length:=by unfold Ac.cm Ac.bX;split<;>simp [*]
theorem Ac.Ty {B:ag} {L:List cv} {a:Ac} (ha:a.ok B) (r:R) (n:Int):k6 B L (a.cm r n).dp a.bX:=by
 unfold Ac.cm Ac.bX;by_cases h:a.d.length≤64
 ·simp only[h,if_true];exact k6.of ha.rd
 ·simp only[h,if_false];exact k6.nil _ _ _
theorem Ac.aah (a:Ac) (r:R) (n:Int) (ha:0≤a.kd∧a.kd≤255):0≤(a.cm r n).kd∧(a.cm r n).kd≤9:=P6 (by omega)
section
variable {B:ag} {L:List cv} {H:ag} {K:V→ag→Prop} {oid mid:Nat} {o:Ob}
theorem Wc (h:az B H L) {a:Ac} (ha:a.ok B) (r:R) {n:Int} (hn:1≤n) (hn2:n≤1000000) (k:∀H',az B H' L→K (.tuple [.int .i64 (a.ho % 4),.agg (a.cm r n).cs]) H'):cl 14 [.agg a.cs,.agg r.cs,.int .i64 n] H K:=by
 have h1:=ha.ho;have h2:=ha.kd;have h3:=ha.lb;have h4:=ha.ky;have h5:=ha.nw;have h6:=ha.ty;unfold Ac.cs R.cs;rw[abd];simp only[oW];have t1:Int.tmod a.kd 14=a.kd % 14:=Int.tmod_eq_emod_of_nonneg h2.1;have t2:Int.tmod a.ty 6=a.ty % 6:=Int.tmod_eq_emod_of_nonneg h6.1;have t3:Int.tmod a.ho 4=a.ho % 4:=Int.tmod_eq_emod_of_nonneg h1.1;have t4:Int.tmod a.ky 4=a.ky % 4:=Int.tmod_eq_emod_of_nonneg h4.1;have t5:Int.tmod a.nw 4=a.nw % 4:=Int.tmod_eq_emod_of_nonneg h5.1;have t6:Int.tmod a.lb n=a.lb % n:=Int.tmod_eq_emod_of_nonneg h3.1;have w1:IntKind.i64.wrap (a.ho % 4)=a.ho % 4:=by rw[bu (by omega) (by omega)]
 have w2:IntKind.u32.wrap (a.ky % 4)=a.ky % 4:=IntWalk.u32_in _ (by omega);have w3:IntKind.u32.wrap (a.nw % 4)=a.nw % 4:=IntWalk.u32_in _ (by omega);have w4:IntKind.i64.wrap a.lb=a.lb:=by rw[bu (by omega) (by omega)]
 have g1:0≤a.kd % 14:=by omega
 have g2:a.kd % 14<14:=by omega
 have g3:0≤a.ty % 6:=by omega
 have g4:a.ty % 6<6:=by omega
 have g5:0≤a.ho % 4:=by omega
 have g6:a.ho % 4<8:=by omega
 have g7:¬n=0:=by omega
 have s1:=h.alloc 5 (nG 1 3 5 6 7 8);have s2:=s1.alloc 5 [V.int .u8 0,V.int .u8 0,V.int .u8 1,V.int .u8 1,V.int .u8 1,V.int .u8 2,V.int .u8 3,V.int .u8 4,V.int .u8 4,V.int .u8 5,V.int .u8 6,V.int .u8 7,V.int .u8 8,V.int .u8 9];have I5:=s2.get;have SK:=s2.swap.get;have WJ:=s2.drop.drop;rw[t1,t2,t3,t4,t5,w1,w2,w3,w4,t6];generalize hH2:(H.alloc (.cells 5 (nG 1 3 5 6 7 8) false)).alloc _=H2 at*;have e1:(H.alloc (.cells 5 (nG 1 3 5 6 7 8) false)).2=(H.alloc (.cells 5 (nG 1 3 5 6 7 8) false)).next:=rfl
 have c1:H2.cell (H.alloc (.cells 5 (nG 1 3 5 6 7 8) false)).next (0+(a.kd % 14).toNat*1)=.int .u8 (KQ (a.kd % 14).toNat):=by
  rw[aY I5,Nat.zero_add,Nat.mul_one];generalize hi:(a.kd % 14).toNat=i;have hh:i=0∨i=1∨i=2∨i=3∨i=4∨i=5∨i=6∨i=7∨i=8∨i=9∨i=10∨i=11∨i=12∨i=13:=by omega
  rcases hh with h|h|h|h|h|h|h|h|h|h|h|h|h|h<;>rw[h]<;>rfl
 have i1:H2.inb (H.alloc (.cells 5 (nG 1 3 5 6 7 8) false)).next (0+(a.kd % 14).toNat*1) 1=true:=by
  rw[dE I5];exact Nat.ble_eq_true_of_le (show 0+(a.kd % 14).toNat*1+1≤14 by omega)
 have c2:H2.cell H.next (0+(a.ty % 6).toNat*1)=.int .u8 (Tw (a.ty % 6).toNat):=by
  rw[aY SK,Nat.zero_add,Nat.mul_one];generalize hi:(a.ty % 6).toNat=i;have hh:i=0∨i=1∨i=2∨i=3∨i=4∨i=5:=by omega
  rcases hh with h|h|h|h|h|h<;>rw[h]<;>rfl
 have i2:H2.inb H.next (0+(a.ty % 6).toNat*1) 1=true:=by
  rw[dE SK];exact Nat.ble_eq_true_of_le (show 0+(a.ty % 6).toNat*1+1≤6 by omega)
 have e4:(a.ho % 4).toNat<8:=by omega
 have b1:Nat.ble (Nat.succ (0+(a.ho % 4).toNat*1)) 12=true:=Nat.ble_eq_true_of_le (by omega)
 have n1:ae (bE (r.k 0) (r.k 1) (r.k 2) (r.k 3) (r.k 4) (r.k 5) (r.k 6) (r.k 7) r.ty r.ho r.ge r.la) (0+(a.ho % 4).toNat*1)=.int .u32 (r.k (a.ho % 4).toNat):=by
  rw[Nat.zero_add,Nat.mul_one];exact oO r e4
 have hk:=k H2 WJ;unfold Ac.cm at hk;simp only[g1,g2,g3,g4,g5,g6,g7,e1,i1,c1,i2,c2,b1,n1,decide_true,decide_false,Bool.and_self,Bool.or_false,Bool.not_false,aw,cP,aZ,eg];cases how:a.ow
 all_goals
  rw[how] at hk;simp only[ai,ak,iG,lJ,reduceIte,vU,iy,Bool.or_false,aw,f40,aa0,Xr,Xs,Xt,Xu,Xv,Xw,Xx,Xy,aZ,bV,Bool.false_eq_true,if_false,if_true] at hk⊢;by_cases h64:a.d.length≤64
  ·have WU:(a.d.length:Int)≤64:=by omega
   simp only[WU,decide_true,ak];simp only[h64,if_true] at hk;exact hk
  ·have WU:¬(a.d.length:Int)≤64:=by omega
   simp only[WU,decide_false,ai];simp only[h64,if_false] at hk;exact hk
theorem oS (h:az B H (gW mid o::L)):∃q c q2 c2,H.inb mid 0 1=true∧H.cell mid 0=.slice q o.su.length c∧H.inb mid 1 1=true∧H.cell mid 1=.slice q2 o.ps.length c2∧H.inb mid 2 12=true∧H.sub mid 2 12=o.r.cs∧Rd H q (o.su.map st).flatten:=by
 obtain⟨l,hp,h1⟩:=az.Mi h;obtain⟨q,c,q2,c2,h2⟩:=az.QJ h1;obtain⟨f1,f2,f3,f4,f5,f6,_⟩:=cF h2.get;rw[Aj hp] at f4;exact⟨q,c,q2,c2,f1,f2,f3,f4,f5,f6,(h2.up 1).lO⟩
end
abbrev ME (i:Int):Cm:=⟨0,i,none,0,0,false,0,0,0,false⟩
theorem P7 {g:cn} {u:Un} {o:Ob} {ds:List Nat} {N b:Nat} (h:Ug g u o ds N b) {hh:Int} {i:Nat} (h0:0≤hh) (h8:hh<8) (hi:i<o.su.length) (hm:Hk o.r hh (ME i)=true):QK g u hh (ME i) []=some (u,⟨0,lZ o i,R.zero⟩,0):=by
 obtain⟨s,ps,r,dn⟩:=u;have hr:=h.r;have hps:=h.ps;simp only at hr hps;subst hr hps;obtain⟨t,ht,htb⟩:=h.t;have hlen:=h.len;have hcap:g.cap.toNat=o.su.length:=by omega
 have hv:l6 hh (ME i) o.su.length=true:=by
  unfold l6;have e1:decide ((i:Int)<(o.su.length:Int))=true:=decide_eq_true (by omega);simp [h0,h8,hi]
 unfold QK;rw[EC h];simp only[ne_eq,not_true_eq_false,if_false];unfold Mo;rw[hcap,if_neg (by simp [hv]),if_neg (by simp [hm]),if_pos rfl];have Hf:lZ o (i:Int)=(qD o.ps (i:Int)).getD (o.su.getD i []):=if_pos ⟨by omega,by omega⟩;by_cases hp:fL o.ps (i:Int)=true
 ·rw[if_pos hp];simp only;rw[if_neg (by omega),Hf]
  cases hgp:qD o.ps (i:Int) with
  |none=>rw[rI.1 hgp] at hp;cases hp
  |some d=>rfl
 ·rw[if_neg hp];obtain⟨t',h1,h2,_⟩:=ht.nf i;simp only[Int.toNat_natCast];rw[h1];simp only;rw[if_neg (by omega),Hf,rI.2 (by simpa using hp),h2,PZ hi];rfl
theorem Wd {r:R} (hr:AI r):∃j:Nat,j<8∧∀i:Int,Hk r j (ME i)=true:=by
 have key:∃j:Nat,j<8∧mN r j false=true:=by
  unfold mN;by_cases h0:r.ty=0
  ·exact⟨0,by omega,by simp [h0,IM]⟩
  ·by_cases h8:ng r.ty=true
   ·obtain⟨i,hi,hk⟩:=hr.some h0;refine⟨i,hi, ?_⟩;have:(i:Int)<8:=by omega
    simp [IM,this,holds,h0,h8,key,hk]
   ·have Xh:ng r.ty=false:=by simpa using h8
    obtain⟨i,hi,e,hk⟩:=hr.one h0 Xh;refine⟨i,hi, ?_⟩;have:(i:Int)<8:=by omega
    simp [IM,this,holds,h0,e]
 obtain⟨j,hj,hp⟩:=key;exact⟨j,hj,fun i=>by unfold Hk;rw[if_pos rfl];exact hp⟩
section
variable {B:ag} {L:List cv} {H:ag} {K:V→ag→Prop} {x:Ui} {m:Gm} {u:Un} {o ou:Ob} {ds:List Nat} {N b mid:Nat}
theorem CH (hm:dA B L m) (hg:m.g.In) (hcap:0≤m.g.cap∧m.g.cap<65000) (U:Ug m.g u ou ds N b) (hb:b<2147483648) (ho:o.ok) (hr:ou.r=o.r) (hl:ou.su.length=o.su.length) {n:Int} {i:Nat} (hi:i<o.su.length) {Kr:Am.St→Prop} {Ke:Nat→Am.St→Prop}:∀(k h:Nat) {H:ag},h+k=8→(∃j:Nat,h≤j∧j<8∧∀i:Int,Hk o.r j (ME i)=true)→eX B H x m u (gW mid o::L)→(lZ ou i=lZ o i→∀H',eX B H' x m u (gW mid o::L)→Ke 2 (St.mk (ab [(0,T.v (V.aj (some (x.iN,0)))),(1,T.v (V.aj (some (mid,0)))),(2,T.v (V.int .i64 n)),(7,T.v (V.int .i64 (i:Int)))]) (ab []) H'))→(lZ ou i≠lZ o i→∀H',eX B H' x m u (gW mid o::L)→Kr (St.mk (ab [(6,T.v (V.bool false))]) (ab []) H'))→lo 22 9 (St.mk (ab [(0,T.v (V.aj (some (x.iN,0)))),(1,T.v (V.aj (some (mid,0)))),(2,T.v (V.int .i64 n)),(7,T.v (V.int .i64 (i:Int))),(8,T.v (V.int .i64 (h:Int)))]) (ab []) H) Kr Ke
 |0,h,H,hk,hj,hS,k1,k2=>by
  obtain⟨j,h1,h2,_⟩:=hj;omega
 |k+1,h,H,hk,hj,hS,k1,k2=>by
  obtain⟨q,c,q2,c2,f1,f2,f3,f4,f5,f6,_⟩:=oS (mid:=mid) (o:=o) (hS.ord [6]);have e1:(h:Int)<8:=by omega
  have e3:IntKind.i64.wrap ((h:Int)+1)=((h+1:Nat):Int):=aK (by omega);rw[Vq];simp only[e1,decide_true,ak,Option.isSome_some,Nat.zero_add,f5,f6,R.da,R.dF,Bool.and_self,aw,oU,oV,oW,Option.getD_some,Cm.sj];rw[sl o.r ho.vn (h:Int) (ME 0) (Int.le_refl 0)];simp only[eK,bV,aw];cases WN:Hk o.r (h:Int) (ME 0)
  ·simp only[Bool.not_false,ak,e3];refine CH hm hg hcap U hb ho hr hl hi k (h+1) (by omega) ?_ hS k1 k2;obtain⟨j,h1,h2,h3⟩:=hj;refine⟨j, ?_,h2,h3⟩;rcases Nat.lt_or_ge h j with h4|h4
   ·omega
   ·have:j=h:=by omega
    rw[this] at h3;rw[h3 0] at WN;cases WN
  ·simp only[Bool.not_true,ai]
   have hmi:Hk ou.r (h:Int) (ME (i:Int))=true:=by
    rw[hr];unfold Hk at WN⊢;exact WN
   have hrd:=P7 U (hh:=(h:Int)) (i:=i) (by omega) e1 (by omega) hmi;have CQ:eE u.r:=by rw[U.r];obtain⟨_,_,htb⟩:=U.t;exact htb.P1
   refine I1 (hm.bS _) hg hcap hS U.ok (h:Int) (ME (i:Int)) [] rfl (k6.nil _ _ _) (CQ.doR (h:Int) (ME (i:Int)) ⟨Int.le_refl 0,by show (0:Int)≤_;omega⟩).ok (by rw[U.boots];omega) hrd (fun q3 n3 H3 h3=> ?_);have Bp:mn H3 q3 (lZ ou i):=(h3.ord [6]).ja;have h4:eX B H3 x m u (gW mid o::L):=(h3.ord [6]).drop;have Hf:∀K:V→ag→Prop,K (.cG (cK (lZ o (i:Int)))) H3→cl 48 [.aj (some (mid,0)),.int .i64 (i:Int)] H3 K:=fun K kk=>KI (h4.ord [6]) ho (by omega) (by omega) kk
   simp only[dm,eJ,dM,gg,dW,cI,Rs.aI,Rs.n0,Rs.n1,cP,aZ,Bool.or_false,Bool.and_self,aw,List.length_cons,List.length_nil,Nat.reduceAdd,ik,decide_true,Bool.not_true,Bool.not_false,ak,bF,aU];refine gp (fun S:Am.St=>S=St.mk (ab [(68,T.v (V.bool (!decide (lZ ou i=lZ o i))))]) (ab []) H3) (fun(S:Am.St) Hc=> ?_) (fun Q hQ=> ?_)
   ·subst Hc;simp only[AJ,reduceIte,Nat.reduceEqDiff];by_cases he:lZ ou i=lZ o i
    ·simp only[he,decide_true,Bool.not_true,ai];exact k1 he H3 h4
    ·simp only[he,decide_false,Bool.not_false,ak];exact k2 he H3 h4
   ·simp only[Bp.eY,Bp.eZ,aw];refine⟨Hf _ ?_,Hf _ ?_⟩
    all_goals
     simp only[kP,fU,aw,Bp.eY,Bp.eZ,qi];exact hQ _ rfl
theorem GW (hm:dA B L m) (hg:m.g.In) (hcap:0≤m.g.cap∧m.g.cap<65000) (U:Ug m.g u ou ds N b) (hb:b<2147483648) (ho:o.ok) (hr:ou.r=o.r) (hl:ou.su.length=o.su.length) {Kr:Am.St→Prop} {Ke:Nat→Am.St→Prop}:∀(k i:Nat) {H:ag},i+k=o.su.length→eX B H x m u (gW mid o::L)→((∀j:Nat,i≤j→j<o.su.length→lZ ou j=lZ o j)→∀H',eX B H' x m u (gW mid o::L)→Ke 0 (St.mk (ab []) (ab []) H'))→((∃j:Nat,j<o.su.length∧lZ ou j≠lZ o j)→∀H',eX B H' x m u (gW mid o::L)→Kr (St.mk (ab [(6,T.v (V.bool false))]) (ab []) H'))→lo 22 5 (St.mk (ab [(0,T.v (V.aj (some (x.iN,0)))),(1,T.v (V.aj (some (mid,0)))),(2,T.v (V.int .i64 (o.su.length:Int))),(7,T.v (V.int .i64 (i:Int)))]) (ab []) H) Kr Ke
 |0,i,H,hi,hS,k1,k2=>by
  rw[NU,decide_eq_false (by omega),ai];exact k1 (fun j h1 h2=>by omega) H hS
 |k+1,i,H,hi,hS,k1,k2=>by
  have hlt:i<o.su.length:=by omega
  have hn2:=ho.n2;have e3:IntKind.i64.wrap ((i:Int)+1)=((i+1:Nat):Int):=aK (by omega);obtain⟨j,hj8,hj⟩:=Wd ho.vn;rw[NU,decide_eq_true (by omega),ak];refine CH hm hg hcap U hb ho hr hl hlt 8 0 (by omega) ⟨j,Nat.zero_le _,hj8,hj⟩ hS (fun he H1 h1=> ?_) (fun he H1 h1=> ?_)
  ·simp only[AJ,reduceIte,Nat.reduceEqDiff,e3];refine GW hm hg hcap U hb ho hr hl k (i+1) (by omega) h1 (fun hall=>k1 (fun j h1 h2=> ?_)) k2;rcases Nat.lt_or_ge i j with h|h
   ·exact hall j h h2
   ·have:j=i:=by omega
    rw[this];exact he
  ·simp only[AJ,reduceIte,Nat.reduceEqDiff];exact k2 ⟨i,hlt,he⟩ H1 h1
theorem P8 (hm:dA B L m) (hg:m.g.In) (hcap:0≤m.g.cap∧m.g.cap<65000) (U:Ug m.g u ou ds N b) (hb:b<2147483648) (ho:o.ok) (hgo:eE o.r) (hl:ou.su.length=o.su.length) (hS:eX B H x m u (gW mid o::L)) (k:∀(v:Bool) H',(v=true↔ou.r=o.r∧ou.ps.length=o.ps.length∧∀j:Nat,j<o.su.length→lZ ou j=lZ o j)→eX B H' x m u (gW mid o::L)→K (.bool v) H'):cl 22 [.aj (some (x.iN,0)),.aj (some (mid,0)),.int .i64 (o.su.length:Int)] H K:=by
 obtain⟨q,c,q2,c2,f1,f2,f3,f4,f5,f6,_⟩:=oS (mid:=mid) (o:=o) (hS.ord [6]);have CQ:eE ou.r:=by obtain⟨_,_,htb⟩:=U.t;exact htb.P1
 have hUr:=U.r;have hUp:=U.ps;rw[abh];have RV:∀K:V→ag→Prop,cl 15 [.aj (some (x.iN,0))] H K=K (.agg u.r.cs) H:=fun K=>GM hS
 have WT:∀K:V→ag→Prop,cl 24 [.aj (some (x.iN,0))] H K=K (.int .i64 (u.ps.length:Int)) H:=fun K=>Cy hS
 refine gp (fun S:Am.St=>S=St.mk (ab [(27,T.v (V.bool (!(cO u.r.cs o.r.cs&&decide (u.ps.length=o.ps.length)))))]) (ab []) H) (fun(S:Am.St) Hc=> ?_) (fun Q hQ=> ?_)
 ·subst Hc;simp only[AJ,reduceIte,Nat.reduceEqDiff];by_cases he:cO u.r.cs o.r.cs=true∧u.ps.length=o.ps.length
  ·have CL:ou.r=o.r:=by
    rw[←hUr];refine(eE.ext (r:=o.r) hgo ?_ ((R.rG _ _).1 he.1));rw[hUr];exact CQ.nz
   simp only[he.1,he.2,decide_true,Bool.and_self,Bool.not_true,ai];refine GW hm hg hcap U hb ho CL hl o.su.length 0 (by omega) hS (fun hall H1 h1=> ?_) (fun hne H1 h1=> ?_)
   ·simp only[AJ,reduceIte,Nat.reduceEqDiff];exact k true H1 ⟨fun _=>⟨CL,by rw[←hUp];exact he.2,fun j hj=>hall j (Nat.zero_le _) hj⟩,fun _=>rfl⟩ h1
   ·simp only[AJ,reduceIte,Nat.reduceEqDiff];obtain⟨j,hj,hne⟩:=hne;exact k false H1 ⟨fun e=>(by cases e),fun e=>absurd (e.2.2 j hj) hne⟩ h1
  ·have e:(cO u.r.cs o.r.cs&&decide (u.ps.length=o.ps.length))=false:=by
    rw[←Bool.not_eq_true,Bool.and_eq_true,decide_eq_true_eq];exact he
   rw[e];simp only[Bool.not_false,ak];refine k false H ⟨fun e=>(by cases e),fun e=>absurd (?_:cO u.r.cs o.r.cs=true∧u.ps.length=o.ps.length) he⟩ hS;rw[hUr,hUp,e.1];exact⟨R.eq_self _,e.2.1⟩
 ·have fin:Q (St.mk (ab [(27,T.v (V.bool (!(cO u.r.cs o.r.cs&&decide (u.ps.length=o.ps.length)))))]) (ab []) H):=hQ _ rfl;simp only[Option.isSome_some,Nat.zero_add,RV,WT,f3,f4,f5,f6,R.da,R.dF,AJ,reduceIte,Nat.reduceEqDiff];cases hce:cO u.r.cs o.r.cs
  ·rw[hce] at fin;simp only[Bool.false_and,Bool.not_false,Bool.not_true,ai,and_self] at fin⊢;exact fin
  ·rw[hce] at fin;have e5:decide (((u.ps.length:Nat):Int)=((o.ps.length:Nat):Int))=decide (u.ps.length=o.ps.length):=decide_eq_decide.2 (by omega);simp only[Bool.true_and,Bool.not_false,Bool.not_true,ak,and_self] at fin⊢;by_cases hp:u.ps.length=o.ps.length
   ·have AO:((u.ps.length:Nat):Int)=((o.ps.length:Nat):Int):=by omega
    simp only[hp,AO,decide_true] at fin⊢
    first|exact fin|exact⟨fin,fin⟩
   ·have AO:¬((u.ps.length:Nat):Int)=((o.ps.length:Nat):Int):=by omega
    simp only[hp,AO,decide_false] at fin⊢
    first|exact fin|exact⟨fin,fin⟩
end
theorem CI:∀(bK:List Int) (bs:List Bk),(∀x∈bs,x=fJ∨x=zu)→∀x∈sf bs bK,x=fJ∨x=zu
 |[],bs,h=>h
 |i::bK,bs,h=>CI bK _ (fun x hx=>by
  rcases List.mem_or_eq_of_mem_set hx with hx|rfl
  ·exact h x hx
  ·exact .inr rfl)
theorem CJ {b:Nat}:∀(bK:List Int) (bs:List Bk),(∀i∈bK,i.toNat≠b)→(sf bs bK).getD b fJ=bs.getD b fJ
 |[],bs,h=>rfl
 |i::bK,bs,h=>by
  rw[sf,CJ bK _ (fun j hj=>h j (List.mem_cons_of_mem _ hj)),List.getD_eq_getElem?_getD,List.getD_eq_getElem?_getD,List.getElem?_set,if_neg (h i List.mem_cons_self)]
theorem qH {g:cn} (hg:g.In) (hn:g.zr):g.cap<65000:=by
 have KW:=cn.kE g hg.b.2;have h1:=hn.2.2.1;have h2:=hn.2.2.2.1;have h3:=hn.2.2.2.2.1
 have:g.aA*((g.us.length:Int)-g.aH-1)≤32*62:=by
  by_cases h0:0≤(g.us.length:Int)-g.aH-1
  ·exact Int.mul_le_mul h2 (by omega) h0 (by omega)
  ·have:=Int.mul_nonpos_of_nonneg_of_nonpos (a:=g.aA) (b:=(g.us.length:Int)-g.aH-1) (by omega) (by omega);omega
 have hc:g.cap=g.aA*((g.us.length:Int)-g.aH-1)-2:=rfl;omega
theorem SA {g:cn} (hn:g.zr) (hc:0<g.cap):g.aH+1≤g.us.length:=by
 by_cases h0:0<(g.us.length:Int)-g.aH-1
 ·omega
 ·have h1:=hn.2.2.1;have:=Int.mul_nonpos_of_nonneg_of_nonpos (a:=g.aA) (b:=(g.us.length:Int)-g.aH-1) (by omega) (by omega);have Hl:g.cap=g.aA*((g.us.length:Int)-g.aH-1)-2:=rfl;omega
open Classical in
theorem We {g:cn} (hform:g.cY=true) (hl:g.bK.length≤1000000) (SY:∀i∈g.bK,0≤i∧i<g.aE):Up g (Bf g.aE.toNat g.aA g.bK) (vo g.cap.toNat) [] 0 0:=by
 have hn:=cn.eH hform;have hg:=hn.in hl;have hcap:=cn.lX hform;have hlt:=qH hg hn;have hall:∀x∈(Bf g.aE.toNat g.aA g.bK).bs,x=fJ∨x=zu:=CI _ _ (fun x hx=>.inl (List.eq_of_mem_replicate hx))
 have hlen:(Bf g.aE.toNat g.aA g.bK).bs.length=g.aE.toNat:=by
  show (sf _ _).length=_
  rw[BX,List.length_replicate]
 have tJ:∀x∈(Bf g.aE.toNat g.aA g.bK).bs,x.pg=[]:=fun x hx=>by rcases hall x hx with rfl|rfl<;>rfl
 have hb:g.aE=((g.aE.toNat:Nat):Int):=by have:=hn.1;omega
 have hbk:∀b∈g.us,(Bf g.aE.toNat g.aA g.bK).bk b=fJ:=fun b hb=>by
  have hnb:¬(b:Int)∈g.bK:=by
   unfold cn.us at hb;have:=(List.mem_filter.1 hb).2;simpa using this
  show (sf _ _).getD b fJ=_
  rw[CJ _ _ (fun i hi e=>hnb (by have:=SY i hi;have:i=(b:Int):=by omega
                                 rw[←this];exact hi)),List.getD_eq_getElem?_getD,List.getElem?_replicate]
  split<;>rfl
 have hvw:∀b,vw g (Bf g.aE.toNat g.aA g.bK) b=[]:=fun b=>by
  by_cases hu:b∈g.us
  ·exact zR (.inl (by rw[hbk b hu];rfl))
  ·exact Eb b hu
 have hc0:∀x,vx (vo g.cap.toNat).su [] x=[]:=fun x=>by
  unfold vx vo;simp only;split
  ·rw[List.getD_eq_getElem?_getD,List.getElem?_replicate];split<;>rfl
  ·split<;>rfl
 have no:∀b f,f∉vw g (Bf g.aE.toNat g.aA g.bK) b:=fun b f hf=>by rw[hvw b] at hf;cases hf
 refine⟨⟨[], ?_,.inl ⟨rfl,rfl⟩⟩,rfl,rfl,rfl,rfl,V6 (by omega) (by omega),by show (((List.replicate g.cap.toNat ([]:List UInt8)).length:Nat):Int)=_;rw[List.length_replicate];omega⟩;refine⟨⟨?_,rfl,fun x hx=>(by rw[tJ x hx];have:=hn.2.2.1;show ((0:Nat):Int)≤_;omega),fun x hx d hd=>(by rw[tJ x hx] at hd;cases hd),fun b hb e=>(by rw[hbk b hb] at e;cases e),fun b hb _=>(by rw[hbk b hb];exact⟨Int.le_refl _,rfl,rfl⟩)⟩, ?_, ?_,fun b f hf=>absurd hf (no b f),fun i hi j hj _ _ h=>absurd (hvw i) h.1⟩
 ·rw[hlen];omega
 ·exact⟨fun b f hf=>absurd hf (no b f),fun x=>.inl ⟨hc0 x,fun b f hf=>absurd hf (no b f)⟩,fun b f hf=>absurd hf (no b f),fun b f hf=>absurd hf (no b f),fun b f hf=>absurd hf (no b f),fun b f hf=>absurd hf (no b f)⟩
 ·intro _;have:kl g (Bf g.aE.toNat g.aA g.bK)=0:=List.countP_eq_zero.2 (fun b hb e=>xh (hvw b) (of_decide_eq_true e).2);rw[this];have:=SA hn hcap;omega
section
variable {B:ag} {L:List cv} {H:ag} {K:V→ag→Prop} {m:Gm} {o:Ob} {ds:List Nat} {N b aN:Nat} {a:Ar}
theorem rL (h:az B H (dJ aN a::L)) (hm:dA B L m) (hform:m.g.cY=true) (hg:m.g.In) (U:Up m.g a o ds N b) (hb:b<2147483648) (ha:a.bN≤0) {ep:Nat} (TS:1≤ep∧ep<281474976710656) (hf:a.aM≤ep) (k:∀x v H',x.aN=aN→Ug m.g v o ds N b→v.s.a.bN≤0→v.s.a.aM=a.aM→v.s.f.ep=ep→(∃sq:Int→Nat,(∀y:Int,sq y=((jG y.toNat (a.Be m.g)).map fun f=>f.s.seq).getD 0)∧uM m.g (cE m.g sq a ep).1=some v)→eX B H' x m v L→K (.tuple [.aj (some (x.iN,0)),.int .i64 0]) H'):cl 13 [.aj (some (aN,0)),m.v,.int .u64 (ep:Int)] H K:=by
 have hn:=cn.eH hform;have hc:0≤m.g.cap∧m.g.cap<65000:=⟨by have:=cn.lX hform;omega,qH hg hn⟩;obtain⟨t,Xf,_⟩:=U.t
 have hno:∀sq,(cE m.g sq a ep).2=0∧∃v,uM m.g (cE m.g sq a ep).1=some v∧v.s=(cE m.g sq a ep).1∧Ug m.g v o ds N b:=fun sq=>by
  obtain⟨kp,h1⟩:=U.mount hg hc TS hf hb sq;rcases h1 with h1|⟨_,h1⟩
  ·exact h1
  ·exfalso;have h2:=h1.off;have:=(kp.zK ha).2;rw[this] at h2;have h3:a.off=true:=h2;rw[U.on] at h3;cases h3
 refine Mq h hm hform hg (Xf.rd U.on) hc TS (fun sq _=>by
  obtain⟨_,v,h1,_⟩:=hno sq
  exact⟨v,h1⟩) (fun pz x v H' hx Hq h0 hok huM hS=> ?_) (fun pz H' Hq h0 hok hS=>absurd (hno (eM pz)).1 h0)
 obtain⟨_,v',h1,h2,h3⟩:=hno (eM pz);rw[huM] at h1;cases h1;obtain⟨kp,_⟩:=U.mount hg hc TS hf hb (eM pz);refine k x v H' hx h3 ?_ ?_ ?_ ⟨eM pz,fun y=> ?_,huM⟩ hS
 ·rw[h2];exact(kp.zK ha).1
 ·rw[h2];exact kp.aM
 ·rw[h2];exact kp.ep
 ·unfold eM;rw[←Hq,wm];cases mq y.toNat pz<;>rfl
end
end Go.Proofs.YtlgdkndamddpkaaGreat
end
section
namespace Go.Proofs.YtlgdkndamddpkaaGreat
open Go.Am
theorem EE {p:Nat→Bool}:∀{l ds:List Nat},l.Nodup→(∀b∈l,p b=true→b∈ds)→l.countP p≤ds.length
 |l,ds,hn,h=>by
  rw[List.countP_eq_length_filter];exact List.Nodup.length_le_of_subset (hn.sublist List.filter_sublist) (fun b hb=>h b (List.mem_filter.1 hb).1 (List.mem_filter.1 hb).2)
section
variable {g:cn} {u:Un} {o:Ob} {ds:List Nat} {N b:Nat}
theorem Ug.c3 (h:Ug g u o ds N b):u.s.f.po.count 3≤ds.length:=by
 obtain⟨t,ht,_⟩:=h.t;rw[←ht.lU (a:=u.s.a) (fun _ _=>rfl)]
 exact EE (nT g) (fun b hb e=>Classical.byContradiction fun hn=>by
  have:=(ht.ph.fD b hb hn).2.2
  rw[this] at e;cases e)
theorem aai (hg:g.In) (hform:g.cY=true) (h:Ug g u o ds N b) (hds:(ds.length:Int)≤g.aH) (ha:u.s.a.bN≤0) (hh:Int) (c:Cm) (bX:List UInt8) (hd:c.dn=bX.length) (Xj:0≤c.nw∧c.nw≤4294967295) (hN:N+9*CW<281474976710656):∃v,QK g u hh c bX=some (v,(xD o hh c bX).2,0)∧Kp u.s v.s (9*CW)∧Ug g v (xD o hh c bX).1 ds (N+9*CW) b:=by
 have hn:=cn.eH hform;obtain⟨r,h1,h2,h3⟩:=Wa hg hform (qH hg hn) h hh c bX hd Xj hN;rcases h3 with⟨e1,e2,h3⟩|⟨_,_,_,_,e1,j,_,h3⟩|⟨_,h3⟩
 ·exact⟨r.1,by rw[h1, ←e2, ←e1],h2,h3⟩
 ·exfalso;have:=h3.c3;omega
 ·exfalso;have h4:=h3.off;rw[(h2.zK ha).2] at h4;obtain⟨t,ht,_⟩:=h.t;rw[ht.on] at h4;cases h4
theorem aaj (hg:g.In) (hform:g.cY=true) (h:Ug g u o ds N b) (hds:(ds.length:Int)≤g.aH) (ha:u.s.a.bN≤0) (hN:N+9*CW<281474976710656):∃v,Ts g u=some (v,0)∧Kp u.s v.s (9*CW)∧Ug g v (iB o) ds (N+9*CW) b:=by
 have hn:=cn.eH hform;obtain⟨t,ht,_⟩:=h.t;obtain⟨r,h1,h2,h3⟩:=Wb hg hform (qH hg hn) h hN;rcases h3 with⟨e1,h3⟩|⟨_,e1,j,_,h3⟩|⟨_,h3⟩
 ·exact⟨r.1,by rw[h1, ←e1],h2,h3⟩
 ·exfalso;have:=h3.c3;omega
 ·exfalso;have h4:=h3.off;rw[(h2.zK ha).2,ht.on] at h4;cases h4
end
section
variable {B:ag} {L:List cv} {H:ag} {K:V→ag→Prop} {x:Ui} {m:Gm} {u:Un} {o:Ob} {ds:List Nat} {N b:Nat}
theorem Ug.rok {g:cn} (h:Ug g u o ds N b):eE u.r:=by rw[h.r];obtain⟨_,_,htb⟩:=h.t;exact htb.P1
theorem EF (hm:dA B L m) (hg:m.g.In) (hform:m.g.cY=true) (h:eX B H x m u L) (U:Ug m.g u o ds N b) (hb:b<2147483648) (hds:(ds.length:Int)≤m.g.aH) (ha:u.s.a.bN≤0) (hh:Int) (c:Cm) (bX:List UInt8) (hd:c.dn=bX.length) (hr:k6 B L c.dp bX) (Xj:0≤c.nw∧c.nw≤4294967295) (hN:N+9*CW<281474976710656) (k:∀v q n H',QK m.g u hh c bX=some (v,(xD o hh c bX).2,0)→Kp u.s v.s (9*CW)→Ug m.g v (xD o hh c bX).1 ds (N+9*CW) b→eX B H' x m v (BY q n (xD o hh c bX).2.d::L)→K (.tuple [.agg ((xD o hh c bX).2.cs q n),.int .i64 0]) H'):cl 16 [.aj (some (x.iN,0)),.int .i64 hh,.agg c.cs] H K:=by
 obtain⟨v,h1,h2,h3⟩:=aai hg hform U hds ha hh c bX hd Xj hN;have hn:=cn.eH hform;exact I1 hm hg ⟨by have:=cn.lX hform;omega,qH hg hn⟩ h U.ok hh c bX hd hr (U.rok.doR hh c Xj).ok (by rw[U.boots];omega) h1 (fun q n H' h'=>k v q n H' h1 h2 h3 h')
theorem P9 (hm:dA B L m) (hg:m.g.In) (hform:m.g.cY=true) (h:eX B H x m u L) (U:Ug m.g u o ds N b) (hds:(ds.length:Int)≤m.g.aH) (ha:u.s.a.bN≤0) (hN:N+9*CW<281474976710656) (k:∀v H',Ts m.g u=some (v,0)→Kp u.s v.s (9*CW)→Ug m.g v (iB o) ds (N+9*CW) b→eX B H' x m v L→K (.int .i64 0) H'):cl 25 [.aj (some (x.iN,0))] H K:=by
 obtain⟨v,h1,h2,h3⟩:=aaj hg hform U hds ha hN;have hn:=cn.eH hform;exact PY hm hg ⟨by have:=cn.lX hform;omega,qH hg hn⟩ h U.ok h1 (fun H' h'=>k v H' h1 h2 h3 h')
end
section
variable {B:ag} {L:List cv} {H:ag} {K:V→ag→Prop}
theorem GX {g:cn}:∀(l pre:List Int),g.xf pre l=true→∀i∈l,0≤i∧i<g.aE
 |[],_,_,i,hi=>by cases hi
 |j::l,pre,h,i,hi=>by
  rw[cn.xf,Bool.and_eq_true] at h;have h1:=of_decide_eq_true h.1;rcases List.mem_cons.1 hi with rfl|hi
  ·exact⟨by omega,h1.2.1⟩
  ·exact GX l _ h.2 i hi
theorem Qa {g:cn} (h:g.cY=true):∀i∈g.bK,0≤i∧i<g.aE:=by
 unfold cn.cY at h;rw[Bool.and_eq_true,Bool.and_eq_true] at h;exact GX _ _ h.2.1
theorem KR {m:Gm} (h:az B H L) (hm:dA B L m) (hform:m.g.cY=true) (hg:m.g.In) (k:∀aN a H',Up m.g a (vo m.g.cap.toNat) [] 0 0→a.bN≤0→a.aM=0→a=Bf m.g.aE.toNat m.g.aA m.g.bK→az B H' (dJ aN a::L)→K (.tuple [.aj (some (aN,0)),.int .i64 0]) H'):cl 12 [.int .i64 m.g.aE,.int .i64 m.g.aA,.slice m.q m.g.bK.length m.c] H K:=by
 have hn:=cn.eH hform;have SY:=Qa hform;refine OD h m.g.aE m.g.aA hm.r hg.l (fun hno=>absurd ⟨by have:=hn.1;omega,hn.2.1,by have:=hn.2.2.1;omega,hn.2.2.2.1,SY⟩ hno) (fun _ aN H' h'=> ?_);exact k aN _ H' (We hform hg.l SY) (Int.le_refl _) rfl rfl h'
theorem Qb:(Vx 1).cap=4:=by decide+kernel
def awA:Ob:=⟨[[],[],[],[]],[⟨0,[97],false⟩],R.ic⟩
def W4:Ob:=⟨[[97],[],[],[]],[],R.ic⟩
def awC:Ob:=⟨[[97],[],[],[]],[⟨0,[98],false⟩],R.ic⟩
theorem acI (q:Oq):xD (vo 4) 0 ⟨1,0,q,1,1,false,0,0,0,false⟩ [97]=(awA,⟨0,[],R.zero⟩):=rfl
theorem acJ:iB awA=W4:=rfl
theorem acK (q:Oq):xD W4 0 ⟨1,0,q,1,1,false,0,0,0,false⟩ [98]=(awC,⟨0,[],R.zero⟩):=rfl
theorem acL:z9 awC false=W4:=rfl
theorem acM:xD W4 0 ⟨0,0,none,0,0,false,0,0,0,false⟩ []=(W4,⟨0,[97],R.zero⟩):=rfl
theorem aak (h:az B H L) (b:UInt8):az B (H.alloc (.cells 5 [V.int .u8 b.toNat] false)) (BY (some (H.next,0)) 1 [b]::L):=
 h.DI (el:=5) (n:=1) (len:=1) (c:=1) (l:=[V.int .u8 b.toNat]) (cs:=bj [b]) rfl (jE _) (by omega) (by simp) rfl
theorem Qc (h:az B H L) (k:∀H',az B H' L→K (.bool true) H'):cl 10 [] H K:=by
 rw[aa8];refine xg h 1 (by omega) (fun m H1 Qw hmc h1=> ?_);have hform:m.g.cY=true:=by rw[Qw];exact FW 1 (by omega)
 have hl:m.g.bK.length≤1000000:=by rw[Qw];decide
 have hg:=(cn.eH hform).in hl;have hcap:m.g.cap.toNat=4:=by rw[Qw,Qb];rfl
 have hds:(([]:List Nat).length:Int)≤m.g.aH:=by have:=hg.s;simp;omega
 have MW:∀L:List cv,dA B (JP m::L) m:=fun L=>JP.ok hmc
 have hv:m.v=.agg (dN m.g.aE m.g.aA m.g.aH m.q m.g.bK.length m.c):=rfl;rw[hv];simp only[dW,cI,vu,vt,Bool.and_self,aw,f25,uI,mF,mG,mH,mI,aZ,bF,aU,cu];refine KR h1 (MW L) hform hg (fun aN a H2 U0 ha0 TP _ h2=> ?_);rw[hcap] at U0;simp only[AJ,reduceIte,Nat.reduceEqDiff, ←hv];refine rL h2 (MW L) hform hg U0 (by omega) (by omega) (ep:=1) ⟨by omega,by omega⟩ (by rw[TP];decide) (fun x u H3 hx U1 MP SJ he1 _ h3=> ?_)
 have hw:∀(H:ag) (b:Int),ag.wr (H.alloc (.cells 5 [V.int .u8 b] false)) H.2 0 0=true:=fun H b=>by
  rw[fI (ag.vZ _ _)];rfl
 simp only[AJ,reduceIte,Nat.reduceEqDiff,Cm.sj,hw];have h4:eX B _ x m u (BY (some (H3.next,0)) 1 [97]::JP m::L):=(aak h3 97).ord [1,1,1,1,1,1];refine EF ((MW L).bS _) hg hform h4 U1 (by omega) hds MP 0 ⟨1,0,some (H3.next,0),1,1,false,0,0,0,false⟩ [97] rfl k6.byt ⟨Int.le_refl 0,by show (0:Int)≤_;omega⟩ (by decide) (fun u2 q2 n2 H5 hd2 kp2 U2 h5=> ?_);rw[acI] at U2;have h6:eX B H5 x m u2 (JP m::L):=(h5.ord [6,6]).drop.drop;have ha2:=(kp2.zK MP).1;simp only[AJ,reduceIte,Nat.reduceEqDiff,Rs.aI];refine P9 (MW L) hg hform h6 U2 hds ha2 (by decide) (fun u3 H7 QO kp3 U3 h7=> ?_);rw[acJ] at U3;have ha3:=(kp3.zK ha2).1;simp only[AJ,reduceIte,Nat.reduceEqDiff,Cm.sj,hw];have h8:eX B _ x m u3 (BY (some (H7.next,0)) 1 [98]::JP m::L):=(aak h7 98).ord [1,1,1,1,1,1];refine EF ((MW L).bS _) hg hform h8 U3 (by omega) hds ha3 0 ⟨1,0,some (H7.next,0),1,1,false,0,0,0,false⟩ [98] rfl k6.byt ⟨Int.le_refl 0,by show (0:Int)≤_;omega⟩ (by decide) (fun u4 q4 n4 H9 hd4 kp4 U4 h9=> ?_);rw[acK] at U4;have ha4:=(kp4.zK ha3).1;have hf4:u4.s.a.aM=0:=by rw[kp4.aM,kp3.aM,kp2.aM,SJ,TP]
 have AP:az B H9 (dJ aN u4.s.a::JP m::L):=by
  have:=(h9.ord [6,6]).drop.drop.drop.drop.drop.drop.drop;rw[hx] at this;exact this
 obtain⟨t4,ht4,_⟩:=U4.t;have U5:=U4.leave u4.s.a rfl rfl ht4.on ht4.eV rfl;rw[acL] at U5;simp only[AJ,reduceIte,Nat.reduceEqDiff,Rs.aI];refine rL AP (MW L) hform hg U5 (by omega) ha4 (ep:=2) ⟨by omega,by omega⟩ (by rw[hf4];decide) (fun x2 v H11 tL U6 ha6 hf6 he6 _ CP=> ?_);simp only[AJ,reduceIte,Nat.reduceEqDiff,Cm.sj];refine EF (MW L) hg hform CP U6 (by omega) hds ha6 0 ⟨0,0,none,0,0,false,0,0,0,false⟩ [] rfl (k6.nil _ _ _) ⟨Int.le_refl 0,by show (0:Int)≤_;omega⟩ (by decide) (fun v2 q6 n6 H12 hd6 kp6 U7 h12=> ?_);have Bp:mn H12 q6 [97]:=(h12.ord [6]).ja;rw[acM] at U7;have hs1:eY H12 q6 1=true:=Bp.eY;have n7:eZ H12 q6 1=cK [97]:=Bp.eZ;have e5:(xD W4 0 ⟨0,0,none,0,0,false,0,0,0,false⟩ []).2=⟨0,[97],R.zero⟩:=rfl;rw[e5];have QD:eX B H12 x2 m v2 (JP m::L):=(h12.ord [6]).drop;simp only[AJ,reduceIte,Nat.reduceEqDiff,Rs.aI,Rs.n1,List.length_cons,List.length_nil,hs1,n7,qi];rw[Mm QD];have TS:(v2.s.f.ep:Int)=2:=by rw[kp6.ep,he6];rfl
 simp only[AJ,reduceIte,Nat.reduceEqDiff,TS];exact k H12 (QD.ord [6]).drop.drop.drop.drop.drop.drop.drop
end
theorem mc {y:Int} (h:IntKind.u8.min≤y∧y≤IntKind.u8.max):0≤y∧y≤255:=by
 simpa [IntKind.min,IntKind.max,IntKind.bits,IntKind.signed] using h
theorem aal:eF.P.underlying 5=some (.int .u8):=Tryz.underlying5
theorem GY:eF.P.cellsOf 5=1:=by kernel_rfl
theorem I4:eF.P.cellsOf 4=1:=by kernel_rfl
theorem GZ:eF.P.cellsOf 36=1:=by kernel_rfl
theorem CK:eF.P.cellsOf 38=10:=by kernel_rfl
theorem Wf {H:ag} {n:Nat} {cs:List V} (h:Bm eF.P H n 38 cs):∃a:Ac,cs=a.cs∧a.ok H:=by
 obtain⟨hl,m,hf⟩:=MC (P:=eF.P) Tryz.underlying38 h;rw[CK] at hl
 match cs,hl with
 |[a0,a1,a2,a3,a4,a5,a6,a7,a8,a9],_=>
  simp only[List.forall_mem_cons,GY,I4,GZ,List.drop_succ_cons,List.drop_zero,List.take_succ_cons,List.take_zero] at hf;obtain⟨h0,h1,h2,h3,h4,h5,h6,h7,h8,h9,_⟩:=hf;obtain⟨y0,rfl,r0⟩:=qG (P:=eF.P) Tryz.underlying5 h0;obtain⟨y1,rfl,r1⟩:=qG (P:=eF.P) Tryz.underlying5 h1;obtain⟨y2,rfl,r2⟩:=qG (P:=eF.P) Tryz.underlying5 h2;obtain⟨y3,rfl,r3⟩:=qG (P:=eF.P) Tryz.underlying5 h3;obtain⟨y4,rfl,r4⟩:=qG (P:=eF.P) Tryz.underlying5 h4;obtain⟨y5,rfl,r5⟩:=qG (P:=eF.P) Tryz.underlying5 h5;obtain⟨y6,rfl⟩:=KP (P:=eF.P) Tryz.underlying4 h6;obtain⟨y7,rfl⟩:=KP (P:=eF.P) Tryz.underlying4 h7;obtain⟨q,len,cap,rfl,hs⟩:=GV (P:=eF.P) Tryz.underlying36 (Nat.le_of_ble_eq_true (by kernel_rfl)) h8;obtain⟨bs,rfl,hr,_,_⟩:=P5 aal GY hs;obtain⟨y9,rfl,r9⟩:=qG (P:=eF.P) Tryz.underlying5 h9;exact⟨⟨y0,y1,y2,y3,y4,y5,y6,y7,q,cap,bs,y9⟩,rfl,mc r0,mc r1,mc r2,mc r3,mc r4,mc r5,hr,mc r9⟩
theorem Ac.da (a:Ac):aI k37 a.cs=true:=rfl
theorem Ac.dF (a:Ac):o37 a.cs=a.cs:=rfl
theorem MF {H:ag} {q:Oq} {len cap:Nat} (h:MB eF.P H 38 q len cap):∃sc:List Ac,sc.length=len∧Rd H q (sc.map Ac.cs).flatten∧∀a∈sc,a.ok H:=by
 obtain⟨css,m,h1,h2,h3,_,_⟩:=Sz CK h
 have key:∀css:List (List V),(∀c∈css,c.length=10∧Bm eF.P H m 38 c)→∃sc:List Ac,sc.map Ac.cs=css∧∀a∈sc,a.ok H:=by
  intro css
  induction css with
  |nil=>exact fun _=>⟨[],rfl,fun a h=>by cases h⟩
  |cons c css ih=>
   intro h;obtain⟨sc,e1,e2⟩:=ih (fun x hx=>h x (List.mem_cons_of_mem _ hx));obtain⟨a,e3,e4⟩:=Wf (h c (List.mem_cons_self ..)).2;refine⟨a::sc,by rw[List.map_cons,e1,e3],fun x hx=> ?_⟩;rcases List.mem_cons.1 hx with rfl|hx
   ·exact e4
   ·exact e2 x hx
 obtain⟨sc,e1,e2⟩:=key css h3;exact⟨sc,by rw[←h1, ←e1,List.length_map],by rw[e1];exact h2,e2⟩
theorem Qd (sc:List Ac):pk 10 (sc.map Ac.cs):=by
 intro c hc;obtain⟨a,_,rfl⟩:=List.mem_map.1 hc;exact⟨rfl,gb a.da⟩
theorem SB {H:ag} {q:Oq} {sc:List Ac} (hr:Rd H q (sc.map Ac.cs).flatten) {i:Nat} (hi:i<sc.length):q.isSome=true∧H.inb (q.getD (0,0)).1 ((q.getD (0,0)).2+i*10) 10=true∧H.sub (q.getD (0,0)).1 ((q.getD (0,0)).2+i*10) 10=sc[i].cs∧H.inb (q.getD (0,0)).1 ((q.getD (0,0)).2+i*10+1) 1=true∧H.cell (q.getD (0,0)).1 ((q.getD (0,0)).2+i*10+1)=.int .u8 sc[i].kd:=by
 obtain⟨a,b,c⟩:=xd hr (Qd sc) (by omega) (i:=i) (by simpa using hi);obtain⟨_,d,e⟩:=jR hr (Qd sc) (i:=i) (k:=1) (by simpa using hi) (by omega);rw[List.getElem_map] at c e;exact⟨a,b,c,d,e⟩
theorem G0 (o:Ob) (p:Pg) (sure:Bool):(pq o p sure).su.length=o.su.length:=by
 unfold pq;split
 ·simp
 ·split
  ·exact db _ _
  ·rfl
theorem Wg (o:Ob) (h:Int) (c:Cm) (bX:List UInt8):(xD o h c bX).1.su.length=o.su.length:=by
 unfold xD;split
 ·rfl
 ·split
  ·rfl
  ·split
   ·rfl
   ·split
    ·exact G0 _ _ _
    ·split
     ·exact G0 _ _ _
     ·split
      ·exact db _ _
      ·split<;>rfl
theorem Ac.aam (a:Ac) (r:R) (n:Int):0≤(a.cm r n).nw∧(a.cm r n).nw≤4294967295:=by
 show 0≤a.nw % 4∧a.nw % 4≤_
 omega
def Un.jK (u:Un) (e:Int):Un:={u with s:={u.s with a:={u.s.a with aM:=e}}}
theorem Qe {g:cn} {u:Un} {o:Ob} {ds:List Nat} {N b:Nat} (h:Ug g u o ds N b) {e:Int} (he:u.s.a.aM<e):nc u.s.a e=((u.jK e).s.a,0):=by
 obtain⟨t,ht,_⟩:=h.t;unfold nc;rw[if_neg (by simp [ht.on]),if_neg (by omega)];rfl
theorem As {u:Un} (ho:u.s.a.off=false) (he:(u.s.f.ep:Int)<u.s.a.aM):iJ u=({u with down:=true},7):=by
 unfold iJ;rw[if_neg (by simp [ho]),if_pos (.inr he)]
theorem Qf {g:cn} {u:Un} (ho:u.s.a.off=false) (he:(u.s.f.ep:Int)<u.s.a.aM) (h:Int) (c:Cm) (bX:List UInt8):QK g u h c bX=some ({u with down:=true},⟨0,[],R.zero⟩,7):=by
 unfold QK;rw[As ho he];rw[if_pos (by show (7:Int)≠0;decide)]
theorem Qg {g:cn} {u:Un} (ho:u.s.a.off=false) (he:(u.s.f.ep:Int)<u.s.a.aM):Ts g u=some ({u with down:=true},7):=by
 unfold Ts;rw[As ho he];rw[if_pos (by show (7:Int)≠0;decide)]
section
variable {B:ag} {L:List cv} {H:ag} {K:V→ag→Prop} {m:Gm} {mid aN:Nat}
theorem G1 (hm:dA B L m) (hg:m.g.In) (hform:m.g.cY=true) {n:Nat} (hn1:1≤n) (hn2:n≤65536) {q1:Oq} {c1:Nat} {sc:List Ac} (hsc:Rd B q1 (sc.map Ac.cs).flatten) (hok:∀a∈sc,a.ok B) {Kr:Am.St→Prop} {Ke:Nat→Am.St→Prop}:∀(k i:Nat) (x:Ui) (u:Un) (o:Ob) (N:Nat) {H:ag},i+k=80→x.aN=aN→o.su.length=n→Ug m.g u o [] N 0→u.s.a.bN≤0→u.s.f.ep≤1+i→N+(k+1)*(9*CW)<281474976710656→eX B H x m u (gW mid o::L)→(∀(x':Ui) u' o' N' H',x'.aN=aN→o'.su.length=n→Ug m.g u' o' [] N' 0→u'.s.a.bN≤0→N'+9*CW<281474976710656→eX B H' x' m u' (gW mid o'::L)→Ke 0 (St.mk (ab [(8,T.v (V.int .i64 (n:Int))),(9,T.v (V.aj (some (x'.iN,0)))),(10,T.v (V.int .i64 0)),(11,T.v (V.aj (some (mid,0))))]) (ab []) H'))→lo 8 10 (St.mk (ab [(1,T.v (V.slice q1 sc.length c1)),(5,T.lp 5 0),(6,T.v (V.aj (some (aN,0)))),(8,T.v (V.int .i64 (n:Int))),(9,T.v (V.aj (some (x.iN,0)))),(10,T.v (V.int .i64 0)),(11,T.v (V.aj (some (mid,0)))),(12,T.v (V.int .i64 (i:Int)))]) (ab [(5,LP m)]) H) Kr Ke
 |0,i,x,u,o,N,H,hi,hx,hl,U,ha,hfe,hN,hS,hk=>by
  unfold LP at*;rw[NS]
  have e:(decide ((i:Int)<(sc.length:Int))&&decide ((i:Int)<80))=false:=by
   rw[←Bool.decide_and];exact decide_eq_false (by omega)
  rw[e,ai];exact hk x u o N H hx hl U ha (by omega) hS
 |k+1,i,x,u,o,N,H,hi,hx,hl,U,ha,hfe,hN,hS,hk=>by
  unfold LP at*;rw[NS];rw[Nat.succ_mul] at hN;by_cases hlt:i<sc.length∧i<80
  case neg=>
   have e:(decide ((i:Int)<(sc.length:Int))&&decide ((i:Int)<80))=false:=by
    rw[←Bool.decide_and];exact decide_eq_false (by omega)
   rw[e,ai];exact hk x u o N H hx hl U ha (by omega) hS
  have e1:(i:Int)<(sc.length:Int):=by omega
  have e2:(i:Int)<80:=by omega
  have e3:0≤(i:Int):=by omega
  have e4:IntKind.i64.wrap ((i:Int)+1)=((i+1:Nat):Int):=aK (by omega);obtain⟨s1,s2',I8,_,_⟩:=SB (hS.rd hsc) hlt.1;have hmem:=List.getElem_mem hlt.1;have hac:=hok _ hmem;obtain⟨a,haa⟩:∃a,a=sc[i]'hlt.1:=⟨_,rfl⟩;rw[←haa] at I8 hac;simp only[e1,e2,e3,decide_true,Bool.and_self,ak,s1,s2',I8,Int.toNat_natCast,Ac.da,Ac.dF,aw,oU,oV,oW]
  refine gp (fun S:Am.St=>∃(x':Ui) (u':Un) (o':Ob) (N':Nat),S.1 9=some (T.v (V.aj (some (x'.iN,0))))∧S.1 10=some (T.v (V.int .i64 0))∧x'.aN=aN∧o'.su.length=n∧Ug m.g u' o' [] N' 0∧u'.s.a.bN≤0∧u'.s.f.ep≤2+i∧N'≤N+9*CW∧
   eX B S.3 x' m u' (gW mid o'::L)) (fun(S:Am.St) Hc=> ?_) (fun Q hQ=> ?_)
  ·obtain⟨x',u',o',N',hS9,WO,hx',hl',U',Xb,hf',hN',hS'⟩:=Hc;generalize S.3=H2 at hS'⊢;obtain⟨q,c,q2,c2,f1,f2,f3,f4,f5,f6,_⟩:=oS (mid:=mid) (o:=o') (hS'.ord [6]);have RV:∀K:V→ag→Prop,cl 15 [.aj (some (x'.iN,0))] H2 K=K (.agg o'.r.cs) H2:=fun K=>by rw[GM hS',U'.r]
   have WT:∀K:V→ag→Prop,cl 24 [.aj (some (x'.iN,0))] H2 K=K (.int .i64 (o'.ps.length:Int)) H2:=fun K=>by rw[Cy hS',U'.ps]
   have c30:u'.s.f.po.count 3=0:=by have:=U'.c3;simpa using this
   simp only[hS9,WO,AN,reduceIte,Nat.reduceEqDiff];refine gp (fun S:Am.St=>S.1 172=some (T.v (V.bool false))∧eX B S.3 x' m u' (gW mid o'::L)) (fun(S:Am.St) Hc=> ?_) (fun Q hQ=> ?_)
   ·obtain⟨Bs,KX⟩:=Hc;generalize S.3=H3 at KX⊢;simp only[Bs,AJ,reduceIte,Nat.reduceEqDiff,e4];have ih:=G1 (c1:=c1) (Kr:=Kr) (Ke:=Ke) hm hg hform hn1 hn2 hsc hok k (i+1) x' u' o' N' (by omega) hx' hl' U' Xb (by omega) (by omega) KX hk;unfold LP at ih;exact ih
   ·simp only[Option.isSome_some,Nat.zero_add,RV,WT,f3,f4,f5,f6,R.da,R.dF,R.eq_self,AJ,reduceIte,Nat.reduceEqDiff,decide_true,Bool.not_true,Bool.not_false,ak]
    repeat' apply And.intro
    all_goals
     refine IZ hS' U'.ok.ok (fun H4 h4=> ?_);simp only[AJ,reduceIte,Nat.reduceEqDiff,c30];exact hQ _ ⟨rfl,h4⟩
  ·have hkd:=hac.kd;have ek:V.aa (ae a.cs 1)=a.kd:=rfl;have em:Int.tmod a.kd 38=a.kd % 38:=Int.tmod_eq_emod_of_nonneg hkd.1;have hds:(([]:List Nat).length:Int)≤m.g.aH:=by have:=hg.s;simp;omega
   simp only[ek,em];by_cases k32:a.kd % 38=32
   ·simp only[k32,decide_true,ak];refine Ak (hS.ord [6]) U.ook (fun H1 h1=> ?_);have h2:eX B H1 x m u (gW mid (iB o)::L):=h1.ord [1,1,1,1,1,1];refine P9 (hm.bS _) hg hform h2 U hds ha (by omega) (fun v H3 hd kp U3 h3=> ?_);simp only[AJ,reduceIte,Nat.reduceEqDiff];exact hQ _ ⟨x,v,iB o,_,rfl,rfl,hx,by show (dZ o.su o.ps).length=n;rw[db];exact hl,U3,(kp.zK ha).1,by rw[kp.ep];omega,Nat.le_refl _,h3⟩
   simp only[k32,decide_false,ai];by_cases k36:a.kd % 38=36
   ·simp only[k36,decide_true,ak]
    have hw:IntKind.u64.wrap (2+IntKind.u64.wrap (i:Int))=((2+i:Nat):Int):=by
     rw[IntKind.wrap_u64,IntKind.wrap_u64];omega
    have hA:=hS.arr;rw[hx] at hA;simp only[hw];refine Ou hA _ (fun H1 h1=> ?_);obtain⟨t,ht,_⟩:=U.t;have ads:=ht.aM;rw[Qe U (e:=((2+i:Nat):Int)) (by omega)] at h1⊢;simp only[AJ,reduceIte,Nat.reduceEqDiff];have hfo:(u.jK ((2+i:Nat):Int)).s.a.off=false:=ht.on
    have h2:eX B H1 x m (u.jK ((2+i:Nat):Int)) (gW mid o::L):=by
     have:=h1.ord [1,1,1,1,1];rw[←hx] at this;exact this
    obtain⟨e,hee⟩:∃e:Nat,e=2+i:=⟨_,rfl⟩;rw[←hee] at hfo h2⊢;have eT:I0 m.g (u.jK (e:Int)):=⟨{U.ok.ok with},U.ok.sort,U.ok.le8,U.ok.inr⟩;have aaU:((u.jK (e:Int)).s.f.ep:Int)<(u.jK (e:Int)).s.a.aM:=by show (u.s.f.ep:Int)<(e:Int);omega
    have hcap:0≤m.g.cap∧m.g.cap<65000:=⟨by have:=cn.lX hform;omega,qH hg (cn.eH hform)⟩;have hgr:eE (u.jK (e:Int)).r:=U.rok;simp only[Cm.sj];refine I1 (hm.bS _) hg hcap h2 eT 0 (ME 0) [] rfl (k6.nil _ _ _) (hgr.doR 0 (ME 0) ⟨Int.le_refl 0,by show (0:Int)≤_;omega⟩).ok (by show 0≤u.s.a.boots∧_<_;rw[show (u.jK (e:Int)).s.a.boots=u.s.a.boots from rfl,U.boots];omega) (Qf hfo aaU 0 (ME 0) []) (fun q3 n3 H2 h3=> ?_);have h4:eX B H2 x m {u.jK (e:Int) with down:=true} (gW mid o::L):=(h3.ord [6]).drop;simp only[AJ,reduceIte,Nat.reduceEqDiff,Rs.aI];have adf:I0 m.g {u.jK (e:Int) with down:=true}:=⟨eT.ok,U.ok.sort,U.ok.le8,U.ok.inr⟩;refine PY (hm.bS _) hg hcap h4 adf (Qg (u:={u.jK (e:Int) with down:=true}) hfo aaU) (fun H5 h5=> ?_);simp only[AJ,reduceIte,Nat.reduceEqDiff];have U3:=U.leave (u.jK (e:Int)).s.a rfl rfl hfo ht.eV rfl
    have h6:az B H5 (dJ aN (u.jK (e:Int)).s.a::gW mid o::L):=by
     have:=az.drop (az.drop (az.drop (az.drop (az.drop h5))));rw[←hx];exact this
    have hM:=rL (K:= ?_) h6 (hm.bS _) hform hg U3 (by omega) ha (ep:=e) ⟨by omega,by omega⟩ (Int.le_refl _) ?_
    ·exact hM
    intro x2 w H6 tL U4 ha4 hf4 he4 _ h7;simp only[AJ,reduceIte,Nat.reduceEqDiff];refine PW (h7.ord [6]) false (fun H7 h8=> ?_);exact hQ _ ⟨x2,w,z9 o false,N,rfl,rfl,tL,hl,U4,ha4,by omega,by omega,h8.ord [1,1,1,1,1,1]⟩
   simp only[k36,decide_false,ai];by_cases klt:a.kd % 38<32
   case neg=>
    simp only[klt,decide_false,ai];exact hQ _ ⟨x,u,o,N,rfl,rfl,hx,hl,U,ha,by omega,by omega,hS⟩
   obtain⟨q,c,q2,c2,f1,f2,f3,f4,f5,f6,_⟩:=oS (mid:=mid) (o:=o) (hS.ord [6]);simp only[klt,decide_true,ak,Option.isSome_some,Option.getD_some,Nat.zero_add,f5,f6,R.da,R.dF,Bool.and_self,aw];refine Wc hS hac o.r (n:=(n:Int)) (by omega) (by omega) (fun H1 h1=> ?_);have h1:eX B H1 x m u (gW mid o::L):=h1;simp only[dm,eJ,dM,gg,dW,cI,Cm.da,Cm.dF,cP,aZ,Bool.or_false,Bool.and_self,aw,List.length_cons,List.length_nil,Nat.reduceAdd,ik,decide_true];refine EF (hm.bS _) hg hform h1 U (by omega) hds ha (a.ho % 4) (a.cm o.r n) a.bX (a.Tx _ _) (Ac.Ty hac _ _) (a.aam _ _) (by omega) (fun v q3 n3 H2 hd kp U2 h2=> ?_);simp only[dm,eJ,dM,gg,dW,cI,Rs.aI,cP,aZ,Bool.or_false,Bool.and_self,aw,List.length_cons,List.length_nil,Nat.reduceAdd,ik,decide_true];refine PV (h2.ord [7]) U.ook (a.ho % 4) (a.cm o.r n) (a.aah _ _ hac.kd).1 a.bX (a.Tx _ _) (Ac.Ty hac _ _) (fun H4 h4=> ?_);have Bp:mn H4 q3 (xD o (a.ho % 4) (a.cm o.r n) a.bX).2.d:=(h4.ord [7]).ja;have h5:eX B H4 x m v (gW mid (xD o (a.ho % 4) (a.cm o.r n) a.bX).1::L):=(h4.ord [7]).drop.ord [1,1,1,1,1,1];have e9:V.aL 3 (.tuple [.int .i64 (xD o (a.ho % 4) (a.cm o.r n) a.bX).2.e,.cG (cK (xD o (a.ho % 4) (a.cm o.r n) a.bX).2.d),.agg (xD o (a.ho % 4) (a.cm o.r n) a.bX).2.r.cs])=true:=rfl;have QP:∀a b c:V,ae [a,b,c] 2=c:=fun _ _ _=>rfl
   simp only[e9,QP,eJ,dM,gg,dW,cI,R.da,R.dF,cP,kP,aZ,fU,Bool.or_false,Bool.and_self,aw,decide_true,Bool.not_true,Bool.not_false,ak,Rs.open];rw[Sd Bp];simp only[eK,bV,aw,Bool.not_true,ai];exact hQ _ ⟨x,v,_,_,rfl,rfl,hx,by rw[Wg];exact hl,U2,(kp.zK ha).1,by rw[kp.ep];omega,Nat.le_refl _,h5⟩
end
section
variable {B:ag} {L:List cv} {H:ag} {K:V→ag→Prop} {x:Ui} {m:Gm} {mid:Nat}
theorem Bo (h0:az H H []) (x0:Int) (q:Oq) (len cap:Nat) (l0:0≤x0) (g0:x0≤255) (hs:MB eF.P H 38 q len cap):cl 8 [.int .u8 x0,.slice q len cap] H fun v _=>v=.bool true:=by
 obtain⟨sc,rfl,hsc,hok⟩:=MF hs;rw[eq8];refine Qc h0 (fun H1 h1=> ?_);simp only[eK,bV,aw,Bool.not_true,ai];obtain⟨n0,rfl⟩:∃n0:Nat,x0=(n0:Int):=⟨x0.toNat,by omega⟩;refine xg h1 n0 (by omega) (fun m H2 Qw hmc h2=> ?_);have hform:m.g.cY=true:=by rw[Qw];exact FW n0 (by omega)
 have hl:m.g.bK.length≤1000000:=by rw[Qw];unfold Vx;simp only;split<;>simp
 have SV:=cn.eH hform;have hg:=SV.in hl;have qJ:=cn.lX hform;have hlt:=qH hg SV;have hv:m.v=.agg (dN m.g.aE m.g.aA m.g.aH m.q m.g.bK.length m.c):=rfl;have MW:∀L:List cv,dA H (JP m::L) m:=fun L=>JP.ok hmc
 rw[hv];simp only[dW,cI,vu,vt,Bool.and_self,aw,f25,uI,mF,mG,mH,mI,aZ,bF,aU,cu];refine KR h2 (MW []) hform hg (fun aN a H3 U0 ha0 TP _ h3=> ?_);simp only[AJ,reduceIte,Nat.reduceEqDiff, ←hv];refine Rx h3 ((MW []).bS _) hg (fun H4 h4=> ?_);simp only[AJ,reduceIte,Nat.reduceEqDiff];refine rL h4 (MW []) hform hg U0 (by omega) (by omega) (ep:=1) ⟨by omega,by omega⟩ (by rw[TP];decide) (fun x u H5 hx U1 MP SJ he1 _ h5=> ?_);obtain⟨N,hN⟩:∃N:Nat,m.g.cap=(N:Int):=⟨m.g.cap.toNat,by omega⟩;have hN2:m.g.cap.toNat=N:=by omega
 rw[hN2] at U1;simp only[AJ,reduceIte,Nat.reduceEqDiff,hN];refine Sc h5 (by omega) (by omega) (fun mid H6 h6=> ?_);simp only[AJ,reduceIte,Nat.reduceEqDiff];have h7:eX H H6 x m u (gW mid (vo N)::JP m::[]):=h6.ord [1,1,1,1,1,1];have TD:(vo N).su.length=N:=List.length_replicate;have hcg:aI AD (dN m.g.aE m.g.aA m.g.aH m.q m.g.bK.length m.c)=true:=rfl;have hL:=G1 (m:=m) (aN:=aN) (mid:=mid) (c1:=cap) (L:=JP m::[]) (H:=H6) (Kr:= ?_) (Ke:= ?_) (MW []) hg hform (by omega) (by omega) hsc hok 80 0 x u (vo N) 0 (by omega) hx TD U1 MP (by omega) (by decide) h7 ?_
 ·unfold LP at hL;exact hL
 intro x' u' o' N' H8 hx8 hl8 U8 ha8 hN8 h8;simp only[AN,reduceIte,Nat.reduceEqDiff];have hgo:eE o'.r:=by obtain⟨_,_,htb⟩:=U8.t;exact htb.P1
 have CM:=P8 (K:=fun v _=>ah (V.av .bool v) (V.bool (V.an v)=V.bool true)) (MW []) hg ⟨by omega,by omega⟩ U8 (by omega) U8.ook hgo rfl h8 (fun b H14 hb TO=> ?_)
 ·rw[hl8] at CM;exact CM
 ·have Na:b=true:=hb.2 ⟨rfl,rfl,fun _ _=>rfl⟩;rw[Na];simp only[eK,bV,aw]
end
theorem n8:ownKnob Tryz.prog.godebug=none:=by kernel_rfl
theorem acN:laidOutB Tryz.prog=true:=by kernel_rfl
theorem Wh {l:List TypeId} (h:(l.all fun t=>Tryz.prog.readableRec t&&Nat.blt t Tryz.prog.types.size)=true):∀t∈l,eF.P.readableRec t=true∧t<eF.P.types.size:=by
 intro t ht;have h1:=List.all_eq_true.1 h t ht;rw[Bool.and_eq_true] at h1;exact⟨h1.1,Nat.le_of_ble_eq_true h1.2⟩
end Go.Proofs.YtlgdkndamddpkaaGreat
end
