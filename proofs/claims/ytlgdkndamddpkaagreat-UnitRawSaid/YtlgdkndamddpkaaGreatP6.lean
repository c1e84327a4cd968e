/- Part 6 of the texts behind the law UnitRaw: what its row needs (an abstract machine, its equations, and what the program computes). -/
import Derived.Below
import Derived.ChangeSame
import Derived.WideKeyArgs
import Derived.OpenShut
import Derived.ProofKit
import Derived.Test.YtlgdkndamddpkaaGreatP5
set_option maxRecDepth 100000
set_option linter.unusedSimpArgs false
set_option linter.unusedVariables false
set_option linter.unusedSectionVars false
section
namespace Go.Proofs.YtlgdkndamddpkaaGreat
open Go.Am
structure R.ok (r:R):Prop where
 k:∀i,0≤r.k i∧r.k i≤4294967295
 ty:0≤r.ty∧r.ty≤255
 ho: -1≤r.ho∧r.ho≤254
 ge:0≤r.ge∧r.ge≤4294967295
def xK (k:Nat→Int):Nat→List UInt8
 |0=>[]
 |n+1=>xK k n++le (k n).toNat 4
theorem gj (k:Nat→Int):∀n,(xK k n).length=4*n
 |0=>rfl
 |n+1=>by rw[xK,List.length_append,gj k n,DQ];omega
def gX (r:R) (boots:Nat):List UInt8:=
 xK r.k 8++le r.ty.toNat 1++le (r.ho+1).toNat 1++le r.ge.toNat 4++le (if r.la=true then 1 else 0) 1++le boots 4
theorem vn (r:R) (boots:Nat):(gX r boots).length=43:=by
 simp [gX,gj]
theorem oT {x:Int} (h0:0≤x) (h1:x≤18446744073709551615):IntKind.u64.wrap x=(x.toNat:Int):=by
 rw[IntWalk.u64_in _ ⟨h0,h1⟩];omega
section
variable {B:ag} {L:List cA} {H:ag} {K:V→ag→Prop} {q:Oq} {cap:Nat}
theorem CB (r:R) (hr:r.ok) (x1:Int) {Kr:Am.St→Prop} {Ke:Nat→Am.St→Prop}:∀(n i:Nat) {q:Oq} {cap:Nat} {H:ag},i+n=8→az B H (BY q cap (xK r.k i)::L)→(∀q' c' H',az B H' (BY q' c' (xK r.k 8)::L)→Ke 0 (St.mk (ab [(1,T.v (V.int .i64 x1)),(2,T.lp 2 0),(5,T.v (V.slice q' (xK r.k 8).length c'))]) (ab [(2,aO.cells 46 r.cs)]) H'))→lo 83 3 (St.mk (ab [(1,T.v (V.int .i64 x1)),(2,T.lp 2 0),(5,T.v (V.slice q (xK r.k i).length cap)),(10,T.v (V.agg (xe (r.k 0) (r.k 1) (r.k 2) (r.k 3) (r.k 4) (r.k 5) (r.k 6) (r.k 7)))),(11,T.v (V.int .i64 (i:Int)))]) (ab [(2,aO.cells 46 r.cs)]) H) Kr Ke
 |0,i,q,cap,H,hi,h,k=>by
  obtain rfl:i=8:=by omega
  have:=k _ _ _ h;unfold R.cs at this⊢;rw[Oe];(try simp only[NQ]);exact this
 |n+1,i,q,cap,H,hi,h,k=>by
  have e1:decide ((i:Int)<8)=true:=by simp;omega
  have e2:decide (0≤(i:Int))=true:=by simp
  have e3:Int.toNat (i:Int)*1=i:=by simp
  have e6:Nat.ble (Nat.succ i) 8=true:=by simp;omega
  have e7:=hr.k i;unfold R.cs;rw[Oe];(try simp only[NQ]);rw[aL (by omega)];simp only[e1,e2,e3,e6,Ae r.k (show i<8 by omega),cL,aZ,ak,av,Bool.and_self];rw[oT e7.1 (by omega)];refine eH (r.k i).toNat 4 h (by omega) (by rw[gj];omega) (fun q' c' H' h'=> ?_);simp only[AK,reduceIte,Nat.reduceEqDiff];exact CB r hr x1 n (i+1) (by omega) h' k
theorem Mo (r:R) (hr:r.ok) (boots:Nat) (hb:boots<18446744073709551616) (hb':boots<9223372036854775808) (h:az B H L) (k:∀q' c' H',az B H' (BY q' c' (gX r boots)::L)→K (.slice q' (gX r boots).length c') H'):cl 83 [.agg r.cs,.int .i64 (boots:Int)] H K:=by
 unfold R.cs;rw[ab2];(try simp only[NQ]);refine CB (q:=none) (cap:=0) r hr boots 8 0 (by omega) (kG h) (fun q1 c1 H1 h1=> ?_);unfold R.cs;simp only[AK,reduceIte,Nat.reduceEqDiff,f45,T8,NJ,NK,NL,NM,NN,NO,NP,NR,NS,NT,Ic,Ie];have k1:=hr.ty;have k2:=hr.ho;have k3:=hr.ge;rw[oT k1.1 (by omega)];refine eH r.ty.toNat 1 h1 (by omega) (by rw[gj];omega) (fun q2 c2 H2 h2=> ?_);simp only[AK,reduceIte,Nat.reduceEqDiff];rw[bq (by omega) (by omega),oT (by omega) (by omega)];refine eH (r.ho+1).toNat 1 h2 (by omega) (by simp [gj]) (fun q3 c3 H3 h3=> ?_)
 have aaN:∀(b:Bool),r.la=b→ah (aB (KT.k (cg.int IntKind.u64)) (some (T.v (V.int IntKind.u64 (((if r.la=true then 1 else 0:Nat)):Int))))||false||false)
  (cl 119 [V.slice q3 (xK r.k 8++le r.ty.toNat 1++le (r.ho+1).toNat 1).length c3,V.int IntKind.u64 (IntKind.u64.wrap r.ge),V.int IntKind.i64 4] H3 fun v H'=>
   ah (V.aw cg.slice v) (cl 119 [V.slice (V.au v) (V.ax v) (V.aC v),V.int IntKind.u64 (((if r.la=true then 1 else 0:Nat)):Int),V.int IntKind.i64 1] H' fun v H'=>
    ah (V.aw cg.slice v) (cl 119 [V.slice (V.au v) (V.ax v) (V.aC v),V.int IntKind.u64 (IntKind.u64.wrap boots),V.int IntKind.i64 4] H' fun v H'=>
     ah (V.aw cg.slice v) (K (V.slice (V.au v) (V.ax v) (V.aC v)) H')))):=by
  intro b hb0;rw[oT k3.1 (by omega),cK hb];simp only[AK,reduceIte,Nat.reduceEqDiff];refine eH r.ge.toNat 4 h3 (by omega) (by simp [gj]) (fun q4 c4 H4 h4=> ?_);simp only[AK,reduceIte,Nat.reduceEqDiff];refine eH _ 1 h4 (by omega) (by simp [gj]) (fun q5 c5 H5 h5=> ?_);simp only[AK,reduceIte,Nat.reduceEqDiff];refine eH boots 4 h5 (by omega) (by simp [gj]) (fun q6 c6 H6 h6=> ?_);simp only[AK,reduceIte,Nat.reduceEqDiff];exact k _ _ _ h6
 have:=aaN r.la rfl;cases hl:r.la
 ·simpa [hl,AK,reduceIte,Nat.reduceEqDiff] using this
 ·simpa [hl,AK,reduceIte,Nat.reduceEqDiff] using this
end
def CC (s:RS):Nat→RS×(Nat→Int)
 |0=>(s,fun _=>0)
 |n+1=>(((CC s n).1.num 4 4294967295).2,cw (CC s n).2 n (((CC s n).1.num 4 4294967295).1:Nat))
structure aag where
 r:R
 n:Nat
 e:RS
def As (s:RS×(Nat→Int)):aag:=
 let a:=s.1.num 1 255
 let b:=a.2.num 1 8
 let c:=b.2.num 4 4294967295
 let d:=c.2.num 1 1
 let e:=d.2.num 4 2147483647
 ⟨⟨s.2,(a.1:Nat),(b.1:Nat)-1,(c.1:Nat),decide ((d.1:Int)=1)⟩,e.1,e.2⟩
def tz (bs:List UInt8):aag:=As (CC ⟨bs,false⟩ 8)
def Sg (bs:List UInt8):Option (R×Nat):=
 if (tz bs).e.bI=false∧(tz bs).e.bs=[]∧o9 (tz bs).r=true then some ((tz bs).r,(tz bs).n) else none
def mb (bs:List UInt8):R:=
 ⟨fun i=>if i<8 then (dI ((bs.drop (4*i)).take 4):Nat) else 0,(bs.getD 32 0).toNat,((bs.getD 33 0).toNat:Int)-1,(dI ((bs.drop 34).take 4):Nat),decide (((bs.getD 38 0).toNat:Int)=1)⟩
def nZ (bs:List UInt8):Bool:=decide (bs.length=43)&&(decide ((bs.getD 33 0).toNat≤8)&&(decide ((bs.getD 38 0).toNat≤1)&&decide ((bs.getD 42 0).toNat≤127)))
def EF (bs:List UInt8):Option (R×Nat):=
 if nZ bs=true∧o9 (mb bs)=true then some (mb bs,dI ((bs.drop 39).take 4)) else none
theorem At (s:RS) (size most:Nat):(s.num size most).1≤most:=by
 unfold RS.num;split
 ·exact Nat.zero_le _
 ·simp only[];omega
theorem Tt (l:List UInt8):dI (l.take 4)≤4294967295:=by
 have:=xV (l.take 4);have h:(256:Nat) ^ (l.take 4).length≤256 ^ 4:=Nat.pow_le_pow_right (by omega) (by rw[List.length_take];omega);have h2:(256:Nat) ^ 4=4294967296:=by decide
 omega
theorem vo (bs:List UInt8):∀n,4*n≤bs.length→CC ⟨bs,false⟩ n=(⟨bs.drop (4*n),false⟩,fun i=>if i<n then ((dI ((bs.drop (4*i)).take 4):Nat):Int) else 0)
 |0,_=>by simp [CC]
 |n+1,h=>by
  rw[CC,vo bs n (by omega)];simp only[];rw[kj (by simp;omega) (Tt _)];simp only[List.drop_drop];refine Prod.ext ?_ ?_
  ·simp only[];congr 1
  ·funext i;simp only[cw];by_cases h1:i=n
   ·subst h1;simp
   ·by_cases h2:i<n
    ·have:i<n+1:=by omega
     simp [h1,h2,this]
    ·have:¬i<n+1:=by omega
     simp [h1,h2,this]
theorem KO (bs:List UInt8):∀n,(CC ⟨bs,false⟩ n).1.bI=false→4*n≤bs.length
 |0,_=>by omega
 |n+1,h=>by
  rw[CC] at h;obtain⟨h1,h2,_,_⟩:=iG h;have:=KO bs n h1;rw[vo bs n this] at h2;simp at h2;omega
theorem I5 {bs:List UInt8} {i:Nat} (h:i<bs.length):(bs.drop i).take 1=[bs.getD i 0]:=by
 rw[List.drop_eq_getElem_cons h];simp only[List.getD,List.getElem?_eq_getElem h,Option.getD_some,List.take_succ_cons,List.take_zero]
theorem gO {bs:List UInt8} {i:Nat} (h:i<bs.length):dI ((bs.drop i).take 1)=(bs.getD i 0).toNat:=by
 rw[I5 h];simp [dI]
theorem CD {bs:List UInt8} (h:bs.length=43):dI ((bs.drop 39).take 4)≤2147483647↔(bs.getD 42 0).toNat≤127:=by
 have e:(bs.drop 39).take 4=(bs.drop 39).take 3++[bs.getD 42 0]:=by
  rw[List.take_add_one,List.getElem?_drop];simp [List.getD,h]
 have h3:=xV ((bs.drop 39).take 3);have hl:((bs.drop 39).take 3).length=3:=by simp [h]
 rw[e,qj,hl];rw[hl] at h3;have h2:(256:Nat) ^ 3=16777216:=by decide
 rw[h2] at h3⊢;simp only[dI];omega
theorem Wd (bs:List UInt8):Sg bs=EF bs:=by
 unfold Sg EF;by_cases hl:bs.length=43
 ·have h1:CC ⟨bs,false⟩ 8=_:=vo bs 8 (by omega);have h2:(RS.mk (bs.drop 32) false).num 1 255=_:=kj (by simp;omega) (by rw[gO (by omega)];have:=(bs.getD 32 0).toNat_lt;omega);by_cases h33:(bs.getD 33 0).toNat≤8
  ·have h3:(RS.mk (bs.drop 33) false).num 1 8=_:=kj (by simp;omega) (by rw[gO (by omega)];exact h33);have h4:(RS.mk (bs.drop 34) false).num 4 4294967295=_:=kj (by simp;omega) (Tt _);by_cases h38:(bs.getD 38 0).toNat≤1
   ·have h5:(RS.mk (bs.drop 38) false).num 1 1=_:=kj (by simp;omega) (by rw[gO (by omega)];exact h38);by_cases h42:(bs.getD 42 0).toNat≤127
    ·have h6:(RS.mk (bs.drop 39) false).num 4 2147483647=_:=kj (by simp;omega) ((CD hl).2 h42)
     have hd:tz bs=⟨mb bs,dI ((bs.drop 39).take 4),⟨[],false⟩⟩:=by
      unfold tz As mb;simp only[h1,h2,List.drop_drop,h3,h4,h5,h6,gO (show 32<bs.length by omega),gO (show 33<bs.length by omega),gO (show 38<bs.length by omega)];simp [hl]
     have hg:nZ bs=true:=by unfold nZ;rw[decide_eq_true hl,decide_eq_true h33,decide_eq_true h38,decide_eq_true h42];rfl
     rw[hd,hg];simp
    ·have h6:(RS.mk (bs.drop 39) false).num 4 2147483647=_:=uR (by simp;omega) (by have:=CD hl;omega)
     have hd:(tz bs).e.bI=true:=by
      unfold tz As;simp only[h1,h2,List.drop_drop,h3,h4,h5,h6]
     have hg:nZ bs=false:=by unfold nZ;rw[decide_eq_false h42];simp
     rw[hd,hg];simp
   ·have h5:(RS.mk (bs.drop 38) false).num 1 1=_:=uR (by simp;omega) (by rw[gO (by omega)];omega)
    have hd:(tz bs).e.bI=true:=by
     unfold tz As;simp only[h1,h2,List.drop_drop,h3,h4,h5];exact uS rfl
    have hg:nZ bs=false:=by unfold nZ;rw[decide_eq_false h38];simp
    rw[hd,hg];simp
  ·have h3:(RS.mk (bs.drop 33) false).num 1 8=_:=uR (by simp;omega) (by rw[gO (by omega)];omega)
   have hd:(tz bs).e.bI=true:=by
    unfold tz As;simp only[h1,h2,List.drop_drop,h3];exact uS (uS (uS rfl))
   have hg:nZ bs=false:=by unfold nZ;rw[decide_eq_false h33];simp
   rw[hd,hg];simp
 ·have hg:nZ bs=false:=by unfold nZ;rw[decide_eq_false hl];simp
  rw[hg,if_neg (fun h:false=true∧_=>by cases h.1),if_neg];rintro⟨hb,he,_⟩;unfold tz As at hb he;simp only[] at hb he;obtain⟨b1,l1,_,e1⟩:=iG hb;obtain⟨b2,l2,_,e2⟩:=iG b1;obtain⟨b3,l3,_,e3⟩:=iG b2;obtain⟨b4,l4,_,e4⟩:=iG b3;obtain⟨b5,l5,_,e5⟩:=iG b4;have hk:=KO bs 8 b5;have h1:CC ⟨bs,false⟩ 8=_:=vo bs 8 hk;rw[e1,e2,e3,e4,e5,h1] at he;rw[e2,e3,e4,e5,h1] at l1;rw[List.drop_drop,List.drop_drop,List.drop_drop,List.drop_drop,List.drop_drop,List.drop_eq_nil_iff] at he;simp at l1;omega
section
variable {B:ag} {L:List cA} {H:ag} {K:V→ag→Prop} {q:Oq} {cap:Nat} {bs:List UInt8} {id:Nat}
theorem CE {Kr:Am.St→Prop} {Ke:Nat→Am.St→Prop}:∀(n i:Nat) {H:ag},i+n=8→nI B H L id (CC ⟨bs,false⟩ i).1→(∀H',nI B H' L id (CC ⟨bs,false⟩ 8).1→Ke 0 (St.mk (ab [(2,T.lp 2 0),(5,T.v (V.aj (some (id,0)))),(6,T.lp 6 0)]) (ab [(2,aO.cells 46 (bE 0 0 0 0 0 0 0 0 0 0 0 false)),(6,aO.cells 46 (R.cs ⟨(CC ⟨bs,false⟩ 8).2,0,0,0,false⟩))]) H'))→lo 41 4 (St.mk (ab [(2,T.lp 2 0),(5,T.v (V.aj (some (id,0)))),(6,T.lp 6 0),(11,T.v (V.int .i64 (i:Int)))]) (ab [(2,aO.cells 46 (bE 0 0 0 0 0 0 0 0 0 0 0 false)),(6,aO.cells 46 (R.cs ⟨(CC ⟨bs,false⟩ i).2,0,0,0,false⟩))]) H) Kr Ke
 |0,i,H,hi,h,k=>by
  obtain rfl:i=8:=by omega
  have:=k _ h;unfold R.cs at this⊢;rw[Oc];(try simp only[NQ]);exact this
 |n+1,i,H,hi,h,k=>by
  have e1:decide ((i:Int)<8)=true:=by simp;omega
  have e2:decide (0≤(i:Int))=true:=by simp
  have e3:0+Int.toNat (i:Int)*1=i:=by simp
  have hm:=At (CC ⟨bs,false⟩ i).1 4 4294967295;unfold R.cs;rw[Oc];(try simp only[NQ]);rw[aL (by omega),e1,ak];refine kI h 4 4294967295 (by omega) (fun H' h'=> ?_);rw[aZ,uJ (by omega)];have hst:=iz (((CC ⟨bs,false⟩ i).1.num 4 4294967295).1:Nat) 0 0 false (show i<8 by omega);have QJ:=oP ⟨(CC ⟨bs,false⟩ i).2,0,0,0,false⟩ (show i<8 by omega) (((CC ⟨bs,false⟩ i).1.num 4 4294967295).1:Nat) 0 0 0 false;simp only[e1,e2,e3,hst,QJ,cL,ak,av,Bool.and_self];exact CE n (i+1) (by omega) h' k
def I6:Option (R×Nat)→V
 |some (r,n)=>.tuple [.agg r.cs,.int .i64 (n:Int),.int .i64 0]
 |none=>.tuple [.agg (bE 0 0 0 0 0 0 0 0 0 0 0 false),.int .i64 0,.int .i64 3]
theorem Mp (h:az B H L) (hr:kU B L q bs) (hc:bs.length≤cap) (k:∀H',az B H' L→K (I6 (EF bs)) H'):cl 41 [.slice q bs.length cap] H K:=by
 rw[abZ];(try simp only[NQ]);refine JV h hr hc (fun id H1 h1=> ?_);simp only[AK,reduceIte,Nat.reduceEqDiff];refine CE (bs:=bs) 8 0 (by omega) h1 (fun H2 h2=> ?_);have hk':∀H',az B H' L→K (I6 (Sg bs)) H':=fun H' h'=>by rw[Wd];exact k H' h'
 unfold Sg tz at hk';generalize CC ⟨bs,false⟩ 8=s at h2 hk'⊢;obtain⟨s,ks⟩:=s;unfold R.cs;simp only[AK,reduceIte,Nat.reduceEqDiff,f45,T8,NJ,NK,NL,NM,NN,NO,NP,NR,NS,NT,Ic,Ie];refine kI h2 1 255 (by omega) (fun H3 h3=> ?_);simp only[AK,reduceIte,Nat.reduceEqDiff];refine kI h3 1 8 (by omega) (fun H4 h4=> ?_);simp only[AK,reduceIte,Nat.reduceEqDiff];refine kI h4 4 4294967295 (by omega) (fun H5 h5=> ?_);simp only[AK,reduceIte,Nat.reduceEqDiff];refine kI h5 1 1 (by omega) (fun H6 h6=> ?_);simp only[AK,reduceIte,Nat.reduceEqDiff];refine kI h6 4 2147483647 (by omega) (fun H7 h7=> ?_);have m1:=At s 1 255;have m2:=At (s.num 1 255).2 1 8;have m3:=At ((s.num 1 255).2.num 1 8).2 4 4294967295;have m4:=At ((((s.num 1 255).2.num 1 8).2.num 4 4294967295).2.num 1 1).2 4 2147483647
 have hd:As (s,ks)=⟨⟨ks,((s.num 1 255).1:Nat),(((s.num 1 255).2.num 1 8).1:Nat)-1,((((s.num 1 255).2.num 1 8).2.num 4 4294967295).1:Nat),
  decide ((((((s.num 1 255).2.num 1 8).2.num 4 4294967295).2.num 1 1).1:Int)=1)⟩,(((((s.num 1 255).2.num 1 8).2.num 4 4294967295).2.num 1 1).2.num 4 2147483647).1,(((((s.num 1 255).2.num 1 8).2.num 4 4294967295).2.num 1 1).2.num 4 2147483647).2⟩:=rfl
 simp only[hd] at hk';simp only[AK,reduceIte,Nat.reduceEqDiff,VI h7];dsimp+instances only[aZ];obtain⟨q7,c7,_,_,h7⟩:=h7.ex;have hk:=hk' H7 h7.drop;generalize s.num 1 255=a at m1 m2 m3 m4 hk⊢;generalize a.2.num 1 8=b at m2 m3 m4 hk⊢;generalize b.2.num 4 4294967295=c at m3 m4 hk⊢;generalize c.2.num 1 1=d at m4 hk⊢;generalize d.2.num 4 2147483647=e at m4 hk⊢;rw[xg,uI (n:=b.1) (by omega),bq (by omega) (by omega),uJ (by omega),uI (by omega)];have e8:((UInt8.ofNat a.1).toNat:Int)=(a.1:Nat):=by simp;omega
 rw[e8,R.vi ks];generalize R.mk ks (a.1:Nat) ((b.1:Nat)-1) (c.1:Nat) (decide ((d.1:Int)=1))=r at hk⊢;simp only[P1];cases hb:e.2.bI
 ·by_cases hn:e.2.bs=[]
  ·cases hf:o9 r
   ·simpa [hb,hn,hf,I6] using hk
   ·simpa [hb,hn,hf,I6] using hk
  ·simpa [hb,hn,I6] using hk
 ·simpa [hb,I6] using hk
end
def KF:Nat:=200
structure Un where
 s:FS
 ps:List Pg
 r:R
 down:Bool
def GR (g:ct) (s:FS) (p:Pg):Option (FS×Int):=
 if p.cv=true then Kj g KF s p.aq.toNat else u9 g KF KF s (Tm p.aq.toNat p.data)
def hG (g:ct):List Pg→FS→List Pg→Option (FS×List Pg×Int)
 |[],s,ps=>some (s,ps,0)
 |p::l,s,ps=>match GR g s p with
  |none=>none
  |some r=>if r.2=0 then hG g l r.1 (fD ps p.aq) else some (r.1,ps,r.2)
def EG (g:ct) (s:FS) (ps:List Pg) (p:Pg) (sure:Bool):Option (FS×List Pg×Int):=
 if sure=true then (match GR g s p with
  |none=>none
  |some r=>if r.2=0 then some (r.1,fD ps p.aq,0) else some (r.1,ps,r.2))
 else if (gW ps p).2≠11 then some (s,(gW ps p).1,0)
 else match hG g ps s ps with
  |none=>none
  |some r=>if r.2.2=0 then some (r.1,(gW r.2.1 p).1,(gW r.2.1 p).2) else some r
def jr (u:Un):Un×Int:=
 if u.s.a.off=true then ({u with down:=true},9) else if u.down=true∨(u.s.f.ep:Int)<u.s.a.aU then ({u with down:=true},7) else (u,0)
structure Ui where
 js:Nat
 AV:Nat
 aM:Nat
 fid:Nat
 mid:Nat
 pid:Nat
def Nb (x:Ui) (m:Gm) (u:Un):List V:=
 c92 (some (x.aM,0)) m.g.aE m.g.aA m.g.aH m.q m.g.bI.length m.c (some (x.fid,0)) (some (x.AV,0)) (u.r.k 0) (u.r.k 1) (u.r.k 2) (u.r.k 3) (u.r.k 4) (u.r.k 5) (u.r.k 6) (u.r.k 7) u.r.ty u.r.ho u.r.ge u.r.la u.down
section
variable {B:ag} {L:List cA} {H:ag} {K:V→ag→Prop} {x:Ui} {m:Gm} {u:Un}
abbrev fG (B H:ag) (x:Ui) (m:Gm) (u:Un) (L:List cA):Prop:=
 az B H (dj x.js 93 (Nb x m u)::eT x.AV u.ps::dj x.fid 120 (RQ x.aM m u.s.f x.mid x.pid)::uZ x.mid u.s.f.pm::Ea x.pid u.s.f.po::dP x.aM u.s.a::L)
theorem fG.fs (h:fG B H x m u L):ga B H x.aM x.fid x.mid x.pid m u.s (dj x.js 93 (Nb x m u)::eT x.AV u.ps::L):=h.ord [2,2,2,2]
theorem fG.nX (h:fG B H x m u L):az B H (eT x.AV u.ps::dj x.js 93 (Nb x m u)::dj x.fid 120 (RQ x.aM m u.s.f x.mid x.pid)::uZ x.mid u.s.f.pm::Ea x.pid u.s.f.po::dP x.aM u.s.a::L):=h.ord [1]
theorem fG.vz (h:fG B H x m u L):az B H (dP x.aM u.s.a::dj x.js 93 (Nb x m u)::eT x.AV u.ps::dj x.fid 120 (RQ x.aM m u.s.f x.mid x.pid)::uZ x.mid u.s.f.pm::Ea x.pid u.s.f.po::L):=h.ord [5]
theorem fG.aah {s:FS} (h:ga B H x.aM x.fid x.mid x.pid m s (dj x.js 93 (Nb x m u)::eT x.AV u.ps::L)):fG B H x m {u with s:=s} L:=h.ord [4,4]
structure UnG (H:ag) (x:Ui) (m:Gm) (u:Un):Prop where
 i:∀k<20,H.inb x.js k 1=true
 c0:H.cell x.js 0=.aj (some (x.aM,0))
 c5:H.cell x.js 5=.aj (some (x.fid,0))
 c6:H.cell x.js 6=.aj (some (x.AV,0))
 c19:H.cell x.js 19=.bool u.down
 g:H.inb x.js 1 4=true∧H.sub x.js 1 4=dS m.g.aE m.g.aA m.g.aH m.q m.g.bI.length m.c
 r:H.inb x.js 7 12=true∧H.sub x.js 7 12=u.r.cs
 w:H.wr x.js 19 1=true
 wr:H.wr x.js 7 12=true
theorem CF (h:fG B H x m u L):UnG H x m u:=by
 have hg:=h.get;refine⟨fun k hk=>nG hg (by show k<20;exact hk),aY hg 0,aY hg 5,aY hg 6,aY hg 19,⟨dF hg 1 4, ?_⟩,⟨dF hg 7 12, ?_⟩,fK hg 19 1,fK hg 7 12⟩
 ·rw[kT hg];rfl
 ·rw[kT hg];rfl
theorem fG.vp (h:fG B H x m u L) (b:Bool):fG B (H.store x.js 19 [.bool b]) x m {u with down:=b} L:=by
 obtain⟨w,h1⟩:=az.BZ (k:=19) h (by show 19<20;omega) (.bool b);exact h1
theorem GS (h:fG B H x m u L) (k:∀H',fG B H' x m (jr u).1 L→K (.int .i64 (jr u).2) H'):cl 44 [.aj (some (x.js,0))] H K:=by
 have g:=CF h;rw[abt];simp only[AN,reduceIte,Nat.reduceEqDiff,Option.isSome_some,Nat.zero_add,g.i 0 (by omega),g.c0];rw[Z2 h.vz];simp only[AN,reduceIte,Nat.reduceEqDiff];unfold jr at k;by_cases ho:u.s.a.off=true
 ·rw[if_pos ho] at k;simp only[ho,Bool.not_true,Bool.not_false,ak,g.w,Option.isSome_some,Nat.zero_add,av];exact k _ (h.vp true)
 rw[if_neg ho] at k;have ho':u.s.a.off=false:=by simpa using ho
 have FN:∀K:V→ag→Prop,cl 76 [.aj (some (x.aM,0))] H K=K (.int .u64 u.s.a.aU) H:=fun K=>Oz h.vz
 have EP:∀K:V→ag→Prop,cl 58 [.aj (some (x.fid,0))] H K=K (.int .u64 (u.s.f.ep:Int)) H:=fun K=>Ci h.fs
 simp only[ho',Bool.not_false,Bool.not_true,ai,eu,Option.isSome_some,Nat.zero_add,g.i 19 (by omega),g.c19,g.i 0 (by omega),g.c0,g.i 5 (by omega),g.c5,FN,EP,g.w,AJ,reduceIte,Nat.reduceEqDiff];by_cases hd:u.down=true
 ·rw[if_pos (.inl hd)] at k;have:=k _ (h.vp true);simp only[hd,Bool.not_true,ai,ak,and_self];exact this
 ·have hd':u.down=false:=by simpa using hd
  simp only[hd',Bool.not_false,ak];by_cases hf:(u.s.f.ep:Int)<u.s.a.aU
  ·rw[if_pos (.inr hf)] at k;have:=k _ (h.vp true);have hf':u.s.a.aU>(u.s.f.ep:Int):=hf;simp only[hf',decide_true,ak,and_self];exact this
  ·rw[if_neg (fun e=>e.elim hd hf)] at k;have hf':¬u.s.a.aU>(u.s.f.ep:Int):=hf;simp only[hf',decide_false,ai,and_self];exact k H h
theorem Mq (h:fG B H x m u L):cl 24 [.aj (some (x.js,0))] H K=K (.int .i64 (u.ps.length:Int)) H:=by
 have g:=CF h;have LN:∀K:V→ag→Prop,cl 53 [.aj (some (x.AV,0))] H K=K (.int .i64 (u.ps.length:Int)) H:=fun K=>V4 h.nX
 rw[abk];simp only[Option.isNone_some,Option.isSome_some,Nat.zero_add,g.i 6 (by omega),g.c6,LN,AJ,reduceIte,Nat.reduceEqDiff]
theorem P2 (h:fG B H x m u L):cl 15 [.aj (some (x.js,0))] H K=K (.agg u.r.cs) H:=by
 have g:=CF h;rw[abf];simp only[Option.isNone_some,Option.isSome_some,Nat.zero_add,g.r.1,g.r.2,R.db,R.dX,AJ,reduceIte,Nat.reduceEqDiff]
theorem Mr (h:fG B H x m u L):cl 36 [.aj (some (x.js,0))] H K=K (.int .u64 (u.s.f.ep:Int)) H:=by
 have g:=CF h;have EP:∀K:V→ag→Prop,cl 58 [.aj (some (x.fid,0))] H K=K (.int .u64 (u.s.f.ep:Int)) H:=fun K=>Ci h.fs
 rw[abn];simp only[Option.isNone_some,Option.isSome_some,Nat.zero_add,g.i 5 (by omega),g.c5,EP,AJ,reduceIte,Nat.reduceEqDiff]
structure GU (g:ct) (p:Pg):Prop where
 lo:0≤p.aq
 hi:p.aq≤g.cap
 dl:p.data.length≤64
theorem KP (hm:dB B L m) (hg:m.g.In) (hcap:m.g.cap<65000) (h:fG B H x m u L) (hok:bd m.g u.s) {p:Pg} (hp:GU m.g p) {q:Oq} {c:Nat} (hr:p.cv=false→kU B L q p.data) {r:FS×Int} (hf:GR m.g u.s p=some r) (k:bd m.g r.1→∀H',fG B H' x m {u with s:=r.1} L→K (.int .i64 r.2) H'):cl 91 [.aj (some (x.js,0)),.agg (gh p.aq q p.data.length c p.cv)] H K:=by
 have g:=CF h;obtain⟨a,ha⟩:∃a:Nat,p.aq=(a:Int):=⟨p.aq.toNat,by have:=hp.lo;omega⟩;have hm2:dB B (dj x.js 93 (Nb x m u)::eT x.AV u.ps::L) m:=(hm.bW _).bW _;have hhi:=hp.hi;rw[abO];unfold GR at hf;rw[ha,Int.toNat_natCast] at hf;rw[ha];by_cases hh:p.cv=true
 ·rw[if_pos hh] at hf;simp only[hh,ak,Option.isSome_some,Nat.zero_add,g.i 5 (by omega),g.c5,AJ,reduceIte,Nat.reduceEqDiff];refine Pe hm2 hg hcap (by omega) hf hok h.fs (fun fE H1 h1=> ?_);simp only[AJ,reduceIte,Nat.reduceEqDiff];exact k fE H1 (fG.aah h1)
 ·rw[if_neg hh] at hf;have hh':p.cv=false:=by simpa using hh
  simp only[hh',ai,Option.isSome_some,Nat.zero_add,g.i 5 (by omega),g.c5,AJ,reduceIte,Nat.reduceEqDiff];refine Ch hm2 hg hcap (((hr hh').bW _).bW _) (by omega) hp.dl hf hok h.fs (fun fE H1 h1=> ?_);simp only[AJ,reduceIte,Nat.reduceEqDiff];exact k fE H1 (fG.aah h1)
end
theorem KQ (ps:List Pg) (a:Int):(fD ps a).length≤ps.length:=by
 unfold fD;split
 ·exact(List.eraseIdx_sublist ps _).length_le
 ·exact Nat.le_refl _
section
variable {B:ag} {L:List cA} {H:ag} {K:V→ag→Prop} {x:Ui} {m:Gm} {u:Un}
theorem CG (hm:dB B L m) (hg:m.g.In) (hcap:0≤m.g.cap∧m.g.cap<65000) {al:List Rp} {q8:Oq} {c8:Nat} (hb:al.length≤8) (hin:∀r∈al,GU m.g r.p) {Kr:Am.St→Prop} {Ke:Nat→Am.St→Prop}:∀(n i:Nat) (u:Un) {H:ag} {r:FS×List Pg×Int},i+n=al.length→hG m.g ((al.map Rp.p).drop i) u.s u.ps=some r→bd m.g u.s→dR u.ps→u.ps.length≤8→fG B H x m u (Rw 138 3 q8 c8 (al.map Rp.cs)::bw (al.map Rp.bP)::L)→(r.2.2=0→bd m.g r.1→∀H',fG B H' x m {u with s:=r.1,ps:=r.2.1} (Rw 138 3 q8 c8 (al.map Rp.cs)::bw (al.map Rp.bP)::L)→Ke 0 (St.mk (ab []) (ab []) H'))→(r.2.2≠0→bd m.g r.1→∀H',fG B H' x m {u with s:=r.1,ps:=r.2.1} (Rw 138 3 q8 c8 (al.map Rp.cs)::bw (al.map Rp.bP)::L)→Kr (St.mk (ab [(2,T.v (V.int .i64 r.2.2))]) (ab []) H'))→lo 54 2 (St.mk (ab [(0,T.v (V.aj (some (x.js,0)))),(10,T.v (V.slice q8 al.length c8)),(11,T.v (V.int .i64 (al.length:Int))),(12,T.v (V.int .i64 (i:Int)))]) (ab []) H) Kr Ke
 |0,i,u,H,r,hi,hf,hok,hs,hl,h,k1,k2=>by
  obtain rfl:i=al.length:=by omega
  rw[N4,decide_eq_false (by omega),ai];rw[List.drop_of_length_le (by simp),hG] at hf;cases hf;exact k1 rfl hok H h
 |n+1,i,u,H,r,hi,hf,hok,hs,hl,h,k1,k2=>by
  have hlt:i<al.length:=by omega
  have g:=CF h;obtain⟨s1,s2',Jc⟩:=lh (h.ord [6]).lQ hlt;have s2:H.inb (pb q8) (po q8+i*3) 3=true:=s2';have s3:H.sub (pb q8) (po q8+i*3) 3=al[i].cs:=Jc;have e1:(i:Int)<(al.length:Int):=by omega
  have e2:0≤(i:Int):=by omega
  have e3:IntKind.i64.wrap ((i:Int)+1)=((i+1:Nat):Int):=aL (by omega);have WW:=hin _ (List.getElem_mem hlt);have hlo:=WW.lo;have hhi:=WW.hi;have n0:ae al[i].cs 0=.int .i64 al[i].p.aq:=rfl;have hop:vX (al[i].cs)=al[i].cs:=rfl;rw[List.drop_eq_getElem_cons (by simpa using hlt),List.getElem_map,hG] at hf;rw[N4];simp only[e1,e2,s1,s2,s3,Rp.aI,n0,hop,decide_true,ak,Int.toNat_natCast,AJ,reduceIte,Nat.reduceEqDiff]
  cases WX:GR m.g u.s al[i].p with
  |none=>rw[WX] at hf;cases hf
  |some o=>
   rw[WX] at hf;dsimp only at hf;have hr:al[i].p.cv=false→kU B (Rw 138 3 q8 c8 (al.map Rp.cs)::bw (al.map Rp.bP)::L) al[i].q al[i].p.data:=fun _ H hs=>Ad hs.drop hlt
   change cl 91 [V.aj (some (x.js,0)),V.agg (gh al[i].p.aq al[i].q al[i].p.data.length al[i].c al[i].p.cv)] H _
   refine KP ((hm.bW _).bW _) hg hcap.2 h hok WW (c:=al[i].c) hr WX ?_;intro gk H1 h1;have g1:=CF h1;simp only[AJ,reduceIte,Nat.reduceEqDiff];by_cases he:o.2=0
   ·rw[if_pos he] at hf;simp only[he,decide_true,Bool.not_true,ai,Option.isSome_some,Nat.zero_add,g1.i 6 (by omega),g1.c6,AJ,reduceIte,Nat.reduceEqDiff];refine KB h1.nX hs hl ⟨by omega,by omega⟩ (fun H2 h2=> ?_);simp only[e3];have h3:fG B H2 x m {u with s:=o.1,ps:=fD u.ps al[i].p.aq} (Rw 138 3 q8 c8 (al.map Rp.cs)::bw (al.map Rp.bP)::L):=h2.ord [1];exact CG hm hg hcap hb hin n (i+1) {u with s:=o.1,ps:=fD u.ps al[i].p.aq} (by omega) hf gk (wB hs _) (Nat.le_trans (KQ _ _) hl) h3 k1 k2
   ·rw[if_neg he] at hf;cases hf;simp only[he,decide_false,Bool.not_false,ak];exact k2 he gk H1 h1
theorem tC (hm:dB B L m) (hg:m.g.In) (hcap:0≤m.g.cap∧m.g.cap<65000) (h:fG B H x m u L) (hok:bd m.g u.s) (hs:dR u.ps) (hl:u.ps.length≤8) (hin:∀p∈u.ps,GU m.g p) {r:FS×List Pg×Int} (hf:hG m.g u.ps u.s u.ps=some r) (k:bd m.g r.1→∀H',fG B H' x m {u with s:=r.1,ps:=r.2.1} L→K (.int .i64 r.2.2) H'):cl 54 [.aj (some (x.js,0))] H K:=by
 have g:=CF h;rw[abw];simp only[Option.isSome_some,Nat.zero_add,g.i 6 (by omega),g.c6,AJ,reduceIte,Nat.reduceEqDiff];refine V6 h.nX hs hl (fun q8 c8 H1 h1=> ?_);obtain⟨al,Hc,h2⟩:=az.aA h1;simp only[AJ,reduceIte,Nat.reduceEqDiff];have hla:al.length=u.ps.length:=by rw[←Hc,List.length_map]
 rw[←hla];have h3:fG B H1 x m u (Rw 138 3 q8 c8 (al.map Rp.cs)::bw (al.map Rp.bP)::L):=h2.ord [3,2,2,2,2,2];refine CG hm hg hcap (by omega) (fun r hr=>hin _ (by rw[←Hc];exact List.mem_map.2 ⟨r,hr,rfl⟩)) al.length 0 u (by omega) (by rw[List.drop_zero,Hc];exact hf) hok hs hl h3 (fun h0 fE H4 h4=> ?_) (fun h0 fE H4 h4=> ?_)
 ·simp only[AJ,reduceIte,Nat.reduceEqDiff];have:=k fE H4 (h4.ord [6,6]).drop.drop;rw[h0] at this;exact this
 ·simp only[AJ,reduceIte,Nat.reduceEqDiff];exact k fE H4 (h4.ord [6,6]).drop.drop
end
def Ms (g:ct) (u:Un) (h:Int) (c:Cm) (bP:List UInt8):Option (Un×Rs×Int):=
 if l7 h c g.cap.toNat=false then some (u,⟨0,[],R.zero⟩,1) else
 if Hr u.r h c=false then some (u,⟨0,[],R.zero⟩,13) else
 if c.kd=0 then (if fO u.ps c.kJ=true then some (u,⟨0,(qF u.ps c.kJ).getD [],R.zero⟩,0) else match u.s.m9 c.kJ.toNat with
  |none=>none
  |some t=>some (u,⟨0,t.data,R.zero⟩,0)) else
 if c.kd=1 then (match EG g u.s u.ps ⟨c.kJ,bP,false⟩ c.su with
  |none=>none
  |some r=>some ({u with s:=r.1,ps:=r.2.1},⟨0,[],R.zero⟩,r.2.2)) else
 if c.kd=2 then (match EG g u.s u.ps ⟨c.kJ,[],true⟩ c.su with
  |none=>none
  |some r=>some ({u with s:=r.1,ps:=r.2.1},⟨0,[],R.zero⟩,r.2.2)) else
 if c.kd=3 then (match hG g u.ps u.s u.ps with
  |none=>none
  |some r=>some ({u with s:=r.1,ps:=r.2.1},⟨0,[],R.zero⟩,r.2.2)) else
 if c.kd=9 then some (u,⟨0,[],u.r⟩,0) else
 if (doR u.r h c).2≠0∨cZ (doR u.r h c).1.cs u.r.cs=true then some (u,⟨0,[],R.zero⟩,(doR u.r h c).2) else
 match u9 g KF KF u.s (Tm g.cap.toNat (gX (doR u.r h c).1 u.s.a.boots.toNat)) with
  |none=>none
  |some r=>if r.2=0 then some ({u with s:=r.1,r:=(doR u.r h c).1},⟨0,[],R.zero⟩,0) else some ({u with s:=r.1},⟨0,[],R.zero⟩,r.2)
def Tu (g:ct) (u:Un) (h:Int) (c:Cm) (bP:List UInt8):Option (Un×Rs×Int):=
 if (jr u).2≠0 then some ((jr u).1,⟨0,[],R.zero⟩,(jr u).2) else
 match Ms g u h c bP with
  |none=>none
  |some r=>if r.2.2=7∨r.2.2=9 then some ({r.1 with down:=true},⟨0,[],R.zero⟩,r.2.2) else some (r.1,{r.2.1 with e:=r.2.2},0)
def Xa (g:ct) (u:Un):Option (Un×Int):=
 if (jr u).2≠0 then some (jr u) else
 match hG g u.ps u.s u.ps with
  |none=>none
  |some r=>some ({u with s:=r.1,ps:=r.2.1,down:=u.down||(decide (r.2.2=7)||decide (r.2.2=9))},r.2.2)
section
variable {B:ag} {L:List cA} {H:ag} {K:V→ag→Prop} {x:Ui} {m:Gm} {u:Un}
structure P3 (g:ct) (u:Un):Prop where
 ok:bd g u.s
 ib:dR u.ps
 Bt:u.ps.length≤8
 inr:∀p∈u.ps,GU g p
theorem Si {ps:List Pg} {p:Pg} (h:(gW ps p).2=11):(gW ps p).1=ps:=by
 unfold gW at h⊢;split at h
 ·rename_i h1;rw[if_pos h1]
 ·rename_i h1;rw[if_neg h1];split at h
  ·rename_i h2;rw[if_pos h2]
  ·rename_i h2;rw[if_neg h2];split at h
   ·cases h
   ·rename_i h3;rw[if_neg h3];split at h
    ·rename_i h4;rw[if_pos h4]
    ·cases h
theorem Mt {ps:List Pg} {a:Int} {p:Pg} (h:p∈fD ps a):p∈ps:=by
 unfold fD at h;split at h
 ·exact(List.eraseIdx_sublist ps _).subset h
 ·exact h
theorem CH {g:ct}:∀{l:List Pg} {s:FS} {ps:List Pg} {r:FS×List Pg×Int},hG g l s ps=some r→dR ps→ps.length≤8→(∀p∈ps,GU g p)→dR r.2.1∧r.2.1.length≤8∧∀p∈r.2.1,GU g p
 |[],s,ps,r,h,h1,h2,h3=>by rw[hG] at h;cases h;exact⟨h1,h2,h3⟩
 |p::l,s,ps,r,h,h1,h2,h3=>by
  rw[hG] at h;split at h
  ·cases h
  ·split at h
   ·exact CH h (wB h1 _) (Nat.le_trans (KQ _ _) h2) (fun p hp=>h3 p (Mt hp))
   ·cases h;exact⟨h1,h2,h3⟩
theorem Sj (hm:dB B L m) (hg:m.g.In) (hcap:0≤m.g.cap∧m.g.cap<65000) (h:fG B H x m u L) (hu:P3 m.g u) {p:Pg} (hp:GU m.g p) {q:Oq} {c:Nat} (hr:kU B L q p.data) {sure:Bool} {r:FS×List Pg×Int} (hf:EG m.g u.s u.ps p sure=some r) (k:∀H',fG B H' x m {u with s:=r.1,ps:=r.2.1} L→K (.int .i64 r.2.2) H'):cl 80 [.aj (some (x.js,0)),.agg (gh p.aq q p.data.length c p.cv),.bool sure] H K:=by
 have g:=CF h;have hlo:=hp.lo;have hhi:=hp.hi;rw[abM];unfold EG at hf;by_cases hs:sure=true
 ·rw[if_pos hs] at hf;rw[hs,ak]
  cases WX:GR m.g u.s p with
  |none=>rw[WX] at hf;cases hf
  |some o=>
   rw[WX] at hf;dsimp only at hf;refine KP hm hg hcap.2 h hu.ok hp (fun _=>hr) WX (fun gk H1 h1=> ?_);have g1:=CF h1;simp only[AJ,reduceIte,Nat.reduceEqDiff];by_cases he:o.2=0
   ·rw[if_pos he] at hf;cases hf;simp only[he,decide_true,Bool.not_true,ai,Option.isSome_some,Nat.zero_add,g1.i 6 (by omega),g1.c6,AJ,reduceIte,Nat.reduceEqDiff];refine KB h1.nX hu.ib hu.Bt ⟨by omega,by omega⟩ (fun H2 h2=> ?_);exact k H2 (h2.ord [1])
   ·rw[if_neg he] at hf;cases hf;simp only[he,decide_false,Bool.not_false,ak];exact k H1 h1
 ·rw[if_neg hs] at hf;have hs':sure=false:=by simpa using hs
  rw[hs',ai];simp only[Option.isSome_some,Nat.zero_add,g.i 6 (by omega),g.c6,AJ,reduceIte,Nat.reduceEqDiff];refine PD h.nX hu.ib hu.Bt p ⟨by omega,by omega⟩ (fun _=>hr H h.drop.drop.drop.drop.drop.drop) (fun H1 h1=> ?_);simp only[AJ,reduceIte,Nat.reduceEqDiff];by_cases AX:(gW u.ps p).2=11
  ·rw[if_neg (fun e=>e AX)] at hf;simp only[AX,decide_true,Bool.not_true,ai];have he:=Si AX;rw[he] at h1;have h2:fG B H1 x m u L:=h1.ord [1]
   cases hfl:hG m.g u.ps u.s u.ps with
   |none=>rw[hfl] at hf;cases hf
   |some o=>
    rw[hfl] at hf;dsimp only at hf;refine tC hm hg hcap h2 hu.ok hu.ib hu.Bt hu.inr hfl (fun fE H2 h2=> ?_);have g2:=CF h2;simp only[AJ,reduceIte,Nat.reduceEqDiff];by_cases h0:o.2.2=0
    ·rw[if_pos h0] at hf;cases hf;simp only[h0,decide_true,Bool.not_true,ai,Option.isSome_some,Nat.zero_add,g2.i 6 (by omega),g2.c6,AJ,reduceIte,Nat.reduceEqDiff];have hfp:=CH hfl hu.ib hu.Bt hu.inr;refine PD h2.nX hfp.1 hfp.2.1 p ⟨by omega,by omega⟩ (fun _=>hr H2 h2.drop.drop.drop.drop.drop.drop) (fun H3 h3=> ?_);simp only[AJ,reduceIte,Nat.reduceEqDiff];exact k H3 (h3.ord [1])
    ·rw[if_neg h0] at hf;cases hf;simp only[h0,decide_false,Bool.not_false,ak];exact k H2 h2
  ·rw[if_pos AX] at hf;cases hf;simp only[AX,decide_false,Bool.not_false,ak];exact k H1 (h1.ord [1])
theorem vq (m:Gm):tK (dS m.g.aE m.g.aA m.g.aH m.q m.g.bI.length m.c)=dS m.g.aE m.g.aA m.g.aH m.q m.g.bI.length m.c:=rfl
theorem vr (m:Gm):aI Bj (dS m.g.aE m.g.aA m.g.aH m.q m.g.bI.length m.c)=true:=rfl
theorem GV {ps:List Pg} (hs:dR ps) {a:Int} (hh:fO ps a=true) (hp:bU ps a<ps.length):(qF ps a).getD []=(ps[bU ps a]).data:=by
 rw[Mj hs hh hp];rfl
theorem Sk (hm:dB B L m) (hg:m.g.In) (hcap:0≤m.g.cap∧m.g.cap<65000) (h:fG B H x m u L) (hu:P3 m.g u) (hh:Int) (c:Cm) (bP:List UInt8) (hd:c.dn=bP.length) (hr:kU B L c.dp bP) (Xf:(doR u.r hh c).1.ok) (hb:0≤u.s.a.boots∧u.s.a.boots<2147483648) {r:Un×Rs×Int} (hf:Ms m.g u hh c bP=some r) (k:∀q n H',fG B H' x m r.1 (BY q n r.2.1.d::L)→K (.tuple [.agg (r.2.1.cs q n),.int .i64 r.2.2]) H'):cl 45 [.aj (some (x.js,0)),.int .i64 hh,.agg c.cs] H K:=by
 have g:=CF h;obtain⟨N,hN⟩:∃N:Nat,m.g.cap=(N:Int):=⟨m.g.cap.toNat,by omega⟩;have nil:∀{u':Un} {H':ag},fG B H' x m u' L→fG B H' x m u' (BY none 0 []::L):=fun h'=>(kG h').ord [1,1,1,1,1,1]
 have hm6:∀A1 A2 A3 A4 A5 A6:cA,dB B (A1::A2::A3::A4::A5::A6::L) m:=fun A1 A2 A3 A4 A5 A6=>(((((hm.bW _).bW _).bW _).bW _).bW _).bW _
 conv in c.cs=>unfold Cm.cs
 rw[abu];simp only[Cm.oO,Option.isNone_some,Option.isSome_some,Option.getD_some,ai,av,Nat.zero_add,g.g.1,g.g.2,vq,vr,Bool.and_self,oV,oW,oX];refine Il h (hm6 _ _ _ _ _ _) hg (fun H1 h1=> ?_);have h1:fG B H1 x m u L:=h1;have g1:=CF h1;simp only[cL,aZ,av,hN,PV,PW,ey,bR,g1.r.1,g1.r.2,R.db,R.dX,Bool.and_self,GN];unfold Ms at hf;rw[hN,Int.toNat_natCast] at hf;cases hv:l7 hh c N
 ·rw[if_pos hv] at hf;cases hf;simp only[Bool.not_false,ak];exact k none 0 H1 (nil h1)
 rw[if_neg (by simp [hv])] at hf;simp only[Bool.not_true,ai];have MM:=hv;unfold l7 at MM;simp only[Bool.and_eq_true,Bool.or_eq_true,Bool.not_eq_true',Bool.or_eq_false_iff,decide_eq_true_eq,decide_eq_false_iff_not] at MM;obtain⟨⟨⟨⟨v1,v2⟩,v3⟩,v4⟩,v5⟩:=MM;cases WY:Hr u.r hh c
 ·rw[if_pos WY] at hf;cases hf;simp only[Bool.not_false,ak];exact k none 0 H1 (nil h1)
 rw[if_neg (by simp [WY])] at hf;simp only[Bool.not_true,ai];by_cases k0:c.kd=0
 ·rw[if_pos k0] at hf;simp only[k0,decide_true,ak,g1.i 6 (by omega),g1.c6,re,jB,Bool.and_self,av];have xR:=v4.resolve_left (fun e=>e.1.1 k0);refine V5 h1.nX hu.ib hu.Bt ⟨by omega,by omega⟩ (fun hno H2 h2=> ?_) (fun hp q' c' H2 hyes ha h2=> ?_)
  ·rw[if_neg (by simp [hno])] at hf;have h2:fG B H2 x m u L:=h2.ord [1];have g2:=CF h2
   cases tI:u.s.m9 c.kJ.toNat with
   |none=>rw[tI] at hf;cases hf
   |some t=>
    rw[tI] at hf;cases hf;simp only[AJ,reduceIte,Nat.reduceEqDiff,Option.isSome_some,Nat.zero_add,g2.i 5 (by omega),g2.c5];obtain⟨a,ha⟩:∃a:Nat,c.kJ=(a:Int):=⟨c.kJ.toNat,by omega⟩;rw[ha,Int.toNat_natCast] at tI;rw[ha];refine Gq ((hm.bW _).bW _) h2.fs hu.ok hg (by omega) tI (fun q3 c3 H3 h3=> ?_);simp only[AJ,reduceIte,Nat.reduceEqDiff];exact k q3 c3 H3 (h3.ord [5,5])
  ·rw[if_pos hyes] at hf;cases hf;have h3:fG B H2 x m u (BY q' c' (u.ps[bU u.ps c.kJ]).data::L):=h2.ord [2,1,1,1,1,1];simp only[AJ,reduceIte,Nat.reduceEqDiff];have:=k q' c' H2 (by rw[GV hu.ib hyes hp];exact h3);unfold Rs.cs at this;simp only[GV hu.ib hyes hp] at this;exact this
 rw[if_neg k0] at hf;simp only[k0,decide_false,ai];have hN':m.g.cap.toNat=N:=by omega
 have hput:∀p:Pg,GU m.g p→∀(q:Oq) (cc:Nat),kU B L q p.data→(match EG m.g u.s u.ps p c.su with
  |none=>none
  |some r=>some ({u with s:=r.1,ps:=r.2.1},(⟨0,[],R.zero⟩:Rs),r.2.2))=some r→
  cl 80 [.aj (some (x.js,0)),.agg (gh p.aq q p.data.length cc p.cv),.bool c.su] H1 (fun v H'=>ah (V.aw (.int .i64) v) (K (V.tuple [V.agg (DL 0 none 0 0 0 0 0 0 0 0 0 0 0 0 0 false),V.int .i64 (V.aa v)]) H')):=by
  intro p hp q cc hrd hf
  cases QR:EG m.g u.s u.ps p c.su with
  |none=>rw[QR] at hf;cases hf
  |some o=>
   rw[QR] at hf;cases hf;refine Sj hm hg hcap h1 hu hp hrd QR (fun H2 h2=> ?_);simp only[AJ,reduceIte,Nat.reduceEqDiff];exact k none 0 H2 (nil h2)
 by_cases k1:c.kd=1
 ·rw[if_pos k1] at hf;simp only[k1,decide_true,ak];have xR:=v4.resolve_left (fun e=>e.1.2 k1);have hdn:c.dn≤64:=v5.resolve_left (fun e=>e k1);rw[hd];exact hput ⟨c.kJ,bP,false⟩ ⟨xR.1,by show c.kJ≤_;omega,by show bP.length≤64;omega⟩ c.dp c.dc hr hf
 rw[if_neg k1] at hf;simp only[k1,decide_false,ai];by_cases k2:c.kd=2
 ·rw[if_pos k2] at hf;simp only[k2,decide_true,ak];have xR:=v4.resolve_left (fun e=>e.2 k2);exact hput ⟨c.kJ,[],true⟩ ⟨xR.1,by show c.kJ≤_;omega,Nat.zero_le _⟩ none 0 (kU.nil _ _ _) hf
 rw[if_neg k2] at hf;simp only[k2,decide_false,ai];by_cases k3:c.kd=3
 ·rw[if_pos k3] at hf;simp only[k3,decide_true,ak]
  cases hfl:hG m.g u.ps u.s u.ps with
  |none=>rw[hfl] at hf;cases hf
  |some o=>
   rw[hfl] at hf;cases hf;refine tC hm hg hcap h1 hu.ok hu.ib hu.Bt hu.inr hfl (fun fE H2 h2=> ?_);simp only[AJ,reduceIte,Nat.reduceEqDiff];exact k none 0 H2 (nil h2)
 rw[if_neg k3] at hf;simp only[k3,decide_false,ai];by_cases k9:c.kd=9
 ·rw[if_pos k9] at hf;cases hf;simp only[k9,decide_true,ak];exact k none 0 H1 (nil h1)
 rw[if_neg k9] at hf;simp only[k9,decide_false,ai,g1.r.1,g1.r.2,R.db,R.dX,Bool.and_self,av,aaf,dm,dY,dA,fJ,dW,cI,cL,aZ,Bool.or_false,List.length_cons,List.length_nil,Nat.reduceAdd,ij,decide_true,Option.isSome_some,Bool.true_and,Bool.and_true,aN,ite_self];obtain⟨d,Qu⟩:∃d,d=doR u.r hh c:=⟨_,rfl⟩;rw[←Qu] at hf Xf⊢;by_cases hq1:d.2=0
 case neg=>
  rw[if_pos (.inl hq1)] at hf;cases hf;simp only[hq1,decide_false,Bool.not_false,Bool.not_true,cond_false,ak];exact k none 0 H1 (nil h1)
 simp only[hq1,decide_true,Bool.not_true,Bool.not_false,cond_true];cases QN:cZ d.1.cs u.r.cs
 case true=>
  rw[if_pos (.inr QN)] at hf;cases hf;rw[ak];have:=k none 0 H1 (nil h1);simp only[hq1] at this;exact this
 rw[if_neg (by simp [hq1,QN])] at hf;rw[ai];obtain⟨bt,M5⟩:∃bt:Nat,u.s.a.boots=(bt:Int):=⟨u.s.a.boots.toNat,by omega⟩;rw[M5,Int.toNat_natCast] at hf
 cases QR:u9 m.g KF KF u.s (Tm N (gX d.1 bt)) with
 |none=>rw[QR] at hf;cases hf
 |some o=>
  rw[QR] at hf;dsimp only at hf;refine iF (fun S:Am.St=>S.1 14=some (T.v (V.int .i64 o.2))∧fG B S.3 x m {u with s:=o.1} L) (fun(S:Am.St) M4=> ?_) (fun Q hQ=> ?_)
  ·obtain⟨ac5,hS⟩:=M4;generalize S.3=H2 at hS⊢;have g2:=CF hS;simp only[ac5,AJ,reduceIte,Nat.reduceEqDiff];by_cases h0:o.2=0
   ·rw[if_pos h0] at hf;cases hf;simp only[h0,decide_true,Bool.not_true,ai,Option.isSome_some,Nat.zero_add,g2.wr,av];have h3:=hS.store (off:=7) (vs:=d.1.cs);have e2:bM (Nb x m {u with s:=o.1}) 7 d.1.cs=Nb x m {u with s:=o.1,r:=d.1}:=rfl;rw[e2] at h3;exact k none 0 _ (nil h3)
   ·rw[if_neg h0] at hf;cases hf;simp only[h0,decide_false,Bool.not_false,ak];exact k none 0 H2 (nil hS)
  ·have MT:∀(K:V→ag→Prop),(∀H',fG B H' x m u L→K (.int .i64 (N:Int)) H')→cl 40 [V.agg (dS m.g.aE m.g.aA m.g.aH m.q m.g.bI.length m.c)] H1 K:=fun K k=>by
    rw[←hN] at k;exact uP h1 (hm6 _ _ _ _ _ _) hg (fun H' h'=>k H' h')
   have BO:∀(H':ag) (K:V→ag→Prop),fG B H' x m u L→cl 43 [V.aj (some (x.aM,0))] H' K=K (.int .i64 (bt:Int)) H':=fun H' K h'=>by
    rw[F3 h'.vz,M5]
   have EN:∀(H':ag) (K:V→ag→Prop),fG B H' x m u L→(∀q' c' H2,fG B H2 x m u (BY q' c' (gX d.1 bt)::L)→K (.slice q' (gX d.1 bt).length c') H2)→cl 83 [V.agg d.1.cs,V.int .i64 (bt:Int)] H' K:=fun H' K h' k=>
    Mo d.1 Xf bt (by omega) (by omega) h' (fun q' c' H2 h2=>k q' c' H2 (h2.ord [1,1,1,1,1,1]))
   have hel:(gX d.1 bt).length≤64:=by rw[vn];omega
   have WR:∀(H':ag) (q':Oq) (c':Nat) (K:V→ag→Prop),fG B H' x m u (BY q' c' (gX d.1 bt)::L)→(∀H2,fG B H2 x m {u with s:=o.1} L→K (.int .i64 o.2) H2)→cl 82 [V.aj (some (x.fid,0)),V.int .i64 (N:Int),V.slice q' (gX d.1 bt).length c'] H' K:=fun H' q' c' K h' k=>by
    refine Ch (((hm.bW _).bW _).bW _) hg hcap.2 (L:=dj x.js 93 (Nb x m u)::eT x.AV u.ps::BY q' c' (gX d.1 bt)::L) (fun H hs=>(hs.ord [2]).iV) (by omega) hel QR hu.ok h'.fs (fun fE H2 h2=>k H2 ?_);exact((h2.ord [4,4,4]).ord [2]).drop
   simp only[Option.isSome_some,Nat.zero_add,g1.i 5 (by omega),g1.c5,g1.i 0 (by omega),g1.c0,g1.g.1,g1.g.2,vq,vr,AJ,reduceIte,Nat.reduceEqDiff]
   repeat' apply And.intro
   all_goals
    refine MT _ (fun H2 h2=> ?_);have g2:=CF h2;simp only[Option.isSome_some,Nat.zero_add,g2.i 5 (by omega),g2.c5,g2.i 0 (by omega),g2.c0,AJ,reduceIte,Nat.reduceEqDiff,BO H2 _ h2]
    repeat' apply And.intro
    all_goals
     refine EN H2 _ h2 (fun q3 c3 H3 h3=> ?_);have g3:=CF h3;simp only[Option.isSome_some,Nat.zero_add,g3.i 5 (by omega),g3.c5,AJ,reduceIte,Nat.reduceEqDiff];refine WR H3 q3 c3 _ h3 (fun H4 h4=> ?_);simp only[AJ,reduceIte,Nat.reduceEqDiff];exact hQ _ ⟨rfl,h4⟩
end
section
variable {B:ag} {L:List cA} {H:ag} {K:V→ag→Prop} {x:Ui} {m:Gm} {u:Un}
theorem CI (u:Un):(jr u).1.s=u.s∧(jr u).1.ps=u.ps∧(jr u).1.r=u.r∧((jr u).2=0→(jr u).1=u):=by
 unfold jr;split
 ·exact⟨rfl,rfl,rfl,fun h=>by cases h⟩
 split
 ·exact⟨rfl,rfl,rfl,fun h=>by cases h⟩
 ·exact⟨rfl,rfl,rfl,fun _=>rfl⟩
theorem P4 (hm:dB B L m) (hg:m.g.In) (hcap:0≤m.g.cap∧m.g.cap<65000) (h:fG B H x m u L) (hu:P3 m.g u) (hh:Int) (c:Cm) (bP:List UInt8) (hd:c.dn=bP.length) (hr:kU B L c.dp bP) (Xf:(doR u.r hh c).1.ok) (hb:0≤u.s.a.boots∧u.s.a.boots<2147483648) {r:Un×Rs×Int} (hf:Tu m.g u hh c bP=some r) (k:∀q n H',fG B H' x m r.1 (BY q n r.2.1.d::L)→K (.tuple [.agg (r.2.1.cs q n),.int .i64 r.2.2]) H'):cl 16 [.aj (some (x.js,0)),.int .i64 hh,.agg c.cs] H K:=by
 have nil:∀{u':Un} {H':ag},fG B H' x m u' L→fG B H' x m u' (BY none 0 []::L):=fun h'=>(kG h').ord [1,1,1,1,1,1]
 conv in c.cs=>unfold Cm.cs
 rw[abg];simp only[Cm.oO,Option.isNone_some,ai];refine GS h (fun H1 h1=> ?_);simp only[AJ,reduceIte,Nat.reduceEqDiff];unfold Tu at hf;by_cases hl:(jr u).2=0
 case neg=>
  rw[if_pos hl] at hf;cases hf;simp only[hl,decide_false,Bool.not_false,ak];exact k none 0 H1 (nil h1)
 rw[if_neg (fun e=>e hl)] at hf;rw[(CI u).2.2.2 hl] at h1;simp only[hl,decide_true,Bool.not_true,ai]
 cases ho:Ms m.g u hh c bP with
 |none=>rw[ho] at hf;cases hf
 |some o=>
  rw[ho] at hf;dsimp only at hf;refine Sk hm hg hcap h1 hu hh c bP hd hr Xf hb ho (fun q n H2 h2=> ?_);have h2:fG B H2 x m o.1 (BY q n o.2.1.d::L):=h2;have g2:=CF h2;simp only[AJ,reduceIte,Nat.reduceEqDiff,Rs.aI,Rs.n1];by_cases h79:o.2.2=7∨o.2.2=9
  ·rw[if_pos h79] at hf;cases hf;have h3:fG B _ x m {o.1 with down:=true} L:=((h2.vp true).ord [6]).drop;by_cases h7:o.2.2=7
   ·simp only[h7,decide_true,Bool.not_true,cond_false,ak,Option.isSome_some,Nat.zero_add,g2.w,AJ,reduceIte,Nat.reduceEqDiff];have:=k none 0 _ (nil h3);simp only[h7] at this;exact this
   ·have h9:o.2.2=9:=h79.resolve_left h7;simp only[h9,decide_true,ak,Option.isSome_some,Nat.zero_add,g2.w,AJ,reduceIte,Nat.reduceEqDiff];have:=k none 0 _ (nil h3);simp only[h9] at this;exact this
  ·rw[if_neg h79] at hf;cases hf;have h7:¬o.2.2=7:=fun e=>h79 (.inl e)
   have h9:¬o.2.2=9:=fun e=>h79 (.inr e)
   simp only[h7,h9,decide_false,Bool.not_false,cond_true,ai];exact k q n H2 h2
theorem We (hm:dB B L m) (hg:m.g.In) (hcap:0≤m.g.cap∧m.g.cap<65000) (h:fG B H x m u L) (hu:P3 m.g u) {r:Un×Int} (hf:Xa m.g u=some r) (k:∀H',fG B H' x m r.1 L→K (.int .i64 r.2) H'):cl 25 [.aj (some (x.js,0))] H K:=by
 rw[abl];simp only[Option.isNone_some,ai];refine GS h (fun H1 h1=> ?_);simp only[AJ,reduceIte,Nat.reduceEqDiff];unfold Xa at hf;by_cases hl:(jr u).2=0
 case neg=>
  rw[if_pos hl] at hf;cases hf;simp only[hl,decide_false,Bool.not_false,ak];exact k H1 h1
 rw[if_neg (fun e=>e hl)] at hf;rw[(CI u).2.2.2 hl] at h1;simp only[hl,decide_true,Bool.not_true,ai]
 cases hfl:hG m.g u.ps u.s u.ps with
 |none=>rw[hfl] at hf;cases hf
 |some o=>
  rw[hfl] at hf;cases hf;refine tC hm hg hcap h1 hu.ok hu.ib hu.Bt hu.inr hfl (fun fE H2 h2=> ?_);have h2:fG B H2 x m {u with s:=o.1,ps:=o.2.1} L:=h2;have g2:=CF h2
  have w:∀b:Bool,(u.down||(decide (o.2.2=7)||decide (o.2.2=9)))=b→K (.int .i64 o.2.2) (H2.store x.js 19 [.bool b]):=fun b hb=>by
   subst hb;exact k _ (h2.vp _)
  simp only[Option.isSome_some,Nat.zero_add,g2.i 19 (by omega),g2.c19,g2.w,AJ,reduceIte,Nat.reduceEqDiff];cases hdn:u.down
  ·simp only[Bool.not_false,ak];by_cases h7:o.2.2=7
   ·have:=w true (by simp [h7]);simp only[h7,decide_true,Bool.not_true,ai] at this⊢;exact this
   ·simp only[h7,decide_false,Bool.not_false,ak];by_cases h9:o.2.2=9
    ·have:=w true (by simp [h9]);simp only[h9,decide_true] at this⊢;exact this
    ·have:=w false (by simp [h7,h9,hdn]);simp only[h9,decide_false];exact this
  ·simp only[Bool.not_true,ai];exact w true (by simp [hdn])
def uM (g:ct) (s:FS):Option Un:=match s.m9 g.cap.toNat with
 |none=>none
 |some t=>if t.data.length=0 then some ⟨s,[],R.gM,false⟩ else match EF t.data with
  |none=>none
  |some d=>some ⟨s,[],pd d.1 d.2 s.a.boots,false⟩
theorem Mu {aM:Nat} {a:Ar} (h:az B H (dP aM a::L)) (hm:dB B L m) (hf:m.g.cY=true) (hg:m.g.In) (hr:a.rd m.g) (hc:0≤m.g.cap∧m.g.cap<65000) {ep:Nat} (TU:1≤ep∧ep<281474976710656) (AA:∀sq,(cF m.g sq a ep).2=0→∃v,uM m.g (cF m.g sq a ep).1=some v) (k1:∀pz x v H',x.aM=aM→xX pz=a.Bo m.g→(cF m.g (eJ pz) a ep).2=0→bd m.g (cF m.g (eJ pz) a ep).1→uM m.g (cF m.g (eJ pz) a ep).1=some v→fG B H' x m v L→K (.tuple [.aj (some (x.js,0)),.int .i64 0]) H') (k2:∀pz H',xX pz=a.Bo m.g→(cF m.g (eJ pz) a ep).2≠0→bd m.g (cF m.g (eJ pz) a ep).1→az B H' (dP aM (cF m.g (eJ pz) a ep).1.a::L)→K (.tuple [.aj none,.int .i64 (cF m.g (eJ pz) a ep).2]) H'):cl 13 [.aj (some (aM,0)),m.v,.int .u64 (ep:Int)] H K:=by
 obtain⟨N,hN⟩:∃N:Nat,m.g.cap=(N:Int):=⟨m.g.cap.toNat,by omega⟩;have hv:m.v=.agg (dS m.g.aE m.g.aA m.g.aH m.q m.g.bI.length m.c):=rfl;rw[hv,abd, ←hv];simp only[Option.isNone_some,ai];refine LX h hm hf hg hr hc TU (fun pz fid mid pid H1 Hx EU h0 hok h1=> ?_) (fun pz H1 Hx EU h0 hok h1=> ?_)
 ·simp only[AN,reduceIte,Nat.reduceEqDiff];obtain⟨v,K5⟩:=AA (eJ pz) h0;obtain⟨s,hs⟩:∃s,s=(cF m.g (eJ pz) a ep).1:=⟨_,rfl⟩;have SQ:=k1 pz;rw[←hs] at h1 hok K5 SQ;refine iF (fun S:Am.St=>∃js AV,S.1 10=some (T.v (V.aj (some (js,0))))∧fG B S.3 ⟨js,AV,aM,fid,mid,pid⟩ m ⟨s,[],R.gM,false⟩ L) (fun(S:Am.St) M4=> ?_) (fun Q hQ=> ?_)
  ·obtain⟨js,AV,ac6,hS⟩:=M4;generalize S.3=H2 at hS⊢;have hm6:∀A1 A2 A3 A4 A5 A6:cA,dB B (A1::A2::A3::A4::A5::A6::L) m:=fun A1 A2 A3 A4 A5 A6=>(((((hm.bW _).bW _).bW _).bW _).bW _).bW _
   simp only[ac6,AJ,reduceIte,Nat.reduceEqDiff];refine uP hS (hm6 _ _ _ _ _ _) hg (fun H3 h3=> ?_);have h3:fG B H3 ⟨js,AV,aM,fid,mid,pid⟩ m ⟨s,[],R.gM,false⟩ L:=h3;simp only[AJ,reduceIte,Nat.reduceEqDiff,hN];unfold uM at K5;rw[hN,Int.toNat_natCast] at K5
   cases tI:s.m9 N with
   |none=>rw[tI] at K5;cases K5
   |some t=>
    rw[tI] at K5;dsimp only at K5;refine Gq ((hm.bW _).bW _) h3.fs hok hg (by omega) tI (fun q3 c3 H4 h4=> ?_);have h5:fG B H4 ⟨js,AV,aM,fid,mid,pid⟩ m ⟨s,[],R.gM,false⟩ (BY q3 c3 t.data::L):=h4.ord [5,5];have qJ:=(az.M7 (h4.ord [4])).2.2.1;simp only[AJ,reduceIte,Nat.reduceEqDiff];by_cases hl:t.data.length=0
    ·rw[if_pos hl] at K5;cases K5;have e:¬((t.data.length:Nat):Int)>0:=by omega
     simp only[e,decide_false,ai]
     exact SQ ⟨js,AV,aM,fid,mid,pid⟩ _ H4 rfl Hx h0 hok (by
      unfold uM;rw[hN,Int.toNat_natCast,tI];simp only;rw[if_pos hl]) (h5.ord [6]).drop
    ·rw[if_neg hl] at K5;have e:((t.data.length:Nat):Int)>0:=by omega
     simp only[e,decide_true,ak]
     cases hd:EF t.data with
     |none=>rw[hd] at K5;cases K5
     |some d=>
      rw[hd] at K5;cases K5;refine Mp h5 (fun H hs=>(hs.ord [6]).iV) qJ (fun H6 h6=> ?_);have h6:fG B H6 ⟨js,AV,aM,fid,mid,pid⟩ m ⟨s,[],R.gM,false⟩ (BY q3 c3 t.data::L):=h6;have g6:=CF h6;rw[hd];unfold I6;simp only[AJ,reduceIte,Nat.reduceEqDiff,R.db,R.dX];rw[F3 h6.vz];simp only[AJ,reduceIte,Nat.reduceEqDiff,R.db,R.dX,Sf,Option.isSome_some,Nat.zero_add,g6.wr];have h7:=h6.store (off:=7) (vs:=(pd d.1 (d.2:Int) s.a.boots).cs);have e2:bM (Nb ⟨js,AV,aM,fid,mid,pid⟩ m ⟨s,[],R.gM,false⟩) 7 (pd d.1 (d.2:Int) s.a.boots).cs=Nb ⟨js,AV,aM,fid,mid,pid⟩ m ⟨s,[],pd d.1 (d.2:Int) s.a.boots,false⟩:=rfl;rw[e2] at h7
      exact SQ ⟨js,AV,aM,fid,mid,pid⟩ _ _ rfl Hx h0 hok (by
       unfold uM;rw[hN,Int.toNat_natCast,tI];simp only;rw[if_neg hl,hd]) (h7.ord [6]).drop
  ·simp only[KC,AJ,reduceIte,Nat.reduceEqDiff];have a1:=Mk h1;refine⟨?_, ?_⟩
   all_goals
    have a2:=a1.alloc 93 (Nb ⟨0,H1.next,aM,fid,mid,pid⟩ m ⟨s,[],R.gM,false⟩);exact hQ _ ⟨_,H1.next,rfl,a2⟩
 ·simp only[h0,decide_false,Bool.not_false,ak,AJ,reduceIte,Nat.reduceEqDiff];exact k2 pz H1 Hx h0 hok h1
end
theorem CJ (k:Nat→Int):∀(n:Nat) (t:List UInt8) (i:Nat),i<n→((xK k n++t).drop (4*i)).take 4=le (k i).toNat 4
 |n+1,t,i,h=>by
  rw[xK,List.append_assoc];by_cases hi:i=n
  ·subst hi;rw[List.drop_left' (by rw[gj]),List.take_left' (by simp)]
  ·exact CJ k n _ i (by omega)
theorem wI (r:R) (n:Nat):gX r n=xK r.k 8++(UInt8.ofNat r.ty.toNat::UInt8.ofNat (r.ho+1).toNat::(le r.ge.toNat 4++(UInt8.ofNat (if r.la=true then 1 else 0)::le n 4))):=by
 simp [gX,le]
theorem rI (r:R) (n j:Nat):(gX r n).getD (32+j) 0=(UInt8.ofNat r.ty.toNat::UInt8.ofNat (r.ho+1).toNat::(le r.ge.toNat 4++(UInt8.ofNat (if r.la=true then 1 else 0)::le n 4))).getD j 0:=by
 rw[wI,List.getD_eq_getElem?_getD,List.getD_eq_getElem?_getD,List.getElem?_append_right (by rw[gj];omega),gj];congr 2;omega
theorem CK (r:R) (n j:Nat):(gX r n).drop (32+j)=(UInt8.ofNat r.ty.toNat::UInt8.ofNat (r.ho+1).toNat::(le r.ge.toNat 4++(UInt8.ofNat (if r.la=true then 1 else 0)::le n 4))).drop j:=by
 rw[wI, ←List.drop_drop,List.drop_left' (by rw[gj])]
theorem Au {n:Nat} (h:n<4294967296):dI (le n 4)=n:=by
 rw[xU];exact Nat.mod_eq_of_lt (by simpa using h)
theorem GW (bs:List UInt8) (i:Nat):(mb bs).k i=if i<8 then ((dI ((bs.drop (4*i)).take 4):Nat):Int) else 0:=rfl
theorem Mv (bs:List UInt8):(mb bs).ty=((bs.getD 32 0).toNat:Int):=rfl
theorem Mw (bs:List UInt8):(mb bs).ho=((bs.getD 33 0).toNat:Int)-1:=rfl
theorem Mx (bs:List UInt8):(mb bs).ge=((dI ((bs.drop 34).take 4):Nat):Int):=rfl
theorem My (bs:List UInt8):(mb bs).la=decide (((bs.getD 38 0).toNat:Int)=1):=rfl
theorem Mz {r:R} (hr:r.ok) (h7:r.ho≤7) {n:Nat} (hn:n<2147483648):(mb (gX r n)).cs=r.cs∧nZ (gX r n)=true∧dI (((gX r n).drop 39).take 4)=n:=by
 have k1:=hr.ty;have k2:=hr.ho;have k3:=hr.ge;have g32:(gX r n).getD 32 0=UInt8.ofNat r.ty.toNat:=rI r n 0;have g33:(gX r n).getD 33 0=UInt8.ofNat (r.ho+1).toNat:=rI r n 1
 have g38:(gX r n).getD 38 0=UInt8.ofNat (if r.la=true then 1 else 0):=by
  have:=rI r n 6;rw[this];simp [le]
 have g42:(gX r n).getD 42 0=UInt8.ofNat (n / 256 / 256 / 256):=by
  have:=rI r n 10;rw[this];simp [le]
 have d34:((gX r n).drop 34).take 4=le r.ge.toNat 4:=by
  have:=CK r n 2;rw[this];simp [le]
 have d39:((gX r n).drop 39).take 4=le n 4:=by
  have:=CK r n 7;rw[this];simp [le]
 refine⟨?_, ?_, ?_⟩
 ·apply R.PJ
  ·intro i hi;have hk:=hr.k i;rw[GW,if_pos hi,wI,CJ _ _ _ _ hi,Au (by omega)];omega
  ·rw[Mv,g32];simp;omega
  ·rw[Mw,g33];simp;omega
  ·rw[Mx,d34,Au (by omega)];omega
  ·rw[My,g38];cases r.la<;>simp
 ·unfold nZ;rw[g33,g38,g42,vn];have e1:(UInt8.ofNat (r.ho+1).toNat).toNat≤8:=by simp;omega
  have e2:(UInt8.ofNat (if r.la=true then 1 else 0)).toNat≤1:=by cases r.la<;>simp
  have e3:(UInt8.ofNat (n / 256 / 256 / 256)).toNat≤127:=by simp;omega
  rw[decide_eq_true e1,decide_eq_true e2,decide_eq_true e3];simp
 ·rw[d39,Au (by omega)]
theorem Sl {r s:R} (h:r.cs=s.cs):o9 r=o9 s:=by
 obtain⟨hk,h1,h2,h3,h4⟩:=(R.Eu r s).1 ((R.rF r s).2 h)
 have hs:ma r.k 8=ma s.k 8:=by
  simp only[ma];rw[hk 0 (by omega),hk 1 (by omega),hk 2 (by omega),hk 3 (by omega),hk 4 (by omega),hk 5 (by omega),hk 6 (by omega),hk 7 (by omega)]
 unfold o9 Aq;rw[h1,h2,hs];by_cases h8:s.ho≥8
 ·simp [h8]
 ·by_cases h0:s.ho≥0
  ·rw[hk s.ho.toNat (by omega)]
  ·by_cases h9:s.ho< -1
   ·simp [h9]
   ·have:s.ho= -1:=by omega
    rw[this];have:Int.toNat (-1)=0:=rfl;rw[this,hk 0 (by omega)]
theorem Sm {r:R} (hr:r.ok) (hf:o9 r=true) {n:Nat} (hn:n<2147483648):∃s,EF (gX r n)=some (s,n)∧s.cs=r.cs:=by
 have h7:r.ho≤7:=by
  unfold o9 at hf;simp at hf;omega
 obtain⟨h1,h2,h3⟩:=Mz hr h7 hn;refine⟨mb (gX r n), ?_,h1⟩;unfold EF;rw[if_pos ⟨h2,by rw[Sl h1];exact hf⟩,h3]
structure eK (r:R):Prop where
 k:∀i,0≤r.k i∧r.k i≤4294967295
 nz:∀i,8≤i→r.k i=0
 vl:AT r
 ge:0≤r.ge∧r.ge≤4294967295
theorem eK.gM:eK R.gM:=⟨fun _=>by show (0:Int)≤0∧(0:Int)≤_;omega,fun _ _=>rfl,V7,by show (0:Int)≤0∧(0:Int)≤_;omega⟩
theorem eK.Tv {r:R} (h:eK r): -1≤r.ho∧r.ho≤7:=by
 by_cases h0:r.ty=0
 ·rw[h.vl.none h0];omega
 ·by_cases h8:nc r.ty=true
  ·rw[h.vl.all h8];omega
  ·obtain⟨i,hi,e,_⟩:=h.vl.one h0 (by simpa using h8);omega
theorem eK.ok {r:R} (h:eK r):r.ok where
 k:=h.k
 ty:=by
  rcases h.vl.ty with e|e
  ·omega
  ·have:=rG.1 e;omega
 ho:=by have:=h.Tv;omega
 ge:=h.ge
theorem eK.cY {r:R} (h:eK r):o9 r=true:=by
 have hho:=h.Tv;unfold o9;have e1:decide (r.ho< -1)=false:=decide_eq_false (by omega);have e2:decide (r.ho≥8)=false:=decide_eq_false (by omega);rw[e1,e2];simp only[Bool.not_false,Bool.true_and];by_cases h0:r.ty=0
 ·have hone:Aq r=false:=by simp [Aq,h0]
  have e3:decide (r.ho≥0)=false:=by rw[h.vl.none h0];decide
  rw[hone,e3];simp [h0]
 ·have hr:right r.ty=true:=h.vl.ty.resolve_left h0;have Xo:ma r.k 8=true:=CA.2 (h.vl.some h0);by_cases h8:nc r.ty=true
  ·have hone:Aq r=false:=by simp [Aq,h8]
   have e3:decide (r.ho≥0)=false:=by rw[h.vl.all h8];decide
   rw[hone,e3,hr,Xo];simp
  ·have Xn:nc r.ty=false:=by simpa using h8
   have hone:Aq r=true:=by simp [Aq,h0,Xn]
   obtain⟨i,hi,e,hk⟩:=h.vl.one h0 Xn;have e3:decide (r.ho≥0)=true:=by rw[e];simp
   have e4:r.ho.toNat=i:=by omega
   rw[hone,e3,hr,Xo,e4];simp [hk]
theorem eK.ext {r s:R} (h:eK r) (hs:∀i,8≤i→s.k i=0) (e:s.cs=r.cs):s=r:=by
 obtain⟨hk,h1,h2,h3,h4⟩:=(R.Eu s r).1 ((R.rF s r).2 e);cases r;cases s;simp only at h1 h2 h3 h4 hk hs;have:∀i,_:=fun i=>hk i
 congr;funext i;by_cases hi:i<8
 ·exact hk i hi
 ·rw[hs i (by omega)];exact(h.nz i (by omega)).symm
theorem eK.acC {r:R} (h:eK r) {n:Nat} (hn:n<2147483648):EF (gX r n)=some (r,n):=by
 obtain⟨s,h1,h2⟩:=Sm h.ok h.cY hn
 have hs:∀i,8≤i→s.k i=0:=by
  unfold EF at h1;split at h1
  ·have h1:=congrArg Prod.fst (Option.some.inj h1);simp only at h1;intro i hi;rw[←h1];rw[GW,if_neg (by omega)]
  ·cases h1
 rw[h1,h.ext hs h2]
theorem eK.acD {r:R} (h:eK r) (was now:Int):eK (pd r was now):=by
 unfold pd;split
 ·exact h
 split
 ·exact eK.gM
 ·exact⟨h.k,h.nz,⟨h.vl.ty,h.vl.none,h.vl.all,h.vl.one,h.vl.some⟩,by show (0:Int)≤0∧(0:Int)≤_;omega⟩
theorem vt (x:Int):0≤IntKind.u32.wrap x∧IntKind.u32.wrap x≤4294967295:=by
 rw[IntKind.wrap_u32];omega
theorem eK.leave {r:R} (k:∀i,0≤r.k i∧r.k i≤4294967295) (nz:∀i,8≤i→r.k i=0) (ge:0≤r.ge∧r.ge≤4294967295) (h:Int):(∀i,0≤(ja r h).k i∧(ja r h).k i≤4294967295)∧(∀i,8≤i→(ja r h).k i=0)∧(0≤(ja r h).ge∧(ja r h).ge≤4294967295):=by
 have e:(ja r h).k=cw r.k h.toNat 0∧(ja r h).ge=r.ge:=by
  unfold ja;simp only[];split<;>exact⟨rfl,rfl⟩
 rw[e.1,e.2];refine⟨fun i=> ?_,fun i hi=> ?_,ge⟩
 ·unfold cw;split
  ·omega
  ·exact k i
 ·unfold cw;split
  ·rfl
  ·exact nz i hi
theorem eK.doR {r:R} (hr:eK r) (h:Int) (c:Cm) (hn:0≤c.nw∧c.nw≤4294967295):eK (doR r h c).1:=by
 have hi:=V8 hr.vl h c
 have key:(∀i,0≤(Go.Proofs.YtlgdkndamddpkaaGreat.doR r h c).1.k i∧(Go.Proofs.YtlgdkndamddpkaaGreat.doR r h c).1.k i≤4294967295)∧(∀i,8≤i→(Go.Proofs.YtlgdkndamddpkaaGreat.doR r h c).1.k i=0)∧(0≤(Go.Proofs.YtlgdkndamddpkaaGreat.doR r h c).1.ge∧(Go.Proofs.YtlgdkndamddpkaaGreat.doR r h c).1.ge≤4294967295):=by
  have self:(∀i,0≤r.k i∧r.k i≤4294967295)∧(∀i,8≤i→r.k i=0)∧(0≤r.ge∧r.ge≤4294967295):=⟨hr.k,hr.nz,hr.ge⟩;unfold Go.Proofs.YtlgdkndamddpkaaGreat.doR;split
  ·exact self
  rename_i hv;simp only[Bool.or_eq_true,decide_eq_true_eq,not_or] at hv;split
  ·exact self
  split
  ·exact self
  split
  ·unfold jJ;simp only[];split
   ·exact eK.leave (r:=⟨r.k,r.ty,r.ho,IntKind.u32.wrap (r.ge+1),c.la⟩) hr.k hr.nz (vt _) h
   ·refine⟨fun i=> ?_,fun i hi=> ?_,vt _⟩
    ·show 0≤cw r.k h.toNat c.nw i∧cw r.k h.toNat c.nw i≤4294967295
     unfold cw;split
     ·exact hn
     ·exact hr.k i
    ·show cw r.k h.toNat c.nw i=0
     rw[IU (by omega)];exact hr.nz i hi
  split
  ·split
   ·exact self
   split
   ·exact self
   ·exact self
  split
  ·split
   ·exact self
   split
   ·exact self
   ·exact self
  split
  ·exact⟨fun _=>by show (0:Int)≤0∧(0:Int)≤_;omega,fun _ _=>rfl,vt _⟩
  ·have hkv:(∀i,0≤kV r h c.nw 8 i∧kV r h c.nw 8 i≤4294967295)∧(∀i,8≤i→kV r h c.nw 8 i=0):=by
    refine⟨fun i=> ?_,fun i hi=> ?_⟩
    ·rw[vk];split
     ·omega
     ·exact hr.k i
    ·rw[vk];split
     ·rfl
     ·exact hr.nz i hi
   unfold jb;simp only[];split
   ·exact self
   split
   ·exact self
   split
   ·exact⟨hkv.1,hkv.2,vt _⟩
   ·exact⟨hkv.1,hkv.2,vt _⟩
 exact⟨key.1,key.2.1,hi,key.2.2⟩
def CW:Nat:=8000200
theorem Tw:KF*(KF*KF+1)=CW:=by decide
def vu (su:List (List UInt8)) (t:List UInt8):Nat→List UInt8:=fun i=>if i<su.length then su.getD i [] else if i=su.length then t else []
theorem Sn {su:List (List UInt8)} {t:List UInt8} {i:Nat} (hi:i<su.length) (d:List UInt8):oL (vu su t) i d=vu (su.set i d) t:=by
 funext j;unfold oL vu;rw[List.length_set];by_cases hj:j=i
 ·subst hj;rw[if_pos rfl,if_pos hi,List.getD_eq_getElem?_getD,List.getElem?_set];simp [hi]
 ·rw[if_neg hj];by_cases hl:j<su.length
  ·rw[if_pos hl,if_pos hl,List.getD_eq_getElem?_getD,List.getD_eq_getElem?_getD,List.getElem?_set,if_neg (fun e=>hj e.symm)]
  ·rw[if_neg hl,if_neg hl]
theorem So {su:List (List UInt8)} {t:List UInt8} (d:List UInt8):oL (vu su t) su.length d=vu su d:=by
 funext j;unfold oL vu;by_cases hj:j=su.length
 ·subst hj;simp
 ·simp [hj]
theorem P5 {su:List (List UInt8)} {t:List UInt8} {i:Nat} (hi:i<su.length):vu su t i=su.getD i []:=if_pos hi
theorem Sp (su:List (List UInt8)) (t:List UInt8):vu su t su.length=t:=by unfold vu;simp
def wJ (t:List UInt8) (b:Nat) (r:R):Prop:=(t=[]∧r=R.gM)∨∃r0 b0,t=gX r0 b0∧eK r0∧b0≤b∧r=pd r0 b0 b
theorem wJ.P6 {t:List UInt8} {b:Nat} {r:R} (h:wJ t b r):eK r:=by
 rcases h with⟨_,e⟩|⟨r0,b0,_,h,_,e⟩
 ·rw[e];exact eK.gM
 ·rw[e];exact h.acD _ _
theorem wJ.aai {t:List UInt8} {b:Nat} {r:R} (h:wJ t b r):wJ t (b+1) (GK r true):=by
 rcases h with⟨h1,e⟩|⟨r0,b0,h1,h2,h3,e⟩
 ·exact .inl ⟨h1,by rw[e];rfl⟩
 ·refine .inr ⟨r0,b0,h1,h2,by omega, ?_⟩;have hne:¬(b0:Int)=((b+1:Nat):Int):=by omega
  rw[e];unfold pd GK;rw[if_neg hne];by_cases hb:(b0:Int)=(b:Int)
  ·rw[if_pos hb];cases hl:r0.la<;>simp [R.gM]
  ·rw[if_neg hb];cases hl:r0.la<;>simp [R.gM]
theorem wJ.enc {r:R} (h:eK r) (b:Nat):wJ (gX r b) b r:=.inr ⟨r,b,rfl,h,Nat.le_refl _,by unfold pd;rw[if_pos rfl]⟩
section
variable {g:ct} {s:FS} {su:List (List UInt8)} {t:List UInt8} {ds:List Nat} {N:Nat}
structure MA (su:List (List UInt8)) (p:Pg):Prop where
 lo:0≤p.aq
 hi:p.aq<su.length
 dl:p.data.length≤64
 cv:p.cv=true→p.data=[]
theorem Av (hg:g.In) (hform:g.cY=true) (hc:g.cap<65000) {c:Nat→List UInt8} (h:Rn g s c ds N none) {x:Sh} (hx:zZ g x) (hx0:x.fr=0) (hN:N+CW<281474976710656):∃r,u9 g KF KF s x=some r∧Kp s r.1 CW∧((r.2=0∧Rn g r.1 (oL c x.aq x.data) ds (N+CW) none)∨(r.2=10∧Rn g r.1 c ds (N+CW) none∧g.aH<r.1.f.po.count 3)∨(r.2=9∧ku g r.1.a c (oL c x.aq x.data) ds (N+CW))):=by
 have h2:=h.mono (N':=N+CW) (by omega);have K4:=ct.kH g hg.b.2;have hsn:=h.sn;obtain⟨s1,e,h3,h4⟩:=Rn.aad hg hform hc hN (k:=KF) (by decide) hx hx0 KF s h2 (by rw[Tw];omega) (by show _<200;omega);have kp:=(bd.aac hg hc hx.dl KF s h.ok h3).2;rw[Tw] at kp;exact⟨(s1,e),h3,kp,h4⟩
theorem P7 {a:Nat} {d:List UInt8} (ha:(a:Int)≤g.cap) (hd:d.length≤64):zZ g (Tm a d):=⟨.inl rfl,ha,Nat.zero_le _,hd,.inl rfl⟩
theorem Wf {a:Nat} (ha:(a:Int)≤g.cap):zZ g (shT a):=⟨.inr rfl,ha,Nat.zero_le _,Nat.zero_le _,.inr rfl⟩
theorem KR (hg:g.In) (hform:g.cY=true) (hc:g.cap<65000) (h:Rn g s (vu su t) ds N none) (hl:(su.length:Int)=g.cap) {p:Pg} (hp:MA su p) (hN:N+CW<281474976710656):∃r,GR g s p=some r∧Kp s r.1 CW∧((r.2=0∧Rn g r.1 (vu (su.set p.aq.toNat p.data) t) ds (N+CW) none)∨(r.2=10∧Rn g r.1 (vu su t) ds (N+CW) none∧g.aH<r.1.f.po.count 3)∨(r.2=9∧ku g r.1.a (vu su t) (vu (su.set p.aq.toNat p.data) t) ds (N+CW))):=by
 have hlo:=hp.lo;have hhi:=hp.hi;have ha:p.aq.toNat<su.length:=by omega
 rw[←Sn ha];unfold GR;by_cases hh:p.cv=true
 ·rw[if_pos hh];have hd:=hp.cv hh;unfold Kj;by_cases hs:(s.f.pm.cd.getD p.aq.toNat none).isSome=true
  ·rw[if_pos hs];have:=Av hg hform hc h (Wf (a:=p.aq.toNat) (by omega)) rfl hN;rw[hd];exact this
  ·rw[if_neg hs]
   have hn:s.f.pm.at p.aq.toNat=none:=by
    have:¬(s.f.pm.at p.aq.toNat).isSome=true:=hs;simpa using this
   obtain⟨t',ht1,ht2,_⟩:=h.m9 p.aq.toNat
   have tI:s.m9 p.aq.toNat=some ⟨2,0,0,p.aq.toNat,0,[]⟩:=by
    unfold FS.m9;rw[show s.f.pm.cd.getD p.aq.toNat none=none from hn]
   rw[tI] at ht1;cases ht1;refine⟨_,rfl,Kp.rfl s CW,.inl ⟨rfl, ?_⟩⟩
   have e:oL (vu su t) p.aq.toNat p.data=vu su t:=by
    funext j;unfold oL;split
    ·rename_i e;rw[e, ←ht2,hd]
    ·rfl
   rw[e];exact h.mono (by omega)
 ·rw[if_neg hh];exact Av hg hform hc h (P7 (a:=p.aq.toNat) (by omega) hp.dl) rfl hN
theorem rJ (hg:g.In) (hform:g.cY=true) (hc:g.cap<65000):∀(l:List Pg) (s:FS) (su:List (List UInt8)) (N:Nat),Rn g s (vu su t) ds N none→(su.length:Int)=g.cap→dR l→(∀p∈l,MA su p)→N+l.length*CW<281474976710656→∃r,hG g l s l=some r∧Kp s r.1 (l.length*CW)∧((r.2.2=0∧r.2.1=[]∧Rn g r.1 (vu (ee su l) t) ds (N+l.length*CW) none)∨(r.2.2=10∧g.aH<r.1.f.po.count 3∧∃j,j≤l.length∧r.2.1=l.drop j∧Rn g r.1 (vu (ee su (l.take j)) t) ds (N+l.length*CW) none)∨(r.2.2=9∧∃j,j<l.length∧ku g r.1.a (vu (ee su (l.take j)) t) (vu (ee su (l.take (j+1))) t) ds (N+l.length*CW)))
 |[],s,su,N,h,hl,hs,hp,hN=>⟨(s,[],0),rfl,Kp.rfl s _,.inl ⟨rfl,rfl,h.mono (by omega)⟩⟩
 |p::l,s,su,N,h,hl,hs,hp,hN=>by
  rw[List.length_cons,Nat.succ_mul] at hN;obtain⟨r,h1,h2,h3⟩:=KR hg hform hc h hl (hp p List.mem_cons_self) (by omega);rw[hG,h1];simp only[List.length_cons,Nat.succ_mul];rcases h3 with⟨e,h3⟩|⟨e,h3,h4⟩|⟨e,h3⟩
  ·rw[if_pos e,Cy hs]
   have hp2:∀q∈l,MA (su.set p.aq.toNat p.data) q:=fun q hq=>by
    have:=hp q (List.mem_cons_of_mem _ hq);exact⟨this.lo,by rw[List.length_set];exact this.hi,this.dl,this.cv⟩
   obtain⟨r',k1,k2,k3⟩:=rJ hg hform hc l r.1 (su.set p.aq.toNat p.data) (N+CW) h3 (by rw[List.length_set];exact hl) (Cw hs) hp2 (by omega);refine⟨r',k1,(h2.trans k2).mono (by omega), ?_⟩;rw[show N+CW+l.length*CW=N+(l.length*CW+CW) from by omega] at k3;rcases k3 with⟨e1,e2,e3⟩|⟨e1,e2,j,e3,e4,e5⟩|⟨e1,j,e2,e3⟩
   ·exact .inl ⟨e1,e2,e3⟩
   ·exact .inr (.inl ⟨e1,e2,j+1,by omega,e4,e5⟩)
   ·exact .inr (.inr ⟨e1,j+1,by omega,e3⟩)
  ·rw[if_neg (by omega)];refine⟨_,rfl,h2.mono (by omega),.inr (.inl ⟨e,h4,0,Nat.zero_le _,rfl,h3.mono (by omega)⟩)⟩
  ·rw[if_neg (by omega)];refine⟨_,rfl,h2.mono (by omega),.inr (.inr ⟨e,0,by omega,h3.mono (by omega)⟩)⟩
end
def eQ (o:Ob) (j:Nat):Ob:=⟨ee o.su (o.ps.take j),o.ps.drop j,o.r⟩
structure Ug (g:ct) (u:Un) (o:Ob) (ds:List Nat) (N b:Nat):Prop where
 t:∃t,Rn g u.s (vu o.su t) ds N none∧wJ t b o.r
 boots:u.s.a.boots=(b:Int)
 ps:u.ps=o.ps
 r:u.r=o.r
 dn:u.down=false
 ook:o.ok
 len:(o.su.length:Int)=g.cap
 cv:∀p∈o.ps,p.cv=true→p.data=[]
structure wK (g:ct) (a:Ar) (o o':Ob) (ds:List Nat) (N b:Nat):Prop where
 off:a.off=true
 eO:B2 a
 boots:a.boots=(b:Int)
 cd:∀cut:Int,∃q,(q=o∨q=o')∧∃i,i≤8∧∃t,Cr g (cE a cut) (vu (ee q.su (q.ps.take i)) t) ds N∧wJ t b q.r
section
variable {g:ct} {u:Un} {o:Ob} {ds:List Nat} {N b:Nat}
theorem Ug.pg (h:Ug g u o ds N b):∀p∈o.ps,MA o.su p:=fun p hp=>⟨(h.ook.ib.lo p hp).1,h.ook.inr p hp,h.ook.ib.dl p hp,h.cv p hp⟩
theorem Ug.ok (h:Ug g u o ds N b):P3 g u:=by
 obtain⟨t,h1,_⟩:=h.t;refine⟨h1.ok,by rw[h.ps];exact h.ook.ib,by rw[h.ps];exact h.ook.Bt,fun p hp=> ?_⟩;rw[h.ps] at hp;have:=h.pg p hp;have hl:=h.len;have hi:=this.hi;exact⟨this.lo,by omega,this.dl⟩
theorem KS (h:o.ok) (j:Nat):(eQ o j).ok where
 n1:=by show 1≤(ee o.su (o.ps.take j)).length;rw[df];exact h.n1
 n2:=by show (ee o.su (o.ps.take j)).length≤_;rw[df];exact h.n2
 dl:=wE _ _ h.dl (fun p hp=>h.ib.dl p (List.mem_of_mem_take hp))
 ib:=⟨h.ib.up.sublist (List.drop_sublist _ _),fun p hp=>h.ib.lo p (List.mem_of_mem_drop hp),fun p hp=>h.ib.dl p (List.mem_of_mem_drop hp)⟩
 Bt:=by show (o.ps.drop j).length≤8;rw[List.length_drop];have:=h.Bt;omega
 inr:=fun p hp=>by
  show p.aq<(((ee o.su (o.ps.take j)).length:Nat):Int)
  rw[df];exact h.inr p (List.mem_of_mem_drop hp)
 vl:=h.vl
theorem Ug.step (h:Ug g u o ds N b) {s:FS} {j:Nat} {N':Nat} {t:List UInt8} (ht:wJ t b o.r) (hr:Rn g s (vu (ee o.su (o.ps.take j)) t) ds N' none) (hb:s.a.boots=u.s.a.boots):Ug g {u with s:=s,ps:=o.ps.drop j} (eQ o j) ds N' b where
 t:=⟨t,hr,ht⟩
 boots:=hb.trans h.boots
 ps:=rfl
 r:=h.r
 dn:=h.dn
 ook:=KS h.ook j
 len:=by show (((ee o.su (o.ps.take j)).length:Nat):Int)=_;rw[df];exact h.len
 cv:=fun p hp=>h.cv p (List.mem_of_mem_drop hp)
theorem Sq (hg:g.In) (hform:g.cY=true) (hc:g.cap<65000) (h:Ug g u o ds N b) {p:Pg} (hp:MA o.su p) (sure:Bool) (hN:N+9*CW<281474976710656):∃r,EG g u.s u.ps p sure=some r∧Kp u.s r.1 (9*CW)∧((r.2.2=0∧Ug g {u with s:=r.1,ps:=r.2.1} (pt o p sure) ds (N+9*CW) b)∨(r.2.2=10∧g.aH<r.1.f.po.count 3∧∃j,j≤o.ps.length∧Ug g {u with s:=r.1,ps:=r.2.1} (eQ o j) ds (N+9*CW) b)∨(r.2.2=9∧wK g r.1.a o (pt o p sure) ds (N+9*CW) b)):=by
 obtain⟨t,ht,htb⟩:=h.t;have hlen:=h.len;have hlo:=hp.lo;have hhi:=hp.hi;have hn2:=h.ook.n2;have hle:=h.ook.Bt;have ha:p.aq.toNat<o.su.length:=by omega
 have hok:=Wb h.ook hlo hhi hp.dl sure;unfold EG;rw[h.ps];by_cases hs:sure=true
 ·subst hs;rw[if_pos rfl];obtain⟨r,h1,h2,h3⟩:=KR hg hform hc ht hlen hp (by omega);rw[h1];simp only;have e:pt o p true=⟨o.su.set p.aq.toNat p.data,fD o.ps p.aq,o.r⟩:=rfl;rcases h3 with⟨e1,h3⟩|⟨e1,h3,h4⟩|⟨e1,h3⟩
  ·rw[if_pos e1];refine⟨_,rfl,h2.mono (by omega),.inl ⟨rfl, ?_⟩⟩
   exact {
    t:=⟨t,h3.mono (by omega),htb⟩,boots:=h2.boots.trans h.boots,ps:=rfl,r:=h.r,dn:=h.dn,ook:=hok
    len:=by rw[e];show (((o.su.set p.aq.toNat p.data).length:Nat):Int)=_;rw[List.length_set];exact hlen
    cv:=fun q hq=>h.cv q (GL hq)}
  ·rw[if_neg (by omega)];refine⟨_,rfl,h2.mono (by omega),.inr (.inl ⟨e1,h4,0,Nat.zero_le _, ?_⟩)⟩;exact h.step (j:=0) htb (h3.mono (by omega)) h2.boots
  ·rw[if_neg (by omega)];refine⟨_,rfl,h2.mono (by omega),.inr (.inr ⟨e1,h3.off,h3.eO,h2.boots.trans h.boots,fun cut=> ?_⟩)⟩;rcases h3.cd cut with h4|h4
   ·exact⟨o,.inl rfl,0,by omega,t,h4.mono (by omega),htb⟩
   ·exact⟨_,.inr rfl,0,by omega,t,h4.mono (by omega),htb⟩
 ·have hs':sure=false:=by simpa using hs
  subst hs';rw[if_neg (by simp)];have tL:pt o p false=if (gW o.ps p).2=11 then ⟨ee o.su o.ps,(gW [] p).1,o.r⟩ else ⟨o.su,(gW o.ps p).1,o.r⟩:=rfl
  have hput:∀(ps:List Pg),dR ps→(∀q∈ps,q.cv=true→q.data=[])→∀q∈(gW ps p).1,q.cv=true→q.data=[]:=fun ps hss hh q hq hqh=>by
   rcases ED hss hq with hq|rfl
   ·exact hh q hq hqh
   ·have hqh:p.cv=true:=hqh;show (if p.cv=true then [] else p.data)=[]
    rw[if_pos hqh]
  by_cases AX:(gW o.ps p).2=11
  ·rw[if_neg (fun e=>e AX)];rw[if_pos AX] at tL;have h8:o.ps.length*CW≤8*CW:=Nat.mul_le_mul_right _ hle;obtain⟨r,h1,h2,h3⟩:=rJ hg hform hc o.ps u.s o.su N ht hlen h.ook.ib h.pg (by omega);rw[h1];simp only;rcases h3 with⟨e1,e2,h3⟩|⟨e1,h4,j,hj,e2,h3⟩|⟨e1,j,hj,h3⟩
   ·rw[if_pos e1,e2]
    have h0:(gW [] p).2=0:=by
     rw[EC (by simp) hlo (by omega) hp.dl];simp
    refine⟨_,rfl,h2.mono (by omega),.inl ⟨h0, ?_⟩⟩;rw[tL] at hok⊢
    exact {
     t:=⟨t,h3.mono (by omega),htb⟩,boots:=h2.boots.trans h.boots,ps:=rfl,r:=h.r,dn:=h.dn,ook:=hok
     len:=by show (((ee o.su o.ps).length:Nat):Int)=_;rw[df];exact hlen
     cv:=hput [] oR (fun q hq=>by cases hq)}
   ·rw[if_neg (by omega)];refine⟨_,rfl,h2.mono (by omega),.inr (.inl ⟨e1,h4,j,hj, ?_⟩)⟩;rw[e2];exact h.step htb (h3.mono (by omega)) h2.boots
   ·rw[if_neg (by omega)];refine⟨_,rfl,h2.mono (by omega),.inr (.inr ⟨e1,h3.off,h3.eO,h2.boots.trans h.boots,fun cut=> ?_⟩)⟩;rcases h3.cd cut with h4|h4
    ·exact⟨o,.inl rfl,j,by omega,t,h4.mono (by omega),htb⟩
    ·exact⟨o,.inl rfl,j+1,by omega,t,h4.mono (by omega),htb⟩
  ·rw[if_pos AX];rw[if_neg AX] at tL;refine⟨_,rfl,Kp.rfl u.s _,.inl ⟨rfl, ?_⟩⟩;rw[tL] at hok⊢
   exact {
    t:=⟨t,ht.mono (by omega),htb⟩,boots:=h.boots,ps:=rfl,r:=h.r,dn:=h.dn,ook:=hok,len:=hlen
    cv:=hput o.ps h.ook.ib h.cv}
end
theorem MB (r:R) (h:Int) (c:Cm) (P:R×Int→Prop) (h0:∀s,P (s,0)) (h1:P (r,1)) (QF:P (r,13)):P (doR r h c):=by
 unfold doR;split
 ·exact h1
 split
 ·exact h1
 split
 ·exact QF
 split
 ·exact h0 _
 split
 ·split
  ·exact QF
  split
  ·exact h0 _
  ·exact h0 _
 split
 ·split
  ·exact h0 _
  split
  ·exact h1
  ·exact h0 _
 split
 ·exact h0 _
 unfold jb;simp only[];split
 ·exact h1
 split
 ·exact QF
 split
 ·exact h0 _
 ·exact h0 _
theorem Ss (r:R) (h:Int) (c:Cm):((doR r h c).2=0∨(doR r h c).2=1∨(doR r h c).2=13)∧((doR r h c).2≠0→(doR r h c).1=r):=
 MB r h c (fun x=>(x.2=0∨x.2=1∨x.2=13)∧(x.2≠0→x.1=r)) (fun s=>⟨.inl rfl,fun h=>absurd rfl h⟩) ⟨.inr (.inl rfl),fun _=>rfl⟩ ⟨.inr (.inr rfl),fun _=>rfl⟩
section
variable {g:ct} {u:Un} {o:Ob} {ds:List Nat} {N b:Nat}
def Tx (g:ct) (u:Un) (o o':Ob) (a:Rs) (ch:Bool) (ds:List Nat) (N b:Nat) (r:Un×Rs×Int):Prop:=
 (r.2.2=0∧r.2.1=a∧Ug g r.1 o' ds N b)∨
 (r.2.2=0∧r.2.1=⟨10,[],R.zero⟩∧a.e=0∧ch=true∧g.aH<r.1.s.f.po.count 3∧∃j,j≤o.ps.length∧Ug g r.1 (eQ o j) ds N b)∨
 (r.2.2=9∧wK g r.1.s.a o o' ds N b)
theorem EH (h:Ug g u o ds N b):jr u=(u,0):=by
 obtain⟨t,ht,_⟩:=h.t;unfold jr;have h1:=ht.on;have h2:=ht.aU;rw[if_neg (by simp [h1]),if_neg (by rw[h.dn];simp;omega)]
theorem Wg (hg:g.In) (hform:g.cY=true) (hc:g.cap<65000) (h:Ug g u o ds N b) (hh:Int) (c:Cm) (bP:List UInt8) (hd:c.dn=bP.length) (TX:0≤c.nw∧c.nw≤4294967295) (hN:N+9*CW<281474976710656):∃r,Tu g u hh c bP=some r∧Kp u.s r.1.s (9*CW)∧Tx g u o (sj o hh c bP).1 (sj o hh c bP).2 (!decide (c.kd=0)&& !decide (c.kd=9)) ds (N+9*CW) b r:=by
 obtain⟨s,ps,r,dn⟩:=u;have hr:=h.r;have hps:=h.ps;simp only at hr hps;subst hr hps;obtain⟨t,ht,htb⟩:=h.t;have hlen:=h.len;have hcap:g.cap.toNat=o.su.length:=by omega
 have hmono:Ug g ⟨s,o.ps,o.r,dn⟩ o ds (N+9*CW) b:={h with t:=⟨t,ht.mono (by omega),htb⟩};have CV:=htb.P6;unfold Tu;rw[EH h];simp only[ne_eq,not_true_eq_false,if_false]
 have plain:∀(a:Rs),a.e=0∨a.e=1∨a.e=13→(∃r,(if a.e=7∨a.e=9 then some ((⟨s,o.ps,o.r,true⟩:Un),(⟨0,[],R.zero⟩:Rs),a.e) else some ((⟨s,o.ps,o.r,dn⟩:Un),a,0))=some r∧Kp s r.1.s (9*CW)∧r=((⟨s,o.ps,o.r,dn⟩:Un),a,0)):=fun a ha=>by
  rw[if_neg (by omega)];exact⟨_,rfl,Kp.rfl _ _,rfl⟩
 unfold Ms sj;rw[hcap];by_cases hv:l7 hh c o.su.length=false
 ·rw[if_pos hv,if_pos hv];exact⟨((⟨s,o.ps,o.r,dn⟩:Un),⟨1,[],R.zero⟩,0),rfl,Kp.rfl _ _,.inl ⟨rfl,rfl,hmono⟩⟩
 rw[if_neg hv,if_neg hv];by_cases hm:Hr o.r hh c=false
 ·rw[if_pos hm,if_pos hm];exact⟨((⟨s,o.ps,o.r,dn⟩:Un),⟨13,[],R.zero⟩,0),rfl,Kp.rfl _ _,.inl ⟨rfl,rfl,hmono⟩⟩
 rw[if_neg hm,if_neg hm];have MM:l7 hh c o.su.length=true:=by simpa using hv
 unfold l7 at MM;simp only[Bool.and_eq_true,Bool.or_eq_true,Bool.not_eq_true',Bool.or_eq_false_iff,decide_eq_true_eq,decide_eq_false_iff_not] at MM;obtain⟨⟨⟨⟨v1,v2⟩,v3⟩,v4⟩,v5⟩:=MM;by_cases k0:c.kd=0
 ·rw[if_pos k0,if_pos k0];have xR:=v4.resolve_left (fun e=>e.1.1 k0);have Hl:l6 o c.kJ=(qF o.ps c.kJ).getD (o.su.getD c.kJ.toNat []):=if_pos xR;by_cases hp:fO o.ps c.kJ=true
  ·rw[if_pos hp];refine⟨((⟨s,o.ps,o.r,dn⟩:Un),⟨0,(qF o.ps c.kJ).getD [],R.zero⟩,0),rfl,Kp.rfl _ _,.inl ⟨rfl, ?_,hmono⟩⟩;simp only;rw[Hl]
   cases hgp:qF o.ps c.kJ with
   |none=>rw[rH.1 hgp] at hp;cases hp
   |some d=>rfl
  ·rw[if_neg hp];obtain⟨t',h1,h2,_⟩:=ht.m9 c.kJ.toNat;rw[h1];refine⟨((⟨s,o.ps,o.r,dn⟩:Un),⟨0,t'.data,R.zero⟩,0),rfl,Kp.rfl _ _,.inl ⟨rfl, ?_,hmono⟩⟩;simp only;rw[Hl,rH.2 (by simpa using hp),h2,P5 (by omega)];rfl
 rw[if_neg k0,if_neg k0]
 have put:∀(p:Pg),MA o.su p→c.kd≠9→∃r,(match (match EG g s o.ps p c.su with
  |none=>none
  |some r=>some ((⟨r.1,r.2.1,o.r,dn⟩:Un),(⟨0,[],R.zero⟩:Rs),r.2.2)) with
  |none=>none
  |some r=>if r.2.2=7∨r.2.2=9 then some ({r.1 with down:=true},(⟨0,[],R.zero⟩:Rs),r.2.2) else some (r.1,{r.2.1 with e:=r.2.2},0))=some r∧Kp s r.1.s (9*CW)∧
  Tx g ⟨s,o.ps,o.r,dn⟩ o (pt o p c.su) ⟨0,[],R.zero⟩ (!decide (c.kd=0)&& !decide (c.kd=9)) ds (N+9*CW) b r:=fun p hp h9=>by
  obtain⟨r,h1,h2,h3⟩:=Sq hg hform hc h hp c.su hN;rw[h1];simp only;rcases h3 with⟨e,h3⟩|⟨e,h3,h4⟩|⟨e,h3⟩
  ·rw[if_neg (by omega),e];exact⟨_,rfl,h2,.inl ⟨rfl,rfl,h3⟩⟩
  ·rw[if_neg (by omega),e];exact⟨_,rfl,h2,.inr (.inl ⟨rfl,rfl,rfl,by simp [k0,h9],h3,h4⟩)⟩
  ·rw[if_pos (.inr e)];exact⟨_,rfl,h2,.inr (.inr ⟨e,h3⟩)⟩
 by_cases k1:c.kd=1
 ·rw[if_pos k1,if_pos k1];have xR:=v4.resolve_left (fun e=>e.1.2 k1);have hdn:c.dn≤64:=v5.resolve_left (fun e=>e k1);exact put ⟨c.kJ,bP,false⟩ ⟨xR.1,xR.2,by show bP.length≤64;omega,fun e=>by cases e⟩ (by omega)
 rw[if_neg k1,if_neg k1];by_cases k2:c.kd=2
 ·rw[if_pos k2,if_pos k2];have xR:=v4.resolve_left (fun e=>e.2 k2);exact put ⟨c.kJ,[],true⟩ ⟨xR.1,xR.2,Nat.zero_le _,fun _=>rfl⟩ (by omega)
 rw[if_neg k2,if_neg k2];by_cases k3:c.kd=3
 ·rw[if_pos k3,if_pos k3];have hle:=h.ook.Bt;have h8:o.ps.length*CW≤8*CW:=Nat.mul_le_mul_right _ hle;obtain⟨r,h1,h2,h3⟩:=rJ hg hform hc o.ps s o.su N ht hlen h.ook.ib h.pg (by omega);rw[h1];simp only;rcases h3 with⟨e1,e2,h3⟩|⟨e1,h4,j,hj,e2,h3⟩|⟨e1,j,hj,h3⟩
  ·rw[if_neg (by omega),e1,e2];refine⟨_,rfl,h2.mono (by omega),.inl ⟨rfl,rfl, ?_⟩⟩
   exact {
    t:=⟨t,h3.mono (by omega),htb⟩,boots:=h2.boots.trans h.boots,ps:=rfl,r:=h.r,dn:=h.dn,ook:=Ah h.ook
    len:=by show (((ee o.su o.ps).length:Nat):Int)=_;rw[df];exact hlen
    cv:=fun q hq=>by cases hq}
  ·rw[if_neg (by omega),e1,e2];exact⟨_,rfl,h2.mono (by omega),.inr (.inl ⟨rfl,rfl,rfl,by simp [k3],h4,j,hj,h.step htb (h3.mono (by omega)) h2.boots⟩)⟩
  ·rw[if_pos (.inr e1)];refine⟨_,rfl,h2.mono (by omega),.inr (.inr ⟨e1,h3.off,h3.eO,h2.boots.trans h.boots,fun cut=> ?_⟩)⟩;rcases h3.cd cut with h4|h4
   ·exact⟨o,.inl rfl,j,by omega,t,h4.mono (by omega),htb⟩
   ·exact⟨o,.inl rfl,j+1,by omega,t,h4.mono (by omega),htb⟩
 rw[if_neg k3,if_neg k3];by_cases k9:c.kd=9
 ·rw[if_pos k9,if_pos k9];exact⟨((⟨s,o.ps,o.r,dn⟩:Un),⟨0,[],o.r⟩,0),rfl,Kp.rfl _ _,.inl ⟨rfl,rfl,hmono⟩⟩
 rw[if_neg k9,if_neg k9];have Qr:=Ss o.r hh c;have hdg:=CV.doR hh c TX;by_cases hq:(doR o.r hh c).2≠0∨cZ (doR o.r hh c).1.cs o.r.cs=true
 ·rw[if_pos hq]
  have hsame:(doR o.r hh c).1=o.r:=by
   rcases hq with hq|hq
   ·exact Qr.2 hq
   ·exact CV.ext hdg.nz ((R.rF _ _).1 hq)
  rw[hsame];obtain⟨r,h1,h2,h3⟩:=plain ⟨(doR o.r hh c).2,[],R.zero⟩ Qr.1;refine⟨r,h1,h2,.inl ?_⟩;rw[h3];exact⟨rfl,rfl,hmono⟩
 rw[if_neg hq];have hq0:(doR o.r hh c).2=0:=Classical.byContradiction fun e=>hq (.inl e)
 rw[hq0];have M5:s.a.boots.toNat=b:=by rw[h.boots];rfl
 rw[M5];have hel:(gX (doR o.r hh c).1 b).length≤64:=by rw[vn];omega
 obtain⟨r,h1,h2,h3⟩:=Av hg hform hc ht (P7 (a:=o.su.length) (by omega) hel) rfl (by omega);rw[h1];have ecs:oL (vu o.su t) (Tm o.su.length (gX (doR o.r hh c).1 b)).aq (Tm o.su.length (gX (doR o.r hh c).1 b)).data=vu o.su (gX (doR o.r hh c).1 b):=So _;rw[ecs] at h3;simp only;have hok:(⟨o.su,o.ps,(doR o.r hh c).1⟩:Ob).ok:={h.ook with vl:=hdg.vl};rcases h3 with⟨e,h3⟩|⟨e,h3,h4⟩|⟨e,h3⟩
 ·rw[if_pos e];simp only;rw[if_neg (by omega)];refine⟨_,rfl,h2.mono (by omega),.inl ⟨rfl,rfl, ?_⟩⟩
  exact {
   t:=⟨_,h3.mono (by omega),wJ.enc hdg b⟩,boots:=h2.boots.trans h.boots,ps:=h.ps,r:=rfl,dn:=h.dn,ook:=hok,len:=hlen,cv:=h.cv}
 ·rw[if_neg (by omega)];simp only;rw[if_neg (by omega),e];refine⟨_,rfl,h2.mono (by omega),.inr (.inl ⟨rfl,rfl,rfl,by simp [k0,k9],h4,0,Nat.zero_le _, ?_⟩)⟩;exact {h with t:=⟨t,h3.mono (by omega),htb⟩,boots:=h2.boots.trans h.boots}
 ·rw[if_neg (by omega)];simp only;rw[if_pos (.inr e)];refine⟨_,rfl,h2.mono (by omega),.inr (.inr ⟨e,h3.off,h3.eO,h2.boots.trans h.boots,fun cut=> ?_⟩)⟩;rcases h3.cd cut with h4|h4
  ·exact⟨o,.inl rfl,0,by omega,t,h4.mono (by omega),htb⟩
  ·exact⟨_,.inr rfl,0,by omega,_,h4.mono (by omega),wJ.enc hdg b⟩
end
structure Up (g:ct) (a:Ar) (o:Ob) (ds:List Nat) (N b:Nat):Prop where
 t:∃t,Cr g a (vu o.su t) ds N∧wJ t b o.r
 on:a.off=false
 eO:a.eO=.no
 boots:a.boots=(b:Int)
 ps:o.ps=[]
 ook:o.ok
 len:(o.su.length:Int)=g.cap
section
variable {g:ct} {u:Un} {o o':Ob} {a:Ar} {ds:List Nat} {N b:Nat}
theorem Wh (hg:g.In) (hform:g.cY=true) (hc:g.cap<65000) (h:Ug g u o ds N b) (hN:N+9*CW<281474976710656):∃r,Xa g u=some r∧Kp u.s r.1.s (9*CW)∧((r.2=0∧Ug g r.1 (jK o) ds (N+9*CW) b)∨(r.2=10∧g.aH<r.1.s.f.po.count 3∧∃j,j≤o.ps.length∧Ug g r.1 (eQ o j) ds (N+9*CW) b)∨(r.2=9∧wK g r.1.s.a o (jK o) ds (N+9*CW) b)):=by
 obtain⟨s,ps,r,dn⟩:=u;have hr:=h.r;have hps:=h.ps;have hdn:=h.dn;simp only at hr hps hdn;subst hr hps hdn;obtain⟨t,ht,htb⟩:=h.t;have hlen:=h.len;have hle:=h.ook.Bt;have h8:o.ps.length*CW≤8*CW:=Nat.mul_le_mul_right _ hle;obtain⟨r,h1,h2,h3⟩:=rJ hg hform hc o.ps s o.su N ht hlen h.ook.ib h.pg (by omega);unfold Xa;rw[EH h];simp only[ne_eq,not_true_eq_false,if_false];rw[h1];simp only;rcases h3 with⟨e1,e2,h3⟩|⟨e1,h4,j,hj,e2,h3⟩|⟨e1,j,hj,h3⟩
 ·rw[e1,e2];refine⟨_,rfl,h2.mono (by omega),.inl ⟨rfl, ?_⟩⟩
  exact {
   t:=⟨t,h3.mono (by omega),htb⟩,boots:=h2.boots.trans h.boots,ps:=rfl,r:=rfl,dn:=rfl,ook:=Ah h.ook
   len:=by show (((ee o.su o.ps).length:Nat):Int)=_;rw[df];exact hlen
   cv:=fun q hq=>by cases hq}
 ·rw[e1,e2];exact⟨_,rfl,h2.mono (by omega),.inr (.inl ⟨rfl,h4,j,hj,h.step htb (h3.mono (by omega)) h2.boots⟩)⟩
 ·refine⟨_,rfl,h2.mono (by omega),.inr (.inr ⟨e1,h3.off,h3.eO,h2.boots.trans h.boots,fun cut=> ?_⟩)⟩;rcases h3.cd cut with h4|h4
  ·exact⟨o,.inl rfl,j,by omega,t,h4.mono (by omega),htb⟩
  ·exact⟨o,.inl rfl,j+1,by omega,t,h4.mono (by omega),htb⟩
theorem P8 {x:Int} (h0:0≤x) (h1:x<4611686018427387904):sd (x+1)=x+1:=bq (by omega) (by omega)
theorem wK.Su (h:wK g a o o' ds N b) (ho:o.ok) (ho':o'.ok) (hl:(o.su.length:Int)=g.cap) (hl':(o'.su.length:Int)=g.cap) (hb:b<2147483647) (cut:Int):∃q,(q=o∨q=o')∧∃i,i≤8∧Up g (cE a cut) (Cx (eQ q i) true) ds N (b+1):=by
 obtain⟨q,hq,i,hi,t,h1,h2⟩:=h.cd cut;refine⟨q,hq,i,hi, ?_⟩;have hqo:q.ok:=by rcases hq with rfl|rfl<;>assumption
 have hql:(q.su.length:Int)=g.cap:=by rcases hq with rfl|rfl<;>assumption
 have M5:(xl a cut).boots=a.boots:=by
  unfold xl;split
  ·rfl
  ·rfl
  ·split
   ·split<;>rfl
   ·rfl
  ·split
   ·rfl
   ·split
    ·rfl
    ·split<;>rfl
 exact {
  t:=⟨t,h1,h2.aai⟩
  on:=rfl
  eO:=rfl
  boots:=by
   show sd (a.boots+1)=_
   rw[h.boots,P8 (by omega) (by omega)];rfl
  ps:=rfl
  ook:=EB (KS hqo i) true
  len:=by show (((ee q.su (q.ps.take i)).length:Nat):Int)=_;rw[df];exact hql}
theorem Ug.Su (h:Ug g u o ds N b) (hb:b<2147483647) (cut:Int):Up g (cE u.s.a cut) (Cx o true) ds N (b+1):=by
 obtain⟨t,ht,htb⟩:=h.t;obtain⟨h1,h2⟩:=IK ht.eO cut
 exact {
  t:=⟨t,ht.cr.congr h1 h2,htb.aai⟩
  on:=rfl
  eO:=rfl
  boots:=by
   have hw:xl u.s.a cut=u.s.a:=by unfold xl;rw[ht.eO]
   show sd ((u.s.a).boots+1)=_
   rw[h.boots,P8 (by omega) (by omega)];rfl
  ps:=rfl
  ook:=EB h.ook true
  len:=h.len}
theorem Ug.leave (h:Ug g u o ds N b) (a:Ar) (hb:a.bs=u.s.a.bs) (hp:a.aA=u.s.a.aA) (ho:a.off=false) (hw:a.eO=.no) (M5:a.boots=u.s.a.boots):Up g a (Cx o false) ds N b:=by
 obtain⟨t,ht,htb⟩:=h.t
 exact {
  t:=⟨t,ht.cr.congr hb hp,htb⟩
  on:=ho
  eO:=hw
  boots:=M5.trans h.boots
  ps:=rfl
  ook:=EB h.ook false
  len:=h.len}
theorem Up.mount (h:Up g a o ds N b) (hg:g.In) (hc:0≤g.cap∧g.cap<65000) {ep:Nat} (he:1≤ep∧ep<281474976710656) (hf:a.aU≤ep) (hb:b<2147483648) (sq:Int→Nat):Kp (FS.xZ g a ep) (cF g sq a ep).1 0∧(((cF g sq a ep).2=0∧∃v,uM g (cF g sq a ep).1=some v∧v.s=(cF g sq a ep).1∧Ug g v o ds N b)∨((cF g sq a ep).2=9∧wK g (cF g sq a ep).1.a o o ds N b)):=by
 obtain⟨t,Xl,htb⟩:=h.t;have ac7:=(Xl.xZ hg hc h.on h.eO he hf).ok;have kp:=L8 hg (sq:=sq) ac7;have hlen:=h.len;refine⟨kp, ?_⟩;rcases Xl.mount hg hc h.on h.eO he hf sq with⟨h1,h2⟩|⟨h1,h2⟩
 ·left;refine⟨h1, ?_⟩;obtain⟨x,hx1,vD,_⟩:=h2.m9 g.cap.toNat;have hcap:g.cap.toNat=o.su.length:=by omega
  have hx3:x.data=t:=by rw[vD,hcap,Sp]
  have M5:(cF g sq a ep).1.a.boots=(b:Int):=kp.boots.trans h.boots;have cv:∀p∈o.ps,p.cv=true→p.data=[]:=fun p hp=>by rw[h.ps] at hp;cases hp
  unfold uM;rw[hx1];simp only;rcases htb with⟨e1,e2⟩|⟨r0,b0,e1,e2,e3,e4⟩
  ·rw[if_pos (by rw[hx3,e1];rfl)];exact⟨_,rfl,rfl,⟨t,h2,.inl ⟨e1,e2⟩⟩,M5,h.ps.symm,e2.symm,rfl,h.ook,hlen,cv⟩
  ·rw[if_neg (by rw[hx3,e1,vn];omega),hx3,e1,e2.acC (by omega)];refine⟨_,rfl,rfl,⟨t,h2,.inr ⟨r0,b0,e1,e2,e3,e4⟩⟩,M5,h.ps.symm, ?_,rfl,h.ook,hlen,cv⟩;show pd r0 (b0:Int) _=o.r
   rw[M5,e4]
 ·right;refine⟨h1,h2.off,h2.eO,kp.boots.trans h.boots,fun cut=> ?_⟩;have h3:=(h2.cd cut).elim id id;exact⟨o,.inl rfl,0,by omega,t,h3,htb⟩
end
end Go.Proofs.YtlgdkndamddpkaaGreat
end
section
namespace Go.Am
open Go.ChangeShapes Go.WideShapes Go.RowKit
def GX (W:World):Value→V
 | .bool b=>.bool b
 | .int k n=>.int k n
 | .string s=>.cG s
 | .pointer none=>.aj none
 | .pointer (some ⟨b,o,none⟩)=>if b<W.heap.size then .aj (some (b,o)) else .cv
 | .slice none n c=>.slice none n c
 | .slice (some a) 0 0=>.slice (some (a.block,a.off)) 0 0
 | .slice (some ⟨b,o,none⟩) n c=>if b<W.heap.size then .slice (some (b,o)) n c else .cv
 | .map none=>.map none
 | .nilFunc=>.nilFunc
 | .nilIface=>.nilIface
 | .iface t _=>.iface t .cv
 |_=>.cv
def Hs (W:World):Value→V
 | .agg cs=>if∀c∈cs.toList.map (GX W),c.one=true then .agg (cs.toList.map (GX W)) else .cv
 |v=>GX W v
def Sv (W:World):dD:=fun b=>if b<W.heap.size then some b else none
def gP (W:World):ag where
 get:=fun b=>match W.heap[b]? with
  |some (.cells cs e _)=>some (.cells e (cs.toList.map (GX W)) true)
  |_=>none
 next:=W.heap.size
theorem EI {W:World} {b:Nat} (h:b<W.heap.size):Sv W b=some b:=if_pos h
theorem KU (W:World) (x:Value):VR (Sv W) (GX W x) x:=by
 unfold GX;split
 ·exact .bool _
 ·exact .int _ _
 ·exact .cG _
 ·exact .Dj
 ·split
  ·rename_i h;exact .aj (EI h)
  ·exact .cv _
 ·exact .nA _ _
 ·exact .pL _ _
 ·split
  ·rename_i h;exact .slice _ _ (EI h)
  ·exact .cv _
 ·exact .yD
 ·exact .nilFunc
 ·exact .nilIface
 ·exact .iface _ (.cv _)
 ·exact .cv _
theorem GY (W:World) (l:List Value):eM (Sv W) (l.map (GX W)) l:=by
 refine⟨by simp,fun i x y hx hy=> ?_⟩;rw[List.getElem?_map,hy,Option.map_some,Option.some.injEq] at hx;subst hx;exact KU W y
theorem Sw (W:World) (x:Value):VR (Sv W) (Hs W x) x:=by
 unfold Hs;split
 ·split
  ·rename_i cs h;exact .vK h (GY W _)
  ·exact .cv _
 ·exact KU W _
theorem P9 (W:World) (l:List Value):eM (Sv W) (l.map (Hs W)) l:=by
 refine⟨by simp,fun i x y hx hy=> ?_⟩;rw[List.getElem?_map,hy,Option.map_some,Option.some.injEq] at hx;subst hx;exact Sw W y
theorem mc {W:World} {b:Nat} {o:Obj} (h:(gP W).get b=some o):∃cs e fz,W.heap[b]? =some (.cells cs e fz)∧o=.cells e (cs.toList.map (GX W)) true:=by
 simp only[gP] at h;split at h
 ·rename_i cs e fz hb;cases h;exact⟨cs,e,fz,hb,rfl⟩
 ·cases h
theorem MC (W:World) (hgl:∀g∈Nj,g<W.heap.size):HR (Sv W) (gP W) W where
 gl:=fun g hg=>EI (hgl g hg)
 wW:=fun b o h=>by
  obtain⟨cs,e,fz,hb,rfl⟩:=mc h
  have hlt:b<W.heap.size:=by
   rcases Nat.lt_or_ge b W.heap.size with h|h
   ·exact h
   ·rw[Array.getElem?_eq_none h] at hb;cases hb
  refine⟨b,EI hlt,cs,fz,hb,GY W _, ?_, ?_⟩
  ·intro h;cases h
  ·intro h;cases h
 inj:=fun id id' o o' b h _ hr _ _=>by
  obtain⟨cs,e,fz,hb,rfl⟩:=mc h;cases hr
 lt:=fun id b h=>by
  unfold Sv at h;split at h
  ·rename_i hlt;cases h;exact⟨hlt,hlt⟩
  ·cases h
theorem GZ {W W':World} {H':ag} {ρ':dD} (h:lF (gP W) (Sv W) W H' ρ' W'):Below W.heap.size W W' where
 os:=h.os
 tape:=h.tape
 output:=h.output
 size:=h.size
 block:=fun k hk=>h.frame k hk (by
  rintro⟨id,o,h1,h2,_⟩;obtain⟨cs,e,fz,hb,rfl⟩:=mc h1
  cases h2)
def Aw (P:Program) (H:ag):Nat→TypeId→List V→Prop
 |0,_,_=>False
 |n+1,t,cs=>match P.underlying t with
  |some .bool=>∃b,cs=[.bool b]
  |some (.int k)=>∃x,cs=[.int k x]∧k.min≤x∧x≤k.max
  |some .string=>∃s,cs=[.cG s]∧s.size≤maxLen
  |some (.slice e)=>0<P.cellsOf e→∃p len cap,cs=[.slice p len cap]∧len≤cap∧cap≤maxLen∧(p=none→cap=0)∧
   ∀i,i<cap→∃id off,p=some (id,off)∧id<H.next∧H.inb id (off+i*P.cellsOf e) (P.cellsOf e)=true∧Aw P H n e (H.sub id (off+i*P.cellsOf e) (P.cellsOf e))
  |some (.struct fs)=>cs.length=P.cellsOf t∧∀f∈fs.toList,Aw P H n f.type ((cs.drop f.offset).take (P.cellsOf f.type))
  |some (.array m e)=>cs.length=P.cellsOf t∧∀i,i<m→Aw P H n e ((cs.drop (i*P.cellsOf e)).take (P.cellsOf e))
  |_=>True
theorem G0 {α β:Type} {f:α→Option β}:∀{l:List α} {r:List β},l.mapM f=some r→r.length=l.length∧∀(i:Nat) x,l[i]? =some x→∃y,r[i]? =some y∧f x=some y
 |[],r,h=>by simp at h;subst h;exact⟨rfl,fun i x hx=>by simp at hx⟩
 |a::l,r,h=>by
  rw[List.mapM_cons] at h
  cases ha:f a with
  |none=>simp [ha] at h
  |some y=>
   cases hl:l.mapM f with
   |none=>simp [ha,hl] at h
   |some m=>
    simp [ha,hl] at h;subst h;obtain⟨h1,h2⟩:=G0 hl;refine⟨by simp [h1],fun i x hx=> ?_⟩
    cases i with
    |zero=>simp at hx;subst hx;exact⟨y,rfl,ha⟩
    |succ i=>exact h2 i x (by simpa using hx)
theorem CL {W:World} {aV n:Nat} {a:Addr} {cs:List Value} (h:W.cells? aV a n=some cs) (hn:0<n):a.spot=none∧a.block<W.heap.size∧(gP W).inb a.block a.off n=true∧(gP W).sub a.block a.off n=cs.map (GX W):=by
 unfold World.cells? at h;split at h;rotate_left
 ·cases h
 obtain⟨hlen,hall⟩:=G0 h;simp only[List.length_range] at hlen;have hcell:∀i,i<n→∃y,cs[i]? =some y∧W.cell? (a.add i)=some y:=fun i hi=>hall i i (by simp [hi])
 obtain⟨y0,_,h0⟩:=hcell 0 hn
 have Qw:∃cs' e fz,W.heap[a.block]? =some (.cells cs' e fz)∧a.spot=none:=by
  simp only[World.cell?,Addr.add] at h0;revert h0
  cases hb:W.heap[a.block]? with
  |none=>intro h0;simp [hb] at h0
  |some o=>
   cases o with
   |cells cs' e fz=>
    intro h0
    cases hsp:a.spot with
    |none=>exact⟨cs',e,fz,rfl,rfl⟩
    |some s=>simp [hb,hsp] at h0
   |_=>intro h0;simp [hb] at h0
 obtain⟨cs',e,fz,hb,hsp⟩:=Qw
 have hlt:a.block<W.heap.size:=by
  rcases Nat.lt_or_ge a.block W.heap.size with h|h
  ·exact h
  ·rw[Array.getElem?_eq_none h] at hb;cases hb
 have oU:(gP W).get a.block=some (.cells e (cs'.toList.map (GX W)) true):=by simp only[gP,hb]
 have rP:∀i,i<n→∃y,cs[i]? =some y∧cs'[a.off+i]? =some y:=by
  intro i hi;obtain⟨y,h1,h2⟩:=hcell i hi;refine⟨y,h1, ?_⟩
  have:a.add i=⟨a.block,a.off+i,none⟩:=by
   obtain⟨b,o,s⟩:=a;cases hsp;exact gf _ _ _
  rw[this,qS hb] at h2;exact h2
 have hle:a.off+n≤cs'.size:=by
  obtain⟨y,_,h2⟩:=rP (n-1) (by omega);rcases Nat.lt_or_ge (a.off+(n-1)) cs'.size with h|h
  ·omega
  ·rw[Array.getElem?_eq_none h] at h2;cases h2
 refine⟨hsp,hlt,by simp [ag.inb,oU];omega, ?_⟩;simp only[ag.sub,ag.cs,oU];apply List.ext_getElem?;intro i;rw[List.getElem?_take,List.getElem?_drop];by_cases hi:i<n
 ·rw[if_pos hi];obtain⟨y,h1,h2⟩:=rP i hi;simp [h1,h2]
 ·rw[if_neg hi];rw[List.getElem?_eq_none];simp;omega
section
variable {H:Type} {enc:TypeId×Value→H} {P:Program} {W:World} {aV:Nat} {held:Bool}
theorem MD {k:IntKind} {n:Int} (h:(Lit.int k n).wf=true):k.min≤n∧n≤k.max:=by
 simpa only[Lit.wf,Bool.and_eq_true,decide_eq_true_eq] using h
theorem ME {a:Addr} {n c:Nat} (hs:a.spot=none) (hb:a.block<W.heap.size):GX W (.slice (some a) n c)=.slice (some (a.block,a.off)) n c:=by
 obtain⟨b,o,s⟩:=a;simp only at hs hb;subst hs
 cases n with
 |zero=>cases c with
  |zero=>rfl
  |succ c=>exact if_pos hb
 |succ n=>exact if_pos hb
theorem Sx:∀(fuel:Nat) (t:TypeId) (cs:List Value) (d:DataW H) (ps:List MemPlace),DataW.trod enc P W aV (fun _=>true) held fuel t cs=some (d,ps)→Aw P (gP W) fuel t (cs.map (GX W)):=by
 intro fuel
 induction fuel with
 |zero=>intro t cs d ps h;simp [DataW.trod] at h
 |succ n ih=>
  intro t cs d ps h;unfold Aw;split
  ·rename_i hu;obtain⟨b,rfl,_⟩:=DataW.trod_bool hu h;exact⟨b,rfl⟩
  ·rename_i k hu;obtain⟨x,rfl,_,hw⟩:=DataW.trod_int hu h;exact⟨x,rfl,MD hw⟩
  ·rename_i hu;obtain⟨s,rfl,_,hs⟩:=DataW.trod_string hu h;exact⟨s,rfl,hs⟩
  ·rename_i e hu;intro hpos;rcases DataW.trod_slice hu h with⟨rfl,_⟩|⟨a,len,cap,elems,rest,m,hm,rfl,_,_,hle,WZ,hel,hE,hR,_⟩
   ·exact⟨none,0,0,rfl,Nat.le_refl _,Nat.zero_le _,fun _=>rfl,fun i hi=>by omega⟩
   ·cases hm;obtain⟨hrl,hR⟩:=hR rfl
    have hall:∀i,i<cap→∃cs' y,W.cells? aV (a.add (i*P.cellsOf e)) (P.cellsOf e)=some cs'∧DataW.trod enc P W aV (fun _=>true) held n e cs'=some y:=by
     intro i hi;by_cases hl:i<len
     ·have h1:=hE i hl;rw[List.getElem?_eq_getElem (by omega),Option.bind_eq_some_iff] at h1;obtain⟨cs',h1,h2⟩:=h1;exact⟨cs',_,h1,h2⟩
     ·have h1:=hR (i-len) (by omega);rw[List.getElem?_eq_getElem (by omega),Option.bind_eq_some_iff,show len+(i-len)=i by omega] at h1;obtain⟨cs',h1,h2⟩:=h1;exact⟨cs',_,h1,h2⟩
    by_cases hc:cap=0
    ·subst hc;have:len=0:=by omega
     subst this;refine⟨some (a.block,a.off),0,0, ?_,Nat.le_refl _,Nat.zero_le _,(fun _=>rfl),fun i hi=>by omega⟩;obtain⟨b,o,s⟩:=a;cases s<;>rfl
    ·obtain⟨cs0,y0,h0,_⟩:=hall 0 (by omega);have hz:a.add (0*P.cellsOf e)=a:=by simp [Addr.add]
     rw[hz] at h0;obtain⟨hs,hb,_,_⟩:=CL h0 hpos;refine⟨some (a.block,a.off),len,cap,by rw[List.map_cons,List.map_nil,ME hs hb],hle,WZ,fun h=>(by cases h),fun i hi=> ?_⟩;obtain⟨cs',y,h1,h2⟩:=hall i hi
     have ac8:a.add (i*P.cellsOf e)=⟨a.block,a.off+i*P.cellsOf e,none⟩:=by
      obtain⟨b,o,s⟩:=a;cases hs;exact gf _ _ _
     rw[ac8] at h1;obtain⟨_,_,h3,h4⟩:=CL h1 hpos;refine⟨a.block,a.off,rfl,hb,h3, ?_⟩;rw[h4];exact ih e cs' y.1 y.2 h2
  ·rename_i fs hu;obtain⟨xs,m,hm,_,hl,hxl,hF⟩:=DataW.trod_struct hu h;cases hm;refine⟨by simpa using hl,fun f hf=> ?_⟩;obtain⟨i,hi,SG⟩:=List.getElem_of_mem hf
   have hi':fs[i]? =some f:=by
    rw[←Array.getElem?_toList,List.getElem?_eq_getElem hi,SG]
   have h1:=hF i f hi';have Wp:i<xs.length:=by rw[hxl];simpa using hi
   rw[List.getElem?_eq_getElem Wp] at h1;have:=ih _ _ _ _ h1;rw[List.map_take,List.map_drop] at this;exact this
  ·rename_i m e hu;obtain⟨xs,m',hm,_,hl,hxl,hF⟩:=DataW.trod_array hu h;cases hm;refine⟨by simpa using hl,fun i hi=> ?_⟩;have h1:=hF i hi;rw[List.getElem?_eq_getElem (by omega)] at h1;have:=ih _ _ _ _ h1;rw[List.map_take,List.map_drop] at this;exact this
  ·trivial
theorem Sy {cs:Array Value} (h:∀c∈cs.toList.map (GX W),c.one=true):Hs W (.agg cs)=.agg (cs.toList.map (GX W)):=if_pos h
theorem Sz {x:Value} (h:∀cs,x≠ .agg cs):Hs W x=GX W x:=by
 unfold Hs;split
 ·exact absurd rfl (h _)
 ·rfl
end
section
variable {H:Type} {enc:TypeId×Value→H} {P:Program}
theorem Bu {f:Func} {s:ChangeSpec} {gw fresh handsOn again:Bool} {W W':World} {args:Array Value} {v:Value} {ds gs:List (DataW H)} {before pa pv:List MemPlace} (hW:DataW.Whole enc P f.params.toList s.vars gw W args.toList ds gs before) (hres:∀(b:Nat) (sp:Nat→Bool) (hd:Bool),DataW.TrodAll enc P W' b sp hd f.resultTypes.toList (v.resultList f.resultTypes.size) (s.fn H (ds++gs)).results []) (hargs:∀sp:Nat→Bool,(∀p∈before,sp p.block=true)→DataW.TrodAll enc P W' 0 sp true f.params.toList args.toList (s.fn H (ds++gs)).args pa) (hvars:∀sp:Nat→Bool,(∀p∈before,sp p.block=true)→DataW.TrodVars enc P W' sp s.vars (s.fn H (ds++gs)).vars pv) (hps:before=pa++pv) (hb:Below W.heap.size W W') (hok:∀(j:Nat) (t:TypeId) (r:Value),f.resultTypes[j]? =some t→(v.resultList f.resultTypes.size)[j]? =some r→Value.okWide P W' .any 0 t r):s.post enc P f gw fresh handsOn again W args v W':=by
 have hlt:∀p∈before,p.block<W.heap.size:=fun p hp=>hW.lt p hp
 have hold:∀p∈before,(fun b=>decide (b<W.heap.size)) p.block=true:=fun p hp=>by simpa using hlt p hp
 refine⟨ds,gs,before,[],pa,pv,hW,hres _ _ _,hargs _ hold,hvars _ hold,World.keptBut_mono (fun p hp=>⟨hp, ?_⟩) (hb.frame (· ∈before)),fun _=> ?_⟩
 ·rw[hps,List.mem_append] at hp;exact Or.inr hp
 ·obtain⟨_,_,_,_,_,hz,hn⟩:=hW;refine⟨hok,_,_,([]++pa)++pv,⟨[]++pa,pv,trodAll_append (hargs _ (fun _ _=>rfl)) (hres _ _ _),hvars _ (fun _ _=>rfl),rfl, ?_, ?_⟩, ?_⟩
  ·intro b off hp;have hin:MemPlace.cell b off∈before:=by rw[hps];simpa using hp
   rw[hb.frozen (hlt _ hin)];exact hz b off hin
  ·intro ha;have:=hn ha;rw[hps] at this;simpa using this
  ·intro p hp _;rw[hps];simpa using hp
end
section
variable {H:Type} {enc:TypeId×Value→H} {P:Program} {W:World}
theorem sl (hl:laidOutB P=true) {W':World} (hb:Below W.heap.size W W') {sp:Nat→Bool}:∀{ts:List TypeId} {vs:List Value} {ds:List (DataW H)} {p:List MemPlace},(∀t∈ts,P.readableRec t=true∧t<P.types.size)→(∀x∈p,sp x.block=true)→(∀x∈p,x.block<W.heap.size)→DataW.TrodAll enc P W 0 (fun _=>true) true ts vs ds p→DataW.TrodAll enc P W' 0 sp true ts vs ds p
 |[],vs,ds,p,_,_,_,h=>by
  obtain⟨rfl,rfl,rfl⟩:=trodAll_nil h;exact trodAll_mk0
 |t::ts,vs,ds,p,ht,hs,hlt,h=>by
  obtain⟨v,vs1,d,ds1,a,b,rfl,rfl,rfl,h1,h2⟩:=trodAll_cons h;refine trodAll_cons_mk ?_ (sl hl hb (fun u hu=>ht u (List.mem_cons_of_mem _ hu)) (fun x hx=>hs x (List.mem_append_right _ hx)) (fun x hx=>hlt x (List.mem_append_right _ hx)) h2);refine WideElems.Trod_stays hl (ht t (List.mem_cons_self ..)).1 (ht t (List.mem_cons_self ..)).2 h1 (fun x hx=> ?_) (fun x hx=>hs x (List.mem_append_left _ hx));have hx':=hlt x (List.mem_append_left _ hx)
  cases x with
  |cell b o=>exact hb.cell (p:=⟨b,o,none⟩) hx'
  |map b=>exact hb.block b hx'
theorem qH {t:TypeId} {v:Value} {d:DataW H} {p:List MemPlace} (h:DataW.Trod enc P W 0 (fun _=>true) true t v d p):∃n,Aw P (gP W) n t (v.cells.toList.map (GX W)):=by
 obtain⟨n,hn⟩:=h;exact⟨n,Sx n t _ _ _ hn⟩
theorem G1 {E:kz} (hX:jZ E) (hm:E.P.follows .mixedOrders=true) (hl:laidOutB E.P=true) {f:FuncId} {fn:Func} {s:ChangeSpec} {gw fresh handsOn again:Bool} {args:Array Value} {ds gs:List (DataW H)} {before:List MemPlace} {tb:TypeId} (hb:E.P.underlying tb=some .bool) (hpar:∀t∈fn.params.toList,E.P.readableRec t=true∧t<E.P.types.size) (hres:fn.resultTypes= #[tb]) (hv:s.vars=[]) (hs:∀ds:List (DataW H),ds.length=fn.params.size→s.fn H ds={results:=[.lit (.bool true)],args:=ds}) (hW:DataW.Whole enc E.P fn.params.toList s.vars gw W args.toList ds gs before) (hc:(rT E).call f (args.toList.map (Hs W)) (gP W) fun v _=>v=.bool true) (hgl:∀g∈Nj,g<W.heap.size:=by intro g hg;cases hg):
 Calls E.P f args W fun e W'=>∃v,e=.returned v∧s.post enc E.P fn gw fresh handsOn again W args v W':=by
 refine((BS hX hm).call _ _ _ _ hc (Sv W) W args (MC W hgl) (P9 W _)).mono ?_;rintro e W' ⟨v,v',H',ρ',rfl,rfl,hv',_,W0⟩;have Bx:=GZ W0;refine⟨v',rfl, ?_⟩;rw[hv'.Dk];have hW0:=hW;obtain⟨p,q,hA,hV,hpq,hfz,vx⟩:=hW;rw[hv] at hV;obtain⟨rfl,rfl⟩:=trodVars_none hV;simp only[List.append_nil] at hpq;subst hpq
 have hlen:ds.length=fn.params.size:=by
  have key:∀{ts:List TypeId} {vs:List Value} {ds:List (DataW H)} {p:List MemPlace},DataW.TrodAll enc E.P W 0 (fun _=>true) true ts vs ds p→ds.length=ts.length:=by
   intro ts
   induction ts with
   |nil=>intro vs ds p h;obtain⟨_,rfl,_⟩:=trodAll_nil h;rfl
   |cons t ts ih=>
    intro vs ds p h;obtain⟨v,vs1,d,ds1,a,b,rfl,rfl,rfl,_,h2⟩:=trodAll_cons h;simp [ih h2]
  simpa using key hA
 have hsp:=hs ds hlen;have hlt:∀x∈before,x.block<W.heap.size:=fun x hx=>hW0.lt x hx
 refine Bu (pa:=before) (pv:=[]) hW0 (fun b sp hd=> ?_) (fun sp ac9=> ?_) (fun sp _=> ?_) (by simp) Bx ?_
 ·rw[List.append_nil,hsp,hres];exact trodAll_cons_mk (p:=[]) (p':=[]) (shut_bool hb true) trodAll_mk0
 ·rw[List.append_nil,hsp];exact sl hl Bx hpar ac9 hlt hA
 ·rw[List.append_nil,hsp,hv];rfl
 ·exact ok_one hres rfl (okWide_bool_mk hb true)
theorem I7 {t:TypeId} {d:TypeDesc} {r:Reach} {aV:Nat} {cs:Array Value} (hu:P.underlying t=some d) (hd:iK d=false) (h:Value.okWide P W r aV t (.agg cs)):False:=by
 cases d<;>simp [iK] at hd<;>simp [Value.okWide,hu,Cell.okWide,Cell.ok] at h
theorem CM {t:TypeId} {d:TypeDesc} {r:Reach} {aV:Nat} {v:Value} (hu:P.underlying t=some d) (hd:iK d=false) (h:Value.okWide P W r aV t v):v.cells.toList.map (GX W)=[Hs W v]:=by
 have hn:∀cs,v≠ .agg cs:=by rintro cs rfl;exact I7 hu hd h
 rw[Sz hn];cases v<;>first|rfl|exact absurd rfl (hn _)
variable {r:Reach} {aV:Nat} {v:Value} {d:DataW H} {p:List MemPlace} {t:TypeId}
theorem KV {k:IntKind} (hu:P.underlying t=some (.int k)) (hval:Value.okWide P W r aV t v) (h:DataW.Trod enc P W 0 (fun _=>true) true t v d p):∃x,Hs W v=.int k x∧k.min≤x∧x≤k.max:=by
 obtain⟨n,hn⟩:=qH h;rw[CM hu rfl hval] at hn
 cases n with
 |zero=>exact hn.elim
 |succ n=>
  simp only[Aw,hu] at hn;obtain⟨x,hx,hr⟩:=hn;exact⟨x,by simpa using hx,hr⟩
theorem I8 {fs:Array Field} (hu:P.underlying t=some (.struct fs)) (hval:Value.okWide P W r aV t v) (h:DataW.Trod enc P W 0 (fun _=>true) true t v d p):∃cs n,Aw P (gP W) n t cs∧((∀c∈cs,c.one=true)→Hs W v=.agg cs):=by
 obtain⟨n,hn⟩:=qH h;simp only[Value.okWide,hu] at hval;obtain⟨cs,rfl,_⟩:=hval;exact⟨_,n,hn,fun h1=>Sy h1⟩
end
section
variable {P:Program} {H:ag} {n:Nat} {t:TypeId} {x:V}
theorem jM {k:IntKind} (hu:P.underlying t=some (.int k)) (h:Aw P H n t [x]):∃y,x=.int k y∧k.min≤y∧y≤k.max:=by
 cases n with
 |zero=>exact h.elim
 |succ n=>
  simp only[Aw,hu] at h;obtain⟨y,hy,hr⟩:=h;exact⟨y,by simpa using hy,hr⟩
theorem yg (hu:P.underlying t=some .bool) (h:Aw P H n t [x]):∃y,x=.bool y:=by
 cases n with
 |zero=>exact h.elim
 |succ n=>
  simp only[Aw,hu] at h;obtain⟨y,hy⟩:=h;exact⟨y,by simpa using hy⟩
def MF (P:Program) (H:ag) (e:TypeId) (q:Oq) (len cap:Nat):Prop:=
 len≤cap∧cap≤maxLen∧(q=none→cap=0)∧
  ∃n,∀i,i<cap→∃id off,q=some (id,off)∧id<H.next∧H.inb id (off+i*P.cellsOf e) (P.cellsOf e)=true∧Aw P H n e (H.sub id (off+i*P.cellsOf e) (P.cellsOf e))
theorem Ax {e:TypeId} (hu:P.underlying t=some (.slice e)) (hpos:0<P.cellsOf e) (h:Aw P H n t [x]):∃q len cap,x=.slice q len cap∧MF P H e q len cap:=by
 cases n with
 |zero=>exact h.elim
 |succ n=>
  simp only[Aw,hu] at h;obtain⟨q,len,cap,hx,h1,h2,h3,h4⟩:=h hpos;exact⟨q,len,cap,by simpa using hx,h1,h2,h3,n,h4⟩
theorem CN {fs:Array Field} {cs:List V} (hu:P.underlying t=some (.struct fs)) (h:Aw P H n t cs):cs.length=P.cellsOf t∧∃m,∀f∈fs.toList,Aw P H m f.type ((cs.drop f.offset).take (P.cellsOf f.type)):=by
 cases n with
 |zero=>exact h.elim
 |succ n=>
  simp only[Aw,hu] at h;exact⟨h.1,n,h.2⟩
end
section
variable {H:Type} {enc:TypeId×Value→H} {P:Program} {W:World} {r:Reach} {aV:Nat} {v:Value} {d:DataW H} {p:List MemPlace} {t:TypeId}
theorem MG {e:TypeId} (hu:P.underlying t=some (.slice e)) (hpos:0<P.cellsOf e) (hval:Value.okWide P W r aV t v) (h:DataW.Trod enc P W 0 (fun _=>true) true t v d p):∃q len cap,Hs W v=.slice q len cap∧MF P (gP W) e q len cap:=by
 obtain⟨n,hn⟩:=qH h;rw[CM hu rfl hval] at hn;exact Ax hu hpos hn
end
end Go.Am
end
section
namespace Go.Am
theorem Qa (W:World):az (gP W) (gP W) []:=by
 refine az.start ?_ ?_
 ·intro id o h;obtain⟨cs,e,fz,hb,rfl⟩:=mc h;show id<W.heap.size
  rcases Nat.lt_or_ge id W.heap.size with h|h
  ·exact h
  ·rw[Array.getElem?_eq_none h] at hb;cases hb
 ·intro id o h;obtain⟨cs,e,fz,hb,rfl⟩:=mc h;exact⟨e,_,rfl⟩
theorem yh {H:ag} {id off n:Nat} (h:H.inb id off n=true):∃e l ro,H.get id=some (.cells e l ro)∧off+n≤l.length:=by
 unfold ag.inb at h;split at h
 ·rename_i e l ro hg;exact⟨e,l,ro,hg,by simpa using h⟩
 ·cases h
theorem G2 {P:Program} {H:ag} {t:TypeId} {q:Oq} {len cap:Nat} (hu:P.underlying t=some (.int .u8)) (hc:P.cellsOf t=1) (h:MF P H t q len cap):
 ∃bs:List UInt8,bs.length=len∧lO H q bs∧len≤cap∧len≤maxLen:=by
 obtain⟨h1,WZ,_,n,h2⟩:=h;rw[hc] at h2
 have key:∀i,∃b:UInt8,i<len→∃id off,q=some (id,off)∧H.inb id (off+i) 1=true∧H.sub id (off+i) 1=[.int .u8 (b.toNat:Int)]:=by
  intro i;by_cases hi:i<len
  ·obtain⟨id,off,e1,_,e3,e4⟩:=h2 i (by omega);simp only[Nat.mul_one] at e3 e4
   have hl:∃x,H.sub id (off+i) 1=[x]:=by
    obtain⟨e,l,ro,hg,hle⟩:=yh e3;have:(H.sub id (off+i) 1).length=1:=by rw[kT hg];simp;omega
    match hs:H.sub id (off+i) 1,this with
    |[x],_=>exact⟨x,rfl⟩
   obtain⟨x,hx⟩:=hl;rw[hx] at e4;obtain⟨y,rfl,hy1,TC⟩:=jM (P:=P) hu e4;have m1:IntKind.u8.min=0:=by decide
   have m2:IntKind.u8.max=255:=by decide
   rw[m1] at hy1;rw[m2] at TC;refine⟨UInt8.ofNat y.toNat,fun _=>⟨id,off,e1,e3, ?_⟩⟩;rw[hx];simp;omega
  ·exact⟨0,fun h=>absurd h hi⟩
 refine⟨(List.range len).map fun i=>Classical.choose (key i),by simp, ?_,h1,by omega⟩;by_cases h0:len=0
 ·subst h0;exact .inl rfl
 ·obtain⟨id,off,e1,e2,_⟩:=Classical.choose_spec (key 0) (by omega);obtain⟨e,l,ro,hg,_⟩:=yh e2;refine .inr ⟨id,off,e,l,ro,e1,hg, ?_⟩;apply List.ext_getElem?;intro i;rw[oI,List.length_map,List.length_range,List.getElem?_take];by_cases hi:i<len
  ·obtain⟨id',off',QP,Xm,e3'⟩:=Classical.choose_spec (key i) hi;rw[e1] at QP;cases QP;rw[kT hg] at e3';rw[if_pos hi,List.getElem?_drop];simp only[bj,List.map_map,List.getElem?_map,List.getElem?_range hi,Option.map_some,Function.comp];have:=congrArg (fun m=>m[0]?) e3';simpa using this
  ·rw[if_neg hi];simp [bj,hi]
theorem CO {l:List V} {off n:Nat} {f:Nat→List V}:∀(len:Nat),(∀i,i<len→(l.drop (off+i*n)).take n=f i∧(f i).length=n)→(l.drop off).take (len*n)=((List.range len).map f).flatten
 |0,_=>by simp
 |k+1,h=>by
  rw[List.range_succ,List.map_append,List.flatten_append, ←CO k (fun i hi=>h i (by omega))];rw[Nat.add_mul,Nat.one_mul,List.take_add,List.drop_drop,(h k (by omega)).1];simp
theorem SA {P:Program} {H:ag} {t:TypeId} {q:Oq} {len cap n:Nat} (hc:P.cellsOf t=n) (h:MF P H t q len cap):∃(css:List (List V)) (m:Nat),css.length=len∧Rd H q css.flatten∧(∀c∈css,c.length=n∧Aw P H m t c)∧len≤cap∧len≤maxLen:=by
 obtain⟨h1,WZ,_,m,h2⟩:=h;rw[hc] at h2
 have key:∀i,∃c:List V,i<len→∃id off,q=some (id,off)∧H.inb id (off+i*n) n=true∧H.sub id (off+i*n) n=c∧c.length=n∧Aw P H m t c:=by
  intro i;by_cases hi:i<len
  ·obtain⟨id,off,e1,_,e3,e4⟩:=h2 i (by omega);refine⟨_,fun _=>⟨id,off,e1,e3,rfl, ?_,e4⟩⟩;obtain⟨e,l,ro,hg,hle⟩:=yh e3;rw[kT hg];simp;omega
  ·exact⟨[],fun h=>absurd h hi⟩
 refine⟨(List.range len).map fun i=>Classical.choose (key i),m,by simp, ?_, ?_,h1,by omega⟩
 ·by_cases h0:len=0
  ·subst h0;exact .inl rfl
  ·obtain⟨id,off,e1,e2,_⟩:=Classical.choose_spec (key 0) (by omega);obtain⟨e,l,ro,hg,_⟩:=yh e2;refine .inr ⟨id,off,e,l,ro,e1,hg, ?_⟩
   have TY:=CO (l:=l) (off:=off) (n:=n) (f:=fun i=>Classical.choose (key i)) len (fun i hi=>by
    obtain⟨id',off',QP,_,e3',e4',_⟩:=Classical.choose_spec (key i) hi;rw[e1] at QP;cases QP;rw[kT hg] at e3'
    exact⟨e3',e4'⟩)
   have hlen:((List.range len).map fun i=>Classical.choose (key i)).flatten.length=len*n:=by
    rw[←TY,List.length_take,List.length_drop];obtain⟨id',off',QP,Xm,_⟩:=Classical.choose_spec (key (len-1)) (by omega);rw[e1] at QP;cases QP;rw[dF hg] at Xm;have:=Nat.le_of_ble_eq_true Xm;have e:(len-1)*n+n=len*n:=by rw[←Nat.succ_mul];congr 1;omega
    omega
   rw[hlen];exact TY
 ·intro c hc;obtain⟨i,hi,rfl⟩:=List.mem_map.1 hc;obtain⟨_,_,_,_,_,e4,e5⟩:=Classical.choose_spec (key i) (List.mem_range.1 hi);exact⟨e4,e5⟩
end Go.Am
end
section
namespace Go.Proofs.YtlgdkndamddpkaaGreat
open Go.Am
structure Ac where
 ho:Int
 kd:Int
 lb:Int
 ky:Int
 nw:Int
 ty:Int
 su:Bool
 ow:Bool
 q:Oq
 c:Nat
 d:List UInt8
 n:Int
def Ac.cs (a:Ac):List V:=c37 a.ho a.kd a.lb a.ky a.nw a.ty a.su a.ow a.q a.d.length a.c a.n
structure Ac.ok (B:ag) (a:Ac):Prop where
 ho:0≤a.ho∧a.ho≤255
 kd:0≤a.kd∧a.kd≤255
 lb:0≤a.lb∧a.lb≤255
 ky:0≤a.ky∧a.ky≤255
 nw:0≤a.nw∧a.nw≤255
 ty:0≤a.ty∧a.ty≤255
 rd:lO B a.q a.d
 n:0≤a.n∧a.n≤255
def KW (i:Nat):Int:=[0,0,1,1,1,2,3,4,4,5,6,7,8,9].getD i 0
def Ty (i:Nat):Int:=[1,3,5,6,7,8].getD i 0
theorem Qb {i:Nat} (h:i<14):0≤KW i∧KW i≤9:=by
 have hh:i=0∨i=1∨i=2∨i=3∨i=4∨i=5∨i=6∨i=7∨i=8∨i=9∨i=10∨i=11∨i=12∨i=13:=by omega
 rcases hh with h|h|h|h|h|h|h|h|h|h|h|h|h|h<;>subst h<;>decide
def Ac.bP (a:Ac):List UInt8:=if a.d.length≤64 then a.d else []
def Ac.cm (a:Ac) (r:R) (n:Int):Cm:=
 ⟨KW (a.kd % 14).toNat,a.lb % n,if a.d.length≤64 then a.q else none,if a.d.length≤64 then a.d.length else 0,if a.d.length≤64 then a.c else 0,a.su,
  if a.ow=true then r.k (a.ho % 4).toNat else a.ky % 4,a.nw % 4,Ty (a.ty % 6).toNat,a.su⟩
theorem Ac.Tz (a:Ac) (r:R) (n:Int):(a.cm r n).dn=a.bP.length:=by unfold Ac.cm Ac.bP;split<;>simp [*]
theorem Ac.TA {B:ag} {L:List cA} {a:Ac} (ha:a.ok B) (r:R) (n:Int):kU B L (a.cm r n).dp a.bP:=by
 unfold Ac.cm Ac.bP;by_cases h:a.d.length≤64
 ·simp only[h,if_true];exact kU.of ha.rd
 ·simp only[h,if_false];exact kU.nil _ _ _
theorem Ac.aaj (a:Ac) (r:R) (n:Int) (ha:0≤a.kd∧a.kd≤255):0≤(a.cm r n).kd∧(a.cm r n).kd≤9:=Qb (by omega)
section
variable {B:ag} {L:List cA} {H:ag} {K:V→ag→Prop} {oid mid:Nat} {o:Ob}
theorem Wi (h:az B H L) {a:Ac} (ha:a.ok B) (r:R) {n:Int} (hn:1≤n) (hn2:n≤1000000) (k:∀H',az B H' L→K (.tuple [.int .i64 (a.ho % 4),.agg (a.cm r n).cs]) H'):cl 14 [.agg a.cs,.agg r.cs,.int .i64 n] H K:=by
 have h1:=ha.ho;have h2:=ha.kd;have h3:=ha.lb;have h4:=ha.ky;have h5:=ha.nw;have h6:=ha.ty;unfold Ac.cs R.cs;rw[abe];simp only[oX];have t1:Int.tmod a.kd 14=a.kd % 14:=Int.tmod_eq_emod_of_nonneg h2.1;have t2:Int.tmod a.ty 6=a.ty % 6:=Int.tmod_eq_emod_of_nonneg h6.1;have t3:Int.tmod a.ho 4=a.ho % 4:=Int.tmod_eq_emod_of_nonneg h1.1;have t4:Int.tmod a.ky 4=a.ky % 4:=Int.tmod_eq_emod_of_nonneg h4.1;have t5:Int.tmod a.nw 4=a.nw % 4:=Int.tmod_eq_emod_of_nonneg h5.1;have t6:Int.tmod a.lb n=a.lb % n:=Int.tmod_eq_emod_of_nonneg h3.1;have w1:IntKind.i64.wrap (a.ho % 4)=a.ho % 4:=by rw[bq (by omega) (by omega)]
 have w2:IntKind.u32.wrap (a.ky % 4)=a.ky % 4:=IntWalk.u32_in _ (by omega);have w3:IntKind.u32.wrap (a.nw % 4)=a.nw % 4:=IntWalk.u32_in _ (by omega);have w4:IntKind.i64.wrap a.lb=a.lb:=by rw[bq (by omega) (by omega)]
 have g1:0≤a.kd % 14:=by omega
 have g2:a.kd % 14<14:=by omega
 have g3:0≤a.ty % 6:=by omega
 have g4:a.ty % 6<6:=by omega
 have g5:0≤a.ho % 4:=by omega
 have g6:a.ho % 4<8:=by omega
 have g7:¬n=0:=by omega
 have s1:=h.alloc 5 (nF 1 3 5 6 7 8);have s2:=s1.alloc 5 [V.int .u8 0,V.int .u8 0,V.int .u8 1,V.int .u8 1,V.int .u8 1,V.int .u8 2,V.int .u8 3,V.int .u8 4,V.int .u8 4,V.int .u8 5,V.int .u8 6,V.int .u8 7,V.int .u8 8,V.int .u8 9];have I9:=s2.get;have SL:=s2.swap.get;have WU:=s2.drop.drop;rw[t1,t2,t3,t4,t5,w1,w2,w3,w4,t6];generalize hH2:(H.alloc (.cells 5 (nF 1 3 5 6 7 8) false)).alloc _=H2 at*;have e1:(H.alloc (.cells 5 (nF 1 3 5 6 7 8) false)).2=(H.alloc (.cells 5 (nF 1 3 5 6 7 8) false)).next:=rfl
 have c1:H2.cell (H.alloc (.cells 5 (nF 1 3 5 6 7 8) false)).next (0+(a.kd % 14).toNat*1)=.int .u8 (KW (a.kd % 14).toNat):=by
  rw[aY I9,Nat.zero_add,Nat.mul_one];generalize hi:(a.kd % 14).toNat=i;have hh:i=0∨i=1∨i=2∨i=3∨i=4∨i=5∨i=6∨i=7∨i=8∨i=9∨i=10∨i=11∨i=12∨i=13:=by omega
  rcases hh with h|h|h|h|h|h|h|h|h|h|h|h|h|h<;>rw[h]<;>rfl
 have i1:H2.inb (H.alloc (.cells 5 (nF 1 3 5 6 7 8) false)).next (0+(a.kd % 14).toNat*1) 1=true:=by
  rw[dF I9];exact Nat.ble_eq_true_of_le (show 0+(a.kd % 14).toNat*1+1≤14 by omega)
 have c2:H2.cell H.next (0+(a.ty % 6).toNat*1)=.int .u8 (Ty (a.ty % 6).toNat):=by
  rw[aY SL,Nat.zero_add,Nat.mul_one];generalize hi:(a.ty % 6).toNat=i;have hh:i=0∨i=1∨i=2∨i=3∨i=4∨i=5:=by omega
  rcases hh with h|h|h|h|h|h<;>rw[h]<;>rfl
 have i2:H2.inb H.next (0+(a.ty % 6).toNat*1) 1=true:=by
  rw[dF SL];exact Nat.ble_eq_true_of_le (show 0+(a.ty % 6).toNat*1+1≤6 by omega)
 have e4:(a.ho % 4).toNat<8:=by omega
 have b1:Nat.ble (Nat.succ (0+(a.ho % 4).toNat*1)) 12=true:=Nat.ble_eq_true_of_le (by omega)
 have n1:ae (bE (r.k 0) (r.k 1) (r.k 2) (r.k 3) (r.k 4) (r.k 5) (r.k 6) (r.k 7) r.ty r.ho r.ge r.la) (0+(a.ho % 4).toNat*1)=.int .u32 (r.k (a.ho % 4).toNat):=by
  rw[Nat.zero_add,Nat.mul_one];exact oQ r e4
 have hk:=k H2 WU;unfold Ac.cm at hk;simp only[g1,g2,g3,g4,g5,g6,g7,e1,i1,c1,i2,c2,b1,n1,decide_true,decide_false,Bool.and_self,Bool.or_false,Bool.not_false,av,cL,aZ,eu];cases how:a.ow
 all_goals
  rw[how] at hk;simp only[ai,ak,iE,lL,reduceIte,vU,ix,Bool.or_false,av,f40,aa1,Xw,Xx,Xy,Xz,XA,XB,XC,XD,aZ,bR,Bool.false_eq_true,if_false,if_true] at hk⊢;by_cases h64:a.d.length≤64
  ·have W3:(a.d.length:Int)≤64:=by omega
   simp only[W3,decide_true,ak];simp only[h64,if_true] at hk;exact hk
  ·have W3:¬(a.d.length:Int)≤64:=by omega
   simp only[W3,decide_false,ai];simp only[h64,if_false] at hk;exact hk
theorem tD (h:az B H (jL mid o::L)):∃q c q2 c2,H.inb mid 0 1=true∧H.cell mid 0=.slice q o.su.length c∧H.inb mid 1 1=true∧H.cell mid 1=.slice q2 o.ps.length c2∧H.inb mid 2 12=true∧H.sub mid 2 12=o.r.cs∧Rd H q (o.su.map st).flatten:=by
 obtain⟨l,hp,h1⟩:=az.PZ h;obtain⟨q,c,q2,c2,h2⟩:=az.R9 h1;obtain⟨f1,f2,f3,f4,f5,f6,_⟩:=cQ h2.get;rw[Ap hp] at f4;exact⟨q,c,q2,c2,f1,f2,f3,f4,f5,f6,(h2.up 1).lQ⟩
end
abbrev QM (i:Int):Cm:=⟨0,i,none,0,0,false,0,0,0,false⟩
theorem Qc {g:ct} {u:Un} {o:Ob} {ds:List Nat} {N b:Nat} (h:Ug g u o ds N b) {hh:Int} {i:Nat} (h0:0≤hh) (h8:hh<8) (hi:i<o.su.length) (hm:Hr o.r hh (QM i)=true):Tu g u hh (QM i) []=some (u,⟨0,l6 o i,R.zero⟩,0):=by
 obtain⟨s,ps,r,dn⟩:=u;have hr:=h.r;have hps:=h.ps;simp only at hr hps;subst hr hps;obtain⟨t,ht,htb⟩:=h.t;have hlen:=h.len;have hcap:g.cap.toNat=o.su.length:=by omega
 have hv:l7 hh (QM i) o.su.length=true:=by
  unfold l7;have e1:decide ((i:Int)<(o.su.length:Int))=true:=decide_eq_true (by omega);simp [h0,h8,hi]
 unfold Tu;rw[EH h];simp only[ne_eq,not_true_eq_false,if_false];unfold Ms;rw[hcap,if_neg (by simp [hv]),if_neg (by simp [hm]),if_pos rfl];have Hl:l6 o (i:Int)=(qF o.ps (i:Int)).getD (o.su.getD i []):=if_pos ⟨by omega,by omega⟩;by_cases hp:fO o.ps (i:Int)=true
 ·rw[if_pos hp];simp only;rw[if_neg (by omega),Hl]
  cases hgp:qF o.ps (i:Int) with
  |none=>rw[rH.1 hgp] at hp;cases hp
  |some d=>rfl
 ·rw[if_neg hp];obtain⟨t',h1,h2,_⟩:=ht.m9 i;simp only[Int.toNat_natCast];rw[h1];simp only;rw[if_neg (by omega),Hl,rH.2 (by simpa using hp),h2,P5 hi];rfl
theorem Wj {r:R} (hr:AT r):∃j:Nat,j<8∧∀i:Int,Hr r j (QM i)=true:=by
 have key:∃j:Nat,j<8∧mK r j false=true:=by
  unfold mK;by_cases h0:r.ty=0
  ·exact⟨0,by omega,by simp [h0,IV]⟩
  ·by_cases h8:nc r.ty=true
   ·obtain⟨i,hi,hk⟩:=hr.some h0;refine⟨i,hi, ?_⟩;have:(i:Int)<8:=by omega
    simp [IV,this,holds,h0,h8,key,hk]
   ·have Xn:nc r.ty=false:=by simpa using h8
    obtain⟨i,hi,e,hk⟩:=hr.one h0 Xn;refine⟨i,hi, ?_⟩;have:(i:Int)<8:=by omega
    simp [IV,this,holds,h0,e]
 obtain⟨j,hj,hp⟩:=key;exact⟨j,hj,fun i=>by unfold Hr;rw[if_pos rfl];exact hp⟩
section
variable {B:ag} {L:List cA} {H:ag} {K:V→ag→Prop} {x:Ui} {m:Gm} {u:Un} {o ou:Ob} {ds:List Nat} {N b mid:Nat}
theorem CP (hm:dB B L m) (hg:m.g.In) (hcap:0≤m.g.cap∧m.g.cap<65000) (U:Ug m.g u ou ds N b) (hb:b<2147483648) (ho:o.ok) (hr:ou.r=o.r) (hl:ou.su.length=o.su.length) {n:Int} {i:Nat} (hi:i<o.su.length) {Kr:Am.St→Prop} {Ke:Nat→Am.St→Prop}:∀(k h:Nat) {H:ag},h+k=8→(∃j:Nat,h≤j∧j<8∧∀i:Int,Hr o.r j (QM i)=true)→fG B H x m u (jL mid o::L)→(l6 ou i=l6 o i→∀H',fG B H' x m u (jL mid o::L)→Ke 2 (St.mk (ab [(0,T.v (V.aj (some (x.js,0)))),(1,T.v (V.aj (some (mid,0)))),(2,T.v (V.int .i64 n)),(7,T.v (V.int .i64 (i:Int)))]) (ab []) H'))→(l6 ou i≠l6 o i→∀H',fG B H' x m u (jL mid o::L)→Kr (St.mk (ab [(6,T.v (V.bool false))]) (ab []) H'))→lo 22 9 (St.mk (ab [(0,T.v (V.aj (some (x.js,0)))),(1,T.v (V.aj (some (mid,0)))),(2,T.v (V.int .i64 n)),(7,T.v (V.int .i64 (i:Int))),(8,T.v (V.int .i64 (h:Int)))]) (ab []) H) Kr Ke
 |0,h,H,hk,hj,hS,k1,k2=>by
  obtain⟨j,h1,h2,_⟩:=hj;omega
 |k+1,h,H,hk,hj,hS,k1,k2=>by
  obtain⟨q,c,q2,c2,f1,f2,f3,f4,f5,f6,_⟩:=tD (mid:=mid) (o:=o) (hS.ord [6]);have e1:(h:Int)<8:=by omega
  have e3:IntKind.i64.wrap ((h:Int)+1)=((h+1:Nat):Int):=aL (by omega);rw[Vx];simp only[e1,decide_true,ak,Option.isSome_some,Nat.zero_add,f5,f6,R.db,R.dX,Bool.and_self,av,oV,oW,oX,Option.getD_some,Cm.vi];rw[sk o.r ho.vl (h:Int) (QM 0) (Int.le_refl 0)];simp only[ey,bR,av];cases WY:Hr o.r (h:Int) (QM 0)
  ·simp only[Bool.not_false,ak,e3];refine CP hm hg hcap U hb ho hr hl hi k (h+1) (by omega) ?_ hS k1 k2;obtain⟨j,h1,h2,h3⟩:=hj;refine⟨j, ?_,h2,h3⟩;rcases Nat.lt_or_ge h j with h4|h4
   ·omega
   ·have:j=h:=by omega
    rw[this] at h3;rw[h3 0] at WY;cases WY
  ·simp only[Bool.not_true,ai]
   have hmi:Hr ou.r (h:Int) (QM (i:Int))=true:=by
    rw[hr];unfold Hr at WY⊢;exact WY
   have hrd:=Qc U (hh:=(h:Int)) (i:=i) (by omega) e1 (by omega) hmi;have CV:eK u.r:=by rw[U.r];obtain⟨_,_,htb⟩:=U.t;exact htb.P6
   refine P4 (hm.bW _) hg hcap hS U.ok (h:Int) (QM (i:Int)) [] rfl (kU.nil _ _ _) (CV.doR (h:Int) (QM (i:Int)) ⟨Int.le_refl 0,by show (0:Int)≤_;omega⟩).ok (by rw[U.boots];omega) hrd (fun q3 n3 H3 h3=> ?_);have Bv:lO H3 q3 (l6 ou i):=(h3.ord [6]).iV;have h4:fG B H3 x m u (jL mid o::L):=(h3.ord [6]).drop;have Hl:∀K:V→ag→Prop,K (.cG (cJ (l6 o (i:Int)))) H3→cl 48 [.aj (some (mid,0)),.int .i64 (i:Int)] H3 K:=fun K kk=>KM (h4.ord [6]) ho (by omega) (by omega) kk
   simp only[dm,dY,dA,fJ,dW,cI,Rs.aI,Rs.n0,Rs.n1,cL,aZ,Bool.or_false,Bool.and_self,av,List.length_cons,List.length_nil,Nat.reduceAdd,ij,decide_true,Bool.not_true,Bool.not_false,ak,bD,aT];refine iF (fun S:Am.St=>S=St.mk (ab [(68,T.v (V.bool (!decide (l6 ou i=l6 o i))))]) (ab []) H3) (fun(S:Am.St) M4=> ?_) (fun Q hQ=> ?_)
   ·subst M4;simp only[AJ,reduceIte,Nat.reduceEqDiff];by_cases he:l6 ou i=l6 o i
    ·simp only[he,decide_true,Bool.not_true,ai];exact k1 he H3 h4
    ·simp only[he,decide_false,Bool.not_false,ak];exact k2 he H3 h4
   ·simp only[Bv.eX,Bv.eY,av];refine⟨Hl _ ?_,Hl _ ?_⟩
    all_goals
     simp only[jS,fV,av,Bv.eX,Bv.eY,qk];exact hQ _ rfl
theorem G3 (hm:dB B L m) (hg:m.g.In) (hcap:0≤m.g.cap∧m.g.cap<65000) (U:Ug m.g u ou ds N b) (hb:b<2147483648) (ho:o.ok) (hr:ou.r=o.r) (hl:ou.su.length=o.su.length) {Kr:Am.St→Prop} {Ke:Nat→Am.St→Prop}:∀(k i:Nat) {H:ag},i+k=o.su.length→fG B H x m u (jL mid o::L)→((∀j:Nat,i≤j→j<o.su.length→l6 ou j=l6 o j)→∀H',fG B H' x m u (jL mid o::L)→Ke 0 (St.mk (ab []) (ab []) H'))→((∃j:Nat,j<o.su.length∧l6 ou j≠l6 o j)→∀H',fG B H' x m u (jL mid o::L)→Kr (St.mk (ab [(6,T.v (V.bool false))]) (ab []) H'))→lo 22 5 (St.mk (ab [(0,T.v (V.aj (some (x.js,0)))),(1,T.v (V.aj (some (mid,0)))),(2,T.v (V.int .i64 (o.su.length:Int))),(7,T.v (V.int .i64 (i:Int)))]) (ab []) H) Kr Ke
 |0,i,H,hi,hS,k1,k2=>by
  rw[N1,decide_eq_false (by omega),ai];exact k1 (fun j h1 h2=>by omega) H hS
 |k+1,i,H,hi,hS,k1,k2=>by
  have hlt:i<o.su.length:=by omega
  have hn2:=ho.n2;have e3:IntKind.i64.wrap ((i:Int)+1)=((i+1:Nat):Int):=aL (by omega);obtain⟨j,hj8,hj⟩:=Wj ho.vl;rw[N1,decide_eq_true (by omega),ak];refine CP hm hg hcap U hb ho hr hl hlt 8 0 (by omega) ⟨j,Nat.zero_le _,hj8,hj⟩ hS (fun he H1 h1=> ?_) (fun he H1 h1=> ?_)
  ·simp only[AJ,reduceIte,Nat.reduceEqDiff,e3];refine G3 hm hg hcap U hb ho hr hl k (i+1) (by omega) h1 (fun hall=>k1 (fun j h1 h2=> ?_)) k2;rcases Nat.lt_or_ge i j with h|h
   ·exact hall j h h2
   ·have:j=i:=by omega
    rw[this];exact he
  ·simp only[AJ,reduceIte,Nat.reduceEqDiff];exact k2 ⟨i,hlt,he⟩ H1 h1
theorem Qd (hm:dB B L m) (hg:m.g.In) (hcap:0≤m.g.cap∧m.g.cap<65000) (U:Ug m.g u ou ds N b) (hb:b<2147483648) (ho:o.ok) (hgo:eK o.r) (hl:ou.su.length=o.su.length) (hS:fG B H x m u (jL mid o::L)) (k:∀(v:Bool) H',(v=true↔ou.r=o.r∧ou.ps.length=o.ps.length∧∀j:Nat,j<o.su.length→l6 ou j=l6 o j)→fG B H' x m u (jL mid o::L)→K (.bool v) H'):cl 22 [.aj (some (x.js,0)),.aj (some (mid,0)),.int .i64 (o.su.length:Int)] H K:=by
 obtain⟨q,c,q2,c2,f1,f2,f3,f4,f5,f6,_⟩:=tD (mid:=mid) (o:=o) (hS.ord [6]);have CV:eK ou.r:=by obtain⟨_,_,htb⟩:=U.t;exact htb.P6
 have hUr:=U.r;have hUp:=U.ps;rw[abi];have RV:∀K:V→ag→Prop,cl 15 [.aj (some (x.js,0))] H K=K (.agg u.r.cs) H:=fun K=>P2 hS
 have WT:∀K:V→ag→Prop,cl 24 [.aj (some (x.js,0))] H K=K (.int .i64 (u.ps.length:Int)) H:=fun K=>Mq hS
 refine iF (fun S:Am.St=>S=St.mk (ab [(27,T.v (V.bool (!(cZ u.r.cs o.r.cs&&decide (u.ps.length=o.ps.length)))))]) (ab []) H) (fun(S:Am.St) M4=> ?_) (fun Q hQ=> ?_)
 ·subst M4;simp only[AJ,reduceIte,Nat.reduceEqDiff];by_cases he:cZ u.r.cs o.r.cs=true∧u.ps.length=o.ps.length
  ·have CT:ou.r=o.r:=by
    rw[←hUr];refine(eK.ext (r:=o.r) hgo ?_ ((R.rF _ _).1 he.1));rw[hUr];exact CV.nz
   simp only[he.1,he.2,decide_true,Bool.and_self,Bool.not_true,ai];refine G3 hm hg hcap U hb ho CT hl o.su.length 0 (by omega) hS (fun hall H1 h1=> ?_) (fun hne H1 h1=> ?_)
   ·simp only[AJ,reduceIte,Nat.reduceEqDiff];exact k true H1 ⟨fun _=>⟨CT,by rw[←hUp];exact he.2,fun j hj=>hall j (Nat.zero_le _) hj⟩,fun _=>rfl⟩ h1
   ·simp only[AJ,reduceIte,Nat.reduceEqDiff];obtain⟨j,hj,hne⟩:=hne;exact k false H1 ⟨fun e=>(by cases e),fun e=>absurd (e.2.2 j hj) hne⟩ h1
  ·have e:(cZ u.r.cs o.r.cs&&decide (u.ps.length=o.ps.length))=false:=by
    rw[←Bool.not_eq_true,Bool.and_eq_true,decide_eq_true_eq];exact he
   rw[e];simp only[Bool.not_false,ak];refine k false H ⟨fun e=>(by cases e),fun e=>absurd (?_:cZ u.r.cs o.r.cs=true∧u.ps.length=o.ps.length) he⟩ hS;rw[hUr,hUp,e.1];exact⟨R.eq_self _,e.2.1⟩
 ·have fin:Q (St.mk (ab [(27,T.v (V.bool (!(cZ u.r.cs o.r.cs&&decide (u.ps.length=o.ps.length)))))]) (ab []) H):=hQ _ rfl;simp only[Option.isSome_some,Nat.zero_add,RV,WT,f3,f4,f5,f6,R.db,R.dX,AJ,reduceIte,Nat.reduceEqDiff];cases hce:cZ u.r.cs o.r.cs
  ·rw[hce] at fin;simp only[Bool.false_and,Bool.not_false,Bool.not_true,ai,and_self] at fin⊢;exact fin
  ·rw[hce] at fin;have e5:decide (((u.ps.length:Nat):Int)=((o.ps.length:Nat):Int))=decide (u.ps.length=o.ps.length):=decide_eq_decide.2 (by omega);simp only[Bool.true_and,Bool.not_false,Bool.not_true,ak,and_self] at fin⊢;by_cases hp:u.ps.length=o.ps.length
   ·have AW:((u.ps.length:Nat):Int)=((o.ps.length:Nat):Int):=by omega
    simp only[hp,AW,decide_true] at fin⊢
    first|exact fin|exact⟨fin,fin⟩
   ·have AW:¬((u.ps.length:Nat):Int)=((o.ps.length:Nat):Int):=by omega
    simp only[hp,AW,decide_false] at fin⊢
    first|exact fin|exact⟨fin,fin⟩
end
theorem CQ:∀(bI:List Int) (bs:List Bk),(∀x∈bs,x=fL∨x=zD)→∀x∈se bs bI,x=fL∨x=zD
 |[],bs,h=>h
 |i::bI,bs,h=>CQ bI _ (fun x hx=>by
  rcases List.mem_or_eq_of_mem_set hx with hx|rfl
  ·exact h x hx
  ·exact .inr rfl)
theorem CR {b:Nat}:∀(bI:List Int) (bs:List Bk),(∀i∈bI,i.toNat≠b)→(se bs bI).getD b fL=bs.getD b fL
 |[],bs,h=>rfl
 |i::bI,bs,h=>by
  rw[se,CR bI _ (fun j hj=>h j (List.mem_cons_of_mem _ hj)),List.getD_eq_getElem?_getD,List.getD_eq_getElem?_getD,List.getElem?_set,if_neg (h i List.mem_cons_self)]
theorem tE {g:ct} (hg:g.In) (hn:g.zB):g.cap<65000:=by
 have K4:=ct.kH g hg.b.2;have h1:=hn.2.2.1;have h2:=hn.2.2.2.1;have h3:=hn.2.2.2.2.1
 have:g.aA*((g.us.length:Int)-g.aH-1)≤32*62:=by
  by_cases h0:0≤(g.us.length:Int)-g.aH-1
  ·exact Int.mul_le_mul h2 (by omega) h0 (by omega)
  ·have:=Int.mul_nonpos_of_nonneg_of_nonpos (a:=g.aA) (b:=(g.us.length:Int)-g.aH-1) (by omega) (by omega);omega
 have hc:g.cap=g.aA*((g.us.length:Int)-g.aH-1)-2:=rfl;omega
theorem SB {g:ct} (hn:g.zB) (hc:0<g.cap):g.aH+1≤g.us.length:=by
 by_cases h0:0<(g.us.length:Int)-g.aH-1
 ·omega
 ·have h1:=hn.2.2.1;have:=Int.mul_nonpos_of_nonneg_of_nonpos (a:=g.aA) (b:=(g.us.length:Int)-g.aH-1) (by omega) (by omega);have Ht:g.cap=g.aA*((g.us.length:Int)-g.aH-1)-2:=rfl;omega
open Classical in
theorem Wk {g:ct} (hform:g.cY=true) (hl:g.bI.length≤1000000) (SZ:∀i∈g.bI,0≤i∧i<g.aE):Up g (Bp g.aE.toNat g.aA g.bI) (vm g.cap.toNat) [] 0 0:=by
 have hn:=ct.eW hform;have hg:=hn.in hl;have hcap:=ct.nW hform;have hlt:=tE hg hn;have hall:∀x∈(Bp g.aE.toNat g.aA g.bI).bs,x=fL∨x=zD:=CQ _ _ (fun x hx=>.inl (List.eq_of_mem_replicate hx))
 have hlen:(Bp g.aE.toNat g.aA g.bI).bs.length=g.aE.toNat:=by
  show (se _ _).length=_
  rw[B3,List.length_replicate]
 have tI:∀x∈(Bp g.aE.toNat g.aA g.bI).bs,x.pg=[]:=fun x hx=>by rcases hall x hx with rfl|rfl<;>rfl
 have hb:g.aE=((g.aE.toNat:Nat):Int):=by have:=hn.1;omega
 have hbk:∀b∈g.us,(Bp g.aE.toNat g.aA g.bI).bk b=fL:=fun b hb=>by
  have hnb:¬(b:Int)∈g.bI:=by
   unfold ct.us at hb;have:=(List.mem_filter.1 hb).2;simpa using this
  show (se _ _).getD b fL=_
  rw[CR _ _ (fun i hi e=>hnb (by have:=SZ i hi;have:i=(b:Int):=by omega
                                 rw[←this];exact hi)),List.getD_eq_getElem?_getD,List.getElem?_replicate]
  split<;>rfl
 have hvw:∀b,vw g (Bp g.aE.toNat g.aA g.bI) b=[]:=fun b=>by
  by_cases hu:b∈g.us
  ·exact zY (.inl (by rw[hbk b hu];rfl))
  ·exact Eg b hu
 have hc0:∀x,vu (vm g.cap.toNat).su [] x=[]:=fun x=>by
  unfold vu vm;simp only;split
  ·rw[List.getD_eq_getElem?_getD,List.getElem?_replicate];split<;>rfl
  ·split<;>rfl
 have no:∀b f,f∉vw g (Bp g.aE.toNat g.aA g.bI) b:=fun b f hf=>by rw[hvw b] at hf;cases hf
 refine⟨⟨[], ?_,.inl ⟨rfl,rfl⟩⟩,rfl,rfl,rfl,rfl,Wc (by omega) (by omega),by show (((List.replicate g.cap.toNat ([]:List UInt8)).length:Nat):Int)=_;rw[List.length_replicate];omega⟩;refine⟨⟨?_,rfl,fun x hx=>(by rw[tI x hx];have:=hn.2.2.1;show ((0:Nat):Int)≤_;omega),fun x hx d hd=>(by rw[tI x hx] at hd;cases hd),fun b hb e=>(by rw[hbk b hb] at e;cases e),fun b hb _=>(by rw[hbk b hb];exact⟨Int.le_refl _,rfl,rfl⟩)⟩, ?_, ?_,fun b f hf=>absurd hf (no b f),fun i hi j hj _ _ h=>absurd (hvw i) h.1⟩
 ·rw[hlen];omega
 ·exact⟨fun b f hf=>absurd hf (no b f),fun x=>.inl ⟨hc0 x,fun b f hf=>absurd hf (no b f)⟩,fun b f hf=>absurd hf (no b f),fun b f hf=>absurd hf (no b f),fun b f hf=>absurd hf (no b f),fun b f hf=>absurd hf (no b f)⟩
 ·intro _;have:ko g (Bp g.aE.toNat g.aA g.bI)=0:=List.countP_eq_zero.2 (fun b hb e=>xn (hvw b) (of_decide_eq_true e).2);rw[this];have:=SB hn hcap;omega
section
variable {B:ag} {L:List cA} {H:ag} {K:V→ag→Prop} {m:Gm} {o:Ob} {ds:List Nat} {N b aM:Nat} {a:Ar}
theorem wM (h:az B H (dP aM a::L)) (hm:dB B L m) (hform:m.g.cY=true) (hg:m.g.In) (U:Up m.g a o ds N b) (hb:b<2147483648) (ha:a.bO≤0) {ep:Nat} (TU:1≤ep∧ep<281474976710656) (hf:a.aU≤ep) (k:∀x v H',x.aM=aM→Ug m.g v o ds N b→v.s.a.bO≤0→v.s.a.aU=a.aU→v.s.f.ep=ep→(∃sq:Int→Nat,(∀y:Int,sq y=((jG y.toNat (a.Bo m.g)).map fun f=>f.s.seq).getD 0)∧uM m.g (cF m.g sq a ep).1=some v)→fG B H' x m v L→K (.tuple [.aj (some (x.js,0)),.int .i64 0]) H'):cl 13 [.aj (some (aM,0)),m.v,.int .u64 (ep:Int)] H K:=by
 have hn:=ct.eW hform;have hc:0≤m.g.cap∧m.g.cap<65000:=⟨by have:=ct.nW hform;omega,tE hg hn⟩;obtain⟨t,Xl,_⟩:=U.t
 have hno:∀sq,(cF m.g sq a ep).2=0∧∃v,uM m.g (cF m.g sq a ep).1=some v∧v.s=(cF m.g sq a ep).1∧Ug m.g v o ds N b:=fun sq=>by
  obtain⟨kp,h1⟩:=U.mount hg hc TU hf hb sq;rcases h1 with h1|⟨_,h1⟩
  ·exact h1
  ·exfalso;have h2:=h1.off;have:=(kp.AR ha).2;rw[this] at h2;have h3:a.off=true:=h2;rw[U.on] at h3;cases h3
 refine Mu h hm hform hg (Xl.rd U.on) hc TU (fun sq _=>by
  obtain⟨_,v,h1,_⟩:=hno sq
  exact⟨v,h1⟩) (fun pz x v H' hx Hx h0 hok huM hS=> ?_) (fun pz H' Hx h0 hok hS=>absurd (hno (eJ pz)).1 h0)
 obtain⟨_,v',h1,h2,h3⟩:=hno (eJ pz);rw[huM] at h1;cases h1;obtain⟨kp,_⟩:=U.mount hg hc TU hf hb (eJ pz);refine k x v H' hx h3 ?_ ?_ ?_ ⟨eJ pz,fun y=> ?_,huM⟩ hS
 ·rw[h2];exact(kp.AR ha).1
 ·rw[h2];exact kp.aU
 ·rw[h2];exact kp.ep
 ·unfold eJ;rw[←Hx,wm];cases ml y.toNat pz<;>rfl
end
end Go.Proofs.YtlgdkndamddpkaaGreat
end
section
namespace Go.Proofs.YtlgdkndamddpkaaGreat
open Go.Am
theorem EJ {p:Nat→Bool}:∀{l ds:List Nat},l.Nodup→(∀b∈l,p b=true→b∈ds)→l.countP p≤ds.length
 |l,ds,hn,h=>by
  rw[List.countP_eq_length_filter];exact List.Nodup.length_le_of_subset (hn.sublist List.filter_sublist) (fun b hb=>h b (List.mem_filter.1 hb).1 (List.mem_filter.1 hb).2)
section
variable {g:ct} {u:Un} {o:Ob} {ds:List Nat} {N b:Nat}
theorem Ug.c3 (h:Ug g u o ds N b):u.s.f.po.count 3≤ds.length:=by
 obtain⟨t,ht,_⟩:=h.t;rw[←ht.lW (a:=u.s.a) (fun _ _=>rfl)]
 exact EJ (nS g) (fun b hb e=>Classical.byContradiction fun hn=>by
  have:=(ht.ph.fB b hb hn).2.2
  rw[this] at e;cases e)
theorem aak (hg:g.In) (hform:g.cY=true) (h:Ug g u o ds N b) (hds:(ds.length:Int)≤g.aH) (ha:u.s.a.bO≤0) (hh:Int) (c:Cm) (bP:List UInt8) (hd:c.dn=bP.length) (TX:0≤c.nw∧c.nw≤4294967295) (hN:N+9*CW<281474976710656):∃v,Tu g u hh c bP=some (v,(sj o hh c bP).2,0)∧Kp u.s v.s (9*CW)∧Ug g v (sj o hh c bP).1 ds (N+9*CW) b:=by
 have hn:=ct.eW hform;obtain⟨r,h1,h2,h3⟩:=Wg hg hform (tE hg hn) h hh c bP hd TX hN;rcases h3 with⟨e1,e2,h3⟩|⟨_,_,_,_,e1,j,_,h3⟩|⟨_,h3⟩
 ·exact⟨r.1,by rw[h1, ←e2, ←e1],h2,h3⟩
 ·exfalso;have:=h3.c3;omega
 ·exfalso;have h4:=h3.off;rw[(h2.AR ha).2] at h4;obtain⟨t,ht,_⟩:=h.t;rw[ht.on] at h4;cases h4
theorem aal (hg:g.In) (hform:g.cY=true) (h:Ug g u o ds N b) (hds:(ds.length:Int)≤g.aH) (ha:u.s.a.bO≤0) (hN:N+9*CW<281474976710656):∃v,Xa g u=some (v,0)∧Kp u.s v.s (9*CW)∧Ug g v (jK o) ds (N+9*CW) b:=by
 have hn:=ct.eW hform;obtain⟨t,ht,_⟩:=h.t;obtain⟨r,h1,h2,h3⟩:=Wh hg hform (tE hg hn) h hN;rcases h3 with⟨e1,h3⟩|⟨_,e1,j,_,h3⟩|⟨_,h3⟩
 ·exact⟨r.1,by rw[h1, ←e1],h2,h3⟩
 ·exfalso;have:=h3.c3;omega
 ·exfalso;have h4:=h3.off;rw[(h2.AR ha).2,ht.on] at h4;cases h4
end
section
variable {B:ag} {L:List cA} {H:ag} {K:V→ag→Prop} {x:Ui} {m:Gm} {u:Un} {o:Ob} {ds:List Nat} {N b:Nat}
theorem Ug.rok {g:ct} (h:Ug g u o ds N b):eK u.r:=by rw[h.r];obtain⟨_,_,htb⟩:=h.t;exact htb.P6
theorem Ay (hm:dB B L m) (hg:m.g.In) (hform:m.g.cY=true) (h:fG B H x m u L) (U:Ug m.g u o ds N b) (hb:b<2147483648) (hds:(ds.length:Int)≤m.g.aH) (ha:u.s.a.bO≤0) (hh:Int) (c:Cm) (bP:List UInt8) (hd:c.dn=bP.length) (hr:kU B L c.dp bP) (TX:0≤c.nw∧c.nw≤4294967295) (hN:N+9*CW<281474976710656) (k:∀v q n H',Tu m.g u hh c bP=some (v,(sj o hh c bP).2,0)→Kp u.s v.s (9*CW)→Ug m.g v (sj o hh c bP).1 ds (N+9*CW) b→fG B H' x m v (BY q n (sj o hh c bP).2.d::L)→K (.tuple [.agg ((sj o hh c bP).2.cs q n),.int .i64 0]) H'):cl 16 [.aj (some (x.js,0)),.int .i64 hh,.agg c.cs] H K:=by
 obtain⟨v,h1,h2,h3⟩:=aak hg hform U hds ha hh c bP hd TX hN;have hn:=ct.eW hform;exact P4 hm hg ⟨by have:=ct.nW hform;omega,tE hg hn⟩ h U.ok hh c bP hd hr (U.rok.doR hh c TX).ok (by rw[U.boots];omega) h1 (fun q n H' h'=>k v q n H' h1 h2 h3 h')
theorem Wl (hm:dB B L m) (hg:m.g.In) (hform:m.g.cY=true) (h:fG B H x m u L) (U:Ug m.g u o ds N b) (hds:(ds.length:Int)≤m.g.aH) (ha:u.s.a.bO≤0) (hN:N+9*CW<281474976710656) (k:∀v H',Xa m.g u=some (v,0)→Kp u.s v.s (9*CW)→Ug m.g v (jK o) ds (N+9*CW) b→fG B H' x m v L→K (.int .i64 0) H'):cl 25 [.aj (some (x.js,0))] H K:=by
 obtain⟨v,h1,h2,h3⟩:=aal hg hform U hds ha hN;have hn:=ct.eW hform;exact We hm hg ⟨by have:=ct.nW hform;omega,tE hg hn⟩ h U.ok h1 (fun H' h'=>k v H' h1 h2 h3 h')
end
section
variable {B:ag} {L:List cA} {H:ag} {K:V→ag→Prop}
theorem G4 {g:ct}:∀(l pre:List Int),g.xj pre l=true→∀i∈l,0≤i∧i<g.aE
 |[],_,_,i,hi=>by cases hi
 |j::l,pre,h,i,hi=>by
  rw[ct.xj,Bool.and_eq_true] at h;have h1:=of_decide_eq_true h.1;rcases List.mem_cons.1 hi with rfl|hi
  ·exact⟨by omega,h1.2.1⟩
  ·exact G4 l _ h.2 i hi
theorem Qe {g:ct} (h:g.cY=true):∀i∈g.bI,0≤i∧i<g.aE:=by
 unfold ct.cY at h;rw[Bool.and_eq_true,Bool.and_eq_true] at h;exact G4 _ _ h.2.1
theorem KX {m:Gm} (h:az B H L) (hm:dB B L m) (hform:m.g.cY=true) (hg:m.g.In) (k:∀aM a H',Up m.g a (vm m.g.cap.toNat) [] 0 0→a.bO≤0→a.aU=0→a=Bp m.g.aE.toNat m.g.aA m.g.bI→az B H' (dP aM a::L)→K (.tuple [.aj (some (aM,0)),.int .i64 0]) H'):cl 12 [.int .i64 m.g.aE,.int .i64 m.g.aA,.slice m.q m.g.bI.length m.c] H K:=by
 have hn:=ct.eW hform;have SZ:=Qe hform;refine OH h m.g.aE m.g.aA hm.r hg.l (fun hno=>absurd ⟨by have:=hn.1;omega,hn.2.1,by have:=hn.2.2.1;omega,hn.2.2.2.1,SZ⟩ hno) (fun _ aM H' h'=> ?_);exact k aM _ H' (Wk hform hg.l SZ) (Int.le_refl _) rfl rfl h'
theorem Qf:(VD 1).cap=4:=by decide+kernel
def awA:Ob:=⟨[[],[],[],[]],[⟨0,[97],false⟩],R.gM⟩
def Xb:Ob:=⟨[[97],[],[],[]],[],R.gM⟩
def awC:Ob:=⟨[[97],[],[],[]],[⟨0,[98],false⟩],R.gM⟩
theorem acE (q:Oq):sj (vm 4) 0 ⟨1,0,q,1,1,false,0,0,0,false⟩ [97]=(awA,⟨0,[],R.zero⟩):=rfl
theorem acF:jK awA=Xb:=rfl
theorem acG (q:Oq):sj Xb 0 ⟨1,0,q,1,1,false,0,0,0,false⟩ [98]=(awC,⟨0,[],R.zero⟩):=rfl
theorem acH:Cx awC false=Xb:=rfl
theorem acI:sj Xb 0 ⟨0,0,none,0,0,false,0,0,0,false⟩ []=(Xb,⟨0,[97],R.zero⟩):=rfl
theorem aam (h:az B H L) (b:UInt8):az B (H.alloc (.cells 5 [V.int .u8 b.toNat] false)) (BY (some (H.next,0)) 1 [b]::L):=
 h.DN (el:=5) (n:=1) (len:=1) (c:=1) (l:=[V.int .u8 b.toNat]) (cs:=bj [b]) rfl (jE _) (by omega) (by simp) rfl
theorem G5 (h:az B H L) (k:∀H',az B H' L→K (.bool true) H'):cl 10 [] H K:=by
 rw[aa9];refine xk h 1 (by omega) (fun m H1 Qy hmc h1=> ?_);have hform:m.g.cY=true:=by rw[Qy];exact F1 1 (by omega)
 have hl:m.g.bI.length≤1000000:=by rw[Qy];decide
 have hg:=(ct.eW hform).in hl;have hcap:m.g.cap.toNat=4:=by rw[Qy,Qf];rfl
 have hds:(([]:List Nat).length:Int)≤m.g.aH:=by have:=hg.s;simp;omega
 have K6:∀L:List cA,dB B (JT m::L) m:=fun L=>JT.ok hmc
 have hv:m.v=.agg (dS m.g.aE m.g.aA m.g.aH m.q m.g.bI.length m.c):=rfl;rw[hv];simp only[dW,cI,vr,vq,Bool.and_self,av,f25,uH,mC,mD,mE,mF,aZ,bD,aT,cq];refine KX h1 (K6 L) hform hg (fun aM a H2 U0 ha0 TS _ h2=> ?_);rw[hcap] at U0;simp only[AJ,reduceIte,Nat.reduceEqDiff, ←hv];refine wM h2 (K6 L) hform hg U0 (by omega) (by omega) (ep:=1) ⟨by omega,by omega⟩ (by rw[TS];decide) (fun x u H3 hx U1 MX SK he1 _ h3=> ?_)
 have hw:∀(H:ag) (b:Int),ag.wr (H.alloc (.cells 5 [V.int .u8 b] false)) H.2 0 0=true:=fun H b=>by
  rw[fK (ag.vZ _ _)];rfl
 simp only[AJ,reduceIte,Nat.reduceEqDiff,Cm.vi,hw];have h4:fG B _ x m u (BY (some (H3.next,0)) 1 [97]::JT m::L):=(aam h3 97).ord [1,1,1,1,1,1];refine Ay ((K6 L).bW _) hg hform h4 U1 (by omega) hds MX 0 ⟨1,0,some (H3.next,0),1,1,false,0,0,0,false⟩ [97] rfl kU.byt ⟨Int.le_refl 0,by show (0:Int)≤_;omega⟩ (by decide) (fun u2 q2 n2 H5 hd2 kp2 U2 h5=> ?_);rw[acE] at U2;have h6:fG B H5 x m u2 (JT m::L):=(h5.ord [6,6]).drop.drop;have ha2:=(kp2.AR MX).1;simp only[AJ,reduceIte,Nat.reduceEqDiff,Rs.aI];refine Wl (K6 L) hg hform h6 U2 hds ha2 (by decide) (fun u3 H7 QQ kp3 U3 h7=> ?_);rw[acF] at U3;have ha3:=(kp3.AR ha2).1;simp only[AJ,reduceIte,Nat.reduceEqDiff,Cm.vi,hw];have h8:fG B _ x m u3 (BY (some (H7.next,0)) 1 [98]::JT m::L):=(aam h7 98).ord [1,1,1,1,1,1];refine Ay ((K6 L).bW _) hg hform h8 U3 (by omega) hds ha3 0 ⟨1,0,some (H7.next,0),1,1,false,0,0,0,false⟩ [98] rfl kU.byt ⟨Int.le_refl 0,by show (0:Int)≤_;omega⟩ (by decide) (fun u4 q4 n4 H9 hd4 kp4 U4 h9=> ?_);rw[acG] at U4;have ha4:=(kp4.AR ha3).1;have hf4:u4.s.a.aU=0:=by rw[kp4.aU,kp3.aU,kp2.aU,SK,TS]
 have xO:az B H9 (dP aM u4.s.a::JT m::L):=by
  have:=(h9.ord [6,6]).drop.drop.drop.drop.drop.drop.drop;rw[hx] at this;exact this
 obtain⟨t4,ht4,_⟩:=U4.t;have U5:=U4.leave u4.s.a rfl rfl ht4.on ht4.eO rfl;rw[acH] at U5;simp only[AJ,reduceIte,Nat.reduceEqDiff,Rs.aI];refine wM xO (K6 L) hform hg U5 (by omega) ha4 (ep:=2) ⟨by omega,by omega⟩ (by rw[hf4];decide) (fun x2 v H11 vD U6 ha6 hf6 he6 _ AX=> ?_);simp only[AJ,reduceIte,Nat.reduceEqDiff,Cm.vi];refine Ay (K6 L) hg hform AX U6 (by omega) hds ha6 0 ⟨0,0,none,0,0,false,0,0,0,false⟩ [] rfl (kU.nil _ _ _) ⟨Int.le_refl 0,by show (0:Int)≤_;omega⟩ (by decide) (fun v2 q6 n6 Xp hd6 kp6 U7 h12=> ?_);have Bv:lO Xp q6 [97]:=(h12.ord [6]).iV;rw[acI] at U7;have hs1:eX Xp q6 1=true:=Bv.eX;have n7:eY Xp q6 1=cJ [97]:=Bv.eY;have e5:(sj Xb 0 ⟨0,0,none,0,0,false,0,0,0,false⟩ []).2=⟨0,[97],R.zero⟩:=rfl;rw[e5];have QF:fG B Xp x2 m v2 (JT m::L):=(h12.ord [6]).drop;simp only[AJ,reduceIte,Nat.reduceEqDiff,Rs.aI,Rs.n1,List.length_cons,List.length_nil,hs1,n7,qk];rw[Mr QF];have TU:(v2.s.f.ep:Int)=2:=by rw[kp6.ep,he6];rfl
 simp only[AJ,reduceIte,Nat.reduceEqDiff,TU];exact k Xp (QF.ord [6]).drop.drop.drop.drop.drop.drop.drop
end
theorem kx {y:Int} (h:IntKind.u8.min≤y∧y≤IntKind.u8.max):0≤y∧y≤255:=by
 simpa [IntKind.min,IntKind.max,IntKind.bits,IntKind.signed] using h
theorem MH {y:Int} (h:IntKind.u32.min≤y∧y≤IntKind.u32.max):0≤y∧y≤4294967295:=by
 simpa [IntKind.min,IntKind.max,IntKind.bits,IntKind.signed] using h
theorem TB:dK.P.underlying 5=some (.int .u8):=Tryz.underlying5
theorem vv:dK.P.cellsOf 5=1:=by kernel_rfl
theorem MI:dK.P.cellsOf 3=1:=by kernel_rfl
theorem MJ:dK.P.cellsOf 39=1:=by kernel_rfl
theorem Az:dK.P.cellsOf 4=1:=by kernel_rfl
theorem xp:dK.P.cellsOf 36=1:=by kernel_rfl
theorem CS:dK.P.cellsOf 38=10:=by kernel_rfl
theorem MK:dK.P.cellsOf 41=8:=by kernel_rfl
theorem Wm {H:ag} {n:Nat} {cs:List V} (h:Aw dK.P H n 38 cs):∃a:Ac,cs=a.cs∧a.ok H:=by
 obtain⟨hl,m,hf⟩:=CN (P:=dK.P) Tryz.underlying38 h;rw[CS] at hl
 match cs,hl with
 |[a0,a1,a2,a3,a4,a5,a6,a7,a8,a9],_=>
  simp only[List.forall_mem_cons,vv,Az,xp,List.drop_succ_cons,List.drop_zero,List.take_succ_cons,List.take_zero] at hf;obtain⟨h0,h1,h2,h3,h4,h5,h6,h7,h8,h9,_⟩:=hf;obtain⟨y0,rfl,r0⟩:=jM (P:=dK.P) Tryz.underlying5 h0;obtain⟨y1,rfl,r1⟩:=jM (P:=dK.P) Tryz.underlying5 h1;obtain⟨y2,rfl,r2⟩:=jM (P:=dK.P) Tryz.underlying5 h2;obtain⟨y3,rfl,r3⟩:=jM (P:=dK.P) Tryz.underlying5 h3;obtain⟨y4,rfl,r4⟩:=jM (P:=dK.P) Tryz.underlying5 h4;obtain⟨y5,rfl,r5⟩:=jM (P:=dK.P) Tryz.underlying5 h5;obtain⟨y6,rfl⟩:=yg (P:=dK.P) Tryz.underlying4 h6;obtain⟨y7,rfl⟩:=yg (P:=dK.P) Tryz.underlying4 h7;obtain⟨q,len,cap,rfl,hs⟩:=Ax (P:=dK.P) Tryz.underlying36 (Nat.le_of_ble_eq_true (by kernel_rfl)) h8;obtain⟨bs,rfl,hr,_,_⟩:=G2 TB vv hs;obtain⟨y9,rfl,r9⟩:=jM (P:=dK.P) Tryz.underlying5 h9;exact⟨⟨y0,y1,y2,y3,y4,y5,y6,y7,q,cap,bs,y9⟩,rfl,kx r0,kx r1,kx r2,kx r3,kx r4,kx r5,hr,kx r9⟩
theorem Ac.db (a:Ac):aI k37 a.cs=true:=rfl
theorem Ac.dX (a:Ac):o37 a.cs=a.cs:=rfl
theorem Wn {H:ag} {n:Nat} {cs:List V} (h:Aw dK.P H n 41 cs):∃c:Cm,cs=c.cs∧∃bP:List UInt8,c.dn=bP.length∧lO H c.dp bP∧(0≤c.kd∧c.kd≤255)∧(0≤c.nw∧c.nw≤4294967295):=by
 obtain⟨hl,m,hf⟩:=CN (P:=dK.P) Tryz.underlying41 h;rw[MK] at hl
 match cs,hl with
 |[a0,a1,a2,a3,a4,a5,a6,a7],_=>
  simp only[List.forall_mem_cons,vv,Az,MI,MJ,xp,List.drop_succ_cons,List.drop_zero,List.take_succ_cons,List.take_zero] at hf;obtain⟨h0,h1,h2,h3,h4,h5,h6,h7,_⟩:=hf;obtain⟨y0,rfl,r0⟩:=jM (P:=dK.P) Tryz.underlying5 h0;obtain⟨y1,rfl,r1⟩:=jM (P:=dK.P) Tryz.underlying3 h1;obtain⟨q,len,cap,rfl,r2⟩:=Ax (P:=dK.P) Tryz.underlying36 (Nat.le_of_ble_eq_true (by kernel_rfl)) h2;obtain⟨y3,rfl⟩:=yg (P:=dK.P) Tryz.underlying4 h3;obtain⟨y4,rfl,r4⟩:=jM (P:=dK.P) Tryz.underlying39 h4;obtain⟨y5,rfl,r5⟩:=jM (P:=dK.P) Tryz.underlying39 h5;obtain⟨y6,rfl,r6⟩:=jM (P:=dK.P) Tryz.underlying5 h6;obtain⟨y7,rfl⟩:=yg (P:=dK.P) Tryz.underlying4 h7;obtain⟨bs,rfl,hr,_,_⟩:=G2 TB vv r2;exact⟨⟨y0,y1,q,bs.length,cap,y3,y4,y5,y6,y7⟩,rfl,bs,rfl,hr,kx r0,MH r5⟩
theorem ML {H:ag} {q:Oq} {len cap:Nat} (h:MF dK.P H 38 q len cap):∃sc:List Ac,sc.length=len∧Rd H q (sc.map Ac.cs).flatten∧∀a∈sc,a.ok H:=by
 obtain⟨css,m,h1,h2,h3,_,_⟩:=SA CS h
 have key:∀css:List (List V),(∀c∈css,c.length=10∧Aw dK.P H m 38 c)→∃sc:List Ac,sc.map Ac.cs=css∧∀a∈sc,a.ok H:=by
  intro css
  induction css with
  |nil=>exact fun _=>⟨[],rfl,fun a h=>by cases h⟩
  |cons c css ih=>
   intro h;obtain⟨sc,e1,e2⟩:=ih (fun x hx=>h x (List.mem_cons_of_mem _ hx));obtain⟨a,e3,e4⟩:=Wm (h c (List.mem_cons_self ..)).2;refine⟨a::sc,by rw[List.map_cons,e1,e3],fun x hx=> ?_⟩;rcases List.mem_cons.1 hx with rfl|hx
   ·exact e4
   ·exact e2 x hx
 obtain⟨sc,e1,e2⟩:=key css h3;exact⟨sc,by rw[←h1, ←e1,List.length_map],by rw[e1];exact h2,e2⟩
theorem Qg (sc:List Ac):pq 10 (sc.map Ac.cs):=by
 intro c hc;obtain⟨a,_,rfl⟩:=List.mem_map.1 hc;exact⟨rfl,fI a.db⟩
theorem SC {H:ag} {q:Oq} {sc:List Ac} (hr:Rd H q (sc.map Ac.cs).flatten) {i:Nat} (hi:i<sc.length):q.isSome=true∧H.inb (q.getD (0,0)).1 ((q.getD (0,0)).2+i*10) 10=true∧H.sub (q.getD (0,0)).1 ((q.getD (0,0)).2+i*10) 10=sc[i].cs∧H.inb (q.getD (0,0)).1 ((q.getD (0,0)).2+i*10+1) 1=true∧H.cell (q.getD (0,0)).1 ((q.getD (0,0)).2+i*10+1)=.int .u8 sc[i].kd:=by
 obtain⟨a,b,c⟩:=xh hr (Qg sc) (by omega) (i:=i) (by simpa using hi);obtain⟨_,d,e⟩:=jT hr (Qg sc) (i:=i) (k:=1) (by simpa using hi) (by omega);rw[List.getElem_map] at c e;exact⟨a,b,c,d,e⟩
theorem G6 (o:Ob) (p:Pg) (sure:Bool):(pt o p sure).su.length=o.su.length:=by
 unfold pt;split
 ·simp
 ·split
  ·exact df _ _
  ·rfl
theorem Qh (o:Ob) (h:Int) (c:Cm) (bP:List UInt8):(sj o h c bP).1.su.length=o.su.length:=by
 unfold sj;split
 ·rfl
 ·split
  ·rfl
  ·split
   ·rfl
   ·split
    ·exact G6 _ _ _
    ·split
     ·exact G6 _ _ _
     ·split
      ·exact df _ _
      ·split<;>rfl
theorem Ac.aan (a:Ac) (r:R) (n:Int):0≤(a.cm r n).nw∧(a.cm r n).nw≤4294967295:=by
 show 0≤a.nw % 4∧a.nw % 4≤_
 omega
section
variable {B:ag} {L:List cA} {H:ag} {K:V→ag→Prop} {x:Ui} {m:Gm} {mid:Nat}
theorem Qi (hm:dB B L m) (hg:m.g.In) (hform:m.g.cY=true) {n:Nat} (hn1:1≤n) (hn2:n≤65536) {q1:Oq} {c1:Nat} {sc:List Ac} (hsc:Rd B q1 (sc.map Ac.cs).flatten) (hok:∀a∈sc,a.ok B) {x2:Int} {cc:Cm} {Kr:Am.St→Prop} {Ke:Nat→Am.St→Prop}:∀(k i:Nat) (u:Un) (o:Ob) (N:Nat) {H:ag},i+k=20→o.su.length=n→Ug m.g u o [] N 0→u.s.a.bO≤0→N+(k+1)*(9*CW)<281474976710656→fG B H x m u (jL mid o::L)→(∀u' o' N' H',o'.su.length=n→Ug m.g u' o' [] N' 0→u'.s.a.bO≤0→N'+9*CW<281474976710656→fG B H' x m u' (jL mid o'::L)→Ke 0 (St.mk (ab [(2,T.v (V.int .i64 x2)),(7,T.lp 7 0),(12,T.v (V.int .i64 (n:Int))),(13,T.v (V.aj (some (x.js,0)))),(15,T.v (V.aj (some (mid,0))))]) (ab [(7,aO.cells 41 cc.cs)]) H'))→lo 4 10 (St.mk (ab [(1,T.v (V.slice q1 sc.length c1)),(2,T.v (V.int .i64 x2)),(7,T.lp 7 0),(12,T.v (V.int .i64 (n:Int))),(13,T.v (V.aj (some (x.js,0)))),(15,T.v (V.aj (some (mid,0)))),(16,T.v (V.int .i64 (i:Int)))]) (ab [(7,aO.cells 41 cc.cs)]) H) Kr Ke
 |0,i,u,o,N,H,hi,hl,U,ha,hN,hS,hk=>by
  conv in cc.cs=>unfold Cm.cs
  rw[NZ];simp only[Cm.oO]
  have e:(decide ((i:Int)<(sc.length:Int))&&decide ((i:Int)<20))=false:=by
   rw[←Bool.decide_and];exact decide_eq_false (by omega)
  rw[e,ai];exact hk u o N H hl U ha (by omega) hS
 |k+1,i,u,o,N,H,hi,hl,U,ha,hN,hS,hk=>by
  conv in cc.cs=>unfold Cm.cs
  rw[NZ];simp only[Cm.oO];by_cases hlt:i<sc.length∧i<20
  ·have e1:(i:Int)<(sc.length:Int):=by omega
   have e2:(i:Int)<20:=by omega
   have e3:0≤(i:Int):=by omega
   have e4:IntKind.i64.wrap ((i:Int)+1)=((i+1:Nat):Int):=aL (by omega);obtain⟨s1,s2',Jc,_,_⟩:=SC (hS.rd hsc) hlt.1;obtain⟨q,c,q2,c2,f1,f2,f3,f4,f5,f6,_⟩:=tD (mid:=mid) (o:=o) (hS.ord [6]);have hmem:=List.getElem_mem hlt.1;have hac:=hok _ hmem;obtain⟨a,haa⟩:∃a,a=sc[i]'hlt.1:=⟨_,rfl⟩;rw[←haa] at Jc hac;simp only[e1,e2,e3,decide_true,Bool.and_self,ak,s1,s2',Jc,Int.toNat_natCast,Ac.db,Ac.dX,Option.isSome_some,Nat.zero_add,f5,f6,R.db,R.dX,av,oV,oW,oX,Option.getD_some];refine Wi hS hac o.r (n:=(n:Int)) (by omega) (by omega) (fun H1 h1=> ?_);have h1:fG B H1 x m u (jL mid o::L):=h1;simp only[dm,dY,dA,fJ,dW,cI,Cm.db,Cm.dX,cL,aZ,Bool.or_false,Bool.and_self,av,List.length_cons,List.length_nil,Nat.reduceAdd,ij,decide_true];rw[Nat.succ_mul] at hN;refine Ay (hm.bW _) hg hform h1 U (by omega) (by have:=hg.s;simp;omega) ha (a.ho % 4) (a.cm o.r n) a.bP (a.Tz _ _) (Ac.TA hac _ _) (a.aan _ _) (by omega) (fun v q3 n3 H2 hd kp U2 h2=> ?_);have h3:fG B H2 x m v (jL mid o::L):=(h2.ord [6]).drop;simp only[dm,dY,dA,fJ,dW,cI,Rs.aI,cL,aZ,Bool.or_false,Bool.and_self,av,List.length_cons,List.length_nil,Nat.reduceAdd,ij,decide_true];refine GP (h3.ord [6]) U.ook (a.ho % 4) (a.cm o.r n) (a.aaj _ _ hac.kd).1 a.bP (a.Tz _ _) (Ac.TA hac _ _) (fun H4 h4=> ?_);have h5:fG B H4 x m v (jL mid (sj o (a.ho % 4) (a.cm o.r n) a.bP).1::L):=h4.ord [1,1,1,1,1,1];have e9:V.aJ 3 (.tuple [.int .i64 (sj o (a.ho % 4) (a.cm o.r n) a.bP).2.e,.cG (cJ (sj o (a.ho % 4) (a.cm o.r n) a.bP).2.d),.agg (sj o (a.ho % 4) (a.cm o.r n) a.bP).2.r.cs])=true:=rfl;have Nd:∀a b c:V,ae [a,b,c] 2=c:=fun _ _ _=>rfl
   simp only[e9,Nd,dY,dA,fJ,dW,cI,R.db,cL,jS,Bool.or_false,Bool.and_self,av,e4];exact Qi (c1:=c1) (Kr:=Kr) (Ke:=Ke) hm hg hform hn1 hn2 hsc hok k (i+1) v _ (N+9*CW) (by omega) (by rw[Qh];exact hl) U2 (kp.AR ha).1 (by omega) h5 hk
  ·have e:(decide ((i:Int)<(sc.length:Int))&&decide ((i:Int)<20))=false:=by
    rw[←Bool.decide_and];exact decide_eq_false (by omega)
   rw[e,ai];rw[Nat.succ_mul] at hN;exact hk u o N H hl U ha (by omega) hS
theorem G7 (h0:az H H []) (x0:Int) (q:Oq) (len cap:Nat) (x2:Int) (c:Cm) (l0:0≤x0) (g0:x0≤255) (hs:MF dK.P H 38 q len cap) (_: -9223372036854775808≤x2) (_:x2≤9223372036854775807) (hc:∃bP:List UInt8,c.dn=bP.length∧lO H c.dp bP∧(0≤c.kd∧c.kd≤255)∧(0≤c.nw∧c.nw≤4294967295)):cl 4 [.int .u8 x0,.slice q len cap,.int .i64 x2,.agg c.cs] H fun v _=>v=.bool true:=by
 obtain⟨sc,rfl,hsc,hok⟩:=ML hs;obtain⟨bP,hd,hr,hkd,TX⟩:=hc
 conv in c.cs=>unfold Cm.cs
 rw[eq4];refine G5 h0 (fun H1 h1=> ?_);simp only[Cm.oO,ey,bR,av,Bool.not_true,Bool.not_false,cond_true];by_cases aaV:(c.dn:Int)>300
 ·simp only[aaV,decide_true,ak];refine G5 h1 (fun H2 h2=> ?_);simp only[ey,bR,av]
 simp only[aaV,decide_false,ai];obtain⟨n0,rfl⟩:∃n0:Nat,x0=(n0:Int):=⟨x0.toNat,by omega⟩;refine xk h1 n0 (by omega) (fun m H2 Qy hmc h2=> ?_);have hform:m.g.cY=true:=by rw[Qy];exact F1 n0 (by omega)
 have hl:m.g.bI.length≤1000000:=by rw[Qy];unfold VD;simp only;split<;>simp
 have SW:=ct.eW hform;have hg:=SW.in hl;have qJ:=ct.nW hform;have hlt:=tE hg SW;have hv:m.v=.agg (dS m.g.aE m.g.aA m.g.aH m.q m.g.bI.length m.c):=rfl;have K6:∀L:List cA,dB H (JT m::L) m:=fun L=>JT.ok hmc
 rw[hv];simp only[dW,cI,vr,vq,Bool.and_self,av,f25,uH,mC,mD,mE,mF,aZ,bD,aT,cq];refine KX h2 (K6 []) hform hg (fun aM a H3 U0 ha0 TS _ h3=> ?_);simp only[AJ,reduceIte,Nat.reduceEqDiff, ←hv];refine Ry h3 ((K6 []).bW _) hg (fun H4 h4=> ?_);simp only[AJ,reduceIte,Nat.reduceEqDiff];refine wM h4 (K6 []) hform hg U0 (by omega) (by omega) (ep:=1) ⟨by omega,by omega⟩ (by rw[TS];decide) (fun x u H5 hx U1 MX SK he1 _ h5=> ?_);obtain⟨N,hN⟩:∃N:Nat,m.g.cap=(N:Int):=⟨m.g.cap.toNat,by omega⟩;have hN2:m.g.cap.toNat=N:=by omega
 rw[hN2] at U1;simp only[AJ,reduceIte,Nat.reduceEqDiff,hN];refine Sd h5 (by omega) (by omega) (fun mid H6 h6=> ?_);simp only[AJ,reduceIte,Nat.reduceEqDiff];have h7:fG H H6 x m u (jL mid (vm N)::JT m::[]):=h6.ord [1,1,1,1,1,1];have TG:(vm N).su.length=N:=List.length_replicate;refine Qi (K6 []) hg hform (by omega) (by omega) hsc hok 20 0 u (vm N) 0 (by omega) TG U1 MX (by decide) h7 (fun u' o' N' H8 hl8 U8 ha8 hN8 h8=> ?_);simp only[AJ,reduceIte,Nat.reduceEqDiff,Cm.db,Cm.dX];refine Ay ((K6 []).bW _) hg hform h8 U8 (by omega) (by have:=hg.s;simp;omega) ha8 x2 c bP hd (kU.of hr) TX hN8 (fun v q9 n9 H9 hd9 kp U9 h9=> ?_);simp only[AJ,reduceIte,Nat.reduceEqDiff,Rs.aI];refine GP (h9.ord [7]) U8.ook x2 c hkd.1 bP hd (kU.of hr) (fun H10 xO=> ?_);have Bv:lO H10 q9 (sj o' x2 c bP).2.d:=(xO.ord [7]).iV;have AX:fG H H10 x m v (jL mid (sj o' x2 c bP).1::BY q9 n9 (sj o' x2 c bP).2.d::JT m::[]):=xO.ord [1,1,1,1,1,1];have e9:V.aJ 3 (.tuple [.int .i64 (sj o' x2 c bP).2.e,.cG (cJ (sj o' x2 c bP).2.d),.agg (sj o' x2 c bP).2.r.cs])=true:=rfl;have Nd:∀a b c:V,ae [a,b,c] 2=c:=fun _ _ _=>rfl
 simp only[e9,Nd,dY,dA,fJ,dW,cI,R.db,R.dX,cL,jS,Bool.or_false,Bool.and_self,av,aZ,fV,decide_true,ak,Rs.open];rw[Se Bv];simp only[ey,bR,av,ak];have hl9:(sj o' x2 c bP).1.su.length=N:=by rw[Qh];exact hl8
 have hgo:eK (sj o' x2 c bP).1.r:=by obtain⟨_,_,htb⟩:=U9.t;exact htb.P6
 have:=Qd (K:=fun v _=>ah (V.aw .bool v) (V.bool (V.an v)=V.bool true)) ((K6 []).bW _) hg ⟨by omega,by omega⟩ U9 (by omega) U9.ook hgo rfl AX (fun b Xp hb h12=> ?_)
 ·rw[hl9] at this;exact this
 ·have M5:b=true:=hb.2 ⟨rfl,rfl,fun _ _=>rfl⟩;rw[M5];simp only[ey,bR,av]
end
theorem oy:ownKnob Tryz.prog.godebug=none:=by kernel_rfl
theorem acJ:laidOutB Tryz.prog=true:=by kernel_rfl
theorem Wo {l:List TypeId} (h:(l.all fun t=>Tryz.prog.readableRec t&&Nat.blt t Tryz.prog.types.size)=true):∀t∈l,dK.P.readableRec t=true∧t<dK.P.types.size:=by
 intro t ht;have h1:=List.all_eq_true.1 h t ht;rw[Bool.and_eq_true] at h1;exact⟨h1.1,Nat.le_of_ble_eq_true h1.2⟩
end Go.Proofs.YtlgdkndamddpkaaGreat
end
