/- Part 6 of the texts behind the law UnitFlushes: what its row needs (an abstract machine, its equations, and what the program computes). -/
import Derived.Below
import Derived.ChangeSame
import Derived.WideKeyArgs
import Derived.OpenShut
import Derived.ProofKit
import Derived.Test.YtlgdkndamddpkaaGreatP5
set_option maxRecDepth 100000
set_option linter.unusedSimpArgs false
set_option linter.unusedVariables false
set_option linter.unusedSectionVars false
section
namespace Go.Proofs.YtlgdkndamddpkaaGreat
open Go.Am
structure R.ok (r:R):Prop where
 k:∀i,0≤r.k i∧r.k i≤4294967295
 ty:0≤r.ty∧r.ty≤255
 ho: -1≤r.ho∧r.ho≤254
 ge:0≤r.ge∧r.ge≤4294967295
def xF (k:Nat→Int):Nat→List UInt8
 |0=>[]
 |n+1=>xF k n++le (k n).toNat 4
theorem gk (k:Nat→Int):∀n,(xF k n).length=4*n
 |0=>rfl
 |n+1=>by rw[xF,List.length_append,gk k n,DK];omega
def gY (r:R) (boots:Nat):List UInt8:=
 xF r.k 8++le r.ty.toNat 1++le (r.ho+1).toNat 1++le r.ge.toNat 4++le (if r.la=true then 1 else 0) 1++le boots 4
theorem vl (r:R) (boots:Nat):(gY r boots).length=43:=by
 simp [gY,gk]
theorem oR {x:Int} (h0:0≤x) (h1:x≤18446744073709551615):IntKind.u64.wrap x=(x.toNat:Int):=by
 rw[IntWalk.u64_in _ ⟨h0,h1⟩];omega
section
variable {B:ag} {L:List cz} {H:ag} {K:V→ag→Prop} {q:Oq} {cap:Nat}
theorem Cu (r:R) (hr:r.ok) (x1:Int) {Kr:Am.St→Prop} {Ke:Nat→Am.St→Prop}:∀(n i:Nat) {q:Oq} {cap:Nat} {H:ag},i+n=8→az B H (BY q cap (xF r.k i)::L)→(∀q' c' H',az B H' (BY q' c' (xF r.k 8)::L)→Ke 0 (St.mk (ab [(1,T.v (V.int .i64 x1)),(2,T.lp 2 0),(5,T.v (V.slice q' (xF r.k 8).length c'))]) (ab [(2,aO.cells 46 r.cs)]) H'))→lo 83 3 (St.mk (ab [(1,T.v (V.int .i64 x1)),(2,T.lp 2 0),(5,T.v (V.slice q (xF r.k i).length cap)),(10,T.v (V.agg (w9 (r.k 0) (r.k 1) (r.k 2) (r.k 3) (r.k 4) (r.k 5) (r.k 6) (r.k 7)))),(11,T.v (V.int .i64 (i:Int)))]) (ab [(2,aO.cells 46 r.cs)]) H) Kr Ke
 |0,i,q,cap,H,hi,h,k=>by
  obtain rfl:i=8:=by omega
  have:=k _ _ _ h;unfold R.cs at this⊢;rw[N5];(try simp only[NQ]);exact this
 |n+1,i,q,cap,H,hi,h,k=>by
  have e1:decide ((i:Int)<8)=true:=by simp;omega
  have e2:decide (0≤(i:Int))=true:=by simp
  have e3:Int.toNat (i:Int)*1=i:=by simp
  have e6:Nat.ble (Nat.succ i) 8=true:=by simp;omega
  have e7:=hr.k i;unfold R.cs;rw[N5];(try simp only[NQ]);rw[aK (by omega)];simp only[e1,e2,e3,e6,Ab r.k (show i<8 by omega),cO,bf,ao,ay,Bool.and_self];rw[oR e7.1 (by omega)];refine eF (r.k i).toNat 4 h (by omega) (by rw[gk];omega) (fun q' c' H' h'=> ?_);simp only[AK,reduceIte,Nat.reduceEqDiff];exact Cu r hr x1 n (i+1) (by omega) h' k
theorem Mh (r:R) (hr:r.ok) (boots:Nat) (hb:boots<18446744073709551616) (hb':boots<9223372036854775808) (h:az B H L) (k:∀q' c' H',az B H' (BY q' c' (gY r boots)::L)→K (.slice q' (gY r boots).length c') H'):cl 83 [.agg r.cs,.int .i64 (boots:Int)] H K:=by
 unfold R.cs;rw[abQ];(try simp only[NQ]);refine Cu (q:=none) (cap:=0) r hr boots 8 0 (by omega) (kE h) (fun q1 c1 H1 h1=> ?_);unfold R.cs;simp only[AK,reduceIte,Nat.reduceEqDiff,f45,TW,NA,NB,NC,ND,NF,NG,NH,NI,NJ,NK,HX,HY];have k1:=hr.ty;have k2:=hr.ho;have k3:=hr.ge;rw[oR k1.1 (by omega)];refine eF r.ty.toNat 1 h1 (by omega) (by rw[gk];omega) (fun q2 c2 H2 h2=> ?_);simp only[AK,reduceIte,Nat.reduceEqDiff];rw[bq (by omega) (by omega),oR (by omega) (by omega)];refine eF (r.ho+1).toNat 1 h2 (by omega) (by simp [gk]) (fun q3 c3 H3 h3=> ?_)
 have aaC:∀(b:Bool),r.la=b→ah (aB (KT.k (cg.int IntKind.u64)) (some (T.v (V.int IntKind.u64 (((if r.la=true then 1 else 0:Nat)):Int))))||false||false)
  (cl 119 [V.slice q3 (xF r.k 8++le r.ty.toNat 1++le (r.ho+1).toNat 1).length c3,V.int IntKind.u64 (IntKind.u64.wrap r.ge),V.int IntKind.i64 4] H3 fun v H'=>
   ah (V.av cg.slice v) (cl 119 [V.slice (V.au v) (V.ax v) (V.aC v),V.int IntKind.u64 (((if r.la=true then 1 else 0:Nat)):Int),V.int IntKind.i64 1] H' fun v H'=>
    ah (V.av cg.slice v) (cl 119 [V.slice (V.au v) (V.ax v) (V.aC v),V.int IntKind.u64 (IntKind.u64.wrap boots),V.int IntKind.i64 4] H' fun v H'=>
     ah (V.av cg.slice v) (K (V.slice (V.au v) (V.ax v) (V.aC v)) H')))):=by
  intro b hb0;rw[oR k3.1 (by omega),cI hb];simp only[AK,reduceIte,Nat.reduceEqDiff];refine eF r.ge.toNat 4 h3 (by omega) (by simp [gk]) (fun q4 c4 H4 h4=> ?_);simp only[AK,reduceIte,Nat.reduceEqDiff];refine eF _ 1 h4 (by omega) (by simp [gk]) (fun q5 c5 H5 h5=> ?_);simp only[AK,reduceIte,Nat.reduceEqDiff];refine eF boots 4 h5 (by omega) (by simp [gk]) (fun q6 c6 H6 h6=> ?_);simp only[AK,reduceIte,Nat.reduceEqDiff];exact k _ _ _ h6
 have:=aaC r.la rfl;cases hl:r.la
 ·simpa [hl,AK,reduceIte,Nat.reduceEqDiff] using this
 ·simpa [hl,AK,reduceIte,Nat.reduceEqDiff] using this
end
def Cv (s:RS):Nat→RS×(Nat→Int)
 |0=>(s,fun _=>0)
 |n+1=>(((Cv s n).1.num 4 4294967295).2,cx (Cv s n).2 n (((Cv s n).1.num 4 4294967295).1:Nat))
structure Z4 where
 r:R
 n:Nat
 e:RS
def As (s:RS×(Nat→Int)):Z4:=
 let a:=s.1.num 1 255
 let b:=a.2.num 1 8
 let c:=b.2.num 4 4294967295
 let d:=c.2.num 1 1
 let e:=d.2.num 4 2147483647
 ⟨⟨s.2,(a.1:Nat),(b.1:Nat)-1,(c.1:Nat),decide ((d.1:Int)=1)⟩,e.1,e.2⟩
def tw (bs:List UInt8):Z4:=As (Cv ⟨bs,false⟩ 8)
def R9 (bs:List UInt8):Option (R×Nat):=
 if (tw bs).e.bI=false∧(tw bs).e.bs=[]∧o7 (tw bs).r=true then some ((tw bs).r,(tw bs).n) else none
def l8 (bs:List UInt8):R:=
 ⟨fun i=>if i<8 then (dH ((bs.drop (4*i)).take 4):Nat) else 0,(bs.getD 32 0).toNat,((bs.getD 33 0).toNat:Int)-1,(dH ((bs.drop 34).take 4):Nat),decide (((bs.getD 38 0).toNat:Int)=1)⟩
def nZ (bs:List UInt8):Bool:=decide (bs.length=43)&&(decide ((bs.getD 33 0).toNat≤8)&&(decide ((bs.getD 38 0).toNat≤1)&&decide ((bs.getD 42 0).toNat≤127)))
def Ez (bs:List UInt8):Option (R×Nat):=
 if nZ bs=true∧o7 (l8 bs)=true then some (l8 bs,dH ((bs.drop 39).take 4)) else none
theorem At (s:RS) (size most:Nat):(s.num size most).1≤most:=by
 unfold RS.num;split
 ·exact Nat.zero_le _
 ·simp only[];omega
theorem Tk (l:List UInt8):dH (l.take 4)≤4294967295:=by
 have:=xQ (l.take 4);have h:(256:Nat) ^ (l.take 4).length≤256 ^ 4:=Nat.pow_le_pow_right (by omega) (by rw[List.length_take];omega);have h2:(256:Nat) ^ 4=4294967296:=by decide
 omega
theorem vm (bs:List UInt8):∀n,4*n≤bs.length→Cv ⟨bs,false⟩ n=(⟨bs.drop (4*n),false⟩,fun i=>if i<n then ((dH ((bs.drop (4*i)).take 4):Nat):Int) else 0)
 |0,_=>by simp [Cv]
 |n+1,h=>by
  rw[Cv,vm bs n (by omega)];simp only[];rw[kh (by simp;omega) (Tk _)];simp only[List.drop_drop];refine Prod.ext ?_ ?_
  ·simp only[];congr 1
  ·funext i;simp only[cx];by_cases h1:i=n
   ·subst h1;simp
   ·by_cases h2:i<n
    ·have:i<n+1:=by omega
     simp [h1,h2,this]
    ·have:¬i<n+1:=by omega
     simp [h1,h2,this]
theorem KJ (bs:List UInt8):∀n,(Cv ⟨bs,false⟩ n).1.bI=false→4*n≤bs.length
 |0,_=>by omega
 |n+1,h=>by
  rw[Cv] at h;obtain⟨h1,h2,_,_⟩:=iI h;have:=KJ bs n h1;rw[vm bs n this] at h2;simp at h2;omega
theorem IZ {bs:List UInt8} {i:Nat} (h:i<bs.length):(bs.drop i).take 1=[bs.getD i 0]:=by
 rw[List.drop_eq_getElem_cons h];simp only[List.getD,List.getElem?_eq_getElem h,Option.getD_some,List.take_succ_cons,List.take_zero]
theorem gQ {bs:List UInt8} {i:Nat} (h:i<bs.length):dH ((bs.drop i).take 1)=(bs.getD i 0).toNat:=by
 rw[IZ h];simp [dH]
theorem Cw {bs:List UInt8} (h:bs.length=43):dH ((bs.drop 39).take 4)≤2147483647↔(bs.getD 42 0).toNat≤127:=by
 have e:(bs.drop 39).take 4=(bs.drop 39).take 3++[bs.getD 42 0]:=by
  rw[List.take_add_one,List.getElem?_drop];simp [List.getD,h]
 have h3:=xQ ((bs.drop 39).take 3);have hl:((bs.drop 39).take 3).length=3:=by simp [h]
 rw[e,qh,hl];rw[hl] at h3;have h2:(256:Nat) ^ 3=16777216:=by decide
 rw[h2] at h3⊢;simp only[dH];omega
theorem V2 (bs:List UInt8):R9 bs=Ez bs:=by
 unfold R9 Ez;by_cases hl:bs.length=43
 ·have h1:Cv ⟨bs,false⟩ 8=_:=vm bs 8 (by omega);have h2:(RS.mk (bs.drop 32) false).num 1 255=_:=kh (by simp;omega) (by rw[gQ (by omega)];have:=(bs.getD 32 0).toNat_lt;omega);by_cases h33:(bs.getD 33 0).toNat≤8
  ·have h3:(RS.mk (bs.drop 33) false).num 1 8=_:=kh (by simp;omega) (by rw[gQ (by omega)];exact h33);have h4:(RS.mk (bs.drop 34) false).num 4 4294967295=_:=kh (by simp;omega) (Tk _);by_cases h38:(bs.getD 38 0).toNat≤1
   ·have h5:(RS.mk (bs.drop 38) false).num 1 1=_:=kh (by simp;omega) (by rw[gQ (by omega)];exact h38);by_cases h42:(bs.getD 42 0).toNat≤127
    ·have h6:(RS.mk (bs.drop 39) false).num 4 2147483647=_:=kh (by simp;omega) ((Cw hl).2 h42)
     have hd:tw bs=⟨l8 bs,dH ((bs.drop 39).take 4),⟨[],false⟩⟩:=by
      unfold tw As l8;simp only[h1,h2,List.drop_drop,h3,h4,h5,h6,gQ (show 32<bs.length by omega),gQ (show 33<bs.length by omega),gQ (show 38<bs.length by omega)];simp [hl]
     have hg:nZ bs=true:=by unfold nZ;rw[decide_eq_true hl,decide_eq_true h33,decide_eq_true h38,decide_eq_true h42];rfl
     rw[hd,hg];simp
    ·have h6:(RS.mk (bs.drop 39) false).num 4 2147483647=_:=uP (by simp;omega) (by have:=Cw hl;omega)
     have hd:(tw bs).e.bI=true:=by
      unfold tw As;simp only[h1,h2,List.drop_drop,h3,h4,h5,h6]
     have hg:nZ bs=false:=by unfold nZ;rw[decide_eq_false h42];simp
     rw[hd,hg];simp
   ·have h5:(RS.mk (bs.drop 38) false).num 1 1=_:=uP (by simp;omega) (by rw[gQ (by omega)];omega)
    have hd:(tw bs).e.bI=true:=by
     unfold tw As;simp only[h1,h2,List.drop_drop,h3,h4,h5];exact uQ rfl
    have hg:nZ bs=false:=by unfold nZ;rw[decide_eq_false h38];simp
    rw[hd,hg];simp
  ·have h3:(RS.mk (bs.drop 33) false).num 1 8=_:=uP (by simp;omega) (by rw[gQ (by omega)];omega)
   have hd:(tw bs).e.bI=true:=by
    unfold tw As;simp only[h1,h2,List.drop_drop,h3];exact uQ (uQ (uQ rfl))
   have hg:nZ bs=false:=by unfold nZ;rw[decide_eq_false h33];simp
   rw[hd,hg];simp
 ·have hg:nZ bs=false:=by unfold nZ;rw[decide_eq_false hl];simp
  rw[hg,if_neg (fun h:false=true∧_=>by cases h.1),if_neg];rintro⟨hb,he,_⟩;unfold tw As at hb he;simp only[] at hb he;obtain⟨b1,l1,_,e1⟩:=iI hb;obtain⟨b2,l2,_,e2⟩:=iI b1;obtain⟨b3,l3,_,e3⟩:=iI b2;obtain⟨b4,l4,_,e4⟩:=iI b3;obtain⟨b5,l5,_,e5⟩:=iI b4;have hk:=KJ bs 8 b5;have h1:Cv ⟨bs,false⟩ 8=_:=vm bs 8 hk;rw[e1,e2,e3,e4,e5,h1] at he;rw[e2,e3,e4,e5,h1] at l1;rw[List.drop_drop,List.drop_drop,List.drop_drop,List.drop_drop,List.drop_drop,List.drop_eq_nil_iff] at he;simp at l1;omega
section
variable {B:ag} {L:List cz} {H:ag} {K:V→ag→Prop} {q:Oq} {cap:Nat} {bs:List UInt8} {id:Nat}
theorem Cx {Kr:Am.St→Prop} {Ke:Nat→Am.St→Prop}:∀(n i:Nat) {H:ag},i+n=8→nI B H L id (Cv ⟨bs,false⟩ i).1→(∀H',nI B H' L id (Cv ⟨bs,false⟩ 8).1→Ke 0 (St.mk (ab [(2,T.lp 2 0),(5,T.v (V.aj (some (id,0)))),(6,T.lp 6 0)]) (ab [(2,aO.cells 46 (bH 0 0 0 0 0 0 0 0 0 0 0 false)),(6,aO.cells 46 (R.cs ⟨(Cv ⟨bs,false⟩ 8).2,0,0,0,false⟩))]) H'))→lo 41 4 (St.mk (ab [(2,T.lp 2 0),(5,T.v (V.aj (some (id,0)))),(6,T.lp 6 0),(11,T.v (V.int .i64 (i:Int)))]) (ab [(2,aO.cells 46 (bH 0 0 0 0 0 0 0 0 0 0 0 false)),(6,aO.cells 46 (R.cs ⟨(Cv ⟨bs,false⟩ i).2,0,0,0,false⟩))]) H) Kr Ke
 |0,i,H,hi,h,k=>by
  obtain rfl:i=8:=by omega
  have:=k _ h;unfold R.cs at this⊢;rw[N3];(try simp only[NQ]);exact this
 |n+1,i,H,hi,h,k=>by
  have e1:decide ((i:Int)<8)=true:=by simp;omega
  have e2:decide (0≤(i:Int))=true:=by simp
  have e3:0+Int.toNat (i:Int)*1=i:=by simp
  have hm:=At (Cv ⟨bs,false⟩ i).1 4 4294967295;unfold R.cs;rw[N3];(try simp only[NQ]);rw[aK (by omega),e1,ao];refine kG h 4 4294967295 (by omega) (fun H' h'=> ?_);rw[bf,uG (by omega)];have hst:=iB (((Cv ⟨bs,false⟩ i).1.num 4 4294967295).1:Nat) 0 0 false (show i<8 by omega);have QC:=oN ⟨(Cv ⟨bs,false⟩ i).2,0,0,0,false⟩ (show i<8 by omega) (((Cv ⟨bs,false⟩ i).1.num 4 4294967295).1:Nat) 0 0 0 false;simp only[e1,e2,e3,hst,QC,cO,ao,ay,Bool.and_self];exact Cx n (i+1) (by omega) h' k
def I0:Option (R×Nat)→V
 |some (r,n)=>.tuple [.agg r.cs,.int .i64 (n:Int),.int .i64 0]
 |none=>.tuple [.agg (bH 0 0 0 0 0 0 0 0 0 0 0 false),.int .i64 0,.int .i64 3]
theorem Mi (h:az B H L) (hr:lM B L q bs) (hc:bs.length≤cap) (k:∀H',az B H' L→K (I0 (Ez bs)) H'):cl 41 [.slice q bs.length cap] H K:=by
 rw[abN];(try simp only[NQ]);refine JQ h hr hc (fun id H1 h1=> ?_);simp only[AK,reduceIte,Nat.reduceEqDiff];refine Cx (bs:=bs) 8 0 (by omega) h1 (fun H2 h2=> ?_);have hk':∀H',az B H' L→K (I0 (R9 bs)) H':=fun H' h'=>by rw[V2];exact k H' h'
 unfold R9 tw at hk';generalize Cv ⟨bs,false⟩ 8=s at h2 hk'⊢;obtain⟨s,ks⟩:=s;unfold R.cs;simp only[AK,reduceIte,Nat.reduceEqDiff,f45,TW,NA,NB,NC,ND,NF,NG,NH,NI,NJ,NK,HX,HY];refine kG h2 1 255 (by omega) (fun H3 h3=> ?_);simp only[AK,reduceIte,Nat.reduceEqDiff];refine kG h3 1 8 (by omega) (fun H4 h4=> ?_);simp only[AK,reduceIte,Nat.reduceEqDiff];refine kG h4 4 4294967295 (by omega) (fun H5 h5=> ?_);simp only[AK,reduceIte,Nat.reduceEqDiff];refine kG h5 1 1 (by omega) (fun H6 h6=> ?_);simp only[AK,reduceIte,Nat.reduceEqDiff];refine kG h6 4 2147483647 (by omega) (fun H7 h7=> ?_);have m1:=At s 1 255;have m2:=At (s.num 1 255).2 1 8;have m3:=At ((s.num 1 255).2.num 1 8).2 4 4294967295;have m4:=At ((((s.num 1 255).2.num 1 8).2.num 4 4294967295).2.num 1 1).2 4 2147483647
 have hd:As (s,ks)=⟨⟨ks,((s.num 1 255).1:Nat),(((s.num 1 255).2.num 1 8).1:Nat)-1,((((s.num 1 255).2.num 1 8).2.num 4 4294967295).1:Nat),
  decide ((((((s.num 1 255).2.num 1 8).2.num 4 4294967295).2.num 1 1).1:Int)=1)⟩,(((((s.num 1 255).2.num 1 8).2.num 4 4294967295).2.num 1 1).2.num 4 2147483647).1,(((((s.num 1 255).2.num 1 8).2.num 4 4294967295).2.num 1 1).2.num 4 2147483647).2⟩:=rfl
 simp only[hd] at hk';simp only[AK,reduceIte,Nat.reduceEqDiff,Vx h7];dsimp+instances only[bf];obtain⟨q7,c7,_,_,h7⟩:=h7.ex;have hk:=hk' H7 h7.drop;generalize s.num 1 255=a at m1 m2 m3 m4 hk⊢;generalize a.2.num 1 8=b at m2 m3 m4 hk⊢;generalize b.2.num 4 4294967295=c at m3 m4 hk⊢;generalize c.2.num 1 1=d at m4 hk⊢;generalize d.2.num 4 2147483647=e at m4 hk⊢;rw[xc,uF (n:=b.1) (by omega),bq (by omega) (by omega),uG (by omega),uF (by omega)];have e8:((UInt8.ofNat a.1).toNat:Int)=(a.1:Nat):=by simp;omega
 rw[e8,R.vg ks];generalize R.mk ks (a.1:Nat) ((b.1:Nat)-1) (c.1:Nat) (decide ((d.1:Int)=1))=r at hk⊢;simp only[PT];cases hb:e.2.bI
 ·by_cases hn:e.2.bs=[]
  ·cases hf:o7 r
   ·simpa [hb,hn,hf,I0] using hk
   ·simpa [hb,hn,hf,I0] using hk
  ·simpa [hb,hn,I0] using hk
 ·simpa [hb,I0] using hk
end
def KF:Nat:=200
structure Un where
 s:FS
 ps:List Pg
 r:R
 down:Bool
def GN (g:ct) (s:FS) (p:Pg):Option (FS×Int):=
 if p.cw=true then Kd g KF s p.aq.toNat else u6 g KF KF s (Te p.aq.toNat p.data)
def hH (g:ct):List Pg→FS→List Pg→Option (FS×List Pg×Int)
 |[],s,ps=>some (s,ps,0)
 |p::l,s,ps=>match GN g s p with
  |none=>none
  |some r=>if r.2=0 then hH g l r.1 (fC ps p.aq) else some (r.1,ps,r.2)
def EA (g:ct) (s:FS) (ps:List Pg) (p:Pg) (sure:Bool):Option (FS×List Pg×Int):=
 if sure=true then (match GN g s p with
  |none=>none
  |some r=>if r.2=0 then some (r.1,fC ps p.aq,0) else some (r.1,ps,r.2))
 else if (gX ps p).2≠11 then some (s,(gX ps p).1,0)
 else match hH g ps s ps with
  |none=>none
  |some r=>if r.2.2=0 then some (r.1,(gX r.2.1 p).1,(gX r.2.1 p).2) else some r
def js (u:Un):Un×Int:=
 if u.s.a.off=true then ({u with down:=true},9) else if u.down=true∨(u.s.f.ep:Int)<u.s.a.aR then ({u with down:=true},7) else (u,0)
structure Ui where
 jt:Nat
 AQ:Nat
 aM:Nat
 fid:Nat
 mid:Nat
 pid:Nat
def M3 (x:Ui) (m:Gm) (u:Un):List V:=
 c92 (some (x.aM,0)) m.g.aD m.g.aA m.g.aH m.q m.g.bI.length m.c (some (x.fid,0)) (some (x.AQ,0)) (u.r.k 0) (u.r.k 1) (u.r.k 2) (u.r.k 3) (u.r.k 4) (u.r.k 5) (u.r.k 6) (u.r.k 7) u.r.ty u.r.ho u.r.ge u.r.la u.down
section
variable {B:ag} {L:List cz} {H:ag} {K:V→ag→Prop} {x:Ui} {m:Gm} {u:Un}
abbrev fF (B H:ag) (x:Ui) (m:Gm) (u:Un) (L:List cz):Prop:=
 az B H (di x.jt 93 (M3 x m u)::eT x.AQ u.ps::di x.fid 120 (RK x.aM m u.s.f x.mid x.pid)::uX x.mid u.s.f.pm::D4 x.pid u.s.f.po::dO x.aM u.s.a::L)
theorem fF.fs (h:fF B H x m u L):fZ B H x.aM x.fid x.mid x.pid m u.s (di x.jt 93 (M3 x m u)::eT x.AQ u.ps::L):=h.ord [2,2,2,2]
theorem fF.nX (h:fF B H x m u L):az B H (eT x.AQ u.ps::di x.jt 93 (M3 x m u)::di x.fid 120 (RK x.aM m u.s.f x.mid x.pid)::uX x.mid u.s.f.pm::D4 x.pid u.s.f.po::dO x.aM u.s.a::L):=h.ord [1]
theorem fF.vx (h:fF B H x m u L):az B H (dO x.aM u.s.a::di x.jt 93 (M3 x m u)::eT x.AQ u.ps::di x.fid 120 (RK x.aM m u.s.f x.mid x.pid)::uX x.mid u.s.f.pm::D4 x.pid u.s.f.po::L):=h.ord [5]
theorem fF.Z5 {s:FS} (h:fZ B H x.aM x.fid x.mid x.pid m s (di x.jt 93 (M3 x m u)::eT x.AQ u.ps::L)):fF B H x m {u with s:=s} L:=h.ord [4,4]
structure UnG (H:ag) (x:Ui) (m:Gm) (u:Un):Prop where
 i:∀k<20,H.inb x.jt k 1=true
 c0:H.cell x.jt 0=.aj (some (x.aM,0))
 c5:H.cell x.jt 5=.aj (some (x.fid,0))
 c6:H.cell x.jt 6=.aj (some (x.AQ,0))
 c19:H.cell x.jt 19=.bool u.down
 g:H.inb x.jt 1 4=true∧H.sub x.jt 1 4=dK m.g.aD m.g.aA m.g.aH m.q m.g.bI.length m.c
 r:H.inb x.jt 7 12=true∧H.sub x.jt 7 12=u.r.cs
 w:H.wr x.jt 19 1=true
 wr:H.wr x.jt 7 12=true
theorem Cy (h:fF B H x m u L):UnG H x m u:=by
 have hg:=h.get;refine⟨fun k hk=>nG hg (by show k<20;exact hk),aY hg 0,aY hg 5,aY hg 6,aY hg 19,⟨dD hg 1 4, ?_⟩,⟨dD hg 7 12, ?_⟩,fJ hg 19 1,fJ hg 7 12⟩
 ·rw[kS hg];rfl
 ·rw[kS hg];rfl
theorem fF.vn (h:fF B H x m u L) (b:Bool):fF B (H.store x.jt 19 [.bool b]) x m {u with down:=b} L:=by
 obtain⟨w,h1⟩:=az.BS (k:=19) h (by show 19<20;omega) (.bool b);exact h1
theorem GO (h:fF B H x m u L) (k:∀H',fF B H' x m (js u).1 L→K (.int .i64 (js u).2) H'):cl 44 [.aj (some (x.jt,0))] H K:=by
 have g:=Cy h;rw[abg];simp only[AN,reduceIte,Nat.reduceEqDiff,Option.isSome_some,Nat.zero_add,g.i 0 (by omega),g.c0];rw[ZQ h.vx];simp only[AN,reduceIte,Nat.reduceEqDiff];unfold js at k;by_cases ho:u.s.a.off=true
 ·rw[if_pos ho] at k;simp only[ho,Bool.not_true,Bool.not_false,ao,g.w,Option.isSome_some,Nat.zero_add,ay];exact k _ (h.vn true)
 rw[if_neg ho] at k;have ho':u.s.a.off=false:=by simpa using ho
 have FN:∀K:V→ag→Prop,cl 76 [.aj (some (x.aM,0))] H K=K (.int .u64 u.s.a.aR) H:=fun K=>On h.vx
 have EP:∀K:V→ag→Prop,cl 58 [.aj (some (x.fid,0))] H K=K (.int .u64 (u.s.f.ep:Int)) H:=fun K=>Cc h.fs
 simp only[ho',Bool.not_false,Bool.not_true,ai,eg,Option.isSome_some,Nat.zero_add,g.i 19 (by omega),g.c19,g.i 0 (by omega),g.c0,g.i 5 (by omega),g.c5,FN,EP,g.w,AJ,reduceIte,Nat.reduceEqDiff];by_cases hd:u.down=true
 ·rw[if_pos (.inl hd)] at k;have:=k _ (h.vn true);simp only[hd,Bool.not_true,ai,ao,and_self];exact this
 ·have hd':u.down=false:=by simpa using hd
  simp only[hd',Bool.not_false,ao];by_cases hf:(u.s.f.ep:Int)<u.s.a.aR
  ·rw[if_pos (.inr hf)] at k;have:=k _ (h.vn true);have hf':u.s.a.aR>(u.s.f.ep:Int):=hf;simp only[hf',decide_true,ao,and_self];exact this
  ·rw[if_neg (fun e=>e.elim hd hf)] at k;have hf':¬u.s.a.aR>(u.s.f.ep:Int):=hf;simp only[hf',decide_false,ai,and_self];exact k H h
theorem Cz (h:fF B H x m u L):cl 24 [.aj (some (x.jt,0))] H K=K (.int .i64 (u.ps.length:Int)) H:=by
 have g:=Cy h;have LN:∀K:V→ag→Prop,cl 53 [.aj (some (x.AQ,0))] H K=K (.int .i64 (u.ps.length:Int)) H:=fun K=>VT h.nX
 rw[aa7];simp only[Option.isNone_some,Option.isSome_some,Nat.zero_add,g.i 6 (by omega),g.c6,LN,AJ,reduceIte,Nat.reduceEqDiff]
theorem PU (h:fF B H x m u L):cl 15 [.aj (some (x.jt,0))] H K=K (.agg u.r.cs) H:=by
 have g:=Cy h;rw[aa2];simp only[Option.isNone_some,Option.isSome_some,Nat.zero_add,g.r.1,g.r.2,R.dE,R.eO,AJ,reduceIte,Nat.reduceEqDiff]
theorem Mj (h:fF B H x m u L):cl 36 [.aj (some (x.jt,0))] H K=K (.int .u64 (u.s.f.ep:Int)) H:=by
 have g:=Cy h;have EP:∀K:V→ag→Prop,cl 58 [.aj (some (x.fid,0))] H K=K (.int .u64 (u.s.f.ep:Int)) H:=fun K=>Cc h.fs
 rw[aba];simp only[Option.isNone_some,Option.isSome_some,Nat.zero_add,g.i 5 (by omega),g.c5,EP,AJ,reduceIte,Nat.reduceEqDiff]
structure GP (g:ct) (p:Pg):Prop where
 lo:0≤p.aq
 hi:p.aq≤g.cap
 dl:p.data.length≤64
theorem KK (hm:dz B L m) (hg:m.g.In) (hcap:m.g.cap<65000) (h:fF B H x m u L) (hok:ba m.g u.s) {p:Pg} (hp:GP m.g p) {q:Oq} {c:Nat} (hr:p.cw=false→lM B L q p.data) {r:FS×Int} (hf:GN m.g u.s p=some r) (k:ba m.g r.1→∀H',fF B H' x m {u with s:=r.1} L→K (.int .i64 r.2) H'):cl 91 [.aj (some (x.jt,0)),.agg (gi p.aq q p.data.length c p.cw)] H K:=by
 have g:=Cy h;obtain⟨a,ha⟩:∃a:Nat,p.aq=(a:Int):=⟨p.aq.toNat,by have:=hp.lo;omega⟩;have hm2:dz B (di x.jt 93 (M3 x m u)::eT x.AQ u.ps::L) m:=(hm.bU _).bU _;have hhi:=hp.hi;rw[abC];unfold GN at hf;rw[ha,Int.toNat_natCast] at hf;rw[ha];by_cases hh:p.cw=true
 ·rw[if_pos hh] at hf;simp only[hh,ao,Option.isSome_some,Nat.zero_add,g.i 5 (by omega),g.c5,AJ,reduceIte,Nat.reduceEqDiff];refine O6 hm2 hg hcap (by omega) hf hok h.fs (fun fD H1 h1=> ?_);simp only[AJ,reduceIte,Nat.reduceEqDiff];exact k fD H1 (fF.Z5 h1)
 ·rw[if_neg hh] at hf;have hh':p.cw=false:=by simpa using hh
  simp only[hh',ai,Option.isSome_some,Nat.zero_add,g.i 5 (by omega),g.c5,AJ,reduceIte,Nat.reduceEqDiff];refine Cb hm2 hg hcap (((hr hh').bU _).bU _) (by omega) hp.dl hf hok h.fs (fun fD H1 h1=> ?_);simp only[AJ,reduceIte,Nat.reduceEqDiff];exact k fD H1 (fF.Z5 h1)
end
theorem KL (ps:List Pg) (a:Int):(fC ps a).length≤ps.length:=by
 unfold fC;split
 ·exact(List.eraseIdx_sublist ps _).length_le
 ·exact Nat.le_refl _
section
variable {B:ag} {L:List cz} {H:ag} {K:V→ag→Prop} {x:Ui} {m:Gm} {u:Un}
theorem CA (hm:dz B L m) (hg:m.g.In) (hcap:0≤m.g.cap∧m.g.cap<65000) {al:List Rp} {q8:Oq} {c8:Nat} (hb:al.length≤8) (hin:∀r∈al,GP m.g r.p) {Kr:Am.St→Prop} {Ke:Nat→Am.St→Prop}:∀(n i:Nat) (u:Un) {H:ag} {r:FS×List Pg×Int},i+n=al.length→hH m.g ((al.map Rp.p).drop i) u.s u.ps=some r→ba m.g u.s→dR u.ps→u.ps.length≤8→fF B H x m u (Rw 138 3 q8 c8 (al.map Rp.cs)::bw (al.map Rp.bW)::L)→(r.2.2=0→ba m.g r.1→∀H',fF B H' x m {u with s:=r.1,ps:=r.2.1} (Rw 138 3 q8 c8 (al.map Rp.cs)::bw (al.map Rp.bW)::L)→Ke 0 (St.mk (ab []) (ab []) H'))→(r.2.2≠0→ba m.g r.1→∀H',fF B H' x m {u with s:=r.1,ps:=r.2.1} (Rw 138 3 q8 c8 (al.map Rp.cs)::bw (al.map Rp.bW)::L)→Kr (St.mk (ab [(2,T.v (V.int .i64 r.2.2))]) (ab []) H'))→lo 54 2 (St.mk (ab [(0,T.v (V.aj (some (x.jt,0)))),(10,T.v (V.slice q8 al.length c8)),(11,T.v (V.int .i64 (al.length:Int))),(12,T.v (V.int .i64 (i:Int)))]) (ab []) H) Kr Ke
 |0,i,u,H,r,hi,hf,hok,hs,hl,h,k1,k2=>by
  obtain rfl:i=al.length:=by omega
  rw[NV,decide_eq_false (by omega),ai];rw[List.drop_of_length_le (by simp),hH] at hf;cases hf;exact k1 rfl hok H h
 |n+1,i,u,H,r,hi,hf,hok,hs,hl,h,k1,k2=>by
  have hlt:i<al.length:=by omega
  have g:=Cy h;obtain⟨s1,s2',I7⟩:=lf (h.ord [6]).lO hlt;have s2:H.inb (pb q8) (po q8+i*3) 3=true:=s2';have s3:H.sub (pb q8) (po q8+i*3) 3=al[i].cs:=I7;have e1:(i:Int)<(al.length:Int):=by omega
  have e2:0≤(i:Int):=by omega
  have e3:IntKind.i64.wrap ((i:Int)+1)=((i+1:Nat):Int):=aK (by omega);have WG:=hin _ (List.getElem_mem hlt);have hlo:=WG.lo;have hhi:=WG.hi;have n0:ae al[i].cs 0=.int .i64 al[i].p.aq:=rfl;have hop:vU (al[i].cs)=al[i].cs:=rfl;rw[List.drop_eq_getElem_cons (by simpa using hlt),List.getElem_map,hH] at hf;rw[NV];simp only[e1,e2,s1,s2,s3,Rp.aI,n0,hop,decide_true,ao,Int.toNat_natCast,AJ,reduceIte,Nat.reduceEqDiff]
  cases WH:GN m.g u.s al[i].p with
  |none=>rw[WH] at hf;cases hf
  |some o=>
   rw[WH] at hf;dsimp only at hf;have hr:al[i].p.cw=false→lM B (Rw 138 3 q8 c8 (al.map Rp.cs)::bw (al.map Rp.bW)::L) al[i].q al[i].p.data:=fun _ H hs=>Aa hs.drop hlt
   change cl 91 [V.aj (some (x.jt,0)),V.agg (gi al[i].p.aq al[i].q al[i].p.data.length al[i].c al[i].p.cw)] H _
   refine KK ((hm.bU _).bU _) hg hcap.2 h hok WG (c:=al[i].c) hr WH ?_;intro gm H1 h1;have g1:=Cy h1;simp only[AJ,reduceIte,Nat.reduceEqDiff];by_cases he:o.2=0
   ·rw[if_pos he] at hf;simp only[he,decide_true,Bool.not_true,ai,Option.isSome_some,Nat.zero_add,g1.i 6 (by omega),g1.c6,AJ,reduceIte,Nat.reduceEqDiff];refine Kw h1.nX hs hl ⟨by omega,by omega⟩ (fun H2 h2=> ?_);simp only[e3];have h3:fF B H2 x m {u with s:=o.1,ps:=fC u.ps al[i].p.aq} (Rw 138 3 q8 c8 (al.map Rp.cs)::bw (al.map Rp.bW)::L):=h2.ord [1];exact CA hm hg hcap hb hin n (i+1) {u with s:=o.1,ps:=fC u.ps al[i].p.aq} (by omega) hf gm (wx hs _) (Nat.le_trans (KL _ _) hl) h3 k1 k2
   ·rw[if_neg he] at hf;cases hf;simp only[he,decide_false,Bool.not_false,ao];exact k2 he gm H1 h1
theorem tx (hm:dz B L m) (hg:m.g.In) (hcap:0≤m.g.cap∧m.g.cap<65000) (h:fF B H x m u L) (hok:ba m.g u.s) (hs:dR u.ps) (hl:u.ps.length≤8) (hin:∀p∈u.ps,GP m.g p) {r:FS×List Pg×Int} (hf:hH m.g u.ps u.s u.ps=some r) (k:ba m.g r.1→∀H',fF B H' x m {u with s:=r.1,ps:=r.2.1} L→K (.int .i64 r.2.2) H'):cl 54 [.aj (some (x.jt,0))] H K:=by
 have g:=Cy h;rw[abj];simp only[Option.isSome_some,Nat.zero_add,g.i 6 (by omega),g.c6,AJ,reduceIte,Nat.reduceEqDiff];refine VV h.nX hs hl (fun q8 c8 H1 h1=> ?_);obtain⟨al,CN,h2⟩:=az.aA h1;simp only[AJ,reduceIte,Nat.reduceEqDiff];have hla:al.length=u.ps.length:=by rw[←CN,List.length_map]
 rw[←hla];have h3:fF B H1 x m u (Rw 138 3 q8 c8 (al.map Rp.cs)::bw (al.map Rp.bW)::L):=h2.ord [3,2,2,2,2,2];refine CA hm hg hcap (by omega) (fun r hr=>hin _ (by rw[←CN];exact List.mem_map.2 ⟨r,hr,rfl⟩)) al.length 0 u (by omega) (by rw[List.drop_zero,CN];exact hf) hok hs hl h3 (fun h0 fD H4 h4=> ?_) (fun h0 fD H4 h4=> ?_)
 ·simp only[AJ,reduceIte,Nat.reduceEqDiff];have:=k fD H4 (h4.ord [6,6]).drop.drop;rw[h0] at this;exact this
 ·simp only[AJ,reduceIte,Nat.reduceEqDiff];exact k fD H4 (h4.ord [6,6]).drop.drop
end
def Mk (g:ct) (u:Un) (h:Int) (c:Cm) (bW:List UInt8):Option (Un×Rs×Int):=
 if lZ h c g.cap.toNat=false then some (u,⟨0,[],R.zero⟩,1) else
 if Hm u.r h c=false then some (u,⟨0,[],R.zero⟩,13) else
 if c.kd=0 then (if fN u.ps c.kH=true then some (u,⟨0,(qC u.ps c.kH).getD [],R.zero⟩,0) else match u.s.m9 c.kH.toNat with
  |none=>none
  |some t=>some (u,⟨0,t.data,R.zero⟩,0)) else
 if c.kd=1 then (match EA g u.s u.ps ⟨c.kH,bW,false⟩ c.su with
  |none=>none
  |some r=>some ({u with s:=r.1,ps:=r.2.1},⟨0,[],R.zero⟩,r.2.2)) else
 if c.kd=2 then (match EA g u.s u.ps ⟨c.kH,[],true⟩ c.su with
  |none=>none
  |some r=>some ({u with s:=r.1,ps:=r.2.1},⟨0,[],R.zero⟩,r.2.2)) else
 if c.kd=3 then (match hH g u.ps u.s u.ps with
  |none=>none
  |some r=>some ({u with s:=r.1,ps:=r.2.1},⟨0,[],R.zero⟩,r.2.2)) else
 if c.kd=9 then some (u,⟨0,[],u.r⟩,0) else
 if (doR u.r h c).2≠0∨db (doR u.r h c).1.cs u.r.cs=true then some (u,⟨0,[],R.zero⟩,(doR u.r h c).2) else
 match u6 g KF KF u.s (Te g.cap.toNat (gY (doR u.r h c).1 u.s.a.boots.toNat)) with
  |none=>none
  |some r=>if r.2=0 then some ({u with s:=r.1,r:=(doR u.r h c).1},⟨0,[],R.zero⟩,0) else some ({u with s:=r.1},⟨0,[],R.zero⟩,r.2)
def Tl (g:ct) (u:Un) (h:Int) (c:Cm) (bW:List UInt8):Option (Un×Rs×Int):=
 if (js u).2≠0 then some ((js u).1,⟨0,[],R.zero⟩,(js u).2) else
 match Mk g u h c bW with
  |none=>none
  |some r=>if r.2.2=7∨r.2.2=9 then some ({r.1 with down:=true},⟨0,[],R.zero⟩,r.2.2) else some (r.1,{r.2.1 with e:=r.2.2},0)
def WW (g:ct) (u:Un):Option (Un×Int):=
 if (js u).2≠0 then some (js u) else
 match hH g u.ps u.s u.ps with
  |none=>none
  |some r=>some ({u with s:=r.1,ps:=r.2.1,down:=u.down||(decide (r.2.2=7)||decide (r.2.2=9))},r.2.2)
section
variable {B:ag} {L:List cz} {H:ag} {K:V→ag→Prop} {x:Ui} {m:Gm} {u:Un}
structure PV (g:ct) (u:Un):Prop where
 ok:ba g u.s
 ie:dR u.ps
 Bn:u.ps.length≤8
 inr:∀p∈u.ps,GP g p
theorem Sa {ps:List Pg} {p:Pg} (h:(gX ps p).2=11):(gX ps p).1=ps:=by
 unfold gX at h⊢;split at h
 ·rename_i h1;rw[if_pos h1]
 ·rename_i h1;rw[if_neg h1];split at h
  ·rename_i h2;rw[if_pos h2]
  ·rename_i h2;rw[if_neg h2];split at h
   ·cases h
   ·rename_i h3;rw[if_neg h3];split at h
    ·rename_i h4;rw[if_pos h4]
    ·cases h
theorem Ml {ps:List Pg} {a:Int} {p:Pg} (h:p∈fC ps a):p∈ps:=by
 unfold fC at h;split at h
 ·exact(List.eraseIdx_sublist ps _).subset h
 ·exact h
theorem CB {g:ct}:∀{l:List Pg} {s:FS} {ps:List Pg} {r:FS×List Pg×Int},hH g l s ps=some r→dR ps→ps.length≤8→(∀p∈ps,GP g p)→dR r.2.1∧r.2.1.length≤8∧∀p∈r.2.1,GP g p
 |[],s,ps,r,h,h1,h2,h3=>by rw[hH] at h;cases h;exact⟨h1,h2,h3⟩
 |p::l,s,ps,r,h,h1,h2,h3=>by
  rw[hH] at h;split at h
  ·cases h
  ·split at h
   ·exact CB h (wx h1 _) (Nat.le_trans (KL _ _) h2) (fun p hp=>h3 p (Ml hp))
   ·cases h;exact⟨h1,h2,h3⟩
theorem Sb (hm:dz B L m) (hg:m.g.In) (hcap:0≤m.g.cap∧m.g.cap<65000) (h:fF B H x m u L) (hu:PV m.g u) {p:Pg} (hp:GP m.g p) {q:Oq} {c:Nat} (hr:lM B L q p.data) {sure:Bool} {r:FS×List Pg×Int} (hf:EA m.g u.s u.ps p sure=some r) (k:∀H',fF B H' x m {u with s:=r.1,ps:=r.2.1} L→K (.int .i64 r.2.2) H'):cl 80 [.aj (some (x.jt,0)),.agg (gi p.aq q p.data.length c p.cw),.bool sure] H K:=by
 have g:=Cy h;have hlo:=hp.lo;have hhi:=hp.hi;rw[abA];unfold EA at hf;by_cases hs:sure=true
 ·rw[if_pos hs] at hf;rw[hs,ao]
  cases WH:GN m.g u.s p with
  |none=>rw[WH] at hf;cases hf
  |some o=>
   rw[WH] at hf;dsimp only at hf;refine KK hm hg hcap.2 h hu.ok hp (fun _=>hr) WH (fun gm H1 h1=> ?_);have g1:=Cy h1;simp only[AJ,reduceIte,Nat.reduceEqDiff];by_cases he:o.2=0
   ·rw[if_pos he] at hf;cases hf;simp only[he,decide_true,Bool.not_true,ai,Option.isSome_some,Nat.zero_add,g1.i 6 (by omega),g1.c6,AJ,reduceIte,Nat.reduceEqDiff];refine Kw h1.nX hu.ie hu.Bn ⟨by omega,by omega⟩ (fun H2 h2=> ?_);exact k H2 (h2.ord [1])
   ·rw[if_neg he] at hf;cases hf;simp only[he,decide_false,Bool.not_false,ao];exact k H1 h1
 ·rw[if_neg hs] at hf;have hs':sure=false:=by simpa using hs
  rw[hs',ai];simp only[Option.isSome_some,Nat.zero_add,g.i 6 (by omega),g.c6,AJ,reduceIte,Nat.reduceEqDiff];refine Pu h.nX hu.ie hu.Bn p ⟨by omega,by omega⟩ (fun _=>hr H h.drop.drop.drop.drop.drop.drop) (fun H1 h1=> ?_);simp only[AJ,reduceIte,Nat.reduceEqDiff];by_cases AS:(gX u.ps p).2=11
  ·rw[if_neg (fun e=>e AS)] at hf;simp only[AS,decide_true,Bool.not_true,ai];have he:=Sa AS;rw[he] at h1;have h2:fF B H1 x m u L:=h1.ord [1]
   cases hfl:hH m.g u.ps u.s u.ps with
   |none=>rw[hfl] at hf;cases hf
   |some o=>
    rw[hfl] at hf;dsimp only at hf;refine tx hm hg hcap h2 hu.ok hu.ie hu.Bn hu.inr hfl (fun fD H2 h2=> ?_);have g2:=Cy h2;simp only[AJ,reduceIte,Nat.reduceEqDiff];by_cases h0:o.2.2=0
    ·rw[if_pos h0] at hf;cases hf;simp only[h0,decide_true,Bool.not_true,ai,Option.isSome_some,Nat.zero_add,g2.i 6 (by omega),g2.c6,AJ,reduceIte,Nat.reduceEqDiff];have hfp:=CB hfl hu.ie hu.Bn hu.inr;refine Pu h2.nX hfp.1 hfp.2.1 p ⟨by omega,by omega⟩ (fun _=>hr H2 h2.drop.drop.drop.drop.drop.drop) (fun H3 h3=> ?_);simp only[AJ,reduceIte,Nat.reduceEqDiff];exact k H3 (h3.ord [1])
    ·rw[if_neg h0] at hf;cases hf;simp only[h0,decide_false,Bool.not_false,ao];exact k H2 h2
  ·rw[if_pos AS] at hf;cases hf;simp only[AS,decide_false,Bool.not_false,ao];exact k H1 (h1.ord [1])
theorem vo (m:Gm):r8 (dK m.g.aD m.g.aA m.g.aH m.q m.g.bI.length m.c)=dK m.g.aD m.g.aA m.g.aH m.q m.g.bI.length m.c:=rfl
theorem vp (m:Gm):aI zh (dK m.g.aD m.g.aA m.g.aH m.q m.g.bI.length m.c)=true:=rfl
theorem GQ {ps:List Pg} (hs:dR ps) {a:Int} (hh:fN ps a=true) (hp:bS ps a<ps.length):(qC ps a).getD []=(ps[bS ps a]).data:=by
 rw[Md hs hh hp];rfl
theorem Sc (hm:dz B L m) (hg:m.g.In) (hcap:0≤m.g.cap∧m.g.cap<65000) (h:fF B H x m u L) (hu:PV m.g u) (hh:Int) (c:Cm) (bW:List UInt8) (hd:c.dn=bW.length) (hr:lM B L c.dp bW) (W3:(doR u.r hh c).1.ok) (hb:0≤u.s.a.boots∧u.s.a.boots<2147483648) {r:Un×Rs×Int} (hf:Mk m.g u hh c bW=some r) (k:∀q n H',fF B H' x m r.1 (BY q n r.2.1.d::L)→K (.tuple [.agg (r.2.1.cs q n),.int .i64 r.2.2]) H'):cl 45 [.aj (some (x.jt,0)),.int .i64 hh,.agg c.cs] H K:=by
 have g:=Cy h;obtain⟨N,hN⟩:∃N:Nat,m.g.cap=(N:Int):=⟨m.g.cap.toNat,by omega⟩;have nil:∀{u':Un} {H':ag},fF B H' x m u' L→fF B H' x m u' (BY none 0 []::L):=fun h'=>(kE h').ord [1,1,1,1,1,1]
 have hm6:∀A1 A2 A3 A4 A5 A6:cz,dz B (A1::A2::A3::A4::A5::A6::L) m:=fun A1 A2 A3 A4 A5 A6=>(((((hm.bU _).bU _).bU _).bU _).bU _).bU _
 conv in c.cs=>unfold Cm.cs
 rw[abh];simp only[Cm.tt,Option.isNone_some,Option.isSome_some,Option.getD_some,ai,ay,Nat.zero_add,g.g.1,g.g.2,vo,vp,Bool.and_self,oT,oU,oV];refine Ig h (hm6 _ _ _ _ _ _) hg (fun H1 h1=> ?_);have h1:fF B H1 x m u L:=h1;have g1:=Cy h1;simp only[cO,bf,ay,hN,PL,PM,fk,bY,g1.r.1,g1.r.2,R.dE,R.eO,Bool.and_self,GK];unfold Mk at hf;rw[hN,Int.toNat_natCast] at hf;cases hv:lZ hh c N
 ·rw[if_pos hv] at hf;cases hf;simp only[Bool.not_false,ao];exact k none 0 H1 (nil h1)
 rw[if_neg (by simp [hv])] at hf;simp only[Bool.not_true,ai];have MC:=hv;unfold lZ at MC;simp only[Bool.and_eq_true,Bool.or_eq_true,Bool.not_eq_true',Bool.or_eq_false_iff,decide_eq_true_eq,decide_eq_false_iff_not] at MC;obtain⟨⟨⟨⟨v1,v2⟩,v3⟩,v4⟩,v5⟩:=MC;cases WI:Hm u.r hh c
 ·rw[if_pos WI] at hf;cases hf;simp only[Bool.not_false,ao];exact k none 0 H1 (nil h1)
 rw[if_neg (by simp [WI])] at hf;simp only[Bool.not_true,ai];by_cases k0:c.kd=0
 ·rw[if_pos k0] at hf;simp only[k0,decide_true,ao,g1.i 6 (by omega),g1.c6,qX,jB,Bool.and_self,ay];have xM:=v4.resolve_left (fun e=>e.1.1 k0);refine VU h1.nX hu.ie hu.Bn ⟨by omega,by omega⟩ (fun hno H2 h2=> ?_) (fun hp q' c' H2 hyes ha h2=> ?_)
  ·rw[if_neg (by simp [hno])] at hf;have h2:fF B H2 x m u L:=h2.ord [1];have g2:=Cy h2
   cases tG:u.s.m9 c.kH.toNat with
   |none=>rw[tG] at hf;cases hf
   |some t=>
    rw[tG] at hf;cases hf;simp only[AJ,reduceIte,Nat.reduceEqDiff,Option.isSome_some,Nat.zero_add,g2.i 5 (by omega),g2.c5];obtain⟨a,ha⟩:∃a:Nat,c.kH=(a:Int):=⟨c.kH.toNat,by omega⟩;rw[ha,Int.toNat_natCast] at tG;rw[ha];refine Gl ((hm.bU _).bU _) h2.fs hu.ok hg (by omega) tG (fun q3 c3 H3 h3=> ?_);simp only[AJ,reduceIte,Nat.reduceEqDiff];exact k q3 c3 H3 (h3.ord [5,5])
  ·rw[if_pos hyes] at hf;cases hf;have h3:fF B H2 x m u (BY q' c' (u.ps[bS u.ps c.kH]).data::L):=h2.ord [2,1,1,1,1,1];simp only[AJ,reduceIte,Nat.reduceEqDiff];have:=k q' c' H2 (by rw[GQ hu.ie hyes hp];exact h3);unfold Rs.cs at this;simp only[GQ hu.ie hyes hp] at this;exact this
 rw[if_neg k0] at hf;simp only[k0,decide_false,ai];have hN':m.g.cap.toNat=N:=by omega
 have hput:∀p:Pg,GP m.g p→∀(q:Oq) (cc:Nat),lM B L q p.data→(match EA m.g u.s u.ps p c.su with
  |none=>none
  |some r=>some ({u with s:=r.1,ps:=r.2.1},(⟨0,[],R.zero⟩:Rs),r.2.2))=some r→
  cl 80 [.aj (some (x.jt,0)),.agg (gi p.aq q p.data.length cc p.cw),.bool c.su] H1 (fun v H'=>ah (V.av (.int .i64) v) (K (V.tuple [V.agg (FF 0 none 0 0 0 0 0 0 0 0 0 0 0 0 0 false),V.int .i64 (V.aa v)]) H')):=by
  intro p hp q cc hrd hf
  cases QL:EA m.g u.s u.ps p c.su with
  |none=>rw[QL] at hf;cases hf
  |some o=>
   rw[QL] at hf;cases hf;refine Sb hm hg hcap h1 hu hp hrd QL (fun H2 h2=> ?_);simp only[AJ,reduceIte,Nat.reduceEqDiff];exact k none 0 H2 (nil h2)
 by_cases k1:c.kd=1
 ·rw[if_pos k1] at hf;simp only[k1,decide_true,ao];have xM:=v4.resolve_left (fun e=>e.1.2 k1);have hdn:c.dn≤64:=v5.resolve_left (fun e=>e k1);rw[hd];exact hput ⟨c.kH,bW,false⟩ ⟨xM.1,by show c.kH≤_;omega,by show bW.length≤64;omega⟩ c.dp c.dc hr hf
 rw[if_neg k1] at hf;simp only[k1,decide_false,ai];by_cases k2:c.kd=2
 ·rw[if_pos k2] at hf;simp only[k2,decide_true,ao];have xM:=v4.resolve_left (fun e=>e.2 k2);exact hput ⟨c.kH,[],true⟩ ⟨xM.1,by show c.kH≤_;omega,Nat.zero_le _⟩ none 0 (lM.nil _ _ _) hf
 rw[if_neg k2] at hf;simp only[k2,decide_false,ai];by_cases k3:c.kd=3
 ·rw[if_pos k3] at hf;simp only[k3,decide_true,ao]
  cases hfl:hH m.g u.ps u.s u.ps with
  |none=>rw[hfl] at hf;cases hf
  |some o=>
   rw[hfl] at hf;cases hf;refine tx hm hg hcap h1 hu.ok hu.ie hu.Bn hu.inr hfl (fun fD H2 h2=> ?_);simp only[AJ,reduceIte,Nat.reduceEqDiff];exact k none 0 H2 (nil h2)
 rw[if_neg k3] at hf;simp only[k3,decide_false,ai];by_cases k9:c.kd=9
 ·rw[if_pos k9] at hf;cases hf;simp only[k9,decide_true,ao];exact k none 0 H1 (nil h1)
 rw[if_neg k9] at hf;simp only[k9,decide_false,ai,g1.r.1,g1.r.2,R.dE,R.eO,Bool.and_self,ay,Z3,dj,eH,dJ,gh,eD,cN,cO,bf,Bool.or_false,List.length_cons,List.length_nil,Nat.reduceAdd,il,decide_true,Option.isSome_some,Bool.true_and,Bool.and_true,aN,ite_self];obtain⟨d,Qo⟩:∃d,d=doR u.r hh c:=⟨_,rfl⟩;rw[←Qo] at hf W3⊢;by_cases hq1:d.2=0
 case neg=>
  rw[if_pos (.inl hq1)] at hf;cases hf;simp only[hq1,decide_false,Bool.not_false,Bool.not_true,cond_false,ao];exact k none 0 H1 (nil h1)
 simp only[hq1,decide_true,Bool.not_true,Bool.not_false,cond_true];cases QG:db d.1.cs u.r.cs
 case true=>
  rw[if_pos (.inr QG)] at hf;cases hf;rw[ao];have:=k none 0 H1 (nil h1);simp only[hq1] at this;exact this
 rw[if_neg (by simp [hq1,QG])] at hf;rw[ai];obtain⟨bt,MV⟩:∃bt:Nat,u.s.a.boots=(bt:Int):=⟨u.s.a.boots.toNat,by omega⟩;rw[MV,Int.toNat_natCast] at hf
 cases QL:u6 m.g KF KF u.s (Te N (gY d.1 bt)) with
 |none=>rw[QL] at hf;cases hf
 |some o=>
  rw[QL] at hf;dsimp only at hf;refine iH (fun S:Am.St=>S.1 14=some (T.v (V.int .i64 o.2))∧fF B S.3 x m {u with s:=o.1} L) (fun(S:Am.St) MR=> ?_) (fun Q hQ=> ?_)
  ·obtain⟨acS,hS⟩:=MR;generalize S.3=H2 at hS⊢;have g2:=Cy hS;simp only[acS,AJ,reduceIte,Nat.reduceEqDiff];by_cases h0:o.2=0
   ·rw[if_pos h0] at hf;cases hf;simp only[h0,decide_true,Bool.not_true,ai,Option.isSome_some,Nat.zero_add,g2.wr,ay];have h3:=hS.store (off:=7) (vs:=d.1.cs);have e2:bM (M3 x m {u with s:=o.1}) 7 d.1.cs=M3 x m {u with s:=o.1,r:=d.1}:=rfl;rw[e2] at h3;exact k none 0 _ (nil h3)
   ·rw[if_neg h0] at hf;cases hf;simp only[h0,decide_false,Bool.not_false,ao];exact k none 0 H2 (nil hS)
  ·have MT:∀(K:V→ag→Prop),(∀H',fF B H' x m u L→K (.int .i64 (N:Int)) H')→cl 40 [V.agg (dK m.g.aD m.g.aA m.g.aH m.q m.g.bI.length m.c)] H1 K:=fun K k=>by
    rw[←hN] at k;exact uN h1 (hm6 _ _ _ _ _ _) hg (fun H' h'=>k H' h')
   have BO:∀(H':ag) (K:V→ag→Prop),fF B H' x m u L→cl 43 [V.aj (some (x.aM,0))] H' K=K (.int .i64 (bt:Int)) H':=fun H' K h'=>by
    rw[F0 h'.vx,MV]
   have EN:∀(H':ag) (K:V→ag→Prop),fF B H' x m u L→(∀q' c' H2,fF B H2 x m u (BY q' c' (gY d.1 bt)::L)→K (.slice q' (gY d.1 bt).length c') H2)→cl 83 [V.agg d.1.cs,V.int .i64 (bt:Int)] H' K:=fun H' K h' k=>
    Mh d.1 W3 bt (by omega) (by omega) h' (fun q' c' H2 h2=>k q' c' H2 (h2.ord [1,1,1,1,1,1]))
   have hel:(gY d.1 bt).length≤64:=by rw[vl];omega
   have WR:∀(H':ag) (q':Oq) (c':Nat) (K:V→ag→Prop),fF B H' x m u (BY q' c' (gY d.1 bt)::L)→(∀H2,fF B H2 x m {u with s:=o.1} L→K (.int .i64 o.2) H2)→cl 82 [V.aj (some (x.fid,0)),V.int .i64 (N:Int),V.slice q' (gY d.1 bt).length c'] H' K:=fun H' q' c' K h' k=>by
    refine Cb (((hm.bU _).bU _).bU _) hg hcap.2 (L:=di x.jt 93 (M3 x m u)::eT x.AQ u.ps::BY q' c' (gY d.1 bt)::L) (fun H hs=>(hs.ord [2]).jq) (by omega) hel QL hu.ok h'.fs (fun fD H2 h2=>k H2 ?_);exact((h2.ord [4,4,4]).ord [2]).drop
   simp only[Option.isSome_some,Nat.zero_add,g1.i 5 (by omega),g1.c5,g1.i 0 (by omega),g1.c0,g1.g.1,g1.g.2,vo,vp,AJ,reduceIte,Nat.reduceEqDiff]
   repeat' apply And.intro
   all_goals
    refine MT _ (fun H2 h2=> ?_);have g2:=Cy h2;simp only[Option.isSome_some,Nat.zero_add,g2.i 5 (by omega),g2.c5,g2.i 0 (by omega),g2.c0,AJ,reduceIte,Nat.reduceEqDiff,BO H2 _ h2]
    repeat' apply And.intro
    all_goals
     refine EN H2 _ h2 (fun q3 c3 H3 h3=> ?_);have g3:=Cy h3;simp only[Option.isSome_some,Nat.zero_add,g3.i 5 (by omega),g3.c5,AJ,reduceIte,Nat.reduceEqDiff];refine WR H3 q3 c3 _ h3 (fun H4 h4=> ?_);simp only[AJ,reduceIte,Nat.reduceEqDiff];exact hQ _ ⟨rfl,h4⟩
end
section
variable {B:ag} {L:List cz} {H:ag} {K:V→ag→Prop} {x:Ui} {m:Gm} {u:Un}
theorem CC (u:Un):(js u).1.s=u.s∧(js u).1.ps=u.ps∧(js u).1.r=u.r∧((js u).2=0→(js u).1=u):=by
 unfold js;split
 ·exact⟨rfl,rfl,rfl,fun h=>by cases h⟩
 split
 ·exact⟨rfl,rfl,rfl,fun h=>by cases h⟩
 ·exact⟨rfl,rfl,rfl,fun _=>rfl⟩
theorem PW (hm:dz B L m) (hg:m.g.In) (hcap:0≤m.g.cap∧m.g.cap<65000) (h:fF B H x m u L) (hu:PV m.g u) (hh:Int) (c:Cm) (bW:List UInt8) (hd:c.dn=bW.length) (hr:lM B L c.dp bW) (W3:(doR u.r hh c).1.ok) (hb:0≤u.s.a.boots∧u.s.a.boots<2147483648) {r:Un×Rs×Int} (hf:Tl m.g u hh c bW=some r) (k:∀q n H',fF B H' x m r.1 (BY q n r.2.1.d::L)→K (.tuple [.agg (r.2.1.cs q n),.int .i64 r.2.2]) H'):cl 16 [.aj (some (x.jt,0)),.int .i64 hh,.agg c.cs] H K:=by
 have nil:∀{u':Un} {H':ag},fF B H' x m u' L→fF B H' x m u' (BY none 0 []::L):=fun h'=>(kE h').ord [1,1,1,1,1,1]
 conv in c.cs=>unfold Cm.cs
 rw[aa3];simp only[Cm.tt,Option.isNone_some,ai];refine GO h (fun H1 h1=> ?_);simp only[AJ,reduceIte,Nat.reduceEqDiff];unfold Tl at hf;by_cases hl:(js u).2=0
 case neg=>
  rw[if_pos hl] at hf;cases hf;simp only[hl,decide_false,Bool.not_false,ao];exact k none 0 H1 (nil h1)
 rw[if_neg (fun e=>e hl)] at hf;rw[(CC u).2.2.2 hl] at h1;simp only[hl,decide_true,Bool.not_true,ai]
 cases ho:Mk m.g u hh c bW with
 |none=>rw[ho] at hf;cases hf
 |some o=>
  rw[ho] at hf;dsimp only at hf;refine Sc hm hg hcap h1 hu hh c bW hd hr W3 hb ho (fun q n H2 h2=> ?_);have h2:fF B H2 x m o.1 (BY q n o.2.1.d::L):=h2;have g2:=Cy h2;simp only[AJ,reduceIte,Nat.reduceEqDiff,Rs.aI,Rs.n1];by_cases h79:o.2.2=7∨o.2.2=9
  ·rw[if_pos h79] at hf;cases hf;have h3:fF B _ x m {o.1 with down:=true} L:=((h2.vn true).ord [6]).drop;by_cases h7:o.2.2=7
   ·simp only[h7,decide_true,Bool.not_true,cond_false,ao,Option.isSome_some,Nat.zero_add,g2.w,AJ,reduceIte,Nat.reduceEqDiff];have:=k none 0 _ (nil h3);simp only[h7] at this;exact this
   ·have h9:o.2.2=9:=h79.resolve_left h7;simp only[h9,decide_true,ao,Option.isSome_some,Nat.zero_add,g2.w,AJ,reduceIte,Nat.reduceEqDiff];have:=k none 0 _ (nil h3);simp only[h9] at this;exact this
  ·rw[if_neg h79] at hf;cases hf;have h7:¬o.2.2=7:=fun e=>h79 (.inl e)
   have h9:¬o.2.2=9:=fun e=>h79 (.inr e)
   simp only[h7,h9,decide_false,Bool.not_false,cond_true,ai];exact k q n H2 h2
theorem V3 (hm:dz B L m) (hg:m.g.In) (hcap:0≤m.g.cap∧m.g.cap<65000) (h:fF B H x m u L) (hu:PV m.g u) {r:Un×Int} (hf:WW m.g u=some r) (k:∀H',fF B H' x m r.1 L→K (.int .i64 r.2) H'):cl 25 [.aj (some (x.jt,0))] H K:=by
 rw[aa8];simp only[Option.isNone_some,ai];refine GO h (fun H1 h1=> ?_);simp only[AJ,reduceIte,Nat.reduceEqDiff];unfold WW at hf;by_cases hl:(js u).2=0
 case neg=>
  rw[if_pos hl] at hf;cases hf;simp only[hl,decide_false,Bool.not_false,ao];exact k H1 h1
 rw[if_neg (fun e=>e hl)] at hf;rw[(CC u).2.2.2 hl] at h1;simp only[hl,decide_true,Bool.not_true,ai]
 cases hfl:hH m.g u.ps u.s u.ps with
 |none=>rw[hfl] at hf;cases hf
 |some o=>
  rw[hfl] at hf;cases hf;refine tx hm hg hcap h1 hu.ok hu.ie hu.Bn hu.inr hfl (fun fD H2 h2=> ?_);have h2:fF B H2 x m {u with s:=o.1,ps:=o.2.1} L:=h2;have g2:=Cy h2
  have w:∀b:Bool,(u.down||(decide (o.2.2=7)||decide (o.2.2=9)))=b→K (.int .i64 o.2.2) (H2.store x.jt 19 [.bool b]):=fun b hb=>by
   subst hb;exact k _ (h2.vn _)
  simp only[Option.isSome_some,Nat.zero_add,g2.i 19 (by omega),g2.c19,g2.w,AJ,reduceIte,Nat.reduceEqDiff];cases hdn:u.down
  ·simp only[Bool.not_false,ao];by_cases h7:o.2.2=7
   ·have:=w true (by simp [h7]);simp only[h7,decide_true,Bool.not_true,ai] at this⊢;exact this
   ·simp only[h7,decide_false,Bool.not_false,ao];by_cases h9:o.2.2=9
    ·have:=w true (by simp [h9]);simp only[h9,decide_true] at this⊢;exact this
    ·have:=w false (by simp [h7,h9,hdn]);simp only[h9,decide_false];exact this
  ·simp only[Bool.not_true,ai];exact w true (by simp [hdn])
def uM (g:ct) (s:FS):Option Un:=match s.m9 g.cap.toNat with
 |none=>none
 |some t=>if t.data.length=0 then some ⟨s,[],R.gP,false⟩ else match Ez t.data with
  |none=>none
  |some d=>some ⟨s,[],o8 d.1 d.2 s.a.boots,false⟩
theorem Mm {aM:Nat} {a:Ar} (h:az B H (dO aM a::L)) (hm:dz B L m) (hf:m.g.cZ=true) (hg:m.g.In) (hr:a.rd m.g) (hc:0≤m.g.cap∧m.g.cap<65000) {ep:Nat} (MU:1≤ep∧ep<281474976710656) (Aw:∀sq,(cF m.g sq a ep).2=0→∃v,uM m.g (cF m.g sq a ep).1=some v) (k1:∀pz x v H',x.aM=aM→xS pz=a.Bh m.g→(cF m.g (eJ pz) a ep).2=0→ba m.g (cF m.g (eJ pz) a ep).1→uM m.g (cF m.g (eJ pz) a ep).1=some v→fF B H' x m v L→K (.tuple [.aj (some (x.jt,0)),.int .i64 0]) H') (k2:∀pz H',xS pz=a.Bh m.g→(cF m.g (eJ pz) a ep).2≠0→ba m.g (cF m.g (eJ pz) a ep).1→az B H' (dO aM (cF m.g (eJ pz) a ep).1.a::L)→K (.tuple [.aj none,.int .i64 (cF m.g (eJ pz) a ep).2]) H'):cl 13 [.aj (some (aM,0)),m.v,.int .u64 (ep:Int)] H K:=by
 obtain⟨N,hN⟩:∃N:Nat,m.g.cap=(N:Int):=⟨m.g.cap.toNat,by omega⟩;have hv:m.v=.agg (dK m.g.aD m.g.aA m.g.aH m.q m.g.bI.length m.c):=rfl;rw[hv,aa0, ←hv];simp only[Option.isNone_some,ai];refine LQ h hm hf hg hr hc MU (fun pz fid mid pid H1 Hs EO h0 hok h1=> ?_) (fun pz H1 Hs EO h0 hok h1=> ?_)
 ·simp only[AN,reduceIte,Nat.reduceEqDiff];obtain⟨v,KX⟩:=Aw (eJ pz) h0;obtain⟨s,hs⟩:∃s,s=(cF m.g (eJ pz) a ep).1:=⟨_,rfl⟩;have SJ:=k1 pz;rw[←hs] at h1 hok KX SJ;refine iH (fun S:Am.St=>∃jt AQ,S.1 10=some (T.v (V.aj (some (jt,0))))∧fF B S.3 ⟨jt,AQ,aM,fid,mid,pid⟩ m ⟨s,[],R.gP,false⟩ L) (fun(S:Am.St) MR=> ?_) (fun Q hQ=> ?_)
  ·obtain⟨jt,AQ,acT,hS⟩:=MR;generalize S.3=H2 at hS⊢;have hm6:∀A1 A2 A3 A4 A5 A6:cz,dz B (A1::A2::A3::A4::A5::A6::L) m:=fun A1 A2 A3 A4 A5 A6=>(((((hm.bU _).bU _).bU _).bU _).bU _).bU _
   simp only[acT,AJ,reduceIte,Nat.reduceEqDiff];refine uN hS (hm6 _ _ _ _ _ _) hg (fun H3 h3=> ?_);have h3:fF B H3 ⟨jt,AQ,aM,fid,mid,pid⟩ m ⟨s,[],R.gP,false⟩ L:=h3;simp only[AJ,reduceIte,Nat.reduceEqDiff,hN];unfold uM at KX;rw[hN,Int.toNat_natCast] at KX
   cases tG:s.m9 N with
   |none=>rw[tG] at KX;cases KX
   |some t=>
    rw[tG] at KX;dsimp only at KX;refine Gl ((hm.bU _).bU _) h3.fs hok hg (by omega) tG (fun q3 c3 H4 h4=> ?_);have h5:fF B H4 ⟨jt,AQ,aM,fid,mid,pid⟩ m ⟨s,[],R.gP,false⟩ (BY q3 c3 t.data::L):=h4.ord [5,5];have qG:=(az.MX (h4.ord [4])).2.2.1;simp only[AJ,reduceIte,Nat.reduceEqDiff];by_cases hl:t.data.length=0
    ·rw[if_pos hl] at KX;cases KX;have e:¬((t.data.length:Nat):Int)>0:=by omega
     simp only[e,decide_false,ai]
     exact SJ ⟨jt,AQ,aM,fid,mid,pid⟩ _ H4 rfl Hs h0 hok (by
      unfold uM;rw[hN,Int.toNat_natCast,tG];simp only;rw[if_pos hl]) (h5.ord [6]).drop
    ·rw[if_neg hl] at KX;have e:((t.data.length:Nat):Int)>0:=by omega
     simp only[e,decide_true,ao]
     cases hd:Ez t.data with
     |none=>rw[hd] at KX;cases KX
     |some d=>
      rw[hd] at KX;cases KX;refine Mi h5 (fun H hs=>(hs.ord [6]).jq) qG (fun H6 h6=> ?_);have h6:fF B H6 ⟨jt,AQ,aM,fid,mid,pid⟩ m ⟨s,[],R.gP,false⟩ (BY q3 c3 t.data::L):=h6;have g6:=Cy h6;rw[hd];unfold I0;simp only[AJ,reduceIte,Nat.reduceEqDiff,R.dE,R.eO];rw[F0 h6.vx];simp only[AJ,reduceIte,Nat.reduceEqDiff,R.dE,R.eO,R8,Option.isSome_some,Nat.zero_add,g6.wr];have h7:=h6.store (off:=7) (vs:=(o8 d.1 (d.2:Int) s.a.boots).cs);have e2:bM (M3 ⟨jt,AQ,aM,fid,mid,pid⟩ m ⟨s,[],R.gP,false⟩) 7 (o8 d.1 (d.2:Int) s.a.boots).cs=M3 ⟨jt,AQ,aM,fid,mid,pid⟩ m ⟨s,[],o8 d.1 (d.2:Int) s.a.boots,false⟩:=rfl;rw[e2] at h7
      exact SJ ⟨jt,AQ,aM,fid,mid,pid⟩ _ _ rfl Hs h0 hok (by
       unfold uM;rw[hN,Int.toNat_natCast,tG];simp only;rw[if_neg hl,hd]) (h7.ord [6]).drop
  ·simp only[Kx,AJ,reduceIte,Nat.reduceEqDiff];have a1:=Me h1;refine⟨?_, ?_⟩
   all_goals
    have a2:=a1.alloc 93 (M3 ⟨0,H1.next,aM,fid,mid,pid⟩ m ⟨s,[],R.gP,false⟩);exact hQ _ ⟨_,H1.next,rfl,a2⟩
 ·simp only[h0,decide_false,Bool.not_false,ao,AJ,reduceIte,Nat.reduceEqDiff];exact k2 pz H1 Hs h0 hok h1
end
theorem CD (k:Nat→Int):∀(n:Nat) (t:List UInt8) (i:Nat),i<n→((xF k n++t).drop (4*i)).take 4=le (k i).toNat 4
 |n+1,t,i,h=>by
  rw[xF,List.append_assoc];by_cases hi:i=n
  ·subst hi;rw[List.drop_left' (by rw[gk]),List.take_left' (by simp)]
  ·exact CD k n _ i (by omega)
theorem wF (r:R) (n:Nat):gY r n=xF r.k 8++(UInt8.ofNat r.ty.toNat::UInt8.ofNat (r.ho+1).toNat::(le r.ge.toNat 4++(UInt8.ofNat (if r.la=true then 1 else 0)::le n 4))):=by
 simp [gY,le]
theorem rF (r:R) (n j:Nat):(gY r n).getD (32+j) 0=(UInt8.ofNat r.ty.toNat::UInt8.ofNat (r.ho+1).toNat::(le r.ge.toNat 4++(UInt8.ofNat (if r.la=true then 1 else 0)::le n 4))).getD j 0:=by
 rw[wF,List.getD_eq_getElem?_getD,List.getD_eq_getElem?_getD,List.getElem?_append_right (by rw[gk];omega),gk];congr 2;omega
theorem CE (r:R) (n j:Nat):(gY r n).drop (32+j)=(UInt8.ofNat r.ty.toNat::UInt8.ofNat (r.ho+1).toNat::(le r.ge.toNat 4++(UInt8.ofNat (if r.la=true then 1 else 0)::le n 4))).drop j:=by
 rw[wF, ←List.drop_drop,List.drop_left' (by rw[gk])]
theorem Au {n:Nat} (h:n<4294967296):dH (le n 4)=n:=by
 rw[xP];exact Nat.mod_eq_of_lt (by simpa using h)
theorem GR (bs:List UInt8) (i:Nat):(l8 bs).k i=if i<8 then ((dH ((bs.drop (4*i)).take 4):Nat):Int) else 0:=rfl
theorem Mo (bs:List UInt8):(l8 bs).ty=((bs.getD 32 0).toNat:Int):=rfl
theorem Mp (bs:List UInt8):(l8 bs).ho=((bs.getD 33 0).toNat:Int)-1:=rfl
theorem Mq (bs:List UInt8):(l8 bs).ge=((dH ((bs.drop 34).take 4):Nat):Int):=rfl
theorem Mr (bs:List UInt8):(l8 bs).la=decide (((bs.getD 38 0).toNat:Int)=1):=rfl
theorem Ms {r:R} (hr:r.ok) (h7:r.ho≤7) {n:Nat} (hn:n<2147483648):(l8 (gY r n)).cs=r.cs∧nZ (gY r n)=true∧dH (((gY r n).drop 39).take 4)=n:=by
 have k1:=hr.ty;have k2:=hr.ho;have k3:=hr.ge;have g32:(gY r n).getD 32 0=UInt8.ofNat r.ty.toNat:=rF r n 0;have g33:(gY r n).getD 33 0=UInt8.ofNat (r.ho+1).toNat:=rF r n 1
 have g38:(gY r n).getD 38 0=UInt8.ofNat (if r.la=true then 1 else 0):=by
  have:=rF r n 6;rw[this];simp [le]
 have g42:(gY r n).getD 42 0=UInt8.ofNat (n / 256 / 256 / 256):=by
  have:=rF r n 10;rw[this];simp [le]
 have d34:((gY r n).drop 34).take 4=le r.ge.toNat 4:=by
  have:=CE r n 2;rw[this];simp [le]
 have d39:((gY r n).drop 39).take 4=le n 4:=by
  have:=CE r n 7;rw[this];simp [le]
 refine⟨?_, ?_, ?_⟩
 ·apply R.PA
  ·intro i hi;have hk:=hr.k i;rw[GR,if_pos hi,wF,CD _ _ _ _ hi,Au (by omega)];omega
  ·rw[Mo,g32];simp;omega
  ·rw[Mp,g33];simp;omega
  ·rw[Mq,d34,Au (by omega)];omega
  ·rw[Mr,g38];cases r.la<;>simp
 ·unfold nZ;rw[g33,g38,g42,vl];have e1:(UInt8.ofNat (r.ho+1).toNat).toNat≤8:=by simp;omega
  have e2:(UInt8.ofNat (if r.la=true then 1 else 0)).toNat≤1:=by cases r.la<;>simp
  have e3:(UInt8.ofNat (n / 256 / 256 / 256)).toNat≤127:=by simp;omega
  rw[decide_eq_true e1,decide_eq_true e2,decide_eq_true e3];simp
 ·rw[d39,Au (by omega)]
theorem Sd {r s:R} (h:r.cs=s.cs):o7 r=o7 s:=by
 obtain⟨hk,h1,h2,h3,h4⟩:=(R.Em r s).1 ((R.rz r s).2 h)
 have hs:l7 r.k 8=l7 s.k 8:=by
  simp only[l7];rw[hk 0 (by omega),hk 1 (by omega),hk 2 (by omega),hk 3 (by omega),hk 4 (by omega),hk 5 (by omega),hk 6 (by omega),hk 7 (by omega)]
 unfold o7 Aq;rw[h1,h2,hs];by_cases h8:s.ho≥8
 ·simp [h8]
 ·by_cases h0:s.ho≥0
  ·rw[hk s.ho.toNat (by omega)]
  ·by_cases h9:s.ho< -1
   ·simp [h9]
   ·have:s.ho= -1:=by omega
    rw[this];have:Int.toNat (-1)=0:=rfl;rw[this,hk 0 (by omega)]
theorem Se {r:R} (hr:r.ok) (hf:o7 r=true) {n:Nat} (hn:n<2147483648):∃s,Ez (gY r n)=some (s,n)∧s.cs=r.cs:=by
 have h7:r.ho≤7:=by
  unfold o7 at hf;simp at hf;omega
 obtain⟨h1,h2,h3⟩:=Ms hr h7 hn;refine⟨l8 (gY r n), ?_,h1⟩;unfold Ez;rw[if_pos ⟨h2,by rw[Sd h1];exact hf⟩,h3]
structure eK (r:R):Prop where
 k:∀i,0≤r.k i∧r.k i≤4294967295
 nz:∀i,8≤i→r.k i=0
 vj:AO r
 ge:0≤r.ge∧r.ge≤4294967295
theorem eK.gP:eK R.gP:=⟨fun _=>by show (0:Int)≤0∧(0:Int)≤_;omega,fun _ _=>rfl,VW,by show (0:Int)≤0∧(0:Int)≤_;omega⟩
theorem eK.Tm {r:R} (h:eK r): -1≤r.ho∧r.ho≤7:=by
 by_cases h0:r.ty=0
 ·rw[h.vj.none h0];omega
 ·by_cases h8:nc r.ty=true
  ·rw[h.vj.all h8];omega
  ·obtain⟨i,hi,e,_⟩:=h.vj.one h0 (by simpa using h8);omega
theorem eK.ok {r:R} (h:eK r):r.ok where
 k:=h.k
 ty:=by
  rcases h.vj.ty with e|e
  ·omega
  ·have:=rD.1 e;omega
 ho:=by have:=h.Tm;omega
 ge:=h.ge
theorem eK.cZ {r:R} (h:eK r):o7 r=true:=by
 have hho:=h.Tm;unfold o7;have e1:decide (r.ho< -1)=false:=decide_eq_false (by omega);have e2:decide (r.ho≥8)=false:=decide_eq_false (by omega);rw[e1,e2];simp only[Bool.not_false,Bool.true_and];by_cases h0:r.ty=0
 ·have hone:Aq r=false:=by simp [Aq,h0]
  have e3:decide (r.ho≥0)=false:=by rw[h.vj.none h0];decide
  rw[hone,e3];simp [h0]
 ·have hr:right r.ty=true:=h.vj.ty.resolve_left h0;have Xc:l7 r.k 8=true:=Ct.2 (h.vj.some h0);by_cases h8:nc r.ty=true
  ·have hone:Aq r=false:=by simp [Aq,h8]
   have e3:decide (r.ho≥0)=false:=by rw[h.vj.all h8];decide
   rw[hone,e3,hr,Xc];simp
  ·have Xb:nc r.ty=false:=by simpa using h8
   have hone:Aq r=true:=by simp [Aq,h0,Xb]
   obtain⟨i,hi,e,hk⟩:=h.vj.one h0 Xb;have e3:decide (r.ho≥0)=true:=by rw[e];simp
   have e4:r.ho.toNat=i:=by omega
   rw[hone,e3,hr,Xc,e4];simp [hk]
theorem eK.ext {r s:R} (h:eK r) (hs:∀i,8≤i→s.k i=0) (e:s.cs=r.cs):s=r:=by
 obtain⟨hk,h1,h2,h3,h4⟩:=(R.Em s r).1 ((R.rz s r).2 e);cases r;cases s;simp only at h1 h2 h3 h4 hk hs;have:∀i,_:=fun i=>hk i
 congr;funext i;by_cases hi:i<8
 ·exact hk i hi
 ·rw[hs i (by omega)];exact(h.nz i (by omega)).symm
theorem eK.aco {r:R} (h:eK r) {n:Nat} (hn:n<2147483648):Ez (gY r n)=some (r,n):=by
 obtain⟨s,h1,h2⟩:=Se h.ok h.cZ hn
 have hs:∀i,8≤i→s.k i=0:=by
  unfold Ez at h1;split at h1
  ·have h1:=congrArg Prod.fst (Option.some.inj h1);simp only at h1;intro i hi;rw[←h1];rw[GR,if_neg (by omega)]
  ·cases h1
 rw[h1,h.ext hs h2]
theorem eK.acp {r:R} (h:eK r) (was now:Int):eK (o8 r was now):=by
 unfold o8;split
 ·exact h
 split
 ·exact eK.gP
 ·exact⟨h.k,h.nz,⟨h.vj.ty,h.vj.none,h.vj.all,h.vj.one,h.vj.some⟩,by show (0:Int)≤0∧(0:Int)≤_;omega⟩
theorem vq (x:Int):0≤IntKind.u32.wrap x∧IntKind.u32.wrap x≤4294967295:=by
 rw[IntKind.wrap_u32];omega
theorem eK.leave {r:R} (k:∀i,0≤r.k i∧r.k i≤4294967295) (nz:∀i,8≤i→r.k i=0) (ge:0≤r.ge∧r.ge≤4294967295) (h:Int):(∀i,0≤(jb r h).k i∧(jb r h).k i≤4294967295)∧(∀i,8≤i→(jb r h).k i=0)∧(0≤(jb r h).ge∧(jb r h).ge≤4294967295):=by
 have e:(jb r h).k=cx r.k h.toNat 0∧(jb r h).ge=r.ge:=by
  unfold jb;simp only[];split<;>exact⟨rfl,rfl⟩
 rw[e.1,e.2];refine⟨fun i=> ?_,fun i hi=> ?_,ge⟩
 ·unfold cx;split
  ·omega
  ·exact k i
 ·unfold cx;split
  ·rfl
  ·exact nz i hi
theorem eK.doR {r:R} (hr:eK r) (h:Int) (c:Cm) (hn:0≤c.nw∧c.nw≤4294967295):eK (doR r h c).1:=by
 have hi:=VX hr.vj h c
 have key:(∀i,0≤(Go.Proofs.YtlgdkndamddpkaaGreat.doR r h c).1.k i∧(Go.Proofs.YtlgdkndamddpkaaGreat.doR r h c).1.k i≤4294967295)∧(∀i,8≤i→(Go.Proofs.YtlgdkndamddpkaaGreat.doR r h c).1.k i=0)∧(0≤(Go.Proofs.YtlgdkndamddpkaaGreat.doR r h c).1.ge∧(Go.Proofs.YtlgdkndamddpkaaGreat.doR r h c).1.ge≤4294967295):=by
  have self:(∀i,0≤r.k i∧r.k i≤4294967295)∧(∀i,8≤i→r.k i=0)∧(0≤r.ge∧r.ge≤4294967295):=⟨hr.k,hr.nz,hr.ge⟩;unfold Go.Proofs.YtlgdkndamddpkaaGreat.doR;split
  ·exact self
  rename_i hv;simp only[Bool.or_eq_true,decide_eq_true_eq,not_or] at hv;split
  ·exact self
  split
  ·exact self
  split
  ·unfold jJ;simp only[];split
   ·exact eK.leave (r:=⟨r.k,r.ty,r.ho,IntKind.u32.wrap (r.ge+1),c.la⟩) hr.k hr.nz (vq _) h
   ·refine⟨fun i=> ?_,fun i hi=> ?_,vq _⟩
    ·show 0≤cx r.k h.toNat c.nw i∧cx r.k h.toNat c.nw i≤4294967295
     unfold cx;split
     ·exact hn
     ·exact hr.k i
    ·show cx r.k h.toNat c.nw i=0
     rw[IN (by omega)];exact hr.nz i hi
  split
  ·split
   ·exact self
   split
   ·exact self
   ·exact self
  split
  ·split
   ·exact self
   split
   ·exact self
   ·exact self
  split
  ·exact⟨fun _=>by show (0:Int)≤0∧(0:Int)≤_;omega,fun _ _=>rfl,vq _⟩
  ·have hkv:(∀i,0≤kV r h c.nw 8 i∧kV r h c.nw 8 i≤4294967295)∧(∀i,8≤i→kV r h c.nw 8 i=0):=by
    refine⟨fun i=> ?_,fun i hi=> ?_⟩
    ·rw[vi];split
     ·omega
     ·exact hr.k i
    ·rw[vi];split
     ·rfl
     ·exact hr.nz i hi
   unfold jc;simp only[];split
   ·exact self
   split
   ·exact self
   split
   ·exact⟨hkv.1,hkv.2,vq _⟩
   ·exact⟨hkv.1,hkv.2,vq _⟩
 exact⟨key.1,key.2.1,hi,key.2.2⟩
def CW:Nat:=8000200
theorem Tn:KF*(KF*KF+1)=CW:=by decide
def vr (su:List (List UInt8)) (t:List UInt8):Nat→List UInt8:=fun i=>if i<su.length then su.getD i [] else if i=su.length then t else []
theorem Sf {su:List (List UInt8)} {t:List UInt8} {i:Nat} (hi:i<su.length) (d:List UInt8):oK (vr su t) i d=vr (su.set i d) t:=by
 funext j;unfold oK vr;rw[List.length_set];by_cases hj:j=i
 ·subst hj;rw[if_pos rfl,if_pos hi,List.getD_eq_getElem?_getD,List.getElem?_set];simp [hi]
 ·rw[if_neg hj];by_cases hl:j<su.length
  ·rw[if_pos hl,if_pos hl,List.getD_eq_getElem?_getD,List.getD_eq_getElem?_getD,List.getElem?_set,if_neg (fun e=>hj e.symm)]
  ·rw[if_neg hl,if_neg hl]
theorem Sg {su:List (List UInt8)} {t:List UInt8} (d:List UInt8):oK (vr su t) su.length d=vr su d:=by
 funext j;unfold oK vr;by_cases hj:j=su.length
 ·subst hj;simp
 ·simp [hj]
theorem PX {su:List (List UInt8)} {t:List UInt8} {i:Nat} (hi:i<su.length):vr su t i=su.getD i []:=if_pos hi
theorem Si (su:List (List UInt8)) (t:List UInt8):vr su t su.length=t:=by unfold vr;simp
def wG (t:List UInt8) (b:Nat) (r:R):Prop:=(t=[]∧r=R.gP)∨∃r0 b0,t=gY r0 b0∧eK r0∧b0≤b∧r=o8 r0 b0 b
theorem wG.PY {t:List UInt8} {b:Nat} {r:R} (h:wG t b r):eK r:=by
 rcases h with⟨_,e⟩|⟨r0,b0,_,h,_,e⟩
 ·rw[e];exact eK.gP
 ·rw[e];exact h.acp _ _
theorem wG.Z6 {t:List UInt8} {b:Nat} {r:R} (h:wG t b r):wG t (b+1) (GH r true):=by
 rcases h with⟨h1,e⟩|⟨r0,b0,h1,h2,h3,e⟩
 ·exact .inl ⟨h1,by rw[e];rfl⟩
 ·refine .inr ⟨r0,b0,h1,h2,by omega, ?_⟩;have hne:¬(b0:Int)=((b+1:Nat):Int):=by omega
  rw[e];unfold o8 GH;rw[if_neg hne];by_cases hb:(b0:Int)=(b:Int)
  ·rw[if_pos hb];cases hl:r0.la<;>simp [R.gP]
  ·rw[if_neg hb];cases hl:r0.la<;>simp [R.gP]
theorem wG.enc {r:R} (h:eK r) (b:Nat):wG (gY r b) b r:=.inr ⟨r,b,rfl,h,Nat.le_refl _,by unfold o8;rw[if_pos rfl]⟩
section
variable {g:ct} {s:FS} {su:List (List UInt8)} {t:List UInt8} {ds:List Nat} {N:Nat}
structure Mt (su:List (List UInt8)) (p:Pg):Prop where
 lo:0≤p.aq
 hi:p.aq<su.length
 dl:p.data.length≤64
 cw:p.cw=true→p.data=[]
theorem Av (hg:g.In) (hform:g.cZ=true) (hc:g.cap<65000) {c:Nat→List UInt8} (h:Rn g s c ds N none) {x:Sh} (hx:zX g x) (hx0:x.fr=0) (hN:N+CW<281474976710656):∃r,u6 g KF KF s x=some r∧Kp s r.1 CW∧((r.2=0∧Rn g r.1 (oK c x.aq x.data) ds (N+CW) none)∨(r.2=10∧Rn g r.1 c ds (N+CW) none∧g.aH<r.1.f.po.count 3)∨(r.2=9∧km g r.1.a c (oK c x.aq x.data) ds (N+CW))):=by
 have h2:=h.mono (N':=N+CW) (by omega);have KW:=ct.kF g hg.b.2;have hsn:=h.sn;obtain⟨s1,e,h3,h4⟩:=Rn.Z1 hg hform hc hN (k:=KF) (by decide) hx hx0 KF s h2 (by rw[Tn];omega) (by show _<200;omega);have kp:=(ba.Z0 hg hc hx.dl KF s h.ok h3).2;rw[Tn] at kp;exact⟨(s1,e),h3,kp,h4⟩
theorem PZ {a:Nat} {d:List UInt8} (ha:(a:Int)≤g.cap) (hd:d.length≤64):zX g (Te a d):=⟨.inl rfl,ha,Nat.zero_le _,hd,.inl rfl⟩
theorem V4 {a:Nat} (ha:(a:Int)≤g.cap):zX g (shT a):=⟨.inr rfl,ha,Nat.zero_le _,Nat.zero_le _,.inr rfl⟩
theorem KM (hg:g.In) (hform:g.cZ=true) (hc:g.cap<65000) (h:Rn g s (vr su t) ds N none) (hl:(su.length:Int)=g.cap) {p:Pg} (hp:Mt su p) (hN:N+CW<281474976710656):∃r,GN g s p=some r∧Kp s r.1 CW∧((r.2=0∧Rn g r.1 (vr (su.set p.aq.toNat p.data) t) ds (N+CW) none)∨(r.2=10∧Rn g r.1 (vr su t) ds (N+CW) none∧g.aH<r.1.f.po.count 3)∨(r.2=9∧km g r.1.a (vr su t) (vr (su.set p.aq.toNat p.data) t) ds (N+CW))):=by
 have hlo:=hp.lo;have hhi:=hp.hi;have ha:p.aq.toNat<su.length:=by omega
 rw[←Sf ha];unfold GN;by_cases hh:p.cw=true
 ·rw[if_pos hh];have hd:=hp.cw hh;unfold Kd;by_cases hs:(s.f.pm.cd.getD p.aq.toNat none).isSome=true
  ·rw[if_pos hs];have:=Av hg hform hc h (V4 (a:=p.aq.toNat) (by omega)) rfl hN;rw[hd];exact this
  ·rw[if_neg hs]
   have hn:s.f.pm.at p.aq.toNat=none:=by
    have:¬(s.f.pm.at p.aq.toNat).isSome=true:=hs;simpa using this
   obtain⟨t',ht1,ht2,_⟩:=h.m9 p.aq.toNat
   have tG:s.m9 p.aq.toNat=some ⟨2,0,0,p.aq.toNat,0,[]⟩:=by
    unfold FS.m9;rw[show s.f.pm.cd.getD p.aq.toNat none=none from hn]
   rw[tG] at ht1;cases ht1;refine⟨_,rfl,Kp.rfl s CW,.inl ⟨rfl, ?_⟩⟩
   have e:oK (vr su t) p.aq.toNat p.data=vr su t:=by
    funext j;unfold oK;split
    ·rename_i e;rw[e, ←ht2,hd]
    ·rfl
   rw[e];exact h.mono (by omega)
 ·rw[if_neg hh];exact Av hg hform hc h (PZ (a:=p.aq.toNat) (by omega) hp.dl) rfl hN
theorem rG (hg:g.In) (hform:g.cZ=true) (hc:g.cap<65000):∀(l:List Pg) (s:FS) (su:List (List UInt8)) (N:Nat),Rn g s (vr su t) ds N none→(su.length:Int)=g.cap→dR l→(∀p∈l,Mt su p)→N+l.length*CW<281474976710656→∃r,hH g l s l=some r∧Kp s r.1 (l.length*CW)∧((r.2.2=0∧r.2.1=[]∧Rn g r.1 (vr (dS su l) t) ds (N+l.length*CW) none)∨(r.2.2=10∧g.aH<r.1.f.po.count 3∧∃j,j≤l.length∧r.2.1=l.drop j∧Rn g r.1 (vr (dS su (l.take j)) t) ds (N+l.length*CW) none)∨(r.2.2=9∧∃j,j<l.length∧km g r.1.a (vr (dS su (l.take j)) t) (vr (dS su (l.take (j+1))) t) ds (N+l.length*CW)))
 |[],s,su,N,h,hl,hs,hp,hN=>⟨(s,[],0),rfl,Kp.rfl s _,.inl ⟨rfl,rfl,h.mono (by omega)⟩⟩
 |p::l,s,su,N,h,hl,hs,hp,hN=>by
  rw[List.length_cons,Nat.succ_mul] at hN;obtain⟨r,h1,h2,h3⟩:=KM hg hform hc h hl (hp p List.mem_cons_self) (by omega);rw[hH,h1];simp only[List.length_cons,Nat.succ_mul];rcases h3 with⟨e,h3⟩|⟨e,h3,h4⟩|⟨e,h3⟩
  ·rw[if_pos e,Cq hs]
   have hp2:∀q∈l,Mt (su.set p.aq.toNat p.data) q:=fun q hq=>by
    have:=hp q (List.mem_cons_of_mem _ hq);exact⟨this.lo,by rw[List.length_set];exact this.hi,this.dl,this.cw⟩
   obtain⟨r',k1,k2,k3⟩:=rG hg hform hc l r.1 (su.set p.aq.toNat p.data) (N+CW) h3 (by rw[List.length_set];exact hl) (Cp hs) hp2 (by omega);refine⟨r',k1,(h2.trans k2).mono (by omega), ?_⟩;rw[show N+CW+l.length*CW=N+(l.length*CW+CW) from by omega] at k3;rcases k3 with⟨e1,e2,e3⟩|⟨e1,e2,j,e3,e4,e5⟩|⟨e1,j,e2,e3⟩
   ·exact .inl ⟨e1,e2,e3⟩
   ·exact .inr (.inl ⟨e1,e2,j+1,by omega,e4,e5⟩)
   ·exact .inr (.inr ⟨e1,j+1,by omega,e3⟩)
  ·rw[if_neg (by omega)];refine⟨_,rfl,h2.mono (by omega),.inr (.inl ⟨e,h4,0,Nat.zero_le _,rfl,h3.mono (by omega)⟩)⟩
  ·rw[if_neg (by omega)];refine⟨_,rfl,h2.mono (by omega),.inr (.inr ⟨e,0,by omega,h3.mono (by omega)⟩)⟩
end
def eQ (o:Ob) (j:Nat):Ob:=⟨dS o.su (o.ps.take j),o.ps.drop j,o.r⟩
structure Ug (g:ct) (u:Un) (o:Ob) (ds:List Nat) (N b:Nat):Prop where
 t:∃t,Rn g u.s (vr o.su t) ds N none∧wG t b o.r
 boots:u.s.a.boots=(b:Int)
 ps:u.ps=o.ps
 r:u.r=o.r
 dn:u.down=false
 ook:o.ok
 len:(o.su.length:Int)=g.cap
 cw:∀p∈o.ps,p.cw=true→p.data=[]
structure wH (g:ct) (a:Ar) (o o':Ob) (ds:List Nat) (N b:Nat):Prop where
 off:a.off=true
 eI:BV a
 boots:a.boots=(b:Int)
 cd:∀cut:Int,∃q,(q=o∨q=o')∧∃i,i≤8∧∃t,Cr g (cE a cut) (vr (dS q.su (q.ps.take i)) t) ds N∧wG t b q.r
section
variable {g:ct} {u:Un} {o:Ob} {ds:List Nat} {N b:Nat}
theorem Ug.pg (h:Ug g u o ds N b):∀p∈o.ps,Mt o.su p:=fun p hp=>⟨(h.ook.ie.lo p hp).1,h.ook.inr p hp,h.ook.ie.dl p hp,h.cw p hp⟩
theorem Ug.ok (h:Ug g u o ds N b):PV g u:=by
 obtain⟨t,h1,_⟩:=h.t;refine⟨h1.ok,by rw[h.ps];exact h.ook.ie,by rw[h.ps];exact h.ook.Bn,fun p hp=> ?_⟩;rw[h.ps] at hp;have:=h.pg p hp;have hl:=h.len;have hi:=this.hi;exact⟨this.lo,by omega,this.dl⟩
theorem KN (h:o.ok) (j:Nat):(eQ o j).ok where
 n1:=by show 1≤(dS o.su (o.ps.take j)).length;rw[cV];exact h.n1
 n2:=by show (dS o.su (o.ps.take j)).length≤_;rw[cV];exact h.n2
 dl:=wB _ _ h.dl (fun p hp=>h.ie.dl p (List.mem_of_mem_take hp))
 ie:=⟨h.ie.up.sublist (List.drop_sublist _ _),fun p hp=>h.ie.lo p (List.mem_of_mem_drop hp),fun p hp=>h.ie.dl p (List.mem_of_mem_drop hp)⟩
 Bn:=by show (o.ps.drop j).length≤8;rw[List.length_drop];have:=h.Bn;omega
 inr:=fun p hp=>by
  show p.aq<(((dS o.su (o.ps.take j)).length:Nat):Int)
  rw[cV];exact h.inr p (List.mem_of_mem_drop hp)
 vj:=h.vj
theorem Ug.step (h:Ug g u o ds N b) {s:FS} {j:Nat} {N':Nat} {t:List UInt8} (ht:wG t b o.r) (hr:Rn g s (vr (dS o.su (o.ps.take j)) t) ds N' none) (hb:s.a.boots=u.s.a.boots):Ug g {u with s:=s,ps:=o.ps.drop j} (eQ o j) ds N' b where
 t:=⟨t,hr,ht⟩
 boots:=hb.trans h.boots
 ps:=rfl
 r:=h.r
 dn:=h.dn
 ook:=KN h.ook j
 len:=by show (((dS o.su (o.ps.take j)).length:Nat):Int)=_;rw[cV];exact h.len
 cw:=fun p hp=>h.cw p (List.mem_of_mem_drop hp)
theorem Sj (hg:g.In) (hform:g.cZ=true) (hc:g.cap<65000) (h:Ug g u o ds N b) {p:Pg} (hp:Mt o.su p) (sure:Bool) (hN:N+9*CW<281474976710656):∃r,EA g u.s u.ps p sure=some r∧Kp u.s r.1 (9*CW)∧((r.2.2=0∧Ug g {u with s:=r.1,ps:=r.2.1} (pq o p sure) ds (N+9*CW) b)∨(r.2.2=10∧g.aH<r.1.f.po.count 3∧∃j,j≤o.ps.length∧Ug g {u with s:=r.1,ps:=r.2.1} (eQ o j) ds (N+9*CW) b)∨(r.2.2=9∧wH g r.1.a o (pq o p sure) ds (N+9*CW) b)):=by
 obtain⟨t,ht,htb⟩:=h.t;have hlen:=h.len;have hlo:=hp.lo;have hhi:=hp.hi;have hn2:=h.ook.n2;have hle:=h.ook.Bn;have ha:p.aq.toNat<o.su.length:=by omega
 have hok:=V0 h.ook hlo hhi hp.dl sure;unfold EA;rw[h.ps];by_cases hs:sure=true
 ·subst hs;rw[if_pos rfl];obtain⟨r,h1,h2,h3⟩:=KM hg hform hc ht hlen hp (by omega);rw[h1];simp only;have e:pq o p true=⟨o.su.set p.aq.toNat p.data,fC o.ps p.aq,o.r⟩:=rfl;rcases h3 with⟨e1,h3⟩|⟨e1,h3,h4⟩|⟨e1,h3⟩
  ·rw[if_pos e1];refine⟨_,rfl,h2.mono (by omega),.inl ⟨rfl, ?_⟩⟩
   exact {
    t:=⟨t,h3.mono (by omega),htb⟩,boots:=h2.boots.trans h.boots,ps:=rfl,r:=h.r,dn:=h.dn,ook:=hok
    len:=by rw[e];show (((o.su.set p.aq.toNat p.data).length:Nat):Int)=_;rw[List.length_set];exact hlen
    cw:=fun q hq=>h.cw q (GI hq)}
  ·rw[if_neg (by omega)];refine⟨_,rfl,h2.mono (by omega),.inr (.inl ⟨e1,h4,0,Nat.zero_le _, ?_⟩)⟩;exact h.step (j:=0) htb (h3.mono (by omega)) h2.boots
  ·rw[if_neg (by omega)];refine⟨_,rfl,h2.mono (by omega),.inr (.inr ⟨e1,h3.off,h3.eI,h2.boots.trans h.boots,fun cut=> ?_⟩)⟩;rcases h3.cd cut with h4|h4
   ·exact⟨o,.inl rfl,0,by omega,t,h4.mono (by omega),htb⟩
   ·exact⟨_,.inr rfl,0,by omega,t,h4.mono (by omega),htb⟩
 ·have hs':sure=false:=by simpa using hs
  subst hs';rw[if_neg (by simp)];have tI:pq o p false=if (gX o.ps p).2=11 then ⟨dS o.su o.ps,(gX [] p).1,o.r⟩ else ⟨o.su,(gX o.ps p).1,o.r⟩:=rfl
  have hput:∀(ps:List Pg),dR ps→(∀q∈ps,q.cw=true→q.data=[])→∀q∈(gX ps p).1,q.cw=true→q.data=[]:=fun ps hss hh q hq hqh=>by
   rcases Ew hss hq with hq|rfl
   ·exact hh q hq hqh
   ·have hqh:p.cw=true:=hqh;show (if p.cw=true then [] else p.data)=[]
    rw[if_pos hqh]
  by_cases AS:(gX o.ps p).2=11
  ·rw[if_neg (fun e=>e AS)];rw[if_pos AS] at tI;have h8:o.ps.length*CW≤8*CW:=Nat.mul_le_mul_right _ hle;obtain⟨r,h1,h2,h3⟩:=rG hg hform hc o.ps u.s o.su N ht hlen h.ook.ie h.pg (by omega);rw[h1];simp only;rcases h3 with⟨e1,e2,h3⟩|⟨e1,h4,j,hj,e2,h3⟩|⟨e1,j,hj,h3⟩
   ·rw[if_pos e1,e2]
    have h0:(gX [] p).2=0:=by
     rw[Eu (by simp) hlo (by omega) hp.dl];simp
    refine⟨_,rfl,h2.mono (by omega),.inl ⟨h0, ?_⟩⟩;rw[tI] at hok⊢
    exact {
     t:=⟨t,h3.mono (by omega),htb⟩,boots:=h2.boots.trans h.boots,ps:=rfl,r:=h.r,dn:=h.dn,ook:=hok
     len:=by show (((dS o.su o.ps).length:Nat):Int)=_;rw[cV];exact hlen
     cw:=hput [] oP (fun q hq=>by cases hq)}
   ·rw[if_neg (by omega)];refine⟨_,rfl,h2.mono (by omega),.inr (.inl ⟨e1,h4,j,hj, ?_⟩)⟩;rw[e2];exact h.step htb (h3.mono (by omega)) h2.boots
   ·rw[if_neg (by omega)];refine⟨_,rfl,h2.mono (by omega),.inr (.inr ⟨e1,h3.off,h3.eI,h2.boots.trans h.boots,fun cut=> ?_⟩)⟩;rcases h3.cd cut with h4|h4
    ·exact⟨o,.inl rfl,j,by omega,t,h4.mono (by omega),htb⟩
    ·exact⟨o,.inl rfl,j+1,by omega,t,h4.mono (by omega),htb⟩
  ·rw[if_pos AS];rw[if_neg AS] at tI;refine⟨_,rfl,Kp.rfl u.s _,.inl ⟨rfl, ?_⟩⟩;rw[tI] at hok⊢
   exact {
    t:=⟨t,ht.mono (by omega),htb⟩,boots:=h.boots,ps:=rfl,r:=h.r,dn:=h.dn,ook:=hok,len:=hlen
    cw:=hput o.ps h.ook.ie h.cw}
end
theorem Mu (r:R) (h:Int) (c:Cm) (P:R×Int→Prop) (h0:∀s,P (s,0)) (h1:P (r,1)) (MQ:P (r,13)):P (doR r h c):=by
 unfold doR;split
 ·exact h1
 split
 ·exact h1
 split
 ·exact MQ
 split
 ·exact h0 _
 split
 ·split
  ·exact MQ
  split
  ·exact h0 _
  ·exact h0 _
 split
 ·split
  ·exact h0 _
  split
  ·exact h1
  ·exact h0 _
 split
 ·exact h0 _
 unfold jc;simp only[];split
 ·exact h1
 split
 ·exact MQ
 split
 ·exact h0 _
 ·exact h0 _
theorem Sk (r:R) (h:Int) (c:Cm):((doR r h c).2=0∨(doR r h c).2=1∨(doR r h c).2=13)∧((doR r h c).2≠0→(doR r h c).1=r):=
 Mu r h c (fun x=>(x.2=0∨x.2=1∨x.2=13)∧(x.2≠0→x.1=r)) (fun s=>⟨.inl rfl,fun h=>absurd rfl h⟩) ⟨.inr (.inl rfl),fun _=>rfl⟩ ⟨.inr (.inr rfl),fun _=>rfl⟩
section
variable {g:ct} {u:Un} {o:Ob} {ds:List Nat} {N b:Nat}
def To (g:ct) (u:Un) (o o':Ob) (a:Rs) (ch:Bool) (ds:List Nat) (N b:Nat) (r:Un×Rs×Int):Prop:=
 (r.2.2=0∧r.2.1=a∧Ug g r.1 o' ds N b)∨
 (r.2.2=0∧r.2.1=⟨10,[],R.zero⟩∧a.e=0∧ch=true∧g.aH<r.1.s.f.po.count 3∧∃j,j≤o.ps.length∧Ug g r.1 (eQ o j) ds N b)∨
 (r.2.2=9∧wH g r.1.s.a o o' ds N b)
theorem EB (h:Ug g u o ds N b):js u=(u,0):=by
 obtain⟨t,ht,_⟩:=h.t;unfold js;have h1:=ht.on;have h2:=ht.aR;rw[if_neg (by simp [h1]),if_neg (by rw[h.dn];simp;omega)]
theorem V5 (hg:g.In) (hform:g.cZ=true) (hc:g.cap<65000) (h:Ug g u o ds N b) (hh:Int) (c:Cm) (bW:List UInt8) (hd:c.dn=bW.length) (Xd:0≤c.nw∧c.nw≤4294967295) (hN:N+9*CW<281474976710656):∃r,Tl g u hh c bW=some r∧Kp u.s r.1.s (9*CW)∧To g u o (ya o hh c bW).1 (ya o hh c bW).2 (!decide (c.kd=0)&& !decide (c.kd=9)) ds (N+9*CW) b r:=by
 obtain⟨s,ps,r,dn⟩:=u;have hr:=h.r;have hps:=h.ps;simp only at hr hps;subst hr hps;obtain⟨t,ht,htb⟩:=h.t;have hlen:=h.len;have hcap:g.cap.toNat=o.su.length:=by omega
 have hmono:Ug g ⟨s,o.ps,o.r,dn⟩ o ds (N+9*CW) b:={h with t:=⟨t,ht.mono (by omega),htb⟩};have CQ:=htb.PY;unfold Tl;rw[EB h];simp only[ne_eq,not_true_eq_false,if_false]
 have plain:∀(a:Rs),a.e=0∨a.e=1∨a.e=13→(∃r,(if a.e=7∨a.e=9 then some ((⟨s,o.ps,o.r,true⟩:Un),(⟨0,[],R.zero⟩:Rs),a.e) else some ((⟨s,o.ps,o.r,dn⟩:Un),a,0))=some r∧Kp s r.1.s (9*CW)∧r=((⟨s,o.ps,o.r,dn⟩:Un),a,0)):=fun a ha=>by
  rw[if_neg (by omega)];exact⟨_,rfl,Kp.rfl _ _,rfl⟩
 unfold Mk ya;rw[hcap];by_cases hv:lZ hh c o.su.length=false
 ·rw[if_pos hv,if_pos hv];exact⟨((⟨s,o.ps,o.r,dn⟩:Un),⟨1,[],R.zero⟩,0),rfl,Kp.rfl _ _,.inl ⟨rfl,rfl,hmono⟩⟩
 rw[if_neg hv,if_neg hv];by_cases hm:Hm o.r hh c=false
 ·rw[if_pos hm,if_pos hm];exact⟨((⟨s,o.ps,o.r,dn⟩:Un),⟨13,[],R.zero⟩,0),rfl,Kp.rfl _ _,.inl ⟨rfl,rfl,hmono⟩⟩
 rw[if_neg hm,if_neg hm];have MC:lZ hh c o.su.length=true:=by simpa using hv
 unfold lZ at MC;simp only[Bool.and_eq_true,Bool.or_eq_true,Bool.not_eq_true',Bool.or_eq_false_iff,decide_eq_true_eq,decide_eq_false_iff_not] at MC;obtain⟨⟨⟨⟨v1,v2⟩,v3⟩,v4⟩,v5⟩:=MC;by_cases k0:c.kd=0
 ·rw[if_pos k0,if_pos k0];have xM:=v4.resolve_left (fun e=>e.1.1 k0);have Hf:lY o c.kH=(qC o.ps c.kH).getD (o.su.getD c.kH.toNat []):=if_pos xM;by_cases hp:fN o.ps c.kH=true
  ·rw[if_pos hp];refine⟨((⟨s,o.ps,o.r,dn⟩:Un),⟨0,(qC o.ps c.kH).getD [],R.zero⟩,0),rfl,Kp.rfl _ _,.inl ⟨rfl, ?_,hmono⟩⟩;simp only;rw[Hf]
   cases hgp:qC o.ps c.kH with
   |none=>rw[rE.1 hgp] at hp;cases hp
   |some d=>rfl
  ·rw[if_neg hp];obtain⟨t',h1,h2,_⟩:=ht.m9 c.kH.toNat;rw[h1];refine⟨((⟨s,o.ps,o.r,dn⟩:Un),⟨0,t'.data,R.zero⟩,0),rfl,Kp.rfl _ _,.inl ⟨rfl, ?_,hmono⟩⟩;simp only;rw[Hf,rE.2 (by simpa using hp),h2,PX (by omega)];rfl
 rw[if_neg k0,if_neg k0]
 have put:∀(p:Pg),Mt o.su p→c.kd≠9→∃r,(match (match EA g s o.ps p c.su with
  |none=>none
  |some r=>some ((⟨r.1,r.2.1,o.r,dn⟩:Un),(⟨0,[],R.zero⟩:Rs),r.2.2)) with
  |none=>none
  |some r=>if r.2.2=7∨r.2.2=9 then some ({r.1 with down:=true},(⟨0,[],R.zero⟩:Rs),r.2.2) else some (r.1,{r.2.1 with e:=r.2.2},0))=some r∧Kp s r.1.s (9*CW)∧
  To g ⟨s,o.ps,o.r,dn⟩ o (pq o p c.su) ⟨0,[],R.zero⟩ (!decide (c.kd=0)&& !decide (c.kd=9)) ds (N+9*CW) b r:=fun p hp h9=>by
  obtain⟨r,h1,h2,h3⟩:=Sj hg hform hc h hp c.su hN;rw[h1];simp only;rcases h3 with⟨e,h3⟩|⟨e,h3,h4⟩|⟨e,h3⟩
  ·rw[if_neg (by omega),e];exact⟨_,rfl,h2,.inl ⟨rfl,rfl,h3⟩⟩
  ·rw[if_neg (by omega),e];exact⟨_,rfl,h2,.inr (.inl ⟨rfl,rfl,rfl,by simp [k0,h9],h3,h4⟩)⟩
  ·rw[if_pos (.inr e)];exact⟨_,rfl,h2,.inr (.inr ⟨e,h3⟩)⟩
 by_cases k1:c.kd=1
 ·rw[if_pos k1,if_pos k1];have xM:=v4.resolve_left (fun e=>e.1.2 k1);have hdn:c.dn≤64:=v5.resolve_left (fun e=>e k1);exact put ⟨c.kH,bW,false⟩ ⟨xM.1,xM.2,by show bW.length≤64;omega,fun e=>by cases e⟩ (by omega)
 rw[if_neg k1,if_neg k1];by_cases k2:c.kd=2
 ·rw[if_pos k2,if_pos k2];have xM:=v4.resolve_left (fun e=>e.2 k2);exact put ⟨c.kH,[],true⟩ ⟨xM.1,xM.2,Nat.zero_le _,fun _=>rfl⟩ (by omega)
 rw[if_neg k2,if_neg k2];by_cases k3:c.kd=3
 ·rw[if_pos k3,if_pos k3];have hle:=h.ook.Bn;have h8:o.ps.length*CW≤8*CW:=Nat.mul_le_mul_right _ hle;obtain⟨r,h1,h2,h3⟩:=rG hg hform hc o.ps s o.su N ht hlen h.ook.ie h.pg (by omega);rw[h1];simp only;rcases h3 with⟨e1,e2,h3⟩|⟨e1,h4,j,hj,e2,h3⟩|⟨e1,j,hj,h3⟩
  ·rw[if_neg (by omega),e1,e2];refine⟨_,rfl,h2.mono (by omega),.inl ⟨rfl,rfl, ?_⟩⟩
   exact {
    t:=⟨t,h3.mono (by omega),htb⟩,boots:=h2.boots.trans h.boots,ps:=rfl,r:=h.r,dn:=h.dn,ook:=Ag h.ook
    len:=by show (((dS o.su o.ps).length:Nat):Int)=_;rw[cV];exact hlen
    cw:=fun q hq=>by cases hq}
  ·rw[if_neg (by omega),e1,e2];exact⟨_,rfl,h2.mono (by omega),.inr (.inl ⟨rfl,rfl,rfl,by simp [k3],h4,j,hj,h.step htb (h3.mono (by omega)) h2.boots⟩)⟩
  ·rw[if_pos (.inr e1)];refine⟨_,rfl,h2.mono (by omega),.inr (.inr ⟨e1,h3.off,h3.eI,h2.boots.trans h.boots,fun cut=> ?_⟩)⟩;rcases h3.cd cut with h4|h4
   ·exact⟨o,.inl rfl,j,by omega,t,h4.mono (by omega),htb⟩
   ·exact⟨o,.inl rfl,j+1,by omega,t,h4.mono (by omega),htb⟩
 rw[if_neg k3,if_neg k3];by_cases k9:c.kd=9
 ·rw[if_pos k9,if_pos k9];exact⟨((⟨s,o.ps,o.r,dn⟩:Un),⟨0,[],o.r⟩,0),rfl,Kp.rfl _ _,.inl ⟨rfl,rfl,hmono⟩⟩
 rw[if_neg k9,if_neg k9];have Ql:=Sk o.r hh c;have hdg:=CQ.doR hh c Xd;by_cases hq:(doR o.r hh c).2≠0∨db (doR o.r hh c).1.cs o.r.cs=true
 ·rw[if_pos hq]
  have hsame:(doR o.r hh c).1=o.r:=by
   rcases hq with hq|hq
   ·exact Ql.2 hq
   ·exact CQ.ext hdg.nz ((R.rz _ _).1 hq)
  rw[hsame];obtain⟨r,h1,h2,h3⟩:=plain ⟨(doR o.r hh c).2,[],R.zero⟩ Ql.1;refine⟨r,h1,h2,.inl ?_⟩;rw[h3];exact⟨rfl,rfl,hmono⟩
 rw[if_neg hq];have hq0:(doR o.r hh c).2=0:=Classical.byContradiction fun e=>hq (.inl e)
 rw[hq0];have MV:s.a.boots.toNat=b:=by rw[h.boots];rfl
 rw[MV];have hel:(gY (doR o.r hh c).1 b).length≤64:=by rw[vl];omega
 obtain⟨r,h1,h2,h3⟩:=Av hg hform hc ht (PZ (a:=o.su.length) (by omega) hel) rfl (by omega);rw[h1];have ecs:oK (vr o.su t) (Te o.su.length (gY (doR o.r hh c).1 b)).aq (Te o.su.length (gY (doR o.r hh c).1 b)).data=vr o.su (gY (doR o.r hh c).1 b):=Sg _;rw[ecs] at h3;simp only;have hok:(⟨o.su,o.ps,(doR o.r hh c).1⟩:Ob).ok:={h.ook with vj:=hdg.vj};rcases h3 with⟨e,h3⟩|⟨e,h3,h4⟩|⟨e,h3⟩
 ·rw[if_pos e];simp only;rw[if_neg (by omega)];refine⟨_,rfl,h2.mono (by omega),.inl ⟨rfl,rfl, ?_⟩⟩
  exact {
   t:=⟨_,h3.mono (by omega),wG.enc hdg b⟩,boots:=h2.boots.trans h.boots,ps:=h.ps,r:=rfl,dn:=h.dn,ook:=hok,len:=hlen,cw:=h.cw}
 ·rw[if_neg (by omega)];simp only;rw[if_neg (by omega),e];refine⟨_,rfl,h2.mono (by omega),.inr (.inl ⟨rfl,rfl,rfl,by simp [k0,k9],h4,0,Nat.zero_le _, ?_⟩)⟩;exact {h with t:=⟨t,h3.mono (by omega),htb⟩,boots:=h2.boots.trans h.boots}
 ·rw[if_neg (by omega)];simp only;rw[if_pos (.inr e)];refine⟨_,rfl,h2.mono (by omega),.inr (.inr ⟨e,h3.off,h3.eI,h2.boots.trans h.boots,fun cut=> ?_⟩)⟩;rcases h3.cd cut with h4|h4
  ·exact⟨o,.inl rfl,0,by omega,t,h4.mono (by omega),htb⟩
  ·exact⟨_,.inr rfl,0,by omega,_,h4.mono (by omega),wG.enc hdg b⟩
end
structure Up (g:ct) (a:Ar) (o:Ob) (ds:List Nat) (N b:Nat):Prop where
 t:∃t,Cr g a (vr o.su t) ds N∧wG t b o.r
 on:a.off=false
 eI:a.eI=.no
 boots:a.boots=(b:Int)
 ps:o.ps=[]
 ook:o.ok
 len:(o.su.length:Int)=g.cap
section
variable {g:ct} {u:Un} {o o':Ob} {a:Ar} {ds:List Nat} {N b:Nat}
theorem V6 (hg:g.In) (hform:g.cZ=true) (hc:g.cap<65000) (h:Ug g u o ds N b) (hN:N+9*CW<281474976710656):∃r,WW g u=some r∧Kp u.s r.1.s (9*CW)∧((r.2=0∧Ug g r.1 (fY o) ds (N+9*CW) b)∨(r.2=10∧g.aH<r.1.s.f.po.count 3∧∃j,j≤o.ps.length∧Ug g r.1 (eQ o j) ds (N+9*CW) b)∨(r.2=9∧wH g r.1.s.a o (fY o) ds (N+9*CW) b)):=by
 obtain⟨s,ps,r,dn⟩:=u;have hr:=h.r;have hps:=h.ps;have hdn:=h.dn;simp only at hr hps hdn;subst hr hps hdn;obtain⟨t,ht,htb⟩:=h.t;have hlen:=h.len;have hle:=h.ook.Bn;have h8:o.ps.length*CW≤8*CW:=Nat.mul_le_mul_right _ hle;obtain⟨r,h1,h2,h3⟩:=rG hg hform hc o.ps s o.su N ht hlen h.ook.ie h.pg (by omega);unfold WW;rw[EB h];simp only[ne_eq,not_true_eq_false,if_false];rw[h1];simp only;rcases h3 with⟨e1,e2,h3⟩|⟨e1,h4,j,hj,e2,h3⟩|⟨e1,j,hj,h3⟩
 ·rw[e1,e2];refine⟨_,rfl,h2.mono (by omega),.inl ⟨rfl, ?_⟩⟩
  exact {
   t:=⟨t,h3.mono (by omega),htb⟩,boots:=h2.boots.trans h.boots,ps:=rfl,r:=rfl,dn:=rfl,ook:=Ag h.ook
   len:=by show (((dS o.su o.ps).length:Nat):Int)=_;rw[cV];exact hlen
   cw:=fun q hq=>by cases hq}
 ·rw[e1,e2];exact⟨_,rfl,h2.mono (by omega),.inr (.inl ⟨rfl,h4,j,hj,h.step htb (h3.mono (by omega)) h2.boots⟩)⟩
 ·refine⟨_,rfl,h2.mono (by omega),.inr (.inr ⟨e1,h3.off,h3.eI,h2.boots.trans h.boots,fun cut=> ?_⟩)⟩;rcases h3.cd cut with h4|h4
  ·exact⟨o,.inl rfl,j,by omega,t,h4.mono (by omega),htb⟩
  ·exact⟨o,.inl rfl,j+1,by omega,t,h4.mono (by omega),htb⟩
theorem P1 {x:Int} (h0:0≤x) (h1:x<4611686018427387904):sa (x+1)=x+1:=bq (by omega) (by omega)
theorem wH.Sl (h:wH g a o o' ds N b) (ho:o.ok) (ho':o'.ok) (hl:(o.su.length:Int)=g.cap) (hl':(o'.su.length:Int)=g.cap) (hb:b<2147483647) (cut:Int):∃q,(q=o∨q=o')∧∃i,i≤8∧Up g (cE a cut) (Af (eQ q i) true) ds N (b+1):=by
 obtain⟨q,hq,i,hi,t,h1,h2⟩:=h.cd cut;refine⟨q,hq,i,hi, ?_⟩;have hqo:q.ok:=by rcases hq with rfl|rfl<;>assumption
 have hql:(q.su.length:Int)=g.cap:=by rcases hq with rfl|rfl<;>assumption
 have MV:(xh a cut).boots=a.boots:=by
  unfold xh;split
  ·rfl
  ·rfl
  ·split
   ·split<;>rfl
   ·rfl
  ·split
   ·rfl
   ·split
    ·rfl
    ·split<;>rfl
 exact {
  t:=⟨t,h1,h2.Z6⟩
  on:=rfl
  eI:=rfl
  boots:=by
   show sa (a.boots+1)=_
   rw[h.boots,P1 (by omega) (by omega)];rfl
  ps:=rfl
  ook:=Et (KN hqo i) true
  len:=by show (((dS q.su (q.ps.take i)).length:Nat):Int)=_;rw[cV];exact hql}
theorem Ug.Sl (h:Ug g u o ds N b) (hb:b<2147483647) (cut:Int):Up g (cE u.s.a cut) (Af o true) ds N (b+1):=by
 obtain⟨t,ht,htb⟩:=h.t;obtain⟨h1,h2⟩:=IF ht.eI cut
 exact {
  t:=⟨t,ht.cr.congr h1 h2,htb.Z6⟩
  on:=rfl
  eI:=rfl
  boots:=by
   have hw:xh u.s.a cut=u.s.a:=by unfold xh;rw[ht.eI]
   show sa ((u.s.a).boots+1)=_
   rw[h.boots,P1 (by omega) (by omega)];rfl
  ps:=rfl
  ook:=Et h.ook true
  len:=h.len}
theorem Ug.leave (h:Ug g u o ds N b) (a:Ar) (hb:a.bs=u.s.a.bs) (hp:a.aA=u.s.a.aA) (ho:a.off=false) (hw:a.eI=.no) (MV:a.boots=u.s.a.boots):Up g a (Af o false) ds N b:=by
 obtain⟨t,ht,htb⟩:=h.t
 exact {
  t:=⟨t,ht.cr.congr hb hp,htb⟩
  on:=ho
  eI:=hw
  boots:=MV.trans h.boots
  ps:=rfl
  ook:=Et h.ook false
  len:=h.len}
theorem Up.mount (h:Up g a o ds N b) (hg:g.In) (hc:0≤g.cap∧g.cap<65000) {ep:Nat} (he:1≤ep∧ep<281474976710656) (hf:a.aR≤ep) (hb:b<2147483648) (sq:Int→Nat):Kp (FS.xU g a ep) (cF g sq a ep).1 0∧(((cF g sq a ep).2=0∧∃v,uM g (cF g sq a ep).1=some v∧v.s=(cF g sq a ep).1∧Ug g v o ds N b)∨((cF g sq a ep).2=9∧wH g (cF g sq a ep).1.a o o ds N b)):=by
 obtain⟨t,W9,htb⟩:=h.t;have acU:=(W9.xU hg hc h.on h.eI he hf).ok;have kp:=LY hg (sq:=sq) acU;have hlen:=h.len;refine⟨kp, ?_⟩;rcases W9.mount hg hc h.on h.eI he hf sq with⟨h1,h2⟩|⟨h1,h2⟩
 ·left;refine⟨h1, ?_⟩;obtain⟨x,hx1,vt,_⟩:=h2.m9 g.cap.toNat;have hcap:g.cap.toNat=o.su.length:=by omega
  have hx3:x.data=t:=by rw[vt,hcap,Si]
  have MV:(cF g sq a ep).1.a.boots=(b:Int):=kp.boots.trans h.boots;have cw:∀p∈o.ps,p.cw=true→p.data=[]:=fun p hp=>by rw[h.ps] at hp;cases hp
  unfold uM;rw[hx1];simp only;rcases htb with⟨e1,e2⟩|⟨r0,b0,e1,e2,e3,e4⟩
  ·rw[if_pos (by rw[hx3,e1];rfl)];exact⟨_,rfl,rfl,⟨t,h2,.inl ⟨e1,e2⟩⟩,MV,h.ps.symm,e2.symm,rfl,h.ook,hlen,cw⟩
  ·rw[if_neg (by rw[hx3,e1,vl];omega),hx3,e1,e2.aco (by omega)];refine⟨_,rfl,rfl,⟨t,h2,.inr ⟨r0,b0,e1,e2,e3,e4⟩⟩,MV,h.ps.symm, ?_,rfl,h.ook,hlen,cw⟩;show o8 r0 (b0:Int) _=o.r
   rw[MV,e4]
 ·right;refine⟨h1,h2.off,h2.eI,kp.boots.trans h.boots,fun cut=> ?_⟩;have h3:=(h2.cd cut).elim id id;exact⟨o,.inl rfl,0,by omega,t,h3,htb⟩
end
end Go.Proofs.YtlgdkndamddpkaaGreat
end
section
namespace Go.Am
open Go.ChangeShapes Go.WideShapes Go.RowKit
def I1 (W:World):Value→V
 | .bool b=>.bool b
 | .int k n=>.int k n
 | .string s=>.cH s
 | .pointer none=>.aj none
 | .pointer (some ⟨b,o,none⟩)=>if b<W.heap.size then .aj (some (b,o)) else .cw
 | .slice none n c=>.slice none n c
 | .slice (some a) 0 0=>.slice (some (a.block,a.off)) 0 0
 | .slice (some ⟨b,o,none⟩) n c=>if b<W.heap.size then .slice (some (b,o)) n c else .cw
 | .map none=>.map none
 | .nilFunc=>.nilFunc
 | .nilIface=>.nilIface
 | .iface t _=>.iface t .cw
 |_=>.cw
def M4 (W:World):Value→V
 | .agg cs=>if∀c∈cs.toList.map (I1 W),c.one=true then .agg (cs.toList.map (I1 W)) else .cw
 |v=>I1 W v
def Sm (W:World):dB:=fun b=>if b<W.heap.size then some b else none
def hI (W:World):ag where
 get:=fun b=>match W.heap[b]? with
  |some (.cells cs e _)=>some (.cells e (cs.toList.map (I1 W)) true)
  |_=>none
 next:=W.heap.size
theorem EC {W:World} {b:Nat} (h:b<W.heap.size):Sm W b=some b:=if_pos h
theorem KO (W:World) (x:Value):VR (Sm W) (I1 W x) x:=by
 unfold I1;split
 ·exact .bool _
 ·exact .int _ _
 ·exact .cH _
 ·exact .Dd
 ·split
  ·rename_i h;exact .aj (EC h)
  ·exact .cw _
 ·exact .nA _ _
 ·exact .pJ _ _
 ·split
  ·rename_i h;exact .slice _ _ (EC h)
  ·exact .cw _
 ·exact .yz
 ·exact .nilFunc
 ·exact .nilIface
 ·exact .iface _ (.cw _)
 ·exact .cw _
theorem GS (W:World) (l:List Value):eM (Sm W) (l.map (I1 W)) l:=by
 refine⟨by simp,fun i x y hx hy=> ?_⟩;rw[List.getElem?_map,hy,Option.map_some,Option.some.injEq] at hx;subst hx;exact KO W y
theorem Sn (W:World) (x:Value):VR (Sm W) (M4 W x) x:=by
 unfold M4;split
 ·split
  ·rename_i cs h;exact .vH h (GS W _)
  ·exact .cw _
 ·exact KO W _
theorem P2 (W:World) (l:List Value):eM (Sm W) (l.map (M4 W)) l:=by
 refine⟨by simp,fun i x y hx hy=> ?_⟩;rw[List.getElem?_map,hy,Option.map_some,Option.some.injEq] at hx;subst hx;exact Sn W y
theorem ma {W:World} {b:Nat} {o:Obj} (h:(hI W).get b=some o):∃cs e fz,W.heap[b]? =some (.cells cs e fz)∧o=.cells e (cs.toList.map (I1 W)) true:=by
 simp only[hI] at h;split at h
 ·rename_i cs e fz hb;cases h;exact⟨cs,e,fz,hb,rfl⟩
 ·cases h
theorem Mv (W:World) (hgl:∀g∈Na,g<W.heap.size):HR (Sm W) (hI W) W where
 gl:=fun g hg=>EC (hgl g hg)
 wR:=fun b o h=>by
  obtain⟨cs,e,fz,hb,rfl⟩:=ma h
  have hlt:b<W.heap.size:=by
   rcases Nat.lt_or_ge b W.heap.size with h|h
   ·exact h
   ·rw[Array.getElem?_eq_none h] at hb;cases hb
  refine⟨b,EC hlt,cs,fz,hb,GS W _, ?_, ?_⟩
  ·intro h;cases h
  ·intro h;cases h
 inj:=fun id id' o o' b h _ hr _ _=>by
  obtain⟨cs,e,fz,hb,rfl⟩:=ma h;cases hr
 lt:=fun id b h=>by
  unfold Sm at h;split at h
  ·rename_i hlt;cases h;exact⟨hlt,hlt⟩
  ·cases h
theorem GU {W W':World} {H':ag} {ρ':dB} (h:lD (hI W) (Sm W) W H' ρ' W'):Below W.heap.size W W' where
 os:=h.os
 tape:=h.tape
 output:=h.output
 size:=h.size
 block:=fun k hk=>h.frame k hk (by
  rintro⟨id,o,h1,h2,_⟩;obtain⟨cs,e,fz,hb,rfl⟩:=ma h1
  cases h2)
def Bo (P:Program) (H:ag):Nat→TypeId→List V→Prop
 |0,_,_=>False
 |n+1,t,cs=>match P.underlying t with
  |some .bool=>∃b,cs=[.bool b]
  |some (.int k)=>∃x,cs=[.int k x]∧k.min≤x∧x≤k.max
  |some .string=>∃s,cs=[.cH s]∧s.size≤maxLen
  |some (.slice e)=>0<P.cellsOf e→∃p len cap,cs=[.slice p len cap]∧len≤cap∧cap≤maxLen∧(p=none→cap=0)∧
   ∀i,i<cap→∃id off,p=some (id,off)∧id<H.next∧H.inb id (off+i*P.cellsOf e) (P.cellsOf e)=true∧Bo P H n e (H.sub id (off+i*P.cellsOf e) (P.cellsOf e))
  |some (.struct fs)=>cs.length=P.cellsOf t∧∀f∈fs.toList,Bo P H n f.type ((cs.drop f.offset).take (P.cellsOf f.type))
  |some (.array m e)=>cs.length=P.cellsOf t∧∀i,i<m→Bo P H n e ((cs.drop (i*P.cellsOf e)).take (P.cellsOf e))
  |_=>True
theorem GV {α β:Type} {f:α→Option β}:∀{l:List α} {r:List β},l.mapM f=some r→r.length=l.length∧∀(i:Nat) x,l[i]? =some x→∃y,r[i]? =some y∧f x=some y
 |[],r,h=>by simp at h;subst h;exact⟨rfl,fun i x hx=>by simp at hx⟩
 |a::l,r,h=>by
  rw[List.mapM_cons] at h
  cases ha:f a with
  |none=>simp [ha] at h
  |some y=>
   cases hl:l.mapM f with
   |none=>simp [ha,hl] at h
   |some m=>
    simp [ha,hl] at h;subst h;obtain⟨h1,h2⟩:=GV hl;refine⟨by simp [h1],fun i x hx=> ?_⟩
    cases i with
    |zero=>simp at hx;subst hx;exact⟨y,rfl,ha⟩
    |succ i=>exact h2 i x (by simpa using hx)
theorem CF {W:World} {aV n:Nat} {a:Addr} {cs:List Value} (h:W.cells? aV a n=some cs) (hn:0<n):a.spot=none∧a.block<W.heap.size∧(hI W).inb a.block a.off n=true∧(hI W).sub a.block a.off n=cs.map (I1 W):=by
 unfold World.cells? at h;split at h;rotate_left
 ·cases h
 obtain⟨hlen,hall⟩:=GV h;simp only[List.length_range] at hlen;have hcell:∀i,i<n→∃y,cs[i]? =some y∧W.cell? (a.add i)=some y:=fun i hi=>hall i i (by simp [hi])
 obtain⟨y0,_,h0⟩:=hcell 0 hn
 have Qq:∃cs' e fz,W.heap[a.block]? =some (.cells cs' e fz)∧a.spot=none:=by
  simp only[World.cell?,Addr.add] at h0;revert h0
  cases hb:W.heap[a.block]? with
  |none=>intro h0;simp [hb] at h0
  |some o=>
   cases o with
   |cells cs' e fz=>
    intro h0
    cases hsp:a.spot with
    |none=>exact⟨cs',e,fz,rfl,rfl⟩
    |some s=>simp [hb,hsp] at h0
   |_=>intro h0;simp [hb] at h0
 obtain⟨cs',e,fz,hb,hsp⟩:=Qq
 have hlt:a.block<W.heap.size:=by
  rcases Nat.lt_or_ge a.block W.heap.size with h|h
  ·exact h
  ·rw[Array.getElem?_eq_none h] at hb;cases hb
 have oS:(hI W).get a.block=some (.cells e (cs'.toList.map (I1 W)) true):=by simp only[hI,hb]
 have rN:∀i,i<n→∃y,cs[i]? =some y∧cs'[a.off+i]? =some y:=by
  intro i hi;obtain⟨y,h1,h2⟩:=hcell i hi;refine⟨y,h1, ?_⟩
  have:a.add i=⟨a.block,a.off+i,none⟩:=by
   obtain⟨b,o,s⟩:=a;cases hsp;exact gb _ _ _
  rw[this,qP hb] at h2;exact h2
 have hle:a.off+n≤cs'.size:=by
  obtain⟨y,_,h2⟩:=rN (n-1) (by omega);rcases Nat.lt_or_ge (a.off+(n-1)) cs'.size with h|h
  ·omega
  ·rw[Array.getElem?_eq_none h] at h2;cases h2
 refine⟨hsp,hlt,by simp [ag.inb,oS];omega, ?_⟩;simp only[ag.sub,ag.cs,oS];apply List.ext_getElem?;intro i;rw[List.getElem?_take,List.getElem?_drop];by_cases hi:i<n
 ·rw[if_pos hi];obtain⟨y,h1,h2⟩:=rN i hi;simp [h1,h2]
 ·rw[if_neg hi];rw[List.getElem?_eq_none];simp;omega
section
variable {H:Type} {enc:TypeId×Value→H} {P:Program} {W:World} {aV:Nat} {held:Bool}
theorem Mw {k:IntKind} {n:Int} (h:(Lit.int k n).wf=true):k.min≤n∧n≤k.max:=by
 simpa only[Lit.wf,Bool.and_eq_true,decide_eq_true_eq] using h
theorem Mx {a:Addr} {n c:Nat} (hs:a.spot=none) (hb:a.block<W.heap.size):I1 W (.slice (some a) n c)=.slice (some (a.block,a.off)) n c:=by
 obtain⟨b,o,s⟩:=a;simp only at hs hb;subst hs
 cases n with
 |zero=>cases c with
  |zero=>rfl
  |succ c=>exact if_pos hb
 |succ n=>exact if_pos hb
theorem So:∀(fuel:Nat) (t:TypeId) (cs:List Value) (d:DataW H) (ps:List MemPlace),DataW.trod enc P W aV (fun _=>true) held fuel t cs=some (d,ps)→Bo P (hI W) fuel t (cs.map (I1 W)):=by
 intro fuel
 induction fuel with
 |zero=>intro t cs d ps h;simp [DataW.trod] at h
 |succ n ih=>
  intro t cs d ps h;unfold Bo;split
  ·rename_i hu;obtain⟨b,rfl,_⟩:=DataW.trod_bool hu h;exact⟨b,rfl⟩
  ·rename_i k hu;obtain⟨x,rfl,_,hw⟩:=DataW.trod_int hu h;exact⟨x,rfl,Mw hw⟩
  ·rename_i hu;obtain⟨s,rfl,_,hs⟩:=DataW.trod_string hu h;exact⟨s,rfl,hs⟩
  ·rename_i e hu;intro hpos;rcases DataW.trod_slice hu h with⟨rfl,_⟩|⟨a,len,cap,elems,rest,m,hm,rfl,_,_,hle,WJ,hel,hE,hR,_⟩
   ·exact⟨none,0,0,rfl,Nat.le_refl _,Nat.zero_le _,fun _=>rfl,fun i hi=>by omega⟩
   ·cases hm;obtain⟨hrl,hR⟩:=hR rfl
    have hall:∀i,i<cap→∃cs' y,W.cells? aV (a.add (i*P.cellsOf e)) (P.cellsOf e)=some cs'∧DataW.trod enc P W aV (fun _=>true) held n e cs'=some y:=by
     intro i hi;by_cases hl:i<len
     ·have h1:=hE i hl;rw[List.getElem?_eq_getElem (by omega),Option.bind_eq_some_iff] at h1;obtain⟨cs',h1,h2⟩:=h1;exact⟨cs',_,h1,h2⟩
     ·have h1:=hR (i-len) (by omega);rw[List.getElem?_eq_getElem (by omega),Option.bind_eq_some_iff,show len+(i-len)=i by omega] at h1;obtain⟨cs',h1,h2⟩:=h1;exact⟨cs',_,h1,h2⟩
    by_cases hc:cap=0
    ·subst hc;have:len=0:=by omega
     subst this;refine⟨some (a.block,a.off),0,0, ?_,Nat.le_refl _,Nat.zero_le _,(fun _=>rfl),fun i hi=>by omega⟩;obtain⟨b,o,s⟩:=a;cases s<;>rfl
    ·obtain⟨cs0,y0,h0,_⟩:=hall 0 (by omega);have hz:a.add (0*P.cellsOf e)=a:=by simp [Addr.add]
     rw[hz] at h0;obtain⟨hs,hb,_,_⟩:=CF h0 hpos;refine⟨some (a.block,a.off),len,cap,by rw[List.map_cons,List.map_nil,Mx hs hb],hle,WJ,fun h=>(by cases h),fun i hi=> ?_⟩;obtain⟨cs',y,h1,h2⟩:=hall i hi
     have acV:a.add (i*P.cellsOf e)=⟨a.block,a.off+i*P.cellsOf e,none⟩:=by
      obtain⟨b,o,s⟩:=a;cases hs;exact gb _ _ _
     rw[acV] at h1;obtain⟨_,_,h3,h4⟩:=CF h1 hpos;refine⟨a.block,a.off,rfl,hb,h3, ?_⟩;rw[h4];exact ih e cs' y.1 y.2 h2
  ·rename_i fs hu;obtain⟨xs,m,hm,_,hl,hxl,hF⟩:=DataW.trod_struct hu h;cases hm;refine⟨by simpa using hl,fun f hf=> ?_⟩;obtain⟨i,hi,Sz⟩:=List.getElem_of_mem hf
   have hi':fs[i]? =some f:=by
    rw[←Array.getElem?_toList,List.getElem?_eq_getElem hi,Sz]
   have h1:=hF i f hi';have Wd:i<xs.length:=by rw[hxl];simpa using hi
   rw[List.getElem?_eq_getElem Wd] at h1;have:=ih _ _ _ _ h1;rw[List.map_take,List.map_drop] at this;exact this
  ·rename_i m e hu;obtain⟨xs,m',hm,_,hl,hxl,hF⟩:=DataW.trod_array hu h;cases hm;refine⟨by simpa using hl,fun i hi=> ?_⟩;have h1:=hF i hi;rw[List.getElem?_eq_getElem (by omega)] at h1;have:=ih _ _ _ _ h1;rw[List.map_take,List.map_drop] at this;exact this
  ·trivial
theorem Sp {x:Value} (h:∀cs,x≠ .agg cs):M4 W x=I1 W x:=by
 unfold M4;split
 ·exact absurd rfl (h _)
 ·rfl
end
section
variable {H:Type} {enc:TypeId×Value→H} {P:Program}
theorem Bp {f:Func} {s:ChangeSpec} {gx fresh handsOn again:Bool} {W W':World} {args:Array Value} {v:Value} {ds gs:List (DataW H)} {before pa pv:List MemPlace} (hW:DataW.Whole enc P f.params.toList s.vars gx W args.toList ds gs before) (hres:∀(b:Nat) (sp:Nat→Bool) (hd:Bool),DataW.TrodAll enc P W' b sp hd f.resultTypes.toList (v.resultList f.resultTypes.size) (s.fn H (ds++gs)).results []) (hargs:∀sp:Nat→Bool,(∀p∈before,sp p.block=true)→DataW.TrodAll enc P W' 0 sp true f.params.toList args.toList (s.fn H (ds++gs)).args pa) (hvars:∀sp:Nat→Bool,(∀p∈before,sp p.block=true)→DataW.TrodVars enc P W' sp s.vars (s.fn H (ds++gs)).vars pv) (hps:before=pa++pv) (hb:Below W.heap.size W W') (hok:∀(j:Nat) (t:TypeId) (r:Value),f.resultTypes[j]? =some t→(v.resultList f.resultTypes.size)[j]? =some r→Value.okWide P W' .any 0 t r):s.post enc P f gx fresh handsOn again W args v W':=by
 have hlt:∀p∈before,p.block<W.heap.size:=fun p hp=>hW.lt p hp
 have hold:∀p∈before,(fun b=>decide (b<W.heap.size)) p.block=true:=fun p hp=>by simpa using hlt p hp
 refine⟨ds,gs,before,[],pa,pv,hW,hres _ _ _,hargs _ hold,hvars _ hold,World.keptBut_mono (fun p hp=>⟨hp, ?_⟩) (hb.frame (· ∈before)),fun _=> ?_⟩
 ·rw[hps,List.mem_append] at hp;exact Or.inr hp
 ·obtain⟨_,_,_,_,_,hz,hn⟩:=hW;refine⟨hok,_,_,([]++pa)++pv,⟨[]++pa,pv,trodAll_append (hargs _ (fun _ _=>rfl)) (hres _ _ _),hvars _ (fun _ _=>rfl),rfl, ?_, ?_⟩, ?_⟩
  ·intro b off hp;have hin:MemPlace.cell b off∈before:=by rw[hps];simpa using hp
   rw[hb.frozen (hlt _ hin)];exact hz b off hin
  ·intro ha;have:=hn ha;rw[hps] at this;simpa using this
  ·intro p hp _;rw[hps];simpa using hp
end
section
variable {H:Type} {enc:TypeId×Value→H} {P:Program} {W:World}
theorem si (hl:laidOutB P=true) {W':World} (hb:Below W.heap.size W W') {sp:Nat→Bool}:∀{ts:List TypeId} {vs:List Value} {ds:List (DataW H)} {p:List MemPlace},(∀t∈ts,P.readableRec t=true∧t<P.types.size)→(∀x∈p,sp x.block=true)→(∀x∈p,x.block<W.heap.size)→DataW.TrodAll enc P W 0 (fun _=>true) true ts vs ds p→DataW.TrodAll enc P W' 0 sp true ts vs ds p
 |[],vs,ds,p,_,_,_,h=>by
  obtain⟨rfl,rfl,rfl⟩:=trodAll_nil h;exact trodAll_mk0
 |t::ts,vs,ds,p,ht,hs,hlt,h=>by
  obtain⟨v,vs1,d,ds1,a,b,rfl,rfl,rfl,h1,h2⟩:=trodAll_cons h;refine trodAll_cons_mk ?_ (si hl hb (fun u hu=>ht u (List.mem_cons_of_mem _ hu)) (fun x hx=>hs x (List.mem_append_right _ hx)) (fun x hx=>hlt x (List.mem_append_right _ hx)) h2);refine WideElems.Trod_stays hl (ht t (List.mem_cons_self ..)).1 (ht t (List.mem_cons_self ..)).2 h1 (fun x hx=> ?_) (fun x hx=>hs x (List.mem_append_left _ hx));have hx':=hlt x (List.mem_append_left _ hx)
  cases x with
  |cell b o=>exact hb.cell (p:=⟨b,o,none⟩) hx'
  |map b=>exact hb.block b hx'
theorem xl {t:TypeId} {v:Value} {d:DataW H} {p:List MemPlace} (h:DataW.Trod enc P W 0 (fun _=>true) true t v d p):∃n,Bo P (hI W) n t (v.cells.toList.map (I1 W)):=by
 obtain⟨n,hn⟩:=h;exact⟨n,So n t _ _ _ hn⟩
theorem GW {E:kv} (hX:jW E) (hm:E.P.follows .mixedOrders=true) (hl:laidOutB E.P=true) {f:FuncId} {fn:Func} {s:ChangeSpec} {gx fresh handsOn again:Bool} {args:Array Value} {ds gs:List (DataW H)} {before:List MemPlace} {tb:TypeId} (hb:E.P.underlying tb=some .bool) (hpar:∀t∈fn.params.toList,E.P.readableRec t=true∧t<E.P.types.size) (hres:fn.resultTypes= #[tb]) (hv:s.vars=[]) (hs:∀ds:List (DataW H),ds.length=fn.params.size→s.fn H ds={results:=[.lit (.bool true)],args:=ds}) (hW:DataW.Whole enc E.P fn.params.toList s.vars gx W args.toList ds gs before) (hc:(rR E).call f (args.toList.map (M4 W)) (hI W) fun v _=>v=.bool true) (hgl:∀g∈Na,g<W.heap.size:=by intro g hg;cases hg):
 Calls E.P f args W fun e W'=>∃v,e=.returned v∧s.post enc E.P fn gx fresh handsOn again W args v W':=by
 refine((BL hX hm).call _ _ _ _ hc (Sm W) W args (Mv W hgl) (P2 W _)).mono ?_;rintro e W' ⟨v,v',H',ρ',rfl,rfl,hv',_,WK⟩;have Br:=GU WK;refine⟨v',rfl, ?_⟩;rw[hv'.Df];have hW0:=hW;obtain⟨p,q,hA,hV,hpq,hfz,vu⟩:=hW;rw[hv] at hV;obtain⟨rfl,rfl⟩:=trodVars_none hV;simp only[List.append_nil] at hpq;subst hpq
 have hlen:ds.length=fn.params.size:=by
  have key:∀{ts:List TypeId} {vs:List Value} {ds:List (DataW H)} {p:List MemPlace},DataW.TrodAll enc E.P W 0 (fun _=>true) true ts vs ds p→ds.length=ts.length:=by
   intro ts
   induction ts with
   |nil=>intro vs ds p h;obtain⟨_,rfl,_⟩:=trodAll_nil h;rfl
   |cons t ts ih=>
    intro vs ds p h;obtain⟨v,vs1,d,ds1,a,b,rfl,rfl,rfl,_,h2⟩:=trodAll_cons h;simp [ih h2]
  simpa using key hA
 have hsp:=hs ds hlen;have hlt:∀x∈before,x.block<W.heap.size:=fun x hx=>hW0.lt x hx
 refine Bp (pa:=before) (pv:=[]) hW0 (fun b sp hd=> ?_) (fun sp acW=> ?_) (fun sp _=> ?_) (by simp) Br ?_
 ·rw[List.append_nil,hsp,hres];exact trodAll_cons_mk (p:=[]) (p':=[]) (shut_bool hb true) trodAll_mk0
 ·rw[List.append_nil,hsp];exact si hl Br hpar acW hlt hA
 ·rw[List.append_nil,hsp,hv];rfl
 ·exact ok_one hres rfl (okWide_bool_mk hb true)
theorem I2 {t:TypeId} {d:TypeDesc} {r:Reach} {aV:Nat} {cs:Array Value} (hu:P.underlying t=some d) (hd:iM d=false) (h:Value.okWide P W r aV t (.agg cs)):False:=by
 cases d<;>simp [iM] at hd<;>simp [Value.okWide,hu,Cell.okWide,Cell.ok] at h
theorem CG {t:TypeId} {d:TypeDesc} {r:Reach} {aV:Nat} {v:Value} (hu:P.underlying t=some d) (hd:iM d=false) (h:Value.okWide P W r aV t v):v.cells.toList.map (I1 W)=[M4 W v]:=by
 have hn:∀cs,v≠ .agg cs:=by rintro cs rfl;exact I2 hu hd h
 rw[Sp hn];cases v<;>first|rfl|exact absurd rfl (hn _)
variable {r:Reach} {aV:Nat} {v:Value} {d:DataW H} {p:List MemPlace} {t:TypeId}
theorem Sq {k:IntKind} (hu:P.underlying t=some (.int k)) (hval:Value.okWide P W r aV t v) (h:DataW.Trod enc P W 0 (fun _=>true) true t v d p):∃x,M4 W v=.int k x∧k.min≤x∧x≤k.max:=by
 obtain⟨n,hn⟩:=xl h;rw[CG hu rfl hval] at hn
 cases n with
 |zero=>exact hn.elim
 |succ n=>
  simp only[Bo,hu] at hn;obtain⟨x,hx,hr⟩:=hn;exact⟨x,by simpa using hx,hr⟩
end
section
variable {P:Program} {H:ag} {n:Nat} {t:TypeId} {x:V}
theorem qE {k:IntKind} (hu:P.underlying t=some (.int k)) (h:Bo P H n t [x]):∃y,x=.int k y∧k.min≤y∧y≤k.max:=by
 cases n with
 |zero=>exact h.elim
 |succ n=>
  simp only[Bo,hu] at h;obtain⟨y,hy,hr⟩:=h;exact⟨y,by simpa using hy,hr⟩
theorem KP (hu:P.underlying t=some .bool) (h:Bo P H n t [x]):∃y,x=.bool y:=by
 cases n with
 |zero=>exact h.elim
 |succ n=>
  simp only[Bo,hu] at h;obtain⟨y,hy⟩:=h;exact⟨y,by simpa using hy⟩
def My (P:Program) (H:ag) (e:TypeId) (q:Oq) (len cap:Nat):Prop:=
 len≤cap∧cap≤maxLen∧(q=none→cap=0)∧
  ∃n,∀i,i<cap→∃id off,q=some (id,off)∧id<H.next∧H.inb id (off+i*P.cellsOf e) (P.cellsOf e)=true∧Bo P H n e (H.sub id (off+i*P.cellsOf e) (P.cellsOf e))
theorem GX {e:TypeId} (hu:P.underlying t=some (.slice e)) (hpos:0<P.cellsOf e) (h:Bo P H n t [x]):∃q len cap,x=.slice q len cap∧My P H e q len cap:=by
 cases n with
 |zero=>exact h.elim
 |succ n=>
  simp only[Bo,hu] at h;obtain⟨q,len,cap,hx,h1,h2,h3,h4⟩:=h hpos;exact⟨q,len,cap,by simpa using hx,h1,h2,h3,n,h4⟩
theorem Mz {fs:Array Field} {cs:List V} (hu:P.underlying t=some (.struct fs)) (h:Bo P H n t cs):cs.length=P.cellsOf t∧∃m,∀f∈fs.toList,Bo P H m f.type ((cs.drop f.offset).take (P.cellsOf f.type)):=by
 cases n with
 |zero=>exact h.elim
 |succ n=>
  simp only[Bo,hu] at h;exact⟨h.1,n,h.2⟩
end
section
variable {H:Type} {enc:TypeId×Value→H} {P:Program} {W:World} {r:Reach} {aV:Nat} {v:Value} {d:DataW H} {p:List MemPlace} {t:TypeId}
theorem MA {e:TypeId} (hu:P.underlying t=some (.slice e)) (hpos:0<P.cellsOf e) (hval:Value.okWide P W r aV t v) (h:DataW.Trod enc P W 0 (fun _=>true) true t v d p):∃q len cap,M4 W v=.slice q len cap∧My P (hI W) e q len cap:=by
 obtain⟨n,hn⟩:=xl h;rw[CG hu rfl hval] at hn;exact GX hu hpos hn
end
end Go.Am
end
section
namespace Go.Am
theorem P3 (W:World):az (hI W) (hI W) []:=by
 refine az.start ?_ ?_
 ·intro id o h;obtain⟨cs,e,fz,hb,rfl⟩:=ma h;show id<W.heap.size
  rcases Nat.lt_or_ge id W.heap.size with h|h
  ·exact h
  ·rw[Array.getElem?_eq_none h] at hb;cases hb
 ·intro id o h;obtain⟨cs,e,fz,hb,rfl⟩:=ma h;exact⟨e,_,rfl⟩
theorem yc {H:ag} {id off n:Nat} (h:H.inb id off n=true):∃e l ro,H.get id=some (.cells e l ro)∧off+n≤l.length:=by
 unfold ag.inb at h;split at h
 ·rename_i e l ro hg;exact⟨e,l,ro,hg,by simpa using h⟩
 ·cases h
theorem P4 {P:Program} {H:ag} {t:TypeId} {q:Oq} {len cap:Nat} (hu:P.underlying t=some (.int .u8)) (hc:P.cellsOf t=1) (h:My P H t q len cap):
 ∃bs:List UInt8,bs.length=len∧m0 H q bs∧len≤cap∧len≤maxLen:=by
 obtain⟨h1,WJ,_,n,h2⟩:=h;rw[hc] at h2
 have key:∀i,∃b:UInt8,i<len→∃id off,q=some (id,off)∧H.inb id (off+i) 1=true∧H.sub id (off+i) 1=[.int .u8 (b.toNat:Int)]:=by
  intro i;by_cases hi:i<len
  ·obtain⟨id,off,e1,_,e3,e4⟩:=h2 i (by omega);simp only[Nat.mul_one] at e3 e4
   have hl:∃x,H.sub id (off+i) 1=[x]:=by
    obtain⟨e,l,ro,hg,hle⟩:=yc e3;have:(H.sub id (off+i) 1).length=1:=by rw[kS hg];simp;omega
    match hs:H.sub id (off+i) 1,this with
    |[x],_=>exact⟨x,rfl⟩
   obtain⟨x,hx⟩:=hl;rw[hx] at e4;obtain⟨y,rfl,hy1,Tt⟩:=qE (P:=P) hu e4;have m1:IntKind.u8.min=0:=by decide
   have m2:IntKind.u8.max=255:=by decide
   rw[m1] at hy1;rw[m2] at Tt;refine⟨UInt8.ofNat y.toNat,fun _=>⟨id,off,e1,e3, ?_⟩⟩;rw[hx];simp;omega
  ·exact⟨0,fun h=>absurd h hi⟩
 refine⟨(List.range len).map fun i=>Classical.choose (key i),by simp, ?_,h1,by omega⟩;by_cases h0:len=0
 ·subst h0;exact .inl rfl
 ·obtain⟨id,off,e1,e2,_⟩:=Classical.choose_spec (key 0) (by omega);obtain⟨e,l,ro,hg,_⟩:=yc e2;refine .inr ⟨id,off,e,l,ro,e1,hg, ?_⟩;apply List.ext_getElem?;intro i;rw[oH,List.length_map,List.length_range,List.getElem?_take];by_cases hi:i<len
  ·obtain⟨id',off',QI,Xa,e3'⟩:=Classical.choose_spec (key i) hi;rw[e1] at QI;cases QI;rw[kS hg] at e3';rw[if_pos hi,List.getElem?_drop];simp only[bj,List.map_map,List.getElem?_map,List.getElem?_range hi,Option.map_some,Function.comp];have:=congrArg (fun m=>m[0]?) e3';simpa using this
  ·rw[if_neg hi];simp [bj,hi]
theorem CH {l:List V} {off n:Nat} {f:Nat→List V}:∀(len:Nat),(∀i,i<len→(l.drop (off+i*n)).take n=f i∧(f i).length=n)→(l.drop off).take (len*n)=((List.range len).map f).flatten
 |0,_=>by simp
 |k+1,h=>by
  rw[List.range_succ,List.map_append,List.flatten_append, ←CH k (fun i hi=>h i (by omega))];rw[Nat.add_mul,Nat.one_mul,List.take_add,List.drop_drop,(h k (by omega)).1];simp
theorem Ss {P:Program} {H:ag} {t:TypeId} {q:Oq} {len cap n:Nat} (hc:P.cellsOf t=n) (h:My P H t q len cap):∃(css:List (List V)) (m:Nat),css.length=len∧Rd H q css.flatten∧(∀c∈css,c.length=n∧Bo P H m t c)∧len≤cap∧len≤maxLen:=by
 obtain⟨h1,WJ,_,m,h2⟩:=h;rw[hc] at h2
 have key:∀i,∃c:List V,i<len→∃id off,q=some (id,off)∧H.inb id (off+i*n) n=true∧H.sub id (off+i*n) n=c∧c.length=n∧Bo P H m t c:=by
  intro i;by_cases hi:i<len
  ·obtain⟨id,off,e1,_,e3,e4⟩:=h2 i (by omega);refine⟨_,fun _=>⟨id,off,e1,e3,rfl, ?_,e4⟩⟩;obtain⟨e,l,ro,hg,hle⟩:=yc e3;rw[kS hg];simp;omega
  ·exact⟨[],fun h=>absurd h hi⟩
 refine⟨(List.range len).map fun i=>Classical.choose (key i),m,by simp, ?_, ?_,h1,by omega⟩
 ·by_cases h0:len=0
  ·subst h0;exact .inl rfl
  ·obtain⟨id,off,e1,e2,_⟩:=Classical.choose_spec (key 0) (by omega);obtain⟨e,l,ro,hg,_⟩:=yc e2;refine .inr ⟨id,off,e,l,ro,e1,hg, ?_⟩
   have TM:=CH (l:=l) (off:=off) (n:=n) (f:=fun i=>Classical.choose (key i)) len (fun i hi=>by
    obtain⟨id',off',QI,_,e3',e4',_⟩:=Classical.choose_spec (key i) hi;rw[e1] at QI;cases QI;rw[kS hg] at e3'
    exact⟨e3',e4'⟩)
   have hlen:((List.range len).map fun i=>Classical.choose (key i)).flatten.length=len*n:=by
    rw[←TM,List.length_take,List.length_drop];obtain⟨id',off',QI,Xa,_⟩:=Classical.choose_spec (key (len-1)) (by omega);rw[e1] at QI;cases QI;rw[dD hg] at Xa;have:=Nat.le_of_ble_eq_true Xa;have e:(len-1)*n+n=len*n:=by rw[←Nat.succ_mul];congr 1;omega
    omega
   rw[hlen];exact TM
 ·intro c hc;obtain⟨i,hi,rfl⟩:=List.mem_map.1 hc;obtain⟨_,_,_,_,_,e4,e5⟩:=Classical.choose_spec (key i) (List.mem_range.1 hi);exact⟨e4,e5⟩
end Go.Am
end
section
namespace Go.Proofs.YtlgdkndamddpkaaGreat
open Go.Am
structure Ac where
 ho:Int
 kd:Int
 lb:Int
 ky:Int
 nw:Int
 ty:Int
 su:Bool
 ow:Bool
 q:Oq
 c:Nat
 d:List UInt8
 n:Int
def Ac.cs (a:Ac):List V:=c37 a.ho a.kd a.lb a.ky a.nw a.ty a.su a.ow a.q a.d.length a.c a.n
structure Ac.ok (B:ag) (a:Ac):Prop where
 ho:0≤a.ho∧a.ho≤255
 kd:0≤a.kd∧a.kd≤255
 lb:0≤a.lb∧a.lb≤255
 ky:0≤a.ky∧a.ky≤255
 nw:0≤a.nw∧a.nw≤255
 ty:0≤a.ty∧a.ty≤255
 rd:m0 B a.q a.d
 n:0≤a.n∧a.n≤255
def KQ (i:Nat):Int:=[0,0,1,1,1,2,3,4,4,5,6,7,8,9].getD i 0
def Tp (i:Nat):Int:=[1,3,5,6,7,8].getD i 0
theorem P5 {i:Nat} (h:i<14):0≤KQ i∧KQ i≤9:=by
 have hh:i=0∨i=1∨i=2∨i=3∨i=4∨i=5∨i=6∨i=7∨i=8∨i=9∨i=10∨i=11∨i=12∨i=13:=by omega
 rcases hh with h|h|h|h|h|h|h|h|h|h|h|h|h|h<;>subst h<;>decide
def Ac.bW (a:Ac):List UInt8:=if a.d.length≤64 then a.d else []
def Ac.cm (a:Ac) (r:R) (n:Int):Cm:=
 ⟨KQ (a.kd % 14).toNat,a.lb % n,if a.d.length≤64 then a.q else none,if a.d.length≤64 then a.d.length else 0,if a.d.length≤64 then a.c else 0,a.su,
  if a.ow=true then r.k (a.ho % 4).toNat else a.ky % 4,a.nw % 4,Tp (a.ty % 6).toNat,a.su⟩
theorem Ac.Tq (a:Ac) (r:R) (n:Int):(a.cm r n).dn=a.bW.length:=by unfold Ac.cm Ac.bW;split<;>simp [*]
theorem Ac.Tr {B:ag} {L:List cz} {a:Ac} (ha:a.ok B) (r:R) (n:Int):lM B L (a.cm r n).dp a.bW:=by
 unfold Ac.cm Ac.bW;by_cases h:a.d.length≤64
 ·simp only[h,if_true];exact lM.of ha.rd
 ·simp only[h,if_false];exact lM.nil _ _ _
theorem Ac.Z7 (a:Ac) (r:R) (n:Int) (ha:0≤a.kd∧a.kd≤255):0≤(a.cm r n).kd∧(a.cm r n).kd≤9:=P5 (by omega)
section
variable {B:ag} {L:List cz} {H:ag} {K:V→ag→Prop} {oid mid:Nat} {o:Ob}
theorem V7 (h:az B H L) {a:Ac} (ha:a.ok B) (r:R) {n:Int} (hn:1≤n) (hn2:n≤1000000) (k:∀H',az B H' L→K (.tuple [.int .i64 (a.ho % 4),.agg (a.cm r n).cs]) H'):cl 14 [.agg a.cs,.agg r.cs,.int .i64 n] H K:=by
 have h1:=ha.ho;have h2:=ha.kd;have h3:=ha.lb;have h4:=ha.ky;have h5:=ha.nw;have h6:=ha.ty;unfold Ac.cs R.cs;rw[aa1];simp only[oV];have t1:Int.tmod a.kd 14=a.kd % 14:=Int.tmod_eq_emod_of_nonneg h2.1;have t2:Int.tmod a.ty 6=a.ty % 6:=Int.tmod_eq_emod_of_nonneg h6.1;have t3:Int.tmod a.ho 4=a.ho % 4:=Int.tmod_eq_emod_of_nonneg h1.1;have t4:Int.tmod a.ky 4=a.ky % 4:=Int.tmod_eq_emod_of_nonneg h4.1;have t5:Int.tmod a.nw 4=a.nw % 4:=Int.tmod_eq_emod_of_nonneg h5.1;have t6:Int.tmod a.lb n=a.lb % n:=Int.tmod_eq_emod_of_nonneg h3.1;have w1:IntKind.i64.wrap (a.ho % 4)=a.ho % 4:=by rw[bq (by omega) (by omega)]
 have w2:IntKind.u32.wrap (a.ky % 4)=a.ky % 4:=IntWalk.u32_in _ (by omega);have w3:IntKind.u32.wrap (a.nw % 4)=a.nw % 4:=IntWalk.u32_in _ (by omega);have w4:IntKind.i64.wrap a.lb=a.lb:=by rw[bq (by omega) (by omega)]
 have g1:0≤a.kd % 14:=by omega
 have g2:a.kd % 14<14:=by omega
 have g3:0≤a.ty % 6:=by omega
 have g4:a.ty % 6<6:=by omega
 have g5:0≤a.ho % 4:=by omega
 have g6:a.ho % 4<8:=by omega
 have g7:¬n=0:=by omega
 have s1:=h.alloc 5 (nF 1 3 5 6 7 8);have s2:=s1.alloc 5 [V.int .u8 0,V.int .u8 0,V.int .u8 1,V.int .u8 1,V.int .u8 1,V.int .u8 2,V.int .u8 3,V.int .u8 4,V.int .u8 4,V.int .u8 5,V.int .u8 6,V.int .u8 7,V.int .u8 8,V.int .u8 9];have I4:=s2.get;have SE:=s2.swap.get;have WD:=s2.drop.drop;rw[t1,t2,t3,t4,t5,w1,w2,w3,w4,t6];generalize hH2:(H.alloc (.cells 5 (nF 1 3 5 6 7 8) false)).alloc _=H2 at*;have e1:(H.alloc (.cells 5 (nF 1 3 5 6 7 8) false)).2=(H.alloc (.cells 5 (nF 1 3 5 6 7 8) false)).next:=rfl
 have c1:H2.cell (H.alloc (.cells 5 (nF 1 3 5 6 7 8) false)).next (0+(a.kd % 14).toNat*1)=.int .u8 (KQ (a.kd % 14).toNat):=by
  rw[aY I4,Nat.zero_add,Nat.mul_one];generalize hi:(a.kd % 14).toNat=i;have hh:i=0∨i=1∨i=2∨i=3∨i=4∨i=5∨i=6∨i=7∨i=8∨i=9∨i=10∨i=11∨i=12∨i=13:=by omega
  rcases hh with h|h|h|h|h|h|h|h|h|h|h|h|h|h<;>rw[h]<;>rfl
 have i1:H2.inb (H.alloc (.cells 5 (nF 1 3 5 6 7 8) false)).next (0+(a.kd % 14).toNat*1) 1=true:=by
  rw[dD I4];exact Nat.ble_eq_true_of_le (show 0+(a.kd % 14).toNat*1+1≤14 by omega)
 have c2:H2.cell H.next (0+(a.ty % 6).toNat*1)=.int .u8 (Tp (a.ty % 6).toNat):=by
  rw[aY SE,Nat.zero_add,Nat.mul_one];generalize hi:(a.ty % 6).toNat=i;have hh:i=0∨i=1∨i=2∨i=3∨i=4∨i=5:=by omega
  rcases hh with h|h|h|h|h|h<;>rw[h]<;>rfl
 have i2:H2.inb H.next (0+(a.ty % 6).toNat*1) 1=true:=by
  rw[dD SE];exact Nat.ble_eq_true_of_le (show 0+(a.ty % 6).toNat*1+1≤6 by omega)
 have e4:(a.ho % 4).toNat<8:=by omega
 have b1:Nat.ble (Nat.succ (0+(a.ho % 4).toNat*1)) 12=true:=Nat.ble_eq_true_of_le (by omega)
 have n1:ae (bH (r.k 0) (r.k 1) (r.k 2) (r.k 3) (r.k 4) (r.k 5) (r.k 6) (r.k 7) r.ty r.ho r.ge r.la) (0+(a.ho % 4).toNat*1)=.int .u32 (r.k (a.ho % 4).toNat):=by
  rw[Nat.zero_add,Nat.mul_one];exact oO r e4
 have hk:=k H2 WD;unfold Ac.cm at hk;simp only[g1,g2,g3,g4,g5,g6,g7,e1,i1,c1,i2,c2,b1,n1,decide_true,decide_false,Bool.and_self,Bool.or_false,Bool.not_false,ay,cO,bf,eg];cases how:a.ow
 all_goals
  rw[how] at hk;simp only[ai,ao,iG,lJ,reduceIte,vR,iz,Bool.or_false,ay,f40,aaP,Xl,Xm,Xn,Xo,Xp,Xq,Xr,Xs,bf,bY,Bool.false_eq_true,if_false,if_true] at hk⊢;by_cases h64:a.d.length≤64
  ·have WL:(a.d.length:Int)≤64:=by omega
   simp only[WL,decide_true,ao];simp only[h64,if_true] at hk;exact hk
  ·have WL:¬(a.d.length:Int)≤64:=by omega
   simp only[WL,decide_false,ai];simp only[h64,if_false] at hk;exact hk
theorem tz (h:az B H (jj mid o::L)):∃q c q2 c2,H.inb mid 0 1=true∧H.cell mid 0=.slice q o.su.length c∧H.inb mid 1 1=true∧H.cell mid 1=.slice q2 o.ps.length c2∧H.inb mid 2 12=true∧H.sub mid 2 12=o.r.cs∧Rd H q (o.su.map st).flatten:=by
 obtain⟨l,hp,h1⟩:=az.PQ h;obtain⟨q,c,q2,c2,h2⟩:=az.R3 h1;obtain⟨f1,f2,f3,f4,f5,f6,_⟩:=cQ h2.get;rw[Ao hp] at f4;exact⟨q,c,q2,c2,f1,f2,f3,f4,f5,f6,(h2.up 1).lO⟩
end
abbrev QF (i:Int):Cm:=⟨0,i,none,0,0,false,0,0,0,false⟩
theorem P6 {g:ct} {u:Un} {o:Ob} {ds:List Nat} {N b:Nat} (h:Ug g u o ds N b) {hh:Int} {i:Nat} (h0:0≤hh) (h8:hh<8) (hi:i<o.su.length) (hm:Hm o.r hh (QF i)=true):Tl g u hh (QF i) []=some (u,⟨0,lY o i,R.zero⟩,0):=by
 obtain⟨s,ps,r,dn⟩:=u;have hr:=h.r;have hps:=h.ps;simp only at hr hps;subst hr hps;obtain⟨t,ht,htb⟩:=h.t;have hlen:=h.len;have hcap:g.cap.toNat=o.su.length:=by omega
 have hv:lZ hh (QF i) o.su.length=true:=by
  unfold lZ;have e1:decide ((i:Int)<(o.su.length:Int))=true:=decide_eq_true (by omega);simp [h0,h8,hi]
 unfold Tl;rw[EB h];simp only[ne_eq,not_true_eq_false,if_false];unfold Mk;rw[hcap,if_neg (by simp [hv]),if_neg (by simp [hm]),if_pos rfl];have Hf:lY o (i:Int)=(qC o.ps (i:Int)).getD (o.su.getD i []):=if_pos ⟨by omega,by omega⟩;by_cases hp:fN o.ps (i:Int)=true
 ·rw[if_pos hp];simp only;rw[if_neg (by omega),Hf]
  cases hgp:qC o.ps (i:Int) with
  |none=>rw[rE.1 hgp] at hp;cases hp
  |some d=>rfl
 ·rw[if_neg hp];obtain⟨t',h1,h2,_⟩:=ht.m9 i;simp only[Int.toNat_natCast];rw[h1];simp only;rw[if_neg (by omega),Hf,rE.2 (by simpa using hp),h2,PX hi];rfl
theorem V8 {r:R} (hr:AO r):∃j:Nat,j<8∧∀i:Int,Hm r j (QF i)=true:=by
 have key:∃j:Nat,j<8∧mI r j false=true:=by
  unfold mI;by_cases h0:r.ty=0
  ·exact⟨0,by omega,by simp [h0,IP]⟩
  ·by_cases h8:nc r.ty=true
   ·obtain⟨i,hi,hk⟩:=hr.some h0;refine⟨i,hi, ?_⟩;have:(i:Int)<8:=by omega
    simp [IP,this,holds,h0,h8,key,hk]
   ·have Xb:nc r.ty=false:=by simpa using h8
    obtain⟨i,hi,e,hk⟩:=hr.one h0 Xb;refine⟨i,hi, ?_⟩;have:(i:Int)<8:=by omega
    simp [IP,this,holds,h0,e]
 obtain⟨j,hj,hp⟩:=key;exact⟨j,hj,fun i=>by unfold Hm;rw[if_pos rfl];exact hp⟩
section
variable {B:ag} {L:List cz} {H:ag} {K:V→ag→Prop} {x:Ui} {m:Gm} {u:Un} {o ou:Ob} {ds:List Nat} {N b mid:Nat}
theorem CI (hm:dz B L m) (hg:m.g.In) (hcap:0≤m.g.cap∧m.g.cap<65000) (U:Ug m.g u ou ds N b) (hb:b<2147483648) (ho:o.ok) (hr:ou.r=o.r) (hl:ou.su.length=o.su.length) {n:Int} {i:Nat} (hi:i<o.su.length) {Kr:Am.St→Prop} {Ke:Nat→Am.St→Prop}:∀(k h:Nat) {H:ag},h+k=8→(∃j:Nat,h≤j∧j<8∧∀i:Int,Hm o.r j (QF i)=true)→fF B H x m u (jj mid o::L)→(lY ou i=lY o i→∀H',fF B H' x m u (jj mid o::L)→Ke 2 (St.mk (ab [(0,T.v (V.aj (some (x.jt,0)))),(1,T.v (V.aj (some (mid,0)))),(2,T.v (V.int .i64 n)),(7,T.v (V.int .i64 (i:Int)))]) (ab []) H'))→(lY ou i≠lY o i→∀H',fF B H' x m u (jj mid o::L)→Kr (St.mk (ab [(6,T.v (V.bool false))]) (ab []) H'))→lo 22 9 (St.mk (ab [(0,T.v (V.aj (some (x.jt,0)))),(1,T.v (V.aj (some (mid,0)))),(2,T.v (V.int .i64 n)),(7,T.v (V.int .i64 (i:Int))),(8,T.v (V.int .i64 (h:Int)))]) (ab []) H) Kr Ke
 |0,h,H,hk,hj,hS,k1,k2=>by
  obtain⟨j,h1,h2,_⟩:=hj;omega
 |k+1,h,H,hk,hj,hS,k1,k2=>by
  obtain⟨q,c,q2,c2,f1,f2,f3,f4,f5,f6,_⟩:=tz (mid:=mid) (o:=o) (hS.ord [6]);have e1:(h:Int)<8:=by omega
  have e3:IntKind.i64.wrap ((h:Int)+1)=((h+1:Nat):Int):=aK (by omega);rw[Vl];simp only[e1,decide_true,ao,Option.isSome_some,Nat.zero_add,f5,f6,R.dE,R.eO,Bool.and_self,ay,oT,oU,oV,Option.getD_some,Cm.vg];rw[sg o.r ho.vj (h:Int) (QF 0) (Int.le_refl 0)];simp only[fk,bY,ay];cases WI:Hm o.r (h:Int) (QF 0)
  ·simp only[Bool.not_false,ao,e3];refine CI hm hg hcap U hb ho hr hl hi k (h+1) (by omega) ?_ hS k1 k2;obtain⟨j,h1,h2,h3⟩:=hj;refine⟨j, ?_,h2,h3⟩;rcases Nat.lt_or_ge h j with h4|h4
   ·omega
   ·have:j=h:=by omega
    rw[this] at h3;rw[h3 0] at WI;cases WI
  ·simp only[Bool.not_true,ai]
   have hmi:Hm ou.r (h:Int) (QF (i:Int))=true:=by
    rw[hr];unfold Hm at WI⊢;exact WI
   have hrd:=P6 U (hh:=(h:Int)) (i:=i) (by omega) e1 (by omega) hmi;have CQ:eK u.r:=by rw[U.r];obtain⟨_,_,htb⟩:=U.t;exact htb.PY
   refine PW (hm.bU _) hg hcap hS U.ok (h:Int) (QF (i:Int)) [] rfl (lM.nil _ _ _) (CQ.doR (h:Int) (QF (i:Int)) ⟨Int.le_refl 0,by show (0:Int)≤_;omega⟩).ok (by rw[U.boots];omega) hrd (fun q3 n3 H3 h3=> ?_);have EF:m0 H3 q3 (lY ou i):=(h3.ord [6]).jq;have h4:fF B H3 x m u (jj mid o::L):=(h3.ord [6]).drop;have Hf:∀K:V→ag→Prop,K (.cH (cK (lY o (i:Int)))) H3→cl 48 [.aj (some (mid,0)),.int .i64 (i:Int)] H3 K:=fun K kk=>KH (h4.ord [6]) ho (by omega) (by omega) kk
   simp only[dj,eH,dJ,gh,eD,cN,Rs.aI,Rs.n0,Rs.n1,cO,bf,Bool.or_false,Bool.and_self,ay,List.length_cons,List.length_nil,Nat.reduceAdd,il,decide_true,Bool.not_true,Bool.not_false,ao,bD,aU];refine iH (fun S:Am.St=>S=St.mk (ab [(68,T.v (V.bool (!decide (lY ou i=lY o i))))]) (ab []) H3) (fun(S:Am.St) MR=> ?_) (fun Q hQ=> ?_)
   ·subst MR;simp only[AJ,reduceIte,Nat.reduceEqDiff];by_cases he:lY ou i=lY o i
    ·simp only[he,decide_true,Bool.not_true,ai];exact k1 he H3 h4
    ·simp only[he,decide_false,Bool.not_false,ao];exact k2 he H3 h4
   ·simp only[EF.fG,EF.fH,ay];refine⟨Hf _ ?_,Hf _ ?_⟩
    all_goals
     simp only[kQ,gJ,ay,EF.fG,EF.fH,uH];exact hQ _ rfl
theorem GY (hm:dz B L m) (hg:m.g.In) (hcap:0≤m.g.cap∧m.g.cap<65000) (U:Ug m.g u ou ds N b) (hb:b<2147483648) (ho:o.ok) (hr:ou.r=o.r) (hl:ou.su.length=o.su.length) {Kr:Am.St→Prop} {Ke:Nat→Am.St→Prop}:∀(k i:Nat) {H:ag},i+k=o.su.length→fF B H x m u (jj mid o::L)→((∀j:Nat,i≤j→j<o.su.length→lY ou j=lY o j)→∀H',fF B H' x m u (jj mid o::L)→Ke 0 (St.mk (ab []) (ab []) H'))→((∃j:Nat,j<o.su.length∧lY ou j≠lY o j)→∀H',fF B H' x m u (jj mid o::L)→Kr (St.mk (ab [(6,T.v (V.bool false))]) (ab []) H'))→lo 22 5 (St.mk (ab [(0,T.v (V.aj (some (x.jt,0)))),(1,T.v (V.aj (some (mid,0)))),(2,T.v (V.int .i64 (o.su.length:Int))),(7,T.v (V.int .i64 (i:Int)))]) (ab []) H) Kr Ke
 |0,i,H,hi,hS,k1,k2=>by
  rw[NS,decide_eq_false (by omega),ai];exact k1 (fun j h1 h2=>by omega) H hS
 |k+1,i,H,hi,hS,k1,k2=>by
  have hlt:i<o.su.length:=by omega
  have hn2:=ho.n2;have e3:IntKind.i64.wrap ((i:Int)+1)=((i+1:Nat):Int):=aK (by omega);obtain⟨j,hj8,hj⟩:=V8 ho.vj;rw[NS,decide_eq_true (by omega),ao];refine CI hm hg hcap U hb ho hr hl hlt 8 0 (by omega) ⟨j,Nat.zero_le _,hj8,hj⟩ hS (fun he H1 h1=> ?_) (fun he H1 h1=> ?_)
  ·simp only[AJ,reduceIte,Nat.reduceEqDiff,e3];refine GY hm hg hcap U hb ho hr hl k (i+1) (by omega) h1 (fun hall=>k1 (fun j h1 h2=> ?_)) k2;rcases Nat.lt_or_ge i j with h|h
   ·exact hall j h h2
   ·have:j=i:=by omega
    rw[this];exact he
  ·simp only[AJ,reduceIte,Nat.reduceEqDiff];exact k2 ⟨i,hlt,he⟩ H1 h1
theorem P7 (hm:dz B L m) (hg:m.g.In) (hcap:0≤m.g.cap∧m.g.cap<65000) (U:Ug m.g u ou ds N b) (hb:b<2147483648) (ho:o.ok) (hgo:eK o.r) (hl:ou.su.length=o.su.length) (hS:fF B H x m u (jj mid o::L)) (k:∀(v:Bool) H',(v=true↔ou.r=o.r∧ou.ps.length=o.ps.length∧∀j:Nat,j<o.su.length→lY ou j=lY o j)→fF B H' x m u (jj mid o::L)→K (.bool v) H'):cl 22 [.aj (some (x.jt,0)),.aj (some (mid,0)),.int .i64 (o.su.length:Int)] H K:=by
 obtain⟨q,c,q2,c2,f1,f2,f3,f4,f5,f6,_⟩:=tz (mid:=mid) (o:=o) (hS.ord [6]);have CQ:eK ou.r:=by obtain⟨_,_,htb⟩:=U.t;exact htb.PY
 have hUr:=U.r;have hUp:=U.ps;rw[aa5];have RV:∀K:V→ag→Prop,cl 15 [.aj (some (x.jt,0))] H K=K (.agg u.r.cs) H:=fun K=>PU hS
 have WT:∀K:V→ag→Prop,cl 24 [.aj (some (x.jt,0))] H K=K (.int .i64 (u.ps.length:Int)) H:=fun K=>Cz hS
 refine iH (fun S:Am.St=>S=St.mk (ab [(27,T.v (V.bool (!(db u.r.cs o.r.cs&&decide (u.ps.length=o.ps.length)))))]) (ab []) H) (fun(S:Am.St) MR=> ?_) (fun Q hQ=> ?_)
 ·subst MR;simp only[AJ,reduceIte,Nat.reduceEqDiff];by_cases he:db u.r.cs o.r.cs=true∧u.ps.length=o.ps.length
  ·have CM:ou.r=o.r:=by
    rw[←hUr];refine(eK.ext (r:=o.r) hgo ?_ ((R.rz _ _).1 he.1));rw[hUr];exact CQ.nz
   simp only[he.1,he.2,decide_true,Bool.and_self,Bool.not_true,ai];refine GY hm hg hcap U hb ho CM hl o.su.length 0 (by omega) hS (fun hall H1 h1=> ?_) (fun hne H1 h1=> ?_)
   ·simp only[AJ,reduceIte,Nat.reduceEqDiff];exact k true H1 ⟨fun _=>⟨CM,by rw[←hUp];exact he.2,fun j hj=>hall j (Nat.zero_le _) hj⟩,fun _=>rfl⟩ h1
   ·simp only[AJ,reduceIte,Nat.reduceEqDiff];obtain⟨j,hj,hne⟩:=hne;exact k false H1 ⟨fun e=>(by cases e),fun e=>absurd (e.2.2 j hj) hne⟩ h1
  ·have e:(db u.r.cs o.r.cs&&decide (u.ps.length=o.ps.length))=false:=by
    rw[←Bool.not_eq_true,Bool.and_eq_true,decide_eq_true_eq];exact he
   rw[e];simp only[Bool.not_false,ao];refine k false H ⟨fun e=>(by cases e),fun e=>absurd (?_:db u.r.cs o.r.cs=true∧u.ps.length=o.ps.length) he⟩ hS;rw[hUr,hUp,e.1];exact⟨R.eq_self _,e.2.1⟩
 ·have fin:Q (St.mk (ab [(27,T.v (V.bool (!(db u.r.cs o.r.cs&&decide (u.ps.length=o.ps.length)))))]) (ab []) H):=hQ _ rfl;simp only[Option.isSome_some,Nat.zero_add,RV,WT,f3,f4,f5,f6,R.dE,R.eO,AJ,reduceIte,Nat.reduceEqDiff];cases hce:db u.r.cs o.r.cs
  ·rw[hce] at fin;simp only[Bool.false_and,Bool.not_false,Bool.not_true,ai,and_self] at fin⊢;exact fin
  ·rw[hce] at fin;have e5:decide (((u.ps.length:Nat):Int)=((o.ps.length:Nat):Int))=decide (u.ps.length=o.ps.length):=decide_eq_decide.2 (by omega);simp only[Bool.true_and,Bool.not_false,Bool.not_true,ao,and_self] at fin⊢;by_cases hp:u.ps.length=o.ps.length
   ·have AR:((u.ps.length:Nat):Int)=((o.ps.length:Nat):Int):=by omega
    simp only[hp,AR,decide_true] at fin⊢
    first|exact fin|exact⟨fin,fin⟩
   ·have AR:¬((u.ps.length:Nat):Int)=((o.ps.length:Nat):Int):=by omega
    simp only[hp,AR,decide_false] at fin⊢
    first|exact fin|exact⟨fin,fin⟩
end
theorem CJ:∀(bI:List Int) (bs:List Bk),(∀x∈bs,x=fK∨x=zA)→∀x∈sb bs bI,x=fK∨x=zA
 |[],bs,h=>h
 |i::bI,bs,h=>CJ bI _ (fun x hx=>by
  rcases List.mem_or_eq_of_mem_set hx with hx|rfl
  ·exact h x hx
  ·exact .inr rfl)
theorem CK {b:Nat}:∀(bI:List Int) (bs:List Bk),(∀i∈bI,i.toNat≠b)→(sb bs bI).getD b fK=bs.getD b fK
 |[],bs,h=>rfl
 |i::bI,bs,h=>by
  rw[sb,CK bI _ (fun j hj=>h j (List.mem_cons_of_mem _ hj)),List.getD_eq_getElem?_getD,List.getD_eq_getElem?_getD,List.getElem?_set,if_neg (h i List.mem_cons_self)]
theorem tC {g:ct} (hg:g.In) (hn:g.zy):g.cap<65000:=by
 have KW:=ct.kF g hg.b.2;have h1:=hn.2.2.1;have h2:=hn.2.2.2.1;have h3:=hn.2.2.2.2.1
 have:g.aA*((g.us.length:Int)-g.aH-1)≤32*62:=by
  by_cases h0:0≤(g.us.length:Int)-g.aH-1
  ·exact Int.mul_le_mul h2 (by omega) h0 (by omega)
  ·have:=Int.mul_nonpos_of_nonneg_of_nonpos (a:=g.aA) (b:=(g.us.length:Int)-g.aH-1) (by omega) (by omega);omega
 have hc:g.cap=g.aA*((g.us.length:Int)-g.aH-1)-2:=rfl;omega
theorem Su {g:ct} (hn:g.zy) (hc:0<g.cap):g.aH+1≤g.us.length:=by
 by_cases h0:0<(g.us.length:Int)-g.aH-1
 ·omega
 ·have h1:=hn.2.2.1;have:=Int.mul_nonpos_of_nonneg_of_nonpos (a:=g.aA) (b:=(g.us.length:Int)-g.aH-1) (by omega) (by omega);have Hn:g.cap=g.aA*((g.us.length:Int)-g.aH-1)-2:=rfl;omega
open Classical in
theorem V9 {g:ct} (hform:g.cZ=true) (hl:g.bI.length≤1000000) (SQ:∀i∈g.bI,0≤i∧i<g.aD):Up g (Bi g.aD.toNat g.aA g.bI) (vk g.cap.toNat) [] 0 0:=by
 have hn:=ct.eW hform;have hg:=hn.in hl;have hcap:=ct.nW hform;have hlt:=tC hg hn;have hall:∀x∈(Bi g.aD.toNat g.aA g.bI).bs,x=fK∨x=zA:=CJ _ _ (fun x hx=>.inl (List.eq_of_mem_replicate hx))
 have hlen:(Bi g.aD.toNat g.aA g.bI).bs.length=g.aD.toNat:=by
  show (sb _ _).length=_
  rw[BW,List.length_replicate]
 have tG:∀x∈(Bi g.aD.toNat g.aA g.bI).bs,x.pg=[]:=fun x hx=>by rcases hall x hx with rfl|rfl<;>rfl
 have hb:g.aD=((g.aD.toNat:Nat):Int):=by have:=hn.1;omega
 have hbk:∀b∈g.us,(Bi g.aD.toNat g.aA g.bI).bk b=fK:=fun b hb=>by
  have hnb:¬(b:Int)∈g.bI:=by
   unfold ct.us at hb;have:=(List.mem_filter.1 hb).2;simpa using this
  show (sb _ _).getD b fK=_
  rw[CK _ _ (fun i hi e=>hnb (by have:=SQ i hi;have:i=(b:Int):=by omega
                                 rw[←this];exact hi)),List.getD_eq_getElem?_getD,List.getElem?_replicate]
  split<;>rfl
 have hvw:∀b,vw g (Bi g.aD.toNat g.aA g.bI) b=[]:=fun b=>by
  by_cases hu:b∈g.us
  ·exact zW (.inl (by rw[hbk b hu];rfl))
  ·exact Ea b hu
 have hc0:∀x,vr (vk g.cap.toNat).su [] x=[]:=fun x=>by
  unfold vr vk;simp only;split
  ·rw[List.getD_eq_getElem?_getD,List.getElem?_replicate];split<;>rfl
  ·split<;>rfl
 have no:∀b f,f∉vw g (Bi g.aD.toNat g.aA g.bI) b:=fun b f hf=>by rw[hvw b] at hf;cases hf
 refine⟨⟨[], ?_,.inl ⟨rfl,rfl⟩⟩,rfl,rfl,rfl,rfl,V1 (by omega) (by omega),by show (((List.replicate g.cap.toNat ([]:List UInt8)).length:Nat):Int)=_;rw[List.length_replicate];omega⟩;refine⟨⟨?_,rfl,fun x hx=>(by rw[tG x hx];have:=hn.2.2.1;show ((0:Nat):Int)≤_;omega),fun x hx d hd=>(by rw[tG x hx] at hd;cases hd),fun b hb e=>(by rw[hbk b hb] at e;cases e),fun b hb _=>(by rw[hbk b hb];exact⟨Int.le_refl _,rfl,rfl⟩)⟩, ?_, ?_,fun b f hf=>absurd hf (no b f),fun i hi j hj _ _ h=>absurd (hvw i) h.1⟩
 ·rw[hlen];omega
 ·exact⟨fun b f hf=>absurd hf (no b f),fun x=>.inl ⟨hc0 x,fun b f hf=>absurd hf (no b f)⟩,fun b f hf=>absurd hf (no b f),fun b f hf=>absurd hf (no b f),fun b f hf=>absurd hf (no b f),fun b f hf=>absurd hf (no b f)⟩
 ·intro _;have:kl g (Bi g.aD.toNat g.aA g.bI)=0:=List.countP_eq_zero.2 (fun b hb e=>xj (hvw b) (of_decide_eq_true e).2);rw[this];have:=Su hn hcap;omega
section
variable {B:ag} {L:List cz} {H:ag} {K:V→ag→Prop} {m:Gm} {o:Ob} {ds:List Nat} {N b aM:Nat} {a:Ar}
theorem rH (h:az B H (dO aM a::L)) (hm:dz B L m) (hform:m.g.cZ=true) (hg:m.g.In) (U:Up m.g a o ds N b) (hb:b<2147483648) (ha:a.bO≤0) {ep:Nat} (MU:1≤ep∧ep<281474976710656) (hf:a.aR≤ep) (k:∀x v H',x.aM=aM→Ug m.g v o ds N b→v.s.a.bO≤0→v.s.a.aR=a.aR→v.s.f.ep=ep→(∃sq:Int→Nat,(∀y:Int,sq y=((jG y.toNat (a.Bh m.g)).map fun f=>f.s.seq).getD 0)∧uM m.g (cF m.g sq a ep).1=some v)→fF B H' x m v L→K (.tuple [.aj (some (x.jt,0)),.int .i64 0]) H'):cl 13 [.aj (some (aM,0)),m.v,.int .u64 (ep:Int)] H K:=by
 have hn:=ct.eW hform;have hc:0≤m.g.cap∧m.g.cap<65000:=⟨by have:=ct.nW hform;omega,tC hg hn⟩;obtain⟨t,W9,_⟩:=U.t
 have hno:∀sq,(cF m.g sq a ep).2=0∧∃v,uM m.g (cF m.g sq a ep).1=some v∧v.s=(cF m.g sq a ep).1∧Ug m.g v o ds N b:=fun sq=>by
  obtain⟨kp,h1⟩:=U.mount hg hc MU hf hb sq;rcases h1 with h1|⟨_,h1⟩
  ·exact h1
  ·exfalso;have h2:=h1.off;have:=(kp.zP ha).2;rw[this] at h2;have h3:a.off=true:=h2;rw[U.on] at h3;cases h3
 refine Mm h hm hform hg (W9.rd U.on) hc MU (fun sq _=>by
  obtain⟨_,v,h1,_⟩:=hno sq
  exact⟨v,h1⟩) (fun pz x v H' hx Hs h0 hok huM hS=> ?_) (fun pz H' Hs h0 hok hS=>absurd (hno (eJ pz)).1 h0)
 obtain⟨_,v',h1,h2,h3⟩:=hno (eJ pz);rw[huM] at h1;cases h1;obtain⟨kp,_⟩:=U.mount hg hc MU hf hb (eJ pz);refine k x v H' hx h3 ?_ ?_ ?_ ⟨eJ pz,fun y=> ?_,huM⟩ hS
 ·rw[h2];exact(kp.zP ha).1
 ·rw[h2];exact kp.aR
 ·rw[h2];exact kp.ep
 ·unfold eJ;rw[←Hs,wi];cases mj y.toNat pz<;>rfl
end
end Go.Proofs.YtlgdkndamddpkaaGreat
end
section
namespace Go.Proofs.YtlgdkndamddpkaaGreat
open Go.Am
theorem ED {p:Nat→Bool}:∀{l ds:List Nat},l.Nodup→(∀b∈l,p b=true→b∈ds)→l.countP p≤ds.length
 |l,ds,hn,h=>by
  rw[List.countP_eq_length_filter];exact List.Nodup.length_le_of_subset (hn.sublist List.filter_sublist) (fun b hb=>h b (List.mem_filter.1 hb).1 (List.mem_filter.1 hb).2)
section
variable {g:ct} {u:Un} {o:Ob} {ds:List Nat} {N b:Nat}
theorem Ug.c3 (h:Ug g u o ds N b):u.s.f.po.count 3≤ds.length:=by
 obtain⟨t,ht,_⟩:=h.t;rw[←ht.lU (a:=u.s.a) (fun _ _=>rfl)]
 exact ED (nS g) (fun b hb e=>Classical.byContradiction fun hn=>by
  have:=(ht.ph.fA b hb hn).2.2
  rw[this] at e;cases e)
theorem Z8 (hg:g.In) (hform:g.cZ=true) (h:Ug g u o ds N b) (hds:(ds.length:Int)≤g.aH) (ha:u.s.a.bO≤0) (hh:Int) (c:Cm) (bW:List UInt8) (hd:c.dn=bW.length) (Xd:0≤c.nw∧c.nw≤4294967295) (hN:N+9*CW<281474976710656):∃v,Tl g u hh c bW=some (v,(ya o hh c bW).2,0)∧Kp u.s v.s (9*CW)∧Ug g v (ya o hh c bW).1 ds (N+9*CW) b:=by
 have hn:=ct.eW hform;obtain⟨r,h1,h2,h3⟩:=V5 hg hform (tC hg hn) h hh c bW hd Xd hN;rcases h3 with⟨e1,e2,h3⟩|⟨_,_,_,_,e1,j,_,h3⟩|⟨_,h3⟩
 ·exact⟨r.1,by rw[h1, ←e2, ←e1],h2,h3⟩
 ·exfalso;have:=h3.c3;omega
 ·exfalso;have h4:=h3.off;rw[(h2.zP ha).2] at h4;obtain⟨t,ht,_⟩:=h.t;rw[ht.on] at h4;cases h4
theorem Z9 (hg:g.In) (hform:g.cZ=true) (h:Ug g u o ds N b) (hds:(ds.length:Int)≤g.aH) (ha:u.s.a.bO≤0) (hN:N+9*CW<281474976710656):∃v,WW g u=some (v,0)∧Kp u.s v.s (9*CW)∧Ug g v (fY o) ds (N+9*CW) b:=by
 have hn:=ct.eW hform;obtain⟨t,ht,_⟩:=h.t;obtain⟨r,h1,h2,h3⟩:=V6 hg hform (tC hg hn) h hN;rcases h3 with⟨e1,h3⟩|⟨_,e1,j,_,h3⟩|⟨_,h3⟩
 ·exact⟨r.1,by rw[h1, ←e1],h2,h3⟩
 ·exfalso;have:=h3.c3;omega
 ·exfalso;have h4:=h3.off;rw[(h2.zP ha).2,ht.on] at h4;cases h4
end
section
variable {B:ag} {L:List cz} {H:ag} {K:V→ag→Prop} {x:Ui} {m:Gm} {u:Un} {o:Ob} {ds:List Nat} {N b:Nat}
theorem Ug.rok {g:ct} (h:Ug g u o ds N b):eK u.r:=by rw[h.r];obtain⟨_,_,htb⟩:=h.t;exact htb.PY
theorem EE (hm:dz B L m) (hg:m.g.In) (hform:m.g.cZ=true) (h:fF B H x m u L) (U:Ug m.g u o ds N b) (hb:b<2147483648) (hds:(ds.length:Int)≤m.g.aH) (ha:u.s.a.bO≤0) (hh:Int) (c:Cm) (bW:List UInt8) (hd:c.dn=bW.length) (hr:lM B L c.dp bW) (Xd:0≤c.nw∧c.nw≤4294967295) (hN:N+9*CW<281474976710656) (k:∀v q n H',Tl m.g u hh c bW=some (v,(ya o hh c bW).2,0)→Kp u.s v.s (9*CW)→Ug m.g v (ya o hh c bW).1 ds (N+9*CW) b→fF B H' x m v (BY q n (ya o hh c bW).2.d::L)→K (.tuple [.agg ((ya o hh c bW).2.cs q n),.int .i64 0]) H'):cl 16 [.aj (some (x.jt,0)),.int .i64 hh,.agg c.cs] H K:=by
 obtain⟨v,h1,h2,h3⟩:=Z8 hg hform U hds ha hh c bW hd Xd hN;have hn:=ct.eW hform;exact PW hm hg ⟨by have:=ct.nW hform;omega,tC hg hn⟩ h U.ok hh c bW hd hr (U.rok.doR hh c Xd).ok (by rw[U.boots];omega) h1 (fun q n H' h'=>k v q n H' h1 h2 h3 h')
theorem P8 (hm:dz B L m) (hg:m.g.In) (hform:m.g.cZ=true) (h:fF B H x m u L) (U:Ug m.g u o ds N b) (hds:(ds.length:Int)≤m.g.aH) (ha:u.s.a.bO≤0) (hN:N+9*CW<281474976710656) (k:∀v H',WW m.g u=some (v,0)→Kp u.s v.s (9*CW)→Ug m.g v (fY o) ds (N+9*CW) b→fF B H' x m v L→K (.int .i64 0) H'):cl 25 [.aj (some (x.jt,0))] H K:=by
 obtain⟨v,h1,h2,h3⟩:=Z9 hg hform U hds ha hN;have hn:=ct.eW hform;exact V3 hm hg ⟨by have:=ct.nW hform;omega,tC hg hn⟩ h U.ok h1 (fun H' h'=>k v H' h1 h2 h3 h')
end
section
variable {B:ag} {L:List cz} {H:ag} {K:V→ag→Prop}
theorem GZ {g:ct}:∀(l pre:List Int),g.xf pre l=true→∀i∈l,0≤i∧i<g.aD
 |[],_,_,i,hi=>by cases hi
 |j::l,pre,h,i,hi=>by
  rw[ct.xf,Bool.and_eq_true] at h;have h1:=of_decide_eq_true h.1;rcases List.mem_cons.1 hi with rfl|hi
  ·exact⟨by omega,h1.2.1⟩
  ·exact GZ l _ h.2 i hi
theorem P9 {g:ct} (h:g.cZ=true):∀i∈g.bI,0≤i∧i<g.aD:=by
 unfold ct.cZ at h;rw[Bool.and_eq_true,Bool.and_eq_true] at h;exact GZ _ _ h.2.1
theorem KR {m:Gm} (h:az B H L) (hm:dz B L m) (hform:m.g.cZ=true) (hg:m.g.In) (k:∀aM a H',Up m.g a (vk m.g.cap.toNat) [] 0 0→a.bO≤0→a.aR=0→a=Bi m.g.aD.toNat m.g.aA m.g.bI→az B H' (dO aM a::L)→K (.tuple [.aj (some (aM,0)),.int .i64 0]) H'):cl 12 [.int .i64 m.g.aD,.int .i64 m.g.aA,.slice m.q m.g.bI.length m.c] H K:=by
 have hn:=ct.eW hform;have SQ:=P9 hform;refine Oz h m.g.aD m.g.aA hm.r hg.l (fun hno=>absurd ⟨by have:=hn.1;omega,hn.2.1,by have:=hn.2.2.1;omega,hn.2.2.2.1,SQ⟩ hno) (fun _ aM H' h'=> ?_);exact k aM _ H' (V9 hform hg.l SQ) (Int.le_refl _) rfl rfl h'
theorem Qa:(Vr 1).cap=4:=by decide+kernel
def awA:Ob:=⟨[[],[],[],[]],[⟨0,[97],false⟩],R.gP⟩
def WX:Ob:=⟨[[97],[],[],[]],[],R.gP⟩
def awC:Ob:=⟨[[97],[],[],[]],[⟨0,[98],false⟩],R.gP⟩
theorem acq (q:Oq):ya (vk 4) 0 ⟨1,0,q,1,1,false,0,0,0,false⟩ [97]=(awA,⟨0,[],R.zero⟩):=rfl
theorem acr:fY awA=WX:=rfl
theorem acs (q:Oq):ya WX 0 ⟨1,0,q,1,1,false,0,0,0,false⟩ [98]=(awC,⟨0,[],R.zero⟩):=rfl
theorem acu:Af awC false=WX:=rfl
theorem acv:ya WX 0 ⟨0,0,none,0,0,false,0,0,0,false⟩ []=(WX,⟨0,[97],R.zero⟩):=rfl
theorem aaa (h:az B H L) (b:UInt8):az B (H.alloc (.cells 5 [V.int .u8 b.toNat] false)) (BY (some (H.next,0)) 1 [b]::L):=
 h.DH (el:=5) (n:=1) (len:=1) (c:=1) (l:=[V.int .u8 b.toNat]) (cs:=bj [b]) rfl (jE _) (by omega) (by simp) rfl
theorem Qb (h:az B H L) (k:∀H',az B H' L→K (.bool true) H'):cl 10 [] H K:=by
 rw[aaX];refine xg h 1 (by omega) (fun m H1 Qs hmc h1=> ?_);have hform:m.g.cZ=true:=by rw[Qs];exact FY 1 (by omega)
 have hl:m.g.bI.length≤1000000:=by rw[Qs];decide
 have hg:=(ct.eW hform).in hl;have hcap:m.g.cap.toNat=4:=by rw[Qs,Qa];rfl
 have hds:(([]:List Nat).length:Int)≤m.g.aH:=by have:=hg.s;simp;omega
 have Ja:∀L:List cz,dz B (Hh m::L) m:=fun L=>Hh.ok hmc
 have hv:m.v=.agg (dK m.g.aD m.g.aA m.g.aH m.q m.g.bI.length m.c):=rfl;rw[hv];simp only[eD,cN,vp,vo,Bool.and_self,ay,f25,uE,mA,mB,mC,mD,bf,bD,aU,cq];refine KR h1 (Ja L) hform hg (fun aM a H2 U0 ha0 TH _ h2=> ?_);rw[hcap] at U0;simp only[AJ,reduceIte,Nat.reduceEqDiff, ←hv];refine rH h2 (Ja L) hform hg U0 (by omega) (by omega) (ep:=1) ⟨by omega,by omega⟩ (by rw[TH];decide) (fun x u H3 hx U1 ML SD he1 _ h3=> ?_)
 have hw:∀(H:ag) (b:Int),ag.wr (H.alloc (.cells 5 [V.int .u8 b] false)) H.2 0 0=true:=fun H b=>by
  rw[fJ (ag.vW _ _)];rfl
 simp only[AJ,reduceIte,Nat.reduceEqDiff,Cm.vg,hw];have h4:fF B _ x m u (BY (some (H3.next,0)) 1 [97]::Hh m::L):=(aaa h3 97).ord [1,1,1,1,1,1];refine EE ((Ja L).bU _) hg hform h4 U1 (by omega) hds ML 0 ⟨1,0,some (H3.next,0),1,1,false,0,0,0,false⟩ [97] rfl lM.byt ⟨Int.le_refl 0,by show (0:Int)≤_;omega⟩ (by decide) (fun u2 q2 n2 H5 hd2 kp2 U2 h5=> ?_);rw[acq] at U2;have h6:fF B H5 x m u2 (Hh m::L):=(h5.ord [6,6]).drop.drop;have ha2:=(kp2.zP ML).1;simp only[AJ,reduceIte,Nat.reduceEqDiff,Rs.aI];refine P8 (Ja L) hg hform h6 U2 hds ha2 (by decide) (fun u3 H7 QJ kp3 U3 h7=> ?_);rw[acr] at U3;have ha3:=(kp3.zP ha2).1;simp only[AJ,reduceIte,Nat.reduceEqDiff,Cm.vg,hw];have h8:fF B _ x m u3 (BY (some (H7.next,0)) 1 [98]::Hh m::L):=(aaa h7 98).ord [1,1,1,1,1,1];refine EE ((Ja L).bU _) hg hform h8 U3 (by omega) hds ha3 0 ⟨1,0,some (H7.next,0),1,1,false,0,0,0,false⟩ [98] rfl lM.byt ⟨Int.le_refl 0,by show (0:Int)≤_;omega⟩ (by decide) (fun u4 q4 n4 H9 hd4 kp4 U4 h9=> ?_);rw[acs] at U4;have ha4:=(kp4.zP ha3).1;have hf4:u4.s.a.aR=0:=by rw[kp4.aR,kp3.aR,kp2.aR,SD,TH]
 have ye:az B H9 (dO aM u4.s.a::Hh m::L):=by
  have:=(h9.ord [6,6]).drop.drop.drop.drop.drop.drop.drop;rw[hx] at this;exact this
 obtain⟨t4,ht4,_⟩:=U4.t;have U5:=U4.leave u4.s.a rfl rfl ht4.on ht4.eI rfl;rw[acu] at U5;simp only[AJ,reduceIte,Nat.reduceEqDiff,Rs.aI];refine rH ye (Ja L) hform hg U5 (by omega) ha4 (ep:=2) ⟨by omega,by omega⟩ (by rw[hf4];decide) (fun x2 v H11 vt U6 ha6 hf6 he6 _ AS=> ?_);simp only[AJ,reduceIte,Nat.reduceEqDiff,Cm.vg];refine EE (Ja L) hg hform AS U6 (by omega) hds ha6 0 ⟨0,0,none,0,0,false,0,0,0,false⟩ [] rfl (lM.nil _ _ _) ⟨Int.le_refl 0,by show (0:Int)≤_;omega⟩ (by decide) (fun v2 q6 n6 H12 hd6 kp6 U7 h12=> ?_);have EF:m0 H12 q6 [97]:=(h12.ord [6]).jq;rw[acv] at U7;have hs1:fG H12 q6 1=true:=EF.fG;have n7:fH H12 q6 1=cK [97]:=EF.fH;have e5:(ya WX 0 ⟨0,0,none,0,0,false,0,0,0,false⟩ []).2=⟨0,[97],R.zero⟩:=rfl;rw[e5];have MQ:fF B H12 x2 m v2 (Hh m::L):=(h12.ord [6]).drop;simp only[AJ,reduceIte,Nat.reduceEqDiff,Rs.aI,Rs.n1,List.length_cons,List.length_nil,hs1,n7,uH];rw[Mj MQ];have MU:(v2.s.f.ep:Int)=2:=by rw[kp6.ep,he6];rfl
 simp only[AJ,reduceIte,Nat.reduceEqDiff,MU];exact k H12 (MQ.ord [6]).drop.drop.drop.drop.drop.drop.drop
end
theorem mb {y:Int} (h:IntKind.u8.min≤y∧y≤IntKind.u8.max):0≤y∧y≤255:=by
 simpa [IntKind.min,IntKind.max,IntKind.bits,IntKind.signed] using h
theorem aab:eE.P.underlying 5=some (.int .u8):=Tryz.underlying5
theorem G0:eE.P.cellsOf 5=1:=by kernel_rfl
theorem I3:eE.P.cellsOf 4=1:=by kernel_rfl
theorem G1:eE.P.cellsOf 36=1:=by kernel_rfl
theorem CL:eE.P.cellsOf 38=10:=by kernel_rfl
theorem Wa {H:ag} {n:Nat} {cs:List V} (h:Bo eE.P H n 38 cs):∃a:Ac,cs=a.cs∧a.ok H:=by
 obtain⟨hl,m,hf⟩:=Mz (P:=eE.P) Tryz.underlying38 h;rw[CL] at hl
 match cs,hl with
 |[a0,a1,a2,a3,a4,a5,a6,a7,a8,a9],_=>
  simp only[List.forall_mem_cons,G0,I3,G1,List.drop_succ_cons,List.drop_zero,List.take_succ_cons,List.take_zero] at hf;obtain⟨h0,h1,h2,h3,h4,h5,h6,h7,h8,h9,_⟩:=hf;obtain⟨y0,rfl,r0⟩:=qE (P:=eE.P) Tryz.underlying5 h0;obtain⟨y1,rfl,r1⟩:=qE (P:=eE.P) Tryz.underlying5 h1;obtain⟨y2,rfl,r2⟩:=qE (P:=eE.P) Tryz.underlying5 h2;obtain⟨y3,rfl,r3⟩:=qE (P:=eE.P) Tryz.underlying5 h3;obtain⟨y4,rfl,r4⟩:=qE (P:=eE.P) Tryz.underlying5 h4;obtain⟨y5,rfl,r5⟩:=qE (P:=eE.P) Tryz.underlying5 h5;obtain⟨y6,rfl⟩:=KP (P:=eE.P) Tryz.underlying4 h6;obtain⟨y7,rfl⟩:=KP (P:=eE.P) Tryz.underlying4 h7;obtain⟨q,len,cap,rfl,hs⟩:=GX (P:=eE.P) Tryz.underlying36 (Nat.le_of_ble_eq_true (by kernel_rfl)) h8;obtain⟨bs,rfl,hr,_,_⟩:=P4 aab G0 hs;obtain⟨y9,rfl,r9⟩:=qE (P:=eE.P) Tryz.underlying5 h9;exact⟨⟨y0,y1,y2,y3,y4,y5,y6,y7,q,cap,bs,y9⟩,rfl,mb r0,mb r1,mb r2,mb r3,mb r4,mb r5,hr,mb r9⟩
theorem Ac.dE (a:Ac):aI k37 a.cs=true:=rfl
theorem Ac.eO (a:Ac):o37 a.cs=a.cs:=rfl
theorem MB {H:ag} {q:Oq} {len cap:Nat} (h:My eE.P H 38 q len cap):∃sc:List Ac,sc.length=len∧Rd H q (sc.map Ac.cs).flatten∧∀a∈sc,a.ok H:=by
 obtain⟨css,m,h1,h2,h3,_,_⟩:=Ss CL h
 have key:∀css:List (List V),(∀c∈css,c.length=10∧Bo eE.P H m 38 c)→∃sc:List Ac,sc.map Ac.cs=css∧∀a∈sc,a.ok H:=by
  intro css
  induction css with
  |nil=>exact fun _=>⟨[],rfl,fun a h=>by cases h⟩
  |cons c css ih=>
   intro h;obtain⟨sc,e1,e2⟩:=ih (fun x hx=>h x (List.mem_cons_of_mem _ hx));obtain⟨a,e3,e4⟩:=Wa (h c (List.mem_cons_self ..)).2;refine⟨a::sc,by rw[List.map_cons,e1,e3],fun x hx=> ?_⟩;rcases List.mem_cons.1 hx with rfl|hx
   ·exact e4
   ·exact e2 x hx
 obtain⟨sc,e1,e2⟩:=key css h3;exact⟨sc,by rw[←h1, ←e1,List.length_map],by rw[e1];exact h2,e2⟩
theorem Qc (sc:List Ac):pk 10 (sc.map Ac.cs):=by
 intro c hc;obtain⟨a,_,rfl⟩:=List.mem_map.1 hc;exact⟨rfl,gf a.dE⟩
theorem Sv {H:ag} {q:Oq} {sc:List Ac} (hr:Rd H q (sc.map Ac.cs).flatten) {i:Nat} (hi:i<sc.length):q.isSome=true∧H.inb (q.getD (0,0)).1 ((q.getD (0,0)).2+i*10) 10=true∧H.sub (q.getD (0,0)).1 ((q.getD (0,0)).2+i*10) 10=sc[i].cs∧H.inb (q.getD (0,0)).1 ((q.getD (0,0)).2+i*10+1) 1=true∧H.cell (q.getD (0,0)).1 ((q.getD (0,0)).2+i*10+1)=.int .u8 sc[i].kd:=by
 obtain⟨a,b,c⟩:=xd hr (Qc sc) (by omega) (i:=i) (by simpa using hi);obtain⟨_,d,e⟩:=jQ hr (Qc sc) (i:=i) (k:=1) (by simpa using hi) (by omega);rw[List.getElem_map] at c e;exact⟨a,b,c,d,e⟩
theorem G2 (o:Ob) (p:Pg) (sure:Bool):(pq o p sure).su.length=o.su.length:=by
 unfold pq;split
 ·simp
 ·split
  ·exact cV _ _
  ·rfl
theorem Wb (o:Ob) (h:Int) (c:Cm) (bW:List UInt8):(ya o h c bW).1.su.length=o.su.length:=by
 unfold ya;split
 ·rfl
 ·split
  ·rfl
  ·split
   ·rfl
   ·split
    ·exact G2 _ _ _
    ·split
     ·exact G2 _ _ _
     ·split
      ·exact cV _ _
      ·split<;>rfl
theorem Ac.aac (a:Ac) (r:R) (n:Int):0≤(a.cm r n).nw∧(a.cm r n).nw≤4294967295:=by
 show 0≤a.nw % 4∧a.nw % 4≤_
 omega
section
variable {B:ag} {L:List cz} {H:ag} {K:V→ag→Prop} {x:Ui} {m:Gm} {mid:Nat}
theorem Ts (hm:dz B L m) (hg:m.g.In) (hform:m.g.cZ=true) {n:Nat} (hn1:1≤n) (hn2:n≤65536) {q1:Oq} {c1:Nat} {sc:List Ac} (hsc:Rd B q1 (sc.map Ac.cs).flatten) (hok:∀a∈sc,a.ok B) {Kr:Am.St→Prop} {Ke:Nat→Am.St→Prop}:∀(k i:Nat) (u:Un) (o:Ob) (N:Nat) {H:ag},i+k=60→o.su.length=n→Ug m.g u o [] N 0→u.s.a.bO≤0→u.s.f.ep=1→N+(k+1)*(9*CW)<281474976710656→fF B H x m u (jj mid o::L)→(∀u' o' N' H',o'.su.length=n→Ug m.g u' o' [] N' 0→u'.s.a.bO≤0→u'.s.f.ep=1→N'+9*CW<281474976710656→fF B H' x m u' (jj mid o'::L)→Ke 0 (St.mk (ab [(5,T.lp 5 0),(6,T.v (V.aj (some (x.aM,0)))),(8,T.v (V.int .i64 (n:Int))),(9,T.v (V.aj (some (x.jt,0)))),(11,T.v (V.aj (some (mid,0))))]) (ab [(5,Hk m)]) H'))→lo 6 10 (St.mk (ab [(1,T.v (V.slice q1 sc.length c1)),(5,T.lp 5 0),(6,T.v (V.aj (some (x.aM,0)))),(8,T.v (V.int .i64 (n:Int))),(9,T.v (V.aj (some (x.jt,0)))),(11,T.v (V.aj (some (mid,0)))),(12,T.v (V.int .i64 (i:Int)))]) (ab [(5,Hk m)]) H) Kr Ke
 |0,i,u,o,N,H,hi,hl,U,ha,MU,hN,hS,hk=>by
  unfold Hk at*;rw[NP]
  have e:(decide ((i:Int)<(sc.length:Int))&&decide ((i:Int)<60))=false:=by
   rw[←Bool.decide_and];exact decide_eq_false (by omega)
  rw[e,ai];exact hk u o N H hl U ha MU (by omega) hS
 |k+1,i,u,o,N,H,hi,hl,U,ha,MU,hN,hS,hk=>by
  unfold Hk at*;rw[NP];by_cases hlt:i<sc.length∧i<60
  ·have e1:(i:Int)<(sc.length:Int):=by omega
   have e2:(i:Int)<60:=by omega
   have e3:0≤(i:Int):=by omega
   have e4:IntKind.i64.wrap ((i:Int)+1)=((i+1:Nat):Int):=aK (by omega);obtain⟨s1,s2',I7,_,_⟩:=Sv (hS.rd hsc) hlt.1;obtain⟨q,c,q2,c2,f1,f2,f3,f4,f5,f6,_⟩:=tz (mid:=mid) (o:=o) (hS.ord [6]);have hmem:=List.getElem_mem hlt.1;have hac:=hok _ hmem;obtain⟨a,haa⟩:∃a,a=sc[i]'hlt.1:=⟨_,rfl⟩;rw[←haa] at I7 hac;simp only[e1,e2,e3,decide_true,Bool.and_self,ao,s1,s2',I7,Int.toNat_natCast,Ac.dE,Ac.eO,Option.isSome_some,Nat.zero_add,f5,f6,R.dE,R.eO,ay,oT,oU,oV,Option.getD_some];refine V7 hS hac o.r (n:=(n:Int)) (by omega) (by omega) (fun H1 h1=> ?_);have h1:fF B H1 x m u (jj mid o::L):=h1;simp only[dj,eH,dJ,gh,eD,cN,Cm.dE,Cm.eO,cO,bf,Bool.or_false,Bool.and_self,ay,List.length_cons,List.length_nil,Nat.reduceAdd,il,decide_true];rw[Nat.succ_mul] at hN;refine EE (hm.bU _) hg hform h1 U (by omega) (by have:=hg.s;simp;omega) ha (a.ho % 4) (a.cm o.r n) a.bW (a.Tq _ _) (Ac.Tr hac _ _) (a.aac _ _) (by omega) (fun v q3 n3 H2 hd kp U2 h2=> ?_);have h3:fF B H2 x m v (jj mid o::L):=(h2.ord [6]).drop;simp only[dj,eH,dJ,gh,eD,cN,Rs.aI,cO,bf,Bool.or_false,Bool.and_self,ay,List.length_cons,List.length_nil,Nat.reduceAdd,il,decide_true];refine PR (h3.ord [6]) U.ook (a.ho % 4) (a.cm o.r n) (a.Z7 _ _ hac.kd).1 a.bW (a.Tq _ _) (Ac.Tr hac _ _) (fun H4 h4=> ?_);have h5:fF B H4 x m v (jj mid (ya o (a.ho % 4) (a.cm o.r n) a.bW).1::L):=h4.ord [1,1,1,1,1,1];have e9:V.aL 3 (.tuple [.int .i64 (ya o (a.ho % 4) (a.cm o.r n) a.bW).2.e,.cH (cK (ya o (a.ho % 4) (a.cm o.r n) a.bW).2.d),.agg (ya o (a.ho % 4) (a.cm o.r n) a.bW).2.r.cs])=true:=rfl;have QK:∀a b c:V,ae [a,b,c] 2=c:=fun _ _ _=>rfl
   simp only[e9,QK,eH,dJ,gh,eD,cN,R.dE,cO,kQ,Bool.or_false,Bool.and_self,ay,e4];have ih:=Ts (c1:=c1) (Kr:=Kr) (Ke:=Ke) hm hg hform hn1 hn2 hsc hok k (i+1) v _ (N+9*CW) (by omega) (by rw[Wb];exact hl) U2 (kp.zP ha).1 (kp.ep.trans MU) (by omega) h5 (by unfold Hk;exact hk);unfold Hk at ih;exact ih
  ·have e:(decide ((i:Int)<(sc.length:Int))&&decide ((i:Int)<60))=false:=by
    rw[←Bool.decide_and];exact decide_eq_false (by omega)
   rw[e,ai];rw[Nat.succ_mul] at hN;exact hk u o N H hl U ha MU (by omega) hS
theorem xG (h0:az H H []) (x0:Int) (q:Oq) (len cap:Nat) (l0:0≤x0) (g0:x0≤255) (hs:My eE.P H 38 q len cap):cl 6 [.int .u8 x0,.slice q len cap] H fun v _=>v=.bool true:=by
 obtain⟨sc,rfl,hsc,hok⟩:=MB hs;rw[eq6];refine Qb h0 (fun H1 h1=> ?_);simp only[fk,bY,ay,Bool.not_true,ai];obtain⟨n0,rfl⟩:∃n0:Nat,x0=(n0:Int):=⟨x0.toNat,by omega⟩;refine xg h1 n0 (by omega) (fun m H2 Qs hmc h2=> ?_);have hform:m.g.cZ=true:=by rw[Qs];exact FY n0 (by omega)
 have hl:m.g.bI.length≤1000000:=by rw[Qs];unfold Vr;simp only;split<;>simp
 have SN:=ct.eW hform;have hg:=SN.in hl;have qG:=ct.nW hform;have hlt:=tC hg SN;have hv:m.v=.agg (dK m.g.aD m.g.aA m.g.aH m.q m.g.bI.length m.c):=rfl;have Ja:∀L:List cz,dz H (Hh m::L) m:=fun L=>Hh.ok hmc
 rw[hv];simp only[eD,cN,vp,vo,Bool.and_self,ay,f25,uE,mA,mB,mC,mD,bf,bD,aU,cq];refine KR h2 (Ja []) hform hg (fun aM a H3 U0 ha0 TH _ h3=> ?_);simp only[AJ,reduceIte,Nat.reduceEqDiff, ←hv];refine Rq h3 ((Ja []).bU _) hg (fun H4 h4=> ?_);simp only[AJ,reduceIte,Nat.reduceEqDiff];refine rH h4 (Ja []) hform hg U0 (by omega) (by omega) (ep:=1) ⟨by omega,by omega⟩ (by rw[TH];decide) (fun x u H5 hx U1 ML SD he1 _ h5=> ?_);obtain⟨N,hN⟩:∃N:Nat,m.g.cap=(N:Int):=⟨m.g.cap.toNat,by omega⟩;have hN2:m.g.cap.toNat=N:=by omega
 rw[hN2] at U1;simp only[AJ,reduceIte,Nat.reduceEqDiff,hN];refine R7 h5 (by omega) (by omega) (fun mid H6 h6=> ?_);simp only[AJ,reduceIte,Nat.reduceEqDiff];have h7:fF H H6 x m u (jj mid (vk N)::Hh m::[]):=h6.ord [1,1,1,1,1,1];have Tx:(vk N).su.length=N:=List.length_replicate;have hcg:aI zh (dK m.g.aD m.g.aA m.g.aH m.q m.g.bI.length m.c)=true:=rfl;have hL:=Ts (m:=m) (x:=x) (mid:=mid) (c1:=cap) (L:=Hh m::[]) (H:=H6) (Kr:= ?_) (Ke:= ?_) (Ja []) hg hform (by omega) (by omega) hsc hok 60 0 u (vk N) 0 (by omega) Tx U1 ML he1 (by decide) h7 ?_
 ·unfold Hk at hL;rw[hx] at hL;exact hL
 intro u' o' N' H8 hl8 U8 ha8 he8 hN8 h8;unfold Hk;simp only[AN,reduceIte,Nat.reduceEqDiff,hcg];have hds:(([]:List Nat).length:Int)≤m.g.aH:=by have:=hg.s;simp;omega
 refine P8 ((Ja []).bU _) hg hform h8 U8 hds ha8 hN8 (fun v' H9 hd9 kp U9 h9=> ?_);have ha9:=(kp.zP ha8).1;have he9:=kp.ep.trans he8;simp only[AJ,reduceIte,Nat.reduceEqDiff];rw[Cz h9];have hps:v'.ps=[]:=U9.ps;simp only[AJ,reduceIte,Nat.reduceEqDiff,hps,List.length_nil];refine Ap (h9.ord [6]) U8.ook (fun H10 ye=> ?_);have AS:fF H H10 x m v' (jj mid (fY o')::Hh m::[]):=ye.ord [1,1,1,1,1,1];obtain⟨t9,ht9,_⟩:=U9.t;have U10:=U9.leave v'.s.a rfl rfl ht9.on ht9.eI rfl;have ef:Af (fY o') false=fY o':=rfl;rw[ef] at U10
 have h12:az H H10 (dO aM v'.s.a::jj mid (fY o')::Hh m::[]):=by
  have:=az.drop (az.drop (az.drop (az.drop (az.drop AS))));rw[hx] at this;exact this
 have ac9:=ht9.aR;have:=rH (K:= ?_) h12 ((Ja []).bU _) hform hg U10 (by omega) ha9 (ep:=2) ⟨by omega,by omega⟩ (by omega) ?_
 ·rw[hx];exact this
 intro x2 w H13 vt U13 ada adb ade _ MQ;simp only[AJ,reduceIte,Nat.reduceEqDiff];have hl9:(fY o').su.length=N:=by show (dS o'.su o'.ps).length=N;rw[cV];exact hl8
 have hgo:eK (fY o').r:=by obtain⟨_,_,htb⟩:=U13.t;exact htb.PY
 have CN:=P7 (K:=fun v _=>ah (V.av .bool v) (V.bool (V.ak v)=V.bool true)) (Ja []) hg ⟨by omega,by omega⟩ U13 (by omega) U13.ook hgo rfl MQ (fun b H14 hb TG=> ?_)
 ·rw[hl9] at CN;exact CN
 ·have MV:b=true:=hb.2 ⟨rfl,rfl,fun _ _=>rfl⟩;rw[MV];simp only[fk,bY,ay]
end
theorem ox:ownKnob Tryz.prog.godebug=none:=by kernel_rfl
theorem acw:laidOutB Tryz.prog=true:=by kernel_rfl
theorem Wc {l:List TypeId} (h:(l.all fun t=>Tryz.prog.readableRec t&&Nat.blt t Tryz.prog.types.size)=true):∀t∈l,eE.P.readableRec t=true∧t<eE.P.types.size:=by
 intro t ht;have h1:=List.all_eq_true.1 h t ht;rw[Bool.and_eq_true] at h1;exact⟨h1.1,Nat.le_of_ble_eq_true h1.2⟩
end Go.Proofs.YtlgdkndamddpkaaGreat
end
