/- Part 6 of what the law UnitFalls wants. -/
import Derived.Below
import Derived.ChangeSame
import Derived.WideKeyArgs
import Derived.OpenShut
import Derived.ProofKit
import Derived.Test.YtlgdkndamddpkaaGreatP5
set_option maxRecDepth 100000
set_option linter.unusedSimpArgs false
set_option linter.unusedVariables false
set_option linter.unusedSectionVars false
open List Option
section
namespace Go.Proofs.YtlgdkndamddpkaaGreat
open Go.Am
def Ct (s:RS):Nat→RS×(Nat→Int)
 |0=>(s,fun _=>0)
 |n+1=>(((Ct s n).1.num 4 4294967295).2,cF (Ct s n).2 n (((Ct s n).1.num 4 4294967295).1:Nat))
structure aa8 where
 r:R
 n:Nat
 e:RS
def Av (s:RS×(Nat→Int)):aa8:=
 let a:=s.1.num 1 255
 let b:=a.2.num 1 8
 let c:=b.2.num 4 4294967295
 let d:=c.2.num 1 1
 let e:=d.2.num 4 2147483647
 ⟨⟨s.2,(a.1:Nat),(b.1:Nat)-1,(c.1:Nat),decide ((d.1:Int)=1)⟩,e.1,e.2⟩
def tH (bs:List UInt8):aa8:=Av (Ct ⟨bs,false⟩ 8)
def SP (bs:List UInt8):Option (R×Nat):=
 if (tH bs).e.bM=false∧(tH bs).e.bs=[]∧pk (tH bs).r=true then some ((tH bs).r,(tH bs).n) else none
def mf (bs:List UInt8):R:=
 ⟨fun i=>if i<8 then (dQ ((bs.drop (4*i)).take 4):Nat) else 0,(bs.getD 32 0).toNat,((bs.getD 33 0).toNat:Int)-1,(dQ ((bs.drop 34).take 4):Nat),decide (((bs.getD 38 0).toNat:Int)=1)⟩
def oe (bs:List UInt8):Bool:=decide (bs.length=43)&&(decide ((bs.getD 33 0).toNat≤8)&&(decide ((bs.getD 38 0).toNat≤1)&&decide ((bs.getD 42 0).toNat≤127)))
def EI (bs:List UInt8):Option (R×Nat):=
 if oe bs=true∧pk (mf bs)=true then some (mf bs,dQ ((bs.drop 39).take 4)) else none
theorem Aw (s:RS) (size most:Nat):(s.num size most).1≤most:=by
 unfold RS.num;split
 ·exact Nat.zero_le _
 ·simp only[];omega
theorem Uc (l:List UInt8):dQ (l.take 4)≤4294967295:=by
 have:=xV (l.take 4);have h:(256:Nat) ^ (l.take 4).length≤256 ^ 4:=Nat.pow_le_pow_right (by omega) (by rw[length_take];omega);have h2:(256:Nat) ^ 4=4294967296:=by decide
 omega
theorem vr (bs:List UInt8):∀n,4*n≤bs.length→Ct ⟨bs,false⟩ n=(⟨bs.drop (4*n),false⟩,fun i=>if i<n then ((dQ ((bs.drop (4*i)).take 4):Nat):Int) else 0)
 |0,_=>by simp [Ct]
 |n+1,h=>by
  rw[Ct,vr bs n (by omega)];simp only[];rw[kl (by simp;omega) (Uc _)];simp only[drop_drop];refine Prod.ext ?_ ?_
  ·simp only[];congr 1
  ·funext i;simp only[cF];by_cases h1:i=n
   ·subst h1;simp
   ·by_cases h2:i<n
    ·have:i<n+1:=by omega
     simp [h1,h2,this]
    ·have:¬i<n+1:=by omega
     simp [h1,h2,this]
theorem K7 (bs:List UInt8):∀n,(Ct ⟨bs,false⟩ n).1.bM=false→4*n≤bs.length
 |0,_=>by omega
 |n+1,h=>by
  rw[Ct] at h;obtain⟨h1,h2,_,_⟩:=iK h;have:=K7 bs n h1;rw[vr bs n this] at h2;simp at h2;omega
theorem Jb {bs:List UInt8} {i:Nat} (h:i<bs.length):(bs.drop i).take 1=[bs.getD i 0]:=by
 rw[drop_eq_getElem_cons h];simp only[List.getD,List.getElem?_eq_getElem h,getD_some,take_succ_cons,take_zero]
theorem gT {bs:List UInt8} {i:Nat} (h:i<bs.length):dQ ((bs.drop i).take 1)=(bs.getD i 0).toNat:=by
 rw[Jb h];simp [dQ]
theorem Cu {bs:List UInt8} (h:bs.length=43):dQ ((bs.drop 39).take 4)≤2147483647↔(bs.getD 42 0).toNat≤127:=by
 have e:(bs.drop 39).take 4=(bs.drop 39).take 3++[bs.getD 42 0]:=by
  rw[take_add_one,List.getElem?_drop];simp [List.getD,h]
 have h3:=xV ((bs.drop 39).take 3);have hl:((bs.drop 39).take 3).length=3:=by simp [h]
 rw[e,qi,hl];rw[hl] at h3;have h2:(256:Nat) ^ 3=16777216:=by decide
 rw[h2] at h3⊢;simp only[dQ];omega
theorem WS (bs:List UInt8):SP bs=EI bs:=by
 unfold SP EI;by_cases hl:bs.length=43
 ·have h1:Ct ⟨bs,false⟩ 8=_:=vr bs 8 (by omega);have h2:(RS.mk (bs.drop 32) false).num 1 255=_:=kl (by simp;omega) (by rw[gT (by omega)];have:=(bs.getD 32 0).toNat_lt;omega);by_cases h33:(bs.getD 33 0).toNat≤8
  ·have h3:(RS.mk (bs.drop 33) false).num 1 8=_:=kl (by simp;omega) (by rw[gT (by omega)];exact h33);have h4:(RS.mk (bs.drop 34) false).num 4 4294967295=_:=kl (by simp;omega) (Uc _);by_cases h38:(bs.getD 38 0).toNat≤1
   ·have h5:(RS.mk (bs.drop 38) false).num 1 1=_:=kl (by simp;omega) (by rw[gT (by omega)];exact h38);by_cases h42:(bs.getD 42 0).toNat≤127
    ·have h6:(RS.mk (bs.drop 39) false).num 4 2147483647=_:=kl (by simp;omega) ((Cu hl).2 h42)
     have hd:tH bs=⟨mf bs,dQ ((bs.drop 39).take 4),⟨[],false⟩⟩:=by
      unfold tH Av mf;simp only[h1,h2,drop_drop,h3,h4,h5,h6,gT (show 32<bs.length by omega),gT (show 33<bs.length by omega),gT (show 38<bs.length by omega)];simp [hl]
     have hg:oe bs=true:=by unfold oe;rw[decide_eq_true hl,decide_eq_true h33,decide_eq_true h38,decide_eq_true h42];rfl
     rw[hd,hg];simp
    ·have h6:(RS.mk (bs.drop 39) false).num 4 2147483647=_:=uU (by simp;omega) (by have:=Cu hl;omega)
     have hd:(tH bs).e.bM=true:=by
      unfold tH Av;simp only[h1,h2,drop_drop,h3,h4,h5,h6]
     have hg:oe bs=false:=by unfold oe;rw[decide_eq_false h42];simp
     rw[hd,hg];simp
   ·have h5:(RS.mk (bs.drop 38) false).num 1 1=_:=uU (by simp;omega) (by rw[gT (by omega)];omega)
    have hd:(tH bs).e.bM=true:=by
     unfold tH Av;simp only[h1,h2,drop_drop,h3,h4,h5];exact uV rfl
    have hg:oe bs=false:=by unfold oe;rw[decide_eq_false h38];simp
    rw[hd,hg];simp
  ·have h3:(RS.mk (bs.drop 33) false).num 1 8=_:=uU (by simp;omega) (by rw[gT (by omega)];omega)
   have hd:(tH bs).e.bM=true:=by
    unfold tH Av;simp only[h1,h2,drop_drop,h3];exact uV (uV (uV rfl))
   have hg:oe bs=false:=by unfold oe;rw[decide_eq_false h33];simp
   rw[hd,hg];simp
 ·have hg:oe bs=false:=by unfold oe;rw[decide_eq_false hl];simp
  rw[hg,if_neg (fun h:false=true∧_=>by cases h.1),if_neg];rintro⟨hb,he,_⟩;unfold tH Av at hb he;simp only[] at hb he;obtain⟨b1,l1,_,e1⟩:=iK hb;obtain⟨b2,l2,_,e2⟩:=iK b1;obtain⟨b3,l3,_,e3⟩:=iK b2;obtain⟨b4,l4,_,e4⟩:=iK b3;obtain⟨b5,l5,_,e5⟩:=iK b4;have hk:=K7 bs 8 b5;have h1:Ct ⟨bs,false⟩ 8=_:=vr bs 8 hk;rw[e1,e2,e3,e4,e5,h1] at he;rw[e2,e3,e4,e5,h1] at l1;rw[drop_drop,drop_drop,drop_drop,drop_drop,drop_drop,drop_eq_nil_iff] at he;simp at l1;omega
section
variable {B:ai} {L:List cw} {H:ai} {K:KP} {q:Oq} {cap:Nat} {bs:List UInt8} {id:Nat}
theorem Cv {Kr:PS} {Ke:NS}:∀(n i:Nat) {H:ai},i+n=8→nK B H L id (Ct ⟨bs,false⟩ i).1→(∀H',nK B H' L id (Ct ⟨bs,false⟩ 8).1→Ke 0 (St.mk (ab [(2,T.lp 2 0),(5,tp (some (id,0))),(6,T.lp 6 0)]) (ab [(2,aU.cells 46 (bJ 0 0 0 0 0 0 0 0 0 0 0 false)),(6,aU.cells 46 (R.cs ⟨(Ct ⟨bs,false⟩ 8).2,0,0,0,false⟩))]) H'))→lo 41 4 (St.mk (ab [(2,T.lp 2 0),(5,tp (some (id,0))),(6,T.lp 6 0),(11,ti (i:Int))]) (ab [(2,aU.cells 46 (bJ 0 0 0 0 0 0 0 0 0 0 0 false)),(6,aU.cells 46 (R.cs ⟨(Ct ⟨bs,false⟩ i).2,0,0,0,false⟩))]) H) Kr Ke
 |0,i,H,hi,h,k=>by
  obtain rfl:i=8:=by omega
  have:=k _ h;unfold R.cs at this⊢;rw[Ot];(try simp only[NQ]);exact this
 |n+1,i,H,hi,h,k=>by
  have e1:decide ((i:Int)<8)=true:=by simp;omega
  have e2:decide (0≤(i:Int))=true:=by simp
  have e3:0+Int.toNat (i:Int)*1=i:=by simp
  have hm:=Aw (Ct ⟨bs,false⟩ i).1 4 4294967295;unfold R.cs;rw[Ot];(try simp only[NQ]);rw[aL (by omega),e1,ao];refine kO h 4 4294967295 (by omega) (fun H' h'=> ?_);rw[bh,uO (by omega)];have hst:=iD (((Ct ⟨bs,false⟩ i).1.num 4 4294967295).1:Nat) 0 0 false (show i<8 by omega);have Rj:=oT ⟨(Ct ⟨bs,false⟩ i).2,0,0,0,false⟩ (show i<8 by omega) (((Ct ⟨bs,false⟩ i).1.num 4 4294967295).1:Nat) 0 0 0 false;simp only[e2,e3,hst,Rj,dh,az,Bool.and_self];exact Cv n (i+1) (by omega) h' k
def Jc:Option (R×Nat)→V
 |some (r,n)=>.tuple [.agg r.cs,vi (n:Int),vi 0]
 |none=>.tuple [.agg (bJ 0 0 0 0 0 0 0 0 0 0 0 false),vi 0,vi 3]
theorem MG (h:aA B H L) (hr:lU B L q bs) (hc:bs.length≤cap) (k:∀H',aA B H' L→K (Jc (EI bs)) H'):cl 41 [.slice q bs.length cap] H K:=by
 rw[ac5];(try simp only[NQ]);refine Kd h hr hc (fun id H1 h1=> ?_);simp only[AK,reduceIte];refine Cv (bs:=bs) 8 0 (by omega) h1 (fun H2 h2=> ?_);have hk':∀H',aA B H' L→K (Jc (SP bs)) H':=fun H' h'=>by rw[WS];exact k H' h'
 unfold SP tH at hk';generalize Ct ⟨bs,false⟩ 8=s at h2 hk'⊢;obtain⟨s,ks⟩:=s;unfold R.cs;simp only[AM,reduceIte,Nat.reduceEqDiff,f45,TF,TG,TH,TJ,TK,TM,TN,TO];refine kO h2 1 255 (by omega) (fun H3 h3=> ?_);simp only[AM];refine kO h3 1 8 (by omega) (fun H4 h4=> ?_);simp only[AM];refine kO h4 4 4294967295 (by omega) (fun H5 h5=> ?_);simp only[AM];refine kO h5 1 1 (by omega) (fun H6 h6=> ?_);simp only[AM];refine kO h6 4 2147483647 (by omega) (fun H7 h7=> ?_);have m1:=Aw s 1 255;have m2:=Aw (s.num 1 255).2 1 8;have m3:=Aw ((s.num 1 255).2.num 1 8).2 4 4294967295;have m4:=Aw ((((s.num 1 255).2.num 1 8).2.num 4 4294967295).2.num 1 1).2 4 2147483647
 have hd:Av (s,ks)=⟨⟨ks,((s.num 1 255).1:Nat),(((s.num 1 255).2.num 1 8).1:Nat)-1,((((s.num 1 255).2.num 1 8).2.num 4 4294967295).1:Nat),
  decide ((((((s.num 1 255).2.num 1 8).2.num 4 4294967295).2.num 1 1).1:Int)=1)⟩,(((((s.num 1 255).2.num 1 8).2.num 4 4294967295).2.num 1 1).2.num 4 2147483647).1,(((((s.num 1 255).2.num 1 8).2.num 4 4294967295).2.num 1 1).2.num 4 2147483647).2⟩:=rfl
 simp only[hd] at hk';simp only[AM,Wm h7];dsimp+instances only[bh];obtain⟨q7,c7,_,_,h7⟩:=h7.ex;have hk:=hk' H7 h7.drop;generalize s.num 1 255=a at m1 m2 m3 m4 hk⊢;generalize a.2.num 1 8=b at m2 m3 m4 hk⊢;generalize b.2.num 4 4294967295=c at m3 m4 hk⊢;generalize c.2.num 1 1=d at m4 hk⊢;generalize d.2.num 4 2147483647=e at m4 hk⊢;rw[xi,uN (n:=b.1) (by omega),bf (by omega) (by omega),uO (by omega),uN (by omega)];have e8:((UInt8.ofNat a.1).toNat:Int)=(a.1:Nat):=by simp;omega
 rw[e8,R.Ah ks];generalize R.mk ks (a.1:Nat) ((b.1:Nat)-1) (c.1:Nat) (decide ((d.1:Int)=1))=r at hk⊢;simp only[Ql];cases hb:e.2.bM
 ·by_cases hn:e.2.bs=[]
  ·cases hf:pk r
   ·simpa [hb,hn,hf,Jc] using hk
   ·simpa [hb,hn,hf,Jc] using hk
  ·simpa [hb,hn,Jc] using hk
 ·simpa [hb,Jc] using hk
end
def KF:Nat:=200
structure Un where
 s:FS
 ps:List Pg
 r:R
 down:Bool
def GX (g:cy) (s:FS) (p:Pg):Option (FS×Int):=
 if p.cB=true then KC g KF s p.au.toNat else vb g KF KF s (T5 p.au.toNat p.data)
def hT (g:cy):List Pg→FS→List Pg→Option (FS×List Pg×Int)
 |[],s,ps=>some (s,ps,0)
 |p::l,s,ps=>match GX g s p with
  |none=>none
  |some r=>if r.2=0 then hT g l r.1 (fG ps p.au) else some (r.1,ps,r.2)
def EJ (g:cy) (s:FS) (ps:List Pg) (p:Pg) (sure:Bool):Option (FS×List Pg×Int):=
 if sure=true then (match GX g s p with
  |none=>none
  |some r=>if r.2=0 then some (r.1,fG ps p.au,0) else some (r.1,ps,r.2))
 else if (hH ps p).2≠11 then some (s,(hH ps p).1,0)
 else match hT g ps s ps with
  |none=>none
  |some r=>if r.2.2=0 then some (r.1,(hH r.2.1 p).1,(hH r.2.1 p).2) else some r
def jw (u:Un):Un×Int:=
 if u.s.a.off=true then ({u with down:=true},9) else if u.down=true∨(u.s.f.ep:Int)<u.s.a.aR then ({u with down:=true},7) else (u,0)
structure Ui where
 iE:Nat
 yh:Nat
 aK:Nat
 fid:Nat
 mid:Nat
 pid:Nat
def K8 (x:Ui) (m:Gm) (u:Un):List V:=
 c92 (some (x.aK,0)) m.g.aG m.g.aB m.g.aI m.q m.g.bM.length m.c (some (x.fid,0)) (some (x.yh,0)) (u.r.k 0) (u.r.k 1) (u.r.k 2) (u.r.k 3) (u.r.k 4) (u.r.k 5) (u.r.k 6) (u.r.k 7) u.r.ty u.r.ho u.r.ge u.r.la u.down
section
variable {B:ai} {L:List cw} {H:ai} {K:KP} {x:Ui} {m:Gm} {u:Un}
abbrev eQ (B H:ai) (x:Ui) (m:Gm) (u:Un) (L:List cw):Prop:=
 aA B H (cP x.iE 93 (K8 x m u)::eK x.yh u.ps::cP x.fid 120 (Py x.aK m u.s.f x.mid x.pid)::tl x.mid u.s.f.pm::Bl x.pid u.s.f.po::cS x.aK u.s.a::L)
theorem eQ.fs (h:eQ B H x m u L):fZ B H x.aK x.fid x.mid x.pid m u.s (cP x.iE 93 (K8 x m u)::eK x.yh u.ps::L):=h.ord [2,2,2,2]
theorem eQ.nZ (h:eQ B H x m u L):aA B H (eK x.yh u.ps::cP x.iE 93 (K8 x m u)::cP x.fid 120 (Py x.aK m u.s.f x.mid x.pid)::tl x.mid u.s.f.pm::Bl x.pid u.s.f.po::cS x.aK u.s.a::L):=h.ord [1]
theorem eQ.arr (h:eQ B H x m u L):aA B H (cS x.aK u.s.a::cP x.iE 93 (K8 x m u)::eK x.yh u.ps::cP x.fid 120 (Py x.aK m u.s.f x.mid x.pid)::tl x.mid u.s.f.pm::Bl x.pid u.s.f.po::L):=h.ord [5]
theorem eQ.aa9 {s:FS} (h:fZ B H x.aK x.fid x.mid x.pid m s (cP x.iE 93 (K8 x m u)::eK x.yh u.ps::L)):eQ B H x m {u with s:=s} L:=h.ord [4,4]
structure UnG (H:ai) (x:Ui) (m:Gm) (u:Un):Prop where
 i:∀k<20,H.inb x.iE k 1=true
 c0:H.cell x.iE 0=.ay (some (x.aK,0))
 c5:H.cell x.iE 5=.ay (some (x.fid,0))
 c6:H.cell x.iE 6=.ay (some (x.yh,0))
 c19:H.cell x.iE 19=.bool u.down
 g:H.inb x.iE 1 4=true∧H.sub x.iE 1 4=dI m.g.aG m.g.aB m.g.aI m.q m.g.bM.length m.c
 r:H.inb x.iE 7 12=true∧H.sub x.iE 7 12=u.r.cs
 w:H.wr x.iE 19 1=true
 wr:H.wr x.iE 7 12=true
theorem Cw (h:eQ B H x m u L):UnG H x m u:=by
 have hg:=h.get;refine⟨fun k hk=>nJ hg (by show k<20;exact hk),ba hg 0,ba hg 5,ba hg 6,ba hg 19,⟨dN hg 1 4, ?_⟩,⟨dN hg 7 12, ?_⟩,fE hg 19 1,fE hg 7 12⟩
 ·rw[k5 hg];rfl
 ·rw[k5 hg];rfl
theorem eQ.vt (h:eQ B H x m u L) (b:Bool):eQ B (H.store x.iE 19 [.bool b]) x m {u with down:=b} L:=by
 obtain⟨w,h1⟩:=aA.zA (k:=19) h (by show 19<20;omega) (.bool b);exact h1
theorem GY (h:eQ B H x m u L) (k:∀H',eQ B H' x m (jw u).1 L→K (vi (jw u).2) H'):cl 44 [.ay (some (x.iE,0))] H K:=by
 have g:=Cw h;rw[acz];simp only[AN,isSome_some,Nat.zero_add,g.i 0 (by omega),g.c0];rw[aaU h.arr];simp only[AN];unfold jw at k;by_cases ho:u.s.a.off=true
 ·rw[if_pos ho] at k;simp only[ho,Bool.not_true,Bool.not_false,ao,g.w,az];exact k _ (h.vt true)
 rw[if_neg ho] at k;have ho':u.s.a.off=false:=by simpa using ho
 have FN:∀K:KP,cl 76 [.ay (some (x.aK,0))] H K=K (.int .u64 u.s.a.aR) H:=fun K=>ON h.arr
 have EP:∀K:KP,cl 58 [.ay (some (x.fid,0))] H K=K (.int .u64 (u.s.f.ep:Int)) H:=fun K=>B9 h.fs
 simp only[ho',Bool.not_false,Bool.not_true,ah,dY,g.i 19 (by omega),g.c19,g.i 0 (by omega),g.c0,g.i 5 (by omega),g.c5,FN,EP,g.w,AJ,reduceIte];by_cases hd:u.down=true
 ·rw[if_pos (.inl hd)] at k;have:=k _ (h.vt true);simp only[hd,Bool.not_true,ah,and_self];exact this
 ·have hd':u.down=false:=by simpa using hd
  simp only[hd',Bool.not_false,ao];by_cases hf:(u.s.f.ep:Int)<u.s.a.aR
  ·rw[if_pos (.inr hf)] at k;have:=k _ (h.vt true);have hf':u.s.a.aR>(u.s.f.ep:Int):=hf;simp only[hf',decide_true,ao,and_self];exact this
  ·rw[if_neg (fun e=>e.elim hd hf)] at k;have hf':¬u.s.a.aR>(u.s.f.ep:Int):=hf;simp only[hf',decide_false,ah,and_self];exact k H h
theorem MH (h:eQ B H x m u L):cl 24 [.ay (some (x.iE,0))] H K=K (vi (u.ps.length:Int)) H:=by
 have g:=Cw h;have LN:∀K:KP,cl 53 [.ay (some (x.yh,0))] H K=K (vi (u.ps.length:Int)) H:=fun K=>WJ h.nZ
 rw[acn];simp only[isNone_some,isSome_some,Nat.zero_add,g.i 6 (by omega),g.c6,LN,AN]
theorem Qm (h:eQ B H x m u L):cl 15 [.ay (some (x.iE,0))] H K=K (.agg u.r.cs) H:=by
 have g:=Cw h;rw[acg];simp only[isNone_some,isSome_some,Nat.zero_add,g.r.1,g.r.2,R.dv,R.dX,AN]
theorem MI (h:eQ B H x m u L):cl 36 [.ay (some (x.iE,0))] H K=K (.int .u64 (u.s.f.ep:Int)) H:=by
 have g:=Cw h;have EP:∀K:KP,cl 58 [.ay (some (x.fid,0))] H K=K (.int .u64 (u.s.f.ep:Int)) H:=fun K=>B9 h.fs
 rw[acu];simp only[isNone_some,isSome_some,Nat.zero_add,g.i 5 (by omega),g.c5,EP,AN]
structure GZ (g:cy) (p:Pg):Prop where
 lo:0≤p.au
 hi:p.au≤g.cap
 dl:p.data.length≤64
theorem K9 (hm:dz B L m) (hg:m.g.In) (hcap:m.g.cap<65000) (h:eQ B H x m u L) (hok:bo m.g u.s) {p:Pg} (hp:GZ m.g p) {q:Oq} {c:Nat} (hr:p.cB=false→lU B L q p.data) {r:FS×Int} (hf:GX m.g u.s p=some r) (k:bo m.g r.1→∀H',eQ B H' x m {u with s:=r.1} L→K (vi r.2) H'):cl 91 [.ay (some (x.iE,0)),.agg (gh p.au q p.data.length c p.cB)] H K:=by
 have g:=Cw h;obtain⟨a,ha⟩:∃a:Nat,p.au=(a:Int):=⟨p.au.toNat,by have:=hp.lo;omega⟩;have hm2:dz B (cP x.iE 93 (K8 x m u)::eK x.yh u.ps::L) m:=(hm.bK _).bK _;have hhi:=hp.hi;rw[acU];unfold GX at hf;rw[ha,Int.toNat_natCast] at hf;rw[ha];by_cases hh:p.cB=true
 ·rw[if_pos hh] at hf;simp only[hh,ao,isSome_some,Nat.zero_add,g.i 5 (by omega),g.c5,AN];refine PC hm2 hg hcap (by omega) hf hok h.fs (fun fH H1 h1=> ?_);simp only[AN];exact k fH H1 (eQ.aa9 h1)
 ·rw[if_neg hh] at hf;have hh':p.cB=false:=by simpa using hh
  simp only[hh',ah,isSome_some,Nat.zero_add,g.i 5 (by omega),g.c5,AN];refine B8 hm2 hg hcap (((hr hh').bK _).bK _) (by omega) hp.dl hf hok h.fs (fun fH H1 h1=> ?_);simp only[AN];exact k fH H1 (eQ.aa9 h1)
end
theorem La (ps:List Pg) (a:Int):(fG ps a).length≤ps.length:=by
 unfold fG;split
 ·exact(eraseIdx_sublist ps _).length_le
 ·exact Nat.le_refl _
section
variable {B:ai} {L:List cw} {H:ai} {K:KP} {x:Ui} {m:Gm} {u:Un}
theorem Cx (hm:dz B L m) (hg:m.g.In) (hcap:0≤m.g.cap∧m.g.cap<65000) {al:List Rp} {q8:Oq} {c8:Nat} (hb:al.length≤8) (hin:∀r∈al,GZ m.g r.p) {Kr:PS} {Ke:NS}:∀(n i:Nat) (u:Un) {H:ai} {r:FS×List Pg×Int},i+n=al.length→hT m.g ((al.map Rp.p).drop i) u.s u.ps=some r→bo m.g u.s→ee u.ps→u.ps.length≤8→eQ B H x m u (Rw 138 3 q8 c8 (al.map Rp.cs)::bB (al.map Rp.bV)::L)→(r.2.2=0→bo m.g r.1→∀H',eQ B H' x m {u with s:=r.1,ps:=r.2.1} (Rw 138 3 q8 c8 (al.map Rp.cs)::bB (al.map Rp.bV)::L)→Ke 0 (St.mk (ab []) (ab []) H'))→(r.2.2≠0→bo m.g r.1→∀H',eQ B H' x m {u with s:=r.1,ps:=r.2.1} (Rw 138 3 q8 c8 (al.map Rp.cs)::bB (al.map Rp.bV)::L)→Kr (St.mk (ab [(2,ti r.2.2)]) (ab []) H'))→lo 54 2 (St.mk (ab [(0,tp (some (x.iE,0))),(10,ts q8 al.length c8),(11,ti (al.length:Int)),(12,ti (i:Int))]) (ab []) H) Kr Ke
 |0,i,u,H,r,hi,hf,hok,hs,hl,h,k1,k2=>by
  obtain rfl:i=al.length:=by omega
  rw[Oi,decide_eq_false (by omega),ah];rw[drop_of_length_le (by simp),hT] at hf;cases hf;exact k1 rfl hok H h
 |n+1,i,u,H,r,hi,hf,hok,hs,hl,h,k1,k2=>by
  have hlt:i<al.length:=by omega
  have g:=Cw h;obtain⟨s1,s2',Jm⟩:=ly (h.ord [6]).kM hlt;have s2:H.inb (pb q8) (po q8+i*3) 3=true:=s2';have s3:H.sub (pb q8) (po q8+i*3) 3=al[i].cs:=Jm;have e1:(i:Int)<(al.length:Int):=by omega
  have e2:0≤(i:Int):=by omega
  have e3:IntKind.i64.wrap ((i:Int)+1)=((i+1:Nat):Int):=aL (by omega);have XC:=hin _ (getElem_mem hlt);have hlo:=XC.lo;have hhi:=XC.hi;have n0:ae al[i].cs 0=vi al[i].p.au:=rfl;have hop:vU (al[i].cs)=al[i].cs:=rfl;rw[drop_eq_getElem_cons (by simpa using hlt),getElem_map,hT] at hf;rw[Oi];simp only[e1,e2,s1,s2,s3,Rp.aM,n0,hop,decide_true,ao,Int.toNat_natCast,AN]
  cases XD:GX m.g u.s al[i].p with
  |none=>rw[XD] at hf;cases hf
  |some o=>
   rw[XD] at hf;dsimp only at hf;have hr:al[i].p.cB=false→lU B (Rw 138 3 q8 c8 (al.map Rp.cs)::bB (al.map Rp.bV)::L) al[i].q al[i].p.data:=fun _ H hs=>Ag hs.drop hlt
   change cl 91 [V.ay (some (x.iE,0)),V.agg (gh al[i].p.au al[i].q al[i].p.data.length al[i].c al[i].p.cB)] H _
   refine K9 ((hm.bK _).bK _) hg hcap.2 h hok XC (c:=al[i].c) hr XD ?_;intro gn H1 h1;have g1:=Cw h1;simp only[AN];by_cases he:o.2=0
   ·rw[if_pos he] at hf;simp only[he,decide_true,Bool.not_true,ah,isSome_some,Nat.zero_add,g1.i 6 (by omega),g1.c6,AN];refine KU h1.nZ hs hl ⟨by omega,by omega⟩ (fun H2 h2=> ?_);simp only[e3];have h3:eQ B H2 x m {u with s:=o.1,ps:=fG u.ps al[i].p.au} (Rw 138 3 q8 c8 (al.map Rp.cs)::bB (al.map Rp.bV)::L):=h2.ord [1];exact Cx hm hg hcap hb hin n (i+1) {u with s:=o.1,ps:=fG u.ps al[i].p.au} (by omega) hf gn (wA hs _) (Nat.le_trans (La _ _) hl) h3 k1 k2
   ·rw[if_neg he] at hf;cases hf;simp only[he,decide_false,Bool.not_false,ao];exact k2 he gn H1 h1
theorem tI (hm:dz B L m) (hg:m.g.In) (hcap:0≤m.g.cap∧m.g.cap<65000) (h:eQ B H x m u L) (hok:bo m.g u.s) (hs:ee u.ps) (hl:u.ps.length≤8) (hin:∀p∈u.ps,GZ m.g p) {r:FS×List Pg×Int} (hf:hT m.g u.ps u.s u.ps=some r) (k:bo m.g r.1→∀H',eQ B H' x m {u with s:=r.1,ps:=r.2.1} L→K (vi r.2.2) H'):cl 54 [.ay (some (x.iE,0))] H K:=by
 have g:=Cw h;rw[acC];simp only[isSome_some,Nat.zero_add,g.i 6 (by omega),g.c6,AN];refine WL h.nZ hs hl (fun q8 c8 H1 h1=> ?_);obtain⟨al,CM,h2⟩:=aA.aB h1;simp only[AN];have hla:al.length=u.ps.length:=by rw[←CM,length_map]
 rw[←hla];have h3:eQ B H1 x m u (Rw 138 3 q8 c8 (al.map Rp.cs)::bB (al.map Rp.bV)::L):=h2.ord [3,2,2,2,2,2];refine Cx hm hg hcap (by omega) (fun r hr=>hin _ (by rw[←CM];exact mem_map.2 ⟨r,hr,rfl⟩)) al.length 0 u (by omega) (by rw[drop_zero,CM];exact hf) hok hs hl h3 (fun h0 fH H4 h4=> ?_) (fun h0 fH H4 h4=> ?_)
 ·simp only[AN];have:=k fH H4 (h4.ord [6,6]).drop.drop;rw[h0] at this;exact this
 ·simp only[AN,reduceIte];exact k fH H4 (h4.ord [6,6]).drop.drop
end
def MJ (g:cy) (u:Un) (h:Int) (c:Cm) (bV:List UInt8):Option (Un×Rs×Int):=
 if kD h c g.cap.toNat=false then some (u,⟨0,[],R.zero⟩,1) else
 if HA u.r h c=false then some (u,⟨0,[],R.zero⟩,13) else
 if c.kd=0 then (if fO u.ps c.kP=true then some (u,⟨0,(pB u.ps c.kP).getD [],R.zero⟩,0) else match u.s.nc c.kP.toNat with
  |none=>none
  |some t=>some (u,⟨0,t.data,R.zero⟩,0)) else
 if c.kd=1 then (match EJ g u.s u.ps ⟨c.kP,bV,false⟩ c.su with
  |none=>none
  |some r=>some ({u with s:=r.1,ps:=r.2.1},⟨0,[],R.zero⟩,r.2.2)) else
 if c.kd=2 then (match EJ g u.s u.ps ⟨c.kP,[],true⟩ c.su with
  |none=>none
  |some r=>some ({u with s:=r.1,ps:=r.2.1},⟨0,[],R.zero⟩,r.2.2)) else
 if c.kd=3 then (match hT g u.ps u.s u.ps with
  |none=>none
  |some r=>some ({u with s:=r.1,ps:=r.2.1},⟨0,[],R.zero⟩,r.2.2)) else
 if c.kd=9 then some (u,⟨0,[],u.r⟩,0) else
 if (doR u.r h c).2≠0∨dm (doR u.r h c).1.cs u.r.cs=true then some (u,⟨0,[],R.zero⟩,(doR u.r h c).2) else
 match vb g KF KF u.s (T5 g.cap.toNat (hI (doR u.r h c).1 u.s.a.boots.toNat)) with
  |none=>none
  |some r=>if r.2=0 then some ({u with s:=r.1,r:=(doR u.r h c).1},⟨0,[],R.zero⟩,0) else some ({u with s:=r.1},⟨0,[],R.zero⟩,r.2)
def Ud (g:cy) (u:Un) (h:Int) (c:Cm) (bV:List UInt8):Option (Un×Rs×Int):=
 if (jw u).2≠0 then some ((jw u).1,⟨0,[],R.zero⟩,(jw u).2) else
 match MJ g u h c bV with
  |none=>none
  |some r=>if r.2.2=7∨r.2.2=9 then some ({r.1 with down:=true},⟨0,[],R.zero⟩,r.2.2) else some (r.1,{r.2.1 with e:=r.2.2},0)
def XU (g:cy) (u:Un):Option (Un×Int):=
 if (jw u).2≠0 then some (jw u) else
 match hT g u.ps u.s u.ps with
  |none=>none
  |some r=>some ({u with s:=r.1,ps:=r.2.1,down:=u.down||(decide (r.2.2=7)||decide (r.2.2=9))},r.2.2)
section
variable {B:ai} {L:List cw} {H:ai} {K:KP} {x:Ui} {m:Gm} {u:Un}
structure Qn (g:cy) (u:Un):Prop where
 ok:bo g u.s
 sort:ee u.ps
 le8:u.ps.length≤8
 inr:∀p∈u.ps,GZ g p
theorem SQ {ps:List Pg} {p:Pg} (h:(hH ps p).2=11):(hH ps p).1=ps:=by
 unfold hH at h⊢;split at h
 ·rename_i h1;rw[if_pos h1]
 ·rename_i h1;rw[if_neg h1];split at h
  ·rename_i h2;rw[if_pos h2]
  ·rename_i h2;rw[if_neg h2];split at h
   ·cases h
   ·rename_i h3;rw[if_neg h3];split at h
    ·rename_i h4;rw[if_pos h4]
    ·cases h
theorem MK {ps:List Pg} {a:Int} {p:Pg} (h:p∈fG ps a):p∈ps:=by
 unfold fG at h;split at h
 ·exact(eraseIdx_sublist ps _).subset h
 ·exact h
theorem Cy {g:cy}:∀{l:List Pg} {s:FS} {ps:List Pg} {r:FS×List Pg×Int},hT g l s ps=some r→ee ps→ps.length≤8→(∀p∈ps,GZ g p)→ee r.2.1∧r.2.1.length≤8∧∀p∈r.2.1,GZ g p
 |[],s,ps,r,h,h1,h2,h3=>by rw[hT] at h;cases h;exact⟨h1,h2,h3⟩
 |p::l,s,ps,r,h,h1,h2,h3=>by
  rw[hT] at h;split at h
  ·cases h
  ·split at h
   ·exact Cy h (wA h1 _) (Nat.le_trans (La _ _) h2) (fun p hp=>h3 p (MK hp))
   ·cases h;exact⟨h1,h2,h3⟩
theorem SS (hm:dz B L m) (hg:m.g.In) (hcap:0≤m.g.cap∧m.g.cap<65000) (h:eQ B H x m u L) (hu:Qn m.g u) {p:Pg} (hp:GZ m.g p) {q:Oq} {c:Nat} (hr:lU B L q p.data) {sure:Bool} {r:FS×List Pg×Int} (hf:EJ m.g u.s u.ps p sure=some r) (k:∀H',eQ B H' x m {u with s:=r.1,ps:=r.2.1} L→K (vi r.2.2) H'):cl 80 [.ay (some (x.iE,0)),.agg (gh p.au q p.data.length c p.cB),.bool sure] H K:=by
 have g:=Cw h;have hlo:=hp.lo;have hhi:=hp.hi;rw[acS];unfold EJ at hf;by_cases hs:sure=true
 ·rw[if_pos hs] at hf;rw[hs,ao]
  cases XD:GX m.g u.s p with
  |none=>rw[XD] at hf;cases hf
  |some o=>
   rw[XD] at hf;dsimp only at hf;refine K9 hm hg hcap.2 h hu.ok hp (fun _=>hr) XD (fun gn H1 h1=> ?_);have g1:=Cw h1;simp only[AN];by_cases he:o.2=0
   ·rw[if_pos he] at hf;cases hf;simp only[he,decide_true,Bool.not_true,ah,isSome_some,Nat.zero_add,g1.i 6 (by omega),g1.c6,AN];refine KU h1.nZ hu.sort hu.le8 ⟨by omega,by omega⟩ (fun H2 h2=> ?_);exact k H2 (h2.ord [1])
   ·rw[if_neg he] at hf;cases hf;simp only[he,decide_false,Bool.not_false,ao];exact k H1 h1
 ·rw[if_neg hs] at hf;have hs':sure=false:=by simpa using hs
  rw[hs',ah];simp only[isSome_some,Nat.zero_add,g.i 6 (by omega),g.c6,AN];refine PX h.nZ hu.sort hu.le8 p ⟨by omega,by omega⟩ (fun _=>hr H h.drop.drop.drop.drop.drop.drop) (fun H1 h1=> ?_);simp only[AN];by_cases CR:(hH u.ps p).2=11
  ·rw[if_neg (fun e=>e CR)] at hf;simp only[CR,decide_true,Bool.not_true,ah];have he:=SQ CR;rw[he] at h1;have h2:eQ B H1 x m u L:=h1.ord [1]
   cases hfl:hT m.g u.ps u.s u.ps with
   |none=>rw[hfl] at hf;cases hf
   |some o=>
    rw[hfl] at hf;dsimp only at hf;refine tI hm hg hcap h2 hu.ok hu.sort hu.le8 hu.inr hfl (fun fH H2 h2=> ?_);have g2:=Cw h2;simp only[AN];by_cases h0:o.2.2=0
    ·rw[if_pos h0] at hf;cases hf;simp only[h0,decide_true,Bool.not_true,ah,g2.i 6 (by omega),g2.c6,AN];have hfp:=Cy hfl hu.sort hu.le8 hu.inr;refine PX h2.nZ hfp.1 hfp.2.1 p ⟨by omega,by omega⟩ (fun _=>hr H2 h2.drop.drop.drop.drop.drop.drop) (fun H3 h3=> ?_);simp only[AN];exact k H3 (h3.ord [1])
    ·rw[if_neg h0] at hf;cases hf;simp only[h0,decide_false,Bool.not_false,ao];exact k H2 h2
  ·rw[if_pos CR] at hf;cases hf;simp only[CR,decide_false,Bool.not_false,ao];exact k H1 (h1.ord [1])
theorem G0 (m:Gm):rQ (dI m.g.aG m.g.aB m.g.aI m.q m.g.bM.length m.c)=dI m.g.aG m.g.aB m.g.aI m.q m.g.bM.length m.c:=rfl
theorem G1 (m:Gm):aM zq (dI m.g.aG m.g.aB m.g.aI m.q m.g.bM.length m.c)=true:=rfl
theorem G2 {ps:List Pg} (hs:ee ps) {a:Int} (hh:fO ps a=true) (hp:bX ps a<ps.length):(pB ps a).getD []=(ps[bX ps a]).data:=by
 rw[MC hs hh hp];rfl
theorem SU (hm:dz B L m) (hg:m.g.In) (hcap:0≤m.g.cap∧m.g.cap<65000) (h:eQ B H x m u L) (hu:Qn m.g u) (hh:Int) (c:Cm) (bV:List UInt8) (hd:c.dn=bV.length) (hr:lU B L c.dp bV) (X2:(doR u.r hh c).1.ok) (hb:0≤u.s.a.boots∧u.s.a.boots<2147483648) {r:Un×Rs×Int} (hf:MJ m.g u hh c bV=some r) (k:∀q n H',eQ B H' x m r.1 (BY q n r.2.1.d::L)→K (.tuple [.agg (r.2.1.cs q n),vi r.2.2]) H'):cl 45 [.ay (some (x.iE,0)),vi hh,.agg c.cs] H K:=by
 have g:=Cw h;obtain⟨N,hN⟩:∃N:Nat,m.g.cap=(N:Int):=⟨m.g.cap.toNat,by omega⟩;have nil:∀{u':Un} {H':ai},eQ B H' x m u' L→eQ B H' x m u' (BY none 0 []::L):=fun h'=>(kL h').ord [1,1,1,1,1,1]
 have hm6:∀A1 A2 A3 A4 A5 A6:cw,dz B (A1::A2::A3::A4::A5::A6::L) m:=fun A1 A2 A3 A4 A5 A6=>(((((hm.bK _).bK _).bK _).bK _).bK _).bK _
 conv in c.cs=>unfold Cm.cs
 rw[acA];simp only[Cm.rV,isSome_some,getD_some,az,Nat.zero_add,g.g.1,g.g.2,G0,G1,Bool.and_self,nq,nr,ns];refine It h (hm6 _ _ _ _ _ _) hg (fun H1 h1=> ?_);have h1:eQ B H1 x m u L:=h1;have g1:=Cw h1;simp only[dh,bh,az,hN,Qf,Qg,fK,ct,g1.r.1,g1.r.2,R.dv,R.dX,Bool.and_self,GS];unfold MJ at hf;rw[hN,Int.toNat_natCast] at hf;cases hv:kD hh c N
 ·rw[if_pos hv] at hf;cases hf;simp only[Bool.not_false,ao];exact k none 0 H1 (nil h1)
 rw[if_neg (by simp [hv])] at hf;simp only[Bool.not_true,ah];have M6:=hv;unfold kD at M6;simp only[Bool.and_eq_true,Bool.or_eq_true,Bool.not_eq_true',Bool.or_eq_false_iff,decide_eq_true_eq,decide_eq_false_iff_not] at M6;obtain⟨⟨⟨⟨v1,v2⟩,v3⟩,v4⟩,v5⟩:=M6;cases XE:HA u.r hh c
 ·rw[if_pos XE] at hf;cases hf;simp only[Bool.not_false,ao];exact k none 0 H1 (nil h1)
 rw[if_neg (by simp [XE])] at hf;simp only[Bool.not_true,ah];by_cases k0:c.kd=0
 ·rw[if_pos k0] at hf;simp only[k0,decide_true,ao,g1.i 6 (by omega),g1.c6,rj,jG,Bool.and_self,az];have xQ:=v4.resolve_left (fun e=>e.1.1 k0);refine WK h1.nZ hu.sort hu.le8 ⟨by omega,by omega⟩ (fun hno H2 h2=> ?_) (fun hp q' c' H2 hyes ha h2=> ?_)
  ·rw[if_neg (by simp [hno])] at hf;have h2:eQ B H2 x m u L:=h2.ord [1];have g2:=Cw h2
   cases tL:u.s.nc c.kP.toNat with
   |none=>rw[tL] at hf;cases hf
   |some t=>
    rw[tL] at hf;cases hf;simp only[AN,Nat.zero_add,g2.i 5 (by omega),g2.c5];obtain⟨a,ha⟩:∃a:Nat,c.kP=(a:Int):=⟨c.kP.toNat,by omega⟩;rw[ha,Int.toNat_natCast] at tL;rw[ha];refine Gw ((hm.bK _).bK _) h2.fs hu.ok hg (by omega) tL (fun q3 c3 H3 h3=> ?_);simp only[AN];exact k q3 c3 H3 (h3.ord [5,5])
  ·rw[if_pos hyes] at hf;cases hf;have h3:eQ B H2 x m u (BY q' c' (u.ps[bX u.ps c.kP]).data::L):=h2.ord [2,1,1,1,1,1];simp only[AN];have:=k q' c' H2 (by rw[G2 hu.sort hyes hp];exact h3);unfold Rs.cs at this;simp only[G2 hu.sort hyes hp] at this;exact this
 rw[if_neg k0] at hf;simp only[k0,decide_false,ah];have hN':m.g.cap.toNat=N:=by omega
 have hput:∀p:Pg,GZ m.g p→∀(q:Oq) (cc:Nat),lU B L q p.data→(match EJ m.g u.s u.ps p c.su with
  |none=>none
  |some r=>some ({u with s:=r.1,ps:=r.2.1},(⟨0,[],R.zero⟩:Rs),r.2.2))=some r→
  cl 80 [.ay (some (x.iE,0)),.agg (gh p.au q p.data.length cc p.cB),.bool c.su] H1 (fun v H'=>af (V.ax (.int .i64) v) (K (V.tuple [V.agg (DJ 0 none 0 0 0 0 0 0 0 0 0 0 0 0 0 false),vi (V.aa v)]) H')):=by
  intro p hp q cc hrd hf
  cases Ry:EJ m.g u.s u.ps p c.su with
  |none=>rw[Ry] at hf;cases hf
  |some o=>
   rw[Ry] at hf;cases hf;refine SS hm hg hcap h1 hu hp hrd Ry (fun H2 h2=> ?_);simp only[AN];exact k none 0 H2 (nil h2)
 by_cases k1:c.kd=1
 ·rw[if_pos k1] at hf;simp only[k1,decide_true,ao];have xQ:=v4.resolve_left (fun e=>e.1.2 k1);have hdn:c.dn≤64:=v5.resolve_left (fun e=>e k1);rw[hd];exact hput ⟨c.kP,bV,false⟩ ⟨xQ.1,by show c.kP≤_;omega,by show bV.length≤64;omega⟩ c.dp c.dc hr hf
 rw[if_neg k1] at hf;simp only[k1,decide_false,ah];by_cases k2:c.kd=2
 ·rw[if_pos k2] at hf;simp only[k2,decide_true,ao];have xQ:=v4.resolve_left (fun e=>e.2 k2);exact hput ⟨c.kP,[],true⟩ ⟨xQ.1,by show c.kP≤_;omega,Nat.zero_le _⟩ none 0 (lU.nil _ _ _) hf
 rw[if_neg k2] at hf;simp only[k2,decide_false,ah];by_cases k3:c.kd=3
 ·rw[if_pos k3] at hf;simp only[k3,decide_true,ao]
  cases hfl:hT m.g u.ps u.s u.ps with
  |none=>rw[hfl] at hf;cases hf
  |some o=>
   rw[hfl] at hf;cases hf;refine tI hm hg hcap h1 hu.ok hu.sort hu.le8 hu.inr hfl (fun fH H2 h2=> ?_);simp only[AN];exact k none 0 H2 (nil h2)
 rw[if_neg k3] at hf;simp only[k3,decide_false,ah];by_cases k9:c.kd=9
 ·rw[if_pos k9] at hf;cases hf;simp only[k9,decide_true,ao];exact k none 0 H1 (nil h1)
 rw[if_neg k9] at hf;simp only[k9,decide_false,ah,g1.r.1,g1.r.2,R.dv,R.dX,Bool.and_self,az,aa7,fC,gK,eW,iZ,fJ,dH,dh,bh,Bool.or_false,length_cons,length_nil,Nat.reduceAdd,decide_true,Bool.true_and,Bool.and_true,aP,ite_self];obtain⟨d,QV⟩:∃d,d=doR u.r hh c:=⟨_,rfl⟩;rw[←QV] at hf X2⊢;by_cases hq1:d.2=0
 case neg=>
  rw[if_pos (.inl hq1)] at hf;cases hf;simp only[hq1,decide_false,Bool.not_false,Bool.not_true,cond_false,ao];exact k none 0 H1 (nil h1)
 simp only[hq1,decide_true,Bool.not_true,Bool.not_false,cond_true];cases Nn:dm d.1.cs u.r.cs
 case true=>
  rw[if_pos (.inr Nn)] at hf;cases hf;rw[ao];have:=k none 0 H1 (nil h1);simp only[hq1] at this;exact this
 rw[if_neg (by simp [hq1,Nn])] at hf;rw[ah];obtain⟨bt,Rk⟩:∃bt:Nat,u.s.a.boots=(bt:Int):=⟨u.s.a.boots.toNat,by omega⟩;rw[Rk,Int.toNat_natCast] at hf
 cases Ry:vb m.g KF KF u.s (T5 N (hI d.1 bt)) with
 |none=>rw[Ry] at hf;cases hf
 |some o=>
  rw[Ry] at hf;dsimp only at hf;refine hG (fun S:Am.St=>S.1 14=some (ti o.2)∧eQ B S.3 x m {u with s:=o.1} L) (fun(S:Am.St) Jo=> ?_) (fun Q hQ=> ?_)
  ·obtain⟨aeb,hS⟩:=Jo;generalize S.3=H2 at hS⊢;have g2:=Cw hS;simp only[aeb,AN];by_cases h0:o.2=0
   ·rw[if_pos h0] at hf;cases hf;simp only[h0,decide_true,Bool.not_true,ah,g2.wr,az];have h3:=hS.store (off:=7) (vs:=d.1.cs);have e2:bH (K8 x m {u with s:=o.1}) 7 d.1.cs=K8 x m {u with s:=o.1,r:=d.1}:=rfl;rw[e2] at h3;exact k none 0 _ (nil h3)
   ·rw[if_neg h0] at hf;cases hf;simp only[h0,decide_false,Bool.not_false,ao];exact k none 0 H2 (nil hS)
  ·have MT:∀(K:KP),(∀H',eQ B H' x m u L→K (vi (N:Int)) H')→cl 40 [V.agg (dI m.g.aG m.g.aB m.g.aI m.q m.g.bM.length m.c)] H1 K:=fun K k=>by
    rw[←hN] at k;exact uS h1 (hm6 _ _ _ _ _ _) hg (fun H' h'=>k H' h')
   have BO:∀(H':ai) (K:KP),eQ B H' x m u L→cl 43 [V.ay (some (x.aK,0))] H' K=K (vi (bt:Int)) H':=fun H' K h'=>by
    rw[F9 h'.arr,Rk]
   have EN:∀(H':ai) (K:KP),eQ B H' x m u L→(∀q' c' H2,eQ B H2 x m u (BY q' c' (hI d.1 bt)::L)→K (.slice q' (hI d.1 bt).length c') H2)→cl 83 [V.agg d.1.cs,vi (bt:Int)] H' K:=fun H' K h' k=>
    MF d.1 X2 bt (by omega) (by omega) h' (fun q' c' H2 h2=>k q' c' H2 (h2.ord [1,1,1,1,1,1]))
   have hel:(hI d.1 bt).length≤64:=by rw[vq];omega
   have WR:∀(H':ai) (q':Oq) (c':Nat) (K:KP),eQ B H' x m u (BY q' c' (hI d.1 bt)::L)→(∀H2,eQ B H2 x m {u with s:=o.1} L→K (vi o.2) H2)→cl 82 [V.ay (some (x.fid,0)),vi (N:Int),V.slice q' (hI d.1 bt).length c'] H' K:=fun H' q' c' K h' k=>by
    refine B8 (((hm.bK _).bK _).bK _) hg hcap.2 (L:=cP x.iE 93 (K8 x m u)::eK x.yh u.ps::BY q' c' (hI d.1 bt)::L) (fun H hs=>(hs.ord [2]).iJ) (by omega) hel Ry hu.ok h'.fs (fun fH H2 h2=>k H2 ?_);exact((h2.ord [4,4,4]).ord [2]).drop
   simp only[g1.i 5 (by omega),g1.c5,g1.i 0 (by omega),g1.c0,g1.g.1,g1.g.2,G0,G1,AN]
   repeat' apply And.intro
   all_goals
    refine MT _ (fun H2 h2=> ?_);have g2:=Cw h2;simp only[g2.i 5 (by omega),g2.c5,g2.i 0 (by omega),g2.c0,AN,BO H2 _ h2]
    repeat' apply And.intro
    all_goals
     refine EN H2 _ h2 (fun q3 c3 H3 h3=> ?_);have g3:=Cw h3;simp only[g3.i 5 (by omega),g3.c5,AN];refine WR H3 q3 c3 _ h3 (fun H4 h4=> ?_);simp only[AN];exact hQ _ ⟨rfl,h4⟩
theorem Cz (u:Un):(jw u).1.s=u.s∧(jw u).1.ps=u.ps∧(jw u).1.r=u.r∧((jw u).2=0→(jw u).1=u):=by
 unfold jw;split
 ·exact⟨rfl,rfl,rfl,fun h=>by cases h⟩
 split
 ·exact⟨rfl,rfl,rfl,fun h=>by cases h⟩
 ·exact⟨rfl,rfl,rfl,fun _=>rfl⟩
theorem Jd (hm:dz B L m) (hg:m.g.In) (hcap:0≤m.g.cap∧m.g.cap<65000) (h:eQ B H x m u L) (hu:Qn m.g u) (hh:Int) (c:Cm) (bV:List UInt8) (hd:c.dn=bV.length) (hr:lU B L c.dp bV) (X2:(doR u.r hh c).1.ok) (hb:0≤u.s.a.boots∧u.s.a.boots<2147483648) {r:Un×Rs×Int} (hf:Ud m.g u hh c bV=some r) (k:∀q n H',eQ B H' x m r.1 (BY q n r.2.1.d::L)→K (.tuple [.agg (r.2.1.cs q n),vi r.2.2]) H'):cl 16 [.ay (some (x.iE,0)),vi hh,.agg c.cs] H K:=by
 have nil:∀{u':Un} {H':ai},eQ B H' x m u' L→eQ B H' x m u' (BY none 0 []::L):=fun h'=>(kL h').ord [1,1,1,1,1,1]
 conv in c.cs=>unfold Cm.cs
 rw[ach];simp only[Cm.rV,isNone_some,ah];refine GY h (fun H1 h1=> ?_);simp only[AN];unfold Ud at hf;by_cases hl:(jw u).2=0
 case neg=>
  rw[if_pos hl] at hf;cases hf;simp only[hl,decide_false,Bool.not_false,ao];exact k none 0 H1 (nil h1)
 rw[if_neg (fun e=>e hl)] at hf;rw[(Cz u).2.2.2 hl] at h1;simp only[hl,decide_true,Bool.not_true,ah]
 cases ho:MJ m.g u hh c bV with
 |none=>rw[ho] at hf;cases hf
 |some o=>
  rw[ho] at hf;dsimp only at hf;refine SU hm hg hcap h1 hu hh c bV hd hr X2 hb ho (fun q n H2 h2=> ?_);have h2:eQ B H2 x m o.1 (BY q n o.2.1.d::L):=h2;have g2:=Cw h2;simp only[AN,Rs.aM,Rs.n1];by_cases h79:o.2.2=7∨o.2.2=9
  ·rw[if_pos h79] at hf;cases hf;have h3:eQ B _ x m {o.1 with down:=true} L:=((h2.vt true).ord [6]).drop;by_cases h7:o.2.2=7
   ·simp only[h7,decide_true,Bool.not_true,cond_false,ao,isSome_some,Nat.zero_add,g2.w,AN];have:=k none 0 _ (nil h3);simp only[h7] at this;exact this
   ·have h9:o.2.2=9:=h79.resolve_left h7;simp only[h9,decide_true,isSome_some,Nat.zero_add,g2.w,AN];have:=k none 0 _ (nil h3);simp only[h9] at this;exact this
  ·rw[if_neg h79] at hf;cases hf;have h7:¬o.2.2=7:=fun e=>h79 (.inl e)
   have h9:¬o.2.2=9:=fun e=>h79 (.inr e)
   simp only[h7,h9,decide_false,Bool.not_false,cond_true,ah];exact k q n H2 h2
theorem Qo (hm:dz B L m) (hg:m.g.In) (hcap:0≤m.g.cap∧m.g.cap<65000) (h:eQ B H x m u L) (hu:Qn m.g u) {r:Un×Int} (hf:XU m.g u=some r) (k:∀H',eQ B H' x m r.1 L→K (vi r.2) H'):cl 25 [.ay (some (x.iE,0))] H K:=by
 rw[aco];simp only[isNone_some,ah];refine GY h (fun H1 h1=> ?_);simp only[AN];unfold XU at hf;by_cases hl:(jw u).2=0
 case neg=>
  rw[if_pos hl] at hf;cases hf;simp only[hl,decide_false,Bool.not_false,ao];exact k H1 h1
 rw[if_neg (fun e=>e hl)] at hf;rw[(Cz u).2.2.2 hl] at h1;simp only[hl,decide_true,Bool.not_true,ah]
 cases hfl:hT m.g u.ps u.s u.ps with
 |none=>rw[hfl] at hf;cases hf
 |some o=>
  rw[hfl] at hf;cases hf;refine tI hm hg hcap h1 hu.ok hu.sort hu.le8 hu.inr hfl (fun fH H2 h2=> ?_);have h2:eQ B H2 x m {u with s:=o.1,ps:=o.2.1} L:=h2;have g2:=Cw h2
  have w:∀b:Bool,(u.down||(decide (o.2.2=7)||decide (o.2.2=9)))=b→K (vi o.2.2) (H2.store x.iE 19 [.bool b]):=fun b hb=>by
   subst hb;exact k _ (h2.vt _)
  simp only[isSome_some,Nat.zero_add,g2.i 19 (by omega),g2.c19,g2.w,AN];cases hdn:u.down
  ·simp only[Bool.not_false,ao];by_cases h7:o.2.2=7
   ·have:=w true (by simp [h7]);simp only[h7,decide_true,Bool.not_true,ah] at this⊢;exact this
   ·simp only[h7,decide_false,Bool.not_false,ao];by_cases h9:o.2.2=9
    ·have:=w true (by simp [h9]);simp only[h9,decide_true] at this⊢;exact this
    ·have:=w false (by simp [h7,h9,hdn]);simp only[h9,decide_false];exact this
  ·simp only[Bool.not_true,ah];exact w true (by simp [hdn])
def uM (g:cy) (s:FS):Option Un:=match s.nc g.cap.toNat with
 |none=>none
 |some t=>if t.data.length=0 then some ⟨s,[],R.gk,false⟩ else match EI t.data with
  |none=>none
  |some d=>some ⟨s,[],od d.1 d.2 s.a.boots,false⟩
theorem CA {aK:Nat} {a:Ar} (h:aA B H (cS aK a::L)) (hm:dz B L m) (hf:m.g.df=true) (hg:m.g.In) (hr:a.rd m.g) (hc:0≤m.g.cap∧m.g.cap<65000) {ep:Nat} (Rc:1≤ep∧ep<281474976710656) (wN:∀sq,(cK m.g sq a ep).2=0→∃v,uM m.g (cK m.g sq a ep).1=some v) (k1:∀pz x v H',x.aK=aK→xX pz=a.Bg m.g→(cK m.g (eG pz) a ep).2=0→bo m.g (cK m.g (eG pz) a ep).1→uM m.g (cK m.g (eG pz) a ep).1=some v→eQ B H' x m v L→K (.tuple [.ay (some (x.iE,0)),vi 0]) H') (k2:∀pz H',xX pz=a.Bg m.g→(cK m.g (eG pz) a ep).2≠0→bo m.g (cK m.g (eG pz) a ep).1→aA B H' (cS aK (cK m.g (eG pz) a ep).1.a::L)→K (.tuple [.ay none,vi (cK m.g (eG pz) a ep).2]) H'):cl 13 [.ay (some (aK,0)),m.v,.int .u64 (ep:Int)] H K:=by
 obtain⟨N,hN⟩:∃N:Nat,m.g.cap=(N:Int):=⟨m.g.cap.toNat,by omega⟩;have hv:m.v=.agg (dI m.g.aG m.g.aB m.g.aI m.q m.g.bM.length m.c):=rfl;rw[hv,ace, ←hv];simp only[isNone_some,ah];refine Mj h hm hf hg hr hc Rc (fun pz fid mid pid H1 E7 EZ h0 hok h1=> ?_) (fun pz H1 E7 EZ h0 hok h1=> ?_)
 ·simp only[AN];obtain⟨v,Ln⟩:=wN (eG pz) h0;obtain⟨s,hs⟩:∃s,s=(cK m.g (eG pz) a ep).1:=⟨_,rfl⟩;have Ts:=k1 pz;rw[←hs] at h1 hok Ln Ts;refine hG (fun S:Am.St=>∃iE yh,S.1 10=some (tp (some (iE,0)))∧eQ B S.3 ⟨iE,yh,aK,fid,mid,pid⟩ m ⟨s,[],R.gk,false⟩ L) (fun(S:Am.St) Jo=> ?_) (fun Q hQ=> ?_)
  ·obtain⟨iE,yh,aec,hS⟩:=Jo;generalize S.3=H2 at hS⊢;have hm6:∀A1 A2 A3 A4 A5 A6:cw,dz B (A1::A2::A3::A4::A5::A6::L) m:=fun A1 A2 A3 A4 A5 A6=>(((((hm.bK _).bK _).bK _).bK _).bK _).bK _
   simp only[aec,AN];refine uS hS (hm6 _ _ _ _ _ _) hg (fun H3 h3=> ?_);have h3:eQ B H3 ⟨iE,yh,aK,fid,mid,pid⟩ m ⟨s,[],R.gk,false⟩ L:=h3;simp only[AN,hN];unfold uM at Ln;rw[hN,Int.toNat_natCast] at Ln
   cases tL:s.nc N with
   |none=>rw[tL] at Ln;cases Ln
   |some t=>
    rw[tL] at Ln;dsimp only at Ln;refine Gw ((hm.bK _).bK _) h3.fs hok hg (by omega) tL (fun q3 c3 H4 h4=> ?_);have h5:eQ B H4 ⟨iE,yh,aK,fid,mid,pid⟩ m ⟨s,[],R.gk,false⟩ (BY q3 c3 t.data::L):=h4.ord [5,5];have qJ:=(aA.LQ (h4.ord [4])).2.2.1;simp only[AN];by_cases hl:t.data.length=0
    ·rw[if_pos hl] at Ln;cases Ln;have e:¬((t.data.length:Nat):Int)>0:=by omega
     simp only[e,decide_false,ah]
     exact Ts ⟨iE,yh,aK,fid,mid,pid⟩ _ H4 rfl E7 h0 hok (by
      unfold uM;rw[hN,Int.toNat_natCast,tL];simp only;rw[if_pos hl]) (h5.ord [6]).drop
    ·rw[if_neg hl] at Ln;have e:((t.data.length:Nat):Int)>0:=by omega
     simp only[e,decide_true,ao]
     cases hd:EI t.data with
     |none=>rw[hd] at Ln;cases Ln
     |some d=>
      rw[hd] at Ln;cases Ln;refine MG h5 (fun H hs=>(hs.ord [6]).iJ) qJ (fun H6 h6=> ?_);have h6:eQ B H6 ⟨iE,yh,aK,fid,mid,pid⟩ m ⟨s,[],R.gk,false⟩ (BY q3 c3 t.data::L):=h6;have g6:=Cw h6;rw[hd];unfold Jc;simp only[AN,R.dv,R.dX];rw[F9 h6.arr];simp only[AN,R.dv,R.dX,SO,isSome_some,Nat.zero_add,g6.wr];have h7:=h6.store (off:=7) (vs:=(od d.1 (d.2:Int) s.a.boots).cs);have e2:bH (K8 ⟨iE,yh,aK,fid,mid,pid⟩ m ⟨s,[],R.gk,false⟩) 7 (od d.1 (d.2:Int) s.a.boots).cs=K8 ⟨iE,yh,aK,fid,mid,pid⟩ m ⟨s,[],od d.1 (d.2:Int) s.a.boots,false⟩:=rfl;rw[e2] at h7
      exact Ts ⟨iE,yh,aK,fid,mid,pid⟩ _ _ rfl E7 h0 hok (by
       unfold uM;rw[hN,Int.toNat_natCast,tL];simp only;rw[if_neg hl,hd]) (h7.ord [6]).drop
  ·simp only[KV,AN];have a1:=MD h1;refine⟨?_, ?_⟩
   all_goals
    have a2:=a1.alloc 93 (K8 ⟨0,H1.next,aK,fid,mid,pid⟩ m ⟨s,[],R.gk,false⟩);exact hQ _ ⟨_,H1.next,rfl,a2⟩
 ·simp only[h0,decide_false,Bool.not_false,ao,AJ,reduceIte];exact k2 pz H1 E7 h0 hok h1
end
theorem CB (k:Nat→Int):∀(n:Nat) (t:List UInt8) (i:Nat),i<n→((xL k n++t).drop (4*i)).take 4=le (k i).toNat 4
 |n+1,t,i,h=>by
  rw[xL,append_assoc];by_cases hi:i=n
  ·subst hi;rw[drop_left' (by rw[gm]),take_left' (by simp)]
  ·exact CB k n _ i (by omega)
theorem wH (r:R) (n:Nat):hI r n=xL r.k 8++(UInt8.ofNat r.ty.toNat::UInt8.ofNat (r.ho+1).toNat::(le r.ge.toNat 4++(UInt8.ofNat (if r.la=true then 1 else 0)::le n 4))):=by
 simp [hI,le]
theorem rM (r:R) (n j:Nat):(hI r n).getD (32+j) 0=(UInt8.ofNat r.ty.toNat::UInt8.ofNat (r.ho+1).toNat::(le r.ge.toNat 4++(UInt8.ofNat (if r.la=true then 1 else 0)::le n 4))).getD j 0:=by
 rw[wH,getD_eq_getElem?_getD,getD_eq_getElem?_getD,List.getElem?_append_right (by rw[gm];omega),gm];congr 2;omega
theorem CC (r:R) (n j:Nat):(hI r n).drop (32+j)=(UInt8.ofNat r.ty.toNat::UInt8.ofNat (r.ho+1).toNat::(le r.ge.toNat 4++(UInt8.ofNat (if r.la=true then 1 else 0)::le n 4))).drop j:=by
 rw[wH, ←drop_drop,drop_left' (by rw[gm])]
theorem Ax {n:Nat} (h:n<4294967296):dQ (le n 4)=n:=by
 rw[xU];exact Nat.mod_eq_of_lt (by simpa using h)
theorem G3 (bs:List UInt8) (i:Nat):(mf bs).k i=if i<8 then ((dQ ((bs.drop (4*i)).take 4):Nat):Int) else 0:=rfl
theorem ML (bs:List UInt8):(mf bs).ty=((bs.getD 32 0).toNat:Int):=rfl
theorem MM (bs:List UInt8):(mf bs).ho=((bs.getD 33 0).toNat:Int)-1:=rfl
theorem MN (bs:List UInt8):(mf bs).ge=((dQ ((bs.drop 34).take 4):Nat):Int):=rfl
theorem MO (bs:List UInt8):(mf bs).la=decide (((bs.getD 38 0).toNat:Int)=1):=rfl
theorem MP {r:R} (hr:r.ok) (h7:r.ho≤7) {n:Nat} (hn:n<2147483648):(mf (hI r n)).cs=r.cs∧oe (hI r n)=true∧dQ (((hI r n).drop 39).take 4)=n:=by
 have k1:=hr.ty;have k2:=hr.ho;have k3:=hr.ge;have g32:(hI r n).getD 32 0=UInt8.ofNat r.ty.toNat:=rM r n 0;have g33:(hI r n).getD 33 0=UInt8.ofNat (r.ho+1).toNat:=rM r n 1
 have g38:(hI r n).getD 38 0=UInt8.ofNat (if r.la=true then 1 else 0):=by
  have:=rM r n 6;rw[this];simp [le]
 have g42:(hI r n).getD 42 0=UInt8.ofNat (n / 256 / 256 / 256):=by
  have:=rM r n 10;rw[this];simp [le]
 have d34:((hI r n).drop 34).take 4=le r.ge.toNat 4:=by
  have:=CC r n 2;rw[this];simp [le]
 have d39:((hI r n).drop 39).take 4=le n 4:=by
  have:=CC r n 7;rw[this];simp [le]
 refine⟨?_, ?_, ?_⟩
 ·apply R.P4
  ·intro i hi;have hk:=hr.k i;rw[G3,if_pos hi,wH,CB _ _ _ _ hi,Ax (by omega)];omega
  ·rw[ML,g32];simp;omega
  ·rw[MM,g33];simp;omega
  ·rw[MN,d34,Ax (by omega)];omega
  ·rw[MO,g38];cases r.la<;>simp
 ·unfold oe;rw[g33,g38,g42,vq];have e1:(UInt8.ofNat (r.ho+1).toNat).toNat≤8:=by simp;omega
  have e2:(UInt8.ofNat (if r.la=true then 1 else 0)).toNat≤1:=by cases r.la<;>simp
  have e3:(UInt8.ofNat (n / 256 / 256 / 256)).toNat≤127:=by simp;omega
  rw[decide_eq_true e1,decide_eq_true e2,decide_eq_true e3];simp
 ·rw[d39,Ax (by omega)]
theorem SV {r s:R} (h:r.cs=s.cs):pk r=pk s:=by
 obtain⟨hk,h1,h2,h3,h4⟩:=(R.Ez r s).1 ((R.rJ r s).2 h)
 have hs:me r.k 8=me s.k 8:=by
  simp only[me];rw[hk 0 (by omega),hk 1 (by omega),hk 2 (by omega),hk 3 (by omega),hk 4 (by omega),hk 5 (by omega),hk 6 (by omega),hk 7 (by omega)]
 unfold pk Au;rw[h1,h2,hs];by_cases h8:s.ho≥8
 ·simp [h8]
 ·by_cases h0:s.ho≥0
  ·rw[hk s.ho.toNat (by omega)]
  ·by_cases h9:s.ho< -1
   ·simp [h9]
   ·have:s.ho= -1:=by omega
    rw[this];have:Int.toNat (-1)=0:=rfl;rw[this,hk 0 (by omega)]
theorem SW {r:R} (hr:r.ok) (hf:pk r=true) {n:Nat} (hn:n<2147483648):∃s,EI (hI r n)=some (s,n)∧s.cs=r.cs:=by
 have h7:r.ho≤7:=by
  unfold pk at hf;simp at hf;omega
 obtain⟨h1,h2,h3⟩:=MP hr h7 hn;refine⟨mf (hI r n), ?_,h1⟩;unfold EI;rw[if_pos ⟨h2,by rw[SV h1];exact hf⟩,h3]
structure dA (r:R):Prop where
 k:∀i,0≤r.k i∧r.k i≤4294967295
 nz:∀i,8≤i→r.k i=0
 tN:AQ r
 ge:0≤r.ge∧r.ge≤4294967295
theorem dA.gk:dA R.gk:=⟨fun _=>by show (0:Int)≤0∧(0:Int)≤_;omega,fun _ _=>rfl,WM,by show (0:Int)≤0∧(0:Int)≤_;omega⟩
theorem dA.Ue {r:R} (h:dA r): -1≤r.ho∧r.ho≤7:=by
 by_cases h0:r.ty=0
 ·rw[h.tN.none h0];omega
 ·by_cases h8:nf r.ty=true
  ·rw[h.tN.all h8];omega
  ·obtain⟨i,hi,e,_⟩:=h.tN.one h0 (by simpa using h8);omega
theorem dA.ok {r:R} (h:dA r):r.ok where
 k:=h.k
 ty:=by
  rcases h.tN.ty with e|e
  ·omega
  ·have:=rK.1 e;omega
 ho:=by have:=h.Ue;omega
 ge:=h.ge
theorem dA.df {r:R} (h:dA r):pk r=true:=by
 have hho:=h.Ue;unfold pk;have e1:decide (r.ho< -1)=false:=decide_eq_false (by omega);have e2:decide (r.ho≥8)=false:=decide_eq_false (by omega);rw[e1,e2];simp only[Bool.not_false,Bool.true_and];by_cases h0:r.ty=0
 ·have hone:Au r=false:=by simp [Au,h0]
  have e3:decide (r.ho≥0)=false:=by rw[h.tN.none h0];decide
  rw[hone,e3];simp [h0]
 ·have hr:right r.ty=true:=h.tN.ty.resolve_left h0;have X8:me r.k 8=true:=Cq.2 (h.tN.some h0);by_cases h8:nf r.ty=true
  ·have hone:Au r=false:=by simp [Au,h8]
   have e3:decide (r.ho≥0)=false:=by rw[h.tN.all h8];decide
   rw[hone,e3,hr,X8];simp
  ·have X7:nf r.ty=false:=by simpa using h8
   have hone:Au r=true:=by simp [Au,h0,X7]
   obtain⟨i,hi,e,hk⟩:=h.tN.one h0 X7;have e3:decide (r.ho≥0)=true:=by rw[e];simp
   have e4:r.ho.toNat=i:=by omega
   rw[hone,e3,hr,X8,e4];simp [hk]
theorem dA.ext {r s:R} (h:dA r) (hs:∀i,8≤i→s.k i=0) (e:s.cs=r.cs):s=r:=by
 obtain⟨hk,h1,h2,h3,h4⟩:=(R.Ez s r).1 ((R.rJ s r).2 e);cases r;cases s;simp only at h1 h2 h3 h4 hk hs;have:∀i,_:=fun i=>hk i
 congr;funext i;by_cases hi:i<8
 ·exact hk i hi
 ·rw[hs i (by omega)];exact(h.nz i (by omega)).symm
theorem dA.adJ {r:R} (h:dA r) {n:Nat} (hn:n<2147483648):EI (hI r n)=some (r,n):=by
 obtain⟨s,h1,h2⟩:=SW h.ok h.df hn
 have hs:∀i,8≤i→s.k i=0:=by
  unfold EI at h1;split at h1
  ·have h1:=congrArg Prod.fst (Option.some.inj h1);simp only at h1;intro i hi;rw[←h1];rw[G3,if_neg (by omega)]
  ·cases h1
 rw[h1,h.ext hs h2]
theorem dA.aba {r:R} (h:dA r) (was now:Int):dA (od r was now):=by
 unfold od;split
 ·exact h
 split
 ·exact dA.gk
 ·exact⟨h.k,h.nz,⟨h.tN.ty,h.tN.none,h.tN.all,h.tN.one,h.tN.some⟩,by show (0:Int)≤0∧(0:Int)≤_;omega⟩
theorem vu (x:Int):0≤IntKind.u32.wrap x∧IntKind.u32.wrap x≤4294967295:=by
 rw[IntKind.wrap_u32];omega
theorem dA.leave {r:R} (k:∀i,0≤r.k i∧r.k i≤4294967295) (nz:∀i,8≤i→r.k i=0) (ge:0≤r.ge∧r.ge≤4294967295) (h:Int):(∀i,0≤(jg r h).k i∧(jg r h).k i≤4294967295)∧(∀i,8≤i→(jg r h).k i=0)∧(0≤(jg r h).ge∧(jg r h).ge≤4294967295):=by
 have e:(jg r h).k=cF r.k h.toNat 0∧(jg r h).ge=r.ge:=by
  unfold jg;simp only[];split<;>exact⟨rfl,rfl⟩
 rw[e.1,e.2];refine⟨fun i=> ?_,fun i hi=> ?_,ge⟩
 ·unfold cF;split
  ·omega
  ·exact k i
 ·unfold cF;split
  ·rfl
  ·exact nz i hi
theorem dA.doR {r:R} (hr:dA r) (h:Int) (c:Cm) (hn:0≤c.nw∧c.nw≤4294967295):dA (doR r h c).1:=by
 have hi:=Qb hr.tN h c
 have key:(∀i,0≤(Go.Proofs.YtlgdkndamddpkaaGreat.doR r h c).1.k i∧(Go.Proofs.YtlgdkndamddpkaaGreat.doR r h c).1.k i≤4294967295)∧(∀i,8≤i→(Go.Proofs.YtlgdkndamddpkaaGreat.doR r h c).1.k i=0)∧(0≤(Go.Proofs.YtlgdkndamddpkaaGreat.doR r h c).1.ge∧(Go.Proofs.YtlgdkndamddpkaaGreat.doR r h c).1.ge≤4294967295):=by
  have self:(∀i,0≤r.k i∧r.k i≤4294967295)∧(∀i,8≤i→r.k i=0)∧(0≤r.ge∧r.ge≤4294967295):=⟨hr.k,hr.nz,hr.ge⟩;unfold Go.Proofs.YtlgdkndamddpkaaGreat.doR;split
  ·exact self
  rename_i hv;simp only[Bool.or_eq_true,decide_eq_true_eq,not_or] at hv;split
  ·exact self
  split
  ·exact self
  split
  ·unfold jM;simp only[];split
   ·exact dA.leave (r:=⟨r.k,r.ty,r.ho,IntKind.u32.wrap (r.ge+1),c.la⟩) hr.k hr.nz (vu _) h
   ·refine⟨fun i=> ?_,fun i hi=> ?_,vu _⟩
    ·show 0≤cF r.k h.toNat c.nw i∧cF r.k h.toNat c.nw i≤4294967295
     unfold cF;split
     ·exact hn
     ·exact hr.k i
    ·show cF r.k h.toNat c.nw i=0
     rw[IZ (by omega)];exact hr.nz i hi
  split
  ·split
   ·exact self
   split
   ·exact self
   ·exact self
  split
  ·split
   ·exact self
   split
   ·exact self
   ·exact self
  split
  ·exact⟨fun _=>by show (0:Int)≤0∧(0:Int)≤_;omega,fun _ _=>rfl,vu _⟩
  ·have hkv:(∀i,0≤kV r h c.nw 8 i∧kV r h c.nw 8 i≤4294967295)∧(∀i,8≤i→kV r h c.nw 8 i=0):=by
    refine⟨fun i=> ?_,fun i hi=> ?_⟩
    ·rw[vm];split
     ·omega
     ·exact hr.k i
    ·rw[vm];split
     ·rfl
     ·exact hr.nz i hi
   unfold jh;simp only[];split
   ·exact self
   split
   ·exact self
   split
   ·exact⟨hkv.1,hkv.2,vu _⟩
   ·exact⟨hkv.1,hkv.2,vu _⟩
 exact⟨key.1,key.2.1,hi,key.2.2⟩
def CW:Nat:=8000200
theorem Uf:KF*(KF*KF+1)=CW:=by decide
def vv (su:List (List UInt8)) (t:List UInt8):Nat→List UInt8:=fun i=>if i<su.length then su.getD i [] else if i=su.length then t else []
theorem SX {su:List (List UInt8)} {t:List UInt8} {i:Nat} (hi:i<su.length) (d:List UInt8):oQ (vv su t) i d=vv (su.set i d) t:=by
 funext j;unfold oQ vv;rw[length_set];by_cases hj:j=i
 ·subst hj;rw[if_pos rfl,if_pos hi,getD_eq_getElem?_getD,List.getElem?_set];simp [hi]
 ·rw[if_neg hj];by_cases hl:j<su.length
  ·rw[if_pos hl,if_pos hl,getD_eq_getElem?_getD,getD_eq_getElem?_getD,List.getElem?_set,if_neg (fun e=>hj e.symm)]
  ·rw[if_neg hl,if_neg hl]
theorem SY {su:List (List UInt8)} {t:List UInt8} (d:List UInt8):oQ (vv su t) su.length d=vv su d:=by
 funext j;unfold oQ vv;by_cases hj:j=su.length
 ·subst hj;simp
 ·simp [hj]
theorem Qp {su:List (List UInt8)} {t:List UInt8} {i:Nat} (hi:i<su.length):vv su t i=su.getD i []:=if_pos hi
theorem SZ (su:List (List UInt8)) (t:List UInt8):vv su t su.length=t:=by unfold vv;simp
def wI (t:List UInt8) (b:Nat) (r:R):Prop:=(t=[]∧r=R.gk)∨∃r0 b0,t=hI r0 b0∧dA r0∧b0≤b∧r=od r0 b0 b
theorem wI.MQ {t:List UInt8} {b:Nat} {r:R} (h:wI t b r):dA r:=by
 rcases h with⟨_,e⟩|⟨r0,b0,_,h,_,e⟩
 ·rw[e];exact dA.gk
 ·rw[e];exact h.aba _ _
theorem wI.S3 {t:List UInt8} {b:Nat} {r:R} (h:wI t b r):wI t (b+1) (kC r true):=by
 rcases h with⟨h1,e⟩|⟨r0,b0,h1,h2,h3,e⟩
 ·exact .inl ⟨h1,by rw[e];rfl⟩
 ·refine .inr ⟨r0,b0,h1,h2,by omega, ?_⟩;have hne:¬(b0:Int)=((b+1:Nat):Int):=by omega
  rw[e];unfold od kC;rw[if_neg hne];by_cases hb:(b0:Int)=(b:Int)
  ·rw[if_pos hb];cases hl:r0.la<;>simp [R.gk]
  ·rw[if_neg hb];cases hl:r0.la<;>simp [R.gk]
theorem wI.enc {r:R} (h:dA r) (b:Nat):wI (hI r b) b r:=.inr ⟨r,b,rfl,h,Nat.le_refl _,by unfold od;rw[if_pos rfl]⟩
section
variable {g:cy} {s:FS} {su:List (List UInt8)} {t:List UInt8} {ds:List Nat} {N:Nat}
structure MR (su:List (List UInt8)) (p:Pg):Prop where
 lo:0≤p.au
 hi:p.au<su.length
 dl:p.data.length≤64
 cB:p.cB=true→p.data=[]
theorem Ay (hg:g.In) (hform:g.df=true) (hc:g.cap<65000) {c:Nat→List UInt8} (h:Rn g s c ds N none) {x:Sh} (hx:z7 g x) (hx0:x.fr=0) (hN:N+CW<281474976710656):∃r,vb g KF KF s x=some r∧Kp s r.1 CW∧((r.2=0∧Rn g r.1 (oQ c x.au x.data) ds (N+CW) none)∨(r.2=10∧Rn g r.1 c ds (N+CW) none∧g.aI<r.1.f.po.count 3)∨(r.2=9∧kv g r.1.a c (oQ c x.au x.data) ds (N+CW))):=by
 have h2:=h.mono (N':=N+CW) (by omega);have Lm:=cy.kN g hg.b.2;have hsn:=h.sn;obtain⟨s1,e,h3,h4⟩:=Rn.aa5 hg hform hc hN (k:=KF) (by decide) hx hx0 KF s h2 (by rw[Uf];omega) (by show _<200;omega);have kp:=(bo.aa4 hg hc hx.dl KF s h.ok h3).2;rw[Uf] at kp;exact⟨(s1,e),h3,kp,h4⟩
theorem Qq {a:Nat} {d:List UInt8} (ha:(a:Int)≤g.cap) (hd:d.length≤64):z7 g (T5 a d):=⟨.inl rfl,ha,Nat.zero_le _,hd,.inl rfl⟩
theorem WU {a:Nat} (ha:(a:Int)≤g.cap):z7 g (shT a):=⟨.inr rfl,ha,Nat.zero_le _,Nat.zero_le _,.inr rfl⟩
theorem Lb (hg:g.In) (hform:g.df=true) (hc:g.cap<65000) (h:Rn g s (vv su t) ds N none) (hl:(su.length:Int)=g.cap) {p:Pg} (hp:MR su p) (hN:N+CW<281474976710656):∃r,GX g s p=some r∧Kp s r.1 CW∧((r.2=0∧Rn g r.1 (vv (su.set p.au.toNat p.data) t) ds (N+CW) none)∨(r.2=10∧Rn g r.1 (vv su t) ds (N+CW) none∧g.aI<r.1.f.po.count 3)∨(r.2=9∧kv g r.1.a (vv su t) (vv (su.set p.au.toNat p.data) t) ds (N+CW))):=by
 have hlo:=hp.lo;have hhi:=hp.hi;have ha:p.au.toNat<su.length:=by omega
 rw[←SX ha];unfold GX;by_cases hh:p.cB=true
 ·rw[if_pos hh];have hd:=hp.cB hh;unfold KC;by_cases hs:(s.f.pm.cx.getD p.au.toNat none).isSome=true
  ·rw[if_pos hs];have:=Ay hg hform hc h (WU (a:=p.au.toNat) (by omega)) rfl hN;rw[hd];exact this
  ·rw[if_neg hs]
   have hn:s.f.pm.at p.au.toNat=none:=by
    have:¬(s.f.pm.at p.au.toNat).isSome=true:=hs;simpa using this
   obtain⟨t',ht1,ht2,_⟩:=h.nc p.au.toNat
   have tL:s.nc p.au.toNat=some ⟨2,0,0,p.au.toNat,0,[]⟩:=by
    unfold FS.nc;rw[show s.f.pm.cx.getD p.au.toNat none=none from hn]
   rw[tL] at ht1;cases ht1;refine⟨_,rfl,Kp.rfl s CW,.inl ⟨rfl, ?_⟩⟩
   have e:oQ (vv su t) p.au.toNat p.data=vv su t:=by
    funext j;unfold oQ;split
    ·rename_i e;rw[e, ←ht2,hd]
    ·rfl
   rw[e];exact h.mono (by omega)
 ·rw[if_neg hh];exact Ay hg hform hc h (Qq (a:=p.au.toNat) (by omega) hp.dl) rfl hN
theorem rN (hg:g.In) (hform:g.df=true) (hc:g.cap<65000):∀(l:List Pg) (s:FS) (su:List (List UInt8)) (N:Nat),Rn g s (vv su t) ds N none→(su.length:Int)=g.cap→ee l→(∀p∈l,MR su p)→N+l.length*CW<281474976710656→∃r,hT g l s l=some r∧Kp s r.1 (l.length*CW)∧((r.2.2=0∧r.2.1=[]∧Rn g r.1 (vv (dJ su l) t) ds (N+l.length*CW) none)∨(r.2.2=10∧g.aI<r.1.f.po.count 3∧∃j,j≤l.length∧r.2.1=l.drop j∧Rn g r.1 (vv (dJ su (l.take j)) t) ds (N+l.length*CW) none)∨(r.2.2=9∧∃j,j<l.length∧kv g r.1.a (vv (dJ su (l.take j)) t) (vv (dJ su (l.take (j+1))) t) ds (N+l.length*CW)))
 |[],s,su,N,h,hl,hs,hp,hN=>⟨(s,[],0),rfl,Kp.rfl s _,.inl ⟨rfl,rfl,h.mono (by omega)⟩⟩
 |p::l,s,su,N,h,hl,hs,hp,hN=>by
  rw[length_cons,Nat.succ_mul] at hN;obtain⟨r,h1,h2,h3⟩:=Lb hg hform hc h hl (hp p mem_cons_self) (by omega);rw[hT,h1];simp only[length_cons,Nat.succ_mul];rcases h3 with⟨e,h3⟩|⟨e,h3,h4⟩|⟨e,h3⟩
  ·rw[if_pos e,Co hs]
   have hp2:∀q∈l,MR (su.set p.au.toNat p.data) q:=fun q hq=>by
    have:=hp q (mem_cons_of_mem _ hq);exact⟨this.lo,by rw[length_set];exact this.hi,this.dl,this.cB⟩
   obtain⟨r',k1,k2,k3⟩:=rN hg hform hc l r.1 (su.set p.au.toNat p.data) (N+CW) h3 (by rw[length_set];exact hl) (Cn hs) hp2 (by omega);refine⟨r',k1,(h2.trans k2).mono (by omega), ?_⟩;rw[show N+CW+l.length*CW=N+(l.length*CW+CW) from by omega] at k3;rcases k3 with⟨e1,e2,e3⟩|⟨e1,e2,j,e3,e4,e5⟩|⟨e1,j,e2,e3⟩
   ·exact .inl ⟨e1,e2,e3⟩
   ·exact .inr (.inl ⟨e1,e2,j+1,by omega,e4,e5⟩)
   ·exact .inr (.inr ⟨e1,j+1,by omega,e3⟩)
  ·rw[if_neg (by omega)];refine⟨_,rfl,h2.mono (by omega),.inr (.inl ⟨e,h4,0,Nat.zero_le _,rfl,h3.mono (by omega)⟩)⟩
  ·rw[if_neg (by omega)];refine⟨_,rfl,h2.mono (by omega),.inr (.inr ⟨e,0,by omega,h3.mono (by omega)⟩)⟩
end
def cq (o:Ob) (j:Nat):Ob:=⟨dJ o.su (o.ps.take j),o.ps.drop j,o.r⟩
structure Ug (g:cy) (u:Un) (o:Ob) (ds:List Nat) (N b:Nat):Prop where
 t:∃t,Rn g u.s (vv o.su t) ds N none∧wI t b o.r
 boots:u.s.a.boots=(b:Int)
 ps:u.ps=o.ps
 r:u.r=o.r
 dn:u.down=false
 ook:o.ok
 len:(o.su.length:Int)=g.cap
 cB:∀p∈o.ps,p.cB=true→p.data=[]
structure oY (g:cy) (a:Ar) (o o':Ob) (ds:List Nat) (N b:Nat):Prop where
 off:a.off=true
 way:pe a
 boots:a.boots=(b:Int)
 cx:∀cut:Int,∃q,(q=o∨q=o')∧∃i,i≤8∧∃t,Cr g (bZ a cut) (vv (dJ q.su (q.ps.take i)) t) ds N∧wI t b q.r
section
variable {g:cy} {u:Un} {o:Ob} {ds:List Nat} {N b:Nat}
theorem Ug.pg (h:Ug g u o ds N b):∀p∈o.ps,MR o.su p:=fun p hp=>⟨(h.ook.sort.lo p hp).1,h.ook.inr p hp,h.ook.sort.dl p hp,h.cB p hp⟩
theorem Ug.ok (h:Ug g u o ds N b):Qn g u:=by
 obtain⟨t,h1,_⟩:=h.t;refine⟨h1.ok,by rw[h.ps];exact h.ook.sort,by rw[h.ps];exact h.ook.le8,fun p hp=> ?_⟩;rw[h.ps] at hp;have:=h.pg p hp;have hl:=h.len;have hi:=this.hi;exact⟨this.lo,by omega,this.dl⟩
theorem yi (h:o.ok) (j:Nat):(cq o j).ok where
 n1:=by show 1≤(dJ o.su (o.ps.take j)).length;rw[cR];exact h.n1
 n2:=by show (dJ o.su (o.ps.take j)).length≤_;rw[cR];exact h.n2
 dl:=wD _ _ h.dl (fun p hp=>h.sort.dl p (mem_of_mem_take hp))
 sort:=⟨h.sort.up.sublist (drop_sublist _ _),fun p hp=>h.sort.lo p (mem_of_mem_drop hp),fun p hp=>h.sort.dl p (mem_of_mem_drop hp)⟩
 le8:=by show (o.ps.drop j).length≤8;rw[length_drop];have:=h.le8;omega
 inr:=fun p hp=>by
  show p.au<(((dJ o.su (o.ps.take j)).length:Nat):Int)
  rw[cR];exact h.inr p (mem_of_mem_drop hp)
 tN:=h.tN
theorem Ug.step (h:Ug g u o ds N b) {s:FS} {j:Nat} {N':Nat} {t:List UInt8} (ht:wI t b o.r) (hr:Rn g s (vv (dJ o.su (o.ps.take j)) t) ds N' none) (hb:s.a.boots=u.s.a.boots):Ug g {u with s:=s,ps:=o.ps.drop j} (cq o j) ds N' b where
 t:=⟨t,hr,ht⟩
 boots:=hb.trans h.boots
 ps:=rfl
 r:=h.r
 dn:=h.dn
 ook:=yi h.ook j
 len:=by show (((dJ o.su (o.ps.take j)).length:Nat):Int)=_;rw[cR];exact h.len
 cB:=fun p hp=>h.cB p (mem_of_mem_drop hp)
theorem S4 (hg:g.In) (hform:g.df=true) (hc:g.cap<65000) (h:Ug g u o ds N b) {p:Pg} (hp:MR o.su p) (sure:Bool) (hN:N+9*CW<281474976710656):∃r,EJ g u.s u.ps p sure=some r∧Kp u.s r.1 (9*CW)∧((r.2.2=0∧Ug g {u with s:=r.1,ps:=r.2.1} (nN o p sure) ds (N+9*CW) b)∨(r.2.2=10∧g.aI<r.1.f.po.count 3∧∃j,j≤o.ps.length∧Ug g {u with s:=r.1,ps:=r.2.1} (cq o j) ds (N+9*CW) b)∨(r.2.2=9∧oY g r.1.a o (nN o p sure) ds (N+9*CW) b)):=by
 obtain⟨t,ht,htb⟩:=h.t;have hlen:=h.len;have hlo:=hp.lo;have hhi:=hp.hi;have hn2:=h.ook.n2;have hle:=h.ook.le8;have ha:p.au.toNat<o.su.length:=by omega
 have hok:=I8 h.ook hlo hhi hp.dl sure;unfold EJ;rw[h.ps];by_cases hs:sure=true
 ·subst hs;rw[if_pos rfl];obtain⟨r,h1,h2,h3⟩:=Lb hg hform hc ht hlen hp (by omega);rw[h1];simp only;have e:nN o p true=⟨o.su.set p.au.toNat p.data,fG o.ps p.au,o.r⟩:=rfl;rcases h3 with⟨e1,h3⟩|⟨e1,h3,h4⟩|⟨e1,h3⟩
  ·rw[if_pos e1];refine⟨_,rfl,h2.mono (by omega),.inl ⟨rfl, ?_⟩⟩
   exact {
    t:=⟨t,h3.mono (by omega),htb⟩,boots:=h2.boots.trans h.boots,ps:=rfl,r:=h.r,dn:=h.dn,ook:=hok
    len:=by rw[e];show (((o.su.set p.au.toNat p.data).length:Nat):Int)=_;rw[length_set];exact hlen
    cB:=fun q hq=>h.cB q (GQ hq)}
  ·rw[if_neg (by omega)];refine⟨_,rfl,h2.mono (by omega),.inr (.inl ⟨e1,h4,0,Nat.zero_le _, ?_⟩)⟩;exact h.step (j:=0) htb (h3.mono (by omega)) h2.boots
  ·rw[if_neg (by omega)];refine⟨_,rfl,h2.mono (by omega),.inr (.inr ⟨e1,h3.off,h3.way,h2.boots.trans h.boots,fun cut=> ?_⟩)⟩;rcases h3.cx cut with h4|h4
   ·exact⟨o,.inl rfl,0,by omega,t,h4.mono (by omega),htb⟩
   ·exact⟨_,.inr rfl,0,by omega,t,h4.mono (by omega),htb⟩
 ·have hs':sure=false:=by simpa using hs
  subst hs';rw[if_neg (by simp)];have tO:nN o p false=if (hH o.ps p).2=11 then ⟨dJ o.su o.ps,(hH [] p).1,o.r⟩ else ⟨o.su,(hH o.ps p).1,o.r⟩:=rfl
  have hput:∀(ps:List Pg),ee ps→(∀q∈ps,q.cB=true→q.data=[])→∀q∈(hH ps p).1,q.cB=true→q.data=[]:=fun ps hss hh q hq hqh=>by
   rcases EF hss hq with hq|rfl
   ·exact hh q hq hqh
   ·have hqh:p.cB=true:=hqh;show (if p.cB=true then [] else p.data)=[]
    rw[if_pos hqh]
  by_cases CR:(hH o.ps p).2=11
  ·rw[if_neg (fun e=>e CR)];rw[if_pos CR] at tO;have h8:o.ps.length*CW≤8*CW:=Nat.mul_le_mul_right _ hle;obtain⟨r,h1,h2,h3⟩:=rN hg hform hc o.ps u.s o.su N ht hlen h.ook.sort h.pg (by omega);rw[h1];simp only;rcases h3 with⟨e1,e2,h3⟩|⟨e1,h4,j,hj,e2,h3⟩|⟨e1,j,hj,h3⟩
   ·rw[if_pos e1,e2]
    have h0:(hH [] p).2=0:=by
     rw[EE (by simp) hlo (by omega) hp.dl];simp
    refine⟨_,rfl,h2.mono (by omega),.inl ⟨h0, ?_⟩⟩;rw[tO] at hok⊢
    exact {
     t:=⟨t,h3.mono (by omega),htb⟩,boots:=h2.boots.trans h.boots,ps:=rfl,r:=h.r,dn:=h.dn,ook:=hok
     len:=by show (((dJ o.su o.ps).length:Nat):Int)=_;rw[cR];exact hlen
     cB:=hput [] oV (fun q hq=>by cases hq)}
   ·rw[if_neg (by omega)];refine⟨_,rfl,h2.mono (by omega),.inr (.inl ⟨e1,h4,j,hj, ?_⟩)⟩;rw[e2];exact h.step htb (h3.mono (by omega)) h2.boots
   ·rw[if_neg (by omega)];refine⟨_,rfl,h2.mono (by omega),.inr (.inr ⟨e1,h3.off,h3.way,h2.boots.trans h.boots,fun cut=> ?_⟩)⟩;rcases h3.cx cut with h4|h4
    ·exact⟨o,.inl rfl,j,by omega,t,h4.mono (by omega),htb⟩
    ·exact⟨o,.inl rfl,j+1,by omega,t,h4.mono (by omega),htb⟩
  ·rw[if_pos CR];rw[if_neg CR] at tO;refine⟨_,rfl,Kp.rfl u.s _,.inl ⟨rfl, ?_⟩⟩;rw[tO] at hok⊢
   exact {
    t:=⟨t,ht.mono (by omega),htb⟩,boots:=h.boots,ps:=rfl,r:=h.r,dn:=h.dn,ook:=hok,len:=hlen
    cB:=hput o.ps h.ook.sort h.cB}
end
theorem MU (r:R) (h:Int) (c:Cm) (P:R×Int→Prop) (h0:∀s,P (s,0)) (h1:P (r,1)) (Q7:P (r,13)):P (doR r h c):=by
 unfold doR;split
 ·exact h1
 split
 ·exact h1
 split
 ·exact Q7
 split
 ·exact h0 _
 split
 ·split
  ·exact Q7
  split
  ·exact h0 _
  ·exact h0 _
 split
 ·split
  ·exact h0 _
  split
  ·exact h1
  ·exact h0 _
 split
 ·exact h0 _
 unfold jh;simp only[];split
 ·exact h1
 split
 ·exact Q7
 split
 ·exact h0 _
 ·exact h0 _
theorem S5 (r:R) (h:Int) (c:Cm):((doR r h c).2=0∨(doR r h c).2=1∨(doR r h c).2=13)∧((doR r h c).2≠0→(doR r h c).1=r):=
 MU r h c (fun x=>(x.2=0∨x.2=1∨x.2=13)∧(x.2≠0→x.1=r)) (fun s=>⟨.inl rfl,fun h=>absurd rfl h⟩) ⟨.inr (.inl rfl),fun _=>rfl⟩ ⟨.inr (.inr rfl),fun _=>rfl⟩
section
variable {g:cy} {u:Un} {o:Ob} {ds:List Nat} {N b:Nat}
def Uh (g:cy) (u:Un) (o o':Ob) (a:Rs) (ch:Bool) (ds:List Nat) (N b:Nat) (r:Un×Rs×Int):Prop:=
 (r.2.2=0∧r.2.1=a∧Ug g r.1 o' ds N b)∨
 (r.2.2=0∧r.2.1=⟨10,[],R.zero⟩∧a.e=0∧ch=true∧g.aI<r.1.s.f.po.count 3∧∃j,j≤o.ps.length∧Ug g r.1 (cq o j) ds N b)∨
 (r.2.2=9∧oY g r.1.s.a o o' ds N b)
theorem EK (h:Ug g u o ds N b):jw u=(u,0):=by
 obtain⟨t,ht,_⟩:=h.t;unfold jw;have h1:=ht.on;have h2:=ht.aR;rw[if_neg (by simp [h1]),if_neg (by rw[h.dn];simp;omega)]
theorem Qr (hg:g.In) (hform:g.df=true) (hc:g.cap<65000) (h:Ug g u o ds N b) (hh:Int) (c:Cm) (bV:List UInt8) (hd:c.dn=bV.length) (X9:0≤c.nw∧c.nw≤4294967295) (hN:N+9*CW<281474976710656):∃r,Ud g u hh c bV=some r∧Kp u.s r.1.s (9*CW)∧Uh g u o (ss o hh c bV).1 (ss o hh c bV).2 (!decide (c.kd=0)&& !decide (c.kd=9)) ds (N+9*CW) b r:=by
 obtain⟨s,ps,r,dn⟩:=u;have hr:=h.r;have hps:=h.ps;simp only at hr hps;subst hr hps;obtain⟨t,ht,htb⟩:=h.t;have hlen:=h.len;have hcap:g.cap.toNat=o.su.length:=by omega
 have hmono:Ug g ⟨s,o.ps,o.r,dn⟩ o ds (N+9*CW) b:={h with t:=⟨t,ht.mono (by omega),htb⟩};have CS:=htb.MQ;unfold Ud;rw[EK h];simp only[ne_eq,not_true_eq_false,if_false]
 have plain:∀(a:Rs),a.e=0∨a.e=1∨a.e=13→(∃r,(if a.e=7∨a.e=9 then some ((⟨s,o.ps,o.r,true⟩:Un),(⟨0,[],R.zero⟩:Rs),a.e) else some ((⟨s,o.ps,o.r,dn⟩:Un),a,0))=some r∧Kp s r.1.s (9*CW)∧r=((⟨s,o.ps,o.r,dn⟩:Un),a,0)):=fun a ha=>by
  rw[if_neg (by omega)];exact⟨_,rfl,Kp.rfl _ _,rfl⟩
 unfold MJ ss;rw[hcap];by_cases hv:kD hh c o.su.length=false
 ·rw[if_pos hv,if_pos hv];exact⟨((⟨s,o.ps,o.r,dn⟩:Un),⟨1,[],R.zero⟩,0),rfl,Kp.rfl _ _,.inl ⟨rfl,rfl,hmono⟩⟩
 rw[if_neg hv,if_neg hv];by_cases hm:HA o.r hh c=false
 ·rw[if_pos hm,if_pos hm];exact⟨((⟨s,o.ps,o.r,dn⟩:Un),⟨13,[],R.zero⟩,0),rfl,Kp.rfl _ _,.inl ⟨rfl,rfl,hmono⟩⟩
 rw[if_neg hm,if_neg hm];have M6:kD hh c o.su.length=true:=by simpa using hv
 unfold kD at M6;simp only[Bool.and_eq_true,Bool.or_eq_true,Bool.not_eq_true',Bool.or_eq_false_iff,decide_eq_true_eq,decide_eq_false_iff_not] at M6;obtain⟨⟨⟨⟨v1,v2⟩,v3⟩,v4⟩,v5⟩:=M6;by_cases k0:c.kd=0
 ·rw[if_pos k0,if_pos k0];have xQ:=v4.resolve_left (fun e=>e.1.1 k0);have Hv:kz o c.kP=(pB o.ps c.kP).getD (o.su.getD c.kP.toNat []):=if_pos xQ;by_cases hp:fO o.ps c.kP=true
  ·rw[if_pos hp];refine⟨((⟨s,o.ps,o.r,dn⟩:Un),⟨0,(pB o.ps c.kP).getD [],R.zero⟩,0),rfl,Kp.rfl _ _,.inl ⟨rfl, ?_,hmono⟩⟩;simp only;rw[Hv]
   cases hgp:pB o.ps c.kP with
   |none=>rw[rL.1 hgp] at hp;cases hp
   |some d=>rfl
  ·rw[if_neg hp];obtain⟨t',h1,h2,_⟩:=ht.nc c.kP.toNat;rw[h1];refine⟨((⟨s,o.ps,o.r,dn⟩:Un),⟨0,t'.data,R.zero⟩,0),rfl,Kp.rfl _ _,.inl ⟨rfl, ?_,hmono⟩⟩;simp only;rw[Hv,rL.2 (by simpa using hp),h2,Qp (by omega)];rfl
 rw[if_neg k0,if_neg k0]
 have put:∀(p:Pg),MR o.su p→c.kd≠9→∃r,(match (match EJ g s o.ps p c.su with
  |none=>none
  |some r=>some ((⟨r.1,r.2.1,o.r,dn⟩:Un),(⟨0,[],R.zero⟩:Rs),r.2.2)) with
  |none=>none
  |some r=>if r.2.2=7∨r.2.2=9 then some ({r.1 with down:=true},(⟨0,[],R.zero⟩:Rs),r.2.2) else some (r.1,{r.2.1 with e:=r.2.2},0))=some r∧Kp s r.1.s (9*CW)∧
  Uh g ⟨s,o.ps,o.r,dn⟩ o (nN o p c.su) ⟨0,[],R.zero⟩ (!decide (c.kd=0)&& !decide (c.kd=9)) ds (N+9*CW) b r:=fun p hp h9=>by
  obtain⟨r,h1,h2,h3⟩:=S4 hg hform hc h hp c.su hN;rw[h1];simp only;rcases h3 with⟨e,h3⟩|⟨e,h3,h4⟩|⟨e,h3⟩
  ·rw[if_neg (by omega),e];exact⟨_,rfl,h2,.inl ⟨rfl,rfl,h3⟩⟩
  ·rw[if_neg (by omega),e];exact⟨_,rfl,h2,.inr (.inl ⟨rfl,rfl,rfl,by simp [k0,h9],h3,h4⟩)⟩
  ·rw[if_pos (.inr e)];exact⟨_,rfl,h2,.inr (.inr ⟨e,h3⟩)⟩
 by_cases k1:c.kd=1
 ·rw[if_pos k1,if_pos k1];have xQ:=v4.resolve_left (fun e=>e.1.2 k1);have hdn:c.dn≤64:=v5.resolve_left (fun e=>e k1);exact put ⟨c.kP,bV,false⟩ ⟨xQ.1,xQ.2,by show bV.length≤64;omega,fun e=>by cases e⟩ (by omega)
 rw[if_neg k1,if_neg k1];by_cases k2:c.kd=2
 ·rw[if_pos k2,if_pos k2];have xQ:=v4.resolve_left (fun e=>e.2 k2);exact put ⟨c.kP,[],true⟩ ⟨xQ.1,xQ.2,Nat.zero_le _,fun _=>rfl⟩ (by omega)
 rw[if_neg k2,if_neg k2];by_cases k3:c.kd=3
 ·rw[if_pos k3,if_pos k3];have hle:=h.ook.le8;have h8:o.ps.length*CW≤8*CW:=Nat.mul_le_mul_right _ hle;obtain⟨r,h1,h2,h3⟩:=rN hg hform hc o.ps s o.su N ht hlen h.ook.sort h.pg (by omega);rw[h1];simp only;rcases h3 with⟨e1,e2,h3⟩|⟨e1,h4,j,hj,e2,h3⟩|⟨e1,j,hj,h3⟩
  ·rw[if_neg (by omega),e1,e2];refine⟨_,rfl,h2.mono (by omega),.inl ⟨rfl,rfl, ?_⟩⟩
   exact {
    t:=⟨t,h3.mono (by omega),htb⟩,boots:=h2.boots.trans h.boots,ps:=rfl,r:=h.r,dn:=h.dn,ook:=n9 h.ook
    len:=by show (((dJ o.su o.ps).length:Nat):Int)=_;rw[cR];exact hlen
    cB:=fun q hq=>by cases hq}
  ·rw[if_neg (by omega),e1,e2];exact⟨_,rfl,h2.mono (by omega),.inr (.inl ⟨rfl,rfl,rfl,by simp [k3],h4,j,hj,h.step htb (h3.mono (by omega)) h2.boots⟩)⟩
  ·rw[if_pos (.inr e1)];refine⟨_,rfl,h2.mono (by omega),.inr (.inr ⟨e1,h3.off,h3.way,h2.boots.trans h.boots,fun cut=> ?_⟩)⟩;rcases h3.cx cut with h4|h4
   ·exact⟨o,.inl rfl,j,by omega,t,h4.mono (by omega),htb⟩
   ·exact⟨o,.inl rfl,j+1,by omega,t,h4.mono (by omega),htb⟩
 rw[if_neg k3,if_neg k3];by_cases k9:c.kd=9
 ·rw[if_pos k9,if_pos k9];exact⟨((⟨s,o.ps,o.r,dn⟩:Un),⟨0,[],o.r⟩,0),rfl,Kp.rfl _ _,.inl ⟨rfl,rfl,hmono⟩⟩
 rw[if_neg k9,if_neg k9];have QS:=S5 o.r hh c;have hdg:=CS.doR hh c X9;by_cases hq:(doR o.r hh c).2≠0∨dm (doR o.r hh c).1.cs o.r.cs=true
 ·rw[if_pos hq]
  have hsame:(doR o.r hh c).1=o.r:=by
   rcases hq with hq|hq
   ·exact QS.2 hq
   ·exact CS.ext hdg.nz ((R.rJ _ _).1 hq)
  rw[hsame];obtain⟨r,h1,h2,h3⟩:=plain ⟨(doR o.r hh c).2,[],R.zero⟩ QS.1;refine⟨r,h1,h2,.inl ?_⟩;rw[h3];exact⟨rfl,rfl,hmono⟩
 rw[if_neg hq];have hq0:(doR o.r hh c).2=0:=Classical.byContradiction fun e=>hq (.inl e)
 rw[hq0];have Rk:s.a.boots.toNat=b:=by rw[h.boots];rfl
 rw[Rk];have hel:(hI (doR o.r hh c).1 b).length≤64:=by rw[vq];omega
 obtain⟨r,h1,h2,h3⟩:=Ay hg hform hc ht (Qq (a:=o.su.length) (by omega) hel) rfl (by omega);rw[h1];have ecs:oQ (vv o.su t) (T5 o.su.length (hI (doR o.r hh c).1 b)).au (T5 o.su.length (hI (doR o.r hh c).1 b)).data=vv o.su (hI (doR o.r hh c).1 b):=SY _;rw[ecs] at h3;simp only;have hok:(⟨o.su,o.ps,(doR o.r hh c).1⟩:Ob).ok:={h.ook with tN:=hdg.tN};rcases h3 with⟨e,h3⟩|⟨e,h3,h4⟩|⟨e,h3⟩
 ·rw[if_pos e];simp only;rw[if_neg (by omega)];refine⟨_,rfl,h2.mono (by omega),.inl ⟨rfl,rfl, ?_⟩⟩
  exact {
   t:=⟨_,h3.mono (by omega),wI.enc hdg b⟩,boots:=h2.boots.trans h.boots,ps:=h.ps,r:=rfl,dn:=h.dn,ook:=hok,len:=hlen,cB:=h.cB}
 ·rw[if_neg (by omega)];simp only;rw[if_neg (by omega),e];refine⟨_,rfl,h2.mono (by omega),.inr (.inl ⟨rfl,rfl,rfl,by simp [k0,k9],h4,0,Nat.zero_le _, ?_⟩)⟩;exact {h with t:=⟨t,h3.mono (by omega),htb⟩,boots:=h2.boots.trans h.boots}
 ·rw[if_neg (by omega)];simp only;rw[if_pos (.inr e)];refine⟨_,rfl,h2.mono (by omega),.inr (.inr ⟨e,h3.off,h3.way,h2.boots.trans h.boots,fun cut=> ?_⟩)⟩;rcases h3.cx cut with h4|h4
  ·exact⟨o,.inl rfl,0,by omega,t,h4.mono (by omega),htb⟩
  ·exact⟨_,.inr rfl,0,by omega,_,h4.mono (by omega),wI.enc hdg b⟩
end
structure Up (g:cy) (a:Ar) (o:Ob) (ds:List Nat) (N b:Nat):Prop where
 t:∃t,Cr g a (vv o.su t) ds N∧wI t b o.r
 on:a.off=false
 way:a.way=.no
 boots:a.boots=(b:Int)
 ps:o.ps=[]
 ook:o.ok
 len:(o.su.length:Int)=g.cap
section
variable {g:cy} {u:Un} {o o':Ob} {a:Ar} {ds:List Nat} {N b:Nat}
theorem Qs (hg:g.In) (hform:g.df=true) (hc:g.cap<65000) (h:Ug g u o ds N b) (hN:N+9*CW<281474976710656):∃r,XU g u=some r∧Kp u.s r.1.s (9*CW)∧((r.2=0∧Ug g r.1 (gR o) ds (N+9*CW) b)∨(r.2=10∧g.aI<r.1.s.f.po.count 3∧∃j,j≤o.ps.length∧Ug g r.1 (cq o j) ds (N+9*CW) b)∨(r.2=9∧oY g r.1.s.a o (gR o) ds (N+9*CW) b)):=by
 obtain⟨s,ps,r,dn⟩:=u;have hr:=h.r;have hps:=h.ps;have hdn:=h.dn;simp only at hr hps hdn;subst hr hps hdn;obtain⟨t,ht,htb⟩:=h.t;have hlen:=h.len;have hle:=h.ook.le8;have h8:o.ps.length*CW≤8*CW:=Nat.mul_le_mul_right _ hle;obtain⟨r,h1,h2,h3⟩:=rN hg hform hc o.ps s o.su N ht hlen h.ook.sort h.pg (by omega);unfold XU;rw[EK h];simp only[ne_eq,not_true_eq_false,if_false];rw[h1];simp only;rcases h3 with⟨e1,e2,h3⟩|⟨e1,h4,j,hj,e2,h3⟩|⟨e1,j,hj,h3⟩
 ·rw[e1,e2];refine⟨_,rfl,h2.mono (by omega),.inl ⟨rfl, ?_⟩⟩
  exact {
   t:=⟨t,h3.mono (by omega),htb⟩,boots:=h2.boots.trans h.boots,ps:=rfl,r:=rfl,dn:=rfl,ook:=n9 h.ook
   len:=by show (((dJ o.su o.ps).length:Nat):Int)=_;rw[cR];exact hlen
   cB:=fun q hq=>by cases hq}
 ·rw[e1,e2];exact⟨_,rfl,h2.mono (by omega),.inr (.inl ⟨rfl,h4,j,hj,h.step htb (h3.mono (by omega)) h2.boots⟩)⟩
 ·refine⟨_,rfl,h2.mono (by omega),.inr (.inr ⟨e1,h3.off,h3.way,h2.boots.trans h.boots,fun cut=> ?_⟩)⟩;rcases h3.cx cut with h4|h4
  ·exact⟨o,.inl rfl,j,by omega,t,h4.mono (by omega),htb⟩
  ·exact⟨o,.inl rfl,j+1,by omega,t,h4.mono (by omega),htb⟩
theorem Qt {x:Int} (h0:0≤x) (h1:x<4611686018427387904):pE (x+1)=x+1:=bf (by omega) (by omega)
theorem oY.restart (h:oY g a o o' ds N b) (ho:o.ok) (ho':o'.ok) (hl:(o.su.length:Int)=g.cap) (hl':(o'.su.length:Int)=g.cap) (hb:b<2147483647) (cut:Int):∃q,(q=o∨q=o')∧∃i,i≤8∧Up g (bZ a cut) (gS (cq q i) true) ds N (b+1):=by
 obtain⟨q,hq,i,hi,t,h1,h2⟩:=h.cx cut;refine⟨q,hq,i,hi, ?_⟩;have hqo:q.ok:=by rcases hq with rfl|rfl<;>assumption
 have hql:(q.su.length:Int)=g.cap:=by rcases hq with rfl|rfl<;>assumption
 have Rk:(qp a cut).boots=a.boots:=by
  unfold qp;split
  ·rfl
  ·rfl
  ·split
   ·split<;>rfl
   ·rfl
  ·split
   ·rfl
   ·split
    ·rfl
    ·split<;>rfl
 exact {
  t:=⟨t,h1,h2.S3⟩
  on:=rfl
  way:=rfl
  boots:=by
   show pE (a.boots+1)=_
   rw[h.boots,Qt (by omega) (by omega)];rfl
  ps:=rfl
  ook:=yf (yi hqo i) true
  len:=by show (((dJ q.su (q.ps.take i)).length:Nat):Int)=_;rw[cR];exact hql}
theorem Ug.restart (h:Ug g u o ds N b) (hb:b<2147483647) (cut:Int):Up g (bZ u.s.a cut) (gS o true) ds N (b+1):=by
 obtain⟨t,ht,htb⟩:=h.t;obtain⟨h1,h2⟩:=IQ ht.way cut
 exact {
  t:=⟨t,ht.cr.congr h1 h2,htb.S3⟩
  on:=rfl
  way:=rfl
  boots:=by
   have hw:qp u.s.a cut=u.s.a:=by unfold qp;rw[ht.way]
   show pE ((u.s.a).boots+1)=_
   rw[h.boots,Qt (by omega) (by omega)];rfl
  ps:=rfl
  ook:=yf h.ook true
  len:=h.len}
theorem Ug.leave (h:Ug g u o ds N b) (a:Ar) (hb:a.bs=u.s.a.bs) (hp:a.aB=u.s.a.aB) (ho:a.off=false) (hw:a.way=.no) (Rk:a.boots=u.s.a.boots):Up g a (gS o false) ds N b:=by
 obtain⟨t,ht,htb⟩:=h.t
 exact {
  t:=⟨t,ht.cr.congr hb hp,htb⟩
  on:=ho
  way:=hw
  boots:=Rk.trans h.boots
  ps:=rfl
  ook:=yf h.ook false
  len:=h.len}
theorem Up.mount (h:Up g a o ds N b) (hg:g.In) (hc:0≤g.cap∧g.cap<65000) {ep:Nat} (he:1≤ep∧ep<281474976710656) (hf:a.aR≤ep) (hb:b<2147483648) (sq:Int→Nat):Kp (FS.xZ g a ep) (cK g sq a ep).1 0∧(((cK g sq a ep).2=0∧∃v,uM g (cK g sq a ep).1=some v∧v.s=(cK g sq a ep).1∧Ug g v o ds N b)∨((cK g sq a ep).2=9∧oY g (cK g sq a ep).1.a o o ds N b)):=by
 obtain⟨t,Nv,htb⟩:=h.t;have aed:=(Nv.xZ hg hc h.on h.way he hf).ok;have kp:=Mr hg (sq:=sq) aed;have hlen:=h.len;refine⟨kp, ?_⟩;rcases Nv.mount hg hc h.on h.way he hf sq with⟨h1,h2⟩|⟨h1,h2⟩
 ·left;refine⟨h1, ?_⟩;obtain⟨x,hx1,vD,_⟩:=h2.nc g.cap.toNat;have hcap:g.cap.toNat=o.su.length:=by omega
  have hx3:x.data=t:=by rw[vD,hcap,SZ]
  have Rk:(cK g sq a ep).1.a.boots=(b:Int):=kp.boots.trans h.boots;have cB:∀p∈o.ps,p.cB=true→p.data=[]:=fun p hp=>by rw[h.ps] at hp;cases hp
  unfold uM;rw[hx1];simp only;rcases htb with⟨e1,e2⟩|⟨r0,b0,e1,e2,e3,e4⟩
  ·rw[if_pos (by rw[hx3,e1];rfl)];exact⟨_,rfl,rfl,⟨t,h2,.inl ⟨e1,e2⟩⟩,Rk,h.ps.symm,e2.symm,rfl,h.ook,hlen,cB⟩
  ·rw[if_neg (by rw[hx3,e1,vq];omega),hx3,e1,e2.adJ (by omega)];refine⟨_,rfl,rfl,⟨t,h2,.inr ⟨r0,b0,e1,e2,e3,e4⟩⟩,Rk,h.ps.symm, ?_,rfl,h.ook,hlen,cB⟩;show od r0 (b0:Int) _=o.r
   rw[Rk,e4]
 ·right;refine⟨h1,h2.off,h2.way,kp.boots.trans h.boots,fun cut=> ?_⟩;have h3:=(h2.cx cut).elim id id;exact⟨o,.inl rfl,0,by omega,t,h3,htb⟩
end
end Go.Proofs.YtlgdkndamddpkaaGreat
end
section
namespace Go.Am
open Go.ChangeShapes Go.WideShapes Go.RowKit
def Je (W:World):Value→V
 | .bool b=>.bool b
 | .int k n=>.int k n
 | .string s=>.cL s
 | .pointer none=>.ay none
 | .pointer (some ⟨b,o,none⟩)=>if b<W.heap.size then .ay (some (b,o)) else .cB
 | .slice none n c=>.slice none n c
 | .slice (some a) 0 0=>.slice (some (a.block,a.off)) 0 0
 | .slice (some ⟨b,o,none⟩) n c=>if b<W.heap.size then .slice (some (b,o)) n c else .cB
 | .map none=>.map none
 | .nilFunc=>.nilFunc
 | .nilIface=>.nilIface
 | .iface t _=>.iface t .cB
 |_=>.cB
def Nm (W:World):Value→V
 | .agg cs=>if∀c∈cs.toList.map (Je W),c.one=true then .agg (cs.toList.map (Je W)) else .cB
 |v=>Je W v
def S6 (W:World):dK:=fun b=>if b<W.heap.size then some b else none
def hY (W:World):ai where
 get:=fun b=>match W.heap[b]? with
  |some (.cells cs e _)=>some (.cells e (cs.toList.map (Je W)) true)
  |_=>none
 next:=W.heap.size
theorem EL {W:World} {b:Nat} (h:b<W.heap.size):S6 W b=some b:=if_pos h
theorem Lc (W:World) (x:Value):VR (S6 W) (Je W x) x:=by
 unfold Je;split
 ·exact .bool _
 ·exact .int _ _
 ·exact .cL _
 ·exact .Dg
 ·split
  ·rename_i h;exact .ay (EL h)
  ·exact .cB _
 ·exact .nC _ _
 ·exact .pQ _ _
 ·split
  ·rename_i h;exact .slice _ _ (EL h)
  ·exact .cB _
 ·exact .yH
 ·exact .nilFunc
 ·exact .nilIface
 ·exact .iface _ (.cB _)
 ·exact .cB _
theorem G4 (W:World) (l:List Value):eU (S6 W) (l.map (Je W)) l:=by
 refine⟨by simp,fun i x y hx hy=> ?_⟩;rw[List.getElem?_map,hy,map_some,some.injEq] at hx;subst hx;exact Lc W y
theorem S7 (W:World) (x:Value):VR (S6 W) (Nm W x) x:=by
 unfold Nm;split
 ·split
  ·rename_i cs h;exact .vK h (G4 W _)
  ·exact .cB _
 ·exact Lc W _
theorem Qu (W:World) (l:List Value):eU (S6 W) (l.map (Nm W)) l:=by
 refine⟨by simp,fun i x y hx hy=> ?_⟩;rw[List.getElem?_map,hy,map_some,some.injEq] at hx;subst hx;exact S7 W y
theorem mj {W:World} {b:Nat} {o:Obj} (h:(hY W).get b=some o):∃cs e fz,W.heap[b]? =some (.cells cs e fz)∧o=.cells e (cs.toList.map (Je W)) true:=by
 simp only[hY] at h;split at h
 ·rename_i cs e fz hb;cases h;exact⟨cs,e,fz,hb,rfl⟩
 ·cases h
theorem MV (W:World) (hgl:∀g∈Nz,g<W.heap.size):HR (S6 W) (hY W) W where
 gl:=fun g hg=>EL (hgl g hg)
 wW:=fun b o h=>by
  obtain⟨cs,e,fz,hb,rfl⟩:=mj h
  have hlt:b<W.heap.size:=by
   rcases Nat.lt_or_ge b W.heap.size with h|h
   ·exact h
   ·rw[Array.getElem?_eq_none h] at hb;cases hb
  refine⟨b,EL hlt,cs,fz,hb,G4 W _, ?_, ?_⟩
  ·intro h;cases h
  ·intro h;cases h
 inj:=fun id id' o o' b h _ hr _ _=>by
  obtain⟨cs,e,fz,hb,rfl⟩:=mj h;cases hr
 lt:=fun id b h=>by
  unfold S6 at h;split at h
  ·rename_i hlt;cases h;exact⟨hlt,hlt⟩
  ·cases h
theorem G5 {W W':World} {H':ai} {ρ':dK} (h:lL (hY W) (S6 W) W H' ρ' W'):Below W.heap.size W W' where
 os:=h.os
 tape:=h.tape
 output:=h.output
 size:=h.size
 block:=fun k hk=>h.frame k hk (by
  rintro⟨id,o,h1,h2,_⟩;obtain⟨cs,e,fz,hb,rfl⟩:=mj h1
  cases h2)
def Bn (P:Program) (H:ai):Nat→TypeId→List V→Prop
 |0,_,_=>False
 |n+1,t,cs=>match P.underlying t with
  |some .bool=>∃b,cs=[.bool b]
  |some (.int k)=>∃x,cs=[.int k x]∧k.min≤x∧x≤k.max
  |some .string=>∃s,cs=[.cL s]∧s.size≤maxLen
  |some (.slice e)=>0<P.cellsOf e→∃p len cap,cs=[.slice p len cap]∧len≤cap∧cap≤maxLen∧(p=none→cap=0)∧
   ∀i,i<cap→∃id off,p=some (id,off)∧id<H.next∧H.inb id (off+i*P.cellsOf e) (P.cellsOf e)=true∧Bn P H n e (H.sub id (off+i*P.cellsOf e) (P.cellsOf e))
  |some (.struct fs)=>cs.length=P.cellsOf t∧∀f∈fs.toList,Bn P H n f.type ((cs.drop f.offset).take (P.cellsOf f.type))
  |some (.array m e)=>cs.length=P.cellsOf t∧∀i,i<m→Bn P H n e ((cs.drop (i*P.cellsOf e)).take (P.cellsOf e))
  |_=>True
theorem G6 {α β:Type} {f:α→Option β}:∀{l:List α} {r:List β},l.mapM f=some r→r.length=l.length∧∀(i:Nat) x,l[i]? =some x→∃y,r[i]? =some y∧f x=some y
 |[],r,h=>by simp at h;subst h;exact⟨rfl,fun i x hx=>by simp at hx⟩
 |a::l,r,h=>by
  rw[mapM_cons] at h
  cases ha:f a with
  |none=>simp [ha] at h
  |some y=>
   cases hl:l.mapM f with
   |none=>simp [ha,hl] at h
   |some m=>
    simp [ha,hl] at h;subst h;obtain⟨h1,h2⟩:=G6 hl;refine⟨by simp [h1],fun i x hx=> ?_⟩
    cases i with
    |zero=>simp at hx;subst hx;exact⟨y,rfl,ha⟩
    |succ i=>exact h2 i x (by simpa using hx)
theorem CD {W:World} {aX n:Nat} {a:Addr} {cs:List Value} (h:W.cells? aX a n=some cs) (hn:0<n):a.spot=none∧a.block<W.heap.size∧(hY W).inb a.block a.off n=true∧(hY W).sub a.block a.off n=cs.map (Je W):=by
 unfold World.cells? at h;split at h;rotate_left
 ·cases h
 obtain⟨hlen,hall⟩:=G6 h;simp only[length_range] at hlen;have hcell:∀i,i<n→∃y,cs[i]? =some y∧W.cell? (a.add i)=some y:=fun i hi=>hall i i (by simp [hi])
 obtain⟨y0,_,h0⟩:=hcell 0 hn
 have QX:∃cs' e fz,W.heap[a.block]? =some (.cells cs' e fz)∧a.spot=none:=by
  simp only[World.cell?,Addr.add] at h0;revert h0
  cases hb:W.heap[a.block]? with
  |none=>intro h0;simp [hb] at h0
  |some o=>
   cases o with
   |cells cs' e fz=>
    intro h0
    cases hsp:a.spot with
    |none=>exact⟨cs',e,fz,rfl,rfl⟩
    |some s=>simp [hb,hsp] at h0
   |_=>intro h0;simp [hb] at h0
 obtain⟨cs',e,fz,hb,hsp⟩:=QX
 have hlt:a.block<W.heap.size:=by
  rcases Nat.lt_or_ge a.block W.heap.size with h|h
  ·exact h
  ·rw[Array.getElem?_eq_none h] at hb;cases hb
 have o4:(hY W).get a.block=some (.cells e (cs'.toList.map (Je W)) true):=by simp only[hY,hb]
 have rX:∀i,i<n→∃y,cs[i]? =some y∧cs'[a.off+i]? =some y:=by
  intro i hi;obtain⟨y,h1,h2⟩:=hcell i hi;refine⟨y,h1, ?_⟩
  have:a.add i=⟨a.block,a.off+i,none⟩:=by
   obtain⟨b,o,s⟩:=a;cases hsp;exact gb _ _ _
  rw[this,qT hb] at h2;exact h2
 have hle:a.off+n≤cs'.size:=by
  obtain⟨y,_,h2⟩:=rX (n-1) (by omega);rcases Nat.lt_or_ge (a.off+(n-1)) cs'.size with h|h
  ·omega
  ·rw[Array.getElem?_eq_none h] at h2;cases h2
 refine⟨hsp,hlt,by simp [ai.inb,o4];omega, ?_⟩;simp only[ai.sub,ai.cs,o4];apply ext_getElem?;intro i;rw[List.getElem?_take,List.getElem?_drop];by_cases hi:i<n
 ·rw[if_pos hi];obtain⟨y,h1,h2⟩:=rX i hi;simp [h1,h2]
 ·rw[if_neg hi];rw[List.getElem?_eq_none];simp;omega
section
variable {H:Type} {enc:TypeId×Value→H} {P:Program} {W:World} {aX:Nat} {held:Bool}
theorem MW {k:IntKind} {n:Int} (h:(Lit.int k n).wf=true):k.min≤n∧n≤k.max:=by
 simpa only[Lit.wf,Bool.and_eq_true,decide_eq_true_eq] using h
theorem MX {a:Addr} {n c:Nat} (hs:a.spot=none) (hb:a.block<W.heap.size):Je W (.slice (some a) n c)=.slice (some (a.block,a.off)) n c:=by
 obtain⟨b,o,s⟩:=a;simp only at hs hb;subst hs
 cases n with
 |zero=>cases c with
  |zero=>rfl
  |succ c=>exact if_pos hb
 |succ n=>exact if_pos hb
theorem S8:∀(fuel:Nat) (t:TypeId) (cs:List Value) (d:DataW H) (ps:List MemPlace),DataW.trod enc P W aX (fun _=>true) held fuel t cs=some (d,ps)→Bn P (hY W) fuel t (cs.map (Je W)):=by
 intro fuel
 induction fuel with
 |zero=>intro t cs d ps h;simp [DataW.trod] at h
 |succ n ih=>
  intro t cs d ps h;unfold Bn;split
  ·rename_i hu;obtain⟨b,rfl,_⟩:=DataW.trod_bool hu h;exact⟨b,rfl⟩
  ·rename_i k hu;obtain⟨x,rfl,_,hw⟩:=DataW.trod_int hu h;exact⟨x,rfl,MW hw⟩
  ·rename_i hu;obtain⟨s,rfl,_,hs⟩:=DataW.trod_string hu h;exact⟨s,rfl,hs⟩
  ·rename_i e hu;intro hpos;rcases DataW.trod_slice hu h with⟨rfl,_⟩|⟨a,len,cap,elems,rest,m,hm,rfl,_,_,hle,XF,hel,hE,hR,_⟩
   ·exact⟨none,0,0,rfl,Nat.le_refl _,Nat.zero_le _,fun _=>rfl,fun i hi=>by omega⟩
   ·cases hm;obtain⟨hrl,hR⟩:=hR rfl
    have hall:∀i,i<cap→∃cs' y,W.cells? aX (a.add (i*P.cellsOf e)) (P.cellsOf e)=some cs'∧DataW.trod enc P W aX (fun _=>true) held n e cs'=some y:=by
     intro i hi;by_cases hl:i<len
     ·have h1:=hE i hl;rw[List.getElem?_eq_getElem (by omega),bind_eq_some_iff] at h1;obtain⟨cs',h1,h2⟩:=h1;exact⟨cs',_,h1,h2⟩
     ·have h1:=hR (i-len) (by omega);rw[List.getElem?_eq_getElem (by omega),bind_eq_some_iff,show len+(i-len)=i by omega] at h1;obtain⟨cs',h1,h2⟩:=h1;exact⟨cs',_,h1,h2⟩
    by_cases hc:cap=0
    ·subst hc;have:len=0:=by omega
     subst this;refine⟨some (a.block,a.off),0,0, ?_,Nat.le_refl _,Nat.zero_le _,(fun _=>rfl),fun i hi=>by omega⟩;obtain⟨b,o,s⟩:=a;cases s<;>rfl
    ·obtain⟨cs0,y0,h0,_⟩:=hall 0 (by omega);have hz:a.add (0*P.cellsOf e)=a:=by simp [Addr.add]
     rw[hz] at h0;obtain⟨hs,hb,_,_⟩:=CD h0 hpos;refine⟨some (a.block,a.off),len,cap,by rw[map_cons,map_nil,MX hs hb],hle,XF,fun h=>(by cases h),fun i hi=> ?_⟩;obtain⟨cs',y,h1,h2⟩:=hall i hi
     have aee:a.add (i*P.cellsOf e)=⟨a.block,a.off+i*P.cellsOf e,none⟩:=by
      obtain⟨b,o,s⟩:=a;cases hs;exact gb _ _ _
     rw[aee] at h1;obtain⟨_,_,h3,h4⟩:=CD h1 hpos;refine⟨a.block,a.off,rfl,hb,h3, ?_⟩;rw[h4];exact ih e cs' y.1 y.2 h2
  ·rename_i fs hu;obtain⟨xs,m,hm,_,hl,hxl,hF⟩:=DataW.trod_struct hu h;cases hm;refine⟨by simpa using hl,fun f hf=> ?_⟩;obtain⟨i,hi,Ti⟩:=getElem_of_mem hf
   have hi':fs[i]? =some f:=by
    rw[←Array.getElem?_toList,List.getElem?_eq_getElem hi,Ti]
   have h1:=hF i f hi';have W8:i<xs.length:=by rw[hxl];simpa using hi
   rw[List.getElem?_eq_getElem W8] at h1;have:=ih _ _ _ _ h1;rw[map_take,map_drop] at this;exact this
  ·rename_i m e hu;obtain⟨xs,m',hm,_,hl,hxl,hF⟩:=DataW.trod_array hu h;cases hm;refine⟨by simpa using hl,fun i hi=> ?_⟩;have h1:=hF i hi;rw[List.getElem?_eq_getElem (by omega)] at h1;have:=ih _ _ _ _ h1;rw[map_take,map_drop] at this;exact this
  ·trivial
theorem S9 {x:Value} (h:∀cs,x≠ .agg cs):Nm W x=Je W x:=by
 unfold Nm;split
 ·exact absurd rfl (h _)
 ·rfl
end
section
variable {H:Type} {enc:TypeId×Value→H} {P:Program}
theorem Bo {f:Func} {s:ChangeSpec} {gy fresh handsOn again:Bool} {W W':World} {args:Array Value} {v:Value} {ds gs:List (DataW H)} {before pa pv:List MemPlace} (hW:DataW.Whole enc P f.params.toList s.vars gy W args.toList ds gs before) (hres:∀(b:Nat) (sp:Nat→Bool) (hd:Bool),DataW.TrodAll enc P W' b sp hd f.resultTypes.toList (v.resultList f.resultTypes.size) (s.fn H (ds++gs)).results []) (hargs:∀sp:Nat→Bool,(∀p∈before,sp p.block=true)→DataW.TrodAll enc P W' 0 sp true f.params.toList args.toList (s.fn H (ds++gs)).args pa) (hvars:∀sp:Nat→Bool,(∀p∈before,sp p.block=true)→DataW.TrodVars enc P W' sp s.vars (s.fn H (ds++gs)).vars pv) (hps:before=pa++pv) (hb:Below W.heap.size W W') (hok:∀(j:Nat) (t:TypeId) (r:Value),f.resultTypes[j]? =some t→(v.resultList f.resultTypes.size)[j]? =some r→Value.okWide P W' .any 0 t r):s.post enc P f gy fresh handsOn again W args v W':=by
 have hlt:∀p∈before,p.block<W.heap.size:=fun p hp=>hW.lt p hp
 have hold:∀p∈before,(fun b=>decide (b<W.heap.size)) p.block=true:=fun p hp=>by simpa using hlt p hp
 refine⟨ds,gs,before,[],pa,pv,hW,hres _ _ _,hargs _ hold,hvars _ hold,World.keptBut_mono (fun p hp=>⟨hp, ?_⟩) (hb.frame (· ∈before)),fun _=> ?_⟩
 ·rw[hps,mem_append] at hp;exact Or.inr hp
 ·obtain⟨_,_,_,_,_,hz,hn⟩:=hW;refine⟨hok,_,_,([]++pa)++pv,⟨[]++pa,pv,trodAll_append (hargs _ (fun _ _=>rfl)) (hres _ _ _),hvars _ (fun _ _=>rfl),rfl, ?_, ?_⟩, ?_⟩
  ·intro b off hp;have hin:MemPlace.cell b off∈before:=by rw[hps];simpa using hp
   rw[hb.frozen (hlt _ hin)];exact hz b off hin
  ·intro ha;have:=hn ha;rw[hps] at this;simpa using this
  ·intro p hp _;rw[hps];simpa using hp
end
section
variable {H:Type} {enc:TypeId×Value→H} {P:Program} {W:World}
theorem sw (hl:laidOutB P=true) {W':World} (hb:Below W.heap.size W W') {sp:Nat→Bool}:∀{ts:List TypeId} {vs:List Value} {ds:List (DataW H)} {p:List MemPlace},(∀t∈ts,P.readableRec t=true∧t<P.types.size)→(∀x∈p,sp x.block=true)→(∀x∈p,x.block<W.heap.size)→DataW.TrodAll enc P W 0 (fun _=>true) true ts vs ds p→DataW.TrodAll enc P W' 0 sp true ts vs ds p
 |[],vs,ds,p,_,_,_,h=>by
  obtain⟨rfl,rfl,rfl⟩:=trodAll_nil h;exact trodAll_mk0
 |t::ts,vs,ds,p,ht,hs,hlt,h=>by
  obtain⟨v,vs1,d,ds1,a,b,rfl,rfl,rfl,h1,h2⟩:=trodAll_cons h;refine trodAll_cons_mk ?_ (sw hl hb (fun u hu=>ht u (mem_cons_of_mem _ hu)) (fun x hx=>hs x (mem_append_right _ hx)) (fun x hx=>hlt x (mem_append_right _ hx)) h2);refine WideElems.Trod_stays hl (ht t (mem_cons_self ..)).1 (ht t (mem_cons_self ..)).2 h1 (fun x hx=> ?_) (fun x hx=>hs x (mem_append_left _ hx));have hx':=hlt x (mem_append_left _ hx)
  cases x with
  |cell b o=>exact hb.cell (p:=⟨b,o,none⟩) hx'
  |map b=>exact hb.block b hx'
theorem xr {t:TypeId} {v:Value} {d:DataW H} {p:List MemPlace} (h:DataW.Trod enc P W 0 (fun _=>true) true t v d p):∃n,Bn P (hY W) n t (v.cells.toList.map (Je W)):=by
 obtain⟨n,hn⟩:=h;exact⟨n,S8 n t _ _ _ hn⟩
theorem G7 {E:kG} (hX:j9 E) (hm:E.P.follows .mixedOrders=true) (hl:laidOutB E.P=true) {f:FuncId} {fn:Func} {s:ChangeSpec} {gy fresh handsOn again:Bool} {args:Array Value} {ds gs:List (DataW H)} {before:List MemPlace} {tb:TypeId} (hb:E.P.underlying tb=some .bool) (hpar:∀t∈fn.params.toList,E.P.readableRec t=true∧t<E.P.types.size) (hres:fn.resultTypes= #[tb]) (hv:s.vars=[]) (hs:∀ds:List (DataW H),ds.length=fn.params.size→s.fn H ds={results:=[.lit (.bool true)],args:=ds}) (hW:DataW.Whole enc E.P fn.params.toList s.vars gy W args.toList ds gs before) (hc:(qQ E).call f (args.toList.map (Nm W)) (hY W) fun v _=>v=.bool true) (hgl:∀g∈Nz,g<W.heap.size:=by intro g hg;cases hg):
 Calls E.P f args W fun e W'=>∃v,e=.returned v∧s.post enc E.P fn gy fresh handsOn again W args v W':=by
 refine((BK hX hm).call _ _ _ _ hc (S6 W) W args (MV W hgl) (Qu W _)).mono ?_;rintro e W' ⟨v,v',H',ρ',rfl,rfl,hv',_,XG⟩;have Bq:=G5 XG;refine⟨v',rfl, ?_⟩;rw[hv'.Dh];have hW0:=hW;obtain⟨p,q,hA,hV,hpq,hfz,vz⟩:=hW;rw[hv] at hV;obtain⟨rfl,rfl⟩:=trodVars_none hV;simp only[append_nil] at hpq;subst hpq
 have hlen:ds.length=fn.params.size:=by
  have key:∀{ts:List TypeId} {vs:List Value} {ds:List (DataW H)} {p:List MemPlace},DataW.TrodAll enc E.P W 0 (fun _=>true) true ts vs ds p→ds.length=ts.length:=by
   intro ts
   induction ts with
   |nil=>intro vs ds p h;obtain⟨_,rfl,_⟩:=trodAll_nil h;rfl
   |cons t ts ih=>
    intro vs ds p h;obtain⟨v,vs1,d,ds1,a,b,rfl,rfl,rfl,_,h2⟩:=trodAll_cons h;simp [ih h2]
  simpa using key hA
 have hsp:=hs ds hlen;have hlt:∀x∈before,x.block<W.heap.size:=fun x hx=>hW0.lt x hx
 refine Bo (pa:=before) (pv:=[]) hW0 (fun b sp hd=> ?_) (fun sp aef=> ?_) (fun sp _=> ?_) (by simp) Bq ?_
 ·rw[append_nil,hsp,hres];exact trodAll_cons_mk (p:=[]) (p':=[]) (shut_bool hb true) trodAll_mk0
 ·rw[append_nil,hsp];exact sw hl Bq hpar aef hlt hA
 ·rw[append_nil,hsp,hv];rfl
 ·exact ok_one hres rfl (okWide_bool_mk hb true)
theorem Jf {t:TypeId} {d:TypeDesc} {r:Reach} {aX:Nat} {cs:Array Value} (hu:P.underlying t=some d) (hd:iP d=false) (h:Value.okWide P W r aX t (.agg cs)):False:=by
 cases d<;>simp [iP] at hd<;>simp [Value.okWide,hu,Cell.okWide,Cell.ok] at h
theorem CE {t:TypeId} {d:TypeDesc} {r:Reach} {aX:Nat} {v:Value} (hu:P.underlying t=some d) (hd:iP d=false) (h:Value.okWide P W r aX t v):v.cells.toList.map (Je W)=[Nm W v]:=by
 have hn:∀cs,v≠ .agg cs:=by rintro cs rfl;exact Jf hu hd h
 rw[S9 hn];cases v<;>first|rfl|exact absurd rfl (hn _)
variable {r:Reach} {aX:Nat} {v:Value} {d:DataW H} {p:List MemPlace} {t:TypeId}
theorem Ta {k:IntKind} (hu:P.underlying t=some (.int k)) (hval:Value.okWide P W r aX t v) (h:DataW.Trod enc P W 0 (fun _=>true) true t v d p):∃x,Nm W v=.int k x∧k.min≤x∧x≤k.max:=by
 obtain⟨n,hn⟩:=xr h;rw[CE hu rfl hval] at hn
 cases n with
 |zero=>exact hn.elim
 |succ n=>
  simp only[Bn,hu] at hn;obtain⟨x,hx,hr⟩:=hn;exact⟨x,by simpa using hx,hr⟩
end
section
variable {P:Program} {H:ai} {n:Nat} {t:TypeId} {x:V}
theorem qH {k:IntKind} (hu:P.underlying t=some (.int k)) (h:Bn P H n t [x]):∃y,x=.int k y∧k.min≤y∧y≤k.max:=by
 cases n with
 |zero=>exact h.elim
 |succ n=>
  simp only[Bn,hu] at h;obtain⟨y,hy,hr⟩:=h;exact⟨y,by simpa using hy,hr⟩
theorem Ld (hu:P.underlying t=some .bool) (h:Bn P H n t [x]):∃y,x=.bool y:=by
 cases n with
 |zero=>exact h.elim
 |succ n=>
  simp only[Bn,hu] at h;obtain⟨y,hy⟩:=h;exact⟨y,by simpa using hy⟩
def MY (P:Program) (H:ai) (e:TypeId) (q:Oq) (len cap:Nat):Prop:=
 len≤cap∧cap≤maxLen∧(q=none→cap=0)∧
  ∃n,∀i,i<cap→∃id off,q=some (id,off)∧id<H.next∧H.inb id (off+i*P.cellsOf e) (P.cellsOf e)=true∧Bn P H n e (H.sub id (off+i*P.cellsOf e) (P.cellsOf e))
theorem G8 {e:TypeId} (hu:P.underlying t=some (.slice e)) (hpos:0<P.cellsOf e) (h:Bn P H n t [x]):∃q len cap,x=.slice q len cap∧MY P H e q len cap:=by
 cases n with
 |zero=>exact h.elim
 |succ n=>
  simp only[Bn,hu] at h;obtain⟨q,len,cap,hx,h1,h2,h3,h4⟩:=h hpos;exact⟨q,len,cap,by simpa using hx,h1,h2,h3,n,h4⟩
theorem MZ {fs:Array Field} {cs:List V} (hu:P.underlying t=some (.struct fs)) (h:Bn P H n t cs):cs.length=P.cellsOf t∧∃m,∀f∈fs.toList,Bn P H m f.type ((cs.drop f.offset).take (P.cellsOf f.type)):=by
 cases n with
 |zero=>exact h.elim
 |succ n=>
  simp only[Bn,hu] at h;exact⟨h.1,n,h.2⟩
end
section
variable {H:Type} {enc:TypeId×Value→H} {P:Program} {W:World} {r:Reach} {aX:Nat} {v:Value} {d:DataW H} {p:List MemPlace} {t:TypeId}
theorem M0 {e:TypeId} (hu:P.underlying t=some (.slice e)) (hpos:0<P.cellsOf e) (hval:Value.okWide P W r aX t v) (h:DataW.Trod enc P W 0 (fun _=>true) true t v d p):∃q len cap,Nm W v=.slice q len cap∧MY P (hY W) e q len cap:=by
 obtain⟨n,hn⟩:=xr h;rw[CE hu rfl hval] at hn;exact G8 hu hpos hn
end
end Go.Am
end
section
namespace Go.Am
theorem Qv (W:World):aA (hY W) (hY W) []:=by
 refine aA.start ?_ ?_
 ·intro id o h;obtain⟨cs,e,fz,hb,rfl⟩:=mj h;show id<W.heap.size
  rcases Nat.lt_or_ge id W.heap.size with h|h
  ·exact h
  ·rw[Array.getElem?_eq_none h] at hb;cases hb
 ·intro id o h;obtain⟨cs,e,fz,hb,rfl⟩:=mj h;exact⟨e,_,rfl⟩
theorem yj {H:ai} {id off n:Nat} (h:H.inb id off n=true):∃e l ro,H.get id=some (.cells e l ro)∧off+n≤l.length:=by
 unfold ai.inb at h;split at h
 ·rename_i e l ro hg;exact⟨e,l,ro,hg,by simpa using h⟩
 ·cases h
theorem Qw {P:Program} {H:ai} {t:TypeId} {q:Oq} {len cap:Nat} (hu:P.underlying t=some (.int .u8)) (hc:P.cellsOf t=1) (h:MY P H t q len cap):
 ∃bs:List UInt8,bs.length=len∧mu H q bs∧len≤cap∧len≤maxLen:=by
 obtain⟨h1,XF,_,n,h2⟩:=h;rw[hc] at h2
 have key:∀i,∃b:UInt8,i<len→∃id off,q=some (id,off)∧H.inb id (off+i) 1=true∧H.sub id (off+i) 1=[.int .u8 (b.toNat:Int)]:=by
  intro i;by_cases hi:i<len
  ·obtain⟨id,off,e1,_,e3,e4⟩:=h2 i (by omega);simp only[Nat.mul_one] at e3 e4
   have hl:∃x,H.sub id (off+i) 1=[x]:=by
    obtain⟨e,l,ro,hg,hle⟩:=yj e3;have:(H.sub id (off+i) 1).length=1:=by rw[k5 hg];simp;omega
    match hs:H.sub id (off+i) 1,this with
    |[x],_=>exact⟨x,rfl⟩
   obtain⟨x,hx⟩:=hl;rw[hx] at e4;obtain⟨y,rfl,hy1,Ul⟩:=qH (P:=P) hu e4;have m1:IntKind.u8.min=0:=by decide
   have m2:IntKind.u8.max=255:=by decide
   rw[m1] at hy1;rw[m2] at Ul;refine⟨UInt8.ofNat y.toNat,fun _=>⟨id,off,e1,e3, ?_⟩⟩;rw[hx];simp;omega
  ·exact⟨0,fun h=>absurd h hi⟩
 refine⟨(List.range len).map fun i=>Classical.choose (key i),by simp, ?_,h1,by omega⟩;by_cases h0:len=0
 ·subst h0;exact .inl rfl
 ·obtain⟨id,off,e1,e2,_⟩:=Classical.choose_spec (key 0) (by omega);obtain⟨e,l,ro,hg,_⟩:=yj e2;refine .inr ⟨id,off,e,l,ro,e1,hg, ?_⟩;apply ext_getElem?;intro i;rw[oN,length_map,length_range,List.getElem?_take];by_cases hi:i<len
  ·obtain⟨id',off',Rt,e2',e3'⟩:=Classical.choose_spec (key i) hi;rw[e1] at Rt;cases Rt;rw[k5 hg] at e3';rw[if_pos hi,List.getElem?_drop];simp only[bu,List.map_map,List.getElem?_map,List.getElem?_range hi,map_some,Function.comp];have:=congrArg (fun m=>m[0]?) e3';simpa using this
  ·rw[if_neg hi];simp [bu,hi]
theorem CF {l:List V} {off n:Nat} {f:Nat→List V}:∀(len:Nat),(∀i,i<len→(l.drop (off+i*n)).take n=f i∧(f i).length=n)→(l.drop off).take (len*n)=((List.range len).map f).flatten
 |0,_=>by simp
 |k+1,h=>by
  rw[range_succ,map_append,flatten_append, ←CF k (fun i hi=>h i (by omega))];rw[Nat.add_mul,Nat.one_mul,take_add,drop_drop,(h k (by omega)).1];simp
theorem Tb {P:Program} {H:ai} {t:TypeId} {q:Oq} {len cap n:Nat} (hc:P.cellsOf t=n) (h:MY P H t q len cap):∃(css:List (List V)) (m:Nat),css.length=len∧Rd H q css.flatten∧(∀c∈css,c.length=n∧Bn P H m t c)∧len≤cap∧len≤maxLen:=by
 obtain⟨h1,XF,_,m,h2⟩:=h;rw[hc] at h2
 have key:∀i,∃c:List V,i<len→∃id off,q=some (id,off)∧H.inb id (off+i*n) n=true∧H.sub id (off+i*n) n=c∧c.length=n∧Bn P H m t c:=by
  intro i;by_cases hi:i<len
  ·obtain⟨id,off,e1,_,e3,e4⟩:=h2 i (by omega);refine⟨_,fun _=>⟨id,off,e1,e3,rfl, ?_,e4⟩⟩;obtain⟨e,l,ro,hg,hle⟩:=yj e3;rw[k5 hg];simp;omega
  ·exact⟨[],fun h=>absurd h hi⟩
 refine⟨(List.range len).map fun i=>Classical.choose (key i),m,by simp, ?_, ?_,h1,by omega⟩
 ·by_cases h0:len=0
  ·subst h0;exact .inl rfl
  ·obtain⟨id,off,e1,e2,_⟩:=Classical.choose_spec (key 0) (by omega);obtain⟨e,l,ro,hg,_⟩:=yj e2;refine .inr ⟨id,off,e,l,ro,e1,hg, ?_⟩
   have UE:=CF (l:=l) (off:=off) (n:=n) (f:=fun i=>Classical.choose (key i)) len (fun i hi=>by
    obtain⟨id',off',Rt,_,e3',e4',_⟩:=Classical.choose_spec (key i) hi;rw[e1] at Rt;cases Rt;rw[k5 hg] at e3'
    exact⟨e3',e4'⟩)
   have hlen:((List.range len).map fun i=>Classical.choose (key i)).flatten.length=len*n:=by
    rw[←UE,length_take,length_drop];obtain⟨id',off',Rt,e2',_⟩:=Classical.choose_spec (key (len-1)) (by omega);rw[e1] at Rt;cases Rt;rw[dN hg] at e2';have:=Nat.le_of_ble_eq_true e2';have e:(len-1)*n+n=len*n:=by rw[←Nat.succ_mul];congr 1;omega
    omega
   rw[hlen];exact UE
 ·intro c hc;obtain⟨i,hi,rfl⟩:=mem_map.1 hc;obtain⟨_,_,_,_,_,e4,e5⟩:=Classical.choose_spec (key i) (mem_range.1 hi);exact⟨e4,e5⟩
end Go.Am
end
section
namespace Go.Proofs.YtlgdkndamddpkaaGreat
open Go.Am
structure Ac where
 ho:Int
 kd:Int
 lb:Int
 ky:Int
 nw:Int
 ty:Int
 su:Bool
 ow:Bool
 q:Oq
 c:Nat
 d:List UInt8
 n:Int
def Ac.cs (a:Ac):List V:=XO a.ho a.kd a.lb a.ky a.nw a.ty a.su a.ow a.q a.d.length a.c a.n
structure Ac.ok (B:ai) (a:Ac):Prop where
 ho:0≤a.ho∧a.ho≤255
 kd:0≤a.kd∧a.kd≤255
 lb:0≤a.lb∧a.lb≤255
 ky:0≤a.ky∧a.ky≤255
 nw:0≤a.nw∧a.nw≤255
 ty:0≤a.ty∧a.ty≤255
 rd:mu B a.q a.d
 n:0≤a.n∧a.n≤255
def Le (i:Nat):Int:=[0,0,1,1,1,2,3,4,4,5,6,7,8,9].getD i 0
def Uj (i:Nat):Int:=[1,3,5,6,7,8].getD i 0
theorem Qx {i:Nat} (h:i<14):0≤Le i∧Le i≤9:=by
 have hh:i=0∨i=1∨i=2∨i=3∨i=4∨i=5∨i=6∨i=7∨i=8∨i=9∨i=10∨i=11∨i=12∨i=13:=by omega
 rcases hh with h|h|h|h|h|h|h|h|h|h|h|h|h|h<;>subst h<;>decide
def Ac.bV (a:Ac):List UInt8:=if a.d.length≤64 then a.d else []
def Ac.cm (a:Ac) (r:R) (n:Int):Cm:=
 ⟨Le (a.kd % 14).toNat,a.lb % n,if a.d.length≤64 then a.q else none,if a.d.length≤64 then a.d.length else 0,if a.d.length≤64 then a.c else 0,a.su,
  if a.ow=true then r.k (a.ho % 4).toNat else a.ky % 4,a.nw % 4,Uj (a.ty % 6).toNat,a.su⟩
theorem Ac.G9 (a:Ac) (r:R) (n:Int):(a.cm r n).dn=a.bV.length:=by unfold Ac.cm Ac.bV;split<;>simp [*]
theorem Ac.Uk {B:ai} {L:List cw} {a:Ac} (ha:a.ok B) (r:R) (n:Int):lU B L (a.cm r n).dp a.bV:=by
 unfold Ac.cm Ac.bV;by_cases h:a.d.length≤64
 ·simp only[h,if_true];exact lU.of ha.rd
 ·simp only[h,if_false];exact lU.nil _ _ _
theorem Ac.abb (a:Ac) (r:R) (n:Int) (ha:0≤a.kd∧a.kd≤255):0≤(a.cm r n).kd∧(a.cm r n).kd≤9:=Qx (by omega)
section
variable {B:ai} {L:List cw} {H:ai} {K:KP} {oid mid:Nat} {o:Ob}
theorem WV (h:aA B H L) {a:Ac} (ha:a.ok B) (r:R) {n:Int} (hn:1≤n) (hn2:n≤1000000) (k:∀H',aA B H' L→K (.tuple [vi (a.ho % 4),.agg (a.cm r n).cs]) H'):cl 14 [.agg a.cs,.agg r.cs,vi n] H K:=by
 have h1:=ha.ho;have h2:=ha.kd;have h3:=ha.lb;have h4:=ha.ky;have h5:=ha.nw;have h6:=ha.ty;unfold Ac.cs R.cs;rw[acf];simp only[ns];have t1:Int.tmod a.kd 14=a.kd % 14:=Int.tmod_eq_emod_of_nonneg h2.1;have t2:Int.tmod a.ty 6=a.ty % 6:=Int.tmod_eq_emod_of_nonneg h6.1;have t3:Int.tmod a.ho 4=a.ho % 4:=Int.tmod_eq_emod_of_nonneg h1.1;have t4:Int.tmod a.ky 4=a.ky % 4:=Int.tmod_eq_emod_of_nonneg h4.1;have t5:Int.tmod a.nw 4=a.nw % 4:=Int.tmod_eq_emod_of_nonneg h5.1;have t6:Int.tmod a.lb n=a.lb % n:=Int.tmod_eq_emod_of_nonneg h3.1;have w1:IntKind.i64.wrap (a.ho % 4)=a.ho % 4:=by rw[bf (by omega) (by omega)]
 have w2:IntKind.u32.wrap (a.ky % 4)=a.ky % 4:=IntWalk.u32_in _ (by omega);have w3:IntKind.u32.wrap (a.nw % 4)=a.nw % 4:=IntWalk.u32_in _ (by omega);have w4:IntKind.i64.wrap a.lb=a.lb:=by rw[bf (by omega) (by omega)]
 have g1:0≤a.kd % 14:=by omega
 have g2:a.kd % 14<14:=by omega
 have g3:0≤a.ty % 6:=by omega
 have g4:a.ty % 6<6:=by omega
 have g5:0≤a.ho % 4:=by omega
 have g6:a.ho % 4<8:=by omega
 have g7:¬n=0:=by omega
 have s1:=h.alloc 5 (nI 1 3 5 6 7 8);have s2:=s1.alloc 5 [V.int .u8 0,V.int .u8 0,V.int .u8 1,V.int .u8 1,V.int .u8 1,V.int .u8 2,V.int .u8 3,V.int .u8 4,V.int .u8 4,V.int .u8 5,V.int .u8 6,V.int .u8 7,V.int .u8 8,V.int .u8 9];have Jj:=s2.get;have Tn:=s2.swap.get;have XA:=s2.drop.drop;rw[t1,t2,t3,t4,t5,w1,w2,w3,w4,t6];generalize hH2:(H.alloc (.cells 5 (nI 1 3 5 6 7 8) false)).alloc _=H2 at*;have e1:(H.alloc (.cells 5 (nI 1 3 5 6 7 8) false)).2=(H.alloc (.cells 5 (nI 1 3 5 6 7 8) false)).next:=rfl
 have c1:H2.cell (H.alloc (.cells 5 (nI 1 3 5 6 7 8) false)).next (0+(a.kd % 14).toNat*1)=.int .u8 (Le (a.kd % 14).toNat):=by
  rw[ba Jj,Nat.zero_add,Nat.mul_one];generalize hi:(a.kd % 14).toNat=i;have hh:i=0∨i=1∨i=2∨i=3∨i=4∨i=5∨i=6∨i=7∨i=8∨i=9∨i=10∨i=11∨i=12∨i=13:=by omega
  rcases hh with h|h|h|h|h|h|h|h|h|h|h|h|h|h<;>rw[h]<;>rfl
 have i1:H2.inb (H.alloc (.cells 5 (nI 1 3 5 6 7 8) false)).next (0+(a.kd % 14).toNat*1) 1=true:=by
  rw[dN Jj];exact Nat.ble_eq_true_of_le (show 0+(a.kd % 14).toNat*1+1≤14 by omega)
 have c2:H2.cell H.next (0+(a.ty % 6).toNat*1)=.int .u8 (Uj (a.ty % 6).toNat):=by
  rw[ba Tn,Nat.zero_add,Nat.mul_one];generalize hi:(a.ty % 6).toNat=i;have hh:i=0∨i=1∨i=2∨i=3∨i=4∨i=5:=by omega
  rcases hh with h|h|h|h|h|h<;>rw[h]<;>rfl
 have i2:H2.inb H.next (0+(a.ty % 6).toNat*1) 1=true:=by
  rw[dN Tn];exact Nat.ble_eq_true_of_le (show 0+(a.ty % 6).toNat*1+1≤6 by omega)
 have e4:(a.ho % 4).toNat<8:=by omega
 have b1:Nat.ble (Nat.succ (0+(a.ho % 4).toNat*1)) 12=true:=Nat.ble_eq_true_of_le (by omega)
 have n1:ae (bJ (r.k 0) (r.k 1) (r.k 2) (r.k 3) (r.k 4) (r.k 5) (r.k 6) (r.k 7) r.ty r.ho r.ge r.la) (0+(a.ho % 4).toNat*1)=.int .u32 (r.k (a.ho % 4).toNat):=by
  rw[Nat.zero_add,Nat.mul_one];exact oU r e4
 have hk:=k H2 XA;unfold Ac.cm at hk;simp only[g1,g2,g3,g4,g5,g6,g7,i1,c1,i2,c2,b1,n1,decide_true,decide_false,Bool.and_self,Bool.or_false,Bool.not_false,az,dh,bh,dY];cases how:a.ow
 all_goals
  rw[how] at hk;simp only[ah,ao,jF,nG,zp,iB,az,f40,ab1,Yh,Yi,Yj,Yk,Yl,Ym,Yn,bh,ct,Bool.false_eq_true,if_false,if_true] at hk⊢;by_cases h64:a.d.length≤64
  ·have XH:(a.d.length:Int)≤64:=by omega
   simp only[XH,decide_true,ao];simp only[h64,if_true] at hk;exact hk
  ·have XH:¬(a.d.length:Int)≤64:=by omega
   simp only[XH,decide_false,ah];simp only[h64,if_false] at hk;exact hk
theorem oZ (h:aA B H (cN mid o::L)):∃q c q2 c2,H.inb mid 0 1=true∧H.cell mid 0=.slice q o.su.length c∧H.inb mid 1 1=true∧H.cell mid 1=.slice q2 o.ps.length c2∧H.inb mid 2 12=true∧H.sub mid 2 12=o.r.cs∧Rd H q (o.su.map st).flatten:=by
 obtain⟨l,hp,h1⟩:=aA.GV h;obtain⟨q,c,q2,c2,h2⟩:=aA.Qh h1;obtain⟨f1,f2,f3,f4,f5,f6,_⟩:=bW h2.get;rw[vp hp] at f4;exact⟨q,c,q2,c2,f1,f2,f3,f4,f5,f6,(h2.up 1).kM⟩
end
abbrev Rq (i:Int):Cm:=⟨0,i,none,0,0,false,0,0,0,false⟩
theorem Qy {g:cy} {u:Un} {o:Ob} {ds:List Nat} {N b:Nat} (h:Ug g u o ds N b) {hh:Int} {i:Nat} (h0:0≤hh) (h8:hh<8) (hi:i<o.su.length) (hm:HA o.r hh (Rq i)=true):Ud g u hh (Rq i) []=some (u,⟨0,kz o i,R.zero⟩,0):=by
 obtain⟨s,ps,r,dn⟩:=u;have hr:=h.r;have hps:=h.ps;simp only at hr hps;subst hr hps;obtain⟨t,ht,htb⟩:=h.t;have hlen:=h.len;have hcap:g.cap.toNat=o.su.length:=by omega
 have hv:kD hh (Rq i) o.su.length=true:=by
  unfold kD;have e1:decide ((i:Int)<(o.su.length:Int))=true:=decide_eq_true (by omega);simp [h0,h8,hi]
 unfold Ud;rw[EK h];simp only[ne_eq,not_true_eq_false,if_false];unfold MJ;rw[hcap,if_neg (by simp [hv]),if_neg (by simp [hm]),if_pos rfl];have Hv:kz o (i:Int)=(pB o.ps (i:Int)).getD (o.su.getD i []):=if_pos ⟨by omega,by omega⟩;by_cases hp:fO o.ps (i:Int)=true
 ·rw[if_pos hp];simp only;rw[if_neg (by omega),Hv]
  cases hgp:pB o.ps (i:Int) with
  |none=>rw[rL.1 hgp] at hp;cases hp
  |some d=>rfl
 ·rw[if_neg hp];obtain⟨t',h1,h2,_⟩:=ht.nc i;simp only[Int.toNat_natCast];rw[h1];simp only;rw[if_neg (by omega),Hv,rL.2 (by simpa using hp),h2,Qp hi];rfl
theorem WW {r:R} (hr:AQ r):∃j:Nat,j<8∧∀i:Int,HA r j (Rq i)=true:=by
 have key:∃j:Nat,j<8∧mO r j false=true:=by
  unfold mO;by_cases h0:r.ty=0
  ·exact⟨0,by omega,by simp [h0,I0]⟩
  ·by_cases h8:nf r.ty=true
   ·obtain⟨i,hi,hk⟩:=hr.some h0;refine⟨i,hi, ?_⟩;have:(i:Int)<8:=by omega
    simp [I0,this,holds,h0,h8,key,hk]
   ·have X7:nf r.ty=false:=by simpa using h8
    obtain⟨i,hi,e,hk⟩:=hr.one h0 X7;refine⟨i,hi, ?_⟩;have:(i:Int)<8:=by omega
    simp [I0,this,holds,h0,e]
 obtain⟨j,hj,hp⟩:=key;exact⟨j,hj,fun i=>by unfold HA;rw[if_pos rfl];exact hp⟩
section
variable {B:ai} {L:List cw} {H:ai} {K:KP} {x:Ui} {m:Gm} {u:Un} {o ou:Ob} {ds:List Nat} {N b mid:Nat}
theorem CG (hm:dz B L m) (hg:m.g.In) (hcap:0≤m.g.cap∧m.g.cap<65000) (U:Ug m.g u ou ds N b) (hb:b<2147483648) (ho:o.ok) (hr:ou.r=o.r) (hl:ou.su.length=o.su.length) {n:Int} {i:Nat} (hi:i<o.su.length) {Kr:PS} {Ke:NS}:∀(k h:Nat) {H:ai},h+k=8→(∃j:Nat,h≤j∧j<8∧∀i:Int,HA o.r j (Rq i)=true)→eQ B H x m u (cN mid o::L)→(kz ou i=kz o i→∀H',eQ B H' x m u (cN mid o::L)→Ke 2 (St.mk (ab [(0,tp (some (x.iE,0))),(1,tp (some (mid,0))),(2,ti n),(7,ti (i:Int))]) (ab []) H'))→(kz ou i≠kz o i→∀H',eQ B H' x m u (cN mid o::L)→Kr (St.mk (ab [(6,tb false)]) (ab []) H'))→lo 22 9 (St.mk (ab [(0,tp (some (x.iE,0))),(1,tp (some (mid,0))),(2,ti n),(7,ti (i:Int)),(8,ti (h:Int))]) (ab []) H) Kr Ke
 |0,h,H,hk,hj,hS,k1,k2=>by
  obtain⟨j,h1,h2,_⟩:=hj;omega
 |k+1,h,H,hk,hj,hS,k1,k2=>by
  obtain⟨q,c,q2,c2,f1,f2,f3,f4,f5,f6,_⟩:=oZ (mid:=mid) (o:=o) (hS.ord [6]);have e1:(h:Int)<8:=by omega
  have e3:IntKind.i64.wrap ((h:Int)+1)=((h+1:Nat):Int):=aL (by omega);rw[Wb];simp only[e1,decide_true,ao,isSome_some,Nat.zero_add,f5,f6,R.dv,R.dX,Bool.and_self,az,nq,nr,ns,getD_some,Cm.Ah];rw[sv o.r ho.tN (h:Int) (Rq 0) (Int.le_refl 0)];simp only[fK,ct,az];cases XE:HA o.r (h:Int) (Rq 0)
  ·simp only[Bool.not_false,ao,e3];refine CG hm hg hcap U hb ho hr hl hi k (h+1) (by omega) ?_ hS k1 k2;obtain⟨j,h1,h2,h3⟩:=hj;refine⟨j, ?_,h2,h3⟩;rcases Nat.lt_or_ge h j with h4|h4
   ·omega
   ·have:j=h:=by omega
    rw[this] at h3;rw[h3 0] at XE;cases XE
  ·simp only[Bool.not_true,ah]
   have hmi:HA ou.r (h:Int) (Rq (i:Int))=true:=by
    rw[hr];unfold HA at XE⊢;exact XE
   have hrd:=Qy U (hh:=(h:Int)) (i:=i) (by omega) e1 (by omega) hmi;have CS:dA u.r:=by rw[U.r];obtain⟨_,_,htb⟩:=U.t;exact htb.MQ
   refine Jd (hm.bK _) hg hcap hS U.ok (h:Int) (Rq (i:Int)) [] rfl (lU.nil _ _ _) (CS.doR (h:Int) (Rq (i:Int)) ⟨Int.le_refl 0,by show (0:Int)≤_;omega⟩).ok (by rw[U.boots];omega) hrd (fun q3 n3 H3 h3=> ?_);have yk:mu H3 q3 (kz ou i):=(h3.ord [6]).iJ;have h4:eQ B H3 x m u (cN mid o::L):=(h3.ord [6]).drop;have Hv:∀K:KP,K (.cL (cM (kz o (i:Int)))) H3→cl 48 [.ay (some (mid,0)),vi (i:Int)] H3 K:=fun K kk=>K5 (h4.ord [6]) ho (by omega) (by omega) kk
   simp only[fC,gK,eW,iZ,fJ,dH,Rs.aM,Rs.n0,Rs.n1,dh,bh,Bool.or_false,Bool.and_self,az,length_cons,length_nil,Nat.reduceAdd,decide_true,Bool.not_true,Bool.not_false,ao,bA,aQ];refine hG (fun S:Am.St=>S=St.mk (ab [(68,tb (!decide (kz ou i=kz o i)))]) (ab []) H3) (fun(S:Am.St) Jo=> ?_) (fun Q hQ=> ?_)
   ·subst Jo;simp only[AN,reduceIte];by_cases he:kz ou i=kz o i
    ·simp only[he,decide_true,Bool.not_true,ah];exact k1 he H3 h4
    ·simp only[he,decide_false,Bool.not_false,ao];exact k2 he H3 h4
   ·simp only[yk.eY,yk.eZ,az];refine⟨Hv _ ?_,Hv _ ?_⟩
    all_goals
     simp only[mJ,gL,az,yk.eY,yk.eZ,qj];exact hQ _ rfl
theorem Ha (hm:dz B L m) (hg:m.g.In) (hcap:0≤m.g.cap∧m.g.cap<65000) (U:Ug m.g u ou ds N b) (hb:b<2147483648) (ho:o.ok) (hr:ou.r=o.r) (hl:ou.su.length=o.su.length) {Kr:PS} {Ke:NS}:∀(k i:Nat) {H:ai},i+k=o.su.length→eQ B H x m u (cN mid o::L)→((∀j:Nat,i≤j→j<o.su.length→kz ou j=kz o j)→∀H',eQ B H' x m u (cN mid o::L)→Ke 0 (St.mk (ab []) (ab []) H'))→((∃j:Nat,j<o.su.length∧kz ou j≠kz o j)→∀H',eQ B H' x m u (cN mid o::L)→Kr (St.mk (ab [(6,tb false)]) (ab []) H'))→lo 22 5 (St.mk (ab [(0,tp (some (x.iE,0))),(1,tp (some (mid,0))),(2,ti (o.su.length:Int)),(7,ti (i:Int))]) (ab []) H) Kr Ke
 |0,i,H,hi,hS,k1,k2=>by
  rw[Oe,decide_eq_false (by omega),ah];exact k1 (fun j h1 h2=>by omega) H hS
 |k+1,i,H,hi,hS,k1,k2=>by
  have hlt:i<o.su.length:=by omega
  have hn2:=ho.n2;have e3:IntKind.i64.wrap ((i:Int)+1)=((i+1:Nat):Int):=aL (by omega);obtain⟨j,hj8,hj⟩:=WW ho.tN;rw[Oe,decide_eq_true (by omega),ao];refine CG hm hg hcap U hb ho hr hl hlt 8 0 (by omega) ⟨j,Nat.zero_le _,hj8,hj⟩ hS (fun he H1 h1=> ?_) (fun he H1 h1=> ?_)
  ·simp only[AN,reduceIte,Nat.reduceEqDiff,e3];refine Ha hm hg hcap U hb ho hr hl k (i+1) (by omega) h1 (fun hall=>k1 (fun j h1 h2=> ?_)) k2;rcases Nat.lt_or_ge i j with h|h
   ·exact hall j h h2
   ·have:j=i:=by omega
    rw[this];exact he
  ·simp only[AN,reduceIte];exact k2 ⟨i,hlt,he⟩ H1 h1
theorem Qz (hm:dz B L m) (hg:m.g.In) (hcap:0≤m.g.cap∧m.g.cap<65000) (U:Ug m.g u ou ds N b) (hb:b<2147483648) (ho:o.ok) (RA:dA o.r) (hl:ou.su.length=o.su.length) (hS:eQ B H x m u (cN mid o::L)) (k:∀(v:Bool) H',(v=true↔ou.r=o.r∧ou.ps.length=o.ps.length∧∀j:Nat,j<o.su.length→kz ou j=kz o j)→eQ B H' x m u (cN mid o::L)→K (.bool v) H'):cl 22 [.ay (some (x.iE,0)),.ay (some (mid,0)),vi (o.su.length:Int)] H K:=by
 obtain⟨q,c,q2,c2,f1,f2,f3,f4,f5,f6,_⟩:=oZ (mid:=mid) (o:=o) (hS.ord [6]);have CS:dA ou.r:=by obtain⟨_,_,htb⟩:=U.t;exact htb.MQ
 have hUr:=U.r;have hUp:=U.ps;rw[ack];have RV:∀K:KP,cl 15 [.ay (some (x.iE,0))] H K=K (.agg u.r.cs) H:=fun K=>Qm hS
 have WT:∀K:KP,cl 24 [.ay (some (x.iE,0))] H K=K (vi (u.ps.length:Int)) H:=fun K=>MH hS
 refine hG (fun S:Am.St=>S=St.mk (ab [(27,tb (!(dm u.r.cs o.r.cs&&decide (u.ps.length=o.ps.length))))]) (ab []) H) (fun(S:Am.St) Jo=> ?_) (fun Q hQ=> ?_)
 ·subst Jo;simp only[AN,reduceIte];by_cases he:dm u.r.cs o.r.cs=true∧u.ps.length=o.ps.length
  ·have CL:ou.r=o.r:=by
    rw[←hUr];refine(dA.ext (r:=o.r) RA ?_ ((R.rJ _ _).1 he.1));rw[hUr];exact CS.nz
   simp only[he.1,he.2,decide_true,Bool.and_self,Bool.not_true,ah];refine Ha hm hg hcap U hb ho CL hl o.su.length 0 (by omega) hS (fun hall H1 h1=> ?_) (fun hne H1 h1=> ?_)
   ·simp only[AN];exact k true H1 ⟨fun _=>⟨CL,by rw[←hUp];exact he.2,fun j hj=>hall j (Nat.zero_le _) hj⟩,fun _=>rfl⟩ h1
   ·simp only[AN,reduceIte];obtain⟨j,hj,hne⟩:=hne;exact k false H1 ⟨fun e=>(by cases e),fun e=>absurd (e.2.2 j hj) hne⟩ h1
  ·have e:(dm u.r.cs o.r.cs&&decide (u.ps.length=o.ps.length))=false:=by
    rw[←Bool.not_eq_true,Bool.and_eq_true,decide_eq_true_eq];exact he
   rw[e];simp only[Bool.not_false,ao];refine k false H ⟨fun e=>(by cases e),fun e=>absurd (?_:dm u.r.cs o.r.cs=true∧u.ps.length=o.ps.length) he⟩ hS;rw[hUr,hUp,e.1];exact⟨R.eq_self _,e.2.1⟩
 ·have fin:Q (St.mk (ab [(27,tb (!(dm u.r.cs o.r.cs&&decide (u.ps.length=o.ps.length))))]) (ab []) H):=hQ _ rfl;simp only[isSome_some,Nat.zero_add,RV,WT,f3,f4,f5,f6,R.dv,R.dX,AN];cases hce:dm u.r.cs o.r.cs
  ·rw[hce] at fin;simp only[Bool.false_and,Bool.not_false,Bool.not_true,ah,and_self] at fin⊢;exact fin
  ·rw[hce] at fin;have e5:decide (((u.ps.length:Nat):Int)=((o.ps.length:Nat):Int))=decide (u.ps.length=o.ps.length):=decide_eq_decide.2 (by omega);simp only[Bool.true_and,Bool.not_false,Bool.not_true,ao,and_self] at fin⊢;by_cases hp:u.ps.length=o.ps.length
   ·have AA:((u.ps.length:Nat):Int)=((o.ps.length:Nat):Int):=by omega
    simp only[hp,decide_true] at fin⊢
    first|exact fin|exact⟨fin,fin⟩
   ·have AA:¬((u.ps.length:Nat):Int)=((o.ps.length:Nat):Int):=by omega
    simp only[hp,AA,decide_false] at fin⊢
    first|exact fin|exact⟨fin,fin⟩
end
theorem CH:∀(bM:List Int) (bs:List Bk),(∀x∈bs,x=fp∨x=zG)→∀x∈sk bs bM,x=fp∨x=zG
 |[],bs,h=>h
 |i::bM,bs,h=>CH bM _ (fun x hx=>by
  rcases mem_or_eq_of_mem_set hx with hx|rfl
  ·exact h x hx
  ·exact .inr rfl)
theorem CI {b:Nat}:∀(bM:List Int) (bs:List Bk),(∀i∈bM,i.toNat≠b)→(sk bs bM).getD b fp=bs.getD b fp
 |[],bs,h=>rfl
 |i::bM,bs,h=>by
  rw[sk,CI bM _ (fun j hj=>h j (mem_cons_of_mem _ hj)),getD_eq_getElem?_getD,getD_eq_getElem?_getD,List.getElem?_set,if_neg (h i mem_cons_self)]
theorem o0 {g:cy} (hg:g.In) (hn:g.zC):g.cap<65000:=by
 have Lm:=cy.kN g hg.b.2;have h1:=hn.2.2.1;have h2:=hn.2.2.2.1;have h3:=hn.2.2.2.2.1
 have:g.aB*((g.us.length:Int)-g.aI-1)≤32*62:=by
  by_cases h0:0≤(g.us.length:Int)-g.aI-1
  ·exact Int.mul_le_mul h2 (by omega) h0 (by omega)
  ·have:=Int.mul_nonpos_of_nonneg_of_nonpos (a:=g.aB) (b:=(g.us.length:Int)-g.aI-1) (by omega) (by omega);omega
 have hc:g.cap=g.aB*((g.us.length:Int)-g.aI-1)-2:=rfl;omega
theorem Lf {g:cy} (hn:g.zC) (hc:0<g.cap):g.aI+1≤g.us.length:=by
 by_cases h0:0<(g.us.length:Int)-g.aI-1
 ·omega
 ·have h1:=hn.2.2.1;have:=Int.mul_nonpos_of_nonneg_of_nonpos (a:=g.aB) (b:=(g.us.length:Int)-g.aI-1) (by omega) (by omega);have Hi:g.cap=g.aB*((g.us.length:Int)-g.aI-1)-2:=rfl;omega
open Classical in
theorem WX {g:cy} (hform:g.df=true) (hl:g.bM.length≤1000000) (Ty:∀i∈g.bM,0≤i∧i<g.aG):Up g (Bh g.aG.toNat g.aB g.bM) (vn g.cap.toNat) [] 0 0:=by
 have hn:=cy.dU hform;have hg:=hn.in hl;have hcap:=cy.jf hform;have hlt:=o0 hg hn;have hall:∀x∈(Bh g.aG.toNat g.aB g.bM).bs,x=fp∨x=zG:=CH _ _ (fun x hx=>.inl (eq_of_mem_replicate hx))
 have hlen:(Bh g.aG.toNat g.aB g.bM).bs.length=g.aG.toNat:=by
  show (sk _ _).length=_
  rw[BT,length_replicate]
 have tL:∀x∈(Bh g.aG.toNat g.aB g.bM).bs,x.pg=[]:=fun x hx=>by rcases hall x hx with rfl|rfl<;>rfl
 have hb:g.aG=((g.aG.toNat:Nat):Int):=by have:=hn.1;omega
 have hbk:∀b∈g.us,(Bh g.aG.toNat g.aB g.bM).bk b=fp:=fun b hb=>by
  have hnb:¬(b:Int)∈g.bM:=by
   unfold cy.us at hb;have:=(mem_filter.1 hb).2;simpa using this
  show (sk _ _).getD b fp=_
  rw[CI _ _ (fun i hi e=>hnb (by have:=Ty i hi;have:i=(b:Int):=by omega
                                 rw[←this];exact hi)),getD_eq_getElem?_getD,List.getElem?_replicate]
  split<;>rfl
 have hvw:∀b,vw g (Bh g.aG.toNat g.aB g.bM) b=[]:=fun b=>by
  by_cases hu:b∈g.us
  ·exact z6 (.inl (by rw[hbk b hu];rfl))
  ·exact wu b hu
 have hc0:∀x,vv (vn g.cap.toNat).su [] x=[]:=fun x=>by
  unfold vv vn;simp only;split
  ·rw[getD_eq_getElem?_getD,List.getElem?_replicate];split<;>rfl
  ·split<;>rfl
 have no:∀b f,f∉vw g (Bh g.aG.toNat g.aB g.bM) b:=fun b f hf=>by rw[hvw b] at hf;cases hf
 refine⟨⟨[], ?_,.inl ⟨rfl,rfl⟩⟩,rfl,rfl,rfl,rfl,WQ (by omega) (by omega),by show (((List.replicate g.cap.toNat ([]:List UInt8)).length:Nat):Int)=_;rw[length_replicate];omega⟩;refine⟨⟨?_,rfl,fun x hx=>(by rw[tL x hx];have:=hn.2.2.1;show ((0:Nat):Int)≤_;omega),fun x hx d hd=>(by rw[tL x hx] at hd;cases hd),fun b hb e=>(by rw[hbk b hb] at e;cases e),fun b hb _=>(by rw[hbk b hb];exact⟨Int.le_refl _,rfl,rfl⟩)⟩, ?_, ?_,fun b f hf=>absurd hf (no b f),fun i hi j hj _ _ h=>absurd (hvw i) h.1⟩
 ·rw[hlen];omega
 ·exact⟨fun b f hf=>absurd hf (no b f),fun x=>.inl ⟨hc0 x,fun b f hf=>absurd hf (no b f)⟩,fun b f hf=>absurd hf (no b f),fun b f hf=>absurd hf (no b f),fun b f hf=>absurd hf (no b f),fun b f hf=>absurd hf (no b f)⟩
 ·intro _;have:ku g (Bh g.aG.toNat g.aB g.bM)=0:=countP_eq_zero.2 (fun b hb e=>xp (hvw b) (of_decide_eq_true e).2);rw[this];have:=Lf hn hcap;omega
section
variable {B:ai} {L:List cw} {H:ai} {K:KP} {m:Gm} {o:Ob} {ds:List Nat} {N b aK:Nat} {a:Ar}
theorem wJ (h:aA B H (cS aK a::L)) (hm:dz B L m) (hform:m.g.df=true) (hg:m.g.In) (U:Up m.g a o ds N b) (hb:b<2147483648) (ha:a.bD≤0) {ep:Nat} (Rc:1≤ep∧ep<281474976710656) (hf:a.aR≤ep) (k:∀x v H',x.aK=aK→Ug m.g v o ds N b→v.s.a.bD≤0→v.s.a.aR=a.aR→v.s.f.ep=ep→(∃sq:Int→Nat,(∀y:Int,sq y=((jK y.toNat (a.Bg m.g)).map fun f=>f.s.seq).getD 0)∧uM m.g (cK m.g sq a ep).1=some v)→eQ B H' x m v L→K (.tuple [.ay (some (x.iE,0)),vi 0]) H'):cl 13 [.ay (some (aK,0)),m.v,.int .u64 (ep:Int)] H K:=by
 have hn:=cy.dU hform;have hc:0≤m.g.cap∧m.g.cap<65000:=⟨by have:=cy.jf hform;omega,o0 hg hn⟩;obtain⟨t,Nv,_⟩:=U.t
 have hno:∀sq,(cK m.g sq a ep).2=0∧∃v,uM m.g (cK m.g sq a ep).1=some v∧v.s=(cK m.g sq a ep).1∧Ug m.g v o ds N b:=fun sq=>by
  obtain⟨kp,h1⟩:=U.mount hg hc Rc hf hb sq;rcases h1 with h1|⟨_,h1⟩
  ·exact h1
  ·exfalso;have h2:=h1.off;have:=(kp.arm ha).2;rw[this] at h2;have h3:a.off=true:=h2;rw[U.on] at h3;cases h3
 refine CA h hm hform hg (Nv.rd U.on) hc Rc (fun sq _=>by
  obtain⟨_,v,h1,_⟩:=hno sq
  exact⟨v,h1⟩) (fun pz x v H' hx E7 h0 hok huM hS=> ?_) (fun pz H' E7 h0 hok hS=>absurd (hno (eG pz)).1 h0)
 obtain⟨_,v',h1,h2,h3⟩:=hno (eG pz);rw[huM] at h1;cases h1;obtain⟨kp,_⟩:=U.mount hg hc Rc hf hb (eG pz);refine k x v H' hx h3 ?_ ?_ ?_ ⟨eG pz,fun y=> ?_,huM⟩ hS
 ·rw[h2];exact(kp.arm ha).1
 ·rw[h2];exact kp.aR
 ·rw[h2];exact kp.ep
 ·unfold eG;rw[←E7,wj];cases mv y.toNat pz<;>rfl
end
end Go.Proofs.YtlgdkndamddpkaaGreat
end
section
namespace Go.Proofs.YtlgdkndamddpkaaGreat
open Go.Am
theorem EM {p:Nat→Bool}:∀{l ds:List Nat},l.Nodup→(∀b∈l,p b=true→b∈ds)→l.countP p≤ds.length
 |l,ds,hn,h=>by
  rw[countP_eq_length_filter];exact List.Nodup.length_le_of_subset (hn.sublist filter_sublist) (fun b hb=>h b (mem_filter.1 hb).1 (mem_filter.1 hb).2)
section
variable {g:cy} {u:Un} {o:Ob} {ds:List Nat} {N b:Nat}
theorem Ug.c3 (h:Ug g u o ds N b):u.s.f.po.count 3≤ds.length:=by
 obtain⟨t,ht,_⟩:=h.t;rw[←ht.l7 (a:=u.s.a) (fun _ _=>rfl)]
 exact EM (nV g) (fun b hb e=>Classical.byContradiction fun hn=>by
  have:=(ht.ph.doom b hb hn).2.2
  rw[this] at e;cases e)
theorem abd (hg:g.In) (hform:g.df=true) (h:Ug g u o ds N b) (hds:(ds.length:Int)≤g.aI) (ha:u.s.a.bD≤0) (hh:Int) (c:Cm) (bV:List UInt8) (hd:c.dn=bV.length) (X9:0≤c.nw∧c.nw≤4294967295) (hN:N+9*CW<281474976710656):∃v,Ud g u hh c bV=some (v,(ss o hh c bV).2,0)∧Kp u.s v.s (9*CW)∧Ug g v (ss o hh c bV).1 ds (N+9*CW) b:=by
 have hn:=cy.dU hform;obtain⟨r,h1,h2,h3⟩:=Qr hg hform (o0 hg hn) h hh c bV hd X9 hN;rcases h3 with⟨e1,e2,h3⟩|⟨_,_,_,_,e1,j,_,h3⟩|⟨_,h3⟩
 ·exact⟨r.1,by rw[h1, ←e2, ←e1],h2,h3⟩
 ·exfalso;have:=h3.c3;omega
 ·exfalso;have h4:=h3.off;rw[(h2.arm ha).2] at h4;obtain⟨t,ht,_⟩:=h.t;rw[ht.on] at h4;cases h4
theorem abe (hg:g.In) (hform:g.df=true) (h:Ug g u o ds N b) (hds:(ds.length:Int)≤g.aI) (ha:u.s.a.bD≤0) (hN:N+9*CW<281474976710656):∃v,XU g u=some (v,0)∧Kp u.s v.s (9*CW)∧Ug g v (gR o) ds (N+9*CW) b:=by
 have hn:=cy.dU hform;obtain⟨t,ht,_⟩:=h.t;obtain⟨r,h1,h2,h3⟩:=Qs hg hform (o0 hg hn) h hN;rcases h3 with⟨e1,h3⟩|⟨_,e1,j,_,h3⟩|⟨_,h3⟩
 ·exact⟨r.1,by rw[h1, ←e1],h2,h3⟩
 ·exfalso;have:=h3.c3;omega
 ·exfalso;have h4:=h3.off;rw[(h2.arm ha).2,ht.on] at h4;cases h4
end
section
variable {B:ai} {L:List cw} {H:ai} {K:KP} {x:Ui} {m:Gm} {u:Un} {o:Ob} {ds:List Nat} {N b:Nat}
theorem Ug.rok {g:cy} (h:Ug g u o ds N b):dA u.r:=by rw[h.r];obtain⟨_,_,htb⟩:=h.t;exact htb.MQ
theorem Jg (hm:dz B L m) (hg:m.g.In) (hform:m.g.df=true) (h:eQ B H x m u L) (U:Ug m.g u o ds N b) (hb:b<2147483648) (hds:(ds.length:Int)≤m.g.aI) (ha:u.s.a.bD≤0) (hh:Int) (c:Cm) (bV:List UInt8) (hd:c.dn=bV.length) (hr:lU B L c.dp bV) (X9:0≤c.nw∧c.nw≤4294967295) (hN:N+9*CW<281474976710656) (k:∀v q n H',Ud m.g u hh c bV=some (v,(ss o hh c bV).2,0)→Kp u.s v.s (9*CW)→Ug m.g v (ss o hh c bV).1 ds (N+9*CW) b→eQ B H' x m v (BY q n (ss o hh c bV).2.d::L)→K (.tuple [.agg ((ss o hh c bV).2.cs q n),vi 0]) H'):cl 16 [.ay (some (x.iE,0)),vi hh,.agg c.cs] H K:=by
 obtain⟨v,h1,h2,h3⟩:=abd hg hform U hds ha hh c bV hd X9 hN;have hn:=cy.dU hform;exact Jd hm hg ⟨by have:=cy.jf hform;omega,o0 hg hn⟩ h U.ok hh c bV hd hr (U.rok.doR hh c X9).ok (by rw[U.boots];omega) h1 (fun q n H' h'=>k v q n H' h1 h2 h3 h')
theorem WY (hm:dz B L m) (hg:m.g.In) (hform:m.g.df=true) (h:eQ B H x m u L) (U:Ug m.g u o ds N b) (hds:(ds.length:Int)≤m.g.aI) (ha:u.s.a.bD≤0) (hN:N+9*CW<281474976710656) (k:∀v H',XU m.g u=some (v,0)→Kp u.s v.s (9*CW)→Ug m.g v (gR o) ds (N+9*CW) b→eQ B H' x m v L→K (vi 0) H'):cl 25 [.ay (some (x.iE,0))] H K:=by
 obtain⟨v,h1,h2,h3⟩:=abe hg hform U hds ha hN;have hn:=cy.dU hform;exact Qo hm hg ⟨by have:=cy.jf hform;omega,o0 hg hn⟩ h U.ok h1 (fun H' h'=>k v H' h1 h2 h3 h')
end
section
variable {B:ai} {L:List cw} {H:ai} {K:KP}
theorem Hb {g:cy}:∀(l pre:List Int),g.xl pre l=true→∀i∈l,0≤i∧i<g.aG
 |[],_,_,i,hi=>by cases hi
 |j::l,pre,h,i,hi=>by
  rw[cy.xl,Bool.and_eq_true] at h;have h1:=of_decide_eq_true h.1;rcases mem_cons.1 hi with rfl|hi
  ·exact⟨by omega,h1.2.1⟩
  ·exact Hb l _ h.2 i hi
theorem QA {g:cy} (h:g.df=true):∀i∈g.bM,0≤i∧i<g.aG:=by
 unfold cy.df at h;rw[Bool.and_eq_true,Bool.and_eq_true] at h;exact Hb _ _ h.2.1
theorem Lg {m:Gm} (h:aA B H L) (hm:dz B L m) (hform:m.g.df=true) (hg:m.g.In) (k:∀aK a H',Up m.g a (vn m.g.cap.toNat) [] 0 0→a.bD≤0→a.aR=0→a=Bh m.g.aG.toNat m.g.aB m.g.bM→aA B H' (cS aK a::L)→K (.tuple [.ay (some (aK,0)),vi 0]) H'):cl 12 [vi m.g.aG,vi m.g.aB,.slice m.q m.g.bM.length m.c] H K:=by
 have hn:=cy.dU hform;have Ty:=QA hform;refine OX h m.g.aG m.g.aB hm.r hg.l (fun hno=>absurd ⟨by have:=hn.1;omega,hn.2.1,by have:=hn.2.2.1;omega,hn.2.2.2.1,Ty⟩ hno) (fun _ aK H' h'=> ?_);exact k aK _ H' (WX hform hg.l Ty) (Int.le_refl _) rfl rfl h'
theorem QB:(Wh 1).cap=4:=by decide+kernel
def awA:Ob:=⟨[[],[],[],[]],[⟨0,[97],false⟩],R.gk⟩
def XV:Ob:=⟨[[97],[],[],[]],[],R.gk⟩
def awC:Ob:=⟨[[97],[],[],[]],[⟨0,[98],false⟩],R.gk⟩
theorem adK (q:Oq):ss (vn 4) 0 ⟨1,0,q,1,1,false,0,0,0,false⟩ [97]=(awA,⟨0,[],R.zero⟩):=rfl
theorem adL:gR awA=XV:=rfl
theorem adM (q:Oq):ss XV 0 ⟨1,0,q,1,1,false,0,0,0,false⟩ [98]=(awC,⟨0,[],R.zero⟩):=rfl
theorem adN:gS awC false=XV:=rfl
theorem adO:ss XV 0 ⟨0,0,none,0,0,false,0,0,0,false⟩ []=(XV,⟨0,[97],R.zero⟩):=rfl
theorem abf (h:aA B H L) (b:UInt8):aA B (H.alloc (.cells 5 [V.int .u8 b.toNat] false)) (BY (some (H.next,0)) 1 [b]::L):=
 h.DP (el:=5) (n:=1) (len:=1) (c:=1) (l:=[V.int .u8 b.toNat]) (cs:=bu [b]) rfl (jI _) (by omega) (by simp) rfl
theorem QC (h:aA B H L) (k:∀H',aA B H' L→K (.bool true) H'):cl 10 [] H K:=by
 rw[aca];refine xm h 1 (by omega) (fun m H1 QZ hmc h1=> ?_);have hform:m.g.df=true:=by rw[QZ];exact F6 1 (by omega)
 have hl:m.g.bM.length≤1000000:=by rw[QZ];decide
 have hg:=(cy.dU hform).in hl;have hcap:m.g.cap.toNat=4:=by rw[QZ,QB];rfl
 have hds:(([]:List Nat).length:Int)≤m.g.aI:=by have:=hg.s;simp;omega
 have Nx:∀L:List cw,dz B (J9 m::L) m:=fun L=>J9.ok hmc
 have hv:m.v=.agg (dI m.g.aG m.g.aB m.g.aI m.q m.g.bM.length m.c):=rfl;rw[hv];simp only[fJ,dH,Bool.and_self,az,f25,xD,Jw,Jx,Jy,bh,bA,aQ,cE];refine Lg h1 (Nx L) hform hg (fun aK a H2 U0 ha0 UC _ h2=> ?_);rw[hcap] at U0;simp only[AN, ←hv];refine wJ h2 (Nx L) hform hg U0 (by omega) (by omega) (ep:=1) ⟨by omega,by omega⟩ (by rw[UC];decide) (fun x u H3 hx U1 Np Tm he1 _ h3=> ?_)
 have hw:∀(H:ai) (b:Int),ai.wr (H.alloc (.cells 5 [V.int .u8 b] false)) H.2 0 0=true:=fun H b=>by
  rw[fE (ai.vW _ _)];rfl
 simp only[AN,Cm.Ah,hw];have h4:eQ B _ x m u (BY (some (H3.next,0)) 1 [97]::J9 m::L):=(abf h3 97).ord [1,1,1,1,1,1];refine Jg ((Nx L).bK _) hg hform h4 U1 (by omega) hds Np 0 ⟨1,0,some (H3.next,0),1,1,false,0,0,0,false⟩ [97] rfl lU.byt ⟨Int.le_refl 0,by show (0:Int)≤_;omega⟩ (by decide) (fun u2 q2 n2 H5 hd2 kp2 U2 h5=> ?_);rw[adK] at U2;have h6:eQ B H5 x m u2 (J9 m::L):=(h5.ord [6,6]).drop.drop;have Ux:=(kp2.arm Np).1;simp only[AN,Rs.aM];refine WY (Nx L) hg hform h6 U2 hds Ux (by decide) (fun u3 H7 Rv kp3 U3 h7=> ?_);rw[adL] at U3;have ha3:=(kp3.arm Ux).1;simp only[AN];have h8:eQ B _ x m u3 (BY (some (H7.next,0)) 1 [98]::J9 m::L):=(abf h7 98).ord [1,1,1,1,1,1];refine Jg ((Nx L).bK _) hg hform h8 U3 (by omega) hds ha3 0 ⟨1,0,some (H7.next,0),1,1,false,0,0,0,false⟩ [98] rfl lU.byt ⟨Int.le_refl 0,by show (0:Int)≤_;omega⟩ (by decide) (fun u4 q4 n4 H9 hd4 kp4 U4 h9=> ?_);rw[adM] at U4;have ha4:=(kp4.arm ha3).1;have hf4:u4.s.a.aR=0:=by rw[kp4.aR,kp3.aR,kp2.aR,Tm,UC]
 have AR:aA B H9 (cS aK u4.s.a::J9 m::L):=by
  have:=(h9.ord [6,6]).drop.drop.drop.drop.drop.drop.drop;rw[hx] at this;exact this
 obtain⟨t4,ht4,_⟩:=U4.t;have U5:=U4.leave u4.s.a rfl rfl ht4.on ht4.way rfl;rw[adN] at U5;simp only[AN,Rs.aM];refine wJ AR (Nx L) hform hg U5 (by omega) ha4 (ep:=2) ⟨by omega,by omega⟩ (by rw[hf4];decide) (fun x2 v H11 vD U6 ha6 hf6 he6 _ CR=> ?_);simp only[AN];refine Jg (Nx L) hg hform CR U6 (by omega) hds ha6 0 ⟨0,0,none,0,0,false,0,0,0,false⟩ [] rfl (lU.nil _ _ _) ⟨Int.le_refl 0,by show (0:Int)≤_;omega⟩ (by decide) (fun v2 q6 n6 H12 hd6 kp6 U7 h12=> ?_);have yk:mu H12 q6 [97]:=(h12.ord [6]).iJ;rw[adO] at U7;have hs1:eY H12 q6 1=true:=yk.eY;have oh:eZ H12 q6 1=cM [97]:=yk.eZ;have e5:(ss XV 0 ⟨0,0,none,0,0,false,0,0,0,false⟩ []).2=⟨0,[97],R.zero⟩:=rfl;rw[e5];have Q7:eQ B H12 x2 m v2 (J9 m::L):=(h12.ord [6]).drop;simp only[AN,Rs.aM,Rs.n1,hs1,oh,qj];rw[MI Q7];have Rc:(v2.s.f.ep:Int)=2:=by rw[kp6.ep,he6];rfl
 simp only[AN,Rc];exact k H12 (Q7.ord [6]).drop.drop.drop.drop.drop.drop.drop
end
theorem ml {y:Int} (h:IntKind.u8.min≤y∧y≤IntKind.u8.max):0≤y∧y≤255:=by
 simpa [IntKind.min,IntKind.max,IntKind.bits,IntKind.signed] using h
theorem abg:cV.P.underlying 5=some (.int .u8):=Tryz.underlying5
theorem Hc:cV.P.cellsOf 5=1:=by kernel_rfl
theorem Jh:cV.P.cellsOf 4=1:=by kernel_rfl
theorem Hd:cV.P.cellsOf 36=1:=by kernel_rfl
theorem CJ:cV.P.cellsOf 38=10:=by kernel_rfl
theorem WZ {H:ai} {n:Nat} {cs:List V} (h:Bn cV.P H n 38 cs):∃a:Ac,cs=a.cs∧a.ok H:=by
 obtain⟨hl,m,hf⟩:=MZ (P:=cV.P) Tryz.underlying38 h;rw[CJ] at hl
 match cs,hl with
 |[a0,a1,a2,a3,a4,a5,a6,a7,a8,a9],_=>
  simp only[forall_mem_cons,Hc,Jh,Hd,drop_succ_cons,drop_zero,take_succ_cons,take_zero] at hf;obtain⟨h0,h1,h2,h3,h4,h5,h6,h7,h8,h9,_⟩:=hf;obtain⟨y0,rfl,r0⟩:=qH (P:=cV.P) Tryz.underlying5 h0;obtain⟨y1,rfl,r1⟩:=qH (P:=cV.P) Tryz.underlying5 h1;obtain⟨y2,rfl,r2⟩:=qH (P:=cV.P) Tryz.underlying5 h2;obtain⟨y3,rfl,r3⟩:=qH (P:=cV.P) Tryz.underlying5 h3;obtain⟨y4,rfl,r4⟩:=qH (P:=cV.P) Tryz.underlying5 h4;obtain⟨y5,rfl,r5⟩:=qH (P:=cV.P) Tryz.underlying5 h5;obtain⟨y6,rfl⟩:=Ld (P:=cV.P) Tryz.underlying4 h6;obtain⟨y7,rfl⟩:=Ld (P:=cV.P) Tryz.underlying4 h7;obtain⟨q,len,cap,rfl,hs⟩:=G8 (P:=cV.P) Tryz.underlying36 (Nat.le_of_ble_eq_true (by kernel_rfl)) h8;obtain⟨bs,rfl,hr,_,_⟩:=Qw abg Hc hs;obtain⟨y9,rfl,r9⟩:=qH (P:=cV.P) Tryz.underlying5 h9;exact⟨⟨y0,y1,y2,y3,y4,y5,y6,y7,q,cap,bs,y9⟩,rfl,ml r0,ml r1,ml r2,ml r3,ml r4,ml r5,hr,ml r9⟩
theorem Ac.dv (a:Ac):aM XN a.cs=true:=rfl
theorem Ac.dX (a:Ac):o37 a.cs=a.cs:=rfl
theorem M3 {H:ai} {q:Oq} {len cap:Nat} (h:MY cV.P H 38 q len cap):∃sc:List Ac,sc.length=len∧Rd H q (sc.map Ac.cs).flatten∧∀a∈sc,a.ok H:=by
 obtain⟨css,m,h1,h2,h3,_,_⟩:=Tb CJ h
 have key:∀css:List (List V),(∀c∈css,c.length=10∧Bn cV.P H m 38 c)→∃sc:List Ac,sc.map Ac.cs=css∧∀a∈sc,a.ok H:=by
  intro css
  induction css with
  |nil=>exact fun _=>⟨[],rfl,fun a h=>by cases h⟩
  |cons c css ih=>
   intro h;obtain⟨sc,e1,e2⟩:=ih (fun x hx=>h x (mem_cons_of_mem _ hx));obtain⟨a,e3,e4⟩:=WZ (h c (mem_cons_self ..)).2;refine⟨a::sc,by rw[map_cons,e1,e3],fun x hx=> ?_⟩;rcases mem_cons.1 hx with rfl|hx
   ·exact e4
   ·exact e2 x hx
 obtain⟨sc,e1,e2⟩:=key css h3;exact⟨sc,by rw[←h1, ←e1,length_map],by rw[e1];exact h2,e2⟩
theorem QD (sc:List Ac):px 10 (sc.map Ac.cs):=by
 intro c hc;obtain⟨a,_,rfl⟩:=mem_map.1 hc;exact⟨rfl,gf a.dv⟩
theorem Tc {H:ai} {q:Oq} {sc:List Ac} (hr:Rd H q (sc.map Ac.cs).flatten) {i:Nat} (hi:i<sc.length):q.isSome=true∧H.inb (q.getD (0,0)).1 ((q.getD (0,0)).2+i*10) 10=true∧H.sub (q.getD (0,0)).1 ((q.getD (0,0)).2+i*10) 10=sc[i].cs∧H.inb (q.getD (0,0)).1 ((q.getD (0,0)).2+i*10+1) 1=true∧H.cell (q.getD (0,0)).1 ((q.getD (0,0)).2+i*10+1)=.int .u8 sc[i].kd:=by
 obtain⟨a,b,c⟩:=xj hr (QD sc) (by omega) (i:=i) (by simpa using hi);obtain⟨_,d,e⟩:=jT hr (QD sc) (i:=i) (k:=1) (by simpa using hi) (by omega);rw[getElem_map] at c e;exact⟨a,b,c,d,e⟩
theorem He (o:Ob) (p:Pg) (sure:Bool):(nN o p sure).su.length=o.su.length:=by
 unfold nN;split
 ·simp
 ·split
  ·exact cR _ _
  ·rfl
theorem W0 (o:Ob) (h:Int) (c:Cm) (bV:List UInt8):(ss o h c bV).1.su.length=o.su.length:=by
 unfold ss;split
 ·rfl
 ·split
  ·rfl
  ·split
   ·rfl
   ·split
    ·exact He _ _ _
    ·split
     ·exact He _ _ _
     ·split
      ·exact cR _ _
      ·split<;>rfl
theorem Ac.QE (a:Ac) (r:R) (n:Int):0≤(a.cm r n).nw∧(a.cm r n).nw≤4294967295:=by
 show 0≤a.nw % 4∧a.nw % 4≤_
 omega
section
variable {B:ai} {L:List cw} {H:ai} {K:KP} {id:Nat} {o:Ob}
theorem M4 (h:aA B H (cN id o::L)) (ho:o.ok) (hne:o.ps≠[]) (k:∀H',aA B H' (cN id (cq o 1)::L)→K (.tuple []) H'):cl 30 [.ay (some (id,0))] H K:=by
 obtain⟨l,hp,h1⟩:=aA.GV h;obtain⟨p,ps,e⟩:=exists_cons_of_ne_nil hne;have hs:=ho.sort;have h8:=ho.le8;have hin:=ho.inr p (by rw[e];exact mem_cons_self);rw[e] at hp hs h8;refine Cp h1 hp hs h8 hin (fun l' H' AA h'=>k H' ?_);have e1:cq o 1=⟨o.su.set p.au.toNat p.data,ps,o.r⟩:=by unfold cq;rw[e];rfl
 rw[e1];exact aA.ng (o:=⟨o.su.set p.au.toNat p.data,ps,o.r⟩) h' AA
end
theorem W3:fw cV 57=some (9,1,16,[V.cL (cM [])]):=by kernel_rfl
theorem W4:ir (bq cV 57)=true:=by kernel_rfl
theorem abh:bn [V.cL (cM [])]:=fun v hv=>by rw[mem_singleton] at hv;subst hv;rfl
section
variable {B:ai} {L:List cw} {H:ai} {K:KP} {id:Nat} {o:Ob}
theorem Hf (h:aA B H (cN id o::L)) (ho:o.ok) (hsz:o.su.length≤65536) (k:∀id' H',aA B H' (cN id' o::cN id o::L)→K (.ay (some (id',0))) H'):cl 29 [.ay (some (id,0))] H K:=by
 obtain⟨l,hp,h1⟩:=aA.GV h;obtain⟨q,c,q2,c2,h2⟩:=aA.Qh h1;obtain⟨f1,f2,f3,f4,f5,f6,_⟩:=bW h2.get;have hl8:l.length≤8:=by rw[vp hp];exact ho.le8
 rw[adv];simp only[NQ,isSome_some,getD_some,az,Nat.zero_add,f5,f6,R.dv,Bool.and_self];obtain⟨H1,e1,a1⟩:∃H1,H.alloc (.cells 60 (pC none 0 0 none 0 0 o.r) false)=H1∧aA B H1 _:=⟨_,rfl,h2.alloc 60 (pC none 0 0 none 0 0 o.r)⟩;unfold pC at e1;simp only[R.cs,TF,TG,TH,TJ,TK,TM,TN,TO,N1,N2,N3,N4,bh,ct,e1];obtain⟨n1,n2,n3,n4,_,_,n7,n8⟩:=bW a1.get;have a2:=a1.up 1;simp only[eO,eJ] at a2;obtain⟨g1,g2,g3,g4,_⟩:=bW a2.get;have a3:=a1.up 2;simp only[eO,eJ] at a3;have A:=fun K=>(a1.rwNil 9 1).OJ (t:=57) (u:=57) (c2:=c) (K:=K) W3 W4 abh rfl (by omega) a3.kM (Al _) (by simp;omega)
 simp only[length_map,length_nil,Nat.zero_add,nil_append] at A;simp only[n1,n2,g1,g2,bL,bA,aQ,cE,Bool.and_self,az];refine A _ (fun q' c' H2 b1=> ?_);have b2:aA B H2 (cP H.next 60 (pC none 0 0 none 0 0 o.r)::_):=b1.ord [1];obtain⟨i1,i2,i3,i4,_,_,i7,i8⟩:=bW b2.get;have b3:=b2.store (off:=0) (vs:=[V.slice q' o.su.length c']);have e2:bH (pC none 0 0 none 0 0 o.r) 0 [V.slice q' o.su.length c']=pC q' o.su.length c' none 0 0 o.r:=rfl;rw[e2] at b3;have w0:H2.wr H.next 0 1=true:=by rw[fE b2.get];rfl
 obtain⟨H3,e3⟩:∃H3,H2.store H.next 0 [V.slice q' o.su.length c']=H3:=⟨_,rfl⟩;rw[e3] at b3;obtain⟨j1,j2,j3,j4,_,_,j7,j8⟩:=bW b3.get;have b4:=b3.up 2;simp only[eO,eJ] at b4;obtain⟨m1,m2,m3,m4,_⟩:=bW b4.get;have b5:=b3.up 4;simp only[eO,eJ] at b5;have A2:=fun K=>(b3.rwNil 109 2).OJ (t:=58) (u:=58) (c2:=c2) (K:=K) EG EH I9 rfl (by omega) b5.kM (wE _) (by simp;omega)
 simp only[length_map,length_nil,Nat.zero_add,nil_append] at A2;simp only[w0,e3,j3,j4,m3,m4,bL,bA,aQ,cE,Bool.and_self,az];refine A2 _ (fun q3 c3 H4 b6=> ?_);have b7:aA B H4 (cP H.next 60 (pC q' o.su.length c' none 0 0 o.r)::_):=b6.ord [1];have b8:=b7.store (off:=1) (vs:=[V.slice q3 l.length c3]);have e4:bH (pC q' o.su.length c' none 0 0 o.r) 1 [V.slice q3 l.length c3]=pC q' o.su.length c' q3 l.length c3 o.r:=rfl;rw[e4] at b8;have w1:H4.wr H.next 1 1=true:=by rw[fE b7.get];rfl
 simp only[w1,az];have b9:aA B _ (oa H.next o.su l o.r::_):=aA.vo (b8.ord [0,1,0]);have b10:aA B _ (cN H.next o::_):=aA.ng b9 hp;have b11:aA B _ (oa id o.su l o.r::_):=aA.vo (b10.ord [1,1,1]);have b12:aA B _ (cN id o::_):=aA.ng b11 hp;exact k _ _ (b12.ord [1])
end
def Ar.doom (a:Ar) (i:Nat) (n:Int):Ar:={a with bs:=a.bs.set i (BR (a.bk i) n)}
theorem Lh {a:Ar} {i:Nat} (hi:i<a.bs.length) (n:Int) (j:Nat):(a.doom i n).bk j=if j=i then BR (a.bk i) n else a.bk j:=by
 show (a.bs.set i (BR (a.bk i) n)).getD j fp=if j=i then BR (a.bk i) n else a.bs.getD j fp
 simp only[getD_eq_getElem?_getD,List.getElem?_set];by_cases h:j=i
 ·subst h;simp [hi]
 ·have:¬i=j:=fun e=>h e.symm
  simp [h,this]
theorem jN {a:Ar} {i:Nat} (hi:i<a.bs.length) (n:Int) (j:Nat):((a.doom i n).bk j).pg=(a.bk j).pg∧((a.doom i n).bk j).cu=(a.bk j).cu∧((a.doom i n).bk j).aV=(a.bk j).aV∧((a.doom i n).bk j).bd=(a.bk j).bd:=by
 rw[Lh hi n j];by_cases h:j=i
 ·rw[if_pos h,h];exact⟨rfl,rfl,rfl,rfl⟩
 ·rw[if_neg h];exact⟨rfl,rfl,rfl,rfl⟩
theorem vx {a:Ar} {i:Nat} (hi:i<a.bs.length) (n:Int) {b:Bk} (hb:b∈(a.doom i n).bs):∃b'∈a.bs,b.pg=b'.pg:=by
 rcases mem_or_eq_of_mem_set hb with hb|rfl
 ·exact⟨b,hb,rfl⟩
 ·exact⟨a.bk i,jd hi,rfl⟩
section
variable {g:cy} {u:Un} {o:Ob} {ds:List Nat} {N b:Nat}
theorem Td {a:Ar} {i:Nat} (hi:i<a.bs.length) (n:Int):vw g (a.doom i n)=vw g a:=by
 funext j;obtain⟨e1,e2,_,_⟩:=jN hi n j;by_cases hj:j∈g.us
 ·rw[Cb hj,Cb hj];unfold Bk.eT;rw[e1,e2]
 ·rw[wu _ hj,wu _ hj]
theorem rD.W5 {a:Ar} {i:Nat} (h:rD g a ds) (hi:i<a.bs.length) (n:Int):rD g (a.doom i n) (i::ds) where
 n:=by show ((a.bs.set i _).length:Int)=_;rw[length_set];exact h.n
 p:=h.p
 len:=fun b hb=>by obtain⟨b',hb',e⟩:=vx hi n hb;rw[e];exact h.len b' hb'
 d:=fun b hb=>by obtain⟨b',hb',e⟩:=vx hi n hb;rw[e];exact h.d b' hb'
 cu:=fun b hb hh=>by
  obtain⟨e1,e2,_,_⟩:=jN hi n b;rw[e1];rw[e2] at hh;exact h.cu b hb hh
 doom:=fun b hb hn=>by
  have h1:b≠i:=fun e=>hn (by rw[e];exact mem_cons_self)
  rw[Lh hi n b,if_neg h1];exact h.doom b hb (fun hd=>hn (mem_cons_of_mem _ hd))
def Un.doom (u:Un) (i:Nat) (n:Int):Un:={u with s:={u.s with a:=u.s.a.doom i n}}
theorem Ug.doom (h:Ug g u o ds N b) {i:Nat} (hi:i<u.s.a.bs.length) (n:Int):Ug g (u.doom i n) o (i::ds) N b:=by
 obtain⟨t,ht,htb⟩:=h.t;have hv:=Td (g:=g) hi n;have mq:∀j,(u.doom i n).s.next j=u.s.next j:=fun j=>congrArg List.length (jN hi n j).1
 refine {t:=⟨t, ?_,htb⟩,boots:=h.boots,ps:=h.ps,r:=h.r,dn:=h.dn,ook:=h.ook,len:=h.len,cB:=h.cB}
 exact {
  ok:={n:=by show ((u.s.a.bs.set i _).length:Int)=_;rw[length_set];exact ht.ok.n
       p:=ht.ok.p
       len:=fun b hb=>by obtain⟨b',hb',e⟩:=vx hi n hb;rw[e];exact ht.ok.len b' hb'
       d:=fun b hb=>by obtain⟨b',hb',e⟩:=vx hi n hb;rw[e];exact ht.ok.d b' hb'
       pm:=ht.ok.pm,nb:=ht.ok.nb,na:=ht.ok.na,po:=ht.ok.po,us:=ht.ok.us,seq:=ht.ok.seq,ep:=ht.ok.ep}
  on:=ht.on,way:=ht.way,aR:=ht.aR,ep:=ht.ep
  ph:=ht.ph.W5 hi n
  gd:=by show Gd (vw g (u.s.a.doom i n)) _;rw[hv];exact ht.gd
  cx:=by show∀x,(u.s.f.pm.at x=none∧∀b,∀f∈vw g (u.s.a.doom i n) b,_)∨∃b p,_∧∃f∈vw g (u.s.a.doom i n) b,_∧xn (vw g (u.s.a.doom i n)) _ x f;rw[hv];exact ht.cx
  seq:=by show∀b,∀f∈vw g (u.s.a.doom i n) b,_;rw[hv];exact ht.seq
  sn:=ht.sn
  bd:=fun b hb=>by
   show u.s.f.po.how b=some 3↔((u.s.a.doom i n).bk b).aV=true
   rw[(jN hi n b).2.2.1];exact ht.bd b hb
  hf:=fun b hb hh=>by
   show ((u.s.a.doom i n).bk b).cu=false
   have hh:((u.s.a.doom i n).bk b).aV=false:=hh;rw[(jN hi n b).2.2.1] at hh;rw[(jN hi n b).2.1];exact ht.hf b hb hh
  dD:=fun b hb h1 h2=>(mq b).trans (ht.dD b hb h1 h2)
  gj:=by show∀b∈g.us,_→vw g (u.s.a.doom i n) b=[]∨lq (vw g (u.s.a.doom i n)) b;rw[hv];exact ht.gj
  kF:=fun b hb h1=>by
   rcases ht.kF b hb h1 with h2|h2|h2
   ·exact .inl (by show vw g (u.s.a.doom i n) b=[];rw[hv];exact h2)
   ·exact .inr (.inl (by show lq (vw g (u.s.a.doom i n)) b;rw[hv];exact h2))
   ·exact .inr (.inr (by rw[mq];exact h2))
  El:=fun d v e=>by cases e
  Hz:=fun e=>absurd rfl e,one:=ht.one,rT:=ht.rT}
end
abbrev unL (x:Ui) (m:Gm) (u:Un) (L:List cw):List cw:=cP x.iE 93 (K8 x m u)::eK x.yh u.ps::cP x.fid 120 (Py x.aK m u.s.f x.mid x.pid)::tl x.mid u.s.f.pm::Bl x.pid u.s.f.po::cS x.aK u.s.a::L
def Un.arm (u:Un) (n:Int):Un:={u with s:={u.s with a:={u.s.a with bD:=n}}}
structure Re (g:cy) (a:Ar) (o o':Ob) (ds:List Nat) (N b:Nat):Prop where
 way:pe a
 up:∀cut:Int,∃q,(q=o∨q=o')∧∃i,i≤8∧Up g (bZ a cut) (gS (cq q i) true) ds N (b+1)
section
variable {g:cy} {u:Un} {o o':Ob} {a:Ar} {ds:List Nat} {N b:Nat}
theorem Ug.arm (h:Ug g u o ds N b) (n:Int):Ug g (u.arm n) o ds N b:=by
 obtain⟨t,ht,htb⟩:=h.t;exact {t:=⟨t,{ht with ok:={ht.ok with},ph:={ht.ph with}},htb⟩,boots:=h.boots,ps:=h.ps,r:=h.r,dn:=h.dn,ook:=h.ook,len:=h.len,cB:=h.cB}
theorem Up.arm (h:Up g a o ds N b) (n:Int):Up g {a with bD:=n} o ds N b:=by
 obtain⟨t,ht,htb⟩:=h.t;exact {t:=⟨t,ht.congr rfl rfl,htb⟩,on:=h.on,way:=h.way,boots:=h.boots,ps:=h.ps,ook:=h.ook,len:=h.len}
theorem Ug.re (h:Ug g u o ds N b) (hb:b<2147483647) (o':Ob):Re g u.s.a o o' ds N b where
 way:=by
  obtain⟨t,ht,_⟩:=h.t;unfold pe;rw[ht.way];trivial
 up:=fun cut=>⟨o,.inl rfl,0,by omega,h.restart hb cut⟩
theorem oY.re (h:oY g a o o' ds N b) (ho:o.ok) (ho':o'.ok) (hl:(o.su.length:Int)=g.cap) (hl':(o'.su.length:Int)=g.cap) (hb:b<2147483647):Re g a o o' ds N b:=⟨h.way,h.restart ho ho' hl hl' hb⟩
theorem M5 (o:Ob) (i:Nat):gS (cq (gS o true) i) true=gS o true:=by
 have e:([]:List Pg).take i=[]:=by simp
 unfold gS cq dJ;simp only[e,foldl_nil]
 have:kC (kC o.r true) true=kC o.r true:=by
  unfold kC;simp only[if_true];by_cases h:o.r.la=true
  ·simp [h]
  ·simp [h,R.gk]
 rw[this]
end
section
variable {B:ai} {L:List cw} {H:ai} {K:KP} {m:Gm} {o:Ob} {ds:List Nat} {N b aK:Nat} {a:Ar}
theorem CK (h:aA B H (cS aK a::L)) (hm:dz B L m) (hform:m.g.df=true) (hg:m.g.In) (U:Up m.g a o ds N b) (hb:b<2147483648) {ep:Nat} (Rc:1≤ep∧ep<281474976710656) (hf:a.aR≤ep) (k1:∀x v H',x.aK=aK→Ug m.g v o ds N b→eQ B H' x m v L→K (.tuple [.ay (some (x.iE,0)),vi 0]) H') (k2:∀a' H',oY m.g a' o o ds N b→¬a.bD≤0→aA B H' (cS aK a'::L)→K (.tuple [.ay none,vi 9]) H'):cl 13 [.ay (some (aK,0)),m.v,.int .u64 (ep:Int)] H K:=by
 have hn:=cy.dU hform;have hc:0≤m.g.cap∧m.g.cap<65000:=⟨by have:=cy.jf hform;omega,o0 hg hn⟩;obtain⟨t,Nv,_⟩:=U.t;have hno:=fun sq=>U.mount hg hc Rc hf hb sq
 refine CA h hm hform hg (Nv.rd U.on) hc Rc (fun sq h0=> ?_) (fun pz x v H' hx E7 h0 hok huM hS=> ?_) (fun pz H' E7 h0 hok hS=> ?_)
 ·rcases (hno sq).2 with⟨_,v,h1,_⟩|⟨h1,_⟩
  ·exact⟨v,h1⟩
  ·omega
 ·rcases (hno (eG pz)).2 with⟨_,v',h1,h2,h3⟩|⟨h1,_⟩
  ·rw[huM] at h1;cases h1;exact k1 x v H' hx h3 hS
  ·omega
 ·rcases (hno (eG pz)).2 with⟨h1,_⟩|⟨h1,h2⟩
  ·exact absurd h1 h0
  ·rw[h1];refine k2 _ H' h2 (fun ha=> ?_) hS;have h3:=h2.off;rw[((hno (eG pz)).1.arm ha).2] at h3;have h4:a.off=true:=h3;rw[U.on] at h4;cases h4
end
theorem Hg (o:Ob) (i j:Nat):cq (cq o i) j=cq o (i+j):=by
 unfold cq;have e1:(o.ps.drop i).drop j=o.ps.drop (i+j):=by rw[drop_drop]
 have e2:o.ps.take (i+j)=o.ps.take i++(o.ps.drop i).take j:=by rw[←take_add]
 simp only[e1,e2];unfold dJ;rw[foldl_append]
theorem QF {o:Ob} (h:o.ps=[]) (j:Nat):cq o j=o:=by
 obtain⟨su,ps,r⟩:=o;simp only at h;subst h;unfold cq dJ;simp
theorem dA.S3 {r:R} (h:dA r):dA (kC r true):=by
 have:=h.aba 0 1;unfold od at this;unfold kC;rw[if_neg (by decide)] at this;rw[if_pos rfl];by_cases hl:r.la=true
 ·rw[if_pos hl];rw[if_neg (by rw[hl];decide)] at this;exact this
 ·rw[if_neg hl];exact dA.gk
theorem abi {o o':Ob} (h1:o.ps=[]) (h2:o'.ps=[]) (hl:o.su.length=o'.su.length) (hr:o.r=o'.r) (hn:∀j:Nat,j<o'.su.length→kz o j=kz o' j):o=o':=by
 obtain⟨su,ps,r⟩:=o;obtain⟨su',ps',r'⟩:=o';simp only at h1 h2 hl hr hn;subst h1 h2 hr
 have:su=su':=by
  refine ext_getElem hl (fun j h1 h2=> ?_);have:=hn j h2;unfold kz at this;rw[if_pos ⟨by omega,by simp;omega⟩,if_pos ⟨by omega,by simp;omega⟩] at this;have e1:pB [] (j:Int)=none:=rfl;simp only[e1,getD_none,Int.toNat_natCast,getD_eq_getElem?_getD,List.getElem?_eq_getElem h1,List.getElem?_eq_getElem h2,getD_some] at this;exact this
 rw[this]
section
variable {B:ai} {L:List cw} {H:ai} {K:KP} {x:Ui} {m:Gm} {v:Un} {os:Ob} {ds:List Nat} {N b:Nat}
theorem Li {t0 t1 t2 t10:Oq} {t3 t9:Int} {id i:Nat} (hi:i≤9) {q:Ob} (hq:q.ok) {Kr:PS} {Ke:NS}:∀(k j:Nat) {H:ai},j+k=i→aA B H (cN id (cq q j)::L)→(∀H',aA B H' (cN id (cq q i)::L)→Ke 4 (St.mk (ab [(0,tp t0),(1,tp t1),(2,tp t2),(3,ti t3),(9,ti t9),(10,tp t10),(11,ti (i:Int)),(12,tp (some (id,0)))]) (ab []) H'))→lo 35 15 (St.mk (ab [(0,tp t0),(1,tp t1),(2,tp t2),(3,ti t3),(9,ti t9),(10,tp t10),(11,ti (i:Int)),(12,tp (some (id,0))),(13,ti (j:Int))]) (ab []) H) Kr Ke
 |0,j,H,hj,h,hk=>by
  rw[JC];obtain rfl:j=i:=by omega
  have e:¬(j:Int)<(j:Int):=by omega
  simp only[aP,e,decide_false,if_false,az,Bool.false_and,Bool.false_eq_true,ah];exact hk H h
 |k+1,j,H,hj,h,hk=>by
  rw[JC];obtain⟨qq,c,q2,c2,f1,f2,f3,f4,f5,f6,_⟩:=oZ h;have e:(j:Int)<(i:Int):=by omega
  have e4:IntKind.i64.wrap ((j:Int)+1)=((j+1:Nat):Int):=aL (by omega);simp only[aP,e,decide_true,if_true,AN,isSome_some,Nat.zero_add,f3,f4,e4];by_cases hp:(cq q j).ps=[]
  ·have e0:¬(((cq q j).ps.length:Nat):Int)>0:=by rw[hp];simp
   simp only[e0,decide_false,ah]
   have:cq q i=cq q j:=by
    rw[←hj, ←Hg,QF hp]
   rw[←this] at h;exact hk H h
  ·have e0:(((cq q j).ps.length:Nat):Int)>0:=by
    have:=length_pos_iff.2 hp;omega
   simp only[e0,decide_true,ao];refine M4 h (yi hq j) hp (fun H1 h1=> ?_);rw[Hg] at h1;exact Li hi hq k (j+1) (by omega) h1 hk
theorem Ji {t1 t2:Oq} {t9:Int} {qid n:Nat} {q:Ob} (hm:dz B L m) (hg:m.g.In) (hcap:0≤m.g.cap∧m.g.cap<65000) (U:Ug m.g v os ds N b) (hb:b<2147483648) (hos:os.ps=[]) (Q9:os.su.length=n) (hn2:n≤65536) (hq:q.ok) (hgq:dA q.r) (hql:q.su.length=n) {Kr:PS} {Ke:NS}:∀(k i:Nat) {H:ai},i+k=10→eQ B H x m v (cN qid q::L)→(∀id' H',eQ B H' x m v (cN id' os::cN qid q::L)→Kr (St.mk (ab [(8,tp (some (id',0)))]) (ab []) H'))→((∀j,i≤j→j≤9→gS (cq q j) true≠os)→∀H',eQ B H' x m v (cN qid q::L)→Ke 2 (St.mk (ab [(0,tp (some (x.iE,0))),(1,tp t1),(2,tp t2),(3,ti (n:Int)),(9,ti t9)]) (ab []) H'))→lo 35 10 (St.mk (ab [(0,tp (some (x.iE,0))),(1,tp t1),(2,tp t2),(3,ti (n:Int)),(9,ti t9),(10,tp (some (qid,0))),(11,ti (i:Int))]) (ab []) H) Kr Ke
 |0,i,H,hi,hS,hh,hk=>by
  rw[JB];have e:¬(i:Int)≤9:=by omega
  rw[decide_eq_false e,ah];exact hk (fun j h1 h2=>by omega) H hS
 |k+1,i,H,hi,hS,hh,hk=>by
  rw[JB];have e:(i:Int)≤9:=by omega
  have e4:IntKind.i64.wrap ((i:Int)+1)=((i+1:Nat):Int):=aL (by omega);rw[decide_eq_true e,ao];refine Hf (hS.ord [6]) hq (by omega) (fun id' H1 h1=> ?_);simp only[AN];refine Li (i:=i) (by omega) hq i 0 (by omega) h1 (fun H2 h2=> ?_);simp only[AN,reduceIte,Nat.reduceEqDiff];refine Qk h2 true (fun H3 h3=> ?_);have h4:eQ B H3 x m v (cN id' (gS (cq q i) true)::cN qid q::L):=h3.ord [2,2,2,2,2,2];have hfl:(gS (cq q i) true).su.length=n:=by show (dJ q.su (q.ps.take i)).length=n;rw[cR];exact hql
  have CM:=Qz (K:= ?_) (hm.bK _) hg hcap U hb (yf (yi hq i) true) hgq.S3 (by rw[hfl];exact Q9) h4 (fun bb H4 yk h5=> ?_)
  ·rw[hfl] at CM;exact CM
  simp only[AN]
  cases bb with
  |true=>
   obtain⟨e1,e2,e3⟩:=yk.1 rfl;have:os=gS (cq q i) true:=abi hos rfl (by rw[hfl];exact Q9) e1 e3;simp only[AN];rw[←this] at h5;exact hh id' H4 h5
  |false=>
   have hne:gS (cq q i) true≠os:=fun e=>by
    have:=yk.2 (by rw[e];exact⟨rfl,rfl,fun _ _=>rfl⟩);cases this
   simp only[AN,e4];have h6:eQ B H4 x m v (cN qid q::L):=(h5.ord [6]).drop
   exact Ji hm hg hcap U hb hos Q9 hn2 hq hgq hql k (i+1) (by omega) h6 hh (fun hno=>hk (fun j h1 h2=>by
    by_cases hj:j=i
    ·rw[hj];exact hne
    ·exact hno j (by omega) h2))
theorem QG {mid nid n:Nat} {o o':Ob} (hm:dz B L m) (hg:m.g.In) (hcap:0≤m.g.cap∧m.g.cap<65000) (U:Ug m.g v os ds N b) (hb:b<2147483648) (hos:os.ps=[]) (Q9:os.su.length=n) (hn2:n≤65536) (ho:o.ok) (ho':o'.ok) (RA:dA o.r) (XI:dA o'.r) (hl:o.su.length=n) (hl':o'.su.length=n) (hex:∃q,(q=o∨q=o')∧∃i,i≤8∧gS (cq q i) true=os) (hS:eQ B H x m v (cN mid o::cN nid o'::L)) (k:∀id' H',eQ B H' x m v (cN id' os::L)→K (.ay (some (id',0))) H'):cl 35 [.ay (some (x.iE,0)),.ay (some (mid,0)),.ay (some (nid,0)),vi (n:Int)] H K:=by
 rw[acs,Oh];have e0:(0:Int)<2:=by decide
 have e1:¬(0:Int)=1:=by decide
 simp only[e0,e1,decide_true,decide_false,ao,ah,AJ,reduceIte];refine Ji (hm.bK _) hg hcap U hb hos Q9 hn2 ho RA hl 10 0 (by omega) hS (fun id' H1 h1=> ?_) (fun hno H1 h1=> ?_)
 ·simp only[AN,reduceIte];exact k id' H1 ((((h1.ord [7]).drop).ord [7]).drop)
 have e2:IntKind.i64.wrap ((0:Int)+1)=1:=by decide
 simp only[AN,reduceIte,Nat.reduceEqDiff,e2];rw[Oh];have e3:(1:Int)<2:=by decide
 simp only[e3,decide_true,ao,AJ,reduceIte];have h2:eQ B H1 x m v (cN nid o'::cN mid o::L):=h1.ord [0,0,0,0,0,0,1];refine Ji (hm.bK _) hg hcap U hb hos Q9 hn2 ho' XI hl' 10 0 (by omega) h2 (fun id' H2 h3=> ?_) (fun aeg H2 h3=> ?_)
 ·simp only[AN,reduceIte];exact k id' H2 ((((h3.ord [7]).drop).ord [7]).drop)
 ·exfalso;obtain⟨q,hq,i,hi,he⟩:=hex;rcases hq with rfl|rfl
  ·exact hno i (by omega) (by omega) he
  ·exact aeg i (by omega) (by omega) he
end
def stA (a:Ac):aU:=aU.cells 38 (XO a.ho a.kd a.lb a.ky a.nw a.ty a.su a.ow a.q a.d.length a.c a.n)
section
variable {B:ai} {L:List cw} {H:ai} {K:KP} {m:Gm}
theorem W6 {c:Bool} {n:Int} {aK:Nat} {a:Ar} {F:ai→Prop} (h:aA B H (cS aK a::L)) (hn:0≤n) (hF:∀a' H',(a'=a∨a'={a with bD:=n})→aA B H' (cS aK a'::L)→F H'):br c (cl 34 [.ay (some (aK,0)),vi n] H (fun v H'=>af (V.ax (.int .i64) v) (F H'))) (F H):=by
 cases c
 ·rw[ah];exact hF a H (.inl rfl) h
 ·rw[ao];refine DY h hn (fun H1 h1=> ?_);simp only[AN];exact hF _ H1 (.inr rfl) h1
theorem Te {aK mid nid n i dn b N:Nat} {ar:Ar} {o o':Ob} {ds:List Nat} (hm:dz B L m) (hg:m.g.In) (hform:m.g.df=true) {a:Ac} (hn0:0≤a.n∧a.n≤255) (hi:i<80) (hb:b≤1000) (ho:o.ok) (ho':o'.ok) (hl:(o.su.length:Int)=m.g.cap) (hl':(o'.su.length:Int)=m.g.cap) {q1 t9:Oq} {n1 c1:Nat} {t10:Int} (h:aA B H (cS aK ar::L)) (R:Re m.g ar o o' ds N b) {Kr:PS} {Ke:NS} (k:∀x v os b' H',x.aK=aK→Ug m.g v os ds N b'→b'≤b+2→os.ps=[]→(∃q,(q=o∨q=o')∧∃i,i≤8∧gS (cq q i) true=os)→eQ B H' x m v L→Ke 3 (St.mk (ab [(1,ts q1 n1 c1),(5,T.lp 5 0),(6,tp (some (aK,0))),(8,ti (n:Int)),(9,tp (some (x.iE,0))),(10,ti 0),(11,tp (some (mid,0))),(12,ti (dn:Int)),(13,ti (i:Int)),(15,tp (some (nid,0)))]) (ab [(5,Eh m)]) H')):lo 9 50 (St.mk (ab [(1,ts q1 n1 c1),(5,T.lp 5 0),(6,tp (some (aK,0))),(8,ti (n:Int)),(9,tp t9),(10,ti t10),(11,tp (some (mid,0))),(12,ti (dn:Int)),(13,ti (i:Int)),(14,T.lp 14 0),(15,tp (some (nid,0))),(25,ti 0)]) (ab [(5,Eh m),(14,stA a)]) H) Kr Ke:=by
 unfold Eh stA at*;rw[Oc]
 have hw:IntKind.u64.wrap (2+IntKind.u64.wrap (i:Int))=((2+i:Nat):Int):=by
  rw[IntKind.wrap_u64,IntKind.wrap_u64];omega
 have hv:m.v=.agg (dI m.g.aG m.g.aB m.g.aI m.q m.g.bM.length m.c):=rfl;have e0:(0:Int)<6:=by decide
 have e9:¬(0:Int)=9:=by decide
 have e5:0≤IntKind.i64.wrap (1+Int.tmod (IntKind.i64.wrap a.n) 5):=by
  have h1:IntKind.i64.wrap a.n=a.n:=bf (by omega) (by omega);have h2:Int.tmod a.n 5=a.n % 5:=Int.tmod_eq_emod_of_nonneg hn0.1;rw[h1,h2,bf (by omega) (by omega)];omega
 rw[decide_eq_true e0,ao];refine zF h R.way _ (fun H1 h1=> ?_);obtain⟨q,hq,j,hj,U⟩:=R.up (Int.tmod (IntKind.i64.wrap (IntKind.i64.wrap a.n*IntKind.i64.wrap (0+1))) 130);obtain⟨os,hos⟩:∃os,os=gS (cq q j) true:=⟨_,rfl⟩;rw[←hos] at U;have hex:∃q,(q=o∨q=o')∧∃i,i≤8∧gS (cq q i) true=os:=⟨q,hq,j,hj,hos.symm⟩;have hps:os.ps=[]:=by rw[hos];rfl
 have hqk:q.ok∧(q.su.length:Int)=m.g.cap:=by rcases hq with rfl|rfl<;>exact⟨by assumption,by assumption⟩
 simp only[AJ];refine W6 h1 e5 (fun a2 H2 Ux h2=> ?_)
 have U2:Up m.g a2 os ds N (b+1):=by
  rcases Ux with rfl|rfl
  ·exact U
  ·exact U.arm _
 have hf2:a2.aR≤((2+i:Nat):Int):=by
  rcases Ux with rfl|rfl<;>(show (0:Int)≤_;omega)
 rw[hw, ←hv];refine CK h2 hm hform hg U2 (by omega) (ep:=2+i) ⟨by omega,by omega⟩ hf2 (fun x v H3 hx U3 h3=> ?_) (fun a3 H3 hc _ h3=> ?_)
 ·simp only[AN,e9];exact k x v os (b+1) H3 hx U3 (by omega) hps hex h3
 have EU:(os.su.length:Int)=m.g.cap:=U2.len;have R2:=hc.re U2.ook U2.ook EU EU (by omega);simp only[AN];have e01:IntKind.i64.wrap (0+1)=1:=by decide
 rw[e01,Oc];have e1:(1:Int)<6:=by decide
 have Nq:¬(1:Int)=0:=by decide
 rw[decide_eq_true e1,ao];refine zF h3 R2.way _ (fun H4 h4=> ?_);obtain⟨q',X0,j',hj',U4⟩:=R2.up (Int.tmod (IntKind.i64.wrap (IntKind.i64.wrap a.n*IntKind.i64.wrap (1+1))) 130);have Nn:q'=os:=by rcases X0 with rfl|rfl<;>rfl
 have Q6:gS (cq q' j') true=os:=by rw[Nn,hos];exact M5 _ _
 rw[Q6] at U4;simp only[AJ,Nq,Bool.false_and];rw[hw, ←hv];refine CK h4 hm hform hg U4 (by omega) (ep:=2+i) ⟨by omega,by omega⟩ (by show (0:Int)≤_;omega) (fun x v H5 hx U5 h5=> ?_) (fun a5 H5 _ hna _=>absurd (by show (0:Int)≤0;omega) hna);simp only[AN,e9];exact k x v os (b+1+1) H5 hx U5 (by omega) hps hex h5
theorem wK (o:Ob):(gR o).su.length=o.su.length:=cR _ _
theorem QH (o:Ob) (p:Pg) (s:Bool):(nN o p s).r=o.r:=by
 unfold nN;split
 ·rfl
 ·split<;>rfl
theorem abj (o:Ob) (h:Int) (c:Cm) (bV:List UInt8):(ss o h c bV).1.r=o.r∨(ss o h c bV).1.r=(doR o.r h c).1:=by
 unfold ss;split
 ·exact .inl rfl
 split
 ·exact .inl rfl
 split
 ·exact .inl rfl
 split
 ·exact .inl (QH _ _ _)
 split
 ·exact .inl (QH _ _ _)
 split
 ·exact .inl rfl
 split
 ·exact .inl rfl
 ·exact .inr rfl
theorem Az {aK:Nat} (hm:dz B L m) (hg:m.g.In) (hform:m.g.df=true) {n:Nat} (XW:1≤n) (hn2:n≤65536) (hcn:m.g.cap=(n:Int)) {q1:Oq} {c1:Nat} {sc:List Ac} (hsc:Rd B q1 (sc.map Ac.cs).flatten) (hok:∀a∈sc,a.ok B) {Kr:PS} {Ke:NS}:∀(k i:Nat) (x:Ui) (u:Un) (o:Ob) (mid:Nat) (ds:List Nat) (dn N b:Nat) {H:ai},i+k=80→x.aK=aK→o.su.length=n→Ug m.g u o ds N b→ds.length≤dn→(dn:Int)≤m.g.aI→N+(k+1)*(9*CW)<281474976710656→b≤2*i→eQ B H x m u (cN mid o::L)→(∀H',Ke 0 (St.mk (ab [(10,ti 0)]) (ab []) H'))→lo 9 11 (St.mk (ab [(1,ts q1 sc.length c1),(5,T.lp 5 0),(6,tp (some (aK,0))),(8,ti (n:Int)),(9,tp (some (x.iE,0))),(10,ti 0),(11,tp (some (mid,0))),(12,ti (dn:Int)),(13,ti (i:Int))]) (ab [(5,Eh m)]) H) Kr Ke
 |0,i,x,u,o,mid,ds,dn,N,b,H,hi,hx,hl,U,hds,hdn,hN,hb,hS,hk=>by
  unfold Eh at*;rw[Oa]
  have e:(decide ((i:Int)<(sc.length:Int))&&decide ((i:Int)<80))=false:=by
   rw[←Bool.decide_and];exact decide_eq_false (by omega)
  rw[e,ah];exact hk H
 |k+1,i,x,u,o,mid,ds,dn,N,b,H,hi,hx,hl,U,hds,hdn,hN,hb,hS,hk=>by
  unfold Eh at*;rw[Oa];rw[Nat.succ_mul] at hN;by_cases hlt:i<sc.length∧i<80
  case neg=>
   have e:(decide ((i:Int)<(sc.length:Int))&&decide ((i:Int)<80))=false:=by
    rw[←Bool.decide_and];exact decide_eq_false (by omega)
   rw[e,ah];exact hk H
  have e1:(i:Int)<(sc.length:Int):=by omega
  have e2:(i:Int)<80:=by omega
  have e3:0≤(i:Int):=by omega
  have e4:IntKind.i64.wrap ((i:Int)+1)=((i+1:Nat):Int):=aL (by omega);obtain⟨s1,s2',Jm,_,_⟩:=Tc (hS.rd hsc) hlt.1;have hmem:=getElem_mem hlt.1;have hac:=hok _ hmem;obtain⟨a,haa⟩:∃a,a=sc[i]'hlt.1:=⟨_,rfl⟩;rw[←haa] at Jm hac;simp only[e1,e2,e3,decide_true,Bool.and_self,ao,s1,s2',Jm,Int.toNat_natCast,Ac.dv,Ac.dX,az,nq,nr,ns];have hkd:=hac.kd;have Xl:=hac.n;have hsp:=hg.s;have ek:V.aa (ae a.cs 1)=a.kd:=rfl;have en:V.aa (ae a.cs 9)=a.n:=rfl;have em:Int.tmod a.kd 38=a.kd % 38:=Int.tmod_eq_emod_of_nonneg hkd.1;have hcap:0≤m.g.cap∧m.g.cap<65000:=⟨by have:=cy.jf hform;omega,o0 hg (cy.dU hform)⟩;have hlc:(o.su.length:Int)=m.g.cap:=U.len;have hcg:aM zq (dI m.g.aG m.g.aB m.g.aI m.q m.g.bM.length m.c)=true:=rfl;have hco:rQ (dI m.g.aG m.g.aB m.g.aI m.q m.g.bM.length m.c)=dI m.g.aG m.g.aB m.g.aI m.q m.g.bM.length m.c:=rfl;have hv:m.v=.agg (dI m.g.aG m.g.aB m.g.aI m.q m.g.bM.length m.c):=rfl;simp only[ek,en,em];refine Hf (hS.ord [6]) U.ook (by omega) (fun nid H1 h1=> ?_);have h2:eQ B H1 x m u (cN nid o::cN mid o::L):=h1.ord [2,2,2,2,2,2];simp only[rj,az,jG]
  refine hG (fun S:Am.St=>∃(Ni:Nat) (f:Int) (ds':List Nat),S.1 12=some (ti (Ni:Int))∧S.1 16=some (ti f)∧(Ni:Int)≤m.g.aI∧ds'.length≤Ni∧
   ((f=0∧∃u' o' N',o'.su.length=n∧Ug m.g u' o' ds' N' b∧N'≤N+9*CW∧eQ B S.3 x m u' (cN nid o'::L))∨
    (f=9∧∃ar o' N',o'.ok∧dA o'.r∧o'.su.length=n∧N'≤N+9*CW∧Re m.g ar o o' ds' N' b∧aA B S.3 (cS aK ar::cN mid o::cN nid o'::L)))) (fun(S:Am.St) Jo=> ?_) (fun Q hQ=> ?_)
  ·obtain⟨Ni,f,ds',abS,abT,Tz,abU,hf⟩:=Jo;generalize S.3=H2 at hf⊢;rcases hf with⟨rfl,u',o',N',hl',U',hN',hS'⟩|⟨rfl,ar,o',N',ho',XI,hl',hN',hR,hS'⟩
   ·simp only[abS,abT,AN,e4];have ih:=Az (c1:=c1) (Kr:=Kr) (Ke:=Ke) hm hg hform XW hn2 hcn hsc hok k (i+1) x u' o' nid ds' Ni N' b (by omega) hx hl' U' abU Tz (by omega) (by omega) hS' hk;unfold Eh at ih;exact ih
   ·have e90:¬(9:Int)=0:=by decide
    simp only[abS,abT,AN,e90];have aeh:(o'.su.length:Int)=m.g.cap:=by omega
    have hRs:=Te (aK:=aK) (mid:=mid) (nid:=nid) (n:=n) (i:=i) (dn:=Ni) (b:=b) (N:=N') (q1:=q1) (n1:=sc.length) (c1:=c1) (t9:=some (x.iE,0)) (t10:=0) (Kr:= ?_) (Ke:= ?_) ((hm.bK _).bK _) hg hform Xl (by omega) (by omega) U.ook ho' hlc aeh hS' hR (fun x' v os b' H' hx' Uv hb' hps hex Rx=> ?_)
    ·unfold Eh stA at hRs;exact hRs
    unfold Eh;simp only[AN,reduceIte,Nat.reduceEqDiff,hcg,hco];have hA:=Rx.arr;rw[hx'] at hA;refine DY hA (Int.le_refl 0) (fun H5 h5=> ?_)
    have h6:eQ B H5 x' m (v.arm 0) (cN mid o::cN nid o'::L):=by
     have:=h5.ord [1,1,1,1,1];rw[←hx'] at this;exact this
    have RA:dA o.r:=by obtain⟨_,_,htb⟩:=U.t;exact htb.MQ
    have abV:os.su.length=n:=by have:=Uv.len;omega
    simp only[AN];refine QG hm hg hcap (Uv.arm 0) (by omega) hps abV hn2 U.ook ho' RA XI hl hl' hex h6 (fun id' H6 h7=> ?_);simp only[AN,isNone_some,e4];have ih:=Az (c1:=c1) (Kr:=Kr) (Ke:=Ke) hm hg hform XW hn2 hcn hsc hok k (i+1) x' _ os id' ds' Ni N' b' (by omega) hx' abV (Uv.arm 0) abU Tz (by omega) (by omega) h7 hk;unfold Eh at ih;exact ih
  ·have RA:dA o.r:=by obtain⟨_,_,htb⟩:=U.t;exact htb.MQ
   have XJ:∀(u':Un) (H':ai) (ds':List Nat) (Ni:Nat),Ug m.g u' o ds' N b→ds'.length≤Ni→(Ni:Int)≤m.g.aI→eQ B H' x m u' (cN nid o::cN mid o::L)→Q (St.mk (ab [(12,ti (Ni:Int)),(16,ti 0)]) (ab []) H'):=by
    intro u' H' ds' Ni U' hd' Tz hS';exact hQ _ ⟨Ni,0,ds',rfl,rfl,Tz,hd',.inl ⟨rfl,u',o,N,hl,U',by omega,(hS'.ord [7]).drop.ord [0,0,0,0,0,0]⟩⟩
   by_cases k32:a.kd % 38<32
   ·obtain⟨q,c,q2,c2,f1,f2,f3,f4,f5,f6,_⟩:=oZ (mid:=mid) (o:=o) (h2.ord [7]);simp only[k32,decide_true,ao,isSome_some,getD_some,Nat.zero_add,f5,f6,R.dv,R.dX,Bool.and_self,az];refine WV h2 hac o.r (n:=(n:Int)) (by omega) (by omega) (fun H2 h3=> ?_);have h3:eQ B H2 x m u (cN nid o::cN mid o::L):=h3;simp only[AN,Cm.dv,Cm.dX];obtain⟨r,vy,kp,hout⟩:=Qr hg hform hcap.2 U (a.ho % 4) (a.cm o.r n) a.bV (a.G9 _ _) (a.QE _ _) (by omega);refine Jd ((hm.bK _).bK _) hg hcap h3 U.ok (a.ho % 4) (a.cm o.r n) a.bV (a.G9 _ _) (Ac.Uk hac _ _) (U.rok.doR _ _ (a.QE _ _)).ok (by rw[U.boots];omega) vy (fun q3 n3 H3 h4=> ?_);simp only[AN,Rs.aM];refine Qj (h4.ord [7]) U.ook (a.ho % 4) (a.cm o.r n) (a.abb _ _ hac.kd).1 a.bV (a.G9 _ _) (Ac.Uk hac _ _) (fun H4 h5=> ?_);have e9:V.aO 3 (.tuple [vi (ss o (a.ho % 4) (a.cm o.r n) a.bV).2.e,.cL (cM (ss o (a.ho % 4) (a.cm o.r n) a.bV).2.d),.agg (ss o (a.ho % 4) (a.cm o.r n) a.bV).2.r.cs])=true:=rfl;have Nq:∀a b c:V,ae [a,b,c] 2=c:=fun _ _ _=>rfl
    simp only[e9,Nq,gK,eW,iZ,fJ,dH,R.dv,R.dX,dh,mJ,bh,gL,Bool.and_self,az,Rs.open];have yk:mu H4 q3 r.2.1.d:=(h5.ord [7]).iJ;have CQ:(ss o (a.ho % 4) (a.cm o.r n) a.bV).1.su.length=n:=by rw[W0];exact hl
    rcases hout with⟨e0,es,U2⟩|⟨e0,es,ea,ech,aei,j,hj,U2⟩|⟨e0,Nv⟩
    ·have hsame:=fun K:KP=>SN (H:=H4) (K:=K) (q:=q3) (n:=n3) (s:=(ss o (a.ho % 4) (a.cm o.r n) a.bV).2) (by rw[←es];exact yk)
     simp only[e0,es,hsame,AN];exact hQ _ ⟨dn,0,ds,rfl,rfl,hdn,hds,.inl ⟨rfl,r.1,_,N+9*CW,CQ,U2,Nat.le_refl _,(((h5.ord [7]).drop.ord [7]).drop).ord [1,1,1,1,1,1]⟩⟩
    ·exfalso;have:=U2.c3;omega
    ·have e90:¬(9:Int)=0:=by decide
     simp only[e0,e90,decide_false,ah]
     have aej:dA (ss o (a.ho % 4) (a.cm o.r n) a.bV).1.r:=by
      rcases abj o (a.ho % 4) (a.cm o.r n) a.bV with e|e
      ·rw[e];exact RA
      ·rw[e];exact RA.doR _ _ (a.QE _ _)
     have hA:aA B H4 (cS x.aK r.1.s.a::cN mid o::cN nid (ss o (a.ho % 4) (a.cm o.r n) a.bV).1::L):=(h5.ord [1,1,1,1,1,2,1,1]).drop.drop.drop.drop.drop.drop;rw[hx] at hA;exact hQ _ ⟨dn,9,ds,rfl,rfl,hdn,hds,.inr ⟨rfl,r.1.s.a,_,N+9*CW,Ub U.ook _ _ (a.G9 _ _),aej,CQ,Nat.le_refl _,Nv.re U.ook (Ub U.ook _ _ (a.G9 _ _)) hlc (by rw[CQ];omega) (by omega),hA⟩⟩
   simp only[k32,decide_false,ah];by_cases k32e:a.kd % 38=32
   ·simp only[k32e,decide_true,ao];obtain⟨r,vy,kp,hout⟩:=Qs hg hform hcap.2 U (by omega);refine Qo ((hm.bK _).bK _) hg hcap h2 U.ok vy (fun H2 h3=> ?_);simp only[AN];refine At (h3.ord [6]) U.ook (fun H3 h4=> ?_);rcases hout with⟨e0,U2⟩|⟨e0,aei,j,hj,U2⟩|⟨e0,Nv⟩
    ·simp only[e0];exact hQ _ ⟨dn,0,ds,rfl,rfl,hdn,hds,.inl ⟨rfl,r.1,gR o,N+9*CW,by rw[wK];exact hl,U2,Nat.le_refl _,((h4.ord [7]).drop).ord [1,1,1,1,1,1]⟩⟩
    ·exfalso;have:=U2.c3;omega
    ·simp only[e0];have hA:aA B H3 (cS x.aK r.1.s.a::cN mid o::cN nid (gR o)::L):=(h4.ord [1,1,1,1,1,1,1]).drop.drop.drop.drop.drop;rw[hx] at hA;exact hQ _ ⟨dn,9,ds,rfl,rfl,hdn,hds,.inr ⟨rfl,r.1.s.a,gR o,N+9*CW,n9 U.ook,RA,by rw[wK];exact hl,Nat.le_refl _,Nv.re U.ook (n9 U.ook) hlc (by rw[wK];exact hlc) (by omega),hA⟩⟩
   simp only[k32e,decide_false,ah]
   have arr:∀(n':Int) (H':ai),aA B H' (cS aK {u.s.a with bD:=n'}::cP x.iE 93 (K8 x m u)::eK x.yh u.ps::cP x.fid 120 (Py aK m u.s.f x.mid x.pid)::tl x.mid u.s.f.pm::Bl x.pid u.s.f.po::cN nid o::cN mid o::L)→eQ B H' x m (u.arm n') (cN nid o::cN mid o::L):=by
    intro n' H' h';have:=h'.ord [1,1,1,1,1];rw[←hx] at this;exact this
   have hA:=h2.arr;rw[hx] at hA;have hw1:IntKind.i64.wrap a.n=a.n:=bf (by omega) (by omega);by_cases k33:a.kd % 38=33∨a.kd % 38=34
   ·have ec:(bif !decide (a.kd % 38=33) then decide (a.kd % 38=34) else true)=true:=by
     rcases k33 with e|e<;>simp [e]
    have em9:Int.tmod a.n 9=a.n % 9:=Int.tmod_eq_emod_of_nonneg Xl.1;have XX:IntKind.i64.wrap (1+a.n % 9)=1+a.n % 9:=bf (by omega) (by omega);rw[ec,ao];simp only[hw1,em9,XX];refine DY hA (by omega) (fun H2 h3=> ?_);simp only[AN];exact XJ _ _ ds dn (U.arm _) hds hdn (arr _ _ h3)
   have ec:(bif !decide (a.kd % 38=33) then decide (a.kd % 38=34) else true)=false:=by
    have h1:¬a.kd % 38=33:=fun e=>k33 (.inl e)
    have h2:¬a.kd % 38=34:=fun e=>k33 (.inr e)
    simp [h1,h2]
   rw[ec,ah];by_cases k35:a.kd % 38=35
   ·simp only[k35,decide_true,ao];refine DY hA (Int.le_refl 0) (fun H2 h3=> ?_);simp only[AN];have U2:=U.arm 0;have Uz:aA B H2 (cS aK {u.s.a with bD:=0}::cN mid o::cN nid o::L):=(h3.ord [1,1,1,1,1,0,1]).drop.drop.drop.drop.drop;exact hQ _ ⟨dn,9,ds,rfl,rfl,hdn,hds,.inr ⟨rfl,_,o,N,U.ook,RA,hl,by omega,U2.re (by omega) o,Uz⟩⟩
   simp only[k35,decide_false,ah];by_cases XN:a.kd % 38=37∧(dn:Int)<m.g.aI
   ·have hup:1≤m.g.us.length:=by have:=Lf (cy.dU hform) (cy.jf hform);omega
    simp only[XN.1,XN.2,decide_true,Bool.and_self,ao];rw[←hv];have Xk:dz B (unL x m u (cN nid o::cN mid o::L)) m:=(((((((hm.bK _).bK _).bK _).bK _).bK _).bK _).bK _).bK _;refine zD (L:=unL x m u (cN nid o::cN mid o::L)) h2 Xk hg (fun q12 c12 H2 h3=> ?_);have em2:Int.tmod a.n (m.g.us.length:Int)=a.n % (m.g.us.length:Int):=Int.tmod_eq_emod_of_nonneg Xl.1;have ed:Int.tdiv a.n 16=a.n / 16:=Int.tdiv_eq_ediv_of_nonneg Xl.1;have h0:=Int.emod_nonneg a.n (show (m.g.us.length:Int)≠0 by omega);have xu:=Int.emod_lt_of_pos a.n (show (0:Int)<(m.g.us.length:Int) by omega);obtain⟨j,hj⟩:∃j:Nat,a.n % (m.g.us.length:Int)=(j:Int):=⟨(a.n % (m.g.us.length:Int)).toNat,by omega⟩;have hjl:j<m.g.us.length:=by omega
    have w8:IntKind.u8.wrap (a.n / 16)=a.n / 16:=by rw[IntKind.wrap_u8];omega
    have w9:IntKind.i64.wrap (a.n / 16)=a.n / 16:=bf (by omega) (by omega);have w10:IntKind.i64.wrap (1+a.n / 16)=1+a.n / 16:=bf (by omega) (by omega);have w11:IntKind.i64.wrap ((dn:Int)+1)=((dn+1:Nat):Int):=aL (by omega);have QK:(cZ m.g.us).length=m.g.us.length:=by unfold cZ;rw[length_map]
    obtain⟨r1,r2,r3⟩:=(aA.ta h3).at (i:=j) (by rw[QK];exact hjl);have hne:¬(m.g.us.length:Int)=0:=by omega
    have hjj:(j:Int)<(m.g.us.length:Int):=by omega
    have hge:(cZ m.g.us)[j]'(by rw[QK];exact hjl)=((m.g.us[j]'hjl:Nat):Int):=by unfold cZ;rw[getElem_map]
    rw[hge] at r3;have h4:eQ B H2 x m u (cN nid o::cN mid o::L):=h3.drop;obtain⟨t,ht,_⟩:=U.t;have bx:m.g.us[j]'hjl<u.s.a.bs.length:=ht.ph.lt (getElem_mem hjl);have Uz:=h4.arr;rw[hx] at Uz;simp only[bL,bA,aQ,hne,decide_false,Bool.not_false,az,hw1,em2,hj,hjj,decide_true,Int.toNat_natCast,Int.natCast_nonneg,Bool.and_self,ed,w8,w9,w10,r1, ←nq, ←nr,r2,r3,dh,bh];refine Sb Uz bx (by omega) (fun H3 h5=> ?_);simp only[dh,az,w11];have hbe:u.s.a.bs[m.g.us[j]'hjl]=u.s.a.bk (m.g.us[j]'hjl):=by unfold Ar.bk;rw[getD_eq_getElem?_getD,List.getElem?_eq_getElem bx];rfl
    rw[hbe] at h5
    have h6:eQ B H3 x m (u.doom (m.g.us[j]'hjl) (1+a.n / 16)) (cN nid o::cN mid o::L):=by
     have:=h5.ord [1,1,1,1,1];rw[←hx] at this;exact this
    exact XJ _ _ _ (dn+1) (U.doom bx _) (by simp only[length_cons];omega) (by omega) h6
   have ec2:(decide (a.kd % 38=37)&&decide ((dn:Int)<m.g.aI))=false:=by
    rw[←Bool.decide_and];exact decide_eq_false XN
   rw[ec2,ah];exact XJ u _ ds dn U hds hdn h2
end
section
variable {B:ai} {L:List cw} {H:ai} {K:KP} {x:Ui} {m:Gm} {mid:Nat}
theorem Bp (h0:aA H H []) (x0:Int) (q:Oq) (len cap:Nat) (l0:0≤x0) (g0:x0≤255) (hs:MY cV.P H 38 q len cap):cl 9 [.int .u8 x0,.slice q len cap] H fun v _=>v=.bool true:=by
 obtain⟨sc,rfl,hsc,hok⟩:=M3 hs;rw[eq9];refine QC h0 (fun H1 h1=> ?_);simp only[fK,ct,az,Bool.not_true,ah];obtain⟨n0,rfl⟩:∃n0:Nat,x0=(n0:Int):=⟨x0.toNat,by omega⟩;refine xm h1 n0 (by omega) (fun m H2 QZ hmc h2=> ?_);have hform:m.g.df=true:=by rw[QZ];exact F6 n0 (by omega)
 have hl:m.g.bM.length≤1000000:=by rw[QZ];unfold Wh;simp only;split<;>simp
 have Tv:=cy.dU hform;have hg:=Tv.in hl;have qJ:=cy.jf hform;have hlt:=o0 hg Tv;have hv:m.v=.agg (dI m.g.aG m.g.aB m.g.aI m.q m.g.bM.length m.c):=rfl;have Nx:∀L:List cw,dz H (J9 m::L) m:=fun L=>J9.ok hmc
 rw[hv];simp only[fJ,dH,Bool.and_self,az,f25,xD,Jw,Jx,Jy,bh,bA,aQ,cE];refine Lg h2 (Nx []) hform hg (fun aK a H3 U0 ha0 UC _ h3=> ?_);simp only[AN, ←hv];refine Sa h3 ((Nx []).bK _) hg (fun H4 h4=> ?_);simp only[AN];refine wJ h4 (Nx []) hform hg U0 (by omega) (by omega) (ep:=1) ⟨by omega,by omega⟩ (by rw[UC];decide) (fun x u H5 hx U1 Np Tm he1 _ h5=> ?_);obtain⟨N,hN⟩:∃N:Nat,m.g.cap=(N:Int):=⟨m.g.cap.toNat,by omega⟩;have hN2:m.g.cap.toNat=N:=by omega
 rw[hN2] at U1;simp only[AN,hN];refine SM h5 (by omega) (by omega) (fun mid H6 h6=> ?_);simp only[AN];have h7:eQ H H6 x m u (cN mid (vn N)::J9 m::[]):=h6.ord [1,1,1,1,1,1];have QK:(vn N).su.length=N:=length_replicate;have hL:=Az (m:=m) (aK:=aK) (c1:=cap) (L:=J9 m::[]) (H:=H6) (Kr:= ?_) (Ke:= ?_) (Nx []) hg hform (n:=N) (by omega) (by omega) hN hsc hok 80 0 x u (vn N) mid [] 0 0 0 (by omega) hx QK U1 (Nat.le_refl _) (by have:=hg.s;simp;omega) (by decide) (by omega) h7 ?_
 ·unfold Eh at hL;exact hL
 intro H8;simp only[AN,reduceIte]
end
theorem mD:ownKnob Tryz.prog.godebug=none:=by kernel_rfl
theorem adP:laidOutB Tryz.prog=true:=by kernel_rfl
theorem W7 {l:List TypeId} (h:(l.all fun t=>Tryz.prog.readableRec t&&Nat.blt t Tryz.prog.types.size)=true):∀t∈l,cV.P.readableRec t=true∧t<cV.P.types.size:=by
 intro t ht;have h1:=List.all_eq_true.1 h t ht;rw[Bool.and_eq_true] at h1;exact⟨h1.1,Nat.le_of_ble_eq_true h1.2⟩
end Go.Proofs.YtlgdkndamddpkaaGreat
end
