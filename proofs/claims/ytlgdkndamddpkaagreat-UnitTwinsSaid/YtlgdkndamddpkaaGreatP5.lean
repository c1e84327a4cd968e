/- Part 5 of the texts behind the law UnitTwins: what its row needs (an abstract machine, its equations, and what the program computes). -/
import Derived.Test.YtlgdkndamddpkaaGreatP4
set_option maxRecDepth 100000
set_option linter.unusedSimpArgs false
set_option linter.unusedVariables false
set_option linter.unusedSectionVars false
section
namespace Go.Proofs.YtlgdkndamddpkaaGreat
open Go.Am
structure si (g:bW) (a:Ar) (ds:List Nat):Prop where
 n:(a.bs.length:Int)=g.aB
 p:a.ay=g.ay
 len:∀b∈a.bs,(b.pg.length:Int)≤g.ay
 d:∀b∈a.bs,∀d∈b.pg,d.length=96
 bY:∀b∈g.us,(a.bk b).bY=true→(a.bk b).pg≠[]
 doom:∀b∈g.us,b∉ds→(a.bk b).doom≤0∧(a.bk b).bd=false∧(a.bk b).aM=false
theorem si.lt {g:bW} {a:Ar} {ds:List Nat} (h:si g a ds) {b:Nat} (hb:b∈g.us):b<a.bs.length:=by
 have:=ng hb;have:=h.n;omega
theorem js {a:Ar} {b:Nat} (h:b<a.bs.length):a.bk b∈a.bs:=List.mem_of_getElem? (yP h)
theorem si.UP {g:bW} {a a':Ar} {ds:List Nat} {b:Nat} {k:Bk} (h:si g a ds) (hb:b∈g.us) (he:uG a a' b k) (h1:(k.pg.length:Int)≤g.ay) (h2:∀d∈k.pg,d.length=96) (h3:k.bY=true→k.pg≠[]) (h4:b∉ds→k.doom≤0∧k.bd=false∧k.aM=false):si g a' ds where
 n:=by rw[he.bs,List.length_set];exact h.n
 p:=by rw[he.ay];exact h.p
 len:=fun x hx=>by
  rw[he.bs] at hx;rcases List.mem_or_eq_of_mem_set hx with hx|rfl
  ·exact h.len x hx
  ·exact h1
 d:=fun x hx=>by
  rw[he.bs] at hx;rcases List.mem_or_eq_of_mem_set hx with hx|rfl
  ·exact h.d x hx
  ·exact h2
 bY:=fun i hi=>by
  rw[he.bk (h.lt hb)];split
  ·exact h3
  ·exact h.bY i hi
 doom:=fun i hi hn=>by
  rw[he.bk (h.lt hb)];split
  ·rename_i e;subst e;exact h4 hn
  ·exact h.doom i hi hn
open Classical in
noncomputable def jO (g:bW) (a:Ar):Nat:=g.us.countP fun b=>decide ((a.bk b).aM=false∧lA (vw g a) b)
def lh (g:bW) (a:Ar):Nat:=g.us.countP fun b=>(a.bk b).aM
structure Cr (g:bW) (a:Ar) (c:Nat→List UInt8) (ds:List Nat) (N:Nat):Prop where
 ph:si g a ds
 gd:Gd (vw g a) c
 e:(lh g a:Int)≤g.aF→(jO g a:Int)+g.aF+1≤g.us.length
 seq:∀b,∀f∈vw g a b,f.s.seq≤N
 sp:∀i∈g.us,∀j∈g.us,(a.bk i).aM=false→(a.bk j).aM=false→ff (vw g a) i→ff (vw g a) j→i=j
structure jP (g:bW) (a:Ar) (c c':Nat→List UInt8) (ds:List Nat) (N:Nat):Prop where
 off:a.off=true
 ee:AW a
 ct:∀cut:Int,Cr g (cq a cut) c ds N∨Cr g (cq a cut) c' ds N
structure Rn (g:bW) (s:FS) (c:Nat→List UInt8) (ds:List Nat) (N:Nat) (tg:Oq):Prop where
 ok:aW g s
 on:s.a.off=false
 ee:s.a.ee=.no
 aN:s.a.aN≤s.f.ep
 ep:1≤s.f.ep∧s.f.ep<281474976710656
 ph:si g s.a ds
 gd:Gd (vw g s.a) c
 ct:∀x,(s.f.pm.at x=none∧∀b,∀f∈vw g s.a b,f.s.an≠x)∨∃b p,s.f.pm.at x=some (b,p)∧∃f∈vw g s.a b,f.p=p∧wH (vw g s.a) c x f
 seq:∀b,∀f∈vw g s.a b,f.s.seq≤s.f.seq
 sn:s.f.seq≤N
 bd:∀b∈g.us,s.f.po.how b=some 3↔(s.a.bk b).aM=true
 hf:∀b∈g.us,(s.a.bk b).aM=false→(s.a.bk b).bY=false
 cZ:∀b∈g.us,s.f.po.how b=some 0→(∀v,tg≠some (b,v))→s.next b=0
 gh:∀b∈g.us,s.f.po.how b=some 1→vw g s.a b=[]∨lA (vw g s.a) b
 j3:∀b∈g.us,s.f.po.how b=some 2→vw g s.a b=[]∨lA (vw g s.a) b∨(s.next b:Int)<g.ay
 DN:∀d v,tg=some (d,v)→d∈g.us∧v∈g.us∧d≠v∧s.f.po.how d=some 0∧s.f.po.how v=some 1∧lA (vw g s.a) v∧(∀f∈vw g s.a d,f.s.fr=v+1∧mt (vw g s.a) f)∧(s.next d:Int)+s.f.pm.dH v<g.ay
 Hg:tg≠none→s.f.po.count 2=0
 one:s.f.po.count 2≤1
 sj:(s.f.po.count 3:Int)≤g.aF→1+g.aF≤s.f.po.count 0+s.f.po.count 3
section
variable {g:bW} {s:FS} {c:Nat→List UInt8} {ds:List Nat} {N:Nat} {tg:Oq}
theorem lj {α:Type} {p q:α→Bool}:∀{l:List α},(∀b∈l,p b=true→q b=true)→l.countP p≤l.countP q:=fun h=>List.countP_mono_left h
theorem lk {p q r:Nat→Bool}:∀{l:List Nat},(∀b∈l,r b=true→p b=true∨q b=true)→l.countP r≤l.countP p+l.countP q
 |[],_=>Nat.le_refl _
 |x::l,h=>by
  have ih:=lk (p:=p) (q:=q) (r:=r) (fun b hb=>h b (List.mem_cons_of_mem _ hb));have hx:=h x List.mem_cons_self;rw[List.countP_cons,List.countP_cons,List.countP_cons];by_cases hr:r x=true
  ·rcases hx hr with hp|hq
   ·rw[if_pos hr,if_pos hp];omega
   ·rw[if_pos hr,if_pos hq];omega
  ·rw[if_neg hr];omega
theorem qx {p q:Nat→Bool} {v:Nat}:∀{l:List Nat},(∀b∈l,p b=true→q b=true)→v∈l→q v=true→p v=false→l.countP p+1≤l.countP q
 |x::l,h,hv,hq,hp=>by
  rw[List.countP_cons,List.countP_cons];rcases List.mem_cons.1 hv with rfl|hv
  ·have:=lj (p:=p) (q:=q) (fun b hb=>h b (List.mem_cons_of_mem _ hb));rw[if_pos hq,if_neg (by simp [hp])];omega
  ·have ih:=qx (fun b hb=>h b (List.mem_cons_of_mem _ hb)) hv hq hp;by_cases hx:p x=true
   ·rw[if_pos hx,if_pos (h x List.mem_cons_self hx)];omega
   ·rw[if_neg hx];omega
theorem Hh {l:List (Nat×Nat)} (h:∀x∈l,x.2≤3):l.countP (fun x=>decide (x.2=0))+l.countP (fun x=>decide (x.2=1))+l.countP (fun x=>decide (x.2=2))+l.countP (fun x=>decide (x.2=3))=l.length:=by
 induction l with
 |nil=>rfl
 |cons x l ih=>
  have ih:=ih (fun y hy=>h y (List.mem_cons_of_mem _ hy));have hx:=h x List.mem_cons_self;simp only[List.countP_cons,List.length_cons,decide_eq_true_eq];have:x.2=0∨x.2=1∨x.2=2∨x.2=3:=by omega
  rcases this with e|e|e|e<;>simp only[e]<;>simp<;>omega
theorem aW.NB (h:aW g s):s.f.po.count 0+s.f.po.count 1+s.f.po.count 2+s.f.po.count 3=g.us.length:=by
 have:=Hh h.po.h;rw[←h.us,List.length_map];exact this
theorem aW.dH (h:aW g s) (k:Nat):s.f.po.count k=g.us.countP (fun b=>decide (s.f.po.how b=some k)):=vr h.po h.us k
theorem aW.TD (h:aW g s) {b:Nat} (hb:b∈g.us):s.f.po.how b=some 0∨s.f.po.how b=some 1∨s.f.po.how b=some 2∨s.f.po.how b=some 3:=by
 obtain⟨k,hk⟩:=Option.isSome_iff_exists.1 (h.how hb);have:=TC h.po hk;have:k=0∨k=1∨k=2∨k=3:=by omega
 rcases this with rfl|rfl|rfl|rfl<;>simp [hk]
theorem yV {a:Ar} {b:Nat} (h:(a.bk b).pg=[]∨(a.bk b).bY=true):vw g a b=[]:=by
 unfold vw;split
 ·exact Bm h
 ·rfl
theorem wb {v:Vw} {b:Nat} (h:v b=[]):¬lA v b:=fun⟨f,hf,_⟩=>by rw[h] at hf;cases hf
theorem Rn.iD (h:Rn g s c ds N tg) {b:Nat} (hb:b∈g.us) (hf:(s.a.bk b).aM=false) (hn:lA (vw g s.a) b):s.f.po.how b=some 1∨s.f.po.how b=some 2:=by
 rcases h.ok.TD hb with e|e|e|e
 ·exfalso;by_cases ht:∃v,tg=some (b,v)
  ·obtain⟨v,hv⟩:=ht;obtain⟨_,_,_,_,_,_,hall,_⟩:=h.DN b v hv;obtain⟨f,hf,hm⟩:=hn;exact hm (hall f hf).2
  ·have:=h.cZ b hb e (fun v hv=>ht ⟨v,hv⟩);exact wb (yV (.inl (List.eq_nil_of_length_eq_zero this))) hn
 ·exact .inl e
 ·exact .inr e
 ·rw[(h.bd b hb).1 e] at hf;cases hf
theorem Rn.lh (h:Rn g s c ds N tg) {a:Ar} (hf:∀b∈g.us,(a.bk b).aM=(s.a.bk b).aM):lh g a=s.f.po.count 3:=by
 rw[h.ok.dH 3];exact List.countP_congr fun b hb=>by rw[hf b hb, ←h.bd b hb];simp
open Classical in
theorem Rn.UQ (h:Rn g s c ds N tg) {a:Ar} (hf:∀b∈g.us,(a.bk b).aM=(s.a.bk b).aM) (hn:∀b∈g.us,(a.bk b).aM=false→lA (vw g a) b→s.f.po.how b=some 1∨s.f.po.how b=some 2):
 (Go.Proofs.YtlgdkndamddpkaaGreat.lh g a:Int)≤g.aF→(jO g a:Int)+g.aF+1≤g.us.length:=by
 intro hle;rw[h.lh hf] at hle;have h4:=h.ok.NB;have hr:=h.sj hle
 have:jO g a≤s.f.po.count 1+s.f.po.count 2:=by
  rw[h.ok.dH 1,h.ok.dH 2];refine lk (fun b hb hx=> ?_);have hx:=of_decide_eq_true hx;simpa using hn b hb hx.1 hx.2
 omega
open Classical in
theorem Rn.aa7 (h:Rn g s c ds N tg) {a:Ar} {v d:Nat} (hv:v∈g.us) (oJ:s.f.po.how v=some 1) (hf:∀b∈g.us,(a.bk b).aM=(s.a.bk b).aM)
 (hn:∀b∈g.us,(a.bk b).aM=false→lA (vw g a) b→b≠v∧(s.f.po.how b=some 1∨s.f.po.how b=some 2∨b=d)):
 (Go.Proofs.YtlgdkndamddpkaaGreat.lh g a:Int)≤g.aF→(jO g a:Int)+g.aF+1≤g.us.length:=by
 intro hle;rw[h.lh hf] at hle;have h4:=h.ok.NB;have hr:=h.sj hle
 have:jO g a≤s.f.po.count 1+s.f.po.count 2:=by
  have h1:jO g a≤g.us.countP (fun b=>decide (b≠v∧(s.f.po.how b=some 1∨s.f.po.how b=some 2)))+g.us.countP (fun b=>decide (b=d)):=by
   refine lk (fun b hb hx=> ?_);have hx:=of_decide_eq_true hx;obtain⟨h1,h2⟩:=hn b hb hx.1 hx.2;simp only[decide_eq_true_eq];rcases h2 with h2|h2|h2
   ·exact .inl ⟨h1,.inl h2⟩
   ·exact .inl ⟨h1,.inr h2⟩
   ·exact .inr h2
  have h2:g.us.countP (fun b=>decide (b≠v∧(s.f.po.how b=some 1∨s.f.po.how b=some 2)))+1≤g.us.countP (fun b=>decide (s.f.po.how b=some 1∨s.f.po.how b=some 2)):=
   qx (v:=v) (fun b hb hx=>by simp only[decide_eq_true_eq] at hx⊢;exact hx.2) hv (by simp [oJ]) (by simp)
  have h3:g.us.countP (fun b=>decide (s.f.po.how b=some 1∨s.f.po.how b=some 2))≤s.f.po.count 1+s.f.po.count 2:=by
   rw[h.ok.dH 1,h.ok.dH 2];exact lk (fun b hb hx=>by simpa using hx)
  have h5:g.us.countP (fun b=>decide (b=d))≤1:=by
   have:=List.nodup_iff_count.1 (nh g) d
   have e:g.us.countP (fun b=>decide (b=d))=g.us.count d:=by
    unfold List.count;exact List.countP_congr (fun b _=>by simp)
   rw[e];exact this
  omega
 omega
theorem vt {p:Po} (hp:p.ok) {us:List Nat} (hu:p.bl.map Prod.fst=us) {d:Nat} (hd:p.how d=some 2) (h1:p.count 2≤1):p.j3=some d:=by
 have OM:d∈us:=by rw[←hu];exact jN.1 (by show (p.how d).isSome=true;rw[hd];rfl)
 cases ho:p.j3 with
 |none=>
  have:=pV.1 ho;rw[vr hp hu] at this;have:=List.countP_eq_zero.1 this d OM;rw[hd] at this;exact absurd rfl this
 |some o=>
  by_cases hod:o=d
  ·rw[hod]
  ·exfalso;have YP:=wX hp ho;have hou:o∈us:=by rw[←hu];exact jN.1 (by show (p.how o).isSome=true;rw[YP];rfl)
   have h2:us.countP (fun b=>decide (b=d))+1≤us.countP (fun b=>decide (p.how b=some 2)):=
    qx (v:=o) (fun b _ hb=>by simp only[decide_eq_true_eq] at hb⊢;rw[hb];exact hd) hou (by simp [YP]) (by simp [hod])
   have h3:0<us.countP (fun b=>decide (b=d)):=List.countP_pos_iff.2 ⟨d,OM,by simp⟩;rw[vr hp hu] at h1;omega
theorem Rn.Fh (h:Rn g s c ds N tg) {i:Nat} (hi:i∈g.us) (hf:(s.a.bk i).aM=false) (hs:ff (vw g s.a) i):s.f.po.how i=some 2∨∃v,tg=some (i,v):=by
 rcases h.ok.TD hi with e|e|e|e
 ·by_cases ht:∃v,tg=some (i,v)
  ·exact .inr ht
  ·have:=h.cZ i hi e (fun v hv=>ht ⟨v,hv⟩);exact absurd (yV (.inl (List.eq_nil_of_length_eq_zero this))) hs.1
 ·rcases h.gh i hi e with e|e
  ·exact absurd e hs.1
  ·exact absurd hs (qt e)
 ·exact .inl e
 ·rw[(h.bd i hi).1 e] at hf;cases hf
theorem Rn.sp1 (h:Rn g s c ds N tg) {i j:Nat} (hi:i∈g.us) (hj:j∈g.us) (h1:s.f.po.how i=some 2∨∃v,tg=some (i,v)) (h2:s.f.po.how j=some 2∨∃v,tg=some (j,v)):i=j:=by
 have no:∀i v,tg=some (i,v)→∀j,s.f.po.how j≠some 2:=fun i v e j hj=>by
  have h0:=h.Hg (by rw[e];simp);have:=vt h.ok.po h.ok.us hj (by omega);rw[pV.2 h0] at this;cases this
 rcases h1 with h1|⟨v,h1⟩
 ·rcases h2 with h2|⟨w,h2⟩
  ·have e1:=vt h.ok.po h.ok.us h1 h.one;rw[vt h.ok.po h.ok.us h2 h.one] at e1;exact(Option.some.inj e1).symm
  ·exact absurd h1 (no j w h2 i)
 ·rcases h2 with h2|⟨w,h2⟩
  ·exact absurd h2 (no i v h1 j)
  ·rw[h1] at h2;cases h2;rfl
theorem Rn.Hi (h:Rn g s c ds N tg) {a:Ar} (hf:∀b∈g.us,(a.bk b).aM=(s.a.bk b).aM) (hn:∀i∈g.us,(s.a.bk i).aM=false→ff (vw g a) i→s.f.po.how i=some 2∨∃v,tg=some (i,v)):∀i∈g.us,∀j∈g.us,(a.bk i).aM=false→(a.bk j).aM=false→ff (vw g a) i→ff (vw g a) j→i=j:=fun i hi j hj h1 h2 h3 h4=>
 h.sp1 hi hj (hn i hi (by rw[←hf i hi];exact h1) h3) (hn j hj (by rw[←hf j hj];exact h2) h4)
theorem Rn.cr (h:Rn g s c ds N tg):Cr g s.a c ds N where
 ph:=h.ph
 gd:=h.gd
 e:=h.UQ (fun _ _=>rfl) (fun b hb hf hn=>h.iD hb hf hn)
 seq:=fun b f hf=>Nat.le_trans (h.seq b f hf) h.sn
 sp:=h.Hi (fun _ _=>rfl) (fun i hi hf hs=>h.Fh hi hf hs)
theorem Hj {a:Ar} (hw:a.ee=.no) (cut:Int):(cq a cut).bs=a.bs∧(cq a cut).ay=a.ay:=by
 unfold cq v9;rw[hw];exact⟨rfl,rfl⟩
theorem ni {a a':Ar} (h:a'.bs=a.bs) (b:Nat):a'.bk b=a.bk b:=by unfold Ar.bk;rw[h]
theorem uh {a a':Ar} (h:a'.bs=a.bs):vw g a'=vw g a:=by
 funext b;unfold vw Ar.fd;rw[h]
theorem si.congr {a a':Ar} (h:si g a ds) (hb:a'.bs=a.bs) (hp:a'.ay=a.ay):si g a' ds where
 n:=by rw[hb];exact h.n
 p:=by rw[hp];exact h.p
 len:=by rw[hb];exact h.len
 d:=by rw[hb];exact h.d
 bY:=fun b hu=>by rw[ni hb];exact h.bY b hu
 doom:=fun b hu=>by rw[ni hb];exact h.doom b hu
theorem Cr.congr {a a':Ar} (h:Cr g a c ds N) (hb:a'.bs=a.bs) (hp:a'.ay=a.ay):Cr g a' c ds N where
 ph:=h.ph.congr hb hp
 gd:=by rw[uh hb];exact h.gd
 e:=by
  have e1:Go.Proofs.YtlgdkndamddpkaaGreat.lh g a'=Go.Proofs.YtlgdkndamddpkaaGreat.lh g a:=List.countP_congr fun b hu=>by rw[ni hb]
  have e2:jO g a'=jO g a:=by
   unfold jO;rw[uh hb];exact List.countP_congr fun b hu=>by rw[ni hb]
  rw[e1,e2];exact h.e
 seq:=by rw[uh hb];exact h.seq
 sp:=fun i hi j hj=>by rw[uh hb,ni hb,ni hb];exact h.sp i hi j hj
end
end Go.Proofs.YtlgdkndamddpkaaGreat
end
section
namespace Go.Proofs.YtlgdkndamddpkaaGreat
open Go.Am
section
variable {g:bW} {s:FS} {c:Nat→List UInt8} {ds:List Nat} {N:Nat} {tg:Oq}
def qK (s:FS) (x:Sh):Sh:={x with ep:=s.f.ep,seq:=iP s.f.seq}
structure yW (g:bW) (x:Sh):Prop where
 k:x.cK=1∨x.cK=2
 a:(x.an:Int)≤g.cap
 fr:x.fr≤64
 dl:x.data.length≤64
 d0:x.cK=1∨x.data.length=0
theorem yW.cN {x:Sh} (h:yW g x) (hc:g.cap<65000) (he:s.f.ep<281474976710656) (hs:s.f.seq+1<281474976710656):(qK s x).cN∧(qK s x).cK≠3∧(qK s x).seq=s.f.seq+1:=by
 have e:iP s.f.seq=s.f.seq+1:=by unfold iP;omega
 have hk:=h.k;have ha:=h.a;refine⟨⟨?_, ?_,he, ?_, ?_,h.fr,h.dl,h.d0⟩, ?_,e⟩
 ·show 1≤x.cK;omega
 ·show x.cK≤3;omega
 ·show iP s.f.seq<_;omega
 ·show x.an<_;omega
 ·show x.cK≠3;omega
theorem wZ (s:FS) (b:Nat):s.next b=(s.a.bk b).pg.length:=rfl
theorem Bo (h:Rn g s c ds N tg) (hc:g.cap<65000) {b:Nat} (hb:b∈g.us) (h3:s.f.po.how b≠some 3) (hp:(s.next b:Int)<g.ay) {x:Sh} (hx:yW g x) (hs:s.f.seq+1<281474976710656):∃a',(bQ s b x=(⟨a',{s.f with seq:=iP s.f.seq,pm:=s.f.pm.put x.an (some (b,s.next b))}⟩,0)∧a'.off=false∧a'.ee=.no∧F8 s.a a' b {aD (s.a.bk b) with pg:=(s.a.bk b).pg++[dK (qK s x)]})∨(bQ s b x=(⟨a',{s.f with seq:=iP s.f.seq,po:=s.f.po.set b 3}⟩,8)∧a'.off=false∧a'.ee=.no∧(aD (s.a.bk b)).bd=true∧F8 s.a a' b {aD (s.a.bk b) with pg:=(s.a.bk b).pg++[gG (dK (qK s x)) 0],aM:=true})∨(bQ s b x=(⟨a',{s.f with seq:=iP s.f.seq}⟩,9)∧a'.off=true∧s.a.bI>0∧a'.ee=.prog b (dK (qK s x))∧F8 s.a a' b (aD (s.a.bk b))):=by
 have hlt:=h.ph.lt hb
 have p5:(s.a.bk b).aM=false:=by
  rw[←Bool.not_eq_true];intro e;exact h3 ((h.bd b hb).2 e)
 have hf:=hx.cN hc h.ep.2 hs;have hl:(dK (qK s x)).length=96:=k6 _ hx.dl;obtain⟨a',r,he,ho⟩:=Ny (e:=(s.f.ep:Int)) hlt h.on (by rw[h.ph.p];exact hp) hl (h.hf b hb p5) h.aN;refine⟨a', ?_⟩;have he':fq s.a b (s.next b) (dK (qK s x)) s.f.ep=(a',r):=he
 have hP:bQ s b x=if r=8∨r=6 then (⟨a',{s.f with seq:=iP s.f.seq,po:=s.f.po.set b 3}⟩,8)
  else if r=0 then (⟨a',{s.f with seq:=iP s.f.seq,pm:=s.f.pm.put x.an (some (b,s.next b))}⟩,0)
  else (⟨a',{s.f with seq:=iP s.f.seq}⟩,r):=by
  unfold bQ;simp only;rw[show ({x with ep:=s.f.ep,seq:=iP s.f.seq}:Sh)=qK s x from rfl,he']
 rw[hP];rcases ho with⟨rfl,h1,h2,h3,h4⟩|⟨rfl,h1,h2,h3,h4⟩|⟨rfl,h1,h2,h3,h4⟩
 ·exact .inl ⟨by simp,h1,h3.trans h.ee,h4⟩
 ·exact .inr (.inl ⟨by simp,h1,h3.trans h.ee,h2,h4⟩)
 ·exact .inr (.inr ⟨by simp,h1,h2,h3,h4⟩)
theorem Fi {k:Bk} (h:(aD k).bd=true):0<k.doom∨k.bd=true:=by
 unfold aD at h;split at h
 ·exact .inl (by omega)
 ·exact .inr h
theorem iq {k:Bk} (h:k.doom≤0∧k.bd=false∧k.aM=false):(aD k).doom≤0∧(aD k).bd=false∧(aD k).aM=false:=by
 rw[Fg h.1 h.2.1];exact h
theorem Rn.NC (h:si g s.a ds) {b:Nat} (hb:b∈g.us) (hd:(aD (s.a.bk b)).bd=true):b∈ds:=
 Classical.byContradiction fun hn=>by
  have:=h.doom b hb hn;rcases Fi hd with e|e
  ·omega
  ·rw[this.2.1] at e;cases e
theorem si.prog (h:si g s.a ds) {b:Nat} (hb:b∈g.us) (hp:(s.next b:Int)<g.ay) (hh:(s.a.bk b).bY=false) {d:List UInt8} (hd:d.length=96) {a':Ar} {k:Bk} (he:uG s.a a' b k) (h1:k.pg=(s.a.bk b).pg++[d]) (h2:k.bY=(s.a.bk b).bY) (h3:b∉ds→k.doom≤0∧k.bd=false∧k.aM=false):si g a' ds:=by
 have hm:=js (h.lt hb);refine h.UP hb he ?_ (fun x hx=> ?_) (fun e=> ?_) h3
 ·rw[h1,List.length_append];have:=wZ s b;simp only[List.length_singleton];omega
 ·rw[h1] at hx;rcases List.mem_append.1 hx with hx|hx
  ·exact h.d _ hm x hx
  ·rw[List.mem_singleton] at hx;rw[hx];exact hd
 ·rw[h2,hh] at e;cases e
def vu (s:FS) (b:Nat) (x:Sh):Fd:=⟨b,s.next b,qK s x⟩
theorem yX (hp:si g s.a ds) {b:Nat} (hb:b∈g.us) (hh:(s.a.bk b).bY=false) {x:Sh} (hf:(qK s x).cN) (h3:(qK s x).cK≠3) (ha:(x.an:Int)≤g.cap) {a':Ar} {k:Bk} (he:uG s.a a' b k) (h1:k.pg=(s.a.bk b).pg++[dK (qK s x)]) (h2:k.bY=(s.a.bk b).bY):vw g a'=gv (vw g s.a) b (vu s b x):=by
 rw[he.vw (hp.lt hb) hb];funext i;unfold gv;by_cases hi:i=b
 ·subst hi;rw[if_pos rfl,if_pos rfl,I4 hb,Kt hh hf h3 ha (h2.trans hh) h1];rfl
 ·rw[if_neg hi,if_neg hi]
theorem I8 (h:∀b,∀f∈vw g s.a b,f.s.seq≤s.f.seq) {x:Sh} {b:Nat} (e:(qK s x).seq=s.f.seq+1):∀i,∀y∈vw g s.a i,y.s.seq<(vu s b x).s.seq:=fun i y hy=>by
 have:=h i y hy;show _<(qK s x).seq
 omega
theorem ui {a a':Ar} {b:Nat} {d:List UInt8} {k:Bk} (hb:b<a.bs.length) (hw:a'.ee=.prog b d) (he:uG a a' b k) (cut:Int):uG a (cq a' cut) b (if cut>0 then {k with pg:=k.pg++[gG d cut]} else k):=by
 have hk:a'.bs[b]? =some k:=by
  rw[he.bs,List.getElem?_set];simp [hb]
 unfold cq v9;rw[hw];simp only;by_cases hc:cut>0
 ·rw[if_pos hc,if_pos hc,hk];refine⟨?_,he.ay⟩;show a'.bs.set b _=_
  rw[he.bs,List.set_set]
 ·rw[if_neg hc,if_neg hc];exact⟨he.bs,he.ay⟩
theorem Ku {d:List UInt8} (hd:d.length=96) {cut:Int} (h:96≤cut):gG d cut=d:=by
 unfold gG;rw[List.take_of_length_le (by omega),show d.length-cut.toNat=0 from by omega];simp
theorem gU {a':Ar} {f:Ft} {b:Nat} {k:Bk} (hb:b<s.a.bs.length) (he:uG s.a a' b k) (i:Nat):FS.next ⟨a',f⟩ i=if i=b then k.pg.length else s.next i:=by
 rw[wZ,wZ];show (a'.bk i).pg.length=_
 rw[he.bk hb];split<;>rfl
theorem yY (hph:si g s.a ds) (hg:g.In) {a':Ar} {b:Nat} (hb:b∈g.us) {d:List UInt8} (hd:d.length=96) {k:Bk} (hk:k.pg=(s.a.bk b).pg) (hw:a'.ee=.prog b d) (he:uG s.a a' b k):AW a':=by
 unfold AW;rw[hw];have hl:=hph.lt hb;have hl':b<a'.bs.length:=by rw[he.bs,List.length_set];exact hl
 refine⟨hd,hl', ?_⟩
 have e:a'.bs[b]=k:=by
  have:=he.bk hl b;rw[if_pos rfl] at this;rw[←this];exact(Option.some.inj ((List.getElem?_eq_getElem hl').symm.trans (yP hl')))
 rw[e,hk];have:=hph.len _ (js hl);have:=hg.p;omega
theorem Bp {v:Vw} {b:Nat} {f:Fd} (hn:∀i,∀y∈v i,y.s.seq<f.s.seq) {i:Nat} (hi:i≠b) (h:ff (gv v b f) i):ff v i:=by
 have e:gv v b f i=v i:=if_neg hi;refine⟨by rw[←e];exact h.1,fun t ht=>(pP hn ht).1 (h.2 t (by rw[e];exact ht))⟩
theorem qy {v:Vw} {b:Nat} {i:Nat} (h:ff (ke v b) i):i≠b∧ff v i:=by
 have hi:i≠b:=fun e=>h.1 (if_pos e)
 have e:ke v b i=v i:=if_neg hi;exact⟨hi,by rw[←e];exact h.1,fun t ht=>(C2 (h.2 t (by rw[e];exact ht))).1⟩
theorem iL {a':Ar} {b:Nat} {k:Bk} (hb:b<s.a.bs.length) (he:uG s.a a' b k) (hk:k.aM=(s.a.bk b).aM) (i:Nat):(a'.bk i).aM=(s.a.bk i).aM:=by
 rw[he.bk hb];split
 ·rename_i e;rw[e];exact hk
 ·rfl
theorem Rn.XP (h:Rn g s c ds N tg) {b:Nat} (hb:b∈g.us) (hh:(s.a.bk b).bY=false) (hp:(s.next b:Int)<g.ay) {x:Sh} (hx:yW g x) (f1:(qK s x).cN) (f2:(qK s x).cK≠3) (hl:(dK (qK s x)).length=96) {a':Ar} (hw:a'.ee=.prog b (dK (qK s x))) (he:uG s.a a' b (aD (s.a.bk b))) {cut:Int} (Jv:96≤cut) {c':Nat→List UInt8} (hgd:Gd (gv (vw g s.a) b (vu s b x)) c') (F4:∀i∈g.us,(s.a.bk i).aM=false→lA (gv (vw g s.a) b (vu s b x)) i→s.f.po.how i=some 1∨s.f.po.how i=some 2) (HK:∀i,∀f∈gv (vw g s.a) b (vu s b x) i,f.s.seq≤N) (hsp:∀i∈g.us,(s.a.bk i).aM=false→ff (gv (vw g s.a) b (vu s b x)) i→s.f.po.how i=some 2∨∃v,tg=some (i,v)):Cr g (cq a' cut) c' ds N:=by
 have hlt:=h.ph.lt hb;have hr:=ui hlt hw he cut;rw[if_pos (by omega),Ku hl Jv] at hr;obtain⟨k,hk⟩:∃k:Bk,k={aD (s.a.bk b) with pg:=(aD (s.a.bk b)).pg++[dK (qK s x)]}:=⟨_,rfl⟩;rw[←hk] at hr;have k1:k.pg=(s.a.bk b).pg++[dK (qK s x)]:=by rw[hk,bu]
 have k2:k.bY=(s.a.bk b).bY:=by rw[hk];exact bD _
 have k3:k.aM=(s.a.bk b).aM:=by rw[hk];exact dB _
 have k4:b∉ds→k.doom≤0∧k.bd=false∧k.aM=false:=fun hn=>by rw[hk];exact iq (h.ph.doom b hb hn)
 clear hk;have hv:=yX h.ph hb hh f1 f2 hx.a hr k1 k2;have hfl:=iL hlt hr k3;refine⟨h.ph.prog hb hp hh hl hr k1 k2 k4,by rw[hv];exact hgd,h.UQ (fun i _=>hfl i) (fun i hi hf hs'=> ?_),by rw[hv];exact HK,h.Hi (fun i _=>hfl i) (fun i hi hf hs'=>by rw[hv] at hs';exact hsp i hi hf hs')⟩;rw[hv] at hs';rw[hfl i] at hf;exact F4 i hi hf hs'
theorem Rn.XQ (h:Rn g s c ds N tg) {b:Nat} (hb:b∈g.us) (hh:(s.a.bk b).bY=false) (hp:(s.next b:Int)<g.ay) {x:Sh} (hx:yW g x) (hl:(dK (qK s x)).length=96) {a':Ar} (hw:a'.ee=.prog b (dK (qK s x))) (he:uG s.a a' b (aD (s.a.bk b))) {cut:Int} (Jv:cut<96):Cr g (cq a' cut) c ds N:=by
 have hlt:=h.ph.lt hb;have hr:=ui hlt hw he cut
 have key:∀k:Bk,uG s.a (cq a' cut) b k→k.eu b g.cap=(s.a.bk b).eu b g.cap→k.aM=(s.a.bk b).aM→si g (cq a' cut) ds→Cr g (cq a' cut) c ds N:=fun k hk h1 h2 h3=>by
  have hv:=hk.wA hlt hb h1;have hfl:=iL hlt hk h2;refine⟨h3,by rw[hv];exact h.gd,h.UQ (fun i _=>hfl i) (fun i hi hf hs'=> ?_),by rw[hv];exact fun i f hf=>Nat.le_trans (h.seq i f hf) h.sn,h.Hi (fun i _=>hfl i) (fun i hi hf hs'=>by rw[hv] at hs';exact h.Fh hi hf hs')⟩;rw[hv] at hs';rw[hfl i] at hf;exact h.iD hi hf hs'
 by_cases h0:cut>0
 ·rw[if_pos h0] at hr;obtain⟨k,hk⟩:∃k:Bk,k={aD (s.a.bk b) with pg:=(aD (s.a.bk b)).pg++[gG (dK (qK s x)) cut]}:=⟨_,rfl⟩;rw[←hk] at hr;have k1:k.pg=(s.a.bk b).pg++[gG (dK (qK s x)) cut]:=by rw[hk,bu]
  have k2:k.bY=(s.a.bk b).bY:=by rw[hk];exact bD _
  have k3:k.aM=(s.a.bk b).aM:=by rw[hk];exact dB _
  have k4:b∉ds→k.doom≤0∧k.bd=false∧k.aM=false:=fun hn=>by rw[hk];exact iq (h.ph.doom b hb hn)
  exact key k hr (sf (r8 (s:=qK s x) hx.dl (n:=cut) Jv) k2 k1) k3 (h.ph.prog hb hp hh (by rw[mV];exact hl) hr k1 k2 k4)
 ·rw[if_neg h0] at hr;refine key _ hr (ue _ _ _) (dB _) (h.ph.UP hb hr ?_ ?_ ?_ (fun hn=>iq (h.ph.doom b hb hn)))
  ·rw[bu];exact h.ph.len _ (js hlt)
  ·rw[bu];exact h.ph.d _ (js hlt)
  ·rw[bD,bu];exact h.ph.bY b hb
theorem Rn.put (h:Rn g s c ds N none) (hg:g.In) (hc:g.cap<65000) {b:Nat} (hb:b∈g.us) (h2:s.f.po.how b=some 2) (hp:(s.next b:Int)<g.ay) {x:Sh} (hx:yW g x) (hx0:x.fr=0) (hs:s.f.seq+1<281474976710656) (hN:s.f.seq+1≤N):((bQ s b x).2=0∧Rn g (bQ s b x).1 (n7 c x.an x.data) ds N none)∨((bQ s b x).2=8∧Rn g (bQ s b x).1 c ds N none∧(bQ s b x).1.f.po.count 2=0∧(bQ s b x).1.f.po.count 3=s.f.po.count 3+1)∨((bQ s b x).2=9∧s.a.bI>0∧jP g (bQ s b x).1.a c (n7 c x.an x.data) ds N):=by
 have cj:=h.ok.bQ hg hb (x:=x) hx.dl;have hlt:=h.ph.lt hb
 have p5:(s.a.bk b).aM=false:=by
  rw[←Bool.not_eq_true];intro e;rw[(h.bd b hb).2 e] at h2;cases h2
 have hh:=h.hf b hb p5;obtain⟨f1,f2,f3⟩:=hx.cN hc h.ep.2 hs;have hl:(dK (qK s x)).length=96:=k6 _ hx.dl;have hna:=h.ok.na;have hxl:x.an<s.f.pm.ct.length:=by have:=hx.a;omega
 have hn:=I8 (x:=x) (b:=b) h.seq f3;have hgd:=h.gd.put (f:=vu s b x) (b:=b) hn rfl hx0;have hgd:Gd (gv (vw g s.a) b (vu s b x)) (n7 c x.an x.data):=hgd;have YQ:lA (gv (vw g s.a) b (vu s b x)) b:=⟨vu s b x,bE.2 (.inr ⟨rfl,rfl⟩),fun hm=>hm.1 hx0⟩
 have HK:∀i,∀f∈gv (vw g s.a) b (vu s b x) i,f.s.seq≤s.f.seq+1:=fun i f hf=>by
  rcases bE.1 hf with hf|⟨_,rfl⟩
  ·have:=h.seq i f hf;omega
  ·show (qK s x).seq≤_;omega
 have F4:∀i∈g.us,(s.a.bk i).aM=false→lA (gv (vw g s.a) b (vu s b x)) i→s.f.po.how i=some 1∨s.f.po.how i=some 2:=fun i hi hf hs'=>by
  by_cases bh:i=b
  ·subst bh;exact .inr h2
  ·obtain⟨t,ht,hm⟩:=hs';rcases bE.1 ht with ht|⟨e,_⟩
   ·exact h.iD hi hf ⟨t,ht,fun hh=>hm ((pP hn ht).2 hh)⟩
   ·exact absurd e bh
 obtain⟨a',ho⟩:=Bo h hc hb (by rw[h2];simp) hp hx hs;rcases ho with⟨ho,o1,o2,he⟩|⟨ho,o1,o2,o3,he⟩|⟨ho,o1,o2,o3,he⟩
 ·left;rw[ho] at cj⊢;refine⟨rfl, ?_⟩;have hv:=yX h.ph hb hh f1 f2 hx.a he.touG rfl (by rw[bD]);have hbk:=fun i=>he.touG.bk hlt i
  have hfl:∀i,(a'.bk i).aM=(s.a.bk i).aM:=fun i=>by
   rw[hbk];split
   ·rename_i e;subst e;exact dB _
   ·rfl
  have OH:∀i,(a'.bk i).bY=(s.a.bk i).bY:=fun i=>by
   rw[hbk];split
   ·rename_i e;subst e;exact bD _
   ·rfl
  have mw:=fun i=>gU (f:={s.f with seq:=iP s.f.seq,pm:=s.f.pm.put x.an (some (b,s.next b))}) hlt he.touG i
  exact {
   ok:=cj,on:=o1,ee:=o2,aN:=by rw[he.aN];exact h.aN,ep:=h.ep
   ph:=h.ph.prog hb hp hh hl he.touG rfl (bD _) (fun hn=>iq (h.ph.doom b hb hn))
   gd:=by rw[hv];exact hgd
   ct:=fun y=>by
    show ((s.f.pm.put x.an (some (b,s.next b))).at y=none∧_)∨∃b' p,(s.f.pm.put x.an (some (b,s.next b))).at y=some (b',p)∧_
    rw[hv,Nz hxl];by_cases hy:y=x.an
    ·subst hy;right;exact⟨b,s.next b,if_pos rfl,vu s b x,bE.2 (.inr ⟨rfl,rfl⟩),rfl,wH.new (f:=vu s b x) hn⟩
    ·rw[if_neg hy];rcases h.ct y with⟨h1,h2⟩|⟨b',p,h1,f,h2,h3,h4⟩
     ·refine .inl ⟨h1,fun i f hf=> ?_⟩;rcases bE.1 hf with hf|⟨_,rfl⟩
      ·exact h2 i f hf
      ·exact fun e=>hy e.symm
     ·exact .inr ⟨b',p,h1,f,bE.2 (.inl h2),h3,h4.put (f:=vu s b x) (fun e=>hy e.symm)⟩
   seq:=fun i f hf=>by
    rw[hv] at hf;have:=HK i f hf;have:iP s.f.seq=s.f.seq+1:=f3;show _≤iP s.f.seq
    omega
   sn:=by show iP s.f.seq≤N;have:iP s.f.seq=s.f.seq+1:=f3;omega
   bd:=fun i hi=>by show s.f.po.how i=some 3↔(a'.bk i).aM=true;rw[hfl];exact h.bd i hi
   hf:=fun i hi e=>by show (a'.bk i).bY=false;rw[OH];exact h.hf i hi (by rw[←hfl];exact e)
   cZ:=fun i hi e ht=>by
    have e:s.f.po.how i=some 0:=e;rw[mw,if_neg (fun e2=>by rw[e2,h2] at e;cases e)];exact h.cZ i hi e ht
   gh:=fun i hi e=>by
    have e:s.f.po.how i=some 1:=e;have bh:i≠b:=fun e2=>by rw[e2,h2] at e;cases e
    show vw g a' i=[]∨lA (vw g a') i
    rw[hv];refine(h.gh i hi e).imp (fun e=> ?_) (fun e=>e.add hn);unfold gv;rw[if_neg bh];exact e
   j3:=fun i hi e=>by
    show vw g a' i=[]∨lA (vw g a') i∨_
    rw[hv];by_cases bh:i=b
    ·subst bh;exact .inr (.inl YQ)
    ·rw[mw,if_neg bh];refine(h.j3 i hi e).imp (fun e=> ?_) (fun e=>e.imp (fun e=>e.add hn) id);unfold gv;rw[if_neg bh];exact e
   DN:=fun d v e=>by cases e
   Hg:=fun e=>absurd rfl e
   one:=h.one
   sj:=h.sj}
 ·right;left;rw[ho] at cj⊢;have gi:s.f.po.set b 3=s.f.po.cd b 3:=fG (by rw[h2];simp) (.inl (by omega));rw[gi] at cj⊢;have hv:vw g a'=vw g s.a:=he.touG.wA hlt hb (sf (r8 (s:=qK s x) hx.dl (n:=0) (by omega)) (by show (aD (s.a.bk b)).bY=_;rw[bD]) rfl);have hbk:=fun i=>he.touG.bk hlt i
  have cF:=fun i=>fh (p:=s.f.po) (b:=b) (h:=3) i (h.ok.how hb)
  have ju:=fun k=>eD (p:=s.f.po) (b:=b) (h:=3) k h2
  have OH:∀i,(a'.bk i).bY=(s.a.bk i).bY:=fun i=>by
   rw[hbk];split
   ·rename_i e;subst e;exact bD _
   ·rfl
  have mw:=fun i=>gU (f:={s.f with seq:=iP s.f.seq,po:=s.f.po.cd b 3}) hlt he.touG i
  have c2:=ju 2;have c3:=ju 3;have c0:=ju 0;have hone:=h.one;simp only[if_true,show ((2:Nat)=3)=False from by simp,show ((3:Nat)=2)=False from by simp,show ((2:Nat)=0)=False from by simp,show ((3:Nat)=0)=False from by simp,if_false] at c2 c3 c0;refine⟨rfl, ?_,by show (s.f.po.cd b 3).count 2=0;omega,by show (s.f.po.cd b 3).count 3=_;omega⟩
  exact {
   ok:=cj,on:=o1,ee:=o2,aN:=by rw[he.aN];exact h.aN,ep:=h.ep
   ph:=h.ph.prog hb hp hh (by rw[mV];exact hl) he.touG rfl (bD _) (fun hn=>absurd (Rn.NC h.ph hb o3) hn)
   gd:=by rw[hv];exact h.gd
   ct:=fun y=>by rw[hv];exact h.ct y
   seq:=fun i f hf=>by
    rw[hv] at hf;have:=h.seq i f hf;have:iP s.f.seq=s.f.seq+1:=f3;show _≤iP s.f.seq
    omega
   sn:=by show iP s.f.seq≤N;have:iP s.f.seq=s.f.seq+1:=f3;omega
   bd:=fun i hi=>by
    show (s.f.po.cd b 3).how i=some 3↔(a'.bk i).aM=true
    rw[cF,hbk];by_cases bh:i=b
    ·simp [bh]
    ·rw[if_neg bh,if_neg bh];exact h.bd i hi
   hf:=fun i hi e=>by
    show (a'.bk i).bY=false
    rw[OH];have e:(a'.bk i).aM=false:=e;rw[hbk] at e;by_cases bh:i=b
    ·rw[bh];exact hh
    ·rw[if_neg bh] at e;exact h.hf i hi e
   cZ:=fun i hi e ht=>by
    have e:(s.f.po.cd b 3).how i=some 0:=e;rw[cF] at e;by_cases bh:i=b
    ·rw[if_pos bh] at e;cases e
    ·rw[if_neg bh] at e;rw[mw,if_neg bh];exact h.cZ i hi e ht
   gh:=fun i hi e=>by
    have e:(s.f.po.cd b 3).how i=some 1:=e;rw[cF] at e;show vw g a' i=[]∨lA (vw g a') i
    rw[hv];by_cases bh:i=b
    ·rw[if_pos bh] at e;cases e
    ·rw[if_neg bh] at e;exact h.gh i hi e
   j3:=fun i hi e=>by
    have e:(s.f.po.cd b 3).how i=some 2:=e;rw[cF] at e;show vw g a' i=[]∨lA (vw g a') i∨_
    rw[hv];by_cases bh:i=b
    ·rw[if_pos bh] at e;cases e
    ·rw[if_neg bh] at e;rw[mw,if_neg bh];exact h.j3 i hi e
   DN:=fun d v e=>by cases e
   Hg:=fun e=>absurd rfl e
   one:=by show (s.f.po.cd b 3).count 2≤1;omega
   sj:=by
    show ((s.f.po.cd b 3).count 3:Int)≤g.aF→_≤(((s.f.po.cd b 3).count 0:Nat):Int)+((s.f.po.cd b 3).count 3:Nat)
    intro hle;have:=h.sj (by omega)
    omega}
 ·right;right;rw[ho] at cj⊢;have hwo:=yY (k:=aD (s.a.bk b)) h.ph hg hb hl (bu _) o3 he.touG;refine⟨rfl,o2,⟨o1,hwo,fun cut=> ?_⟩⟩;by_cases Jv:96≤cut
  ·right
   exact h.XP hb hh hp hx f1 f2 hl o3 he.touG Jv hgd F4 (fun i f hf=>Nat.le_trans (HK i f hf) hN) (fun i hi hf hs'=>by
    by_cases bh:i=b
    ·rw[bh] at hs';exact absurd hs' (qt YQ)
    ·exact h.Fh hi hf (Bp hn bh hs'))
  ·left;exact h.XQ hb hh hp hx hl o3 he.touG (by omega)
end
section
variable {g:bW} {s:FS} {c:Nat→List UInt8} {ds:List Nat} {N:Nat} {tg:Oq}
theorem XR {v:Nat} (hv:v<64) {u:Fd} {b:Nat} {a:Ar} (hu:u∈vw g a b):yW g {u.s with fr:=v+1}:=by
 obtain⟨_,_,_,_,_,hf,h3,ha⟩:=n9 hu;have h1:=hf.k1;have h2:=hf.k3;exact⟨by show u.s.cK=1∨u.s.cK=2;omega,ha,by show v+1≤64;omega,hf.dl,hf.d0⟩
theorem Rn.copy {d v:Nat} (h:Rn g s c ds N (some (d,v))) (hg:g.In) (hc:g.cap<65000) {xa p:Nat} (zJ:s.f.pm.at xa=some (v,p)) {u:Fd} (hu:u∈vw g s.a v) (F5:wH (vw g s.a) c xa u) (hs:s.f.seq+1<281474976710656) (hN:s.f.seq+1≤N):((bQ s d {u.s with fr:=v+1}).2=0∧Rn g (bQ s d {u.s with fr:=v+1}).1 c ds N (some (d,v))∧(bQ s d {u.s with fr:=v+1}).1.f.pm.dH v+1=s.f.pm.dH v∧(bQ s d {u.s with fr:=v+1}).1.f.po=s.f.po)∨((bQ s d {u.s with fr:=v+1}).2=8∧Rn g (bQ s d {u.s with fr:=v+1}).1 c ds N none∧(bQ s d {u.s with fr:=v+1}).1.f.pm=s.f.pm∧(bQ s d {u.s with fr:=v+1}).1.f.po.how v=some 1∧(bQ s d {u.s with fr:=v+1}).1.f.po.count 3=s.f.po.count 3+1∧(bQ s d {u.s with fr:=v+1}).1.f.po.count 2=s.f.po.count 2)∨((bQ s d {u.s with fr:=v+1}).2=9∧s.a.bI>0∧jP g (bQ s d {u.s with fr:=v+1}).1.a c c ds N):=by
 obtain⟨hb,Vc,Lx,h2,oJ,Lv,hall,hroom⟩:=h.DN d v rfl;have p4:s.f.pm.dH v≠0:=fun e=>pX e xa p zJ
 have hp:(s.next d:Int)<g.ay:=by omega
 have hx:=XR (Nu hg v Vc) hu;have hxd:({u.s with fr:=v+1}:Sh).data=u.s.data:=rfl;have Uy:({u.s with fr:=v+1}:Sh).an=xa:=F5.1;have ZC:({u.s with fr:=v+1}:Sh).fr=v+1:=rfl;have hxk:({u.s with fr:=v+1}:Sh).cK=u.s.cK:=rfl;obtain⟨x,hxx⟩:∃x:Sh,x={u.s with fr:=v+1}:=⟨_,rfl⟩;rw[←hxx] at hx hxd Uy ZC hxk⊢;clear hxx;have cj:=h.ok.bQ hg hb (x:=x) hx.dl;have hlt:=h.ph.lt hb
 have p5:(s.a.bk d).aM=false:=by
  rw[←Bool.not_eq_true];intro e;rw[(h.bd d hb).2 e] at h2;cases h2
 have hh:=h.hf d hb p5;obtain⟨f1,f2,f3⟩:=hx.cN hc h.ep.2 hs;have hl:(dK (qK s x)).length=96:=k6 _ hx.dl;have hxl:=I5 zJ;have hn:=I8 (x:=x) (b:=d) h.seq f3;have OC:(vu s d x).s.an=xa:=Uy;have Gb:u.s.data=(vu s d x).s.data:=hxd.symm;have hgd:Gd (gv (vw g s.a) d (vu s d x)) c:=h.gd.copy hn rfl (fun e=>Lx e.symm) hu (by rw[OC];exact F5) ZC Gb (fun y hy=>(hall y hy).1) Lv;have hmt:mt (gv (vw g s.a) d (vu s d x)) (vu s d x):=PC (fun e=>Lx e.symm) hu ZC hxk.symm (F5.1.trans OC.symm) Gb hn
 have RJ:∀f∈gv (vw g s.a) d (vu s d x) d,f.s.fr=v+1∧mt (gv (vw g s.a) d (vu s d x)) f:=fun f hf=>by
  rcases bE.1 hf with hf|⟨_,rfl⟩
  ·exact⟨(hall f hf).1,(pP hn hf).2 (hall f hf).2⟩
  ·exact⟨ZC,hmt⟩
 have HK:∀i,∀f∈gv (vw g s.a) d (vu s d x) i,f.s.seq≤s.f.seq+1:=fun i f hf=>by
  rcases bE.1 hf with hf|⟨_,rfl⟩
  ·have:=h.seq i f hf;omega
  ·show (qK s x).seq≤_;omega
 have F4:∀i∈g.us,(s.a.bk i).aM=false→lA (gv (vw g s.a) d (vu s d x)) i→s.f.po.how i=some 1∨s.f.po.how i=some 2:=fun i hi hf hs'=>by
  obtain⟨t,ht,hm⟩:=hs';by_cases bh:i=d
  ·subst bh;exact absurd (RJ t ht).2 hm
  ·rcases bE.1 ht with ht|⟨e,_⟩
   ·exact h.iD hi hf ⟨t,ht,fun hh=>hm ((pP hn ht).2 hh)⟩
   ·exact absurd e bh
 obtain⟨a',ho⟩:=Bo h hc hb (by rw[h2];simp) hp hx hs;rcases ho with⟨ho,o1,o2,he⟩|⟨ho,o1,o2,o3,he⟩|⟨ho,o1,o2,o3,he⟩
 ·left;rw[ho] at cj⊢;have hput:x.an=xa:=Uy;rw[hput] at cj⊢;have hcm:=NA (q:=s.next d) zJ Lx;refine⟨rfl, ?_,hcm,rfl⟩;have hv:=yX h.ph hb hh f1 f2 hx.a he.touG rfl (by rw[bD]);have hbk:=fun i=>he.touG.bk hlt i
  have hfl:∀i,(a'.bk i).aM=(s.a.bk i).aM:=iL hlt he.touG (dB _)
  have OH:∀i,(a'.bk i).bY=(s.a.bk i).bY:=fun i=>by
   rw[hbk];split
   ·rename_i e;subst e;exact bD _
   ·rfl
  have mw:=fun i=>gU (f:={s.f with seq:=iP s.f.seq,pm:=s.f.pm.put xa (some (d,s.next d))}) hlt he.touG i
  exact {
   ok:=cj,on:=o1,ee:=o2,aN:=by rw[he.aN];exact h.aN,ep:=h.ep
   ph:=h.ph.prog hb hp hh hl he.touG rfl (bD _) (fun hn=>iq (h.ph.doom d hb hn))
   gd:=by rw[hv];exact hgd
   ct:=fun y=>by
    show ((s.f.pm.put xa (some (d,s.next d))).at y=none∧_)∨∃b' p,(s.f.pm.put xa (some (d,s.next d))).at y=some (b',p)∧_
    rw[hv,Nz hxl];have hdc:(vu s d x).s.data=c (vu s d x).s.an:=by rw[OC, ←Gb];exact F5.2.1
    by_cases hy:y=xa
    ·subst hy;right;refine⟨d,s.next d,if_pos rfl,vu s d x,bE.2 (.inr ⟨rfl,rfl⟩),rfl,OC,by rw[←Gb];exact F5.2.1,fun b' z hz hza hzs=> ?_⟩;rcases bE.1 hz with hz|⟨_,rfl⟩
     ·have:=hn b' z hz;omega
     ·rw[←Gb];exact F5.2.1
    ·rw[if_neg hy];rcases h.ct y with⟨h1,h2⟩|⟨b',p,h1,f,h2,h3,h4⟩
     ·refine .inl ⟨h1,fun i f hf=> ?_⟩;rcases bE.1 hf with hf|⟨_,rfl⟩
      ·exact h2 i f hf
      ·rw[OC];exact fun e=>hy e.symm
     ·exact .inr ⟨b',p,h1,f,bE.2 (.inl h2),h3,h4.copy hdc⟩
   seq:=fun i f hf=>by
    rw[hv] at hf;have:=HK i f hf;have:iP s.f.seq=s.f.seq+1:=f3;show _≤iP s.f.seq
    omega
   sn:=by show iP s.f.seq≤N;have:iP s.f.seq=s.f.seq+1:=f3;omega
   bd:=fun i hi=>by show s.f.po.how i=some 3↔(a'.bk i).aM=true;rw[hfl];exact h.bd i hi
   hf:=fun i hi e=>by show (a'.bk i).bY=false;rw[OH];exact h.hf i hi (by rw[←hfl];exact e)
   cZ:=fun i hi e ht=>by
    rw[mw,if_neg (fun e2=>ht v (by rw[e2]))];exact h.cZ i hi e ht
   gh:=fun i hi e=>by
    have e:s.f.po.how i=some 1:=e;have bh:i≠d:=fun e2=>by rw[e2,h2] at e;cases e
    show vw g a' i=[]∨lA (vw g a') i
    rw[hv];refine(h.gh i hi e).imp (fun e=> ?_) (fun e=>e.add hn);unfold gv;rw[if_neg bh];exact e
   j3:=fun i hi e=>by
    have e:s.f.po.how i=some 2:=e;have bh:i≠d:=fun e2=>by rw[e2,h2] at e;cases e
    show vw g a' i=[]∨lA (vw g a') i∨_
    rw[hv,mw,if_neg bh];refine(h.j3 i hi e).imp (fun e=> ?_) (fun e=>e.imp (fun e=>e.add hn) id);unfold gv;rw[if_neg bh];exact e
   DN:=fun d' v' e=>by
    cases e;refine⟨hb,Vc,Lx,h2,oJ, ?_, ?_, ?_⟩
    ·show lA (vw g a') v;rw[hv];exact Lv.add hn
    ·show∀f∈vw g a' d,_∧mt (vw g a') f;rw[hv];exact RJ
    ·rw[mw,if_pos rfl];show ((((s.a.bk d).pg++[dK (qK s x)]).length:Nat):Int)+((s.f.pm.put xa (some (d,s.next d))).dH v:Nat)<g.ay
     rw[List.length_append];have:=wZ s d;simp only[List.length_singleton];omega
   Hg:=h.Hg
   one:=h.one
   sj:=h.sj}
 ·right;left;rw[ho] at cj⊢;have gi:s.f.po.set d 3=s.f.po.cd d 3:=fG (by rw[h2];simp) (.inl (by omega));rw[gi] at cj⊢;have hv:vw g a'=vw g s.a:=he.touG.wA hlt hb (sf (r8 (s:=qK s x) hx.dl (n:=0) (by omega)) (by show (aD (s.a.bk d)).bY=_;rw[bD]) rfl);have hbk:=fun i=>he.touG.bk hlt i
  have cF:=fun i=>fh (p:=s.f.po) (b:=d) (h:=3) i (h.ok.how hb)
  have ju:=fun k=>eD (p:=s.f.po) (b:=d) (h:=3) k h2
  have OH:∀i,(a'.bk i).bY=(s.a.bk i).bY:=fun i=>by
   rw[hbk];split
   ·rename_i e;subst e;exact bD _
   ·rfl
  have mw:=fun i=>gU (f:={s.f with seq:=iP s.f.seq,po:=s.f.po.cd d 3}) hlt he.touG i
  have c2:=ju 2;have c3:=ju 3;have c0:=ju 0;have hone:=h.one;simp only[if_true,show ((0:Nat)=3)=False from by simp,show ((3:Nat)=2)=False from by simp,show ((0:Nat)=2)=False from by simp,show ((3:Nat)=0)=False from by simp,if_false] at c2 c3 c0;refine⟨rfl, ?_,rfl,by show (s.f.po.cd d 3).how v=some 1;rw[cF,if_neg (fun e=>Lx e.symm)];exact oJ,by show (s.f.po.cd d 3).count 3=_;omega,by show (s.f.po.cd d 3).count 2=_;omega⟩
  exact {
   ok:=cj,on:=o1,ee:=o2,aN:=by rw[he.aN];exact h.aN,ep:=h.ep
   ph:=h.ph.prog hb hp hh (by rw[mV];exact hl) he.touG rfl (bD _) (fun hn=>absurd (Rn.NC h.ph hb o3) hn)
   gd:=by rw[hv];exact h.gd
   ct:=fun y=>by rw[hv];exact h.ct y
   seq:=fun i f hf=>by
    rw[hv] at hf;have:=h.seq i f hf;have:iP s.f.seq=s.f.seq+1:=f3;show _≤iP s.f.seq
    omega
   sn:=by show iP s.f.seq≤N;have:iP s.f.seq=s.f.seq+1:=f3;omega
   bd:=fun i hi=>by
    show (s.f.po.cd d 3).how i=some 3↔(a'.bk i).aM=true
    rw[cF,hbk];by_cases bh:i=d
    ·simp [bh]
    ·rw[if_neg bh,if_neg bh];exact h.bd i hi
   hf:=fun i hi e=>by
    show (a'.bk i).bY=false
    rw[OH];have e:(a'.bk i).aM=false:=e;rw[hbk] at e;by_cases bh:i=d
    ·rw[bh];exact hh
    ·rw[if_neg bh] at e;exact h.hf i hi e
   cZ:=fun i hi e ht=>by
    have e:(s.f.po.cd d 3).how i=some 0:=e;rw[cF] at e;by_cases bh:i=d
    ·rw[if_pos bh] at e;cases e
    ·rw[if_neg bh] at e;rw[mw,if_neg bh];exact h.cZ i hi e (fun v' e2=>bh (by cases e2;rfl))
   gh:=fun i hi e=>by
    have e:(s.f.po.cd d 3).how i=some 1:=e;rw[cF] at e;show vw g a' i=[]∨lA (vw g a') i
    rw[hv];by_cases bh:i=d
    ·rw[if_pos bh] at e;cases e
    ·rw[if_neg bh] at e;exact h.gh i hi e
   j3:=fun i hi e=>by
    have e:(s.f.po.cd d 3).how i=some 2:=e;rw[cF] at e;show vw g a' i=[]∨lA (vw g a') i∨_
    rw[hv];by_cases bh:i=d
    ·rw[if_pos bh] at e;cases e
    ·rw[if_neg bh] at e;rw[mw,if_neg bh];exact h.j3 i hi e
   DN:=fun d v e=>by cases e
   Hg:=fun e=>absurd rfl e
   one:=by show (s.f.po.cd d 3).count 2≤1;omega
   sj:=by
    show ((s.f.po.cd d 3).count 3:Int)≤g.aF→_≤(((s.f.po.cd d 3).count 0:Nat):Int)+((s.f.po.cd d 3).count 3:Nat)
    intro hle;have:=h.sj (by omega)
    omega}
 ·right;right;rw[ho] at cj⊢;have hwo:=yY (k:=aD (s.a.bk d)) h.ph hg hb hl (bu _) o3 he.touG;refine⟨rfl,o2,⟨o1,hwo,fun cut=>.inl ?_⟩⟩;by_cases Jv:96≤cut
  ·exact h.XP hb hh hp hx f1 f2 hl o3 he.touG Jv hgd F4 (fun i f hf=>Nat.le_trans (HK i f hf) hN) (fun i hi hf hs'=>by
    by_cases bh:i=d
    ·exact .inr ⟨v,by rw[bh]⟩
    ·exact h.Fh hi hf (Bp hn bh hs'))
  ·exact h.XQ hb hh hp hx hl o3 he.touG (by omega)
end
section
variable {g:bW} {s:FS} {c:Nat→List UInt8} {ds:List Nat} {N:Nat} {tg:Oq}
theorem Rn.Q4 (h:Rn g s c ds N tg) {b:Nat} (hb:b∈g.us) (hf:(s.a.bk b).aM=false) (hn:vw g s.a b≠[]):s.f.po.how b=some 1∨s.f.po.how b=some 2∨∃v,tg=some (b,v):=by
 rcases h.ok.TD hb with e|e|e|e
 ·by_cases ht:∃v,tg=some (b,v)
  ·exact .inr (.inr ht)
  ·have:=h.cZ b hb e (fun v hv=>ht ⟨v,hv⟩);exact absurd (yV (.inl (List.eq_nil_of_length_eq_zero this))) hn
 ·exact .inl e
 ·exact .inr (.inl e)
 ·rw[(h.bd b hb).1 e] at hf;cases hf
theorem sk {v:Vw} {b w:Nat} (h:lA (ke v w) b):b≠w∧v b≠[]:=by
 obtain⟨f,hf,_⟩:=h;obtain⟨h1,h2⟩:=cE.1 hf;exact⟨h2,fun e=>by rw[e] at h1;cases h1⟩
theorem nj {a':Ar} {v:Nat} {k:Bk} (hv:v<s.a.bs.length) (hu:v∈g.us) (he:uG s.a a' v k) (hk:k.pg=[]∨k.bY=true):vw g a'=ke (vw g s.a) v:=by
 rw[he.vw hv hu];funext i;unfold ke;split
 ·exact Bm hk
 ·rfl
theorem Rn.Df (h:Rn g s c ds N tg) {v:Nat} (hc:s.f.pm.dH v=0):Gd (ke (vw g s.a) v) c:=
 h.gd.DL fun x=>by
   rcases h.ct x with⟨h1,h2⟩|⟨b,p,h1,f,h2,h3,h4⟩
   ·exact .inl h2
   ·exact .inr ⟨b,fun e=>by rw[e] at h1;exact pX hc x p h1,f,h2,h4⟩
theorem Rn.Q5 (h:Rn g s c ds N tg) {v:Nat} (hc:s.f.pm.dH v=0) (x:Nat):(s.f.pm.at x=none∧∀b,∀f∈ke (vw g s.a) v b,f.s.an≠x)∨∃b p,s.f.pm.at x=some (b,p)∧∃f∈ke (vw g s.a) v b,f.p=p∧wH (ke (vw g s.a) v) c x f:=by
 rcases h.ct x with⟨h1,h2⟩|⟨b,p,h1,f,h2,h3,h4⟩
 ·exact .inl ⟨h1,fun b f hf=>h2 b f (cE.1 hf).1⟩
 ·exact .inr ⟨b,p,h1,f,cE.2 ⟨h2,fun e=>by rw[e] at h1;exact pX hc x p h1⟩,h3,h4.DL⟩
theorem Hk {a a':Ar} {b:Nat} {bd:Bool} {k:Bk} (hb:b<a.bs.length) (hw:a'.ee=.er b bd) (he:uG a a' b k) (cut:Int):uG a (cq a' cut) b (if 96≤cut∧bd=false then wC k else if cut>0 then {k with bY:=decide (0<k.pg.length)} else k):=by
 have hk:a'.bs[b]? =some k:=by
  rw[he.bs,List.getElem?_set];simp [hb]
 unfold cq v9;rw[hw];simp only;rw[hk];simp only;by_cases h1:96≤cut∧bd=false
 ·rw[if_pos h1,if_pos h1];refine⟨?_,he.ay⟩;show a'.bs.set b _=_
  rw[he.bs,List.set_set]
 ·rw[if_neg h1,if_neg h1];by_cases hc:cut>0
  ·rw[if_pos hc,if_pos hc];refine⟨?_,he.ay⟩;show a'.bs.set b _=_
   rw[he.bs,List.set_set]
  ·rw[if_neg hc,if_neg hc];exact⟨he.bs,he.ay⟩
theorem uj (h:si g s.a ds) {v:Nat} (hv:v∈g.us) {a':Ar} (he:uG s.a a' v (wC (aD (s.a.bk v)))):si g a' ds:=
 h.UP hv he (by show ((0:Nat):Int)≤_;have:=h.len _ (js (h.lt hv));omega) (fun d hd=>by cases hd) (fun e=>by cases e) (fun hn=>iq (h.doom v hv hn))
theorem Kv (h:si g s.a ds) {v:Nat} (hv:v∈g.us) {a':Ar} (he:uG s.a a' v (aD (s.a.bk v))):si g a' ds:=
 h.UP hv he (by rw[bu];exact h.len _ (js (h.lt hv))) (by rw[bu];exact h.d _ (js (h.lt hv))) (by rw[bD,bu];exact h.bY v hv) (fun hn=>iq (h.doom v hv hn))
theorem ND (h:si g s.a ds) {v:Nat} (hv:v∈g.us) {a':Ar} (he:uG s.a a' v {aD (s.a.bk v) with bY:=decide (0<(aD (s.a.bk v)).pg.length)}):si g a' ds:=
 h.UP hv he (by show (((aD (s.a.bk v)).pg.length:Nat):Int)≤_;rw[bu];exact h.len _ (js (h.lt hv)))
   (by show∀d∈(aD (s.a.bk v)).pg,_;rw[bu];exact h.d _ (js (h.lt hv)))
   (fun e=>by
    have e:decide (0<(aD (s.a.bk v)).pg.length)=true:=e;have e:=of_decide_eq_true e;show (aD (s.a.bk v)).pg≠[]
    intro e2;rw[e2] at e;exact absurd e (Nat.lt_irrefl 0))
   (fun hn=>iq (h.doom v hv hn))
theorem si.Fj (h:si g s.a ds) {v:Nat} (hv:v∈g.us) {a':Ar} {bd:Bool} (hw:a'.ee=.er v bd) (he:uG s.a a' v (aD (s.a.bk v))) (cut:Int):si g (cq a' cut) ds∧(∀i,((cq a' cut).bk i).aM=(s.a.bk i).aM)∧(vw g (cq a' cut)=vw g s.a∨vw g (cq a' cut)=ke (vw g s.a) v):=by
 have hlt:=h.lt hv;have hr:=Hk hlt hw he cut;by_cases h1:96≤cut∧bd=false
 ·rw[if_pos h1] at hr;exact⟨uj h hv hr,iL hlt hr (dB _),.inr (nj hlt hv hr (.inl rfl))⟩
 ·rw[if_neg h1] at hr;by_cases h2:cut>0
  ·rw[if_pos h2] at hr;refine⟨ND h hv hr,iL hlt hr (dB _),.inr (nj hlt hv hr ?_)⟩;by_cases h3:(aD (s.a.bk v)).pg=[]
   ·exact .inl h3
   ·right;show decide _=true
    exact decide_eq_true (List.length_pos_iff.2 h3)
  ·rw[if_neg h2] at hr;exact⟨Kv h hv hr,iL hlt hr (dB _),.inl (hr.wA hlt hv (ue _ _ _))⟩
theorem Rn.Fj (h:Rn g s c ds N tg) {v:Nat} (hv:v∈g.us) {a':Ar} {bd:Bool} (hw:a'.ee=.er v bd) (he:uG s.a a' v (aD (s.a.bk v))) (cut:Int):si g (cq a' cut) ds∧(∀i,((cq a' cut).bk i).aM=(s.a.bk i).aM)∧(vw g (cq a' cut)=vw g s.a∨vw g (cq a' cut)=ke (vw g s.a) v):=h.ph.Fj hv hw he cut
theorem yZ {a':Ar} {v:Nat} {bd:Bool} {k:Bk} (hlt:v<s.a.bs.length) (hw:a'.ee=.er v bd) (he:uG s.a a' v k):AW a':=by
 unfold AW;rw[hw];show v<a'.bs.length
 rw[he.bs,List.length_set];exact hlt
theorem sl {v:Nat} (hlt:v<s.a.bs.length) (on:s.a.off=false) (ee:s.a.ee=.no) (aN:s.a.aN≤s.f.ep):∃a',(bC s v=(FS.bw {s with a:=a'} v 0,0)∧a'.off=false∧a'.ee=.no∧F8 s.a a' v (wC (aD (s.a.bk v))))∨(bC s v=(FS.bw {s with a:=a'} v 3,0)∧a'.off=false∧a'.ee=.no∧(aD (s.a.bk v)).bd=true∧F8 s.a a' v {aD (s.a.bk v) with aM:=true})∨(bC s v=({s with a:=a'},9)∧a'.off=true∧s.a.bI>0∧a'.ee=.er v (aD (s.a.bk v)).bd∧F8 s.a a' v (aD (s.a.bk v))):=by
 obtain⟨a',r,he,ho⟩:=Ks (e:=(s.f.ep:Int)) hlt on aN;refine⟨a', ?_⟩;unfold bC;rw[he];simp only;rcases ho with⟨rfl,h1,h2,h3,h4⟩|⟨rfl,h1,h2,h3,h4⟩|⟨rfl,h1,h2,h3,h4⟩
 ·exact .inl ⟨by simp,h1,h3.trans ee,h4⟩
 ·exact .inr (.inl ⟨by simp,h1,h3.trans ee,h2,h4⟩)
 ·exact .inr (.inr ⟨by simp,h1,h2,h3,h4⟩)
theorem y8 (h:si g s.a ds) {v:Nat} (hv:v∈g.us) (hd:(aD (s.a.bk v)).bd=true) {a':Ar} (he:uG s.a a' v {aD (s.a.bk v) with aM:=true}):si g a' ds:=
 h.UP hv he (by show (((aD (s.a.bk v)).pg.length:Nat):Int)≤_;rw[bu];exact h.len _ (js (h.lt hv)))
   (by show∀d∈(aD (s.a.bk v)).pg,_;rw[bu];exact h.d _ (js (h.lt hv)))
   (by show (aD (s.a.bk v)).bY=true→(aD (s.a.bk v)).pg≠[];rw[bD,bu];exact h.bY v hv)
   (fun hn=>absurd (Rn.NC h hv hd) hn)
theorem Rn.yK (h:Rn g s c ds N none) (hg:g.In) {v:Nat} (hv:v∈g.us) (oJ:s.f.po.how v=some 1) (hc:s.f.pm.dH v=0):((bC s v).2=0∧Rn g (bC s v).1 c ds N none∧(bC s v).1.f.po.count 2=s.f.po.count 2∧s.f.po.count 0+s.f.po.count 3+1=(bC s v).1.f.po.count 0+(bC s v).1.f.po.count 3)∨((bC s v).2=9∧s.a.bI>0∧jP g (bC s v).1.a c c ds N):=by
 have cj:=h.ok.bC hg hv;have hlt:=h.ph.lt hv
 have p5:(s.a.bk v).aM=false:=by
  rw[←Bool.not_eq_true];intro e;rw[(h.bd v hv).2 e] at oJ;cases oJ
 have hgd:=h.Df hc;obtain⟨a',ho⟩:=sl hlt h.on h.ee h.aN;rcases ho with⟨ho,o1,o2,he⟩|⟨ho,o1,o2,o3,he⟩|⟨ho,o1,o2,o3,he⟩
 ·left;rw[ho] at cj⊢;unfold FS.bw at cj⊢;have gi:s.f.po.set v 0=s.f.po.cd v 0:=fG (by rw[oJ];simp) (.inl (by omega));simp only[gi] at cj⊢;have qL:=nj hlt hv he.touG (.inl rfl);have hbk:=fun i=>he.touG.bk hlt i
  have hfl:∀i,(a'.bk i).aM=(s.a.bk i).aM:=iL hlt he.touG (dB _);have cF:=fun i=>fh (p:=s.f.po) (b:=v) (h:=0) i (h.ok.how hv)
  have ju:=fun k=>eD (p:=s.f.po) (b:=v) (h:=0) k oJ
  have mw:=fun i=>gU (f:={s.f with po:=s.f.po.cd v 0}) hlt he.touG i
  have c2:=ju 2;have c3:=ju 3;have c0:=ju 0;have hone:=h.one;simp only[if_true,show ((1:Nat)=3)=False from by simp,show ((0:Nat)=2)=False from by simp,show ((1:Nat)=2)=False from by simp,show ((0:Nat)=3)=False from by simp,show ((1:Nat)=0)=False from by simp,if_false] at c2 c3 c0;refine⟨trivial, ?_,by omega,by omega⟩
  exact {
   ok:=cj,on:=o1,ee:=o2,aN:=by rw[he.aN];exact h.aN,ep:=h.ep
   ph:=uj h.ph hv he.touG
   gd:=by rw[qL];exact hgd
   ct:=fun y=>by rw[qL];exact h.Q5 hc y
   seq:=fun i f hf=>by rw[qL] at hf;exact h.seq i f (cE.1 hf).1
   sn:=h.sn
   bd:=fun i hi=>by
    show (s.f.po.cd v 0).how i=some 3↔(a'.bk i).aM=true
    rw[cF,hfl];by_cases bh:i=v
    ·rw[bh,if_pos rfl,p5];simp
    ·rw[if_neg bh];exact h.bd i hi
   hf:=fun i hi e=>by
    show (a'.bk i).bY=false
    have e:(a'.bk i).aM=false:=e;rw[hfl] at e;rw[hbk];by_cases bh:i=v
    ·rw[if_pos bh];rfl
    ·rw[if_neg bh];exact h.hf i hi e
   cZ:=fun i hi e ht=>by
    have e:(s.f.po.cd v 0).how i=some 0:=e;rw[cF] at e;rw[mw];by_cases bh:i=v
    ·rw[if_pos bh];rfl
    ·rw[if_neg bh] at e⊢;exact h.cZ i hi e ht
   gh:=fun i hi e=>by
    have e:(s.f.po.cd v 0).how i=some 1:=e;rw[cF] at e;show vw g a' i=[]∨lA (vw g a') i
    rw[qL];by_cases bh:i=v
    ·rw[if_pos bh] at e;cases e
    ·rw[if_neg bh] at e;refine(h.gh i hi e).imp (fun e=> ?_) (fun e=>e.DL bh);unfold ke;rw[if_neg bh];exact e
   j3:=fun i hi e=>by
    have e:(s.f.po.cd v 0).how i=some 2:=e;rw[cF] at e;show vw g a' i=[]∨lA (vw g a') i∨_
    rw[qL];by_cases bh:i=v
    ·rw[if_pos bh] at e;cases e
    ·rw[if_neg bh] at e;rw[mw,if_neg bh];refine(h.j3 i hi e).imp (fun e=> ?_) (fun e=>e.imp (fun e=>e.DL bh) id);unfold ke;rw[if_neg bh];exact e
   DN:=fun d v e=>by cases e
   Hg:=fun e=>absurd rfl e
   one:=by show (s.f.po.cd v 0).count 2≤1;omega
   sj:=by
    show ((s.f.po.cd v 0).count 3:Int)≤g.aF→_≤(((s.f.po.cd v 0).count 0:Nat):Int)+((s.f.po.cd v 0).count 3:Nat)
    intro hle;have:=h.sj (by omega)
    omega}
 ·left;rw[ho] at cj⊢;unfold FS.bw at cj⊢;have gi:s.f.po.set v 3=s.f.po.cd v 3:=fG (by rw[oJ];simp) (.inl (by omega));simp only[gi] at cj⊢;have qL:vw g a'=vw g s.a:=he.touG.wA hlt hv (by show Bk.eu _ _ _=_;unfold Bk.eu;simp only[bD,bu]);have hbk:=fun i=>he.touG.bk hlt i
  have cF:=fun i=>fh (p:=s.f.po) (b:=v) (h:=3) i (h.ok.how hv)
  have ju:=fun k=>eD (p:=s.f.po) (b:=v) (h:=3) k oJ
  have OH:∀i,(a'.bk i).bY=(s.a.bk i).bY:=fun i=>by
   rw[hbk];split
   ·rename_i e;subst e;exact bD _
   ·rfl
  have mw:=fun i=>gU (f:={s.f with po:=s.f.po.cd v 3}) hlt he.touG i
  have c2:=ju 2;have c3:=ju 3;have c0:=ju 0;have hone:=h.one;simp only[if_true,show ((1:Nat)=3)=False from by simp,show ((3:Nat)=2)=False from by simp,show ((1:Nat)=2)=False from by simp,show ((3:Nat)=0)=False from by simp,show ((1:Nat)=0)=False from by simp,if_false] at c2 c3 c0;refine⟨trivial, ?_,by omega,by omega⟩
  exact {
   ok:=cj,on:=o1,ee:=o2,aN:=by rw[he.aN];exact h.aN,ep:=h.ep
   ph:=y8 h.ph hv o3 he.touG
   gd:=by rw[qL];exact h.gd
   ct:=fun y=>by rw[qL];exact h.ct y
   seq:=fun i f hf=>by rw[qL] at hf;exact h.seq i f hf
   sn:=h.sn
   bd:=fun i hi=>by
    show (s.f.po.cd v 3).how i=some 3↔(a'.bk i).aM=true
    rw[cF,hbk];by_cases bh:i=v
    ·simp [bh]
    ·rw[if_neg bh,if_neg bh];exact h.bd i hi
   hf:=fun i hi e=>by
    show (a'.bk i).bY=false
    have e:(a'.bk i).aM=false:=e;rw[OH];rw[hbk] at e;by_cases bh:i=v
    ·rw[bh];exact h.hf v hv p5
    ·rw[if_neg bh] at e;exact h.hf i hi e
   cZ:=fun i hi e ht=>by
    have e:(s.f.po.cd v 3).how i=some 0:=e;rw[cF] at e;by_cases bh:i=v
    ·rw[if_pos bh] at e;cases e
    ·rw[if_neg bh] at e;rw[mw,if_neg bh];exact h.cZ i hi e ht
   gh:=fun i hi e=>by
    have e:(s.f.po.cd v 3).how i=some 1:=e;rw[cF] at e;show vw g a' i=[]∨lA (vw g a') i
    rw[qL];by_cases bh:i=v
    ·rw[if_pos bh] at e;cases e
    ·rw[if_neg bh] at e;exact h.gh i hi e
   j3:=fun i hi e=>by
    have e:(s.f.po.cd v 3).how i=some 2:=e;rw[cF] at e;show vw g a' i=[]∨lA (vw g a') i∨_
    rw[qL];by_cases bh:i=v
    ·rw[if_pos bh] at e;cases e
    ·rw[if_neg bh] at e;rw[mw,if_neg bh];exact h.j3 i hi e
   DN:=fun d v e=>by cases e
   Hg:=fun e=>absurd rfl e
   one:=by show (s.f.po.cd v 3).count 2≤1;omega
   sj:=by
    show ((s.f.po.cd v 3).count 3:Int)≤g.aF→_≤(((s.f.po.cd v 3).count 0:Nat):Int)+((s.f.po.cd v 3).count 3:Nat)
    intro hle;have:=h.sj (by omega)
    omega}
 ·right;rw[ho];refine⟨rfl,o2,⟨o1,yZ hlt o3 he.touG,fun cut=>.inl ?_⟩⟩;obtain⟨p1,p2,p3⟩:=h.Fj hv o3 he.touG cut;rcases p3 with p3|p3
  ·refine⟨p1,by rw[p3];exact h.gd,h.UQ (fun i _=>p2 i) (fun i hi hf hs=> ?_),by rw[p3];exact fun i f hf=>Nat.le_trans (h.seq i f hf) h.sn,h.Hi (fun i _=>p2 i) (fun i hi hf hs=>by rw[p3] at hs;exact h.Fh hi hf hs)⟩;rw[p3] at hs;rw[p2 i] at hf;exact h.iD hi hf hs
  ·refine⟨p1,by rw[p3];exact hgd,h.UQ (fun i _=>p2 i) (fun i hi hf hs=> ?_),by rw[p3];exact fun i f hf=>Nat.le_trans (h.seq i f (cE.1 hf).1) h.sn,h.Hi (fun i _=>p2 i) (fun i hi hf hs=>by rw[p3] at hs;exact h.Fh hi hf (qy hs).2)⟩;rw[p3] at hs;rw[p2 i] at hf;rcases h.Q4 hi hf (sk hs).2 with e|e|⟨v,e⟩
   ·exact .inl e
   ·exact .inr e
   ·cases e
end
section
variable {g:bW} {s:FS} {c:Nat→List UInt8} {ds:List Nat} {N:Nat} {tg:Oq}
theorem Rn.swap {d v:Nat} (h:Rn g s c ds N (some (d,v))) (hg:g.In) (hc:s.f.pm.dH v=0) (h20:s.f.po.count 2=0):((bC s v).2=0∧Rn g ((bC s v).1.bw d 2) c ds N none∧((bC s v).1.bw d 2).f.po.j3=some d∧(((bC s v).1.bw d 2).next d:Int)<g.ay)∨((bC s v).2=9∧s.a.bI>0∧jP g (bC s v).1.a c c ds N):=by
 obtain⟨hd,hv,Lx,Lm,oJ,Lv,hall,hroom⟩:=h.DN d v rfl;have cj:=h.ok.bC hg hv;have hlt:=h.ph.lt hv
 have p5:(s.a.bk v).aM=false:=by
  rw[←Bool.not_eq_true];intro e;rw[(h.bd v hv).2 e] at oJ;cases oJ
 have hgd:=h.Df hc;obtain⟨a',ho⟩:=sl hlt h.on h.ee h.aN;have hvd:¬v=d:=fun e=>Lx e.symm
 rcases ho with⟨ho,o1,o2,he⟩|⟨ho,o1,o2,o3,he⟩|⟨ho,o1,o2,o3,he⟩
 ·left;rw[ho] at cj⊢;have cj:=cj.bw hg hd (h:=2) (by omega);unfold FS.bw at cj⊢;have gi:s.f.po.set v 0=s.f.po.cd v 0:=fG (by rw[oJ];simp) (.inl (by omega));simp only[gi] at cj⊢;have uD:=fun i=>fh (p:=s.f.po) (b:=v) (h:=0) i (h.ok.how hv)
  have Lh:(s.f.po.cd v 0).how d=some 0:=by rw[uD,if_neg Lx];exact Lm
  have zC:=fun k=>eD (p:=s.f.po) (b:=v) (h:=0) k oJ
  have d2:=zC 2;simp only[show ((0:Nat)=2)=False from by simp,show ((1:Nat)=2)=False from by simp,if_false] at d2;have zD:(s.f.po.cd v 0).set d 2=(s.f.po.cd v 0).cd d 2:=fG (by rw[Lh];simp) (.inr (by omega));simp only[zD] at cj⊢;obtain⟨po,sF⟩:∃po,po=(s.f.po.cd v 0).cd d 2:=⟨_,rfl⟩
  have cF:∀i,po.how i=if i=d then some 2 else if i=v then some 0 else s.f.po.how i:=fun i=>by
   rw[sF,fh i (by rw[Lh];rfl),uD]
  have zE:=fun k=>eD (p:=s.f.po.cd v 0) (b:=d) (h:=2) k Lh
  have c2:po.count 2=1:=by
   have:=zE 2;simp only[if_true,show ((0:Nat)=2)=False from by simp,if_false] at this;rw[sF];omega
  have c3:po.count 3=s.f.po.count 3:=by
   have:=zE 3;have:=zC 3;simp only[show ((0:Nat)=3)=False from by simp,show ((2:Nat)=3)=False from by simp,show ((1:Nat)=3)=False from by simp,if_false] at*;rw[sF];omega
  have c0:po.count 0=s.f.po.count 0:=by
   have:=zE 0;have:=zC 0;simp only[if_true,show ((2:Nat)=0)=False from by simp,show ((1:Nat)=0)=False from by simp,if_false] at*;rw[sF];omega
  rw[←sF] at cj⊢;have qL:=nj hlt hv he.touG (.inl rfl);have hbk:=fun i=>he.touG.bk hlt i
  have hfl:∀i,(a'.bk i).aM=(s.a.bk i).aM:=iL hlt he.touG (dB _);have mw:=fun i=>gU (f:={s.f with po:=po}) hlt he.touG i
  have uC:((FS.next ⟨a',{s.f with po:=po}⟩ d:Nat):Int)<g.ay:=by rw[mw,if_neg Lx];omega
  have hpd:po.how d=some 2:=by rw[cF,if_pos rfl]
  have UA:po.j3=some d:=vt cj.po cj.us hpd (by show po.count 2≤1;omega);refine⟨trivial, ?_,UA,uC⟩
  exact {
   ok:=cj,on:=o1,ee:=o2,aN:=by rw[he.aN];exact h.aN,ep:=h.ep
   ph:=uj h.ph hv he.touG
   gd:=by rw[qL];exact hgd
   ct:=fun y=>by rw[qL];exact h.Q5 hc y
   seq:=fun i f hf=>by rw[qL] at hf;exact h.seq i f (cE.1 hf).1
   sn:=h.sn
   bd:=fun i hi=>by
    show po.how i=some 3↔(a'.bk i).aM=true
    rw[cF,hfl];by_cases hid:i=d
    ·rw[hid,if_pos rfl];have:=h.bd d hd;rw[Lm] at this;simpa using this
    rw[if_neg hid];by_cases bh:i=v
    ·rw[bh,if_pos rfl,p5];simp
    ·rw[if_neg bh];exact h.bd i hi
   hf:=fun i hi e=>by
    show (a'.bk i).bY=false
    have e:(a'.bk i).aM=false:=e;rw[hfl] at e;rw[hbk];by_cases bh:i=v
    ·rw[if_pos bh];rfl
    ·rw[if_neg bh];exact h.hf i hi e
   cZ:=fun i hi e ht=>by
    have e:po.how i=some 0:=e;rw[cF] at e;rw[mw];by_cases hid:i=d
    ·rw[if_pos hid] at e;cases e
    rw[if_neg hid] at e;by_cases bh:i=v
    ·rw[if_pos bh];rfl
    ·rw[if_neg bh] at e⊢;exact h.cZ i hi e (fun v' e2=>hid (by cases e2;rfl))
   gh:=fun i hi e=>by
    have e:po.how i=some 1:=e;rw[cF] at e;show vw g a' i=[]∨lA (vw g a') i
    rw[qL];by_cases hid:i=d
    ·rw[if_pos hid] at e;cases e
    rw[if_neg hid] at e;by_cases bh:i=v
    ·rw[if_pos bh] at e;cases e
    ·rw[if_neg bh] at e;refine(h.gh i hi e).imp (fun e=> ?_) (fun e=>e.DL bh);unfold ke;rw[if_neg bh];exact e
   j3:=fun i hi e=>by
    have e:po.how i=some 2:=e;rw[cF] at e;by_cases hid:i=d
    ·rw[hid];exact .inr (.inr uC)
    show vw g a' i=[]∨lA (vw g a') i∨_
    rw[qL];rw[if_neg hid] at e;by_cases bh:i=v
    ·rw[if_pos bh] at e;cases e
    ·rw[if_neg bh] at e;rw[mw,if_neg bh];refine(h.j3 i hi e).imp (fun e=> ?_) (fun e=>e.imp (fun e=>e.DL bh) id);unfold ke;rw[if_neg bh];exact e
   DN:=fun d v e=>by cases e
   Hg:=fun e=>absurd rfl e
   one:=by show po.count 2≤1;omega
   sj:=by
    show (po.count 3:Int)≤g.aF→_≤((po.count 0:Nat):Int)+(po.count 3:Nat)
    rw[c3,c0]
    exact h.sj}
 ·left;rw[ho] at cj⊢;have cj:=cj.bw hg hd (h:=2) (by omega);unfold FS.bw at cj⊢;have gi:s.f.po.set v 3=s.f.po.cd v 3:=fG (by rw[oJ];simp) (.inl (by omega));simp only[gi] at cj⊢;have uD:=fun i=>fh (p:=s.f.po) (b:=v) (h:=3) i (h.ok.how hv)
  have Lh:(s.f.po.cd v 3).how d=some 0:=by rw[uD,if_neg Lx];exact Lm
  have zC:=fun k=>eD (p:=s.f.po) (b:=v) (h:=3) k oJ
  have d2:=zC 2;simp only[show ((3:Nat)=2)=False from by simp,show ((1:Nat)=2)=False from by simp,if_false] at d2;have zD:(s.f.po.cd v 3).set d 2=(s.f.po.cd v 3).cd d 2:=fG (by rw[Lh];simp) (.inr (by omega));simp only[zD] at cj⊢;obtain⟨po,sF⟩:∃po,po=(s.f.po.cd v 3).cd d 2:=⟨_,rfl⟩
  have cF:∀i,po.how i=if i=d then some 2 else if i=v then some 3 else s.f.po.how i:=fun i=>by
   rw[sF,fh i (by rw[Lh];rfl),uD]
  have zE:=fun k=>eD (p:=s.f.po.cd v 3) (b:=d) (h:=2) k Lh
  have c2:po.count 2=1:=by
   have:=zE 2;simp only[if_true,show ((0:Nat)=2)=False from by simp,if_false] at this;rw[sF];omega
  have c3:po.count 3=s.f.po.count 3+1:=by
   have:=zE 3;have:=zC 3;simp only[if_true,show ((0:Nat)=3)=False from by simp,show ((2:Nat)=3)=False from by simp,show ((1:Nat)=3)=False from by simp,if_false] at*;rw[sF];omega
  have c0:po.count 0+1=s.f.po.count 0:=by
   have:=zE 0;have:=zC 0;simp only[if_true,show ((2:Nat)=0)=False from by simp,show ((1:Nat)=0)=False from by simp,show ((3:Nat)=0)=False from by simp,if_false] at*;rw[sF];omega
  rw[←sF] at cj⊢;have qL:vw g a'=vw g s.a:=he.touG.wA hlt hv (by show Bk.eu _ _ _=_;unfold Bk.eu;simp only[bD,bu]);have hbk:=fun i=>he.touG.bk hlt i
  have mw:=fun i=>gU (f:={s.f with po:=po}) hlt he.touG i
  have OH:∀i,(a'.bk i).bY=(s.a.bk i).bY:=fun i=>by
   rw[hbk];split
   ·rename_i e;subst e;exact bD _
   ·rfl
  have uC:((FS.next ⟨a',{s.f with po:=po}⟩ d:Nat):Int)<g.ay:=by rw[mw,if_neg Lx];omega
  have hpd:po.how d=some 2:=by rw[cF,if_pos rfl]
  have UA:po.j3=some d:=vt cj.po cj.us hpd (by show po.count 2≤1;omega);refine⟨trivial, ?_,UA,uC⟩
  exact {
   ok:=cj,on:=o1,ee:=o2,aN:=by rw[he.aN];exact h.aN,ep:=h.ep
   ph:=y8 h.ph hv o3 he.touG
   gd:=by rw[qL];exact h.gd
   ct:=fun y=>by rw[qL];exact h.ct y
   seq:=fun i f hf=>by rw[qL] at hf;exact h.seq i f hf
   sn:=h.sn
   bd:=fun i hi=>by
    show po.how i=some 3↔(a'.bk i).aM=true
    rw[cF,hbk];by_cases hid:i=d
    ·rw[hid,if_pos rfl,if_neg Lx];have:=h.bd d hd;rw[Lm] at this;simpa using this
    rw[if_neg hid];by_cases bh:i=v
    ·simp [bh]
    ·rw[if_neg bh,if_neg bh];exact h.bd i hi
   hf:=fun i hi e=>by
    show (a'.bk i).bY=false
    have e:(a'.bk i).aM=false:=e;rw[OH];rw[hbk] at e;by_cases bh:i=v
    ·rw[bh];exact h.hf v hv p5
    ·rw[if_neg bh] at e;exact h.hf i hi e
   cZ:=fun i hi e ht=>by
    have e:po.how i=some 0:=e;rw[cF] at e;rw[mw];by_cases hid:i=d
    ·rw[if_pos hid] at e;cases e
    rw[if_neg hid] at e;by_cases bh:i=v
    ·rw[if_pos bh] at e;cases e
    ·rw[if_neg bh] at e⊢;exact h.cZ i hi e (fun v' e2=>hid (by cases e2;rfl))
   gh:=fun i hi e=>by
    have e:po.how i=some 1:=e;rw[cF] at e;show vw g a' i=[]∨lA (vw g a') i
    rw[qL];by_cases hid:i=d
    ·rw[if_pos hid] at e;cases e
    rw[if_neg hid] at e;by_cases bh:i=v
    ·rw[if_pos bh] at e;cases e
    ·rw[if_neg bh] at e;exact h.gh i hi e
   j3:=fun i hi e=>by
    have e:po.how i=some 2:=e;rw[cF] at e;by_cases hid:i=d
    ·rw[hid];exact .inr (.inr uC)
    show vw g a' i=[]∨lA (vw g a') i∨_
    rw[qL];rw[if_neg hid] at e;by_cases bh:i=v
    ·rw[if_pos bh] at e;cases e
    ·rw[if_neg bh] at e;rw[mw,if_neg bh];exact h.j3 i hi e
   DN:=fun d v e=>by cases e
   Hg:=fun e=>absurd rfl e
   one:=by show po.count 2≤1;omega
   sj:=by
    show (po.count 3:Int)≤g.aF→_≤((po.count 0:Nat):Int)+(po.count 3:Nat)
    intro hle;have:=h.sj (by omega)
    omega}
 ·right;rw[ho];refine⟨rfl,o2,⟨o1,yZ hlt o3 he.touG,fun cut=>.inl ?_⟩⟩;obtain⟨p1,p2,p3⟩:=h.Fj hv o3 he.touG cut;rcases p3 with p3|p3
  ·refine⟨p1,by rw[p3];exact h.gd,h.UQ (fun i _=>p2 i) (fun i hi hf hs=> ?_),by rw[p3];exact fun i f hf=>Nat.le_trans (h.seq i f hf) h.sn,h.Hi (fun i _=>p2 i) (fun i hi hf hs=>by rw[p3] at hs;exact h.Fh hi hf hs)⟩;rw[p3] at hs;rw[p2 i] at hf;exact h.iD hi hf hs
  ·refine⟨p1,by rw[p3];exact hgd,h.aa7 (d:=d) hv oJ (fun i _=>p2 i) (fun i hi hf hs=> ?_),by rw[p3];exact fun i f hf=>Nat.le_trans (h.seq i f (cE.1 hf).1) h.sn,h.Hi (fun i _=>p2 i) (fun i hi hf hs=>by rw[p3] at hs;exact h.Fh hi hf (qy hs).2)⟩;rw[p3] at hs;rw[p2 i] at hf;have hne:=sk hs;refine⟨hne.1, ?_⟩;rcases h.Q4 hi hf hne.2 with e|e|⟨v',e⟩
   ·exact .inl e
   ·exact .inr (.inl e)
   ·cases e;exact .inr (.inr rfl)
end
structure Kp (s s':FS) (m:Nat):Prop where
 boots:s'.a.boots=s.a.boots
 aN:s'.a.aN=s.a.aN
 ep:s'.f.ep=s.f.ep
 zI:s.a.bI≤0→s'.a.bI≤0∧s'.a.off=s.a.off
 c3:s.f.po.count 3≤s'.f.po.count 3
 seq:s'.f.seq≤s.f.seq+m
theorem Kp.rfl (s:FS) (m:Nat):Kp s s m:=⟨Eq.refl _,Eq.refl _,Eq.refl _,fun h=>⟨h,Eq.refl _⟩,Nat.le_refl _,Nat.le_add_right _ _⟩
theorem Kp.trans {s s' s'':FS} {m m':Nat} (h:Kp s s' m) (h':Kp s' s'' m'):Kp s s'' (m+m') where
 boots:=h'.boots.trans h.boots
 aN:=h'.aN.trans h.aN
 ep:=h'.ep.trans h.ep
 zI:=fun e=>⟨(h'.zI (h.zI e).1).1,(h'.zI (h.zI e).1).2.trans (h.zI e).2⟩
 c3:=Nat.le_trans h.c3 h'.c3
 seq:=by have:=h.seq;have:=h'.seq;omega
theorem Kp.mono {s s':FS} {m m':Nat} (h:Kp s s' m) (hm:m≤m'):Kp s s' m':={h with seq:=by have:=h.seq;omega}
structure Ka (a a':Ar):Prop where
 boots:a'.boots=a.boots
 aN:a'.aN=a.aN
 zI:a.bI≤0→a'.bI≤0∧a'.off=a.off
theorem Ka.rfl (a:Ar):Ka a a:=⟨Eq.refl _,Eq.refl _,fun h=>⟨h,Eq.refl _⟩⟩
theorem nk {a a':Ar} (h1:a'.boots=a.boots) (h2:a'.aN=a.aN) (h3:a'.bI=if a.bI>0 then qZ (a.bI-1) else a.bI) (h4:a'.off=if a.bI>0 then decide (qZ (a.bI-1)=0) else a.off):Ka a a':=
 ⟨h1,h2,fun h=>by
  rw[h3,h4];have:¬a.bI>0:=by omega
  exact⟨by rw[if_neg this];exact h,by rw[if_neg this]⟩⟩
theorem PN (a:Ar) (i p:Nat) (d:List UInt8) (e:Int):Ka a (fq a i p d e).1:=by
 unfold fq;split
 ·exact Ka.rfl a
 split
 ·exact Ka.rfl a
 split
 ·exact Ka.rfl a
 split
 ·exact Ka.rfl a
 split
 ·exact Ka.rfl a
 split
 ·exact Ka.rfl a
 split
 ·exact nk rfl rfl rfl rfl
 split
 ·exact nk rfl rfl rfl rfl
 ·exact nk rfl rfl rfl rfl
theorem NF (a:Ar) (i:Nat) (e:Int):Ka a (dF a i e).1:=by
 unfold dF;split
 ·exact Ka.rfl a
 split
 ·exact Ka.rfl a
 split
 ·exact Ka.rfl a
 split
 ·exact nk rfl rfl rfl rfl
 split
 ·exact nk rfl rfl rfl rfl
 ·exact nk rfl rfl rfl rfl
theorem I9 {b h:Nat} {l:List (Nat×Nat)} (hh:h=3∨fk b l≠some 3):∀{l':List (Nat×Nat)},l'=l→l'.countP (fun x=>decide (x.2=3))≤(pR b h l').countP (fun x=>decide (x.2=3)):=by
 intro l' e;subst e
 cases ho:fk b l' with
 |none=>
  have:∀l:List (Nat×Nat),fk b l=none→pR b h l=l:=by
   intro l
   induction l with
   |nil=>intro _;rfl
   |cons x l ih=>
    intro h;rw[fk] at h;rw[pR];split at h
    ·cases h
    ·rename_i hx;rw[if_neg hx,ih h]
  rw[this _ ho];exact Nat.le_refl _
 |some w=>
  have:=sg (h:=h) (k:=3) ho;rcases hh with rfl|hh
  ·simp only[if_true] at this;split at this<;>omega
  ·have hw:¬w=3:=fun e=>hh (by rw[ho,e])
   rw[if_neg hw] at this;omega
theorem Hl {p:Po} (hp:p.ok) (b h:Nat):p.count 3≤(p.set b h).count 3:=by
 unfold Po.set;split
 ·exact Nat.le_refl _
 ·rename_i hn
  have h1:h=3∨p.how b≠some 3:=by
   by_cases e:h=3
   ·exact .inl e
   ·exact .inr (fun h2=>hn ⟨h2,e⟩)
  split
  ·rename_i h2
   have hu:p.count 3≤p.jr.count 3∧(p.how b≠some 3→p.jr.how b≠some 3):=by
    unfold Po.jr
    cases ho:p.j3 with
    |none=>exact⟨Nat.le_refl _,id⟩
    |some o=>
     have YP:=wX hp ho;refine⟨?_,fun h3=> ?_⟩
     ·have:=eD (h:=1) 3 YP;simp at this;exact Nat.le_of_eq this.symm
     ·show (p.cd o 1).how b≠some 3
      rw[fh b (by rw[YP];rfl)];split
      ·simp
      ·exact h3
   exact Nat.le_trans hu.1 (I9 (l:=p.jr.bl) (h1.imp id hu.2) rfl)
  ·exact I9 (l:=p.bl) h1 rfl
theorem Hm (n:Nat):iP n≤n+1:=Nat.mod_le _ _
section
variable {g:bW} {s:FS}
theorem aW.Kw (h:aW g s) (b w:Nat):Kp s (s.bw b w) 0:=
 ⟨rfl,rfl,rfl,fun e=>⟨e,rfl⟩,Hl h.po b w,Nat.le_refl _⟩
theorem aW.Hn (h:aW g s) (b:Nat):Kp s (Go.Proofs.YtlgdkndamddpkaaGreat.bC s b).1 0:=by
 have ka:=NF s.a b s.f.ep;have key:∀w,Kp s (FS.bw {s with a:=(dF s.a b s.f.ep).1} b w) 0:=fun w=>⟨ka.boots,ka.aN,rfl,ka.zI,Hl h.po b w,Nat.le_refl _⟩
 unfold Go.Proofs.YtlgdkndamddpkaaGreat.bC;split
 ·exact key 0
 split
 ·exact key 3
 ·exact⟨ka.boots,ka.aN,rfl,ka.zI,Nat.le_refl _,Nat.le_refl _⟩
theorem aW.Ja (h:aW g s) (b:Nat) (x:Sh):Kp s (Go.Proofs.YtlgdkndamddpkaaGreat.bQ s b x).1 1:=by
 have ka:=PN s.a b (s.next b) (dK {x with ep:=s.f.ep,seq:=iP s.f.seq}) s.f.ep;unfold Go.Proofs.YtlgdkndamddpkaaGreat.bQ;simp only;split
 ·exact⟨ka.boots,ka.aN,rfl,ka.zI,Hl h.po b 3,Hm _⟩
 split
 ·exact⟨ka.boots,ka.aN,rfl,ka.zI,Nat.le_refl _,Hm _⟩
 ·exact⟨ka.boots,ka.aN,rfl,ka.zI,Nat.le_refl _,Hm _⟩
theorem aW.NG (hg:g.In) (hcap:g.cap<65000) {v:Nat} (hv:v∈g.us):∀(n:Nat) (s:FS) (d:Nat) {r:FS×Int×Nat},ov g n s v d=some r→aW g s→d∈g.us→Kp s r.1 n
 |0,s,d,r,hf,hok,hd=>by cases hf
 |n+1,s,d,r,hf,hok,hd=>by
  rw[ov] at hf;split at hf
  ·cases hf;exact Kp.rfl _ _
  split at hf
  ·cases hf
  rename_i a l Lu;have har:=ub hok.pm (by rw[Lu];exact List.mem_cons_self:a∈s.f.pm.on v);have hna:=hok.na;split at hf
  ·cases hf
  rename_i x sC;obtain⟨hx1,uH⟩:=vq (by omega) sC;have fg:=hok.bQ hg hd (x:={x with fr:=v+1}) uH;have k1:=hok.Ja d {x with fr:=v+1};split at hf
  case isFalse=>cases hf
  split at hf
  ·split at hf
   ·cases hf;exact k1.mono (by omega)
   ·rename_i d' hfr;exact(k1.trans (aW.NG hg hcap hv n _ d' hf fg (fg.pT hfr))).mono (by omega)
  split at hf
  ·exact(k1.trans (aW.NG hg hcap hv n _ d hf fg hd)).mono (by omega)
  ·cases hf;exact k1.mono (by omega)
theorem aW.NH (hg:g.In) (hcap:g.cap<65000) {n:Nat} (hok:aW g s) {r:FS×Int} (hf:gT g n s=some r):Kp s r.1 n:=by
 unfold gT at hf;split at hf
 ·cases hf;exact Kp.rfl _ _
 rename_i v hl;have hv:=hok.yL hl;split at hf
 ·cases hf;exact(hok.Hn v).mono (by omega)
 split at hf
 ·cases hf;exact Kp.rfl _ _
 rename_i d hfr;split at hf
 ·cases hf;exact Kp.rfl _ _
 split at hf
 ·cases hf
 rename_i s1 e d1 p4;have h1:=pU hg hcap hv n s d p4 hok (hok.pT hfr);have k1:=aW.NG hg hcap hv n s d p4 hok (hok.pT hfr);split at hf
 ·rename_i h0;have k2:=h1.1.Hn v;split at hf
  ·cases hf;exact((k1.trans k2).trans ((h1.1.bC hg hv).Kw d1 2)).mono (by omega)
  ·cases hf;exact(k1.trans k2).mono (by omega)
 ·cases hf;exact k1
theorem aW.Q6 (hg:g.In) (hcap:g.cap<65000) {k:Nat}:∀(n:Nat) (s:FS) {r:FS×Int×Nat},aW g s→(iZ g k n s=some r→aW g r.1∧(r.2.1=0→r.2.2∈g.us)∧Kp s r.1 (n*k))∧(lf g k n s=some r→aW g r.1∧(r.2.1=0→r.2.2∈g.us)∧Kp s r.1 ((n+1)*k))
 |n,s,r,hok=>by
  have Bq:∀(n:Nat),(∀(s:FS) {r:FS×Int×Nat},aW g s→iZ g k n s=some r→aW g r.1∧(r.2.1=0→r.2.2∈g.us)∧Kp s r.1 (n*k))→∀(s:FS) {r:FS×Int×Nat},aW g s→lf g k n s=some r→aW g r.1∧(r.2.1=0→r.2.2∈g.us)∧Kp s r.1 ((n+1)*k):=by
   intro n ih s r hok hf;unfold lf at hf;split at hf
   ·cases hf;exact⟨hok,fun h=>(by cases h),Kp.rfl _ _⟩
   split at hf
   ·split at hf
    ·cases hf
    ·rename_i b hfr;have hb:=hok.pT hfr;obtain⟨h1,h2,h3⟩:=ih _ (hok.bw hg hb (by omega)) hf;exact⟨h1,h2,((hok.Kw b 2).trans h3).mono (by rw[Nat.succ_mul];omega)⟩
   split at hf
   ·cases hf
   rename_i s1 e hc;have fQ:=Ff hg hcap hok hc;have k1:=hok.NH hg hcap hc;split at hf
   ·obtain⟨h1,h2,h3⟩:=ih _ fQ hf;exact⟨h1,h2,(k1.trans h3).mono (by rw[Nat.succ_mul];omega)⟩
   ·rename_i he;cases hf;exact⟨fQ,fun h=>absurd h he,k1.mono (by rw[Nat.succ_mul];omega)⟩
  have PT:∀(n:Nat) (s:FS) {r:FS×Int×Nat},aW g s→iZ g k n s=some r→aW g r.1∧(r.2.1=0→r.2.2∈g.us)∧Kp s r.1 (n*k):=by
   intro n
   induction n with
   |zero=>intro s r hok hf;rw[iZ] at hf;cases hf
   |succ n ih=>
    intro s r hok hf;rw[iZ] at hf;split at hf
    ·rename_i b ho;have hb:=hok.PL ho;split at hf
     ·cases hf;exact⟨hok,fun _=>hb,Kp.rfl _ _⟩
     ·obtain⟨h1,h2,h3⟩:=Bq n (fun s=>ih s) _ (hok.bw hg hb (by omega)) hf;exact⟨h1,h2,((hok.Kw b 1).trans h3).mono (by omega)⟩
    ·exact Bq n (fun s=>ih s) _ hok hf
  exact⟨PT n s hok,Bq n (PT n) s hok⟩
theorem aW.XS (hg:g.In) (hcap:g.cap<65000) {k:Nat} {x:Sh} (hx:x.data.length≤64):∀(n:Nat) (s:FS) {r:FS×Int},aW g s→ua g k n s x=some r→aW g r.1∧Kp s r.1 (n*(k*k+1))
 |0,s,r,hok,hf=>by cases hf
 |n+1,s,r,hok,hf=>by
  rw[ua] at hf;split at hf
  ·cases hf
  rename_i s1 e b hro;obtain⟨h1,h2,h3⟩:=(aW.Q6 hg hcap k s hok).1 hro;split at hf
  ·rename_i he;have hb:=h2 he;have fg:=h1.bQ hg hb hx;have k2:=h1.Ja b x;split at hf
   ·obtain⟨h4,h5⟩:=aW.XS hg hcap hx n _ fg hf;exact⟨h4,((h3.trans k2).trans h5).mono (by rw[Nat.succ_mul];omega)⟩
   ·cases hf;exact⟨fg,(h3.trans k2).mono (by rw[Nat.succ_mul];omega)⟩
  ·cases hf;exact⟨h1,h3.mono (by rw[Nat.succ_mul];omega)⟩
end
section
variable {g:bW} {s:FS} {c:Nat→List UInt8} {ds:List Nat} {N:Nat} {tg:Oq}
theorem Rn.TE (h:Rn g s c ds N tg) {x b p:Nat} (zJ:s.f.pm.at x=some (b,p)):∃f∈vw g s.a b,f.p=p∧wH (vw g s.a) c x f:=by
 rcases h.ct x with⟨h1,_⟩|⟨b',p',h1,h2⟩
 ·rw[h1] at zJ;cases zJ
 ·rw[h1] at zJ;cases zJ;exact h2
theorem Rn.aa8 (h:Rn g s c ds N tg) {b:Nat} {f:Fd} (hf:f∈vw g s.a b):(fp s.a b f.p).1=0∧eU (fp s.a b f.p).2=some f.s:=by
 obtain⟨hb,_,hh,hp,hr,_,_,_⟩:=n9 hf;have hlt:=h.ph.lt hb;have hlen:=h.ph.len _ (js hlt);have hnp:¬s.a.ay≤(f.p:Int):=by rw[h.ph.p];omega
 rw[List.getElem?_eq_getElem hp] at hr;unfold fp;rw[if_neg (by simp [h.on]),if_neg hnp,yP hlt];simp only;rw[List.getElem?_eq_getElem hp];simp only;rw[if_neg (by simp [hh])];exact⟨rfl,by simpa using hr⟩
theorem Rn.nf (h:Rn g s c ds N tg) (x:Nat):∃t:Sh,s.nf x=some t∧t.data=c x∧∀b p,s.f.pm.at x=some (b,p)→∃f∈vw g s.a b,f.p=p∧f.s=t∧wH (vw g s.a) c x f:=by
 unfold FS.nf;rw[show s.f.pm.ct.getD x none=s.f.pm.at x from rfl];rcases h.ct x with⟨h1,h2⟩|⟨b,p,h1,f,h2,h3,h4⟩
 ·rw[h1];refine⟨_,rfl, ?_,fun b p e=>by cases e⟩;rcases h.gd.a2 x with⟨h3,_⟩|⟨b,f,hf,hc⟩
  ·exact h3.symm
  ·exact absurd hc.1 (h2 b f hf)
 ·rw[h1];obtain⟨r1,r2⟩:=h.aa8 h2;rw[h3] at r1 r2;refine⟨f.s, ?_,h4.2.1,fun b' p' e=>by cases e;exact⟨f,h2,h3,rfl,h4⟩⟩;simp only;rw[if_pos r1];exact r2
theorem Rn.PO (h:Rn g s c ds N tg) {v:Nat} (hc:s.f.pm.dH v≠0):vw g s.a v≠[]:=by
 obtain⟨x,p,hx⟩:=wY hc;obtain⟨f,hf,_⟩:=h.TE hx;intro e;rw[e] at hf;cases hf
theorem aW.Jb (h:aW g s) {d:Nat} (hf:s.cZ=some d):s.f.po.how d=some 0:=ug h.po.E9 (qu hf)
theorem aW.za (h:aW g s) (hc:0<s.f.po.count 0):∃d,s.cZ=some d:=by
 rw[h.dH 0] at hc;obtain⟨b,hb,e⟩:=List.countP_pos_iff.1 hc;refine yR (of_decide_eq_true e) ?_;have:=h.lt hb;simpa [FS.PK] using this
theorem Rn.begin (h:Rn g s c ds N none) {d v:Nat} (hf:s.cZ=some d) (hv:v∈g.us) (oJ:s.f.po.how v=some 1) (hc:s.f.pm.dH v≠0) (hp:(s.f.pm.dH v:Int)<g.ay) (h2:s.f.po.count 2=0):Rn g s c ds N (some (d,v)):=by
 have hd:=h.ok.pT hf;have Lm:=h.ok.Jb hf;have mw:=h.cZ d hd Lm (fun v e=>by cases e)
 exact {h with
  Hg:=fun _=>h2
  cZ:=fun b hb e ht=>h.cZ b hb e (fun v e=>by cases e)
  DN:=fun d' v' e=>by
   cases e;refine⟨hd,hv,fun e=>(by rw[e,oJ] at Lm;cases Lm),Lm,oJ,(h.gh v hv oJ).resolve_left (h.PO hc),fun f hf=> ?_,by omega⟩
   rw[yV (.inl (List.eq_nil_of_length_eq_zero mw))] at hf;cases hf}
theorem Rn.Dg (h:Rn g s c ds N tg):s.f.po.count 3≤g.us.length:=by
 have:=h.ok.NB;omega
theorem Rn.Ho (hg:g.In) (hc:g.cap<65000) (hN:N<281474976710656) {v:Nat} (hv:v∈g.us):∀(n:Nat) (s:FS) (d:Nat),Rn g s c ds N (some (d,v))→s.f.po.count 2=0→s.f.seq+n≤N→s.f.pm.dH v+(g.us.length-s.f.po.count 3)<n→∃s1 e d1,ov g n s v d=some (s1,e,d1)∧((e=0∧Rn g s1 c ds N (some (d1,v))∧s1.f.pm.dH v=0∧s1.f.po.count 2=0)∨(e=10∧Rn g s1 c ds N none∧g.aF<s1.f.po.count 3∧s1.f.po.count 2=0)∨(e=9∧jP g s1.a c c ds N))
 |0,s,d,h,h2,hs,hm=>by omega
 |n+1,s,d,h,h2,hs,hm=>by
  rw[ov];by_cases h0:s.f.pm.dH v=0
  ·rw[if_pos h0];exact⟨s,0,d,rfl,.inl ⟨rfl,h,h0,h2⟩⟩
  rw[if_neg h0]
  cases Lu:s.f.pm.on v with
  |nil=>exact absurd Lu (XO h.ok.pm h0)
  |cons a l=>
   obtain⟨x,p,rfl,zJ⟩:=PM (by rw[Lu];exact List.mem_cons_self:a∈s.f.pm.on v);obtain⟨t,ht,_,htp⟩:=h.nf x;obtain⟨u,hu,hup,qG,F5⟩:=htp v p zJ;subst qG;simp only[Int.toNat_natCast];rw[ht];simp only;have sC:=n9 hu;rw[if_pos sC.2.2.2.2.2.2.2];have hd:=(h.DN d v rfl).1;have kp:=h.ok.Ja d {u.s with fr:=v+1};have fg:=h.ok.bQ hg hd (x:={u.s with fr:=v+1}) sC.2.2.2.2.2.1.dl;have kseq:=kp.seq;have kc3:=kp.c3;have p4:=h.copy hg hc zJ hu F5 (by omega) (by omega);generalize bQ s d {u.s with fr:=v+1}=r at p4 kseq kc3 fg⊢;have hc3:=h.Dg;rcases p4 with⟨e,h1,hcm,sF⟩|⟨e,h1,hpm,oJ,abW,Ga⟩|⟨e,_,Vd⟩
   ·rw[if_neg (by omega),if_pos e];exact Rn.Ho hg hc hN hv n r.1 d h1 (by rw[sF];exact h2) (by omega) (by omega)
   ·rw[if_pos e]
    cases hfr:r.1.cZ with
    |none=>
     refine⟨r.1,10,0,rfl,.inr (.inl ⟨rfl,h1, ?_,by omega⟩)⟩;by_cases hsp:(r.1.f.po.count 3:Int)≤g.aF
     ·have:=h1.sj hsp
      have hpos:¬0<r.1.f.po.count 0:=fun hp=>by
       obtain⟨d',hd'⟩:=h1.ok.za hp;rw[hfr] at hd';cases hd'
      omega
     ·omega
    |some d'=>
     simp only;have hroom:=(h.DN d v rfl).2.2.2.2.2.2.2;have hb:=h1.begin hfr hv oJ (by rw[hpm];exact h0) (by rw[hpm];omega) (by omega);have h1c:=h1.Dg;exact Rn.Ho hg hc hN hv n r.1 d' hb (by omega) (by omega) (by rw[hpm];omega)
   ·rw[if_neg (by omega),if_neg (by omega)];exact⟨r.1,r.2,0,rfl,.inr (.inr ⟨e,Vd⟩)⟩
end
theorem Jc {α:Type} (p:α→Bool) (P:Nat):∀l:List α,(l.map fun b=>if p b=true then P else 0).sum=P*l.countP p
 |[]=>rfl
 |x::l=>by
  rw[List.map_cons,List.sum_cons,List.countP_cons,Jc p P l];by_cases h:p x=true
  ·rw[if_pos h,if_pos h,Nat.mul_add,Nat.mul_one,Nat.add_comm]
  ·rw[if_neg h,if_neg h,Nat.zero_add,Nat.add_zero]
theorem bW.eE {g:bW} (h:g.cN=true):g.yy:=by
 unfold bW.cN at h;rw[Bool.and_eq_true] at h;exact of_decide_eq_true h.1
theorem bW.nn {g:bW} (h:g.cN=true):0<g.cap:=by
 unfold bW.cN at h;rw[Bool.and_eq_true,Bool.and_eq_true] at h;exact of_decide_eq_true h.2.2
section
variable {g:bW} {s:FS} {c:Nat→List UInt8} {ds:List Nat} {N:Nat} {tg:Oq}
theorem aW.NI (h:aW g s) {d:Nat} (hf:s.iK=some d):s.f.po.how d=some 1:=ug h.po.E9 (qu hf)
theorem aW.Dh (h:aW g s) {b:Nat} (hb:b∈g.us):b<s.f.pm.gS.length∧s.f.pm.gS.getD b 0=(s.f.pm.dH b:Int):=by
 have h1:=ng hb;have h2:=h.nb;have hl:b<s.f.pm.gS.length:=by rw[pO];omega
 refine⟨hl, ?_⟩;rw[List.getD_eq_getElem?_getD,List.getElem?_eq_getElem hl];simp [Pm.gS]
theorem aW.NJ (h:aW g s) {v:Nat} (hf:s.iK=some v) {b:Nat} (hb:b∈g.us) (h1:s.f.po.how b=some 1):s.f.pm.dH v≤s.f.pm.dH b:=by
 obtain⟨l1,l2⟩:=h.Dh hb;obtain⟨m1,m2⟩:=h.Dh (h.yL hf);have:=(lg hf).2 _ (uf h1) rfl l1;simp only at this;rw[l2,m2] at this;omega
theorem aW.Kx (h:aW g s) (hc:0<s.f.po.count 1):∃v,s.iK=some v:=by
 rw[h.dH 1] at hc;obtain⟨b,hb,e⟩:=List.countP_pos_iff.1 hc;exact yR (of_decide_eq_true e) (h.Dh hb).1
theorem aW.PQ (h:aW g s) (hform:g.cN=true) {v:Nat} (hf:s.iK=some v) (h1:(s.f.po.count 1:Int)=g.us.length-1-g.aF):(s.f.pm.dH v:Int)<g.ay:=by
 have hn:=bW.eE hform;obtain⟨P,hP⟩:∃P:Nat,g.ay=(P:Int):=⟨g.ay.toNat,by have:=hn.2.2.1;omega⟩;by_cases hlt:(s.f.pm.dH v:Int)<g.ay
 ·exact hlt
 exfalso;have hge:P≤s.f.pm.dH v:=by omega
 have abX:=I7 (nh g) s.f.pm.ct
 have hle:(g.us.map fun b=>if decide (s.f.po.how b=some 1)=true then P else 0).sum≤(g.us.map fun b=>s.f.pm.ct.countP (uF b)).sum:=Dd _ _ _ (fun b hb=>by
  split
  ·rename_i e;exact Nat.le_trans hge (h.NJ hf hb (of_decide_eq_true e))
  ·exact Nat.zero_le _)
 rw[Jc, ←h.dH 1] at hle;have hna:=h.na;have hcap:g.cap=g.ay*(g.us.length-g.aF-1)-2:=rfl
 have e1:((P*s.f.po.count 1:Nat):Int)=g.ay*(g.us.length-g.aF-1):=by
  rw[Int.natCast_mul, ←hP,h1];congr 1;omega
 omega
theorem Rn.mono (h:Rn g s c ds N tg) {N':Nat} (hN:N≤N'):Rn g s c ds N' tg:={h with sn:=Nat.le_trans h.sn hN}
theorem Cr.mono {a:Ar} (h:Cr g a c ds N) {N':Nat} (hN:N≤N'):Cr g a c ds N':={h with seq:=fun b f hf=>Nat.le_trans (h.seq b f hf) hN}
theorem jP.mono {a:Ar} {c':Nat→List UInt8} (h:jP g a c c' ds N) {N':Nat} (hN:N≤N'):jP g a c c' ds N':={h with ct:=fun cut=>(h.ct cut).imp (fun h=>h.mono hN) (fun h=>h.mono hN)}
theorem Rn.open (h:Rn g s c ds N none) (hg:g.In) (hform:g.cN=true) {b:Nat} (hf:s.cZ=some b) (h2:s.f.po.count 2=0) (hr:(s.f.po.count 3:Int)≤g.aF→1+g.aF<s.f.po.count 0+s.f.po.count 3):Rn g (s.bw b 2) c ds N none∧(s.bw b 2).f.po.j3=some b∧((s.bw b 2).next b:Int)<g.ay:=by
 have hb:=h.ok.pT hf;have hb0:=h.ok.Jb hf;have cj:=h.ok.bw hg hb (h:=2) (by omega);unfold FS.bw at cj⊢;have gi:s.f.po.set b 2=s.f.po.cd b 2:=fG (by rw[hb0];simp) (.inr h2);simp only[gi] at cj⊢;have cF:=fun i=>fh (p:=s.f.po) (b:=b) (h:=2) i (h.ok.how hb)
 have ju:=fun k=>eD (p:=s.f.po) (b:=b) (h:=2) k hb0
 have c2:=ju 2;have c3:=ju 3;have c0:=ju 0;simp only[if_true,show ((0:Nat)=3)=False from by simp,show ((2:Nat)=3)=False from by simp,show ((0:Nat)=2)=False from by simp,show ((2:Nat)=0)=False from by simp,if_false] at c2 c3 c0;have mw:s.next b=0:=h.cZ b hb hb0 (fun v e=>by cases e);have sC:=(bW.eE hform).2.2.1;have Zx:(s.f.po.cd b 2).how b=some 2:=by rw[cF,if_pos rfl]
 refine⟨?_,vt cj.po cj.us Zx (by show (s.f.po.cd b 2).count 2≤1;omega),by show ((s.next b:Nat):Int)<_;omega⟩
 exact {h with
  ok:=cj
  bd:=fun i hi=>by
   show (s.f.po.cd b 2).how i=some 3↔_
   rw[cF];by_cases bh:i=b
   ·rw[bh,if_pos rfl];have:=h.bd b hb;rw[hb0] at this;simpa using this
   ·rw[if_neg bh];exact h.bd i hi
  cZ:=fun i hi e ht=>by
   have e:(s.f.po.cd b 2).how i=some 0:=e;rw[cF] at e;by_cases bh:i=b
   ·rw[if_pos bh] at e;cases e
   ·rw[if_neg bh] at e;exact h.cZ i hi e ht
  gh:=fun i hi e=>by
   have e:(s.f.po.cd b 2).how i=some 1:=e;rw[cF] at e;by_cases bh:i=b
   ·rw[if_pos bh] at e;cases e
   ·rw[if_neg bh] at e;exact h.gh i hi e
  j3:=fun i hi e=>by
   have e:(s.f.po.cd b 2).how i=some 2:=e;rw[cF] at e;by_cases bh:i=b
   ·right;right;show ((s.next i:Nat):Int)<_;rw[bh];omega
   ·rw[if_neg bh] at e;exact h.j3 i hi e
  DN:=fun d v e=>by cases e
  Hg:=fun e=>absurd rfl e
  one:=by show (s.f.po.cd b 2).count 2≤1;omega
  sj:=by
   show ((s.f.po.cd b 2).count 3:Int)≤g.aF→_≤(((s.f.po.cd b 2).count 0:Nat):Int)+((s.f.po.cd b 2).count 3:Nat)
   intro hle;have:=hr (by omega)
   omega}
theorem Rn.close (h:Rn g s c ds N none) (hg:g.In) {b:Nat} (hf:s.f.po.j3=some b) (hp:¬(s.next b:Int)<g.ay):Rn g (s.bw b 1) c ds N none∧(s.bw b 1).f.po.count 2=0:=by
 have hb:=h.ok.PL hf;have mv:=wX h.ok.po hf;have cj:=h.ok.bw hg hb (h:=1) (by omega);unfold FS.bw at cj⊢;have gi:s.f.po.set b 1=s.f.po.cd b 1:=fG (by rw[mv];simp) (.inl (by omega));simp only[gi] at cj⊢;have cF:=fun i=>fh (p:=s.f.po) (b:=b) (h:=1) i (h.ok.how hb)
 have ju:=fun k=>eD (p:=s.f.po) (b:=b) (h:=1) k mv
 have c2:=ju 2;have c3:=ju 3;have c0:=ju 0;have hone:=h.one;simp only[if_true,show ((1:Nat)=3)=False from by simp,show ((2:Nat)=3)=False from by simp,show ((1:Nat)=2)=False from by simp,show ((1:Nat)=0)=False from by simp,show ((2:Nat)=0)=False from by simp,if_false] at c2 c3 c0;refine⟨?_,by omega⟩
 exact {h with
  ok:=cj
  bd:=fun i hi=>by
   show (s.f.po.cd b 1).how i=some 3↔_
   rw[cF];by_cases bh:i=b
   ·rw[bh,if_pos rfl];have:=h.bd b hb;rw[mv] at this;simpa using this
   ·rw[if_neg bh];exact h.bd i hi
  cZ:=fun i hi e ht=>by
   have e:(s.f.po.cd b 1).how i=some 0:=e;rw[cF] at e;by_cases bh:i=b
   ·rw[if_pos bh] at e;cases e
   ·rw[if_neg bh] at e;exact h.cZ i hi e ht
  gh:=fun i hi e=>by
   have e:(s.f.po.cd b 1).how i=some 1:=e;rw[cF] at e;by_cases bh:i=b
   ·rw[bh];rcases h.j3 b hb mv with e|e|e
    ·exact .inl e
    ·exact .inr e
    ·exact absurd e hp
   ·rw[if_neg bh] at e;exact h.gh i hi e
  j3:=fun i hi e=>by
   have e:(s.f.po.cd b 1).how i=some 2:=e;rw[cF] at e;by_cases bh:i=b
   ·rw[if_pos bh] at e;cases e
   ·rw[if_neg bh] at e;exact h.j3 i hi e
  DN:=fun d v e=>by cases e
  Hg:=fun e=>absurd rfl e
  one:=by show (s.f.po.cd b 1).count 2≤1;omega
  sj:=by
   show ((s.f.po.cd b 1).count 3:Int)≤g.aF→_≤(((s.f.po.cd b 1).count 0:Nat):Int)+((s.f.po.cd b 1).count 3:Nat)
   intro hle;have:=h.sj (by omega)
   omega}
theorem Rn.PR (h:Rn g s c ds N none) (hg:g.In) (hform:g.cN=true) (hc:g.cap<65000) (hN:N<281474976710656) {n:Nat} (hn:100≤n) (hs:s.f.seq+n≤N) (h2:s.f.po.count 2=0) (hd:(s.f.po.count 3:Int)≤g.aF) (hfr:¬(s.f.po.count 0:Int)>1+g.aF-s.f.po.count 3):∃s1 e,gT g n s=some (s1,e)∧((e=0∧Rn g s1 c ds N none∧((∃d,s1.f.po.j3=some d∧(s1.next d:Int)<g.ay)∨(s1.f.po.count 2=0∧s.f.po.count 0+s.f.po.count 3+1=s1.f.po.count 0+s1.f.po.count 3)))∨(e=10∧Rn g s1 c ds N none∧g.aF<s1.f.po.count 3)∨(e=9∧jP g s1.a c c ds N)):=by
 have h4:=h.ok.NB;have hres:=h.sj hd;have hcap:=bW.nn hform;have An:=bW.eE hform;have hcd:g.cap=g.ay*(g.us.length-g.aF-1)-2:=rfl
 have abP:0<(g.us.length:Int)-g.aF-1:=by
  by_cases hz:0<(g.us.length:Int)-g.aF-1
  ·exact hz
  ·exfalso;have:=Int.mul_nonpos_of_nonneg_of_nonpos (a:=g.ay) (b:=(g.us.length:Int)-g.aF-1) (by have:=An.2.2.1;omega) (by omega);omega
 obtain⟨v,hv⟩:=h.ok.Kx (by omega);have Vc:=h.ok.yL hv;have oJ:=h.ok.NI hv;have hlt:=h.ok.PQ hform hv (by omega);have Jx:=bW.jX g hg.b.2;have sD:=hg.p;unfold gT;rw[hv];simp only;by_cases h0:s.f.pm.dH v=0
 ·rw[if_pos h0];rcases h.yK hg Vc oJ h0 with⟨e1,e2,e3,e4⟩|⟨e1,_,e2⟩
  ·exact⟨_,_,rfl,.inl ⟨e1,e2,.inr ⟨e3.trans h2,e4⟩⟩⟩
  ·exact⟨_,_,rfl,.inr (.inr ⟨e1,e2⟩)⟩
 rw[if_neg h0];obtain⟨d,Gb⟩:=h.ok.za (by omega);rw[Gb];simp only;rw[if_neg (by omega)];have hb:=h.begin Gb Vc oJ h0 hlt h2;obtain⟨s1,e,d1,p4,hres⟩:=Rn.Ho hg hc hN Vc n s d hb h2 hs (by omega);rw[p4];simp only;rcases hres with⟨rfl,k1,k2,k3⟩|⟨rfl,k1,k2,k3⟩|⟨rfl,k1⟩
 ·rw[if_pos rfl];rcases k1.swap hg k2 k3 with⟨e1,e2,e3,e4⟩|⟨e1,_,e2⟩
  ·rw[if_pos e1];exact⟨_,_,rfl,.inl ⟨rfl,e2,.inl ⟨d1,e3,e4⟩⟩⟩
  ·rw[if_neg (by omega)];exact⟨_,_,rfl,.inr (.inr ⟨e1,e2⟩)⟩
 ·rw[if_neg (by omega)];exact⟨_,_,rfl,.inr (.inl ⟨rfl,k1,k2⟩)⟩
 ·rw[if_neg (by omega)];exact⟨_,_,rfl,.inr (.inr ⟨rfl,k1⟩)⟩
def Di (g:bW) (c:Nat→List UInt8) (ds:List Nat) (N:Nat) (o:Option (FS×Int×Nat)):Prop:=
 ∃s1 e b,o=some (s1,e,b)∧((e=0∧Rn g s1 c ds N none∧b∈g.us∧s1.f.po.how b=some 2∧(s1.next b:Int)<g.ay)∨(e=10∧Rn g s1 c ds N none∧g.aF<s1.f.po.count 3)∨(e=9∧jP g s1.a c c ds N))
theorem Rn.Dj (h:Rn g s c ds N none) {b:Nat} (hf:s.f.po.j3=some b) (hp:(s.next b:Int)<g.ay) (k n:Nat):Di g c ds N (iZ g k (n+1) s):=by
 rw[iZ,hf];simp only;rw[if_pos hp];exact⟨s,0,b,rfl,.inl ⟨rfl,h,h.ok.PL hf,wX h.ok.po hf,hp⟩⟩
theorem Rn.Fk (h:Rn g s c ds N none) (hg:g.In) (hform:g.cN=true) (h2:s.f.po.count 2=0) (hf:(s.f.po.count 0:Int)>1+g.aF-s.f.po.count 3) (k n:Nat):Di g c ds N (lf g k (n+1) s):=by
 unfold lf;by_cases hd:(s.f.po.count 3:Int)>g.aF
 ·rw[if_pos hd];exact⟨s,10,0,rfl,.inr (.inl ⟨rfl,h,by omega⟩)⟩
 rw[if_neg hd,if_pos hf];obtain⟨b,hb⟩:=h.ok.za (by omega);rw[hb];simp only;obtain⟨h1,h3,h4⟩:=h.open hg hform hb h2 (fun _=>by omega);exact h1.Dj h3 h4 k n
theorem Rn.Bq (h:Rn g s c ds N none) (hg:g.In) (hform:g.cN=true) (hc:g.cap<65000) (hN:N<281474976710656) {k n:Nat} (hk:100≤k) (hs:s.f.seq+k≤N) (h2:s.f.po.count 2=0):Di g c ds N (lf g k (n+2) s):=by
 by_cases hf:(s.f.po.count 0:Int)>1+g.aF-s.f.po.count 3
 ·exact h.Fk hg hform h2 hf k (n+1)
 unfold lf;by_cases hd:(s.f.po.count 3:Int)>g.aF
 ·rw[if_pos hd];exact⟨s,10,0,rfl,.inr (.inl ⟨rfl,h,by omega⟩)⟩
 rw[if_neg hd,if_neg hf];obtain⟨s1,e,vE,hr⟩:=h.PR hg hform hc hN hk hs h2 (by omega) hf;rw[vE];simp only;rcases hr with⟨rfl,k1,k2⟩|⟨rfl,k1,k2⟩|⟨rfl,k1⟩
 ·rw[if_pos rfl];rcases k2 with⟨d,k2,k3⟩|⟨k2,k3⟩
  ·exact k1.Dj k2 k3 k (n+1)
  ·rw[iZ,pV.2 k2];simp only;have hres:=h.sj (by omega);exact k1.Fk hg hform k2 (by omega) k n
 ·rw[if_neg (by omega)];exact⟨_,_,_,rfl,.inr (.inl ⟨rfl,k1,k2⟩)⟩
 ·rw[if_neg (by omega)];exact⟨_,_,_,rfl,.inr (.inr ⟨rfl,k1⟩)⟩
theorem Rn.PT (h:Rn g s c ds N none) (hg:g.In) (hform:g.cN=true) (hc:g.cap<65000) (hN:N<281474976710656) {k n:Nat} (hk:100≤k) (hs:s.f.seq+k≤N):Di g c ds N (iZ g k (n+3) s):=by
 cases ho:s.f.po.j3 with
 |none=>
  rw[iZ,ho];simp only;exact h.Bq hg hform hc hN hk hs (pV.1 ho)
 |some b=>
  by_cases hp:(s.next b:Int)<g.ay
  ·exact h.Dj ho hp k (n+2)
  ·rw[iZ,ho];simp only;rw[if_neg hp];obtain⟨h1,h2⟩:=h.close hg ho hp;exact h1.Bq hg hform hc hN hk hs h2
theorem Rn.XT (hg:g.In) (hform:g.cN=true) (hc:g.cap<65000) (hN:N<281474976710656) {k:Nat} (hk:100≤k) {x:Sh} (hx:yW g x) (hx0:x.fr=0):∀(n:Nat) (s:FS),Rn g s c ds N none→s.f.seq+n*(k*k+1)≤N→g.us.length-s.f.po.count 3<n→∃s1 e,ua g k n s x=some (s1,e)∧((e=0∧Rn g s1 (n7 c x.an x.data) ds N none)∨(e=10∧Rn g s1 c ds N none∧g.aF<s1.f.po.count 3)∨(e=9∧jP g s1.a c (n7 c x.an x.data) ds N))
 |0,s,h,hs,hm=>by omega
 |n+1,s,h,hs,hm=>by
  have hkk:k≤k*k:=Nat.le_mul_of_pos_left k (by omega);rw[Nat.succ_mul] at hs;obtain⟨s1,e,b,hro,hr⟩:=h.PT hg hform hc hN (n:=k-3) hk (by omega);rw[show k-3+3=k from by omega] at hro;have kp:=((aW.Q6 hg hc k s h.ok).1 hro).2.2;have kseq:=kp.seq;have kc3:=kp.c3;simp only at kseq kc3;unfold ua;rw[hro];simp only;rcases hr with⟨rfl,k1,k2,k3,k4⟩|⟨rfl,k1,k2⟩|⟨rfl,k1⟩
  ·rw[if_pos rfl];have kq:=(k1.ok.Ja b x).seq;have c3:=k1.Dg;have hput:=k1.put hg hc k2 k3 k4 hx hx0 (by omega) (by omega);generalize bQ s1 b x=r at hput kq⊢;rcases hput with⟨e,e1⟩|⟨e,e1,e2,e3⟩|⟨e,_,e1⟩
   ·rw[if_neg (by omega)];exact⟨r.1,r.2,rfl,.inl ⟨e,e1⟩⟩
   ·rw[if_pos e];have c3':=e1.Dg;exact Rn.XT hg hform hc hN hk hx hx0 n r.1 e1 (by omega) (by omega)
   ·rw[if_neg (by omega)];exact⟨r.1,r.2,rfl,.inr (.inr ⟨e,e1⟩)⟩
  ·rw[if_neg (by omega)];exact⟨s1,10,rfl,.inr (.inl ⟨rfl,k1,k2⟩)⟩
  ·rw[if_neg (by omega)];exact⟨s1,9,rfl,.inr (.inr ⟨rfl,{k1 with ct:=fun cut=>.inl ((k1.ct cut).elim id id)}⟩)⟩
end
theorem zb {q:Nat→Bool}:∀{l:List Nat},l.Nodup→(∀i∈l,∀j∈l,q i=true→q j=true→i=j)→l.countP q≤1
 |[],_,_=>Nat.zero_le _
 |x::l,hn,h=>by
  rw[List.nodup_cons] at hn;rw[List.countP_cons];by_cases hx:q x=true
  ·have:l.countP q=0:=List.countP_eq_zero.2 (fun j hj hq=>hn.1 (by rw[h x List.mem_cons_self j (List.mem_cons_of_mem _ hj) hx hq];exact hj));rw[if_pos hx];omega
  ·rw[if_neg hx];exact zb hn.2 (fun i hi j hj=>h i (List.mem_cons_of_mem _ hi) j (List.mem_cons_of_mem _ hj))
section
variable {g:bW} {s:FS} {c:Nat→List UInt8} {ds:List Nat} {N:Nat} {a a':Ar}
open Classical in
theorem Cr.DL (h:Cr g a c ds N) {b:Nat} (hb:b∈g.us) (hbf:(a.bk b).aM=false) (hp:si g a' ds) (hf:∀i,(a'.bk i).aM=(a.bk i).aM) (hv:vw g a'=ke (vw g a) b) (hg:Gd (ke (vw g a) b) c):Cr g a' c ds N where
 ph:=hp
 gd:=by rw[hv];exact hg
 e:=by
  have e1:lh g a'=lh g a:=List.countP_congr fun i _=>by rw[hf i]
  rw[e1];intro hle;have hle:=h.e hle
  have:jO g a'≤jO g a:=by
   by_cases hn:lA (vw g a) b
   ·have h1:jO g a'≤g.us.countP (fun i=>decide (((a.bk i).aM=false∧lA (vw g a) i)∧i≠b))+g.us.countP (fun i=>decide ((a.bk i).aM=false∧ff (vw g a) i)):=by
     refine lk (fun i hi hx=> ?_);have hx:=of_decide_eq_true hx;rw[hf i,hv] at hx;obtain⟨hx1,uH⟩:=hx;have hne:=sk uH;simp only[decide_eq_true_eq];by_cases hsp:ff (vw g a) i
     ·exact .inr ⟨hx1,hsp⟩
     ·exact .inl ⟨⟨hx1,Bb hsp hne.2⟩,hne.1⟩
    have h2:g.us.countP (fun i=>decide (((a.bk i).aM=false∧lA (vw g a) i)∧i≠b))+1≤jO g a:=
     qx (v:=b) (fun i _ hx=>by simp only[decide_eq_true_eq] at hx⊢;exact hx.1) hb (by simp [hbf,hn]) (by simp)
    have h3:g.us.countP (fun i=>decide ((a.bk i).aM=false∧ff (vw g a) i))≤1:=
     zb (nh g) (fun i hi j hj h1 h2=>by
      simp only[decide_eq_true_eq] at h1 h2
      exact h.sp i hi j hj h1.1 h2.1 h1.2 h2.2)
    omega
   ·refine lj (fun i hi hx=> ?_);have hx:=of_decide_eq_true hx;rw[hf i,hv] at hx;obtain⟨hx1,f,Qs,uH⟩:=hx;have Qs:=cE.1 Qs;refine decide_eq_true ⟨hx1,f,Qs.1,fun hm=>uH ?_⟩;have hne:f.s.fr-1≠b:=fun e=>hn (by rw[←e];exact h.gd.a7 i f Qs.1 hm)
    obtain⟨h0,o,ho,Uq⟩:=hm;exact⟨h0,o,cE.2 ⟨ho,hne⟩,Uq⟩
  omega
 seq:=fun i f hf=>by rw[hv] at hf;exact h.seq i f (cE.1 hf).1
 sp:=fun i hi j hj h1 h2 h3 h4=>by
  rw[hv] at h3 h4;rw[hf] at h1 h2;exact h.sp i hi j hj h1 h2 (qy h3).2 (qy h4).2
open Classical in
theorem Cr.wA (h:Cr g a c ds N) (hp:si g a' ds) (hf:∀i,(a.bk i).aM=true→(a'.bk i).aM=true) (hv:vw g a'=vw g a):Cr g a' c ds N where
 ph:=hp
 gd:=by rw[hv];exact h.gd
 e:=by
  have e1:lh g a≤lh g a':=lj (fun i _=>hf i)
  have e2:jO g a'≤jO g a:=lj (fun i _ hx=>by
   have hx:=of_decide_eq_true hx;rw[hv] at hx;refine decide_eq_true ⟨?_,hx.2⟩;rw[←Bool.not_eq_true]
   intro e;rw[hf i e] at hx;cases hx.1)
  intro hle;have:=h.e (by omega);omega
 seq:=by rw[hv];exact h.seq
 sp:=fun i hi j hj h1 h2 h3 h4=>by
  rw[hv] at h3 h4;refine h.sp i hi j hj ?_ ?_ h3 h4
  ·rw[←Bool.not_eq_true];intro e;rw[hf i e] at h1;cases h1
  ·rw[←Bool.not_eq_true];intro e;rw[hf j e] at h2;cases h2
structure Mn (g:bW) (s:FS) (c:Nat→List UInt8) (ds:List Nat) (N:Nat) (l:List Nat) (o:Nat×Int):Prop where
 ok:aW g s
 on:s.a.off=false
 ee:s.a.ee=.no
 aN:s.a.aN≤s.f.ep
 ep:1≤s.f.ep∧s.f.ep<281474976710656
 cr:Cr g s.a c ds N
 ct:∀x,(s.f.pm.at x=none∧∀b,∀f∈vw g s.a b,f.s.an≠x)∨∃b p,s.f.pm.at x=some (b,p)∧∃f∈vw g s.a b,f.p=p∧wH (vw g s.a) c x f
 seq:∀b,∀f∈vw g s.a b,f.s.seq≤s.f.seq
 sn:s.f.seq≤N
 bd:∀b∈g.us,b∉l→(s.f.po.how b=some 3↔(s.a.bk b).aM=true)
 rem:∀b∈g.us,b∈l→s.f.po.how b=some 0
 hf:∀b∈g.us,b∉l→(s.a.bk b).aM=false→(s.a.bk b).bY=false
 cZ:∀b∈g.us,b∉l→s.f.po.how b=some 0→s.next b=0
 gh:∀b∈g.us,s.f.po.how b=some 1→(s.a.bk b).aM=false∧s.f.pm.dH b≠0
 TF:∀b∈g.us,s.f.pm.dH b≠0→lA (vw g s.a) b
 PU:∀b∈g.us,s.f.po.how b≠some 2
 op:0≤o.2→o.2.toNat∈g.us∧s.f.po.how o.2.toNat=some 1∧(s.next o.2.toNat:Int)<g.ay
theorem Mn.Df {l:List Nat} {o:Nat×Int} (h:Mn g s c ds N l o) {v:Nat} (hc:s.f.pm.dH v=0):Gd (ke (vw g s.a) v) c:=
 h.cr.gd.DL fun x=>by
   rcases h.ct x with⟨h1,h2⟩|⟨b,p,h1,f,h2,h3,h4⟩
   ·exact .inl h2
   ·exact .inr ⟨b,fun e=>by rw[e] at h1;exact pX hc x p h1,f,h2,h4⟩
theorem Mn.Hq {l:List Nat} {o:Nat×Int} (h:Mn g s c ds N l o):s.f.po.count 2=0:=by
 rw[h.ok.dH 2];exact List.countP_eq_zero.2 (fun b hb e=>h.PU b hb (of_decide_eq_true e))
theorem Mn.set {b w:Nat} {l:List Nat} {o o':Nat×Int} (h:Mn g s c ds N (b::l) o) (hg:g.In) (hb:b∈g.us) (hl:b∉l) (hw:w=1∨w=3) (h1:w=3↔(s.a.bk b).aM=true) (h2:w=1→s.f.pm.dH b≠0) (ho:0≤o'.2→(o'.2.toNat=b∧w=1∧(s.next b:Int)<g.ay)∨o'=o):Mn g (s.bw b w) c ds N l o':=by
 have hb0:=h.rem b hb List.mem_cons_self;have gi:s.f.po.set b w=s.f.po.cd b w:=fG (by rw[hb0];simp) (.inl (by omega));have cj:=h.ok.bw hg hb (h:=w) (by omega);unfold FS.bw at cj⊢;simp only[gi] at cj⊢;have cF:=fun i=>fh (p:=s.f.po) (b:=b) (h:=w) i (h.ok.how hb)
 have hne:∀i,i≠b→i∉l→i∉b::l:=fun i h1 h2 h3=>(List.mem_cons.1 h3).elim h1 h2
 exact {h with
  ok:=cj
  bd:=fun i hi lY=>by
   show (s.f.po.cd b w).how i=some 3↔_
   rw[cF];by_cases bh:i=b
   ·rw[bh,if_pos rfl, ←h1];simp
   ·rw[if_neg bh];exact h.bd i hi (hne i bh lY)
  rem:=fun i hi lY=>by
   show (s.f.po.cd b w).how i=some 0
   rw[cF,if_neg (fun e=>hl (by rw[←e];exact lY))];exact h.rem i hi (List.mem_cons_of_mem _ lY)
  hf:=fun i hi lY e=>by
   by_cases bh:i=b
   ·subst bh;have hw1:w=1:=hw.resolve_right (fun e2=>by rw[h1.1 e2] at e;cases e);obtain⟨x,p,hx⟩:=wY (h2 hw1);rcases h.ct x with⟨h1,_⟩|⟨b',p',h1,f,hf,_⟩
    ·rw[h1] at hx;cases hx
    ·rw[h1] at hx;cases hx;exact(n9 hf).2.2.1
   ·exact h.hf i hi (hne i bh lY) e
  cZ:=fun i hi lY e=>by
   have e:(s.f.po.cd b w).how i=some 0:=e;rw[cF] at e;by_cases bh:i=b
   ·rw[if_pos bh] at e;have:=Option.some.inj e;omega
   ·rw[if_neg bh] at e;exact h.cZ i hi (hne i bh lY) e
  gh:=fun i hi e=>by
   have e:(s.f.po.cd b w).how i=some 1:=e;rw[cF] at e;by_cases bh:i=b
   ·rw[if_pos bh] at e;have hw1:=Option.some.inj e;rw[bh];refine⟨?_,h2 hw1⟩;rw[←Bool.not_eq_true];intro e2;have:=h1.2 e2;omega
   ·rw[if_neg bh] at e;exact h.gh i hi e
  PU:=fun i hi e=>by
   have e:(s.f.po.cd b w).how i=some 2:=e;rw[cF] at e;by_cases bh:i=b
   ·rw[if_pos bh] at e;have:=Option.some.inj e;omega
   ·rw[if_neg bh] at e;exact h.PU i hi e
  op:=fun e=>by
   show _∧(s.f.po.cd b w).how _=some 1∧_
   rw[cF];rcases ho e with⟨e1,e2,e3⟩|e1
   ·rw[e1,if_pos rfl,e2];exact⟨hb,rfl,e3⟩
   ·rw[e1] at e⊢;obtain⟨h3,h4,h5⟩:=h.op e;rw[if_neg (fun e2=>by rw[e2,hb0] at h4;cases h4)]
    exact⟨h3,h4,h5⟩}
theorem Mn.skip {b:Nat} {l:List Nat} {o:Nat×Int} (h:Mn g s c ds N (b::l) o) (hb:b∈g.us) (hl:b∉l) (hf:(s.a.bk b).aM=false) (hn:s.next b=0):Mn g s c ds N l o:=by
 have hb0:=h.rem b hb List.mem_cons_self;have hne:∀i,i≠b→i∉l→i∉b::l:=fun i h1 h2 h3=>(List.mem_cons.1 h3).elim h1 h2
 exact {h with
  bd:=fun i hi lY=>by
   by_cases bh:i=b
   ·rw[bh,hb0,hf];simp
   ·exact h.bd i hi (hne i bh lY)
  rem:=fun i hi lY=>h.rem i hi (List.mem_cons_of_mem _ lY)
  hf:=fun i hi lY e=>by
   by_cases bh:i=b
   ·rw[bh, ←Bool.not_eq_true];intro e2;exact h.cr.ph.bY b hb e2 (List.eq_nil_of_length_eq_zero hn)
   ·exact h.hf i hi (hne i bh lY) e
  cZ:=fun i hi lY e=>by
   by_cases bh:i=b
   ·rw[bh];exact hn
   ·exact h.cZ i hi (hne i bh lY) e}
theorem Mn.yK {b:Nat} {l:List Nat} {o:Nat×Int} (h:Mn g s c ds N (b::l) o) (hg:g.In) (hb:b∈g.us) (hl:b∉l) (hfl:(s.a.bk b).aM=false) (hc:s.f.pm.dH b=0):((bC (s.bw b 1) b).2=0∧Mn g (bC (s.bw b 1) b).1 c ds N l o)∨((bC (s.bw b 1) b).2=9∧s.a.bI>0∧jP g (bC (s.bw b 1) b).1.a c c ds N):=by
 have hb0:=h.rem b hb List.mem_cons_self;have hlt:=h.cr.ph.lt hb;have fQ:=h.ok.bw hg hb (h:=1) (by omega);have cj:=fQ.bC hg hb;have hgd:=h.Df hc;have gi:s.f.po.set b 1=s.f.po.cd b 1:=fG (by rw[hb0];simp) (.inl (by omega));have uD:=fun i=>fh (p:=s.f.po) (b:=b) (h:=1) i (h.ok.how hb)
 have zu:(s.f.po.cd b 1).how b=some 1:=by rw[uD,if_pos rfl]
 have hne:∀i,i≠b→i∉l→i∉b::l:=fun i h1 h2 h3=>(List.mem_cons.1 h3).elim h1 h2
 have QD:0≤o.2→o.2.toNat≠b:=fun e e2=>by
  have:=(h.op e).2.1;rw[e2,hb0] at this;cases this
 obtain⟨a',ho⟩:=sl (s:=s.bw b 1) (v:=b) hlt h.on h.ee h.aN;rcases ho with⟨ho,o1,o2,he⟩|⟨ho,o1,o2,o3,he⟩|⟨ho,o1,o2,o3,he⟩
 ·left;rw[ho] at cj⊢;unfold FS.bw at cj⊢;have zD:(s.f.po.set b 1).set b 0=(s.f.po.cd b 1).cd b 0:=by rw[gi];exact fG (by rw[zu];simp) (.inl (by omega))
  simp only[zD] at cj⊢;obtain⟨po,sF⟩:∃po,po=(s.f.po.cd b 1).cd b 0:=⟨_,rfl⟩
  have cF:∀i,po.how i=if i=b then some 0 else s.f.po.how i:=fun i=>by
   rw[sF,fh i (by rw[zu];rfl),uD];split<;>rfl
  rw[←sF] at cj⊢;have he:F8 s.a a' b (wC (aD (s.a.bk b))):=he;have qL:=nj hlt hb he.touG (.inl rfl);have hbk:=fun i=>he.touG.bk hlt i
  have QA:∀i,(a'.bk i).aM=(s.a.bk i).aM:=iL hlt he.touG (dB _);have mw:=fun i=>gU (f:={s.f with po:=po}) hlt he.touG i
  refine⟨trivial, ?_⟩
  exact {
   ok:=cj,on:=o1,ee:=o2,aN:=by rw[he.aN];exact h.aN,ep:=h.ep
   cr:=h.cr.DL hb hfl (uj h.cr.ph hb he.touG) QA qL hgd
   ct:=fun x=>by
    rw[qL];rcases h.ct x with⟨h1,h2⟩|⟨b',p,h1,f,h2,h3,h4⟩
    ·exact .inl ⟨h1,fun b f hf=>h2 b f (cE.1 hf).1⟩
    ·exact .inr ⟨b',p,h1,f,cE.2 ⟨h2,fun e=>by rw[e] at h1;exact pX hc x p h1⟩,h3,h4.DL⟩
   seq:=fun i f hf=>by rw[qL] at hf;exact h.seq i f (cE.1 hf).1
   sn:=h.sn
   bd:=fun i hi lY=>by
    show po.how i=some 3↔(a'.bk i).aM=true
    rw[cF,QA];by_cases bh:i=b
    ·rw[bh,if_pos rfl,hfl];simp
    ·rw[if_neg bh];exact h.bd i hi (hne i bh lY)
   rem:=fun i hi lY=>by
    show po.how i=some 0
    rw[cF,if_neg (fun e=>hl (by rw[←e];exact lY))];exact h.rem i hi (List.mem_cons_of_mem _ lY)
   hf:=fun i hi lY e=>by
    show (a'.bk i).bY=false
    have e:(a'.bk i).aM=false:=e;rw[QA] at e;rw[hbk];by_cases bh:i=b
    ·rw[if_pos bh];rfl
    ·rw[if_neg bh];exact h.hf i hi (hne i bh lY) e
   cZ:=fun i hi lY e=>by
    have e:po.how i=some 0:=e;rw[cF] at e;rw[mw];by_cases bh:i=b
    ·rw[if_pos bh];rfl
    ·rw[if_neg bh] at e⊢;exact h.cZ i hi (hne i bh lY) e
   gh:=fun i hi e=>by
    have e:po.how i=some 1:=e;rw[cF] at e;by_cases bh:i=b
    ·rw[if_pos bh] at e;cases e
    ·rw[if_neg bh] at e;show (a'.bk i).aM=false∧_
     rw[QA];exact h.gh i hi e
   TF:=fun i hi e=>by
    show lA (vw g a') i
    rw[qL];exact(h.TF i hi e).DL (fun e2=>e (by rw[e2];exact hc))
   PU:=fun i hi e=>by
    have e:po.how i=some 2:=e;rw[cF] at e;by_cases bh:i=b
    ·rw[if_pos bh] at e;cases e
    ·rw[if_neg bh] at e;exact h.PU i hi e
   op:=fun e=>by
    obtain⟨h3,h4,h5⟩:=h.op e;refine⟨h3, ?_, ?_⟩
    ·show po.how _=_
     rw[cF,if_neg (QD e)];exact h4
    ·rw[mw,if_neg (QD e)];exact h5}
 ·left;rw[ho] at cj⊢;unfold FS.bw at cj⊢;have zD:(s.f.po.set b 1).set b 3=(s.f.po.cd b 1).cd b 3:=by rw[gi];exact fG (by rw[zu];simp) (.inl (by omega))
  simp only[zD] at cj⊢;obtain⟨po,sF⟩:∃po,po=(s.f.po.cd b 1).cd b 3:=⟨_,rfl⟩
  have cF:∀i,po.how i=if i=b then some 3 else s.f.po.how i:=fun i=>by
   rw[sF,fh i (by rw[zu];rfl),uD];split<;>rfl
  rw[←sF] at cj⊢;have he:F8 s.a a' b {aD (s.a.bk b) with aM:=true}:=he;have o3:(aD (s.a.bk b)).bd=true:=o3;have qL:vw g a'=vw g s.a:=he.touG.wA hlt hb (by show Bk.eu _ _ _=_;unfold Bk.eu;simp only[bD,bu]);have hbk:=fun i=>he.touG.bk hlt i
  have mw:=fun i=>gU (f:={s.f with po:=po}) hlt he.touG i
  have QA:∀i,i≠b→(a'.bk i).aM=(s.a.bk i).aM:=fun i bh=>by rw[hbk,if_neg bh]
  refine⟨trivial, ?_⟩
  exact {
   ok:=cj,on:=o1,ee:=o2,aN:=by rw[he.aN];exact h.aN,ep:=h.ep
   cr:=h.cr.wA (y8 h.cr.ph hb o3 he.touG) (fun i e=>by
    rw[hbk];split
    ·rfl
    ·exact e) qL
   ct:=fun x=>by rw[qL];exact h.ct x
   seq:=fun i f hf=>by rw[qL] at hf;exact h.seq i f hf
   sn:=h.sn
   bd:=fun i hi lY=>by
    show po.how i=some 3↔(a'.bk i).aM=true
    rw[cF,hbk];by_cases bh:i=b
    ·simp [bh]
    ·rw[if_neg bh,if_neg bh];exact h.bd i hi (hne i bh lY)
   rem:=fun i hi lY=>by
    show po.how i=some 0
    rw[cF,if_neg (fun e=>hl (by rw[←e];exact lY))];exact h.rem i hi (List.mem_cons_of_mem _ lY)
   hf:=fun i hi lY e=>by
    show (a'.bk i).bY=false
    have e:(a'.bk i).aM=false:=e;rw[hbk] at e⊢;by_cases bh:i=b
    ·rw[if_pos bh] at e;cases e
    ·rw[if_neg bh] at e⊢;exact h.hf i hi (hne i bh lY) e
   cZ:=fun i hi lY e=>by
    have e:po.how i=some 0:=e;rw[cF] at e;rw[mw];by_cases bh:i=b
    ·rw[if_pos bh] at e;cases e
    ·rw[if_neg bh] at e⊢;exact h.cZ i hi (hne i bh lY) e
   gh:=fun i hi e=>by
    have e:po.how i=some 1:=e;rw[cF] at e;by_cases bh:i=b
    ·rw[if_pos bh] at e;cases e
    ·rw[if_neg bh] at e;show (a'.bk i).aM=false∧_
     rw[QA i bh];exact h.gh i hi e
   TF:=fun i hi e=>by show lA (vw g a') i;rw[qL];exact h.TF i hi e
   PU:=fun i hi e=>by
    have e:po.how i=some 2:=e;rw[cF] at e;by_cases bh:i=b
    ·rw[if_pos bh] at e;cases e
    ·rw[if_neg bh] at e;exact h.PU i hi e
   op:=fun e=>by
    obtain⟨h3,h4,h5⟩:=h.op e;refine⟨h3, ?_, ?_⟩
    ·show po.how _=_
     rw[cF,if_neg (QD e)];exact h4
    ·rw[mw,if_neg (QD e)];exact h5}
 ·right;rw[ho];have he:F8 s.a a' b (aD (s.a.bk b)):=he;refine⟨rfl,o2,⟨o1,yZ hlt o3 he.touG,fun cut=>.inl ?_⟩⟩;obtain⟨p1,p2,p3⟩:=h.cr.ph.Fj hb o3 he.touG cut;rcases p3 with p3|p3
  ·exact h.cr.wA p1 (fun i e=>by rw[p2];exact e) p3
  ·exact h.cr.DL hb hfl p1 p2 p3 hgd
end
section
variable {g:bW} {s:FS} {c:Nat→List UInt8} {ds:List Nat} {N:Nat} {a:Ar}
theorem Dk {sq:Int→Nat} {b nx:Nat}:∀(l:List Int) (o:Nat×Int),Km g sq b nx l o=o∨((Km g sq b nx l o).2=(b:Int)∧(nx:Int)<g.ay)
 |[],o=>.inl rfl
 |x::l,o=>by
  rw[Km];split
  ·rename_i h;rcases Dk (sq:=sq) (b:=b) (nx:=nx) l (sq x,(b:Int)) with e|e
   ·right;rw[e];exact⟨rfl,h.1⟩
   ·exact .inr e
  ·exact Dk l o
theorem Mn.loop (hg:g.In) {sq:Int→Nat}:∀(l:List Nat) (s:FS) (o:Nat×Int),(∀b∈l,b∈g.us)→l.Nodup→Mn g s c ds N l o→((fM g sq l s o).2.1=0∧Mn g (fM g sq l s o).1 c ds N [] (fM g sq l s o).2.2)∨((fM g sq l s o).2.1=9∧jP g (fM g sq l s o).1.a c c ds N)
 |[],s,o,_,_,h=>.inl ⟨rfl,h⟩
 |b::l,s,o,hl,hn,h=>by
  rw[List.nodup_cons] at hn;have hb:=hl b List.mem_cons_self;have Ge:∀b∈l,b∈g.us:=fun b hb=>hl b (List.mem_cons_of_mem _ hb)
  have e0:s.a.bs.getD b fj=s.a.bk b:=rfl;rw[fM,e0];by_cases hf:(s.a.bk b).aM=true
  ·rw[if_pos hf];exact Mn.loop hg l _ o Ge hn.2 (h.set hg hb hn.1 (.inr rfl) (by simp [hf]) (fun e=>by omega) (fun _=>.inr rfl))
  rw[if_neg hf];have hf':(s.a.bk b).aM=false:=by simpa using hf
  by_cases h0:s.next b=0
  ·rw[if_pos h0];exact Mn.loop hg l _ o Ge hn.2 (h.skip hb hn.1 hf' h0)
  rw[if_neg h0];by_cases hc:s.f.pm.dH b=0
  ·rw[if_pos hc];rcases h.yK hg hb hn.1 hf' hc with⟨e1,e2⟩|⟨e1,_,e2⟩
   ·rw[if_pos e1];exact Mn.loop hg l _ o Ge hn.2 e2
   ·rw[if_neg (by omega)];exact .inr ⟨e1,e2⟩
  ·rw[if_neg hc];refine Mn.loop hg l _ _ Ge hn.2 (h.set hg hb hn.1 (.inl rfl) (by simp [hf']) (fun _=>hc) (fun e=> ?_));rcases Dk (sq:=sq) (b:=b) (nx:=s.next b) (s.f.pm.on b) o with e1|⟨e1,e2⟩
   ·exact .inr e1
   ·exact .inl ⟨by rw[e1];simp,rfl,e2⟩
open Classical in
theorem Mn.rn {o:Nat×Int} (h:Mn g s c ds N [] o):Rn g s c ds N none where
 ok:=h.ok
 on:=h.on
 ee:=h.ee
 aN:=h.aN
 ep:=h.ep
 ph:=h.cr.ph
 gd:=h.cr.gd
 ct:=h.ct
 seq:=h.seq
 sn:=h.sn
 bd:=fun b hb=>h.bd b hb (by simp)
 hf:=fun b hb=>h.hf b hb (by simp)
 cZ:=fun b hb e _=>h.cZ b hb (by simp) e
 gh:=fun b hb e=>.inr (h.TF b hb (h.gh b hb e).2)
 j3:=fun b hb e=>absurd e (h.PU b hb)
 DN:=fun d v e=>by cases e
 Hg:=fun e=>absurd rfl e
 one:=by rw[h.Hq];omega
 sj:=by
  intro hle;have h4:=h.ok.NB;have h2:=h.Hq
  have e3:lh g s.a=s.f.po.count 3:=by
   rw[h.ok.dH 3]
   exact List.countP_congr fun b hb=>by
    have:=h.bd b hb (by simp);simp [this]
  have e1:s.f.po.count 1≤jO g s.a:=by
   rw[h.ok.dH 1];refine lj (fun b hb e=> ?_);have e:=of_decide_eq_true e;exact decide_eq_true ⟨(h.gh b hb e).1,h.TF b hb (h.gh b hb e).2⟩
  have:=h.cr.e (by omega);omega
theorem Rn.XU (h:Rn g s c ds N none) (hg:g.In) {b:Nat} (hb:b∈g.us) (zu:s.f.po.how b=some 1) (hp:(s.next b:Int)<g.ay) (h2:s.f.po.count 2=0):Rn g (s.bw b 2) c ds N none:=by
 have cj:=h.ok.bw hg hb (h:=2) (by omega);unfold FS.bw at cj⊢;have gi:s.f.po.set b 2=s.f.po.cd b 2:=fG (by rw[zu];simp) (.inr h2);simp only[gi] at cj⊢;have cF:=fun i=>fh (p:=s.f.po) (b:=b) (h:=2) i (h.ok.how hb)
 have ju:=fun k=>eD (p:=s.f.po) (b:=b) (h:=2) k zu
 have c2:=ju 2;have c3:=ju 3;have c0:=ju 0;simp only[if_true,show ((1:Nat)=3)=False from by simp,show ((2:Nat)=3)=False from by simp,show ((1:Nat)=2)=False from by simp,show ((2:Nat)=0)=False from by simp,show ((1:Nat)=0)=False from by simp,if_false] at c2 c3 c0
 exact {h with
  ok:=cj
  bd:=fun i hi=>by
   show (s.f.po.cd b 2).how i=some 3↔_
   rw[cF];by_cases bh:i=b
   ·rw[bh,if_pos rfl];have:=h.bd b hb;rw[zu] at this;simpa using this
   ·rw[if_neg bh];exact h.bd i hi
  cZ:=fun i hi e ht=>by
   have e:(s.f.po.cd b 2).how i=some 0:=e;rw[cF] at e;by_cases bh:i=b
   ·rw[if_pos bh] at e;cases e
   ·rw[if_neg bh] at e;exact h.cZ i hi e ht
  gh:=fun i hi e=>by
   have e:(s.f.po.cd b 2).how i=some 1:=e;rw[cF] at e;by_cases bh:i=b
   ·rw[if_pos bh] at e;cases e
   ·rw[if_neg bh] at e;exact h.gh i hi e
  j3:=fun i hi e=>by
   have e:(s.f.po.cd b 2).how i=some 2:=e;rw[cF] at e;by_cases bh:i=b
   ·right;right;show ((s.next i:Nat):Int)<_;rw[bh];exact hp
   ·rw[if_neg bh] at e;exact h.j3 i hi e
  DN:=fun d v e=>by cases e
  Hg:=fun e=>absurd rfl e
  one:=by show (s.f.po.cd b 2).count 2≤1;omega
  sj:=by
   show ((s.f.po.cd b 2).count 3:Int)≤g.aF→_≤(((s.f.po.cd b 2).count 0:Nat):Int)+((s.f.po.cd b 2).count 3:Nat)
   intro hle;have:=h.sj (by omega)
   omega}
theorem Jd:∀(l:List Fd) (m:Nat),m≤m7 m l∧∀f∈l,f.s.seq≤m7 m l
 |[],m=>⟨Nat.le_refl _,fun f hf=>by cases hf⟩
 |f::l,m=>by
  obtain⟨h1,h2⟩:=Jd l (max m f.s.seq);refine⟨Nat.le_trans (Nat.le_max_left _ _) h1,fun x hx=> ?_⟩;rcases List.mem_cons.1 hx with rfl|hx
  ·exact Nat.le_trans (Nat.le_max_right _ _) h1
  ·exact h2 x hx
theorem Cr.rd (h:Cr g a c ds N) (ho:a.off=false):a.rd g:=⟨ho,h.ph.n,h.ph.p,by rw[h.ph.p];exact h.ph.len,h.ph.d⟩
theorem Cr.TG (h:Cr g a c ds N) (x:Nat):(jq x (a.z8 g)=none∧∀b,∀f∈vw g a b,f.s.an≠x)∨∃f,jq x (a.z8 g)=some f∧f∈vw g a f.b∧¬ff (vw g a) f.b∧wH (vw g a) c x f:=by
 rw[TB];exact PG h.gd (nh g) Db x
theorem Cr.wW (h:Cr g a c ds N) (hg:g.In) (hc:0≤g.cap∧g.cap<65000) (ho:a.off=false) (hw:a.ee=.no) {ep:Nat} (he:1≤ep∧ep<281474976710656) (hf:a.aN≤ep):Mn g (FS.wW g a ep) c ds N g.us (0, -1):=by
 have hok:aW g (FS.wW g a ep):=Nv hg hc (h.rd ho) (fun x f hx=>by
  rcases h.TG x with⟨h1,_⟩|⟨f',h1,h2,_⟩
  ·rw[h1] at hx;cases hx
  ·rw[h1] at hx;cases hx;obtain⟨p1,_,_,p2,_,_,_,p3⟩:=n9 h2;have hlt:=h.ph.lt p1;have:=h.ph.len _ (js hlt);have:=hg.p
   exact⟨p3,ng p1,by omega⟩) he.2
 have zJ:∀x,(FS.wW g a ep).f.pm.at x=(jq x (a.z8 g)).map fun f=>(f.b,f.p):=fun x=>by
  show ((List.range (g.cap+1).toNat).map fun a'=>(jq a' (a.z8 g)).map fun f=>(f.b,f.p)).getD x none=_
  rw[List.getD_eq_getElem?_getD,List.getElem?_map];by_cases hx:x<(g.cap+1).toNat
  ·rw[List.getElem?_range hx];rfl
  ·rw[List.getElem?_eq_none (by simpa using hx)];rcases h.TG x with⟨h1,_⟩|⟨f,h1,h2,_,h3⟩
   ·rw[h1];rfl
   ·have:=(n9 h2).2.2.2.2.2.2.2;have:=h3.1;omega
 have YR:∀x,((FS.wW g a ep).f.pm.at x=none∧∀b,∀f∈vw g a b,f.s.an≠x)∨∃b p,(FS.wW g a ep).f.pm.at x=some (b,p)∧∃f∈vw g a b,f.p=p∧¬ff (vw g a) b∧wH (vw g a) c x f:=fun x=>by
  rw[zJ x];rcases h.TG x with⟨h1,h2⟩|⟨f,h1,h2,h3,h4⟩
  ·rw[h1];exact .inl ⟨rfl,h2⟩
  ·rw[h1];exact .inr ⟨f.b,f.p,rfl,f,h2,rfl,h3,h4⟩
 have hnew:∀b,(FS.wW g a ep).f.po.how b=if b∈g.us then some 0 else none:=fun b=>by
  show fk b (g.us.map fun b=>(b,0))=_
  induction g.us with
  |nil=>rfl
  |cons y l ih=>
   rw[List.map_cons,fk,ih];by_cases hy:y=b
   ·simp [hy]
   ·have:¬b=y:=fun e=>hy e.symm
    simp [hy,this]
 exact {
  ok:=hok,on:=ho,ee:=hw,aN:=hf,ep:=he,cr:=h
  ct:=fun x=>by
   rcases YR x with h1|⟨b,p,h1,f,h2,h3,_,h4⟩
   ·exact .inl h1
   ·exact .inr ⟨b,p,h1,f,h2,h3,h4⟩
  seq:=fun b f hf=>by
   have hb:=(n9 hf).1;have:f∈g.us.flatMap (a.fd g):=List.mem_flatMap.2 ⟨b,hb,by unfold vw at hf;rw[if_pos hb] at hf;exact hf⟩;exact(Jd (g.us.flatMap (a.fd g)) 0).2 f this
  sn:=Da _ _ (Nat.zero_le _) (fun f hf=>by
   obtain⟨b,hb,hf⟩:=List.mem_flatMap.1 hf
   exact h.seq b f (by unfold vw;rw[if_pos hb];exact hf))
  bd:=fun b hb hn=>absurd hb hn
  rem:=fun b hb _=>by rw[hnew,if_pos hb]
  hf:=fun b hb hn=>absurd hb hn
  cZ:=fun b hb hn=>absurd hb hn
  gh:=fun b hb e=>by rw[hnew,if_pos hb] at e;cases e
  TF:=fun b hb e=>by
   obtain⟨x,p,hx⟩:=wY e;rcases YR x with⟨h1,_⟩|⟨b',p',h1,f,h2,_,h3,_⟩
   ·rw[h1] at hx;cases hx
   ·rw[h1] at hx;cases hx
    exact Bb h3 (fun e=>by
     have e:vw g a b=[]:=e
     rw[e] at h2;cases h2)
  PU:=fun b hb e=>by rw[hnew,if_pos hb] at e;cases e
  op:=fun e=>by exact absurd e (by decide)}
theorem Cr.mount (h:Cr g a c ds N) (hg:g.In) (hc:0≤g.cap∧g.cap<65000) (ho:a.off=false) (hw:a.ee=.no) {ep:Nat} (he:1≤ep∧ep<281474976710656) (hf:a.aN≤ep) (sq:Int→Nat):((cu g sq a ep).2=0∧Rn g (cu g sq a ep).1 c ds N none)∨((cu g sq a ep).2=9∧jP g (cu g sq a ep).1.a c c ds N):=by
 have hm:=Mn.loop hg (sq:=sq) g.us _ _ (fun b hb=>hb) (nh g) (h.wW hg hc ho hw he hf);unfold cu;simp only;rcases hm with⟨e,hm⟩|⟨e,hm⟩
 ·rw[if_pos e];by_cases hop:0≤(fM g sq g.us (FS.wW g a ep) (0, -1)).2.2.2
  ·rw[if_pos hop];obtain⟨o1,o2,o3⟩:=hm.op hop;exact .inl ⟨rfl,hm.rn.XU hg o1 o2 o3 hm.Hq⟩
  ·rw[if_neg hop];exact .inl ⟨rfl,hm.rn⟩
 ·rw[if_neg (by omega)];exact .inr ⟨e,hm⟩
theorem Fl (hg:g.In) {sq:Int→Nat}:∀(l:List Nat) (s:FS) (o:Nat×Int),(∀b∈l,b∈g.us)→aW g s→Kp s (fM g sq l s o).1 0
 |[],s,o,hl,hok=>Kp.rfl s 0
 |b::l,s,o,hl,hok=>by
  have hb:=hl b List.mem_cons_self;have Ge:∀b∈l,b∈g.us:=fun b hb=>hl b (List.mem_cons_of_mem _ hb)
  have fQ:=hok.bw hg hb (h:=1) (by omega);have k1:=hok.Kw b 1;rw[fM];split
  ·exact((hok.Kw b 3).trans (Fl hg l _ o Ge (hok.bw hg hb (by omega)))).mono (by omega)
  split
  ·exact Fl hg l _ o Ge hok
  split
  ·have k2:=k1.trans (fQ.Hn b);split
   ·exact(k2.trans (Fl hg l _ o Ge (fQ.bC hg hb))).mono (by omega)
   ·exact k2.mono (by omega)
  ·exact(k1.trans (Fl hg l _ _ Ge fQ)).mono (by omega)
theorem Ky (hg:g.In) {sq:Int→Nat} {ep:Nat} (hok:aW g (FS.wW g a ep)):Kp (FS.wW g a ep) (cu g sq a ep).1 0:=by
 have k:=Fl hg (sq:=sq) g.us _ (0, -1) (fun b hb=>hb) hok;have cj:=yN hg (sq:=sq) g.us _ (0, -1) (fun b hb=>hb) hok (.inl (by decide));unfold cu;simp only;split
 ·split
  ·exact(k.trans (cj.1.Kw _ 2)).mono (by omega)
  ·exact k
 ·exact k
end
theorem w7:fA ej 89=some (138,3,40,fN 0 none 0 0 false):=by kernel_rfl
theorem Dl:jc (aZ ej 89)=true:=by kernel_rfl
theorem PV:aZ ej 3=some (.int .i64):=by kernel_rfl
theorem Dm:aY (fN 0 none 0 0 false):=jD (f137 0 none 0 0 false)
theorem zd (a:Int) (q:Oq) (n c:Nat) (b:Bool):(fN a q n c b).length=3:=rfl
abbrev PF (css:List (List V)):Prop:=Pr qI css
theorem NK {c:List V} (h:aI qI c=true):∃a q n cp b,c=fN a q n cp b:=by
 obtain⟨v1,r1,rfl,h1,h⟩:=mq h;obtain⟨v2,r2,rfl,h2,h⟩:=mq h;obtain⟨v3,r3,rfl,h3,h⟩:=mq h;obtain rfl:=CN h;obtain⟨a,rfl⟩:=EL h1;obtain⟨q,n,cp,rfl⟩:=z7 h2;obtain⟨b,rfl⟩:=CM h3;exact⟨a,q,n,cp,b,rfl⟩
theorem NL {c:List V} (h:aI qI c=true):u7 c=c:=by
 obtain⟨a,q,n,cp,b,rfl⟩:=NK h;rfl
theorem PF.oI {css:List (List V)} (h:PF css):pH 3 css:=Pr.oI h
section
variable {B:ag} {L:List bV} {H:ag} {K:V→ag→Prop} {id o len cap:Nat} {e:TypeId}
theorem TH {Kr:Am.St→Prop} {Ke:Nat→Am.St→Prop}:∀(k:Nat) (mid:List (List V)) (X Y:List V) (i:Nat) {H:ag},mid.length≤k→PF mid→X.length=o+i*3→i+mid.length≤len→len≤1000000→az B H (di id e (X++(mid.flatten++Y))::L)→(∀H',az B H' (di id e (X++(mid.reverse.flatten++Y))::L)→Ke 0 (St.mk (ab []) (ab []) H'))→lo 158 1 (St.mk (ab [(0,T.v (V.slice (some (id,o)) len cap)),(2,T.v (V.int .i64 (i:Int))),(3,T.v (V.int .i64 ((i:Int)+mid.length-1)))]) (ab []) H) Kr Ke:=by
 intro k
 induction k with
 |zero=>
  intro mid X Y i H hk hf hX hl hb h K;have:mid=[]:=List.eq_nil_of_length_eq_zero (by omega);subst this;rw[Ir];(try simp only[NQ]);have e1:¬(i:Int)<(i:Int)+(0:Nat)-1:=by omega
  simp only[List.length_nil,e1,decide_false,ai];exact K _ h
 |succ k ih=>
  intro mid X Y i H hk hf hX hl hb h K;rw[Ir];(try simp only[NQ])
  match mid,hk,hf,hl,h,K with
  |[],hk,hf,hl,h,K=>
   have e1:¬(i:Int)<(i:Int)+(0:Nat)-1:=by omega
   simp only[List.length_nil,e1,decide_false,ai];exact K _ h
  |[a],hk,hf,hl,h,K=>
   have e1:¬(i:Int)<(i:Int)+(1:Nat)-1:=by omega
   simp only[List.length_cons,List.length_nil,e1,decide_false,ai];exact K _ h
  |a::r1::rs,hk,hf,hl,h,K=>
   obtain⟨m',b,hm⟩:∃m' b,r1::rs=m'++[b]:=⟨_,_,(List.dropLast_concat_getLast (by simp)).symm⟩;have hml:rs.length+1=m'.length+1:=by have:=congrArg List.length hm;simpa using this
   rw[hm] at hf h K;have hlen:(a::r1::rs).length=m'.length+2:=by simp;omega
   rw[hlen] at hk hl⊢;have fa:=hf a (List.mem_cons_self ..);have fb:=hf b (by simp);have fm:PF m':=fun c hc=>hf c (by simp [hc])
   have la:a.length=3:=(eP fa).symm;have lb:b.length=3:=(eP fb).symm;have lm:m'.flatten.length=m'.length*3:=cy fm.oI;have e1:(i:Int)<(i:Int)+((m'.length+2:Nat):Int)-1:=by omega
   have e2:0≤(i:Int)+((m'.length+2:Nat):Int)-1:=by omega
   have e3:(i:Int)+((m'.length+2:Nat):Int)-1<(len:Int):=by omega
   have e4:0≤(i:Int):=by omega
   have e5:(i:Int)<(len:Int):=by omega
   have e6:((i:Int)+((m'.length+2:Nat):Int)-1).toNat=i+m'.length+1:=by omega
   have e7:IntKind.i64.wrap ((i:Int)+((m'.length+2:Nat):Int)-1-1)=((i+1:Nat):Int)+(m'.length:Nat)-1:=by rw[bn (by omega) (by omega)];omega
   have hg:=h.get;have s1:X++((a::(m'++[b])).flatten++Y)=(X++(a++m'.flatten))++(b++Y):=by simp
   have s2:X++((a::(m'++[b])).flatten++Y)=X++(a++(m'.flatten++(b++Y))):=by simp
   have Qt:=hg;rw[s1] at Qt;have HG:=hg;rw[s2] at HG;have o1:o+(i+m'.length+1)*3=(X++(a++m'.flatten)).length:=by simp only[List.length_append,hX,la,lm];omega
   have i1:=Ix Qt o1 lb.symm;have u1:=Iw Qt o1 lb.symm;have i2:=Ix HG hX.symm la.symm;have u2:=Iw HG hX.symm la.symm;have w2:=GU HG hX.symm la.symm;have h2:=h;rw[s2] at h2;have h3:=h2.iI hX.symm (vs:=b) (by rw[la,lb]);have s3:X++(b++(m'.flatten++(b++Y)))=(X++(b++m'.flatten))++(b++Y):=by simp
   rw[s3] at h3;have o3:o+(i+m'.length+1)*3=(X++(b++m'.flatten)).length:=by simp only[List.length_append,hX,lb,lm];omega
   have w3:=GU h3.get o3 lb.symm;have h4:=h3.iI o3 (vs:=a) (by rw[la,lb]);have s4:(X++(b++m'.flatten))++(a++Y)=(X++b)++(m'.flatten++(a++Y)):=by simp
   rw[s4] at h4;simp only[e1,e2,e3,e4,e5,e6,Int.toNat_natCast,decide_true,aq,Option.isSome_some,Option.getD_some,Bool.and_self,aA,i1,u1,i2,u2,w2,fa,fb,NL fa,NL fb,w3];rw[aJ (by omega),e7];refine ih m' (X++b) (a++Y) (i+1) (by omega) fm (by rw[List.length_append,hX,lb];omega) (by omega) hb h4 (fun H' h'=> ?_);refine K H' ?_;have s5:X++((a::(m'++[b])).reverse.flatten++Y)=(X++b)++(m'.reverse.flatten++(a++Y)):=by simp
   rw[s5];exact h'
theorem Hr {css:List (List V)} {X Y:List V} (hf:PF css) (hX:X.length=o) (hb:css.length≤1000000) (h:az B H (di id e (X++(css.flatten++Y))::L)) (k:∀H',az B H' (di id e (X++(css.reverse.flatten++Y))::L)→K (.tuple []) H'):cl 158 [.slice (some (id,o)) css.length cap] H K:=by
 rw[XE];(try simp only[NQ]);rw[bn (by omega) (by omega)]
 have:=TH (B:=B) (L:=L) (id:=id) (o:=o) (len:=css.length) (cap:=cap) (e:=e) (Kr:=fun S'=>K (V.tuple []) S'.3) (Ke:=fun j S'=>br (Nat.beq j 0) (K (V.tuple []) S'.3) False)
  css.length css X Y 0 (H:=H) (Nat.le_refl _) hf (by omega) (by omega) hb h (fun H' h'=>by simpa using k H' h')
 simpa using this
theorem PW {css:List (List V)} {X Y:List V} (hf:PF css) (hX:X.length=o) (hb:css.length≤1000000) (hc:css.length≤cap) {r:Nat} (hr:r≤css.length) (h:az B H (di id e (X++(css.flatten++Y))::L)) (k:∀H',az B H' (di id e (X++((css.drop r++css.take r).flatten++Y))::L)→K (.tuple []) H'):cl 152 [.slice (some (id,o)) css.length cap,.int .i64 (r:Int)] H K:=by
 have e1:0≤(r:Int):=by omega
 have e2:(r:Int)≤(cap:Int):=by omega
 have e3:r≤cap:=by omega
 have e4:(r:Int)≤(css.length:Int):=by omega
 have la:(css.take r).length=r:=by rw[List.length_take];omega
 have lb:(css.drop r).length=css.length-r:=List.length_drop;have fa:PF (css.take r):=fun c hc=>hf c (List.mem_of_mem_take hc)
 have fb:PF (css.drop r):=fun c hc=>hf c (List.mem_of_mem_drop hc)
 have lfa:(css.take r).flatten.length=r*3:=by rw[cy fa.oI,la]
 rw[XD];(try simp only[NQ]);simp only[e1,e2,e3,e4,hc,decide_true,Bool.and_self,Bool.true_and,Bool.or_false,lO,Int.toNat_natCast,aA,gr,Nat.sub_zero];have s1:X++(css.flatten++Y)=X++((css.take r).flatten++((css.drop r).flatten++Y)):=by rw[dE css r];simp
 rw[s1] at h;have g1:=fun K c=>Hr (K:=K) (cap:=c) fa hX (by omega) h
 rw[la] at g1;refine g1 _ _ (fun H1 h1=> ?_);have s2:X++((css.take r).reverse.flatten++((css.drop r).flatten++Y))=(X++(css.take r).reverse.flatten)++((css.drop r).flatten++Y):=by simp
 rw[s2] at h1;have lr:((css.take r).reverse.flatten).length=r*3:=by rw[cy (pH.rev fa.oI),List.length_reverse,la]
 have g2:=fun K c=>Hr (K:=K) (cap:=c) (o:=o+r*3) fb (by rw[List.length_append,hX,lr]) (by omega) h1
 rw[lb] at g2;refine g2 _ _ (fun H2 h2=> ?_)
 have fr:PF ((css.take r).reverse++(css.drop r).reverse):=by
  intro c hc;rcases List.mem_append.1 hc with hc|hc
  ·exact fa c (List.mem_reverse.1 hc)
  ·exact fb c (List.mem_reverse.1 hc)
 have s3:(X++(css.take r).reverse.flatten)++((css.drop r).reverse.flatten++Y)=X++(((css.take r).reverse++(css.drop r).reverse).flatten++Y):=by simp
 rw[s3] at h2;have lx:((css.take r).reverse++(css.drop r).reverse).length=css.length:=by simp;omega
 have g3:=fun K=>Hr (K:=K) (cap:=cap) fr hX (by omega) h2
 rw[lx] at g3;refine g3 _ (fun H3 h3=> ?_);have s4:((css.take r).reverse++(css.drop r).reverse).reverse=css.drop r++css.take r:=by simp
 rw[s4] at h3;exact k _ h3
theorem PX {css:List (List V)} {X Y:List V} (hf:PF css) (hX:X.length=o) (hb:css.length≤1000000) (hc:css.length≤cap) (hr:1≤css.length) (h:az B H (di id e (X++(css.flatten++Y))::L)) (k:∀H',az B H' (di id e (X++((css.drop (css.length-1)++css.take (css.length-1)).flatten++Y))::L)→K (.tuple []) H'):cl 147 [.slice (some (id,o)) css.length cap,.int .i64 1] H K:=by
 have e:IntKind.i64.wrap ((css.length:Int)-1)=((css.length-1:Nat):Int):=by rw[bn (by omega) (by omega)];omega
 rw[XC];(try simp only[NQ]);rw[e];exact PW hf hX hb hc (by omega) h k
end
theorem TJ (args:List V) (H:ag) (K:V→ag→Prop):iB ej 146 args H K=AO args H K:=by kernel_rfl
section
variable {B:ag} {L:List bV} {H:ag} {K:V→ag→Prop} {cap:Nat} {q:Oq} {css:List (List V)}
theorem Kz (h:az B H (Rw 138 3 q cap css::L)) {vid:Nat} {e2:TypeId} {c:List V} (hv:∀H,az B H L→H.get vid=some (.cells e2 c false)) (hf:PF css) (ZD:aI qI c=true) (hb:css.length≤1000) {i:Nat} (hi:i≤css.length) (hne:∀id off,q=some (id,off)→vid≠id) (k:∀q' c' H',az B H' (Rw 138 3 q' c' (css.take i++c::css.drop i)::L)→K (.slice q' (css.length+1) c') H'):cl 137 [.slice q css.length cap,.int .i64 (i:Int),.slice (some (vid,0)) 1 1] H K:=by
 have hle:=h.Tg;have hu:=hf.oI;have lc:c.length=3:=(eP ZD).symm;have oc:aY c:=jD ZD;have e1:0≤(i:Int):=by omega
 have Ve:(i:Int)≤(css.length:Int):=by omega
 have e3:¬((1:Nat):Int)=0:=by omega
 have hvg:=hv H h.drop;have hrv:Rd H (some (vid,0)) c:=.inr ⟨vid,0,e2,c,false,rfl,hvg,by rw[List.drop_zero,List.take_length]⟩;have w1:IntKind.i64.wrap ((css.length:Int)+((1:Nat):Int))=((css.length+1:Nat):Int):=by rw[bn (by omega) (by omega)];omega
 have w2:IntKind.i64.wrap ((i:Int)+((1:Nat):Int))=((i+1:Nat):Int):=by rw[bn (by omega) (by omega)];omega
 rw[XB];(try simp only[NQ]);simp only[e1,Ve,e3,hle,decide_true,decide_false,Bool.and_self,Bool.true_and,Bool.or_false,lO,aA,ai,aq,w1,w2,Int.toNat_natCast,gr,Nat.sub_zero];by_cases hin:i=css.length
 ·subst hin;rw[decide_eq_true rfl,aq];have hx:S6 H 3 (.slice (some (vid,0)) 1 1) 1 c:=⟨by rw[lc],oc,.inl ⟨_,_,rfl,hrv⟩⟩;refine h.append w7 Dl Dm rfl (by omega) hx (by omega) (fun q' c' H' h'=> ?_);have e:css.take css.length++c::css.drop css.length=css++[c]:=by simp
  rw[e] at k;refine k q' c' H' ?_;unfold Rw;rw[List.length_append,List.flatten_append];simpa using h'
 ·have hlt:i<css.length:=by omega
  have e4:¬(i:Int)=(css.length:Int):=by omega
  rw[decide_eq_false e4,ai];have fa:PF (css.take i):=fun c hc=>hf c (List.mem_of_mem_take hc)
  have fd:PF (css.drop i):=fun c hc=>hf c (List.mem_of_mem_drop hc)
  have la:(css.take i).flatten.length=i*3:=by rw[cy fa.oI,List.length_take,Nat.min_eq_left hi]
  have ld:(css.drop i).flatten.length=(css.length-i)*3:=by rw[cy fd.oI,List.length_drop]
  have YS:(css.take i++c::css.drop i).flatten=(css.take i).flatten++(c++(css.drop i).flatten):=by simp
  have hlen:(css.take i++c::css.drop i).length=css.length+1:=by simp;omega
  have ffin:PF (css.take i++c::css.drop i):=by
   intro x hx;rcases List.mem_append.1 hx with hx|hx
   ·exact fa x hx
   ·rcases List.mem_cons.1 hx with rfl|hx
    ·exact ZD
    ·exact fd x hx
  obtain⟨id,off,pre,post,rfl,hp,sF,hs⟩:=h.ME hu (by omega);have abB:=hne id off rfl;have hg:=hs.get
  have YT:Rd H (some (id,off+i*3)) (css.drop i).flatten:=by
   have hg':=hg;rw[dE css i,show pre++((css.take i).flatten++(css.drop i).flatten++post)=(pre++(css.take i).flatten)++((css.drop i).flatten++post) by simp] at hg';exact CO hg' (by rw[List.length_append,hp,la])
  have padd:∀m,bH (some (id,off)) m=some (id,off+m):=fun m=>rfl
  by_cases hroom:css.length+1≤cap
  ·have e5:¬((css.length+1:Nat):Int)>(cap:Int):=by omega
   have e6:0≤((css.length+1:Nat):Int):=by omega
   have e7:((css.length+1:Nat):Int)≤(cap:Int):=by omega
   have e8:0≤((i+1:Nat):Int):=by omega
   have e9:((i+1:Nat):Int)≤((css.length+1:Nat):Int):=by omega
   have RF:(i:Int)≤((css.length+1:Nat):Int):=by omega
   have YU:0≤(css.length:Int):=by omega
   have e12:(css.length:Int)≤((css.length+1:Nat):Int):=by omega
   rw[decide_eq_false e5,ai];simp only[e6,e7,e8,e9,hroom,decide_true,Bool.and_self,aA,padd];rw[TJ];refine⟨abB,by omega,by omega,⟨e2,c,hvg,by omega⟩,⟨_,_,_,hg⟩, ?_, ?_⟩
   ·
    simp only[gP,cD,Bool.not_true,ai,aA,YU,e12,hroom,decide_true,Bool.and_self]
    have hpost:3≤post.length:=by
     have:1*3≤(cap-css.length)*3:=Nat.mul_le_mul_right _ (by omega);omega
    have lcs:css.flatten.length=css.length*3:=cy hu
    have p4:=lV (n:=3) (k:=css.length+1-css.length) (o:=off+css.length*3) (ms:=1) (c:=1) (j:=1) hg hrv (by rw[show css.length+1-css.length=1 by omega];rfl) (by rw[lc]) oc (by omega)
     (by simp only[List.length_append];omega)
    rw[p4.1,p4.2,aA];have s1:pre++(css.flatten++post)=(pre++css.flatten)++(post.take 3++post.drop 3):=by rw[List.take_append_drop,List.append_assoc]
    rw[s1] at hs;have oH:=hs.iI (o:=off+css.length*3) (vs:=c) (by rw[List.length_append,hp,lcs]) (by rw[List.length_take,lc];omega)
    have fdc:PF (css.drop i++[c]):=by
     intro x hx;rcases List.mem_append.1 hx with hx|hx
     ·exact fd x hx
     ·rw[List.mem_singleton] at hx;subst hx;exact ZD
    have ldc:(css.drop i++[c]).length=css.length+1-i:=by simp;omega
    have s2:(pre++css.flatten)++(c++post.drop 3)=(pre++(css.take i).flatten)++((css.drop i++[c]).flatten++post.drop 3):=by rw[dE css i];simp
    rw[s2] at oH;have e13:i≤css.length+1:=by omega
    simp only[e1,RF,decide_true,Bool.and_self,aA];have YV:=fun K=>PX (K:=K) (cap:=cap-i) (o:=off+i*3) fdc (by rw[List.length_append,hp,la]) (by omega) (by omega) (by omega) oH
    rw[ldc] at YV;refine YV _ (fun H3 h3=> ?_);have ldd:css.length+1-i-1=(css.drop i).length:=by rw[List.length_drop];omega
    have s3:(css.drop i++[c]).drop (css.length+1-i-1)++(css.drop i++[c]).take (css.length+1-i-1)=c::css.drop i:=by
     rw[ldd,List.drop_left' rfl,List.take_left' rfl];rfl
    rw[s3,show (pre++(css.take i).flatten)++((c::css.drop i).flatten++post.drop 3)=pre++((css.take i++c::css.drop i).flatten++post.drop 3) by simp] at h3;have:=h3.EJ (cap:=cap) ffin.oI (by omega) (by rw[hlen,List.length_drop,Nat.sub_mul,Nat.add_mul];rw[Nat.sub_mul] at sF;omega);rw[hp] at this;exact k _ _ _ this
   ·simp only[gP,cD,Bool.not_false,aq,aA,e1,e8,e9,RF,hroom,decide_true,Bool.and_self]
    have hpost:3≤post.length:=by
     have:1*3≤(cap-css.length)*3:=Nat.mul_le_mul_right _ (by omega);omega
    have lcs:css.flatten.length=css.length*3:=cy hu
    have p4:=lV (n:=3) (k:=css.length+1-(i+1)) (o:=off+(i+1)*3) (ms:=css.length+1-i) (c:=cap-i) (j:=css.length-i) hg YT (by
     rw[show css.length+1-(i+1)=css.length-i by omega];exact Nat.min_eq_right (by omega)) ld (mT fd.oI) (by omega)
     (by simp only[List.length_append,lcs];have:(css.length-i)*3+i*3=css.length*3:=by rw[←Nat.add_mul];congr 1;omega
         omega)
    rw[p4.1,p4.2,aA];have ls:((css.drop i).flatten++post).length=((css.drop i).flatten).length+post.length:=List.length_append
    have s1:pre++(css.flatten++post)=(pre++((css.take i).flatten++((css.drop i).flatten++post).take 3))++((((css.drop i).flatten++post).drop 3).take ((css.length-i)*3)++post.drop 3):=by
     have a1:((css.drop i).flatten++post)=((css.drop i).flatten++post).take 3++((((css.drop i).flatten++post).drop 3).take ((css.length-i)*3)++(((css.drop i).flatten++post).drop 3).drop ((css.length-i)*3)):=by
      rw[List.take_append_drop,List.take_append_drop]
     have a2:(((css.drop i).flatten++post).drop 3).drop ((css.length-i)*3)=post.drop 3:=by
      rw[List.drop_drop,Nat.add_comm, ←ld, ←List.drop_drop,List.drop_left' rfl]
     rw[a2] at a1
     conv=>lhs;rw[dE css i,List.append_assoc,a1]
     simp only[List.append_assoc]
    rw[s1] at hs;have l3:(((css.drop i).flatten++post).take 3).length=3:=by rw[List.length_take];omega
    have oH:=hs.iI (o:=off+(i+1)*3) (vs:=(css.drop i).flatten) (by simp only[List.length_append,hp,la,l3];omega) (by rw[ld,List.length_take,List.length_drop];omega);have s2:(pre++((css.take i).flatten++((css.drop i).flatten++post).take 3))++((css.drop i).flatten++post.drop 3)=(pre++(css.take i).flatten)++(((css.drop i).flatten++post).take 3++((css.drop i).flatten++post.drop 3)):=by simp only[List.append_assoc]
    rw[s2] at oH;have QE:=hv _ oH.drop;have UB:Rd (H.store id (off+(i+1)*3) (css.drop i).flatten) (some (vid,0)) c:=.inr ⟨vid,0,e2,c,false,rfl,QE,by rw[List.drop_zero,List.take_length]⟩;have OI:=lV (n:=3) (k:=css.length+1-i) (o:=off+i*3) (ms:=1) (c:=1) (j:=1) oH.get UB (Nat.min_eq_left (by omega)) (by rw[lc]) oc (by omega) (by simp only[List.length_append,la,l3,hp];omega);rw[OI.1,OI.2,aA];have Ll:=oH.iI (o:=off+i*3) (vs:=c) (by rw[List.length_append,hp,la]) (by rw[l3,lc]);rw[show (pre++(css.take i).flatten)++(c++((css.drop i).flatten++post.drop 3))=pre++((css.take i++c::css.drop i).flatten++post.drop 3) by simp] at Ll;have:=Ll.EJ (cap:=cap) ffin.oI (by omega) (by rw[hlen,List.length_drop,Nat.sub_mul,Nat.add_mul];rw[Nat.sub_mul] at sF;omega);rw[hp] at this;exact k _ _ _ this
  ·have e5:((css.length+1:Nat):Int)>(cap:Int):=by omega
   have e6:(i:Int)≤(cap:Int):=by omega
   have e7:i≤cap:=by omega
   rw[decide_eq_true e5,aq];have w3:IntKind.i64.wrap (((css.length+1:Nat):Int)-(i:Int))=((css.length+1-i:Nat):Int):=by rw[bn (by omega) (by omega)];omega
   simp only[e6,e7,w3,decide_true,Bool.and_self,aA]
   have YW:Rd H (some (id,off)) (css.take i).flatten:=by
    have hg':=hg;rw[dE css i,show pre++((css.take i).flatten++(css.drop i).flatten++post)=pre++((css.take i).flatten++((css.drop i).flatten++post)) by simp] at hg';exact CO hg' hp.symm
   have hz:(gM (css.length+1-i) (fN 0 none 0 0 false)).length=(css.length+1-i)*3:=by rw[fL,zd]
   refine hs.J4 (u:=3) w7 Dm rfl (by omega) YW la (mT fa.oI) (MF PV (by omega) (by omega)) rfl rfl (by rw[show ew _ _=gM _ _ from rfl,Int.toNat_natCast];exact hz) (gk Dm _) (by omega) (by omega) (fun c' po sy UC oH=> ?_);simp only[show∀(n:Nat) (z:List V),ew n z=gM n z from fun _ _=>rfl,Int.toNat_natCast] at oH UC sy⊢;have hn2:i+(css.length+1-i)=css.length+1:=by omega
   simp only[hn2] at sy UC⊢;generalize Yg:gM (css.length+1-i) (fN 0 none 0 0 false)=zs at oH hz⊢;have YX:∀m,bH (some (H.next,0)) m=some (H.next,m):=fun m=>by simp [bH]
   have e8:(i:Int)≤((css.length+1:Nat):Int):=by omega
   have e9:0≤((i+1:Nat):Int):=by omega
   have RF:((i+1:Nat):Int)≤((css.length+1:Nat):Int):=by omega
   simp only[padd,YX,e1,Ve,e8,e9,RF,hle,sy,decide_true,Bool.and_self,aA];have QE:=hv _ oH.drop.drop;generalize hH2:ag.alloc H _=H2 at oH QE⊢;have UB:Rd H2 (some (vid,0)) c:=.inr ⟨vid,0,e2,c,false,rfl,QE,by rw[List.drop_zero,List.take_length]⟩;have p4:=lV (n:=3) (k:=css.length+1-i) (o:=i*3) (ms:=1) (c:=1) (j:=1) oH.get UB (Nat.min_eq_left (by omega)) (by rw[lc]) oc (by omega) (by simp only[List.length_append,la,hz];omega);rw[p4.1,p4.2,aA];have z3:(zs.take 3).length=3:=by rw[List.length_take,hz];omega
   rw[show (css.take i).flatten++(zs++po)=(css.take i).flatten++(zs.take 3++(zs.drop 3++po)) by rw[←List.append_assoc (zs.take 3),List.take_append_drop]] at oH;have Ll:=oH.iI (o:=i*3) (vs:=c) (by rw[la]) (by rw[z3,lc]);have hs4:=Ll.up 1;simp only[iT,iH] at hs4
   have UD:Rd (H2.store H.next (i*3) c) (some (id,off+i*3)) (css.drop i).flatten:=by
    have hg':=hs4.get;rw[dE css i,show pre++((css.take i).flatten++(css.drop i).flatten++post)=(pre++(css.take i).flatten)++((css.drop i).flatten++post) by simp] at hg';exact CO hg' (by rw[List.length_append,hp,la])
   have z4:(zs.drop 3).length=(css.length-i)*3:=by rw[List.length_drop,hz];omega
   have OI:=lV (n:=3) (k:=css.length+1-(i+1)) (o:=(i+1)*3) (ms:=css.length-i) (c:=cap-i) (j:=css.length-i) Ll.get UD (by
    rw[show css.length+1-(i+1)=css.length-i by omega];exact Nat.min_eq_left (by omega)) ld (mT fd.oI) (by omega) (by simp only[List.length_append,la,lc,z4];omega)
   rw[OI.1,OI.2,aA];rw[show (css.take i).flatten++(c++(zs.drop 3++po))=((css.take i).flatten++c)++(zs.drop 3++po) by simp] at Ll;have hs5:=Ll.iI (o:=(i+1)*3) (vs:=(css.drop i).flatten) (by rw[List.length_append,la,lc];omega) (by rw[z4,ld]);rw[show ((css.take i).flatten++c)++((css.drop i).flatten++po)=[]++((css.take i++c::css.drop i).flatten++po) by simp] at hs5;have hs6:=hs5.EJ (cap:=c') ffin.oI (by omega) (by rw[hlen,UC];exact Nat.le_refl _);have hs7:=(hs6.up 1).drop;exact k _ _ _ hs7
theorem KA (h:az B H (Rw 138 3 q cap css::L)) (hf:PF css) (hb:css.length≤1000) {i:Nat} (hi:i<css.length) (k:∀H',az B H' (Rw 138 3 q cap (css.eraseIdx i)::L)→K (.slice q (css.length-1) cap) H'):cl 121 [.slice q css.length cap,.int .i64 (i:Int),.int .i64 ((i+1:Nat):Int)] H K:=by
 have hle:=h.Tg;have hu:=hf.oI;rw[Xz];(try simp only[NQ]);have e1:0≤(css.length:Int):=by omega
 have e2:(css.length:Int)≤(cap:Int):=by omega
 have e3:0≤((i+1:Nat):Int):=by omega
 have e4:((i+1:Nat):Int)≤(css.length:Int):=by omega
 have e5:0≤(i:Int):=by omega
 have e6:(i:Int)≤((i+1:Nat):Int):=by omega
 have e7:i+1≤css.length:=by omega
 have e8:¬(i:Int)=((i+1:Nat):Int):=by omega
 have e9:(i:Int)≤(cap:Int):=by omega
 have RF:i≤cap:=by omega
 simp only[e1,e2,e3,e4,e5,e6,e7,e8,e9,RF,hle,decide_true,decide_false,Bool.and_self,Bool.true_and,Bool.or_false,lO,aA,ai,Int.toNat_natCast,gr,Nat.sub_zero];obtain⟨id,off,pre,post,rfl,hp,sF,hs⟩:=h.ME hu (by omega);have hg:=hs.get;have padd:∀m,bH (some (id,off)) m=some (id,off+m):=fun m=>rfl
 have fa:PF (css.take i):=fun c hc=>hf c (List.mem_of_mem_take hc)
 have fd:PF (css.drop (i+1)):=fun c hc=>hf c (List.mem_of_mem_drop hc)
 have la:(css.take i).flatten.length=i*3:=by rw[cy fa.oI,List.length_take,Nat.min_eq_left (by omega)]
 have ld:(css.drop (i+1)).flatten.length=(css.length-(i+1))*3:=by rw[cy fd.oI,List.length_drop]
 have lx:(css[i]).length=3:=(eP (hf _ (List.getElem_mem hi))).symm;have s0:css.flatten=(css.take i).flatten++(css[i]++(css.drop (i+1)).flatten):=by rw[dE css i,List.drop_eq_getElem_cons hi,List.flatten_cons]
 have hrd:Rd H (some (id,off+(i+1)*3)) (css.drop (i+1)).flatten:=by
  have hg':=hg;rw[s0,show pre++((css.take i).flatten++(css[i]++(css.drop (i+1)).flatten)++post)=(pre++((css.take i).flatten++css[i]))++((css.drop (i+1)).flatten++post) by simp] at hg';exact CO hg' (by simp only[List.length_append,hp,la,lx];omega)
 have hn:css.length-(i+1)+(i+1)=css.length:=by omega
 have hx:S6 H 3 (.slice (some (id,off+(i+1)*3)) (css.length-(i+1)) (cap-(i+1))) (css.length-(i+1)) (css.drop (i+1)).flatten:=⟨ld,mT fd.oI,.inl ⟨_,_,rfl,hrd⟩⟩;have lcs:css.flatten.length=css.length*3:=cy hu;simp only[padd]
 refine J5 w7 Dl (by omega) hg hx (by omega) (by simp only[List.length_append,lcs];have:(css.length-(i+1))*3+i*3≤css.length*3:=by rw[←Nat.add_mul];exact Nat.mul_le_mul_right _ (by omega)
                                                 omega) ?_
 have hm:i+(css.length-(i+1))=css.length-1:=by omega
 have YU:0≤((css.length-1:Nat):Int):=by omega
 have e12:((css.length-1:Nat):Int)≤(css.length:Int):=by omega
 have U9:css.length-(css.length-1)=1:=by omega
 have DB:Nat.beq 1 0=false:=rfl;simp only[hm,e1,e2,YU,e12,hle,U9,DB,decide_true,Bool.and_self,aA,padd,Option.isNone_some,Bool.false_or,Bool.or_self,Option.getD_some,cond_false];have s1:((css.drop i).flatten).length=(css.length-i)*3:=by rw[cy (pH.drop hu i),List.length_drop]
 have YY:css.flatten=(css.take i).flatten++(((css.drop i).flatten).take ((css.length-(i+1))*3)++((css.drop i).flatten).drop ((css.length-(i+1))*3)):=by
  rw[List.take_append_drop, ←dE]
 have l2:(((css.drop i).flatten).take ((css.length-(i+1))*3)).length=(css.length-(i+1))*3:=by rw[List.length_take,s1];omega
 have l3:(((css.drop i).flatten).drop ((css.length-(i+1))*3)).length=3:=by rw[List.length_drop,s1];omega
 rw[show pre++(css.flatten++post)=(pre++(css.take i).flatten)++(((css.drop i).flatten).take ((css.length-(i+1))*3)++(((css.drop i).flatten).drop ((css.length-(i+1))*3)++post)) by
  conv=>lhs;rw[YY]
  simp only[List.append_assoc]] at hs
 have oH:=hs.iI (o:=off+i*3) (vs:=(css.drop (i+1)).flatten) (by rw[List.length_append,hp,la]) (by rw[l2,ld])
 rw[show (pre++(css.take i).flatten)++((css.drop (i+1)).flatten++(((css.drop i).flatten).drop ((css.length-(i+1))*3)++post))=
  (pre++((css.take i).flatten++(css.drop (i+1)).flatten))++(((css.drop i).flatten).drop ((css.length-(i+1))*3)++post) by simp] at oH
 have ho:off+(css.length-1)*3=(pre++((css.take i).flatten++(css.drop (i+1)).flatten)).length:=by
  simp only[List.length_append,hp,la,ld];have:(css.length-1)*3=i*3+(css.length-(i+1))*3:=by rw[←Nat.add_mul];congr 1;omega
  omega
 rw[GU oH.get ho (by rw[l3]),aA];have hrow:ew 1 (fN 0 none 0 0 false)=fN 0 none 0 0 false:=by show _++[]=_;rw[List.append_nil]
 rw[hrow];have Ll:=oH.iI ho (vs:=fN 0 none 0 0 false) (by rw[l3,zd]);have he:css.eraseIdx i=css.take i++css.drop (i+1):=List.eraseIdx_eq_take_drop_succ css i;rw[show (pre++((css.take i).flatten++(css.drop (i+1)).flatten))++(fN 0 none 0 0 false++post)=pre++((css.eraseIdx i).flatten++(fN 0 none 0 0 false++post)) by rw[he];simp] at Ll;have abC:(css.eraseIdx i).length=css.length-1:=by rw[List.length_eraseIdx,if_pos hi]
 have fe:PF (css.eraseIdx i):=fun c hc=>hf c (List.mem_of_mem_eraseIdx hc)
 have:=Ll.EJ (cap:=cap) fe.oI (by omega) (by
  rw[abC,List.length_append,zd]
  have:(cap-(css.length-1))*3=(cap-css.length)*3+3:=by
   rw[show cap-(css.length-1)=cap-css.length+1 by omega,Nat.add_mul]
  omega)
 rw[hp] at this;exact k _ this
end
structure Pg where
 an:Int
 data:List UInt8
 bZ:Bool
structure Rp where
 p:Pg
 q:Oq
 c:Nat
def Rp.cs (r:Rp):List V:=fN r.p.an r.q r.p.data.length r.c r.p.bZ
def Rp.bR (r:Rp):bV:=BY r.q r.c r.p.data
theorem Rp.aI (r:Rp):aI qI r.cs=true:=rfl
theorem uk (rs:List Rp):PF (rs.map Rp.cs):=by
 intro c hc;obtain⟨r,_,rfl⟩:=List.mem_map.1 hc;exact r.aI
def Dn (rs:List Rp) (a:Int) (k:Nat):Int:=match rs[k]? with
 |some r=>IntKind.i64.wrap (r.p.an-a)
 |none=>0
theorem qz {rs:List Rp} {a:Int} {k:Nat} (h:k<rs.length):Dn rs a k=IntKind.i64.wrap (rs[k].p.an-a):=by
 unfold Dn;rw[List.getElem?_eq_getElem h]
def Je (rs:List Rp) (a:Int) (i:Nat):Prop:=i≤rs.length∧(i=0∨Dn rs a (i-1)<0)∧(i=rs.length∨¬Dn rs a i<0)
section
variable {B:ag} {L:List bV} {H:ag} {K:V→ag→Prop} {cap:Nat} {q:Oq} {rs:List Rp} {a:Int}
theorem Br (args:List V) (H:ag) (K:V→ag→Prop):kI ej (qO ej) (.func 136 []) args H K=cl 136 (args++[]) H K:=by kernel_rfl
theorem ku (hr:Rd H q (rs.map Rp.cs).flatten) {i:Nat} (hi:i<rs.length):q.isSome=true∧H.inb (q.getD (0,0)).1 ((q.getD (0,0)).2+i*3) 3=true∧H.sub (q.getD (0,0)).1 ((q.getD (0,0)).2+i*3) 3=rs[i].cs:=by
 have:=yu hr (uk rs).oI (by omega) (i:=i) (by simpa using hi);simpa using this
theorem KB (hr:Rd H q (rs.map Rp.cs).flatten) (hb:rs.length≤1000) {Kr:Am.St→Prop} {Ke:Nat→Am.St→Prop} (k:∀i,Je rs a i→Ke 0 (St.mk (ab [(0,T.v (V.slice q rs.length cap)),(1,T.v (V.int .i64 a)),(2,T.v (V.func 136 [])),(8,T.v (V.int .i64 (rs.length:Int))),(9,T.v (V.int .i64 (i:Int)))]) (ab []) H)):∀(n i j:Nat),j-i≤n→i≤j→j≤rs.length→(i=0∨Dn rs a (i-1)<0)→(j=rs.length∨¬Dn rs a j<0)→lo 135 3 (St.mk (ab [(0,T.v (V.slice q rs.length cap)),(1,T.v (V.int .i64 a)),(2,T.v (V.func 136 [])),(8,T.v (V.int .i64 (rs.length:Int))),(9,T.v (V.int .i64 (i:Int))),(10,T.v (V.int .i64 (j:Int)))]) (ab []) H) Kr Ke:=by
 intro n
 induction n with
 |zero=>
  intro i j hn hij hj h1 h2;obtain rfl:i=j:=by omega
  rw[Iq];(try simp only[NQ]);have e1:¬(i:Int)<(i:Int):=by omega
  rw[decide_eq_false e1,ai];exact k i ⟨hj,h1,h2⟩
 |succ n ih=>
  intro i j hn hij hj h1 h2;rw[Iq];(try simp only[NQ]);by_cases hlt:i<j
  ·have e1:(i:Int)<(j:Int):=by omega
   have em:IntKind.i64.wrap (Int.fdiv (IntKind.u64.wrap (IntKind.i64.wrap ((i:Int)+(j:Int)))) 2)=(((i+j) / 2:Nat):Int):=by
    rw[bn (x:=(i:Int)+(j:Int)) (by omega) (by omega),IntWalk.u64_in _ (by omega),Int.fdiv_eq_ediv_of_nonneg _ (by omega),bn (by omega) (by omega)];omega
   generalize hm:(i+j) / 2=m at em;have Ry:i≤m:=by omega
   have hm2:m<j:=by omega
   obtain⟨r1,r2,r3⟩:=ku hr (i:=m) (by omega);have e2:0≤(m:Int):=by omega
   have e3:(m:Int)<(rs.length:Int):=by omega
   have ho:u7 rs[m].cs=rs[m].cs:=rfl;simp only[e1,em,e2,e3,Int.toNat_natCast,decide_true,aq,r1,r2,r3,Bool.and_self,aA,Rp.aI,ho,Br,List.append_nil];unfold Rp.cs;rw[QS];(try simp only[NQ]);have hc:=qz (a:=a) (show m<rs.length by omega);simp only[eT,bK,aA, ←hc];rw[bn (x:=(m:Int)+1) (by omega) (by omega)];by_cases hneg:Dn rs a m<0
   ·rw[decide_eq_true hneg,aq];have:=ih (m+1) j (by omega) (by omega) hj (.inr (by simpa using hneg)) h2;simpa using this
   ·rw[decide_eq_false hneg,ai];exact ih i m (by omega) Ry (by omega) h1 (.inr hneg)
  ·obtain rfl:i=j:=by omega
   have e1:¬(i:Int)<(i:Int):=by omega
   rw[decide_eq_false e1,ai];exact k i ⟨hj,h1,h2⟩
def so (rs:List Rp) (a:Int) (i:Nat):Bool:=decide (i<rs.length)&&decide (Dn rs a i=0)
theorem KC (hr:Rd H q (rs.map Rp.cs).flatten) (hb:rs.length≤1000) (k:∀i,Je rs a i→K (.tuple [.int .i64 (i:Int),.bool (so rs a i)]) H):cl 135 [.slice q rs.length cap,.int .i64 a,.func 136 []] H K:=by
 rw[XA];(try simp only[NQ]);refine KB hr hb (fun i hi=> ?_) rs.length 0 rs.length (by omega) (by omega) (Nat.le_refl _) (.inl rfl) (.inl rfl);have hk:=k i hi;unfold so at hk;have ek:V.aw bX.func (V.func 136 [])=true:=rfl;simp only[AK,reduceIte,Nat.reduceEqDiff,ek];by_cases hlt:i<rs.length
 ·have e1:(i:Int)<(rs.length:Int):=by omega
  obtain⟨r1,r2,r3⟩:=ku hr (i:=i) (by omega);have e2:0≤(i:Int):=by omega
  have ho:u7 rs[i].cs=rs[i].cs:=rfl;simp only[e1,e2,Int.toNat_natCast,decide_true,aq,r1,r2,r3,Bool.and_self,aA,Rp.aI,ho,Br,List.append_nil];unfold Rp.cs;rw[QS];(try simp only[NQ]);have hc:=qz (a:=a) (show i<rs.length by omega);simp only[eT,bK,aA, ←hc];rw[decide_eq_true hlt,Bool.true_and] at hk;exact hk
 ·have e1:¬(i:Int)<(rs.length:Int):=by omega
  rw[decide_eq_false hlt,Bool.false_and] at hk;simp only[e1,decide_false,ai];exact hk
theorem NM {id:Nat} (hg:H.get id=some (.cells 91 [.slice q rs.length cap] false)) (hr:Rd H q (rs.map Rp.cs).flatten) (hb:rs.length≤1000) (k:∀i,Je rs a i→K (.tuple [.int .i64 (i:Int),.bool (so rs a i)]) H):cl 111 [.ak (some (id,0)),.int .i64 a] H K:=by
 rw[Xx];(try simp only[NQ]);have e1:Nat.ble (0+1) [V.slice q rs.length cap].length=true:=rfl;simp only[Option.isSome_some,Option.getD_some,aA,dP hg,aX hg,e1,fT,dD,cv,bU,cw,Bool.and_self];refine KC hr hb (fun i hi=> ?_);simp only[AK,reduceIte,Nat.reduceEqDiff];exact k i hi
def sr (q:Oq) (cap:Nat) (ps:List Pg):bV:=
 JW fun rs:List Rp=>mS (HU (rs.map Rp.p=ps)) (mS (Rw 138 3 q cap (rs.map Rp.cs)) (bo (rs.map Rp.bR)))
theorem az.ay {ps:List Pg} (h:az B H (sr q cap ps::L)):∃rs:List Rp,rs.map Rp.p=ps∧az B H (Rw 138 3 q cap (rs.map Rp.cs)::bo (rs.map Rp.bR)::L):=by
 obtain⟨rs,h⟩:=h.S9;obtain⟨h1,h⟩:=h.mS.HU;exact⟨rs,h1,h.mS⟩
theorem az.Jf (h:az B H (Rw 138 3 q cap (rs.map Rp.cs)::bo (rs.map Rp.bR)::L)):az B H (sr q cap (rs.map Rp.p)::L):=
 az.intro (A:=fun rs':List Rp=>mS (HU (rs'.map Rp.p=rs.map Rp.p)) (mS (Rw 138 3 q cap (rs'.map Rp.cs)) (bo (rs'.map Rp.bR)))) (h.vd.pure rfl).vd
def dY (id:Nat) (ps:List Pg):bV:=JW fun q=>JW fun cap=>mS (di id 91 [.slice q ps.length cap]) (sr q cap ps)
theorem az.np {id:Nat} {ps:List Pg} (h:az B H (dY id ps::L)):∃(rs:List Rp) (q:Oq) (cap:Nat),rs.map Rp.p=ps∧az B H (di id 91 [.slice q rs.length cap]::Rw 138 3 q cap (rs.map Rp.cs)::bo (rs.map Rp.bR)::L):=by
 obtain⟨q,h⟩:=h.S9;obtain⟨cap,h⟩:=h.S9;have h:=h.mS.swap;obtain⟨rs,rfl,h⟩:=az.ay h;have h2:=h.up 2;simp only[iT,iH,List.length_map] at h2;exact⟨rs,q,cap,rfl,h2⟩
theorem az.qA {id:Nat} (h:az B H (di id 91 [.slice q rs.length cap]::Rw 138 3 q cap (rs.map Rp.cs)::bo (rs.map Rp.bR)::L)):az B H (dY id (rs.map Rp.p)::L):=by
 have h2:az B H (Rw 138 3 q cap (rs.map Rp.cs)::bo (rs.map Rp.bR)::di id 91 [.slice q rs.length cap]::L):=by
  exact(h.up 1).vc (by simp only[iT,iH];exact(List.Perm.refl _).cons _ |>.trans ((List.Perm.swap ..).cons _))
 have h3:=(az.Jf h2).swap;have h4:=h3.vd;refine az.intro (A:=fun q=>JW fun cap=>mS (di id 91 [.slice q (rs.map Rp.p).length cap]) (sr q cap (rs.map Rp.p))) (x:=q) ?_;refine az.intro (A:=fun cap=>mS (di id 91 [.slice q (rs.map Rp.p).length cap]) (sr q cap (rs.map Rp.p))) (x:=cap) ?_;simpa using h4
end
def bM:List Pg→Int→Nat
 |[],_=>0
 |p::l,a=>if p.an<a then bM l a+1 else 0
def gw (ps:List Pg) (a:Int):Bool:=ps.any fun p=>decide (p.an=a)
structure eV (ps:List Pg):Prop where
 up:ps.Pairwise fun x y=>x.an<y.an
 lo:∀p∈ps,0≤p.an∧p.an≤65535
 dl:∀p∈ps,p.data.length≤64
theorem w8:∀(ps:List Pg) (a:Int),bM ps a≤ps.length
 |[],_=>Nat.le_refl _
 |p::l,a=>by
  unfold bM;split
  ·have:=w8 l a;simp;omega
  ·exact Nat.zero_le _
theorem w9:∀{ps:List Pg} {a:Int} {i:Nat} (h:i<ps.length),i<bM ps a→(ps[i]).an<a
 |p::l,a,0,_,h=>by
  unfold bM at h;split at h
  ·assumption
  ·omega
 |p::l,a,i+1,hl,h=>by
  unfold bM at h;split at h
  ·exact w9 (ps:=l) (Nat.lt_of_succ_lt_succ hl) (by omega)
  ·omega
theorem xb:∀{ps:List Pg} {a:Int} (hs:ps.Pairwise fun x y=>x.an<y.an) {i:Nat} (h:i<ps.length),bM ps a≤i→a≤(ps[i]).an
 |p::l,a,hs,0,_,h=>by
  unfold bM at h;split at h
  ·omega
  ·rename_i hn;simpa using hn
 |p::l,a,hs,i+1,hl,h=>by
  obtain⟨h1,h2⟩:=List.pairwise_cons.1 hs;unfold bM at h;split at h
  ·exact xb h2 (i:=i) (Nat.lt_of_succ_lt_succ hl) (by omega)
  ·rename_i hn;have:=h1 _ (List.getElem_mem (Nat.lt_of_succ_lt_succ hl));simp only[List.getElem_cons_succ];omega
theorem KD {ps:List Pg} {a:Int} (hs:ps.Pairwise fun x y=>x.an<y.an) {i:Nat} (hi:i≤ps.length) (h1:∀h:0<i,(ps[i-1]'(by omega)).an<a) (h2:∀h:i<ps.length,a≤(ps[i]).an):i=bM ps a:=by
 have hle:=w8 ps a;rcases Nat.lt_trichotomy i (bM ps a) with h|h|h
 ·have:=w9 (ps:=ps) (a:=a) (i:=i) (by omega) h;have:=h2 (by omega);omega
 ·exact h
 ·have:=xb (a:=a) hs (i:=i-1) (by omega) (by omega);have:=h1 (by omega);omega
theorem nq {ps:List Pg} {a:Int} (hs:ps.Pairwise fun x y=>x.an<y.an):gw ps a=true↔∃h:bM ps a<ps.length,(ps[bM ps a]).an=a:=by
 unfold gw;rw[List.any_eq_true];constructor
 ·rintro⟨p,hp,he⟩;have he:p.an=a:=by simpa using he
  obtain⟨j,hj,rfl⟩:=List.getElem_of_mem hp
  have:bM ps a=j:=by
   rcases Nat.lt_trichotomy j (bM ps a) with h|h|h
   ·have:=w9 (ps:=ps) (a:=a) (i:=j) hj h;omega
   ·exact h.symm
   ·have h3:=xb (a:=a) hs (i:=bM ps a) (by omega) (Nat.le_refl _);have h4:=(List.pairwise_iff_getElem.1 hs) (bM ps a) j (by omega) hj h;omega
  subst this;exact⟨hj,he⟩
 ·rintro⟨h,he⟩;exact⟨_,List.getElem_mem h,by simpa using he⟩
theorem ss {rs:List Rp} {ps:List Pg} (he:rs.map Rp.p=ps) (hs:eV ps) {a:Int} (ha: -9223372036854775808≤a∧a≤9223372036854775807) {i:Nat} (hi:Je rs a i):so rs a i=gw ps a∧(0≤a∧a≤1000000→i=bM ps a)∧(gw ps a=true→i=bM ps a):=by
 subst he;obtain⟨h1,h2,h3⟩:=hi;have hl:(rs.map Rp.p).length=rs.length:=List.length_map _
 have hr:∀k (hk:k<rs.length),0≤rs[k].p.an∧rs[k].p.an≤65535:=fun k hk=>hs.lo _ (by
  rw[List.mem_map];exact⟨_,List.getElem_mem hk,rfl⟩)
 have iV:0≤a∧a≤1000000→i=bM (rs.map Rp.p) a:=by
  intro Ah;refine KD hs.up (by omega) (fun h0=> ?_) (fun hlt=> ?_)
  ·rcases h2 with h2|h2
   ·omega
   ·rw[qz (by omega)] at h2;have:=hr (i-1) (by omega);rw[bn (by omega) (by omega)] at h2;simp only[List.getElem_map];omega
  ·rw[hl] at hlt;rcases h3 with h3|h3
   ·omega
   ·rw[qz (by omega)] at h3;have:=hr i (by omega);rw[bn (by omega) (by omega)] at h3;simp only[List.getElem_map];omega
 have UE:gw (rs.map Rp.p) a=true→0≤a∧a≤65535:=by
  intro h;unfold gw at h;rw[List.any_eq_true] at h;obtain⟨p,hp,he⟩:=h;have he:p.an=a:=by simpa using he
  have:=hs.lo p hp;omega
 have hiff:so rs a i=true↔gw (rs.map Rp.p) a=true:=by
  unfold so;constructor
  ·intro h;rw[Bool.and_eq_true] at h;have hlt:i<rs.length:=by simpa using h.1
   have h0:Dn rs a i=0:=by simpa using h.2
   rw[qz hlt] at h0;have hr':=hr i hlt
   have he:rs[i].p.an=a:=by
    rw[IntKind.wrap_i64] at h0;omega
   unfold gw;rw[List.any_eq_true];exact⟨rs[i].p,by rw[List.mem_map];exact⟨_,List.getElem_mem hlt,rfl⟩,by simpa using he⟩
  ·intro h;obtain⟨r1,r2⟩:=UE h;have hp:=iV ⟨r1,by omega⟩;obtain⟨g1,g2⟩:=(nq hs.up).1 h;rw[hl] at g1;have g2:(rs[bM (rs.map Rp.p) a]).p.an=a:=by simpa using g2
   rw[hp,decide_eq_true g1,qz g1,g2];have:IntKind.i64.wrap (a-a)=0:=by rw[bn (by omega) (by omega)];omega
   rw[this];rfl
 refine⟨?_,iV,fun h=>iV ⟨(UE h).1,by have:=(UE h).2;omega⟩⟩;cases hf:so rs a i<;>cases hh:gw (rs.map Rp.p) a<;>simp_all
def Pg.put (p:Pg):Pg:=⟨p.an,if p.bZ=true then [] else p.data,p.bZ⟩
def iU (ps:List Pg) (p:Pg):List Pg×Int:=
 if p.an<0∨p.an≥65536 then (ps,1) else if p.data.length>64 then (ps,2) else
 if gw ps p.an=true then (ps.set (bM ps p.an) p.put,0) else if ps.length≥8 then (ps,11) else
 (ps.take (bM ps p.an)++p.put::ps.drop (bM ps p.an),0)
def gx (ps:List Pg) (a:Int):List Pg:=if gw ps a=true then ps.eraseIdx (bM ps a) else ps
section
variable {B:ag} {L:List bV} {H:ag} {K:V→ag→Prop} {cap:Nat} {q:Oq} {id:Nat} {ps:List Pg}
theorem TK (h:az B H (dY id ps::L)):cl 53 [.ak (some (id,0))] H K=K (.int .i64 (ps.length:Int)) H:=by
 obtain⟨rs,q,cap,rfl,h2⟩:=az.np h;have hg:=h2.get;rw[aa1];(try simp only[NQ]);have e1:Nat.ble (0+1) [V.slice q rs.length cap].length=true:=rfl;simp only[Option.isNone_some,Option.isSome_some,Option.getD_some,ai,aA,dP hg,aX hg,e1,fT,dD,bU,Bool.and_self,List.length_map]
theorem NN (h:az B H (dY id ps::L)) (hs:eV ps) (hl:ps.length≤8) (p:Pg) (ha: -9223372036854775808≤p.an∧p.an≤9223372036854775807) (hr:p.data.length≤64→lz H q p.data) (k:∀H',az B H' (dY id (iU ps p).1::L)→K (.int .i64 (iU ps p).2) H'):cl 112 [.ak (some (id,0)),.agg (fN p.an q p.data.length cap p.bZ)] H K:=by
 rw[Xy];(try simp only[NQ]);unfold iU at k;rw[Option.isNone_some,ai];by_cases h1:p.an<0∨p.an≥65536
 ·rw[if_pos h1] at k
  have e:(bif !decide (p.an<0) then decide (p.an≥65536) else true)=true:=by
   rcases h1 with h1|h1
   ·simp [h1]
   ·have:¬p.an<0:=by omega
    simp [h1]
  rw[e,aq];exact k H h
 ·rw[if_neg h1] at k
  have e:(bif !decide (p.an<0) then decide (p.an≥65536) else true)=false:=by
   have a1:¬p.an<0:=by omega
   have a2:¬p.an≥65536:=by omega
   simp [a1,a2]
  rw[e,ai];by_cases h2:p.data.length>64
  ·rw[if_pos h2] at k;have e2:((p.data.length:Nat):Int)>64:=by omega
   rw[decide_eq_true e2,aq];exact k H h
  ·rw[if_neg h2] at k;have e2:¬((p.data.length:Nat):Int)>64:=by omega
   rw[decide_eq_false e2,ai];refine jK h (hr (by omega)) (by omega) (fun q1 c1 H1 wi=> ?_);simp only[dD,aA,cv,bU,cw];refine MG (fun S' hS=> ?_)
   obtain⟨r,hrp,hS,UF⟩:∃r:Rp,r.p=p.put∧S'=St.mk (ab []) (ab [(3,aV.cells 138 r.cs)]) H1∧az B H1 (r.bR::dY id ps::L):=by
    rcases hS with⟨hh,rfl⟩|⟨hh,rfl⟩
    ·refine⟨⟨p.put,none,0⟩,rfl, ?_, ?_⟩
     ·unfold Rp.cs Pg.put;simp [hh]
     ·have:=jW wi.drop;unfold Rp.bR Pg.put;simpa [hh] using this
    ·refine⟨⟨p.put,q1,c1⟩,rfl, ?_, ?_⟩
     ·unfold Rp.cs Pg.put;simp [hh]
     ·unfold Rp.bR Pg.put;simpa [hh] using wi
   subst hS;have hra:r.p.an=p.an:=by rw[hrp];rfl
   obtain⟨rs,qc,cc,rfl,hcs⟩:=az.np UF.swap;rw[List.length_map] at hl;have hg:=hcs.get;have hrd:=(hcs.up 1).wB;have hfx:ae r.cs 0=.int .i64 p.an:=by rw[←hra];rfl
   have e3:ef 138 qI (some (aV.cells 138 r.cs))=true:=rfl;simp only[ik,reduceIte,e3,hY,hfx,bK,Bool.or_false,aA];refine NM hg hrd (by omega) (fun i hi=> ?_);obtain⟨f1,f2,f3⟩:=ss rfl hs ha hi;have f2:=f2 ⟨by omega,by omega⟩;subst f2;rw[f1];have zt:=w8 (rs.map Rp.p) p.an;rw[List.length_map] at zt;have e4:Nat.ble (0+1) [V.slice qc rs.length cc].length=true:=rfl;have eo:u7 r.cs=r.cs:=rfl;simp only[AK,reduceIte,Nat.reduceEqDiff,Option.isSome_some,Option.getD_some,dP hg,aX hg,e4,eo];cases hf:gw (rs.map Rp.p) p.an
   ·rw[hf,if_neg (by simp)] at k;simp only[ai];by_cases h8:rs.length≥8
    ·rw[if_pos (by simpa using h8)] at k;have e5:((rs.length:Nat):Int)≥8:=by omega
     simp only[e5,decide_true,aq];refine k H1 ?_;exact(az.qA hcs).swap.drop
    ·rw[if_neg (by simpa using h8)] at k;have e5:¬((rs.length:Nat):Int)≥8:=by omega
     simp only[e5,decide_false,ai];have FX:=(hcs.alloc 138 r.cs);generalize hH2:H1.alloc (.cells 138 r.cs false)=H2 at FX⊢;have YZ:=FX.up 1;simp only[iT,iH] at YZ;have HG:=YZ.get
     have fin:∀{K:V→ag→Prop},(∀H',az B H' (dY id ((rs.map Rp.p).take (bM (rs.map Rp.p) p.an)++p.put::(rs.map Rp.p).drop (bM (rs.map Rp.p) p.an))::L)→K (.int .i64 0) H')→
      cl 137 [V.slice qc rs.length cc,V.int .i64 ((bM (rs.map Rp.p) p.an:Nat):Int),V.slice (some (H1.next,0)) 1 1] H2 fun v H'=>
       ah (V.aw bX.slice v) (ah (ag.wr H' id 0 1) (K (.int .i64 0) (ag.store H' id 0 [V.slice (V.au v) (V.ax v) (V.aC v)]))):=by
      intro K hk;have Y0:=FX.up 2;simp only[iT,iH] at Y0
      have hne:∀id' off,qc=some (id',off)→H1.next≠id':=by
       intro id' off he;subst he;obtain⟨_,_,_,⟨h',_⟩|⟨id2,off2,l2,Qn,_,_,h6⟩⟩:=(hcs.up 1).Lq
       ·cases h'
       ·cases Qn;have:=hcs.ok _ _ h6.get;omega
      have DH:=Kz (i:=bM (rs.map Rp.p) p.an) (vid:=H1.next) (e2:=138) (c:=r.cs) (K:=fun v H'=>
       ah (V.aw bX.slice v) (ah (ag.wr H' id 0 1) (K (.int .i64 0) (ag.store H' id 0 [V.slice (V.au v) (V.ax v) (V.aC v)])))) Y0 (fun H' h'=>h'.get) (uk rs) r.aI (by simp;omega) (by simpa using zt) hne
       (fun q' c' H' h'=> ?_)
      ·simpa using DH
      rw[List.length_map];simp only[dD,aA,cv,bU,cw];have h5:=h'.up 2;simp only[iT,iH] at h5;have hw:ag.wr H' id 0 1=true:=by rw[fY h5.get];rfl
      rw[hw,aA];have h6:=h5.store (off:=0) (vs:=[V.slice q' (rs.length+1) c']);have e6:bL [V.slice qc rs.length cc] 0 [V.slice q' (rs.length+1) c']=[V.slice q' (rs.length+1) c']:=rfl;rw[e6] at h6;have h7:=h6.up 2;simp only[iT,iH] at h7;have ZE:=h7.drop;have h9:=(ZE.up 3);simp only[iT,iH] at h9;have hlen:(rs.take (bM (rs.map Rp.p) p.an)++r::rs.drop (bM (rs.map Rp.p) p.an)).length=rs.length+1:=by simp;omega
      have xg:az B (ag.store H' id 0 [V.slice q' (rs.length+1) c']) (di id 91 [V.slice q' (rs.take (bM (rs.map Rp.p) p.an)++r::rs.drop (bM (rs.map Rp.p) p.an)).length c']::
       Rw 138 3 q' c' ((rs.take (bM (rs.map Rp.p) p.an)++r::rs.drop (bM (rs.map Rp.p) p.an)).map Rp.cs)::bo ((rs.take (bM (rs.map Rp.p) p.an)++r::rs.drop (bM (rs.map Rp.p) p.an)).map Rp.bR)::L):=by
       rw[hlen];have zK:=(h9.up 3);simp only[iT,iH] at zK;have h12:az B _ (bo (r.bR::rs.map Rp.bR)::di id 91 [V.slice q' (rs.length+1) c']::Rw 138 3 q' c' ((rs.map Rp.cs).take (bM (rs.map Rp.p) p.an)++r.cs::(rs.map Rp.cs).drop (bM (rs.map Rp.p) p.an))::L):=zK.swap.lW
       have Ln:=h12.bigPerm (l':=(rs.take (bM (rs.map Rp.p) p.an)++r::rs.drop (bM (rs.map Rp.p) p.an)).map Rp.bR) (by
        rw[List.map_append,List.map_cons,List.map_take,List.map_drop]
        conv=>lhs;rw[←List.take_append_drop (bM (rs.map Rp.p) p.an) (rs.map Rp.bR)]
        exact List.perm_middle.symm)
       have Uw:=Ln.up 1;simp only[iT,iH] at Uw;have h15:=Uw.vc ((List.Perm.swap ..).cons _);rw[List.map_append,List.map_cons,List.map_take,List.map_drop];exact h15
      have YH:=az.qA xg;rw[List.map_append,List.map_cons,List.map_take,List.map_drop,hrp] at YH;exact hk _ YH
     have hI1:ag.inb H2 id 0 1=true:=by rw[dP HG];rfl
     have hC1:ag.cell H2 id 0=V.slice qc rs.length cc:=by rw[aX HG];rfl
     simp only[hI1,hC1,dD,cv,bU,cw,Bool.and_self,aA];exact⟨fin k,fin k⟩
   ·rw[hf,if_pos rfl] at k;obtain⟨g1,g2⟩:=(nq hs.up).1 hf;rw[List.length_map] at g1;have e5:0≤((bM (rs.map Rp.p) p.an:Nat):Int):=by omega
    have e6:((bM (rs.map Rp.p) p.an:Nat):Int)<(rs.length:Int):=by omega
    have hrw:=hcs.up 1;simp only[iT,iH] at hrw;obtain⟨s1,s2,s3⟩:=ku hrd g1;obtain⟨w1,w2⟩:=hrw.QT (uk rs).oI (i:=bM (rs.map Rp.p) p.an) (by simpa using g1) (c:=r.cs) rfl (jD r.aI);simp only[aq,e5,e6,decide_true,s1,Bool.and_self,aA,Int.toNat_natCast,w1];generalize ag.store H1 _ _ _=H3 at w2⊢;refine k _ ?_;have h5:=w2.up 2;simp only[iT,iH] at h5;have h6:=h5.pJ (i:=bM (rs.map Rp.p) p.an) (by simpa using g1);have h7:=h6.drop.up 3;simp only[iT,iH] at h7;have h8:=h7.QU (i:=bM (rs.map Rp.p) p.an) (by simpa using g1)
    have h9:az B H3 (di id 91 [V.slice qc (rs.set (bM (rs.map Rp.p) p.an) r).length cc]::Rw 138 3 qc cc ((rs.set (bM (rs.map Rp.p) p.an) r).map Rp.cs)::bo ((rs.set (bM (rs.map Rp.p) p.an) r).map Rp.bR)::L):=by
     rw[List.length_set,List.map_set,List.map_set];have xg:=h8.up 2;simp only[iT,iH] at xg;exact xg.vc ((List.Perm.swap ..).cons _)
    have zK:=az.qA h9;rw[List.map_set,hrp] at zK;exact zK
end
theorem qB {α β:Type} (f:α→β):∀(l:List α) (i:Nat),(l.eraseIdx i).map f=(l.map f).eraseIdx i
 |[],_=>rfl
 |x::l,0=>rfl
 |x::l,i+1=>by
  show f x::(l.eraseIdx i).map f=f x::(l.map f).eraseIdx i
  rw[qB f l i]
theorem NO {ps:List Pg} (h:eV ps) {p:Pg} (hh:gw ps p.an=true) (hd:p.data.length≤64):eV (ps.set (bM ps p.an) p):=by
 obtain⟨g1,g2⟩:=(nq h.up).1 hh;refine⟨?_, ?_, ?_⟩
 ·rw[List.pairwise_iff_getElem];intro i j hi hj hij;rw[List.length_set] at hi hj
  have key:∀k (hk:k<ps.length),((ps.set (bM ps p.an) p)[k]'(by rw[List.length_set];exact hk)).an=(ps[k]).an:=by
   intro k hk;rw[List.getElem_set];split
   ·rename_i he;subst he;exact g2.symm
   ·rfl
  rw[key i hi,key j hj];exact(List.pairwise_iff_getElem.1 h.up) i j hi hj hij
 ·intro x hx;rcases List.mem_or_eq_of_mem_set hx with hx|rfl
  ·exact h.lo x hx
  ·have:=h.lo _ (List.getElem_mem g1);rw[g2] at this;exact this
 ·intro x hx;rcases List.mem_or_eq_of_mem_set hx with hx|rfl
  ·exact h.dl x hx
  ·exact hd
theorem NP {ps:List Pg} (h:eV ps) {p:Pg} (hh:gw ps p.an=false) (hr:0≤p.an∧p.an≤65535) (hd:p.data.length≤64):eV (ps.take (bM ps p.an)++p::ps.drop (bM ps p.an)):=by
 have hmem:∀x,x∈ps.take (bM ps p.an)++p::ps.drop (bM ps p.an)→x∈ps∨x=p:=by
  intro x hx;rcases List.mem_append.1 hx with hx|hx
  ·exact .inl (List.mem_of_mem_take hx)
  ·rcases List.mem_cons.1 hx with rfl|hx
   ·exact .inr rfl
   ·exact .inl (List.mem_of_mem_drop hx)
 refine⟨?_, ?_, ?_⟩
 ·have h1:(ps.take (bM ps p.an)++ps.drop (bM ps p.an)).Pairwise fun x y=>x.an<y.an:=by rw[List.take_append_drop];exact h.up
  rw[List.pairwise_append] at h1;rw[List.pairwise_append,List.pairwise_cons]
  have lo:∀x∈ps.take (bM ps p.an),x.an<p.an:=by
   intro x hx;obtain⟨i,hi,rfl⟩:=List.getElem_of_mem hx;rw[List.length_take] at hi;rw[List.getElem_take];exact w9 (by omega) (by omega)
  have hi:∀x∈ps.drop (bM ps p.an),p.an<x.an:=by
   intro x hx;obtain⟨i,hi,rfl⟩:=List.getElem_of_mem hx;rw[List.length_drop] at hi;rw[List.getElem_drop];have h2:=xb (a:=p.an) h.up (i:=bM ps p.an+i) (by omega) (by omega)
   have h3:(ps[bM ps p.an+i]).an≠p.an:=by
    intro he
    have:gw ps p.an=true:=by
     unfold gw;rw[List.any_eq_true];exact⟨_,List.getElem_mem _,by simpa using he⟩
    rw[hh] at this;cases this
   omega
  refine⟨h1.1,⟨hi,h1.2.1⟩, ?_⟩;intro x hx y hy;rcases List.mem_cons.1 hy with rfl|hy
  ·exact lo x hx
  ·exact h1.2.2 x hx y hy
 ·intro x hx;rcases hmem x hx with hx|rfl
  ·exact h.lo x hx
  ·exact hr
 ·intro x hx;rcases hmem x hx with hx|rfl
  ·exact h.dl x hx
  ·exact hd
theorem Fm {ps:List Pg} (h:eV ps) (p:Pg):eV (iU ps p).1:=by
 unfold iU;split
 ·exact h
 ·split
  ·exact h
  ·have hd:p.put.data.length≤64:=by
    unfold Pg.put;simp only[];split
    ·simp
    ·omega
   have ha:p.put.an=p.an:=rfl;split
   ·rename_i hh;exact NO (p:=p.put) h hh hd
   ·split
    ·exact h
    ·rename_i hh _;exact NP (p:=p.put) h (by rw[ha];simpa using hh) (by rw[ha];omega) hd
theorem Jg {ps:List Pg} (hl:ps.length≤8) (p:Pg):(iU ps p).1.length≤8:=by
 unfold iU;split
 ·exact hl
 ·split
  ·exact hl
  ·split
   ·simpa using hl
   ·split
    ·exact hl
    ·have:=w8 ps p.an;simp;omega
theorem vv {ps:List Pg} (h:eV ps) (a:Int):eV (gx ps a):=by
 unfold gx;split
 ·refine⟨h.up.sublist (List.eraseIdx_sublist _ _),fun x hx=>h.lo x (List.mem_of_mem_eraseIdx hx),fun x hx=>h.dl x (List.mem_of_mem_eraseIdx hx)⟩
 ·exact h
theorem NR {ps:List Pg} (hl:ps.length≤8) (a:Int):(gx ps a).length≤8:=by
 unfold gx;split
 ·rw[List.length_eraseIdx];split<;>omega
 ·exact hl
section
variable {B:ag} {L:List bV} {H:ag} {K:V→ag→Prop} {cap:Nat} {q:Oq} {id:Nat} {ps:List Pg} {a:Int}
theorem ze {rs:List Rp} (h:az B H (bo (rs.map Rp.bR)::L)) {i:Nat} (hi:i<rs.length):lz H rs[i].q rs[i].p.data:=by
 have h1:=h.pJ (i:=i) (by simpa using hi);rw[List.getElem_map] at h1;exact h1.gQ
theorem TM (h:az B H (dY id ps::L)) (hs:eV ps) (hl:ps.length≤8) (ha: -9223372036854775808≤a∧a≤9223372036854775807) (kn:gw ps a=false→∀H',az B H' (dY id ps::L)→K (.tuple [.agg (fN 0 none 0 0 false),.bool false]) H') (ky:∀(hp:bM ps a<ps.length) q' c' H',gw ps a=true→(ps[bM ps a]).an=a→az B H' (BY q' c' (ps[bM ps a]).data::dY id ps::L)→K (.tuple [.agg (fN a q' (ps[bM ps a]).data.length c' (ps[bM ps a]).bZ),.bool true]) H'):cl 79 [.ak (some (id,0)),.int .i64 a] H K:=by
 rw[aaY];(try simp only[NQ]);rw[Option.isNone_some,ai];obtain⟨rs,qc,cc,rfl,hcs⟩:=az.np h;rw[List.length_map] at hl;have hg:=hcs.get;have hrd:=(hcs.up 1).wB;refine NM hg hrd (by omega) (fun i hi=> ?_);obtain⟨f1,f2,f3⟩:=ss rfl hs ha hi;rw[f1];cases hf:gw (rs.map Rp.p) a
 ·simp only[AK,reduceIte,Nat.reduceEqDiff,Option.isSome_some];exact kn hf H h
 ·have f3:=f3 hf;subst f3;obtain⟨g1,g2⟩:=(nq hs.up).1 hf;have g3:=g1;rw[List.length_map] at g3;have e4:Nat.ble (0+1) [V.slice qc rs.length cc].length=true:=rfl;have e5:0≤((bM (rs.map Rp.p) a:Nat):Int):=by omega
  have e6:((bM (rs.map Rp.p) a:Nat):Int)<(rs.length:Int):=by omega
  obtain⟨s1,s2,s3⟩:=ku hrd g3;have n0:ae (rs[bM (rs.map Rp.p) a]).cs 0=.int .i64 (rs[bM (rs.map Rp.p) a]).p.an:=rfl;have n1:ae (rs[bM (rs.map Rp.p) a]).cs 1=.slice (rs[bM (rs.map Rp.p) a]).q (rs[bM (rs.map Rp.p) a]).p.data.length (rs[bM (rs.map Rp.p) a]).c:=rfl;have n2:ae (rs[bM (rs.map Rp.p) a]).cs 2=.bool (rs[bM (rs.map Rp.p) a]).p.bZ:=rfl;simp only[AK,reduceIte,Nat.reduceEqDiff,Option.isSome_some,Option.getD_some,dP hg,aX hg,e4,e5,e6,Int.toNat_natCast,s1,s2,s3,Rp.aI,n0,n1,n2];have abD:=ze (hcs.up 2) g3;have Qr:=hs.dl _ (List.getElem_mem g1);simp only[List.getElem_map] at g2 Qr ky;refine jK h abD (by omega) (fun q' c' H' h'=> ?_);simp only[dD,aA,cv,bU,cw,g2];exact ky g1 q' c' H' hf g2 h'
theorem Jh (h:az B H (dY id ps::L)) (hs:eV ps) (hl:ps.length≤8) (ha: -9223372036854775808≤a∧a≤9223372036854775807) (k:∀H',az B H' (dY id (gx ps a)::L)→K (.tuple []) H'):cl 92 [.ak (some (id,0)),.int .i64 a] H K:=by
 rw[aa0];(try simp only[NQ]);rw[Option.isNone_some,ai];obtain⟨rs,qc,cc,rfl,hcs⟩:=az.np h;rw[List.length_map] at hl;have hg:=hcs.get;have hrd:=(hcs.up 1).wB;unfold gx at k;refine NM hg hrd (by omega) (fun i hi=> ?_);obtain⟨f1,f2,f3⟩:=ss rfl hs ha hi;rw[f1];cases hf:gw (rs.map Rp.p) a
 ·rw[hf,if_neg (by simp)] at k;simp only[AK,reduceIte,Nat.reduceEqDiff,Option.isSome_some];exact k H h
 ·rw[hf,if_pos rfl] at k;have f3:=f3 hf;subst f3;obtain⟨g1,g2⟩:=(nq hs.up).1 hf;have g3:=g1;rw[List.length_map] at g3;have e4:Nat.ble (0+1) [V.slice qc rs.length cc].length=true:=rfl;simp only[AK,reduceIte,Nat.reduceEqDiff,Option.isSome_some,Option.getD_some,dP hg,aX hg,e4];rw[bn (by omega) (by omega)];have hrw:=hcs.up 1;simp only[iT,iH] at hrw;have DE:=KA (i:=bM (rs.map Rp.p) a) (K:=fun v H'=>ah (V.aw bX.slice v) (ah (ag.wr H' id 0 1) (K (.tuple []) (ag.store H' id 0 [V.slice (V.au v) (V.ax v) (V.aC v)])))) hrw (uk rs) (by simp;omega) (by simpa using g3) (fun H' h'=> ?_)
  ·have e9:(((bM (rs.map Rp.p) a:Nat):Int)+1)=((bM (rs.map Rp.p) a+1:Nat):Int):=by omega
   rw[e9];simpa using DE
  ·rw[List.length_map];simp only[dD,aA,cv,bU,cw];have h5:=h'.up 1;simp only[iT,iH] at h5;have hw:ag.wr H' id 0 1=true:=by rw[fY h5.get];rfl
   rw[hw,aA];have h6:=h5.store (off:=0) (vs:=[V.slice qc (rs.length-1) cc]);have e6:bL [V.slice qc rs.length cc] 0 [V.slice qc (rs.length-1) cc]=[V.slice qc (rs.length-1) cc]:=rfl;rw[e6] at h6;generalize ag.store H' _ _ _=H3 at h6⊢;have h7:=h6.up 2;simp only[iT,iH] at h7;have h8:=(h7.pJ (i:=bM (rs.map Rp.p) a) (by simpa using g3)).drop
   have h9:az B H3 (di id 91 [V.slice qc (rs.eraseIdx (bM (rs.map Rp.p) a)).length cc]::Rw 138 3 qc cc ((rs.eraseIdx (bM (rs.map Rp.p) a)).map Rp.cs)::bo ((rs.eraseIdx (bM (rs.map Rp.p) a)).map Rp.bR)::L):=by
    rw[List.length_eraseIdx,if_pos g3,qB,qB];exact(h8.up 1).vc ((List.Perm.swap ..).cons _)
   have xg:=az.qA h9;rw[qB] at xg;exact k _ xg
theorem NS {rs:List Rp} (hb:rs.length≤8) (Qr:∀r∈rs,r.p.data.length≤64) {qc:Oq} {cc:Nat} {Kr:Am.St→Prop} {Ke:Nat→Am.St→Prop}:∀(n i:Nat) (os:List Rp) {q:Oq} {cap:Nat} {H:ag},i+n=rs.length→os.map Rp.p=(rs.map Rp.p).take i→az B H (Rw 138 3 q cap (os.map Rp.cs)::bo (os.map Rp.bR)::Rw 138 3 qc cc (rs.map Rp.cs)::bo (rs.map Rp.bR)::L)→(∀(os':List Rp) q' c' H',os'.map Rp.p=rs.map Rp.p→az B H' (Rw 138 3 q' c' (os'.map Rp.cs)::bo (os'.map Rp.bR)::Rw 138 3 qc cc (rs.map Rp.cs)::bo (rs.map Rp.bR)::L)→Ke 0 (St.mk (ab [(3,T.v (V.slice q' rs.length c'))]) (ab []) H'))→lo 90 5 (St.mk (ab [(3,T.v (V.slice q os.length cap)),(11,T.v (V.slice qc rs.length cc)),(12,T.v (V.int .i64 (rs.length:Int))),(13,T.v (V.int .i64 (i:Int)))]) (ab []) H) Kr Ke
 |0,i,os,q,cap,H,hi,ho,h,k=>by
  obtain rfl:i=rs.length:=by omega
  have ZB:os.length=rs.length:=by have:=congrArg List.length ho;simpa using this
  rw[Mz];(try simp only[NQ]);have e1:¬(rs.length:Int)<(rs.length:Int):=by omega
  rw[decide_eq_false e1,ai,ZB];exact k os _ _ _ (by rw[ho,List.take_of_length_le (by simp)]) h
 |n+1,i,os,q,cap,H,hi,ho,h,k=>by
  have hlt:i<rs.length:=by omega
  have ZB:os.length=i:=by have:=congrArg List.length ho;simp at this;omega
  have hrd:=(h.up 2).wB;obtain⟨s1,s2,s3⟩:=ku hrd hlt;have e5:0≤(i:Int):=by omega
  have e6:(i:Int)<(rs.length:Int):=by omega
  have n0:ae (rs[i]).cs 0=.int .i64 (rs[i]).p.an:=rfl;have n1:ae (rs[i]).cs 1=.slice (rs[i]).q (rs[i]).p.data.length (rs[i]).c:=rfl;have n2:ae (rs[i]).cs 2=.bool (rs[i]).p.bZ:=rfl;rw[Mz];(try simp only[NQ]);simp only[e5,e6,decide_true,aq,Int.toNat_natCast,s1,s2,s3,Rp.aI,n0,n1,n2,bK,cD,cv,bU,cw,Bool.and_self,aA];refine jK h (ze (h.up 3) hlt) (by have:=Qr _ (List.getElem_mem hlt);omega) (fun q' c' H' h'=> ?_);simp only[dD,aA,cv,bU,cw];have h1:=h'.up 1;simp only[iT,iH] at h1
  have Ou:=h1.CL (t:=89) (u:=89) w7 Dl Dm rfl (by omega) (uk os).oI (e2:=138) (c:=fN (rs[i]).p.an q' (rs[i]).p.data.length c' (rs[i]).p.bZ) rfl
   (jD (f137 _ _ _ _ _)) (by simp;omega) (K:=fun q n c H'=>
   lo 90 5
   (St.mk (ab [(3,T.v (V.slice q n c)),(11,T.v (V.slice qc rs.length cc)),(12,T.v (V.int .i64 (rs.length:Int))),(13,T.v (V.int .i64 (IntKind.i64.wrap ((i:Int)+1))))]) (ab []) H') Kr Ke) (fun q2 c2 H2 h2=> ?_)
  ·simpa using Ou
  ·rw[aJ (by omega),List.length_map];have h3:=h2.up 1;simp only[iT,iH] at h3;have h4:=h3.up 2;simp only[iT,iH] at h4
   have h5:az B H2 (Rw 138 3 q2 c2 ((os++[(⟨(rs[i]).p,q',c'⟩:Rp)]).map Rp.cs)::bo ((os++[(⟨(rs[i]).p,q',c'⟩:Rp)]).map Rp.bR)::Rw 138 3 qc cc (rs.map Rp.cs)::bo (rs.map Rp.bR)::L):=by
    have h6:az B H2 (bo ((⟨(rs[i]).p,q',c'⟩:Rp).bR::os.map Rp.bR)::Rw 138 3 q2 c2 (os.map Rp.cs++[(⟨(rs[i]).p,q',c'⟩:Rp).cs])::Rw 138 3 qc cc (rs.map Rp.cs)::bo (rs.map Rp.bR)::L):=h4.swap.lW
    have h7:=h6.bigPerm (l':=(os++[(⟨(rs[i]).p,q',c'⟩:Rp)]).map Rp.bR) (by
     rw[List.map_append]
     exact(List.perm_append_comm (l₁:=[_])))
    rw[List.map_append (f:=Rp.cs)];exact h7.swap
   have h8:=NS (Kr:=Kr) hb Qr n (i+1) (os++[(⟨(rs[i]).p,q',c'⟩:Rp)]) (by omega) (by
    rw[List.map_append,ho,List.take_succ_eq_append_getElem (by simpa using hlt)]
    simp) h5 k
   simpa using h8
theorem TN (h:az B H (dY id ps::L)) (hs:eV ps) (hl:ps.length≤8) (k:∀q' c' H',az B H' (sr q' c' ps::dY id ps::L)→K (.slice q' ps.length c') H'):cl 90 [.ak (some (id,0))] H K:=by
 rw[aaZ];(try simp only[NQ]);rw[Option.isNone_some];obtain⟨rs,qc,cc,rfl,hcs⟩:=az.np h;rw[List.length_map] at hl;have hg:=hcs.get;have e4:Nat.ble (0+1) [V.slice qc rs.length cc].length=true:=rfl;simp only[Bool.not_false,aq,Option.isSome_some,Option.getD_some,dP hg,aX hg,e4,fT,dD,cv,bU,cw,Bool.and_self,aA];have h1:=hcs.up 2;simp only[iT,iH] at h1;have h2:=h1.up 2;simp only[iT,iH] at h2;have h3:az B H (Rw 138 3 none 0 (([]:List Rp).map Rp.cs)::bo (([]:List Rp).map Rp.bR)::Rw 138 3 qc cc (rs.map Rp.cs)::bo (rs.map Rp.bR)::di id 91 [V.slice qc rs.length cc]::L):=h2.pI.rwNil _ _;refine NS (Kr:=fun _=>False) (by omega) (fun r hr=>hs.dl _ (List.mem_map.2 ⟨r,hr,rfl⟩)) rs.length 0 [] (by omega) rfl h3 (fun os q' c' H' ho h'=> ?_);have h4:=az.Jf h';rw[ho] at h4;have h5:=h4.up 3;simp only[iT,iH] at h5;have h6:az B H' (di id 91 [V.slice qc rs.length cc]::Rw 138 3 qc cc (rs.map Rp.cs)::bo (rs.map Rp.bR)::sr q' c' (rs.map Rp.p)::L):=h5.vc (((List.Perm.swap ..).trans ((List.Perm.swap ..).cons _)).cons _);have h7:=(az.qA h6).swap;have:=k q' c' H' h7;simpa [AK,reduceIte,Nat.reduceEqDiff] using this
end
structure R where
 k:Nat→Int
 ty:Int
 ho:Int
 ge:Int
 la:Bool
def R.cs (r:R):List V:=cP (r.k 0) (r.k 1) (r.k 2) (r.k 3) (r.k 4) (r.k 5) (r.k 6) (r.k 7) r.ty r.ho r.ge r.la
theorem R.zf (r:R):cP (r.k 0) (r.k 1) (r.k 2) (r.k 3) (r.k 4) (r.k 5) (r.k 6) (r.k 7) r.ty r.ho r.ge r.la=r.cs:=rfl
theorem R.Bs (k:Nat→Int) (ty ho ge:Int) (la:Bool):cP (k 0) (k 1) (k 2) (k 3) (k 4) (k 5) (k 6) (k 7) ty ho ge la=R.cs ⟨k,ty,ho,ge,la⟩:=rfl
@[simp] theorem R.dQ (r:R):aI px r.cs=true:=rfl
@[simp] theorem R.eW (r:R):mO r.cs=r.cs:=rfl
theorem R.NT {r s:R} (hk:∀i,i<8→r.k i=s.k i) (h1:r.ty=s.ty) (h2:r.ho=s.ho) (h3:r.ge=s.ge) (h4:r.la=s.la):r.cs=s.cs:=by
 unfold R.cs;rw[hk 0 (by omega),hk 1 (by omega),hk 2 (by omega),hk 3 (by omega),hk 4 (by omega),hk 5 (by omega),hk 6 (by omega),hk 7 (by omega),h1,h2,h3,h4]
theorem R.Dp (r s:R):dZ r.cs s.cs=true↔(∀i,i<8→r.k i=s.k i)∧r.ty=s.ty∧r.ho=s.ho∧r.ge=s.ge∧r.la=s.la:=by
 have e:dZ r.cs s.cs=(decide (r.k 0=s.k 0)&&(decide (r.k 1=s.k 1)&&(decide (r.k 2=s.k 2)&&(decide (r.k 3=s.k 3)&&(decide (r.k 4=s.k 4)&&(decide (r.k 5=s.k 5)&&(decide (r.k 6=s.k 6)&&
  (decide (r.k 7=s.k 7)&&(decide (r.ty=s.ty)&&(decide (r.ho=s.ho)&&(decide (r.ge=s.ge)&&(decide (r.la=s.la)||false)))))))))))):=by kernel_rfl
 rw[e];simp only[Bool.and_eq_true,decide_eq_true_eq,Bool.or_false];constructor
 ·rintro⟨a0,a1,a2,a3,a4,a5,a6,a7,b1,b2,b3,b4⟩;refine⟨fun i hi=> ?_,b1,b2,b3,b4⟩;have h:i=0∨i=1∨i=2∨i=3∨i=4∨i=5∨i=6∨i=7:=by omega
  rcases h with rfl|rfl|rfl|rfl|rfl|rfl|rfl|rfl<;>assumption
 ·rintro⟨hk,b1,b2,b3,b4⟩;exact⟨hk 0 (by omega),hk 1 (by omega),hk 2 (by omega),hk 3 (by omega),hk 4 (by omega),hk 5 (by omega),hk 6 (by omega),hk 7 (by omega),b1,b2,b3,b4⟩
theorem R.eq_self (r:R):dZ r.cs r.cs=true:=(R.Dp r r).2 ⟨fun _ _=>rfl,rfl,rfl,rfl,rfl⟩
theorem R.vx (r s:R):dZ r.cs s.cs=true↔r.cs=s.cs:=by
 constructor
 ·intro h;obtain⟨a,b,c,d,e⟩:=(R.Dp r s).1 h;exact R.NT a b c d e
 ·intro h;rw[h];exact R.eq_self s
def cd (k:Nat→Int) (i:Nat) (x:Int):Nat→Int:=fun j=>if j=i then x else k j
theorem NU {k:Nat→Int} {i:Nat} {x:Int}:cd k i x i=x:=by simp [cd]
theorem Hs {k:Nat→Int} {i j:Nat} {x:Int} (h:j≠i):cd k i x j=k j:=by simp [cd,h]
theorem xc (r:R) {i:Nat} (hi:i<8) (x ty ho ge:Int) (la:Bool):cP (bif Nat.beq 0 i then x else r.k 0) (bif Nat.beq 1 i then x else r.k 1) (bif Nat.beq 2 i then x else r.k 2) (bif Nat.beq 3 i then x else r.k 3) (bif Nat.beq 4 i then x else r.k 4) (bif Nat.beq 5 i then x else r.k 5) (bif Nat.beq 6 i then x else r.k 6) (bif Nat.beq 7 i then x else r.k 7) (V.aa (cS (Nat.beq 8 i) (V.int .u32 x) (V.int .u8 ty))) (V.aa (cS (Nat.beq 9 i) (V.int .u32 x) (V.int .i64 ho))) (bif Nat.beq 10 i then x else ge) (V.av (cS (Nat.beq 11 i) (V.int .u32 x) (V.bool la)))=R.cs ⟨cd r.k i x,ty,ho,ge,la⟩:=by
 have h:i=0∨i=1∨i=2∨i=3∨i=4∨i=5∨i=6∨i=7:=by omega
 rcases h with rfl|rfl|rfl|rfl|rfl|rfl|rfl|rfl<;>rfl
theorem oa (x ty ho:Int) (la:Bool) {i:Nat} (hi:i<8):(Nat.ble (i+1) 12&&(V.aw (.int .u8) (cS (Nat.beq 8 i) (V.int .u32 x) (V.int .u8 ty))&&(V.aw (.int .i64) (cS (Nat.beq 9 i) (V.int .u32 x) (V.int .i64 ho))&&(V.aw .bool (cS (Nat.beq 11 i) (V.int .u32 x) (V.bool la))&&true))))=true:=by
 have h:i=0∨i=1∨i=2∨i=3∨i=4∨i=5∨i=6∨i=7:=by omega
 rcases h with rfl|rfl|rfl|rfl|rfl|rfl|rfl|rfl<;>rfl
theorem um (r:R) {i:Nat} (hi:i<8):ae (cP (r.k 0) (r.k 1) (r.k 2) (r.k 3) (r.k 4) (r.k 5) (r.k 6) (r.k 7) r.ty r.ho r.ge r.la) i=.int .u32 (r.k i):=by
 have h:i=0∨i=1∨i=2∨i=3∨i=4∨i=5∨i=6∨i=7:=by omega
 rcases h with rfl|rfl|rfl|rfl|rfl|rfl|rfl|rfl<;>rfl
theorem zg (r:R) {i:Nat} (hi:i<8):ae r.cs i=.int .u32 (r.k i):=um r hi
def uo (t:Int):Bool:=decide (t=7)||decide (t=8)
def Q7 (h:Int):Bool:=decide (0≤h)&&decide (h<8)
def key (r:R) (h:Int):Int:=r.k h.toNat
def holds (r:R) (h:Int):Bool:=Q7 h&& !decide (r.ty=0)&&(decide (r.ho=h)||uo r.ty&& !decide (key r h=0))
def xd (r:R) (h:Int) (w:Bool):Bool:=
 Q7 h&&(decide (r.ty=0)||holds r h||
  (if r.ty=1 then !w else if r.ty=3 then false else if r.ty=5∨r.ty=7 then !w|| !decide (key r h=0) else !decide (key r h=0)))
def right (t:Int):Bool:=decide (t=1)||decide (t=3)||decide (t=5)||decide (t=6)||decide (t=7)||decide (t=8)
def Bt (r:R):R:=⟨r.k,0, -1,r.ge,r.la⟩
def we (r:R) (h t:Int):R:=⟨r.k,t,if uo t then-1 else h,r.ge,r.la⟩
def zh (k:Nat→Int):Bool:=
 decide (k 0=0)&&(decide (k 1=0)&&(decide (k 2=0)&&(decide (k 3=0)&&(decide (k 4=0)&&(decide (k 5=0)&&(decide (k 6=0)&&(decide (k 7=0)||false)))))))
def jt (r:R) (h:Int):R:=
 let s:R:=⟨cd r.k h.toNat 0,r.ty,r.ho,r.ge,r.la⟩
 if r.ho=h∨zh s.k=true then Bt s else s
def kv (r:R) (h new:Int) (la:Bool):R:=
 let s:R:=⟨r.k,r.ty,r.ho,IntKind.u32.wrap (r.ge+1),la⟩
 if new=0 then jt s h else ⟨cd s.k h.toNat new,s.ty,s.ho,s.ge,s.la⟩
section
variable (H:ag) (K:V→ag→Prop)
theorem Ht (t:Int):cl 139 [.int .u8 t] H K=K (.bool (uo t)) H:=by
 rw[Xw];(try simp only[NQ]);unfold uo;by_cases h:t=7<;>simp [h]<;>exact Iff.rfl
theorem Ji:cl 38 [] H K=K (.agg (R.cs ⟨fun _=>0,0, -1,0,false⟩)) H:=by
 rw[aaU];(try simp only[NQ]);rfl
theorem NV:cl 134 [] H K=K (.agg (mR 1 3 5 6 7 8)) H:=by
 rw[Xu];(try simp only[NQ])
theorem Dq (r:R):cl 116 [.agg r.cs] H K=K (.agg (Bt r).cs) H:=by
 unfold R.cs;rw[Xs];(try simp only[NQ]);rfl
theorem Jj (r:R) (h t:Int):cl 115 [.agg r.cs,.int .i64 h,.int .u8 t] H K=K (.agg (we r h t).cs) H:=by
 unfold R.cs;rw[Xr];(try simp only[NQ]);simp only[Ht,gP,aA,cD];unfold we;cases uo t<;>rfl
theorem nr (t:Int) (i:Nat) (hi:i<6) (Kr:St→Prop) (Ke:Nat→St→Prop):lo 109 2 (St.mk (ab [(0,T.v (V.int .u8 t)),(5,T.v (V.agg (mR 1 3 5 6 7 8))),(6,T.v (V.int .i64 i))]) (ab []) H) Kr Ke=if V.aa (ae (mR 1 3 5 6 7 8) i)=t then Kr (St.mk (ab [(2,T.v (V.bool true))]) (ab []) H) else lo 109 2 (St.mk (ab [(0,T.v (V.int .u8 t)),(5,T.v (V.agg (mR 1 3 5 6 7 8))),(6,T.v (V.int .i64 (i+1:Nat)))]) (ab []) H) Kr Ke:=by
 have h:i=0∨i=1∨i=2∨i=3∨i=4∨i=5:=by omega
 have e1:decide ((i:Int)<6)=true:=by simp;omega
 have e2:decide (0≤(i:Int))=true:=by simp
 have e3:Nat.ble (Nat.succ ((i:Int).toNat*1)) 6=true:=by simp;omega
 have e4:V.aw (.int .u8) (ae (mR 1 3 5 6 7 8) i)=true:=by rcases h with rfl|rfl|rfl|rfl|rfl|rfl<;>rfl
 have e5:(i:Int).toNat*1=i:=by simp
 rw[Io];(try simp only[NQ]);rw[aJ (by omega)];have e6:i≤5:=by omega
 simp [e1,e4,e6,CE]<;>exact Iff.rfl
theorem Dr (t:Int) (Kr:St→Prop) (Ke:Nat→St→Prop):lo 109 2 (St.mk (ab [(0,T.v (V.int .u8 t)),(5,T.v (V.agg (mR 1 3 5 6 7 8))),(6,T.v (V.int .i64 (6:Nat)))]) (ab []) H) Kr Ke=Ke 0 (St.mk (ab []) (ab []) H):=by
 rw[Io];(try simp only[NQ]);rfl
theorem Fo (t:Int):cl 109 [.int .u8 t] H K=K (.bool (right t)) H:=by
 rw[Xn];(try simp only[NQ]);rw[NV];change lo _ _ (St.mk (ab [(0,T.v (V.int .u8 t)),(5,T.v (V.agg (mR 1 3 5 6 7 8))),(6,T.v (V.int .i64 (0:Nat)))]) (ab []) H) _ _=_
 rw[nr H t 0 (by omega),nr H t 1 (by omega),nr H t 2 (by omega),nr H t 3 (by omega),nr H t 4 (by omega),nr H t 5 (by omega),Dr];unfold right
 change (if (1:Int)=t then K (V.bool true) H else if (3:Int)=t then K (V.bool true) H else if (5:Int)=t then K (V.bool true) H else if (6:Int)=t then K (V.bool true) H else
  if (7:Int)=t then K (V.bool true) H else if (8:Int)=t then K (V.bool true) H else K (V.bool false) H)=_
 repeat' split
 all_goals first|(subst_vars;rfl)|skip
 have h1:¬t=1:=by omega
 have h2:¬t=3:=by omega
 have h3:¬t=5:=by omega
 have h4:¬t=6:=by omega
 have h5:¬t=7:=by omega
 have h6:¬t=8:=by omega
 simp [h1,h2,h3,h4,h5,h6]<;>exact Iff.rfl
theorem Q8 {h:Int} (h0:0≤h) (h8:h<8):Q7 h=true:=by simp [Q7,h0,h8]
theorem TO {h:Int}:0+h.toNat*1=h.toNat:=by omega
theorem Fp (r:R) (h:Int):cl 114 [.agg r.cs,.int .i64 h] H K=K (.bool (holds r h)) H:=by
 unfold R.cs;rw[Xq];(try simp only[NQ]);simp only[Ht,TO];by_cases hr:0≤h∧h<8
 ·obtain⟨h0,h8⟩:=hr;have e1:¬h<0:=by omega
  have e2:¬h≥8:=by omega
  have e3:h≤11:=by omega
  have e4:h.toNat<8:=by omega
  rw[um r e4];unfold holds key;rw[Q8 h0 h8];by_cases ht:r.ty=0
  ·simp [e1,e2,ht]<;>exact Iff.rfl
  ·by_cases hh:r.ho=h
   ·simp [e1,e2,h0,h8,ht,hh]<;>exact Iff.rfl
   ·cases ha:uo r.ty<;>simp [e1,e2,h0,h8,ht,hh,e3]<;>exact Iff.rfl
 ·have e:(bif !decide (h<0) then bif !decide (h≥8) then decide (r.ty=0) else true else true)=true:=by
   by_cases h0:h<0
   ·simp [h0]<;>exact Iff.rfl
   ·have:h≥8:=by omega
    simp [this]<;>exact Iff.rfl
  rw[e,aq]
  have:Q7 h=false:=by
   unfold Q7;by_cases h0:0≤h
   ·have:¬h<8:=fun h8=>hr ⟨h0,h8⟩
    simp [this]<;>exact Iff.rfl
   ·simp [h0]<;>exact Iff.rfl
  simp [holds,this]<;>exact Iff.rfl
theorem TP {h:Int} (hr:¬(0≤h∧h<8)):Q7 h=false:=by
 unfold Q7;by_cases h0:0≤h
 ·have:¬h<8:=fun h8=>hr ⟨h0,h8⟩
  simp [this]
 ·simp [h0]
theorem Hu (r:R) (h:Int) (w:Bool):cl 110 [.agg r.cs,.int .i64 h,.bool w] H K=K (.bool (xd r h w)) H:=by
 unfold R.cs;rw[Xo];(try simp only[NQ]);simp only[R.zf,Fp,TO];unfold xd key;by_cases hr:0≤h∧h<8
 ·rw[Q8 hr.1 hr.2];obtain⟨h0,h8⟩:=hr;have e1:¬h<0:=by omega
  have e2:¬h≥8:=by omega
  have e3:h≤11:=by omega
  have e4:h.toNat<8:=by omega
  rw[zg r e4];by_cases ht:r.ty=0
  ·simp [e1,e2,ht]<;>exact Iff.rfl
  ·cases hh:holds r h
   ·by_cases t1:r.ty=1
    ·simp [e1,e2,t1]<;>exact Iff.rfl
    ·by_cases t3:r.ty=3
     ·simp [e1,e2,t3]<;>exact Iff.rfl
     ·by_cases t5:r.ty=5
      ·cases w<;>simp [e1,e2,e3,h0,h8,t5,aR]<;>exact Iff.rfl
      ·by_cases t7:r.ty=7
       ·cases w<;>simp [e1,e2,e3,h0,h8,t7,aR]<;>exact Iff.rfl
       ·simp [e1,e2,e3,h0,h8,ht,t1,t3,t5,t7]<;>exact Iff.rfl
   ·simp [e1,e2,ht]<;>exact Iff.rfl
 ·rw[TP hr];by_cases h0:h<0
  ·simp [h0]<;>exact Iff.rfl
  ·have:h≥8:=by omega
   simp [this]<;>exact Iff.rfl
theorem Zj (r:R) (i:Nat) (hi:i<8) (Kr:St→Prop) (Ke:Nat→St→Prop):lo 86 2 (St.mk (ab [(1,T.lp 1 0),(3,T.v (V.int .i64 i))]) (ab [(1,aV.cells 46 r.cs)]) H) Kr Ke=if r.k i=0 then lo 86 2 (St.mk (ab [(1,T.lp 1 0),(3,T.v (V.int .i64 (i+1:Nat)))]) (ab [(1,aV.cells 46 r.cs)]) H) Kr Ke else Kr (St.mk (ab [(2,T.v (V.bool true))]) (ab []) H):=by
 unfold R.cs;rw[Te];(try simp only[NQ]);rw[aJ (by omega),TO,Int.toNat_natCast,um r hi];have e1:(i:Int)<8:=by omega
 have e2:i≤11:=by omega
 by_cases h:r.k i=0<;>simp [e1,e2,h]<;>exact Iff.rfl
theorem NW (r:R) (h:Int) (h0:0≤h) (h8:h<8):cl 138 [.agg r.cs,.int .i64 h] H K=K (.agg (jt r h).cs) H:=by
 unfold R.cs;rw[Xv];(try simp only[NQ]);have e4:h.toNat<8:=by omega
 simp only[TO,oa _ _ _ _ e4,xc r e4]
 have e9:V.aa (cS (Nat.beq 9 h.toNat) (V.int .u32 0) (V.int .i64 r.ho))=r.ho:=by
  have:9≠h.toNat:=by omega
  simp [this]<;>exact Iff.rfl
 have en:∀j,(bif Nat.beq j h.toNat then 0 else r.k j)=cd r.k h.toNat 0 j:=by
  intro j;unfold cd;by_cases hj:j=h.toNat<;>simp [hj]<;>exact Iff.rfl
 rw[e9,en,en,en,en,en,en,en,en]
 have hn:dZ (vW (cd r.k h.toNat 0 0) (cd r.k h.toNat 0 1) (cd r.k h.toNat 0 2) (cd r.k h.toNat 0 3) (cd r.k h.toNat 0 4) (cd r.k h.toNat 0 5) (cd r.k h.toNat 0 6) (cd r.k h.toNat 0 7))
  (vW 0 0 0 0 0 0 0 0)=zh (cd r.k h.toNat 0):=by kernel_rfl
 rw[hn];simp only[Dq,h0,h8,decide_true,Bool.and_self,aA];unfold jt;by_cases hh:r.ho=h
 ·simp [hh]<;>exact Iff.rfl
 ·cases hn:zh (cd r.k h.toNat 0)<;>simp [hh,hn]<;>exact Iff.rfl
structure Cm where
 kd:Int
 ox:Int
 dp:Oq
 dn:Nat
 dc:Nat
 su:Bool
 ky:Int
 nw:Int
 ty:Int
 la:Bool
def Cm.cs (c:Cm):List V:=nW c.kd c.ox c.dp c.dn c.dc c.su c.ky c.nw c.ty c.la
theorem Cm.zf (c:Cm):nW c.kd c.ox c.dp c.dn c.dc c.su c.ky c.nw c.ty c.la=c.cs:=rfl
@[simp] theorem Cm.dQ (c:Cm):aI QL c.cs=true:=rfl
@[simp] theorem Cm.eW (c:Cm):QM c.cs=c.cs:=rfl
theorem Fq (r:R) (h:Int) (c:Cm) (h0:0≤h) (h8:h<8):cl 113 [.agg r.cs,.int .i64 h,.agg c.cs] H K=K (.agg (kv r h c.nw c.la).cs) H:=by
 unfold R.cs Cm.cs;rw[Xp];(try simp only[NQ]);have e4:h.toNat<8:=by omega
 simp only[TO,oa _ _ _ _ e4,xc r e4,R.Bs,NW _ _ _ _ h0 h8];unfold kv;by_cases hn:c.nw=0
 ·simp [hn]
 ·simp [hn,h0,h8]
def Hv (r:R) (h new:Int) (i:Nat):Bool:= !decide (r.k i=0)&&(!decide ((i:Int)=h)&&(decide (new=0)||decide (r.k i=new)))
def Fs (r:R) (h new:Int):Nat→Bool
 |0=>false
 |i+1=>Fs r h new i||Hv r h new i
def Q9 (r:R) (h new:Int) (b:Bool):Nat→Bool
 |0=>b
 |i+1=>Q9 r h new b i||(Hv r h new i&&decide (r.ho=i))
def kV (r:R) (h new:Int):Nat→Nat→Int
 |0=>r.k
 |i+1=>if Hv r h new i=true then cd (kV r h new i) i 0 else kV r h new i
def Ls (r:R) (h:Int) (c:Cm) (v ho:Bool) (k:Nat→Int) (i:Int):St:=
 St.mk (ab [(1,T.v (V.int .i64 h)),(3,T.lp 3 0),(5,T.lp 5 0),(6,T.lp 6 0),(8,T.v (V.bool v)),(9,T.v (V.bool ho)),(10,T.lp 10 0),
  (48,T.v (V.agg (vW (r.k 0) (r.k 1) (r.k 2) (r.k 3) (r.k 4) (r.k 5) (r.k 6) (r.k 7)))),(49,T.v (V.int .i64 i))])
   (ab [(3,aV.cells 46 r.cs),(5,aV.cells 41 c.cs),(6,aV.cells 46 (cP 0 0 0 0 0 0 0 0 0 0 0 false)),
    (10,aV.cells 46 (R.cs ⟨k,r.ty,r.ho,r.ge,r.la⟩))]) H
theorem zi (k:Nat→Int) {i:Nat} (hi:i<8):ae (vW (k 0) (k 1) (k 2) (k 3) (k 4) (k 5) (k 6) (k 7)) i=.int .u32 (k i):=by
 have h:i=0∨i=1∨i=2∨i=3∨i=4∨i=5∨i=6∨i=7:=by omega
 rcases h with rfl|rfl|rfl|rfl|rfl|rfl|rfl|rfl<;>rfl
theorem Hw (r:R) (h:Int) (c:Cm) (v ho:Bool) (k:Nat→Int) (i:Nat) (hi:i<8) (Kr:St→Prop) (Ke:Nat→St→Prop):lo 117 8 (Ls H r h c v ho k i) Kr Ke=lo 117 8 (Ls H r h c (v||Hv r h c.nw i) (ho||(Hv r h c.nw i&&decide (r.ho=i))) (if Hv r h c.nw i=true then cd k i 0 else k) (i+1:Nat)) Kr Ke:=by
 have e1:decide ((i:Int)<8)=true:=by simp;omega
 have e2:decide (0≤(i:Int))=true:=by simp
 have e3:Int.toNat (i:Int)*1=i:=by simp
 have e5:0+i=i:=by omega
 have e6:Nat.ble (Nat.succ i) 8=true:=by simp;omega
 have hst:=oa 0 r.ty r.ho r.la hi;have hsk:=xc ⟨k,r.ty,r.ho,r.ge,r.la⟩ hi 0 r.ty r.ho r.ge r.la
 conv=>lhs;unfold Ls R.cs Cm.cs
 rw[Ip];(try simp only[NQ]);rw[aJ (by omega)];simp only[e1,e2,e3,e5,e6,zi r.k hi,hst,hsk,eT,bK,aq,aA,Bool.and_self];unfold Hv;generalize decide (r.k i=0)=b1;generalize decide ((i:Int)=h)=b2;generalize decide (c.nw=0)=b3;generalize decide (r.k i=c.nw)=b4;generalize decide (r.ho=(i:Int))=b5;cases b1
 ·cases b2
  ·cases b3<;>cases b4<;>cases v<;>cases ho<;>cases b5<;>rfl
  ·cases v<;>cases ho<;>rfl
 ·cases v<;>cases ho<;>rfl
theorem zj (r:R) (h:Int) (c:Cm) (v ho:Bool) (k:Nat→Int) (Kr:St→Prop) (Ke:Nat→St→Prop):lo 117 8 (Ls H r h c v ho k (8:Nat)) Kr Ke=Ke 0 (St.mk (ab [(1,T.v (V.int .i64 h)),(3,T.lp 3 0),(5,T.lp 5 0),(6,T.lp 6 0),(8,T.v (V.bool v)),(9,T.v (V.bool ho)),(10,T.lp 10 0)]) (ab [(3,aV.cells 46 r.cs),(5,aV.cells 41 c.cs),(6,aV.cells 46 (cP 0 0 0 0 0 0 0 0 0 0 0 false)),(10,aV.cells 46 (R.cs ⟨k,r.ty,r.ho,r.ge,r.la⟩))]) H):=by
 conv=>lhs;unfold Ls R.cs Cm.cs
 rw[Ip];(try simp only[NQ]);rfl
def jQ (r:R) (h new ty:Int):R×Int:=
 if (decide (new=0)&& !uo r.ty)=true then (r,1) else
 let b:=decide (new=0)||(decide (new=r.k h.toNat)&&(!decide (r.ty=0)&&decide (r.ho=h)))
 let ho:=Q9 r h new b 8
 if (!Fs r h new 8&& !ho)=true then (r,13) else
 let s:R:=⟨kV r h new 8,r.ty,r.ho,IntKind.u32.wrap (r.ge+1),r.la⟩
 if ho=true then (we (Bt s) h ty,0) else (s,0)
theorem Hx (r:R) (h:Int) (c:Cm) (h0:0≤h) (h8:h<8):cl 117 [.agg r.cs,.int .i64 h,.agg c.cs] H K=K (.tuple [.agg (jQ r h c.nw c.ty).1.cs,.int .i64 (jQ r h c.nw c.ty).2]) H:=by
 conv=>lhs;unfold R.cs Cm.cs
 rw[Xt];(try simp only[NQ]);have e4:h.toNat<8:=by omega
 have e6:Nat.succ h.toNat≤12:=by omega
 have hb:(bif !decide (c.nw=0) then decide (c.nw=r.k h.toNat)&&(!decide (r.ty=0)&&decide (r.ho=h)) else true)=
  (decide (c.nw=0)||(decide (c.nw=r.k h.toNat)&&(!decide (r.ty=0)&&decide (r.ho=h)))):=by
  cases decide (c.nw=0)<;>rfl
 have hm:aR (!decide (c.nw=0)) true true=true:=rfl;simp only[AK,reduceIte,Nat.reduceEqDiff,R.zf,Cm.zf,Ht,TO,zg r e4,h0,h8,e6,hb,hm];unfold jQ;generalize (decide (c.nw=0)||(decide (c.nw=r.k h.toNat)&&(!decide (r.ty=0)&&decide (r.ho=h))))=b
 have run:∀(Kr:St→Prop) (Ke:Nat→St→Prop),lo 117 8 (Ls H r h c false b r.k 0) Kr Ke=
  lo 117 8 (Ls H r h c (Fs r h c.nw 8) (Q9 r h c.nw b 8) (kV r h c.nw 8) (8:Nat)) Kr Ke:=by
  intro Kr Ke
  have step (i:Nat) (hi:i<8):lo 117 8 (Ls H r h c (Fs r h c.nw i) (Q9 r h c.nw b i) (kV r h c.nw i) i) Kr Ke=
   lo 117 8 (Ls H r h c (Fs r h c.nw (i+1)) (Q9 r h c.nw b (i+1)) (kV r h c.nw (i+1)) (i+1:Nat)) Kr Ke:=
   Hw H r h c _ _ _ i hi Kr Ke
  exact(step 0 (by omega)).trans ((step 1 (by omega)).trans ((step 2 (by omega)).trans ((step 3 (by omega)).trans ((step 4 (by omega)).trans ((step 5 (by omega)).trans ((step 6 (by omega)).trans (step 7 (by omega))))))))
 have hs:Ls H r h c false b r.k 0=Ls H r h c false b r.k 0:=rfl
 conv at hs=>lhs;unfold Ls
 have hc (k:Nat→Int) (ge:Int):cP (V.aa (ae (R.cs ⟨k,r.ty,r.ho,r.ge,r.la⟩) 0)) (V.aa (ae (R.cs ⟨k,r.ty,r.ho,r.ge,r.la⟩) 1)) (V.aa (ae (R.cs ⟨k,r.ty,r.ho,r.ge,r.la⟩) 2))
  (V.aa (ae (R.cs ⟨k,r.ty,r.ho,r.ge,r.la⟩) 3)) (V.aa (ae (R.cs ⟨k,r.ty,r.ho,r.ge,r.la⟩) 4)) (V.aa (ae (R.cs ⟨k,r.ty,r.ho,r.ge,r.la⟩) 5)) (V.aa (ae (R.cs ⟨k,r.ty,r.ho,r.ge,r.la⟩) 6))
  (V.aa (ae (R.cs ⟨k,r.ty,r.ho,r.ge,r.la⟩) 7)) (V.aa (ae (R.cs ⟨k,r.ty,r.ho,r.ge,r.la⟩) 8)) (V.aa (ae (R.cs ⟨k,r.ty,r.ho,r.ge,r.la⟩) 9)) ge (V.av (ae (R.cs ⟨k,r.ty,r.ho,r.ge,r.la⟩) 11))=
  R.cs ⟨k,r.ty,r.ho,ge,r.la⟩:=rfl
 have hg (k:Nat→Int):V.aa (ae (R.cs ⟨k,r.ty,r.ho,r.ge,r.la⟩) 10)=r.ge:=rfl;have ht:V.aa (ae c.cs 6)=c.ty:=rfl;have hz:aI px (cP 0 0 0 0 0 0 0 0 0 0 0 false)=true:=rfl;rw[hs,run,zj];simp only[AK,reduceIte,Nat.reduceEqDiff,R.dQ,Cm.dQ,R.eW,hz,hc,hg,ht,Dq,Jj,CE]
 grind
def doR (r:R) (h:Int) (c:Cm):R×Int:=
 if (decide (h<0)||(decide (h≥8)||(decide (c.kd<4)||decide (c.kd>8))))=true then (r,1) else
 if ((decide (c.kd=5)||(decide (c.kd=6)||decide (c.kd=8)))&& !right c.ty)=true then (r,1) else
 if (!decide (key r h=c.ky)||(decide (c.ky=0)&& !decide (c.kd=4)))=true then (r,13) else
 if decide (c.kd=4)=true then (kv r h c.nw c.la,0) else
 if decide (c.kd=5)=true then
  if (!decide (r.ty=0)&&(!holds r h|| !decide (r.ty=c.ty)))=true then (r,13) else
  if decide (r.ty=0)=true then (we r h c.ty,0) else (r,0) else
 if decide (c.kd=6)=true then
  if (!holds r h)=true then (r,0) else
  if (!decide (r.ty=c.ty))=true then (r,1) else (Bt r,0) else
 if decide (c.kd=7)=true then (⟨fun _=>0,0, -1,IntKind.u32.wrap (r.ge+1),r.la⟩,0) else
 jQ r h c.nw c.ty
theorem XV (r:R) (h:Int) (c:Cm):cl 81 [.agg r.cs,.int .i64 h,.agg c.cs] H K=K (.tuple [.agg (doR r h c).1.cs,.int .i64 (doR r h c).2]) H:=by
 conv=>lhs;unfold R.cs Cm.cs
 rw[aaV];(try simp only[NQ]);by_cases hr:0≤h∧h<8
 ·obtain⟨h0,h8⟩:=hr;have e4:h.toNat<8:=by omega
  have e6:Nat.succ h.toNat≤12:=by omega
  have hz (ge:Int) (la:Bool):cP 0 0 0 0 0 0 0 0 0 (-1) ge la=R.cs ⟨fun _=>0,0, -1,ge,la⟩:=rfl;simp only[AK,reduceIte,Nat.reduceEqDiff,R.zf,Cm.zf,Fo,Fp,Jj,Dq,Fq _ _ _ _ _ h0 h8,Hx _ _ _ _ _ h0 h8,TO,zg r e4,R.dQ,R.eW,hz,h0,h8,e6,CE];unfold doR key
  grind
 ·have e:(bif !decide (h<0) then bif !decide (h≥8) then bif !decide (c.kd<4) then decide (c.kd>8) else true else true else true)=true:=by
   by_cases h0:h<0
   ·simp [h0]
   ·have:h≥8:=by omega
    simp [this]
  rw[e,aq]
  have e':(decide (h<0)||(decide (h≥8)||(decide (c.kd<4)||decide (c.kd>8))))=true:=by
   by_cases h0:h<0
   ·simp [h0]
   ·have:h≥8:=by omega
    simp [this]
  unfold doR;rw[if_pos e'];rfl
end
theorem Cm.Bs (kd ox:Int) (dp:Oq) (dn dc:Nat) (su:Bool) (ky nw ty:Int) (la:Bool):nW kd ox dp dn dc su ky nw ty la=Cm.cs ⟨kd,ox,dp,dn,dc,su,ky,nw,ty,la⟩:=rfl
structure F9 (r:R):Prop where
 ty:r.ty=0∨right r.ty=true
 none:r.ty=0→r.ho= -1
 all:uo r.ty=true→r.ho= -1
 one:r.ty≠0→uo r.ty=false→∃i:Nat,i<8∧r.ho=i∧r.k i≠0
 some:r.ty≠0→∃i:Nat,i<8∧r.k i≠0
theorem TQ:F9 ⟨fun _=>0,0, -1,0,false⟩:=⟨.inl rfl,fun _=>rfl,fun _=>rfl,fun h=>absurd rfl h,fun h=>absurd rfl h⟩
theorem Hy {k:Nat→Int}:zh k=true↔∀i,i<8→k i=0:=by
 unfold zh;simp only[Bool.and_eq_true,Bool.or_false,decide_eq_true_eq];constructor
 ·rintro⟨h0,h1,h2,h3,h4,h5,h6,h7⟩ i hi;have h:i=0∨i=1∨i=2∨i=3∨i=4∨i=5∨i=6∨i=7:=by omega
  rcases h with rfl|rfl|rfl|rfl|rfl|rfl|rfl|rfl<;>assumption
 ·intro h;exact⟨h 0 (by omega),h 1 (by omega),h 2 (by omega),h 3 (by omega),h 4 (by omega),h 5 (by omega),h 6 (by omega),h 7 (by omega)⟩
theorem ur (r:R) (h new:Int):∀n j,kV r h new n j=if j<n∧Hv r h new j=true then 0 else r.k j
 |0,j=>by simp [kV]
 |n+1,j=>by
  have ih:=ur r h new n j;unfold kV;by_cases hv:Hv r h new n=true
  ·rw[if_pos hv];by_cases hj:j=n
   ·subst hj;rw[NU,if_pos ⟨by omega,hv⟩]
   ·rw[Hs hj,ih];by_cases hl:j<n<;>by_cases hw:Hv r h new j=true<;>simp [hl,hw]<;>omega
  ·rw[if_neg hv,ih];by_cases hj:j=n
   ·subst hj;simp [hv]
   ·by_cases hl:j<n<;>by_cases hw:Hv r h new j=true<;>simp [hl,hw]<;>omega
theorem NY (r:R) (h new:Int):∀n,Fs r h new n=true↔∃j,j<n∧Hv r h new j=true
 |0=>by simp [Fs]
 |n+1=>by
  unfold Fs;rw[Bool.or_eq_true,NY r h new n];constructor
  ·rintro(⟨j,h1,h2⟩|h)
   ·exact⟨j,by omega,h2⟩
   ·exact⟨n,by omega,h⟩
  ·rintro⟨j,h1,h2⟩;by_cases hj:j=n
   ·subst hj;exact .inr h2
   ·exact .inl ⟨j,by omega,h2⟩
theorem Jk (r:R) (h new:Int) (b:Bool):∀n,Q9 r h new b n=true↔b=true∨∃j:Nat,j<n∧Hv r h new j=true∧r.ho=j
 |0=>by simp [Q9]
 |n+1=>by
  unfold Q9;rw[Bool.or_eq_true,Jk r h new b n,Bool.and_eq_true,decide_eq_true_eq];constructor
  ·rintro((h|⟨j,h1,h2,h3⟩)|h)
   ·exact .inl h
   ·exact .inr ⟨j,by omega,h2,h3⟩
   ·exact .inr ⟨n,by omega,h.1,h.2⟩
  ·rintro(h|⟨j,h1,h2,h3⟩)
   ·exact .inl (.inl h)
   ·by_cases hj:j=n
    ·subst hj;exact .inr ⟨h2,h3⟩
    ·exact .inl (.inr ⟨j,by omega,h2,h3⟩)
theorem PY {r:R} {h new:Int} {i:Nat}:Hv r h new i=true↔r.k i≠0∧(i:Int)≠h∧(new=0∨r.k i=new):=by
 unfold Hv;simp [Bool.and_eq_true]
theorem vy {t:Int}:right t=true↔t=1∨t=3∨t=5∨t=6∨t=7∨t=8:=by
 unfold right;simp [or_assoc]
theorem Fu {r:R} {h t:Int} (h0:0≤h) (h8:h<8) (hk:r.k h.toNat≠0) (ht:right t=true):F9 (we r h t):=by
 rw[vy] at ht;refine⟨.inr (vy.2 ht),fun hz=> ?_,fun ha=> ?_,fun _ ha=> ?_,fun _=>⟨h.toNat,by omega,hk⟩⟩
 ·simp only[we] at hz;omega
 ·simp only[we] at ha⊢;rw[if_pos ha]
 ·simp only[we] at ha⊢;rw[if_neg (by simp [ha])];exact⟨h.toNat,by omega,by omega,hk⟩
theorem Fv {r:R}:F9 (Bt r):=⟨.inl rfl,fun _=>rfl,fun _=>rfl,fun h=>absurd rfl h,fun h=>absurd rfl h⟩
theorem KE {r:R} (hr:F9 r) {h:Int} (h0:0≤h) (h8:h<8):F9 (jt r h):=by
 unfold jt;simp only[];split
 ·exact Fv
 ·rename_i hn;rw[not_or] at hn;refine⟨hr.ty,hr.none,hr.all,fun h1 h2=> ?_,fun h1=> ?_⟩
  ·obtain⟨i,hi,e,hk⟩:=hr.one h1 h2;refine⟨i,hi,e, ?_⟩;have:i≠h.toNat:=by intro e2;exact hn.1 (by rw[e,e2];omega)
   simpa [Hs this] using hk
  ·have:=hn.2;rw[Hy] at this;simp only[Classical.not_forall] at this;obtain⟨i,hi,hk⟩:=this;exact⟨i,hi,hk⟩
theorem Ds {r:R} (hr:F9 r) {h new:Int} (h0:0≤h) (h8:h<8) (la:Bool):F9 (kv r h new la):=by
 unfold kv;simp only[];split
 ·have h2:F9 ⟨r.k,r.ty,r.ho,IntKind.u32.wrap (r.ge+1),la⟩:=⟨hr.ty,hr.none,hr.all,hr.one,hr.some⟩;exact KE h2 h0 h8
 ·rename_i hn;refine⟨hr.ty,hr.none,hr.all,fun h1 h2=> ?_,fun h1=> ?_⟩
  ·obtain⟨i,hi,e,hk⟩:=hr.one h1 h2;refine⟨i,hi,e, ?_⟩;simp only[cd];split
   ·exact hn
   ·exact hk
  ·exact⟨h.toNat,by omega,by simp only[NU];exact hn⟩
theorem Fw {r:R} (hr:F9 r) {h new ty:Int} (h0:0≤h) (h8:h<8) (hk:r.k h.toNat≠0) (ht:right ty=true):F9 (jQ r h new ty).1:=by
 unfold jQ;simp only[]
 have zw:kV r h new 8 h.toNat=r.k h.toNat:=by
  rw[ur,if_neg];rintro⟨_,hv⟩;rw[PY] at hv;exact hv.2.1 (by omega)
 split
 ·exact hr
 ·split
  ·exact hr
  ·split
   ·exact Fu h0 h8 (by simpa [Bt,zw] using hk) ht
   ·rename_i hn;rw[Jk] at hn;refine⟨hr.ty,hr.none,hr.all,fun h1 h2=> ?_,fun h1=>⟨h.toNat,by omega,by simpa [zw] using hk⟩⟩;obtain⟨i,hi,e,hki⟩:=hr.one h1 h2;refine⟨i,hi,e, ?_⟩;simp only[ur];rw[if_neg]
    ·exact hki
    ·rintro⟨_,hv⟩;exact hn (.inr ⟨i,hi,hv,e⟩)
theorem TS {r:R} (hr:F9 r) (h:Int) (c:Cm):F9 (doR r h c).1:=by
 unfold doR;split
 ·exact hr
 rename_i hv;simp only[Bool.or_eq_true,decide_eq_true_eq,not_or] at hv;have h0:0≤h:=by omega
 have h8:h<8:=by omega
 split
 ·exact hr
 rename_i ht;split
 ·exact hr
 rename_i hk;split
 ·exact Ds hr h0 h8 _
 rename_i h4
 have hk':r.k h.toNat≠0:=by
  unfold key at hk
  grind
 have Zz:(c.kd=5∨c.kd=6∨c.kd=8)→right c.ty=true:=by
  intro hc;simp only[Bool.and_eq_true,Bool.or_eq_true,decide_eq_true_eq,Bool.not_eq_true',not_and,Bool.not_eq_false] at ht;exact ht hc
 split
 ·rename_i h5;split
  ·exact hr
  ·split
   ·exact Fu h0 h8 hk' (Zz (.inl (by simpa using h5)))
   ·exact hr
 split
 ·split
  ·exact hr
  ·split
   ·exact hr
   ·exact Fv
 split
 ·exact⟨.inl rfl,fun _=>rfl,fun _=>rfl,fun h=>absurd rfl h,fun h=>absurd rfl h⟩
 ·rename_i h5 h6 h7;simp only[decide_eq_true_eq] at h4 h5 h6 h7;exact Fw hr h0 h8 hk' (Zz (.inr (.inr (by omega))))
def R.zero:R:=⟨fun _=>0,0,0,0,false⟩
def R.iM:R:=⟨fun _=>0,0, -1,0,false⟩
structure Ob where
 su:List (List UInt8)
 ps:List Pg
 r:R
def wt (p:Pg):Int×List UInt8:=(p.an,p.data)
theorem KG {α:Type} (key:α→Int) (a:Int) {l l':List α} (h:l.Perm l'):(l.map key).Nodup→l.find? (fun x=>decide (key x=a))=l'.find? (fun x=>decide (key x=a)):=by
 induction h with
 |nil=>exact fun _=>rfl
 |cons x _ ih=>
  intro hn;rw[List.map_cons,List.nodup_cons] at hn;simp only[List.find?_cons,ih hn.2]
 |swap x y l=>
  intro hn;rw[List.map_cons,List.map_cons,List.nodup_cons] at hn;have hne:key y≠key x:=fun h=>hn.1 (by simp [h])
  simp only[List.find?_cons];by_cases h1:key y=a
  ·have h2:key x≠a:=fun h=>hne (by omega)
   simp [h1,h2]
  ·by_cases h2:key x=a<;>simp [h1,h2]
 |trans h1 _ ih1 ih2=>
  intro hn;rw[ih1 hn,ih2 ((h1.map key).nodup_iff.1 hn)]
def vz (ps:List Pg) (a:Int):Option (List UInt8):=(ps.find? fun p=>decide (p.an=a)).map Pg.data
theorem Hz {ps:List Pg} (h:eV ps):(ps.map Pg.an).Nodup:=by
 rw[List.Nodup,List.pairwise_map];exact h.up.imp fun h=>by omega
theorem KH {ps ps':List Pg} (h:ps.Perm ps') (hn:(ps.map Pg.an).Nodup) (a:Int):vz ps a=vz ps' a:=by
 unfold vz;rw[KG Pg.an a h hn]
theorem Bu {ps:List Pg} {a:Int}:vz ps a=none↔gw ps a=false:=by
 unfold vz gw;rw[Option.map_eq_none_iff,List.find?_eq_none,List.any_eq_false]
theorem KI {ps:List Pg} (hs:eV ps) {a:Int} (hh:gw ps a=true) (hp:bM ps a<ps.length):vz ps a=some (ps[bM ps a]).data:=by
 obtain⟨_,he⟩:=(nq hs.up).1 hh;have h1:=KH (yw hp) (Hz hs) a;rw[h1];unfold vz;simp [he]
theorem Fx {ps:List Pg} (hs:ps.Pairwise fun x y=>x.an<y.an) (a:Int):gx ps a=ps.filter fun p=> !decide (p.an=a):=by
 induction ps with
 |nil=>rfl
 |cons p l ih=>
  obtain⟨h1,h2⟩:=List.pairwise_cons.1 hs;have ih:=ih h2;by_cases hlt:p.an<a
  ·have hne:¬p.an=a:=by omega
   have e1:bM (p::l) a=bM l a+1:=by rw[bM,if_pos hlt]
   have e2:gw (p::l) a=gw l a:=by unfold gw;simp [hne]
   rw[List.filter_cons];simp only[hne,decide_false,Bool.not_false,if_true];rw[←ih];unfold gx;rw[e1,e2];split<;>simp
  ·have e1:bM (p::l) a=0:=by rw[bM,if_neg hlt]
   have hl:l.filter (fun p=> !decide (p.an=a))=l:=by
    rw[List.filter_eq_self];intro x hx;have:=h1 x hx;have:¬x.an=a:=by omega
    simp [this]
   by_cases he:p.an=a
   ·have e2:gw (p::l) a=true:=by unfold gw;simp [he]
    unfold gx;rw[e1,e2,if_pos rfl,List.filter_cons];simp [he,hl]
   ·have e2:gw (p::l) a=false:=by
     unfold gw;rw[List.any_eq_false];intro x hx;rcases List.mem_cons.1 hx with rfl|hx
     ·simpa using he
     ·have:=h1 x hx;have:¬x.an=a:=by omega
      simpa using this
    unfold gx;rw[e2,if_neg (by simp),List.filter_cons];simp [he,hl]
def ey (su:List (List UInt8)) (ps:List Pg):List (List UInt8):=ps.foldl (fun s p=>s.set p.an.toNat p.data) su
theorem dG:∀(ps:List Pg) (su:List (List UInt8)),(ey su ps).length=su.length
 |[],_=>rfl
 |p::ps,su=>by
  show (ey (su.set p.an.toNat p.data) ps).length=su.length
  rw[dG ps,List.length_set]
theorem KJ {p:Pg} {ps:List Pg} (hs:eV (p::ps)):eV ps:=⟨(List.pairwise_cons.1 hs.up).2,fun x hx=>hs.lo x (List.mem_cons_of_mem _ hx),fun x hx=>hs.dl x (List.mem_cons_of_mem _ hx)⟩
def XW (o:Ob) (a:Int):List UInt8:=if 0≤a∧a<o.su.length then (vz o.ps a).getD (o.su.getD a.toNat []) else []
def mu (o:Ob):Ob:=⟨ey o.su o.ps,[],o.r⟩
def tO (o:Ob) (p:Pg) (sure:Bool):Ob:=
 if sure=true then ⟨o.su.set p.an.toNat p.data,gx o.ps p.an,o.r⟩ else
 if (iU o.ps p).2=11 then ⟨ey o.su o.ps,(iU [] p).1,o.r⟩ else ⟨o.su,(iU o.ps p).1,o.r⟩
def Fy (r:R) (power:Bool):R:=if power=true then if r.la=true then ⟨r.k,r.ty,r.ho,0,r.la⟩ else R.iM else r
def Bv (o:Ob) (power:Bool):Ob:=⟨o.su,[],Fy o.r power⟩
def uu (h:Int) (c:Cm) (n:Nat):Bool:=
 decide (0≤h)&&decide (h<8)&&decide (c.kd≤9)&&(!(decide (c.kd=0)||decide (c.kd=1)||decide (c.kd=2))||decide (0≤c.ox)&&decide (c.ox<n))&&(!decide (c.kd=1)||decide (c.dn≤64))
def UR (r:R) (h:Int) (c:Cm):Bool:=
 if c.kd=0 then xd r h false else if c.kd=1∨c.kd=2∨c.kd=3 then xd r h true else true
structure Rs where
 e:Int
 d:List UInt8
 r:R
def Dt (o:Ob) (h:Int) (c:Cm) (bR:List UInt8):Ob×Rs:=
 if uu h c o.su.length=false then (o,⟨1,[],R.zero⟩) else
 if UR o.r h c=false then (o,⟨13,[],R.zero⟩) else
 if c.kd=0 then (o,⟨0,XW o c.ox,R.zero⟩) else
 if c.kd=1 then (tO o ⟨c.ox,bR,false⟩ c.su,⟨0,[],R.zero⟩) else
 if c.kd=2 then (tO o ⟨c.ox,[],true⟩ c.su,⟨0,[],R.zero⟩) else
 if c.kd=3 then (mu o,⟨0,[],R.zero⟩) else
 if c.kd=9 then (o,⟨0,[],o.r⟩) else
 (⟨o.su,o.ps,(doR o.r h c).1⟩,⟨(doR o.r h c).2,[],R.zero⟩)
structure Ob.ok (o:Ob):Prop where
 n1:1≤o.su.length
 n2:o.su.length≤65536
 dl:∀b∈o.su,b.length≤64
 sort:eV o.ps
 le8:o.ps.length≤8
 inr:∀p∈o.ps,p.an<o.su.length
 wI:F9 o.r
theorem qC:eV []:=⟨.nil,nofun,nofun⟩
theorem vA:∀(ps:List Pg) (su:List (List UInt8)),(∀b∈su,b.length≤64)→(∀p∈ps,p.data.length≤64)→∀b∈ey su ps,b.length≤64
 |[],su,h,_=>h
 |p::ps,su,h,hp=>by
  refine vA ps (su.set p.an.toNat p.data) (fun b hb=> ?_) (fun x hx=>hp x (List.mem_cons_of_mem _ hx));rcases List.mem_or_eq_of_mem_set hb with hb|rfl
  ·exact h b hb
  ·exact hp p (List.mem_cons_self ..)
theorem zk {o:Ob} (h:o.ok):(mu o).ok:=
 ⟨by unfold mu;rw[dG];exact h.n1,by unfold mu;rw[dG];exact h.n2,vA _ _ h.dl h.sort.dl,qC,by simp [mu],nofun,h.wI⟩
theorem NZ {r:R} (h:F9 r) (power:Bool):F9 (Fy r power):=by
 unfold Fy;split
 ·split
  ·exact⟨h.ty,h.none,h.all,h.one,h.some⟩
  ·exact TQ
 ·exact h
theorem Du {o:Ob} (h:o.ok) (power:Bool):(Bv o power).ok:=⟨h.n1,h.n2,h.dl,qC,by simp [Bv],nofun,NZ h.wI power⟩
theorem PZ {ps:List Pg} (hl:ps.length≤8) {p:Pg} (h0:0≤p.an) (h1:p.an≤65535) (hd:p.data.length≤64):(iU ps p).2=if gw ps p.an=false∧ps.length≥8 then 11 else 0:=by
 unfold iU;rw[if_neg (by omega),if_neg (by omega)];cases gw ps p.an
 ·simp only[Bool.false_eq_true,if_false,true_and];split<;>rfl
 ·simp
theorem Dv {ps:List Pg} (hs:eV ps) {p x:Pg} (hx:x∈(iU ps p).1):x∈ps∨x=p.put:=by
 unfold iU at hx;split at hx
 ·exact .inl hx
 ·split at hx
  ·exact .inl hx
  ·split at hx
   ·exact List.mem_or_eq_of_mem_set hx
   ·split at hx
    ·exact .inl hx
    ·rcases List.mem_append.1 hx with hx|hx
     ·exact .inl (List.mem_of_mem_take hx)
     ·rcases List.mem_cons.1 hx with hx|hx
      ·exact .inr hx
      ·exact .inl (List.mem_of_mem_drop hx)
theorem Fz {ps:List Pg} {a:Int} {x:Pg} (hx:x∈gx ps a):x∈ps:=by
 unfold gx at hx;split at hx
 ·exact List.mem_of_mem_eraseIdx hx
 ·exact hx
theorem TT {o:Ob} (h:o.ok) {p:Pg} (h0:0≤p.an) (h1:p.an<o.su.length) (hd:p.data.length≤64) (sure:Bool):(tO o p sure).ok:=by
 have hn:=h.n2;unfold tO;split
 ·refine⟨by simpa using h.n1,by simpa using hn,fun b hb=> ?_,vv h.sort _,NR h.le8 _,fun x hx=>by simpa using h.inr x (Fz hx),h.wI⟩;rcases List.mem_or_eq_of_mem_set hb with hb|rfl
  ·exact h.dl b hb
  ·exact hd
 ·split
  ·have hf:=zk h;refine⟨hf.n1,hf.n2,hf.dl,Fm qC p,Jg (by simp) p,fun x hx=> ?_,h.wI⟩;rcases Dv qC hx with hx|rfl
   ·cases hx
   ·show p.an<((ey o.su o.ps).length:Int)
    rw[dG];exact h1
  ·refine⟨h.n1,hn,h.dl,Fm h.sort p,Jg h.le8 p,fun x hx=> ?_,h.wI⟩;rcases Dv h.sort hx with hx|rfl
   ·exact h.inr x hx
   ·exact h1
def Ad (n:Nat):Ob:=⟨List.replicate n [],[],R.iM⟩
theorem TU {n:Nat} (h1:1≤n) (h2:n≤65536):(Ad n).ok:=
 ⟨by simpa [Ad] using h1,by simpa [Ad] using h2,fun b hb=>by have:=(List.mem_replicate.1 hb).2;simp [this],qC,by simp [Ad],nofun,TQ⟩
theorem nY {H:ag} {q:Oq} {css:List (List V)} {n:Nat} (hr:Rd H q css.flatten) (hu:pH n css) {i k:Nat} (hi:i<css.length) (hk:k<n):q.isSome=true∧H.inb (q.getD (0,0)).1 ((q.getD (0,0)).2+i*n+k) 1=true∧H.cell (q.getD (0,0)).1 ((q.getD (0,0)).2+i*n+k)=ae css[i] k:=by
 have hlen:css.flatten.length=css.length*n:=cy hu
 have hle:i*n+n≤css.length*n:=by
  have:=Nat.mul_le_mul_right n (show i+1≤css.length by omega);rw[Nat.add_mul] at this;omega
 have hne:css.flatten≠[]:=by
  intro e;rw[e] at hlen;simp at hlen;omega
 refine⟨hr.some hne, ?_, ?_⟩
 ·have:=hr.inb (i:=i*n+k) (k:=1) (by omega) hne;rwa [←Nat.add_assoc] at this
 ·have h1:=hr.cell (i:=i*n+k) (by omega);rw[←Nat.add_assoc] at h1;rw[h1];have zJ:(css.flatten.drop (i*n)).take n=css[i]:=Iu hu hi;rw[ko,ko, ←zJ];simp only[List.getD_eq_getElem?_getD,List.getElem?_take,List.getElem?_drop,if_pos hk]
structure Sr where
 q:Oq
 c:Nat
 bs:List UInt8
section
variable {B:ag} {L:List bV} {H:ag} {K:V→ag→Prop} {id zo:Nat} {o:Ob} {q:Oq} {c n:Nat} {rs:List Sr} {r:R} {ps:List Pg}
theorem KK {p:Pg} {ps:List Pg} (hs:eV (p::ps)):gx (p::ps) p.an=ps:=by
 rw[Fx hs.up,List.filter_cons];simp only[decide_true,Bool.not_true,Bool.false_eq_true,if_false];rw[List.filter_eq_self];intro x hx;have:=(List.pairwise_cons.1 hs.up).1 x hx;have:¬x.an=p.an:=by omega
 simp [this]
theorem KL (h:az B H L):az B (H.alloc (.cells 91 [.slice none 0 0] false)) (dY H.next []::L):=by
 have h1:=h.alloc 91 [V.slice none 0 0];have h2:az B (H.alloc (.cells 91 [.slice none 0 0] false)) (Rw 138 3 none 0 (([]:List Rp).map Rp.cs)::bo (([]:List Rp).map Rp.bR)::di H.next 91 [V.slice none 0 0]::L):=h1.pI.rwNil _ _;have h3:=h2.up 2;simp only[iT,iH] at h3;exact az.qA (rs:=[]) h3
theorem N0 (x:Int) (c:Cm) (n:Int):cl 77 [.int .i64 x,.agg c.cs,.int .i64 n] H K=K (.bool (decide (0≤x)&&(decide (x<8)&&(decide (c.kd≤9)&&((!(decide (c.kd=0)||(decide (c.kd=1)||decide (c.kd=2)))||decide (0≤c.ox)&&decide (c.ox<n))&&(!decide (c.kd=1)||decide ((c.dn:Int)≤64))))))) H:=by
 conv=>lhs;unfold Cm.cs
 rw[aaW];(try simp only[NQ]);simp only[ge_iff_le];congr 2;generalize decide (0≤x)=b1;generalize decide (x<8)=b2;generalize decide (c.kd≤9)=b3;generalize decide (c.kd=0)=b4;generalize decide (c.kd=1)=b5;generalize decide (c.kd=2)=b6;generalize decide (0≤c.ox)=b7;generalize decide (c.ox<n)=b8;generalize decide ((c.dn:Int)≤64)=b9;cases b1<;>cases b2<;>cases b3<;>cases b4<;>cases b5<;>cases b6<;>cases b7<;>cases b8<;>cases b9<;>rfl
theorem N1 (x:Int) (c:Cm) (n:Nat):(decide (0≤x)&&(decide (x<8)&&(decide (c.kd≤9)&&((!(decide (c.kd=0)||(decide (c.kd=1)||decide (c.kd=2)))||decide (0≤c.ox)&&decide (c.ox<(n:Int)))&&(!decide (c.kd=1)||decide ((c.dn:Int)≤64))))))=uu x c n:=by
 unfold uu;have e:decide ((c.dn:Int)≤64)=decide (c.dn≤64):=by rw[decide_eq_decide];omega
 rw[e];simp only[Bool.and_assoc,Bool.or_assoc]
theorem FA (r:R) (x:Int) (c:Cm):cl 78 [.agg r.cs,.int .i64 x,.agg c.cs] H K=K (.bool (UR r x c)) H:=by
 conv=>lhs;unfold Cm.cs R.cs
 rw[aaX];(try simp only[NQ]);simp only[R.zf,Hu,AK,reduceIte,Nat.reduceEqDiff];unfold UR;by_cases h0:c.kd=0
 ·simp [h0]
 ·by_cases h1:c.kd=1
  ·simp [h1]
  ·by_cases h2:c.kd=2
   ·simp [h2]
   ·by_cases h3:c.kd=3<;>simp [h0,h1,h2,h3]
end
def Rs.cs (s:Rs) (q:Oq) (n:Nat):List V:=Ew s.e q s.d.length n (s.r.k 0) (s.r.k 1) (s.r.k 2) (s.r.k 3) (s.r.k 4) (s.r.k 5) (s.r.k 6) (s.r.k 7) s.r.ty s.r.ho s.r.ge s.r.la
theorem Rs.aI (s:Rs) (q:Oq) (n:Nat):aI RW (s.cs q n)=true:=rfl
theorem Rs.n1 (s:Rs) (q:Oq) (n:Nat):ae (s.cs q n) 1=.slice q s.d.length n:=rfl
def wc (w:Int×List UInt8):List V:=ZT w.1 (jJ w.2)
def st (bs:List UInt8):List V:=[.dS (jJ bs)]
def ll (k:Nat→Int):Nat→Bool
 |0=>false
 |n+1=>ll k n|| !decide (k n=0)
def zl (r:R):Bool:= !decide (r.ty=0)&& !uo r.ty
def oy (r:R):Bool:=
 !decide (r.ho< -1)&&(!decide (r.ho≥8)&&((decide (r.ty=0)||right r.ty)&&(decide (zl r=decide (r.ho≥0))&&((!zl r|| !decide (r.k r.ho.toNat=0))&&(decide (r.ty=0)||ll r.k 8)))))
def oz (r:R) (was now:Int):R:=if was=now then r else if r.la=false then ⟨fun _=>0,0, -1,0,false⟩ else ⟨r.k,r.ty,r.ho,0,r.la⟩
section
variable (H:ag) (K:V→ag→Prop)
theorem FB (r:R) (Kr:St→Prop) (Ke:Nat→St→Prop):∀(n i:Nat),i+n=8→lo 74 6 (St.mk (ab [(1,T.lp 1 0),(3,T.v (V.bool (ll r.k i))),(27,T.v (V.agg (vW (r.k 0) (r.k 1) (r.k 2) (r.k 3) (r.k 4) (r.k 5) (r.k 6) (r.k 7)))),(28,T.v (V.int .i64 (i:Int)))]) (ab [(1,aV.cells 46 r.cs)]) H) Kr Ke=Ke 0 (St.mk (ab [(1,T.lp 1 0),(3,T.v (V.bool (ll r.k 8)))]) (ab [(1,aV.cells 46 r.cs)]) H)
 |0,i,hi=>by
  obtain rfl:i=8:=by omega
  unfold R.cs;rw[Mx];(try simp only[NQ]);rfl
 |n+1,i,hi=>by
  have e1:decide ((i:Int)<8)=true:=by simp;omega
  have e2:decide (0≤(i:Int))=true:=by simp
  have e3:Int.toNat (i:Int)*1=i:=by simp
  have e6:Nat.ble (Nat.succ i) 8=true:=by simp;omega
  have e7:(bif !ll r.k i then !decide (r.k i=0) else true)=ll r.k (i+1):=by rw[ll];cases ll r.k i<;>rfl
  conv=>lhs;unfold R.cs
  rw[Mx];(try simp only[NQ]);rw[aJ (by omega)];simp only[e1,e2,e3,e6,zi r.k (show i<8 by omega),eT,bK,aq,aA,Bool.and_self,e7];exact FB r Kr Ke n (i+1) (by omega)
theorem N2 (r:R):cl 74 [.agg r.cs] H K=K (.bool (oy r)) H:=by
 conv=>lhs;unfold R.cs
 rw[aaS];(try simp only[NQ])
 have hl:∀Kr Ke,lo 74 6
  (St.mk (ab [(1,T.lp 1 0),(3,T.v (V.bool false)),(27,T.v (V.agg (vW (r.k 0) (r.k 1) (r.k 2) (r.k 3) (r.k 4) (r.k 5) (r.k 6) (r.k 7)))),(28,T.v (V.int .i64 0))])
   (ab [(1,aV.cells 46 r.cs)]) H) Kr Ke=_:=fun Kr Ke=>FB H r Kr Ke 8 0 (by omega)
 unfold R.cs at hl;simp only[AK,reduceIte,Nat.reduceEqDiff,Fo,CE,hl,f45,RU,L4,L5,L6,L7,L8,L9,Ma,Mb,Mc,Md,GO,GP];unfold oy;by_cases h1:r.ho< -1
 ·simp [h1]<;>exact Iff.rfl
 by_cases h2:r.ho≥8
 ·simp [h1,h2]<;>exact Iff.rfl
 have hidx:0+Int.toNat r.ho*1=Int.toNat r.ho:=by omega
 have h3:r.ho≤11:=by omega
 have h4:r.ho<8:=by omega
 have hone:zl r=(!decide (r.ty=0)&&(!decide (r.ty=7)&& !decide (r.ty=8))):=by
  unfold zl uo;by_cases h7:r.ty=7<;>by_cases h8:r.ty=8<;>simp [h7,h8]
 by_cases h0:0≤r.ho
 ·have hn:=um r (i:=r.ho.toNat) (by omega);simp only[hidx,hn,eT,bK];rw[hone];by_cases ht:r.ty=0
  ·simp [h1,h2,h0,ht,h3,h4,aO]<;>exact Iff.rfl
  ·cases hr:right r.ty
   ·simp [h1,h2,h0,ht,hr,h3,h4,aO]<;>exact Iff.rfl
   ·by_cases h7:r.ty=7
    ·simp [h1,h2,h0,ht,h7,h3,h4,aO]<;>exact Iff.rfl
    ·by_cases h8:r.ty=8
     ·simp [h1,h2,h0,ht,h7,h8,h3,h4,aO]<;>exact Iff.rfl
     ·by_cases hk:r.k r.ho.toNat=0
      ·simp [h1,h2,h0,ht,h7,h8,hk,h3,h4,aO]<;>exact Iff.rfl
      ·simp [h1,h2,h0,ht,h7,h8,hk,h3,h4,aO]<;>exact Iff.rfl
 ·rw[hone];by_cases ht:r.ty=0
  ·simp [h1,h2,h0,ht,h3,h4,aO]<;>exact Iff.rfl
  ·cases hr:right r.ty
   ·simp [h1,h2,h0,ht,hr,h3,h4,aO]<;>exact Iff.rfl
   ·by_cases h7:r.ty=7
    ·simp [h1,h2,h0,ht,h7,h3,h4,aO]<;>exact Iff.rfl
    ·by_cases h8:r.ty=8
     ·simp [h1,h2,h0,ht,h7,h8,h3,h4,aO]<;>exact Iff.rfl
     ·simp [h1,h2,h0,ht,h7,h8,h3,h4,aO]<;>exact Iff.rfl
theorem P1 (r:R) (was now:Int):cl 42 [.agg r.cs,.int .i64 was,.int .i64 now] H K=K (.agg (oz r was now).cs) H:=by
 conv=>lhs;unfold R.cs
 rw[aaR];(try simp only[NQ]);simp only[AK,reduceIte,Nat.reduceEqDiff,Ji,R.dQ,R.eW];unfold oz;by_cases h:was=now
 ·simp [h]<;>exact Iff.rfl
 ·cases hl:r.la<;>simp [h]<;>exact Iff.rfl
end
theorem Bw {k:Nat→Int}:∀{n:Nat},ll k n=true↔∃i,i<n∧k i≠0
 |0=>by simp [ll]
 |n+1=>by
  rw[ll,Bool.or_eq_true,Bw];constructor
  ·rintro(⟨i,h1,h2⟩|h)
   ·exact⟨i,by omega,h2⟩
   ·exact⟨n,by omega,by simpa using h⟩
  ·rintro⟨i,h1,h2⟩;by_cases hn:i=n
   ·subst hn;right;simpa using h2
   ·left;exact⟨i,by omega,h2⟩
structure R.ok (r:R):Prop where
 k:∀i,0≤r.k i∧r.k i≤4294967295
 ty:0≤r.ty∧r.ty≤255
 ho: -1≤r.ho∧r.ho≤254
 ge:0≤r.ge∧r.ge≤4294967295
def wJ (k:Nat→Int):Nat→List UInt8
 |0=>[]
 |n+1=>wJ k n++le (k n).toNat 4
theorem fP (k:Nat→Int):∀n,(wJ k n).length=4*n
 |0=>rfl
 |n+1=>by rw[wJ,List.length_append,fP k n,CK];omega
def gF (r:R) (boots:Nat):List UInt8:=
 wJ r.k 8++le r.ty.toNat 1++le (r.ho+1).toNat 1++le r.ge.toNat 4++le (if r.la=true then 1 else 0) 1++le boots 4
theorem uv (r:R) (boots:Nat):(gF r boots).length=43:=by
 simp [gF,fP]
theorem od {x:Int} (h0:0≤x) (h1:x≤18446744073709551615):IntKind.u64.wrap x=(x.toNat:Int):=by
 rw[IntWalk.u64_in _ ⟨h0,h1⟩];omega
section
variable {B:ag} {L:List bV} {H:ag} {K:V→ag→Prop} {q:Oq} {cap:Nat}
theorem Bx (r:R) (hr:r.ok) (x1:Int) {Kr:Am.St→Prop} {Ke:Nat→Am.St→Prop}:∀(n i:Nat) {q:Oq} {cap:Nat} {H:ag},i+n=8→az B H (BY q cap (wJ r.k i)::L)→(∀q' c' H',az B H' (BY q' c' (wJ r.k 8)::L)→Ke 0 (St.mk (ab [(1,T.v (V.int .i64 x1)),(2,T.lp 2 0),(5,T.v (V.slice q' (wJ r.k 8).length c'))]) (ab [(2,aV.cells 46 r.cs)]) H'))→lo 83 3 (St.mk (ab [(1,T.v (V.int .i64 x1)),(2,T.lp 2 0),(5,T.v (V.slice q (wJ r.k i).length cap)),(10,T.v (V.agg (vW (r.k 0) (r.k 1) (r.k 2) (r.k 3) (r.k 4) (r.k 5) (r.k 6) (r.k 7)))),(11,T.v (V.int .i64 (i:Int)))]) (ab [(2,aV.cells 46 r.cs)]) H) Kr Ke
 |0,i,q,cap,H,hi,h,k=>by
  obtain rfl:i=8:=by omega
  have:=k _ _ _ h;unfold R.cs at this⊢;rw[My];(try simp only[NQ]);exact this
 |n+1,i,q,cap,H,hi,h,k=>by
  have e1:decide ((i:Int)<8)=true:=by simp;omega
  have e2:decide (0≤(i:Int))=true:=by simp
  have e3:Int.toNat (i:Int)*1=i:=by simp
  have e6:Nat.ble (Nat.succ i) 8=true:=by simp;omega
  have e7:=hr.k i;unfold R.cs;rw[My];(try simp only[NQ]);rw[aJ (by omega)];simp only[e1,e2,e3,e6,zi r.k (show i<8 by omega),eT,bK,aq,aA,Bool.and_self];rw[od e7.1 (by omega)];refine dU (r.k i).toNat 4 h (by omega) (by rw[fP];omega) (fun q' c' H' h'=> ?_);simp only[AK,reduceIte,Nat.reduceEqDiff];exact Bx r hr x1 n (i+1) (by omega) h' k
theorem KM (r:R) (hr:r.ok) (boots:Nat) (hb:boots<18446744073709551616) (hb':boots<9223372036854775808) (h:az B H L) (k:∀q' c' H',az B H' (BY q' c' (gF r boots)::L)→K (.slice q' (gF r boots).length c') H'):cl 83 [.agg r.cs,.int .i64 (boots:Int)] H K:=by
 unfold R.cs;rw[aaT];(try simp only[NQ]);refine Bx (q:=none) (cap:=0) r hr boots 8 0 (by omega) (jW h) (fun q1 c1 H1 h1=> ?_);unfold R.cs;simp only[AK,reduceIte,Nat.reduceEqDiff,f45,RU,L4,L5,L6,L7,L8,L9,Ma,Mb,Mc,Md,GO,GP];have k1:=hr.ty;have k2:=hr.ho;have k3:=hr.ge;rw[od k1.1 (by omega)];refine dU r.ty.toNat 1 h1 (by omega) (by rw[fP];omega) (fun q2 c2 H2 h2=> ?_);simp only[AK,reduceIte,Nat.reduceEqDiff];rw[bn (by omega) (by omega),od (by omega) (by omega)];refine dU (r.ho+1).toNat 1 h2 (by omega) (by simp [fP]) (fun q3 c3 H3 h3=> ?_)
 have YS:∀(b:Bool),r.la=b→ah (aG (KT.k (bX.int IntKind.u64)) (some (T.v (V.int IntKind.u64 (((if r.la=true then 1 else 0:Nat)):Int))))||false||false)
  (cl 119 [V.slice q3 (wJ r.k 8++le r.ty.toNat 1++le (r.ho+1).toNat 1).length c3,V.int IntKind.u64 (IntKind.u64.wrap r.ge),V.int IntKind.i64 4] H3 fun v H'=>
   ah (V.aw bX.slice v) (cl 119 [V.slice (V.au v) (V.ax v) (V.aC v),V.int IntKind.u64 (((if r.la=true then 1 else 0:Nat)):Int),V.int IntKind.i64 1] H' fun v H'=>
    ah (V.aw bX.slice v) (cl 119 [V.slice (V.au v) (V.ax v) (V.aC v),V.int IntKind.u64 (IntKind.u64.wrap boots),V.int IntKind.i64 4] H' fun v H'=>
     ah (V.aw bX.slice v) (K (V.slice (V.au v) (V.ax v) (V.aC v)) H')))):=by
  intro b hb0;rw[od k3.1 (by omega),cx hb];simp only[AK,reduceIte,Nat.reduceEqDiff];refine dU r.ge.toNat 4 h3 (by omega) (by simp [fP]) (fun q4 c4 H4 h4=> ?_);simp only[AK,reduceIte,Nat.reduceEqDiff];refine dU _ 1 h4 (by omega) (by simp [fP]) (fun q5 c5 H5 h5=> ?_);simp only[AK,reduceIte,Nat.reduceEqDiff];refine dU boots 4 h5 (by omega) (by simp [fP]) (fun q6 c6 H6 h6=> ?_);simp only[AK,reduceIte,Nat.reduceEqDiff];exact k _ _ _ h6
 have:=YS r.la rfl;cases hl:r.la
 ·simpa [hl,AK,reduceIte,Nat.reduceEqDiff] using this
 ·simpa [hl,AK,reduceIte,Nat.reduceEqDiff] using this
end
def By (s:RS):Nat→RS×(Nat→Int)
 |0=>(s,fun _=>0)
 |n+1=>(((By s n).1.num 4 4294967295).2,cd (By s n).2 n (((By s n).1.num 4 4294967295).1:Nat))
structure XX where
 r:R
 n:Nat
 e:RS
def zm (s:RS×(Nat→Int)):XX:=
 let a:=s.1.num 1 255
 let b:=a.2.num 1 8
 let c:=b.2.num 4 4294967295
 let d:=c.2.num 1 1
 let e:=d.2.num 4 2147483647
 ⟨⟨s.2,(a.1:Nat),(b.1:Nat)-1,(c.1:Nat),decide ((d.1:Int)=1)⟩,e.1,e.2⟩
def sv (bs:List UInt8):XX:=zm (By ⟨bs,false⟩ 8)
def P2 (bs:List UInt8):Option (R×Nat):=
 if (sv bs).e.bB=false∧(sv bs).e.bs=[]∧oy (sv bs).r=true then some ((sv bs).r,(sv bs).n) else none
def ln (bs:List UInt8):R:=
 ⟨fun i=>if i<8 then (dj ((bs.drop (4*i)).take 4):Nat) else 0,(bs.getD 32 0).toNat,((bs.getD 33 0).toNat:Int)-1,(dj ((bs.drop 34).take 4):Nat),decide (((bs.getD 38 0).toNat:Int)=1)⟩
def ns (bs:List UInt8):Bool:=decide (bs.length=43)&&(decide ((bs.getD 33 0).toNat≤8)&&(decide ((bs.getD 38 0).toNat≤1)&&decide ((bs.getD 42 0).toNat≤127)))
def Dw (bs:List UInt8):Option (R×Nat):=
 if ns bs=true∧oy (ln bs)=true then some (ln bs,dj ((bs.drop 39).take 4)) else none
theorem zn (s:RS) (size most:Nat):(s.num size most).1≤most:=by
 unfold RS.num;split
 ·exact Nat.zero_le _
 ·simp only[];omega
theorem Rc (l:List UInt8):dj (l.take 4)≤4294967295:=by
 have:=wR (l.take 4);have h:(256:Nat) ^ (l.take 4).length≤256 ^ 4:=Nat.pow_le_pow_right (by omega) (by rw[List.length_take];omega);have h2:(256:Nat) ^ 4=4294967296:=by decide
 omega
theorem uw (bs:List UInt8):∀n,4*n≤bs.length→By ⟨bs,false⟩ n=(⟨bs.drop (4*n),false⟩,fun i=>if i<n then ((dj ((bs.drop (4*i)).take 4):Nat):Int) else 0)
 |0,_=>by simp [By]
 |n+1,h=>by
  rw[By,uw bs n (by omega)];simp only[];rw[jL (by simp;omega) (Rc _)];simp only[List.drop_drop];refine Prod.ext ?_ ?_
  ·simp only[];congr 1
  ·funext i;simp only[cd];by_cases h1:i=n
   ·subst h1;simp
   ·by_cases h2:i<n
    ·have:i<n+1:=by omega
     simp [h1,h2,this]
    ·have:¬i<n+1:=by omega
     simp [h1,h2,this]
theorem Jl (bs:List UInt8):∀n,(By ⟨bs,false⟩ n).1.bB=false→4*n≤bs.length
 |0,_=>by omega
 |n+1,h=>by
  rw[By] at h;obtain⟨h1,h2,_,_⟩:=im h;have:=Jl bs n h1;rw[uw bs n this] at h2;simp at h2;omega
theorem HA {bs:List UInt8} {i:Nat} (h:i<bs.length):(bs.drop i).take 1=[bs.getD i 0]:=by
 rw[List.drop_eq_getElem_cons h];simp only[List.getD,List.getElem?_eq_getElem h,Option.getD_some,List.take_succ_cons,List.take_zero]
theorem gy {bs:List UInt8} {i:Nat} (h:i<bs.length):dj ((bs.drop i).take 1)=(bs.getD i 0).toNat:=by
 rw[HA h];simp [dj]
theorem Bz {bs:List UInt8} (h:bs.length=43):dj ((bs.drop 39).take 4)≤2147483647↔(bs.getD 42 0).toNat≤127:=by
 have e:(bs.drop 39).take 4=(bs.drop 39).take 3++[bs.getD 42 0]:=by
  rw[List.take_add_one,List.getElem?_drop];simp [List.getD,h]
 have h3:=wR ((bs.drop 39).take 3);have hl:((bs.drop 39).take 3).length=3:=by simp [h]
 rw[e,pF,hl];rw[hl] at h3;have h2:(256:Nat) ^ 3=16777216:=by decide
 rw[h2] at h3⊢;simp only[dj];omega
theorem TW (bs:List UInt8):P2 bs=Dw bs:=by
 unfold P2 Dw;by_cases hl:bs.length=43
 ·have h1:By ⟨bs,false⟩ 8=_:=uw bs 8 (by omega);have h2:(RS.mk (bs.drop 32) false).num 1 255=_:=jL (by simp;omega) (by rw[gy (by omega)];have:=(bs.getD 32 0).toNat_lt;omega);by_cases h33:(bs.getD 33 0).toNat≤8
  ·have h3:(RS.mk (bs.drop 33) false).num 1 8=_:=jL (by simp;omega) (by rw[gy (by omega)];exact h33);have h4:(RS.mk (bs.drop 34) false).num 4 4294967295=_:=jL (by simp;omega) (Rc _);by_cases h38:(bs.getD 38 0).toNat≤1
   ·have h5:(RS.mk (bs.drop 38) false).num 1 1=_:=jL (by simp;omega) (by rw[gy (by omega)];exact h38);by_cases h42:(bs.getD 42 0).toNat≤127
    ·have h6:(RS.mk (bs.drop 39) false).num 4 2147483647=_:=jL (by simp;omega) ((Bz hl).2 h42)
     have hd:sv bs=⟨ln bs,dj ((bs.drop 39).take 4),⟨[],false⟩⟩:=by
      unfold sv zm ln;simp only[h1,h2,List.drop_drop,h3,h4,h5,h6,gy (show 32<bs.length by omega),gy (show 33<bs.length by omega),gy (show 38<bs.length by omega)];simp [hl]
     have hg:ns bs=true:=by unfold ns;rw[decide_eq_true hl,decide_eq_true h33,decide_eq_true h38,decide_eq_true h42];rfl
     rw[hd,hg];simp
    ·have h6:(RS.mk (bs.drop 39) false).num 4 2147483647=_:=tM (by simp;omega) (by have:=Bz hl;omega)
     have hd:(sv bs).e.bB=true:=by
      unfold sv zm;simp only[h1,h2,List.drop_drop,h3,h4,h5,h6]
     have hg:ns bs=false:=by unfold ns;rw[decide_eq_false h42];simp
     rw[hd,hg];simp
   ·have h5:(RS.mk (bs.drop 38) false).num 1 1=_:=tM (by simp;omega) (by rw[gy (by omega)];omega)
    have hd:(sv bs).e.bB=true:=by
     unfold sv zm;simp only[h1,h2,List.drop_drop,h3,h4,h5];exact tN rfl
    have hg:ns bs=false:=by unfold ns;rw[decide_eq_false h38];simp
    rw[hd,hg];simp
  ·have h3:(RS.mk (bs.drop 33) false).num 1 8=_:=tM (by simp;omega) (by rw[gy (by omega)];omega)
   have hd:(sv bs).e.bB=true:=by
    unfold sv zm;simp only[h1,h2,List.drop_drop,h3];exact tN (tN (tN rfl))
   have hg:ns bs=false:=by unfold ns;rw[decide_eq_false h33];simp
   rw[hd,hg];simp
 ·have hg:ns bs=false:=by unfold ns;rw[decide_eq_false hl];simp
  rw[hg,if_neg (fun h:false=true∧_=>by cases h.1),if_neg];rintro⟨hb,he,_⟩;unfold sv zm at hb he;simp only[] at hb he;obtain⟨b1,l1,_,e1⟩:=im hb;obtain⟨b2,l2,_,e2⟩:=im b1;obtain⟨b3,l3,_,e3⟩:=im b2;obtain⟨b4,l4,_,e4⟩:=im b3;obtain⟨b5,l5,_,e5⟩:=im b4;have hk:=Jl bs 8 b5;have h1:By ⟨bs,false⟩ 8=_:=uw bs 8 hk;rw[e1,e2,e3,e4,e5,h1] at he;rw[e2,e3,e4,e5,h1] at l1;rw[List.drop_drop,List.drop_drop,List.drop_drop,List.drop_drop,List.drop_drop,List.drop_eq_nil_iff] at he;simp at l1;omega
section
variable {B:ag} {L:List bV} {H:ag} {K:V→ag→Prop} {q:Oq} {cap:Nat} {bs:List UInt8} {id:Nat}
theorem BA {Kr:Am.St→Prop} {Ke:Nat→Am.St→Prop}:∀(n i:Nat) {H:ag},i+n=8→mW B H L id (By ⟨bs,false⟩ i).1→(∀H',mW B H' L id (By ⟨bs,false⟩ 8).1→Ke 0 (St.mk (ab [(2,T.lp 2 0),(5,T.v (V.ak (some (id,0)))),(6,T.lp 6 0)]) (ab [(2,aV.cells 46 (cP 0 0 0 0 0 0 0 0 0 0 0 false)),(6,aV.cells 46 (R.cs ⟨(By ⟨bs,false⟩ 8).2,0,0,0,false⟩))]) H'))→lo 41 4 (St.mk (ab [(2,T.lp 2 0),(5,T.v (V.ak (some (id,0)))),(6,T.lp 6 0),(11,T.v (V.int .i64 (i:Int)))]) (ab [(2,aV.cells 46 (cP 0 0 0 0 0 0 0 0 0 0 0 false)),(6,aV.cells 46 (R.cs ⟨(By ⟨bs,false⟩ i).2,0,0,0,false⟩))]) H) Kr Ke
 |0,i,H,hi,h,k=>by
  obtain rfl:i=8:=by omega
  have:=k _ h;unfold R.cs at this⊢;rw[Mw];(try simp only[NQ]);exact this
 |n+1,i,H,hi,h,k=>by
  have e1:decide ((i:Int)<8)=true:=by simp;omega
  have e2:decide (0≤(i:Int))=true:=by simp
  have e3:0+Int.toNat (i:Int)*1=i:=by simp
  have hm:=zn (By ⟨bs,false⟩ i).1 4 4294967295;unfold R.cs;rw[Mw];(try simp only[NQ]);rw[aJ (by omega),e1,aq];refine jY h 4 4294967295 (by omega) (fun H' h'=> ?_);rw[bK,tE (by omega)];have hst:=oa (((By ⟨bs,false⟩ i).1.num 4 4294967295).1:Nat) 0 0 false (show i<8 by omega);have hsk:=xc ⟨(By ⟨bs,false⟩ i).2,0,0,0,false⟩ (show i<8 by omega) (((By ⟨bs,false⟩ i).1.num 4 4294967295).1:Nat) 0 0 0 false;simp only[e1,e2,e3,hst,hsk,eT,aq,aA,Bool.and_self];exact BA n (i+1) (by omega) h' k
def HB:Option (R×Nat)→V
 |some (r,n)=>.tuple [.agg r.cs,.int .i64 (n:Int),.int .i64 0]
 |none=>.tuple [.agg (cP 0 0 0 0 0 0 0 0 0 0 0 false),.int .i64 0,.int .i64 3]
theorem KN (h:az B H L) (hr:lC B L q bs) (hc:bs.length≤cap) (k:∀H',az B H' L→K (HB (Dw bs)) H'):cl 41 [.slice q bs.length cap] H K:=by
 rw[aaQ];(try simp only[NQ]);refine ID h hr hc (fun id H1 h1=> ?_);simp only[AK,reduceIte,Nat.reduceEqDiff];refine BA (bs:=bs) 8 0 (by omega) h1 (fun H2 h2=> ?_);have hk':∀H',az B H' L→K (HB (P2 bs)) H':=fun H' h'=>by rw[TW];exact k H' h'
 unfold P2 sv at hk';generalize By ⟨bs,false⟩ 8=s at h2 hk'⊢;obtain⟨s,ks⟩:=s;unfold R.cs;simp only[AK,reduceIte,Nat.reduceEqDiff,f45,RU,L4,L5,L6,L7,L8,L9,Ma,Mb,Mc,Md,GO,GP];refine jY h2 1 255 (by omega) (fun H3 h3=> ?_);simp only[AK,reduceIte,Nat.reduceEqDiff];refine jY h3 1 8 (by omega) (fun H4 h4=> ?_);simp only[AK,reduceIte,Nat.reduceEqDiff];refine jY h4 4 4294967295 (by omega) (fun H5 h5=> ?_);simp only[AK,reduceIte,Nat.reduceEqDiff];refine jY h5 1 1 (by omega) (fun H6 h6=> ?_);simp only[AK,reduceIte,Nat.reduceEqDiff];refine jY h6 4 2147483647 (by omega) (fun H7 h7=> ?_);have m1:=zn s 1 255;have m2:=zn (s.num 1 255).2 1 8;have m3:=zn ((s.num 1 255).2.num 1 8).2 4 4294967295;have m4:=zn ((((s.num 1 255).2.num 1 8).2.num 4 4294967295).2.num 1 1).2 4 2147483647
 have hd:zm (s,ks)=⟨⟨ks,((s.num 1 255).1:Nat),(((s.num 1 255).2.num 1 8).1:Nat)-1,((((s.num 1 255).2.num 1 8).2.num 4 4294967295).1:Nat),
  decide ((((((s.num 1 255).2.num 1 8).2.num 4 4294967295).2.num 1 1).1:Int)=1)⟩,(((((s.num 1 255).2.num 1 8).2.num 4 4294967295).2.num 1 1).2.num 4 2147483647).1,(((((s.num 1 255).2.num 1 8).2.num 4 4294967295).2.num 1 1).2.num 4 2147483647).2⟩:=rfl
 simp only[hd] at hk';simp only[AK,reduceIte,Nat.reduceEqDiff,To h7];dsimp+instances only[bK];obtain⟨q7,c7,_,_,h7⟩:=h7.ex;have hk:=hk' H7 h7.drop;generalize s.num 1 255=a at m1 m2 m3 m4 hk⊢;generalize a.2.num 1 8=b at m2 m3 m4 hk⊢;generalize b.2.num 4 4294967295=c at m3 m4 hk⊢;generalize c.2.num 1 1=d at m4 hk⊢;generalize d.2.num 4 2147483647=e at m4 hk⊢;rw[vY,tD (n:=b.1) (by omega),bn (by omega) (by omega),tE (by omega),tD (by omega)];have e8:((UInt8.ofNat a.1).toNat:Int)=(a.1:Nat):=by simp;omega
 rw[e8,R.Bs ks];generalize R.mk ks (a.1:Nat) ((b.1:Nat)-1) (c.1:Nat) (decide ((d.1:Int)=1))=r at hk⊢;simp only[N2];cases hb:e.2.bB
 ·by_cases hn:e.2.bs=[]
  ·cases hf:oy r
   ·simpa [hb,hn,hf,HB] using hk
   ·simpa [hb,hn,hf,HB] using hk
  ·simpa [hb,hn,HB] using hk
 ·simpa [hb,HB] using hk
end
def KF:Nat:=200
structure Un where
 s:FS
 ps:List Pg
 r:R
 down:Bool
def FC (g:bW) (s:FS) (p:Pg):Option (FS×Int):=
 if p.bZ=true then I1 g KF s p.an.toNat else ua g KF KF s (Q1 p.an.toNat p.data)
def gJ (g:bW):List Pg→FS→List Pg→Option (FS×List Pg×Int)
 |[],s,ps=>some (s,ps,0)
 |p::l,s,ps=>match FC g s p with
  |none=>none
  |some r=>if r.2=0 then gJ g l r.1 (gx ps p.an) else some (r.1,ps,r.2)
def Dx (g:bW) (s:FS) (ps:List Pg) (p:Pg) (sure:Bool):Option (FS×List Pg×Int):=
 if sure=true then (match FC g s p with
  |none=>none
  |some r=>if r.2=0 then some (r.1,gx ps p.an,0) else some (r.1,ps,r.2))
 else if (iU ps p).2≠11 then some (s,(iU ps p).1,0)
 else match gJ g ps s ps with
  |none=>none
  |some r=>if r.2.2=0 then some (r.1,(iU r.2.1 p).1,(iU r.2.1 p).2) else some r
def ja (u:Un):Un×Int:=
 if u.s.a.off=true then ({u with down:=true},9) else if u.down=true∨(u.s.f.ep:Int)<u.s.a.aN then ({u with down:=true},7) else (u,0)
structure Ui where
 iQ:Nat
 zo:Nat
 aK:Nat
 fid:Nat
 mid:Nat
 pid:Nat
def KO (x:Ui) (m:Gm) (u:Un):List V:=
 ZS (some (x.aK,0)) m.g.aB m.g.ay m.g.aF m.q m.g.bB.length m.c (some (x.fid,0)) (some (x.zo,0)) (u.r.k 0) (u.r.k 1) (u.r.k 2) (u.r.k 3) (u.r.k 4) (u.r.k 5) (u.r.k 6) (u.r.k 7) u.r.ty u.r.ho u.r.ge u.r.la u.down
section
variable {B:ag} {L:List bV} {H:ag} {K:V→ag→Prop} {x:Ui} {m:Gm} {u:Un}
abbrev fI (B H:ag) (x:Ui) (m:Gm) (u:Un) (L:List bV):Prop:=
 az B H (di x.iQ 93 (KO x m u)::dY x.zo u.ps::di x.fid 120 (OK x.aK m u.s.f x.mid x.pid)::sE x.mid u.s.f.pm::Bd x.pid u.s.f.po::cO x.aK u.s.a::L)
theorem fI.fs (h:fI B H x m u L):fH B H x.aK x.fid x.mid x.pid m u.s (di x.iQ 93 (KO x m u)::dY x.zo u.ps::L):=h.ord [2,2,2,2]
theorem fI.np (h:fI B H x m u L):az B H (dY x.zo u.ps::di x.iQ 93 (KO x m u)::di x.fid 120 (OK x.aK m u.s.f x.mid x.pid)::sE x.mid u.s.f.pm::Bd x.pid u.s.f.po::cO x.aK u.s.a::L):=h.ord [1]
theorem fI.arr (h:fI B H x m u L):az B H (cO x.aK u.s.a::di x.iQ 93 (KO x m u)::dY x.zo u.ps::di x.fid 120 (OK x.aK m u.s.f x.mid x.pid)::sE x.mid u.s.f.pm::Bd x.pid u.s.f.po::L):=h.ord [5]
theorem fI.XY {s:FS} (h:fH B H x.aK x.fid x.mid x.pid m s (di x.iQ 93 (KO x m u)::dY x.zo u.ps::L)):fI B H x m {u with s:=s} L:=h.ord [4,4]
structure UnG (H:ag) (x:Ui) (m:Gm) (u:Un):Prop where
 i:∀k<20,H.inb x.iQ k 1=true
 c0:H.cell x.iQ 0=.ak (some (x.aK,0))
 c5:H.cell x.iQ 5=.ak (some (x.fid,0))
 c6:H.cell x.iQ 6=.ak (some (x.zo,0))
 c19:H.cell x.iQ 19=.bool u.down
 g:H.inb x.iQ 1 4=true∧H.sub x.iQ 1 4=cV m.g.aB m.g.ay m.g.aF m.q m.g.bB.length m.c
 r:H.inb x.iQ 7 12=true∧H.sub x.iQ 7 12=u.r.cs
 w:H.wr x.iQ 19 1=true
 wr:H.wr x.iQ 7 12=true
theorem BB (h:fI B H x m u L):UnG H x m u:=by
 have hg:=h.get;refine⟨fun k hk=>mU hg (by show k<20;exact hk),aX hg 0,aX hg 5,aX hg 6,aX hg 19,⟨dP hg 1 4, ?_⟩,⟨dP hg 7 12, ?_⟩,fY hg 19 1,fY hg 7 12⟩
 ·rw[lU hg];rfl
 ·rw[lU hg];rfl
theorem fI.ux (h:fI B H x m u L) (b:Bool):fI B (H.store x.iQ 19 [.bool b]) x m {u with down:=b} L:=by
 obtain⟨w,h1⟩:=az.AT (k:=19) h (by show 19<20;omega) (.bool b);exact h1
theorem FD (h:fI B H x m u L) (k:∀H',fI B H' x m (ja u).1 L→K (.int .i64 (ja u).2) H'):cl 44 [.ak (some (x.iQ,0))] H K:=by
 have g:=BB h;rw[aak];simp only[AN,reduceIte,Nat.reduceEqDiff,Option.isSome_some,Nat.zero_add,g.i 0 (by omega),g.c0];rw[XH h.arr];simp only[AN,reduceIte,Nat.reduceEqDiff];unfold ja at k;by_cases ho:u.s.a.off=true
 ·rw[if_pos ho] at k;simp only[ho,Bool.not_true,Bool.not_false,aq,g.w,Option.isSome_some,Nat.zero_add,aA];exact k _ (h.ux true)
 rw[if_neg ho] at k;have ho':u.s.a.off=false:=by simpa using ho
 have FN:∀K:V→ag→Prop,cl 76 [.ak (some (x.aK,0))] H K=K (.int .u64 u.s.a.aN) H:=fun K=>MJ h.arr
 have EP:∀K:V→ag→Prop,cl 58 [.ak (some (x.fid,0))] H K=K (.int .u64 (u.s.f.ep:Int)) H:=fun K=>Bj h.fs
 simp only[ho',Bool.not_false,Bool.not_true,ai,dW,Option.isSome_some,Nat.zero_add,g.i 19 (by omega),g.c19,g.i 0 (by omega),g.c0,g.i 5 (by omega),g.c5,FN,EP,g.w,AJ,reduceIte,Nat.reduceEqDiff];by_cases hd:u.down=true
 ·rw[if_pos (.inl hd)] at k;have:=k _ (h.ux true);simp only[hd,Bool.not_true,ai,aq,and_self];exact this
 ·have hd':u.down=false:=by simpa using hd
  simp only[hd',Bool.not_false,aq];by_cases hf:(u.s.f.ep:Int)<u.s.a.aN
  ·rw[if_pos (.inr hf)] at k;have:=k _ (h.ux true);have hf':u.s.a.aN>(u.s.f.ep:Int):=hf;simp only[hf',decide_true,aq,and_self];exact this
  ·rw[if_neg (fun e=>e.elim hd hf)] at k;have hf':¬u.s.a.aN>(u.s.f.ep:Int):=hf;simp only[hf',decide_false,ai,and_self];exact k H h
theorem BC (h:fI B H x m u L):cl 24 [.ak (some (x.iQ,0))] H K=K (.int .i64 (u.ps.length:Int)) H:=by
 have g:=BB h;have LN:∀K:V→ag→Prop,cl 53 [.ak (some (x.zo,0))] H K=K (.int .i64 (u.ps.length:Int)) H:=fun K=>TK h.np
 rw[aac];simp only[Option.isNone_some,Option.isSome_some,Nat.zero_add,g.i 6 (by omega),g.c6,LN,AJ,reduceIte,Nat.reduceEqDiff]
theorem N3 (h:fI B H x m u L):cl 15 [.ak (some (x.iQ,0))] H K=K (.agg u.r.cs) H:=by
 have g:=BB h;rw[Z8];simp only[Option.isNone_some,Option.isSome_some,Nat.zero_add,g.r.1,g.r.2,R.dQ,R.eW,AJ,reduceIte,Nat.reduceEqDiff]
theorem KP (h:fI B H x m u L):cl 36 [.ak (some (x.iQ,0))] H K=K (.int .u64 (u.s.f.ep:Int)) H:=by
 have g:=BB h;have EP:∀K:V→ag→Prop,cl 58 [.ak (some (x.fid,0))] H K=K (.int .u64 (u.s.f.ep:Int)) H:=fun K=>Bj h.fs
 rw[aaf];simp only[Option.isNone_some,Option.isSome_some,Nat.zero_add,g.i 5 (by omega),g.c5,EP,AJ,reduceIte,Nat.reduceEqDiff]
structure FE (g:bW) (p:Pg):Prop where
 lo:0≤p.an
 hi:p.an≤g.cap
 dl:p.data.length≤64
theorem Jm (hm:cY B L m) (hg:m.g.In) (hcap:m.g.cap<65000) (h:fI B H x m u L) (hok:aW m.g u.s) {p:Pg} (hp:FE m.g p) {q:Oq} {c:Nat} (hr:p.bZ=false→lC B L q p.data) {r:FS×Int} (hf:FC m.g u.s p=some r) (k:aW m.g r.1→∀H',fI B H' x m {u with s:=r.1} L→K (.int .i64 r.2) H'):cl 91 [.ak (some (x.iQ,0)),.agg (fN p.an q p.data.length c p.bZ)] H K:=by
 have g:=BB h;obtain⟨a,ha⟩:∃a:Nat,p.an=(a:Int):=⟨p.an.toNat,by have:=hp.lo;omega⟩;have hm2:cY B (di x.iQ 93 (KO x m u)::dY x.zo u.ps::L) m:=(hm.bg _).bg _;have hhi:=hp.hi;rw[aaF];unfold FC at hf;rw[ha,Int.toNat_natCast] at hf;rw[ha];by_cases hh:p.bZ=true
 ·rw[if_pos hh] at hf;simp only[hh,aq,Option.isSome_some,Nat.zero_add,g.i 5 (by omega),g.c5,AJ,reduceIte,Nat.reduceEqDiff];refine Nt hm2 hg hcap (by omega) hf hok h.fs (fun fg H1 h1=> ?_);simp only[AJ,reduceIte,Nat.reduceEqDiff];exact k fg H1 (fI.XY h1)
 ·rw[if_neg hh] at hf;have Yr:p.bZ=false:=by simpa using hh
  simp only[Yr,ai,Option.isSome_some,Nat.zero_add,g.i 5 (by omega),g.c5,AJ,reduceIte,Nat.reduceEqDiff];refine Bi hm2 hg hcap (((hr Yr).bg _).bg _) (by omega) hp.dl hf hok h.fs (fun fg H1 h1=> ?_);simp only[AJ,reduceIte,Nat.reduceEqDiff];exact k fg H1 (fI.XY h1)
end
theorem Jn (ps:List Pg) (a:Int):(gx ps a).length≤ps.length:=by
 unfold gx;split
 ·exact(List.eraseIdx_sublist ps _).length_le
 ·exact Nat.le_refl _
section
variable {B:ag} {L:List bV} {H:ag} {K:V→ag→Prop} {x:Ui} {m:Gm} {u:Un}
theorem BD (hm:cY B L m) (hg:m.g.In) (hcap:0≤m.g.cap∧m.g.cap<65000) {al:List Rp} {q8:Oq} {c8:Nat} (hb:al.length≤8) (hin:∀r∈al,FE m.g r.p) {Kr:Am.St→Prop} {Ke:Nat→Am.St→Prop}:∀(n i:Nat) (u:Un) {H:ag} {r:FS×List Pg×Int},i+n=al.length→gJ m.g ((al.map Rp.p).drop i) u.s u.ps=some r→aW m.g u.s→eV u.ps→u.ps.length≤8→fI B H x m u (Rw 138 3 q8 c8 (al.map Rp.cs)::bo (al.map Rp.bR)::L)→(r.2.2=0→aW m.g r.1→∀H',fI B H' x m {u with s:=r.1,ps:=r.2.1} (Rw 138 3 q8 c8 (al.map Rp.cs)::bo (al.map Rp.bR)::L)→Ke 0 (St.mk (ab []) (ab []) H'))→(r.2.2≠0→aW m.g r.1→∀H',fI B H' x m {u with s:=r.1,ps:=r.2.1} (Rw 138 3 q8 c8 (al.map Rp.cs)::bo (al.map Rp.bR)::L)→Kr (St.mk (ab [(2,T.v (V.int .i64 r.2.2))]) (ab []) H'))→lo 54 2 (St.mk (ab [(0,T.v (V.ak (some (x.iQ,0)))),(10,T.v (V.slice q8 al.length c8)),(11,T.v (V.int .i64 (al.length:Int))),(12,T.v (V.int .i64 (i:Int)))]) (ab []) H) Kr Ke
 |0,i,u,H,r,hi,hf,hok,hs,hl,h,k1,k2=>by
  obtain rfl:i=al.length:=by omega
  rw[Mp,decide_eq_false (by omega),ai];rw[List.drop_of_length_le (by simp),gJ] at hf;cases hf;exact k1 rfl hok H h
 |n+1,i,u,H,r,hi,hf,hok,hs,hl,h,k1,k2=>by
  have hlt:i<al.length:=by omega
  have g:=BB h;obtain⟨s1,s2',Gf⟩:=ku (h.ord [6]).wB hlt;have s2:H.inb (pb q8) (po q8+i*3) 3=true:=s2';have s3:H.sub (pb q8) (po q8+i*3) 3=al[i].cs:=Gf;have e1:(i:Int)<(al.length:Int):=by omega
  have e2:0≤(i:Int):=by omega
  have e3:IntKind.i64.wrap ((i:Int)+1)=((i+1:Nat):Int):=aJ (by omega);have UG:=hin _ (List.getElem_mem hlt);have hlo:=UG.lo;have hhi:=UG.hi;have n0:ae al[i].cs 0=.int .i64 al[i].p.an:=rfl;have hop:u7 (al[i].cs)=al[i].cs:=rfl;rw[List.drop_eq_getElem_cons (by simpa using hlt),List.getElem_map,gJ] at hf;rw[Mp];simp only[e1,e2,s1,s2,s3,Rp.aI,n0,hop,decide_true,aq,Int.toNat_natCast,AJ,reduceIte,Nat.reduceEqDiff]
  cases UH:FC m.g u.s al[i].p with
  |none=>rw[UH] at hf;cases hf
  |some o=>
   rw[UH] at hf;dsimp only at hf;have hr:al[i].p.bZ=false→lC B (Rw 138 3 q8 c8 (al.map Rp.cs)::bo (al.map Rp.bR)::L) al[i].q al[i].p.data:=fun _ H hs=>ze hs.drop hlt
   change cl 91 [V.ak (some (x.iQ,0)),V.agg (fN al[i].p.an al[i].q al[i].p.data.length al[i].c al[i].p.bZ)] H _
   refine Jm ((hm.bg _).bg _) hg hcap.2 h hok UG (c:=al[i].c) hr UH ?_;intro fQ H1 h1;have g1:=BB h1;simp only[AJ,reduceIte,Nat.reduceEqDiff];by_cases he:o.2=0
   ·rw[if_pos he] at hf;simp only[he,decide_true,Bool.not_true,ai,Option.isSome_some,Nat.zero_add,g1.i 6 (by omega),g1.c6,AJ,reduceIte,Nat.reduceEqDiff];refine Jh h1.np hs hl ⟨by omega,by omega⟩ (fun H2 h2=> ?_);simp only[e3];have h3:fI B H2 x m {u with s:=o.1,ps:=gx u.ps al[i].p.an} (Rw 138 3 q8 c8 (al.map Rp.cs)::bo (al.map Rp.bR)::L):=h2.ord [1];exact BD hm hg hcap hb hin n (i+1) {u with s:=o.1,ps:=gx u.ps al[i].p.an} (by omega) hf fQ (vv hs _) (Nat.le_trans (Jn _ _) hl) h3 k1 k2
   ·rw[if_neg he] at hf;cases hf;simp only[he,decide_false,Bool.not_false,aq];exact k2 he fQ H1 h1
theorem sw (hm:cY B L m) (hg:m.g.In) (hcap:0≤m.g.cap∧m.g.cap<65000) (h:fI B H x m u L) (hok:aW m.g u.s) (hs:eV u.ps) (hl:u.ps.length≤8) (hin:∀p∈u.ps,FE m.g p) {r:FS×List Pg×Int} (hf:gJ m.g u.ps u.s u.ps=some r) (k:aW m.g r.1→∀H',fI B H' x m {u with s:=r.1,ps:=r.2.1} L→K (.int .i64 r.2.2) H'):cl 54 [.ak (some (x.iQ,0))] H K:=by
 have g:=BB h;rw[aan];simp only[Option.isSome_some,Nat.zero_add,g.i 6 (by omega),g.c6,AJ,reduceIte,Nat.reduceEqDiff];refine TN h.np hs hl (fun q8 c8 H1 h1=> ?_);obtain⟨al,FX,h2⟩:=az.ay h1;simp only[AJ,reduceIte,Nat.reduceEqDiff];have hla:al.length=u.ps.length:=by rw[←FX,List.length_map]
 rw[←hla];have h3:fI B H1 x m u (Rw 138 3 q8 c8 (al.map Rp.cs)::bo (al.map Rp.bR)::L):=h2.ord [3,2,2,2,2,2];refine BD hm hg hcap (by omega) (fun r hr=>hin _ (by rw[←FX];exact List.mem_map.2 ⟨r,hr,rfl⟩)) al.length 0 u (by omega) (by rw[List.drop_zero,FX];exact hf) hok hs hl h3 (fun h0 fg H4 h4=> ?_) (fun h0 fg H4 h4=> ?_)
 ·simp only[AJ,reduceIte,Nat.reduceEqDiff];have:=k fg H4 (h4.ord [6,6]).drop.drop;rw[h0] at this;exact this
 ·simp only[AJ,reduceIte,Nat.reduceEqDiff];exact k fg H4 (h4.ord [6,6]).drop.drop
end
def N4 (g:bW) (u:Un) (h:Int) (c:Cm) (bR:List UInt8):Option (Un×Rs×Int):=
 if uu h c g.cap.toNat=false then some (u,⟨0,[],R.zero⟩,1) else
 if UR u.r h c=false then some (u,⟨0,[],R.zero⟩,13) else
 if c.kd=0 then (if gw u.ps c.ox=true then some (u,⟨0,(vz u.ps c.ox).getD [],R.zero⟩,0) else match u.s.nf c.ox.toNat with
  |none=>none
  |some t=>some (u,⟨0,t.data,R.zero⟩,0)) else
 if c.kd=1 then (match Dx g u.s u.ps ⟨c.ox,bR,false⟩ c.su with
  |none=>none
  |some r=>some ({u with s:=r.1,ps:=r.2.1},⟨0,[],R.zero⟩,r.2.2)) else
 if c.kd=2 then (match Dx g u.s u.ps ⟨c.ox,[],true⟩ c.su with
  |none=>none
  |some r=>some ({u with s:=r.1,ps:=r.2.1},⟨0,[],R.zero⟩,r.2.2)) else
 if c.kd=3 then (match gJ g u.ps u.s u.ps with
  |none=>none
  |some r=>some ({u with s:=r.1,ps:=r.2.1},⟨0,[],R.zero⟩,r.2.2)) else
 if c.kd=9 then some (u,⟨0,[],u.r⟩,0) else
 if (doR u.r h c).2≠0∨dZ (doR u.r h c).1.cs u.r.cs=true then some (u,⟨0,[],R.zero⟩,(doR u.r h c).2) else
 match ua g KF KF u.s (Q1 g.cap.toNat (gF (doR u.r h c).1 u.s.a.boots.toNat)) with
  |none=>none
  |some r=>if r.2=0 then some ({u with s:=r.1,r:=(doR u.r h c).1},⟨0,[],R.zero⟩,0) else some ({u with s:=r.1},⟨0,[],R.zero⟩,r.2)
def US (g:bW) (u:Un) (h:Int) (c:Cm) (bR:List UInt8):Option (Un×Rs×Int):=
 if (ja u).2≠0 then some ((ja u).1,⟨0,[],R.zero⟩,(ja u).2) else
 match N4 g u h c bR with
  |none=>none
  |some r=>if r.2.2=7∨r.2.2=9 then some ({r.1 with down:=true},⟨0,[],R.zero⟩,r.2.2) else some (r.1,{r.2.1 with e:=r.2.2},0)
def UT (g:bW) (u:Un):Option (Un×Int):=
 if (ja u).2≠0 then some (ja u) else
 match gJ g u.ps u.s u.ps with
  |none=>none
  |some r=>some ({u with s:=r.1,ps:=r.2.1,down:=u.down||(decide (r.2.2=7)||decide (r.2.2=9))},r.2.2)
section
variable {B:ag} {L:List bV} {H:ag} {K:V→ag→Prop} {x:Ui} {m:Gm} {u:Un}
structure N5 (g:bW) (u:Un):Prop where
 ok:aW g u.s
 sort:eV u.ps
 le8:u.ps.length≤8
 inr:∀p∈u.ps,FE g p
theorem P3 {ps:List Pg} {p:Pg} (h:(iU ps p).2=11):(iU ps p).1=ps:=by
 unfold iU at h⊢;split at h
 ·rename_i h1;rw[if_pos h1]
 ·rename_i h1;rw[if_neg h1];split at h
  ·rename_i h2;rw[if_pos h2]
  ·rename_i h2;rw[if_neg h2];split at h
   ·cases h
   ·rename_i h3;rw[if_neg h3];split at h
    ·rename_i h4;rw[if_pos h4]
    ·cases h
theorem KQ {ps:List Pg} {a:Int} {p:Pg} (h:p∈gx ps a):p∈ps:=by
 unfold gx at h;split at h
 ·exact(List.eraseIdx_sublist ps _).subset h
 ·exact h
theorem BE {g:bW}:∀{l:List Pg} {s:FS} {ps:List Pg} {r:FS×List Pg×Int},gJ g l s ps=some r→eV ps→ps.length≤8→(∀p∈ps,FE g p)→eV r.2.1∧r.2.1.length≤8∧∀p∈r.2.1,FE g p
 |[],s,ps,r,h,h1,h2,h3=>by rw[gJ] at h;cases h;exact⟨h1,h2,h3⟩
 |p::l,s,ps,r,h,h1,h2,h3=>by
  rw[gJ] at h;split at h
  ·cases h
  ·split at h
   ·exact BE h (vv h1 _) (Nat.le_trans (Jn _ _) h2) (fun p hp=>h3 p (KQ hp))
   ·cases h;exact⟨h1,h2,h3⟩
theorem P4 (hm:cY B L m) (hg:m.g.In) (hcap:0≤m.g.cap∧m.g.cap<65000) (h:fI B H x m u L) (hu:N5 m.g u) {p:Pg} (hp:FE m.g p) {q:Oq} {c:Nat} (hr:lC B L q p.data) {sure:Bool} {r:FS×List Pg×Int} (hf:Dx m.g u.s u.ps p sure=some r) (k:∀H',fI B H' x m {u with s:=r.1,ps:=r.2.1} L→K (.int .i64 r.2.2) H'):cl 80 [.ak (some (x.iQ,0)),.agg (fN p.an q p.data.length c p.bZ),.bool sure] H K:=by
 have g:=BB h;have hlo:=hp.lo;have hhi:=hp.hi;rw[aaD];unfold Dx at hf;by_cases hs:sure=true
 ·rw[if_pos hs] at hf;rw[hs,aq]
  cases UH:FC m.g u.s p with
  |none=>rw[UH] at hf;cases hf
  |some o=>
   rw[UH] at hf;dsimp only at hf;refine Jm hm hg hcap.2 h hu.ok hp (fun _=>hr) UH (fun fQ H1 h1=> ?_);have g1:=BB h1;simp only[AJ,reduceIte,Nat.reduceEqDiff];by_cases he:o.2=0
   ·rw[if_pos he] at hf;cases hf;simp only[he,decide_true,Bool.not_true,ai,Option.isSome_some,Nat.zero_add,g1.i 6 (by omega),g1.c6,AJ,reduceIte,Nat.reduceEqDiff];refine Jh h1.np hu.sort hu.le8 ⟨by omega,by omega⟩ (fun H2 h2=> ?_);exact k H2 (h2.ord [1])
   ·rw[if_neg he] at hf;cases hf;simp only[he,decide_false,Bool.not_false,aq];exact k H1 h1
 ·rw[if_neg hs] at hf;have hs':sure=false:=by simpa using hs
  rw[hs',ai];simp only[Option.isSome_some,Nat.zero_add,g.i 6 (by omega),g.c6,AJ,reduceIte,Nat.reduceEqDiff];refine NN h.np hu.sort hu.le8 p ⟨by omega,by omega⟩ (fun _=>hr H h.drop.drop.drop.drop.drop.drop) (fun H1 h1=> ?_);simp only[AJ,reduceIte,Nat.reduceEqDiff];by_cases zK:(iU u.ps p).2=11
  ·rw[if_neg (fun e=>e zK)] at hf;simp only[zK,decide_true,Bool.not_true,ai];have he:=P3 zK;rw[he] at h1;have h2:fI B H1 x m u L:=h1.ord [1]
   cases hfl:gJ m.g u.ps u.s u.ps with
   |none=>rw[hfl] at hf;cases hf
   |some o=>
    rw[hfl] at hf;dsimp only at hf;refine sw hm hg hcap h2 hu.ok hu.sort hu.le8 hu.inr hfl (fun fg H2 h2=> ?_);have g2:=BB h2;simp only[AJ,reduceIte,Nat.reduceEqDiff];by_cases h0:o.2.2=0
    ·rw[if_pos h0] at hf;cases hf;simp only[h0,decide_true,Bool.not_true,ai,Option.isSome_some,Nat.zero_add,g2.i 6 (by omega),g2.c6,AJ,reduceIte,Nat.reduceEqDiff];have hfp:=BE hfl hu.sort hu.le8 hu.inr;refine NN h2.np hfp.1 hfp.2.1 p ⟨by omega,by omega⟩ (fun _=>hr H2 h2.drop.drop.drop.drop.drop.drop) (fun H3 h3=> ?_);simp only[AJ,reduceIte,Nat.reduceEqDiff];exact k H3 (h3.ord [1])
    ·rw[if_neg h0] at hf;cases hf;simp only[h0,decide_false,Bool.not_false,aq];exact k H2 h2
  ·rw[if_pos zK] at hf;cases hf;simp only[zK,decide_false,Bool.not_false,aq];exact k H1 (h1.ord [1])
theorem uy (m:Gm):pw (cV m.g.aB m.g.ay m.g.aF m.q m.g.bB.length m.c)=cV m.g.aB m.g.ay m.g.aF m.q m.g.bB.length m.c:=rfl
theorem uz (m:Gm):aI wz (cV m.g.aB m.g.ay m.g.aF m.q m.g.bB.length m.c)=true:=rfl
theorem FF {ps:List Pg} (hs:eV ps) {a:Int} (hh:gw ps a=true) (hp:bM ps a<ps.length):(vz ps a).getD []=(ps[bM ps a]).data:=by
 rw[KI hs hh hp];rfl
theorem P5 (hm:cY B L m) (hg:m.g.In) (hcap:0≤m.g.cap∧m.g.cap<65000) (h:fI B H x m u L) (hu:N5 m.g u) (hh:Int) (c:Cm) (bR:List UInt8) (hd:c.dn=bR.length) (hr:lC B L c.dp bR) (UZ:(doR u.r hh c).1.ok) (hb:0≤u.s.a.boots∧u.s.a.boots<2147483648) {r:Un×Rs×Int} (hf:N4 m.g u hh c bR=some r) (k:∀q n H',fI B H' x m r.1 (BY q n r.2.1.d::L)→K (.tuple [.agg (r.2.1.cs q n),.int .i64 r.2.2]) H'):cl 45 [.ak (some (x.iQ,0)),.int .i64 hh,.agg c.cs] H K:=by
 have g:=BB h;obtain⟨N,hN⟩:∃N:Nat,m.g.cap=(N:Int):=⟨m.g.cap.toNat,by omega⟩;have nil:∀{u':Un} {H':ag},fI B H' x m u' L→fI B H' x m u' (BY none 0 []::L):=fun h'=>(jW h').ord [1,1,1,1,1,1]
 have ZF:∀A1 A2 A3 A4 A5 A6:bV,cY B (A1::A2::A3::A4::A5::A6::L) m:=fun A1 A2 A3 A4 A5 A6=>(((((hm.bg _).bg _).bg _).bg _).bg _).bg _
 conv in c.cs=>unfold Cm.cs
 rw[aal];simp only[Cm.zf,Option.isNone_some,Option.isSome_some,Option.getD_some,ai,aA,Nat.zero_add,g.g.1,g.g.2,uy,uz,Bool.and_self,og,oh,oM];refine GV h (ZF _ _ _ _ _ _) hg (fun H1 h1=> ?_);have h1:fI B H1 x m u L:=h1;have g1:=BB h1;simp only[eT,bK,aA,hN,N0,N1,gP,cD,g1.r.1,g1.r.2,R.dQ,R.eW,Bool.and_self,FA];unfold N4 at hf;rw[hN,Int.toNat_natCast] at hf;cases hv:uu hh c N
 ·rw[if_pos hv] at hf;cases hf;simp only[Bool.not_false,aq];exact k none 0 H1 (nil h1)
 rw[if_neg (by simp [hv])] at hf;simp only[Bool.not_true,ai];have Ql:=hv;unfold uu at Ql;simp only[Bool.and_eq_true,Bool.or_eq_true,Bool.not_eq_true',Bool.or_eq_false_iff,decide_eq_true_eq,decide_eq_false_iff_not] at Ql;obtain⟨⟨⟨⟨v1,v2⟩,v3⟩,v4⟩,v5⟩:=Ql;cases ZG:UR u.r hh c
 ·rw[if_pos ZG] at hf;cases hf;simp only[Bool.not_false,aq];exact k none 0 H1 (nil h1)
 rw[if_neg (by simp [ZG])] at hf;simp only[Bool.not_true,ai];by_cases k0:c.kd=0
 ·rw[if_pos k0] at hf;simp only[k0,decide_true,aq,g1.i 6 (by omega),g1.c6,qo,jk,Bool.and_self,aA];have wN:=v4.resolve_left (fun e=>e.1.1 k0);refine TM h1.np hu.sort hu.le8 ⟨by omega,by omega⟩ (fun hno H2 h2=> ?_) (fun hp q' c' H2 hyes ha h2=> ?_)
  ·rw[if_neg (by simp [hno])] at hf;have h2:fI B H2 x m u L:=h2.ord [1];have g2:=BB h2
   cases sC:u.s.nf c.ox.toNat with
   |none=>rw[sC] at hf;cases hf
   |some t=>
    rw[sC] at hf;cases hf;simp only[AJ,reduceIte,Nat.reduceEqDiff,Option.isSome_some,Nat.zero_add,g2.i 5 (by omega),g2.c5];obtain⟨a,ha⟩:∃a:Nat,c.ox=(a:Int):=⟨c.ox.toNat,by omega⟩;rw[ha,Int.toNat_natCast] at sC;rw[ha];refine Fc ((hm.bg _).bg _) h2.fs hu.ok hg (by omega) sC (fun q3 c3 H3 h3=> ?_);simp only[AJ,reduceIte,Nat.reduceEqDiff];exact k q3 c3 H3 (h3.ord [5,5])
  ·rw[if_pos hyes] at hf;cases hf;have h3:fI B H2 x m u (BY q' c' (u.ps[bM u.ps c.ox]).data::L):=h2.ord [2,1,1,1,1,1];simp only[AJ,reduceIte,Nat.reduceEqDiff];have:=k q' c' H2 (by rw[FF hu.sort hyes hp];exact h3);unfold Rs.cs at this;simp only[FF hu.sort hyes hp] at this;exact this
 rw[if_neg k0] at hf;simp only[k0,decide_false,ai];have hN':m.g.cap.toNat=N:=by omega
 have hput:∀p:Pg,FE m.g p→∀(q:Oq) (cc:Nat),lC B L q p.data→(match Dx m.g u.s u.ps p c.su with
  |none=>none
  |some r=>some ({u with s:=r.1,ps:=r.2.1},(⟨0,[],R.zero⟩:Rs),r.2.2))=some r→
  cl 80 [.ak (some (x.iQ,0)),.agg (fN p.an q p.data.length cc p.bZ),.bool c.su] H1 (fun v H'=>ah (V.aw (.int .i64) v) (K (V.tuple [V.agg (Ew 0 none 0 0 0 0 0 0 0 0 0 0 0 0 0 false),V.int .i64 (V.aa v)]) H')):=by
  intro p hp q cc hrd hf
  cases UI:Dx m.g u.s u.ps p c.su with
  |none=>rw[UI] at hf;cases hf
  |some o=>
   rw[UI] at hf;cases hf;refine P4 hm hg hcap h1 hu hp hrd UI (fun H2 h2=> ?_);simp only[AJ,reduceIte,Nat.reduceEqDiff];exact k none 0 H2 (nil h2)
 by_cases k1:c.kd=1
 ·rw[if_pos k1] at hf;simp only[k1,decide_true,aq];have wN:=v4.resolve_left (fun e=>e.1.2 k1);have hdn:c.dn≤64:=v5.resolve_left (fun e=>e k1);rw[hd];exact hput ⟨c.ox,bR,false⟩ ⟨wN.1,by show c.ox≤_;omega,by show bR.length≤64;omega⟩ c.dp c.dc hr hf
 rw[if_neg k1] at hf;simp only[k1,decide_false,ai];by_cases k2:c.kd=2
 ·rw[if_pos k2] at hf;simp only[k2,decide_true,aq];have wN:=v4.resolve_left (fun e=>e.2 k2);exact hput ⟨c.ox,[],true⟩ ⟨wN.1,by show c.ox≤_;omega,Nat.zero_le _⟩ none 0 (lC.nil _ _ _) hf
 rw[if_neg k2] at hf;simp only[k2,decide_false,ai];by_cases k3:c.kd=3
 ·rw[if_pos k3] at hf;simp only[k3,decide_true,aq]
  cases hfl:gJ m.g u.ps u.s u.ps with
  |none=>rw[hfl] at hf;cases hf
  |some o=>
   rw[hfl] at hf;cases hf;refine sw hm hg hcap h1 hu.ok hu.sort hu.le8 hu.inr hfl (fun fg H2 h2=> ?_);simp only[AJ,reduceIte,Nat.reduceEqDiff];exact k none 0 H2 (nil h2)
 rw[if_neg k3] at hf;simp only[k3,decide_false,ai];by_cases k9:c.kd=9
 ·rw[if_pos k9] at hf;cases hf;simp only[k9,decide_true,aq];exact k none 0 H1 (nil h1)
 rw[if_neg k9] at hf;simp only[k9,decide_false,ai,g1.r.1,g1.r.2,R.dQ,R.eW,Bool.and_self,aA,XV,fU,jj,fT,kW,il,eS,eT,bK,Bool.or_false,List.length_cons,List.length_nil,Nat.reduceAdd,lN,decide_true,Option.isSome_some,Bool.true_and,Bool.and_true,aO,ite_self];obtain⟨d,Ov⟩:∃d,d=doR u.r hh c:=⟨_,rfl⟩;rw[←Ov] at hf UZ⊢;by_cases hq1:d.2=0
 case neg=>
  rw[if_pos (.inl hq1)] at hf;cases hf;simp only[hq1,decide_false,Bool.not_false,Bool.not_true,cond_false,aq];exact k none 0 H1 (nil h1)
 simp only[hq1,decide_true,Bool.not_true,Bool.not_false,cond_true];cases OL:dZ d.1.cs u.r.cs
 case true=>
  rw[if_pos (.inr OL)] at hf;cases hf;rw[aq];have:=k none 0 H1 (nil h1);simp only[hq1] at this;exact this
 rw[if_neg (by simp [hq1,OL])] at hf;rw[ai];obtain⟨bt,OJ⟩:∃bt:Nat,u.s.a.boots=(bt:Int):=⟨u.s.a.boots.toNat,by omega⟩;rw[OJ,Int.toNat_natCast] at hf
 cases UI:ua m.g KF KF u.s (Q1 N (gF d.1 bt)) with
 |none=>rw[UI] at hf;cases hf
 |some o=>
  rw[UI] at hf;dsimp only at hf;refine jn (fun S:Am.St=>S.1 14=some (T.v (V.int .i64 o.2))∧fI B S.3 x m {u with s:=o.1} L) (fun(S:Am.St) OG=> ?_) (fun Q hQ=> ?_)
  ·obtain⟨abE,hS⟩:=OG;generalize S.3=H2 at hS⊢;have g2:=BB hS;simp only[abE,AJ,reduceIte,Nat.reduceEqDiff];by_cases h0:o.2=0
   ·rw[if_pos h0] at hf;cases hf;simp only[h0,decide_true,Bool.not_true,ai,Option.isSome_some,Nat.zero_add,g2.wr,aA];have h3:=hS.store (off:=7) (vs:=d.1.cs);have e2:bL (KO x m {u with s:=o.1}) 7 d.1.cs=KO x m {u with s:=o.1,r:=d.1}:=rfl;rw[e2] at h3;exact k none 0 _ (nil h3)
   ·rw[if_neg h0] at hf;cases hf;simp only[h0,decide_false,Bool.not_false,aq];exact k none 0 H2 (nil hS)
  ·have MT:∀(K:V→ag→Prop),(∀H',fI B H' x m u L→K (.int .i64 (N:Int)) H')→cl 40 [V.agg (cV m.g.aB m.g.ay m.g.aF m.q m.g.bB.length m.c)] H1 K:=fun K k=>by
    rw[←hN] at k;exact tJ h1 (ZF _ _ _ _ _ _) hg (fun H' h'=>k H' h')
   have BO:∀(H':ag) (K:V→ag→Prop),fI B H' x m u L→cl 43 [V.ak (some (x.aK,0))] H' K=K (.int .i64 (bt:Int)) H':=fun H' K h'=>by
    rw[ET h'.arr,OJ]
   have EN:∀(H':ag) (K:V→ag→Prop),fI B H' x m u L→(∀q' c' H2,fI B H2 x m u (BY q' c' (gF d.1 bt)::L)→K (.slice q' (gF d.1 bt).length c') H2)→cl 83 [V.agg d.1.cs,V.int .i64 (bt:Int)] H' K:=fun H' K h' k=>
    KM d.1 UZ bt (by omega) (by omega) h' (fun q' c' H2 h2=>k q' c' H2 (h2.ord [1,1,1,1,1,1]))
   have hel:(gF d.1 bt).length≤64:=by rw[uv];omega
   have WR:∀(H':ag) (q':Oq) (c':Nat) (K:V→ag→Prop),fI B H' x m u (BY q' c' (gF d.1 bt)::L)→(∀H2,fI B H2 x m {u with s:=o.1} L→K (.int .i64 o.2) H2)→cl 82 [V.ak (some (x.fid,0)),V.int .i64 (N:Int),V.slice q' (gF d.1 bt).length c'] H' K:=fun H' q' c' K h' k=>by
    refine Bi (((hm.bg _).bg _).bg _) hg hcap.2 (L:=di x.iQ 93 (KO x m u)::dY x.zo u.ps::BY q' c' (gF d.1 bt)::L) (fun H hs=>(hs.ord [2]).gQ) (by omega) hel UI hu.ok h'.fs (fun fg H2 h2=>k H2 ?_);exact((h2.ord [4,4,4]).ord [2]).drop
   simp only[Option.isSome_some,Nat.zero_add,g1.i 5 (by omega),g1.c5,g1.i 0 (by omega),g1.c0,g1.g.1,g1.g.2,uy,uz,AJ,reduceIte,Nat.reduceEqDiff]
   repeat' apply And.intro
   all_goals
    refine MT _ (fun H2 h2=> ?_);have g2:=BB h2;simp only[Option.isSome_some,Nat.zero_add,g2.i 5 (by omega),g2.c5,g2.i 0 (by omega),g2.c0,AJ,reduceIte,Nat.reduceEqDiff,BO H2 _ h2]
    repeat' apply And.intro
    all_goals
     refine EN H2 _ h2 (fun q3 c3 H3 h3=> ?_);have g3:=BB h3;simp only[Option.isSome_some,Nat.zero_add,g3.i 5 (by omega),g3.c5,AJ,reduceIte,Nat.reduceEqDiff];refine WR H3 q3 c3 _ h3 (fun H4 h4=> ?_);simp only[AJ,reduceIte,Nat.reduceEqDiff];exact hQ _ ⟨rfl,h4⟩
end
section
variable {B:ag} {L:List bV} {H:ag} {K:V→ag→Prop} {x:Ui} {m:Gm} {u:Un}
theorem BF (u:Un):(ja u).1.s=u.s∧(ja u).1.ps=u.ps∧(ja u).1.r=u.r∧((ja u).2=0→(ja u).1=u):=by
 unfold ja;split
 ·exact⟨rfl,rfl,rfl,fun h=>by cases h⟩
 split
 ·exact⟨rfl,rfl,rfl,fun h=>by cases h⟩
 ·exact⟨rfl,rfl,rfl,fun _=>rfl⟩
theorem TX (hm:cY B L m) (hg:m.g.In) (hcap:0≤m.g.cap∧m.g.cap<65000) (h:fI B H x m u L) (hu:N5 m.g u) (hh:Int) (c:Cm) (bR:List UInt8) (hd:c.dn=bR.length) (hr:lC B L c.dp bR) (UZ:(doR u.r hh c).1.ok) (hb:0≤u.s.a.boots∧u.s.a.boots<2147483648) {r:Un×Rs×Int} (hf:US m.g u hh c bR=some r) (k:∀q n H',fI B H' x m r.1 (BY q n r.2.1.d::L)→K (.tuple [.agg (r.2.1.cs q n),.int .i64 r.2.2]) H'):cl 16 [.ak (some (x.iQ,0)),.int .i64 hh,.agg c.cs] H K:=by
 have nil:∀{u':Un} {H':ag},fI B H' x m u' L→fI B H' x m u' (BY none 0 []::L):=fun h'=>(jW h').ord [1,1,1,1,1,1]
 conv in c.cs=>unfold Cm.cs
 rw[Z9];simp only[Cm.zf,Option.isNone_some,ai];refine FD h (fun H1 h1=> ?_);simp only[AJ,reduceIte,Nat.reduceEqDiff];unfold US at hf;by_cases hl:(ja u).2=0
 case neg=>
  rw[if_pos hl] at hf;cases hf;simp only[hl,decide_false,Bool.not_false,aq];exact k none 0 H1 (nil h1)
 rw[if_neg (fun e=>e hl)] at hf;rw[(BF u).2.2.2 hl] at h1;simp only[hl,decide_true,Bool.not_true,ai]
 cases ho:N4 m.g u hh c bR with
 |none=>rw[ho] at hf;cases hf
 |some o=>
  rw[ho] at hf;dsimp only at hf;refine P5 hm hg hcap h1 hu hh c bR hd hr UZ hb ho (fun q n H2 h2=> ?_);have h2:fI B H2 x m o.1 (BY q n o.2.1.d::L):=h2;have g2:=BB h2;simp only[AJ,reduceIte,Nat.reduceEqDiff,Rs.aI,Rs.n1];by_cases Y1:o.2.2=7∨o.2.2=9
  ·rw[if_pos Y1] at hf;cases hf;have h3:fI B _ x m {o.1 with down:=true} L:=((h2.ux true).ord [6]).drop;by_cases h7:o.2.2=7
   ·simp only[h7,decide_true,Bool.not_true,cond_false,aq,Option.isSome_some,Nat.zero_add,g2.w,AJ,reduceIte,Nat.reduceEqDiff];have:=k none 0 _ (nil h3);simp only[h7] at this;exact this
   ·have h9:o.2.2=9:=Y1.resolve_left h7;simp only[h9,decide_true,aq,Option.isSome_some,Nat.zero_add,g2.w,AJ,reduceIte,Nat.reduceEqDiff];have:=k none 0 _ (nil h3);simp only[h9] at this;exact this
  ·rw[if_neg Y1] at hf;cases hf;have h7:¬o.2.2=7:=fun e=>Y1 (.inl e)
   have h9:¬o.2.2=9:=fun e=>Y1 (.inr e)
   simp only[h7,h9,decide_false,Bool.not_false,cond_true,ai];exact k q n H2 h2
theorem TY (hm:cY B L m) (hg:m.g.In) (hcap:0≤m.g.cap∧m.g.cap<65000) (h:fI B H x m u L) (hu:N5 m.g u) {r:Un×Int} (hf:UT m.g u=some r) (k:∀H',fI B H' x m r.1 L→K (.int .i64 r.2) H'):cl 25 [.ak (some (x.iQ,0))] H K:=by
 rw[aad];simp only[Option.isNone_some,ai];refine FD h (fun H1 h1=> ?_);simp only[AJ,reduceIte,Nat.reduceEqDiff];unfold UT at hf;by_cases hl:(ja u).2=0
 case neg=>
  rw[if_pos hl] at hf;cases hf;simp only[hl,decide_false,Bool.not_false,aq];exact k H1 h1
 rw[if_neg (fun e=>e hl)] at hf;rw[(BF u).2.2.2 hl] at h1;simp only[hl,decide_true,Bool.not_true,ai]
 cases hfl:gJ m.g u.ps u.s u.ps with
 |none=>rw[hfl] at hf;cases hf
 |some o=>
  rw[hfl] at hf;cases hf;refine sw hm hg hcap h1 hu.ok hu.sort hu.le8 hu.inr hfl (fun fg H2 h2=> ?_);have h2:fI B H2 x m {u with s:=o.1,ps:=o.2.1} L:=h2;have g2:=BB h2
  have w:∀b:Bool,(u.down||(decide (o.2.2=7)||decide (o.2.2=9)))=b→K (.int .i64 o.2.2) (H2.store x.iQ 19 [.bool b]):=fun b hb=>by
   subst hb;exact k _ (h2.ux _)
  simp only[Option.isSome_some,Nat.zero_add,g2.i 19 (by omega),g2.c19,g2.w,AJ,reduceIte,Nat.reduceEqDiff];cases hdn:u.down
  ·simp only[Bool.not_false,aq];by_cases h7:o.2.2=7
   ·have:=w true (by simp [h7]);simp only[h7,decide_true,Bool.not_true,ai] at this⊢;exact this
   ·simp only[h7,decide_false,Bool.not_false,aq];by_cases h9:o.2.2=9
    ·have:=w true (by simp [h9]);simp only[h9,decide_true] at this⊢;exact this
    ·have:=w false (by simp [h7,h9,hdn]);simp only[h9,decide_false];exact this
  ·simp only[Bool.not_true,ai];exact w true (by simp [hdn])
def uM (g:bW) (s:FS):Option Un:=match s.nf g.cap.toNat with
 |none=>none
 |some t=>if t.data.length=0 then some ⟨s,[],R.iM,false⟩ else match Dw t.data with
  |none=>none
  |some d=>some ⟨s,[],oz d.1 d.2 s.a.boots,false⟩
theorem KR {aK:Nat} {a:Ar} (h:az B H (cO aK a::L)) (hm:cY B L m) (hf:m.g.cN=true) (hg:m.g.In) (hr:a.rd m.g) (hc:0≤m.g.cap∧m.g.cap<65000) {ep:Nat} (RI:1≤ep∧ep<281474976710656) (zt:∀sq,(cu m.g sq a ep).2=0→∃v,uM m.g (cu m.g sq a ep).1=some v) (k1:∀pz x v H',x.aK=aK→wU pz=a.z8 m.g→(cu m.g (dX pz) a ep).2=0→aW m.g (cu m.g (dX pz) a ep).1→uM m.g (cu m.g (dX pz) a ep).1=some v→fI B H' x m v L→K (.tuple [.ak (some (x.iQ,0)),.int .i64 0]) H') (k2:∀pz H',wU pz=a.z8 m.g→(cu m.g (dX pz) a ep).2≠0→aW m.g (cu m.g (dX pz) a ep).1→az B H' (cO aK (cu m.g (dX pz) a ep).1.a::L)→K (.tuple [.ak none,.int .i64 (cu m.g (dX pz) a ep).2]) H'):cl 13 [.ak (some (aK,0)),m.v,.int .u64 (ep:Int)] H K:=by
 obtain⟨N,hN⟩:∃N:Nat,m.g.cap=(N:Int):=⟨m.g.cap.toNat,by omega⟩;have hv:m.v=.agg (cV m.g.aB m.g.ay m.g.aF m.q m.g.bB.length m.c):=rfl;rw[hv,Z6, ←hv];simp only[Option.isNone_some,ai];refine Kq h hm hf hg hr hc RI (fun pz fid mid pid H1 Gg DI h0 hok h1=> ?_) (fun pz H1 Gg DI h0 hok h1=> ?_)
 ·simp only[AN,reduceIte,Nat.reduceEqDiff];obtain⟨v,Jy⟩:=zt (dX pz) h0;obtain⟨s,hs⟩:∃s,s=(cu m.g (dX pz) a ep).1:=⟨_,rfl⟩;have Qy:=k1 pz;rw[←hs] at h1 hok Jy Qy;refine jn (fun S:Am.St=>∃iQ zo,S.1 10=some (T.v (V.ak (some (iQ,0))))∧fI B S.3 ⟨iQ,zo,aK,fid,mid,pid⟩ m ⟨s,[],R.iM,false⟩ L) (fun(S:Am.St) OG=> ?_) (fun Q hQ=> ?_)
  ·obtain⟨iQ,zo,abF,hS⟩:=OG;generalize S.3=H2 at hS⊢;have ZF:∀A1 A2 A3 A4 A5 A6:bV,cY B (A1::A2::A3::A4::A5::A6::L) m:=fun A1 A2 A3 A4 A5 A6=>(((((hm.bg _).bg _).bg _).bg _).bg _).bg _
   simp only[abF,AJ,reduceIte,Nat.reduceEqDiff];refine tJ hS (ZF _ _ _ _ _ _) hg (fun H3 h3=> ?_);have h3:fI B H3 ⟨iQ,zo,aK,fid,mid,pid⟩ m ⟨s,[],R.iM,false⟩ L:=h3;simp only[AJ,reduceIte,Nat.reduceEqDiff,hN];unfold uM at Jy;rw[hN,Int.toNat_natCast] at Jy
   cases sC:s.nf N with
   |none=>rw[sC] at Jy;cases Jy
   |some t=>
    rw[sC] at Jy;dsimp only at Jy;refine Fc ((hm.bg _).bg _) h3.fs hok hg (by omega) sC (fun q3 c3 H4 h4=> ?_);have h5:fI B H4 ⟨iQ,zo,aK,fid,mid,pid⟩ m ⟨s,[],R.iM,false⟩ (BY q3 c3 t.data::L):=h4.ord [5,5];have p4:=(az.Lq (h4.ord [4])).2.2.1;simp only[AJ,reduceIte,Nat.reduceEqDiff];by_cases hl:t.data.length=0
    ·rw[if_pos hl] at Jy;cases Jy;have e:¬((t.data.length:Nat):Int)>0:=by omega
     simp only[e,decide_false,ai]
     exact Qy ⟨iQ,zo,aK,fid,mid,pid⟩ _ H4 rfl Gg h0 hok (by
      unfold uM;rw[hN,Int.toNat_natCast,sC];simp only;rw[if_pos hl]) (h5.ord [6]).drop
    ·rw[if_neg hl] at Jy;have e:((t.data.length:Nat):Int)>0:=by omega
     simp only[e,decide_true,aq]
     cases hd:Dw t.data with
     |none=>rw[hd] at Jy;cases Jy
     |some d=>
      rw[hd] at Jy;cases Jy;refine KN h5 (fun H hs=>(hs.ord [6]).gQ) p4 (fun H6 h6=> ?_);have h6:fI B H6 ⟨iQ,zo,aK,fid,mid,pid⟩ m ⟨s,[],R.iM,false⟩ (BY q3 c3 t.data::L):=h6;have g6:=BB h6;rw[hd];unfold HB;simp only[AJ,reduceIte,Nat.reduceEqDiff,R.dQ,R.eW];rw[ET h6.arr];simp only[AJ,reduceIte,Nat.reduceEqDiff,R.dQ,R.eW,P1,Option.isSome_some,Nat.zero_add,g6.wr];have h7:=h6.store (off:=7) (vs:=(oz d.1 (d.2:Int) s.a.boots).cs);have e2:bL (KO ⟨iQ,zo,aK,fid,mid,pid⟩ m ⟨s,[],R.iM,false⟩) 7 (oz d.1 (d.2:Int) s.a.boots).cs=KO ⟨iQ,zo,aK,fid,mid,pid⟩ m ⟨s,[],oz d.1 (d.2:Int) s.a.boots,false⟩:=rfl;rw[e2] at h7
      exact Qy ⟨iQ,zo,aK,fid,mid,pid⟩ _ _ rfl Gg h0 hok (by
       unfold uM;rw[hN,Int.toNat_natCast,sC];simp only;rw[if_neg hl,hd]) (h7.ord [6]).drop
  ·simp only[Ji,AJ,reduceIte,Nat.reduceEqDiff];have a1:=KL h1;refine⟨?_, ?_⟩
   all_goals
    have a2:=a1.alloc 93 (KO ⟨0,H1.next,aK,fid,mid,pid⟩ m ⟨s,[],R.iM,false⟩);exact hQ _ ⟨_,H1.next,rfl,a2⟩
 ·simp only[h0,decide_false,Bool.not_false,aq,AJ,reduceIte,Nat.reduceEqDiff];exact k2 pz H1 Gg h0 hok h1
end
theorem BG (k:Nat→Int):∀(n:Nat) (t:List UInt8) (i:Nat),i<n→((wJ k n++t).drop (4*i)).take 4=le (k i).toNat 4
 |n+1,t,i,h=>by
  rw[wJ,List.append_assoc];by_cases hi:i=n
  ·subst hi;rw[List.drop_left' (by rw[fP]),List.take_left' (by simp)]
  ·exact BG k n _ i (by omega)
theorem vB (r:R) (n:Nat):gF r n=wJ r.k 8++(UInt8.ofNat r.ty.toNat::UInt8.ofNat (r.ho+1).toNat::(le r.ge.toNat 4++(UInt8.ofNat (if r.la=true then 1 else 0)::le n 4))):=by
 simp [gF,le]
theorem qD (r:R) (n j:Nat):(gF r n).getD (32+j) 0=(UInt8.ofNat r.ty.toNat::UInt8.ofNat (r.ho+1).toNat::(le r.ge.toNat 4++(UInt8.ofNat (if r.la=true then 1 else 0)::le n 4))).getD j 0:=by
 rw[vB,List.getD_eq_getElem?_getD,List.getD_eq_getElem?_getD,List.getElem?_append_right (by rw[fP];omega),fP];congr 2;omega
theorem BH (r:R) (n j:Nat):(gF r n).drop (32+j)=(UInt8.ofNat r.ty.toNat::UInt8.ofNat (r.ho+1).toNat::(le r.ge.toNat 4++(UInt8.ofNat (if r.la=true then 1 else 0)::le n 4))).drop j:=by
 rw[vB, ←List.drop_drop,List.drop_left' (by rw[fP])]
theorem zp {n:Nat} (h:n<4294967296):dj (le n 4)=n:=by
 rw[wQ];exact Nat.mod_eq_of_lt (by simpa using h)
theorem FG (bs:List UInt8) (i:Nat):(ln bs).k i=if i<8 then ((dj ((bs.drop (4*i)).take 4):Nat):Int) else 0:=rfl
theorem KS (bs:List UInt8):(ln bs).ty=((bs.getD 32 0).toNat:Int):=rfl
theorem KU (bs:List UInt8):(ln bs).ho=((bs.getD 33 0).toNat:Int)-1:=rfl
theorem KV (bs:List UInt8):(ln bs).ge=((dj ((bs.drop 34).take 4):Nat):Int):=rfl
theorem KW (bs:List UInt8):(ln bs).la=decide (((bs.getD 38 0).toNat:Int)=1):=rfl
theorem KX {r:R} (hr:r.ok) (h7:r.ho≤7) {n:Nat} (hn:n<2147483648):(ln (gF r n)).cs=r.cs∧ns (gF r n)=true∧dj (((gF r n).drop 39).take 4)=n:=by
 have k1:=hr.ty;have k2:=hr.ho;have k3:=hr.ge;have g32:(gF r n).getD 32 0=UInt8.ofNat r.ty.toNat:=qD r n 0;have g33:(gF r n).getD 33 0=UInt8.ofNat (r.ho+1).toNat:=qD r n 1
 have g38:(gF r n).getD 38 0=UInt8.ofNat (if r.la=true then 1 else 0):=by
  have:=qD r n 6;rw[this];simp [le]
 have g42:(gF r n).getD 42 0=UInt8.ofNat (n / 256 / 256 / 256):=by
  have:=qD r n 10;rw[this];simp [le]
 have d34:((gF r n).drop 34).take 4=le r.ge.toNat 4:=by
  have:=BH r n 2;rw[this];simp [le]
 have d39:((gF r n).drop 39).take 4=le n 4:=by
  have:=BH r n 7;rw[this];simp [le]
 refine⟨?_, ?_, ?_⟩
 ·apply R.NT
  ·intro i hi;have hk:=hr.k i;rw[FG,if_pos hi,vB,BG _ _ _ _ hi,zp (by omega)];omega
  ·rw[KS,g32];simp;omega
  ·rw[KU,g33];simp;omega
  ·rw[KV,d34,zp (by omega)];omega
  ·rw[KW,g38];cases r.la<;>simp
 ·unfold ns;rw[g33,g38,g42,uv];have e1:(UInt8.ofNat (r.ho+1).toNat).toNat≤8:=by simp;omega
  have e2:(UInt8.ofNat (if r.la=true then 1 else 0)).toNat≤1:=by cases r.la<;>simp
  have e3:(UInt8.ofNat (n / 256 / 256 / 256)).toNat≤127:=by simp;omega
  rw[decide_eq_true e1,decide_eq_true e2,decide_eq_true e3];simp
 ·rw[d39,zp (by omega)]
theorem P6 {r s:R} (h:r.cs=s.cs):oy r=oy s:=by
 obtain⟨hk,h1,h2,h3,h4⟩:=(R.Dp r s).1 ((R.vx r s).2 h)
 have hs:ll r.k 8=ll s.k 8:=by
  simp only[ll];rw[hk 0 (by omega),hk 1 (by omega),hk 2 (by omega),hk 3 (by omega),hk 4 (by omega),hk 5 (by omega),hk 6 (by omega),hk 7 (by omega)]
 unfold oy zl;rw[h1,h2,hs];by_cases h8:s.ho≥8
 ·simp [h8]
 ·by_cases h0:s.ho≥0
  ·rw[hk s.ho.toNat (by omega)]
  ·by_cases h9:s.ho< -1
   ·simp [h9]
   ·have:s.ho= -1:=by omega
    rw[this];have:Int.toNat (-1)=0:=rfl;rw[this,hk 0 (by omega)]
theorem P7 {r:R} (hr:r.ok) (hf:oy r=true) {n:Nat} (hn:n<2147483648):∃s,Dw (gF r n)=some (s,n)∧s.cs=r.cs:=by
 have h7:r.ho≤7:=by
  unfold oy at hf;simp at hf;omega
 obtain⟨h1,h2,h3⟩:=KX hr h7 hn;refine⟨ln (gF r n), ?_,h1⟩;unfold Dw;rw[if_pos ⟨h2,by rw[P6 h1];exact hf⟩,h3]
structure fu (r:R):Prop where
 k:∀i,0≤r.k i∧r.k i≤4294967295
 nz:∀i,8≤i→r.k i=0
 wI:F9 r
 ge:0≤r.ge∧r.ge≤4294967295
theorem fu.iM:fu R.iM:=⟨fun _=>by show (0:Int)≤0∧(0:Int)≤_;omega,fun _ _=>rfl,TQ,by show (0:Int)≤0∧(0:Int)≤_;omega⟩
theorem fu.Re {r:R} (h:fu r): -1≤r.ho∧r.ho≤7:=by
 by_cases h0:r.ty=0
 ·rw[h.wI.none h0];omega
 ·by_cases h8:uo r.ty=true
  ·rw[h.wI.all h8];omega
  ·obtain⟨i,hi,e,_⟩:=h.wI.one h0 (by simpa using h8);omega
theorem fu.ok {r:R} (h:fu r):r.ok where
 k:=h.k
 ty:=by
  rcases h.wI.ty with e|e
  ·omega
  ·have:=vy.1 e;omega
 ho:=by have:=h.Re;omega
 ge:=h.ge
theorem fu.cN {r:R} (h:fu r):oy r=true:=by
 have hho:=h.Re;unfold oy;have e1:decide (r.ho< -1)=false:=decide_eq_false (by omega);have e2:decide (r.ho≥8)=false:=decide_eq_false (by omega);rw[e1,e2];simp only[Bool.not_false,Bool.true_and];by_cases h0:r.ty=0
 ·have hone:zl r=false:=by simp [zl,h0]
  have e3:decide (r.ho≥0)=false:=by rw[h.wI.none h0];decide
  rw[hone,e3];simp [h0]
 ·have hr:right r.ty=true:=h.wI.ty.resolve_left h0;have hsm:ll r.k 8=true:=Bw.2 (h.wI.some h0);by_cases h8:uo r.ty=true
  ·have hone:zl r=false:=by simp [zl,h8]
   have e3:decide (r.ho≥0)=false:=by rw[h.wI.all h8];decide
   rw[hone,e3,hr,hsm];simp
  ·have ZE:uo r.ty=false:=by simpa using h8
   have hone:zl r=true:=by simp [zl,h0,ZE]
   obtain⟨i,hi,e,hk⟩:=h.wI.one h0 ZE;have e3:decide (r.ho≥0)=true:=by rw[e];simp
   have e4:r.ho.toNat=i:=by omega
   rw[hone,e3,hr,hsm,e4];simp [hk]
theorem fu.ext {r s:R} (h:fu r) (hs:∀i,8≤i→s.k i=0) (e:s.cs=r.cs):s=r:=by
 obtain⟨hk,h1,h2,h3,h4⟩:=(R.Dp s r).1 ((R.vx s r).2 e);cases r;cases s;simp only at h1 h2 h3 h4 hk hs;have:∀i,_:=fun i=>hk i
 congr;funext i;by_cases hi:i<8
 ·exact hk i hi
 ·rw[hs i (by omega)];exact(h.nz i (by omega)).symm
theorem fu.aa9 {r:R} (h:fu r) {n:Nat} (hn:n<2147483648):Dw (gF r n)=some (r,n):=by
 obtain⟨s,h1,h2⟩:=P7 h.ok h.cN hn
 have hs:∀i,8≤i→s.k i=0:=by
  unfold Dw at h1;split at h1
  ·have h1:=congrArg Prod.fst (Option.some.inj h1);simp only at h1;intro i hi;rw[←h1];rw[FG,if_neg (by omega)]
  ·cases h1
 rw[h1,h.ext hs h2]
theorem fu.aba {r:R} (h:fu r) (was now:Int):fu (oz r was now):=by
 unfold oz;split
 ·exact h
 split
 ·exact fu.iM
 ·exact⟨h.k,h.nz,⟨h.wI.ty,h.wI.none,h.wI.all,h.wI.one,h.wI.some⟩,by show (0:Int)≤0∧(0:Int)≤_;omega⟩
theorem uA (x:Int):0≤IntKind.u32.wrap x∧IntKind.u32.wrap x≤4294967295:=by
 rw[IntKind.wrap_u32];omega
theorem fu.leave {r:R} (k:∀i,0≤r.k i∧r.k i≤4294967295) (nz:∀i,8≤i→r.k i=0) (ge:0≤r.ge∧r.ge≤4294967295) (h:Int):(∀i,0≤(jt r h).k i∧(jt r h).k i≤4294967295)∧(∀i,8≤i→(jt r h).k i=0)∧(0≤(jt r h).ge∧(jt r h).ge≤4294967295):=by
 have e:(jt r h).k=cd r.k h.toNat 0∧(jt r h).ge=r.ge:=by
  unfold jt;simp only[];split<;>exact⟨rfl,rfl⟩
 rw[e.1,e.2];refine⟨fun i=> ?_,fun i hi=> ?_,ge⟩
 ·unfold cd;split
  ·omega
  ·exact k i
 ·unfold cd;split
  ·rfl
  ·exact nz i hi
theorem fu.doR {r:R} (hr:fu r) (h:Int) (c:Cm) (hn:0≤c.nw∧c.nw≤4294967295):fu (doR r h c).1:=by
 have hi:=TS hr.wI h c
 have key:(∀i,0≤(Go.Proofs.YtlgdkndamddpkaaGreat.doR r h c).1.k i∧(Go.Proofs.YtlgdkndamddpkaaGreat.doR r h c).1.k i≤4294967295)∧(∀i,8≤i→(Go.Proofs.YtlgdkndamddpkaaGreat.doR r h c).1.k i=0)∧(0≤(Go.Proofs.YtlgdkndamddpkaaGreat.doR r h c).1.ge∧(Go.Proofs.YtlgdkndamddpkaaGreat.doR r h c).1.ge≤4294967295):=by
  have self:(∀i,0≤r.k i∧r.k i≤4294967295)∧(∀i,8≤i→r.k i=0)∧(0≤r.ge∧r.ge≤4294967295):=⟨hr.k,hr.nz,hr.ge⟩;unfold Go.Proofs.YtlgdkndamddpkaaGreat.doR;split
  ·exact self
  rename_i hv;simp only[Bool.or_eq_true,decide_eq_true_eq,not_or] at hv;split
  ·exact self
  split
  ·exact self
  split
  ·unfold kv;simp only[];split
   ·exact fu.leave (r:=⟨r.k,r.ty,r.ho,IntKind.u32.wrap (r.ge+1),c.la⟩) hr.k hr.nz (uA _) h
   ·refine⟨fun i=> ?_,fun i hi=> ?_,uA _⟩
    ·show 0≤cd r.k h.toNat c.nw i∧cd r.k h.toNat c.nw i≤4294967295
     unfold cd;split
     ·exact hn
     ·exact hr.k i
    ·show cd r.k h.toNat c.nw i=0
     rw[Hs (by omega)];exact hr.nz i hi
  split
  ·split
   ·exact self
   split
   ·exact self
   ·exact self
  split
  ·split
   ·exact self
   split
   ·exact self
   ·exact self
  split
  ·exact⟨fun _=>by show (0:Int)≤0∧(0:Int)≤_;omega,fun _ _=>rfl,uA _⟩
  ·have hkv:(∀i,0≤kV r h c.nw 8 i∧kV r h c.nw 8 i≤4294967295)∧(∀i,8≤i→kV r h c.nw 8 i=0):=by
    refine⟨fun i=> ?_,fun i hi=> ?_⟩
    ·rw[ur];split
     ·omega
     ·exact hr.k i
    ·rw[ur];split
     ·rfl
     ·exact hr.nz i hi
   unfold jQ;simp only[];split
   ·exact self
   split
   ·exact self
   split
   ·exact⟨hkv.1,hkv.2,uA _⟩
   ·exact⟨hkv.1,hkv.2,uA _⟩
 exact⟨key.1,key.2.1,hi,key.2.2⟩
def CW:Nat:=8000200
theorem Rh:KF*(KF*KF+1)=CW:=by decide
def uB (su:List (List UInt8)) (t:List UInt8):Nat→List UInt8:=fun i=>if i<su.length then su.getD i [] else if i=su.length then t else []
theorem P8 {su:List (List UInt8)} {t:List UInt8} {i:Nat} (hi:i<su.length) (d:List UInt8):n7 (uB su t) i d=uB (su.set i d) t:=by
 funext j;unfold n7 uB;rw[List.length_set];by_cases hj:j=i
 ·subst hj;rw[if_pos rfl,if_pos hi,List.getD_eq_getElem?_getD,List.getElem?_set];simp [hi]
 ·rw[if_neg hj];by_cases hl:j<su.length
  ·rw[if_pos hl,if_pos hl,List.getD_eq_getElem?_getD,List.getD_eq_getElem?_getD,List.getElem?_set,if_neg (fun e=>hj e.symm)]
  ·rw[if_neg hl,if_neg hl]
theorem P9 {su:List (List UInt8)} {t:List UInt8} (d:List UInt8):n7 (uB su t) su.length d=uB su d:=by
 funext j;unfold n7 uB;by_cases hj:j=su.length
 ·subst hj;simp
 ·simp [hj]
theorem TZ {su:List (List UInt8)} {t:List UInt8} {i:Nat} (hi:i<su.length):uB su t i=su.getD i []:=if_pos hi
theorem Qa (su:List (List UInt8)) (t:List UInt8):uB su t su.length=t:=by unfold uB;simp
def vC (t:List UInt8) (b:Nat) (r:R):Prop:=(t=[]∧r=R.iM)∨∃r0 b0,t=gF r0 b0∧fu r0∧b0≤b∧r=oz r0 b0 b
theorem vC.XZ {t:List UInt8} {b:Nat} {r:R} (h:vC t b r):fu r:=by
 rcases h with⟨_,e⟩|⟨r0,b0,_,h,_,e⟩
 ·rw[e];exact fu.iM
 ·rw[e];exact h.aba _ _
theorem vC.X0 {t:List UInt8} {b:Nat} {r:R} (h:vC t b r):vC t (b+1) (Fy r true):=by
 rcases h with⟨h1,e⟩|⟨r0,b0,h1,h2,h3,e⟩
 ·exact .inl ⟨h1,by rw[e];rfl⟩
 ·refine .inr ⟨r0,b0,h1,h2,by omega, ?_⟩;have hne:¬(b0:Int)=((b+1:Nat):Int):=by omega
  rw[e];unfold oz Fy;rw[if_neg hne];by_cases hb:(b0:Int)=(b:Int)
  ·rw[if_pos hb];cases hl:r0.la<;>simp [R.iM]
  ·rw[if_neg hb];cases hl:r0.la<;>simp [R.iM]
theorem vC.enc {r:R} (h:fu r) (b:Nat):vC (gF r b) b r:=.inr ⟨r,b,rfl,h,Nat.le_refl _,by unfold oz;rw[if_pos rfl]⟩
section
variable {g:bW} {s:FS} {su:List (List UInt8)} {t:List UInt8} {ds:List Nat} {N:Nat}
structure KY (su:List (List UInt8)) (p:Pg):Prop where
 lo:0≤p.an
 hi:p.an<su.length
 dl:p.data.length≤64
 bZ:p.bZ=true→p.data=[]
theorem zq (hg:g.In) (hform:g.cN=true) (hc:g.cap<65000) {c:Nat→List UInt8} (h:Rn g s c ds N none) {x:Sh} (hx:yW g x) (hx0:x.fr=0) (hN:N+CW<281474976710656):∃r,ua g KF KF s x=some r∧Kp s r.1 CW∧((r.2=0∧Rn g r.1 (n7 c x.an x.data) ds (N+CW) none)∨(r.2=10∧Rn g r.1 c ds (N+CW) none∧g.aF<r.1.f.po.count 3)∨(r.2=9∧jP g r.1.a c (n7 c x.an x.data) ds (N+CW))):=by
 have h2:=h.mono (N':=N+CW) (by omega);have Jx:=bW.jX g hg.b.2;have hsn:=h.sn;obtain⟨s1,e,h3,h4⟩:=Rn.XT hg hform hc hN (k:=KF) (by decide) hx hx0 KF s h2 (by rw[Rh];omega) (by show _<200;omega);have kp:=(aW.XS hg hc hx.dl KF s h.ok h3).2;rw[Rh] at kp;exact⟨(s1,e),h3,kp,h4⟩
theorem N6 {a:Nat} {d:List UInt8} (ha:(a:Int)≤g.cap) (hd:d.length≤64):yW g (Q1 a d):=⟨.inl rfl,ha,Nat.zero_le _,hd,.inl rfl⟩
theorem T0 {a:Nat} (ha:(a:Int)≤g.cap):yW g (shT a):=⟨.inr rfl,ha,Nat.zero_le _,Nat.zero_le _,.inr rfl⟩
theorem Jo (hg:g.In) (hform:g.cN=true) (hc:g.cap<65000) (h:Rn g s (uB su t) ds N none) (hl:(su.length:Int)=g.cap) {p:Pg} (hp:KY su p) (hN:N+CW<281474976710656):∃r,FC g s p=some r∧Kp s r.1 CW∧((r.2=0∧Rn g r.1 (uB (su.set p.an.toNat p.data) t) ds (N+CW) none)∨(r.2=10∧Rn g r.1 (uB su t) ds (N+CW) none∧g.aF<r.1.f.po.count 3)∨(r.2=9∧jP g r.1.a (uB su t) (uB (su.set p.an.toNat p.data) t) ds (N+CW))):=by
 have hlo:=hp.lo;have hhi:=hp.hi;have ha:p.an.toNat<su.length:=by omega
 rw[←P8 ha];unfold FC;by_cases hh:p.bZ=true
 ·rw[if_pos hh];have hd:=hp.bZ hh;unfold I1;by_cases hs:(s.f.pm.ct.getD p.an.toNat none).isSome=true
  ·rw[if_pos hs];have:=zq hg hform hc h (T0 (a:=p.an.toNat) (by omega)) rfl hN;rw[hd];exact this
  ·rw[if_neg hs]
   have hn:s.f.pm.at p.an.toNat=none:=by
    have:¬(s.f.pm.at p.an.toNat).isSome=true:=hs;simpa using this
   obtain⟨t',ht1,ht2,_⟩:=h.nf p.an.toNat
   have sC:s.nf p.an.toNat=some ⟨2,0,0,p.an.toNat,0,[]⟩:=by
    unfold FS.nf;rw[show s.f.pm.ct.getD p.an.toNat none=none from hn]
   rw[sC] at ht1;cases ht1;refine⟨_,rfl,Kp.rfl s CW,.inl ⟨rfl, ?_⟩⟩
   have e:n7 (uB su t) p.an.toNat p.data=uB su t:=by
    funext j;unfold n7;split
    ·rename_i e;rw[e, ←ht2,hd]
    ·rfl
   rw[e];exact h.mono (by omega)
 ·rw[if_neg hh];exact zq hg hform hc h (N6 (a:=p.an.toNat) (by omega) hp.dl) rfl hN
theorem qE (hg:g.In) (hform:g.cN=true) (hc:g.cap<65000):∀(l:List Pg) (s:FS) (su:List (List UInt8)) (N:Nat),Rn g s (uB su t) ds N none→(su.length:Int)=g.cap→eV l→(∀p∈l,KY su p)→N+l.length*CW<281474976710656→∃r,gJ g l s l=some r∧Kp s r.1 (l.length*CW)∧((r.2.2=0∧r.2.1=[]∧Rn g r.1 (uB (ey su l) t) ds (N+l.length*CW) none)∨(r.2.2=10∧g.aF<r.1.f.po.count 3∧∃j,j≤l.length∧r.2.1=l.drop j∧Rn g r.1 (uB (ey su (l.take j)) t) ds (N+l.length*CW) none)∨(r.2.2=9∧∃j,j<l.length∧jP g r.1.a (uB (ey su (l.take j)) t) (uB (ey su (l.take (j+1))) t) ds (N+l.length*CW)))
 |[],s,su,N,h,hl,hs,hp,hN=>⟨(s,[],0),rfl,Kp.rfl s _,.inl ⟨rfl,rfl,h.mono (by omega)⟩⟩
 |p::l,s,su,N,h,hl,hs,hp,hN=>by
  rw[List.length_cons,Nat.succ_mul] at hN;obtain⟨r,h1,h2,h3⟩:=Jo hg hform hc h hl (hp p List.mem_cons_self) (by omega);rw[gJ,h1];simp only[List.length_cons,Nat.succ_mul];rcases h3 with⟨e,h3⟩|⟨e,h3,h4⟩|⟨e,h3⟩
  ·rw[if_pos e,KK hs]
   have hp2:∀q∈l,KY (su.set p.an.toNat p.data) q:=fun q hq=>by
    have:=hp q (List.mem_cons_of_mem _ hq);exact⟨this.lo,by rw[List.length_set];exact this.hi,this.dl,this.bZ⟩
   obtain⟨r',k1,k2,k3⟩:=qE hg hform hc l r.1 (su.set p.an.toNat p.data) (N+CW) h3 (by rw[List.length_set];exact hl) (KJ hs) hp2 (by omega);refine⟨r',k1,(h2.trans k2).mono (by omega), ?_⟩;rw[show N+CW+l.length*CW=N+(l.length*CW+CW) from by omega] at k3;rcases k3 with⟨e1,e2,e3⟩|⟨e1,e2,j,e3,e4,e5⟩|⟨e1,j,e2,e3⟩
   ·exact .inl ⟨e1,e2,e3⟩
   ·exact .inr (.inl ⟨e1,e2,j+1,by omega,e4,e5⟩)
   ·exact .inr (.inr ⟨e1,j+1,by omega,e3⟩)
  ·rw[if_neg (by omega)];refine⟨_,rfl,h2.mono (by omega),.inr (.inl ⟨e,h4,0,Nat.zero_le _,rfl,h3.mono (by omega)⟩)⟩
  ·rw[if_neg (by omega)];refine⟨_,rfl,h2.mono (by omega),.inr (.inr ⟨e,0,by omega,h3.mono (by omega)⟩)⟩
end
def eh (o:Ob) (j:Nat):Ob:=⟨ey o.su (o.ps.take j),o.ps.drop j,o.r⟩
structure Ug (g:bW) (u:Un) (o:Ob) (ds:List Nat) (N b:Nat):Prop where
 t:∃t,Rn g u.s (uB o.su t) ds N none∧vC t b o.r
 boots:u.s.a.boots=(b:Int)
 ps:u.ps=o.ps
 r:u.r=o.r
 dn:u.down=false
 ook:o.ok
 len:(o.su.length:Int)=g.cap
 bZ:∀p∈o.ps,p.bZ=true→p.data=[]
structure vD (g:bW) (a:Ar) (o o':Ob) (ds:List Nat) (N b:Nat):Prop where
 off:a.off=true
 ee:AW a
 boots:a.boots=(b:Int)
 ct:∀cut:Int,∃q,(q=o∨q=o')∧∃i,i≤8∧∃t,Cr g (cq a cut) (uB (ey q.su (q.ps.take i)) t) ds N∧vC t b q.r
section
variable {g:bW} {u:Un} {o:Ob} {ds:List Nat} {N b:Nat}
theorem Ug.pg (h:Ug g u o ds N b):∀p∈o.ps,KY o.su p:=fun p hp=>⟨(h.ook.sort.lo p hp).1,h.ook.inr p hp,h.ook.sort.dl p hp,h.bZ p hp⟩
theorem Ug.ok (h:Ug g u o ds N b):N5 g u:=by
 obtain⟨t,h1,_⟩:=h.t;refine⟨h1.ok,by rw[h.ps];exact h.ook.sort,by rw[h.ps];exact h.ook.le8,fun p hp=> ?_⟩;rw[h.ps] at hp;have:=h.pg p hp;have hl:=h.len;have hi:=this.hi;exact⟨this.lo,by omega,this.dl⟩
theorem Jp (h:o.ok) (j:Nat):(eh o j).ok where
 n1:=by show 1≤(ey o.su (o.ps.take j)).length;rw[dG];exact h.n1
 n2:=by show (ey o.su (o.ps.take j)).length≤_;rw[dG];exact h.n2
 dl:=vA _ _ h.dl (fun p hp=>h.sort.dl p (List.mem_of_mem_take hp))
 sort:=⟨h.sort.up.sublist (List.drop_sublist _ _),fun p hp=>h.sort.lo p (List.mem_of_mem_drop hp),fun p hp=>h.sort.dl p (List.mem_of_mem_drop hp)⟩
 le8:=by show (o.ps.drop j).length≤8;rw[List.length_drop];have:=h.le8;omega
 inr:=fun p hp=>by
  show p.an<(((ey o.su (o.ps.take j)).length:Nat):Int)
  rw[dG];exact h.inr p (List.mem_of_mem_drop hp)
 wI:=h.wI
theorem Ug.step (h:Ug g u o ds N b) {s:FS} {j:Nat} {N':Nat} {t:List UInt8} (ht:vC t b o.r) (hr:Rn g s (uB (ey o.su (o.ps.take j)) t) ds N' none) (hb:s.a.boots=u.s.a.boots):Ug g {u with s:=s,ps:=o.ps.drop j} (eh o j) ds N' b where
 t:=⟨t,hr,ht⟩
 boots:=hb.trans h.boots
 ps:=rfl
 r:=h.r
 dn:=h.dn
 ook:=Jp h.ook j
 len:=by show (((ey o.su (o.ps.take j)).length:Nat):Int)=_;rw[dG];exact h.len
 bZ:=fun p hp=>h.bZ p (List.mem_of_mem_drop hp)
theorem Qb (hg:g.In) (hform:g.cN=true) (hc:g.cap<65000) (h:Ug g u o ds N b) {p:Pg} (hp:KY o.su p) (sure:Bool) (hN:N+9*CW<281474976710656):∃r,Dx g u.s u.ps p sure=some r∧Kp u.s r.1 (9*CW)∧((r.2.2=0∧Ug g {u with s:=r.1,ps:=r.2.1} (tO o p sure) ds (N+9*CW) b)∨(r.2.2=10∧g.aF<r.1.f.po.count 3∧∃j,j≤o.ps.length∧Ug g {u with s:=r.1,ps:=r.2.1} (eh o j) ds (N+9*CW) b)∨(r.2.2=9∧vD g r.1.a o (tO o p sure) ds (N+9*CW) b)):=by
 obtain⟨t,ht,htb⟩:=h.t;have hlen:=h.len;have hlo:=hp.lo;have hhi:=hp.hi;have hn2:=h.ook.n2;have hle:=h.ook.le8;have ha:p.an.toNat<o.su.length:=by omega
 have hok:=TT h.ook hlo hhi hp.dl sure;unfold Dx;rw[h.ps];by_cases hs:sure=true
 ·subst hs;rw[if_pos rfl];obtain⟨r,h1,h2,h3⟩:=Jo hg hform hc ht hlen hp (by omega);rw[h1];simp only;have e:tO o p true=⟨o.su.set p.an.toNat p.data,gx o.ps p.an,o.r⟩:=rfl;rcases h3 with⟨e1,h3⟩|⟨e1,h3,h4⟩|⟨e1,h3⟩
  ·rw[if_pos e1];refine⟨_,rfl,h2.mono (by omega),.inl ⟨rfl, ?_⟩⟩
   exact {
    t:=⟨t,h3.mono (by omega),htb⟩,boots:=h2.boots.trans h.boots,ps:=rfl,r:=h.r,dn:=h.dn,ook:=hok
    len:=by rw[e];show (((o.su.set p.an.toNat p.data).length:Nat):Int)=_;rw[List.length_set];exact hlen
    bZ:=fun q hq=>h.bZ q (Fz hq)}
  ·rw[if_neg (by omega)];refine⟨_,rfl,h2.mono (by omega),.inr (.inl ⟨e1,h4,0,Nat.zero_le _, ?_⟩)⟩;exact h.step (j:=0) htb (h3.mono (by omega)) h2.boots
  ·rw[if_neg (by omega)];refine⟨_,rfl,h2.mono (by omega),.inr (.inr ⟨e1,h3.off,h3.ee,h2.boots.trans h.boots,fun cut=> ?_⟩)⟩;rcases h3.ct cut with h4|h4
   ·exact⟨o,.inl rfl,0,by omega,t,h4.mono (by omega),htb⟩
   ·exact⟨_,.inr rfl,0,by omega,t,h4.mono (by omega),htb⟩
 ·have hs':sure=false:=by simpa using hs
  subst hs';rw[if_neg (by simp)];have sF:tO o p false=if (iU o.ps p).2=11 then ⟨ey o.su o.ps,(iU [] p).1,o.r⟩ else ⟨o.su,(iU o.ps p).1,o.r⟩:=rfl
  have hput:∀(ps:List Pg),eV ps→(∀q∈ps,q.bZ=true→q.data=[])→∀q∈(iU ps p).1,q.bZ=true→q.data=[]:=fun ps hss hh q hq ZH=>by
   rcases Dv hss hq with hq|rfl
   ·exact hh q hq ZH
   ·have ZH:p.bZ=true:=ZH;show (if p.bZ=true then [] else p.data)=[]
    rw[if_pos ZH]
  by_cases zK:(iU o.ps p).2=11
  ·rw[if_neg (fun e=>e zK)];rw[if_pos zK] at sF;have h8:o.ps.length*CW≤8*CW:=Nat.mul_le_mul_right _ hle;obtain⟨r,h1,h2,h3⟩:=qE hg hform hc o.ps u.s o.su N ht hlen h.ook.sort h.pg (by omega);rw[h1];simp only;rcases h3 with⟨e1,e2,h3⟩|⟨e1,h4,j,hj,e2,h3⟩|⟨e1,j,hj,h3⟩
   ·rw[if_pos e1,e2]
    have h0:(iU [] p).2=0:=by
     rw[PZ (by simp) hlo (by omega) hp.dl];simp
    refine⟨_,rfl,h2.mono (by omega),.inl ⟨h0, ?_⟩⟩;rw[sF] at hok⊢
    exact {
     t:=⟨t,h3.mono (by omega),htb⟩,boots:=h2.boots.trans h.boots,ps:=rfl,r:=h.r,dn:=h.dn,ook:=hok
     len:=by show (((ey o.su o.ps).length:Nat):Int)=_;rw[dG];exact hlen
     bZ:=hput [] qC (fun q hq=>by cases hq)}
   ·rw[if_neg (by omega)];refine⟨_,rfl,h2.mono (by omega),.inr (.inl ⟨e1,h4,j,hj, ?_⟩)⟩;rw[e2];exact h.step htb (h3.mono (by omega)) h2.boots
   ·rw[if_neg (by omega)];refine⟨_,rfl,h2.mono (by omega),.inr (.inr ⟨e1,h3.off,h3.ee,h2.boots.trans h.boots,fun cut=> ?_⟩)⟩;rcases h3.ct cut with h4|h4
    ·exact⟨o,.inl rfl,j,by omega,t,h4.mono (by omega),htb⟩
    ·exact⟨o,.inl rfl,j+1,by omega,t,h4.mono (by omega),htb⟩
  ·rw[if_pos zK];rw[if_neg zK] at sF;refine⟨_,rfl,Kp.rfl u.s _,.inl ⟨rfl, ?_⟩⟩;rw[sF] at hok⊢
   exact {
    t:=⟨t,ht.mono (by omega),htb⟩,boots:=h.boots,ps:=rfl,r:=h.r,dn:=h.dn,ook:=hok,len:=hlen
    bZ:=hput o.ps h.ook.sort h.bZ}
end
theorem KZ (r:R) (h:Int) (c:Cm) (P:R×Int→Prop) (h0:∀s,P (s,0)) (h1:P (r,1)) (Ln:P (r,13)):P (doR r h c):=by
 unfold doR;split
 ·exact h1
 split
 ·exact h1
 split
 ·exact Ln
 split
 ·exact h0 _
 split
 ·split
  ·exact Ln
  split
  ·exact h0 _
  ·exact h0 _
 split
 ·split
  ·exact h0 _
  split
  ·exact h1
  ·exact h0 _
 split
 ·exact h0 _
 unfold jQ;simp only[];split
 ·exact h1
 split
 ·exact Ln
 split
 ·exact h0 _
 ·exact h0 _
theorem Qc (r:R) (h:Int) (c:Cm):((doR r h c).2=0∨(doR r h c).2=1∨(doR r h c).2=13)∧((doR r h c).2≠0→(doR r h c).1=r):=
 KZ r h c (fun x=>(x.2=0∨x.2=1∨x.2=13)∧(x.2≠0→x.1=r)) (fun s=>⟨.inl rfl,fun h=>absurd rfl h⟩) ⟨.inr (.inl rfl),fun _=>rfl⟩ ⟨.inr (.inr rfl),fun _=>rfl⟩
section
variable {g:bW} {u:Un} {o:Ob} {ds:List Nat} {N b:Nat}
def Ri (g:bW) (u:Un) (o o':Ob) (a:Rs) (ch:Bool) (ds:List Nat) (N b:Nat) (r:Un×Rs×Int):Prop:=
 (r.2.2=0∧r.2.1=a∧Ug g r.1 o' ds N b)∨
 (r.2.2=0∧r.2.1=⟨10,[],R.zero⟩∧a.e=0∧ch=true∧g.aF<r.1.s.f.po.count 3∧∃j,j≤o.ps.length∧Ug g r.1 (eh o j) ds N b)∨
 (r.2.2=9∧vD g r.1.s.a o o' ds N b)
theorem Jq (h:Ug g u o ds N b):ja u=(u,0):=by
 obtain⟨t,ht,_⟩:=h.t;unfold ja;have h1:=ht.on;have h2:=ht.aN;rw[if_neg (by simp [h1]),if_neg (by rw[h.dn];simp;omega)]
theorem T1 (hg:g.In) (hform:g.cN=true) (hc:g.cap<65000) (h:Ug g u o ds N b) (hh:Int) (c:Cm) (bR:List UInt8) (hd:c.dn=bR.length) (Vf:0≤c.nw∧c.nw≤4294967295) (hN:N+9*CW<281474976710656):∃r,US g u hh c bR=some r∧Kp u.s r.1.s (9*CW)∧Ri g u o (Dt o hh c bR).1 (Dt o hh c bR).2 (!decide (c.kd=0)&& !decide (c.kd=9)) ds (N+9*CW) b r:=by
 obtain⟨s,ps,r,dn⟩:=u;have hr:=h.r;have hps:=h.ps;simp only at hr hps;subst hr hps;obtain⟨t,ht,htb⟩:=h.t;have hlen:=h.len;have hcap:g.cap.toNat=o.su.length:=by omega
 have hmono:Ug g ⟨s,o.ps,o.r,dn⟩ o ds (N+9*CW) b:={h with t:=⟨t,ht.mono (by omega),htb⟩};have RK:=htb.XZ;unfold US;rw[Jq h];simp only[ne_eq,not_true_eq_false,if_false]
 have plain:∀(a:Rs),a.e=0∨a.e=1∨a.e=13→(∃r,(if a.e=7∨a.e=9 then some ((⟨s,o.ps,o.r,true⟩:Un),(⟨0,[],R.zero⟩:Rs),a.e) else some ((⟨s,o.ps,o.r,dn⟩:Un),a,0))=some r∧Kp s r.1.s (9*CW)∧r=((⟨s,o.ps,o.r,dn⟩:Un),a,0)):=fun a ha=>by
  rw[if_neg (by omega)];exact⟨_,rfl,Kp.rfl _ _,rfl⟩
 unfold N4 Dt;rw[hcap];by_cases hv:uu hh c o.su.length=false
 ·rw[if_pos hv,if_pos hv];exact⟨((⟨s,o.ps,o.r,dn⟩:Un),⟨1,[],R.zero⟩,0),rfl,Kp.rfl _ _,.inl ⟨rfl,rfl,hmono⟩⟩
 rw[if_neg hv,if_neg hv];by_cases hm:UR o.r hh c=false
 ·rw[if_pos hm,if_pos hm];exact⟨((⟨s,o.ps,o.r,dn⟩:Un),⟨13,[],R.zero⟩,0),rfl,Kp.rfl _ _,.inl ⟨rfl,rfl,hmono⟩⟩
 rw[if_neg hm,if_neg hm];have Ql:uu hh c o.su.length=true:=by simpa using hv
 unfold uu at Ql;simp only[Bool.and_eq_true,Bool.or_eq_true,Bool.not_eq_true',Bool.or_eq_false_iff,decide_eq_true_eq,decide_eq_false_iff_not] at Ql;obtain⟨⟨⟨⟨v1,v2⟩,v3⟩,v4⟩,v5⟩:=Ql;by_cases k0:c.kd=0
 ·rw[if_pos k0,if_pos k0];have wN:=v4.resolve_left (fun e=>e.1.1 k0);have Y2:XW o c.ox=(vz o.ps c.ox).getD (o.su.getD c.ox.toNat []):=if_pos wN;by_cases hp:gw o.ps c.ox=true
  ·rw[if_pos hp];refine⟨((⟨s,o.ps,o.r,dn⟩:Un),⟨0,(vz o.ps c.ox).getD [],R.zero⟩,0),rfl,Kp.rfl _ _,.inl ⟨rfl, ?_,hmono⟩⟩;simp only;rw[Y2]
   cases hgp:vz o.ps c.ox with
   |none=>rw[Bu.1 hgp] at hp;cases hp
   |some d=>rfl
  ·rw[if_neg hp];obtain⟨t',h1,h2,_⟩:=ht.nf c.ox.toNat;rw[h1];refine⟨((⟨s,o.ps,o.r,dn⟩:Un),⟨0,t'.data,R.zero⟩,0),rfl,Kp.rfl _ _,.inl ⟨rfl, ?_,hmono⟩⟩;simp only;rw[Y2,Bu.2 (by simpa using hp),h2,TZ (by omega)];rfl
 rw[if_neg k0,if_neg k0]
 have put:∀(p:Pg),KY o.su p→c.kd≠9→∃r,(match (match Dx g s o.ps p c.su with
  |none=>none
  |some r=>some ((⟨r.1,r.2.1,o.r,dn⟩:Un),(⟨0,[],R.zero⟩:Rs),r.2.2)) with
  |none=>none
  |some r=>if r.2.2=7∨r.2.2=9 then some ({r.1 with down:=true},(⟨0,[],R.zero⟩:Rs),r.2.2) else some (r.1,{r.2.1 with e:=r.2.2},0))=some r∧Kp s r.1.s (9*CW)∧
  Ri g ⟨s,o.ps,o.r,dn⟩ o (tO o p c.su) ⟨0,[],R.zero⟩ (!decide (c.kd=0)&& !decide (c.kd=9)) ds (N+9*CW) b r:=fun p hp h9=>by
  obtain⟨r,h1,h2,h3⟩:=Qb hg hform hc h hp c.su hN;rw[h1];simp only;rcases h3 with⟨e,h3⟩|⟨e,h3,h4⟩|⟨e,h3⟩
  ·rw[if_neg (by omega),e];exact⟨_,rfl,h2,.inl ⟨rfl,rfl,h3⟩⟩
  ·rw[if_neg (by omega),e];exact⟨_,rfl,h2,.inr (.inl ⟨rfl,rfl,rfl,by simp [k0,h9],h3,h4⟩)⟩
  ·rw[if_pos (.inr e)];exact⟨_,rfl,h2,.inr (.inr ⟨e,h3⟩)⟩
 by_cases k1:c.kd=1
 ·rw[if_pos k1,if_pos k1];have wN:=v4.resolve_left (fun e=>e.1.2 k1);have hdn:c.dn≤64:=v5.resolve_left (fun e=>e k1);exact put ⟨c.ox,bR,false⟩ ⟨wN.1,wN.2,by show bR.length≤64;omega,fun e=>by cases e⟩ (by omega)
 rw[if_neg k1,if_neg k1];by_cases k2:c.kd=2
 ·rw[if_pos k2,if_pos k2];have wN:=v4.resolve_left (fun e=>e.2 k2);exact put ⟨c.ox,[],true⟩ ⟨wN.1,wN.2,Nat.zero_le _,fun _=>rfl⟩ (by omega)
 rw[if_neg k2,if_neg k2];by_cases k3:c.kd=3
 ·rw[if_pos k3,if_pos k3];have hle:=h.ook.le8;have h8:o.ps.length*CW≤8*CW:=Nat.mul_le_mul_right _ hle;obtain⟨r,h1,h2,h3⟩:=qE hg hform hc o.ps s o.su N ht hlen h.ook.sort h.pg (by omega);rw[h1];simp only;rcases h3 with⟨e1,e2,h3⟩|⟨e1,h4,j,hj,e2,h3⟩|⟨e1,j,hj,h3⟩
  ·rw[if_neg (by omega),e1,e2];refine⟨_,rfl,h2.mono (by omega),.inl ⟨rfl,rfl, ?_⟩⟩
   exact {
    t:=⟨t,h3.mono (by omega),htb⟩,boots:=h2.boots.trans h.boots,ps:=rfl,r:=h.r,dn:=h.dn,ook:=zk h.ook
    len:=by show (((ey o.su o.ps).length:Nat):Int)=_;rw[dG];exact hlen
    bZ:=fun q hq=>by cases hq}
  ·rw[if_neg (by omega),e1,e2];exact⟨_,rfl,h2.mono (by omega),.inr (.inl ⟨rfl,rfl,rfl,by simp [k3],h4,j,hj,h.step htb (h3.mono (by omega)) h2.boots⟩)⟩
  ·rw[if_pos (.inr e1)];refine⟨_,rfl,h2.mono (by omega),.inr (.inr ⟨e1,h3.off,h3.ee,h2.boots.trans h.boots,fun cut=> ?_⟩)⟩;rcases h3.ct cut with h4|h4
   ·exact⟨o,.inl rfl,j,by omega,t,h4.mono (by omega),htb⟩
   ·exact⟨o,.inl rfl,j+1,by omega,t,h4.mono (by omega),htb⟩
 rw[if_neg k3,if_neg k3];by_cases k9:c.kd=9
 ·rw[if_pos k9,if_pos k9];exact⟨((⟨s,o.ps,o.r,dn⟩:Un),⟨0,[],o.r⟩,0),rfl,Kp.rfl _ _,.inl ⟨rfl,rfl,hmono⟩⟩
 rw[if_neg k9,if_neg k9];have Oo:=Qc o.r hh c;have ZI:=RK.doR hh c Vf;by_cases hq:(doR o.r hh c).2≠0∨dZ (doR o.r hh c).1.cs o.r.cs=true
 ·rw[if_pos hq]
  have hsame:(doR o.r hh c).1=o.r:=by
   rcases hq with hq|hq
   ·exact Oo.2 hq
   ·exact RK.ext ZI.nz ((R.vx _ _).1 hq)
  rw[hsame];obtain⟨r,h1,h2,h3⟩:=plain ⟨(doR o.r hh c).2,[],R.zero⟩ Oo.1;refine⟨r,h1,h2,.inl ?_⟩;rw[h3];exact⟨rfl,rfl,hmono⟩
 rw[if_neg hq];have hq0:(doR o.r hh c).2=0:=Classical.byContradiction fun e=>hq (.inl e)
 rw[hq0];have OJ:s.a.boots.toNat=b:=by rw[h.boots];rfl
 rw[OJ];have hel:(gF (doR o.r hh c).1 b).length≤64:=by rw[uv];omega
 obtain⟨r,h1,h2,h3⟩:=zq hg hform hc ht (N6 (a:=o.su.length) (by omega) hel) rfl (by omega);rw[h1];have ecs:n7 (uB o.su t) (Q1 o.su.length (gF (doR o.r hh c).1 b)).an (Q1 o.su.length (gF (doR o.r hh c).1 b)).data=uB o.su (gF (doR o.r hh c).1 b):=P9 _;rw[ecs] at h3;simp only;have hok:(⟨o.su,o.ps,(doR o.r hh c).1⟩:Ob).ok:={h.ook with wI:=ZI.wI};rcases h3 with⟨e,h3⟩|⟨e,h3,h4⟩|⟨e,h3⟩
 ·rw[if_pos e];simp only;rw[if_neg (by omega)];refine⟨_,rfl,h2.mono (by omega),.inl ⟨rfl,rfl, ?_⟩⟩
  exact {
   t:=⟨_,h3.mono (by omega),vC.enc ZI b⟩,boots:=h2.boots.trans h.boots,ps:=h.ps,r:=rfl,dn:=h.dn,ook:=hok,len:=hlen,bZ:=h.bZ}
 ·rw[if_neg (by omega)];simp only;rw[if_neg (by omega),e];refine⟨_,rfl,h2.mono (by omega),.inr (.inl ⟨rfl,rfl,rfl,by simp [k0,k9],h4,0,Nat.zero_le _, ?_⟩)⟩;exact {h with t:=⟨t,h3.mono (by omega),htb⟩,boots:=h2.boots.trans h.boots}
 ·rw[if_neg (by omega)];simp only;rw[if_pos (.inr e)];refine⟨_,rfl,h2.mono (by omega),.inr (.inr ⟨e,h3.off,h3.ee,h2.boots.trans h.boots,fun cut=> ?_⟩)⟩;rcases h3.ct cut with h4|h4
  ·exact⟨o,.inl rfl,0,by omega,t,h4.mono (by omega),htb⟩
  ·exact⟨_,.inr rfl,0,by omega,_,h4.mono (by omega),vC.enc ZI b⟩
end
structure Up (g:bW) (a:Ar) (o:Ob) (ds:List Nat) (N b:Nat):Prop where
 t:∃t,Cr g a (uB o.su t) ds N∧vC t b o.r
 on:a.off=false
 ee:a.ee=.no
 boots:a.boots=(b:Int)
 ps:o.ps=[]
 ook:o.ok
 len:(o.su.length:Int)=g.cap
section
variable {g:bW} {u:Un} {o o':Ob} {a:Ar} {ds:List Nat} {N b:Nat}
theorem T2 (hg:g.In) (hform:g.cN=true) (hc:g.cap<65000) (h:Ug g u o ds N b) (hN:N+9*CW<281474976710656):∃r,UT g u=some r∧Kp u.s r.1.s (9*CW)∧((r.2=0∧Ug g r.1 (mu o) ds (N+9*CW) b)∨(r.2=10∧g.aF<r.1.s.f.po.count 3∧∃j,j≤o.ps.length∧Ug g r.1 (eh o j) ds (N+9*CW) b)∨(r.2=9∧vD g r.1.s.a o (mu o) ds (N+9*CW) b)):=by
 obtain⟨s,ps,r,dn⟩:=u;have hr:=h.r;have hps:=h.ps;have hdn:=h.dn;simp only at hr hps hdn;subst hr hps hdn;obtain⟨t,ht,htb⟩:=h.t;have hlen:=h.len;have hle:=h.ook.le8;have h8:o.ps.length*CW≤8*CW:=Nat.mul_le_mul_right _ hle;obtain⟨r,h1,h2,h3⟩:=qE hg hform hc o.ps s o.su N ht hlen h.ook.sort h.pg (by omega);unfold UT;rw[Jq h];simp only[ne_eq,not_true_eq_false,if_false];rw[h1];simp only;rcases h3 with⟨e1,e2,h3⟩|⟨e1,h4,j,hj,e2,h3⟩|⟨e1,j,hj,h3⟩
 ·rw[e1,e2];refine⟨_,rfl,h2.mono (by omega),.inl ⟨rfl, ?_⟩⟩
  exact {
   t:=⟨t,h3.mono (by omega),htb⟩,boots:=h2.boots.trans h.boots,ps:=rfl,r:=rfl,dn:=rfl,ook:=zk h.ook
   len:=by show (((ey o.su o.ps).length:Nat):Int)=_;rw[dG];exact hlen
   bZ:=fun q hq=>by cases hq}
 ·rw[e1,e2];exact⟨_,rfl,h2.mono (by omega),.inr (.inl ⟨rfl,h4,j,hj,h.step htb (h3.mono (by omega)) h2.boots⟩)⟩
 ·refine⟨_,rfl,h2.mono (by omega),.inr (.inr ⟨e1,h3.off,h3.ee,h2.boots.trans h.boots,fun cut=> ?_⟩)⟩;rcases h3.ct cut with h4|h4
  ·exact⟨o,.inl rfl,j,by omega,t,h4.mono (by omega),htb⟩
  ·exact⟨o,.inl rfl,j+1,by omega,t,h4.mono (by omega),htb⟩
theorem N7 {x:Int} (h0:0≤x) (h1:x<4611686018427387904):qZ (x+1)=x+1:=bn (by omega) (by omega)
theorem vD.restart (h:vD g a o o' ds N b) (ho:o.ok) (ho':o'.ok) (hl:(o.su.length:Int)=g.cap) (hl':(o'.su.length:Int)=g.cap) (hb:b<2147483647) (cut:Int):∃q,(q=o∨q=o')∧∃i,i≤8∧Up g (cq a cut) (Bv (eh q i) true) ds N (b+1):=by
 obtain⟨q,hq,i,hi,t,h1,h2⟩:=h.ct cut;refine⟨q,hq,i,hi, ?_⟩;have hqo:q.ok:=by rcases hq with rfl|rfl<;>assumption
 have hql:(q.su.length:Int)=g.cap:=by rcases hq with rfl|rfl<;>assumption
 have OJ:(v9 a cut).boots=a.boots:=by
  unfold v9;split
  ·rfl
  ·rfl
  ·split
   ·split<;>rfl
   ·rfl
  ·split
   ·rfl
   ·split
    ·rfl
    ·split<;>rfl
 exact {
  t:=⟨t,h1,h2.X0⟩
  on:=rfl
  ee:=rfl
  boots:=by
   show qZ (a.boots+1)=_
   rw[h.boots,N7 (by omega) (by omega)];rfl
  ps:=rfl
  ook:=Du (Jp hqo i) true
  len:=by show (((ey q.su (q.ps.take i)).length:Nat):Int)=_;rw[dG];exact hql}
theorem Ug.restart (h:Ug g u o ds N b) (hb:b<2147483647) (cut:Int):Up g (cq u.s.a cut) (Bv o true) ds N (b+1):=by
 obtain⟨t,ht,htb⟩:=h.t;obtain⟨h1,h2⟩:=Hj ht.ee cut
 exact {
  t:=⟨t,ht.cr.congr h1 h2,htb.X0⟩
  on:=rfl
  ee:=rfl
  boots:=by
   have hw:v9 u.s.a cut=u.s.a:=by unfold v9;rw[ht.ee]
   show qZ ((u.s.a).boots+1)=_
   rw[h.boots,N7 (by omega) (by omega)];rfl
  ps:=rfl
  ook:=Du h.ook true
  len:=h.len}
theorem Ug.leave (h:Ug g u o ds N b) (a:Ar) (hb:a.bs=u.s.a.bs) (hp:a.ay=u.s.a.ay) (ho:a.off=false) (hw:a.ee=.no) (OJ:a.boots=u.s.a.boots):Up g a (Bv o false) ds N b:=by
 obtain⟨t,ht,htb⟩:=h.t
 exact {
  t:=⟨t,ht.cr.congr hb hp,htb⟩
  on:=ho
  ee:=hw
  boots:=OJ.trans h.boots
  ps:=rfl
  ook:=Du h.ook false
  len:=h.len}
theorem Up.mount (h:Up g a o ds N b) (hg:g.In) (hc:0≤g.cap∧g.cap<65000) {ep:Nat} (he:1≤ep∧ep<281474976710656) (hf:a.aN≤ep) (hb:b<2147483648) (sq:Int→Nat):Kp (FS.wW g a ep) (cu g sq a ep).1 0∧(((cu g sq a ep).2=0∧∃v,uM g (cu g sq a ep).1=some v∧v.s=(cu g sq a ep).1∧Ug g v o ds N b)∨((cu g sq a ep).2=9∧vD g (cu g sq a ep).1.a o o ds N b)):=by
 obtain⟨t,Vd,htb⟩:=h.t;have abG:=(Vd.wW hg hc h.on h.ee he hf).ok;have kp:=Ky hg (sq:=sq) abG;have hlen:=h.len;refine⟨kp, ?_⟩;rcases Vd.mount hg hc h.on h.ee he hf sq with⟨h1,h2⟩|⟨h1,h2⟩
 ·left;refine⟨h1, ?_⟩;obtain⟨x,hx1,uH,_⟩:=h2.nf g.cap.toNat;have hcap:g.cap.toNat=o.su.length:=by omega
  have hx3:x.data=t:=by rw[uH,hcap,Qa]
  have OJ:(cu g sq a ep).1.a.boots=(b:Int):=kp.boots.trans h.boots;have bZ:∀p∈o.ps,p.bZ=true→p.data=[]:=fun p hp=>by rw[h.ps] at hp;cases hp
  unfold uM;rw[hx1];simp only;rcases htb with⟨e1,e2⟩|⟨r0,b0,e1,e2,e3,e4⟩
  ·rw[if_pos (by rw[hx3,e1];rfl)];exact⟨_,rfl,rfl,⟨t,h2,.inl ⟨e1,e2⟩⟩,OJ,h.ps.symm,e2.symm,rfl,h.ook,hlen,bZ⟩
  ·rw[if_neg (by rw[hx3,e1,uv];omega),hx3,e1,e2.aa9 (by omega)];refine⟨_,rfl,rfl,⟨t,h2,.inr ⟨r0,b0,e1,e2,e3,e4⟩⟩,OJ,h.ps.symm, ?_,rfl,h.ook,hlen,bZ⟩;show oz r0 (b0:Int) _=o.r
   rw[OJ,e4]
 ·right;refine⟨h1,h2.off,h2.ee,kp.boots.trans h.boots,fun cut=> ?_⟩;have h3:=(h2.ct cut).elim id id;exact⟨o,.inl rfl,0,by omega,t,h3,htb⟩
end
end Go.Proofs.YtlgdkndamddpkaaGreat
end
