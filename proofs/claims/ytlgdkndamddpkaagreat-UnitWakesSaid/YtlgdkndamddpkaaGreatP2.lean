/- Part 2 of the texts behind the law UnitWakes: what its row needs (an abstract machine, its equations, and what the program computes). -/
import Derived.Scope
import Derived.IntWalk
import Derived.Laws.Externs
import Derived.Test.YtlgdkndamddpkaaGreatProg
import Derived.KernelRfl
import Derived.Lib.Builder
import Derived.Lib.UnsafeStr
import Derived.Lib.Walk
import Derived.WalkKit
import Derived.Test.YtlgdkndamddpkaaGreatP1
set_option maxRecDepth 100000
set_option linter.unusedSimpArgs false
set_option linter.unusedVariables false
set_option linter.unusedSectionVars false
section
namespace Go.Am
section
variable {E:jU} {H0:af} {ρ0:da} {w0:World} {ann:bR} {N:Nat} {ρ lam:da} {S:St} {a:Act} {w:World}
theorem xV {g:Value→ByteArray→Sem (ForInStep ByteArray)} (hg:∀n r,g (.int .u8 n) r=pure (.yield (r.push (UInt8.ofNat n.toNat)))):
 ∀(vs:List V) (us:List Value) (acc:ByteArray),ej ρ vs us→Gh (.int .u8) vs=true→
 (forIn us acc g:Sem ByteArray).run E.P w=.ok (cX vs acc) w
 |[],us,acc,h,_=>by rw[h.fW];simp [cX]
 |v::vs,us,acc,h,hk=>by
  obtain⟨u,m,rfl,h1,h2⟩:=h.cT;rw[Gh,Bool.and_eq_true] at hk
  have hv:∃n,v=.int .u8 n:=by
   cases v<;>simp [V.av] at hk
   exact⟨_,by rw[hk.1]⟩
  obtain⟨n,rfl⟩:=hv;rw[h1.hY];have ih:=xV hg vs m (acc.push (UInt8.ofNat n.toNat)) h2 hk.2;simp only[List.forIn_cons,hg,Sem.run_bind,Sem.run_pure,Result.andThen_ok,cX,V.aa];exact ih
theorem Gw {p:Nat×Nat} {c:Nat} {x:Value} (hx:VR ρ (.slice (some p) 0 c) x):(Conv.bytesToString x).run E.P w=.ok (.string .empty) w:=by
 obtain⟨id,off⟩:=p;rcases hx.eO with⟨b,_,rfl⟩|⟨_,_,a,rfl⟩
 ·simp [Conv.bytesToString,loadCells,loadCellsFrom]
 ·simp [Conv.bytesToString,loadCells,loadCellsFrom]
theorem Ef {H:af} (hr:HR ρ H w) {id off len c:Nat} {x:Value} (hx:VR ρ (.slice (some (id,off)) len c) x) (h:H.inb id off len=true) (hk:Gh (.int .u8) (H.sub id off len)=true):
 (Conv.bytesToString x).run E.P w=.ok (.string (cX (H.sub id off len) ByteArray.empty)) w:=by
 obtain⟨e,cs,ro,hg,hle,b,hb,cs',fz,hcell,hvs,_,_⟩:=xM hr h;rcases hx.eO with⟨b',hb',rfl⟩|⟨h0,_,a,rfl⟩;rotate_left
 ·subst h0;simp [Conv.bytesToString,loadCells,loadCellsFrom,af.sub,cX]
 rw[hb] at hb';cases hb';have hsub:H.sub id off len=(cs.drop off).take len:=by simp [af.sub,af.cs,hg]
 have hlen:cs'.size=cs.length:=by have:=hvs.1;simp at this;omega
 have hrun:=run_loadCells_list (P:=E.P) w ⟨b,off,none⟩ ((cs'.toList.drop off).take len) (by
  intro j v hv;rw[fN,qd hcell];rw[List.getElem?_take] at hv;split at hv
  ·rw[List.getElem?_drop] at hv;simpa using hv
  ·cases hv)
 have hl:((cs'.toList.drop off).take len).length=len:=by simp;omega
 rw[hl] at hrun;simp only[Conv.bytesToString,Sem.run_bind,hrun,Result.andThen_ok, ←Array.forIn_toList];rw[xV (E:=E) (fun n r=>rfl) (H.sub id off len) ((cs'.toList.drop off).take len) ByteArray.empty (by rw[hsub];exact(hvs.drop off).take len) hk];rfl
theorem vO {o:Oper} {ev:Ev} {e:Operand→Value} (cN:oS ρ lam ev e) {H:af} (hr:HR ρ H w) {d:fC T} (h:dh E o.op ev H=some d) (hq:d.rq=true):∃v,(execOp e o).run E.P w=.ok (.value v) w∧TR ρ lam (if d.c=true then d.x else d.y) v:=by
 obtain⟨dst,op,type,iU,after,guard⟩:=o
 cases op with
 |load t a=>
  simp only[dh] at h;split at h
  ·rename_i id off ha;obtain⟨b,hb,he⟩:=(cN.tv ha).uL
   have key:∀n,H.inb id off n=true→∃cs e ro,H.get id=some (.cells e cs ro)∧fF ρ e cs (!ro) w.heap[b]? ∧off+n≤cs.length:=by
    intro n hn;obtain⟨e,cs,ro,hg,hle,b',hb',hc⟩:=xM hr hn;rw[hb] at hb';cases hb';exact⟨cs,e,ro,hg,hc,hle⟩
   split at h
   ·rename_i k hk;simp only[Option.some.injEq] at h;subst h;simp only[fC.one,Bool.and_eq_true] at hq;obtain⟨cs,el,ro,hg,hc,hle⟩:=key 1 hq.1;have hcell:H.cell id off=ae cs off:=by simp [af.cell,af.cs,hg]
    obtain⟨v',h1,h2⟩:=nK (E:=E) (t:=t) (off:=off) (r:=true) (v:=(H.cell id off).QD k) hc (by
     simp only[lU,hk,hcell,Option.some.injEq,Prod.mk.injEq,and_true];rw[hcell] at hq
     simp [hq.2];omega) rfl (fun cs' he=>by rw[V.rk hq.2] at he;have:=V.rm hq.2;rw[he] at this;cases this)
    exact⟨v',by simp [execOp,Instr.loadAt,he,Instr.sureAddr,h1],.v h2⟩
   ·rename_i hk;split at h
    ·rename_i ks n hks hn;simp only[Option.some.injEq] at h;subst h;simp only[fC.one,Bool.and_eq_true] at hq;obtain⟨cs,el,ro,hg,hc,hle⟩:=key n hq.1;have hsub:H.sub id off n=(cs.drop off).take n:=by simp [af.sub,af.cs,hg]
     obtain⟨v',h1,h2⟩:=nK (E:=E) (t:=t) (off:=off) (r:=true) (v:=.agg ((cs.drop off).take n)) hc (by
      simp only[lU,hk,hks,hn,Option.some.injEq,Prod.mk.injEq,and_true]
      simpa using hle) rfl (fun cs' he=>by cases he;exact .inr (jE (hsub▸hq.2)))
     refine⟨v',by simp [execOp,Instr.loadAt,he,Instr.sureAddr,h1],.v ?_⟩;rw[kr hq.2 rfl,hsub];exact h2
    ·cases h
  ·cases h
 |convert s t x=>
  simp only[dh] at h;split at h
  ·rename_i ti p len c mq hk hx;obtain⟨ds,qE,hds⟩:=dj mq;obtain⟨dt,kl,hdt⟩:=bH hk;split at h
   ·rename_i el hs;rw[hs] at hds;cases hZ hds;split at h
    ·rename_i hel;obtain⟨de,Qi,Oj⟩:=bH hel;simp only[Option.some.injEq] at h;subst h;cases dt<;>simp [bf,cF] at hdt
     cases de<;>simp [bf,cF] at Oj
     subst Oj;have hv:=cN.v hx;change gO H p len=true at hq
     show∃v,_∧TR ρ lam (T.v (V.ea (gP H p len))) v
     unfold gO at hq;unfold gP
     cases p with
     |none=>
      have he:=hv.kP;exact⟨.string .empty,by simp [execOp,convert,run_underlying qE,run_underlying kl,run_underlying Qi,he,Conv.bytesToString],.v (.ea _)⟩
     |some q=>
      obtain⟨id,off⟩:=q
      have HA:∃a n c',e x=.slice a n c':=by
       rcases hv.eO with⟨b,_,he⟩|⟨_,_,a,he⟩
       ·exact⟨_,_,_,he⟩
       ·exact⟨_,_,_,he⟩
      obtain⟨a,n,c',he⟩:=HA;by_cases h0:len=0
      ·subst h0;have hb:=Gw (E:=E) (w:=w) hv;rw[he] at hb;exact⟨.string .empty,by simp [execOp,convert,run_underlying qE,run_underlying kl,run_underlying Qi,he,hb],.v (.ea _)⟩
      have hz:Nat.beq len 0=false:=by rw[aP];simp [h0]
      simp only[Option.isNone_some,Bool.false_or,hz,Option.getD_some,Bool.and_eq_true] at hq;have hb:=Ef (E:=E) hr hv hq.1 hq.2;rw[he] at hb;simp only[Option.isNone_some,hz,Bool.or_self,cond_false,Option.getD_some];exact⟨_,by simp [execOp,convert,run_underlying qE,run_underlying kl,run_underlying Qi,he,hb],.v (.ea _)⟩
    ·cases h
   ·cases h
  ·cases h
 |lookup t x i c=>
  simp only[dh] at h;split at h
  ·rename_i ti r k n mq hx hi;obtain⟨ds,qE,hds⟩:=dj mq;split at h
   ·rename_i kt et hsh;rw[hsh] at hds;cases s8 hds;split at h
    ·rename_i k' ei hk Yh;split at h
     ·rename_i z hz;split at h
      ·rename_i b y hy;obtain⟨dk,UQ,hdk⟩:=bH hk;have Ok:dk=.int k':=by cases dk<;>simp_all [bf,cF]
       subst Ok
       have Zr:oG k k'=true∧dY H k r=true∧b=true:=by
        cases c<;>(simp only[Option.some.injEq] at h;subst h;simpa [fC.one] using hq)
       obtain⟨hkk,hok,hb⟩:=Zr;have hkk:k=k':=by simpa using hkk
       subst hkk;obtain⟨z',Ds,xd⟩:=O2 Yh hz ρ w;obtain⟨v',hv,hrun⟩:=Ci (E:=E) (n:=n) qE UQ Ds xd hr (cN.v hx) hok c;have hyy:=kS hy hb;have hi':=(cN.v hi).hY
       cases c with
       |true=>
        simp only[Option.some.injEq] at h;subst h;simp only[if_true] at hrun;refine⟨.tuple #[v',.bool (kF H r n)],by simp [execOp,hi',hrun], ?_⟩;rw[hyy];exact .v (.gk (.cons hv (.cons (.bool _) (.nil ρ))))
       |false=>
        simp only[Option.some.injEq] at h;subst h;simp only[Bool.false_eq_true,if_false] at hrun;refine⟨v',by simp [execOp,hi',hrun], ?_⟩;rw[hyy];exact .v hv
      ·cases h
     ·cases h
    ·cases h
   ·cases h
  ·cases h
 |entry it=>
  simp only[dh] at h;split at h
  ·rename_i t id hit;split at h
   ·rename_i ti mq;split at h
    ·rename_i kt et hsh;split at h
     ·rename_i ra x rb y hx hy;simp only[Option.some.injEq] at h;subst h;simp only[fC.one,Bool.and_eq_true] at hq;obtain⟨b,hb,he⟩:=(cN.tv hit).DZ;obtain⟨k,v,hrun,hk,hv⟩:=Ck (E:=E) hr hb hq.1;refine⟨.tuple #[k,v],by simp [execOp,he,hrun], ?_⟩;rw[kS hx hq.2.1,kS hy hq.2.2];exact .v (.gk (.cons hk (.cons hv (.nil ρ))))
     ·cases h
    ·cases h
   ·cases h
  ·cases h
 |call c=>
  simp only[dh] at h;split at h
  ·rename_i t ts r Dw hts hargs;split at h
   ·rename_i hk;obtain⟨dt,kl,hdt⟩:=bH hk;obtain⟨kt,et,rfl⟩:∃kt et,dt=.map kt et:=by cases dt<;>simp_all [bf,cF]
    simp only[Option.some.injEq] at h;subst h;have ha:ej ρ [.map r] (c.args.map e).toList:=by simpa using cN.vs hargs
    obtain⟨x',r1,Ae,hx',nk⟩:=ha.cT;have Ad:=nk.fW;subst Ad
    have pW:c.args.map e= #[x']:=by
     apply Array.ext';rw[Ae]
    have Lj:c.argTypes[0]? =some t:=by
     rw[←Array.getElem?_toList,hts];rfl
    have hq:(r.isNone||H.isMap (r.getD 0))=true:=hq
    have hrun:(Builtin.len_ c.argTypes type (c.args.map e)).run E.P w=.ok (.int .i64 (xi H r)) w:=by
     rw[pW]
     cases r with
     |none=>
      cases hx';simp [Builtin.len_,Lj,run_underlying kl,xi,goInt]
     |some id=>
      have hg:=rP (by simpa using hq);obtain⟨b,hb,es',he,FO⟩:=hr.vK id _ hg
      cases hx' with
      |map hb'=>
       rw[hb] at hb';cases hb';have hl:=Eb FO;simp [Builtin.len_,Lj,run_underlying kl,gH (E:=E) he,xi,goInt,hl]
    refine⟨.int .i64 (xi H r), ?_,.v (.int _ _)⟩;simp only[execOp,resolve,Dw,invoke,builtin,Sem.run_bind,Sem.run_pure,Result.andThen_ok,hrun]
   ·cases h
  ·cases h
 |_=>simp [dh] at h
theorem qX {e:Operand→Value} {c:Call} {type:TypeId} {f:Operand} (hc:c.callee=.value f):resolve e c type=Deferred.ofValue (e f) (c.args.map e):=by
 simp [resolve,hc]
theorem xW {fn:Func} {f:Nat} (h:E.P.funcs[f]? =some fn):(fn.name == "runtime.NumGoroutine")=false:=by
 have h1:=List.all_eq_true.1 E.names fn (by
  rw[Array.mem_toList_iff]
  exact Array.mem_of_getElem? h)
 simpa using h1
theorem LU {e:Operand→Value} {o:Oper} {c:Call} {f:Operand} {g:FuncId} {fi cap:Array Value} {fn:Func} (ho:o.op=.call c) (hc:c.callee=.value f) (he:e f=.func (.func g) fi cap) (hf:E.P.funcs[g]? =some fn) (hb:fn.body.isSome=true) (w:World):(execOp e o).run E.P w=.ok (.enter g (fi++c.args.map e++cap)) w:=by
 have hn:¬fn.name= "runtime.NumGoroutine" :=by simpa using xW hf
 have hb':¬fn.body=none:=by cases h:fn.body<;>simp_all
 simp [execOp,ho,qX hc,he,Deferred.ofValue,invoke,callFunc,hf,hn,hb']
theorem ta {e:Operand→Value} {o:Oper} {c:Call} {f:Operand} {g:FuncId} {fi cap:Array Value} (ho:o.op=.call c) (hc:c.callee=.value f) (he:e f=.func (.func g) fi cap) (w:World):(execOp e o).run E.P w=(callFunc g (fi++c.args.map e++cap)).run E.P w:=by
 simp [execOp,ho,qX hc,he,Deferred.ofValue,invoke]
theorem cj {P:Program} {o:Oper} {a:Act} {next:Act→World→Prop} {Q:Exit→Act→World→Prop} {w w':World} {v:Value} (h:(execOp a.eval o).run P w=.ok (.value v) w') (hn:next (a.put o.dst v) w'):o.wp P a w next Q:=by
 unfold Oper.wp;rw[h];exact hn
theorem uS {P:Program} {o:Oper} {a:Act} {next:Act→World→Prop} {Q:Exit→Act→World→Prop} {w w':World} (h:(execOp a.eval o).run P w=.ok .skip w') (hn:next (a.put o.dst undef) w'):o.wp P a w next Q:=by
 unfold Oper.wp;rw[h];exact hn
theorem fU (h:SR H0 ρ0 w0 ann N ρ lam S a w) {o:Oper} {r:Bool} {x:T} {H':af} (ho:bS E o.op (cI S.tm) S.hp=some (r,x,H')) (hr:r=true):∃ρ' v w',(execOp a.eval o).run E.P w=.ok (.value v) w'∧SR H0 ρ0 w0 ann N ρ' lam {S with hp:=H'} a w'∧TR ρ' lam x v:=by
 have cN:=h.ev;obtain⟨dst,op,type,iU,after,guard⟩:=o
 cases op with
 |buildSlice t len parts=>
  simp only[bS] at ho;split at ho
  ·rename_i ti ps mq hps;obtain⟨ds,qE,hds⟩:=dj mq;split at ho
   ·rename_i el hsh;rw[hsh] at hds;cases hZ hds;split at ho
    ·rename_i n ei hsz Yh;split at ho
     ·rename_i z hz;obtain⟨z',Ds,xd,hz3⟩:=uQ (E:=E) Yh hz ρ w
      cases hb:(Nat.beq z.cells.length n&&rz n&&Nat.ble (len*n) 16777216) with
      |false=>simp [hb] at ho
      |true=>
       simp only[hb,cond_true] at ho;simp only[Bool.and_eq_true] at hb;have hn:z.cells.length=n:=Nat.eq_of_beq_eq_true hb.1.1
       have hp:0<n:=by
        have:=hb.1.2
        cases n with
        |zero=>cases this
        |succ n=>omega
       have hle:len*n≤16777216:=Nat.le_of_ble_eq_true hb.2;split at ho
       ·rename_i r' cs hcs;simp only[Option.some.injEq,Prod.mk.injEq] at ho;obtain⟨rfl,rfl,rfl⟩:=ho;obtain⟨h1,h2⟩:=l7 cN hps;have Dt:(parts.map fun p=>(p.1,a.eval p.2)).toList=parts.toList.map fun p=>(p.1,a.eval p.2):=by simp
        obtain⟨zc,Lg⟩:∃zc:Array Value,zc=if len*n=0 then #[] else z'.cells:=⟨_,rfl⟩
        have hrow:ej ρ (gQ len z.cells) ((Array.range (len*n)).map (zc[· % zc.size]!)).toList:=by
         by_cases h0:len*n=0
         ·have hl:len=0:=by
           rcases Nat.mul_eq_zero.1 h0 with h|h
           ·exact h
           ·omega
          subst hl;simpa [gQ] using ej.nil ρ
         ·rw[if_neg h0] at Lg;rw[Lg];exact Ea xd hn hp
        obtain⟨out',h3,h4,h5⟩:=nJ (E:=E) (place':=fun j=>some (j*n,n)) (by
         intro i off t m F8 hm;simp only[Option.some.injEq,Prod.mk.injEq] at F8⊢;obtain⟨h1,rfl⟩:=F8;rw[hsz] at hm
         exact⟨h1,Option.some.inj hm⟩) h1 h2 hrow (gm hz3 len) hcs hr
        rw[←Dt] at h3;have Ol:ia (.cells out' el) w {w with heap:=w.heap.push (.cells out' el)}:=⟨rfl,rfl,rfl,rfl⟩
        refine⟨_,.slice (some ⟨w.heap.size,0,none⟩) len len,{w with heap:=w.heap.push (.cells out' el)}, ?_,h.Cb Ol (x:=.cells el cs false) (ik h4 h5),
         .v (.slice _ _ (by rw[dV,if_pos rfl]))⟩
        have gY:¬len*n>2 ^ 24:=by omega
        by_cases h0:len*n=0
        ·rw[if_pos h0] at Lg;subst Lg;simp only[execOp,Instr.buildSlice,Sem.run_bind,run_underlying qE,Result.andThen_ok,eQ hsz,if_neg gY,if_pos h0,h3,Sem.run_pure,newRow,newObj];rfl
        ·rw[if_neg h0] at Lg;subst Lg;simp only[execOp,Instr.buildSlice,Sem.run_bind,run_underlying qE,Result.andThen_ok,eQ hsz,if_neg gY,if_neg h0,Ds,h3,Sem.run_pure,newRow,newObj];rfl
       ·cases ho
     ·cases ho
    ·cases ho
   ·cases ho
  ·cases ho
 |makeSlice t len cap=>
  simp only[bS] at ho;split at ho
  ·rename_i el n cE z k l k' c hel hl hc
   simp only[Option.some.injEq,Prod.mk.injEq] at ho;obtain⟨rfl,rfl,rfl⟩:=ho;simp only[Bool.and_eq_true,decide_eq_true_eq] at hr;obtain⟨cU,z',kl,hi,hz,hsz,hby,hzl,hpos,hzs,Qk,Od⟩:=qe hel;have e1:=(cN.v hl).hY;have e2:=(cN.v hc).hY;have hrun:=zS (E:=E) (w:=w) (t:=t) (cE:=0) (n:=0) (z:=[]) kl hi hz (by omega) (by omega) (k:=k) (k':=k') hr.1 hr.2.1 (by rw[hby];exact hr.2.2);have hp:ia (.cells (Builtin.zeroCells z'.cells c.toNat) el) w (w.alloc (.cells (Builtin.zeroCells z'.cells c.toNat) el)):=⟨rfl,rfl,rfl,rfl⟩
   exact⟨_,.slice (some ⟨w.heap.size,0,none⟩) l.toNat c.toNat,w.alloc (.cells (Builtin.zeroCells z'.cells c.toNat) el),by simp [execOp,e1,e2,hrun],h.Cb hp (x:=.cells el (gQ c.toNat z) false) (ik (lM (Od ρ) hzl hpos _) (gm Qk _)),
    .v (.slice _ _ (by rw[dV,if_pos rfl]))⟩
  ·cases ho
 |convert s d x=>
  simp only[bS] at ho;split at ho
  ·rename_i p len cap ti hk hx mq;obtain⟨ds,qE,hds⟩:=bH hk;obtain⟨dd,hud,Om⟩:=dj mq;split at ho
   ·rename_i e hsh;rw[hsh] at Om;cases hZ Om;split at ho
    ·rename_i hel;obtain⟨de,Qi,Oj⟩:=bH hel;simp only[Option.some.injEq,Prod.mk.injEq] at ho;obtain⟨rfl,rfl,rfl⟩:=ho;simp only[Bool.and_eq_true] at hr;obtain⟨Ro,hp,hcap,Du⟩:=hr;have Ro:s=d:=Nat.eq_of_beq_eq_true Ro;subst Ro;cases de<;>simp [bf,cF] at Oj
     subst Oj
     cases p with
     |none=>cases hp
     |some q=>
      obtain⟨id,off⟩:=q;obtain⟨e',cs,b,hg,hle,hb,hc⟩:=Ch h.hr Du;have hv:=cN.v hx;rcases hv.eO with⟨b',hb',he⟩|⟨h0,h1,ad,he⟩
      ·simp only[Option.getD_some] at hb;rw[hb] at hb';cases hb';obtain⟨w',g1,g2,g3⟩:=xQ (E:=E) (off:=off) hc;have hs:=h.Cc hg rfl rfl hb g3 (y:=.cells e' cs false) g2;rw[s7 hg] at hs;exact⟨ρ,_,w',by simp [execOp,convert,run_underlying hud,run_underlying Qi,he,g1],hs,.v (.slice _ _ hb)⟩
      ·rw[h1] at hcap;cases hcap
    ·cases ho
   ·cases ho
  ·cases ho
 |call c=>
  simp only[bS] at ho;split at ho
  ·rename_i t ts p l cp x Dw hts hargs;split at ho
   ·rename_i el n cE z hel
    split at ho
    ·rename_i m ok cs hsrc;simp only[Option.some.injEq,Prod.mk.injEq,jV,jW,hsrc] at ho;obtain⟨rfl,rfl,rfl⟩:=ho;have ha:ej ρ [.slice p l cp,x] (c.args.map a.eval).toList:=by simpa using cN.vs hargs
     obtain⟨s',r1,Ae,hs',nk⟩:=ha.cT;obtain⟨x',r2,Ad,hx',sy⟩:=nk.cT;have Oe:=sy.fW;subst Oe;subst Ad
     have pW:c.args.map a.eval= #[s',x']:=by
      apply Array.ext';rw[Ae]
     have Lj:c.argTypes[0]? =some t:=by
      rw[←Array.getElem?_toList,hts];rfl
     obtain⟨cU,z',kl,hi,hz,hsz,hby,hzl,hpos,hzs,Qk,Od⟩:=qe hel;subst hsz;obtain⟨hlen,sx⟩:=uR (E:=E) h.hr hx' hsrc
     obtain⟨xs,h1,h2,h3,h4⟩:=sx (Nat.min m l) (Nat.min_le_left _ _) (by
      by_cases h0:Nat.min m l=0
      ·exact .inl h0
      ·rw[aP] at hr;simp [h0] at hr
       exact .inr hr.2.1)
     have HA:∃aU,s'=.slice aU l cp∧∀w',(match aU with|some ad=>storeCells ad xs.toList|none=>pure ()).run E.P w=.ok () w'→
      (Builtin.copy_ c.argTypes type (c.args.map a.eval)).run E.P w=.ok (.int .i64 ((Nat.min m l:Nat):Int)) w':=by
      have HA:∃aU,s'=.slice aU l cp:=by
       cases p with
       |none=>exact⟨_,hs'.kP⟩
       |some q=>
        obtain⟨id,off⟩:=q;rcases hs'.eO with⟨b,hb,he⟩|⟨h0,h1,ad,he⟩
        ·exact⟨_,he⟩
        ·exact⟨_,by rw[he,h0,h1]⟩
      obtain⟨aU,rfl⟩:=HA;refine⟨aU,rfl,fun w' hw=> ?_⟩;rw[pW]
      cases aU with
      |none=>
       simp at hw;subst hw;simp [Builtin.copy_,Lj,run_underlying kl,hlen,sizeOf,typeInfo,hi,h1,goInt]
      |some ad=>simp [Builtin.copy_,Lj,run_underlying kl,hlen,sizeOf,typeInfo,hi,h1,hw,goInt]
     obtain⟨aU,rfl,Rq⟩:=HA;by_cases h0:Nat.min m l=0
     ·have hxs:xs= #[]:=by
       have:=h2.1;rw[h4,h0] at this;apply Array.eq_empty_of_size_eq_zero;simpa using this.symm
      subst hxs;have hc:=Rq w (by cases aU<;>simp [oU]);rw[aP,decide_eq_true h0,cond_true];exact⟨ρ,.int .i64 (Nat.min m l:Nat),w,by simp only[execOp,resolve,Dw,invoke,builtin,Sem.run_bind,Sem.run_pure,Result.andThen_ok,hc],h,.v (.int _ _)⟩
     ·rw[aP,decide_eq_false h0] at hr;rw[aP,decide_eq_false h0,cond_false];simp only[Bool.false_or,Bool.and_eq_true] at hr;obtain⟨hp,hok,Du⟩:=hr
      cases p with
      |none=>cases hp
      |some q=>
       obtain⟨id,off⟩:=q;simp only[Option.getD_some] at Du⊢;obtain⟨e,ccs,b,hg,hle,hb,hc⟩:=Ch h.hr Du;rcases hs'.eO with⟨b',hb',he⟩|⟨UR,_,_⟩
       ·rw[hb] at hb';cases hb';cases he;obtain⟨w',g1,g2,g3⟩:=lL (E:=E) (off:=off) hc h2 h3 (by rw[h4];exact hle);have hst:S.hp.store id off (cs (Nat.min m l))=S.hp.put id (.cells e (bL ccs off (cs (Nat.min m l))) false):=by simp [af.store,hg]
        rw[hst];have hc:=Rq w' g1;exact⟨ρ,.int .i64 (Nat.min m l:Nat),w',by simp only[execOp,resolve,Dw,invoke,builtin,Sem.run_bind,Sem.run_pure,Result.andThen_ok,hc],h.Cc hg rfl rfl hb g3 g2,.v (.int _ _)⟩
       ·exact absurd (by rw[UR];exact Nat.min_zero m) h0
    ·cases ho
   ·cases ho
  ·rename_i t ts r k n Dw hts hargs;split at ho
   ·rename_i ti mq;obtain⟨ds,qE,hds⟩:=dj mq;split at ho
    ·rename_i kt et hsh;rw[hsh] at hds;cases s8 hds;split at ho
     ·rename_i k' hk;obtain⟨dk,UQ,hdk⟩:=bH hk;have Ok:dk=.int k':=by cases dk<;>simp_all [bf,cF]
      subst Ok;simp only[Option.some.injEq,Prod.mk.injEq] at ho;obtain⟨rfl,rfl,rfl⟩:=ho;simp only[Bool.and_eq_true,mr,decide_eq_true_eq] at hr;obtain⟨hkk,hok⟩:=hr;subst hkk;have ha:ej ρ [.map r,.int k n] (c.args.map a.eval).toList:=by simpa using cN.vs hargs
      obtain⟨x',r1,Ae,hx',nk⟩:=ha.cT;obtain⟨y',r2,Ad,hy',sy⟩:=nk.cT;have Oe:=sy.fW;subst Oe;subst Ad;have hy:=hy'.hY;subst hy
      have pW:c.args.map a.eval= #[x',.int k n]:=by
       apply Array.ext';rw[Ae]
      have Lj:c.argTypes[0]? =some t:=by
       rw[←Array.getElem?_toList,hts];rfl
      cases r with
      |none=>
       cases hx'
       have hrun:(Builtin.delete_ c.argTypes type (c.args.map a.eval)).run E.P w=.ok (.tuple #[]) w:=by
        rw[pW];simp [Builtin.delete_,Lj,run_underlying qE,eR (E:=E) UQ]
       refine⟨ρ,.tuple #[],w, ?_,h,.v (.tuple rfl (fun i x y hx=>by simp at hx))⟩;simp only[execOp,resolve,Dw,invoke,builtin,Sem.run_bind,Sem.run_pure,Result.andThen_ok,hrun]
      |some id=>
       obtain⟨b,w',o',hb,hrun,On,hg,Dv,hrw,Oo⟩:=Cj (E:=E) (ty:=type) (n:=n) (u:=0) qE UQ h.hr hx' hok Lj;rw[Dv];refine⟨ρ,.tuple #[],w', ?_,h.Cc hg rfl hrw hb On Oo,.v (.tuple rfl (fun i x y hx=>by simp at hx))⟩;rw[←pW] at hrun;simp only[execOp,resolve,Dw,invoke,builtin,Sem.run_bind,Sem.run_pure,Result.andThen_ok,hrun]
     ·cases ho
    ·cases ho
   ·cases ho
  ·rename_i t ts p l cp Dw hts hargs;split at ho
   ·rename_i el n cE z hel
    simp only[Option.some.injEq,Prod.mk.injEq] at ho;obtain⟨rfl,rfl,rfl⟩:=ho;have ha:ej ρ [.slice p l cp] (c.args.map a.eval).toList:=by simpa using cN.vs hargs
    obtain⟨s',r1,Ae,hs',nk⟩:=ha.cT;have Oe:=nk.fW;subst Oe
    have pW:c.args.map a.eval= #[s']:=by
     apply Array.ext';rw[Ae]
    have Lj:c.argTypes[0]? =some t:=by
     rw[←Array.getElem?_toList,hts];rfl
    obtain⟨cU,z',kl,hi,hz,hsz,hby,hzl,hpos,hzs,Qk,Od⟩:=qe hel;subst hsz
    have key:∀w',(Builtin.clear_ c.argTypes type #[s']).run E.P w=.ok (.tuple #[]) w'→
     (execOp a.eval ⟨dst,.call c,type,iU,after,guard⟩).run E.P w=.ok (.value (.tuple #[])) w':=by
     intro w' hw;simp only[execOp,resolve,Dw,invoke,builtin,Sem.run_bind,Sem.run_pure,Result.andThen_ok,pW,hw]
    have nop:(p.isNone||Nat.beq l 0)=true→∃ρ' v w',(execOp a.eval ⟨dst,.call c,type,iU,after,guard⟩).run E.P w=.ok (.value v) w'∧
     SR H0 ρ0 w0 ann N ρ' lam {S with hp:=S.hp} a w'∧TR ρ' lam (.v (.tuple [])) v:=by
     intro hn;refine⟨ρ,_,w,key w ?_,h,.v (.tuple rfl (fun i x y hx=>by simp at hx))⟩
     cases p with
     |none=>rw[hs'.kP];simp [Builtin.clear_,Lj,run_underlying kl]
     |some q=>
      have UR:l=0:=Nat.eq_of_beq_eq_true (by simpa using hn);subst UR;obtain⟨id,off⟩:=q;rcases hs'.eO with⟨b,hb,he⟩|⟨_,_,ad,he⟩
      ·rw[he];simp [Builtin.clear_,Lj,run_underlying kl]
      ·rw[he];simp [Builtin.clear_,Lj,run_underlying kl]
    cases hn:(p.isNone||Nat.beq l 0) with
    |true=>simpa using nop hn
    |false=>
     rw[hn] at hr;simp only[Bool.false_or] at hr;simp only[cond_false]
     cases p with
     |none=>cases hn
     |some q=>
      obtain⟨id,off⟩:=q;simp only[Option.getD_some] at hr⊢
      have UR:l≠0:=by
       rintro rfl;cases hn
      obtain⟨e,ccs,b,hg,hle,hb,hc⟩:=Ch h.hr hr;rcases hs'.eO with⟨b',hb',he⟩|⟨abi,_,_⟩
      ·rw[hb] at hb';cases hb';cases he;obtain⟨w',g1,g2,g3⟩:=lL (E:=E) (off:=off) hc (lM (Od ρ) hzl hpos l) (gm Qk l) (by rw[fO,hzl];exact hle);have hst:S.hp.store id off (ey l z)=S.hp.put id (.cells e (bL ccs off (ey l z)) false):=by simp [af.store,hg]
       rw[hst];refine⟨ρ,_,w',key w' ?_,h.Cc hg rfl rfl hb g3 g2,.v (.tuple rfl (fun i x y hx=>by simp at hx))⟩
       cases l with
       |zero=>exact absurd rfl UR
       |succ l=>simp [Builtin.clear_,Lj,run_underlying kl,zeroValue,typeInfo,hi,hz,g1]
      ·exact absurd abi UR
   ·cases ho
  ·cases ho
 |makeMap t si=>
  cases si with
  |some x=>simp [bS] at ho
  |none=>
   simp only[bS] at ho;split at ho
   ·simp only[Option.some.injEq,Prod.mk.injEq] at ho;obtain⟨rfl,rfl,rfl⟩:=ho
    exact⟨_,.map (some w.heap.size),{w with heap:=w.heap.push (.map #[] 0)},by simp [execOp,Instr.makeMap,newObj,Sem.run],h.Cb (o:=.map #[] 0) ⟨rfl,rfl,rfl,rfl⟩ (x:=.map [] 0) ⟨#[],rfl,trivial⟩,
     .v (.map (by rw[dV,if_pos rfl]))⟩
   ·cases ho
 |range t x=>
  simp only[bS] at ho;split at ho
  ·rename_i ti r mq hx;obtain⟨ds,qE,hds⟩:=dj mq;split at ho
   ·rename_i kt et hsh;rw[hsh] at hds;cases s8 hds;simp only[Option.some.injEq,Prod.mk.injEq] at ho;obtain⟨rfl,rfl,rfl⟩:=ho;have hx':=cN.v hx
    cases r with
    |none=>
     have hx0:a.eval x=.map none:=by
      revert hx';generalize a.eval x=x';intro hx';cases hx';rfl
     exact⟨_,.pointer (some ⟨w.heap.size,0,none⟩),{w with heap:=w.heap.push (.mapIter none 0 #[] 0)},by
      simp [execOp,Instr.range,run_underlying qE,newObj,Sem.run,hx0],
      h.Cb (o:=.mapIter none 0 #[] 0) ⟨rfl,rfl,rfl,rfl⟩ (x:=.dA none 0 [] 0) ⟨none,rfl,.xB⟩,.v (.dA t (by rw[dV,if_pos rfl]))⟩
    |some id=>
     have hg:=rP (by simpa using hr);obtain⟨b,hb,es',he,FO⟩:=h.hr.vK id _ hg
     have hxe:a.eval x=.map (some b):=by
      revert hx';generalize a.eval x=x';intro hx'
      cases hx' with
      |map hb'=>rw[hb] at hb';cases hb';rfl
     refine⟨_,.pointer (some ⟨w.heap.size,0,none⟩),{w with heap:=w.heap.push (.mapIter (some b) (S.hp.clock id) #[] (S.hp.clock id))}, ?_,
      h.Cb (o:=.mapIter (some b) (S.hp.clock id) #[] (S.hp.clock id)) ⟨rfl,rfl,rfl,rfl⟩ (x:=.dA (some id) (S.hp.clock id) [] (S.hp.clock id)) ⟨some b,rfl,.map hb⟩,.v (.dA t (by rw[dV,if_pos rfl]))⟩
     simp [execOp,Instr.range,run_underlying qE,hxe,gH (E:=E) he,newObj,Sem.run]
   ·cases ho
  ·cases ho
 |_=>simp [bS] at ho
theorem Cl {R:lH} (hX:jF E) (hR:∀f args H K,R.call f args H K→ij E f args H K) (hB:∀f args H K,R.call f args H K→∃fn,E.P.funcs[f]? =some fn∧fn.body.isSome=true) (h:SR H0 ρ0 w0 ann N ρ lam S a w) {o:Oper} {K:T→af→Prop} (ho:bG E R o.op o.type (cI S.tm) S.hp K) {next:Act→World→Prop} {Q:Exit→Act→World→Prop} (hn:∀x H' ρ' v w',K x H'→SR H0 ρ0 w0 ann N ρ' lam {S with hp:=H'} a w'→TR ρ' lam x v→next (a.put o.dst v) w'):o.wp E.P a w next Q:=by
 have cN:=h.ev;obtain⟨dst,op,type,iU,after,guard⟩:=o
 cases op with
 |alloc t=>
  simp only[bG] at ho;split at ho
  ·rename_i i hi;split at ho
   ·rename_i z hz;obtain⟨z',h1,h2,h3⟩:=uQ hi hz ρ w;have hp:ia (.cells z'.cells t) w {w with heap:=w.heap.push (.cells z'.cells t)}:=⟨rfl,rfl,rfl,rfl⟩;refine cj (v:=.pointer (some ⟨w.heap.size,0,none⟩)) (w':={w with heap:=w.heap.push (.cells z'.cells t)}) (by simp [execOp,Instr.alloc,h1,newVar,newRow]) ?_;exact hn _ _ _ _ _ ho (h.Cb hp (x:=.cells t z.cells false) (ik h2 h3)) (.v (.aj (by rw[dV,if_pos rfl])))
   ·exact ho.elim
  ·exact ho.elim
 |box t x=>
  simp only[bG] at ho;split at ho
  ·rename_i v hv;split at ho
   ·rename_i r vs hvs;obtain⟨hr,ho⟩:=aM ho;obtain⟨h2,h3⟩:=iF (cN.v hv) hvs hr;have hp:ia (.cells (a.eval x).cells t) w {w with heap:=w.heap.push (.cells (a.eval x).cells t)}:=⟨rfl,rfl,rfl,rfl⟩;refine cj (v:=.pointer (some ⟨w.heap.size,0,none⟩)) (w':={w with heap:=w.heap.push (.cells (a.eval x).cells t)}) (by simp [execOp,Instr.box,newVar,newRow]) ?_;exact hn _ _ _ _ _ ho (h.Cb hp (x:=.cells t vs false) (ik h2 h3)) (.v (.aj (by rw[dV,if_pos rfl])))
   ·exact ho.elim
  ·exact ho.elim
 |store t ad x=>
  simp only[bG] at ho;split at ho
  ·rename_i id off v ha hx;split at ho
   ·rename_i r vs hvs;obtain⟨hr,ho⟩:=aM ho;rw[Bool.and_eq_true] at hr;have Du:=hr.2;unfold af.wr at Du;split at Du
    ·rename_i e cs ro hg;rw[Bool.and_eq_true] at Du;have hro:ro=false:=by simpa using Du.1
     subst hro;obtain⟨b,hb,hc⟩:=h.hr.vK id _ hg;obtain⟨b',hb',he⟩:=(cN.tv ha).uL;rw[hb] at hb';cases hb';obtain⟨w',h1,h2,h3⟩:=vM (E:=E) (t:=t) hc (cN.v hx) hvs hr.1 (Nat.le_of_ble_eq_true Du.2);refine uS (w':=w') (by simp [execOp,Instr.storeAt,he,Instr.sureAddr,h1]) ?_;have hst:S.hp.store id off vs=S.hp.put id (.cells e (bL cs off vs) false):=by simp [af.store,hg]
     rw[hst] at ho;exact hn _ _ _ _ _ ho (h.Cc hg rfl rfl hb h3 h2) .undef
    ·cases Du
   ·exact ho.elim
  ·exact ho.elim
 |call c=>
  simp only[bG] at ho;split at ho
  ·rename_i f args hc hargs;split at ho
   ·rename_i fv hf
    have post:∀v v' H' ρ' w',(match sJ E type v with|some (b,v')=>ag b (K (.v v') H')|none=>False)→VR ρ' v v'→HR ρ' H' w'→kQ S.hp ρ w H' ρ' w'→next (a.put dst v') w':=by
     intro v v' H' ρ' w' hk hv T5 hs;revert hk;split
     ·rename_i b y hy;intro hk;obtain⟨hb,hk⟩:=aM hk;rw[LN hy hb] at hk;exact hn _ _ _ _ _ hk (h.call hs T5) (.v hv)
     ·exact fun hk=>hk.elim
    have main:∀(g:FuncId) (Zs:List V) (fi cap:Array Value),a.eval f=.func (.func g) fi cap→ej ρ Zs (fi++c.args.map a.eval++cap).toList→
     (match (E.ext g).isSome with
      |true=>iB E g Zs S.hp fun v H'=>match sJ E type v with|some (b,v')=>ag b (K (.v v') H')|none=>False
      |false=>R.call g Zs S.hp fun v H'=>match sJ E type v with|some (b,v')=>ag b (K (.v v') H')|none=>False)→
     Oper.wp E.P ⟨dst,.call c,type,iU,after,guard⟩ a w next Q:=by
     intro g Zs fi cap he has ho;split at ho
     ·unfold iB at ho;split at ho
      ·rename_i x hx;rcases hX g x hx _ _ _ ho ρ w _ h.hr has with⟨v,v',w',H',ρ',hrun,hk,hv,T5,hs⟩|⟨hrun,Ot⟩
       ·exact cj (by rw[ta (E:=E) rfl hc he,hrun]) (post v v' H' ρ' w' hk hv T5 hs)
       ·unfold Oper.wp;rw[ta (E:=E) rfl hc he,hrun];refine Ot.mono ?_;rintro e w' ⟨v,v',H',ρ',rfl,hk,hv,T5,hs⟩;exact post v v' H' ρ' w' hk hv T5 hs
      ·exact ho.elim
     ·obtain⟨fn,hfn,hbody⟩:=hB _ _ _ _ ho;have hrun:=LU (E:=E) (e:=a.eval) (o:=⟨dst,.call c,type,iU,after,guard⟩) rfl hc he hfn hbody w;have Ot:=hR _ _ _ _ ho ρ w _ h.hr has;unfold Oper.wp;rw[hrun];refine Ot.mono ?_;rintro e w' ⟨v,v',H',ρ',rfl,hk,hv,T5,hs⟩;exact post v v' H' ρ' w' hk hv T5 hs
    have FQ:ej ρ args (c.args.map a.eval).toList:=by simpa using cN.vs hargs
    unfold jz at ho;split at ho
    ·rename_i g cap;obtain⟨cap',he,hcap⟩:=(cN.v hf).LK
     exact main g (args++cap) #[] cap' he (by
      rw[Array.toList_append,Array.toList_append]
      exact FQ.append hcap) ho
    ·rename_i g first;obtain⟨first',he,Ql⟩:=(cN.v hf).LL
     exact main g (first++args) first' #[] he (by
      rw[Array.toList_append,Array.toList_append]
      simpa using Ql.append FQ) ho
    ·exact ho.elim
   ·exact ho.elim
  ·rename_i args hc hargs;obtain⟨q,n,cp,H',ρ',v,w',hk,hrun,hs,hv⟩:=Cg (E:=E) h (args':=c.args.map a.eval) (ty:=type) (by simpa using cN.vs hargs) ho;refine cj ?_ (hn _ _ _ _ _ hk hs hv);have Yj:(Builtin.append_ c.argTypes type (c.args.map a.eval)).run E.P w=.ok v w':=by simpa using hrun
   simp only[execOp,resolve,hc,invoke,builtin,Sem.run_bind,Sem.run_pure,Result.andThen_ok,Yj]
  ·split at ho
   ·rename_i r x H' hs;obtain⟨hr,ho⟩:=aM ho;obtain⟨ρ',v,w',h1,h2,h3⟩:=fU h (o:=⟨dst,.call c,type,iU,after,guard⟩) hs hr;exact cj h1 (hn _ _ _ _ _ ho h2 h3)
   ·exact ho.elim
 |convert s d x=>
  simp only[bG] at ho;split at ho
  ·rename_i cE ti hk hx mq
   split at ho
   ·rename_i el hsh;split at ho
    ·rename_i hel;obtain⟨hr,ho⟩:=aM ho;have gY:=Nat.le_of_ble_eq_true hr;obtain⟨ds,qE,hds⟩:=bH hk;obtain⟨dd,hud,Om⟩:=dj mq;rw[hsh] at Om;cases hZ Om;obtain⟨de,Qi,Oj⟩:=bH hel;cases de<;>simp [bf,cF] at Oj
     subst Oj;have he:=(cN.v hx).uK;have Of:=grownCap_ge w cE.size 0 el
     have Og:=grownCap_le_maxLen w cE.size 0 el (by simp only[maxLen];omega)
     have hk:=ho (grownCap w cE.size 0 el) Of (by simp only[maxLen] at Og;omega);obtain⟨row,hrow⟩:∃row:Array Value,row=cE.data.map (fun b=>Value.int .u8 b.toNat)++Array.replicate (grownCap w cE.size 0 el-cE.size) (.int .u8 0):=⟨_,rfl⟩
     have Od:ej ρ (gQ (grownCap w cE.size 0 el-cE.size) [.int .u8 0]) (Array.replicate (grownCap w cE.size 0 el-cE.size) (Value.int .u8 0)).toList:=by
      refine⟨by simp [fO], ?_⟩;intro i x y hx hy
      have hi:i<grownCap w cE.size 0 el-cE.size:=by
       rcases Nat.lt_or_ge i (grownCap w cE.size 0 el-cE.size) with h|h
       ·exact h
       ·rw[List.getElem?_eq_none (by simpa using h)] at hy;cases hy
      rw[xN (by simp) _ _ (by simpa using hi)] at hx;have h1:=List.mem_of_getElem? hx;have h2:=List.mem_of_getElem? hy;simp only[List.mem_singleton] at h1;simp at h2;rw[h1,h2.2];exact .int _ _
     have Lh:=(s6 ρ cE).append Od
     have h1:=h.Cb (o:=.cells row el) (w':=w.drew.alloc (.cells row el)) ⟨rfl,rfl,rfl,rfl⟩ (x:=.cells el (xk (eI cE) (gQ (grownCap w cE.size 0 el-cE.size) [.int .u8 0])) false)
      (ik (by rw[hrow];simpa [xk] using Lh) ((sZ cE).append (gm (by intro v hv;simp at hv;rw[hv];rfl) _)))
     have hg:(S.hp.alloc (.cells el (xk (eI cE) (gQ (grownCap w cE.size 0 el-cE.size) [.int .u8 0])) false)).get S.hp.next=some (.cells el (xk (eI cE) (gQ (grownCap w cE.size 0 el-cE.size) [.int .u8 0])) false):=by
      simp [af.alloc]
     obtain⟨b,hb,hc⟩:=h1.hr.vK _ _ hg;obtain⟨w2,g1,g2,g3⟩:=xQ (E:=E) (off:=0) hc;have hs:=h1.Cc hg rfl rfl hb g3 (y:=.cells el (xk (eI cE) (gQ (grownCap w cE.size 0 el-cE.size) [.int .u8 0])) false) g2;rw[s7 hg] at hs;have Ju:b=w.heap.size:=by rw[dV,if_pos rfl] at hb;exact(Option.some.inj hb).symm
     subst Ju;refine cj (v:=.slice (some ⟨w.heap.size,0,none⟩) cE.size (grownCap w cE.size 0 el)) (w':=w2) ?_ (hn _ _ _ _ _ hk hs (.v (.slice _ _ hb)));have hch:(choose (.appendCap cE.size 0 el)).run E.P w=.ok (grownCap w cE.size 0 el) w.drew:=by simp [Question.forced,grownCap]
     cases ds<;>simp [bf,cF] at hds
     simp only[execOp,convert,Sem.run_bind,run_underlying qE,run_underlying hud,run_underlying Qi,Result.andThen_ok,he,Conv.stringToBytes,hch,newRow, ←hrow];have hn2:(Sem.new (.cells row el) Sem.pure).run E.P w.drew=.ok w.heap.size (w.drew.alloc (.cells row el)):=rfl;simp [newObj,hn2,g1]
    ·exact ho.elim
   ·exact ho.elim
  ·split at ho
   ·rename_i r x' H' hs;obtain⟨hr,ho⟩:=aM ho;obtain⟨ρ',v,w',h1,h2,h3⟩:=fU h (o:=⟨dst,.convert s d x,type,iU,after,guard⟩) hs hr;exact cj h1 (hn _ _ _ _ _ ho h2 h3)
   ·exact ho.elim
 |mapUpdate t m x v=>
  simp only[bG] at ho;split at ho
  ·rename_i ti r k n v' mq hm hx hv;obtain⟨ds,qE,hds⟩:=dj mq;split at ho
   ·rename_i kt et hsh;rw[hsh] at hds;cases s8 hds;split at ho
    ·rename_i k' b y hk hy;obtain⟨dk,UQ,hdk⟩:=bH hk;have Ok:dk=.int k':=by cases dk<;>simp_all [bf,cF]
     subst Ok;replace ho:=aM ho;obtain⟨hq,ho⟩:=ho;simp only[Bool.and_eq_true,mr,decide_eq_true_eq] at hq;obtain⟨hkk,hsome,hok,hb⟩:=hq;subst hkk
     cases r with
     |none=>cases hsome
     |some id=>
      have hx':=(cN.v hx).hY;obtain⟨bb,w',o',Ju,hrun,On,hg,gj,hrw,Oo⟩:=wu (E:=E) (n:=n) qE UQ h.hr (cN.v hm) hok (cN.v hv);refine uS (w':=w') (by simp [execOp,hx',hrun]) ?_;simp only[Option.getD_some] at ho;rw[gj] at ho;exact hn _ _ _ _ _ ho (h.Cc hg rfl hrw Ju On Oo) .undef
    ·exact ho.elim
   ·exact ho.elim
  ·exact ho.elim
 |next it isStr=>
  cases isStr with
  |true=>simp [bG,bS] at ho
  |false=>
   simp only[bG] at ho;split at ho
   ·rename_i t id hit;obtain⟨b,hb,he⟩:=(cN.tv hit).DZ;rcases zT (E:=E) (ty:=type) h hb ho with⟨hk,hrun⟩|⟨H',w',k,v,hk,hrun,hs⟩
    ·exact cj (v:=.tuple #[.bool false]) (w':=w) (by simp [execOp,he,hrun]) (hn _ _ _ _ _ hk h (.v (.gk (.cons (.bool _) (.nil ρ)))))
    ·exact cj (v:=.tuple #[.bool true,k,v]) (w':=w') (by simp [execOp,he,hrun]) (hn _ _ _ _ _ hk hs (.v (.gk (.cons (.bool _) (.cons (.cd _) (.cons (.cd _) (.nil ρ)))))))
   ·exact ho.elim
 |makeMap t si=>
  simp only[bG] at ho;split at ho
  ·rename_i r x H' hs;obtain⟨hr,ho⟩:=aM ho;obtain⟨ρ',v,w',h1,h2,h3⟩:=fU h (o:=⟨dst,.makeMap t si,type,iU,after,guard⟩) hs hr;exact cj h1 (hn _ _ _ _ _ ho h2 h3)
  ·exact ho.elim
 |range t x=>
  simp only[bG] at ho;split at ho
  ·rename_i r x' H' hs;obtain⟨hr,ho⟩:=aM ho;obtain⟨ρ',v,w',h1,h2,h3⟩:=fU h (o:=⟨dst,.range t x,type,iU,after,guard⟩) hs hr;exact cj h1 (hn _ _ _ _ _ ho h2 h3)
  ·exact ho.elim
 |makeSlice t len cap=>
  simp only[bG] at ho;split at ho
  ·rename_i r x H' hs;obtain⟨hr,ho⟩:=aM ho;obtain⟨ρ',v,w',h1,h2,h3⟩:=fU h (o:=⟨dst,.makeSlice t len cap,type,iU,after,guard⟩) hs hr;exact cj h1 (hn _ _ _ _ _ ho h2 h3)
  ·exact ho.elim
 |buildSlice t len parts=>
  simp only[bG] at ho;split at ho
  ·rename_i r x H' hs;obtain⟨hr,ho⟩:=aM ho;obtain⟨ρ',v,w',h1,h2,h3⟩:=fU h (o:=⟨dst,.buildSlice t len parts,type,iU,after,guard⟩) hs hr;exact cj h1 (hn _ _ _ _ _ ho h2 h3)
  ·exact ho.elim
 |_=>simp [bG,bS] at ho
theorem vP {R:lH} (hX:jF E) (hR:∀f args H K,R.call f args H K→ij E f args H K) (hB:∀f args H K,R.call f args H K→∃fn,E.P.funcs[f]? =some fn∧fn.body.isSome=true) (h:SR H0 ρ0 w0 ann N ρ lam S a w) {o:Oper} {K:St→Prop} (hc:iV E R ann N o S K) {next:Act→World→Prop} {Q:Exit→Act→World→Prop} (hn:∀S' ρ' dv a' w',SR H0 ρ0 w0 ann N ρ' dv S' a' w'→K S'→next a' w'):o.wp E.P a w next Q:=by
 have cN:=h.ev
 have hL:∀s M,S.lo s=some M→∃b,lam s=some b∧uN ρ M w.heap[b]? :=by
  intro s M hM;obtain⟨b,h1,h2,_⟩:=h.lo s M hM;exact⟨b,h1,h2⟩
 unfold iV at hc
 cases vC:Gg E ann o with
 |pure=>
  simp only[vC] at hc;split at hc
  ·rename_i d hd;obtain⟨hr,hk⟩:=fC.eK hc;obtain⟨v,h1,h2⟩:=B7 (w:=w) cN hd hr;obtain⟨hok,hk⟩:=dQ.1 hk;exact cj h1 (hn _ _ _ _ _ (h.put h2 hok) hk)
  ·exact hc.elim
 |n8 s=>
  simp only[vC] at hc;split at hc
  ·rename_i d hd;obtain⟨hr,hk⟩:=fC.eK hc;obtain⟨v,h1,h2⟩:=D8 (w:=w) cN hd hr (hL s);obtain⟨hok,hk⟩:=dQ.1 hk;exact cj h1 (hn _ _ _ _ _ (h.put h2 hok) hk)
  ·exact hc.elim
 |iA s=>
  simp only[vC] at hc;split at hc
  ·rename_i d hd;obtain⟨hr,hk⟩:=fC.eK hc;obtain⟨M,b,w',v,hM,hb,ho,hl,hx,hrun⟩:=Cd (w:=w) cN hd hr (hL s);obtain⟨hok,hk⟩:=dQ.1 hk;have h':=(h.setL hM hb ho hl).put hx hok;rcases hrun with hrun|⟨rfl,hrun⟩
   ·exact cj hrun (hn _ _ _ _ _ h' hk)
   ·exact uS hrun (hn _ _ _ _ _ h' hk)
  ·exact hc.elim
 |sM=>
  simp only[vC] at hc;split at hc
  ·rename_i d r L wI hd;obtain⟨hr,hk⟩:=aM hc;obtain⟨x,w',h1,h2,h3⟩:=Gv (w:=w) cN hd hr;obtain⟨hok,hk⟩:=dQ.1 hk;have hs:=(h.ZN h2 h3).put (dst:=some d) (x:=.lp d 0) (v:=.pointer (some ⟨w.heap.size,0,none⟩)) (.lp (by rw[dV,if_pos rfl])) hok;refine cj h1 ?_;rw[wI];exact hn _ _ _ _ _ hs hk
  ·exact hc.elim
 |j4=>
  simp only[vC] at hc;split at hc
  ·rename_i d hd;obtain⟨hr,hk⟩:=fC.eK hc;obtain⟨v,h1,h2⟩:=vO (w:=w) cN h.hr hd hr;obtain⟨hok,hk⟩:=dQ.1 hk;exact cj h1 (hn _ _ _ _ _ (h.put h2 hok) hk)
  ·exact hc.elim
 |sN=>
  simp only[vC] at hc;unfold HJ at hc;split at hc
  ·rename_i f first di hop;split at hc
   ·rename_i vs S' hf hl;obtain⟨ρ',h1,h2,h3⟩:=l8 h hl;obtain⟨hok,hk⟩:=dQ.1 hc;have hf':first= #[]:=by apply Array.ext';simpa using hf
    refine cj (v:=.func (.func f) #[] (di.map a.eval)) (w':=w) ?_ (hn _ _ _ _ _ (h1.put (.v (.HL (by simpa using h2))) hok) hk);simp [execOp,hop,Instr.makeFunc,hf']
   ·exact hc.elim
  ·exact hc.elim
 |cW=>
  simp only[vC] at hc;refine Cl hX hR hB h hc ?_;intro x H' ρ' v w' hk hs hx;obtain⟨hok,hk⟩:=dQ.1 hk;exact hn _ _ _ _ _ (hs.put hx hok) hk
theorem Cn {aE:Array Oper} {j:Nat} {t:T} (h:SR H0 ρ0 w0 ann N ρ lam S a w) (hy:fL aE.toList S.tm j=some t):(∀b,t=.v (.bool b)→yielded aE a.tmps j=some b)∧(t=.undef→yielded aE a.tmps j=none):=by
 unfold fL at hy;split at hy
 ·rename_i o ho;split at hy
  ·rename_i d hd;have ho':aE[j]? =some o:=by simpa using ho
   have ht:=h.tm d t hy
   have key:yielded aE a.tmps j=match a.tmps[d]? with|some (.bool b)=>some b|_=>none:=by
    simp only[yielded,ho',Option.bind_some,hd]
    cases a.tmps[d]? with
    |none=>rfl
    |some x=>cases x<;>rfl
   rw[key];rw[Array.getD_eq_getD_getElem?] at ht;constructor
   ·rintro b rfl
    cases hq:a.tmps[d]? with
    |none=>rw[hq] at ht;simp only[Option.getD_none,undef] at ht;cases ht with|v h=>cases h
    |some x=>rw[hq] at ht;simp only[Option.getD_some] at ht;cases ht with|v h=>cases h;rfl
   ·rintro rfl
    cases hq:a.tmps[d]? with
    |none=>rfl
    |some x=>rw[hq] at ht;simp only[Option.getD_some] at ht;cases ht;rfl
  ·cases hy
 ·cases hy
theorem oW {R:lH} (hX:jF E) (hR:∀f args H K,R.call f args H K→ij E f args H K) (hB:∀f args H K,R.call f args H K→∃fn,E.P.funcs[f]? =some fn∧fn.body.isSome=true) (h:SR H0 ρ0 w0 ann N ρ lam S a w) {aE:Array Oper} {i:Nat} {o:Oper} (hi:aE[i]? =some o) {K:St→Prop} (hc:eu E R ann N aE.toList o S K) {next:Act→World→Prop} {Q:Exit→Act→World→Prop} (hn:∀S' ρ' dv a' w',SR H0 ρ0 w0 ann N ρ' dv S' a' w'→K S'→next a' w'):wpOp E.P aE Q i next a w:=by
 unfold wpOp;simp only[hi]
 have skip:jd ann N o.dst .undef S K→next (a.put o.dst undef) w:=by
  intro hk;obtain⟨hok,hk⟩:=dQ.1 hk;exact hn _ _ _ _ _ (h.put .undef hok) hk
 unfold eu at hc
 cases hg:o.guard with
 |none=>
  simp only[hg] at hc;simp only[Region.wanted,hg,if_true];exact .inl (vP hX hR hB h hc hn)
 |some p=>
  obtain⟨j,want⟩:=p;simp only[hg] at hc
  cases hy:fL aE.toList S.tm j with
  |none=>simp only[hy] at hc
  |some t=>
   obtain⟨h1,h2⟩:=Cn h hy
   cases t with
   |undef=>
    simp only[hy] at hc;simp only[Region.wanted,hg,h2 rfl];rw[if_neg (by simp)];exact skip hc
   |lp s off=>simp only[hy] at hc
   |v x=>
    cases x with
    |bool b=>
     simp only[hy] at hc;simp only[Region.wanted,hg,h1 b rfl];rcases gg hc with⟨hb,hc⟩|⟨hb,hc⟩
     ·rw[if_pos (by simpa using hb)];exact .inl (vP hX hR hB h hc hn)
     ·rw[if_neg (by simpa using hb)];exact skip hc
    |_=>simp only[hy] at hc
end
def O3 (P:Program) (c:Code) (Q:Exit→Act→World→Prop) (a:Act) (w:World):Prop:=
 ∀(b:Frame) (k:List Item) (cs:List Frame),∃e a' w',Q e a' w'∧Arrives P (lone (b.at a (.code c:: .inLoop c::k)) cs w) b k cs e a' w'
theorem LV {P:Program} {c:Code} {Q:Exit→Act→World→Prop} {a:Act} {w:World} (h:O3 P c Q a w):(Code.loop c).wp P Q a w:=by
 intro b k cs;obtain⟨e,a',w',hq,FR⟩:=h b k cs;exact⟨e,a',w',hq,.of_steps (.one step_loop) FR⟩
theorem Gx {P:Program} {c:Code} {Q:Exit→Act→World→Prop} {a:Act} {w:World} (h:c.wp P (Exit.then (O3 P c Q) Q) a w):O3 P c Q a w:=by
 intro b k cs;obtain⟨e,a₁,w₁,hq,FR⟩:=h b (.inLoop c::k) cs
 cases e with
 |normal=>
  obtain⟨e₂,a₂,w₂,Yk,Qm⟩:=hq b k cs;exact⟨e₂,a₂,w₂,Yk,.of_steps (Steps.trans FR (.one step_inLoop)) Qm⟩
 |exit id=>exact⟨_,a₁,w₁,hq,.pass (x:=.inLoop c) rfl (fun _ _=>.inl (by simp)) FR⟩
 |goto l=>exact⟨_,a₁,w₁,hq,.pass (x:=.inLoop c) rfl (fun _ _=>.inl (by simp)) FR⟩
 |ret=>exact⟨_,a₁,w₁,hq,.pass (x:=.inLoop c) rfl (fun _ _=>.inl (by simp)) FR⟩
 |panic ch=>exact⟨_,a₁,w₁,hq,.pass (x:=.inLoop c) rfl (fun _ _=>.inl (by simp)) FR⟩
 |outgrown=>exact⟨_,a₁,w₁,hq,.pass (x:=.inLoop c) rfl (fun _ _=>.inl (by simp)) FR⟩
def mE (E:jU) (c:Code) (f:FuncId) (S:St) (Kr:St→Prop) (Ke:Nat→St→Prop):Prop:=
 ∀(fn:Func) (H0:af) (ρ0:da) (w0:World) (ρ lam:da) (a:Act) (w:World) (Q:Exit→Act→World→Prop),E.P.funcs[f]? =some fn→
  SR H0 ρ0 w0 (E.ann f) fn.ntmps ρ lam S a w→
  (∀S' ρ' dv a' w',SR H0 ρ0 w0 (E.ann f) fn.ntmps ρ' dv S' a' w'→Kr S'→Q .ret a' w')→
  (∀id S' ρ' dv a' w',SR H0 ρ0 w0 (E.ann f) fn.ntmps ρ' dv S' a' w'→Ke id S'→Q (.exit id) a' w')→O3 E.P c Q a w
structure mF (E:jU) (R:lH):Prop where
 call:∀f args H K,R.call f args H K→ij E f args H K
 body:∀f args H K,R.call f args H K→∃fn,E.P.funcs[f]? =some fn∧fn.body.isSome=true
 loop:∀c f n S Kr Ke,R.loop c f n S Kr Ke→mE E c f S Kr Ke
 mono:R.le R
 uE:hO R
 ext:jF E
section
variable {E:jU} {H0:af} {ρ0:da} {w0:World} {ann:bR} {N:Nat} {ρ lam:da} {S:St} {a:Act} {w:World} {R:lH}
theorem rQ {tm:Nat→Option T}:∀{l:List Nat} {m:List (Nat×T)} {t:Nat} {x:T},DM tm l=some m→ab m t=some x→tm t=some x
 |[],m,t,x,h,hl=>by simp only[DM,Option.some.injEq] at h;subst h;cases hl
 |s::l,m,t,x,h,hl=>by
  simp only[DM] at h;split at h
  ·rename_i y m' hy hm;simp only[Option.some.injEq] at h;subst h;simp only[ab,aP] at hl;by_cases he:t=s
   ·simp only[he,decide_true,cond_true,Option.some.injEq] at hl;subst hl;rw[he];exact hy
   ·simp only[he,decide_false,cond_false] at hl;exact rQ hm hl
  ·cases h
theorem rR {tm:Nat→Option bg}:∀{l:List Nat} {m:List (Nat×bg)} {t:Nat} {x:bg},DN tm l=some m→ab m t=some x→tm t=some x
 |[],m,t,x,h,hl=>by simp only[DN,Option.some.injEq] at h;subst h;cases hl
 |s::l,m,t,x,h,hl=>by
  simp only[DN] at h;split at h
  ·rename_i y m' hy hm;simp only[Option.some.injEq] at h;subst h;simp only[ab,aP] at hl;by_cases he:t=s
   ·simp only[he,decide_true,cond_true,Option.some.injEq] at hl;subst hl;rw[he];exact hy
   ·simp only[he,decide_false,cond_false] at hl;exact rR hm hl
  ·cases h
theorem SR.O4 (h:SR H0 ρ0 w0 ann N ρ lam S a w) {S':St} (h1:∀t x,S'.tm t=some x→S.tm t=some x) (h2:∀t x,S'.lo t=some x→S.lo t=some x) (h3:S'.hp=S.hp):SR H0 ρ0 w0 ann N ρ lam S' a w where
 defers:=h.defers
 size:=h.size
 tm:=fun t x hx=>h.tm t x (h1 t x hx)
 JI:=fun t s off hx=>h.JI t s off (h1 t _ hx)
 lo:=fun s L hL=>by rw[h3];exact h.lo s L (h2 s L hL)
 sU:=fun s s' L L' b e1 e2=>h.sU s s' L L' b (h2 _ _ e1) (h2 _ _ e2)
 hr:=by rw[h3];exact h.hr
 bN:=by rw[h3];exact h.bN
theorem jG (h:SR H0 ρ0 w0 ann N ρ lam S a w) {ts ls:List Nat} {K:St→Prop} (hk:kM ts ls S K):∃S',SR H0 ρ0 w0 ann N ρ lam S' a w∧K S':=by
 unfold kM at hk;split at hk
 ·rename_i m l hm hl;exact⟨_,h.O4 (S':=⟨ab m,ab l,S.hp⟩) (fun t x hx=>rQ hm hx) (fun t x hx=>rR hl hx) rfl,hk⟩
 ·exact hk.elim
theorem O5 {k:KT} {x:Option T} (h:aI k x=true):x=some (OQ k x):=by
 cases k with
 |k k=>
  cases x with
  |none=>simp [aI] at h
  |some y=>cases y with
   |v z=>simp only[aI] at h;simp [OQ,T.val,V.rk h]
   |_=>simp [aI] at h
 |agg ks=>
  cases x with
  |none=>simp [aI] at h
  |some y=>cases y with
   |v z=>
    simp only[aI,Bool.and_eq_true] at h;simp only[OQ,T.val];rw[kr h.2 rfl, ←sV h.1]
   |_=>simp [aI] at h
 |lp s=>
  cases x with
  |none=>simp [aI] at h
  |some y=>cases y with
   |lp s' off=>
    cases off with
    |zero=>simp only[aI] at h;rw[Nat.eq_of_beq_eq_true h];rfl
    |succ n=>simp [aI] at h
   |_=>simp [aI] at h
 |undef=>
  cases x with
  |none=>simp [aI] at h
  |some y=>cases y with
   |undef=>rfl
   |_=>simp [aI] at h
theorem O6 {e:TypeId} {ks:List bY} {x:Option bg} (h:fg e ks x=true):x=some (.cells e (nq ks (aw x) 0)):=by
 cases x with
 |none=>simp [fg] at h
 |some y=>cases y with
  |cells e' cs=>
   simp only[fg,Bool.and_eq_true] at h;simp only[aw];rw[kr h.2 rfl,Nat.eq_of_beq_eq_true h.1]
  |dA s p=>simp [fg] at h
theorem rS:∀{l:List (Nat×KT)} {t:Nat} {x:T},(kN S l).1=true→ab (kN S l).2 t=some x→S.tm t=some x
 |[],t,x,_,hl=>by cases hl
 |(s,k)::l,t,x,h,hl=>by
  simp only[kN,Bool.and_eq_true] at h hl;simp only[ab,aP] at hl;by_cases he:t=s
  ·simp only[he,decide_true,cond_true,Option.some.injEq] at hl;subst hl;rw[he];exact O5 h.1
  ·simp only[he,decide_false,cond_false] at hl;exact rS h.2 hl
theorem rT:∀{l:List (Nat×TypeId×List bY)} {t:Nat} {x:bg},(kO S l).1=true→ab (kO S l).2 t=some x→S.lo t=some x
 |[],t,x,_,hl=>by cases hl
 |(s,e,ks)::l,t,x,h,hl=>by
  simp only[kO,Bool.and_eq_true] at h hl;simp only[ab,aP] at hl;by_cases he:t=s
  ·simp only[he,decide_true,cond_true,Option.some.injEq] at hl;subst hl;rw[he];exact O6 h.1
  ·simp only[he,decide_false,cond_false] at hl;exact rT h.2 hl
theorem oX (h:SR H0 ρ0 w0 ann N ρ lam S a w) {ts:List (Nat×KT)} {ls:List (Nat×TypeId×List bY)} {K:St→Prop} (hk:Ak ts ls S K):∃S',SR H0 ρ0 w0 ann N ρ lam S' a w∧K S':=by
 obtain⟨h1,h2⟩:=aM hk;rw[Bool.and_eq_true] at h1;exact⟨_,h.O4 (S':=⟨ab (kN S ts).2,ab (kO S ls).2,S.hp⟩) (fun t x hx=>rS h1.1 hx) (fun t x hx=>rT h1.2 hx) rfl,h2⟩
theorem tc (h:SR H0 ρ0 w0 ann N ρ lam S a w) {kp:jb} {K:Ex→St→Prop}:∀{l:List Nat} {id:Nat},uH kp K l id S→∃S',SR H0 ρ0 w0 ann N ρ lam S' a w∧K (.exit id) S'
 |[],_,hk=>hk.elim
 |j::l,id,hk=>by
  rcases gg hk with⟨hj,hk⟩|⟨_,hk⟩
  ·rw[Nat.eq_of_beq_eq_true hj];exact oX h hk
  ·exact tc h hk
def gJ (E:jU) (R:lH) (ann:bR) (N:Nat) (aE:Array Oper):List Nat→St→(St→Prop)→Prop
 |[],S,K=>K S
 |i::l,S,K=>match aE[i]? with
  |some o=>eu E R ann N aE.toList o S fun S'=>gJ E R ann N aE l S' K
  |none=>gJ E R ann N aE l S K
theorem Aw {aE:Array Oper} {K:St→Prop}:∀(l:List Oper) (i:Nat) {S:St},aE.toList.drop i=l→kL E R ann N aE.toList l S K=gJ E R ann N aE (List.range' i l.length) S K
 |[],i,_,_=>rfl
 |o::l,i,S,hl=>by
  have hi:aE[i]? =some o:=by
   have:(aE.toList.drop i)[0]? =some o:=by rw[hl];rfl
   simpa using this
  rw[List.length_cons,List.range'_succ,gJ,hi];have hl':aE.toList.drop (i+1)=l:=by rw[←List.drop_drop,hl];rfl
  simp only[kL];congr 1;funext S';exact Aw l (i+1) hl'
theorem oY (hR:mF E R) {aE:Array Oper} {Q:Exit→Act→World→Prop}:∀(l:List Nat) {S:St} {K:St→Prop} {ρ lam:da} {a:Act} {w:World},SR H0 ρ0 w0 ann N ρ lam S a w→gJ E R ann N aE l S K→(∀S' ρ' dv a' w',SR H0 ρ0 w0 ann N ρ' dv S' a' w'→K S'→Q .normal a' w')→wpOps E.P aE Q l a w
 |[],S,K,ρ,lam,a,w,h,hk,hq=>hq _ _ _ _ _ h hk
 |i::l,S,K,ρ,lam,a,w,h,hk,hq=>by
  rw[wpOps_cons];unfold gJ at hk;split at hk
  ·rename_i o ho;exact oW hR.ext hR.call hR.body h ho hk fun S' ρ' dv a' w' h' hk'=>oY hR l h' hk' hq
  ·rename_i ho;unfold wpOp;simp only[ho];exact oY hR l h hk hq
end
section
variable {E:jU} {H0:af} {ρ0:da} {w0:World} {ann:bR} {N:Nat} {ρ lam:da} {S:St} {a:Act} {w:World} {R:lH}
theorem td (hR:mF E R) {aE:Array Oper} {i:Nat} {o:Oper} (hi:aE[i]? =some o):∀(pre:List Nat) (post:List Nat) {S:St} {K:St→Prop},(∀j∈pre,∀p,aE[j]? =some p→gb (cO E ann aE.toList o) (cO E ann aE.toList p)=true)→gJ E R ann N aE (pre++i::post) S K→eu E R ann N aE.toList o S fun S'=>gJ E R ann N aE (pre++post) S' K
 |[],post,S,K,_,hk=>by
  rw[List.nil_append,gJ,hi] at hk;exact hk
 |j::pre,post,S,K,hap,hk=>by
  rw[List.cons_append,gJ] at hk
  have ih:∀S',gJ E R ann N aE (pre++i::post) S' K→eu E R ann N aE.toList o S' fun S'=>gJ E R ann N aE (pre++post) S' K:=
   fun S' h=>td hR hi pre post (fun j hj=>hap j (List.mem_cons_of_mem _ hj)) h
  split at hk
  ·rename_i p hp;have h1:=eg hR.mono ih hk
   have abj:gb (cO E ann aE.toList p) (cO E ann aE.toList o)=true:=by
    have:=hap j (List.mem_cons_self ..) p hp;simp only[gb,Bool.and_eq_true,Bool.not_eq_true'] at this⊢;obtain⟨⟨⟨⟨⟨⟨⟨⟨h1,h2⟩,h3⟩,h4⟩,h5⟩,h6⟩,h7⟩,h8⟩,h9,xf⟩:=this
    have flip:∀{l m:List Nat},iW l m=false→iW m l=false:=by
     intro l m h;have hs:=fw h;cases hq:iW m l
     ·rfl
     ·exfalso
      have:∀{l' m':List Nat},iW l' m'=true→∃x,x∈l'∧x∈m':=by
       intro l' m' hh
       induction l' with
       |nil=>cases hh
       |cons y l' ih=>
        rw[iW,Bool.or_eq_true] at hh;rcases hh with hh|hh
        ·exact⟨y,List.mem_cons_self ..,jh.1 hh⟩
        ·obtain⟨x,hx1,ux⟩:=ih hh;exact⟨x,List.mem_cons_of_mem _ hx1,ux⟩
      obtain⟨x,hx1,ux⟩:=this hq;exact hs x ux hx1
    exact⟨⟨⟨⟨⟨⟨⟨⟨h3,flip h2⟩,h1⟩,h6⟩,flip h5⟩,h4⟩,h8⟩,h7⟩,xf,h9⟩
   have h2:=xA hR.mono hR.uE abj h1;refine eg hR.mono ?_ h2;intro S' h';rw[List.cons_append,gJ,hp];exact h'
  ·rename_i hp;have:=ih _ hk;refine eg hR.mono ?_ this;intro S' h';rw[List.cons_append,gJ,hp];exact h'
theorem vQ {i:Nat}:∀{l:List Edge},BR i l=true→∀e∈l,Region.binds .any e=true→e.on<i
 |[],_,e,he=>by cases he
 |x::l,h,e,he=>by
  rw[BR,Bool.and_eq_true,Bool.or_eq_true] at h;intro hb;rcases List.mem_cons.1 he with rfl|he
  ·rcases h.1 with h1|h1
   ·rw[hb] at h1;cases h1
   ·simpa using h1
  ·exact vQ h.2 e he hb
theorem nL:∀{l:List Oper} {i:Nat},ny l i=true→∀(j:Nat) (o:Oper),l[j]? =some o→∀e∈o.after.toList,Region.binds .any e=true→e.on<i+j
 |[],_,_,j,o,h=>by simp at h
 |x::l,i,h,j,o,ho=>by
  rw[ny,Bool.and_eq_true] at h;intro e he hb
  cases j with
  |zero=>simp only[List.getElem?_cons_zero,Option.some.injEq] at ho;subst ho;exact vQ h.1 e he hb
  |succ j=>
   have:=nL h.2 j o (by simpa using ho) e he hb;omega
theorem te {fs:List jA} {bs:List (List Nat)} {i:Nat} {f:jA}:∀{n:Nat},sP fs bs i f n=true→∀j,j<n→∃g b,fs[j]? =some g∧bs[i]? =some b∧(j∈b∨gb f g=true)
 |0,_,j,hj=>by omega
 |n+1,h,j,hj=>by
  rw[sP,Bool.and_eq_true] at h;by_cases he:j=n
  ·subst he;have h1:=h.1;split at h1
   ·rename_i g b hg hb;rw[Bool.or_eq_true] at h1;exact⟨g,b,hg,hb,h1.imp jh.1 id⟩
   ·cases h1
  ·exact te h.2 j (by omega)
theorem oZ {fs:List jA} {bs:List (List Nat)}:∀{l:List jA} {k:Nat},p6 fs bs l k=true→∀(i:Nat) (f:jA),l[i]? =some f→sP fs bs (k+i) f (k+i)=true
 |[],_,_,i,f,h=>by simp at h
 |x::l,k,h,i,f,hf=>by
  rw[p6,Bool.and_eq_true] at h
  cases i with
  |zero=>simp only[List.getElem?_cons_zero,Option.some.injEq] at hf;subst hf;exact h.1
  |succ i=>
   have:=oZ h.2 i f (by simpa using hf);rw[show k+(i+1)=k+1+i by omega];exact this
theorem tf:∀(l:List Oper) (acc:List (List Nat)) (i:Nat) (b:List Nat),(iC l acc)[i]? =some b→(i<acc.length∧acc[i]? =some b)∨∃o,l[i-acc.length]? =some o∧acc.length≤i∧∀j∈b,∃e∈o.after.toList,Region.binds .any e=true∧(j=e.on∨(e.on<i∧∃b',(iC l acc)[e.on]? =some b'∧j∈b'))
 |[],acc,i,b,h=>by
  simp only[iC] at h;refine .inl ⟨?_,h⟩;rcases Nat.lt_or_ge i acc.length with h'|h'
  ·exact h'
  ·rw[List.getElem?_eq_none h'] at h;cases h
 |o::l,acc,i,b,h=>by
  simp only[iC] at h⊢
  have keep:∀(l:List Oper) (acc:List (List Nat)) (i:Nat),i<acc.length→(iC l acc)[i]? =acc[i]? :=by
   intro l
   induction l with
   |nil=>intro acc i hi;rfl
   |cons q l ih=>
    intro acc i hi;simp only[iC];rw[ih _ i (by simp;omega),List.getElem?_append_left hi]
  rcases tf l (acc++[p5 acc o.after.toList]) i b h with⟨h1,h2⟩|⟨q,h1,h2,h3⟩
  ·simp only[List.length_append,List.length_singleton] at h1;by_cases hi:i<acc.length
   ·rw[List.getElem?_append_left hi] at h2;exact .inl ⟨hi,h2⟩
   ·have hi':i=acc.length:=by omega
    subst hi';rw[List.getElem?_append_right (Nat.le_refl _)] at h2;simp only[Nat.sub_self,List.getElem?_cons_zero,Option.some.injEq] at h2;subst h2;refine .inr ⟨o,by simp,Nat.le_refl _, ?_⟩;intro j hj
    have:∀(es:List Edge),j∈p5 acc es→∃e∈es,Region.binds .any e=true∧(j=e.on∨j∈acc[e.on]?.getD []):=by
     intro es
     induction es with
     |nil=>intro h;cases h
     |cons e es ih=>
      intro h;simp only[p5] at h;cases hb:Region.binds .any e
      ·simp only[hb,cond_false] at h;obtain⟨e',h1,h2⟩:=ih h;exact⟨e',List.mem_cons_of_mem _ h1,h2⟩
      ·simp only[hb,cond_true,List.mem_cons,List.mem_append] at h;rcases h with h|h|h
       ·exact⟨e,List.mem_cons_self ..,hb,.inl h⟩
       ·exact⟨e,List.mem_cons_self ..,hb,.inr h⟩
       ·obtain⟨e',h1,h2⟩:=ih h;exact⟨e',List.mem_cons_of_mem _ h1,h2⟩
    obtain⟨e,h4,h5,h6⟩:=this _ hj;refine⟨e,h4,h5,h6.imp id fun h6=> ?_⟩
    cases hg:acc[e.on]? with
    |none=>rw[hg] at h6;cases h6
    |some b'=>
     rw[hg] at h6
     have hlt:e.on<acc.length:=by
      rcases Nat.lt_or_ge e.on acc.length with h'|h'
      ·exact h'
      ·rw[List.getElem?_eq_none h'] at hg;cases hg
     refine⟨hlt,b', ?_,h6⟩;rw[keep _ _ _ (by simp;omega),List.getElem?_append_left hlt,hg]
  ·simp only[List.length_append,List.length_singleton] at h1 h2 h3;refine .inr ⟨q, ?_,by omega,h3⟩;rw[show i-acc.length=i-(acc.length+1)+1 by omega];simpa using h1
def jH (n:Nat) (listed:Array Bool):List Nat:=(List.range n).filter fun i=> !listed.getD i false
theorem th {p q:Nat→Bool} {i:Nat} (hpq:∀j,j≠i→q j=p j) (hi:p i=true) (hqi:q i=false):∀(l:List Nat),i∈l→l.Nodup→∃pre post,l.filter p=pre++i::post∧l.filter q=pre++post∧(∀j∈pre,j∈l∧p j=true∧j≠i)∧(l.Pairwise (· < ·)→∀j∈pre,j<i)
 |[],h,_=>by cases h
 |x::l,h,hn=>by
  rw[List.nodup_cons] at hn;by_cases hx:x=i
  ·subst hx
   have hsame:l.filter q=l.filter p:=by
    apply List.filter_congr;intro j hj;exact hpq j (fun e=>hn.1 (e▸hj))
   exact⟨[],l.filter p,by simp [hi],by simp [hqi,hsame],fun j hj=>by simp at hj,fun _ j hj=>by simp at hj⟩
  ·have lT:i∈l:=by
    rcases List.mem_cons.1 h with h|h
    ·exact(hx h.symm).elim
    ·exact h
   obtain⟨pre,post,h1,h2,h3,h4⟩:=th hpq hi hqi l lT hn.2;cases hp:p x
   ·refine⟨pre,post,by simp [hp,h1],by simp [hpq x hx,hp,h2],fun j hj=>⟨List.mem_cons_of_mem _ (h3 j hj).1,(h3 j hj).2⟩,fun hs=>h4 (List.pairwise_cons.1 hs).2⟩
   ·refine⟨x::pre,post,by simp [hp,h1],by simp [hpq x hx,hp,h2], ?_, ?_⟩
    ·intro j hj;rcases List.mem_cons.1 hj with rfl|hj
     ·exact⟨List.mem_cons_self ..,hp,hx⟩
     ·exact⟨List.mem_cons_of_mem _ (h3 j hj).1,(h3 j hj).2⟩
    ·intro hs j hj;rw[List.pairwise_cons] at hs;rcases List.mem_cons.1 hj with rfl|hj
     ·exact hs.1 i lT
     ·exact h4 hs.2 j hj
end
section
variable {E:jU} {R:lH} {ann:bR} {N:Nat}
theorem fu.run_bind {α β:Type} {k:α→fu β} {K:β→Prop}:∀(t:fu α),(t.bind k).run K=t.run fun a=>(k a).run K
 | .leaf _=>rfl
 | .br c x y=>by simp only[fu.bind,fu.run,fu.run_bind x,fu.run_bind y]
 | .ag c x=>by simp only[fu.bind,fu.run,fu.run_bind x]
 | .aN=>rfl
theorem fu.cv {α:Type} {K K':α→Prop} (h:∀a,K a→K' a):∀{t:fu α},t.run K→t.run K'
 | .leaf _,hk=>h _ hk
 | .br _ _ _,hk=>eJ (fu.cv h) (fu.cv h) hk
 | .ag _ _,hk=>bK (fu.cv h) hk
 | .aN,hk=>hk
theorem tk {S:St} {M:MS} {d:Nat} {x:T}:MS.st S {M with U:=(d,x)::M.U}=(M.st S).setT d x:=by
 unfold MS.st St.setT;congr 1;funext t;simp only[ov,ab];cases Nat.beq t d<;>rfl
theorem O7 {S:St} {M:MS} {s:Nat} {x:bg}:MS.st S {M with W:=(s,x)::M.W}=(M.st S).setL s x:=by
 unfold MS.st St.setL;congr 1;funext t;simp only[xl,ab];cases Nat.beq t s<;>rfl
theorem jI {dst:Option Tmp} {x:T} {S:St} {M:MS} {K:St→Prop} (h:(BL ann N dst x M).run fun M'=>K (M'.st S)):jd ann N dst x (M.st S) K:=by
 unfold BL at h;unfold jd
 cases dst with
 |none=>exact h
 |some d=>
  simp only[fu.run] at h⊢;refine bK ?_ h
  cases x with
  |v y=>intro h;rw[←tk];exact h
  |undef=>intro h;rw[←tk];exact h
  |lp s o=>
   simp only[]
   cases ab ann.aU d with
   |none=>exact id
   |some s'=>
    simp only[]
    cases Nat.beq s s' with
    |true=>intro h;simp only[cond_true];rw[←tk];exact h
    |false=>exact id
theorem Co {α:Type} {d:fC α} {X:Prop} {K:α→Prop} (h:ag (d.rq&&d.c) X) (hx:X→K d.x):d.run K:=by
 obtain⟨h1,h2⟩:=aM h;rw[Bool.and_eq_true] at h1;unfold fC.run;rw[h1.1,h1.2];exact hx h2
theorem qg {o:Oper} {S:St} {M:MS} {K:St→Prop} (h:(DO E ann N o S M).run fun M'=>K (M'.st S)):iV E R ann N o (M.st S) K:=by
 unfold DO at h;unfold iV
 cases hc:Gg E ann o with
 |pure=>
  simp only[hc] at h⊢
  cases hp:aV E o.op (cI (ov S M.U)) with
  |none=>simp only[hp] at h;exact h.elim
  |some d=>simp only[MS.st,hp] at h⊢;exact Co h jI
 |n8 s=>
  simp only[hc] at h⊢
  cases hp:gC E o.op (cI (ov S M.U)) s (xl S M.W s) with
  |none=>simp only[hp] at h;exact h.elim
  |some d=>simp only[MS.st,hp] at h⊢;exact Co h jI
 |iA s=>
  simp only[hc] at h⊢
  cases hp:dP E o.op (cI (ov S M.U)) s (xl S M.W s) with
  |none=>simp only[hp] at h;exact h.elim
  |some d=>
   simp only[hp] at h;simp only[MS.st,hp];refine Co h ?_;intro h;have:=jI h;rw[O7] at this;exact this
 |j4=>
  simp only[hc] at h⊢
  cases hp:dh E o.op (cI (ov S M.U)) S.hp with
  |none=>simp only[hp] at h;exact h.elim
  |some d=>simp only[MS.st,hp] at h⊢;exact Co h jI
 |sM=>simp only[hc] at h;exact h.elim
 |sN=>simp only[hc] at h;exact h.elim
 |cW=>simp only[hc] at h;exact h.elim
theorem JQ {aE:List Oper} {o:Oper} {S:St} {M:MS} {K:St→Prop} (h:(LB E ann N aE o S M).run fun M'=>K (M'.st S)):sO E R ann N aE o (M.st S) K:=by
 unfold LB at h;unfold sO
 cases hg:o.guard with
 |none=>simp only[hg] at h⊢;exact qg h
 |some p=>
  obtain⟨j,want⟩:=p;simp only[hg] at h⊢
  cases hl:BK aE j with
  |none=>simp only[hl] at h;exact h.elim
  |some s=>
   simp only[hl] at h⊢;have Zp:(M.st S).tm s=ov S M.U s:=rfl;rw[Zp]
   cases hs:ov S M.U s with
   |none=>simp only[hs] at h;exact h.elim
   |some t=>
    cases t with
    |undef=>simp only[hs] at h⊢;exact jI h
    |lp a b=>simp only[hs] at h;exact h.elim
    |v x=>
     cases x with
     |bool b=>
      simp only[hs] at h⊢
      have zw:(M.st S).setT s (.v (.bool b))=M.st S:=by
       unfold St.setT MS.st;congr 1;funext t
       cases ht:Nat.beq t s with
       |false=>rfl
       |true=>simp only[cond_true];rw[Nat.eq_of_beq_eq_true ht,hs]
      cases hk:bw s M.kn with
      |true=>
       simp only[hk] at h;cases want<;>cases b
       ·have:=qg (R:=R) h;rw[←zw] at this;exact this
       ·have:=jI h;rw[←zw] at this;exact this
       ·have:=jI h;rw[←zw] at this;exact this
       ·have:=qg (R:=R) h;rw[←zw] at this;exact this
      |false=>
       simp only[hk] at h;refine eJ ?_ ?_ h
       ·intro h;have:=qg (R:=R) h;have e:MS.st S {M with U:=(s,.v (.bool want))::M.U,kn:=s::M.kn}=(M.st S).setT s (.v (.bool want)):=tk;rw[e] at this;exact this
       ·intro h;have:=jI h;have e:MS.st S {M with U:=(s,.v (.bool (!want)))::M.U,kn:=s::M.kn}=(M.st S).setT s (.v (.bool (!want))):=tk;rw[e] at this;exact this
     |_=>simp only[hs] at h;exact h.elim
theorem Gy (hm:R.le R) {aE:List Oper} {o:Oper} {S:St} {K K':St→Prop} (h:∀S,K S→K' S) (hx:sO E R ann N aE o S K):sO E R ann N aE o S K':=by
 rw[gR] at hx⊢;exact eg hm h hx
theorem xX (hm:R.le R) {aE:List Oper} {K:St→Prop} {S:St}:∀(l:List Oper) {M:MS},(BM E ann N aE l S M).run (fun M'=>K (M'.st S))→rE E R ann N aE l (M.st S) K
 |[],M,h=>h
 |o::l,M,h=>by
  unfold BM at h;rw[fu.run_bind] at h;refine JQ (K:=fun S'=>rE E R ann N aE l S' K) (fu.cv ?_ h);intro M' h';exact xX hm l h'
theorem kT {α:Type} {t:Nat} {m:α} {r:List (Nat×α)}:ab ((t,m)::r) t=some m:=by simp [ab,Nat.beq_refl]
theorem dB {α:Type} {t u:Nat} {m:α} {r:List (Nat×α)} (h:t≠u):ab ((u,m)::r) t=ab r t:=by
 have:Nat.beq t u=false:=by
  cases hb:Nat.beq t u with
  |false=>rfl
  |true=>exact absurd (Nat.eq_of_beq_eq_true hb) h
 simp [ab,this]
def gn {α:Type} (g:Nat→Option α) (A:List (Nat×α)) (t:Nat):Option α:=match ab A t with|some x=>some x|none=>g t
theorem Ax {S:St} {U:List (Nat×T)} {t:Nat}:ov S U t=gn S.tm U t:=by unfold ov gn;cases ab U t<;>rfl
theorem Ay {S:St} {W:List (Nat×bg)} {t:Nat}:xl S W t=gn S.lo W t:=by unfold xl gn;cases ab W t<;>rfl
theorem vR {α:Type} {g:Nat→Option α} {f:α→α→Option α} {A B:List (Nat×α)}:∀{l:List Nat} {r:List (Nat×α)},nt g f A B l=some r→∀t,ab A t=none→ab B t=none→ab r t=none
 |[],r,h,t,_,_=>by cases h;rfl
 |u::l,r,h,t,ha,hb=>by
  simp only[nt] at h;split at h
  ·cases h
  ·rename_i r' hr';have ih:=vR hr' t ha hb;by_cases htu:t=u
   ·subst htu;rw[ha,hb] at h;cases h;exact ih
   ·split at h
    ·cases h;exact ih
    ·split at h
     ·cases h;rw[dB htu];exact ih
     ·cases h
    ·split at h
     ·split at h
      ·cases h;rw[dB htu];exact ih
      ·cases h
     ·cases h
    ·split at h
     ·split at h
      ·cases h;rw[dB htu];exact ih
      ·cases h
     ·cases h
theorem o0 {α:Type} {g:Nat→Option α} {f:α→α→Option α} {c:Bool} (hf:∀a b m,f a b=some m→m=if c then a else b) {A B:List (Nat×α)}:∀{l:List Nat} {r:List (Nat×α)},nt g f A B l=some r→∀t∈l,gn g r t=if c then gn g A t else gn g B t
 |[],_,_,t,ht=>by cases ht
 |u::l,r,h,t,ht=>by
  simp only[nt] at h;split at h
  ·cases h
  ·rename_i r' hr';have ih:t∈l→gn g r' t=if c then gn g A t else gn g B t:=o0 hf hr' t
   by_cases htu:t=u
   ·subst htu;split at h
    ·rename_i ha hb;cases h;have hk:=vR hr' t ha hb;simp only[gn,ha,hb,hk];cases c<;>rfl
    ·rename_i a b ha hb;split at h
     ·rename_i m hm;cases h;simp only[gn,kT,ha,hb,hf _ _ _ hm];cases c<;>rfl
     ·cases h
    ·rename_i a ha hb;split at h
     ·rename_i b hg;split at h
      ·rename_i m hm;cases h;simp only[gn,kT,ha,hb,hg,hf _ _ _ hm];cases c<;>rfl
      ·cases h
     ·cases h
    ·rename_i b ha hb;split at h
     ·rename_i a hg;split at h
      ·rename_i m hm;cases h;simp only[gn,kT,ha,hb,hg,hf _ _ _ hm];cases c<;>rfl
      ·cases h
     ·cases h
   ·have htl:t∈l:=by simpa [htu] using ht
    have ih:=ih htl;split at h
    ·cases h;exact ih
    ·split at h
     ·cases h;rw[←ih];simp only[gn,dB htu]
     ·cases h
    ·split at h
     ·split at h
      ·cases h;rw[←ih];simp only[gn,dB htu]
      ·cases h
     ·cases h
    ·split at h
     ·split at h
      ·cases h;rw[←ih];simp only[gn,dB htu]
      ·cases h
     ·cases h
theorem Gz {c:Bool} {a b m:T} (h:BN c a b=some m):m=if c then a else b:=by
 unfold BN at h;split at h
 ·cases h;rw[JA];cases c<;>rfl
 ·rename_i s o s' o'
  cases hb:(Nat.beq s s'&&Nat.beq o o') with
  |false=>rw[hb] at h;cases h
  |true=>
   rw[hb] at h;rw[Bool.and_eq_true] at hb;cases h;rw[Nat.eq_of_beq_eq_true hb.1,Nat.eq_of_beq_eq_true hb.2];cases c<;>rfl
 ·cases h;cases c<;>rfl
 ·cases h
theorem GA {c:Bool} {a b m:bg} (h:BP c a b=some m):m=if c then a else b:=by
 unfold BP at h;split at h
 ·rename_i e cs e' cs'
  cases hb:Nat.beq e e' with
  |false=>rw[hb] at h;cases h
  |true=>
   rw[hb,cond_true] at h;split at h
   ·rename_i r hr;cases h;rw[rp hr,Nat.eq_of_beq_eq_true hb];cases c<;>rfl
   ·cases h
 ·cases h
theorem iG {n:Nat}:∀{l:List Nat},bw n l=true↔n∈l
 |[]=>by simp [bw]
 |x::l=>by
  simp only[bw,Bool.or_eq_true,List.mem_cons,iG (l:=l)];constructor
  ·rintro(h|h)
   ·exact .inl (Nat.eq_of_beq_eq_true h)
   ·exact .inr h
  ·rintro(h|h)
   ·exact .inl (by rw[h];exact Nat.beq_refl _)
   ·exact .inr h
theorem nM {n:Nat} {l:List Nat} (h:bw n l=false):n∉l:=fun hm=>by rw[iG.2 hm] at h;cases h
def RJ {α:Type} (a b:List Nat) (l:List (Nat×α)):Prop:=∀t,bw t a=false→bw t b=false→ab l t=none
theorem o4 {α:Type} {a b:List Nat}:∀{l:List (Nat×α)},nu a b l=true→RJ a b l
 |[],_,_,_,_=>rfl
 |(u,x)::l,h,t,ha,hb=>by
  simp only[nu,Bool.and_eq_true,Bool.or_eq_true] at h
  have hne:t≠u:=by
   rintro rfl;rcases h.1 with h|h
   ·rw[ha] at h;cases h
   ·rw[hb] at h;cases h
  rw[dB hne];exact o4 h.2 t ha hb
theorem kU {α:Type} {g:Nat→Option α} {f:α→α→Option α} {A B:List (Nat×α)}:∀{l:List Nat} {r:List (Nat×α)},nt g f A B l=some r→∀t,bw t l=false→ab r t=none
 |[],r,h,t,_=>by cases h;rfl
 |u::l,r,h,t,ht=>by
  have htu:t≠u:=fun e=>nM ht (by rw[e];exact List.mem_cons_self ..)
  have htl:bw t l=false:=by
   cases hm:bw t l with
   |false=>rfl
   |true=>exact absurd (List.mem_cons_of_mem _ (iG.1 hm)) (nM ht)
  simp only[nt] at h;split at h
  ·cases h
  ·rename_i r' hr';have ih:=kU hr' t htl;split at h
   ·cases h;exact ih
   ·split at h
    ·cases h;rw[dB htu];exact ih
    ·cases h
   ·split at h
    ·split at h
     ·cases h;rw[dB htu];exact ih
     ·cases h
    ·cases h
   ·split at h
    ·split at h
     ·cases h;rw[dB htu];exact ih
     ·cases h
    ·cases h
theorem nN {S:St} {ts ls dT dL:List Nat}:∀{tr:fu MS} {r:Bool} {U:List (Nat×T)} {W:List (Nat×bg)},n9 S ts ls dT dL tr=some (r,U,W)→RJ ts dT U∧RJ ls dL W
 | .leaf M,r,U,W,h=>by
   simp only[n9] at h
   cases hk:nu ts dT M.U&&nu ls dL M.W with
   |false=>rw[hk] at h;cases h
   |true=>
    rw[hk] at h;cases h;rw[Bool.and_eq_true] at hk;exact⟨o4 hk.1,o4 hk.2⟩
 | .aN,_,_,_,h=>by cases h
 | .ag c x,r,U,W,h=>by
   simp only[n9] at h;split at h
   ·rename_i r' U' W' h';cases h;exact nN h'
   ·cases h
 | .br c x y,r,U,W,h=>by
   simp only[n9] at h;split at h
   ·split at h
    ·rename_i U' W' hU hW;cases h;exact⟨fun t ht _=>kU hU t ht,fun t ht _=>kU hW t ht⟩
    ·cases h
   ·cases h
def Vh (S:St) (dT dL:List Nat) (U:List (Nat×T)) (W:List (Nat×bg)) (M:MS):Prop:=
 (∀t,bw t dT=false→gn S.tm U t=gn S.tm M.U t)∧∀s,bw s dL=false→gn S.lo W s=gn S.lo M.W s
theorem JR (c r1 r2:Bool):aR c r1 r2=if c then r1 else r2:=by cases c<;>cases r1<;>cases r2<;>rfl
theorem eX {α:Type} {g:Nat→Option α} {A:List (Nat×α)} {t:Nat} (h:ab A t=none):gn g A t=g t:=by simp [gn,h]
theorem qh {S:St} {ts ls dT dL:List Nat}:∀{tr:fu MS} {r:Bool} {U:List (Nat×T)} {W:List (Nat×bg)},n9 S ts ls dT dL tr=some (r,U,W)→r=true→tr.run (Vh S dT dL U W)
 | .leaf M,r,U,W,h,_=>by
   simp only[n9] at h
   cases hk:nu ts dT M.U&&nu ls dL M.W with
   |false=>rw[hk] at h;cases h
   |true=>rw[hk] at h;cases h;exact⟨fun _ _=>rfl,fun _ _=>rfl⟩
 | .aN,_,_,_,h,_=>by cases h
 | .ag c x,r,U,W,h,hr=>by
   simp only[n9] at h;split at h
   ·rename_i r' U' W' h';cases h;rw[Bool.and_eq_true] at hr;simp only[fu.run,hr.1];exact qh h' hr.2
   ·cases h
 | .br c x y,r,U,W,h,hr=>by
   simp only[n9] at h;split at h
   ·rename_i r1 U1 W1 r2 U2 W2 h1 h2;split at h
    ·rename_i U' W' hU hW;cases h;rw[JR] at hr;have hu:=o0 (c:=c) (fun _ _ _=>Gz) hU;have hw:=o0 (c:=c) (fun _ _ _=>GA) hW;have k1:=nN h1;have k2:=nN h2;have du:=kU hU;have dw:=kU hW
     cases c with
     |true=>
      refine fu.cv ?_ (qh (tr:=x) h1 (by simpa using hr));rintro M ⟨ha,hb⟩;refine⟨fun t ht=> ?_,fun s hs=> ?_⟩
      ·rw[←ha t ht]
       cases hm:bw t ts with
       |true=>simpa using hu t (iG.1 hm)
       |false=>rw[eX (du t hm),eX (k1.1 t hm ht)]
      ·rw[←hb s hs]
       cases hm:bw s ls with
       |true=>simpa using hw s (iG.1 hm)
       |false=>rw[eX (dw s hm),eX (k1.2 s hm hs)]
     |false=>
      refine fu.cv ?_ (qh (tr:=y) h2 (by simpa using hr));rintro M ⟨ha,hb⟩;refine⟨fun t ht=> ?_,fun s hs=> ?_⟩
      ·rw[←ha t ht]
       cases hm:bw t ts with
       |true=>simpa using hu t (iG.1 hm)
       |false=>rw[eX (du t hm),eX (k2.1 t hm ht)]
      ·rw[←hb s hs]
       cases hm:bw s ls with
       |true=>simpa using hw s (iG.1 hm)
       |false=>rw[eX (dw s hm),eX (k2.2 s hm hs)]
    ·cases h
   ·cases h
theorem GB {dT dL:List Nat} {S S':St} (h1:∀t,bw t dT=false→S.tm t=S'.tm t) (h2:∀t,bw t dL=false→S.lo t=S'.lo t) (h3:S.hp=S'.hp):qF dT dL S=qF dT dL S':=by
 unfold qF;rw[h3];congr 1
 ·funext t
  cases hm:bw t dT with
  |true=>rfl
  |false=>exact h1 t hm
 ·funext t
  cases hm:bw t dL with
  |true=>rfl
  |false=>exact h2 t hm
theorem GC {S:St} {ts ls dT dL:List Nat} {tr:fu MS} {K:St→Prop} (h:oL ts ls dT dL tr S K):tr.run fun M=>K (qF dT dL (M.st S)):=by
 unfold oL at h;split at h
 ·rename_i r U W hm;obtain⟨hr,hn⟩:=aM h;refine fu.cv ?_ (qh hm hr);rintro M ⟨ha,hb⟩
  have:qF dT dL ⟨ov S U,xl S W,S.hp⟩=qF dT dL (M.st S):=by
   refine GB (fun t ht=> ?_) (fun t ht=> ?_) rfl
   ·simp only[MS.st,Ax];exact ha t ht
   ·simp only[MS.st,Ay];exact hb t ht
  rw[←this];exact hn
 ·exact h.elim
theorem xY (hm:R.le R) {aE:List Oper} {ts ls dT dL:List Nat} {K:St→Prop}:∀(l:List Oper) {S:St},jX E R ann N ts ls dT dL aE l S K→rE E R ann N aE l S fun S'=>K (qF dT dL S')
 |[],S,h=>h
 |o::l,S,h=>by
  unfold jX at h;split at h
  ·exact Gy hm (fun S'=>xY hm l) h
  ·exact xX (K:=fun S'=>K (qF dT dL S')) hm (o::l) (M:=⟨[],[],[]⟩) (GC h)
end
section
variable {E:jU} {R:lH} {ann:bR} {N:Nat} {f:FuncId}
def gp (wT wL:List Nat) (S S':St):Prop:=
 (∀t,bw t wT=false→S'.tm t=S.tm t)∧∀s,bw s wL=false→S'.lo s=S.lo s
theorem gp.refl (wT wL:List Nat) (S:St):gp wT wL S S:=⟨fun _ _=>rfl,fun _ _=>rfl⟩
theorem gp.trans {wT wL:List Nat} {S S' FT:St} (h:gp wT wL S S') (k:gp wT wL S' FT):gp wT wL S FT:=
 ⟨fun t ht=>(k.1 t ht).trans (h.1 t ht),fun t ht=>(k.2 t ht).trans (h.2 t ht)⟩
theorem xZ:∀{l m:List Nat} {x:Nat},jf l m=true→x∈l→x∈m
 |y::l,m,x,h,hx=>by
  simp only[jf,Bool.and_eq_true] at h;rcases List.mem_cons.1 hx with rfl|hx
  ·exact iG.1 h.1
  ·exact xZ h.2 hx
theorem eY {l m:List Nat} {x:Nat} (h:jf l m=true) (hx:bw x m=false):bw x l=false:=by
 cases hm:bw x l with
 |false=>rfl
 |true=>exact absurd (xZ h (iG.1 hm)) (nM hx)
variable {wT wL:List Nat}
theorem rU {S:St} {d:Nat} {x:T} (h:bw d wT=true):gp wT wL S (S.setT d x):=by
 refine⟨fun t ht=> ?_,fun _ _=>rfl⟩
 have:Nat.beq t d=false:=by
  cases hb:Nat.beq t d with
  |false=>rfl
  |true=>rw[Nat.eq_of_beq_eq_true hb,h] at ht;cases ht
 simp [St.setT,this]
theorem x7 {S:St} {d:Nat} {x:bg} (h:bw d wL=true):gp wT wL S (S.setL d x):=by
 refine⟨fun _ _=>rfl,fun t ht=> ?_⟩
 have:Nat.beq t d=false:=by
  cases hb:Nat.beq t d with
  |false=>rfl
  |true=>rw[Nat.eq_of_beq_eq_true hb,h] at ht;cases ht
 simp [St.setL,this]
theorem gq {dst:Option Tmp} {x:T} {S:St} {K:St→Prop} (hd:jf dst.toList wT=true) (h:jd ann N dst x S K):jd ann N dst x S fun S'=>K S'∧gp wT wL S S':=by
 cases dst with
 |none=>exact⟨h,.refl ..⟩
 |some d=>
  have hd':bw d wT=true:=by simpa [jf] using hd
  refine bK ?_ h
  cases x with
  |v y=>exact fun h=>⟨h,rU hd'⟩
  |undef=>exact fun h=>⟨h,rU hd'⟩
  |lp s off=>
   simp only[]
   cases ab ann.aU d with
   |none=>exact id
   |some s'=>cases hs:Nat.beq s s'<;>simp [hs];exact fun h=>⟨h,rU hd'⟩
theorem vS {d s:Nat}:∀{l:List (Nat×Nat)} {t:Nat},ab l t=some s→s=d→t∈j9 d l
 |(u,v)::l,t,h,hs=>by
  simp only[ab] at h;simp only[j9]
  cases hb:Nat.beq t u with
  |true=>
   rw[hb] at h;cases h;rw[hs,Nat.beq_refl,cond_true,Nat.eq_of_beq_eq_true hb];exact List.mem_cons_self ..
  |false=>
   rw[hb] at h;have:=vS h hs
   cases Nat.beq v d with
   |true=>exact List.mem_cons_of_mem _ this
   |false=>exact this
theorem GD {S:St} {d:Nat} (h:jf (j9 d ann.aU) wT=true):gp wT wL S (rD ann d S):=by
 refine⟨fun t ht=> ?_,fun _ _=>rfl⟩;simp only[rD];split
 ·rename_i s hs
  cases hb:Nat.beq s d with
  |false=>rfl
  |true=>exact absurd (xZ h (vS hs (Nat.eq_of_beq_eq_true hb))) (nM ht)
 ·rfl
theorem vT (hm:R.le R) {o:Oper} {S:St} {K:St→Prop} (hw:JC E ann wT wL o=true) (h:iV E R ann N o S K):iV E R ann N o S fun S'=>K S'∧gp wT wL S S':=by
 simp only[JC,Bool.and_eq_true] at hw;obtain⟨⟨hd,hk⟩,hl⟩:=hw;unfold iV at h⊢
 cases hc:Gg E ann o with
 |pure=>
  simp only[hc] at h⊢;split at h
  ·exact fC.cv (fun x=>gq hd) h
  ·exact h
 |n8 s=>
  simp only[hc] at h⊢;split at h
  ·exact fC.cv (fun x=>gq hd) h
  ·exact h
 |iA s=>
  simp only[hc] at h hl⊢;split at h
  ·refine fC.cv (fun x hx=> ?_) h;refine eE ?_ (gq (wT:=wT) (wL:=wL) hd hx);rintro S' ⟨h1,h2⟩;exact⟨h1,(x7 hl).trans h2⟩
  ·exact h
 |sM=>
  simp only[hc] at h hl⊢;split at h
  ·rename_i d r L wI _;refine bK (fun hx=> ?_) h;have hd':bw d wL=true:=by simpa [jf,wI] using hl
   have hk':jf (j9 d ann.aU) wT=true:=by simpa [BQ,wI] using hk
   refine eE ?_ (gq (wT:=wT) (wL:=wL) (by simpa [wI] using hd) hx);rintro S' ⟨h1,h2⟩;exact⟨h1,((GD hk').trans (x7 hd')).trans h2⟩
  ·exact h
 |j4=>
  simp only[hc] at h⊢;split at h
  ·exact fC.cv (fun x=>gq hd) h
  ·exact h
 |sN=>simp only[hc] at hl;cases hl
 |cW=>
  simp only[hc] at h⊢;refine ju hm (fun x H' hx=> ?_) h;refine eE ?_ (gq (wT:=wT) (wL:=wL) hd hx);rintro S' ⟨h1,h2⟩;exact⟨h1,h2⟩
theorem o5 (hm:R.le R) {aE:List Oper} {o:Oper} {S:St} {K:St→Prop} (hw:JC E ann wT wL o=true) (h:eu E R ann N aE o S K):eu E R ann N aE o S fun S'=>K S'∧gp wT wL S S':=by
 have hd:jf o.dst.toList wT=true:=by
  simp only[JC,Bool.and_eq_true] at hw;exact hw.1.1
 unfold eu at h⊢;split at h
 ·exact vT hm hw h
 ·split at h
  ·exact eJ (vT hm hw) (gq hd) h
  ·exact gq hd h
  ·exact h
theorem tl (hm:R.le R) {aE:List Oper}:∀(l:List Oper) {S:St} {K:St→Prop},jg E ann wT wL l=true→kL E R ann N aE l S K→kL E R ann N aE l S fun S'=>K S'∧gp wT wL S S'
 |[],S,K,_,h=>⟨h,.refl ..⟩
 |o::l,S,K,hw,h=>by
  simp only[jg,Bool.and_eq_true] at hw;refine eg hm ?_ (o5 hm hw.1 h);rintro S' ⟨h1,h2⟩;refine oN hm l ?_ (tl hm l hw.2 h1);rintro FT ⟨h3,h4⟩;exact⟨h3,h2.trans h4⟩
theorem GF {l:List Oper}:jg E ann wT wL l=true→∀o∈l,JC E ann wT wL o=true:=by
 induction l with
 |nil=>intro _ p hp;cases hp
 |cons o l ih=>
  intro h p hp;rw[jg,Bool.and_eq_true] at h;rcases List.mem_cons.1 hp with rfl|hp
  ·exact h.1
  ·exact ih h.2 p hp
theorem tp (hm:R.le R) {aE:List Oper} {i:Nat} {S:St} {K K':St→Prop} (h:∀S,K S→K' S) (hx:fE E R ann N aE i S K):fE E R ann N aE i S K':=by
 unfold fE at hx⊢;split at hx
 ·rw[gR] at hx⊢;exact eg hm h hx
 ·exact hx
theorem Cp (hm:R.le R) {aE:List Oper} (hw:jg E ann wT wL aE=true) {i:Nat} {S:St} {K:St→Prop} (h:fE E R ann N aE i S K):fE E R ann N aE i S fun S'=>K S'∧gp wT wL S S':=by
 unfold fE at h⊢;split at h
 ·rename_i o ho;rw[gR] at h⊢;exact o5 hm (GF hw o (List.mem_of_getElem? ho)) h
 ·exact h
theorem kc (hm:R.le R) {aE:List Oper} (hw:jg E ann wT wL aE=true):∀(t:qO) {S:St} {K:St→Prop},hI (fE E R ann N aE) t S K→hI (fE E R ann N aE) t S fun S'=>K S'∧gp wT wL S S'
 | .nil,S,K,h=>⟨h,.refl ..⟩
 | .aN,S,K,h=>h
 | .one i r,S,K,h=>by
   have h:fE E R ann N aE i S (fun S'=>hI (fE E R ann N aE) r S' K):=h;show fE E R ann N aE i S (fun S'=>hI (fE E R ann N aE) r S' _)
   refine tp hm ?_ (Cp hm hw h);rintro S' ⟨h1,h2⟩;refine jB (st:=fE E R ann N aE) (st':=fE E R ann N aE) (fun i S K K' h hx=>tp hm h hx) r ?_ (kc hm hw r h1);rintro FT ⟨h3,h4⟩;exact⟨h3,h2.trans h4⟩
 | .LC a b,S,K,h=>⟨kc hm hw a h.1,kc hm hw b h.2⟩
theorem ma (hm:R.le R) {aE:List Oper} {draw:Bool} {S:St} {K:St→Prop} (hw:jg E ann wT wL aE=true) (h:gD E R ann N aE draw S K):gD E R ann N aE draw S fun S'=>K S'∧gp wT wL S S':=by
 unfold gD at h⊢;revert h;split
 ·simp only[km];exact tl hm _ hw
 ·exact bK (kc hm hw _)
theorem Az {S:St} {dT dL:List Nat} (h1:jf dT wT=true) (h2:jf dL wL=true):gp wT wL S (qF dT dL S):=
 ⟨fun t ht=>by simp [qF,eY h1 ht],fun t ht=>by simp [qF,eY h2 ht]⟩
theorem tq (hm:R.le R) {aE:List Oper} {ts ls dT dL:List Nat} (h1:jf ts wT=true) (h2:jf ls wL=true) (h3:jf dT wT=true) (h4:jf dL wL=true) {K:St→Prop}:∀(l:List Oper) {S:St},jg E ann wT wL l=true→jX E R ann N ts ls dT dL aE l S K→jX E R ann N ts ls dT dL aE l S fun S'=>K S'∧gp wT wL S S'
 |[],S,_,h=>⟨h,Az h3 h4⟩
 |o::l,S,hw,h=>by
  simp only[jg,Bool.and_eq_true] at hw;unfold jX at h⊢;split at h
  ·rw[gR] at h⊢;refine eg hm ?_ (o5 hm hw.1 h);rintro S' ⟨h5,h6⟩;refine oO hm ?_ l (tq hm h1 h2 h3 h4 l hw.2 h5);rintro FT ⟨h7,h8⟩;exact⟨h7,h6.trans h8⟩
  ·unfold oL at h⊢;split at h
   ·rename_i r U W Ou;refine bK (fun hk=>⟨hk, ?_⟩) h;obtain⟨k1,k2⟩:=nN Ou;refine gp.trans ?_ (Az h3 h4);refine⟨fun t ht=> ?_,fun t ht=> ?_⟩
    ·change ov S U t=S.tm t
     rw[Ax,eX (k1 t (eY h1 ht) (eY h3 ht))]
    ·change xl S W t=S.lo t
     rw[Ay,eX (k2 t (eY h2 ht) (eY h4 ht))]
   ·exact h
theorem x9 {S:St}:∀{l:List (Nat×KT)} {t:Nat},bw t (oM l)=false→ab (kN S l).2 t=none
 |[],_,_=>rfl
 |(u,k)::l,t,h=>by
  simp only[oM,bw,Bool.or_eq_false_iff] at h;simp only[kN,ab,h.1,cond_false];exact x9 h.2
theorem ya {S:St}:∀{l:List (Nat×TypeId×List bY)} {t:Nat},bw t (oM l)=false→ab (kO S l).2 t=none
 |[],_,_=>rfl
 |(u,e,ks)::l,t,h=>by
  simp only[oM,bw,Bool.or_eq_false_iff] at h;simp only[kO,ab,h.1,cond_false];exact ya h.2
theorem o6 {ok:jb→Bool} {kp:Option jb} {S:St} {A:(Ex→St→Prop)→Prop} {K:Ex→St→Prop} (hj:LD wT wL kp=true) (hA:∀K:Ex→St→Prop,A K→A fun e S'=>K e S'∧gp wT wL S S') (hm:∀K K':Ex→St→Prop,(∀e S,K e S→K' e S)→A K→A K') (h:lI ok kp S A K):lI ok kp S A fun e S'=>K e S'∧gp wT wL S S':=by
 unfold lI at h⊢
 cases kp with
 |none=>exact hA _ h
 |some kp=>
  simp only[LD,RG,Bool.and_eq_true] at hj;obtain⟨Qn,⟨⟨h1,h2⟩,h3⟩,h4⟩:=hj;simp only[Qn] at h⊢;refine bK (fun h=> ?_) h;unfold DP cC at h⊢;refine hm _ _ ?_ (hA _ h);rintro e S' ⟨hk,ha⟩
  cases e with
  |exit id=>exact⟨hk,ha⟩
  |ret=>exact⟨hk,ha⟩
  |normal=>
   refine hJ (fun S1 hk=>bK (fun hk=>⟨hk, ?_⟩) hk) hk;refine⟨fun t ht=> ?_,fun t ht=> ?_⟩
   ·simp only[over,x9 (eY h3 ht),eY h1 ht,cond_false]
   ·simp only[over,ya (eY h4 ht),eY h2 ht,cond_false]
theorem rV (hm:R.le R):∀(c:Code) (n:Nat) (S:St) (K:Ex→St→Prop),BS E ann wT wL c n=true→fV E R f ann N c n S K→fV E R f ann N c n S fun e S'=>K e S'∧gp wT wL S S':=by
 intro c
 induction c with
 |skip=>intro n S K _ hx;exact⟨hx,.refl ..⟩
 |exit id=>intro n S K _ hx;exact⟨hx,.refl ..⟩
 |ret=>intro n S K _ hx;exact⟨hx,.refl ..⟩
 |seq a b iha ihb=>
  intro n S K hw hx;simp only[BS,Bool.and_eq_true] at hw;refine gE hm a _ _ _ _ ?_ (iha n S _ hw.1 hx);rintro e S' ⟨hk,ha⟩
  cases e with
  |exit id=>exact⟨hk,ha⟩
  |ret=>exact⟨hk,ha⟩
  |normal=>
   refine gE hm b _ _ _ _ ?_ (ihb _ S' _ hw.2 hk);rintro e FT ⟨hk,hb⟩;exact⟨hk,ha.trans hb⟩
 |cond c x y ihx ihy=>
  intro n S K hw hx;simp only[BS,Bool.and_eq_true] at hw;simp only[fV] at hx⊢;split at hx
  ·refine o6 hw.1 ?_ ?_ hx
   ·intro K h;exact eJ (ihx _ _ _ hw.2.1) (ihy _ _ _ hw.2.2) h
   ·intro K K' h;exact eJ (gE hm x _ _ _ _ h) (gE hm y _ _ _ _ h)
  ·exact hx
 |block id b ih=>
  intro n S K hw hx;simp only[BS,Bool.and_eq_true] at hw;simp only[fV] at hx⊢;refine o6 hw.1 ?_ ?_ hx
  ·intro K h;refine gE hm b _ _ _ _ ?_ (ih _ _ _ hw.2 h);rintro e S' ⟨hk,ha⟩
   cases e with
   |normal=>exact⟨hk,ha⟩
   |ret=>exact⟨hk,ha⟩
   |exit j=>exact eJ (fun h=>⟨h,ha⟩) (fun h=>⟨h,ha⟩) hk
  ·intro K K' h;refine gE hm b _ _ _ _ ?_;intro e S'
   cases e with
   |normal=>exact h _ _
   |ret=>exact h _ _
   |exit j=>exact eJ (h _ _) (h _ _)
 |region id aE draw=>
  intro n S K hw hx;simp only[BS,Bool.and_eq_true] at hw;simp only[fV] at hx⊢;revert hx
  cases hkp:rF ann n with
  |none=>exact ma hm hw.1
  |some kp=>
   simp only[hkp] at hw⊢
   cases Ou:kp.mg with
   |true=>
    simp only[Ou,Bool.and_eq_true] at hw⊢;exact bK (tq hm hw.2.1.1.1 hw.2.1.1.2 hw.2.1.2 hw.2.2 _ hw.1)
   |false=>
    simp only[Ou] at hw⊢;refine o6 (by simp only[LD];exact hw.2) ?_ ?_
    ·intro K h;exact ma hm hw.1 h
    ·intro K K' h;exact nB hm (h _)
 |loop c ih=>intro n S K hw;simp [BS] at hw
 |rangeFunc=>intro n S K hw;simp [BS] at hw
 |scope b ih=>intro n S K hw h;simp only[BS] at hw;simp only[fV] at h⊢;exact ih _ _ _ hw h
 |label=>intro n S K hw h;simp only[fV] at h⊢;exact⟨h,.refl ..⟩
 |goto=>intro n S K hw;simp [BS] at hw
 |refuse=>intro n S K hw;simp [BS] at hw
end
section
variable {E:jU} {H0:af} {ρ0:da} {w0:World} {ann:bR} {N:Nat} {ρ lam:da} {S:St} {a:Act} {w:World} {R:lH}
def yb (aE:Array Oper) (listed:Array Bool):Prop:=
 ∀i o,aE[i]? =some o→listed.getD i false=true→∀e∈o.after.toList,Region.binds .any e=true→listed.getD e.on false=true
theorem o7 {aE:Array Oper} {listed:Array Bool} (vC:yb aE listed) (Rr:ny aE.toList 0=true):∀(i:Nat) (o:Oper) (b:List Nat),aE[i]? =some o→(iC aE.toList [])[i]? =some b→(∀e∈o.after.toList,Region.binds .any e=true→listed.getD e.on false=true)→∀j∈b,listed.getD j false=true:=by
 intro i
 induction i using Nat.strongRecOn with
 |_ i ih=>
  intro o b ho hb hl j hj;rcases tf aE.toList [] i b hb with⟨h,_⟩|⟨q,h1,_,h3⟩
  ·simp at h
  ·have hq:q=o:=by simp only[List.length_nil,Nat.sub_zero] at h1;rw[Array.getElem?_toList,ho] at h1;exact(Option.some.inj h1).symm
   subst hq;obtain⟨e,he,Ov,hj⟩:=h3 j hj;rcases hj with rfl|⟨hlt,b',hb',hj⟩
   ·exact hl e he Ov
   ·have Lt:=hl e he Ov
    have hin:e.on<aE.size:=by
     rcases Nat.lt_or_ge e.on aE.size with h|h
     ·exact h
     ·have:=(Array.getElem?_eq_some_iff.1 ho).1;omega
    exact ih e.on hlt aE[e.on] b' (Array.getElem?_eq_getElem hin) hb' (vC e.on _ (Array.getElem?_eq_getElem hin) Lt) j hj
theorem qi {listed:Array Bool} {i:Nat} (h:i<listed.size):listed.getD i true=listed.getD i false:=by simp [Array.getD,h]
theorem GG (hR:mF E R) {aE:Array Oper} {Q:Exit→Act→World→Prop} {K:St→Prop} (hok:xn E ann aE.toList=true) (hq:∀S' ρ' dv a' w',SR H0 ρ0 w0 ann N ρ' dv S' a' w'→K S'→Q .normal a' w'):∀(fuel:Nat) (listed:Array Bool) {S:St} {ρ lam:da} {a:Act} {w:World},listed.size=aE.size→yb aE listed→(jH aE.size listed).length≤fuel→gJ E R ann N aE (jH aE.size listed) S K→SR H0 ρ0 w0 ann N ρ lam S a w→wpAny E.P .any aE Q fuel listed a w:=by
 rw[xn,Bool.and_eq_true] at hok;obtain⟨Rr,Yl⟩:=hok
 have hin:∀{listed:Array Bool} {i:Nat},listed.size=aE.size→i∈Region.ready .any aE listed→i<aE.size∧listed.getD i false=false:=by
  intro listed i hs hi;obtain⟨h0,o,ho,_⟩:=mem_ready.1 hi;have hlt:=(Array.getElem?_eq_some_iff.1 ho).1;exact⟨hlt,by rw[←qi (by omega)];exact h0⟩
 have hmem:∀{listed:Array Bool} {i:Nat},i<aE.size→listed.getD i false=false→i∈jH aE.size listed:=by
  intro listed i h1 h2;unfold jH;rw[List.mem_filter,List.mem_range];exact⟨h1,by rw[h2];rfl⟩
 intro fuel
 induction fuel with
 |zero=>
  intro listed S ρ lam a w hs vC hlen hk h;have Dx:jH aE.size listed=[]:=List.eq_nil_of_length_eq_zero (by omega);rw[Dx] at hk;refine⟨?_,hq _ _ _ _ _ h hk⟩
  cases hr:Region.ready .any aE listed with
  |nil=>rfl
  |cons i l=>
   obtain⟨h1,h2⟩:=hin hs (hr▸List.mem_cons_self .. :i∈Region.ready .any aE listed);have:=hmem h1 h2;rw[Dx] at this;cases this
 |succ fuel ih=>
  intro listed S ρ lam a w hs vC hlen hk h;refine⟨fun hnone=> ?_,fun i hi=> ?_⟩
  ·have hall:∀i,i<aE.size→listed.getD i false=true:=by
    intro i
    induction i using Nat.strongRecOn with
    |_ i ihi=>
     intro hi;cases hl:listed.getD i false
     ·exfalso
      have:i∈Region.ready .any aE listed:=by
       refine mem_ready.2 ⟨by rw[qi (by omega)];exact hl,aE[i],Array.getElem?_eq_getElem hi,fun e he hb=> ?_⟩;have hlt:=nL Rr i aE[i] (by rw[Array.getElem?_toList,Array.getElem?_eq_getElem hi]) e (Array.mem_toList_iff.2 he) hb;exact ihi e.on (by omega) (by omega)
      rw[hnone] at this;cases this
     ·rfl
   have Dx:jH aE.size listed=[]:=by
    unfold jH;rw[List.filter_eq_nil_iff];intro i hi;rw[hall i (List.mem_range.1 hi)];simp
   rw[Dx] at hk;exact hq _ _ _ _ _ h hk
  ·obtain⟨h1,h2⟩:=hin hs hi;obtain⟨_,o,ho,zx⟩:=mem_ready.1 hi
   have T6:yb aE (listed.setIfInBounds i true):=by
    intro j p hp hj e he hb;by_cases hji:i=j
    ·subst hji;rw[ho] at hp;cases hp;exact getD_set_true (zx e (Array.mem_toList_iff.1 he) hb)
    ·rw[getD_set_ne false hji] at hj;exact getD_set_true (vC j p hp hj e he hb)
   obtain⟨pre,post,e1,e2,h3,h4⟩:=th (p:=fun j=> !listed.getD j false) (q:=fun j=> !(listed.setIfInBounds i true).getD j false) (i:=i)
    (fun j hj=>by rw[getD_set_ne false (fun e=>hj e.symm)]) (by simp only[h2];rfl) (by simp [Array.getD,hs,h1]) (List.range aE.size) (List.mem_range.2 h1) List.nodup_range
   have hk':gJ E R ann N aE (pre++i::post) S K:=by
    have:jH aE.size listed=pre++i::post:=e1;rw[←this];exact hk
   have hstep:=td hR ho pre post (by
    intro j hj p hp;obtain⟨hj1,hj2,hj3⟩:=h3 j hj;have hlt:=h4 List.pairwise_lt_range j hj;have hf:(aE.toList.map (cO E ann aE.toList))[i]? =some (cO E ann aE.toList o):=by rw[List.getElem?_map,Array.getElem?_toList,ho];rfl
    have Lk:=oZ Yl i _ hf;rw[Nat.zero_add] at Lk;obtain⟨g,b,hg,hb,Q6⟩:=te Lk j hlt;have hg':g=cO E ann aE.toList p:=by rw[List.getElem?_map,Array.getElem?_toList,hp] at hg;exact(Option.some.inj hg).symm
    subst hg';rcases Q6 with Q6|Q6
    ·have:=o7 vC Rr i o b ho hb (fun e he Ov=>zx e (Array.mem_toList_iff.1 he) Ov) j Q6;simp only[this] at hj2;cases hj2
    ·exact Q6) hk'
   refine oW hR.ext hR.call hR.body h ho hstep ?_;intro S' ρ' dv a' w' h' hk2;have e3:jH aE.size (listed.setIfInBounds i true)=pre++post:=e2;refine ih _ (by simp [hs]) T6 ?_ (by rw[e3];exact hk2) h';have OJ:jH aE.size listed=pre++i::post:=e1;rw[OJ] at hlen;rw[e3];simp at hlen⊢;omega
end
theorem yc:∀{l m:List Nat},iW l m=true→∃x,x∈l∧x∈m
 |y::l,m,h=>by
  rw[iW,Bool.or_eq_true] at h;rcases h with h|h
  ·exact⟨y,List.mem_cons_self ..,jh.1 h⟩
  ·obtain⟨x,hx1,ux⟩:=yc h;exact⟨x,List.mem_cons_of_mem _ hx1,ux⟩
theorem lN (n:Nat):∀l,je n l=l.filter (fun x=> !decide (x=n))
 |[]=>rfl
 |x::l=>by
  rw[je,aP,lN n l];by_cases h:n=x
  ·subst h;simp
  ·have:¬x=n:=fun e=>h e.symm
   simp [h,this]
theorem mG {n j:Nat} {l:List Nat}:j∈je n l↔j∈l∧j≠n:=by
 rw[lN,List.mem_filter];simp
theorem AA (i j:Nat) (l:List Nat):je i (je j l)=je j (je i l):=by
 rw[lN,lN,lN,lN,List.filter_filter,List.filter_filter];congr 1;funext x;rw[Bool.and_comm]
theorem o8 {n:Nat} {l:List Nat} (h:n∈l):(je n l).length<l.length:=by
 rw[lN];have:=List.length_filter_lt_length_iff_exists (p:=fun x=> !decide (x=n)) (l:=l);exact this.2 ⟨n,h,by simp⟩
section
variable {fs:List jA} {bs:List (List Nat)}
theorem o9 {rem:List Nat} {i:Nat}:gf bs rem i=true↔∀x∈mw bs i,x∉rem:=by
 unfold gf;rw[Bool.not_eq_true'];constructor
 ·exact fun h x hx=>fw h x hx
 ·intro h;cases hm:iW (mw bs i) rem
  ·rfl
  ·obtain⟨x,h1,h2⟩:=yc hm;exact absurd h2 (h x h1)
theorem qj {rem:List Nat} {i j:Nat} (h:gf bs rem j=true):gf bs (je i rem) j=true:=by
 rw[o9] at h⊢;exact fun x hx hm=>h x hx (mG.1 hm).1
theorem mb {i:Nat} {f:jA}:∀{rem:List Nat},dG fs bs i f rem=true↔∀j∈rem,i=j∨i∈mw bs j∨∃g,fs[j]? =some g∧gb g f=true∧gb f g=true
 |[]=>by simp [dG]
 |j::l=>by
  rw[dG,Bool.and_eq_true,mb];simp only[List.forall_mem_cons];refine and_congr ?_ Iff.rfl;simp only[Bool.or_eq_true,aP,decide_eq_true_eq,jh,or_assoc];refine or_congr Iff.rfl (or_congr Iff.rfl ?_)
  cases fs[j]? with
  |none=>simp
  |some g=>simp
theorem qY {i j:Nat} {f:jA} {rem:List Nat} (h:dG fs bs i f rem=true):dG fs bs i f (je j rem)=true:=by
 rw[mb] at h⊢;exact fun k hk=>h k (mG.1 hk).1
theorem qk {rem:List Nat} {i:Nat}:∀{l:List Nat},nA fs bs rem l=some i→i∈l∧gf bs rem i=true∧∃f,fs[i]? =some f∧dG fs bs i f rem=true
 |x::l,h=>by
  rw[nA] at h;split at h
  ·rename_i f hr hf
   cases hc:dG fs bs x f rem with
   |true=>
    rw[hc] at h;simp only[cond_true,Option.some.injEq] at h;subst h;exact⟨List.mem_cons_self ..,hr,f,hf,hc⟩
   |false=>
    rw[hc] at h;obtain⟨h1,h2⟩:=qk h;exact⟨List.mem_cons_of_mem _ h1,h2⟩
  ·obtain⟨h1,h2⟩:=qk h;exact⟨List.mem_cons_of_mem _ h1,h2⟩
theorem uT {rem:List Nat}:∀{l:List Nat},nA fs bs rem l=none→∀i∈l,gf bs rem i=true→∀f,fs[i]? =some f→dG fs bs i f rem=false
 |x::l,h,i,hi,hr,f,hf=>by
  rw[nA] at h;rcases List.mem_cons.1 hi with rfl|hi
  ·rw[hr,hf] at h;simp only[] at h
   cases hc:dG fs bs i f rem with
   |true=>rw[hc] at h;cases h
   |false=>rfl
  ·split at h
   ·rename_i g _ _
    cases hc:dG fs bs x g rem with
    |true=>rw[hc] at h;cases h
    |false=>rw[hc] at h;exact uT h i hi hr f hf
   ·exact uT h i hi hr f hf
theorem Eg {step:Nat→St→(St→Prop)→Prop} {g:Nat→qO} {S:St} {K:St→Prop}:∀{l:List Nat},hI step (OR g l) S K→∀i∈l,step i S fun S'=>hI step (g i) S' K
 |[x],h,i,hi=>by
  rw[List.mem_singleton] at hi;subst hi;exact h
 |x::y::l,h,i,hi=>by
  obtain⟨h1,h2⟩:=h;rcases List.mem_cons.1 hi with rfl|hi
  ·exact h1
  ·exact Eg h2 i hi
theorem pd {rem:List Nat} {i:Nat} (hr:gf bs rem i=true):∀{l:List Nat},i∈l→i∈p7 bs rem l
 |x::l,h=>by
  rw[p7];rcases List.mem_cons.1 h with rfl|h
  ·rw[hr];exact List.mem_cons_self ..
  ·cases gf bs rem x
   ·exact pd hr h
   ·exact List.mem_cons_of_mem _ (pd hr h)
end
section
variable {E:jU} {H0:af} {ρ0:da} {w0:World} {ann:bR} {N:Nat} {ρ lam:da} {S:St} {a:Act} {w:World} {R:lH}
def il (E:jU) (R:lH) (ann:bR) (N:Nat) (aE:Array Oper) (i:Nat) (S:St) (K:St→Prop):Prop:=
 match aE[i]? with
 |some o=>eu E R ann N aE.toList o S K
 |none=>False
theorem nO (hm:R.le R) {aE:Array Oper} {i:Nat} {S:St} {K K':St→Prop} (h:∀S,K S→K' S) (hk:il E R ann N aE i S K):il E R ann N aE i S K':=by
 unfold il at hk⊢;split at hk
 ·exact eg hm h hk
 ·exact hk
abbrev yd (E:jU) (ann:bR) (aE:Array Oper):List jA:=aE.toList.map (cO E ann aE.toList)
abbrev wv (aE:Array Oper):List (List Nat):=iC aE.toList []
def zU (E:jU) (R:lH) (ann:bR) (N:Nat) (aE:Array Oper) (n:Nat) (rem:List Nat) (S:St) (K:St→Prop):Prop:=
 hI (il E R ann N aE) (Al (yd E ann aE) (wv aE) n rem) S K
theorem QG (hR:mF E R) {aE:Array Oper} {i j:Nat} {S:St} {K:St→Prop} {f g:jA} (hi:(yd E ann aE)[i]? =some f) (hj:(yd E ann aE)[j]? =some g) (ha:gb f g=true) (h:il E R ann N aE i S fun S'=>il E R ann N aE j S' K):il E R ann N aE j S fun S'=>il E R ann N aE i S' K:=by
 simp only[yd,List.getElem?_map,Array.getElem?_toList,Option.map_eq_some_iff] at hi hj;obtain⟨p,hp,rfl⟩:=hi;obtain⟨q,hq,rfl⟩:=hj;simp only[il,hp,hq] at h⊢;exact xA hR.mono hR.uE ha h
theorem ZO (hR:mF E R) {aE:Array Oper}:∀(n:Nat),(∀(rem:List Nat) (j:Nat) (S:St) (K:St→Prop),rem.length≤n→j∈rem→j<aE.size→gf (wv aE) rem j=true→zU E R ann N aE n rem S K→il E R ann N aE j S fun S'=>zU E R ann N aE (n-1) (je j rem) S' K)∧(∀(rem:List Nat) (i:Nat) (f:jA) (S:St) (K:St→Prop),rem.length≤n→i∈rem→(yd E ann aE)[i]? =some f→gf (wv aE) rem i=true→dG (yd E ann aE) (wv aE) i f rem=true→(il E R ann N aE i S fun S'=>zU E R ann N aE (n-1) (je i rem) S' K)→zU E R ann N aE n rem S K):=by
 intro n
 induction n with
 |zero=>
  refine⟨fun rem j S K hl hj=> ?_,fun rem i f S K hl hi=> ?_⟩
  ·have:=List.eq_nil_of_length_eq_zero (l:=rem) (by omega);subst this;cases hj
  ·have:=List.eq_nil_of_length_eq_zero (l:=rem) (by omega);subst this;cases hi
 |succ m ih=>
  obtain⟨ihE,ihB⟩:=ih
  have Rt:∀(rem:List Nat) (S:St) (K:St→Prop) (j:Nat),j∈rem→zU E R ann N aE (m+1) rem S K=
   (match nA (yd E ann aE) (wv aE) rem rem with
   |some i=>il E R ann N aE i S fun S'=>zU E R ann N aE m (je i rem) S' K
   |none=>hI (il E R ann N aE) (OR (fun i=>Al (yd E ann aE) (wv aE) m (je i rem)) (p7 (wv aE) rem rem)) S K):=by
   intro rem S K j hj
   cases rem with
   |nil=>cases hj
   |cons x l=>
    simp only[zU,Al];cases nA (yd E ann aE) (wv aE) (x::l) (x::l)<;>rfl
  have app:∀{rem:List Nat} {i j:Nat} {f:jA},i≠j→i∈rem→j∈rem→gf (wv aE) rem j=true→dG (yd E ann aE) (wv aE) i f rem=true→
   ∃g,(yd E ann aE)[j]? =some g∧gb g f=true∧gb f g=true:=by
   intro rem i j f hne hi hj hr hc;rcases (mb.1 hc) j hj with h|h|h
   ·exact absurd h hne
   ·exact absurd hi (o9.1 hr i h)
   ·exact h
  refine⟨?_, ?_⟩
  ·intro rem j S K hl hj hjs hr hk;rw[Rt rem S K j hj] at hk;rw[Nat.add_sub_cancel];split at hk
   ·rename_i i hp;obtain⟨hi,Ym,f,hf,hc⟩:=qk hp;by_cases hij:i=j
    ·subst hij;exact hk
    ·obtain⟨g,hg,HB,Yn⟩:=app hij hi hj hr hc;have hli:=o8 hi;have hlj:=o8 hj;have hjd:j∈je i rem:=mG.2 ⟨hj,fun e=>hij e.symm⟩;have hid:i∈je j rem:=mG.2 ⟨hi,hij⟩
     have h1:il E R ann N aE i S fun S1=>il E R ann N aE j S1 fun S2=>zU E R ann N aE (m-1) (je j (je i rem)) S2 K:=
      nO hR.mono (fun S1 h=>ihE _ j S1 K (by omega) hjd hjs (qj hr) h) hk
     have h2:=QG hR hf hg Yn h1;refine nO hR.mono (fun S1 h=> ?_) h2;refine ihB _ i f S1 K (by omega) hid hf (qj Ym) (qY hc) ?_;rw[AA];exact h
   ·exact Eg hk j (pd hr hj)
  ·intro rem i f S K hl hi hf Ym hc hk;rw[Rt rem S K i hi];rw[Nat.add_sub_cancel] at hk;split
   ·rename_i k hp;obtain⟨hkm,US,f',hf',qJ⟩:=qk hp;by_cases hki:k=i
    ·subst hki;exact hk
    ·obtain⟨g,hg,HB,Yn⟩:=app hki hkm hi Ym qJ;rw[hf] at hg;cases hg;have hli:=o8 hi;have hlk:=o8 hkm;have hkd:k∈je i rem:=mG.2 ⟨hkm,hki⟩;have hid:i∈je k rem:=mG.2 ⟨hi,fun e=>hki e.symm⟩
     have hks:k<aE.size:=by
      have:=(List.getElem?_eq_some_iff.1 hf').1;simpa using this
     have h1:il E R ann N aE i S fun S1=>il E R ann N aE k S1 fun S2=>zU E R ann N aE (m-1) (je k (je i rem)) S2 K:=
      nO hR.mono (fun S1 h=>ihE _ k S1 K (by omega) hkd hks (qj US) h) hk
     have h2:=QG hR hf hf' HB h1;refine nO hR.mono (fun S1 h=> ?_) h2;refine ihB _ i f S1 K (by omega) hid hf (qj Ym) (qY hc) ?_;rw[AA];exact h
   ·rename_i hp;have:=uT hp i hi Ym f hf;rw[hc] at this;cases this
theorem LW {n:Nat} {listed:Array Bool} {i:Nat} (hi:i<listed.size):jH n (listed.setIfInBounds i true)=je i (jH n listed):=by
 rw[lN];unfold jH;rw[List.filter_filter];apply List.filter_congr;intro j _;by_cases h:i=j
 ·subst h;simp [Array.getD,hi]
 ·have:¬j=i:=fun e=>h e.symm
  rw[getD_set_ne false h];simp [this]
theorem Eh (hR:mF E R) {aE:Array Oper} {Q:Exit→Act→World→Prop} {K:St→Prop} (Rr:ny aE.toList 0=true) (hq:∀S' ρ' dv a' w',SR H0 ρ0 w0 ann N ρ' dv S' a' w'→K S'→Q .normal a' w'):∀(fuel:Nat) (listed:Array Bool) {S:St} {ρ lam:da} {a:Act} {w:World},listed.size=aE.size→yb aE listed→(jH aE.size listed).length≤fuel→zU E R ann N aE fuel (jH aE.size listed) S K→SR H0 ρ0 w0 ann N ρ lam S a w→wpAny E.P .any aE Q fuel listed a w:=by
 have hin:∀{listed:Array Bool} {i:Nat},listed.size=aE.size→i∈Region.ready .any aE listed→i<aE.size∧listed.getD i false=false:=by
  intro listed i hs hi;obtain⟨h0,o,ho,_⟩:=mem_ready.1 hi;have hlt:=(Array.getElem?_eq_some_iff.1 ho).1;exact⟨hlt,by rw[←qi (by omega)];exact h0⟩
 have hmem:∀{listed:Array Bool} {i:Nat},i<aE.size→listed.getD i false=false→i∈jH aE.size listed:=by
  intro listed i h1 h2;unfold jH;rw[List.mem_filter,List.mem_range];exact⟨h1,by rw[h2];rfl⟩
 intro fuel
 induction fuel with
 |zero=>
  intro listed S ρ lam a w hs vC hlen hk h;have Dx:jH aE.size listed=[]:=List.eq_nil_of_length_eq_zero (by omega);rw[Dx] at hk;refine⟨?_,hq _ _ _ _ _ h hk⟩
  cases hr:Region.ready .any aE listed with
  |nil=>rfl
  |cons i l=>
   obtain⟨h1,h2⟩:=hin hs (hr▸List.mem_cons_self .. :i∈Region.ready .any aE listed);have:=hmem h1 h2;rw[Dx] at this;cases this
 |succ fuel ih=>
  intro listed S ρ lam a w hs vC hlen hk h;refine⟨fun hnone=> ?_,fun i hi=> ?_⟩
  ·have hall:∀i,i<aE.size→listed.getD i false=true:=by
    intro i
    induction i using Nat.strongRecOn with
    |_ i ihi=>
     intro hi;cases hl:listed.getD i false
     ·exfalso
      have:i∈Region.ready .any aE listed:=by
       refine mem_ready.2 ⟨by rw[qi (by omega)];exact hl,aE[i],Array.getElem?_eq_getElem hi,fun e he hb=> ?_⟩;have hlt:=nL Rr i aE[i] (by rw[Array.getElem?_toList,Array.getElem?_eq_getElem hi]) e (Array.mem_toList_iff.2 he) hb;exact ihi e.on (by omega) (by omega)
      rw[hnone] at this;cases this
     ·rfl
   have Dx:jH aE.size listed=[]:=by
    unfold jH;rw[List.filter_eq_nil_iff];intro i hi;rw[hall i (List.mem_range.1 hi)];simp
   rw[Dx] at hk;exact hq _ _ _ _ _ h hk
  ·obtain⟨h1,h2⟩:=hin hs hi;obtain⟨_,o,ho,zx⟩:=mem_ready.1 hi
   have T6:yb aE (listed.setIfInBounds i true):=by
    intro j p hp hj e he hb;by_cases hji:i=j
    ·subst hji;rw[ho] at hp;cases hp;exact getD_set_true (zx e (Array.mem_toList_iff.1 he) hb)
    ·rw[getD_set_ne false hji] at hj;exact getD_set_true (vC j p hp hj e he hb)
   have hr:gf (wv aE) (jH aE.size listed) i=true:=by
    rw[o9];intro x hx hm;unfold mw at hx
    cases hb:(wv aE)[i]? with
    |none=>rw[hb] at hx;simp at hx
    |some b=>
     rw[hb] at hx;have:=o7 vC Rr i o b ho hb (fun e he Ov=>zx e (Array.mem_toList_iff.1 he) Ov) x hx;unfold jH at hm;rw[List.mem_filter,this] at hm;simp at hm
   have hstep:=(ZO hR (fuel+1)).1 _ i S K hlen (hmem h1 h2) h1 hr hk;simp only[il,ho,Nat.add_sub_cancel] at hstep;have hd:=o8 (hmem h1 h2);rw[←LW (by omega)] at hstep hd;refine oW hR.ext hR.call hR.body h ho hstep ?_;intro S' ρ' dv a' w' h' hk2;exact ih _ (by simp [hs]) T6 (by omega) hk2 h'
end
section
variable {E:jU} {H0:af} {ρ0:da} {w0:World} {ann:bR} {N:Nat} {ρ lam:da} {S:St} {a:Act} {w:World} {R:lH}
def Za:Ex→Exit
 | .normal=>.normal
 | .exit id=>.exit id
 | .ret=>.ret
theorem tt (hR:mF E R) (hm:E.P.follows .mixedOrders=true) {id:Nat} {aE:Array Oper} {draw:Bool} {Q:Exit→Act→World→Prop} {K:St→Prop} (hok:(!draw||xn E ann aE.toList)=true) (h:SR H0 ρ0 w0 ann N ρ lam S a w) (hk:kL E R ann N aE.toList aE.toList S K) (hq:∀S' ρ' dv a' w',SR H0 ρ0 w0 ann N ρ' dv S' a' w'→K S'→Q .normal a' w'):(Code.region id aE draw).wp E.P Q a w:=by
 rw[Aw aE.toList 0 rfl] at hk;rw[Array.length_toList, ←List.range_eq_range'] at hk
 cases draw with
 |false=>exact wp_region (oY hR _ h hk hq)
 |true=>
  refine wp_region_any hm ?_
  have FU:jH aE.size (Array.replicate aE.size false)=List.range aE.size:=by
   unfold jH;rw[List.filter_eq_self];intro i hi;simp [Array.getD,List.mem_range.1 hi]
  refine GG hR (by simpa using hok) hq aE.size _ (by simp) ?_ (by rw[FU];simp) (by rw[FU];exact hk) (h.drew _);intro i o _ hi;simp [Array.getD] at hi
theorem JS {aE:Array Oper}:fE E R ann N aE.toList=il E R ann N aE:=by
 funext i S K;unfold fE il;rw[Array.getElem?_toList]
 cases aE[i]? with
 |none=>rfl
 |some o=>exact gR
theorem zV (hR:mF E R) (hm:E.P.follows .mixedOrders=true) {id:Nat} {aE:Array Oper} {draw:Bool} {Q:Exit→Act→World→Prop} {K:St→Prop} (h:SR H0 ρ0 w0 ann N ρ lam S a w) (hk:gD E R ann N aE.toList draw S K) (hq:∀S' ρ' dv a' w',SR H0 ρ0 w0 ann N ρ' dv S' a' w'→K S'→Q .normal a' w'):(Code.region id aE draw).wp E.P Q a w:=by
 unfold gD at hk;split at hk
 ·rename_i hok;rw[km] at hk;exact tt hR hm hok h hk hq
 ·rename_i hok;obtain⟨Rr,hk⟩:=aM hk
  have Yl:draw=true:=by
   cases draw with
   |true=>rfl
   |false=>simp at hok
  subst Yl;rw[JS] at hk;refine wp_region_any hm ?_
  have FU:jH aE.size (Array.replicate aE.size false)=List.range aE.size:=by
   unfold jH;rw[List.filter_eq_self];intro i hi;simp [Array.getD,List.mem_range.1 hi]
  refine Eh hR Rr hq aE.size _ (by simp) ?_ (by rw[FU];simp) (by rw[FU];rw[Array.length_toList] at hk;exact hk) (h.drew _);intro i o _ hi;simp [Array.getD] at hi
theorem Ei {kp:Option jb} {A:(Ex→St→Prop)→Prop} {K:Ex→St→Prop} {X:Prop} (hj:vD kp A K) (hA:∀K':Ex→St→Prop,A K'→(∀e S' ρ' dv a' w',SR H0 ρ0 w0 ann N ρ' dv S' a' w'→K' e S'→∃FT,SR H0 ρ0 w0 ann N ρ' dv FT a' w'∧K e FT)→X):X:=by
 unfold vD at hj
 cases kp with
 |none=>exact hA K hj fun e S' ρ' dv a' w' h hk=>⟨S',h,hk⟩
 |some kp=>
  refine hA _ hj ?_;intro e S' ρ' dv a' w' h hk
  cases e with
  |normal=>
   obtain⟨S1,h1,hk⟩:=jG h hk;exact oX h1 hk
  |exit id=>exact⟨S',h,hk⟩
  |ret=>exact⟨S',h,hk⟩
theorem AB {α:Type} {l:List (Nat×α)} {dr:List Nat} {g:Nat→Option α} {t:Nat} {x:α} (h:over l dr g t=some x):ab l t=some x∨(bw t dr=false∧g t=some x):=by
 unfold over at h;split at h
 ·rename_i y hy;cases h;exact .inl hy
 ·cases hm:bw t dr with
  |true=>rw[hm] at h;cases h
  |false=>rw[hm] at h;exact .inr ⟨rfl,h⟩
theorem pe {ok:jb→Bool} {kp:Option jb} {S:St} {A:(Ex→St→Prop)→Prop} {K:Ex→St→Prop} {X:Prop} (hag:∀(kp:jb) (K:Ex→St→Prop),ok kp=true→A K→A fun e S'=>K e S'∧gp kp.wT kp.wL S S') (hj:lI ok kp S A K) (hA:∀K':Ex→St→Prop,A K'→(∀e S' ρ' dv a' w',SR H0 ρ0 w0 ann N ρ' dv S' a' w'→K' e S'→∃FT,SR H0 ρ0 w0 ann N ρ' dv FT a' w'∧K e FT)→X):X:=by
 unfold lI at hj
 cases kp with
 |none=>exact hA K hj fun e S' ρ' dv a' w' h hk=>⟨S',h,hk⟩
 |some kp=>
  simp only[] at hj;split at hj
  ·obtain⟨hok,hj⟩:=aM hj;refine hA _ (hag kp _ hok hj) ?_;rintro e S' ρ' dv a' w' h ⟨hk,ha⟩
   cases e with
   |exit id=>exact⟨S',h,hk⟩
   |ret=>exact⟨S',h,hk⟩
   |normal=>
    have hk:kM (oM kp.cL) (oM kp.iw) S' fun S1=>ag ((kN S1 kp.cL).1&&(kO S1 kp.iw).1)
     (K .normal ⟨over (kN S1 kp.cL).2 kp.wT S.tm,over (kO S1 kp.iw).2 kp.wL S.lo,S1.hp⟩):=hk
    unfold kM at hk;split at hk
    ·rename_i m l hm hl;obtain⟨hr,hk⟩:=aM hk;rw[Bool.and_eq_true] at hr;refine⟨_,h.O4 (S':=⟨over (kN ⟨ab m,ab l,S'.hp⟩ kp.cL).2 kp.wT S.tm,over (kO ⟨ab m,ab l,S'.hp⟩ kp.iw).2 kp.wL S.lo,S'.hp⟩) (fun t x hx=> ?_) (fun t x hx=> ?_) rfl,hk⟩
     ·rcases AB hx with hx|⟨hn,hx⟩
      ·exact rQ hm (rS hr.1 hx)
      ·rw[ha.1 t hn];exact hx
     ·rcases AB hx with hx|⟨hn,hx⟩
      ·exact rR hl (rT hr.2 hx)
      ·rw[ha.2 t hn];exact hx
    ·exact hk.elim
  ·exact Ei hj hA
theorem O8 {S:St} {ρ lam:da} {a:Act} {w:World} {dT dL:List Nat} (h:SR H0 ρ0 w0 ann N ρ lam S a w):SR H0 ρ0 w0 ann N ρ lam (qF dT dL S) a w:=by
 refine h.O4 (fun t x hx=> ?_) (fun t x hx=> ?_) rfl
 ·simp only[qF] at hx
  cases hm:bw t dT with
  |true=>rw[hm] at hx;cases hx
  |false=>rw[hm] at hx;exact hx
 ·simp only[qF] at hx
  cases hm:bw t dL with
  |true=>rw[hm] at hx;cases hx
  |false=>rw[hm] at hx;exact hx
theorem ye {f:FuncId} {fn:Func} (hR:mF E R) (hm:E.P.follows .mixedOrders=true) (hf:E.P.funcs[f]? =some fn) (abk:ann=E.ann f) (hN:N=fn.ntmps):∀(c:Code) (n:Nat) (S:St) (K:Ex→St→Prop) (ρ lam:da) (a:Act) (w:World) (Q:Exit→Act→World→Prop),fV E R f ann N c n S K→SR H0 ρ0 w0 ann N ρ lam S a w→(∀e S' ρ' dv a' w',SR H0 ρ0 w0 ann N ρ' dv S' a' w'→K e S'→Q (Za e) a' w')→c.wp E.P Q a w:=by
 intro c
 induction c with
 |skip=>intro n S K ρ lam a w Q hx h hq;exact wp_skip (hq .normal _ _ _ _ _ h hx)
 |seq x y ihx ihy=>
  intro n S K ρ lam a w Q hx h hq;refine wp_seq (ihx n S _ ρ lam a w _ hx h ?_);intro e S' ρ' dv a' w' h' hk
  cases e with
  |normal=>exact ihy _ _ _ _ _ _ _ _ hk h' hq
  |exit id=>exact hq (.exit id) _ _ _ _ _ h' hk
  |ret=>exact hq .ret _ _ _ _ _ h' hk
 |cond c x y ihx ihy=>
  intro n S K ρ lam a w Q hx h hq;simp only[fV] at hx;split at hx
  ·rename_i t ht;have hb:=(h.ev.tv ht).B2;refine pe (H0:=H0) (ρ0:=ρ0) (w0:=w0) (ann:=ann) (N:=N) ?_ hx ?_
   ·intro kp K hok;rw[Bool.and_eq_true] at hok;exact eJ (rV hR.mono x _ _ _ hok.1) (rV hR.mono y _ _ _ hok.2)
   intro K' hx hK
   have Zr:∀e S' ρ' dv a' w',SR H0 ρ0 w0 ann N ρ' dv S' a' w'→K' e S'→Q (Za e) a' w':=by
    intro e S' ρ' dv a' w' h' hk;obtain⟨FT,h'',Ow⟩:=hK e S' ρ' dv a' w' h' hk;exact hq e _ _ _ _ _ h'' Ow
   rcases gg hx with⟨rfl,hx⟩|⟨rfl,hx⟩
   ·exact wp_cond_true hb (ihx _ _ _ _ _ _ _ _ hx h Zr)
   ·exact wp_cond_false hb (ihy _ _ _ _ _ _ _ _ hx h Zr)
  ·exact hx.elim
 |block id b ih=>
  intro n S K0 ρ lam a w Q hx h hq;simp only[fV] at hx;refine pe (H0:=H0) (ρ0:=ρ0) (w0:=w0) (ann:=ann) (N:=N) ?_ hx ?_
  ·intro kp K hok hx;refine gE hR.mono b _ _ _ _ ?_ (rV hR.mono b _ _ _ hok hx);rintro e S' ⟨hk,ha⟩
   cases e with
   |normal=>exact⟨hk,ha⟩
   |ret=>exact⟨hk,ha⟩
   |exit j=>exact eJ (fun h=>⟨h,ha⟩) (fun h=>⟨h,ha⟩) hk
  intro K hx hK;have hq0:=hq
  have hq:∀e S' ρ' dv a' w',SR H0 ρ0 w0 ann N ρ' dv S' a' w'→K e S'→Q (Za e) a' w':=by
   intro e S' ρ' dv a' w' h' hk;obtain⟨FT,h'',Ow⟩:=hK e S' ρ' dv a' w' h' hk;exact hq0 e _ _ _ _ _ h'' Ow
  refine wp_block (ih n S _ ρ lam a w _ hx h ?_);intro e S' ρ' dv a' w' h' hk
  cases e with
  |normal=>exact hq .normal _ _ _ _ _ h' hk
  |exit j=>
   simp only[Za,Exit.inBlock];rcases gg hk with⟨hj,hk⟩|⟨hj,hk⟩
   ·rw[if_pos (Nat.eq_of_beq_eq_true hj)];exact hq .normal _ _ _ _ _ h' hk
   ·rw[if_neg (fun e=>by rw[e,Nat.beq_refl] at hj;cases hj)];exact hq (.exit j) _ _ _ _ _ h' hk
  |ret=>exact hq .ret _ _ _ _ _ h' hk
 |loop c ih=>
  intro n S K ρ lam a w Q hx h hq;simp only[fV] at hx;split at hx
  ·rename_i kp hkp;obtain⟨S0,h0,hx⟩:=jG h hx;subst abk;subst hN;refine LV (hR.loop _ _ _ _ _ _ hx fn H0 ρ0 w0 ρ lam a w Q hf h0 ?_ ?_)
   ·intro S' ρ' dv a' w' h' hk;obtain⟨FT,h'',hk⟩:=oX h' hk;exact hq .ret _ _ _ _ _ h'' hk
   ·intro id S' ρ' dv a' w' h' hk;obtain⟨FT,h'',hk⟩:=tc h' hk;exact hq (.exit id) _ _ _ _ _ h'' hk
  ·exact hx.elim
 |exit id=>intro n S K ρ lam a w Q hx h hq;exact wp_exit (hq (.exit id) _ _ _ _ _ h hx)
 |ret=>intro n S K ρ lam a w Q hx h hq;exact wp_ret (hq .ret _ _ _ _ _ h hx)
 |region id aE draw=>
  intro n S K ρ lam a w Q hx h hq;simp only[fV] at hx
  have old:∀kp:Option jb,lI (fun kp=>jg E ann kp.wT kp.wL aE.toList) kp S (fun K=>gD E R ann N aE.toList draw S (K .normal)) K→(Code.region id aE draw).wp E.P Q a w:=by
   intro kp hx;refine pe (H0:=H0) (ρ0:=ρ0) (w0:=w0) (ann:=ann) (N:=N) ?_ hx ?_
   ·intro kp K hok hx;exact ma hR.mono hok hx
   intro K' hx hK;refine zV hR hm h hx ?_;intro S' ρ' dv a' w' h' hk;obtain⟨FT,h'',Ow⟩:=hK .normal S' ρ' dv a' w' h' hk;exact hq .normal _ _ _ _ _ h'' Ow
  revert hx;split
  ·exact old none
  ·rename_i kp _;split
   ·intro hx;obtain⟨hok,hx⟩:=aM hx;have hx:=xY hR.mono _ hx;rw[km] at hx;refine tt hR hm hok h hx ?_;intro S' ρ' dv a' w' h' hk;exact hq .normal _ _ _ _ _ (O8 h') hk
   ·exact old (some kp)
 |rangeFunc=>intro n S K ρ lam a w Q hx;exact hx.elim
 |scope b ih=>
  intro n S K ρ lam a w Q hx h hq;simp only[fV] at hx;refine wp_scope_straight (ih _ _ _ _ _ _ _ _ hx h ?_);intro e S' ρ' dv a' w' h' hk;have:=hq e S' ρ' dv a' w' h' hk;cases e<;>exact this
 |label l=>
  intro n S K ρ lam a w Q hx h hq;simp only[fV] at hx;exact wp_label (hq .normal _ _ _ _ _ h hx)
 |goto=>intro n S K ρ lam a w Q hx;exact hx.elim
 |refuse=>intro n S K ρ lam a w Q hx;exact hx.elim
end
section
variable {E:jU} {H0:af} {ρ0:da} {w0:World} {ann:bR} {N:Nat} {ρ lam:da} {S:St} {a:Act} {w:World} {R:lH}
def kW (tmps:Array Value):ResultVar→Sem Value
 | .tmp t=>pure (tmps.getD t undef)
 | .cell a t=>do loadVar t (←asAddr (tmps.getD a undef))
theorem yf {e:Operand→Value} {t:TypeId} {x:Operand} {dst:Option Tmp} {type:TypeId} {iU:String} {after:Array Edge} {guard:Option (Nat×Bool)} {v:Value} (h:(execOp e ⟨dst,.load t x,type,iU,after,guard⟩).run E.P w=.ok (.value v) w):(Instr.loadAt t (e x)).run E.P w=.ok v w:=by
 simp only[execOp,Sem.run_bind] at h
 cases hr:(Instr.loadAt t (e x)).run E.P w with
 |ok y w'=>
  rw[hr] at h;simp only[Result.andThen_ok,Sem.run_pure,Result.ok.injEq,Next.value.injEq] at h;rw[h.1,h.2]
 |halt y w'=>rw[hr] at h;simp at h
theorem zW (h:SR H0 ρ0 w0 ann N ρ lam S a w) {r:ResultVar} {K:V→Prop} (hk:lJ E S r K):∃x v,(kW a.tmps r).run E.P w=.ok v w∧VR ρ x v∧K x:=by
 unfold lJ at hk;split at hk
 ·rename_i t;split at hk
  ·rename_i x hx;have ht:=h.tm t _ hx;generalize hq:a.tmps.getD t undef=q at ht
   cases ht with
   |v hv=>exact⟨x,q,by simp only[kW,hq];rfl,hv,hk⟩
  ·exact hk.elim
 ·rename_i ad t;split at hk
  ·rename_i s off hs;split at hk
   ·rename_i el cs hlo;split at hk
    ·rename_i r v hv;obtain⟨hr,hk⟩:=aM hk;obtain⟨b,hb,hc,_⟩:=h.lo s _ hlo;obtain⟨b',hb',he⟩:=h.ev.lp (x:=.tmp ad) hs;rw[hb] at hb';cases hb';obtain⟨v',h1,h2⟩:=nK (E:=E) hc hv hr (fun _ _=>.inl rfl);have he':a.tmps.getD ad undef=.pointer (some ⟨b,off,none⟩):=he;exact⟨v,v',by simp only[kW,he',asAddr,Sem.run_bind,Sem.run_pure,Result.andThen_ok,h1],h2,hk⟩
    ·exact hk.elim
   ·exact hk.elim
  ·split at hk
   ·rename_i d hd;obtain⟨hr,hk⟩:=fC.eK hk;obtain⟨v,h1,h2⟩:=vO (o:=⟨none,.load t (.tmp ad),0, "", #[],none⟩) (w:=w) h.ev h.hr hd hr;have h3:=yf h1;split at hk
    ·rename_i y hy;rw[hy] at h2
     cases h2 with
     |v hv=>
      refine⟨y,v, ?_,hv,hk⟩;simp only[Instr.loadAt,Sem.run_bind] at h3;simp only[kW,Sem.run_bind];change _=_ at h3
      have he:a.eval (.tmp ad)=a.tmps.getD ad undef:=rfl;rw[he] at h3;generalize a.tmps.getD ad undef=q at h3⊢
      cases q with
      |pointer p=>cases p with
       |some p=>exact h3
       |none=>simp [Instr.sureAddr] at h3
      |_=>simp [Instr.sureAddr] at h3
    ·exact hk.elim
   ·exact hk.elim
theorem pf (h:SR H0 ρ0 w0 ann N ρ lam S a w):∀{l:List ResultVar} {K:List V→Prop},my E S l K→∃xs vs,(l.mapM (kW a.tmps)).run E.P w=.ok vs w∧ej ρ xs vs∧K xs
 |[],K,hk=>⟨[],[],by simp,.nil ρ,hk⟩
 |r::l,K,hk=>by
  obtain⟨x,v,h1,h2,hk⟩:=zW h hk;obtain⟨xs,vs,h3,h4,hk⟩:=pf h hk;exact⟨x::xs,v::vs,by simp only[List.mapM_cons,Sem.run_bind,h1,h3,Result.andThen_ok,Sem.run_pure],.cons h2 h4,hk⟩
theorem GH (h:SR H0 ρ0 w0 ann N ρ lam S a w) {fn:Func} {K:V→af→Prop} (hk:JD E fn K S):∃x v,(results fn a.tmps).run E.P w=.ok v w∧VR ρ x v∧K x S.hp:=by
 obtain⟨xs,vs,h1,h2,hk⟩:=pf h hk
 have hrun:(results fn a.tmps).run E.P w=.ok (if h:vs.toArray.size=1 then vs.toArray[0] else .tuple vs.toArray) w:=by
  have h0:results fn a.tmps=(fn.results.mapM (kW a.tmps)) >>= fun vs=>pure (if h:vs.size=1 then vs[0] else .tuple vs):=by
   unfold results;congr 1
  have h':(fn.results.mapM (kW a.tmps)).run E.P w=.ok vs.toArray w:=by
   rw[←Array.toArray_toList (xs:=fn.results),List.mapM_toArray];simp only[Sem.run_map,h1,Result.andThen_ok]
  rw[h0,Sem.run_bind,h'];rfl
 cases xs with
 |nil=>rw[h2.fW] at hrun;exact⟨.tuple [],.tuple #[],by simpa using hrun,.gk (.nil ρ),hk⟩
 |cons x l=>
  obtain⟨v,m,rfl,h3,h4⟩:=h2.cT
  cases l with
  |nil=>
   rw[h4.fW] at hrun;exact⟨x,v,by simpa using hrun,h3,hk⟩
  |cons y l=>
   have hl:(v::m).toArray.size≠1:=by have:=h2.1;simp at this⊢;intro e;rw[e] at this;simp at this
   rw[dif_neg hl] at hrun;exact⟨.tuple (x::y::l),.tuple (v::m).toArray,hrun,.gk (by simpa using h2),hk⟩
theorem rW:∀{l:List V} {j t:Nat} {x:T},DQ l j t=some x→∃v,x=.v v∧j≤t∧l[t-j]? =some v
 |[],j,t,x,h=>by cases h
 |v::l,j,t,x,h=>by
  simp only[DQ,aP] at h;by_cases he:t=j
  ·simp only[he,decide_true,cond_true,Option.some.injEq] at h;exact⟨v,h.symm,by omega,by simp [he]⟩
  ·simp only[he,decide_false,cond_false] at h;obtain⟨u,h1,h2,h3⟩:=rW h;refine⟨u,h1,by omega, ?_⟩;rw[show t-j=t-(j+1)+1 by omega];simpa using h3
theorem Cq (hR:mF E R) (hm:E.P.follows .mixedOrders=true) {f:FuncId} {args:List V} {H:af} {K:V→af→Prop} (h:(F E R).call f args H K):ij E f args H K∧∃fn,E.P.funcs[f]? =some fn∧fn.body.isSome=true:=by
 simp only[F] at h;split at h
 ·rename_i fn hf;have hf:=E.fn_ok f fn hf;split at h
  ·rename_i c hb;obtain⟨hn,hx⟩:=aM h;refine⟨?_,fn,hf,by rw[hb];rfl⟩;intro ρ w aS hr has
   have hlen:aS.size≤fn.ntmps:=by
    have h1:=has.1;have h2:=Nat.le_of_ble_eq_true hn;simp at h1;omega
   have Yo:SR H ρ w (E.ann f) fn.ntmps ρ (fun _=>none) ⟨DQ args 0,fun _=>none,H⟩ {tmps:=aS++Array.replicate (fn.ntmps-aS.size) undef,defers:=[]} w:=by
    refine⟨rfl,by simp;omega, ?_, ?_,(fun s L hL=>by cases hL),(fun s s' L L' b hL=>by cases hL),hr,.refl H ρ w⟩
    ·intro t x hx;obtain⟨v,rfl,_,h2⟩:=rW hx;rw[Nat.sub_zero] at h2
     have hlt:t<args.length:=by
      rcases Nat.lt_or_ge t args.length with h|h
      ·exact h
      ·rw[List.getElem?_eq_none h] at h2;cases h2
     have hlt':t<aS.size:=by have:=has.1;simp at this;omega
     refine .v (has.2 t v _ h2 ?_);rw[Array.getD_eq_getD_getElem?,Array.getElem?_append_left hlt',Array.getElem?_eq_getElem hlt'];simp [hlt']
    ·intro t s off hx;obtain⟨v,h1,_⟩:=rW hx;cases h1
   refine calls_of_wp hf hb (ye (H0:=H) (ρ0:=ρ) (w0:=w) hR hm hf rfl rfl c 0 _ _ _ _ _ _ _ hx Yo ?_);intro e S' ρ' dv a' w' h' hk
   have key:JD E fn K S'→a'.defers=[]∧∃v,(results fn a'.tmps).run E.P w'=.ok v w'∧xL H ρ w K (.returned v) w':=by
    intro hk;obtain⟨x,v,h1,h2,h3⟩:=GH h' hk;exact⟨h'.defers,v,h1,x,v,S'.hp,ρ',rfl,h3,h2,h'.hr,h'.bN⟩
   cases e with
   |normal=>exact key hk
   |exit id=>exact hk.elim
   |ret=>exact key hk
  ·exact h.elim
 ·exact h.elim
theorem Cs (hR:mF E R) (hm:E.P.follows .mixedOrders=true) {c:Code} {f:FuncId} {n:Nat} {S:St} {Kr:St→Prop} {Ke:Nat→St→Prop} (h:(F E R).loop c f n S Kr Ke):mE E c f S Kr Ke:=by
 simp only[F] at h;split at h
 ·rename_i fn kp hf hkp;have hf:=E.fn_ok f fn hf;intro fn' H0 ρ0 w0 ρ lam a w Q hf' Yo hr he;rw[hf] at hf';cases hf';refine Gx (ye (H0:=H0) (ρ0:=ρ0) (w0:=w0) hR hm hf rfl rfl c _ _ _ _ _ _ _ _ h Yo ?_);intro e S' ρ' dv a' w' h' hk
  cases e with
  |normal=>
   obtain⟨S0,h0,hk⟩:=jG h' hk;exact hR.loop _ _ _ _ _ _ hk fn H0 ρ0 w0 ρ' dv a' w' Q hf h0 hr he
  |exit id=>
   obtain⟨S0,h0,hk⟩:=jG h' hk;exact he id _ _ _ _ _ h0 hk
  |ret=>
   obtain⟨S0,h0,hk⟩:=jG h' hk;exact hr _ _ _ _ _ h0 hk
 ·exact h.elim
theorem AD (hX:jF E) (hm:E.P.follows .mixedOrders=true):mF E (p8 E):=by
 have mono_call:∀{f:FuncId} {args:List V} {H:af} {K K':V→af→Prop},(∀v H',K v H'→K' v H')→ij E f args H K→ij E f args H K':=by
  intro f args H K K' hk h ρ w aS hr has;refine(h ρ w aS hr has).mono ?_;rintro e w' ⟨v,v',H',ρ',h1,h2,h3⟩;exact⟨v,v',H',ρ',h1,hk _ _ h2,h3⟩
 have mono_loop:∀{c:Code} {f:FuncId} {S:St} {Kr Oa:St→Prop} {Ke Oc:Nat→St→Prop},(∀S,Kr S→Oa S)→(∀i S,Ke i S→Oc i S)→mE E c f S Kr Ke→mE E c f S Oa Oc:=by
  intro c f S Kr Oa Ke Oc h1 h2 h fn H0 ρ0 w0 ρ lam a w Q hf Yo hr he;exact h fn H0 ρ0 w0 ρ lam a w Q hf Yo (fun S' ρ' dv a' w' h' hk=>hr S' ρ' dv a' w' h' (h1 _ hk)) (fun id S' ρ' dv a' w' h' hk=>he id S' ρ' dv a' w' h' (h2 _ _ hk))
 let G:lH:=
  {call:=fun f args H K=>(p8 E).call f args H K∧ij E f args H K∧∃fn,E.P.funcs[f]? =some fn∧fn.body.isSome=true
   loop:=fun c f n S Kr Ke=>(p8 E).loop c f n S Kr Ke∧mE E c f S Kr Ke}
 have hGR:G.le (p8 E):=⟨fun f args H K K' hk h=>mz.call _ _ _ _ _ hk h.1,fun c f n S Kr Oa Ke Oc h1 h2 h=>mz.loop _ _ _ _ _ _ _ _ h1 h2 h.1⟩
 have Zt:G.le G:=⟨fun f args H K K' hk h=>⟨mz.call _ _ _ _ _ hk h.1,mono_call hk h.2.1,h.2.2⟩,
  fun c f n S Kr Oa Ke Oc h1 h2 h=>⟨mz.loop _ _ _ _ _ _ _ _ h1 h2 h.1,mono_loop h1 h2 h.2⟩⟩
 have hGs:mF E G:=⟨fun f args H K h=>h.2.1,fun f args H K h=>h.2.2,fun c f n S Kr Ke h=>h.2,Zt,
  ⟨fun f args H K h=>rJ.call _ _ _ _ h.1,fun c f n S Kr Ke h=>rJ.loop _ _ _ _ _ _ h.1⟩,hX⟩
 have hFG:(F E G).le G:=
  ⟨fun f args H K K' hk h=>Zt.call _ _ _ _ _ hk ⟨oP.call _ _ _ _ _ (fun _ _=>id) ((uI hGR).call _ _ _ _ _ (fun _ _=>id) h),Cq hGs hm h⟩,
   fun c f n S Kr Oa Ke Oc h1 h2 h=>Zt.loop _ _ _ _ _ _ _ _ h1 h2 ⟨oP.loop _ _ _ _ _ _ _ _ (fun _=>id) (fun _ _=>id) ((uI hGR).loop _ _ _ _ _ _ _ _ (fun _=>id) (fun _ _=>id) h),Cs hGs hm h⟩⟩
 have hle:=xp Zt hFG
 exact⟨fun f args H K h=>(hle.call _ _ _ _ _ (fun _ _=>id) h).2.1,fun f args H K h=>(hle.call _ _ _ _ _ (fun _ _=>id) h).2.2,
  fun c f n S Kr Ke h=>(hle.loop _ _ _ _ _ _ _ _ (fun _=>id) (fun _ _=>id) h).2,mz,rJ,hX⟩
#print axioms AD
end
def jJ:Code→Nat→Nat→Option Code
 | .seq a b,n,m=>match jJ a n m with|some c=>some c|none=>jJ b (n+dO a) m
 | .cond _ a b,n,m=>match jJ a (n+1) m with|some c=>some c|none=>jJ b (n+1+dO a) m
 | .block _ b,n,m=>jJ b n m
 | .scope b,n,m=>jJ b n m
 | .loop b,n,m=>bif Nat.beq n m then some b else jJ b (n+1) m
 |_,_,_=>none
def LX (E:jU) (f n:Nat):Code:=
 match E.fn f with
 |some fn=>match fn.body with|some c=>(jJ c 0 n).getD .skip|none=>.skip
 |none=>.skip
theorem aQ {i:Nat} (h:(i:Int)+1≤9223372036854775807):IntKind.i64.wrap ((i:Int)+1)=((i+1:Nat):Int):=by
 rw[IntWalk.i64_in _ (by omega)];omega
theorem bD {x:Int} (h: -9223372036854775808≤x) (h':x≤9223372036854775807):IntKind.i64.wrap x=x:=IntWalk.i64_in _ ⟨h,h'⟩
@[simp] theorem au (X Y:Prop):br true X Y=X:=rfl
@[simp] theorem ai (X Y:Prop):br false X Y=Y:=rfl
@[simp] theorem ay (X:Prop):ag true X=X:=rfl
@[simp] theorem UE (X:Prop):ag false X=False:=rfl
theorem Ct (c:Bool) (X Y:Prop):br c X Y=if c=true then X else Y:=by cases c<;>rfl
@[simp] theorem dD {α:Type} (A:(α→Prop)→Prop) (Q:α→Prop):cC A Q=A Q:=rfl
@[simp] theorem jx (a b:Nat):Nat.beq a b=decide (a=b):=aP
@[simp] theorem lO (a b:Nat):Nat.ble a b=decide (a≤b):=by
  cases h:Nat.ble a b with
  |true=>simpa using Nat.le_of_ble_eq_true h
  |false=>exact(decide_eq_false fun hle=>by rw[Nat.ble_eq_true_of_le hle] at h;cases h).symm
@[simp] theorem kX {α:Type} (n:Nat):ab ([]:List (Nat×α)) n=none:=rfl
@[simp] theorem im {α:Type} (k n:Nat) (x:α) (l:List (Nat×α)):ab ((k,x)::l) n=if n=k then some x else ab l n:=by
  simp only[ab,jx];by_cases h:n=k<;>simp [h]
@[simp] theorem Zb (x:V):T.val (some (.v x))=x:=rfl
abbrev PS:=St→Prop
def tv (S:St) (n:Nat):V:=T.val (S.1 n)
theorem TV:(∀(S:St) (n:Nat),tv S n=T.val (S.1 n))∧∀x:V,T.val (some (T.v x))=x:=⟨fun _ _=>rfl,fun _=>rfl⟩
@[simp] theorem mc (k:bY) (x:V):aI (.k k) (some (.v x))=x.av k:=rfl
@[simp] theorem pj (ks:List bY) (x:V):aI (.agg ks) (some (.v x))=(x.isAgg&&aJ ks x.ah):=rfl
@[simp] theorem tu (s:Nat):aI (.lp s) (some (.lp s 0))=true:=by simp [aI]
@[simp] theorem uU (e:Nat) (ks:List bY) (cs:List V):fg e ks (some (.cells e cs))=aJ ks cs:=by simp [fg]
@[simp] theorem ib (e:Nat) (cs:List V):aw (some (.cells e cs))=cs:=rfl
@[simp] theorem eF (x:V) (l:List V):ae (x::l) 0=x:=rfl
@[simp] theorem iH (x y:V) (l:List V):ae (x::y::l) 1=y:=rfl
@[simp] theorem pk (x y z:V) (l:List V):ae (x::y::z::l) 2=z:=rfl
@[simp] theorem gr (l:List V):V.aq (.tuple l)=l:=rfl
@[simp] theorem cY (l:List V):V.ah (.agg l)=l:=rfl
@[simp] theorem fl (l:List V):V.isAgg (.agg l)=true:=rfl
@[simp] theorem bI (k:IntKind) (x:Int):V.aa (.int k x)=x:=rfl
@[simp] theorem cn (b:Bool):V.ax (.bool b)=b:=rfl
@[simp] theorem kY (b:ByteArray):V.Gb (.ea b)=b:=rfl
@[simp] theorem jj (b:Oq):V.an (.aj b)=b:=rfl
@[simp] theorem cy (p:Oq) (n c:Nat):V.ak (.slice p n c)=p:=rfl
@[simp] theorem bV (p:Oq) (n c:Nat):V.ao (.slice p n c)=n:=rfl
@[simp] theorem cz (p:Oq) (n c:Nat):V.aA (.slice p n c)=c:=rfl
@[simp] theorem dW (k:IntKind) (x:Int):V.av (.int k) (.int k x)=true:=by simp [V.av]
@[simp] theorem gS (b:Bool):V.av .bool (.bool b)=true:=rfl
@[simp] theorem tw (b:ByteArray):V.av .ea (.ea b)=true:=rfl
@[simp] theorem qm (b:Oq):V.av .aj (.aj b)=true:=rfl
@[simp] theorem dH (p:Oq) (n c:Nat):V.av .slice (.slice p n c)=true:=rfl
@[simp] theorem dZ (n:Nat) (l:List V):V.aL n (.tuple l)=decide (l.length=n):=by
  by_cases h:l.length=n<;>simp [V.aL,h]
@[simp] theorem UF (c:Bool) (a b:V):cS c a b=if c=true then a else b:=by rw[mu]
def AE (args:List V) (H:af) (K:V→af→Prop):Prop:=
 match args with
 |[.slice (some (i,o)) la _,.slice (some (j,_)) lb _]=>
  i≠j∧0<la∧0<lb∧(∃e cs,H.get i=some (.cells e cs false)∧o<cs.length)∧(∃e cs ro,H.get j=some (.cells e cs ro))∧K (.bool true) H∧K (.bool false) H
 |_=>False
theorem JT {args:List V} {H:af} {K:V→af→Prop} (h:AE args H K):∃i o la ca j o' lb cb,args=[.slice (some (i,o)) la ca,.slice (some (j,o')) lb cb]∧i≠j∧0<la∧0<lb∧(∃e cs,H.get i=some (.cells e cs false)∧o<cs.length)∧(∃e cs ro,H.get j=some (.cells e cs ro))∧K (.bool true) H∧K (.bool false) H:=by
 unfold AE at h;split at h
 ·exact⟨_,_,_,_,_,_,_,_,rfl,h⟩
 ·exact h.elim
def Ej:Y9 where
 run:=AE
 mono args H K K' h hk:=by
  unfold AE at hk⊢;split at hk
  ·obtain⟨a,b,c,d,e,f,g⟩:=hk;exact⟨a,b,c,d,e,h _ _ f,h _ _ g⟩
  ·exact hk
 uE args H K hk:=by
  unfold AE at hk;split at hk
  ·obtain⟨a,b,c,d,e,f,g⟩:=hk;exact⟨_,_,f⟩
  ·exact hk.elim
theorem HR.heap {ρ:da} {H:af} {w w':World} (h:HR ρ H w) (he:w'.heap=w.heap):HR ρ H w':=
 ⟨fun id o hg=>by rw[he];exact h.vK id o hg,h.inj,fun id b hb=>by rw[he];exact h.lt id b hb,h.gl⟩
theorem Cu {P:Program} {w:World} {tS tR e:TypeId} (ht:P.underlying tS=some (.slice e)) {size:Nat} (hz:∀w,(Go.sizeOf e).run P w=.ok size w) {a b:Addr} {la ca lb cb:Nat} (hne:a.block≠b.block) {tA tB:TypeId} {kA kB:Nat} (hsa:w.shape? a.block=some (tA,kA)) (hsb:w.shape? b.block=some (tB,kB)) (Ox:w.frozen? a=false):∃r w',(Extern.SlicesOverlaps.overlaps #[tS,tS] #[tR] #[.slice (some a) la ca,.slice (some b) lb cb]).run P w=.ok (.bool r) w'∧(w'=w∨w'=w.drew):=by
 have hnb:(a.block != b.block)=true:=by simpa using hne
 have Yp:(a.block == b.block)=false:=by simpa using hne
 change∃r w',Sem.run P (α:=Value) (do
  let some t:=(#[tS,tS]:Array TypeId)[0]? |stuck "slices.overlaps: no parameter types"
  let .slice elem←underlying t|stuck "slices.overlaps: slice type expected"
  let size←sizeOf elem
  match (some a:Option Addr),(some b:Option Addr) with
  |some a,some b=>
   if la=0∨lb=0∨size=0 then pure (Value.bool false)
   else if a.block != b.block&&(←frozen a)&&(←frozen b) then unsupported .addressObserved
   else do
    if a.block != b.block then do
     noView a;noView b
     if←mayBeOne a b then return Value.bool ((←choose (.extern "sameAddr.stringBytes" 2)) == 1)
    pure (Value.bool (a.block == b.block&&a.off<b.off+lb*size&&b.off<a.off+la*size))
  |_,_=>pure (Value.bool false)) w=.ok (.bool r) w'∧(w'=w∨w'=w.drew)
 by_cases h0:la=0∨lb=0∨size=0
 ·exact⟨false,w,by simp [run_underlying ht,hz,h0],.inl rfl⟩
 ·have hm:∃m,(mayBeOne a b).run P w=.ok m w:=by
   cases OK:w.frozen? b<;>cases hf2:w.frozen? ⟨a.block,kA,none⟩<;>cases hf3:w.frozen? ⟨b.block,kB,none⟩<;>cases kA<;>cases kB<;>
    exact⟨_,by simp [mayBeOne,stringish,shape,frozen,Sem.run,hsa,hsb,Ox,OK,hf2,hf3];rfl⟩
  obtain⟨m,hm⟩:=hm
  cases m with
  |false=>exact⟨_,w,by simp [run_underlying ht,hz,h0,hnb,Yp,frozen,noView,viewAt,shape,Sem.run,hsa,hsb,Ox,hm];rfl,.inl rfl⟩
  |true=>exact⟨_,w.drew,by simp [run_underlying ht,hz,h0,hnb,Yp,frozen,noView,viewAt,shape,Sem.run,hsa,hsb,Ox,hm,Question.forced];rfl,.inr rfl⟩
def ZP (P:Program) (g:Nat):Prop:=∃fn tS tR e,P.funcs[g]? =some fn∧(fn.name == "runtime.NumGoroutine")=false∧fn.body.isNone=true∧Extern.findNext fn=none∧
 Extern.find fn=some (Extern.SlicesOverlaps.overlaps #[tS,tS] #[tR])∧P.underlying tS=some (.slice e)∧(P.info? e).isSome=true
inductive XK where
 |overlaps
def Vi (P:Program):XK→Y9
 | .overlaps=>Ej
def ZQ (P:Program) (g:Nat):XK→Prop
 | .overlaps=>ZP P g
def GI (P:Program) (l:List (Nat×XK)) (g:Nat):Option Y9:=(ab l g).map (Vi P)
theorem JU {E:jU} {l:List (Nat×XK)} (he:E.ext=GI E.P l) (hl:∀g k,ab l g=some k→ZQ E.P g k):jF E:=by
 intro g x hx args H K hk ρ w aS hr ha;rw[he,GI] at hx
 cases hm:ab l g with
 |none=>rw[hm] at hx;cases hx
 |some k=>
  rw[hm] at hx;simp only[Option.map_some,Option.some.injEq] at hx;subst hx;have hok:=hl g k hm
  cases k with
  |overlaps=>
  obtain⟨fn,tS,tR,e,h1,h2,h3,h4,h5,h6,h7⟩:=hok;obtain⟨cU,h7⟩:=Option.isSome_iff_exists.1 h7;left;obtain⟨i,o,la,ca,j,o',lb,cb,rfl,hij,hla,hlb,⟨e1,cs1,Qo,ho⟩,⟨e2,Zo,ro,HC⟩,FP,hkf⟩:=JT hk;obtain⟨x1,r1,Ae,hx1,nk⟩:=ha.cT;obtain⟨x2,r2,Ad,ux,sy⟩:=nk.cT;have Oe:=sy.fW;subst Oe;subst Ad
  obtain rfl:aS= #[x1,x2]:=by
   apply Array.ext';rw[Ae]
  obtain⟨b1,xe,Yq,fz1,FJ,oF,_,hfz⟩:=hr.vK i _ Qo;obtain⟨b2,mj,abl,fz2,FK,_⟩:=hr.vK j _ HC
  have hne:b1≠b2:=by
   intro hb;subst hb;exact hij (hr.inj i j _ _ b1 Qo HC rfl xe mj)
  rcases hx1.eO with⟨b,hb,rfl⟩|⟨h0,_⟩;rotate_left
  ·omega
  rcases ux.eO with⟨b',hb',rfl⟩|⟨h0,_⟩;rotate_left
  ·omega
  rw[xe] at hb;rw[mj] at hb';cases hb;cases hb';have hlen:Yq.size=cs1.length:=by have:=oF.1;simp at this;omega
  have Ox:w.frozen? ⟨b1,o,none⟩=false:=by
   simp only[World.frozen?,FJ];rcases hfz rfl with h|h
   ·rw[h];by_cases hh:fz1.2≤o
    ·have:¬o<fz1.2:=by omega
     simp [this]
    ·simp [hh]
   ·have:¬fz1.1≤o:=by omega
    simp [this]
  obtain⟨r,w',hrun,hw⟩:=Cu (P:=E.P) (w:=w) (tR:=tR) h6 (size:=cU.size) (fun w=>by simp [sizeOf,typeInfo,h7]) (a:=⟨b1,o,none⟩) (b:=⟨b2,o',none⟩) (la:=la) (ca:=ca) (lb:=lb) (cb:=cb) hne
   (tA:=e1) (kA:=Yq.size) (tB:=e2) (kB:=abl.size) (by simp [World.shape?,FJ]) (by simp [World.shape?,FK]) Ox
  have hK:K (.bool r) H:=by cases r<;>assumption
  have Yr:w'.heap=w.heap:=by rcases hw with rfl|rfl<;>rfl
  refine⟨.bool r,.bool r,w',H,ρ, ?_,hK,.bool _,hr.heap Yr, ?_⟩
  ·rw[run_callFunc_extern h1 h2 h3 h4 h5,hrun];rfl
  ·rcases hw with rfl|rfl
   ·exact .refl ..
   ·exact⟨.refl ρ,fun _ _ _=>rfl,fun _ h=>.inl h,fun _ h=>.inl h,Nat.le_refl _,rfl,rfl,rfl⟩
end Go.Am
end
section
namespace Go.Proofs.YtlgdkndamddpkaaGreat
open Go.Am
def fz:TI:=⟨.func,1,8,some .nilFunc⟩
def Zc:List TI:=[⟨.tuple [],1,0,none⟩,fz,⟨.int .i64,1,8,some (.int .i64 0)⟩,⟨.int .i64,1,8,some (.int .i64 0)⟩,⟨.bool,1,1,some (.bool false)⟩,⟨.int .u8,1,1,some (.int .u8 0)⟩,⟨.int .u8,1,1,some (.int .u8 0)⟩,⟨.struct [(0,2),(1,3),(2,4),(3,6)],4,24,some (.agg [.int .i64 0,.int .i64 0,.bool false,.int .u8 0])⟩,⟨.struct [(0,2),(1,3),(2,4),(3,6)],4,24,some (.agg [.int .i64 0,.int .i64 0,.bool false,.int .u8 0])⟩,⟨.ea,1,16,some (.ea ⟨#[]⟩)⟩,⟨.ea,1,16,some (.ea ⟨#[]⟩)⟩,⟨.ea,1,16,some (.ea ⟨#[]⟩)⟩,⟨.int .u64,1,8,some (.int .u64 0)⟩,⟨.struct [(0,9),(1,12)],2,24,some (.agg [.ea ⟨#[]⟩,.int .u64 0])⟩,⟨.struct [(0,9),(1,12)],2,24,some (.agg [.ea ⟨#[]⟩,.int .u64 0])⟩,⟨.aj 227,1,8,some (.aj none)⟩,⟨.aj 230,1,8,some (.aj none)⟩,⟨.aj 238,1,8,some (.aj none)⟩,⟨.struct [(0,17)],1,8,some (.agg [.aj none])⟩,⟨.struct [(0,17)],1,8,some (.agg [.aj none])⟩,⟨.iface,1,16,some (.nilIface)⟩,⟨.int .i32,1,4,some (.int .i32 0)⟩,⟨.slice 38,1,24,some (.slice none 0 0)⟩,fz,⟨.slice 3,1,24,some (.slice none 0 0)⟩,⟨.struct [(0,3),(1,3),(2,3),(3,24)],4,48,some (.agg [.int .i64 0,.int .i64 0,.int .i64 0,.slice none 0 0])⟩,⟨.struct [(0,3),(1,3),(2,3),(3,24)],4,48,some (.agg [.int .i64 0,.int .i64 0,.int .i64 0,.slice none 0 0])⟩,fz,⟨.aj 81,1,8,some (.aj none)⟩,⟨.int .i64,1,8,some (.int .i64 0)⟩,⟨.tuple [28,29],1,0,none⟩,fz,⟨.aj 93,1,8,some (.aj none)⟩,⟨.tuple [32,29],1,0,none⟩,fz,⟨.int .u64,1,8,some (.int .u64 0)⟩,⟨.slice 5,1,24,some (.slice none 0 0)⟩,⟨.struct [(0,5),(1,5),(2,5),(3,5),(4,5),(5,5),(6,4),(7,4),(8,36),(9,5)],10,40,some (.agg [.int .u8 0,.int .u8 0,.int .u8 0,.int .u8 0,.int .u8 0,.int .u8 0,.bool false,.bool false,.slice none 0 0,.int .u8 0])⟩,⟨.struct [(0,5),(1,5),(2,5),(3,5),(4,5),(5,5),(6,4),(7,4),(8,36),(9,5)],10,40,some (.agg [.int .u8 0,.int .u8 0,.int .u8 0,.int .u8 0,.int .u8 0,.int .u8 0,.bool false,.bool false,.slice none 0 0,.int .u8 0])⟩,⟨.int .u32,1,4,some (.int .u32 0)⟩,⟨.struct [(0,5),(1,3),(2,36),(3,4),(4,39),(5,39),(6,5),(7,4)],8,56,some (.agg [.int .u8 0,.int .i64 0,.slice none 0 0,.bool false,.int .u32 0,.int .u32 0,.int .u8 0,.bool false])⟩,⟨.struct [(0,5),(1,3),(2,36),(3,4),(4,39),(5,39),(6,5),(7,4)],8,56,some (.agg [.int .u8 0,.int .i64 0,.slice none 0 0,.bool false,.int .u32 0,.int .u32 0,.int .u8 0,.bool false])⟩,⟨.tuple [3,41],1,0,none⟩,fz,⟨.sG 8 39,8,32,some (.agg [.int .u32 0,.int .u32 0,.int .u32 0,.int .u32 0,.int .u32 0,.int .u32 0,.int .u32 0,.int .u32 0])⟩,⟨.struct [(0,44),(8,5),(9,3),(10,39),(11,4)],12,56,some (.agg [.int .u32 0,.int .u32 0,.int .u32 0,.int .u32 0,.int .u32 0,.int .u32 0,.int .u32 0,.int .u32 0,.int .u8 0,.int .i64 0,.int .u32 0,.bool false])⟩,⟨.struct [(0,44),(8,5),(9,3),(10,39),(11,4)],12,56,some (.agg [.int .u32 0,.int .u32 0,.int .u32 0,.int .u32 0,.int .u32 0,.int .u32 0,.int .u32 0,.int .u32 0,.int .u8 0,.int .i64 0,.int .u32 0,.bool false])⟩,fz,⟨.struct [(0,29),(1,36),(2,46)],14,88,some (.agg [.int .i64 0,.slice none 0 0,.int .u32 0,.int .u32 0,.int .u32 0,.int .u32 0,.int .u32 0,.int .u32 0,.int .u32 0,.int .u32 0,.int .u8 0,.int .i64 0,.int .u32 0,.bool false])⟩,⟨.struct [(0,29),(1,36),(2,46)],14,88,some (.agg [.int .i64 0,.slice none 0 0,.int .u32 0,.int .u32 0,.int .u32 0,.int .u32 0,.int .u32 0,.int .u32 0,.int .u32 0,.int .u32 0,.int .u8 0,.int .i64 0,.int .u32 0,.bool false])⟩,⟨.tuple [49,29],1,0,none⟩,fz,fz,fz,fz,⟨.aj 60,1,8,some (.aj none)⟩,fz,⟨.slice 9,1,24,some (.slice none 0 0)⟩,⟨.slice 109,1,24,some (.slice none 0 0)⟩,⟨.struct [(0,57),(1,58),(2,46)],14,104,some (.agg [.slice none 0 0,.slice none 0 0,.int .u32 0,.int .u32 0,.int .u32 0,.int .u32 0,.int .u32 0,.int .u32 0,.int .u32 0,.int .u32 0,.int .u8 0,.int .i64 0,.int .u32 0,.bool false])⟩,⟨.struct [(0,57),(1,58),(2,46)],14,104,some (.agg [.slice none 0 0,.slice none 0 0,.int .u32 0,.int .u32 0,.int .u32 0,.int .u32 0,.int .u32 0,.int .u32 0,.int .u32 0,.int .u32 0,.int .u8 0,.int .i64 0,.int .u32 0,.bool false])⟩,⟨.tuple [3,9,46],1,0,none⟩,fz,fz,fz,fz,⟨.tuple [36,29],1,0,none⟩,fz,fz,fz,fz,fz,fz,fz,fz,fz,fz,fz,⟨.slice 84,1,24,some (.slice none 0 0)⟩,fz,⟨.struct [(0,78),(1,3),(2,35),(3,3),(4,3),(5,4),(6,3),(7,79)],8,80,some (.agg [.slice none 0 0,.int .i64 0,.int .u64 0,.int .i64 0,.int .i64 0,.bool false,.int .i64 0,.nilFunc])⟩,⟨.struct [(0,78),(1,3),(2,35),(3,3),(4,3),(5,4),(6,3),(7,79)],8,80,some (.agg [.slice none 0 0,.int .i64 0,.int .u64 0,.int .i64 0,.int .i64 0,.bool false,.int .i64 0,.nilFunc])⟩,⟨.slice 36,1,24,some (.slice none 0 0)⟩,⟨.struct [(0,82),(1,3),(2,4),(3,4),(4,4),(5,3)],6,48,some (.agg [.slice none 0 0,.int .i64 0,.bool false,.bool false,.bool false,.int .i64 0])⟩,⟨.struct [(0,82),(1,3),(2,4),(3,4),(4,4),(5,3)],6,48,some (.agg [.slice none 0 0,.int .i64 0,.bool false,.bool false,.bool false,.int .i64 0])⟩,⟨.aj 120,1,8,some (.aj none)⟩,⟨.tuple [85,29],1,0,none⟩,fz,⟨.aj 91,1,8,some (.aj none)⟩,⟨.slice 138,1,24,some (.slice none 0 0)⟩,⟨.struct [(0,89)],1,24,some (.agg [.slice none 0 0])⟩,⟨.struct [(0,89)],1,24,some (.agg [.slice none 0 0])⟩,⟨.struct [(0,28),(1,26),(5,85),(6,88),(7,46),(19,4)],20,136,some (.agg [.aj none,.int .i64 0,.int .i64 0,.int .i64 0,.slice none 0 0,.aj none,.aj none,.int .u32 0,.int .u32 0,.int .u32 0,.int .u32 0,.int .u32 0,.int .u32 0,.int .u32 0,.int .u32 0,.int .u8 0,.int .i64 0,.int .u32 0,.bool false,.bool false])⟩,⟨.struct [(0,28),(1,26),(5,85),(6,88),(7,46),(19,4)],20,136,some (.agg [.aj none,.int .i64 0,.int .i64 0,.int .i64 0,.slice none 0 0,.aj none,.aj none,.int .u32 0,.int .u32 0,.int .u32 0,.int .u32 0,.int .u32 0,.int .u32 0,.int .u32 0,.int .u32 0,.int .u8 0,.int .i64 0,.int .u32 0,.bool false,.bool false])⟩,fz,⟨.tuple [46,3,29],1,0,none⟩,fz,fz,fz,fz,fz,fz,⟨.tuple [46,3],1,0,none⟩,fz,⟨.aj 84,1,8,some (.aj none)⟩,⟨.tuple [104,29],1,0,none⟩,fz,fz,⟨.struct [(0,3),(1,9)],2,24,some (.agg [.int .i64 0,.ea ⟨#[]⟩])⟩,⟨.struct [(0,3),(1,9)],2,24,some (.agg [.int .i64 0,.ea ⟨#[]⟩])⟩,⟨.aj 175,1,8,some (.aj none)⟩,⟨.map 3 130,1,8,some (.map none)⟩,⟨.struct [(0,110),(1,111),(2,35),(3,24)],4,48,some (.agg [.aj none,.map none,.int .u64 0,.slice none 0 0])⟩,⟨.struct [(0,110),(1,111),(2,35),(3,24)],4,48,some (.agg [.aj none,.map none,.int .u64 0,.slice none 0 0])⟩,⟨.tuple [113,29],1,0,none⟩,fz,⟨.aj 166,1,8,some (.aj none)⟩,⟨.tuple [116,29],1,0,none⟩,fz,⟨.struct [(0,28),(1,26),(5,35),(6,110),(7,116),(8,35)],9,88,some (.agg [.aj none,.int .i64 0,.int .i64 0,.int .i64 0,.slice none 0 0,.int .u64 0,.aj none,.aj none,.int .u64 0])⟩,⟨.struct [(0,28),(1,26),(5,35),(6,110),(7,116),(8,35)],9,88,some (.agg [.aj none,.int .i64 0,.int .i64 0,.int .i64 0,.slice none 0 0,.int .u64 0,.aj none,.aj none,.int .u64 0])⟩,fz,fz,fz,fz,⟨.struct [(0,5),(1,35),(2,35),(3,3),(4,3),(5,36)],6,64,some (.agg [.int .u8 0,.int .u64 0,.int .u64 0,.int .i64 0,.int .i64 0,.slice none 0 0])⟩,⟨.struct [(0,5),(1,35),(2,35),(3,3),(4,3),(5,36)],6,64,some (.agg [.int .u8 0,.int .u64 0,.int .u64 0,.int .i64 0,.int .i64 0,.slice none 0 0])⟩,⟨.struct [(0,3),(1,3)],2,16,some (.agg [.int .i64 0,.int .i64 0])⟩,⟨.struct [(0,3),(1,3)],2,16,some (.agg [.int .i64 0,.int .i64 0])⟩,⟨.struct [(0,128),(2,126)],8,80,some (.agg [.int .i64 0,.int .i64 0,.int .u8 0,.int .u64 0,.int .u64 0,.int .i64 0,.int .i64 0,.slice none 0 0])⟩,⟨.struct [(0,128),(2,126)],8,80,some (.agg [.int .i64 0,.int .i64 0,.int .u8 0,.int .u64 0,.int .u64 0,.int .i64 0,.int .i64 0,.slice none 0 0])⟩,⟨.tuple [126,29],1,0,none⟩,fz,⟨.aj 182,1,8,some (.aj none)⟩,fz,fz,fz,⟨.struct [(0,3),(1,36),(2,4)],3,40,some (.agg [.int .i64 0,.slice none 0 0,.bool false])⟩,⟨.struct [(0,3),(1,36),(2,4)],3,40,some (.agg [.int .i64 0,.slice none 0 0,.bool false])⟩,⟨.tuple [138,4],1,0,none⟩,fz,fz,⟨.tuple [46,29],1,0,none⟩,fz,fz,fz,fz,fz,fz,fz,fz,fz,fz,fz,fz,⟨.tuple [110,29],1,0,none⟩,fz,⟨.map 3 158,1,8,some (.map none)⟩,⟨.slice 130,1,24,some (.slice none 0 0)⟩,⟨.tuple [158,29],1,0,none⟩,fz,fz,⟨.tuple [130,4],1,0,none⟩,fz,⟨.map 3 5,1,8,some (.map none)⟩,⟨.struct [(0,24),(1,164)],2,32,some (.agg [.slice none 0 0,.map none])⟩,⟨.struct [(0,24),(1,164)],2,32,some (.agg [.slice none 0 0,.map none])⟩,fz,fz,⟨.tuple [5,4],1,0,none⟩,⟨.tuple [3,4],1,0,none⟩,fz,⟨.slice 128,1,24,some (.slice none 0 0)⟩,⟨.slice 4,1,24,some (.slice none 0 0)⟩,⟨.struct [(0,172),(1,173),(2,24)],3,72,some (.agg [.slice none 0 0,.slice none 0 0,.slice none 0 0])⟩,⟨.struct [(0,172),(1,173),(2,24)],3,72,some (.agg [.slice none 0 0,.slice none 0 0,.slice none 0 0])⟩,fz,⟨.sG 32 3,32,256,some (.agg [.int .i64 0,.int .i64 0,.int .i64 0,.int .i64 0,.int .i64 0,.int .i64 0,.int .i64 0,.int .i64 0,.int .i64 0,.int .i64 0,.int .i64 0,.int .i64 0,.int .i64 0,.int .i64 0,.int .i64 0,.int .i64 0,.int .i64 0,.int .i64 0,.int .i64 0,.int .i64 0,.int .i64 0,.int .i64 0,.int .i64 0,.int .i64 0,.int .i64 0,.int .i64 0,.int .i64 0,.int .i64 0,.int .i64 0,.int .i64 0,.int .i64 0,.int .i64 0])⟩,⟨.tuple [128,4],1,0,none⟩,fz,fz,⟨.struct [(0,36),(1,4)],2,32,some (.agg [.slice none 0 0,.bool false])⟩,⟨.struct [(0,36),(1,4)],2,32,some (.agg [.slice none 0 0,.bool false])⟩,fz,fz,fz,fz,fz,fz,fz,fz,fz,fz,⟨.tuple [4,4],1,0,none⟩,fz,fz,fz,fz,⟨.sG 6 5,6,6,some (.agg [.int .u8 0,.int .u8 0,.int .u8 0,.int .u8 0,.int .u8 0,.int .u8 0])⟩,fz,fz,fz,fz,fz,⟨.tuple [3,29],1,0,none⟩,fz,fz,fz,fz,fz,⟨.int .u64,1,8,some (.int .u64 0)⟩,fz,fz,fz,fz,fz,fz,fz,fz,⟨.tuple [210,210],1,0,none⟩,fz,⟨.tuple [39,39],1,0,none⟩,fz,⟨.tuple [35,35],1,0,none⟩,fz,fz,⟨.struct [(0,17),(1,17),(2,17),(3,9)],4,40,some (.agg [.aj none,.aj none,.aj none,.ea ⟨#[]⟩])⟩,⟨.struct [(0,17),(1,17),(2,17),(3,9)],4,40,some (.agg [.aj none,.aj none,.aj none,.ea ⟨#[]⟩])⟩,⟨.sG 0 16,0,0,some (.agg [])⟩,⟨.struct [(0,228)],0,0,some (.agg [])⟩,⟨.struct [(0,228)],0,0,some (.agg [])⟩,⟨.int .u8,1,1,some (.int .u8 0)⟩,⟨.int .u8,1,1,some (.int .u8 0)⟩,fz,⟨.aj 5,1,8,some (.aj none)⟩,⟨.int .i32,1,4,some (.int .i32 0)⟩,⟨.int .i32,1,4,some (.int .i32 0)⟩,⟨.struct [(0,12),(1,12),(2,39),(3,231),(4,5),(5,5),(6,232),(7,233),(8,234),(9,235),(10,236)],11,48,some (.agg [.int .u64 0,.int .u64 0,.int .u32 0,.int .u8 0,.int .u8 0,.int .u8 0,.int .u8 0,.nilFunc,.aj none,.int .i32 0,.int .i32 0])⟩,⟨.struct [(0,12),(1,12),(2,39),(3,231),(4,5),(5,5),(6,232),(7,233),(8,234),(9,235),(10,236)],11,48,some (.agg [.int .u64 0,.int .u64 0,.int .u32 0,.int .u8 0,.int .u8 0,.int .u8 0,.int .u8 0,.nilFunc,.aj none,.int .i32 0,.int .i32 0])⟩,⟨.lG,1,8,some (.aj none)⟩]
theorem RK:(List.range 240).map (OO Tryz.prog)=Zc.map some:=by kernel_rfl
def k7:List bY:=[.int .i64,.int .i64,.bool,.int .u8]
def c7 (a b:Int) (c:Bool) (d:Int):List V:=[.int .i64 a,.int .i64 b,.bool c,.int .u8 d]
@[simp] theorem f7 (a:Int) (b:Int) (c:Bool) (d:Int):Am.aJ k7 (c7 a b c d)=true:=rfl
def AF:List bY:=[.int .i64,.int .i64,.int .i64,.slice]
def ee (a b c:Int) (d:Oq) (e f:Nat):List V:=[.int .i64 a,.int .i64 b,.int .i64 c,.slice d e f]
def vU (l:List V):List V:=ee (ae l 0).aa (ae l 1).aa (ae l 2).aa (ae l 3).ak (ae l 3).ao (ae l 3).aA
@[simp] theorem f25 (a:Int) (b:Int) (c:Int) (d:Oq) (e:Nat) (f:Nat):Am.aJ AF (ee a b c d e f)=true:=rfl
@[simp] theorem uV (a b c d e f):vU (ee a b c d e f)=ee a b c d e f:=rfl
@[simp] theorem mH (a b c d e f):ae (ee a b c d e f) 0=.int .i64 a:=rfl
@[simp] theorem mI (a b c d e f):ae (ee a b c d e f) 1=.int .i64 b:=rfl
@[simp] theorem mJ (a b c d e f):ae (ee a b c d e f) 2=.int .i64 c:=rfl
@[simp] theorem mK (a b c d e f):ae (ee a b c d e f) 3=.slice d e f:=rfl
def k37:List bY:=[.int .u8,.int .u8,.int .u8,.int .u8,.int .u8,.int .u8,.bool,.bool,.slice,.int .u8]
def UG (a b c d e f:Int) (g h:Bool) (i:Oq) (j l:Nat) (m:Int):List V:=[.int .u8 a,.int .u8 b,.int .u8 c,.int .u8 d,.int .u8 e,.int .u8 f,.bool g,.bool h,.slice i j l,.int .u8 m]
def o37 (l:List V):List V:=UG (ae l 0).aa (ae l 1).aa (ae l 2).aa (ae l 3).aa (ae l 4).aa (ae l 5).aa (ae l 6).ax (ae l 7).ax (ae l 8).ak (ae l 8).ao (ae l 8).aA (ae l 9).aa
def Vj:List bY:=[.int .u8,.int .i64,.slice,.bool,.int .u32,.int .u32,.int .u8,.bool]
def nP (a b:Int) (c:Oq) (d e:Nat) (f:Bool) (g h i:Int) (j:Bool):List V:=[.int .u8 a,.int .i64 b,.slice c d e,.bool f,.int .u32 g,.int .u32 h,.int .u8 i,.bool j]
def Zd (l:List V):List V:=nP (ae l 0).aa (ae l 1).aa (ae l 2).ak (ae l 2).ao (ae l 2).aA (ae l 3).ax (ae l 4).aa (ae l 5).aa (ae l 6).aa (ae l 7).ax
@[simp] theorem f40 (a:Int) (b:Int) (c:Oq) (d:Nat) (e:Nat) (f:Bool) (g:Int) (h:Int) (i:Int) (j:Bool):Am.aJ Vj (nP a b c d e f g h i j)=true:=rfl
@[simp] theorem ZR (a b c d e f g h i j):Zd (nP a b c d e f g h i j)=nP a b c d e f g h i j:=rfl
@[simp] theorem Vk (a b c d e f g h i j):ae (nP a b c d e f g h i j) 0=.int .u8 a:=rfl
@[simp] theorem Vl (a b c d e f g h i j):ae (nP a b c d e f g h i j) 1=.int .i64 b:=rfl
@[simp] theorem Vm (a b c d e f g h i j):ae (nP a b c d e f g h i j) 2=.slice c d e:=rfl
@[simp] theorem Vn (a b c d e f g h i j):ae (nP a b c d e f g h i j) 3=.bool f:=rfl
@[simp] theorem Vo (a b c d e f g h i j):ae (nP a b c d e f g h i j) 4=.int .u32 g:=rfl
@[simp] theorem Vp (a b c d e f g h i j):ae (nP a b c d e f g h i j) 5=.int .u32 h:=rfl
@[simp] theorem Vq (a b c d e f g h i j):ae (nP a b c d e f g h i j) 6=.int .u8 i:=rfl
@[simp] theorem Vr (a b c d e f g h i j):ae (nP a b c d e f g h i j) 7=.bool j:=rfl
def vV (a b c d e f g h:Int):List V:=[.int .u32 a,.int .u32 b,.int .u32 c,.int .u32 d,.int .u32 e,.int .u32 f,.int .u32 g,.int .u32 h]
def qn:List bY:=[.int .u32,.int .u32,.int .u32,.int .u32,.int .u32,.int .u32,.int .u32,.int .u32,.int .u8,.int .i64,.int .u32,.bool]
def cQ (a b c d e f g h i j l:Int) (m:Bool):List V:=[.int .u32 a,.int .u32 b,.int .u32 c,.int .u32 d,.int .u32 e,.int .u32 f,.int .u32 g,.int .u32 h,.int .u8 i,.int .i64 j,.int .u32 l,.bool m]
def nQ (l:List V):List V:=cQ (ae l 0).aa (ae l 1).aa (ae l 2).aa (ae l 3).aa (ae l 4).aa (ae l 5).aa (ae l 6).aa (ae l 7).aa (ae l 8).aa (ae l 9).aa (ae l 10).aa (ae l 11).ax
@[simp] theorem f45 (a:Int) (b:Int) (c:Int) (d:Int) (e:Int) (f:Int) (g:Int) (h:Int) (i:Int) (j:Int) (l:Int) (m:Bool):Am.aJ qn (cQ a b c d e f g h i j l m)=true:=rfl
@[simp] theorem RL (a b c d e f g h i j l m):nQ (cQ a b c d e f g h i j l m)=cQ a b c d e f g h i j l m:=rfl
@[simp] theorem LY (a b c d e f g h i j l m):ae (cQ a b c d e f g h i j l m) 0=.int .u32 a:=rfl
@[simp] theorem LZ (a b c d e f g h i j l m):ae (cQ a b c d e f g h i j l m) 1=.int .u32 b:=rfl
@[simp] theorem L4 (a b c d e f g h i j l m):ae (cQ a b c d e f g h i j l m) 2=.int .u32 c:=rfl
@[simp] theorem L5 (a b c d e f g h i j l m):ae (cQ a b c d e f g h i j l m) 3=.int .u32 d:=rfl
@[simp] theorem L6 (a b c d e f g h i j l m):ae (cQ a b c d e f g h i j l m) 4=.int .u32 e:=rfl
@[simp] theorem L7 (a b c d e f g h i j l m):ae (cQ a b c d e f g h i j l m) 5=.int .u32 f:=rfl
@[simp] theorem L8 (a b c d e f g h i j l m):ae (cQ a b c d e f g h i j l m) 6=.int .u32 g:=rfl
@[simp] theorem L9 (a b c d e f g h i j l m):ae (cQ a b c d e f g h i j l m) 7=.int .u32 h:=rfl
@[simp] theorem Ma (a b c d e f g h i j l m):ae (cQ a b c d e f g h i j l m) 8=.int .u8 i:=rfl
@[simp] theorem Mb (a b c d e f g h i j l m):ae (cQ a b c d e f g h i j l m) 9=.int .i64 j:=rfl
@[simp] theorem GJ (a b c d e f g h i j l m):ae (cQ a b c d e f g h i j l m) 10=.int .u32 l:=rfl
@[simp] theorem GK (a b c d e f g h i j l m):ae (cQ a b c d e f g h i j l m) 11=.bool m:=rfl
def UH:List bY:=[.int .i64,.slice,.int .u32,.int .u32,.int .u32,.int .u32,.int .u32,.int .u32,.int .u32,.int .u32,.int .u8,.int .i64,.int .u32,.bool]
def Ek (a:Int) (b:Oq) (c d:Nat) (e f g h i j l m o p q:Int) (r:Bool):List V:=[.int .i64 a,.slice b c d,.int .u32 e,.int .u32 f,.int .u32 g,.int .u32 h,.int .u32 i,.int .u32 j,.int .u32 l,.int .u32 m,.int .u8 o,.int .i64 p,.int .u32 q,.bool r]
def Ze (a:Oq) (b c:Nat) (d e f g:Int) (h:Bool) (i:Int) (j:V):List V:=[.slice a b c,.int .i64 d,.int .u64 e,.int .i64 f,.int .i64 g,.bool h,.int .i64 i,j]
def k83:List bY:=[.slice,.int .i64,.bool,.bool,.bool,.int .i64]
def QH (a:Oq) (b c:Nat) (d:Int) (e f g:Bool) (h:Int):List V:=[.slice a b c,.int .i64 d,.bool e,.bool f,.bool g,.int .i64 h]
def ZS (a:Oq) (b c d:Int) (e:Oq) (f g:Nat) (h i:Oq) (j l m o p q r s t u v:Int) (w x:Bool):List V:=[.aj a,.int .i64 b,.int .i64 c,.int .i64 d,.slice e f g,.aj h,.aj i,.int .u32 j,.int .u32 l,.int .u32 m,.int .u32 o,.int .u32 p,.int .u32 q,.int .u32 r,.int .u32 s,.int .u8 t,.int .i64 u,.int .u32 v,.bool w,.bool x]
def ZT (a:Int) (b:ByteArray):List V:=[.int .i64 a,.ea b]
def mL:List bY:=[.aj,.map,.int .u64,.slice]
def cJ (a:Oq) (b:Option Nat) (c:Int) (d:Oq) (e f:Nat):List V:=[.aj a,.map b,.int .u64 c,.slice d e f]
def pn (l:List V):List V:=cJ (ae l 0).an (ae l 1).cD (ae l 2).aa (ae l 3).ak (ae l 3).ao (ae l 3).aA
@[simp] theorem f112 (a:Oq) (b:Option Nat) (c:Int) (d:Oq) (e:Nat) (f:Nat):Am.aJ mL (cJ a b c d e f)=true:=rfl
@[simp] theorem vW (a b c d e f):pn (cJ a b c d e f)=cJ a b c d e f:=rfl
@[simp] theorem pq (a b c d e f):ae (cJ a b c d e f) 0=.aj a:=rfl
@[simp] theorem pr (a b c d e f):ae (cJ a b c d e f) 1=.map b:=rfl
@[simp] theorem pt (a b c d e f):ae (cJ a b c d e f) 2=.int .u64 c:=rfl
@[simp] theorem pw (a b c d e f):ae (cJ a b c d e f) 3=.slice d e f:=rfl
def RM (a:Oq) (b c d:Int) (e:Oq) (f g:Nat) (h:Int) (i j:Oq) (l:Int):List V:=[.aj a,.int .i64 b,.int .i64 c,.int .i64 d,.slice e f g,.int .u64 h,.aj i,.aj j,.int .u64 l]
def Mc:List bY:=[.int .u8,.int .u64,.int .u64,.int .i64,.int .i64,.slice]
def eZ (a b c d e:Int) (f:Oq) (g h:Nat):List V:=[.int .u8 a,.int .u64 b,.int .u64 c,.int .i64 d,.int .i64 e,.slice f g h]
def Vs (l:List V):List V:=eZ (ae l 0).aa (ae l 1).aa (ae l 2).aa (ae l 3).aa (ae l 4).aa (ae l 5).ak (ae l 5).ao (ae l 5).aA
@[simp] theorem f125 (a:Int) (b:Int) (c:Int) (d:Int) (e:Int) (f:Oq) (g:Nat) (h:Nat):Am.aJ Mc (eZ a b c d e f g h)=true:=rfl
@[simp] theorem El (a b c d e f g h):Vs (eZ a b c d e f g h)=eZ a b c d e f g h:=rfl
@[simp] theorem yg (a b c d e f g h):ae (eZ a b c d e f g h) 0=.int .u8 a:=rfl
@[simp] theorem yh (a b c d e f g h):ae (eZ a b c d e f g h) 1=.int .u64 b:=rfl
@[simp] theorem yi (a b c d e f g h):ae (eZ a b c d e f g h) 2=.int .u64 c:=rfl
@[simp] theorem yj (a b c d e f g h):ae (eZ a b c d e f g h) 3=.int .i64 d:=rfl
@[simp] theorem yk (a b c d e f g h):ae (eZ a b c d e f g h) 4=.int .i64 e:=rfl
@[simp] theorem yl (a b c d e f g h):ae (eZ a b c d e f g h) 5=.slice f g h:=rfl
def GL:List bY:=[.int .i64,.int .i64]
def iR (a b:Int):List V:=[.int .i64 a,.int .i64 b]
def O9 (l:List V):List V:=iR (ae l 0).aa (ae l 1).aa
@[simp] theorem f127 (a:Int) (b:Int):Am.aJ GL (iR a b)=true:=rfl
@[simp] theorem AG (a b):O9 (iR a b)=iR a b:=rfl
@[simp] theorem uW (a b):ae (iR a b) 0=.int .i64 a:=rfl
@[simp] theorem uX (a b):ae (iR a b) 1=.int .i64 b:=rfl
def oz:List bY:=[.int .i64,.int .i64,.int .u8,.int .u64,.int .u64,.int .i64,.int .i64,.slice]
def ke (a b c d e f g:Int) (h:Oq) (i j:Nat):List V:=[.int .i64 a,.int .i64 b,.int .u8 c,.int .u64 d,.int .u64 e,.int .i64 f,.int .i64 g,.slice h i j]
def JV (l:List V):List V:=ke (ae l 0).aa (ae l 1).aa (ae l 2).aa (ae l 3).aa (ae l 4).aa (ae l 5).aa (ae l 6).aa (ae l 7).ak (ae l 7).ao (ae l 7).aA
def qG:List bY:=[.int .i64,.slice,.bool]
def fP (a:Int) (b:Oq) (c d:Nat) (e:Bool):List V:=[.int .i64 a,.slice b c d,.bool e]
def uY (l:List V):List V:=fP (ae l 0).aa (ae l 1).ak (ae l 1).ao (ae l 1).aA (ae l 2).ax
@[simp] theorem f137 (a:Int) (b:Oq) (c:Nat) (d:Nat) (e:Bool):Am.aJ qG (fP a b c d e)=true:=rfl
def JW (a:Oq) (b c:Nat) (d:Option Nat):List V:=[.slice a b c,.map d]
def zX (a:Oq) (b c:Nat) (d:Oq) (e f:Nat) (g:Oq) (h i:Nat):List V:=[.slice a b c,.slice d e f,.slice g h i]
def Vt:List bY:=[.int .i64,.int .i64,.int .i64,.int .i64,.int .i64,.int .i64,.int .i64,.int .i64,.int .i64,.int .i64,.int .i64,.int .i64,.int .i64,.int .i64,.int .i64,.int .i64,.int .i64,.int .i64,.int .i64,.int .i64,.int .i64,.int .i64,.int .i64,.int .i64,.int .i64,.int .i64,.int .i64,.int .i64,.int .i64,.int .i64,.int .i64,.int .i64]
def uZ (a b c d e f g h i j l m o p q r s t u v w x y z A B C D E F G H:Int):List V:=[.int .i64 a,.int .i64 b,.int .i64 c,.int .i64 d,.int .i64 e,.int .i64 f,.int .i64 g,.int .i64 h,.int .i64 i,.int .i64 j,.int .i64 l,.int .i64 m,.int .i64 o,.int .i64 p,.int .i64 q,.int .i64 r,.int .i64 s,.int .i64 t,.int .i64 u,.int .i64 v,.int .i64 w,.int .i64 x,.int .i64 y,.int .i64 z,.int .i64 A,.int .i64 B,.int .i64 C,.int .i64 D,.int .i64 E,.int .i64 F,.int .i64 G,.int .i64 H]
def ZU (l:List V):List V:=uZ (ae l 0).aa (ae l 1).aa (ae l 2).aa (ae l 3).aa (ae l 4).aa (ae l 5).aa (ae l 6).aa (ae l 7).aa (ae l 8).aa (ae l 9).aa (ae l 10).aa (ae l 11).aa (ae l 12).aa (ae l 13).aa (ae l 14).aa (ae l 15).aa (ae l 16).aa (ae l 17).aa (ae l 18).aa (ae l 19).aa (ae l 20).aa (ae l 21).aa (ae l 22).aa (ae l 23).aa (ae l 24).aa (ae l 25).aa (ae l 26).aa (ae l 27).aa (ae l 28).aa (ae l 29).aa (ae l 30).aa (ae l 31).aa
def zY (a:Oq) (b c:Nat) (d:Bool):List V:=[.slice a b c,.bool d]
def ZV:List bY:=[.int .u8,.int .u8,.int .u8,.int .u8,.int .u8,.int .u8]
def mM (a b c d e f:Int):List V:=[.int .u8 a,.int .u8 b,.int .u8 c,.int .u8 d,.int .u8 e,.int .u8 f]
def ZW (l:List V):List V:=mM (ae l 0).aa (ae l 1).aa (ae l 2).aa (ae l 3).aa (ae l 4).aa (ae l 5).aa
def ZX:List (TypeId×List bY):=[(46,[.int .u32,.int .u32,.int .u32,.int .u32,.int .u32,.int .u32,.int .u32,.int .u32,.int .u8,.int .i64,.int .u32,.bool]),(44,[.int .u32,.int .u32,.int .u32,.int .u32,.int .u32,.int .u32,.int .u32,.int .u32])]
theorem RN:ZX.all (fun x=>JB Tryz.prog x.1 x.2)=true:=by kernel_rfl
theorem xW:Tryz.prog.funcs.toList.all (fun fn=> !(fn.name == "runtime.NumGoroutine"))=true:=by kernel_rfl
def ZY:bR:={bn:=[7,13,15,16,21],aU:=[(7,7),(27,7),(29,7),(31,7),(13,13),(56,13),(60,13),(61,13),(15,15),(16,16),(111,16),(113,16),(21,21)],bx:=[(8,{dJ:=[1,2,7,8,10,12],xj:=[7],cL:=[(2,.k (.bool)),(7,.lp 7),(8,.k (.aj)),(10,.k (.aj))],iw:=[(7,26,[.int .i64,.int .i64,.int .i64,.slice])],cV:=[0]}),(9,{dJ:=[49],mg:=true,wT:=[42,43,44,45,46,47,48], }),(19,{dl:=true,wT:=[76,77], }),(24,{cL:=[(103,.k (.bool))],dl:=true,wT:=[92,93,94,95,96,97,98,99,100,101,102,103], })], }
def Vu:bR:={bn:=[1,7],aU:=[(1,1),(11,1),(13,1),(15,1),(7,7),(60,7)], }
def Vv:bR:={bn:=[2,3],aU:=[(2,2),(3,3),(18,3),(23,3),(28,3),(32,3)],bx:=[(2,{dJ:=[21],mg:=true,wT:=[14,15,16,17,18,19,20], }),(3,{iw:=[(3,26,[.int .i64,.int .i64,.int .i64,.slice])],dl:=true,wT:=[22,23],wL:=[3]}),(5,{dJ:=[31],mg:=true,wT:=[24,25,26,27,28,29,30], })], }
def Vx:bR:={bx:=[(1,{dJ:=[24],mg:=true,wT:=[11,12,13,14,15,16,17,18,19,20,21,22,23], }),(6,{dJ:=[0,8,30,31,32],cL:=[(8,.k (.aj))],ot:=[(6,.k (.aj)),(7,.k (.int .i64))],cV:=[0]}),(10,{dJ:=[42],mg:=true,wT:=[36,37,38,39,40,41], })], }
def Vy:bR:={bn:=[4,12],aU:=[(4,4),(12,12)],bx:=[(8,{cL:=[(10,.k (.aj))],dl:=true,wT:=[10,27,28,29,30,31,32,33,34], })], }
def Vz:bR:={bn:=[3,4,7,11],aU:=[(3,3),(12,3),(19,3),(24,3),(29,3),(31,3),(33,3),(37,3),(42,3),(48,3),(55,3),(59,3),(4,4),(51,4),(52,4),(7,7),(11,11),(54,11),(61,11)],bx:=[(6,{iw:=[(11,41,[.int .u8,.int .i64,.slice,.bool,.int .u32,.int .u32,.int .u8,.bool])],dl:=true,wT:=[50,51,52,53,54],wL:=[11]})], }
def VA:bR:={bn:=[2],aU:=[(2,2)], }
def VB:bR:={bn:=[5,6,9],aU:=[(5,5),(6,6),(9,9),(39,9)],bx:=[(9,{dJ:=[32],mg:=true,wT:=[27,28,29,30,31], })], }
def VC:bR:={bx:=[(5,{dl:=true,wT:=[12,13,14,15,16,17], })], }
def VD:bR:={bx:=[(5,{dJ:=[20],mg:=true,wT:=[21,22,23,24,25,26,27,28,29,30], })], }
def VE:bR:={}
def VF:bR:={}
def VG:bR:={bn:=[4,8],aU:=[(4,4),(105,4),(8,8),(45,8),(48,8),(96,8)],bx:=[(1,{dJ:=[26],mg:=true,wT:=[21,22,23,24,25], }),(12,{dJ:=[0,4,8,10,12,13,14,53,54,55],xj:=[4,8],cL:=[(10,.k (.aj)),(12,.k (.aj)),(14,.k (.int .i64))],ot:=[(6,.k (.aj)),(7,.k (.int .i64))],cV:=[0]}),(29,{dJ:=[0,4,8,10,12,13,14,16,53,54,55,90,91,92],xj:=[4,8],cL:=[(0,.k (.aj)),(4,.lp 4),(8,.lp 8),(10,.k (.aj)),(12,.k (.aj)),(13,.k (.int .u64)),(14,.k (.int .i64)),(53,.k (.slice)),(54,.k (.int .i64)),(55,.k (.int .i64))],iw:=[(4,26,[.int .i64,.int .i64,.int .i64,.slice]),(8,113,[.aj,.map,.int .u64,.slice])],cV:=[2]}),(34,{dJ:=[112],mg:=true,wT:=[102,103,104,105,106,107,108,109,110,111], })], }
def VH:bR:={bn:=[0],aU:=[(0,0)], }
def VI:bR:={bn:=[7],aU:=[(7,7),(24,7)], }
def VJ:bR:={bn:=[1],aU:=[(1,1)], }
def VK:bR:={bn:=[2,6],aU:=[(2,2),(6,6),(18,6),(19,6),(28,6),(29,6),(36,6),(37,6)],bx:=[(4,{dJ:=[2,5,6,11],xj:=[2,6],cL:=[(2,.lp 2),(5,.k (.aj)),(6,.lp 6)],iw:=[(2,46,[.int .u32,.int .u32,.int .u32,.int .u32,.int .u32,.int .u32,.int .u32,.int .u32,.int .u8,.int .i64,.int .u32,.bool]),(6,46,[.int .u32,.int .u32,.int .u32,.int .u32,.int .u32,.int .u32,.int .u32,.int .u32,.int .u8,.int .i64,.int .u32,.bool])],cV:=[0]}),(13,{cL:=[(48,.k (.bool))],dl:=true,wT:=[41,42,43,44,45,46,47,48], })], }
def VL:bR:={bn:=[3,6],aU:=[(3,3),(11,3),(15,3),(6,6)], }
def VM:bR:={}
def VN:bR:={bx:=[(5,{cL:=[(13,.k (.bool))],dl:=true,wT:=[13,14,15,16,17,18,19,20,21,22,23,24,25,26,27,28,29,30], })], }
def VO:bR:={bn:=[5,6,8,12],aU:=[(5,5),(36,5),(45,5),(59,5),(71,5),(73,5),(76,5),(83,5),(86,5),(6,6),(8,8),(51,8),(12,12)],bx:=[(29,{dJ:=[120],mg:=true,wT:=[111,112,113,114,115,116,117,118,119], }),(32,{cL:=[(14,.k (.int .i64))],dl:=true,wT:=[14,123,124,125,126,127,128,129,130,131,132,133,134,135,136,137,138,139], })], }
def VP:bR:={bx:=[(4,{dJ:=[9],mg:=true,wT:=[10,11,12,13,14,15,16,17,18,19,20], })], }
def VQ:bR:={}
def VS:bR:={}
def VT:bR:={bn:=[4],aU:=[(4,4),(26,4)],bx:=[(2,{dJ:=[0,10,11,12],ot:=[(2,.k (.int .i64))],cV:=[0]})], }
def VU:bR:={}
def VV:bR:={bn:=[3,4,8,15,21,22,25],aU:=[(3,3),(35,3),(42,3),(51,3),(4,4),(8,8),(87,8),(93,8),(106,8),(111,8),(131,8),(150,8),(158,8),(15,15),(89,15),(90,15),(21,21),(133,21),(134,21),(145,21),(146,21),(152,21),(153,21),(22,22),(142,22),(143,22),(25,25),(168,25)],bx:=[(4,{cL:=[(45,.k (.bool))],dl:=true,wT:=[29,30,31,32,33,34,35,36,37,38,39,40,41,42,43,44,45], }),(11,{dJ:=[0,3,4,6,8,9,61,62,63],xj:=[3,4,8],cL:=[(3,.lp 3),(4,.lp 4),(6,.k (.aj)),(8,.lp 8),(9,.k (.map))],iw:=[(3,26,[.int .i64,.int .i64,.int .i64,.slice]),(4,113,[.aj,.map,.int .u64,.slice]),(8,113,[.aj,.map,.int .u64,.slice])],ot:=[(4,.lp 4),(5,.k (.int .i64))],RE:=[(4,113,[.aj,.map,.int .u64,.slice])],cV:=[0]}),(21,{dJ:=[0,3,4,6,8,9,61,62,63,81,82,83],xj:=[3,4,8],cL:=[(0,.k (.aj)),(3,.lp 3),(4,.lp 4),(6,.k (.aj)),(8,.lp 8),(9,.k (.map)),(61,.k (.slice)),(62,.k (.int .i64)),(63,.k (.int .i64))],iw:=[(3,26,[.int .i64,.int .i64,.int .i64,.slice]),(4,113,[.aj,.map,.int .u64,.slice]),(8,113,[.aj,.map,.int .u64,.slice])],cV:=[2]}),(29,{dJ:=[3,4,6,8,9,97,98,99],xj:=[3,4,8],cL:=[(3,.lp 3),(4,.lp 4),(6,.k (.aj)),(8,.lp 8),(9,.k (.map))],iw:=[(3,26,[.int .i64,.int .i64,.int .i64,.slice]),(4,113,[.aj,.map,.int .u64,.slice]),(8,113,[.aj,.map,.int .u64,.slice])],cV:=[4]}),(39,{dJ:=[4,6,8,9,116,117,118],xj:=[4,8],cL:=[(4,.lp 4),(6,.k (.aj)),(8,.lp 8)],iw:=[(4,113,[.aj,.map,.int .u64,.slice]),(8,113,[.aj,.map,.int .u64,.slice])],cV:=[6]}),(44,{dJ:=[4,6,8,9,116,117,118,124,125,126],xj:=[4,8],cL:=[(4,.lp 4),(6,.k (.aj)),(8,.lp 8),(9,.k (.map)),(116,.k (.slice)),(117,.k (.int .i64)),(118,.k (.int .i64))],iw:=[(4,113,[.aj,.map,.int .u64,.slice]),(8,113,[.aj,.map,.int .u64,.slice])],cV:=[8]}),(49,{dJ:=[149],mg:=true,wT:=[139,140,141,142,143,144,145,146,147,148], }),(55,{dJ:=[4,6,8,160],xj:=[4,8],cL:=[(4,.lp 4),(8,.lp 8)],iw:=[(4,113,[.aj,.map,.int .u64,.slice]),(8,113,[.aj,.map,.int .u64,.slice])],cV:=[10]})], }
def VW:bR:={bx:=[(3,{dJ:=[0,4,10,11,12],cL:=[(0,.k (.slice)),(4,.k (.aj))],ot:=[(2,.k (.aj)),(3,.k (.int .i64))],cV:=[0]}),(7,{dJ:=[35],mg:=true,wT:=[17,18,19,20,21,22,23,24,25,26,27,28,29,30,31,32,33,34], })], }
def VX:bR:={bn:=[1],aU:=[(1,1),(6,1),(11,1)],bx:=[(3,{dJ:=[1,3,4],xj:=[1],cL:=[(3,.k (.slice))],cV:=[0]})], }
def VY:bR:={bx:=[(1,{dJ:=[4],mg:=true,wT:=[5,6,7,8,9,10,11,12,13,14,15,16,17,18,19,20,21,22,23,24,25,26,27,28,29], })], }
def VZ:bR:={bx:=[(5,{dJ:=[22],mg:=true,wT:=[23,24,25,26,27,28], }),(8,{dJ:=[29],mg:=true,wT:=[30,31,32,33,34,35], })], }
def V0:bR:={bx:=[(1,{dJ:=[19],mg:=true,wT:=[5,6,7,8,9,10,11,12,13,14,15,16,17,18], })], }
def V1:bR:={bx:=[(1,{dJ:=[19],mg:=true,wT:=[5,6,7,8,9,10,11,12,13,14,15,16,17,18], })], }
def V2:bR:={}
def V3:bR:={bn:=[5,7],aU:=[(5,5),(64,5),(7,7),(55,7),(60,7)],bx:=[(1,{dJ:=[35],mg:=true,wT:=[11,12,13,14,15,16,17,18,19,20,21,22,23,24,25,26,27,28,29,30,31,32,33,34], }),(6,{dJ:=[0,1,5,40,41,42],xj:=[5],cL:=[(5,.lp 5)],iw:=[(5,177,[.int .i64,.int .i64,.int .i64,.int .i64,.int .i64,.int .i64,.int .i64,.int .i64,.int .i64,.int .i64,.int .i64,.int .i64,.int .i64,.int .i64,.int .i64,.int .i64,.int .i64,.int .i64,.int .i64,.int .i64,.int .i64,.int .i64,.int .i64,.int .i64,.int .i64,.int .i64,.int .i64,.int .i64,.int .i64,.int .i64,.int .i64,.int .i64])],cV:=[0]}),(10,{dJ:=[59],mg:=true,wT:=[47,48,49,50,51,52,53,54,55,56,57,58], }),(16,{dJ:=[8,66,67],cL:=[(8,.k (.slice))],cV:=[2]})], }
def V4:bR:={}
def V5:bR:={bn:=[4,6],aU:=[(4,4),(6,6),(28,6),(30,6)], }
def V6:bR:={bn:=[1],aU:=[(1,1),(3,1),(8,1)], }
def V7:bR:={}
def V8:bR:={}
def V9:bR:={bx:=[(1,{dJ:=[2],mg:=true,wT:=[3,4,5,6,7,8,9,10,11,12,13,14,15,16,17,18,19], })], }
def Wa:bR:={bn:=[1],aU:=[(1,1),(7,1),(11,1),(16,1),(20,1),(26,1),(37,1),(41,1),(46,1),(51,1),(59,1),(61,1),(62,1),(68,1)],bx:=[(1,{cL:=[(25,.k (.bool))],dl:=true,wT:=[7,8,9,10,11,12,13,14,15,16,17,18,19,20,21,22,23,24,25], }),(6,{dJ:=[1,3,27,28],xj:=[1],cL:=[(1,.lp 1),(3,.k (.bool))],iw:=[(1,46,[.int .u32,.int .u32,.int .u32,.int .u32,.int .u32,.int .u32,.int .u32,.int .u32,.int .u8,.int .i64,.int .u32,.bool])],cV:=[0]}),(10,{dJ:=[3],mg:=true,wT:=[31,32,33,34,35], }),(12,{dJ:=[6],mg:=true,wT:=[37,38,39,40,41,42,43,44,45,46,47,48,49], }),(13,{dJ:=[2],mg:=true,wT:=[50,51,52,53,54,55,56,57,58,59,60,61,62,63,64,65,66,67,68,69,70,71,72,73,74], })], }
def Wb:bR:={bx:=[(1,{dJ:=[2],mg:=true,wT:=[3,4,5,6,7,8,9,10,11], })], }
def Wc:bR:={}
def Wd:bR:={bn:=[4],aU:=[(4,4),(8,4),(12,4),(17,4),(28,4),(36,4),(40,4),(48,4),(52,4)],bx:=[(1,{dJ:=[7],mg:=true,wT:=[8,9,10,11,12,13,14,15,16,17,18,19,20], }),(2,{dJ:=[6],mg:=true,wT:=[21,22,23,24,25,26,27,28,29,30,31,32,33,34,35,36,37,38,39,40,41,42,43,44,45,46,47,48,49,50,51,52,53,54,55,56,57], })], }
def We:bR:={bn:=[3,5],aU:=[(3,3),(5,5),(7,5)],bx:=[(6,{cL:=[(14,.k (.bool))],dl:=true,wT:=[14,16,17], })], }
def Wf:bR:={bn:=[4,8],aU:=[(4,4),(8,8),(28,8),(31,8)], }
def Wg:bR:={bn:=[4],aU:=[(4,4),(20,4)], }
def Wh:bR:={bn:=[3,5,6,9],aU:=[(3,3),(49,3),(50,3),(77,3),(86,3),(94,3),(109,3),(119,3),(122,3),(5,5),(17,5),(22,5),(27,5),(31,5),(36,5),(42,5),(52,5),(56,5),(60,5),(67,5),(88,5),(99,5),(111,5),(6,6),(9,9)],bx:=[(1,{dJ:=[25],mg:=true,wT:=[10,11,12,13,14,15,16,17,18,19,20,21,22,23,24], }),(4,{dJ:=[8],mg:=true,wT:=[27,28,29,30,31,32,33,34,35,36,37,38,39], }),(5,{cL:=[(46,.k (.bool))],dl:=true,wT:=[40,41,42,43,44,45,46], }),(8,{dJ:=[64],mg:=true,wT:=[48,49,50,51,52,53,54,55,56,57,58,59,60,61,62,63], }),(18,{cL:=[(92,.k (.bool))],dl:=true,wT:=[77,78,79,80,81,82,83,84,85,86,87,88,89,90,91,92], })], }
def Wi:bR:={}
def Wj:bR:={bn:=[2],aU:=[(2,2),(9,2),(20,2),(24,2),(29,2),(32,2)],bx:=[(3,{dJ:=[1,2,5,10,11],xj:=[2],cL:=[(1,.k (.int .i64)),(2,.lp 2),(5,.k (.slice))],iw:=[(2,46,[.int .u32,.int .u32,.int .u32,.int .u32,.int .u32,.int .u32,.int .u32,.int .u32,.int .u8,.int .i64,.int .u32,.bool])],cV:=[0]}),(12,{cL:=[(8,.k (.int .u64))],dl:=true,wT:=[8], })], }
def Wk:bR:={bn:=[1],aU:=[(1,1),(9,1),(10,1)],bx:=[(2,{dJ:=[1,3],xj:=[1],ot:=[(2,.k (.bool))],cV:=[0]})], }
def Wl:bR:={bn:=[5],aU:=[(5,5),(17,5),(20,5)],bx:=[(5,{dJ:=[3,11,12,13],cL:=[(3,.k (.slice))],cV:=[0]})], }
def Wm:bR:={bn:=[3],aU:=[(3,3),(5,3),(11,3),(18,3),(20,3)], }
def Wn:bR:={}
def Wo:bR:={bx:=[(5,{dJ:=[1,5,14],cL:=[(5,.k (.int .i64))],cV:=[0]})], }
def Wp:bR:={bn:=[1],aU:=[(1,1),(5,1),(9,1),(14,1),(19,1),(24,1),(29,1),(33,1),(45,1),(50,1)],bx:=[(1,{dJ:=[32],mg:=true,wT:=[5,6,7,8,9,10,11,12,13,14,15,16,17,18,19,20,21,22,23,24,25,26,27,28,29,30,31], }),(5,{dJ:=[1,34,35,36],xj:=[1],cL:=[(1,.lp 1)],iw:=[(1,26,[.int .i64,.int .i64,.int .i64,.slice])],ot:=[(2,.k (.bool))],cV:=[0]})], }
def Wq:bR:={}
def Wr:bR:={}
def Ws:bR:={bx:=[(1,{dJ:=[19],mg:=true,wT:=[6,7,8,9,10,11,12,13,14,15,16,17,18], }),(4,{cL:=[(4,.k (.aj)),(5,.k (.int .i64))],dl:=true,wT:=[4,5,20,21,22,23,24,25,26,27], })], }
def Wt:bR:={bn:=[4,12],aU:=[(4,4),(22,4),(29,4),(12,12),(66,12),(71,12)],bx:=[(4,{cL:=[(39,.k (.bool))],dl:=true,wT:=[16,17,18,19,20,21,22,23,24,25,26,27,28,29,30,31,32,33,34,35,36,37,38,39], }),(9,{dJ:=[0,2,4,8,42,43],xj:=[4],cL:=[(8,.k (.slice))],ot:=[(6,.k (.slice)),(7,.k (.int .i64))],cV:=[0]}),(20,{cL:=[(76,.k (.bool))],dl:=true,wT:=[63,64,65,66,67,68,69,70,71,72,73,74,75,76], })], }
def Wu:bR:={bx:=[(6,{dJ:=[0,5,23,24,25],ot:=[(4,.k (.bool))],cV:=[0]}),(11,{dJ:=[46],mg:=true,wT:=[34,35,36,37,38,39,40,41,42,43,44,45], })], }
def RO:bR:={bn:=[5],aU:=[(5,5),(23,5),(28,5),(38,5),(43,5),(67,5)],bx:=[(4,{dJ:=[10],mg:=true,wT:=[11,12,13,14,15,16,17,18,19,20,21,22,23,24,25,26,27,28,29,30,31,32,33,34,35,36,37,38,39,40,41,42,43,44,45,46], })], }
def RP:bR:={}
def RQ:bR:={}
def RR:bR:={bx:=[(4,{dJ:=[0,11,12,13],ot:=[(2,.k (.int .i64)),(3,.k (.bool))],cV:=[0]})], }
def RT:bR:={}
def RU:bR:={bn:=[4],aU:=[(4,4)],bx:=[(1,{dJ:=[30],mg:=true,wT:=[6,7,8,9,10,11,12,13,14,15,16,17,18,19,20,21,22,23,24,25,26,27,28,29], })], }
def RW:bR:={bn:=[2,7],aU:=[(2,2),(7,7),(38,7),(39,7),(47,7),(48,7),(51,7)],bx:=[(1,{dJ:=[16],mg:=true,wT:=[8,9,10,11,12,13,14,15], }),(13,{cL:=[(66,.k (.bool))],dl:=true,wT:=[52,53,54,55,56,57,58,59,60,61,62,63,64,65,66], })], }
def RX:bR:={bx:=[(3,{dJ:=[3,6,7,8],cL:=[(3,.k (.int .u64))],cV:=[0]})], }
def RY:bR:={bx:=[(1,{dJ:=[18],mg:=true,wT:=[6,7,8,9,10,11,12,13,14,15,16,17], })], }
def RZ:bR:={bx:=[(2,{dJ:=[0,5,6],ot:=[(2,.k (.bool))],cV:=[0]})], }
def R0:bR:={bn:=[3],aU:=[(3,3),(13,3),(21,3),(36,3),(37,3),(42,3),(43,3)],bx:=[(1,{dJ:=[12],mg:=true,wT:=[7,8,9,10,11], }),(4,{cL:=[(20,.k (.bool))],dl:=true,wT:=[13,14,15,16,17,18,19,20], }),(15,{cL:=[(29,.k (.bool))],dl:=true,wT:=[29,31], }),(18,{dJ:=[6],mg:=true,wT:=[32,33,34,35,36,37,38,39,40], })], }
def R3:bR:={}
def R4:bR:={bn:=[3],aU:=[(3,3),(11,3),(15,3),(20,3),(24,3),(27,3),(28,3),(30,3),(33,3)],bx:=[(4,{dJ:=[10],mg:=true,wT:=[11,12,13,14,15,16,17,18], }),(12,{iw:=[(3,138,[.int .i64,.slice,.bool])],dl:=true,wT:=[30],wL:=[3]}),(21,{dl:=true,wT:=[38,39,40,41,42,43,44,45,46,47,48], })], }
def R5:bR:={bn:=[3,5,6],aU:=[(3,3),(7,3),(10,3),(13,3),(23,3),(24,3),(5,5),(11,5),(14,5),(21,5),(6,6)], }
def R6:bR:={bn:=[2],aU:=[(2,2),(12,2),(16,2),(21,2),(26,2),(27,2)],bx:=[(1,{dJ:=[15],mg:=true,wT:=[5,6,7,8,9,10,11,12,13,14], })], }
def R7:bR:={bn:=[3,6],aU:=[(3,3),(9,3),(10,3),(13,3),(6,6)], }
def R8:bR:={bn:=[1,2],aU:=[(1,1),(3,1),(4,1),(2,2)], }
def R9:bR:={bn:=[3,5,6,10],aU:=[(3,3),(17,3),(30,3),(31,3),(35,3),(40,3),(47,3),(73,3),(5,5),(13,5),(23,5),(27,5),(62,5),(66,5),(97,5),(6,6),(10,10),(79,10),(80,10),(89,10),(92,10)],bx:=[(1,{cL:=[(21,.k (.bool))],dl:=true,wT:=[13,14,15,16,17,18,19,20,21], }),(5,{dJ:=[9],mg:=true,wT:=[23,24,25,26,27,28,29,30,31,32,33,34,35,36,37,38,39,40,41,42,43,44,45], }),(8,{dJ:=[1,3,5,6,8,9,10,48,49],xj:=[3,5,6,10],cL:=[(1,.k (.int .i64)),(3,.lp 3),(5,.lp 5),(6,.lp 6),(8,.k (.bool)),(9,.k (.bool)),(10,.lp 10)],iw:=[(3,46,[.int .u32,.int .u32,.int .u32,.int .u32,.int .u32,.int .u32,.int .u32,.int .u32,.int .u8,.int .i64,.int .u32,.bool]),(5,41,[.int .u8,.int .i64,.slice,.bool,.int .u32,.int .u32,.int .u8,.bool]),(6,46,[.int .u32,.int .u32,.int .u32,.int .u32,.int .u32,.int .u32,.int .u32,.int .u32,.int .u8,.int .i64,.int .u32,.bool]),(10,46,[.int .u32,.int .u32,.int .u32,.int .u32,.int .u32,.int .u32,.int .u32,.int .u32,.int .u8,.int .i64,.int .u32,.bool])],cV:=[0]}),(12,{dJ:=[70],mg:=true,wT:=[53,54,55,56,57,58,59,60,61,62,63,64,65,66,67,68,69], }),(15,{dJ:=[9],mg:=true,wT:=[71,72,73,74,75,76,77], }),(18,{dJ:=[87],mg:=true,wT:=[82,83,84,85,86], })], }
def Sa:bR:={bn:=[3],aU:=[(3,3)],bx:=[(1,{dJ:=[0,3],xj:=[3],ot:=[(4,.k (.int .i64))], })], }
def Sb:bR:={bx:=[(2,{dJ:=[0,1,8,9],cL:=[(0,.k (.slice))],cV:=[0]})], }
def Sc:bR:={bn:=[6],aU:=[(6,6)], }
def Sd:bR:={}
def Se:bR:={}
def Sf:bR:={bn:=[2],aU:=[(2,2),(4,2),(5,2),(12,2),(13,2),(21,2),(22,2),(30,2),(31,2)], }
def Sg:bR:={bx:=[(4,{dJ:=[8],mg:=true,wT:=[9,10,11,12,13,14,15,16,17,18,19], }),(8,{dl:=true,wT:=[27,28,29,30,31,32,33,34,35,36,37,38,39,40,41,42], })], }
def Si:bR:={bx:=[(2,{dJ:=[0,1,7,8],ot:=[(4,.k (.int .i64))],cV:=[0]})], }
def Sj:bR:={bx:=[(3,{dl:=true,wT:=[18,19,20,21,22,23,24,25,26,27,28,29,30,31,32], })], }
def Sk:bR:={bx:=[(0,{dl:=true,wT:=[1,2,3,4,5,6], })], }
def Sl:bR:={bx:=[(0,{dJ:=[5],mg:=true,wT:=[6,7,8,9,10,11], })], }
def Sm:bR:={}
def Sn:bR:={}
def So:bR:={bx:=[(1,{dJ:=[2],mg:=true,wT:=[3,4,5,6,7,8,9,10], })], }
def Sp:bR:={bn:=[1],aU:=[(1,1),(3,1),(7,1),(12,1),(17,1),(22,1),(27,1),(32,1),(37,1),(42,1),(48,1),(52,1)],bx:=[(1,{dJ:=[2],mg:=true,wT:=[3,4,5,6,7,8,9,10,11,12,13,14,15,16,17,18,19,20,21,22,23,24,25,26,27,28,29,30,31,32,33,34,35,36,37,38,39,40,41,42,43,44,45,46,47,48,49,50,51,52,53,54,55,56,57], })], }
def Sq:bR:={bn:=[1],aU:=[(1,1),(4,1),(9,1),(12,1),(16,1),(20,1),(26,1)], }
def Ss:bR:={bn:=[0],aU:=[(0,0)], }
def Su:bR:={bx:=[(3,{dJ:=[0,1,2,8,9,10],cL:=[(0,.k (.slice)),(1,.k (.int .i64)),(2,.k (.func)),(8,.k (.int .i64)),(9,.k (.int .i64))],cV:=[0]})], }
def Sv:bR:={bn:=[2],aU:=[(2,2),(5,2)], }
def Sw:bR:={}
def Sx:bR:={bn:=[2,4],aU:=[(2,2),(6,2),(7,2),(8,2),(13,2),(4,4)],bx:=[(2,{dJ:=[17],mg:=true,wT:=[8,9,10,11,12,13,14,15,16], })], }
def Sy:bR:={bx:=[(1,{dJ:=[2],mg:=true,wT:=[3,4,5,6,7,8], })], }
def Sz:bR:={bx:=[(1,{dJ:=[0],ot:=[(2,.k (.int .i64)),(3,.k (.int .i64))], }),(3,{cL:=[(30,.k (.bool))],dl:=true,wT:=[16,17,18,19,20,21,22,23,24,25,26,27,28,29,30], }),(7,{dl:=true,wT:=[33,34,35,36,37,38], }),(13,{cL:=[(62,.k (.bool))],dl:=true,wT:=[51,52,53,54,55,56,57,58,59,60,61,62], })], }
def SA:bR:={bn:=[5,7],aU:=[(5,5),(24,5),(25,5),(66,5),(7,7),(39,7)],bx:=[(4,{cL:=[(8,.k (.int .i64))],dl:=true,wT:=[8,34,35,36,37,38,39,40,41,42,43,44,45,46,47], }),(5,{dJ:=[53],mg:=true,wT:=[48,49,50,51,52], })], }
def SB:bR:={bx:=[(2,{dJ:=[0,1,7,8],ot:=[(4,.k (.int .i64))],cV:=[0]})], }
def SC:bR:={bx:=[(3,{dJ:=[3,6,7,8],cL:=[(3,.k (.int .u32))],cV:=[0]}),(9,{dJ:=[3,6,7,8,16],cL:=[(3,.k (.int .u32)),(6,.k (.slice)),(7,.k (.int .i64)),(8,.k (.int .i64))],cV:=[2]})], }
def SD:bR:={}
def SE:bR:={}
def SF:bR:={}
def SG:bR:={bn:=[2],aU:=[(2,2),(5,2)], }
def SH:bR:={bx:=[(1,{cL:=[(2,.k (.int .i64)),(3,.k (.bool))],dl:=true,wT:=[2,3,4,5,6,7,8,9,10,11,12,13,14,15,16,17], })], }
def SI:bR:={bn:=[7],aU:=[(7,7),(83,7)],bx:=[(1,{cL:=[(3,.k (.int .i64)),(4,.k (.bool))],dl:=true,wT:=[3,4,10,11,12,13,14,15,16,17,18,19,20,21,22,23,24], }),(9,{cL:=[(57,.k (.bool))],dl:=true,wT:=[42,43,44,45,46,47,48,49,50,51,52,53,54,55,56,57], }),(12,{dJ:=[0,3,5],cL:=[(0,.k (.aj)),(3,.k (.int .i64)),(5,.k (.int .i64))],ot:=[(2,.k (.int .i64))],cV:=[0]})], }
def SJ:bR:={bn:=[11,13],aU:=[(11,11),(13,13)],bx:=[(5,{dJ:=[26],mg:=true,wT:=[27,28,29,30,31,32,33,34,35,36], }),(11,{dJ:=[41],mg:=true,wT:=[42,43,44,45,46,47,48,49,50,51,52,53,54], }),(25,{dl:=true,wT:=[79,80,81,82,83,84,85,86,87,88,89,90,91,92], }),(27,{dl:=true,wT:=[93,94,95,96,97,98,99,100,101,102], })], }
def SK:bR:={}
def SL:bR:={bx:=[(6,{dJ:=[0,1,2,8,9,17,18,19],cL:=[(8,.k (.int .i64)),(9,.k (.bool))],cV:=[0]}),(10,{dJ:=[36],mg:=true,wT:=[23,24,25,26,27,28,29,30,31,32,33,34,35], }),(12,{dJ:=[49],mg:=true,wT:=[37,38,39,40,41,42,43,44,45,46,47,48], })], }
def SM:bR:={bx:=[(3,{dJ:=[1,5,11,12],cL:=[(5,.k (.slice))],cV:=[0]})], }
def SN:bR:={bx:=[(1,{dJ:=[19],mg:=true,wT:=[5,6,7,8,9,10,11,12,13,14,15,16,17,18], })], }
def SO:bR:={bx:=[(2,{dl:=true,wT:=[6,7,8,9,10,11,12,13,14,15,16,17], })], }
def SP:bR:={}
def SQ:bR:={bx:=[(1,{dJ:=[0,2,3],cV:=[0]})], }
def SS:bR:={bx:=[(2,{dl:=true,wT:=[11], }),(5,{dJ:=[26],mg:=true,wT:=[21,22,23,24,25], }),(6,{dl:=true,wT:=[27], }),(10,{dJ:=[7,8],cL:=[(7,.k (.slice))],cV:=[0]})], }
def SU:bR:={}
def SV:bR:={}
theorem Wv:ZQ Tryz.prog 146 .overlaps:=⟨Tryz.f146,89,4,138,Tryz.func146,by kernel_rfl,by kernel_rfl,by kernel_rfl,by kernel_rfl,by kernel_rfl,by kernel_rfl⟩
def SW:List (Nat×XK):=[(146,.overlaps)]
theorem Pa:∀g k,Am.ab SW g=some k→ZQ Tryz.prog g k:=by
 intro g k hg;simp only[SW,im,kX] at hg;split at hg
 ·rename_i he;subst he;cases hg;exact Wv
 cases hg
def ZZ:List (Nat×bR):=[(3,ZY),(10,Vu),(11,Vv),(12,Vx),(13,Vy),(14,Vz),(15,VA),(16,VB),(17,VC),(23,VD),(25,VE),(36,VF),(37,VG),(38,VH),(39,VI),(40,VJ),(41,VK),(42,VL),(43,VM),(44,VN),(45,VO),(51,VP),(52,VQ),(53,VS),(54,VT),(58,VU),(59,VV),(60,VW),(61,VX),(62,VY),(63,VZ),(64,V0),(65,V1),(66,V2),(67,V3),(68,V4),(69,V5),(70,V6),(71,V7),(72,V8),(73,V9),(74,Wa),(75,Wb),(76,Wc),(77,Wd),(78,We),(79,Wf),(80,Wg),(81,Wh),(82,Wi),(83,Wj),(86,Wk),(90,Wl),(91,Wm),(92,Wn),(93,Wo),(94,Wp),(95,Wq),(96,Wr),(97,Ws),(98,Wt),(99,Wu),(100,RO),(101,RP),(102,RQ),(103,RR),(104,RT),(105,RU),(106,RW),(107,RX),(108,RY),(109,RZ),(110,R0),(111,R3),(112,R4),(113,R5),(114,R6),(115,R7),(116,R8),(117,R9),(118,Sa),(119,Sb),(120,Sc),(121,Sd),(122,Se),(123,Sf),(124,Sg),(125,Si),(126,Sj),(127,Sk),(128,Sl),(129,Sm),(130,Sn),(131,So),(132,Sp),(133,Sq),(134,Ss),(135,Su),(136,Sv),(137,Sw),(138,Sx),(139,Sy),(140,Sz),(141,SA),(142,SB),(143,SC),(144,SD),(145,SE),(147,SF),(148,SG),(149,SH),(150,SI),(151,SJ),(152,SK),(153,SL),(154,SM),(155,SN),(156,SO),(157,SP),(158,SQ),(159,SS),(160,SU),(162,SV)]
theorem ti_ok (t:Nat) (x:TI) (h:Zc[t]? =some x):OO Tryz.prog t=some x:=by
 have h1:t<240:=by
  have h2:Zc.length=240:=by kernel_rfl
  have:=(List.getElem?_eq_some_iff.1 h).1;omega
 have h3:=congrArg (fun l=>l[t]?) RK;simp only[List.getElem?_map,h,List.getElem?_range h1,Option.map_some,Option.some.injEq] at h3;exact h3
theorem eq_ok (t:Nat) (ks:List bY) (h:Am.ab ZX t=some ks):JB Tryz.prog t ks=true:=by
 have key:∀l:List (TypeId×List bY),l.all (fun x=>JB Tryz.prog x.1 x.2)=true→Am.ab l t=some ks→JB Tryz.prog t ks=true:=by
  intro l
  induction l with
  |nil=>intro _ h;cases h
  |cons p l ih=>
   intro h1 h2;rw[List.all_cons,Bool.and_eq_true] at h1;simp only[Am.ab,aP] at h2;by_cases he:t=p.1
   ·simp only[he,decide_true,cond_true,Option.some.injEq] at h2;rw[he, ←h2];exact h1.1
   ·simp only[he,decide_false,cond_false] at h2;exact ih h1.2 h2
 exact key _ RN h
noncomputable def Zf:List (Nat×Func):=[(3,Tryz.f3),(10,Tryz.f10),(11,Tryz.f11),(12,Tryz.f12),(13,Tryz.f13),(14,Tryz.f14),(15,Tryz.f15),(16,Tryz.f16),(17,Tryz.f17),(23,Tryz.f23),(25,Tryz.f25),(36,Tryz.f36),(37,Tryz.f37),(38,Tryz.f38),(39,Tryz.f39),(40,Tryz.f40),(41,Tryz.f41),(42,Tryz.f42),(43,Tryz.f43),(44,Tryz.f44),(45,Tryz.f45),(51,Tryz.f51),(52,Tryz.f52),(53,Tryz.f53),(54,Tryz.f54),(58,Tryz.f58),(59,Tryz.f59),(60,Tryz.f60),(61,Tryz.f61),(62,Tryz.f62),(63,Tryz.f63),(64,Tryz.f64),(65,Tryz.f65),(66,Tryz.f66),(67,Tryz.f67),(68,Tryz.f68),(69,Tryz.f69),(70,Tryz.f70),(71,Tryz.f71),(72,Tryz.f72),(73,Tryz.f73),(74,Tryz.f74),(75,Tryz.f75),(76,Tryz.f76),(77,Tryz.f77),(78,Tryz.f78),(79,Tryz.f79),(80,Tryz.f80),(81,Tryz.f81),(82,Tryz.f82),(83,Tryz.f83),(86,Tryz.f86),(90,Tryz.f90),(91,Tryz.f91),(92,Tryz.f92),(93,Tryz.f93),(94,Tryz.f94),(95,Tryz.f95),(96,Tryz.f96),(97,Tryz.f97),(98,Tryz.f98),(99,Tryz.f99),(100,Tryz.f100),(101,Tryz.f101),(102,Tryz.f102),(103,Tryz.f103),(104,Tryz.f104),(105,Tryz.f105),(106,Tryz.f106),(107,Tryz.f107),(108,Tryz.f108),(109,Tryz.f109),(110,Tryz.f110),(111,Tryz.f111),(112,Tryz.f112),(113,Tryz.f113),(114,Tryz.f114),(115,Tryz.f115),(116,Tryz.f116),(117,Tryz.f117),(118,Tryz.f118),(119,Tryz.f119),(120,Tryz.f120),(121,Tryz.f121),(122,Tryz.f122),(123,Tryz.f123),(124,Tryz.f124),(125,Tryz.f125),(126,Tryz.f126),(127,Tryz.f127),(128,Tryz.f128),(129,Tryz.f129),(130,Tryz.f130),(131,Tryz.f131),(132,Tryz.f132),(133,Tryz.f133),(134,Tryz.f134),(135,Tryz.f135),(136,Tryz.f136),(137,Tryz.f137),(138,Tryz.f138),(139,Tryz.f139),(140,Tryz.f140),(141,Tryz.f141),(142,Tryz.f142),(143,Tryz.f143),(144,Tryz.f144),(145,Tryz.f145),(147,Tryz.f147),(148,Tryz.f148),(149,Tryz.f149),(150,Tryz.f150),(151,Tryz.f151),(152,Tryz.f152),(153,Tryz.f153),(154,Tryz.f154),(155,Tryz.f155),(156,Tryz.f156),(157,Tryz.f157),(158,Tryz.f158),(159,Tryz.f159),(160,Tryz.f160),(162,Tryz.f162)]
theorem SX:Zf.map (fun x=>Tryz.prog.funcs[x.1]?)=Zf.map (fun x=>some x.2):=by kernel_rfl
theorem fn_ok (f:Nat) (x:Func) (h:Am.ab Zf f=some x):Tryz.prog.funcs[f]? =some x:=by
 have key:∀l:List (Nat×Func),l.map (fun x=>Tryz.prog.funcs[x.1]?)=l.map (fun x=>some x.2)→Am.ab l f=some x→Tryz.prog.funcs[f]? =some x:=by
  intro l
  induction l with
  |nil=>intro _ h;cases h
  |cons p l ih=>
   intro h1 h2;simp only[List.map_cons,List.cons.injEq] at h1;simp only[Am.ab,aP] at h2;by_cases he:f=p.1
   ·simp only[he,decide_true,cond_true,Option.some.injEq] at h2;rw[he, ←h2];exact h1.1
   ·simp only[he,decide_false,cond_false] at h2;exact ih h1.2 h2
 exact key _ SX h
noncomputable def cP:jU where
 P:=Tryz.prog
 ext:=GI Tryz.prog SW
 fn:=fun f=>Am.ab Zf f
 fn_ok:=fn_ok
 ti:=fun t=>Zc[t]?
 ti_ok:=ti_ok
 ann:=fun f=>(Am.ab ZZ f).getD {}
 eqt:=ZX
 eq_ok:=eq_ok
 names:=xW
noncomputable def cl:=lH.call (p8 cP)
noncomputable def lo (f:FuncId) (n:Nat):=lH.loop (p8 cP) (LX cP f n) f n
theorem qc {f:FuncId} {aS:List V} {H:Am.af} {K:V→Am.af→Prop} {Q:Prop} (h:((F cP (p8 cP)).call f aS H K)=Q:=by kernel_rfl):cl f aS H K=Q:=LF.trans h
theorem ql {f:FuncId} {n:Nat} {S:Am.St} {Kr:Am.St→Prop} {Ke:Nat→Am.St→Prop} {Q:Prop} (h:((F cP (p8 cP)).loop (LX cP f n) f n S Kr Ke)=Q:=by kernel_rfl):lo f n S Kr Ke=Q:=LG.trans h
theorem Ww:Tryz.prog.follows .mixedOrders=true:=by kernel_rfl
theorem Wx:jF cP:=JU rfl Pa
end Go.Proofs.YtlgdkndamddpkaaGreat
end
section
namespace Go.Am
def af.ok (H:af):Prop:=∀id o,H.get id=some o→id<H.next
theorem af.u5 (H:af) (o:Obj):(H.alloc o).get H.next=some o:=by simp [af.alloc]
theorem af.fG {H:af} {o:Obj} {id:Nat} (h:id≠H.next):(H.alloc o).get id=H.get id:=by simp [af.alloc,h]
theorem af.HO (H:af) (id:Nat) (o:Obj):(H.put id o).get id=some o:=by simp [af.put]
theorem af.kZ {H:af} {id j:Nat} {o:Obj} (h:j≠id):(H.put id o).get j=H.get j:=by simp [af.put,h]
theorem af.GM (H:af) (o:Obj):(H.alloc o).next=H.next+1:=rfl
theorem af.Md (H:af) (id:Nat) (o:Obj):(H.put id o).next=H.next:=rfl
theorem af.ym {H:af} {id off:Nat} {vs:List V} {e:TypeId} {l:List V} {ro:Bool} (h:H.get id=some (.cells e l ro)):H.store id off vs=H.put id (.cells e (bL l off vs) ro):=by simp [af.store,h]
theorem af.ok.alloc {H:af} (h:H.ok) (o:Obj):(H.alloc o).ok:=by
 intro id o' hg;rw[af.GM];by_cases he:id=H.next
 ·omega
 ·rw[af.fG he] at hg;have:=h id o' hg;omega
theorem af.ok.put {H:af} (h:H.ok) {id:Nat} {o o':Obj} (hg:H.get id=some o):(H.put id o').ok:=by
 intro j o2 hj;rw[af.Md];by_cases he:j=id
 ·subst he;exact h _ _ hg
 ·rw[af.kZ he] at hj;exact h _ _ hj
def Rd (H:af) (q:Oq) (cs:List V):Prop:=
 cs=[]∨∃id off e l ro,q=some (id,off)∧H.get id=some (.cells e l ro)∧(l.drop off).take cs.length=cs
theorem Rd.nil (H:af) (q:Oq):Rd H q []:=.inl rfl
theorem Em {l cs:List V} {off:Nat} (h:(l.drop off).take cs.length=cs) (h0:cs≠[]):off+cs.length≤l.length:=by
 have:=congrArg List.length h;simp at this;have:0<cs.length:=List.length_pos_iff.2 h0;omega
theorem Eo {l cs:List V} {off i k:Nat} (h:(l.drop off).take cs.length=cs) (hi:i+k≤cs.length):(l.drop (off+i)).take k=(cs.drop i).take k:=by
 rw[←h];rw[List.drop_take,List.take_take,List.drop_drop];congr 1;omega
section
variable {H:af} {q:Oq} {cs:List V}
theorem Rd.some (h:Rd H q cs) (h0:cs≠[]):q.isSome=true:=by
 rcases h with h|⟨id,off,e,l,ro,rfl,_⟩
 ·exact absurd h h0
 ·rfl
theorem Rd.inb (h:Rd H q cs) {i k:Nat} (hi:i+k≤cs.length) (h0:cs≠[]):H.inb (q.getD (0,0)).1 ((q.getD (0,0)).2+i) k=true:=by
 rcases h with h|⟨id,off,e,l,ro,rfl,hg,ht⟩
 ·exact absurd h h0
 ·have:=Em ht h0;simp [af.inb,hg];omega
theorem Rd.sub (h:Rd H q cs) {i k:Nat} (hi:i+k≤cs.length) (h0:cs≠[]):H.sub (q.getD (0,0)).1 ((q.getD (0,0)).2+i) k=(cs.drop i).take k:=by
 rcases h with h|⟨id,off,e,l,ro,rfl,hg,ht⟩
 ·exact absurd h h0
 ·simp only[af.sub,af.cs,Option.getD_some,hg];exact Eo ht hi
theorem ku:∀(l:List V) (i:Nat),ae l i=l.getD i .none
 |[],i=>by simp [ae]
 |x::l,0=>rfl
 |x::l,i+1=>by rw[ae,ku l i];simp
theorem Rd.cell (h:Rd H q cs) {i:Nat} (hi:i<cs.length):H.cell (q.getD (0,0)).1 ((q.getD (0,0)).2+i)=ae cs i:=by
 rcases h with h|⟨id,off,e,l,ro,rfl,hg,ht⟩
 ·rw[h] at hi;cases hi
 ·simp only[af.cell,af.cs,Option.getD_some,hg,ku];have:=congrArg (fun m=>m.getD i V.none) ht;simp only[List.getD_eq_getElem?_getD,List.getElem?_take,List.getElem?_drop,if_pos hi] at this⊢;exact this
theorem Rd.Me (h:Rd H q cs) {k:Nat} (hi:k≤cs.length) (h0:cs≠[]):H.inb (q.getD (0,0)).1 (q.getD (0,0)).2 k=true:=by
 simpa using h.inb (i:=0) (k:=k) (by omega) h0
theorem Rd.Z0 (h:Rd H q cs) {k:Nat} (hi:k≤cs.length) (h0:cs≠[]):H.sub (q.getD (0,0)).1 (q.getD (0,0)).2 k=cs.take k:=by
 simpa using h.sub (i:=0) (k:=k) (by omega) h0
theorem Rd.all (h:Rd H q cs) (h0:cs≠[]):H.sub (q.getD (0,0)).1 (q.getD (0,0)).2 cs.length=cs:=by
 rw[h.Z0 (Nat.le_refl _) h0,List.take_length]
theorem Rd.part (h:Rd H q cs) {id off:Nat} (hq:q=Option.some (id,off)) (i k:Nat) (hi:i+k≤cs.length):Rd H (Option.some (id,off+i)) ((cs.drop i).take k):=by
 by_cases h0:(cs.drop i).take k=[]
 ·exact .inl h0
 ·rcases h with h|⟨id',off',e,l,ro,he,hg,ht⟩
  ·rw[h] at h0;simp at h0
  ·rw[hq] at he;cases he;refine .inr ⟨id,off+i,e,l,ro,rfl,hg, ?_⟩;have hl:((cs.drop i).take k).length=k:=by simp;omega
   rw[hl];exact Eo ht hi
structure Fr (H H':af) (W:Nat→Prop):Prop where
 next:H.next≤H'.next
 wx:∀id,id<H.next→¬W id→H'.get id=H.get id
theorem Fr.alloc (H:af) (o:Obj) (W:Nat→Prop):Fr H (H.alloc o) W:=
 ⟨Nat.le_succ _,fun id hid _=>af.fG (by omega)⟩
theorem Fr.get {H H':af} {W:Nat→Prop} (h:Fr H H' W) {id:Nat} {o:Obj} (hok:H.ok) (hg:H.get id=Option.some o) (hw:¬W id):H'.get id=Option.some o:=by
 rw[h.wx id (hok id o hg) hw,hg]
def QI (q:Oq) (W:Nat→Prop):Prop:=∀id off,q=Option.some (id,off)→¬W id
theorem Rd.fr {H':af} {W:Nat→Prop} (h:Rd H q cs) (hok:H.ok) (hf:Fr H H' W) (ha:QI q W):Rd H' q cs:=by
 rcases h with h|⟨id,off,e,l,ro,rfl,hg,ht⟩
 ·exact .inl h
 ·exact .inr ⟨id,off,e,l,ro,rfl,hf.get hok hg (ha id off rfl),ht⟩
structure UI (H:af) (el n:Nat) (q:Oq) (len cap:Nat) (cs:List V):Prop where
 size:cs.length=len*n
 one:aZ cs
 le:len≤cap
 mem:(q=none∧cap=0)∨∃id off l,q=Option.some (id,off)∧H.get id=Option.some (.cells el l false)∧off+cap*n≤l.length∧(l.drop off).take cs.length=cs
theorem UI.rd {el n len cap:Nat} (h:UI H el n q len cap cs):Rd H q cs:=by
 rcases h.mem with⟨rfl,hc⟩|⟨id,off,l,rfl,hg,_,ht⟩
 ·left;have:=h.le;have h1:len=0:=by omega
  have:=h.size;rw[h1,Nat.zero_mul] at this;exact List.length_eq_zero_iff.1 this
 ·exact .inr ⟨id,off,el,l,false,rfl,hg,ht⟩
theorem UI.fr {H':af} {W:Nat→Prop} {el n len cap:Nat} (h:UI H el n q len cap cs) (hok:H.ok) (hf:Fr H H' W) (ha:QI q W):UI H' el n q len cap cs:=by
 refine⟨h.size,h.one,h.le, ?_⟩;rcases h.mem with hn|⟨id,off,l,rfl,hg,h1,ht⟩
 ·exact .inl hn
 ·exact .inr ⟨id,off,l,rfl,hf.get hok hg (ha id off rfl),h1,ht⟩
theorem HP:∀(l:List V) (j n:Nat) (v:V),xg l j n v=l.mapIdx fun i x=>if j+i=n then v else x
 |[],_,_,_=>rfl
 |x::l,j,n,v=>by
  rw[xg,HP l (j+1) n v,List.mapIdx_cons,mu,aP];congr 1
  ·by_cases h:j=n<;>simp [h]
  ·congr 1;funext i x;have:j+1+i=j+(i+1):=by omega
   rw[this]
theorem Ep (l:List V) (n:Nat) (v:V):xg l 0 n v=l.set n v:=by
 rw[HP];apply List.ext_getElem?;intro i;simp only[List.getElem?_mapIdx,List.getElem?_set,Nat.zero_add];by_cases h:n=i
 ·subst h;by_cases hl:n<l.length
  ·simp [hl]
  ·simp [hl]
 ·have:¬i=n:=fun e=>h e.symm
  simp [h,this]
theorem fH:∀(vs l:List V) (off:Nat),off+vs.length≤l.length→bL l off vs=l.take off++(vs++l.drop (off+vs.length))
 |[],l,off,h=>by simp [bL]
 |v::vs,l,off,h=>by
  simp only[List.length_cons] at h;rw[bL,Ep,fH vs _ (off+1) (by simp;omega)];apply List.ext_getElem?;intro i;simp only[List.getElem?_append,List.getElem?_take,List.getElem?_drop,List.getElem?_set,List.length_take,List.length_set,List.length_cons,List.cons_append,List.getElem?_cons]
  grind
theorem Pb {l cs src:List V} {off:Nat} (ht:(l.drop off).take cs.length=cs) (hl:off+cs.length+src.length≤l.length):((bL l (off+cs.length) src).drop off).take (cs++src).length=cs++src:=by
 rw[fH _ _ _ hl];have e:l.take (off+cs.length)=l.take off++cs:=by rw[List.take_add,ht]
 rw[e,List.append_assoc,List.drop_left' (by simp;omega), ←List.append_assoc,List.take_left' rfl]
theorem gu:∀(vs l:List V) (off:Nat),(bL l off vs).length=l.length
 |[],l,off=>rfl
 |v::vs,l,off=>by rw[bL,gu vs,Ep,List.length_set]
theorem qo {l:List V} (h:aZ l):uG l=true:=rO.2 h
def SY (H:af) (n:Nat) (x:V) (m:Nat) (src:List V):Prop:=
 src.length=m*n∧aZ src∧((∃q c,x=.slice q m c∧Rd H q src)∨∃s,x=.ea s∧m=s.size∧n=1∧src=eI s)
theorem Er {n m:Nat} {x:V} {src:List V} (h:SY H n x m src) (hn:0<n):∃ok cf,kK H n x=Option.some (m,ok,cf)∧ok m=true∧cf m=src:=by
 obtain⟨hl,h1,⟨q,c,rfl,hr⟩|⟨s,rfl,rfl,rfl,rfl⟩⟩:=h
 ·refine⟨_,_,rfl, ?_, ?_⟩
  ·by_cases h0:m=0
   ·subst h0;rfl
   ·have hne:src≠[]:=by
     intro e;rw[e] at hl;have:=Nat.mul_pos (Nat.pos_of_ne_zero h0) hn;simp at hl;omega
    simp only[oJ,Bool.or_eq_true,Bool.and_eq_true];exact .inr ⟨hr.some hne,hr.Me (by omega) hne,qo (by rw[←hl,hr.all hne];exact h1)⟩
  ·by_cases h0:m=0
   ·subst h0;simp at hl;subst hl;rfl
   ·have hz:Nat.beq m 0=false:=by simp [h0]
    have hne:src≠[]:=by
     intro e;rw[e] at hl;have:=Nat.mul_pos (Nat.pos_of_ne_zero h0) hn;simp at hl;omega
    simp only[hz,cond_false];rw[←hl,hr.all hne]
 ·refine⟨_,_,rfl,rfl, ?_⟩;exact List.take_of_length_le (by rw[hl];omega)
end
abbrev Hp:=Nat→Option Obj
abbrev cq:=Hp→Prop
def cR (id:Nat) (e:TypeId) (cs:List V):cq:=fun h=>h=fun j=>if j=id then some (.cells e cs false) else none
def k5 (h1 h2 h:Hp):Prop:=∀i,(h1 i=none∧h i=h2 i)∨(h2 i=none∧h i=h1 i)
def yn:List cq→cq
 |[]=>fun h=>h=fun _=>none
 |A::L=>fun h=>∃h1 h2,k5 h1 h2 h∧A h1∧yn L h2
def lD (A B:cq):cq:=fun h=>∃h1 h2,k5 h1 h2 h∧A h1∧B h2
def emp:cq:=fun h=>h=fun _=>none
def Es (p:Prop):cq:=fun h=>p∧h=fun _=>none
def JX {α:Type} (A:α→cq):cq:=fun h=>∃x,A x h
theorem k5.symm {a b c:Hp} (h:k5 a b c):k5 b a c:=fun i=>(h i).symm
theorem k5.empty (a:Hp):k5 (fun _=>none) a a:=fun i=>.inl ⟨rfl,rfl⟩
theorem k5.swap {a b c bc abc:Hp} (h1:k5 b c bc) (h2:k5 a bc abc):∃ac,k5 a c ac∧k5 b ac abc:=by
 refine⟨fun i=>match a i with|some o=>some o|none=>c i,fun i=> ?_,fun i=> ?_⟩
 ·rcases h1 i with⟨e1,e2⟩|⟨e1,e2⟩<;>rcases h2 i with⟨e3,e4⟩|⟨e3,e4⟩
  ·simp [e3]
  ·rw[e2] at e3;right;refine⟨e3, ?_⟩;cases h:a i<;>simp [e3,h]
  ·simp [e3,e1]
  ·right;refine⟨e1, ?_⟩;cases h:a i<;>simp [e1,h]
 ·rcases h1 i with⟨e1,e2⟩|⟨e1,e2⟩<;>rcases h2 i with⟨e3,e4⟩|⟨e3,e4⟩
  ·left;simp [e1,e3,e4,e2]
  ·left;refine⟨e1, ?_⟩;rw[e2] at e3;cases h:a i<;>simp [e3,e4,h]
  ·right;simp [e1,e3,e4,e2]
  ·left;rw[e2] at e3;refine⟨e3, ?_⟩;cases h:a i<;>simp [e1,e4,h]
theorem k5.SZ {a b c:Hp} (h:k5 a b c) {i:Nat} {o:Obj} (ha:a i=some o):c i=some o:=by
 rcases h i with⟨e,_⟩|⟨_,e⟩
 ·rw[ha] at e;cases e
 ·rw[e,ha]
theorem k5.S3 {a b c:Hp} (h:k5 a b c) {i:Nat} {o:Obj} (hb:b i=some o):c i=some o:=h.symm.SZ hb
theorem JY {A B:cq} {L:List cq} {h:Hp} (hs:yn (A::B::L) h):yn (B::A::L) h:=by
 obtain⟨h1,h2,j1,a,h3,h4,j2,b,l⟩:=hs;obtain⟨ac,k1,k2⟩:=k5.swap j2 j1;exact⟨h3,ac,k2,b,h1,h4,k1,a,l⟩
theorem JZ {A:cq} {L L':List cq} (hl:∀h,yn L h→yn L' h) {h:Hp} (hs:yn (A::L) h):yn (A::L') h:=by
 obtain⟨h1,h2,j1,a,l⟩:=hs;exact⟨h1,h2,j1,a,hl _ l⟩
theorem AH {L L':List cq} (hp:L.Perm L'):∀h,yn L h→yn L' h:=by
 induction hp with
 |nil=>exact fun h=>id
 |cons x _ ih=>exact fun h=>JZ ih
 |swap x y l=>exact fun h=>JY
 |trans _ _ ih1 ih2=>exact fun h hs=>ih2 h (ih1 h hs)
def iS:List cq→Nat→cq
 |[],_=>emp
 |A::_,0=>A
 |_::L,n+1=>iS L n
def iI:List cq→Nat→List cq
 |[],_=>[]
 |_::L,0=>L
 |A::L,n+1=>A::iI L n
theorem u6:∀{L:List cq} {n:Nat},n<L.length→L.Perm (iS L n::iI L n)
 |A::L,0,_=>.refl _
 |A::L,n+1,h=>((u6 (Nat.lt_of_succ_lt_succ h)).cons A).trans (.swap ..)
structure az (B H:af) (L:List cq):Prop where
 ok:H.ok
 J0:B.next≤H.next
 ro:∀id o,B.get id=some o→H.get id=some o∧∃e cs,o=.cells e cs true
 ex:∃h,(∀id o,h id=some o→H.get id=some o)∧yn L h
variable {B H:af} {L L':List cq} {A A':cq}
theorem az.u7 (h:az B H L) (hp:L.Perm L'):az B H L':=
 ⟨h.ok,h.J0,h.ro,let ⟨g,h1,h2⟩:=h.ex;⟨g,h1,AH hp _ h2⟩⟩
theorem az.up (h:az B H L) (n:Nat) (hn:Nat.blt n L.length=true:=by rfl):az B H (iS L n::iI L n):=
 h.u7 (u6 (Nat.le_of_ble_eq_true hn))
theorem az.swap (h:az B H (A::A'::L)):az B H (A'::A::L):=h.u7 (.swap ..)
theorem az.imp (h:az B H (A::L)) (hi:∀g,A g→A' g):az B H (A'::L):=
 ⟨h.ok,h.J0,h.ro,let ⟨g,h1,h2,h3,h4,h5,h6⟩:=h.ex;⟨g,h1,h2,h3,h4,hi _ h5,h6⟩⟩
theorem az.drop (h:az B H (A::L)):az B H L:=
 ⟨h.ok,h.J0,h.ro,let ⟨g,h1,h2,h3,h4,h5,h6⟩:=h.ex;⟨h3,fun id o ho=>h1 id o (h4.S3 ho),h6⟩⟩
theorem az.Es {p:Prop} (h:az B H (Es p::L)):p∧az B H L:=
 let ⟨g,h1,h2,h3,h4,⟨h5,h7⟩,h6⟩:=h.ex
 ⟨h5,h.drop⟩
theorem az.pure {p:Prop} (h:az B H L) (hp:p):az B H (Am.Es p::L):=
 ⟨h.ok,h.J0,h.ro,let ⟨g,h1,h2⟩:=h.ex;⟨g,h1,_,g,k5.empty g,⟨hp,rfl⟩,h2⟩⟩
theorem az.OG {α:Type} {A:α→cq} (h:az B H (JX A::L)):∃x,az B H (A x::L):=
 let ⟨g,h1,h2,h3,h4,⟨x,h5⟩,h6⟩:=h.ex
 ⟨x,h.ok,h.J0,h.ro,g,h1,h2,h3,h4,h5,h6⟩
theorem az.intro {α:Type} {A:α→cq} {x:α} (h:az B H (A x::L)):az B H (JX A::L):=h.imp fun g hg=>⟨x,hg⟩
theorem az.lD (h:az B H (lD A A'::L)):az B H (A::A'::L):=by
 obtain⟨g,h1,h2,h3,h4,⟨h5,h6,h7,h8,h9⟩,xf⟩:=h.ex;obtain⟨ac,k1,k2⟩:=k5.swap h7 (h4.symm);exact⟨h.ok,h.J0,h.ro,g,h1,h5,ac,k2,h8,h6,h3,k1.symm,h9,xf⟩
theorem az.u9 (h:az B H (A::A'::L)):az B H (Am.lD A A'::L):=by
 obtain⟨g,h1,h5,ac,k2,h8,h6,h3,k1,h9,xf⟩:=h.ex;obtain⟨x,k3,k4⟩:=k5.swap k1.symm k2;exact⟨h.ok,h.J0,h.ro,g,h1,x,h3,k4.symm,⟨h5,h6,k3,h8,h9⟩,xf⟩
theorem az.QJ (h:az B H L):az B H (Am.emp::L):=
 ⟨h.ok,h.J0,h.ro,let ⟨g,h1,h2⟩:=h.ex;⟨g,h1,_,g,k5.empty g,rfl,h2⟩⟩
theorem az.get {id:Nat} {e:TypeId} {cs:List V} (h:az B H (cR id e cs::L)):H.get id=some (.cells e cs false):=by
 obtain⟨g,h1,h2,h3,h4,h5,h6⟩:=h.ex;exact h1 _ _ (h4.SZ (by rw[h5];simp))
theorem az.start (hB:B.ok) (hro:∀id o,B.get id=some o→∃e cs,o=.cells e cs true):az B B []:=
 ⟨hB,Nat.le_refl _,fun id o h=>⟨h,hro id o h⟩,fun _=>none,(fun id o h=>by cases h),rfl⟩
theorem az.alloc (h:az B H L) (e:TypeId) (cs:List V):az B (H.alloc (.cells e cs false)) (cR H.next e cs::L):=by
 obtain⟨g,h1,h2⟩:=h.ex;refine⟨h.ok.alloc _,Nat.le_succ_of_le h.J0,fun id o ho=> ?_,fun j=>if j=H.next then some (.cells e cs false) else g j,fun id o ho=> ?_,_,g,fun i=> ?_,rfl,h2⟩
 ·have:=h.ok id o (h.ro id o ho).1;exact⟨by rw[af.fG (by omega)];exact(h.ro id o ho).1,(h.ro id o ho).2⟩
 ·by_cases hid:id=H.next
  ·subst hid;simp only[if_pos] at ho;rw[af.u5,ho]
  ·simp only[if_neg hid] at ho;rw[af.fG hid];exact h1 id o ho
 ·by_cases hid:i=H.next
  ·subst hid;right;refine⟨?_,by simp⟩
   cases hg:g H.next with
   |none=>rfl
   |some o=>have:=h.ok _ _ (h1 _ _ hg);omega
  ·left;simp [hid]
theorem az.put {id:Nat} {e:TypeId} {cs cs':List V} (h:az B H (cR id e cs::L)):az B (H.put id (.cells e cs' false)) (cR id e cs'::L):=by
 have T7:=h.get;obtain⟨g,h1,h2,h3,h4,h5,h6⟩:=h.ex;subst h5;refine⟨h.ok.put T7,h.J0,fun j o ho=> ?_,fun j=>if j=id then some (.cells e cs' false) else h3 j,fun j o ho=> ?_,_,h3,fun i=> ?_,rfl,h6⟩
 ·have hj:=h.ro j o ho;refine⟨?_,hj.2⟩;by_cases he:j=id
  ·subst he;obtain⟨e',c',rfl⟩:=hj.2;rw[hj.1] at T7;cases T7
  ·rw[af.kZ he];exact hj.1
 ·by_cases hid:j=id
  ·subst hid;simp only[if_pos] at ho;rw[af.HO,ho]
  ·simp only[if_neg hid] at ho;rw[af.kZ hid];exact h1 j o (h4.S3 ho)
 ·by_cases hid:i=id
  ·subst hid;right;refine⟨?_,by simp⟩;rcases h4 i with⟨e1,_⟩|⟨e1,_⟩
   ·simp at e1
   ·exact e1
  ·left;simp [hid]
theorem az.store {id off:Nat} {e:TypeId} {cs vs:List V} (h:az B H (cR id e cs::L)):az B (H.store id off vs) (cR id e (bL cs off vs)::L):=by
 rw[af.ym h.get];exact h.put
theorem az.rd (h:az B H L) {q:Oq} {cs:List V} (hr:Rd B q cs):Rd H q cs:=by
 rcases hr with hr|⟨id,off,e,l,ro,rfl,hg,ht⟩
 ·exact .inl hr
 ·exact .inr ⟨id,off,e,l,ro,rfl,(h.ro _ _ hg).1,ht⟩
def Cv (el n:Nat) (q:Oq) (len cap:Nat) (cs:List V):cq:=fun h=>
 cs.length=len*n∧aZ cs∧len≤cap∧
   ((q=none∧cap=0∧h=fun _=>none)∨∃id off l,q=some (id,off)∧off+cap*n≤l.length∧(l.drop off).take cs.length=cs∧cR id el l h)
section
variable {el n len cap:Nat} {q:Oq} {cs:List V}
theorem az.Mf (h:az B H L) (el n:Nat):az B H (Cv el n none 0 0 []::L):=
 h.QJ.imp fun g hg=>⟨by simp,fun v hv=>by simp at hv,Nat.le_refl _,.inl ⟨rfl,rfl,hg⟩⟩
theorem az.J1 (h:az B H (Cv el n q len cap cs::L)):cs.length=len*n∧aZ cs∧len≤cap∧((q=none∧cap=0∧az B H L)∨∃id off l,q=some (id,off)∧off+cap*n≤l.length∧(l.drop off).take cs.length=cs∧az B H (cR id el l::L)):=by
 obtain⟨g,h1,h2,h3,h4,⟨a,b,c,d⟩,h6⟩:=h.ex;refine⟨a,b,c, ?_⟩;rcases d with⟨d1,d2,d3⟩|⟨id,off,l,d1,d2,d3,d4⟩
 ·exact .inl ⟨d1,d2,h.drop⟩
 ·exact .inr ⟨id,off,l,d1,d2,d3,h.ok,h.J0,h.ro,g,h1,h2,h3,h4,d4,h6⟩
theorem az.unbuf {id off:Nat} {l:List V} (h:az B H (cR id el l::L)) (h1:cs.length=len*n) (h2:aZ cs) (h3:len≤cap) (h4:off+cap*n≤l.length) (h5:(l.drop off).take cs.length=cs):az B H (Cv el n (some (id,off)) len cap cs::L):=
 h.imp fun g hg=>⟨h1,h2,h3,.inr ⟨id,off,l,rfl,h4,h5,hg⟩⟩
theorem az.QK (h:az B H (Cv el n q len cap cs::L)):Rd H q cs:=by
 obtain⟨h1,h2,h3,⟨rfl,hc,_⟩|⟨id,off,l,rfl,h4,h5,h6⟩⟩:=h.J1
 ·left;have:len=0:=by omega
  rw[this,Nat.zero_mul] at h1;exact List.length_eq_zero_iff.1 h1
 ·exact .inr ⟨id,off,el,l,false,rfl,h6.get,h5⟩
theorem az.S4 (h:az B H (Cv el n q len cap cs::L)):UI H el n q len cap cs:=by
 obtain⟨h1,h2,h3,⟨rfl,hc,_⟩|⟨id,off,l,rfl,h4,h5,h6⟩⟩:=h.J1
 ·exact⟨h1,h2,h3,.inl ⟨rfl,hc⟩⟩
 ·exact⟨h1,h2,h3,.inr ⟨id,off,l,rfl,h6.get,h4,h5⟩⟩
theorem az.Cw (h:az B H L) {c:Nat} {l:List V} (h1:cs.length=len*n) (h2:aZ cs) (h3:len≤c) (h4:c*n≤l.length) (h5:l.take cs.length=cs):az B (H.alloc (.cells el l false)) (Cv el n (some (H.next,0)) len c cs::L):=
 (h.alloc el l).unbuf h1 h2 h3 (by omega) (by simpa using h5)
theorem az.Et {E:jU} {t u el n cE:Nat} {z:List V} (h:az B H (Cv el n q len cap cs::L)) (he:fD E t=some (el,n,cE,z))
 (hz:aZ z) (hzl:z.length=n) (hn:0<n) {m:Nat} {x:V} {src:List V} {ok:Nat→Bool} {cf:Nat→List V} (h1:lW H n cE z (ba E u) x=some (true,m,ok,cf)) (h2:ok m=true) (h3:cf m=src)
 (HA:src.length=m*n) (Ys:aZ src) (gY:(len+m)*(cE+1)≤70368744177664) {K:Oq→Nat→Nat→af→Prop}
 (hk:∀q' c' H',(q'=q∨∃i,q'=some (i,0))→az B H' (Cv el n q' (len+m) c' (cs++src)::L)→K q' (len+m) c' H'):aC E [t,u] [.slice q len cap,x] H K:=by
 have ho:=h.S4;simp only[aC,he,h1,h3,ay];have hcs:=ho.size;by_cases hroom:len+m≤cap
 ·have hb:Nat.ble (len+m) cap=true:=by simpa using hroom
  rw[hb,au];by_cases hm:m=0
  ·subst hm;have hs:src=[]:=by simp at HA;exact HA
   subst hs;simp only[Nat.beq,Bool.true_or,ay,cond_true];exact hk _ _ _ (.inl rfl) (by simpa using h)
  ·have hb:Nat.beq m 0=false:=by simp [hm]
   obtain⟨_,Af,Rk,⟨rfl,hc,_⟩|⟨id,off,l,rfl,h4,h5,h6⟩⟩:=h.J1
   ·omega
   ·have hle:(len+m)*n≤cap*n:=Nat.mul_le_mul_right _ hroom;rw[Nat.add_mul] at hle
    have hw:H.wr id (off+len*n) (m*n)=true:=by
     simp [af.wr,h6.get];omega
    simp only[hb,Bool.false_or,Option.isSome_some,Bool.true_and,h2,Option.getD_some,hw,ay,cond_false];refine hk _ _ _ (.inl rfl) (h6.store.unbuf ?_ ?_ hroom ?_ ?_)
    ·rw[List.length_append,hcs,HA,Nat.add_mul]
    ·exact ho.one.append Ys
    ·rw[gu];exact h4
    ·rw[←hcs];exact Pb h5 (by omega)
 ·have hb:Nat.ble (len+m) cap=false:=by simp;omega
  have Oy:Nat.ble ((len+m)*(cE+1)) 70368744177664=true:=by simpa using gY
  have hrow:oJ H n q len=true:=by
   by_cases h0:len=0
   ·subst h0;rfl
   ·have hne:cs≠[]:=by
     intro e;have:=ho.size;rw[e] at this;have:=Nat.mul_pos (Nat.pos_of_ne_zero h0) hn;simp at*;omega
    simp only[oJ,Bool.or_eq_true,Bool.and_eq_true];exact .inr ⟨ho.rd.some hne,ho.rd.Me (by rw[ho.size];omega) hne,qo (by rw[←ho.size,ho.rd.all hne];exact ho.one)⟩
  have hold:(bif Nat.beq len 0 then [] else H.sub (q.getD (0,0)).1 (q.getD (0,0)).2 (len*n))=cs:=by
   by_cases h0:len=0
   ·subst h0;have:=ho.size;simp at this;subst this;rfl
   ·have hz:Nat.beq len 0=false:=by simp [h0]
    have hne:cs≠[]:=by
     intro e;have:=ho.size;rw[e] at this;have:=Nat.mul_pos (Nat.pos_of_ne_zero h0) hn;simp at*;omega
    simp only[hz,cond_false];rw[←ho.size,ho.rd.all hne]
  rw[hb,ai,hrow,h2,Oy,hold];simp only[Bool.and_self,ay];intro c FJ FK;have hd:az B H L:=h.drop;refine hk _ _ _ (.inr ⟨_,rfl⟩) (hd.Cw ?_ ?_ FJ ?_ ?_)
  ·rw[List.length_append,hcs,HA,Nat.add_mul]
  ·exact ho.one.append Ys
  ·have:(c-(len+m))*n+(len+m)*n=c*n:=by rw[←Nat.add_mul];congr 1;omega
   rw[Nat.add_mul] at this;simp only[xk,ey,List.length_append,fO,hzl,hcs,HA];omega
  ·simp only[xk];rw[←List.append_assoc,List.take_left' rfl]
theorem az.yo {E:jU} {t u el n cE:Nat} {z:List V} (h:az B H (Cv el n q len cap cs::L)) (he:fD E t=some (el,n,cE,z))
 (hz:aZ z) (hzl:z.length=n) (hn:0<n) {m:Nat} {x:V} {src:List V} {ok:Nat→Bool} {cf:Nat→List V} (h1:lW H n cE z (ba E u) x=some (true,m,ok,cf)) (h2:ok m=true) (h3:cf m=src)
 (HA:src.length=m*n) (Ys:aZ src) (gY:(len+m)*(cE+1)≤70368744177664) {K:Oq→Nat→Nat→af→Prop}
 (hk:∀q' c' H',az B H' (Cv el n q' (len+m) c' (cs++src)::L)→K q' (len+m) c' H'):aC E [t,u] [.slice q len cap,x] H K:=
 h.Et he hz hzl hn h1 h2 h3 HA Ys gY fun q' c' H' _=>hk q' c' H'
theorem yp {n cE:Nat} {z:List V} {k:Option bY} {x:V} (h:jc k=true):lW H n cE z k x=match kK H n x with|some (m,ok,cs)=>some (true,m,ok,cs)|none=>none:=by
 unfold lW;split
 ·cases h
 ·rw[h];rfl
theorem az.append {E:jU} {t u el n cE:Nat} {z:List V} (h:az B H (Cv el n q len cap cs::L)) (he:fD E t=some (el,n,cE,z)) (hu:jc (ba E u)=true)
 (hz:aZ z) (hzl:z.length=n) (hn:0<n) {m:Nat} {x:V} {src:List V} (hx:SY H n x m src) (gY:(len+m)*(cE+1)≤70368744177664) {K:Oq→Nat→Nat→af→Prop}
 (hk:∀q' c' H',az B H' (Cv el n q' (len+m) c' (cs++src)::L)→K q' (len+m) c' H'):aC E [t,u] [.slice q len cap,x] H K:=by
 obtain⟨ok,cf,h1,h2,h3⟩:=Er hx hn;exact h.yo he hz hzl hn (by rw[yp hu,h1]) h2 h3 hx.1 hx.2.1 gY hk
theorem az.Pc {E:jU} {t u el n cE:Nat} {z:List V} (h:az B H (Cv el n q len cap cs::L)) (he:fD E t=some (el,n,cE,z)) (hu:ba E u=some (.int .i64))
 (hz:aZ z) (hzl:z.length=n) (hn:0<n) {m:Int} (h0:0≤m) (gY:(len+m.toNat)*(cE+1)≤70368744177664) {K:Oq→Nat→Nat→af→Prop}
 (hk:∀q' c' H',az B H' (Cv el n q' (len+m.toNat) c' (cs++gQ m.toNat z)::L)→K q' (len+m.toNat) c' H'):aC E [t,u] [.slice q len cap,.int .i64 m] H K:=by
 have hb:m*(cE+1)≤70368744177664:=by
  have h1:m.toNat*(cE+1)≤(len+m.toNat)*(cE+1):=Nat.mul_le_mul_right _ (by omega);have h2:((m.toNat*(cE+1):Nat):Int)=m*(cE+1):=by rw[Int.natCast_mul,Int.toNat_of_nonneg h0];rfl
  omega
 refine h.yo (x:=.int .i64 m) (u:=u) (ok:=fun _=>true) (cf:=fun j=>ey j z) he hz hzl hn ?_ rfl rfl ?_ (gm hz _) gY hk
 ·rw[hu];show some (decide (0≤m)&&decide (m*(cE+1)≤70368744177664),_)=_
  rw[decide_eq_true h0,decide_eq_true hb];rfl
 ·show (gQ _ z).length=_
  rw[fO,hzl]
end
def bd (bs:List UInt8):List V:=bs.map fun b=>.int .u8 b.toNat
def jK (bs:List UInt8):ByteArray:=⟨bs.toArray⟩
@[simp] theorem nR (bs:List UInt8):(bd bs).length=bs.length:=by simp [bd]
@[simp] theorem S5:bd []=[]:=rfl
@[simp] theorem jk (a b:List UInt8):bd (a++b)=bd a++bd b:=by simp [bd]
theorem lP (a:List UInt8) (n:Nat):(bd a).take n=bd (a.take n):=by simp [bd]
theorem px (a:List UInt8) (n:Nat):(bd a).drop n=bd (a.drop n):=by simp [bd]
theorem jl (bs:List UInt8):aZ (bd bs):=by
 intro v hv;simp only[bd,List.mem_map] at hv;obtain⟨b,_,rfl⟩:=hv;rfl
theorem yq:∀{bs:List UInt8} {i:Nat} (h:i<bs.length),ae (bd bs) i=.int .u8 (bs[i].toNat:Int)
 |b::bs,0,h=>rfl
 |b::bs,i+1,h=>by
  show ae (bd bs) i=_
  rw[yq (Nat.lt_of_succ_lt_succ h)];rfl
theorem yr:∀bs:List UInt8,Gh (.int .u8) (bd bs)=true
 |[]=>rfl
 |b::bs=>by
  show (V.av (.int .u8) (.int .u8 (b.toNat:Int))&&Gh (.int .u8) (bd bs))=true
  rw[yr bs];rfl
theorem og:∀(bs:List UInt8) (acc:ByteArray),cX (bd bs) acc=⟨acc.data++bs.toArray⟩
 |[],acc=>by simp [cX,bd]
 |b::bs,acc=>by
  show cX (bd bs) (acc.push (UInt8.ofNat (V.aa (.int .u8 (b.toNat:Int))).toNat))=_
  rw[og bs];simp [ByteArray.push]
theorem GN (bs:List UInt8):cX (bd bs) ByteArray.empty=jK bs:=by
 rw[og];show (⟨#[]++bs.toArray⟩:ByteArray)=⟨bs.toArray⟩
 simp
theorem J2 {a b:List UInt8}:jK a=jK b↔a=b:=by
 constructor
 ·intro h;have:=congrArg (fun s=>s.data.toList) h;simpa [jK] using this
 ·rintro rfl;rfl
theorem J3:jK []=ByteArray.empty:=rfl
def mn (H:af) (q:Oq) (bs:List UInt8):Prop:=Rd H q (bd bs)
def Wz (el:Nat) (q:Oq) (cap:Nat) (bs:List UInt8):cq:=Cv el 1 q bs.length cap (bd bs)
theorem az.iY {el cap:Nat} {q:Oq} {bs:List UInt8} (h:az B H (Wz el q cap bs::L)):mn H q bs:=h.QK
theorem mn.src {q:Oq} {bs:List UInt8} (h:mn H q bs) (c:Nat):SY H 1 (.slice q bs.length c) bs.length (bd bs):=
 ⟨by simp,jl bs,.inl ⟨q,c,rfl,h⟩⟩
theorem mn.part {q:Oq} {bs:List UInt8} (h:mn H q bs) (i k:Nat) (hi:i+k≤bs.length):mn H (bJ q i) ((bs.drop i).take k):=by
 cases q with
 |none=>
  rcases h with h|⟨_,_,_,_,_,h,_⟩
  ·have:bs=[]:=by simpa [bd] using h
   subst this;left;simp
  ·cases h
 |some q=>
  have:=Rd.part h (q:=some q) (id:=q.1) (off:=q.2) rfl i k (by simpa using hi);unfold mn;rw[←lP, ←px];exact this
theorem mn.nil (H:af) (q:Oq):mn H q []:=.inl rfl
theorem mn.at {q:Oq} {bs:List UInt8} (h:mn H q bs) {i:Nat} (hi:i<bs.length):q.isSome=true∧H.inb (q.getD (0,0)).1 ((q.getD (0,0)).2+i) 1=true∧H.cell (q.getD (0,0)).1 ((q.getD (0,0)).2+i)=.int .u8 (bs[i].toNat:Int):=by
 have hne:bd bs≠[]:=by
  intro e;have:=congrArg List.length e;simp at this;subst this;simp at hi
 refine⟨Rd.some h hne,Rd.inb h (by simp;omega) hne, ?_⟩;rw[Rd.cell h (by simpa using hi),yq hi]
theorem mn.gO {q:Oq} {bs:List UInt8} (h:mn H q bs):gO H q bs.length=true:=by
 unfold Am.gO;by_cases h0:bs=[]
 ·subst h0;simp [Nat.beq]
 ·have hne:bd bs≠[]:=by
   intro e;have:=congrArg List.length e;simp at this;exact h0 this
  have h4:=Rd.Me h (k:=bs.length) (by simp) hne
  have h5:H.sub (q.getD (0,0)).1 (q.getD (0,0)).2 bs.length=bd bs:=by
   have:=Rd.all h hne;simpa using this
  rw[h4,h5,yr];simp
theorem mn.gP {q:Oq} {bs:List UInt8} (h:mn H q bs):gP H q bs.length=jK bs:=by
 unfold Am.gP;by_cases h0:bs=[]
 ·subst h0;have e:Nat.beq ([]:List UInt8).length 0=true:=rfl;rw[e,Bool.or_true,cond_true,J3]
 ·have hne:bd bs≠[]:=by
   intro e;have:=congrArg List.length e;simp at this;exact h0 this
  have h1:=Rd.some h hne;have h2:q.isNone=false:=by cases q<;>simp_all
  have h3:Nat.beq bs.length 0=false:=by simp [h0]
  have h5:H.sub (q.getD (0,0)).1 (q.getD (0,0)).2 bs.length=bd bs:=by
   have:=Rd.all h hne;simpa using this
  rw[h2,h3,h5,GN];rfl
theorem dI {id:Nat} {e:TypeId} {cs:List V} {ro:Bool} (hg:H.get id=some (.cells e cs ro)) (off n:Nat):H.inb id off n=Nat.ble (off+n) cs.length:=by simp only[af.inb,hg]
theorem fY {id:Nat} {e:TypeId} {cs:List V} (hg:H.get id=some (.cells e cs false)) (off n:Nat):H.wr id off n=Nat.ble (off+n) cs.length:=by simp only[af.wr,hg,Bool.not_false,Bool.true_and]
theorem aY {id:Nat} {e:TypeId} {cs:List V} {ro:Bool} (hg:H.get id=some (.cells e cs ro)) (off:Nat):H.cell id off=ae cs off:=by simp only[af.cell,af.cs,hg]
theorem kg {id:Nat} {e:TypeId} {cs:List V} {ro:Bool} (hg:H.get id=some (.cells e cs ro)) (off n:Nat):H.sub id off n=(cs.drop off).take n:=by simp only[af.sub,af.cs,hg]
def lE (B:af) (L:List cq) (q:Oq) (bs:List UInt8):Prop:=∀H,az B H L→mn H q bs
theorem lE.nil (B:af) (L:List cq) (q:Oq):lE B L q []:=fun H _=>mn.nil H q
theorem lE.part {q:Oq} {bs:List UInt8} (h:lE B L q bs) (i k:Nat) (hi:i+k≤bs.length):lE B L (bJ q i) ((bs.drop i).take k):=fun H hs=>(h H hs).part i k hi
theorem lE.bO {q:Oq} {bs:List UInt8} (h:lE B L q bs) (A:cq):lE B (A::L) q bs:=fun H hs=>h H hs.drop
theorem lE.of {q:Oq} {bs:List UInt8} (h:mn B q bs):lE B L q bs:=fun H hs=>hs.rd h
theorem lE.Z1 {el cap:Nat} {q:Oq} {bs:List UInt8}:lE B (Wz el q cap bs::L) q bs:=fun H hs=>hs.iY
@[simp] theorem gv (q:Oq):bJ q 0=q:=by rcases q with _|⟨a,b⟩<;>rfl
@[simp] theorem S6 (q:Oq) (a b:Nat):bJ (bJ q a) b=bJ q (a+b):=by rcases q with _|⟨x,y⟩<;>simp [bJ,Nat.add_assoc]
theorem aO (c a b:Bool):aR c a b=if c=true then a else b:=by cases c<;>cases a<;>cases b<;>rfl
end Go.Am
end
