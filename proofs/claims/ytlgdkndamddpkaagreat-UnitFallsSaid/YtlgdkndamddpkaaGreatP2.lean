/- Part 2 of what the law UnitFalls wants. -/
import Derived.Scope
import Derived.IntWalk
import Derived.Laws.Externs
import Derived.Test.YtlgdkndamddpkaaGreatProg
import Derived.KernelRfl
import Derived.Lib.Builder
import Derived.Lib.UnsafeStr
import Derived.Lib.Walk
import Derived.WalkKit
import Derived.Test.YtlgdkndamddpkaaGreatP1
set_option maxRecDepth 100000
set_option linter.unusedSimpArgs false
set_option linter.unusedVariables false
set_option linter.unusedSectionVars false
open List Option
section
namespace Go.Am
section
variable {E:kG} {H0:ai} {ρ0:dK} {w0:World} {ann:bS} {N:Nat} {ρ lam:dK} {S:St} {a:Act} {w:World}
theorem za {g:Value→ByteArray→Sem (ForInStep ByteArray)} (hg:∀n r,g (.int .u8 n) r=pure (.yield (r.push (UInt8.ofNat n.toNat)))):
 ∀(vs:List V) (us:List Value) (acc:ByteArray),eU ρ vs us→HG (.int .u8) vs=true→
 (forIn us acc g:Sem ByteArray).run E.P w=.ok (dG vs acc) w
 |[],us,acc,h,_=>by rw[h.gu];simp [dG]
 |v::vs,us,acc,h,hk=>by
  obtain⟨u,m,rfl,h1,h2⟩:=h.dB;rw[HG,Bool.and_eq_true] at hk
  have hv:∃n,v=.int .u8 n:=by
   cases v<;>simp [V.ax] at hk
   exact⟨_,by rw[hk.1]⟩
  obtain⟨n,rfl⟩:=hv;rw[h1.iy];have ih:=za hg vs m (acc.push (UInt8.ofNat n.toNat)) h2 hk.2;simp only[forIn_cons,hg,Sem.run_bind,Sem.run_pure,Result.andThen_ok,dG,V.aa];exact ih
theorem HU {p:Nat×Nat} {c:Nat} {x:Value} (hx:VR ρ (.slice (some p) 0 c) x):(Conv.bytesToString x).run E.P w=.ok (.string .empty) w:=by
 obtain⟨id,off⟩:=p;rcases hx.fj with⟨b,_,rfl⟩|⟨_,_,a,rfl⟩
 ·simp [Conv.bytesToString,loadCells,loadCellsFrom]
 ·simp [Conv.bytesToString,loadCells,loadCellsFrom]
theorem FJ {H:ai} (hr:HR ρ H w) {id off len c:Nat} {x:Value} (hx:VR ρ (.slice (some (id,off)) len c) x) (h:H.inb id off len=true) (hk:HG (.int .u8) (H.sub id off len)=true):
 (Conv.bytesToString x).run E.P w=.ok (.string (dG (H.sub id off len) ByteArray.empty)) w:=by
 obtain⟨e,cs,ro,hg,hle,b,hb,cs',fz,hcell,hvs,_,_⟩:=yS hr h;rcases hx.fj with⟨b',hb',rfl⟩|⟨h0,_,a,rfl⟩;rotate_left
 ·subst h0;simp [Conv.bytesToString,loadCells,loadCellsFrom,ai.sub,dG]
 rw[hb] at hb';cases hb';have hsub:H.sub id off len=(cs.drop off).take len:=by simp [ai.sub,ai.cs,hg]
 have hlen:cs'.size=cs.length:=by have:=hvs.1;simp at this;omega
 have hrun:=run_loadCells_list (P:=E.P) w ⟨b,off,none⟩ ((cs'.toList.drop off).take len) (by
  intro j v hv;rw[gb,qT hcell];rw[List.getElem?_take] at hv;split at hv
  ·rw[List.getElem?_drop] at hv;simpa using hv
  ·cases hv)
 have hl:((cs'.toList.drop off).take len).length=len:=by simp;omega
 rw[hl] at hrun;simp only[Conv.bytesToString,Sem.run_bind,hrun,Result.andThen_ok, ←Array.forIn_toList];rw[za (E:=E) (fun n r=>rfl) (H.sub id off len) ((cs'.toList.drop off).take len) ByteArray.empty (by rw[hsub];exact(hvs.drop off).take len) hk];rfl
theorem w7 {o:Oper} {ev:Ev} {e:Operand→Value} (di:pR ρ lam ev e) {H:ai} (hr:HR ρ H w) {d:fS T} (h:dM E o.op ev H=some d) (hq:d.rq=true):∃v,(execOp e o).run E.P w=.ok (.value v) w∧TR ρ lam (if d.c=true then d.x else d.y) v:=by
 obtain⟨dst,op,type,jr,after,guard⟩:=o
 cases op with
 |load t a=>
  simp only[dM] at h;split at h
  ·rename_i id off ha;obtain⟨b,hb,he⟩:=(di.tv ha).vM
   have key:∀n,H.inb id off n=true→∃cs e ro,H.get id=some (.cells e cs ro)∧fU ρ e cs (!ro) w.heap[b]? ∧off+n≤cs.length:=by
    intro n hn;obtain⟨e,cs,ro,hg,hle,b',hb',hc⟩:=yS hr hn;rw[hb] at hb';cases hb';exact⟨cs,e,ro,hg,hc,hle⟩
   split at h
   ·rename_i k hk;cases h;simp only[fS.one,Bool.and_eq_true] at hq;obtain⟨cs,el,ro,hg,hc,hle⟩:=key 1 hq.1;have hcell:H.cell id off=ae cs off:=by simp [ai.cell,ai.cs,hg]
    obtain⟨v',h1,h2⟩:=oH (E:=E) (t:=t) (off:=off) (r:=true) (v:=(H.cell id off).TB k) hc (by
     simp only[mS,hk,hcell,some.injEq,Prod.mk.injEq,and_true];rw[hcell] at hq
     simp [hq.2];omega) rfl (fun cs' he=>by rw[V.sx hq.2] at he;have:=V.sy hq.2;rw[he] at this;cases this)
    exact⟨v',by simp [execOp,Instr.loadAt,he,Instr.sureAddr,h1],.v h2⟩
   ·rename_i hk;split at h
    ·rename_i ks n hks hn;cases h;simp only[fS.one,Bool.and_eq_true] at hq;obtain⟨cs,el,ro,hg,hc,hle⟩:=key n hq.1;have hsub:H.sub id off n=(cs.drop off).take n:=by simp [ai.sub,ai.cs,hg]
     obtain⟨v',h1,h2⟩:=oH (E:=E) (t:=t) (off:=off) (r:=true) (v:=.agg ((cs.drop off).take n)) hc (by
      simp only[mS,hk,hks,hn,some.injEq,Prod.mk.injEq,and_true]
      simpa using hle) rfl (fun cs' he=>by cases he;exact .inr (gf (hsub▸hq.2)))
     refine⟨v',by simp [execOp,Instr.loadAt,he,Instr.sureAddr,h1],.v ?_⟩;rw[lk hq.2 rfl,hsub];exact h2
    ·cases h
  ·cases h
 |convert s t x=>
  simp only[dM] at h;split at h
  ·rename_i ti p len c nj hk hx;obtain⟨ds,rO,hds⟩:=dP nj;obtain⟨dt,lg,hdt⟩:=bR hk;split at h
   ·rename_i el hs;rw[hs] at hds;cases iz hds;split at h
    ·rename_i hel;obtain⟨de,Tf,QS⟩:=bR hel;cases h;cases dt<;>simp [bw,cU] at hdt
     cases de<;>simp [bw,cU] at QS
     subst QS;have hv:=di.v hx;change eY H p len=true at hq
     show∃v,_∧TR ρ lam (T.v (V.cL (eZ H p len))) v
     unfold eY at hq;unfold eZ
     cases p with
     |none=>
      have he:=hv.lK;exact⟨.string .empty,by simp [execOp,convert,run_underlying rO,run_underlying lg,run_underlying Tf,he,Conv.bytesToString],.v (.cL _)⟩
     |some q=>
      obtain⟨id,off⟩:=q
      have EU:∃a n c',e x=.slice a n c':=by
       rcases hv.fj with⟨b,_,he⟩|⟨_,_,a,he⟩
       ·exact⟨_,_,_,he⟩
       ·exact⟨_,_,_,he⟩
      obtain⟨a,n,c',he⟩:=EU;by_cases h0:len=0
      ·subst h0;have hb:=HU (E:=E) (w:=w) hv;rw[he] at hb;exact⟨.string .empty,by simp [execOp,convert,run_underlying rO,run_underlying lg,run_underlying Tf,he,hb],.v (.cL _)⟩
      have hz:Nat.beq len 0=false:=by rw[aY];simp [h0]
      simp only[isNone_some,Bool.false_or,hz,getD_some,Bool.and_eq_true] at hq;have hb:=FJ (E:=E) hr hv hq.1 hq.2;rw[he] at hb;simp only[isNone_some,hz,Bool.or_self,cond_false,getD_some];exact⟨_,by simp [execOp,convert,run_underlying rO,run_underlying lg,run_underlying Tf,he,hb],.v (.cL _)⟩
    ·cases h
   ·cases h
  ·cases h
 |lookup t x i c=>
  simp only[dM] at h;split at h
  ·rename_i ti r k n nj hx hi;obtain⟨ds,rO,hds⟩:=dP nj;split at h
   ·rename_i kt et hsh;rw[hsh] at hds;cases ux hds;split at h
    ·rename_i k' ei hk hei;split at h
     ·rename_i z hz;split at h
      ·rename_i b y hy;obtain⟨dk,XZ,hdk⟩:=bR hk;have QT:dk=.int k':=by cases dk<;>simp_all [bw,cU]
       subst QT
       have X0:pG k k'=true∧eM H k r=true∧b=true:=by
        cases c<;>(cases h;simpa [fS.one] using hq)
       obtain⟨hkk,hok,hb⟩:=X0;have hkk:k=k':=by simpa using hkk
       subst hkk;obtain⟨z',EO,yl⟩:=RR hei hz ρ w;obtain⟨v',hv,hrun⟩:=Dy (E:=E) (n:=n) rO XZ EO yl hr (di.v hx) hok c;have hyy:=lN hy hb;have hi':=(di.v hi).iy
       cases c with
       |true=>
        cases h;simp only[if_true] at hrun;refine⟨.tuple #[v',.bool (lA H r n)],by simp [execOp,hi',hrun], ?_⟩;rw[hyy];exact .v (.gF (.cons hv (.cons (.bool _) (.nil ρ))))
       |false=>
        cases h;simp only[Bool.false_eq_true,if_false] at hrun;refine⟨v',by simp [execOp,hi',hrun], ?_⟩;rw[hyy];exact .v hv
      ·cases h
     ·cases h
    ·cases h
   ·cases h
  ·cases h
 |entry it=>
  simp only[dM] at h;split at h
  ·rename_i t id hit;split at h
   ·rename_i ti nj;split at h
    ·rename_i kt et hsh;split at h
     ·rename_i ra x rb y hx hy;cases h;simp only[fS.one,Bool.and_eq_true] at hq;obtain⟨b,hb,he⟩:=(di.tv hit).Fs;obtain⟨k,v,hrun,hk,hv⟩:=DA (E:=E) hr hb hq.1;refine⟨.tuple #[k,v],by simp [execOp,he,hrun], ?_⟩;rw[lN hx hq.2.1,lN hy hq.2.2];exact .v (.gF (.cons hk (.cons hv (.nil ρ))))
     ·cases h
    ·cases h
   ·cases h
  ·cases h
 |call c=>
  simp only[dM] at h;split at h
  ·rename_i t ts r EV hts hargs;split at h
   ·rename_i hk;obtain⟨dt,lg,hdt⟩:=bR hk;obtain⟨kt,et,rfl⟩:∃kt et,dt=.map kt et:=by cases dt<;>simp_all [bw,cU]
    cases h;have ha:eU ρ [.map r] (c.args.map e).toList:=by simpa using di.vs hargs
    obtain⟨x',r1,vy,hx',og⟩:=ha.dB;have xN:=og.gu;subst xN
    have qI:c.args.map e= #[x']:=by
     apply Array.ext';rw[vy]
    have Nc:c.argTypes[0]? =some t:=by
     rw[←Array.getElem?_toList,hts];rfl
    have hq:(r.isNone||H.isMap (r.getD 0))=true:=hq
    have hrun:(Builtin.len_ c.argTypes type (c.args.map e)).run E.P w=.ok (.int .i64 (yp H r)) w:=by
     rw[qI]
     cases r with
     |none=>
      cases hx';simp [Builtin.len_,Nc,run_underlying lg,yp,goInt]
     |some id=>
      have hg:=sS (by simpa using hq);obtain⟨b,hb,es',he,Hk⟩:=hr.wW id _ hg
      cases hx' with
      |map hb'=>
       rw[hb] at hb';cases hb';have hl:=FF Hk;simp [Builtin.len_,Nc,run_underlying lg,g8 (E:=E) he,yp,goInt,hl]
    refine⟨.int .i64 (yp H r), ?_,.v (.int _ _)⟩;simp only[execOp,resolve,EV,invoke,builtin,Sem.run_bind,Sem.run_pure,Result.andThen_ok,hrun]
   ·cases h
  ·cases h
 |_=>simp [dM] at h
theorem si {e:Operand→Value} {c:Call} {type:TypeId} {f:Operand} (hc:c.callee=.value f):resolve e c type=Deferred.ofValue (e f) (c.args.map e):=by
 simp [resolve,hc]
theorem zb {fn:Func} {f:Nat} (h:E.P.funcs[f]? =some fn):(fn.name == "runtime.NumGoroutine")=false:=by
 have h1:=List.all_eq_true.1 E.names fn (by
  rw[Array.mem_toList_iff]
  exact Array.mem_of_getElem? h)
 simpa using h1
theorem NW {e:Operand→Value} {o:Oper} {c:Call} {f:Operand} {g:FuncId} {fi cap:Array Value} {fn:Func} (ho:o.op=.call c) (hc:c.callee=.value f) (he:e f=.func (.func g) fi cap) (hf:E.P.funcs[g]? =some fn) (hb:fn.body.isSome=true) (w:World):(execOp e o).run E.P w=.ok (.enter g (fi++c.args.map e++cap)) w:=by
 have hn:¬fn.name= "runtime.NumGoroutine" :=by simpa using zb hf
 have hb':¬fn.body=none:=by cases h:fn.body<;>simp_all
 simp [execOp,ho,si hc,he,Deferred.ofValue,invoke,callFunc,hf,hn,hb']
theorem uz {e:Operand→Value} {o:Oper} {c:Call} {f:Operand} {g:FuncId} {fi cap:Array Value} (ho:o.op=.call c) (hc:c.callee=.value f) (he:e f=.func (.func g) fi cap) (w:World):(execOp e o).run E.P w=(callFunc g (fi++c.args.map e++cap)).run E.P w:=by
 simp [execOp,ho,si hc,he,Deferred.ofValue,invoke]
theorem cH {P:Program} {o:Oper} {a:Act} {next:Act→World→Prop} {Q:Exit→Act→World→Prop} {w w':World} {v:Value} (h:(execOp a.eval o).run P w=.ok (.value v) w') (hn:next (a.put o.dst v) w'):o.wp P a w next Q:=by
 unfold Oper.wp;rw[h];exact hn
theorem vS {P:Program} {o:Oper} {a:Act} {next:Act→World→Prop} {Q:Exit→Act→World→Prop} {w w':World} (h:(execOp a.eval o).run P w=.ok .skip w') (hn:next (a.put o.dst undef) w'):o.wp P a w next Q:=by
 unfold Oper.wp;rw[h];exact hn
theorem gq (h:SR H0 ρ0 w0 ann N ρ lam S a w) {o:Oper} {r:Bool} {x:T} {H':ai} (ho:cn E o.op (cY S.tm) S.hp=some (r,x,H')) (hr:r=true):∃ρ' v w',(execOp a.eval o).run E.P w=.ok (.value v) w'∧SR H0 ρ0 w0 ann N ρ' lam {S with hp:=H'} a w'∧TR ρ' lam x v:=by
 have di:=h.ev;obtain⟨dst,op,type,jr,after,guard⟩:=o
 cases op with
 |buildSlice t len parts=>
  simp only[cn] at ho;split at ho
  ·rename_i ti ps nj hps;obtain⟨ds,rO,hds⟩:=dP nj;split at ho
   ·rename_i el hsh;rw[hsh] at hds;cases iz hds;split at ho
    ·rename_i n ei hsz hei;split at ho
     ·rename_i z hz;obtain⟨z',EO,yl,hz3⟩:=vQ (E:=E) hei hz ρ w
      cases hb:(Nat.beq z.cells.length n&&sF n&&Nat.ble (len*n) 16777216) with
      |false=>simp [hb] at ho
      |true=>
       simp only[hb,cond_true] at ho;simp only[Bool.and_eq_true] at hb;have hn:z.cells.length=n:=Nat.eq_of_beq_eq_true hb.1.1
       have hp:0<n:=by
        have:=hb.1.2
        cases n with
        |zero=>cases this
        |succ n=>omega
       have hle:len*n≤16777216:=Nat.le_of_ble_eq_true hb.2;split at ho
       ·rename_i r' cs hcs;simp only[some.injEq,Prod.mk.injEq] at ho;obtain⟨rfl,rfl,rfl⟩:=ho;obtain⟨h1,h2⟩:=mY di hps;have ER:(parts.map fun p=>(p.1,a.eval p.2)).toList=parts.toList.map fun p=>(p.1,a.eval p.2):=by simp
        obtain⟨zc,Na⟩:∃zc:Array Value,zc=if len*n=0 then #[] else z'.cells:=⟨_,rfl⟩
        have hrow:eU ρ (ia len z.cells) ((Array.range (len*n)).map (zc[· % zc.size]!)).toList:=by
         by_cases h0:len*n=0
         ·have hl:len=0:=by
           rcases Nat.mul_eq_zero.1 h0 with h|h
           ·exact h
           ·omega
          subst hl;simpa [ia] using eU.nil ρ
         ·rw[if_neg h0] at Na;rw[Na];exact FE yl hn hp
        obtain⟨out',h3,h4,h5⟩:=oG (E:=E) (place':=fun j=>some (j*n,n)) (by
         intro i off t m AA hm;simp only[some.injEq,Prod.mk.injEq] at AA⊢;obtain⟨h1,rfl⟩:=AA;rw[hsz] at hm
         exact⟨h1,Option.some.inj hm⟩) h1 h2 hrow (gG hz3 len) hcs hr
        rw[←ER] at h3;have QU:iA (.cells out' el) w {w with heap:=w.heap.push (.cells out' el)}:=⟨rfl,rfl,rfl,rfl⟩
        refine⟨_,.slice (some ⟨w.heap.size,0,none⟩) len len,{w with heap:=w.heap.push (.cells out' el)}, ?_,h.Dr QU (x:=.cells el cs false) (iH h4 h5),
         .v (.slice _ _ (by rw[eI,if_pos rfl]))⟩
        have ik:¬len*n>2 ^ 24:=by omega
        by_cases h0:len*n=0
        ·rw[if_pos h0] at Na;subst Na;simp only[execOp,Instr.buildSlice,Sem.run_bind,run_underlying rO,Result.andThen_ok,fl hsz,if_neg ik,if_pos h0,h3,Sem.run_pure,newRow,newObj];rfl
        ·rw[if_neg h0] at Na;subst Na;simp only[execOp,Instr.buildSlice,Sem.run_bind,run_underlying rO,Result.andThen_ok,fl hsz,if_neg ik,if_neg h0,EO,h3,Sem.run_pure,newRow,newObj];rfl
       ·cases ho
     ·cases ho
    ·cases ho
   ·cases ho
  ·cases ho
 |makeSlice t len cap=>
  simp only[cn] at ho;split at ho
  ·rename_i el n cT z k l k' c hel hl hc
   simp only[some.injEq,Prod.mk.injEq] at ho;obtain⟨rfl,rfl,rfl⟩:=ho;simp only[Bool.and_eq_true,decide_eq_true_eq] at hr;obtain⟨dC,z',lg,hi,hz,hsz,hby,hzl,hpos,hzs,Th,QM⟩:=qU hel;have e1:=(di.v hl).iy;have e2:=(di.v hc).iy;have hrun:=A8 (E:=E) (w:=w) (t:=t) (cT:=0) (n:=0) (z:=[]) lg hi hz (by omega) (by omega) (k:=k) (k':=k') hr.1 hr.2.1 (by rw[hby];exact hr.2.2);have hp:iA (.cells (Builtin.zeroCells z'.cells c.toNat) el) w (w.alloc (.cells (Builtin.zeroCells z'.cells c.toNat) el)):=⟨rfl,rfl,rfl,rfl⟩
   exact⟨_,.slice (some ⟨w.heap.size,0,none⟩) l.toNat c.toNat,w.alloc (.cells (Builtin.zeroCells z'.cells c.toNat) el),by simp [execOp,e1,e2,hrun],h.Dr hp (x:=.cells el (ia c.toNat z) false) (iH (mG (QM ρ) hzl hpos _) (gG Th _)),
    .v (.slice _ _ (by rw[eI,if_pos rfl]))⟩
  ·cases ho
 |convert s d x=>
  simp only[cn] at ho;split at ho
  ·rename_i p len cap ti hk hx nj;obtain⟨ds,rO,hds⟩:=bR hk;obtain⟨dd,hud,QV⟩:=dP nj;split at ho
   ·rename_i e hsh;rw[hsh] at QV;cases iz QV;split at ho
    ·rename_i hel;obtain⟨de,Tf,QS⟩:=bR hel;simp only[some.injEq,Prod.mk.injEq] at ho;obtain⟨rfl,rfl,rfl⟩:=ho;simp only[Bool.and_eq_true] at hr;obtain⟨Us,hp,hcap,ES⟩:=hr;have Us:s=d:=Nat.eq_of_beq_eq_true Us;subst Us;cases de<;>simp [bw,cU] at QS
     subst QS
     cases p with
     |none=>cases hp
     |some q=>
      obtain⟨id,off⟩:=q;obtain⟨e',cs,b,hg,hle,hb,hc⟩:=Dx h.hr ES;have hv:=di.v hx;rcases hv.fj with⟨b',hb',he⟩|⟨h0,h1,ad,he⟩
      ·simp only[getD_some] at hb;rw[hb] at hb';cases hb';obtain⟨w',g1,g2,g3⟩:=yW (E:=E) (off:=off) hc;have hs:=h.Ds hg rfl rfl hb g3 (y:=.cells e' cs false) g2;rw[uw hg] at hs;exact⟨ρ,_,w',by simp [execOp,convert,run_underlying hud,run_underlying Tf,he,g1],hs,.v (.slice _ _ hb)⟩
      ·rw[h1] at hcap;cases hcap
    ·cases ho
   ·cases ho
  ·cases ho
 |call c=>
  simp only[cn] at ho;split at ho
  ·rename_i t ts p l cp x EV hts hargs;split at ho
   ·rename_i el n cT z hel
    split at ho
    ·rename_i m ok cs hsrc;simp only[some.injEq,Prod.mk.injEq,kH,kI,hsrc] at ho;obtain⟨rfl,rfl,rfl⟩:=ho;have ha:eU ρ [.slice p l cp,x] (c.args.map a.eval).toList:=by simpa using di.vs hargs
     obtain⟨s',r1,vy,hs',og⟩:=ha.dB;obtain⟨x',r2,xN,hx',tK⟩:=og.dB;have QN:=tK.gu;subst QN;subst xN
     have qI:c.args.map a.eval= #[s',x']:=by
      apply Array.ext';rw[vy]
     have Nc:c.argTypes[0]? =some t:=by
      rw[←Array.getElem?_toList,hts];rfl
     obtain⟨dC,z',lg,hi,hz,hsz,hby,hzl,hpos,hzs,Th,QM⟩:=qU hel;subst hsz;obtain⟨hlen,tJ⟩:=vR (E:=E) h.hr hx' hsrc
     obtain⟨xs,h1,h2,h3,h4⟩:=tJ (Nat.min m l) (Nat.min_le_left _ _) (by
      by_cases h0:Nat.min m l=0
      ·exact .inl h0
      ·rw[aY] at hr;simp [h0] at hr
       exact .inr hr.2.1)
     have EU:∃aX,s'=.slice aX l cp∧∀w',(match aX with|some ad=>storeCells ad xs.toList|none=>pure ()).run E.P w=.ok () w'→
      (Builtin.copy_ c.argTypes type (c.args.map a.eval)).run E.P w=.ok (.int .i64 ((Nat.min m l:Nat):Int)) w':=by
      have EU:∃aX,s'=.slice aX l cp:=by
       cases p with
       |none=>exact⟨_,hs'.lK⟩
       |some q=>
        obtain⟨id,off⟩:=q;rcases hs'.fj with⟨b,hb,he⟩|⟨h0,h1,ad,he⟩
        ·exact⟨_,he⟩
        ·exact⟨_,by rw[he,h0,h1]⟩
      obtain⟨aX,rfl⟩:=EU;refine⟨aX,rfl,fun w' hw=> ?_⟩;rw[qI]
      cases aX with
      |none=>
       simp at hw;subst hw;simp [Builtin.copy_,Nc,run_underlying lg,hlen,sizeOf,typeInfo,hi,h1,goInt]
      |some ad=>simp [Builtin.copy_,Nc,run_underlying lg,hlen,sizeOf,typeInfo,hi,h1,hw,goInt]
     obtain⟨aX,rfl,Ut⟩:=EU;by_cases h0:Nat.min m l=0
     ·have hxs:xs= #[]:=by
       have:=h2.1;rw[h4,h0] at this;apply Array.eq_empty_of_size_eq_zero;simpa using this.symm
      subst hxs;have hc:=Ut w (by cases aX<;>simp [pT]);rw[aY,decide_eq_true h0,cond_true];exact⟨ρ,.int .i64 (Nat.min m l:Nat),w,by simp only[execOp,resolve,EV,invoke,builtin,Sem.run_bind,Sem.run_pure,Result.andThen_ok,hc],h,.v (.int _ _)⟩
     ·rw[aY,decide_eq_false h0] at hr;rw[aY,decide_eq_false h0,cond_false];simp only[Bool.false_or,Bool.and_eq_true] at hr;obtain⟨hp,hok,ES⟩:=hr
      cases p with
      |none=>cases hp
      |some q=>
       obtain⟨id,off⟩:=q;simp only[getD_some] at ES⊢;obtain⟨e,ccs,b,hg,hle,hb,hc⟩:=Dx h.hr ES;rcases hs'.fj with⟨b',hb',he⟩|⟨X1,_,_⟩
       ·rw[hb] at hb';cases hb';cases he;obtain⟨w',g1,g2,g3⟩:=mF (E:=E) (off:=off) hc h2 h3 (by rw[h4];exact hle);have hst:S.hp.store id off (cs (Nat.min m l))=S.hp.put id (.cells e (bH ccs off (cs (Nat.min m l))) false):=by simp [ai.store,hg]
        rw[hst];have hc:=Ut w' g1;exact⟨ρ,.int .i64 (Nat.min m l:Nat),w',by simp only[execOp,resolve,EV,invoke,builtin,Sem.run_bind,Sem.run_pure,Result.andThen_ok,hc],h.Ds hg rfl rfl hb g3 g2,.v (.int _ _)⟩
       ·exact absurd (by rw[X1];exact Nat.min_zero m) h0
    ·cases ho
   ·cases ho
  ·rename_i t ts r k n EV hts hargs;split at ho
   ·rename_i ti nj;obtain⟨ds,rO,hds⟩:=dP nj;split at ho
    ·rename_i kt et hsh;rw[hsh] at hds;cases ux hds;split at ho
     ·rename_i k' hk;obtain⟨dk,XZ,hdk⟩:=bR hk;have QT:dk=.int k':=by cases dk<;>simp_all [bw,cU]
      subst QT;simp only[some.injEq,Prod.mk.injEq] at ho;obtain⟨rfl,rfl,rfl⟩:=ho;simp only[Bool.and_eq_true,nk,decide_eq_true_eq] at hr;obtain⟨hkk,hok⟩:=hr;subst hkk;have ha:eU ρ [.map r,.int k n] (c.args.map a.eval).toList:=by simpa using di.vs hargs
      obtain⟨x',r1,vy,hx',og⟩:=ha.dB;obtain⟨y',r2,xN,hy',tK⟩:=og.dB;have QN:=tK.gu;subst QN;subst xN;have hy:=hy'.iy;subst hy
      have qI:c.args.map a.eval= #[x',.int k n]:=by
       apply Array.ext';rw[vy]
      have Nc:c.argTypes[0]? =some t:=by
       rw[←Array.getElem?_toList,hts];rfl
      cases r with
      |none=>
       cases hx'
       have hrun:(Builtin.delete_ c.argTypes type (c.args.map a.eval)).run E.P w=.ok (.tuple #[]) w:=by
        rw[qI];simp [Builtin.delete_,Nc,run_underlying rO,fo (E:=E) XZ]
       refine⟨ρ,.tuple #[],w, ?_,h,.v (.tuple rfl (fun i x y hx=>by simp at hx))⟩;simp only[execOp,resolve,EV,invoke,builtin,Sem.run_bind,Sem.run_pure,Result.andThen_ok,hrun]
      |some id=>
       obtain⟨b,w',o',hb,hrun,QW,hg,ET,hrw,QX⟩:=Dz (E:=E) (ty:=type) (n:=n) (u:=0) rO XZ h.hr hx' hok Nc;rw[ET];refine⟨ρ,.tuple #[],w', ?_,h.Ds hg rfl hrw hb QW QX,.v (.tuple rfl (fun i x y hx=>by simp at hx))⟩;rw[←qI] at hrun;simp only[execOp,resolve,EV,invoke,builtin,Sem.run_bind,Sem.run_pure,Result.andThen_ok,hrun]
     ·cases ho
    ·cases ho
   ·cases ho
  ·rename_i t ts p l cp EV hts hargs;split at ho
   ·rename_i el n cT z hel
    simp only[some.injEq,Prod.mk.injEq] at ho;obtain⟨rfl,rfl,rfl⟩:=ho;have ha:eU ρ [.slice p l cp] (c.args.map a.eval).toList:=by simpa using di.vs hargs
    obtain⟨s',r1,vy,hs',og⟩:=ha.dB;have QN:=og.gu;subst QN
    have qI:c.args.map a.eval= #[s']:=by
     apply Array.ext';rw[vy]
    have Nc:c.argTypes[0]? =some t:=by
     rw[←Array.getElem?_toList,hts];rfl
    obtain⟨dC,z',lg,hi,hz,hsz,hby,hzl,hpos,hzs,Th,QM⟩:=qU hel;subst hsz
    have key:∀w',(Builtin.clear_ c.argTypes type #[s']).run E.P w=.ok (.tuple #[]) w'→
     (execOp a.eval ⟨dst,.call c,type,jr,after,guard⟩).run E.P w=.ok (.value (.tuple #[])) w':=by
     intro w' hw;simp only[execOp,resolve,EV,invoke,builtin,Sem.run_bind,Sem.run_pure,Result.andThen_ok,qI,hw]
    have nop:(p.isNone||Nat.beq l 0)=true→∃ρ' v w',(execOp a.eval ⟨dst,.call c,type,jr,after,guard⟩).run E.P w=.ok (.value v) w'∧
     SR H0 ρ0 w0 ann N ρ' lam {S with hp:=S.hp} a w'∧TR ρ' lam (.v (.tuple [])) v:=by
     intro hn;refine⟨ρ,_,w,key w ?_,h,.v (.tuple rfl (fun i x y hx=>by simp at hx))⟩
     cases p with
     |none=>rw[hs'.lK];simp [Builtin.clear_,Nc,run_underlying lg]
     |some q=>
      have X1:l=0:=Nat.eq_of_beq_eq_true (by simpa using hn);subst X1;obtain⟨id,off⟩:=q;rcases hs'.fj with⟨b,hb,he⟩|⟨_,_,ad,he⟩
      ·rw[he];simp [Builtin.clear_,Nc,run_underlying lg]
      ·rw[he];simp [Builtin.clear_,Nc,run_underlying lg]
    cases hn:(p.isNone||Nat.beq l 0) with
    |true=>simpa using nop hn
    |false=>
     rw[hn] at hr;simp only[Bool.false_or] at hr;simp only[cond_false]
     cases p with
     |none=>cases hn
     |some q=>
      obtain⟨id,off⟩:=q;simp only[getD_some] at hr⊢
      have X1:l≠0:=by
       rintro rfl;cases hn
      obtain⟨e,ccs,b,hg,hle,hb,hc⟩:=Dx h.hr hr;rcases hs'.fj with⟨b',hb',he⟩|⟨adU,_,_⟩
      ·rw[hb] at hb';cases hb';cases he;obtain⟨w',g1,g2,g3⟩:=mF (E:=E) (off:=off) hc (mG (QM ρ) hzl hpos l) (gG Th l) (by rw[gg,hzl];exact hle);have hst:S.hp.store id off (ef l z)=S.hp.put id (.cells e (bH ccs off (ef l z)) false):=by simp [ai.store,hg]
       rw[hst];refine⟨ρ,_,w',key w' ?_,h.Ds hg rfl rfl hb g3 g2,.v (.tuple rfl (fun i x y hx=>by simp at hx))⟩
       cases l with
       |zero=>exact absurd rfl X1
       |succ l=>simp [Builtin.clear_,Nc,run_underlying lg,zeroValue,typeInfo,hi,hz,g1]
      ·exact absurd adU X1
   ·cases ho
  ·cases ho
 |makeMap t rT=>
  cases rT with
  |some x=>simp [cn] at ho
  |none=>
   simp only[cn] at ho;split at ho
   ·simp only[some.injEq,Prod.mk.injEq] at ho;obtain⟨rfl,rfl,rfl⟩:=ho
    exact⟨_,.map (some w.heap.size),{w with heap:=w.heap.push (.map #[] 0)},by simp [execOp,Instr.makeMap,newObj,Sem.run],h.Dr (o:=.map #[] 0) ⟨rfl,rfl,rfl,rfl⟩ (x:=.map [] 0) ⟨#[],rfl,trivial⟩,
     .v (.map (by rw[eI,if_pos rfl]))⟩
   ·cases ho
 |range t x=>
  simp only[cn] at ho;split at ho
  ·rename_i ti r nj hx;obtain⟨ds,rO,hds⟩:=dP nj;split at ho
   ·rename_i kt et hsh;rw[hsh] at hds;cases ux hds;simp only[some.injEq,Prod.mk.injEq] at ho;obtain⟨rfl,rfl,rfl⟩:=ho;have hx':=di.v hx
    cases r with
    |none=>
     have hx0:a.eval x=.map none:=by
      revert hx';generalize a.eval x=x';intro hx';cases hx';rfl
     exact⟨_,.pointer (some ⟨w.heap.size,0,none⟩),{w with heap:=w.heap.push (.mapIter none 0 #[] 0)},by
      simp [execOp,Instr.range,run_underlying rO,newObj,Sem.run,hx0],
      h.Dr (o:=.mapIter none 0 #[] 0) ⟨rfl,rfl,rfl,rfl⟩ (x:=.dV none 0 [] 0) ⟨none,rfl,.yH⟩,.v (.dV t (by rw[eI,if_pos rfl]))⟩
    |some id=>
     have hg:=sS (by simpa using hr);obtain⟨b,hb,es',he,Hk⟩:=h.hr.wW id _ hg
     have hxe:a.eval x=.map (some b):=by
      revert hx';generalize a.eval x=x';intro hx'
      cases hx' with
      |map hb'=>rw[hb] at hb';cases hb';rfl
     refine⟨_,.pointer (some ⟨w.heap.size,0,none⟩),{w with heap:=w.heap.push (.mapIter (some b) (S.hp.clock id) #[] (S.hp.clock id))}, ?_,
      h.Dr (o:=.mapIter (some b) (S.hp.clock id) #[] (S.hp.clock id)) ⟨rfl,rfl,rfl,rfl⟩ (x:=.dV (some id) (S.hp.clock id) [] (S.hp.clock id)) ⟨some b,rfl,.map hb⟩,.v (.dV t (by rw[eI,if_pos rfl]))⟩
     simp [execOp,Instr.range,run_underlying rO,hxe,g8 (E:=E) he,newObj,Sem.run]
   ·cases ho
  ·cases ho
 |_=>simp [cn] at ho
theorem DB {R:mA} (hX:j9 E) (hR:∀f args H K,R.call f args H K→iG E f args H K) (hB:∀f args H K,R.call f args H K→∃fn,E.P.funcs[f]? =some fn∧fn.body.isSome=true) (h:SR H0 ρ0 w0 ann N ρ lam S a w) {o:Oper} {K:T→ai→Prop} (ho:bQ E R o.op o.type (cY S.tm) S.hp K) {next:Act→World→Prop} {Q:Exit→Act→World→Prop} (hn:∀x H' ρ' v w',K x H'→SR H0 ρ0 w0 ann N ρ' lam {S with hp:=H'} a w'→TR ρ' lam x v→next (a.put o.dst v) w'):o.wp E.P a w next Q:=by
 have di:=h.ev;obtain⟨dst,op,type,jr,after,guard⟩:=o
 cases op with
 |alloc t=>
  simp only[bQ] at ho;split at ho
  ·rename_i i hi;split at ho
   ·rename_i z hz;obtain⟨z',h1,h2,h3⟩:=vQ hi hz ρ w;have hp:iA (.cells z'.cells t) w {w with heap:=w.heap.push (.cells z'.cells t)}:=⟨rfl,rfl,rfl,rfl⟩;refine cH (v:=.pointer (some ⟨w.heap.size,0,none⟩)) (w':={w with heap:=w.heap.push (.cells z'.cells t)}) (by simp [execOp,Instr.alloc,h1,newVar,newRow]) ?_;exact hn _ _ _ _ _ ho (h.Dr hp (x:=.cells t z.cells false) (iH h2 h3)) (.v (.ay (by rw[eI,if_pos rfl])))
   ·exact ho.elim
  ·exact ho.elim
 |box t x=>
  simp only[bQ] at ho;split at ho
  ·rename_i v hv;split at ho
   ·rename_i r vs hvs;obtain⟨hr,ho⟩:=aW ho;obtain⟨h2,h3⟩:=iX (di.v hv) hvs hr;have hp:iA (.cells (a.eval x).cells t) w {w with heap:=w.heap.push (.cells (a.eval x).cells t)}:=⟨rfl,rfl,rfl,rfl⟩;refine cH (v:=.pointer (some ⟨w.heap.size,0,none⟩)) (w':={w with heap:=w.heap.push (.cells (a.eval x).cells t)}) (by simp [execOp,Instr.box,newVar,newRow]) ?_;exact hn _ _ _ _ _ ho (h.Dr hp (x:=.cells t vs false) (iH h2 h3)) (.v (.ay (by rw[eI,if_pos rfl])))
   ·exact ho.elim
  ·exact ho.elim
 |store t ad x=>
  simp only[bQ] at ho;split at ho
  ·rename_i id off v ha hx;split at ho
   ·rename_i r vs hvs;obtain⟨hr,ho⟩:=aW ho;rw[Bool.and_eq_true] at hr;have ES:=hr.2;unfold ai.wr at ES;split at ES
    ·rename_i e cs ro hg;rw[Bool.and_eq_true] at ES;have hro:ro=false:=by simpa using ES.1
     subst hro;obtain⟨b,hb,hc⟩:=h.hr.wW id _ hg;obtain⟨b',hb',he⟩:=(di.tv ha).vM;rw[hb] at hb';cases hb';obtain⟨w',h1,h2,h3⟩:=wY (E:=E) (t:=t) hc (di.v hx) hvs hr.1 (Nat.le_of_ble_eq_true ES.2);refine vS (w':=w') (by simp [execOp,Instr.storeAt,he,Instr.sureAddr,h1]) ?_;have hst:S.hp.store id off vs=S.hp.put id (.cells e (bH cs off vs) false):=by simp [ai.store,hg]
     rw[hst] at ho;exact hn _ _ _ _ _ ho (h.Ds hg rfl rfl hb h3 h2) .undef
    ·cases ES
   ·exact ho.elim
  ·exact ho.elim
 |call c=>
  simp only[bQ] at ho;split at ho
  ·rename_i f args hc hargs;split at ho
   ·rename_i fv hf
    have post:∀v v' H' ρ' w',(match tX E type v with|some (b,v')=>af b (K (.v v') H')|none=>False)→VR ρ' v v'→HR ρ' H' w'→lL S.hp ρ w H' ρ' w'→next (a.put dst v') w':=by
     intro v v' H' ρ' w' hk hv Xc hs;revert hk;split
     ·rename_i b y hy;intro hk;obtain⟨hb,hk⟩:=aW hk;rw[NO hy hb] at hk;exact hn _ _ _ _ _ hk (h.call hs Xc) (.v hv)
     ·exact fun hk=>hk.elim
    have main:∀(g:FuncId) (as0:List V) (fi cap:Array Value),a.eval f=.func (.func g) fi cap→eU ρ as0 (fi++c.args.map a.eval++cap).toList→
     (match (E.ext g).isSome with
      |true=>iT E g as0 S.hp fun v H'=>match tX E type v with|some (b,v')=>af b (K (.v v') H')|none=>False
      |false=>R.call g as0 S.hp fun v H'=>match tX E type v with|some (b,v')=>af b (K (.v v') H')|none=>False)→
     Oper.wp E.P ⟨dst,.call c,type,jr,after,guard⟩ a w next Q:=by
     intro g as0 fi cap he has ho;split at ho
     ·unfold iT at ho;split at ho
      ·rename_i x hx;rcases hX g x hx _ _ _ ho ρ w _ h.hr has with⟨v,v',w',H',ρ',hrun,hk,hv,Xc,hs⟩|⟨hrun,QY⟩
       ·exact cH (by rw[uz (E:=E) rfl hc he,hrun]) (post v v' H' ρ' w' hk hv Xc hs)
       ·unfold Oper.wp;rw[uz (E:=E) rfl hc he,hrun];refine QY.mono ?_;rintro e w' ⟨v,v',H',ρ',rfl,hk,hv,Xc,hs⟩;exact post v v' H' ρ' w' hk hv Xc hs
      ·exact ho.elim
     ·obtain⟨fn,hfn,hbody⟩:=hB _ _ _ _ ho;have hrun:=NW (E:=E) (e:=a.eval) (o:=⟨dst,.call c,type,jr,after,guard⟩) rfl hc he hfn hbody w;have QY:=hR _ _ _ _ ho ρ w _ h.hr has;unfold Oper.wp;rw[hrun];refine QY.mono ?_;rintro e w' ⟨v,v',H',ρ',rfl,hk,hv,Xc,hs⟩;exact post v v' H' ρ' w' hk hv Xc hs
    have CM:eU ρ args (c.args.map a.eval).toList:=by simpa using di.vs hargs
    unfold jV at ho;split at ho
    ·rename_i g cap;obtain⟨cap',he,hcap⟩:=(di.v hf).NL
     exact main g (args++cap) #[] cap' he (by
      rw[Array.toList_append,Array.toList_append]
      exact CM.append hcap) ho
    ·rename_i g first;obtain⟨first',he,Ti⟩:=(di.v hf).NM
     exact main g (first++args) first' #[] he (by
      rw[Array.toList_append,Array.toList_append]
      simpa using Ti.append CM) ho
    ·exact ho.elim
   ·exact ho.elim
  ·rename_i args hc hargs;obtain⟨q,n,cp,H',ρ',v,w',hk,hrun,hs,hv⟩:=Dw (E:=E) h (args':=c.args.map a.eval) (ty:=type) (by simpa using di.vs hargs) ho;refine cH ?_ (hn _ _ _ _ _ hk hs hv);have abm:(Builtin.append_ c.argTypes type (c.args.map a.eval)).run E.P w=.ok v w':=by simpa using hrun
   simp only[execOp,resolve,hc,invoke,builtin,Sem.run_bind,Sem.run_pure,Result.andThen_ok,abm]
  ·split at ho
   ·rename_i r x H' hs;obtain⟨hr,ho⟩:=aW ho;obtain⟨ρ',v,w',h1,h2,h3⟩:=gq h (o:=⟨dst,.call c,type,jr,after,guard⟩) hs hr;exact cH h1 (hn _ _ _ _ _ ho h2 h3)
   ·exact ho.elim
 |convert s d x=>
  simp only[bQ] at ho;split at ho
  ·rename_i cT ti hk hx nj
   split at ho
   ·rename_i el hsh;split at ho
    ·rename_i hel;obtain⟨hr,ho⟩:=aW ho;have ik:=Nat.le_of_ble_eq_true hr;obtain⟨ds,rO,hds⟩:=bR hk;obtain⟨dd,hud,QV⟩:=dP nj;rw[hsh] at QV;cases iz QV;obtain⟨de,Tf,QS⟩:=bR hel;cases de<;>simp [bw,cU] at QS
     subst QS;have he:=(di.v hx).vL;have QO:=grownCap_ge w cT.size 0 el
     have QP:=grownCap_le_maxLen w cT.size 0 el (by simp only[maxLen];omega)
     have hk:=ho (grownCap w cT.size 0 el) QO (by simp only[maxLen] at QP;omega);obtain⟨row,hrow⟩:∃row:Array Value,row=cT.data.map (fun b=>Value.int .u8 b.toNat)++Array.replicate (grownCap w cT.size 0 el-cT.size) (.int .u8 0):=⟨_,rfl⟩
     have QM:eU ρ (ia (grownCap w cT.size 0 el-cT.size) [.int .u8 0]) (Array.replicate (grownCap w cT.size 0 el-cT.size) (Value.int .u8 0)).toList:=by
      refine⟨by simp [gg], ?_⟩;intro i x y hx hy
      have hi:i<grownCap w cT.size 0 el-cT.size:=by
       rcases Nat.lt_or_ge i (grownCap w cT.size 0 el-cT.size) with h|h
       ·exact h
       ·rw[List.getElem?_eq_none (by simpa using h)] at hy;cases hy
      rw[yT (by simp) _ _ (by simpa using hi)] at hx;have h1:=mem_of_getElem? hx;have h2:=mem_of_getElem? hy;simp only[mem_singleton] at h1;simp at h2;rw[h1,h2.2];exact .int _ _
     have Nb:=(uv ρ cT).append QM
     have h1:=h.Dr (o:=.cells row el) (w':=w.drew.alloc (.cells row el)) ⟨rfl,rfl,rfl,rfl⟩ (x:=.cells el (yq (fc cT) (ia (grownCap w cT.size 0 el-cT.size) [.int .u8 0])) false)
      (iH (by rw[hrow];simpa [yq] using Nb) ((uu cT).append (gG (by intro v hv;simp at hv;rw[hv];rfl) _)))
     have hg:(S.hp.alloc (.cells el (yq (fc cT) (ia (grownCap w cT.size 0 el-cT.size) [.int .u8 0])) false)).get S.hp.next=some (.cells el (yq (fc cT) (ia (grownCap w cT.size 0 el-cT.size) [.int .u8 0])) false):=by
      simp [ai.alloc]
     obtain⟨b,hb,hc⟩:=h1.hr.wW _ _ hg;obtain⟨w2,g1,g2,g3⟩:=yW (E:=E) (off:=0) hc;have hs:=h1.Ds hg rfl rfl hb g3 (y:=.cells el (yq (fc cT) (ia (grownCap w cT.size 0 el-cT.size) [.int .u8 0])) false) g2;rw[uw hg] at hs;have yk:b=w.heap.size:=by rw[eI,if_pos rfl] at hb;exact(Option.some.inj hb).symm
     subst yk;refine cH (v:=.slice (some ⟨w.heap.size,0,none⟩) cT.size (grownCap w cT.size 0 el)) (w':=w2) ?_ (hn _ _ _ _ _ hk hs (.v (.slice _ _ hb)));have hch:(choose (.appendCap cT.size 0 el)).run E.P w=.ok (grownCap w cT.size 0 el) w.drew:=by simp [Question.forced,grownCap]
     cases ds<;>simp [bw,cU] at hds
     simp only[execOp,convert,Sem.run_bind,run_underlying rO,run_underlying hud,run_underlying Tf,Result.andThen_ok,he,Conv.stringToBytes,hch,newRow, ←hrow];have hn2:(Sem.new (.cells row el) Sem.pure).run E.P w.drew=.ok w.heap.size (w.drew.alloc (.cells row el)):=rfl;simp [newObj,hn2,g1]
    ·exact ho.elim
   ·exact ho.elim
  ·split at ho
   ·rename_i r x' H' hs;obtain⟨hr,ho⟩:=aW ho;obtain⟨ρ',v,w',h1,h2,h3⟩:=gq h (o:=⟨dst,.convert s d x,type,jr,after,guard⟩) hs hr;exact cH h1 (hn _ _ _ _ _ ho h2 h3)
   ·exact ho.elim
 |mapUpdate t m x v=>
  simp only[bQ] at ho;split at ho
  ·rename_i ti r k n v' nj hm hx hv;obtain⟨ds,rO,hds⟩:=dP nj;split at ho
   ·rename_i kt et hsh;rw[hsh] at hds;cases ux hds;split at ho
    ·rename_i k' b y hk hy;obtain⟨dk,XZ,hdk⟩:=bR hk;have QT:dk=.int k':=by cases dk<;>simp_all [bw,cU]
     subst QT;replace ho:=aW ho;obtain⟨hq,ho⟩:=ho;simp only[Bool.and_eq_true,nk,decide_eq_true_eq] at hq;obtain⟨hkk,hsome,hok,hb⟩:=hq;subst hkk
     cases r with
     |none=>cases hsome
     |some id=>
      have hx':=(di.v hx).iy;obtain⟨bb,w',o',yk,hrun,QW,hg,gC,hrw,QX⟩:=xB (E:=E) (n:=n) rO XZ h.hr (di.v hm) hok (di.v hv);refine vS (w':=w') (by simp [execOp,hx',hrun]) ?_;simp only[getD_some] at ho;rw[gC] at ho;exact hn _ _ _ _ _ ho (h.Ds hg rfl hrw yk QW QX) .undef
    ·exact ho.elim
   ·exact ho.elim
  ·exact ho.elim
 |next it isStr=>
  cases isStr with
  |true=>simp [bQ,cn] at ho
  |false=>
   simp only[bQ] at ho;split at ho
   ·rename_i t id hit;obtain⟨b,hb,he⟩:=(di.tv hit).Fs;rcases A9 (E:=E) (ty:=type) h hb ho with⟨hk,hrun⟩|⟨H',w',k,v,hk,hrun,hs⟩
    ·exact cH (v:=.tuple #[.bool false]) (w':=w) (by simp [execOp,he,hrun]) (hn _ _ _ _ _ hk h (.v (.gF (.cons (.bool _) (.nil ρ)))))
    ·exact cH (v:=.tuple #[.bool true,k,v]) (w':=w') (by simp [execOp,he,hrun]) (hn _ _ _ _ _ hk hs (.v (.gF (.cons (.bool _) (.cons (.cB _) (.cons (.cB _) (.nil ρ)))))))
   ·exact ho.elim
 |makeMap t rT=>
  simp only[bQ] at ho;split at ho
  ·rename_i r x H' hs;obtain⟨hr,ho⟩:=aW ho;obtain⟨ρ',v,w',h1,h2,h3⟩:=gq h (o:=⟨dst,.makeMap t rT,type,jr,after,guard⟩) hs hr;exact cH h1 (hn _ _ _ _ _ ho h2 h3)
  ·exact ho.elim
 |range t x=>
  simp only[bQ] at ho;split at ho
  ·rename_i r x' H' hs;obtain⟨hr,ho⟩:=aW ho;obtain⟨ρ',v,w',h1,h2,h3⟩:=gq h (o:=⟨dst,.range t x,type,jr,after,guard⟩) hs hr;exact cH h1 (hn _ _ _ _ _ ho h2 h3)
  ·exact ho.elim
 |makeSlice t len cap=>
  simp only[bQ] at ho;split at ho
  ·rename_i r x H' hs;obtain⟨hr,ho⟩:=aW ho;obtain⟨ρ',v,w',h1,h2,h3⟩:=gq h (o:=⟨dst,.makeSlice t len cap,type,jr,after,guard⟩) hs hr;exact cH h1 (hn _ _ _ _ _ ho h2 h3)
  ·exact ho.elim
 |buildSlice t len parts=>
  simp only[bQ] at ho;split at ho
  ·rename_i r x H' hs;obtain⟨hr,ho⟩:=aW ho;obtain⟨ρ',v,w',h1,h2,h3⟩:=gq h (o:=⟨dst,.buildSlice t len parts,type,jr,after,guard⟩) hs hr;exact cH h1 (hn _ _ _ _ _ ho h2 h3)
  ·exact ho.elim
 |_=>simp [bQ,cn] at ho
theorem xb {R:mA} (hX:j9 E) (hR:∀f args H K,R.call f args H K→iG E f args H K) (hB:∀f args H K,R.call f args H K→∃fn,E.P.funcs[f]? =some fn∧fn.body.isSome=true) (h:SR H0 ρ0 w0 ann N ρ lam S a w) {o:Oper} {K:St→Prop} (hc:js E R ann N o S K) {next:Act→World→Prop} {Q:Exit→Act→World→Prop} (hn:∀S' ρ' dS a' w',SR H0 ρ0 w0 ann N ρ' dS S' a' w'→K S'→next a' w'):o.wp E.P a w next Q:=by
 have di:=h.ev
 have hL:∀s M,S.lo s=some M→∃b,lam s=some b∧vN ρ M w.heap[b]? :=by
  intro s M hM;obtain⟨b,h1,h2,_⟩:=h.lo s M hM;exact⟨b,h1,h2⟩
 unfold js at hc
 cases wM:HF E ann o with
 |pure=>
  simp only[wM] at hc;split at hc
  ·rename_i d hd;obtain⟨hr,hk⟩:=fS.fg hc;obtain⟨v,h1,h2⟩:=Dm (w:=w) di hd hr;obtain⟨hok,hk⟩:=eD.1 hk;exact cH h1 (hn _ _ _ _ _ (h.put h2 hok) hk)
  ·exact hc.elim
 |o5 s=>
  simp only[wM] at hc;split at hc
  ·rename_i d hd;obtain⟨hr,hk⟩:=fS.fg hc;obtain⟨v,h1,h2⟩:=FC (w:=w) di hd hr (hL s);obtain⟨hok,hk⟩:=eD.1 hk;exact cH h1 (hn _ _ _ _ _ (h.put h2 hok) hk)
  ·exact hc.elim
 |iS s=>
  simp only[wM] at hc;split at hc
  ·rename_i d hd;obtain⟨hr,hk⟩:=fS.fg hc;obtain⟨M,b,w',v,hM,hb,ho,hl,hx,hrun⟩:=Dt (w:=w) di hd hr (hL s);obtain⟨hok,hk⟩:=eD.1 hk;have h':=(h.setL hM hb ho hl).put hx hok;rcases hrun with hrun|⟨rfl,hrun⟩
   ·exact cH hrun (hn _ _ _ _ _ h' hk)
   ·exact vS hrun (hn _ _ _ _ _ h' hk)
  ·exact hc.elim
 |ua=>
  simp only[wM] at hc;split at hc
  ·rename_i d r L xM hd;obtain⟨hr,hk⟩:=aW hc;obtain⟨x,w',h1,h2,h3⟩:=HT (w:=w) di hd hr;obtain⟨hok,hk⟩:=eD.1 hk;have hs:=(h.abY h2 h3).put (dst:=some d) (x:=.lp d 0) (v:=.pointer (some ⟨w.heap.size,0,none⟩)) (.lp (by rw[eI,if_pos rfl])) hok;refine cH h1 ?_;rw[xM];exact hn _ _ _ _ _ hs hk
  ·exact hc.elim
 |kQ=>
  simp only[wM] at hc;split at hc
  ·rename_i d hd;obtain⟨hr,hk⟩:=fS.fg hc;obtain⟨v,h1,h2⟩:=w7 (w:=w) di h.hr hd hr;obtain⟨hok,hk⟩:=eD.1 hk;exact cH h1 (hn _ _ _ _ _ (h.put h2 hok) hk)
  ·exact hc.elim
 |ub=>
  simp only[wM] at hc;unfold Jr at hc;split at hc
  ·rename_i f first dO hop;split at hc
   ·rename_i vs S' hf hl;obtain⟨ρ',h1,h2,h3⟩:=mZ h hl;obtain⟨hok,hk⟩:=eD.1 hc;have hf':first= #[]:=by apply Array.ext';simpa using hf
    refine cH (v:=.func (.func f) #[] (dO.map a.eval)) (w':=w) ?_ (hn _ _ _ _ _ (h1.put (.v (.Jt (by simpa using h2))) hok) hk);simp [execOp,hop,Instr.makeFunc,hf']
   ·exact hc.elim
  ·exact hc.elim
 |dF=>
  simp only[wM] at hc;refine DB hX hR hB h hc ?_;intro x H' ρ' v w' hk hs hx;obtain⟨hok,hk⟩:=eD.1 hk;exact hn _ _ _ _ _ (hs.put hx hok) hk
theorem DC {aJ:Array Oper} {j:Nat} {t:T} (h:SR H0 ρ0 w0 ann N ρ lam S a w) (hy:ga aJ.toList S.tm j=some t):(∀b,t=.v (.bool b)→yielded aJ a.tmps j=some b)∧(t=.undef→yielded aJ a.tmps j=none):=by
 unfold ga at hy;split at hy
 ·rename_i o ho;split at hy
  ·rename_i d hd;have ho':aJ[j]? =some o:=by simpa using ho
   have ht:=h.tm d t hy
   have key:yielded aJ a.tmps j=match a.tmps[d]? with|some (.bool b)=>some b|_=>none:=by
    simp only[yielded,ho',bind_some,hd]
    cases a.tmps[d]? with
    |none=>rfl
    |some x=>cases x<;>rfl
   rw[key];rw[Array.getD_eq_getD_getElem?] at ht;constructor
   ·rintro b rfl
    cases hq:a.tmps[d]? with
    |none=>rw[hq] at ht;simp only[getD_none,undef] at ht;cases ht with|v h=>cases h
    |some x=>rw[hq] at ht;simp only[getD_some] at ht;cases ht with|v h=>cases h;rfl
   ·rintro rfl
    cases hq:a.tmps[d]? with
    |none=>rfl
    |some x=>rw[hq] at ht;simp only[getD_some] at ht;cases ht;rfl
  ·cases hy
 ·cases hy
theorem pV {R:mA} (hX:j9 E) (hR:∀f args H K,R.call f args H K→iG E f args H K) (hB:∀f args H K,R.call f args H K→∃fn,E.P.funcs[f]? =some fn∧fn.body.isSome=true) (h:SR H0 ρ0 w0 ann N ρ lam S a w) {aJ:Array Oper} {i:Nat} {o:Oper} (hi:aJ[i]? =some o) {K:St→Prop} (hc:cq E R ann N aJ.toList o S K) {next:Act→World→Prop} {Q:Exit→Act→World→Prop} (hn:∀S' ρ' dS a' w',SR H0 ρ0 w0 ann N ρ' dS S' a' w'→K S'→next a' w'):wpOp E.P aJ Q i next a w:=by
 unfold wpOp;simp only[hi]
 have skip:jz ann N o.dst .undef S K→next (a.put o.dst undef) w:=by
  intro hk;obtain⟨hok,hk⟩:=eD.1 hk;exact hn _ _ _ _ _ (h.put .undef hok) hk
 unfold cq at hc
 cases hg:o.guard with
 |none=>
  simp only[hg] at hc;simp only[Region.wanted,hg,if_true];exact .inl (xb hX hR hB h hc hn)
 |some p=>
  obtain⟨j,want⟩:=p;simp only[hg] at hc
  cases hy:ga aJ.toList S.tm j with
  |none=>simp only[hy] at hc
  |some t=>
   obtain⟨h1,h2⟩:=DC h hy
   cases t with
   |undef=>
    simp only[hy] at hc;simp only[Region.wanted,hg,h2 rfl];rw[if_neg (by simp)];exact skip hc
   |lp s off=>simp only[hy] at hc
   |v x=>
    cases x with
    |bool b=>
     simp only[hy] at hc;simp only[Region.wanted,hg,h1 b rfl];rcases gA hc with⟨hb,hc⟩|⟨hb,hc⟩
     ·rw[if_pos (by simpa using hb)];exact .inl (xb hX hR hB h hc hn)
     ·rw[if_neg (by simpa using hb)];exact skip hc
    |_=>simp only[hy] at hc
end
def RT (P:Program) (c:Code) (Q:Exit→Act→World→Prop) (a:Act) (w:World):Prop:=
 ∀(b:Frame) (k:List Item) (cs:List Frame),∃e a' w',Q e a' w'∧Arrives P (lone (b.at a (.code c:: .inLoop c::k)) cs w) b k cs e a' w'
theorem NY {P:Program} {c:Code} {Q:Exit→Act→World→Prop} {a:Act} {w:World} (h:RT P c Q a w):(Code.loop c).wp P Q a w:=by
 intro b k cs;obtain⟨e,a',w',hq,Hm⟩:=h b k cs;exact⟨e,a',w',hq,.of_steps (.one step_loop) Hm⟩
theorem HV {P:Program} {c:Code} {Q:Exit→Act→World→Prop} {a:Act} {w:World} (h:c.wp P (Exit.then (RT P c Q) Q) a w):RT P c Q a w:=by
 intro b k cs;obtain⟨e,a₁,w₁,hq,Hm⟩:=h b (.inLoop c::k) cs
 cases e with
 |normal=>
  obtain⟨e₂,a₂,w₂,abn,Tj⟩:=hq b k cs;exact⟨e₂,a₂,w₂,abn,.of_steps (Steps.trans Hm (.one step_inLoop)) Tj⟩
 |exit id=>exact⟨_,a₁,w₁,hq,.pass (x:=.inLoop c) rfl (fun _ _=>.inl (by simp)) Hm⟩
 |goto l=>exact⟨_,a₁,w₁,hq,.pass (x:=.inLoop c) rfl (fun _ _=>.inl (by simp)) Hm⟩
 |ret=>exact⟨_,a₁,w₁,hq,.pass (x:=.inLoop c) rfl (fun _ _=>.inl (by simp)) Hm⟩
 |panic ch=>exact⟨_,a₁,w₁,hq,.pass (x:=.inLoop c) rfl (fun _ _=>.inl (by simp)) Hm⟩
 |outgrown=>exact⟨_,a₁,w₁,hq,.pass (x:=.inLoop c) rfl (fun _ _=>.inl (by simp)) Hm⟩
def nD (E:kG) (c:Code) (f:FuncId) (S:St) (Kr:St→Prop) (Ke:Nat→St→Prop):Prop:=
 ∀(fn:Func) (H0:ai) (ρ0:dK) (w0:World) (ρ lam:dK) (a:Act) (w:World) (Q:Exit→Act→World→Prop),E.P.funcs[f]? =some fn→
  SR H0 ρ0 w0 (E.ann f) fn.ntmps ρ lam S a w→
  (∀S' ρ' dS a' w',SR H0 ρ0 w0 (E.ann f) fn.ntmps ρ' dS S' a' w'→Kr S'→Q .ret a' w')→
  (∀id S' ρ' dS a' w',SR H0 ρ0 w0 (E.ann f) fn.ntmps ρ' dS S' a' w'→Ke id S'→Q (.exit id) a' w')→RT E.P c Q a w
structure nE (E:kG) (R:mA):Prop where
 call:∀f args H K,R.call f args H K→iG E f args H K
 body:∀f args H K,R.call f args H K→∃fn,E.P.funcs[f]? =some fn∧fn.body.isSome=true
 loop:∀c f n S Kr Ke,R.loop c f n S Kr Ke→nD E c f S Kr Ke
 mono:R.le R
 vF:iw R
 ext:j9 E
section
variable {E:kG} {H0:ai} {ρ0:dK} {w0:World} {ann:bS} {N:Nat} {ρ lam:dK} {S:St} {a:Act} {w:World} {R:mA}
theorem sT {tm:Nat→Option T}:∀{l:List Nat} {m:List (Nat×T)} {t:Nat} {x:T},Fc tm l=some m→ab m t=some x→tm t=some x
 |[],m,t,x,h,hl=>by simp only[Fc,some.injEq] at h;subst h;cases hl
 |s::l,m,t,x,h,hl=>by
  simp only[Fc] at h;split at h
  ·rename_i y m' hy hm;cases h;simp only[ab,aY] at hl;by_cases he:t=s
   ·simp only[he,decide_true,cond_true,some.injEq] at hl;subst hl;rw[he];exact hy
   ·simp only[he,decide_false,cond_false] at hl;exact sT hm hl
  ·cases h
theorem sU {tm:Nat→Option aU}:∀{l:List Nat} {m:List (Nat×aU)} {t:Nat} {x:aU},Fe tm l=some m→ab m t=some x→tm t=some x
 |[],m,t,x,h,hl=>by simp only[Fe,some.injEq] at h;subst h;cases hl
 |s::l,m,t,x,h,hl=>by
  simp only[Fe] at h;split at h
  ·rename_i y m' hy hm;cases h;simp only[ab,aY] at hl;by_cases he:t=s
   ·simp only[he,decide_true,cond_true,some.injEq] at hl;subst hl;rw[he];exact hy
   ·simp only[he,decide_false,cond_false] at hl;exact sU hm hl
  ·cases h
theorem SR.RU (h:SR H0 ρ0 w0 ann N ρ lam S a w) {S':St} (h1:∀t x,S'.tm t=some x→S.tm t=some x) (h2:∀t x,S'.lo t=some x→S.lo t=some x) (h3:S'.hp=S.hp):SR H0 ρ0 w0 ann N ρ lam S' a w where
 defers:=h.defers
 size:=h.size
 tm:=fun t x hx=>h.tm t x (h1 t x hx)
 Lw:=fun t s off hx=>h.Lw t s off (h1 t _ hx)
 lo:=fun s L hL=>by rw[h3];exact h.lo s L (h2 s L hL)
 uj:=fun s s' L L' b e1 e2=>h.uj s s' L L' b (h2 _ _ e1) (h2 _ _ e2)
 hr:=by rw[h3];exact h.hr
 cd:=by rw[h3];exact h.cd
theorem kb (h:SR H0 ρ0 w0 ann N ρ lam S a w) {ts ls:List Nat} {K:St→Prop} (hk:lH ts ls S K):∃S',SR H0 ρ0 w0 ann N ρ lam S' a w∧K S':=by
 unfold lH at hk;split at hk
 ·rename_i m l hm hl;exact⟨_,h.RU (S':=⟨ab m,ab l,S.hp⟩) (fun t x hx=>sT hm hx) (fun t x hx=>sU hl hx) rfl,hk⟩
 ·exact hk.elim
theorem RW {k:KT} {x:Option T} (h:aF k x=true):x=some (RF k x):=by
 cases k with
 |k k=>
  cases x with
  |none=>simp [aF] at h
  |some y=>cases y with
   |v z=>simp only[aF] at h;simp [RF,T.val,V.sx h]
   |_=>simp [aF] at h
 |agg ks=>
  cases x with
  |none=>simp [aF] at h
  |some y=>cases y with
   |v z=>
    simp only[aF,Bool.and_eq_true] at h;simp only[RF,T.val];rw[lk h.2 rfl, ←uk h.1]
   |_=>simp [aF] at h
 |lp s=>
  cases x with
  |none=>simp [aF] at h
  |some y=>cases y with
   |lp s' off=>
    cases off with
    |zero=>simp only[aF] at h;rw[Nat.eq_of_beq_eq_true h];rfl
    |succ n=>simp [aF] at h
   |_=>simp [aF] at h
 |undef=>
  cases x with
  |none=>simp [aF] at h
  |some y=>cases y with
   |undef=>rfl
   |_=>simp [aF] at h
theorem RX {e:TypeId} {ks:List cA} {x:Option aU} (h:eC e ks x=true):x=some (.cells e (oi ks (av x) 0)):=by
 cases x with
 |none=>simp [eC] at h
 |some y=>cases y with
  |cells e' cs=>
   simp only[eC,Bool.and_eq_true] at h;simp only[av];rw[lk h.2 rfl,Nat.eq_of_beq_eq_true h.1]
  |dV s p=>simp [eC] at h
theorem sV:∀{l:List (Nat×KT)} {t:Nat} {x:T},(lI S l).1=true→ab (lI S l).2 t=some x→S.tm t=some x
 |[],t,x,_,hl=>by cases hl
 |(s,k)::l,t,x,h,hl=>by
  simp only[lI,Bool.and_eq_true] at h hl;simp only[ab,aY] at hl;by_cases he:t=s
  ·simp only[he,decide_true,cond_true,some.injEq] at hl;subst hl;rw[he];exact RW h.1
  ·simp only[he,decide_false,cond_false] at hl;exact sV h.2 hl
theorem sW:∀{l:List (Nat×TypeId×List cA)} {t:Nat} {x:aU},(lJ S l).1=true→ab (lJ S l).2 t=some x→S.lo t=some x
 |[],t,x,_,hl=>by cases hl
 |(s,e,ks)::l,t,x,h,hl=>by
  simp only[lJ,Bool.and_eq_true] at h hl;simp only[ab,aY] at hl;by_cases he:t=s
  ·simp only[he,decide_true,cond_true,some.injEq] at hl;subst hl;rw[he];exact RX h.1
  ·simp only[he,decide_false,cond_false] at hl;exact sW h.2 hl
theorem pW (h:SR H0 ρ0 w0 ann N ρ lam S a w) {ts:List (Nat×KT)} {ls:List (Nat×TypeId×List cA)} {K:St→Prop} (hk:Bu ts ls S K):∃S',SR H0 ρ0 w0 ann N ρ lam S' a w∧K S':=by
 obtain⟨h1,h2⟩:=aW hk;rw[Bool.and_eq_true] at h1;exact⟨_,h.RU (S':=⟨ab (lI S ts).2,ab (lJ S ls).2,S.hp⟩) (fun t x hx=>sV h1.1 hx) (fun t x hx=>sW h1.2 hx) rfl,h2⟩
theorem uA (h:SR H0 ρ0 w0 ann N ρ lam S a w) {kp:jy} {K:Ex→St→Prop}:∀{l:List Nat} {id:Nat},vI kp K l id S→∃S',SR H0 ρ0 w0 ann N ρ lam S' a w∧K (.exit id) S'
 |[],_,hk=>hk.elim
 |j::l,id,hk=>by
  rcases gA hk with⟨hj,hk⟩|⟨_,hk⟩
  ·rw[Nat.eq_of_beq_eq_true hj];exact pW h hk
  ·exact uA h hk
def hO (E:kG) (R:mA) (ann:bS) (N:Nat) (aJ:Array Oper):List Nat→St→(St→Prop)→Prop
 |[],S,K=>K S
 |i::l,S,K=>match aJ[i]? with
  |some o=>cq E R ann N aJ.toList o S fun S'=>hO E R ann N aJ l S' K
  |none=>hO E R ann N aJ l S K
theorem BE {aJ:Array Oper} {K:St→Prop}:∀(l:List Oper) (i:Nat) {S:St},aJ.toList.drop i=l→lG E R ann N aJ.toList l S K=hO E R ann N aJ (List.range' i l.length) S K
 |[],i,_,_=>rfl
 |o::l,i,S,hl=>by
  have hi:aJ[i]? =some o:=by
   have:(aJ.toList.drop i)[0]? =some o:=by rw[hl];rfl
   simpa using this
  rw[length_cons,range'_succ,hO,hi];have hl':aJ.toList.drop (i+1)=l:=by rw[←drop_drop,hl];rfl
  simp only[lG];congr 1;funext S';exact BE l (i+1) hl'
theorem pX (hR:nE E R) {aJ:Array Oper} {Q:Exit→Act→World→Prop}:∀(l:List Nat) {S:St} {K:St→Prop} {ρ lam:dK} {a:Act} {w:World},SR H0 ρ0 w0 ann N ρ lam S a w→hO E R ann N aJ l S K→(∀S' ρ' dS a' w',SR H0 ρ0 w0 ann N ρ' dS S' a' w'→K S'→Q .normal a' w')→wpOps E.P aJ Q l a w
 |[],S,K,ρ,lam,a,w,h,hk,hq=>hq _ _ _ _ _ h hk
 |i::l,S,K,ρ,lam,a,w,h,hk,hq=>by
  rw[wpOps_cons];unfold hO at hk;split at hk
  ·rename_i o ho;exact pV hR.ext hR.call hR.body h ho hk fun S' ρ' dS a' w' h' hk'=>pX hR l h' hk' hq
  ·rename_i ho;unfold wpOp;simp only[ho];exact pX hR l h hk hq
theorem uB (hR:nE E R) {aJ:Array Oper} {i:Nat} {o:Oper} (hi:aJ[i]? =some o):∀(pre:List Nat) (post:List Nat) {S:St} {K:St→Prop},(∀j∈pre,∀p,aJ[j]? =some p→gy (dj E ann aJ.toList o) (dj E ann aJ.toList p)=true)→hO E R ann N aJ (pre++i::post) S K→cq E R ann N aJ.toList o S fun S'=>hO E R ann N aJ (pre++post) S' K
 |[],post,S,K,_,hk=>by
  rw[nil_append,hO,hi] at hk;exact hk
 |j::pre,post,S,K,hap,hk=>by
  rw[cons_append,hO] at hk
  have ih:∀S',hO E R ann N aJ (pre++i::post) S' K→cq E R ann N aJ.toList o S' fun S'=>hO E R ann N aJ (pre++post) S' K:=
   fun S' h=>uB hR hi pre post (fun j hj=>hap j (mem_cons_of_mem _ hj)) h
  split at hk
  ·rename_i p hp;have h1:=eS hR.mono ih hk
   have adV:gy (dj E ann aJ.toList p) (dj E ann aJ.toList o)=true:=by
    have:=hap j (mem_cons_self ..) p hp;simp only[gy,Bool.and_eq_true,Bool.not_eq_true'] at this⊢;obtain⟨⟨⟨⟨⟨⟨⟨⟨h1,h2⟩,h3⟩,h4⟩,h5⟩,h6⟩,h7⟩,h8⟩,h9,AR⟩:=this
    have flip:∀{l m:List Nat},jt l m=false→jt m l=false:=by
     intro l m h;have hs:=fQ h;cases hq:jt m l
     ·rfl
     ·exfalso
      have:∀{l' m':List Nat},jt l' m'=true→∃x,x∈l'∧x∈m':=by
       intro l' m' hh
       induction l' with
       |nil=>cases hh
       |cons y l' ih=>
        rw[jt,Bool.or_eq_true] at hh;rcases hh with hh|hh
        ·exact⟨y,mem_cons_self ..,jD.1 hh⟩
        ·obtain⟨x,hx1,vD⟩:=ih hh;exact⟨x,mem_cons_of_mem _ hx1,vD⟩
      obtain⟨x,hx1,vD⟩:=this hq;exact hs x vD hx1
    exact⟨⟨⟨⟨⟨⟨⟨⟨h3,flip h2⟩,h1⟩,h6⟩,flip h5⟩,h4⟩,h8⟩,h7⟩,AR,h9⟩
   have h2:=yG hR.mono hR.vF adV h1;refine eS hR.mono ?_ h2;intro S' h';rw[cons_append,hO,hp];exact h'
  ·rename_i hp;have:=ih _ hk;refine eS hR.mono ?_ this;intro S' h';rw[cons_append,hO,hp];exact h'
theorem xc {i:Nat}:∀{l:List Edge},C6 i l=true→∀e∈l,Region.binds .any e=true→e.on<i
 |[],_,e,he=>by cases he
 |x::l,h,e,he=>by
  rw[C6,Bool.and_eq_true,Bool.or_eq_true] at h;intro hb;rcases mem_cons.1 he with rfl|he
  ·rcases h.1 with h1|h1
   ·rw[hb] at h1;cases h1
   ·simpa using h1
  ·exact xc h.2 e he hb
theorem oI:∀{l:List Oper} {i:Nat},ov l i=true→∀(j:Nat) (o:Oper),l[j]? =some o→∀e∈o.after.toList,Region.binds .any e=true→e.on<i+j
 |[],_,_,j,o,h=>by simp at h
 |x::l,i,h,j,o,ho=>by
  rw[ov,Bool.and_eq_true] at h;intro e he hb
  cases j with
  |zero=>simp only[List.getElem?_cons_zero,some.injEq] at ho;subst ho;exact xc h.1 e he hb
  |succ j=>
   have:=oI h.2 j o (by simpa using ho) e he hb;omega
theorem uC {fs:List jW} {bs:List (List Nat)} {i:Nat} {f:jW}:∀{n:Nat},ue fs bs i f n=true→∀j,j<n→∃g b,fs[j]? =some g∧bs[i]? =some b∧(j∈b∨gy f g=true)
 |0,_,j,hj=>by omega
 |n+1,h,j,hj=>by
  rw[ue,Bool.and_eq_true] at h;by_cases he:j=n
  ·subst he;have h1:=h.1;split at h1
   ·rename_i g b hg hb;rw[Bool.or_eq_true] at h1;exact⟨g,b,hg,hb,h1.imp jD.1 id⟩
   ·cases h1
  ·exact uC h.2 j (by omega)
theorem pY {fs:List jW} {bs:List (List Nat)}:∀{l:List jW} {k:Nat},qO fs bs l k=true→∀(i:Nat) (f:jW),l[i]? =some f→ue fs bs (k+i) f (k+i)=true
 |[],_,_,i,f,h=>by simp at h
 |x::l,k,h,i,f,hf=>by
  rw[qO,Bool.and_eq_true] at h
  cases i with
  |zero=>simp only[List.getElem?_cons_zero,some.injEq] at hf;subst hf;exact h.1
  |succ i=>
   have:=pY h.2 i f (by simpa using hf);rw[show k+(i+1)=k+1+i by omega];exact this
theorem uD:∀(l:List Oper) (acc:List (List Nat)) (i:Nat) (b:List Nat),(iU l acc)[i]? =some b→(i<acc.length∧acc[i]? =some b)∨∃o,l[i-acc.length]? =some o∧acc.length≤i∧∀j∈b,∃e∈o.after.toList,Region.binds .any e=true∧(j=e.on∨(e.on<i∧∃b',(iU l acc)[e.on]? =some b'∧j∈b'))
 |[],acc,i,b,h=>by
  simp only[iU] at h;refine .inl ⟨?_,h⟩;rcases Nat.lt_or_ge i acc.length with h'|h'
  ·exact h'
  ·rw[List.getElem?_eq_none h'] at h;cases h
 |o::l,acc,i,b,h=>by
  simp only[iU] at h⊢
  have keep:∀(l:List Oper) (acc:List (List Nat)) (i:Nat),i<acc.length→(iU l acc)[i]? =acc[i]? :=by
   intro l
   induction l with
   |nil=>intro acc i hi;rfl
   |cons q l ih=>
    intro acc i hi;simp only[iU];rw[ih _ i (by simp;omega),List.getElem?_append_left hi]
  rcases uD l (acc++[qN acc o.after.toList]) i b h with⟨h1,h2⟩|⟨q,h1,h2,h3⟩
  ·simp only[length_append,length_singleton] at h1;by_cases hi:i<acc.length
   ·rw[List.getElem?_append_left hi] at h2;exact .inl ⟨hi,h2⟩
   ·have hi':i=acc.length:=by omega
    subst hi';rw[List.getElem?_append_right (Nat.le_refl _)] at h2;simp only[Nat.sub_self,List.getElem?_cons_zero,some.injEq] at h2;subst h2;refine .inr ⟨o,by simp,Nat.le_refl _, ?_⟩;intro j hj
    have:∀(es:List Edge),j∈qN acc es→∃e∈es,Region.binds .any e=true∧(j=e.on∨j∈acc[e.on]?.getD []):=by
     intro es
     induction es with
     |nil=>intro h;cases h
     |cons e es ih=>
      intro h;simp only[qN] at h;cases hb:Region.binds .any e
      ·simp only[hb,cond_false] at h;obtain⟨e',h1,h2⟩:=ih h;exact⟨e',mem_cons_of_mem _ h1,h2⟩
      ·simp only[hb,cond_true,mem_cons,mem_append] at h;rcases h with h|h|h
       ·exact⟨e,mem_cons_self ..,hb,.inl h⟩
       ·exact⟨e,mem_cons_self ..,hb,.inr h⟩
       ·obtain⟨e',h1,h2⟩:=ih h;exact⟨e',mem_cons_of_mem _ h1,h2⟩
    obtain⟨e,h4,h5,h6⟩:=this _ hj;refine⟨e,h4,h5,h6.imp id fun h6=> ?_⟩
    cases hg:acc[e.on]? with
    |none=>rw[hg] at h6;cases h6
    |some b'=>
     rw[hg] at h6
     have hlt:e.on<acc.length:=by
      rcases Nat.lt_or_ge e.on acc.length with h'|h'
      ·exact h'
      ·rw[List.getElem?_eq_none h'] at hg;cases hg
     refine⟨hlt,b', ?_,h6⟩;rw[keep _ _ _ (by simp;omega),List.getElem?_append_left hlt,hg]
  ·simp only[length_append,length_singleton] at h1 h2 h3;refine .inr ⟨q, ?_,by omega,h3⟩;rw[show i-acc.length=i-(acc.length+1)+1 by omega];simpa using h1
def kc (n:Nat) (listed:Array Bool):List Nat:=(List.range n).filter fun i=> !listed.getD i false
theorem uE {p q:Nat→Bool} {i:Nat} (hpq:∀j,j≠i→q j=p j) (hi:p i=true) (hqi:q i=false):∀(l:List Nat),i∈l→l.Nodup→∃pre post,l.filter p=pre++i::post∧l.filter q=pre++post∧(∀j∈pre,j∈l∧p j=true∧j≠i)∧(l.Pairwise (· < ·)→∀j∈pre,j<i)
 |[],h,_=>by cases h
 |x::l,h,hn=>by
  rw[nodup_cons] at hn;by_cases hx:x=i
  ·subst hx
   have hsame:l.filter q=l.filter p:=by
    apply filter_congr;intro j hj;exact hpq j (fun e=>hn.1 (e▸hj))
   exact⟨[],l.filter p,by simp [hi],by simp [hqi,hsame],fun j hj=>by simp at hj,fun _ j hj=>by simp at hj⟩
  ·have mR:i∈l:=by
    rcases mem_cons.1 h with h|h
    ·exact(hx h.symm).elim
    ·exact h
   obtain⟨pre,post,h1,h2,h3,h4⟩:=uE hpq hi hqi l mR hn.2;cases hp:p x
   ·refine⟨pre,post,by simp [hp,h1],by simp [hpq x hx,hp,h2],fun j hj=>⟨mem_cons_of_mem _ (h3 j hj).1,(h3 j hj).2⟩,fun hs=>h4 (pairwise_cons.1 hs).2⟩
   ·refine⟨x::pre,post,by simp [hp,h1],by simp [hpq x hx,hp,h2], ?_, ?_⟩
    ·intro j hj;rcases mem_cons.1 hj with rfl|hj
     ·exact⟨mem_cons_self ..,hp,hx⟩
     ·exact⟨mem_cons_of_mem _ (h3 j hj).1,(h3 j hj).2⟩
    ·intro hs j hj;rw[pairwise_cons] at hs;rcases mem_cons.1 hj with rfl|hj
     ·exact hs.1 i mR
     ·exact h4 hs.2 j hj
end
section
variable {E:kG} {R:mA} {ann:bS} {N:Nat}
theorem fP.run_bind {α β:Type} {k:α→fP β} {K:β→Prop}:∀(t:fP α),(t.bind k).run K=t.run fun a=>(k a).run K
 | .leaf _=>rfl
 | .br c x y=>by simp only[fP.bind,fP.run,fP.run_bind x,fP.run_bind y]
 | .af c x=>by simp only[fP.bind,fP.run,fP.run_bind x]
 | .aV=>rfl
theorem fP.cJ {α:Type} {K K':α→Prop} (h:∀a,K a→K' a):∀{t:fP α},t.run K→t.run K'
 | .leaf _,hk=>h _ hk
 | .br _ _ _,hk=>ff (fP.cJ h) (fP.cJ h) hk
 | .af _ _,hk=>bY (fP.cJ h) hk
 | .aV,hk=>hk
theorem uF {S:St} {M:MS} {d:Nat} {x:T}:MS.st S {M with U:=(d,x)::M.U}=(M.st S).setT d x:=by
 unfold MS.st St.setT;congr 1;funext t;simp only[pq,ab];cases Nat.beq t d<;>rfl
theorem RY {S:St} {M:MS} {s:Nat} {x:aU}:MS.st S {M with W:=(s,x)::M.W}=(M.st S).setL s x:=by
 unfold MS.st St.setL;congr 1;funext t;simp only[yr,ab];cases Nat.beq t s<;>rfl
theorem kg {dst:Option Tmp} {x:T} {S:St} {M:MS} {K:St→Prop} (h:(C1 ann N dst x M).run fun M'=>K (M'.st S)):jz ann N dst x (M.st S) K:=by
 unfold C1 at h;unfold jz
 cases dst with
 |none=>exact h
 |some d=>
  simp only[fP.run] at h⊢;refine bY ?_ h
  cases x with
  |v y=>intro h;rw[←uF];exact h
  |undef=>intro h;rw[←uF];exact h
  |lp s o=>
   simp only[]
   cases ab ann.aX d with
   |none=>exact id
   |some s'=>
    simp only[]
    cases Nat.beq s s' with
    |true=>intro h;simp only[cond_true];rw[←uF];exact h
    |false=>exact id
theorem DD {α:Type} {d:fS α} {X:Prop} {K:α→Prop} (h:af (d.rq&&d.c) X) (hx:X→K d.x):d.run K:=by
 obtain⟨h1,h2⟩:=aW h;rw[Bool.and_eq_true] at h1;unfold fS.run;rw[h1.1,h1.2];exact hx h2
theorem qW {o:Oper} {S:St} {M:MS} {K:St→Prop} (h:(Ff E ann N o S M).run fun M'=>K (M'.st S)):js E R ann N o (M.st S) K:=by
 unfold Ff at h;unfold js
 cases hc:HF E ann o with
 |pure=>
  simp only[hc] at h⊢
  cases hp:bj E o.op (cY (pq S M.U)) with
  |none=>simp only[hp] at h;exact h.elim
  |some d=>simp only[MS.st,hp] at h⊢;exact DD h kg
 |o5 s=>
  simp only[hc] at h⊢
  cases hp:gV E o.op (cY (pq S M.U)) s (yr S M.W s) with
  |none=>simp only[hp] at h;exact h.elim
  |some d=>simp only[MS.st,hp] at h⊢;exact DD h kg
 |iS s=>
  simp only[hc] at h⊢
  cases hp:ey E o.op (cY (pq S M.U)) s (yr S M.W s) with
  |none=>simp only[hp] at h;exact h.elim
  |some d=>
   simp only[hp] at h;simp only[MS.st,hp];refine DD h ?_;intro h;have:=kg h;rw[RY] at this;exact this
 |kQ=>
  simp only[hc] at h⊢
  cases hp:dM E o.op (cY (pq S M.U)) S.hp with
  |none=>simp only[hp] at h;exact h.elim
  |some d=>simp only[MS.st,hp] at h⊢;exact DD h kg
 |ua=>simp only[hc] at h;exact h.elim
 |ub=>simp only[hc] at h;exact h.elim
 |dF=>simp only[hc] at h;exact h.elim
theorem LF {aJ:List Oper} {o:Oper} {S:St} {M:MS} {K:St→Prop} (h:(NC E ann N aJ o S M).run fun M'=>K (M'.st S)):ud E R ann N aJ o (M.st S) K:=by
 unfold NC at h;unfold ud
 cases hg:o.guard with
 |none=>simp only[hg] at h⊢;exact qW h
 |some p=>
  obtain⟨j,want⟩:=p;simp only[hg] at h⊢
  cases hl:C0 aJ j with
  |none=>simp only[hl] at h;exact h.elim
  |some s=>
   simp only[hl] at h⊢;have htm:(M.st S).tm s=pq S M.U s:=rfl;rw[htm]
   cases hs:pq S M.U s with
   |none=>simp only[hs] at h;exact h.elim
   |some t=>
    cases t with
    |undef=>simp only[hs] at h⊢;exact kg h
    |lp a b=>simp only[hs] at h;exact h.elim
    |v x=>
     cases x with
     |bool b=>
      simp only[hs] at h⊢
      have AB:(M.st S).setT s (.v (.bool b))=M.st S:=by
       unfold St.setT MS.st;congr 1;funext t
       cases ht:Nat.beq t s with
       |false=>rfl
       |true=>simp only[cond_true];rw[Nat.eq_of_beq_eq_true ht,hs]
      cases hk:bI s M.kn with
      |true=>
       simp only[hk] at h;cases want<;>cases b
       ·have:=qW (R:=R) h;rw[←AB] at this;exact this
       ·have:=kg h;rw[←AB] at this;exact this
       ·have:=kg h;rw[←AB] at this;exact this
       ·have:=qW (R:=R) h;rw[←AB] at this;exact this
      |false=>
       simp only[hk] at h;refine ff ?_ ?_ h
       ·intro h;have:=qW (R:=R) h;have e:MS.st S {M with U:=(s,.v (.bool want))::M.U,kn:=s::M.kn}=(M.st S).setT s (.v (.bool want)):=uF;rw[e] at this;exact this
       ·intro h;have:=kg h;have e:MS.st S {M with U:=(s,.v (.bool (!want)))::M.U,kn:=s::M.kn}=(M.st S).setT s (.v (.bool (!want))):=uF;rw[e] at this;exact this
     |_=>simp only[hs] at h;exact h.elim
theorem HW (hm:R.le R) {aJ:List Oper} {o:Oper} {S:St} {K K':St→Prop} (h:∀S,K S→K' S) (hx:ud E R ann N aJ o S K):ud E R ann N aJ o S K':=by
 rw[ib] at hx⊢;exact eS hm h hx
theorem zd (hm:R.le R) {aJ:List Oper} {K:St→Prop} {S:St}:∀(l:List Oper) {M:MS},(C2 E ann N aJ l S M).run (fun M'=>K (M'.st S))→sH E R ann N aJ l (M.st S) K
 |[],M,h=>h
 |o::l,M,h=>by
  unfold C2 at h;rw[fP.run_bind] at h;refine LF (K:=fun S'=>sH E R ann N aJ l S' K) (fP.cJ ?_ h);intro M' h';exact zd hm l h'
theorem lO {α:Type} {t:Nat} {m:α} {r:List (Nat×α)}:ab ((t,m)::r) t=some m:=by simp [ab,Nat.beq_refl]
theorem dW {α:Type} {t u:Nat} {m:α} {r:List (Nat×α)} (h:t≠u):ab ((u,m)::r) t=ab r t:=by
 have:Nat.beq t u=false:=by
  cases hb:Nat.beq t u with
  |false=>rfl
  |true=>exact absurd (Nat.eq_of_beq_eq_true hb) h
 simp [ab,this]
def gH {α:Type} (g:Nat→Option α) (A:List (Nat×α)) (t:Nat):Option α:=match ab A t with|some x=>some x|none=>g t
theorem BF {S:St} {U:List (Nat×T)} {t:Nat}:pq S U t=gH S.tm U t:=by unfold pq gH;cases ab U t<;>rfl
theorem BG {S:St} {W:List (Nat×aU)} {t:Nat}:yr S W t=gH S.lo W t:=by unfold yr gH;cases ab W t<;>rfl
theorem xd {α:Type} {g:Nat→Option α} {f:α→α→Option α} {A B:List (Nat×α)}:∀{l:List Nat} {r:List (Nat×α)},oo g f A B l=some r→∀t,ab A t=none→ab B t=none→ab r t=none
 |[],r,h,t,_,_=>by cases h;rfl
 |u::l,r,h,t,ha,hb=>by
  simp only[oo] at h;split at h
  ·cases h
  ·rename_i r' hr';have ih:=xd hr' t ha hb;by_cases htu:t=u
   ·subst htu;rw[ha,hb] at h;cases h;exact ih
   ·split at h
    ·cases h;exact ih
    ·split at h
     ·cases h;rw[dW htu];exact ih
     ·cases h
    ·split at h
     ·split at h
      ·cases h;rw[dW htu];exact ih
      ·cases h
     ·cases h
    ·split at h
     ·split at h
      ·cases h;rw[dW htu];exact ih
      ·cases h
     ·cases h
theorem pZ {α:Type} {g:Nat→Option α} {f:α→α→Option α} {c:Bool} (hf:∀a b m,f a b=some m→m=if c then a else b) {A B:List (Nat×α)}:∀{l:List Nat} {r:List (Nat×α)},oo g f A B l=some r→∀t∈l,gH g r t=if c then gH g A t else gH g B t
 |[],_,_,t,ht=>by cases ht
 |u::l,r,h,t,ht=>by
  simp only[oo] at h;split at h
  ·cases h
  ·rename_i r' hr';have ih:t∈l→gH g r' t=if c then gH g A t else gH g B t:=pZ hf hr' t
   by_cases htu:t=u
   ·subst htu;split at h
    ·rename_i ha hb;cases h;have hk:=xd hr' t ha hb;simp only[gH,ha,hb,hk];cases c<;>rfl
    ·rename_i a b ha hb;split at h
     ·rename_i m hm;cases h;simp only[gH,lO,ha,hb,hf _ _ _ hm];cases c<;>rfl
     ·cases h
    ·rename_i a ha hb;split at h
     ·rename_i b hg;split at h
      ·rename_i m hm;cases h;simp only[gH,lO,ha,hb,hg,hf _ _ _ hm];cases c<;>rfl
      ·cases h
     ·cases h
    ·rename_i b ha hb;split at h
     ·rename_i a hg;split at h
      ·rename_i m hm;cases h;simp only[gH,lO,ha,hb,hg,hf _ _ _ hm];cases c<;>rfl
      ·cases h
     ·cases h
   ·have htl:t∈l:=by simpa [htu] using ht
    have ih:=ih htl;split at h
    ·cases h;exact ih
    ·split at h
     ·cases h;rw[←ih];simp only[gH,dW htu]
     ·cases h
    ·split at h
     ·split at h
      ·cases h;rw[←ih];simp only[gH,dW htu]
      ·cases h
     ·cases h
    ·split at h
     ·split at h
      ·cases h;rw[←ih];simp only[gH,dW htu]
      ·cases h
     ·cases h
theorem HX {c:Bool} {a b m:T} (h:C3 c a b=some m):m=if c then a else b:=by
 unfold C3 at h;split at h
 ·cases h;rw[Lo];cases c<;>rfl
 ·rename_i s o s' o'
  cases hb:(Nat.beq s s'&&Nat.beq o o') with
  |false=>rw[hb] at h;cases h
  |true=>
   rw[hb] at h;rw[Bool.and_eq_true] at hb;cases h;rw[Nat.eq_of_beq_eq_true hb.1,Nat.eq_of_beq_eq_true hb.2];cases c<;>rfl
 ·cases h;cases c<;>rfl
 ·cases h
theorem HY {c:Bool} {a b m:aU} (h:C4 c a b=some m):m=if c then a else b:=by
 unfold C4 at h;split at h
 ·rename_i e cs e' cs'
  cases hb:Nat.beq e e' with
  |false=>rw[hb] at h;cases h
  |true=>
   rw[hb,cond_true] at h;split at h
   ·rename_i r hr;cases h;rw[sA hr,Nat.eq_of_beq_eq_true hb];cases c<;>rfl
   ·cases h
 ·cases h
theorem iY {n:Nat}:∀{l:List Nat},bI n l=true↔n∈l
 |[]=>by simp [bI]
 |x::l=>by
  simp only[bI,Bool.or_eq_true,mem_cons,iY (l:=l)];constructor
  ·rintro(h|h)
   ·exact .inl (Nat.eq_of_beq_eq_true h)
   ·exact .inr h
  ·rintro(h|h)
   ·exact .inl (by rw[h];exact Nat.beq_refl _)
   ·exact .inr h
theorem oJ {n:Nat} {l:List Nat} (h:bI n l=false):n∉l:=fun hm=>by rw[iY.2 hm] at h;cases h
def UK {α:Type} (a b:List Nat) (l:List (Nat×α)):Prop:=∀t,bI t a=false→bI t b=false→ab l t=none
theorem p4 {α:Type} {a b:List Nat}:∀{l:List (Nat×α)},oq a b l=true→UK a b l
 |[],_,_,_,_=>rfl
 |(u,x)::l,h,t,ha,hb=>by
  simp only[oq,Bool.and_eq_true,Bool.or_eq_true] at h
  have hne:t≠u:=by
   rintro rfl;rcases h.1 with h|h
   ·rw[ha] at h;cases h
   ·rw[hb] at h;cases h
  rw[dW hne];exact p4 h.2 t ha hb
theorem lP {α:Type} {g:Nat→Option α} {f:α→α→Option α} {A B:List (Nat×α)}:∀{l:List Nat} {r:List (Nat×α)},oo g f A B l=some r→∀t,bI t l=false→ab r t=none
 |[],r,h,t,_=>by cases h;rfl
 |u::l,r,h,t,ht=>by
  have htu:t≠u:=fun e=>oJ ht (by rw[e];exact mem_cons_self ..)
  have htl:bI t l=false:=by
   cases hm:bI t l with
   |false=>rfl
   |true=>exact absurd (mem_cons_of_mem _ (iY.1 hm)) (oJ ht)
  simp only[oo] at h;split at h
  ·cases h
  ·rename_i r' hr';have ih:=lP hr' t htl;split at h
   ·cases h;exact ih
   ·split at h
    ·cases h;rw[dW htu];exact ih
    ·cases h
   ·split at h
    ·split at h
     ·cases h;rw[dW htu];exact ih
     ·cases h
    ·cases h
   ·split at h
    ·split at h
     ·cases h;rw[dW htu];exact ih
     ·cases h
    ·cases h
theorem oK {S:St} {ts ls dT dL:List Nat}:∀{tr:fP MS} {r:Bool} {U:List (Nat×T)} {W:List (Nat×aU)},o6 S ts ls dT dL tr=some (r,U,W)→UK ts dT U∧UK ls dL W
 | .leaf M,r,U,W,h=>by
   simp only[o6] at h
   cases hk:oq ts dT M.U&&oq ls dL M.W with
   |false=>rw[hk] at h;cases h
   |true=>
    rw[hk] at h;cases h;rw[Bool.and_eq_true] at hk;exact⟨p4 hk.1,p4 hk.2⟩
 | .aV,_,_,_,h=>by cases h
 | .af c x,r,U,W,h=>by
   simp only[o6] at h;split at h
   ·rename_i r' U' W' h';cases h;exact oK h'
   ·cases h
 | .br c x y,r,U,W,h=>by
   simp only[o6] at h;split at h
   ·split at h
    ·rename_i U' W' hU hW;cases h;exact⟨fun t ht _=>lP hU t ht,fun t ht _=>lP hW t ht⟩
    ·cases h
   ·cases h
def Ye (S:St) (dT dL:List Nat) (U:List (Nat×T)) (W:List (Nat×aU)) (M:MS):Prop:=
 (∀t,bI t dT=false→gH S.tm U t=gH S.tm M.U t)∧∀s,bI s dL=false→gH S.lo W s=gH S.lo M.W s
theorem LG (c r1 r2:Bool):aN c r1 r2=if c then r1 else r2:=by cases c<;>cases r1<;>cases r2<;>rfl
theorem fA {α:Type} {g:Nat→Option α} {A:List (Nat×α)} {t:Nat} (h:ab A t=none):gH g A t=g t:=by simp [gH,h]
theorem qX {S:St} {ts ls dT dL:List Nat}:∀{tr:fP MS} {r:Bool} {U:List (Nat×T)} {W:List (Nat×aU)},o6 S ts ls dT dL tr=some (r,U,W)→r=true→tr.run (Ye S dT dL U W)
 | .leaf M,r,U,W,h,_=>by
   simp only[o6] at h
   cases hk:oq ts dT M.U&&oq ls dL M.W with
   |false=>rw[hk] at h;cases h
   |true=>rw[hk] at h;cases h;exact⟨fun _ _=>rfl,fun _ _=>rfl⟩
 | .aV,_,_,_,h,_=>by cases h
 | .af c x,r,U,W,h,hr=>by
   simp only[o6] at h;split at h
   ·rename_i r' U' W' h';cases h;rw[Bool.and_eq_true] at hr;simp only[fP.run,hr.1];exact qX h' hr.2
   ·cases h
 | .br c x y,r,U,W,h,hr=>by
   simp only[o6] at h;split at h
   ·rename_i r1 U1 W1 r2 U2 W2 h1 h2;split at h
    ·rename_i U' W' hU hW;cases h;rw[LG] at hr;have hu:=pZ (c:=c) (fun _ _ _=>HX) hU;have hw:=pZ (c:=c) (fun _ _ _=>HY) hW;have k1:=oK h1;have k2:=oK h2;have du:=lP hU;have dw:=lP hW
     cases c with
     |true=>
      refine fP.cJ ?_ (qX (tr:=x) h1 (by simpa using hr));rintro M ⟨ha,hb⟩;refine⟨fun t ht=> ?_,fun s hs=> ?_⟩
      ·rw[←ha t ht]
       cases hm:bI t ts with
       |true=>simpa using hu t (iY.1 hm)
       |false=>rw[fA (du t hm),fA (k1.1 t hm ht)]
      ·rw[←hb s hs]
       cases hm:bI s ls with
       |true=>simpa using hw s (iY.1 hm)
       |false=>rw[fA (dw s hm),fA (k1.2 s hm hs)]
     |false=>
      refine fP.cJ ?_ (qX (tr:=y) h2 (by simpa using hr));rintro M ⟨ha,hb⟩;refine⟨fun t ht=> ?_,fun s hs=> ?_⟩
      ·rw[←ha t ht]
       cases hm:bI t ts with
       |true=>simpa using hu t (iY.1 hm)
       |false=>rw[fA (du t hm),fA (k2.1 t hm ht)]
      ·rw[←hb s hs]
       cases hm:bI s ls with
       |true=>simpa using hw s (iY.1 hm)
       |false=>rw[fA (dw s hm),fA (k2.2 s hm hs)]
    ·cases h
   ·cases h
theorem HZ {dT dL:List Nat} {S S':St} (h1:∀t,bI t dT=false→S.tm t=S'.tm t) (h2:∀t,bI t dL=false→S.lo t=S'.lo t) (h3:S.hp=S'.hp):rP dT dL S=rP dT dL S':=by
 unfold rP;rw[h3];congr 1
 ·funext t
  cases hm:bI t dT with
  |true=>rfl
  |false=>exact h1 t hm
 ·funext t
  cases hm:bI t dL with
  |true=>rfl
  |false=>exact h2 t hm
theorem Ia {S:St} {ts ls dT dL:List Nat} {tr:fP MS} {K:St→Prop} (h:pK ts ls dT dL tr S K):tr.run fun M=>K (rP dT dL (M.st S)):=by
 unfold pK at h;split at h
 ·rename_i r U W hm;obtain⟨hr,hn⟩:=aW h;refine fP.cJ ?_ (qX hm hr);rintro M ⟨ha,hb⟩
  have:rP dT dL ⟨pq S U,yr S W,S.hp⟩=rP dT dL (M.st S):=by
   refine HZ (fun t ht=> ?_) (fun t ht=> ?_) rfl
   ·simp only[MS.st,BF];exact ha t ht
   ·simp only[MS.st,BG];exact hb t ht
  rw[←this];exact hn
 ·exact h.elim
theorem ze (hm:R.le R) {aJ:List Oper} {ts ls dT dL:List Nat} {K:St→Prop}:∀(l:List Oper) {S:St},kJ E R ann N ts ls dT dL aJ l S K→sH E R ann N aJ l S fun S'=>K (rP dT dL S')
 |[],S,h=>h
 |o::l,S,h=>by
  unfold kJ at h;split at h
  ·exact HW hm (fun S'=>ze hm l) h
  ·exact zd (K:=fun S'=>K (rP dT dL S')) hm (o::l) (M:=⟨[],[],[]⟩) (Ia h)
end
section
variable {E:kG} {R:mA} {ann:bS} {N:Nat} {f:FuncId}
def gI (wT wL:List Nat) (S S':St):Prop:=
 (∀t,bI t wT=false→S'.tm t=S.tm t)∧∀s,bI s wL=false→S'.lo s=S.lo s
theorem gI.refl (wT wL:List Nat) (S:St):gI wT wL S S:=⟨fun _ _=>rfl,fun _ _=>rfl⟩
theorem gI.trans {wT wL:List Nat} {S S' Hn:St} (h:gI wT wL S S') (k:gI wT wL S' Hn):gI wT wL S Hn:=
 ⟨fun t ht=>(k.1 t ht).trans (h.1 t ht),fun t ht=>(k.2 t ht).trans (h.2 t ht)⟩
theorem zf:∀{l m:List Nat} {x:Nat},jB l m=true→x∈l→x∈m
 |y::l,m,x,h,hx=>by
  simp only[jB,Bool.and_eq_true] at h;rcases mem_cons.1 hx with rfl|hx
  ·exact iY.1 h.1
  ·exact zf h.2 hx
theorem fB {l m:List Nat} {x:Nat} (h:jB l m=true) (hx:bI x m=false):bI x l=false:=by
 cases hm:bI x l with
 |false=>rfl
 |true=>exact absurd (zf h (iY.1 hm)) (oJ hx)
variable {wT wL:List Nat}
theorem sX {S:St} {d:Nat} {x:T} (h:bI d wT=true):gI wT wL S (S.setT d x):=by
 refine⟨fun t ht=> ?_,fun _ _=>rfl⟩
 have:Nat.beq t d=false:=by
  cases hb:Nat.beq t d with
  |false=>rfl
  |true=>rw[Nat.eq_of_beq_eq_true hb,h] at ht;cases ht
 simp [St.setT,this]
theorem zg {S:St} {d:Nat} {x:aU} (h:bI d wL=true):gI wT wL S (S.setL d x):=by
 refine⟨fun _ _=>rfl,fun t ht=> ?_⟩
 have:Nat.beq t d=false:=by
  cases hb:Nat.beq t d with
  |false=>rfl
  |true=>rw[Nat.eq_of_beq_eq_true hb,h] at ht;cases ht
 simp [St.setL,this]
theorem gJ {dst:Option Tmp} {x:T} {S:St} {K:St→Prop} (hd:jB dst.toList wT=true) (h:jz ann N dst x S K):jz ann N dst x S fun S'=>K S'∧gI wT wL S S':=by
 cases dst with
 |none=>exact⟨h,.refl ..⟩
 |some d=>
  have hd':bI d wT=true:=by simpa [jB] using hd
  refine bY ?_ h
  cases x with
  |v y=>exact fun h=>⟨h,sX hd'⟩
  |undef=>exact fun h=>⟨h,sX hd'⟩
  |lp s off=>
   simp only[]
   cases ab ann.aX d with
   |none=>exact id
   |some s'=>cases hs:Nat.beq s s'<;>simp [hs];exact fun h=>⟨h,sX hd'⟩
theorem xe {d s:Nat}:∀{l:List (Nat×Nat)} {t:Nat},ab l t=some s→s=d→t∈kW d l
 |(u,v)::l,t,h,hs=>by
  simp only[ab] at h;simp only[kW]
  cases hb:Nat.beq t u with
  |true=>
   rw[hb] at h;cases h;rw[hs,Nat.beq_refl,cond_true,Nat.eq_of_beq_eq_true hb];exact mem_cons_self ..
  |false=>
   rw[hb] at h;have:=xe h hs
   cases Nat.beq v d with
   |true=>exact mem_cons_of_mem _ this
   |false=>exact this
theorem Ib {S:St} {d:Nat} (h:jB (kW d ann.aX) wT=true):gI wT wL S (sG ann d S):=by
 refine⟨fun t ht=> ?_,fun _ _=>rfl⟩;simp only[sG];split
 ·rename_i s hs
  cases hb:Nat.beq s d with
  |false=>rfl
  |true=>exact absurd (zf h (xe hs (Nat.eq_of_beq_eq_true hb))) (oJ ht)
 ·rfl
theorem xf (hm:R.le R) {o:Oper} {S:St} {K:St→Prop} (hw:Lq E ann wT wL o=true) (h:js E R ann N o S K):js E R ann N o S fun S'=>K S'∧gI wT wL S S':=by
 simp only[Lq,Bool.and_eq_true] at hw;obtain⟨⟨hd,hk⟩,hl⟩:=hw;unfold js at h⊢
 cases hc:HF E ann o with
 |pure=>
  simp only[hc] at h⊢;split at h
  ·exact fS.cJ (fun x=>gJ hd) h
  ·exact h
 |o5 s=>
  simp only[hc] at h⊢;split at h
  ·exact fS.cJ (fun x=>gJ hd) h
  ·exact h
 |iS s=>
  simp only[hc] at h hl⊢;split at h
  ·refine fS.cJ (fun x hx=> ?_) h;refine eV ?_ (gJ (wT:=wT) (wL:=wL) hd hx);rintro S' ⟨h1,h2⟩;exact⟨h1,(zg hl).trans h2⟩
  ·exact h
 |ua=>
  simp only[hc] at h hl⊢;split at h
  ·rename_i d r L xM _;refine bY (fun hx=> ?_) h;have hd':bI d wL=true:=by simpa [jB,xM] using hl
   have hk':jB (kW d ann.aX) wT=true:=by simpa [C5,xM] using hk
   refine eV ?_ (gJ (wT:=wT) (wL:=wL) (by simpa [xM] using hd) hx);rintro S' ⟨h1,h2⟩;exact⟨h1,((Ib hk').trans (zg hd')).trans h2⟩
  ·exact h
 |kQ=>
  simp only[hc] at h⊢;split at h
  ·exact fS.cJ (fun x=>gJ hd) h
  ·exact h
 |ub=>simp only[hc] at hl;cases hl
 |dF=>
  simp only[hc] at h⊢;refine jQ hm (fun x H' hx=> ?_) h;refine eV ?_ (gJ (wT:=wT) (wL:=wL) hd hx);rintro S' ⟨h1,h2⟩;exact⟨h1,h2⟩
theorem p5 (hm:R.le R) {aJ:List Oper} {o:Oper} {S:St} {K:St→Prop} (hw:Lq E ann wT wL o=true) (h:cq E R ann N aJ o S K):cq E R ann N aJ o S fun S'=>K S'∧gI wT wL S S':=by
 have hd:jB o.dst.toList wT=true:=by
  simp only[Lq,Bool.and_eq_true] at hw;exact hw.1.1
 unfold cq at h⊢;split at h
 ·exact xf hm hw h
 ·split at h
  ·exact ff (xf hm hw) (gJ hd) h
  ·exact gJ hd h
  ·exact h
theorem uG (hm:R.le R) {aJ:List Oper}:∀(l:List Oper) {S:St} {K:St→Prop},jC E ann wT wL l=true→lG E R ann N aJ l S K→lG E R ann N aJ l S fun S'=>K S'∧gI wT wL S S'
 |[],S,K,_,h=>⟨h,.refl ..⟩
 |o::l,S,K,hw,h=>by
  simp only[jC,Bool.and_eq_true] at hw;refine eS hm ?_ (p5 hm hw.1 h);rintro S' ⟨h1,h2⟩;refine pM hm l ?_ (uG hm l hw.2 h1);rintro Hn ⟨h3,h4⟩;exact⟨h3,h2.trans h4⟩
theorem Ic {l:List Oper}:jC E ann wT wL l=true→∀o∈l,Lq E ann wT wL o=true:=by
 induction l with
 |nil=>intro _ p hp;cases hp
 |cons o l ih=>
  intro h p hp;rw[jC,Bool.and_eq_true] at h;rcases mem_cons.1 hp with rfl|hp
  ·exact h.1
  ·exact ih h.2 p hp
theorem uH (hm:R.le R) {aJ:List Oper} {i:Nat} {S:St} {K K':St→Prop} (h:∀S,K S→K' S) (hx:fT E R ann N aJ i S K):fT E R ann N aJ i S K':=by
 unfold fT at hx⊢;split at hx
 ·rw[ib] at hx⊢;exact eS hm h hx
 ·exact hx
theorem DE (hm:R.le R) {aJ:List Oper} (hw:jC E ann wT wL aJ=true) {i:Nat} {S:St} {K:St→Prop} (h:fT E R ann N aJ i S K):fT E R ann N aJ i S fun S'=>K S'∧gI wT wL S S':=by
 unfold fT at h⊢;split at h
 ·rename_i o ho;rw[ib] at h⊢;exact p5 hm (Ic hw o (mem_of_getElem? ho)) h
 ·exact h
theorem kY (hm:R.le R) {aJ:List Oper} (hw:jC E ann wT wL aJ=true):∀(t:r6) {S:St} {K:St→Prop},iu (fT E R ann N aJ) t S K→iu (fT E R ann N aJ) t S fun S'=>K S'∧gI wT wL S S'
 | .nil,S,K,h=>⟨h,.refl ..⟩
 | .aV,S,K,h=>h
 | .one i r,S,K,h=>by
   have h:fT E R ann N aJ i S (fun S'=>iu (fT E R ann N aJ) r S' K):=h;show fT E R ann N aJ i S (fun S'=>iu (fT E R ann N aJ) r S' _)
   refine uH hm ?_ (DE hm hw h);rintro S' ⟨h1,h2⟩;refine jX (st:=fT E R ann N aJ) (st':=fT E R ann N aJ) (fun i S K K' h hx=>uH hm h hx) r ?_ (kY hm hw r h1);rintro Hn ⟨h3,h4⟩;exact⟨h3,h2.trans h4⟩
 | .ND a b,S,K,h=>⟨kY hm hw a h.1,kY hm hw b h.2⟩
theorem m0 (hm:R.le R) {aJ:List Oper} {draw:Bool} {S:St} {K:St→Prop} (hw:jC E ann wT wL aJ=true) (h:gW E R ann N aJ draw S K):gW E R ann N aJ draw S fun S'=>K S'∧gI wT wL S S':=by
 unfold gW at h⊢;revert h;split
 ·simp only[lh];exact uG hm _ hw
 ·exact bY (kY hm hw _)
theorem BH {S:St} {dT dL:List Nat} (h1:jB dT wT=true) (h2:jB dL wL=true):gI wT wL S (rP dT dL S):=
 ⟨fun t ht=>by simp [rP,fB h1 ht],fun t ht=>by simp [rP,fB h2 ht]⟩
theorem uI (hm:R.le R) {aJ:List Oper} {ts ls dT dL:List Nat} (h1:jB ts wT=true) (h2:jB ls wL=true) (h3:jB dT wT=true) (h4:jB dL wL=true) {K:St→Prop}:∀(l:List Oper) {S:St},jC E ann wT wL l=true→kJ E R ann N ts ls dT dL aJ l S K→kJ E R ann N ts ls dT dL aJ l S fun S'=>K S'∧gI wT wL S S'
 |[],S,_,h=>⟨h,BH h3 h4⟩
 |o::l,S,hw,h=>by
  simp only[jC,Bool.and_eq_true] at hw;unfold kJ at h⊢;split at h
  ·rw[ib] at h⊢;refine eS hm ?_ (p5 hm hw.1 h);rintro S' ⟨h5,h6⟩;refine pN hm ?_ l (uI hm h1 h2 h3 h4 l hw.2 h5);rintro Hn ⟨h7,h8⟩;exact⟨h7,h6.trans h8⟩
  ·unfold pK at h⊢;split at h
   ·rename_i r U W QZ;refine bY (fun hk=>⟨hk, ?_⟩) h;obtain⟨k1,k2⟩:=oK QZ;refine gI.trans ?_ (BH h3 h4);refine⟨fun t ht=> ?_,fun t ht=> ?_⟩
    ·change pq S U t=S.tm t
     rw[BF,fA (k1 t (fB h1 ht) (fB h3 ht))]
    ·change yr S W t=S.lo t
     rw[BG,fA (k2 t (fB h2 ht) (fB h4 ht))]
   ·exact h
theorem zh {S:St}:∀{l:List (Nat×KT)} {t:Nat},bI t (pL l)=false→ab (lI S l).2 t=none
 |[],_,_=>rfl
 |(u,k)::l,t,h=>by
  simp only[pL,bI,Bool.or_eq_false_iff] at h;simp only[lI,ab,h.1,cond_false];exact zh h.2
theorem zi {S:St}:∀{l:List (Nat×TypeId×List cA)} {t:Nat},bI t (pL l)=false→ab (lJ S l).2 t=none
 |[],_,_=>rfl
 |(u,e,ks)::l,t,h=>by
  simp only[pL,bI,Bool.or_eq_false_iff] at h;simp only[lJ,ab,h.1,cond_false];exact zi h.2
theorem p6 {ok:jy→Bool} {kp:Option jy} {S:St} {A:(Ex→St→Prop)→Prop} {K:Ex→St→Prop} (hj:NF wT wL kp=true) (hA:∀K:Ex→St→Prop,A K→A fun e S'=>K e S'∧gI wT wL S S') (hm:∀K K':Ex→St→Prop,(∀e S,K e S→K' e S)→A K→A K') (h:mB ok kp S A K):mB ok kp S A fun e S'=>K e S'∧gI wT wL S S':=by
 unfold mB at h⊢
 cases kp with
 |none=>exact hA _ h
 |some kp=>
  simp only[NF,UH,Bool.and_eq_true] at hj;obtain⟨Tk,⟨⟨h1,h2⟩,h3⟩,h4⟩:=hj;simp only[Tk] at h⊢;refine bY (fun h=> ?_) h;unfold Fg cg at h⊢;refine hm _ _ ?_ (hA _ h);rintro e S' ⟨hk,ha⟩
  cases e with
  |exit id=>exact⟨hk,ha⟩
  |ret=>exact⟨hk,ha⟩
  |normal=>
   refine iv (fun S1 hk=>bY (fun hk=>⟨hk, ?_⟩) hk) hk;refine⟨fun t ht=> ?_,fun t ht=> ?_⟩
   ·simp only[over,zh (fB h3 ht),fB h1 ht,cond_false]
   ·simp only[over,zi (fB h4 ht),fB h2 ht,cond_false]
theorem sY (hm:R.le R):∀(c:Code) (n:Nat) (S:St) (K:Ex→St→Prop),C7 E ann wT wL c n=true→gr E R f ann N c n S K→gr E R f ann N c n S fun e S'=>K e S'∧gI wT wL S S':=by
 intro c
 induction c with
 |skip=>intro n S K _ hx;exact⟨hx,.refl ..⟩
 |exit id=>intro n S K _ hx;exact⟨hx,.refl ..⟩
 |ret=>intro n S K _ hx;exact⟨hx,.refl ..⟩
 |seq a b iha ihb=>
  intro n S K hw hx;simp only[C7,Bool.and_eq_true] at hw;refine gX hm a _ _ _ _ ?_ (iha n S _ hw.1 hx);rintro e S' ⟨hk,ha⟩
  cases e with
  |exit id=>exact⟨hk,ha⟩
  |ret=>exact⟨hk,ha⟩
  |normal=>
   refine gX hm b _ _ _ _ ?_ (ihb _ S' _ hw.2 hk);rintro e Hn ⟨hk,hb⟩;exact⟨hk,ha.trans hb⟩
 |cond c x y ihx ihy=>
  intro n S K hw hx;simp only[C7,Bool.and_eq_true] at hw;simp only[gr] at hx⊢;split at hx
  ·refine p6 hw.1 ?_ ?_ hx
   ·intro K h;exact ff (ihx _ _ _ hw.2.1) (ihy _ _ _ hw.2.2) h
   ·intro K K' h;exact ff (gX hm x _ _ _ _ h) (gX hm y _ _ _ _ h)
  ·exact hx
 |block id b ih=>
  intro n S K hw hx;simp only[C7,Bool.and_eq_true] at hw;simp only[gr] at hx⊢;refine p6 hw.1 ?_ ?_ hx
  ·intro K h;refine gX hm b _ _ _ _ ?_ (ih _ _ _ hw.2 h);rintro e S' ⟨hk,ha⟩
   cases e with
   |normal=>exact⟨hk,ha⟩
   |ret=>exact⟨hk,ha⟩
   |exit j=>exact ff (fun h=>⟨h,ha⟩) (fun h=>⟨h,ha⟩) hk
  ·intro K K' h;refine gX hm b _ _ _ _ ?_;intro e S'
   cases e with
   |normal=>exact h _ _
   |ret=>exact h _ _
   |exit j=>exact ff (h _ _) (h _ _)
 |region id aJ draw=>
  intro n S K hw hx;simp only[C7,Bool.and_eq_true] at hw;simp only[gr] at hx⊢;revert hx
  cases hkp:sI ann n with
  |none=>exact m0 hm hw.1
  |some kp=>
   simp only[hkp] at hw⊢
   cases QZ:kp.mg with
   |true=>
    simp only[QZ,Bool.and_eq_true] at hw⊢;exact bY (uI hm hw.2.1.1.1 hw.2.1.1.2 hw.2.1.2 hw.2.2 _ hw.1)
   |false=>
    simp only[QZ] at hw⊢;refine p6 (by simp only[NF];exact hw.2) ?_ ?_
    ·intro K h;exact m0 hm hw.1 h
    ·intro K K' h;exact oy hm (h _)
 |loop c ih=>intro n S K hw;simp [C7] at hw
 |rangeFunc=>intro n S K hw;simp [C7] at hw
 |scope b ih=>intro n S K hw h;simp only[C7] at hw;simp only[gr] at h⊢;exact ih _ _ _ hw h
 |label=>intro n S K hw h;simp only[gr] at h⊢;exact⟨h,.refl ..⟩
 |goto=>intro n S K hw;simp [C7] at hw
 |refuse=>intro n S K hw;simp [C7] at hw
end
section
variable {E:kG} {H0:ai} {ρ0:dK} {w0:World} {ann:bS} {N:Nat} {ρ lam:dK} {S:St} {a:Act} {w:World} {R:mA}
def zj (aJ:Array Oper) (listed:Array Bool):Prop:=
 ∀i o,aJ[i]? =some o→listed.getD i false=true→∀e∈o.after.toList,Region.binds .any e=true→listed.getD e.on false=true
theorem p7 {aJ:Array Oper} {listed:Array Bool} (wM:zj aJ listed) (Uu:ov aJ.toList 0=true):∀(i:Nat) (o:Oper) (b:List Nat),aJ[i]? =some o→(iU aJ.toList [])[i]? =some b→(∀e∈o.after.toList,Region.binds .any e=true→listed.getD e.on false=true)→∀j∈b,listed.getD j false=true:=by
 intro i
 induction i using Nat.strongRecOn with
 |_ i ih=>
  intro o b ho hb hl j hj;rcases uD aJ.toList [] i b hb with⟨h,_⟩|⟨q,h1,_,h3⟩
  ·simp at h
  ·have hq:q=o:=by simp only[length_nil,Nat.sub_zero] at h1;rw[Array.getElem?_toList,ho] at h1;exact(Option.some.inj h1).symm
   subst hq;obtain⟨e,he,Q0,hj⟩:=h3 j hj;rcases hj with rfl|⟨hlt,b',hb',hj⟩
   ·exact hl e he Q0
   ·have No:=hl e he Q0
    have hin:e.on<aJ.size:=by
     rcases Nat.lt_or_ge e.on aJ.size with h|h
     ·exact h
     ·have:=(Array.getElem?_eq_some_iff.1 ho).1;omega
    exact ih e.on hlt aJ[e.on] b' (Array.getElem?_eq_getElem hin) hb' (wM e.on _ (Array.getElem?_eq_getElem hin) No) j hj
theorem qY {listed:Array Bool} {i:Nat} (h:i<listed.size):listed.getD i true=listed.getD i false:=by simp [Array.getD,h]
theorem Ie (hR:nE E R) {aJ:Array Oper} {Q:Exit→Act→World→Prop} {K:St→Prop} (hok:yw E ann aJ.toList=true) (hq:∀S' ρ' dS a' w',SR H0 ρ0 w0 ann N ρ' dS S' a' w'→K S'→Q .normal a' w'):∀(fuel:Nat) (listed:Array Bool) {S:St} {ρ lam:dK} {a:Act} {w:World},listed.size=aJ.size→zj aJ listed→(kc aJ.size listed).length≤fuel→hO E R ann N aJ (kc aJ.size listed) S K→SR H0 ρ0 w0 ann N ρ lam S a w→wpAny E.P .any aJ Q fuel listed a w:=by
 rw[yw,Bool.and_eq_true] at hok;obtain⟨Uu,Tl⟩:=hok
 have hin:∀{listed:Array Bool} {i:Nat},listed.size=aJ.size→i∈Region.ready .any aJ listed→i<aJ.size∧listed.getD i false=false:=by
  intro listed i hs hi;obtain⟨h0,o,ho,_⟩:=mem_ready.1 hi;have hlt:=(Array.getElem?_eq_some_iff.1 ho).1;exact⟨hlt,by rw[←qY (by omega)];exact h0⟩
 have hmem:∀{listed:Array Bool} {i:Nat},i<aJ.size→listed.getD i false=false→i∈kc aJ.size listed:=by
  intro listed i h1 h2;unfold kc;rw[mem_filter,mem_range];exact⟨h1,by rw[h2];rfl⟩
 intro fuel
 induction fuel with
 |zero=>
  intro listed S ρ lam a w hs wM hlen hk h;have EW:kc aJ.size listed=[]:=eq_nil_of_length_eq_zero (by omega);rw[EW] at hk;refine⟨?_,hq _ _ _ _ _ h hk⟩
  cases hr:Region.ready .any aJ listed with
  |nil=>rfl
  |cons i l=>
   obtain⟨h1,h2⟩:=hin hs (hr▸mem_cons_self .. :i∈Region.ready .any aJ listed);have:=hmem h1 h2;rw[EW] at this;cases this
 |succ fuel ih=>
  intro listed S ρ lam a w hs wM hlen hk h;refine⟨fun hnone=> ?_,fun i hi=> ?_⟩
  ·have hall:∀i,i<aJ.size→listed.getD i false=true:=by
    intro i
    induction i using Nat.strongRecOn with
    |_ i ihi=>
     intro hi;cases hl:listed.getD i false
     ·exfalso
      have:i∈Region.ready .any aJ listed:=by
       refine mem_ready.2 ⟨by rw[qY (by omega)];exact hl,aJ[i],Array.getElem?_eq_getElem hi,fun e he hb=> ?_⟩;have hlt:=oI Uu i aJ[i] (by rw[Array.getElem?_toList,Array.getElem?_eq_getElem hi]) e (Array.mem_toList_iff.2 he) hb;exact ihi e.on (by omega) (by omega)
      rw[hnone] at this;cases this
     ·rfl
   have EW:kc aJ.size listed=[]:=by
    unfold kc;rw[filter_eq_nil_iff];intro i hi;rw[hall i (mem_range.1 hi)];simp
   rw[EW] at hk;exact hq _ _ _ _ _ h hk
  ·obtain⟨h1,h2⟩:=hin hs hi;obtain⟨_,o,ho,AD⟩:=mem_ready.1 hi
   have Xd:zj aJ (listed.setIfInBounds i true):=by
    intro j p hp hj e he hb;by_cases hji:i=j
    ·subst hji;rw[ho] at hp;cases hp;exact getD_set_true (AD e (Array.mem_toList_iff.1 he) hb)
    ·rw[getD_set_ne false hji] at hj;exact getD_set_true (wM j p hp hj e he hb)
   obtain⟨pre,post,e1,e2,h3,h4⟩:=uE (p:=fun j=> !listed.getD j false) (q:=fun j=> !(listed.setIfInBounds i true).getD j false) (i:=i)
    (fun j hj=>by rw[getD_set_ne false (fun e=>hj e.symm)]) (by simp only[h2];rfl) (by simp [Array.getD,hs,h1]) (List.range aJ.size) (mem_range.2 h1) nodup_range
   have hk':hO E R ann N aJ (pre++i::post) S K:=by
    have:kc aJ.size listed=pre++i::post:=e1;rw[←this];exact hk
   have hstep:=uB hR ho pre post (by
    intro j hj p hp;obtain⟨hj1,hj2,hj3⟩:=h3 j hj;have hlt:=h4 pairwise_lt_range j hj;have hf:(aJ.toList.map (dj E ann aJ.toList))[i]? =some (dj E ann aJ.toList o):=by rw[List.getElem?_map,Array.getElem?_toList,ho];rfl
    have Nd:=pY Tl i _ hf;rw[Nat.zero_add] at Nd;obtain⟨g,b,hg,hb,Ue⟩:=uC Nd j hlt;have hg':g=dj E ann aJ.toList p:=by rw[List.getElem?_map,Array.getElem?_toList,hp] at hg;exact(Option.some.inj hg).symm
    subst hg';rcases Ue with Ue|Ue
    ·have:=p7 wM Uu i o b ho hb (fun e he Q0=>AD e (Array.mem_toList_iff.1 he) Q0) j Ue;simp only[this] at hj2;cases hj2
    ·exact Ue) hk'
   refine pV hR.ext hR.call hR.body h ho hstep ?_;intro S' ρ' dS a' w' h' hk2;have e3:kc aJ.size (listed.setIfInBounds i true)=pre++post:=e2;refine ih _ (by simp [hs]) Xd ?_ (by rw[e3];exact hk2) h';have Rt:kc aJ.size listed=pre++i::post:=e1;rw[Rt] at hlen;rw[e3];simp at hlen⊢;omega
end
theorem zk:∀{l m:List Nat},jt l m=true→∃x,x∈l∧x∈m
 |y::l,m,h=>by
  rw[jt,Bool.or_eq_true] at h;rcases h with h|h
  ·exact⟨y,mem_cons_self ..,jD.1 h⟩
  ·obtain⟨x,hx1,vD⟩:=zk h;exact⟨x,mem_cons_of_mem _ hx1,vD⟩
theorem mH (n:Nat):∀l,jA n l=l.filter (fun x=> !decide (x=n))
 |[]=>rfl
 |x::l=>by
  rw[jA,aY,mH n l];by_cases h:n=x
  ·subst h;simp
  ·have:¬x=n:=fun e=>h e.symm
   simp [h,this]
theorem nF {n j:Nat} {l:List Nat}:j∈jA n l↔j∈l∧j≠n:=by
 rw[mH,mem_filter];simp
theorem BI (i j:Nat) (l:List Nat):jA i (jA j l)=jA j (jA i l):=by
 rw[mH,mH,mH,mH,List.filter_filter,List.filter_filter];congr 1;funext x;rw[Bool.and_comm]
theorem p8 {n:Nat} {l:List Nat} (h:n∈l):(jA n l).length<l.length:=by
 rw[mH];have:=length_filter_lt_length_iff_exists (p:=fun x=> !decide (x=n)) (l:=l);exact this.2 ⟨n,h,by simp⟩
section
variable {fs:List jW} {bs:List (List Nat)}
theorem p9 {rem:List Nat} {i:Nat}:gz bs rem i=true↔∀x∈nt bs i,x∉rem:=by
 unfold gz;rw[Bool.not_eq_true'];constructor
 ·exact fun h x hx=>fQ h x hx
 ·intro h;cases hm:jt (nt bs i) rem
  ·rfl
  ·obtain⟨x,h1,h2⟩:=zk hm;exact absurd h2 (h x h1)
theorem qZ {rem:List Nat} {i j:Nat} (h:gz bs rem j=true):gz bs (jA i rem) j=true:=by
 rw[p9] at h⊢;exact fun x hx hm=>h x hx (nF.1 hm).1
theorem m7 {i:Nat} {f:jW}:∀{rem:List Nat},eg fs bs i f rem=true↔∀j∈rem,i=j∨i∈nt bs j∨∃g,fs[j]? =some g∧gy g f=true∧gy f g=true
 |[]=>by simp [eg]
 |j::l=>by
  rw[eg,Bool.and_eq_true,m7];simp only[forall_mem_cons];refine and_congr ?_ Iff.rfl;simp only[Bool.or_eq_true,aY,decide_eq_true_eq,jD,_root_.or_assoc];refine or_congr Iff.rfl (or_congr Iff.rfl ?_)
  cases fs[j]? with
  |none=>simp
  |some g=>simp
theorem sj {i j:Nat} {f:jW} {rem:List Nat} (h:eg fs bs i f rem=true):eg fs bs i f (jA j rem)=true:=by
 rw[m7] at h⊢;exact fun k hk=>h k (nF.1 hk).1
theorem rf {rem:List Nat} {i:Nat}:∀{l:List Nat},ox fs bs rem l=some i→i∈l∧gz bs rem i=true∧∃f,fs[i]? =some f∧eg fs bs i f rem=true
 |x::l,h=>by
  rw[ox] at h;split at h
  ·rename_i f hr hf
   cases hc:eg fs bs x f rem with
   |true=>
    rw[hc] at h;simp only[cond_true,some.injEq] at h;subst h;exact⟨mem_cons_self ..,hr,f,hf,hc⟩
   |false=>
    rw[hc] at h;obtain⟨h1,h2⟩:=rf h;exact⟨mem_cons_of_mem _ h1,h2⟩
  ·obtain⟨h1,h2⟩:=rf h;exact⟨mem_cons_of_mem _ h1,h2⟩
theorem vT {rem:List Nat}:∀{l:List Nat},ox fs bs rem l=none→∀i∈l,gz bs rem i=true→∀f,fs[i]? =some f→eg fs bs i f rem=false
 |x::l,h,i,hi,hr,f,hf=>by
  rw[ox] at h;rcases mem_cons.1 hi with rfl|hi
  ·rw[hr,hf] at h;simp only[] at h
   cases hc:eg fs bs i f rem with
   |true=>rw[hc] at h;cases h
   |false=>rfl
  ·split at h
   ·rename_i g _ _
    cases hc:eg fs bs x g rem with
    |true=>rw[hc] at h;cases h
    |false=>rw[hc] at h;exact vT h i hi hr f hf
   ·exact vT h i hi hr f hf
theorem FK {step:Nat→St→(St→Prop)→Prop} {g:Nat→r6} {S:St} {K:St→Prop}:∀{l:List Nat},iu step (RG g l) S K→∀i∈l,step i S fun S'=>iu step (g i) S' K
 |[x],h,i,hi=>by
  rw[mem_singleton] at hi;subst hi;exact h
 |x::y::l,h,i,hi=>by
  obtain⟨h1,h2⟩:=h;rcases mem_cons.1 hi with rfl|hi
  ·exact h1
  ·exact FK h2 i hi
theorem qd {rem:List Nat} {i:Nat} (hr:gz bs rem i=true):∀{l:List Nat},i∈l→i∈qP bs rem l
 |x::l,h=>by
  rw[qP];rcases mem_cons.1 h with rfl|h
  ·rw[hr];exact mem_cons_self ..
  ·cases gz bs rem x
   ·exact qd hr h
   ·exact mem_cons_of_mem _ (qd hr h)
end
section
variable {E:kG} {H0:ai} {ρ0:dK} {w0:World} {ann:bS} {N:Nat} {ρ lam:dK} {S:St} {a:Act} {w:World} {R:mA}
def iI (E:kG) (R:mA) (ann:bS) (N:Nat) (aJ:Array Oper) (i:Nat) (S:St) (K:St→Prop):Prop:=
 match aJ[i]? with
 |some o=>cq E R ann N aJ.toList o S K
 |none=>False
theorem oL (hm:R.le R) {aJ:Array Oper} {i:Nat} {S:St} {K K':St→Prop} (h:∀S,K S→K' S) (hk:iI E R ann N aJ i S K):iI E R ann N aJ i S K':=by
 unfold iI at hk⊢;split at hk
 ·exact eS hm h hk
 ·exact hk
abbrev zl (E:kG) (ann:bS) (aJ:Array Oper):List jW:=aJ.toList.map (dj E ann aJ.toList)
abbrev xC (aJ:Array Oper):List (List Nat):=iU aJ.toList []
def Ba (E:kG) (R:mA) (ann:bS) (N:Nat) (aJ:Array Oper) (n:Nat) (rem:List Nat) (S:St) (K:St→Prop):Prop:=
 iu (iI E R ann N aJ) (Bv (zl E ann aJ) (xC aJ) n rem) S K
theorem TE (hR:nE E R) {aJ:Array Oper} {i j:Nat} {S:St} {K:St→Prop} {f g:jW} (hi:(zl E ann aJ)[i]? =some f) (hj:(zl E ann aJ)[j]? =some g) (ha:gy f g=true) (h:iI E R ann N aJ i S fun S'=>iI E R ann N aJ j S' K):iI E R ann N aJ j S fun S'=>iI E R ann N aJ i S' K:=by
 simp only[zl,List.getElem?_map,Array.getElem?_toList,map_eq_some_iff] at hi hj;obtain⟨p,hp,rfl⟩:=hi;obtain⟨q,hq,rfl⟩:=hj;simp only[iI,hp,hq] at h⊢;exact yG hR.mono hR.vF ha h
theorem abZ (hR:nE E R) {aJ:Array Oper}:∀(n:Nat),(∀(rem:List Nat) (j:Nat) (S:St) (K:St→Prop),rem.length≤n→j∈rem→j<aJ.size→gz (xC aJ) rem j=true→Ba E R ann N aJ n rem S K→iI E R ann N aJ j S fun S'=>Ba E R ann N aJ (n-1) (jA j rem) S' K)∧(∀(rem:List Nat) (i:Nat) (f:jW) (S:St) (K:St→Prop),rem.length≤n→i∈rem→(zl E ann aJ)[i]? =some f→gz (xC aJ) rem i=true→eg (zl E ann aJ) (xC aJ) i f rem=true→(iI E R ann N aJ i S fun S'=>Ba E R ann N aJ (n-1) (jA i rem) S' K)→Ba E R ann N aJ n rem S K):=by
 intro n
 induction n with
 |zero=>
  refine⟨fun rem j S K hl hj=> ?_,fun rem i f S K hl hi=> ?_⟩
  ·have:=eq_nil_of_length_eq_zero (l:=rem) (by omega);subst this;cases hj
  ·have:=eq_nil_of_length_eq_zero (l:=rem) (by omega);subst this;cases hi
 |succ m ih=>
  obtain⟨ihE,ihB⟩:=ih
  have Uw:∀(rem:List Nat) (S:St) (K:St→Prop) (j:Nat),j∈rem→Ba E R ann N aJ (m+1) rem S K=
   (match ox (zl E ann aJ) (xC aJ) rem rem with
   |some i=>iI E R ann N aJ i S fun S'=>Ba E R ann N aJ m (jA i rem) S' K
   |none=>iu (iI E R ann N aJ) (RG (fun i=>Bv (zl E ann aJ) (xC aJ) m (jA i rem)) (qP (xC aJ) rem rem)) S K):=by
   intro rem S K j hj
   cases rem with
   |nil=>cases hj
   |cons x l=>
    simp only[Ba,Bv];cases ox (zl E ann aJ) (xC aJ) (x::l) (x::l)<;>rfl
  have app:∀{rem:List Nat} {i j:Nat} {f:jW},i≠j→i∈rem→j∈rem→gz (xC aJ) rem j=true→eg (zl E ann aJ) (xC aJ) i f rem=true→
   ∃g,(zl E ann aJ)[j]? =some g∧gy g f=true∧gy f g=true:=by
   intro rem i j f hne hi hj hr hc;rcases (m7.1 hc) j hj with h|h|h
   ·exact absurd h hne
   ·exact absurd hi (p9.1 hr i h)
   ·exact h
  refine⟨?_, ?_⟩
  ·intro rem j S K hl hj hjs hr hk;rw[Uw rem S K j hj] at hk;rw[Nat.add_sub_cancel];split at hk
   ·rename_i i hp;obtain⟨hi,hri,f,hf,hc⟩:=rf hp;by_cases hij:i=j
    ·subst hij;exact hk
    ·obtain⟨g,hg,Np,Ux⟩:=app hij hi hj hr hc;have hli:=p8 hi;have hlj:=p8 hj;have hjd:j∈jA i rem:=nF.2 ⟨hj,fun e=>hij e.symm⟩;have hid:i∈jA j rem:=nF.2 ⟨hi,hij⟩
     have h1:iI E R ann N aJ i S fun S1=>iI E R ann N aJ j S1 fun S2=>Ba E R ann N aJ (m-1) (jA j (jA i rem)) S2 K:=
      oL hR.mono (fun S1 h=>ihE _ j S1 K (by omega) hjd hjs (qZ hr) h) hk
     have h2:=TE hR hf hg Ux h1;refine oL hR.mono (fun S1 h=> ?_) h2;refine ihB _ i f S1 K (by omega) hid hf (qZ hri) (sj hc) ?_;rw[BI];exact h
   ·exact FK hk j (qd hr hj)
  ·intro rem i f S K hl hi hf hri hc hk;rw[Uw rem S K i hi];rw[Nat.add_sub_cancel] at hk;split
   ·rename_i k hp;obtain⟨hkm,X2,f',hf',rW⟩:=rf hp;by_cases hki:k=i
    ·subst hki;exact hk
    ·obtain⟨g,hg,Np,Ux⟩:=app hki hkm hi hri rW;rw[hf] at hg;cases hg;have hli:=p8 hi;have hlk:=p8 hkm;have hkd:k∈jA i rem:=nF.2 ⟨hkm,hki⟩;have hid:i∈jA k rem:=nF.2 ⟨hi,fun e=>hki e.symm⟩
     have hks:k<aJ.size:=by
      have:=(List.getElem?_eq_some_iff.1 hf').1;simpa using this
     have h1:iI E R ann N aJ i S fun S1=>iI E R ann N aJ k S1 fun S2=>Ba E R ann N aJ (m-1) (jA k (jA i rem)) S2 K:=
      oL hR.mono (fun S1 h=>ihE _ k S1 K (by omega) hkd hks (qZ X2) h) hk
     have h2:=TE hR hf hf' Np h1;refine oL hR.mono (fun S1 h=> ?_) h2;refine ihB _ i f S1 K (by omega) hid hf (qZ hri) (sj hc) ?_;rw[BI];exact h
   ·rename_i hp;have:=vT hp i hi hri f hf;rw[hc] at this;cases this
theorem NZ {n:Nat} {listed:Array Bool} {i:Nat} (hi:i<listed.size):kc n (listed.setIfInBounds i true)=jA i (kc n listed):=by
 rw[mH];unfold kc;rw[List.filter_filter];apply filter_congr;intro j _;by_cases h:i=j
 ·subst h;simp [Array.getD,hi]
 ·have:¬j=i:=fun e=>h e.symm
  rw[getD_set_ne false h];simp [this]
theorem FL (hR:nE E R) {aJ:Array Oper} {Q:Exit→Act→World→Prop} {K:St→Prop} (Uu:ov aJ.toList 0=true) (hq:∀S' ρ' dS a' w',SR H0 ρ0 w0 ann N ρ' dS S' a' w'→K S'→Q .normal a' w'):∀(fuel:Nat) (listed:Array Bool) {S:St} {ρ lam:dK} {a:Act} {w:World},listed.size=aJ.size→zj aJ listed→(kc aJ.size listed).length≤fuel→Ba E R ann N aJ fuel (kc aJ.size listed) S K→SR H0 ρ0 w0 ann N ρ lam S a w→wpAny E.P .any aJ Q fuel listed a w:=by
 have hin:∀{listed:Array Bool} {i:Nat},listed.size=aJ.size→i∈Region.ready .any aJ listed→i<aJ.size∧listed.getD i false=false:=by
  intro listed i hs hi;obtain⟨h0,o,ho,_⟩:=mem_ready.1 hi;have hlt:=(Array.getElem?_eq_some_iff.1 ho).1;exact⟨hlt,by rw[←qY (by omega)];exact h0⟩
 have hmem:∀{listed:Array Bool} {i:Nat},i<aJ.size→listed.getD i false=false→i∈kc aJ.size listed:=by
  intro listed i h1 h2;unfold kc;rw[mem_filter,mem_range];exact⟨h1,by rw[h2];rfl⟩
 intro fuel
 induction fuel with
 |zero=>
  intro listed S ρ lam a w hs wM hlen hk h;have EW:kc aJ.size listed=[]:=eq_nil_of_length_eq_zero (by omega);rw[EW] at hk;refine⟨?_,hq _ _ _ _ _ h hk⟩
  cases hr:Region.ready .any aJ listed with
  |nil=>rfl
  |cons i l=>
   obtain⟨h1,h2⟩:=hin hs (hr▸mem_cons_self .. :i∈Region.ready .any aJ listed);have:=hmem h1 h2;rw[EW] at this;cases this
 |succ fuel ih=>
  intro listed S ρ lam a w hs wM hlen hk h;refine⟨fun hnone=> ?_,fun i hi=> ?_⟩
  ·have hall:∀i,i<aJ.size→listed.getD i false=true:=by
    intro i
    induction i using Nat.strongRecOn with
    |_ i ihi=>
     intro hi;cases hl:listed.getD i false
     ·exfalso
      have:i∈Region.ready .any aJ listed:=by
       refine mem_ready.2 ⟨by rw[qY (by omega)];exact hl,aJ[i],Array.getElem?_eq_getElem hi,fun e he hb=> ?_⟩;have hlt:=oI Uu i aJ[i] (by rw[Array.getElem?_toList,Array.getElem?_eq_getElem hi]) e (Array.mem_toList_iff.2 he) hb;exact ihi e.on (by omega) (by omega)
      rw[hnone] at this;cases this
     ·rfl
   have EW:kc aJ.size listed=[]:=by
    unfold kc;rw[filter_eq_nil_iff];intro i hi;rw[hall i (mem_range.1 hi)];simp
   rw[EW] at hk;exact hq _ _ _ _ _ h hk
  ·obtain⟨h1,h2⟩:=hin hs hi;obtain⟨_,o,ho,AD⟩:=mem_ready.1 hi
   have Xd:zj aJ (listed.setIfInBounds i true):=by
    intro j p hp hj e he hb;by_cases hji:i=j
    ·subst hji;rw[ho] at hp;cases hp;exact getD_set_true (AD e (Array.mem_toList_iff.1 he) hb)
    ·rw[getD_set_ne false hji] at hj;exact getD_set_true (wM j p hp hj e he hb)
   have hr:gz (xC aJ) (kc aJ.size listed) i=true:=by
    rw[p9];intro x hx hm;unfold nt at hx
    cases hb:(xC aJ)[i]? with
    |none=>rw[hb] at hx;simp at hx
    |some b=>
     rw[hb] at hx;have:=p7 wM Uu i o b ho hb (fun e he Q0=>AD e (Array.mem_toList_iff.1 he) Q0) x hx;unfold kc at hm;rw[mem_filter,this] at hm;simp at hm
   have hstep:=(abZ hR (fuel+1)).1 _ i S K hlen (hmem h1 h2) h1 hr hk;simp only[iI,ho,Nat.add_sub_cancel] at hstep;have hd:=p8 (hmem h1 h2);rw[←NZ (by omega)] at hstep hd;refine pV hR.ext hR.call hR.body h ho hstep ?_;intro S' ρ' dS a' w' h' hk2;exact ih _ (by simp [hs]) Xd (by omega) hk2 h'
def exR:Ex→Exit
 | .normal=>.normal
 | .exit id=>.exit id
 | .ret=>.ret
theorem uJ (hR:nE E R) (hm:E.P.follows .mixedOrders=true) {id:Nat} {aJ:Array Oper} {draw:Bool} {Q:Exit→Act→World→Prop} {K:St→Prop} (hok:(!draw||yw E ann aJ.toList)=true) (h:SR H0 ρ0 w0 ann N ρ lam S a w) (hk:lG E R ann N aJ.toList aJ.toList S K) (hq:∀S' ρ' dS a' w',SR H0 ρ0 w0 ann N ρ' dS S' a' w'→K S'→Q .normal a' w'):(Code.region id aJ draw).wp E.P Q a w:=by
 rw[BE aJ.toList 0 rfl] at hk;rw[Array.length_toList, ←range_eq_range'] at hk
 cases draw with
 |false=>exact wp_region (pX hR _ h hk hq)
 |true=>
  refine wp_region_any hm ?_
  have Ho:kc aJ.size (Array.replicate aJ.size false)=List.range aJ.size:=by
   unfold kc;rw[filter_eq_self];intro i hi;simp [Array.getD,mem_range.1 hi]
  refine Ie hR (by simpa using hok) hq aJ.size _ (by simp) ?_ (by rw[Ho];simp) (by rw[Ho];exact hk) (h.drew _);intro i o _ hi;simp [Array.getD] at hi
theorem LH {aJ:Array Oper}:fT E R ann N aJ.toList=iI E R ann N aJ:=by
 funext i S K;unfold fT iI;rw[Array.getElem?_toList]
 cases aJ[i]? with
 |none=>rfl
 |some o=>exact ib
theorem Bb (hR:nE E R) (hm:E.P.follows .mixedOrders=true) {id:Nat} {aJ:Array Oper} {draw:Bool} {Q:Exit→Act→World→Prop} {K:St→Prop} (h:SR H0 ρ0 w0 ann N ρ lam S a w) (hk:gW E R ann N aJ.toList draw S K) (hq:∀S' ρ' dS a' w',SR H0 ρ0 w0 ann N ρ' dS S' a' w'→K S'→Q .normal a' w'):(Code.region id aJ draw).wp E.P Q a w:=by
 unfold gW at hk;split at hk
 ·rename_i hok;rw[lh] at hk;exact uJ hR hm hok h hk hq
 ·rename_i hok;obtain⟨Uu,hk⟩:=aW hk
  have Tl:draw=true:=by
   cases draw with
   |true=>rfl
   |false=>simp at hok
  subst Tl;rw[LH] at hk;refine wp_region_any hm ?_
  have Ho:kc aJ.size (Array.replicate aJ.size false)=List.range aJ.size:=by
   unfold kc;rw[filter_eq_self];intro i hi;simp [Array.getD,mem_range.1 hi]
  refine FL hR Uu hq aJ.size _ (by simp) ?_ (by rw[Ho];simp) (by rw[Ho];rw[Array.length_toList] at hk;exact hk) (h.drew _);intro i o _ hi;simp [Array.getD] at hi
theorem FM {kp:Option jy} {A:(Ex→St→Prop)→Prop} {K:Ex→St→Prop} {X:Prop} (hj:wO kp A K) (hA:∀K':Ex→St→Prop,A K'→(∀e S' ρ' dS a' w',SR H0 ρ0 w0 ann N ρ' dS S' a' w'→K' e S'→∃Hn,SR H0 ρ0 w0 ann N ρ' dS Hn a' w'∧K e Hn)→X):X:=by
 unfold wO at hj
 cases kp with
 |none=>exact hA K hj fun e S' ρ' dS a' w' h hk=>⟨S',h,hk⟩
 |some kp=>
  refine hA _ hj ?_;intro e S' ρ' dS a' w' h hk
  cases e with
  |normal=>
   obtain⟨S1,h1,hk⟩:=kb h hk;exact pW h1 hk
  |exit id=>exact⟨S',h,hk⟩
  |ret=>exact⟨S',h,hk⟩
theorem BJ {α:Type} {l:List (Nat×α)} {dr:List Nat} {g:Nat→Option α} {t:Nat} {x:α} (h:over l dr g t=some x):ab l t=some x∨(bI t dr=false∧g t=some x):=by
 unfold over at h;split at h
 ·rename_i y hy;cases h;exact .inl hy
 ·cases hm:bI t dr with
  |true=>rw[hm] at h;cases h
  |false=>rw[hm] at h;exact .inr ⟨rfl,h⟩
theorem qe {ok:jy→Bool} {kp:Option jy} {S:St} {A:(Ex→St→Prop)→Prop} {K:Ex→St→Prop} {X:Prop} (hag:∀(kp:jy) (K:Ex→St→Prop),ok kp=true→A K→A fun e S'=>K e S'∧gI kp.wT kp.wL S S') (hj:mB ok kp S A K) (hA:∀K':Ex→St→Prop,A K'→(∀e S' ρ' dS a' w',SR H0 ρ0 w0 ann N ρ' dS S' a' w'→K' e S'→∃Hn,SR H0 ρ0 w0 ann N ρ' dS Hn a' w'∧K e Hn)→X):X:=by
 unfold mB at hj
 cases kp with
 |none=>exact hA K hj fun e S' ρ' dS a' w' h hk=>⟨S',h,hk⟩
 |some kp=>
  simp only[] at hj;split at hj
  ·obtain⟨hok,hj⟩:=aW hj;refine hA _ (hag kp _ hok hj) ?_;rintro e S' ρ' dS a' w' h ⟨hk,ha⟩
   cases e with
   |exit id=>exact⟨S',h,hk⟩
   |ret=>exact⟨S',h,hk⟩
   |normal=>
    have hk:lH (pL kp.cj) (pL kp.hJ) S' fun S1=>af ((lI S1 kp.cj).1&&(lJ S1 kp.hJ).1)
     (K .normal ⟨over (lI S1 kp.cj).2 kp.wT S.tm,over (lJ S1 kp.hJ).2 kp.wL S.lo,S1.hp⟩):=hk
    unfold lH at hk;split at hk
    ·rename_i m l hm hl;obtain⟨hr,hk⟩:=aW hk;rw[Bool.and_eq_true] at hr;refine⟨_,h.RU (S':=⟨over (lI ⟨ab m,ab l,S'.hp⟩ kp.cj).2 kp.wT S.tm,over (lJ ⟨ab m,ab l,S'.hp⟩ kp.hJ).2 kp.wL S.lo,S'.hp⟩) (fun t x hx=> ?_) (fun t x hx=> ?_) rfl,hk⟩
     ·rcases BJ hx with hx|⟨hn,hx⟩
      ·exact sT hm (sV hr.1 hx)
      ·rw[ha.1 t hn];exact hx
     ·rcases BJ hx with hx|⟨hn,hx⟩
      ·exact sU hl (sW hr.2 hx)
      ·rw[ha.2 t hn];exact hx
    ·exact hk.elim
  ·exact FM hj hA
theorem RZ {S:St} {ρ lam:dK} {a:Act} {w:World} {dT dL:List Nat} (h:SR H0 ρ0 w0 ann N ρ lam S a w):SR H0 ρ0 w0 ann N ρ lam (rP dT dL S) a w:=by
 refine h.RU (fun t x hx=> ?_) (fun t x hx=> ?_) rfl
 ·simp only[rP] at hx
  cases hm:bI t dT with
  |true=>rw[hm] at hx;cases hx
  |false=>rw[hm] at hx;exact hx
 ·simp only[rP] at hx
  cases hm:bI t dL with
  |true=>rw[hm] at hx;cases hx
  |false=>rw[hm] at hx;exact hx
theorem zm {f:FuncId} {fn:Func} (hR:nE E R) (hm:E.P.follows .mixedOrders=true) (hf:E.P.funcs[f]? =some fn) (adW:ann=E.ann f) (hN:N=fn.ntmps):∀(c:Code) (n:Nat) (S:St) (K:Ex→St→Prop) (ρ lam:dK) (a:Act) (w:World) (Q:Exit→Act→World→Prop),gr E R f ann N c n S K→SR H0 ρ0 w0 ann N ρ lam S a w→(∀e S' ρ' dS a' w',SR H0 ρ0 w0 ann N ρ' dS S' a' w'→K e S'→Q (exR e) a' w')→c.wp E.P Q a w:=by
 intro c
 induction c with
 |skip=>intro n S K ρ lam a w Q hx h hq;exact wp_skip (hq .normal _ _ _ _ _ h hx)
 |seq x y ihx ihy=>
  intro n S K ρ lam a w Q hx h hq;refine wp_seq (ihx n S _ ρ lam a w _ hx h ?_);intro e S' ρ' dS a' w' h' hk
  cases e with
  |normal=>exact ihy _ _ _ _ _ _ _ _ hk h' hq
  |exit id=>exact hq (.exit id) _ _ _ _ _ h' hk
  |ret=>exact hq .ret _ _ _ _ _ h' hk
 |cond c x y ihx ihy=>
  intro n S K ρ lam a w Q hx h hq;simp only[gr] at hx;split at hx
  ·rename_i t ht;have hb:=(h.ev.tv ht).Dh;refine qe (H0:=H0) (ρ0:=ρ0) (w0:=w0) (ann:=ann) (N:=N) ?_ hx ?_
   ·intro kp K hok;rw[Bool.and_eq_true] at hok;exact ff (sY hR.mono x _ _ _ hok.1) (sY hR.mono y _ _ _ hok.2)
   intro K' hx hK
   have X0:∀e S' ρ' dS a' w',SR H0 ρ0 w0 ann N ρ' dS S' a' w'→K' e S'→Q (exR e) a' w':=by
    intro e S' ρ' dS a' w' h' hk;obtain⟨Hn,h'',Q1⟩:=hK e S' ρ' dS a' w' h' hk;exact hq e _ _ _ _ _ h'' Q1
   rcases gA hx with⟨rfl,hx⟩|⟨rfl,hx⟩
   ·exact wp_cond_true hb (ihx _ _ _ _ _ _ _ _ hx h X0)
   ·exact wp_cond_false hb (ihy _ _ _ _ _ _ _ _ hx h X0)
  ·exact hx.elim
 |block id b ih=>
  intro n S K0 ρ lam a w Q hx h hq;simp only[gr] at hx;refine qe (H0:=H0) (ρ0:=ρ0) (w0:=w0) (ann:=ann) (N:=N) ?_ hx ?_
  ·intro kp K hok hx;refine gX hR.mono b _ _ _ _ ?_ (sY hR.mono b _ _ _ hok hx);rintro e S' ⟨hk,ha⟩
   cases e with
   |normal=>exact⟨hk,ha⟩
   |ret=>exact⟨hk,ha⟩
   |exit j=>exact ff (fun h=>⟨h,ha⟩) (fun h=>⟨h,ha⟩) hk
  intro K hx hK;have hq0:=hq
  have hq:∀e S' ρ' dS a' w',SR H0 ρ0 w0 ann N ρ' dS S' a' w'→K e S'→Q (exR e) a' w':=by
   intro e S' ρ' dS a' w' h' hk;obtain⟨Hn,h'',Q1⟩:=hK e S' ρ' dS a' w' h' hk;exact hq0 e _ _ _ _ _ h'' Q1
  refine wp_block (ih n S _ ρ lam a w _ hx h ?_);intro e S' ρ' dS a' w' h' hk
  cases e with
  |normal=>exact hq .normal _ _ _ _ _ h' hk
  |exit j=>
   simp only[exR,Exit.inBlock];rcases gA hk with⟨hj,hk⟩|⟨hj,hk⟩
   ·rw[if_pos (Nat.eq_of_beq_eq_true hj)];exact hq .normal _ _ _ _ _ h' hk
   ·rw[if_neg (fun e=>by rw[e,Nat.beq_refl] at hj;cases hj)];exact hq (.exit j) _ _ _ _ _ h' hk
  |ret=>exact hq .ret _ _ _ _ _ h' hk
 |loop c ih=>
  intro n S K ρ lam a w Q hx h hq;simp only[gr] at hx;split at hx
  ·rename_i kp hkp;obtain⟨S0,h0,hx⟩:=kb h hx;subst adW;subst hN;refine NY (hR.loop _ _ _ _ _ _ hx fn H0 ρ0 w0 ρ lam a w Q hf h0 ?_ ?_)
   ·intro S' ρ' dS a' w' h' hk;obtain⟨Hn,h'',hk⟩:=pW h' hk;exact hq .ret _ _ _ _ _ h'' hk
   ·intro id S' ρ' dS a' w' h' hk;obtain⟨Hn,h'',hk⟩:=uA h' hk;exact hq (.exit id) _ _ _ _ _ h'' hk
  ·exact hx.elim
 |exit id=>intro n S K ρ lam a w Q hx h hq;exact wp_exit (hq (.exit id) _ _ _ _ _ h hx)
 |ret=>intro n S K ρ lam a w Q hx h hq;exact wp_ret (hq .ret _ _ _ _ _ h hx)
 |region id aJ draw=>
  intro n S K ρ lam a w Q hx h hq;simp only[gr] at hx
  have old:∀kp:Option jy,mB (fun kp=>jC E ann kp.wT kp.wL aJ.toList) kp S (fun K=>gW E R ann N aJ.toList draw S (K .normal)) K→(Code.region id aJ draw).wp E.P Q a w:=by
   intro kp hx;refine qe (H0:=H0) (ρ0:=ρ0) (w0:=w0) (ann:=ann) (N:=N) ?_ hx ?_
   ·intro kp K hok hx;exact m0 hR.mono hok hx
   intro K' hx hK;refine Bb hR hm h hx ?_;intro S' ρ' dS a' w' h' hk;obtain⟨Hn,h'',Q1⟩:=hK .normal S' ρ' dS a' w' h' hk;exact hq .normal _ _ _ _ _ h'' Q1
  revert hx;split
  ·exact old none
  ·rename_i kp _;split
   ·intro hx;obtain⟨hok,hx⟩:=aW hx;have hx:=ze hR.mono _ hx;rw[lh] at hx;refine uJ hR hm hok h hx ?_;intro S' ρ' dS a' w' h' hk;exact hq .normal _ _ _ _ _ (RZ h') hk
   ·exact old (some kp)
 |rangeFunc=>intro n S K ρ lam a w Q hx;exact hx.elim
 |scope b ih=>
  intro n S K ρ lam a w Q hx h hq;simp only[gr] at hx;refine wp_scope_straight (ih _ _ _ _ _ _ _ _ hx h ?_);intro e S' ρ' dS a' w' h' hk;have:=hq e S' ρ' dS a' w' h' hk;cases e<;>exact this
 |label l=>
  intro n S K ρ lam a w Q hx h hq;simp only[gr] at hx;exact wp_label (hq .normal _ _ _ _ _ h hx)
 |goto=>intro n S K ρ lam a w Q hx;exact hx.elim
 |refuse=>intro n S K ρ lam a w Q hx;exact hx.elim
def lQ (tmps:Array Value):ResultVar→Sem Value
 | .tmp t=>pure (tmps.getD t undef)
 | .cell a t=>do loadVar t (←asAddr (tmps.getD a undef))
theorem zn {e:Operand→Value} {t:TypeId} {x:Operand} {dst:Option Tmp} {type:TypeId} {jr:String} {after:Array Edge} {guard:Option (Nat×Bool)} {v:Value} (h:(execOp e ⟨dst,.load t x,type,jr,after,guard⟩).run E.P w=.ok (.value v) w):(Instr.loadAt t (e x)).run E.P w=.ok v w:=by
 simp only[execOp,Sem.run_bind] at h
 cases hr:(Instr.loadAt t (e x)).run E.P w with
 |ok y w'=>
  rw[hr] at h;simp only[Result.andThen_ok,Sem.run_pure,Result.ok.injEq,Next.value.injEq] at h;rw[h.1,h.2]
 |halt y w'=>rw[hr] at h;simp at h
theorem Bc (h:SR H0 ρ0 w0 ann N ρ lam S a w) {r:ResultVar} {K:V→Prop} (hk:mC E S r K):∃x v,(lQ a.tmps r).run E.P w=.ok v w∧VR ρ x v∧K x:=by
 unfold mC at hk;split at hk
 ·rename_i t;split at hk
  ·rename_i x hx;have ht:=h.tm t _ hx;generalize hq:a.tmps.getD t undef=q at ht
   cases ht with
   |v hv=>exact⟨x,q,by simp only[lQ,hq];rfl,hv,hk⟩
  ·exact hk.elim
 ·rename_i ad t;split at hk
  ·rename_i s off hs;split at hk
   ·rename_i el cs hlo;split at hk
    ·rename_i r v hv;obtain⟨hr,hk⟩:=aW hk;obtain⟨b,hb,hc,_⟩:=h.lo s _ hlo;obtain⟨b',hb',he⟩:=h.ev.lp (x:=.tmp ad) hs;rw[hb] at hb';cases hb';obtain⟨v',h1,h2⟩:=oH (E:=E) hc hv hr (fun _ _=>.inl rfl);have he':a.tmps.getD ad undef=.pointer (some ⟨b,off,none⟩):=he;exact⟨v,v',by simp only[lQ,he',asAddr,Sem.run_bind,Sem.run_pure,Result.andThen_ok,h1],h2,hk⟩
    ·exact hk.elim
   ·exact hk.elim
  ·split at hk
   ·rename_i d hd;obtain⟨hr,hk⟩:=fS.fg hk;obtain⟨v,h1,h2⟩:=w7 (o:=⟨none,.load t (.tmp ad),0, "", #[],none⟩) (w:=w) h.ev h.hr hd hr;have h3:=zn h1;split at hk
    ·rename_i y hy;rw[hy] at h2
     cases h2 with
     |v hv=>
      refine⟨y,v, ?_,hv,hk⟩;simp only[Instr.loadAt,Sem.run_bind] at h3;simp only[lQ,Sem.run_bind];change _=_ at h3
      have he:a.eval (.tmp ad)=a.tmps.getD ad undef:=rfl;rw[he] at h3;generalize a.tmps.getD ad undef=q at h3⊢
      cases q with
      |pointer p=>cases p with
       |some p=>exact h3
       |none=>simp [Instr.sureAddr] at h3
      |_=>simp [Instr.sureAddr] at h3
    ·exact hk.elim
   ·exact hk.elim
theorem qf (h:SR H0 ρ0 w0 ann N ρ lam S a w):∀{l:List ResultVar} {K:List V→Prop},nu E S l K→∃xs vs,(l.mapM (lQ a.tmps)).run E.P w=.ok vs w∧eU ρ xs vs∧K xs
 |[],K,hk=>⟨[],[],by simp,.nil ρ,hk⟩
 |r::l,K,hk=>by
  obtain⟨x,v,h1,h2,hk⟩:=Bc h hk;obtain⟨xs,vs,h3,h4,hk⟩:=qf h hk;exact⟨x::xs,v::vs,by simp only[mapM_cons,Sem.run_bind,h1,h3,Result.andThen_ok,Sem.run_pure],.cons h2 h4,hk⟩
theorem Ig (h:SR H0 ρ0 w0 ann N ρ lam S a w) {fn:Func} {K:V→ai→Prop} (hk:Lr E fn K S):∃x v,(results fn a.tmps).run E.P w=.ok v w∧VR ρ x v∧K x S.hp:=by
 obtain⟨xs,vs,h1,h2,hk⟩:=qf h hk
 have hrun:(results fn a.tmps).run E.P w=.ok (if h:vs.toArray.size=1 then vs.toArray[0] else .tuple vs.toArray) w:=by
  have h0:results fn a.tmps=(fn.results.mapM (lQ a.tmps)) >>= fun vs=>pure (if h:vs.size=1 then vs[0] else .tuple vs):=by
   unfold results;congr 1
  have h':(fn.results.mapM (lQ a.tmps)).run E.P w=.ok vs.toArray w:=by
   rw[←Array.toArray_toList (xs:=fn.results),mapM_toArray];simp only[Sem.run_map,h1,Result.andThen_ok]
  rw[h0,Sem.run_bind,h'];rfl
 cases xs with
 |nil=>rw[h2.gu] at hrun;exact⟨.tuple [],.tuple #[],by simpa using hrun,.gF (.nil ρ),hk⟩
 |cons x l=>
  obtain⟨v,m,rfl,h3,h4⟩:=h2.dB
  cases l with
  |nil=>
   rw[h4.gu] at hrun;exact⟨x,v,by simpa using hrun,h3,hk⟩
  |cons y l=>
   have hl:(v::m).toArray.size≠1:=by have:=h2.1;simp at this⊢;intro e;rw[e] at this;simp at this
   rw[dif_neg hl] at hrun;exact⟨.tuple (x::y::l),.tuple (v::m).toArray,hrun,.gF (by simpa using h2),hk⟩
theorem sZ:∀{l:List V} {j t:Nat} {x:T},Fh l j t=some x→∃v,x=.v v∧j≤t∧l[t-j]? =some v
 |[],j,t,x,h=>by cases h
 |v::l,j,t,x,h=>by
  simp only[Fh,aY] at h;by_cases he:t=j
  ·simp only[he,decide_true,cond_true,some.injEq] at h;exact⟨v,h.symm,by omega,by simp [he]⟩
  ·simp only[he,decide_false,cond_false] at h;obtain⟨u,h1,h2,h3⟩:=sZ h;refine⟨u,h1,by omega, ?_⟩;rw[show t-j=t-(j+1)+1 by omega];simpa using h3
theorem DF (hR:nE E R) (hm:E.P.follows .mixedOrders=true) {f:FuncId} {args:List V} {H:ai} {K:V→ai→Prop} (h:(F E R).call f args H K):iG E f args H K∧∃fn,E.P.funcs[f]? =some fn∧fn.body.isSome=true:=by
 simp only[F] at h;split at h
 ·rename_i fn hf;have hf:=E.fn_ok f fn hf;split at h
  ·rename_i c hb;obtain⟨hn,hx⟩:=aW h;refine⟨?_,fn,hf,by rw[hb];rfl⟩;intro ρ w aS hr has
   have hlen:aS.size≤fn.ntmps:=by
    have h1:=has.1;have h2:=Nat.le_of_ble_eq_true hn;simp at h1;omega
   have hsr:SR H ρ w (E.ann f) fn.ntmps ρ (fun _=>none) ⟨Fh args 0,fun _=>none,H⟩ {tmps:=aS++Array.replicate (fn.ntmps-aS.size) undef,defers:=[]} w:=by
    refine⟨rfl,by simp;omega, ?_, ?_,(fun s L hL=>by cases hL),(fun s s' L L' b hL=>by cases hL),hr,.refl H ρ w⟩
    ·intro t x hx;obtain⟨v,rfl,_,h2⟩:=sZ hx;rw[Nat.sub_zero] at h2
     have hlt:t<args.length:=by
      rcases Nat.lt_or_ge t args.length with h|h
      ·exact h
      ·rw[List.getElem?_eq_none h] at h2;cases h2
     have hlt':t<aS.size:=by have:=has.1;simp at this;omega
     refine .v (has.2 t v _ h2 ?_);rw[Array.getD_eq_getD_getElem?,Array.getElem?_append_left hlt',Array.getElem?_eq_getElem hlt'];simp [hlt']
    ·intro t s off hx;obtain⟨v,h1,_⟩:=sZ hx;cases h1
   refine calls_of_wp hf hb (zm (H0:=H) (ρ0:=ρ) (w0:=w) hR hm hf rfl rfl c 0 _ _ _ _ _ _ _ hx hsr ?_);intro e S' ρ' dS a' w' h' hk
   have key:Lr E fn K S'→a'.defers=[]∧∃v,(results fn a'.tmps).run E.P w'=.ok v w'∧yR H ρ w K (.returned v) w':=by
    intro hk;obtain⟨x,v,h1,h2,h3⟩:=Ig h' hk;exact⟨h'.defers,v,h1,x,v,S'.hp,ρ',rfl,h3,h2,h'.hr,h'.cd⟩
   cases e with
   |normal=>exact key hk
   |exit id=>exact hk.elim
   |ret=>exact key hk
  ·exact h.elim
 ·exact h.elim
theorem DG (hR:nE E R) (hm:E.P.follows .mixedOrders=true) {c:Code} {f:FuncId} {n:Nat} {S:St} {Kr:St→Prop} {Ke:Nat→St→Prop} (h:(F E R).loop c f n S Kr Ke):nD E c f S Kr Ke:=by
 simp only[F] at h;split at h
 ·rename_i fn kp hf hkp;have hf:=E.fn_ok f fn hf;intro fn' H0 ρ0 w0 ρ lam a w Q hf' hsr hr he;rw[hf] at hf';cases hf';refine HV (zm (H0:=H0) (ρ0:=ρ0) (w0:=w0) hR hm hf rfl rfl c _ _ _ _ _ _ _ _ h hsr ?_);intro e S' ρ' dS a' w' h' hk
  cases e with
  |normal=>
   obtain⟨S0,h0,hk⟩:=kb h' hk;exact hR.loop _ _ _ _ _ _ hk fn H0 ρ0 w0 ρ' dS a' w' Q hf h0 hr he
  |exit id=>
   obtain⟨S0,h0,hk⟩:=kb h' hk;exact he id _ _ _ _ _ h0 hk
  |ret=>
   obtain⟨S0,h0,hk⟩:=kb h' hk;exact hr _ _ _ _ _ h0 hk
 ·exact h.elim
theorem BK (hX:j9 E) (hm:E.P.follows .mixedOrders=true):nE E (qQ E):=by
 have mono_call:∀{f:FuncId} {args:List V} {H:ai} {K K':V→ai→Prop},(∀v H',K v H'→K' v H')→iG E f args H K→iG E f args H K':=by
  intro f args H K K' hk h ρ w aS hr has;refine(h ρ w aS hr has).mono ?_;rintro e w' ⟨v,v',H',ρ',h1,h2,h3⟩;exact⟨v,v',H',ρ',h1,hk _ _ h2,h3⟩
 have mono_loop:∀{c:Code} {f:FuncId} {S:St} {Kr QI:St→Prop} {Ke QJ:Nat→St→Prop},(∀S,Kr S→QI S)→(∀i S,Ke i S→QJ i S)→nD E c f S Kr Ke→nD E c f S QI QJ:=by
  intro c f S Kr QI Ke QJ h1 h2 h fn H0 ρ0 w0 ρ lam a w Q hf hsr hr he;exact h fn H0 ρ0 w0 ρ lam a w Q hf hsr (fun S' ρ' dS a' w' h' hk=>hr S' ρ' dS a' w' h' (h1 _ hk)) (fun id S' ρ' dS a' w' h' hk=>he id S' ρ' dS a' w' h' (h2 _ _ hk))
 let G:mA:=
  {call:=fun f args H K=>(qQ E).call f args H K∧iG E f args H K∧∃fn,E.P.funcs[f]? =some fn∧fn.body.isSome=true
   loop:=fun c f n S Kr Ke=>(qQ E).loop c f n S Kr Ke∧nD E c f S Kr Ke}
 have hGR:G.le (qQ E):=⟨fun f args H K K' hk h=>nv.call _ _ _ _ _ hk h.1,fun c f n S Kr QI Ke QJ h1 h2 h=>nv.loop _ _ _ _ _ _ _ _ h1 h2 h.1⟩
 have hGm:G.le G:=⟨fun f args H K K' hk h=>⟨nv.call _ _ _ _ _ hk h.1,mono_call hk h.2.1,h.2.2⟩,
  fun c f n S Kr QI Ke QJ h1 h2 h=>⟨nv.loop _ _ _ _ _ _ _ _ h1 h2 h.1,mono_loop h1 h2 h.2⟩⟩
 have hGs:nE E G:=⟨fun f args H K h=>h.2.1,fun f args H K h=>h.2.2,fun c f n S Kr Ke h=>h.2,hGm,
  ⟨fun f args H K h=>sM.call _ _ _ _ h.1,fun c f n S Kr Ke h=>sM.loop _ _ _ _ _ _ h.1⟩,hX⟩
 have hFG:(F E G).le G:=
  ⟨fun f args H K K' hk h=>hGm.call _ _ _ _ _ hk ⟨pO.call _ _ _ _ _ (fun _ _=>id) ((vJ hGR).call _ _ _ _ _ (fun _ _=>id) h),DF hGs hm h⟩,
   fun c f n S Kr QI Ke QJ h1 h2 h=>hGm.loop _ _ _ _ _ _ _ _ h1 h2 ⟨pO.loop _ _ _ _ _ _ _ _ (fun _=>id) (fun _ _=>id) ((vJ hGR).loop _ _ _ _ _ _ _ _ (fun _=>id) (fun _ _=>id) h),DG hGs hm h⟩⟩
 have hle:=yy hGm hFG
 exact⟨fun f args H K h=>(hle.call _ _ _ _ _ (fun _ _=>id) h).2.1,fun f args H K h=>(hle.call _ _ _ _ _ (fun _ _=>id) h).2.2,
  fun c f n S Kr Ke h=>(hle.loop _ _ _ _ _ _ _ _ (fun _=>id) (fun _ _=>id) h).2,nv,sM,hX⟩
#print axioms BK
end
def kh:Code→Nat→Nat→Option Code
 | .seq a b,n,m=>match kh a n m with|some c=>some c|none=>kh b (n+eu a) m
 | .cond _ a b,n,m=>match kh a (n+1) m with|some c=>some c|none=>kh b (n+1+eu a) m
 | .block _ b,n,m=>kh b n m
 | .scope b,n,m=>kh b n m
 | .loop b,n,m=>bif Nat.beq n m then some b else kh b (n+1) m
 |_,_,_=>none
def N0 (E:kG) (f n:Nat):Code:=
 match E.fn f with
 |some fn=>match fn.body with|some c=>(kh c 0 n).getD .skip|none=>.skip
 |none=>.skip
theorem aL {i:Nat} (h:(i:Int)+1≤9223372036854775807):IntKind.i64.wrap ((i:Int)+1)=((i+1:Nat):Int):=by
 rw[IntWalk.i64_in _ (by omega)];omega
theorem bf {x:Int} (h: -9223372036854775808≤x) (h':x≤9223372036854775807):IntKind.i64.wrap x=x:=IntWalk.i64_in _ ⟨h,h'⟩
@[simp] theorem ao (X Y:Prop):br true X Y=X:=rfl
@[simp] theorem ah (X Y:Prop):br false X Y=Y:=rfl
@[simp] theorem az (X:Prop):af true X=X:=rfl
@[simp] theorem XL (X:Prop):af false X=False:=rfl
theorem zo (c:Bool) (X Y:Prop):br c X Y=if c=true then X else Y:=by cases c<;>rfl
@[simp] theorem dY {α:Type} (A:(α→Prop)→Prop) (Q:α→Prop):cg A Q=A Q:=rfl
@[simp] theorem ri (a b:Nat):Nat.beq a b=decide (a=b):=aY
@[simp] theorem mI (a b:Nat):Nat.ble a b=decide (a≤b):=by
  cases h:Nat.ble a b with
  |true=>simpa using Nat.le_of_ble_eq_true h
  |false=>exact(decide_eq_false fun hle=>by rw[Nat.ble_eq_true_of_le hle] at h;cases h).symm
@[simp] theorem nG {α:Type} (n:Nat):ab ([]:List (Nat×α)) n=none:=rfl
@[simp] theorem jF {α:Type} (k n:Nat) (x:α) (l:List (Nat×α)):ab ((k,x)::l) n=if n=k then some x else ab l n:=by
  simp only[ab,ri];by_cases h:n=k<;>simp [h]
@[simp] theorem abW (x:V):T.val (some (.v x))=x:=rfl
abbrev PS:=St→Prop
abbrev NS:=Nat→St→Prop
abbrev KP:=V→ai→Prop
abbrev w6 (x:Int):Int:=IntKind.wrap .i64 x
abbrev vi (x:Int):V:=.int .i64 x
abbrev ki:cA:=.int .i64
abbrev ti (x:Int):T:=.v (.int .i64 x)
abbrev tp (p:Oq):T:=.v (.ay p)
abbrev tb (b:Bool):T:=.v (.bool b)
abbrev ts (p:Oq) (n c:Nat):T:=.v (.slice p n c)
def tv (S:St) (n:Nat):V:=T.val (S.1 n)
theorem TW:∀x:Int,w6 x=IntKind.wrap .i64 x:=fun _=>rfl
theorem TV:(∀(S:St) (n:Nat),tv S n=T.val (S.1 n))∧∀x:V,T.val (some (T.v x))=x:=⟨fun _ _=>rfl,fun _=>rfl⟩
@[simp] theorem DH (k:cA) (x:V):aF (.k k) (some (.v x))=x.ax k:=rfl
@[simp] theorem uK (ks:List cA) (x:V):aF (.agg ks) (some (.v x))=(x.isAgg&&aM ks x.ag):=rfl
@[simp] theorem xT (s:Nat):aF (.lp s) (some (.lp s 0))=true:=by simp [aF]
@[simp] theorem zp (e:Nat) (ks:List cA) (cs:List V):eC e ks (some (.cells e cs))=aM ks cs:=by simp [eC]
@[simp] theorem iB (e:Nat) (cs:List V):av (some (.cells e cs))=cs:=rfl
@[simp] theorem eW (x:V) (l:List V):ae (x::l) 0=x:=rfl
@[simp] theorem iZ (x y:V) (l:List V):ae (x::y::l) 1=y:=rfl
@[simp] theorem uL (x y z:V) (l:List V):ae (x::y::z::l) 2=z:=rfl
@[simp] theorem gK (l:List V):V.aw (.tuple l)=l:=rfl
@[simp] theorem dH (l:List V):V.ag (.agg l)=l:=rfl
@[simp] theorem fJ (l:List V):V.isAgg (.agg l)=true:=rfl
@[simp] theorem bh (k:IntKind) (x:Int):V.aa (.int k x)=x:=rfl
@[simp] theorem ct (b:Bool):V.aq (.bool b)=b:=rfl
@[simp] theorem gL (b:ByteArray):V.jx (.cL b)=b:=rfl
@[simp] theorem jG (b:Oq):V.ak (.ay b)=b:=rfl
@[simp] theorem bA (p:Oq) (n c:Nat):V.aj (.slice p n c)=p:=rfl
@[simp] theorem aQ (p:Oq) (n c:Nat):V.an (.slice p n c)=n:=rfl
@[simp] theorem cE (p:Oq) (n c:Nat):V.aC (.slice p n c)=c:=rfl
@[simp] theorem dh (k:IntKind) (x:Int):V.ax (.int k) (.int k x)=true:=by simp [V.ax]
@[simp] theorem fK (b:Bool):V.ax .bool (.bool b)=true:=rfl
@[simp] theorem mJ (b:ByteArray):V.ax .cL (.cL b)=true:=rfl
@[simp] theorem rj (b:Oq):V.ax .ay (.ay b)=true:=rfl
@[simp] theorem bL (p:Oq) (n c:Nat):V.ax .slice (.slice p n c)=true:=rfl
@[simp] theorem fC (n:Nat) (l:List V):V.aO n (.tuple l)=decide (l.length=n):=by
  by_cases h:l.length=n<;>simp [V.aO,h]
@[simp] theorem XM (c:Bool) (a b:V):bU c a b=if c=true then a else b:=by rw[nn]
def BL (args:List V) (H:ai) (K:V→ai→Prop):Prop:=
 match args with
 |[.slice (some (i,o)) la _,.slice (some (j,_)) lb _]=>
  i≠j∧0<la∧0<lb∧(∃e cs,H.get i=some (.cells e cs false)∧o<cs.length)∧(∃e cs ro,H.get j=some (.cells e cs ro))∧K (.bool true) H∧K (.bool false) H
 |_=>False
theorem LI {args:List V} {H:ai} {K:V→ai→Prop} (h:BL args H K):∃i o la ca j o' lb cb,args=[.slice (some (i,o)) la ca,.slice (some (j,o')) lb cb]∧i≠j∧0<la∧0<lb∧(∃e cs,H.get i=some (.cells e cs false)∧o<cs.length)∧(∃e cs ro,H.get j=some (.cells e cs ro))∧K (.bool true) H∧K (.bool false) H:=by
 unfold BL at h;split at h
 ·exact⟨_,_,_,_,_,_,_,_,rfl,h⟩
 ·exact h.elim
def FO:Ext where
 run:=BL
 mono args H K K' h hk:=by
  unfold BL at hk⊢;split at hk
  ·obtain⟨a,b,c,d,e,f,g⟩:=hk;exact⟨a,b,c,d,e,h _ _ f,h _ _ g⟩
  ·exact hk
 vF args H K hk:=by
  unfold BL at hk;split at hk
  ·obtain⟨a,b,c,d,e,f,g⟩:=hk;exact⟨_,_,f⟩
  ·exact hk.elim
theorem HR.heap {ρ:dK} {H:ai} {w w':World} (h:HR ρ H w) (he:w'.heap=w.heap):HR ρ H w':=
 ⟨fun id o hg=>by rw[he];exact h.wW id o hg,h.inj,fun id b hb=>by rw[he];exact h.lt id b hb,h.gl⟩
theorem DI {P:Program} {w:World} {tS tR e:TypeId} (ht:P.underlying tS=some (.slice e)) {size:Nat} (hz:∀w,(Go.sizeOf e).run P w=.ok size w) {a b:Addr} {la ca lb cb:Nat} (hne:a.block≠b.block) {tA tB:TypeId} {kA kB:Nat} (hsa:w.shape? a.block=some (tA,kA)) (hsb:w.shape? b.block=some (tB,kB)) (Q2:w.frozen? a=false):∃r w',(Extern.SlicesOverlaps.overlaps #[tS,tS] #[tR] #[.slice (some a) la ca,.slice (some b) lb cb]).run P w=.ok (.bool r) w'∧(w'=w∨w'=w.drew):=by
 have hnb:(a.block != b.block)=true:=by simpa using hne
 have abo:(a.block == b.block)=false:=by simpa using hne
 change∃r w',Sem.run P (α:=Value) (do
  let some t:=(#[tS,tS]:Array TypeId)[0]? |stuck "slices.overlaps: no parameter types"
  let .slice elem←underlying t|stuck "slices.overlaps: slice type expected"
  let size←sizeOf elem
  match (some a:Option Addr),(some b:Option Addr) with
  |some a,some b=>
   if la=0∨lb=0∨size=0 then pure (Value.bool false)
   else if a.block != b.block&&(←frozen a)&&(←frozen b) then unsupported .addressObserved
   else do
    if a.block != b.block then do
     noView a;noView b
     if←mayBeOne a b then return Value.bool ((←choose (.extern "sameAddr.stringBytes" 2)) == 1)
    pure (Value.bool (a.block == b.block&&a.off<b.off+lb*size&&b.off<a.off+la*size))
  |_,_=>pure (Value.bool false)) w=.ok (.bool r) w'∧(w'=w∨w'=w.drew)
 by_cases h0:la=0∨lb=0∨size=0
 ·exact⟨false,w,by simp [run_underlying ht,hz,h0],.inl rfl⟩
 ·have hm:∃m,(mayBeOne a b).run P w=.ok m w:=by
   cases Tm:w.frozen? b<;>cases hf2:w.frozen? ⟨a.block,kA,none⟩<;>cases hf3:w.frozen? ⟨b.block,kB,none⟩<;>cases kA<;>cases kB<;>
    exact⟨_,by simp [mayBeOne,stringish,shape,frozen,Sem.run,hsa,hsb,Q2,Tm,hf2,hf3];rfl⟩
  obtain⟨m,hm⟩:=hm
  cases m with
  |false=>exact⟨_,w,by simp [run_underlying ht,hz,h0,hnb,abo,frozen,noView,viewAt,shape,Sem.run,hsa,hsb,Q2,hm];rfl,.inl rfl⟩
  |true=>exact⟨_,w.drew,by simp [run_underlying ht,hz,h0,hnb,abo,frozen,noView,viewAt,shape,Sem.run,hsa,hsb,Q2,hm,Question.forced];rfl,.inr rfl⟩
def ab0 (P:Program) (g:Nat):Prop:=∃fn tS tR e,P.funcs[g]? =some fn∧(fn.name == "runtime.NumGoroutine")=false∧fn.body.isNone=true∧Extern.findNext fn=none∧
 Extern.find fn=some (Extern.SlicesOverlaps.overlaps #[tS,tS] #[tR])∧P.underlying tS=some (.slice e)∧(P.info? e).isSome=true
inductive XK where
 |overlaps
def Yf (P:Program):XK→Ext
 | .overlaps=>FO
def XOk (P:Program) (g:Nat):XK→Prop
 | .overlaps=>ab0 P g
def Ih (P:Program) (l:List (Nat×XK)) (g:Nat):Option Ext:=(ab l g).map (Yf P)
theorem LJ {E:kG} {l:List (Nat×XK)} (he:E.ext=Ih E.P l) (hl:∀g k,ab l g=some k→XOk E.P g k):j9 E:=by
 intro g x hx args H K hk ρ w aS hr ha;rw[he,Ih] at hx
 cases hm:ab l g with
 |none=>rw[hm] at hx;cases hx
 |some k=>
  rw[hm] at hx;simp only[map_some,some.injEq] at hx;subst hx;have hok:=hl g k hm
  cases k with
  |overlaps=>
  obtain⟨fn,tS,tR,e,h1,h2,h3,h4,h5,h6,h7⟩:=hok;obtain⟨dC,h7⟩:=isSome_iff_exists.1 h7;left;obtain⟨i,o,la,ca,j,o',lb,cb,rfl,hij,hla,hlb,⟨e1,cs1,Tn,ho⟩,⟨e2,cs2,ro,Jj⟩,Hl,hkf⟩:=LI hk;obtain⟨x1,r1,vy,hx1,og⟩:=ha.dB;obtain⟨x2,r2,xN,vD,tK⟩:=og.dB;have QN:=tK.gu;subst QN;subst xN
  obtain rfl:aS= #[x1,x2]:=by
   apply Array.ext';rw[vy]
  obtain⟨b1,ym,abp,fz1,Hh,pF,_,hfz⟩:=hr.wW i _ Tn;obtain⟨b2,nh,adX,fz2,Hi,_⟩:=hr.wW j _ Jj
  have hne:b1≠b2:=by
   intro hb;subst hb;exact hij (hr.inj i j _ _ b1 Tn Jj rfl ym nh)
  rcases hx1.fj with⟨b,hb,rfl⟩|⟨h0,_⟩;rotate_left
  ·omega
  rcases vD.fj with⟨b',hb',rfl⟩|⟨h0,_⟩;rotate_left
  ·omega
  rw[ym] at hb;rw[nh] at hb';cases hb;cases hb';have hlen:abp.size=cs1.length:=by have:=pF.1;simp at this;omega
  have Q2:w.frozen? ⟨b1,o,none⟩=false:=by
   simp only[World.frozen?,Hh];rcases hfz rfl with h|h
   ·rw[h];by_cases hh:fz1.2≤o
    ·have:¬o<fz1.2:=by omega
     simp [this]
    ·simp [hh]
   ·have:¬fz1.1≤o:=by omega
    simp [this]
  obtain⟨r,w',hrun,hw⟩:=DI (P:=E.P) (w:=w) (tR:=tR) h6 (size:=dC.size) (fun w=>by simp [sizeOf,typeInfo,h7]) (a:=⟨b1,o,none⟩) (b:=⟨b2,o',none⟩) (la:=la) (ca:=ca) (lb:=lb) (cb:=cb) hne
   (tA:=e1) (kA:=abp.size) (tB:=e2) (kB:=adX.size) (by simp [World.shape?,Hh]) (by simp [World.shape?,Hi]) Q2
  have hK:K (.bool r) H:=by cases r<;>assumption
  have abq:w'.heap=w.heap:=by rcases hw with rfl|rfl<;>rfl
  refine⟨.bool r,.bool r,w',H,ρ, ?_,hK,.bool _,hr.heap abq, ?_⟩
  ·rw[run_callFunc_extern h1 h2 h3 h4 h5,hrun];rfl
  ·rcases hw with rfl|rfl
   ·exact .refl ..
   ·exact⟨.refl ρ,fun _ _ _=>rfl,fun _ h=>.inl h,fun _ h=>.inl h,Nat.le_refl _,rfl,rfl,rfl⟩
end Go.Am
end
section
namespace Go.Proofs.YtlgdkndamddpkaaGreat
open Go.Am
def fz:TI:=⟨.func,1,8,some .nilFunc⟩
def tab:List TI:=[⟨.tuple [],1,0,none⟩,fz,⟨.int .i64,1,8,some (.int .i64 0)⟩,⟨.int .i64,1,8,some (.int .i64 0)⟩,⟨.bool,1,1,some (.bool false)⟩,⟨.int .u8,1,1,some (.int .u8 0)⟩,⟨.int .u8,1,1,some (.int .u8 0)⟩,⟨.struct [(0,2),(1,3),(2,4),(3,6)],4,24,some (.agg [.int .i64 0,.int .i64 0,.bool false,.int .u8 0])⟩,⟨.struct [(0,2),(1,3),(2,4),(3,6)],4,24,some (.agg [.int .i64 0,.int .i64 0,.bool false,.int .u8 0])⟩,⟨.cL,1,16,some (.cL ⟨#[]⟩)⟩,⟨.cL,1,16,some (.cL ⟨#[]⟩)⟩,⟨.cL,1,16,some (.cL ⟨#[]⟩)⟩,⟨.int .u64,1,8,some (.int .u64 0)⟩,⟨.struct [(0,9),(1,12)],2,24,some (.agg [.cL ⟨#[]⟩,.int .u64 0])⟩,⟨.struct [(0,9),(1,12)],2,24,some (.agg [.cL ⟨#[]⟩,.int .u64 0])⟩,⟨.ay 227,1,8,some (.ay none)⟩,⟨.ay 230,1,8,some (.ay none)⟩,⟨.ay 238,1,8,some (.ay none)⟩,⟨.struct [(0,17)],1,8,some (.agg [.ay none])⟩,⟨.struct [(0,17)],1,8,some (.agg [.ay none])⟩,⟨.iface,1,16,some (.nilIface)⟩,⟨.int .i32,1,4,some (.int .i32 0)⟩,⟨.slice 38,1,24,some (.slice none 0 0)⟩,fz,⟨.slice 3,1,24,some (.slice none 0 0)⟩,⟨.struct [(0,3),(1,3),(2,3),(3,24)],4,48,some (.agg [.int .i64 0,.int .i64 0,.int .i64 0,.slice none 0 0])⟩,⟨.struct [(0,3),(1,3),(2,3),(3,24)],4,48,some (.agg [.int .i64 0,.int .i64 0,.int .i64 0,.slice none 0 0])⟩,fz,⟨.ay 81,1,8,some (.ay none)⟩,⟨.int .i64,1,8,some (.int .i64 0)⟩,⟨.tuple [28,29],1,0,none⟩,fz,⟨.ay 93,1,8,some (.ay none)⟩,⟨.tuple [32,29],1,0,none⟩,fz,⟨.int .u64,1,8,some (.int .u64 0)⟩,⟨.slice 5,1,24,some (.slice none 0 0)⟩,⟨.struct [(0,5),(1,5),(2,5),(3,5),(4,5),(5,5),(6,4),(7,4),(8,36),(9,5)],10,40,some (.agg [.int .u8 0,.int .u8 0,.int .u8 0,.int .u8 0,.int .u8 0,.int .u8 0,.bool false,.bool false,.slice none 0 0,.int .u8 0])⟩,⟨.struct [(0,5),(1,5),(2,5),(3,5),(4,5),(5,5),(6,4),(7,4),(8,36),(9,5)],10,40,some (.agg [.int .u8 0,.int .u8 0,.int .u8 0,.int .u8 0,.int .u8 0,.int .u8 0,.bool false,.bool false,.slice none 0 0,.int .u8 0])⟩,⟨.int .u32,1,4,some (.int .u32 0)⟩,⟨.struct [(0,5),(1,3),(2,36),(3,4),(4,39),(5,39),(6,5),(7,4)],8,56,some (.agg [.int .u8 0,.int .i64 0,.slice none 0 0,.bool false,.int .u32 0,.int .u32 0,.int .u8 0,.bool false])⟩,⟨.struct [(0,5),(1,3),(2,36),(3,4),(4,39),(5,39),(6,5),(7,4)],8,56,some (.agg [.int .u8 0,.int .i64 0,.slice none 0 0,.bool false,.int .u32 0,.int .u32 0,.int .u8 0,.bool false])⟩,⟨.tuple [3,41],1,0,none⟩,fz,⟨.arr 8 39,8,32,some (.agg [.int .u32 0,.int .u32 0,.int .u32 0,.int .u32 0,.int .u32 0,.int .u32 0,.int .u32 0,.int .u32 0])⟩,⟨.struct [(0,44),(8,5),(9,3),(10,39),(11,4)],12,56,some (.agg [.int .u32 0,.int .u32 0,.int .u32 0,.int .u32 0,.int .u32 0,.int .u32 0,.int .u32 0,.int .u32 0,.int .u8 0,.int .i64 0,.int .u32 0,.bool false])⟩,⟨.struct [(0,44),(8,5),(9,3),(10,39),(11,4)],12,56,some (.agg [.int .u32 0,.int .u32 0,.int .u32 0,.int .u32 0,.int .u32 0,.int .u32 0,.int .u32 0,.int .u32 0,.int .u8 0,.int .i64 0,.int .u32 0,.bool false])⟩,fz,⟨.struct [(0,29),(1,36),(2,46)],14,88,some (.agg [.int .i64 0,.slice none 0 0,.int .u32 0,.int .u32 0,.int .u32 0,.int .u32 0,.int .u32 0,.int .u32 0,.int .u32 0,.int .u32 0,.int .u8 0,.int .i64 0,.int .u32 0,.bool false])⟩,⟨.struct [(0,29),(1,36),(2,46)],14,88,some (.agg [.int .i64 0,.slice none 0 0,.int .u32 0,.int .u32 0,.int .u32 0,.int .u32 0,.int .u32 0,.int .u32 0,.int .u32 0,.int .u32 0,.int .u8 0,.int .i64 0,.int .u32 0,.bool false])⟩,⟨.tuple [49,29],1,0,none⟩,fz,fz,fz,fz,⟨.ay 60,1,8,some (.ay none)⟩,fz,⟨.slice 9,1,24,some (.slice none 0 0)⟩,⟨.slice 109,1,24,some (.slice none 0 0)⟩,⟨.struct [(0,57),(1,58),(2,46)],14,104,some (.agg [.slice none 0 0,.slice none 0 0,.int .u32 0,.int .u32 0,.int .u32 0,.int .u32 0,.int .u32 0,.int .u32 0,.int .u32 0,.int .u32 0,.int .u8 0,.int .i64 0,.int .u32 0,.bool false])⟩,⟨.struct [(0,57),(1,58),(2,46)],14,104,some (.agg [.slice none 0 0,.slice none 0 0,.int .u32 0,.int .u32 0,.int .u32 0,.int .u32 0,.int .u32 0,.int .u32 0,.int .u32 0,.int .u32 0,.int .u8 0,.int .i64 0,.int .u32 0,.bool false])⟩,⟨.tuple [3,9,46],1,0,none⟩,fz,fz,fz,fz,⟨.tuple [36,29],1,0,none⟩,fz,fz,fz,fz,fz,fz,fz,fz,fz,fz,fz,⟨.slice 84,1,24,some (.slice none 0 0)⟩,fz,⟨.struct [(0,78),(1,3),(2,35),(3,3),(4,3),(5,4),(6,3),(7,79)],8,80,some (.agg [.slice none 0 0,.int .i64 0,.int .u64 0,.int .i64 0,.int .i64 0,.bool false,.int .i64 0,.nilFunc])⟩,⟨.struct [(0,78),(1,3),(2,35),(3,3),(4,3),(5,4),(6,3),(7,79)],8,80,some (.agg [.slice none 0 0,.int .i64 0,.int .u64 0,.int .i64 0,.int .i64 0,.bool false,.int .i64 0,.nilFunc])⟩,⟨.slice 36,1,24,some (.slice none 0 0)⟩,⟨.struct [(0,82),(1,3),(2,4),(3,4),(4,4),(5,3)],6,48,some (.agg [.slice none 0 0,.int .i64 0,.bool false,.bool false,.bool false,.int .i64 0])⟩,⟨.struct [(0,82),(1,3),(2,4),(3,4),(4,4),(5,3)],6,48,some (.agg [.slice none 0 0,.int .i64 0,.bool false,.bool false,.bool false,.int .i64 0])⟩,⟨.ay 120,1,8,some (.ay none)⟩,⟨.tuple [85,29],1,0,none⟩,fz,⟨.ay 91,1,8,some (.ay none)⟩,⟨.slice 138,1,24,some (.slice none 0 0)⟩,⟨.struct [(0,89)],1,24,some (.agg [.slice none 0 0])⟩,⟨.struct [(0,89)],1,24,some (.agg [.slice none 0 0])⟩,⟨.struct [(0,28),(1,26),(5,85),(6,88),(7,46),(19,4)],20,136,some (.agg [.ay none,.int .i64 0,.int .i64 0,.int .i64 0,.slice none 0 0,.ay none,.ay none,.int .u32 0,.int .u32 0,.int .u32 0,.int .u32 0,.int .u32 0,.int .u32 0,.int .u32 0,.int .u32 0,.int .u8 0,.int .i64 0,.int .u32 0,.bool false,.bool false])⟩,⟨.struct [(0,28),(1,26),(5,85),(6,88),(7,46),(19,4)],20,136,some (.agg [.ay none,.int .i64 0,.int .i64 0,.int .i64 0,.slice none 0 0,.ay none,.ay none,.int .u32 0,.int .u32 0,.int .u32 0,.int .u32 0,.int .u32 0,.int .u32 0,.int .u32 0,.int .u32 0,.int .u8 0,.int .i64 0,.int .u32 0,.bool false,.bool false])⟩,fz,⟨.tuple [46,3,29],1,0,none⟩,fz,fz,fz,fz,fz,fz,⟨.tuple [46,3],1,0,none⟩,fz,⟨.ay 84,1,8,some (.ay none)⟩,⟨.tuple [104,29],1,0,none⟩,fz,fz,⟨.struct [(0,3),(1,9)],2,24,some (.agg [.int .i64 0,.cL ⟨#[]⟩])⟩,⟨.struct [(0,3),(1,9)],2,24,some (.agg [.int .i64 0,.cL ⟨#[]⟩])⟩,⟨.ay 175,1,8,some (.ay none)⟩,⟨.map 3 130,1,8,some (.map none)⟩,⟨.struct [(0,110),(1,111),(2,35),(3,24)],4,48,some (.agg [.ay none,.map none,.int .u64 0,.slice none 0 0])⟩,⟨.struct [(0,110),(1,111),(2,35),(3,24)],4,48,some (.agg [.ay none,.map none,.int .u64 0,.slice none 0 0])⟩,⟨.tuple [113,29],1,0,none⟩,fz,⟨.ay 166,1,8,some (.ay none)⟩,⟨.tuple [116,29],1,0,none⟩,fz,⟨.struct [(0,28),(1,26),(5,35),(6,110),(7,116),(8,35)],9,88,some (.agg [.ay none,.int .i64 0,.int .i64 0,.int .i64 0,.slice none 0 0,.int .u64 0,.ay none,.ay none,.int .u64 0])⟩,⟨.struct [(0,28),(1,26),(5,35),(6,110),(7,116),(8,35)],9,88,some (.agg [.ay none,.int .i64 0,.int .i64 0,.int .i64 0,.slice none 0 0,.int .u64 0,.ay none,.ay none,.int .u64 0])⟩,fz,fz,fz,fz,⟨.struct [(0,5),(1,35),(2,35),(3,3),(4,3),(5,36)],6,64,some (.agg [.int .u8 0,.int .u64 0,.int .u64 0,.int .i64 0,.int .i64 0,.slice none 0 0])⟩,⟨.struct [(0,5),(1,35),(2,35),(3,3),(4,3),(5,36)],6,64,some (.agg [.int .u8 0,.int .u64 0,.int .u64 0,.int .i64 0,.int .i64 0,.slice none 0 0])⟩,⟨.struct [(0,3),(1,3)],2,16,some (.agg [.int .i64 0,.int .i64 0])⟩,⟨.struct [(0,3),(1,3)],2,16,some (.agg [.int .i64 0,.int .i64 0])⟩,⟨.struct [(0,128),(2,126)],8,80,some (.agg [.int .i64 0,.int .i64 0,.int .u8 0,.int .u64 0,.int .u64 0,.int .i64 0,.int .i64 0,.slice none 0 0])⟩,⟨.struct [(0,128),(2,126)],8,80,some (.agg [.int .i64 0,.int .i64 0,.int .u8 0,.int .u64 0,.int .u64 0,.int .i64 0,.int .i64 0,.slice none 0 0])⟩,⟨.tuple [126,29],1,0,none⟩,fz,⟨.ay 182,1,8,some (.ay none)⟩,fz,fz,fz,⟨.struct [(0,3),(1,36),(2,4)],3,40,some (.agg [.int .i64 0,.slice none 0 0,.bool false])⟩,⟨.struct [(0,3),(1,36),(2,4)],3,40,some (.agg [.int .i64 0,.slice none 0 0,.bool false])⟩,⟨.tuple [138,4],1,0,none⟩,fz,fz,⟨.tuple [46,29],1,0,none⟩,fz,fz,fz,fz,fz,fz,fz,fz,fz,fz,fz,fz,⟨.tuple [110,29],1,0,none⟩,fz,⟨.map 3 158,1,8,some (.map none)⟩,⟨.slice 130,1,24,some (.slice none 0 0)⟩,⟨.tuple [158,29],1,0,none⟩,fz,fz,⟨.tuple [130,4],1,0,none⟩,fz,⟨.map 3 5,1,8,some (.map none)⟩,⟨.struct [(0,24),(1,164)],2,32,some (.agg [.slice none 0 0,.map none])⟩,⟨.struct [(0,24),(1,164)],2,32,some (.agg [.slice none 0 0,.map none])⟩,fz,fz,⟨.tuple [5,4],1,0,none⟩,⟨.tuple [3,4],1,0,none⟩,fz,⟨.slice 128,1,24,some (.slice none 0 0)⟩,⟨.slice 4,1,24,some (.slice none 0 0)⟩,⟨.struct [(0,172),(1,173),(2,24)],3,72,some (.agg [.slice none 0 0,.slice none 0 0,.slice none 0 0])⟩,⟨.struct [(0,172),(1,173),(2,24)],3,72,some (.agg [.slice none 0 0,.slice none 0 0,.slice none 0 0])⟩,fz,⟨.arr 32 3,32,256,some (.agg [.int .i64 0,.int .i64 0,.int .i64 0,.int .i64 0,.int .i64 0,.int .i64 0,.int .i64 0,.int .i64 0,.int .i64 0,.int .i64 0,.int .i64 0,.int .i64 0,.int .i64 0,.int .i64 0,.int .i64 0,.int .i64 0,.int .i64 0,.int .i64 0,.int .i64 0,.int .i64 0,.int .i64 0,.int .i64 0,.int .i64 0,.int .i64 0,.int .i64 0,.int .i64 0,.int .i64 0,.int .i64 0,.int .i64 0,.int .i64 0,.int .i64 0,.int .i64 0])⟩,⟨.tuple [128,4],1,0,none⟩,fz,fz,⟨.struct [(0,36),(1,4)],2,32,some (.agg [.slice none 0 0,.bool false])⟩,⟨.struct [(0,36),(1,4)],2,32,some (.agg [.slice none 0 0,.bool false])⟩,fz,fz,fz,fz,fz,fz,fz,fz,fz,fz,⟨.tuple [4,4],1,0,none⟩,fz,fz,fz,fz,⟨.arr 6 5,6,6,some (.agg [.int .u8 0,.int .u8 0,.int .u8 0,.int .u8 0,.int .u8 0,.int .u8 0])⟩,fz,fz,fz,fz,fz,⟨.tuple [3,29],1,0,none⟩,fz,fz,fz,fz,fz,⟨.int .u64,1,8,some (.int .u64 0)⟩,fz,fz,fz,fz,fz,fz,fz,fz,⟨.tuple [210,210],1,0,none⟩,fz,⟨.tuple [39,39],1,0,none⟩,fz,⟨.tuple [35,35],1,0,none⟩,fz,fz,⟨.struct [(0,17),(1,17),(2,17),(3,9)],4,40,some (.agg [.ay none,.ay none,.ay none,.cL ⟨#[]⟩])⟩,⟨.struct [(0,17),(1,17),(2,17),(3,9)],4,40,some (.agg [.ay none,.ay none,.ay none,.cL ⟨#[]⟩])⟩,⟨.arr 0 16,0,0,some (.agg [])⟩,⟨.struct [(0,228)],0,0,some (.agg [])⟩,⟨.struct [(0,228)],0,0,some (.agg [])⟩,⟨.int .u8,1,1,some (.int .u8 0)⟩,⟨.int .u8,1,1,some (.int .u8 0)⟩,fz,⟨.ay 5,1,8,some (.ay none)⟩,⟨.int .i32,1,4,some (.int .i32 0)⟩,⟨.int .i32,1,4,some (.int .i32 0)⟩,⟨.struct [(0,12),(1,12),(2,39),(3,231),(4,5),(5,5),(6,232),(7,233),(8,234),(9,235),(10,236)],11,48,some (.agg [.int .u64 0,.int .u64 0,.int .u32 0,.int .u8 0,.int .u8 0,.int .u8 0,.int .u8 0,.nilFunc,.ay none,.int .i32 0,.int .i32 0])⟩,⟨.struct [(0,12),(1,12),(2,39),(3,231),(4,5),(5,5),(6,232),(7,233),(8,234),(9,235),(10,236)],11,48,some (.agg [.int .u64 0,.int .u64 0,.int .u32 0,.int .u8 0,.int .u8 0,.int .u8 0,.int .u8 0,.nilFunc,.ay none,.int .i32 0,.int .i32 0])⟩,⟨.my,1,8,some (.ay none)⟩]
theorem UL:(List.range 240).map (RD Tryz.prog)=tab.map some:=by kernel_rfl
def k7:List cA:=[.int .i64,.int .i64,.bool,.int .u8]
def c7 (a b:Int) (c:Bool) (d:Int):List V:=[.int .i64 a,.int .i64 b,.bool c,.int .u8 d]
@[simp] theorem f7 (a:Int) (b:Int) (c:Bool) (d:Int):Am.aM k7 (c7 a b c d)=true:=rfl
def zq:List cA:=[.int .i64,.int .i64,.int .i64,.slice]
def dI (a b c:Int) (d:Oq) (e f:Nat):List V:=[.int .i64 a,.int .i64 b,.int .i64 c,.slice d e f]
def rQ (l:List V):List V:=dI (ae l 0).aa (ae l 1).aa (ae l 2).aa (ae l 3).aj (ae l 3).an (ae l 3).aC
@[simp] theorem f25 (a:Int) (b:Int) (c:Int) (d:Oq) (e:Nat) (f:Nat):Am.aM zq (dI a b c d e f)=true:=rfl
@[simp] theorem xD (a b c d e f):rQ (dI a b c d e f)=dI a b c d e f:=rfl
@[simp] theorem Jw (a b c d e f):ae (dI a b c d e f) 0=.int .i64 a:=rfl
@[simp] theorem Jx (a b c d e f):ae (dI a b c d e f) 1=.int .i64 b:=rfl
@[simp] theorem Jy (a b c d e f):ae (dI a b c d e f) 3=.slice d e f:=rfl
def XN:List cA:=[.int .u8,.int .u8,.int .u8,.int .u8,.int .u8,.int .u8,.bool,.bool,.slice,.int .u8]
def XO (a b c d e f:Int) (g h:Bool) (i:Oq) (j l:Nat) (m:Int):List V:=[.int .u8 a,.int .u8 b,.int .u8 c,.int .u8 d,.int .u8 e,.int .u8 f,.bool g,.bool h,.slice i j l,.int .u8 m]
def o37 (l:List V):List V:=XO (ae l 0).aa (ae l 1).aa (ae l 2).aa (ae l 3).aa (ae l 4).aa (ae l 5).aa (ae l 6).aq (ae l 7).aq (ae l 8).aj (ae l 8).an (ae l 8).aC (ae l 9).aa
def XP:List cA:=[.int .u8,.int .i64,.slice,.bool,.int .u32,.int .u32,.int .u8,.bool]
def kE (a b:Int) (c:Oq) (d e:Nat) (f:Bool) (g h i:Int) (j:Bool):List V:=[.int .u8 a,.int .i64 b,.slice c d e,.bool f,.int .u32 g,.int .u32 h,.int .u8 i,.bool j]
def Yg (l:List V):List V:=kE (ae l 0).aa (ae l 1).aa (ae l 2).aj (ae l 2).an (ae l 2).aC (ae l 3).aq (ae l 4).aa (ae l 5).aa (ae l 6).aa (ae l 7).aq
@[simp] theorem f40 (a:Int) (b:Int) (c:Oq) (d:Nat) (e:Nat) (f:Bool) (g:Int) (h:Int) (i:Int) (j:Bool):Am.aM XP (kE a b c d e f g h i j)=true:=rfl
@[simp] theorem ab1 (a b c d e f g h i j):Yg (kE a b c d e f g h i j)=kE a b c d e f g h i j:=rfl
@[simp] theorem Yh (a b c d e f g h i j):ae (kE a b c d e f g h i j) 0=.int .u8 a:=rfl
@[simp] theorem Yi (a b c d e f g h i j):ae (kE a b c d e f g h i j) 1=.int .i64 b:=rfl
@[simp] theorem Yj (a b c d e f g h i j):ae (kE a b c d e f g h i j) 3=.bool f:=rfl
@[simp] theorem Yk (a b c d e f g h i j):ae (kE a b c d e f g h i j) 4=.int .u32 g:=rfl
@[simp] theorem Yl (a b c d e f g h i j):ae (kE a b c d e f g h i j) 5=.int .u32 h:=rfl
@[simp] theorem Ym (a b c d e f g h i j):ae (kE a b c d e f g h i j) 6=.int .u8 i:=rfl
@[simp] theorem Yn (a b c d e f g h i j):ae (kE a b c d e f g h i j) 7=.bool j:=rfl
def xg (a b c d e f g h:Int):List V:=[.int .u32 a,.int .u32 b,.int .u32 c,.int .u32 d,.int .u32 e,.int .u32 f,.int .u32 g,.int .u32 h]
def jk:List cA:=[.int .u32,.int .u32,.int .u32,.int .u32,.int .u32,.int .u32,.int .u32,.int .u32,.int .u8,.int .i64,.int .u32,.bool]
def bJ (a b c d e f g h i j l:Int) (m:Bool):List V:=[.int .u32 a,.int .u32 b,.int .u32 c,.int .u32 d,.int .u32 e,.int .u32 f,.int .u32 g,.int .u32 h,.int .u8 i,.int .i64 j,.int .u32 l,.bool m]
def jm (l:List V):List V:=bJ (ae l 0).aa (ae l 1).aa (ae l 2).aa (ae l 3).aa (ae l 4).aa (ae l 5).aa (ae l 6).aa (ae l 7).aa (ae l 8).aa (ae l 9).aa (ae l 10).aa (ae l 11).aq
@[simp] theorem f45 (a:Int) (b:Int) (c:Int) (d:Int) (e:Int) (f:Int) (g:Int) (h:Int) (i:Int) (j:Int) (l:Int) (m:Bool):Am.aM jk (bJ a b c d e f g h i j l m)=true:=rfl
@[simp] theorem ab2 (a b c d e f g h i j l m):jm (bJ a b c d e f g h i j l m)=bJ a b c d e f g h i j l m:=rfl
@[simp] theorem TF (a b c d e f g h i j l m):ae (bJ a b c d e f g h i j l m) 0=.int .u32 a:=rfl
@[simp] theorem TG (a b c d e f g h i j l m):ae (bJ a b c d e f g h i j l m) 1=.int .u32 b:=rfl
@[simp] theorem TH (a b c d e f g h i j l m):ae (bJ a b c d e f g h i j l m) 2=.int .u32 c:=rfl
@[simp] theorem TJ (a b c d e f g h i j l m):ae (bJ a b c d e f g h i j l m) 3=.int .u32 d:=rfl
@[simp] theorem TK (a b c d e f g h i j l m):ae (bJ a b c d e f g h i j l m) 4=.int .u32 e:=rfl
@[simp] theorem TM (a b c d e f g h i j l m):ae (bJ a b c d e f g h i j l m) 5=.int .u32 f:=rfl
@[simp] theorem TN (a b c d e f g h i j l m):ae (bJ a b c d e f g h i j l m) 6=.int .u32 g:=rfl
@[simp] theorem TO (a b c d e f g h i j l m):ae (bJ a b c d e f g h i j l m) 7=.int .u32 h:=rfl
@[simp] theorem N1 (a b c d e f g h i j l m):ae (bJ a b c d e f g h i j l m) 8=.int .u8 i:=rfl
@[simp] theorem N2 (a b c d e f g h i j l m):ae (bJ a b c d e f g h i j l m) 9=.int .i64 j:=rfl
@[simp] theorem N3 (a b c d e f g h i j l m):ae (bJ a b c d e f g h i j l m) 10=.int .u32 l:=rfl
@[simp] theorem N4 (a b c d e f g h i j l m):ae (bJ a b c d e f g h i j l m) 11=.bool m:=rfl
def UM:List cA:=[.int .i64,.slice,.int .u32,.int .u32,.int .u32,.int .u32,.int .u32,.int .u32,.int .u32,.int .u32,.int .u8,.int .i64,.int .u32,.bool]
def DJ (a:Int) (b:Oq) (c d:Nat) (e f g h i j l m o p q:Int) (r:Bool):List V:=[.int .i64 a,.slice b c d,.int .u32 e,.int .u32 f,.int .u32 g,.int .u32 h,.int .u32 i,.int .u32 j,.int .u32 l,.int .u32 m,.int .u8 o,.int .i64 p,.int .u32 q,.bool r]
def o48 (l:List V):List V:=DJ (ae l 0).aa (ae l 1).aj (ae l 1).an (ae l 1).aC (ae l 2).aa (ae l 3).aa (ae l 4).aa (ae l 5).aa (ae l 6).aa (ae l 7).aa (ae l 8).aa (ae l 9).aa (ae l 10).aa (ae l 11).aa (ae l 12).aa (ae l 13).aq
def c59 (a:Oq) (b c:Nat) (d:Oq) (e f:Nat) (g h i j l m o p q r s:Int) (t:Bool):List V:=[.slice a b c,.slice d e f,.int .u32 g,.int .u32 h,.int .u32 i,.int .u32 j,.int .u32 l,.int .u32 m,.int .u32 o,.int .u32 p,.int .u8 q,.int .i64 r,.int .u32 s,.bool t]
def c80 (a:Oq) (b c:Nat) (d e f g:Int) (h:Bool) (i:Int) (j:V):List V:=[.slice a b c,.int .i64 d,.int .u64 e,.int .i64 f,.int .i64 g,.bool h,.int .i64 i,j]
def k83:List cA:=[.slice,.int .i64,.bool,.bool,.bool,.int .i64]
def TP (a:Oq) (b c:Nat) (d:Int) (e f g:Bool) (h:Int):List V:=[.slice a b c,.int .i64 d,.bool e,.bool f,.bool g,.int .i64 h]
def c92 (a:Oq) (b c d:Int) (e:Oq) (f g:Nat) (h i:Oq) (j l m o p q r s t u v:Int) (w x:Bool):List V:=[.ay a,.int .i64 b,.int .i64 c,.int .i64 d,.slice e f g,.ay h,.ay i,.int .u32 j,.int .u32 l,.int .u32 m,.int .u32 o,.int .u32 p,.int .u32 q,.int .u32 r,.int .u32 s,.int .u8 t,.int .i64 u,.int .u32 v,.bool w,.bool x]
def UN:List cA:=[.int .i64,.cL]
def Ii (a:Int) (b:ByteArray):List V:=[.int .i64 a,.cL b]
def Yo (l:List V):List V:=Ii (ae l 0).aa (ae l 1).jx
@[simp] theorem f108 (a:Int) (b:ByteArray):Am.aM UN (Ii a b)=true:=rfl
def nH:List cA:=[.ay,.map,.int .u64,.slice]
def db (a:Oq) (b:Option Nat) (c:Int) (d:Oq) (e f:Nat):List V:=[.ay a,.map b,.int .u64 c,.slice d e f]
def qg (l:List V):List V:=db (ae l 0).ak (ae l 1).dE (ae l 2).aa (ae l 3).aj (ae l 3).an (ae l 3).aC
@[simp] theorem f112 (a:Oq) (b:Option Nat) (c:Int) (d:Oq) (e:Nat) (f:Nat):Am.aM nH (db a b c d e f)=true:=rfl
@[simp] theorem xh (a b c d e f):qg (db a b c d e f)=db a b c d e f:=rfl
@[simp] theorem UO (a b c d e f):ae (db a b c d e f) 0=.ay a:=rfl
@[simp] theorem UP (a b c d e f):ae (db a b c d e f) 1=.map b:=rfl
@[simp] theorem UQ (a b c d e f):ae (db a b c d e f) 2=.int .u64 c:=rfl
def UR (a:Oq) (b c d:Int) (e:Oq) (f g:Nat) (h:Int) (i j:Oq) (l:Int):List V:=[.ay a,.int .i64 b,.int .i64 c,.int .i64 d,.slice e f g,.int .u64 h,.ay i,.ay j,.int .u64 l]
def N5:List cA:=[.int .u8,.int .u64,.int .u64,.int .i64,.int .i64,.slice]
def fD (a b c d e:Int) (f:Oq) (g h:Nat):List V:=[.int .u8 a,.int .u64 b,.int .u64 c,.int .i64 d,.int .i64 e,.slice f g h]
def Yp (l:List V):List V:=fD (ae l 0).aa (ae l 1).aa (ae l 2).aa (ae l 3).aa (ae l 4).aa (ae l 5).aj (ae l 5).an (ae l 5).aC
@[simp] theorem f125 (a:Int) (b:Int) (c:Int) (d:Int) (e:Int) (f:Oq) (g:Nat) (h:Nat):Am.aM N5 (fD a b c d e f g h)=true:=rfl
@[simp] theorem Yq (a b c d e f g h):Yp (fD a b c d e f g h)=fD a b c d e f g h:=rfl
@[simp] theorem Ij (a b c d e f g h):ae (fD a b c d e f g h) 0=.int .u8 a:=rfl
@[simp] theorem Ik (a b c d e f g h):ae (fD a b c d e f g h) 1=.int .u64 b:=rfl
@[simp] theorem Il (a b c d e f g h):ae (fD a b c d e f g h) 2=.int .u64 c:=rfl
@[simp] theorem Im (a b c d e f g h):ae (fD a b c d e f g h) 3=.int .i64 d:=rfl
@[simp] theorem N6 (a b c d e f g h):ae (fD a b c d e f g h) 4=.int .i64 e:=rfl
@[simp] theorem DK (a b c d e f g h):ae (fD a b c d e f g h) 5=.slice f g h:=rfl
def Io:List cA:=[.int .i64,.int .i64]
def jn (a b:Int):List V:=[.int .i64 a,.int .i64 b]
def R0 (l:List V):List V:=jn (ae l 0).aa (ae l 1).aa
@[simp] theorem f127 (a:Int) (b:Int):Am.aM Io (jn a b)=true:=rfl
@[simp] theorem Yr (a b):R0 (jn a b)=jn a b:=rfl
@[simp] theorem DL (a b):ae (jn a b) 0=.int .i64 a:=rfl
@[simp] theorem DM (a b):ae (jn a b) 1=.int .i64 b:=rfl
def pw:List cA:=[.int .i64,.int .i64,.int .u8,.int .u64,.int .u64,.int .i64,.int .i64,.slice]
def kZ (a b c d e f g:Int) (h:Oq) (i j:Nat):List V:=[.int .i64 a,.int .i64 b,.int .u8 c,.int .u64 d,.int .u64 e,.int .i64 f,.int .i64 g,.slice h i j]
def LK (l:List V):List V:=kZ (ae l 0).aa (ae l 1).aa (ae l 2).aa (ae l 3).aa (ae l 4).aa (ae l 5).aa (ae l 6).aa (ae l 7).aj (ae l 7).an (ae l 7).aC
def rR:List cA:=[.int .i64,.slice,.bool]
def gh (a:Int) (b:Oq) (c d:Nat) (e:Bool):List V:=[.int .i64 a,.slice b c d,.bool e]
def vU (l:List V):List V:=gh (ae l 0).aa (ae l 1).aj (ae l 1).an (ae l 1).aC (ae l 2).aq
@[simp] theorem f137 (a:Int) (b:Oq) (c:Nat) (d:Nat) (e:Bool):Am.aM rR (gh a b c d e)=true:=rfl
def LL (a:Oq) (b c:Nat) (d:Option Nat):List V:=[.slice a b c,.map d]
def Bd (a:Oq) (b c:Nat) (d:Oq) (e f:Nat) (g:Oq) (h i:Nat):List V:=[.slice a b c,.slice d e f,.slice g h i]
def Ys:List cA:=[.int .i64,.int .i64,.int .i64,.int .i64,.int .i64,.int .i64,.int .i64,.int .i64,.int .i64,.int .i64,.int .i64,.int .i64,.int .i64,.int .i64,.int .i64,.int .i64,.int .i64,.int .i64,.int .i64,.int .i64,.int .i64,.int .i64,.int .i64,.int .i64,.int .i64,.int .i64,.int .i64,.int .i64,.int .i64,.int .i64,.int .i64,.int .i64]
def vV (a b c d e f g h i j l m o p q r s t u v w x y z A B C D E F G H:Int):List V:=[.int .i64 a,.int .i64 b,.int .i64 c,.int .i64 d,.int .i64 e,.int .i64 f,.int .i64 g,.int .i64 h,.int .i64 i,.int .i64 j,.int .i64 l,.int .i64 m,.int .i64 o,.int .i64 p,.int .i64 q,.int .i64 r,.int .i64 s,.int .i64 t,.int .i64 u,.int .i64 v,.int .i64 w,.int .i64 x,.int .i64 y,.int .i64 z,.int .i64 A,.int .i64 B,.int .i64 C,.int .i64 D,.int .i64 E,.int .i64 F,.int .i64 G,.int .i64 H]
def ab3 (l:List V):List V:=vV (ae l 0).aa (ae l 1).aa (ae l 2).aa (ae l 3).aa (ae l 4).aa (ae l 5).aa (ae l 6).aa (ae l 7).aa (ae l 8).aa (ae l 9).aa (ae l 10).aa (ae l 11).aa (ae l 12).aa (ae l 13).aa (ae l 14).aa (ae l 15).aa (ae l 16).aa (ae l 17).aa (ae l 18).aa (ae l 19).aa (ae l 20).aa (ae l 21).aa (ae l 22).aa (ae l 23).aa (ae l 24).aa (ae l 25).aa (ae l 26).aa (ae l 27).aa (ae l 28).aa (ae l 29).aa (ae l 30).aa (ae l 31).aa
def Be (a:Oq) (b c:Nat) (d:Bool):List V:=[.slice a b c,.bool d]
def ab4:List cA:=[.int .u8,.int .u8,.int .u8,.int .u8,.int .u8,.int .u8]
def nI (a b c d e f:Int):List V:=[.int .u8 a,.int .u8 b,.int .u8 c,.int .u8 d,.int .u8 e,.int .u8 f]
def ab5 (l:List V):List V:=nI (ae l 0).aa (ae l 1).aa (ae l 2).aa (ae l 3).aa (ae l 4).aa (ae l 5).aa
def eqs:List (TypeId×List cA):=[(46,[.int .u32,.int .u32,.int .u32,.int .u32,.int .u32,.int .u32,.int .u32,.int .u32,.int .u8,.int .i64,.int .u32,.bool]),(44,[.int .u32,.int .u32,.int .u32,.int .u32,.int .u32,.int .u32,.int .u32,.int .u32])]
theorem US:eqs.all (fun x=>Lp Tryz.prog x.1 x.2)=true:=by kernel_rfl
theorem zb:Tryz.prog.funcs.toList.all (fun fn=> !(fn.name == "runtime.NumGoroutine"))=true:=by kernel_rfl
def ab6:bS:={aZ:=[7,13,15,16,21],aX:=[(7,7),(27,7),(29,7),(31,7),(13,13),(56,13),(60,13),(61,13),(15,15),(16,16),(111,16),(113,16),(21,21)],bg:=[(8,{cQ:=[1,2,7,8,10,12],tU:=[7],cj:=[(2,.k (.bool)),(7,.lp 7),(8,.k (.ay)),(10,.k (.ay))],hJ:=[(7,26,[.int .i64,.int .i64,.int .i64,.slice])],cD:=[0]}),(9,{cQ:=[49],mg:=true,wT:=[42,43,44,45,46,47,48], }),(19,{dl:=true,wT:=[76,77], }),(24,{cj:=[(103,.k (.bool))],dl:=true,wT:=[92,93,94,95,96,97,98,99,100,101,102,103], })], }
def ab7:bS:={aZ:=[5,14,19,20,23],aX:=[(5,5),(31,5),(33,5),(35,5),(138,5),(14,14),(66,14),(122,14),(148,14),(156,14),(172,14),(183,14),(187,14),(19,19),(20,20),(23,23)],bg:=[(11,{cQ:=[1,5,6,8,9,10,11,12,13],tU:=[5],cj:=[(10,.k (.int .i64))],kS:=[(4,.k (.bool))],cD:=[0]}),(12,{cQ:=[57],mg:=true,wT:=[50,51,52,53,54,55,56], }),(19,{cj:=[(12,.k (.int .i64)),(16,.k (.int .i64))],dl:=true,wT:=[4,12,16,18,19,20,21,22,23,24,72,73,74,75,76,77,78,79,80,81,82,83,84,85,86,87,88,89,90,91,92,93,94,95,96,97,98,99,100,101,102,103,104,105,106,107,108,109,110,111,112,113,114,115,116,117,118,119,120,121,122,123,124,125,126,127,128,129,130,131,132,133,134,135,136,137,138,139,140,141,142,143,144,145,146,147,148,149,150,151,152,153,154,155,156,157,158,159,160,161],wL:=[19,20,23]}),(31,{cQ:=[114],mg:=true,wT:=[115,116,117,118,119,120], }),(38,{cQ:=[133],mg:=true,wT:=[134,135,136,137,138,139,140,141], }),(50,{cQ:=[1,5,6,8,9,10,11,12,13,14,15,25],tU:=[5,14],cj:=[(1,.k (.slice)),(5,.lp 5),(6,.k (.ay)),(8,.k (.int .i64)),(9,.k (.ay)),(10,.k (.int .i64)),(11,.k (.ay)),(12,.k (.int .i64)),(13,.k (.int .i64)),(15,.k (.ay))],hJ:=[(5,26,[.int .i64,.int .i64,.int .i64,.slice])],cD:=[3]}),(54,{cQ:=[185],mg:=true,wT:=[180,181,182,183,184], }),(55,{dl:=true,wT:=[186,187,188,189,190,191,192], })], }
def Yt:bS:={aZ:=[1,7],aX:=[(1,1),(11,1),(13,1),(15,1),(7,7),(60,7)], }
def Yu:bS:={aZ:=[2,3],aX:=[(2,2),(3,3),(18,3),(23,3),(28,3),(32,3)],bg:=[(2,{cQ:=[21],mg:=true,wT:=[14,15,16,17,18,19,20], }),(3,{hJ:=[(3,26,[.int .i64,.int .i64,.int .i64,.slice])],dl:=true,wT:=[22,23],wL:=[3]}),(5,{cQ:=[31],mg:=true,wT:=[24,25,26,27,28,29,30], })], }
def Yv:bS:={bg:=[(1,{cQ:=[24],mg:=true,wT:=[11,12,13,14,15,16,17,18,19,20,21,22,23], }),(6,{cQ:=[0,8,30,31,32],cj:=[(8,.k (.ay))],kS:=[(6,.k (.ay)),(7,.k (.int .i64))],cD:=[0]}),(10,{cQ:=[42],mg:=true,wT:=[36,37,38,39,40,41], })], }
def Yw:bS:={aZ:=[4,12],aX:=[(4,4),(12,12)],bg:=[(8,{cj:=[(10,.k (.ay))],dl:=true,wT:=[10,27,28,29,30,31,32,33,34], })], }
def Yx:bS:={aZ:=[3,4,7,11],aX:=[(3,3),(12,3),(19,3),(24,3),(29,3),(31,3),(33,3),(37,3),(42,3),(48,3),(55,3),(59,3),(4,4),(51,4),(52,4),(7,7),(11,11),(54,11),(61,11)],bg:=[(6,{hJ:=[(11,41,[.int .u8,.int .i64,.slice,.bool,.int .u32,.int .u32,.int .u8,.bool])],dl:=true,wT:=[50,51,52,53,54],wL:=[11]})], }
def Yy:bS:={aZ:=[2],aX:=[(2,2)], }
def Yz:bS:={aZ:=[5,6,9],aX:=[(5,5),(6,6),(9,9),(39,9)],bg:=[(9,{cQ:=[32],mg:=true,wT:=[27,28,29,30,31], })], }
def YA:bS:={bg:=[(5,{dl:=true,wT:=[12,13,14,15,16,17], })], }
def YB:bS:={aZ:=[1],aX:=[(1,1),(3,1),(9,1),(11,1),(15,1)], }
def YC:bS:={}
def YD:bS:={aZ:=[5,8,9],aX:=[(5,5),(30,5),(51,5),(58,5),(60,5),(63,5),(69,5),(71,5),(8,8),(9,9)], }
def YE:bS:={aZ:=[4,7],aX:=[(4,4),(9,4),(14,4),(21,4),(7,7)], }
def YF:bS:={aZ:=[9],aX:=[(9,9),(56,9),(61,9)],bg:=[(1,{cj:=[(27,.k (.bool))],dl:=true,wT:=[11,12,13,14,15,16,17,18,19,20,21,22,23,24,25,26,27], }),(5,{cQ:=[0,1,2,7],kS:=[(6,.k (.bool))],cD:=[0]}),(9,{cQ:=[0,1,2,7,8],cj:=[(0,.k (.ay)),(1,.k (.ay)),(2,.k (.int .i64)),(7,.k (.int .i64))],kS:=[(6,.k (.bool))],cD:=[2]}),(15,{cj:=[(68,.k (.bool))],dl:=true,wT:=[53,54,55,56,57,58,59,60,61,62,63,64,65,66,67,68], })], }
def YG:bS:={bg:=[(5,{cQ:=[20],mg:=true,wT:=[21,22,23,24,25,26,27,28,29,30], })], }
def YH:bS:={}
def YI:bS:={}
def YJ:bS:={bg:=[(0,{cQ:=[0],cD:=[0]})], }
def YK:bS:={aZ:=[1],aX:=[(1,1),(8,1),(14,1),(22,1)],bg:=[(3,{cQ:=[1,3,4],tU:=[1],cj:=[(3,.k (.slice))],cD:=[0]}),(8,{cQ:=[1,3,4,5,6],tU:=[1],cj:=[(1,.lp 1),(3,.k (.slice)),(4,.k (.int .i64)),(5,.k (.bool))],hJ:=[(1,26,[.int .i64,.int .i64,.int .i64,.slice])],cD:=[2]}),(11,{cQ:=[5],mg:=true,wT:=[20,21,22,23,24,25,26,27,28,29], })], }
def YL:bS:={bg:=[(4,{cQ:=[10],mg:=true,wT:=[11,12,13,14,15,16,17,18,19,20,21,22,23,24,25], })], }
def YM:bS:={}
def YN:bS:={bg:=[(2,{cQ:=[0,2,3],cj:=[(0,.k (.ay)),(2,.k (.int .i64))],cD:=[0]})], }
def YO:bS:={}
def YP:bS:={}
def YQ:bS:={bg:=[(2,{cQ:=[0,1,2,3,9],kS:=[(8,.k (.ay))],cD:=[0]}),(7,{cj:=[(10,.k (.ay))],dl:=true,wT:=[10,21], }),(10,{cQ:=[0,1,2,3,9,10,11],cj:=[(0,.k (.ay)),(1,.k (.ay)),(2,.k (.ay)),(3,.k (.int .i64)),(9,.k (.int .i64))],kS:=[(8,.k (.ay))],cD:=[2]}),(15,{cQ:=[0,1,2,3,9,10,11,12,13],cj:=[(0,.k (.ay)),(1,.k (.ay)),(2,.k (.ay)),(3,.k (.int .i64)),(9,.k (.int .i64)),(10,.k (.ay)),(11,.k (.int .i64)),(12,.k (.ay))],cD:=[4]}),(16,{cQ:=[38],mg:=true,wT:=[28,29,30,31,32,33,34,35,36,37], })], }
def YR:bS:={}
def YS:bS:={aZ:=[4,8],aX:=[(4,4),(105,4),(8,8),(45,8),(48,8),(96,8)],bg:=[(1,{cQ:=[26],mg:=true,wT:=[21,22,23,24,25], }),(12,{cQ:=[0,4,8,10,12,13,14,53,54,55],tU:=[4,8],cj:=[(10,.k (.ay)),(12,.k (.ay)),(14,.k (.int .i64))],kS:=[(6,.k (.ay)),(7,.k (.int .i64))],cD:=[0]}),(29,{cQ:=[0,4,8,10,12,13,14,16,53,54,55,90,91,92],tU:=[4,8],cj:=[(0,.k (.ay)),(4,.lp 4),(8,.lp 8),(10,.k (.ay)),(12,.k (.ay)),(13,.k (.int .u64)),(14,.k (.int .i64)),(53,.k (.slice)),(54,.k (.int .i64)),(55,.k (.int .i64))],hJ:=[(4,26,[.int .i64,.int .i64,.int .i64,.slice]),(8,113,[.ay,.map,.int .u64,.slice])],cD:=[2]}),(34,{cQ:=[112],mg:=true,wT:=[102,103,104,105,106,107,108,109,110,111], })], }
def YT:bS:={aZ:=[0],aX:=[(0,0)], }
def YU:bS:={aZ:=[7],aX:=[(7,7),(24,7)], }
def YV:bS:={aZ:=[1],aX:=[(1,1)], }
def YW:bS:={aZ:=[2,6],aX:=[(2,2),(6,6),(18,6),(19,6),(28,6),(29,6),(36,6),(37,6)],bg:=[(4,{cQ:=[2,5,6,11],tU:=[2,6],cj:=[(2,.lp 2),(5,.k (.ay)),(6,.lp 6)],hJ:=[(2,46,[.int .u32,.int .u32,.int .u32,.int .u32,.int .u32,.int .u32,.int .u32,.int .u32,.int .u8,.int .i64,.int .u32,.bool]),(6,46,[.int .u32,.int .u32,.int .u32,.int .u32,.int .u32,.int .u32,.int .u32,.int .u32,.int .u8,.int .i64,.int .u32,.bool])],cD:=[0]}),(13,{cj:=[(48,.k (.bool))],dl:=true,wT:=[41,42,43,44,45,46,47,48], })], }
def YX:bS:={aZ:=[3,6],aX:=[(3,3),(11,3),(15,3),(6,6)], }
def YY:bS:={}
def YZ:bS:={bg:=[(5,{cj:=[(13,.k (.bool))],dl:=true,wT:=[13,14,15,16,17,18,19,20,21,22,23,24,25,26,27,28,29,30], })], }
def Y0:bS:={aZ:=[5,6,8,12],aX:=[(5,5),(36,5),(45,5),(59,5),(71,5),(73,5),(76,5),(83,5),(86,5),(6,6),(8,8),(51,8),(12,12)],bg:=[(29,{cQ:=[120],mg:=true,wT:=[111,112,113,114,115,116,117,118,119], }),(32,{cj:=[(14,.k (.int .i64))],dl:=true,wT:=[14,123,124,125,126,127,128,129,130,131,132,133,134,135,136,137,138,139], })], }
def Y1:bS:={aZ:=[4],aX:=[(4,4),(14,4),(18,4),(22,4),(26,4),(32,4),(36,4)],bg:=[(1,{cQ:=[17],mg:=true,wT:=[7,8,9,10,11,12,13,14,15,16], }),(4,{cQ:=[31],mg:=true,wT:=[18,19,20,21,22,23,24,25,26,27,28,29,30], }),(7,{cQ:=[6],mg:=true,wT:=[32,33,34,35,36,37,38,39,40], })], }
def Y2:bS:={aZ:=[3,5],aX:=[(3,3),(5,5),(7,5),(12,5)], }
def Y3:bS:={bg:=[(2,{cQ:=[0,1,5],cj:=[(0,.k (.ay)),(1,.k (.int .i64))],kS:=[(4,.k (.cL))],cD:=[0]})], }
def Y4:bS:={bg:=[(2,{cQ:=[0,1,2,3,8,9],cj:=[(0,.k (.ay)),(1,.k (.int .i64)),(2,.k (.cL)),(3,.k (.bool)),(8,.k (.bool))],cD:=[0]}),(5,{cQ:=[8],mg:=true,wT:=[19,20,21,22,23,24,25,26,27,28,29,30,31], }),(7,{cQ:=[45],mg:=true,wT:=[32,33,34,35,36,37,38,39,40,41,42,43,44], }),(8,{dl:=true,wT:=[46,47], })], }
def Y5:bS:={aZ:=[3,5,6,8],aX:=[(3,3),(53,3),(54,3),(188,3),(202,3),(210,3),(229,3),(75,3),(80,3),(89,3),(93,3),(100,3),(101,3),(117,3),(118,3),(128,3),(129,3),(143,3),(147,3),(5,5),(20,5),(25,5),(30,5),(34,5),(39,5),(44,5),(50,5),(58,5),(62,5),(69,5),(176,5),(180,5),(184,5),(207,5),(212,5),(231,5),(71,5),(85,5),(103,5),(123,5),(131,5),(167,5),(6,6),(8,8),(172,8),(175,8),(178,8),(182,8),(183,8),(244,8),(245,8),(248,8),(251,8),(137,8),(138,8),(160,8),(163,8)],bg:=[(1,{cQ:=[28],mg:=true,wT:=[13,14,15,16,17,18,19,20,21,22,23,24,25,26,27], }),(4,{cj:=[(48,.k (.bool))],dl:=true,wT:=[30,31,32,33,34,35,36,37,38,39,40,41,42,43,44,45,46,47,48], }),(7,{cQ:=[66],mg:=true,wT:=[50,51,52,53,54,55,56,57,58,59,60,61,62,63,64,65], }),(17,{cj:=[(197,.k (.bool))],dl:=true,wT:=[184,185,186,187,188,189,190,191,192,193,194,195,196,197], }),(25,{cj:=[(220,.k (.bool))],dl:=true,wT:=[210,211,212,213,214,215,216,217,218,219,220], }),(40,{cQ:=[6,8,9],tU:=[6,8],cj:=[(6,.lp 6),(8,.lp 8)],hJ:=[(6,46,[.int .u32,.int .u32,.int .u32,.int .u32,.int .u32,.int .u32,.int .u32,.int .u32,.int .u8,.int .i64,.int .u32,.bool]),(8,46,[.int .u32,.int .u32,.int .u32,.int .u32,.int .u32,.int .u32,.int .u32,.int .u32,.int .u8,.int .i64,.int .u32,.bool])],cD:=[3]}),(47,{cQ:=[83],mg:=true,wT:=[71,72,73,74,75,76,77,78,79,80,81,82], }),(50,{cQ:=[10],mg:=true,wT:=[85,86,87,88,89,90,91,92,93,94,95,96,97,98,99,100,101,102,103,104,105,106,107], }),(53,{cQ:=[1,3,5,6,8,10,11,12],tU:=[3,5,6,8],cj:=[(1,.k (.int .i64)),(3,.lp 3),(5,.lp 5),(6,.lp 6),(8,.lp 8),(10,.k (.bool)),(11,.k (.int .i64))],hJ:=[(3,46,[.int .u32,.int .u32,.int .u32,.int .u32,.int .u32,.int .u32,.int .u32,.int .u32,.int .u8,.int .i64,.int .u32,.bool]),(5,41,[.int .u8,.int .i64,.slice,.bool,.int .u32,.int .u32,.int .u8,.bool]),(6,46,[.int .u32,.int .u32,.int .u32,.int .u32,.int .u32,.int .u32,.int .u32,.int .u32,.int .u8,.int .i64,.int .u32,.bool]),(8,46,[.int .u32,.int .u32,.int .u32,.int .u32,.int .u32,.int .u32,.int .u32,.int .u32,.int .u8,.int .i64,.int .u32,.bool])],cD:=[1]}),(56,{cQ:=[135],mg:=true,wT:=[112,113,114,115,116,117,118,119,120,121,122,123,124,125,126,127,128,129,130,131,132,133,134], }),(60,{cQ:=[10],mg:=true,wT:=[141,142,143,144,145,146,147,148,149,150,151,152], }),(62,{cQ:=[158],mg:=true,wT:=[153,154,155,156,157], })], }
def Y6:bS:={bg:=[(4,{cQ:=[9],mg:=true,wT:=[10,11,12,13,14,15,16,17,18,19,20], })], }
def Y7:bS:={}
def Y8:bS:={}
def Y9:bS:={aZ:=[4],aX:=[(4,4),(26,4)],bg:=[(2,{cQ:=[0,10,11,12],kS:=[(2,.k (.int .i64))],cD:=[0]})], }
def Za:bS:={bg:=[(2,{cQ:=[0,1,4,5],cj:=[(0,.k (.ay)),(4,.k (.slice))],cD:=[0]})], }
def Zb:bS:={aZ:=[3,6],aX:=[(3,3),(11,3),(19,3),(6,6)],bg:=[(1,{cQ:=[14],mg:=true,wT:=[7,8,9,10,11,12,13], })], }
def Zc:bS:={}
def Zd:bS:={aZ:=[3,4,8,15,21,22,25],aX:=[(3,3),(35,3),(42,3),(51,3),(4,4),(8,8),(87,8),(93,8),(106,8),(111,8),(131,8),(150,8),(158,8),(15,15),(89,15),(90,15),(21,21),(133,21),(134,21),(145,21),(146,21),(152,21),(153,21),(22,22),(142,22),(143,22),(25,25),(168,25)],bg:=[(4,{cj:=[(45,.k (.bool))],dl:=true,wT:=[29,30,31,32,33,34,35,36,37,38,39,40,41,42,43,44,45], }),(11,{cQ:=[0,3,4,6,8,9,61,62,63],tU:=[3,4,8],cj:=[(3,.lp 3),(4,.lp 4),(6,.k (.ay)),(8,.lp 8),(9,.k (.map))],hJ:=[(3,26,[.int .i64,.int .i64,.int .i64,.slice]),(4,113,[.ay,.map,.int .u64,.slice]),(8,113,[.ay,.map,.int .u64,.slice])],kS:=[(4,.lp 4),(5,.k (.int .i64))],UF:=[(4,113,[.ay,.map,.int .u64,.slice])],cD:=[0]}),(21,{cQ:=[0,3,4,6,8,9,61,62,63,81,82,83],tU:=[3,4,8],cj:=[(0,.k (.ay)),(3,.lp 3),(4,.lp 4),(6,.k (.ay)),(8,.lp 8),(9,.k (.map)),(61,.k (.slice)),(62,.k (.int .i64)),(63,.k (.int .i64))],hJ:=[(3,26,[.int .i64,.int .i64,.int .i64,.slice]),(4,113,[.ay,.map,.int .u64,.slice]),(8,113,[.ay,.map,.int .u64,.slice])],cD:=[2]}),(29,{cQ:=[3,4,6,8,9,97,98,99],tU:=[3,4,8],cj:=[(3,.lp 3),(4,.lp 4),(6,.k (.ay)),(8,.lp 8),(9,.k (.map))],hJ:=[(3,26,[.int .i64,.int .i64,.int .i64,.slice]),(4,113,[.ay,.map,.int .u64,.slice]),(8,113,[.ay,.map,.int .u64,.slice])],cD:=[4]}),(39,{cQ:=[4,6,8,9,116,117,118],tU:=[4,8],cj:=[(4,.lp 4),(6,.k (.ay)),(8,.lp 8)],hJ:=[(4,113,[.ay,.map,.int .u64,.slice]),(8,113,[.ay,.map,.int .u64,.slice])],cD:=[6]}),(44,{cQ:=[4,6,8,9,116,117,118,124,125,126],tU:=[4,8],cj:=[(4,.lp 4),(6,.k (.ay)),(8,.lp 8),(9,.k (.map)),(116,.k (.slice)),(117,.k (.int .i64)),(118,.k (.int .i64))],hJ:=[(4,113,[.ay,.map,.int .u64,.slice]),(8,113,[.ay,.map,.int .u64,.slice])],cD:=[8]}),(49,{cQ:=[149],mg:=true,wT:=[139,140,141,142,143,144,145,146,147,148], }),(55,{cQ:=[4,6,8,160],tU:=[4,8],cj:=[(4,.lp 4),(8,.lp 8)],hJ:=[(4,113,[.ay,.map,.int .u64,.slice]),(8,113,[.ay,.map,.int .u64,.slice])],cD:=[10]})], }
def Ze:bS:={bg:=[(3,{cQ:=[0,4,10,11,12],cj:=[(0,.k (.slice)),(4,.k (.ay))],kS:=[(2,.k (.ay)),(3,.k (.int .i64))],cD:=[0]}),(7,{cQ:=[35],mg:=true,wT:=[17,18,19,20,21,22,23,24,25,26,27,28,29,30,31,32,33,34], })], }
def Zf:bS:={aZ:=[1],aX:=[(1,1),(6,1),(11,1)],bg:=[(3,{cQ:=[1,3,4],tU:=[1],cj:=[(3,.k (.slice))],cD:=[0]})], }
def Zg:bS:={bg:=[(1,{cQ:=[4],mg:=true,wT:=[5,6,7,8,9,10,11,12,13,14,15,16,17,18,19,20,21,22,23,24,25,26,27,28,29], })], }
def Zh:bS:={bg:=[(5,{cQ:=[22],mg:=true,wT:=[23,24,25,26,27,28], }),(8,{cQ:=[29],mg:=true,wT:=[30,31,32,33,34,35], })], }
def Zi:bS:={bg:=[(1,{cQ:=[19],mg:=true,wT:=[5,6,7,8,9,10,11,12,13,14,15,16,17,18], })], }
def Zj:bS:={bg:=[(1,{cQ:=[19],mg:=true,wT:=[5,6,7,8,9,10,11,12,13,14,15,16,17,18], })], }
def Zk:bS:={}
def Zl:bS:={aZ:=[5,7],aX:=[(5,5),(64,5),(7,7),(55,7),(60,7)],bg:=[(1,{cQ:=[35],mg:=true,wT:=[11,12,13,14,15,16,17,18,19,20,21,22,23,24,25,26,27,28,29,30,31,32,33,34], }),(6,{cQ:=[0,1,5,40,41,42],tU:=[5],cj:=[(5,.lp 5)],hJ:=[(5,177,[.int .i64,.int .i64,.int .i64,.int .i64,.int .i64,.int .i64,.int .i64,.int .i64,.int .i64,.int .i64,.int .i64,.int .i64,.int .i64,.int .i64,.int .i64,.int .i64,.int .i64,.int .i64,.int .i64,.int .i64,.int .i64,.int .i64,.int .i64,.int .i64,.int .i64,.int .i64,.int .i64,.int .i64,.int .i64,.int .i64,.int .i64,.int .i64])],cD:=[0]}),(10,{cQ:=[59],mg:=true,wT:=[47,48,49,50,51,52,53,54,55,56,57,58], }),(16,{cQ:=[8,66,67],cj:=[(8,.k (.slice))],cD:=[2]})], }
def Zm:bS:={}
def Zn:bS:={aZ:=[4,6],aX:=[(4,4),(6,6),(28,6),(30,6)], }
def Zo:bS:={aZ:=[1],aX:=[(1,1),(3,1),(8,1)], }
def Zp:bS:={}
def Zq:bS:={}
def Zr:bS:={bg:=[(1,{cQ:=[2],mg:=true,wT:=[3,4,5,6,7,8,9,10,11,12,13,14,15,16,17,18,19], })], }
def Zs:bS:={aZ:=[1],aX:=[(1,1),(7,1),(11,1),(16,1),(20,1),(26,1),(37,1),(41,1),(46,1),(51,1),(59,1),(61,1),(62,1),(68,1)],bg:=[(1,{cj:=[(25,.k (.bool))],dl:=true,wT:=[7,8,9,10,11,12,13,14,15,16,17,18,19,20,21,22,23,24,25], }),(6,{cQ:=[1,3,27,28],tU:=[1],cj:=[(1,.lp 1),(3,.k (.bool))],hJ:=[(1,46,[.int .u32,.int .u32,.int .u32,.int .u32,.int .u32,.int .u32,.int .u32,.int .u32,.int .u8,.int .i64,.int .u32,.bool])],cD:=[0]}),(10,{cQ:=[3],mg:=true,wT:=[31,32,33,34,35], }),(12,{cQ:=[6],mg:=true,wT:=[37,38,39,40,41,42,43,44,45,46,47,48,49], }),(13,{cQ:=[2],mg:=true,wT:=[50,51,52,53,54,55,56,57,58,59,60,61,62,63,64,65,66,67,68,69,70,71,72,73,74], })], }
def Zt:bS:={bg:=[(1,{cQ:=[2],mg:=true,wT:=[3,4,5,6,7,8,9,10,11], })], }
def Zu:bS:={}
def Zv:bS:={aZ:=[4],aX:=[(4,4),(8,4),(12,4),(17,4),(28,4),(36,4),(40,4),(48,4),(52,4)],bg:=[(1,{cQ:=[7],mg:=true,wT:=[8,9,10,11,12,13,14,15,16,17,18,19,20], }),(2,{cQ:=[6],mg:=true,wT:=[21,22,23,24,25,26,27,28,29,30,31,32,33,34,35,36,37,38,39,40,41,42,43,44,45,46,47,48,49,50,51,52,53,54,55,56,57], })], }
def Zw:bS:={aZ:=[3,5],aX:=[(3,3),(5,5),(7,5)],bg:=[(6,{cj:=[(14,.k (.bool))],dl:=true,wT:=[14,16,17], })], }
def Zx:bS:={aZ:=[4,8],aX:=[(4,4),(8,8),(28,8),(31,8)], }
def Zy:bS:={aZ:=[4],aX:=[(4,4),(20,4)], }
def Zz:bS:={aZ:=[3,5,6,9],aX:=[(3,3),(49,3),(50,3),(77,3),(86,3),(94,3),(109,3),(119,3),(122,3),(5,5),(17,5),(22,5),(27,5),(31,5),(36,5),(42,5),(52,5),(56,5),(60,5),(67,5),(88,5),(99,5),(111,5),(6,6),(9,9)],bg:=[(1,{cQ:=[25],mg:=true,wT:=[10,11,12,13,14,15,16,17,18,19,20,21,22,23,24], }),(4,{cQ:=[8],mg:=true,wT:=[27,28,29,30,31,32,33,34,35,36,37,38,39], }),(5,{cj:=[(46,.k (.bool))],dl:=true,wT:=[40,41,42,43,44,45,46], }),(8,{cQ:=[64],mg:=true,wT:=[48,49,50,51,52,53,54,55,56,57,58,59,60,61,62,63], }),(18,{cj:=[(92,.k (.bool))],dl:=true,wT:=[77,78,79,80,81,82,83,84,85,86,87,88,89,90,91,92], })], }
def ZA:bS:={}
def ZB:bS:={aZ:=[2],aX:=[(2,2),(9,2),(20,2),(24,2),(29,2),(32,2)],bg:=[(3,{cQ:=[1,2,5,10,11],tU:=[2],cj:=[(1,.k (.int .i64)),(2,.lp 2),(5,.k (.slice))],hJ:=[(2,46,[.int .u32,.int .u32,.int .u32,.int .u32,.int .u32,.int .u32,.int .u32,.int .u32,.int .u8,.int .i64,.int .u32,.bool])],cD:=[0]}),(12,{cj:=[(8,.k (.int .u64))],dl:=true,wT:=[8], })], }
def ZC:bS:={aZ:=[3],aX:=[(3,3),(14,3),(23,3),(24,3),(27,3)],bg:=[(1,{cQ:=[13],mg:=true,wT:=[8,9,10,11,12], }),(4,{cj:=[(21,.k (.bool))],dl:=true,wT:=[14,15,16,17,18,19,20,21], }),(13,{cj:=[(33,.k (.bool))],dl:=true,wT:=[33,35], }),(16,{cQ:=[6],mg:=true,wT:=[36,37,38,39,40], })], }
def ZD:bS:={bg:=[(1,{cQ:=[2],mg:=true,wT:=[3,4,5,6,7,8,9,10,11,12,13,14,15,16], })], }
def ZE:bS:={aZ:=[1],aX:=[(1,1),(9,1),(10,1)],bg:=[(2,{cQ:=[1,3],tU:=[1],kS:=[(2,.k (.bool))],cD:=[0]})], }
def ZF:bS:={aZ:=[1,2],aX:=[(1,1),(3,1),(4,1),(2,2)], }
def ZG:bS:={aZ:=[3,6],aX:=[(3,3),(8,3),(10,3),(17,3),(6,6)],bg:=[(3,{cQ:=[16],mg:=true,wT:=[11,12,13,14,15], })], }
def ZH:bS:={aZ:=[2],aX:=[(2,2),(11,2),(19,2),(20,2),(23,2)],bg:=[(1,{cQ:=[10],mg:=true,wT:=[5,6,7,8,9], }),(9,{cj:=[(15,.k (.bool))],dl:=true,wT:=[15,17], })], }
def ZI:bS:={aZ:=[5],aX:=[(5,5),(17,5),(20,5)],bg:=[(5,{cQ:=[3,11,12,13],cj:=[(3,.k (.slice))],cD:=[0]})], }
def ZJ:bS:={aZ:=[3],aX:=[(3,3),(5,3),(11,3),(18,3),(20,3)], }
def ZK:bS:={}
def ZL:bS:={bg:=[(5,{cQ:=[1,5,14],cj:=[(5,.k (.int .i64))],cD:=[0]})], }
def ZM:bS:={aZ:=[1],aX:=[(1,1),(5,1),(9,1),(14,1),(19,1),(24,1),(29,1),(33,1),(45,1),(50,1)],bg:=[(1,{cQ:=[32],mg:=true,wT:=[5,6,7,8,9,10,11,12,13,14,15,16,17,18,19,20,21,22,23,24,25,26,27,28,29,30,31], }),(5,{cQ:=[1,34,35,36],tU:=[1],cj:=[(1,.lp 1)],hJ:=[(1,26,[.int .i64,.int .i64,.int .i64,.slice])],kS:=[(2,.k (.bool))],cD:=[0]})], }
def ZN:bS:={}
def ZO:bS:={}
def ZP:bS:={bg:=[(1,{cQ:=[19],mg:=true,wT:=[6,7,8,9,10,11,12,13,14,15,16,17,18], }),(4,{cj:=[(4,.k (.ay)),(5,.k (.int .i64))],dl:=true,wT:=[4,5,20,21,22,23,24,25,26,27], })], }
def ZQ:bS:={aZ:=[4,12],aX:=[(4,4),(22,4),(29,4),(12,12),(66,12),(71,12)],bg:=[(4,{cj:=[(39,.k (.bool))],dl:=true,wT:=[16,17,18,19,20,21,22,23,24,25,26,27,28,29,30,31,32,33,34,35,36,37,38,39], }),(9,{cQ:=[0,2,4,8,42,43],tU:=[4],cj:=[(8,.k (.slice))],kS:=[(6,.k (.slice)),(7,.k (.int .i64))],cD:=[0]}),(20,{cj:=[(76,.k (.bool))],dl:=true,wT:=[63,64,65,66,67,68,69,70,71,72,73,74,75,76], })], }
def ZR:bS:={bg:=[(6,{cQ:=[0,5,23,24,25],kS:=[(4,.k (.bool))],cD:=[0]}),(11,{cQ:=[46],mg:=true,wT:=[34,35,36,37,38,39,40,41,42,43,44,45], })], }
def UT:bS:={aZ:=[5],aX:=[(5,5),(23,5),(28,5),(38,5),(43,5),(67,5)],bg:=[(4,{cQ:=[10],mg:=true,wT:=[11,12,13,14,15,16,17,18,19,20,21,22,23,24,25,26,27,28,29,30,31,32,33,34,35,36,37,38,39,40,41,42,43,44,45,46], })], }
def UU:bS:={}
def UW:bS:={}
def UX:bS:={bg:=[(4,{cQ:=[0,11,12,13],kS:=[(2,.k (.int .i64)),(3,.k (.bool))],cD:=[0]})], }
def UY:bS:={}
def UZ:bS:={aZ:=[4],aX:=[(4,4)],bg:=[(1,{cQ:=[30],mg:=true,wT:=[6,7,8,9,10,11,12,13,14,15,16,17,18,19,20,21,22,23,24,25,26,27,28,29], })], }
def U8:bS:={aZ:=[2,7],aX:=[(2,2),(7,7),(38,7),(39,7),(47,7),(48,7),(51,7)],bg:=[(1,{cQ:=[16],mg:=true,wT:=[8,9,10,11,12,13,14,15], }),(13,{cj:=[(66,.k (.bool))],dl:=true,wT:=[52,53,54,55,56,57,58,59,60,61,62,63,64,65,66], })], }
def U9:bS:={bg:=[(3,{cQ:=[3,6,7,8],cj:=[(3,.k (.int .u64))],cD:=[0]})], }
def Va:bS:={bg:=[(1,{cQ:=[18],mg:=true,wT:=[6,7,8,9,10,11,12,13,14,15,16,17], })], }
def Vb:bS:={bg:=[(2,{cQ:=[0,5,6],kS:=[(2,.k (.bool))],cD:=[0]})], }
def Vc:bS:={aZ:=[3],aX:=[(3,3),(13,3),(21,3),(36,3),(37,3),(42,3),(43,3)],bg:=[(1,{cQ:=[12],mg:=true,wT:=[7,8,9,10,11], }),(4,{cj:=[(20,.k (.bool))],dl:=true,wT:=[13,14,15,16,17,18,19,20], }),(15,{cj:=[(29,.k (.bool))],dl:=true,wT:=[29,31], }),(18,{cQ:=[6],mg:=true,wT:=[32,33,34,35,36,37,38,39,40], })], }
def Vd:bS:={}
def Ve:bS:={aZ:=[3],aX:=[(3,3),(11,3),(15,3),(20,3),(24,3),(27,3),(28,3),(30,3),(33,3)],bg:=[(4,{cQ:=[10],mg:=true,wT:=[11,12,13,14,15,16,17,18], }),(12,{hJ:=[(3,138,[.int .i64,.slice,.bool])],dl:=true,wT:=[30],wL:=[3]}),(21,{dl:=true,wT:=[38,39,40,41,42,43,44,45,46,47,48], })], }
def Vf:bS:={aZ:=[3,5,6],aX:=[(3,3),(7,3),(10,3),(13,3),(23,3),(24,3),(5,5),(11,5),(14,5),(21,5),(6,6)], }
def Vg:bS:={aZ:=[2],aX:=[(2,2),(12,2),(16,2),(21,2),(26,2),(27,2)],bg:=[(1,{cQ:=[15],mg:=true,wT:=[5,6,7,8,9,10,11,12,13,14], })], }
def Vh:bS:={aZ:=[3,6],aX:=[(3,3),(9,3),(10,3),(13,3),(6,6)], }
def Vi:bS:={aZ:=[1,2],aX:=[(1,1),(3,1),(4,1),(2,2)], }
def Vj:bS:={aZ:=[3,5,6,10],aX:=[(3,3),(17,3),(30,3),(31,3),(35,3),(40,3),(47,3),(73,3),(5,5),(13,5),(23,5),(27,5),(62,5),(66,5),(97,5),(6,6),(10,10),(79,10),(80,10),(89,10),(92,10)],bg:=[(1,{cj:=[(21,.k (.bool))],dl:=true,wT:=[13,14,15,16,17,18,19,20,21], }),(5,{cQ:=[9],mg:=true,wT:=[23,24,25,26,27,28,29,30,31,32,33,34,35,36,37,38,39,40,41,42,43,44,45], }),(8,{cQ:=[1,3,5,6,8,9,10,48,49],tU:=[3,5,6,10],cj:=[(1,.k (.int .i64)),(3,.lp 3),(5,.lp 5),(6,.lp 6),(8,.k (.bool)),(9,.k (.bool)),(10,.lp 10)],hJ:=[(3,46,[.int .u32,.int .u32,.int .u32,.int .u32,.int .u32,.int .u32,.int .u32,.int .u32,.int .u8,.int .i64,.int .u32,.bool]),(5,41,[.int .u8,.int .i64,.slice,.bool,.int .u32,.int .u32,.int .u8,.bool]),(6,46,[.int .u32,.int .u32,.int .u32,.int .u32,.int .u32,.int .u32,.int .u32,.int .u32,.int .u8,.int .i64,.int .u32,.bool]),(10,46,[.int .u32,.int .u32,.int .u32,.int .u32,.int .u32,.int .u32,.int .u32,.int .u32,.int .u8,.int .i64,.int .u32,.bool])],cD:=[0]}),(12,{cQ:=[70],mg:=true,wT:=[53,54,55,56,57,58,59,60,61,62,63,64,65,66,67,68,69], }),(15,{cQ:=[9],mg:=true,wT:=[71,72,73,74,75,76,77], }),(18,{cQ:=[87],mg:=true,wT:=[82,83,84,85,86], })], }
def Vk:bS:={aZ:=[3],aX:=[(3,3)],bg:=[(1,{cQ:=[0,3],tU:=[3],kS:=[(4,.k (.int .i64))], })], }
def Vl:bS:={bg:=[(2,{cQ:=[0,1,8,9],cj:=[(0,.k (.slice))],cD:=[0]})], }
def Vm:bS:={aZ:=[6],aX:=[(6,6)], }
def Vn:bS:={}
def Vo:bS:={}
def Vp:bS:={aZ:=[2],aX:=[(2,2),(4,2),(5,2),(12,2),(13,2),(21,2),(22,2),(30,2),(31,2)], }
def Vq:bS:={bg:=[(4,{cQ:=[8],mg:=true,wT:=[9,10,11,12,13,14,15,16,17,18,19], }),(8,{dl:=true,wT:=[27,28,29,30,31,32,33,34,35,36,37,38,39,40,41,42], })], }
def Vr:bS:={bg:=[(2,{cQ:=[0,1,7,8],kS:=[(4,.k (.int .i64))],cD:=[0]})], }
def Vs:bS:={bg:=[(3,{dl:=true,wT:=[18,19,20,21,22,23,24,25,26,27,28,29,30,31,32], })], }
def Vt:bS:={bg:=[(0,{dl:=true,wT:=[1,2,3,4,5,6], })], }
def Vu:bS:={bg:=[(0,{cQ:=[5],mg:=true,wT:=[6,7,8,9,10,11], })], }
def Vv:bS:={}
def Vx:bS:={}
def Vy:bS:={bg:=[(1,{cQ:=[2],mg:=true,wT:=[3,4,5,6,7,8,9,10], })], }
def Vz:bS:={aZ:=[1],aX:=[(1,1),(3,1),(7,1),(12,1),(17,1),(22,1),(27,1),(32,1),(37,1),(42,1),(48,1),(52,1)],bg:=[(1,{cQ:=[2],mg:=true,wT:=[3,4,5,6,7,8,9,10,11,12,13,14,15,16,17,18,19,20,21,22,23,24,25,26,27,28,29,30,31,32,33,34,35,36,37,38,39,40,41,42,43,44,45,46,47,48,49,50,51,52,53,54,55,56,57], })], }
def VA:bS:={aZ:=[1],aX:=[(1,1),(4,1),(9,1),(12,1),(16,1),(20,1),(26,1)], }
def VB:bS:={aZ:=[0],aX:=[(0,0)], }
def VC:bS:={bg:=[(3,{cQ:=[0,1,2,8,9,10],cj:=[(0,.k (.slice)),(1,.k (.int .i64)),(2,.k (.func)),(8,.k (.int .i64)),(9,.k (.int .i64))],cD:=[0]})], }
def VD:bS:={aZ:=[2],aX:=[(2,2),(5,2)], }
def VE:bS:={}
def VF:bS:={aZ:=[2,4],aX:=[(2,2),(6,2),(7,2),(8,2),(13,2),(4,4)],bg:=[(2,{cQ:=[17],mg:=true,wT:=[8,9,10,11,12,13,14,15,16], })], }
def VG:bS:={bg:=[(1,{cQ:=[2],mg:=true,wT:=[3,4,5,6,7,8], })], }
def VH:bS:={bg:=[(1,{cQ:=[0],kS:=[(2,.k (.int .i64)),(3,.k (.int .i64))], }),(3,{cj:=[(30,.k (.bool))],dl:=true,wT:=[16,17,18,19,20,21,22,23,24,25,26,27,28,29,30], }),(7,{dl:=true,wT:=[33,34,35,36,37,38], }),(13,{cj:=[(62,.k (.bool))],dl:=true,wT:=[51,52,53,54,55,56,57,58,59,60,61,62], })], }
def VI:bS:={aZ:=[5,7],aX:=[(5,5),(24,5),(25,5),(66,5),(7,7),(39,7)],bg:=[(4,{cj:=[(8,.k (.int .i64))],dl:=true,wT:=[8,34,35,36,37,38,39,40,41,42,43,44,45,46,47], }),(5,{cQ:=[53],mg:=true,wT:=[48,49,50,51,52], })], }
def VJ:bS:={bg:=[(2,{cQ:=[0,1,7,8],kS:=[(4,.k (.int .i64))],cD:=[0]})], }
def VK:bS:={bg:=[(3,{cQ:=[3,6,7,8],cj:=[(3,.k (.int .u32))],cD:=[0]}),(9,{cQ:=[3,6,7,8,16],cj:=[(3,.k (.int .u32)),(6,.k (.slice)),(7,.k (.int .i64)),(8,.k (.int .i64))],cD:=[2]})], }
def VL:bS:={}
def VM:bS:={}
def VN:bS:={}
def VO:bS:={aZ:=[2],aX:=[(2,2),(5,2)], }
def VP:bS:={bg:=[(1,{cj:=[(2,.k (.int .i64)),(3,.k (.bool))],dl:=true,wT:=[2,3,4,5,6,7,8,9,10,11,12,13,14,15,16,17], })], }
def VQ:bS:={aZ:=[7],aX:=[(7,7),(83,7)],bg:=[(1,{cj:=[(3,.k (.int .i64)),(4,.k (.bool))],dl:=true,wT:=[3,4,10,11,12,13,14,15,16,17,18,19,20,21,22,23,24], }),(9,{cj:=[(57,.k (.bool))],dl:=true,wT:=[42,43,44,45,46,47,48,49,50,51,52,53,54,55,56,57], }),(12,{cQ:=[0,3,5],cj:=[(0,.k (.ay)),(3,.k (.int .i64)),(5,.k (.int .i64))],kS:=[(2,.k (.int .i64))],cD:=[0]})], }
def VS:bS:={aZ:=[11,13],aX:=[(11,11),(13,13)],bg:=[(5,{cQ:=[26],mg:=true,wT:=[27,28,29,30,31,32,33,34,35,36], }),(11,{cQ:=[41],mg:=true,wT:=[42,43,44,45,46,47,48,49,50,51,52,53,54], }),(25,{dl:=true,wT:=[79,80,81,82,83,84,85,86,87,88,89,90,91,92], }),(27,{dl:=true,wT:=[93,94,95,96,97,98,99,100,101,102], })], }
def VT:bS:={}
def VU:bS:={bg:=[(6,{cQ:=[0,1,2,8,9,17,18,19],cj:=[(8,.k (.int .i64)),(9,.k (.bool))],cD:=[0]}),(10,{cQ:=[36],mg:=true,wT:=[23,24,25,26,27,28,29,30,31,32,33,34,35], }),(12,{cQ:=[49],mg:=true,wT:=[37,38,39,40,41,42,43,44,45,46,47,48], })], }
def VV:bS:={bg:=[(3,{cQ:=[1,5,11,12],cj:=[(5,.k (.slice))],cD:=[0]})], }
def VW:bS:={bg:=[(1,{cQ:=[19],mg:=true,wT:=[5,6,7,8,9,10,11,12,13,14,15,16,17,18], })], }
def VX:bS:={bg:=[(2,{dl:=true,wT:=[6,7,8,9,10,11,12,13,14,15,16,17], })], }
def VY:bS:={}
def VZ:bS:={bg:=[(1,{cQ:=[0,2,3],cD:=[0]})], }
def V0:bS:={bg:=[(2,{dl:=true,wT:=[11], }),(5,{cQ:=[26],mg:=true,wT:=[21,22,23,24,25], }),(6,{dl:=true,wT:=[27], }),(10,{cQ:=[7,8],cj:=[(7,.k (.slice))],cD:=[0]})], }
def V1:bS:={}
def V2:bS:={}
theorem ZS:XOk Tryz.prog 146 .overlaps:=⟨Tryz.f146,89,4,138,Tryz.func146,by kernel_rfl,by kernel_rfl,by kernel_rfl,by kernel_rfl,by kernel_rfl,by kernel_rfl⟩
def V3:List (Nat×XK):=[(146,.overlaps)]
theorem R1:∀g k,Am.ab V3 g=some k→XOk Tryz.prog g k:=by
 intro g k hg;simp only[V3,jF,nG] at hg;split at hg
 ·rename_i he;subst he;cases hg;exact ZS
 cases hg
def ab8:List (Nat×bS):=[(3,ab6),(9,ab7),(10,Yt),(11,Yu),(12,Yv),(13,Yw),(14,Yx),(15,Yy),(16,Yz),(17,YA),(18,YB),(19,YC),(20,YD),(21,YE),(22,YF),(23,YG),(24,YH),(25,YI),(26,YJ),(27,YK),(28,YL),(29,YM),(30,YN),(32,YO),(34,YP),(35,YQ),(36,YR),(37,YS),(38,YT),(39,YU),(40,YV),(41,YW),(42,YX),(43,YY),(44,YZ),(45,Y0),(46,Y1),(47,Y2),(48,Y3),(49,Y4),(50,Y5),(51,Y6),(52,Y7),(53,Y8),(54,Y9),(55,Za),(56,Zb),(58,Zc),(59,Zd),(60,Ze),(61,Zf),(62,Zg),(63,Zh),(64,Zi),(65,Zj),(66,Zk),(67,Zl),(68,Zm),(69,Zn),(70,Zo),(71,Zp),(72,Zq),(73,Zr),(74,Zs),(75,Zt),(76,Zu),(77,Zv),(78,Zw),(79,Zx),(80,Zy),(81,Zz),(82,ZA),(83,ZB),(84,ZC),(85,ZD),(86,ZE),(87,ZF),(88,ZG),(89,ZH),(90,ZI),(91,ZJ),(92,ZK),(93,ZL),(94,ZM),(95,ZN),(96,ZO),(97,ZP),(98,ZQ),(99,ZR),(100,UT),(101,UU),(102,UW),(103,UX),(104,UY),(105,UZ),(106,U8),(107,U9),(108,Va),(109,Vb),(110,Vc),(111,Vd),(112,Ve),(113,Vf),(114,Vg),(115,Vh),(116,Vi),(117,Vj),(118,Vk),(119,Vl),(120,Vm),(121,Vn),(122,Vo),(123,Vp),(124,Vq),(125,Vr),(126,Vs),(127,Vt),(128,Vu),(129,Vv),(130,Vx),(131,Vy),(132,Vz),(133,VA),(134,VB),(135,VC),(136,VD),(137,VE),(138,VF),(139,VG),(140,VH),(141,VI),(142,VJ),(143,VK),(144,VL),(145,VM),(147,VN),(148,VO),(149,VP),(150,VQ),(151,VS),(152,VT),(153,VU),(154,VV),(155,VW),(156,VX),(157,VY),(158,VZ),(159,V0),(160,V1),(162,V2)]
theorem ti_ok (t:Nat) (x:TI) (h:tab[t]? =some x):RD Tryz.prog t=some x:=by
 have h1:t<240:=by
  have h2:tab.length=240:=by kernel_rfl
  have:=(List.getElem?_eq_some_iff.1 h).1;omega
 have h3:=congrArg (fun l=>l[t]?) UL;simp only[List.getElem?_map,h,List.getElem?_range h1,map_some,some.injEq] at h3;exact h3
theorem eq_ok (t:Nat) (ks:List cA) (h:Am.ab eqs t=some ks):Lp Tryz.prog t ks=true:=by
 have key:∀l:List (TypeId×List cA),l.all (fun x=>Lp Tryz.prog x.1 x.2)=true→Am.ab l t=some ks→Lp Tryz.prog t ks=true:=by
  intro l
  induction l with
  |nil=>intro _ h;cases h
  |cons p l ih=>
   intro h1 h2;rw[all_cons,Bool.and_eq_true] at h1;simp only[Am.ab,aY] at h2;by_cases he:t=p.1
   ·simp only[he,decide_true,cond_true,some.injEq] at h2;rw[he, ←h2];exact h1.1
   ·simp only[he,decide_false,cond_false] at h2;exact ih h1.2 h2
 exact key _ US h
noncomputable def fns:List (Nat×Func):=[(3,Tryz.f3),(9,Tryz.f9),(10,Tryz.f10),(11,Tryz.f11),(12,Tryz.f12),(13,Tryz.f13),(14,Tryz.f14),(15,Tryz.f15),(16,Tryz.f16),(17,Tryz.f17),(18,Tryz.f18),(19,Tryz.f19),(20,Tryz.f20),(21,Tryz.f21),(22,Tryz.f22),(23,Tryz.f23),(24,Tryz.f24),(25,Tryz.f25),(26,Tryz.f26),(27,Tryz.f27),(28,Tryz.f28),(29,Tryz.f29),(30,Tryz.f30),(32,Tryz.f32),(34,Tryz.f34),(35,Tryz.f35),(36,Tryz.f36),(37,Tryz.f37),(38,Tryz.f38),(39,Tryz.f39),(40,Tryz.f40),(41,Tryz.f41),(42,Tryz.f42),(43,Tryz.f43),(44,Tryz.f44),(45,Tryz.f45),(46,Tryz.f46),(47,Tryz.f47),(48,Tryz.f48),(49,Tryz.f49),(50,Tryz.f50),(51,Tryz.f51),(52,Tryz.f52),(53,Tryz.f53),(54,Tryz.f54),(55,Tryz.f55),(56,Tryz.f56),(58,Tryz.f58),(59,Tryz.f59),(60,Tryz.f60),(61,Tryz.f61),(62,Tryz.f62),(63,Tryz.f63),(64,Tryz.f64),(65,Tryz.f65),(66,Tryz.f66),(67,Tryz.f67),(68,Tryz.f68),(69,Tryz.f69),(70,Tryz.f70),(71,Tryz.f71),(72,Tryz.f72),(73,Tryz.f73),(74,Tryz.f74),(75,Tryz.f75),(76,Tryz.f76),(77,Tryz.f77),(78,Tryz.f78),(79,Tryz.f79),(80,Tryz.f80),(81,Tryz.f81),(82,Tryz.f82),(83,Tryz.f83),(84,Tryz.f84),(85,Tryz.f85),(86,Tryz.f86),(87,Tryz.f87),(88,Tryz.f88),(89,Tryz.f89),(90,Tryz.f90),(91,Tryz.f91),(92,Tryz.f92),(93,Tryz.f93),(94,Tryz.f94),(95,Tryz.f95),(96,Tryz.f96),(97,Tryz.f97),(98,Tryz.f98),(99,Tryz.f99),(100,Tryz.f100),(101,Tryz.f101),(102,Tryz.f102),(103,Tryz.f103),(104,Tryz.f104),(105,Tryz.f105),(106,Tryz.f106),(107,Tryz.f107),(108,Tryz.f108),(109,Tryz.f109),(110,Tryz.f110),(111,Tryz.f111),(112,Tryz.f112),(113,Tryz.f113),(114,Tryz.f114),(115,Tryz.f115),(116,Tryz.f116),(117,Tryz.f117),(118,Tryz.f118),(119,Tryz.f119),(120,Tryz.f120),(121,Tryz.f121),(122,Tryz.f122),(123,Tryz.f123),(124,Tryz.f124),(125,Tryz.f125),(126,Tryz.f126),(127,Tryz.f127),(128,Tryz.f128),(129,Tryz.f129),(130,Tryz.f130),(131,Tryz.f131),(132,Tryz.f132),(133,Tryz.f133),(134,Tryz.f134),(135,Tryz.f135),(136,Tryz.f136),(137,Tryz.f137),(138,Tryz.f138),(139,Tryz.f139),(140,Tryz.f140),(141,Tryz.f141),(142,Tryz.f142),(143,Tryz.f143),(144,Tryz.f144),(145,Tryz.f145),(147,Tryz.f147),(148,Tryz.f148),(149,Tryz.f149),(150,Tryz.f150),(151,Tryz.f151),(152,Tryz.f152),(153,Tryz.f153),(154,Tryz.f154),(155,Tryz.f155),(156,Tryz.f156),(157,Tryz.f157),(158,Tryz.f158),(159,Tryz.f159),(160,Tryz.f160),(162,Tryz.f162)]
theorem V4:fns.map (fun x=>Tryz.prog.funcs[x.1]?)=fns.map (fun x=>some x.2):=by kernel_rfl
theorem fn_ok (f:Nat) (x:Func) (h:Am.ab fns f=some x):Tryz.prog.funcs[f]? =some x:=by
 have key:∀l:List (Nat×Func),l.map (fun x=>Tryz.prog.funcs[x.1]?)=l.map (fun x=>some x.2)→Am.ab l f=some x→Tryz.prog.funcs[f]? =some x:=by
  intro l
  induction l with
  |nil=>intro _ h;cases h
  |cons p l ih=>
   intro h1 h2;simp only[map_cons,List.cons.injEq] at h1;simp only[Am.ab,aY] at h2;by_cases he:f=p.1
   ·simp only[he,decide_true,cond_true,some.injEq] at h2;rw[he, ←h2];exact h1.1
   ·simp only[he,decide_false,cond_false] at h2;exact ih h1.2 h2
 exact key _ V4 h
noncomputable def cV:kG where
 P:=Tryz.prog
 ext:=Ih Tryz.prog V3
 fn:=fun f=>Am.ab fns f
 fn_ok:=fn_ok
 ti:=fun t=>tab[t]?
 ti_ok:=ti_ok
 ann:=fun f=>(Am.ab ab8 f).getD {}
 eqt:=eqs
 eq_ok:=eq_ok
 names:=zb
noncomputable def cl:=mA.call (qQ cV)
noncomputable def lo (f:FuncId) (n:Nat):=mA.loop (qQ cV) (N0 cV f n) f n
theorem qc {f:FuncId} {aS:List V} {H:Am.ai} {K:V→Am.ai→Prop} {Q:Prop} (h:((F cV (qQ cV)).call f aS H K)=Q:=by kernel_rfl):cl f aS H K=Q:=NG.trans h
theorem ql {f:FuncId} {n:Nat} {S:Am.St} {Kr:Am.St→Prop} {Ke:Nat→Am.St→Prop} {Q:Prop} (h:((F cV (qQ cV)).loop (N0 cV f n) f n S Kr Ke)=Q:=by kernel_rfl):lo f n S Kr Ke=Q:=NH.trans h
theorem ZT:Tryz.prog.follows .mixedOrders=true:=by kernel_rfl
theorem ZU:j9 cV:=LJ rfl R1
end Go.Proofs.YtlgdkndamddpkaaGreat
end
section
namespace Go.Am
def ai.ok (H:ai):Prop:=∀id o,H.get id=some o→id<H.next
theorem ai.vW (H:ai) (o:Obj):(H.alloc o).get H.next=some o:=by simp [ai.alloc]
theorem ai.fV {H:ai} {o:Obj} {id:Nat} (h:id≠H.next):(H.alloc o).get id=H.get id:=by simp [ai.alloc,h]
theorem ai.Jz (H:ai) (id:Nat) (o:Obj):(H.put id o).get id=some o:=by simp [ai.put]
theorem ai.lR {H:ai} {id j:Nat} {o:Obj} (h:j≠id):(H.put id o).get j=H.get j:=by simp [ai.put,h]
theorem ai.Ip (H:ai) (o:Obj):(H.alloc o).next=H.next+1:=rfl
theorem ai.N7 (H:ai) (id:Nat) (o:Obj):(H.put id o).next=H.next:=rfl
theorem ai.zr {H:ai} {id off:Nat} {vs:List V} {e:TypeId} {l:List V} {ro:Bool} (h:H.get id=some (.cells e l ro)):H.store id off vs=H.put id (.cells e (bH l off vs) ro):=by simp [ai.store,h]
theorem ai.ok.alloc {H:ai} (h:H.ok) (o:Obj):(H.alloc o).ok:=by
 intro id o' hg;rw[ai.Ip];by_cases he:id=H.next
 ·omega
 ·rw[ai.fV he] at hg;have:=h id o' hg;omega
theorem ai.ok.put {H:ai} (h:H.ok) {id:Nat} {o o':Obj} (hg:H.get id=some o):(H.put id o').ok:=by
 intro j o2 hj;rw[ai.N7];by_cases he:j=id
 ·subst he;exact h _ _ hg
 ·rw[ai.lR he] at hj;exact h _ _ hj
def Rd (H:ai) (q:Oq) (cs:List V):Prop:=
 cs=[]∨∃id off e l ro,q=some (id,off)∧H.get id=some (.cells e l ro)∧(l.drop off).take cs.length=cs
theorem Rd.nil (H:ai) (q:Oq):Rd H q []:=.inl rfl
theorem FP {l cs:List V} {off:Nat} (h:(l.drop off).take cs.length=cs) (h0:cs≠[]):off+cs.length≤l.length:=by
 have:=congrArg List.length h;simp at this;have:0<cs.length:=length_pos_iff.2 h0;omega
theorem FQ {l cs:List V} {off i k:Nat} (h:(l.drop off).take cs.length=cs) (hi:i+k≤cs.length):(l.drop (off+i)).take k=(cs.drop i).take k:=by
 rw[←h];rw[drop_take,take_take,drop_drop];congr 1;omega
section
variable {H:ai} {q:Oq} {cs:List V}
theorem Rd.some (h:Rd H q cs) (h0:cs≠[]):q.isSome=true:=by
 rcases h with h|⟨id,off,e,l,ro,rfl,_⟩
 ·exact absurd h h0
 ·rfl
theorem Rd.inb (h:Rd H q cs) {i k:Nat} (hi:i+k≤cs.length) (h0:cs≠[]):H.inb (q.getD (0,0)).1 ((q.getD (0,0)).2+i) k=true:=by
 rcases h with h|⟨id,off,e,l,ro,rfl,hg,ht⟩
 ·exact absurd h h0
 ·have:=FP ht h0;simp [ai.inb,hg];omega
theorem Rd.sub (h:Rd H q cs) {i k:Nat} (hi:i+k≤cs.length) (h0:cs≠[]):H.sub (q.getD (0,0)).1 ((q.getD (0,0)).2+i) k=(cs.drop i).take k:=by
 rcases h with h|⟨id,off,e,l,ro,rfl,hg,ht⟩
 ·exact absurd h h0
 ·simp only[ai.sub,ai.cs,getD_some,hg];exact FQ ht hi
theorem ll:∀(l:List V) (i:Nat),ae l i=l.getD i .none
 |[],i=>by simp [ae]
 |x::l,0=>rfl
 |x::l,i+1=>by rw[ae,ll l i];simp
theorem Rd.cell (h:Rd H q cs) {i:Nat} (hi:i<cs.length):H.cell (q.getD (0,0)).1 ((q.getD (0,0)).2+i)=ae cs i:=by
 rcases h with h|⟨id,off,e,l,ro,rfl,hg,ht⟩
 ·rw[h] at hi;cases hi
 ·simp only[ai.cell,ai.cs,getD_some,hg,ll];have:=congrArg (fun m=>m.getD i V.none) ht;simp only[getD_eq_getElem?_getD,List.getElem?_take,List.getElem?_drop,if_pos hi] at this⊢;exact this
theorem Rd.N8 (h:Rd H q cs) {k:Nat} (hi:k≤cs.length) (h0:cs≠[]):H.inb (q.getD (0,0)).1 (q.getD (0,0)).2 k=true:=by
 simpa using h.inb (i:=0) (k:=k) (by omega) h0
theorem Rd.ab9 (h:Rd H q cs) {k:Nat} (hi:k≤cs.length) (h0:cs≠[]):H.sub (q.getD (0,0)).1 (q.getD (0,0)).2 k=cs.take k:=by
 simpa using h.sub (i:=0) (k:=k) (by omega) h0
theorem Rd.all (h:Rd H q cs) (h0:cs≠[]):H.sub (q.getD (0,0)).1 (q.getD (0,0)).2 cs.length=cs:=by
 rw[h.ab9 (Nat.le_refl _) h0,take_length]
theorem Rd.part (h:Rd H q cs) {id off:Nat} (hq:q=Option.some (id,off)) (i k:Nat) (hi:i+k≤cs.length):Rd H (Option.some (id,off+i)) ((cs.drop i).take k):=by
 by_cases h0:(cs.drop i).take k=[]
 ·exact .inl h0
 ·rcases h with h|⟨id',off',e,l,ro,he,hg,ht⟩
  ·rw[h] at h0;simp at h0
  ·rw[hq] at he;cases he;refine .inr ⟨id,off+i,e,l,ro,rfl,hg, ?_⟩;have hl:((cs.drop i).take k).length=k:=by simp;omega
   rw[hl];exact FQ ht hi
structure Fr (H H':ai) (W:Nat→Prop):Prop where
 next:H.next≤H'.next
 xE:∀id,id<H.next→¬W id→H'.get id=H.get id
theorem Fr.alloc (H:ai) (o:Obj) (W:Nat→Prop):Fr H (H.alloc o) W:=
 ⟨Nat.le_succ _,fun id hid _=>ai.fV (by omega)⟩
theorem Fr.get {H H':ai} {W:Nat→Prop} (h:Fr H H' W) {id:Nat} {o:Obj} (hok:H.ok) (hg:H.get id=Option.some o) (hw:¬W id):H'.get id=Option.some o:=by
 rw[h.xE id (hok id o hg) hw,hg]
def TQ (q:Oq) (W:Nat→Prop):Prop:=∀id off,q=Option.some (id,off)→¬W id
theorem Rd.fr {H':ai} {W:Nat→Prop} (h:Rd H q cs) (hok:H.ok) (hf:Fr H H' W) (ha:TQ q W):Rd H' q cs:=by
 rcases h with h|⟨id,off,e,l,ro,rfl,hg,ht⟩
 ·exact .inl h
 ·exact .inr ⟨id,off,e,l,ro,rfl,hf.get hok hg (ha id off rfl),ht⟩
structure XQ (H:ai) (el n:Nat) (q:Oq) (len cap:Nat) (cs:List V):Prop where
 size:cs.length=len*n
 one:bn cs
 le:len≤cap
 mem:(q=none∧cap=0)∨∃id off l,q=Option.some (id,off)∧H.get id=Option.some (.cells el l false)∧off+cap*n≤l.length∧(l.drop off).take cs.length=cs
theorem XQ.rd {el n len cap:Nat} (h:XQ H el n q len cap cs):Rd H q cs:=by
 rcases h.mem with⟨rfl,hc⟩|⟨id,off,l,rfl,hg,_,ht⟩
 ·left;have:=h.le;have h1:len=0:=by omega
  have:=h.size;rw[h1,Nat.zero_mul] at this;exact length_eq_zero_iff.1 this
 ·exact .inr ⟨id,off,el,l,false,rfl,hg,ht⟩
theorem XQ.fr {H':ai} {W:Nat→Prop} {el n len cap:Nat} (h:XQ H el n q len cap cs) (hok:H.ok) (hf:Fr H H' W) (ha:TQ q W):XQ H' el n q len cap cs:=by
 refine⟨h.size,h.one,h.le, ?_⟩;rcases h.mem with hn|⟨id,off,l,rfl,hg,h1,ht⟩
 ·exact .inl hn
 ·exact .inr ⟨id,off,l,rfl,hf.get hok hg (ha id off rfl),h1,ht⟩
theorem JA:∀(l:List V) (j n:Nat) (v:V),yn l j n v=l.mapIdx fun i x=>if j+i=n then v else x
 |[],_,_,_=>rfl
 |x::l,j,n,v=>by
  rw[yn,JA l (j+1) n v,mapIdx_cons,nn,aY];congr 1
  ·by_cases h:j=n<;>simp [h]
  ·congr 1;funext i x;have:j+1+i=j+(i+1):=by omega
   rw[this]
theorem FR (l:List V) (n:Nat) (v:V):yn l 0 n v=l.set n v:=by
 rw[JA];apply ext_getElem?;intro i;simp only[List.getElem?_mapIdx,List.getElem?_set,Nat.zero_add];by_cases h:n=i
 ·subst h;by_cases hl:n<l.length
  ·simp [hl]
  ·simp [hl]
 ·have:¬i=n:=fun e=>h e.symm
  simp [h,this]
theorem fW:∀(vs l:List V) (off:Nat),off+vs.length≤l.length→bH l off vs=l.take off++(vs++l.drop (off+vs.length))
 |[],l,off,h=>by simp [bH]
 |v::vs,l,off,h=>by
  simp only[length_cons] at h;rw[bH,FR,fW vs _ (off+1) (by simp;omega)];apply ext_getElem?;intro i;simp only[List.getElem?_append,List.getElem?_take,List.getElem?_drop,List.getElem?_set,length_take,length_set,length_cons,cons_append,List.getElem?_cons]
  grind
theorem R3 {l cs src:List V} {off:Nat} (ht:(l.drop off).take cs.length=cs) (hl:off+cs.length+src.length≤l.length):((bH l (off+cs.length) src).drop off).take (cs++src).length=cs++src:=by
 rw[fW _ _ _ hl];have e:l.take (off+cs.length)=l.take off++cs:=by rw[take_add,ht]
 rw[e,append_assoc,drop_left' (by simp;omega), ←append_assoc,take_left' rfl]
theorem gM:∀(vs l:List V) (off:Nat),(bH l off vs).length=l.length
 |[],l,off=>rfl
 |v::vs,l,off=>by rw[bH,gM vs,FR,length_set]
theorem rm {l:List V} (h:bn l):vH l=true:=sR.2 h
def V5 (H:ai) (n:Nat) (x:V) (m:Nat) (src:List V):Prop:=
 src.length=m*n∧bn src∧((∃q c,x=.slice q m c∧Rd H q src)∨∃s,x=.cL s∧m=s.size∧n=1∧src=fc s)
theorem FT {n m:Nat} {x:V} {src:List V} (h:V5 H n x m src) (hn:0<n):∃ok cf,lF H n x=Option.some (m,ok,cf)∧ok m=true∧cf m=src:=by
 obtain⟨hl,h1,⟨q,c,rfl,hr⟩|⟨s,rfl,rfl,rfl,rfl⟩⟩:=h
 ·refine⟨_,_,rfl, ?_, ?_⟩
  ·by_cases h0:m=0
   ·subst h0;rfl
   ·have hne:src≠[]:=by
     intro e;rw[e] at hl;have:=Nat.mul_pos (Nat.pos_of_ne_zero h0) hn;simp at hl;omega
    simp only[pI,Bool.or_eq_true,Bool.and_eq_true];exact .inr ⟨hr.some hne,hr.N8 (by omega) hne,rm (by rw[←hl,hr.all hne];exact h1)⟩
  ·by_cases h0:m=0
   ·subst h0;simp at hl;subst hl;rfl
   ·have hz:Nat.beq m 0=false:=by simp [h0]
    have hne:src≠[]:=by
     intro e;rw[e] at hl;have:=Nat.mul_pos (Nat.pos_of_ne_zero h0) hn;simp at hl;omega
    simp only[hz,cond_false];rw[←hl,hr.all hne]
 ·refine⟨_,_,rfl,rfl, ?_⟩;exact take_of_length_le (by rw[hl];omega)
end
abbrev Hp:=Nat→Option Obj
abbrev cw:=Hp→Prop
def cP (id:Nat) (e:TypeId) (cs:List V):cw:=fun h=>h=fun j=>if j=id then some (.cells e cs false) else none
def lS (h1 h2 h:Hp):Prop:=∀i,(h1 i=none∧h i=h2 i)∨(h2 i=none∧h i=h1 i)
def zt:List cw→cw
 |[]=>fun h=>h=fun _=>none
 |A::L=>fun h=>∃h1 h2,lS h1 h2 h∧A h1∧zt L h2
def jo (A B:cw):cw:=fun h=>∃h1 h2,lS h1 h2 h∧A h1∧B h2
def emp:cw:=fun h=>h=fun _=>none
def DN (p:Prop):cw:=fun h=>p∧h=fun _=>none
def E2 {α:Type} (A:α→cw):cw:=fun h=>∃x,A x h
theorem lS.symm {a b c:Hp} (h:lS a b c):lS b a c:=fun i=>(h i).symm
theorem lS.empty (a:Hp):lS (fun _=>none) a a:=fun i=>.inl ⟨rfl,rfl⟩
theorem lS.swap {a b c bc abc:Hp} (h1:lS b c bc) (h2:lS a bc abc):∃ac,lS a c ac∧lS b ac abc:=by
 refine⟨fun i=>match a i with|some o=>some o|none=>c i,fun i=> ?_,fun i=> ?_⟩
 ·rcases h1 i with⟨e1,e2⟩|⟨e1,e2⟩<;>rcases h2 i with⟨e3,e4⟩|⟨e3,e4⟩
  ·simp [e3]
  ·rw[e2] at e3;right;refine⟨e3, ?_⟩;cases h:a i<;>simp [e3,h]
  ·simp [e3,e1]
  ·right;refine⟨e1, ?_⟩;cases h:a i<;>simp [e1,h]
 ·rcases h1 i with⟨e1,e2⟩|⟨e1,e2⟩<;>rcases h2 i with⟨e3,e4⟩|⟨e3,e4⟩
  ·left;simp [e1,e3,e4,e2]
  ·left;refine⟨e1, ?_⟩;rw[e2] at e3;cases h:a i<;>simp [e3,e4,h]
  ·right;simp [e1,e3,e4,e2]
  ·left;rw[e2] at e3;refine⟨e3, ?_⟩;cases h:a i<;>simp [e1,e4,h]
theorem lS.V6 {a b c:Hp} (h:lS a b c) {i:Nat} {o:Obj} (ha:a i=some o):c i=some o:=by
 rcases h i with⟨e,_⟩|⟨_,e⟩
 ·rw[ha] at e;cases e
 ·rw[e,ha]
theorem lS.V7 {a b c:Hp} (h:lS a b c) {i:Nat} {o:Obj} (hb:b i=some o):c i=some o:=h.symm.V6 hb
theorem LM {A B:cw} {L:List cw} {h:Hp} (hs:zt (A::B::L) h):zt (B::A::L) h:=by
 obtain⟨h1,h2,j1,a,h3,h4,j2,b,l⟩:=hs;obtain⟨ac,k1,k2⟩:=lS.swap j2 j1;exact⟨h3,ac,k2,b,h1,h4,k1,a,l⟩
theorem LO {A:cw} {L L':List cw} (hl:∀h,zt L h→zt L' h) {h:Hp} (hs:zt (A::L) h):zt (A::L') h:=by
 obtain⟨h1,h2,j1,a,l⟩:=hs;exact⟨h1,h2,j1,a,hl _ l⟩
theorem BM {L L':List cw} (hp:L.Perm L'):∀h,zt L h→zt L' h:=by
 induction hp with
 |nil=>exact fun h=>id
 |cons x _ ih=>exact fun h=>LO ih
 |swap x y l=>exact fun h=>LM
 |trans _ _ ih1 ih2=>exact fun h hs=>ih2 h (ih1 h hs)
def eO:List cw→Nat→cw
 |[],_=>emp
 |A::_,0=>A
 |_::L,n+1=>eO L n
def eJ:List cw→Nat→List cw
 |[],_=>[]
 |_::L,0=>L
 |A::L,n+1=>A::eJ L n
theorem rp:∀{L:List cw} {n:Nat},n<L.length→L.Perm (eO L n::eJ L n)
 |A::L,0,_=>.refl _
 |A::L,n+1,h=>((rp (Nat.lt_of_succ_lt_succ h)).cons A).trans (.swap ..)
structure aA (B H:ai) (L:List cw):Prop where
 ok:H.ok
 LP:B.next≤H.next
 ro:∀id o,B.get id=some o→H.get id=some o∧∃e cs,o=.cells e cs true
 ex:∃h,(∀id o,h id=some o→H.get id=some o)∧zt L h
variable {B H:ai} {L L':List cw} {A A':cw}
theorem aA.lT (h:aA B H L) (hp:L.Perm L'):aA B H L':=
 ⟨h.ok,h.LP,h.ro,let ⟨g,h1,h2⟩:=h.ex;⟨g,h1,BM hp _ h2⟩⟩
theorem aA.up (h:aA B H L) (n:Nat) (hn:Nat.blt n L.length=true:=by rfl):aA B H (eO L n::eJ L n):=
 h.lT (rp (Nat.le_of_ble_eq_true hn))
theorem aA.swap (h:aA B H (A::A'::L)):aA B H (A'::A::L):=h.lT (.swap ..)
theorem aA.imp (h:aA B H (A::L)) (hi:∀g,A g→A' g):aA B H (A'::L):=
 ⟨h.ok,h.LP,h.ro,let ⟨g,h1,h2,h3,h4,h5,h6⟩:=h.ex;⟨g,h1,h2,h3,h4,hi _ h5,h6⟩⟩
theorem aA.drop (h:aA B H (A::L)):aA B H L:=
 ⟨h.ok,h.LP,h.ro,let ⟨g,h1,h2,h3,h4,h5,h6⟩:=h.ex;⟨h3,fun id o ho=>h1 id o (h4.V7 ho),h6⟩⟩
theorem aA.DN {p:Prop} (h:aA B H (DN p::L)):p∧aA B H L:=
 let ⟨g,h1,h2,h3,h4,⟨h5,h7⟩,h6⟩:=h.ex
 ⟨h5,h.drop⟩
theorem aA.pure {p:Prop} (h:aA B H L) (hp:p):aA B H (Am.DN p::L):=
 ⟨h.ok,h.LP,h.ro,let ⟨g,h1,h2⟩:=h.ex;⟨g,h1,_,g,lS.empty g,⟨hp,rfl⟩,h2⟩⟩
theorem aA.Iq {α:Type} {A:α→cw} (h:aA B H (E2 A::L)):∃x,aA B H (A x::L):=
 let ⟨g,h1,h2,h3,h4,⟨x,h5⟩,h6⟩:=h.ex
 ⟨x,h.ok,h.LP,h.ro,g,h1,h2,h3,h4,h5,h6⟩
theorem aA.intro {α:Type} {A:α→cw} {x:α} (h:aA B H (A x::L)):aA B H (E2 A::L):=h.imp fun g hg=>⟨x,hg⟩
theorem aA.jo (h:aA B H (jo A A'::L)):aA B H (A::A'::L):=by
 obtain⟨g,h1,h2,h3,h4,⟨h5,h6,h7,h8,h9⟩,AR⟩:=h.ex;obtain⟨ac,k1,k2⟩:=lS.swap h7 (h4.symm);exact⟨h.ok,h.LP,h.ro,g,h1,h5,ac,k2,h8,h6,h3,k1.symm,h9,AR⟩
theorem aA.oM (h:aA B H (A::A'::L)):aA B H (Am.jo A A'::L):=by
 obtain⟨g,h1,h5,ac,k2,h8,h6,h3,k1,h9,AR⟩:=h.ex;obtain⟨x,k3,k4⟩:=lS.swap k1.symm k2;exact⟨h.ok,h.LP,h.ro,g,h1,x,h3,k4.symm,⟨h5,h6,k3,h8,h9⟩,AR⟩
theorem aA.TS (h:aA B H L):aA B H (Am.emp::L):=
 ⟨h.ok,h.LP,h.ro,let ⟨g,h1,h2⟩:=h.ex;⟨g,h1,_,g,lS.empty g,rfl,h2⟩⟩
theorem aA.get {id:Nat} {e:TypeId} {cs:List V} (h:aA B H (cP id e cs::L)):H.get id=some (.cells e cs false):=by
 obtain⟨g,h1,h2,h3,h4,h5,h6⟩:=h.ex;exact h1 _ _ (h4.V6 (by rw[h5];simp))
theorem aA.start (hB:B.ok) (hro:∀id o,B.get id=some o→∃e cs,o=.cells e cs true):aA B B []:=
 ⟨hB,Nat.le_refl _,fun id o h=>⟨h,hro id o h⟩,fun _=>none,(fun id o h=>by cases h),rfl⟩
theorem aA.alloc (h:aA B H L) (e:TypeId) (cs:List V):aA B (H.alloc (.cells e cs false)) (cP H.next e cs::L):=by
 obtain⟨g,h1,h2⟩:=h.ex;refine⟨h.ok.alloc _,Nat.le_succ_of_le h.LP,fun id o ho=> ?_,fun j=>if j=H.next then some (.cells e cs false) else g j,fun id o ho=> ?_,_,g,fun i=> ?_,rfl,h2⟩
 ·have:=h.ok id o (h.ro id o ho).1;exact⟨by rw[ai.fV (by omega)];exact(h.ro id o ho).1,(h.ro id o ho).2⟩
 ·by_cases hid:id=H.next
  ·subst hid;simp only[if_pos] at ho;rw[ai.vW,ho]
  ·simp only[if_neg hid] at ho;rw[ai.fV hid];exact h1 id o ho
 ·by_cases hid:i=H.next
  ·subst hid;right;refine⟨?_,by simp⟩
   cases hg:g H.next with
   |none=>rfl
   |some o=>have:=h.ok _ _ (h1 _ _ hg);omega
  ·left;simp [hid]
theorem aA.put {id:Nat} {e:TypeId} {cs cs':List V} (h:aA B H (cP id e cs::L)):aA B (H.put id (.cells e cs' false)) (cP id e cs'::L):=by
 have Xe:=h.get;obtain⟨g,h1,h2,h3,h4,h5,h6⟩:=h.ex;subst h5;refine⟨h.ok.put Xe,h.LP,fun j o ho=> ?_,fun j=>if j=id then some (.cells e cs' false) else h3 j,fun j o ho=> ?_,_,h3,fun i=> ?_,rfl,h6⟩
 ·have hj:=h.ro j o ho;refine⟨?_,hj.2⟩;by_cases he:j=id
  ·subst he;obtain⟨e',c',rfl⟩:=hj.2;rw[hj.1] at Xe;cases Xe
  ·rw[ai.lR he];exact hj.1
 ·by_cases hid:j=id
  ·subst hid;simp only[if_pos] at ho;rw[ai.Jz,ho]
  ·simp only[if_neg hid] at ho;rw[ai.lR hid];exact h1 j o (h4.V7 ho)
 ·by_cases hid:i=id
  ·subst hid;right;refine⟨?_,by simp⟩;rcases h4 i with⟨e1,_⟩|⟨e1,_⟩
   ·simp at e1
   ·exact e1
  ·left;simp [hid]
theorem aA.store {id off:Nat} {e:TypeId} {cs vs:List V} (h:aA B H (cP id e cs::L)):aA B (H.store id off vs) (cP id e (bH cs off vs)::L):=by
 rw[ai.zr h.get];exact h.put
theorem aA.rd (h:aA B H L) {q:Oq} {cs:List V} (hr:Rd B q cs):Rd H q cs:=by
 rcases hr with hr|⟨id,off,e,l,ro,rfl,hg,ht⟩
 ·exact .inl hr
 ·exact .inr ⟨id,off,e,l,ro,rfl,(h.ro _ _ hg).1,ht⟩
def DO (el n:Nat) (q:Oq) (len cap:Nat) (cs:List V):cw:=fun h=>
 cs.length=len*n∧bn cs∧len≤cap∧
   ((q=none∧cap=0∧h=fun _=>none)∨∃id off l,q=some (id,off)∧off+cap*n≤l.length∧(l.drop off).take cs.length=cs∧cP id el l h)
section
variable {el n len cap:Nat} {q:Oq} {cs:List V}
theorem aA.N9 (h:aA B H L) (el n:Nat):aA B H (DO el n none 0 0 []::L):=
 h.TS.imp fun g hg=>⟨by simp,fun v hv=>by simp at hv,Nat.le_refl _,.inl ⟨rfl,rfl,hg⟩⟩
theorem aA.LQ (h:aA B H (DO el n q len cap cs::L)):cs.length=len*n∧bn cs∧len≤cap∧((q=none∧cap=0∧aA B H L)∨∃id off l,q=some (id,off)∧off+cap*n≤l.length∧(l.drop off).take cs.length=cs∧aA B H (cP id el l::L)):=by
 obtain⟨g,h1,h2,h3,h4,⟨a,b,c,d⟩,h6⟩:=h.ex;refine⟨a,b,c, ?_⟩;rcases d with⟨d1,d2,d3⟩|⟨id,off,l,d1,d2,d3,d4⟩
 ·exact .inl ⟨d1,d2,h.drop⟩
 ·exact .inr ⟨id,off,l,d1,d2,d3,h.ok,h.LP,h.ro,g,h1,h2,h3,h4,d4,h6⟩
theorem aA.unbuf {id off:Nat} {l:List V} (h:aA B H (cP id el l::L)) (h1:cs.length=len*n) (h2:bn cs) (h3:len≤cap) (h4:off+cap*n≤l.length) (h5:(l.drop off).take cs.length=cs):aA B H (DO el n (some (id,off)) len cap cs::L):=
 h.imp fun g hg=>⟨h1,h2,h3,.inr ⟨id,off,l,rfl,h4,h5,hg⟩⟩
theorem aA.TT (h:aA B H (DO el n q len cap cs::L)):Rd H q cs:=by
 obtain⟨h1,h2,h3,⟨rfl,hc,_⟩|⟨id,off,l,rfl,h4,h5,h6⟩⟩:=h.LQ
 ·left;have:len=0:=by omega
  rw[this,Nat.zero_mul] at h1;exact length_eq_zero_iff.1 h1
 ·exact .inr ⟨id,off,el,l,false,rfl,h6.get,h5⟩
theorem aA.V8 (h:aA B H (DO el n q len cap cs::L)):XQ H el n q len cap cs:=by
 obtain⟨h1,h2,h3,⟨rfl,hc,_⟩|⟨id,off,l,rfl,h4,h5,h6⟩⟩:=h.LQ
 ·exact⟨h1,h2,h3,.inl ⟨rfl,hc⟩⟩
 ·exact⟨h1,h2,h3,.inr ⟨id,off,l,rfl,h6.get,h4,h5⟩⟩
theorem aA.DP (h:aA B H L) {c:Nat} {l:List V} (h1:cs.length=len*n) (h2:bn cs) (h3:len≤c) (h4:c*n≤l.length) (h5:l.take cs.length=cs):aA B (H.alloc (.cells el l false)) (DO el n (some (H.next,0)) len c cs::L):=
 (h.alloc el l).unbuf h1 h2 h3 (by omega) (by simpa using h5)
theorem aA.FU {E:kG} {t u el n cT:Nat} {z:List V} (h:aA B H (DO el n q len cap cs::L)) (he:fw E t=some (el,n,cT,z))
 (hz:bn z) (hzl:z.length=n) (hn:0<n) {m:Nat} {x:V} {src:List V} {ok:Nat→Bool} {cf:Nat→List V} (h1:mU H n cT z (bq E u) x=some (true,m,ok,cf)) (h2:ok m=true) (h3:cf m=src)
 (EU:src.length=m*n) (h1s:bn src) (ik:(len+m)*(cT+1)≤70368744177664) {K:Oq→Nat→Nat→ai→Prop}
 (hk:∀q' c' H',(q'=q∨∃i,q'=some (i,0))→aA B H' (DO el n q' (len+m) c' (cs++src)::L)→K q' (len+m) c' H'):aD E [t,u] [.slice q len cap,x] H K:=by
 have ho:=h.V8;simp only[aD,he,h1,h3,az];have hcs:=ho.size;by_cases hroom:len+m≤cap
 ·have hb:Nat.ble (len+m) cap=true:=by simpa using hroom
  rw[hb,ao];by_cases hm:m=0
  ·subst hm;have hs:src=[]:=by simp at EU;exact EU
   subst hs;simp only[Nat.beq,Bool.true_or,az,cond_true];exact hk _ _ _ (.inl rfl) (by simpa using h)
  ·have hb:Nat.beq m 0=false:=by simp [hm]
   obtain⟨_,CN,Uq,⟨rfl,hc,_⟩|⟨id,off,l,rfl,h4,h5,h6⟩⟩:=h.LQ
   ·omega
   ·have hle:(len+m)*n≤cap*n:=Nat.mul_le_mul_right _ hroom;rw[Nat.add_mul] at hle
    have hw:H.wr id (off+len*n) (m*n)=true:=by
     simp [ai.wr,h6.get];omega
    simp only[hb,Bool.false_or,isSome_some,Bool.true_and,h2,getD_some,hw,az,cond_false];refine hk _ _ _ (.inl rfl) (h6.store.unbuf ?_ ?_ hroom ?_ ?_)
    ·rw[length_append,hcs,EU,Nat.add_mul]
    ·exact ho.one.append h1s
    ·rw[gM];exact h4
    ·rw[←hcs];exact R3 h5 (by omega)
 ·have hb:Nat.ble (len+m) cap=false:=by simp;omega
  have Q3:Nat.ble ((len+m)*(cT+1)) 70368744177664=true:=by simpa using ik
  have hrow:pI H n q len=true:=by
   by_cases h0:len=0
   ·subst h0;rfl
   ·have hne:cs≠[]:=by
     intro e;have:=ho.size;rw[e] at this;have:=Nat.mul_pos (Nat.pos_of_ne_zero h0) hn;simp at*;omega
    simp only[pI,Bool.or_eq_true,Bool.and_eq_true];exact .inr ⟨ho.rd.some hne,ho.rd.N8 (by rw[ho.size];omega) hne,rm (by rw[←ho.size,ho.rd.all hne];exact ho.one)⟩
  have hold:(bif Nat.beq len 0 then [] else H.sub (q.getD (0,0)).1 (q.getD (0,0)).2 (len*n))=cs:=by
   by_cases h0:len=0
   ·subst h0;have:=ho.size;simp at this;subst this;rfl
   ·have hz:Nat.beq len 0=false:=by simp [h0]
    have hne:cs≠[]:=by
     intro e;have:=ho.size;rw[e] at this;have:=Nat.mul_pos (Nat.pos_of_ne_zero h0) hn;simp at*;omega
    simp only[hz,cond_false];rw[←ho.size,ho.rd.all hne]
  rw[hb,ah,hrow,h2,Q3,hold];simp only[Bool.and_self,az];intro c Hh Hi;have hd:aA B H L:=h.drop;refine hk _ _ _ (.inr ⟨_,rfl⟩) (hd.DP ?_ ?_ Hh ?_ ?_)
  ·rw[length_append,hcs,EU,Nat.add_mul]
  ·exact ho.one.append h1s
  ·have:(c-(len+m))*n+(len+m)*n=c*n:=by rw[←Nat.add_mul];congr 1;omega
   rw[Nat.add_mul] at this;simp only[yq,ef,length_append,gg,hzl,hcs,EU];omega
  ·simp only[yq];rw[←append_assoc,take_left' rfl]
theorem aA.zu {E:kG} {t u el n cT:Nat} {z:List V} (h:aA B H (DO el n q len cap cs::L)) (he:fw E t=some (el,n,cT,z))
 (hz:bn z) (hzl:z.length=n) (hn:0<n) {m:Nat} {x:V} {src:List V} {ok:Nat→Bool} {cf:Nat→List V} (h1:mU H n cT z (bq E u) x=some (true,m,ok,cf)) (h2:ok m=true) (h3:cf m=src)
 (EU:src.length=m*n) (h1s:bn src) (ik:(len+m)*(cT+1)≤70368744177664) {K:Oq→Nat→Nat→ai→Prop}
 (hk:∀q' c' H',aA B H' (DO el n q' (len+m) c' (cs++src)::L)→K q' (len+m) c' H'):aD E [t,u] [.slice q len cap,x] H K:=
 h.FU he hz hzl hn h1 h2 h3 EU h1s ik fun q' c' H' _=>hk q' c' H'
theorem zw {n cT:Nat} {z:List V} {k:Option cA} {x:V} (h:ir k=true):mU H n cT z k x=match lF H n x with|some (m,ok,cs)=>some (true,m,ok,cs)|none=>none:=by
 unfold mU;split
 ·cases h
 ·rw[h];rfl
theorem aA.append {E:kG} {t u el n cT:Nat} {z:List V} (h:aA B H (DO el n q len cap cs::L)) (he:fw E t=some (el,n,cT,z)) (hu:ir (bq E u)=true)
 (hz:bn z) (hzl:z.length=n) (hn:0<n) {m:Nat} {x:V} {src:List V} (hx:V5 H n x m src) (ik:(len+m)*(cT+1)≤70368744177664) {K:Oq→Nat→Nat→ai→Prop}
 (hk:∀q' c' H',aA B H' (DO el n q' (len+m) c' (cs++src)::L)→K q' (len+m) c' H'):aD E [t,u] [.slice q len cap,x] H K:=by
 obtain⟨ok,cf,h1,h2,h3⟩:=FT hx hn;exact h.zu he hz hzl hn (by rw[zw hu,h1]) h2 h3 hx.1 hx.2.1 ik hk
theorem aA.R4 {E:kG} {t u el n cT:Nat} {z:List V} (h:aA B H (DO el n q len cap cs::L)) (he:fw E t=some (el,n,cT,z)) (hu:bq E u=some (.int .i64))
 (hz:bn z) (hzl:z.length=n) (hn:0<n) {m:Int} (h0:0≤m) (ik:(len+m.toNat)*(cT+1)≤70368744177664) {K:Oq→Nat→Nat→ai→Prop}
 (hk:∀q' c' H',aA B H' (DO el n q' (len+m.toNat) c' (cs++ia m.toNat z)::L)→K q' (len+m.toNat) c' H'):aD E [t,u] [.slice q len cap,.int .i64 m] H K:=by
 have hb:m*(cT+1)≤70368744177664:=by
  have h1:m.toNat*(cT+1)≤(len+m.toNat)*(cT+1):=Nat.mul_le_mul_right _ (by omega);have h2:((m.toNat*(cT+1):Nat):Int)=m*(cT+1):=by rw[Int.natCast_mul,Int.toNat_of_nonneg h0];rfl
  omega
 refine h.zu (x:=.int .i64 m) (u:=u) (ok:=fun _=>true) (cf:=fun j=>ef j z) he hz hzl hn ?_ rfl rfl ?_ (gG hz _) ik hk
 ·rw[hu];show some (decide (0≤m)&&decide (m*(cT+1)≤70368744177664),_)=_
  rw[decide_eq_true h0,decide_eq_true hb];rfl
 ·show (ia _ z).length=_
  rw[gg,hzl]
end
def bu (bs:List UInt8):List V:=bs.map fun b=>.int .u8 b.toNat
def cM (bs:List UInt8):ByteArray:=⟨bs.toArray⟩
@[simp] theorem oN (bs:List UInt8):(bu bs).length=bs.length:=by simp [bu]
@[simp] theorem V9:bu []=[]:=rfl
@[simp] theorem jH (a b:List UInt8):bu (a++b)=bu a++bu b:=by simp [bu]
theorem mK (a:List UInt8) (n:Nat):(bu a).take n=bu (a.take n):=by simp [bu]
theorem qh (a:List UInt8) (n:Nat):(bu a).drop n=bu (a.drop n):=by simp [bu]
theorem jI (bs:List UInt8):bn (bu bs):=by
 intro v hv;simp only[bu,mem_map] at hv;obtain⟨b,_,rfl⟩:=hv;rfl
theorem zx:∀{bs:List UInt8} {i:Nat} (h:i<bs.length),ae (bu bs) i=.int .u8 (bs[i].toNat:Int)
 |b::bs,0,h=>rfl
 |b::bs,i+1,h=>by
  show ae (bu bs) i=_
  rw[zx (Nat.lt_of_succ_lt_succ h)];rfl
theorem zy:∀bs:List UInt8,HG (.int .u8) (bu bs)=true
 |[]=>rfl
 |b::bs=>by
  show (V.ax (.int .u8) (.int .u8 (b.toNat:Int))&&HG (.int .u8) (bu bs))=true
  rw[zy bs];rfl
theorem pd:∀(bs:List UInt8) (acc:ByteArray),dG (bu bs) acc=⟨acc.data++bs.toArray⟩
 |[],acc=>by simp [dG,bu]
 |b::bs,acc=>by
  show dG (bu bs) (acc.push (UInt8.ofNat (V.aa (.int .u8 (b.toNat:Int))).toNat))=_
  rw[pd bs];simp [ByteArray.push]
theorem Ir (bs:List UInt8):dG (bu bs) ByteArray.empty=cM bs:=by
 rw[pd];show (⟨#[]++bs.toArray⟩:ByteArray)=⟨bs.toArray⟩
 simp
theorem LR {a b:List UInt8}:cM a=cM b↔a=b:=by
 constructor
 ·intro h;have:=congrArg (fun s=>s.data.toList) h;simpa [cM] using this
 ·rintro rfl;rfl
theorem LS:cM []=ByteArray.empty:=rfl
def mu (H:ai) (q:Oq) (bs:List UInt8):Prop:=Rd H q (bu bs)
def ZV (el:Nat) (q:Oq) (cap:Nat) (bs:List UInt8):cw:=DO el 1 q bs.length cap (bu bs)
theorem aA.iJ {el cap:Nat} {q:Oq} {bs:List UInt8} (h:aA B H (ZV el q cap bs::L)):mu H q bs:=h.TT
theorem mu.src {q:Oq} {bs:List UInt8} (h:mu H q bs) (c:Nat):V5 H 1 (.slice q bs.length c) bs.length (bu bs):=
 ⟨by simp,jI bs,.inl ⟨q,c,rfl,h⟩⟩
theorem mu.part {q:Oq} {bs:List UInt8} (h:mu H q bs) (i k:Nat) (hi:i+k≤bs.length):mu H (bT q i) ((bs.drop i).take k):=by
 cases q with
 |none=>
  rcases h with h|⟨_,_,_,_,_,h,_⟩
  ·have:bs=[]:=by simpa [bu] using h
   subst this;left;simp
  ·cases h
 |some q=>
  have:=Rd.part h (q:=some q) (id:=q.1) (off:=q.2) rfl i k (by simpa using hi);unfold mu;rw[←mK, ←qh];exact this
theorem mu.nil (H:ai) (q:Oq):mu H q []:=.inl rfl
theorem mu.at {q:Oq} {bs:List UInt8} (h:mu H q bs) {i:Nat} (hi:i<bs.length):q.isSome=true∧H.inb (q.getD (0,0)).1 ((q.getD (0,0)).2+i) 1=true∧H.cell (q.getD (0,0)).1 ((q.getD (0,0)).2+i)=.int .u8 (bs[i].toNat:Int):=by
 have hne:bu bs≠[]:=by
  intro e;have:=congrArg List.length e;simp at this;subst this;simp at hi
 refine⟨Rd.some h hne,Rd.inb h (by simp;omega) hne, ?_⟩;rw[Rd.cell h (by simpa using hi),zx hi]
theorem mu.eY {q:Oq} {bs:List UInt8} (h:mu H q bs):eY H q bs.length=true:=by
 unfold Am.eY;by_cases h0:bs=[]
 ·subst h0;simp []
 ·have hne:bu bs≠[]:=by
   intro e;have:=congrArg List.length e;simp at this;exact h0 this
  have h4:=Rd.N8 h (k:=bs.length) (by simp) hne
  have h5:H.sub (q.getD (0,0)).1 (q.getD (0,0)).2 bs.length=bu bs:=by
   have:=Rd.all h hne;simpa using this
  rw[h4,h5,zy];simp
theorem mu.eZ {q:Oq} {bs:List UInt8} (h:mu H q bs):eZ H q bs.length=cM bs:=by
 unfold Am.eZ;by_cases h0:bs=[]
 ·subst h0;have e:Nat.beq ([]:List UInt8).length 0=true:=rfl;rw[e,Bool.or_true,cond_true,LS]
 ·have hne:bu bs≠[]:=by
   intro e;have:=congrArg List.length e;simp at this;exact h0 this
  have h1:=Rd.some h hne;have h2:q.isNone=false:=by cases q<;>simp_all
  have h3:Nat.beq bs.length 0=false:=by simp [h0]
  have h5:H.sub (q.getD (0,0)).1 (q.getD (0,0)).2 bs.length=bu bs:=by
   have:=Rd.all h hne;simpa using this
  rw[h2,h3,h5,Ir];rfl
theorem dN {id:Nat} {e:TypeId} {cs:List V} {ro:Bool} (hg:H.get id=some (.cells e cs ro)) (off n:Nat):H.inb id off n=Nat.ble (off+n) cs.length:=by simp only[ai.inb,hg]
theorem fE {id:Nat} {e:TypeId} {cs:List V} (hg:H.get id=some (.cells e cs false)) (off n:Nat):H.wr id off n=Nat.ble (off+n) cs.length:=by simp only[ai.wr,hg,Bool.not_false,Bool.true_and]
theorem ba {id:Nat} {e:TypeId} {cs:List V} {ro:Bool} (hg:H.get id=some (.cells e cs ro)) (off:Nat):H.cell id off=ae cs off:=by simp only[ai.cell,ai.cs,hg]
theorem k5 {id:Nat} {e:TypeId} {cs:List V} {ro:Bool} (hg:H.get id=some (.cells e cs ro)) (off n:Nat):H.sub id off n=(cs.drop off).take n:=by simp only[ai.sub,ai.cs,hg]
def lU (B:ai) (L:List cw) (q:Oq) (bs:List UInt8):Prop:=∀H,aA B H L→mu H q bs
theorem lU.nil (B:ai) (L:List cw) (q:Oq):lU B L q []:=fun H _=>mu.nil H q
theorem lU.part {q:Oq} {bs:List UInt8} (h:lU B L q bs) (i k:Nat) (hi:i+k≤bs.length):lU B L (bT q i) ((bs.drop i).take k):=fun H hs=>(h H hs).part i k hi
theorem lU.bK {q:Oq} {bs:List UInt8} (h:lU B L q bs) (A:cw):lU B (A::L) q bs:=fun H hs=>h H hs.drop
theorem lU.of {q:Oq} {bs:List UInt8} (h:mu B q bs):lU B L q bs:=fun H hs=>hs.rd h
theorem lU.byt {el cap:Nat} {q:Oq} {bs:List UInt8}:lU B (ZV el q cap bs::L) q bs:=fun H hs=>hs.iJ
@[simp] theorem gO (q:Oq):bT q 0=q:=by rcases q with _|⟨a,b⟩<;>rfl
@[simp] theorem Wa (q:Oq) (a b:Nat):bT (bT q a) b=bT q (a+b):=by rcases q with _|⟨x,y⟩<;>simp [bT,Nat.add_assoc]
theorem aP (c a b:Bool):aN c a b=if c=true then a else b:=by cases c<;>cases a<;>cases b<;>rfl
end Go.Am
end
