/- Part 2 of the texts behind the law UnitFlushes: what its row needs (an abstract machine, its equations, and what the program computes). -/
import Derived.Scope
import Derived.IntWalk
import Derived.Laws.Externs
import Derived.Test.YtlgdkndamddpkaaGreatProg
import Derived.KernelRfl
import Derived.Lib.Builder
import Derived.Lib.UnsafeStr
import Derived.Lib.Walk
import Derived.WalkKit
import Derived.Test.YtlgdkndamddpkaaGreatP1
set_option maxRecDepth 100000
set_option linter.unusedSimpArgs false
set_option linter.unusedVariables false
set_option linter.unusedSectionVars false
section
namespace Go.Am
section
variable {E:kv} {H0:ag} {ρ0:dB} {w0:World} {ann:bP} {N:Nat} {ρ lam:dB} {S:St} {a:Act} {w:World}
theorem yT {g:Value→ByteArray→Sem (ForInStep ByteArray)} (hg:∀n r,g (.int .u8 n) r=pure (.yield (r.push (UInt8.ofNat n.toNat)))):
 ∀(vs:List V) (us:List Value) (acc:ByteArray),eM ρ vs us→Hx (.int .u8) vs=true→
 (forIn us acc g:Sem ByteArray).run E.P w=.ok (dv vs acc) w
 |[],us,acc,h,_=>by rw[h.gr];simp [dv]
 |v::vs,us,acc,h,hk=>by
  obtain⟨u,m,rfl,h1,h2⟩:=h.df;rw[Hx,Bool.and_eq_true] at hk
  have hv:∃n,v=.int .u8 n:=by
   cases v<;>simp [V.av] at hk
   exact⟨_,by rw[hk.1]⟩
  obtain⟨n,rfl⟩:=hv;rw[h1.iw];have ih:=yT hg vs m (acc.push (UInt8.ofNat n.toNat)) h2 hk.2;simp only[List.forIn_cons,hg,Sem.run_bind,Sem.run_pure,Result.andThen_ok,dv,V.aa];exact ih
theorem HK {p:Nat×Nat} {c:Nat} {x:Value} (hx:VR ρ (.slice (some p) 0 c) x):(Conv.bytesToString x).run E.P w=.ok (.string .empty) w:=by
 obtain⟨id,off⟩:=p;rcases hx.ff with⟨b,_,rfl⟩|⟨_,_,a,rfl⟩
 ·simp [Conv.bytesToString,loadCells,loadCellsFrom]
 ·simp [Conv.bytesToString,loadCells,loadCellsFrom]
theorem FA {H:ag} (hr:HR ρ H w) {id off len c:Nat} {x:Value} (hx:VR ρ (.slice (some (id,off)) len c) x) (h:H.inb id off len=true) (hk:Hx (.int .u8) (H.sub id off len)=true):
 (Conv.bytesToString x).run E.P w=.ok (.string (dv (H.sub id off len) ByteArray.empty)) w:=by
 obtain⟨e,cs,ro,hg,hle,b,hb,cs',fz,hcell,hvs,_,_⟩:=yK hr h;rcases hx.ff with⟨b',hb',rfl⟩|⟨h0,_,a,rfl⟩;rotate_left
 ·subst h0;simp [Conv.bytesToString,loadCells,loadCellsFrom,ag.sub,dv]
 rw[hb] at hb';cases hb';have hsub:H.sub id off len=(cs.drop off).take len:=by simp [ag.sub,ag.cs,hg]
 have hlen:cs'.size=cs.length:=by have:=hvs.1;simp at this;omega
 have hrun:=run_loadCells_list (P:=E.P) w ⟨b,off,none⟩ ((cs'.toList.drop off).take len) (by
  intro j v hv;rw[gb,qP hcell];rw[List.getElem?_take] at hv;split at hv
  ·rw[List.getElem?_drop] at hv;simpa using hv
  ·cases hv)
 have hl:((cs'.toList.drop off).take len).length=len:=by simp;omega
 rw[hl] at hrun;simp only[Conv.bytesToString,Sem.run_bind,hrun,Result.andThen_ok, ←Array.forIn_toList];rw[yT (E:=E) (fun n r=>rfl) (H.sub id off len) ((cs'.toList.drop off).take len) ByteArray.empty (by rw[hsub];exact(hvs.drop off).take len) hk];rfl
theorem wW {o:Oper} {ev:Ev} {e:Operand→Value} (cX:pK ρ lam ev e) {H:ag} (hr:HR ρ H w) {d:fR T} (h:dC E o.op ev H=some d) (hq:d.rq=true):∃v,(execOp e o).run E.P w=.ok (.value v) w∧TR ρ lam (if d.c=true then d.x else d.y) v:=by
 obtain⟨dst,op,type,jl,after,guard⟩:=o
 cases op with
 |load t a=>
  simp only[dC] at h;split at h
  ·rename_i id off ha;obtain⟨b,hb,he⟩:=(cX.tv ha).vJ
   have key:∀n,H.inb id off n=true→∃cs e ro,H.get id=some (.cells e cs ro)∧fT ρ e cs (!ro) w.heap[b]? ∧off+n≤cs.length:=by
    intro n hn;obtain⟨e,cs,ro,hg,hle,b',hb',hc⟩:=yK hr hn;rw[hb] at hb';cases hb';exact⟨cs,e,ro,hg,hc,hle⟩
   split at h
   ·rename_i k hk;simp only[Option.some.injEq] at h;subst h;simp only[fR.one,Bool.and_eq_true] at hq;obtain⟨cs,el,ro,hg,hc,hle⟩:=key 1 hq.1;have hcell:H.cell id off=ae cs off:=by simp [ag.cell,ag.cs,hg]
    obtain⟨v',h1,h2⟩:=oB (E:=E) (t:=t) (off:=off) (r:=true) (v:=(H.cell id off).SU k) hc (by
     simp only[mN,hk,hcell,Option.some.injEq,Prod.mk.injEq,and_true];rw[hcell] at hq
     simp [hq.2];omega) rfl (fun cs' he=>by rw[V.sj hq.2] at he;have:=V.sk hq.2;rw[he] at this;cases this)
    exact⟨v',by simp [execOp,Instr.loadAt,he,Instr.sureAddr,h1],.v h2⟩
   ·rename_i hk;split at h
    ·rename_i ks n hks hn;simp only[Option.some.injEq] at h;subst h;simp only[fR.one,Bool.and_eq_true] at hq;obtain⟨cs,el,ro,hg,hc,hle⟩:=key n hq.1;have hsub:H.sub id off n=(cs.drop off).take n:=by simp [ag.sub,ag.cs,hg]
     obtain⟨v',h1,h2⟩:=oB (E:=E) (t:=t) (off:=off) (r:=true) (v:=.agg ((cs.drop off).take n)) hc (by
      simp only[mN,hk,hks,hn,Option.some.injEq,Prod.mk.injEq,and_true]
      simpa using hle) rfl (fun cs' he=>by cases he;exact .inr (gf (hsub▸hq.2)))
     refine⟨v',by simp [execOp,Instr.loadAt,he,Instr.sureAddr,h1],.v ?_⟩;rw[k5 hq.2 rfl,hsub];exact h2
    ·cases h
  ·cases h
 |convert s t x=>
  simp only[dC] at h;split at h
  ·rename_i ti p len c ni hk hx;obtain⟨ds,rI,hds⟩:=dG ni;obtain⟨dt,kX,hdt⟩:=bK hk;split at h
   ·rename_i el hs;rw[hs] at hds;cases ix hds;split at h
    ·rename_i hel;obtain⟨de,Sw,Ql⟩:=bK hel;simp only[Option.some.injEq] at h;subst h;cases dt<;>simp [bo,cM] at hdt
     cases de<;>simp [bo,cM] at Ql
     subst Ql;have hv:=cX.v hx;change fG H p len=true at hq
     show∃v,_∧TR ρ lam (T.v (V.cH (fH H p len))) v
     unfold fG at hq;unfold fH
     cases p with
     |none=>
      have he:=hv.lC;exact⟨.string .empty,by simp [execOp,convert,run_underlying rI,run_underlying kX,run_underlying Sw,he,Conv.bytesToString],.v (.cH _)⟩
     |some q=>
      obtain⟨id,off⟩:=q
      have Hq:∃a n c',e x=.slice a n c':=by
       rcases hv.ff with⟨b,_,he⟩|⟨_,_,a,he⟩
       ·exact⟨_,_,_,he⟩
       ·exact⟨_,_,_,he⟩
      obtain⟨a,n,c',he⟩:=Hq;by_cases h0:len=0
      ·subst h0;have hb:=HK (E:=E) (w:=w) hv;rw[he] at hb;exact⟨.string .empty,by simp [execOp,convert,run_underlying rI,run_underlying kX,run_underlying Sw,he,hb],.v (.cH _)⟩
      have hz:Nat.beq len 0=false:=by rw[aW];simp [h0]
      simp only[Option.isNone_some,Bool.false_or,hz,Option.getD_some,Bool.and_eq_true] at hq;have hb:=FA (E:=E) hr hv hq.1 hq.2;rw[he] at hb;simp only[Option.isNone_some,hz,Bool.or_self,cond_false,Option.getD_some];exact⟨_,by simp [execOp,convert,run_underlying rI,run_underlying kX,run_underlying Sw,he,hb],.v (.cH _)⟩
    ·cases h
   ·cases h
  ·cases h
 |lookup t x i c=>
  simp only[dC] at h;split at h
  ·rename_i ti r k n ni hx hi;obtain⟨ds,rI,hds⟩:=dG ni;split at h
   ·rename_i kt et hsh;rw[hsh] at hds;cases uk hds;split at h
    ·rename_i k' ei hk hei;split at h
     ·rename_i z hz;split at h
      ·rename_i b y hy;obtain⟨dk,WZ,hdk⟩:=bK hk;have Qm:dk=.int k':=by cases dk<;>simp_all [bo,cM]
       subst Qm
       have hq':py k k'=true∧eC H k r=true∧b=true:=by
        cases c<;>(simp only[Option.some.injEq] at h;subst h;simpa [fR.one] using hq)
       obtain⟨hkk,hok,hb⟩:=hq';have hkk:k=k':=by simpa using hkk
       subst hkk;obtain⟨z',EG,yd⟩:=Q2 hei hz ρ w;obtain⟨v',hv,hrun⟩:=Dw (E:=E) (n:=n) rI WZ EG yd hr (cX.v hx) hok c;have hyy:=lF hy hb;have hi':=(cX.v hi).iw
       cases c with
       |true=>
        simp only[Option.some.injEq] at h;subst h;simp only[if_true] at hrun;refine⟨.tuple #[v',.bool (lh H r n)],by simp [execOp,hi',hrun], ?_⟩;rw[hyy];exact .v (.gE (.cons hv (.cons (.bool _) (.nil ρ))))
       |false=>
        simp only[Option.some.injEq] at h;subst h;simp only[Bool.false_eq_true,if_false] at hrun;refine⟨v',by simp [execOp,hi',hrun], ?_⟩;rw[hyy];exact .v hv
      ·cases h
     ·cases h
    ·cases h
   ·cases h
  ·cases h
 |entry it=>
  simp only[dC] at h;split at h
  ·rename_i t id hit;split at h
   ·rename_i ti ni;split at h
    ·rename_i kt et hsh;split at h
     ·rename_i ra x rb y hx hy;simp only[Option.some.injEq] at h;subst h;simp only[fR.one,Bool.and_eq_true] at hq;obtain⟨b,hb,he⟩:=(cX.tv hit).Fh;obtain⟨k,v,hrun,hk,hv⟩:=Dy (E:=E) hr hb hq.1;refine⟨.tuple #[k,v],by simp [execOp,he,hrun], ?_⟩;rw[lF hx hq.2.1,lF hy hq.2.2];exact .v (.gE (.cons hk (.cons hv (.nil ρ))))
     ·cases h
    ·cases h
   ·cases h
  ·cases h
 |call c=>
  simp only[dC] at h;split at h
  ·rename_i t ts r EK hts hargs;split at h
   ·rename_i hk;obtain⟨dt,kX,hdt⟩:=bK hk;obtain⟨kt,et,rfl⟩:∃kt et,dt=.map kt et:=by cases dt<;>simp_all [bo,cM]
    simp only[Option.some.injEq] at h;subst h;have ha:eM ρ [.map r] (c.args.map e).toList:=by simpa using cX.vs hargs
    obtain⟨x',r1,xJ,hx',n5⟩:=ha.df;have xI:=n5.gr;subst xI
    have qF:c.args.map e= #[x']:=by
     apply Array.ext';rw[xJ]
    have MJ:c.argTypes[0]? =some t:=by
     rw[←Array.getElem?_toList,hts];rfl
    have hq:(r.isNone||H.isMap (r.getD 0))=true:=hq
    have hrun:(Builtin.len_ c.argTypes type (c.args.map e)).run E.P w=.ok (.int .i64 (yh H r)) w:=by
     rw[qF]
     cases r with
     |none=>
      cases hx';simp [Builtin.len_,MJ,run_underlying kX,yh,goInt]
     |some id=>
      have hg:=sK (by simpa using hq);obtain⟨b,hb,es',he,G5⟩:=hr.wR id _ hg
      cases hx' with
      |map hb'=>
       rw[hb] at hb';cases hb';have hl:=Fw G5;simp [Builtin.len_,MJ,run_underlying kX,gW (E:=E) he,yh,goInt,hl]
    refine⟨.int .i64 (yh H r), ?_,.v (.int _ _)⟩;simp only[execOp,resolve,EK,invoke,builtin,Sem.run_bind,Sem.run_pure,Result.andThen_ok,hrun]
   ·cases h
  ·cases h
 |_=>simp [dC] at h
theorem r6 {e:Operand→Value} {c:Call} {type:TypeId} {f:Operand} (hc:c.callee=.value f):resolve e c type=Deferred.ofValue (e f) (c.args.map e):=by
 simp [resolve,hc]
theorem yU {fn:Func} {f:Nat} (h:E.P.funcs[f]? =some fn):(fn.name == "runtime.NumGoroutine")=false:=by
 have h1:=List.all_eq_true.1 E.names fn (by
  rw[Array.mem_toList_iff]
  exact Array.mem_of_getElem? h)
 simpa using h1
theorem Nv {e:Operand→Value} {o:Oper} {c:Call} {f:Operand} {g:FuncId} {fi cap:Array Value} {fn:Func} (ho:o.op=.call c) (hc:c.callee=.value f) (he:e f=.func (.func g) fi cap) (hf:E.P.funcs[g]? =some fn) (hb:fn.body.isSome=true) (w:World):(execOp e o).run E.P w=.ok (.enter g (fi++c.args.map e++cap)) w:=by
 have hn:¬fn.name= "runtime.NumGoroutine" :=by simpa using yU hf
 have hb':¬fn.body=none:=by cases h:fn.body<;>simp_all
 simp [execOp,ho,r6 hc,he,Deferred.ofValue,invoke,callFunc,hf,hn,hb']
theorem uo {e:Operand→Value} {o:Oper} {c:Call} {f:Operand} {g:FuncId} {fi cap:Array Value} (ho:o.op=.call c) (hc:c.callee=.value f) (he:e f=.func (.func g) fi cap) (w:World):(execOp e o).run E.P w=(callFunc g (fi++c.args.map e++cap)).run E.P w:=by
 simp [execOp,ho,r6 hc,he,Deferred.ofValue,invoke]
theorem cA {P:Program} {o:Oper} {a:Act} {next:Act→World→Prop} {Q:Exit→Act→World→Prop} {w w':World} {v:Value} (h:(execOp a.eval o).run P w=.ok (.value v) w') (hn:next (a.put o.dst v) w'):o.wp P a w next Q:=by
 unfold Oper.wp;rw[h];exact hn
theorem vP {P:Program} {o:Oper} {a:Act} {next:Act→World→Prop} {Q:Exit→Act→World→Prop} {w w':World} (h:(execOp a.eval o).run P w=.ok .skip w') (hn:next (a.put o.dst undef) w'):o.wp P a w next Q:=by
 unfold Oper.wp;rw[h];exact hn
theorem gp (h:SR H0 ρ0 w0 ann N ρ lam S a w) {o:Oper} {r:Bool} {x:T} {H':ag} (ho:bX E o.op (cS S.tm) S.hp=some (r,x,H')) (hr:r=true):∃ρ' v w',(execOp a.eval o).run E.P w=.ok (.value v) w'∧SR H0 ρ0 w0 ann N ρ' lam {S with hp:=H'} a w'∧TR ρ' lam x v:=by
 have cX:=h.ev;obtain⟨dst,op,type,jl,after,guard⟩:=o
 cases op with
 |buildSlice t len parts=>
  simp only[bX] at ho;split at ho
  ·rename_i ti ps ni hps;obtain⟨ds,rI,hds⟩:=dG ni;split at ho
   ·rename_i el hsh;rw[hsh] at hds;cases ix hds;split at ho
    ·rename_i n ei hsz hei;split at ho
     ·rename_i z hz;obtain⟨z',EG,yd,hz3⟩:=vN (E:=E) hei hz ρ w
      cases hb:(Nat.beq z.cells.length n&&sw n&&Nat.ble (len*n) 16777216) with
      |false=>simp [hb] at ho
      |true=>
       simp only[hb,cond_true] at ho;simp only[Bool.and_eq_true] at hb;have hn:z.cells.length=n:=Nat.eq_of_beq_eq_true hb.1.1
       have hp:0<n:=by
        have:=hb.1.2
        cases n with
        |zero=>cases this
        |succ n=>omega
       have hle:len*n≤16777216:=Nat.le_of_ble_eq_true hb.2;split at ho
       ·rename_i r' cs hcs;simp only[Option.some.injEq,Prod.mk.injEq] at ho;obtain⟨rfl,rfl,rfl⟩:=ho;obtain⟨h1,h2⟩:=mU cX hps;have EH:(parts.map fun p=>(p.1,a.eval p.2)).toList=parts.toList.map fun p=>(p.1,a.eval p.2):=by simp
        obtain⟨zc,MG⟩:∃zc:Array Value,zc=if len*n=0 then #[] else z'.cells:=⟨_,rfl⟩
        have hrow:eM ρ (hT len z.cells) ((Array.range (len*n)).map (zc[· % zc.size]!)).toList:=by
         by_cases h0:len*n=0
         ·have hl:len=0:=by
           rcases Nat.mul_eq_zero.1 h0 with h|h
           ·exact h
           ·omega
          subst hl;simpa [hT] using eM.nil ρ
         ·rw[if_neg h0] at MG;rw[MG];exact Fv yd hn hp
        obtain⟨out',h3,h4,h5⟩:=oA (E:=E) (place':=fun j=>some (j*n,n)) (by
         intro i off t m AR hm;simp only[Option.some.injEq,Prod.mk.injEq] at AR⊢;obtain⟨h1,rfl⟩:=AR;rw[hsz] at hm
         exact⟨h1,Option.some.inj hm⟩) h1 h2 hrow (gF hz3 len) hcs hr
        rw[←EH] at h3;have Qn:iy (.cells out' el) w {w with heap:=w.heap.push (.cells out' el)}:=⟨rfl,rfl,rfl,rfl⟩
        refine⟨_,.slice (some ⟨w.heap.size,0,none⟩) len len,{w with heap:=w.heap.push (.cells out' el)}, ?_,h.Dp Qn (x:=.cells el cs false) (iE h4 h5),
         .v (.slice _ _ (by rw[ey,if_pos rfl]))⟩
        have ig:¬len*n>2 ^ 24:=by omega
        by_cases h0:len*n=0
        ·rw[if_pos h0] at MG;subst MG;simp only[execOp,Instr.buildSlice,Sem.run_bind,run_underlying rI,Result.andThen_ok,fh hsz,if_neg ig,if_pos h0,h3,Sem.run_pure,newRow,newObj];rfl
        ·rw[if_neg h0] at MG;subst MG;simp only[execOp,Instr.buildSlice,Sem.run_bind,run_underlying rI,Result.andThen_ok,fh hsz,if_neg ig,if_neg h0,EG,h3,Sem.run_pure,newRow,newObj];rfl
       ·cases ho
     ·cases ho
    ·cases ho
   ·cases ho
  ·cases ho
 |makeSlice t len cap=>
  simp only[bX] at ho;split at ho
  ·rename_i el n cL z k l k' c hel hl hc
   simp only[Option.some.injEq,Prod.mk.injEq] at ho;obtain⟨rfl,rfl,rfl⟩:=ho;simp only[Bool.and_eq_true,decide_eq_true_eq] at hr;obtain⟨dh,z',kX,hi,hz,hsz,hby,hzl,hpos,hzs,Sy,Qf⟩:=qQ hel;have e1:=(cX.v hl).iw;have e2:=(cX.v hc).iw;have hrun:=A9 (E:=E) (w:=w) (t:=t) (cL:=0) (n:=0) (z:=[]) kX hi hz (by omega) (by omega) (k:=k) (k':=k') hr.1 hr.2.1 (by rw[hby];exact hr.2.2);have hp:iy (.cells (Builtin.zeroCells z'.cells c.toNat) el) w (w.alloc (.cells (Builtin.zeroCells z'.cells c.toNat) el)):=⟨rfl,rfl,rfl,rfl⟩
   exact⟨_,.slice (some ⟨w.heap.size,0,none⟩) l.toNat c.toNat,w.alloc (.cells (Builtin.zeroCells z'.cells c.toNat) el),by simp [execOp,e1,e2,hrun],h.Dp hp (x:=.cells el (hT c.toNat z) false) (iE (mw (Qf ρ) hzl hpos _) (gF Sy _)),
    .v (.slice _ _ (by rw[ey,if_pos rfl]))⟩
  ·cases ho
 |convert s d x=>
  simp only[bX] at ho;split at ho
  ·rename_i p len cap ti hk hx ni;obtain⟨ds,rI,hds⟩:=bK hk;obtain⟨dd,hud,Qo⟩:=dG ni;split at ho
   ·rename_i e hsh;rw[hsh] at Qo;cases ix Qo;split at ho
    ·rename_i hel;obtain⟨de,Sw,Ql⟩:=bK hel;simp only[Option.some.injEq,Prod.mk.injEq] at ho;obtain⟨rfl,rfl,rfl⟩:=ho;simp only[Bool.and_eq_true] at hr;obtain⟨Tz,hp,hcap,EI⟩:=hr;have Tz:s=d:=Nat.eq_of_beq_eq_true Tz;subst Tz;cases de<;>simp [bo,cM] at Ql
     subst Ql
     cases p with
     |none=>cases hp
     |some q=>
      obtain⟨id,off⟩:=q;obtain⟨e',cs,b,hg,hle,hb,hc⟩:=Dv h.hr EI;have hv:=cX.v hx;rcases hv.ff with⟨b',hb',he⟩|⟨h0,h1,ad,he⟩
      ·simp only[Option.getD_some] at hb;rw[hb] at hb';cases hb';obtain⟨w',g1,g2,g3⟩:=yO (E:=E) (off:=off) hc;have hs:=h.Dq hg rfl rfl hb g3 (y:=.cells e' cs false) g2;rw[uj hg] at hs;exact⟨ρ,_,w',by simp [execOp,convert,run_underlying hud,run_underlying Sw,he,g1],hs,.v (.slice _ _ hb)⟩
      ·rw[h1] at hcap;cases hcap
    ·cases ho
   ·cases ho
  ·cases ho
 |call c=>
  simp only[bX] at ho;split at ho
  ·rename_i t ts p l cp x EK hts hargs;split at ho
   ·rename_i el n cL z hel
    split at ho
    ·rename_i m ok cs hsrc;simp only[Option.some.injEq,Prod.mk.injEq,kx,kz,hsrc] at ho;obtain⟨rfl,rfl,rfl⟩:=ho;have ha:eM ρ [.slice p l cp,x] (c.args.map a.eval).toList:=by simpa using cX.vs hargs
     obtain⟨s',r1,xJ,hs',n5⟩:=ha.df;obtain⟨x',r2,xI,hx',tF⟩:=n5.df;have Qg:=tF.gr;subst Qg;subst xI
     have qF:c.args.map a.eval= #[s',x']:=by
      apply Array.ext';rw[xJ]
     have MJ:c.argTypes[0]? =some t:=by
      rw[←Array.getElem?_toList,hts];rfl
     obtain⟨dh,z',kX,hi,hz,hsz,hby,hzl,hpos,hzs,Sy,Qf⟩:=qQ hel;subst hsz;obtain⟨hlen,tE⟩:=vO (E:=E) h.hr hx' hsrc
     obtain⟨xs,h1,h2,h3,h4⟩:=tE (Nat.min m l) (Nat.min_le_left _ _) (by
      by_cases h0:Nat.min m l=0
      ·exact .inl h0
      ·rw[aW] at hr;simp [h0] at hr
       exact .inr hr.2.1)
     have Hq:∃aV,s'=.slice aV l cp∧∀w',(match aV with|some ad=>storeCells ad xs.toList|none=>pure ()).run E.P w=.ok () w'→
      (Builtin.copy_ c.argTypes type (c.args.map a.eval)).run E.P w=.ok (.int .i64 ((Nat.min m l:Nat):Int)) w':=by
      have Hq:∃aV,s'=.slice aV l cp:=by
       cases p with
       |none=>exact⟨_,hs'.lC⟩
       |some q=>
        obtain⟨id,off⟩:=q;rcases hs'.ff with⟨b,hb,he⟩|⟨h0,h1,ad,he⟩
        ·exact⟨_,he⟩
        ·exact⟨_,by rw[he,h0,h1]⟩
      obtain⟨aV,rfl⟩:=Hq;refine⟨aV,rfl,fun w' hw=> ?_⟩;rw[qF]
      cases aV with
      |none=>
       simp at hw;subst hw;simp [Builtin.copy_,MJ,run_underlying kX,hlen,sizeOf,typeInfo,hi,h1,goInt]
      |some ad=>simp [Builtin.copy_,MJ,run_underlying kX,hlen,sizeOf,typeInfo,hi,h1,hw,goInt]
     obtain⟨aV,rfl,TA⟩:=Hq;by_cases h0:Nat.min m l=0
     ·have hxs:xs= #[]:=by
       have:=h2.1;rw[h4,h0] at this;apply Array.eq_empty_of_size_eq_zero;simpa using this.symm
      subst hxs;have hc:=TA w (by cases aV<;>simp [pM]);rw[aW,decide_eq_true h0,cond_true];exact⟨ρ,.int .i64 (Nat.min m l:Nat),w,by simp only[execOp,resolve,EK,invoke,builtin,Sem.run_bind,Sem.run_pure,Result.andThen_ok,hc],h,.v (.int _ _)⟩
     ·rw[aW,decide_eq_false h0] at hr;rw[aW,decide_eq_false h0,cond_false];simp only[Bool.false_or,Bool.and_eq_true] at hr;obtain⟨hp,hok,EI⟩:=hr
      cases p with
      |none=>cases hp
      |some q=>
       obtain⟨id,off⟩:=q;simp only[Option.getD_some] at EI⊢;obtain⟨e,ccs,b,hg,hle,hb,hc⟩:=Dv h.hr EI;rcases hs'.ff with⟨b',hb',he⟩|⟨W0,_,_⟩
       ·rw[hb] at hb';cases hb';cases he;obtain⟨w',g1,g2,g3⟩:=mv (E:=E) (off:=off) hc h2 h3 (by rw[h4];exact hle);have hst:S.hp.store id off (cs (Nat.min m l))=S.hp.put id (.cells e (bM ccs off (cs (Nat.min m l))) false):=by simp [ag.store,hg]
        rw[hst];have hc:=TA w' g1;exact⟨ρ,.int .i64 (Nat.min m l:Nat),w',by simp only[execOp,resolve,EK,invoke,builtin,Sem.run_bind,Sem.run_pure,Result.andThen_ok,hc],h.Dq hg rfl rfl hb g3 g2,.v (.int _ _)⟩
       ·exact absurd (by rw[W0];exact Nat.min_zero m) h0
    ·cases ho
   ·cases ho
  ·rename_i t ts r k n EK hts hargs;split at ho
   ·rename_i ti ni;obtain⟨ds,rI,hds⟩:=dG ni;split at ho
    ·rename_i kt et hsh;rw[hsh] at hds;cases uk hds;split at ho
     ·rename_i k' hk;obtain⟨dk,WZ,hdk⟩:=bK hk;have Qm:dk=.int k':=by cases dk<;>simp_all [bo,cM]
      subst Qm;simp only[Option.some.injEq,Prod.mk.injEq] at ho;obtain⟨rfl,rfl,rfl⟩:=ho;simp only[Bool.and_eq_true,nk,decide_eq_true_eq] at hr;obtain⟨hkk,hok⟩:=hr;subst hkk;have ha:eM ρ [.map r,.int k n] (c.args.map a.eval).toList:=by simpa using cX.vs hargs
      obtain⟨x',r1,xJ,hx',n5⟩:=ha.df;obtain⟨y',r2,xI,hy',tF⟩:=n5.df;have Qg:=tF.gr;subst Qg;subst xI;have hy:=hy'.iw;subst hy
      have qF:c.args.map a.eval= #[x',.int k n]:=by
       apply Array.ext';rw[xJ]
      have MJ:c.argTypes[0]? =some t:=by
       rw[←Array.getElem?_toList,hts];rfl
      cases r with
      |none=>
       cases hx'
       have hrun:(Builtin.delete_ c.argTypes type (c.args.map a.eval)).run E.P w=.ok (.tuple #[]) w:=by
        rw[qF];simp [Builtin.delete_,MJ,run_underlying rI,fj (E:=E) WZ]
       refine⟨ρ,.tuple #[],w, ?_,h,.v (.tuple rfl (fun i x y hx=>by simp at hx))⟩;simp only[execOp,resolve,EK,invoke,builtin,Sem.run_bind,Sem.run_pure,Result.andThen_ok,hrun]
      |some id=>
       obtain⟨b,w',o',hb,hrun,Qp,hg,EJ,hrw,Qq⟩:=Dx (E:=E) (ty:=type) (n:=n) (u:=0) rI WZ h.hr hx' hok MJ;rw[EJ];refine⟨ρ,.tuple #[],w', ?_,h.Dq hg rfl hrw hb Qp Qq,.v (.tuple rfl (fun i x y hx=>by simp at hx))⟩;rw[←qF] at hrun;simp only[execOp,resolve,EK,invoke,builtin,Sem.run_bind,Sem.run_pure,Result.andThen_ok,hrun]
     ·cases ho
    ·cases ho
   ·cases ho
  ·rename_i t ts p l cp EK hts hargs;split at ho
   ·rename_i el n cL z hel
    simp only[Option.some.injEq,Prod.mk.injEq] at ho;obtain⟨rfl,rfl,rfl⟩:=ho;have ha:eM ρ [.slice p l cp] (c.args.map a.eval).toList:=by simpa using cX.vs hargs
    obtain⟨s',r1,xJ,hs',n5⟩:=ha.df;have Qg:=n5.gr;subst Qg
    have qF:c.args.map a.eval= #[s']:=by
     apply Array.ext';rw[xJ]
    have MJ:c.argTypes[0]? =some t:=by
     rw[←Array.getElem?_toList,hts];rfl
    obtain⟨dh,z',kX,hi,hz,hsz,hby,hzl,hpos,hzs,Sy,Qf⟩:=qQ hel;subst hsz
    have key:∀w',(Builtin.clear_ c.argTypes type #[s']).run E.P w=.ok (.tuple #[]) w'→
     (execOp a.eval ⟨dst,.call c,type,jl,after,guard⟩).run E.P w=.ok (.value (.tuple #[])) w':=by
     intro w' hw;simp only[execOp,resolve,EK,invoke,builtin,Sem.run_bind,Sem.run_pure,Result.andThen_ok,qF,hw]
    have nop:(p.isNone||Nat.beq l 0)=true→∃ρ' v w',(execOp a.eval ⟨dst,.call c,type,jl,after,guard⟩).run E.P w=.ok (.value v) w'∧
     SR H0 ρ0 w0 ann N ρ' lam {S with hp:=S.hp} a w'∧TR ρ' lam (.v (.tuple [])) v:=by
     intro hn;refine⟨ρ,_,w,key w ?_,h,.v (.tuple rfl (fun i x y hx=>by simp at hx))⟩
     cases p with
     |none=>rw[hs'.lC];simp [Builtin.clear_,MJ,run_underlying kX]
     |some q=>
      have W0:l=0:=Nat.eq_of_beq_eq_true (by simpa using hn);subst W0;obtain⟨id,off⟩:=q;rcases hs'.ff with⟨b,hb,he⟩|⟨_,_,ad,he⟩
      ·rw[he];simp [Builtin.clear_,MJ,run_underlying kX]
      ·rw[he];simp [Builtin.clear_,MJ,run_underlying kX]
    cases hn:(p.isNone||Nat.beq l 0) with
    |true=>simpa using nop hn
    |false=>
     rw[hn] at hr;simp only[Bool.false_or] at hr;simp only[cond_false]
     cases p with
     |none=>cases hn
     |some q=>
      obtain⟨id,off⟩:=q;simp only[Option.getD_some] at hr⊢
      have W0:l≠0:=by
       rintro rfl;cases hn
      obtain⟨e,ccs,b,hg,hle,hb,hc⟩:=Dv h.hr hr;rcases hs'.ff with⟨b',hb',he⟩|⟨acB,_,_⟩
      ·rw[hb] at hb';cases hb';cases he;obtain⟨w',g1,g2,g3⟩:=mv (E:=E) (off:=off) hc (mw (Qf ρ) hzl hpos l) (gF Sy l) (by rw[gg,hzl];exact hle);have hst:S.hp.store id off (dU l z)=S.hp.put id (.cells e (bM ccs off (dU l z)) false):=by simp [ag.store,hg]
       rw[hst];refine⟨ρ,_,w',key w' ?_,h.Dq hg rfl rfl hb g3 g2,.v (.tuple rfl (fun i x y hx=>by simp at hx))⟩
       cases l with
       |zero=>exact absurd rfl W0
       |succ l=>simp [Builtin.clear_,MJ,run_underlying kX,zeroValue,typeInfo,hi,hz,g1]
      ·exact absurd acB W0
   ·cases ho
  ·cases ho
 |makeMap t tf=>
  cases tf with
  |some x=>simp [bX] at ho
  |none=>
   simp only[bX] at ho;split at ho
   ·simp only[Option.some.injEq,Prod.mk.injEq] at ho;obtain⟨rfl,rfl,rfl⟩:=ho
    exact⟨_,.map (some w.heap.size),{w with heap:=w.heap.push (.map #[] 0)},by simp [execOp,Instr.makeMap,newObj,Sem.run],h.Dp (o:=.map #[] 0) ⟨rfl,rfl,rfl,rfl⟩ (x:=.map [] 0) ⟨#[],rfl,trivial⟩,
     .v (.map (by rw[ey,if_pos rfl]))⟩
   ·cases ho
 |range t x=>
  simp only[bX] at ho;split at ho
  ·rename_i ti r ni hx;obtain⟨ds,rI,hds⟩:=dG ni;split at ho
   ·rename_i kt et hsh;rw[hsh] at hds;cases uk hds;simp only[Option.some.injEq,Prod.mk.injEq] at ho;obtain⟨rfl,rfl,rfl⟩:=ho;have hx':=cX.v hx
    cases r with
    |none=>
     have hx0:a.eval x=.map none:=by
      revert hx';generalize a.eval x=x';intro hx';cases hx';rfl
     exact⟨_,.pointer (some ⟨w.heap.size,0,none⟩),{w with heap:=w.heap.push (.mapIter none 0 #[] 0)},by
      simp [execOp,Instr.range,run_underlying rI,newObj,Sem.run,hx0],
      h.Dp (o:=.mapIter none 0 #[] 0) ⟨rfl,rfl,rfl,rfl⟩ (x:=.dM none 0 [] 0) ⟨none,rfl,.yz⟩,.v (.dM t (by rw[ey,if_pos rfl]))⟩
    |some id=>
     have hg:=sK (by simpa using hr);obtain⟨b,hb,es',he,G5⟩:=h.hr.wR id _ hg
     have hxe:a.eval x=.map (some b):=by
      revert hx';generalize a.eval x=x';intro hx'
      cases hx' with
      |map hb'=>rw[hb] at hb';cases hb';rfl
     refine⟨_,.pointer (some ⟨w.heap.size,0,none⟩),{w with heap:=w.heap.push (.mapIter (some b) (S.hp.clock id) #[] (S.hp.clock id))}, ?_,
      h.Dp (o:=.mapIter (some b) (S.hp.clock id) #[] (S.hp.clock id)) ⟨rfl,rfl,rfl,rfl⟩ (x:=.dM (some id) (S.hp.clock id) [] (S.hp.clock id)) ⟨some b,rfl,.map hb⟩,.v (.dM t (by rw[ey,if_pos rfl]))⟩
     simp [execOp,Instr.range,run_underlying rI,hxe,gW (E:=E) he,newObj,Sem.run]
   ·cases ho
  ·cases ho
 |_=>simp [bX] at ho
theorem Dz {R:mn} (hX:jW E) (hR:∀f args H K,R.call f args H K→iD E f args H K) (hB:∀f args H K,R.call f args H K→∃fn,E.P.funcs[f]? =some fn∧fn.body.isSome=true) (h:SR H0 ρ0 w0 ann N ρ lam S a w) {o:Oper} {K:T→ag→Prop} (ho:bJ E R o.op o.type (cS S.tm) S.hp K) {next:Act→World→Prop} {Q:Exit→Act→World→Prop} (hn:∀x H' ρ' v w',K x H'→SR H0 ρ0 w0 ann N ρ' lam {S with hp:=H'} a w'→TR ρ' lam x v→next (a.put o.dst v) w'):o.wp E.P a w next Q:=by
 have cX:=h.ev;obtain⟨dst,op,type,jl,after,guard⟩:=o
 cases op with
 |alloc t=>
  simp only[bJ] at ho;split at ho
  ·rename_i i hi;split at ho
   ·rename_i z hz;obtain⟨z',h1,h2,h3⟩:=vN hi hz ρ w;have hp:iy (.cells z'.cells t) w {w with heap:=w.heap.push (.cells z'.cells t)}:=⟨rfl,rfl,rfl,rfl⟩;refine cA (v:=.pointer (some ⟨w.heap.size,0,none⟩)) (w':={w with heap:=w.heap.push (.cells z'.cells t)}) (by simp [execOp,Instr.alloc,h1,newVar,newRow]) ?_;exact hn _ _ _ _ _ ho (h.Dp hp (x:=.cells t z.cells false) (iE h2 h3)) (.v (.aj (by rw[ey,if_pos rfl])))
   ·exact ho.elim
  ·exact ho.elim
 |box t x=>
  simp only[bJ] at ho;split at ho
  ·rename_i v hv;split at ho
   ·rename_i r vs hvs;obtain⟨hr,ho⟩:=aQ ho;obtain⟨h2,h3⟩:=iV (cX.v hv) hvs hr;have hp:iy (.cells (a.eval x).cells t) w {w with heap:=w.heap.push (.cells (a.eval x).cells t)}:=⟨rfl,rfl,rfl,rfl⟩;refine cA (v:=.pointer (some ⟨w.heap.size,0,none⟩)) (w':={w with heap:=w.heap.push (.cells (a.eval x).cells t)}) (by simp [execOp,Instr.box,newVar,newRow]) ?_;exact hn _ _ _ _ _ ho (h.Dp hp (x:=.cells t vs false) (iE h2 h3)) (.v (.aj (by rw[ey,if_pos rfl])))
   ·exact ho.elim
  ·exact ho.elim
 |store t ad x=>
  simp only[bJ] at ho;split at ho
  ·rename_i id off v ha hx;split at ho
   ·rename_i r vs hvs;obtain⟨hr,ho⟩:=aQ ho;rw[Bool.and_eq_true] at hr;have EI:=hr.2;unfold ag.wr at EI;split at EI
    ·rename_i e cs ro hg;rw[Bool.and_eq_true] at EI;have hro:ro=false:=by simpa using EI.1
     subst hro;obtain⟨b,hb,hc⟩:=h.hr.wR id _ hg;obtain⟨b',hb',he⟩:=(cX.tv ha).vJ;rw[hb] at hb';cases hb';obtain⟨w',h1,h2,h3⟩:=wU (E:=E) (t:=t) hc (cX.v hx) hvs hr.1 (Nat.le_of_ble_eq_true EI.2);refine vP (w':=w') (by simp [execOp,Instr.storeAt,he,Instr.sureAddr,h1]) ?_;have hst:S.hp.store id off vs=S.hp.put id (.cells e (bM cs off vs) false):=by simp [ag.store,hg]
     rw[hst] at ho;exact hn _ _ _ _ _ ho (h.Dq hg rfl rfl hb h3 h2) .undef
    ·cases EI
   ·exact ho.elim
  ·exact ho.elim
 |call c=>
  simp only[bJ] at ho;split at ho
  ·rename_i f args hc hargs;split at ho
   ·rename_i fv hf
    have post:∀v v' H' ρ' w',(match tO E type v with|some (b,v')=>ah b (K (.v v') H')|none=>False)→VR ρ' v v'→HR ρ' H' w'→lD S.hp ρ w H' ρ' w'→next (a.put dst v') w':=by
     intro v v' H' ρ' w' hk hv Wh hs;revert hk;split
     ·rename_i b y hy;intro hk;obtain⟨hb,hk⟩:=aQ hk;rw[Np hy hb] at hk;exact hn _ _ _ _ _ hk (h.call hs Wh) (.v hv)
     ·exact fun hk=>hk.elim
    have main:∀(g:FuncId) (as0:List V) (fi cap:Array Value),a.eval f=.func (.func g) fi cap→eM ρ as0 (fi++c.args.map a.eval++cap).toList→
     (match (E.ext g).isSome with
      |true=>iR E g as0 S.hp fun v H'=>match tO E type v with|some (b,v')=>ah b (K (.v v') H')|none=>False
      |false=>R.call g as0 S.hp fun v H'=>match tO E type v with|some (b,v')=>ah b (K (.v v') H')|none=>False)→
     Oper.wp E.P ⟨dst,.call c,type,jl,after,guard⟩ a w next Q:=by
     intro g as0 fi cap he has ho;split at ho
     ·unfold iR at ho;split at ho
      ·rename_i x hx;rcases hX g x hx _ _ _ ho ρ w _ h.hr has with⟨v,v',w',H',ρ',hrun,hk,hv,Wh,hs⟩|⟨hrun,Qr⟩
       ·exact cA (by rw[uo (E:=E) rfl hc he,hrun]) (post v v' H' ρ' w' hk hv Wh hs)
       ·unfold Oper.wp;rw[uo (E:=E) rfl hc he,hrun];refine Qr.mono ?_;rintro e w' ⟨v,v',H',ρ',rfl,hk,hv,Wh,hs⟩;exact post v v' H' ρ' w' hk hv Wh hs
      ·exact ho.elim
     ·obtain⟨fn,hfn,hbody⟩:=hB _ _ _ _ ho;have hrun:=Nv (E:=E) (e:=a.eval) (o:=⟨dst,.call c,type,jl,after,guard⟩) rfl hc he hfn hbody w;have Qr:=hR _ _ _ _ ho ρ w _ h.hr has;unfold Oper.wp;rw[hrun];refine Qr.mono ?_;rintro e w' ⟨v,v',H',ρ',rfl,hk,hv,Wh,hs⟩;exact post v v' H' ρ' w' hk hv Wh hs
    have CN:eM ρ args (c.args.map a.eval).toList:=by simpa using cX.vs hargs
    unfold lu at ho;split at ho
    ·rename_i g cap;obtain⟨cap',he,hcap⟩:=(cX.v hf).Nm
     exact main g (args++cap) #[] cap' he (by
      rw[Array.toList_append,Array.toList_append]
      exact CN.append hcap) ho
    ·rename_i g first;obtain⟨first',he,Sz⟩:=(cX.v hf).Nn
     exact main g (first++args) first' #[] he (by
      rw[Array.toList_append,Array.toList_append]
      simpa using Sz.append CN) ho
    ·exact ho.elim
   ·exact ho.elim
  ·rename_i args hc hargs;obtain⟨q,n,cp,H',ρ',v,w',hk,hrun,hs,hv⟩:=Du (E:=E) h (args':=c.args.map a.eval) (ty:=type) (by simpa using cX.vs hargs) ho;refine cA ?_ (hn _ _ _ _ _ hk hs hv);have aaf:(Builtin.append_ c.argTypes type (c.args.map a.eval)).run E.P w=.ok v w':=by simpa using hrun
   simp only[execOp,resolve,hc,invoke,builtin,Sem.run_bind,Sem.run_pure,Result.andThen_ok,aaf]
  ·split at ho
   ·rename_i r x H' hs;obtain⟨hr,ho⟩:=aQ ho;obtain⟨ρ',v,w',h1,h2,h3⟩:=gp h (o:=⟨dst,.call c,type,jl,after,guard⟩) hs hr;exact cA h1 (hn _ _ _ _ _ ho h2 h3)
   ·exact ho.elim
 |convert s d x=>
  simp only[bJ] at ho;split at ho
  ·rename_i cL ti hk hx ni
   split at ho
   ·rename_i el hsh;split at ho
    ·rename_i hel;obtain⟨hr,ho⟩:=aQ ho;have ig:=Nat.le_of_ble_eq_true hr;obtain⟨ds,rI,hds⟩:=bK hk;obtain⟨dd,hud,Qo⟩:=dG ni;rw[hsh] at Qo;cases ix Qo;obtain⟨de,Sw,Ql⟩:=bK hel;cases de<;>simp [bo,cM] at Ql
     subst Ql;have he:=(cX.v hx).vI;have Qh:=grownCap_ge w cL.size 0 el
     have Qi:=grownCap_le_maxLen w cL.size 0 el (by simp only[maxLen];omega)
     have hk:=ho (grownCap w cL.size 0 el) Qh (by simp only[maxLen] at Qi;omega);obtain⟨row,hrow⟩:∃row:Array Value,row=cL.data.map (fun b=>Value.int .u8 b.toNat)++Array.replicate (grownCap w cL.size 0 el-cL.size) (.int .u8 0):=⟨_,rfl⟩
     have Qf:eM ρ (hT (grownCap w cL.size 0 el-cL.size) [.int .u8 0]) (Array.replicate (grownCap w cL.size 0 el-cL.size) (Value.int .u8 0)).toList:=by
      refine⟨by simp [gg], ?_⟩;intro i x y hx hy
      have hi:i<grownCap w cL.size 0 el-cL.size:=by
       rcases Nat.lt_or_ge i (grownCap w cL.size 0 el-cL.size) with h|h
       ·exact h
       ·rw[List.getElem?_eq_none (by simpa using h)] at hy;cases hy
      rw[yL (by simp) _ _ (by simpa using hi)] at hx;have h1:=List.mem_of_getElem? hx;have h2:=List.mem_of_getElem? hy;simp only[List.mem_singleton] at h1;simp at h2;rw[h1,h2.2];exact .int _ _
     have MH:=(ui ρ cL).append Qf
     have h1:=h.Dp (o:=.cells row el) (w':=w.drew.alloc (.cells row el)) ⟨rfl,rfl,rfl,rfl⟩ (x:=.cells el (yi (eX cL) (hT (grownCap w cL.size 0 el-cL.size) [.int .u8 0])) false)
      (iE (by rw[hrow];simpa [yi] using MH) ((uh cL).append (gF (by intro v hv;simp at hv;rw[hv];rfl) _)))
     have hg:(S.hp.alloc (.cells el (yi (eX cL) (hT (grownCap w cL.size 0 el-cL.size) [.int .u8 0])) false)).get S.hp.next=some (.cells el (yi (eX cL) (hT (grownCap w cL.size 0 el-cL.size) [.int .u8 0])) false):=by
      simp [ag.alloc]
     obtain⟨b,hb,hc⟩:=h1.hr.wR _ _ hg;obtain⟨w2,g1,g2,g3⟩:=yO (E:=E) (off:=0) hc;have hs:=h1.Dq hg rfl rfl hb g3 (y:=.cells el (yi (eX cL) (hT (grownCap w cL.size 0 el-cL.size) [.int .u8 0])) false) g2;rw[uj hg] at hs;have EF:b=w.heap.size:=by rw[ey,if_pos rfl] at hb;exact(Option.some.inj hb).symm
     subst EF;refine cA (v:=.slice (some ⟨w.heap.size,0,none⟩) cL.size (grownCap w cL.size 0 el)) (w':=w2) ?_ (hn _ _ _ _ _ hk hs (.v (.slice _ _ hb)));have hch:(choose (.appendCap cL.size 0 el)).run E.P w=.ok (grownCap w cL.size 0 el) w.drew:=by simp [Question.forced,grownCap]
     cases ds<;>simp [bo,cM] at hds
     simp only[execOp,convert,Sem.run_bind,run_underlying rI,run_underlying hud,run_underlying Sw,Result.andThen_ok,he,Conv.stringToBytes,hch,newRow, ←hrow];have hn2:(Sem.new (.cells row el) Sem.pure).run E.P w.drew=.ok w.heap.size (w.drew.alloc (.cells row el)):=rfl;simp [newObj,hn2,g1]
    ·exact ho.elim
   ·exact ho.elim
  ·split at ho
   ·rename_i r x' H' hs;obtain⟨hr,ho⟩:=aQ ho;obtain⟨ρ',v,w',h1,h2,h3⟩:=gp h (o:=⟨dst,.convert s d x,type,jl,after,guard⟩) hs hr;exact cA h1 (hn _ _ _ _ _ ho h2 h3)
   ·exact ho.elim
 |mapUpdate t m x v=>
  simp only[bJ] at ho;split at ho
  ·rename_i ti r k n v' ni hm hx hv;obtain⟨ds,rI,hds⟩:=dG ni;split at ho
   ·rename_i kt et hsh;rw[hsh] at hds;cases uk hds;split at ho
    ·rename_i k' b y hk hy;obtain⟨dk,WZ,hdk⟩:=bK hk;have Qm:dk=.int k':=by cases dk<;>simp_all [bo,cM]
     subst Qm;replace ho:=aQ ho;obtain⟨hq,ho⟩:=ho;simp only[Bool.and_eq_true,nk,decide_eq_true_eq] at hq;obtain⟨hkk,hsome,hok,hb⟩:=hq;subst hkk
     cases r with
     |none=>cases hsome
     |some id=>
      have hx':=(cX.v hx).iw;obtain⟨bb,w',o',EF,hrun,Qp,hg,gC,hrw,Qq⟩:=xu (E:=E) (n:=n) rI WZ h.hr (cX.v hm) hok (cX.v hv);refine vP (w':=w') (by simp [execOp,hx',hrun]) ?_;simp only[Option.getD_some] at ho;rw[gC] at ho;exact hn _ _ _ _ _ ho (h.Dq hg rfl hrw EF Qp Qq) .undef
    ·exact ho.elim
   ·exact ho.elim
  ·exact ho.elim
 |next it isStr=>
  cases isStr with
  |true=>simp [bJ,bX] at ho
  |false=>
   simp only[bJ] at ho;split at ho
   ·rename_i t id hit;obtain⟨b,hb,he⟩:=(cX.tv hit).Fh;rcases Ba (E:=E) (ty:=type) h hb ho with⟨hk,hrun⟩|⟨H',w',k,v,hk,hrun,hs⟩
    ·exact cA (v:=.tuple #[.bool false]) (w':=w) (by simp [execOp,he,hrun]) (hn _ _ _ _ _ hk h (.v (.gE (.cons (.bool _) (.nil ρ)))))
    ·exact cA (v:=.tuple #[.bool true,k,v]) (w':=w') (by simp [execOp,he,hrun]) (hn _ _ _ _ _ hk hs (.v (.gE (.cons (.bool _) (.cons (.cw _) (.cons (.cw _) (.nil ρ)))))))
   ·exact ho.elim
 |makeMap t tf=>
  simp only[bJ] at ho;split at ho
  ·rename_i r x H' hs;obtain⟨hr,ho⟩:=aQ ho;obtain⟨ρ',v,w',h1,h2,h3⟩:=gp h (o:=⟨dst,.makeMap t tf,type,jl,after,guard⟩) hs hr;exact cA h1 (hn _ _ _ _ _ ho h2 h3)
  ·exact ho.elim
 |range t x=>
  simp only[bJ] at ho;split at ho
  ·rename_i r x' H' hs;obtain⟨hr,ho⟩:=aQ ho;obtain⟨ρ',v,w',h1,h2,h3⟩:=gp h (o:=⟨dst,.range t x,type,jl,after,guard⟩) hs hr;exact cA h1 (hn _ _ _ _ _ ho h2 h3)
  ·exact ho.elim
 |makeSlice t len cap=>
  simp only[bJ] at ho;split at ho
  ·rename_i r x H' hs;obtain⟨hr,ho⟩:=aQ ho;obtain⟨ρ',v,w',h1,h2,h3⟩:=gp h (o:=⟨dst,.makeSlice t len cap,type,jl,after,guard⟩) hs hr;exact cA h1 (hn _ _ _ _ _ ho h2 h3)
  ·exact ho.elim
 |buildSlice t len parts=>
  simp only[bJ] at ho;split at ho
  ·rename_i r x H' hs;obtain⟨hr,ho⟩:=aQ ho;obtain⟨ρ',v,w',h1,h2,h3⟩:=gp h (o:=⟨dst,.buildSlice t len parts,type,jl,after,guard⟩) hs hr;exact cA h1 (hn _ _ _ _ _ ho h2 h3)
  ·exact ho.elim
 |_=>simp [bJ,bX] at ho
theorem wX {R:mn} (hX:jW E) (hR:∀f args H K,R.call f args H K→iD E f args H K) (hB:∀f args H K,R.call f args H K→∃fn,E.P.funcs[f]? =some fn∧fn.body.isSome=true) (h:SR H0 ρ0 w0 ann N ρ lam S a w) {o:Oper} {K:St→Prop} (hc:jm E R ann N o S K) {next:Act→World→Prop} {Q:Exit→Act→World→Prop} (hn:∀S' ρ' dI a' w',SR H0 ρ0 w0 ann N ρ' dI S' a' w'→K S'→next a' w'):o.wp E.P a w next Q:=by
 have cX:=h.ev
 have hL:∀s M,S.lo s=some M→∃b,lam s=some b∧vK ρ M w.heap[b]? :=by
  intro s M hM;obtain⟨b,h1,h2,_⟩:=h.lo s M hM;exact⟨b,h1,h2⟩
 unfold jm at hc
 cases wI:Hw E ann o with
 |pure=>
  simp only[wI] at hc;split at hc
  ·rename_i d hd;obtain⟨hr,hk⟩:=fR.eZ hc;obtain⟨v,h1,h2⟩:=Dk (w:=w) cX hd hr;obtain⟨hok,hk⟩:=ee.1 hk;exact cA h1 (hn _ _ _ _ _ (h.put h2 hok) hk)
  ·exact hc.elim
 |oW s=>
  simp only[wI] at hc;split at hc
  ·rename_i d hd;obtain⟨hr,hk⟩:=fR.eZ hc;obtain⟨v,h1,h2⟩:=Fs (w:=w) cX hd hr (hL s);obtain⟨hok,hk⟩:=ee.1 hk;exact cA h1 (hn _ _ _ _ _ (h.put h2 hok) hk)
  ·exact hc.elim
 |iP s=>
  simp only[wI] at hc;split at hc
  ·rename_i d hd;obtain⟨hr,hk⟩:=fR.eZ hc;obtain⟨M,b,w',v,hM,hb,ho,hl,hx,hrun⟩:=Dr (w:=w) cX hd hr (hL s);obtain⟨hok,hk⟩:=ee.1 hk;have h':=(h.setL hM hb ho hl).put hx hok;rcases hrun with hrun|⟨rfl,hrun⟩
   ·exact cA hrun (hn _ _ _ _ _ h' hk)
   ·exact vP hrun (hn _ _ _ _ _ h' hk)
  ·exact hc.elim
 |tT=>
  simp only[wI] at hc;split at hc
  ·rename_i d r L xH hd;obtain⟨hr,hk⟩:=aQ hc;obtain⟨x,w',h1,h2,h3⟩:=HJ (w:=w) cX hd hr;obtain⟨hok,hk⟩:=ee.1 hk;have hs:=(h.aaM h2 h3).put (dst:=some d) (x:=.lp d 0) (v:=.pointer (some ⟨w.heap.size,0,none⟩)) (.lp (by rw[ey,if_pos rfl])) hok;refine cA h1 ?_;rw[xH];exact hn _ _ _ _ _ hs hk
  ·exact hc.elim
 |kI=>
  simp only[wI] at hc;split at hc
  ·rename_i d hd;obtain⟨hr,hk⟩:=fR.eZ hc;obtain⟨v,h1,h2⟩:=wW (w:=w) cX h.hr hd hr;obtain⟨hok,hk⟩:=ee.1 hk;exact cA h1 (hn _ _ _ _ _ (h.put h2 hok) hk)
  ·exact hc.elim
 |tU=>
  simp only[wI] at hc;unfold Jc at hc;split at hc
  ·rename_i f first dF hop;split at hc
   ·rename_i vs S' hf hl;obtain⟨ρ',h1,h2,h3⟩:=mV h hl;obtain⟨hok,hk⟩:=ee.1 hc;have hf':first= #[]:=by apply Array.ext';simpa using hf
    refine cA (v:=.func (.func f) #[] (dF.map a.eval)) (w':=w) ?_ (hn _ _ _ _ _ (h1.put (.v (.Je (by simpa using h2))) hok) hk);simp [execOp,hop,Instr.makeFunc,hf']
   ·exact hc.elim
  ·exact hc.elim
 |dm=>
  simp only[wI] at hc;refine Dz hX hR hB h hc ?_;intro x H' ρ' v w' hk hs hx;obtain⟨hok,hk⟩:=ee.1 hk;exact hn _ _ _ _ _ (hs.put hx hok) hk
theorem DA {aF:Array Oper} {j:Nat} {t:T} (h:SR H0 ρ0 w0 ann N ρ lam S a w) (hy:ga aF.toList S.tm j=some t):(∀b,t=.v (.bool b)→yielded aF a.tmps j=some b)∧(t=.undef→yielded aF a.tmps j=none):=by
 unfold ga at hy;split at hy
 ·rename_i o ho;split at hy
  ·rename_i d hd;have ho':aF[j]? =some o:=by simpa using ho
   have ht:=h.tm d t hy
   have key:yielded aF a.tmps j=match a.tmps[d]? with|some (.bool b)=>some b|_=>none:=by
    simp only[yielded,ho',Option.bind_some,hd]
    cases a.tmps[d]? with
    |none=>rfl
    |some x=>cases x<;>rfl
   rw[key];rw[Array.getD_eq_getD_getElem?] at ht;constructor
   ·rintro b rfl
    cases hq:a.tmps[d]? with
    |none=>rw[hq] at ht;simp only[Option.getD_none,undef] at ht;cases ht with|v h=>cases h
    |some x=>rw[hq] at ht;simp only[Option.getD_some] at ht;cases ht with|v h=>cases h;rfl
   ·rintro rfl
    cases hq:a.tmps[d]? with
    |none=>rfl
    |some x=>rw[hq] at ht;simp only[Option.getD_some] at ht;cases ht;rfl
  ·cases hy
 ·cases hy
theorem pO {R:mn} (hX:jW E) (hR:∀f args H K,R.call f args H K→iD E f args H K) (hB:∀f args H K,R.call f args H K→∃fn,E.P.funcs[f]? =some fn∧fn.body.isSome=true) (h:SR H0 ρ0 w0 ann N ρ lam S a w) {aF:Array Oper} {i:Nat} {o:Oper} (hi:aF[i]? =some o) {K:St→Prop} (hc:eQ E R ann N aF.toList o S K) {next:Act→World→Prop} {Q:Exit→Act→World→Prop} (hn:∀S' ρ' dI a' w',SR H0 ρ0 w0 ann N ρ' dI S' a' w'→K S'→next a' w'):wpOp E.P aF Q i next a w:=by
 unfold wpOp;simp only[hi]
 have skip:jv ann N o.dst .undef S K→next (a.put o.dst undef) w:=by
  intro hk;obtain⟨hok,hk⟩:=ee.1 hk;exact hn _ _ _ _ _ (h.put .undef hok) hk
 unfold eQ at hc
 cases hg:o.guard with
 |none=>
  simp only[hg] at hc;simp only[Region.wanted,hg,if_true];exact .inl (wX hX hR hB h hc hn)
 |some p=>
  obtain⟨j,want⟩:=p;simp only[hg] at hc
  cases hy:ga aF.toList S.tm j with
  |none=>simp only[hy] at hc
  |some t=>
   obtain⟨h1,h2⟩:=DA h hy
   cases t with
   |undef=>
    simp only[hy] at hc;simp only[Region.wanted,hg,h2 rfl];rw[if_neg (by simp)];exact skip hc
   |lp s off=>simp only[hy] at hc
   |v x=>
    cases x with
    |bool b=>
     simp only[hy] at hc;simp only[Region.wanted,hg,h1 b rfl];rcases gz hc with⟨hb,hc⟩|⟨hb,hc⟩
     ·rw[if_pos (by simpa using hb)];exact .inl (wX hX hR hB h hc hn)
     ·rw[if_neg (by simpa using hb)];exact skip hc
    |_=>simp only[hy] at hc
end
def Q3 (P:Program) (c:Code) (Q:Exit→Act→World→Prop) (a:Act) (w:World):Prop:=
 ∀(b:Frame) (k:List Item) (cs:List Frame),∃e a' w',Q e a' w'∧Arrives P (lone (b.at a (.code c:: .inLoop c::k)) cs w) b k cs e a' w'
theorem Nx {P:Program} {c:Code} {Q:Exit→Act→World→Prop} {a:Act} {w:World} (h:Q3 P c Q a w):(Code.loop c).wp P Q a w:=by
 intro b k cs;obtain⟨e,a',w',hq,G7⟩:=h b k cs;exact⟨e,a',w',hq,.of_steps (.one step_loop) G7⟩
theorem HL {P:Program} {c:Code} {Q:Exit→Act→World→Prop} {a:Act} {w:World} (h:c.wp P (Exit.then (Q3 P c Q) Q) a w):Q3 P c Q a w:=by
 intro b k cs;obtain⟨e,a₁,w₁,hq,G7⟩:=h b (.inLoop c::k) cs
 cases e with
 |normal=>
  obtain⟨e₂,a₂,w₂,aag,SA⟩:=hq b k cs;exact⟨e₂,a₂,w₂,aag,.of_steps (Steps.trans G7 (.one step_inLoop)) SA⟩
 |exit id=>exact⟨_,a₁,w₁,hq,.pass (x:=.inLoop c) rfl (fun _ _=>.inl (by simp)) G7⟩
 |goto l=>exact⟨_,a₁,w₁,hq,.pass (x:=.inLoop c) rfl (fun _ _=>.inl (by simp)) G7⟩
 |ret=>exact⟨_,a₁,w₁,hq,.pass (x:=.inLoop c) rfl (fun _ _=>.inl (by simp)) G7⟩
 |panic ch=>exact⟨_,a₁,w₁,hq,.pass (x:=.inLoop c) rfl (fun _ _=>.inl (by simp)) G7⟩
 |outgrown=>exact⟨_,a₁,w₁,hq,.pass (x:=.inLoop c) rfl (fun _ _=>.inl (by simp)) G7⟩
def nB (E:kv) (c:Code) (f:FuncId) (S:St) (Kr:St→Prop) (Ke:Nat→St→Prop):Prop:=
 ∀(fn:Func) (H0:ag) (ρ0:dB) (w0:World) (ρ lam:dB) (a:Act) (w:World) (Q:Exit→Act→World→Prop),E.P.funcs[f]? =some fn→
  SR H0 ρ0 w0 (E.ann f) fn.ntmps ρ lam S a w→
  (∀S' ρ' dI a' w',SR H0 ρ0 w0 (E.ann f) fn.ntmps ρ' dI S' a' w'→Kr S'→Q .ret a' w')→
  (∀id S' ρ' dI a' w',SR H0 ρ0 w0 (E.ann f) fn.ntmps ρ' dI S' a' w'→Ke id S'→Q (.exit id) a' w')→Q3 E.P c Q a w
structure nC (E:kv) (R:mn):Prop where
 call:∀f args H K,R.call f args H K→iD E f args H K
 body:∀f args H K,R.call f args H K→∃fn,E.P.funcs[f]? =some fn∧fn.body.isSome=true
 loop:∀c f n S Kr Ke,R.loop c f n S Kr Ke→nB E c f S Kr Ke
 mono:R.le R
 vC:iu R
 ext:jW E
section
variable {E:kv} {H0:ag} {ρ0:dB} {w0:World} {ann:bP} {N:Nat} {ρ lam:dB} {S:St} {a:Act} {w:World} {R:mn}
theorem sL {tm:Nat→Option T}:∀{l:List Nat} {m:List (Nat×T)} {t:Nat} {x:T},E3 tm l=some m→ab m t=some x→tm t=some x
 |[],m,t,x,h,hl=>by simp only[E3,Option.some.injEq] at h;subst h;cases hl
 |s::l,m,t,x,h,hl=>by
  simp only[E3] at h;split at h
  ·rename_i y m' hy hm;simp only[Option.some.injEq] at h;subst h;simp only[ab,aW] at hl;by_cases he:t=s
   ·simp only[he,decide_true,cond_true,Option.some.injEq] at hl;subst hl;rw[he];exact hy
   ·simp only[he,decide_false,cond_false] at hl;exact sL hm hl
  ·cases h
theorem sM {tm:Nat→Option aO}:∀{l:List Nat} {m:List (Nat×aO)} {t:Nat} {x:aO},E4 tm l=some m→ab m t=some x→tm t=some x
 |[],m,t,x,h,hl=>by simp only[E4,Option.some.injEq] at h;subst h;cases hl
 |s::l,m,t,x,h,hl=>by
  simp only[E4] at h;split at h
  ·rename_i y m' hy hm;simp only[Option.some.injEq] at h;subst h;simp only[ab,aW] at hl;by_cases he:t=s
   ·simp only[he,decide_true,cond_true,Option.some.injEq] at hl;subst hl;rw[he];exact hy
   ·simp only[he,decide_false,cond_false] at hl;exact sM hm hl
  ·cases h
theorem SR.Q4 (h:SR H0 ρ0 w0 ann N ρ lam S a w) {S':St} (h1:∀t x,S'.tm t=some x→S.tm t=some x) (h2:∀t x,S'.lo t=some x→S.lo t=some x) (h3:S'.hp=S.hp):SR H0 ρ0 w0 ann N ρ lam S' a w where
 defers:=h.defers
 size:=h.size
 tm:=fun t x hx=>h.tm t x (h1 t x hx)
 K9:=fun t s off hx=>h.K9 t s off (h1 t _ hx)
 lo:=fun s L hL=>by rw[h3];exact h.lo s L (h2 s L hL)
 ub:=fun s s' L L' b e1 e2=>h.ub s s' L L' b (h2 _ _ e1) (h2 _ _ e2)
 hr:=by rw[h3];exact h.hr
 bV:=by rw[h3];exact h.bV
theorem jX (h:SR H0 ρ0 w0 ann N ρ lam S a w) {ts ls:List Nat} {K:St→Prop} (hk:lz ts ls S K):∃S',SR H0 ρ0 w0 ann N ρ lam S' a w∧K S':=by
 unfold lz at hk;split at hk
 ·rename_i m l hm hl;exact⟨_,h.Q4 (S':=⟨ab m,ab l,S.hp⟩) (fun t x hx=>sL hm hx) (fun t x hx=>sM hl hx) rfl,hk⟩
 ·exact hk.elim
theorem Q5 {k:KT} {x:Option T} (h:aB k x=true):x=some (QQ k x):=by
 cases k with
 |k k=>
  cases x with
  |none=>simp [aB] at h
  |some y=>cases y with
   |v z=>simp only[aB] at h;simp [QQ,T.val,V.sj h]
   |_=>simp [aB] at h
 |agg ks=>
  cases x with
  |none=>simp [aB] at h
  |some y=>cases y with
   |v z=>
    simp only[aB,Bool.and_eq_true] at h;simp only[QQ,T.val];rw[k5 h.2 rfl, ←ud h.1]
   |_=>simp [aB] at h
 |lp s=>
  cases x with
  |none=>simp [aB] at h
  |some y=>cases y with
   |lp s' off=>
    cases off with
    |zero=>simp only[aB] at h;rw[Nat.eq_of_beq_eq_true h];rfl
    |succ n=>simp [aB] at h
   |_=>simp [aB] at h
 |undef=>
  cases x with
  |none=>simp [aB] at h
  |some y=>cases y with
   |undef=>rfl
   |_=>simp [aB] at h
theorem Q6 {e:TypeId} {ks:List cg} {x:Option aO} (h:ea e ks x=true):x=some (.cells e (n8 ks (an x) 0)):=by
 cases x with
 |none=>simp [ea] at h
 |some y=>cases y with
  |cells e' cs=>
   simp only[ea,Bool.and_eq_true] at h;simp only[an];rw[k5 h.2 rfl,Nat.eq_of_beq_eq_true h.1]
  |dM s p=>simp [ea] at h
theorem sN:∀{l:List (Nat×KT)} {t:Nat} {x:T},(lA S l).1=true→ab (lA S l).2 t=some x→S.tm t=some x
 |[],t,x,_,hl=>by cases hl
 |(s,k)::l,t,x,h,hl=>by
  simp only[lA,Bool.and_eq_true] at h hl;simp only[ab,aW] at hl;by_cases he:t=s
  ·simp only[he,decide_true,cond_true,Option.some.injEq] at hl;subst hl;rw[he];exact Q5 h.1
  ·simp only[he,decide_false,cond_false] at hl;exact sN h.2 hl
theorem sO:∀{l:List (Nat×TypeId×List cg)} {t:Nat} {x:aO},(lB S l).1=true→ab (lB S l).2 t=some x→S.lo t=some x
 |[],t,x,_,hl=>by cases hl
 |(s,e,ks)::l,t,x,h,hl=>by
  simp only[lB,Bool.and_eq_true] at h hl;simp only[ab,aW] at hl;by_cases he:t=s
  ·simp only[he,decide_true,cond_true,Option.some.injEq] at hl;subst hl;rw[he];exact Q6 h.1
  ·simp only[he,decide_false,cond_false] at hl;exact sO h.2 hl
theorem pP (h:SR H0 ρ0 w0 ann N ρ lam S a w) {ts:List (Nat×KT)} {ls:List (Nat×TypeId×List cg)} {K:St→Prop} (hk:Bv ts ls S K):∃S',SR H0 ρ0 w0 ann N ρ lam S' a w∧K S':=by
 obtain⟨h1,h2⟩:=aQ hk;rw[Bool.and_eq_true] at h1;exact⟨_,h.Q4 (S':=⟨ab (lA S ts).2,ab (lB S ls).2,S.hp⟩) (fun t x hx=>sN h1.1 hx) (fun t x hx=>sO h1.2 hx) rfl,h2⟩
theorem ur (h:SR H0 ρ0 w0 ann N ρ lam S a w) {kp:ju} {K:Ex→St→Prop}:∀{l:List Nat} {id:Nat},vF kp K l id S→∃S',SR H0 ρ0 w0 ann N ρ lam S' a w∧K (.exit id) S'
 |[],_,hk=>hk.elim
 |j::l,id,hk=>by
  rcases gz hk with⟨hj,hk⟩|⟨_,hk⟩
  ·rw[Nat.eq_of_beq_eq_true hj];exact pP h hk
  ·exact ur h hk
def hG (E:kv) (R:mn) (ann:bP) (N:Nat) (aF:Array Oper):List Nat→St→(St→Prop)→Prop
 |[],S,K=>K S
 |i::l,S,K=>match aF[i]? with
  |some o=>eQ E R ann N aF.toList o S fun S'=>hG E R ann N aF l S' K
  |none=>hG E R ann N aF l S K
theorem BF {aF:Array Oper} {K:St→Prop}:∀(l:List Oper) (i:Nat) {S:St},aF.toList.drop i=l→ly E R ann N aF.toList l S K=hG E R ann N aF (List.range' i l.length) S K
 |[],i,_,_=>rfl
 |o::l,i,S,hl=>by
  have hi:aF[i]? =some o:=by
   have:(aF.toList.drop i)[0]? =some o:=by rw[hl];rfl
   simpa using this
  rw[List.length_cons,List.range'_succ,hG,hi];have hl':aF.toList.drop (i+1)=l:=by rw[←List.drop_drop,hl];rfl
  simp only[ly];congr 1;funext S';exact BF l (i+1) hl'
theorem pQ (hR:nC E R) {aF:Array Oper} {Q:Exit→Act→World→Prop}:∀(l:List Nat) {S:St} {K:St→Prop} {ρ lam:dB} {a:Act} {w:World},SR H0 ρ0 w0 ann N ρ lam S a w→hG E R ann N aF l S K→(∀S' ρ' dI a' w',SR H0 ρ0 w0 ann N ρ' dI S' a' w'→K S'→Q .normal a' w')→wpOps E.P aF Q l a w
 |[],S,K,ρ,lam,a,w,h,hk,hq=>hq _ _ _ _ _ h hk
 |i::l,S,K,ρ,lam,a,w,h,hk,hq=>by
  rw[wpOps_cons];unfold hG at hk;split at hk
  ·rename_i o ho;exact pO hR.ext hR.call hR.body h ho hk fun S' ρ' dI a' w' h' hk'=>pQ hR l h' hk' hq
  ·rename_i ho;unfold wpOp;simp only[ho];exact pQ hR l h hk hq
end
section
variable {E:kv} {H0:ag} {ρ0:dB} {w0:World} {ann:bP} {N:Nat} {ρ lam:dB} {S:St} {a:Act} {w:World} {R:mn}
theorem uu (hR:nC E R) {aF:Array Oper} {i:Nat} {o:Oper} (hi:aF[i]? =some o):∀(pre:List Nat) (post:List Nat) {S:St} {K:St→Prop},(∀j∈pre,∀p,aF[j]? =some p→gx (cY E ann aF.toList o) (cY E ann aF.toList p)=true)→hG E R ann N aF (pre++i::post) S K→eQ E R ann N aF.toList o S fun S'=>hG E R ann N aF (pre++post) S' K
 |[],post,S,K,_,hk=>by
  rw[List.nil_append,hG,hi] at hk;exact hk
 |j::pre,post,S,K,hap,hk=>by
  rw[List.cons_append,hG] at hk
  have ih:∀S',hG E R ann N aF (pre++i::post) S' K→eQ E R ann N aF.toList o S' fun S'=>hG E R ann N aF (pre++post) S' K:=
   fun S' h=>uu hR hi pre post (fun j hj=>hap j (List.mem_cons_of_mem _ hj)) h
  split at hk
  ·rename_i p hp;have h1:=eG hR.mono ih hk
   have acC:gx (cY E ann aF.toList p) (cY E ann aF.toList o)=true:=by
    have:=hap j (List.mem_cons_self ..) p hp;simp only[gx,Bool.and_eq_true,Bool.not_eq_true'] at this⊢;obtain⟨⟨⟨⟨⟨⟨⟨⟨h1,h2⟩,h3⟩,h4⟩,h5⟩,h6⟩,h7⟩,h8⟩,h9,ye⟩:=this
    have flip:∀{l m:List Nat},jn l m=false→jn m l=false:=by
     intro l m h;have hs:=fP h;cases hq:jn m l
     ·rfl
     ·exfalso
      have:∀{l' m':List Nat},jn l' m'=true→∃x,x∈l'∧x∈m':=by
       intro l' m' hh
       induction l' with
       |nil=>cases hh
       |cons y l' ih=>
        rw[jn,Bool.or_eq_true] at hh;rcases hh with hh|hh
        ·exact⟨y,List.mem_cons_self ..,jz.1 hh⟩
        ·obtain⟨x,hx1,vt⟩:=ih hh;exact⟨x,List.mem_cons_of_mem _ hx1,vt⟩
      obtain⟨x,hx1,vt⟩:=this hq;exact hs x vt hx1
    exact⟨⟨⟨⟨⟨⟨⟨⟨h3,flip h2⟩,h1⟩,h6⟩,flip h5⟩,h4⟩,h8⟩,h7⟩,ye,h9⟩
   have h2:=yy hR.mono hR.vC acC h1;refine eG hR.mono ?_ h2;intro S' h';rw[List.cons_append,hG,hp];exact h'
  ·rename_i hp;have:=ih _ hk;refine eG hR.mono ?_ this;intro S' h';rw[List.cons_append,hG,hp];exact h'
theorem wY {i:Nat}:∀{l:List Edge},C4 i l=true→∀e∈l,Region.binds .any e=true→e.on<i
 |[],_,e,he=>by cases he
 |x::l,h,e,he=>by
  rw[C4,Bool.and_eq_true,Bool.or_eq_true] at h;intro hb;rcases List.mem_cons.1 he with rfl|he
  ·rcases h.1 with h1|h1
   ·rw[hb] at h1;cases h1
   ·simpa using h1
  ·exact wY h.2 e he hb
theorem oC:∀{l:List Oper} {i:Nat},oh l i=true→∀(j:Nat) (o:Oper),l[j]? =some o→∀e∈o.after.toList,Region.binds .any e=true→e.on<i+j
 |[],_,_,j,o,h=>by simp at h
 |x::l,i,h,j,o,ho=>by
  rw[oh,Bool.and_eq_true] at h;intro e he hb
  cases j with
  |zero=>simp only[List.getElem?_cons_zero,Option.some.injEq] at ho;subst ho;exact wY h.1 e he hb
  |succ j=>
   have:=oC h.2 j o (by simpa using ho) e he hb;omega
theorem uv {fs:List jS} {bs:List (List Nat)} {i:Nat} {f:jS}:∀{n:Nat},tW fs bs i f n=true→∀j,j<n→∃g b,fs[j]? =some g∧bs[i]? =some b∧(j∈b∨gx f g=true)
 |0,_,j,hj=>by omega
 |n+1,h,j,hj=>by
  rw[tW,Bool.and_eq_true] at h;by_cases he:j=n
  ·subst he;have h1:=h.1;split at h1
   ·rename_i g b hg hb;rw[Bool.or_eq_true] at h1;exact⟨g,b,hg,hb,h1.imp jz.1 id⟩
   ·cases h1
  ·exact uv h.2 j (by omega)
theorem pR {fs:List jS} {bs:List (List Nat)}:∀{l:List jS} {k:Nat},qL fs bs l k=true→∀(i:Nat) (f:jS),l[i]? =some f→tW fs bs (k+i) f (k+i)=true
 |[],_,_,i,f,h=>by simp at h
 |x::l,k,h,i,f,hf=>by
  rw[qL,Bool.and_eq_true] at h
  cases i with
  |zero=>simp only[List.getElem?_cons_zero,Option.some.injEq] at hf;subst hf;exact h.1
  |succ i=>
   have:=pR h.2 i f (by simpa using hf);rw[show k+(i+1)=k+1+i by omega];exact this
theorem uw:∀(l:List Oper) (acc:List (List Nat)) (i:Nat) (b:List Nat),(iS l acc)[i]? =some b→(i<acc.length∧acc[i]? =some b)∨∃o,l[i-acc.length]? =some o∧acc.length≤i∧∀j∈b,∃e∈o.after.toList,Region.binds .any e=true∧(j=e.on∨(e.on<i∧∃b',(iS l acc)[e.on]? =some b'∧j∈b'))
 |[],acc,i,b,h=>by
  simp only[iS] at h;refine .inl ⟨?_,h⟩;rcases Nat.lt_or_ge i acc.length with h'|h'
  ·exact h'
  ·rw[List.getElem?_eq_none h'] at h;cases h
 |o::l,acc,i,b,h=>by
  simp only[iS] at h⊢
  have keep:∀(l:List Oper) (acc:List (List Nat)) (i:Nat),i<acc.length→(iS l acc)[i]? =acc[i]? :=by
   intro l
   induction l with
   |nil=>intro acc i hi;rfl
   |cons q l ih=>
    intro acc i hi;simp only[iS];rw[ih _ i (by simp;omega),List.getElem?_append_left hi]
  rcases uw l (acc++[qK acc o.after.toList]) i b h with⟨h1,h2⟩|⟨q,h1,h2,h3⟩
  ·simp only[List.length_append,List.length_singleton] at h1;by_cases hi:i<acc.length
   ·rw[List.getElem?_append_left hi] at h2;exact .inl ⟨hi,h2⟩
   ·have hi':i=acc.length:=by omega
    subst hi';rw[List.getElem?_append_right (Nat.le_refl _)] at h2;simp only[Nat.sub_self,List.getElem?_cons_zero,Option.some.injEq] at h2;subst h2;refine .inr ⟨o,by simp,Nat.le_refl _, ?_⟩;intro j hj
    have:∀(es:List Edge),j∈qK acc es→∃e∈es,Region.binds .any e=true∧(j=e.on∨j∈acc[e.on]?.getD []):=by
     intro es
     induction es with
     |nil=>intro h;cases h
     |cons e es ih=>
      intro h;simp only[qK] at h;cases hb:Region.binds .any e
      ·simp only[hb,cond_false] at h;obtain⟨e',h1,h2⟩:=ih h;exact⟨e',List.mem_cons_of_mem _ h1,h2⟩
      ·simp only[hb,cond_true,List.mem_cons,List.mem_append] at h;rcases h with h|h|h
       ·exact⟨e,List.mem_cons_self ..,hb,.inl h⟩
       ·exact⟨e,List.mem_cons_self ..,hb,.inr h⟩
       ·obtain⟨e',h1,h2⟩:=ih h;exact⟨e',List.mem_cons_of_mem _ h1,h2⟩
    obtain⟨e,h4,h5,h6⟩:=this _ hj;refine⟨e,h4,h5,h6.imp id fun h6=> ?_⟩
    cases hg:acc[e.on]? with
    |none=>rw[hg] at h6;cases h6
    |some b'=>
     rw[hg] at h6
     have hlt:e.on<acc.length:=by
      rcases Nat.lt_or_ge e.on acc.length with h'|h'
      ·exact h'
      ·rw[List.getElem?_eq_none h'] at hg;cases hg
     refine⟨hlt,b', ?_,h6⟩;rw[keep _ _ _ (by simp;omega),List.getElem?_append_left hlt,hg]
  ·simp only[List.length_append,List.length_singleton] at h1 h2 h3;refine .inr ⟨q, ?_,by omega,h3⟩;rw[show i-acc.length=i-(acc.length+1)+1 by omega];simpa using h1
def jY (n:Nat) (listed:Array Bool):List Nat:=(List.range n).filter fun i=> !listed.getD i false
theorem ux {p q:Nat→Bool} {i:Nat} (hpq:∀j,j≠i→q j=p j) (hi:p i=true) (hqi:q i=false):∀(l:List Nat),i∈l→l.Nodup→∃pre post,l.filter p=pre++i::post∧l.filter q=pre++post∧(∀j∈pre,j∈l∧p j=true∧j≠i)∧(l.Pairwise (· < ·)→∀j∈pre,j<i)
 |[],h,_=>by cases h
 |x::l,h,hn=>by
  rw[List.nodup_cons] at hn;by_cases hx:x=i
  ·subst hx
   have hsame:l.filter q=l.filter p:=by
    apply List.filter_congr;intro j hj;exact hpq j (fun e=>hn.1 (e▸hj))
   exact⟨[],l.filter p,by simp [hi],by simp [hqi,hsame],fun j hj=>by simp at hj,fun _ j hj=>by simp at hj⟩
  ·have mK:i∈l:=by
    rcases List.mem_cons.1 h with h|h
    ·exact(hx h.symm).elim
    ·exact h
   obtain⟨pre,post,h1,h2,h3,h4⟩:=ux hpq hi hqi l mK hn.2;cases hp:p x
   ·refine⟨pre,post,by simp [hp,h1],by simp [hpq x hx,hp,h2],fun j hj=>⟨List.mem_cons_of_mem _ (h3 j hj).1,(h3 j hj).2⟩,fun hs=>h4 (List.pairwise_cons.1 hs).2⟩
   ·refine⟨x::pre,post,by simp [hp,h1],by simp [hpq x hx,hp,h2], ?_, ?_⟩
    ·intro j hj;rcases List.mem_cons.1 hj with rfl|hj
     ·exact⟨List.mem_cons_self ..,hp,hx⟩
     ·exact⟨List.mem_cons_of_mem _ (h3 j hj).1,(h3 j hj).2⟩
    ·intro hs j hj;rw[List.pairwise_cons] at hs;rcases List.mem_cons.1 hj with rfl|hj
     ·exact hs.1 i mK
     ·exact h4 hs.2 j hj
end
section
variable {E:kv} {R:mn} {ann:bP} {N:Nat}
theorem fO.run_bind {α β:Type} {k:α→fO β} {K:β→Prop}:∀(t:fO α),(t.bind k).run K=t.run fun a=>(k a).run K
 | .leaf _=>rfl
 | .br c x y=>by simp only[fO.bind,fO.run,fO.run_bind x,fO.run_bind y]
 | .ah c x=>by simp only[fO.bind,fO.run,fO.run_bind x]
 | .aT=>rfl
theorem fO.cD {α:Type} {K K':α→Prop} (h:∀a,K a→K' a):∀{t:fO α},t.run K→t.run K'
 | .leaf _,hk=>h _ hk
 | .br _ _ _,hk=>eY (fO.cD h) (fO.cD h) hk
 | .ah _ _,hk=>bT (fO.cD h) hk
 | .aT,hk=>hk
theorem uy {S:St} {M:MS} {d:Nat} {x:T}:MS.st S {M with U:=(d,x)::M.U}=(M.st S).setT d x:=by
 unfold MS.st St.setT;congr 1;funext t;simp only[pd,ab];cases Nat.beq t d<;>rfl
theorem Q7 {S:St} {M:MS} {s:Nat} {x:aO}:MS.st S {M with W:=(s,x)::M.W}=(M.st S).setL s x:=by
 unfold MS.st St.setL;congr 1;funext t;simp only[yj,ab];cases Nat.beq t s<;>rfl
theorem jZ {dst:Option Tmp} {x:T} {S:St} {M:MS} {K:St→Prop} (h:(CZ ann N dst x M).run fun M'=>K (M'.st S)):jv ann N dst x (M.st S) K:=by
 unfold CZ at h;unfold jv
 cases dst with
 |none=>exact h
 |some d=>
  simp only[fO.run] at h⊢;refine bT ?_ h
  cases x with
  |v y=>intro h;rw[←uy];exact h
  |undef=>intro h;rw[←uy];exact h
  |lp s o=>
   simp only[]
   cases ab ann.aV d with
   |none=>exact id
   |some s'=>
    simp only[]
    cases Nat.beq s s' with
    |true=>intro h;simp only[cond_true];rw[←uy];exact h
    |false=>exact id
theorem DB {α:Type} {d:fR α} {X:Prop} {K:α→Prop} (h:ah (d.rq&&d.c) X) (hx:X→K d.x):d.run K:=by
 obtain⟨h1,h2⟩:=aQ h;rw[Bool.and_eq_true] at h1;unfold fR.run;rw[h1.1,h1.2];exact hx h2
theorem qS {o:Oper} {S:St} {M:MS} {K:St→Prop} (h:(E5 E ann N o S M).run fun M'=>K (M'.st S)):jm E R ann N o (M.st S) K:=by
 unfold E5 at h;unfold jm
 cases hc:Hw E ann o with
 |pure=>
  simp only[hc] at h⊢
  cases hp:aZ E o.op (cS (pd S M.U)) with
  |none=>simp only[hp] at h;exact h.elim
  |some d=>simp only[MS.st,hp] at h⊢;exact DB h jZ
 |oW s=>
  simp only[hc] at h⊢
  cases hp:gR E o.op (cS (pd S M.U)) s (yj S M.W s) with
  |none=>simp only[hp] at h;exact h.elim
  |some d=>simp only[MS.st,hp] at h⊢;exact DB h jZ
 |iP s=>
  simp only[hc] at h⊢
  cases hp:dZ E o.op (cS (pd S M.U)) s (yj S M.W s) with
  |none=>simp only[hp] at h;exact h.elim
  |some d=>
   simp only[hp] at h;simp only[MS.st,hp];refine DB h ?_;intro h;have:=jZ h;rw[Q7] at this;exact this
 |kI=>
  simp only[hc] at h⊢
  cases hp:dC E o.op (cS (pd S M.U)) S.hp with
  |none=>simp only[hp] at h;exact h.elim
  |some d=>simp only[MS.st,hp] at h⊢;exact DB h jZ
 |tT=>simp only[hc] at h;exact h.elim
 |tU=>simp only[hc] at h;exact h.elim
 |dm=>simp only[hc] at h;exact h.elim
theorem Lh {aF:List Oper} {o:Oper} {S:St} {M:MS} {K:St→Prop} (h:(Nd E ann N aF o S M).run fun M'=>K (M'.st S)):tV E R ann N aF o (M.st S) K:=by
 unfold Nd at h;unfold tV
 cases hg:o.guard with
 |none=>simp only[hg] at h⊢;exact qS h
 |some p=>
  obtain⟨j,want⟩:=p;simp only[hg] at h⊢
  cases hl:CY aF j with
  |none=>simp only[hl] at h;exact h.elim
  |some s=>
   simp only[hl] at h⊢;have htm:(M.st S).tm s=pd S M.U s:=rfl;rw[htm]
   cases hs:pd S M.U s with
   |none=>simp only[hs] at h;exact h.elim
   |some t=>
    cases t with
    |undef=>simp only[hs] at h⊢;exact jZ h
    |lp a b=>simp only[hs] at h;exact h.elim
    |v x=>
     cases x with
     |bool b=>
      simp only[hs] at h⊢
      have Ay:(M.st S).setT s (.v (.bool b))=M.st S:=by
       unfold St.setT MS.st;congr 1;funext t
       cases ht:Nat.beq t s with
       |false=>rfl
       |true=>simp only[cond_true];rw[Nat.eq_of_beq_eq_true ht,hs]
      cases hk:bC s M.kn with
      |true=>
       simp only[hk] at h;cases want<;>cases b
       ·have:=qS (R:=R) h;rw[←Ay] at this;exact this
       ·have:=jZ h;rw[←Ay] at this;exact this
       ·have:=jZ h;rw[←Ay] at this;exact this
       ·have:=qS (R:=R) h;rw[←Ay] at this;exact this
      |false=>
       simp only[hk] at h;refine eY ?_ ?_ h
       ·intro h;have:=qS (R:=R) h;have e:MS.st S {M with U:=(s,.v (.bool want))::M.U,kn:=s::M.kn}=(M.st S).setT s (.v (.bool want)):=uy;rw[e] at this;exact this
       ·intro h;have:=jZ h;have e:MS.st S {M with U:=(s,.v (.bool (!want)))::M.U,kn:=s::M.kn}=(M.st S).setT s (.v (.bool (!want))):=uy;rw[e] at this;exact this
     |_=>simp only[hs] at h;exact h.elim
theorem HM (hm:R.le R) {aF:List Oper} {o:Oper} {S:St} {K K':St→Prop} (h:∀S,K S→K' S) (hx:tV E R ann N aF o S K):tV E R ann N aF o S K':=by
 rw[hY] at hx⊢;exact eG hm h hx
theorem yV (hm:R.le R) {aF:List Oper} {K:St→Prop} {S:St}:∀(l:List Oper) {M:MS},(C0 E ann N aF l S M).run (fun M'=>K (M'.st S))→sy E R ann N aF l (M.st S) K
 |[],M,h=>h
 |o::l,M,h=>by
  unfold C0 at h;rw[fO.run_bind] at h;refine Lh (K:=fun S'=>sy E R ann N aF l S' K) (fO.cD ?_ h);intro M' h';exact yV hm l h'
theorem lG {α:Type} {t:Nat} {m:α} {r:List (Nat×α)}:ab ((t,m)::r) t=some m:=by simp [ab,Nat.beq_refl]
theorem dN {α:Type} {t u:Nat} {m:α} {r:List (Nat×α)} (h:t≠u):ab ((u,m)::r) t=ab r t:=by
 have:Nat.beq t u=false:=by
  cases hb:Nat.beq t u with
  |false=>rfl
  |true=>exact absurd (Nat.eq_of_beq_eq_true hb) h
 simp [ab,this]
def gG {α:Type} (g:Nat→Option α) (A:List (Nat×α)) (t:Nat):Option α:=match ab A t with|some x=>some x|none=>g t
theorem BG {S:St} {U:List (Nat×T)} {t:Nat}:pd S U t=gG S.tm U t:=by unfold pd gG;cases ab U t<;>rfl
theorem BH {S:St} {W:List (Nat×aO)} {t:Nat}:yj S W t=gG S.lo W t:=by unfold yj gG;cases ab W t<;>rfl
theorem wZ {α:Type} {g:Nat→Option α} {f:α→α→Option α} {A B:List (Nat×α)}:∀{l:List Nat} {r:List (Nat×α)},od g f A B l=some r→∀t,ab A t=none→ab B t=none→ab r t=none
 |[],r,h,t,_,_=>by cases h;rfl
 |u::l,r,h,t,ha,hb=>by
  simp only[od] at h;split at h
  ·cases h
  ·rename_i r' hr';have ih:=wZ hr' t ha hb;by_cases htu:t=u
   ·subst htu;rw[ha,hb] at h;cases h;exact ih
   ·split at h
    ·cases h;exact ih
    ·split at h
     ·cases h;rw[dN htu];exact ih
     ·cases h
    ·split at h
     ·split at h
      ·cases h;rw[dN htu];exact ih
      ·cases h
     ·cases h
    ·split at h
     ·split at h
      ·cases h;rw[dN htu];exact ih
      ·cases h
     ·cases h
theorem pS {α:Type} {g:Nat→Option α} {f:α→α→Option α} {c:Bool} (hf:∀a b m,f a b=some m→m=if c then a else b) {A B:List (Nat×α)}:∀{l:List Nat} {r:List (Nat×α)},od g f A B l=some r→∀t∈l,gG g r t=if c then gG g A t else gG g B t
 |[],_,_,t,ht=>by cases ht
 |u::l,r,h,t,ht=>by
  simp only[od] at h;split at h
  ·cases h
  ·rename_i r' hr';have ih:t∈l→gG g r' t=if c then gG g A t else gG g B t:=pS hf hr' t
   by_cases htu:t=u
   ·subst htu;split at h
    ·rename_i ha hb;cases h;have hk:=wZ hr' t ha hb;simp only[gG,ha,hb,hk];cases c<;>rfl
    ·rename_i a b ha hb;split at h
     ·rename_i m hm;cases h;simp only[gG,lG,ha,hb,hf _ _ _ hm];cases c<;>rfl
     ·cases h
    ·rename_i a ha hb;split at h
     ·rename_i b hg;split at h
      ·rename_i m hm;cases h;simp only[gG,lG,ha,hb,hg,hf _ _ _ hm];cases c<;>rfl
      ·cases h
     ·cases h
    ·rename_i b ha hb;split at h
     ·rename_i a hg;split at h
      ·rename_i m hm;cases h;simp only[gG,lG,ha,hb,hg,hf _ _ _ hm];cases c<;>rfl
      ·cases h
     ·cases h
   ·have htl:t∈l:=by simpa [htu] using ht
    have ih:=ih htl;split at h
    ·cases h;exact ih
    ·split at h
     ·cases h;rw[←ih];simp only[gG,dN htu]
     ·cases h
    ·split at h
     ·split at h
      ·cases h;rw[←ih];simp only[gG,dN htu]
      ·cases h
     ·cases h
    ·split at h
     ·split at h
      ·cases h;rw[←ih];simp only[gG,dN htu]
      ·cases h
     ·cases h
theorem HN {c:Bool} {a b m:T} (h:C1 c a b=some m):m=if c then a else b:=by
 unfold C1 at h;split at h
 ·cases h;rw[KY];cases c<;>rfl
 ·rename_i s o s' o'
  cases hb:(Nat.beq s s'&&Nat.beq o o') with
  |false=>rw[hb] at h;cases h
  |true=>
   rw[hb] at h;rw[Bool.and_eq_true] at hb;cases h;rw[Nat.eq_of_beq_eq_true hb.1,Nat.eq_of_beq_eq_true hb.2];cases c<;>rfl
 ·cases h;cases c<;>rfl
 ·cases h
theorem HO {c:Bool} {a b m:aO} (h:C2 c a b=some m):m=if c then a else b:=by
 unfold C2 at h;split at h
 ·rename_i e cs e' cs'
  cases hb:Nat.beq e e' with
  |false=>rw[hb] at h;cases h
  |true=>
   rw[hb,cond_true] at h;split at h
   ·rename_i r hr;cases h;rw[sl hr,Nat.eq_of_beq_eq_true hb];cases c<;>rfl
   ·cases h
 ·cases h
theorem iW {n:Nat}:∀{l:List Nat},bC n l=true↔n∈l
 |[]=>by simp [bC]
 |x::l=>by
  simp only[bC,Bool.or_eq_true,List.mem_cons,iW (l:=l)];constructor
  ·rintro(h|h)
   ·exact .inl (Nat.eq_of_beq_eq_true h)
   ·exact .inr h
  ·rintro(h|h)
   ·exact .inl (by rw[h];exact Nat.beq_refl _)
   ·exact .inr h
theorem oD {n:Nat} {l:List Nat} (h:bC n l=false):n∉l:=fun hm=>by rw[iW.2 hm] at h;cases h
def TT {α:Type} (a b:List Nat) (l:List (Nat×α)):Prop:=∀t,bC t a=false→bC t b=false→ab l t=none
theorem pT {α:Type} {a b:List Nat}:∀{l:List (Nat×α)},oe a b l=true→TT a b l
 |[],_,_,_,_=>rfl
 |(u,x)::l,h,t,ha,hb=>by
  simp only[oe,Bool.and_eq_true,Bool.or_eq_true] at h
  have hne:t≠u:=by
   rintro rfl;rcases h.1 with h|h
   ·rw[ha] at h;cases h
   ·rw[hb] at h;cases h
  rw[dN hne];exact pT h.2 t ha hb
theorem lH {α:Type} {g:Nat→Option α} {f:α→α→Option α} {A B:List (Nat×α)}:∀{l:List Nat} {r:List (Nat×α)},od g f A B l=some r→∀t,bC t l=false→ab r t=none
 |[],r,h,t,_=>by cases h;rfl
 |u::l,r,h,t,ht=>by
  have htu:t≠u:=fun e=>oD ht (by rw[e];exact List.mem_cons_self ..)
  have htl:bC t l=false:=by
   cases hm:bC t l with
   |false=>rfl
   |true=>exact absurd (List.mem_cons_of_mem _ (iW.1 hm)) (oD ht)
  simp only[od] at h;split at h
  ·cases h
  ·rename_i r' hr';have ih:=lH hr' t htl;split at h
   ·cases h;exact ih
   ·split at h
    ·cases h;rw[dN htu];exact ih
    ·cases h
   ·split at h
    ·split at h
     ·cases h;rw[dN htu];exact ih
     ·cases h
    ·cases h
   ·split at h
    ·split at h
     ·cases h;rw[dN htu];exact ih
     ·cases h
    ·cases h
theorem oE {S:St} {ts ls dT dL:List Nat}:∀{tr:fO MS} {r:Bool} {U:List (Nat×T)} {W:List (Nat×aO)},oX S ts ls dT dL tr=some (r,U,W)→TT ts dT U∧TT ls dL W
 | .leaf M,r,U,W,h=>by
   simp only[oX] at h
   cases hk:oe ts dT M.U&&oe ls dL M.W with
   |false=>rw[hk] at h;cases h
   |true=>
    rw[hk] at h;cases h;rw[Bool.and_eq_true] at hk;exact⟨pT hk.1,pT hk.2⟩
 | .aT,_,_,_,h=>by cases h
 | .ah c x,r,U,W,h=>by
   simp only[oX] at h;split at h
   ·rename_i r' U' W' h';cases h;exact oE h'
   ·cases h
 | .br c x y,r,U,W,h=>by
   simp only[oX] at h;split at h
   ·split at h
    ·rename_i U' W' hU hW;cases h;exact⟨fun t ht _=>lH hU t ht,fun t ht _=>lH hW t ht⟩
    ·cases h
   ·cases h
def Xi (S:St) (dT dL:List Nat) (U:List (Nat×T)) (W:List (Nat×aO)) (M:MS):Prop:=
 (∀t,bC t dT=false→gG S.tm U t=gG S.tm M.U t)∧∀s,bC s dL=false→gG S.lo W s=gG S.lo M.W s
theorem Li (c r1 r2:Bool):aJ c r1 r2=if c then r1 else r2:=by cases c<;>cases r1<;>cases r2<;>rfl
theorem fq {α:Type} {g:Nat→Option α} {A:List (Nat×α)} {t:Nat} (h:ab A t=none):gG g A t=g t:=by simp [gG,h]
theorem qT {S:St} {ts ls dT dL:List Nat}:∀{tr:fO MS} {r:Bool} {U:List (Nat×T)} {W:List (Nat×aO)},oX S ts ls dT dL tr=some (r,U,W)→r=true→tr.run (Xi S dT dL U W)
 | .leaf M,r,U,W,h,_=>by
   simp only[oX] at h
   cases hk:oe ts dT M.U&&oe ls dL M.W with
   |false=>rw[hk] at h;cases h
   |true=>rw[hk] at h;cases h;exact⟨fun _ _=>rfl,fun _ _=>rfl⟩
 | .aT,_,_,_,h,_=>by cases h
 | .ah c x,r,U,W,h,hr=>by
   simp only[oX] at h;split at h
   ·rename_i r' U' W' h';cases h;rw[Bool.and_eq_true] at hr;simp only[fO.run,hr.1];exact qT h' hr.2
   ·cases h
 | .br c x y,r,U,W,h,hr=>by
   simp only[oX] at h;split at h
   ·rename_i r1 U1 W1 r2 U2 W2 h1 h2;split at h
    ·rename_i U' W' hU hW;cases h;rw[Li] at hr;have hu:=pS (c:=c) (fun _ _ _=>HN) hU;have hw:=pS (c:=c) (fun _ _ _=>HO) hW;have k1:=oE h1;have k2:=oE h2;have du:=lH hU;have dw:=lH hW
     cases c with
     |true=>
      refine fO.cD ?_ (qT (tr:=x) h1 (by simpa using hr));rintro M ⟨ha,hb⟩;refine⟨fun t ht=> ?_,fun s hs=> ?_⟩
      ·rw[←ha t ht]
       cases hm:bC t ts with
       |true=>simpa using hu t (iW.1 hm)
       |false=>rw[fq (du t hm),fq (k1.1 t hm ht)]
      ·rw[←hb s hs]
       cases hm:bC s ls with
       |true=>simpa using hw s (iW.1 hm)
       |false=>rw[fq (dw s hm),fq (k1.2 s hm hs)]
     |false=>
      refine fO.cD ?_ (qT (tr:=y) h2 (by simpa using hr));rintro M ⟨ha,hb⟩;refine⟨fun t ht=> ?_,fun s hs=> ?_⟩
      ·rw[←ha t ht]
       cases hm:bC t ts with
       |true=>simpa using hu t (iW.1 hm)
       |false=>rw[fq (du t hm),fq (k2.1 t hm ht)]
      ·rw[←hb s hs]
       cases hm:bC s ls with
       |true=>simpa using hw s (iW.1 hm)
       |false=>rw[fq (dw s hm),fq (k2.2 s hm hs)]
    ·cases h
   ·cases h
theorem HP {dT dL:List Nat} {S S':St} (h1:∀t,bC t dT=false→S.tm t=S'.tm t) (h2:∀t,bC t dL=false→S.lo t=S'.lo t) (h3:S.hp=S'.hp):rJ dT dL S=rJ dT dL S':=by
 unfold rJ;rw[h3];congr 1
 ·funext t
  cases hm:bC t dT with
  |true=>rfl
  |false=>exact h1 t hm
 ·funext t
  cases hm:bC t dL with
  |true=>rfl
  |false=>exact h2 t hm
theorem HQ {S:St} {ts ls dT dL:List Nat} {tr:fO MS} {K:St→Prop} (h:pD ts ls dT dL tr S K):tr.run fun M=>K (rJ dT dL (M.st S)):=by
 unfold pD at h;split at h
 ·rename_i r U W hm;obtain⟨hr,hn⟩:=aQ h;refine fO.cD ?_ (qT hm hr);rintro M ⟨ha,hb⟩
  have:rJ dT dL ⟨pd S U,yj S W,S.hp⟩=rJ dT dL (M.st S):=by
   refine HP (fun t ht=> ?_) (fun t ht=> ?_) rfl
   ·simp only[MS.st,BG];exact ha t ht
   ·simp only[MS.st,BH];exact hb t ht
  rw[←this];exact hn
 ·exact h.elim
theorem yW (hm:R.le R) {aF:List Oper} {ts ls dT dL:List Nat} {K:St→Prop}:∀(l:List Oper) {S:St},kC E R ann N ts ls dT dL aF l S K→sy E R ann N aF l S fun S'=>K (rJ dT dL S')
 |[],S,h=>h
 |o::l,S,h=>by
  unfold kC at h;split at h
  ·exact HM hm (fun S'=>yW hm l) h
  ·exact yV (K:=fun S'=>K (rJ dT dL S')) hm (o::l) (M:=⟨[],[],[]⟩) (HQ h)
end
section
variable {E:kv} {R:mn} {ann:bP} {N:Nat} {f:FuncId}
def gH (wT wL:List Nat) (S S':St):Prop:=
 (∀t,bC t wT=false→S'.tm t=S.tm t)∧∀s,bC s wL=false→S'.lo s=S.lo s
theorem gH.refl (wT wL:List Nat) (S:St):gH wT wL S S:=⟨fun _ _=>rfl,fun _ _=>rfl⟩
theorem gH.trans {wT wL:List Nat} {S S' G8:St} (h:gH wT wL S S') (k:gH wT wL S' G8):gH wT wL S G8:=
 ⟨fun t ht=>(k.1 t ht).trans (h.1 t ht),fun t ht=>(k.2 t ht).trans (h.2 t ht)⟩
theorem yX:∀{l m:List Nat} {x:Nat},jx l m=true→x∈l→x∈m
 |y::l,m,x,h,hx=>by
  simp only[jx,Bool.and_eq_true] at h;rcases List.mem_cons.1 hx with rfl|hx
  ·exact iW.1 h.1
  ·exact yX h.2 hx
theorem fu {l m:List Nat} {x:Nat} (h:jx l m=true) (hx:bC x m=false):bC x l=false:=by
 cases hm:bC x l with
 |false=>rfl
 |true=>exact absurd (yX h (iW.1 hm)) (oD hx)
variable {wT wL:List Nat}
theorem sP {S:St} {d:Nat} {x:T} (h:bC d wT=true):gH wT wL S (S.setT d x):=by
 refine⟨fun t ht=> ?_,fun _ _=>rfl⟩
 have:Nat.beq t d=false:=by
  cases hb:Nat.beq t d with
  |false=>rfl
  |true=>rw[Nat.eq_of_beq_eq_true hb,h] at ht;cases ht
 simp [St.setT,this]
theorem yY {S:St} {d:Nat} {x:aO} (h:bC d wL=true):gH wT wL S (S.setL d x):=by
 refine⟨fun _ _=>rfl,fun t ht=> ?_⟩
 have:Nat.beq t d=false:=by
  cases hb:Nat.beq t d with
  |false=>rfl
  |true=>rw[Nat.eq_of_beq_eq_true hb,h] at ht;cases ht
 simp [St.setL,this]
theorem gI {dst:Option Tmp} {x:T} {S:St} {K:St→Prop} (hd:jx dst.toList wT=true) (h:jv ann N dst x S K):jv ann N dst x S fun S'=>K S'∧gH wT wL S S':=by
 cases dst with
 |none=>exact⟨h,.refl ..⟩
 |some d=>
  have hd':bC d wT=true:=by simpa [jx] using hd
  refine bT ?_ h
  cases x with
  |v y=>exact fun h=>⟨h,sP hd'⟩
  |undef=>exact fun h=>⟨h,sP hd'⟩
  |lp s off=>
   simp only[]
   cases ab ann.aV d with
   |none=>exact id
   |some s'=>cases hs:Nat.beq s s'<;>simp [hs];exact fun h=>⟨h,sP hd'⟩
theorem w7 {d s:Nat}:∀{l:List (Nat×Nat)} {t:Nat},ab l t=some s→s=d→t∈kN d l
 |(u,v)::l,t,h,hs=>by
  simp only[ab] at h;simp only[kN]
  cases hb:Nat.beq t u with
  |true=>
   rw[hb] at h;cases h;rw[hs,Nat.beq_refl,cond_true,Nat.eq_of_beq_eq_true hb];exact List.mem_cons_self ..
  |false=>
   rw[hb] at h;have:=w7 h hs
   cases Nat.beq v d with
   |true=>exact List.mem_cons_of_mem _ this
   |false=>exact this
theorem HS {S:St} {d:Nat} (h:jx (kN d ann.aV) wT=true):gH wT wL S (sx ann d S):=by
 refine⟨fun t ht=> ?_,fun _ _=>rfl⟩;simp only[sx];split
 ·rename_i s hs
  cases hb:Nat.beq s d with
  |false=>rfl
  |true=>exact absurd (yX h (w7 hs (Nat.eq_of_beq_eq_true hb))) (oD ht)
 ·rfl
theorem w8 (hm:R.le R) {o:Oper} {S:St} {K:St→Prop} (hw:K3 E ann wT wL o=true) (h:jm E R ann N o S K):jm E R ann N o S fun S'=>K S'∧gH wT wL S S':=by
 simp only[K3,Bool.and_eq_true] at hw;obtain⟨⟨hd,hk⟩,hl⟩:=hw;unfold jm at h⊢
 cases hc:Hw E ann o with
 |pure=>
  simp only[hc] at h⊢;split at h
  ·exact fR.cD (fun x=>gI hd) h
  ·exact h
 |oW s=>
  simp only[hc] at h⊢;split at h
  ·exact fR.cD (fun x=>gI hd) h
  ·exact h
 |iP s=>
  simp only[hc] at h hl⊢;split at h
  ·refine fR.cD (fun x hx=> ?_) h;refine eU ?_ (gI (wT:=wT) (wL:=wL) hd hx);rintro S' ⟨h1,h2⟩;exact⟨h1,(yY hl).trans h2⟩
  ·exact h
 |tT=>
  simp only[hc] at h hl⊢;split at h
  ·rename_i d r L xH _;refine bT (fun hx=> ?_) h;have hd':bC d wL=true:=by simpa [jx,xH] using hl
   have hk':jx (kN d ann.aV) wT=true:=by simpa [C3,xH] using hk
   refine eU ?_ (gI (wT:=wT) (wL:=wL) (by simpa [xH] using hd) hx);rintro S' ⟨h1,h2⟩;exact⟨h1,((HS hk').trans (yY hd')).trans h2⟩
  ·exact h
 |kI=>
  simp only[hc] at h⊢;split at h
  ·exact fR.cD (fun x=>gI hd) h
  ·exact h
 |tU=>simp only[hc] at hl;cases hl
 |dm=>
  simp only[hc] at h⊢;refine jM hm (fun x H' hx=> ?_) h;refine eU ?_ (gI (wT:=wT) (wL:=wL) hd hx);rintro S' ⟨h1,h2⟩;exact⟨h1,h2⟩
theorem pU (hm:R.le R) {aF:List Oper} {o:Oper} {S:St} {K:St→Prop} (hw:K3 E ann wT wL o=true) (h:eQ E R ann N aF o S K):eQ E R ann N aF o S fun S'=>K S'∧gH wT wL S S':=by
 have hd:jx o.dst.toList wT=true:=by
  simp only[K3,Bool.and_eq_true] at hw;exact hw.1.1
 unfold eQ at h⊢;split at h
 ·exact w8 hm hw h
 ·split at h
  ·exact eY (w8 hm hw) (gI hd) h
  ·exact gI hd h
  ·exact h
theorem uz (hm:R.le R) {aF:List Oper}:∀(l:List Oper) {S:St} {K:St→Prop},jy E ann wT wL l=true→ly E R ann N aF l S K→ly E R ann N aF l S fun S'=>K S'∧gH wT wL S S'
 |[],S,K,_,h=>⟨h,.refl ..⟩
 |o::l,S,K,hw,h=>by
  simp only[jy,Bool.and_eq_true] at hw;refine eG hm ?_ (pU hm hw.1 h);rintro S' ⟨h1,h2⟩;refine pF hm l ?_ (uz hm l hw.2 h1);rintro G8 ⟨h3,h4⟩;exact⟨h3,h2.trans h4⟩
theorem HT {l:List Oper}:jy E ann wT wL l=true→∀o∈l,K3 E ann wT wL o=true:=by
 induction l with
 |nil=>intro _ p hp;cases hp
 |cons o l ih=>
  intro h p hp;rw[jy,Bool.and_eq_true] at h;rcases List.mem_cons.1 hp with rfl|hp
  ·exact h.1
  ·exact ih h.2 p hp
theorem uA (hm:R.le R) {aF:List Oper} {i:Nat} {S:St} {K K':St→Prop} (h:∀S,K S→K' S) (hx:fS E R ann N aF i S K):fS E R ann N aF i S K':=by
 unfold fS at hx⊢;split at hx
 ·rw[hY] at hx⊢;exact eG hm h hx
 ·exact hx
theorem DC (hm:R.le R) {aF:List Oper} (hw:jy E ann wT wL aF=true) {i:Nat} {S:St} {K:St→Prop} (h:fS E R ann N aF i S K):fS E R ann N aF i S fun S'=>K S'∧gH wT wL S S':=by
 unfold fS at h⊢;split at h
 ·rename_i o ho;rw[hY] at h⊢;exact pU hm (HT hw o (List.mem_of_getElem? ho)) h
 ·exact h
theorem kP (hm:R.le R) {aF:List Oper} (hw:jy E ann wT wL aF=true):∀(t:rQ) {S:St} {K:St→Prop},iq (fS E R ann N aF) t S K→iq (fS E R ann N aF) t S fun S'=>K S'∧gH wT wL S S'
 | .nil,S,K,h=>⟨h,.refl ..⟩
 | .aT,S,K,h=>h
 | .one i r,S,K,h=>by
   have h:fS E R ann N aF i S (fun S'=>iq (fS E R ann N aF) r S' K):=h;show fS E R ann N aF i S (fun S'=>iq (fS E R ann N aF) r S' _)
   refine uA hm ?_ (DC hm hw h);rintro S' ⟨h1,h2⟩;refine jT (st:=fS E R ann N aF) (st':=fS E R ann N aF) (fun i S K K' h hx=>uA hm h hx) r ?_ (kP hm hw r h1);rintro G8 ⟨h3,h4⟩;exact⟨h3,h2.trans h4⟩
 | .Nf a b,S,K,h=>⟨kP hm hw a h.1,kP hm hw b h.2⟩
theorem mW (hm:R.le R) {aF:List Oper} {draw:Bool} {S:St} {K:St→Prop} (hw:jy E ann wT wL aF=true) (h:gS E R ann N aF draw S K):gS E R ann N aF draw S fun S'=>K S'∧gH wT wL S S':=by
 unfold gS at h⊢;revert h;split
 ·simp only[kY];exact uz hm _ hw
 ·exact bT (kP hm hw _)
theorem BI {S:St} {dT dL:List Nat} (h1:jx dT wT=true) (h2:jx dL wL=true):gH wT wL S (rJ dT dL S):=
 ⟨fun t ht=>by simp [rJ,fu h1 ht],fun t ht=>by simp [rJ,fu h2 ht]⟩
theorem uB (hm:R.le R) {aF:List Oper} {ts ls dT dL:List Nat} (h1:jx ts wT=true) (h2:jx ls wL=true) (h3:jx dT wT=true) (h4:jx dL wL=true) {K:St→Prop}:∀(l:List Oper) {S:St},jy E ann wT wL l=true→kC E R ann N ts ls dT dL aF l S K→kC E R ann N ts ls dT dL aF l S fun S'=>K S'∧gH wT wL S S'
 |[],S,_,h=>⟨h,BI h3 h4⟩
 |o::l,S,hw,h=>by
  simp only[jy,Bool.and_eq_true] at hw;unfold kC at h⊢;split at h
  ·rw[hY] at h⊢;refine eG hm ?_ (pU hm hw.1 h);rintro S' ⟨h5,h6⟩;refine pG hm ?_ l (uB hm h1 h2 h3 h4 l hw.2 h5);rintro G8 ⟨h7,h8⟩;exact⟨h7,h6.trans h8⟩
  ·unfold pD at h⊢;split at h
   ·rename_i r U W Qs;refine bT (fun hk=>⟨hk, ?_⟩) h;obtain⟨k1,k2⟩:=oE Qs;refine gH.trans ?_ (BI h3 h4);refine⟨fun t ht=> ?_,fun t ht=> ?_⟩
    ·change pd S U t=S.tm t
     rw[BG,fq (k1 t (fu h1 ht) (fu h3 ht))]
    ·change yj S W t=S.lo t
     rw[BH,fq (k2 t (fu h2 ht) (fu h4 ht))]
   ·exact h
theorem yZ {S:St}:∀{l:List (Nat×KT)} {t:Nat},bC t (pE l)=false→ab (lA S l).2 t=none
 |[],_,_=>rfl
 |(u,k)::l,t,h=>by
  simp only[pE,bC,Bool.or_eq_false_iff] at h;simp only[lA,ab,h.1,cond_false];exact yZ h.2
theorem y8 {S:St}:∀{l:List (Nat×TypeId×List cg)} {t:Nat},bC t (pE l)=false→ab (lB S l).2 t=none
 |[],_,_=>rfl
 |(u,e,ks)::l,t,h=>by
  simp only[pE,bC,Bool.or_eq_false_iff] at h;simp only[lB,ab,h.1,cond_false];exact y8 h.2
theorem pV {ok:ju→Bool} {kp:Option ju} {S:St} {A:(Ex→St→Prop)→Prop} {K:Ex→St→Prop} (hj:Ng wT wL kp=true) (hA:∀K:Ex→St→Prop,A K→A fun e S'=>K e S'∧gH wT wL S S') (hm:∀K K':Ex→St→Prop,(∀e S,K e S→K' e S)→A K→A K') (h:mq ok kp S A K):mq ok kp S A fun e S'=>K e S'∧gH wT wL S S':=by
 unfold mq at h⊢
 cases kp with
 |none=>exact hA _ h
 |some kp=>
  simp only[Ng,TP,Bool.and_eq_true] at hj;obtain⟨SB,⟨⟨h1,h2⟩,h3⟩,h4⟩:=hj;simp only[SB] at h⊢;refine bT (fun h=> ?_) h;unfold E6 cv at h⊢;refine hm _ _ ?_ (hA _ h);rintro e S' ⟨hk,ha⟩
  cases e with
  |exit id=>exact⟨hk,ha⟩
  |ret=>exact⟨hk,ha⟩
  |normal=>
   refine ir (fun S1 hk=>bT (fun hk=>⟨hk, ?_⟩) hk) hk;refine⟨fun t ht=> ?_,fun t ht=> ?_⟩
   ·simp only[over,yZ (fu h3 ht),fu h1 ht,cond_false]
   ·simp only[over,y8 (fu h4 ht),fu h2 ht,cond_false]
theorem sQ (hm:R.le R):∀(c:Code) (n:Nat) (S:St) (K:Ex→St→Prop),C5 E ann wT wL c n=true→gq E R f ann N c n S K→gq E R f ann N c n S fun e S'=>K e S'∧gH wT wL S S':=by
 intro c
 induction c with
 |skip=>intro n S K _ hx;exact⟨hx,.refl ..⟩
 |exit id=>intro n S K _ hx;exact⟨hx,.refl ..⟩
 |ret=>intro n S K _ hx;exact⟨hx,.refl ..⟩
 |seq a b iha ihb=>
  intro n S K hw hx;simp only[C5,Bool.and_eq_true] at hw;refine gT hm a _ _ _ _ ?_ (iha n S _ hw.1 hx);rintro e S' ⟨hk,ha⟩
  cases e with
  |exit id=>exact⟨hk,ha⟩
  |ret=>exact⟨hk,ha⟩
  |normal=>
   refine gT hm b _ _ _ _ ?_ (ihb _ S' _ hw.2 hk);rintro e G8 ⟨hk,hb⟩;exact⟨hk,ha.trans hb⟩
 |cond c x y ihx ihy=>
  intro n S K hw hx;simp only[C5,Bool.and_eq_true] at hw;simp only[gq] at hx⊢;split at hx
  ·refine pV hw.1 ?_ ?_ hx
   ·intro K h;exact eY (ihx _ _ _ hw.2.1) (ihy _ _ _ hw.2.2) h
   ·intro K K' h;exact eY (gT hm x _ _ _ _ h) (gT hm y _ _ _ _ h)
  ·exact hx
 |block id b ih=>
  intro n S K hw hx;simp only[C5,Bool.and_eq_true] at hw;simp only[gq] at hx⊢;refine pV hw.1 ?_ ?_ hx
  ·intro K h;refine gT hm b _ _ _ _ ?_ (ih _ _ _ hw.2 h);rintro e S' ⟨hk,ha⟩
   cases e with
   |normal=>exact⟨hk,ha⟩
   |ret=>exact⟨hk,ha⟩
   |exit j=>exact eY (fun h=>⟨h,ha⟩) (fun h=>⟨h,ha⟩) hk
  ·intro K K' h;refine gT hm b _ _ _ _ ?_;intro e S'
   cases e with
   |normal=>exact h _ _
   |ret=>exact h _ _
   |exit j=>exact eY (h _ _) (h _ _)
 |region id aF draw=>
  intro n S K hw hx;simp only[C5,Bool.and_eq_true] at hw;simp only[gq] at hx⊢;revert hx
  cases hkp:sA ann n with
  |none=>exact mW hm hw.1
  |some kp=>
   simp only[hkp] at hw⊢
   cases Qs:kp.mg with
   |true=>
    simp only[Qs,Bool.and_eq_true] at hw⊢;exact bT (uB hm hw.2.1.1.1 hw.2.1.1.2 hw.2.1.2 hw.2.2 _ hw.1)
   |false=>
    simp only[Qs] at hw⊢;refine pV (by simp only[Ng];exact hw.2) ?_ ?_
    ·intro K h;exact mW hm hw.1 h
    ·intro K K' h;exact oj hm (h _)
 |loop c ih=>intro n S K hw;simp [C5] at hw
 |rangeFunc=>intro n S K hw;simp [C5] at hw
 |scope b ih=>intro n S K hw h;simp only[C5] at hw;simp only[gq] at h⊢;exact ih _ _ _ hw h
 |label=>intro n S K hw h;simp only[gq] at h⊢;exact⟨h,.refl ..⟩
 |goto=>intro n S K hw;simp [C5] at hw
 |refuse=>intro n S K hw;simp [C5] at hw
end
section
variable {E:kv} {H0:ag} {ρ0:dB} {w0:World} {ann:bP} {N:Nat} {ρ lam:dB} {S:St} {a:Act} {w:World} {R:mn}
def za (aF:Array Oper) (listed:Array Bool):Prop:=
 ∀i o,aF[i]? =some o→listed.getD i false=true→∀e∈o.after.toList,Region.binds .any e=true→listed.getD e.on false=true
theorem pW {aF:Array Oper} {listed:Array Bool} (wI:za aF listed) (TB:oh aF.toList 0=true):∀(i:Nat) (o:Oper) (b:List Nat),aF[i]? =some o→(iS aF.toList [])[i]? =some b→(∀e∈o.after.toList,Region.binds .any e=true→listed.getD e.on false=true)→∀j∈b,listed.getD j false=true:=by
 intro i
 induction i using Nat.strongRecOn with
 |_ i ih=>
  intro o b ho hb hl j hj;rcases uw aF.toList [] i b hb with⟨h,_⟩|⟨q,h1,_,h3⟩
  ·simp at h
  ·have hq:q=o:=by simp only[List.length_nil,Nat.sub_zero] at h1;rw[Array.getElem?_toList,ho] at h1;exact(Option.some.inj h1).symm
   subst hq;obtain⟨e,he,Qt,hj⟩:=h3 j hj;rcases hj with rfl|⟨hlt,b',hb',hj⟩
   ·exact hl e he Qt
   ·have M5:=hl e he Qt
    have hin:e.on<aF.size:=by
     rcases Nat.lt_or_ge e.on aF.size with h|h
     ·exact h
     ·have:=(Array.getElem?_eq_some_iff.1 ho).1;omega
    exact ih e.on hlt aF[e.on] b' (Array.getElem?_eq_getElem hin) hb' (wI e.on _ (Array.getElem?_eq_getElem hin) M5) j hj
theorem qU {listed:Array Bool} {i:Nat} (h:i<listed.size):listed.getD i true=listed.getD i false:=by simp [Array.getD,h]
theorem HU (hR:nC E R) {aF:Array Oper} {Q:Exit→Act→World→Prop} {K:St→Prop} (hok:yl E ann aF.toList=true) (hq:∀S' ρ' dI a' w',SR H0 ρ0 w0 ann N ρ' dI S' a' w'→K S'→Q .normal a' w'):∀(fuel:Nat) (listed:Array Bool) {S:St} {ρ lam:dB} {a:Act} {w:World},listed.size=aF.size→za aF listed→(jY aF.size listed).length≤fuel→hG E R ann N aF (jY aF.size listed) S K→SR H0 ρ0 w0 ann N ρ lam S a w→wpAny E.P .any aF Q fuel listed a w:=by
 rw[yl,Bool.and_eq_true] at hok;obtain⟨TB,SC⟩:=hok
 have hin:∀{listed:Array Bool} {i:Nat},listed.size=aF.size→i∈Region.ready .any aF listed→i<aF.size∧listed.getD i false=false:=by
  intro listed i hs hi;obtain⟨h0,o,ho,_⟩:=mem_ready.1 hi;have hlt:=(Array.getElem?_eq_some_iff.1 ho).1;exact⟨hlt,by rw[←qU (by omega)];exact h0⟩
 have hmem:∀{listed:Array Bool} {i:Nat},i<aF.size→listed.getD i false=false→i∈jY aF.size listed:=by
  intro listed i h1 h2;unfold jY;rw[List.mem_filter,List.mem_range];exact⟨h1,by rw[h2];rfl⟩
 intro fuel
 induction fuel with
 |zero=>
  intro listed S ρ lam a w hs wI hlen hk h;have EL:jY aF.size listed=[]:=List.eq_nil_of_length_eq_zero (by omega);rw[EL] at hk;refine⟨?_,hq _ _ _ _ _ h hk⟩
  cases hr:Region.ready .any aF listed with
  |nil=>rfl
  |cons i l=>
   obtain⟨h1,h2⟩:=hin hs (hr▸List.mem_cons_self .. :i∈Region.ready .any aF listed);have:=hmem h1 h2;rw[EL] at this;cases this
 |succ fuel ih=>
  intro listed S ρ lam a w hs wI hlen hk h;refine⟨fun hnone=> ?_,fun i hi=> ?_⟩
  ·have hall:∀i,i<aF.size→listed.getD i false=true:=by
    intro i
    induction i using Nat.strongRecOn with
    |_ i ihi=>
     intro hi;cases hl:listed.getD i false
     ·exfalso
      have:i∈Region.ready .any aF listed:=by
       refine mem_ready.2 ⟨by rw[qU (by omega)];exact hl,aF[i],Array.getElem?_eq_getElem hi,fun e he hb=> ?_⟩;have hlt:=oC TB i aF[i] (by rw[Array.getElem?_toList,Array.getElem?_eq_getElem hi]) e (Array.mem_toList_iff.2 he) hb;exact ihi e.on (by omega) (by omega)
      rw[hnone] at this;cases this
     ·rfl
   have EL:jY aF.size listed=[]:=by
    unfold jY;rw[List.filter_eq_nil_iff];intro i hi;rw[hall i (List.mem_range.1 hi)];simp
   rw[EL] at hk;exact hq _ _ _ _ _ h hk
  ·obtain⟨h1,h2⟩:=hin hs hi;obtain⟨_,o,ho,Az⟩:=mem_ready.1 hi
   have Wi:za aF (listed.setIfInBounds i true):=by
    intro j p hp hj e he hb;by_cases hji:i=j
    ·subst hji;rw[ho] at hp;cases hp;exact getD_set_true (Az e (Array.mem_toList_iff.1 he) hb)
    ·rw[getD_set_ne false hji] at hj;exact getD_set_true (wI j p hp hj e he hb)
   obtain⟨pre,post,e1,e2,h3,h4⟩:=ux (p:=fun j=> !listed.getD j false) (q:=fun j=> !(listed.setIfInBounds i true).getD j false) (i:=i)
    (fun j hj=>by rw[getD_set_ne false (fun e=>hj e.symm)]) (by simp only[h2];rfl) (by simp [Array.getD,hs,h1]) (List.range aF.size) (List.mem_range.2 h1) List.nodup_range
   have hk':hG E R ann N aF (pre++i::post) S K:=by
    have:jY aF.size listed=pre++i::post:=e1;rw[←this];exact hk
   have hstep:=uu hR ho pre post (by
    intro j hj p hp;obtain⟨hj1,hj2,hj3⟩:=h3 j hj;have hlt:=h4 List.pairwise_lt_range j hj;have hf:(aF.toList.map (cY E ann aF.toList))[i]? =some (cY E ann aF.toList o):=by rw[List.getElem?_map,Array.getElem?_toList,ho];rfl
    have MK:=pR SC i _ hf;rw[Nat.zero_add] at MK;obtain⟨g,b,hg,hb,Tm⟩:=uv MK j hlt;have hg':g=cY E ann aF.toList p:=by rw[List.getElem?_map,Array.getElem?_toList,hp] at hg;exact(Option.some.inj hg).symm
    subst hg';rcases Tm with Tm|Tm
    ·have:=pW wI TB i o b ho hb (fun e he Qt=>Az e (Array.mem_toList_iff.1 he) Qt) j Tm;simp only[this] at hj2;cases hj2
    ·exact Tm) hk'
   refine pO hR.ext hR.call hR.body h ho hstep ?_;intro S' ρ' dI a' w' h' hk2;have e3:jY aF.size (listed.setIfInBounds i true)=pre++post:=e2;refine ih _ (by simp [hs]) Wi ?_ (by rw[e3];exact hk2) h';have QI:jY aF.size listed=pre++i::post:=e1;rw[QI] at hlen;rw[e3];simp at hlen⊢;omega
end
theorem zb:∀{l m:List Nat},jn l m=true→∃x,x∈l∧x∈m
 |y::l,m,h=>by
  rw[jn,Bool.or_eq_true] at h;rcases h with h|h
  ·exact⟨y,List.mem_cons_self ..,jz.1 h⟩
  ·obtain⟨x,hx1,vt⟩:=zb h;exact⟨x,List.mem_cons_of_mem _ hx1,vt⟩
theorem my (n:Nat):∀l,jw n l=l.filter (fun x=> !decide (x=n))
 |[]=>rfl
 |x::l=>by
  rw[jw,aW,my n l];by_cases h:n=x
  ·subst h;simp
  ·have:¬x=n:=fun e=>h e.symm
   simp [h,this]
theorem nD {n j:Nat} {l:List Nat}:j∈jw n l↔j∈l∧j≠n:=by
 rw[my,List.mem_filter];simp
theorem BJ (i j:Nat) (l:List Nat):jw i (jw j l)=jw j (jw i l):=by
 rw[my,my,my,my,List.filter_filter,List.filter_filter];congr 1;funext x;rw[Bool.and_comm]
theorem pX {n:Nat} {l:List Nat} (h:n∈l):(jw n l).length<l.length:=by
 rw[my];have:=List.length_filter_lt_length_iff_exists (p:=fun x=> !decide (x=n)) (l:=l);exact this.2 ⟨n,h,by simp⟩
section
variable {fs:List jS} {bs:List (List Nat)}
theorem pY {rem:List Nat} {i:Nat}:gy bs rem i=true↔∀x∈nr bs i,x∉rem:=by
 unfold gy;rw[Bool.not_eq_true'];constructor
 ·exact fun h x hx=>fP h x hx
 ·intro h;cases hm:jn (nr bs i) rem
  ·rfl
  ·obtain⟨x,h1,h2⟩:=zb hm;exact absurd h2 (h x h1)
theorem qV {rem:List Nat} {i j:Nat} (h:gy bs rem j=true):gy bs (jw i rem) j=true:=by
 rw[pY] at h⊢;exact fun x hx hm=>h x hx (nD.1 hm).1
theorem mX {i:Nat} {f:jS}:∀{rem:List Nat},dV fs bs i f rem=true↔∀j∈rem,i=j∨i∈nr bs j∨∃g,fs[j]? =some g∧gx g f=true∧gx f g=true
 |[]=>by simp [dV]
 |j::l=>by
  rw[dV,Bool.and_eq_true,mX];simp only[List.forall_mem_cons];refine and_congr ?_ Iff.rfl;simp only[Bool.or_eq_true,aW,decide_eq_true_eq,jz,or_assoc];refine or_congr Iff.rfl (or_congr Iff.rfl ?_)
  cases fs[j]? with
  |none=>simp
  |some g=>simp
theorem r7 {i j:Nat} {f:jS} {rem:List Nat} (h:dV fs bs i f rem=true):dV fs bs i f (jw j rem)=true:=by
 rw[mX] at h⊢;exact fun k hk=>h k (nD.1 hk).1
theorem qW {rem:List Nat} {i:Nat}:∀{l:List Nat},oi fs bs rem l=some i→i∈l∧gy bs rem i=true∧∃f,fs[i]? =some f∧dV fs bs i f rem=true
 |x::l,h=>by
  rw[oi] at h;split at h
  ·rename_i f hr hf
   cases hc:dV fs bs x f rem with
   |true=>
    rw[hc] at h;simp only[cond_true,Option.some.injEq] at h;subst h;exact⟨List.mem_cons_self ..,hr,f,hf,hc⟩
   |false=>
    rw[hc] at h;obtain⟨h1,h2⟩:=qW h;exact⟨List.mem_cons_of_mem _ h1,h2⟩
  ·obtain⟨h1,h2⟩:=qW h;exact⟨List.mem_cons_of_mem _ h1,h2⟩
theorem vQ {rem:List Nat}:∀{l:List Nat},oi fs bs rem l=none→∀i∈l,gy bs rem i=true→∀f,fs[i]? =some f→dV fs bs i f rem=false
 |x::l,h,i,hi,hr,f,hf=>by
  rw[oi] at h;rcases List.mem_cons.1 hi with rfl|hi
  ·rw[hr,hf] at h;simp only[] at h
   cases hc:dV fs bs i f rem with
   |true=>rw[hc] at h;cases h
   |false=>rfl
  ·split at h
   ·rename_i g _ _
    cases hc:dV fs bs x g rem with
    |true=>rw[hc] at h;cases h
    |false=>rw[hc] at h;exact vQ h i hi hr f hf
   ·exact vQ h i hi hr f hf
theorem FB {step:Nat→St→(St→Prop)→Prop} {g:Nat→rQ} {S:St} {K:St→Prop}:∀{l:List Nat},iq step (QR g l) S K→∀i∈l,step i S fun S'=>iq step (g i) S' K
 |[x],h,i,hi=>by
  rw[List.mem_singleton] at hi;subst hi;exact h
 |x::y::l,h,i,hi=>by
  obtain⟨h1,h2⟩:=h;rcases List.mem_cons.1 hi with rfl|hi
  ·exact h1
  ·exact FB h2 i hi
theorem pZ {rem:List Nat} {i:Nat} (hr:gy bs rem i=true):∀{l:List Nat},i∈l→i∈qM bs rem l
 |x::l,h=>by
  rw[qM];rcases List.mem_cons.1 h with rfl|h
  ·rw[hr];exact List.mem_cons_self ..
  ·cases gy bs rem x
   ·exact pZ hr h
   ·exact List.mem_cons_of_mem _ (pZ hr h)
end
section
variable {E:kv} {H0:ag} {ρ0:dB} {w0:World} {ann:bP} {N:Nat} {ρ lam:dB} {S:St} {a:Act} {w:World} {R:mn}
def iF (E:kv) (R:mn) (ann:bP) (N:Nat) (aF:Array Oper) (i:Nat) (S:St) (K:St→Prop):Prop:=
 match aF[i]? with
 |some o=>eQ E R ann N aF.toList o S K
 |none=>False
theorem oF (hm:R.le R) {aF:Array Oper} {i:Nat} {S:St} {K K':St→Prop} (h:∀S,K S→K' S) (hk:iF E R ann N aF i S K):iF E R ann N aF i S K':=by
 unfold iF at hk⊢;split at hk
 ·exact eG hm h hk
 ·exact hk
abbrev zd (E:kv) (ann:bP) (aF:Array Oper):List jS:=aF.toList.map (cY E ann aF.toList)
abbrev xw (aF:Array Oper):List (List Nat):=iS aF.toList []
def Bb (E:kv) (R:mn) (ann:bP) (N:Nat) (aF:Array Oper) (n:Nat) (rem:List Nat) (S:St) (K:St→Prop):Prop:=
 iq (iF E R ann N aF) (Bw (zd E ann aF) (xw aF) n rem) S K
theorem SX (hR:nC E R) {aF:Array Oper} {i j:Nat} {S:St} {K:St→Prop} {f g:jS} (hi:(zd E ann aF)[i]? =some f) (hj:(zd E ann aF)[j]? =some g) (ha:gx f g=true) (h:iF E R ann N aF i S fun S'=>iF E R ann N aF j S' K):iF E R ann N aF j S fun S'=>iF E R ann N aF i S' K:=by
 simp only[zd,List.getElem?_map,Array.getElem?_toList,Option.map_eq_some_iff] at hi hj;obtain⟨p,hp,rfl⟩:=hi;obtain⟨q,hq,rfl⟩:=hj;simp only[iF,hp,hq] at h⊢;exact yy hR.mono hR.vC ha h
theorem aaN (hR:nC E R) {aF:Array Oper}:∀(n:Nat),(∀(rem:List Nat) (j:Nat) (S:St) (K:St→Prop),rem.length≤n→j∈rem→j<aF.size→gy (xw aF) rem j=true→Bb E R ann N aF n rem S K→iF E R ann N aF j S fun S'=>Bb E R ann N aF (n-1) (jw j rem) S' K)∧(∀(rem:List Nat) (i:Nat) (f:jS) (S:St) (K:St→Prop),rem.length≤n→i∈rem→(zd E ann aF)[i]? =some f→gy (xw aF) rem i=true→dV (zd E ann aF) (xw aF) i f rem=true→(iF E R ann N aF i S fun S'=>Bb E R ann N aF (n-1) (jw i rem) S' K)→Bb E R ann N aF n rem S K):=by
 intro n
 induction n with
 |zero=>
  refine⟨fun rem j S K hl hj=> ?_,fun rem i f S K hl hi=> ?_⟩
  ·have:=List.eq_nil_of_length_eq_zero (l:=rem) (by omega);subst this;cases hj
  ·have:=List.eq_nil_of_length_eq_zero (l:=rem) (by omega);subst this;cases hi
 |succ m ih=>
  obtain⟨ihE,ihB⟩:=ih
  have TC:∀(rem:List Nat) (S:St) (K:St→Prop) (j:Nat),j∈rem→Bb E R ann N aF (m+1) rem S K=
   (match oi (zd E ann aF) (xw aF) rem rem with
   |some i=>iF E R ann N aF i S fun S'=>Bb E R ann N aF m (jw i rem) S' K
   |none=>iq (iF E R ann N aF) (QR (fun i=>Bw (zd E ann aF) (xw aF) m (jw i rem)) (qM (xw aF) rem rem)) S K):=by
   intro rem S K j hj
   cases rem with
   |nil=>cases hj
   |cons x l=>
    simp only[Bb,Bw];cases oi (zd E ann aF) (xw aF) (x::l) (x::l)<;>rfl
  have app:∀{rem:List Nat} {i j:Nat} {f:jS},i≠j→i∈rem→j∈rem→gy (xw aF) rem j=true→dV (zd E ann aF) (xw aF) i f rem=true→
   ∃g,(zd E ann aF)[j]? =some g∧gx g f=true∧gx f g=true:=by
   intro rem i j f hne hi hj hr hc;rcases (mX.1 hc) j hj with h|h|h
   ·exact absurd h hne
   ·exact absurd hi (pY.1 hr i h)
   ·exact h
  refine⟨?_, ?_⟩
  ·intro rem j S K hl hj hjs hr hk;rw[TC rem S K j hj] at hk;rw[Nat.add_sub_cancel];split at hk
   ·rename_i i hp;obtain⟨hi,hri,f,hf,hc⟩:=qW hp;by_cases hij:i=j
    ·subst hij;exact hk
    ·obtain⟨g,hg,ML,ha2⟩:=app hij hi hj hr hc;have hli:=pX hi;have hlj:=pX hj;have hjd:j∈jw i rem:=nD.2 ⟨hj,fun e=>hij e.symm⟩;have hid:i∈jw j rem:=nD.2 ⟨hi,hij⟩
     have h1:iF E R ann N aF i S fun S1=>iF E R ann N aF j S1 fun S2=>Bb E R ann N aF (m-1) (jw j (jw i rem)) S2 K:=
      oF hR.mono (fun S1 h=>ihE _ j S1 K (by omega) hjd hjs (qV hr) h) hk
     have h2:=SX hR hf hg ha2 h1;refine oF hR.mono (fun S1 h=> ?_) h2;refine ihB _ i f S1 K (by omega) hid hf (qV hri) (r7 hc) ?_;rw[BJ];exact h
   ·exact FB hk j (pZ hr hj)
  ·intro rem i f S K hl hi hf hri hc hk;rw[TC rem S K i hi];rw[Nat.add_sub_cancel] at hk;split
   ·rename_i k hp;obtain⟨hkm,W3,f',hf',tD⟩:=qW hp;by_cases hki:k=i
    ·subst hki;exact hk
    ·obtain⟨g,hg,ML,ha2⟩:=app hki hkm hi hri tD;rw[hf] at hg;cases hg;have hli:=pX hi;have hlk:=pX hkm;have hkd:k∈jw i rem:=nD.2 ⟨hkm,hki⟩;have hid:i∈jw k rem:=nD.2 ⟨hi,fun e=>hki e.symm⟩
     have hks:k<aF.size:=by
      have:=(List.getElem?_eq_some_iff.1 hf').1;simpa using this
     have h1:iF E R ann N aF i S fun S1=>iF E R ann N aF k S1 fun S2=>Bb E R ann N aF (m-1) (jw k (jw i rem)) S2 K:=
      oF hR.mono (fun S1 h=>ihE _ k S1 K (by omega) hkd hks (qV W3) h) hk
     have h2:=SX hR hf hf' ML h1;refine oF hR.mono (fun S1 h=> ?_) h2;refine ihB _ i f S1 K (by omega) hid hf (qV hri) (r7 hc) ?_;rw[BJ];exact h
   ·rename_i hp;have:=vQ hp i hi hri f hf;rw[hc] at this;cases this
theorem Ny {n:Nat} {listed:Array Bool} {i:Nat} (hi:i<listed.size):jY n (listed.setIfInBounds i true)=jw i (jY n listed):=by
 rw[my];unfold jY;rw[List.filter_filter];apply List.filter_congr;intro j _;by_cases h:i=j
 ·subst h;simp [Array.getD,hi]
 ·have:¬j=i:=fun e=>h e.symm
  rw[getD_set_ne false h];simp [this]
theorem FC (hR:nC E R) {aF:Array Oper} {Q:Exit→Act→World→Prop} {K:St→Prop} (TB:oh aF.toList 0=true) (hq:∀S' ρ' dI a' w',SR H0 ρ0 w0 ann N ρ' dI S' a' w'→K S'→Q .normal a' w'):∀(fuel:Nat) (listed:Array Bool) {S:St} {ρ lam:dB} {a:Act} {w:World},listed.size=aF.size→za aF listed→(jY aF.size listed).length≤fuel→Bb E R ann N aF fuel (jY aF.size listed) S K→SR H0 ρ0 w0 ann N ρ lam S a w→wpAny E.P .any aF Q fuel listed a w:=by
 have hin:∀{listed:Array Bool} {i:Nat},listed.size=aF.size→i∈Region.ready .any aF listed→i<aF.size∧listed.getD i false=false:=by
  intro listed i hs hi;obtain⟨h0,o,ho,_⟩:=mem_ready.1 hi;have hlt:=(Array.getElem?_eq_some_iff.1 ho).1;exact⟨hlt,by rw[←qU (by omega)];exact h0⟩
 have hmem:∀{listed:Array Bool} {i:Nat},i<aF.size→listed.getD i false=false→i∈jY aF.size listed:=by
  intro listed i h1 h2;unfold jY;rw[List.mem_filter,List.mem_range];exact⟨h1,by rw[h2];rfl⟩
 intro fuel
 induction fuel with
 |zero=>
  intro listed S ρ lam a w hs wI hlen hk h;have EL:jY aF.size listed=[]:=List.eq_nil_of_length_eq_zero (by omega);rw[EL] at hk;refine⟨?_,hq _ _ _ _ _ h hk⟩
  cases hr:Region.ready .any aF listed with
  |nil=>rfl
  |cons i l=>
   obtain⟨h1,h2⟩:=hin hs (hr▸List.mem_cons_self .. :i∈Region.ready .any aF listed);have:=hmem h1 h2;rw[EL] at this;cases this
 |succ fuel ih=>
  intro listed S ρ lam a w hs wI hlen hk h;refine⟨fun hnone=> ?_,fun i hi=> ?_⟩
  ·have hall:∀i,i<aF.size→listed.getD i false=true:=by
    intro i
    induction i using Nat.strongRecOn with
    |_ i ihi=>
     intro hi;cases hl:listed.getD i false
     ·exfalso
      have:i∈Region.ready .any aF listed:=by
       refine mem_ready.2 ⟨by rw[qU (by omega)];exact hl,aF[i],Array.getElem?_eq_getElem hi,fun e he hb=> ?_⟩;have hlt:=oC TB i aF[i] (by rw[Array.getElem?_toList,Array.getElem?_eq_getElem hi]) e (Array.mem_toList_iff.2 he) hb;exact ihi e.on (by omega) (by omega)
      rw[hnone] at this;cases this
     ·rfl
   have EL:jY aF.size listed=[]:=by
    unfold jY;rw[List.filter_eq_nil_iff];intro i hi;rw[hall i (List.mem_range.1 hi)];simp
   rw[EL] at hk;exact hq _ _ _ _ _ h hk
  ·obtain⟨h1,h2⟩:=hin hs hi;obtain⟨_,o,ho,Az⟩:=mem_ready.1 hi
   have Wi:za aF (listed.setIfInBounds i true):=by
    intro j p hp hj e he hb;by_cases hji:i=j
    ·subst hji;rw[ho] at hp;cases hp;exact getD_set_true (Az e (Array.mem_toList_iff.1 he) hb)
    ·rw[getD_set_ne false hji] at hj;exact getD_set_true (wI j p hp hj e he hb)
   have hr:gy (xw aF) (jY aF.size listed) i=true:=by
    rw[pY];intro x hx hm;unfold nr at hx
    cases hb:(xw aF)[i]? with
    |none=>rw[hb] at hx;simp at hx
    |some b=>
     rw[hb] at hx;have:=pW wI TB i o b ho hb (fun e he Qt=>Az e (Array.mem_toList_iff.1 he) Qt) x hx;unfold jY at hm;rw[List.mem_filter,this] at hm;simp at hm
   have hstep:=(aaN hR (fuel+1)).1 _ i S K hlen (hmem h1 h2) h1 hr hk;simp only[iF,ho,Nat.add_sub_cancel] at hstep;have hd:=pX (hmem h1 h2);rw[←Ny (by omega)] at hstep hd;refine pO hR.ext hR.call hR.body h ho hstep ?_;intro S' ρ' dI a' w' h' hk2;exact ih _ (by simp [hs]) Wi (by omega) hk2 h'
end
section
variable {E:kv} {H0:ag} {ρ0:dB} {w0:World} {ann:bP} {N:Nat} {ρ lam:dB} {S:St} {a:Act} {w:World} {R:mn}
def exR:Ex→Exit
 | .normal=>.normal
 | .exit id=>.exit id
 | .ret=>.ret
theorem uC (hR:nC E R) (hm:E.P.follows .mixedOrders=true) {id:Nat} {aF:Array Oper} {draw:Bool} {Q:Exit→Act→World→Prop} {K:St→Prop} (hok:(!draw||yl E ann aF.toList)=true) (h:SR H0 ρ0 w0 ann N ρ lam S a w) (hk:ly E R ann N aF.toList aF.toList S K) (hq:∀S' ρ' dI a' w',SR H0 ρ0 w0 ann N ρ' dI S' a' w'→K S'→Q .normal a' w'):(Code.region id aF draw).wp E.P Q a w:=by
 rw[BF aF.toList 0 rfl] at hk;rw[Array.length_toList, ←List.range_eq_range'] at hk
 cases draw with
 |false=>exact wp_region (pQ hR _ h hk hq)
 |true=>
  refine wp_region_any hm ?_
  have G9:jY aF.size (Array.replicate aF.size false)=List.range aF.size:=by
   unfold jY;rw[List.filter_eq_self];intro i hi;simp [Array.getD,List.mem_range.1 hi]
  refine HU hR (by simpa using hok) hq aF.size _ (by simp) ?_ (by rw[G9];simp) (by rw[G9];exact hk) (h.drew _);intro i o _ hi;simp [Array.getD] at hi
theorem Lj {aF:Array Oper}:fS E R ann N aF.toList=iF E R ann N aF:=by
 funext i S K;unfold fS iF;rw[Array.getElem?_toList]
 cases aF[i]? with
 |none=>rfl
 |some o=>exact hY
theorem Bc (hR:nC E R) (hm:E.P.follows .mixedOrders=true) {id:Nat} {aF:Array Oper} {draw:Bool} {Q:Exit→Act→World→Prop} {K:St→Prop} (h:SR H0 ρ0 w0 ann N ρ lam S a w) (hk:gS E R ann N aF.toList draw S K) (hq:∀S' ρ' dI a' w',SR H0 ρ0 w0 ann N ρ' dI S' a' w'→K S'→Q .normal a' w'):(Code.region id aF draw).wp E.P Q a w:=by
 unfold gS at hk;split at hk
 ·rename_i hok;rw[kY] at hk;exact uC hR hm hok h hk hq
 ·rename_i hok;obtain⟨TB,hk⟩:=aQ hk
  have SC:draw=true:=by
   cases draw with
   |true=>rfl
   |false=>simp at hok
  subst SC;rw[Lj] at hk;refine wp_region_any hm ?_
  have G9:jY aF.size (Array.replicate aF.size false)=List.range aF.size:=by
   unfold jY;rw[List.filter_eq_self];intro i hi;simp [Array.getD,List.mem_range.1 hi]
  refine FC hR TB hq aF.size _ (by simp) ?_ (by rw[G9];simp) (by rw[G9];rw[Array.length_toList] at hk;exact hk) (h.drew _);intro i o _ hi;simp [Array.getD] at hi
theorem FD {kp:Option ju} {A:(Ex→St→Prop)→Prop} {K:Ex→St→Prop} {X:Prop} (hj:wJ kp A K) (hA:∀K':Ex→St→Prop,A K'→(∀e S' ρ' dI a' w',SR H0 ρ0 w0 ann N ρ' dI S' a' w'→K' e S'→∃G8,SR H0 ρ0 w0 ann N ρ' dI G8 a' w'∧K e G8)→X):X:=by
 unfold wJ at hj
 cases kp with
 |none=>exact hA K hj fun e S' ρ' dI a' w' h hk=>⟨S',h,hk⟩
 |some kp=>
  refine hA _ hj ?_;intro e S' ρ' dI a' w' h hk
  cases e with
  |normal=>
   obtain⟨S1,h1,hk⟩:=jX h hk;exact pP h1 hk
  |exit id=>exact⟨S',h,hk⟩
  |ret=>exact⟨S',h,hk⟩
theorem BK {α:Type} {l:List (Nat×α)} {dr:List Nat} {g:Nat→Option α} {t:Nat} {x:α} (h:over l dr g t=some x):ab l t=some x∨(bC t dr=false∧g t=some x):=by
 unfold over at h;split at h
 ·rename_i y hy;cases h;exact .inl hy
 ·cases hm:bC t dr with
  |true=>rw[hm] at h;cases h
  |false=>rw[hm] at h;exact .inr ⟨rfl,h⟩
theorem p4 {ok:ju→Bool} {kp:Option ju} {S:St} {A:(Ex→St→Prop)→Prop} {K:Ex→St→Prop} {X:Prop} (hag:∀(kp:ju) (K:Ex→St→Prop),ok kp=true→A K→A fun e S'=>K e S'∧gH kp.wT kp.wL S S') (hj:mq ok kp S A K) (hA:∀K':Ex→St→Prop,A K'→(∀e S' ρ' dI a' w',SR H0 ρ0 w0 ann N ρ' dI S' a' w'→K' e S'→∃G8,SR H0 ρ0 w0 ann N ρ' dI G8 a' w'∧K e G8)→X):X:=by
 unfold mq at hj
 cases kp with
 |none=>exact hA K hj fun e S' ρ' dI a' w' h hk=>⟨S',h,hk⟩
 |some kp=>
  simp only[] at hj;split at hj
  ·obtain⟨hok,hj⟩:=aQ hj;refine hA _ (hag kp _ hok hj) ?_;rintro e S' ρ' dI a' w' h ⟨hk,ha⟩
   cases e with
   |exit id=>exact⟨S',h,hk⟩
   |ret=>exact⟨S',h,hk⟩
   |normal=>
    have hk:lz (pE kp.cj) (pE kp.g8) S' fun S1=>ah ((lA S1 kp.cj).1&&(lB S1 kp.g8).1)
     (K .normal ⟨over (lA S1 kp.cj).2 kp.wT S.tm,over (lB S1 kp.g8).2 kp.wL S.lo,S1.hp⟩):=hk
    unfold lz at hk;split at hk
    ·rename_i m l hm hl;obtain⟨hr,hk⟩:=aQ hk;rw[Bool.and_eq_true] at hr;refine⟨_,h.Q4 (S':=⟨over (lA ⟨ab m,ab l,S'.hp⟩ kp.cj).2 kp.wT S.tm,over (lB ⟨ab m,ab l,S'.hp⟩ kp.g8).2 kp.wL S.lo,S'.hp⟩) (fun t x hx=> ?_) (fun t x hx=> ?_) rfl,hk⟩
     ·rcases BK hx with hx|⟨hn,hx⟩
      ·exact sL hm (sN hr.1 hx)
      ·rw[ha.1 t hn];exact hx
     ·rcases BK hx with hx|⟨hn,hx⟩
      ·exact sM hl (sO hr.2 hx)
      ·rw[ha.2 t hn];exact hx
    ·exact hk.elim
  ·exact FD hj hA
theorem Q8 {S:St} {ρ lam:dB} {a:Act} {w:World} {dT dL:List Nat} (h:SR H0 ρ0 w0 ann N ρ lam S a w):SR H0 ρ0 w0 ann N ρ lam (rJ dT dL S) a w:=by
 refine h.Q4 (fun t x hx=> ?_) (fun t x hx=> ?_) rfl
 ·simp only[rJ] at hx
  cases hm:bC t dT with
  |true=>rw[hm] at hx;cases hx
  |false=>rw[hm] at hx;exact hx
 ·simp only[rJ] at hx
  cases hm:bC t dL with
  |true=>rw[hm] at hx;cases hx
  |false=>rw[hm] at hx;exact hx
theorem ze {f:FuncId} {fn:Func} (hR:nC E R) (hm:E.P.follows .mixedOrders=true) (hf:E.P.funcs[f]? =some fn) (acD:ann=E.ann f) (hN:N=fn.ntmps):∀(c:Code) (n:Nat) (S:St) (K:Ex→St→Prop) (ρ lam:dB) (a:Act) (w:World) (Q:Exit→Act→World→Prop),gq E R f ann N c n S K→SR H0 ρ0 w0 ann N ρ lam S a w→(∀e S' ρ' dI a' w',SR H0 ρ0 w0 ann N ρ' dI S' a' w'→K e S'→Q (exR e) a' w')→c.wp E.P Q a w:=by
 intro c
 induction c with
 |skip=>intro n S K ρ lam a w Q hx h hq;exact wp_skip (hq .normal _ _ _ _ _ h hx)
 |seq x y ihx ihy=>
  intro n S K ρ lam a w Q hx h hq;refine wp_seq (ihx n S _ ρ lam a w _ hx h ?_);intro e S' ρ' dI a' w' h' hk
  cases e with
  |normal=>exact ihy _ _ _ _ _ _ _ _ hk h' hq
  |exit id=>exact hq (.exit id) _ _ _ _ _ h' hk
  |ret=>exact hq .ret _ _ _ _ _ h' hk
 |cond c x y ihx ihy=>
  intro n S K ρ lam a w Q hx h hq;simp only[gq] at hx;split at hx
  ·rename_i t ht;have hb:=(h.ev.tv ht).Df;refine p4 (H0:=H0) (ρ0:=ρ0) (w0:=w0) (ann:=ann) (N:=N) ?_ hx ?_
   ·intro kp K hok;rw[Bool.and_eq_true] at hok;exact eY (sQ hR.mono x _ _ _ hok.1) (sQ hR.mono y _ _ _ hok.2)
   intro K' hx hK
   have hq':∀e S' ρ' dI a' w',SR H0 ρ0 w0 ann N ρ' dI S' a' w'→K' e S'→Q (exR e) a' w':=by
    intro e S' ρ' dI a' w' h' hk;obtain⟨G8,h'',Qu⟩:=hK e S' ρ' dI a' w' h' hk;exact hq e _ _ _ _ _ h'' Qu
   rcases gz hx with⟨rfl,hx⟩|⟨rfl,hx⟩
   ·exact wp_cond_true hb (ihx _ _ _ _ _ _ _ _ hx h hq')
   ·exact wp_cond_false hb (ihy _ _ _ _ _ _ _ _ hx h hq')
  ·exact hx.elim
 |block id b ih=>
  intro n S K0 ρ lam a w Q hx h hq;simp only[gq] at hx;refine p4 (H0:=H0) (ρ0:=ρ0) (w0:=w0) (ann:=ann) (N:=N) ?_ hx ?_
  ·intro kp K hok hx;refine gT hR.mono b _ _ _ _ ?_ (sQ hR.mono b _ _ _ hok hx);rintro e S' ⟨hk,ha⟩
   cases e with
   |normal=>exact⟨hk,ha⟩
   |ret=>exact⟨hk,ha⟩
   |exit j=>exact eY (fun h=>⟨h,ha⟩) (fun h=>⟨h,ha⟩) hk
  intro K hx hK;have hq0:=hq
  have hq:∀e S' ρ' dI a' w',SR H0 ρ0 w0 ann N ρ' dI S' a' w'→K e S'→Q (exR e) a' w':=by
   intro e S' ρ' dI a' w' h' hk;obtain⟨G8,h'',Qu⟩:=hK e S' ρ' dI a' w' h' hk;exact hq0 e _ _ _ _ _ h'' Qu
  refine wp_block (ih n S _ ρ lam a w _ hx h ?_);intro e S' ρ' dI a' w' h' hk
  cases e with
  |normal=>exact hq .normal _ _ _ _ _ h' hk
  |exit j=>
   simp only[exR,Exit.inBlock];rcases gz hk with⟨hj,hk⟩|⟨hj,hk⟩
   ·rw[if_pos (Nat.eq_of_beq_eq_true hj)];exact hq .normal _ _ _ _ _ h' hk
   ·rw[if_neg (fun e=>by rw[e,Nat.beq_refl] at hj;cases hj)];exact hq (.exit j) _ _ _ _ _ h' hk
  |ret=>exact hq .ret _ _ _ _ _ h' hk
 |loop c ih=>
  intro n S K ρ lam a w Q hx h hq;simp only[gq] at hx;split at hx
  ·rename_i kp hkp;obtain⟨S0,h0,hx⟩:=jX h hx;subst acD;subst hN;refine Nx (hR.loop _ _ _ _ _ _ hx fn H0 ρ0 w0 ρ lam a w Q hf h0 ?_ ?_)
   ·intro S' ρ' dI a' w' h' hk;obtain⟨G8,h'',hk⟩:=pP h' hk;exact hq .ret _ _ _ _ _ h'' hk
   ·intro id S' ρ' dI a' w' h' hk;obtain⟨G8,h'',hk⟩:=ur h' hk;exact hq (.exit id) _ _ _ _ _ h'' hk
  ·exact hx.elim
 |exit id=>intro n S K ρ lam a w Q hx h hq;exact wp_exit (hq (.exit id) _ _ _ _ _ h hx)
 |ret=>intro n S K ρ lam a w Q hx h hq;exact wp_ret (hq .ret _ _ _ _ _ h hx)
 |region id aF draw=>
  intro n S K ρ lam a w Q hx h hq;simp only[gq] at hx
  have old:∀kp:Option ju,mq (fun kp=>jy E ann kp.wT kp.wL aF.toList) kp S (fun K=>gS E R ann N aF.toList draw S (K .normal)) K→(Code.region id aF draw).wp E.P Q a w:=by
   intro kp hx;refine p4 (H0:=H0) (ρ0:=ρ0) (w0:=w0) (ann:=ann) (N:=N) ?_ hx ?_
   ·intro kp K hok hx;exact mW hR.mono hok hx
   intro K' hx hK;refine Bc hR hm h hx ?_;intro S' ρ' dI a' w' h' hk;obtain⟨G8,h'',Qu⟩:=hK .normal S' ρ' dI a' w' h' hk;exact hq .normal _ _ _ _ _ h'' Qu
  revert hx;split
  ·exact old none
  ·rename_i kp _;split
   ·intro hx;obtain⟨hok,hx⟩:=aQ hx;have hx:=yW hR.mono _ hx;rw[kY] at hx;refine uC hR hm hok h hx ?_;intro S' ρ' dI a' w' h' hk;exact hq .normal _ _ _ _ _ (Q8 h') hk
   ·exact old (some kp)
 |rangeFunc=>intro n S K ρ lam a w Q hx;exact hx.elim
 |scope b ih=>
  intro n S K ρ lam a w Q hx h hq;simp only[gq] at hx;refine wp_scope_straight (ih _ _ _ _ _ _ _ _ hx h ?_);intro e S' ρ' dI a' w' h' hk;have:=hq e S' ρ' dI a' w' h' hk;cases e<;>exact this
 |label l=>
  intro n S K ρ lam a w Q hx h hq;simp only[gq] at hx;exact wp_label (hq .normal _ _ _ _ _ h hx)
 |goto=>intro n S K ρ lam a w Q hx;exact hx.elim
 |refuse=>intro n S K ρ lam a w Q hx;exact hx.elim
end
section
variable {E:kv} {H0:ag} {ρ0:dB} {w0:World} {ann:bP} {N:Nat} {ρ lam:dB} {S:St} {a:Act} {w:World} {R:mn}
def lI (tmps:Array Value):ResultVar→Sem Value
 | .tmp t=>pure (tmps.getD t undef)
 | .cell a t=>do loadVar t (←asAddr (tmps.getD a undef))
theorem zf {e:Operand→Value} {t:TypeId} {x:Operand} {dst:Option Tmp} {type:TypeId} {jl:String} {after:Array Edge} {guard:Option (Nat×Bool)} {v:Value} (h:(execOp e ⟨dst,.load t x,type,jl,after,guard⟩).run E.P w=.ok (.value v) w):(Instr.loadAt t (e x)).run E.P w=.ok v w:=by
 simp only[execOp,Sem.run_bind] at h
 cases hr:(Instr.loadAt t (e x)).run E.P w with
 |ok y w'=>
  rw[hr] at h;simp only[Result.andThen_ok,Sem.run_pure,Result.ok.injEq,Next.value.injEq] at h;rw[h.1,h.2]
 |halt y w'=>rw[hr] at h;simp at h
theorem Bd (h:SR H0 ρ0 w0 ann N ρ lam S a w) {r:ResultVar} {K:V→Prop} (hk:mr E S r K):∃x v,(lI a.tmps r).run E.P w=.ok v w∧VR ρ x v∧K x:=by
 unfold mr at hk;split at hk
 ·rename_i t;split at hk
  ·rename_i x hx;have ht:=h.tm t _ hx;generalize hq:a.tmps.getD t undef=q at ht
   cases ht with
   |v hv=>exact⟨x,q,by simp only[lI,hq];rfl,hv,hk⟩
  ·exact hk.elim
 ·rename_i ad t;split at hk
  ·rename_i s off hs;split at hk
   ·rename_i el cs hlo;split at hk
    ·rename_i r v hv;obtain⟨hr,hk⟩:=aQ hk;obtain⟨b,hb,hc,_⟩:=h.lo s _ hlo;obtain⟨b',hb',he⟩:=h.ev.lp (x:=.tmp ad) hs;rw[hb] at hb';cases hb';obtain⟨v',h1,h2⟩:=oB (E:=E) hc hv hr (fun _ _=>.inl rfl);have he':a.tmps.getD ad undef=.pointer (some ⟨b,off,none⟩):=he;exact⟨v,v',by simp only[lI,he',asAddr,Sem.run_bind,Sem.run_pure,Result.andThen_ok,h1],h2,hk⟩
    ·exact hk.elim
   ·exact hk.elim
  ·split at hk
   ·rename_i d hd;obtain⟨hr,hk⟩:=fR.eZ hk;obtain⟨v,h1,h2⟩:=wW (o:=⟨none,.load t (.tmp ad),0, "", #[],none⟩) (w:=w) h.ev h.hr hd hr;have h3:=zf h1;split at hk
    ·rename_i y hy;rw[hy] at h2
     cases h2 with
     |v hv=>
      refine⟨y,v, ?_,hv,hk⟩;simp only[Instr.loadAt,Sem.run_bind] at h3;simp only[lI,Sem.run_bind];change _=_ at h3
      have he:a.eval (.tmp ad)=a.tmps.getD ad undef:=rfl;rw[he] at h3;generalize a.tmps.getD ad undef=q at h3⊢
      cases q with
      |pointer p=>cases p with
       |some p=>exact h3
       |none=>simp [Instr.sureAddr] at h3
      |_=>simp [Instr.sureAddr] at h3
    ·exact hk.elim
   ·exact hk.elim
theorem p5 (h:SR H0 ρ0 w0 ann N ρ lam S a w):∀{l:List ResultVar} {K:List V→Prop},ns E S l K→∃xs vs,(l.mapM (lI a.tmps)).run E.P w=.ok vs w∧eM ρ xs vs∧K xs
 |[],K,hk=>⟨[],[],by simp,.nil ρ,hk⟩
 |r::l,K,hk=>by
  obtain⟨x,v,h1,h2,hk⟩:=Bd h hk;obtain⟨xs,vs,h3,h4,hk⟩:=p5 h hk;exact⟨x::xs,v::vs,by simp only[List.mapM_cons,Sem.run_bind,h1,h3,Result.andThen_ok,Sem.run_pure],.cons h2 h4,hk⟩
theorem HV (h:SR H0 ρ0 w0 ann N ρ lam S a w) {fn:Func} {K:V→ag→Prop} (hk:K4 E fn K S):∃x v,(results fn a.tmps).run E.P w=.ok v w∧VR ρ x v∧K x S.hp:=by
 obtain⟨xs,vs,h1,h2,hk⟩:=p5 h hk
 have hrun:(results fn a.tmps).run E.P w=.ok (if h:vs.toArray.size=1 then vs.toArray[0] else .tuple vs.toArray) w:=by
  have h0:results fn a.tmps=(fn.results.mapM (lI a.tmps)) >>= fun vs=>pure (if h:vs.size=1 then vs[0] else .tuple vs):=by
   unfold results;congr 1
  have h':(fn.results.mapM (lI a.tmps)).run E.P w=.ok vs.toArray w:=by
   rw[←Array.toArray_toList (xs:=fn.results),List.mapM_toArray];simp only[Sem.run_map,h1,Result.andThen_ok]
  rw[h0,Sem.run_bind,h'];rfl
 cases xs with
 |nil=>rw[h2.gr] at hrun;exact⟨.tuple [],.tuple #[],by simpa using hrun,.gE (.nil ρ),hk⟩
 |cons x l=>
  obtain⟨v,m,rfl,h3,h4⟩:=h2.df
  cases l with
  |nil=>
   rw[h4.gr] at hrun;exact⟨x,v,by simpa using hrun,h3,hk⟩
  |cons y l=>
   have hl:(v::m).toArray.size≠1:=by have:=h2.1;simp at this⊢;intro e;rw[e] at this;simp at this
   rw[dif_neg hl] at hrun;exact⟨.tuple (x::y::l),.tuple (v::m).toArray,hrun,.gE (by simpa using h2),hk⟩
theorem sR:∀{l:List V} {j t:Nat} {x:T},E7 l j t=some x→∃v,x=.v v∧j≤t∧l[t-j]? =some v
 |[],j,t,x,h=>by cases h
 |v::l,j,t,x,h=>by
  simp only[E7,aW] at h;by_cases he:t=j
  ·simp only[he,decide_true,cond_true,Option.some.injEq] at h;exact⟨v,h.symm,by omega,by simp [he]⟩
  ·simp only[he,decide_false,cond_false] at h;obtain⟨u,h1,h2,h3⟩:=sR h;refine⟨u,h1,by omega, ?_⟩;rw[show t-j=t-(j+1)+1 by omega];simpa using h3
theorem DD (hR:nC E R) (hm:E.P.follows .mixedOrders=true) {f:FuncId} {args:List V} {H:ag} {K:V→ag→Prop} (h:(F E R).call f args H K):iD E f args H K∧∃fn,E.P.funcs[f]? =some fn∧fn.body.isSome=true:=by
 simp only[F] at h;split at h
 ·rename_i fn hf;have hf:=E.fn_ok f fn hf;split at h
  ·rename_i c hb;obtain⟨hn,hx⟩:=aQ h;refine⟨?_,fn,hf,by rw[hb];rfl⟩;intro ρ w aS hr has
   have hlen:aS.size≤fn.ntmps:=by
    have h1:=has.1;have h2:=Nat.le_of_ble_eq_true hn;simp at h1;omega
   have hsr:SR H ρ w (E.ann f) fn.ntmps ρ (fun _=>none) ⟨E7 args 0,fun _=>none,H⟩ {tmps:=aS++Array.replicate (fn.ntmps-aS.size) undef,defers:=[]} w:=by
    refine⟨rfl,by simp;omega, ?_, ?_,(fun s L hL=>by cases hL),(fun s s' L L' b hL=>by cases hL),hr,.refl H ρ w⟩
    ·intro t x hx;obtain⟨v,rfl,_,h2⟩:=sR hx;rw[Nat.sub_zero] at h2
     have hlt:t<args.length:=by
      rcases Nat.lt_or_ge t args.length with h|h
      ·exact h
      ·rw[List.getElem?_eq_none h] at h2;cases h2
     have hlt':t<aS.size:=by have:=has.1;simp at this;omega
     refine .v (has.2 t v _ h2 ?_);rw[Array.getD_eq_getD_getElem?,Array.getElem?_append_left hlt',Array.getElem?_eq_getElem hlt'];simp [hlt']
    ·intro t s off hx;obtain⟨v,h1,_⟩:=sR hx;cases h1
   refine calls_of_wp hf hb (ze (H0:=H) (ρ0:=ρ) (w0:=w) hR hm hf rfl rfl c 0 _ _ _ _ _ _ _ hx hsr ?_);intro e S' ρ' dI a' w' h' hk
   have key:K4 E fn K S'→a'.defers=[]∧∃v,(results fn a'.tmps).run E.P w'=.ok v w'∧yJ H ρ w K (.returned v) w':=by
    intro hk;obtain⟨x,v,h1,h2,h3⟩:=HV h' hk;exact⟨h'.defers,v,h1,x,v,S'.hp,ρ',rfl,h3,h2,h'.hr,h'.bV⟩
   cases e with
   |normal=>exact key hk
   |exit id=>exact hk.elim
   |ret=>exact key hk
  ·exact h.elim
 ·exact h.elim
theorem DE (hR:nC E R) (hm:E.P.follows .mixedOrders=true) {c:Code} {f:FuncId} {n:Nat} {S:St} {Kr:St→Prop} {Ke:Nat→St→Prop} (h:(F E R).loop c f n S Kr Ke):nB E c f S Kr Ke:=by
 simp only[F] at h;split at h
 ·rename_i fn kp hf hkp;have hf:=E.fn_ok f fn hf;intro fn' H0 ρ0 w0 ρ lam a w Q hf' hsr hr he;rw[hf] at hf';cases hf';refine HL (ze (H0:=H0) (ρ0:=ρ0) (w0:=w0) hR hm hf rfl rfl c _ _ _ _ _ _ _ _ h hsr ?_);intro e S' ρ' dI a' w' h' hk
  cases e with
  |normal=>
   obtain⟨S0,h0,hk⟩:=jX h' hk;exact hR.loop _ _ _ _ _ _ hk fn H0 ρ0 w0 ρ' dI a' w' Q hf h0 hr he
  |exit id=>
   obtain⟨S0,h0,hk⟩:=jX h' hk;exact he id _ _ _ _ _ h0 hk
  |ret=>
   obtain⟨S0,h0,hk⟩:=jX h' hk;exact hr _ _ _ _ _ h0 hk
 ·exact h.elim
theorem BL (hX:jW E) (hm:E.P.follows .mixedOrders=true):nC E (rR E):=by
 have mono_call:∀{f:FuncId} {args:List V} {H:ag} {K K':V→ag→Prop},(∀v H',K v H'→K' v H')→iD E f args H K→iD E f args H K':=by
  intro f args H K K' hk h ρ w aS hr has;refine(h ρ w aS hr has).mono ?_;rintro e w' ⟨v,v',H',ρ',h1,h2,h3⟩;exact⟨v,v',H',ρ',h1,hk _ _ h2,h3⟩
 have mono_loop:∀{c:Code} {f:FuncId} {S:St} {Kr Qd:St→Prop} {Ke Qe:Nat→St→Prop},(∀S,Kr S→Qd S)→(∀i S,Ke i S→Qe i S)→nB E c f S Kr Ke→nB E c f S Qd Qe:=by
  intro c f S Kr Qd Ke Qe h1 h2 h fn H0 ρ0 w0 ρ lam a w Q hf hsr hr he;exact h fn H0 ρ0 w0 ρ lam a w Q hf hsr (fun S' ρ' dI a' w' h' hk=>hr S' ρ' dI a' w' h' (h1 _ hk)) (fun id S' ρ' dI a' w' h' hk=>he id S' ρ' dI a' w' h' (h2 _ _ hk))
 let G:mn:=
  {call:=fun f args H K=>(rR E).call f args H K∧iD E f args H K∧∃fn,E.P.funcs[f]? =some fn∧fn.body.isSome=true
   loop:=fun c f n S Kr Ke=>(rR E).loop c f n S Kr Ke∧nB E c f S Kr Ke}
 have hGR:G.le (rR E):=⟨fun f args H K K' hk h=>nt.call _ _ _ _ _ hk h.1,fun c f n S Kr Qd Ke Qe h1 h2 h=>nt.loop _ _ _ _ _ _ _ _ h1 h2 h.1⟩
 have hGm:G.le G:=⟨fun f args H K K' hk h=>⟨nt.call _ _ _ _ _ hk h.1,mono_call hk h.2.1,h.2.2⟩,
  fun c f n S Kr Qd Ke Qe h1 h2 h=>⟨nt.loop _ _ _ _ _ _ _ _ h1 h2 h.1,mono_loop h1 h2 h.2⟩⟩
 have hGs:nC E G:=⟨fun f args H K h=>h.2.1,fun f args H K h=>h.2.2,fun c f n S Kr Ke h=>h.2,hGm,
  ⟨fun f args H K h=>sE.call _ _ _ _ h.1,fun c f n S Kr Ke h=>sE.loop _ _ _ _ _ _ h.1⟩,hX⟩
 have hFG:(F E G).le G:=
  ⟨fun f args H K K' hk h=>hGm.call _ _ _ _ _ hk ⟨pH.call _ _ _ _ _ (fun _ _=>id) ((vG hGR).call _ _ _ _ _ (fun _ _=>id) h),DD hGs hm h⟩,
   fun c f n S Kr Qd Ke Qe h1 h2 h=>hGm.loop _ _ _ _ _ _ _ _ h1 h2 ⟨pH.loop _ _ _ _ _ _ _ _ (fun _=>id) (fun _ _=>id) ((vG hGR).loop _ _ _ _ _ _ _ _ (fun _=>id) (fun _ _=>id) h),DE hGs hm h⟩⟩
 have hle:=yn hGm hFG
 exact⟨fun f args H K h=>(hle.call _ _ _ _ _ (fun _ _=>id) h).2.1,fun f args H K h=>(hle.call _ _ _ _ _ (fun _ _=>id) h).2.2,
  fun c f n S Kr Ke h=>(hle.loop _ _ _ _ _ _ _ _ (fun _=>id) (fun _ _=>id) h).2,nt,sE,hX⟩
#print axioms BL
end
def j9:Code→Nat→Nat→Option Code
 | .seq a b,n,m=>match j9 a n m with|some c=>some c|none=>j9 b (n+dY a) m
 | .cond _ a b,n,m=>match j9 a (n+1) m with|some c=>some c|none=>j9 b (n+1+dY a) m
 | .block _ b,n,m=>j9 b n m
 | .scope b,n,m=>j9 b n m
 | .loop b,n,m=>bif Nat.beq n m then some b else j9 b (n+1) m
 |_,_,_=>none
def Nz (E:kv) (f n:Nat):Code:=
 match E.fn f with
 |some fn=>match fn.body with|some c=>(j9 c 0 n).getD .skip|none=>.skip
 |none=>.skip
theorem aK {i:Nat} (h:(i:Int)+1≤9223372036854775807):IntKind.i64.wrap ((i:Int)+1)=((i+1:Nat):Int):=by
 rw[IntWalk.i64_in _ (by omega)];omega
theorem bq {x:Int} (h: -9223372036854775808≤x) (h':x≤9223372036854775807):IntKind.i64.wrap x=x:=IntWalk.i64_in _ ⟨h,h'⟩
@[simp] theorem ao (X Y:Prop):br true X Y=X:=rfl
@[simp] theorem ai (X Y:Prop):br false X Y=Y:=rfl
@[simp] theorem ay (X:Prop):ah true X=X:=rfl
@[simp] theorem WM (X:Prop):ah false X=False:=rfl
theorem zg (c:Bool) (X Y:Prop):br c X Y=if c=true then X else Y:=by cases c<;>rfl
@[simp] theorem eg {α:Type} (A:(α→Prop)→Prop) (Q:α→Prop):cv A Q=A Q:=rfl
@[simp] theorem il (a b:Nat):Nat.beq a b=decide (a=b):=aW
@[simp] theorem mz (a b:Nat):Nat.ble a b=decide (a≤b):=by
  cases h:Nat.ble a b with
  |true=>simpa using Nat.le_of_ble_eq_true h
  |false=>exact(decide_eq_false fun hle=>by rw[Nat.ble_eq_true_of_le hle] at h;cases h).symm
@[simp] theorem lJ {α:Type} (n:Nat):ab ([]:List (Nat×α)) n=none:=rfl
@[simp] theorem iG {α:Type} (k n:Nat) (x:α) (l:List (Nat×α)):ab ((k,x)::l) n=if n=k then some x else ab l n:=by
  simp only[ab,il];by_cases h:n=k<;>simp [h]
@[simp] theorem aaK (x:V):T.val (some (.v x))=x:=rfl
abbrev PS:=St→Prop
def tv (S:St) (n:Nat):V:=T.val (S.1 n)
theorem TV:(∀(S:St) (n:Nat),tv S n=T.val (S.1 n))∧∀x:V,T.val (some (T.v x))=x:=⟨fun _ _=>rfl,fun _=>rfl⟩
@[simp] theorem mY (k:cg) (x:V):aB (.k k) (some (.v x))=x.av k:=rfl
@[simp] theorem p6 (ks:List cg) (x:V):aB (.agg ks) (some (.v x))=(x.isAgg&&aI ks x.af):=rfl
@[simp] theorem uD (s:Nat):aB (.lp s) (some (.lp s 0))=true:=by simp [aB]
@[simp] theorem vR (e:Nat) (ks:List cg) (cs:List V):ea e ks (some (.cells e cs))=aI ks cs:=by simp [ea]
@[simp] theorem iz (e:Nat) (cs:List V):an (some (.cells e cs))=cs:=rfl
@[simp] theorem dJ (x:V) (l:List V):ae (x::l) 0=x:=rfl
@[simp] theorem gh (x y:V) (l:List V):ae (x::y::l) 1=y:=rfl
@[simp] theorem p7 (x y z:V) (l:List V):ae (x::y::z::l) 2=z:=rfl
@[simp] theorem eH (l:List V):V.ar (.tuple l)=l:=rfl
@[simp] theorem cN (l:List V):V.af (.agg l)=l:=rfl
@[simp] theorem eD (l:List V):V.isAgg (.agg l)=true:=rfl
@[simp] theorem bf (k:IntKind) (x:Int):V.aa (.int k x)=x:=rfl
@[simp] theorem bY (b:Bool):V.ak (.bool b)=b:=rfl
@[simp] theorem gJ (b:ByteArray):V.ku (.cH b)=b:=rfl
@[simp] theorem jB (b:Oq):V.aw (.aj b)=b:=rfl
@[simp] theorem bD (p:Oq) (n c:Nat):V.au (.slice p n c)=p:=rfl
@[simp] theorem aU (p:Oq) (n c:Nat):V.ax (.slice p n c)=n:=rfl
@[simp] theorem cq (p:Oq) (n c:Nat):V.aC (.slice p n c)=c:=rfl
@[simp] theorem cO (k:IntKind) (x:Int):V.av (.int k) (.int k x)=true:=by simp [V.av]
@[simp] theorem fk (b:Bool):V.av .bool (.bool b)=true:=rfl
@[simp] theorem kQ (b:ByteArray):V.av .cH (.cH b)=true:=rfl
@[simp] theorem qX (b:Oq):V.av .aj (.aj b)=true:=rfl
@[simp] theorem bR (p:Oq) (n c:Nat):V.av .slice (.slice p n c)=true:=rfl
@[simp] theorem dj (n:Nat) (l:List V):V.aL n (.tuple l)=decide (l.length=n):=by
  by_cases h:l.length=n<;>simp [V.aL,h]
@[simp] theorem WN (c:Bool) (a b:V):bQ c a b=if c=true then a else b:=by rw[nn]
def BM (args:List V) (H:ag) (K:V→ag→Prop):Prop:=
 match args with
 |[.slice (some (i,o)) la _,.slice (some (j,_)) lb _]=>
  i≠j∧0<la∧0<lb∧(∃e cs,H.get i=some (.cells e cs false)∧o<cs.length)∧(∃e cs ro,H.get j=some (.cells e cs ro))∧K (.bool true) H∧K (.bool false) H
 |_=>False
theorem Lk {args:List V} {H:ag} {K:V→ag→Prop} (h:BM args H K):∃i o la ca j o' lb cb,args=[.slice (some (i,o)) la ca,.slice (some (j,o')) lb cb]∧i≠j∧0<la∧0<lb∧(∃e cs,H.get i=some (.cells e cs false)∧o<cs.length)∧(∃e cs ro,H.get j=some (.cells e cs ro))∧K (.bool true) H∧K (.bool false) H:=by
 unfold BM at h;split at h
 ·exact⟨_,_,_,_,_,_,_,_,rfl,h⟩
 ·exact h.elim
def FE:Ext where
 run:=BM
 mono args H K K' h hk:=by
  unfold BM at hk⊢;split at hk
  ·obtain⟨a,b,c,d,e,f,g⟩:=hk;exact⟨a,b,c,d,e,h _ _ f,h _ _ g⟩
  ·exact hk
 vC args H K hk:=by
  unfold BM at hk;split at hk
  ·obtain⟨a,b,c,d,e,f,g⟩:=hk;exact⟨_,_,f⟩
  ·exact hk.elim
theorem HR.heap {ρ:dB} {H:ag} {w w':World} (h:HR ρ H w) (he:w'.heap=w.heap):HR ρ H w':=
 ⟨fun id o hg=>by rw[he];exact h.wR id o hg,h.inj,fun id b hb=>by rw[he];exact h.lt id b hb,h.gl⟩
theorem DF {P:Program} {w:World} {tS tR e:TypeId} (ht:P.underlying tS=some (.slice e)) {size:Nat} (hz:∀w,(Go.sizeOf e).run P w=.ok size w) {a b:Addr} {la ca lb cb:Nat} (hne:a.block≠b.block) {tA tB:TypeId} {kA kB:Nat} (hsa:w.shape? a.block=some (tA,kA)) (hsb:w.shape? b.block=some (tB,kB)) (Qv:w.frozen? a=false):∃r w',(Extern.SlicesOverlaps.overlaps #[tS,tS] #[tR] #[.slice (some a) la ca,.slice (some b) lb cb]).run P w=.ok (.bool r) w'∧(w'=w∨w'=w.drew):=by
 have hnb:(a.block != b.block)=true:=by simpa using hne
 have aah:(a.block == b.block)=false:=by simpa using hne
 change∃r w',Sem.run P (α:=Value) (do
  let some t:=(#[tS,tS]:Array TypeId)[0]? |stuck "slices.overlaps: no parameter types"
  let .slice elem←underlying t|stuck "slices.overlaps: slice type expected"
  let size←sizeOf elem
  match (some a:Option Addr),(some b:Option Addr) with
  |some a,some b=>
   if la=0∨lb=0∨size=0 then pure (Value.bool false)
   else if a.block != b.block&&(←frozen a)&&(←frozen b) then unsupported .addressObserved
   else do
    if a.block != b.block then do
     noView a;noView b
     if←mayBeOne a b then return Value.bool ((←choose (.extern "sameAddr.stringBytes" 2)) == 1)
    pure (Value.bool (a.block == b.block&&a.off<b.off+lb*size&&b.off<a.off+la*size))
  |_,_=>pure (Value.bool false)) w=.ok (.bool r) w'∧(w'=w∨w'=w.drew)
 by_cases h0:la=0∨lb=0∨size=0
 ·exact⟨false,w,by simp [run_underlying ht,hz,h0],.inl rfl⟩
 ·have hm:∃m,(mayBeOne a b).run P w=.ok m w:=by
   cases SD:w.frozen? b<;>cases hf2:w.frozen? ⟨a.block,kA,none⟩<;>cases hf3:w.frozen? ⟨b.block,kB,none⟩<;>cases kA<;>cases kB<;>
    exact⟨_,by simp [mayBeOne,stringish,shape,frozen,Sem.run,hsa,hsb,Qv,SD,hf2,hf3];rfl⟩
  obtain⟨m,hm⟩:=hm
  cases m with
  |false=>exact⟨_,w,by simp [run_underlying ht,hz,h0,hnb,aah,frozen,noView,viewAt,shape,Sem.run,hsa,hsb,Qv,hm];rfl,.inl rfl⟩
  |true=>exact⟨_,w.drew,by simp [run_underlying ht,hz,h0,hnb,aah,frozen,noView,viewAt,shape,Sem.run,hsa,hsb,Qv,hm,Question.forced];rfl,.inr rfl⟩
def aaO (P:Program) (g:Nat):Prop:=∃fn tS tR e,P.funcs[g]? =some fn∧(fn.name == "runtime.NumGoroutine")=false∧fn.body.isNone=true∧Extern.findNext fn=none∧
 Extern.find fn=some (Extern.SlicesOverlaps.overlaps #[tS,tS] #[tR])∧P.underlying tS=some (.slice e)∧(P.info? e).isSome=true
inductive XK where
 |overlaps
def Xj (P:Program):XK→Ext
 | .overlaps=>FE
def XOk (P:Program) (g:Nat):XK→Prop
 | .overlaps=>aaO P g
def HW (P:Program) (l:List (Nat×XK)) (g:Nat):Option Ext:=(ab l g).map (Xj P)
theorem Ll {E:kv} {l:List (Nat×XK)} (he:E.ext=HW E.P l) (hl:∀g k,ab l g=some k→XOk E.P g k):jW E:=by
 intro g x hx args H K hk ρ w aS hr ha;rw[he,HW] at hx
 cases hm:ab l g with
 |none=>rw[hm] at hx;cases hx
 |some k=>
  rw[hm] at hx;simp only[Option.map_some,Option.some.injEq] at hx;subst hx;have hok:=hl g k hm
  cases k with
  |overlaps=>
  obtain⟨fn,tS,tR,e,h1,h2,h3,h4,h5,h6,h7⟩:=hok;obtain⟨dh,h7⟩:=Option.isSome_iff_exists.1 h7;left;obtain⟨i,o,la,ca,j,o',lb,cb,rfl,hij,hla,hlb,⟨e1,cs1,SE,ho⟩,⟨e2,cs2,ro,I4⟩,G6,hkf⟩:=Lk hk;obtain⟨x1,r1,xJ,hx1,n5⟩:=ha.df;obtain⟨x2,r2,xI,vt,tF⟩:=n5.df;have Qg:=tF.gr;subst Qg;subst xI
  obtain rfl:aS= #[x1,x2]:=by
   apply Array.ext';rw[xJ]
  obtain⟨b1,Ax,aai,fz1,G3,px,_,hfz⟩:=hr.wR i _ SE;obtain⟨b2,nf,acE,fz2,Hn,_⟩:=hr.wR j _ I4
  have hne:b1≠b2:=by
   intro hb;subst hb;exact hij (hr.inj i j _ _ b1 SE I4 rfl Ax nf)
  rcases hx1.ff with⟨b,hb,rfl⟩|⟨h0,_⟩;rotate_left
  ·omega
  rcases vt.ff with⟨b',hb',rfl⟩|⟨h0,_⟩;rotate_left
  ·omega
  rw[Ax] at hb;rw[nf] at hb';cases hb;cases hb';have hlen:aai.size=cs1.length:=by have:=px.1;simp at this;omega
  have Qv:w.frozen? ⟨b1,o,none⟩=false:=by
   simp only[World.frozen?,G3];rcases hfz rfl with h|h
   ·rw[h];by_cases hh:fz1.2≤o
    ·have:¬o<fz1.2:=by omega
     simp [this]
    ·simp [hh]
   ·have:¬fz1.1≤o:=by omega
    simp [this]
  obtain⟨r,w',hrun,hw⟩:=DF (P:=E.P) (w:=w) (tR:=tR) h6 (size:=dh.size) (fun w=>by simp [sizeOf,typeInfo,h7]) (a:=⟨b1,o,none⟩) (b:=⟨b2,o',none⟩) (la:=la) (ca:=ca) (lb:=lb) (cb:=cb) hne
   (tA:=e1) (kA:=aai.size) (tB:=e2) (kB:=acE.size) (by simp [World.shape?,G3]) (by simp [World.shape?,Hn]) Qv
  have hK:K (.bool r) H:=by cases r<;>assumption
  have aaj:w'.heap=w.heap:=by rcases hw with rfl|rfl<;>rfl
  refine⟨.bool r,.bool r,w',H,ρ, ?_,hK,.bool _,hr.heap aaj, ?_⟩
  ·rw[run_callFunc_extern h1 h2 h3 h4 h5,hrun];rfl
  ·rcases hw with rfl|rfl
   ·exact .refl ..
   ·exact⟨.refl ρ,fun _ _ _=>rfl,fun _ h=>.inl h,fun _ h=>.inl h,Nat.le_refl _,rfl,rfl,rfl⟩
end Go.Am
end
section
namespace Go.Proofs.YtlgdkndamddpkaaGreat
open Go.Am
def fz:TI:=⟨.func,1,8,some .nilFunc⟩
def tab:List TI:=[⟨.tuple [],1,0,none⟩,fz,⟨.int .i64,1,8,some (.int .i64 0)⟩,⟨.int .i64,1,8,some (.int .i64 0)⟩,⟨.bool,1,1,some (.bool false)⟩,⟨.int .u8,1,1,some (.int .u8 0)⟩,⟨.int .u8,1,1,some (.int .u8 0)⟩,⟨.struct [(0,2),(1,3),(2,4),(3,6)],4,24,some (.agg [.int .i64 0,.int .i64 0,.bool false,.int .u8 0])⟩,⟨.struct [(0,2),(1,3),(2,4),(3,6)],4,24,some (.agg [.int .i64 0,.int .i64 0,.bool false,.int .u8 0])⟩,⟨.cH,1,16,some (.cH ⟨#[]⟩)⟩,⟨.cH,1,16,some (.cH ⟨#[]⟩)⟩,⟨.cH,1,16,some (.cH ⟨#[]⟩)⟩,⟨.int .u64,1,8,some (.int .u64 0)⟩,⟨.struct [(0,9),(1,12)],2,24,some (.agg [.cH ⟨#[]⟩,.int .u64 0])⟩,⟨.struct [(0,9),(1,12)],2,24,some (.agg [.cH ⟨#[]⟩,.int .u64 0])⟩,⟨.aj 227,1,8,some (.aj none)⟩,⟨.aj 230,1,8,some (.aj none)⟩,⟨.aj 238,1,8,some (.aj none)⟩,⟨.struct [(0,17)],1,8,some (.agg [.aj none])⟩,⟨.struct [(0,17)],1,8,some (.agg [.aj none])⟩,⟨.iface,1,16,some (.nilIface)⟩,⟨.int .i32,1,4,some (.int .i32 0)⟩,⟨.slice 38,1,24,some (.slice none 0 0)⟩,fz,⟨.slice 3,1,24,some (.slice none 0 0)⟩,⟨.struct [(0,3),(1,3),(2,3),(3,24)],4,48,some (.agg [.int .i64 0,.int .i64 0,.int .i64 0,.slice none 0 0])⟩,⟨.struct [(0,3),(1,3),(2,3),(3,24)],4,48,some (.agg [.int .i64 0,.int .i64 0,.int .i64 0,.slice none 0 0])⟩,fz,⟨.aj 81,1,8,some (.aj none)⟩,⟨.int .i64,1,8,some (.int .i64 0)⟩,⟨.tuple [28,29],1,0,none⟩,fz,⟨.aj 93,1,8,some (.aj none)⟩,⟨.tuple [32,29],1,0,none⟩,fz,⟨.int .u64,1,8,some (.int .u64 0)⟩,⟨.slice 5,1,24,some (.slice none 0 0)⟩,⟨.struct [(0,5),(1,5),(2,5),(3,5),(4,5),(5,5),(6,4),(7,4),(8,36),(9,5)],10,40,some (.agg [.int .u8 0,.int .u8 0,.int .u8 0,.int .u8 0,.int .u8 0,.int .u8 0,.bool false,.bool false,.slice none 0 0,.int .u8 0])⟩,⟨.struct [(0,5),(1,5),(2,5),(3,5),(4,5),(5,5),(6,4),(7,4),(8,36),(9,5)],10,40,some (.agg [.int .u8 0,.int .u8 0,.int .u8 0,.int .u8 0,.int .u8 0,.int .u8 0,.bool false,.bool false,.slice none 0 0,.int .u8 0])⟩,⟨.int .u32,1,4,some (.int .u32 0)⟩,⟨.struct [(0,5),(1,3),(2,36),(3,4),(4,39),(5,39),(6,5),(7,4)],8,56,some (.agg [.int .u8 0,.int .i64 0,.slice none 0 0,.bool false,.int .u32 0,.int .u32 0,.int .u8 0,.bool false])⟩,⟨.struct [(0,5),(1,3),(2,36),(3,4),(4,39),(5,39),(6,5),(7,4)],8,56,some (.agg [.int .u8 0,.int .i64 0,.slice none 0 0,.bool false,.int .u32 0,.int .u32 0,.int .u8 0,.bool false])⟩,⟨.tuple [3,41],1,0,none⟩,fz,⟨.vx 8 39,8,32,some (.agg [.int .u32 0,.int .u32 0,.int .u32 0,.int .u32 0,.int .u32 0,.int .u32 0,.int .u32 0,.int .u32 0])⟩,⟨.struct [(0,44),(8,5),(9,3),(10,39),(11,4)],12,56,some (.agg [.int .u32 0,.int .u32 0,.int .u32 0,.int .u32 0,.int .u32 0,.int .u32 0,.int .u32 0,.int .u32 0,.int .u8 0,.int .i64 0,.int .u32 0,.bool false])⟩,⟨.struct [(0,44),(8,5),(9,3),(10,39),(11,4)],12,56,some (.agg [.int .u32 0,.int .u32 0,.int .u32 0,.int .u32 0,.int .u32 0,.int .u32 0,.int .u32 0,.int .u32 0,.int .u8 0,.int .i64 0,.int .u32 0,.bool false])⟩,fz,⟨.struct [(0,29),(1,36),(2,46)],14,88,some (.agg [.int .i64 0,.slice none 0 0,.int .u32 0,.int .u32 0,.int .u32 0,.int .u32 0,.int .u32 0,.int .u32 0,.int .u32 0,.int .u32 0,.int .u8 0,.int .i64 0,.int .u32 0,.bool false])⟩,⟨.struct [(0,29),(1,36),(2,46)],14,88,some (.agg [.int .i64 0,.slice none 0 0,.int .u32 0,.int .u32 0,.int .u32 0,.int .u32 0,.int .u32 0,.int .u32 0,.int .u32 0,.int .u32 0,.int .u8 0,.int .i64 0,.int .u32 0,.bool false])⟩,⟨.tuple [49,29],1,0,none⟩,fz,fz,fz,fz,⟨.aj 60,1,8,some (.aj none)⟩,fz,⟨.slice 9,1,24,some (.slice none 0 0)⟩,⟨.slice 109,1,24,some (.slice none 0 0)⟩,⟨.struct [(0,57),(1,58),(2,46)],14,104,some (.agg [.slice none 0 0,.slice none 0 0,.int .u32 0,.int .u32 0,.int .u32 0,.int .u32 0,.int .u32 0,.int .u32 0,.int .u32 0,.int .u32 0,.int .u8 0,.int .i64 0,.int .u32 0,.bool false])⟩,⟨.struct [(0,57),(1,58),(2,46)],14,104,some (.agg [.slice none 0 0,.slice none 0 0,.int .u32 0,.int .u32 0,.int .u32 0,.int .u32 0,.int .u32 0,.int .u32 0,.int .u32 0,.int .u32 0,.int .u8 0,.int .i64 0,.int .u32 0,.bool false])⟩,⟨.tuple [3,9,46],1,0,none⟩,fz,fz,fz,fz,⟨.tuple [36,29],1,0,none⟩,fz,fz,fz,fz,fz,fz,fz,fz,fz,fz,fz,⟨.slice 84,1,24,some (.slice none 0 0)⟩,fz,⟨.struct [(0,78),(1,3),(2,35),(3,3),(4,3),(5,4),(6,3),(7,79)],8,80,some (.agg [.slice none 0 0,.int .i64 0,.int .u64 0,.int .i64 0,.int .i64 0,.bool false,.int .i64 0,.nilFunc])⟩,⟨.struct [(0,78),(1,3),(2,35),(3,3),(4,3),(5,4),(6,3),(7,79)],8,80,some (.agg [.slice none 0 0,.int .i64 0,.int .u64 0,.int .i64 0,.int .i64 0,.bool false,.int .i64 0,.nilFunc])⟩,⟨.slice 36,1,24,some (.slice none 0 0)⟩,⟨.struct [(0,82),(1,3),(2,4),(3,4),(4,4),(5,3)],6,48,some (.agg [.slice none 0 0,.int .i64 0,.bool false,.bool false,.bool false,.int .i64 0])⟩,⟨.struct [(0,82),(1,3),(2,4),(3,4),(4,4),(5,3)],6,48,some (.agg [.slice none 0 0,.int .i64 0,.bool false,.bool false,.bool false,.int .i64 0])⟩,⟨.aj 120,1,8,some (.aj none)⟩,⟨.tuple [85,29],1,0,none⟩,fz,⟨.aj 91,1,8,some (.aj none)⟩,⟨.slice 138,1,24,some (.slice none 0 0)⟩,⟨.struct [(0,89)],1,24,some (.agg [.slice none 0 0])⟩,⟨.struct [(0,89)],1,24,some (.agg [.slice none 0 0])⟩,⟨.struct [(0,28),(1,26),(5,85),(6,88),(7,46),(19,4)],20,136,some (.agg [.aj none,.int .i64 0,.int .i64 0,.int .i64 0,.slice none 0 0,.aj none,.aj none,.int .u32 0,.int .u32 0,.int .u32 0,.int .u32 0,.int .u32 0,.int .u32 0,.int .u32 0,.int .u32 0,.int .u8 0,.int .i64 0,.int .u32 0,.bool false,.bool false])⟩,⟨.struct [(0,28),(1,26),(5,85),(6,88),(7,46),(19,4)],20,136,some (.agg [.aj none,.int .i64 0,.int .i64 0,.int .i64 0,.slice none 0 0,.aj none,.aj none,.int .u32 0,.int .u32 0,.int .u32 0,.int .u32 0,.int .u32 0,.int .u32 0,.int .u32 0,.int .u32 0,.int .u8 0,.int .i64 0,.int .u32 0,.bool false,.bool false])⟩,fz,⟨.tuple [46,3,29],1,0,none⟩,fz,fz,fz,fz,fz,fz,⟨.tuple [46,3],1,0,none⟩,fz,⟨.aj 84,1,8,some (.aj none)⟩,⟨.tuple [104,29],1,0,none⟩,fz,fz,⟨.struct [(0,3),(1,9)],2,24,some (.agg [.int .i64 0,.cH ⟨#[]⟩])⟩,⟨.struct [(0,3),(1,9)],2,24,some (.agg [.int .i64 0,.cH ⟨#[]⟩])⟩,⟨.aj 175,1,8,some (.aj none)⟩,⟨.map 3 130,1,8,some (.map none)⟩,⟨.struct [(0,110),(1,111),(2,35),(3,24)],4,48,some (.agg [.aj none,.map none,.int .u64 0,.slice none 0 0])⟩,⟨.struct [(0,110),(1,111),(2,35),(3,24)],4,48,some (.agg [.aj none,.map none,.int .u64 0,.slice none 0 0])⟩,⟨.tuple [113,29],1,0,none⟩,fz,⟨.aj 166,1,8,some (.aj none)⟩,⟨.tuple [116,29],1,0,none⟩,fz,⟨.struct [(0,28),(1,26),(5,35),(6,110),(7,116),(8,35)],9,88,some (.agg [.aj none,.int .i64 0,.int .i64 0,.int .i64 0,.slice none 0 0,.int .u64 0,.aj none,.aj none,.int .u64 0])⟩,⟨.struct [(0,28),(1,26),(5,35),(6,110),(7,116),(8,35)],9,88,some (.agg [.aj none,.int .i64 0,.int .i64 0,.int .i64 0,.slice none 0 0,.int .u64 0,.aj none,.aj none,.int .u64 0])⟩,fz,fz,fz,fz,⟨.struct [(0,5),(1,35),(2,35),(3,3),(4,3),(5,36)],6,64,some (.agg [.int .u8 0,.int .u64 0,.int .u64 0,.int .i64 0,.int .i64 0,.slice none 0 0])⟩,⟨.struct [(0,5),(1,35),(2,35),(3,3),(4,3),(5,36)],6,64,some (.agg [.int .u8 0,.int .u64 0,.int .u64 0,.int .i64 0,.int .i64 0,.slice none 0 0])⟩,⟨.struct [(0,3),(1,3)],2,16,some (.agg [.int .i64 0,.int .i64 0])⟩,⟨.struct [(0,3),(1,3)],2,16,some (.agg [.int .i64 0,.int .i64 0])⟩,⟨.struct [(0,128),(2,126)],8,80,some (.agg [.int .i64 0,.int .i64 0,.int .u8 0,.int .u64 0,.int .u64 0,.int .i64 0,.int .i64 0,.slice none 0 0])⟩,⟨.struct [(0,128),(2,126)],8,80,some (.agg [.int .i64 0,.int .i64 0,.int .u8 0,.int .u64 0,.int .u64 0,.int .i64 0,.int .i64 0,.slice none 0 0])⟩,⟨.tuple [126,29],1,0,none⟩,fz,⟨.aj 182,1,8,some (.aj none)⟩,fz,fz,fz,⟨.struct [(0,3),(1,36),(2,4)],3,40,some (.agg [.int .i64 0,.slice none 0 0,.bool false])⟩,⟨.struct [(0,3),(1,36),(2,4)],3,40,some (.agg [.int .i64 0,.slice none 0 0,.bool false])⟩,⟨.tuple [138,4],1,0,none⟩,fz,fz,⟨.tuple [46,29],1,0,none⟩,fz,fz,fz,fz,fz,fz,fz,fz,fz,fz,fz,fz,⟨.tuple [110,29],1,0,none⟩,fz,⟨.map 3 158,1,8,some (.map none)⟩,⟨.slice 130,1,24,some (.slice none 0 0)⟩,⟨.tuple [158,29],1,0,none⟩,fz,fz,⟨.tuple [130,4],1,0,none⟩,fz,⟨.map 3 5,1,8,some (.map none)⟩,⟨.struct [(0,24),(1,164)],2,32,some (.agg [.slice none 0 0,.map none])⟩,⟨.struct [(0,24),(1,164)],2,32,some (.agg [.slice none 0 0,.map none])⟩,fz,fz,⟨.tuple [5,4],1,0,none⟩,⟨.tuple [3,4],1,0,none⟩,fz,⟨.slice 128,1,24,some (.slice none 0 0)⟩,⟨.slice 4,1,24,some (.slice none 0 0)⟩,⟨.struct [(0,172),(1,173),(2,24)],3,72,some (.agg [.slice none 0 0,.slice none 0 0,.slice none 0 0])⟩,⟨.struct [(0,172),(1,173),(2,24)],3,72,some (.agg [.slice none 0 0,.slice none 0 0,.slice none 0 0])⟩,fz,⟨.vx 32 3,32,256,some (.agg [.int .i64 0,.int .i64 0,.int .i64 0,.int .i64 0,.int .i64 0,.int .i64 0,.int .i64 0,.int .i64 0,.int .i64 0,.int .i64 0,.int .i64 0,.int .i64 0,.int .i64 0,.int .i64 0,.int .i64 0,.int .i64 0,.int .i64 0,.int .i64 0,.int .i64 0,.int .i64 0,.int .i64 0,.int .i64 0,.int .i64 0,.int .i64 0,.int .i64 0,.int .i64 0,.int .i64 0,.int .i64 0,.int .i64 0,.int .i64 0,.int .i64 0,.int .i64 0])⟩,⟨.tuple [128,4],1,0,none⟩,fz,fz,⟨.struct [(0,36),(1,4)],2,32,some (.agg [.slice none 0 0,.bool false])⟩,⟨.struct [(0,36),(1,4)],2,32,some (.agg [.slice none 0 0,.bool false])⟩,fz,fz,fz,fz,fz,fz,fz,fz,fz,fz,⟨.tuple [4,4],1,0,none⟩,fz,fz,fz,fz,⟨.vx 6 5,6,6,some (.agg [.int .u8 0,.int .u8 0,.int .u8 0,.int .u8 0,.int .u8 0,.int .u8 0])⟩,fz,fz,fz,fz,fz,⟨.tuple [3,29],1,0,none⟩,fz,fz,fz,fz,fz,⟨.int .u64,1,8,some (.int .u64 0)⟩,fz,fz,fz,fz,fz,fz,fz,fz,⟨.tuple [210,210],1,0,none⟩,fz,⟨.tuple [39,39],1,0,none⟩,fz,⟨.tuple [35,35],1,0,none⟩,fz,fz,⟨.struct [(0,17),(1,17),(2,17),(3,9)],4,40,some (.agg [.aj none,.aj none,.aj none,.cH ⟨#[]⟩])⟩,⟨.struct [(0,17),(1,17),(2,17),(3,9)],4,40,some (.agg [.aj none,.aj none,.aj none,.cH ⟨#[]⟩])⟩,⟨.vx 0 16,0,0,some (.agg [])⟩,⟨.struct [(0,228)],0,0,some (.agg [])⟩,⟨.struct [(0,228)],0,0,some (.agg [])⟩,⟨.int .u8,1,1,some (.int .u8 0)⟩,⟨.int .u8,1,1,some (.int .u8 0)⟩,fz,⟨.aj 5,1,8,some (.aj none)⟩,⟨.int .i32,1,4,some (.int .i32 0)⟩,⟨.int .i32,1,4,some (.int .i32 0)⟩,⟨.struct [(0,12),(1,12),(2,39),(3,231),(4,5),(5,5),(6,232),(7,233),(8,234),(9,235),(10,236)],11,48,some (.agg [.int .u64 0,.int .u64 0,.int .u32 0,.int .u8 0,.int .u8 0,.int .u8 0,.int .u8 0,.nilFunc,.aj none,.int .i32 0,.int .i32 0])⟩,⟨.struct [(0,12),(1,12),(2,39),(3,231),(4,5),(5,5),(6,232),(7,233),(8,234),(9,235),(10,236)],11,48,some (.agg [.int .u64 0,.int .u64 0,.int .u32 0,.int .u8 0,.int .u8 0,.int .u8 0,.int .u8 0,.nilFunc,.aj none,.int .i32 0,.int .i32 0])⟩,⟨.ml,1,8,some (.aj none)⟩]
theorem TU:(List.range 240).map (QO Tryz.prog)=tab.map some:=by kernel_rfl
def k7:List cg:=[.int .i64,.int .i64,.bool,.int .u8]
def c7 (a b:Int) (c:Bool) (d:Int):List V:=[.int .i64 a,.int .i64 b,.bool c,.int .u8 d]
@[simp] theorem f7 (a:Int) (b:Int) (c:Bool) (d:Int):Am.aI k7 (c7 a b c d)=true:=rfl
def zh:List cg:=[.int .i64,.int .i64,.int .i64,.slice]
def dK (a b c:Int) (d:Oq) (e f:Nat):List V:=[.int .i64 a,.int .i64 b,.int .i64 c,.slice d e f]
def r8 (l:List V):List V:=dK (ae l 0).aa (ae l 1).aa (ae l 2).aa (ae l 3).au (ae l 3).ax (ae l 3).aC
@[simp] theorem f25 (a:Int) (b:Int) (c:Int) (d:Oq) (e:Nat) (f:Nat):Am.aI zh (dK a b c d e f)=true:=rfl
@[simp] theorem uE (a b c d e f):r8 (dK a b c d e f)=dK a b c d e f:=rfl
@[simp] theorem mA (a b c d e f):ae (dK a b c d e f) 0=.int .i64 a:=rfl
@[simp] theorem mB (a b c d e f):ae (dK a b c d e f) 1=.int .i64 b:=rfl
@[simp] theorem mC (a b c d e f):ae (dK a b c d e f) 2=.int .i64 c:=rfl
@[simp] theorem mD (a b c d e f):ae (dK a b c d e f) 3=.slice d e f:=rfl
def k37:List cg:=[.int .u8,.int .u8,.int .u8,.int .u8,.int .u8,.int .u8,.bool,.bool,.slice,.int .u8]
def c37 (a b c d e f:Int) (g h:Bool) (i:Oq) (j l:Nat) (m:Int):List V:=[.int .u8 a,.int .u8 b,.int .u8 c,.int .u8 d,.int .u8 e,.int .u8 f,.bool g,.bool h,.slice i j l,.int .u8 m]
def o37 (l:List V):List V:=c37 (ae l 0).aa (ae l 1).aa (ae l 2).aa (ae l 3).aa (ae l 4).aa (ae l 5).aa (ae l 6).ak (ae l 7).ak (ae l 8).au (ae l 8).ax (ae l 8).aC (ae l 9).aa
def WO:List cg:=[.int .u8,.int .i64,.slice,.bool,.int .u32,.int .u32,.int .u8,.bool]
def kb (a b:Int) (c:Oq) (d e:Nat) (f:Bool) (g h i:Int) (j:Bool):List V:=[.int .u8 a,.int .i64 b,.slice c d e,.bool f,.int .u32 g,.int .u32 h,.int .u8 i,.bool j]
def Xk (l:List V):List V:=kb (ae l 0).aa (ae l 1).aa (ae l 2).au (ae l 2).ax (ae l 2).aC (ae l 3).ak (ae l 4).aa (ae l 5).aa (ae l 6).aa (ae l 7).ak
@[simp] theorem f40 (a:Int) (b:Int) (c:Oq) (d:Nat) (e:Nat) (f:Bool) (g:Int) (h:Int) (i:Int) (j:Bool):Am.aI WO (kb a b c d e f g h i j)=true:=rfl
@[simp] theorem aaP (a b c d e f g h i j):Xk (kb a b c d e f g h i j)=kb a b c d e f g h i j:=rfl
@[simp] theorem Xl (a b c d e f g h i j):ae (kb a b c d e f g h i j) 0=.int .u8 a:=rfl
@[simp] theorem Xm (a b c d e f g h i j):ae (kb a b c d e f g h i j) 1=.int .i64 b:=rfl
@[simp] theorem Xn (a b c d e f g h i j):ae (kb a b c d e f g h i j) 2=.slice c d e:=rfl
@[simp] theorem Xo (a b c d e f g h i j):ae (kb a b c d e f g h i j) 3=.bool f:=rfl
@[simp] theorem Xp (a b c d e f g h i j):ae (kb a b c d e f g h i j) 4=.int .u32 g:=rfl
@[simp] theorem Xq (a b c d e f g h i j):ae (kb a b c d e f g h i j) 5=.int .u32 h:=rfl
@[simp] theorem Xr (a b c d e f g h i j):ae (kb a b c d e f g h i j) 6=.int .u8 i:=rfl
@[simp] theorem Xs (a b c d e f g h i j):ae (kb a b c d e f g h i j) 7=.bool j:=rfl
def w9 (a b c d e f g h:Int):List V:=[.int .u32 a,.int .u32 b,.int .u32 c,.int .u32 d,.int .u32 e,.int .u32 f,.int .u32 g,.int .u32 h]
def jC:List cg:=[.int .u32,.int .u32,.int .u32,.int .u32,.int .u32,.int .u32,.int .u32,.int .u32,.int .u8,.int .i64,.int .u32,.bool]
def bH (a b c d e f g h i j l:Int) (m:Bool):List V:=[.int .u32 a,.int .u32 b,.int .u32 c,.int .u32 d,.int .u32 e,.int .u32 f,.int .u32 g,.int .u32 h,.int .u8 i,.int .i64 j,.int .u32 l,.bool m]
def jP (l:List V):List V:=bH (ae l 0).aa (ae l 1).aa (ae l 2).aa (ae l 3).aa (ae l 4).aa (ae l 5).aa (ae l 6).aa (ae l 7).aa (ae l 8).aa (ae l 9).aa (ae l 10).aa (ae l 11).ak
@[simp] theorem f45 (a:Int) (b:Int) (c:Int) (d:Int) (e:Int) (f:Int) (g:Int) (h:Int) (i:Int) (j:Int) (l:Int) (m:Bool):Am.aI jC (bH a b c d e f g h i j l m)=true:=rfl
@[simp] theorem TW (a b c d e f g h i j l m):jP (bH a b c d e f g h i j l m)=bH a b c d e f g h i j l m:=rfl
@[simp] theorem NA (a b c d e f g h i j l m):ae (bH a b c d e f g h i j l m) 0=.int .u32 a:=rfl
@[simp] theorem NB (a b c d e f g h i j l m):ae (bH a b c d e f g h i j l m) 1=.int .u32 b:=rfl
@[simp] theorem NC (a b c d e f g h i j l m):ae (bH a b c d e f g h i j l m) 2=.int .u32 c:=rfl
@[simp] theorem ND (a b c d e f g h i j l m):ae (bH a b c d e f g h i j l m) 3=.int .u32 d:=rfl
@[simp] theorem NF (a b c d e f g h i j l m):ae (bH a b c d e f g h i j l m) 4=.int .u32 e:=rfl
@[simp] theorem NG (a b c d e f g h i j l m):ae (bH a b c d e f g h i j l m) 5=.int .u32 f:=rfl
@[simp] theorem NH (a b c d e f g h i j l m):ae (bH a b c d e f g h i j l m) 6=.int .u32 g:=rfl
@[simp] theorem NI (a b c d e f g h i j l m):ae (bH a b c d e f g h i j l m) 7=.int .u32 h:=rfl
@[simp] theorem NJ (a b c d e f g h i j l m):ae (bH a b c d e f g h i j l m) 8=.int .u8 i:=rfl
@[simp] theorem NK (a b c d e f g h i j l m):ae (bH a b c d e f g h i j l m) 9=.int .i64 j:=rfl
@[simp] theorem HX (a b c d e f g h i j l m):ae (bH a b c d e f g h i j l m) 10=.int .u32 l:=rfl
@[simp] theorem HY (a b c d e f g h i j l m):ae (bH a b c d e f g h i j l m) 11=.bool m:=rfl
def TX:List cg:=[.int .i64,.slice,.int .u32,.int .u32,.int .u32,.int .u32,.int .u32,.int .u32,.int .u32,.int .u32,.int .u8,.int .i64,.int .u32,.bool]
def FF (a:Int) (b:Oq) (c d:Nat) (e f g h i j l m o p q:Int) (r:Bool):List V:=[.int .i64 a,.slice b c d,.int .u32 e,.int .u32 f,.int .u32 g,.int .u32 h,.int .u32 i,.int .u32 j,.int .u32 l,.int .u32 m,.int .u8 o,.int .i64 p,.int .u32 q,.bool r]
def c59 (a:Oq) (b c:Nat) (d:Oq) (e f:Nat) (g h i j l m o p q r s:Int) (t:Bool):List V:=[.slice a b c,.slice d e f,.int .u32 g,.int .u32 h,.int .u32 i,.int .u32 j,.int .u32 l,.int .u32 m,.int .u32 o,.int .u32 p,.int .u8 q,.int .i64 r,.int .u32 s,.bool t]
def c80 (a:Oq) (b c:Nat) (d e f g:Int) (h:Bool) (i:Int) (j:V):List V:=[.slice a b c,.int .i64 d,.int .u64 e,.int .i64 f,.int .i64 g,.bool h,.int .i64 i,j]
def k83:List cg:=[.slice,.int .i64,.bool,.bool,.bool,.int .i64]
def SY (a:Oq) (b c:Nat) (d:Int) (e f g:Bool) (h:Int):List V:=[.slice a b c,.int .i64 d,.bool e,.bool f,.bool g,.int .i64 h]
def c92 (a:Oq) (b c d:Int) (e:Oq) (f g:Nat) (h i:Oq) (j l m o p q r s t u v:Int) (w x:Bool):List V:=[.aj a,.int .i64 b,.int .i64 c,.int .i64 d,.slice e f g,.aj h,.aj i,.int .u32 j,.int .u32 l,.int .u32 m,.int .u32 o,.int .u32 p,.int .u32 q,.int .u32 r,.int .u32 s,.int .u8 t,.int .i64 u,.int .u32 v,.bool w,.bool x]
def TY:List cg:=[.int .i64,.cH]
def HZ (a:Int) (b:ByteArray):List V:=[.int .i64 a,.cH b]
def Xt (l:List V):List V:=HZ (ae l 0).aa (ae l 1).ku
@[simp] theorem f108 (a:Int) (b:ByteArray):Am.aI TY (HZ a b)=true:=rfl
def nE:List cg:=[.aj,.map,.int .u64,.slice]
def cT (a:Oq) (b:Option Nat) (c:Int) (d:Oq) (e f:Nat):List V:=[.aj a,.map b,.int .u64 c,.slice d e f]
def p8 (l:List V):List V:=cT (ae l 0).aw (ae l 1).cJ (ae l 2).aa (ae l 3).au (ae l 3).ax (ae l 3).aC
@[simp] theorem f112 (a:Oq) (b:Option Nat) (c:Int) (d:Oq) (e:Nat) (f:Nat):Am.aI nE (cT a b c d e f)=true:=rfl
@[simp] theorem xb (a b c d e f):p8 (cT a b c d e f)=cT a b c d e f:=rfl
@[simp] theorem p9 (a b c d e f):ae (cT a b c d e f) 0=.aj a:=rfl
@[simp] theorem qd (a b c d e f):ae (cT a b c d e f) 1=.map b:=rfl
@[simp] theorem qe (a b c d e f):ae (cT a b c d e f) 2=.int .u64 c:=rfl
@[simp] theorem qf (a b c d e f):ae (cT a b c d e f) 3=.slice d e f:=rfl
def TZ (a:Oq) (b c d:Int) (e:Oq) (f g:Nat) (h:Int) (i j:Oq) (l:Int):List V:=[.aj a,.int .i64 b,.int .i64 c,.int .i64 d,.slice e f g,.int .u64 h,.aj i,.aj j,.int .u64 l]
def NL:List cg:=[.int .u8,.int .u64,.int .u64,.int .i64,.int .i64,.slice]
def fw (a b c d e:Int) (f:Oq) (g h:Nat):List V:=[.int .u8 a,.int .u64 b,.int .u64 c,.int .i64 d,.int .i64 e,.slice f g h]
def Xu (l:List V):List V:=fw (ae l 0).aa (ae l 1).aa (ae l 2).aa (ae l 3).aa (ae l 4).aa (ae l 5).au (ae l 5).ax (ae l 5).aC
@[simp] theorem f125 (a:Int) (b:Int) (c:Int) (d:Int) (e:Int) (f:Oq) (g:Nat) (h:Nat):Am.aI NL (fw a b c d e f g h)=true:=rfl
@[simp] theorem FG (a b c d e f g h):Xu (fw a b c d e f g h)=fw a b c d e f g h:=rfl
@[simp] theorem zi (a b c d e f g h):ae (fw a b c d e f g h) 0=.int .u8 a:=rfl
@[simp] theorem zj (a b c d e f g h):ae (fw a b c d e f g h) 1=.int .u64 b:=rfl
@[simp] theorem zk (a b c d e f g h):ae (fw a b c d e f g h) 2=.int .u64 c:=rfl
@[simp] theorem zl (a b c d e f g h):ae (fw a b c d e f g h) 3=.int .i64 d:=rfl
@[simp] theorem zm (a b c d e f g h):ae (fw a b c d e f g h) 4=.int .i64 e:=rfl
@[simp] theorem zn (a b c d e f g h):ae (fw a b c d e f g h) 5=.slice f g h:=rfl
def Ia:List cg:=[.int .i64,.int .i64]
def jh (a b:Int):List V:=[.int .i64 a,.int .i64 b]
def Q9 (l:List V):List V:=jh (ae l 0).aa (ae l 1).aa
@[simp] theorem f127 (a:Int) (b:Int):Am.aI Ia (jh a b)=true:=rfl
@[simp] theorem BN (a b):Q9 (jh a b)=jh a b:=rfl
@[simp] theorem vS (a b):ae (jh a b) 0=.int .i64 a:=rfl
@[simp] theorem vT (a b):ae (jh a b) 1=.int .i64 b:=rfl
def pj:List cg:=[.int .i64,.int .i64,.int .u8,.int .u64,.int .u64,.int .i64,.int .i64,.slice]
def kR (a b c d e f g:Int) (h:Oq) (i j:Nat):List V:=[.int .i64 a,.int .i64 b,.int .u8 c,.int .u64 d,.int .u64 e,.int .i64 f,.int .i64 g,.slice h i j]
def Lm (l:List V):List V:=kR (ae l 0).aa (ae l 1).aa (ae l 2).aa (ae l 3).aa (ae l 4).aa (ae l 5).aa (ae l 6).aa (ae l 7).au (ae l 7).ax (ae l 7).aC
def rK:List cg:=[.int .i64,.slice,.bool]
def gi (a:Int) (b:Oq) (c d:Nat) (e:Bool):List V:=[.int .i64 a,.slice b c d,.bool e]
def vU (l:List V):List V:=gi (ae l 0).aa (ae l 1).au (ae l 1).ax (ae l 1).aC (ae l 2).ak
@[simp] theorem f137 (a:Int) (b:Oq) (c:Nat) (d:Nat) (e:Bool):Am.aI rK (gi a b c d e)=true:=rfl
def Ln (a:Oq) (b c:Nat) (d:Option Nat):List V:=[.slice a b c,.map d]
def Be (a:Oq) (b c:Nat) (d:Oq) (e f:Nat) (g:Oq) (h i:Nat):List V:=[.slice a b c,.slice d e f,.slice g h i]
def Xv:List cg:=[.int .i64,.int .i64,.int .i64,.int .i64,.int .i64,.int .i64,.int .i64,.int .i64,.int .i64,.int .i64,.int .i64,.int .i64,.int .i64,.int .i64,.int .i64,.int .i64,.int .i64,.int .i64,.int .i64,.int .i64,.int .i64,.int .i64,.int .i64,.int .i64,.int .i64,.int .i64,.int .i64,.int .i64,.int .i64,.int .i64,.int .i64,.int .i64]
def vV (a b c d e f g h i j l m o p q r s t u v w x y z A B C D E F G H:Int):List V:=[.int .i64 a,.int .i64 b,.int .i64 c,.int .i64 d,.int .i64 e,.int .i64 f,.int .i64 g,.int .i64 h,.int .i64 i,.int .i64 j,.int .i64 l,.int .i64 m,.int .i64 o,.int .i64 p,.int .i64 q,.int .i64 r,.int .i64 s,.int .i64 t,.int .i64 u,.int .i64 v,.int .i64 w,.int .i64 x,.int .i64 y,.int .i64 z,.int .i64 A,.int .i64 B,.int .i64 C,.int .i64 D,.int .i64 E,.int .i64 F,.int .i64 G,.int .i64 H]
def aaQ (l:List V):List V:=vV (ae l 0).aa (ae l 1).aa (ae l 2).aa (ae l 3).aa (ae l 4).aa (ae l 5).aa (ae l 6).aa (ae l 7).aa (ae l 8).aa (ae l 9).aa (ae l 10).aa (ae l 11).aa (ae l 12).aa (ae l 13).aa (ae l 14).aa (ae l 15).aa (ae l 16).aa (ae l 17).aa (ae l 18).aa (ae l 19).aa (ae l 20).aa (ae l 21).aa (ae l 22).aa (ae l 23).aa (ae l 24).aa (ae l 25).aa (ae l 26).aa (ae l 27).aa (ae l 28).aa (ae l 29).aa (ae l 30).aa (ae l 31).aa
def Bf (a:Oq) (b c:Nat) (d:Bool):List V:=[.slice a b c,.bool d]
def aaR:List cg:=[.int .u8,.int .u8,.int .u8,.int .u8,.int .u8,.int .u8]
def nF (a b c d e f:Int):List V:=[.int .u8 a,.int .u8 b,.int .u8 c,.int .u8 d,.int .u8 e,.int .u8 f]
def aaS (l:List V):List V:=nF (ae l 0).aa (ae l 1).aa (ae l 2).aa (ae l 3).aa (ae l 4).aa (ae l 5).aa
def eqs:List (TypeId×List cg):=[(46,[.int .u32,.int .u32,.int .u32,.int .u32,.int .u32,.int .u32,.int .u32,.int .u32,.int .u8,.int .i64,.int .u32,.bool]),(44,[.int .u32,.int .u32,.int .u32,.int .u32,.int .u32,.int .u32,.int .u32,.int .u32])]
theorem T0:eqs.all (fun x=>KZ Tryz.prog x.1 x.2)=true:=by kernel_rfl
theorem yU:Tryz.prog.funcs.toList.all (fun fn=> !(fn.name == "runtime.NumGoroutine"))=true:=by kernel_rfl
def aaT:bP:={aX:=[7,13,15,16,21],aV:=[(7,7),(27,7),(29,7),(31,7),(13,13),(56,13),(60,13),(61,13),(15,15),(16,16),(111,16),(113,16),(21,21)],bg:=[(8,{cW:=[1,2,7,8,10,12],vy:=[7],cj:=[(2,.k (.bool)),(7,.lp 7),(8,.k (.aj)),(10,.k (.aj))],g8:=[(7,26,[.int .i64,.int .i64,.int .i64,.slice])],cC:=[0]}),(9,{cW:=[49],mg:=true,wT:=[42,43,44,45,46,47,48], }),(19,{dl:=true,wT:=[76,77], }),(24,{cj:=[(103,.k (.bool))],dl:=true,wT:=[92,93,94,95,96,97,98,99,100,101,102,103], })], }
def aaU:bP:={aX:=[5,14],aV:=[(5,5),(22,5),(24,5),(26,5),(14,14)],bg:=[(10,{cW:=[1,5,6,8,9,11,12],vy:=[5],cj:=[(5,.lp 5),(6,.k (.aj)),(8,.k (.int .i64)),(9,.k (.aj)),(11,.k (.aj))],g8:=[(5,26,[.int .i64,.int .i64,.int .i64,.slice])],cC:=[0]}),(11,{cW:=[48],mg:=true,wT:=[41,42,43,44,45,46,47], }),(17,{cj:=[(79,.k (.bool))],dl:=true,wT:=[72,73,74,75,76,77,78,79], })], }
def Xw:bP:={aX:=[1,7],aV:=[(1,1),(11,1),(13,1),(15,1),(7,7),(60,7)], }
def Xx:bP:={aX:=[2,3],aV:=[(2,2),(3,3),(18,3),(23,3),(28,3),(32,3)],bg:=[(2,{cW:=[21],mg:=true,wT:=[14,15,16,17,18,19,20], }),(3,{g8:=[(3,26,[.int .i64,.int .i64,.int .i64,.slice])],dl:=true,wT:=[22,23],wL:=[3]}),(5,{cW:=[31],mg:=true,wT:=[24,25,26,27,28,29,30], })], }
def Xy:bP:={bg:=[(1,{cW:=[24],mg:=true,wT:=[11,12,13,14,15,16,17,18,19,20,21,22,23], }),(6,{cW:=[0,8,30,31,32],cj:=[(8,.k (.aj))],mM:=[(6,.k (.aj)),(7,.k (.int .i64))],cC:=[0]}),(10,{cW:=[42],mg:=true,wT:=[36,37,38,39,40,41], })], }
def Xz:bP:={aX:=[4,12],aV:=[(4,4),(12,12)],bg:=[(8,{cj:=[(10,.k (.aj))],dl:=true,wT:=[10,27,28,29,30,31,32,33,34], })], }
def XA:bP:={aX:=[3,4,7,11],aV:=[(3,3),(12,3),(19,3),(24,3),(29,3),(31,3),(33,3),(37,3),(42,3),(48,3),(55,3),(59,3),(4,4),(51,4),(52,4),(7,7),(11,11),(54,11),(61,11)],bg:=[(6,{g8:=[(11,41,[.int .u8,.int .i64,.slice,.bool,.int .u32,.int .u32,.int .u8,.bool])],dl:=true,wT:=[50,51,52,53,54],wL:=[11]})], }
def XB:bP:={aX:=[2],aV:=[(2,2)], }
def XC:bP:={aX:=[5,6,9],aV:=[(5,5),(6,6),(9,9),(39,9)],bg:=[(9,{cW:=[32],mg:=true,wT:=[27,28,29,30,31], })], }
def XD:bP:={bg:=[(5,{dl:=true,wT:=[12,13,14,15,16,17], })], }
def XE:bP:={aX:=[1],aV:=[(1,1),(3,1),(9,1),(11,1),(15,1)], }
def XF:bP:={}
def XG:bP:={aX:=[5,8,9],aV:=[(5,5),(30,5),(51,5),(58,5),(60,5),(63,5),(69,5),(71,5),(8,8),(9,9)], }
def XH:bP:={aX:=[9],aV:=[(9,9),(56,9),(61,9)],bg:=[(1,{cj:=[(27,.k (.bool))],dl:=true,wT:=[11,12,13,14,15,16,17,18,19,20,21,22,23,24,25,26,27], }),(5,{cW:=[0,1,2,7],mM:=[(6,.k (.bool))],cC:=[0]}),(9,{cW:=[0,1,2,7,8],cj:=[(0,.k (.aj)),(1,.k (.aj)),(2,.k (.int .i64)),(7,.k (.int .i64))],mM:=[(6,.k (.bool))],cC:=[2]}),(15,{cj:=[(68,.k (.bool))],dl:=true,wT:=[53,54,55,56,57,58,59,60,61,62,63,64,65,66,67,68], })], }
def XI:bP:={bg:=[(5,{cW:=[20],mg:=true,wT:=[21,22,23,24,25,26,27,28,29,30], })], }
def XJ:bP:={}
def XL:bP:={}
def XM:bP:={bg:=[(0,{cW:=[0],cC:=[0]})], }
def XN:bP:={aX:=[1],aV:=[(1,1),(8,1),(14,1),(22,1)],bg:=[(3,{cW:=[1,3,4],vy:=[1],cj:=[(3,.k (.slice))],cC:=[0]}),(8,{cW:=[1,3,4,5,6],vy:=[1],cj:=[(1,.lp 1),(3,.k (.slice)),(4,.k (.int .i64)),(5,.k (.bool))],g8:=[(1,26,[.int .i64,.int .i64,.int .i64,.slice])],cC:=[2]}),(11,{cW:=[5],mg:=true,wT:=[20,21,22,23,24,25,26,27,28,29], })], }
def XO:bP:={bg:=[(2,{cW:=[0,2,3],cj:=[(0,.k (.aj)),(2,.k (.int .i64))],cC:=[0]})], }
def XP:bP:={}
def XQ:bP:={aX:=[4,8],aV:=[(4,4),(105,4),(8,8),(45,8),(48,8),(96,8)],bg:=[(1,{cW:=[26],mg:=true,wT:=[21,22,23,24,25], }),(12,{cW:=[0,4,8,10,12,13,14,53,54,55],vy:=[4,8],cj:=[(10,.k (.aj)),(12,.k (.aj)),(14,.k (.int .i64))],mM:=[(6,.k (.aj)),(7,.k (.int .i64))],cC:=[0]}),(29,{cW:=[0,4,8,10,12,13,14,16,53,54,55,90,91,92],vy:=[4,8],cj:=[(0,.k (.aj)),(4,.lp 4),(8,.lp 8),(10,.k (.aj)),(12,.k (.aj)),(13,.k (.int .u64)),(14,.k (.int .i64)),(53,.k (.slice)),(54,.k (.int .i64)),(55,.k (.int .i64))],g8:=[(4,26,[.int .i64,.int .i64,.int .i64,.slice]),(8,113,[.aj,.map,.int .u64,.slice])],cC:=[2]}),(34,{cW:=[112],mg:=true,wT:=[102,103,104,105,106,107,108,109,110,111], })], }
def XR:bP:={aX:=[0],aV:=[(0,0)], }
def XS:bP:={aX:=[7],aV:=[(7,7),(24,7)], }
def XT:bP:={aX:=[1],aV:=[(1,1)], }
def XU:bP:={aX:=[2,6],aV:=[(2,2),(6,6),(18,6),(19,6),(28,6),(29,6),(36,6),(37,6)],bg:=[(4,{cW:=[2,5,6,11],vy:=[2,6],cj:=[(2,.lp 2),(5,.k (.aj)),(6,.lp 6)],g8:=[(2,46,[.int .u32,.int .u32,.int .u32,.int .u32,.int .u32,.int .u32,.int .u32,.int .u32,.int .u8,.int .i64,.int .u32,.bool]),(6,46,[.int .u32,.int .u32,.int .u32,.int .u32,.int .u32,.int .u32,.int .u32,.int .u32,.int .u8,.int .i64,.int .u32,.bool])],cC:=[0]}),(13,{cj:=[(48,.k (.bool))],dl:=true,wT:=[41,42,43,44,45,46,47,48], })], }
def XV:bP:={aX:=[3,6],aV:=[(3,3),(11,3),(15,3),(6,6)], }
def XW:bP:={}
def XX:bP:={bg:=[(5,{cj:=[(13,.k (.bool))],dl:=true,wT:=[13,14,15,16,17,18,19,20,21,22,23,24,25,26,27,28,29,30], })], }
def XY:bP:={aX:=[5,6,8,12],aV:=[(5,5),(36,5),(45,5),(59,5),(71,5),(73,5),(76,5),(83,5),(86,5),(6,6),(8,8),(51,8),(12,12)],bg:=[(29,{cW:=[120],mg:=true,wT:=[111,112,113,114,115,116,117,118,119], }),(32,{cj:=[(14,.k (.int .i64))],dl:=true,wT:=[14,123,124,125,126,127,128,129,130,131,132,133,134,135,136,137,138,139], })], }
def XZ:bP:={aX:=[4],aV:=[(4,4),(14,4),(18,4),(22,4),(26,4),(32,4),(36,4)],bg:=[(1,{cW:=[17],mg:=true,wT:=[7,8,9,10,11,12,13,14,15,16], }),(4,{cW:=[31],mg:=true,wT:=[18,19,20,21,22,23,24,25,26,27,28,29,30], }),(7,{cW:=[6],mg:=true,wT:=[32,33,34,35,36,37,38,39,40], })], }
def X0:bP:={aX:=[3,5],aV:=[(3,3),(5,5),(7,5),(12,5)], }
def X1:bP:={bg:=[(2,{cW:=[0,1,5],cj:=[(0,.k (.aj)),(1,.k (.int .i64))],mM:=[(4,.k (.cH))],cC:=[0]})], }
def X2:bP:={bg:=[(2,{cW:=[0,1,2,3,8,9],cj:=[(0,.k (.aj)),(1,.k (.int .i64)),(2,.k (.cH)),(3,.k (.bool)),(8,.k (.bool))],cC:=[0]}),(5,{cW:=[8],mg:=true,wT:=[19,20,21,22,23,24,25,26,27,28,29,30,31], }),(7,{cW:=[45],mg:=true,wT:=[32,33,34,35,36,37,38,39,40,41,42,43,44], }),(8,{dl:=true,wT:=[46,47], })], }
def X3:bP:={aX:=[3,5,6,8],aV:=[(3,3),(53,3),(54,3),(188,3),(202,3),(210,3),(229,3),(75,3),(80,3),(89,3),(93,3),(100,3),(101,3),(117,3),(118,3),(128,3),(129,3),(143,3),(147,3),(5,5),(20,5),(25,5),(30,5),(34,5),(39,5),(44,5),(50,5),(58,5),(62,5),(69,5),(176,5),(180,5),(184,5),(207,5),(212,5),(231,5),(71,5),(85,5),(103,5),(123,5),(131,5),(167,5),(6,6),(8,8),(172,8),(175,8),(178,8),(182,8),(183,8),(244,8),(245,8),(248,8),(251,8),(137,8),(138,8),(160,8),(163,8)],bg:=[(1,{cW:=[28],mg:=true,wT:=[13,14,15,16,17,18,19,20,21,22,23,24,25,26,27], }),(4,{cj:=[(48,.k (.bool))],dl:=true,wT:=[30,31,32,33,34,35,36,37,38,39,40,41,42,43,44,45,46,47,48], }),(7,{cW:=[66],mg:=true,wT:=[50,51,52,53,54,55,56,57,58,59,60,61,62,63,64,65], }),(17,{cj:=[(197,.k (.bool))],dl:=true,wT:=[184,185,186,187,188,189,190,191,192,193,194,195,196,197], }),(25,{cj:=[(220,.k (.bool))],dl:=true,wT:=[210,211,212,213,214,215,216,217,218,219,220], }),(40,{cW:=[6,8,9],vy:=[6,8],cj:=[(6,.lp 6),(8,.lp 8)],g8:=[(6,46,[.int .u32,.int .u32,.int .u32,.int .u32,.int .u32,.int .u32,.int .u32,.int .u32,.int .u8,.int .i64,.int .u32,.bool]),(8,46,[.int .u32,.int .u32,.int .u32,.int .u32,.int .u32,.int .u32,.int .u32,.int .u32,.int .u8,.int .i64,.int .u32,.bool])],cC:=[3]}),(47,{cW:=[83],mg:=true,wT:=[71,72,73,74,75,76,77,78,79,80,81,82], }),(50,{cW:=[10],mg:=true,wT:=[85,86,87,88,89,90,91,92,93,94,95,96,97,98,99,100,101,102,103,104,105,106,107], }),(53,{cW:=[1,3,5,6,8,10,11,12],vy:=[3,5,6,8],cj:=[(1,.k (.int .i64)),(3,.lp 3),(5,.lp 5),(6,.lp 6),(8,.lp 8),(10,.k (.bool)),(11,.k (.int .i64))],g8:=[(3,46,[.int .u32,.int .u32,.int .u32,.int .u32,.int .u32,.int .u32,.int .u32,.int .u32,.int .u8,.int .i64,.int .u32,.bool]),(5,41,[.int .u8,.int .i64,.slice,.bool,.int .u32,.int .u32,.int .u8,.bool]),(6,46,[.int .u32,.int .u32,.int .u32,.int .u32,.int .u32,.int .u32,.int .u32,.int .u32,.int .u8,.int .i64,.int .u32,.bool]),(8,46,[.int .u32,.int .u32,.int .u32,.int .u32,.int .u32,.int .u32,.int .u32,.int .u32,.int .u8,.int .i64,.int .u32,.bool])],cC:=[1]}),(56,{cW:=[135],mg:=true,wT:=[112,113,114,115,116,117,118,119,120,121,122,123,124,125,126,127,128,129,130,131,132,133,134], }),(60,{cW:=[10],mg:=true,wT:=[141,142,143,144,145,146,147,148,149,150,151,152], }),(62,{cW:=[158],mg:=true,wT:=[153,154,155,156,157], })], }
def X4:bP:={bg:=[(4,{cW:=[9],mg:=true,wT:=[10,11,12,13,14,15,16,17,18,19,20], })], }
def X5:bP:={}
def X6:bP:={}
def X7:bP:={aX:=[4],aV:=[(4,4),(26,4)],bg:=[(2,{cW:=[0,10,11,12],mM:=[(2,.k (.int .i64))],cC:=[0]})], }
def X8:bP:={bg:=[(2,{cW:=[0,1,4,5],cj:=[(0,.k (.aj)),(4,.k (.slice))],cC:=[0]})], }
def X9:bP:={}
def Ya:bP:={aX:=[3,4,8,15,21,22,25],aV:=[(3,3),(35,3),(42,3),(51,3),(4,4),(8,8),(87,8),(93,8),(106,8),(111,8),(131,8),(150,8),(158,8),(15,15),(89,15),(90,15),(21,21),(133,21),(134,21),(145,21),(146,21),(152,21),(153,21),(22,22),(142,22),(143,22),(25,25),(168,25)],bg:=[(4,{cj:=[(45,.k (.bool))],dl:=true,wT:=[29,30,31,32,33,34,35,36,37,38,39,40,41,42,43,44,45], }),(11,{cW:=[0,3,4,6,8,9,61,62,63],vy:=[3,4,8],cj:=[(3,.lp 3),(4,.lp 4),(6,.k (.aj)),(8,.lp 8),(9,.k (.map))],g8:=[(3,26,[.int .i64,.int .i64,.int .i64,.slice]),(4,113,[.aj,.map,.int .u64,.slice]),(8,113,[.aj,.map,.int .u64,.slice])],mM:=[(4,.lp 4),(5,.k (.int .i64))],TN:=[(4,113,[.aj,.map,.int .u64,.slice])],cC:=[0]}),(21,{cW:=[0,3,4,6,8,9,61,62,63,81,82,83],vy:=[3,4,8],cj:=[(0,.k (.aj)),(3,.lp 3),(4,.lp 4),(6,.k (.aj)),(8,.lp 8),(9,.k (.map)),(61,.k (.slice)),(62,.k (.int .i64)),(63,.k (.int .i64))],g8:=[(3,26,[.int .i64,.int .i64,.int .i64,.slice]),(4,113,[.aj,.map,.int .u64,.slice]),(8,113,[.aj,.map,.int .u64,.slice])],cC:=[2]}),(29,{cW:=[3,4,6,8,9,97,98,99],vy:=[3,4,8],cj:=[(3,.lp 3),(4,.lp 4),(6,.k (.aj)),(8,.lp 8),(9,.k (.map))],g8:=[(3,26,[.int .i64,.int .i64,.int .i64,.slice]),(4,113,[.aj,.map,.int .u64,.slice]),(8,113,[.aj,.map,.int .u64,.slice])],cC:=[4]}),(39,{cW:=[4,6,8,9,116,117,118],vy:=[4,8],cj:=[(4,.lp 4),(6,.k (.aj)),(8,.lp 8)],g8:=[(4,113,[.aj,.map,.int .u64,.slice]),(8,113,[.aj,.map,.int .u64,.slice])],cC:=[6]}),(44,{cW:=[4,6,8,9,116,117,118,124,125,126],vy:=[4,8],cj:=[(4,.lp 4),(6,.k (.aj)),(8,.lp 8),(9,.k (.map)),(116,.k (.slice)),(117,.k (.int .i64)),(118,.k (.int .i64))],g8:=[(4,113,[.aj,.map,.int .u64,.slice]),(8,113,[.aj,.map,.int .u64,.slice])],cC:=[8]}),(49,{cW:=[149],mg:=true,wT:=[139,140,141,142,143,144,145,146,147,148], }),(55,{cW:=[4,6,8,160],vy:=[4,8],cj:=[(4,.lp 4),(8,.lp 8)],g8:=[(4,113,[.aj,.map,.int .u64,.slice]),(8,113,[.aj,.map,.int .u64,.slice])],cC:=[10]})], }
def Yb:bP:={bg:=[(3,{cW:=[0,4,10,11,12],cj:=[(0,.k (.slice)),(4,.k (.aj))],mM:=[(2,.k (.aj)),(3,.k (.int .i64))],cC:=[0]}),(7,{cW:=[35],mg:=true,wT:=[17,18,19,20,21,22,23,24,25,26,27,28,29,30,31,32,33,34], })], }
def Yc:bP:={aX:=[1],aV:=[(1,1),(6,1),(11,1)],bg:=[(3,{cW:=[1,3,4],vy:=[1],cj:=[(3,.k (.slice))],cC:=[0]})], }
def Yd:bP:={bg:=[(1,{cW:=[4],mg:=true,wT:=[5,6,7,8,9,10,11,12,13,14,15,16,17,18,19,20,21,22,23,24,25,26,27,28,29], })], }
def Ye:bP:={bg:=[(5,{cW:=[22],mg:=true,wT:=[23,24,25,26,27,28], }),(8,{cW:=[29],mg:=true,wT:=[30,31,32,33,34,35], })], }
def Yf:bP:={bg:=[(1,{cW:=[19],mg:=true,wT:=[5,6,7,8,9,10,11,12,13,14,15,16,17,18], })], }
def Yg:bP:={bg:=[(1,{cW:=[19],mg:=true,wT:=[5,6,7,8,9,10,11,12,13,14,15,16,17,18], })], }
def Yh:bP:={}
def Yi:bP:={aX:=[5,7],aV:=[(5,5),(64,5),(7,7),(55,7),(60,7)],bg:=[(1,{cW:=[35],mg:=true,wT:=[11,12,13,14,15,16,17,18,19,20,21,22,23,24,25,26,27,28,29,30,31,32,33,34], }),(6,{cW:=[0,1,5,40,41,42],vy:=[5],cj:=[(5,.lp 5)],g8:=[(5,177,[.int .i64,.int .i64,.int .i64,.int .i64,.int .i64,.int .i64,.int .i64,.int .i64,.int .i64,.int .i64,.int .i64,.int .i64,.int .i64,.int .i64,.int .i64,.int .i64,.int .i64,.int .i64,.int .i64,.int .i64,.int .i64,.int .i64,.int .i64,.int .i64,.int .i64,.int .i64,.int .i64,.int .i64,.int .i64,.int .i64,.int .i64,.int .i64])],cC:=[0]}),(10,{cW:=[59],mg:=true,wT:=[47,48,49,50,51,52,53,54,55,56,57,58], }),(16,{cW:=[8,66,67],cj:=[(8,.k (.slice))],cC:=[2]})], }
def Yj:bP:={}
def Yk:bP:={aX:=[4,6],aV:=[(4,4),(6,6),(28,6),(30,6)], }
def Yl:bP:={aX:=[1],aV:=[(1,1),(3,1),(8,1)], }
def Ym:bP:={}
def Yn:bP:={}
def Yo:bP:={bg:=[(1,{cW:=[2],mg:=true,wT:=[3,4,5,6,7,8,9,10,11,12,13,14,15,16,17,18,19], })], }
def Yp:bP:={aX:=[1],aV:=[(1,1),(7,1),(11,1),(16,1),(20,1),(26,1),(37,1),(41,1),(46,1),(51,1),(59,1),(61,1),(62,1),(68,1)],bg:=[(1,{cj:=[(25,.k (.bool))],dl:=true,wT:=[7,8,9,10,11,12,13,14,15,16,17,18,19,20,21,22,23,24,25], }),(6,{cW:=[1,3,27,28],vy:=[1],cj:=[(1,.lp 1),(3,.k (.bool))],g8:=[(1,46,[.int .u32,.int .u32,.int .u32,.int .u32,.int .u32,.int .u32,.int .u32,.int .u32,.int .u8,.int .i64,.int .u32,.bool])],cC:=[0]}),(10,{cW:=[3],mg:=true,wT:=[31,32,33,34,35], }),(12,{cW:=[6],mg:=true,wT:=[37,38,39,40,41,42,43,44,45,46,47,48,49], }),(13,{cW:=[2],mg:=true,wT:=[50,51,52,53,54,55,56,57,58,59,60,61,62,63,64,65,66,67,68,69,70,71,72,73,74], })], }
def Yq:bP:={bg:=[(1,{cW:=[2],mg:=true,wT:=[3,4,5,6,7,8,9,10,11], })], }
def Yr:bP:={}
def Ys:bP:={aX:=[4],aV:=[(4,4),(8,4),(12,4),(17,4),(28,4),(36,4),(40,4),(48,4),(52,4)],bg:=[(1,{cW:=[7],mg:=true,wT:=[8,9,10,11,12,13,14,15,16,17,18,19,20], }),(2,{cW:=[6],mg:=true,wT:=[21,22,23,24,25,26,27,28,29,30,31,32,33,34,35,36,37,38,39,40,41,42,43,44,45,46,47,48,49,50,51,52,53,54,55,56,57], })], }
def Yt:bP:={aX:=[3,5],aV:=[(3,3),(5,5),(7,5)],bg:=[(6,{cj:=[(14,.k (.bool))],dl:=true,wT:=[14,16,17], })], }
def Yu:bP:={aX:=[4,8],aV:=[(4,4),(8,8),(28,8),(31,8)], }
def Yv:bP:={aX:=[4],aV:=[(4,4),(20,4)], }
def Yw:bP:={aX:=[3,5,6,9],aV:=[(3,3),(49,3),(50,3),(77,3),(86,3),(94,3),(109,3),(119,3),(122,3),(5,5),(17,5),(22,5),(27,5),(31,5),(36,5),(42,5),(52,5),(56,5),(60,5),(67,5),(88,5),(99,5),(111,5),(6,6),(9,9)],bg:=[(1,{cW:=[25],mg:=true,wT:=[10,11,12,13,14,15,16,17,18,19,20,21,22,23,24], }),(4,{cW:=[8],mg:=true,wT:=[27,28,29,30,31,32,33,34,35,36,37,38,39], }),(5,{cj:=[(46,.k (.bool))],dl:=true,wT:=[40,41,42,43,44,45,46], }),(8,{cW:=[64],mg:=true,wT:=[48,49,50,51,52,53,54,55,56,57,58,59,60,61,62,63], }),(18,{cj:=[(92,.k (.bool))],dl:=true,wT:=[77,78,79,80,81,82,83,84,85,86,87,88,89,90,91,92], })], }
def Yx:bP:={}
def Yy:bP:={aX:=[2],aV:=[(2,2),(9,2),(20,2),(24,2),(29,2),(32,2)],bg:=[(3,{cW:=[1,2,5,10,11],vy:=[2],cj:=[(1,.k (.int .i64)),(2,.lp 2),(5,.k (.slice))],g8:=[(2,46,[.int .u32,.int .u32,.int .u32,.int .u32,.int .u32,.int .u32,.int .u32,.int .u32,.int .u8,.int .i64,.int .u32,.bool])],cC:=[0]}),(12,{cj:=[(8,.k (.int .u64))],dl:=true,wT:=[8], })], }
def Yz:bP:={aX:=[3],aV:=[(3,3),(14,3),(23,3),(24,3),(27,3)],bg:=[(1,{cW:=[13],mg:=true,wT:=[8,9,10,11,12], }),(4,{cj:=[(21,.k (.bool))],dl:=true,wT:=[14,15,16,17,18,19,20,21], }),(13,{cj:=[(33,.k (.bool))],dl:=true,wT:=[33,35], }),(16,{cW:=[6],mg:=true,wT:=[36,37,38,39,40], })], }
def YA:bP:={bg:=[(1,{cW:=[2],mg:=true,wT:=[3,4,5,6,7,8,9,10,11,12,13,14,15,16], })], }
def YB:bP:={aX:=[1],aV:=[(1,1),(9,1),(10,1)],bg:=[(2,{cW:=[1,3],vy:=[1],mM:=[(2,.k (.bool))],cC:=[0]})], }
def YC:bP:={aX:=[1,2],aV:=[(1,1),(3,1),(4,1),(2,2)], }
def YD:bP:={aX:=[3,6],aV:=[(3,3),(8,3),(10,3),(17,3),(6,6)],bg:=[(3,{cW:=[16],mg:=true,wT:=[11,12,13,14,15], })], }
def YE:bP:={aX:=[2],aV:=[(2,2),(11,2),(19,2),(20,2),(23,2)],bg:=[(1,{cW:=[10],mg:=true,wT:=[5,6,7,8,9], }),(9,{cj:=[(15,.k (.bool))],dl:=true,wT:=[15,17], })], }
def YF:bP:={aX:=[5],aV:=[(5,5),(17,5),(20,5)],bg:=[(5,{cW:=[3,11,12,13],cj:=[(3,.k (.slice))],cC:=[0]})], }
def YG:bP:={aX:=[3],aV:=[(3,3),(5,3),(11,3),(18,3),(20,3)], }
def YH:bP:={}
def YI:bP:={bg:=[(5,{cW:=[1,5,14],cj:=[(5,.k (.int .i64))],cC:=[0]})], }
def YJ:bP:={aX:=[1],aV:=[(1,1),(5,1),(9,1),(14,1),(19,1),(24,1),(29,1),(33,1),(45,1),(50,1)],bg:=[(1,{cW:=[32],mg:=true,wT:=[5,6,7,8,9,10,11,12,13,14,15,16,17,18,19,20,21,22,23,24,25,26,27,28,29,30,31], }),(5,{cW:=[1,34,35,36],vy:=[1],cj:=[(1,.lp 1)],g8:=[(1,26,[.int .i64,.int .i64,.int .i64,.slice])],mM:=[(2,.k (.bool))],cC:=[0]})], }
def YK:bP:={}
def YL:bP:={}
def YM:bP:={bg:=[(1,{cW:=[19],mg:=true,wT:=[6,7,8,9,10,11,12,13,14,15,16,17,18], }),(4,{cj:=[(4,.k (.aj)),(5,.k (.int .i64))],dl:=true,wT:=[4,5,20,21,22,23,24,25,26,27], })], }
def YN:bP:={aX:=[4,12],aV:=[(4,4),(22,4),(29,4),(12,12),(66,12),(71,12)],bg:=[(4,{cj:=[(39,.k (.bool))],dl:=true,wT:=[16,17,18,19,20,21,22,23,24,25,26,27,28,29,30,31,32,33,34,35,36,37,38,39], }),(9,{cW:=[0,2,4,8,42,43],vy:=[4],cj:=[(8,.k (.slice))],mM:=[(6,.k (.slice)),(7,.k (.int .i64))],cC:=[0]}),(20,{cj:=[(76,.k (.bool))],dl:=true,wT:=[63,64,65,66,67,68,69,70,71,72,73,74,75,76], })], }
def YO:bP:={bg:=[(6,{cW:=[0,5,23,24,25],mM:=[(4,.k (.bool))],cC:=[0]}),(11,{cW:=[46],mg:=true,wT:=[34,35,36,37,38,39,40,41,42,43,44,45], })], }
def T1:bP:={aX:=[5],aV:=[(5,5),(23,5),(28,5),(38,5),(43,5),(67,5)],bg:=[(4,{cW:=[10],mg:=true,wT:=[11,12,13,14,15,16,17,18,19,20,21,22,23,24,25,26,27,28,29,30,31,32,33,34,35,36,37,38,39,40,41,42,43,44,45,46], })], }
def T2:bP:={}
def T3:bP:={}
def T4:bP:={bg:=[(4,{cW:=[0,11,12,13],mM:=[(2,.k (.int .i64)),(3,.k (.bool))],cC:=[0]})], }
def T5:bP:={}
def T6:bP:={aX:=[4],aV:=[(4,4)],bg:=[(1,{cW:=[30],mg:=true,wT:=[6,7,8,9,10,11,12,13,14,15,16,17,18,19,20,21,22,23,24,25,26,27,28,29], })], }
def T7:bP:={aX:=[2,7],aV:=[(2,2),(7,7),(38,7),(39,7),(47,7),(48,7),(51,7)],bg:=[(1,{cW:=[16],mg:=true,wT:=[8,9,10,11,12,13,14,15], }),(13,{cj:=[(66,.k (.bool))],dl:=true,wT:=[52,53,54,55,56,57,58,59,60,61,62,63,64,65,66], })], }
def T8:bP:={bg:=[(3,{cW:=[3,6,7,8],cj:=[(3,.k (.int .u64))],cC:=[0]})], }
def T9:bP:={bg:=[(1,{cW:=[18],mg:=true,wT:=[6,7,8,9,10,11,12,13,14,15,16,17], })], }
def Ua:bP:={bg:=[(2,{cW:=[0,5,6],mM:=[(2,.k (.bool))],cC:=[0]})], }
def Ub:bP:={aX:=[3],aV:=[(3,3),(13,3),(21,3),(36,3),(37,3),(42,3),(43,3)],bg:=[(1,{cW:=[12],mg:=true,wT:=[7,8,9,10,11], }),(4,{cj:=[(20,.k (.bool))],dl:=true,wT:=[13,14,15,16,17,18,19,20], }),(15,{cj:=[(29,.k (.bool))],dl:=true,wT:=[29,31], }),(18,{cW:=[6],mg:=true,wT:=[32,33,34,35,36,37,38,39,40], })], }
def Uc:bP:={}
def Ud:bP:={aX:=[3],aV:=[(3,3),(11,3),(15,3),(20,3),(24,3),(27,3),(28,3),(30,3),(33,3)],bg:=[(4,{cW:=[10],mg:=true,wT:=[11,12,13,14,15,16,17,18], }),(12,{g8:=[(3,138,[.int .i64,.slice,.bool])],dl:=true,wT:=[30],wL:=[3]}),(21,{dl:=true,wT:=[38,39,40,41,42,43,44,45,46,47,48], })], }
def Ue:bP:={aX:=[3,5,6],aV:=[(3,3),(7,3),(10,3),(13,3),(23,3),(24,3),(5,5),(11,5),(14,5),(21,5),(6,6)], }
def Uf:bP:={aX:=[2],aV:=[(2,2),(12,2),(16,2),(21,2),(26,2),(27,2)],bg:=[(1,{cW:=[15],mg:=true,wT:=[5,6,7,8,9,10,11,12,13,14], })], }
def Uh:bP:={aX:=[3,6],aV:=[(3,3),(9,3),(10,3),(13,3),(6,6)], }
def Uj:bP:={aX:=[1,2],aV:=[(1,1),(3,1),(4,1),(2,2)], }
def Uk:bP:={aX:=[3,5,6,10],aV:=[(3,3),(17,3),(30,3),(31,3),(35,3),(40,3),(47,3),(73,3),(5,5),(13,5),(23,5),(27,5),(62,5),(66,5),(97,5),(6,6),(10,10),(79,10),(80,10),(89,10),(92,10)],bg:=[(1,{cj:=[(21,.k (.bool))],dl:=true,wT:=[13,14,15,16,17,18,19,20,21], }),(5,{cW:=[9],mg:=true,wT:=[23,24,25,26,27,28,29,30,31,32,33,34,35,36,37,38,39,40,41,42,43,44,45], }),(8,{cW:=[1,3,5,6,8,9,10,48,49],vy:=[3,5,6,10],cj:=[(1,.k (.int .i64)),(3,.lp 3),(5,.lp 5),(6,.lp 6),(8,.k (.bool)),(9,.k (.bool)),(10,.lp 10)],g8:=[(3,46,[.int .u32,.int .u32,.int .u32,.int .u32,.int .u32,.int .u32,.int .u32,.int .u32,.int .u8,.int .i64,.int .u32,.bool]),(5,41,[.int .u8,.int .i64,.slice,.bool,.int .u32,.int .u32,.int .u8,.bool]),(6,46,[.int .u32,.int .u32,.int .u32,.int .u32,.int .u32,.int .u32,.int .u32,.int .u32,.int .u8,.int .i64,.int .u32,.bool]),(10,46,[.int .u32,.int .u32,.int .u32,.int .u32,.int .u32,.int .u32,.int .u32,.int .u32,.int .u8,.int .i64,.int .u32,.bool])],cC:=[0]}),(12,{cW:=[70],mg:=true,wT:=[53,54,55,56,57,58,59,60,61,62,63,64,65,66,67,68,69], }),(15,{cW:=[9],mg:=true,wT:=[71,72,73,74,75,76,77], }),(18,{cW:=[87],mg:=true,wT:=[82,83,84,85,86], })], }
def Ul:bP:={aX:=[3],aV:=[(3,3)],bg:=[(1,{cW:=[0,3],vy:=[3],mM:=[(4,.k (.int .i64))], })], }
def Um:bP:={bg:=[(2,{cW:=[0,1,8,9],cj:=[(0,.k (.slice))],cC:=[0]})], }
def Uo:bP:={aX:=[6],aV:=[(6,6)], }
def Uq:bP:={}
def Ur:bP:={}
def Us:bP:={aX:=[2],aV:=[(2,2),(4,2),(5,2),(12,2),(13,2),(21,2),(22,2),(30,2),(31,2)], }
def Ut:bP:={bg:=[(4,{cW:=[8],mg:=true,wT:=[9,10,11,12,13,14,15,16,17,18,19], }),(8,{dl:=true,wT:=[27,28,29,30,31,32,33,34,35,36,37,38,39,40,41,42], })], }
def Uu:bP:={bg:=[(2,{cW:=[0,1,7,8],mM:=[(4,.k (.int .i64))],cC:=[0]})], }
def Uv:bP:={bg:=[(3,{dl:=true,wT:=[18,19,20,21,22,23,24,25,26,27,28,29,30,31,32], })], }
def Uw:bP:={bg:=[(0,{dl:=true,wT:=[1,2,3,4,5,6], })], }
def Ux:bP:={}
def Uy:bP:={}
def Uz:bP:={bg:=[(1,{cW:=[2],mg:=true,wT:=[3,4,5,6,7,8,9,10], })], }
def UA:bP:={aX:=[1],aV:=[(1,1),(3,1),(7,1),(12,1),(17,1),(22,1),(27,1),(32,1),(37,1),(42,1),(48,1),(52,1)],bg:=[(1,{cW:=[2],mg:=true,wT:=[3,4,5,6,7,8,9,10,11,12,13,14,15,16,17,18,19,20,21,22,23,24,25,26,27,28,29,30,31,32,33,34,35,36,37,38,39,40,41,42,43,44,45,46,47,48,49,50,51,52,53,54,55,56,57], })], }
def UB:bP:={aX:=[1],aV:=[(1,1),(4,1),(9,1),(12,1),(16,1),(20,1),(26,1)], }
def UC:bP:={aX:=[0],aV:=[(0,0)], }
def UD:bP:={bg:=[(3,{cW:=[0,1,2,8,9,10],cj:=[(0,.k (.slice)),(1,.k (.int .i64)),(2,.k (.func)),(8,.k (.int .i64)),(9,.k (.int .i64))],cC:=[0]})], }
def UE:bP:={aX:=[2],aV:=[(2,2),(5,2)], }
def UF:bP:={}
def UG:bP:={aX:=[2,4],aV:=[(2,2),(6,2),(7,2),(8,2),(13,2),(4,4)],bg:=[(2,{cW:=[17],mg:=true,wT:=[8,9,10,11,12,13,14,15,16], })], }
def UH:bP:={bg:=[(1,{cW:=[2],mg:=true,wT:=[3,4,5,6,7,8], })], }
def UI:bP:={bg:=[(1,{cW:=[0],mM:=[(2,.k (.int .i64)),(3,.k (.int .i64))], }),(3,{cj:=[(30,.k (.bool))],dl:=true,wT:=[16,17,18,19,20,21,22,23,24,25,26,27,28,29,30], }),(7,{dl:=true,wT:=[33,34,35,36,37,38], }),(13,{cj:=[(62,.k (.bool))],dl:=true,wT:=[51,52,53,54,55,56,57,58,59,60,61,62], })], }
def UJ:bP:={aX:=[5,7],aV:=[(5,5),(24,5),(25,5),(66,5),(7,7),(39,7)],bg:=[(4,{cj:=[(8,.k (.int .i64))],dl:=true,wT:=[8,34,35,36,37,38,39,40,41,42,43,44,45,46,47], }),(5,{cW:=[53],mg:=true,wT:=[48,49,50,51,52], })], }
def UK:bP:={bg:=[(2,{cW:=[0,1,7,8],mM:=[(4,.k (.int .i64))],cC:=[0]})], }
def UL:bP:={bg:=[(3,{cW:=[3,6,7,8],cj:=[(3,.k (.int .u32))],cC:=[0]}),(9,{cW:=[3,6,7,8,16],cj:=[(3,.k (.int .u32)),(6,.k (.slice)),(7,.k (.int .i64)),(8,.k (.int .i64))],cC:=[2]})], }
def UM:bP:={}
def UN:bP:={}
def UO:bP:={}
def UP:bP:={aX:=[2],aV:=[(2,2),(5,2)], }
def UQ:bP:={bg:=[(1,{cj:=[(2,.k (.int .i64)),(3,.k (.bool))],dl:=true,wT:=[2,3,4,5,6,7,8,9,10,11,12,13,14,15,16,17], })], }
def UR:bP:={aX:=[7],aV:=[(7,7),(83,7)],bg:=[(1,{cj:=[(3,.k (.int .i64)),(4,.k (.bool))],dl:=true,wT:=[3,4,10,11,12,13,14,15,16,17,18,19,20,21,22,23,24], }),(9,{cj:=[(57,.k (.bool))],dl:=true,wT:=[42,43,44,45,46,47,48,49,50,51,52,53,54,55,56,57], }),(12,{cW:=[0,3,5],cj:=[(0,.k (.aj)),(3,.k (.int .i64)),(5,.k (.int .i64))],mM:=[(2,.k (.int .i64))],cC:=[0]})], }
def US:bP:={aX:=[11,13],aV:=[(11,11),(13,13)],bg:=[(5,{cW:=[26],mg:=true,wT:=[27,28,29,30,31,32,33,34,35,36], }),(11,{cW:=[41],mg:=true,wT:=[42,43,44,45,46,47,48,49,50,51,52,53,54], }),(25,{dl:=true,wT:=[79,80,81,82,83,84,85,86,87,88,89,90,91,92], }),(27,{dl:=true,wT:=[93,94,95,96,97,98,99,100,101,102], })], }
def UT:bP:={}
def UU:bP:={bg:=[(6,{cW:=[0,1,2,8,9,17,18,19],cj:=[(8,.k (.int .i64)),(9,.k (.bool))],cC:=[0]}),(10,{cW:=[36],mg:=true,wT:=[23,24,25,26,27,28,29,30,31,32,33,34,35], }),(12,{cW:=[49],mg:=true,wT:=[37,38,39,40,41,42,43,44,45,46,47,48], })], }
def UW:bP:={bg:=[(3,{cW:=[1,5,11,12],cj:=[(5,.k (.slice))],cC:=[0]})], }
def UX:bP:={bg:=[(1,{cW:=[19],mg:=true,wT:=[5,6,7,8,9,10,11,12,13,14,15,16,17,18], })], }
def UY:bP:={}
def UZ:bP:={bg:=[(1,{cW:=[0,2,3],cC:=[0]})], }
def Va:bP:={bg:=[(2,{dl:=true,wT:=[11], }),(5,{cW:=[26],mg:=true,wT:=[21,22,23,24,25], }),(6,{dl:=true,wT:=[27], }),(10,{cW:=[7,8],cj:=[(7,.k (.slice))],cC:=[0]})], }
def Vb:bP:={}
def Vc:bP:={}
theorem YP:XOk Tryz.prog 146 .overlaps:=⟨Tryz.f146,89,4,138,Tryz.func146,by kernel_rfl,by kernel_rfl,by kernel_rfl,by kernel_rfl,by kernel_rfl,by kernel_rfl⟩
def Vd:List (Nat×XK):=[(146,.overlaps)]
theorem Rc:∀g k,Am.ab Vd g=some k→XOk Tryz.prog g k:=by
 intro g k hg;simp only[Vd,iG,lJ] at hg;split at hg
 ·rename_i he;subst he;cases hg;exact YP
 cases hg
def aaV:List (Nat×bP):=[(3,aaT),(6,aaU),(10,Xw),(11,Xx),(12,Xy),(13,Xz),(14,XA),(15,XB),(16,XC),(17,XD),(18,XE),(19,XF),(20,XG),(22,XH),(23,XI),(24,XJ),(25,XL),(26,XM),(27,XN),(30,XO),(36,XP),(37,XQ),(38,XR),(39,XS),(40,XT),(41,XU),(42,XV),(43,XW),(44,XX),(45,XY),(46,XZ),(47,X0),(48,X1),(49,X2),(50,X3),(51,X4),(52,X5),(53,X6),(54,X7),(55,X8),(58,X9),(59,Ya),(60,Yb),(61,Yc),(62,Yd),(63,Ye),(64,Yf),(65,Yg),(66,Yh),(67,Yi),(68,Yj),(69,Yk),(70,Yl),(71,Ym),(72,Yn),(73,Yo),(74,Yp),(75,Yq),(76,Yr),(77,Ys),(78,Yt),(79,Yu),(80,Yv),(81,Yw),(82,Yx),(83,Yy),(84,Yz),(85,YA),(86,YB),(87,YC),(88,YD),(89,YE),(90,YF),(91,YG),(92,YH),(93,YI),(94,YJ),(95,YK),(96,YL),(97,YM),(98,YN),(99,YO),(100,T1),(101,T2),(102,T3),(103,T4),(104,T5),(105,T6),(106,T7),(107,T8),(108,T9),(109,Ua),(110,Ub),(111,Uc),(112,Ud),(113,Ue),(114,Uf),(115,Uh),(116,Uj),(117,Uk),(118,Ul),(119,Um),(120,Uo),(121,Uq),(122,Ur),(123,Us),(124,Ut),(125,Uu),(126,Uv),(127,Uw),(129,Ux),(130,Uy),(131,Uz),(132,UA),(133,UB),(134,UC),(135,UD),(136,UE),(137,UF),(138,UG),(139,UH),(140,UI),(141,UJ),(142,UK),(143,UL),(144,UM),(145,UN),(147,UO),(148,UP),(149,UQ),(150,UR),(151,US),(152,UT),(153,UU),(154,UW),(155,UX),(157,UY),(158,UZ),(159,Va),(160,Vb),(162,Vc)]
theorem ti_ok (t:Nat) (x:TI) (h:tab[t]? =some x):QO Tryz.prog t=some x:=by
 have h1:t<240:=by
  have h2:tab.length=240:=by kernel_rfl
  have:=(List.getElem?_eq_some_iff.1 h).1;omega
 have h3:=congrArg (fun l=>l[t]?) TU;simp only[List.getElem?_map,h,List.getElem?_range h1,Option.map_some,Option.some.injEq] at h3;exact h3
theorem eq_ok (t:Nat) (ks:List cg) (h:Am.ab eqs t=some ks):KZ Tryz.prog t ks=true:=by
 have key:∀l:List (TypeId×List cg),l.all (fun x=>KZ Tryz.prog x.1 x.2)=true→Am.ab l t=some ks→KZ Tryz.prog t ks=true:=by
  intro l
  induction l with
  |nil=>intro _ h;cases h
  |cons p l ih=>
   intro h1 h2;rw[List.all_cons,Bool.and_eq_true] at h1;simp only[Am.ab,aW] at h2;by_cases he:t=p.1
   ·simp only[he,decide_true,cond_true,Option.some.injEq] at h2;rw[he, ←h2];exact h1.1
   ·simp only[he,decide_false,cond_false] at h2;exact ih h1.2 h2
 exact key _ T0 h
noncomputable def fns:List (Nat×Func):=[(3,Tryz.f3),(6,Tryz.f6),(10,Tryz.f10),(11,Tryz.f11),(12,Tryz.f12),(13,Tryz.f13),(14,Tryz.f14),(15,Tryz.f15),(16,Tryz.f16),(17,Tryz.f17),(18,Tryz.f18),(19,Tryz.f19),(20,Tryz.f20),(22,Tryz.f22),(23,Tryz.f23),(24,Tryz.f24),(25,Tryz.f25),(26,Tryz.f26),(27,Tryz.f27),(30,Tryz.f30),(36,Tryz.f36),(37,Tryz.f37),(38,Tryz.f38),(39,Tryz.f39),(40,Tryz.f40),(41,Tryz.f41),(42,Tryz.f42),(43,Tryz.f43),(44,Tryz.f44),(45,Tryz.f45),(46,Tryz.f46),(47,Tryz.f47),(48,Tryz.f48),(49,Tryz.f49),(50,Tryz.f50),(51,Tryz.f51),(52,Tryz.f52),(53,Tryz.f53),(54,Tryz.f54),(55,Tryz.f55),(58,Tryz.f58),(59,Tryz.f59),(60,Tryz.f60),(61,Tryz.f61),(62,Tryz.f62),(63,Tryz.f63),(64,Tryz.f64),(65,Tryz.f65),(66,Tryz.f66),(67,Tryz.f67),(68,Tryz.f68),(69,Tryz.f69),(70,Tryz.f70),(71,Tryz.f71),(72,Tryz.f72),(73,Tryz.f73),(74,Tryz.f74),(75,Tryz.f75),(76,Tryz.f76),(77,Tryz.f77),(78,Tryz.f78),(79,Tryz.f79),(80,Tryz.f80),(81,Tryz.f81),(82,Tryz.f82),(83,Tryz.f83),(84,Tryz.f84),(85,Tryz.f85),(86,Tryz.f86),(87,Tryz.f87),(88,Tryz.f88),(89,Tryz.f89),(90,Tryz.f90),(91,Tryz.f91),(92,Tryz.f92),(93,Tryz.f93),(94,Tryz.f94),(95,Tryz.f95),(96,Tryz.f96),(97,Tryz.f97),(98,Tryz.f98),(99,Tryz.f99),(100,Tryz.f100),(101,Tryz.f101),(102,Tryz.f102),(103,Tryz.f103),(104,Tryz.f104),(105,Tryz.f105),(106,Tryz.f106),(107,Tryz.f107),(108,Tryz.f108),(109,Tryz.f109),(110,Tryz.f110),(111,Tryz.f111),(112,Tryz.f112),(113,Tryz.f113),(114,Tryz.f114),(115,Tryz.f115),(116,Tryz.f116),(117,Tryz.f117),(118,Tryz.f118),(119,Tryz.f119),(120,Tryz.f120),(121,Tryz.f121),(122,Tryz.f122),(123,Tryz.f123),(124,Tryz.f124),(125,Tryz.f125),(126,Tryz.f126),(127,Tryz.f127),(129,Tryz.f129),(130,Tryz.f130),(131,Tryz.f131),(132,Tryz.f132),(133,Tryz.f133),(134,Tryz.f134),(135,Tryz.f135),(136,Tryz.f136),(137,Tryz.f137),(138,Tryz.f138),(139,Tryz.f139),(140,Tryz.f140),(141,Tryz.f141),(142,Tryz.f142),(143,Tryz.f143),(144,Tryz.f144),(145,Tryz.f145),(147,Tryz.f147),(148,Tryz.f148),(149,Tryz.f149),(150,Tryz.f150),(151,Tryz.f151),(152,Tryz.f152),(153,Tryz.f153),(154,Tryz.f154),(155,Tryz.f155),(157,Tryz.f157),(158,Tryz.f158),(159,Tryz.f159),(160,Tryz.f160),(162,Tryz.f162)]
theorem Ve:fns.map (fun x=>Tryz.prog.funcs[x.1]?)=fns.map (fun x=>some x.2):=by kernel_rfl
theorem fn_ok (f:Nat) (x:Func) (h:Am.ab fns f=some x):Tryz.prog.funcs[f]? =some x:=by
 have key:∀l:List (Nat×Func),l.map (fun x=>Tryz.prog.funcs[x.1]?)=l.map (fun x=>some x.2)→Am.ab l f=some x→Tryz.prog.funcs[f]? =some x:=by
  intro l
  induction l with
  |nil=>intro _ h;cases h
  |cons p l ih=>
   intro h1 h2;simp only[List.map_cons,List.cons.injEq] at h1;simp only[Am.ab,aW] at h2;by_cases he:f=p.1
   ·simp only[he,decide_true,cond_true,Option.some.injEq] at h2;rw[he, ←h2];exact h1.1
   ·simp only[he,decide_false,cond_false] at h2;exact ih h1.2 h2
 exact key _ Ve h
noncomputable def eE:kv where
 P:=Tryz.prog
 ext:=HW Tryz.prog Vd
 fn:=fun f=>Am.ab fns f
 fn_ok:=fn_ok
 ti:=fun t=>tab[t]?
 ti_ok:=ti_ok
 ann:=fun f=>(Am.ab aaV f).getD {}
 eqt:=eqs
 eq_ok:=eq_ok
 names:=yU
noncomputable def cl:=mn.call (rR eE)
noncomputable def lo (f:FuncId) (n:Nat):=mn.loop (rR eE) (Nz eE f n) f n
theorem qc {f:FuncId} {aS:List V} {H:Am.ag} {K:V→Am.ag→Prop} {Q:Prop} (h:((F eE (rR eE)).call f aS H K)=Q:=by kernel_rfl):cl f aS H K=Q:=Nh.trans h
theorem ql {f:FuncId} {n:Nat} {S:Am.St} {Kr:Am.St→Prop} {Ke:Nat→Am.St→Prop} {Q:Prop} (h:((F eE (rR eE)).loop (Nz eE f n) f n S Kr Ke)=Q:=by kernel_rfl):lo f n S Kr Ke=Q:=Ni.trans h
theorem YQ:Tryz.prog.follows .mixedOrders=true:=by kernel_rfl
theorem YR:jW eE:=Ll rfl Rc
end Go.Proofs.YtlgdkndamddpkaaGreat
end
section
namespace Go.Am
def ag.ok (H:ag):Prop:=∀id o,H.get id=some o→id<H.next
theorem ag.vW (H:ag) (o:Obj):(H.alloc o).get H.next=some o:=by simp [ag.alloc]
theorem ag.fU {H:ag} {o:Obj} {id:Nat} (h:id≠H.next):(H.alloc o).get id=H.get id:=by simp [ag.alloc,h]
theorem ag.Jh (H:ag) (id:Nat) (o:Obj):(H.put id o).get id=some o:=by simp [ag.put]
theorem ag.lK {H:ag} {id j:Nat} {o:Obj} (h:j≠id):(H.put id o).get j=H.get j:=by simp [ag.put,h]
theorem ag.Ib (H:ag) (o:Obj):(H.alloc o).next=H.next+1:=rfl
theorem ag.NM (H:ag) (id:Nat) (o:Obj):(H.put id o).next=H.next:=rfl
theorem ag.zo {H:ag} {id off:Nat} {vs:List V} {e:TypeId} {l:List V} {ro:Bool} (h:H.get id=some (.cells e l ro)):H.store id off vs=H.put id (.cells e (bM l off vs) ro):=by simp [ag.store,h]
theorem ag.ok.alloc {H:ag} (h:H.ok) (o:Obj):(H.alloc o).ok:=by
 intro id o' hg;rw[ag.Ib];by_cases he:id=H.next
 ·omega
 ·rw[ag.fU he] at hg;have:=h id o' hg;omega
theorem ag.ok.put {H:ag} (h:H.ok) {id:Nat} {o o':Obj} (hg:H.get id=some o):(H.put id o').ok:=by
 intro j o2 hj;rw[ag.NM];by_cases he:j=id
 ·subst he;exact h _ _ hg
 ·rw[ag.lK he] at hj;exact h _ _ hj
def Rd (H:ag) (q:Oq) (cs:List V):Prop:=
 cs=[]∨∃id off e l ro,q=some (id,off)∧H.get id=some (.cells e l ro)∧(l.drop off).take cs.length=cs
theorem Rd.nil (H:ag) (q:Oq):Rd H q []:=.inl rfl
theorem FH {l cs:List V} {off:Nat} (h:(l.drop off).take cs.length=cs) (h0:cs≠[]):off+cs.length≤l.length:=by
 have:=congrArg List.length h;simp at this;have:0<cs.length:=List.length_pos_iff.2 h0;omega
theorem FI {l cs:List V} {off i k:Nat} (h:(l.drop off).take cs.length=cs) (hi:i+k≤cs.length):(l.drop (off+i)).take k=(cs.drop i).take k:=by
 rw[←h];rw[List.drop_take,List.take_take,List.drop_drop];congr 1;omega
section
variable {H:ag} {q:Oq} {cs:List V}
theorem Rd.some (h:Rd H q cs) (h0:cs≠[]):q.isSome=true:=by
 rcases h with h|⟨id,off,e,l,ro,rfl,_⟩
 ·exact absurd h h0
 ·rfl
theorem Rd.inb (h:Rd H q cs) {i k:Nat} (hi:i+k≤cs.length) (h0:cs≠[]):H.inb (q.getD (0,0)).1 ((q.getD (0,0)).2+i) k=true:=by
 rcases h with h|⟨id,off,e,l,ro,rfl,hg,ht⟩
 ·exact absurd h h0
 ·have:=FH ht h0;simp [ag.inb,hg];omega
theorem Rd.sub (h:Rd H q cs) {i k:Nat} (hi:i+k≤cs.length) (h0:cs≠[]):H.sub (q.getD (0,0)).1 ((q.getD (0,0)).2+i) k=(cs.drop i).take k:=by
 rcases h with h|⟨id,off,e,l,ro,rfl,hg,ht⟩
 ·exact absurd h h0
 ·simp only[ag.sub,ag.cs,Option.getD_some,hg];exact FI ht hi
theorem k6:∀(l:List V) (i:Nat),ae l i=l.getD i .none
 |[],i=>by simp [ae]
 |x::l,0=>rfl
 |x::l,i+1=>by rw[ae,k6 l i];simp
theorem Rd.cell (h:Rd H q cs) {i:Nat} (hi:i<cs.length):H.cell (q.getD (0,0)).1 ((q.getD (0,0)).2+i)=ae cs i:=by
 rcases h with h|⟨id,off,e,l,ro,rfl,hg,ht⟩
 ·rw[h] at hi;cases hi
 ·simp only[ag.cell,ag.cs,Option.getD_some,hg,k6];have:=congrArg (fun m=>m.getD i V.none) ht;simp only[List.getD_eq_getElem?_getD,List.getElem?_take,List.getElem?_drop,if_pos hi] at this⊢;exact this
theorem Rd.NN (h:Rd H q cs) {k:Nat} (hi:k≤cs.length) (h0:cs≠[]):H.inb (q.getD (0,0)).1 (q.getD (0,0)).2 k=true:=by
 simpa using h.inb (i:=0) (k:=k) (by omega) h0
theorem Rd.aaW (h:Rd H q cs) {k:Nat} (hi:k≤cs.length) (h0:cs≠[]):H.sub (q.getD (0,0)).1 (q.getD (0,0)).2 k=cs.take k:=by
 simpa using h.sub (i:=0) (k:=k) (by omega) h0
theorem Rd.all (h:Rd H q cs) (h0:cs≠[]):H.sub (q.getD (0,0)).1 (q.getD (0,0)).2 cs.length=cs:=by
 rw[h.aaW (Nat.le_refl _) h0,List.take_length]
theorem Rd.part (h:Rd H q cs) {id off:Nat} (hq:q=Option.some (id,off)) (i k:Nat) (hi:i+k≤cs.length):Rd H (Option.some (id,off+i)) ((cs.drop i).take k):=by
 by_cases h0:(cs.drop i).take k=[]
 ·exact .inl h0
 ·rcases h with h|⟨id',off',e,l,ro,he,hg,ht⟩
  ·rw[h] at h0;simp at h0
  ·rw[hq] at he;cases he;refine .inr ⟨id,off+i,e,l,ro,rfl,hg, ?_⟩;have hl:((cs.drop i).take k).length=k:=by simp;omega
   rw[hl];exact FI ht hi
structure Fr (H H':ag) (W:Nat→Prop):Prop where
 next:H.next≤H'.next
 xx:∀id,id<H.next→¬W id→H'.get id=H.get id
theorem Fr.alloc (H:ag) (o:Obj) (W:Nat→Prop):Fr H (H.alloc o) W:=
 ⟨Nat.le_succ _,fun id hid _=>ag.fU (by omega)⟩
theorem Fr.get {H H':ag} {W:Nat→Prop} (h:Fr H H' W) {id:Nat} {o:Obj} (hok:H.ok) (hg:H.get id=Option.some o) (hw:¬W id):H'.get id=Option.some o:=by
 rw[h.xx id (hok id o hg) hw,hg]
def SZ (q:Oq) (W:Nat→Prop):Prop:=∀id off,q=Option.some (id,off)→¬W id
theorem Rd.fr {H':ag} {W:Nat→Prop} (h:Rd H q cs) (hok:H.ok) (hf:Fr H H' W) (ha:SZ q W):Rd H' q cs:=by
 rcases h with h|⟨id,off,e,l,ro,rfl,hg,ht⟩
 ·exact .inl h
 ·exact .inr ⟨id,off,e,l,ro,rfl,hf.get hok hg (ha id off rfl),ht⟩
structure WQ (H:ag) (el n:Nat) (q:Oq) (len cap:Nat) (cs:List V):Prop where
 size:cs.length=len*n
 one:bd cs
 le:len≤cap
 mem:(q=none∧cap=0)∨∃id off l,q=Option.some (id,off)∧H.get id=Option.some (.cells el l false)∧off+cap*n≤l.length∧(l.drop off).take cs.length=cs
theorem WQ.rd {el n len cap:Nat} (h:WQ H el n q len cap cs):Rd H q cs:=by
 rcases h.mem with⟨rfl,hc⟩|⟨id,off,l,rfl,hg,_,ht⟩
 ·left;have:=h.le;have h1:len=0:=by omega
  have:=h.size;rw[h1,Nat.zero_mul] at this;exact List.length_eq_zero_iff.1 this
 ·exact .inr ⟨id,off,el,l,false,rfl,hg,ht⟩
theorem WQ.fr {H':ag} {W:Nat→Prop} {el n len cap:Nat} (h:WQ H el n q len cap cs) (hok:H.ok) (hf:Fr H H' W) (ha:SZ q W):WQ H' el n q len cap cs:=by
 refine⟨h.size,h.one,h.le, ?_⟩;rcases h.mem with hn|⟨id,off,l,rfl,hg,h1,ht⟩
 ·exact .inl hn
 ·exact .inr ⟨id,off,l,rfl,hf.get hok hg (ha id off rfl),h1,ht⟩
theorem Ji:∀(l:List V) (j n:Nat) (v:V),yf l j n v=l.mapIdx fun i x=>if j+i=n then v else x
 |[],_,_,_=>rfl
 |x::l,j,n,v=>by
  rw[yf,Ji l (j+1) n v,List.mapIdx_cons,nn,aW];congr 1
  ·by_cases h:j=n<;>simp [h]
  ·congr 1;funext i x;have:j+1+i=j+(i+1):=by omega
   rw[this]
theorem FJ (l:List V) (n:Nat) (v:V):yf l 0 n v=l.set n v:=by
 rw[Ji];apply List.ext_getElem?;intro i;simp only[List.getElem?_mapIdx,List.getElem?_set,Nat.zero_add];by_cases h:n=i
 ·subst h;by_cases hl:n<l.length
  ·simp [hl]
  ·simp [hl]
 ·have:¬i=n:=fun e=>h e.symm
  simp [h,this]
theorem fV:∀(vs l:List V) (off:Nat),off+vs.length≤l.length→bM l off vs=l.take off++(vs++l.drop (off+vs.length))
 |[],l,off,h=>by simp [bM]
 |v::vs,l,off,h=>by
  simp only[List.length_cons] at h;rw[bM,FJ,fV vs _ (off+1) (by simp;omega)];apply List.ext_getElem?;intro i;simp only[List.getElem?_append,List.getElem?_take,List.getElem?_drop,List.getElem?_set,List.length_take,List.length_set,List.length_cons,List.cons_append,List.getElem?_cons]
  grind
theorem Re {l cs src:List V} {off:Nat} (ht:(l.drop off).take cs.length=cs) (hl:off+cs.length+src.length≤l.length):((bM l (off+cs.length) src).drop off).take (cs++src).length=cs++src:=by
 rw[fV _ _ _ hl];have e:l.take (off+cs.length)=l.take off++cs:=by rw[List.take_add,ht]
 rw[e,List.append_assoc,List.drop_left' (by simp;omega), ←List.append_assoc,List.take_left' rfl]
theorem gK:∀(vs l:List V) (off:Nat),(bM l off vs).length=l.length
 |[],l,off=>rfl
 |v::vs,l,off=>by rw[bM,gK vs,FJ,List.length_set]
theorem qY {l:List V} (h:bd l):vE l=true:=sJ.2 h
def Vf (H:ag) (n:Nat) (x:V) (m:Nat) (src:List V):Prop:=
 src.length=m*n∧bd src∧((∃q c,x=.slice q m c∧Rd H q src)∨∃s,x=.cH s∧m=s.size∧n=1∧src=eX s)
theorem FK {n m:Nat} {x:V} {src:List V} (h:Vf H n x m src) (hn:0<n):∃ok cf,lq H n x=Option.some (m,ok,cf)∧ok m=true∧cf m=src:=by
 obtain⟨hl,h1,⟨q,c,rfl,hr⟩|⟨s,rfl,rfl,rfl,rfl⟩⟩:=h
 ·refine⟨_,_,rfl, ?_, ?_⟩
  ·by_cases h0:m=0
   ·subst h0;rfl
   ·have hne:src≠[]:=by
     intro e;rw[e] at hl;have:=Nat.mul_pos (Nat.pos_of_ne_zero h0) hn;simp at hl;omega
    simp only[pB,Bool.or_eq_true,Bool.and_eq_true];exact .inr ⟨hr.some hne,hr.NN (by omega) hne,qY (by rw[←hl,hr.all hne];exact h1)⟩
  ·by_cases h0:m=0
   ·subst h0;simp at hl;subst hl;rfl
   ·have hz:Nat.beq m 0=false:=by simp [h0]
    have hne:src≠[]:=by
     intro e;rw[e] at hl;have:=Nat.mul_pos (Nat.pos_of_ne_zero h0) hn;simp at hl;omega
    simp only[hz,cond_false];rw[←hl,hr.all hne]
 ·refine⟨_,_,rfl,rfl, ?_⟩;exact List.take_of_length_le (by rw[hl];omega)
end
abbrev Hp:=Nat→Option Obj
abbrev cz:=Hp→Prop
def di (id:Nat) (e:TypeId) (cs:List V):cz:=fun h=>h=fun j=>if j=id then some (.cells e cs false) else none
def lL (h1 h2 h:Hp):Prop:=∀i,(h1 i=none∧h i=h2 i)∨(h2 i=none∧h i=h1 i)
def zp:List cz→cz
 |[]=>fun h=>h=fun _=>none
 |A::L=>fun h=>∃h1 h2,lL h1 h2 h∧A h1∧zp L h2
def kc (A B:cz):cz:=fun h=>∃h1 h2,lL h1 h2 h∧A h1∧B h2
def emp:cz:=fun h=>h=fun _=>none
def Hg (p:Prop):cz:=fun h=>p∧h=fun _=>none
def ET {α:Type} (A:α→cz):cz:=fun h=>∃x,A x h
theorem lL.symm {a b c:Hp} (h:lL a b c):lL b a c:=fun i=>(h i).symm
theorem lL.empty (a:Hp):lL (fun _=>none) a a:=fun i=>.inl ⟨rfl,rfl⟩
theorem lL.swap {a b c bc abc:Hp} (h1:lL b c bc) (h2:lL a bc abc):∃ac,lL a c ac∧lL b ac abc:=by
 refine⟨fun i=>match a i with|some o=>some o|none=>c i,fun i=> ?_,fun i=> ?_⟩
 ·rcases h1 i with⟨e1,e2⟩|⟨e1,e2⟩<;>rcases h2 i with⟨e3,e4⟩|⟨e3,e4⟩
  ·simp [e3]
  ·rw[e2] at e3;right;refine⟨e3, ?_⟩;cases h:a i<;>simp [e3,h]
  ·simp [e3,e1]
  ·right;refine⟨e1, ?_⟩;cases h:a i<;>simp [e1,h]
 ·rcases h1 i with⟨e1,e2⟩|⟨e1,e2⟩<;>rcases h2 i with⟨e3,e4⟩|⟨e3,e4⟩
  ·left;simp [e1,e3,e4,e2]
  ·left;refine⟨e1, ?_⟩;rw[e2] at e3;cases h:a i<;>simp [e3,e4,h]
  ·right;simp [e1,e3,e4,e2]
  ·left;rw[e2] at e3;refine⟨e3, ?_⟩;cases h:a i<;>simp [e1,e4,h]
theorem lL.Vg {a b c:Hp} (h:lL a b c) {i:Nat} {o:Obj} (ha:a i=some o):c i=some o:=by
 rcases h i with⟨e,_⟩|⟨_,e⟩
 ·rw[ha] at e;cases e
 ·rw[e,ha]
theorem lL.Vh {a b c:Hp} (h:lL a b c) {i:Nat} {o:Obj} (hb:b i=some o):c i=some o:=h.symm.Vg hb
theorem Lo {A B:cz} {L:List cz} {h:Hp} (hs:zp (A::B::L) h):zp (B::A::L) h:=by
 obtain⟨h1,h2,j1,a,h3,h4,j2,b,l⟩:=hs;obtain⟨ac,k1,k2⟩:=lL.swap j2 j1;exact⟨h3,ac,k2,b,h1,h4,k1,a,l⟩
theorem Lp {A:cz} {L L':List cz} (hl:∀h,zp L h→zp L' h) {h:Hp} (hs:zp (A::L) h):zp (A::L') h:=by
 obtain⟨h1,h2,j1,a,l⟩:=hs;exact⟨h1,h2,j1,a,hl _ l⟩
theorem BP {L L':List cz} (hp:L.Perm L'):∀h,zp L h→zp L' h:=by
 induction hp with
 |nil=>exact fun h=>id
 |cons x _ ih=>exact fun h=>Lp ih
 |swap x y l=>exact fun h=>Lo
 |trans _ _ ih1 ih2=>exact fun h hs=>ih2 h (ih1 h hs)
def fl:List cz→Nat→cz
 |[],_=>emp
 |A::_,0=>A
 |_::L,n+1=>fl L n
def eS:List cz→Nat→List cz
 |[],_=>[]
 |_::L,0=>L
 |A::L,n+1=>A::eS L n
theorem qZ:∀{L:List cz} {n:Nat},n<L.length→L.Perm (fl L n::eS L n)
 |A::L,0,_=>.refl _
 |A::L,n+1,h=>((qZ (Nat.lt_of_succ_lt_succ h)).cons A).trans (.swap ..)
structure az (B H:ag) (L:List cz):Prop where
 ok:H.ok
 Lq:B.next≤H.next
 ro:∀id o,B.get id=some o→H.get id=some o∧∃e cs,o=.cells e cs true
 ex:∃h,(∀id o,h id=some o→H.get id=some o)∧zp L h
variable {B H:ag} {L L':List cz} {A A':cz}
theorem az.mZ (h:az B H L) (hp:L.Perm L'):az B H L':=
 ⟨h.ok,h.Lq,h.ro,let ⟨g,h1,h2⟩:=h.ex;⟨g,h1,BP hp _ h2⟩⟩
theorem az.up (h:az B H L) (n:Nat) (hn:Nat.blt n L.length=true:=by rfl):az B H (fl L n::eS L n):=
 h.mZ (qZ (Nat.le_of_ble_eq_true hn))
theorem az.swap (h:az B H (A::A'::L)):az B H (A'::A::L):=h.mZ (.swap ..)
theorem az.imp (h:az B H (A::L)) (hi:∀g,A g→A' g):az B H (A'::L):=
 ⟨h.ok,h.Lq,h.ro,let ⟨g,h1,h2,h3,h4,h5,h6⟩:=h.ex;⟨g,h1,h2,h3,h4,hi _ h5,h6⟩⟩
theorem az.drop (h:az B H (A::L)):az B H L:=
 ⟨h.ok,h.Lq,h.ro,let ⟨g,h1,h2,h3,h4,h5,h6⟩:=h.ex;⟨h3,fun id o ho=>h1 id o (h4.Vh ho),h6⟩⟩
theorem az.Hg {p:Prop} (h:az B H (Hg p::L)):p∧az B H L:=
 let ⟨g,h1,h2,h3,h4,⟨h5,h7⟩,h6⟩:=h.ex
 ⟨h5,h.drop⟩
theorem az.pure {p:Prop} (h:az B H L) (hp:p):az B H (Am.Hg p::L):=
 ⟨h.ok,h.Lq,h.ro,let ⟨g,h1,h2⟩:=h.ex;⟨g,h1,_,g,lL.empty g,⟨hp,rfl⟩,h2⟩⟩
theorem az.MW {α:Type} {A:α→cz} (h:az B H (ET A::L)):∃x,az B H (A x::L):=
 let ⟨g,h1,h2,h3,h4,⟨x,h5⟩,h6⟩:=h.ex
 ⟨x,h.ok,h.Lq,h.ro,g,h1,h2,h3,h4,h5,h6⟩
theorem az.intro {α:Type} {A:α→cz} {x:α} (h:az B H (A x::L)):az B H (ET A::L):=h.imp fun g hg=>⟨x,hg⟩
theorem az.kc (h:az B H (kc A A'::L)):az B H (A::A'::L):=by
 obtain⟨g,h1,h2,h3,h4,⟨h5,h6,h7,h8,h9⟩,ye⟩:=h.ex;obtain⟨ac,k1,k2⟩:=lL.swap h7 (h4.symm);exact⟨h.ok,h.Lq,h.ro,g,h1,h5,ac,k2,h8,h6,h3,k1.symm,h9,ye⟩
theorem az.oG (h:az B H (A::A'::L)):az B H (Am.kc A A'::L):=by
 obtain⟨g,h1,h5,ac,k2,h8,h6,h3,k1,h9,ye⟩:=h.ex;obtain⟨x,k3,k4⟩:=lL.swap k1.symm k2;exact⟨h.ok,h.Lq,h.ro,g,h1,x,h3,k4.symm,⟨h5,h6,k3,h8,h9⟩,ye⟩
theorem az.S3 (h:az B H L):az B H (Am.emp::L):=
 ⟨h.ok,h.Lq,h.ro,let ⟨g,h1,h2⟩:=h.ex;⟨g,h1,_,g,lL.empty g,rfl,h2⟩⟩
theorem az.get {id:Nat} {e:TypeId} {cs:List V} (h:az B H (di id e cs::L)):H.get id=some (.cells e cs false):=by
 obtain⟨g,h1,h2,h3,h4,h5,h6⟩:=h.ex;exact h1 _ _ (h4.Vg (by rw[h5];simp))
theorem az.start (hB:B.ok) (hro:∀id o,B.get id=some o→∃e cs,o=.cells e cs true):az B B []:=
 ⟨hB,Nat.le_refl _,fun id o h=>⟨h,hro id o h⟩,fun _=>none,(fun id o h=>by cases h),rfl⟩
theorem az.alloc (h:az B H L) (e:TypeId) (cs:List V):az B (H.alloc (.cells e cs false)) (di H.next e cs::L):=by
 obtain⟨g,h1,h2⟩:=h.ex;refine⟨h.ok.alloc _,Nat.le_succ_of_le h.Lq,fun id o ho=> ?_,fun j=>if j=H.next then some (.cells e cs false) else g j,fun id o ho=> ?_,_,g,fun i=> ?_,rfl,h2⟩
 ·have:=h.ok id o (h.ro id o ho).1;exact⟨by rw[ag.fU (by omega)];exact(h.ro id o ho).1,(h.ro id o ho).2⟩
 ·by_cases hid:id=H.next
  ·subst hid;simp only[if_pos] at ho;rw[ag.vW,ho]
  ·simp only[if_neg hid] at ho;rw[ag.fU hid];exact h1 id o ho
 ·by_cases hid:i=H.next
  ·subst hid;right;refine⟨?_,by simp⟩
   cases hg:g H.next with
   |none=>rfl
   |some o=>have:=h.ok _ _ (h1 _ _ hg);omega
  ·left;simp [hid]
theorem az.put {id:Nat} {e:TypeId} {cs cs':List V} (h:az B H (di id e cs::L)):az B (H.put id (.cells e cs' false)) (di id e cs'::L):=by
 have Wj:=h.get;obtain⟨g,h1,h2,h3,h4,h5,h6⟩:=h.ex;subst h5;refine⟨h.ok.put Wj,h.Lq,fun j o ho=> ?_,fun j=>if j=id then some (.cells e cs' false) else h3 j,fun j o ho=> ?_,_,h3,fun i=> ?_,rfl,h6⟩
 ·have hj:=h.ro j o ho;refine⟨?_,hj.2⟩;by_cases he:j=id
  ·subst he;obtain⟨e',c',rfl⟩:=hj.2;rw[hj.1] at Wj;cases Wj
  ·rw[ag.lK he];exact hj.1
 ·by_cases hid:j=id
  ·subst hid;simp only[if_pos] at ho;rw[ag.Jh,ho]
  ·simp only[if_neg hid] at ho;rw[ag.lK hid];exact h1 j o (h4.Vh ho)
 ·by_cases hid:i=id
  ·subst hid;right;refine⟨?_,by simp⟩;rcases h4 i with⟨e1,_⟩|⟨e1,_⟩
   ·simp at e1
   ·exact e1
  ·left;simp [hid]
theorem az.store {id off:Nat} {e:TypeId} {cs vs:List V} (h:az B H (di id e cs::L)):az B (H.store id off vs) (di id e (bM cs off vs)::L):=by
 rw[ag.zo h.get];exact h.put
theorem az.rd (h:az B H L) {q:Oq} {cs:List V} (hr:Rd B q cs):Rd H q cs:=by
 rcases hr with hr|⟨id,off,e,l,ro,rfl,hg,ht⟩
 ·exact .inl hr
 ·exact .inr ⟨id,off,e,l,ro,rfl,(h.ro _ _ hg).1,ht⟩
def DG (el n:Nat) (q:Oq) (len cap:Nat) (cs:List V):cz:=fun h=>
 cs.length=len*n∧bd cs∧len≤cap∧
   ((q=none∧cap=0∧h=fun _=>none)∨∃id off l,q=some (id,off)∧off+cap*n≤l.length∧(l.drop off).take cs.length=cs∧di id el l h)
section
variable {el n len cap:Nat} {q:Oq} {cs:List V}
theorem az.NO (h:az B H L) (el n:Nat):az B H (DG el n none 0 0 []::L):=
 h.S3.imp fun g hg=>⟨by simp,fun v hv=>by simp at hv,Nat.le_refl _,.inl ⟨rfl,rfl,hg⟩⟩
theorem az.MX (h:az B H (DG el n q len cap cs::L)):cs.length=len*n∧bd cs∧len≤cap∧((q=none∧cap=0∧az B H L)∨∃id off l,q=some (id,off)∧off+cap*n≤l.length∧(l.drop off).take cs.length=cs∧az B H (di id el l::L)):=by
 obtain⟨g,h1,h2,h3,h4,⟨a,b,c,d⟩,h6⟩:=h.ex;refine⟨a,b,c, ?_⟩;rcases d with⟨d1,d2,d3⟩|⟨id,off,l,d1,d2,d3,d4⟩
 ·exact .inl ⟨d1,d2,h.drop⟩
 ·exact .inr ⟨id,off,l,d1,d2,d3,h.ok,h.Lq,h.ro,g,h1,h2,h3,h4,d4,h6⟩
theorem az.unbuf {id off:Nat} {l:List V} (h:az B H (di id el l::L)) (h1:cs.length=len*n) (h2:bd cs) (h3:len≤cap) (h4:off+cap*n≤l.length) (h5:(l.drop off).take cs.length=cs):az B H (DG el n (some (id,off)) len cap cs::L):=
 h.imp fun g hg=>⟨h1,h2,h3,.inr ⟨id,off,l,rfl,h4,h5,hg⟩⟩
theorem az.S4 (h:az B H (DG el n q len cap cs::L)):Rd H q cs:=by
 obtain⟨h1,h2,h3,⟨rfl,hc,_⟩|⟨id,off,l,rfl,h4,h5,h6⟩⟩:=h.MX
 ·left;have:len=0:=by omega
  rw[this,Nat.zero_mul] at h1;exact List.length_eq_zero_iff.1 h1
 ·exact .inr ⟨id,off,el,l,false,rfl,h6.get,h5⟩
theorem az.Vi (h:az B H (DG el n q len cap cs::L)):WQ H el n q len cap cs:=by
 obtain⟨h1,h2,h3,⟨rfl,hc,_⟩|⟨id,off,l,rfl,h4,h5,h6⟩⟩:=h.MX
 ·exact⟨h1,h2,h3,.inl ⟨rfl,hc⟩⟩
 ·exact⟨h1,h2,h3,.inr ⟨id,off,l,rfl,h6.get,h4,h5⟩⟩
theorem az.DH (h:az B H L) {c:Nat} {l:List V} (h1:cs.length=len*n) (h2:bd cs) (h3:len≤c) (h4:c*n≤l.length) (h5:l.take cs.length=cs):az B (H.alloc (.cells el l false)) (DG el n (some (H.next,0)) len c cs::L):=
 (h.alloc el l).unbuf h1 h2 h3 (by omega) (by simpa using h5)
theorem az.FL {E:kv} {t u el n cL:Nat} {z:List V} (h:az B H (DG el n q len cap cs::L)) (he:fI E t=some (el,n,cL,z))
 (hz:bd z) (hzl:z.length=n) (hn:0<n) {m:Nat} {x:V} {src:List V} {ok:Nat→Bool} {cf:Nat→List V} (h1:mP H n cL z (bh E u) x=some (true,m,ok,cf)) (h2:ok m=true) (h3:cf m=src)
 (Hq:src.length=m*n) (h1s:bd src) (ig:(len+m)*(cL+1)≤70368744177664) {K:Oq→Nat→Nat→ag→Prop}
 (hk:∀q' c' H',(q'=q∨∃i,q'=some (i,0))→az B H' (DG el n q' (len+m) c' (cs++src)::L)→K q' (len+m) c' H'):aP E [t,u] [.slice q len cap,x] H K:=by
 have ho:=h.Vi;simp only[aP,he,h1,h3,ay];have hcs:=ho.size;by_cases hroom:len+m≤cap
 ·have hb:Nat.ble (len+m) cap=true:=by simpa using hroom
  rw[hb,ao];by_cases hm:m=0
  ·subst hm;have hs:src=[]:=by simp at Hq;exact Hq
   subst hs;simp only[Nat.beq,Bool.true_or,ay,cond_true];exact hk _ _ _ (.inl rfl) (by simpa using h)
  ·have hb:Nat.beq m 0=false:=by simp [hm]
   obtain⟨_,Bq,Tw,⟨rfl,hc,_⟩|⟨id,off,l,rfl,h4,h5,h6⟩⟩:=h.MX
   ·omega
   ·have hle:(len+m)*n≤cap*n:=Nat.mul_le_mul_right _ hroom;rw[Nat.add_mul] at hle
    have hw:H.wr id (off+len*n) (m*n)=true:=by
     simp [ag.wr,h6.get];omega
    simp only[hb,Bool.false_or,Option.isSome_some,Bool.true_and,h2,Option.getD_some,hw,ay,cond_false];refine hk _ _ _ (.inl rfl) (h6.store.unbuf ?_ ?_ hroom ?_ ?_)
    ·rw[List.length_append,hcs,Hq,Nat.add_mul]
    ·exact ho.one.append h1s
    ·rw[gK];exact h4
    ·rw[←hcs];exact Re h5 (by omega)
 ·have hb:Nat.ble (len+m) cap=false:=by simp;omega
  have Qw:Nat.ble ((len+m)*(cL+1)) 70368744177664=true:=by simpa using ig
  have hrow:pB H n q len=true:=by
   by_cases h0:len=0
   ·subst h0;rfl
   ·have hne:cs≠[]:=by
     intro e;have:=ho.size;rw[e] at this;have:=Nat.mul_pos (Nat.pos_of_ne_zero h0) hn;simp at*;omega
    simp only[pB,Bool.or_eq_true,Bool.and_eq_true];exact .inr ⟨ho.rd.some hne,ho.rd.NN (by rw[ho.size];omega) hne,qY (by rw[←ho.size,ho.rd.all hne];exact ho.one)⟩
  have hold:(bif Nat.beq len 0 then [] else H.sub (q.getD (0,0)).1 (q.getD (0,0)).2 (len*n))=cs:=by
   by_cases h0:len=0
   ·subst h0;have:=ho.size;simp at this;subst this;rfl
   ·have hz:Nat.beq len 0=false:=by simp [h0]
    have hne:cs≠[]:=by
     intro e;have:=ho.size;rw[e] at this;have:=Nat.mul_pos (Nat.pos_of_ne_zero h0) hn;simp at*;omega
    simp only[hz,cond_false];rw[←ho.size,ho.rd.all hne]
  rw[hb,ai,hrow,h2,Qw,hold];simp only[Bool.and_self,ay];intro c G3 Hn;have hd:az B H L:=h.drop;refine hk _ _ _ (.inr ⟨_,rfl⟩) (hd.DH ?_ ?_ G3 ?_ ?_)
  ·rw[List.length_append,hcs,Hq,Nat.add_mul]
  ·exact ho.one.append h1s
  ·have:(c-(len+m))*n+(len+m)*n=c*n:=by rw[←Nat.add_mul];congr 1;omega
   rw[Nat.add_mul] at this;simp only[yi,dU,List.length_append,gg,hzl,hcs,Hq];omega
  ·simp only[yi];rw[←List.append_assoc,List.take_left' rfl]
theorem az.zq {E:kv} {t u el n cL:Nat} {z:List V} (h:az B H (DG el n q len cap cs::L)) (he:fI E t=some (el,n,cL,z))
 (hz:bd z) (hzl:z.length=n) (hn:0<n) {m:Nat} {x:V} {src:List V} {ok:Nat→Bool} {cf:Nat→List V} (h1:mP H n cL z (bh E u) x=some (true,m,ok,cf)) (h2:ok m=true) (h3:cf m=src)
 (Hq:src.length=m*n) (h1s:bd src) (ig:(len+m)*(cL+1)≤70368744177664) {K:Oq→Nat→Nat→ag→Prop}
 (hk:∀q' c' H',az B H' (DG el n q' (len+m) c' (cs++src)::L)→K q' (len+m) c' H'):aP E [t,u] [.slice q len cap,x] H K:=
 h.FL he hz hzl hn h1 h2 h3 Hq h1s ig fun q' c' H' _=>hk q' c' H'
theorem zr {n cL:Nat} {z:List V} {k:Option cg} {x:V} (h:iQ k=true):mP H n cL z k x=match lq H n x with|some (m,ok,cs)=>some (true,m,ok,cs)|none=>none:=by
 unfold mP;split
 ·cases h
 ·rw[h];rfl
theorem az.append {E:kv} {t u el n cL:Nat} {z:List V} (h:az B H (DG el n q len cap cs::L)) (he:fI E t=some (el,n,cL,z)) (hu:iQ (bh E u)=true)
 (hz:bd z) (hzl:z.length=n) (hn:0<n) {m:Nat} {x:V} {src:List V} (hx:Vf H n x m src) (ig:(len+m)*(cL+1)≤70368744177664) {K:Oq→Nat→Nat→ag→Prop}
 (hk:∀q' c' H',az B H' (DG el n q' (len+m) c' (cs++src)::L)→K q' (len+m) c' H'):aP E [t,u] [.slice q len cap,x] H K:=by
 obtain⟨ok,cf,h1,h2,h3⟩:=FK hx hn;exact h.zq he hz hzl hn (by rw[zr hu,h1]) h2 h3 hx.1 hx.2.1 ig hk
theorem az.Rh {E:kv} {t u el n cL:Nat} {z:List V} (h:az B H (DG el n q len cap cs::L)) (he:fI E t=some (el,n,cL,z)) (hu:bh E u=some (.int .i64))
 (hz:bd z) (hzl:z.length=n) (hn:0<n) {m:Int} (h0:0≤m) (ig:(len+m.toNat)*(cL+1)≤70368744177664) {K:Oq→Nat→Nat→ag→Prop}
 (hk:∀q' c' H',az B H' (DG el n q' (len+m.toNat) c' (cs++hT m.toNat z)::L)→K q' (len+m.toNat) c' H'):aP E [t,u] [.slice q len cap,.int .i64 m] H K:=by
 have hb:m*(cL+1)≤70368744177664:=by
  have h1:m.toNat*(cL+1)≤(len+m.toNat)*(cL+1):=Nat.mul_le_mul_right _ (by omega);have h2:((m.toNat*(cL+1):Nat):Int)=m*(cL+1):=by rw[Int.natCast_mul,Int.toNat_of_nonneg h0];rfl
  omega
 refine h.zq (x:=.int .i64 m) (u:=u) (ok:=fun _=>true) (cf:=fun j=>dU j z) he hz hzl hn ?_ rfl rfl ?_ (gF hz _) ig hk
 ·rw[hu];show some (decide (0≤m)&&decide (m*(cL+1)≤70368744177664),_)=_
  rw[decide_eq_true h0,decide_eq_true hb];rfl
 ·show (hT _ z).length=_
  rw[gg,hzl]
end
def bj (bs:List UInt8):List V:=bs.map fun b=>.int .u8 b.toNat
def cK (bs:List UInt8):ByteArray:=⟨bs.toArray⟩
@[simp] theorem oH (bs:List UInt8):(bj bs).length=bs.length:=by simp [bj]
@[simp] theorem Vj:bj []=[]:=rfl
@[simp] theorem jD (a b:List UInt8):bj (a++b)=bj a++bj b:=by simp [bj]
theorem mE (a:List UInt8) (n:Nat):(bj a).take n=bj (a.take n):=by simp [bj]
theorem qg (a:List UInt8) (n:Nat):(bj a).drop n=bj (a.drop n):=by simp [bj]
theorem jE (bs:List UInt8):bd (bj bs):=by
 intro v hv;simp only[bj,List.mem_map] at hv;obtain⟨b,_,rfl⟩:=hv;rfl
theorem zt:∀{bs:List UInt8} {i:Nat} (h:i<bs.length),ae (bj bs) i=.int .u8 (bs[i].toNat:Int)
 |b::bs,0,h=>rfl
 |b::bs,i+1,h=>by
  show ae (bj bs) i=_
  rw[zt (Nat.lt_of_succ_lt_succ h)];rfl
theorem zu:∀bs:List UInt8,Hx (.int .u8) (bj bs)=true
 |[]=>rfl
 |b::bs=>by
  show (V.av (.int .u8) (.int .u8 (b.toNat:Int))&&Hx (.int .u8) (bj bs))=true
  rw[zu bs];rfl
theorem o4:∀(bs:List UInt8) (acc:ByteArray),dv (bj bs) acc=⟨acc.data++bs.toArray⟩
 |[],acc=>by simp [dv,bj]
 |b::bs,acc=>by
  show dv (bj bs) (acc.push (UInt8.ofNat (V.aa (.int .u8 (b.toNat:Int))).toNat))=_
  rw[o4 bs];simp [ByteArray.push]
theorem Ic (bs:List UInt8):dv (bj bs) ByteArray.empty=cK bs:=by
 rw[o4];show (⟨#[]++bs.toArray⟩:ByteArray)=⟨bs.toArray⟩
 simp
theorem Lr {a b:List UInt8}:cK a=cK b↔a=b:=by
 constructor
 ·intro h;have:=congrArg (fun s=>s.data.toList) h;simpa [cK] using this
 ·rintro rfl;rfl
theorem Ls:cK []=ByteArray.empty:=rfl
def m0 (H:ag) (q:Oq) (bs:List UInt8):Prop:=Rd H q (bj bs)
def YS (el:Nat) (q:Oq) (cap:Nat) (bs:List UInt8):cz:=DG el 1 q bs.length cap (bj bs)
theorem az.jq {el cap:Nat} {q:Oq} {bs:List UInt8} (h:az B H (YS el q cap bs::L)):m0 H q bs:=h.S4
theorem m0.src {q:Oq} {bs:List UInt8} (h:m0 H q bs) (c:Nat):Vf H 1 (.slice q bs.length c) bs.length (bj bs):=
 ⟨by simp,jE bs,.inl ⟨q,c,rfl,h⟩⟩
theorem m0.part {q:Oq} {bs:List UInt8} (h:m0 H q bs) (i k:Nat) (hi:i+k≤bs.length):m0 H (bN q i) ((bs.drop i).take k):=by
 cases q with
 |none=>
  rcases h with h|⟨_,_,_,_,_,h,_⟩
  ·have:bs=[]:=by simpa [bj] using h
   subst this;left;simp
  ·cases h
 |some q=>
  have:=Rd.part h (q:=some q) (id:=q.1) (off:=q.2) rfl i k (by simpa using hi);unfold m0;rw[←mE, ←qg];exact this
theorem m0.nil (H:ag) (q:Oq):m0 H q []:=.inl rfl
theorem m0.at {q:Oq} {bs:List UInt8} (h:m0 H q bs) {i:Nat} (hi:i<bs.length):q.isSome=true∧H.inb (q.getD (0,0)).1 ((q.getD (0,0)).2+i) 1=true∧H.cell (q.getD (0,0)).1 ((q.getD (0,0)).2+i)=.int .u8 (bs[i].toNat:Int):=by
 have hne:bj bs≠[]:=by
  intro e;have:=congrArg List.length e;simp at this;subst this;simp at hi
 refine⟨Rd.some h hne,Rd.inb h (by simp;omega) hne, ?_⟩;rw[Rd.cell h (by simpa using hi),zt hi]
theorem m0.fG {q:Oq} {bs:List UInt8} (h:m0 H q bs):fG H q bs.length=true:=by
 unfold Am.fG;by_cases h0:bs=[]
 ·subst h0;simp [Nat.beq]
 ·have hne:bj bs≠[]:=by
   intro e;have:=congrArg List.length e;simp at this;exact h0 this
  have h4:=Rd.NN h (k:=bs.length) (by simp) hne
  have h5:H.sub (q.getD (0,0)).1 (q.getD (0,0)).2 bs.length=bj bs:=by
   have:=Rd.all h hne;simpa using this
  rw[h4,h5,zu];simp
theorem m0.fH {q:Oq} {bs:List UInt8} (h:m0 H q bs):fH H q bs.length=cK bs:=by
 unfold Am.fH;by_cases h0:bs=[]
 ·subst h0;have e:Nat.beq ([]:List UInt8).length 0=true:=rfl;rw[e,Bool.or_true,cond_true,Ls]
 ·have hne:bj bs≠[]:=by
   intro e;have:=congrArg List.length e;simp at this;exact h0 this
  have h1:=Rd.some h hne;have h2:q.isNone=false:=by cases q<;>simp_all
  have h3:Nat.beq bs.length 0=false:=by simp [h0]
  have h5:H.sub (q.getD (0,0)).1 (q.getD (0,0)).2 bs.length=bj bs:=by
   have:=Rd.all h hne;simpa using this
  rw[h2,h3,h5,Ic];rfl
theorem dD {id:Nat} {e:TypeId} {cs:List V} {ro:Bool} (hg:H.get id=some (.cells e cs ro)) (off n:Nat):H.inb id off n=Nat.ble (off+n) cs.length:=by simp only[ag.inb,hg]
theorem fJ {id:Nat} {e:TypeId} {cs:List V} (hg:H.get id=some (.cells e cs false)) (off n:Nat):H.wr id off n=Nat.ble (off+n) cs.length:=by simp only[ag.wr,hg,Bool.not_false,Bool.true_and]
theorem aY {id:Nat} {e:TypeId} {cs:List V} {ro:Bool} (hg:H.get id=some (.cells e cs ro)) (off:Nat):H.cell id off=ae cs off:=by simp only[ag.cell,ag.cs,hg]
theorem kS {id:Nat} {e:TypeId} {cs:List V} {ro:Bool} (hg:H.get id=some (.cells e cs ro)) (off n:Nat):H.sub id off n=(cs.drop off).take n:=by simp only[ag.sub,ag.cs,hg]
def lM (B:ag) (L:List cz) (q:Oq) (bs:List UInt8):Prop:=∀H,az B H L→m0 H q bs
theorem lM.nil (B:ag) (L:List cz) (q:Oq):lM B L q []:=fun H _=>m0.nil H q
theorem lM.part {q:Oq} {bs:List UInt8} (h:lM B L q bs) (i k:Nat) (hi:i+k≤bs.length):lM B L (bN q i) ((bs.drop i).take k):=fun H hs=>(h H hs).part i k hi
theorem lM.bU {q:Oq} {bs:List UInt8} (h:lM B L q bs) (A:cz):lM B (A::L) q bs:=fun H hs=>h H hs.drop
theorem lM.of {q:Oq} {bs:List UInt8} (h:m0 B q bs):lM B L q bs:=fun H hs=>hs.rd h
theorem lM.byt {el cap:Nat} {q:Oq} {bs:List UInt8}:lM B (YS el q cap bs::L) q bs:=fun H hs=>hs.jq
@[simp] theorem gL (q:Oq):bN q 0=q:=by rcases q with _|⟨a,b⟩<;>rfl
@[simp] theorem Vk (q:Oq) (a b:Nat):bN (bN q a) b=bN q (a+b):=by rcases q with _|⟨x,y⟩<;>simp [bN,Nat.add_assoc]
theorem aN (c a b:Bool):aJ c a b=if c=true then a else b:=by cases c<;>cases a<;>cases b<;>rfl
end Go.Am
end
