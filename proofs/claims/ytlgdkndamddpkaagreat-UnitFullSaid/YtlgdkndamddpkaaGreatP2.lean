/- Part 2 of the texts behind the law UnitFull: what its row needs (an abstract machine, its equations, and what the program computes). -/
import Derived.Scope
import Derived.IntWalk
import Derived.Laws.Externs
import Derived.Test.YtlgdkndamddpkaaGreatProg
import Derived.KernelRfl
import Derived.Lib.Builder
import Derived.Lib.UnsafeStr
import Derived.Lib.Walk
import Derived.WalkKit
import Derived.Test.YtlgdkndamddpkaaGreatP1
set_option maxRecDepth 100000
set_option linter.unusedSimpArgs false
set_option linter.unusedVariables false
set_option linter.unusedSectionVars false
section
namespace Go.Am
section
variable {E:kv} {H0:ag} {ρ0:dC} {w0:World} {ann:bQ} {N:Nat} {ρ lam:dC} {S:St} {a:Act} {w:World}
theorem yM {g:Value→ByteArray→Sem (ForInStep ByteArray)} (hg:∀n r,g (.int .u8 n) r=pure (.yield (r.push (UInt8.ofNat n.toNat)))):
 ∀(vs:List V) (us:List Value) (acc:ByteArray),eT ρ vs us→Hr (.int .u8) vs=true→
 (forIn us acc g:Sem ByteArray).run E.P w=.ok (dA vs acc) w
 |[],us,acc,h,_=>by rw[h.gu];simp [dA]
 |v::vs,us,acc,h,hk=>by
  obtain⟨u,m,rfl,h1,h2⟩:=h.df;rw[Hr,Bool.and_eq_true] at hk
  have hv:∃n,v=.int .u8 n:=by
   cases v<;>simp [V.ax] at hk
   exact⟨_,by rw[hk.1]⟩
  obtain⟨n,rfl⟩:=hv;rw[h1.iu];have ih:=yM hg vs m (acc.push (UInt8.ofNat n.toNat)) h2 hk.2;simp only[List.forIn_cons,hg,Sem.run_bind,Sem.run_pure,Result.andThen_ok,dA,V.aa];exact ih
theorem HE {p:Nat×Nat} {c:Nat} {x:Value} (hx:VR ρ (.slice (some p) 0 c) x):(Conv.bytesToString x).run E.P w=.ok (.string .empty) w:=by
 obtain⟨id,off⟩:=p;rcases hx.fj with⟨b,_,rfl⟩|⟨_,_,a,rfl⟩
 ·simp [Conv.bytesToString,loadCells,loadCellsFrom]
 ·simp [Conv.bytesToString,loadCells,loadCellsFrom]
theorem Fs {H:ag} (hr:HR ρ H w) {id off len c:Nat} {x:Value} (hx:VR ρ (.slice (some (id,off)) len c) x) (h:H.inb id off len=true) (hk:Hr (.int .u8) (H.sub id off len)=true):
 (Conv.bytesToString x).run E.P w=.ok (.string (dA (H.sub id off len) ByteArray.empty)) w:=by
 obtain⟨e,cs,ro,hg,hle,b,hb,cs',fz,hcell,hvs,_,_⟩:=yD hr h;rcases hx.fj with⟨b',hb',rfl⟩|⟨h0,_,a,rfl⟩;rotate_left
 ·subst h0;simp [Conv.bytesToString,loadCells,loadCellsFrom,ag.sub,dA]
 rw[hb] at hb';cases hb';have hsub:H.sub id off len=(cs.drop off).take len:=by simp [ag.sub,ag.cs,hg]
 have hlen:cs'.size=cs.length:=by have:=hvs.1;simp at this;omega
 have hrun:=run_loadCells_list (P:=E.P) w ⟨b,off,none⟩ ((cs'.toList.drop off).take len) (by
  intro j v hv;rw[gb,qJ hcell];rw[List.getElem?_take] at hv;split at hv
  ·rw[List.getElem?_drop] at hv;simpa using hv
  ·cases hv)
 have hl:((cs'.toList.drop off).take len).length=len:=by simp;omega
 rw[hl] at hrun;simp only[Conv.bytesToString,Sem.run_bind,hrun,Result.andThen_ok, ←Array.forIn_toList];rw[yM (E:=E) (fun n r=>rfl) (H.sub id off len) ((cs'.toList.drop off).take len) ByteArray.empty (by rw[hsub];exact(hvs.drop off).take len) hk];rfl
theorem wM {o:Oper} {ev:Ev} {e:Operand→Value} (cX:pI ρ lam ev e) {H:ag} (hr:HR ρ H w) {d:fR T} (h:dD E o.op ev H=some d) (hq:d.rq=true):∃v,(execOp e o).run E.P w=.ok (.value v) w∧TR ρ lam (if d.c=true then d.x else d.y) v:=by
 obtain⟨dst,op,type,jj,after,guard⟩:=o
 cases op with
 |load t a=>
  simp only[dD] at h;split at h
  ·rename_i id off ha;obtain⟨b,hb,he⟩:=(cX.tv ha).vy
   have key:∀n,H.inb id off n=true→∃cs e ro,H.get id=some (.cells e cs ro)∧fT ρ e cs (!ro) w.heap[b]? ∧off+n≤cs.length:=by
    intro n hn;obtain⟨e,cs,ro,hg,hle,b',hb',hc⟩:=yD hr hn;rw[hb] at hb';cases hb';exact⟨cs,e,ro,hg,hc,hle⟩
   split at h
   ·rename_i k hk;simp only[Option.some.injEq] at h;subst h;simp only[fR.one,Bool.and_eq_true] at hq;obtain⟨cs,el,ro,hg,hc,hle⟩:=key 1 hq.1;have hcell:H.cell id off=ae cs off:=by simp [ag.cell,ag.cs,hg]
    obtain⟨v',h1,h2⟩:=oA (E:=E) (t:=t) (off:=off) (r:=true) (v:=(H.cell id off).SW k) hc (by
     simp only[mL,hk,hcell,Option.some.injEq,Prod.mk.injEq,and_true];rw[hcell] at hq
     simp [hq.2];omega) rfl (fun cs' he=>by rw[V.sb hq.2] at he;have:=V.sd hq.2;rw[he] at this;cases this)
    exact⟨v',by simp [execOp,Instr.loadAt,he,Instr.sureAddr,h1],.v h2⟩
   ·rename_i hk;split at h
    ·rename_i ks n hks hn;simp only[Option.some.injEq] at h;subst h;simp only[fR.one,Bool.and_eq_true] at hq;obtain⟨cs,el,ro,hg,hc,hle⟩:=key n hq.1;have hsub:H.sub id off n=(cs.drop off).take n:=by simp [ag.sub,ag.cs,hg]
     obtain⟨v',h1,h2⟩:=oA (E:=E) (t:=t) (off:=off) (r:=true) (v:=.agg ((cs.drop off).take n)) hc (by
      simp only[mL,hk,hks,hn,Option.some.injEq,Prod.mk.injEq,and_true]
      simpa using hle) rfl (fun cs' he=>by cases he;exact .inr (gf (hsub▸hq.2)))
     refine⟨v',by simp [execOp,Instr.loadAt,he,Instr.sureAddr,h1],.v ?_⟩;rw[k5 hq.2 rfl,hsub];exact h2
    ·cases h
  ·cases h
 |convert s t x=>
  simp only[dD] at h;split at h
  ·rename_i ti p len c m9 hk hx;obtain⟨ds,ry,hds⟩:=dG m9;obtain⟨dt,kX,hdt⟩:=bM hk;split at h
   ·rename_i el hs;rw[hs] at hds;cases iv hds;split at h
    ·rename_i hel;obtain⟨de,Sx,Qj⟩:=bM hel;simp only[Option.some.injEq] at h;subst h;cases dt<;>simp [bq,cO] at hdt
     cases de<;>simp [bq,cO] at Qj
     subst Qj;have hv:=cX.v hx;change eY H p len=true at hq
     show∃v,_∧TR ρ lam (T.v (V.cI (eZ H p len))) v
     unfold eY at hq;unfold eZ
     cases p with
     |none=>
      have he:=hv.lD;exact⟨.string .empty,by simp [execOp,convert,run_underlying ry,run_underlying kX,run_underlying Sx,he,Conv.bytesToString],.v (.cI _)⟩
     |some q=>
      obtain⟨id,off⟩:=q
      have Hj:∃a n c',e x=.slice a n c':=by
       rcases hv.fj with⟨b,_,he⟩|⟨_,_,a,he⟩
       ·exact⟨_,_,_,he⟩
       ·exact⟨_,_,_,he⟩
      obtain⟨a,n,c',he⟩:=Hj;by_cases h0:len=0
      ·subst h0;have hb:=HE (E:=E) (w:=w) hv;rw[he] at hb;exact⟨.string .empty,by simp [execOp,convert,run_underlying ry,run_underlying kX,run_underlying Sx,he,hb],.v (.cI _)⟩
      have hz:Nat.beq len 0=false:=by rw[aX];simp [h0]
      simp only[Option.isNone_some,Bool.false_or,hz,Option.getD_some,Bool.and_eq_true] at hq;have hb:=Fs (E:=E) hr hv hq.1 hq.2;rw[he] at hb;simp only[Option.isNone_some,hz,Bool.or_self,cond_false,Option.getD_some];exact⟨_,by simp [execOp,convert,run_underlying ry,run_underlying kX,run_underlying Sx,he,hb],.v (.cI _)⟩
    ·cases h
   ·cases h
  ·cases h
 |lookup t x i c=>
  simp only[dD] at h;split at h
  ·rename_i ti r k n m9 hx hi;obtain⟨ds,ry,hds⟩:=dG m9;split at h
   ·rename_i kt et hsh;rw[hsh] at hds;cases ud hds;split at h
    ·rename_i k' ei hk hei;split at h
     ·rename_i z hz;split at h
      ·rename_i b y hy;obtain⟨dk,Xf,hdk⟩:=bM hk;have Qk:dk=.int k':=by cases dk<;>simp_all [bq,cO]
       subst Qk
       have hq':pw k k'=true∧eG H k r=true∧b=true:=by
        cases c<;>(simp only[Option.some.injEq] at h;subst h;simpa [fR.one] using hq)
       obtain⟨hkk,hok,hb⟩:=hq';have hkk:k=k':=by simpa using hkk
       subst hkk;obtain⟨z',EA,xY⟩:=Q3 hei hz ρ w;obtain⟨v',hv,hrun⟩:=Di (E:=E) (n:=n) ry Xf EA xY hr (cX.v hx) hok c;have hyy:=lG hy hb;have hi':=(cX.v hi).iu
       cases c with
       |true=>
        simp only[Option.some.injEq] at h;subst h;simp only[if_true] at hrun;refine⟨.tuple #[v',.bool (lj H r n)],by simp [execOp,hi',hrun], ?_⟩;rw[hyy];exact .v (.gE (.cons hv (.cons (.bool _) (.nil ρ))))
       |false=>
        simp only[Option.some.injEq] at h;subst h;simp only[Bool.false_eq_true,if_false] at hrun;refine⟨v',by simp [execOp,hi',hrun], ?_⟩;rw[hyy];exact .v hv
      ·cases h
     ·cases h
    ·cases h
   ·cases h
  ·cases h
 |entry it=>
  simp only[dD] at h;split at h
  ·rename_i t id hit;split at h
   ·rename_i ti m9;split at h
    ·rename_i kt et hsh;split at h
     ·rename_i ra x rb y hx hy;simp only[Option.some.injEq] at h;subst h;simp only[fR.one,Bool.and_eq_true] at hq;obtain⟨b,hb,he⟩:=(cX.tv hit).E9;obtain⟨k,v,hrun,hk,hv⟩:=Dk (E:=E) hr hb hq.1;refine⟨.tuple #[k,v],by simp [execOp,he,hrun], ?_⟩;rw[lG hx hq.2.1,lG hy hq.2.2];exact .v (.gE (.cons hk (.cons hv (.nil ρ))))
     ·cases h
    ·cases h
   ·cases h
  ·cases h
 |call c=>
  simp only[dD] at h;split at h
  ·rename_i t ts r EE hts hargs;split at h
   ·rename_i hk;obtain⟨dt,kX,hdt⟩:=bM hk;obtain⟨kt,et,rfl⟩:∃kt et,dt=.map kt et:=by cases dt<;>simp_all [bq,cO]
    simp only[Option.some.injEq] at h;subst h;have ha:eT ρ [.map r] (c.args.map e).toList:=by simpa using cX.vs hargs
    obtain⟨x',r1,wz,hx',nX⟩:=ha.df;have xC:=nX.gu;subst xC
    have qz:c.args.map e= #[x']:=by
     apply Array.ext';rw[wz]
    have MK:c.argTypes[0]? =some t:=by
     rw[←Array.getElem?_toList,hts];rfl
    have hq:(r.isNone||H.isMap (r.getD 0))=true:=hq
    have hrun:(Builtin.len_ c.argTypes type (c.args.map e)).run E.P w=.ok (.int .i64 (ya H r)) w:=by
     rw[qz]
     cases r with
     |none=>
      cases hx';simp [Builtin.len_,MK,run_underlying kX,ya,goInt]
     |some id=>
      have hg:=sE (by simpa using hq);obtain⟨b,hb,es',he,G0⟩:=hr.wH id _ hg
      cases hx' with
      |map hb'=>
       rw[hb] at hb';cases hb';have hl:=Fm G0;simp [Builtin.len_,MK,run_underlying kX,gV (E:=E) he,ya,goInt,hl]
    refine⟨.int .i64 (ya H r), ?_,.v (.int _ _)⟩;simp only[execOp,resolve,EE,invoke,builtin,Sem.run_bind,Sem.run_pure,Result.andThen_ok,hrun]
   ·cases h
  ·cases h
 |_=>simp [dD] at h
theorem rV {e:Operand→Value} {c:Call} {type:TypeId} {f:Operand} (hc:c.callee=.value f):resolve e c type=Deferred.ofValue (e f) (c.args.map e):=by
 simp [resolve,hc]
theorem yN {fn:Func} {f:Nat} (h:E.P.funcs[f]? =some fn):(fn.name == "runtime.NumGoroutine")=false:=by
 have h1:=List.all_eq_true.1 E.names fn (by
  rw[Array.mem_toList_iff]
  exact Array.mem_of_getElem? h)
 simpa using h1
theorem Nv {e:Operand→Value} {o:Oper} {c:Call} {f:Operand} {g:FuncId} {fi cap:Array Value} {fn:Func} (ho:o.op=.call c) (hc:c.callee=.value f) (he:e f=.func (.func g) fi cap) (hf:E.P.funcs[g]? =some fn) (hb:fn.body.isSome=true) (w:World):(execOp e o).run E.P w=.ok (.enter g (fi++c.args.map e++cap)) w:=by
 have hn:¬fn.name= "runtime.NumGoroutine" :=by simpa using yN hf
 have hb':¬fn.body=none:=by cases h:fn.body<;>simp_all
 simp [execOp,ho,rV hc,he,Deferred.ofValue,invoke,callFunc,hf,hn,hb']
theorem uf {e:Operand→Value} {o:Oper} {c:Call} {f:Operand} {g:FuncId} {fi cap:Array Value} (ho:o.op=.call c) (hc:c.callee=.value f) (he:e f=.func (.func g) fi cap) (w:World):(execOp e o).run E.P w=(callFunc g (fi++c.args.map e++cap)).run E.P w:=by
 simp [execOp,ho,rV hc,he,Deferred.ofValue,invoke]
theorem cC {P:Program} {o:Oper} {a:Act} {next:Act→World→Prop} {Q:Exit→Act→World→Prop} {w w':World} {v:Value} (h:(execOp a.eval o).run P w=.ok (.value v) w') (hn:next (a.put o.dst v) w'):o.wp P a w next Q:=by
 unfold Oper.wp;rw[h];exact hn
theorem vE {P:Program} {o:Oper} {a:Act} {next:Act→World→Prop} {Q:Exit→Act→World→Prop} {w w':World} (h:(execOp a.eval o).run P w=.ok .skip w') (hn:next (a.put o.dst undef) w'):o.wp P a w next Q:=by
 unfold Oper.wp;rw[h];exact hn
theorem gq (h:SR H0 ρ0 w0 ann N ρ lam S a w) {o:Oper} {r:Bool} {x:T} {H':ag} (ho:bY E o.op (cS S.tm) S.hp=some (r,x,H')) (hr:r=true):∃ρ' v w',(execOp a.eval o).run E.P w=.ok (.value v) w'∧SR H0 ρ0 w0 ann N ρ' lam {S with hp:=H'} a w'∧TR ρ' lam x v:=by
 have cX:=h.ev;obtain⟨dst,op,type,jj,after,guard⟩:=o
 cases op with
 |buildSlice t len parts=>
  simp only[bY] at ho;split at ho
  ·rename_i ti ps m9 hps;obtain⟨ds,ry,hds⟩:=dG m9;split at ho
   ·rename_i el hsh;rw[hsh] at hds;cases iv hds;split at ho
    ·rename_i n ei hsz hei;split at ho
     ·rename_i z hz;obtain⟨z',EA,xY,hz3⟩:=vC (E:=E) hei hz ρ w
      cases hb:(Nat.beq z.cells.length n&&sk n&&Nat.ble (len*n) 16777216) with
      |false=>simp [hb] at ho
      |true=>
       simp only[hb,cond_true] at ho;simp only[Bool.and_eq_true] at hb;have hn:z.cells.length=n:=Nat.eq_of_beq_eq_true hb.1.1
       have hp:0<n:=by
        have:=hb.1.2
        cases n with
        |zero=>cases this
        |succ n=>omega
       have hle:len*n≤16777216:=Nat.le_of_ble_eq_true hb.2;split at ho
       ·rename_i r' cs hcs;simp only[Option.some.injEq,Prod.mk.injEq] at ho;obtain⟨rfl,rfl,rfl⟩:=ho;obtain⟨h1,h2⟩:=mS cX hps;have EB:(parts.map fun p=>(p.1,a.eval p.2)).toList=parts.toList.map fun p=>(p.1,a.eval p.2):=by simp
        obtain⟨zc,MI⟩:∃zc:Array Value,zc=if len*n=0 then #[] else z'.cells:=⟨_,rfl⟩
        have hrow:eT ρ (hO len z.cells) ((Array.range (len*n)).map (zc[· % zc.size]!)).toList:=by
         by_cases h0:len*n=0
         ·have hl:len=0:=by
           rcases Nat.mul_eq_zero.1 h0 with h|h
           ·exact h
           ·omega
          subst hl;simpa [hO] using eT.nil ρ
         ·rw[if_neg h0] at MI;rw[MI];exact Fl xY hn hp
        obtain⟨out',h3,h4,h5⟩:=oz (E:=E) (place':=fun j=>some (j*n,n)) (by
         intro i off t m Ai hm;simp only[Option.some.injEq,Prod.mk.injEq] at Ai⊢;obtain⟨h1,rfl⟩:=Ai;rw[hsz] at hm
         exact⟨h1,Option.some.inj hm⟩) h1 h2 hrow (gF hz3 len) hcs hr
        rw[←EB] at h3;have Ql:iw (.cells out' el) w {w with heap:=w.heap.push (.cells out' el)}:=⟨rfl,rfl,rfl,rfl⟩
        refine⟨_,.slice (some ⟨w.heap.size,0,none⟩) len len,{w with heap:=w.heap.push (.cells out' el)}, ?_,h.Da Ql (x:=.cells el cs false) (iC h4 h5),
         .v (.slice _ _ (by rw[eE,if_pos rfl]))⟩
        have ic:¬len*n>2 ^ 24:=by omega
        by_cases h0:len*n=0
        ·rw[if_pos h0] at MI;subst MI;simp only[execOp,Instr.buildSlice,Sem.run_bind,run_underlying ry,Result.andThen_ok,fl hsz,if_neg ic,if_pos h0,h3,Sem.run_pure,newRow,newObj];rfl
        ·rw[if_neg h0] at MI;subst MI;simp only[execOp,Instr.buildSlice,Sem.run_bind,run_underlying ry,Result.andThen_ok,fl hsz,if_neg ic,if_neg h0,EA,h3,Sem.run_pure,newRow,newObj];rfl
       ·cases ho
     ·cases ho
    ·cases ho
   ·cases ho
  ·cases ho
 |makeSlice t len cap=>
  simp only[bY] at ho;split at ho
  ·rename_i el n cN z k l k' c hel hl hc
   simp only[Option.some.injEq,Prod.mk.injEq] at ho;obtain⟨rfl,rfl,rfl⟩:=ho;simp only[Bool.and_eq_true,decide_eq_true_eq] at hr;obtain⟨dh,z',kX,hi,hz,hsz,hby,hzl,hpos,hzs,Sz,Qd⟩:=qK hel;have e1:=(cX.v hl).iu;have e2:=(cX.v hc).iu;have hrun:=AL (E:=E) (w:=w) (t:=t) (cN:=0) (n:=0) (z:=[]) kX hi hz (by omega) (by omega) (k:=k) (k':=k') hr.1 hr.2.1 (by rw[hby];exact hr.2.2);have hp:iw (.cells (Builtin.zeroCells z'.cells c.toNat) el) w (w.alloc (.cells (Builtin.zeroCells z'.cells c.toNat) el)):=⟨rfl,rfl,rfl,rfl⟩
   exact⟨_,.slice (some ⟨w.heap.size,0,none⟩) l.toNat c.toNat,w.alloc (.cells (Builtin.zeroCells z'.cells c.toNat) el),by simp [execOp,e1,e2,hrun],h.Da hp (x:=.cells el (hO c.toNat z) false) (iC (mB (Qd ρ) hzl hpos _) (gF Sz _)),
    .v (.slice _ _ (by rw[eE,if_pos rfl]))⟩
  ·cases ho
 |convert s d x=>
  simp only[bY] at ho;split at ho
  ·rename_i p len cap ti hk hx m9;obtain⟨ds,ry,hds⟩:=bM hk;obtain⟨dd,hud,Qm⟩:=dG m9;split at ho
   ·rename_i e hsh;rw[hsh] at Qm;cases iv Qm;split at ho
    ·rename_i hel;obtain⟨de,Sx,Qj⟩:=bM hel;simp only[Option.some.injEq,Prod.mk.injEq] at ho;obtain⟨rfl,rfl,rfl⟩:=ho;simp only[Bool.and_eq_true] at hr;obtain⟨TJ,hp,hcap,EC⟩:=hr;have TJ:s=d:=Nat.eq_of_beq_eq_true TJ;subst TJ;cases de<;>simp [bq,cO] at Qj
     subst Qj
     cases p with
     |none=>cases hp
     |some q=>
      obtain⟨id,off⟩:=q;obtain⟨e',cs,b,hg,hle,hb,hc⟩:=Dh h.hr EC;have hv:=cX.v hx;rcases hv.fj with⟨b',hb',he⟩|⟨h0,h1,ad,he⟩
      ·simp only[Option.getD_some] at hb;rw[hb] at hb';cases hb';obtain⟨w',g1,g2,g3⟩:=yH (E:=E) (off:=off) hc;have hs:=h.Db hg rfl rfl hb g3 (y:=.cells e' cs false) g2;rw[ub hg] at hs;exact⟨ρ,_,w',by simp [execOp,convert,run_underlying hud,run_underlying Sx,he,g1],hs,.v (.slice _ _ hb)⟩
      ·rw[h1] at hcap;cases hcap
    ·cases ho
   ·cases ho
  ·cases ho
 |call c=>
  simp only[bY] at ho;split at ho
  ·rename_i t ts p l cp x EE hts hargs;split at ho
   ·rename_i el n cN z hel
    split at ho
    ·rename_i m ok cs hsrc;simp only[Option.some.injEq,Prod.mk.injEq,kx,kz,hsrc] at ho;obtain⟨rfl,rfl,rfl⟩:=ho;have ha:eT ρ [.slice p l cp,x] (c.args.map a.eval).toList:=by simpa using cX.vs hargs
     obtain⟨s',r1,wz,hs',nX⟩:=ha.df;obtain⟨x',r2,xC,hx',tu⟩:=nX.df;have Qe:=tu.gu;subst Qe;subst xC
     have qz:c.args.map a.eval= #[s',x']:=by
      apply Array.ext';rw[wz]
     have MK:c.argTypes[0]? =some t:=by
      rw[←Array.getElem?_toList,hts];rfl
     obtain⟨dh,z',kX,hi,hz,hsz,hby,hzl,hpos,hzs,Sz,Qd⟩:=qK hel;subst hsz;obtain⟨hlen,tt⟩:=vD (E:=E) h.hr hx' hsrc
     obtain⟨xs,h1,h2,h3,h4⟩:=tt (Nat.min m l) (Nat.min_le_left _ _) (by
      by_cases h0:Nat.min m l=0
      ·exact .inl h0
      ·rw[aX] at hr;simp [h0] at hr
       exact .inr hr.2.1)
     have Hj:∃aW,s'=.slice aW l cp∧∀w',(match aW with|some ad=>storeCells ad xs.toList|none=>pure ()).run E.P w=.ok () w'→
      (Builtin.copy_ c.argTypes type (c.args.map a.eval)).run E.P w=.ok (.int .i64 ((Nat.min m l:Nat):Int)) w':=by
      have Hj:∃aW,s'=.slice aW l cp:=by
       cases p with
       |none=>exact⟨_,hs'.lD⟩
       |some q=>
        obtain⟨id,off⟩:=q;rcases hs'.fj with⟨b,hb,he⟩|⟨h0,h1,ad,he⟩
        ·exact⟨_,he⟩
        ·exact⟨_,by rw[he,h0,h1]⟩
      obtain⟨aW,rfl⟩:=Hj;refine⟨aW,rfl,fun w' hw=> ?_⟩;rw[qz]
      cases aW with
      |none=>
       simp at hw;subst hw;simp [Builtin.copy_,MK,run_underlying kX,hlen,sizeOf,typeInfo,hi,h1,goInt]
      |some ad=>simp [Builtin.copy_,MK,run_underlying kX,hlen,sizeOf,typeInfo,hi,h1,hw,goInt]
     obtain⟨aW,rfl,TK⟩:=Hj;by_cases h0:Nat.min m l=0
     ·have hxs:xs= #[]:=by
       have:=h2.1;rw[h4,h0] at this;apply Array.eq_empty_of_size_eq_zero;simpa using this.symm
      subst hxs;have hc:=TK w (by cases aW<;>simp [pK]);rw[aX,decide_eq_true h0,cond_true];exact⟨ρ,.int .i64 (Nat.min m l:Nat),w,by simp only[execOp,resolve,EE,invoke,builtin,Sem.run_bind,Sem.run_pure,Result.andThen_ok,hc],h,.v (.int _ _)⟩
     ·rw[aX,decide_eq_false h0] at hr;rw[aX,decide_eq_false h0,cond_false];simp only[Bool.false_or,Bool.and_eq_true] at hr;obtain⟨hp,hok,EC⟩:=hr
      cases p with
      |none=>cases hp
      |some q=>
       obtain⟨id,off⟩:=q;simp only[Option.getD_some] at EC⊢;obtain⟨e,ccs,b,hg,hle,hb,hc⟩:=Dh h.hr EC;rcases hs'.fj with⟨b',hb',he⟩|⟨Xg,_,_⟩
       ·rw[hb] at hb';cases hb';cases he;obtain⟨w',g1,g2,g3⟩:=mA (E:=E) (off:=off) hc h2 h3 (by rw[h4];exact hle);have hst:S.hp.store id off (cs (Nat.min m l))=S.hp.put id (.cells e (bI ccs off (cs (Nat.min m l))) false):=by simp [ag.store,hg]
        rw[hst];have hc:=TK w' g1;exact⟨ρ,.int .i64 (Nat.min m l:Nat),w',by simp only[execOp,resolve,EE,invoke,builtin,Sem.run_bind,Sem.run_pure,Result.andThen_ok,hc],h.Db hg rfl rfl hb g3 g2,.v (.int _ _)⟩
       ·exact absurd (by rw[Xg];exact Nat.min_zero m) h0
    ·cases ho
   ·cases ho
  ·rename_i t ts r k n EE hts hargs;split at ho
   ·rename_i ti m9;obtain⟨ds,ry,hds⟩:=dG m9;split at ho
    ·rename_i kt et hsh;rw[hsh] at hds;cases ud hds;split at ho
     ·rename_i k' hk;obtain⟨dk,Xf,hdk⟩:=bM hk;have Qk:dk=.int k':=by cases dk<;>simp_all [bq,cO]
      subst Qk;simp only[Option.some.injEq,Prod.mk.injEq] at ho;obtain⟨rfl,rfl,rfl⟩:=ho;simp only[Bool.and_eq_true,nf,decide_eq_true_eq] at hr;obtain⟨hkk,hok⟩:=hr;subst hkk;have ha:eT ρ [.map r,.int k n] (c.args.map a.eval).toList:=by simpa using cX.vs hargs
      obtain⟨x',r1,wz,hx',nX⟩:=ha.df;obtain⟨y',r2,xC,hy',tu⟩:=nX.df;have Qe:=tu.gu;subst Qe;subst xC;have hy:=hy'.iu;subst hy
      have qz:c.args.map a.eval= #[x',.int k n]:=by
       apply Array.ext';rw[wz]
      have MK:c.argTypes[0]? =some t:=by
       rw[←Array.getElem?_toList,hts];rfl
      cases r with
      |none=>
       cases hx'
       have hrun:(Builtin.delete_ c.argTypes type (c.args.map a.eval)).run E.P w=.ok (.tuple #[]) w:=by
        rw[qz];simp [Builtin.delete_,MK,run_underlying ry,fo (E:=E) Xf]
       refine⟨ρ,.tuple #[],w, ?_,h,.v (.tuple rfl (fun i x y hx=>by simp at hx))⟩;simp only[execOp,resolve,EE,invoke,builtin,Sem.run_bind,Sem.run_pure,Result.andThen_ok,hrun]
      |some id=>
       obtain⟨b,w',o',hb,hrun,Qn,hg,ED,hrw,Qo⟩:=Dj (E:=E) (ty:=type) (n:=n) (u:=0) ry Xf h.hr hx' hok MK;rw[ED];refine⟨ρ,.tuple #[],w', ?_,h.Db hg rfl hrw hb Qn Qo,.v (.tuple rfl (fun i x y hx=>by simp at hx))⟩;rw[←qz] at hrun;simp only[execOp,resolve,EE,invoke,builtin,Sem.run_bind,Sem.run_pure,Result.andThen_ok,hrun]
     ·cases ho
    ·cases ho
   ·cases ho
  ·rename_i t ts p l cp EE hts hargs;split at ho
   ·rename_i el n cN z hel
    simp only[Option.some.injEq,Prod.mk.injEq] at ho;obtain⟨rfl,rfl,rfl⟩:=ho;have ha:eT ρ [.slice p l cp] (c.args.map a.eval).toList:=by simpa using cX.vs hargs
    obtain⟨s',r1,wz,hs',nX⟩:=ha.df;have Qe:=nX.gu;subst Qe
    have qz:c.args.map a.eval= #[s']:=by
     apply Array.ext';rw[wz]
    have MK:c.argTypes[0]? =some t:=by
     rw[←Array.getElem?_toList,hts];rfl
    obtain⟨dh,z',kX,hi,hz,hsz,hby,hzl,hpos,hzs,Sz,Qd⟩:=qK hel;subst hsz
    have key:∀w',(Builtin.clear_ c.argTypes type #[s']).run E.P w=.ok (.tuple #[]) w'→
     (execOp a.eval ⟨dst,.call c,type,jj,after,guard⟩).run E.P w=.ok (.value (.tuple #[])) w':=by
     intro w' hw;simp only[execOp,resolve,EE,invoke,builtin,Sem.run_bind,Sem.run_pure,Result.andThen_ok,qz,hw]
    have nop:(p.isNone||Nat.beq l 0)=true→∃ρ' v w',(execOp a.eval ⟨dst,.call c,type,jj,after,guard⟩).run E.P w=.ok (.value v) w'∧
     SR H0 ρ0 w0 ann N ρ' lam {S with hp:=S.hp} a w'∧TR ρ' lam (.v (.tuple [])) v:=by
     intro hn;refine⟨ρ,_,w,key w ?_,h,.v (.tuple rfl (fun i x y hx=>by simp at hx))⟩
     cases p with
     |none=>rw[hs'.lD];simp [Builtin.clear_,MK,run_underlying kX]
     |some q=>
      have Xg:l=0:=Nat.eq_of_beq_eq_true (by simpa using hn);subst Xg;obtain⟨id,off⟩:=q;rcases hs'.fj with⟨b,hb,he⟩|⟨_,_,ad,he⟩
      ·rw[he];simp [Builtin.clear_,MK,run_underlying kX]
      ·rw[he];simp [Builtin.clear_,MK,run_underlying kX]
    cases hn:(p.isNone||Nat.beq l 0) with
    |true=>simpa using nop hn
    |false=>
     rw[hn] at hr;simp only[Bool.false_or] at hr;simp only[cond_false]
     cases p with
     |none=>cases hn
     |some q=>
      obtain⟨id,off⟩:=q;simp only[Option.getD_some] at hr⊢
      have Xg:l≠0:=by
       rintro rfl;cases hn
      obtain⟨e,ccs,b,hg,hle,hb,hc⟩:=Dh h.hr hr;rcases hs'.fj with⟨b',hb',he⟩|⟨acW,_,_⟩
      ·rw[hb] at hb';cases hb';cases he;obtain⟨w',g1,g2,g3⟩:=mA (E:=E) (off:=off) hc (mB (Qd ρ) hzl hpos l) (gF Sz l) (by rw[gg,hzl];exact hle);have hst:S.hp.store id off (dU l z)=S.hp.put id (.cells e (bI ccs off (dU l z)) false):=by simp [ag.store,hg]
       rw[hst];refine⟨ρ,_,w',key w' ?_,h.Db hg rfl rfl hb g3 g2,.v (.tuple rfl (fun i x y hx=>by simp at hx))⟩
       cases l with
       |zero=>exact absurd rfl Xg
       |succ l=>simp [Builtin.clear_,MK,run_underlying kX,zeroValue,typeInfo,hi,hz,g1]
      ·exact absurd acW Xg
   ·cases ho
  ·cases ho
 |makeMap t rF=>
  cases rF with
  |some x=>simp [bY] at ho
  |none=>
   simp only[bY] at ho;split at ho
   ·simp only[Option.some.injEq,Prod.mk.injEq] at ho;obtain⟨rfl,rfl,rfl⟩:=ho
    exact⟨_,.map (some w.heap.size),{w with heap:=w.heap.push (.map #[] 0)},by simp [execOp,Instr.makeMap,newObj,Sem.run],h.Da (o:=.map #[] 0) ⟨rfl,rfl,rfl,rfl⟩ (x:=.map [] 0) ⟨#[],rfl,trivial⟩,
     .v (.map (by rw[eE,if_pos rfl]))⟩
   ·cases ho
 |range t x=>
  simp only[bY] at ho;split at ho
  ·rename_i ti r m9 hx;obtain⟨ds,ry,hds⟩:=dG m9;split at ho
   ·rename_i kt et hsh;rw[hsh] at hds;cases ud hds;simp only[Option.some.injEq,Prod.mk.injEq] at ho;obtain⟨rfl,rfl,rfl⟩:=ho;have hx':=cX.v hx
    cases r with
    |none=>
     have hx0:a.eval x=.map none:=by
      revert hx';generalize a.eval x=x';intro hx';cases hx';rfl
     exact⟨_,.pointer (some ⟨w.heap.size,0,none⟩),{w with heap:=w.heap.push (.mapIter none 0 #[] 0)},by
      simp [execOp,Instr.range,run_underlying ry,newObj,Sem.run,hx0],
      h.Da (o:=.mapIter none 0 #[] 0) ⟨rfl,rfl,rfl,rfl⟩ (x:=.dN none 0 [] 0) ⟨none,rfl,.yp⟩,.v (.dN t (by rw[eE,if_pos rfl]))⟩
    |some id=>
     have hg:=sE (by simpa using hr);obtain⟨b,hb,es',he,G0⟩:=h.hr.wH id _ hg
     have hxe:a.eval x=.map (some b):=by
      revert hx';generalize a.eval x=x';intro hx'
      cases hx' with
      |map hb'=>rw[hb] at hb';cases hb';rfl
     refine⟨_,.pointer (some ⟨w.heap.size,0,none⟩),{w with heap:=w.heap.push (.mapIter (some b) (S.hp.clock id) #[] (S.hp.clock id))}, ?_,
      h.Da (o:=.mapIter (some b) (S.hp.clock id) #[] (S.hp.clock id)) ⟨rfl,rfl,rfl,rfl⟩ (x:=.dN (some id) (S.hp.clock id) [] (S.hp.clock id)) ⟨some b,rfl,.map hb⟩,.v (.dN t (by rw[eE,if_pos rfl]))⟩
     simp [execOp,Instr.range,run_underlying ry,hxe,gV (E:=E) he,newObj,Sem.run]
   ·cases ho
  ·cases ho
 |_=>simp [bY] at ho
theorem Dl {R:mv} (hX:jV E) (hR:∀f args H K,R.call f args H K→iB E f args H K) (hB:∀f args H K,R.call f args H K→∃fn,E.P.funcs[f]? =some fn∧fn.body.isSome=true) (h:SR H0 ρ0 w0 ann N ρ lam S a w) {o:Oper} {K:T→ag→Prop} (ho:bL E R o.op o.type (cS S.tm) S.hp K) {next:Act→World→Prop} {Q:Exit→Act→World→Prop} (hn:∀x H' ρ' v w',K x H'→SR H0 ρ0 w0 ann N ρ' lam {S with hp:=H'} a w'→TR ρ' lam x v→next (a.put o.dst v) w'):o.wp E.P a w next Q:=by
 have cX:=h.ev;obtain⟨dst,op,type,jj,after,guard⟩:=o
 cases op with
 |alloc t=>
  simp only[bL] at ho;split at ho
  ·rename_i i hi;split at ho
   ·rename_i z hz;obtain⟨z',h1,h2,h3⟩:=vC hi hz ρ w;have hp:iw (.cells z'.cells t) w {w with heap:=w.heap.push (.cells z'.cells t)}:=⟨rfl,rfl,rfl,rfl⟩;refine cC (v:=.pointer (some ⟨w.heap.size,0,none⟩)) (w':={w with heap:=w.heap.push (.cells z'.cells t)}) (by simp [execOp,Instr.alloc,h1,newVar,newRow]) ?_;exact hn _ _ _ _ _ ho (h.Da hp (x:=.cells t z.cells false) (iC h2 h3)) (.v (.aj (by rw[eE,if_pos rfl])))
   ·exact ho.elim
  ·exact ho.elim
 |box t x=>
  simp only[bL] at ho;split at ho
  ·rename_i v hv;split at ho
   ·rename_i r vs hvs;obtain⟨hr,ho⟩:=aT ho;obtain⟨h2,h3⟩:=iS (cX.v hv) hvs hr;have hp:iw (.cells (a.eval x).cells t) w {w with heap:=w.heap.push (.cells (a.eval x).cells t)}:=⟨rfl,rfl,rfl,rfl⟩;refine cC (v:=.pointer (some ⟨w.heap.size,0,none⟩)) (w':={w with heap:=w.heap.push (.cells (a.eval x).cells t)}) (by simp [execOp,Instr.box,newVar,newRow]) ?_;exact hn _ _ _ _ _ ho (h.Da hp (x:=.cells t vs false) (iC h2 h3)) (.v (.aj (by rw[eE,if_pos rfl])))
   ·exact ho.elim
  ·exact ho.elim
 |store t ad x=>
  simp only[bL] at ho;split at ho
  ·rename_i id off v ha hx;split at ho
   ·rename_i r vs hvs;obtain⟨hr,ho⟩:=aT ho;rw[Bool.and_eq_true] at hr;have EC:=hr.2;unfold ag.wr at EC;split at EC
    ·rename_i e cs ro hg;rw[Bool.and_eq_true] at EC;have hro:ro=false:=by simpa using EC.1
     subst hro;obtain⟨b,hb,hc⟩:=h.hr.wH id _ hg;obtain⟨b',hb',he⟩:=(cX.tv ha).vy;rw[hb] at hb';cases hb';obtain⟨w',h1,h2,h3⟩:=wJ (E:=E) (t:=t) hc (cX.v hx) hvs hr.1 (Nat.le_of_ble_eq_true EC.2);refine vE (w':=w') (by simp [execOp,Instr.storeAt,he,Instr.sureAddr,h1]) ?_;have hst:S.hp.store id off vs=S.hp.put id (.cells e (bI cs off vs) false):=by simp [ag.store,hg]
     rw[hst] at ho;exact hn _ _ _ _ _ ho (h.Db hg rfl rfl hb h3 h2) .undef
    ·cases EC
   ·exact ho.elim
  ·exact ho.elim
 |call c=>
  simp only[bL] at ho;split at ho
  ·rename_i f args hc hargs;split at ho
   ·rename_i fv hf
    have post:∀v v' H' ρ' w',(match tH E type v with|some (b,v')=>ah b (K (.v v') H')|none=>False)→VR ρ' v v'→HR ρ' H' w'→lE S.hp ρ w H' ρ' w'→next (a.put dst v') w':=by
     intro v v' H' ρ' w' hk hv Wu hs;revert hk;split
     ·rename_i b y hy;intro hk;obtain⟨hb,hk⟩:=aT hk;rw[Np hy hb] at hk;exact hn _ _ _ _ _ hk (h.call hs Wu) (.v hv)
     ·exact fun hk=>hk.elim
    have main:∀(g:FuncId) (as0:List V) (fi cap:Array Value),a.eval f=.func (.func g) fi cap→eT ρ as0 (fi++c.args.map a.eval++cap).toList→
     (match (E.ext g).isSome with
      |true=>iO E g as0 S.hp fun v H'=>match tH E type v with|some (b,v')=>ah b (K (.v v') H')|none=>False
      |false=>R.call g as0 S.hp fun v H'=>match tH E type v with|some (b,v')=>ah b (K (.v v') H')|none=>False)→
     Oper.wp E.P ⟨dst,.call c,type,jj,after,guard⟩ a w next Q:=by
     intro g as0 fi cap he has ho;split at ho
     ·unfold iO at ho;split at ho
      ·rename_i x hx;rcases hX g x hx _ _ _ ho ρ w _ h.hr has with⟨v,v',w',H',ρ',hrun,hk,hv,Wu,hs⟩|⟨hrun,Qp⟩
       ·exact cC (by rw[uf (E:=E) rfl hc he,hrun]) (post v v' H' ρ' w' hk hv Wu hs)
       ·unfold Oper.wp;rw[uf (E:=E) rfl hc he,hrun];refine Qp.mono ?_;rintro e w' ⟨v,v',H',ρ',rfl,hk,hv,Wu,hs⟩;exact post v v' H' ρ' w' hk hv Wu hs
      ·exact ho.elim
     ·obtain⟨fn,hfn,hbody⟩:=hB _ _ _ _ ho;have hrun:=Nv (E:=E) (e:=a.eval) (o:=⟨dst,.call c,type,jj,after,guard⟩) rfl hc he hfn hbody w;have Qp:=hR _ _ _ _ ho ρ w _ h.hr has;unfold Oper.wp;rw[hrun];refine Qp.mono ?_;rintro e w' ⟨v,v',H',ρ',rfl,hk,hv,Wu,hs⟩;exact post v v' H' ρ' w' hk hv Wu hs
    have Cy:eT ρ args (c.args.map a.eval).toList:=by simpa using cX.vs hargs
    unfold ly at ho;split at ho
    ·rename_i g cap;obtain⟨cap',he,hcap⟩:=(cX.v hf).Nm
     exact main g (args++cap) #[] cap' he (by
      rw[Array.toList_append,Array.toList_append]
      exact Cy.append hcap) ho
    ·rename_i g first;obtain⟨first',he,SA⟩:=(cX.v hf).Nn
     exact main g (first++args) first' #[] he (by
      rw[Array.toList_append,Array.toList_append]
      simpa using SA.append Cy) ho
    ·exact ho.elim
   ·exact ho.elim
  ·rename_i args hc hargs;obtain⟨q,n,cp,H',ρ',v,w',hk,hrun,hs,hv⟩:=Dg (E:=E) h (args':=c.args.map a.eval) (ty:=type) (by simpa using cX.vs hargs) ho;refine cC ?_ (hn _ _ _ _ _ hk hs hv);have aaw:(Builtin.append_ c.argTypes type (c.args.map a.eval)).run E.P w=.ok v w':=by simpa using hrun
   simp only[execOp,resolve,hc,invoke,builtin,Sem.run_bind,Sem.run_pure,Result.andThen_ok,aaw]
  ·split at ho
   ·rename_i r x H' hs;obtain⟨hr,ho⟩:=aT ho;obtain⟨ρ',v,w',h1,h2,h3⟩:=gq h (o:=⟨dst,.call c,type,jj,after,guard⟩) hs hr;exact cC h1 (hn _ _ _ _ _ ho h2 h3)
   ·exact ho.elim
 |convert s d x=>
  simp only[bL] at ho;split at ho
  ·rename_i cN ti hk hx m9
   split at ho
   ·rename_i el hsh;split at ho
    ·rename_i hel;obtain⟨hr,ho⟩:=aT ho;have ic:=Nat.le_of_ble_eq_true hr;obtain⟨ds,ry,hds⟩:=bM hk;obtain⟨dd,hud,Qm⟩:=dG m9;rw[hsh] at Qm;cases iv Qm;obtain⟨de,Sx,Qj⟩:=bM hel;cases de<;>simp [bq,cO] at Qj
     subst Qj;have he:=(cX.v hx).vx;have Qf:=grownCap_ge w cN.size 0 el
     have Qg:=grownCap_le_maxLen w cN.size 0 el (by simp only[maxLen];omega)
     have hk:=ho (grownCap w cN.size 0 el) Qf (by simp only[maxLen] at Qg;omega);obtain⟨row,hrow⟩:∃row:Array Value,row=cN.data.map (fun b=>Value.int .u8 b.toNat)++Array.replicate (grownCap w cN.size 0 el-cN.size) (.int .u8 0):=⟨_,rfl⟩
     have Qd:eT ρ (hO (grownCap w cN.size 0 el-cN.size) [.int .u8 0]) (Array.replicate (grownCap w cN.size 0 el-cN.size) (Value.int .u8 0)).toList:=by
      refine⟨by simp [gg], ?_⟩;intro i x y hx hy
      have hi:i<grownCap w cN.size 0 el-cN.size:=by
       rcases Nat.lt_or_ge i (grownCap w cN.size 0 el-cN.size) with h|h
       ·exact h
       ·rw[List.getElem?_eq_none (by simpa using h)] at hy;cases hy
      rw[yE (by simp) _ _ (by simpa using hi)] at hx;have h1:=List.mem_of_getElem? hx;have h2:=List.mem_of_getElem? hy;simp only[List.mem_singleton] at h1;simp at h2;rw[h1,h2.2];exact .int _ _
     have MJ:=(ua ρ cN).append Qd
     have h1:=h.Da (o:=.cells row el) (w':=w.drew.alloc (.cells row el)) ⟨rfl,rfl,rfl,rfl⟩ (x:=.cells el (yb (fc cN) (hO (grownCap w cN.size 0 el-cN.size) [.int .u8 0])) false)
      (iC (by rw[hrow];simpa [yb] using MJ) ((tZ cN).append (gF (by intro v hv;simp at hv;rw[hv];rfl) _)))
     have hg:(S.hp.alloc (.cells el (yb (fc cN) (hO (grownCap w cN.size 0 el-cN.size) [.int .u8 0])) false)).get S.hp.next=some (.cells el (yb (fc cN) (hO (grownCap w cN.size 0 el-cN.size) [.int .u8 0])) false):=by
      simp [ag.alloc]
     obtain⟨b,hb,hc⟩:=h1.hr.wH _ _ hg;obtain⟨w2,g1,g2,g3⟩:=yH (E:=E) (off:=0) hc;have hs:=h1.Db hg rfl rfl hb g3 (y:=.cells el (yb (fc cN) (hO (grownCap w cN.size 0 el-cN.size) [.int .u8 0])) false) g2;rw[ub hg] at hs;have A9:b=w.heap.size:=by rw[eE,if_pos rfl] at hb;exact(Option.some.inj hb).symm
     subst A9;refine cC (v:=.slice (some ⟨w.heap.size,0,none⟩) cN.size (grownCap w cN.size 0 el)) (w':=w2) ?_ (hn _ _ _ _ _ hk hs (.v (.slice _ _ hb)));have hch:(choose (.appendCap cN.size 0 el)).run E.P w=.ok (grownCap w cN.size 0 el) w.drew:=by simp [Question.forced,grownCap]
     cases ds<;>simp [bq,cO] at hds
     simp only[execOp,convert,Sem.run_bind,run_underlying ry,run_underlying hud,run_underlying Sx,Result.andThen_ok,he,Conv.stringToBytes,hch,newRow, ←hrow];have hn2:(Sem.new (.cells row el) Sem.pure).run E.P w.drew=.ok w.heap.size (w.drew.alloc (.cells row el)):=rfl;simp [newObj,hn2,g1]
    ·exact ho.elim
   ·exact ho.elim
  ·split at ho
   ·rename_i r x' H' hs;obtain⟨hr,ho⟩:=aT ho;obtain⟨ρ',v,w',h1,h2,h3⟩:=gq h (o:=⟨dst,.convert s d x,type,jj,after,guard⟩) hs hr;exact cC h1 (hn _ _ _ _ _ ho h2 h3)
   ·exact ho.elim
 |mapUpdate t m x v=>
  simp only[bL] at ho;split at ho
  ·rename_i ti r k n v' m9 hm hx hv;obtain⟨ds,ry,hds⟩:=dG m9;split at ho
   ·rename_i kt et hsh;rw[hsh] at hds;cases ud hds;split at ho
    ·rename_i k' b y hk hy;obtain⟨dk,Xf,hdk⟩:=bM hk;have Qk:dk=.int k':=by cases dk<;>simp_all [bq,cO]
     subst Qk;replace ho:=aT ho;obtain⟨hq,ho⟩:=ho;simp only[Bool.and_eq_true,nf,decide_eq_true_eq] at hq;obtain⟨hkk,hsome,hok,hb⟩:=hq;subst hkk
     cases r with
     |none=>cases hsome
     |some id=>
      have hx':=(cX.v hx).iu;obtain⟨bb,w',o',A9,hrun,Qn,hg,gC,hrw,Qo⟩:=xm (E:=E) (n:=n) ry Xf h.hr (cX.v hm) hok (cX.v hv);refine vE (w':=w') (by simp [execOp,hx',hrun]) ?_;simp only[Option.getD_some] at ho;rw[gC] at ho;exact hn _ _ _ _ _ ho (h.Db hg rfl hrw A9 Qn Qo) .undef
    ·exact ho.elim
   ·exact ho.elim
  ·exact ho.elim
 |next it isStr=>
  cases isStr with
  |true=>simp [bL,bY] at ho
  |false=>
   simp only[bL] at ho;split at ho
   ·rename_i t id hit;obtain⟨b,hb,he⟩:=(cX.tv hit).E9;rcases AO (E:=E) (ty:=type) h hb ho with⟨hk,hrun⟩|⟨H',w',k,v,hk,hrun,hs⟩
    ·exact cC (v:=.tuple #[.bool false]) (w':=w) (by simp [execOp,he,hrun]) (hn _ _ _ _ _ hk h (.v (.gE (.cons (.bool _) (.nil ρ)))))
    ·exact cC (v:=.tuple #[.bool true,k,v]) (w':=w') (by simp [execOp,he,hrun]) (hn _ _ _ _ _ hk hs (.v (.gE (.cons (.bool _) (.cons (.cx _) (.cons (.cx _) (.nil ρ)))))))
   ·exact ho.elim
 |makeMap t rF=>
  simp only[bL] at ho;split at ho
  ·rename_i r x H' hs;obtain⟨hr,ho⟩:=aT ho;obtain⟨ρ',v,w',h1,h2,h3⟩:=gq h (o:=⟨dst,.makeMap t rF,type,jj,after,guard⟩) hs hr;exact cC h1 (hn _ _ _ _ _ ho h2 h3)
  ·exact ho.elim
 |range t x=>
  simp only[bL] at ho;split at ho
  ·rename_i r x' H' hs;obtain⟨hr,ho⟩:=aT ho;obtain⟨ρ',v,w',h1,h2,h3⟩:=gq h (o:=⟨dst,.range t x,type,jj,after,guard⟩) hs hr;exact cC h1 (hn _ _ _ _ _ ho h2 h3)
  ·exact ho.elim
 |makeSlice t len cap=>
  simp only[bL] at ho;split at ho
  ·rename_i r x H' hs;obtain⟨hr,ho⟩:=aT ho;obtain⟨ρ',v,w',h1,h2,h3⟩:=gq h (o:=⟨dst,.makeSlice t len cap,type,jj,after,guard⟩) hs hr;exact cC h1 (hn _ _ _ _ _ ho h2 h3)
  ·exact ho.elim
 |buildSlice t len parts=>
  simp only[bL] at ho;split at ho
  ·rename_i r x H' hs;obtain⟨hr,ho⟩:=aT ho;obtain⟨ρ',v,w',h1,h2,h3⟩:=gq h (o:=⟨dst,.buildSlice t len parts,type,jj,after,guard⟩) hs hr;exact cC h1 (hn _ _ _ _ _ ho h2 h3)
  ·exact ho.elim
 |_=>simp [bL,bY] at ho
theorem wN {R:mv} (hX:jV E) (hR:∀f args H K,R.call f args H K→iB E f args H K) (hB:∀f args H K,R.call f args H K→∃fn,E.P.funcs[f]? =some fn∧fn.body.isSome=true) (h:SR H0 ρ0 w0 ann N ρ lam S a w) {o:Oper} {K:St→Prop} (hc:jk E R ann N o S K) {next:Act→World→Prop} {Q:Exit→Act→World→Prop} (hn:∀S' ρ' dI a' w',SR H0 ρ0 w0 ann N ρ' dI S' a' w'→K S'→next a' w'):o.wp E.P a w next Q:=by
 have cX:=h.ev
 have hL:∀s M,S.lo s=some M→∃b,lam s=some b∧vz ρ M w.heap[b]? :=by
  intro s M hM;obtain⟨b,h1,h2,_⟩:=h.lo s M hM;exact⟨b,h1,h2⟩
 unfold jk at hc
 cases wx:Hq E ann o with
 |pure=>
  simp only[wx] at hc;split at hc
  ·rename_i d hd;obtain⟨hr,hk⟩:=fR.fg hc;obtain⟨v,h1,h2⟩:=C6 (w:=w) cX hd hr;obtain⟨hok,hk⟩:=eh.1 hk;exact cC h1 (hn _ _ _ _ _ (h.put h2 hok) hk)
  ·exact hc.elim
 |oV s=>
  simp only[wx] at hc;split at hc
  ·rename_i d hd;obtain⟨hr,hk⟩:=fR.fg hc;obtain⟨v,h1,h2⟩:=Fj (w:=w) cX hd hr (hL s);obtain⟨hok,hk⟩:=eh.1 hk;exact cC h1 (hn _ _ _ _ _ (h.put h2 hok) hk)
  ·exact hc.elim
 |iN s=>
  simp only[wx] at hc;split at hc
  ·rename_i d hd;obtain⟨hr,hk⟩:=fR.fg hc;obtain⟨M,b,w',v,hM,hb,ho,hl,hx,hrun⟩:=Dc (w:=w) cX hd hr (hL s);obtain⟨hok,hk⟩:=eh.1 hk;have h':=(h.setL hM hb ho hl).put hx hok;rcases hrun with hrun|⟨rfl,hrun⟩
   ·exact cC hrun (hn _ _ _ _ _ h' hk)
   ·exact vE hrun (hn _ _ _ _ _ h' hk)
  ·exact hc.elim
 |tK=>
  simp only[wx] at hc;split at hc
  ·rename_i d r L xA hd;obtain⟨hr,hk⟩:=aT hc;obtain⟨x,w',h1,h2,h3⟩:=HD (w:=w) cX hd hr;obtain⟨hok,hk⟩:=eh.1 hk;have hs:=(h.aa3 h2 h3).put (dst:=some d) (x:=.lp d 0) (v:=.pointer (some ⟨w.heap.size,0,none⟩)) (.lp (by rw[eE,if_pos rfl])) hok;refine cC h1 ?_;rw[xA];exact hn _ _ _ _ _ hs hk
  ·exact hc.elim
 |kJ=>
  simp only[wx] at hc;split at hc
  ·rename_i d hd;obtain⟨hr,hk⟩:=fR.fg hc;obtain⟨v,h1,h2⟩:=wM (w:=w) cX h.hr hd hr;obtain⟨hok,hk⟩:=eh.1 hk;exact cC h1 (hn _ _ _ _ _ (h.put h2 hok) hk)
  ·exact hc.elim
 |tL=>
  simp only[wx] at hc;unfold Jd at hc;split at hc
  ·rename_i f first dF hop;split at hc
   ·rename_i vs S' hf hl;obtain⟨ρ',h1,h2,h3⟩:=mT h hl;obtain⟨hok,hk⟩:=eh.1 hc;have hf':first= #[]:=by apply Array.ext';simpa using hf
    refine cC (v:=.func (.func f) #[] (dF.map a.eval)) (w':=w) ?_ (hn _ _ _ _ _ (h1.put (.v (.Jf (by simpa using h2))) hok) hk);simp [execOp,hop,Instr.makeFunc,hf']
   ·exact hc.elim
  ·exact hc.elim
 |dz=>
  simp only[wx] at hc;refine Dl hX hR hB h hc ?_;intro x H' ρ' v w' hk hs hx;obtain⟨hok,hk⟩:=eh.1 hk;exact hn _ _ _ _ _ (hs.put hx hok) hk
theorem Dm {aF:Array Oper} {j:Nat} {t:T} (h:SR H0 ρ0 w0 ann N ρ lam S a w) (hy:ga aF.toList S.tm j=some t):(∀b,t=.v (.bool b)→yielded aF a.tmps j=some b)∧(t=.undef→yielded aF a.tmps j=none):=by
 unfold ga at hy;split at hy
 ·rename_i o ho;split at hy
  ·rename_i d hd;have ho':aF[j]? =some o:=by simpa using ho
   have ht:=h.tm d t hy
   have key:yielded aF a.tmps j=match a.tmps[d]? with|some (.bool b)=>some b|_=>none:=by
    simp only[yielded,ho',Option.bind_some,hd]
    cases a.tmps[d]? with
    |none=>rfl
    |some x=>cases x<;>rfl
   rw[key];rw[Array.getD_eq_getD_getElem?] at ht;constructor
   ·rintro b rfl
    cases hq:a.tmps[d]? with
    |none=>rw[hq] at ht;simp only[Option.getD_none,undef] at ht;cases ht with|v h=>cases h
    |some x=>rw[hq] at ht;simp only[Option.getD_some] at ht;cases ht with|v h=>cases h;rfl
   ·rintro rfl
    cases hq:a.tmps[d]? with
    |none=>rfl
    |some x=>rw[hq] at ht;simp only[Option.getD_some] at ht;cases ht;rfl
  ·cases hy
 ·cases hy
theorem pM {R:mv} (hX:jV E) (hR:∀f args H K,R.call f args H K→iB E f args H K) (hB:∀f args H K,R.call f args H K→∃fn,E.P.funcs[f]? =some fn∧fn.body.isSome=true) (h:SR H0 ρ0 w0 ann N ρ lam S a w) {aF:Array Oper} {i:Nat} {o:Oper} (hi:aF[i]? =some o) {K:St→Prop} (hc:dj E R ann N aF.toList o S K) {next:Act→World→Prop} {Q:Exit→Act→World→Prop} (hn:∀S' ρ' dI a' w',SR H0 ρ0 w0 ann N ρ' dI S' a' w'→K S'→next a' w'):wpOp E.P aF Q i next a w:=by
 unfold wpOp;simp only[hi]
 have skip:jt ann N o.dst .undef S K→next (a.put o.dst undef) w:=by
  intro hk;obtain⟨hok,hk⟩:=eh.1 hk;exact hn _ _ _ _ _ (h.put .undef hok) hk
 unfold dj at hc
 cases hg:o.guard with
 |none=>
  simp only[hg] at hc;simp only[Region.wanted,hg,if_true];exact .inl (wN hX hR hB h hc hn)
 |some p=>
  obtain⟨j,want⟩:=p;simp only[hg] at hc
  cases hy:ga aF.toList S.tm j with
  |none=>simp only[hy] at hc
  |some t=>
   obtain⟨h1,h2⟩:=Dm h hy
   cases t with
   |undef=>
    simp only[hy] at hc;simp only[Region.wanted,hg,h2 rfl];rw[if_neg (by simp)];exact skip hc
   |lp s off=>simp only[hy] at hc
   |v x=>
    cases x with
    |bool b=>
     simp only[hy] at hc;simp only[Region.wanted,hg,h1 b rfl];rcases gA hc with⟨hb,hc⟩|⟨hb,hc⟩
     ·rw[if_pos (by simpa using hb)];exact .inl (wN hX hR hB h hc hn)
     ·rw[if_neg (by simpa using hb)];exact skip hc
    |_=>simp only[hy] at hc
end
def Q4 (P:Program) (c:Code) (Q:Exit→Act→World→Prop) (a:Act) (w:World):Prop:=
 ∀(b:Frame) (k:List Item) (cs:List Frame),∃e a' w',Q e a' w'∧Arrives P (lone (b.at a (.code c:: .inLoop c::k)) cs w) b k cs e a' w'
theorem Nx {P:Program} {c:Code} {Q:Exit→Act→World→Prop} {a:Act} {w:World} (h:Q4 P c Q a w):(Code.loop c).wp P Q a w:=by
 intro b k cs;obtain⟨e,a',w',hq,G2⟩:=h b k cs;exact⟨e,a',w',hq,.of_steps (.one step_loop) G2⟩
theorem HF {P:Program} {c:Code} {Q:Exit→Act→World→Prop} {a:Act} {w:World} (h:c.wp P (Exit.then (Q4 P c Q) Q) a w):Q4 P c Q a w:=by
 intro b k cs;obtain⟨e,a₁,w₁,hq,G2⟩:=h b (.inLoop c::k) cs
 cases e with
 |normal=>
  obtain⟨e₂,a₂,w₂,aax,SB⟩:=hq b k cs;exact⟨e₂,a₂,w₂,aax,.of_steps (Steps.trans G2 (.one step_inLoop)) SB⟩
 |exit id=>exact⟨_,a₁,w₁,hq,.pass (x:=.inLoop c) rfl (fun _ _=>.inl (by simp)) G2⟩
 |goto l=>exact⟨_,a₁,w₁,hq,.pass (x:=.inLoop c) rfl (fun _ _=>.inl (by simp)) G2⟩
 |ret=>exact⟨_,a₁,w₁,hq,.pass (x:=.inLoop c) rfl (fun _ _=>.inl (by simp)) G2⟩
 |panic ch=>exact⟨_,a₁,w₁,hq,.pass (x:=.inLoop c) rfl (fun _ _=>.inl (by simp)) G2⟩
 |outgrown=>exact⟨_,a₁,w₁,hq,.pass (x:=.inLoop c) rfl (fun _ _=>.inl (by simp)) G2⟩
def nu (E:kv) (c:Code) (f:FuncId) (S:St) (Kr:St→Prop) (Ke:Nat→St→Prop):Prop:=
 ∀(fn:Func) (H0:ag) (ρ0:dC) (w0:World) (ρ lam:dC) (a:Act) (w:World) (Q:Exit→Act→World→Prop),E.P.funcs[f]? =some fn→
  SR H0 ρ0 w0 (E.ann f) fn.ntmps ρ lam S a w→
  (∀S' ρ' dI a' w',SR H0 ρ0 w0 (E.ann f) fn.ntmps ρ' dI S' a' w'→Kr S'→Q .ret a' w')→
  (∀id S' ρ' dI a' w',SR H0 ρ0 w0 (E.ann f) fn.ntmps ρ' dI S' a' w'→Ke id S'→Q (.exit id) a' w')→Q4 E.P c Q a w
structure nv (E:kv) (R:mv):Prop where
 call:∀f args H K,R.call f args H K→iB E f args H K
 body:∀f args H K,R.call f args H K→∃fn,E.P.funcs[f]? =some fn∧fn.body.isSome=true
 loop:∀c f n S Kr Ke,R.loop c f n S Kr Ke→nu E c f S Kr Ke
 mono:R.le R
 vp:iq R
 ext:jV E
section
variable {E:kv} {H0:ag} {ρ0:dC} {w0:World} {ann:bQ} {N:Nat} {ρ lam:dC} {S:St} {a:Act} {w:World} {R:mv}
theorem sF {tm:Nat→Option T}:∀{l:List Nat} {m:List (Nat×T)} {t:Nat} {x:T},EW tm l=some m→ab m t=some x→tm t=some x
 |[],m,t,x,h,hl=>by simp only[EW,Option.some.injEq] at h;subst h;cases hl
 |s::l,m,t,x,h,hl=>by
  simp only[EW] at h;split at h
  ·rename_i y m' hy hm;simp only[Option.some.injEq] at h;subst h;simp only[ab,aX] at hl;by_cases he:t=s
   ·simp only[he,decide_true,cond_true,Option.some.injEq] at hl;subst hl;rw[he];exact hy
   ·simp only[he,decide_false,cond_false] at hl;exact sF hm hl
  ·cases h
theorem sG {tm:Nat→Option aU}:∀{l:List Nat} {m:List (Nat×aU)} {t:Nat} {x:aU},EX tm l=some m→ab m t=some x→tm t=some x
 |[],m,t,x,h,hl=>by simp only[EX,Option.some.injEq] at h;subst h;cases hl
 |s::l,m,t,x,h,hl=>by
  simp only[EX] at h;split at h
  ·rename_i y m' hy hm;simp only[Option.some.injEq] at h;subst h;simp only[ab,aX] at hl;by_cases he:t=s
   ·simp only[he,decide_true,cond_true,Option.some.injEq] at hl;subst hl;rw[he];exact hy
   ·simp only[he,decide_false,cond_false] at hl;exact sG hm hl
  ·cases h
theorem SR.Q5 (h:SR H0 ρ0 w0 ann N ρ lam S a w) {S':St} (h1:∀t x,S'.tm t=some x→S.tm t=some x) (h2:∀t x,S'.lo t=some x→S.lo t=some x) (h3:S'.hp=S.hp):SR H0 ρ0 w0 ann N ρ lam S' a w where
 defers:=h.defers
 size:=h.size
 tm:=fun t x hx=>h.tm t x (h1 t x hx)
 La:=fun t s off hx=>h.La t s off (h1 t _ hx)
 lo:=fun s L hL=>by rw[h3];exact h.lo s L (h2 s L hL)
 tU:=fun s s' L L' b e1 e2=>h.tU s s' L L' b (h2 _ _ e1) (h2 _ _ e2)
 hr:=by rw[h3];exact h.hr
 bW:=by rw[h3];exact h.bW
theorem jW (h:SR H0 ρ0 w0 ann N ρ lam S a w) {ts ls:List Nat} {K:St→Prop} (hk:lA ts ls S K):∃S',SR H0 ρ0 w0 ann N ρ lam S' a w∧K S':=by
 unfold lA at hk;split at hk
 ·rename_i m l hm hl;exact⟨_,h.Q5 (S':=⟨ab m,ab l,S.hp⟩) (fun t x hx=>sF hm hx) (fun t x hx=>sG hl hx) rfl,hk⟩
 ·exact hk.elim
theorem Q6 {k:KT} {x:Option T} (h:aB k x=true):x=some (QR k x):=by
 cases k with
 |k k=>
  cases x with
  |none=>simp [aB] at h
  |some y=>cases y with
   |v z=>simp only[aB] at h;simp [QR,T.val,V.sb h]
   |_=>simp [aB] at h
 |agg ks=>
  cases x with
  |none=>simp [aB] at h
  |some y=>cases y with
   |v z=>
    simp only[aB,Bool.and_eq_true] at h;simp only[QR,T.val];rw[k5 h.2 rfl, ←tV h.1]
   |_=>simp [aB] at h
 |lp s=>
  cases x with
  |none=>simp [aB] at h
  |some y=>cases y with
   |lp s' off=>
    cases off with
    |zero=>simp only[aB] at h;rw[Nat.eq_of_beq_eq_true h];rfl
    |succ n=>simp [aB] at h
   |_=>simp [aB] at h
 |undef=>
  cases x with
  |none=>simp [aB] at h
  |some y=>cases y with
   |undef=>rfl
   |_=>simp [aB] at h
theorem Q7 {e:TypeId} {ks:List cq} {x:Option aU} (h:eD e ks x=true):x=some (.cells e (nZ ks (ao x) 0)):=by
 cases x with
 |none=>simp [eD] at h
 |some y=>cases y with
  |cells e' cs=>
   simp only[eD,Bool.and_eq_true] at h;simp only[ao];rw[k5 h.2 rfl,Nat.eq_of_beq_eq_true h.1]
  |dN s p=>simp [eD] at h
theorem sH:∀{l:List (Nat×KT)} {t:Nat} {x:T},(lB S l).1=true→ab (lB S l).2 t=some x→S.tm t=some x
 |[],t,x,_,hl=>by cases hl
 |(s,k)::l,t,x,h,hl=>by
  simp only[lB,Bool.and_eq_true] at h hl;simp only[ab,aX] at hl;by_cases he:t=s
  ·simp only[he,decide_true,cond_true,Option.some.injEq] at hl;subst hl;rw[he];exact Q6 h.1
  ·simp only[he,decide_false,cond_false] at hl;exact sH h.2 hl
theorem sI:∀{l:List (Nat×TypeId×List cq)} {t:Nat} {x:aU},(lC S l).1=true→ab (lC S l).2 t=some x→S.lo t=some x
 |[],t,x,_,hl=>by cases hl
 |(s,e,ks)::l,t,x,h,hl=>by
  simp only[lC,Bool.and_eq_true] at h hl;simp only[ab,aX] at hl;by_cases he:t=s
  ·simp only[he,decide_true,cond_true,Option.some.injEq] at hl;subst hl;rw[he];exact Q7 h.1
  ·simp only[he,decide_false,cond_false] at hl;exact sI h.2 hl
theorem pN (h:SR H0 ρ0 w0 ann N ρ lam S a w) {ts:List (Nat×KT)} {ls:List (Nat×TypeId×List cq)} {K:St→Prop} (hk:Be ts ls S K):∃S',SR H0 ρ0 w0 ann N ρ lam S' a w∧K S':=by
 obtain⟨h1,h2⟩:=aT hk;rw[Bool.and_eq_true] at h1;exact⟨_,h.Q5 (S':=⟨ab (lB S ts).2,ab (lC S ls).2,S.hp⟩) (fun t x hx=>sH h1.1 hx) (fun t x hx=>sI h1.2 hx) rfl,h2⟩
theorem ug (h:SR H0 ρ0 w0 ann N ρ lam S a w) {kp:js} {K:Ex→St→Prop}:∀{l:List Nat} {id:Nat},vt kp K l id S→∃S',SR H0 ρ0 w0 ann N ρ lam S' a w∧K (.exit id) S'
 |[],_,hk=>hk.elim
 |j::l,id,hk=>by
  rcases gA hk with⟨hj,hk⟩|⟨_,hk⟩
  ·rw[Nat.eq_of_beq_eq_true hj];exact pN h hk
  ·exact ug h hk
def gZ (E:kv) (R:mv) (ann:bQ) (N:Nat) (aF:Array Oper):List Nat→St→(St→Prop)→Prop
 |[],S,K=>K S
 |i::l,S,K=>match aF[i]? with
  |some o=>dj E R ann N aF.toList o S fun S'=>gZ E R ann N aF l S' K
  |none=>gZ E R ann N aF l S K
theorem Bp {aF:Array Oper} {K:St→Prop}:∀(l:List Oper) (i:Nat) {S:St},aF.toList.drop i=l→lz E R ann N aF.toList l S K=gZ E R ann N aF (List.range' i l.length) S K
 |[],i,_,_=>rfl
 |o::l,i,S,hl=>by
  have hi:aF[i]? =some o:=by
   have:(aF.toList.drop i)[0]? =some o:=by rw[hl];rfl
   simpa using this
  rw[List.length_cons,List.range'_succ,gZ,hi];have hl':aF.toList.drop (i+1)=l:=by rw[←List.drop_drop,hl];rfl
  simp only[lz];congr 1;funext S';exact Bp l (i+1) hl'
theorem pO (hR:nv E R) {aF:Array Oper} {Q:Exit→Act→World→Prop}:∀(l:List Nat) {S:St} {K:St→Prop} {ρ lam:dC} {a:Act} {w:World},SR H0 ρ0 w0 ann N ρ lam S a w→gZ E R ann N aF l S K→(∀S' ρ' dI a' w',SR H0 ρ0 w0 ann N ρ' dI S' a' w'→K S'→Q .normal a' w')→wpOps E.P aF Q l a w
 |[],S,K,ρ,lam,a,w,h,hk,hq=>hq _ _ _ _ _ h hk
 |i::l,S,K,ρ,lam,a,w,h,hk,hq=>by
  rw[wpOps_cons];unfold gZ at hk;split at hk
  ·rename_i o ho;exact pM hR.ext hR.call hR.body h ho hk fun S' ρ' dI a' w' h' hk'=>pO hR l h' hk' hq
  ·rename_i ho;unfold wpOp;simp only[ho];exact pO hR l h hk hq
end
section
variable {E:kv} {H0:ag} {ρ0:dC} {w0:World} {ann:bQ} {N:Nat} {ρ lam:dC} {S:St} {a:Act} {w:World} {R:mv}
theorem uh (hR:nv E R) {aF:Array Oper} {i:Nat} {o:Oper} (hi:aF[i]? =some o):∀(pre:List Nat) (post:List Nat) {S:St} {K:St→Prop},(∀j∈pre,∀p,aF[j]? =some p→gy (cY E ann aF.toList o) (cY E ann aF.toList p)=true)→gZ E R ann N aF (pre++i::post) S K→dj E R ann N aF.toList o S fun S'=>gZ E R ann N aF (pre++post) S' K
 |[],post,S,K,_,hk=>by
  rw[List.nil_append,gZ,hi] at hk;exact hk
 |j::pre,post,S,K,hap,hk=>by
  rw[List.cons_append,gZ] at hk
  have ih:∀S',gZ E R ann N aF (pre++i::post) S' K→dj E R ann N aF.toList o S' fun S'=>gZ E R ann N aF (pre++post) S' K:=
   fun S' h=>uh hR hi pre post (fun j hj=>hap j (List.mem_cons_of_mem _ hj)) h
  split at hk
  ·rename_i p hp;have h1:=eM hR.mono ih hk
   have acX:gy (cY E ann aF.toList p) (cY E ann aF.toList o)=true:=by
    have:=hap j (List.mem_cons_self ..) p hp;simp only[gy,Bool.and_eq_true,Bool.not_eq_true'] at this⊢;obtain⟨⟨⟨⟨⟨⟨⟨⟨h1,h2⟩,h3⟩,h4⟩,h5⟩,h6⟩,h7⟩,h8⟩,h9,xZ⟩:=this
    have flip:∀{l m:List Nat},jl l m=false→jl m l=false:=by
     intro l m h;have hs:=fP h;cases hq:jl m l
     ·rfl
     ·exfalso
      have:∀{l' m':List Nat},jl l' m'=true→∃x,x∈l'∧x∈m':=by
       intro l' m' hh
       induction l' with
       |nil=>cases hh
       |cons y l' ih=>
        rw[jl,Bool.or_eq_true] at hh;rcases hh with hh|hh
        ·exact⟨y,List.mem_cons_self ..,jx.1 hh⟩
        ·obtain⟨x,hx1,vm⟩:=ih hh;exact⟨x,List.mem_cons_of_mem _ hx1,vm⟩
      obtain⟨x,hx1,vm⟩:=this hq;exact hs x vm hx1
    exact⟨⟨⟨⟨⟨⟨⟨⟨h3,flip h2⟩,h1⟩,h6⟩,flip h5⟩,h4⟩,h8⟩,h7⟩,xZ,h9⟩
   have h2:=yo hR.mono hR.vp acX h1;refine eM hR.mono ?_ h2;intro S' h';rw[List.cons_append,gZ,hp];exact h'
  ·rename_i hp;have:=ih _ hk;refine eM hR.mono ?_ this;intro S' h';rw[List.cons_append,gZ,hp];exact h'
theorem wO {i:Nat}:∀{l:List Edge},CQ i l=true→∀e∈l,Region.binds .any e=true→e.on<i
 |[],_,e,he=>by cases he
 |x::l,h,e,he=>by
  rw[CQ,Bool.and_eq_true,Bool.or_eq_true] at h;intro hb;rcases List.mem_cons.1 he with rfl|he
  ·rcases h.1 with h1|h1
   ·rw[hb] at h1;cases h1
   ·simpa using h1
  ·exact wO h.2 e he hb
theorem oB:∀{l:List Oper} {i:Nat},og l i=true→∀(j:Nat) (o:Oper),l[j]? =some o→∀e∈o.after.toList,Region.binds .any e=true→e.on<i+j
 |[],_,_,j,o,h=>by simp at h
 |x::l,i,h,j,o,ho=>by
  rw[og,Bool.and_eq_true] at h;intro e he hb
  cases j with
  |zero=>simp only[List.getElem?_cons_zero,Option.some.injEq] at ho;subst ho;exact wO h.1 e he hb
  |succ j=>
   have:=oB h.2 j o (by simpa using ho) e he hb;omega
theorem ui {fs:List jR} {bs:List (List Nat)} {i:Nat} {f:jR}:∀{n:Nat},tN fs bs i f n=true→∀j,j<n→∃g b,fs[j]? =some g∧bs[i]? =some b∧(j∈b∨gy f g=true)
 |0,_,j,hj=>by omega
 |n+1,h,j,hj=>by
  rw[tN,Bool.and_eq_true] at h;by_cases he:j=n
  ·subst he;have h1:=h.1;split at h1
   ·rename_i g b hg hb;rw[Bool.or_eq_true] at h1;exact⟨g,b,hg,hb,h1.imp jx.1 id⟩
   ·cases h1
  ·exact ui h.2 j (by omega)
theorem pP {fs:List jR} {bs:List (List Nat)}:∀{l:List jR} {k:Nat},qF fs bs l k=true→∀(i:Nat) (f:jR),l[i]? =some f→tN fs bs (k+i) f (k+i)=true
 |[],_,_,i,f,h=>by simp at h
 |x::l,k,h,i,f,hf=>by
  rw[qF,Bool.and_eq_true] at h
  cases i with
  |zero=>simp only[List.getElem?_cons_zero,Option.some.injEq] at hf;subst hf;exact h.1
  |succ i=>
   have:=pP h.2 i f (by simpa using hf);rw[show k+(i+1)=k+1+i by omega];exact this
theorem uj:∀(l:List Oper) (acc:List (List Nat)) (i:Nat) (b:List Nat),(iP l acc)[i]? =some b→(i<acc.length∧acc[i]? =some b)∨∃o,l[i-acc.length]? =some o∧acc.length≤i∧∀j∈b,∃e∈o.after.toList,Region.binds .any e=true∧(j=e.on∨(e.on<i∧∃b',(iP l acc)[e.on]? =some b'∧j∈b'))
 |[],acc,i,b,h=>by
  simp only[iP] at h;refine .inl ⟨?_,h⟩;rcases Nat.lt_or_ge i acc.length with h'|h'
  ·exact h'
  ·rw[List.getElem?_eq_none h'] at h;cases h
 |o::l,acc,i,b,h=>by
  simp only[iP] at h⊢
  have keep:∀(l:List Oper) (acc:List (List Nat)) (i:Nat),i<acc.length→(iP l acc)[i]? =acc[i]? :=by
   intro l
   induction l with
   |nil=>intro acc i hi;rfl
   |cons q l ih=>
    intro acc i hi;simp only[iP];rw[ih _ i (by simp;omega),List.getElem?_append_left hi]
  rcases uj l (acc++[qE acc o.after.toList]) i b h with⟨h1,h2⟩|⟨q,h1,h2,h3⟩
  ·simp only[List.length_append,List.length_singleton] at h1;by_cases hi:i<acc.length
   ·rw[List.getElem?_append_left hi] at h2;exact .inl ⟨hi,h2⟩
   ·have hi':i=acc.length:=by omega
    subst hi';rw[List.getElem?_append_right (Nat.le_refl _)] at h2;simp only[Nat.sub_self,List.getElem?_cons_zero,Option.some.injEq] at h2;subst h2;refine .inr ⟨o,by simp,Nat.le_refl _, ?_⟩;intro j hj
    have:∀(es:List Edge),j∈qE acc es→∃e∈es,Region.binds .any e=true∧(j=e.on∨j∈acc[e.on]?.getD []):=by
     intro es
     induction es with
     |nil=>intro h;cases h
     |cons e es ih=>
      intro h;simp only[qE] at h;cases hb:Region.binds .any e
      ·simp only[hb,cond_false] at h;obtain⟨e',h1,h2⟩:=ih h;exact⟨e',List.mem_cons_of_mem _ h1,h2⟩
      ·simp only[hb,cond_true,List.mem_cons,List.mem_append] at h;rcases h with h|h|h
       ·exact⟨e,List.mem_cons_self ..,hb,.inl h⟩
       ·exact⟨e,List.mem_cons_self ..,hb,.inr h⟩
       ·obtain⟨e',h1,h2⟩:=ih h;exact⟨e',List.mem_cons_of_mem _ h1,h2⟩
    obtain⟨e,h4,h5,h6⟩:=this _ hj;refine⟨e,h4,h5,h6.imp id fun h6=> ?_⟩
    cases hg:acc[e.on]? with
    |none=>rw[hg] at h6;cases h6
    |some b'=>
     rw[hg] at h6
     have hlt:e.on<acc.length:=by
      rcases Nat.lt_or_ge e.on acc.length with h'|h'
      ·exact h'
      ·rw[List.getElem?_eq_none h'] at hg;cases hg
     refine⟨hlt,b', ?_,h6⟩;rw[keep _ _ _ (by simp;omega),List.getElem?_append_left hlt,hg]
  ·simp only[List.length_append,List.length_singleton] at h1 h2 h3;refine .inr ⟨q, ?_,by omega,h3⟩;rw[show i-acc.length=i-(acc.length+1)+1 by omega];simpa using h1
def jX (n:Nat) (listed:Array Bool):List Nat:=(List.range n).filter fun i=> !listed.getD i false
theorem uk {p q:Nat→Bool} {i:Nat} (hpq:∀j,j≠i→q j=p j) (hi:p i=true) (hqi:q i=false):∀(l:List Nat),i∈l→l.Nodup→∃pre post,l.filter p=pre++i::post∧l.filter q=pre++post∧(∀j∈pre,j∈l∧p j=true∧j≠i)∧(l.Pairwise (· < ·)→∀j∈pre,j<i)
 |[],h,_=>by cases h
 |x::l,h,hn=>by
  rw[List.nodup_cons] at hn;by_cases hx:x=i
  ·subst hx
   have hsame:l.filter q=l.filter p:=by
    apply List.filter_congr;intro j hj;exact hpq j (fun e=>hn.1 (e▸hj))
   exact⟨[],l.filter p,by simp [hi],by simp [hqi,hsame],fun j hj=>by simp at hj,fun _ j hj=>by simp at hj⟩
  ·have mK:i∈l:=by
    rcases List.mem_cons.1 h with h|h
    ·exact(hx h.symm).elim
    ·exact h
   obtain⟨pre,post,h1,h2,h3,h4⟩:=uk hpq hi hqi l mK hn.2;cases hp:p x
   ·refine⟨pre,post,by simp [hp,h1],by simp [hpq x hx,hp,h2],fun j hj=>⟨List.mem_cons_of_mem _ (h3 j hj).1,(h3 j hj).2⟩,fun hs=>h4 (List.pairwise_cons.1 hs).2⟩
   ·refine⟨x::pre,post,by simp [hp,h1],by simp [hpq x hx,hp,h2], ?_, ?_⟩
    ·intro j hj;rcases List.mem_cons.1 hj with rfl|hj
     ·exact⟨List.mem_cons_self ..,hp,hx⟩
     ·exact⟨List.mem_cons_of_mem _ (h3 j hj).1,(h3 j hj).2⟩
    ·intro hs j hj;rw[List.pairwise_cons] at hs;rcases List.mem_cons.1 hj with rfl|hj
     ·exact hs.1 i mK
     ·exact h4 hs.2 j hj
end
section
variable {E:kv} {R:mv} {ann:bQ} {N:Nat}
theorem fN.run_bind {α β:Type} {k:α→fN β} {K:β→Prop}:∀(t:fN α),(t.bind k).run K=t.run fun a=>(k a).run K
 | .leaf _=>rfl
 | .br c x y=>by simp only[fN.bind,fN.run,fN.run_bind x,fN.run_bind y]
 | .ah c x=>by simp only[fN.bind,fN.run,fN.run_bind x]
 | .aP=>rfl
theorem fN.cE {α:Type} {K K':α→Prop} (h:∀a,K a→K' a):∀{t:fN α},t.run K→t.run K'
 | .leaf _,hk=>h _ hk
 | .br _ _ _,hk=>ff (fN.cE h) (fN.cE h) hk
 | .ah _ _,hk=>bU (fN.cE h) hk
 | .aP,hk=>hk
theorem um {S:St} {M:MS} {d:Nat} {x:T}:MS.st S {M with U:=(d,x)::M.U}=(M.st S).setT d x:=by
 unfold MS.st St.setT;congr 1;funext t;simp only[o9,ab];cases Nat.beq t d<;>rfl
theorem Q8 {S:St} {M:MS} {s:Nat} {x:aU}:MS.st S {M with W:=(s,x)::M.W}=(M.st S).setL s x:=by
 unfold MS.st St.setL;congr 1;funext t;simp only[yc,ab];cases Nat.beq t s<;>rfl
theorem jY {dst:Option Tmp} {x:T} {S:St} {M:MS} {K:St→Prop} (h:(CL ann N dst x M).run fun M'=>K (M'.st S)):jt ann N dst x (M.st S) K:=by
 unfold CL at h;unfold jt
 cases dst with
 |none=>exact h
 |some d=>
  simp only[fN.run] at h⊢;refine bU ?_ h
  cases x with
  |v y=>intro h;rw[←um];exact h
  |undef=>intro h;rw[←um];exact h
  |lp s o=>
   simp only[]
   cases ab ann.aW d with
   |none=>exact id
   |some s'=>
    simp only[]
    cases Nat.beq s s' with
    |true=>intro h;simp only[cond_true];rw[←um];exact h
    |false=>exact id
theorem Dn {α:Type} {d:fR α} {X:Prop} {K:α→Prop} (h:ah (d.rq&&d.c) X) (hx:X→K d.x):d.run K:=by
 obtain⟨h1,h2⟩:=aT h;rw[Bool.and_eq_true] at h1;unfold fR.run;rw[h1.1,h1.2];exact hx h2
theorem qM {o:Oper} {S:St} {M:MS} {K:St→Prop} (h:(EY E ann N o S M).run fun M'=>K (M'.st S)):jk E R ann N o (M.st S) K:=by
 unfold EY at h;unfold jk
 cases hc:Hq E ann o with
 |pure=>
  simp only[hc] at h⊢
  cases hp:ba E o.op (cS (o9 S M.U)) with
  |none=>simp only[hp] at h;exact h.elim
  |some d=>simp only[MS.st,hp] at h⊢;exact Dn h jY
 |oV s=>
  simp only[hc] at h⊢
  cases hp:gQ E o.op (cS (o9 S M.U)) s (yc S M.W s) with
  |none=>simp only[hp] at h;exact h.elim
  |some d=>simp only[MS.st,hp] at h⊢;exact Dn h jY
 |iN s=>
  simp only[hc] at h⊢
  cases hp:eg E o.op (cS (o9 S M.U)) s (yc S M.W s) with
  |none=>simp only[hp] at h;exact h.elim
  |some d=>
   simp only[hp] at h;simp only[MS.st,hp];refine Dn h ?_;intro h;have:=jY h;rw[Q8] at this;exact this
 |kJ=>
  simp only[hc] at h⊢
  cases hp:dD E o.op (cS (o9 S M.U)) S.hp with
  |none=>simp only[hp] at h;exact h.elim
  |some d=>simp only[MS.st,hp] at h⊢;exact Dn h jY
 |tK=>simp only[hc] at h;exact h.elim
 |tL=>simp only[hc] at h;exact h.elim
 |dz=>simp only[hc] at h;exact h.elim
theorem Li {aF:List Oper} {o:Oper} {S:St} {M:MS} {K:St→Prop} (h:(Nd E ann N aF o S M).run fun M'=>K (M'.st S)):tM E R ann N aF o (M.st S) K:=by
 unfold Nd at h;unfold tM
 cases hg:o.guard with
 |none=>simp only[hg] at h⊢;exact qM h
 |some p=>
  obtain⟨j,want⟩:=p;simp only[hg] at h⊢
  cases hl:CK aF j with
  |none=>simp only[hl] at h;exact h.elim
  |some s=>
   simp only[hl] at h⊢;have htm:(M.st S).tm s=o9 S M.U s:=rfl;rw[htm]
   cases hs:o9 S M.U s with
   |none=>simp only[hs] at h;exact h.elim
   |some t=>
    cases t with
    |undef=>simp only[hs] at h⊢;exact jY h
    |lp a b=>simp only[hs] at h;exact h.elim
    |v x=>
     cases x with
     |bool b=>
      simp only[hs] at h⊢
      have Aj:(M.st S).setT s (.v (.bool b))=M.st S:=by
       unfold St.setT MS.st;congr 1;funext t
       cases ht:Nat.beq t s with
       |false=>rfl
       |true=>simp only[cond_true];rw[Nat.eq_of_beq_eq_true ht,hs]
      cases hk:bD s M.kn with
      |true=>
       simp only[hk] at h;cases want<;>cases b
       ·have:=qM (R:=R) h;rw[←Aj] at this;exact this
       ·have:=jY h;rw[←Aj] at this;exact this
       ·have:=jY h;rw[←Aj] at this;exact this
       ·have:=qM (R:=R) h;rw[←Aj] at this;exact this
      |false=>
       simp only[hk] at h;refine ff ?_ ?_ h
       ·intro h;have:=qM (R:=R) h;have e:MS.st S {M with U:=(s,.v (.bool want))::M.U,kn:=s::M.kn}=(M.st S).setT s (.v (.bool want)):=um;rw[e] at this;exact this
       ·intro h;have:=jY h;have e:MS.st S {M with U:=(s,.v (.bool (!want)))::M.U,kn:=s::M.kn}=(M.st S).setT s (.v (.bool (!want))):=um;rw[e] at this;exact this
     |_=>simp only[hs] at h;exact h.elim
theorem HG (hm:R.le R) {aF:List Oper} {o:Oper} {S:St} {K K':St→Prop} (h:∀S,K S→K' S) (hx:tM E R ann N aF o S K):tM E R ann N aF o S K':=by
 rw[hT] at hx⊢;exact eM hm h hx
theorem yO (hm:R.le R) {aF:List Oper} {K:St→Prop} {S:St}:∀(l:List Oper) {M:MS},(CM E ann N aF l S M).run (fun M'=>K (M'.st S))→so E R ann N aF l (M.st S) K
 |[],M,h=>h
 |o::l,M,h=>by
  unfold CM at h;rw[fN.run_bind] at h;refine Li (K:=fun S'=>so E R ann N aF l S' K) (fN.cE ?_ h);intro M' h';exact yO hm l h'
theorem lH {α:Type} {t:Nat} {m:α} {r:List (Nat×α)}:ab ((t,m)::r) t=some m:=by simp [ab,Nat.beq_refl]
theorem dO {α:Type} {t u:Nat} {m:α} {r:List (Nat×α)} (h:t≠u):ab ((u,m)::r) t=ab r t:=by
 have:Nat.beq t u=false:=by
  cases hb:Nat.beq t u with
  |false=>rfl
  |true=>exact absurd (Nat.eq_of_beq_eq_true hb) h
 simp [ab,this]
def gG {α:Type} (g:Nat→Option α) (A:List (Nat×α)) (t:Nat):Option α:=match ab A t with|some x=>some x|none=>g t
theorem Bq {S:St} {U:List (Nat×T)} {t:Nat}:o9 S U t=gG S.tm U t:=by unfold o9 gG;cases ab U t<;>rfl
theorem Br {S:St} {W:List (Nat×aU)} {t:Nat}:yc S W t=gG S.lo W t:=by unfold yc gG;cases ab W t<;>rfl
theorem wP {α:Type} {g:Nat→Option α} {f:α→α→Option α} {A B:List (Nat×α)}:∀{l:List Nat} {r:List (Nat×α)},oa g f A B l=some r→∀t,ab A t=none→ab B t=none→ab r t=none
 |[],r,h,t,_,_=>by cases h;rfl
 |u::l,r,h,t,ha,hb=>by
  simp only[oa] at h;split at h
  ·cases h
  ·rename_i r' hr';have ih:=wP hr' t ha hb;by_cases htu:t=u
   ·subst htu;rw[ha,hb] at h;cases h;exact ih
   ·split at h
    ·cases h;exact ih
    ·split at h
     ·cases h;rw[dO htu];exact ih
     ·cases h
    ·split at h
     ·split at h
      ·cases h;rw[dO htu];exact ih
      ·cases h
     ·cases h
    ·split at h
     ·split at h
      ·cases h;rw[dO htu];exact ih
      ·cases h
     ·cases h
theorem pQ {α:Type} {g:Nat→Option α} {f:α→α→Option α} {c:Bool} (hf:∀a b m,f a b=some m→m=if c then a else b) {A B:List (Nat×α)}:∀{l:List Nat} {r:List (Nat×α)},oa g f A B l=some r→∀t∈l,gG g r t=if c then gG g A t else gG g B t
 |[],_,_,t,ht=>by cases ht
 |u::l,r,h,t,ht=>by
  simp only[oa] at h;split at h
  ·cases h
  ·rename_i r' hr';have ih:t∈l→gG g r' t=if c then gG g A t else gG g B t:=pQ hf hr' t
   by_cases htu:t=u
   ·subst htu;split at h
    ·rename_i ha hb;cases h;have hk:=wP hr' t ha hb;simp only[gG,ha,hb,hk];cases c<;>rfl
    ·rename_i a b ha hb;split at h
     ·rename_i m hm;cases h;simp only[gG,lH,ha,hb,hf _ _ _ hm];cases c<;>rfl
     ·cases h
    ·rename_i a ha hb;split at h
     ·rename_i b hg;split at h
      ·rename_i m hm;cases h;simp only[gG,lH,ha,hb,hg,hf _ _ _ hm];cases c<;>rfl
      ·cases h
     ·cases h
    ·rename_i b ha hb;split at h
     ·rename_i a hg;split at h
      ·rename_i m hm;cases h;simp only[gG,lH,ha,hb,hg,hf _ _ _ hm];cases c<;>rfl
      ·cases h
     ·cases h
   ·have htl:t∈l:=by simpa [htu] using ht
    have ih:=ih htl;split at h
    ·cases h;exact ih
    ·split at h
     ·cases h;rw[←ih];simp only[gG,dO htu]
     ·cases h
    ·split at h
     ·split at h
      ·cases h;rw[←ih];simp only[gG,dO htu]
      ·cases h
     ·cases h
    ·split at h
     ·split at h
      ·cases h;rw[←ih];simp only[gG,dO htu]
      ·cases h
     ·cases h
theorem HH {c:Bool} {a b m:T} (h:CN c a b=some m):m=if c then a else b:=by
 unfold CN at h;split at h
 ·cases h;rw[KZ];cases c<;>rfl
 ·rename_i s o s' o'
  cases hb:(Nat.beq s s'&&Nat.beq o o') with
  |false=>rw[hb] at h;cases h
  |true=>
   rw[hb] at h;rw[Bool.and_eq_true] at hb;cases h;rw[Nat.eq_of_beq_eq_true hb.1,Nat.eq_of_beq_eq_true hb.2];cases c<;>rfl
 ·cases h;cases c<;>rfl
 ·cases h
theorem HI {c:Bool} {a b m:aU} (h:CO c a b=some m):m=if c then a else b:=by
 unfold CO at h;split at h
 ·rename_i e cs e' cs'
  cases hb:Nat.beq e e' with
  |false=>rw[hb] at h;cases h
  |true=>
   rw[hb,cond_true] at h;split at h
   ·rename_i r hr;cases h;rw[se hr,Nat.eq_of_beq_eq_true hb];cases c<;>rfl
   ·cases h
 ·cases h
theorem iT {n:Nat}:∀{l:List Nat},bD n l=true↔n∈l
 |[]=>by simp [bD]
 |x::l=>by
  simp only[bD,Bool.or_eq_true,List.mem_cons,iT (l:=l)];constructor
  ·rintro(h|h)
   ·exact .inl (Nat.eq_of_beq_eq_true h)
   ·exact .inr h
  ·rintro(h|h)
   ·exact .inl (by rw[h];exact Nat.beq_refl _)
   ·exact .inr h
theorem oC {n:Nat} {l:List Nat} (h:bD n l=false):n∉l:=fun hm=>by rw[iT.2 hm] at h;cases h
def T4 {α:Type} (a b:List Nat) (l:List (Nat×α)):Prop:=∀t,bD t a=false→bD t b=false→ab l t=none
theorem pR {α:Type} {a b:List Nat}:∀{l:List (Nat×α)},od a b l=true→T4 a b l
 |[],_,_,_,_=>rfl
 |(u,x)::l,h,t,ha,hb=>by
  simp only[od,Bool.and_eq_true,Bool.or_eq_true] at h
  have hne:t≠u:=by
   rintro rfl;rcases h.1 with h|h
   ·rw[ha] at h;cases h
   ·rw[hb] at h;cases h
  rw[dO hne];exact pR h.2 t ha hb
theorem lI {α:Type} {g:Nat→Option α} {f:α→α→Option α} {A B:List (Nat×α)}:∀{l:List Nat} {r:List (Nat×α)},oa g f A B l=some r→∀t,bD t l=false→ab r t=none
 |[],r,h,t,_=>by cases h;rfl
 |u::l,r,h,t,ht=>by
  have htu:t≠u:=fun e=>oC ht (by rw[e];exact List.mem_cons_self ..)
  have htl:bD t l=false:=by
   cases hm:bD t l with
   |false=>rfl
   |true=>exact absurd (List.mem_cons_of_mem _ (iT.1 hm)) (oC ht)
  simp only[oa] at h;split at h
  ·cases h
  ·rename_i r' hr';have ih:=lI hr' t htl;split at h
   ·cases h;exact ih
   ·split at h
    ·cases h;rw[dO htu];exact ih
    ·cases h
   ·split at h
    ·split at h
     ·cases h;rw[dO htu];exact ih
     ·cases h
    ·cases h
   ·split at h
    ·split at h
     ·cases h;rw[dO htu];exact ih
     ·cases h
    ·cases h
theorem oD {S:St} {ts ls dT dL:List Nat}:∀{tr:fN MS} {r:Bool} {U:List (Nat×T)} {W:List (Nat×aU)},oW S ts ls dT dL tr=some (r,U,W)→T4 ts dT U∧T4 ls dL W
 | .leaf M,r,U,W,h=>by
   simp only[oW] at h
   cases hk:od ts dT M.U&&od ls dL M.W with
   |false=>rw[hk] at h;cases h
   |true=>
    rw[hk] at h;cases h;rw[Bool.and_eq_true] at hk;exact⟨pR hk.1,pR hk.2⟩
 | .aP,_,_,_,h=>by cases h
 | .ah c x,r,U,W,h=>by
   simp only[oW] at h;split at h
   ·rename_i r' U' W' h';cases h;exact oD h'
   ·cases h
 | .br c x y,r,U,W,h=>by
   simp only[oW] at h;split at h
   ·split at h
    ·rename_i U' W' hU hW;cases h;exact⟨fun t ht _=>lI hU t ht,fun t ht _=>lI hW t ht⟩
    ·cases h
   ·cases h
def Xw (S:St) (dT dL:List Nat) (U:List (Nat×T)) (W:List (Nat×aU)) (M:MS):Prop:=
 (∀t,bD t dT=false→gG S.tm U t=gG S.tm M.U t)∧∀s,bD s dL=false→gG S.lo W s=gG S.lo M.W s
theorem Lj (c r1 r2:Bool):aJ c r1 r2=if c then r1 else r2:=by cases c<;>cases r1<;>cases r2<;>rfl
theorem fC {α:Type} {g:Nat→Option α} {A:List (Nat×α)} {t:Nat} (h:ab A t=none):gG g A t=g t:=by simp [gG,h]
theorem qN {S:St} {ts ls dT dL:List Nat}:∀{tr:fN MS} {r:Bool} {U:List (Nat×T)} {W:List (Nat×aU)},oW S ts ls dT dL tr=some (r,U,W)→r=true→tr.run (Xw S dT dL U W)
 | .leaf M,r,U,W,h,_=>by
   simp only[oW] at h
   cases hk:od ts dT M.U&&od ls dL M.W with
   |false=>rw[hk] at h;cases h
   |true=>rw[hk] at h;cases h;exact⟨fun _ _=>rfl,fun _ _=>rfl⟩
 | .aP,_,_,_,h,_=>by cases h
 | .ah c x,r,U,W,h,hr=>by
   simp only[oW] at h;split at h
   ·rename_i r' U' W' h';cases h;rw[Bool.and_eq_true] at hr;simp only[fN.run,hr.1];exact qN h' hr.2
   ·cases h
 | .br c x y,r,U,W,h,hr=>by
   simp only[oW] at h;split at h
   ·rename_i r1 U1 W1 r2 U2 W2 h1 h2;split at h
    ·rename_i U' W' hU hW;cases h;rw[Lj] at hr;have hu:=pQ (c:=c) (fun _ _ _=>HH) hU;have hw:=pQ (c:=c) (fun _ _ _=>HI) hW;have k1:=oD h1;have k2:=oD h2;have du:=lI hU;have dw:=lI hW
     cases c with
     |true=>
      refine fN.cE ?_ (qN (tr:=x) h1 (by simpa using hr));rintro M ⟨ha,hb⟩;refine⟨fun t ht=> ?_,fun s hs=> ?_⟩
      ·rw[←ha t ht]
       cases hm:bD t ts with
       |true=>simpa using hu t (iT.1 hm)
       |false=>rw[fC (du t hm),fC (k1.1 t hm ht)]
      ·rw[←hb s hs]
       cases hm:bD s ls with
       |true=>simpa using hw s (iT.1 hm)
       |false=>rw[fC (dw s hm),fC (k1.2 s hm hs)]
     |false=>
      refine fN.cE ?_ (qN (tr:=y) h2 (by simpa using hr));rintro M ⟨ha,hb⟩;refine⟨fun t ht=> ?_,fun s hs=> ?_⟩
      ·rw[←ha t ht]
       cases hm:bD t ts with
       |true=>simpa using hu t (iT.1 hm)
       |false=>rw[fC (du t hm),fC (k2.1 t hm ht)]
      ·rw[←hb s hs]
       cases hm:bD s ls with
       |true=>simpa using hw s (iT.1 hm)
       |false=>rw[fC (dw s hm),fC (k2.2 s hm hs)]
    ·cases h
   ·cases h
theorem HJ {dT dL:List Nat} {S S':St} (h1:∀t,bD t dT=false→S.tm t=S'.tm t) (h2:∀t,bD t dL=false→S.lo t=S'.lo t) (h3:S.hp=S'.hp):rz dT dL S=rz dT dL S':=by
 unfold rz;rw[h3];congr 1
 ·funext t
  cases hm:bD t dT with
  |true=>rfl
  |false=>exact h1 t hm
 ·funext t
  cases hm:bD t dL with
  |true=>rfl
  |false=>exact h2 t hm
theorem HK {S:St} {ts ls dT dL:List Nat} {tr:fN MS} {K:St→Prop} (h:pB ts ls dT dL tr S K):tr.run fun M=>K (rz dT dL (M.st S)):=by
 unfold pB at h;split at h
 ·rename_i r U W hm;obtain⟨hr,hn⟩:=aT h;refine fN.cE ?_ (qN hm hr);rintro M ⟨ha,hb⟩
  have:rz dT dL ⟨o9 S U,yc S W,S.hp⟩=rz dT dL (M.st S):=by
   refine HJ (fun t ht=> ?_) (fun t ht=> ?_) rfl
   ·simp only[MS.st,Bq];exact ha t ht
   ·simp only[MS.st,Br];exact hb t ht
  rw[←this];exact hn
 ·exact h.elim
theorem yP (hm:R.le R) {aF:List Oper} {ts ls dT dL:List Nat} {K:St→Prop}:∀(l:List Oper) {S:St},kC E R ann N ts ls dT dL aF l S K→so E R ann N aF l S fun S'=>K (rz dT dL S')
 |[],S,h=>h
 |o::l,S,h=>by
  unfold kC at h;split at h
  ·exact HG hm (fun S'=>yP hm l) h
  ·exact yO (K:=fun S'=>K (rz dT dL S')) hm (o::l) (M:=⟨[],[],[]⟩) (HK h)
end
section
variable {E:kv} {R:mv} {ann:bQ} {N:Nat} {f:FuncId}
def gH (wT wL:List Nat) (S S':St):Prop:=
 (∀t,bD t wT=false→S'.tm t=S.tm t)∧∀s,bD s wL=false→S'.lo s=S.lo s
theorem gH.refl (wT wL:List Nat) (S:St):gH wT wL S S:=⟨fun _ _=>rfl,fun _ _=>rfl⟩
theorem gH.trans {wT wL:List Nat} {S S' G3:St} (h:gH wT wL S S') (k:gH wT wL S' G3):gH wT wL S G3:=
 ⟨fun t ht=>(k.1 t ht).trans (h.1 t ht),fun t ht=>(k.2 t ht).trans (h.2 t ht)⟩
theorem yQ:∀{l m:List Nat} {x:Nat},jv l m=true→x∈l→x∈m
 |y::l,m,x,h,hx=>by
  simp only[jv,Bool.and_eq_true] at h;rcases List.mem_cons.1 hx with rfl|hx
  ·exact iT.1 h.1
  ·exact yQ h.2 hx
theorem fD {l m:List Nat} {x:Nat} (h:jv l m=true) (hx:bD x m=false):bD x l=false:=by
 cases hm:bD x l with
 |false=>rfl
 |true=>exact absurd (yQ h (iT.1 hm)) (oC hx)
variable {wT wL:List Nat}
theorem sJ {S:St} {d:Nat} {x:T} (h:bD d wT=true):gH wT wL S (S.setT d x):=by
 refine⟨fun t ht=> ?_,fun _ _=>rfl⟩
 have:Nat.beq t d=false:=by
  cases hb:Nat.beq t d with
  |false=>rfl
  |true=>rw[Nat.eq_of_beq_eq_true hb,h] at ht;cases ht
 simp [St.setT,this]
theorem yR {S:St} {d:Nat} {x:aU} (h:bD d wL=true):gH wT wL S (S.setL d x):=by
 refine⟨fun _ _=>rfl,fun t ht=> ?_⟩
 have:Nat.beq t d=false:=by
  cases hb:Nat.beq t d with
  |false=>rfl
  |true=>rw[Nat.eq_of_beq_eq_true hb,h] at ht;cases ht
 simp [St.setL,this]
theorem gI {dst:Option Tmp} {x:T} {S:St} {K:St→Prop} (hd:jv dst.toList wT=true) (h:jt ann N dst x S K):jt ann N dst x S fun S'=>K S'∧gH wT wL S S':=by
 cases dst with
 |none=>exact⟨h,.refl ..⟩
 |some d=>
  have hd':bD d wT=true:=by simpa [jv] using hd
  refine bU ?_ h
  cases x with
  |v y=>exact fun h=>⟨h,sJ hd'⟩
  |undef=>exact fun h=>⟨h,sJ hd'⟩
  |lp s off=>
   simp only[]
   cases ab ann.aW d with
   |none=>exact id
   |some s'=>cases hs:Nat.beq s s'<;>simp [hs];exact fun h=>⟨h,sJ hd'⟩
theorem wQ {d s:Nat}:∀{l:List (Nat×Nat)} {t:Nat},ab l t=some s→s=d→t∈kN d l
 |(u,v)::l,t,h,hs=>by
  simp only[ab] at h;simp only[kN]
  cases hb:Nat.beq t u with
  |true=>
   rw[hb] at h;cases h;rw[hs,Nat.beq_refl,cond_true,Nat.eq_of_beq_eq_true hb];exact List.mem_cons_self ..
  |false=>
   rw[hb] at h;have:=wQ h hs
   cases Nat.beq v d with
   |true=>exact List.mem_cons_of_mem _ this
   |false=>exact this
theorem HL {S:St} {d:Nat} (h:jv (kN d ann.aW) wT=true):gH wT wL S (sl ann d S):=by
 refine⟨fun t ht=> ?_,fun _ _=>rfl⟩;simp only[sl];split
 ·rename_i s hs
  cases hb:Nat.beq s d with
  |false=>rfl
  |true=>exact absurd (yQ h (wQ hs (Nat.eq_of_beq_eq_true hb))) (oC ht)
 ·rfl
theorem wR (hm:R.le R) {o:Oper} {S:St} {K:St→Prop} (hw:K4 E ann wT wL o=true) (h:jk E R ann N o S K):jk E R ann N o S fun S'=>K S'∧gH wT wL S S':=by
 simp only[K4,Bool.and_eq_true] at hw;obtain⟨⟨hd,hk⟩,hl⟩:=hw;unfold jk at h⊢
 cases hc:Hq E ann o with
 |pure=>
  simp only[hc] at h⊢;split at h
  ·exact fR.cE (fun x=>gI hd) h
  ·exact h
 |oV s=>
  simp only[hc] at h⊢;split at h
  ·exact fR.cE (fun x=>gI hd) h
  ·exact h
 |iN s=>
  simp only[hc] at h hl⊢;split at h
  ·refine fR.cE (fun x hx=> ?_) h;refine eW ?_ (gI (wT:=wT) (wL:=wL) hd hx);rintro S' ⟨h1,h2⟩;exact⟨h1,(yR hl).trans h2⟩
  ·exact h
 |tK=>
  simp only[hc] at h hl⊢;split at h
  ·rename_i d r L xA _;refine bU (fun hx=> ?_) h;have hd':bD d wL=true:=by simpa [jv,xA] using hl
   have hk':jv (kN d ann.aW) wT=true:=by simpa [CP,xA] using hk
   refine eW ?_ (gI (wT:=wT) (wL:=wL) (by simpa [xA] using hd) hx);rintro S' ⟨h1,h2⟩;exact⟨h1,((HL hk').trans (yR hd')).trans h2⟩
  ·exact h
 |kJ=>
  simp only[hc] at h⊢;split at h
  ·exact fR.cE (fun x=>gI hd) h
  ·exact h
 |tL=>simp only[hc] at hl;cases hl
 |dz=>
  simp only[hc] at h⊢;refine jM hm (fun x H' hx=> ?_) h;refine eW ?_ (gI (wT:=wT) (wL:=wL) hd hx);rintro S' ⟨h1,h2⟩;exact⟨h1,h2⟩
theorem pS (hm:R.le R) {aF:List Oper} {o:Oper} {S:St} {K:St→Prop} (hw:K4 E ann wT wL o=true) (h:dj E R ann N aF o S K):dj E R ann N aF o S fun S'=>K S'∧gH wT wL S S':=by
 have hd:jv o.dst.toList wT=true:=by
  simp only[K4,Bool.and_eq_true] at hw;exact hw.1.1
 unfold dj at h⊢;split at h
 ·exact wR hm hw h
 ·split at h
  ·exact ff (wR hm hw) (gI hd) h
  ·exact gI hd h
  ·exact h
theorem uo (hm:R.le R) {aF:List Oper}:∀(l:List Oper) {S:St} {K:St→Prop},jw E ann wT wL l=true→lz E R ann N aF l S K→lz E R ann N aF l S fun S'=>K S'∧gH wT wL S S'
 |[],S,K,_,h=>⟨h,.refl ..⟩
 |o::l,S,K,hw,h=>by
  simp only[jw,Bool.and_eq_true] at hw;refine eM hm ?_ (pS hm hw.1 h);rintro S' ⟨h1,h2⟩;refine pD hm l ?_ (uo hm l hw.2 h1);rintro G3 ⟨h3,h4⟩;exact⟨h3,h2.trans h4⟩
theorem HM {l:List Oper}:jw E ann wT wL l=true→∀o∈l,K4 E ann wT wL o=true:=by
 induction l with
 |nil=>intro _ p hp;cases hp
 |cons o l ih=>
  intro h p hp;rw[jw,Bool.and_eq_true] at h;rcases List.mem_cons.1 hp with rfl|hp
  ·exact h.1
  ·exact ih h.2 p hp
theorem ur (hm:R.le R) {aF:List Oper} {i:Nat} {S:St} {K K':St→Prop} (h:∀S,K S→K' S) (hx:fS E R ann N aF i S K):fS E R ann N aF i S K':=by
 unfold fS at hx⊢;split at hx
 ·rw[hT] at hx⊢;exact eM hm h hx
 ·exact hx
theorem Dp (hm:R.le R) {aF:List Oper} (hw:jw E ann wT wL aF=true) {i:Nat} {S:St} {K:St→Prop} (h:fS E R ann N aF i S K):fS E R ann N aF i S fun S'=>K S'∧gH wT wL S S':=by
 unfold fS at h⊢;split at h
 ·rename_i o ho;rw[hT] at h⊢;exact pS hm (HM hw o (List.mem_of_getElem? ho)) h
 ·exact h
theorem kP (hm:R.le R) {aF:List Oper} (hw:jw E ann wT wL aF=true):∀(t:rL) {S:St} {K:St→Prop},il (fS E R ann N aF) t S K→il (fS E R ann N aF) t S fun S'=>K S'∧gH wT wL S S'
 | .nil,S,K,h=>⟨h,.refl ..⟩
 | .aP,S,K,h=>h
 | .one i r,S,K,h=>by
   have h:fS E R ann N aF i S (fun S'=>il (fS E R ann N aF) r S' K):=h;show fS E R ann N aF i S (fun S'=>il (fS E R ann N aF) r S' _)
   refine ur hm ?_ (Dp hm hw h);rintro S' ⟨h1,h2⟩;refine jS (st:=fS E R ann N aF) (st':=fS E R ann N aF) (fun i S K K' h hx=>ur hm h hx) r ?_ (kP hm hw r h1);rintro G3 ⟨h3,h4⟩;exact⟨h3,h2.trans h4⟩
 | .Nf a b,S,K,h=>⟨kP hm hw a h.1,kP hm hw b h.2⟩
theorem mU (hm:R.le R) {aF:List Oper} {draw:Bool} {S:St} {K:St→Prop} (hw:jw E ann wT wL aF=true) (h:gR E R ann N aF draw S K):gR E R ann N aF draw S fun S'=>K S'∧gH wT wL S S':=by
 unfold gR at h⊢;revert h;split
 ·simp only[kY];exact uo hm _ hw
 ·exact bU (kP hm hw _)
theorem Bs {S:St} {dT dL:List Nat} (h1:jv dT wT=true) (h2:jv dL wL=true):gH wT wL S (rz dT dL S):=
 ⟨fun t ht=>by simp [rz,fD h1 ht],fun t ht=>by simp [rz,fD h2 ht]⟩
theorem uu (hm:R.le R) {aF:List Oper} {ts ls dT dL:List Nat} (h1:jv ts wT=true) (h2:jv ls wL=true) (h3:jv dT wT=true) (h4:jv dL wL=true) {K:St→Prop}:∀(l:List Oper) {S:St},jw E ann wT wL l=true→kC E R ann N ts ls dT dL aF l S K→kC E R ann N ts ls dT dL aF l S fun S'=>K S'∧gH wT wL S S'
 |[],S,_,h=>⟨h,Bs h3 h4⟩
 |o::l,S,hw,h=>by
  simp only[jw,Bool.and_eq_true] at hw;unfold kC at h⊢;split at h
  ·rw[hT] at h⊢;refine eM hm ?_ (pS hm hw.1 h);rintro S' ⟨h5,h6⟩;refine pE hm ?_ l (uu hm h1 h2 h3 h4 l hw.2 h5);rintro G3 ⟨h7,h8⟩;exact⟨h7,h6.trans h8⟩
  ·unfold pB at h⊢;split at h
   ·rename_i r U W Qq;refine bU (fun hk=>⟨hk, ?_⟩) h;obtain⟨k1,k2⟩:=oD Qq;refine gH.trans ?_ (Bs h3 h4);refine⟨fun t ht=> ?_,fun t ht=> ?_⟩
    ·change o9 S U t=S.tm t
     rw[Bq,fC (k1 t (fD h1 ht) (fD h3 ht))]
    ·change yc S W t=S.lo t
     rw[Br,fC (k2 t (fD h2 ht) (fD h4 ht))]
   ·exact h
theorem yS {S:St}:∀{l:List (Nat×KT)} {t:Nat},bD t (pC l)=false→ab (lB S l).2 t=none
 |[],_,_=>rfl
 |(u,k)::l,t,h=>by
  simp only[pC,bD,Bool.or_eq_false_iff] at h;simp only[lB,ab,h.1,cond_false];exact yS h.2
theorem yT {S:St}:∀{l:List (Nat×TypeId×List cq)} {t:Nat},bD t (pC l)=false→ab (lC S l).2 t=none
 |[],_,_=>rfl
 |(u,e,ks)::l,t,h=>by
  simp only[pC,bD,Bool.or_eq_false_iff] at h;simp only[lC,ab,h.1,cond_false];exact yT h.2
theorem pT {ok:js→Bool} {kp:Option js} {S:St} {A:(Ex→St→Prop)→Prop} {K:Ex→St→Prop} (hj:Ng wT wL kp=true) (hA:∀K:Ex→St→Prop,A K→A fun e S'=>K e S'∧gH wT wL S S') (hm:∀K K':Ex→St→Prop,(∀e S,K e S→K' e S)→A K→A K') (h:mw ok kp S A K):mw ok kp S A fun e S'=>K e S'∧gH wT wL S S':=by
 unfold mw at h⊢
 cases kp with
 |none=>exact hA _ h
 |some kp=>
  simp only[Ng,T1,Bool.and_eq_true] at hj;obtain⟨SC,⟨⟨h1,h2⟩,h3⟩,h4⟩:=hj;simp only[SC] at h⊢;refine bU (fun h=> ?_) h;unfold EZ cy at h⊢;refine hm _ _ ?_ (hA _ h);rintro e S' ⟨hk,ha⟩
  cases e with
  |exit id=>exact⟨hk,ha⟩
  |ret=>exact⟨hk,ha⟩
  |normal=>
   refine im (fun S1 hk=>bU (fun hk=>⟨hk, ?_⟩) hk) hk;refine⟨fun t ht=> ?_,fun t ht=> ?_⟩
   ·simp only[over,yS (fD h3 ht),fD h1 ht,cond_false]
   ·simp only[over,yT (fD h4 ht),fD h2 ht,cond_false]
theorem sK (hm:R.le R):∀(c:Code) (n:Nat) (S:St) (K:Ex→St→Prop),CR E ann wT wL c n=true→gr E R f ann N c n S K→gr E R f ann N c n S fun e S'=>K e S'∧gH wT wL S S':=by
 intro c
 induction c with
 |skip=>intro n S K _ hx;exact⟨hx,.refl ..⟩
 |exit id=>intro n S K _ hx;exact⟨hx,.refl ..⟩
 |ret=>intro n S K _ hx;exact⟨hx,.refl ..⟩
 |seq a b iha ihb=>
  intro n S K hw hx;simp only[CR,Bool.and_eq_true] at hw;refine gS hm a _ _ _ _ ?_ (iha n S _ hw.1 hx);rintro e S' ⟨hk,ha⟩
  cases e with
  |exit id=>exact⟨hk,ha⟩
  |ret=>exact⟨hk,ha⟩
  |normal=>
   refine gS hm b _ _ _ _ ?_ (ihb _ S' _ hw.2 hk);rintro e G3 ⟨hk,hb⟩;exact⟨hk,ha.trans hb⟩
 |cond c x y ihx ihy=>
  intro n S K hw hx;simp only[CR,Bool.and_eq_true] at hw;simp only[gr] at hx⊢;split at hx
  ·refine pT hw.1 ?_ ?_ hx
   ·intro K h;exact ff (ihx _ _ _ hw.2.1) (ihy _ _ _ hw.2.2) h
   ·intro K K' h;exact ff (gS hm x _ _ _ _ h) (gS hm y _ _ _ _ h)
  ·exact hx
 |block id b ih=>
  intro n S K hw hx;simp only[CR,Bool.and_eq_true] at hw;simp only[gr] at hx⊢;refine pT hw.1 ?_ ?_ hx
  ·intro K h;refine gS hm b _ _ _ _ ?_ (ih _ _ _ hw.2 h);rintro e S' ⟨hk,ha⟩
   cases e with
   |normal=>exact⟨hk,ha⟩
   |ret=>exact⟨hk,ha⟩
   |exit j=>exact ff (fun h=>⟨h,ha⟩) (fun h=>⟨h,ha⟩) hk
  ·intro K K' h;refine gS hm b _ _ _ _ ?_;intro e S'
   cases e with
   |normal=>exact h _ _
   |ret=>exact h _ _
   |exit j=>exact ff (h _ _) (h _ _)
 |region id aF draw=>
  intro n S K hw hx;simp only[CR,Bool.and_eq_true] at hw;simp only[gr] at hx⊢;revert hx
  cases hkp:sr ann n with
  |none=>exact mU hm hw.1
  |some kp=>
   simp only[hkp] at hw⊢
   cases Qq:kp.mg with
   |true=>
    simp only[Qq,Bool.and_eq_true] at hw⊢;exact bU (uu hm hw.2.1.1.1 hw.2.1.1.2 hw.2.1.2 hw.2.2 _ hw.1)
   |false=>
    simp only[Qq] at hw⊢;refine pT (by simp only[Ng];exact hw.2) ?_ ?_
    ·intro K h;exact mU hm hw.1 h
    ·intro K K' h;exact oi hm (h _)
 |loop c ih=>intro n S K hw;simp [CR] at hw
 |rangeFunc=>intro n S K hw;simp [CR] at hw
 |scope b ih=>intro n S K hw h;simp only[CR] at hw;simp only[gr] at h⊢;exact ih _ _ _ hw h
 |label=>intro n S K hw h;simp only[gr] at h⊢;exact⟨h,.refl ..⟩
 |goto=>intro n S K hw;simp [CR] at hw
 |refuse=>intro n S K hw;simp [CR] at hw
end
section
variable {E:kv} {H0:ag} {ρ0:dC} {w0:World} {ann:bQ} {N:Nat} {ρ lam:dC} {S:St} {a:Act} {w:World} {R:mv}
def yU (aF:Array Oper) (listed:Array Bool):Prop:=
 ∀i o,aF[i]? =some o→listed.getD i false=true→∀e∈o.after.toList,Region.binds .any e=true→listed.getD e.on false=true
theorem pU {aF:Array Oper} {listed:Array Bool} (wx:yU aF listed) (TM:og aF.toList 0=true):∀(i:Nat) (o:Oper) (b:List Nat),aF[i]? =some o→(iP aF.toList [])[i]? =some b→(∀e∈o.after.toList,Region.binds .any e=true→listed.getD e.on false=true)→∀j∈b,listed.getD j false=true:=by
 intro i
 induction i using Nat.strongRecOn with
 |_ i ih=>
  intro o b ho hb hl j hj;rcases uj aF.toList [] i b hb with⟨h,_⟩|⟨q,h1,_,h3⟩
  ·simp at h
  ·have hq:q=o:=by simp only[List.length_nil,Nat.sub_zero] at h1;rw[Array.getElem?_toList,ho] at h1;exact(Option.some.inj h1).symm
   subst hq;obtain⟨e,he,Qr,hj⟩:=h3 j hj;rcases hj with rfl|⟨hlt,b',hb',hj⟩
   ·exact hl e he Qr
   ·have M4:=hl e he Qr
    have hin:e.on<aF.size:=by
     rcases Nat.lt_or_ge e.on aF.size with h|h
     ·exact h
     ·have:=(Array.getElem?_eq_some_iff.1 ho).1;omega
    exact ih e.on hlt aF[e.on] b' (Array.getElem?_eq_getElem hin) hb' (wx e.on _ (Array.getElem?_eq_getElem hin) M4) j hj
theorem qO {listed:Array Bool} {i:Nat} (h:i<listed.size):listed.getD i true=listed.getD i false:=by simp [Array.getD,h]
theorem HN (hR:nv E R) {aF:Array Oper} {Q:Exit→Act→World→Prop} {K:St→Prop} (hok:ye E ann aF.toList=true) (hq:∀S' ρ' dI a' w',SR H0 ρ0 w0 ann N ρ' dI S' a' w'→K S'→Q .normal a' w'):∀(fuel:Nat) (listed:Array Bool) {S:St} {ρ lam:dC} {a:Act} {w:World},listed.size=aF.size→yU aF listed→(jX aF.size listed).length≤fuel→gZ E R ann N aF (jX aF.size listed) S K→SR H0 ρ0 w0 ann N ρ lam S a w→wpAny E.P .any aF Q fuel listed a w:=by
 rw[ye,Bool.and_eq_true] at hok;obtain⟨TM,SD⟩:=hok
 have hin:∀{listed:Array Bool} {i:Nat},listed.size=aF.size→i∈Region.ready .any aF listed→i<aF.size∧listed.getD i false=false:=by
  intro listed i hs hi;obtain⟨h0,o,ho,_⟩:=mem_ready.1 hi;have hlt:=(Array.getElem?_eq_some_iff.1 ho).1;exact⟨hlt,by rw[←qO (by omega)];exact h0⟩
 have hmem:∀{listed:Array Bool} {i:Nat},i<aF.size→listed.getD i false=false→i∈jX aF.size listed:=by
  intro listed i h1 h2;unfold jX;rw[List.mem_filter,List.mem_range];exact⟨h1,by rw[h2];rfl⟩
 intro fuel
 induction fuel with
 |zero=>
  intro listed S ρ lam a w hs wx hlen hk h;have EF:jX aF.size listed=[]:=List.eq_nil_of_length_eq_zero (by omega);rw[EF] at hk;refine⟨?_,hq _ _ _ _ _ h hk⟩
  cases hr:Region.ready .any aF listed with
  |nil=>rfl
  |cons i l=>
   obtain⟨h1,h2⟩:=hin hs (hr▸List.mem_cons_self .. :i∈Region.ready .any aF listed);have:=hmem h1 h2;rw[EF] at this;cases this
 |succ fuel ih=>
  intro listed S ρ lam a w hs wx hlen hk h;refine⟨fun hnone=> ?_,fun i hi=> ?_⟩
  ·have hall:∀i,i<aF.size→listed.getD i false=true:=by
    intro i
    induction i using Nat.strongRecOn with
    |_ i ihi=>
     intro hi;cases hl:listed.getD i false
     ·exfalso
      have:i∈Region.ready .any aF listed:=by
       refine mem_ready.2 ⟨by rw[qO (by omega)];exact hl,aF[i],Array.getElem?_eq_getElem hi,fun e he hb=> ?_⟩;have hlt:=oB TM i aF[i] (by rw[Array.getElem?_toList,Array.getElem?_eq_getElem hi]) e (Array.mem_toList_iff.2 he) hb;exact ihi e.on (by omega) (by omega)
      rw[hnone] at this;cases this
     ·rfl
   have EF:jX aF.size listed=[]:=by
    unfold jX;rw[List.filter_eq_nil_iff];intro i hi;rw[hall i (List.mem_range.1 hi)];simp
   rw[EF] at hk;exact hq _ _ _ _ _ h hk
  ·obtain⟨h1,h2⟩:=hin hs hi;obtain⟨_,o,ho,Ak⟩:=mem_ready.1 hi
   have Wv:yU aF (listed.setIfInBounds i true):=by
    intro j p hp hj e he hb;by_cases hji:i=j
    ·subst hji;rw[ho] at hp;cases hp;exact getD_set_true (Ak e (Array.mem_toList_iff.1 he) hb)
    ·rw[getD_set_ne false hji] at hj;exact getD_set_true (wx j p hp hj e he hb)
   obtain⟨pre,post,e1,e2,h3,h4⟩:=uk (p:=fun j=> !listed.getD j false) (q:=fun j=> !(listed.setIfInBounds i true).getD j false) (i:=i)
    (fun j hj=>by rw[getD_set_ne false (fun e=>hj e.symm)]) (by simp only[h2];rfl) (by simp [Array.getD,hs,h1]) (List.range aF.size) (List.mem_range.2 h1) List.nodup_range
   have hk':gZ E R ann N aF (pre++i::post) S K:=by
    have:jX aF.size listed=pre++i::post:=e1;rw[←this];exact hk
   have hstep:=uh hR ho pre post (by
    intro j hj p hp;obtain⟨hj1,hj2,hj3⟩:=h3 j hj;have hlt:=h4 List.pairwise_lt_range j hj;have hf:(aF.toList.map (cY E ann aF.toList))[i]? =some (cY E ann aF.toList o):=by rw[List.getElem?_map,Array.getElem?_toList,ho];rfl
    have ML:=pP SD i _ hf;rw[Nat.zero_add] at ML;obtain⟨g,b,hg,hb,Tx⟩:=ui ML j hlt;have hg':g=cY E ann aF.toList p:=by rw[List.getElem?_map,Array.getElem?_toList,hp] at hg;exact(Option.some.inj hg).symm
    subst hg';rcases Tx with Tx|Tx
    ·have:=pU wx TM i o b ho hb (fun e he Qr=>Ak e (Array.mem_toList_iff.1 he) Qr) j Tx;simp only[this] at hj2;cases hj2
    ·exact Tx) hk'
   refine pM hR.ext hR.call hR.body h ho hstep ?_;intro S' ρ' dI a' w' h' hk2;have e3:jX aF.size (listed.setIfInBounds i true)=pre++post:=e2;refine ih _ (by simp [hs]) Wv ?_ (by rw[e3];exact hk2) h';have QK:jX aF.size listed=pre++i::post:=e1;rw[QK] at hlen;rw[e3];simp at hlen⊢;omega
end
theorem yV:∀{l m:List Nat},jl l m=true→∃x,x∈l∧x∈m
 |y::l,m,h=>by
  rw[jl,Bool.or_eq_true] at h;rcases h with h|h
  ·exact⟨y,List.mem_cons_self ..,jx.1 h⟩
  ·obtain⟨x,hx1,vm⟩:=yV h;exact⟨x,List.mem_cons_of_mem _ hx1,vm⟩
theorem mC (n:Nat):∀l,ju n l=l.filter (fun x=> !decide (x=n))
 |[]=>rfl
 |x::l=>by
  rw[ju,aX,mC n l];by_cases h:n=x
  ·subst h;simp
  ·have:¬x=n:=fun e=>h e.symm
   simp [h,this]
theorem ny {n j:Nat} {l:List Nat}:j∈ju n l↔j∈l∧j≠n:=by
 rw[mC,List.mem_filter];simp
theorem Bt (i j:Nat) (l:List Nat):ju i (ju j l)=ju j (ju i l):=by
 rw[mC,mC,mC,mC,List.filter_filter,List.filter_filter];congr 1;funext x;rw[Bool.and_comm]
theorem pV {n:Nat} {l:List Nat} (h:n∈l):(ju n l).length<l.length:=by
 rw[mC];have:=List.length_filter_lt_length_iff_exists (p:=fun x=> !decide (x=n)) (l:=l);exact this.2 ⟨n,h,by simp⟩
section
variable {fs:List jR} {bs:List (List Nat)}
theorem pW {rem:List Nat} {i:Nat}:gz bs rem i=true↔∀x∈nk bs i,x∉rem:=by
 unfold gz;rw[Bool.not_eq_true'];constructor
 ·exact fun h x hx=>fP h x hx
 ·intro h;cases hm:jl (nk bs i) rem
  ·rfl
  ·obtain⟨x,h1,h2⟩:=yV hm;exact absurd h2 (h x h1)
theorem qP {rem:List Nat} {i j:Nat} (h:gz bs rem j=true):gz bs (ju i rem) j=true:=by
 rw[pW] at h⊢;exact fun x hx hm=>h x hx (ny.1 hm).1
theorem mV {i:Nat} {f:jR}:∀{rem:List Nat},dW fs bs i f rem=true↔∀j∈rem,i=j∨i∈nk bs j∨∃g,fs[j]? =some g∧gy g f=true∧gy f g=true
 |[]=>by simp [dW]
 |j::l=>by
  rw[dW,Bool.and_eq_true,mV];simp only[List.forall_mem_cons];refine and_congr ?_ Iff.rfl;simp only[Bool.or_eq_true,aX,decide_eq_true_eq,jx,or_assoc];refine or_congr Iff.rfl (or_congr Iff.rfl ?_)
  cases fs[j]? with
  |none=>simp
  |some g=>simp
theorem rW {i j:Nat} {f:jR} {rem:List Nat} (h:dW fs bs i f rem=true):dW fs bs i f (ju j rem)=true:=by
 rw[mV] at h⊢;exact fun k hk=>h k (ny.1 hk).1
theorem qQ {rem:List Nat} {i:Nat}:∀{l:List Nat},oh fs bs rem l=some i→i∈l∧gz bs rem i=true∧∃f,fs[i]? =some f∧dW fs bs i f rem=true
 |x::l,h=>by
  rw[oh] at h;split at h
  ·rename_i f hr hf
   cases hc:dW fs bs x f rem with
   |true=>
    rw[hc] at h;simp only[cond_true,Option.some.injEq] at h;subst h;exact⟨List.mem_cons_self ..,hr,f,hf,hc⟩
   |false=>
    rw[hc] at h;obtain⟨h1,h2⟩:=qQ h;exact⟨List.mem_cons_of_mem _ h1,h2⟩
  ·obtain⟨h1,h2⟩:=qQ h;exact⟨List.mem_cons_of_mem _ h1,h2⟩
theorem vF {rem:List Nat}:∀{l:List Nat},oh fs bs rem l=none→∀i∈l,gz bs rem i=true→∀f,fs[i]? =some f→dW fs bs i f rem=false
 |x::l,h,i,hi,hr,f,hf=>by
  rw[oh] at h;rcases List.mem_cons.1 hi with rfl|hi
  ·rw[hr,hf] at h;simp only[] at h
   cases hc:dW fs bs i f rem with
   |true=>rw[hc] at h;cases h
   |false=>rfl
  ·split at h
   ·rename_i g _ _
    cases hc:dW fs bs x g rem with
    |true=>rw[hc] at h;cases h
    |false=>rw[hc] at h;exact vF h i hi hr f hf
   ·exact vF h i hi hr f hf
theorem Fu {step:Nat→St→(St→Prop)→Prop} {g:Nat→rL} {S:St} {K:St→Prop}:∀{l:List Nat},il step (QS g l) S K→∀i∈l,step i S fun S'=>il step (g i) S' K
 |[x],h,i,hi=>by
  rw[List.mem_singleton] at hi;subst hi;exact h
 |x::y::l,h,i,hi=>by
  obtain⟨h1,h2⟩:=h;rcases List.mem_cons.1 hi with rfl|hi
  ·exact h1
  ·exact Fu h2 i hi
theorem pX {rem:List Nat} {i:Nat} (hr:gz bs rem i=true):∀{l:List Nat},i∈l→i∈qG bs rem l
 |x::l,h=>by
  rw[qG];rcases List.mem_cons.1 h with rfl|h
  ·rw[hr];exact List.mem_cons_self ..
  ·cases gz bs rem x
   ·exact pX hr h
   ·exact List.mem_cons_of_mem _ (pX hr h)
end
section
variable {E:kv} {H0:ag} {ρ0:dC} {w0:World} {ann:bQ} {N:Nat} {ρ lam:dC} {S:St} {a:Act} {w:World} {R:mv}
def iD (E:kv) (R:mv) (ann:bQ) (N:Nat) (aF:Array Oper) (i:Nat) (S:St) (K:St→Prop):Prop:=
 match aF[i]? with
 |some o=>dj E R ann N aF.toList o S K
 |none=>False
theorem oE (hm:R.le R) {aF:Array Oper} {i:Nat} {S:St} {K K':St→Prop} (h:∀S,K S→K' S) (hk:iD E R ann N aF i S K):iD E R ann N aF i S K':=by
 unfold iD at hk⊢;split at hk
 ·exact eM hm h hk
 ·exact hk
abbrev yW (E:kv) (ann:bQ) (aF:Array Oper):List jR:=aF.toList.map (cY E ann aF.toList)
abbrev xn (aF:Array Oper):List (List Nat):=iP aF.toList []
def AP (E:kv) (R:mv) (ann:bQ) (N:Nat) (aF:Array Oper) (n:Nat) (rem:List Nat) (S:St) (K:St→Prop):Prop:=
 il (iD E R ann N aF) (Bf (yW E ann aF) (xn aF) n rem) S K
theorem SZ (hR:nv E R) {aF:Array Oper} {i j:Nat} {S:St} {K:St→Prop} {f g:jR} (hi:(yW E ann aF)[i]? =some f) (hj:(yW E ann aF)[j]? =some g) (ha:gy f g=true) (h:iD E R ann N aF i S fun S'=>iD E R ann N aF j S' K):iD E R ann N aF j S fun S'=>iD E R ann N aF i S' K:=by
 simp only[yW,List.getElem?_map,Array.getElem?_toList,Option.map_eq_some_iff] at hi hj;obtain⟨p,hp,rfl⟩:=hi;obtain⟨q,hq,rfl⟩:=hj;simp only[iD,hp,hq] at h⊢;exact yo hR.mono hR.vp ha h
theorem aa4 (hR:nv E R) {aF:Array Oper}:∀(n:Nat),(∀(rem:List Nat) (j:Nat) (S:St) (K:St→Prop),rem.length≤n→j∈rem→j<aF.size→gz (xn aF) rem j=true→AP E R ann N aF n rem S K→iD E R ann N aF j S fun S'=>AP E R ann N aF (n-1) (ju j rem) S' K)∧(∀(rem:List Nat) (i:Nat) (f:jR) (S:St) (K:St→Prop),rem.length≤n→i∈rem→(yW E ann aF)[i]? =some f→gz (xn aF) rem i=true→dW (yW E ann aF) (xn aF) i f rem=true→(iD E R ann N aF i S fun S'=>AP E R ann N aF (n-1) (ju i rem) S' K)→AP E R ann N aF n rem S K):=by
 intro n
 induction n with
 |zero=>
  refine⟨fun rem j S K hl hj=> ?_,fun rem i f S K hl hi=> ?_⟩
  ·have:=List.eq_nil_of_length_eq_zero (l:=rem) (by omega);subst this;cases hj
  ·have:=List.eq_nil_of_length_eq_zero (l:=rem) (by omega);subst this;cases hi
 |succ m ih=>
  obtain⟨ihE,ihB⟩:=ih
  have TN:∀(rem:List Nat) (S:St) (K:St→Prop) (j:Nat),j∈rem→AP E R ann N aF (m+1) rem S K=
   (match oh (yW E ann aF) (xn aF) rem rem with
   |some i=>iD E R ann N aF i S fun S'=>AP E R ann N aF m (ju i rem) S' K
   |none=>il (iD E R ann N aF) (QS (fun i=>Bf (yW E ann aF) (xn aF) m (ju i rem)) (qG (xn aF) rem rem)) S K):=by
   intro rem S K j hj
   cases rem with
   |nil=>cases hj
   |cons x l=>
    simp only[AP,Bf];cases oh (yW E ann aF) (xn aF) (x::l) (x::l)<;>rfl
  have app:∀{rem:List Nat} {i j:Nat} {f:jR},i≠j→i∈rem→j∈rem→gz (xn aF) rem j=true→dW (yW E ann aF) (xn aF) i f rem=true→
   ∃g,(yW E ann aF)[j]? =some g∧gy g f=true∧gy f g=true:=by
   intro rem i j f hne hi hj hr hc;rcases (mV.1 hc) j hj with h|h|h
   ·exact absurd h hne
   ·exact absurd hi (pW.1 hr i h)
   ·exact h
  refine⟨?_, ?_⟩
  ·intro rem j S K hl hj hjs hr hk;rw[TN rem S K j hj] at hk;rw[Nat.add_sub_cancel];split at hk
   ·rename_i i hp;obtain⟨hi,hri,f,hf,hc⟩:=qQ hp;by_cases hij:i=j
    ·subst hij;exact hk
    ·obtain⟨g,hg,MM,ha2⟩:=app hij hi hj hr hc;have hli:=pV hi;have hlj:=pV hj;have hjd:j∈ju i rem:=ny.2 ⟨hj,fun e=>hij e.symm⟩;have hid:i∈ju j rem:=ny.2 ⟨hi,hij⟩
     have h1:iD E R ann N aF i S fun S1=>iD E R ann N aF j S1 fun S2=>AP E R ann N aF (m-1) (ju j (ju i rem)) S2 K:=
      oE hR.mono (fun S1 h=>ihE _ j S1 K (by omega) hjd hjs (qP hr) h) hk
     have h2:=SZ hR hf hg ha2 h1;refine oE hR.mono (fun S1 h=> ?_) h2;refine ihB _ i f S1 K (by omega) hid hf (qP hri) (rW hc) ?_;rw[Bt];exact h
   ·exact Fu hk j (pX hr hj)
  ·intro rem i f S K hl hi hf hri hc hk;rw[TN rem S K i hi];rw[Nat.add_sub_cancel] at hk;split
   ·rename_i k hp;obtain⟨hkm,Xh,f',hf',tq⟩:=qQ hp;by_cases hki:k=i
    ·subst hki;exact hk
    ·obtain⟨g,hg,MM,ha2⟩:=app hki hkm hi hri tq;rw[hf] at hg;cases hg;have hli:=pV hi;have hlk:=pV hkm;have hkd:k∈ju i rem:=ny.2 ⟨hkm,hki⟩;have hid:i∈ju k rem:=ny.2 ⟨hi,fun e=>hki e.symm⟩
     have hks:k<aF.size:=by
      have:=(List.getElem?_eq_some_iff.1 hf').1;simpa using this
     have h1:iD E R ann N aF i S fun S1=>iD E R ann N aF k S1 fun S2=>AP E R ann N aF (m-1) (ju k (ju i rem)) S2 K:=
      oE hR.mono (fun S1 h=>ihE _ k S1 K (by omega) hkd hks (qP Xh) h) hk
     have h2:=SZ hR hf hf' MM h1;refine oE hR.mono (fun S1 h=> ?_) h2;refine ihB _ i f S1 K (by omega) hid hf (qP hri) (rW hc) ?_;rw[Bt];exact h
   ·rename_i hp;have:=vF hp i hi hri f hf;rw[hc] at this;cases this
theorem Ny {n:Nat} {listed:Array Bool} {i:Nat} (hi:i<listed.size):jX n (listed.setIfInBounds i true)=ju i (jX n listed):=by
 rw[mC];unfold jX;rw[List.filter_filter];apply List.filter_congr;intro j _;by_cases h:i=j
 ·subst h;simp [Array.getD,hi]
 ·have:¬j=i:=fun e=>h e.symm
  rw[getD_set_ne false h];simp [this]
theorem Fv (hR:nv E R) {aF:Array Oper} {Q:Exit→Act→World→Prop} {K:St→Prop} (TM:og aF.toList 0=true) (hq:∀S' ρ' dI a' w',SR H0 ρ0 w0 ann N ρ' dI S' a' w'→K S'→Q .normal a' w'):∀(fuel:Nat) (listed:Array Bool) {S:St} {ρ lam:dC} {a:Act} {w:World},listed.size=aF.size→yU aF listed→(jX aF.size listed).length≤fuel→AP E R ann N aF fuel (jX aF.size listed) S K→SR H0 ρ0 w0 ann N ρ lam S a w→wpAny E.P .any aF Q fuel listed a w:=by
 have hin:∀{listed:Array Bool} {i:Nat},listed.size=aF.size→i∈Region.ready .any aF listed→i<aF.size∧listed.getD i false=false:=by
  intro listed i hs hi;obtain⟨h0,o,ho,_⟩:=mem_ready.1 hi;have hlt:=(Array.getElem?_eq_some_iff.1 ho).1;exact⟨hlt,by rw[←qO (by omega)];exact h0⟩
 have hmem:∀{listed:Array Bool} {i:Nat},i<aF.size→listed.getD i false=false→i∈jX aF.size listed:=by
  intro listed i h1 h2;unfold jX;rw[List.mem_filter,List.mem_range];exact⟨h1,by rw[h2];rfl⟩
 intro fuel
 induction fuel with
 |zero=>
  intro listed S ρ lam a w hs wx hlen hk h;have EF:jX aF.size listed=[]:=List.eq_nil_of_length_eq_zero (by omega);rw[EF] at hk;refine⟨?_,hq _ _ _ _ _ h hk⟩
  cases hr:Region.ready .any aF listed with
  |nil=>rfl
  |cons i l=>
   obtain⟨h1,h2⟩:=hin hs (hr▸List.mem_cons_self .. :i∈Region.ready .any aF listed);have:=hmem h1 h2;rw[EF] at this;cases this
 |succ fuel ih=>
  intro listed S ρ lam a w hs wx hlen hk h;refine⟨fun hnone=> ?_,fun i hi=> ?_⟩
  ·have hall:∀i,i<aF.size→listed.getD i false=true:=by
    intro i
    induction i using Nat.strongRecOn with
    |_ i ihi=>
     intro hi;cases hl:listed.getD i false
     ·exfalso
      have:i∈Region.ready .any aF listed:=by
       refine mem_ready.2 ⟨by rw[qO (by omega)];exact hl,aF[i],Array.getElem?_eq_getElem hi,fun e he hb=> ?_⟩;have hlt:=oB TM i aF[i] (by rw[Array.getElem?_toList,Array.getElem?_eq_getElem hi]) e (Array.mem_toList_iff.2 he) hb;exact ihi e.on (by omega) (by omega)
      rw[hnone] at this;cases this
     ·rfl
   have EF:jX aF.size listed=[]:=by
    unfold jX;rw[List.filter_eq_nil_iff];intro i hi;rw[hall i (List.mem_range.1 hi)];simp
   rw[EF] at hk;exact hq _ _ _ _ _ h hk
  ·obtain⟨h1,h2⟩:=hin hs hi;obtain⟨_,o,ho,Ak⟩:=mem_ready.1 hi
   have Wv:yU aF (listed.setIfInBounds i true):=by
    intro j p hp hj e he hb;by_cases hji:i=j
    ·subst hji;rw[ho] at hp;cases hp;exact getD_set_true (Ak e (Array.mem_toList_iff.1 he) hb)
    ·rw[getD_set_ne false hji] at hj;exact getD_set_true (wx j p hp hj e he hb)
   have hr:gz (xn aF) (jX aF.size listed) i=true:=by
    rw[pW];intro x hx hm;unfold nk at hx
    cases hb:(xn aF)[i]? with
    |none=>rw[hb] at hx;simp at hx
    |some b=>
     rw[hb] at hx;have:=pU wx TM i o b ho hb (fun e he Qr=>Ak e (Array.mem_toList_iff.1 he) Qr) x hx;unfold jX at hm;rw[List.mem_filter,this] at hm;simp at hm
   have hstep:=(aa4 hR (fuel+1)).1 _ i S K hlen (hmem h1 h2) h1 hr hk;simp only[iD,ho,Nat.add_sub_cancel] at hstep;have hd:=pV (hmem h1 h2);rw[←Ny (by omega)] at hstep hd;refine pM hR.ext hR.call hR.body h ho hstep ?_;intro S' ρ' dI a' w' h' hk2;exact ih _ (by simp [hs]) Wv (by omega) hk2 h'
end
section
variable {E:kv} {H0:ag} {ρ0:dC} {w0:World} {ann:bQ} {N:Nat} {ρ lam:dC} {S:St} {a:Act} {w:World} {R:mv}
def exR:Ex→Exit
 | .normal=>.normal
 | .exit id=>.exit id
 | .ret=>.ret
theorem uv (hR:nv E R) (hm:E.P.follows .mixedOrders=true) {id:Nat} {aF:Array Oper} {draw:Bool} {Q:Exit→Act→World→Prop} {K:St→Prop} (hok:(!draw||ye E ann aF.toList)=true) (h:SR H0 ρ0 w0 ann N ρ lam S a w) (hk:lz E R ann N aF.toList aF.toList S K) (hq:∀S' ρ' dI a' w',SR H0 ρ0 w0 ann N ρ' dI S' a' w'→K S'→Q .normal a' w'):(Code.region id aF draw).wp E.P Q a w:=by
 rw[Bp aF.toList 0 rfl] at hk;rw[Array.length_toList, ←List.range_eq_range'] at hk
 cases draw with
 |false=>exact wp_region (pO hR _ h hk hq)
 |true=>
  refine wp_region_any hm ?_
  have G4:jX aF.size (Array.replicate aF.size false)=List.range aF.size:=by
   unfold jX;rw[List.filter_eq_self];intro i hi;simp [Array.getD,List.mem_range.1 hi]
  refine HN hR (by simpa using hok) hq aF.size _ (by simp) ?_ (by rw[G4];simp) (by rw[G4];exact hk) (h.drew _);intro i o _ hi;simp [Array.getD] at hi
theorem Lk {aF:Array Oper}:fS E R ann N aF.toList=iD E R ann N aF:=by
 funext i S K;unfold fS iD;rw[Array.getElem?_toList]
 cases aF[i]? with
 |none=>rfl
 |some o=>exact hT
theorem AQ (hR:nv E R) (hm:E.P.follows .mixedOrders=true) {id:Nat} {aF:Array Oper} {draw:Bool} {Q:Exit→Act→World→Prop} {K:St→Prop} (h:SR H0 ρ0 w0 ann N ρ lam S a w) (hk:gR E R ann N aF.toList draw S K) (hq:∀S' ρ' dI a' w',SR H0 ρ0 w0 ann N ρ' dI S' a' w'→K S'→Q .normal a' w'):(Code.region id aF draw).wp E.P Q a w:=by
 unfold gR at hk;split at hk
 ·rename_i hok;rw[kY] at hk;exact uv hR hm hok h hk hq
 ·rename_i hok;obtain⟨TM,hk⟩:=aT hk
  have SD:draw=true:=by
   cases draw with
   |true=>rfl
   |false=>simp at hok
  subst SD;rw[Lk] at hk;refine wp_region_any hm ?_
  have G4:jX aF.size (Array.replicate aF.size false)=List.range aF.size:=by
   unfold jX;rw[List.filter_eq_self];intro i hi;simp [Array.getD,List.mem_range.1 hi]
  refine Fv hR TM hq aF.size _ (by simp) ?_ (by rw[G4];simp) (by rw[G4];rw[Array.length_toList] at hk;exact hk) (h.drew _);intro i o _ hi;simp [Array.getD] at hi
theorem Fw {kp:Option js} {A:(Ex→St→Prop)→Prop} {K:Ex→St→Prop} {X:Prop} (hj:wA kp A K) (hA:∀K':Ex→St→Prop,A K'→(∀e S' ρ' dI a' w',SR H0 ρ0 w0 ann N ρ' dI S' a' w'→K' e S'→∃G3,SR H0 ρ0 w0 ann N ρ' dI G3 a' w'∧K e G3)→X):X:=by
 unfold wA at hj
 cases kp with
 |none=>exact hA K hj fun e S' ρ' dI a' w' h hk=>⟨S',h,hk⟩
 |some kp=>
  refine hA _ hj ?_;intro e S' ρ' dI a' w' h hk
  cases e with
  |normal=>
   obtain⟨S1,h1,hk⟩:=jW h hk;exact pN h1 hk
  |exit id=>exact⟨S',h,hk⟩
  |ret=>exact⟨S',h,hk⟩
theorem Bu {α:Type} {l:List (Nat×α)} {dr:List Nat} {g:Nat→Option α} {t:Nat} {x:α} (h:over l dr g t=some x):ab l t=some x∨(bD t dr=false∧g t=some x):=by
 unfold over at h;split at h
 ·rename_i y hy;cases h;exact .inl hy
 ·cases hm:bD t dr with
  |true=>rw[hm] at h;cases h
  |false=>rw[hm] at h;exact .inr ⟨rfl,h⟩
theorem pY {ok:js→Bool} {kp:Option js} {S:St} {A:(Ex→St→Prop)→Prop} {K:Ex→St→Prop} {X:Prop} (hag:∀(kp:js) (K:Ex→St→Prop),ok kp=true→A K→A fun e S'=>K e S'∧gH kp.wT kp.wL S S') (hj:mw ok kp S A K) (hA:∀K':Ex→St→Prop,A K'→(∀e S' ρ' dI a' w',SR H0 ρ0 w0 ann N ρ' dI S' a' w'→K' e S'→∃G3,SR H0 ρ0 w0 ann N ρ' dI G3 a' w'∧K e G3)→X):X:=by
 unfold mw at hj
 cases kp with
 |none=>exact hA K hj fun e S' ρ' dI a' w' h hk=>⟨S',h,hk⟩
 |some kp=>
  simp only[] at hj;split at hj
  ·obtain⟨hok,hj⟩:=aT hj;refine hA _ (hag kp _ hok hj) ?_;rintro e S' ρ' dI a' w' h ⟨hk,ha⟩
   cases e with
   |exit id=>exact⟨S',h,hk⟩
   |ret=>exact⟨S',h,hk⟩
   |normal=>
    have hk:lA (pC kp.cj) (pC kp.hI) S' fun S1=>ah ((lB S1 kp.cj).1&&(lC S1 kp.hI).1)
     (K .normal ⟨over (lB S1 kp.cj).2 kp.wT S.tm,over (lC S1 kp.hI).2 kp.wL S.lo,S1.hp⟩):=hk
    unfold lA at hk;split at hk
    ·rename_i m l hm hl;obtain⟨hr,hk⟩:=aT hk;rw[Bool.and_eq_true] at hr;refine⟨_,h.Q5 (S':=⟨over (lB ⟨ab m,ab l,S'.hp⟩ kp.cj).2 kp.wT S.tm,over (lC ⟨ab m,ab l,S'.hp⟩ kp.hI).2 kp.wL S.lo,S'.hp⟩) (fun t x hx=> ?_) (fun t x hx=> ?_) rfl,hk⟩
     ·rcases Bu hx with hx|⟨hn,hx⟩
      ·exact sF hm (sH hr.1 hx)
      ·rw[ha.1 t hn];exact hx
     ·rcases Bu hx with hx|⟨hn,hx⟩
      ·exact sG hl (sI hr.2 hx)
      ·rw[ha.2 t hn];exact hx
    ·exact hk.elim
  ·exact Fw hj hA
theorem Q9 {S:St} {ρ lam:dC} {a:Act} {w:World} {dT dL:List Nat} (h:SR H0 ρ0 w0 ann N ρ lam S a w):SR H0 ρ0 w0 ann N ρ lam (rz dT dL S) a w:=by
 refine h.Q5 (fun t x hx=> ?_) (fun t x hx=> ?_) rfl
 ·simp only[rz] at hx
  cases hm:bD t dT with
  |true=>rw[hm] at hx;cases hx
  |false=>rw[hm] at hx;exact hx
 ·simp only[rz] at hx
  cases hm:bD t dL with
  |true=>rw[hm] at hx;cases hx
  |false=>rw[hm] at hx;exact hx
theorem yX {f:FuncId} {fn:Func} (hR:nv E R) (hm:E.P.follows .mixedOrders=true) (hf:E.P.funcs[f]? =some fn) (acY:ann=E.ann f) (hN:N=fn.ntmps):∀(c:Code) (n:Nat) (S:St) (K:Ex→St→Prop) (ρ lam:dC) (a:Act) (w:World) (Q:Exit→Act→World→Prop),gr E R f ann N c n S K→SR H0 ρ0 w0 ann N ρ lam S a w→(∀e S' ρ' dI a' w',SR H0 ρ0 w0 ann N ρ' dI S' a' w'→K e S'→Q (exR e) a' w')→c.wp E.P Q a w:=by
 intro c
 induction c with
 |skip=>intro n S K ρ lam a w Q hx h hq;exact wp_skip (hq .normal _ _ _ _ _ h hx)
 |seq x y ihx ihy=>
  intro n S K ρ lam a w Q hx h hq;refine wp_seq (ihx n S _ ρ lam a w _ hx h ?_);intro e S' ρ' dI a' w' h' hk
  cases e with
  |normal=>exact ihy _ _ _ _ _ _ _ _ hk h' hq
  |exit id=>exact hq (.exit id) _ _ _ _ _ h' hk
  |ret=>exact hq .ret _ _ _ _ _ h' hk
 |cond c x y ihx ihy=>
  intro n S K ρ lam a w Q hx h hq;simp only[gr] at hx;split at hx
  ·rename_i t ht;have hb:=(h.ev.tv ht).C1;refine pY (H0:=H0) (ρ0:=ρ0) (w0:=w0) (ann:=ann) (N:=N) ?_ hx ?_
   ·intro kp K hok;rw[Bool.and_eq_true] at hok;exact ff (sK hR.mono x _ _ _ hok.1) (sK hR.mono y _ _ _ hok.2)
   intro K' hx hK
   have hq':∀e S' ρ' dI a' w',SR H0 ρ0 w0 ann N ρ' dI S' a' w'→K' e S'→Q (exR e) a' w':=by
    intro e S' ρ' dI a' w' h' hk;obtain⟨G3,h'',Qs⟩:=hK e S' ρ' dI a' w' h' hk;exact hq e _ _ _ _ _ h'' Qs
   rcases gA hx with⟨rfl,hx⟩|⟨rfl,hx⟩
   ·exact wp_cond_true hb (ihx _ _ _ _ _ _ _ _ hx h hq')
   ·exact wp_cond_false hb (ihy _ _ _ _ _ _ _ _ hx h hq')
  ·exact hx.elim
 |block id b ih=>
  intro n S K0 ρ lam a w Q hx h hq;simp only[gr] at hx;refine pY (H0:=H0) (ρ0:=ρ0) (w0:=w0) (ann:=ann) (N:=N) ?_ hx ?_
  ·intro kp K hok hx;refine gS hR.mono b _ _ _ _ ?_ (sK hR.mono b _ _ _ hok hx);rintro e S' ⟨hk,ha⟩
   cases e with
   |normal=>exact⟨hk,ha⟩
   |ret=>exact⟨hk,ha⟩
   |exit j=>exact ff (fun h=>⟨h,ha⟩) (fun h=>⟨h,ha⟩) hk
  intro K hx hK;have hq0:=hq
  have hq:∀e S' ρ' dI a' w',SR H0 ρ0 w0 ann N ρ' dI S' a' w'→K e S'→Q (exR e) a' w':=by
   intro e S' ρ' dI a' w' h' hk;obtain⟨G3,h'',Qs⟩:=hK e S' ρ' dI a' w' h' hk;exact hq0 e _ _ _ _ _ h'' Qs
  refine wp_block (ih n S _ ρ lam a w _ hx h ?_);intro e S' ρ' dI a' w' h' hk
  cases e with
  |normal=>exact hq .normal _ _ _ _ _ h' hk
  |exit j=>
   simp only[exR,Exit.inBlock];rcases gA hk with⟨hj,hk⟩|⟨hj,hk⟩
   ·rw[if_pos (Nat.eq_of_beq_eq_true hj)];exact hq .normal _ _ _ _ _ h' hk
   ·rw[if_neg (fun e=>by rw[e,Nat.beq_refl] at hj;cases hj)];exact hq (.exit j) _ _ _ _ _ h' hk
  |ret=>exact hq .ret _ _ _ _ _ h' hk
 |loop c ih=>
  intro n S K ρ lam a w Q hx h hq;simp only[gr] at hx;split at hx
  ·rename_i kp hkp;obtain⟨S0,h0,hx⟩:=jW h hx;subst acY;subst hN;refine Nx (hR.loop _ _ _ _ _ _ hx fn H0 ρ0 w0 ρ lam a w Q hf h0 ?_ ?_)
   ·intro S' ρ' dI a' w' h' hk;obtain⟨G3,h'',hk⟩:=pN h' hk;exact hq .ret _ _ _ _ _ h'' hk
   ·intro id S' ρ' dI a' w' h' hk;obtain⟨G3,h'',hk⟩:=ug h' hk;exact hq (.exit id) _ _ _ _ _ h'' hk
  ·exact hx.elim
 |exit id=>intro n S K ρ lam a w Q hx h hq;exact wp_exit (hq (.exit id) _ _ _ _ _ h hx)
 |ret=>intro n S K ρ lam a w Q hx h hq;exact wp_ret (hq .ret _ _ _ _ _ h hx)
 |region id aF draw=>
  intro n S K ρ lam a w Q hx h hq;simp only[gr] at hx
  have old:∀kp:Option js,mw (fun kp=>jw E ann kp.wT kp.wL aF.toList) kp S (fun K=>gR E R ann N aF.toList draw S (K .normal)) K→(Code.region id aF draw).wp E.P Q a w:=by
   intro kp hx;refine pY (H0:=H0) (ρ0:=ρ0) (w0:=w0) (ann:=ann) (N:=N) ?_ hx ?_
   ·intro kp K hok hx;exact mU hR.mono hok hx
   intro K' hx hK;refine AQ hR hm h hx ?_;intro S' ρ' dI a' w' h' hk;obtain⟨G3,h'',Qs⟩:=hK .normal S' ρ' dI a' w' h' hk;exact hq .normal _ _ _ _ _ h'' Qs
  revert hx;split
  ·exact old none
  ·rename_i kp _;split
   ·intro hx;obtain⟨hok,hx⟩:=aT hx;have hx:=yP hR.mono _ hx;rw[kY] at hx;refine uv hR hm hok h hx ?_;intro S' ρ' dI a' w' h' hk;exact hq .normal _ _ _ _ _ (Q9 h') hk
   ·exact old (some kp)
 |rangeFunc=>intro n S K ρ lam a w Q hx;exact hx.elim
 |scope b ih=>
  intro n S K ρ lam a w Q hx h hq;simp only[gr] at hx;refine wp_scope_straight (ih _ _ _ _ _ _ _ _ hx h ?_);intro e S' ρ' dI a' w' h' hk;have:=hq e S' ρ' dI a' w' h' hk;cases e<;>exact this
 |label l=>
  intro n S K ρ lam a w Q hx h hq;simp only[gr] at hx;exact wp_label (hq .normal _ _ _ _ _ h hx)
 |goto=>intro n S K ρ lam a w Q hx;exact hx.elim
 |refuse=>intro n S K ρ lam a w Q hx;exact hx.elim
end
section
variable {E:kv} {H0:ag} {ρ0:dC} {w0:World} {ann:bQ} {N:Nat} {ρ lam:dC} {S:St} {a:Act} {w:World} {R:mv}
def lJ (tmps:Array Value):ResultVar→Sem Value
 | .tmp t=>pure (tmps.getD t undef)
 | .cell a t=>do loadVar t (←asAddr (tmps.getD a undef))
theorem yY {e:Operand→Value} {t:TypeId} {x:Operand} {dst:Option Tmp} {type:TypeId} {jj:String} {after:Array Edge} {guard:Option (Nat×Bool)} {v:Value} (h:(execOp e ⟨dst,.load t x,type,jj,after,guard⟩).run E.P w=.ok (.value v) w):(Instr.loadAt t (e x)).run E.P w=.ok v w:=by
 simp only[execOp,Sem.run_bind] at h
 cases hr:(Instr.loadAt t (e x)).run E.P w with
 |ok y w'=>
  rw[hr] at h;simp only[Result.andThen_ok,Sem.run_pure,Result.ok.injEq,Next.value.injEq] at h;rw[h.1,h.2]
 |halt y w'=>rw[hr] at h;simp at h
theorem AR (h:SR H0 ρ0 w0 ann N ρ lam S a w) {r:ResultVar} {K:V→Prop} (hk:my E S r K):∃x v,(lJ a.tmps r).run E.P w=.ok v w∧VR ρ x v∧K x:=by
 unfold my at hk;split at hk
 ·rename_i t;split at hk
  ·rename_i x hx;have ht:=h.tm t _ hx;generalize hq:a.tmps.getD t undef=q at ht
   cases ht with
   |v hv=>exact⟨x,q,by simp only[lJ,hq];rfl,hv,hk⟩
  ·exact hk.elim
 ·rename_i ad t;split at hk
  ·rename_i s off hs;split at hk
   ·rename_i el cs hlo;split at hk
    ·rename_i r v hv;obtain⟨hr,hk⟩:=aT hk;obtain⟨b,hb,hc,_⟩:=h.lo s _ hlo;obtain⟨b',hb',he⟩:=h.ev.lp (x:=.tmp ad) hs;rw[hb] at hb';cases hb';obtain⟨v',h1,h2⟩:=oA (E:=E) hc hv hr (fun _ _=>.inl rfl);have he':a.tmps.getD ad undef=.pointer (some ⟨b,off,none⟩):=he;exact⟨v,v',by simp only[lJ,he',asAddr,Sem.run_bind,Sem.run_pure,Result.andThen_ok,h1],h2,hk⟩
    ·exact hk.elim
   ·exact hk.elim
  ·split at hk
   ·rename_i d hd;obtain⟨hr,hk⟩:=fR.fg hk;obtain⟨v,h1,h2⟩:=wM (o:=⟨none,.load t (.tmp ad),0, "", #[],none⟩) (w:=w) h.ev h.hr hd hr;have h3:=yY h1;split at hk
    ·rename_i y hy;rw[hy] at h2
     cases h2 with
     |v hv=>
      refine⟨y,v, ?_,hv,hk⟩;simp only[Instr.loadAt,Sem.run_bind] at h3;simp only[lJ,Sem.run_bind];change _=_ at h3
      have he:a.eval (.tmp ad)=a.tmps.getD ad undef:=rfl;rw[he] at h3;generalize a.tmps.getD ad undef=q at h3⊢
      cases q with
      |pointer p=>cases p with
       |some p=>exact h3
       |none=>simp [Instr.sureAddr] at h3
      |_=>simp [Instr.sureAddr] at h3
    ·exact hk.elim
   ·exact hk.elim
theorem pZ (h:SR H0 ρ0 w0 ann N ρ lam S a w):∀{l:List ResultVar} {K:List V→Prop},nn E S l K→∃xs vs,(l.mapM (lJ a.tmps)).run E.P w=.ok vs w∧eT ρ xs vs∧K xs
 |[],K,hk=>⟨[],[],by simp,.nil ρ,hk⟩
 |r::l,K,hk=>by
  obtain⟨x,v,h1,h2,hk⟩:=AR h hk;obtain⟨xs,vs,h3,h4,hk⟩:=pZ h hk;exact⟨x::xs,v::vs,by simp only[List.mapM_cons,Sem.run_bind,h1,h3,Result.andThen_ok,Sem.run_pure],.cons h2 h4,hk⟩
theorem HO (h:SR H0 ρ0 w0 ann N ρ lam S a w) {fn:Func} {K:V→ag→Prop} (hk:K5 E fn K S):∃x v,(results fn a.tmps).run E.P w=.ok v w∧VR ρ x v∧K x S.hp:=by
 obtain⟨xs,vs,h1,h2,hk⟩:=pZ h hk
 have hrun:(results fn a.tmps).run E.P w=.ok (if h:vs.toArray.size=1 then vs.toArray[0] else .tuple vs.toArray) w:=by
  have h0:results fn a.tmps=(fn.results.mapM (lJ a.tmps)) >>= fun vs=>pure (if h:vs.size=1 then vs[0] else .tuple vs):=by
   unfold results;congr 1
  have h':(fn.results.mapM (lJ a.tmps)).run E.P w=.ok vs.toArray w:=by
   rw[←Array.toArray_toList (xs:=fn.results),List.mapM_toArray];simp only[Sem.run_map,h1,Result.andThen_ok]
  rw[h0,Sem.run_bind,h'];rfl
 cases xs with
 |nil=>rw[h2.gu] at hrun;exact⟨.tuple [],.tuple #[],by simpa using hrun,.gE (.nil ρ),hk⟩
 |cons x l=>
  obtain⟨v,m,rfl,h3,h4⟩:=h2.df
  cases l with
  |nil=>
   rw[h4.gu] at hrun;exact⟨x,v,by simpa using hrun,h3,hk⟩
  |cons y l=>
   have hl:(v::m).toArray.size≠1:=by have:=h2.1;simp at this⊢;intro e;rw[e] at this;simp at this
   rw[dif_neg hl] at hrun;exact⟨.tuple (x::y::l),.tuple (v::m).toArray,hrun,.gE (by simpa using h2),hk⟩
theorem sL:∀{l:List V} {j t:Nat} {x:T},E0 l j t=some x→∃v,x=.v v∧j≤t∧l[t-j]? =some v
 |[],j,t,x,h=>by cases h
 |v::l,j,t,x,h=>by
  simp only[E0,aX] at h;by_cases he:t=j
  ·simp only[he,decide_true,cond_true,Option.some.injEq] at h;exact⟨v,h.symm,by omega,by simp [he]⟩
  ·simp only[he,decide_false,cond_false] at h;obtain⟨u,h1,h2,h3⟩:=sL h;refine⟨u,h1,by omega, ?_⟩;rw[show t-j=t-(j+1)+1 by omega];simpa using h3
theorem Dq (hR:nv E R) (hm:E.P.follows .mixedOrders=true) {f:FuncId} {args:List V} {H:ag} {K:V→ag→Prop} (h:(F E R).call f args H K):iB E f args H K∧∃fn,E.P.funcs[f]? =some fn∧fn.body.isSome=true:=by
 simp only[F] at h;split at h
 ·rename_i fn hf;have hf:=E.fn_ok f fn hf;split at h
  ·rename_i c hb;obtain⟨hn,hx⟩:=aT h;refine⟨?_,fn,hf,by rw[hb];rfl⟩;intro ρ w aS hr has
   have hlen:aS.size≤fn.ntmps:=by
    have h1:=has.1;have h2:=Nat.le_of_ble_eq_true hn;simp at h1;omega
   have hsr:SR H ρ w (E.ann f) fn.ntmps ρ (fun _=>none) ⟨E0 args 0,fun _=>none,H⟩ {tmps:=aS++Array.replicate (fn.ntmps-aS.size) undef,defers:=[]} w:=by
    refine⟨rfl,by simp;omega, ?_, ?_,(fun s L hL=>by cases hL),(fun s s' L L' b hL=>by cases hL),hr,.refl H ρ w⟩
    ·intro t x hx;obtain⟨v,rfl,_,h2⟩:=sL hx;rw[Nat.sub_zero] at h2
     have hlt:t<args.length:=by
      rcases Nat.lt_or_ge t args.length with h|h
      ·exact h
      ·rw[List.getElem?_eq_none h] at h2;cases h2
     have hlt':t<aS.size:=by have:=has.1;simp at this;omega
     refine .v (has.2 t v _ h2 ?_);rw[Array.getD_eq_getD_getElem?,Array.getElem?_append_left hlt',Array.getElem?_eq_getElem hlt'];simp [hlt']
    ·intro t s off hx;obtain⟨v,h1,_⟩:=sL hx;cases h1
   refine calls_of_wp hf hb (yX (H0:=H) (ρ0:=ρ) (w0:=w) hR hm hf rfl rfl c 0 _ _ _ _ _ _ _ hx hsr ?_);intro e S' ρ' dI a' w' h' hk
   have key:K5 E fn K S'→a'.defers=[]∧∃v,(results fn a'.tmps).run E.P w'=.ok v w'∧yC H ρ w K (.returned v) w':=by
    intro hk;obtain⟨x,v,h1,h2,h3⟩:=HO h' hk;exact⟨h'.defers,v,h1,x,v,S'.hp,ρ',rfl,h3,h2,h'.hr,h'.bW⟩
   cases e with
   |normal=>exact key hk
   |exit id=>exact hk.elim
   |ret=>exact key hk
  ·exact h.elim
 ·exact h.elim
theorem Dr (hR:nv E R) (hm:E.P.follows .mixedOrders=true) {c:Code} {f:FuncId} {n:Nat} {S:St} {Kr:St→Prop} {Ke:Nat→St→Prop} (h:(F E R).loop c f n S Kr Ke):nu E c f S Kr Ke:=by
 simp only[F] at h;split at h
 ·rename_i fn kp hf hkp;have hf:=E.fn_ok f fn hf;intro fn' H0 ρ0 w0 ρ lam a w Q hf' hsr hr he;rw[hf] at hf';cases hf';refine HF (yX (H0:=H0) (ρ0:=ρ0) (w0:=w0) hR hm hf rfl rfl c _ _ _ _ _ _ _ _ h hsr ?_);intro e S' ρ' dI a' w' h' hk
  cases e with
  |normal=>
   obtain⟨S0,h0,hk⟩:=jW h' hk;exact hR.loop _ _ _ _ _ _ hk fn H0 ρ0 w0 ρ' dI a' w' Q hf h0 hr he
  |exit id=>
   obtain⟨S0,h0,hk⟩:=jW h' hk;exact he id _ _ _ _ _ h0 hk
  |ret=>
   obtain⟨S0,h0,hk⟩:=jW h' hk;exact hr _ _ _ _ _ h0 hk
 ·exact h.elim
theorem Bv (hX:jV E) (hm:E.P.follows .mixedOrders=true):nv E (rM E):=by
 have mono_call:∀{f:FuncId} {args:List V} {H:ag} {K K':V→ag→Prop},(∀v H',K v H'→K' v H')→iB E f args H K→iB E f args H K':=by
  intro f args H K K' hk h ρ w aS hr has;refine(h ρ w aS hr has).mono ?_;rintro e w' ⟨v,v',H',ρ',h1,h2,h3⟩;exact⟨v,v',H',ρ',h1,hk _ _ h2,h3⟩
 have mono_loop:∀{c:Code} {f:FuncId} {S:St} {Kr P9:St→Prop} {Ke Qa:Nat→St→Prop},(∀S,Kr S→P9 S)→(∀i S,Ke i S→Qa i S)→nu E c f S Kr Ke→nu E c f S P9 Qa:=by
  intro c f S Kr P9 Ke Qa h1 h2 h fn H0 ρ0 w0 ρ lam a w Q hf hsr hr he;exact h fn H0 ρ0 w0 ρ lam a w Q hf hsr (fun S' ρ' dI a' w' h' hk=>hr S' ρ' dI a' w' h' (h1 _ hk)) (fun id S' ρ' dI a' w' h' hk=>he id S' ρ' dI a' w' h' (h2 _ _ hk))
 let G:mv:=
  {call:=fun f args H K=>(rM E).call f args H K∧iB E f args H K∧∃fn,E.P.funcs[f]? =some fn∧fn.body.isSome=true
   loop:=fun c f n S Kr Ke=>(rM E).loop c f n S Kr Ke∧nu E c f S Kr Ke}
 have hGR:G.le (rM E):=⟨fun f args H K K' hk h=>np.call _ _ _ _ _ hk h.1,fun c f n S Kr P9 Ke Qa h1 h2 h=>np.loop _ _ _ _ _ _ _ _ h1 h2 h.1⟩
 have hGm:G.le G:=⟨fun f args H K K' hk h=>⟨np.call _ _ _ _ _ hk h.1,mono_call hk h.2.1,h.2.2⟩,
  fun c f n S Kr P9 Ke Qa h1 h2 h=>⟨np.loop _ _ _ _ _ _ _ _ h1 h2 h.1,mono_loop h1 h2 h.2⟩⟩
 have hGs:nv E G:=⟨fun f args H K h=>h.2.1,fun f args H K h=>h.2.2,fun c f n S Kr Ke h=>h.2,hGm,
  ⟨fun f args H K h=>sx.call _ _ _ _ h.1,fun c f n S Kr Ke h=>sx.loop _ _ _ _ _ _ h.1⟩,hX⟩
 have hFG:(F E G).le G:=
  ⟨fun f args H K K' hk h=>hGm.call _ _ _ _ _ hk ⟨pF.call _ _ _ _ _ (fun _ _=>id) ((vu hGR).call _ _ _ _ _ (fun _ _=>id) h),Dq hGs hm h⟩,
   fun c f n S Kr P9 Ke Qa h1 h2 h=>hGm.loop _ _ _ _ _ _ _ _ h1 h2 ⟨pF.loop _ _ _ _ _ _ _ _ (fun _=>id) (fun _ _=>id) ((vu hGR).loop _ _ _ _ _ _ _ _ (fun _=>id) (fun _ _=>id) h),Dr hGs hm h⟩⟩
 have hle:=yg hGm hFG
 exact⟨fun f args H K h=>(hle.call _ _ _ _ _ (fun _ _=>id) h).2.1,fun f args H K h=>(hle.call _ _ _ _ _ (fun _ _=>id) h).2.2,
  fun c f n S Kr Ke h=>(hle.loop _ _ _ _ _ _ _ _ (fun _=>id) (fun _ _=>id) h).2,np,sx,hX⟩
#print axioms Bv
end
def jZ:Code→Nat→Nat→Option Code
 | .seq a b,n,m=>match jZ a n m with|some c=>some c|none=>jZ b (n+ef a) m
 | .cond _ a b,n,m=>match jZ a (n+1) m with|some c=>some c|none=>jZ b (n+1+ef a) m
 | .block _ b,n,m=>jZ b n m
 | .scope b,n,m=>jZ b n m
 | .loop b,n,m=>bif Nat.beq n m then some b else jZ b (n+1) m
 |_,_,_=>none
def Nz (E:kv) (f n:Nat):Code:=
 match E.fn f with
 |some fn=>match fn.body with|some c=>(jZ c 0 n).getD .skip|none=>.skip
 |none=>.skip
theorem aK {i:Nat} (h:(i:Int)+1≤9223372036854775807):IntKind.i64.wrap ((i:Int)+1)=((i+1:Nat):Int):=by
 rw[IntWalk.i64_in _ (by omega)];omega
theorem bj {x:Int} (h: -9223372036854775808≤x) (h':x≤9223372036854775807):IntKind.i64.wrap x=x:=IntWalk.i64_in _ ⟨h,h'⟩
@[simp] theorem ar (X Y:Prop):br true X Y=X:=rfl
@[simp] theorem ai (X Y:Prop):br false X Y=Y:=rfl
@[simp] theorem av (X:Prop):ah true X=X:=rfl
@[simp] theorem W4 (X:Prop):ah false X=False:=rfl
theorem yZ (c:Bool) (X Y:Prop):br c X Y=if c=true then X else Y:=by cases c<;>rfl
@[simp] theorem eO {α:Type} (A:(α→Prop)→Prop) (Q:α→Prop):cy A Q=A Q:=rfl
@[simp] theorem oF (a b:Nat):Nat.beq a b=decide (a=b):=aX
@[simp] theorem mD (a b:Nat):Nat.ble a b=decide (a≤b):=by
  cases h:Nat.ble a b with
  |true=>simpa using Nat.le_of_ble_eq_true h
  |false=>exact(decide_eq_false fun hle=>by rw[Nat.ble_eq_true_of_le hle] at h;cases h).symm
@[simp] theorem nA {α:Type} (n:Nat):ab ([]:List (Nat×α)) n=none:=rfl
@[simp] theorem jz {α:Type} (k n:Nat) (x:α) (l:List (Nat×α)):ab ((k,x)::l) n=if n=k then some x else ab l n:=by
  simp only[ab,oF];by_cases h:n=k<;>simp [h]
@[simp] theorem aa1 (x:V):T.val (some (.v x))=x:=rfl
abbrev PS:=St→Prop
def tv (S:St) (n:Nat):V:=T.val (S.1 n)
theorem TV:(∀(S:St) (n:Nat),tv S n=T.val (S.1 n))∧∀x:V,T.val (some (T.v x))=x:=⟨fun _ _=>rfl,fun _=>rfl⟩
@[simp] theorem Ds (k:cq) (x:V):aB (.k k) (some (.v x))=x.ax k:=rfl
@[simp] theorem uw (ks:List cq) (x:V):aB (.agg ks) (some (.v x))=(x.isAgg&&aI ks x.af):=rfl
@[simp] theorem xI (s:Nat):aB (.lp s) (some (.lp s 0))=true:=by simp [aB]
@[simp] theorem y8 (e:Nat) (ks:List cq) (cs:List V):eD e ks (some (.cells e cs))=aI ks cs:=by simp [eD]
@[simp] theorem ix (e:Nat) (cs:List V):ao (some (.cells e cs))=cs:=rfl
@[simp] theorem dJ (x:V) (l:List V):ae (x::l) 0=x:=rfl
@[simp] theorem gh (x y:V) (l:List V):ae (x::y::l) 1=y:=rfl
@[simp] theorem ux (x y z:V) (l:List V):ae (x::y::z::l) 2=z:=rfl
@[simp] theorem eP (l:List V):V.aq (.tuple l)=l:=rfl
@[simp] theorem cP (l:List V):V.af (.agg l)=l:=rfl
@[simp] theorem eH (l:List V):V.isAgg (.agg l)=true:=rfl
@[simp] theorem aV (k:IntKind) (x:Int):V.aa (.int k x)=x:=rfl
@[simp] theorem bV (b:Bool):V.ak (.bool b)=b:=rfl
@[simp] theorem fU (b:ByteArray):V.jr (.cI b)=b:=rfl
@[simp] theorem lK (b:Oq):V.ay (.aj b)=b:=rfl
@[simp] theorem bx (p:Oq) (n c:Nat):V.au (.slice p n c)=p:=rfl
@[simp] theorem aN (p:Oq) (n c:Nat):V.aw (.slice p n c)=n:=rfl
@[simp] theorem cv (p:Oq) (n c:Nat):V.aC (.slice p n c)=c:=rfl
@[simp] theorem cL (k:IntKind) (x:Int):V.ax (.int k) (.int k x)=true:=by simp [V.ax]
@[simp] theorem fp (b:Bool):V.ax .bool (.bool b)=true:=rfl
@[simp] theorem kQ (b:ByteArray):V.ax .cI (.cI b)=true:=rfl
@[simp] theorem uy (b:Oq):V.ax .aj (.aj b)=true:=rfl
@[simp] theorem bN (p:Oq) (n c:Nat):V.ax .slice (.slice p n c)=true:=rfl
@[simp] theorem dP (n:Nat) (l:List V):V.aL n (.tuple l)=decide (l.length=n):=by
  by_cases h:l.length=n<;>simp [V.aL,h]
@[simp] theorem W5 (c:Bool) (a b:V):bS c a b=if c=true then a else b:=by rw[ng]
def Bw (args:List V) (H:ag) (K:V→ag→Prop):Prop:=
 match args with
 |[.slice (some (i,o)) la _,.slice (some (j,_)) lb _]=>
  i≠j∧0<la∧0<lb∧(∃e cs,H.get i=some (.cells e cs false)∧o<cs.length)∧(∃e cs ro,H.get j=some (.cells e cs ro))∧K (.bool true) H∧K (.bool false) H
 |_=>False
theorem Ll {args:List V} {H:ag} {K:V→ag→Prop} (h:Bw args H K):∃i o la ca j o' lb cb,args=[.slice (some (i,o)) la ca,.slice (some (j,o')) lb cb]∧i≠j∧0<la∧0<lb∧(∃e cs,H.get i=some (.cells e cs false)∧o<cs.length)∧(∃e cs ro,H.get j=some (.cells e cs ro))∧K (.bool true) H∧K (.bool false) H:=by
 unfold Bw at h;split at h
 ·exact⟨_,_,_,_,_,_,_,_,rfl,h⟩
 ·exact h.elim
def Fx:Ext where
 run:=Bw
 mono args H K K' h hk:=by
  unfold Bw at hk⊢;split at hk
  ·obtain⟨a,b,c,d,e,f,g⟩:=hk;exact⟨a,b,c,d,e,h _ _ f,h _ _ g⟩
  ·exact hk
 vp args H K hk:=by
  unfold Bw at hk;split at hk
  ·obtain⟨a,b,c,d,e,f,g⟩:=hk;exact⟨_,_,f⟩
  ·exact hk.elim
theorem HR.heap {ρ:dC} {H:ag} {w w':World} (h:HR ρ H w) (he:w'.heap=w.heap):HR ρ H w':=
 ⟨fun id o hg=>by rw[he];exact h.wH id o hg,h.inj,fun id b hb=>by rw[he];exact h.lt id b hb,h.gl⟩
theorem Dt {P:Program} {w:World} {tS tR e:TypeId} (ht:P.underlying tS=some (.slice e)) {size:Nat} (hz:∀w,(Go.sizeOf e).run P w=.ok size w) {a b:Addr} {la ca lb cb:Nat} (hne:a.block≠b.block) {tA tB:TypeId} {kA kB:Nat} (hsa:w.shape? a.block=some (tA,kA)) (hsb:w.shape? b.block=some (tB,kB)) (Qt:w.frozen? a=false):∃r w',(Extern.SlicesOverlaps.overlaps #[tS,tS] #[tR] #[.slice (some a) la ca,.slice (some b) lb cb]).run P w=.ok (.bool r) w'∧(w'=w∨w'=w.drew):=by
 have hnb:(a.block != b.block)=true:=by simpa using hne
 have aay:(a.block == b.block)=false:=by simpa using hne
 change∃r w',Sem.run P (α:=Value) (do
  let some t:=(#[tS,tS]:Array TypeId)[0]? |stuck "slices.overlaps: no parameter types"
  let .slice elem←underlying t|stuck "slices.overlaps: slice type expected"
  let size←sizeOf elem
  match (some a:Option Addr),(some b:Option Addr) with
  |some a,some b=>
   if la=0∨lb=0∨size=0 then pure (Value.bool false)
   else if a.block != b.block&&(←frozen a)&&(←frozen b) then unsupported .addressObserved
   else do
    if a.block != b.block then do
     noView a;noView b
     if←mayBeOne a b then return Value.bool ((←choose (.extern "sameAddr.stringBytes" 2)) == 1)
    pure (Value.bool (a.block == b.block&&a.off<b.off+lb*size&&b.off<a.off+la*size))
  |_,_=>pure (Value.bool false)) w=.ok (.bool r) w'∧(w'=w∨w'=w.drew)
 by_cases h0:la=0∨lb=0∨size=0
 ·exact⟨false,w,by simp [run_underlying ht,hz,h0],.inl rfl⟩
 ·have hm:∃m,(mayBeOne a b).run P w=.ok m w:=by
   cases SE:w.frozen? b<;>cases hf2:w.frozen? ⟨a.block,kA,none⟩<;>cases hf3:w.frozen? ⟨b.block,kB,none⟩<;>cases kA<;>cases kB<;>
    exact⟨_,by simp [mayBeOne,stringish,shape,frozen,Sem.run,hsa,hsb,Qt,SE,hf2,hf3];rfl⟩
  obtain⟨m,hm⟩:=hm
  cases m with
  |false=>exact⟨_,w,by simp [run_underlying ht,hz,h0,hnb,aay,frozen,noView,viewAt,shape,Sem.run,hsa,hsb,Qt,hm];rfl,.inl rfl⟩
  |true=>exact⟨_,w.drew,by simp [run_underlying ht,hz,h0,hnb,aay,frozen,noView,viewAt,shape,Sem.run,hsa,hsb,Qt,hm,Question.forced];rfl,.inr rfl⟩
def aa5 (P:Program) (g:Nat):Prop:=∃fn tS tR e,P.funcs[g]? =some fn∧(fn.name == "runtime.NumGoroutine")=false∧fn.body.isNone=true∧Extern.findNext fn=none∧
 Extern.find fn=some (Extern.SlicesOverlaps.overlaps #[tS,tS] #[tR])∧P.underlying tS=some (.slice e)∧(P.info? e).isSome=true
inductive XK where
 |overlaps
def Xx (P:Program):XK→Ext
 | .overlaps=>Fx
def XOk (P:Program) (g:Nat):XK→Prop
 | .overlaps=>aa5 P g
def HP (P:Program) (l:List (Nat×XK)) (g:Nat):Option Ext:=(ab l g).map (Xx P)
theorem Lm {E:kv} {l:List (Nat×XK)} (he:E.ext=HP E.P l) (hl:∀g k,ab l g=some k→XOk E.P g k):jV E:=by
 intro g x hx args H K hk ρ w aS hr ha;rw[he,HP] at hx
 cases hm:ab l g with
 |none=>rw[hm] at hx;cases hx
 |some k=>
  rw[hm] at hx;simp only[Option.map_some,Option.some.injEq] at hx;subst hx;have hok:=hl g k hm
  cases k with
  |overlaps=>
  obtain⟨fn,tS,tR,e,h1,h2,h3,h4,h5,h6,h7⟩:=hok;obtain⟨dh,h7⟩:=Option.isSome_iff_exists.1 h7;left;obtain⟨i,o,la,ca,j,o',lb,cb,rfl,hij,hla,hlb,⟨e1,cs1,SF,ho⟩,⟨e2,cs2,ro,I4⟩,G1,hkf⟩:=Ll hk;obtain⟨x1,r1,wz,hx1,nX⟩:=ha.df;obtain⟨x2,r2,xC,vm,tu⟩:=nX.df;have Qe:=tu.gu;subst Qe;subst xC
  obtain rfl:aS= #[x1,x2]:=by
   apply Array.ext';rw[wz]
  obtain⟨b1,Ah,aaz,fz1,GY,pt,_,hfz⟩:=hr.wH i _ SF;obtain⟨b2,m7,acZ,fz2,Hh,_⟩:=hr.wH j _ I4
  have hne:b1≠b2:=by
   intro hb;subst hb;exact hij (hr.inj i j _ _ b1 SF I4 rfl Ah m7)
  rcases hx1.fj with⟨b,hb,rfl⟩|⟨h0,_⟩;rotate_left
  ·omega
  rcases vm.fj with⟨b',hb',rfl⟩|⟨h0,_⟩;rotate_left
  ·omega
  rw[Ah] at hb;rw[m7] at hb';cases hb;cases hb';have hlen:aaz.size=cs1.length:=by have:=pt.1;simp at this;omega
  have Qt:w.frozen? ⟨b1,o,none⟩=false:=by
   simp only[World.frozen?,GY];rcases hfz rfl with h|h
   ·rw[h];by_cases hh:fz1.2≤o
    ·have:¬o<fz1.2:=by omega
     simp [this]
    ·simp [hh]
   ·have:¬fz1.1≤o:=by omega
    simp [this]
  obtain⟨r,w',hrun,hw⟩:=Dt (P:=E.P) (w:=w) (tR:=tR) h6 (size:=dh.size) (fun w=>by simp [sizeOf,typeInfo,h7]) (a:=⟨b1,o,none⟩) (b:=⟨b2,o',none⟩) (la:=la) (ca:=ca) (lb:=lb) (cb:=cb) hne
   (tA:=e1) (kA:=aaz.size) (tB:=e2) (kB:=acZ.size) (by simp [World.shape?,GY]) (by simp [World.shape?,Hh]) Qt
  have hK:K (.bool r) H:=by cases r<;>assumption
  have aaA:w'.heap=w.heap:=by rcases hw with rfl|rfl<;>rfl
  refine⟨.bool r,.bool r,w',H,ρ, ?_,hK,.bool _,hr.heap aaA, ?_⟩
  ·rw[run_callFunc_extern h1 h2 h3 h4 h5,hrun];rfl
  ·rcases hw with rfl|rfl
   ·exact .refl ..
   ·exact⟨.refl ρ,fun _ _ _=>rfl,fun _ h=>.inl h,fun _ h=>.inl h,Nat.le_refl _,rfl,rfl,rfl⟩
end Go.Am
end
section
namespace Go.Proofs.YtlgdkndamddpkaaGreat
open Go.Am
def fz:TI:=⟨.func,1,8,some .nilFunc⟩
def tab:List TI:=[⟨.tuple [],1,0,none⟩,fz,⟨.int .i64,1,8,some (.int .i64 0)⟩,⟨.int .i64,1,8,some (.int .i64 0)⟩,⟨.bool,1,1,some (.bool false)⟩,⟨.int .u8,1,1,some (.int .u8 0)⟩,⟨.int .u8,1,1,some (.int .u8 0)⟩,⟨.struct [(0,2),(1,3),(2,4),(3,6)],4,24,some (.agg [.int .i64 0,.int .i64 0,.bool false,.int .u8 0])⟩,⟨.struct [(0,2),(1,3),(2,4),(3,6)],4,24,some (.agg [.int .i64 0,.int .i64 0,.bool false,.int .u8 0])⟩,⟨.cI,1,16,some (.cI ⟨#[]⟩)⟩,⟨.cI,1,16,some (.cI ⟨#[]⟩)⟩,⟨.cI,1,16,some (.cI ⟨#[]⟩)⟩,⟨.int .u64,1,8,some (.int .u64 0)⟩,⟨.struct [(0,9),(1,12)],2,24,some (.agg [.cI ⟨#[]⟩,.int .u64 0])⟩,⟨.struct [(0,9),(1,12)],2,24,some (.agg [.cI ⟨#[]⟩,.int .u64 0])⟩,⟨.aj 227,1,8,some (.aj none)⟩,⟨.aj 230,1,8,some (.aj none)⟩,⟨.aj 238,1,8,some (.aj none)⟩,⟨.struct [(0,17)],1,8,some (.agg [.aj none])⟩,⟨.struct [(0,17)],1,8,some (.agg [.aj none])⟩,⟨.iface,1,16,some (.nilIface)⟩,⟨.int .i32,1,4,some (.int .i32 0)⟩,⟨.slice 38,1,24,some (.slice none 0 0)⟩,fz,⟨.slice 3,1,24,some (.slice none 0 0)⟩,⟨.struct [(0,3),(1,3),(2,3),(3,24)],4,48,some (.agg [.int .i64 0,.int .i64 0,.int .i64 0,.slice none 0 0])⟩,⟨.struct [(0,3),(1,3),(2,3),(3,24)],4,48,some (.agg [.int .i64 0,.int .i64 0,.int .i64 0,.slice none 0 0])⟩,fz,⟨.aj 81,1,8,some (.aj none)⟩,⟨.int .i64,1,8,some (.int .i64 0)⟩,⟨.tuple [28,29],1,0,none⟩,fz,⟨.aj 93,1,8,some (.aj none)⟩,⟨.tuple [32,29],1,0,none⟩,fz,⟨.int .u64,1,8,some (.int .u64 0)⟩,⟨.slice 5,1,24,some (.slice none 0 0)⟩,⟨.struct [(0,5),(1,5),(2,5),(3,5),(4,5),(5,5),(6,4),(7,4),(8,36),(9,5)],10,40,some (.agg [.int .u8 0,.int .u8 0,.int .u8 0,.int .u8 0,.int .u8 0,.int .u8 0,.bool false,.bool false,.slice none 0 0,.int .u8 0])⟩,⟨.struct [(0,5),(1,5),(2,5),(3,5),(4,5),(5,5),(6,4),(7,4),(8,36),(9,5)],10,40,some (.agg [.int .u8 0,.int .u8 0,.int .u8 0,.int .u8 0,.int .u8 0,.int .u8 0,.bool false,.bool false,.slice none 0 0,.int .u8 0])⟩,⟨.int .u32,1,4,some (.int .u32 0)⟩,⟨.struct [(0,5),(1,3),(2,36),(3,4),(4,39),(5,39),(6,5),(7,4)],8,56,some (.agg [.int .u8 0,.int .i64 0,.slice none 0 0,.bool false,.int .u32 0,.int .u32 0,.int .u8 0,.bool false])⟩,⟨.struct [(0,5),(1,3),(2,36),(3,4),(4,39),(5,39),(6,5),(7,4)],8,56,some (.agg [.int .u8 0,.int .i64 0,.slice none 0 0,.bool false,.int .u32 0,.int .u32 0,.int .u8 0,.bool false])⟩,⟨.tuple [3,41],1,0,none⟩,fz,⟨.arr 8 39,8,32,some (.agg [.int .u32 0,.int .u32 0,.int .u32 0,.int .u32 0,.int .u32 0,.int .u32 0,.int .u32 0,.int .u32 0])⟩,⟨.struct [(0,44),(8,5),(9,3),(10,39),(11,4)],12,56,some (.agg [.int .u32 0,.int .u32 0,.int .u32 0,.int .u32 0,.int .u32 0,.int .u32 0,.int .u32 0,.int .u32 0,.int .u8 0,.int .i64 0,.int .u32 0,.bool false])⟩,⟨.struct [(0,44),(8,5),(9,3),(10,39),(11,4)],12,56,some (.agg [.int .u32 0,.int .u32 0,.int .u32 0,.int .u32 0,.int .u32 0,.int .u32 0,.int .u32 0,.int .u32 0,.int .u8 0,.int .i64 0,.int .u32 0,.bool false])⟩,fz,⟨.struct [(0,29),(1,36),(2,46)],14,88,some (.agg [.int .i64 0,.slice none 0 0,.int .u32 0,.int .u32 0,.int .u32 0,.int .u32 0,.int .u32 0,.int .u32 0,.int .u32 0,.int .u32 0,.int .u8 0,.int .i64 0,.int .u32 0,.bool false])⟩,⟨.struct [(0,29),(1,36),(2,46)],14,88,some (.agg [.int .i64 0,.slice none 0 0,.int .u32 0,.int .u32 0,.int .u32 0,.int .u32 0,.int .u32 0,.int .u32 0,.int .u32 0,.int .u32 0,.int .u8 0,.int .i64 0,.int .u32 0,.bool false])⟩,⟨.tuple [49,29],1,0,none⟩,fz,fz,fz,fz,⟨.aj 60,1,8,some (.aj none)⟩,fz,⟨.slice 9,1,24,some (.slice none 0 0)⟩,⟨.slice 109,1,24,some (.slice none 0 0)⟩,⟨.struct [(0,57),(1,58),(2,46)],14,104,some (.agg [.slice none 0 0,.slice none 0 0,.int .u32 0,.int .u32 0,.int .u32 0,.int .u32 0,.int .u32 0,.int .u32 0,.int .u32 0,.int .u32 0,.int .u8 0,.int .i64 0,.int .u32 0,.bool false])⟩,⟨.struct [(0,57),(1,58),(2,46)],14,104,some (.agg [.slice none 0 0,.slice none 0 0,.int .u32 0,.int .u32 0,.int .u32 0,.int .u32 0,.int .u32 0,.int .u32 0,.int .u32 0,.int .u32 0,.int .u8 0,.int .i64 0,.int .u32 0,.bool false])⟩,⟨.tuple [3,9,46],1,0,none⟩,fz,fz,fz,fz,⟨.tuple [36,29],1,0,none⟩,fz,fz,fz,fz,fz,fz,fz,fz,fz,fz,fz,⟨.slice 84,1,24,some (.slice none 0 0)⟩,fz,⟨.struct [(0,78),(1,3),(2,35),(3,3),(4,3),(5,4),(6,3),(7,79)],8,80,some (.agg [.slice none 0 0,.int .i64 0,.int .u64 0,.int .i64 0,.int .i64 0,.bool false,.int .i64 0,.nilFunc])⟩,⟨.struct [(0,78),(1,3),(2,35),(3,3),(4,3),(5,4),(6,3),(7,79)],8,80,some (.agg [.slice none 0 0,.int .i64 0,.int .u64 0,.int .i64 0,.int .i64 0,.bool false,.int .i64 0,.nilFunc])⟩,⟨.slice 36,1,24,some (.slice none 0 0)⟩,⟨.struct [(0,82),(1,3),(2,4),(3,4),(4,4),(5,3)],6,48,some (.agg [.slice none 0 0,.int .i64 0,.bool false,.bool false,.bool false,.int .i64 0])⟩,⟨.struct [(0,82),(1,3),(2,4),(3,4),(4,4),(5,3)],6,48,some (.agg [.slice none 0 0,.int .i64 0,.bool false,.bool false,.bool false,.int .i64 0])⟩,⟨.aj 120,1,8,some (.aj none)⟩,⟨.tuple [85,29],1,0,none⟩,fz,⟨.aj 91,1,8,some (.aj none)⟩,⟨.slice 138,1,24,some (.slice none 0 0)⟩,⟨.struct [(0,89)],1,24,some (.agg [.slice none 0 0])⟩,⟨.struct [(0,89)],1,24,some (.agg [.slice none 0 0])⟩,⟨.struct [(0,28),(1,26),(5,85),(6,88),(7,46),(19,4)],20,136,some (.agg [.aj none,.int .i64 0,.int .i64 0,.int .i64 0,.slice none 0 0,.aj none,.aj none,.int .u32 0,.int .u32 0,.int .u32 0,.int .u32 0,.int .u32 0,.int .u32 0,.int .u32 0,.int .u32 0,.int .u8 0,.int .i64 0,.int .u32 0,.bool false,.bool false])⟩,⟨.struct [(0,28),(1,26),(5,85),(6,88),(7,46),(19,4)],20,136,some (.agg [.aj none,.int .i64 0,.int .i64 0,.int .i64 0,.slice none 0 0,.aj none,.aj none,.int .u32 0,.int .u32 0,.int .u32 0,.int .u32 0,.int .u32 0,.int .u32 0,.int .u32 0,.int .u32 0,.int .u8 0,.int .i64 0,.int .u32 0,.bool false,.bool false])⟩,fz,⟨.tuple [46,3,29],1,0,none⟩,fz,fz,fz,fz,fz,fz,⟨.tuple [46,3],1,0,none⟩,fz,⟨.aj 84,1,8,some (.aj none)⟩,⟨.tuple [104,29],1,0,none⟩,fz,fz,⟨.struct [(0,3),(1,9)],2,24,some (.agg [.int .i64 0,.cI ⟨#[]⟩])⟩,⟨.struct [(0,3),(1,9)],2,24,some (.agg [.int .i64 0,.cI ⟨#[]⟩])⟩,⟨.aj 175,1,8,some (.aj none)⟩,⟨.map 3 130,1,8,some (.map none)⟩,⟨.struct [(0,110),(1,111),(2,35),(3,24)],4,48,some (.agg [.aj none,.map none,.int .u64 0,.slice none 0 0])⟩,⟨.struct [(0,110),(1,111),(2,35),(3,24)],4,48,some (.agg [.aj none,.map none,.int .u64 0,.slice none 0 0])⟩,⟨.tuple [113,29],1,0,none⟩,fz,⟨.aj 166,1,8,some (.aj none)⟩,⟨.tuple [116,29],1,0,none⟩,fz,⟨.struct [(0,28),(1,26),(5,35),(6,110),(7,116),(8,35)],9,88,some (.agg [.aj none,.int .i64 0,.int .i64 0,.int .i64 0,.slice none 0 0,.int .u64 0,.aj none,.aj none,.int .u64 0])⟩,⟨.struct [(0,28),(1,26),(5,35),(6,110),(7,116),(8,35)],9,88,some (.agg [.aj none,.int .i64 0,.int .i64 0,.int .i64 0,.slice none 0 0,.int .u64 0,.aj none,.aj none,.int .u64 0])⟩,fz,fz,fz,fz,⟨.struct [(0,5),(1,35),(2,35),(3,3),(4,3),(5,36)],6,64,some (.agg [.int .u8 0,.int .u64 0,.int .u64 0,.int .i64 0,.int .i64 0,.slice none 0 0])⟩,⟨.struct [(0,5),(1,35),(2,35),(3,3),(4,3),(5,36)],6,64,some (.agg [.int .u8 0,.int .u64 0,.int .u64 0,.int .i64 0,.int .i64 0,.slice none 0 0])⟩,⟨.struct [(0,3),(1,3)],2,16,some (.agg [.int .i64 0,.int .i64 0])⟩,⟨.struct [(0,3),(1,3)],2,16,some (.agg [.int .i64 0,.int .i64 0])⟩,⟨.struct [(0,128),(2,126)],8,80,some (.agg [.int .i64 0,.int .i64 0,.int .u8 0,.int .u64 0,.int .u64 0,.int .i64 0,.int .i64 0,.slice none 0 0])⟩,⟨.struct [(0,128),(2,126)],8,80,some (.agg [.int .i64 0,.int .i64 0,.int .u8 0,.int .u64 0,.int .u64 0,.int .i64 0,.int .i64 0,.slice none 0 0])⟩,⟨.tuple [126,29],1,0,none⟩,fz,⟨.aj 182,1,8,some (.aj none)⟩,fz,fz,fz,⟨.struct [(0,3),(1,36),(2,4)],3,40,some (.agg [.int .i64 0,.slice none 0 0,.bool false])⟩,⟨.struct [(0,3),(1,36),(2,4)],3,40,some (.agg [.int .i64 0,.slice none 0 0,.bool false])⟩,⟨.tuple [138,4],1,0,none⟩,fz,fz,⟨.tuple [46,29],1,0,none⟩,fz,fz,fz,fz,fz,fz,fz,fz,fz,fz,fz,fz,⟨.tuple [110,29],1,0,none⟩,fz,⟨.map 3 158,1,8,some (.map none)⟩,⟨.slice 130,1,24,some (.slice none 0 0)⟩,⟨.tuple [158,29],1,0,none⟩,fz,fz,⟨.tuple [130,4],1,0,none⟩,fz,⟨.map 3 5,1,8,some (.map none)⟩,⟨.struct [(0,24),(1,164)],2,32,some (.agg [.slice none 0 0,.map none])⟩,⟨.struct [(0,24),(1,164)],2,32,some (.agg [.slice none 0 0,.map none])⟩,fz,fz,⟨.tuple [5,4],1,0,none⟩,⟨.tuple [3,4],1,0,none⟩,fz,⟨.slice 128,1,24,some (.slice none 0 0)⟩,⟨.slice 4,1,24,some (.slice none 0 0)⟩,⟨.struct [(0,172),(1,173),(2,24)],3,72,some (.agg [.slice none 0 0,.slice none 0 0,.slice none 0 0])⟩,⟨.struct [(0,172),(1,173),(2,24)],3,72,some (.agg [.slice none 0 0,.slice none 0 0,.slice none 0 0])⟩,fz,⟨.arr 32 3,32,256,some (.agg [.int .i64 0,.int .i64 0,.int .i64 0,.int .i64 0,.int .i64 0,.int .i64 0,.int .i64 0,.int .i64 0,.int .i64 0,.int .i64 0,.int .i64 0,.int .i64 0,.int .i64 0,.int .i64 0,.int .i64 0,.int .i64 0,.int .i64 0,.int .i64 0,.int .i64 0,.int .i64 0,.int .i64 0,.int .i64 0,.int .i64 0,.int .i64 0,.int .i64 0,.int .i64 0,.int .i64 0,.int .i64 0,.int .i64 0,.int .i64 0,.int .i64 0,.int .i64 0])⟩,⟨.tuple [128,4],1,0,none⟩,fz,fz,⟨.struct [(0,36),(1,4)],2,32,some (.agg [.slice none 0 0,.bool false])⟩,⟨.struct [(0,36),(1,4)],2,32,some (.agg [.slice none 0 0,.bool false])⟩,fz,fz,fz,fz,fz,fz,fz,fz,fz,fz,⟨.tuple [4,4],1,0,none⟩,fz,fz,fz,fz,⟨.arr 6 5,6,6,some (.agg [.int .u8 0,.int .u8 0,.int .u8 0,.int .u8 0,.int .u8 0,.int .u8 0])⟩,fz,fz,fz,fz,fz,⟨.tuple [3,29],1,0,none⟩,fz,fz,fz,fz,fz,⟨.int .u64,1,8,some (.int .u64 0)⟩,fz,fz,fz,fz,fz,fz,fz,fz,⟨.tuple [210,210],1,0,none⟩,fz,⟨.tuple [39,39],1,0,none⟩,fz,⟨.tuple [35,35],1,0,none⟩,fz,fz,⟨.struct [(0,17),(1,17),(2,17),(3,9)],4,40,some (.agg [.aj none,.aj none,.aj none,.cI ⟨#[]⟩])⟩,⟨.struct [(0,17),(1,17),(2,17),(3,9)],4,40,some (.agg [.aj none,.aj none,.aj none,.cI ⟨#[]⟩])⟩,⟨.arr 0 16,0,0,some (.agg [])⟩,⟨.struct [(0,228)],0,0,some (.agg [])⟩,⟨.struct [(0,228)],0,0,some (.agg [])⟩,⟨.int .u8,1,1,some (.int .u8 0)⟩,⟨.int .u8,1,1,some (.int .u8 0)⟩,fz,⟨.aj 5,1,8,some (.aj none)⟩,⟨.int .i32,1,4,some (.int .i32 0)⟩,⟨.int .i32,1,4,some (.int .i32 0)⟩,⟨.struct [(0,12),(1,12),(2,39),(3,231),(4,5),(5,5),(6,232),(7,233),(8,234),(9,235),(10,236)],11,48,some (.agg [.int .u64 0,.int .u64 0,.int .u32 0,.int .u8 0,.int .u8 0,.int .u8 0,.int .u8 0,.nilFunc,.aj none,.int .i32 0,.int .i32 0])⟩,⟨.struct [(0,12),(1,12),(2,39),(3,231),(4,5),(5,5),(6,232),(7,233),(8,234),(9,235),(10,236)],11,48,some (.agg [.int .u64 0,.int .u64 0,.int .u32 0,.int .u8 0,.int .u8 0,.int .u8 0,.int .u8 0,.nilFunc,.aj none,.int .i32 0,.int .i32 0])⟩,⟨.mr,1,8,some (.aj none)⟩]
theorem T5:(List.range 240).map (QP Tryz.prog)=tab.map some:=by kernel_rfl
def k7:List cq:=[.int .i64,.int .i64,.bool,.int .u8]
def c7 (a b:Int) (c:Bool) (d:Int):List V:=[.int .i64 a,.int .i64 b,.bool c,.int .u8 d]
@[simp] theorem f7 (a:Int) (b:Int) (c:Bool) (d:Int):Am.aI k7 (c7 a b c d)=true:=rfl
def AS:List cq:=[.int .i64,.int .i64,.int .i64,.slice]
def dV (a b c:Int) (d:Oq) (e f:Nat):List V:=[.int .i64 a,.int .i64 b,.int .i64 c,.slice d e f]
def sM (l:List V):List V:=dV (ae l 0).aa (ae l 1).aa (ae l 2).aa (ae l 3).au (ae l 3).aw (ae l 3).aC
@[simp] theorem f25 (a:Int) (b:Int) (c:Int) (d:Oq) (e:Nat) (f:Nat):Am.aI AS (dV a b c d e f)=true:=rfl
@[simp] theorem xo (a b c d e f):sM (dV a b c d e f)=dV a b c d e f:=rfl
@[simp] theorem Ji (a b c d e f):ae (dV a b c d e f) 0=.int .i64 a:=rfl
@[simp] theorem Jj (a b c d e f):ae (dV a b c d e f) 1=.int .i64 b:=rfl
@[simp] theorem Jk (a b c d e f):ae (dV a b c d e f) 3=.slice d e f:=rfl
def k37:List cq:=[.int .u8,.int .u8,.int .u8,.int .u8,.int .u8,.int .u8,.bool,.bool,.slice,.int .u8]
def c37 (a b c d e f:Int) (g h:Bool) (i:Oq) (j l:Nat) (m:Int):List V:=[.int .u8 a,.int .u8 b,.int .u8 c,.int .u8 d,.int .u8 e,.int .u8 f,.bool g,.bool h,.slice i j l,.int .u8 m]
def o37 (l:List V):List V:=c37 (ae l 0).aa (ae l 1).aa (ae l 2).aa (ae l 3).aa (ae l 4).aa (ae l 5).aa (ae l 6).ak (ae l 7).ak (ae l 8).au (ae l 8).aw (ae l 8).aC (ae l 9).aa
def W6:List cq:=[.int .u8,.int .i64,.slice,.bool,.int .u32,.int .u32,.int .u8,.bool]
def ko (a b:Int) (c:Oq) (d e:Nat) (f:Bool) (g h i:Int) (j:Bool):List V:=[.int .u8 a,.int .i64 b,.slice c d e,.bool f,.int .u32 g,.int .u32 h,.int .u8 i,.bool j]
def Xy (l:List V):List V:=ko (ae l 0).aa (ae l 1).aa (ae l 2).au (ae l 2).aw (ae l 2).aC (ae l 3).ak (ae l 4).aa (ae l 5).aa (ae l 6).aa (ae l 7).ak
@[simp] theorem f40 (a:Int) (b:Int) (c:Oq) (d:Nat) (e:Nat) (f:Bool) (g:Int) (h:Int) (i:Int) (j:Bool):Am.aI W6 (ko a b c d e f g h i j)=true:=rfl
@[simp] theorem aa6 (a b c d e f g h i j):Xy (ko a b c d e f g h i j)=ko a b c d e f g h i j:=rfl
@[simp] theorem Xz (a b c d e f g h i j):ae (ko a b c d e f g h i j) 0=.int .u8 a:=rfl
@[simp] theorem XA (a b c d e f g h i j):ae (ko a b c d e f g h i j) 1=.int .i64 b:=rfl
@[simp] theorem XB (a b c d e f g h i j):ae (ko a b c d e f g h i j) 3=.bool f:=rfl
@[simp] theorem XC (a b c d e f g h i j):ae (ko a b c d e f g h i j) 4=.int .u32 g:=rfl
@[simp] theorem XD (a b c d e f g h i j):ae (ko a b c d e f g h i j) 5=.int .u32 h:=rfl
@[simp] theorem XE (a b c d e f g h i j):ae (ko a b c d e f g h i j) 6=.int .u8 i:=rfl
@[simp] theorem XF (a b c d e f g h i j):ae (ko a b c d e f g h i j) 7=.bool j:=rfl
def wS (a b c d e f g h:Int):List V:=[.int .u32 a,.int .u32 b,.int .u32 c,.int .u32 d,.int .u32 e,.int .u32 f,.int .u32 g,.int .u32 h]
def jn:List cq:=[.int .u32,.int .u32,.int .u32,.int .u32,.int .u32,.int .u32,.int .u32,.int .u32,.int .u8,.int .i64,.int .u32,.bool]
def bF (a b c d e f g h i j l:Int) (m:Bool):List V:=[.int .u32 a,.int .u32 b,.int .u32 c,.int .u32 d,.int .u32 e,.int .u32 f,.int .u32 g,.int .u32 h,.int .u8 i,.int .i64 j,.int .u32 l,.bool m]
def jA (l:List V):List V:=bF (ae l 0).aa (ae l 1).aa (ae l 2).aa (ae l 3).aa (ae l 4).aa (ae l 5).aa (ae l 6).aa (ae l 7).aa (ae l 8).aa (ae l 9).aa (ae l 10).aa (ae l 11).ak
@[simp] theorem f45 (a:Int) (b:Int) (c:Int) (d:Int) (e:Int) (f:Int) (g:Int) (h:Int) (i:Int) (j:Int) (l:Int) (m:Bool):Am.aI jn (bF a b c d e f g h i j l m)=true:=rfl
@[simp] theorem aa7 (a b c d e f g h i j l m):jA (bF a b c d e f g h i j l m)=bF a b c d e f g h i j l m:=rfl
@[simp] theorem S3 (a b c d e f g h i j l m):ae (bF a b c d e f g h i j l m) 0=.int .u32 a:=rfl
@[simp] theorem S4 (a b c d e f g h i j l m):ae (bF a b c d e f g h i j l m) 1=.int .u32 b:=rfl
@[simp] theorem S5 (a b c d e f g h i j l m):ae (bF a b c d e f g h i j l m) 2=.int .u32 c:=rfl
@[simp] theorem S6 (a b c d e f g h i j l m):ae (bF a b c d e f g h i j l m) 3=.int .u32 d:=rfl
@[simp] theorem S7 (a b c d e f g h i j l m):ae (bF a b c d e f g h i j l m) 4=.int .u32 e:=rfl
@[simp] theorem S8 (a b c d e f g h i j l m):ae (bF a b c d e f g h i j l m) 5=.int .u32 f:=rfl
@[simp] theorem S9 (a b c d e f g h i j l m):ae (bF a b c d e f g h i j l m) 6=.int .u32 g:=rfl
@[simp] theorem Ta (a b c d e f g h i j l m):ae (bF a b c d e f g h i j l m) 7=.int .u32 h:=rfl
@[simp] theorem NA (a b c d e f g h i j l m):ae (bF a b c d e f g h i j l m) 8=.int .u8 i:=rfl
@[simp] theorem NB (a b c d e f g h i j l m):ae (bF a b c d e f g h i j l m) 9=.int .i64 j:=rfl
@[simp] theorem NC (a b c d e f g h i j l m):ae (bF a b c d e f g h i j l m) 10=.int .u32 l:=rfl
@[simp] theorem ND (a b c d e f g h i j l m):ae (bF a b c d e f g h i j l m) 11=.bool m:=rfl
def T6:List cq:=[.int .i64,.slice,.int .u32,.int .u32,.int .u32,.int .u32,.int .u32,.int .u32,.int .u32,.int .u32,.int .u8,.int .i64,.int .u32,.bool]
def Du (a:Int) (b:Oq) (c d:Nat) (e f g h i j l m o p q:Int) (r:Bool):List V:=[.int .i64 a,.slice b c d,.int .u32 e,.int .u32 f,.int .u32 g,.int .u32 h,.int .u32 i,.int .u32 j,.int .u32 l,.int .u32 m,.int .u8 o,.int .i64 p,.int .u32 q,.bool r]
def o48 (l:List V):List V:=Du (ae l 0).aa (ae l 1).au (ae l 1).aw (ae l 1).aC (ae l 2).aa (ae l 3).aa (ae l 4).aa (ae l 5).aa (ae l 6).aa (ae l 7).aa (ae l 8).aa (ae l 9).aa (ae l 10).aa (ae l 11).aa (ae l 12).aa (ae l 13).ak
def c59 (a:Oq) (b c:Nat) (d:Oq) (e f:Nat) (g h i j l m o p q r s:Int) (t:Bool):List V:=[.slice a b c,.slice d e f,.int .u32 g,.int .u32 h,.int .u32 i,.int .u32 j,.int .u32 l,.int .u32 m,.int .u32 o,.int .u32 p,.int .u8 q,.int .i64 r,.int .u32 s,.bool t]
def c80 (a:Oq) (b c:Nat) (d e f g:Int) (h:Bool) (i:Int) (j:V):List V:=[.slice a b c,.int .i64 d,.int .u64 e,.int .i64 f,.int .i64 g,.bool h,.int .i64 i,j]
def k83:List cq:=[.slice,.int .i64,.bool,.bool,.bool,.int .i64]
def Tb (a:Oq) (b c:Nat) (d:Int) (e f g:Bool) (h:Int):List V:=[.slice a b c,.int .i64 d,.bool e,.bool f,.bool g,.int .i64 h]
def c92 (a:Oq) (b c d:Int) (e:Oq) (f g:Nat) (h i:Oq) (j l m o p q r s t u v:Int) (w x:Bool):List V:=[.aj a,.int .i64 b,.int .i64 c,.int .i64 d,.slice e f g,.aj h,.aj i,.int .u32 j,.int .u32 l,.int .u32 m,.int .u32 o,.int .u32 p,.int .u32 q,.int .u32 r,.int .u32 s,.int .u8 t,.int .i64 u,.int .u32 v,.bool w,.bool x]
def T7:List cq:=[.int .i64,.cI]
def HQ (a:Int) (b:ByteArray):List V:=[.int .i64 a,.cI b]
def XG (l:List V):List V:=HQ (ae l 0).aa (ae l 1).jr
@[simp] theorem f108 (a:Int) (b:ByteArray):Am.aI T7 (HQ a b)=true:=rfl
def nB:List cq:=[.aj,.map,.int .u64,.slice]
def cV (a:Oq) (b:Option Nat) (c:Int) (d:Oq) (e f:Nat):List V:=[.aj a,.map b,.int .u64 c,.slice d e f]
def p4 (l:List V):List V:=cV (ae l 0).ay (ae l 1).dv (ae l 2).aa (ae l 3).au (ae l 3).aw (ae l 3).aC
@[simp] theorem f112 (a:Oq) (b:Option Nat) (c:Int) (d:Oq) (e:Nat) (f:Nat):Am.aI nB (cV a b c d e f)=true:=rfl
@[simp] theorem wU (a b c d e f):p4 (cV a b c d e f)=cV a b c d e f:=rfl
@[simp] theorem T8 (a b c d e f):ae (cV a b c d e f) 0=.aj a:=rfl
@[simp] theorem T9 (a b c d e f):ae (cV a b c d e f) 1=.map b:=rfl
@[simp] theorem Ua (a b c d e f):ae (cV a b c d e f) 2=.int .u64 c:=rfl
def Ub (a:Oq) (b c d:Int) (e:Oq) (f g:Nat) (h:Int) (i j:Oq) (l:Int):List V:=[.aj a,.int .i64 b,.int .i64 c,.int .i64 d,.slice e f g,.int .u64 h,.aj i,.aj j,.int .u64 l]
def NF:List cq:=[.int .u8,.int .u64,.int .u64,.int .i64,.int .i64,.slice]
def fE (a b c d e:Int) (f:Oq) (g h:Nat):List V:=[.int .u8 a,.int .u64 b,.int .u64 c,.int .i64 d,.int .i64 e,.slice f g h]
def XH (l:List V):List V:=fE (ae l 0).aa (ae l 1).aa (ae l 2).aa (ae l 3).aa (ae l 4).aa (ae l 5).au (ae l 5).aw (ae l 5).aC
@[simp] theorem f125 (a:Int) (b:Int) (c:Int) (d:Int) (e:Int) (f:Oq) (g:Nat) (h:Nat):Am.aI NF (fE a b c d e f g h)=true:=rfl
@[simp] theorem XI (a b c d e f g h):XH (fE a b c d e f g h)=fE a b c d e f g h:=rfl
@[simp] theorem HS (a b c d e f g h):ae (fE a b c d e f g h) 0=.int .u8 a:=rfl
@[simp] theorem HT (a b c d e f g h):ae (fE a b c d e f g h) 1=.int .u64 b:=rfl
@[simp] theorem HU (a b c d e f g h):ae (fE a b c d e f g h) 2=.int .u64 c:=rfl
@[simp] theorem HV (a b c d e f g h):ae (fE a b c d e f g h) 3=.int .i64 d:=rfl
@[simp] theorem NG (a b c d e f g h):ae (fE a b c d e f g h) 4=.int .i64 e:=rfl
@[simp] theorem Dv (a b c d e f g h):ae (fE a b c d e f g h) 5=.slice f g h:=rfl
def HW:List cq:=[.int .i64,.int .i64]
def jg (a b:Int):List V:=[.int .i64 a,.int .i64 b]
def Rc (l:List V):List V:=jg (ae l 0).aa (ae l 1).aa
@[simp] theorem f127 (a:Int) (b:Int):Am.aI HW (jg a b)=true:=rfl
@[simp] theorem XJ (a b):Rc (jg a b)=jg a b:=rfl
@[simp] theorem Dw (a b):ae (jg a b) 0=.int .i64 a:=rfl
@[simp] theorem Dx (a b):ae (jg a b) 1=.int .i64 b:=rfl
def pf:List cq:=[.int .i64,.int .i64,.int .u8,.int .u64,.int .u64,.int .i64,.int .i64,.slice]
def kR (a b c d e f g:Int) (h:Oq) (i j:Nat):List V:=[.int .i64 a,.int .i64 b,.int .u8 c,.int .u64 d,.int .u64 e,.int .i64 f,.int .i64 g,.slice h i j]
def Ln (l:List V):List V:=kR (ae l 0).aa (ae l 1).aa (ae l 2).aa (ae l 3).aa (ae l 4).aa (ae l 5).aa (ae l 6).aa (ae l 7).au (ae l 7).aw (ae l 7).aC
def rD:List cq:=[.int .i64,.slice,.bool]
def gi (a:Int) (b:Oq) (c d:Nat) (e:Bool):List V:=[.int .i64 a,.slice b c d,.bool e]
def vG (l:List V):List V:=gi (ae l 0).aa (ae l 1).au (ae l 1).aw (ae l 1).aC (ae l 2).ak
@[simp] theorem f137 (a:Int) (b:Oq) (c:Nat) (d:Nat) (e:Bool):Am.aI rD (gi a b c d e)=true:=rfl
def Lo (a:Oq) (b c:Nat) (d:Option Nat):List V:=[.slice a b c,.map d]
def AT (a:Oq) (b c:Nat) (d:Oq) (e f:Nat) (g:Oq) (h i:Nat):List V:=[.slice a b c,.slice d e f,.slice g h i]
def XL:List cq:=[.int .i64,.int .i64,.int .i64,.int .i64,.int .i64,.int .i64,.int .i64,.int .i64,.int .i64,.int .i64,.int .i64,.int .i64,.int .i64,.int .i64,.int .i64,.int .i64,.int .i64,.int .i64,.int .i64,.int .i64,.int .i64,.int .i64,.int .i64,.int .i64,.int .i64,.int .i64,.int .i64,.int .i64,.int .i64,.int .i64,.int .i64,.int .i64]
def vH (a b c d e f g h i j l m o p q r s t u v w x y z A B C D E F G H:Int):List V:=[.int .i64 a,.int .i64 b,.int .i64 c,.int .i64 d,.int .i64 e,.int .i64 f,.int .i64 g,.int .i64 h,.int .i64 i,.int .i64 j,.int .i64 l,.int .i64 m,.int .i64 o,.int .i64 p,.int .i64 q,.int .i64 r,.int .i64 s,.int .i64 t,.int .i64 u,.int .i64 v,.int .i64 w,.int .i64 x,.int .i64 y,.int .i64 z,.int .i64 A,.int .i64 B,.int .i64 C,.int .i64 D,.int .i64 E,.int .i64 F,.int .i64 G,.int .i64 H]
def aa8 (l:List V):List V:=vH (ae l 0).aa (ae l 1).aa (ae l 2).aa (ae l 3).aa (ae l 4).aa (ae l 5).aa (ae l 6).aa (ae l 7).aa (ae l 8).aa (ae l 9).aa (ae l 10).aa (ae l 11).aa (ae l 12).aa (ae l 13).aa (ae l 14).aa (ae l 15).aa (ae l 16).aa (ae l 17).aa (ae l 18).aa (ae l 19).aa (ae l 20).aa (ae l 21).aa (ae l 22).aa (ae l 23).aa (ae l 24).aa (ae l 25).aa (ae l 26).aa (ae l 27).aa (ae l 28).aa (ae l 29).aa (ae l 30).aa (ae l 31).aa
def AU (a:Oq) (b c:Nat) (d:Bool):List V:=[.slice a b c,.bool d]
def aa9:List cq:=[.int .u8,.int .u8,.int .u8,.int .u8,.int .u8,.int .u8]
def nC (a b c d e f:Int):List V:=[.int .u8 a,.int .u8 b,.int .u8 c,.int .u8 d,.int .u8 e,.int .u8 f]
def aba (l:List V):List V:=nC (ae l 0).aa (ae l 1).aa (ae l 2).aa (ae l 3).aa (ae l 4).aa (ae l 5).aa
def eqs:List (TypeId×List cq):=[(46,[.int .u32,.int .u32,.int .u32,.int .u32,.int .u32,.int .u32,.int .u32,.int .u32,.int .u8,.int .i64,.int .u32,.bool]),(44,[.int .u32,.int .u32,.int .u32,.int .u32,.int .u32,.int .u32,.int .u32,.int .u32])]
theorem Uc:eqs.all (fun x=>K3 Tryz.prog x.1 x.2)=true:=by kernel_rfl
theorem yN:Tryz.prog.funcs.toList.all (fun fn=> !(fn.name == "runtime.NumGoroutine"))=true:=by kernel_rfl
def abb:bQ:={aY:=[7,13,15,16,21],aW:=[(7,7),(27,7),(29,7),(31,7),(13,13),(56,13),(60,13),(61,13),(15,15),(16,16),(111,16),(113,16),(21,21)],bg:=[(8,{cT:=[1,2,7,8,10,12],vo:=[7],cj:=[(2,.k (.bool)),(7,.lp 7),(8,.k (.aj)),(10,.k (.aj))],hI:=[(7,26,[.int .i64,.int .i64,.int .i64,.slice])],cA:=[0]}),(9,{cT:=[49],mg:=true,wT:=[42,43,44,45,46,47,48], }),(19,{dl:=true,wT:=[76,77], }),(24,{cj:=[(103,.k (.bool))],dl:=true,wT:=[92,93,94,95,96,97,98,99,100,101,102,103], })], }
def abd:bQ:={aY:=[5,14,16,18,22],aW:=[(5,5),(28,5),(30,5),(32,5),(14,14),(63,14),(69,14),(77,14),(16,16),(120,16),(125,16),(18,18),(112,18),(22,22)],bg:=[(11,{cT:=[1,6,8,9,10,11,12,13],cj:=[(10,.k (.int .i64))],mj:=[(4,.k (.bool))],cA:=[0]}),(12,{cT:=[56],mg:=true,wT:=[49,50,51,52,53,54,55], }),(25,{cT:=[128],mg:=true,wT:=[112,113,114,115,116,117,118,119,120,121,122,123,124,125,126,127], }),(26,{cj:=[(1,.k (.slice)),(6,.k (.aj)),(8,.k (.int .i64)),(9,.k (.aj)),(10,.k (.int .i64)),(11,.k (.aj)),(12,.k (.slice)),(13,.k (.int .i64))], }),(27,{cT:=[1,6,8,9,10,11,12,13],cj:=[(1,.k (.slice)),(6,.k (.aj)),(8,.k (.int .i64)),(9,.k (.aj)),(10,.k (.int .i64)),(11,.k (.aj)),(12,.k (.slice)),(13,.k (.int .i64))],cA:=[2]}),(28,{cj:=[(136,.k (.bool))],dl:=true,wT:=[129,130,131,132,133,134,135,136], })], }
def XM:bQ:={aY:=[1,7],aW:=[(1,1),(11,1),(13,1),(15,1),(7,7),(60,7)], }
def XN:bQ:={aY:=[2,3],aW:=[(2,2),(3,3),(18,3),(23,3),(28,3),(32,3)],bg:=[(2,{cT:=[21],mg:=true,wT:=[14,15,16,17,18,19,20], }),(3,{hI:=[(3,26,[.int .i64,.int .i64,.int .i64,.slice])],dl:=true,wT:=[22,23],wL:=[3]}),(5,{cT:=[31],mg:=true,wT:=[24,25,26,27,28,29,30], })], }
def XO:bQ:={bg:=[(1,{cT:=[24],mg:=true,wT:=[11,12,13,14,15,16,17,18,19,20,21,22,23], }),(6,{cT:=[0,8,30,31,32],cj:=[(8,.k (.aj))],mj:=[(6,.k (.aj)),(7,.k (.int .i64))],cA:=[0]}),(10,{cT:=[42],mg:=true,wT:=[36,37,38,39,40,41], })], }
def XP:bQ:={aY:=[4,12],aW:=[(4,4),(12,12)],bg:=[(8,{cj:=[(10,.k (.aj))],dl:=true,wT:=[10,27,28,29,30,31,32,33,34], })], }
def XQ:bQ:={aY:=[3,4,7,11],aW:=[(3,3),(12,3),(19,3),(24,3),(29,3),(31,3),(33,3),(37,3),(42,3),(48,3),(55,3),(59,3),(4,4),(51,4),(52,4),(7,7),(11,11),(54,11),(61,11)],bg:=[(6,{hI:=[(11,41,[.int .u8,.int .i64,.slice,.bool,.int .u32,.int .u32,.int .u8,.bool])],dl:=true,wT:=[50,51,52,53,54],wL:=[11]})], }
def XR:bQ:={aY:=[2],aW:=[(2,2)], }
def XS:bQ:={aY:=[5,6,9],aW:=[(5,5),(6,6),(9,9),(39,9)],bg:=[(9,{cT:=[32],mg:=true,wT:=[27,28,29,30,31], })], }
def XT:bQ:={bg:=[(5,{dl:=true,wT:=[12,13,14,15,16,17], })], }
def XU:bQ:={aY:=[1],aW:=[(1,1),(3,1),(9,1),(11,1),(15,1)], }
def XV:bQ:={}
def XW:bQ:={aY:=[5,8,9],aW:=[(5,5),(30,5),(51,5),(58,5),(60,5),(63,5),(69,5),(71,5),(8,8),(9,9)], }
def XX:bQ:={aY:=[4,7],aW:=[(4,4),(9,4),(14,4),(21,4),(7,7)], }
def XY:bQ:={aY:=[9],aW:=[(9,9),(56,9),(61,9)],bg:=[(1,{cj:=[(27,.k (.bool))],dl:=true,wT:=[11,12,13,14,15,16,17,18,19,20,21,22,23,24,25,26,27], }),(5,{cT:=[0,1,2,7],mj:=[(6,.k (.bool))],cA:=[0]}),(9,{cT:=[0,1,2,7,8],cj:=[(0,.k (.aj)),(1,.k (.aj)),(2,.k (.int .i64)),(7,.k (.int .i64))],mj:=[(6,.k (.bool))],cA:=[2]}),(15,{cj:=[(68,.k (.bool))],dl:=true,wT:=[53,54,55,56,57,58,59,60,61,62,63,64,65,66,67,68], })], }
def XZ:bQ:={bg:=[(5,{cT:=[20],mg:=true,wT:=[21,22,23,24,25,26,27,28,29,30], })], }
def X0:bQ:={}
def X1:bQ:={}
def X2:bQ:={bg:=[(0,{cT:=[0],cA:=[0]})], }
def X3:bQ:={aY:=[1],aW:=[(1,1),(8,1),(14,1),(22,1)],bg:=[(3,{cT:=[1,3,4],vo:=[1],cj:=[(3,.k (.slice))],cA:=[0]}),(8,{cT:=[1,3,4,5,6],vo:=[1],cj:=[(1,.lp 1),(3,.k (.slice)),(4,.k (.int .i64)),(5,.k (.bool))],hI:=[(1,26,[.int .i64,.int .i64,.int .i64,.slice])],cA:=[2]}),(11,{cT:=[5],mg:=true,wT:=[20,21,22,23,24,25,26,27,28,29], })], }
def X4:bQ:={bg:=[(4,{cT:=[10],mg:=true,wT:=[11,12,13,14,15,16,17,18,19,20,21,22,23,24,25], })], }
def X5:bQ:={}
def X6:bQ:={bg:=[(2,{cT:=[0,2,3],cj:=[(0,.k (.aj)),(2,.k (.int .i64))],cA:=[0]})], }
def X7:bQ:={}
def X8:bQ:={aY:=[4,8],aW:=[(4,4),(105,4),(8,8),(45,8),(48,8),(96,8)],bg:=[(1,{cT:=[26],mg:=true,wT:=[21,22,23,24,25], }),(12,{cT:=[0,4,8,10,12,13,14,53,54,55],vo:=[4,8],cj:=[(10,.k (.aj)),(12,.k (.aj)),(14,.k (.int .i64))],mj:=[(6,.k (.aj)),(7,.k (.int .i64))],cA:=[0]}),(29,{cT:=[0,4,8,10,12,13,14,16,53,54,55,90,91,92],vo:=[4,8],cj:=[(0,.k (.aj)),(4,.lp 4),(8,.lp 8),(10,.k (.aj)),(12,.k (.aj)),(13,.k (.int .u64)),(14,.k (.int .i64)),(53,.k (.slice)),(54,.k (.int .i64)),(55,.k (.int .i64))],hI:=[(4,26,[.int .i64,.int .i64,.int .i64,.slice]),(8,113,[.aj,.map,.int .u64,.slice])],cA:=[2]}),(34,{cT:=[112],mg:=true,wT:=[102,103,104,105,106,107,108,109,110,111], })], }
def X9:bQ:={aY:=[0],aW:=[(0,0)], }
def Ya:bQ:={aY:=[7],aW:=[(7,7),(24,7)], }
def Yb:bQ:={aY:=[1],aW:=[(1,1)], }
def Yc:bQ:={aY:=[2,6],aW:=[(2,2),(6,6),(18,6),(19,6),(28,6),(29,6),(36,6),(37,6)],bg:=[(4,{cT:=[2,5,6,11],vo:=[2,6],cj:=[(2,.lp 2),(5,.k (.aj)),(6,.lp 6)],hI:=[(2,46,[.int .u32,.int .u32,.int .u32,.int .u32,.int .u32,.int .u32,.int .u32,.int .u32,.int .u8,.int .i64,.int .u32,.bool]),(6,46,[.int .u32,.int .u32,.int .u32,.int .u32,.int .u32,.int .u32,.int .u32,.int .u32,.int .u8,.int .i64,.int .u32,.bool])],cA:=[0]}),(13,{cj:=[(48,.k (.bool))],dl:=true,wT:=[41,42,43,44,45,46,47,48], })], }
def Yd:bQ:={aY:=[3,6],aW:=[(3,3),(11,3),(15,3),(6,6)], }
def Ye:bQ:={}
def Yf:bQ:={bg:=[(5,{cj:=[(13,.k (.bool))],dl:=true,wT:=[13,14,15,16,17,18,19,20,21,22,23,24,25,26,27,28,29,30], })], }
def Yg:bQ:={aY:=[5,6,8,12],aW:=[(5,5),(36,5),(45,5),(59,5),(71,5),(73,5),(76,5),(83,5),(86,5),(6,6),(8,8),(51,8),(12,12)],bg:=[(29,{cT:=[120],mg:=true,wT:=[111,112,113,114,115,116,117,118,119], }),(32,{cj:=[(14,.k (.int .i64))],dl:=true,wT:=[14,123,124,125,126,127,128,129,130,131,132,133,134,135,136,137,138,139], })], }
def Yh:bQ:={aY:=[4],aW:=[(4,4),(14,4),(18,4),(22,4),(26,4),(32,4),(36,4)],bg:=[(1,{cT:=[17],mg:=true,wT:=[7,8,9,10,11,12,13,14,15,16], }),(4,{cT:=[31],mg:=true,wT:=[18,19,20,21,22,23,24,25,26,27,28,29,30], }),(7,{cT:=[6],mg:=true,wT:=[32,33,34,35,36,37,38,39,40], })], }
def Yi:bQ:={aY:=[3,5],aW:=[(3,3),(5,5),(7,5),(12,5)], }
def Yj:bQ:={bg:=[(2,{cT:=[0,1,5],cj:=[(0,.k (.aj)),(1,.k (.int .i64))],mj:=[(4,.k (.cI))],cA:=[0]})], }
def Yk:bQ:={bg:=[(2,{cT:=[0,1,2,3,8,9],cj:=[(0,.k (.aj)),(1,.k (.int .i64)),(2,.k (.cI)),(3,.k (.bool)),(8,.k (.bool))],cA:=[0]}),(5,{cT:=[8],mg:=true,wT:=[19,20,21,22,23,24,25,26,27,28,29,30,31], }),(7,{cT:=[45],mg:=true,wT:=[32,33,34,35,36,37,38,39,40,41,42,43,44], }),(8,{dl:=true,wT:=[46,47], })], }
def Yl:bQ:={aY:=[3,5,6,8],aW:=[(3,3),(53,3),(54,3),(188,3),(202,3),(210,3),(229,3),(75,3),(80,3),(89,3),(93,3),(100,3),(101,3),(117,3),(118,3),(128,3),(129,3),(143,3),(147,3),(5,5),(20,5),(25,5),(30,5),(34,5),(39,5),(44,5),(50,5),(58,5),(62,5),(69,5),(176,5),(180,5),(184,5),(207,5),(212,5),(231,5),(71,5),(85,5),(103,5),(123,5),(131,5),(167,5),(6,6),(8,8),(172,8),(175,8),(178,8),(182,8),(183,8),(244,8),(245,8),(248,8),(251,8),(137,8),(138,8),(160,8),(163,8)],bg:=[(1,{cT:=[28],mg:=true,wT:=[13,14,15,16,17,18,19,20,21,22,23,24,25,26,27], }),(4,{cj:=[(48,.k (.bool))],dl:=true,wT:=[30,31,32,33,34,35,36,37,38,39,40,41,42,43,44,45,46,47,48], }),(7,{cT:=[66],mg:=true,wT:=[50,51,52,53,54,55,56,57,58,59,60,61,62,63,64,65], }),(17,{cj:=[(197,.k (.bool))],dl:=true,wT:=[184,185,186,187,188,189,190,191,192,193,194,195,196,197], }),(25,{cj:=[(220,.k (.bool))],dl:=true,wT:=[210,211,212,213,214,215,216,217,218,219,220], }),(40,{cT:=[6,8,9],vo:=[6,8],cj:=[(6,.lp 6),(8,.lp 8)],hI:=[(6,46,[.int .u32,.int .u32,.int .u32,.int .u32,.int .u32,.int .u32,.int .u32,.int .u32,.int .u8,.int .i64,.int .u32,.bool]),(8,46,[.int .u32,.int .u32,.int .u32,.int .u32,.int .u32,.int .u32,.int .u32,.int .u32,.int .u8,.int .i64,.int .u32,.bool])],cA:=[3]}),(47,{cT:=[83],mg:=true,wT:=[71,72,73,74,75,76,77,78,79,80,81,82], }),(50,{cT:=[10],mg:=true,wT:=[85,86,87,88,89,90,91,92,93,94,95,96,97,98,99,100,101,102,103,104,105,106,107], }),(53,{cT:=[1,3,5,6,8,10,11,12],vo:=[3,5,6,8],cj:=[(1,.k (.int .i64)),(3,.lp 3),(5,.lp 5),(6,.lp 6),(8,.lp 8),(10,.k (.bool)),(11,.k (.int .i64))],hI:=[(3,46,[.int .u32,.int .u32,.int .u32,.int .u32,.int .u32,.int .u32,.int .u32,.int .u32,.int .u8,.int .i64,.int .u32,.bool]),(5,41,[.int .u8,.int .i64,.slice,.bool,.int .u32,.int .u32,.int .u8,.bool]),(6,46,[.int .u32,.int .u32,.int .u32,.int .u32,.int .u32,.int .u32,.int .u32,.int .u32,.int .u8,.int .i64,.int .u32,.bool]),(8,46,[.int .u32,.int .u32,.int .u32,.int .u32,.int .u32,.int .u32,.int .u32,.int .u32,.int .u8,.int .i64,.int .u32,.bool])],cA:=[1]}),(56,{cT:=[135],mg:=true,wT:=[112,113,114,115,116,117,118,119,120,121,122,123,124,125,126,127,128,129,130,131,132,133,134], }),(60,{cT:=[10],mg:=true,wT:=[141,142,143,144,145,146,147,148,149,150,151,152], }),(62,{cT:=[158],mg:=true,wT:=[153,154,155,156,157], })], }
def Ym:bQ:={bg:=[(4,{cT:=[9],mg:=true,wT:=[10,11,12,13,14,15,16,17,18,19,20], })], }
def Yn:bQ:={}
def Yo:bQ:={}
def Yp:bQ:={aY:=[4],aW:=[(4,4),(26,4)],bg:=[(2,{cT:=[0,10,11,12],mj:=[(2,.k (.int .i64))],cA:=[0]})], }
def Yq:bQ:={bg:=[(2,{cT:=[0,1,4,5],cj:=[(0,.k (.aj)),(4,.k (.slice))],cA:=[0]})], }
def Yr:bQ:={}
def Ys:bQ:={aY:=[3,4,8,15,21,22,25],aW:=[(3,3),(35,3),(42,3),(51,3),(4,4),(8,8),(87,8),(93,8),(106,8),(111,8),(131,8),(150,8),(158,8),(15,15),(89,15),(90,15),(21,21),(133,21),(134,21),(145,21),(146,21),(152,21),(153,21),(22,22),(142,22),(143,22),(25,25),(168,25)],bg:=[(4,{cj:=[(45,.k (.bool))],dl:=true,wT:=[29,30,31,32,33,34,35,36,37,38,39,40,41,42,43,44,45], }),(11,{cT:=[0,3,4,6,8,9,61,62,63],vo:=[3,4,8],cj:=[(3,.lp 3),(4,.lp 4),(6,.k (.aj)),(8,.lp 8),(9,.k (.map))],hI:=[(3,26,[.int .i64,.int .i64,.int .i64,.slice]),(4,113,[.aj,.map,.int .u64,.slice]),(8,113,[.aj,.map,.int .u64,.slice])],mj:=[(4,.lp 4),(5,.k (.int .i64))],TZ:=[(4,113,[.aj,.map,.int .u64,.slice])],cA:=[0]}),(21,{cT:=[0,3,4,6,8,9,61,62,63,81,82,83],vo:=[3,4,8],cj:=[(0,.k (.aj)),(3,.lp 3),(4,.lp 4),(6,.k (.aj)),(8,.lp 8),(9,.k (.map)),(61,.k (.slice)),(62,.k (.int .i64)),(63,.k (.int .i64))],hI:=[(3,26,[.int .i64,.int .i64,.int .i64,.slice]),(4,113,[.aj,.map,.int .u64,.slice]),(8,113,[.aj,.map,.int .u64,.slice])],cA:=[2]}),(29,{cT:=[3,4,6,8,9,97,98,99],vo:=[3,4,8],cj:=[(3,.lp 3),(4,.lp 4),(6,.k (.aj)),(8,.lp 8),(9,.k (.map))],hI:=[(3,26,[.int .i64,.int .i64,.int .i64,.slice]),(4,113,[.aj,.map,.int .u64,.slice]),(8,113,[.aj,.map,.int .u64,.slice])],cA:=[4]}),(39,{cT:=[4,6,8,9,116,117,118],vo:=[4,8],cj:=[(4,.lp 4),(6,.k (.aj)),(8,.lp 8)],hI:=[(4,113,[.aj,.map,.int .u64,.slice]),(8,113,[.aj,.map,.int .u64,.slice])],cA:=[6]}),(44,{cT:=[4,6,8,9,116,117,118,124,125,126],vo:=[4,8],cj:=[(4,.lp 4),(6,.k (.aj)),(8,.lp 8),(9,.k (.map)),(116,.k (.slice)),(117,.k (.int .i64)),(118,.k (.int .i64))],hI:=[(4,113,[.aj,.map,.int .u64,.slice]),(8,113,[.aj,.map,.int .u64,.slice])],cA:=[8]}),(49,{cT:=[149],mg:=true,wT:=[139,140,141,142,143,144,145,146,147,148], }),(55,{cT:=[4,6,8,160],vo:=[4,8],cj:=[(4,.lp 4),(8,.lp 8)],hI:=[(4,113,[.aj,.map,.int .u64,.slice]),(8,113,[.aj,.map,.int .u64,.slice])],cA:=[10]})], }
def Yt:bQ:={bg:=[(3,{cT:=[0,4,10,11,12],cj:=[(0,.k (.slice)),(4,.k (.aj))],mj:=[(2,.k (.aj)),(3,.k (.int .i64))],cA:=[0]}),(7,{cT:=[35],mg:=true,wT:=[17,18,19,20,21,22,23,24,25,26,27,28,29,30,31,32,33,34], })], }
def Yu:bQ:={aY:=[1],aW:=[(1,1),(6,1),(11,1)],bg:=[(3,{cT:=[1,3,4],vo:=[1],cj:=[(3,.k (.slice))],cA:=[0]})], }
def Yv:bQ:={bg:=[(1,{cT:=[4],mg:=true,wT:=[5,6,7,8,9,10,11,12,13,14,15,16,17,18,19,20,21,22,23,24,25,26,27,28,29], })], }
def Yw:bQ:={bg:=[(5,{cT:=[22],mg:=true,wT:=[23,24,25,26,27,28], }),(8,{cT:=[29],mg:=true,wT:=[30,31,32,33,34,35], })], }
def Yx:bQ:={bg:=[(1,{cT:=[19],mg:=true,wT:=[5,6,7,8,9,10,11,12,13,14,15,16,17,18], })], }
def Yy:bQ:={bg:=[(1,{cT:=[19],mg:=true,wT:=[5,6,7,8,9,10,11,12,13,14,15,16,17,18], })], }
def Yz:bQ:={}
def YA:bQ:={aY:=[5,7],aW:=[(5,5),(64,5),(7,7),(55,7),(60,7)],bg:=[(1,{cT:=[35],mg:=true,wT:=[11,12,13,14,15,16,17,18,19,20,21,22,23,24,25,26,27,28,29,30,31,32,33,34], }),(6,{cT:=[0,1,5,40,41,42],vo:=[5],cj:=[(5,.lp 5)],hI:=[(5,177,[.int .i64,.int .i64,.int .i64,.int .i64,.int .i64,.int .i64,.int .i64,.int .i64,.int .i64,.int .i64,.int .i64,.int .i64,.int .i64,.int .i64,.int .i64,.int .i64,.int .i64,.int .i64,.int .i64,.int .i64,.int .i64,.int .i64,.int .i64,.int .i64,.int .i64,.int .i64,.int .i64,.int .i64,.int .i64,.int .i64,.int .i64,.int .i64])],cA:=[0]}),(10,{cT:=[59],mg:=true,wT:=[47,48,49,50,51,52,53,54,55,56,57,58], }),(16,{cT:=[8,66,67],cj:=[(8,.k (.slice))],cA:=[2]})], }
def YB:bQ:={}
def YC:bQ:={aY:=[4,6],aW:=[(4,4),(6,6),(28,6),(30,6)], }
def YD:bQ:={aY:=[1],aW:=[(1,1),(3,1),(8,1)], }
def YE:bQ:={}
def YF:bQ:={}
def YG:bQ:={bg:=[(1,{cT:=[2],mg:=true,wT:=[3,4,5,6,7,8,9,10,11,12,13,14,15,16,17,18,19], })], }
def YH:bQ:={aY:=[1],aW:=[(1,1),(7,1),(11,1),(16,1),(20,1),(26,1),(37,1),(41,1),(46,1),(51,1),(59,1),(61,1),(62,1),(68,1)],bg:=[(1,{cj:=[(25,.k (.bool))],dl:=true,wT:=[7,8,9,10,11,12,13,14,15,16,17,18,19,20,21,22,23,24,25], }),(6,{cT:=[1,3,27,28],vo:=[1],cj:=[(1,.lp 1),(3,.k (.bool))],hI:=[(1,46,[.int .u32,.int .u32,.int .u32,.int .u32,.int .u32,.int .u32,.int .u32,.int .u32,.int .u8,.int .i64,.int .u32,.bool])],cA:=[0]}),(10,{cT:=[3],mg:=true,wT:=[31,32,33,34,35], }),(12,{cT:=[6],mg:=true,wT:=[37,38,39,40,41,42,43,44,45,46,47,48,49], }),(13,{cT:=[2],mg:=true,wT:=[50,51,52,53,54,55,56,57,58,59,60,61,62,63,64,65,66,67,68,69,70,71,72,73,74], })], }
def YI:bQ:={bg:=[(1,{cT:=[2],mg:=true,wT:=[3,4,5,6,7,8,9,10,11], })], }
def YJ:bQ:={}
def YK:bQ:={aY:=[4],aW:=[(4,4),(8,4),(12,4),(17,4),(28,4),(36,4),(40,4),(48,4),(52,4)],bg:=[(1,{cT:=[7],mg:=true,wT:=[8,9,10,11,12,13,14,15,16,17,18,19,20], }),(2,{cT:=[6],mg:=true,wT:=[21,22,23,24,25,26,27,28,29,30,31,32,33,34,35,36,37,38,39,40,41,42,43,44,45,46,47,48,49,50,51,52,53,54,55,56,57], })], }
def YL:bQ:={aY:=[3,5],aW:=[(3,3),(5,5),(7,5)],bg:=[(6,{cj:=[(14,.k (.bool))],dl:=true,wT:=[14,16,17], })], }
def YM:bQ:={aY:=[4,8],aW:=[(4,4),(8,8),(28,8),(31,8)], }
def YN:bQ:={aY:=[4],aW:=[(4,4),(20,4)], }
def YO:bQ:={aY:=[3,5,6,9],aW:=[(3,3),(49,3),(50,3),(77,3),(86,3),(94,3),(109,3),(119,3),(122,3),(5,5),(17,5),(22,5),(27,5),(31,5),(36,5),(42,5),(52,5),(56,5),(60,5),(67,5),(88,5),(99,5),(111,5),(6,6),(9,9)],bg:=[(1,{cT:=[25],mg:=true,wT:=[10,11,12,13,14,15,16,17,18,19,20,21,22,23,24], }),(4,{cT:=[8],mg:=true,wT:=[27,28,29,30,31,32,33,34,35,36,37,38,39], }),(5,{cj:=[(46,.k (.bool))],dl:=true,wT:=[40,41,42,43,44,45,46], }),(8,{cT:=[64],mg:=true,wT:=[48,49,50,51,52,53,54,55,56,57,58,59,60,61,62,63], }),(18,{cj:=[(92,.k (.bool))],dl:=true,wT:=[77,78,79,80,81,82,83,84,85,86,87,88,89,90,91,92], })], }
def YP:bQ:={}
def YQ:bQ:={aY:=[2],aW:=[(2,2),(9,2),(20,2),(24,2),(29,2),(32,2)],bg:=[(3,{cT:=[1,2,5,10,11],vo:=[2],cj:=[(1,.k (.int .i64)),(2,.lp 2),(5,.k (.slice))],hI:=[(2,46,[.int .u32,.int .u32,.int .u32,.int .u32,.int .u32,.int .u32,.int .u32,.int .u32,.int .u8,.int .i64,.int .u32,.bool])],cA:=[0]}),(12,{cj:=[(8,.k (.int .u64))],dl:=true,wT:=[8], })], }
def YR:bQ:={aY:=[3],aW:=[(3,3),(14,3),(23,3),(24,3),(27,3)],bg:=[(1,{cT:=[13],mg:=true,wT:=[8,9,10,11,12], }),(4,{cj:=[(21,.k (.bool))],dl:=true,wT:=[14,15,16,17,18,19,20,21], }),(13,{cj:=[(33,.k (.bool))],dl:=true,wT:=[33,35], }),(16,{cT:=[6],mg:=true,wT:=[36,37,38,39,40], })], }
def YS:bQ:={bg:=[(1,{cT:=[2],mg:=true,wT:=[3,4,5,6,7,8,9,10,11,12,13,14,15,16], })], }
def YT:bQ:={aY:=[1],aW:=[(1,1),(9,1),(10,1)],bg:=[(2,{cT:=[1,3],vo:=[1],mj:=[(2,.k (.bool))],cA:=[0]})], }
def YU:bQ:={aY:=[1,2],aW:=[(1,1),(3,1),(4,1),(2,2)], }
def YV:bQ:={aY:=[3,6],aW:=[(3,3),(8,3),(10,3),(17,3),(6,6)],bg:=[(3,{cT:=[16],mg:=true,wT:=[11,12,13,14,15], })], }
def YW:bQ:={aY:=[2],aW:=[(2,2),(11,2),(19,2),(20,2),(23,2)],bg:=[(1,{cT:=[10],mg:=true,wT:=[5,6,7,8,9], }),(9,{cj:=[(15,.k (.bool))],dl:=true,wT:=[15,17], })], }
def YX:bQ:={aY:=[5],aW:=[(5,5),(17,5),(20,5)],bg:=[(5,{cT:=[3,11,12,13],cj:=[(3,.k (.slice))],cA:=[0]})], }
def YY:bQ:={aY:=[3],aW:=[(3,3),(5,3),(11,3),(18,3),(20,3)], }
def YZ:bQ:={}
def Y0:bQ:={bg:=[(5,{cT:=[1,5,14],cj:=[(5,.k (.int .i64))],cA:=[0]})], }
def Y1:bQ:={aY:=[1],aW:=[(1,1),(5,1),(9,1),(14,1),(19,1),(24,1),(29,1),(33,1),(45,1),(50,1)],bg:=[(1,{cT:=[32],mg:=true,wT:=[5,6,7,8,9,10,11,12,13,14,15,16,17,18,19,20,21,22,23,24,25,26,27,28,29,30,31], }),(5,{cT:=[1,34,35,36],vo:=[1],cj:=[(1,.lp 1)],hI:=[(1,26,[.int .i64,.int .i64,.int .i64,.slice])],mj:=[(2,.k (.bool))],cA:=[0]})], }
def Y2:bQ:={}
def Y3:bQ:={}
def Y4:bQ:={bg:=[(1,{cT:=[19],mg:=true,wT:=[6,7,8,9,10,11,12,13,14,15,16,17,18], }),(4,{cj:=[(4,.k (.aj)),(5,.k (.int .i64))],dl:=true,wT:=[4,5,20,21,22,23,24,25,26,27], })], }
def Y5:bQ:={aY:=[4,12],aW:=[(4,4),(22,4),(29,4),(12,12),(66,12),(71,12)],bg:=[(4,{cj:=[(39,.k (.bool))],dl:=true,wT:=[16,17,18,19,20,21,22,23,24,25,26,27,28,29,30,31,32,33,34,35,36,37,38,39], }),(9,{cT:=[0,2,4,8,42,43],vo:=[4],cj:=[(8,.k (.slice))],mj:=[(6,.k (.slice)),(7,.k (.int .i64))],cA:=[0]}),(20,{cj:=[(76,.k (.bool))],dl:=true,wT:=[63,64,65,66,67,68,69,70,71,72,73,74,75,76], })], }
def Y6:bQ:={bg:=[(6,{cT:=[0,5,23,24,25],mj:=[(4,.k (.bool))],cA:=[0]}),(11,{cT:=[46],mg:=true,wT:=[34,35,36,37,38,39,40,41,42,43,44,45], })], }
def Ud:bQ:={aY:=[5],aW:=[(5,5),(23,5),(28,5),(38,5),(43,5),(67,5)],bg:=[(4,{cT:=[10],mg:=true,wT:=[11,12,13,14,15,16,17,18,19,20,21,22,23,24,25,26,27,28,29,30,31,32,33,34,35,36,37,38,39,40,41,42,43,44,45,46], })], }
def Ue:bQ:={}
def Uf:bQ:={}
def Uh:bQ:={bg:=[(4,{cT:=[0,11,12,13],mj:=[(2,.k (.int .i64)),(3,.k (.bool))],cA:=[0]})], }
def Uj:bQ:={}
def Uk:bQ:={aY:=[4],aW:=[(4,4)],bg:=[(1,{cT:=[30],mg:=true,wT:=[6,7,8,9,10,11,12,13,14,15,16,17,18,19,20,21,22,23,24,25,26,27,28,29], })], }
def Ul:bQ:={aY:=[2,7],aW:=[(2,2),(7,7),(38,7),(39,7),(47,7),(48,7),(51,7)],bg:=[(1,{cT:=[16],mg:=true,wT:=[8,9,10,11,12,13,14,15], }),(13,{cj:=[(66,.k (.bool))],dl:=true,wT:=[52,53,54,55,56,57,58,59,60,61,62,63,64,65,66], })], }
def Um:bQ:={bg:=[(3,{cT:=[3,6,7,8],cj:=[(3,.k (.int .u64))],cA:=[0]})], }
def Uo:bQ:={bg:=[(1,{cT:=[18],mg:=true,wT:=[6,7,8,9,10,11,12,13,14,15,16,17], })], }
def Uq:bQ:={bg:=[(2,{cT:=[0,5,6],mj:=[(2,.k (.bool))],cA:=[0]})], }
def Ur:bQ:={aY:=[3],aW:=[(3,3),(13,3),(21,3),(36,3),(37,3),(42,3),(43,3)],bg:=[(1,{cT:=[12],mg:=true,wT:=[7,8,9,10,11], }),(4,{cj:=[(20,.k (.bool))],dl:=true,wT:=[13,14,15,16,17,18,19,20], }),(15,{cj:=[(29,.k (.bool))],dl:=true,wT:=[29,31], }),(18,{cT:=[6],mg:=true,wT:=[32,33,34,35,36,37,38,39,40], })], }
def Us:bQ:={}
def Ut:bQ:={aY:=[3],aW:=[(3,3),(11,3),(15,3),(20,3),(24,3),(27,3),(28,3),(30,3),(33,3)],bg:=[(4,{cT:=[10],mg:=true,wT:=[11,12,13,14,15,16,17,18], }),(12,{hI:=[(3,138,[.int .i64,.slice,.bool])],dl:=true,wT:=[30],wL:=[3]}),(21,{dl:=true,wT:=[38,39,40,41,42,43,44,45,46,47,48], })], }
def Uu:bQ:={aY:=[3,5,6],aW:=[(3,3),(7,3),(10,3),(13,3),(23,3),(24,3),(5,5),(11,5),(14,5),(21,5),(6,6)], }
def Uv:bQ:={aY:=[2],aW:=[(2,2),(12,2),(16,2),(21,2),(26,2),(27,2)],bg:=[(1,{cT:=[15],mg:=true,wT:=[5,6,7,8,9,10,11,12,13,14], })], }
def Uw:bQ:={aY:=[3,6],aW:=[(3,3),(9,3),(10,3),(13,3),(6,6)], }
def Ux:bQ:={aY:=[1,2],aW:=[(1,1),(3,1),(4,1),(2,2)], }
def Uy:bQ:={aY:=[3,5,6,10],aW:=[(3,3),(17,3),(30,3),(31,3),(35,3),(40,3),(47,3),(73,3),(5,5),(13,5),(23,5),(27,5),(62,5),(66,5),(97,5),(6,6),(10,10),(79,10),(80,10),(89,10),(92,10)],bg:=[(1,{cj:=[(21,.k (.bool))],dl:=true,wT:=[13,14,15,16,17,18,19,20,21], }),(5,{cT:=[9],mg:=true,wT:=[23,24,25,26,27,28,29,30,31,32,33,34,35,36,37,38,39,40,41,42,43,44,45], }),(8,{cT:=[1,3,5,6,8,9,10,48,49],vo:=[3,5,6,10],cj:=[(1,.k (.int .i64)),(3,.lp 3),(5,.lp 5),(6,.lp 6),(8,.k (.bool)),(9,.k (.bool)),(10,.lp 10)],hI:=[(3,46,[.int .u32,.int .u32,.int .u32,.int .u32,.int .u32,.int .u32,.int .u32,.int .u32,.int .u8,.int .i64,.int .u32,.bool]),(5,41,[.int .u8,.int .i64,.slice,.bool,.int .u32,.int .u32,.int .u8,.bool]),(6,46,[.int .u32,.int .u32,.int .u32,.int .u32,.int .u32,.int .u32,.int .u32,.int .u32,.int .u8,.int .i64,.int .u32,.bool]),(10,46,[.int .u32,.int .u32,.int .u32,.int .u32,.int .u32,.int .u32,.int .u32,.int .u32,.int .u8,.int .i64,.int .u32,.bool])],cA:=[0]}),(12,{cT:=[70],mg:=true,wT:=[53,54,55,56,57,58,59,60,61,62,63,64,65,66,67,68,69], }),(15,{cT:=[9],mg:=true,wT:=[71,72,73,74,75,76,77], }),(18,{cT:=[87],mg:=true,wT:=[82,83,84,85,86], })], }
def Uz:bQ:={aY:=[3],aW:=[(3,3)],bg:=[(1,{cT:=[0,3],vo:=[3],mj:=[(4,.k (.int .i64))], })], }
def UA:bQ:={bg:=[(2,{cT:=[0,1,8,9],cj:=[(0,.k (.slice))],cA:=[0]})], }
def UB:bQ:={aY:=[6],aW:=[(6,6)], }
def UC:bQ:={}
def UD:bQ:={}
def UE:bQ:={aY:=[2],aW:=[(2,2),(4,2),(5,2),(12,2),(13,2),(21,2),(22,2),(30,2),(31,2)], }
def UF:bQ:={bg:=[(4,{cT:=[8],mg:=true,wT:=[9,10,11,12,13,14,15,16,17,18,19], }),(8,{dl:=true,wT:=[27,28,29,30,31,32,33,34,35,36,37,38,39,40,41,42], })], }
def UG:bQ:={bg:=[(2,{cT:=[0,1,7,8],mj:=[(4,.k (.int .i64))],cA:=[0]})], }
def UH:bQ:={bg:=[(3,{dl:=true,wT:=[18,19,20,21,22,23,24,25,26,27,28,29,30,31,32], })], }
def UI:bQ:={bg:=[(0,{dl:=true,wT:=[1,2,3,4,5,6], })], }
def UJ:bQ:={}
def UK:bQ:={}
def UL:bQ:={bg:=[(1,{cT:=[2],mg:=true,wT:=[3,4,5,6,7,8,9,10], })], }
def UM:bQ:={aY:=[1],aW:=[(1,1),(3,1),(7,1),(12,1),(17,1),(22,1),(27,1),(32,1),(37,1),(42,1),(48,1),(52,1)],bg:=[(1,{cT:=[2],mg:=true,wT:=[3,4,5,6,7,8,9,10,11,12,13,14,15,16,17,18,19,20,21,22,23,24,25,26,27,28,29,30,31,32,33,34,35,36,37,38,39,40,41,42,43,44,45,46,47,48,49,50,51,52,53,54,55,56,57], })], }
def UN:bQ:={aY:=[1],aW:=[(1,1),(4,1),(9,1),(12,1),(16,1),(20,1),(26,1)], }
def UO:bQ:={aY:=[0],aW:=[(0,0)], }
def UP:bQ:={bg:=[(3,{cT:=[0,1,2,8,9,10],cj:=[(0,.k (.slice)),(1,.k (.int .i64)),(2,.k (.func)),(8,.k (.int .i64)),(9,.k (.int .i64))],cA:=[0]})], }
def UQ:bQ:={aY:=[2],aW:=[(2,2),(5,2)], }
def UR:bQ:={}
def US:bQ:={aY:=[2,4],aW:=[(2,2),(6,2),(7,2),(8,2),(13,2),(4,4)],bg:=[(2,{cT:=[17],mg:=true,wT:=[8,9,10,11,12,13,14,15,16], })], }
def UT:bQ:={bg:=[(1,{cT:=[2],mg:=true,wT:=[3,4,5,6,7,8], })], }
def UU:bQ:={bg:=[(1,{cT:=[0],mj:=[(2,.k (.int .i64)),(3,.k (.int .i64))], }),(3,{cj:=[(30,.k (.bool))],dl:=true,wT:=[16,17,18,19,20,21,22,23,24,25,26,27,28,29,30], }),(7,{dl:=true,wT:=[33,34,35,36,37,38], }),(13,{cj:=[(62,.k (.bool))],dl:=true,wT:=[51,52,53,54,55,56,57,58,59,60,61,62], })], }
def UW:bQ:={aY:=[5,7],aW:=[(5,5),(24,5),(25,5),(66,5),(7,7),(39,7)],bg:=[(4,{cj:=[(8,.k (.int .i64))],dl:=true,wT:=[8,34,35,36,37,38,39,40,41,42,43,44,45,46,47], }),(5,{cT:=[53],mg:=true,wT:=[48,49,50,51,52], })], }
def UX:bQ:={bg:=[(2,{cT:=[0,1,7,8],mj:=[(4,.k (.int .i64))],cA:=[0]})], }
def UY:bQ:={bg:=[(3,{cT:=[3,6,7,8],cj:=[(3,.k (.int .u32))],cA:=[0]}),(9,{cT:=[3,6,7,8,16],cj:=[(3,.k (.int .u32)),(6,.k (.slice)),(7,.k (.int .i64)),(8,.k (.int .i64))],cA:=[2]})], }
def UZ:bQ:={}
def U8:bQ:={}
def U9:bQ:={}
def Va:bQ:={aY:=[2],aW:=[(2,2),(5,2)], }
def Vb:bQ:={bg:=[(1,{cj:=[(2,.k (.int .i64)),(3,.k (.bool))],dl:=true,wT:=[2,3,4,5,6,7,8,9,10,11,12,13,14,15,16,17], })], }
def Vc:bQ:={aY:=[7],aW:=[(7,7),(83,7)],bg:=[(1,{cj:=[(3,.k (.int .i64)),(4,.k (.bool))],dl:=true,wT:=[3,4,10,11,12,13,14,15,16,17,18,19,20,21,22,23,24], }),(9,{cj:=[(57,.k (.bool))],dl:=true,wT:=[42,43,44,45,46,47,48,49,50,51,52,53,54,55,56,57], }),(12,{cT:=[0,3,5],cj:=[(0,.k (.aj)),(3,.k (.int .i64)),(5,.k (.int .i64))],mj:=[(2,.k (.int .i64))],cA:=[0]})], }
def Vd:bQ:={aY:=[11,13],aW:=[(11,11),(13,13)],bg:=[(5,{cT:=[26],mg:=true,wT:=[27,28,29,30,31,32,33,34,35,36], }),(11,{cT:=[41],mg:=true,wT:=[42,43,44,45,46,47,48,49,50,51,52,53,54], }),(25,{dl:=true,wT:=[79,80,81,82,83,84,85,86,87,88,89,90,91,92], }),(27,{dl:=true,wT:=[93,94,95,96,97,98,99,100,101,102], })], }
def Ve:bQ:={}
def Vf:bQ:={bg:=[(6,{cT:=[0,1,2,8,9,17,18,19],cj:=[(8,.k (.int .i64)),(9,.k (.bool))],cA:=[0]}),(10,{cT:=[36],mg:=true,wT:=[23,24,25,26,27,28,29,30,31,32,33,34,35], }),(12,{cT:=[49],mg:=true,wT:=[37,38,39,40,41,42,43,44,45,46,47,48], })], }
def Vg:bQ:={bg:=[(3,{cT:=[1,5,11,12],cj:=[(5,.k (.slice))],cA:=[0]})], }
def Vh:bQ:={bg:=[(1,{cT:=[19],mg:=true,wT:=[5,6,7,8,9,10,11,12,13,14,15,16,17,18], })], }
def Vi:bQ:={}
def Vj:bQ:={bg:=[(1,{cT:=[0,2,3],cA:=[0]})], }
def Vk:bQ:={bg:=[(2,{dl:=true,wT:=[11], }),(5,{cT:=[26],mg:=true,wT:=[21,22,23,24,25], }),(6,{dl:=true,wT:=[27], }),(10,{cT:=[7,8],cj:=[(7,.k (.slice))],cA:=[0]})], }
def Vl:bQ:={}
def Vm:bQ:={}
theorem Y7:XOk Tryz.prog 146 .overlaps:=⟨Tryz.f146,89,4,138,Tryz.func146,by kernel_rfl,by kernel_rfl,by kernel_rfl,by kernel_rfl,by kernel_rfl,by kernel_rfl⟩
def Vn:List (Nat×XK):=[(146,.overlaps)]
theorem Re:∀g k,Am.ab Vn g=some k→XOk Tryz.prog g k:=by
 intro g k hg;simp only[Vn,jz,nA] at hg;split at hg
 ·rename_i he;subst he;cases hg;exact Y7
 cases hg
def abe:List (Nat×bQ):=[(3,abb),(7,abd),(10,XM),(11,XN),(12,XO),(13,XP),(14,XQ),(15,XR),(16,XS),(17,XT),(18,XU),(19,XV),(20,XW),(21,XX),(22,XY),(23,XZ),(24,X0),(25,X1),(26,X2),(27,X3),(28,X4),(29,X5),(30,X6),(36,X7),(37,X8),(38,X9),(39,Ya),(40,Yb),(41,Yc),(42,Yd),(43,Ye),(44,Yf),(45,Yg),(46,Yh),(47,Yi),(48,Yj),(49,Yk),(50,Yl),(51,Ym),(52,Yn),(53,Yo),(54,Yp),(55,Yq),(58,Yr),(59,Ys),(60,Yt),(61,Yu),(62,Yv),(63,Yw),(64,Yx),(65,Yy),(66,Yz),(67,YA),(68,YB),(69,YC),(70,YD),(71,YE),(72,YF),(73,YG),(74,YH),(75,YI),(76,YJ),(77,YK),(78,YL),(79,YM),(80,YN),(81,YO),(82,YP),(83,YQ),(84,YR),(85,YS),(86,YT),(87,YU),(88,YV),(89,YW),(90,YX),(91,YY),(92,YZ),(93,Y0),(94,Y1),(95,Y2),(96,Y3),(97,Y4),(98,Y5),(99,Y6),(100,Ud),(101,Ue),(102,Uf),(103,Uh),(104,Uj),(105,Uk),(106,Ul),(107,Um),(108,Uo),(109,Uq),(110,Ur),(111,Us),(112,Ut),(113,Uu),(114,Uv),(115,Uw),(116,Ux),(117,Uy),(118,Uz),(119,UA),(120,UB),(121,UC),(122,UD),(123,UE),(124,UF),(125,UG),(126,UH),(127,UI),(129,UJ),(130,UK),(131,UL),(132,UM),(133,UN),(134,UO),(135,UP),(136,UQ),(137,UR),(138,US),(139,UT),(140,UU),(141,UW),(142,UX),(143,UY),(144,UZ),(145,U8),(147,U9),(148,Va),(149,Vb),(150,Vc),(151,Vd),(152,Ve),(153,Vf),(154,Vg),(155,Vh),(157,Vi),(158,Vj),(159,Vk),(160,Vl),(162,Vm)]
theorem ti_ok (t:Nat) (x:TI) (h:tab[t]? =some x):QP Tryz.prog t=some x:=by
 have h1:t<240:=by
  have h2:tab.length=240:=by kernel_rfl
  have:=(List.getElem?_eq_some_iff.1 h).1;omega
 have h3:=congrArg (fun l=>l[t]?) T5;simp only[List.getElem?_map,h,List.getElem?_range h1,Option.map_some,Option.some.injEq] at h3;exact h3
theorem eq_ok (t:Nat) (ks:List cq) (h:Am.ab eqs t=some ks):K3 Tryz.prog t ks=true:=by
 have key:∀l:List (TypeId×List cq),l.all (fun x=>K3 Tryz.prog x.1 x.2)=true→Am.ab l t=some ks→K3 Tryz.prog t ks=true:=by
  intro l
  induction l with
  |nil=>intro _ h;cases h
  |cons p l ih=>
   intro h1 h2;rw[List.all_cons,Bool.and_eq_true] at h1;simp only[Am.ab,aX] at h2;by_cases he:t=p.1
   ·simp only[he,decide_true,cond_true,Option.some.injEq] at h2;rw[he, ←h2];exact h1.1
   ·simp only[he,decide_false,cond_false] at h2;exact ih h1.2 h2
 exact key _ Uc h
noncomputable def fns:List (Nat×Func):=[(3,Tryz.f3),(7,Tryz.f7),(10,Tryz.f10),(11,Tryz.f11),(12,Tryz.f12),(13,Tryz.f13),(14,Tryz.f14),(15,Tryz.f15),(16,Tryz.f16),(17,Tryz.f17),(18,Tryz.f18),(19,Tryz.f19),(20,Tryz.f20),(21,Tryz.f21),(22,Tryz.f22),(23,Tryz.f23),(24,Tryz.f24),(25,Tryz.f25),(26,Tryz.f26),(27,Tryz.f27),(28,Tryz.f28),(29,Tryz.f29),(30,Tryz.f30),(36,Tryz.f36),(37,Tryz.f37),(38,Tryz.f38),(39,Tryz.f39),(40,Tryz.f40),(41,Tryz.f41),(42,Tryz.f42),(43,Tryz.f43),(44,Tryz.f44),(45,Tryz.f45),(46,Tryz.f46),(47,Tryz.f47),(48,Tryz.f48),(49,Tryz.f49),(50,Tryz.f50),(51,Tryz.f51),(52,Tryz.f52),(53,Tryz.f53),(54,Tryz.f54),(55,Tryz.f55),(58,Tryz.f58),(59,Tryz.f59),(60,Tryz.f60),(61,Tryz.f61),(62,Tryz.f62),(63,Tryz.f63),(64,Tryz.f64),(65,Tryz.f65),(66,Tryz.f66),(67,Tryz.f67),(68,Tryz.f68),(69,Tryz.f69),(70,Tryz.f70),(71,Tryz.f71),(72,Tryz.f72),(73,Tryz.f73),(74,Tryz.f74),(75,Tryz.f75),(76,Tryz.f76),(77,Tryz.f77),(78,Tryz.f78),(79,Tryz.f79),(80,Tryz.f80),(81,Tryz.f81),(82,Tryz.f82),(83,Tryz.f83),(84,Tryz.f84),(85,Tryz.f85),(86,Tryz.f86),(87,Tryz.f87),(88,Tryz.f88),(89,Tryz.f89),(90,Tryz.f90),(91,Tryz.f91),(92,Tryz.f92),(93,Tryz.f93),(94,Tryz.f94),(95,Tryz.f95),(96,Tryz.f96),(97,Tryz.f97),(98,Tryz.f98),(99,Tryz.f99),(100,Tryz.f100),(101,Tryz.f101),(102,Tryz.f102),(103,Tryz.f103),(104,Tryz.f104),(105,Tryz.f105),(106,Tryz.f106),(107,Tryz.f107),(108,Tryz.f108),(109,Tryz.f109),(110,Tryz.f110),(111,Tryz.f111),(112,Tryz.f112),(113,Tryz.f113),(114,Tryz.f114),(115,Tryz.f115),(116,Tryz.f116),(117,Tryz.f117),(118,Tryz.f118),(119,Tryz.f119),(120,Tryz.f120),(121,Tryz.f121),(122,Tryz.f122),(123,Tryz.f123),(124,Tryz.f124),(125,Tryz.f125),(126,Tryz.f126),(127,Tryz.f127),(129,Tryz.f129),(130,Tryz.f130),(131,Tryz.f131),(132,Tryz.f132),(133,Tryz.f133),(134,Tryz.f134),(135,Tryz.f135),(136,Tryz.f136),(137,Tryz.f137),(138,Tryz.f138),(139,Tryz.f139),(140,Tryz.f140),(141,Tryz.f141),(142,Tryz.f142),(143,Tryz.f143),(144,Tryz.f144),(145,Tryz.f145),(147,Tryz.f147),(148,Tryz.f148),(149,Tryz.f149),(150,Tryz.f150),(151,Tryz.f151),(152,Tryz.f152),(153,Tryz.f153),(154,Tryz.f154),(155,Tryz.f155),(157,Tryz.f157),(158,Tryz.f158),(159,Tryz.f159),(160,Tryz.f160),(162,Tryz.f162)]
theorem Vo:fns.map (fun x=>Tryz.prog.funcs[x.1]?)=fns.map (fun x=>some x.2):=by kernel_rfl
theorem fn_ok (f:Nat) (x:Func) (h:Am.ab fns f=some x):Tryz.prog.funcs[f]? =some x:=by
 have key:∀l:List (Nat×Func),l.map (fun x=>Tryz.prog.funcs[x.1]?)=l.map (fun x=>some x.2)→Am.ab l f=some x→Tryz.prog.funcs[f]? =some x:=by
  intro l
  induction l with
  |nil=>intro _ h;cases h
  |cons p l ih=>
   intro h1 h2;simp only[List.map_cons,List.cons.injEq] at h1;simp only[Am.ab,aX] at h2;by_cases he:f=p.1
   ·simp only[he,decide_true,cond_true,Option.some.injEq] at h2;rw[he, ←h2];exact h1.1
   ·simp only[he,decide_false,cond_false] at h2;exact ih h1.2 h2
 exact key _ Vo h
noncomputable def ej:kv where
 P:=Tryz.prog
 ext:=HP Tryz.prog Vn
 fn:=fun f=>Am.ab fns f
 fn_ok:=fn_ok
 ti:=fun t=>tab[t]?
 ti_ok:=ti_ok
 ann:=fun f=>(Am.ab abe f).getD {}
 eqt:=eqs
 eq_ok:=eq_ok
 names:=yN
noncomputable def cl:=mv.call (rM ej)
noncomputable def lo (f:FuncId) (n:Nat):=mv.loop (rM ej) (Nz ej f n) f n
theorem qc {f:FuncId} {aS:List V} {H:Am.ag} {K:V→Am.ag→Prop} {Q:Prop} (h:((F ej (rM ej)).call f aS H K)=Q:=by kernel_rfl):cl f aS H K=Q:=Nh.trans h
theorem ql {f:FuncId} {n:Nat} {S:Am.St} {Kr:Am.St→Prop} {Ke:Nat→Am.St→Prop} {Q:Prop} (h:((F ej (rM ej)).loop (Nz ej f n) f n S Kr Ke)=Q:=by kernel_rfl):lo f n S Kr Ke=Q:=Ni.trans h
theorem Y8:Tryz.prog.follows .mixedOrders=true:=by kernel_rfl
theorem Y9:jV ej:=Lm rfl Re
end Go.Proofs.YtlgdkndamddpkaaGreat
end
section
namespace Go.Am
def ag.ok (H:ag):Prop:=∀id o,H.get id=some o→id<H.next
theorem ag.vI (H:ag) (o:Obj):(H.alloc o).get H.next=some o:=by simp [ag.alloc]
theorem ag.fV {H:ag} {o:Obj} {id:Nat} (h:id≠H.next):(H.alloc o).get id=H.get id:=by simp [ag.alloc,h]
theorem ag.Jl (H:ag) (id:Nat) (o:Obj):(H.put id o).get id=some o:=by simp [ag.put]
theorem ag.lL {H:ag} {id j:Nat} {o:Obj} (h:j≠id):(H.put id o).get j=H.get j:=by simp [ag.put,h]
theorem ag.HX (H:ag) (o:Obj):(H.alloc o).next=H.next+1:=rfl
theorem ag.NH (H:ag) (id:Nat) (o:Obj):(H.put id o).next=H.next:=rfl
theorem ag.za {H:ag} {id off:Nat} {vs:List V} {e:TypeId} {l:List V} {ro:Bool} (h:H.get id=some (.cells e l ro)):H.store id off vs=H.put id (.cells e (bI l off vs) ro):=by simp [ag.store,h]
theorem ag.ok.alloc {H:ag} (h:H.ok) (o:Obj):(H.alloc o).ok:=by
 intro id o' hg;rw[ag.HX];by_cases he:id=H.next
 ·omega
 ·rw[ag.fV he] at hg;have:=h id o' hg;omega
theorem ag.ok.put {H:ag} (h:H.ok) {id:Nat} {o o':Obj} (hg:H.get id=some o):(H.put id o').ok:=by
 intro j o2 hj;rw[ag.NH];by_cases he:j=id
 ·subst he;exact h _ _ hg
 ·rw[ag.lL he] at hj;exact h _ _ hj
def Rd (H:ag) (q:Oq) (cs:List V):Prop:=
 cs=[]∨∃id off e l ro,q=some (id,off)∧H.get id=some (.cells e l ro)∧(l.drop off).take cs.length=cs
theorem Rd.nil (H:ag) (q:Oq):Rd H q []:=.inl rfl
theorem Fy {l cs:List V} {off:Nat} (h:(l.drop off).take cs.length=cs) (h0:cs≠[]):off+cs.length≤l.length:=by
 have:=congrArg List.length h;simp at this;have:0<cs.length:=List.length_pos_iff.2 h0;omega
theorem Fz {l cs:List V} {off i k:Nat} (h:(l.drop off).take cs.length=cs) (hi:i+k≤cs.length):(l.drop (off+i)).take k=(cs.drop i).take k:=by
 rw[←h];rw[List.drop_take,List.take_take,List.drop_drop];congr 1;omega
section
variable {H:ag} {q:Oq} {cs:List V}
theorem Rd.some (h:Rd H q cs) (h0:cs≠[]):q.isSome=true:=by
 rcases h with h|⟨id,off,e,l,ro,rfl,_⟩
 ·exact absurd h h0
 ·rfl
theorem Rd.inb (h:Rd H q cs) {i k:Nat} (hi:i+k≤cs.length) (h0:cs≠[]):H.inb (q.getD (0,0)).1 ((q.getD (0,0)).2+i) k=true:=by
 rcases h with h|⟨id,off,e,l,ro,rfl,hg,ht⟩
 ·exact absurd h h0
 ·have:=Fy ht h0;simp [ag.inb,hg];omega
theorem Rd.sub (h:Rd H q cs) {i k:Nat} (hi:i+k≤cs.length) (h0:cs≠[]):H.sub (q.getD (0,0)).1 ((q.getD (0,0)).2+i) k=(cs.drop i).take k:=by
 rcases h with h|⟨id,off,e,l,ro,rfl,hg,ht⟩
 ·exact absurd h h0
 ·simp only[ag.sub,ag.cs,Option.getD_some,hg];exact Fz ht hi
theorem k6:∀(l:List V) (i:Nat),ae l i=l.getD i .none
 |[],i=>by simp [ae]
 |x::l,0=>rfl
 |x::l,i+1=>by rw[ae,k6 l i];simp
theorem Rd.cell (h:Rd H q cs) {i:Nat} (hi:i<cs.length):H.cell (q.getD (0,0)).1 ((q.getD (0,0)).2+i)=ae cs i:=by
 rcases h with h|⟨id,off,e,l,ro,rfl,hg,ht⟩
 ·rw[h] at hi;cases hi
 ·simp only[ag.cell,ag.cs,Option.getD_some,hg,k6];have:=congrArg (fun m=>m.getD i V.none) ht;simp only[List.getD_eq_getElem?_getD,List.getElem?_take,List.getElem?_drop,if_pos hi] at this⊢;exact this
theorem Rd.NI (h:Rd H q cs) {k:Nat} (hi:k≤cs.length) (h0:cs≠[]):H.inb (q.getD (0,0)).1 (q.getD (0,0)).2 k=true:=by
 simpa using h.inb (i:=0) (k:=k) (by omega) h0
theorem Rd.abf (h:Rd H q cs) {k:Nat} (hi:k≤cs.length) (h0:cs≠[]):H.sub (q.getD (0,0)).1 (q.getD (0,0)).2 k=cs.take k:=by
 simpa using h.sub (i:=0) (k:=k) (by omega) h0
theorem Rd.all (h:Rd H q cs) (h0:cs≠[]):H.sub (q.getD (0,0)).1 (q.getD (0,0)).2 cs.length=cs:=by
 rw[h.abf (Nat.le_refl _) h0,List.take_length]
theorem Rd.part (h:Rd H q cs) {id off:Nat} (hq:q=Option.some (id,off)) (i k:Nat) (hi:i+k≤cs.length):Rd H (Option.some (id,off+i)) ((cs.drop i).take k):=by
 by_cases h0:(cs.drop i).take k=[]
 ·exact .inl h0
 ·rcases h with h|⟨id',off',e,l,ro,he,hg,ht⟩
  ·rw[h] at h0;simp at h0
  ·rw[hq] at he;cases he;refine .inr ⟨id,off+i,e,l,ro,rfl,hg, ?_⟩;have hl:((cs.drop i).take k).length=k:=by simp;omega
   rw[hl];exact Fz ht hi
structure Fr (H H':ag) (W:Nat→Prop):Prop where
 next:H.next≤H'.next
 xp:∀id,id<H.next→¬W id→H'.get id=H.get id
theorem Fr.alloc (H:ag) (o:Obj) (W:Nat→Prop):Fr H (H.alloc o) W:=
 ⟨Nat.le_succ _,fun id hid _=>ag.fV (by omega)⟩
theorem Fr.get {H H':ag} {W:Nat→Prop} (h:Fr H H' W) {id:Nat} {o:Obj} (hok:H.ok) (hg:H.get id=Option.some o) (hw:¬W id):H'.get id=Option.some o:=by
 rw[h.xp id (hok id o hg) hw,hg]
def Tc (q:Oq) (W:Nat→Prop):Prop:=∀id off,q=Option.some (id,off)→¬W id
theorem Rd.fr {H':ag} {W:Nat→Prop} (h:Rd H q cs) (hok:H.ok) (hf:Fr H H' W) (ha:Tc q W):Rd H' q cs:=by
 rcases h with h|⟨id,off,e,l,ro,rfl,hg,ht⟩
 ·exact .inl h
 ·exact .inr ⟨id,off,e,l,ro,rfl,hf.get hok hg (ha id off rfl),ht⟩
structure W7 (H:ag) (el n:Nat) (q:Oq) (len cap:Nat) (cs:List V):Prop where
 size:cs.length=len*n
 one:bd cs
 le:len≤cap
 mem:(q=none∧cap=0)∨∃id off l,q=Option.some (id,off)∧H.get id=Option.some (.cells el l false)∧off+cap*n≤l.length∧(l.drop off).take cs.length=cs
theorem W7.rd {el n len cap:Nat} (h:W7 H el n q len cap cs):Rd H q cs:=by
 rcases h.mem with⟨rfl,hc⟩|⟨id,off,l,rfl,hg,_,ht⟩
 ·left;have:=h.le;have h1:len=0:=by omega
  have:=h.size;rw[h1,Nat.zero_mul] at this;exact List.length_eq_zero_iff.1 this
 ·exact .inr ⟨id,off,el,l,false,rfl,hg,ht⟩
theorem W7.fr {H':ag} {W:Nat→Prop} {el n len cap:Nat} (h:W7 H el n q len cap cs) (hok:H.ok) (hf:Fr H H' W) (ha:Tc q W):W7 H' el n q len cap cs:=by
 refine⟨h.size,h.one,h.le, ?_⟩;rcases h.mem with hn|⟨id,off,l,rfl,hg,h1,ht⟩
 ·exact .inl hn
 ·exact .inr ⟨id,off,l,rfl,hf.get hok hg (ha id off rfl),h1,ht⟩
theorem Jm:∀(l:List V) (j n:Nat) (v:V),x7 l j n v=l.mapIdx fun i x=>if j+i=n then v else x
 |[],_,_,_=>rfl
 |x::l,j,n,v=>by
  rw[x7,Jm l (j+1) n v,List.mapIdx_cons,ng,aX];congr 1
  ·by_cases h:j=n<;>simp [h]
  ·congr 1;funext i x;have:j+1+i=j+(i+1):=by omega
   rw[this]
theorem FA (l:List V) (n:Nat) (v:V):x7 l 0 n v=l.set n v:=by
 rw[Jm];apply List.ext_getElem?;intro i;simp only[List.getElem?_mapIdx,List.getElem?_set,Nat.zero_add];by_cases h:n=i
 ·subst h;by_cases hl:n<l.length
  ·simp [hl]
  ·simp [hl]
 ·have:¬i=n:=fun e=>h e.symm
  simp [h,this]
theorem fW:∀(vs l:List V) (off:Nat),off+vs.length≤l.length→bI l off vs=l.take off++(vs++l.drop (off+vs.length))
 |[],l,off,h=>by simp [bI]
 |v::vs,l,off,h=>by
  simp only[List.length_cons] at h;rw[bI,FA,fW vs _ (off+1) (by simp;omega)];apply List.ext_getElem?;intro i;simp only[List.getElem?_append,List.getElem?_take,List.getElem?_drop,List.getElem?_set,List.length_take,List.length_set,List.length_cons,List.cons_append,List.getElem?_cons]
  grind
theorem Rh {l cs src:List V} {off:Nat} (ht:(l.drop off).take cs.length=cs) (hl:off+cs.length+src.length≤l.length):((bI l (off+cs.length) src).drop off).take (cs++src).length=cs++src:=by
 rw[fW _ _ _ hl];have e:l.take (off+cs.length)=l.take off++cs:=by rw[List.take_add,ht]
 rw[e,List.append_assoc,List.drop_left' (by simp;omega), ←List.append_assoc,List.take_left' rfl]
theorem gJ:∀(vs l:List V) (off:Nat),(bI l off vs).length=l.length
 |[],l,off=>rfl
 |v::vs,l,off=>by rw[bI,gJ vs,FA,List.length_set]
theorem qR {l:List V} (h:bd l):vr l=true:=sD.2 h
def Vp (H:ag) (n:Nat) (x:V) (m:Nat) (src:List V):Prop:=
 src.length=m*n∧bd src∧((∃q c,x=.slice q m c∧Rd H q src)∨∃s,x=.cI s∧m=s.size∧n=1∧src=fc s)
theorem FB {n m:Nat} {x:V} {src:List V} (h:Vp H n x m src) (hn:0<n):∃ok cf,lu H n x=Option.some (m,ok,cf)∧ok m=true∧cf m=src:=by
 obtain⟨hl,h1,⟨q,c,rfl,hr⟩|⟨s,rfl,rfl,rfl,rfl⟩⟩:=h
 ·refine⟨_,_,rfl, ?_, ?_⟩
  ·by_cases h0:m=0
   ·subst h0;rfl
   ·have hne:src≠[]:=by
     intro e;rw[e] at hl;have:=Nat.mul_pos (Nat.pos_of_ne_zero h0) hn;simp at hl;omega
    simp only[py,Bool.or_eq_true,Bool.and_eq_true];exact .inr ⟨hr.some hne,hr.NI (by omega) hne,qR (by rw[←hl,hr.all hne];exact h1)⟩
  ·by_cases h0:m=0
   ·subst h0;simp at hl;subst hl;rfl
   ·have hz:Nat.beq m 0=false:=by simp [h0]
    have hne:src≠[]:=by
     intro e;rw[e] at hl;have:=Nat.mul_pos (Nat.pos_of_ne_zero h0) hn;simp at hl;omega
    simp only[hz,cond_false];rw[←hl,hr.all hne]
 ·refine⟨_,_,rfl,rfl, ?_⟩;exact List.take_of_length_le (by rw[hl];omega)
end
abbrev Hp:=Nat→Option Obj
abbrev cw:=Hp→Prop
def db (id:Nat) (e:TypeId) (cs:List V):cw:=fun h=>h=fun j=>if j=id then some (.cells e cs false) else none
def lM (h1 h2 h:Hp):Prop:=∀i,(h1 i=none∧h i=h2 i)∨(h2 i=none∧h i=h1 i)
def zb:List cw→cw
 |[]=>fun h=>h=fun _=>none
 |A::L=>fun h=>∃h1 h2,lM h1 h2 h∧A h1∧zb L h2
def j9 (A B:cw):cw:=fun h=>∃h1 h2,lM h1 h2 h∧A h1∧B h2
def emp:cw:=fun h=>h=fun _=>none
def Hb (p:Prop):cw:=fun h=>p∧h=fun _=>none
def EK {α:Type} (A:α→cw):cw:=fun h=>∃x,A x h
theorem lM.symm {a b c:Hp} (h:lM a b c):lM b a c:=fun i=>(h i).symm
theorem lM.empty (a:Hp):lM (fun _=>none) a a:=fun i=>.inl ⟨rfl,rfl⟩
theorem lM.swap {a b c bc abc:Hp} (h1:lM b c bc) (h2:lM a bc abc):∃ac,lM a c ac∧lM b ac abc:=by
 refine⟨fun i=>match a i with|some o=>some o|none=>c i,fun i=> ?_,fun i=> ?_⟩
 ·rcases h1 i with⟨e1,e2⟩|⟨e1,e2⟩<;>rcases h2 i with⟨e3,e4⟩|⟨e3,e4⟩
  ·simp [e3]
  ·rw[e2] at e3;right;refine⟨e3, ?_⟩;cases h:a i<;>simp [e3,h]
  ·simp [e3,e1]
  ·right;refine⟨e1, ?_⟩;cases h:a i<;>simp [e1,h]
 ·rcases h1 i with⟨e1,e2⟩|⟨e1,e2⟩<;>rcases h2 i with⟨e3,e4⟩|⟨e3,e4⟩
  ·left;simp [e1,e3,e4,e2]
  ·left;refine⟨e1, ?_⟩;rw[e2] at e3;cases h:a i<;>simp [e3,e4,h]
  ·right;simp [e1,e3,e4,e2]
  ·left;rw[e2] at e3;refine⟨e3, ?_⟩;cases h:a i<;>simp [e1,e4,h]
theorem lM.Vq {a b c:Hp} (h:lM a b c) {i:Nat} {o:Obj} (ha:a i=some o):c i=some o:=by
 rcases h i with⟨e,_⟩|⟨_,e⟩
 ·rw[ha] at e;cases e
 ·rw[e,ha]
theorem lM.Vr {a b c:Hp} (h:lM a b c) {i:Nat} {o:Obj} (hb:b i=some o):c i=some o:=h.symm.Vq hb
theorem Lp {A B:cw} {L:List cw} {h:Hp} (hs:zb (A::B::L) h):zb (B::A::L) h:=by
 obtain⟨h1,h2,j1,a,h3,h4,j2,b,l⟩:=hs;obtain⟨ac,k1,k2⟩:=lM.swap j2 j1;exact⟨h3,ac,k2,b,h1,h4,k1,a,l⟩
theorem Lq {A:cw} {L L':List cw} (hl:∀h,zb L h→zb L' h) {h:Hp} (hs:zb (A::L) h):zb (A::L') h:=by
 obtain⟨h1,h2,j1,a,l⟩:=hs;exact⟨h1,h2,j1,a,hl _ l⟩
theorem Bx {L L':List cw} (hp:L.Perm L'):∀h,zb L h→zb L' h:=by
 induction hp with
 |nil=>exact fun h=>id
 |cons x _ ih=>exact fun h=>Lq ih
 |swap x y l=>exact fun h=>Lp
 |trans _ _ ih1 ih2=>exact fun h hs=>ih2 h (ih1 h hs)
def eI:List cw→Nat→cw
 |[],_=>emp
 |A::_,0=>A
 |_::L,n+1=>eI L n
def eF:List cw→Nat→List cw
 |[],_=>[]
 |_::L,0=>L
 |A::L,n+1=>A::eF L n
theorem qS:∀{L:List cw} {n:Nat},n<L.length→L.Perm (eI L n::eF L n)
 |A::L,0,_=>.refl _
 |A::L,n+1,h=>((qS (Nat.lt_of_succ_lt_succ h)).cons A).trans (.swap ..)
structure az (B H:ag) (L:List cw):Prop where
 ok:H.ok
 Lr:B.next≤H.next
 ro:∀id o,B.get id=some o→H.get id=some o∧∃e cs,o=.cells e cs true
 ex:∃h,(∀id o,h id=some o→H.get id=some o)∧zb L h
variable {B H:ag} {L L':List cw} {A A':cw}
theorem az.mW (h:az B H L) (hp:L.Perm L'):az B H L':=
 ⟨h.ok,h.Lr,h.ro,let ⟨g,h1,h2⟩:=h.ex;⟨g,h1,Bx hp _ h2⟩⟩
theorem az.up (h:az B H L) (n:Nat) (hn:Nat.blt n L.length=true:=by rfl):az B H (eI L n::eF L n):=
 h.mW (qS (Nat.le_of_ble_eq_true hn))
theorem az.swap (h:az B H (A::A'::L)):az B H (A'::A::L):=h.mW (.swap ..)
theorem az.imp (h:az B H (A::L)) (hi:∀g,A g→A' g):az B H (A'::L):=
 ⟨h.ok,h.Lr,h.ro,let ⟨g,h1,h2,h3,h4,h5,h6⟩:=h.ex;⟨g,h1,h2,h3,h4,hi _ h5,h6⟩⟩
theorem az.drop (h:az B H (A::L)):az B H L:=
 ⟨h.ok,h.Lr,h.ro,let ⟨g,h1,h2,h3,h4,h5,h6⟩:=h.ex;⟨h3,fun id o ho=>h1 id o (h4.Vr ho),h6⟩⟩
theorem az.Hb {p:Prop} (h:az B H (Hb p::L)):p∧az B H L:=
 let ⟨g,h1,h2,h3,h4,⟨h5,h7⟩,h6⟩:=h.ex
 ⟨h5,h.drop⟩
theorem az.pure {p:Prop} (h:az B H L) (hp:p):az B H (Am.Hb p::L):=
 ⟨h.ok,h.Lr,h.ro,let ⟨g,h1,h2⟩:=h.ex;⟨g,h1,_,g,lM.empty g,⟨hp,rfl⟩,h2⟩⟩
theorem az.MV {α:Type} {A:α→cw} (h:az B H (EK A::L)):∃x,az B H (A x::L):=
 let ⟨g,h1,h2,h3,h4,⟨x,h5⟩,h6⟩:=h.ex
 ⟨x,h.ok,h.Lr,h.ro,g,h1,h2,h3,h4,h5,h6⟩
theorem az.intro {α:Type} {A:α→cw} {x:α} (h:az B H (A x::L)):az B H (EK A::L):=h.imp fun g hg=>⟨x,hg⟩
theorem az.j9 (h:az B H (j9 A A'::L)):az B H (A::A'::L):=by
 obtain⟨g,h1,h2,h3,h4,⟨h5,h6,h7,h8,h9⟩,xZ⟩:=h.ex;obtain⟨ac,k1,k2⟩:=lM.swap h7 (h4.symm);exact⟨h.ok,h.Lr,h.ro,g,h1,h5,ac,k2,h8,h6,h3,k1.symm,h9,xZ⟩
theorem az.oG (h:az B H (A::A'::L)):az B H (Am.j9 A A'::L):=by
 obtain⟨g,h1,h5,ac,k2,h8,h6,h3,k1,h9,xZ⟩:=h.ex;obtain⟨x,k3,k4⟩:=lM.swap k1.symm k2;exact⟨h.ok,h.Lr,h.ro,g,h1,x,h3,k4.symm,⟨h5,h6,k3,h8,h9⟩,xZ⟩
theorem az.Td (h:az B H L):az B H (Am.emp::L):=
 ⟨h.ok,h.Lr,h.ro,let ⟨g,h1,h2⟩:=h.ex;⟨g,h1,_,g,lM.empty g,rfl,h2⟩⟩
theorem az.get {id:Nat} {e:TypeId} {cs:List V} (h:az B H (db id e cs::L)):H.get id=some (.cells e cs false):=by
 obtain⟨g,h1,h2,h3,h4,h5,h6⟩:=h.ex;exact h1 _ _ (h4.Vq (by rw[h5];simp))
theorem az.start (hB:B.ok) (hro:∀id o,B.get id=some o→∃e cs,o=.cells e cs true):az B B []:=
 ⟨hB,Nat.le_refl _,fun id o h=>⟨h,hro id o h⟩,fun _=>none,(fun id o h=>by cases h),rfl⟩
theorem az.alloc (h:az B H L) (e:TypeId) (cs:List V):az B (H.alloc (.cells e cs false)) (db H.next e cs::L):=by
 obtain⟨g,h1,h2⟩:=h.ex;refine⟨h.ok.alloc _,Nat.le_succ_of_le h.Lr,fun id o ho=> ?_,fun j=>if j=H.next then some (.cells e cs false) else g j,fun id o ho=> ?_,_,g,fun i=> ?_,rfl,h2⟩
 ·have:=h.ok id o (h.ro id o ho).1;exact⟨by rw[ag.fV (by omega)];exact(h.ro id o ho).1,(h.ro id o ho).2⟩
 ·by_cases hid:id=H.next
  ·subst hid;simp only[if_pos] at ho;rw[ag.vI,ho]
  ·simp only[if_neg hid] at ho;rw[ag.fV hid];exact h1 id o ho
 ·by_cases hid:i=H.next
  ·subst hid;right;refine⟨?_,by simp⟩
   cases hg:g H.next with
   |none=>rfl
   |some o=>have:=h.ok _ _ (h1 _ _ hg);omega
  ·left;simp [hid]
theorem az.put {id:Nat} {e:TypeId} {cs cs':List V} (h:az B H (db id e cs::L)):az B (H.put id (.cells e cs' false)) (db id e cs'::L):=by
 have Ww:=h.get;obtain⟨g,h1,h2,h3,h4,h5,h6⟩:=h.ex;subst h5;refine⟨h.ok.put Ww,h.Lr,fun j o ho=> ?_,fun j=>if j=id then some (.cells e cs' false) else h3 j,fun j o ho=> ?_,_,h3,fun i=> ?_,rfl,h6⟩
 ·have hj:=h.ro j o ho;refine⟨?_,hj.2⟩;by_cases he:j=id
  ·subst he;obtain⟨e',c',rfl⟩:=hj.2;rw[hj.1] at Ww;cases Ww
  ·rw[ag.lL he];exact hj.1
 ·by_cases hid:j=id
  ·subst hid;simp only[if_pos] at ho;rw[ag.Jl,ho]
  ·simp only[if_neg hid] at ho;rw[ag.lL hid];exact h1 j o (h4.Vr ho)
 ·by_cases hid:i=id
  ·subst hid;right;refine⟨?_,by simp⟩;rcases h4 i with⟨e1,_⟩|⟨e1,_⟩
   ·simp at e1
   ·exact e1
  ·left;simp [hid]
theorem az.store {id off:Nat} {e:TypeId} {cs vs:List V} (h:az B H (db id e cs::L)):az B (H.store id off vs) (db id e (bI cs off vs)::L):=by
 rw[ag.za h.get];exact h.put
theorem az.rd (h:az B H L) {q:Oq} {cs:List V} (hr:Rd B q cs):Rd H q cs:=by
 rcases hr with hr|⟨id,off,e,l,ro,rfl,hg,ht⟩
 ·exact .inl hr
 ·exact .inr ⟨id,off,e,l,ro,rfl,(h.ro _ _ hg).1,ht⟩
def Dy (el n:Nat) (q:Oq) (len cap:Nat) (cs:List V):cw:=fun h=>
 cs.length=len*n∧bd cs∧len≤cap∧
   ((q=none∧cap=0∧h=fun _=>none)∨∃id off l,q=some (id,off)∧off+cap*n≤l.length∧(l.drop off).take cs.length=cs∧db id el l h)
section
variable {el n len cap:Nat} {q:Oq} {cs:List V}
theorem az.NJ (h:az B H L) (el n:Nat):az B H (Dy el n none 0 0 []::L):=
 h.Td.imp fun g hg=>⟨by simp,fun v hv=>by simp at hv,Nat.le_refl _,.inl ⟨rfl,rfl,hg⟩⟩
theorem az.MW (h:az B H (Dy el n q len cap cs::L)):cs.length=len*n∧bd cs∧len≤cap∧((q=none∧cap=0∧az B H L)∨∃id off l,q=some (id,off)∧off+cap*n≤l.length∧(l.drop off).take cs.length=cs∧az B H (db id el l::L)):=by
 obtain⟨g,h1,h2,h3,h4,⟨a,b,c,d⟩,h6⟩:=h.ex;refine⟨a,b,c, ?_⟩;rcases d with⟨d1,d2,d3⟩|⟨id,off,l,d1,d2,d3,d4⟩
 ·exact .inl ⟨d1,d2,h.drop⟩
 ·exact .inr ⟨id,off,l,d1,d2,d3,h.ok,h.Lr,h.ro,g,h1,h2,h3,h4,d4,h6⟩
theorem az.unbuf {id off:Nat} {l:List V} (h:az B H (db id el l::L)) (h1:cs.length=len*n) (h2:bd cs) (h3:len≤cap) (h4:off+cap*n≤l.length) (h5:(l.drop off).take cs.length=cs):az B H (Dy el n (some (id,off)) len cap cs::L):=
 h.imp fun g hg=>⟨h1,h2,h3,.inr ⟨id,off,l,rfl,h4,h5,hg⟩⟩
theorem az.Te (h:az B H (Dy el n q len cap cs::L)):Rd H q cs:=by
 obtain⟨h1,h2,h3,⟨rfl,hc,_⟩|⟨id,off,l,rfl,h4,h5,h6⟩⟩:=h.MW
 ·left;have:len=0:=by omega
  rw[this,Nat.zero_mul] at h1;exact List.length_eq_zero_iff.1 h1
 ·exact .inr ⟨id,off,el,l,false,rfl,h6.get,h5⟩
theorem az.Vs (h:az B H (Dy el n q len cap cs::L)):W7 H el n q len cap cs:=by
 obtain⟨h1,h2,h3,⟨rfl,hc,_⟩|⟨id,off,l,rfl,h4,h5,h6⟩⟩:=h.MW
 ·exact⟨h1,h2,h3,.inl ⟨rfl,hc⟩⟩
 ·exact⟨h1,h2,h3,.inr ⟨id,off,l,rfl,h6.get,h4,h5⟩⟩
theorem az.Dz (h:az B H L) {c:Nat} {l:List V} (h1:cs.length=len*n) (h2:bd cs) (h3:len≤c) (h4:c*n≤l.length) (h5:l.take cs.length=cs):az B (H.alloc (.cells el l false)) (Dy el n (some (H.next,0)) len c cs::L):=
 (h.alloc el l).unbuf h1 h2 h3 (by omega) (by simpa using h5)
theorem az.FC {E:kv} {t u el n cN:Nat} {z:List V} (h:az B H (Dy el n q len cap cs::L)) (he:fB E t=some (el,n,cN,z))
 (hz:bd z) (hzl:z.length=n) (hn:0<n) {m:Nat} {x:V} {src:List V} {ok:Nat→Bool} {cf:Nat→List V} (h1:mN H n cN z (bh E u) x=some (true,m,ok,cf)) (h2:ok m=true) (h3:cf m=src)
 (Hj:src.length=m*n) (h1s:bd src) (ic:(len+m)*(cN+1)≤70368744177664) {K:Oq→Nat→Nat→ag→Prop}
 (hk:∀q' c' H',(q'=q∨∃i,q'=some (i,0))→az B H' (Dy el n q' (len+m) c' (cs++src)::L)→K q' (len+m) c' H'):aO E [t,u] [.slice q len cap,x] H K:=by
 have ho:=h.Vs;simp only[aO,he,h1,h3,av];have hcs:=ho.size;by_cases hroom:len+m≤cap
 ·have hb:Nat.ble (len+m) cap=true:=by simpa using hroom
  rw[hb,ar];by_cases hm:m=0
  ·subst hm;have hs:src=[]:=by simp at Hj;exact Hj
   subst hs;simp only[Nat.beq,Bool.true_or,av,cond_true];exact hk _ _ _ (.inl rfl) (by simpa using h)
  ·have hb:Nat.beq m 0=false:=by simp [hm]
   obtain⟨_,Cz,TG,⟨rfl,hc,_⟩|⟨id,off,l,rfl,h4,h5,h6⟩⟩:=h.MW
   ·omega
   ·have hle:(len+m)*n≤cap*n:=Nat.mul_le_mul_right _ hroom;rw[Nat.add_mul] at hle
    have hw:H.wr id (off+len*n) (m*n)=true:=by
     simp [ag.wr,h6.get];omega
    simp only[hb,Bool.false_or,Option.isSome_some,Bool.true_and,h2,Option.getD_some,hw,av,cond_false];refine hk _ _ _ (.inl rfl) (h6.store.unbuf ?_ ?_ hroom ?_ ?_)
    ·rw[List.length_append,hcs,Hj,Nat.add_mul]
    ·exact ho.one.append h1s
    ·rw[gJ];exact h4
    ·rw[←hcs];exact Rh h5 (by omega)
 ·have hb:Nat.ble (len+m) cap=false:=by simp;omega
  have Qu:Nat.ble ((len+m)*(cN+1)) 70368744177664=true:=by simpa using ic
  have hrow:py H n q len=true:=by
   by_cases h0:len=0
   ·subst h0;rfl
   ·have hne:cs≠[]:=by
     intro e;have:=ho.size;rw[e] at this;have:=Nat.mul_pos (Nat.pos_of_ne_zero h0) hn;simp at*;omega
    simp only[py,Bool.or_eq_true,Bool.and_eq_true];exact .inr ⟨ho.rd.some hne,ho.rd.NI (by rw[ho.size];omega) hne,qR (by rw[←ho.size,ho.rd.all hne];exact ho.one)⟩
  have hold:(bif Nat.beq len 0 then [] else H.sub (q.getD (0,0)).1 (q.getD (0,0)).2 (len*n))=cs:=by
   by_cases h0:len=0
   ·subst h0;have:=ho.size;simp at this;subst this;rfl
   ·have hz:Nat.beq len 0=false:=by simp [h0]
    have hne:cs≠[]:=by
     intro e;have:=ho.size;rw[e] at this;have:=Nat.mul_pos (Nat.pos_of_ne_zero h0) hn;simp at*;omega
    simp only[hz,cond_false];rw[←ho.size,ho.rd.all hne]
  rw[hb,ai,hrow,h2,Qu,hold];simp only[Bool.and_self,av];intro c GY Hh;have hd:az B H L:=h.drop;refine hk _ _ _ (.inr ⟨_,rfl⟩) (hd.Dz ?_ ?_ GY ?_ ?_)
  ·rw[List.length_append,hcs,Hj,Nat.add_mul]
  ·exact ho.one.append h1s
  ·have:(c-(len+m))*n+(len+m)*n=c*n:=by rw[←Nat.add_mul];congr 1;omega
   rw[Nat.add_mul] at this;simp only[yb,dU,List.length_append,gg,hzl,hcs,Hj];omega
  ·simp only[yb];rw[←List.append_assoc,List.take_left' rfl]
theorem az.zd {E:kv} {t u el n cN:Nat} {z:List V} (h:az B H (Dy el n q len cap cs::L)) (he:fB E t=some (el,n,cN,z))
 (hz:bd z) (hzl:z.length=n) (hn:0<n) {m:Nat} {x:V} {src:List V} {ok:Nat→Bool} {cf:Nat→List V} (h1:mN H n cN z (bh E u) x=some (true,m,ok,cf)) (h2:ok m=true) (h3:cf m=src)
 (Hj:src.length=m*n) (h1s:bd src) (ic:(len+m)*(cN+1)≤70368744177664) {K:Oq→Nat→Nat→ag→Prop}
 (hk:∀q' c' H',az B H' (Dy el n q' (len+m) c' (cs++src)::L)→K q' (len+m) c' H'):aO E [t,u] [.slice q len cap,x] H K:=
 h.FC he hz hzl hn h1 h2 h3 Hj h1s ic fun q' c' H' _=>hk q' c' H'
theorem ze {n cN:Nat} {z:List V} {k:Option cq} {x:V} (h:ik k=true):mN H n cN z k x=match lu H n x with|some (m,ok,cs)=>some (true,m,ok,cs)|none=>none:=by
 unfold mN;split
 ·cases h
 ·rw[h];rfl
theorem az.append {E:kv} {t u el n cN:Nat} {z:List V} (h:az B H (Dy el n q len cap cs::L)) (he:fB E t=some (el,n,cN,z)) (hu:ik (bh E u)=true)
 (hz:bd z) (hzl:z.length=n) (hn:0<n) {m:Nat} {x:V} {src:List V} (hx:Vp H n x m src) (ic:(len+m)*(cN+1)≤70368744177664) {K:Oq→Nat→Nat→ag→Prop}
 (hk:∀q' c' H',az B H' (Dy el n q' (len+m) c' (cs++src)::L)→K q' (len+m) c' H'):aO E [t,u] [.slice q len cap,x] H K:=by
 obtain⟨ok,cf,h1,h2,h3⟩:=FB hx hn;exact h.zd he hz hzl hn (by rw[ze hu,h1]) h2 h3 hx.1 hx.2.1 ic hk
theorem az.Ri {E:kv} {t u el n cN:Nat} {z:List V} (h:az B H (Dy el n q len cap cs::L)) (he:fB E t=some (el,n,cN,z)) (hu:bh E u=some (.int .i64))
 (hz:bd z) (hzl:z.length=n) (hn:0<n) {m:Int} (h0:0≤m) (ic:(len+m.toNat)*(cN+1)≤70368744177664) {K:Oq→Nat→Nat→ag→Prop}
 (hk:∀q' c' H',az B H' (Dy el n q' (len+m.toNat) c' (cs++hO m.toNat z)::L)→K q' (len+m.toNat) c' H'):aO E [t,u] [.slice q len cap,.int .i64 m] H K:=by
 have hb:m*(cN+1)≤70368744177664:=by
  have h1:m.toNat*(cN+1)≤(len+m.toNat)*(cN+1):=Nat.mul_le_mul_right _ (by omega);have h2:((m.toNat*(cN+1):Nat):Int)=m*(cN+1):=by rw[Int.natCast_mul,Int.toNat_of_nonneg h0];rfl
  omega
 refine h.zd (x:=.int .i64 m) (u:=u) (ok:=fun _=>true) (cf:=fun j=>dU j z) he hz hzl hn ?_ rfl rfl ?_ (gF hz _) ic hk
 ·rw[hu];show some (decide (0≤m)&&decide (m*(cN+1)≤70368744177664),_)=_
  rw[decide_eq_true h0,decide_eq_true hb];rfl
 ·show (hO _ z).length=_
  rw[gg,hzl]
end
def bo (bs:List UInt8):List V:=bs.map fun b=>.int .u8 b.toNat
def cJ (bs:List UInt8):ByteArray:=⟨bs.toArray⟩
@[simp] theorem oH (bs:List UInt8):(bo bs).length=bs.length:=by simp [bo]
@[simp] theorem Vt:bo []=[]:=rfl
@[simp] theorem jB (a b:List UInt8):bo (a++b)=bo a++bo b:=by simp [bo]
theorem mE (a:List UInt8) (n:Nat):(bo a).take n=bo (a.take n):=by simp [bo]
theorem p5 (a:List UInt8) (n:Nat):(bo a).drop n=bo (a.drop n):=by simp [bo]
theorem jC (bs:List UInt8):bd (bo bs):=by
 intro v hv;simp only[bo,List.mem_map] at hv;obtain⟨b,_,rfl⟩:=hv;rfl
theorem zf:∀{bs:List UInt8} {i:Nat} (h:i<bs.length),ae (bo bs) i=.int .u8 (bs[i].toNat:Int)
 |b::bs,0,h=>rfl
 |b::bs,i+1,h=>by
  show ae (bo bs) i=_
  rw[zf (Nat.lt_of_succ_lt_succ h)];rfl
theorem zg:∀bs:List UInt8,Hr (.int .u8) (bo bs)=true
 |[]=>rfl
 |b::bs=>by
  show (V.ax (.int .u8) (.int .u8 (b.toNat:Int))&&Hr (.int .u8) (bo bs))=true
  rw[zg bs];rfl
theorem o0:∀(bs:List UInt8) (acc:ByteArray),dA (bo bs) acc=⟨acc.data++bs.toArray⟩
 |[],acc=>by simp [dA,bo]
 |b::bs,acc=>by
  show dA (bo bs) (acc.push (UInt8.ofNat (V.aa (.int .u8 (b.toNat:Int))).toNat))=_
  rw[o0 bs];simp [ByteArray.push]
theorem HY (bs:List UInt8):dA (bo bs) ByteArray.empty=cJ bs:=by
 rw[o0];show (⟨#[]++bs.toArray⟩:ByteArray)=⟨bs.toArray⟩
 simp
theorem Ls {a b:List UInt8}:cJ a=cJ b↔a=b:=by
 constructor
 ·intro h;have:=congrArg (fun s=>s.data.toList) h;simpa [cJ] using this
 ·rintro rfl;rfl
theorem Lt:cJ []=ByteArray.empty:=rfl
def mn (H:ag) (q:Oq) (bs:List UInt8):Prop:=Rd H q (bo bs)
def Za (el:Nat) (q:Oq) (cap:Nat) (bs:List UInt8):cw:=Dy el 1 q bs.length cap (bo bs)
theorem az.iU {el cap:Nat} {q:Oq} {bs:List UInt8} (h:az B H (Za el q cap bs::L)):mn H q bs:=h.Te
theorem mn.src {q:Oq} {bs:List UInt8} (h:mn H q bs) (c:Nat):Vp H 1 (.slice q bs.length c) bs.length (bo bs):=
 ⟨by simp,jC bs,.inl ⟨q,c,rfl,h⟩⟩
theorem mn.part {q:Oq} {bs:List UInt8} (h:mn H q bs) (i k:Nat) (hi:i+k≤bs.length):mn H (bP q i) ((bs.drop i).take k):=by
 cases q with
 |none=>
  rcases h with h|⟨_,_,_,_,_,h,_⟩
  ·have:bs=[]:=by simpa [bo] using h
   subst this;left;simp
  ·cases h
 |some q=>
  have:=Rd.part h (q:=some q) (id:=q.1) (off:=q.2) rfl i k (by simpa using hi);unfold mn;rw[←mE, ←p5];exact this
theorem mn.nil (H:ag) (q:Oq):mn H q []:=.inl rfl
theorem mn.at {q:Oq} {bs:List UInt8} (h:mn H q bs) {i:Nat} (hi:i<bs.length):q.isSome=true∧H.inb (q.getD (0,0)).1 ((q.getD (0,0)).2+i) 1=true∧H.cell (q.getD (0,0)).1 ((q.getD (0,0)).2+i)=.int .u8 (bs[i].toNat:Int):=by
 have hne:bo bs≠[]:=by
  intro e;have:=congrArg List.length e;simp at this;subst this;simp at hi
 refine⟨Rd.some h hne,Rd.inb h (by simp;omega) hne, ?_⟩;rw[Rd.cell h (by simpa using hi),zf hi]
theorem mn.eY {q:Oq} {bs:List UInt8} (h:mn H q bs):eY H q bs.length=true:=by
 unfold Am.eY;by_cases h0:bs=[]
 ·subst h0;simp []
 ·have hne:bo bs≠[]:=by
   intro e;have:=congrArg List.length e;simp at this;exact h0 this
  have h4:=Rd.NI h (k:=bs.length) (by simp) hne
  have h5:H.sub (q.getD (0,0)).1 (q.getD (0,0)).2 bs.length=bo bs:=by
   have:=Rd.all h hne;simpa using this
  rw[h4,h5,zg];simp
theorem mn.eZ {q:Oq} {bs:List UInt8} (h:mn H q bs):eZ H q bs.length=cJ bs:=by
 unfold Am.eZ;by_cases h0:bs=[]
 ·subst h0;have e:Nat.beq ([]:List UInt8).length 0=true:=rfl;rw[e,Bool.or_true,cond_true,Lt]
 ·have hne:bo bs≠[]:=by
   intro e;have:=congrArg List.length e;simp at this;exact h0 this
  have h1:=Rd.some h hne;have h2:q.isNone=false:=by cases q<;>simp_all
  have h3:Nat.beq bs.length 0=false:=by simp [h0]
  have h5:H.sub (q.getD (0,0)).1 (q.getD (0,0)).2 bs.length=bo bs:=by
   have:=Rd.all h hne;simpa using this
  rw[h2,h3,h5,HY];rfl
theorem dE {id:Nat} {e:TypeId} {cs:List V} {ro:Bool} (hg:H.get id=some (.cells e cs ro)) (off n:Nat):H.inb id off n=Nat.ble (off+n) cs.length:=by simp only[ag.inb,hg]
theorem fF {id:Nat} {e:TypeId} {cs:List V} (hg:H.get id=some (.cells e cs false)) (off n:Nat):H.wr id off n=Nat.ble (off+n) cs.length:=by simp only[ag.wr,hg,Bool.not_false,Bool.true_and]
theorem aZ {id:Nat} {e:TypeId} {cs:List V} {ro:Bool} (hg:H.get id=some (.cells e cs ro)) (off:Nat):H.cell id off=ae cs off:=by simp only[ag.cell,ag.cs,hg]
theorem kS {id:Nat} {e:TypeId} {cs:List V} {ro:Bool} (hg:H.get id=some (.cells e cs ro)) (off n:Nat):H.sub id off n=(cs.drop off).take n:=by simp only[ag.sub,ag.cs,hg]
def lN (B:ag) (L:List cw) (q:Oq) (bs:List UInt8):Prop:=∀H,az B H L→mn H q bs
theorem lN.nil (B:ag) (L:List cw) (q:Oq):lN B L q []:=fun H _=>mn.nil H q
theorem lN.part {q:Oq} {bs:List UInt8} (h:lN B L q bs) (i k:Nat) (hi:i+k≤bs.length):lN B L (bP q i) ((bs.drop i).take k):=fun H hs=>(h H hs).part i k hi
theorem lN.bO {q:Oq} {bs:List UInt8} (h:lN B L q bs) (A:cw):lN B (A::L) q bs:=fun H hs=>h H hs.drop
theorem lN.of {q:Oq} {bs:List UInt8} (h:mn B q bs):lN B L q bs:=fun H hs=>hs.rd h
theorem lN.byt {el cap:Nat} {q:Oq} {bs:List UInt8}:lN B (Za el q cap bs::L) q bs:=fun H hs=>hs.iU
@[simp] theorem gK (q:Oq):bP q 0=q:=by rcases q with _|⟨a,b⟩<;>rfl
@[simp] theorem Vu (q:Oq) (a b:Nat):bP (bP q a) b=bP q (a+b):=by rcases q with _|⟨x,y⟩<;>simp [bP,Nat.add_assoc]
theorem aQ (c a b:Bool):aJ c a b=if c=true then a else b:=by cases c<;>cases a<;>cases b<;>rfl
end Go.Am
end
