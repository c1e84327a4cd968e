/- Part 2 of the texts behind the law UnitRaw: what its row needs (an abstract machine, its equations, and what the program computes). -/
import Derived.Scope
import Derived.IntWalk
import Derived.Laws.Externs
import Derived.Test.YtlgdkndamddpkaaGreatProg
import Derived.KernelRfl
import Derived.Lib.Builder
import Derived.Lib.UnsafeStr
import Derived.Lib.Walk
import Derived.WalkKit
import Derived.Test.YtlgdkndamddpkaaGreatP1
set_option maxRecDepth 100000
set_option linter.unusedSimpArgs false
set_option linter.unusedVariables false
set_option linter.unusedSectionVars false
section
namespace Go.Am
section
variable {E:kz} {H0:ag} {ρ0:dD} {w0:World} {ann:bQ} {N:Nat} {ρ lam:dD} {S:St} {a:Act} {w:World}
theorem yX {g:Value→ByteArray→Sem (ForInStep ByteArray)} (hg:∀n r,g (.int .u8 n) r=pure (.yield (r.push (UInt8.ofNat n.toNat)))):
 ∀(vs:List V) (us:List Value) (acc:ByteArray),eM ρ vs us→HC (.int .u8) vs=true→
 (forIn us acc g:Sem ByteArray).run E.P w=.ok (dz vs acc) w
 |[],us,acc,h,_=>by rw[h.gq];simp [dz]
 |v::vs,us,acc,h,hk=>by
  obtain⟨u,m,rfl,h1,h2⟩:=h.dh;rw[HC,Bool.and_eq_true] at hk
  have hv:∃n,v=.int .u8 n:=by
   cases v<;>simp [V.aw] at hk
   exact⟨_,by rw[hk.1]⟩
  obtain⟨n,rfl⟩:=hv;rw[h1.iu];have ih:=yX hg vs m (acc.push (UInt8.ofNat n.toNat)) h2 hk.2;simp only[List.forIn_cons,hg,Sem.run_bind,Sem.run_pure,Result.andThen_ok,dz,V.aa];exact ih
theorem HP {p:Nat×Nat} {c:Nat} {x:Value} (hx:VR ρ (.slice (some p) 0 c) x):(Conv.bytesToString x).run E.P w=.ok (.string .empty) w:=by
 obtain⟨id,off⟩:=p;rcases hx.fh with⟨b,_,rfl⟩|⟨_,_,a,rfl⟩
 ·simp [Conv.bytesToString,loadCells,loadCellsFrom]
 ·simp [Conv.bytesToString,loadCells,loadCellsFrom]
theorem FE {H:ag} (hr:HR ρ H w) {id off len c:Nat} {x:Value} (hx:VR ρ (.slice (some (id,off)) len c) x) (h:H.inb id off len=true) (hk:HC (.int .u8) (H.sub id off len)=true):
 (Conv.bytesToString x).run E.P w=.ok (.string (dz (H.sub id off len) ByteArray.empty)) w:=by
 obtain⟨e,cs,ro,hg,hle,b,hb,cs',fz,hcell,hvs,_,_⟩:=yO hr h;rcases hx.fh with⟨b',hb',rfl⟩|⟨h0,_,a,rfl⟩;rotate_left
 ·subst h0;simp [Conv.bytesToString,loadCells,loadCellsFrom,ag.sub,dz]
 rw[hb] at hb';cases hb';have hsub:H.sub id off len=(cs.drop off).take len:=by simp [ag.sub,ag.cs,hg]
 have hlen:cs'.size=cs.length:=by have:=hvs.1;simp at this;omega
 have hrun:=run_loadCells_list (P:=E.P) w ⟨b,off,none⟩ ((cs'.toList.drop off).take len) (by
  intro j v hv;rw[gf,qS hcell];rw[List.getElem?_take] at hv;split at hv
  ·rw[List.getElem?_drop] at hv;simpa using hv
  ·cases hv)
 have hl:((cs'.toList.drop off).take len).length=len:=by simp;omega
 rw[hl] at hrun;simp only[Conv.bytesToString,Sem.run_bind,hrun,Result.andThen_ok, ←Array.forIn_toList];rw[yX (E:=E) (fun n r=>rfl) (H.sub id off len) ((cs'.toList.drop off).take len) ByteArray.empty (by rw[hsub];exact(hvs.drop off).take len) hk];rfl
theorem w7 {o:Oper} {ev:Ev} {e:Operand→Value} (cW:pM ρ lam ev e) {H:ag} (hr:HR ρ H w) {d:fS T} (h:dE E o.op ev H=some d) (hq:d.rq=true):∃v,(execOp e o).run E.P w=.ok (.value v) w∧TR ρ lam (if d.c=true then d.x else d.y) v:=by
 obtain⟨dst,op,type,jk,after,guard⟩:=o
 cases op with
 |load t a=>
  simp only[dE] at h;split at h
  ·rename_i id off ha;obtain⟨b,hb,he⟩:=(cW.tv ha).vM
   have key:∀n,H.inb id off n=true→∃cs e ro,H.get id=some (.cells e cs ro)∧fU ρ e cs (!ro) w.heap[b]? ∧off+n≤cs.length:=by
    intro n hn;obtain⟨e,cs,ro,hg,hle,b',hb',hc⟩:=yO hr hn;rw[hb] at hb';cases hb';exact⟨cs,e,ro,hg,hc,hle⟩
   split at h
   ·rename_i k hk;simp only[Option.some.injEq] at h;subst h;simp only[fS.one,Bool.and_eq_true] at hq;obtain⟨cs,el,ro,hg,hc,hle⟩:=key 1 hq.1;have hcell:H.cell id off=ae cs off:=by simp [ag.cell,ag.cs,hg]
    obtain⟨v',h1,h2⟩:=oC (E:=E) (t:=t) (off:=off) (r:=true) (v:=(H.cell id off).S4 k) hc (by
     simp only[mO,hk,hcell,Option.some.injEq,Prod.mk.injEq,and_true];rw[hcell] at hq
     simp [hq.2];omega) rfl (fun cs' he=>by rw[V.so hq.2] at he;have:=V.sr hq.2;rw[he] at this;cases this)
    exact⟨v',by simp [execOp,Instr.loadAt,he,Instr.sureAddr,h1],.v h2⟩
   ·rename_i hk;split at h
    ·rename_i ks n hks hn;simp only[Option.some.injEq] at h;subst h;simp only[fS.one,Bool.and_eq_true] at hq;obtain⟨cs,el,ro,hg,hc,hle⟩:=key n hq.1;have hsub:H.sub id off n=(cs.drop off).take n:=by simp [ag.sub,ag.cs,hg]
     obtain⟨v',h1,h2⟩:=oC (E:=E) (t:=t) (off:=off) (r:=true) (v:=.agg ((cs.drop off).take n)) hc (by
      simp only[mO,hk,hks,hn,Option.some.injEq,Prod.mk.injEq,and_true]
      simpa using hle) rfl (fun cs' he=>by cases he;exact .inr (fI (hsub▸hq.2)))
     refine⟨v',by simp [execOp,Instr.loadAt,he,Instr.sureAddr,h1],.v ?_⟩;rw[k8 hq.2 rfl,hsub];exact h2
    ·cases h
  ·cases h
 |convert s t x=>
  simp only[dE] at h;split at h
  ·rename_i ti p len c ni hk hx;obtain⟨ds,rK,hds⟩:=dH ni;obtain⟨dt,kZ,hdt⟩:=bK hk;split at h
   ·rename_i el hs;rw[hs] at hds;cases iv hds;split at h
    ·rename_i hel;obtain⟨de,SD,Qr⟩:=bK hel;simp only[Option.some.injEq] at h;subst h;cases dt<;>simp [bo,cO] at hdt
     cases de<;>simp [bo,cO] at Qr
     subst Qr;have hv:=cW.v hx;change eX H p len=true at hq
     show∃v,_∧TR ρ lam (T.v (V.cG (eY H p len))) v
     unfold eX at hq;unfold eY
     cases p with
     |none=>
      have he:=hv.lE;exact⟨.string .empty,by simp [execOp,convert,run_underlying rK,run_underlying kZ,run_underlying SD,he,Conv.bytesToString],.v (.cG _)⟩
     |some q=>
      obtain⟨id,off⟩:=q
      have Hv:∃a n c',e x=.slice a n c':=by
       rcases hv.fh with⟨b,_,he⟩|⟨_,_,a,he⟩
       ·exact⟨_,_,_,he⟩
       ·exact⟨_,_,_,he⟩
      obtain⟨a,n,c',he⟩:=Hv;by_cases h0:len=0
      ·subst h0;have hb:=HP (E:=E) (w:=w) hv;rw[he] at hb;exact⟨.string .empty,by simp [execOp,convert,run_underlying rK,run_underlying kZ,run_underlying SD,he,hb],.v (.cG _)⟩
      have hz:Nat.beq len 0=false:=by rw[aW];simp [h0]
      simp only[Option.isNone_some,Bool.false_or,hz,Option.getD_some,Bool.and_eq_true] at hq;have hb:=FE (E:=E) hr hv hq.1 hq.2;rw[he] at hb;simp only[Option.isNone_some,hz,Bool.or_self,cond_false,Option.getD_some];exact⟨_,by simp [execOp,convert,run_underlying rK,run_underlying kZ,run_underlying SD,he,hb],.v (.cG _)⟩
    ·cases h
   ·cases h
  ·cases h
 |lookup t x i c=>
  simp only[dE] at h;split at h
  ·rename_i ti r k n ni hx hi;obtain⟨ds,rK,hds⟩:=dH ni;split at h
   ·rename_i kt et hsh;rw[hsh] at hds;cases ur hds;split at h
    ·rename_i k' ei hk hei;split at h
     ·rename_i z hz;split at h
      ·rename_i b y hy;obtain⟨dk,Xd,hdk⟩:=bK hk;have Qs:dk=.int k':=by cases dk<;>simp_all [bo,cO]
       subst Qs
       have hq':pB k k'=true∧eG H k r=true∧b=true:=by
        cases c<;>(simp only[Option.some.injEq] at h;subst h;simpa [fS.one] using hq)
       obtain⟨hkk,hok,hb⟩:=hq';have hkk:k=k':=by simpa using hkk
       subst hkk;obtain⟨z',EK,yi⟩:=Q8 hei hz ρ w;obtain⟨v',hv,hrun⟩:=DB (E:=E) (n:=n) rK Xd EK yi hr (cW.v hx) hok c;have hyy:=lH hy hb;have hi':=(cW.v hi).iu
       cases c with
       |true=>
        simp only[Option.some.injEq] at h;subst h;simp only[if_true] at hrun;refine⟨.tuple #[v',.bool (lk H r n)],by simp [execOp,hi',hrun], ?_⟩;rw[hyy];exact .v (.gD (.cons hv (.cons (.bool _) (.nil ρ))))
       |false=>
        simp only[Option.some.injEq] at h;subst h;simp only[Bool.false_eq_true,if_false] at hrun;refine⟨v',by simp [execOp,hi',hrun], ?_⟩;rw[hyy];exact .v hv
      ·cases h
     ·cases h
    ·cases h
   ·cases h
  ·cases h
 |entry it=>
  simp only[dE] at h;split at h
  ·rename_i t id hit;split at h
   ·rename_i ti ni;split at h
    ·rename_i kt et hsh;split at h
     ·rename_i ra x rb y hx hy;simp only[Option.some.injEq] at h;subst h;simp only[fS.one,Bool.and_eq_true] at hq;obtain⟨b,hb,he⟩:=(cW.tv hit).Fl;obtain⟨k,v,hrun,hk,hv⟩:=DD (E:=E) hr hb hq.1;refine⟨.tuple #[k,v],by simp [execOp,he,hrun], ?_⟩;rw[lH hx hq.2.1,lH hy hq.2.2];exact .v (.gD (.cons hk (.cons hv (.nil ρ))))
     ·cases h
    ·cases h
   ·cases h
  ·cases h
 |call c=>
  simp only[dE] at h;split at h
  ·rename_i t ts r ER hts hargs;split at h
   ·rename_i hk;obtain⟨dt,kZ,hdt⟩:=bK hk;obtain⟨kt,et,rfl⟩:∃kt et,dt=.map kt et:=by cases dt<;>simp_all [bo,cO]
    simp only[Option.some.injEq] at h;subst h;have ha:eM ρ [.map r] (c.args.map e).toList:=by simpa using cW.vs hargs
    obtain⟨x',r1,xN,hx',n5⟩:=ha.dh;have xM:=n5.gq;subst xM
    have qI:c.args.map e= #[x']:=by
     apply Array.ext';rw[xN]
    have MV:c.argTypes[0]? =some t:=by
     rw[←Array.getElem?_toList,hts];rfl
    have hq:(r.isNone||H.isMap (r.getD 0))=true:=hq
    have hrun:(Builtin.len_ c.argTypes type (c.args.map e)).run E.P w=.ok (.int .i64 (yl H r)) w:=by
     rw[qI]
     cases r with
     |none=>
      cases hx';simp [Builtin.len_,MV,run_underlying kZ,yl,goInt]
     |some id=>
      have hg:=sN (by simpa using hq);obtain⟨b,hb,es',he,Ha⟩:=hr.wW id _ hg
      cases hx' with
      |map hb'=>
       rw[hb] at hb';cases hb';have hl:=FA Ha;simp [Builtin.len_,MV,run_underlying kZ,gV (E:=E) he,yl,goInt,hl]
    refine⟨.int .i64 (yl H r), ?_,.v (.int _ _)⟩;simp only[execOp,resolve,ER,invoke,builtin,Sem.run_bind,Sem.run_pure,Result.andThen_ok,hrun]
   ·cases h
  ·cases h
 |_=>simp [dE] at h
theorem sa {e:Operand→Value} {c:Call} {type:TypeId} {f:Operand} (hc:c.callee=.value f):resolve e c type=Deferred.ofValue (e f) (c.args.map e):=by
 simp [resolve,hc]
theorem yY {fn:Func} {f:Nat} (h:E.P.funcs[f]? =some fn):(fn.name == "runtime.NumGoroutine")=false:=by
 have h1:=List.all_eq_true.1 E.names fn (by
  rw[Array.mem_toList_iff]
  exact Array.mem_of_getElem? h)
 simpa using h1
theorem NF {e:Operand→Value} {o:Oper} {c:Call} {f:Operand} {g:FuncId} {fi cap:Array Value} {fn:Func} (ho:o.op=.call c) (hc:c.callee=.value f) (he:e f=.func (.func g) fi cap) (hf:E.P.funcs[g]? =some fn) (hb:fn.body.isSome=true) (w:World):(execOp e o).run E.P w=.ok (.enter g (fi++c.args.map e++cap)) w:=by
 have hn:¬fn.name= "runtime.NumGoroutine" :=by simpa using yY hf
 have hb':¬fn.body=none:=by cases h:fn.body<;>simp_all
 simp [execOp,ho,sa hc,he,Deferred.ofValue,invoke,callFunc,hf,hn,hb']
theorem uv {e:Operand→Value} {o:Oper} {c:Call} {f:Operand} {g:FuncId} {fi cap:Array Value} (ho:o.op=.call c) (hc:c.callee=.value f) (he:e f=.func (.func g) fi cap) (w:World):(execOp e o).run E.P w=(callFunc g (fi++c.args.map e++cap)).run E.P w:=by
 simp [execOp,ho,sa hc,he,Deferred.ofValue,invoke]
theorem cz {P:Program} {o:Oper} {a:Act} {next:Act→World→Prop} {Q:Exit→Act→World→Prop} {w w':World} {v:Value} (h:(execOp a.eval o).run P w=.ok (.value v) w') (hn:next (a.put o.dst v) w'):o.wp P a w next Q:=by
 unfold Oper.wp;rw[h];exact hn
theorem vS {P:Program} {o:Oper} {a:Act} {next:Act→World→Prop} {Q:Exit→Act→World→Prop} {w w':World} (h:(execOp a.eval o).run P w=.ok .skip w') (hn:next (a.put o.dst undef) w'):o.wp P a w next Q:=by
 unfold Oper.wp;rw[h];exact hn
theorem gn (h:SR H0 ρ0 w0 ann N ρ lam S a w) {o:Oper} {r:Bool} {x:T} {H':ag} (ho:bY E o.op (cS S.tm) S.hp=some (r,x,H')) (hr:r=true):∃ρ' v w',(execOp a.eval o).run E.P w=.ok (.value v) w'∧SR H0 ρ0 w0 ann N ρ' lam {S with hp:=H'} a w'∧TR ρ' lam x v:=by
 have cW:=h.ev;obtain⟨dst,op,type,jk,after,guard⟩:=o
 cases op with
 |buildSlice t len parts=>
  simp only[bY] at ho;split at ho
  ·rename_i ti ps ni hps;obtain⟨ds,rK,hds⟩:=dH ni;split at ho
   ·rename_i el hsh;rw[hsh] at hds;cases iv hds;split at ho
    ·rename_i n ei hsz hei;split at ho
     ·rename_i z hz;obtain⟨z',EK,yi,hz3⟩:=vQ (E:=E) hei hz ρ w
      cases hb:(Nat.beq z.cells.length n&&sA n&&Nat.ble (len*n) 16777216) with
      |false=>simp [hb] at ho
      |true=>
       simp only[hb,cond_true] at ho;simp only[Bool.and_eq_true] at hb;have hn:z.cells.length=n:=Nat.eq_of_beq_eq_true hb.1.1
       have hp:0<n:=by
        have:=hb.1.2
        cases n with
        |zero=>cases this
        |succ n=>omega
       have hle:len*n≤16777216:=Nat.le_of_ble_eq_true hb.2;split at ho
       ·rename_i r' cs hcs;simp only[Option.some.injEq,Prod.mk.injEq] at ho;obtain⟨rfl,rfl,rfl⟩:=ho;obtain⟨h1,h2⟩:=mV cW hps;have EL:(parts.map fun p=>(p.1,a.eval p.2)).toList=parts.toList.map fun p=>(p.1,a.eval p.2):=by simp
        obtain⟨zc,MQ⟩:∃zc:Array Value,zc=if len*n=0 then #[] else z'.cells:=⟨_,rfl⟩
        have hrow:eM ρ (hJ len z.cells) ((Array.range (len*n)).map (zc[· % zc.size]!)).toList:=by
         by_cases h0:len*n=0
         ·have hl:len=0:=by
           rcases Nat.mul_eq_zero.1 h0 with h|h
           ·exact h
           ·omega
          subst hl;simpa [hJ] using eM.nil ρ
         ·rw[if_neg h0] at MQ;rw[MQ];exact Fz yi hn hp
        obtain⟨out',h3,h4,h5⟩:=oB (E:=E) (place':=fun j=>some (j*n,n)) (by
         intro i off t m AW hm;simp only[Option.some.injEq,Prod.mk.injEq] at AW⊢;obtain⟨h1,rfl⟩:=AW;rw[hsz] at hm
         exact⟨h1,Option.some.inj hm⟩) h1 h2 hrow (gE hz3 len) hcs hr
        rw[←EL] at h3;have Qt:iw (.cells out' el) w {w with heap:=w.heap.push (.cells out' el)}:=⟨rfl,rfl,rfl,rfl⟩
        refine⟨_,.slice (some ⟨w.heap.size,0,none⟩) len len,{w with heap:=w.heap.push (.cells out' el)}, ?_,h.Du Qt (x:=.cells el cs false) (iC h4 h5),
         .v (.slice _ _ (by rw[eF,if_pos rfl]))⟩
        have ic:¬len*n>2 ^ 24:=by omega
        by_cases h0:len*n=0
        ·rw[if_pos h0] at MQ;subst MQ;simp only[execOp,Instr.buildSlice,Sem.run_bind,run_underlying rK,Result.andThen_ok,fk hsz,if_neg ic,if_pos h0,h3,Sem.run_pure,newRow,newObj];rfl
        ·rw[if_neg h0] at MQ;subst MQ;simp only[execOp,Instr.buildSlice,Sem.run_bind,run_underlying rK,Result.andThen_ok,fk hsz,if_neg ic,if_neg h0,EK,h3,Sem.run_pure,newRow,newObj];rfl
       ·cases ho
     ·cases ho
    ·cases ho
   ·cases ho
  ·cases ho
 |makeSlice t len cap=>
  simp only[bY] at ho;split at ho
  ·rename_i el n cN z k l k' c hel hl hc
   simp only[Option.some.injEq,Prod.mk.injEq] at ho;obtain⟨rfl,rfl,rfl⟩:=ho;simp only[Bool.and_eq_true,decide_eq_true_eq] at hr;obtain⟨di,z',kZ,hi,hz,hsz,hby,hzl,hpos,hzs,SF,Ql⟩:=qT hel;have e1:=(cW.v hl).iu;have e2:=(cW.v hc).iu;have hrun:=Be (E:=E) (w:=w) (t:=t) (cN:=0) (n:=0) (z:=[]) kZ hi hz (by omega) (by omega) (k:=k) (k':=k') hr.1 hr.2.1 (by rw[hby];exact hr.2.2);have hp:iw (.cells (Builtin.zeroCells z'.cells c.toNat) el) w (w.alloc (.cells (Builtin.zeroCells z'.cells c.toNat) el)):=⟨rfl,rfl,rfl,rfl⟩
   exact⟨_,.slice (some ⟨w.heap.size,0,none⟩) l.toNat c.toNat,w.alloc (.cells (Builtin.zeroCells z'.cells c.toNat) el),by simp [execOp,e1,e2,hrun],h.Du hp (x:=.cells el (hJ c.toNat z) false) (iC (mz (Ql ρ) hzl hpos _) (gE SF _)),
    .v (.slice _ _ (by rw[eF,if_pos rfl]))⟩
  ·cases ho
 |convert s d x=>
  simp only[bY] at ho;split at ho
  ·rename_i p len cap ti hk hx ni;obtain⟨ds,rK,hds⟩:=bK hk;obtain⟨dd,hud,Qu⟩:=dH ni;split at ho
   ·rename_i e hsh;rw[hsh] at Qu;cases iv Qu;split at ho
    ·rename_i hel;obtain⟨de,SD,Qr⟩:=bK hel;simp only[Option.some.injEq,Prod.mk.injEq] at ho;obtain⟨rfl,rfl,rfl⟩:=ho;simp only[Bool.and_eq_true] at hr;obtain⟨TJ,hp,hcap,EM⟩:=hr;have TJ:s=d:=Nat.eq_of_beq_eq_true TJ;subst TJ;cases de<;>simp [bo,cO] at Qr
     subst Qr
     cases p with
     |none=>cases hp
     |some q=>
      obtain⟨id,off⟩:=q;obtain⟨e',cs,b,hg,hle,hb,hc⟩:=DA h.hr EM;have hv:=cW.v hx;rcases hv.fh with⟨b',hb',he⟩|⟨h0,h1,ad,he⟩
      ·simp only[Option.getD_some] at hb;rw[hb] at hb';cases hb';obtain⟨w',g1,g2,g3⟩:=yS (E:=E) (off:=off) hc;have hs:=h.Dv hg rfl rfl hb g3 (y:=.cells e' cs false) g2;rw[uo hg] at hs;exact⟨ρ,_,w',by simp [execOp,convert,run_underlying hud,run_underlying SD,he,g1],hs,.v (.slice _ _ hb)⟩
      ·rw[h1] at hcap;cases hcap
    ·cases ho
   ·cases ho
  ·cases ho
 |call c=>
  simp only[bY] at ho;split at ho
  ·rename_i t ts p l cp x ER hts hargs;split at ho
   ·rename_i el n cN z hel
    split at ho
    ·rename_i m ok cs hsrc;simp only[Option.some.injEq,Prod.mk.injEq,kC,kD,hsrc] at ho;obtain⟨rfl,rfl,rfl⟩:=ho;have ha:eM ρ [.slice p l cp,x] (c.args.map a.eval).toList:=by simpa using cW.vs hargs
     obtain⟨s',r1,xN,hs',n5⟩:=ha.dh;obtain⟨x',r2,xM,hx',tH⟩:=n5.dh;have Qm:=tH.gq;subst Qm;subst xM
     have qI:c.args.map a.eval= #[s',x']:=by
      apply Array.ext';rw[xN]
     have MV:c.argTypes[0]? =some t:=by
      rw[←Array.getElem?_toList,hts];rfl
     obtain⟨di,z',kZ,hi,hz,hsz,hby,hzl,hpos,hzs,SF,Ql⟩:=qT hel;subst hsz;obtain⟨hlen,tG⟩:=vR (E:=E) h.hr hx' hsrc
     obtain⟨xs,h1,h2,h3,h4⟩:=tG (Nat.min m l) (Nat.min_le_left _ _) (by
      by_cases h0:Nat.min m l=0
      ·exact .inl h0
      ·rw[aW] at hr;simp [h0] at hr
       exact .inr hr.2.1)
     have Hv:∃aV,s'=.slice aV l cp∧∀w',(match aV with|some ad=>storeCells ad xs.toList|none=>pure ()).run E.P w=.ok () w'→
      (Builtin.copy_ c.argTypes type (c.args.map a.eval)).run E.P w=.ok (.int .i64 ((Nat.min m l:Nat):Int)) w':=by
      have Hv:∃aV,s'=.slice aV l cp:=by
       cases p with
       |none=>exact⟨_,hs'.lE⟩
       |some q=>
        obtain⟨id,off⟩:=q;rcases hs'.fh with⟨b,hb,he⟩|⟨h0,h1,ad,he⟩
        ·exact⟨_,he⟩
        ·exact⟨_,by rw[he,h0,h1]⟩
      obtain⟨aV,rfl⟩:=Hv;refine⟨aV,rfl,fun w' hw=> ?_⟩;rw[qI]
      cases aV with
      |none=>
       simp at hw;subst hw;simp [Builtin.copy_,MV,run_underlying kZ,hlen,sizeOf,typeInfo,hi,h1,goInt]
      |some ad=>simp [Builtin.copy_,MV,run_underlying kZ,hlen,sizeOf,typeInfo,hi,h1,hw,goInt]
     obtain⟨aV,rfl,TK⟩:=Hv;by_cases h0:Nat.min m l=0
     ·have hxs:xs= #[]:=by
       have:=h2.1;rw[h4,h0] at this;apply Array.eq_empty_of_size_eq_zero;simpa using this.symm
      subst hxs;have hc:=TK w (by cases aV<;>simp [pO]);rw[aW,decide_eq_true h0,cond_true];exact⟨ρ,.int .i64 (Nat.min m l:Nat),w,by simp only[execOp,resolve,ER,invoke,builtin,Sem.run_bind,Sem.run_pure,Result.andThen_ok,hc],h,.v (.int _ _)⟩
     ·rw[aW,decide_eq_false h0] at hr;rw[aW,decide_eq_false h0,cond_false];simp only[Bool.false_or,Bool.and_eq_true] at hr;obtain⟨hp,hok,EM⟩:=hr
      cases p with
      |none=>cases hp
      |some q=>
       obtain⟨id,off⟩:=q;simp only[Option.getD_some] at EM⊢;obtain⟨e,ccs,b,hg,hle,hb,hc⟩:=DA h.hr EM;rcases hs'.fh with⟨b',hb',he⟩|⟨Xe,_,_⟩
       ·rw[hb] at hb';cases hb';cases he;obtain⟨w',g1,g2,g3⟩:=my (E:=E) (off:=off) hc h2 h3 (by rw[h4];exact hle);have hst:S.hp.store id off (cs (Nat.min m l))=S.hp.put id (.cells e (bM ccs off (cs (Nat.min m l))) false):=by simp [ag.store,hg]
        rw[hst];have hc:=TK w' g1;exact⟨ρ,.int .i64 (Nat.min m l:Nat),w',by simp only[execOp,resolve,ER,invoke,builtin,Sem.run_bind,Sem.run_pure,Result.andThen_ok,hc],h.Dv hg rfl rfl hb g3 g2,.v (.int _ _)⟩
       ·exact absurd (by rw[Xe];exact Nat.min_zero m) h0
    ·cases ho
   ·cases ho
  ·rename_i t ts r k n ER hts hargs;split at ho
   ·rename_i ti ni;obtain⟨ds,rK,hds⟩:=dH ni;split at ho
    ·rename_i kt et hsh;rw[hsh] at hds;cases ur hds;split at ho
     ·rename_i k' hk;obtain⟨dk,Xd,hdk⟩:=bK hk;have Qs:dk=.int k':=by cases dk<;>simp_all [bo,cO]
      subst Qs;simp only[Option.some.injEq,Prod.mk.injEq] at ho;obtain⟨rfl,rfl,rfl⟩:=ho;simp only[Bool.and_eq_true,nn,decide_eq_true_eq] at hr;obtain⟨hkk,hok⟩:=hr;subst hkk;have ha:eM ρ [.map r,.int k n] (c.args.map a.eval).toList:=by simpa using cW.vs hargs
      obtain⟨x',r1,xN,hx',n5⟩:=ha.dh;obtain⟨y',r2,xM,hy',tH⟩:=n5.dh;have Qm:=tH.gq;subst Qm;subst xM;have hy:=hy'.iu;subst hy
      have qI:c.args.map a.eval= #[x',.int k n]:=by
       apply Array.ext';rw[xN]
      have MV:c.argTypes[0]? =some t:=by
       rw[←Array.getElem?_toList,hts];rfl
      cases r with
      |none=>
       cases hx'
       have hrun:(Builtin.delete_ c.argTypes type (c.args.map a.eval)).run E.P w=.ok (.tuple #[]) w:=by
        rw[qI];simp [Builtin.delete_,MV,run_underlying rK,fl (E:=E) Xd]
       refine⟨ρ,.tuple #[],w, ?_,h,.v (.tuple rfl (fun i x y hx=>by simp at hx))⟩;simp only[execOp,resolve,ER,invoke,builtin,Sem.run_bind,Sem.run_pure,Result.andThen_ok,hrun]
      |some id=>
       obtain⟨b,w',o',hb,hrun,Qv,hg,EO,hrw,Qw⟩:=DC (E:=E) (ty:=type) (n:=n) (u:=0) rK Xd h.hr hx' hok MV;rw[EO];refine⟨ρ,.tuple #[],w', ?_,h.Dv hg rfl hrw hb Qv Qw,.v (.tuple rfl (fun i x y hx=>by simp at hx))⟩;rw[←qI] at hrun;simp only[execOp,resolve,ER,invoke,builtin,Sem.run_bind,Sem.run_pure,Result.andThen_ok,hrun]
     ·cases ho
    ·cases ho
   ·cases ho
  ·rename_i t ts p l cp ER hts hargs;split at ho
   ·rename_i el n cN z hel
    simp only[Option.some.injEq,Prod.mk.injEq] at ho;obtain⟨rfl,rfl,rfl⟩:=ho;have ha:eM ρ [.slice p l cp] (c.args.map a.eval).toList:=by simpa using cW.vs hargs
    obtain⟨s',r1,xN,hs',n5⟩:=ha.dh;have Qm:=n5.gq;subst Qm
    have qI:c.args.map a.eval= #[s']:=by
     apply Array.ext';rw[xN]
    have MV:c.argTypes[0]? =some t:=by
     rw[←Array.getElem?_toList,hts];rfl
    obtain⟨di,z',kZ,hi,hz,hsz,hby,hzl,hpos,hzs,SF,Ql⟩:=qT hel;subst hsz
    have key:∀w',(Builtin.clear_ c.argTypes type #[s']).run E.P w=.ok (.tuple #[]) w'→
     (execOp a.eval ⟨dst,.call c,type,jk,after,guard⟩).run E.P w=.ok (.value (.tuple #[])) w':=by
     intro w' hw;simp only[execOp,resolve,ER,invoke,builtin,Sem.run_bind,Sem.run_pure,Result.andThen_ok,qI,hw]
    have nop:(p.isNone||Nat.beq l 0)=true→∃ρ' v w',(execOp a.eval ⟨dst,.call c,type,jk,after,guard⟩).run E.P w=.ok (.value v) w'∧
     SR H0 ρ0 w0 ann N ρ' lam {S with hp:=S.hp} a w'∧TR ρ' lam (.v (.tuple [])) v:=by
     intro hn;refine⟨ρ,_,w,key w ?_,h,.v (.tuple rfl (fun i x y hx=>by simp at hx))⟩
     cases p with
     |none=>rw[hs'.lE];simp [Builtin.clear_,MV,run_underlying kZ]
     |some q=>
      have Xe:l=0:=Nat.eq_of_beq_eq_true (by simpa using hn);subst Xe;obtain⟨id,off⟩:=q;rcases hs'.fh with⟨b,hb,he⟩|⟨_,_,ad,he⟩
      ·rw[he];simp [Builtin.clear_,MV,run_underlying kZ]
      ·rw[he];simp [Builtin.clear_,MV,run_underlying kZ]
    cases hn:(p.isNone||Nat.beq l 0) with
    |true=>simpa using nop hn
    |false=>
     rw[hn] at hr;simp only[Bool.false_or] at hr;simp only[cond_false]
     cases p with
     |none=>cases hn
     |some q=>
      obtain⟨id,off⟩:=q;simp only[Option.getD_some] at hr⊢
      have Xe:l≠0:=by
       rintro rfl;cases hn
      obtain⟨e,ccs,b,hg,hle,hb,hc⟩:=DA h.hr hr;rcases hs'.fh with⟨b',hb',he⟩|⟨acO,_,_⟩
      ·rw[hb] at hb';cases hb';cases he;obtain⟨w',g1,g2,g3⟩:=my (E:=E) (off:=off) hc (mz (Ql ρ) hzl hpos l) (gE SF l) (by rw[gg,hzl];exact hle);have hst:S.hp.store id off (dU l z)=S.hp.put id (.cells e (bM ccs off (dU l z)) false):=by simp [ag.store,hg]
       rw[hst];refine⟨ρ,_,w',key w' ?_,h.Dv hg rfl rfl hb g3 g2,.v (.tuple rfl (fun i x y hx=>by simp at hx))⟩
       cases l with
       |zero=>exact absurd rfl Xe
       |succ l=>simp [Builtin.clear_,MV,run_underlying kZ,zeroValue,typeInfo,hi,hz,g1]
      ·exact absurd acO Xe
   ·cases ho
  ·cases ho
 |makeMap t tl=>
  cases tl with
  |some x=>simp [bY] at ho
  |none=>
   simp only[bY] at ho;split at ho
   ·simp only[Option.some.injEq,Prod.mk.injEq] at ho;obtain⟨rfl,rfl,rfl⟩:=ho
    exact⟨_,.map (some w.heap.size),{w with heap:=w.heap.push (.map #[] 0)},by simp [execOp,Instr.makeMap,newObj,Sem.run],h.Du (o:=.map #[] 0) ⟨rfl,rfl,rfl,rfl⟩ (x:=.map [] 0) ⟨#[],rfl,trivial⟩,
     .v (.map (by rw[eF,if_pos rfl]))⟩
   ·cases ho
 |range t x=>
  simp only[bY] at ho;split at ho
  ·rename_i ti r ni hx;obtain⟨ds,rK,hds⟩:=dH ni;split at ho
   ·rename_i kt et hsh;rw[hsh] at hds;cases ur hds;simp only[Option.some.injEq,Prod.mk.injEq] at ho;obtain⟨rfl,rfl,rfl⟩:=ho;have hx':=cW.v hx
    cases r with
    |none=>
     have hx0:a.eval x=.map none:=by
      revert hx';generalize a.eval x=x';intro hx';cases hx';rfl
     exact⟨_,.pointer (some ⟨w.heap.size,0,none⟩),{w with heap:=w.heap.push (.mapIter none 0 #[] 0)},by
      simp [execOp,Instr.range,run_underlying rK,newObj,Sem.run,hx0],
      h.Du (o:=.mapIter none 0 #[] 0) ⟨rfl,rfl,rfl,rfl⟩ (x:=.dM none 0 [] 0) ⟨none,rfl,.yD⟩,.v (.dM t (by rw[eF,if_pos rfl]))⟩
    |some id=>
     have hg:=sN (by simpa using hr);obtain⟨b,hb,es',he,Ha⟩:=h.hr.wW id _ hg
     have hxe:a.eval x=.map (some b):=by
      revert hx';generalize a.eval x=x';intro hx'
      cases hx' with
      |map hb'=>rw[hb] at hb';cases hb';rfl
     refine⟨_,.pointer (some ⟨w.heap.size,0,none⟩),{w with heap:=w.heap.push (.mapIter (some b) (S.hp.clock id) #[] (S.hp.clock id))}, ?_,
      h.Du (o:=.mapIter (some b) (S.hp.clock id) #[] (S.hp.clock id)) ⟨rfl,rfl,rfl,rfl⟩ (x:=.dM (some id) (S.hp.clock id) [] (S.hp.clock id)) ⟨some b,rfl,.map hb⟩,.v (.dM t (by rw[eF,if_pos rfl]))⟩
     simp [execOp,Instr.range,run_underlying rK,hxe,gV (E:=E) he,newObj,Sem.run]
   ·cases ho
  ·cases ho
 |_=>simp [bY] at ho
theorem DE {R:mr} (hX:jZ E) (hR:∀f args H K,R.call f args H K→iB E f args H K) (hB:∀f args H K,R.call f args H K→∃fn,E.P.funcs[f]? =some fn∧fn.body.isSome=true) (h:SR H0 ρ0 w0 ann N ρ lam S a w) {o:Oper} {K:T→ag→Prop} (ho:bJ E R o.op o.type (cS S.tm) S.hp K) {next:Act→World→Prop} {Q:Exit→Act→World→Prop} (hn:∀x H' ρ' v w',K x H'→SR H0 ρ0 w0 ann N ρ' lam {S with hp:=H'} a w'→TR ρ' lam x v→next (a.put o.dst v) w'):o.wp E.P a w next Q:=by
 have cW:=h.ev;obtain⟨dst,op,type,jk,after,guard⟩:=o
 cases op with
 |alloc t=>
  simp only[bJ] at ho;split at ho
  ·rename_i i hi;split at ho
   ·rename_i z hz;obtain⟨z',h1,h2,h3⟩:=vQ hi hz ρ w;have hp:iw (.cells z'.cells t) w {w with heap:=w.heap.push (.cells z'.cells t)}:=⟨rfl,rfl,rfl,rfl⟩;refine cz (v:=.pointer (some ⟨w.heap.size,0,none⟩)) (w':={w with heap:=w.heap.push (.cells z'.cells t)}) (by simp [execOp,Instr.alloc,h1,newVar,newRow]) ?_;exact hn _ _ _ _ _ ho (h.Du hp (x:=.cells t z.cells false) (iC h2 h3)) (.v (.aj (by rw[eF,if_pos rfl])))
   ·exact ho.elim
  ·exact ho.elim
 |box t x=>
  simp only[bJ] at ho;split at ho
  ·rename_i v hv;split at ho
   ·rename_i r vs hvs;obtain⟨hr,ho⟩:=aQ ho;obtain⟨h2,h3⟩:=iT (cW.v hv) hvs hr;have hp:iw (.cells (a.eval x).cells t) w {w with heap:=w.heap.push (.cells (a.eval x).cells t)}:=⟨rfl,rfl,rfl,rfl⟩;refine cz (v:=.pointer (some ⟨w.heap.size,0,none⟩)) (w':={w with heap:=w.heap.push (.cells (a.eval x).cells t)}) (by simp [execOp,Instr.box,newVar,newRow]) ?_;exact hn _ _ _ _ _ ho (h.Du hp (x:=.cells t vs false) (iC h2 h3)) (.v (.aj (by rw[eF,if_pos rfl])))
   ·exact ho.elim
  ·exact ho.elim
 |store t ad x=>
  simp only[bJ] at ho;split at ho
  ·rename_i id off v ha hx;split at ho
   ·rename_i r vs hvs;obtain⟨hr,ho⟩:=aQ ho;rw[Bool.and_eq_true] at hr;have EM:=hr.2;unfold ag.wr at EM;split at EM
    ·rename_i e cs ro hg;rw[Bool.and_eq_true] at EM;have hro:ro=false:=by simpa using EM.1
     subst hro;obtain⟨b,hb,hc⟩:=h.hr.wW id _ hg;obtain⟨b',hb',he⟩:=(cW.tv ha).vM;rw[hb] at hb';cases hb';obtain⟨w',h1,h2,h3⟩:=wY (E:=E) (t:=t) hc (cW.v hx) hvs hr.1 (Nat.le_of_ble_eq_true EM.2);refine vS (w':=w') (by simp [execOp,Instr.storeAt,he,Instr.sureAddr,h1]) ?_;have hst:S.hp.store id off vs=S.hp.put id (.cells e (bM cs off vs) false):=by simp [ag.store,hg]
     rw[hst] at ho;exact hn _ _ _ _ _ ho (h.Dv hg rfl rfl hb h3 h2) .undef
    ·cases EM
   ·exact ho.elim
  ·exact ho.elim
 |call c=>
  simp only[bJ] at ho;split at ho
  ·rename_i f args hc hargs;split at ho
   ·rename_i fv hf
    have post:∀v v' H' ρ' w',(match tT E type v with|some (b,v')=>ah b (K (.v v') H')|none=>False)→VR ρ' v v'→HR ρ' H' w'→lF S.hp ρ w H' ρ' w'→next (a.put dst v') w':=by
     intro v v' H' ρ' w' hk hv Wt hs;revert hk;split
     ·rename_i b y hy;intro hk;obtain⟨hb,hk⟩:=aQ hk;rw[Ny hy hb] at hk;exact hn _ _ _ _ _ hk (h.call hs Wt) (.v hv)
     ·exact fun hk=>hk.elim
    have main:∀(g:FuncId) (as0:List V) (fi cap:Array Value),a.eval f=.func (.func g) fi cap→eM ρ as0 (fi++c.args.map a.eval++cap).toList→
     (match (E.ext g).isSome with
      |true=>iP E g as0 S.hp fun v H'=>match tT E type v with|some (b,v')=>ah b (K (.v v') H')|none=>False
      |false=>R.call g as0 S.hp fun v H'=>match tT E type v with|some (b,v')=>ah b (K (.v v') H')|none=>False)→
     Oper.wp E.P ⟨dst,.call c,type,jk,after,guard⟩ a w next Q:=by
     intro g as0 fi cap he has ho;split at ho
     ·unfold iP at ho;split at ho
      ·rename_i x hx;rcases hX g x hx _ _ _ ho ρ w _ h.hr has with⟨v,v',w',H',ρ',hrun,hk,hv,Wt,hs⟩|⟨hrun,Qx⟩
       ·exact cz (by rw[uv (E:=E) rfl hc he,hrun]) (post v v' H' ρ' w' hk hv Wt hs)
       ·unfold Oper.wp;rw[uv (E:=E) rfl hc he,hrun];refine Qx.mono ?_;rintro e w' ⟨v,v',H',ρ',rfl,hk,hv,Wt,hs⟩;exact post v v' H' ρ' w' hk hv Wt hs
      ·exact ho.elim
     ·obtain⟨fn,hfn,hbody⟩:=hB _ _ _ _ ho;have hrun:=NF (E:=E) (e:=a.eval) (o:=⟨dst,.call c,type,jk,after,guard⟩) rfl hc he hfn hbody w;have Qx:=hR _ _ _ _ ho ρ w _ h.hr has;unfold Oper.wp;rw[hrun];refine Qx.mono ?_;rintro e w' ⟨v,v',H',ρ',rfl,hk,hv,Wt,hs⟩;exact post v v' H' ρ' w' hk hv Wt hs
    have Hc:eM ρ args (c.args.map a.eval).toList:=by simpa using cW.vs hargs
    unfold lz at ho;split at ho
    ·rename_i g cap;obtain⟨cap',he,hcap⟩:=(cW.v hf).Nu
     exact main g (args++cap) #[] cap' he (by
      rw[Array.toList_append,Array.toList_append]
      exact Hc.append hcap) ho
    ·rename_i g first;obtain⟨first',he,SG⟩:=(cW.v hf).Nv
     exact main g (first++args) first' #[] he (by
      rw[Array.toList_append,Array.toList_append]
      simpa using SG.append Hc) ho
    ·exact ho.elim
   ·exact ho.elim
  ·rename_i args hc hargs;obtain⟨q,n,cp,H',ρ',v,w',hk,hrun,hs,hv⟩:=Dz (E:=E) h (args':=c.args.map a.eval) (ty:=type) (by simpa using cW.vs hargs) ho;refine cz ?_ (hn _ _ _ _ _ hk hs hv);have aaq:(Builtin.append_ c.argTypes type (c.args.map a.eval)).run E.P w=.ok v w':=by simpa using hrun
   simp only[execOp,resolve,hc,invoke,builtin,Sem.run_bind,Sem.run_pure,Result.andThen_ok,aaq]
  ·split at ho
   ·rename_i r x H' hs;obtain⟨hr,ho⟩:=aQ ho;obtain⟨ρ',v,w',h1,h2,h3⟩:=gn h (o:=⟨dst,.call c,type,jk,after,guard⟩) hs hr;exact cz h1 (hn _ _ _ _ _ ho h2 h3)
   ·exact ho.elim
 |convert s d x=>
  simp only[bJ] at ho;split at ho
  ·rename_i cN ti hk hx ni
   split at ho
   ·rename_i el hsh;split at ho
    ·rename_i hel;obtain⟨hr,ho⟩:=aQ ho;have ic:=Nat.le_of_ble_eq_true hr;obtain⟨ds,rK,hds⟩:=bK hk;obtain⟨dd,hud,Qu⟩:=dH ni;rw[hsh] at Qu;cases iv Qu;obtain⟨de,SD,Qr⟩:=bK hel;cases de<;>simp [bo,cO] at Qr
     subst Qr;have he:=(cW.v hx).vL;have Qn:=grownCap_ge w cN.size 0 el
     have Qo:=grownCap_le_maxLen w cN.size 0 el (by simp only[maxLen];omega)
     have hk:=ho (grownCap w cN.size 0 el) Qn (by simp only[maxLen] at Qo;omega);obtain⟨row,hrow⟩:∃row:Array Value,row=cN.data.map (fun b=>Value.int .u8 b.toNat)++Array.replicate (grownCap w cN.size 0 el-cN.size) (.int .u8 0):=⟨_,rfl⟩
     have Ql:eM ρ (hJ (grownCap w cN.size 0 el-cN.size) [.int .u8 0]) (Array.replicate (grownCap w cN.size 0 el-cN.size) (Value.int .u8 0)).toList:=by
      refine⟨by simp [gg], ?_⟩;intro i x y hx hy
      have hi:i<grownCap w cN.size 0 el-cN.size:=by
       rcases Nat.lt_or_ge i (grownCap w cN.size 0 el-cN.size) with h|h
       ·exact h
       ·rw[List.getElem?_eq_none (by simpa using h)] at hy;cases hy
      rw[yP (by simp) _ _ (by simpa using hi)] at hx;have h1:=List.mem_of_getElem? hx;have h2:=List.mem_of_getElem? hy;simp only[List.mem_singleton] at h1;simp at h2;rw[h1,h2.2];exact .int _ _
     have MR:=(um ρ cN).append Ql
     have h1:=h.Du (o:=.cells row el) (w':=w.drew.alloc (.cells row el)) ⟨rfl,rfl,rfl,rfl⟩ (x:=.cells el (ym (eZ cN) (hJ (grownCap w cN.size 0 el-cN.size) [.int .u8 0])) false)
      (iC (by rw[hrow];simpa [ym] using MR) ((uk cN).append (gE (by intro v hv;simp at hv;rw[hv];rfl) _)))
     have hg:(S.hp.alloc (.cells el (ym (eZ cN) (hJ (grownCap w cN.size 0 el-cN.size) [.int .u8 0])) false)).get S.hp.next=some (.cells el (ym (eZ cN) (hJ (grownCap w cN.size 0 el-cN.size) [.int .u8 0])) false):=by
      simp [ag.alloc]
     obtain⟨b,hb,hc⟩:=h1.hr.wW _ _ hg;obtain⟨w2,g1,g2,g3⟩:=yS (E:=E) (off:=0) hc;have hs:=h1.Dv hg rfl rfl hb g3 (y:=.cells el (ym (eZ cN) (hJ (grownCap w cN.size 0 el-cN.size) [.int .u8 0])) false) g2;rw[uo hg] at hs;have Bv:b=w.heap.size:=by rw[eF,if_pos rfl] at hb;exact(Option.some.inj hb).symm
     subst Bv;refine cz (v:=.slice (some ⟨w.heap.size,0,none⟩) cN.size (grownCap w cN.size 0 el)) (w':=w2) ?_ (hn _ _ _ _ _ hk hs (.v (.slice _ _ hb)));have hch:(choose (.appendCap cN.size 0 el)).run E.P w=.ok (grownCap w cN.size 0 el) w.drew:=by simp [Question.forced,grownCap]
     cases ds<;>simp [bo,cO] at hds
     simp only[execOp,convert,Sem.run_bind,run_underlying rK,run_underlying hud,run_underlying SD,Result.andThen_ok,he,Conv.stringToBytes,hch,newRow, ←hrow];have hn2:(Sem.new (.cells row el) Sem.pure).run E.P w.drew=.ok w.heap.size (w.drew.alloc (.cells row el)):=rfl;simp [newObj,hn2,g1]
    ·exact ho.elim
   ·exact ho.elim
  ·split at ho
   ·rename_i r x' H' hs;obtain⟨hr,ho⟩:=aQ ho;obtain⟨ρ',v,w',h1,h2,h3⟩:=gn h (o:=⟨dst,.convert s d x,type,jk,after,guard⟩) hs hr;exact cz h1 (hn _ _ _ _ _ ho h2 h3)
   ·exact ho.elim
 |mapUpdate t m x v=>
  simp only[bJ] at ho;split at ho
  ·rename_i ti r k n v' ni hm hx hv;obtain⟨ds,rK,hds⟩:=dH ni;split at ho
   ·rename_i kt et hsh;rw[hsh] at hds;cases ur hds;split at ho
    ·rename_i k' b y hk hy;obtain⟨dk,Xd,hdk⟩:=bK hk;have Qs:dk=.int k':=by cases dk<;>simp_all [bo,cO]
     subst Qs;replace ho:=aQ ho;obtain⟨hq,ho⟩:=ho;simp only[Bool.and_eq_true,nn,decide_eq_true_eq] at hq;obtain⟨hkk,hsome,hok,hb⟩:=hq;subst hkk
     cases r with
     |none=>cases hsome
     |some id=>
      have hx':=(cW.v hx).iu;obtain⟨bb,w',o',Bv,hrun,Qv,hg,gB,hrw,Qw⟩:=xA (E:=E) (n:=n) rK Xd h.hr (cW.v hm) hok (cW.v hv);refine vS (w':=w') (by simp [execOp,hx',hrun]) ?_;simp only[Option.getD_some] at ho;rw[gB] at ho;exact hn _ _ _ _ _ ho (h.Dv hg rfl hrw Bv Qv Qw) .undef
    ·exact ho.elim
   ·exact ho.elim
  ·exact ho.elim
 |next it isStr=>
  cases isStr with
  |true=>simp [bJ,bY] at ho
  |false=>
   simp only[bJ] at ho;split at ho
   ·rename_i t id hit;obtain⟨b,hb,he⟩:=(cW.tv hit).Fl;rcases Bf (E:=E) (ty:=type) h hb ho with⟨hk,hrun⟩|⟨H',w',k,v,hk,hrun,hs⟩
    ·exact cz (v:=.tuple #[.bool false]) (w':=w) (by simp [execOp,he,hrun]) (hn _ _ _ _ _ hk h (.v (.gD (.cons (.bool _) (.nil ρ)))))
    ·exact cz (v:=.tuple #[.bool true,k,v]) (w':=w') (by simp [execOp,he,hrun]) (hn _ _ _ _ _ hk hs (.v (.gD (.cons (.bool _) (.cons (.cv _) (.cons (.cv _) (.nil ρ)))))))
   ·exact ho.elim
 |makeMap t tl=>
  simp only[bJ] at ho;split at ho
  ·rename_i r x H' hs;obtain⟨hr,ho⟩:=aQ ho;obtain⟨ρ',v,w',h1,h2,h3⟩:=gn h (o:=⟨dst,.makeMap t tl,type,jk,after,guard⟩) hs hr;exact cz h1 (hn _ _ _ _ _ ho h2 h3)
  ·exact ho.elim
 |range t x=>
  simp only[bJ] at ho;split at ho
  ·rename_i r x' H' hs;obtain⟨hr,ho⟩:=aQ ho;obtain⟨ρ',v,w',h1,h2,h3⟩:=gn h (o:=⟨dst,.range t x,type,jk,after,guard⟩) hs hr;exact cz h1 (hn _ _ _ _ _ ho h2 h3)
  ·exact ho.elim
 |makeSlice t len cap=>
  simp only[bJ] at ho;split at ho
  ·rename_i r x H' hs;obtain⟨hr,ho⟩:=aQ ho;obtain⟨ρ',v,w',h1,h2,h3⟩:=gn h (o:=⟨dst,.makeSlice t len cap,type,jk,after,guard⟩) hs hr;exact cz h1 (hn _ _ _ _ _ ho h2 h3)
  ·exact ho.elim
 |buildSlice t len parts=>
  simp only[bJ] at ho;split at ho
  ·rename_i r x H' hs;obtain⟨hr,ho⟩:=aQ ho;obtain⟨ρ',v,w',h1,h2,h3⟩:=gn h (o:=⟨dst,.buildSlice t len parts,type,jk,after,guard⟩) hs hr;exact cz h1 (hn _ _ _ _ _ ho h2 h3)
  ·exact ho.elim
 |_=>simp [bJ,bY] at ho
theorem w8 {R:mr} (hX:jZ E) (hR:∀f args H K,R.call f args H K→iB E f args H K) (hB:∀f args H K,R.call f args H K→∃fn,E.P.funcs[f]? =some fn∧fn.body.isSome=true) (h:SR H0 ρ0 w0 ann N ρ lam S a w) {o:Oper} {K:St→Prop} (hc:jl E R ann N o S K) {next:Act→World→Prop} {Q:Exit→Act→World→Prop} (hn:∀S' ρ' dJ a' w',SR H0 ρ0 w0 ann N ρ' dJ S' a' w'→K S'→next a' w'):o.wp E.P a w next Q:=by
 have cW:=h.ev
 have hL:∀s M,S.lo s=some M→∃b,lam s=some b∧vN ρ M w.heap[b]? :=by
  intro s M hM;obtain⟨b,h1,h2,_⟩:=h.lo s M hM;exact⟨b,h1,h2⟩
 unfold jl at hc
 cases wN:HB E ann o with
 |pure=>
  simp only[wN] at hc;split at hc
  ·rename_i d hd;obtain⟨hr,hk⟩:=fS.ff hc;obtain⟨v,h1,h2⟩:=Dq (w:=w) cW hd hr;obtain⟨hok,hk⟩:=ej.1 hk;exact cz h1 (hn _ _ _ _ _ (h.put h2 hok) hk)
  ·exact hc.elim
 |oY s=>
  simp only[wN] at hc;split at hc
  ·rename_i d hd;obtain⟨hr,hk⟩:=fS.ff hc;obtain⟨v,h1,h2⟩:=Fx (w:=w) cW hd hr (hL s);obtain⟨hok,hk⟩:=ej.1 hk;exact cz h1 (hn _ _ _ _ _ (h.put h2 hok) hk)
  ·exact hc.elim
 |iN s=>
  simp only[wN] at hc;split at hc
  ·rename_i d hd;obtain⟨hr,hk⟩:=fS.ff hc;obtain⟨M,b,w',v,hM,hb,ho,hl,hx,hrun⟩:=Dw (w:=w) cW hd hr (hL s);obtain⟨hok,hk⟩:=ej.1 hk;have h':=(h.setL hM hb ho hl).put hx hok;rcases hrun with hrun|⟨rfl,hrun⟩
   ·exact cz hrun (hn _ _ _ _ _ h' hk)
   ·exact vS hrun (hn _ _ _ _ _ h' hk)
  ·exact hc.elim
 |tW=>
  simp only[wN] at hc;split at hc
  ·rename_i d r L xL hd;obtain⟨hr,hk⟩:=aQ hc;obtain⟨x,w',h1,h2,h3⟩:=HO (w:=w) cW hd hr;obtain⟨hok,hk⟩:=ej.1 hk;have hs:=(h.aaY h2 h3).put (dst:=some d) (x:=.lp d 0) (v:=.pointer (some ⟨w.heap.size,0,none⟩)) (.lp (by rw[eF,if_pos rfl])) hok;refine cz h1 ?_;rw[xL];exact hn _ _ _ _ _ hs hk
  ·exact hc.elim
 |kK=>
  simp only[wN] at hc;split at hc
  ·rename_i d hd;obtain⟨hr,hk⟩:=fS.ff hc;obtain⟨v,h1,h2⟩:=w7 (w:=w) cW h.hr hd hr;obtain⟨hok,hk⟩:=ej.1 hk;exact cz h1 (hn _ _ _ _ _ (h.put h2 hok) hk)
  ·exact hc.elim
 |tX=>
  simp only[wN] at hc;unfold Jg at hc;split at hc
  ·rename_i f first dG hop;split at hc
   ·rename_i vs S' hf hl;obtain⟨ρ',h1,h2,h3⟩:=mW h hl;obtain⟨hok,hk⟩:=ej.1 hc;have hf':first= #[]:=by apply Array.ext';simpa using hf
    refine cz (v:=.func (.func f) #[] (dG.map a.eval)) (w':=w) ?_ (hn _ _ _ _ _ (h1.put (.v (.Ji (by simpa using h2))) hok) hk);simp [execOp,hop,Instr.makeFunc,hf']
   ·exact hc.elim
  ·exact hc.elim
 |dv=>
  simp only[wN] at hc;refine DE hX hR hB h hc ?_;intro x H' ρ' v w' hk hs hx;obtain⟨hok,hk⟩:=ej.1 hk;exact hn _ _ _ _ _ (hs.put hx hok) hk
theorem DF {aF:Array Oper} {j:Nat} {t:T} (h:SR H0 ρ0 w0 ann N ρ lam S a w) (hy:gb aF.toList S.tm j=some t):(∀b,t=.v (.bool b)→yielded aF a.tmps j=some b)∧(t=.undef→yielded aF a.tmps j=none):=by
 unfold gb at hy;split at hy
 ·rename_i o ho;split at hy
  ·rename_i d hd;have ho':aF[j]? =some o:=by simpa using ho
   have ht:=h.tm d t hy
   have key:yielded aF a.tmps j=match a.tmps[d]? with|some (.bool b)=>some b|_=>none:=by
    simp only[yielded,ho',Option.bind_some,hd]
    cases a.tmps[d]? with
    |none=>rfl
    |some x=>cases x<;>rfl
   rw[key];rw[Array.getD_eq_getD_getElem?] at ht;constructor
   ·rintro b rfl
    cases hq:a.tmps[d]? with
    |none=>rw[hq] at ht;simp only[Option.getD_none,undef] at ht;cases ht with|v h=>cases h
    |some x=>rw[hq] at ht;simp only[Option.getD_some] at ht;cases ht with|v h=>cases h;rfl
   ·rintro rfl
    cases hq:a.tmps[d]? with
    |none=>rfl
    |some x=>rw[hq] at ht;simp only[Option.getD_some] at ht;cases ht;rfl
  ·cases hy
 ·cases hy
theorem pQ {R:mr} (hX:jZ E) (hR:∀f args H K,R.call f args H K→iB E f args H K) (hB:∀f args H K,R.call f args H K→∃fn,E.P.funcs[f]? =some fn∧fn.body.isSome=true) (h:SR H0 ρ0 w0 ann N ρ lam S a w) {aF:Array Oper} {i:Nat} {o:Oper} (hi:aF[i]? =some o) {K:St→Prop} (hc:eQ E R ann N aF.toList o S K) {next:Act→World→Prop} {Q:Exit→Act→World→Prop} (hn:∀S' ρ' dJ a' w',SR H0 ρ0 w0 ann N ρ' dJ S' a' w'→K S'→next a' w'):wpOp E.P aF Q i next a w:=by
 unfold wpOp;simp only[hi]
 have skip:jv ann N o.dst .undef S K→next (a.put o.dst undef) w:=by
  intro hk;obtain⟨hok,hk⟩:=ej.1 hk;exact hn _ _ _ _ _ (h.put .undef hok) hk
 unfold eQ at hc
 cases hg:o.guard with
 |none=>
  simp only[hg] at hc;simp only[Region.wanted,hg,if_true];exact .inl (w8 hX hR hB h hc hn)
 |some p=>
  obtain⟨j,want⟩:=p;simp only[hg] at hc
  cases hy:gb aF.toList S.tm j with
  |none=>simp only[hy] at hc
  |some t=>
   obtain⟨h1,h2⟩:=DF h hy
   cases t with
   |undef=>
    simp only[hy] at hc;simp only[Region.wanted,hg,h2 rfl];rw[if_neg (by simp)];exact skip hc
   |lp s off=>simp only[hy] at hc
   |v x=>
    cases x with
    |bool b=>
     simp only[hy] at hc;simp only[Region.wanted,hg,h1 b rfl];rcases gy hc with⟨hb,hc⟩|⟨hb,hc⟩
     ·rw[if_pos (by simpa using hb)];exact .inl (w8 hX hR hB h hc hn)
     ·rw[if_neg (by simpa using hb)];exact skip hc
    |_=>simp only[hy] at hc
end
def Q9 (P:Program) (c:Code) (Q:Exit→Act→World→Prop) (a:Act) (w:World):Prop:=
 ∀(b:Frame) (k:List Item) (cs:List Frame),∃e a' w',Q e a' w'∧Arrives P (lone (b.at a (.code c:: .inLoop c::k)) cs w) b k cs e a' w'
theorem NG {P:Program} {c:Code} {Q:Exit→Act→World→Prop} {a:Act} {w:World} (h:Q9 P c Q a w):(Code.loop c).wp P Q a w:=by
 intro b k cs;obtain⟨e,a',w',hq,Hd⟩:=h b k cs;exact⟨e,a',w',hq,.of_steps (.one step_loop) Hd⟩
theorem HQ {P:Program} {c:Code} {Q:Exit→Act→World→Prop} {a:Act} {w:World} (h:c.wp P (Exit.then (Q9 P c Q) Q) a w):Q9 P c Q a w:=by
 intro b k cs;obtain⟨e,a₁,w₁,hq,Hd⟩:=h b (.inLoop c::k) cs
 cases e with
 |normal=>
  obtain⟨e₂,a₂,w₂,aar,SH⟩:=hq b k cs;exact⟨e₂,a₂,w₂,aar,.of_steps (Steps.trans Hd (.one step_inLoop)) SH⟩
 |exit id=>exact⟨_,a₁,w₁,hq,.pass (x:=.inLoop c) rfl (fun _ _=>.inl (by simp)) Hd⟩
 |goto l=>exact⟨_,a₁,w₁,hq,.pass (x:=.inLoop c) rfl (fun _ _=>.inl (by simp)) Hd⟩
 |ret=>exact⟨_,a₁,w₁,hq,.pass (x:=.inLoop c) rfl (fun _ _=>.inl (by simp)) Hd⟩
 |panic ch=>exact⟨_,a₁,w₁,hq,.pass (x:=.inLoop c) rfl (fun _ _=>.inl (by simp)) Hd⟩
 |outgrown=>exact⟨_,a₁,w₁,hq,.pass (x:=.inLoop c) rfl (fun _ _=>.inl (by simp)) Hd⟩
def nB (E:kz) (c:Code) (f:FuncId) (S:St) (Kr:St→Prop) (Ke:Nat→St→Prop):Prop:=
 ∀(fn:Func) (H0:ag) (ρ0:dD) (w0:World) (ρ lam:dD) (a:Act) (w:World) (Q:Exit→Act→World→Prop),E.P.funcs[f]? =some fn→
  SR H0 ρ0 w0 (E.ann f) fn.ntmps ρ lam S a w→
  (∀S' ρ' dJ a' w',SR H0 ρ0 w0 (E.ann f) fn.ntmps ρ' dJ S' a' w'→Kr S'→Q .ret a' w')→
  (∀id S' ρ' dJ a' w',SR H0 ρ0 w0 (E.ann f) fn.ntmps ρ' dJ S' a' w'→Ke id S'→Q (.exit id) a' w')→Q9 E.P c Q a w
structure nC (E:kz) (R:mr):Prop where
 call:∀f args H K,R.call f args H K→iB E f args H K
 body:∀f args H K,R.call f args H K→∃fn,E.P.funcs[f]? =some fn∧fn.body.isSome=true
 loop:∀c f n S Kr Ke,R.loop c f n S Kr Ke→nB E c f S Kr Ke
 mono:R.le R
 vF:iq R
 ext:jZ E
section
variable {E:kz} {H0:ag} {ρ0:dD} {w0:World} {ann:bQ} {N:Nat} {ρ lam:dD} {S:St} {a:Act} {w:World} {R:mr}
theorem sO {tm:Nat→Option T}:∀{l:List Nat} {m:List (Nat×T)} {t:Nat} {x:T},E7 tm l=some m→ab m t=some x→tm t=some x
 |[],m,t,x,h,hl=>by simp only[E7,Option.some.injEq] at h;subst h;cases hl
 |s::l,m,t,x,h,hl=>by
  simp only[E7] at h;split at h
  ·rename_i y m' hy hm;simp only[Option.some.injEq] at h;subst h;simp only[ab,aW] at hl;by_cases he:t=s
   ·simp only[he,decide_true,cond_true,Option.some.injEq] at hl;subst hl;rw[he];exact hy
   ·simp only[he,decide_false,cond_false] at hl;exact sO hm hl
  ·cases h
theorem sP {tm:Nat→Option aO}:∀{l:List Nat} {m:List (Nat×aO)} {t:Nat} {x:aO},E8 tm l=some m→ab m t=some x→tm t=some x
 |[],m,t,x,h,hl=>by simp only[E8,Option.some.injEq] at h;subst h;cases hl
 |s::l,m,t,x,h,hl=>by
  simp only[E8] at h;split at h
  ·rename_i y m' hy hm;simp only[Option.some.injEq] at h;subst h;simp only[ab,aW] at hl;by_cases he:t=s
   ·simp only[he,decide_true,cond_true,Option.some.injEq] at hl;subst hl;rw[he];exact hy
   ·simp only[he,decide_false,cond_false] at hl;exact sP hm hl
  ·cases h
theorem SR.Rc (h:SR H0 ρ0 w0 ann N ρ lam S a w) {S':St} (h1:∀t x,S'.tm t=some x→S.tm t=some x) (h2:∀t x,S'.lo t=some x→S.lo t=some x) (h3:S'.hp=S.hp):SR H0 ρ0 w0 ann N ρ lam S' a w where
 defers:=h.defers
 size:=h.size
 tm:=fun t x hx=>h.tm t x (h1 t x hx)
 Lf:=fun t s off hx=>h.Lf t s off (h1 t _ hx)
 lo:=fun s L hL=>by rw[h3];exact h.lo s L (h2 s L hL)
 uf:=fun s s' L L' b e1 e2=>h.uf s s' L L' b (h2 _ _ e1) (h2 _ _ e2)
 hr:=by rw[h3];exact h.hr
 bX:=by rw[h3];exact h.bX
theorem j9 (h:SR H0 ρ0 w0 ann N ρ lam S a w) {ts ls:List Nat} {K:St→Prop} (hk:lB ts ls S K):∃S',SR H0 ρ0 w0 ann N ρ lam S' a w∧K S':=by
 unfold lB at hk;split at hk
 ·rename_i m l hm hl;exact⟨_,h.Rc (S':=⟨ab m,ab l,S.hp⟩) (fun t x hx=>sO hm hx) (fun t x hx=>sP hl hx) rfl,hk⟩
 ·exact hk.elim
theorem Re {k:KT} {x:Option T} (h:aB k x=true):x=some (QW k x):=by
 cases k with
 |k k=>
  cases x with
  |none=>simp [aB] at h
  |some y=>cases y with
   |v z=>simp only[aB] at h;simp [QW,T.val,V.so h]
   |_=>simp [aB] at h
 |agg ks=>
  cases x with
  |none=>simp [aB] at h
  |some y=>cases y with
   |v z=>
    simp only[aB,Bool.and_eq_true] at h;simp only[QW,T.val];rw[k8 h.2 rfl, ←ug h.1]
   |_=>simp [aB] at h
 |lp s=>
  cases x with
  |none=>simp [aB] at h
  |some y=>cases y with
   |lp s' off=>
    cases off with
    |zero=>simp only[aB] at h;rw[Nat.eq_of_beq_eq_true h];rfl
    |succ n=>simp [aB] at h
   |_=>simp [aB] at h
 |undef=>
  cases x with
  |none=>simp [aB] at h
  |some y=>cases y with
   |undef=>rfl
   |_=>simp [aB] at h
theorem Rh {e:TypeId} {ks:List cg} {x:Option aO} (h:eh e ks x=true):x=some (.cells e (n8 ks (ao x) 0)):=by
 cases x with
 |none=>simp [eh] at h
 |some y=>cases y with
  |cells e' cs=>
   simp only[eh,Bool.and_eq_true] at h;simp only[ao];rw[k8 h.2 rfl,Nat.eq_of_beq_eq_true h.1]
  |dM s p=>simp [eh] at h
theorem sQ:∀{l:List (Nat×KT)} {t:Nat} {x:T},(lC S l).1=true→ab (lC S l).2 t=some x→S.tm t=some x
 |[],t,x,_,hl=>by cases hl
 |(s,k)::l,t,x,h,hl=>by
  simp only[lC,Bool.and_eq_true] at h hl;simp only[ab,aW] at hl;by_cases he:t=s
  ·simp only[he,decide_true,cond_true,Option.some.injEq] at hl;subst hl;rw[he];exact Re h.1
  ·simp only[he,decide_false,cond_false] at hl;exact sQ h.2 hl
theorem sR:∀{l:List (Nat×TypeId×List cg)} {t:Nat} {x:aO},(lD S l).1=true→ab (lD S l).2 t=some x→S.lo t=some x
 |[],t,x,_,hl=>by cases hl
 |(s,e,ks)::l,t,x,h,hl=>by
  simp only[lD,Bool.and_eq_true] at h hl;simp only[ab,aW] at hl;by_cases he:t=s
  ·simp only[he,decide_true,cond_true,Option.some.injEq] at hl;subst hl;rw[he];exact Rh h.1
  ·simp only[he,decide_false,cond_false] at hl;exact sR h.2 hl
theorem pR (h:SR H0 ρ0 w0 ann N ρ lam S a w) {ts:List (Nat×KT)} {ls:List (Nat×TypeId×List cg)} {K:St→Prop} (hk:BB ts ls S K):∃S',SR H0 ρ0 w0 ann N ρ lam S' a w∧K S':=by
 obtain⟨h1,h2⟩:=aQ hk;rw[Bool.and_eq_true] at h1;exact⟨_,h.Rc (S':=⟨ab (lC S ts).2,ab (lD S ls).2,S.hp⟩) (fun t x hx=>sQ h1.1 hx) (fun t x hx=>sR h1.2 hx) rfl,h2⟩
theorem uw (h:SR H0 ρ0 w0 ann N ρ lam S a w) {kp:ju} {K:Ex→St→Prop}:∀{l:List Nat} {id:Nat},vI kp K l id S→∃S',SR H0 ρ0 w0 ann N ρ lam S' a w∧K (.exit id) S'
 |[],_,hk=>hk.elim
 |j::l,id,hk=>by
  rcases gy hk with⟨hj,hk⟩|⟨_,hk⟩
  ·rw[Nat.eq_of_beq_eq_true hj];exact pR h hk
  ·exact uw h hk
def g8 (E:kz) (R:mr) (ann:bQ) (N:Nat) (aF:Array Oper):List Nat→St→(St→Prop)→Prop
 |[],S,K=>K S
 |i::l,S,K=>match aF[i]? with
  |some o=>eQ E R ann N aF.toList o S fun S'=>g8 E R ann N aF l S' K
  |none=>g8 E R ann N aF l S K
theorem BL {aF:Array Oper} {K:St→Prop}:∀(l:List Oper) (i:Nat) {S:St},aF.toList.drop i=l→lA E R ann N aF.toList l S K=g8 E R ann N aF (List.range' i l.length) S K
 |[],i,_,_=>rfl
 |o::l,i,S,hl=>by
  have hi:aF[i]? =some o:=by
   have:(aF.toList.drop i)[0]? =some o:=by rw[hl];rfl
   simpa using this
  rw[List.length_cons,List.range'_succ,g8,hi];have hl':aF.toList.drop (i+1)=l:=by rw[←List.drop_drop,hl];rfl
  simp only[lA];congr 1;funext S';exact BL l (i+1) hl'
theorem pS (hR:nC E R) {aF:Array Oper} {Q:Exit→Act→World→Prop}:∀(l:List Nat) {S:St} {K:St→Prop} {ρ lam:dD} {a:Act} {w:World},SR H0 ρ0 w0 ann N ρ lam S a w→g8 E R ann N aF l S K→(∀S' ρ' dJ a' w',SR H0 ρ0 w0 ann N ρ' dJ S' a' w'→K S'→Q .normal a' w')→wpOps E.P aF Q l a w
 |[],S,K,ρ,lam,a,w,h,hk,hq=>hq _ _ _ _ _ h hk
 |i::l,S,K,ρ,lam,a,w,h,hk,hq=>by
  rw[wpOps_cons];unfold g8 at hk;split at hk
  ·rename_i o ho;exact pQ hR.ext hR.call hR.body h ho hk fun S' ρ' dJ a' w' h' hk'=>pS hR l h' hk' hq
  ·rename_i ho;unfold wpOp;simp only[ho];exact pS hR l h hk hq
end
section
variable {E:kz} {H0:ag} {ρ0:dD} {w0:World} {ann:bQ} {N:Nat} {ρ lam:dD} {S:St} {a:Act} {w:World} {R:mr}
theorem ux (hR:nC E R) {aF:Array Oper} {i:Nat} {o:Oper} (hi:aF[i]? =some o):∀(pre:List Nat) (post:List Nat) {S:St} {K:St→Prop},(∀j∈pre,∀p,aF[j]? =some p→gw (cX E ann aF.toList o) (cX E ann aF.toList p)=true)→g8 E R ann N aF (pre++i::post) S K→eQ E R ann N aF.toList o S fun S'=>g8 E R ann N aF (pre++post) S' K
 |[],post,S,K,_,hk=>by
  rw[List.nil_append,g8,hi] at hk;exact hk
 |j::pre,post,S,K,hap,hk=>by
  rw[List.cons_append,g8] at hk
  have ih:∀S',g8 E R ann N aF (pre++i::post) S' K→eQ E R ann N aF.toList o S' fun S'=>g8 E R ann N aF (pre++post) S' K:=
   fun S' h=>ux hR hi pre post (fun j hj=>hap j (List.mem_cons_of_mem _ hj)) h
  split at hk
  ·rename_i p hp;have h1:=eI hR.mono ih hk
   have acP:gw (cX E ann aF.toList p) (cX E ann aF.toList o)=true:=by
    have:=hap j (List.mem_cons_self ..) p hp;simp only[gw,Bool.and_eq_true,Bool.not_eq_true'] at this⊢;obtain⟨⟨⟨⟨⟨⟨⟨⟨h1,h2⟩,h3⟩,h4⟩,h5⟩,h6⟩,h7⟩,h8⟩,h9,xO⟩:=this
    have flip:∀{l m:List Nat},jm l m=false→jm m l=false:=by
     intro l m h;have hs:=fQ h;cases hq:jm m l
     ·rfl
     ·exfalso
      have:∀{l' m':List Nat},jm l' m'=true→∃x,x∈l'∧x∈m':=by
       intro l' m' hh
       induction l' with
       |nil=>cases hh
       |cons y l' ih=>
        rw[jm,Bool.or_eq_true] at hh;rcases hh with hh|hh
        ·exact⟨y,List.mem_cons_self ..,jz.1 hh⟩
        ·obtain⟨x,hx1,vD⟩:=ih hh;exact⟨x,List.mem_cons_of_mem _ hx1,vD⟩
      obtain⟨x,hx1,vD⟩:=this hq;exact hs x vD hx1
    exact⟨⟨⟨⟨⟨⟨⟨⟨h3,flip h2⟩,h1⟩,h6⟩,flip h5⟩,h4⟩,h8⟩,h7⟩,xO,h9⟩
   have h2:=yC hR.mono hR.vF acP h1;refine eI hR.mono ?_ h2;intro S' h';rw[List.cons_append,g8,hp];exact h'
  ·rename_i hp;have:=ih _ hk;refine eI hR.mono ?_ this;intro S' h';rw[List.cons_append,g8,hp];exact h'
theorem w9 {i:Nat}:∀{l:List Edge},C9 i l=true→∀e∈l,Region.binds .any e=true→e.on<i
 |[],_,e,he=>by cases he
 |x::l,h,e,he=>by
  rw[C9,Bool.and_eq_true,Bool.or_eq_true] at h;intro hb;rcases List.mem_cons.1 he with rfl|he
  ·rcases h.1 with h1|h1
   ·rw[hb] at h1;cases h1
   ·simpa using h1
  ·exact w9 h.2 e he hb
theorem oD:∀{l:List Oper} {i:Nat},oi l i=true→∀(j:Nat) (o:Oper),l[j]? =some o→∀e∈o.after.toList,Region.binds .any e=true→e.on<i+j
 |[],_,_,j,o,h=>by simp at h
 |x::l,i,h,j,o,ho=>by
  rw[oi,Bool.and_eq_true] at h;intro e he hb
  cases j with
  |zero=>simp only[List.getElem?_cons_zero,Option.some.injEq] at ho;subst ho;exact w9 h.1 e he hb
  |succ j=>
   have:=oD h.2 j o (by simpa using ho) e he hb;omega
theorem uy {fs:List jV} {bs:List (List Nat)} {i:Nat} {f:jV}:∀{n:Nat},tZ fs bs i f n=true→∀j,j<n→∃g b,fs[j]? =some g∧bs[i]? =some b∧(j∈b∨gw f g=true)
 |0,_,j,hj=>by omega
 |n+1,h,j,hj=>by
  rw[tZ,Bool.and_eq_true] at h;by_cases he:j=n
  ·subst he;have h1:=h.1;split at h1
   ·rename_i g b hg hb;rw[Bool.or_eq_true] at h1;exact⟨g,b,hg,hb,h1.imp jz.1 id⟩
   ·cases h1
  ·exact uy h.2 j (by omega)
theorem pT {fs:List jV} {bs:List (List Nat)}:∀{l:List jV} {k:Nat},qO fs bs l k=true→∀(i:Nat) (f:jV),l[i]? =some f→tZ fs bs (k+i) f (k+i)=true
 |[],_,_,i,f,h=>by simp at h
 |x::l,k,h,i,f,hf=>by
  rw[qO,Bool.and_eq_true] at h
  cases i with
  |zero=>simp only[List.getElem?_cons_zero,Option.some.injEq] at hf;subst hf;exact h.1
  |succ i=>
   have:=pT h.2 i f (by simpa using hf);rw[show k+(i+1)=k+1+i by omega];exact this
theorem uz:∀(l:List Oper) (acc:List (List Nat)) (i:Nat) (b:List Nat),(iQ l acc)[i]? =some b→(i<acc.length∧acc[i]? =some b)∨∃o,l[i-acc.length]? =some o∧acc.length≤i∧∀j∈b,∃e∈o.after.toList,Region.binds .any e=true∧(j=e.on∨(e.on<i∧∃b',(iQ l acc)[e.on]? =some b'∧j∈b'))
 |[],acc,i,b,h=>by
  simp only[iQ] at h;refine .inl ⟨?_,h⟩;rcases Nat.lt_or_ge i acc.length with h'|h'
  ·exact h'
  ·rw[List.getElem?_eq_none h'] at h;cases h
 |o::l,acc,i,b,h=>by
  simp only[iQ] at h⊢
  have keep:∀(l:List Oper) (acc:List (List Nat)) (i:Nat),i<acc.length→(iQ l acc)[i]? =acc[i]? :=by
   intro l
   induction l with
   |nil=>intro acc i hi;rfl
   |cons q l ih=>
    intro acc i hi;simp only[iQ];rw[ih _ i (by simp;omega),List.getElem?_append_left hi]
  rcases uz l (acc++[qN acc o.after.toList]) i b h with⟨h1,h2⟩|⟨q,h1,h2,h3⟩
  ·simp only[List.length_append,List.length_singleton] at h1;by_cases hi:i<acc.length
   ·rw[List.getElem?_append_left hi] at h2;exact .inl ⟨hi,h2⟩
   ·have hi':i=acc.length:=by omega
    subst hi';rw[List.getElem?_append_right (Nat.le_refl _)] at h2;simp only[Nat.sub_self,List.getElem?_cons_zero,Option.some.injEq] at h2;subst h2;refine .inr ⟨o,by simp,Nat.le_refl _, ?_⟩;intro j hj
    have:∀(es:List Edge),j∈qN acc es→∃e∈es,Region.binds .any e=true∧(j=e.on∨j∈acc[e.on]?.getD []):=by
     intro es
     induction es with
     |nil=>intro h;cases h
     |cons e es ih=>
      intro h;simp only[qN] at h;cases hb:Region.binds .any e
      ·simp only[hb,cond_false] at h;obtain⟨e',h1,h2⟩:=ih h;exact⟨e',List.mem_cons_of_mem _ h1,h2⟩
      ·simp only[hb,cond_true,List.mem_cons,List.mem_append] at h;rcases h with h|h|h
       ·exact⟨e,List.mem_cons_self ..,hb,.inl h⟩
       ·exact⟨e,List.mem_cons_self ..,hb,.inr h⟩
       ·obtain⟨e',h1,h2⟩:=ih h;exact⟨e',List.mem_cons_of_mem _ h1,h2⟩
    obtain⟨e,h4,h5,h6⟩:=this _ hj;refine⟨e,h4,h5,h6.imp id fun h6=> ?_⟩
    cases hg:acc[e.on]? with
    |none=>rw[hg] at h6;cases h6
    |some b'=>
     rw[hg] at h6
     have hlt:e.on<acc.length:=by
      rcases Nat.lt_or_ge e.on acc.length with h'|h'
      ·exact h'
      ·rw[List.getElem?_eq_none h'] at hg;cases hg
     refine⟨hlt,b', ?_,h6⟩;rw[keep _ _ _ (by simp;omega),List.getElem?_append_left hlt,hg]
  ·simp only[List.length_append,List.length_singleton] at h1 h2 h3;refine .inr ⟨q, ?_,by omega,h3⟩;rw[show i-acc.length=i-(acc.length+1)+1 by omega];simpa using h1
def kb (n:Nat) (listed:Array Bool):List Nat:=(List.range n).filter fun i=> !listed.getD i false
theorem uA {p q:Nat→Bool} {i:Nat} (hpq:∀j,j≠i→q j=p j) (hi:p i=true) (hqi:q i=false):∀(l:List Nat),i∈l→l.Nodup→∃pre post,l.filter p=pre++i::post∧l.filter q=pre++post∧(∀j∈pre,j∈l∧p j=true∧j≠i)∧(l.Pairwise (· < ·)→∀j∈pre,j<i)
 |[],h,_=>by cases h
 |x::l,h,hn=>by
  rw[List.nodup_cons] at hn;by_cases hx:x=i
  ·subst hx
   have hsame:l.filter q=l.filter p:=by
    apply List.filter_congr;intro j hj;exact hpq j (fun e=>hn.1 (e▸hj))
   exact⟨[],l.filter p,by simp [hi],by simp [hqi,hsame],fun j hj=>by simp at hj,fun _ j hj=>by simp at hj⟩
  ·have mM:i∈l:=by
    rcases List.mem_cons.1 h with h|h
    ·exact(hx h.symm).elim
    ·exact h
   obtain⟨pre,post,h1,h2,h3,h4⟩:=uA hpq hi hqi l mM hn.2;cases hp:p x
   ·refine⟨pre,post,by simp [hp,h1],by simp [hpq x hx,hp,h2],fun j hj=>⟨List.mem_cons_of_mem _ (h3 j hj).1,(h3 j hj).2⟩,fun hs=>h4 (List.pairwise_cons.1 hs).2⟩
   ·refine⟨x::pre,post,by simp [hp,h1],by simp [hpq x hx,hp,h2], ?_, ?_⟩
    ·intro j hj;rcases List.mem_cons.1 hj with rfl|hj
     ·exact⟨List.mem_cons_self ..,hp,hx⟩
     ·exact⟨List.mem_cons_of_mem _ (h3 j hj).1,(h3 j hj).2⟩
    ·intro hs j hj;rw[List.pairwise_cons] at hs;rcases List.mem_cons.1 hj with rfl|hj
     ·exact hs.1 i mM
     ·exact h4 hs.2 j hj
end
section
variable {E:kz} {R:mr} {ann:bQ} {N:Nat}
theorem fP.run_bind {α β:Type} {k:α→fP β} {K:β→Prop}:∀(t:fP α),(t.bind k).run K=t.run fun a=>(k a).run K
 | .leaf _=>rfl
 | .br c x y=>by simp only[fP.bind,fP.run,fP.run_bind x,fP.run_bind y]
 | .ah c x=>by simp only[fP.bind,fP.run,fP.run_bind x]
 | .aR=>rfl
theorem fP.cD {α:Type} {K K':α→Prop} (h:∀a,K a→K' a):∀{t:fP α},t.run K→t.run K'
 | .leaf _,hk=>h _ hk
 | .br _ _ _,hk=>fc (fP.cD h) (fP.cD h) hk
 | .ah _ _,hk=>bV (fP.cD h) hk
 | .aR,hk=>hk
theorem uB {S:St} {M:MS} {d:Nat} {x:T}:MS.st S {M with U:=(d,x)::M.U}=(M.st S).setT d x:=by
 unfold MS.st St.setT;congr 1;funext t;simp only[pf,ab];cases Nat.beq t d<;>rfl
theorem Ri {S:St} {M:MS} {s:Nat} {x:aO}:MS.st S {M with W:=(s,x)::M.W}=(M.st S).setL s x:=by
 unfold MS.st St.setL;congr 1;funext t;simp only[yn,ab];cases Nat.beq t s<;>rfl
theorem kc {dst:Option Tmp} {x:T} {S:St} {M:MS} {K:St→Prop} (h:(C4 ann N dst x M).run fun M'=>K (M'.st S)):jv ann N dst x (M.st S) K:=by
 unfold C4 at h;unfold jv
 cases dst with
 |none=>exact h
 |some d=>
  simp only[fP.run] at h⊢;refine bV ?_ h
  cases x with
  |v y=>intro h;rw[←uB];exact h
  |undef=>intro h;rw[←uB];exact h
  |lp s o=>
   simp only[]
   cases ab ann.aV d with
   |none=>exact id
   |some s'=>
    simp only[]
    cases Nat.beq s s' with
    |true=>intro h;simp only[cond_true];rw[←uB];exact h
    |false=>exact id
theorem DG {α:Type} {d:fS α} {X:Prop} {K:α→Prop} (h:ah (d.rq&&d.c) X) (hx:X→K d.x):d.run K:=by
 obtain⟨h1,h2⟩:=aQ h;rw[Bool.and_eq_true] at h1;unfold fS.run;rw[h1.1,h1.2];exact hx h2
theorem qV {o:Oper} {S:St} {M:MS} {K:St→Prop} (h:(E9 E ann N o S M).run fun M'=>K (M'.st S)):jl E R ann N o (M.st S) K:=by
 unfold E9 at h;unfold jl
 cases hc:HB E ann o with
 |pure=>
  simp only[hc] at h⊢
  cases hp:ba E o.op (cS (pf S M.U)) with
  |none=>simp only[hp] at h;exact h.elim
  |some d=>simp only[MS.st,hp] at h⊢;exact DG h kc
 |oY s=>
  simp only[hc] at h⊢
  cases hp:gQ E o.op (cS (pf S M.U)) s (yn S M.W s) with
  |none=>simp only[hp] at h;exact h.elim
  |some d=>simp only[MS.st,hp] at h⊢;exact DG h kc
 |iN s=>
  simp only[hc] at h⊢
  cases hp:eg E o.op (cS (pf S M.U)) s (yn S M.W s) with
  |none=>simp only[hp] at h;exact h.elim
  |some d=>
   simp only[hp] at h;simp only[MS.st,hp];refine DG h ?_;intro h;have:=kc h;rw[Ri] at this;exact this
 |kK=>
  simp only[hc] at h⊢
  cases hp:dE E o.op (cS (pf S M.U)) S.hp with
  |none=>simp only[hp] at h;exact h.elim
  |some d=>simp only[MS.st,hp] at h⊢;exact DG h kc
 |tW=>simp only[hc] at h;exact h.elim
 |tX=>simp only[hc] at h;exact h.elim
 |dv=>simp only[hc] at h;exact h.elim
theorem Ln {aF:List Oper} {o:Oper} {S:St} {M:MS} {K:St→Prop} (h:(Nm E ann N aF o S M).run fun M'=>K (M'.st S)):tY E R ann N aF o (M.st S) K:=by
 unfold Nm at h;unfold tY
 cases hg:o.guard with
 |none=>simp only[hg] at h⊢;exact qV h
 |some p=>
  obtain⟨j,want⟩:=p;simp only[hg] at h⊢
  cases hl:C3 aF j with
  |none=>simp only[hl] at h;exact h.elim
  |some s=>
   simp only[hl] at h⊢;have htm:(M.st S).tm s=pf S M.U s:=rfl;rw[htm]
   cases hs:pf S M.U s with
   |none=>simp only[hs] at h;exact h.elim
   |some t=>
    cases t with
    |undef=>simp only[hs] at h⊢;exact kc h
    |lp a b=>simp only[hs] at h;exact h.elim
    |v x=>
     cases x with
     |bool b=>
      simp only[hs] at h⊢
      have AD:(M.st S).setT s (.v (.bool b))=M.st S:=by
       unfold St.setT MS.st;congr 1;funext t
       cases ht:Nat.beq t s with
       |false=>rfl
       |true=>simp only[cond_true];rw[Nat.eq_of_beq_eq_true ht,hs]
      cases hk:bC s M.kn with
      |true=>
       simp only[hk] at h;cases want<;>cases b
       ·have:=qV (R:=R) h;rw[←AD] at this;exact this
       ·have:=kc h;rw[←AD] at this;exact this
       ·have:=kc h;rw[←AD] at this;exact this
       ·have:=qV (R:=R) h;rw[←AD] at this;exact this
      |false=>
       simp only[hk] at h;refine fc ?_ ?_ h
       ·intro h;have:=qV (R:=R) h;have e:MS.st S {M with U:=(s,.v (.bool want))::M.U,kn:=s::M.kn}=(M.st S).setT s (.v (.bool want)):=uB;rw[e] at this;exact this
       ·intro h;have:=kc h;have e:MS.st S {M with U:=(s,.v (.bool (!want)))::M.U,kn:=s::M.kn}=(M.st S).setT s (.v (.bool (!want))):=uB;rw[e] at this;exact this
     |_=>simp only[hs] at h;exact h.elim
theorem HS (hm:R.le R) {aF:List Oper} {o:Oper} {S:St} {K K':St→Prop} (h:∀S,K S→K' S) (hx:tY E R ann N aF o S K):tY E R ann N aF o S K':=by
 rw[hO] at hx⊢;exact eI hm h hx
theorem yZ (hm:R.le R) {aF:List Oper} {K:St→Prop} {S:St}:∀(l:List Oper) {M:MS},(C5 E ann N aF l S M).run (fun M'=>K (M'.st S))→sC E R ann N aF l (M.st S) K
 |[],M,h=>h
 |o::l,M,h=>by
  unfold C5 at h;rw[fP.run_bind] at h;refine Ln (K:=fun S'=>sC E R ann N aF l S' K) (fP.cD ?_ h);intro M' h';exact yZ hm l h'
theorem lI {α:Type} {t:Nat} {m:α} {r:List (Nat×α)}:ab ((t,m)::r) t=some m:=by simp [ab,Nat.beq_refl]
theorem dN {α:Type} {t u:Nat} {m:α} {r:List (Nat×α)} (h:t≠u):ab ((u,m)::r) t=ab r t:=by
 have:Nat.beq t u=false:=by
  cases hb:Nat.beq t u with
  |false=>rfl
  |true=>exact absurd (Nat.eq_of_beq_eq_true hb) h
 simp [ab,this]
def gF {α:Type} (g:Nat→Option α) (A:List (Nat×α)) (t:Nat):Option α:=match ab A t with|some x=>some x|none=>g t
theorem BM {S:St} {U:List (Nat×T)} {t:Nat}:pf S U t=gF S.tm U t:=by unfold pf gF;cases ab U t<;>rfl
theorem BN {S:St} {W:List (Nat×aO)} {t:Nat}:yn S W t=gF S.lo W t:=by unfold yn gF;cases ab W t<;>rfl
theorem xb {α:Type} {g:Nat→Option α} {f:α→α→Option α} {A B:List (Nat×α)}:∀{l:List Nat} {r:List (Nat×α)},oe g f A B l=some r→∀t,ab A t=none→ab B t=none→ab r t=none
 |[],r,h,t,_,_=>by cases h;rfl
 |u::l,r,h,t,ha,hb=>by
  simp only[oe] at h;split at h
  ·cases h
  ·rename_i r' hr';have ih:=xb hr' t ha hb;by_cases htu:t=u
   ·subst htu;rw[ha,hb] at h;cases h;exact ih
   ·split at h
    ·cases h;exact ih
    ·split at h
     ·cases h;rw[dN htu];exact ih
     ·cases h
    ·split at h
     ·split at h
      ·cases h;rw[dN htu];exact ih
      ·cases h
     ·cases h
    ·split at h
     ·split at h
      ·cases h;rw[dN htu];exact ih
      ·cases h
     ·cases h
theorem pU {α:Type} {g:Nat→Option α} {f:α→α→Option α} {c:Bool} (hf:∀a b m,f a b=some m→m=if c then a else b) {A B:List (Nat×α)}:∀{l:List Nat} {r:List (Nat×α)},oe g f A B l=some r→∀t∈l,gF g r t=if c then gF g A t else gF g B t
 |[],_,_,t,ht=>by cases ht
 |u::l,r,h,t,ht=>by
  simp only[oe] at h;split at h
  ·cases h
  ·rename_i r' hr';have ih:t∈l→gF g r' t=if c then gF g A t else gF g B t:=pU hf hr' t
   by_cases htu:t=u
   ·subst htu;split at h
    ·rename_i ha hb;cases h;have hk:=xb hr' t ha hb;simp only[gF,ha,hb,hk];cases c<;>rfl
    ·rename_i a b ha hb;split at h
     ·rename_i m hm;cases h;simp only[gF,lI,ha,hb,hf _ _ _ hm];cases c<;>rfl
     ·cases h
    ·rename_i a ha hb;split at h
     ·rename_i b hg;split at h
      ·rename_i m hm;cases h;simp only[gF,lI,ha,hb,hg,hf _ _ _ hm];cases c<;>rfl
      ·cases h
     ·cases h
    ·rename_i b ha hb;split at h
     ·rename_i a hg;split at h
      ·rename_i m hm;cases h;simp only[gF,lI,ha,hb,hg,hf _ _ _ hm];cases c<;>rfl
      ·cases h
     ·cases h
   ·have htl:t∈l:=by simpa [htu] using ht
    have ih:=ih htl;split at h
    ·cases h;exact ih
    ·split at h
     ·cases h;rw[←ih];simp only[gF,dN htu]
     ·cases h
    ·split at h
     ·split at h
      ·cases h;rw[←ih];simp only[gF,dN htu]
      ·cases h
     ·cases h
    ·split at h
     ·split at h
      ·cases h;rw[←ih];simp only[gF,dN htu]
      ·cases h
     ·cases h
theorem HT {c:Bool} {a b m:T} (h:C6 c a b=some m):m=if c then a else b:=by
 unfold C6 at h;split at h
 ·cases h;rw[K7];cases c<;>rfl
 ·rename_i s o s' o'
  cases hb:(Nat.beq s s'&&Nat.beq o o') with
  |false=>rw[hb] at h;cases h
  |true=>
   rw[hb] at h;rw[Bool.and_eq_true] at hb;cases h;rw[Nat.eq_of_beq_eq_true hb.1,Nat.eq_of_beq_eq_true hb.2];cases c<;>rfl
 ·cases h;cases c<;>rfl
 ·cases h
theorem HU {c:Bool} {a b m:aO} (h:C7 c a b=some m):m=if c then a else b:=by
 unfold C7 at h;split at h
 ·rename_i e cs e' cs'
  cases hb:Nat.beq e e' with
  |false=>rw[hb] at h;cases h
  |true=>
   rw[hb,cond_true] at h;split at h
   ·rename_i r hr;cases h;rw[ss hr,Nat.eq_of_beq_eq_true hb];cases c<;>rfl
   ·cases h
 ·cases h
theorem iU {n:Nat}:∀{l:List Nat},bC n l=true↔n∈l
 |[]=>by simp [bC]
 |x::l=>by
  simp only[bC,Bool.or_eq_true,List.mem_cons,iU (l:=l)];constructor
  ·rintro(h|h)
   ·exact .inl (Nat.eq_of_beq_eq_true h)
   ·exact .inr h
  ·rintro(h|h)
   ·exact .inl (by rw[h];exact Nat.beq_refl _)
   ·exact .inr h
theorem oE {n:Nat} {l:List Nat} (h:bC n l=false):n∉l:=fun hm=>by rw[iU.2 hm] at h;cases h
def T4 {α:Type} (a b:List Nat) (l:List (Nat×α)):Prop:=∀t,bC t a=false→bC t b=false→ab l t=none
theorem pV {α:Type} {a b:List Nat}:∀{l:List (Nat×α)},og a b l=true→T4 a b l
 |[],_,_,_,_=>rfl
 |(u,x)::l,h,t,ha,hb=>by
  simp only[og,Bool.and_eq_true,Bool.or_eq_true] at h
  have hne:t≠u:=by
   rintro rfl;rcases h.1 with h|h
   ·rw[ha] at h;cases h
   ·rw[hb] at h;cases h
  rw[dN hne];exact pV h.2 t ha hb
theorem lJ {α:Type} {g:Nat→Option α} {f:α→α→Option α} {A B:List (Nat×α)}:∀{l:List Nat} {r:List (Nat×α)},oe g f A B l=some r→∀t,bC t l=false→ab r t=none
 |[],r,h,t,_=>by cases h;rfl
 |u::l,r,h,t,ht=>by
  have htu:t≠u:=fun e=>oE ht (by rw[e];exact List.mem_cons_self ..)
  have htl:bC t l=false:=by
   cases hm:bC t l with
   |false=>rfl
   |true=>exact absurd (List.mem_cons_of_mem _ (iU.1 hm)) (oE ht)
  simp only[oe] at h;split at h
  ·cases h
  ·rename_i r' hr';have ih:=lJ hr' t htl;split at h
   ·cases h;exact ih
   ·split at h
    ·cases h;rw[dN htu];exact ih
    ·cases h
   ·split at h
    ·split at h
     ·cases h;rw[dN htu];exact ih
     ·cases h
    ·cases h
   ·split at h
    ·split at h
     ·cases h;rw[dN htu];exact ih
     ·cases h
    ·cases h
theorem oF {S:St} {ts ls dT dL:List Nat}:∀{tr:fP MS} {r:Bool} {U:List (Nat×T)} {W:List (Nat×aO)},oZ S ts ls dT dL tr=some (r,U,W)→T4 ts dT U∧T4 ls dL W
 | .leaf M,r,U,W,h=>by
   simp only[oZ] at h
   cases hk:og ts dT M.U&&og ls dL M.W with
   |false=>rw[hk] at h;cases h
   |true=>
    rw[hk] at h;cases h;rw[Bool.and_eq_true] at hk;exact⟨pV hk.1,pV hk.2⟩
 | .aR,_,_,_,h=>by cases h
 | .ah c x,r,U,W,h=>by
   simp only[oZ] at h;split at h
   ·rename_i r' U' W' h';cases h;exact oF h'
   ·cases h
 | .br c x y,r,U,W,h=>by
   simp only[oZ] at h;split at h
   ·split at h
    ·rename_i U' W' hU hW;cases h;exact⟨fun t ht _=>lJ hU t ht,fun t ht _=>lJ hW t ht⟩
    ·cases h
   ·cases h
def Xu (S:St) (dT dL:List Nat) (U:List (Nat×T)) (W:List (Nat×aO)) (M:MS):Prop:=
 (∀t,bC t dT=false→gF S.tm U t=gF S.tm M.U t)∧∀s,bC s dL=false→gF S.lo W s=gF S.lo M.W s
theorem Lo (c r1 r2:Bool):aK c r1 r2=if c then r1 else r2:=by cases c<;>cases r1<;>cases r2<;>rfl
theorem fu {α:Type} {g:Nat→Option α} {A:List (Nat×α)} {t:Nat} (h:ab A t=none):gF g A t=g t:=by simp [gF,h]
theorem qW {S:St} {ts ls dT dL:List Nat}:∀{tr:fP MS} {r:Bool} {U:List (Nat×T)} {W:List (Nat×aO)},oZ S ts ls dT dL tr=some (r,U,W)→r=true→tr.run (Xu S dT dL U W)
 | .leaf M,r,U,W,h,_=>by
   simp only[oZ] at h
   cases hk:og ts dT M.U&&og ls dL M.W with
   |false=>rw[hk] at h;cases h
   |true=>rw[hk] at h;cases h;exact⟨fun _ _=>rfl,fun _ _=>rfl⟩
 | .aR,_,_,_,h,_=>by cases h
 | .ah c x,r,U,W,h,hr=>by
   simp only[oZ] at h;split at h
   ·rename_i r' U' W' h';cases h;rw[Bool.and_eq_true] at hr;simp only[fP.run,hr.1];exact qW h' hr.2
   ·cases h
 | .br c x y,r,U,W,h,hr=>by
   simp only[oZ] at h;split at h
   ·rename_i r1 U1 W1 r2 U2 W2 h1 h2;split at h
    ·rename_i U' W' hU hW;cases h;rw[Lo] at hr;have hu:=pU (c:=c) (fun _ _ _=>HT) hU;have hw:=pU (c:=c) (fun _ _ _=>HU) hW;have k1:=oF h1;have k2:=oF h2;have du:=lJ hU;have dw:=lJ hW
     cases c with
     |true=>
      refine fP.cD ?_ (qW (tr:=x) h1 (by simpa using hr));rintro M ⟨ha,hb⟩;refine⟨fun t ht=> ?_,fun s hs=> ?_⟩
      ·rw[←ha t ht]
       cases hm:bC t ts with
       |true=>simpa using hu t (iU.1 hm)
       |false=>rw[fu (du t hm),fu (k1.1 t hm ht)]
      ·rw[←hb s hs]
       cases hm:bC s ls with
       |true=>simpa using hw s (iU.1 hm)
       |false=>rw[fu (dw s hm),fu (k1.2 s hm hs)]
     |false=>
      refine fP.cD ?_ (qW (tr:=y) h2 (by simpa using hr));rintro M ⟨ha,hb⟩;refine⟨fun t ht=> ?_,fun s hs=> ?_⟩
      ·rw[←ha t ht]
       cases hm:bC t ts with
       |true=>simpa using hu t (iU.1 hm)
       |false=>rw[fu (du t hm),fu (k2.1 t hm ht)]
      ·rw[←hb s hs]
       cases hm:bC s ls with
       |true=>simpa using hw s (iU.1 hm)
       |false=>rw[fu (dw s hm),fu (k2.2 s hm hs)]
    ·cases h
   ·cases h
theorem HV {dT dL:List Nat} {S S':St} (h1:∀t,bC t dT=false→S.tm t=S'.tm t) (h2:∀t,bC t dL=false→S.lo t=S'.lo t) (h3:S.hp=S'.hp):rL dT dL S=rL dT dL S':=by
 unfold rL;rw[h3];congr 1
 ·funext t
  cases hm:bC t dT with
  |true=>rfl
  |false=>exact h1 t hm
 ·funext t
  cases hm:bC t dL with
  |true=>rfl
  |false=>exact h2 t hm
theorem HW {S:St} {ts ls dT dL:List Nat} {tr:fP MS} {K:St→Prop} (h:pF ts ls dT dL tr S K):tr.run fun M=>K (rL dT dL (M.st S)):=by
 unfold pF at h;split at h
 ·rename_i r U W hm;obtain⟨hr,hn⟩:=aQ h;refine fP.cD ?_ (qW hm hr);rintro M ⟨ha,hb⟩
  have:rL dT dL ⟨pf S U,yn S W,S.hp⟩=rL dT dL (M.st S):=by
   refine HV (fun t ht=> ?_) (fun t ht=> ?_) rfl
   ·simp only[MS.st,BM];exact ha t ht
   ·simp only[MS.st,BN];exact hb t ht
  rw[←this];exact hn
 ·exact h.elim
theorem y8 (hm:R.le R) {aF:List Oper} {ts ls dT dL:List Nat} {K:St→Prop}:∀(l:List Oper) {S:St},kE E R ann N ts ls dT dL aF l S K→sC E R ann N aF l S fun S'=>K (rL dT dL S')
 |[],S,h=>h
 |o::l,S,h=>by
  unfold kE at h;split at h
  ·exact HS hm (fun S'=>y8 hm l) h
  ·exact yZ (K:=fun S'=>K (rL dT dL S')) hm (o::l) (M:=⟨[],[],[]⟩) (HW h)
end
section
variable {E:kz} {R:mr} {ann:bQ} {N:Nat} {f:FuncId}
def gG (wT wL:List Nat) (S S':St):Prop:=
 (∀t,bC t wT=false→S'.tm t=S.tm t)∧∀s,bC s wL=false→S'.lo s=S.lo s
theorem gG.refl (wT wL:List Nat) (S:St):gG wT wL S S:=⟨fun _ _=>rfl,fun _ _=>rfl⟩
theorem gG.trans {wT wL:List Nat} {S S' He:St} (h:gG wT wL S S') (k:gG wT wL S' He):gG wT wL S He:=
 ⟨fun t ht=>(k.1 t ht).trans (h.1 t ht),fun t ht=>(k.2 t ht).trans (h.2 t ht)⟩
theorem za:∀{l m:List Nat} {x:Nat},jx l m=true→x∈l→x∈m
 |y::l,m,x,h,hx=>by
  simp only[jx,Bool.and_eq_true] at h;rcases List.mem_cons.1 hx with rfl|hx
  ·exact iU.1 h.1
  ·exact za h.2 hx
theorem fw {l m:List Nat} {x:Nat} (h:jx l m=true) (hx:bC x m=false):bC x l=false:=by
 cases hm:bC x l with
 |false=>rfl
 |true=>exact absurd (za h (iU.1 hm)) (oE hx)
variable {wT wL:List Nat}
theorem sS {S:St} {d:Nat} {x:T} (h:bC d wT=true):gG wT wL S (S.setT d x):=by
 refine⟨fun t ht=> ?_,fun _ _=>rfl⟩
 have:Nat.beq t d=false:=by
  cases hb:Nat.beq t d with
  |false=>rfl
  |true=>rw[Nat.eq_of_beq_eq_true hb,h] at ht;cases ht
 simp [St.setT,this]
theorem zb {S:St} {d:Nat} {x:aO} (h:bC d wL=true):gG wT wL S (S.setL d x):=by
 refine⟨fun _ _=>rfl,fun t ht=> ?_⟩
 have:Nat.beq t d=false:=by
  cases hb:Nat.beq t d with
  |false=>rfl
  |true=>rw[Nat.eq_of_beq_eq_true hb,h] at ht;cases ht
 simp [St.setL,this]
theorem gH {dst:Option Tmp} {x:T} {S:St} {K:St→Prop} (hd:jx dst.toList wT=true) (h:jv ann N dst x S K):jv ann N dst x S fun S'=>K S'∧gG wT wL S S':=by
 cases dst with
 |none=>exact⟨h,.refl ..⟩
 |some d=>
  have hd':bC d wT=true:=by simpa [jx] using hd
  refine bV ?_ h
  cases x with
  |v y=>exact fun h=>⟨h,sS hd'⟩
  |undef=>exact fun h=>⟨h,sS hd'⟩
  |lp s off=>
   simp only[]
   cases ab ann.aV d with
   |none=>exact id
   |some s'=>cases hs:Nat.beq s s'<;>simp [hs];exact fun h=>⟨h,sS hd'⟩
theorem xc {d s:Nat}:∀{l:List (Nat×Nat)} {t:Nat},ab l t=some s→s=d→t∈kP d l
 |(u,v)::l,t,h,hs=>by
  simp only[ab] at h;simp only[kP]
  cases hb:Nat.beq t u with
  |true=>
   rw[hb] at h;cases h;rw[hs,Nat.beq_refl,cond_true,Nat.eq_of_beq_eq_true hb];exact List.mem_cons_self ..
  |false=>
   rw[hb] at h;have:=xc h hs
   cases Nat.beq v d with
   |true=>exact List.mem_cons_of_mem _ this
   |false=>exact this
theorem HX {S:St} {d:Nat} (h:jx (kP d ann.aV) wT=true):gG wT wL S (sB ann d S):=by
 refine⟨fun t ht=> ?_,fun _ _=>rfl⟩;simp only[sB];split
 ·rename_i s hs
  cases hb:Nat.beq s d with
  |false=>rfl
  |true=>exact absurd (za h (xc hs (Nat.eq_of_beq_eq_true hb))) (oE ht)
 ·rfl
theorem xd (hm:R.le R) {o:Oper} {S:St} {K:St→Prop} (hw:K9 E ann wT wL o=true) (h:jl E R ann N o S K):jl E R ann N o S fun S'=>K S'∧gG wT wL S S':=by
 simp only[K9,Bool.and_eq_true] at hw;obtain⟨⟨hd,hk⟩,hl⟩:=hw;unfold jl at h⊢
 cases hc:HB E ann o with
 |pure=>
  simp only[hc] at h⊢;split at h
  ·exact fS.cD (fun x=>gH hd) h
  ·exact h
 |oY s=>
  simp only[hc] at h⊢;split at h
  ·exact fS.cD (fun x=>gH hd) h
  ·exact h
 |iN s=>
  simp only[hc] at h hl⊢;split at h
  ·refine fS.cD (fun x hx=> ?_) h;refine eU ?_ (gH (wT:=wT) (wL:=wL) hd hx);rintro S' ⟨h1,h2⟩;exact⟨h1,(zb hl).trans h2⟩
  ·exact h
 |tW=>
  simp only[hc] at h hl⊢;split at h
  ·rename_i d r L xL _;refine bV (fun hx=> ?_) h;have hd':bC d wL=true:=by simpa [jx,xL] using hl
   have hk':jx (kP d ann.aV) wT=true:=by simpa [C8,xL] using hk
   refine eU ?_ (gH (wT:=wT) (wL:=wL) (by simpa [xL] using hd) hx);rintro S' ⟨h1,h2⟩;exact⟨h1,((HX hk').trans (zb hd')).trans h2⟩
  ·exact h
 |kK=>
  simp only[hc] at h⊢;split at h
  ·exact fS.cD (fun x=>gH hd) h
  ·exact h
 |tX=>simp only[hc] at hl;cases hl
 |dv=>
  simp only[hc] at h⊢;refine jP hm (fun x H' hx=> ?_) h;refine eU ?_ (gH (wT:=wT) (wL:=wL) hd hx);rintro S' ⟨h1,h2⟩;exact⟨h1,h2⟩
theorem pW (hm:R.le R) {aF:List Oper} {o:Oper} {S:St} {K:St→Prop} (hw:K9 E ann wT wL o=true) (h:eQ E R ann N aF o S K):eQ E R ann N aF o S fun S'=>K S'∧gG wT wL S S':=by
 have hd:jx o.dst.toList wT=true:=by
  simp only[K9,Bool.and_eq_true] at hw;exact hw.1.1
 unfold eQ at h⊢;split at h
 ·exact xd hm hw h
 ·split at h
  ·exact fc (xd hm hw) (gH hd) h
  ·exact gH hd h
  ·exact h
theorem uC (hm:R.le R) {aF:List Oper}:∀(l:List Oper) {S:St} {K:St→Prop},jy E ann wT wL l=true→lA E R ann N aF l S K→lA E R ann N aF l S fun S'=>K S'∧gG wT wL S S'
 |[],S,K,_,h=>⟨h,.refl ..⟩
 |o::l,S,K,hw,h=>by
  simp only[jy,Bool.and_eq_true] at hw;refine eI hm ?_ (pW hm hw.1 h);rintro S' ⟨h1,h2⟩;refine pH hm l ?_ (uC hm l hw.2 h1);rintro He ⟨h3,h4⟩;exact⟨h3,h2.trans h4⟩
theorem HY {l:List Oper}:jy E ann wT wL l=true→∀o∈l,K9 E ann wT wL o=true:=by
 induction l with
 |nil=>intro _ p hp;cases hp
 |cons o l ih=>
  intro h p hp;rw[jy,Bool.and_eq_true] at h;rcases List.mem_cons.1 hp with rfl|hp
  ·exact h.1
  ·exact ih h.2 p hp
theorem uD (hm:R.le R) {aF:List Oper} {i:Nat} {S:St} {K K':St→Prop} (h:∀S,K S→K' S) (hx:fT E R ann N aF i S K):fT E R ann N aF i S K':=by
 unfold fT at hx⊢;split at hx
 ·rw[hO] at hx⊢;exact eI hm h hx
 ·exact hx
theorem DH (hm:R.le R) {aF:List Oper} (hw:jy E ann wT wL aF=true) {i:Nat} {S:St} {K:St→Prop} (h:fT E R ann N aF i S K):fT E R ann N aF i S fun S'=>K S'∧gG wT wL S S':=by
 unfold fT at h⊢;split at h
 ·rename_i o ho;rw[hO] at h⊢;exact pW hm (HY hw o (List.mem_of_getElem? ho)) h
 ·exact h
theorem kR (hm:R.le R) {aF:List Oper} (hw:jy E ann wT wL aF=true):∀(t:rS) {S:St} {K:St→Prop},il (fT E R ann N aF) t S K→il (fT E R ann N aF) t S fun S'=>K S'∧gG wT wL S S'
 | .nil,S,K,h=>⟨h,.refl ..⟩
 | .aR,S,K,h=>h
 | .one i r,S,K,h=>by
   have h:fT E R ann N aF i S (fun S'=>il (fT E R ann N aF) r S' K):=h;show fT E R ann N aF i S (fun S'=>il (fT E R ann N aF) r S' _)
   refine uD hm ?_ (DH hm hw h);rintro S' ⟨h1,h2⟩;refine jW (st:=fT E R ann N aF) (st':=fT E R ann N aF) (fun i S K K' h hx=>uD hm h hx) r ?_ (kR hm hw r h1);rintro He ⟨h3,h4⟩;exact⟨h3,h2.trans h4⟩
 | .Nn a b,S,K,h=>⟨kR hm hw a h.1,kR hm hw b h.2⟩
theorem mX (hm:R.le R) {aF:List Oper} {draw:Bool} {S:St} {K:St→Prop} (hw:jy E ann wT wL aF=true) (h:gR E R ann N aF draw S K):gR E R ann N aF draw S fun S'=>K S'∧gG wT wL S S':=by
 unfold gR at h⊢;revert h;split
 ·simp only[k5];exact uC hm _ hw
 ·exact bV (kR hm hw _)
theorem BP {S:St} {dT dL:List Nat} (h1:jx dT wT=true) (h2:jx dL wL=true):gG wT wL S (rL dT dL S):=
 ⟨fun t ht=>by simp [rL,fw h1 ht],fun t ht=>by simp [rL,fw h2 ht]⟩
theorem uE (hm:R.le R) {aF:List Oper} {ts ls dT dL:List Nat} (h1:jx ts wT=true) (h2:jx ls wL=true) (h3:jx dT wT=true) (h4:jx dL wL=true) {K:St→Prop}:∀(l:List Oper) {S:St},jy E ann wT wL l=true→kE E R ann N ts ls dT dL aF l S K→kE E R ann N ts ls dT dL aF l S fun S'=>K S'∧gG wT wL S S'
 |[],S,_,h=>⟨h,BP h3 h4⟩
 |o::l,S,hw,h=>by
  simp only[jy,Bool.and_eq_true] at hw;unfold kE at h⊢;split at h
  ·rw[hO] at h⊢;refine eI hm ?_ (pW hm hw.1 h);rintro S' ⟨h5,h6⟩;refine pI hm ?_ l (uE hm h1 h2 h3 h4 l hw.2 h5);rintro He ⟨h7,h8⟩;exact⟨h7,h6.trans h8⟩
  ·unfold pF at h⊢;split at h
   ·rename_i r U W Qy;refine bV (fun hk=>⟨hk, ?_⟩) h;obtain⟨k1,k2⟩:=oF Qy;refine gG.trans ?_ (BP h3 h4);refine⟨fun t ht=> ?_,fun t ht=> ?_⟩
    ·change pf S U t=S.tm t
     rw[BM,fu (k1 t (fw h1 ht) (fw h3 ht))]
    ·change yn S W t=S.lo t
     rw[BN,fu (k2 t (fw h2 ht) (fw h4 ht))]
   ·exact h
theorem zd {S:St}:∀{l:List (Nat×KT)} {t:Nat},bC t (pG l)=false→ab (lC S l).2 t=none
 |[],_,_=>rfl
 |(u,k)::l,t,h=>by
  simp only[pG,bC,Bool.or_eq_false_iff] at h;simp only[lC,ab,h.1,cond_false];exact zd h.2
theorem ze {S:St}:∀{l:List (Nat×TypeId×List cg)} {t:Nat},bC t (pG l)=false→ab (lD S l).2 t=none
 |[],_,_=>rfl
 |(u,e,ks)::l,t,h=>by
  simp only[pG,bC,Bool.or_eq_false_iff] at h;simp only[lD,ab,h.1,cond_false];exact ze h.2
theorem pX {ok:ju→Bool} {kp:Option ju} {S:St} {A:(Ex→St→Prop)→Prop} {K:Ex→St→Prop} (hj:No wT wL kp=true) (hA:∀K:Ex→St→Prop,A K→A fun e S'=>K e S'∧gG wT wL S S') (hm:∀K K':Ex→St→Prop,(∀e S,K e S→K' e S)→A K→A K') (h:mu ok kp S A K):mu ok kp S A fun e S'=>K e S'∧gG wT wL S S':=by
 unfold mu at h⊢
 cases kp with
 |none=>exact hA _ h
 |some kp=>
  simp only[No,T1,Bool.and_eq_true] at hj;obtain⟨SI,⟨⟨h1,h2⟩,h3⟩,h4⟩:=hj;simp only[SI] at h⊢;refine bV (fun h=> ?_) h;unfold Fa cx at h⊢;refine hm _ _ ?_ (hA _ h);rintro e S' ⟨hk,ha⟩
  cases e with
  |exit id=>exact⟨hk,ha⟩
  |ret=>exact⟨hk,ha⟩
  |normal=>
   refine im (fun S1 hk=>bV (fun hk=>⟨hk, ?_⟩) hk) hk;refine⟨fun t ht=> ?_,fun t ht=> ?_⟩
   ·simp only[over,zd (fw h3 ht),fw h1 ht,cond_false]
   ·simp only[over,ze (fw h4 ht),fw h2 ht,cond_false]
theorem sT (hm:R.le R):∀(c:Code) (n:Nat) (S:St) (K:Ex→St→Prop),Da E ann wT wL c n=true→gp E R f ann N c n S K→gp E R f ann N c n S fun e S'=>K e S'∧gG wT wL S S':=by
 intro c
 induction c with
 |skip=>intro n S K _ hx;exact⟨hx,.refl ..⟩
 |exit id=>intro n S K _ hx;exact⟨hx,.refl ..⟩
 |ret=>intro n S K _ hx;exact⟨hx,.refl ..⟩
 |seq a b iha ihb=>
  intro n S K hw hx;simp only[Da,Bool.and_eq_true] at hw;refine gS hm a _ _ _ _ ?_ (iha n S _ hw.1 hx);rintro e S' ⟨hk,ha⟩
  cases e with
  |exit id=>exact⟨hk,ha⟩
  |ret=>exact⟨hk,ha⟩
  |normal=>
   refine gS hm b _ _ _ _ ?_ (ihb _ S' _ hw.2 hk);rintro e He ⟨hk,hb⟩;exact⟨hk,ha.trans hb⟩
 |cond c x y ihx ihy=>
  intro n S K hw hx;simp only[Da,Bool.and_eq_true] at hw;simp only[gp] at hx⊢;split at hx
  ·refine pX hw.1 ?_ ?_ hx
   ·intro K h;exact fc (ihx _ _ _ hw.2.1) (ihy _ _ _ hw.2.2) h
   ·intro K K' h;exact fc (gS hm x _ _ _ _ h) (gS hm y _ _ _ _ h)
  ·exact hx
 |block id b ih=>
  intro n S K hw hx;simp only[Da,Bool.and_eq_true] at hw;simp only[gp] at hx⊢;refine pX hw.1 ?_ ?_ hx
  ·intro K h;refine gS hm b _ _ _ _ ?_ (ih _ _ _ hw.2 h);rintro e S' ⟨hk,ha⟩
   cases e with
   |normal=>exact⟨hk,ha⟩
   |ret=>exact⟨hk,ha⟩
   |exit j=>exact fc (fun h=>⟨h,ha⟩) (fun h=>⟨h,ha⟩) hk
  ·intro K K' h;refine gS hm b _ _ _ _ ?_;intro e S'
   cases e with
   |normal=>exact h _ _
   |ret=>exact h _ _
   |exit j=>exact fc (h _ _) (h _ _)
 |region id aF draw=>
  intro n S K hw hx;simp only[Da,Bool.and_eq_true] at hw;simp only[gp] at hx⊢;revert hx
  cases hkp:sD ann n with
  |none=>exact mX hm hw.1
  |some kp=>
   simp only[hkp] at hw⊢
   cases Qy:kp.mg with
   |true=>
    simp only[Qy,Bool.and_eq_true] at hw⊢;exact bV (uE hm hw.2.1.1.1 hw.2.1.1.2 hw.2.1.2 hw.2.2 _ hw.1)
   |false=>
    simp only[Qy] at hw⊢;refine pX (by simp only[No];exact hw.2) ?_ ?_
    ·intro K h;exact mX hm hw.1 h
    ·intro K K' h;exact om hm (h _)
 |loop c ih=>intro n S K hw;simp [Da] at hw
 |rangeFunc=>intro n S K hw;simp [Da] at hw
 |scope b ih=>intro n S K hw h;simp only[Da] at hw;simp only[gp] at h⊢;exact ih _ _ _ hw h
 |label=>intro n S K hw h;simp only[gp] at h⊢;exact⟨h,.refl ..⟩
 |goto=>intro n S K hw;simp [Da] at hw
 |refuse=>intro n S K hw;simp [Da] at hw
end
section
variable {E:kz} {H0:ag} {ρ0:dD} {w0:World} {ann:bQ} {N:Nat} {ρ lam:dD} {S:St} {a:Act} {w:World} {R:mr}
def zf (aF:Array Oper) (listed:Array Bool):Prop:=
 ∀i o,aF[i]? =some o→listed.getD i false=true→∀e∈o.after.toList,Region.binds .any e=true→listed.getD e.on false=true
theorem pY {aF:Array Oper} {listed:Array Bool} (wN:zf aF listed) (TM:oi aF.toList 0=true):∀(i:Nat) (o:Oper) (b:List Nat),aF[i]? =some o→(iQ aF.toList [])[i]? =some b→(∀e∈o.after.toList,Region.binds .any e=true→listed.getD e.on false=true)→∀j∈b,listed.getD j false=true:=by
 intro i
 induction i using Nat.strongRecOn with
 |_ i ih=>
  intro o b ho hb hl j hj;rcases uz aF.toList [] i b hb with⟨h,_⟩|⟨q,h1,_,h3⟩
  ·simp at h
  ·have hq:q=o:=by simp only[List.length_nil,Nat.sub_zero] at h1;rw[Array.getElem?_toList,ho] at h1;exact(Option.some.inj h1).symm
   subst hq;obtain⟨e,he,Qz,hj⟩:=h3 j hj;rcases hj with rfl|⟨hlt,b',hb',hj⟩
   ·exact hl e he Qz
   ·have Nc:=hl e he Qz
    have hin:e.on<aF.size:=by
     rcases Nat.lt_or_ge e.on aF.size with h|h
     ·exact h
     ·have:=(Array.getElem?_eq_some_iff.1 ho).1;omega
    exact ih e.on hlt aF[e.on] b' (Array.getElem?_eq_getElem hin) hb' (wN e.on _ (Array.getElem?_eq_getElem hin) Nc) j hj
theorem qX {listed:Array Bool} {i:Nat} (h:i<listed.size):listed.getD i true=listed.getD i false:=by simp [Array.getD,h]
theorem HZ (hR:nC E R) {aF:Array Oper} {Q:Exit→Act→World→Prop} {K:St→Prop} (hok:yp E ann aF.toList=true) (hq:∀S' ρ' dJ a' w',SR H0 ρ0 w0 ann N ρ' dJ S' a' w'→K S'→Q .normal a' w'):∀(fuel:Nat) (listed:Array Bool) {S:St} {ρ lam:dD} {a:Act} {w:World},listed.size=aF.size→zf aF listed→(kb aF.size listed).length≤fuel→g8 E R ann N aF (kb aF.size listed) S K→SR H0 ρ0 w0 ann N ρ lam S a w→wpAny E.P .any aF Q fuel listed a w:=by
 rw[yp,Bool.and_eq_true] at hok;obtain⟨TM,SJ⟩:=hok
 have hin:∀{listed:Array Bool} {i:Nat},listed.size=aF.size→i∈Region.ready .any aF listed→i<aF.size∧listed.getD i false=false:=by
  intro listed i hs hi;obtain⟨h0,o,ho,_⟩:=mem_ready.1 hi;have hlt:=(Array.getElem?_eq_some_iff.1 ho).1;exact⟨hlt,by rw[←qX (by omega)];exact h0⟩
 have hmem:∀{listed:Array Bool} {i:Nat},i<aF.size→listed.getD i false=false→i∈kb aF.size listed:=by
  intro listed i h1 h2;unfold kb;rw[List.mem_filter,List.mem_range];exact⟨h1,by rw[h2];rfl⟩
 intro fuel
 induction fuel with
 |zero=>
  intro listed S ρ lam a w hs wN hlen hk h;have ES:kb aF.size listed=[]:=List.eq_nil_of_length_eq_zero (by omega);rw[ES] at hk;refine⟨?_,hq _ _ _ _ _ h hk⟩
  cases hr:Region.ready .any aF listed with
  |nil=>rfl
  |cons i l=>
   obtain⟨h1,h2⟩:=hin hs (hr▸List.mem_cons_self .. :i∈Region.ready .any aF listed);have:=hmem h1 h2;rw[ES] at this;cases this
 |succ fuel ih=>
  intro listed S ρ lam a w hs wN hlen hk h;refine⟨fun hnone=> ?_,fun i hi=> ?_⟩
  ·have hall:∀i,i<aF.size→listed.getD i false=true:=by
    intro i
    induction i using Nat.strongRecOn with
    |_ i ihi=>
     intro hi;cases hl:listed.getD i false
     ·exfalso
      have:i∈Region.ready .any aF listed:=by
       refine mem_ready.2 ⟨by rw[qX (by omega)];exact hl,aF[i],Array.getElem?_eq_getElem hi,fun e he hb=> ?_⟩;have hlt:=oD TM i aF[i] (by rw[Array.getElem?_toList,Array.getElem?_eq_getElem hi]) e (Array.mem_toList_iff.2 he) hb;exact ihi e.on (by omega) (by omega)
      rw[hnone] at this;cases this
     ·rfl
   have ES:kb aF.size listed=[]:=by
    unfold kb;rw[List.filter_eq_nil_iff];intro i hi;rw[hall i (List.mem_range.1 hi)];simp
   rw[ES] at hk;exact hq _ _ _ _ _ h hk
  ·obtain⟨h1,h2⟩:=hin hs hi;obtain⟨_,o,ho,AE⟩:=mem_ready.1 hi
   have Wu:zf aF (listed.setIfInBounds i true):=by
    intro j p hp hj e he hb;by_cases hji:i=j
    ·subst hji;rw[ho] at hp;cases hp;exact getD_set_true (AE e (Array.mem_toList_iff.1 he) hb)
    ·rw[getD_set_ne false hji] at hj;exact getD_set_true (wN j p hp hj e he hb)
   obtain⟨pre,post,e1,e2,h3,h4⟩:=uA (p:=fun j=> !listed.getD j false) (q:=fun j=> !(listed.setIfInBounds i true).getD j false) (i:=i)
    (fun j hj=>by rw[getD_set_ne false (fun e=>hj e.symm)]) (by simp only[h2];rfl) (by simp [Array.getD,hs,h1]) (List.range aF.size) (List.mem_range.2 h1) List.nodup_range
   have hk':g8 E R ann N aF (pre++i::post) S K:=by
    have:kb aF.size listed=pre++i::post:=e1;rw[←this];exact hk
   have hstep:=ux hR ho pre post (by
    intro j hj p hp;obtain⟨hj1,hj2,hj3⟩:=h3 j hj;have hlt:=h4 List.pairwise_lt_range j hj;have hf:(aF.toList.map (cX E ann aF.toList))[i]? =some (cX E ann aF.toList o):=by rw[List.getElem?_map,Array.getElem?_toList,ho];rfl
    have MW:=pT SJ i _ hf;rw[Nat.zero_add] at MW;obtain⟨g,b,hg,hb,Tv⟩:=uy MW j hlt;have hg':g=cX E ann aF.toList p:=by rw[List.getElem?_map,Array.getElem?_toList,hp] at hg;exact(Option.some.inj hg).symm
    subst hg';rcases Tv with Tv|Tv
    ·have:=pY wN TM i o b ho hb (fun e he Qz=>AE e (Array.mem_toList_iff.1 he) Qz) j Tv;simp only[this] at hj2;cases hj2
    ·exact Tv) hk'
   refine pQ hR.ext hR.call hR.body h ho hstep ?_;intro S' ρ' dJ a' w' h' hk2;have e3:kb aF.size (listed.setIfInBounds i true)=pre++post:=e2;refine ih _ (by simp [hs]) Wu ?_ (by rw[e3];exact hk2) h';have QP:kb aF.size listed=pre++i::post:=e1;rw[QP] at hlen;rw[e3];simp at hlen⊢;omega
end
theorem zg:∀{l m:List Nat},jm l m=true→∃x,x∈l∧x∈m
 |y::l,m,h=>by
  rw[jm,Bool.or_eq_true] at h;rcases h with h|h
  ·exact⟨y,List.mem_cons_self ..,jz.1 h⟩
  ·obtain⟨x,hx1,vD⟩:=zg h;exact⟨x,List.mem_cons_of_mem _ hx1,vD⟩
theorem mA (n:Nat):∀l,jw n l=l.filter (fun x=> !decide (x=n))
 |[]=>rfl
 |x::l=>by
  rw[jw,aW,mA n l];by_cases h:n=x
  ·subst h;simp
  ·have:¬x=n:=fun e=>h e.symm
   simp [h,this]
theorem nD {n j:Nat} {l:List Nat}:j∈jw n l↔j∈l∧j≠n:=by
 rw[mA,List.mem_filter];simp
theorem BQ (i j:Nat) (l:List Nat):jw i (jw j l)=jw j (jw i l):=by
 rw[mA,mA,mA,mA,List.filter_filter,List.filter_filter];congr 1;funext x;rw[Bool.and_comm]
theorem pZ {n:Nat} {l:List Nat} (h:n∈l):(jw n l).length<l.length:=by
 rw[mA];have:=List.length_filter_lt_length_iff_exists (p:=fun x=> !decide (x=n)) (l:=l);exact this.2 ⟨n,h,by simp⟩
section
variable {fs:List jV} {bs:List (List Nat)}
theorem p4 {rem:List Nat} {i:Nat}:gx bs rem i=true↔∀x∈nr bs i,x∉rem:=by
 unfold gx;rw[Bool.not_eq_true'];constructor
 ·exact fun h x hx=>fQ h x hx
 ·intro h;cases hm:jm (nr bs i) rem
  ·rfl
  ·obtain⟨x,h1,h2⟩:=zg hm;exact absurd h2 (h x h1)
theorem qY {rem:List Nat} {i j:Nat} (h:gx bs rem j=true):gx bs (jw i rem) j=true:=by
 rw[p4] at h⊢;exact fun x hx hm=>h x hx (nD.1 hm).1
theorem mY {i:Nat} {f:jV}:∀{rem:List Nat},dV fs bs i f rem=true↔∀j∈rem,i=j∨i∈nr bs j∨∃g,fs[j]? =some g∧gw g f=true∧gw f g=true
 |[]=>by simp [dV]
 |j::l=>by
  rw[dV,Bool.and_eq_true,mY];simp only[List.forall_mem_cons];refine and_congr ?_ Iff.rfl;simp only[Bool.or_eq_true,aW,decide_eq_true_eq,jz,or_assoc];refine or_congr Iff.rfl (or_congr Iff.rfl ?_)
  cases fs[j]? with
  |none=>simp
  |some g=>simp
theorem sb {i j:Nat} {f:jV} {rem:List Nat} (h:dV fs bs i f rem=true):dV fs bs i f (jw j rem)=true:=by
 rw[mY] at h⊢;exact fun k hk=>h k (nD.1 hk).1
theorem qZ {rem:List Nat} {i:Nat}:∀{l:List Nat},oj fs bs rem l=some i→i∈l∧gx bs rem i=true∧∃f,fs[i]? =some f∧dV fs bs i f rem=true
 |x::l,h=>by
  rw[oj] at h;split at h
  ·rename_i f hr hf
   cases hc:dV fs bs x f rem with
   |true=>
    rw[hc] at h;simp only[cond_true,Option.some.injEq] at h;subst h;exact⟨List.mem_cons_self ..,hr,f,hf,hc⟩
   |false=>
    rw[hc] at h;obtain⟨h1,h2⟩:=qZ h;exact⟨List.mem_cons_of_mem _ h1,h2⟩
  ·obtain⟨h1,h2⟩:=qZ h;exact⟨List.mem_cons_of_mem _ h1,h2⟩
theorem vT {rem:List Nat}:∀{l:List Nat},oj fs bs rem l=none→∀i∈l,gx bs rem i=true→∀f,fs[i]? =some f→dV fs bs i f rem=false
 |x::l,h,i,hi,hr,f,hf=>by
  rw[oj] at h;rcases List.mem_cons.1 hi with rfl|hi
  ·rw[hr,hf] at h;simp only[] at h
   cases hc:dV fs bs i f rem with
   |true=>rw[hc] at h;cases h
   |false=>rfl
  ·split at h
   ·rename_i g _ _
    cases hc:dV fs bs x g rem with
    |true=>rw[hc] at h;cases h
    |false=>rw[hc] at h;exact vT h i hi hr f hf
   ·exact vT h i hi hr f hf
theorem FF {step:Nat→St→(St→Prop)→Prop} {g:Nat→rS} {S:St} {K:St→Prop}:∀{l:List Nat},il step (QX g l) S K→∀i∈l,step i S fun S'=>il step (g i) S' K
 |[x],h,i,hi=>by
  rw[List.mem_singleton] at hi;subst hi;exact h
 |x::y::l,h,i,hi=>by
  obtain⟨h1,h2⟩:=h;rcases List.mem_cons.1 hi with rfl|hi
  ·exact h1
  ·exact FF h2 i hi
theorem p5 {rem:List Nat} {i:Nat} (hr:gx bs rem i=true):∀{l:List Nat},i∈l→i∈qP bs rem l
 |x::l,h=>by
  rw[qP];rcases List.mem_cons.1 h with rfl|h
  ·rw[hr];exact List.mem_cons_self ..
  ·cases gx bs rem x
   ·exact p5 hr h
   ·exact List.mem_cons_of_mem _ (p5 hr h)
end
section
variable {E:kz} {H0:ag} {ρ0:dD} {w0:World} {ann:bQ} {N:Nat} {ρ lam:dD} {S:St} {a:Act} {w:World} {R:mr}
def iD (E:kz) (R:mr) (ann:bQ) (N:Nat) (aF:Array Oper) (i:Nat) (S:St) (K:St→Prop):Prop:=
 match aF[i]? with
 |some o=>eQ E R ann N aF.toList o S K
 |none=>False
theorem oG (hm:R.le R) {aF:Array Oper} {i:Nat} {S:St} {K K':St→Prop} (h:∀S,K S→K' S) (hk:iD E R ann N aF i S K):iD E R ann N aF i S K':=by
 unfold iD at hk⊢;split at hk
 ·exact eI hm h hk
 ·exact hk
abbrev zh (E:kz) (ann:bQ) (aF:Array Oper):List jV:=aF.toList.map (cX E ann aF.toList)
abbrev xB (aF:Array Oper):List (List Nat):=iQ aF.toList []
def Bg (E:kz) (R:mr) (ann:bQ) (N:Nat) (aF:Array Oper) (n:Nat) (rem:List Nat) (S:St) (K:St→Prop):Prop:=
 il (iD E R ann N aF) (BC (zh E ann aF) (xB aF) n rem) S K
theorem S7 (hR:nC E R) {aF:Array Oper} {i j:Nat} {S:St} {K:St→Prop} {f g:jV} (hi:(zh E ann aF)[i]? =some f) (hj:(zh E ann aF)[j]? =some g) (ha:gw f g=true) (h:iD E R ann N aF i S fun S'=>iD E R ann N aF j S' K):iD E R ann N aF j S fun S'=>iD E R ann N aF i S' K:=by
 simp only[zh,List.getElem?_map,Array.getElem?_toList,Option.map_eq_some_iff] at hi hj;obtain⟨p,hp,rfl⟩:=hi;obtain⟨q,hq,rfl⟩:=hj;simp only[iD,hp,hq] at h⊢;exact yC hR.mono hR.vF ha h
theorem aaZ (hR:nC E R) {aF:Array Oper}:∀(n:Nat),(∀(rem:List Nat) (j:Nat) (S:St) (K:St→Prop),rem.length≤n→j∈rem→j<aF.size→gx (xB aF) rem j=true→Bg E R ann N aF n rem S K→iD E R ann N aF j S fun S'=>Bg E R ann N aF (n-1) (jw j rem) S' K)∧(∀(rem:List Nat) (i:Nat) (f:jV) (S:St) (K:St→Prop),rem.length≤n→i∈rem→(zh E ann aF)[i]? =some f→gx (xB aF) rem i=true→dV (zh E ann aF) (xB aF) i f rem=true→(iD E R ann N aF i S fun S'=>Bg E R ann N aF (n-1) (jw i rem) S' K)→Bg E R ann N aF n rem S K):=by
 intro n
 induction n with
 |zero=>
  refine⟨fun rem j S K hl hj=> ?_,fun rem i f S K hl hi=> ?_⟩
  ·have:=List.eq_nil_of_length_eq_zero (l:=rem) (by omega);subst this;cases hj
  ·have:=List.eq_nil_of_length_eq_zero (l:=rem) (by omega);subst this;cases hi
 |succ m ih=>
  obtain⟨ihE,ihB⟩:=ih
  have TN:∀(rem:List Nat) (S:St) (K:St→Prop) (j:Nat),j∈rem→Bg E R ann N aF (m+1) rem S K=
   (match oj (zh E ann aF) (xB aF) rem rem with
   |some i=>iD E R ann N aF i S fun S'=>Bg E R ann N aF m (jw i rem) S' K
   |none=>il (iD E R ann N aF) (QX (fun i=>BC (zh E ann aF) (xB aF) m (jw i rem)) (qP (xB aF) rem rem)) S K):=by
   intro rem S K j hj
   cases rem with
   |nil=>cases hj
   |cons x l=>
    simp only[Bg,BC];cases oj (zh E ann aF) (xB aF) (x::l) (x::l)<;>rfl
  have app:∀{rem:List Nat} {i j:Nat} {f:jV},i≠j→i∈rem→j∈rem→gx (xB aF) rem j=true→dV (zh E ann aF) (xB aF) i f rem=true→
   ∃g,(zh E ann aF)[j]? =some g∧gw g f=true∧gw f g=true:=by
   intro rem i j f hne hi hj hr hc;rcases (mY.1 hc) j hj with h|h|h
   ·exact absurd h hne
   ·exact absurd hi (p4.1 hr i h)
   ·exact h
  refine⟨?_, ?_⟩
  ·intro rem j S K hl hj hjs hr hk;rw[TN rem S K j hj] at hk;rw[Nat.add_sub_cancel];split at hk
   ·rename_i i hp;obtain⟨hi,hri,f,hf,hc⟩:=qZ hp;by_cases hij:i=j
    ·subst hij;exact hk
    ·obtain⟨g,hg,MX,ha2⟩:=app hij hi hj hr hc;have hli:=pZ hi;have hlj:=pZ hj;have hjd:j∈jw i rem:=nD.2 ⟨hj,fun e=>hij e.symm⟩;have hid:i∈jw j rem:=nD.2 ⟨hi,hij⟩
     have h1:iD E R ann N aF i S fun S1=>iD E R ann N aF j S1 fun S2=>Bg E R ann N aF (m-1) (jw j (jw i rem)) S2 K:=
      oG hR.mono (fun S1 h=>ihE _ j S1 K (by omega) hjd hjs (qY hr) h) hk
     have h2:=S7 hR hf hg ha2 h1;refine oG hR.mono (fun S1 h=> ?_) h2;refine ihB _ i f S1 K (by omega) hid hf (qY hri) (sb hc) ?_;rw[BQ];exact h
   ·exact FF hk j (p5 hr hj)
  ·intro rem i f S K hl hi hf hri hc hk;rw[TN rem S K i hi];rw[Nat.add_sub_cancel] at hk;split
   ·rename_i k hp;obtain⟨hkm,Xf,f',hf',tF⟩:=qZ hp;by_cases hki:k=i
    ·subst hki;exact hk
    ·obtain⟨g,hg,MX,ha2⟩:=app hki hkm hi hri tF;rw[hf] at hg;cases hg;have hli:=pZ hi;have hlk:=pZ hkm;have hkd:k∈jw i rem:=nD.2 ⟨hkm,hki⟩;have hid:i∈jw k rem:=nD.2 ⟨hi,fun e=>hki e.symm⟩
     have hks:k<aF.size:=by
      have:=(List.getElem?_eq_some_iff.1 hf').1;simpa using this
     have h1:iD E R ann N aF i S fun S1=>iD E R ann N aF k S1 fun S2=>Bg E R ann N aF (m-1) (jw k (jw i rem)) S2 K:=
      oG hR.mono (fun S1 h=>ihE _ k S1 K (by omega) hkd hks (qY Xf) h) hk
     have h2:=S7 hR hf hf' MX h1;refine oG hR.mono (fun S1 h=> ?_) h2;refine ihB _ i f S1 K (by omega) hid hf (qY hri) (sb hc) ?_;rw[BQ];exact h
   ·rename_i hp;have:=vT hp i hi hri f hf;rw[hc] at this;cases this
theorem NH {n:Nat} {listed:Array Bool} {i:Nat} (hi:i<listed.size):kb n (listed.setIfInBounds i true)=jw i (kb n listed):=by
 rw[mA];unfold kb;rw[List.filter_filter];apply List.filter_congr;intro j _;by_cases h:i=j
 ·subst h;simp [Array.getD,hi]
 ·have:¬j=i:=fun e=>h e.symm
  rw[getD_set_ne false h];simp [this]
theorem FG (hR:nC E R) {aF:Array Oper} {Q:Exit→Act→World→Prop} {K:St→Prop} (TM:oi aF.toList 0=true) (hq:∀S' ρ' dJ a' w',SR H0 ρ0 w0 ann N ρ' dJ S' a' w'→K S'→Q .normal a' w'):∀(fuel:Nat) (listed:Array Bool) {S:St} {ρ lam:dD} {a:Act} {w:World},listed.size=aF.size→zf aF listed→(kb aF.size listed).length≤fuel→Bg E R ann N aF fuel (kb aF.size listed) S K→SR H0 ρ0 w0 ann N ρ lam S a w→wpAny E.P .any aF Q fuel listed a w:=by
 have hin:∀{listed:Array Bool} {i:Nat},listed.size=aF.size→i∈Region.ready .any aF listed→i<aF.size∧listed.getD i false=false:=by
  intro listed i hs hi;obtain⟨h0,o,ho,_⟩:=mem_ready.1 hi;have hlt:=(Array.getElem?_eq_some_iff.1 ho).1;exact⟨hlt,by rw[←qX (by omega)];exact h0⟩
 have hmem:∀{listed:Array Bool} {i:Nat},i<aF.size→listed.getD i false=false→i∈kb aF.size listed:=by
  intro listed i h1 h2;unfold kb;rw[List.mem_filter,List.mem_range];exact⟨h1,by rw[h2];rfl⟩
 intro fuel
 induction fuel with
 |zero=>
  intro listed S ρ lam a w hs wN hlen hk h;have ES:kb aF.size listed=[]:=List.eq_nil_of_length_eq_zero (by omega);rw[ES] at hk;refine⟨?_,hq _ _ _ _ _ h hk⟩
  cases hr:Region.ready .any aF listed with
  |nil=>rfl
  |cons i l=>
   obtain⟨h1,h2⟩:=hin hs (hr▸List.mem_cons_self .. :i∈Region.ready .any aF listed);have:=hmem h1 h2;rw[ES] at this;cases this
 |succ fuel ih=>
  intro listed S ρ lam a w hs wN hlen hk h;refine⟨fun hnone=> ?_,fun i hi=> ?_⟩
  ·have hall:∀i,i<aF.size→listed.getD i false=true:=by
    intro i
    induction i using Nat.strongRecOn with
    |_ i ihi=>
     intro hi;cases hl:listed.getD i false
     ·exfalso
      have:i∈Region.ready .any aF listed:=by
       refine mem_ready.2 ⟨by rw[qX (by omega)];exact hl,aF[i],Array.getElem?_eq_getElem hi,fun e he hb=> ?_⟩;have hlt:=oD TM i aF[i] (by rw[Array.getElem?_toList,Array.getElem?_eq_getElem hi]) e (Array.mem_toList_iff.2 he) hb;exact ihi e.on (by omega) (by omega)
      rw[hnone] at this;cases this
     ·rfl
   have ES:kb aF.size listed=[]:=by
    unfold kb;rw[List.filter_eq_nil_iff];intro i hi;rw[hall i (List.mem_range.1 hi)];simp
   rw[ES] at hk;exact hq _ _ _ _ _ h hk
  ·obtain⟨h1,h2⟩:=hin hs hi;obtain⟨_,o,ho,AE⟩:=mem_ready.1 hi
   have Wu:zf aF (listed.setIfInBounds i true):=by
    intro j p hp hj e he hb;by_cases hji:i=j
    ·subst hji;rw[ho] at hp;cases hp;exact getD_set_true (AE e (Array.mem_toList_iff.1 he) hb)
    ·rw[getD_set_ne false hji] at hj;exact getD_set_true (wN j p hp hj e he hb)
   have hr:gx (xB aF) (kb aF.size listed) i=true:=by
    rw[p4];intro x hx hm;unfold nr at hx
    cases hb:(xB aF)[i]? with
    |none=>rw[hb] at hx;simp at hx
    |some b=>
     rw[hb] at hx;have:=pY wN TM i o b ho hb (fun e he Qz=>AE e (Array.mem_toList_iff.1 he) Qz) x hx;unfold kb at hm;rw[List.mem_filter,this] at hm;simp at hm
   have hstep:=(aaZ hR (fuel+1)).1 _ i S K hlen (hmem h1 h2) h1 hr hk;simp only[iD,ho,Nat.add_sub_cancel] at hstep;have hd:=pZ (hmem h1 h2);rw[←NH (by omega)] at hstep hd;refine pQ hR.ext hR.call hR.body h ho hstep ?_;intro S' ρ' dJ a' w' h' hk2;exact ih _ (by simp [hs]) Wu (by omega) hk2 h'
end
section
variable {E:kz} {H0:ag} {ρ0:dD} {w0:World} {ann:bQ} {N:Nat} {ρ lam:dD} {S:St} {a:Act} {w:World} {R:mr}
def exR:Ex→Exit
 | .normal=>.normal
 | .exit id=>.exit id
 | .ret=>.ret
theorem uF (hR:nC E R) (hm:E.P.follows .mixedOrders=true) {id:Nat} {aF:Array Oper} {draw:Bool} {Q:Exit→Act→World→Prop} {K:St→Prop} (hok:(!draw||yp E ann aF.toList)=true) (h:SR H0 ρ0 w0 ann N ρ lam S a w) (hk:lA E R ann N aF.toList aF.toList S K) (hq:∀S' ρ' dJ a' w',SR H0 ρ0 w0 ann N ρ' dJ S' a' w'→K S'→Q .normal a' w'):(Code.region id aF draw).wp E.P Q a w:=by
 rw[BL aF.toList 0 rfl] at hk;rw[Array.length_toList, ←List.range_eq_range'] at hk
 cases draw with
 |false=>exact wp_region (pS hR _ h hk hq)
 |true=>
  refine wp_region_any hm ?_
  have Hf:kb aF.size (Array.replicate aF.size false)=List.range aF.size:=by
   unfold kb;rw[List.filter_eq_self];intro i hi;simp [Array.getD,List.mem_range.1 hi]
  refine HZ hR (by simpa using hok) hq aF.size _ (by simp) ?_ (by rw[Hf];simp) (by rw[Hf];exact hk) (h.drew _);intro i o _ hi;simp [Array.getD] at hi
theorem Lp {aF:Array Oper}:fT E R ann N aF.toList=iD E R ann N aF:=by
 funext i S K;unfold fT iD;rw[Array.getElem?_toList]
 cases aF[i]? with
 |none=>rfl
 |some o=>exact hO
theorem Bh (hR:nC E R) (hm:E.P.follows .mixedOrders=true) {id:Nat} {aF:Array Oper} {draw:Bool} {Q:Exit→Act→World→Prop} {K:St→Prop} (h:SR H0 ρ0 w0 ann N ρ lam S a w) (hk:gR E R ann N aF.toList draw S K) (hq:∀S' ρ' dJ a' w',SR H0 ρ0 w0 ann N ρ' dJ S' a' w'→K S'→Q .normal a' w'):(Code.region id aF draw).wp E.P Q a w:=by
 unfold gR at hk;split at hk
 ·rename_i hok;rw[k5] at hk;exact uF hR hm hok h hk hq
 ·rename_i hok;obtain⟨TM,hk⟩:=aQ hk
  have SJ:draw=true:=by
   cases draw with
   |true=>rfl
   |false=>simp at hok
  subst SJ;rw[Lp] at hk;refine wp_region_any hm ?_
  have Hf:kb aF.size (Array.replicate aF.size false)=List.range aF.size:=by
   unfold kb;rw[List.filter_eq_self];intro i hi;simp [Array.getD,List.mem_range.1 hi]
  refine FG hR TM hq aF.size _ (by simp) ?_ (by rw[Hf];simp) (by rw[Hf];rw[Array.length_toList] at hk;exact hk) (h.drew _);intro i o _ hi;simp [Array.getD] at hi
theorem FH {kp:Option ju} {A:(Ex→St→Prop)→Prop} {K:Ex→St→Prop} {X:Prop} (hj:wO kp A K) (hA:∀K':Ex→St→Prop,A K'→(∀e S' ρ' dJ a' w',SR H0 ρ0 w0 ann N ρ' dJ S' a' w'→K' e S'→∃He,SR H0 ρ0 w0 ann N ρ' dJ He a' w'∧K e He)→X):X:=by
 unfold wO at hj
 cases kp with
 |none=>exact hA K hj fun e S' ρ' dJ a' w' h hk=>⟨S',h,hk⟩
 |some kp=>
  refine hA _ hj ?_;intro e S' ρ' dJ a' w' h hk
  cases e with
  |normal=>
   obtain⟨S1,h1,hk⟩:=j9 h hk;exact pR h1 hk
  |exit id=>exact⟨S',h,hk⟩
  |ret=>exact⟨S',h,hk⟩
theorem BR {α:Type} {l:List (Nat×α)} {dr:List Nat} {g:Nat→Option α} {t:Nat} {x:α} (h:over l dr g t=some x):ab l t=some x∨(bC t dr=false∧g t=some x):=by
 unfold over at h;split at h
 ·rename_i y hy;cases h;exact .inl hy
 ·cases hm:bC t dr with
  |true=>rw[hm] at h;cases h
  |false=>rw[hm] at h;exact .inr ⟨rfl,h⟩
theorem p6 {ok:ju→Bool} {kp:Option ju} {S:St} {A:(Ex→St→Prop)→Prop} {K:Ex→St→Prop} {X:Prop} (hag:∀(kp:ju) (K:Ex→St→Prop),ok kp=true→A K→A fun e S'=>K e S'∧gG kp.wT kp.wL S S') (hj:mu ok kp S A K) (hA:∀K':Ex→St→Prop,A K'→(∀e S' ρ' dJ a' w',SR H0 ρ0 w0 ann N ρ' dJ S' a' w'→K' e S'→∃He,SR H0 ρ0 w0 ann N ρ' dJ He a' w'∧K e He)→X):X:=by
 unfold mu at hj
 cases kp with
 |none=>exact hA K hj fun e S' ρ' dJ a' w' h hk=>⟨S',h,hk⟩
 |some kp=>
  simp only[] at hj;split at hj
  ·obtain⟨hok,hj⟩:=aQ hj;refine hA _ (hag kp _ hok hj) ?_;rintro e S' ρ' dJ a' w' h ⟨hk,ha⟩
   cases e with
   |exit id=>exact⟨S',h,hk⟩
   |ret=>exact⟨S',h,hk⟩
   |normal=>
    have hk:lB (pG kp.cn) (pG kp.gZ) S' fun S1=>ah ((lC S1 kp.cn).1&&(lD S1 kp.gZ).1)
     (K .normal ⟨over (lC S1 kp.cn).2 kp.wT S.tm,over (lD S1 kp.gZ).2 kp.wL S.lo,S1.hp⟩):=hk
    unfold lB at hk;split at hk
    ·rename_i m l hm hl;obtain⟨hr,hk⟩:=aQ hk;rw[Bool.and_eq_true] at hr;refine⟨_,h.Rc (S':=⟨over (lC ⟨ab m,ab l,S'.hp⟩ kp.cn).2 kp.wT S.tm,over (lD ⟨ab m,ab l,S'.hp⟩ kp.gZ).2 kp.wL S.lo,S'.hp⟩) (fun t x hx=> ?_) (fun t x hx=> ?_) rfl,hk⟩
     ·rcases BR hx with hx|⟨hn,hx⟩
      ·exact sO hm (sQ hr.1 hx)
      ·rw[ha.1 t hn];exact hx
     ·rcases BR hx with hx|⟨hn,hx⟩
      ·exact sP hl (sR hr.2 hx)
      ·rw[ha.2 t hn];exact hx
    ·exact hk.elim
  ·exact FH hj hA
theorem Rj {S:St} {ρ lam:dD} {a:Act} {w:World} {dT dL:List Nat} (h:SR H0 ρ0 w0 ann N ρ lam S a w):SR H0 ρ0 w0 ann N ρ lam (rL dT dL S) a w:=by
 refine h.Rc (fun t x hx=> ?_) (fun t x hx=> ?_) rfl
 ·simp only[rL] at hx
  cases hm:bC t dT with
  |true=>rw[hm] at hx;cases hx
  |false=>rw[hm] at hx;exact hx
 ·simp only[rL] at hx
  cases hm:bC t dL with
  |true=>rw[hm] at hx;cases hx
  |false=>rw[hm] at hx;exact hx
theorem zi {f:FuncId} {fn:Func} (hR:nC E R) (hm:E.P.follows .mixedOrders=true) (hf:E.P.funcs[f]? =some fn) (acQ:ann=E.ann f) (hN:N=fn.ntmps):∀(c:Code) (n:Nat) (S:St) (K:Ex→St→Prop) (ρ lam:dD) (a:Act) (w:World) (Q:Exit→Act→World→Prop),gp E R f ann N c n S K→SR H0 ρ0 w0 ann N ρ lam S a w→(∀e S' ρ' dJ a' w',SR H0 ρ0 w0 ann N ρ' dJ S' a' w'→K e S'→Q (exR e) a' w')→c.wp E.P Q a w:=by
 intro c
 induction c with
 |skip=>intro n S K ρ lam a w Q hx h hq;exact wp_skip (hq .normal _ _ _ _ _ h hx)
 |seq x y ihx ihy=>
  intro n S K ρ lam a w Q hx h hq;refine wp_seq (ihx n S _ ρ lam a w _ hx h ?_);intro e S' ρ' dJ a' w' h' hk
  cases e with
  |normal=>exact ihy _ _ _ _ _ _ _ _ hk h' hq
  |exit id=>exact hq (.exit id) _ _ _ _ _ h' hk
  |ret=>exact hq .ret _ _ _ _ _ h' hk
 |cond c x y ihx ihy=>
  intro n S K ρ lam a w Q hx h hq;simp only[gp] at hx;split at hx
  ·rename_i t ht;have hb:=(h.ev.tv ht).Dk;refine p6 (H0:=H0) (ρ0:=ρ0) (w0:=w0) (ann:=ann) (N:=N) ?_ hx ?_
   ·intro kp K hok;rw[Bool.and_eq_true] at hok;exact fc (sT hR.mono x _ _ _ hok.1) (sT hR.mono y _ _ _ hok.2)
   intro K' hx hK
   have hq':∀e S' ρ' dJ a' w',SR H0 ρ0 w0 ann N ρ' dJ S' a' w'→K' e S'→Q (exR e) a' w':=by
    intro e S' ρ' dJ a' w' h' hk;obtain⟨He,h'',QA⟩:=hK e S' ρ' dJ a' w' h' hk;exact hq e _ _ _ _ _ h'' QA
   rcases gy hx with⟨rfl,hx⟩|⟨rfl,hx⟩
   ·exact wp_cond_true hb (ihx _ _ _ _ _ _ _ _ hx h hq')
   ·exact wp_cond_false hb (ihy _ _ _ _ _ _ _ _ hx h hq')
  ·exact hx.elim
 |block id b ih=>
  intro n S K0 ρ lam a w Q hx h hq;simp only[gp] at hx;refine p6 (H0:=H0) (ρ0:=ρ0) (w0:=w0) (ann:=ann) (N:=N) ?_ hx ?_
  ·intro kp K hok hx;refine gS hR.mono b _ _ _ _ ?_ (sT hR.mono b _ _ _ hok hx);rintro e S' ⟨hk,ha⟩
   cases e with
   |normal=>exact⟨hk,ha⟩
   |ret=>exact⟨hk,ha⟩
   |exit j=>exact fc (fun h=>⟨h,ha⟩) (fun h=>⟨h,ha⟩) hk
  intro K hx hK;have hq0:=hq
  have hq:∀e S' ρ' dJ a' w',SR H0 ρ0 w0 ann N ρ' dJ S' a' w'→K e S'→Q (exR e) a' w':=by
   intro e S' ρ' dJ a' w' h' hk;obtain⟨He,h'',QA⟩:=hK e S' ρ' dJ a' w' h' hk;exact hq0 e _ _ _ _ _ h'' QA
  refine wp_block (ih n S _ ρ lam a w _ hx h ?_);intro e S' ρ' dJ a' w' h' hk
  cases e with
  |normal=>exact hq .normal _ _ _ _ _ h' hk
  |exit j=>
   simp only[exR,Exit.inBlock];rcases gy hk with⟨hj,hk⟩|⟨hj,hk⟩
   ·rw[if_pos (Nat.eq_of_beq_eq_true hj)];exact hq .normal _ _ _ _ _ h' hk
   ·rw[if_neg (fun e=>by rw[e,Nat.beq_refl] at hj;cases hj)];exact hq (.exit j) _ _ _ _ _ h' hk
  |ret=>exact hq .ret _ _ _ _ _ h' hk
 |loop c ih=>
  intro n S K ρ lam a w Q hx h hq;simp only[gp] at hx;split at hx
  ·rename_i kp hkp;obtain⟨S0,h0,hx⟩:=j9 h hx;subst acQ;subst hN;refine NG (hR.loop _ _ _ _ _ _ hx fn H0 ρ0 w0 ρ lam a w Q hf h0 ?_ ?_)
   ·intro S' ρ' dJ a' w' h' hk;obtain⟨He,h'',hk⟩:=pR h' hk;exact hq .ret _ _ _ _ _ h'' hk
   ·intro id S' ρ' dJ a' w' h' hk;obtain⟨He,h'',hk⟩:=uw h' hk;exact hq (.exit id) _ _ _ _ _ h'' hk
  ·exact hx.elim
 |exit id=>intro n S K ρ lam a w Q hx h hq;exact wp_exit (hq (.exit id) _ _ _ _ _ h hx)
 |ret=>intro n S K ρ lam a w Q hx h hq;exact wp_ret (hq .ret _ _ _ _ _ h hx)
 |region id aF draw=>
  intro n S K ρ lam a w Q hx h hq;simp only[gp] at hx
  have old:∀kp:Option ju,mu (fun kp=>jy E ann kp.wT kp.wL aF.toList) kp S (fun K=>gR E R ann N aF.toList draw S (K .normal)) K→(Code.region id aF draw).wp E.P Q a w:=by
   intro kp hx;refine p6 (H0:=H0) (ρ0:=ρ0) (w0:=w0) (ann:=ann) (N:=N) ?_ hx ?_
   ·intro kp K hok hx;exact mX hR.mono hok hx
   intro K' hx hK;refine Bh hR hm h hx ?_;intro S' ρ' dJ a' w' h' hk;obtain⟨He,h'',QA⟩:=hK .normal S' ρ' dJ a' w' h' hk;exact hq .normal _ _ _ _ _ h'' QA
  revert hx;split
  ·exact old none
  ·rename_i kp _;split
   ·intro hx;obtain⟨hok,hx⟩:=aQ hx;have hx:=y8 hR.mono _ hx;rw[k5] at hx;refine uF hR hm hok h hx ?_;intro S' ρ' dJ a' w' h' hk;exact hq .normal _ _ _ _ _ (Rj h') hk
   ·exact old (some kp)
 |rangeFunc=>intro n S K ρ lam a w Q hx;exact hx.elim
 |scope b ih=>
  intro n S K ρ lam a w Q hx h hq;simp only[gp] at hx;refine wp_scope_straight (ih _ _ _ _ _ _ _ _ hx h ?_);intro e S' ρ' dJ a' w' h' hk;have:=hq e S' ρ' dJ a' w' h' hk;cases e<;>exact this
 |label l=>
  intro n S K ρ lam a w Q hx h hq;simp only[gp] at hx;exact wp_label (hq .normal _ _ _ _ _ h hx)
 |goto=>intro n S K ρ lam a w Q hx;exact hx.elim
 |refuse=>intro n S K ρ lam a w Q hx;exact hx.elim
end
section
variable {E:kz} {H0:ag} {ρ0:dD} {w0:World} {ann:bQ} {N:Nat} {ρ lam:dD} {S:St} {a:Act} {w:World} {R:mr}
def lK (tmps:Array Value):ResultVar→Sem Value
 | .tmp t=>pure (tmps.getD t undef)
 | .cell a t=>do loadVar t (←asAddr (tmps.getD a undef))
theorem zj {e:Operand→Value} {t:TypeId} {x:Operand} {dst:Option Tmp} {type:TypeId} {jk:String} {after:Array Edge} {guard:Option (Nat×Bool)} {v:Value} (h:(execOp e ⟨dst,.load t x,type,jk,after,guard⟩).run E.P w=.ok (.value v) w):(Instr.loadAt t (e x)).run E.P w=.ok v w:=by
 simp only[execOp,Sem.run_bind] at h
 cases hr:(Instr.loadAt t (e x)).run E.P w with
 |ok y w'=>
  rw[hr] at h;simp only[Result.andThen_ok,Sem.run_pure,Result.ok.injEq,Next.value.injEq] at h;rw[h.1,h.2]
 |halt y w'=>rw[hr] at h;simp at h
theorem Bi (h:SR H0 ρ0 w0 ann N ρ lam S a w) {r:ResultVar} {K:V→Prop} (hk:mv E S r K):∃x v,(lK a.tmps r).run E.P w=.ok v w∧VR ρ x v∧K x:=by
 unfold mv at hk;split at hk
 ·rename_i t;split at hk
  ·rename_i x hx;have ht:=h.tm t _ hx;generalize hq:a.tmps.getD t undef=q at ht
   cases ht with
   |v hv=>exact⟨x,q,by simp only[lK,hq];rfl,hv,hk⟩
  ·exact hk.elim
 ·rename_i ad t;split at hk
  ·rename_i s off hs;split at hk
   ·rename_i el cs hlo;split at hk
    ·rename_i r v hv;obtain⟨hr,hk⟩:=aQ hk;obtain⟨b,hb,hc,_⟩:=h.lo s _ hlo;obtain⟨b',hb',he⟩:=h.ev.lp (x:=.tmp ad) hs;rw[hb] at hb';cases hb';obtain⟨v',h1,h2⟩:=oC (E:=E) hc hv hr (fun _ _=>.inl rfl);have he':a.tmps.getD ad undef=.pointer (some ⟨b,off,none⟩):=he;exact⟨v,v',by simp only[lK,he',asAddr,Sem.run_bind,Sem.run_pure,Result.andThen_ok,h1],h2,hk⟩
    ·exact hk.elim
   ·exact hk.elim
  ·split at hk
   ·rename_i d hd;obtain⟨hr,hk⟩:=fS.ff hk;obtain⟨v,h1,h2⟩:=w7 (o:=⟨none,.load t (.tmp ad),0, "", #[],none⟩) (w:=w) h.ev h.hr hd hr;have h3:=zj h1;split at hk
    ·rename_i y hy;rw[hy] at h2
     cases h2 with
     |v hv=>
      refine⟨y,v, ?_,hv,hk⟩;simp only[Instr.loadAt,Sem.run_bind] at h3;simp only[lK,Sem.run_bind];change _=_ at h3
      have he:a.eval (.tmp ad)=a.tmps.getD ad undef:=rfl;rw[he] at h3;generalize a.tmps.getD ad undef=q at h3⊢
      cases q with
      |pointer p=>cases p with
       |some p=>exact h3
       |none=>simp [Instr.sureAddr] at h3
      |_=>simp [Instr.sureAddr] at h3
    ·exact hk.elim
   ·exact hk.elim
theorem p7 (h:SR H0 ρ0 w0 ann N ρ lam S a w):∀{l:List ResultVar} {K:List V→Prop},ns E S l K→∃xs vs,(l.mapM (lK a.tmps)).run E.P w=.ok vs w∧eM ρ xs vs∧K xs
 |[],K,hk=>⟨[],[],by simp,.nil ρ,hk⟩
 |r::l,K,hk=>by
  obtain⟨x,v,h1,h2,hk⟩:=Bi h hk;obtain⟨xs,vs,h3,h4,hk⟩:=p7 h hk;exact⟨x::xs,v::vs,by simp only[List.mapM_cons,Sem.run_bind,h1,h3,Result.andThen_ok,Sem.run_pure],.cons h2 h4,hk⟩
theorem Ia (h:SR H0 ρ0 w0 ann N ρ lam S a w) {fn:Func} {K:V→ag→Prop} (hk:La E fn K S):∃x v,(results fn a.tmps).run E.P w=.ok v w∧VR ρ x v∧K x S.hp:=by
 obtain⟨xs,vs,h1,h2,hk⟩:=p7 h hk
 have hrun:(results fn a.tmps).run E.P w=.ok (if h:vs.toArray.size=1 then vs.toArray[0] else .tuple vs.toArray) w:=by
  have h0:results fn a.tmps=(fn.results.mapM (lK a.tmps)) >>= fun vs=>pure (if h:vs.size=1 then vs[0] else .tuple vs):=by
   unfold results;congr 1
  have h':(fn.results.mapM (lK a.tmps)).run E.P w=.ok vs.toArray w:=by
   rw[←Array.toArray_toList (xs:=fn.results),List.mapM_toArray];simp only[Sem.run_map,h1,Result.andThen_ok]
  rw[h0,Sem.run_bind,h'];rfl
 cases xs with
 |nil=>rw[h2.gq] at hrun;exact⟨.tuple [],.tuple #[],by simpa using hrun,.gD (.nil ρ),hk⟩
 |cons x l=>
  obtain⟨v,m,rfl,h3,h4⟩:=h2.dh
  cases l with
  |nil=>
   rw[h4.gq] at hrun;exact⟨x,v,by simpa using hrun,h3,hk⟩
  |cons y l=>
   have hl:(v::m).toArray.size≠1:=by have:=h2.1;simp at this⊢;intro e;rw[e] at this;simp at this
   rw[dif_neg hl] at hrun;exact⟨.tuple (x::y::l),.tuple (v::m).toArray,hrun,.gD (by simpa using h2),hk⟩
theorem sU:∀{l:List V} {j t:Nat} {x:T},Fb l j t=some x→∃v,x=.v v∧j≤t∧l[t-j]? =some v
 |[],j,t,x,h=>by cases h
 |v::l,j,t,x,h=>by
  simp only[Fb,aW] at h;by_cases he:t=j
  ·simp only[he,decide_true,cond_true,Option.some.injEq] at h;exact⟨v,h.symm,by omega,by simp [he]⟩
  ·simp only[he,decide_false,cond_false] at h;obtain⟨u,h1,h2,h3⟩:=sU h;refine⟨u,h1,by omega, ?_⟩;rw[show t-j=t-(j+1)+1 by omega];simpa using h3
theorem DI (hR:nC E R) (hm:E.P.follows .mixedOrders=true) {f:FuncId} {args:List V} {H:ag} {K:V→ag→Prop} (h:(F E R).call f args H K):iB E f args H K∧∃fn,E.P.funcs[f]? =some fn∧fn.body.isSome=true:=by
 simp only[F] at h;split at h
 ·rename_i fn hf;have hf:=E.fn_ok f fn hf;split at h
  ·rename_i c hb;obtain⟨hn,hx⟩:=aQ h;refine⟨?_,fn,hf,by rw[hb];rfl⟩;intro ρ w aS hr has
   have hlen:aS.size≤fn.ntmps:=by
    have h1:=has.1;have h2:=Nat.le_of_ble_eq_true hn;simp at h1;omega
   have hsr:SR H ρ w (E.ann f) fn.ntmps ρ (fun _=>none) ⟨Fb args 0,fun _=>none,H⟩ {tmps:=aS++Array.replicate (fn.ntmps-aS.size) undef,defers:=[]} w:=by
    refine⟨rfl,by simp;omega, ?_, ?_,(fun s L hL=>by cases hL),(fun s s' L L' b hL=>by cases hL),hr,.refl H ρ w⟩
    ·intro t x hx;obtain⟨v,rfl,_,h2⟩:=sU hx;rw[Nat.sub_zero] at h2
     have hlt:t<args.length:=by
      rcases Nat.lt_or_ge t args.length with h|h
      ·exact h
      ·rw[List.getElem?_eq_none h] at h2;cases h2
     have hlt':t<aS.size:=by have:=has.1;simp at this;omega
     refine .v (has.2 t v _ h2 ?_);rw[Array.getD_eq_getD_getElem?,Array.getElem?_append_left hlt',Array.getElem?_eq_getElem hlt'];simp [hlt']
    ·intro t s off hx;obtain⟨v,h1,_⟩:=sU hx;cases h1
   refine calls_of_wp hf hb (zi (H0:=H) (ρ0:=ρ) (w0:=w) hR hm hf rfl rfl c 0 _ _ _ _ _ _ _ hx hsr ?_);intro e S' ρ' dJ a' w' h' hk
   have key:La E fn K S'→a'.defers=[]∧∃v,(results fn a'.tmps).run E.P w'=.ok v w'∧yN H ρ w K (.returned v) w':=by
    intro hk;obtain⟨x,v,h1,h2,h3⟩:=Ia h' hk;exact⟨h'.defers,v,h1,x,v,S'.hp,ρ',rfl,h3,h2,h'.hr,h'.bX⟩
   cases e with
   |normal=>exact key hk
   |exit id=>exact hk.elim
   |ret=>exact key hk
  ·exact h.elim
 ·exact h.elim
theorem DJ (hR:nC E R) (hm:E.P.follows .mixedOrders=true) {c:Code} {f:FuncId} {n:Nat} {S:St} {Kr:St→Prop} {Ke:Nat→St→Prop} (h:(F E R).loop c f n S Kr Ke):nB E c f S Kr Ke:=by
 simp only[F] at h;split at h
 ·rename_i fn kp hf hkp;have hf:=E.fn_ok f fn hf;intro fn' H0 ρ0 w0 ρ lam a w Q hf' hsr hr he;rw[hf] at hf';cases hf';refine HQ (zi (H0:=H0) (ρ0:=ρ0) (w0:=w0) hR hm hf rfl rfl c _ _ _ _ _ _ _ _ h hsr ?_);intro e S' ρ' dJ a' w' h' hk
  cases e with
  |normal=>
   obtain⟨S0,h0,hk⟩:=j9 h' hk;exact hR.loop _ _ _ _ _ _ hk fn H0 ρ0 w0 ρ' dJ a' w' Q hf h0 hr he
  |exit id=>
   obtain⟨S0,h0,hk⟩:=j9 h' hk;exact he id _ _ _ _ _ h0 hk
  |ret=>
   obtain⟨S0,h0,hk⟩:=j9 h' hk;exact hr _ _ _ _ _ h0 hk
 ·exact h.elim
theorem BS (hX:jZ E) (hm:E.P.follows .mixedOrders=true):nC E (rT E):=by
 have mono_call:∀{f:FuncId} {args:List V} {H:ag} {K K':V→ag→Prop},(∀v H',K v H'→K' v H')→iB E f args H K→iB E f args H K':=by
  intro f args H K K' hk h ρ w aS hr has;refine(h ρ w aS hr has).mono ?_;rintro e w' ⟨v,v',H',ρ',h1,h2,h3⟩;exact⟨v,v',H',ρ',h1,hk _ _ h2,h3⟩
 have mono_loop:∀{c:Code} {f:FuncId} {S:St} {Kr Qj:St→Prop} {Ke Qk:Nat→St→Prop},(∀S,Kr S→Qj S)→(∀i S,Ke i S→Qk i S)→nB E c f S Kr Ke→nB E c f S Qj Qk:=by
  intro c f S Kr Qj Ke Qk h1 h2 h fn H0 ρ0 w0 ρ lam a w Q hf hsr hr he;exact h fn H0 ρ0 w0 ρ lam a w Q hf hsr (fun S' ρ' dJ a' w' h' hk=>hr S' ρ' dJ a' w' h' (h1 _ hk)) (fun id S' ρ' dJ a' w' h' hk=>he id S' ρ' dJ a' w' h' (h2 _ _ hk))
 let G:mr:=
  {call:=fun f args H K=>(rT E).call f args H K∧iB E f args H K∧∃fn,E.P.funcs[f]? =some fn∧fn.body.isSome=true
   loop:=fun c f n S Kr Ke=>(rT E).loop c f n S Kr Ke∧nB E c f S Kr Ke}
 have hGR:G.le (rT E):=⟨fun f args H K K' hk h=>nt.call _ _ _ _ _ hk h.1,fun c f n S Kr Qj Ke Qk h1 h2 h=>nt.loop _ _ _ _ _ _ _ _ h1 h2 h.1⟩
 have hGm:G.le G:=⟨fun f args H K K' hk h=>⟨nt.call _ _ _ _ _ hk h.1,mono_call hk h.2.1,h.2.2⟩,
  fun c f n S Kr Qj Ke Qk h1 h2 h=>⟨nt.loop _ _ _ _ _ _ _ _ h1 h2 h.1,mono_loop h1 h2 h.2⟩⟩
 have hGs:nC E G:=⟨fun f args H K h=>h.2.1,fun f args H K h=>h.2.2,fun c f n S Kr Ke h=>h.2,hGm,
  ⟨fun f args H K h=>sH.call _ _ _ _ h.1,fun c f n S Kr Ke h=>sH.loop _ _ _ _ _ _ h.1⟩,hX⟩
 have hFG:(F E G).le G:=
  ⟨fun f args H K K' hk h=>hGm.call _ _ _ _ _ hk ⟨pJ.call _ _ _ _ _ (fun _ _=>id) ((vJ hGR).call _ _ _ _ _ (fun _ _=>id) h),DI hGs hm h⟩,
   fun c f n S Kr Qj Ke Qk h1 h2 h=>hGm.loop _ _ _ _ _ _ _ _ h1 h2 ⟨pJ.loop _ _ _ _ _ _ _ _ (fun _=>id) (fun _ _=>id) ((vJ hGR).loop _ _ _ _ _ _ _ _ (fun _=>id) (fun _ _=>id) h),DJ hGs hm h⟩⟩
 have hle:=yr hGm hFG
 exact⟨fun f args H K h=>(hle.call _ _ _ _ _ (fun _ _=>id) h).2.1,fun f args H K h=>(hle.call _ _ _ _ _ (fun _ _=>id) h).2.2,
  fun c f n S Kr Ke h=>(hle.loop _ _ _ _ _ _ _ _ (fun _=>id) (fun _ _=>id) h).2,nt,sH,hX⟩
#print axioms BS
end
def kg:Code→Nat→Nat→Option Code
 | .seq a b,n,m=>match kg a n m with|some c=>some c|none=>kg b (n+ef a) m
 | .cond _ a b,n,m=>match kg a (n+1) m with|some c=>some c|none=>kg b (n+1+ef a) m
 | .block _ b,n,m=>kg b n m
 | .scope b,n,m=>kg b n m
 | .loop b,n,m=>bif Nat.beq n m then some b else kg b (n+1) m
 |_,_,_=>none
def NI (E:kz) (f n:Nat):Code:=
 match E.fn f with
 |some fn=>match fn.body with|some c=>(kg c 0 n).getD .skip|none=>.skip
 |none=>.skip
theorem aL {i:Nat} (h:(i:Int)+1≤9223372036854775807):IntKind.i64.wrap ((i:Int)+1)=((i+1:Nat):Int):=by
 rw[IntWalk.i64_in _ (by omega)];omega
theorem bq {x:Int} (h: -9223372036854775808≤x) (h':x≤9223372036854775807):IntKind.i64.wrap x=x:=IntWalk.i64_in _ ⟨h,h'⟩
@[simp] theorem ak (X Y:Prop):br true X Y=X:=rfl
@[simp] theorem ai (X Y:Prop):br false X Y=Y:=rfl
@[simp] theorem av (X:Prop):ah true X=X:=rfl
@[simp] theorem W4 (X:Prop):ah false X=False:=rfl
theorem zk (c:Bool) (X Y:Prop):br c X Y=if c=true then X else Y:=by cases c<;>rfl
@[simp] theorem eu {α:Type} (A:(α→Prop)→Prop) (Q:α→Prop):cx A Q=A Q:=rfl
@[simp] theorem ij (a b:Nat):Nat.beq a b=decide (a=b):=aW
@[simp] theorem mB (a b:Nat):Nat.ble a b=decide (a≤b):=by
  cases h:Nat.ble a b with
  |true=>simpa using Nat.le_of_ble_eq_true h
  |false=>exact(decide_eq_false fun hle=>by rw[Nat.ble_eq_true_of_le hle] at h;cases h).symm
@[simp] theorem lL {α:Type} (n:Nat):ab ([]:List (Nat×α)) n=none:=rfl
@[simp] theorem iE {α:Type} (k n:Nat) (x:α) (l:List (Nat×α)):ab ((k,x)::l) n=if n=k then some x else ab l n:=by
  simp only[ab,ij];by_cases h:n=k<;>simp [h]
@[simp] theorem aaW (x:V):T.val (some (.v x))=x:=rfl
abbrev PS:=St→Prop
def tv (S:St) (n:Nat):V:=T.val (S.1 n)
theorem TV:(∀(S:St) (n:Nat),tv S n=T.val (S.1 n))∧∀x:V,T.val (some (T.v x))=x:=⟨fun _ _=>rfl,fun _=>rfl⟩
@[simp] theorem mZ (k:cg) (x:V):aB (.k k) (some (.v x))=x.aw k:=rfl
@[simp] theorem p8 (ks:List cg) (x:V):aB (.agg ks) (some (.v x))=(x.isAgg&&aI ks x.af):=rfl
@[simp] theorem uG (s:Nat):aB (.lp s) (some (.lp s 0))=true:=by simp [aB]
@[simp] theorem vU (e:Nat) (ks:List cg) (cs:List V):eh e ks (some (.cells e cs))=aI ks cs:=by simp [eh]
@[simp] theorem ix (e:Nat) (cs:List V):ao (some (.cells e cs))=cs:=rfl
@[simp] theorem dA (x:V) (l:List V):ae (x::l) 0=x:=rfl
@[simp] theorem fJ (x y:V) (l:List V):ae (x::y::l) 1=y:=rfl
@[simp] theorem p9 (x y z:V) (l:List V):ae (x::y::z::l) 2=z:=rfl
@[simp] theorem dY (l:List V):V.ar (.tuple l)=l:=rfl
@[simp] theorem cI (l:List V):V.af (.agg l)=l:=rfl
@[simp] theorem dW (l:List V):V.isAgg (.agg l)=true:=rfl
@[simp] theorem aZ (k:IntKind) (x:Int):V.aa (.int k x)=x:=rfl
@[simp] theorem bR (b:Bool):V.an (.bool b)=b:=rfl
@[simp] theorem fV (b:ByteArray):V.jt (.cG b)=b:=rfl
@[simp] theorem jB (b:Oq):V.ay (.aj b)=b:=rfl
@[simp] theorem bD (p:Oq) (n c:Nat):V.au (.slice p n c)=p:=rfl
@[simp] theorem aT (p:Oq) (n c:Nat):V.ax (.slice p n c)=n:=rfl
@[simp] theorem cq (p:Oq) (n c:Nat):V.aC (.slice p n c)=c:=rfl
@[simp] theorem cL (k:IntKind) (x:Int):V.aw (.int k) (.int k x)=true:=by simp [V.aw]
@[simp] theorem ey (b:Bool):V.aw .bool (.bool b)=true:=rfl
@[simp] theorem jS (b:ByteArray):V.aw .cG (.cG b)=true:=rfl
@[simp] theorem re (b:Oq):V.aw .aj (.aj b)=true:=rfl
@[simp] theorem bT (p:Oq) (n c:Nat):V.aw .slice (.slice p n c)=true:=rfl
@[simp] theorem dm (n:Nat) (l:List V):V.aJ n (.tuple l)=decide (l.length=n):=by
  by_cases h:l.length=n<;>simp [V.aJ,h]
@[simp] theorem W5 (c:Bool) (a b:V):bS c a b=if c=true then a else b:=by rw[np]
def BT (args:List V) (H:ag) (K:V→ag→Prop):Prop:=
 match args with
 |[.slice (some (i,o)) la _,.slice (some (j,_)) lb _]=>
  i≠j∧0<la∧0<lb∧(∃e cs,H.get i=some (.cells e cs false)∧o<cs.length)∧(∃e cs ro,H.get j=some (.cells e cs ro))∧K (.bool true) H∧K (.bool false) H
 |_=>False
theorem Lq {args:List V} {H:ag} {K:V→ag→Prop} (h:BT args H K):∃i o la ca j o' lb cb,args=[.slice (some (i,o)) la ca,.slice (some (j,o')) lb cb]∧i≠j∧0<la∧0<lb∧(∃e cs,H.get i=some (.cells e cs false)∧o<cs.length)∧(∃e cs ro,H.get j=some (.cells e cs ro))∧K (.bool true) H∧K (.bool false) H:=by
 unfold BT at h;split at h
 ·exact⟨_,_,_,_,_,_,_,_,rfl,h⟩
 ·exact h.elim
def FI:Ext where
 run:=BT
 mono args H K K' h hk:=by
  unfold BT at hk⊢;split at hk
  ·obtain⟨a,b,c,d,e,f,g⟩:=hk;exact⟨a,b,c,d,e,h _ _ f,h _ _ g⟩
  ·exact hk
 vF args H K hk:=by
  unfold BT at hk;split at hk
  ·obtain⟨a,b,c,d,e,f,g⟩:=hk;exact⟨_,_,f⟩
  ·exact hk.elim
theorem HR.heap {ρ:dD} {H:ag} {w w':World} (h:HR ρ H w) (he:w'.heap=w.heap):HR ρ H w':=
 ⟨fun id o hg=>by rw[he];exact h.wW id o hg,h.inj,fun id b hb=>by rw[he];exact h.lt id b hb,h.gl⟩
theorem DK {P:Program} {w:World} {tS tR e:TypeId} (ht:P.underlying tS=some (.slice e)) {size:Nat} (hz:∀w,(Go.sizeOf e).run P w=.ok size w) {a b:Addr} {la ca lb cb:Nat} (hne:a.block≠b.block) {tA tB:TypeId} {kA kB:Nat} (hsa:w.shape? a.block=some (tA,kA)) (hsb:w.shape? b.block=some (tB,kB)) (QB:w.frozen? a=false):∃r w',(Extern.SlicesOverlaps.overlaps #[tS,tS] #[tR] #[.slice (some a) la ca,.slice (some b) lb cb]).run P w=.ok (.bool r) w'∧(w'=w∨w'=w.drew):=by
 have hnb:(a.block != b.block)=true:=by simpa using hne
 have aas:(a.block == b.block)=false:=by simpa using hne
 change∃r w',Sem.run P (α:=Value) (do
  let some t:=(#[tS,tS]:Array TypeId)[0]? |stuck "slices.overlaps: no parameter types"
  let .slice elem←underlying t|stuck "slices.overlaps: slice type expected"
  let size←sizeOf elem
  match (some a:Option Addr),(some b:Option Addr) with
  |some a,some b=>
   if la=0∨lb=0∨size=0 then pure (Value.bool false)
   else if a.block != b.block&&(←frozen a)&&(←frozen b) then unsupported .addressObserved
   else do
    if a.block != b.block then do
     noView a;noView b
     if←mayBeOne a b then return Value.bool ((←choose (.extern "sameAddr.stringBytes" 2)) == 1)
    pure (Value.bool (a.block == b.block&&a.off<b.off+lb*size&&b.off<a.off+la*size))
  |_,_=>pure (Value.bool false)) w=.ok (.bool r) w'∧(w'=w∨w'=w.drew)
 by_cases h0:la=0∨lb=0∨size=0
 ·exact⟨false,w,by simp [run_underlying ht,hz,h0],.inl rfl⟩
 ·have hm:∃m,(mayBeOne a b).run P w=.ok m w:=by
   cases SK:w.frozen? b<;>cases hf2:w.frozen? ⟨a.block,kA,none⟩<;>cases hf3:w.frozen? ⟨b.block,kB,none⟩<;>cases kA<;>cases kB<;>
    exact⟨_,by simp [mayBeOne,stringish,shape,frozen,Sem.run,hsa,hsb,QB,SK,hf2,hf3];rfl⟩
  obtain⟨m,hm⟩:=hm
  cases m with
  |false=>exact⟨_,w,by simp [run_underlying ht,hz,h0,hnb,aas,frozen,noView,viewAt,shape,Sem.run,hsa,hsb,QB,hm];rfl,.inl rfl⟩
  |true=>exact⟨_,w.drew,by simp [run_underlying ht,hz,h0,hnb,aas,frozen,noView,viewAt,shape,Sem.run,hsa,hsb,QB,hm,Question.forced];rfl,.inr rfl⟩
def aa0 (P:Program) (g:Nat):Prop:=∃fn tS tR e,P.funcs[g]? =some fn∧(fn.name == "runtime.NumGoroutine")=false∧fn.body.isNone=true∧Extern.findNext fn=none∧
 Extern.find fn=some (Extern.SlicesOverlaps.overlaps #[tS,tS] #[tR])∧P.underlying tS=some (.slice e)∧(P.info? e).isSome=true
inductive XK where
 |overlaps
def Xv (P:Program):XK→Ext
 | .overlaps=>FI
def XOk (P:Program) (g:Nat):XK→Prop
 | .overlaps=>aa0 P g
def Ib (P:Program) (l:List (Nat×XK)) (g:Nat):Option Ext:=(ab l g).map (Xv P)
theorem Lr {E:kz} {l:List (Nat×XK)} (he:E.ext=Ib E.P l) (hl:∀g k,ab l g=some k→XOk E.P g k):jZ E:=by
 intro g x hx args H K hk ρ w aS hr ha;rw[he,Ib] at hx
 cases hm:ab l g with
 |none=>rw[hm] at hx;cases hx
 |some k=>
  rw[hm] at hx;simp only[Option.map_some,Option.some.injEq] at hx;subst hx;have hok:=hl g k hm
  cases k with
  |overlaps=>
  obtain⟨fn,tS,tR,e,h1,h2,h3,h4,h5,h6,h7⟩:=hok;obtain⟨di,h7⟩:=Option.isSome_iff_exists.1 h7;left;obtain⟨i,o,la,ca,j,o',lb,cb,rfl,hij,hla,hlb,⟨e1,cs1,SL,ho⟩,⟨e2,cs2,ro,I9⟩,Hb,hkf⟩:=Lq hk;obtain⟨x1,r1,xN,hx1,n5⟩:=ha.dh;obtain⟨x2,r2,xM,vD,tH⟩:=n5.dh;have Qm:=tH.gq;subst Qm;subst xM
  obtain rfl:aS= #[x1,x2]:=by
   apply Array.ext';rw[xN]
  obtain⟨b1,AB,aat,fz1,G8,pA,_,hfz⟩:=hr.wW i _ SL;obtain⟨b2,nf,acR,fz2,Ht,_⟩:=hr.wW j _ I9
  have hne:b1≠b2:=by
   intro hb;subst hb;exact hij (hr.inj i j _ _ b1 SL I9 rfl AB nf)
  rcases hx1.fh with⟨b,hb,rfl⟩|⟨h0,_⟩;rotate_left
  ·omega
  rcases vD.fh with⟨b',hb',rfl⟩|⟨h0,_⟩;rotate_left
  ·omega
  rw[AB] at hb;rw[nf] at hb';cases hb;cases hb';have hlen:aat.size=cs1.length:=by have:=pA.1;simp at this;omega
  have QB:w.frozen? ⟨b1,o,none⟩=false:=by
   simp only[World.frozen?,G8];rcases hfz rfl with h|h
   ·rw[h];by_cases hh:fz1.2≤o
    ·have:¬o<fz1.2:=by omega
     simp [this]
    ·simp [hh]
   ·have:¬fz1.1≤o:=by omega
    simp [this]
  obtain⟨r,w',hrun,hw⟩:=DK (P:=E.P) (w:=w) (tR:=tR) h6 (size:=di.size) (fun w=>by simp [sizeOf,typeInfo,h7]) (a:=⟨b1,o,none⟩) (b:=⟨b2,o',none⟩) (la:=la) (ca:=ca) (lb:=lb) (cb:=cb) hne
   (tA:=e1) (kA:=aat.size) (tB:=e2) (kB:=acR.size) (by simp [World.shape?,G8]) (by simp [World.shape?,Ht]) QB
  have hK:K (.bool r) H:=by cases r<;>assumption
  have aau:w'.heap=w.heap:=by rcases hw with rfl|rfl<;>rfl
  refine⟨.bool r,.bool r,w',H,ρ, ?_,hK,.bool _,hr.heap aau, ?_⟩
  ·rw[run_callFunc_extern h1 h2 h3 h4 h5,hrun];rfl
  ·rcases hw with rfl|rfl
   ·exact .refl ..
   ·exact⟨.refl ρ,fun _ _ _=>rfl,fun _ h=>.inl h,fun _ h=>.inl h,Nat.le_refl _,rfl,rfl,rfl⟩
end Go.Am
end
section
namespace Go.Proofs.YtlgdkndamddpkaaGreat
open Go.Am
def fz:TI:=⟨.func,1,8,some .nilFunc⟩
def tab:List TI:=[⟨.tuple [],1,0,none⟩,fz,⟨.int .i64,1,8,some (.int .i64 0)⟩,⟨.int .i64,1,8,some (.int .i64 0)⟩,⟨.bool,1,1,some (.bool false)⟩,⟨.int .u8,1,1,some (.int .u8 0)⟩,⟨.int .u8,1,1,some (.int .u8 0)⟩,⟨.struct [(0,2),(1,3),(2,4),(3,6)],4,24,some (.agg [.int .i64 0,.int .i64 0,.bool false,.int .u8 0])⟩,⟨.struct [(0,2),(1,3),(2,4),(3,6)],4,24,some (.agg [.int .i64 0,.int .i64 0,.bool false,.int .u8 0])⟩,⟨.cG,1,16,some (.cG ⟨#[]⟩)⟩,⟨.cG,1,16,some (.cG ⟨#[]⟩)⟩,⟨.cG,1,16,some (.cG ⟨#[]⟩)⟩,⟨.int .u64,1,8,some (.int .u64 0)⟩,⟨.struct [(0,9),(1,12)],2,24,some (.agg [.cG ⟨#[]⟩,.int .u64 0])⟩,⟨.struct [(0,9),(1,12)],2,24,some (.agg [.cG ⟨#[]⟩,.int .u64 0])⟩,⟨.aj 227,1,8,some (.aj none)⟩,⟨.aj 230,1,8,some (.aj none)⟩,⟨.aj 238,1,8,some (.aj none)⟩,⟨.struct [(0,17)],1,8,some (.agg [.aj none])⟩,⟨.struct [(0,17)],1,8,some (.agg [.aj none])⟩,⟨.iface,1,16,some (.nilIface)⟩,⟨.int .i32,1,4,some (.int .i32 0)⟩,⟨.slice 38,1,24,some (.slice none 0 0)⟩,fz,⟨.slice 3,1,24,some (.slice none 0 0)⟩,⟨.struct [(0,3),(1,3),(2,3),(3,24)],4,48,some (.agg [.int .i64 0,.int .i64 0,.int .i64 0,.slice none 0 0])⟩,⟨.struct [(0,3),(1,3),(2,3),(3,24)],4,48,some (.agg [.int .i64 0,.int .i64 0,.int .i64 0,.slice none 0 0])⟩,fz,⟨.aj 81,1,8,some (.aj none)⟩,⟨.int .i64,1,8,some (.int .i64 0)⟩,⟨.tuple [28,29],1,0,none⟩,fz,⟨.aj 93,1,8,some (.aj none)⟩,⟨.tuple [32,29],1,0,none⟩,fz,⟨.int .u64,1,8,some (.int .u64 0)⟩,⟨.slice 5,1,24,some (.slice none 0 0)⟩,⟨.struct [(0,5),(1,5),(2,5),(3,5),(4,5),(5,5),(6,4),(7,4),(8,36),(9,5)],10,40,some (.agg [.int .u8 0,.int .u8 0,.int .u8 0,.int .u8 0,.int .u8 0,.int .u8 0,.bool false,.bool false,.slice none 0 0,.int .u8 0])⟩,⟨.struct [(0,5),(1,5),(2,5),(3,5),(4,5),(5,5),(6,4),(7,4),(8,36),(9,5)],10,40,some (.agg [.int .u8 0,.int .u8 0,.int .u8 0,.int .u8 0,.int .u8 0,.int .u8 0,.bool false,.bool false,.slice none 0 0,.int .u8 0])⟩,⟨.int .u32,1,4,some (.int .u32 0)⟩,⟨.struct [(0,5),(1,3),(2,36),(3,4),(4,39),(5,39),(6,5),(7,4)],8,56,some (.agg [.int .u8 0,.int .i64 0,.slice none 0 0,.bool false,.int .u32 0,.int .u32 0,.int .u8 0,.bool false])⟩,⟨.struct [(0,5),(1,3),(2,36),(3,4),(4,39),(5,39),(6,5),(7,4)],8,56,some (.agg [.int .u8 0,.int .i64 0,.slice none 0 0,.bool false,.int .u32 0,.int .u32 0,.int .u8 0,.bool false])⟩,⟨.tuple [3,41],1,0,none⟩,fz,⟨.vz 8 39,8,32,some (.agg [.int .u32 0,.int .u32 0,.int .u32 0,.int .u32 0,.int .u32 0,.int .u32 0,.int .u32 0,.int .u32 0])⟩,⟨.struct [(0,44),(8,5),(9,3),(10,39),(11,4)],12,56,some (.agg [.int .u32 0,.int .u32 0,.int .u32 0,.int .u32 0,.int .u32 0,.int .u32 0,.int .u32 0,.int .u32 0,.int .u8 0,.int .i64 0,.int .u32 0,.bool false])⟩,⟨.struct [(0,44),(8,5),(9,3),(10,39),(11,4)],12,56,some (.agg [.int .u32 0,.int .u32 0,.int .u32 0,.int .u32 0,.int .u32 0,.int .u32 0,.int .u32 0,.int .u32 0,.int .u8 0,.int .i64 0,.int .u32 0,.bool false])⟩,fz,⟨.struct [(0,29),(1,36),(2,46)],14,88,some (.agg [.int .i64 0,.slice none 0 0,.int .u32 0,.int .u32 0,.int .u32 0,.int .u32 0,.int .u32 0,.int .u32 0,.int .u32 0,.int .u32 0,.int .u8 0,.int .i64 0,.int .u32 0,.bool false])⟩,⟨.struct [(0,29),(1,36),(2,46)],14,88,some (.agg [.int .i64 0,.slice none 0 0,.int .u32 0,.int .u32 0,.int .u32 0,.int .u32 0,.int .u32 0,.int .u32 0,.int .u32 0,.int .u32 0,.int .u8 0,.int .i64 0,.int .u32 0,.bool false])⟩,⟨.tuple [49,29],1,0,none⟩,fz,fz,fz,fz,⟨.aj 60,1,8,some (.aj none)⟩,fz,⟨.slice 9,1,24,some (.slice none 0 0)⟩,⟨.slice 109,1,24,some (.slice none 0 0)⟩,⟨.struct [(0,57),(1,58),(2,46)],14,104,some (.agg [.slice none 0 0,.slice none 0 0,.int .u32 0,.int .u32 0,.int .u32 0,.int .u32 0,.int .u32 0,.int .u32 0,.int .u32 0,.int .u32 0,.int .u8 0,.int .i64 0,.int .u32 0,.bool false])⟩,⟨.struct [(0,57),(1,58),(2,46)],14,104,some (.agg [.slice none 0 0,.slice none 0 0,.int .u32 0,.int .u32 0,.int .u32 0,.int .u32 0,.int .u32 0,.int .u32 0,.int .u32 0,.int .u32 0,.int .u8 0,.int .i64 0,.int .u32 0,.bool false])⟩,⟨.tuple [3,9,46],1,0,none⟩,fz,fz,fz,fz,⟨.tuple [36,29],1,0,none⟩,fz,fz,fz,fz,fz,fz,fz,fz,fz,fz,fz,⟨.slice 84,1,24,some (.slice none 0 0)⟩,fz,⟨.struct [(0,78),(1,3),(2,35),(3,3),(4,3),(5,4),(6,3),(7,79)],8,80,some (.agg [.slice none 0 0,.int .i64 0,.int .u64 0,.int .i64 0,.int .i64 0,.bool false,.int .i64 0,.nilFunc])⟩,⟨.struct [(0,78),(1,3),(2,35),(3,3),(4,3),(5,4),(6,3),(7,79)],8,80,some (.agg [.slice none 0 0,.int .i64 0,.int .u64 0,.int .i64 0,.int .i64 0,.bool false,.int .i64 0,.nilFunc])⟩,⟨.slice 36,1,24,some (.slice none 0 0)⟩,⟨.struct [(0,82),(1,3),(2,4),(3,4),(4,4),(5,3)],6,48,some (.agg [.slice none 0 0,.int .i64 0,.bool false,.bool false,.bool false,.int .i64 0])⟩,⟨.struct [(0,82),(1,3),(2,4),(3,4),(4,4),(5,3)],6,48,some (.agg [.slice none 0 0,.int .i64 0,.bool false,.bool false,.bool false,.int .i64 0])⟩,⟨.aj 120,1,8,some (.aj none)⟩,⟨.tuple [85,29],1,0,none⟩,fz,⟨.aj 91,1,8,some (.aj none)⟩,⟨.slice 138,1,24,some (.slice none 0 0)⟩,⟨.struct [(0,89)],1,24,some (.agg [.slice none 0 0])⟩,⟨.struct [(0,89)],1,24,some (.agg [.slice none 0 0])⟩,⟨.struct [(0,28),(1,26),(5,85),(6,88),(7,46),(19,4)],20,136,some (.agg [.aj none,.int .i64 0,.int .i64 0,.int .i64 0,.slice none 0 0,.aj none,.aj none,.int .u32 0,.int .u32 0,.int .u32 0,.int .u32 0,.int .u32 0,.int .u32 0,.int .u32 0,.int .u32 0,.int .u8 0,.int .i64 0,.int .u32 0,.bool false,.bool false])⟩,⟨.struct [(0,28),(1,26),(5,85),(6,88),(7,46),(19,4)],20,136,some (.agg [.aj none,.int .i64 0,.int .i64 0,.int .i64 0,.slice none 0 0,.aj none,.aj none,.int .u32 0,.int .u32 0,.int .u32 0,.int .u32 0,.int .u32 0,.int .u32 0,.int .u32 0,.int .u32 0,.int .u8 0,.int .i64 0,.int .u32 0,.bool false,.bool false])⟩,fz,⟨.tuple [46,3,29],1,0,none⟩,fz,fz,fz,fz,fz,fz,⟨.tuple [46,3],1,0,none⟩,fz,⟨.aj 84,1,8,some (.aj none)⟩,⟨.tuple [104,29],1,0,none⟩,fz,fz,⟨.struct [(0,3),(1,9)],2,24,some (.agg [.int .i64 0,.cG ⟨#[]⟩])⟩,⟨.struct [(0,3),(1,9)],2,24,some (.agg [.int .i64 0,.cG ⟨#[]⟩])⟩,⟨.aj 175,1,8,some (.aj none)⟩,⟨.map 3 130,1,8,some (.map none)⟩,⟨.struct [(0,110),(1,111),(2,35),(3,24)],4,48,some (.agg [.aj none,.map none,.int .u64 0,.slice none 0 0])⟩,⟨.struct [(0,110),(1,111),(2,35),(3,24)],4,48,some (.agg [.aj none,.map none,.int .u64 0,.slice none 0 0])⟩,⟨.tuple [113,29],1,0,none⟩,fz,⟨.aj 166,1,8,some (.aj none)⟩,⟨.tuple [116,29],1,0,none⟩,fz,⟨.struct [(0,28),(1,26),(5,35),(6,110),(7,116),(8,35)],9,88,some (.agg [.aj none,.int .i64 0,.int .i64 0,.int .i64 0,.slice none 0 0,.int .u64 0,.aj none,.aj none,.int .u64 0])⟩,⟨.struct [(0,28),(1,26),(5,35),(6,110),(7,116),(8,35)],9,88,some (.agg [.aj none,.int .i64 0,.int .i64 0,.int .i64 0,.slice none 0 0,.int .u64 0,.aj none,.aj none,.int .u64 0])⟩,fz,fz,fz,fz,⟨.struct [(0,5),(1,35),(2,35),(3,3),(4,3),(5,36)],6,64,some (.agg [.int .u8 0,.int .u64 0,.int .u64 0,.int .i64 0,.int .i64 0,.slice none 0 0])⟩,⟨.struct [(0,5),(1,35),(2,35),(3,3),(4,3),(5,36)],6,64,some (.agg [.int .u8 0,.int .u64 0,.int .u64 0,.int .i64 0,.int .i64 0,.slice none 0 0])⟩,⟨.struct [(0,3),(1,3)],2,16,some (.agg [.int .i64 0,.int .i64 0])⟩,⟨.struct [(0,3),(1,3)],2,16,some (.agg [.int .i64 0,.int .i64 0])⟩,⟨.struct [(0,128),(2,126)],8,80,some (.agg [.int .i64 0,.int .i64 0,.int .u8 0,.int .u64 0,.int .u64 0,.int .i64 0,.int .i64 0,.slice none 0 0])⟩,⟨.struct [(0,128),(2,126)],8,80,some (.agg [.int .i64 0,.int .i64 0,.int .u8 0,.int .u64 0,.int .u64 0,.int .i64 0,.int .i64 0,.slice none 0 0])⟩,⟨.tuple [126,29],1,0,none⟩,fz,⟨.aj 182,1,8,some (.aj none)⟩,fz,fz,fz,⟨.struct [(0,3),(1,36),(2,4)],3,40,some (.agg [.int .i64 0,.slice none 0 0,.bool false])⟩,⟨.struct [(0,3),(1,36),(2,4)],3,40,some (.agg [.int .i64 0,.slice none 0 0,.bool false])⟩,⟨.tuple [138,4],1,0,none⟩,fz,fz,⟨.tuple [46,29],1,0,none⟩,fz,fz,fz,fz,fz,fz,fz,fz,fz,fz,fz,fz,⟨.tuple [110,29],1,0,none⟩,fz,⟨.map 3 158,1,8,some (.map none)⟩,⟨.slice 130,1,24,some (.slice none 0 0)⟩,⟨.tuple [158,29],1,0,none⟩,fz,fz,⟨.tuple [130,4],1,0,none⟩,fz,⟨.map 3 5,1,8,some (.map none)⟩,⟨.struct [(0,24),(1,164)],2,32,some (.agg [.slice none 0 0,.map none])⟩,⟨.struct [(0,24),(1,164)],2,32,some (.agg [.slice none 0 0,.map none])⟩,fz,fz,⟨.tuple [5,4],1,0,none⟩,⟨.tuple [3,4],1,0,none⟩,fz,⟨.slice 128,1,24,some (.slice none 0 0)⟩,⟨.slice 4,1,24,some (.slice none 0 0)⟩,⟨.struct [(0,172),(1,173),(2,24)],3,72,some (.agg [.slice none 0 0,.slice none 0 0,.slice none 0 0])⟩,⟨.struct [(0,172),(1,173),(2,24)],3,72,some (.agg [.slice none 0 0,.slice none 0 0,.slice none 0 0])⟩,fz,⟨.vz 32 3,32,256,some (.agg [.int .i64 0,.int .i64 0,.int .i64 0,.int .i64 0,.int .i64 0,.int .i64 0,.int .i64 0,.int .i64 0,.int .i64 0,.int .i64 0,.int .i64 0,.int .i64 0,.int .i64 0,.int .i64 0,.int .i64 0,.int .i64 0,.int .i64 0,.int .i64 0,.int .i64 0,.int .i64 0,.int .i64 0,.int .i64 0,.int .i64 0,.int .i64 0,.int .i64 0,.int .i64 0,.int .i64 0,.int .i64 0,.int .i64 0,.int .i64 0,.int .i64 0,.int .i64 0])⟩,⟨.tuple [128,4],1,0,none⟩,fz,fz,⟨.struct [(0,36),(1,4)],2,32,some (.agg [.slice none 0 0,.bool false])⟩,⟨.struct [(0,36),(1,4)],2,32,some (.agg [.slice none 0 0,.bool false])⟩,fz,fz,fz,fz,fz,fz,fz,fz,fz,fz,⟨.tuple [4,4],1,0,none⟩,fz,fz,fz,fz,⟨.vz 6 5,6,6,some (.agg [.int .u8 0,.int .u8 0,.int .u8 0,.int .u8 0,.int .u8 0,.int .u8 0])⟩,fz,fz,fz,fz,fz,⟨.tuple [3,29],1,0,none⟩,fz,fz,fz,fz,fz,⟨.int .u64,1,8,some (.int .u64 0)⟩,fz,fz,fz,fz,fz,fz,fz,fz,⟨.tuple [210,210],1,0,none⟩,fz,⟨.tuple [39,39],1,0,none⟩,fz,⟨.tuple [35,35],1,0,none⟩,fz,fz,⟨.struct [(0,17),(1,17),(2,17),(3,9)],4,40,some (.agg [.aj none,.aj none,.aj none,.cG ⟨#[]⟩])⟩,⟨.struct [(0,17),(1,17),(2,17),(3,9)],4,40,some (.agg [.aj none,.aj none,.aj none,.cG ⟨#[]⟩])⟩,⟨.vz 0 16,0,0,some (.agg [])⟩,⟨.struct [(0,228)],0,0,some (.agg [])⟩,⟨.struct [(0,228)],0,0,some (.agg [])⟩,⟨.int .u8,1,1,some (.int .u8 0)⟩,⟨.int .u8,1,1,some (.int .u8 0)⟩,fz,⟨.aj 5,1,8,some (.aj none)⟩,⟨.int .i32,1,4,some (.int .i32 0)⟩,⟨.int .i32,1,4,some (.int .i32 0)⟩,⟨.struct [(0,12),(1,12),(2,39),(3,231),(4,5),(5,5),(6,232),(7,233),(8,234),(9,235),(10,236)],11,48,some (.agg [.int .u64 0,.int .u64 0,.int .u32 0,.int .u8 0,.int .u8 0,.int .u8 0,.int .u8 0,.nilFunc,.aj none,.int .i32 0,.int .i32 0])⟩,⟨.struct [(0,12),(1,12),(2,39),(3,231),(4,5),(5,5),(6,232),(7,233),(8,234),(9,235),(10,236)],11,48,some (.agg [.int .u64 0,.int .u64 0,.int .u32 0,.int .u8 0,.int .u8 0,.int .u8 0,.int .u8 0,.nilFunc,.aj none,.int .i32 0,.int .i32 0])⟩,⟨.mn,1,8,some (.aj none)⟩]
theorem T5:(List.range 240).map (QU Tryz.prog)=tab.map some:=by kernel_rfl
def k7:List cg:=[.int .i64,.int .i64,.bool,.int .u8]
def c7 (a b:Int) (c:Bool) (d:Int):List V:=[.int .i64 a,.int .i64 b,.bool c,.int .u8 d]
@[simp] theorem f7 (a:Int) (b:Int) (c:Bool) (d:Int):Am.aI k7 (c7 a b c d)=true:=rfl
def Bj:List cg:=[.int .i64,.int .i64,.int .i64,.slice]
def dS (a b c:Int) (d:Oq) (e f:Nat):List V:=[.int .i64 a,.int .i64 b,.int .i64 c,.slice d e f]
def tK (l:List V):List V:=dS (ae l 0).aa (ae l 1).aa (ae l 2).aa (ae l 3).au (ae l 3).ax (ae l 3).aC
@[simp] theorem f25 (a:Int) (b:Int) (c:Int) (d:Oq) (e:Nat) (f:Nat):Am.aI Bj (dS a b c d e f)=true:=rfl
@[simp] theorem uH (a b c d e f):tK (dS a b c d e f)=dS a b c d e f:=rfl
@[simp] theorem mC (a b c d e f):ae (dS a b c d e f) 0=.int .i64 a:=rfl
@[simp] theorem mD (a b c d e f):ae (dS a b c d e f) 1=.int .i64 b:=rfl
@[simp] theorem mE (a b c d e f):ae (dS a b c d e f) 2=.int .i64 c:=rfl
@[simp] theorem mF (a b c d e f):ae (dS a b c d e f) 3=.slice d e f:=rfl
def k37:List cg:=[.int .u8,.int .u8,.int .u8,.int .u8,.int .u8,.int .u8,.bool,.bool,.slice,.int .u8]
def c37 (a b c d e f:Int) (g h:Bool) (i:Oq) (j l:Nat) (m:Int):List V:=[.int .u8 a,.int .u8 b,.int .u8 c,.int .u8 d,.int .u8 e,.int .u8 f,.bool g,.bool h,.slice i j l,.int .u8 m]
def o37 (l:List V):List V:=c37 (ae l 0).aa (ae l 1).aa (ae l 2).aa (ae l 3).aa (ae l 4).aa (ae l 5).aa (ae l 6).an (ae l 7).an (ae l 8).au (ae l 8).ax (ae l 8).aC (ae l 9).aa
def T6:List cg:=[.int .u8,.int .i64,.slice,.bool,.int .u32,.int .u32,.int .u8,.bool]
def je (a b:Int) (c:Oq) (d e:Nat) (f:Bool) (g h i:Int) (j:Bool):List V:=[.int .u8 a,.int .i64 b,.slice c d e,.bool f,.int .u32 g,.int .u32 h,.int .u8 i,.bool j]
def T7 (l:List V):List V:=je (ae l 0).aa (ae l 1).aa (ae l 2).au (ae l 2).ax (ae l 2).aC (ae l 3).an (ae l 4).aa (ae l 5).aa (ae l 6).aa (ae l 7).an
@[simp] theorem f40 (a:Int) (b:Int) (c:Oq) (d:Nat) (e:Nat) (f:Bool) (g:Int) (h:Int) (i:Int) (j:Bool):Am.aI T6 (je a b c d e f g h i j)=true:=rfl
@[simp] theorem aa1 (a b c d e f g h i j):T7 (je a b c d e f g h i j)=je a b c d e f g h i j:=rfl
@[simp] theorem Xw (a b c d e f g h i j):ae (je a b c d e f g h i j) 0=.int .u8 a:=rfl
@[simp] theorem Xx (a b c d e f g h i j):ae (je a b c d e f g h i j) 1=.int .i64 b:=rfl
@[simp] theorem Xy (a b c d e f g h i j):ae (je a b c d e f g h i j) 2=.slice c d e:=rfl
@[simp] theorem Xz (a b c d e f g h i j):ae (je a b c d e f g h i j) 3=.bool f:=rfl
@[simp] theorem XA (a b c d e f g h i j):ae (je a b c d e f g h i j) 4=.int .u32 g:=rfl
@[simp] theorem XB (a b c d e f g h i j):ae (je a b c d e f g h i j) 5=.int .u32 h:=rfl
@[simp] theorem XC (a b c d e f g h i j):ae (je a b c d e f g h i j) 6=.int .u8 i:=rfl
@[simp] theorem XD (a b c d e f g h i j):ae (je a b c d e f g h i j) 7=.bool j:=rfl
def xe (a b c d e f g h:Int):List V:=[.int .u32 a,.int .u32 b,.int .u32 c,.int .u32 d,.int .u32 e,.int .u32 f,.int .u32 g,.int .u32 h]
def jo:List cg:=[.int .u32,.int .u32,.int .u32,.int .u32,.int .u32,.int .u32,.int .u32,.int .u32,.int .u8,.int .i64,.int .u32,.bool]
def bE (a b c d e f g h i j l:Int) (m:Bool):List V:=[.int .u32 a,.int .u32 b,.int .u32 c,.int .u32 d,.int .u32 e,.int .u32 f,.int .u32 g,.int .u32 h,.int .u8 i,.int .i64 j,.int .u32 l,.bool m]
def jC (l:List V):List V:=bE (ae l 0).aa (ae l 1).aa (ae l 2).aa (ae l 3).aa (ae l 4).aa (ae l 5).aa (ae l 6).aa (ae l 7).aa (ae l 8).aa (ae l 9).aa (ae l 10).aa (ae l 11).an
@[simp] theorem f45 (a:Int) (b:Int) (c:Int) (d:Int) (e:Int) (f:Int) (g:Int) (h:Int) (i:Int) (j:Int) (l:Int) (m:Bool):Am.aI jo (bE a b c d e f g h i j l m)=true:=rfl
@[simp] theorem T8 (a b c d e f g h i j l m):jC (bE a b c d e f g h i j l m)=bE a b c d e f g h i j l m:=rfl
@[simp] theorem NJ (a b c d e f g h i j l m):ae (bE a b c d e f g h i j l m) 0=.int .u32 a:=rfl
@[simp] theorem NK (a b c d e f g h i j l m):ae (bE a b c d e f g h i j l m) 1=.int .u32 b:=rfl
@[simp] theorem NL (a b c d e f g h i j l m):ae (bE a b c d e f g h i j l m) 2=.int .u32 c:=rfl
@[simp] theorem NM (a b c d e f g h i j l m):ae (bE a b c d e f g h i j l m) 3=.int .u32 d:=rfl
@[simp] theorem NN (a b c d e f g h i j l m):ae (bE a b c d e f g h i j l m) 4=.int .u32 e:=rfl
@[simp] theorem NO (a b c d e f g h i j l m):ae (bE a b c d e f g h i j l m) 5=.int .u32 f:=rfl
@[simp] theorem NP (a b c d e f g h i j l m):ae (bE a b c d e f g h i j l m) 6=.int .u32 g:=rfl
@[simp] theorem NR (a b c d e f g h i j l m):ae (bE a b c d e f g h i j l m) 7=.int .u32 h:=rfl
@[simp] theorem NS (a b c d e f g h i j l m):ae (bE a b c d e f g h i j l m) 8=.int .u8 i:=rfl
@[simp] theorem NT (a b c d e f g h i j l m):ae (bE a b c d e f g h i j l m) 9=.int .i64 j:=rfl
@[simp] theorem Ic (a b c d e f g h i j l m):ae (bE a b c d e f g h i j l m) 10=.int .u32 l:=rfl
@[simp] theorem Ie (a b c d e f g h i j l m):ae (bE a b c d e f g h i j l m) 11=.bool m:=rfl
def S8:List cg:=[.int .i64,.slice,.int .u32,.int .u32,.int .u32,.int .u32,.int .u32,.int .u32,.int .u32,.int .u32,.int .u8,.int .i64,.int .u32,.bool]
def DL (a:Int) (b:Oq) (c d:Nat) (e f g h i j l m o p q:Int) (r:Bool):List V:=[.int .i64 a,.slice b c d,.int .u32 e,.int .u32 f,.int .u32 g,.int .u32 h,.int .u32 i,.int .u32 j,.int .u32 l,.int .u32 m,.int .u8 o,.int .i64 p,.int .u32 q,.bool r]
def o48 (l:List V):List V:=DL (ae l 0).aa (ae l 1).au (ae l 1).ax (ae l 1).aC (ae l 2).aa (ae l 3).aa (ae l 4).aa (ae l 5).aa (ae l 6).aa (ae l 7).aa (ae l 8).aa (ae l 9).aa (ae l 10).aa (ae l 11).aa (ae l 12).aa (ae l 13).an
def c59 (a:Oq) (b c:Nat) (d:Oq) (e f:Nat) (g h i j l m o p q r s:Int) (t:Bool):List V:=[.slice a b c,.slice d e f,.int .u32 g,.int .u32 h,.int .u32 i,.int .u32 j,.int .u32 l,.int .u32 m,.int .u32 o,.int .u32 p,.int .u8 q,.int .i64 r,.int .u32 s,.bool t]
def c80 (a:Oq) (b c:Nat) (d e f g:Int) (h:Bool) (i:Int) (j:V):List V:=[.slice a b c,.int .i64 d,.int .u64 e,.int .i64 f,.int .i64 g,.bool h,.int .i64 i,j]
def k83:List cg:=[.slice,.int .i64,.bool,.bool,.bool,.int .i64]
def S9 (a:Oq) (b c:Nat) (d:Int) (e f g:Bool) (h:Int):List V:=[.slice a b c,.int .i64 d,.bool e,.bool f,.bool g,.int .i64 h]
def c92 (a:Oq) (b c d:Int) (e:Oq) (f g:Nat) (h i:Oq) (j l m o p q r s t u v:Int) (w x:Bool):List V:=[.aj a,.int .i64 b,.int .i64 c,.int .i64 d,.slice e f g,.aj h,.aj i,.int .u32 j,.int .u32 l,.int .u32 m,.int .u32 o,.int .u32 p,.int .u32 q,.int .u32 r,.int .u32 s,.int .u8 t,.int .i64 u,.int .u32 v,.bool w,.bool x]
def T9:List cg:=[.int .i64,.cG]
def Ig (a:Int) (b:ByteArray):List V:=[.int .i64 a,.cG b]
def XE (l:List V):List V:=Ig (ae l 0).aa (ae l 1).jt
@[simp] theorem f108 (a:Int) (b:ByteArray):Am.aI T9 (Ig a b)=true:=rfl
def nE:List cg:=[.aj,.map,.int .u64,.slice]
def cT (a:Oq) (b:Option Nat) (c:Int) (d:Oq) (e f:Nat):List V:=[.aj a,.map b,.int .u64 c,.slice d e f]
def qd (l:List V):List V:=cT (ae l 0).ay (ae l 1).cM (ae l 2).aa (ae l 3).au (ae l 3).ax (ae l 3).aC
@[simp] theorem f112 (a:Oq) (b:Option Nat) (c:Int) (d:Oq) (e:Nat) (f:Nat):Am.aI nE (cT a b c d e f)=true:=rfl
@[simp] theorem xf (a b c d e f):qd (cT a b c d e f)=cT a b c d e f:=rfl
@[simp] theorem qe (a b c d e f):ae (cT a b c d e f) 0=.aj a:=rfl
@[simp] theorem qf (a b c d e f):ae (cT a b c d e f) 1=.map b:=rfl
@[simp] theorem qg (a b c d e f):ae (cT a b c d e f) 2=.int .u64 c:=rfl
@[simp] theorem qh (a b c d e f):ae (cT a b c d e f) 3=.slice d e f:=rfl
def Ua (a:Oq) (b c d:Int) (e:Oq) (f g:Nat) (h:Int) (i j:Oq) (l:Int):List V:=[.aj a,.int .i64 b,.int .i64 c,.int .i64 d,.slice e f g,.int .u64 h,.aj i,.aj j,.int .u64 l]
def NU:List cg:=[.int .u8,.int .u64,.int .u64,.int .i64,.int .i64,.slice]
def fA (a b c d e:Int) (f:Oq) (g h:Nat):List V:=[.int .u8 a,.int .u64 b,.int .u64 c,.int .i64 d,.int .i64 e,.slice f g h]
def XF (l:List V):List V:=fA (ae l 0).aa (ae l 1).aa (ae l 2).aa (ae l 3).aa (ae l 4).aa (ae l 5).au (ae l 5).ax (ae l 5).aC
@[simp] theorem f125 (a:Int) (b:Int) (c:Int) (d:Int) (e:Int) (f:Oq) (g:Nat) (h:Nat):Am.aI NU (fA a b c d e f g h)=true:=rfl
@[simp] theorem FJ (a b c d e f g h):XF (fA a b c d e f g h)=fA a b c d e f g h:=rfl
@[simp] theorem zl (a b c d e f g h):ae (fA a b c d e f g h) 0=.int .u8 a:=rfl
@[simp] theorem zm (a b c d e f g h):ae (fA a b c d e f g h) 1=.int .u64 b:=rfl
@[simp] theorem zn (a b c d e f g h):ae (fA a b c d e f g h) 2=.int .u64 c:=rfl
@[simp] theorem zo (a b c d e f g h):ae (fA a b c d e f g h) 3=.int .i64 d:=rfl
@[simp] theorem zp (a b c d e f g h):ae (fA a b c d e f g h) 4=.int .i64 e:=rfl
@[simp] theorem zq (a b c d e f g h):ae (fA a b c d e f g h) 5=.slice f g h:=rfl
def Ih:List cg:=[.int .i64,.int .i64]
def jh (a b:Int):List V:=[.int .i64 a,.int .i64 b]
def Rk (l:List V):List V:=jh (ae l 0).aa (ae l 1).aa
@[simp] theorem f127 (a:Int) (b:Int):Am.aI Ih (jh a b)=true:=rfl
@[simp] theorem BU (a b):Rk (jh a b)=jh a b:=rfl
@[simp] theorem vV (a b):ae (jh a b) 0=.int .i64 a:=rfl
@[simp] theorem vW (a b):ae (jh a b) 1=.int .i64 b:=rfl
def pn:List cg:=[.int .i64,.int .i64,.int .u8,.int .u64,.int .u64,.int .i64,.int .i64,.slice]
def kS (a b c d e f g:Int) (h:Oq) (i j:Nat):List V:=[.int .i64 a,.int .i64 b,.int .u8 c,.int .u64 d,.int .u64 e,.int .i64 f,.int .i64 g,.slice h i j]
def Ls (l:List V):List V:=kS (ae l 0).aa (ae l 1).aa (ae l 2).aa (ae l 3).aa (ae l 4).aa (ae l 5).aa (ae l 6).aa (ae l 7).au (ae l 7).ax (ae l 7).aC
def rM:List cg:=[.int .i64,.slice,.bool]
def gh (a:Int) (b:Oq) (c d:Nat) (e:Bool):List V:=[.int .i64 a,.slice b c d,.bool e]
def vX (l:List V):List V:=gh (ae l 0).aa (ae l 1).au (ae l 1).ax (ae l 1).aC (ae l 2).an
@[simp] theorem f137 (a:Int) (b:Oq) (c:Nat) (d:Nat) (e:Bool):Am.aI rM (gh a b c d e)=true:=rfl
def Lt (a:Oq) (b c:Nat) (d:Option Nat):List V:=[.slice a b c,.map d]
def Bl (a:Oq) (b c:Nat) (d:Oq) (e f:Nat) (g:Oq) (h i:Nat):List V:=[.slice a b c,.slice d e f,.slice g h i]
def XG:List cg:=[.int .i64,.int .i64,.int .i64,.int .i64,.int .i64,.int .i64,.int .i64,.int .i64,.int .i64,.int .i64,.int .i64,.int .i64,.int .i64,.int .i64,.int .i64,.int .i64,.int .i64,.int .i64,.int .i64,.int .i64,.int .i64,.int .i64,.int .i64,.int .i64,.int .i64,.int .i64,.int .i64,.int .i64,.int .i64,.int .i64,.int .i64,.int .i64]
def vY (a b c d e f g h i j l m o p q r s t u v w x y z A B C D E F G H:Int):List V:=[.int .i64 a,.int .i64 b,.int .i64 c,.int .i64 d,.int .i64 e,.int .i64 f,.int .i64 g,.int .i64 h,.int .i64 i,.int .i64 j,.int .i64 l,.int .i64 m,.int .i64 o,.int .i64 p,.int .i64 q,.int .i64 r,.int .i64 s,.int .i64 t,.int .i64 u,.int .i64 v,.int .i64 w,.int .i64 x,.int .i64 y,.int .i64 z,.int .i64 A,.int .i64 B,.int .i64 C,.int .i64 D,.int .i64 E,.int .i64 F,.int .i64 G,.int .i64 H]
def aa2 (l:List V):List V:=vY (ae l 0).aa (ae l 1).aa (ae l 2).aa (ae l 3).aa (ae l 4).aa (ae l 5).aa (ae l 6).aa (ae l 7).aa (ae l 8).aa (ae l 9).aa (ae l 10).aa (ae l 11).aa (ae l 12).aa (ae l 13).aa (ae l 14).aa (ae l 15).aa (ae l 16).aa (ae l 17).aa (ae l 18).aa (ae l 19).aa (ae l 20).aa (ae l 21).aa (ae l 22).aa (ae l 23).aa (ae l 24).aa (ae l 25).aa (ae l 26).aa (ae l 27).aa (ae l 28).aa (ae l 29).aa (ae l 30).aa (ae l 31).aa
def Bm (a:Oq) (b c:Nat) (d:Bool):List V:=[.slice a b c,.bool d]
def aa3:List cg:=[.int .u8,.int .u8,.int .u8,.int .u8,.int .u8,.int .u8]
def nF (a b c d e f:Int):List V:=[.int .u8 a,.int .u8 b,.int .u8 c,.int .u8 d,.int .u8 e,.int .u8 f]
def aa4 (l:List V):List V:=nF (ae l 0).aa (ae l 1).aa (ae l 2).aa (ae l 3).aa (ae l 4).aa (ae l 5).aa
def eqs:List (TypeId×List cg):=[(46,[.int .u32,.int .u32,.int .u32,.int .u32,.int .u32,.int .u32,.int .u32,.int .u32,.int .u8,.int .i64,.int .u32,.bool]),(44,[.int .u32,.int .u32,.int .u32,.int .u32,.int .u32,.int .u32,.int .u32,.int .u32])]
theorem Ub:eqs.all (fun x=>K8 Tryz.prog x.1 x.2)=true:=by kernel_rfl
theorem yY:Tryz.prog.funcs.toList.all (fun fn=> !(fn.name == "runtime.NumGoroutine"))=true:=by kernel_rfl
def aa5:bQ:={aX:=[7,13,15,16,21],aV:=[(7,7),(27,7),(29,7),(31,7),(13,13),(56,13),(60,13),(61,13),(15,15),(16,16),(111,16),(113,16),(21,21)],bg:=[(8,{cV:=[1,2,7,8,10,12],vA:=[7],cn:=[(2,.k (.bool)),(7,.lp 7),(8,.k (.aj)),(10,.k (.aj))],gZ:=[(7,26,[.int .i64,.int .i64,.int .i64,.slice])],cC:=[0]}),(9,{cV:=[49],mg:=true,wT:=[42,43,44,45,46,47,48], }),(19,{dl:=true,wT:=[76,77], }),(24,{cn:=[(103,.k (.bool))],dl:=true,wT:=[92,93,94,95,96,97,98,99,100,101,102,103], })], }
def aa6:bQ:={aX:=[7,9,18,19,23],aV:=[(7,7),(27,7),(9,9),(36,9),(38,9),(40,9),(18,18),(19,19),(23,23)],bg:=[(1,{cV:=[31],mg:=true,wT:=[24,25,26,27,28,29,30], }),(10,{cV:=[1,2,7,12,13,15,16],vA:=[7],cn:=[(2,.k (.int .i64)),(7,.lp 7),(12,.k (.int .i64)),(13,.k (.aj)),(15,.k (.aj))],gZ:=[(7,41,[.int .u8,.int .i64,.slice,.bool,.int .u32,.int .u32,.int .u8,.bool])],cC:=[0]}),(11,{cV:=[62],mg:=true,wT:=[55,56,57,58,59,60,61], })], }
def XH:bQ:={aX:=[1,7],aV:=[(1,1),(11,1),(13,1),(15,1),(7,7),(60,7)], }
def XI:bQ:={aX:=[2,3],aV:=[(2,2),(3,3),(18,3),(23,3),(28,3),(32,3)],bg:=[(2,{cV:=[21],mg:=true,wT:=[14,15,16,17,18,19,20], }),(3,{gZ:=[(3,26,[.int .i64,.int .i64,.int .i64,.slice])],dl:=true,wT:=[22,23],wL:=[3]}),(5,{cV:=[31],mg:=true,wT:=[24,25,26,27,28,29,30], })], }
def XJ:bQ:={bg:=[(1,{cV:=[24],mg:=true,wT:=[11,12,13,14,15,16,17,18,19,20,21,22,23], }),(6,{cV:=[0,8,30,31,32],cn:=[(8,.k (.aj))],mN:=[(6,.k (.aj)),(7,.k (.int .i64))],cC:=[0]}),(10,{cV:=[42],mg:=true,wT:=[36,37,38,39,40,41], })], }
def XL:bQ:={aX:=[4,12],aV:=[(4,4),(12,12)],bg:=[(8,{cn:=[(10,.k (.aj))],dl:=true,wT:=[10,27,28,29,30,31,32,33,34], })], }
def XM:bQ:={aX:=[3,4,7,11],aV:=[(3,3),(12,3),(19,3),(24,3),(29,3),(31,3),(33,3),(37,3),(42,3),(48,3),(55,3),(59,3),(4,4),(51,4),(52,4),(7,7),(11,11),(54,11),(61,11)],bg:=[(6,{gZ:=[(11,41,[.int .u8,.int .i64,.slice,.bool,.int .u32,.int .u32,.int .u8,.bool])],dl:=true,wT:=[50,51,52,53,54],wL:=[11]})], }
def XN:bQ:={aX:=[2],aV:=[(2,2)], }
def XO:bQ:={aX:=[5,6,9],aV:=[(5,5),(6,6),(9,9),(39,9)],bg:=[(9,{cV:=[32],mg:=true,wT:=[27,28,29,30,31], })], }
def XP:bQ:={bg:=[(5,{dl:=true,wT:=[12,13,14,15,16,17], })], }
def XQ:bQ:={aX:=[1],aV:=[(1,1),(3,1),(9,1),(11,1),(15,1)], }
def XR:bQ:={}
def XS:bQ:={aX:=[5,8,9],aV:=[(5,5),(30,5),(51,5),(58,5),(60,5),(63,5),(69,5),(71,5),(8,8),(9,9)], }
def XT:bQ:={aX:=[4,7],aV:=[(4,4),(9,4),(14,4),(21,4),(7,7)], }
def XU:bQ:={aX:=[9],aV:=[(9,9),(56,9),(61,9)],bg:=[(1,{cn:=[(27,.k (.bool))],dl:=true,wT:=[11,12,13,14,15,16,17,18,19,20,21,22,23,24,25,26,27], }),(5,{cV:=[0,1,2,7],mN:=[(6,.k (.bool))],cC:=[0]}),(9,{cV:=[0,1,2,7,8],cn:=[(0,.k (.aj)),(1,.k (.aj)),(2,.k (.int .i64)),(7,.k (.int .i64))],mN:=[(6,.k (.bool))],cC:=[2]}),(15,{cn:=[(68,.k (.bool))],dl:=true,wT:=[53,54,55,56,57,58,59,60,61,62,63,64,65,66,67,68], })], }
def XV:bQ:={bg:=[(5,{cV:=[20],mg:=true,wT:=[21,22,23,24,25,26,27,28,29,30], })], }
def XW:bQ:={}
def XX:bQ:={}
def XY:bQ:={bg:=[(0,{cV:=[0],cC:=[0]})], }
def XZ:bQ:={aX:=[1],aV:=[(1,1),(8,1),(14,1),(22,1)],bg:=[(3,{cV:=[1,3,4],vA:=[1],cn:=[(3,.k (.slice))],cC:=[0]}),(8,{cV:=[1,3,4,5,6],vA:=[1],cn:=[(1,.lp 1),(3,.k (.slice)),(4,.k (.int .i64)),(5,.k (.bool))],gZ:=[(1,26,[.int .i64,.int .i64,.int .i64,.slice])],cC:=[2]}),(11,{cV:=[5],mg:=true,wT:=[20,21,22,23,24,25,26,27,28,29], })], }
def X0:bQ:={bg:=[(2,{cV:=[0,2,3],cn:=[(0,.k (.aj)),(2,.k (.int .i64))],cC:=[0]})], }
def X1:bQ:={}
def X2:bQ:={aX:=[4,8],aV:=[(4,4),(105,4),(8,8),(45,8),(48,8),(96,8)],bg:=[(1,{cV:=[26],mg:=true,wT:=[21,22,23,24,25], }),(12,{cV:=[0,4,8,10,12,13,14,53,54,55],vA:=[4,8],cn:=[(10,.k (.aj)),(12,.k (.aj)),(14,.k (.int .i64))],mN:=[(6,.k (.aj)),(7,.k (.int .i64))],cC:=[0]}),(29,{cV:=[0,4,8,10,12,13,14,16,53,54,55,90,91,92],vA:=[4,8],cn:=[(0,.k (.aj)),(4,.lp 4),(8,.lp 8),(10,.k (.aj)),(12,.k (.aj)),(13,.k (.int .u64)),(14,.k (.int .i64)),(53,.k (.slice)),(54,.k (.int .i64)),(55,.k (.int .i64))],gZ:=[(4,26,[.int .i64,.int .i64,.int .i64,.slice]),(8,113,[.aj,.map,.int .u64,.slice])],cC:=[2]}),(34,{cV:=[112],mg:=true,wT:=[102,103,104,105,106,107,108,109,110,111], })], }
def X3:bQ:={aX:=[0],aV:=[(0,0)], }
def X4:bQ:={aX:=[7],aV:=[(7,7),(24,7)], }
def X5:bQ:={aX:=[1],aV:=[(1,1)], }
def X6:bQ:={aX:=[2,6],aV:=[(2,2),(6,6),(18,6),(19,6),(28,6),(29,6),(36,6),(37,6)],bg:=[(4,{cV:=[2,5,6,11],vA:=[2,6],cn:=[(2,.lp 2),(5,.k (.aj)),(6,.lp 6)],gZ:=[(2,46,[.int .u32,.int .u32,.int .u32,.int .u32,.int .u32,.int .u32,.int .u32,.int .u32,.int .u8,.int .i64,.int .u32,.bool]),(6,46,[.int .u32,.int .u32,.int .u32,.int .u32,.int .u32,.int .u32,.int .u32,.int .u32,.int .u8,.int .i64,.int .u32,.bool])],cC:=[0]}),(13,{cn:=[(48,.k (.bool))],dl:=true,wT:=[41,42,43,44,45,46,47,48], })], }
def X7:bQ:={aX:=[3,6],aV:=[(3,3),(11,3),(15,3),(6,6)], }
def X8:bQ:={}
def X9:bQ:={bg:=[(5,{cn:=[(13,.k (.bool))],dl:=true,wT:=[13,14,15,16,17,18,19,20,21,22,23,24,25,26,27,28,29,30], })], }
def Ya:bQ:={aX:=[5,6,8,12],aV:=[(5,5),(36,5),(45,5),(59,5),(71,5),(73,5),(76,5),(83,5),(86,5),(6,6),(8,8),(51,8),(12,12)],bg:=[(29,{cV:=[120],mg:=true,wT:=[111,112,113,114,115,116,117,118,119], }),(32,{cn:=[(14,.k (.int .i64))],dl:=true,wT:=[14,123,124,125,126,127,128,129,130,131,132,133,134,135,136,137,138,139], })], }
def Yb:bQ:={aX:=[4],aV:=[(4,4),(14,4),(18,4),(22,4),(26,4),(32,4),(36,4)],bg:=[(1,{cV:=[17],mg:=true,wT:=[7,8,9,10,11,12,13,14,15,16], }),(4,{cV:=[31],mg:=true,wT:=[18,19,20,21,22,23,24,25,26,27,28,29,30], }),(7,{cV:=[6],mg:=true,wT:=[32,33,34,35,36,37,38,39,40], })], }
def Yc:bQ:={aX:=[3,5],aV:=[(3,3),(5,5),(7,5),(12,5)], }
def Yd:bQ:={bg:=[(2,{cV:=[0,1,5],cn:=[(0,.k (.aj)),(1,.k (.int .i64))],mN:=[(4,.k (.cG))],cC:=[0]})], }
def Ye:bQ:={bg:=[(2,{cV:=[0,1,2,3,8,9],cn:=[(0,.k (.aj)),(1,.k (.int .i64)),(2,.k (.cG)),(3,.k (.bool)),(8,.k (.bool))],cC:=[0]}),(5,{cV:=[8],mg:=true,wT:=[19,20,21,22,23,24,25,26,27,28,29,30,31], }),(7,{cV:=[45],mg:=true,wT:=[32,33,34,35,36,37,38,39,40,41,42,43,44], }),(8,{dl:=true,wT:=[46,47], })], }
def Yf:bQ:={aX:=[3,5,6,8],aV:=[(3,3),(53,3),(54,3),(188,3),(202,3),(210,3),(229,3),(75,3),(80,3),(89,3),(93,3),(100,3),(101,3),(117,3),(118,3),(128,3),(129,3),(143,3),(147,3),(5,5),(20,5),(25,5),(30,5),(34,5),(39,5),(44,5),(50,5),(58,5),(62,5),(69,5),(176,5),(180,5),(184,5),(207,5),(212,5),(231,5),(71,5),(85,5),(103,5),(123,5),(131,5),(167,5),(6,6),(8,8),(172,8),(175,8),(178,8),(182,8),(183,8),(244,8),(245,8),(248,8),(251,8),(137,8),(138,8),(160,8),(163,8)],bg:=[(1,{cV:=[28],mg:=true,wT:=[13,14,15,16,17,18,19,20,21,22,23,24,25,26,27], }),(4,{cn:=[(48,.k (.bool))],dl:=true,wT:=[30,31,32,33,34,35,36,37,38,39,40,41,42,43,44,45,46,47,48], }),(7,{cV:=[66],mg:=true,wT:=[50,51,52,53,54,55,56,57,58,59,60,61,62,63,64,65], }),(17,{cn:=[(197,.k (.bool))],dl:=true,wT:=[184,185,186,187,188,189,190,191,192,193,194,195,196,197], }),(25,{cn:=[(220,.k (.bool))],dl:=true,wT:=[210,211,212,213,214,215,216,217,218,219,220], }),(40,{cV:=[6,8,9],vA:=[6,8],cn:=[(6,.lp 6),(8,.lp 8)],gZ:=[(6,46,[.int .u32,.int .u32,.int .u32,.int .u32,.int .u32,.int .u32,.int .u32,.int .u32,.int .u8,.int .i64,.int .u32,.bool]),(8,46,[.int .u32,.int .u32,.int .u32,.int .u32,.int .u32,.int .u32,.int .u32,.int .u32,.int .u8,.int .i64,.int .u32,.bool])],cC:=[3]}),(47,{cV:=[83],mg:=true,wT:=[71,72,73,74,75,76,77,78,79,80,81,82], }),(50,{cV:=[10],mg:=true,wT:=[85,86,87,88,89,90,91,92,93,94,95,96,97,98,99,100,101,102,103,104,105,106,107], }),(53,{cV:=[1,3,5,6,8,10,11,12],vA:=[3,5,6,8],cn:=[(1,.k (.int .i64)),(3,.lp 3),(5,.lp 5),(6,.lp 6),(8,.lp 8),(10,.k (.bool)),(11,.k (.int .i64))],gZ:=[(3,46,[.int .u32,.int .u32,.int .u32,.int .u32,.int .u32,.int .u32,.int .u32,.int .u32,.int .u8,.int .i64,.int .u32,.bool]),(5,41,[.int .u8,.int .i64,.slice,.bool,.int .u32,.int .u32,.int .u8,.bool]),(6,46,[.int .u32,.int .u32,.int .u32,.int .u32,.int .u32,.int .u32,.int .u32,.int .u32,.int .u8,.int .i64,.int .u32,.bool]),(8,46,[.int .u32,.int .u32,.int .u32,.int .u32,.int .u32,.int .u32,.int .u32,.int .u32,.int .u8,.int .i64,.int .u32,.bool])],cC:=[1]}),(56,{cV:=[135],mg:=true,wT:=[112,113,114,115,116,117,118,119,120,121,122,123,124,125,126,127,128,129,130,131,132,133,134], }),(60,{cV:=[10],mg:=true,wT:=[141,142,143,144,145,146,147,148,149,150,151,152], }),(62,{cV:=[158],mg:=true,wT:=[153,154,155,156,157], })], }
def Yg:bQ:={bg:=[(4,{cV:=[9],mg:=true,wT:=[10,11,12,13,14,15,16,17,18,19,20], })], }
def Yh:bQ:={}
def Yi:bQ:={}
def Yj:bQ:={aX:=[4],aV:=[(4,4),(26,4)],bg:=[(2,{cV:=[0,10,11,12],mN:=[(2,.k (.int .i64))],cC:=[0]})], }
def Yk:bQ:={bg:=[(2,{cV:=[0,1,4,5],cn:=[(0,.k (.aj)),(4,.k (.slice))],cC:=[0]})], }
def Yl:bQ:={}
def Ym:bQ:={aX:=[3,4,8,15,21,22,25],aV:=[(3,3),(35,3),(42,3),(51,3),(4,4),(8,8),(87,8),(93,8),(106,8),(111,8),(131,8),(150,8),(158,8),(15,15),(89,15),(90,15),(21,21),(133,21),(134,21),(145,21),(146,21),(152,21),(153,21),(22,22),(142,22),(143,22),(25,25),(168,25)],bg:=[(4,{cn:=[(45,.k (.bool))],dl:=true,wT:=[29,30,31,32,33,34,35,36,37,38,39,40,41,42,43,44,45], }),(11,{cV:=[0,3,4,6,8,9,61,62,63],vA:=[3,4,8],cn:=[(3,.lp 3),(4,.lp 4),(6,.k (.aj)),(8,.lp 8),(9,.k (.map))],gZ:=[(3,26,[.int .i64,.int .i64,.int .i64,.slice]),(4,113,[.aj,.map,.int .u64,.slice]),(8,113,[.aj,.map,.int .u64,.slice])],mN:=[(4,.lp 4),(5,.k (.int .i64))],TZ:=[(4,113,[.aj,.map,.int .u64,.slice])],cC:=[0]}),(21,{cV:=[0,3,4,6,8,9,61,62,63,81,82,83],vA:=[3,4,8],cn:=[(0,.k (.aj)),(3,.lp 3),(4,.lp 4),(6,.k (.aj)),(8,.lp 8),(9,.k (.map)),(61,.k (.slice)),(62,.k (.int .i64)),(63,.k (.int .i64))],gZ:=[(3,26,[.int .i64,.int .i64,.int .i64,.slice]),(4,113,[.aj,.map,.int .u64,.slice]),(8,113,[.aj,.map,.int .u64,.slice])],cC:=[2]}),(29,{cV:=[3,4,6,8,9,97,98,99],vA:=[3,4,8],cn:=[(3,.lp 3),(4,.lp 4),(6,.k (.aj)),(8,.lp 8),(9,.k (.map))],gZ:=[(3,26,[.int .i64,.int .i64,.int .i64,.slice]),(4,113,[.aj,.map,.int .u64,.slice]),(8,113,[.aj,.map,.int .u64,.slice])],cC:=[4]}),(39,{cV:=[4,6,8,9,116,117,118],vA:=[4,8],cn:=[(4,.lp 4),(6,.k (.aj)),(8,.lp 8)],gZ:=[(4,113,[.aj,.map,.int .u64,.slice]),(8,113,[.aj,.map,.int .u64,.slice])],cC:=[6]}),(44,{cV:=[4,6,8,9,116,117,118,124,125,126],vA:=[4,8],cn:=[(4,.lp 4),(6,.k (.aj)),(8,.lp 8),(9,.k (.map)),(116,.k (.slice)),(117,.k (.int .i64)),(118,.k (.int .i64))],gZ:=[(4,113,[.aj,.map,.int .u64,.slice]),(8,113,[.aj,.map,.int .u64,.slice])],cC:=[8]}),(49,{cV:=[149],mg:=true,wT:=[139,140,141,142,143,144,145,146,147,148], }),(55,{cV:=[4,6,8,160],vA:=[4,8],cn:=[(4,.lp 4),(8,.lp 8)],gZ:=[(4,113,[.aj,.map,.int .u64,.slice]),(8,113,[.aj,.map,.int .u64,.slice])],cC:=[10]})], }
def Yn:bQ:={bg:=[(3,{cV:=[0,4,10,11,12],cn:=[(0,.k (.slice)),(4,.k (.aj))],mN:=[(2,.k (.aj)),(3,.k (.int .i64))],cC:=[0]}),(7,{cV:=[35],mg:=true,wT:=[17,18,19,20,21,22,23,24,25,26,27,28,29,30,31,32,33,34], })], }
def Yo:bQ:={aX:=[1],aV:=[(1,1),(6,1),(11,1)],bg:=[(3,{cV:=[1,3,4],vA:=[1],cn:=[(3,.k (.slice))],cC:=[0]})], }
def Yp:bQ:={bg:=[(1,{cV:=[4],mg:=true,wT:=[5,6,7,8,9,10,11,12,13,14,15,16,17,18,19,20,21,22,23,24,25,26,27,28,29], })], }
def Yq:bQ:={bg:=[(5,{cV:=[22],mg:=true,wT:=[23,24,25,26,27,28], }),(8,{cV:=[29],mg:=true,wT:=[30,31,32,33,34,35], })], }
def Yr:bQ:={bg:=[(1,{cV:=[19],mg:=true,wT:=[5,6,7,8,9,10,11,12,13,14,15,16,17,18], })], }
def Ys:bQ:={bg:=[(1,{cV:=[19],mg:=true,wT:=[5,6,7,8,9,10,11,12,13,14,15,16,17,18], })], }
def Yt:bQ:={}
def Yu:bQ:={aX:=[5,7],aV:=[(5,5),(64,5),(7,7),(55,7),(60,7)],bg:=[(1,{cV:=[35],mg:=true,wT:=[11,12,13,14,15,16,17,18,19,20,21,22,23,24,25,26,27,28,29,30,31,32,33,34], }),(6,{cV:=[0,1,5,40,41,42],vA:=[5],cn:=[(5,.lp 5)],gZ:=[(5,177,[.int .i64,.int .i64,.int .i64,.int .i64,.int .i64,.int .i64,.int .i64,.int .i64,.int .i64,.int .i64,.int .i64,.int .i64,.int .i64,.int .i64,.int .i64,.int .i64,.int .i64,.int .i64,.int .i64,.int .i64,.int .i64,.int .i64,.int .i64,.int .i64,.int .i64,.int .i64,.int .i64,.int .i64,.int .i64,.int .i64,.int .i64,.int .i64])],cC:=[0]}),(10,{cV:=[59],mg:=true,wT:=[47,48,49,50,51,52,53,54,55,56,57,58], }),(16,{cV:=[8,66,67],cn:=[(8,.k (.slice))],cC:=[2]})], }
def Yv:bQ:={}
def Yw:bQ:={aX:=[4,6],aV:=[(4,4),(6,6),(28,6),(30,6)], }
def Yx:bQ:={aX:=[1],aV:=[(1,1),(3,1),(8,1)], }
def Yy:bQ:={}
def Yz:bQ:={}
def YA:bQ:={bg:=[(1,{cV:=[2],mg:=true,wT:=[3,4,5,6,7,8,9,10,11,12,13,14,15,16,17,18,19], })], }
def YB:bQ:={aX:=[1],aV:=[(1,1),(7,1),(11,1),(16,1),(20,1),(26,1),(37,1),(41,1),(46,1),(51,1),(59,1),(61,1),(62,1),(68,1)],bg:=[(1,{cn:=[(25,.k (.bool))],dl:=true,wT:=[7,8,9,10,11,12,13,14,15,16,17,18,19,20,21,22,23,24,25], }),(6,{cV:=[1,3,27,28],vA:=[1],cn:=[(1,.lp 1),(3,.k (.bool))],gZ:=[(1,46,[.int .u32,.int .u32,.int .u32,.int .u32,.int .u32,.int .u32,.int .u32,.int .u32,.int .u8,.int .i64,.int .u32,.bool])],cC:=[0]}),(10,{cV:=[3],mg:=true,wT:=[31,32,33,34,35], }),(12,{cV:=[6],mg:=true,wT:=[37,38,39,40,41,42,43,44,45,46,47,48,49], }),(13,{cV:=[2],mg:=true,wT:=[50,51,52,53,54,55,56,57,58,59,60,61,62,63,64,65,66,67,68,69,70,71,72,73,74], })], }
def YC:bQ:={bg:=[(1,{cV:=[2],mg:=true,wT:=[3,4,5,6,7,8,9,10,11], })], }
def YD:bQ:={}
def YE:bQ:={aX:=[4],aV:=[(4,4),(8,4),(12,4),(17,4),(28,4),(36,4),(40,4),(48,4),(52,4)],bg:=[(1,{cV:=[7],mg:=true,wT:=[8,9,10,11,12,13,14,15,16,17,18,19,20], }),(2,{cV:=[6],mg:=true,wT:=[21,22,23,24,25,26,27,28,29,30,31,32,33,34,35,36,37,38,39,40,41,42,43,44,45,46,47,48,49,50,51,52,53,54,55,56,57], })], }
def YF:bQ:={aX:=[3,5],aV:=[(3,3),(5,5),(7,5)],bg:=[(6,{cn:=[(14,.k (.bool))],dl:=true,wT:=[14,16,17], })], }
def YG:bQ:={aX:=[4,8],aV:=[(4,4),(8,8),(28,8),(31,8)], }
def YH:bQ:={aX:=[4],aV:=[(4,4),(20,4)], }
def YI:bQ:={aX:=[3,5,6,9],aV:=[(3,3),(49,3),(50,3),(77,3),(86,3),(94,3),(109,3),(119,3),(122,3),(5,5),(17,5),(22,5),(27,5),(31,5),(36,5),(42,5),(52,5),(56,5),(60,5),(67,5),(88,5),(99,5),(111,5),(6,6),(9,9)],bg:=[(1,{cV:=[25],mg:=true,wT:=[10,11,12,13,14,15,16,17,18,19,20,21,22,23,24], }),(4,{cV:=[8],mg:=true,wT:=[27,28,29,30,31,32,33,34,35,36,37,38,39], }),(5,{cn:=[(46,.k (.bool))],dl:=true,wT:=[40,41,42,43,44,45,46], }),(8,{cV:=[64],mg:=true,wT:=[48,49,50,51,52,53,54,55,56,57,58,59,60,61,62,63], }),(18,{cn:=[(92,.k (.bool))],dl:=true,wT:=[77,78,79,80,81,82,83,84,85,86,87,88,89,90,91,92], })], }
def YJ:bQ:={}
def YK:bQ:={aX:=[2],aV:=[(2,2),(9,2),(20,2),(24,2),(29,2),(32,2)],bg:=[(3,{cV:=[1,2,5,10,11],vA:=[2],cn:=[(1,.k (.int .i64)),(2,.lp 2),(5,.k (.slice))],gZ:=[(2,46,[.int .u32,.int .u32,.int .u32,.int .u32,.int .u32,.int .u32,.int .u32,.int .u32,.int .u8,.int .i64,.int .u32,.bool])],cC:=[0]}),(12,{cn:=[(8,.k (.int .u64))],dl:=true,wT:=[8], })], }
def YL:bQ:={aX:=[3],aV:=[(3,3),(14,3),(23,3),(24,3),(27,3)],bg:=[(1,{cV:=[13],mg:=true,wT:=[8,9,10,11,12], }),(4,{cn:=[(21,.k (.bool))],dl:=true,wT:=[14,15,16,17,18,19,20,21], }),(13,{cn:=[(33,.k (.bool))],dl:=true,wT:=[33,35], }),(16,{cV:=[6],mg:=true,wT:=[36,37,38,39,40], })], }
def YM:bQ:={bg:=[(1,{cV:=[2],mg:=true,wT:=[3,4,5,6,7,8,9,10,11,12,13,14,15,16], })], }
def YN:bQ:={aX:=[1],aV:=[(1,1),(9,1),(10,1)],bg:=[(2,{cV:=[1,3],vA:=[1],mN:=[(2,.k (.bool))],cC:=[0]})], }
def YO:bQ:={aX:=[1,2],aV:=[(1,1),(3,1),(4,1),(2,2)], }
def YP:bQ:={aX:=[3,6],aV:=[(3,3),(8,3),(10,3),(17,3),(6,6)],bg:=[(3,{cV:=[16],mg:=true,wT:=[11,12,13,14,15], })], }
def YQ:bQ:={aX:=[2],aV:=[(2,2),(11,2),(19,2),(20,2),(23,2)],bg:=[(1,{cV:=[10],mg:=true,wT:=[5,6,7,8,9], }),(9,{cn:=[(15,.k (.bool))],dl:=true,wT:=[15,17], })], }
def YR:bQ:={aX:=[5],aV:=[(5,5),(17,5),(20,5)],bg:=[(5,{cV:=[3,11,12,13],cn:=[(3,.k (.slice))],cC:=[0]})], }
def YS:bQ:={aX:=[3],aV:=[(3,3),(5,3),(11,3),(18,3),(20,3)], }
def YT:bQ:={}
def YU:bQ:={bg:=[(5,{cV:=[1,5,14],cn:=[(5,.k (.int .i64))],cC:=[0]})], }
def YV:bQ:={aX:=[1],aV:=[(1,1),(5,1),(9,1),(14,1),(19,1),(24,1),(29,1),(33,1),(45,1),(50,1)],bg:=[(1,{cV:=[32],mg:=true,wT:=[5,6,7,8,9,10,11,12,13,14,15,16,17,18,19,20,21,22,23,24,25,26,27,28,29,30,31], }),(5,{cV:=[1,34,35,36],vA:=[1],cn:=[(1,.lp 1)],gZ:=[(1,26,[.int .i64,.int .i64,.int .i64,.slice])],mN:=[(2,.k (.bool))],cC:=[0]})], }
def YW:bQ:={}
def YX:bQ:={}
def YY:bQ:={bg:=[(1,{cV:=[19],mg:=true,wT:=[6,7,8,9,10,11,12,13,14,15,16,17,18], }),(4,{cn:=[(4,.k (.aj)),(5,.k (.int .i64))],dl:=true,wT:=[4,5,20,21,22,23,24,25,26,27], })], }
def YZ:bQ:={aX:=[4,12],aV:=[(4,4),(22,4),(29,4),(12,12),(66,12),(71,12)],bg:=[(4,{cn:=[(39,.k (.bool))],dl:=true,wT:=[16,17,18,19,20,21,22,23,24,25,26,27,28,29,30,31,32,33,34,35,36,37,38,39], }),(9,{cV:=[0,2,4,8,42,43],vA:=[4],cn:=[(8,.k (.slice))],mN:=[(6,.k (.slice)),(7,.k (.int .i64))],cC:=[0]}),(20,{cn:=[(76,.k (.bool))],dl:=true,wT:=[63,64,65,66,67,68,69,70,71,72,73,74,75,76], })], }
def Y0:bQ:={bg:=[(6,{cV:=[0,5,23,24,25],mN:=[(4,.k (.bool))],cC:=[0]}),(11,{cV:=[46],mg:=true,wT:=[34,35,36,37,38,39,40,41,42,43,44,45], })], }
def Uc:bQ:={aX:=[5],aV:=[(5,5),(23,5),(28,5),(38,5),(43,5),(67,5)],bg:=[(4,{cV:=[10],mg:=true,wT:=[11,12,13,14,15,16,17,18,19,20,21,22,23,24,25,26,27,28,29,30,31,32,33,34,35,36,37,38,39,40,41,42,43,44,45,46], })], }
def Ud:bQ:={}
def Ue:bQ:={}
def Uf:bQ:={bg:=[(4,{cV:=[0,11,12,13],mN:=[(2,.k (.int .i64)),(3,.k (.bool))],cC:=[0]})], }
def Uh:bQ:={}
def Uj:bQ:={aX:=[4],aV:=[(4,4)],bg:=[(1,{cV:=[30],mg:=true,wT:=[6,7,8,9,10,11,12,13,14,15,16,17,18,19,20,21,22,23,24,25,26,27,28,29], })], }
def Uk:bQ:={aX:=[2,7],aV:=[(2,2),(7,7),(38,7),(39,7),(47,7),(48,7),(51,7)],bg:=[(1,{cV:=[16],mg:=true,wT:=[8,9,10,11,12,13,14,15], }),(13,{cn:=[(66,.k (.bool))],dl:=true,wT:=[52,53,54,55,56,57,58,59,60,61,62,63,64,65,66], })], }
def Ul:bQ:={bg:=[(3,{cV:=[3,6,7,8],cn:=[(3,.k (.int .u64))],cC:=[0]})], }
def Um:bQ:={bg:=[(1,{cV:=[18],mg:=true,wT:=[6,7,8,9,10,11,12,13,14,15,16,17], })], }
def Uo:bQ:={bg:=[(2,{cV:=[0,5,6],mN:=[(2,.k (.bool))],cC:=[0]})], }
def Uq:bQ:={aX:=[3],aV:=[(3,3),(13,3),(21,3),(36,3),(37,3),(42,3),(43,3)],bg:=[(1,{cV:=[12],mg:=true,wT:=[7,8,9,10,11], }),(4,{cn:=[(20,.k (.bool))],dl:=true,wT:=[13,14,15,16,17,18,19,20], }),(15,{cn:=[(29,.k (.bool))],dl:=true,wT:=[29,31], }),(18,{cV:=[6],mg:=true,wT:=[32,33,34,35,36,37,38,39,40], })], }
def Ur:bQ:={}
def Us:bQ:={aX:=[3],aV:=[(3,3),(11,3),(15,3),(20,3),(24,3),(27,3),(28,3),(30,3),(33,3)],bg:=[(4,{cV:=[10],mg:=true,wT:=[11,12,13,14,15,16,17,18], }),(12,{gZ:=[(3,138,[.int .i64,.slice,.bool])],dl:=true,wT:=[30],wL:=[3]}),(21,{dl:=true,wT:=[38,39,40,41,42,43,44,45,46,47,48], })], }
def Ut:bQ:={aX:=[3,5,6],aV:=[(3,3),(7,3),(10,3),(13,3),(23,3),(24,3),(5,5),(11,5),(14,5),(21,5),(6,6)], }
def Uu:bQ:={aX:=[2],aV:=[(2,2),(12,2),(16,2),(21,2),(26,2),(27,2)],bg:=[(1,{cV:=[15],mg:=true,wT:=[5,6,7,8,9,10,11,12,13,14], })], }
def Uv:bQ:={aX:=[3,6],aV:=[(3,3),(9,3),(10,3),(13,3),(6,6)], }
def Uw:bQ:={aX:=[1,2],aV:=[(1,1),(3,1),(4,1),(2,2)], }
def Ux:bQ:={aX:=[3,5,6,10],aV:=[(3,3),(17,3),(30,3),(31,3),(35,3),(40,3),(47,3),(73,3),(5,5),(13,5),(23,5),(27,5),(62,5),(66,5),(97,5),(6,6),(10,10),(79,10),(80,10),(89,10),(92,10)],bg:=[(1,{cn:=[(21,.k (.bool))],dl:=true,wT:=[13,14,15,16,17,18,19,20,21], }),(5,{cV:=[9],mg:=true,wT:=[23,24,25,26,27,28,29,30,31,32,33,34,35,36,37,38,39,40,41,42,43,44,45], }),(8,{cV:=[1,3,5,6,8,9,10,48,49],vA:=[3,5,6,10],cn:=[(1,.k (.int .i64)),(3,.lp 3),(5,.lp 5),(6,.lp 6),(8,.k (.bool)),(9,.k (.bool)),(10,.lp 10)],gZ:=[(3,46,[.int .u32,.int .u32,.int .u32,.int .u32,.int .u32,.int .u32,.int .u32,.int .u32,.int .u8,.int .i64,.int .u32,.bool]),(5,41,[.int .u8,.int .i64,.slice,.bool,.int .u32,.int .u32,.int .u8,.bool]),(6,46,[.int .u32,.int .u32,.int .u32,.int .u32,.int .u32,.int .u32,.int .u32,.int .u32,.int .u8,.int .i64,.int .u32,.bool]),(10,46,[.int .u32,.int .u32,.int .u32,.int .u32,.int .u32,.int .u32,.int .u32,.int .u32,.int .u8,.int .i64,.int .u32,.bool])],cC:=[0]}),(12,{cV:=[70],mg:=true,wT:=[53,54,55,56,57,58,59,60,61,62,63,64,65,66,67,68,69], }),(15,{cV:=[9],mg:=true,wT:=[71,72,73,74,75,76,77], }),(18,{cV:=[87],mg:=true,wT:=[82,83,84,85,86], })], }
def Uy:bQ:={aX:=[3],aV:=[(3,3)],bg:=[(1,{cV:=[0,3],vA:=[3],mN:=[(4,.k (.int .i64))], })], }
def Uz:bQ:={bg:=[(2,{cV:=[0,1,8,9],cn:=[(0,.k (.slice))],cC:=[0]})], }
def UA:bQ:={aX:=[6],aV:=[(6,6)], }
def UB:bQ:={}
def UC:bQ:={}
def UD:bQ:={aX:=[2],aV:=[(2,2),(4,2),(5,2),(12,2),(13,2),(21,2),(22,2),(30,2),(31,2)], }
def UE:bQ:={bg:=[(4,{cV:=[8],mg:=true,wT:=[9,10,11,12,13,14,15,16,17,18,19], }),(8,{dl:=true,wT:=[27,28,29,30,31,32,33,34,35,36,37,38,39,40,41,42], })], }
def UF:bQ:={bg:=[(2,{cV:=[0,1,7,8],mN:=[(4,.k (.int .i64))],cC:=[0]})], }
def UG:bQ:={bg:=[(3,{dl:=true,wT:=[18,19,20,21,22,23,24,25,26,27,28,29,30,31,32], })], }
def UH:bQ:={bg:=[(0,{dl:=true,wT:=[1,2,3,4,5,6], })], }
def UI:bQ:={}
def UJ:bQ:={}
def UK:bQ:={bg:=[(1,{cV:=[2],mg:=true,wT:=[3,4,5,6,7,8,9,10], })], }
def UL:bQ:={aX:=[1],aV:=[(1,1),(3,1),(7,1),(12,1),(17,1),(22,1),(27,1),(32,1),(37,1),(42,1),(48,1),(52,1)],bg:=[(1,{cV:=[2],mg:=true,wT:=[3,4,5,6,7,8,9,10,11,12,13,14,15,16,17,18,19,20,21,22,23,24,25,26,27,28,29,30,31,32,33,34,35,36,37,38,39,40,41,42,43,44,45,46,47,48,49,50,51,52,53,54,55,56,57], })], }
def UM:bQ:={aX:=[1],aV:=[(1,1),(4,1),(9,1),(12,1),(16,1),(20,1),(26,1)], }
def UN:bQ:={aX:=[0],aV:=[(0,0)], }
def UO:bQ:={bg:=[(3,{cV:=[0,1,2,8,9,10],cn:=[(0,.k (.slice)),(1,.k (.int .i64)),(2,.k (.func)),(8,.k (.int .i64)),(9,.k (.int .i64))],cC:=[0]})], }
def UP:bQ:={aX:=[2],aV:=[(2,2),(5,2)], }
def UQ:bQ:={}
def UR:bQ:={aX:=[2,4],aV:=[(2,2),(6,2),(7,2),(8,2),(13,2),(4,4)],bg:=[(2,{cV:=[17],mg:=true,wT:=[8,9,10,11,12,13,14,15,16], })], }
def US:bQ:={bg:=[(1,{cV:=[2],mg:=true,wT:=[3,4,5,6,7,8], })], }
def UT:bQ:={bg:=[(1,{cV:=[0],mN:=[(2,.k (.int .i64)),(3,.k (.int .i64))], }),(3,{cn:=[(30,.k (.bool))],dl:=true,wT:=[16,17,18,19,20,21,22,23,24,25,26,27,28,29,30], }),(7,{dl:=true,wT:=[33,34,35,36,37,38], }),(13,{cn:=[(62,.k (.bool))],dl:=true,wT:=[51,52,53,54,55,56,57,58,59,60,61,62], })], }
def UU:bQ:={aX:=[5,7],aV:=[(5,5),(24,5),(25,5),(66,5),(7,7),(39,7)],bg:=[(4,{cn:=[(8,.k (.int .i64))],dl:=true,wT:=[8,34,35,36,37,38,39,40,41,42,43,44,45,46,47], }),(5,{cV:=[53],mg:=true,wT:=[48,49,50,51,52], })], }
def UW:bQ:={bg:=[(2,{cV:=[0,1,7,8],mN:=[(4,.k (.int .i64))],cC:=[0]})], }
def UX:bQ:={bg:=[(3,{cV:=[3,6,7,8],cn:=[(3,.k (.int .u32))],cC:=[0]}),(9,{cV:=[3,6,7,8,16],cn:=[(3,.k (.int .u32)),(6,.k (.slice)),(7,.k (.int .i64)),(8,.k (.int .i64))],cC:=[2]})], }
def UY:bQ:={}
def UZ:bQ:={}
def Va:bQ:={}
def Vb:bQ:={aX:=[2],aV:=[(2,2),(5,2)], }
def Vc:bQ:={bg:=[(1,{cn:=[(2,.k (.int .i64)),(3,.k (.bool))],dl:=true,wT:=[2,3,4,5,6,7,8,9,10,11,12,13,14,15,16,17], })], }
def Vd:bQ:={aX:=[7],aV:=[(7,7),(83,7)],bg:=[(1,{cn:=[(3,.k (.int .i64)),(4,.k (.bool))],dl:=true,wT:=[3,4,10,11,12,13,14,15,16,17,18,19,20,21,22,23,24], }),(9,{cn:=[(57,.k (.bool))],dl:=true,wT:=[42,43,44,45,46,47,48,49,50,51,52,53,54,55,56,57], }),(12,{cV:=[0,3,5],cn:=[(0,.k (.aj)),(3,.k (.int .i64)),(5,.k (.int .i64))],mN:=[(2,.k (.int .i64))],cC:=[0]})], }
def Ve:bQ:={aX:=[11,13],aV:=[(11,11),(13,13)],bg:=[(5,{cV:=[26],mg:=true,wT:=[27,28,29,30,31,32,33,34,35,36], }),(11,{cV:=[41],mg:=true,wT:=[42,43,44,45,46,47,48,49,50,51,52,53,54], }),(25,{dl:=true,wT:=[79,80,81,82,83,84,85,86,87,88,89,90,91,92], }),(27,{dl:=true,wT:=[93,94,95,96,97,98,99,100,101,102], })], }
def Vf:bQ:={}
def Vg:bQ:={bg:=[(6,{cV:=[0,1,2,8,9,17,18,19],cn:=[(8,.k (.int .i64)),(9,.k (.bool))],cC:=[0]}),(10,{cV:=[36],mg:=true,wT:=[23,24,25,26,27,28,29,30,31,32,33,34,35], }),(12,{cV:=[49],mg:=true,wT:=[37,38,39,40,41,42,43,44,45,46,47,48], })], }
def Vh:bQ:={bg:=[(3,{cV:=[1,5,11,12],cn:=[(5,.k (.slice))],cC:=[0]})], }
def Vi:bQ:={bg:=[(1,{cV:=[19],mg:=true,wT:=[5,6,7,8,9,10,11,12,13,14,15,16,17,18], })], }
def Vj:bQ:={}
def Vk:bQ:={bg:=[(1,{cV:=[0,2,3],cC:=[0]})], }
def Vl:bQ:={bg:=[(2,{dl:=true,wT:=[11], }),(5,{cV:=[26],mg:=true,wT:=[21,22,23,24,25], }),(6,{dl:=true,wT:=[27], }),(10,{cV:=[7,8],cn:=[(7,.k (.slice))],cC:=[0]})], }
def Vm:bQ:={}
def Vn:bQ:={}
theorem Y1:XOk Tryz.prog 146 .overlaps:=⟨Tryz.f146,89,4,138,Tryz.func146,by kernel_rfl,by kernel_rfl,by kernel_rfl,by kernel_rfl,by kernel_rfl,by kernel_rfl⟩
def Vo:List (Nat×XK):=[(146,.overlaps)]
theorem Rl:∀g k,Am.ab Vo g=some k→XOk Tryz.prog g k:=by
 intro g k hg;simp only[Vo,iE,lL] at hg;split at hg
 ·rename_i he;subst he;cases hg;exact Y1
 cases hg
def aa7:List (Nat×bQ):=[(3,aa5),(4,aa6),(10,XH),(11,XI),(12,XJ),(13,XL),(14,XM),(15,XN),(16,XO),(17,XP),(18,XQ),(19,XR),(20,XS),(21,XT),(22,XU),(23,XV),(24,XW),(25,XX),(26,XY),(27,XZ),(30,X0),(36,X1),(37,X2),(38,X3),(39,X4),(40,X5),(41,X6),(42,X7),(43,X8),(44,X9),(45,Ya),(46,Yb),(47,Yc),(48,Yd),(49,Ye),(50,Yf),(51,Yg),(52,Yh),(53,Yi),(54,Yj),(55,Yk),(58,Yl),(59,Ym),(60,Yn),(61,Yo),(62,Yp),(63,Yq),(64,Yr),(65,Ys),(66,Yt),(67,Yu),(68,Yv),(69,Yw),(70,Yx),(71,Yy),(72,Yz),(73,YA),(74,YB),(75,YC),(76,YD),(77,YE),(78,YF),(79,YG),(80,YH),(81,YI),(82,YJ),(83,YK),(84,YL),(85,YM),(86,YN),(87,YO),(88,YP),(89,YQ),(90,YR),(91,YS),(92,YT),(93,YU),(94,YV),(95,YW),(96,YX),(97,YY),(98,YZ),(99,Y0),(100,Uc),(101,Ud),(102,Ue),(103,Uf),(104,Uh),(105,Uj),(106,Uk),(107,Ul),(108,Um),(109,Uo),(110,Uq),(111,Ur),(112,Us),(113,Ut),(114,Uu),(115,Uv),(116,Uw),(117,Ux),(118,Uy),(119,Uz),(120,UA),(121,UB),(122,UC),(123,UD),(124,UE),(125,UF),(126,UG),(127,UH),(129,UI),(130,UJ),(131,UK),(132,UL),(133,UM),(134,UN),(135,UO),(136,UP),(137,UQ),(138,UR),(139,US),(140,UT),(141,UU),(142,UW),(143,UX),(144,UY),(145,UZ),(147,Va),(148,Vb),(149,Vc),(150,Vd),(151,Ve),(152,Vf),(153,Vg),(154,Vh),(155,Vi),(157,Vj),(158,Vk),(159,Vl),(160,Vm),(162,Vn)]
theorem ti_ok (t:Nat) (x:TI) (h:tab[t]? =some x):QU Tryz.prog t=some x:=by
 have h1:t<240:=by
  have h2:tab.length=240:=by kernel_rfl
  have:=(List.getElem?_eq_some_iff.1 h).1;omega
 have h3:=congrArg (fun l=>l[t]?) T5;simp only[List.getElem?_map,h,List.getElem?_range h1,Option.map_some,Option.some.injEq] at h3;exact h3
theorem eq_ok (t:Nat) (ks:List cg) (h:Am.ab eqs t=some ks):K8 Tryz.prog t ks=true:=by
 have key:∀l:List (TypeId×List cg),l.all (fun x=>K8 Tryz.prog x.1 x.2)=true→Am.ab l t=some ks→K8 Tryz.prog t ks=true:=by
  intro l
  induction l with
  |nil=>intro _ h;cases h
  |cons p l ih=>
   intro h1 h2;rw[List.all_cons,Bool.and_eq_true] at h1;simp only[Am.ab,aW] at h2;by_cases he:t=p.1
   ·simp only[he,decide_true,cond_true,Option.some.injEq] at h2;rw[he, ←h2];exact h1.1
   ·simp only[he,decide_false,cond_false] at h2;exact ih h1.2 h2
 exact key _ Ub h
noncomputable def fns:List (Nat×Func):=[(3,Tryz.f3),(4,Tryz.f4),(10,Tryz.f10),(11,Tryz.f11),(12,Tryz.f12),(13,Tryz.f13),(14,Tryz.f14),(15,Tryz.f15),(16,Tryz.f16),(17,Tryz.f17),(18,Tryz.f18),(19,Tryz.f19),(20,Tryz.f20),(21,Tryz.f21),(22,Tryz.f22),(23,Tryz.f23),(24,Tryz.f24),(25,Tryz.f25),(26,Tryz.f26),(27,Tryz.f27),(30,Tryz.f30),(36,Tryz.f36),(37,Tryz.f37),(38,Tryz.f38),(39,Tryz.f39),(40,Tryz.f40),(41,Tryz.f41),(42,Tryz.f42),(43,Tryz.f43),(44,Tryz.f44),(45,Tryz.f45),(46,Tryz.f46),(47,Tryz.f47),(48,Tryz.f48),(49,Tryz.f49),(50,Tryz.f50),(51,Tryz.f51),(52,Tryz.f52),(53,Tryz.f53),(54,Tryz.f54),(55,Tryz.f55),(58,Tryz.f58),(59,Tryz.f59),(60,Tryz.f60),(61,Tryz.f61),(62,Tryz.f62),(63,Tryz.f63),(64,Tryz.f64),(65,Tryz.f65),(66,Tryz.f66),(67,Tryz.f67),(68,Tryz.f68),(69,Tryz.f69),(70,Tryz.f70),(71,Tryz.f71),(72,Tryz.f72),(73,Tryz.f73),(74,Tryz.f74),(75,Tryz.f75),(76,Tryz.f76),(77,Tryz.f77),(78,Tryz.f78),(79,Tryz.f79),(80,Tryz.f80),(81,Tryz.f81),(82,Tryz.f82),(83,Tryz.f83),(84,Tryz.f84),(85,Tryz.f85),(86,Tryz.f86),(87,Tryz.f87),(88,Tryz.f88),(89,Tryz.f89),(90,Tryz.f90),(91,Tryz.f91),(92,Tryz.f92),(93,Tryz.f93),(94,Tryz.f94),(95,Tryz.f95),(96,Tryz.f96),(97,Tryz.f97),(98,Tryz.f98),(99,Tryz.f99),(100,Tryz.f100),(101,Tryz.f101),(102,Tryz.f102),(103,Tryz.f103),(104,Tryz.f104),(105,Tryz.f105),(106,Tryz.f106),(107,Tryz.f107),(108,Tryz.f108),(109,Tryz.f109),(110,Tryz.f110),(111,Tryz.f111),(112,Tryz.f112),(113,Tryz.f113),(114,Tryz.f114),(115,Tryz.f115),(116,Tryz.f116),(117,Tryz.f117),(118,Tryz.f118),(119,Tryz.f119),(120,Tryz.f120),(121,Tryz.f121),(122,Tryz.f122),(123,Tryz.f123),(124,Tryz.f124),(125,Tryz.f125),(126,Tryz.f126),(127,Tryz.f127),(129,Tryz.f129),(130,Tryz.f130),(131,Tryz.f131),(132,Tryz.f132),(133,Tryz.f133),(134,Tryz.f134),(135,Tryz.f135),(136,Tryz.f136),(137,Tryz.f137),(138,Tryz.f138),(139,Tryz.f139),(140,Tryz.f140),(141,Tryz.f141),(142,Tryz.f142),(143,Tryz.f143),(144,Tryz.f144),(145,Tryz.f145),(147,Tryz.f147),(148,Tryz.f148),(149,Tryz.f149),(150,Tryz.f150),(151,Tryz.f151),(152,Tryz.f152),(153,Tryz.f153),(154,Tryz.f154),(155,Tryz.f155),(157,Tryz.f157),(158,Tryz.f158),(159,Tryz.f159),(160,Tryz.f160),(162,Tryz.f162)]
theorem Vp:fns.map (fun x=>Tryz.prog.funcs[x.1]?)=fns.map (fun x=>some x.2):=by kernel_rfl
theorem fn_ok (f:Nat) (x:Func) (h:Am.ab fns f=some x):Tryz.prog.funcs[f]? =some x:=by
 have key:∀l:List (Nat×Func),l.map (fun x=>Tryz.prog.funcs[x.1]?)=l.map (fun x=>some x.2)→Am.ab l f=some x→Tryz.prog.funcs[f]? =some x:=by
  intro l
  induction l with
  |nil=>intro _ h;cases h
  |cons p l ih=>
   intro h1 h2;simp only[List.map_cons,List.cons.injEq] at h1;simp only[Am.ab,aW] at h2;by_cases he:f=p.1
   ·simp only[he,decide_true,cond_true,Option.some.injEq] at h2;rw[he, ←h2];exact h1.1
   ·simp only[he,decide_false,cond_false] at h2;exact ih h1.2 h2
 exact key _ Vp h
noncomputable def dK:kz where
 P:=Tryz.prog
 ext:=Ib Tryz.prog Vo
 fn:=fun f=>Am.ab fns f
 fn_ok:=fn_ok
 ti:=fun t=>tab[t]?
 ti_ok:=ti_ok
 ann:=fun f=>(Am.ab aa7 f).getD {}
 eqt:=eqs
 eq_ok:=eq_ok
 names:=yY
noncomputable def cl:=mr.call (rT dK)
noncomputable def lo (f:FuncId) (n:Nat):=mr.loop (rT dK) (NI dK f n) f n
theorem qc {f:FuncId} {aS:List V} {H:Am.ag} {K:V→Am.ag→Prop} {Q:Prop} (h:((F dK (rT dK)).call f aS H K)=Q:=by kernel_rfl):cl f aS H K=Q:=Np.trans h
theorem ql {f:FuncId} {n:Nat} {S:Am.St} {Kr:Am.St→Prop} {Ke:Nat→Am.St→Prop} {Q:Prop} (h:((F dK (rT dK)).loop (NI dK f n) f n S Kr Ke)=Q:=by kernel_rfl):lo f n S Kr Ke=Q:=Nq.trans h
theorem Y2:Tryz.prog.follows .mixedOrders=true:=by kernel_rfl
theorem Y3:jZ dK:=Lr rfl Rl
end Go.Proofs.YtlgdkndamddpkaaGreat
end
section
namespace Go.Am
def ag.ok (H:ag):Prop:=∀id o,H.get id=some o→id<H.next
theorem ag.vZ (H:ag) (o:Obj):(H.alloc o).get H.next=some o:=by simp [ag.alloc]
theorem ag.fW {H:ag} {o:Obj} {id:Nat} (h:id≠H.next):(H.alloc o).get id=H.get id:=by simp [ag.alloc,h]
theorem ag.Jl (H:ag) (id:Nat) (o:Obj):(H.put id o).get id=some o:=by simp [ag.put]
theorem ag.lM {H:ag} {id j:Nat} {o:Obj} (h:j≠id):(H.put id o).get j=H.get j:=by simp [ag.put,h]
theorem ag.Ii (H:ag) (o:Obj):(H.alloc o).next=H.next+1:=rfl
theorem ag.NV (H:ag) (id:Nat) (o:Obj):(H.put id o).next=H.next:=rfl
theorem ag.zr {H:ag} {id off:Nat} {vs:List V} {e:TypeId} {l:List V} {ro:Bool} (h:H.get id=some (.cells e l ro)):H.store id off vs=H.put id (.cells e (bM l off vs) ro):=by simp [ag.store,h]
theorem ag.ok.alloc {H:ag} (h:H.ok) (o:Obj):(H.alloc o).ok:=by
 intro id o' hg;rw[ag.Ii];by_cases he:id=H.next
 ·omega
 ·rw[ag.fW he] at hg;have:=h id o' hg;omega
theorem ag.ok.put {H:ag} (h:H.ok) {id:Nat} {o o':Obj} (hg:H.get id=some o):(H.put id o').ok:=by
 intro j o2 hj;rw[ag.NV];by_cases he:j=id
 ·subst he;exact h _ _ hg
 ·rw[ag.lM he] at hj;exact h _ _ hj
def Rd (H:ag) (q:Oq) (cs:List V):Prop:=
 cs=[]∨∃id off e l ro,q=some (id,off)∧H.get id=some (.cells e l ro)∧(l.drop off).take cs.length=cs
theorem Rd.nil (H:ag) (q:Oq):Rd H q []:=.inl rfl
theorem FK {l cs:List V} {off:Nat} (h:(l.drop off).take cs.length=cs) (h0:cs≠[]):off+cs.length≤l.length:=by
 have:=congrArg List.length h;simp at this;have:0<cs.length:=List.length_pos_iff.2 h0;omega
theorem FL {l cs:List V} {off i k:Nat} (h:(l.drop off).take cs.length=cs) (hi:i+k≤cs.length):(l.drop (off+i)).take k=(cs.drop i).take k:=by
 rw[←h];rw[List.drop_take,List.take_take,List.drop_drop];congr 1;omega
section
variable {H:ag} {q:Oq} {cs:List V}
theorem Rd.some (h:Rd H q cs) (h0:cs≠[]):q.isSome=true:=by
 rcases h with h|⟨id,off,e,l,ro,rfl,_⟩
 ·exact absurd h h0
 ·rfl
theorem Rd.inb (h:Rd H q cs) {i k:Nat} (hi:i+k≤cs.length) (h0:cs≠[]):H.inb (q.getD (0,0)).1 ((q.getD (0,0)).2+i) k=true:=by
 rcases h with h|⟨id,off,e,l,ro,rfl,hg,ht⟩
 ·exact absurd h h0
 ·have:=FK ht h0;simp [ag.inb,hg];omega
theorem Rd.sub (h:Rd H q cs) {i k:Nat} (hi:i+k≤cs.length) (h0:cs≠[]):H.sub (q.getD (0,0)).1 ((q.getD (0,0)).2+i) k=(cs.drop i).take k:=by
 rcases h with h|⟨id,off,e,l,ro,rfl,hg,ht⟩
 ·exact absurd h h0
 ·simp only[ag.sub,ag.cs,Option.getD_some,hg];exact FL ht hi
theorem lf:∀(l:List V) (i:Nat),ae l i=l.getD i .none
 |[],i=>by simp [ae]
 |x::l,0=>rfl
 |x::l,i+1=>by rw[ae,lf l i];simp
theorem Rd.cell (h:Rd H q cs) {i:Nat} (hi:i<cs.length):H.cell (q.getD (0,0)).1 ((q.getD (0,0)).2+i)=ae cs i:=by
 rcases h with h|⟨id,off,e,l,ro,rfl,hg,ht⟩
 ·rw[h] at hi;cases hi
 ·simp only[ag.cell,ag.cs,Option.getD_some,hg,lf];have:=congrArg (fun m=>m.getD i V.none) ht;simp only[List.getD_eq_getElem?_getD,List.getElem?_take,List.getElem?_drop,if_pos hi] at this⊢;exact this
theorem Rd.NW (h:Rd H q cs) {k:Nat} (hi:k≤cs.length) (h0:cs≠[]):H.inb (q.getD (0,0)).1 (q.getD (0,0)).2 k=true:=by
 simpa using h.inb (i:=0) (k:=k) (by omega) h0
theorem Rd.aa8 (h:Rd H q cs) {k:Nat} (hi:k≤cs.length) (h0:cs≠[]):H.sub (q.getD (0,0)).1 (q.getD (0,0)).2 k=cs.take k:=by
 simpa using h.sub (i:=0) (k:=k) (by omega) h0
theorem Rd.all (h:Rd H q cs) (h0:cs≠[]):H.sub (q.getD (0,0)).1 (q.getD (0,0)).2 cs.length=cs:=by
 rw[h.aa8 (Nat.le_refl _) h0,List.take_length]
theorem Rd.part (h:Rd H q cs) {id off:Nat} (hq:q=Option.some (id,off)) (i k:Nat) (hi:i+k≤cs.length):Rd H (Option.some (id,off+i)) ((cs.drop i).take k):=by
 by_cases h0:(cs.drop i).take k=[]
 ·exact .inl h0
 ·rcases h with h|⟨id',off',e,l,ro,he,hg,ht⟩
  ·rw[h] at h0;simp at h0
  ·rw[hq] at he;cases he;refine .inr ⟨id,off+i,e,l,ro,rfl,hg, ?_⟩;have hl:((cs.drop i).take k).length=k:=by simp;omega
   rw[hl];exact FL ht hi
structure Fr (H H':ag) (W:Nat→Prop):Prop where
 next:H.next≤H'.next
 xC:∀id,id<H.next→¬W id→H'.get id=H.get id
theorem Fr.alloc (H:ag) (o:Obj) (W:Nat→Prop):Fr H (H.alloc o) W:=
 ⟨Nat.le_succ _,fun id hid _=>ag.fW (by omega)⟩
theorem Fr.get {H H':ag} {W:Nat→Prop} (h:Fr H H' W) {id:Nat} {o:Obj} (hok:H.ok) (hg:H.get id=Option.some o) (hw:¬W id):H'.get id=Option.some o:=by
 rw[h.xC id (hok id o hg) hw,hg]
def Ta (q:Oq) (W:Nat→Prop):Prop:=∀id off,q=Option.some (id,off)→¬W id
theorem Rd.fr {H':ag} {W:Nat→Prop} (h:Rd H q cs) (hok:H.ok) (hf:Fr H H' W) (ha:Ta q W):Rd H' q cs:=by
 rcases h with h|⟨id,off,e,l,ro,rfl,hg,ht⟩
 ·exact .inl h
 ·exact .inr ⟨id,off,e,l,ro,rfl,hf.get hok hg (ha id off rfl),ht⟩
structure W6 (H:ag) (el n:Nat) (q:Oq) (len cap:Nat) (cs:List V):Prop where
 size:cs.length=len*n
 one:bf cs
 le:len≤cap
 mem:(q=none∧cap=0)∨∃id off l,q=Option.some (id,off)∧H.get id=Option.some (.cells el l false)∧off+cap*n≤l.length∧(l.drop off).take cs.length=cs
theorem W6.rd {el n len cap:Nat} (h:W6 H el n q len cap cs):Rd H q cs:=by
 rcases h.mem with⟨rfl,hc⟩|⟨id,off,l,rfl,hg,_,ht⟩
 ·left;have:=h.le;have h1:len=0:=by omega
  have:=h.size;rw[h1,Nat.zero_mul] at this;exact List.length_eq_zero_iff.1 this
 ·exact .inr ⟨id,off,el,l,false,rfl,hg,ht⟩
theorem W6.fr {H':ag} {W:Nat→Prop} {el n len cap:Nat} (h:W6 H el n q len cap cs) (hok:H.ok) (hf:Fr H H' W) (ha:Ta q W):W6 H' el n q len cap cs:=by
 refine⟨h.size,h.one,h.le, ?_⟩;rcases h.mem with hn|⟨id,off,l,rfl,hg,h1,ht⟩
 ·exact .inl hn
 ·exact .inr ⟨id,off,l,rfl,hf.get hok hg (ha id off rfl),h1,ht⟩
theorem Jm:∀(l:List V) (j n:Nat) (v:V),yj l j n v=l.mapIdx fun i x=>if j+i=n then v else x
 |[],_,_,_=>rfl
 |x::l,j,n,v=>by
  rw[yj,Jm l (j+1) n v,List.mapIdx_cons,np,aW];congr 1
  ·by_cases h:j=n<;>simp [h]
  ·congr 1;funext i x;have:j+1+i=j+(i+1):=by omega
   rw[this]
theorem FM (l:List V) (n:Nat) (v:V):yj l 0 n v=l.set n v:=by
 rw[Jm];apply List.ext_getElem?;intro i;simp only[List.getElem?_mapIdx,List.getElem?_set,Nat.zero_add];by_cases h:n=i
 ·subst h;by_cases hl:n<l.length
  ·simp [hl]
  ·simp [hl]
 ·have:¬i=n:=fun e=>h e.symm
  simp [h,this]
theorem fX:∀(vs l:List V) (off:Nat),off+vs.length≤l.length→bM l off vs=l.take off++(vs++l.drop (off+vs.length))
 |[],l,off,h=>by simp [bM]
 |v::vs,l,off,h=>by
  simp only[List.length_cons] at h;rw[bM,FM,fX vs _ (off+1) (by simp;omega)];apply List.ext_getElem?;intro i;simp only[List.getElem?_append,List.getElem?_take,List.getElem?_drop,List.getElem?_set,List.length_take,List.length_set,List.length_cons,List.cons_append,List.getElem?_cons]
  grind
theorem Ro {l cs src:List V} {off:Nat} (ht:(l.drop off).take cs.length=cs) (hl:off+cs.length+src.length≤l.length):((bM l (off+cs.length) src).drop off).take (cs++src).length=cs++src:=by
 rw[fX _ _ _ hl];have e:l.take (off+cs.length)=l.take off++cs:=by rw[List.take_add,ht]
 rw[e,List.append_assoc,List.drop_left' (by simp;omega), ←List.append_assoc,List.take_left' rfl]
theorem gI:∀(vs l:List V) (off:Nat),(bM l off vs).length=l.length
 |[],l,off=>rfl
 |v::vs,l,off=>by rw[bM,gI vs,FM,List.length_set]
theorem rf {l:List V} (h:bf l):vH l=true:=sM.2 h
def Vq (H:ag) (n:Nat) (x:V) (m:Nat) (src:List V):Prop:=
 src.length=m*n∧bf src∧((∃q c,x=.slice q m c∧Rd H q src)∨∃s,x=.cG s∧m=s.size∧n=1∧src=eZ s)
theorem FO {n m:Nat} {x:V} {src:List V} (h:Vq H n x m src) (hn:0<n):∃ok cf,ly H n x=Option.some (m,ok,cf)∧ok m=true∧cf m=src:=by
 obtain⟨hl,h1,⟨q,c,rfl,hr⟩|⟨s,rfl,rfl,rfl,rfl⟩⟩:=h
 ·refine⟨_,_,rfl, ?_, ?_⟩
  ·by_cases h0:m=0
   ·subst h0;rfl
   ·have hne:src≠[]:=by
     intro e;rw[e] at hl;have:=Nat.mul_pos (Nat.pos_of_ne_zero h0) hn;simp at hl;omega
    simp only[pD,Bool.or_eq_true,Bool.and_eq_true];exact .inr ⟨hr.some hne,hr.NW (by omega) hne,rf (by rw[←hl,hr.all hne];exact h1)⟩
  ·by_cases h0:m=0
   ·subst h0;simp at hl;subst hl;rfl
   ·have hz:Nat.beq m 0=false:=by simp [h0]
    have hne:src≠[]:=by
     intro e;rw[e] at hl;have:=Nat.mul_pos (Nat.pos_of_ne_zero h0) hn;simp at hl;omega
    simp only[hz,cond_false];rw[←hl,hr.all hne]
 ·refine⟨_,_,rfl,rfl, ?_⟩;exact List.take_of_length_le (by rw[hl];omega)
end
abbrev Hp:=Nat→Option Obj
abbrev cA:=Hp→Prop
def dj (id:Nat) (e:TypeId) (cs:List V):cA:=fun h=>h=fun j=>if j=id then some (.cells e cs false) else none
def lN (h1 h2 h:Hp):Prop:=∀i,(h1 i=none∧h i=h2 i)∨(h2 i=none∧h i=h1 i)
def zt:List cA→cA
 |[]=>fun h=>h=fun _=>none
 |A::L=>fun h=>∃h1 h2,lN h1 h2 h∧A h1∧zt L h2
def kh (A B:cA):cA:=fun h=>∃h1 h2,lN h1 h2 h∧A h1∧B h2
def emp:cA:=fun h=>h=fun _=>none
def Hm (p:Prop):cA:=fun h=>p∧h=fun _=>none
def EX {α:Type} (A:α→cA):cA:=fun h=>∃x,A x h
theorem lN.symm {a b c:Hp} (h:lN a b c):lN b a c:=fun i=>(h i).symm
theorem lN.empty (a:Hp):lN (fun _=>none) a a:=fun i=>.inl ⟨rfl,rfl⟩
theorem lN.swap {a b c bc abc:Hp} (h1:lN b c bc) (h2:lN a bc abc):∃ac,lN a c ac∧lN b ac abc:=by
 refine⟨fun i=>match a i with|some o=>some o|none=>c i,fun i=> ?_,fun i=> ?_⟩
 ·rcases h1 i with⟨e1,e2⟩|⟨e1,e2⟩<;>rcases h2 i with⟨e3,e4⟩|⟨e3,e4⟩
  ·simp [e3]
  ·rw[e2] at e3;right;refine⟨e3, ?_⟩;cases h:a i<;>simp [e3,h]
  ·simp [e3,e1]
  ·right;refine⟨e1, ?_⟩;cases h:a i<;>simp [e1,h]
 ·rcases h1 i with⟨e1,e2⟩|⟨e1,e2⟩<;>rcases h2 i with⟨e3,e4⟩|⟨e3,e4⟩
  ·left;simp [e1,e3,e4,e2]
  ·left;refine⟨e1, ?_⟩;rw[e2] at e3;cases h:a i<;>simp [e3,e4,h]
  ·right;simp [e1,e3,e4,e2]
  ·left;rw[e2] at e3;refine⟨e3, ?_⟩;cases h:a i<;>simp [e1,e4,h]
theorem lN.Vr {a b c:Hp} (h:lN a b c) {i:Nat} {o:Obj} (ha:a i=some o):c i=some o:=by
 rcases h i with⟨e,_⟩|⟨_,e⟩
 ·rw[ha] at e;cases e
 ·rw[e,ha]
theorem lN.Vs {a b c:Hp} (h:lN a b c) {i:Nat} {o:Obj} (hb:b i=some o):c i=some o:=h.symm.Vr hb
theorem Lu {A B:cA} {L:List cA} {h:Hp} (hs:zt (A::B::L) h):zt (B::A::L) h:=by
 obtain⟨h1,h2,j1,a,h3,h4,j2,b,l⟩:=hs;obtain⟨ac,k1,k2⟩:=lN.swap j2 j1;exact⟨h3,ac,k2,b,h1,h4,k1,a,l⟩
theorem Lv {A:cA} {L L':List cA} (hl:∀h,zt L h→zt L' h) {h:Hp} (hs:zt (A::L) h):zt (A::L') h:=by
 obtain⟨h1,h2,j1,a,l⟩:=hs;exact⟨h1,h2,j1,a,hl _ l⟩
theorem BV {L L':List cA} (hp:L.Perm L'):∀h,zt L h→zt L' h:=by
 induction hp with
 |nil=>exact fun h=>id
 |cons x _ ih=>exact fun h=>Lv ih
 |swap x y l=>exact fun h=>Lu
 |trans _ _ ih1 ih2=>exact fun h hs=>ih2 h (ih1 h hs)
def fo:List cA→Nat→cA
 |[],_=>emp
 |A::_,0=>A
 |_::L,n+1=>fo L n
def eS:List cA→Nat→List cA
 |[],_=>[]
 |_::L,0=>L
 |A::L,n+1=>A::eS L n
theorem ri:∀{L:List cA} {n:Nat},n<L.length→L.Perm (fo L n::eS L n)
 |A::L,0,_=>.refl _
 |A::L,n+1,h=>((ri (Nat.lt_of_succ_lt_succ h)).cons A).trans (.swap ..)
structure az (B H:ag) (L:List cA):Prop where
 ok:H.ok
 Lw:B.next≤H.next
 ro:∀id o,B.get id=some o→H.get id=some o∧∃e cs,o=.cells e cs true
 ex:∃h,(∀id o,h id=some o→H.get id=some o)∧zt L h
variable {B H:ag} {L L':List cA} {A A':cA}
theorem az.m0 (h:az B H L) (hp:L.Perm L'):az B H L':=
 ⟨h.ok,h.Lw,h.ro,let ⟨g,h1,h2⟩:=h.ex;⟨g,h1,BV hp _ h2⟩⟩
theorem az.up (h:az B H L) (n:Nat) (hn:Nat.blt n L.length=true:=by rfl):az B H (fo L n::eS L n):=
 h.m0 (ri (Nat.le_of_ble_eq_true hn))
theorem az.swap (h:az B H (A::A'::L)):az B H (A'::A::L):=h.m0 (.swap ..)
theorem az.imp (h:az B H (A::L)) (hi:∀g,A g→A' g):az B H (A'::L):=
 ⟨h.ok,h.Lw,h.ro,let ⟨g,h1,h2,h3,h4,h5,h6⟩:=h.ex;⟨g,h1,h2,h3,h4,hi _ h5,h6⟩⟩
theorem az.drop (h:az B H (A::L)):az B H L:=
 ⟨h.ok,h.Lw,h.ro,let ⟨g,h1,h2,h3,h4,h5,h6⟩:=h.ex;⟨h3,fun id o ho=>h1 id o (h4.Vs ho),h6⟩⟩
theorem az.Hm {p:Prop} (h:az B H (Hm p::L)):p∧az B H L:=
 let ⟨g,h1,h2,h3,h4,⟨h5,h7⟩,h6⟩:=h.ex
 ⟨h5,h.drop⟩
theorem az.pure {p:Prop} (h:az B H L) (hp:p):az B H (Am.Hm p::L):=
 ⟨h.ok,h.Lw,h.ro,let ⟨g,h1,h2⟩:=h.ex;⟨g,h1,_,g,lN.empty g,⟨hp,rfl⟩,h2⟩⟩
theorem az.M6 {α:Type} {A:α→cA} (h:az B H (EX A::L)):∃x,az B H (A x::L):=
 let ⟨g,h1,h2,h3,h4,⟨x,h5⟩,h6⟩:=h.ex
 ⟨x,h.ok,h.Lw,h.ro,g,h1,h2,h3,h4,h5,h6⟩
theorem az.intro {α:Type} {A:α→cA} {x:α} (h:az B H (A x::L)):az B H (EX A::L):=h.imp fun g hg=>⟨x,hg⟩
theorem az.kh (h:az B H (kh A A'::L)):az B H (A::A'::L):=by
 obtain⟨g,h1,h2,h3,h4,⟨h5,h6,h7,h8,h9⟩,xO⟩:=h.ex;obtain⟨ac,k1,k2⟩:=lN.swap h7 (h4.symm);exact⟨h.ok,h.Lw,h.ro,g,h1,h5,ac,k2,h8,h6,h3,k1.symm,h9,xO⟩
theorem az.oH (h:az B H (A::A'::L)):az B H (Am.kh A A'::L):=by
 obtain⟨g,h1,h5,ac,k2,h8,h6,h3,k1,h9,xO⟩:=h.ex;obtain⟨x,k3,k4⟩:=lN.swap k1.symm k2;exact⟨h.ok,h.Lw,h.ro,g,h1,x,h3,k4.symm,⟨h5,h6,k3,h8,h9⟩,xO⟩
theorem az.Tb (h:az B H L):az B H (Am.emp::L):=
 ⟨h.ok,h.Lw,h.ro,let ⟨g,h1,h2⟩:=h.ex;⟨g,h1,_,g,lN.empty g,rfl,h2⟩⟩
theorem az.get {id:Nat} {e:TypeId} {cs:List V} (h:az B H (dj id e cs::L)):H.get id=some (.cells e cs false):=by
 obtain⟨g,h1,h2,h3,h4,h5,h6⟩:=h.ex;exact h1 _ _ (h4.Vr (by rw[h5];simp))
theorem az.start (hB:B.ok) (hro:∀id o,B.get id=some o→∃e cs,o=.cells e cs true):az B B []:=
 ⟨hB,Nat.le_refl _,fun id o h=>⟨h,hro id o h⟩,fun _=>none,(fun id o h=>by cases h),rfl⟩
theorem az.alloc (h:az B H L) (e:TypeId) (cs:List V):az B (H.alloc (.cells e cs false)) (dj H.next e cs::L):=by
 obtain⟨g,h1,h2⟩:=h.ex;refine⟨h.ok.alloc _,Nat.le_succ_of_le h.Lw,fun id o ho=> ?_,fun j=>if j=H.next then some (.cells e cs false) else g j,fun id o ho=> ?_,_,g,fun i=> ?_,rfl,h2⟩
 ·have:=h.ok id o (h.ro id o ho).1;exact⟨by rw[ag.fW (by omega)];exact(h.ro id o ho).1,(h.ro id o ho).2⟩
 ·by_cases hid:id=H.next
  ·subst hid;simp only[if_pos] at ho;rw[ag.vZ,ho]
  ·simp only[if_neg hid] at ho;rw[ag.fW hid];exact h1 id o ho
 ·by_cases hid:i=H.next
  ·subst hid;right;refine⟨?_,by simp⟩
   cases hg:g H.next with
   |none=>rfl
   |some o=>have:=h.ok _ _ (h1 _ _ hg);omega
  ·left;simp [hid]
theorem az.put {id:Nat} {e:TypeId} {cs cs':List V} (h:az B H (dj id e cs::L)):az B (H.put id (.cells e cs' false)) (dj id e cs'::L):=by
 have Wv:=h.get;obtain⟨g,h1,h2,h3,h4,h5,h6⟩:=h.ex;subst h5;refine⟨h.ok.put Wv,h.Lw,fun j o ho=> ?_,fun j=>if j=id then some (.cells e cs' false) else h3 j,fun j o ho=> ?_,_,h3,fun i=> ?_,rfl,h6⟩
 ·have hj:=h.ro j o ho;refine⟨?_,hj.2⟩;by_cases he:j=id
  ·subst he;obtain⟨e',c',rfl⟩:=hj.2;rw[hj.1] at Wv;cases Wv
  ·rw[ag.lM he];exact hj.1
 ·by_cases hid:j=id
  ·subst hid;simp only[if_pos] at ho;rw[ag.Jl,ho]
  ·simp only[if_neg hid] at ho;rw[ag.lM hid];exact h1 j o (h4.Vs ho)
 ·by_cases hid:i=id
  ·subst hid;right;refine⟨?_,by simp⟩;rcases h4 i with⟨e1,_⟩|⟨e1,_⟩
   ·simp at e1
   ·exact e1
  ·left;simp [hid]
theorem az.store {id off:Nat} {e:TypeId} {cs vs:List V} (h:az B H (dj id e cs::L)):az B (H.store id off vs) (dj id e (bM cs off vs)::L):=by
 rw[ag.zr h.get];exact h.put
theorem az.rd (h:az B H L) {q:Oq} {cs:List V} (hr:Rd B q cs):Rd H q cs:=by
 rcases hr with hr|⟨id,off,e,l,ro,rfl,hg,ht⟩
 ·exact .inl hr
 ·exact .inr ⟨id,off,e,l,ro,rfl,(h.ro _ _ hg).1,ht⟩
def DM (el n:Nat) (q:Oq) (len cap:Nat) (cs:List V):cA:=fun h=>
 cs.length=len*n∧bf cs∧len≤cap∧
   ((q=none∧cap=0∧h=fun _=>none)∨∃id off l,q=some (id,off)∧off+cap*n≤l.length∧(l.drop off).take cs.length=cs∧dj id el l h)
section
variable {el n len cap:Nat} {q:Oq} {cs:List V}
theorem az.NY (h:az B H L) (el n:Nat):az B H (DM el n none 0 0 []::L):=
 h.Tb.imp fun g hg=>⟨by simp,fun v hv=>by simp at hv,Nat.le_refl _,.inl ⟨rfl,rfl,hg⟩⟩
theorem az.M7 (h:az B H (DM el n q len cap cs::L)):cs.length=len*n∧bf cs∧len≤cap∧((q=none∧cap=0∧az B H L)∨∃id off l,q=some (id,off)∧off+cap*n≤l.length∧(l.drop off).take cs.length=cs∧az B H (dj id el l::L)):=by
 obtain⟨g,h1,h2,h3,h4,⟨a,b,c,d⟩,h6⟩:=h.ex;refine⟨a,b,c, ?_⟩;rcases d with⟨d1,d2,d3⟩|⟨id,off,l,d1,d2,d3,d4⟩
 ·exact .inl ⟨d1,d2,h.drop⟩
 ·exact .inr ⟨id,off,l,d1,d2,d3,h.ok,h.Lw,h.ro,g,h1,h2,h3,h4,d4,h6⟩
theorem az.unbuf {id off:Nat} {l:List V} (h:az B H (dj id el l::L)) (h1:cs.length=len*n) (h2:bf cs) (h3:len≤cap) (h4:off+cap*n≤l.length) (h5:(l.drop off).take cs.length=cs):az B H (DM el n (some (id,off)) len cap cs::L):=
 h.imp fun g hg=>⟨h1,h2,h3,.inr ⟨id,off,l,rfl,h4,h5,hg⟩⟩
theorem az.Tc (h:az B H (DM el n q len cap cs::L)):Rd H q cs:=by
 obtain⟨h1,h2,h3,⟨rfl,hc,_⟩|⟨id,off,l,rfl,h4,h5,h6⟩⟩:=h.M7
 ·left;have:len=0:=by omega
  rw[this,Nat.zero_mul] at h1;exact List.length_eq_zero_iff.1 h1
 ·exact .inr ⟨id,off,el,l,false,rfl,h6.get,h5⟩
theorem az.Vt (h:az B H (DM el n q len cap cs::L)):W6 H el n q len cap cs:=by
 obtain⟨h1,h2,h3,⟨rfl,hc,_⟩|⟨id,off,l,rfl,h4,h5,h6⟩⟩:=h.M7
 ·exact⟨h1,h2,h3,.inl ⟨rfl,hc⟩⟩
 ·exact⟨h1,h2,h3,.inr ⟨id,off,l,rfl,h6.get,h4,h5⟩⟩
theorem az.DN (h:az B H L) {c:Nat} {l:List V} (h1:cs.length=len*n) (h2:bf cs) (h3:len≤c) (h4:c*n≤l.length) (h5:l.take cs.length=cs):az B (H.alloc (.cells el l false)) (DM el n (some (H.next,0)) len c cs::L):=
 (h.alloc el l).unbuf h1 h2 h3 (by omega) (by simpa using h5)
theorem az.FP {E:kz} {t u el n cN:Nat} {z:List V} (h:az B H (DM el n q len cap cs::L)) (he:fH E t=some (el,n,cN,z))
 (hz:bf z) (hzl:z.length=n) (hn:0<n) {m:Nat} {x:V} {src:List V} {ok:Nat→Bool} {cf:Nat→List V} (h1:mR H n cN z (bh E u) x=some (true,m,ok,cf)) (h2:ok m=true) (h3:cf m=src)
 (Hv:src.length=m*n) (h1s:bf src) (ic:(len+m)*(cN+1)≤70368744177664) {K:Oq→Nat→Nat→ag→Prop}
 (hk:∀q' c' H',(q'=q∨∃i,q'=some (i,0))→az B H' (DM el n q' (len+m) c' (cs++src)::L)→K q' (len+m) c' H'):aP E [t,u] [.slice q len cap,x] H K:=by
 have ho:=h.Vt;simp only[aP,he,h1,h3,av];have hcs:=ho.size;by_cases hroom:len+m≤cap
 ·have hb:Nat.ble (len+m) cap=true:=by simpa using hroom
  rw[hb,ak];by_cases hm:m=0
  ·subst hm;have hs:src=[]:=by simp at Hv;exact Hv
   subst hs;simp only[Nat.beq,Bool.true_or,av,cond_true];exact hk _ _ _ (.inl rfl) (by simpa using h)
  ·have hb:Nat.beq m 0=false:=by simp [hm]
   obtain⟨_,Bw,TF,⟨rfl,hc,_⟩|⟨id,off,l,rfl,h4,h5,h6⟩⟩:=h.M7
   ·omega
   ·have hle:(len+m)*n≤cap*n:=Nat.mul_le_mul_right _ hroom;rw[Nat.add_mul] at hle
    have hw:H.wr id (off+len*n) (m*n)=true:=by
     simp [ag.wr,h6.get];omega
    simp only[hb,Bool.false_or,Option.isSome_some,Bool.true_and,h2,Option.getD_some,hw,av,cond_false];refine hk _ _ _ (.inl rfl) (h6.store.unbuf ?_ ?_ hroom ?_ ?_)
    ·rw[List.length_append,hcs,Hv,Nat.add_mul]
    ·exact ho.one.append h1s
    ·rw[gI];exact h4
    ·rw[←hcs];exact Ro h5 (by omega)
 ·have hb:Nat.ble (len+m) cap=false:=by simp;omega
  have QC:Nat.ble ((len+m)*(cN+1)) 70368744177664=true:=by simpa using ic
  have hrow:pD H n q len=true:=by
   by_cases h0:len=0
   ·subst h0;rfl
   ·have hne:cs≠[]:=by
     intro e;have:=ho.size;rw[e] at this;have:=Nat.mul_pos (Nat.pos_of_ne_zero h0) hn;simp at*;omega
    simp only[pD,Bool.or_eq_true,Bool.and_eq_true];exact .inr ⟨ho.rd.some hne,ho.rd.NW (by rw[ho.size];omega) hne,rf (by rw[←ho.size,ho.rd.all hne];exact ho.one)⟩
  have hold:(bif Nat.beq len 0 then [] else H.sub (q.getD (0,0)).1 (q.getD (0,0)).2 (len*n))=cs:=by
   by_cases h0:len=0
   ·subst h0;have:=ho.size;simp at this;subst this;rfl
   ·have hz:Nat.beq len 0=false:=by simp [h0]
    have hne:cs≠[]:=by
     intro e;have:=ho.size;rw[e] at this;have:=Nat.mul_pos (Nat.pos_of_ne_zero h0) hn;simp at*;omega
    simp only[hz,cond_false];rw[←ho.size,ho.rd.all hne]
  rw[hb,ai,hrow,h2,QC,hold];simp only[Bool.and_self,av];intro c G8 Ht;have hd:az B H L:=h.drop;refine hk _ _ _ (.inr ⟨_,rfl⟩) (hd.DN ?_ ?_ G8 ?_ ?_)
  ·rw[List.length_append,hcs,Hv,Nat.add_mul]
  ·exact ho.one.append h1s
  ·have:(c-(len+m))*n+(len+m)*n=c*n:=by rw[←Nat.add_mul];congr 1;omega
   rw[Nat.add_mul] at this;simp only[ym,dU,List.length_append,gg,hzl,hcs,Hv];omega
  ·simp only[ym];rw[←List.append_assoc,List.take_left' rfl]
theorem az.zu {E:kz} {t u el n cN:Nat} {z:List V} (h:az B H (DM el n q len cap cs::L)) (he:fH E t=some (el,n,cN,z))
 (hz:bf z) (hzl:z.length=n) (hn:0<n) {m:Nat} {x:V} {src:List V} {ok:Nat→Bool} {cf:Nat→List V} (h1:mR H n cN z (bh E u) x=some (true,m,ok,cf)) (h2:ok m=true) (h3:cf m=src)
 (Hv:src.length=m*n) (h1s:bf src) (ic:(len+m)*(cN+1)≤70368744177664) {K:Oq→Nat→Nat→ag→Prop}
 (hk:∀q' c' H',az B H' (DM el n q' (len+m) c' (cs++src)::L)→K q' (len+m) c' H'):aP E [t,u] [.slice q len cap,x] H K:=
 h.FP he hz hzl hn h1 h2 h3 Hv h1s ic fun q' c' H' _=>hk q' c' H'
theorem zw {n cN:Nat} {z:List V} {k:Option cg} {x:V} (h:iO k=true):mR H n cN z k x=match ly H n x with|some (m,ok,cs)=>some (true,m,ok,cs)|none=>none:=by
 unfold mR;split
 ·cases h
 ·rw[h];rfl
theorem az.append {E:kz} {t u el n cN:Nat} {z:List V} (h:az B H (DM el n q len cap cs::L)) (he:fH E t=some (el,n,cN,z)) (hu:iO (bh E u)=true)
 (hz:bf z) (hzl:z.length=n) (hn:0<n) {m:Nat} {x:V} {src:List V} (hx:Vq H n x m src) (ic:(len+m)*(cN+1)≤70368744177664) {K:Oq→Nat→Nat→ag→Prop}
 (hk:∀q' c' H',az B H' (DM el n q' (len+m) c' (cs++src)::L)→K q' (len+m) c' H'):aP E [t,u] [.slice q len cap,x] H K:=by
 obtain⟨ok,cf,h1,h2,h3⟩:=FO hx hn;exact h.zu he hz hzl hn (by rw[zw hu,h1]) h2 h3 hx.1 hx.2.1 ic hk
theorem az.Rq {E:kz} {t u el n cN:Nat} {z:List V} (h:az B H (DM el n q len cap cs::L)) (he:fH E t=some (el,n,cN,z)) (hu:bh E u=some (.int .i64))
 (hz:bf z) (hzl:z.length=n) (hn:0<n) {m:Int} (h0:0≤m) (ic:(len+m.toNat)*(cN+1)≤70368744177664) {K:Oq→Nat→Nat→ag→Prop}
 (hk:∀q' c' H',az B H' (DM el n q' (len+m.toNat) c' (cs++hJ m.toNat z)::L)→K q' (len+m.toNat) c' H'):aP E [t,u] [.slice q len cap,.int .i64 m] H K:=by
 have hb:m*(cN+1)≤70368744177664:=by
  have h1:m.toNat*(cN+1)≤(len+m.toNat)*(cN+1):=Nat.mul_le_mul_right _ (by omega);have h2:((m.toNat*(cN+1):Nat):Int)=m*(cN+1):=by rw[Int.natCast_mul,Int.toNat_of_nonneg h0];rfl
  omega
 refine h.zu (x:=.int .i64 m) (u:=u) (ok:=fun _=>true) (cf:=fun j=>dU j z) he hz hzl hn ?_ rfl rfl ?_ (gE hz _) ic hk
 ·rw[hu];show some (decide (0≤m)&&decide (m*(cN+1)≤70368744177664),_)=_
  rw[decide_eq_true h0,decide_eq_true hb];rfl
 ·show (hJ _ z).length=_
  rw[gg,hzl]
end
def bj (bs:List UInt8):List V:=bs.map fun b=>.int .u8 b.toNat
def cJ (bs:List UInt8):ByteArray:=⟨bs.toArray⟩
@[simp] theorem oI (bs:List UInt8):(bj bs).length=bs.length:=by simp [bj]
@[simp] theorem Vu:bj []=[]:=rfl
@[simp] theorem jD (a b:List UInt8):bj (a++b)=bj a++bj b:=by simp [bj]
theorem mG (a:List UInt8) (n:Nat):(bj a).take n=bj (a.take n):=by simp [bj]
theorem qi (a:List UInt8) (n:Nat):(bj a).drop n=bj (a.drop n):=by simp [bj]
theorem jE (bs:List UInt8):bf (bj bs):=by
 intro v hv;simp only[bj,List.mem_map] at hv;obtain⟨b,_,rfl⟩:=hv;rfl
theorem zx:∀{bs:List UInt8} {i:Nat} (h:i<bs.length),ae (bj bs) i=.int .u8 (bs[i].toNat:Int)
 |b::bs,0,h=>rfl
 |b::bs,i+1,h=>by
  show ae (bj bs) i=_
  rw[zx (Nat.lt_of_succ_lt_succ h)];rfl
theorem zy:∀bs:List UInt8,HC (.int .u8) (bj bs)=true
 |[]=>rfl
 |b::bs=>by
  show (V.aw (.int .u8) (.int .u8 (b.toNat:Int))&&HC (.int .u8) (bj bs))=true
  rw[zy bs];rfl
theorem o6:∀(bs:List UInt8) (acc:ByteArray),dz (bj bs) acc=⟨acc.data++bs.toArray⟩
 |[],acc=>by simp [dz,bj]
 |b::bs,acc=>by
  show dz (bj bs) (acc.push (UInt8.ofNat (V.aa (.int .u8 (b.toNat:Int))).toNat))=_
  rw[o6 bs];simp [ByteArray.push]
theorem Ij (bs:List UInt8):dz (bj bs) ByteArray.empty=cJ bs:=by
 rw[o6];show (⟨#[]++bs.toArray⟩:ByteArray)=⟨bs.toArray⟩
 simp
theorem Lx {a b:List UInt8}:cJ a=cJ b↔a=b:=by
 constructor
 ·intro h;have:=congrArg (fun s=>s.data.toList) h;simpa [cJ] using this
 ·rintro rfl;rfl
theorem Ly:cJ []=ByteArray.empty:=rfl
def lO (H:ag) (q:Oq) (bs:List UInt8):Prop:=Rd H q (bj bs)
def Y4 (el:Nat) (q:Oq) (cap:Nat) (bs:List UInt8):cA:=DM el 1 q bs.length cap (bj bs)
theorem az.iV {el cap:Nat} {q:Oq} {bs:List UInt8} (h:az B H (Y4 el q cap bs::L)):lO H q bs:=h.Tc
theorem lO.src {q:Oq} {bs:List UInt8} (h:lO H q bs) (c:Nat):Vq H 1 (.slice q bs.length c) bs.length (bj bs):=
 ⟨by simp,jE bs,.inl ⟨q,c,rfl,h⟩⟩
theorem lO.part {q:Oq} {bs:List UInt8} (h:lO H q bs) (i k:Nat) (hi:i+k≤bs.length):lO H (bN q i) ((bs.drop i).take k):=by
 cases q with
 |none=>
  rcases h with h|⟨_,_,_,_,_,h,_⟩
  ·have:bs=[]:=by simpa [bj] using h
   subst this;left;simp
  ·cases h
 |some q=>
  have:=Rd.part h (q:=some q) (id:=q.1) (off:=q.2) rfl i k (by simpa using hi);unfold lO;rw[←mG, ←qi];exact this
theorem lO.nil (H:ag) (q:Oq):lO H q []:=.inl rfl
theorem lO.at {q:Oq} {bs:List UInt8} (h:lO H q bs) {i:Nat} (hi:i<bs.length):q.isSome=true∧H.inb (q.getD (0,0)).1 ((q.getD (0,0)).2+i) 1=true∧H.cell (q.getD (0,0)).1 ((q.getD (0,0)).2+i)=.int .u8 (bs[i].toNat:Int):=by
 have hne:bj bs≠[]:=by
  intro e;have:=congrArg List.length e;simp at this;subst this;simp at hi
 refine⟨Rd.some h hne,Rd.inb h (by simp;omega) hne, ?_⟩;rw[Rd.cell h (by simpa using hi),zx hi]
theorem lO.eX {q:Oq} {bs:List UInt8} (h:lO H q bs):eX H q bs.length=true:=by
 unfold Am.eX;by_cases h0:bs=[]
 ·subst h0;simp [Nat.beq]
 ·have hne:bj bs≠[]:=by
   intro e;have:=congrArg List.length e;simp at this;exact h0 this
  have h4:=Rd.NW h (k:=bs.length) (by simp) hne
  have h5:H.sub (q.getD (0,0)).1 (q.getD (0,0)).2 bs.length=bj bs:=by
   have:=Rd.all h hne;simpa using this
  rw[h4,h5,zy];simp
theorem lO.eY {q:Oq} {bs:List UInt8} (h:lO H q bs):eY H q bs.length=cJ bs:=by
 unfold Am.eY;by_cases h0:bs=[]
 ·subst h0;have e:Nat.beq ([]:List UInt8).length 0=true:=rfl;rw[e,Bool.or_true,cond_true,Ly]
 ·have hne:bj bs≠[]:=by
   intro e;have:=congrArg List.length e;simp at this;exact h0 this
  have h1:=Rd.some h hne;have h2:q.isNone=false:=by cases q<;>simp_all
  have h3:Nat.beq bs.length 0=false:=by simp [h0]
  have h5:H.sub (q.getD (0,0)).1 (q.getD (0,0)).2 bs.length=bj bs:=by
   have:=Rd.all h hne;simpa using this
  rw[h2,h3,h5,Ij];rfl
theorem dF {id:Nat} {e:TypeId} {cs:List V} {ro:Bool} (hg:H.get id=some (.cells e cs ro)) (off n:Nat):H.inb id off n=Nat.ble (off+n) cs.length:=by simp only[ag.inb,hg]
theorem fK {id:Nat} {e:TypeId} {cs:List V} (hg:H.get id=some (.cells e cs false)) (off n:Nat):H.wr id off n=Nat.ble (off+n) cs.length:=by simp only[ag.wr,hg,Bool.not_false,Bool.true_and]
theorem aY {id:Nat} {e:TypeId} {cs:List V} {ro:Bool} (hg:H.get id=some (.cells e cs ro)) (off:Nat):H.cell id off=ae cs off:=by simp only[ag.cell,ag.cs,hg]
theorem kT {id:Nat} {e:TypeId} {cs:List V} {ro:Bool} (hg:H.get id=some (.cells e cs ro)) (off n:Nat):H.sub id off n=(cs.drop off).take n:=by simp only[ag.sub,ag.cs,hg]
def kU (B:ag) (L:List cA) (q:Oq) (bs:List UInt8):Prop:=∀H,az B H L→lO H q bs
theorem kU.nil (B:ag) (L:List cA) (q:Oq):kU B L q []:=fun H _=>lO.nil H q
theorem kU.part {q:Oq} {bs:List UInt8} (h:kU B L q bs) (i k:Nat) (hi:i+k≤bs.length):kU B L (bN q i) ((bs.drop i).take k):=fun H hs=>(h H hs).part i k hi
theorem kU.bW {q:Oq} {bs:List UInt8} (h:kU B L q bs) (A:cA):kU B (A::L) q bs:=fun H hs=>h H hs.drop
theorem kU.of {q:Oq} {bs:List UInt8} (h:lO B q bs):kU B L q bs:=fun H hs=>hs.rd h
theorem kU.byt {el cap:Nat} {q:Oq} {bs:List UInt8}:kU B (Y4 el q cap bs::L) q bs:=fun H hs=>hs.iV
@[simp] theorem gJ (q:Oq):bN q 0=q:=by rcases q with _|⟨a,b⟩<;>rfl
@[simp] theorem Vv (q:Oq) (a b:Nat):bN (bN q a) b=bN q (a+b):=by rcases q with _|⟨x,y⟩<;>simp [bN,Nat.add_assoc]
theorem aN (c a b:Bool):aK c a b=if c=true then a else b:=by cases c<;>cases a<;>cases b<;>rfl
end Go.Am
end
