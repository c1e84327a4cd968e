/- Part 2 of the texts behind the law UnitTwins: what its row needs (an abstract machine, its equations, and what the program computes). -/
import Derived.Scope
import Derived.IntWalk
import Derived.Laws.Externs
import Derived.Test.YtlgdkndamddpkaaGreatProg
import Derived.KernelRfl
import Derived.Lib.Builder
import Derived.Lib.UnsafeStr
import Derived.Lib.Walk
import Derived.WalkKit
import Derived.Test.YtlgdkndamddpkaaGreatP1
set_option maxRecDepth 100000
set_option linter.unusedSimpArgs false
set_option linter.unusedVariables false
set_option linter.unusedSectionVars false
section
namespace Go.Am
section
variable {E:jR} {H0:ag} {ρ0:da} {w0:World} {ann:bO} {N:Nat} {ρ lam:da} {S:St} {a:Act} {w:World}
theorem xV {g:Value→ByteArray→Sem (ForInStep ByteArray)} (hg:∀n r,g (.int .u8 n) r=pure (.yield (r.push (UInt8.ofNat n.toNat)))):
 ∀(vs:List V) (us:List Value) (acc:ByteArray),ea ρ vs us→Gn (.int .u8) vs=true→
 (forIn us acc g:Sem ByteArray).run E.P w=.ok (cX vs acc) w
 |[],us,acc,h,_=>by rw[h.fW];simp [cX]
 |v::vs,us,acc,h,hk=>by
  obtain⟨u,m,rfl,h1,h2⟩:=h.cT;rw[Gn,Bool.and_eq_true] at hk
  have hv:∃n,v=.int .u8 n:=by
   cases v<;>simp [V.aw] at hk
   exact⟨_,by rw[hk.1]⟩
  obtain⟨n,rfl⟩:=hv;rw[h1.hJ];have ih:=xV hg vs m (acc.push (UInt8.ofNat n.toNat)) h2 hk.2;simp only[List.forIn_cons,hg,Sem.run_bind,Sem.run_pure,Result.andThen_ok,cX,V.aa];exact ih
theorem GB {p:Nat×Nat} {c:Nat} {x:Value} (hx:VR ρ (.slice (some p) 0 c) x):(Conv.bytesToString x).run E.P w=.ok (.string .empty) w:=by
 obtain⟨id,off⟩:=p;rcases hx.eO with⟨b,_,rfl⟩|⟨_,_,a,rfl⟩
 ·simp [Conv.bytesToString,loadCells,loadCellsFrom]
 ·simp [Conv.bytesToString,loadCells,loadCellsFrom]
theorem Ep {H:ag} (hr:HR ρ H w) {id off len c:Nat} {x:Value} (hx:VR ρ (.slice (some (id,off)) len c) x) (h:H.inb id off len=true) (hk:Gn (.int .u8) (H.sub id off len)=true):
 (Conv.bytesToString x).run E.P w=.ok (.string (cX (H.sub id off len) ByteArray.empty)) w:=by
 obtain⟨e,cs,ro,hg,hle,b,hb,cs',fz,hcell,hvs,_,_⟩:=xM hr h;rcases hx.eO with⟨b',hb',rfl⟩|⟨h0,_,a,rfl⟩;rotate_left
 ·subst h0;simp [Conv.bytesToString,loadCells,loadCellsFrom,ag.sub,cX]
 rw[hb] at hb';cases hb';have hsub:H.sub id off len=(cs.drop off).take len:=by simp [ag.sub,ag.cs,hg]
 have hlen:cs'.size=cs.length:=by have:=hvs.1;simp at this;omega
 have hrun:=run_loadCells_list (P:=E.P) w ⟨b,off,none⟩ ((cs'.toList.drop off).take len) (by
  intro j v hv;rw[fK,qf hcell];rw[List.getElem?_take] at hv;split at hv
  ·rw[List.getElem?_drop] at hv;simpa using hv
  ·cases hv)
 have hl:((cs'.toList.drop off).take len).length=len:=by simp;omega
 rw[hl] at hrun;simp only[Conv.bytesToString,Sem.run_bind,hrun,Result.andThen_ok, ←Array.forIn_toList];rw[xV (E:=E) (fun n r=>rfl) (H.sub id off len) ((cs'.toList.drop off).take len) ByteArray.empty (by rw[hsub];exact(hvs.drop off).take len) hk];rfl
theorem vQ {o:Oper} {ev:Ev} {e:Operand→Value} (cL:oW ρ lam ev e) {H:ag} (hr:HR ρ H w) {d:fw T} (h:db E o.op ev H=some d) (hq:d.rq=true):∃v,(execOp e o).run E.P w=.ok (.value v) w∧TR ρ lam (if d.c=true then d.x else d.y) v:=by
 obtain⟨dst,op,type,iV,after,guard⟩:=o
 cases op with
 |load t a=>
  simp only[db] at h;split at h
  ·rename_i id off ha;obtain⟨b,hb,he⟩:=(cL.tv ha).uR
   have key:∀n,H.inb id off n=true→∃cs e ro,H.get id=some (.cells e cs ro)∧fC ρ e cs (!ro) w.heap[b]? ∧off+n≤cs.length:=by
    intro n hn;obtain⟨e,cs,ro,hg,hle,b',hb',hc⟩:=xM hr hn;rw[hb] at hb';cases hb';exact⟨cs,e,ro,hg,hc,hle⟩
   split at h
   ·rename_i k hk;simp only[Option.some.injEq] at h;subst h;simp only[fw.one,Bool.and_eq_true] at hq;obtain⟨cs,el,ro,hg,hc,hle⟩:=key 1 hq.1;have hcell:H.cell id off=ae cs off:=by simp [ag.cell,ag.cs,hg]
    obtain⟨v',h1,h2⟩:=nR (E:=E) (t:=t) (off:=off) (r:=true) (v:=(H.cell id off).QH k) hc (by
     simp only[l6,hk,hcell,Option.some.injEq,Prod.mk.injEq,and_true];rw[hcell] at hq
     simp [hq.2];omega) rfl (fun cs' he=>by rw[V.rk hq.2] at he;have:=V.rm hq.2;rw[he] at this;cases this)
    exact⟨v',by simp [execOp,Instr.loadAt,he,Instr.sureAddr,h1],.v h2⟩
   ·rename_i hk;split at h
    ·rename_i ks n hks hn;simp only[Option.some.injEq] at h;subst h;simp only[fw.one,Bool.and_eq_true] at hq;obtain⟨cs,el,ro,hg,hc,hle⟩:=key n hq.1;have hsub:H.sub id off n=(cs.drop off).take n:=by simp [ag.sub,ag.cs,hg]
     obtain⟨v',h1,h2⟩:=nR (E:=E) (t:=t) (off:=off) (r:=true) (v:=.agg ((cs.drop off).take n)) hc (by
      simp only[l6,hk,hks,hn,Option.some.injEq,Prod.mk.injEq,and_true]
      simpa using hle) rfl (fun cs' he=>by cases he;exact .inr (jD (hsub▸hq.2)))
     refine⟨v',by simp [execOp,Instr.loadAt,he,Instr.sureAddr,h1],.v ?_⟩;rw[km hq.2 rfl,hsub];exact h2
    ·cases h
  ·cases h
 |convert s t x=>
  simp only[db] at h;split at h
  ·rename_i ti p len c my hk hx;obtain⟨ds,qG,hds⟩:=dh my;obtain⟨dt,kh,hdt⟩:=bG hk;split at h
   ·rename_i el hs;rw[hs] at hds;cases hO hds;split at h
    ·rename_i hel;obtain⟨de,Qm,Oo⟩:=bG hel;simp only[Option.some.injEq] at h;subst h;cases dt<;>simp [bf,cC] at hdt
     cases de<;>simp [bf,cC] at Oo
     subst Oo;have hv:=cL.v hx;change eG H p len=true at hq
     show∃v,_∧TR ρ lam (T.v (V.dS (eH H p len))) v
     unfold eG at hq;unfold eH
     cases p with
     |none=>
      have he:=hv.kN;exact⟨.string .empty,by simp [execOp,convert,run_underlying qG,run_underlying kh,run_underlying Qm,he,Conv.bytesToString],.v (.dS _)⟩
     |some q=>
      obtain⟨id,off⟩:=q
      have HF:∃a n c',e x=.slice a n c':=by
       rcases hv.eO with⟨b,_,he⟩|⟨_,_,a,he⟩
       ·exact⟨_,_,_,he⟩
       ·exact⟨_,_,_,he⟩
      obtain⟨a,n,c',he⟩:=HF;by_cases h0:len=0
      ·subst h0;have hb:=GB (E:=E) (w:=w) hv;rw[he] at hb;exact⟨.string .empty,by simp [execOp,convert,run_underlying qG,run_underlying kh,run_underlying Qm,he,hb],.v (.dS _)⟩
      have hz:Nat.beq len 0=false:=by rw[aP];simp [h0]
      simp only[Option.isNone_some,Bool.false_or,hz,Option.getD_some,Bool.and_eq_true] at hq;have hb:=Ep (E:=E) hr hv hq.1 hq.2;rw[he] at hb;simp only[Option.isNone_some,hz,Bool.or_self,cond_false,Option.getD_some];exact⟨_,by simp [execOp,convert,run_underlying qG,run_underlying kh,run_underlying Qm,he,hb],.v (.dS _)⟩
    ·cases h
   ·cases h
  ·cases h
 |lookup t x i c=>
  simp only[db] at h;split at h
  ·rename_i ti r k n my hx hi;obtain⟨ds,qG,hds⟩:=dh my;split at h
   ·rename_i kt et hsh;rw[hsh] at hds;cases ta hds;split at h
    ·rename_i k' ei hk Yf;split at h
     ·rename_i z hz;split at h
      ·rename_i b y hy;obtain⟨dk,UX,hdk⟩:=bG hk;have Ot:dk=.int k':=by cases dk<;>simp_all [bf,cC]
       subst Ot
       have Zq:oK k k'=true∧dR H k r=true∧b=true:=by
        cases c<;>(simp only[Option.some.injEq] at h;subst h;simpa [fw.one] using hq)
       obtain⟨hkk,hok,hb⟩:=Zq;have hkk:k=k':=by simpa using hkk
       subst hkk;obtain⟨z',DB,xf⟩:=O6 Yf hz ρ w;obtain⟨v',hv,hrun⟩:=Cv (E:=E) (n:=n) qG UX DB xf hr (cL.v hx) hok c;have hyy:=kQ hy hb;have hi':=(cL.v hi).hJ
       cases c with
       |true=>
        simp only[Option.some.injEq] at h;subst h;simp only[if_true] at hrun;refine⟨.tuple #[v',.bool (kC H r n)],by simp [execOp,hi',hrun], ?_⟩;rw[hyy];exact .v (.gj (.cons hv (.cons (.bool _) (.nil ρ))))
       |false=>
        simp only[Option.some.injEq] at h;subst h;simp only[Bool.false_eq_true,if_false] at hrun;refine⟨v',by simp [execOp,hi',hrun], ?_⟩;rw[hyy];exact .v hv
      ·cases h
     ·cases h
    ·cases h
   ·cases h
  ·cases h
 |entry it=>
  simp only[db] at h;split at h
  ·rename_i t id hit;split at h
   ·rename_i ti my;split at h
    ·rename_i kt et hsh;split at h
     ·rename_i ra x rb y hx hy;simp only[Option.some.injEq] at h;subst h;simp only[fw.one,Bool.and_eq_true] at hq;obtain⟨b,hb,he⟩:=(cL.tv hit).D8;obtain⟨k,v,hrun,hk,hv⟩:=Cx (E:=E) hr hb hq.1;refine⟨.tuple #[k,v],by simp [execOp,he,hrun], ?_⟩;rw[kQ hx hq.2.1,kQ hy hq.2.2];exact .v (.gj (.cons hk (.cons hv (.nil ρ))))
     ·cases h
    ·cases h
   ·cases h
  ·cases h
 |call c=>
  simp only[db] at h;split at h
  ·rename_i t ts r DF hts hargs;split at h
   ·rename_i hk;obtain⟨dt,kh,hdt⟩:=bG hk;obtain⟨kt,et,rfl⟩:∃kt et,dt=.map kt et:=by cases dt<;>simp_all [bf,cC]
    simp only[Option.some.injEq] at h;subst h;have ha:ea ρ [.map r] (c.args.map e).toList:=by simpa using cL.vs hargs
    obtain⟨x',r1,Ai,hx',nt⟩:=ha.cT;have Ah:=nt.fW;subst Ah
    have pZ:c.args.map e= #[x']:=by
     apply Array.ext';rw[Ai]
    have Lg:c.argTypes[0]? =some t:=by
     rw[←Array.getElem?_toList,hts];rfl
    have hq:(r.isNone||H.isMap (r.getD 0))=true:=hq
    have hrun:(Builtin.len_ c.argTypes type (c.args.map e)).run E.P w=.ok (.int .i64 (xj H r)) w:=by
     rw[pZ]
     cases r with
     |none=>
      cases hx';simp [Builtin.len_,Lg,run_underlying kh,xj,goInt]
     |some id=>
      have hg:=rP (by simpa using hq);obtain⟨b,hb,es',he,FV⟩:=hr.vM id _ hg
      cases hx' with
      |map hb'=>
       rw[hb] at hb';cases hb';have hl:=Ek FV;simp [Builtin.len_,Lg,run_underlying kh,gE (E:=E) he,xj,goInt,hl]
    refine⟨.int .i64 (xj H r), ?_,.v (.int _ _)⟩;simp only[execOp,resolve,DF,invoke,builtin,Sem.run_bind,Sem.run_pure,Result.andThen_ok,hrun]
   ·cases h
  ·cases h
 |_=>simp [db] at h
theorem qX {e:Operand→Value} {c:Call} {type:TypeId} {f:Operand} (hc:c.callee=.value f):resolve e c type=Deferred.ofValue (e f) (c.args.map e):=by
 simp [resolve,hc]
theorem xW {fn:Func} {f:Nat} (h:E.P.funcs[f]? =some fn):(fn.name == "runtime.NumGoroutine")=false:=by
 have h1:=List.all_eq_true.1 E.names fn (by
  rw[Array.mem_toList_iff]
  exact Array.mem_of_getElem? h)
 simpa using h1
theorem LW {e:Operand→Value} {o:Oper} {c:Call} {f:Operand} {g:FuncId} {fi cap:Array Value} {fn:Func} (ho:o.op=.call c) (hc:c.callee=.value f) (he:e f=.func (.func g) fi cap) (hf:E.P.funcs[g]? =some fn) (hb:fn.body.isSome=true) (w:World):(execOp e o).run E.P w=.ok (.enter g (fi++c.args.map e++cap)) w:=by
 have hn:¬fn.name= "runtime.NumGoroutine" :=by simpa using xW hf
 have hb':¬fn.body=none:=by cases h:fn.body<;>simp_all
 simp [execOp,ho,qX hc,he,Deferred.ofValue,invoke,callFunc,hf,hn,hb']
theorem td {e:Operand→Value} {o:Oper} {c:Call} {f:Operand} {g:FuncId} {fi cap:Array Value} (ho:o.op=.call c) (hc:c.callee=.value f) (he:e f=.func (.func g) fi cap) (w:World):(execOp e o).run E.P w=(callFunc g (fi++c.args.map e++cap)).run E.P w:=by
 simp [execOp,ho,qX hc,he,Deferred.ofValue,invoke]
theorem cg {P:Program} {o:Oper} {a:Act} {next:Act→World→Prop} {Q:Exit→Act→World→Prop} {w w':World} {v:Value} (h:(execOp a.eval o).run P w=.ok (.value v) w') (hn:next (a.put o.dst v) w'):o.wp P a w next Q:=by
 unfold Oper.wp;rw[h];exact hn
theorem uX {P:Program} {o:Oper} {a:Act} {next:Act→World→Prop} {Q:Exit→Act→World→Prop} {w w':World} (h:(execOp a.eval o).run P w=.ok .skip w') (hn:next (a.put o.dst undef) w'):o.wp P a w next Q:=by
 unfold Oper.wp;rw[h];exact hn
theorem fS (h:SR H0 ρ0 w0 ann N ρ lam S a w) {o:Oper} {r:Bool} {x:T} {H':ag} (ho:bP E o.op (cH S.tm) S.hp=some (r,x,H')) (hr:r=true):∃ρ' v w',(execOp a.eval o).run E.P w=.ok (.value v) w'∧SR H0 ρ0 w0 ann N ρ' lam {S with hp:=H'} a w'∧TR ρ' lam x v:=by
 have cL:=h.ev;obtain⟨dst,op,type,iV,after,guard⟩:=o
 cases op with
 |buildSlice t len parts=>
  simp only[bP] at ho;split at ho
  ·rename_i ti ps my hps;obtain⟨ds,qG,hds⟩:=dh my;split at ho
   ·rename_i el hsh;rw[hsh] at hds;cases hO hds;split at ho
    ·rename_i n ei hsz Yf;split at ho
     ·rename_i z hz;obtain⟨z',DB,xf,hz3⟩:=uV (E:=E) Yf hz ρ w
      cases hb:(Nat.beq z.cells.length n&&rz n&&Nat.ble (len*n) 16777216) with
      |false=>simp [hb] at ho
      |true=>
       simp only[hb,cond_true] at ho;simp only[Bool.and_eq_true] at hb;have hn:z.cells.length=n:=Nat.eq_of_beq_eq_true hb.1.1
       have hp:0<n:=by
        have:=hb.1.2
        cases n with
        |zero=>cases this
        |succ n=>omega
       have hle:len*n≤16777216:=Nat.le_of_ble_eq_true hb.2;split at ho
       ·rename_i r' cs hcs;simp only[Option.some.injEq,Prod.mk.injEq] at ho;obtain⟨rfl,rfl,rfl⟩:=ho;obtain⟨h1,h2⟩:=me cL hps;have DC:(parts.map fun p=>(p.1,a.eval p.2)).toList=parts.toList.map fun p=>(p.1,a.eval p.2):=by simp
        obtain⟨zc,Ld⟩:∃zc:Array Value,zc=if len*n=0 then #[] else z'.cells:=⟨_,rfl⟩
        have hrow:ea ρ (gM len z.cells) ((Array.range (len*n)).map (zc[· % zc.size]!)).toList:=by
         by_cases h0:len*n=0
         ·have hl:len=0:=by
           rcases Nat.mul_eq_zero.1 h0 with h|h
           ·exact h
           ·omega
          subst hl;simpa [gM] using ea.nil ρ
         ·rw[if_neg h0] at Ld;rw[Ld];exact Ej xf hn hp
        obtain⟨out',h3,h4,h5⟩:=nQ (E:=E) (place':=fun j=>some (j*n,n)) (by
         intro i off t m Gc hm;simp only[Option.some.injEq,Prod.mk.injEq] at Gc⊢;obtain⟨h1,rfl⟩:=Gc;rw[hsz] at hm
         exact⟨h1,Option.some.inj hm⟩) h1 h2 hrow (gk hz3 len) hcs hr
        rw[←DC] at h3;have Ou:hT (.cells out' el) w {w with heap:=w.heap.push (.cells out' el)}:=⟨rfl,rfl,rfl,rfl⟩
        refine⟨_,.slice (some ⟨w.heap.size,0,none⟩) len len,{w with heap:=w.heap.push (.cells out' el)}, ?_,h.Cn Ou (x:=.cells el cs false) (ig h4 h5),
         .v (.slice _ _ (by rw[dO,if_pos rfl]))⟩
        have gV:¬len*n>2 ^ 24:=by omega
        by_cases h0:len*n=0
        ·rw[if_pos h0] at Ld;subst Ld;simp only[execOp,Instr.buildSlice,Sem.run_bind,run_underlying qG,Result.andThen_ok,eQ hsz,if_neg gV,if_pos h0,h3,Sem.run_pure,newRow,newObj];rfl
        ·rw[if_neg h0] at Ld;subst Ld;simp only[execOp,Instr.buildSlice,Sem.run_bind,run_underlying qG,Result.andThen_ok,eQ hsz,if_neg gV,if_neg h0,DB,h3,Sem.run_pure,newRow,newObj];rfl
       ·cases ho
     ·cases ho
    ·cases ho
   ·cases ho
  ·cases ho
 |makeSlice t len cap=>
  simp only[bP] at ho;split at ho
  ·rename_i el n cB z k l k' c hel hl hc
   simp only[Option.some.injEq,Prod.mk.injEq] at ho;obtain⟨rfl,rfl,rfl⟩:=ho;simp only[Bool.and_eq_true,decide_eq_true_eq] at hr;obtain⟨cU,z',kh,hi,hz,hsz,hby,hzl,hpos,hzs,Qo,Oi⟩:=qg hel;have e1:=(cL.v hl).hJ;have e2:=(cL.v hc).hJ;have hrun:=zV (E:=E) (w:=w) (t:=t) (cB:=0) (n:=0) (z:=[]) kh hi hz (by omega) (by omega) (k:=k) (k':=k') hr.1 hr.2.1 (by rw[hby];exact hr.2.2);have hp:hT (.cells (Builtin.zeroCells z'.cells c.toNat) el) w (w.alloc (.cells (Builtin.zeroCells z'.cells c.toNat) el)):=⟨rfl,rfl,rfl,rfl⟩
   exact⟨_,.slice (some ⟨w.heap.size,0,none⟩) l.toNat c.toNat,w.alloc (.cells (Builtin.zeroCells z'.cells c.toNat) el),by simp [execOp,e1,e2,hrun],h.Cn hp (x:=.cells el (gM c.toNat z) false) (ig (lL (Oi ρ) hzl hpos _) (gk Qo _)),
    .v (.slice _ _ (by rw[dO,if_pos rfl]))⟩
  ·cases ho
 |convert s d x=>
  simp only[bP] at ho;split at ho
  ·rename_i p len cap ti hk hx my;obtain⟨ds,qG,hds⟩:=bG hk;obtain⟨dd,hud,Ov⟩:=dh my;split at ho
   ·rename_i e hsh;rw[hsh] at Ov;cases hO Ov;split at ho
    ·rename_i hel;obtain⟨de,Qm,Oo⟩:=bG hel;simp only[Option.some.injEq,Prod.mk.injEq] at ho;obtain⟨rfl,rfl,rfl⟩:=ho;simp only[Bool.and_eq_true] at hr;obtain⟨RB,hp,hcap,DD⟩:=hr;have RB:s=d:=Nat.eq_of_beq_eq_true RB;subst RB;cases de<;>simp [bf,cC] at Oo
     subst Oo
     cases p with
     |none=>cases hp
     |some q=>
      obtain⟨id,off⟩:=q;obtain⟨e',cs,b,hg,hle,hb,hc⟩:=Cu h.hr DD;have hv:=cL.v hx;rcases hv.eO with⟨b',hb',he⟩|⟨h0,h1,ad,he⟩
      ·simp only[Option.getD_some] at hb;rw[hb] at hb';cases hb';obtain⟨w',g1,g2,g3⟩:=xQ (E:=E) (off:=off) hc;have hs:=h.Co hg rfl rfl hb g3 (y:=.cells e' cs false) g2;rw[s9 hg] at hs;exact⟨ρ,_,w',by simp [execOp,convert,run_underlying hud,run_underlying Qm,he,g1],hs,.v (.slice _ _ hb)⟩
      ·rw[h1] at hcap;cases hcap
    ·cases ho
   ·cases ho
  ·cases ho
 |call c=>
  simp only[bP] at ho;split at ho
  ·rename_i t ts p l cp x DF hts hargs;split at ho
   ·rename_i el n cB z hel
    split at ho
    ·rename_i m ok cs hsrc;simp only[Option.some.injEq,Prod.mk.injEq,jS,jT,hsrc] at ho;obtain⟨rfl,rfl,rfl⟩:=ho;have ha:ea ρ [.slice p l cp,x] (c.args.map a.eval).toList:=by simpa using cL.vs hargs
     obtain⟨s',r1,Ai,hs',nt⟩:=ha.cT;obtain⟨x',r2,Ah,hx',sB⟩:=nt.cT;have Oj:=sB.fW;subst Oj;subst Ah
     have pZ:c.args.map a.eval= #[s',x']:=by
      apply Array.ext';rw[Ai]
     have Lg:c.argTypes[0]? =some t:=by
      rw[←Array.getElem?_toList,hts];rfl
     obtain⟨cU,z',kh,hi,hz,hsz,hby,hzl,hpos,hzs,Qo,Oi⟩:=qg hel;subst hsz;obtain⟨hlen,sA⟩:=uW (E:=E) h.hr hx' hsrc
     obtain⟨xs,h1,h2,h3,h4⟩:=sA (Nat.min m l) (Nat.min_le_left _ _) (by
      by_cases h0:Nat.min m l=0
      ·exact .inl h0
      ·rw[aP] at hr;simp [h0] at hr
       exact .inr hr.2.1)
     have HF:∃aT,s'=.slice aT l cp∧∀w',(match aT with|some ad=>storeCells ad xs.toList|none=>pure ()).run E.P w=.ok () w'→
      (Builtin.copy_ c.argTypes type (c.args.map a.eval)).run E.P w=.ok (.int .i64 ((Nat.min m l:Nat):Int)) w':=by
      have HF:∃aT,s'=.slice aT l cp:=by
       cases p with
       |none=>exact⟨_,hs'.kN⟩
       |some q=>
        obtain⟨id,off⟩:=q;rcases hs'.eO with⟨b,hb,he⟩|⟨h0,h1,ad,he⟩
        ·exact⟨_,he⟩
        ·exact⟨_,by rw[he,h0,h1]⟩
      obtain⟨aT,rfl⟩:=HF;refine⟨aT,rfl,fun w' hw=> ?_⟩;rw[pZ]
      cases aT with
      |none=>
       simp at hw;subst hw;simp [Builtin.copy_,Lg,run_underlying kh,hlen,sizeOf,typeInfo,hi,h1,goInt]
      |some ad=>simp [Builtin.copy_,Lg,run_underlying kh,hlen,sizeOf,typeInfo,hi,h1,hw,goInt]
     obtain⟨aT,rfl,RC⟩:=HF;by_cases h0:Nat.min m l=0
     ·have hxs:xs= #[]:=by
       have:=h2.1;rw[h4,h0] at this;apply Array.eq_empty_of_size_eq_zero;simpa using this.symm
      subst hxs;have hc:=RC w (by cases aT<;>simp [oY]);rw[aP,decide_eq_true h0,cond_true];exact⟨ρ,.int .i64 (Nat.min m l:Nat),w,by simp only[execOp,resolve,DF,invoke,builtin,Sem.run_bind,Sem.run_pure,Result.andThen_ok,hc],h,.v (.int _ _)⟩
     ·rw[aP,decide_eq_false h0] at hr;rw[aP,decide_eq_false h0,cond_false];simp only[Bool.false_or,Bool.and_eq_true] at hr;obtain⟨hp,hok,DD⟩:=hr
      cases p with
      |none=>cases hp
      |some q=>
       obtain⟨id,off⟩:=q;simp only[Option.getD_some] at DD⊢;obtain⟨e,ccs,b,hg,hle,hb,hc⟩:=Cu h.hr DD;rcases hs'.eO with⟨b',hb',he⟩|⟨UY,_,_⟩
       ·rw[hb] at hb';cases hb';cases he;obtain⟨w',g1,g2,g3⟩:=lK (E:=E) (off:=off) hc h2 h3 (by rw[h4];exact hle);have hst:S.hp.store id off (cs (Nat.min m l))=S.hp.put id (.cells e (bL ccs off (cs (Nat.min m l))) false):=by simp [ag.store,hg]
        rw[hst];have hc:=RC w' g1;exact⟨ρ,.int .i64 (Nat.min m l:Nat),w',by simp only[execOp,resolve,DF,invoke,builtin,Sem.run_bind,Sem.run_pure,Result.andThen_ok,hc],h.Co hg rfl rfl hb g3 g2,.v (.int _ _)⟩
       ·exact absurd (by rw[UY];exact Nat.min_zero m) h0
    ·cases ho
   ·cases ho
  ·rename_i t ts r k n DF hts hargs;split at ho
   ·rename_i ti my;obtain⟨ds,qG,hds⟩:=dh my;split at ho
    ·rename_i kt et hsh;rw[hsh] at hds;cases ta hds;split at ho
     ·rename_i k' hk;obtain⟨dk,UX,hdk⟩:=bG hk;have Ot:dk=.int k':=by cases dk<;>simp_all [bf,cC]
      subst Ot;simp only[Option.some.injEq,Prod.mk.injEq] at ho;obtain⟨rfl,rfl,rfl⟩:=ho;simp only[Bool.and_eq_true,mA,decide_eq_true_eq] at hr;obtain⟨hkk,hok⟩:=hr;subst hkk;have ha:ea ρ [.map r,.int k n] (c.args.map a.eval).toList:=by simpa using cL.vs hargs
      obtain⟨x',r1,Ai,hx',nt⟩:=ha.cT;obtain⟨y',r2,Ah,hy',sB⟩:=nt.cT;have Oj:=sB.fW;subst Oj;subst Ah;have hy:=hy'.hJ;subst hy
      have pZ:c.args.map a.eval= #[x',.int k n]:=by
       apply Array.ext';rw[Ai]
      have Lg:c.argTypes[0]? =some t:=by
       rw[←Array.getElem?_toList,hts];rfl
      cases r with
      |none=>
       cases hx'
       have hrun:(Builtin.delete_ c.argTypes type (c.args.map a.eval)).run E.P w=.ok (.tuple #[]) w:=by
        rw[pZ];simp [Builtin.delete_,Lg,run_underlying qG,eR (E:=E) UX]
       refine⟨ρ,.tuple #[],w, ?_,h,.v (.tuple rfl (fun i x y hx=>by simp at hx))⟩;simp only[execOp,resolve,DF,invoke,builtin,Sem.run_bind,Sem.run_pure,Result.andThen_ok,hrun]
      |some id=>
       obtain⟨b,w',o',hb,hrun,Ow,hg,DE,hrw,Ox⟩:=Cw (E:=E) (ty:=type) (n:=n) (u:=0) qG UX h.hr hx' hok Lg;rw[DE];refine⟨ρ,.tuple #[],w', ?_,h.Co hg rfl hrw hb Ow Ox,.v (.tuple rfl (fun i x y hx=>by simp at hx))⟩;rw[←pZ] at hrun;simp only[execOp,resolve,DF,invoke,builtin,Sem.run_bind,Sem.run_pure,Result.andThen_ok,hrun]
     ·cases ho
    ·cases ho
   ·cases ho
  ·rename_i t ts p l cp DF hts hargs;split at ho
   ·rename_i el n cB z hel
    simp only[Option.some.injEq,Prod.mk.injEq] at ho;obtain⟨rfl,rfl,rfl⟩:=ho;have ha:ea ρ [.slice p l cp] (c.args.map a.eval).toList:=by simpa using cL.vs hargs
    obtain⟨s',r1,Ai,hs',nt⟩:=ha.cT;have Oj:=nt.fW;subst Oj
    have pZ:c.args.map a.eval= #[s']:=by
     apply Array.ext';rw[Ai]
    have Lg:c.argTypes[0]? =some t:=by
     rw[←Array.getElem?_toList,hts];rfl
    obtain⟨cU,z',kh,hi,hz,hsz,hby,hzl,hpos,hzs,Qo,Oi⟩:=qg hel;subst hsz
    have key:∀w',(Builtin.clear_ c.argTypes type #[s']).run E.P w=.ok (.tuple #[]) w'→
     (execOp a.eval ⟨dst,.call c,type,iV,after,guard⟩).run E.P w=.ok (.value (.tuple #[])) w':=by
     intro w' hw;simp only[execOp,resolve,DF,invoke,builtin,Sem.run_bind,Sem.run_pure,Result.andThen_ok,pZ,hw]
    have nop:(p.isNone||Nat.beq l 0)=true→∃ρ' v w',(execOp a.eval ⟨dst,.call c,type,iV,after,guard⟩).run E.P w=.ok (.value v) w'∧
     SR H0 ρ0 w0 ann N ρ' lam {S with hp:=S.hp} a w'∧TR ρ' lam (.v (.tuple [])) v:=by
     intro hn;refine⟨ρ,_,w,key w ?_,h,.v (.tuple rfl (fun i x y hx=>by simp at hx))⟩
     cases p with
     |none=>rw[hs'.kN];simp [Builtin.clear_,Lg,run_underlying kh]
     |some q=>
      have UY:l=0:=Nat.eq_of_beq_eq_true (by simpa using hn);subst UY;obtain⟨id,off⟩:=q;rcases hs'.eO with⟨b,hb,he⟩|⟨_,_,ad,he⟩
      ·rw[he];simp [Builtin.clear_,Lg,run_underlying kh]
      ·rw[he];simp [Builtin.clear_,Lg,run_underlying kh]
    cases hn:(p.isNone||Nat.beq l 0) with
    |true=>simpa using nop hn
    |false=>
     rw[hn] at hr;simp only[Bool.false_or] at hr;simp only[cond_false]
     cases p with
     |none=>cases hn
     |some q=>
      obtain⟨id,off⟩:=q;simp only[Option.getD_some] at hr⊢
      have UY:l≠0:=by
       rintro rfl;cases hn
      obtain⟨e,ccs,b,hg,hle,hb,hc⟩:=Cu h.hr hr;rcases hs'.eO with⟨b',hb',he⟩|⟨abm,_,_⟩
      ·rw[hb] at hb';cases hb';cases he;obtain⟨w',g1,g2,g3⟩:=lK (E:=E) (off:=off) hc (lL (Oi ρ) hzl hpos l) (gk Qo l) (by rw[fL,hzl];exact hle);have hst:S.hp.store id off (ew l z)=S.hp.put id (.cells e (bL ccs off (ew l z)) false):=by simp [ag.store,hg]
       rw[hst];refine⟨ρ,_,w',key w' ?_,h.Co hg rfl rfl hb g3 g2,.v (.tuple rfl (fun i x y hx=>by simp at hx))⟩
       cases l with
       |zero=>exact absurd rfl UY
       |succ l=>simp [Builtin.clear_,Lg,run_underlying kh,zeroValue,typeInfo,hi,hz,g1]
      ·exact absurd abm UY
   ·cases ho
  ·cases ho
 |makeMap t sj=>
  cases sj with
  |some x=>simp [bP] at ho
  |none=>
   simp only[bP] at ho;split at ho
   ·simp only[Option.some.injEq,Prod.mk.injEq] at ho;obtain⟨rfl,rfl,rfl⟩:=ho
    exact⟨_,.map (some w.heap.size),{w with heap:=w.heap.push (.map #[] 0)},by simp [execOp,Instr.makeMap,newObj,Sem.run],h.Cn (o:=.map #[] 0) ⟨rfl,rfl,rfl,rfl⟩ (x:=.map [] 0) ⟨#[],rfl,trivial⟩,
     .v (.map (by rw[dO,if_pos rfl]))⟩
   ·cases ho
 |range t x=>
  simp only[bP] at ho;split at ho
  ·rename_i ti r my hx;obtain⟨ds,qG,hds⟩:=dh my;split at ho
   ·rename_i kt et hsh;rw[hsh] at hds;cases ta hds;simp only[Option.some.injEq,Prod.mk.injEq] at ho;obtain⟨rfl,rfl,rfl⟩:=ho;have hx':=cL.v hx
    cases r with
    |none=>
     have hx0:a.eval x=.map none:=by
      revert hx';generalize a.eval x=x';intro hx';cases hx';rfl
     exact⟨_,.pointer (some ⟨w.heap.size,0,none⟩),{w with heap:=w.heap.push (.mapIter none 0 #[] 0)},by
      simp [execOp,Instr.range,run_underlying qG,newObj,Sem.run,hx0],
      h.Cn (o:=.mapIter none 0 #[] 0) ⟨rfl,rfl,rfl,rfl⟩ (x:=.dz none 0 [] 0) ⟨none,rfl,.xB⟩,.v (.dz t (by rw[dO,if_pos rfl]))⟩
    |some id=>
     have hg:=rP (by simpa using hr);obtain⟨b,hb,es',he,FV⟩:=h.hr.vM id _ hg
     have hxe:a.eval x=.map (some b):=by
      revert hx';generalize a.eval x=x';intro hx'
      cases hx' with
      |map hb'=>rw[hb] at hb';cases hb';rfl
     refine⟨_,.pointer (some ⟨w.heap.size,0,none⟩),{w with heap:=w.heap.push (.mapIter (some b) (S.hp.clock id) #[] (S.hp.clock id))}, ?_,
      h.Cn (o:=.mapIter (some b) (S.hp.clock id) #[] (S.hp.clock id)) ⟨rfl,rfl,rfl,rfl⟩ (x:=.dz (some id) (S.hp.clock id) [] (S.hp.clock id)) ⟨some b,rfl,.map hb⟩,.v (.dz t (by rw[dO,if_pos rfl]))⟩
     simp [execOp,Instr.range,run_underlying qG,hxe,gE (E:=E) he,newObj,Sem.run]
   ·cases ho
  ·cases ho
 |_=>simp [bP] at ho
theorem Cy {R:lG} (hX:jE E) (hR:∀f args H K,R.call f args H K→ie E f args H K) (hB:∀f args H K,R.call f args H K→∃fn,E.P.funcs[f]? =some fn∧fn.body.isSome=true) (h:SR H0 ρ0 w0 ann N ρ lam S a w) {o:Oper} {K:T→ag→Prop} (ho:bF E R o.op o.type (cH S.tm) S.hp K) {next:Act→World→Prop} {Q:Exit→Act→World→Prop} (hn:∀x H' ρ' v w',K x H'→SR H0 ρ0 w0 ann N ρ' lam {S with hp:=H'} a w'→TR ρ' lam x v→next (a.put o.dst v) w'):o.wp E.P a w next Q:=by
 have cL:=h.ev;obtain⟨dst,op,type,iV,after,guard⟩:=o
 cases op with
 |alloc t=>
  simp only[bF] at ho;split at ho
  ·rename_i i hi;split at ho
   ·rename_i z hz;obtain⟨z',h1,h2,h3⟩:=uV hi hz ρ w;have hp:hT (.cells z'.cells t) w {w with heap:=w.heap.push (.cells z'.cells t)}:=⟨rfl,rfl,rfl,rfl⟩;refine cg (v:=.pointer (some ⟨w.heap.size,0,none⟩)) (w':={w with heap:=w.heap.push (.cells z'.cells t)}) (by simp [execOp,Instr.alloc,h1,newVar,newRow]) ?_;exact hn _ _ _ _ _ ho (h.Cn hp (x:=.cells t z.cells false) (ig h2 h3)) (.v (.ak (by rw[dO,if_pos rfl])))
   ·exact ho.elim
  ·exact ho.elim
 |box t x=>
  simp only[bF] at ho;split at ho
  ·rename_i v hv;split at ho
   ·rename_i r vs hvs;obtain⟨hr,ho⟩:=aL ho;obtain⟨h2,h3⟩:=iF (cL.v hv) hvs hr;have hp:hT (.cells (a.eval x).cells t) w {w with heap:=w.heap.push (.cells (a.eval x).cells t)}:=⟨rfl,rfl,rfl,rfl⟩;refine cg (v:=.pointer (some ⟨w.heap.size,0,none⟩)) (w':={w with heap:=w.heap.push (.cells (a.eval x).cells t)}) (by simp [execOp,Instr.box,newVar,newRow]) ?_;exact hn _ _ _ _ _ ho (h.Cn hp (x:=.cells t vs false) (ig h2 h3)) (.v (.ak (by rw[dO,if_pos rfl])))
   ·exact ho.elim
  ·exact ho.elim
 |store t ad x=>
  simp only[bF] at ho;split at ho
  ·rename_i id off v ha hx;split at ho
   ·rename_i r vs hvs;obtain⟨hr,ho⟩:=aL ho;rw[Bool.and_eq_true] at hr;have DD:=hr.2;unfold ag.wr at DD;split at DD
    ·rename_i e cs ro hg;rw[Bool.and_eq_true] at DD;have hro:ro=false:=by simpa using DD.1
     subst hro;obtain⟨b,hb,hc⟩:=h.hr.vM id _ hg;obtain⟨b',hb',he⟩:=(cL.tv ha).uR;rw[hb] at hb';cases hb';obtain⟨w',h1,h2,h3⟩:=vO (E:=E) (t:=t) hc (cL.v hx) hvs hr.1 (Nat.le_of_ble_eq_true DD.2);refine uX (w':=w') (by simp [execOp,Instr.storeAt,he,Instr.sureAddr,h1]) ?_;have hst:S.hp.store id off vs=S.hp.put id (.cells e (bL cs off vs) false):=by simp [ag.store,hg]
     rw[hst] at ho;exact hn _ _ _ _ _ ho (h.Co hg rfl rfl hb h3 h2) .undef
    ·cases DD
   ·exact ho.elim
  ·exact ho.elim
 |call c=>
  simp only[bF] at ho;split at ho
  ·rename_i f args hc hargs;split at ho
   ·rename_i fv hf
    have post:∀v v' H' ρ' w',(match sL E type v with|some (b,v')=>ah b (K (.v v') H')|none=>False)→VR ρ' v v'→HR ρ' H' w'→kO S.hp ρ w H' ρ' w'→next (a.put dst v') w':=by
     intro v v' H' ρ' w' hk hv Uc hs;revert hk;split
     ·rename_i b y hy;intro hk;obtain⟨hb,hk⟩:=aL hk;rw[LP hy hb] at hk;exact hn _ _ _ _ _ hk (h.call hs Uc) (.v hv)
     ·exact fun hk=>hk.elim
    have main:∀(g:FuncId) (Zr:List V) (fi cap:Array Value),a.eval f=.func (.func g) fi cap→ea ρ Zr (fi++c.args.map a.eval++cap).toList→
     (match (E.ext g).isSome with
      |true=>iB E g Zr S.hp fun v H'=>match sL E type v with|some (b,v')=>ah b (K (.v v') H')|none=>False
      |false=>R.call g Zr S.hp fun v H'=>match sL E type v with|some (b,v')=>ah b (K (.v v') H')|none=>False)→
     Oper.wp E.P ⟨dst,.call c,type,iV,after,guard⟩ a w next Q:=by
     intro g Zr fi cap he has ho;split at ho
     ·unfold iB at ho;split at ho
      ·rename_i x hx;rcases hX g x hx _ _ _ ho ρ w _ h.hr has with⟨v,v',w',H',ρ',hrun,hk,hv,Uc,hs⟩|⟨hrun,Oy⟩
       ·exact cg (by rw[td (E:=E) rfl hc he,hrun]) (post v v' H' ρ' w' hk hv Uc hs)
       ·unfold Oper.wp;rw[td (E:=E) rfl hc he,hrun];refine Oy.mono ?_;rintro e w' ⟨v,v',H',ρ',rfl,hk,hv,Uc,hs⟩;exact post v v' H' ρ' w' hk hv Uc hs
      ·exact ho.elim
     ·obtain⟨fn,hfn,hbody⟩:=hB _ _ _ _ ho;have hrun:=LW (E:=E) (e:=a.eval) (o:=⟨dst,.call c,type,iV,after,guard⟩) rfl hc he hfn hbody w;have Oy:=hR _ _ _ _ ho ρ w _ h.hr has;unfold Oper.wp;rw[hrun];refine Oy.mono ?_;rintro e w' ⟨v,v',H',ρ',rfl,hk,hv,Uc,hs⟩;exact post v v' H' ρ' w' hk hv Uc hs
    have FX:ea ρ args (c.args.map a.eval).toList:=by simpa using cL.vs hargs
    unfold kI at ho;split at ho
    ·rename_i g cap;obtain⟨cap',he,hcap⟩:=(cL.v hf).LL
     exact main g (args++cap) #[] cap' he (by
      rw[Array.toList_append,Array.toList_append]
      exact FX.append hcap) ho
    ·rename_i g first;obtain⟨first',he,Qp⟩:=(cL.v hf).LM
     exact main g (first++args) first' #[] he (by
      rw[Array.toList_append,Array.toList_append]
      simpa using Qp.append FX) ho
    ·exact ho.elim
   ·exact ho.elim
  ·rename_i args hc hargs;obtain⟨q,n,cp,H',ρ',v,w',hk,hrun,hs,hv⟩:=Ct (E:=E) h (args':=c.args.map a.eval) (ty:=type) (by simpa using cL.vs hargs) ho;refine cg ?_ (hn _ _ _ _ _ hk hs hv);have Yh:(Builtin.append_ c.argTypes type (c.args.map a.eval)).run E.P w=.ok v w':=by simpa using hrun
   simp only[execOp,resolve,hc,invoke,builtin,Sem.run_bind,Sem.run_pure,Result.andThen_ok,Yh]
  ·split at ho
   ·rename_i r x H' hs;obtain⟨hr,ho⟩:=aL ho;obtain⟨ρ',v,w',h1,h2,h3⟩:=fS h (o:=⟨dst,.call c,type,iV,after,guard⟩) hs hr;exact cg h1 (hn _ _ _ _ _ ho h2 h3)
   ·exact ho.elim
 |convert s d x=>
  simp only[bF] at ho;split at ho
  ·rename_i cB ti hk hx my
   split at ho
   ·rename_i el hsh;split at ho
    ·rename_i hel;obtain⟨hr,ho⟩:=aL ho;have gV:=Nat.le_of_ble_eq_true hr;obtain⟨ds,qG,hds⟩:=bG hk;obtain⟨dd,hud,Ov⟩:=dh my;rw[hsh] at Ov;cases hO Ov;obtain⟨de,Qm,Oo⟩:=bG hel;cases de<;>simp [bf,cC] at Oo
     subst Oo;have he:=(cL.v hx).uQ;have Ok:=grownCap_ge w cB.size 0 el
     have Ol:=grownCap_le_maxLen w cB.size 0 el (by simp only[maxLen];omega)
     have hk:=ho (grownCap w cB.size 0 el) Ok (by simp only[maxLen] at Ol;omega);obtain⟨row,hrow⟩:∃row:Array Value,row=cB.data.map (fun b=>Value.int .u8 b.toNat)++Array.replicate (grownCap w cB.size 0 el-cB.size) (.int .u8 0):=⟨_,rfl⟩
     have Oi:ea ρ (gM (grownCap w cB.size 0 el-cB.size) [.int .u8 0]) (Array.replicate (grownCap w cB.size 0 el-cB.size) (Value.int .u8 0)).toList:=by
      refine⟨by simp [fL], ?_⟩;intro i x y hx hy
      have hi:i<grownCap w cB.size 0 el-cB.size:=by
       rcases Nat.lt_or_ge i (grownCap w cB.size 0 el-cB.size) with h|h
       ·exact h
       ·rw[List.getElem?_eq_none (by simpa using h)] at hy;cases hy
      rw[xN (by simp) _ _ (by simpa using hi)] at hx;have h1:=List.mem_of_getElem? hx;have h2:=List.mem_of_getElem? hy;simp only[List.mem_singleton] at h1;simp at h2;rw[h1,h2.2];exact .int _ _
     have Le:=(s8 ρ cB).append Oi
     have h1:=h.Cn (o:=.cells row el) (w':=w.drew.alloc (.cells row el)) ⟨rfl,rfl,rfl,rfl⟩ (x:=.cells el (xk (eI cB) (gM (grownCap w cB.size 0 el-cB.size) [.int .u8 0])) false)
      (ig (by rw[hrow];simpa [xk] using Le) ((s7 cB).append (gk (by intro v hv;simp at hv;rw[hv];rfl) _)))
     have hg:(S.hp.alloc (.cells el (xk (eI cB) (gM (grownCap w cB.size 0 el-cB.size) [.int .u8 0])) false)).get S.hp.next=some (.cells el (xk (eI cB) (gM (grownCap w cB.size 0 el-cB.size) [.int .u8 0])) false):=by
      simp [ag.alloc]
     obtain⟨b,hb,hc⟩:=h1.hr.vM _ _ hg;obtain⟨w2,g1,g2,g3⟩:=xQ (E:=E) (off:=0) hc;have hs:=h1.Co hg rfl rfl hb g3 (y:=.cells el (xk (eI cB) (gM (grownCap w cB.size 0 el-cB.size) [.int .u8 0])) false) g2;rw[s9 hg] at hs;have Jt:b=w.heap.size:=by rw[dO,if_pos rfl] at hb;exact(Option.some.inj hb).symm
     subst Jt;refine cg (v:=.slice (some ⟨w.heap.size,0,none⟩) cB.size (grownCap w cB.size 0 el)) (w':=w2) ?_ (hn _ _ _ _ _ hk hs (.v (.slice _ _ hb)));have hch:(choose (.appendCap cB.size 0 el)).run E.P w=.ok (grownCap w cB.size 0 el) w.drew:=by simp [Question.forced,grownCap]
     cases ds<;>simp [bf,cC] at hds
     simp only[execOp,convert,Sem.run_bind,run_underlying qG,run_underlying hud,run_underlying Qm,Result.andThen_ok,he,Conv.stringToBytes,hch,newRow, ←hrow];have hn2:(Sem.new (.cells row el) Sem.pure).run E.P w.drew=.ok w.heap.size (w.drew.alloc (.cells row el)):=rfl;simp [newObj,hn2,g1]
    ·exact ho.elim
   ·exact ho.elim
  ·split at ho
   ·rename_i r x' H' hs;obtain⟨hr,ho⟩:=aL ho;obtain⟨ρ',v,w',h1,h2,h3⟩:=fS h (o:=⟨dst,.convert s d x,type,iV,after,guard⟩) hs hr;exact cg h1 (hn _ _ _ _ _ ho h2 h3)
   ·exact ho.elim
 |mapUpdate t m x v=>
  simp only[bF] at ho;split at ho
  ·rename_i ti r k n v' my hm hx hv;obtain⟨ds,qG,hds⟩:=dh my;split at ho
   ·rename_i kt et hsh;rw[hsh] at hds;cases ta hds;split at ho
    ·rename_i k' b y hk hy;obtain⟨dk,UX,hdk⟩:=bG hk;have Ot:dk=.int k':=by cases dk<;>simp_all [bf,cC]
     subst Ot;replace ho:=aL ho;obtain⟨hq,ho⟩:=ho;simp only[Bool.and_eq_true,mA,decide_eq_true_eq] at hq;obtain⟨hkk,hsome,hok,hb⟩:=hq;subst hkk
     cases r with
     |none=>cases hsome
     |some id=>
      have hx':=(cL.v hx).hJ;obtain⟨bb,w',o',Jt,hrun,Ow,hg,gi,hrw,Ox⟩:=wv (E:=E) (n:=n) qG UX h.hr (cL.v hm) hok (cL.v hv);refine uX (w':=w') (by simp [execOp,hx',hrun]) ?_;simp only[Option.getD_some] at ho;rw[gi] at ho;exact hn _ _ _ _ _ ho (h.Co hg rfl hrw Jt Ow Ox) .undef
    ·exact ho.elim
   ·exact ho.elim
  ·exact ho.elim
 |next it isStr=>
  cases isStr with
  |true=>simp [bF,bP] at ho
  |false=>
   simp only[bF] at ho;split at ho
   ·rename_i t id hit;obtain⟨b,hb,he⟩:=(cL.tv hit).D8;rcases zW (E:=E) (ty:=type) h hb ho with⟨hk,hrun⟩|⟨H',w',k,v,hk,hrun,hs⟩
    ·exact cg (v:=.tuple #[.bool false]) (w':=w) (by simp [execOp,he,hrun]) (hn _ _ _ _ _ hk h (.v (.gj (.cons (.bool _) (.nil ρ)))))
    ·exact cg (v:=.tuple #[.bool true,k,v]) (w':=w') (by simp [execOp,he,hrun]) (hn _ _ _ _ _ hk hs (.v (.gj (.cons (.bool _) (.cons (.bZ _) (.cons (.bZ _) (.nil ρ)))))))
   ·exact ho.elim
 |makeMap t sj=>
  simp only[bF] at ho;split at ho
  ·rename_i r x H' hs;obtain⟨hr,ho⟩:=aL ho;obtain⟨ρ',v,w',h1,h2,h3⟩:=fS h (o:=⟨dst,.makeMap t sj,type,iV,after,guard⟩) hs hr;exact cg h1 (hn _ _ _ _ _ ho h2 h3)
  ·exact ho.elim
 |range t x=>
  simp only[bF] at ho;split at ho
  ·rename_i r x' H' hs;obtain⟨hr,ho⟩:=aL ho;obtain⟨ρ',v,w',h1,h2,h3⟩:=fS h (o:=⟨dst,.range t x,type,iV,after,guard⟩) hs hr;exact cg h1 (hn _ _ _ _ _ ho h2 h3)
  ·exact ho.elim
 |makeSlice t len cap=>
  simp only[bF] at ho;split at ho
  ·rename_i r x H' hs;obtain⟨hr,ho⟩:=aL ho;obtain⟨ρ',v,w',h1,h2,h3⟩:=fS h (o:=⟨dst,.makeSlice t len cap,type,iV,after,guard⟩) hs hr;exact cg h1 (hn _ _ _ _ _ ho h2 h3)
  ·exact ho.elim
 |buildSlice t len parts=>
  simp only[bF] at ho;split at ho
  ·rename_i r x H' hs;obtain⟨hr,ho⟩:=aL ho;obtain⟨ρ',v,w',h1,h2,h3⟩:=fS h (o:=⟨dst,.buildSlice t len parts,type,iV,after,guard⟩) hs hr;exact cg h1 (hn _ _ _ _ _ ho h2 h3)
  ·exact ho.elim
 |_=>simp [bF,bP] at ho
theorem vR {R:lG} (hX:jE E) (hR:∀f args H K,R.call f args H K→ie E f args H K) (hB:∀f args H K,R.call f args H K→∃fn,E.P.funcs[f]? =some fn∧fn.body.isSome=true) (h:SR H0 ρ0 w0 ann N ρ lam S a w) {o:Oper} {K:St→Prop} (hc:iW E R ann N o S K) {next:Act→World→Prop} {Q:Exit→Act→World→Prop} (hn:∀S' ρ' dm a' w',SR H0 ρ0 w0 ann N ρ' dm S' a' w'→K S'→next a' w'):o.wp E.P a w next Q:=by
 have cL:=h.ev
 have hL:∀s M,S.lo s=some M→∃b,lam s=some b∧uS ρ M w.heap[b]? :=by
  intro s M hM;obtain⟨b,h1,h2,_⟩:=h.lo s M hM;exact⟨b,h1,h2⟩
 unfold iW at hc
 cases vE:Gl E ann o with
 |pure=>
  simp only[vE] at hc;split at hc
  ·rename_i d hd;obtain⟨hr,hk⟩:=fw.eK hc;obtain⟨v,h1,h2⟩:=Ci (w:=w) cL hd hr;obtain⟨hok,hk⟩:=dJ.1 hk;exact cg h1 (hn _ _ _ _ _ (h.put h2 hok) hk)
  ·exact hc.elim
 |oi s=>
  simp only[vE] at hc;split at hc
  ·rename_i d hd;obtain⟨hr,hk⟩:=fw.eK hc;obtain⟨v,h1,h2⟩:=Eh (w:=w) cL hd hr (hL s);obtain⟨hok,hk⟩:=dJ.1 hk;exact cg h1 (hn _ _ _ _ _ (h.put h2 hok) hk)
  ·exact hc.elim
 |iA s=>
  simp only[vE] at hc;split at hc
  ·rename_i d hd;obtain⟨hr,hk⟩:=fw.eK hc;obtain⟨M,b,w',v,hM,hb,ho,hl,hx,hrun⟩:=Cp (w:=w) cL hd hr (hL s);obtain⟨hok,hk⟩:=dJ.1 hk;have h':=(h.setL hM hb ho hl).put hx hok;rcases hrun with hrun|⟨rfl,hrun⟩
   ·exact cg hrun (hn _ _ _ _ _ h' hk)
   ·exact uX hrun (hn _ _ _ _ _ h' hk)
  ·exact hc.elim
 |sO=>
  simp only[vE] at hc;split at hc
  ·rename_i d r L wK hd;obtain⟨hr,hk⟩:=aL hc;obtain⟨x,w',h1,h2,h3⟩:=GA (w:=w) cL hd hr;obtain⟨hok,hk⟩:=dJ.1 hk;have hs:=(h.ZM h2 h3).put (dst:=some d) (x:=.lp d 0) (v:=.pointer (some ⟨w.heap.size,0,none⟩)) (.lp (by rw[dO,if_pos rfl])) hok;refine cg h1 ?_;rw[wK];exact hn _ _ _ _ _ hs hk
  ·exact hc.elim
 |jZ=>
  simp only[vE] at hc;split at hc
  ·rename_i d hd;obtain⟨hr,hk⟩:=fw.eK hc;obtain⟨v,h1,h2⟩:=vQ (w:=w) cL h.hr hd hr;obtain⟨hok,hk⟩:=dJ.1 hk;exact cg h1 (hn _ _ _ _ _ (h.put h2 hok) hk)
  ·exact hc.elim
 |sP=>
  simp only[vE] at hc;unfold HM at hc;split at hc
  ·rename_i f first df hop;split at hc
   ·rename_i vs S' hf hl;obtain⟨ρ',h1,h2,h3⟩:=mf h hl;obtain⟨hok,hk⟩:=dJ.1 hc;have hf':first= #[]:=by apply Array.ext';simpa using hf
    refine cg (v:=.func (.func f) #[] (df.map a.eval)) (w':=w) ?_ (hn _ _ _ _ _ (h1.put (.v (.HO (by simpa using h2))) hok) hk);simp [execOp,hop,Instr.makeFunc,hf']
   ·exact hc.elim
  ·exact hc.elim
 |cW=>
  simp only[vE] at hc;refine Cy hX hR hB h hc ?_;intro x H' ρ' v w' hk hs hx;obtain⟨hok,hk⟩:=dJ.1 hk;exact hn _ _ _ _ _ (hs.put hx hok) hk
theorem Cz {aE:Array Oper} {j:Nat} {t:T} (h:SR H0 ρ0 w0 ann N ρ lam S a w) (hy:fJ aE.toList S.tm j=some t):(∀b,t=.v (.bool b)→yielded aE a.tmps j=some b)∧(t=.undef→yielded aE a.tmps j=none):=by
 unfold fJ at hy;split at hy
 ·rename_i o ho;split at hy
  ·rename_i d hd;have ho':aE[j]? =some o:=by simpa using ho
   have ht:=h.tm d t hy
   have key:yielded aE a.tmps j=match a.tmps[d]? with|some (.bool b)=>some b|_=>none:=by
    simp only[yielded,ho',Option.bind_some,hd]
    cases a.tmps[d]? with
    |none=>rfl
    |some x=>cases x<;>rfl
   rw[key];rw[Array.getD_eq_getD_getElem?] at ht;constructor
   ·rintro b rfl
    cases hq:a.tmps[d]? with
    |none=>rw[hq] at ht;simp only[Option.getD_none,undef] at ht;cases ht with|v h=>cases h
    |some x=>rw[hq] at ht;simp only[Option.getD_some] at ht;cases ht with|v h=>cases h;rfl
   ·rintro rfl
    cases hq:a.tmps[d]? with
    |none=>rfl
    |some x=>rw[hq] at ht;simp only[Option.getD_some] at ht;cases ht;rfl
  ·cases hy
 ·cases hy
theorem o0 {R:lG} (hX:jE E) (hR:∀f args H K,R.call f args H K→ie E f args H K) (hB:∀f args H K,R.call f args H K→∃fn,E.P.funcs[f]? =some fn∧fn.body.isSome=true) (h:SR H0 ρ0 w0 ann N ρ lam S a w) {aE:Array Oper} {i:Nat} {o:Oper} (hi:aE[i]? =some o) {K:St→Prop} (hc:eh E R ann N aE.toList o S K) {next:Act→World→Prop} {Q:Exit→Act→World→Prop} (hn:∀S' ρ' dm a' w',SR H0 ρ0 w0 ann N ρ' dm S' a' w'→K S'→next a' w'):wpOp E.P aE Q i next a w:=by
 unfold wpOp;simp only[hi]
 have skip:jd ann N o.dst .undef S K→next (a.put o.dst undef) w:=by
  intro hk;obtain⟨hok,hk⟩:=dJ.1 hk;exact hn _ _ _ _ _ (h.put .undef hok) hk
 unfold eh at hc
 cases hg:o.guard with
 |none=>
  simp only[hg] at hc;simp only[Region.wanted,hg,if_true];exact .inl (vR hX hR hB h hc hn)
 |some p=>
  obtain⟨j,want⟩:=p;simp only[hg] at hc
  cases hy:fJ aE.toList S.tm j with
  |none=>simp only[hy] at hc
  |some t=>
   obtain⟨h1,h2⟩:=Cz h hy
   cases t with
   |undef=>
    simp only[hy] at hc;simp only[Region.wanted,hg,h2 rfl];rw[if_neg (by simp)];exact skip hc
   |lp s off=>simp only[hy] at hc
   |v x=>
    cases x with
    |bool b=>
     simp only[hy] at hc;simp only[Region.wanted,hg,h1 b rfl];rcases gg hc with⟨hb,hc⟩|⟨hb,hc⟩
     ·rw[if_pos (by simpa using hb)];exact .inl (vR hX hR hB h hc hn)
     ·rw[if_neg (by simpa using hb)];exact skip hc
    |_=>simp only[hy] at hc
end
def O7 (P:Program) (c:Code) (Q:Exit→Act→World→Prop) (a:Act) (w:World):Prop:=
 ∀(b:Frame) (k:List Item) (cs:List Frame),∃e a' w',Q e a' w'∧Arrives P (lone (b.at a (.code c:: .inLoop c::k)) cs w) b k cs e a' w'
theorem LX {P:Program} {c:Code} {Q:Exit→Act→World→Prop} {a:Act} {w:World} (h:O7 P c Q a w):(Code.loop c).wp P Q a w:=by
 intro b k cs;obtain⟨e,a',w',hq,FY⟩:=h b k cs;exact⟨e,a',w',hq,.of_steps (.one step_loop) FY⟩
theorem GC {P:Program} {c:Code} {Q:Exit→Act→World→Prop} {a:Act} {w:World} (h:c.wp P (Exit.then (O7 P c Q) Q) a w):O7 P c Q a w:=by
 intro b k cs;obtain⟨e,a₁,w₁,hq,FY⟩:=h b (.inLoop c::k) cs
 cases e with
 |normal=>
  obtain⟨e₂,a₂,w₂,Yi,Qq⟩:=hq b k cs;exact⟨e₂,a₂,w₂,Yi,.of_steps (Steps.trans FY (.one step_inLoop)) Qq⟩
 |exit id=>exact⟨_,a₁,w₁,hq,.pass (x:=.inLoop c) rfl (fun _ _=>.inl (by simp)) FY⟩
 |goto l=>exact⟨_,a₁,w₁,hq,.pass (x:=.inLoop c) rfl (fun _ _=>.inl (by simp)) FY⟩
 |ret=>exact⟨_,a₁,w₁,hq,.pass (x:=.inLoop c) rfl (fun _ _=>.inl (by simp)) FY⟩
 |panic ch=>exact⟨_,a₁,w₁,hq,.pass (x:=.inLoop c) rfl (fun _ _=>.inl (by simp)) FY⟩
 |outgrown=>exact⟨_,a₁,w₁,hq,.pass (x:=.inLoop c) rfl (fun _ _=>.inl (by simp)) FY⟩
def mL (E:jR) (c:Code) (f:FuncId) (S:St) (Kr:St→Prop) (Ke:Nat→St→Prop):Prop:=
 ∀(fn:Func) (H0:ag) (ρ0:da) (w0:World) (ρ lam:da) (a:Act) (w:World) (Q:Exit→Act→World→Prop),E.P.funcs[f]? =some fn→
  SR H0 ρ0 w0 (E.ann f) fn.ntmps ρ lam S a w→
  (∀S' ρ' dm a' w',SR H0 ρ0 w0 (E.ann f) fn.ntmps ρ' dm S' a' w'→Kr S'→Q .ret a' w')→
  (∀id S' ρ' dm a' w',SR H0 ρ0 w0 (E.ann f) fn.ntmps ρ' dm S' a' w'→Ke id S'→Q (.exit id) a' w')→O7 E.P c Q a w
structure mM (E:jR) (R:lG):Prop where
 call:∀f args H K,R.call f args H K→ie E f args H K
 body:∀f args H K,R.call f args H K→∃fn,E.P.funcs[f]? =some fn∧fn.body.isSome=true
 loop:∀c f n S Kr Ke,R.loop c f n S Kr Ke→mL E c f S Kr Ke
 mono:R.le R
 uJ:hH R
 ext:jE E
section
variable {E:jR} {H0:ag} {ρ0:da} {w0:World} {ann:bO} {N:Nat} {ρ lam:da} {S:St} {a:Act} {w:World} {R:lG}
theorem rQ {tm:Nat→Option T}:∀{l:List Nat} {m:List (Nat×T)} {t:Nat} {x:T},DV tm l=some m→ab m t=some x→tm t=some x
 |[],m,t,x,h,hl=>by simp only[DV,Option.some.injEq] at h;subst h;cases hl
 |s::l,m,t,x,h,hl=>by
  simp only[DV] at h;split at h
  ·rename_i y m' hy hm;simp only[Option.some.injEq] at h;subst h;simp only[ab,aP] at hl;by_cases he:t=s
   ·simp only[he,decide_true,cond_true,Option.some.injEq] at hl;subst hl;rw[he];exact hy
   ·simp only[he,decide_false,cond_false] at hl;exact rQ hm hl
  ·cases h
theorem rR {tm:Nat→Option aV}:∀{l:List Nat} {m:List (Nat×aV)} {t:Nat} {x:aV},DW tm l=some m→ab m t=some x→tm t=some x
 |[],m,t,x,h,hl=>by simp only[DW,Option.some.injEq] at h;subst h;cases hl
 |s::l,m,t,x,h,hl=>by
  simp only[DW] at h;split at h
  ·rename_i y m' hy hm;simp only[Option.some.injEq] at h;subst h;simp only[ab,aP] at hl;by_cases he:t=s
   ·simp only[he,decide_true,cond_true,Option.some.injEq] at hl;subst hl;rw[he];exact hy
   ·simp only[he,decide_false,cond_false] at hl;exact rR hm hl
  ·cases h
theorem SR.O8 (h:SR H0 ρ0 w0 ann N ρ lam S a w) {S':St} (h1:∀t x,S'.tm t=some x→S.tm t=some x) (h2:∀t x,S'.lo t=some x→S.lo t=some x) (h3:S'.hp=S.hp):SR H0 ρ0 w0 ann N ρ lam S' a w where
 defers:=h.defers
 size:=h.size
 tm:=fun t x hx=>h.tm t x (h1 t x hx)
 JH:=fun t s off hx=>h.JH t s off (h1 t _ hx)
 lo:=fun s L hL=>by rw[h3];exact h.lo s L (h2 s L hL)
 sW:=fun s s' L L' b e1 e2=>h.sW s s' L L' b (h2 _ _ e1) (h2 _ _ e2)
 hr:=by rw[h3];exact h.hr
 bN:=by rw[h3];exact h.bN
theorem jF (h:SR H0 ρ0 w0 ann N ρ lam S a w) {ts ls:List Nat} {K:St→Prop} (hk:kK ts ls S K):∃S',SR H0 ρ0 w0 ann N ρ lam S' a w∧K S':=by
 unfold kK at hk;split at hk
 ·rename_i m l hm hl;exact⟨_,h.O8 (S':=⟨ab m,ab l,S.hp⟩) (fun t x hx=>rQ hm hx) (fun t x hx=>rR hl hx) rfl,hk⟩
 ·exact hk.elim
theorem O9 {k:KT} {x:Option T} (h:aG k x=true):x=some (OU k x):=by
 cases k with
 |k k=>
  cases x with
  |none=>simp [aG] at h
  |some y=>cases y with
   |v z=>simp only[aG] at h;simp [OU,T.val,V.rk h]
   |_=>simp [aG] at h
 |agg ks=>
  cases x with
  |none=>simp [aG] at h
  |some y=>cases y with
   |v z=>
    simp only[aG,Bool.and_eq_true] at h;simp only[OU,T.val];rw[km h.2 rfl, ←sX h.1]
   |_=>simp [aG] at h
 |lp s=>
  cases x with
  |none=>simp [aG] at h
  |some y=>cases y with
   |lp s' off=>
    cases off with
    |zero=>simp only[aG] at h;rw[Nat.eq_of_beq_eq_true h];rfl
    |succ n=>simp [aG] at h
   |_=>simp [aG] at h
 |undef=>
  cases x with
  |none=>simp [aG] at h
  |some y=>cases y with
   |undef=>rfl
   |_=>simp [aG] at h
theorem Pa {e:TypeId} {ks:List bX} {x:Option aV} (h:ef e ks x=true):x=some (.cells e (ny ks (ar x) 0)):=by
 cases x with
 |none=>simp [ef] at h
 |some y=>cases y with
  |cells e' cs=>
   simp only[ef,Bool.and_eq_true] at h;simp only[ar];rw[km h.2 rfl,Nat.eq_of_beq_eq_true h.1]
  |dz s p=>simp [ef] at h
theorem rS:∀{l:List (Nat×KT)} {t:Nat} {x:T},(kL S l).1=true→ab (kL S l).2 t=some x→S.tm t=some x
 |[],t,x,_,hl=>by cases hl
 |(s,k)::l,t,x,h,hl=>by
  simp only[kL,Bool.and_eq_true] at h hl;simp only[ab,aP] at hl;by_cases he:t=s
  ·simp only[he,decide_true,cond_true,Option.some.injEq] at hl;subst hl;rw[he];exact O9 h.1
  ·simp only[he,decide_false,cond_false] at hl;exact rS h.2 hl
theorem rT:∀{l:List (Nat×TypeId×List bX)} {t:Nat} {x:aV},(kM S l).1=true→ab (kM S l).2 t=some x→S.lo t=some x
 |[],t,x,_,hl=>by cases hl
 |(s,e,ks)::l,t,x,h,hl=>by
  simp only[kM,Bool.and_eq_true] at h hl;simp only[ab,aP] at hl;by_cases he:t=s
  ·simp only[he,decide_true,cond_true,Option.some.injEq] at hl;subst hl;rw[he];exact Pa h.1
  ·simp only[he,decide_false,cond_false] at hl;exact rT h.2 hl
theorem o4 (h:SR H0 ρ0 w0 ann N ρ lam S a w) {ts:List (Nat×KT)} {ls:List (Nat×TypeId×List bX)} {K:St→Prop} (hk:As ts ls S K):∃S',SR H0 ρ0 w0 ann N ρ lam S' a w∧K S':=by
 obtain⟨h1,h2⟩:=aL hk;rw[Bool.and_eq_true] at h1;exact⟨_,h.O8 (S':=⟨ab (kL S ts).2,ab (kM S ls).2,S.hp⟩) (fun t x hx=>rS h1.1 hx) (fun t x hx=>rT h1.2 hx) rfl,h2⟩
theorem te (h:SR H0 ρ0 w0 ann N ρ lam S a w) {kp:jb} {K:Ex→St→Prop}:∀{l:List Nat} {id:Nat},uN kp K l id S→∃S',SR H0 ρ0 w0 ann N ρ lam S' a w∧K (.exit id) S'
 |[],_,hk=>hk.elim
 |j::l,id,hk=>by
  rcases gg hk with⟨hj,hk⟩|⟨_,hk⟩
  ·rw[Nat.eq_of_beq_eq_true hj];exact o4 h hk
  ·exact te h hk
def gI (E:jR) (R:lG) (ann:bO) (N:Nat) (aE:Array Oper):List Nat→St→(St→Prop)→Prop
 |[],S,K=>K S
 |i::l,S,K=>match aE[i]? with
  |some o=>eh E R ann N aE.toList o S fun S'=>gI E R ann N aE l S' K
  |none=>gI E R ann N aE l S K
theorem AD {aE:Array Oper} {K:St→Prop}:∀(l:List Oper) (i:Nat) {S:St},aE.toList.drop i=l→kJ E R ann N aE.toList l S K=gI E R ann N aE (List.range' i l.length) S K
 |[],i,_,_=>rfl
 |o::l,i,S,hl=>by
  have hi:aE[i]? =some o:=by
   have:(aE.toList.drop i)[0]? =some o:=by rw[hl];rfl
   simpa using this
  rw[List.length_cons,List.range'_succ,gI,hi];have hl':aE.toList.drop (i+1)=l:=by rw[←List.drop_drop,hl];rfl
  simp only[kJ];congr 1;funext S';exact AD l (i+1) hl'
theorem o5 (hR:mM E R) {aE:Array Oper} {Q:Exit→Act→World→Prop}:∀(l:List Nat) {S:St} {K:St→Prop} {ρ lam:da} {a:Act} {w:World},SR H0 ρ0 w0 ann N ρ lam S a w→gI E R ann N aE l S K→(∀S' ρ' dm a' w',SR H0 ρ0 w0 ann N ρ' dm S' a' w'→K S'→Q .normal a' w')→wpOps E.P aE Q l a w
 |[],S,K,ρ,lam,a,w,h,hk,hq=>hq _ _ _ _ _ h hk
 |i::l,S,K,ρ,lam,a,w,h,hk,hq=>by
  rw[wpOps_cons];unfold gI at hk;split at hk
  ·rename_i o ho;exact o0 hR.ext hR.call hR.body h ho hk fun S' ρ' dm a' w' h' hk'=>o5 hR l h' hk' hq
  ·rename_i ho;unfold wpOp;simp only[ho];exact o5 hR l h hk hq
end
section
variable {E:jR} {H0:ag} {ρ0:da} {w0:World} {ann:bO} {N:Nat} {ρ lam:da} {S:St} {a:Act} {w:World} {R:lG}
theorem tf (hR:mM E R) {aE:Array Oper} {i:Nat} {o:Oper} (hi:aE[i]? =some o):∀(pre:List Nat) (post:List Nat) {S:St} {K:St→Prop},(∀j∈pre,∀p,aE[j]? =some p→gb (cM E ann aE.toList o) (cM E ann aE.toList p)=true)→gI E R ann N aE (pre++i::post) S K→eh E R ann N aE.toList o S fun S'=>gI E R ann N aE (pre++post) S' K
 |[],post,S,K,_,hk=>by
  rw[List.nil_append,gI,hi] at hk;exact hk
 |j::pre,post,S,K,hap,hk=>by
  rw[List.cons_append,gI] at hk
  have ih:∀S',gI E R ann N aE (pre++i::post) S' K→eh E R ann N aE.toList o S' fun S'=>gI E R ann N aE (pre++post) S' K:=
   fun S' h=>tf hR hi pre post (fun j hj=>hap j (List.mem_cons_of_mem _ hj)) h
  split at hk
  ·rename_i p hp;have h1:=dV hR.mono ih hk
   have abn:gb (cM E ann aE.toList p) (cM E ann aE.toList o)=true:=by
    have:=hap j (List.mem_cons_self ..) p hp;simp only[gb,Bool.and_eq_true,Bool.not_eq_true'] at this⊢;obtain⟨⟨⟨⟨⟨⟨⟨⟨h1,h2⟩,h3⟩,h4⟩,h5⟩,h6⟩,h7⟩,h8⟩,h9,xg⟩:=this
    have flip:∀{l m:List Nat},iX l m=false→iX m l=false:=by
     intro l m h;have hs:=fo h;cases hq:iX m l
     ·rfl
     ·exfalso
      have:∀{l' m':List Nat},iX l' m'=true→∃x,x∈l'∧x∈m':=by
       intro l' m' hh
       induction l' with
       |nil=>cases hh
       |cons y l' ih=>
        rw[iX,Bool.or_eq_true] at hh;rcases hh with hh|hh
        ·exact⟨y,List.mem_cons_self ..,jh.1 hh⟩
        ·obtain⟨x,hx1,uH⟩:=ih hh;exact⟨x,List.mem_cons_of_mem _ hx1,uH⟩
      obtain⟨x,hx1,uH⟩:=this hq;exact hs x uH hx1
    exact⟨⟨⟨⟨⟨⟨⟨⟨h3,flip h2⟩,h1⟩,h6⟩,flip h5⟩,h4⟩,h8⟩,h7⟩,xg,h9⟩
   have h2:=xA hR.mono hR.uJ abn h1;refine dV hR.mono ?_ h2;intro S' h';rw[List.cons_append,gI,hp];exact h'
  ·rename_i hp;have:=ih _ hk;refine dV hR.mono ?_ this;intro S' h';rw[List.cons_append,gI,hp];exact h'
theorem vS {i:Nat}:∀{l:List Edge},B3 i l=true→∀e∈l,Region.binds .any e=true→e.on<i
 |[],_,e,he=>by cases he
 |x::l,h,e,he=>by
  rw[B3,Bool.and_eq_true,Bool.or_eq_true] at h;intro hb;rcases List.mem_cons.1 he with rfl|he
  ·rcases h.1 with h1|h1
   ·rw[hb] at h1;cases h1
   ·simpa using h1
  ·exact vS h.2 e he hb
theorem nS:∀{l:List Oper} {i:Nat},nF l i=true→∀(j:Nat) (o:Oper),l[j]? =some o→∀e∈o.after.toList,Region.binds .any e=true→e.on<i+j
 |[],_,_,j,o,h=>by simp at h
 |x::l,i,h,j,o,ho=>by
  rw[nF,Bool.and_eq_true] at h;intro e he hb
  cases j with
  |zero=>simp only[List.getElem?_cons_zero,Option.some.injEq] at ho;subst ho;exact vS h.1 e he hb
  |succ j=>
   have:=nS h.2 j o (by simpa using ho) e he hb;omega
theorem th {fs:List jz} {bs:List (List Nat)} {i:Nat} {f:jz}:∀{n:Nat},sR fs bs i f n=true→∀j,j<n→∃g b,fs[j]? =some g∧bs[i]? =some b∧(j∈b∨gb f g=true)
 |0,_,j,hj=>by omega
 |n+1,h,j,hj=>by
  rw[sR,Bool.and_eq_true] at h;by_cases he:j=n
  ·subst he;have h1:=h.1;split at h1
   ·rename_i g b hg hb;rw[Bool.or_eq_true] at h1;exact⟨g,b,hg,hb,h1.imp jh.1 id⟩
   ·cases h1
  ·exact th h.2 j (by omega)
theorem o6 {fs:List jz} {bs:List (List Nat)}:∀{l:List jz} {k:Nat},p9 fs bs l k=true→∀(i:Nat) (f:jz),l[i]? =some f→sR fs bs (k+i) f (k+i)=true
 |[],_,_,i,f,h=>by simp at h
 |x::l,k,h,i,f,hf=>by
  rw[p9,Bool.and_eq_true] at h
  cases i with
  |zero=>simp only[List.getElem?_cons_zero,Option.some.injEq] at hf;subst hf;exact h.1
  |succ i=>
   have:=o6 h.2 i f (by simpa using hf);rw[show k+(i+1)=k+1+i by omega];exact this
theorem tk:∀(l:List Oper) (acc:List (List Nat)) (i:Nat) (b:List Nat),(iC l acc)[i]? =some b→(i<acc.length∧acc[i]? =some b)∨∃o,l[i-acc.length]? =some o∧acc.length≤i∧∀j∈b,∃e∈o.after.toList,Region.binds .any e=true∧(j=e.on∨(e.on<i∧∃b',(iC l acc)[e.on]? =some b'∧j∈b'))
 |[],acc,i,b,h=>by
  simp only[iC] at h;refine .inl ⟨?_,h⟩;rcases Nat.lt_or_ge i acc.length with h'|h'
  ·exact h'
  ·rw[List.getElem?_eq_none h'] at h;cases h
 |o::l,acc,i,b,h=>by
  simp only[iC] at h⊢
  have keep:∀(l:List Oper) (acc:List (List Nat)) (i:Nat),i<acc.length→(iC l acc)[i]? =acc[i]? :=by
   intro l
   induction l with
   |nil=>intro acc i hi;rfl
   |cons q l ih=>
    intro acc i hi;simp only[iC];rw[ih _ i (by simp;omega),List.getElem?_append_left hi]
  rcases tk l (acc++[p8 acc o.after.toList]) i b h with⟨h1,h2⟩|⟨q,h1,h2,h3⟩
  ·simp only[List.length_append,List.length_singleton] at h1;by_cases hi:i<acc.length
   ·rw[List.getElem?_append_left hi] at h2;exact .inl ⟨hi,h2⟩
   ·have hi':i=acc.length:=by omega
    subst hi';rw[List.getElem?_append_right (Nat.le_refl _)] at h2;simp only[Nat.sub_self,List.getElem?_cons_zero,Option.some.injEq] at h2;subst h2;refine .inr ⟨o,by simp,Nat.le_refl _, ?_⟩;intro j hj
    have:∀(es:List Edge),j∈p8 acc es→∃e∈es,Region.binds .any e=true∧(j=e.on∨j∈acc[e.on]?.getD []):=by
     intro es
     induction es with
     |nil=>intro h;cases h
     |cons e es ih=>
      intro h;simp only[p8] at h;cases hb:Region.binds .any e
      ·simp only[hb,cond_false] at h;obtain⟨e',h1,h2⟩:=ih h;exact⟨e',List.mem_cons_of_mem _ h1,h2⟩
      ·simp only[hb,cond_true,List.mem_cons,List.mem_append] at h;rcases h with h|h|h
       ·exact⟨e,List.mem_cons_self ..,hb,.inl h⟩
       ·exact⟨e,List.mem_cons_self ..,hb,.inr h⟩
       ·obtain⟨e',h1,h2⟩:=ih h;exact⟨e',List.mem_cons_of_mem _ h1,h2⟩
    obtain⟨e,h4,h5,h6⟩:=this _ hj;refine⟨e,h4,h5,h6.imp id fun h6=> ?_⟩
    cases hg:acc[e.on]? with
    |none=>rw[hg] at h6;cases h6
    |some b'=>
     rw[hg] at h6
     have hlt:e.on<acc.length:=by
      rcases Nat.lt_or_ge e.on acc.length with h'|h'
      ·exact h'
      ·rw[List.getElem?_eq_none h'] at hg;cases hg
     refine⟨hlt,b', ?_,h6⟩;rw[keep _ _ _ (by simp;omega),List.getElem?_append_left hlt,hg]
  ·simp only[List.length_append,List.length_singleton] at h1 h2 h3;refine .inr ⟨q, ?_,by omega,h3⟩;rw[show i-acc.length=i-(acc.length+1)+1 by omega];simpa using h1
def jG (n:Nat) (listed:Array Bool):List Nat:=(List.range n).filter fun i=> !listed.getD i false
theorem tl {p q:Nat→Bool} {i:Nat} (hpq:∀j,j≠i→q j=p j) (hi:p i=true) (hqi:q i=false):∀(l:List Nat),i∈l→l.Nodup→∃pre post,l.filter p=pre++i::post∧l.filter q=pre++post∧(∀j∈pre,j∈l∧p j=true∧j≠i)∧(l.Pairwise (· < ·)→∀j∈pre,j<i)
 |[],h,_=>by cases h
 |x::l,h,hn=>by
  rw[List.nodup_cons] at hn;by_cases hx:x=i
  ·subst hx
   have hsame:l.filter q=l.filter p:=by
    apply List.filter_congr;intro j hj;exact hpq j (fun e=>hn.1 (e▸hj))
   exact⟨[],l.filter p,by simp [hi],by simp [hqi,hsame],fun j hj=>by simp at hj,fun _ j hj=>by simp at hj⟩
  ·have lY:i∈l:=by
    rcases List.mem_cons.1 h with h|h
    ·exact(hx h.symm).elim
    ·exact h
   obtain⟨pre,post,h1,h2,h3,h4⟩:=tl hpq hi hqi l lY hn.2;cases hp:p x
   ·refine⟨pre,post,by simp [hp,h1],by simp [hpq x hx,hp,h2],fun j hj=>⟨List.mem_cons_of_mem _ (h3 j hj).1,(h3 j hj).2⟩,fun hs=>h4 (List.pairwise_cons.1 hs).2⟩
   ·refine⟨x::pre,post,by simp [hp,h1],by simp [hpq x hx,hp,h2], ?_, ?_⟩
    ·intro j hj;rcases List.mem_cons.1 hj with rfl|hj
     ·exact⟨List.mem_cons_self ..,hp,hx⟩
     ·exact⟨List.mem_cons_of_mem _ (h3 j hj).1,(h3 j hj).2⟩
    ·intro hs j hj;rw[List.pairwise_cons] at hs;rcases List.mem_cons.1 hj with rfl|hj
     ·exact hs.1 i lY
     ·exact h4 hs.2 j hj
end
section
variable {E:jR} {R:lG} {ann:bO} {N:Nat}
theorem fl.run_bind {α β:Type} {k:α→fl β} {K:β→Prop}:∀(t:fl α),(t.bind k).run K=t.run fun a=>(k a).run K
 | .leaf _=>rfl
 | .br c x y=>by simp only[fl.bind,fl.run,fl.run_bind x,fl.run_bind y]
 | .ah c x=>by simp only[fl.bind,fl.run,fl.run_bind x]
 | .aM=>rfl
theorem fl.cn {α:Type} {K K':α→Prop} (h:∀a,K a→K' a):∀{t:fl α},t.run K→t.run K'
 | .leaf _,hk=>h _ hk
 | .br _ _ _,hk=>eJ (fl.cn h) (fl.cn h) hk
 | .ah _ _,hk=>bJ (fl.cn h) hk
 | .aM,hk=>hk
theorem tp {S:St} {M:MS} {d:Nat} {x:T}:MS.st S {M with U:=(d,x)::M.U}=(M.st S).setT d x:=by
 unfold MS.st St.setT;congr 1;funext t;simp only[oB,ab];cases Nat.beq t d<;>rfl
theorem Pb {S:St} {M:MS} {s:Nat} {x:aV}:MS.st S {M with W:=(s,x)::M.W}=(M.st S).setL s x:=by
 unfold MS.st St.setL;congr 1;funext t;simp only[xl,ab];cases Nat.beq t s<;>rfl
theorem jH {dst:Option Tmp} {x:T} {S:St} {M:MS} {K:St→Prop} (h:(BX ann N dst x M).run fun M'=>K (M'.st S)):jd ann N dst x (M.st S) K:=by
 unfold BX at h;unfold jd
 cases dst with
 |none=>exact h
 |some d=>
  simp only[fl.run] at h⊢;refine bJ ?_ h
  cases x with
  |v y=>intro h;rw[←tp];exact h
  |undef=>intro h;rw[←tp];exact h
  |lp s o=>
   simp only[]
   cases ab ann.aT d with
   |none=>exact id
   |some s'=>
    simp only[]
    cases Nat.beq s s' with
    |true=>intro h;simp only[cond_true];rw[←tp];exact h
    |false=>exact id
theorem CA {α:Type} {d:fw α} {X:Prop} {K:α→Prop} (h:ah (d.rq&&d.c) X) (hx:X→K d.x):d.run K:=by
 obtain⟨h1,h2⟩:=aL h;rw[Bool.and_eq_true] at h1;unfold fw.run;rw[h1.1,h1.2];exact hx h2
theorem qi {o:Oper} {S:St} {M:MS} {K:St→Prop} (h:(DX E ann N o S M).run fun M'=>K (M'.st S)):iW E R ann N o (M.st S) K:=by
 unfold DX at h;unfold iW
 cases hc:Gl E ann o with
 |pure=>
  simp only[hc] at h⊢
  cases hp:aU E o.op (cH (oB S M.U)) with
  |none=>simp only[hp] at h;exact h.elim
  |some d=>simp only[MS.st,hp] at h⊢;exact CA h jH
 |oi s=>
  simp only[hc] at h⊢
  cases hp:gz E o.op (cH (oB S M.U)) s (xl S M.W s) with
  |none=>simp only[hp] at h;exact h.elim
  |some d=>simp only[MS.st,hp] at h⊢;exact CA h jH
 |iA s=>
  simp only[hc] at h⊢
  cases hp:dI E o.op (cH (oB S M.U)) s (xl S M.W s) with
  |none=>simp only[hp] at h;exact h.elim
  |some d=>
   simp only[hp] at h;simp only[MS.st,hp];refine CA h ?_;intro h;have:=jH h;rw[Pb] at this;exact this
 |jZ=>
  simp only[hc] at h⊢
  cases hp:db E o.op (cH (oB S M.U)) S.hp with
  |none=>simp only[hp] at h;exact h.elim
  |some d=>simp only[MS.st,hp] at h⊢;exact CA h jH
 |sO=>simp only[hc] at h;exact h.elim
 |sP=>simp only[hc] at h;exact h.elim
 |cW=>simp only[hc] at h;exact h.elim
theorem JP {aE:List Oper} {o:Oper} {S:St} {M:MS} {K:St→Prop} (h:(LC E ann N aE o S M).run fun M'=>K (M'.st S)):sQ E R ann N aE o (M.st S) K:=by
 unfold LC at h;unfold sQ
 cases hg:o.guard with
 |none=>simp only[hg] at h⊢;exact qi h
 |some p=>
  obtain⟨j,want⟩:=p;simp only[hg] at h⊢
  cases hl:BW aE j with
  |none=>simp only[hl] at h;exact h.elim
  |some s=>
   simp only[hl] at h⊢;have Zn:(M.st S).tm s=oB S M.U s:=rfl;rw[Zn]
   cases hs:oB S M.U s with
   |none=>simp only[hs] at h;exact h.elim
   |some t=>
    cases t with
    |undef=>simp only[hs] at h⊢;exact jH h
    |lp a b=>simp only[hs] at h;exact h.elim
    |v x=>
     cases x with
     |bool b=>
      simp only[hs] at h⊢
      have zw:(M.st S).setT s (.v (.bool b))=M.st S:=by
       unfold St.setT MS.st;congr 1;funext t
       cases ht:Nat.beq t s with
       |false=>rfl
       |true=>simp only[cond_true];rw[Nat.eq_of_beq_eq_true ht,hs]
      cases hk:bx s M.kn with
      |true=>
       simp only[hk] at h;cases want<;>cases b
       ·have:=qi (R:=R) h;rw[←zw] at this;exact this
       ·have:=jH h;rw[←zw] at this;exact this
       ·have:=jH h;rw[←zw] at this;exact this
       ·have:=qi (R:=R) h;rw[←zw] at this;exact this
      |false=>
       simp only[hk] at h;refine eJ ?_ ?_ h
       ·intro h;have:=qi (R:=R) h;have e:MS.st S {M with U:=(s,.v (.bool want))::M.U,kn:=s::M.kn}=(M.st S).setT s (.v (.bool want)):=tp;rw[e] at this;exact this
       ·intro h;have:=jH h;have e:MS.st S {M with U:=(s,.v (.bool (!want)))::M.U,kn:=s::M.kn}=(M.st S).setT s (.v (.bool (!want))):=tp;rw[e] at this;exact this
     |_=>simp only[hs] at h;exact h.elim
theorem GD (hm:R.le R) {aE:List Oper} {o:Oper} {S:St} {K K':St→Prop} (h:∀S,K S→K' S) (hx:sQ E R ann N aE o S K):sQ E R ann N aE o S K':=by
 rw[gO] at hx⊢;exact dV hm h hx
theorem xX (hm:R.le R) {aE:List Oper} {K:St→Prop} {S:St}:∀(l:List Oper) {M:MS},(BZ E ann N aE l S M).run (fun M'=>K (M'.st S))→rE E R ann N aE l (M.st S) K
 |[],M,h=>h
 |o::l,M,h=>by
  unfold BZ at h;rw[fl.run_bind] at h;refine JP (K:=fun S'=>rE E R ann N aE l S' K) (fl.cn ?_ h);intro M' h';exact xX hm l h'
theorem kR {α:Type} {t:Nat} {m:α} {r:List (Nat×α)}:ab ((t,m)::r) t=some m:=by simp [ab,Nat.beq_refl]
theorem dA {α:Type} {t u:Nat} {m:α} {r:List (Nat×α)} (h:t≠u):ab ((u,m)::r) t=ab r t:=by
 have:Nat.beq t u=false:=by
  cases hb:Nat.beq t u with
  |false=>rfl
  |true=>exact absurd (Nat.eq_of_beq_eq_true hb) h
 simp [ab,this]
def gm {α:Type} (g:Nat→Option α) (A:List (Nat×α)) (t:Nat):Option α:=match ab A t with|some x=>some x|none=>g t
theorem AE {S:St} {U:List (Nat×T)} {t:Nat}:oB S U t=gm S.tm U t:=by unfold oB gm;cases ab U t<;>rfl
theorem AF {S:St} {W:List (Nat×aV)} {t:Nat}:xl S W t=gm S.lo W t:=by unfold xl gm;cases ab W t<;>rfl
theorem vT {α:Type} {g:Nat→Option α} {f:α→α→Option α} {A B:List (Nat×α)}:∀{l:List Nat} {r:List (Nat×α)},nC g f A B l=some r→∀t,ab A t=none→ab B t=none→ab r t=none
 |[],r,h,t,_,_=>by cases h;rfl
 |u::l,r,h,t,ha,hb=>by
  simp only[nC] at h;split at h
  ·cases h
  ·rename_i r' hr';have ih:=vT hr' t ha hb;by_cases htu:t=u
   ·subst htu;rw[ha,hb] at h;cases h;exact ih
   ·split at h
    ·cases h;exact ih
    ·split at h
     ·cases h;rw[dA htu];exact ih
     ·cases h
    ·split at h
     ·split at h
      ·cases h;rw[dA htu];exact ih
      ·cases h
     ·cases h
    ·split at h
     ·split at h
      ·cases h;rw[dA htu];exact ih
      ·cases h
     ·cases h
theorem o7 {α:Type} {g:Nat→Option α} {f:α→α→Option α} {c:Bool} (hf:∀a b m,f a b=some m→m=if c then a else b) {A B:List (Nat×α)}:∀{l:List Nat} {r:List (Nat×α)},nC g f A B l=some r→∀t∈l,gm g r t=if c then gm g A t else gm g B t
 |[],_,_,t,ht=>by cases ht
 |u::l,r,h,t,ht=>by
  simp only[nC] at h;split at h
  ·cases h
  ·rename_i r' hr';have ih:t∈l→gm g r' t=if c then gm g A t else gm g B t:=o7 hf hr' t
   by_cases htu:t=u
   ·subst htu;split at h
    ·rename_i ha hb;cases h;have hk:=vT hr' t ha hb;simp only[gm,ha,hb,hk];cases c<;>rfl
    ·rename_i a b ha hb;split at h
     ·rename_i m hm;cases h;simp only[gm,kR,ha,hb,hf _ _ _ hm];cases c<;>rfl
     ·cases h
    ·rename_i a ha hb;split at h
     ·rename_i b hg;split at h
      ·rename_i m hm;cases h;simp only[gm,kR,ha,hb,hg,hf _ _ _ hm];cases c<;>rfl
      ·cases h
     ·cases h
    ·rename_i b ha hb;split at h
     ·rename_i a hg;split at h
      ·rename_i m hm;cases h;simp only[gm,kR,ha,hb,hg,hf _ _ _ hm];cases c<;>rfl
      ·cases h
     ·cases h
   ·have htl:t∈l:=by simpa [htu] using ht
    have ih:=ih htl;split at h
    ·cases h;exact ih
    ·split at h
     ·cases h;rw[←ih];simp only[gm,dA htu]
     ·cases h
    ·split at h
     ·split at h
      ·cases h;rw[←ih];simp only[gm,dA htu]
      ·cases h
     ·cases h
    ·split at h
     ·split at h
      ·cases h;rw[←ih];simp only[gm,dA htu]
      ·cases h
     ·cases h
theorem GF {c:Bool} {a b m:T} (h:B0 c a b=some m):m=if c then a else b:=by
 unfold B0 at h;split at h
 ·cases h;rw[Jz];cases c<;>rfl
 ·rename_i s o s' o'
  cases hb:(Nat.beq s s'&&Nat.beq o o') with
  |false=>rw[hb] at h;cases h
  |true=>
   rw[hb] at h;rw[Bool.and_eq_true] at hb;cases h;rw[Nat.eq_of_beq_eq_true hb.1,Nat.eq_of_beq_eq_true hb.2];cases c<;>rfl
 ·cases h;cases c<;>rfl
 ·cases h
theorem GG {c:Bool} {a b m:aV} (h:B1 c a b=some m):m=if c then a else b:=by
 unfold B1 at h;split at h
 ·rename_i e cs e' cs'
  cases hb:Nat.beq e e' with
  |false=>rw[hb] at h;cases h
  |true=>
   rw[hb,cond_true] at h;split at h
   ·rename_i r hr;cases h;rw[rp hr,Nat.eq_of_beq_eq_true hb];cases c<;>rfl
   ·cases h
 ·cases h
theorem iG {n:Nat}:∀{l:List Nat},bx n l=true↔n∈l
 |[]=>by simp [bx]
 |x::l=>by
  simp only[bx,Bool.or_eq_true,List.mem_cons,iG (l:=l)];constructor
  ·rintro(h|h)
   ·exact .inl (Nat.eq_of_beq_eq_true h)
   ·exact .inr h
  ·rintro(h|h)
   ·exact .inl (by rw[h];exact Nat.beq_refl _)
   ·exact .inr h
theorem nT {n:Nat} {l:List Nat} (h:bx n l=false):n∉l:=fun hm=>by rw[iG.2 hm] at h;cases h
def RR {α:Type} (a b:List Nat) (l:List (Nat×α)):Prop:=∀t,bx t a=false→bx t b=false→ab l t=none
theorem o8 {α:Type} {a b:List Nat}:∀{l:List (Nat×α)},nD a b l=true→RR a b l
 |[],_,_,_,_=>rfl
 |(u,x)::l,h,t,ha,hb=>by
  simp only[nD,Bool.and_eq_true,Bool.or_eq_true] at h
  have hne:t≠u:=by
   rintro rfl;rcases h.1 with h|h
   ·rw[ha] at h;cases h
   ·rw[hb] at h;cases h
  rw[dA hne];exact o8 h.2 t ha hb
theorem kS {α:Type} {g:Nat→Option α} {f:α→α→Option α} {A B:List (Nat×α)}:∀{l:List Nat} {r:List (Nat×α)},nC g f A B l=some r→∀t,bx t l=false→ab r t=none
 |[],r,h,t,_=>by cases h;rfl
 |u::l,r,h,t,ht=>by
  have htu:t≠u:=fun e=>nT ht (by rw[e];exact List.mem_cons_self ..)
  have htl:bx t l=false:=by
   cases hm:bx t l with
   |false=>rfl
   |true=>exact absurd (List.mem_cons_of_mem _ (iG.1 hm)) (nT ht)
  simp only[nC] at h;split at h
  ·cases h
  ·rename_i r' hr';have ih:=kS hr' t htl;split at h
   ·cases h;exact ih
   ·split at h
    ·cases h;rw[dA htu];exact ih
    ·cases h
   ·split at h
    ·split at h
     ·cases h;rw[dA htu];exact ih
     ·cases h
    ·cases h
   ·split at h
    ·split at h
     ·cases h;rw[dA htu];exact ih
     ·cases h
    ·cases h
theorem nU {S:St} {ts ls dT dL:List Nat}:∀{tr:fl MS} {r:Bool} {U:List (Nat×T)} {W:List (Nat×aV)},oj S ts ls dT dL tr=some (r,U,W)→RR ts dT U∧RR ls dL W
 | .leaf M,r,U,W,h=>by
   simp only[oj] at h
   cases hk:nD ts dT M.U&&nD ls dL M.W with
   |false=>rw[hk] at h;cases h
   |true=>
    rw[hk] at h;cases h;rw[Bool.and_eq_true] at hk;exact⟨o8 hk.1,o8 hk.2⟩
 | .aM,_,_,_,h=>by cases h
 | .ah c x,r,U,W,h=>by
   simp only[oj] at h;split at h
   ·rename_i r' U' W' h';cases h;exact nU h'
   ·cases h
 | .br c x y,r,U,W,h=>by
   simp only[oj] at h;split at h
   ·split at h
    ·rename_i U' W' hU hW;cases h;exact⟨fun t ht _=>kS hU t ht,fun t ht _=>kS hW t ht⟩
    ·cases h
   ·cases h
def Vk (S:St) (dT dL:List Nat) (U:List (Nat×T)) (W:List (Nat×aV)) (M:MS):Prop:=
 (∀t,bx t dT=false→gm S.tm U t=gm S.tm M.U t)∧∀s,bx s dL=false→gm S.lo W s=gm S.lo M.W s
theorem JQ (c r1 r2:Bool):aR c r1 r2=if c then r1 else r2:=by cases c<;>cases r1<;>cases r2<;>rfl
theorem eY {α:Type} {g:Nat→Option α} {A:List (Nat×α)} {t:Nat} (h:ab A t=none):gm g A t=g t:=by simp [gm,h]
theorem qj {S:St} {ts ls dT dL:List Nat}:∀{tr:fl MS} {r:Bool} {U:List (Nat×T)} {W:List (Nat×aV)},oj S ts ls dT dL tr=some (r,U,W)→r=true→tr.run (Vk S dT dL U W)
 | .leaf M,r,U,W,h,_=>by
   simp only[oj] at h
   cases hk:nD ts dT M.U&&nD ls dL M.W with
   |false=>rw[hk] at h;cases h
   |true=>rw[hk] at h;cases h;exact⟨fun _ _=>rfl,fun _ _=>rfl⟩
 | .aM,_,_,_,h,_=>by cases h
 | .ah c x,r,U,W,h,hr=>by
   simp only[oj] at h;split at h
   ·rename_i r' U' W' h';cases h;rw[Bool.and_eq_true] at hr;simp only[fl.run,hr.1];exact qj h' hr.2
   ·cases h
 | .br c x y,r,U,W,h,hr=>by
   simp only[oj] at h;split at h
   ·rename_i r1 U1 W1 r2 U2 W2 h1 h2;split at h
    ·rename_i U' W' hU hW;cases h;rw[JQ] at hr;have hu:=o7 (c:=c) (fun _ _ _=>GF) hU;have hw:=o7 (c:=c) (fun _ _ _=>GG) hW;have k1:=nU h1;have k2:=nU h2;have du:=kS hU;have dw:=kS hW
     cases c with
     |true=>
      refine fl.cn ?_ (qj (tr:=x) h1 (by simpa using hr));rintro M ⟨ha,hb⟩;refine⟨fun t ht=> ?_,fun s hs=> ?_⟩
      ·rw[←ha t ht]
       cases hm:bx t ts with
       |true=>simpa using hu t (iG.1 hm)
       |false=>rw[eY (du t hm),eY (k1.1 t hm ht)]
      ·rw[←hb s hs]
       cases hm:bx s ls with
       |true=>simpa using hw s (iG.1 hm)
       |false=>rw[eY (dw s hm),eY (k1.2 s hm hs)]
     |false=>
      refine fl.cn ?_ (qj (tr:=y) h2 (by simpa using hr));rintro M ⟨ha,hb⟩;refine⟨fun t ht=> ?_,fun s hs=> ?_⟩
      ·rw[←ha t ht]
       cases hm:bx t ts with
       |true=>simpa using hu t (iG.1 hm)
       |false=>rw[eY (du t hm),eY (k2.1 t hm ht)]
      ·rw[←hb s hs]
       cases hm:bx s ls with
       |true=>simpa using hw s (iG.1 hm)
       |false=>rw[eY (dw s hm),eY (k2.2 s hm hs)]
    ·cases h
   ·cases h
theorem GH {dT dL:List Nat} {S S':St} (h1:∀t,bx t dT=false→S.tm t=S'.tm t) (h2:∀t,bx t dL=false→S.lo t=S'.lo t) (h3:S.hp=S'.hp):qH dT dL S=qH dT dL S':=by
 unfold qH;rw[h3];congr 1
 ·funext t
  cases hm:bx t dT with
  |true=>rfl
  |false=>exact h1 t hm
 ·funext t
  cases hm:bx t dL with
  |true=>rfl
  |false=>exact h2 t hm
theorem GI {S:St} {ts ls dT dL:List Nat} {tr:fl MS} {K:St→Prop} (h:oP ts ls dT dL tr S K):tr.run fun M=>K (qH dT dL (M.st S)):=by
 unfold oP at h;split at h
 ·rename_i r U W hm;obtain⟨hr,hn⟩:=aL h;refine fl.cn ?_ (qj hm hr);rintro M ⟨ha,hb⟩
  have:qH dT dL ⟨oB S U,xl S W,S.hp⟩=qH dT dL (M.st S):=by
   refine GH (fun t ht=> ?_) (fun t ht=> ?_) rfl
   ·simp only[MS.st,AE];exact ha t ht
   ·simp only[MS.st,AF];exact hb t ht
  rw[←this];exact hn
 ·exact h.elim
theorem xY (hm:R.le R) {aE:List Oper} {ts ls dT dL:List Nat} {K:St→Prop}:∀(l:List Oper) {S:St},jU E R ann N ts ls dT dL aE l S K→rE E R ann N aE l S fun S'=>K (qH dT dL S')
 |[],S,h=>h
 |o::l,S,h=>by
  unfold jU at h;split at h
  ·exact GD hm (fun S'=>xY hm l) h
  ·exact xX (K:=fun S'=>K (qH dT dL S')) hm (o::l) (M:=⟨[],[],[]⟩) (GI h)
end
section
variable {E:jR} {R:lG} {ann:bO} {N:Nat} {f:FuncId}
def gn (wT wL:List Nat) (S S':St):Prop:=
 (∀t,bx t wT=false→S'.tm t=S.tm t)∧∀s,bx s wL=false→S'.lo s=S.lo s
theorem gn.refl (wT wL:List Nat) (S:St):gn wT wL S S:=⟨fun _ _=>rfl,fun _ _=>rfl⟩
theorem gn.trans {wT wL:List Nat} {S S' FZ:St} (h:gn wT wL S S') (k:gn wT wL S' FZ):gn wT wL S FZ:=
 ⟨fun t ht=>(k.1 t ht).trans (h.1 t ht),fun t ht=>(k.2 t ht).trans (h.2 t ht)⟩
theorem xZ:∀{l m:List Nat} {x:Nat},jf l m=true→x∈l→x∈m
 |y::l,m,x,h,hx=>by
  simp only[jf,Bool.and_eq_true] at h;rcases List.mem_cons.1 hx with rfl|hx
  ·exact iG.1 h.1
  ·exact xZ h.2 hx
theorem eZ {l m:List Nat} {x:Nat} (h:jf l m=true) (hx:bx x m=false):bx x l=false:=by
 cases hm:bx x l with
 |false=>rfl
 |true=>exact absurd (xZ h (iG.1 hm)) (nT hx)
variable {wT wL:List Nat}
theorem rU {S:St} {d:Nat} {x:T} (h:bx d wT=true):gn wT wL S (S.setT d x):=by
 refine⟨fun t ht=> ?_,fun _ _=>rfl⟩
 have:Nat.beq t d=false:=by
  cases hb:Nat.beq t d with
  |false=>rfl
  |true=>rw[Nat.eq_of_beq_eq_true hb,h] at ht;cases ht
 simp [St.setT,this]
theorem x7 {S:St} {d:Nat} {x:aV} (h:bx d wL=true):gn wT wL S (S.setL d x):=by
 refine⟨fun _ _=>rfl,fun t ht=> ?_⟩
 have:Nat.beq t d=false:=by
  cases hb:Nat.beq t d with
  |false=>rfl
  |true=>rw[Nat.eq_of_beq_eq_true hb,h] at ht;cases ht
 simp [St.setL,this]
theorem gp {dst:Option Tmp} {x:T} {S:St} {K:St→Prop} (hd:jf dst.toList wT=true) (h:jd ann N dst x S K):jd ann N dst x S fun S'=>K S'∧gn wT wL S S':=by
 cases dst with
 |none=>exact⟨h,.refl ..⟩
 |some d=>
  have hd':bx d wT=true:=by simpa [jf] using hd
  refine bJ ?_ h
  cases x with
  |v y=>exact fun h=>⟨h,rU hd'⟩
  |undef=>exact fun h=>⟨h,rU hd'⟩
  |lp s off=>
   simp only[]
   cases ab ann.aT d with
   |none=>exact id
   |some s'=>cases hs:Nat.beq s s'<;>simp [hs];exact fun h=>⟨h,rU hd'⟩
theorem vU {d s:Nat}:∀{l:List (Nat×Nat)} {t:Nat},ab l t=some s→s=d→t∈j7 d l
 |(u,v)::l,t,h,hs=>by
  simp only[ab] at h;simp only[j7]
  cases hb:Nat.beq t u with
  |true=>
   rw[hb] at h;cases h;rw[hs,Nat.beq_refl,cond_true,Nat.eq_of_beq_eq_true hb];exact List.mem_cons_self ..
  |false=>
   rw[hb] at h;have:=vU h hs
   cases Nat.beq v d with
   |true=>exact List.mem_cons_of_mem _ this
   |false=>exact this
theorem GJ {S:St} {d:Nat} (h:jf (j7 d ann.aT) wT=true):gn wT wL S (rD ann d S):=by
 refine⟨fun t ht=> ?_,fun _ _=>rfl⟩;simp only[rD];split
 ·rename_i s hs
  cases hb:Nat.beq s d with
  |false=>rfl
  |true=>exact absurd (xZ h (vU hs (Nat.eq_of_beq_eq_true hb))) (nT ht)
 ·rfl
theorem vV (hm:R.le R) {o:Oper} {S:St} {K:St→Prop} (hw:JB E ann wT wL o=true) (h:iW E R ann N o S K):iW E R ann N o S fun S'=>K S'∧gn wT wL S S':=by
 simp only[JB,Bool.and_eq_true] at hw;obtain⟨⟨hd,hk⟩,hl⟩:=hw;unfold iW at h⊢
 cases hc:Gl E ann o with
 |pure=>
  simp only[hc] at h⊢;split at h
  ·exact fw.cn (fun x=>gp hd) h
  ·exact h
 |oi s=>
  simp only[hc] at h⊢;split at h
  ·exact fw.cn (fun x=>gp hd) h
  ·exact h
 |iA s=>
  simp only[hc] at h hl⊢;split at h
  ·refine fw.cn (fun x hx=> ?_) h;refine eC ?_ (gp (wT:=wT) (wL:=wL) hd hx);rintro S' ⟨h1,h2⟩;exact⟨h1,(x7 hl).trans h2⟩
  ·exact h
 |sO=>
  simp only[hc] at h hl⊢;split at h
  ·rename_i d r L wK _;refine bJ (fun hx=> ?_) h;have hd':bx d wL=true:=by simpa [jf,wK] using hl
   have hk':jf (j7 d ann.aT) wT=true:=by simpa [B2,wK] using hk
   refine eC ?_ (gp (wT:=wT) (wL:=wL) (by simpa [wK] using hd) hx);rintro S' ⟨h1,h2⟩;exact⟨h1,((GJ hk').trans (x7 hd')).trans h2⟩
  ·exact h
 |jZ=>
  simp only[hc] at h⊢;split at h
  ·exact fw.cn (fun x=>gp hd) h
  ·exact h
 |sP=>simp only[hc] at hl;cases hl
 |cW=>
  simp only[hc] at h⊢;refine jv hm (fun x H' hx=> ?_) h;refine eC ?_ (gp (wT:=wT) (wL:=wL) hd hx);rintro S' ⟨h1,h2⟩;exact⟨h1,h2⟩
theorem o9 (hm:R.le R) {aE:List Oper} {o:Oper} {S:St} {K:St→Prop} (hw:JB E ann wT wL o=true) (h:eh E R ann N aE o S K):eh E R ann N aE o S fun S'=>K S'∧gn wT wL S S':=by
 have hd:jf o.dst.toList wT=true:=by
  simp only[JB,Bool.and_eq_true] at hw;exact hw.1.1
 unfold eh at h⊢;split at h
 ·exact vV hm hw h
 ·split at h
  ·exact eJ (vV hm hw) (gp hd) h
  ·exact gp hd h
  ·exact h
theorem tq (hm:R.le R) {aE:List Oper}:∀(l:List Oper) {S:St} {K:St→Prop},jg E ann wT wL l=true→kJ E R ann N aE l S K→kJ E R ann N aE l S fun S'=>K S'∧gn wT wL S S'
 |[],S,K,_,h=>⟨h,.refl ..⟩
 |o::l,S,K,hw,h=>by
  simp only[jg,Bool.and_eq_true] at hw;refine dV hm ?_ (o9 hm hw.1 h);rintro S' ⟨h1,h2⟩;refine oR hm l ?_ (tq hm l hw.2 h1);rintro FZ ⟨h3,h4⟩;exact⟨h3,h2.trans h4⟩
theorem GK {l:List Oper}:jg E ann wT wL l=true→∀o∈l,JB E ann wT wL o=true:=by
 induction l with
 |nil=>intro _ p hp;cases hp
 |cons o l ih=>
  intro h p hp;rw[jg,Bool.and_eq_true] at h;rcases List.mem_cons.1 hp with rfl|hp
  ·exact h.1
  ·exact ih h.2 p hp
theorem tt (hm:R.le R) {aE:List Oper} {i:Nat} {S:St} {K K':St→Prop} (h:∀S,K S→K' S) (hx:fB E R ann N aE i S K):fB E R ann N aE i S K':=by
 unfold fB at hx⊢;split at hx
 ·rw[gO] at hx⊢;exact dV hm h hx
 ·exact hx
theorem CB (hm:R.le R) {aE:List Oper} (hw:jg E ann wT wL aE=true) {i:Nat} {S:St} {K:St→Prop} (h:fB E R ann N aE i S K):fB E R ann N aE i S fun S'=>K S'∧gn wT wL S S':=by
 unfold fB at h⊢;split at h
 ·rename_i o ho;rw[gO] at h⊢;exact o9 hm (GK hw o (List.mem_of_getElem? ho)) h
 ·exact h
theorem j9 (hm:R.le R) {aE:List Oper} (hw:jg E ann wT wL aE=true):∀(t:qN) {S:St} {K:St→Prop},g8 (fB E R ann N aE) t S K→g8 (fB E R ann N aE) t S fun S'=>K S'∧gn wT wL S S'
 | .nil,S,K,h=>⟨h,.refl ..⟩
 | .aM,S,K,h=>h
 | .one i r,S,K,h=>by
   have h:fB E R ann N aE i S (fun S'=>g8 (fB E R ann N aE) r S' K):=h;show fB E R ann N aE i S (fun S'=>g8 (fB E R ann N aE) r S' _)
   refine tt hm ?_ (CB hm hw h);rintro S' ⟨h1,h2⟩;refine jA (st:=fB E R ann N aE) (st':=fB E R ann N aE) (fun i S K K' h hx=>tt hm h hx) r ?_ (j9 hm hw r h1);rintro FZ ⟨h3,h4⟩;exact⟨h3,h2.trans h4⟩
 | .LD a b,S,K,h=>⟨j9 hm hw a h.1,j9 hm hw b h.2⟩
theorem mj (hm:R.le R) {aE:List Oper} {draw:Bool} {S:St} {K:St→Prop} (hw:jg E ann wT wL aE=true) (h:gA E R ann N aE draw S K):gA E R ann N aE draw S fun S'=>K S'∧gn wT wL S S':=by
 unfold gA at h⊢;revert h;split
 ·simp only[kj];exact tq hm _ hw
 ·exact bJ (j9 hm hw _)
theorem AG {S:St} {dT dL:List Nat} (h1:jf dT wT=true) (h2:jf dL wL=true):gn wT wL S (qH dT dL S):=
 ⟨fun t ht=>by simp [qH,eZ h1 ht],fun t ht=>by simp [qH,eZ h2 ht]⟩
theorem tu (hm:R.le R) {aE:List Oper} {ts ls dT dL:List Nat} (h1:jf ts wT=true) (h2:jf ls wL=true) (h3:jf dT wT=true) (h4:jf dL wL=true) {K:St→Prop}:∀(l:List Oper) {S:St},jg E ann wT wL l=true→jU E R ann N ts ls dT dL aE l S K→jU E R ann N ts ls dT dL aE l S fun S'=>K S'∧gn wT wL S S'
 |[],S,_,h=>⟨h,AG h3 h4⟩
 |o::l,S,hw,h=>by
  simp only[jg,Bool.and_eq_true] at hw;unfold jU at h⊢;split at h
  ·rw[gO] at h⊢;refine dV hm ?_ (o9 hm hw.1 h);rintro S' ⟨h5,h6⟩;refine oS hm ?_ l (tu hm h1 h2 h3 h4 l hw.2 h5);rintro FZ ⟨h7,h8⟩;exact⟨h7,h6.trans h8⟩
  ·unfold oP at h⊢;split at h
   ·rename_i r U W Oz;refine bJ (fun hk=>⟨hk, ?_⟩) h;obtain⟨k1,k2⟩:=nU Oz;refine gn.trans ?_ (AG h3 h4);refine⟨fun t ht=> ?_,fun t ht=> ?_⟩
    ·change oB S U t=S.tm t
     rw[AE,eY (k1 t (eZ h1 ht) (eZ h3 ht))]
    ·change xl S W t=S.lo t
     rw[AF,eY (k2 t (eZ h2 ht) (eZ h4 ht))]
   ·exact h
theorem x9 {S:St}:∀{l:List (Nat×KT)} {t:Nat},bx t (oQ l)=false→ab (kL S l).2 t=none
 |[],_,_=>rfl
 |(u,k)::l,t,h=>by
  simp only[oQ,bx,Bool.or_eq_false_iff] at h;simp only[kL,ab,h.1,cond_false];exact x9 h.2
theorem ya {S:St}:∀{l:List (Nat×TypeId×List bX)} {t:Nat},bx t (oQ l)=false→ab (kM S l).2 t=none
 |[],_,_=>rfl
 |(u,e,ks)::l,t,h=>by
  simp only[oQ,bx,Bool.or_eq_false_iff] at h;simp only[kM,ab,h.1,cond_false];exact ya h.2
theorem pd {ok:jb→Bool} {kp:Option jb} {S:St} {A:(Ex→St→Prop)→Prop} {K:Ex→St→Prop} (hj:LF wT wL kp=true) (hA:∀K:Ex→St→Prop,A K→A fun e S'=>K e S'∧gn wT wL S S') (hm:∀K K':Ex→St→Prop,(∀e S,K e S→K' e S)→A K→A K') (h:lH ok kp S A K):lH ok kp S A fun e S'=>K e S'∧gn wT wL S S':=by
 unfold lH at h⊢
 cases kp with
 |none=>exact hA _ h
 |some kp=>
  simp only[LF,RO,Bool.and_eq_true] at hj;obtain⟨Qr,⟨⟨h1,h2⟩,h3⟩,h4⟩:=hj;simp only[Qr] at h⊢;refine bJ (fun h=> ?_) h;unfold DY cI at h⊢;refine hm _ _ ?_ (hA _ h);rintro e S' ⟨hk,ha⟩
  cases e with
  |exit id=>exact⟨hk,ha⟩
  |ret=>exact⟨hk,ha⟩
  |normal=>
   refine hG (fun S1 hk=>bJ (fun hk=>⟨hk, ?_⟩) hk) hk;refine⟨fun t ht=> ?_,fun t ht=> ?_⟩
   ·simp only[over,x9 (eZ h3 ht),eZ h1 ht,cond_false]
   ·simp only[over,ya (eZ h4 ht),eZ h2 ht,cond_false]
theorem rV (hm:R.le R):∀(c:Code) (n:Nat) (S:St) (K:Ex→St→Prop),B4 E ann wT wL c n=true→fV E R f ann N c n S K→fV E R f ann N c n S fun e S'=>K e S'∧gn wT wL S S':=by
 intro c
 induction c with
 |skip=>intro n S K _ hx;exact⟨hx,.refl ..⟩
 |exit id=>intro n S K _ hx;exact⟨hx,.refl ..⟩
 |ret=>intro n S K _ hx;exact⟨hx,.refl ..⟩
 |seq a b iha ihb=>
  intro n S K hw hx;simp only[B4,Bool.and_eq_true] at hw;refine gB hm a _ _ _ _ ?_ (iha n S _ hw.1 hx);rintro e S' ⟨hk,ha⟩
  cases e with
  |exit id=>exact⟨hk,ha⟩
  |ret=>exact⟨hk,ha⟩
  |normal=>
   refine gB hm b _ _ _ _ ?_ (ihb _ S' _ hw.2 hk);rintro e FZ ⟨hk,hb⟩;exact⟨hk,ha.trans hb⟩
 |cond c x y ihx ihy=>
  intro n S K hw hx;simp only[B4,Bool.and_eq_true] at hw;simp only[fV] at hx⊢;split at hx
  ·refine pd hw.1 ?_ ?_ hx
   ·intro K h;exact eJ (ihx _ _ _ hw.2.1) (ihy _ _ _ hw.2.2) h
   ·intro K K' h;exact eJ (gB hm x _ _ _ _ h) (gB hm y _ _ _ _ h)
  ·exact hx
 |block id b ih=>
  intro n S K hw hx;simp only[B4,Bool.and_eq_true] at hw;simp only[fV] at hx⊢;refine pd hw.1 ?_ ?_ hx
  ·intro K h;refine gB hm b _ _ _ _ ?_ (ih _ _ _ hw.2 h);rintro e S' ⟨hk,ha⟩
   cases e with
   |normal=>exact⟨hk,ha⟩
   |ret=>exact⟨hk,ha⟩
   |exit j=>exact eJ (fun h=>⟨h,ha⟩) (fun h=>⟨h,ha⟩) hk
  ·intro K K' h;refine gB hm b _ _ _ _ ?_;intro e S'
   cases e with
   |normal=>exact h _ _
   |ret=>exact h _ _
   |exit j=>exact eJ (h _ _) (h _ _)
 |region id aE draw=>
  intro n S K hw hx;simp only[B4,Bool.and_eq_true] at hw;simp only[fV] at hx⊢;revert hx
  cases hkp:rF ann n with
  |none=>exact mj hm hw.1
  |some kp=>
   simp only[hkp] at hw⊢
   cases Oz:kp.mg with
   |true=>
    simp only[Oz,Bool.and_eq_true] at hw⊢;exact bJ (tu hm hw.2.1.1.1 hw.2.1.1.2 hw.2.1.2 hw.2.2 _ hw.1)
   |false=>
    simp only[Oz] at hw⊢;refine pd (by simp only[LF];exact hw.2) ?_ ?_
    ·intro K h;exact mj hm hw.1 h
    ·intro K K' h;exact nH hm (h _)
 |loop c ih=>intro n S K hw;simp [B4] at hw
 |rangeFunc=>intro n S K hw;simp [B4] at hw
 |scope b ih=>intro n S K hw h;simp only[B4] at hw;simp only[fV] at h⊢;exact ih _ _ _ hw h
 |label=>intro n S K hw h;simp only[fV] at h⊢;exact⟨h,.refl ..⟩
 |goto=>intro n S K hw;simp [B4] at hw
 |refuse=>intro n S K hw;simp [B4] at hw
end
section
variable {E:jR} {H0:ag} {ρ0:da} {w0:World} {ann:bO} {N:Nat} {ρ lam:da} {S:St} {a:Act} {w:World} {R:lG}
def yb (aE:Array Oper) (listed:Array Bool):Prop:=
 ∀i o,aE[i]? =some o→listed.getD i false=true→∀e∈o.after.toList,Region.binds .any e=true→listed.getD e.on false=true
theorem pe {aE:Array Oper} {listed:Array Bool} (vE:yb aE listed) (RD:nF aE.toList 0=true):∀(i:Nat) (o:Oper) (b:List Nat),aE[i]? =some o→(iC aE.toList [])[i]? =some b→(∀e∈o.after.toList,Region.binds .any e=true→listed.getD e.on false=true)→∀j∈b,listed.getD j false=true:=by
 intro i
 induction i using Nat.strongRecOn with
 |_ i ih=>
  intro o b ho hb hl j hj;rcases tk aE.toList [] i b hb with⟨h,_⟩|⟨q,h1,_,h3⟩
  ·simp at h
  ·have hq:q=o:=by simp only[List.length_nil,Nat.sub_zero] at h1;rw[Array.getElem?_toList,ho] at h1;exact(Option.some.inj h1).symm
   subst hq;obtain⟨e,he,OA,hj⟩:=h3 j hj;rcases hj with rfl|⟨hlt,b',hb',hj⟩
   ·exact hl e he OA
   ·have Lu:=hl e he OA
    have hin:e.on<aE.size:=by
     rcases Nat.lt_or_ge e.on aE.size with h|h
     ·exact h
     ·have:=(Array.getElem?_eq_some_iff.1 ho).1;omega
    exact ih e.on hlt aE[e.on] b' (Array.getElem?_eq_getElem hin) hb' (vE e.on _ (Array.getElem?_eq_getElem hin) Lu) j hj
theorem qk {listed:Array Bool} {i:Nat} (h:i<listed.size):listed.getD i true=listed.getD i false:=by simp [Array.getD,h]
theorem GL (hR:mM E R) {aE:Array Oper} {Q:Exit→Act→World→Prop} {K:St→Prop} (hok:xn E ann aE.toList=true) (hq:∀S' ρ' dm a' w',SR H0 ρ0 w0 ann N ρ' dm S' a' w'→K S'→Q .normal a' w'):∀(fuel:Nat) (listed:Array Bool) {S:St} {ρ lam:da} {a:Act} {w:World},listed.size=aE.size→yb aE listed→(jG aE.size listed).length≤fuel→gI E R ann N aE (jG aE.size listed) S K→SR H0 ρ0 w0 ann N ρ lam S a w→wpAny E.P .any aE Q fuel listed a w:=by
 rw[xn,Bool.and_eq_true] at hok;obtain⟨RD,Yj⟩:=hok
 have hin:∀{listed:Array Bool} {i:Nat},listed.size=aE.size→i∈Region.ready .any aE listed→i<aE.size∧listed.getD i false=false:=by
  intro listed i hs hi;obtain⟨h0,o,ho,_⟩:=mem_ready.1 hi;have hlt:=(Array.getElem?_eq_some_iff.1 ho).1;exact⟨hlt,by rw[←qk (by omega)];exact h0⟩
 have hmem:∀{listed:Array Bool} {i:Nat},i<aE.size→listed.getD i false=false→i∈jG aE.size listed:=by
  intro listed i h1 h2;unfold jG;rw[List.mem_filter,List.mem_range];exact⟨h1,by rw[h2];rfl⟩
 intro fuel
 induction fuel with
 |zero=>
  intro listed S ρ lam a w hs vE hlen hk h;have DG:jG aE.size listed=[]:=List.eq_nil_of_length_eq_zero (by omega);rw[DG] at hk;refine⟨?_,hq _ _ _ _ _ h hk⟩
  cases hr:Region.ready .any aE listed with
  |nil=>rfl
  |cons i l=>
   obtain⟨h1,h2⟩:=hin hs (hr▸List.mem_cons_self .. :i∈Region.ready .any aE listed);have:=hmem h1 h2;rw[DG] at this;cases this
 |succ fuel ih=>
  intro listed S ρ lam a w hs vE hlen hk h;refine⟨fun hnone=> ?_,fun i hi=> ?_⟩
  ·have hall:∀i,i<aE.size→listed.getD i false=true:=by
    intro i
    induction i using Nat.strongRecOn with
    |_ i ihi=>
     intro hi;cases hl:listed.getD i false
     ·exfalso
      have:i∈Region.ready .any aE listed:=by
       refine mem_ready.2 ⟨by rw[qk (by omega)];exact hl,aE[i],Array.getElem?_eq_getElem hi,fun e he hb=> ?_⟩;have hlt:=nS RD i aE[i] (by rw[Array.getElem?_toList,Array.getElem?_eq_getElem hi]) e (Array.mem_toList_iff.2 he) hb;exact ihi e.on (by omega) (by omega)
      rw[hnone] at this;cases this
     ·rfl
   have DG:jG aE.size listed=[]:=by
    unfold jG;rw[List.filter_eq_nil_iff];intro i hi;rw[hall i (List.mem_range.1 hi)];simp
   rw[DG] at hk;exact hq _ _ _ _ _ h hk
  ·obtain⟨h1,h2⟩:=hin hs hi;obtain⟨_,o,ho,zx⟩:=mem_ready.1 hi
   have Ud:yb aE (listed.setIfInBounds i true):=by
    intro j p hp hj e he hb;by_cases hji:i=j
    ·subst hji;rw[ho] at hp;cases hp;exact getD_set_true (zx e (Array.mem_toList_iff.1 he) hb)
    ·rw[getD_set_ne false hji] at hj;exact getD_set_true (vE j p hp hj e he hb)
   obtain⟨pre,post,e1,e2,h3,h4⟩:=tl (p:=fun j=> !listed.getD j false) (q:=fun j=> !(listed.setIfInBounds i true).getD j false) (i:=i)
    (fun j hj=>by rw[getD_set_ne false (fun e=>hj e.symm)]) (by simp only[h2];rfl) (by simp [Array.getD,hs,h1]) (List.range aE.size) (List.mem_range.2 h1) List.nodup_range
   have hk':gI E R ann N aE (pre++i::post) S K:=by
    have:jG aE.size listed=pre++i::post:=e1;rw[←this];exact hk
   have hstep:=tf hR ho pre post (by
    intro j hj p hp;obtain⟨hj1,hj2,hj3⟩:=h3 j hj;have hlt:=h4 List.pairwise_lt_range j hj;have hf:(aE.toList.map (cM E ann aE.toList))[i]? =some (cM E ann aE.toList o):=by rw[List.getElem?_map,Array.getElem?_toList,ho];rfl
    have Lh:=o6 Yj i _ hf;rw[Nat.zero_add] at Lh;obtain⟨g,b,hg,hb,Re⟩:=th Lh j hlt;have hg':g=cM E ann aE.toList p:=by rw[List.getElem?_map,Array.getElem?_toList,hp] at hg;exact(Option.some.inj hg).symm
    subst hg';rcases Re with Re|Re
    ·have:=pe vE RD i o b ho hb (fun e he OA=>zx e (Array.mem_toList_iff.1 he) OA) j Re;simp only[this] at hj2;cases hj2
    ·exact Re) hk'
   refine o0 hR.ext hR.call hR.body h ho hstep ?_;intro S' ρ' dm a' w' h' hk2;have e3:jG aE.size (listed.setIfInBounds i true)=pre++post:=e2;refine ih _ (by simp [hs]) Ud ?_ (by rw[e3];exact hk2) h';have ON:jG aE.size listed=pre++i::post:=e1;rw[ON] at hlen;rw[e3];simp at hlen⊢;omega
end
theorem yc:∀{l m:List Nat},iX l m=true→∃x,x∈l∧x∈m
 |y::l,m,h=>by
  rw[iX,Bool.or_eq_true] at h;rcases h with h|h
  ·exact⟨y,List.mem_cons_self ..,jh.1 h⟩
  ·obtain⟨x,hx1,uH⟩:=yc h;exact⟨x,List.mem_cons_of_mem _ hx1,uH⟩
theorem lM (n:Nat):∀l,je n l=l.filter (fun x=> !decide (x=n))
 |[]=>rfl
 |x::l=>by
  rw[je,aP,lM n l];by_cases h:n=x
  ·subst h;simp
  ·have:¬x=n:=fun e=>h e.symm
   simp [h,this]
theorem mN {n j:Nat} {l:List Nat}:j∈je n l↔j∈l∧j≠n:=by
 rw[lM,List.mem_filter];simp
theorem AH (i j:Nat) (l:List Nat):je i (je j l)=je j (je i l):=by
 rw[lM,lM,lM,lM,List.filter_filter,List.filter_filter];congr 1;funext x;rw[Bool.and_comm]
theorem pf {n:Nat} {l:List Nat} (h:n∈l):(je n l).length<l.length:=by
 rw[lM];have:=List.length_filter_lt_length_iff_exists (p:=fun x=> !decide (x=n)) (l:=l);exact this.2 ⟨n,h,by simp⟩
section
variable {fs:List jz} {bs:List (List Nat)}
theorem pj {rem:List Nat} {i:Nat}:gf bs rem i=true↔∀x∈mE bs i,x∉rem:=by
 unfold gf;rw[Bool.not_eq_true'];constructor
 ·exact fun h x hx=>fo h x hx
 ·intro h;cases hm:iX (mE bs i) rem
  ·rfl
  ·obtain⟨x,h1,h2⟩:=yc hm;exact absurd h2 (h x h1)
theorem qm {rem:List Nat} {i j:Nat} (h:gf bs rem j=true):gf bs (je i rem) j=true:=by
 rw[pj] at h⊢;exact fun x hx hm=>h x hx (mN.1 hm).1
theorem ml {i:Nat} {f:jz}:∀{rem:List Nat},dC fs bs i f rem=true↔∀j∈rem,i=j∨i∈mE bs j∨∃g,fs[j]? =some g∧gb g f=true∧gb f g=true
 |[]=>by simp [dC]
 |j::l=>by
  rw[dC,Bool.and_eq_true,ml];simp only[List.forall_mem_cons];refine and_congr ?_ Iff.rfl;simp only[Bool.or_eq_true,aP,decide_eq_true_eq,jh,or_assoc];refine or_congr Iff.rfl (or_congr Iff.rfl ?_)
  cases fs[j]? with
  |none=>simp
  |some g=>simp
theorem qY {i j:Nat} {f:jz} {rem:List Nat} (h:dC fs bs i f rem=true):dC fs bs i f (je j rem)=true:=by
 rw[ml] at h⊢;exact fun k hk=>h k (mN.1 hk).1
theorem qn {rem:List Nat} {i:Nat}:∀{l:List Nat},nG fs bs rem l=some i→i∈l∧gf bs rem i=true∧∃f,fs[i]? =some f∧dC fs bs i f rem=true
 |x::l,h=>by
  rw[nG] at h;split at h
  ·rename_i f hr hf
   cases hc:dC fs bs x f rem with
   |true=>
    rw[hc] at h;simp only[cond_true,Option.some.injEq] at h;subst h;exact⟨List.mem_cons_self ..,hr,f,hf,hc⟩
   |false=>
    rw[hc] at h;obtain⟨h1,h2⟩:=qn h;exact⟨List.mem_cons_of_mem _ h1,h2⟩
  ·obtain⟨h1,h2⟩:=qn h;exact⟨List.mem_cons_of_mem _ h1,h2⟩
theorem uY {rem:List Nat}:∀{l:List Nat},nG fs bs rem l=none→∀i∈l,gf bs rem i=true→∀f,fs[i]? =some f→dC fs bs i f rem=false
 |x::l,h,i,hi,hr,f,hf=>by
  rw[nG] at h;rcases List.mem_cons.1 hi with rfl|hi
  ·rw[hr,hf] at h;simp only[] at h
   cases hc:dC fs bs i f rem with
   |true=>rw[hc] at h;cases h
   |false=>rfl
  ·split at h
   ·rename_i g _ _
    cases hc:dC fs bs x g rem with
    |true=>rw[hc] at h;cases h
    |false=>rw[hc] at h;exact uY h i hi hr f hf
   ·exact uY h i hi hr f hf
theorem Er {step:Nat→St→(St→Prop)→Prop} {g:Nat→qN} {S:St} {K:St→Prop}:∀{l:List Nat},g8 step (OV g l) S K→∀i∈l,step i S fun S'=>g8 step (g i) S' K
 |[x],h,i,hi=>by
  rw[List.mem_singleton] at hi;subst hi;exact h
 |x::y::l,h,i,hi=>by
  obtain⟨h1,h2⟩:=h;rcases List.mem_cons.1 hi with rfl|hi
  ·exact h1
  ·exact Er h2 i hi
theorem pk {rem:List Nat} {i:Nat} (hr:gf bs rem i=true):∀{l:List Nat},i∈l→i∈qa bs rem l
 |x::l,h=>by
  rw[qa];rcases List.mem_cons.1 h with rfl|h
  ·rw[hr];exact List.mem_cons_self ..
  ·cases gf bs rem x
   ·exact pk hr h
   ·exact List.mem_cons_of_mem _ (pk hr h)
end
section
variable {E:jR} {H0:ag} {ρ0:da} {w0:World} {ann:bO} {N:Nat} {ρ lam:da} {S:St} {a:Act} {w:World} {R:lG}
def ij (E:jR) (R:lG) (ann:bO) (N:Nat) (aE:Array Oper) (i:Nat) (S:St) (K:St→Prop):Prop:=
 match aE[i]? with
 |some o=>eh E R ann N aE.toList o S K
 |none=>False
theorem nV (hm:R.le R) {aE:Array Oper} {i:Nat} {S:St} {K K':St→Prop} (h:∀S,K S→K' S) (hk:ij E R ann N aE i S K):ij E R ann N aE i S K':=by
 unfold ij at hk⊢;split at hk
 ·exact dV hm h hk
 ·exact hk
abbrev yd (E:jR) (ann:bO) (aE:Array Oper):List jz:=aE.toList.map (cM E ann aE.toList)
abbrev wx (aE:Array Oper):List (List Nat):=iC aE.toList []
def zX (E:jR) (R:lG) (ann:bO) (N:Nat) (aE:Array Oper) (n:Nat) (rem:List Nat) (S:St) (K:St→Prop):Prop:=
 g8 (ij E R ann N aE) (At (yd E ann aE) (wx aE) n rem) S K
theorem QK (hR:mM E R) {aE:Array Oper} {i j:Nat} {S:St} {K:St→Prop} {f g:jz} (hi:(yd E ann aE)[i]? =some f) (hj:(yd E ann aE)[j]? =some g) (ha:gb f g=true) (h:ij E R ann N aE i S fun S'=>ij E R ann N aE j S' K):ij E R ann N aE j S fun S'=>ij E R ann N aE i S' K:=by
 simp only[yd,List.getElem?_map,Array.getElem?_toList,Option.map_eq_some_iff] at hi hj;obtain⟨p,hp,rfl⟩:=hi;obtain⟨q,hq,rfl⟩:=hj;simp only[ij,hp,hq] at h⊢;exact xA hR.mono hR.uJ ha h
theorem ZN (hR:mM E R) {aE:Array Oper}:∀(n:Nat),(∀(rem:List Nat) (j:Nat) (S:St) (K:St→Prop),rem.length≤n→j∈rem→j<aE.size→gf (wx aE) rem j=true→zX E R ann N aE n rem S K→ij E R ann N aE j S fun S'=>zX E R ann N aE (n-1) (je j rem) S' K)∧(∀(rem:List Nat) (i:Nat) (f:jz) (S:St) (K:St→Prop),rem.length≤n→i∈rem→(yd E ann aE)[i]? =some f→gf (wx aE) rem i=true→dC (yd E ann aE) (wx aE) i f rem=true→(ij E R ann N aE i S fun S'=>zX E R ann N aE (n-1) (je i rem) S' K)→zX E R ann N aE n rem S K):=by
 intro n
 induction n with
 |zero=>
  refine⟨fun rem j S K hl hj=> ?_,fun rem i f S K hl hi=> ?_⟩
  ·have:=List.eq_nil_of_length_eq_zero (l:=rem) (by omega);subst this;cases hj
  ·have:=List.eq_nil_of_length_eq_zero (l:=rem) (by omega);subst this;cases hi
 |succ m ih=>
  obtain⟨ihE,ihB⟩:=ih
  have RE:∀(rem:List Nat) (S:St) (K:St→Prop) (j:Nat),j∈rem→zX E R ann N aE (m+1) rem S K=
   (match nG (yd E ann aE) (wx aE) rem rem with
   |some i=>ij E R ann N aE i S fun S'=>zX E R ann N aE m (je i rem) S' K
   |none=>g8 (ij E R ann N aE) (OV (fun i=>At (yd E ann aE) (wx aE) m (je i rem)) (qa (wx aE) rem rem)) S K):=by
   intro rem S K j hj
   cases rem with
   |nil=>cases hj
   |cons x l=>
    simp only[zX,At];cases nG (yd E ann aE) (wx aE) (x::l) (x::l)<;>rfl
  have app:∀{rem:List Nat} {i j:Nat} {f:jz},i≠j→i∈rem→j∈rem→gf (wx aE) rem j=true→dC (yd E ann aE) (wx aE) i f rem=true→
   ∃g,(yd E ann aE)[j]? =some g∧gb g f=true∧gb f g=true:=by
   intro rem i j f hne hi hj hr hc;rcases (ml.1 hc) j hj with h|h|h
   ·exact absurd h hne
   ·exact absurd hi (pj.1 hr i h)
   ·exact h
  refine⟨?_, ?_⟩
  ·intro rem j S K hl hj hjs hr hk;rw[RE rem S K j hj] at hk;rw[Nat.add_sub_cancel];split at hk
   ·rename_i i hp;obtain⟨hi,Yk,f,hf,hc⟩:=qn hp;by_cases hij:i=j
    ·subst hij;exact hk
    ·obtain⟨g,hg,Li,Yl⟩:=app hij hi hj hr hc;have hli:=pf hi;have hlj:=pf hj;have hjd:j∈je i rem:=mN.2 ⟨hj,fun e=>hij e.symm⟩;have hid:i∈je j rem:=mN.2 ⟨hi,hij⟩
     have h1:ij E R ann N aE i S fun S1=>ij E R ann N aE j S1 fun S2=>zX E R ann N aE (m-1) (je j (je i rem)) S2 K:=
      nV hR.mono (fun S1 h=>ihE _ j S1 K (by omega) hjd hjs (qm hr) h) hk
     have h2:=QK hR hf hg Yl h1;refine nV hR.mono (fun S1 h=> ?_) h2;refine ihB _ i f S1 K (by omega) hid hf (qm Yk) (qY hc) ?_;rw[AH];exact h
   ·exact Er hk j (pk hr hj)
  ·intro rem i f S K hl hi hf Yk hc hk;rw[RE rem S K i hi];rw[Nat.add_sub_cancel] at hk;split
   ·rename_i k hp;obtain⟨hkm,UZ,f',hf',sy⟩:=qn hp;by_cases hki:k=i
    ·subst hki;exact hk
    ·obtain⟨g,hg,Li,Yl⟩:=app hki hkm hi Yk sy;rw[hf] at hg;cases hg;have hli:=pf hi;have hlk:=pf hkm;have hkd:k∈je i rem:=mN.2 ⟨hkm,hki⟩;have hid:i∈je k rem:=mN.2 ⟨hi,fun e=>hki e.symm⟩
     have hks:k<aE.size:=by
      have:=(List.getElem?_eq_some_iff.1 hf').1;simpa using this
     have h1:ij E R ann N aE i S fun S1=>ij E R ann N aE k S1 fun S2=>zX E R ann N aE (m-1) (je k (je i rem)) S2 K:=
      nV hR.mono (fun S1 h=>ihE _ k S1 K (by omega) hkd hks (qm UZ) h) hk
     have h2:=QK hR hf hf' Li h1;refine nV hR.mono (fun S1 h=> ?_) h2;refine ihB _ i f S1 K (by omega) hid hf (qm Yk) (qY hc) ?_;rw[AH];exact h
   ·rename_i hp;have:=uY hp i hi Yk f hf;rw[hc] at this;cases this
theorem LY {n:Nat} {listed:Array Bool} {i:Nat} (hi:i<listed.size):jG n (listed.setIfInBounds i true)=je i (jG n listed):=by
 rw[lM];unfold jG;rw[List.filter_filter];apply List.filter_congr;intro j _;by_cases h:i=j
 ·subst h;simp [Array.getD,hi]
 ·have:¬j=i:=fun e=>h e.symm
  rw[getD_set_ne false h];simp [this]
theorem Es (hR:mM E R) {aE:Array Oper} {Q:Exit→Act→World→Prop} {K:St→Prop} (RD:nF aE.toList 0=true) (hq:∀S' ρ' dm a' w',SR H0 ρ0 w0 ann N ρ' dm S' a' w'→K S'→Q .normal a' w'):∀(fuel:Nat) (listed:Array Bool) {S:St} {ρ lam:da} {a:Act} {w:World},listed.size=aE.size→yb aE listed→(jG aE.size listed).length≤fuel→zX E R ann N aE fuel (jG aE.size listed) S K→SR H0 ρ0 w0 ann N ρ lam S a w→wpAny E.P .any aE Q fuel listed a w:=by
 have hin:∀{listed:Array Bool} {i:Nat},listed.size=aE.size→i∈Region.ready .any aE listed→i<aE.size∧listed.getD i false=false:=by
  intro listed i hs hi;obtain⟨h0,o,ho,_⟩:=mem_ready.1 hi;have hlt:=(Array.getElem?_eq_some_iff.1 ho).1;exact⟨hlt,by rw[←qk (by omega)];exact h0⟩
 have hmem:∀{listed:Array Bool} {i:Nat},i<aE.size→listed.getD i false=false→i∈jG aE.size listed:=by
  intro listed i h1 h2;unfold jG;rw[List.mem_filter,List.mem_range];exact⟨h1,by rw[h2];rfl⟩
 intro fuel
 induction fuel with
 |zero=>
  intro listed S ρ lam a w hs vE hlen hk h;have DG:jG aE.size listed=[]:=List.eq_nil_of_length_eq_zero (by omega);rw[DG] at hk;refine⟨?_,hq _ _ _ _ _ h hk⟩
  cases hr:Region.ready .any aE listed with
  |nil=>rfl
  |cons i l=>
   obtain⟨h1,h2⟩:=hin hs (hr▸List.mem_cons_self .. :i∈Region.ready .any aE listed);have:=hmem h1 h2;rw[DG] at this;cases this
 |succ fuel ih=>
  intro listed S ρ lam a w hs vE hlen hk h;refine⟨fun hnone=> ?_,fun i hi=> ?_⟩
  ·have hall:∀i,i<aE.size→listed.getD i false=true:=by
    intro i
    induction i using Nat.strongRecOn with
    |_ i ihi=>
     intro hi;cases hl:listed.getD i false
     ·exfalso
      have:i∈Region.ready .any aE listed:=by
       refine mem_ready.2 ⟨by rw[qk (by omega)];exact hl,aE[i],Array.getElem?_eq_getElem hi,fun e he hb=> ?_⟩;have hlt:=nS RD i aE[i] (by rw[Array.getElem?_toList,Array.getElem?_eq_getElem hi]) e (Array.mem_toList_iff.2 he) hb;exact ihi e.on (by omega) (by omega)
      rw[hnone] at this;cases this
     ·rfl
   have DG:jG aE.size listed=[]:=by
    unfold jG;rw[List.filter_eq_nil_iff];intro i hi;rw[hall i (List.mem_range.1 hi)];simp
   rw[DG] at hk;exact hq _ _ _ _ _ h hk
  ·obtain⟨h1,h2⟩:=hin hs hi;obtain⟨_,o,ho,zx⟩:=mem_ready.1 hi
   have Ud:yb aE (listed.setIfInBounds i true):=by
    intro j p hp hj e he hb;by_cases hji:i=j
    ·subst hji;rw[ho] at hp;cases hp;exact getD_set_true (zx e (Array.mem_toList_iff.1 he) hb)
    ·rw[getD_set_ne false hji] at hj;exact getD_set_true (vE j p hp hj e he hb)
   have hr:gf (wx aE) (jG aE.size listed) i=true:=by
    rw[pj];intro x hx hm;unfold mE at hx
    cases hb:(wx aE)[i]? with
    |none=>rw[hb] at hx;simp at hx
    |some b=>
     rw[hb] at hx;have:=pe vE RD i o b ho hb (fun e he OA=>zx e (Array.mem_toList_iff.1 he) OA) x hx;unfold jG at hm;rw[List.mem_filter,this] at hm;simp at hm
   have hstep:=(ZN hR (fuel+1)).1 _ i S K hlen (hmem h1 h2) h1 hr hk;simp only[ij,ho,Nat.add_sub_cancel] at hstep;have hd:=pf (hmem h1 h2);rw[←LY (by omega)] at hstep hd;refine o0 hR.ext hR.call hR.body h ho hstep ?_;intro S' ρ' dm a' w' h' hk2;exact ih _ (by simp [hs]) Ud (by omega) hk2 h'
end
section
variable {E:jR} {H0:ag} {ρ0:da} {w0:World} {ann:bO} {N:Nat} {ρ lam:da} {S:St} {a:Act} {w:World} {R:lG}
def Y7:Ex→Exit
 | .normal=>.normal
 | .exit id=>.exit id
 | .ret=>.ret
theorem tw (hR:mM E R) (hm:E.P.follows .mixedOrders=true) {id:Nat} {aE:Array Oper} {draw:Bool} {Q:Exit→Act→World→Prop} {K:St→Prop} (hok:(!draw||xn E ann aE.toList)=true) (h:SR H0 ρ0 w0 ann N ρ lam S a w) (hk:kJ E R ann N aE.toList aE.toList S K) (hq:∀S' ρ' dm a' w',SR H0 ρ0 w0 ann N ρ' dm S' a' w'→K S'→Q .normal a' w'):(Code.region id aE draw).wp E.P Q a w:=by
 rw[AD aE.toList 0 rfl] at hk;rw[Array.length_toList, ←List.range_eq_range'] at hk
 cases draw with
 |false=>exact wp_region (o5 hR _ h hk hq)
 |true=>
  refine wp_region_any hm ?_
  have F0:jG aE.size (Array.replicate aE.size false)=List.range aE.size:=by
   unfold jG;rw[List.filter_eq_self];intro i hi;simp [Array.getD,List.mem_range.1 hi]
  refine GL hR (by simpa using hok) hq aE.size _ (by simp) ?_ (by rw[F0];simp) (by rw[F0];exact hk) (h.drew _);intro i o _ hi;simp [Array.getD] at hi
theorem JR {aE:Array Oper}:fB E R ann N aE.toList=ij E R ann N aE:=by
 funext i S K;unfold fB ij;rw[Array.getElem?_toList]
 cases aE[i]? with
 |none=>rfl
 |some o=>exact gO
theorem zY (hR:mM E R) (hm:E.P.follows .mixedOrders=true) {id:Nat} {aE:Array Oper} {draw:Bool} {Q:Exit→Act→World→Prop} {K:St→Prop} (h:SR H0 ρ0 w0 ann N ρ lam S a w) (hk:gA E R ann N aE.toList draw S K) (hq:∀S' ρ' dm a' w',SR H0 ρ0 w0 ann N ρ' dm S' a' w'→K S'→Q .normal a' w'):(Code.region id aE draw).wp E.P Q a w:=by
 unfold gA at hk;split at hk
 ·rename_i hok;rw[kj] at hk;exact tw hR hm hok h hk hq
 ·rename_i hok;obtain⟨RD,hk⟩:=aL hk
  have Yj:draw=true:=by
   cases draw with
   |true=>rfl
   |false=>simp at hok
  subst Yj;rw[JR] at hk;refine wp_region_any hm ?_
  have F0:jG aE.size (Array.replicate aE.size false)=List.range aE.size:=by
   unfold jG;rw[List.filter_eq_self];intro i hi;simp [Array.getD,List.mem_range.1 hi]
  refine Es hR RD hq aE.size _ (by simp) ?_ (by rw[F0];simp) (by rw[F0];rw[Array.length_toList] at hk;exact hk) (h.drew _);intro i o _ hi;simp [Array.getD] at hi
theorem Et {kp:Option jb} {A:(Ex→St→Prop)→Prop} {K:Ex→St→Prop} {X:Prop} (hj:vF kp A K) (hA:∀K':Ex→St→Prop,A K'→(∀e S' ρ' dm a' w',SR H0 ρ0 w0 ann N ρ' dm S' a' w'→K' e S'→∃FZ,SR H0 ρ0 w0 ann N ρ' dm FZ a' w'∧K e FZ)→X):X:=by
 unfold vF at hj
 cases kp with
 |none=>exact hA K hj fun e S' ρ' dm a' w' h hk=>⟨S',h,hk⟩
 |some kp=>
  refine hA _ hj ?_;intro e S' ρ' dm a' w' h hk
  cases e with
  |normal=>
   obtain⟨S1,h1,hk⟩:=jF h hk;exact o4 h1 hk
  |exit id=>exact⟨S',h,hk⟩
  |ret=>exact⟨S',h,hk⟩
theorem AI {α:Type} {l:List (Nat×α)} {dr:List Nat} {g:Nat→Option α} {t:Nat} {x:α} (h:over l dr g t=some x):ab l t=some x∨(bx t dr=false∧g t=some x):=by
 unfold over at h;split at h
 ·rename_i y hy;cases h;exact .inl hy
 ·cases hm:bx t dr with
  |true=>rw[hm] at h;cases h
  |false=>rw[hm] at h;exact .inr ⟨rfl,h⟩
theorem pn {ok:jb→Bool} {kp:Option jb} {S:St} {A:(Ex→St→Prop)→Prop} {K:Ex→St→Prop} {X:Prop} (hag:∀(kp:jb) (K:Ex→St→Prop),ok kp=true→A K→A fun e S'=>K e S'∧gn kp.wT kp.wL S S') (hj:lH ok kp S A K) (hA:∀K':Ex→St→Prop,A K'→(∀e S' ρ' dm a' w',SR H0 ρ0 w0 ann N ρ' dm S' a' w'→K' e S'→∃FZ,SR H0 ρ0 w0 ann N ρ' dm FZ a' w'∧K e FZ)→X):X:=by
 unfold lH at hj
 cases kp with
 |none=>exact hA K hj fun e S' ρ' dm a' w' h hk=>⟨S',h,hk⟩
 |some kp=>
  simp only[] at hj;split at hj
  ·obtain⟨hok,hj⟩:=aL hj;refine hA _ (hag kp _ hok hj) ?_;rintro e S' ρ' dm a' w' h ⟨hk,ha⟩
   cases e with
   |exit id=>exact⟨S',h,hk⟩
   |ret=>exact⟨S',h,hk⟩
   |normal=>
    have hk:kK (oQ kp.cz) (oQ kp.gH) S' fun S1=>ah ((kL S1 kp.cz).1&&(kM S1 kp.gH).1)
     (K .normal ⟨over (kL S1 kp.cz).2 kp.wT S.tm,over (kM S1 kp.gH).2 kp.wL S.lo,S1.hp⟩):=hk
    unfold kK at hk;split at hk
    ·rename_i m l hm hl;obtain⟨hr,hk⟩:=aL hk;rw[Bool.and_eq_true] at hr;refine⟨_,h.O8 (S':=⟨over (kL ⟨ab m,ab l,S'.hp⟩ kp.cz).2 kp.wT S.tm,over (kM ⟨ab m,ab l,S'.hp⟩ kp.gH).2 kp.wL S.lo,S'.hp⟩) (fun t x hx=> ?_) (fun t x hx=> ?_) rfl,hk⟩
     ·rcases AI hx with hx|⟨hn,hx⟩
      ·exact rQ hm (rS hr.1 hx)
      ·rw[ha.1 t hn];exact hx
     ·rcases AI hx with hx|⟨hn,hx⟩
      ·exact rR hl (rT hr.2 hx)
      ·rw[ha.2 t hn];exact hx
    ·exact hk.elim
  ·exact Et hj hA
theorem Pc {S:St} {ρ lam:da} {a:Act} {w:World} {dT dL:List Nat} (h:SR H0 ρ0 w0 ann N ρ lam S a w):SR H0 ρ0 w0 ann N ρ lam (qH dT dL S) a w:=by
 refine h.O8 (fun t x hx=> ?_) (fun t x hx=> ?_) rfl
 ·simp only[qH] at hx
  cases hm:bx t dT with
  |true=>rw[hm] at hx;cases hx
  |false=>rw[hm] at hx;exact hx
 ·simp only[qH] at hx
  cases hm:bx t dL with
  |true=>rw[hm] at hx;cases hx
  |false=>rw[hm] at hx;exact hx
theorem ye {f:FuncId} {fn:Func} (hR:mM E R) (hm:E.P.follows .mixedOrders=true) (hf:E.P.funcs[f]? =some fn) (abo:ann=E.ann f) (hN:N=fn.ntmps):∀(c:Code) (n:Nat) (S:St) (K:Ex→St→Prop) (ρ lam:da) (a:Act) (w:World) (Q:Exit→Act→World→Prop),fV E R f ann N c n S K→SR H0 ρ0 w0 ann N ρ lam S a w→(∀e S' ρ' dm a' w',SR H0 ρ0 w0 ann N ρ' dm S' a' w'→K e S'→Q (Y7 e) a' w')→c.wp E.P Q a w:=by
 intro c
 induction c with
 |skip=>intro n S K ρ lam a w Q hx h hq;exact wp_skip (hq .normal _ _ _ _ _ h hx)
 |seq x y ihx ihy=>
  intro n S K ρ lam a w Q hx h hq;refine wp_seq (ihx n S _ ρ lam a w _ hx h ?_);intro e S' ρ' dm a' w' h' hk
  cases e with
  |normal=>exact ihy _ _ _ _ _ _ _ _ hk h' hq
  |exit id=>exact hq (.exit id) _ _ _ _ _ h' hk
  |ret=>exact hq .ret _ _ _ _ _ h' hk
 |cond c x y ihx ihy=>
  intro n S K ρ lam a w Q hx h hq;simp only[fV] at hx;split at hx
  ·rename_i t ht;have hb:=(h.ev.tv ht).Cd;refine pn (H0:=H0) (ρ0:=ρ0) (w0:=w0) (ann:=ann) (N:=N) ?_ hx ?_
   ·intro kp K hok;rw[Bool.and_eq_true] at hok;exact eJ (rV hR.mono x _ _ _ hok.1) (rV hR.mono y _ _ _ hok.2)
   intro K' hx hK
   have Zq:∀e S' ρ' dm a' w',SR H0 ρ0 w0 ann N ρ' dm S' a' w'→K' e S'→Q (Y7 e) a' w':=by
    intro e S' ρ' dm a' w' h' hk;obtain⟨FZ,h'',OB⟩:=hK e S' ρ' dm a' w' h' hk;exact hq e _ _ _ _ _ h'' OB
   rcases gg hx with⟨rfl,hx⟩|⟨rfl,hx⟩
   ·exact wp_cond_true hb (ihx _ _ _ _ _ _ _ _ hx h Zq)
   ·exact wp_cond_false hb (ihy _ _ _ _ _ _ _ _ hx h Zq)
  ·exact hx.elim
 |block id b ih=>
  intro n S K0 ρ lam a w Q hx h hq;simp only[fV] at hx;refine pn (H0:=H0) (ρ0:=ρ0) (w0:=w0) (ann:=ann) (N:=N) ?_ hx ?_
  ·intro kp K hok hx;refine gB hR.mono b _ _ _ _ ?_ (rV hR.mono b _ _ _ hok hx);rintro e S' ⟨hk,ha⟩
   cases e with
   |normal=>exact⟨hk,ha⟩
   |ret=>exact⟨hk,ha⟩
   |exit j=>exact eJ (fun h=>⟨h,ha⟩) (fun h=>⟨h,ha⟩) hk
  intro K hx hK;have hq0:=hq
  have hq:∀e S' ρ' dm a' w',SR H0 ρ0 w0 ann N ρ' dm S' a' w'→K e S'→Q (Y7 e) a' w':=by
   intro e S' ρ' dm a' w' h' hk;obtain⟨FZ,h'',OB⟩:=hK e S' ρ' dm a' w' h' hk;exact hq0 e _ _ _ _ _ h'' OB
  refine wp_block (ih n S _ ρ lam a w _ hx h ?_);intro e S' ρ' dm a' w' h' hk
  cases e with
  |normal=>exact hq .normal _ _ _ _ _ h' hk
  |exit j=>
   simp only[Y7,Exit.inBlock];rcases gg hk with⟨hj,hk⟩|⟨hj,hk⟩
   ·rw[if_pos (Nat.eq_of_beq_eq_true hj)];exact hq .normal _ _ _ _ _ h' hk
   ·rw[if_neg (fun e=>by rw[e,Nat.beq_refl] at hj;cases hj)];exact hq (.exit j) _ _ _ _ _ h' hk
  |ret=>exact hq .ret _ _ _ _ _ h' hk
 |loop c ih=>
  intro n S K ρ lam a w Q hx h hq;simp only[fV] at hx;split at hx
  ·rename_i kp hkp;obtain⟨S0,h0,hx⟩:=jF h hx;subst abo;subst hN;refine LX (hR.loop _ _ _ _ _ _ hx fn H0 ρ0 w0 ρ lam a w Q hf h0 ?_ ?_)
   ·intro S' ρ' dm a' w' h' hk;obtain⟨FZ,h'',hk⟩:=o4 h' hk;exact hq .ret _ _ _ _ _ h'' hk
   ·intro id S' ρ' dm a' w' h' hk;obtain⟨FZ,h'',hk⟩:=te h' hk;exact hq (.exit id) _ _ _ _ _ h'' hk
  ·exact hx.elim
 |exit id=>intro n S K ρ lam a w Q hx h hq;exact wp_exit (hq (.exit id) _ _ _ _ _ h hx)
 |ret=>intro n S K ρ lam a w Q hx h hq;exact wp_ret (hq .ret _ _ _ _ _ h hx)
 |region id aE draw=>
  intro n S K ρ lam a w Q hx h hq;simp only[fV] at hx
  have old:∀kp:Option jb,lH (fun kp=>jg E ann kp.wT kp.wL aE.toList) kp S (fun K=>gA E R ann N aE.toList draw S (K .normal)) K→(Code.region id aE draw).wp E.P Q a w:=by
   intro kp hx;refine pn (H0:=H0) (ρ0:=ρ0) (w0:=w0) (ann:=ann) (N:=N) ?_ hx ?_
   ·intro kp K hok hx;exact mj hR.mono hok hx
   intro K' hx hK;refine zY hR hm h hx ?_;intro S' ρ' dm a' w' h' hk;obtain⟨FZ,h'',OB⟩:=hK .normal S' ρ' dm a' w' h' hk;exact hq .normal _ _ _ _ _ h'' OB
  revert hx;split
  ·exact old none
  ·rename_i kp _;split
   ·intro hx;obtain⟨hok,hx⟩:=aL hx;have hx:=xY hR.mono _ hx;rw[kj] at hx;refine tw hR hm hok h hx ?_;intro S' ρ' dm a' w' h' hk;exact hq .normal _ _ _ _ _ (Pc h') hk
   ·exact old (some kp)
 |rangeFunc=>intro n S K ρ lam a w Q hx;exact hx.elim
 |scope b ih=>
  intro n S K ρ lam a w Q hx h hq;simp only[fV] at hx;refine wp_scope_straight (ih _ _ _ _ _ _ _ _ hx h ?_);intro e S' ρ' dm a' w' h' hk;have:=hq e S' ρ' dm a' w' h' hk;cases e<;>exact this
 |label l=>
  intro n S K ρ lam a w Q hx h hq;simp only[fV] at hx;exact wp_label (hq .normal _ _ _ _ _ h hx)
 |goto=>intro n S K ρ lam a w Q hx;exact hx.elim
 |refuse=>intro n S K ρ lam a w Q hx;exact hx.elim
end
section
variable {E:jR} {H0:ag} {ρ0:da} {w0:World} {ann:bO} {N:Nat} {ρ lam:da} {S:St} {a:Act} {w:World} {R:lG}
def kT (tmps:Array Value):ResultVar→Sem Value
 | .tmp t=>pure (tmps.getD t undef)
 | .cell a t=>do loadVar t (←asAddr (tmps.getD a undef))
theorem yf {e:Operand→Value} {t:TypeId} {x:Operand} {dst:Option Tmp} {type:TypeId} {iV:String} {after:Array Edge} {guard:Option (Nat×Bool)} {v:Value} (h:(execOp e ⟨dst,.load t x,type,iV,after,guard⟩).run E.P w=.ok (.value v) w):(Instr.loadAt t (e x)).run E.P w=.ok v w:=by
 simp only[execOp,Sem.run_bind] at h
 cases hr:(Instr.loadAt t (e x)).run E.P w with
 |ok y w'=>
  rw[hr] at h;simp only[Result.andThen_ok,Sem.run_pure,Result.ok.injEq,Next.value.injEq] at h;rw[h.1,h.2]
 |halt y w'=>rw[hr] at h;simp at h
theorem zZ (h:SR H0 ρ0 w0 ann N ρ lam S a w) {r:ResultVar} {K:V→Prop} (hk:lI E S r K):∃x v,(kT a.tmps r).run E.P w=.ok v w∧VR ρ x v∧K x:=by
 unfold lI at hk;split at hk
 ·rename_i t;split at hk
  ·rename_i x hx;have ht:=h.tm t _ hx;generalize hq:a.tmps.getD t undef=q at ht
   cases ht with
   |v hv=>exact⟨x,q,by simp only[kT,hq];rfl,hv,hk⟩
  ·exact hk.elim
 ·rename_i ad t;split at hk
  ·rename_i s off hs;split at hk
   ·rename_i el cs hlo;split at hk
    ·rename_i r v hv;obtain⟨hr,hk⟩:=aL hk;obtain⟨b,hb,hc,_⟩:=h.lo s _ hlo;obtain⟨b',hb',he⟩:=h.ev.lp (x:=.tmp ad) hs;rw[hb] at hb';cases hb';obtain⟨v',h1,h2⟩:=nR (E:=E) hc hv hr (fun _ _=>.inl rfl);have he':a.tmps.getD ad undef=.pointer (some ⟨b,off,none⟩):=he;exact⟨v,v',by simp only[kT,he',asAddr,Sem.run_bind,Sem.run_pure,Result.andThen_ok,h1],h2,hk⟩
    ·exact hk.elim
   ·exact hk.elim
  ·split at hk
   ·rename_i d hd;obtain⟨hr,hk⟩:=fw.eK hk;obtain⟨v,h1,h2⟩:=vQ (o:=⟨none,.load t (.tmp ad),0, "", #[],none⟩) (w:=w) h.ev h.hr hd hr;have h3:=yf h1;split at hk
    ·rename_i y hy;rw[hy] at h2
     cases h2 with
     |v hv=>
      refine⟨y,v, ?_,hv,hk⟩;simp only[Instr.loadAt,Sem.run_bind] at h3;simp only[kT,Sem.run_bind];change _=_ at h3
      have he:a.eval (.tmp ad)=a.tmps.getD ad undef:=rfl;rw[he] at h3;generalize a.tmps.getD ad undef=q at h3⊢
      cases q with
      |pointer p=>cases p with
       |some p=>exact h3
       |none=>simp [Instr.sureAddr] at h3
      |_=>simp [Instr.sureAddr] at h3
    ·exact hk.elim
   ·exact hk.elim
theorem pq (h:SR H0 ρ0 w0 ann N ρ lam S a w):∀{l:List ResultVar} {K:List V→Prop},mF E S l K→∃xs vs,(l.mapM (kT a.tmps)).run E.P w=.ok vs w∧ea ρ xs vs∧K xs
 |[],K,hk=>⟨[],[],by simp,.nil ρ,hk⟩
 |r::l,K,hk=>by
  obtain⟨x,v,h1,h2,hk⟩:=zZ h hk;obtain⟨xs,vs,h3,h4,hk⟩:=pq h hk;exact⟨x::xs,v::vs,by simp only[List.mapM_cons,Sem.run_bind,h1,h3,Result.andThen_ok,Sem.run_pure],.cons h2 h4,hk⟩
theorem GM (h:SR H0 ρ0 w0 ann N ρ lam S a w) {fn:Func} {K:V→ag→Prop} (hk:JC E fn K S):∃x v,(results fn a.tmps).run E.P w=.ok v w∧VR ρ x v∧K x S.hp:=by
 obtain⟨xs,vs,h1,h2,hk⟩:=pq h hk
 have hrun:(results fn a.tmps).run E.P w=.ok (if h:vs.toArray.size=1 then vs.toArray[0] else .tuple vs.toArray) w:=by
  have h0:results fn a.tmps=(fn.results.mapM (kT a.tmps)) >>= fun vs=>pure (if h:vs.size=1 then vs[0] else .tuple vs):=by
   unfold results;congr 1
  have h':(fn.results.mapM (kT a.tmps)).run E.P w=.ok vs.toArray w:=by
   rw[←Array.toArray_toList (xs:=fn.results),List.mapM_toArray];simp only[Sem.run_map,h1,Result.andThen_ok]
  rw[h0,Sem.run_bind,h'];rfl
 cases xs with
 |nil=>rw[h2.fW] at hrun;exact⟨.tuple [],.tuple #[],by simpa using hrun,.gj (.nil ρ),hk⟩
 |cons x l=>
  obtain⟨v,m,rfl,h3,h4⟩:=h2.cT
  cases l with
  |nil=>
   rw[h4.fW] at hrun;exact⟨x,v,by simpa using hrun,h3,hk⟩
  |cons y l=>
   have hl:(v::m).toArray.size≠1:=by have:=h2.1;simp at this⊢;intro e;rw[e] at this;simp at this
   rw[dif_neg hl] at hrun;exact⟨.tuple (x::y::l),.tuple (v::m).toArray,hrun,.gj (by simpa using h2),hk⟩
theorem rW:∀{l:List V} {j t:Nat} {x:T},DZ l j t=some x→∃v,x=.v v∧j≤t∧l[t-j]? =some v
 |[],j,t,x,h=>by cases h
 |v::l,j,t,x,h=>by
  simp only[DZ,aP] at h;by_cases he:t=j
  ·simp only[he,decide_true,cond_true,Option.some.injEq] at h;exact⟨v,h.symm,by omega,by simp [he]⟩
  ·simp only[he,decide_false,cond_false] at h;obtain⟨u,h1,h2,h3⟩:=rW h;refine⟨u,h1,by omega, ?_⟩;rw[show t-j=t-(j+1)+1 by omega];simpa using h3
theorem CC (hR:mM E R) (hm:E.P.follows .mixedOrders=true) {f:FuncId} {args:List V} {H:ag} {K:V→ag→Prop} (h:(F E R).call f args H K):ie E f args H K∧∃fn,E.P.funcs[f]? =some fn∧fn.body.isSome=true:=by
 simp only[F] at h;split at h
 ·rename_i fn hf;have hf:=E.fn_ok f fn hf;split at h
  ·rename_i c hb;obtain⟨hn,hx⟩:=aL h;refine⟨?_,fn,hf,by rw[hb];rfl⟩;intro ρ w aS hr has
   have hlen:aS.size≤fn.ntmps:=by
    have h1:=has.1;have h2:=Nat.le_of_ble_eq_true hn;simp at h1;omega
   have Ym:SR H ρ w (E.ann f) fn.ntmps ρ (fun _=>none) ⟨DZ args 0,fun _=>none,H⟩ {tmps:=aS++Array.replicate (fn.ntmps-aS.size) undef,defers:=[]} w:=by
    refine⟨rfl,by simp;omega, ?_, ?_,(fun s L hL=>by cases hL),(fun s s' L L' b hL=>by cases hL),hr,.refl H ρ w⟩
    ·intro t x hx;obtain⟨v,rfl,_,h2⟩:=rW hx;rw[Nat.sub_zero] at h2
     have hlt:t<args.length:=by
      rcases Nat.lt_or_ge t args.length with h|h
      ·exact h
      ·rw[List.getElem?_eq_none h] at h2;cases h2
     have hlt':t<aS.size:=by have:=has.1;simp at this;omega
     refine .v (has.2 t v _ h2 ?_);rw[Array.getD_eq_getD_getElem?,Array.getElem?_append_left hlt',Array.getElem?_eq_getElem hlt'];simp [hlt']
    ·intro t s off hx;obtain⟨v,h1,_⟩:=rW hx;cases h1
   refine calls_of_wp hf hb (ye (H0:=H) (ρ0:=ρ) (w0:=w) hR hm hf rfl rfl c 0 _ _ _ _ _ _ _ hx Ym ?_);intro e S' ρ' dm a' w' h' hk
   have key:JC E fn K S'→a'.defers=[]∧∃v,(results fn a'.tmps).run E.P w'=.ok v w'∧xL H ρ w K (.returned v) w':=by
    intro hk;obtain⟨x,v,h1,h2,h3⟩:=GM h' hk;exact⟨h'.defers,v,h1,x,v,S'.hp,ρ',rfl,h3,h2,h'.hr,h'.bN⟩
   cases e with
   |normal=>exact key hk
   |exit id=>exact hk.elim
   |ret=>exact key hk
  ·exact h.elim
 ·exact h.elim
theorem CD (hR:mM E R) (hm:E.P.follows .mixedOrders=true) {c:Code} {f:FuncId} {n:Nat} {S:St} {Kr:St→Prop} {Ke:Nat→St→Prop} (h:(F E R).loop c f n S Kr Ke):mL E c f S Kr Ke:=by
 simp only[F] at h;split at h
 ·rename_i fn kp hf hkp;have hf:=E.fn_ok f fn hf;intro fn' H0 ρ0 w0 ρ lam a w Q hf' Ym hr he;rw[hf] at hf';cases hf';refine GC (ye (H0:=H0) (ρ0:=ρ0) (w0:=w0) hR hm hf rfl rfl c _ _ _ _ _ _ _ _ h Ym ?_);intro e S' ρ' dm a' w' h' hk
  cases e with
  |normal=>
   obtain⟨S0,h0,hk⟩:=jF h' hk;exact hR.loop _ _ _ _ _ _ hk fn H0 ρ0 w0 ρ' dm a' w' Q hf h0 hr he
  |exit id=>
   obtain⟨S0,h0,hk⟩:=jF h' hk;exact he id _ _ _ _ _ h0 hk
  |ret=>
   obtain⟨S0,h0,hk⟩:=jF h' hk;exact hr _ _ _ _ _ h0 hk
 ·exact h.elim
theorem AL (hX:jE E) (hm:E.P.follows .mixedOrders=true):mM E (qO E):=by
 have mono_call:∀{f:FuncId} {args:List V} {H:ag} {K K':V→ag→Prop},(∀v H',K v H'→K' v H')→ie E f args H K→ie E f args H K':=by
  intro f args H K K' hk h ρ w aS hr has;refine(h ρ w aS hr has).mono ?_;rintro e w' ⟨v,v',H',ρ',h1,h2,h3⟩;exact⟨v,v',H',ρ',h1,hk _ _ h2,h3⟩
 have mono_loop:∀{c:Code} {f:FuncId} {S:St} {Kr Og:St→Prop} {Ke Oh:Nat→St→Prop},(∀S,Kr S→Og S)→(∀i S,Ke i S→Oh i S)→mL E c f S Kr Ke→mL E c f S Og Oh:=by
  intro c f S Kr Og Ke Oh h1 h2 h fn H0 ρ0 w0 ρ lam a w Q hf Ym hr he;exact h fn H0 ρ0 w0 ρ lam a w Q hf Ym (fun S' ρ' dm a' w' h' hk=>hr S' ρ' dm a' w' h' (h1 _ hk)) (fun id S' ρ' dm a' w' h' hk=>he id S' ρ' dm a' w' h' (h2 _ _ hk))
 let G:lG:=
  {call:=fun f args H K=>(qO E).call f args H K∧ie E f args H K∧∃fn,E.P.funcs[f]? =some fn∧fn.body.isSome=true
   loop:=fun c f n S Kr Ke=>(qO E).loop c f n S Kr Ke∧mL E c f S Kr Ke}
 have hGR:G.le (qO E):=⟨fun f args H K K' hk h=>mG.call _ _ _ _ _ hk h.1,fun c f n S Kr Og Ke Oh h1 h2 h=>mG.loop _ _ _ _ _ _ _ _ h1 h2 h.1⟩
 have Zs:G.le G:=⟨fun f args H K K' hk h=>⟨mG.call _ _ _ _ _ hk h.1,mono_call hk h.2.1,h.2.2⟩,
  fun c f n S Kr Og Ke Oh h1 h2 h=>⟨mG.loop _ _ _ _ _ _ _ _ h1 h2 h.1,mono_loop h1 h2 h.2⟩⟩
 have hGs:mM E G:=⟨fun f args H K h=>h.2.1,fun f args H K h=>h.2.2,fun c f n S Kr Ke h=>h.2,Zs,
  ⟨fun f args H K h=>rJ.call _ _ _ _ h.1,fun c f n S Kr Ke h=>rJ.loop _ _ _ _ _ _ h.1⟩,hX⟩
 have hFG:(F E G).le G:=
  ⟨fun f args H K K' hk h=>Zs.call _ _ _ _ _ hk ⟨oT.call _ _ _ _ _ (fun _ _=>id) ((uO hGR).call _ _ _ _ _ (fun _ _=>id) h),CC hGs hm h⟩,
   fun c f n S Kr Og Ke Oh h1 h2 h=>Zs.loop _ _ _ _ _ _ _ _ h1 h2 ⟨oT.loop _ _ _ _ _ _ _ _ (fun _=>id) (fun _ _=>id) ((uO hGR).loop _ _ _ _ _ _ _ _ (fun _=>id) (fun _ _=>id) h),CD hGs hm h⟩⟩
 have hle:=xp Zs hFG
 exact⟨fun f args H K h=>(hle.call _ _ _ _ _ (fun _ _=>id) h).2.1,fun f args H K h=>(hle.call _ _ _ _ _ (fun _ _=>id) h).2.2,
  fun c f n S Kr Ke h=>(hle.loop _ _ _ _ _ _ _ _ (fun _=>id) (fun _ _=>id) h).2,mG,rJ,hX⟩
#print axioms AL
end
def jI:Code→Nat→Nat→Option Code
 | .seq a b,n,m=>match jI a n m with|some c=>some c|none=>jI b (n+dH a) m
 | .cond _ a b,n,m=>match jI a (n+1) m with|some c=>some c|none=>jI b (n+1+dH a) m
 | .block _ b,n,m=>jI b n m
 | .scope b,n,m=>jI b n m
 | .loop b,n,m=>bif Nat.beq n m then some b else jI b (n+1) m
 |_,_,_=>none
def LZ (E:jR) (f n:Nat):Code:=
 match E.fn f with
 |some fn=>match fn.body with|some c=>(jI c 0 n).getD .skip|none=>.skip
 |none=>.skip
theorem aJ {i:Nat} (h:(i:Int)+1≤9223372036854775807):IntKind.i64.wrap ((i:Int)+1)=((i+1:Nat):Int):=by
 rw[IntWalk.i64_in _ (by omega)];omega
theorem bn {x:Int} (h: -9223372036854775808≤x) (h':x≤9223372036854775807):IntKind.i64.wrap x=x:=IntWalk.i64_in _ ⟨h,h'⟩
@[simp] theorem aq (X Y:Prop):br true X Y=X:=rfl
@[simp] theorem ai (X Y:Prop):br false X Y=Y:=rfl
@[simp] theorem aA (X:Prop):ah true X=X:=rfl
@[simp] theorem UM (X:Prop):ah false X=False:=rfl
theorem CE (c:Bool) (X Y:Prop):br c X Y=if c=true then X else Y:=by cases c<;>rfl
@[simp] theorem dW {α:Type} (A:(α→Prop)→Prop) (Q:α→Prop):cI A Q=A Q:=rfl
@[simp] theorem lN (a b:Nat):Nat.beq a b=decide (a=b):=aP
@[simp] theorem lO (a b:Nat):Nat.ble a b=decide (a≤b):=by
  cases h:Nat.ble a b with
  |true=>simpa using Nat.le_of_ble_eq_true h
  |false=>exact(decide_eq_false fun hle=>by rw[Nat.ble_eq_true_of_le hle] at h;cases h).symm
@[simp] theorem kU {α:Type} (n:Nat):ab ([]:List (Nat×α)) n=none:=rfl
@[simp] theorem ik {α:Type} (k n:Nat) (x:α) (l:List (Nat×α)):ab ((k,x)::l) n=if n=k then some x else ab l n:=by
  simp only[ab,lN];by_cases h:n=k<;>simp [h]
@[simp] theorem Y8 (x:V):T.val (some (.v x))=x:=rfl
abbrev PS:=St→Prop
def tv (S:St) (n:Nat):V:=T.val (S.1 n)
theorem TV:(∀(S:St) (n:Nat),tv S n=T.val (S.1 n))∧∀x:V,T.val (some (T.v x))=x:=⟨fun _ _=>rfl,fun _=>rfl⟩
@[simp] theorem mn (k:bX) (x:V):aG (.k k) (some (.v x))=x.aw k:=rfl
@[simp] theorem pr (ks:List bX) (x:V):aG (.agg ks) (some (.v x))=(x.isAgg&&aI ks x.af):=rfl
@[simp] theorem tx (s:Nat):aG (.lp s) (some (.lp s 0))=true:=by simp [aG]
@[simp] theorem uZ (e:Nat) (ks:List bX) (cs:List V):ef e ks (some (.cells e cs))=aI ks cs:=by simp [ef]
@[simp] theorem hY (e:Nat) (cs:List V):ar (some (.cells e cs))=cs:=rfl
@[simp] theorem fT (x:V) (l:List V):ae (x::l) 0=x:=rfl
@[simp] theorem kW (x y:V) (l:List V):ae (x::y::l) 1=y:=rfl
@[simp] theorem pt (x y z:V) (l:List V):ae (x::y::z::l) 2=z:=rfl
@[simp] theorem jj (l:List V):V.aj (.tuple l)=l:=rfl
@[simp] theorem eS (l:List V):V.af (.agg l)=l:=rfl
@[simp] theorem il (l:List V):V.isAgg (.agg l)=true:=rfl
@[simp] theorem bK (k:IntKind) (x:Int):V.aa (.int k x)=x:=rfl
@[simp] theorem cD (b:Bool):V.av (.bool b)=b:=rfl
@[simp] theorem kX (b:ByteArray):V.Gh (.dS b)=b:=rfl
@[simp] theorem jk (b:Oq):V.ao (.ak b)=b:=rfl
@[simp] theorem cv (p:Oq) (n c:Nat):V.au (.slice p n c)=p:=rfl
@[simp] theorem bU (p:Oq) (n c:Nat):V.ax (.slice p n c)=n:=rfl
@[simp] theorem cw (p:Oq) (n c:Nat):V.aC (.slice p n c)=c:=rfl
@[simp] theorem eT (k:IntKind) (x:Int):V.aw (.int k) (.int k x)=true:=by simp [V.aw]
@[simp] theorem gP (b:Bool):V.aw .bool (.bool b)=true:=rfl
@[simp] theorem tz (b:ByteArray):V.aw .dS (.dS b)=true:=rfl
@[simp] theorem qo (b:Oq):V.aw .ak (.ak b)=true:=rfl
@[simp] theorem dD (p:Oq) (n c:Nat):V.aw .slice (.slice p n c)=true:=rfl
@[simp] theorem fU (n:Nat) (l:List V):V.aH n (.tuple l)=decide (l.length=n):=by
  by_cases h:l.length=n<;>simp [V.aH,h]
@[simp] theorem UN (c:Bool) (a b:V):cS c a b=if c=true then a else b:=by rw[mB]
def AO (args:List V) (H:ag) (K:V→ag→Prop):Prop:=
 match args with
 |[.slice (some (i,o)) la _,.slice (some (j,_)) lb _]=>
  i≠j∧0<la∧0<lb∧(∃e cs,H.get i=some (.cells e cs false)∧o<cs.length)∧(∃e cs ro,H.get j=some (.cells e cs ro))∧K (.bool true) H∧K (.bool false) H
 |_=>False
theorem JS {args:List V} {H:ag} {K:V→ag→Prop} (h:AO args H K):∃i o la ca j o' lb cb,args=[.slice (some (i,o)) la ca,.slice (some (j,o')) lb cb]∧i≠j∧0<la∧0<lb∧(∃e cs,H.get i=some (.cells e cs false)∧o<cs.length)∧(∃e cs ro,H.get j=some (.cells e cs ro))∧K (.bool true) H∧K (.bool false) H:=by
 unfold AO at h;split at h
 ·exact⟨_,_,_,_,_,_,_,_,rfl,h⟩
 ·exact h.elim
def Eu:Y6 where
 run:=AO
 mono args H K K' h hk:=by
  unfold AO at hk⊢;split at hk
  ·obtain⟨a,b,c,d,e,f,g⟩:=hk;exact⟨a,b,c,d,e,h _ _ f,h _ _ g⟩
  ·exact hk
 uJ args H K hk:=by
  unfold AO at hk;split at hk
  ·obtain⟨a,b,c,d,e,f,g⟩:=hk;exact⟨_,_,f⟩
  ·exact hk.elim
theorem HR.heap {ρ:da} {H:ag} {w w':World} (h:HR ρ H w) (he:w'.heap=w.heap):HR ρ H w':=
 ⟨fun id o hg=>by rw[he];exact h.vM id o hg,h.inj,fun id b hb=>by rw[he];exact h.lt id b hb,h.gl⟩
theorem CF {P:Program} {w:World} {tS tR e:TypeId} (ht:P.underlying tS=some (.slice e)) {size:Nat} (hz:∀w,(Go.sizeOf e).run P w=.ok size w) {a b:Addr} {la ca lb cb:Nat} (hne:a.block≠b.block) {tA tB:TypeId} {kA kB:Nat} (hsa:w.shape? a.block=some (tA,kA)) (hsb:w.shape? b.block=some (tB,kB)) (OC:w.frozen? a=false):∃r w',(Extern.SlicesOverlaps.overlaps #[tS,tS] #[tR] #[.slice (some a) la ca,.slice (some b) lb cb]).run P w=.ok (.bool r) w'∧(w'=w∨w'=w.drew):=by
 have hnb:(a.block != b.block)=true:=by simpa using hne
 have Yn:(a.block == b.block)=false:=by simpa using hne
 change∃r w',Sem.run P (α:=Value) (do
  let some t:=(#[tS,tS]:Array TypeId)[0]? |stuck "slices.overlaps: no parameter types"
  let .slice elem←underlying t|stuck "slices.overlaps: slice type expected"
  let size←sizeOf elem
  match (some a:Option Addr),(some b:Option Addr) with
  |some a,some b=>
   if la=0∨lb=0∨size=0 then pure (Value.bool false)
   else if a.block != b.block&&(←frozen a)&&(←frozen b) then unsupported .addressObserved
   else do
    if a.block != b.block then do
     noView a;noView b
     if←mayBeOne a b then return Value.bool ((←choose (.extern "sameAddr.stringBytes" 2)) == 1)
    pure (Value.bool (a.block == b.block&&a.off<b.off+lb*size&&b.off<a.off+la*size))
  |_,_=>pure (Value.bool false)) w=.ok (.bool r) w'∧(w'=w∨w'=w.drew)
 by_cases h0:la=0∨lb=0∨size=0
 ·exact⟨false,w,by simp [run_underlying ht,hz,h0],.inl rfl⟩
 ·have hm:∃m,(mayBeOne a b).run P w=.ok m w:=by
   cases Qs:w.frozen? b<;>cases hf2:w.frozen? ⟨a.block,kA,none⟩<;>cases hf3:w.frozen? ⟨b.block,kB,none⟩<;>cases kA<;>cases kB<;>
    exact⟨_,by simp [mayBeOne,stringish,shape,frozen,Sem.run,hsa,hsb,OC,Qs,hf2,hf3];rfl⟩
  obtain⟨m,hm⟩:=hm
  cases m with
  |false=>exact⟨_,w,by simp [run_underlying ht,hz,h0,hnb,Yn,frozen,noView,viewAt,shape,Sem.run,hsa,hsb,OC,hm];rfl,.inl rfl⟩
  |true=>exact⟨_,w.drew,by simp [run_underlying ht,hz,h0,hnb,Yn,frozen,noView,viewAt,shape,Sem.run,hsa,hsb,OC,hm,Question.forced];rfl,.inr rfl⟩
def ZO (P:Program) (g:Nat):Prop:=∃fn tS tR e,P.funcs[g]? =some fn∧(fn.name == "runtime.NumGoroutine")=false∧fn.body.isNone=true∧Extern.findNext fn=none∧
 Extern.find fn=some (Extern.SlicesOverlaps.overlaps #[tS,tS] #[tR])∧P.underlying tS=some (.slice e)∧(P.info? e).isSome=true
inductive XK where
 |overlaps
def Vl (P:Program):XK→Y6
 | .overlaps=>Eu
def ZP (P:Program) (g:Nat):XK→Prop
 | .overlaps=>ZO P g
def GN (P:Program) (l:List (Nat×XK)) (g:Nat):Option Y6:=(ab l g).map (Vl P)
theorem JT {E:jR} {l:List (Nat×XK)} (he:E.ext=GN E.P l) (hl:∀g k,ab l g=some k→ZP E.P g k):jE E:=by
 intro g x hx args H K hk ρ w aS hr ha;rw[he,GN] at hx
 cases hm:ab l g with
 |none=>rw[hm] at hx;cases hx
 |some k=>
  rw[hm] at hx;simp only[Option.map_some,Option.some.injEq] at hx;subst hx;have hok:=hl g k hm
  cases k with
  |overlaps=>
  obtain⟨fn,tS,tR,e,h1,h2,h3,h4,h5,h6,h7⟩:=hok;obtain⟨cU,h7⟩:=Option.isSome_iff_exists.1 h7;left;obtain⟨i,o,la,ca,j,o',lb,cb,rfl,hij,hla,hlb,⟨e1,cs1,Qt,ho⟩,⟨e2,Zm,ro,HG⟩,FW,hkf⟩:=JS hk;obtain⟨x1,r1,Ai,hx1,nt⟩:=ha.cT;obtain⟨x2,r2,Ah,uH,sB⟩:=nt.cT;have Oj:=sB.fW;subst Oj;subst Ah
  obtain rfl:aS= #[x1,x2]:=by
   apply Array.ext';rw[Ai]
  obtain⟨b1,zu,Yo,fz1,FR,oJ,_,hfz⟩:=hr.vM i _ Qt;obtain⟨b2,mv,abp,fz2,Ga,_⟩:=hr.vM j _ HG
  have hne:b1≠b2:=by
   intro hb;subst hb;exact hij (hr.inj i j _ _ b1 Qt HG rfl zu mv)
  rcases hx1.eO with⟨b,hb,rfl⟩|⟨h0,_⟩;rotate_left
  ·omega
  rcases uH.eO with⟨b',hb',rfl⟩|⟨h0,_⟩;rotate_left
  ·omega
  rw[zu] at hb;rw[mv] at hb';cases hb;cases hb';have hlen:Yo.size=cs1.length:=by have:=oJ.1;simp at this;omega
  have OC:w.frozen? ⟨b1,o,none⟩=false:=by
   simp only[World.frozen?,FR];rcases hfz rfl with h|h
   ·rw[h];by_cases hh:fz1.2≤o
    ·have:¬o<fz1.2:=by omega
     simp [this]
    ·simp [hh]
   ·have:¬fz1.1≤o:=by omega
    simp [this]
  obtain⟨r,w',hrun,hw⟩:=CF (P:=E.P) (w:=w) (tR:=tR) h6 (size:=cU.size) (fun w=>by simp [sizeOf,typeInfo,h7]) (a:=⟨b1,o,none⟩) (b:=⟨b2,o',none⟩) (la:=la) (ca:=ca) (lb:=lb) (cb:=cb) hne
   (tA:=e1) (kA:=Yo.size) (tB:=e2) (kB:=abp.size) (by simp [World.shape?,FR]) (by simp [World.shape?,Ga]) OC
  have hK:K (.bool r) H:=by cases r<;>assumption
  have Yp:w'.heap=w.heap:=by rcases hw with rfl|rfl<;>rfl
  refine⟨.bool r,.bool r,w',H,ρ, ?_,hK,.bool _,hr.heap Yp, ?_⟩
  ·rw[run_callFunc_extern h1 h2 h3 h4 h5,hrun];rfl
  ·rcases hw with rfl|rfl
   ·exact .refl ..
   ·exact⟨.refl ρ,fun _ _ _=>rfl,fun _ h=>.inl h,fun _ h=>.inl h,Nat.le_refl _,rfl,rfl,rfl⟩
end Go.Am
end
section
namespace Go.Proofs.YtlgdkndamddpkaaGreat
open Go.Am
def fz:TI:=⟨.func,1,8,some .nilFunc⟩
def Y9:List TI:=[⟨.tuple [],1,0,none⟩,fz,⟨.int .i64,1,8,some (.int .i64 0)⟩,⟨.int .i64,1,8,some (.int .i64 0)⟩,⟨.bool,1,1,some (.bool false)⟩,⟨.int .u8,1,1,some (.int .u8 0)⟩,⟨.int .u8,1,1,some (.int .u8 0)⟩,⟨.struct [(0,2),(1,3),(2,4),(3,6)],4,24,some (.agg [.int .i64 0,.int .i64 0,.bool false,.int .u8 0])⟩,⟨.struct [(0,2),(1,3),(2,4),(3,6)],4,24,some (.agg [.int .i64 0,.int .i64 0,.bool false,.int .u8 0])⟩,⟨.dS,1,16,some (.dS ⟨#[]⟩)⟩,⟨.dS,1,16,some (.dS ⟨#[]⟩)⟩,⟨.dS,1,16,some (.dS ⟨#[]⟩)⟩,⟨.int .u64,1,8,some (.int .u64 0)⟩,⟨.struct [(0,9),(1,12)],2,24,some (.agg [.dS ⟨#[]⟩,.int .u64 0])⟩,⟨.struct [(0,9),(1,12)],2,24,some (.agg [.dS ⟨#[]⟩,.int .u64 0])⟩,⟨.ak 227,1,8,some (.ak none)⟩,⟨.ak 230,1,8,some (.ak none)⟩,⟨.ak 238,1,8,some (.ak none)⟩,⟨.struct [(0,17)],1,8,some (.agg [.ak none])⟩,⟨.struct [(0,17)],1,8,some (.agg [.ak none])⟩,⟨.iface,1,16,some (.nilIface)⟩,⟨.int .i32,1,4,some (.int .i32 0)⟩,⟨.slice 38,1,24,some (.slice none 0 0)⟩,fz,⟨.slice 3,1,24,some (.slice none 0 0)⟩,⟨.struct [(0,3),(1,3),(2,3),(3,24)],4,48,some (.agg [.int .i64 0,.int .i64 0,.int .i64 0,.slice none 0 0])⟩,⟨.struct [(0,3),(1,3),(2,3),(3,24)],4,48,some (.agg [.int .i64 0,.int .i64 0,.int .i64 0,.slice none 0 0])⟩,fz,⟨.ak 81,1,8,some (.ak none)⟩,⟨.int .i64,1,8,some (.int .i64 0)⟩,⟨.tuple [28,29],1,0,none⟩,fz,⟨.ak 93,1,8,some (.ak none)⟩,⟨.tuple [32,29],1,0,none⟩,fz,⟨.int .u64,1,8,some (.int .u64 0)⟩,⟨.slice 5,1,24,some (.slice none 0 0)⟩,⟨.struct [(0,5),(1,5),(2,5),(3,5),(4,5),(5,5),(6,4),(7,4),(8,36),(9,5)],10,40,some (.agg [.int .u8 0,.int .u8 0,.int .u8 0,.int .u8 0,.int .u8 0,.int .u8 0,.bool false,.bool false,.slice none 0 0,.int .u8 0])⟩,⟨.struct [(0,5),(1,5),(2,5),(3,5),(4,5),(5,5),(6,4),(7,4),(8,36),(9,5)],10,40,some (.agg [.int .u8 0,.int .u8 0,.int .u8 0,.int .u8 0,.int .u8 0,.int .u8 0,.bool false,.bool false,.slice none 0 0,.int .u8 0])⟩,⟨.int .u32,1,4,some (.int .u32 0)⟩,⟨.struct [(0,5),(1,3),(2,36),(3,4),(4,39),(5,39),(6,5),(7,4)],8,56,some (.agg [.int .u8 0,.int .i64 0,.slice none 0 0,.bool false,.int .u32 0,.int .u32 0,.int .u8 0,.bool false])⟩,⟨.struct [(0,5),(1,3),(2,36),(3,4),(4,39),(5,39),(6,5),(7,4)],8,56,some (.agg [.int .u8 0,.int .i64 0,.slice none 0 0,.bool false,.int .u32 0,.int .u32 0,.int .u8 0,.bool false])⟩,⟨.tuple [3,41],1,0,none⟩,fz,⟨.arr 8 39,8,32,some (.agg [.int .u32 0,.int .u32 0,.int .u32 0,.int .u32 0,.int .u32 0,.int .u32 0,.int .u32 0,.int .u32 0])⟩,⟨.struct [(0,44),(8,5),(9,3),(10,39),(11,4)],12,56,some (.agg [.int .u32 0,.int .u32 0,.int .u32 0,.int .u32 0,.int .u32 0,.int .u32 0,.int .u32 0,.int .u32 0,.int .u8 0,.int .i64 0,.int .u32 0,.bool false])⟩,⟨.struct [(0,44),(8,5),(9,3),(10,39),(11,4)],12,56,some (.agg [.int .u32 0,.int .u32 0,.int .u32 0,.int .u32 0,.int .u32 0,.int .u32 0,.int .u32 0,.int .u32 0,.int .u8 0,.int .i64 0,.int .u32 0,.bool false])⟩,fz,⟨.struct [(0,29),(1,36),(2,46)],14,88,some (.agg [.int .i64 0,.slice none 0 0,.int .u32 0,.int .u32 0,.int .u32 0,.int .u32 0,.int .u32 0,.int .u32 0,.int .u32 0,.int .u32 0,.int .u8 0,.int .i64 0,.int .u32 0,.bool false])⟩,⟨.struct [(0,29),(1,36),(2,46)],14,88,some (.agg [.int .i64 0,.slice none 0 0,.int .u32 0,.int .u32 0,.int .u32 0,.int .u32 0,.int .u32 0,.int .u32 0,.int .u32 0,.int .u32 0,.int .u8 0,.int .i64 0,.int .u32 0,.bool false])⟩,⟨.tuple [49,29],1,0,none⟩,fz,fz,fz,fz,⟨.ak 60,1,8,some (.ak none)⟩,fz,⟨.slice 9,1,24,some (.slice none 0 0)⟩,⟨.slice 109,1,24,some (.slice none 0 0)⟩,⟨.struct [(0,57),(1,58),(2,46)],14,104,some (.agg [.slice none 0 0,.slice none 0 0,.int .u32 0,.int .u32 0,.int .u32 0,.int .u32 0,.int .u32 0,.int .u32 0,.int .u32 0,.int .u32 0,.int .u8 0,.int .i64 0,.int .u32 0,.bool false])⟩,⟨.struct [(0,57),(1,58),(2,46)],14,104,some (.agg [.slice none 0 0,.slice none 0 0,.int .u32 0,.int .u32 0,.int .u32 0,.int .u32 0,.int .u32 0,.int .u32 0,.int .u32 0,.int .u32 0,.int .u8 0,.int .i64 0,.int .u32 0,.bool false])⟩,⟨.tuple [3,9,46],1,0,none⟩,fz,fz,fz,fz,⟨.tuple [36,29],1,0,none⟩,fz,fz,fz,fz,fz,fz,fz,fz,fz,fz,fz,⟨.slice 84,1,24,some (.slice none 0 0)⟩,fz,⟨.struct [(0,78),(1,3),(2,35),(3,3),(4,3),(5,4),(6,3),(7,79)],8,80,some (.agg [.slice none 0 0,.int .i64 0,.int .u64 0,.int .i64 0,.int .i64 0,.bool false,.int .i64 0,.nilFunc])⟩,⟨.struct [(0,78),(1,3),(2,35),(3,3),(4,3),(5,4),(6,3),(7,79)],8,80,some (.agg [.slice none 0 0,.int .i64 0,.int .u64 0,.int .i64 0,.int .i64 0,.bool false,.int .i64 0,.nilFunc])⟩,⟨.slice 36,1,24,some (.slice none 0 0)⟩,⟨.struct [(0,82),(1,3),(2,4),(3,4),(4,4),(5,3)],6,48,some (.agg [.slice none 0 0,.int .i64 0,.bool false,.bool false,.bool false,.int .i64 0])⟩,⟨.struct [(0,82),(1,3),(2,4),(3,4),(4,4),(5,3)],6,48,some (.agg [.slice none 0 0,.int .i64 0,.bool false,.bool false,.bool false,.int .i64 0])⟩,⟨.ak 120,1,8,some (.ak none)⟩,⟨.tuple [85,29],1,0,none⟩,fz,⟨.ak 91,1,8,some (.ak none)⟩,⟨.slice 138,1,24,some (.slice none 0 0)⟩,⟨.struct [(0,89)],1,24,some (.agg [.slice none 0 0])⟩,⟨.struct [(0,89)],1,24,some (.agg [.slice none 0 0])⟩,⟨.struct [(0,28),(1,26),(5,85),(6,88),(7,46),(19,4)],20,136,some (.agg [.ak none,.int .i64 0,.int .i64 0,.int .i64 0,.slice none 0 0,.ak none,.ak none,.int .u32 0,.int .u32 0,.int .u32 0,.int .u32 0,.int .u32 0,.int .u32 0,.int .u32 0,.int .u32 0,.int .u8 0,.int .i64 0,.int .u32 0,.bool false,.bool false])⟩,⟨.struct [(0,28),(1,26),(5,85),(6,88),(7,46),(19,4)],20,136,some (.agg [.ak none,.int .i64 0,.int .i64 0,.int .i64 0,.slice none 0 0,.ak none,.ak none,.int .u32 0,.int .u32 0,.int .u32 0,.int .u32 0,.int .u32 0,.int .u32 0,.int .u32 0,.int .u32 0,.int .u8 0,.int .i64 0,.int .u32 0,.bool false,.bool false])⟩,fz,⟨.tuple [46,3,29],1,0,none⟩,fz,fz,fz,fz,fz,fz,⟨.tuple [46,3],1,0,none⟩,fz,⟨.ak 84,1,8,some (.ak none)⟩,⟨.tuple [104,29],1,0,none⟩,fz,fz,⟨.struct [(0,3),(1,9)],2,24,some (.agg [.int .i64 0,.dS ⟨#[]⟩])⟩,⟨.struct [(0,3),(1,9)],2,24,some (.agg [.int .i64 0,.dS ⟨#[]⟩])⟩,⟨.ak 175,1,8,some (.ak none)⟩,⟨.map 3 130,1,8,some (.map none)⟩,⟨.struct [(0,110),(1,111),(2,35),(3,24)],4,48,some (.agg [.ak none,.map none,.int .u64 0,.slice none 0 0])⟩,⟨.struct [(0,110),(1,111),(2,35),(3,24)],4,48,some (.agg [.ak none,.map none,.int .u64 0,.slice none 0 0])⟩,⟨.tuple [113,29],1,0,none⟩,fz,⟨.ak 166,1,8,some (.ak none)⟩,⟨.tuple [116,29],1,0,none⟩,fz,⟨.struct [(0,28),(1,26),(5,35),(6,110),(7,116),(8,35)],9,88,some (.agg [.ak none,.int .i64 0,.int .i64 0,.int .i64 0,.slice none 0 0,.int .u64 0,.ak none,.ak none,.int .u64 0])⟩,⟨.struct [(0,28),(1,26),(5,35),(6,110),(7,116),(8,35)],9,88,some (.agg [.ak none,.int .i64 0,.int .i64 0,.int .i64 0,.slice none 0 0,.int .u64 0,.ak none,.ak none,.int .u64 0])⟩,fz,fz,fz,fz,⟨.struct [(0,5),(1,35),(2,35),(3,3),(4,3),(5,36)],6,64,some (.agg [.int .u8 0,.int .u64 0,.int .u64 0,.int .i64 0,.int .i64 0,.slice none 0 0])⟩,⟨.struct [(0,5),(1,35),(2,35),(3,3),(4,3),(5,36)],6,64,some (.agg [.int .u8 0,.int .u64 0,.int .u64 0,.int .i64 0,.int .i64 0,.slice none 0 0])⟩,⟨.struct [(0,3),(1,3)],2,16,some (.agg [.int .i64 0,.int .i64 0])⟩,⟨.struct [(0,3),(1,3)],2,16,some (.agg [.int .i64 0,.int .i64 0])⟩,⟨.struct [(0,128),(2,126)],8,80,some (.agg [.int .i64 0,.int .i64 0,.int .u8 0,.int .u64 0,.int .u64 0,.int .i64 0,.int .i64 0,.slice none 0 0])⟩,⟨.struct [(0,128),(2,126)],8,80,some (.agg [.int .i64 0,.int .i64 0,.int .u8 0,.int .u64 0,.int .u64 0,.int .i64 0,.int .i64 0,.slice none 0 0])⟩,⟨.tuple [126,29],1,0,none⟩,fz,⟨.ak 182,1,8,some (.ak none)⟩,fz,fz,fz,⟨.struct [(0,3),(1,36),(2,4)],3,40,some (.agg [.int .i64 0,.slice none 0 0,.bool false])⟩,⟨.struct [(0,3),(1,36),(2,4)],3,40,some (.agg [.int .i64 0,.slice none 0 0,.bool false])⟩,⟨.tuple [138,4],1,0,none⟩,fz,fz,⟨.tuple [46,29],1,0,none⟩,fz,fz,fz,fz,fz,fz,fz,fz,fz,fz,fz,fz,⟨.tuple [110,29],1,0,none⟩,fz,⟨.map 3 158,1,8,some (.map none)⟩,⟨.slice 130,1,24,some (.slice none 0 0)⟩,⟨.tuple [158,29],1,0,none⟩,fz,fz,⟨.tuple [130,4],1,0,none⟩,fz,⟨.map 3 5,1,8,some (.map none)⟩,⟨.struct [(0,24),(1,164)],2,32,some (.agg [.slice none 0 0,.map none])⟩,⟨.struct [(0,24),(1,164)],2,32,some (.agg [.slice none 0 0,.map none])⟩,fz,fz,⟨.tuple [5,4],1,0,none⟩,⟨.tuple [3,4],1,0,none⟩,fz,⟨.slice 128,1,24,some (.slice none 0 0)⟩,⟨.slice 4,1,24,some (.slice none 0 0)⟩,⟨.struct [(0,172),(1,173),(2,24)],3,72,some (.agg [.slice none 0 0,.slice none 0 0,.slice none 0 0])⟩,⟨.struct [(0,172),(1,173),(2,24)],3,72,some (.agg [.slice none 0 0,.slice none 0 0,.slice none 0 0])⟩,fz,⟨.arr 32 3,32,256,some (.agg [.int .i64 0,.int .i64 0,.int .i64 0,.int .i64 0,.int .i64 0,.int .i64 0,.int .i64 0,.int .i64 0,.int .i64 0,.int .i64 0,.int .i64 0,.int .i64 0,.int .i64 0,.int .i64 0,.int .i64 0,.int .i64 0,.int .i64 0,.int .i64 0,.int .i64 0,.int .i64 0,.int .i64 0,.int .i64 0,.int .i64 0,.int .i64 0,.int .i64 0,.int .i64 0,.int .i64 0,.int .i64 0,.int .i64 0,.int .i64 0,.int .i64 0,.int .i64 0])⟩,⟨.tuple [128,4],1,0,none⟩,fz,fz,⟨.struct [(0,36),(1,4)],2,32,some (.agg [.slice none 0 0,.bool false])⟩,⟨.struct [(0,36),(1,4)],2,32,some (.agg [.slice none 0 0,.bool false])⟩,fz,fz,fz,fz,fz,fz,fz,fz,fz,fz,⟨.tuple [4,4],1,0,none⟩,fz,fz,fz,fz,⟨.arr 6 5,6,6,some (.agg [.int .u8 0,.int .u8 0,.int .u8 0,.int .u8 0,.int .u8 0,.int .u8 0])⟩,fz,fz,fz,fz,fz,⟨.tuple [3,29],1,0,none⟩,fz,fz,fz,fz,fz,⟨.int .u64,1,8,some (.int .u64 0)⟩,fz,fz,fz,fz,fz,fz,fz,fz,⟨.tuple [210,210],1,0,none⟩,fz,⟨.tuple [39,39],1,0,none⟩,fz,⟨.tuple [35,35],1,0,none⟩,fz,fz,⟨.struct [(0,17),(1,17),(2,17),(3,9)],4,40,some (.agg [.ak none,.ak none,.ak none,.dS ⟨#[]⟩])⟩,⟨.struct [(0,17),(1,17),(2,17),(3,9)],4,40,some (.agg [.ak none,.ak none,.ak none,.dS ⟨#[]⟩])⟩,⟨.arr 0 16,0,0,some (.agg [])⟩,⟨.struct [(0,228)],0,0,some (.agg [])⟩,⟨.struct [(0,228)],0,0,some (.agg [])⟩,⟨.int .u8,1,1,some (.int .u8 0)⟩,⟨.int .u8,1,1,some (.int .u8 0)⟩,fz,⟨.ak 5,1,8,some (.ak none)⟩,⟨.int .i32,1,4,some (.int .i32 0)⟩,⟨.int .i32,1,4,some (.int .i32 0)⟩,⟨.struct [(0,12),(1,12),(2,39),(3,231),(4,5),(5,5),(6,232),(7,233),(8,234),(9,235),(10,236)],11,48,some (.agg [.int .u64 0,.int .u64 0,.int .u32 0,.int .u8 0,.int .u8 0,.int .u8 0,.int .u8 0,.nilFunc,.ak none,.int .i32 0,.int .i32 0])⟩,⟨.struct [(0,12),(1,12),(2,39),(3,231),(4,5),(5,5),(6,232),(7,233),(8,234),(9,235),(10,236)],11,48,some (.agg [.int .u64 0,.int .u64 0,.int .u32 0,.int .u8 0,.int .u8 0,.int .u8 0,.int .u8 0,.nilFunc,.ak none,.int .i32 0,.int .i32 0])⟩,⟨.lF,1,8,some (.ak none)⟩]
theorem RT:(List.range 240).map (OS Tryz.prog)=Y9.map some:=by kernel_rfl
def k7:List bX:=[.int .i64,.int .i64,.bool,.int .u8]
def c7 (a b:Int) (c:Bool) (d:Int):List V:=[.int .i64 a,.int .i64 b,.bool c,.int .u8 d]
@[simp] theorem f7 (a:Int) (b:Int) (c:Bool) (d:Int):Am.aI k7 (c7 a b c d)=true:=rfl
def wz:List bX:=[.int .i64,.int .i64,.int .i64,.slice]
def cV (a b c:Int) (d:Oq) (e f:Nat):List V:=[.int .i64 a,.int .i64 b,.int .i64 c,.slice d e f]
def pw (l:List V):List V:=cV (ae l 0).aa (ae l 1).aa (ae l 2).aa (ae l 3).au (ae l 3).ax (ae l 3).aC
@[simp] theorem f25 (a:Int) (b:Int) (c:Int) (d:Oq) (e:Nat) (f:Nat):Am.aI wz (cV a b c d e f)=true:=rfl
@[simp] theorem tC (a b c d e f):pw (cV a b c d e f)=cV a b c d e f:=rfl
@[simp] theorem lP (a b c d e f):ae (cV a b c d e f) 0=.int .i64 a:=rfl
@[simp] theorem lQ (a b c d e f):ae (cV a b c d e f) 1=.int .i64 b:=rfl
@[simp] theorem lR (a b c d e f):ae (cV a b c d e f) 2=.int .i64 c:=rfl
@[simp] theorem lS (a b c d e f):ae (cV a b c d e f) 3=.slice d e f:=rfl
def Za:List bX:=[.int .u8,.int .u8,.int .u8,.int .u8,.int .u8,.int .u8,.bool,.bool,.slice,.int .u8]
def ZQ (a b c d e f:Int) (g h:Bool) (i:Oq) (j l:Nat) (m:Int):List V:=[.int .u8 a,.int .u8 b,.int .u8 c,.int .u8 d,.int .u8 e,.int .u8 f,.bool g,.bool h,.slice i j l,.int .u8 m]
def Zb (l:List V):List V:=ZQ (ae l 0).aa (ae l 1).aa (ae l 2).aa (ae l 3).aa (ae l 4).aa (ae l 5).aa (ae l 6).av (ae l 7).av (ae l 8).au (ae l 8).ax (ae l 8).aC (ae l 9).aa
def QL:List bX:=[.int .u8,.int .i64,.slice,.bool,.int .u32,.int .u32,.int .u8,.bool]
def nW (a b:Int) (c:Oq) (d e:Nat) (f:Bool) (g h i:Int) (j:Bool):List V:=[.int .u8 a,.int .i64 b,.slice c d e,.bool f,.int .u32 g,.int .u32 h,.int .u8 i,.bool j]
def QM (l:List V):List V:=nW (ae l 0).aa (ae l 1).aa (ae l 2).au (ae l 2).ax (ae l 2).aC (ae l 3).av (ae l 4).aa (ae l 5).aa (ae l 6).aa (ae l 7).av
@[simp] theorem f40 (a:Int) (b:Int) (c:Oq) (d:Nat) (e:Nat) (f:Bool) (g:Int) (h:Int) (i:Int) (j:Bool):Am.aI QL (nW a b c d e f g h i j)=true:=rfl
@[simp] theorem ZR (a b c d e f g h i j):QM (nW a b c d e f g h i j)=nW a b c d e f g h i j:=rfl
@[simp] theorem Vm (a b c d e f g h i j):ae (nW a b c d e f g h i j) 0=.int .u8 a:=rfl
@[simp] theorem Vn (a b c d e f g h i j):ae (nW a b c d e f g h i j) 1=.int .i64 b:=rfl
@[simp] theorem Vo (a b c d e f g h i j):ae (nW a b c d e f g h i j) 2=.slice c d e:=rfl
@[simp] theorem Vp (a b c d e f g h i j):ae (nW a b c d e f g h i j) 3=.bool f:=rfl
@[simp] theorem Vq (a b c d e f g h i j):ae (nW a b c d e f g h i j) 4=.int .u32 g:=rfl
@[simp] theorem Vr (a b c d e f g h i j):ae (nW a b c d e f g h i j) 5=.int .u32 h:=rfl
@[simp] theorem Vs (a b c d e f g h i j):ae (nW a b c d e f g h i j) 6=.int .u8 i:=rfl
@[simp] theorem Vt (a b c d e f g h i j):ae (nW a b c d e f g h i j) 7=.bool j:=rfl
def vW (a b c d e f g h:Int):List V:=[.int .u32 a,.int .u32 b,.int .u32 c,.int .u32 d,.int .u32 e,.int .u32 f,.int .u32 g,.int .u32 h]
def px:List bX:=[.int .u32,.int .u32,.int .u32,.int .u32,.int .u32,.int .u32,.int .u32,.int .u32,.int .u8,.int .i64,.int .u32,.bool]
def cP (a b c d e f g h i j l:Int) (m:Bool):List V:=[.int .u32 a,.int .u32 b,.int .u32 c,.int .u32 d,.int .u32 e,.int .u32 f,.int .u32 g,.int .u32 h,.int .u8 i,.int .i64 j,.int .u32 l,.bool m]
def mO (l:List V):List V:=cP (ae l 0).aa (ae l 1).aa (ae l 2).aa (ae l 3).aa (ae l 4).aa (ae l 5).aa (ae l 6).aa (ae l 7).aa (ae l 8).aa (ae l 9).aa (ae l 10).aa (ae l 11).av
@[simp] theorem f45 (a:Int) (b:Int) (c:Int) (d:Int) (e:Int) (f:Int) (g:Int) (h:Int) (i:Int) (j:Int) (l:Int) (m:Bool):Am.aI px (cP a b c d e f g h i j l m)=true:=rfl
@[simp] theorem RU (a b c d e f g h i j l m):mO (cP a b c d e f g h i j l m)=cP a b c d e f g h i j l m:=rfl
@[simp] theorem L4 (a b c d e f g h i j l m):ae (cP a b c d e f g h i j l m) 0=.int .u32 a:=rfl
@[simp] theorem L5 (a b c d e f g h i j l m):ae (cP a b c d e f g h i j l m) 1=.int .u32 b:=rfl
@[simp] theorem L6 (a b c d e f g h i j l m):ae (cP a b c d e f g h i j l m) 2=.int .u32 c:=rfl
@[simp] theorem L7 (a b c d e f g h i j l m):ae (cP a b c d e f g h i j l m) 3=.int .u32 d:=rfl
@[simp] theorem L8 (a b c d e f g h i j l m):ae (cP a b c d e f g h i j l m) 4=.int .u32 e:=rfl
@[simp] theorem L9 (a b c d e f g h i j l m):ae (cP a b c d e f g h i j l m) 5=.int .u32 f:=rfl
@[simp] theorem Ma (a b c d e f g h i j l m):ae (cP a b c d e f g h i j l m) 6=.int .u32 g:=rfl
@[simp] theorem Mb (a b c d e f g h i j l m):ae (cP a b c d e f g h i j l m) 7=.int .u32 h:=rfl
@[simp] theorem Mc (a b c d e f g h i j l m):ae (cP a b c d e f g h i j l m) 8=.int .u8 i:=rfl
@[simp] theorem Md (a b c d e f g h i j l m):ae (cP a b c d e f g h i j l m) 9=.int .i64 j:=rfl
@[simp] theorem GO (a b c d e f g h i j l m):ae (cP a b c d e f g h i j l m) 10=.int .u32 l:=rfl
@[simp] theorem GP (a b c d e f g h i j l m):ae (cP a b c d e f g h i j l m) 11=.bool m:=rfl
def RW:List bX:=[.int .i64,.slice,.int .u32,.int .u32,.int .u32,.int .u32,.int .u32,.int .u32,.int .u32,.int .u32,.int .u8,.int .i64,.int .u32,.bool]
def Ew (a:Int) (b:Oq) (c d:Nat) (e f g h i j l m o p q:Int) (r:Bool):List V:=[.int .i64 a,.slice b c d,.int .u32 e,.int .u32 f,.int .u32 g,.int .u32 h,.int .u32 i,.int .u32 j,.int .u32 l,.int .u32 m,.int .u8 o,.int .i64 p,.int .u32 q,.bool r]
def Zc (a:Oq) (b c:Nat) (d e f g:Int) (h:Bool) (i:Int) (j:V):List V:=[.slice a b c,.int .i64 d,.int .u64 e,.int .i64 f,.int .i64 g,.bool h,.int .i64 i,j]
def k83:List bX:=[.slice,.int .i64,.bool,.bool,.bool,.int .i64]
def QN (a:Oq) (b c:Nat) (d:Int) (e f g:Bool) (h:Int):List V:=[.slice a b c,.int .i64 d,.bool e,.bool f,.bool g,.int .i64 h]
def ZS (a:Oq) (b c d:Int) (e:Oq) (f g:Nat) (h i:Oq) (j l m o p q r s t u v:Int) (w x:Bool):List V:=[.ak a,.int .i64 b,.int .i64 c,.int .i64 d,.slice e f g,.ak h,.ak i,.int .u32 j,.int .u32 l,.int .u32 m,.int .u32 o,.int .u32 p,.int .u32 q,.int .u32 r,.int .u32 s,.int .u8 t,.int .i64 u,.int .u32 v,.bool w,.bool x]
def ZT (a:Int) (b:ByteArray):List V:=[.int .i64 a,.dS b]
def mP:List bX:=[.ak,.map,.int .u64,.slice]
def cJ (a:Oq) (b:Option Nat) (c:Int) (d:Oq) (e f:Nat):List V:=[.ak a,.map b,.int .u64 c,.slice d e f]
def py (l:List V):List V:=cJ (ae l 0).ao (ae l 1).cA (ae l 2).aa (ae l 3).au (ae l 3).ax (ae l 3).aC
@[simp] theorem f112 (a:Oq) (b:Option Nat) (c:Int) (d:Oq) (e:Nat) (f:Nat):Am.aI mP (cJ a b c d e f)=true:=rfl
@[simp] theorem vX (a b c d e f):py (cJ a b c d e f)=cJ a b c d e f:=rfl
@[simp] theorem pA (a b c d e f):ae (cJ a b c d e f) 0=.ak a:=rfl
@[simp] theorem pB (a b c d e f):ae (cJ a b c d e f) 1=.map b:=rfl
@[simp] theorem pC (a b c d e f):ae (cJ a b c d e f) 2=.int .u64 c:=rfl
@[simp] theorem pD (a b c d e f):ae (cJ a b c d e f) 3=.slice d e f:=rfl
def RX (a:Oq) (b c d:Int) (e:Oq) (f g:Nat) (h:Int) (i j:Oq) (l:Int):List V:=[.ak a,.int .i64 b,.int .i64 c,.int .i64 d,.slice e f g,.int .u64 h,.ak i,.ak j,.int .u64 l]
def Me:List bX:=[.int .u8,.int .u64,.int .u64,.int .i64,.int .i64,.slice]
def fc (a b c d e:Int) (f:Oq) (g h:Nat):List V:=[.int .u8 a,.int .u64 b,.int .u64 c,.int .i64 d,.int .i64 e,.slice f g h]
def Vu (l:List V):List V:=fc (ae l 0).aa (ae l 1).aa (ae l 2).aa (ae l 3).aa (ae l 4).aa (ae l 5).au (ae l 5).ax (ae l 5).aC
@[simp] theorem f125 (a:Int) (b:Int) (c:Int) (d:Int) (e:Int) (f:Oq) (g:Nat) (h:Nat):Am.aI Me (fc a b c d e f g h)=true:=rfl
@[simp] theorem Ey (a b c d e f g h):Vu (fc a b c d e f g h)=fc a b c d e f g h:=rfl
@[simp] theorem yg (a b c d e f g h):ae (fc a b c d e f g h) 0=.int .u8 a:=rfl
@[simp] theorem yh (a b c d e f g h):ae (fc a b c d e f g h) 1=.int .u64 b:=rfl
@[simp] theorem yi (a b c d e f g h):ae (fc a b c d e f g h) 2=.int .u64 c:=rfl
@[simp] theorem yj (a b c d e f g h):ae (fc a b c d e f g h) 3=.int .i64 d:=rfl
@[simp] theorem yk (a b c d e f g h):ae (fc a b c d e f g h) 4=.int .i64 e:=rfl
@[simp] theorem yl (a b c d e f g h):ae (fc a b c d e f g h) 5=.slice f g h:=rfl
def GQ:List bX:=[.int .i64,.int .i64]
def iS (a b:Int):List V:=[.int .i64 a,.int .i64 b]
def Pd (l:List V):List V:=iS (ae l 0).aa (ae l 1).aa
@[simp] theorem f127 (a:Int) (b:Int):Am.aI GQ (iS a b)=true:=rfl
@[simp] theorem AP (a b):Pd (iS a b)=iS a b:=rfl
@[simp] theorem u5 (a b):ae (iS a b) 0=.int .i64 a:=rfl
@[simp] theorem u6 (a b):ae (iS a b) 1=.int .i64 b:=rfl
def oE:List bX:=[.int .i64,.int .i64,.int .u8,.int .u64,.int .u64,.int .i64,.int .i64,.slice]
def kb (a b c d e f g:Int) (h:Oq) (i j:Nat):List V:=[.int .i64 a,.int .i64 b,.int .u8 c,.int .u64 d,.int .u64 e,.int .i64 f,.int .i64 g,.slice h i j]
def JU (l:List V):List V:=kb (ae l 0).aa (ae l 1).aa (ae l 2).aa (ae l 3).aa (ae l 4).aa (ae l 5).aa (ae l 6).aa (ae l 7).au (ae l 7).ax (ae l 7).aC
def qI:List bX:=[.int .i64,.slice,.bool]
def fN (a:Int) (b:Oq) (c d:Nat) (e:Bool):List V:=[.int .i64 a,.slice b c d,.bool e]
def u7 (l:List V):List V:=fN (ae l 0).aa (ae l 1).au (ae l 1).ax (ae l 1).aC (ae l 2).av
@[simp] theorem f137 (a:Int) (b:Oq) (c:Nat) (d:Nat) (e:Bool):Am.aI qI (fN a b c d e)=true:=rfl
def JV (a:Oq) (b c:Nat) (d:Option Nat):List V:=[.slice a b c,.map d]
def z5 (a:Oq) (b c:Nat) (d:Oq) (e f:Nat) (g:Oq) (h i:Nat):List V:=[.slice a b c,.slice d e f,.slice g h i]
def Vv:List bX:=[.int .i64,.int .i64,.int .i64,.int .i64,.int .i64,.int .i64,.int .i64,.int .i64,.int .i64,.int .i64,.int .i64,.int .i64,.int .i64,.int .i64,.int .i64,.int .i64,.int .i64,.int .i64,.int .i64,.int .i64,.int .i64,.int .i64,.int .i64,.int .i64,.int .i64,.int .i64,.int .i64,.int .i64,.int .i64,.int .i64,.int .i64,.int .i64]
def u9 (a b c d e f g h i j l m o p q r s t u v w x y z A B C D E F G H:Int):List V:=[.int .i64 a,.int .i64 b,.int .i64 c,.int .i64 d,.int .i64 e,.int .i64 f,.int .i64 g,.int .i64 h,.int .i64 i,.int .i64 j,.int .i64 l,.int .i64 m,.int .i64 o,.int .i64 p,.int .i64 q,.int .i64 r,.int .i64 s,.int .i64 t,.int .i64 u,.int .i64 v,.int .i64 w,.int .i64 x,.int .i64 y,.int .i64 z,.int .i64 A,.int .i64 B,.int .i64 C,.int .i64 D,.int .i64 E,.int .i64 F,.int .i64 G,.int .i64 H]
def ZU (l:List V):List V:=u9 (ae l 0).aa (ae l 1).aa (ae l 2).aa (ae l 3).aa (ae l 4).aa (ae l 5).aa (ae l 6).aa (ae l 7).aa (ae l 8).aa (ae l 9).aa (ae l 10).aa (ae l 11).aa (ae l 12).aa (ae l 13).aa (ae l 14).aa (ae l 15).aa (ae l 16).aa (ae l 17).aa (ae l 18).aa (ae l 19).aa (ae l 20).aa (ae l 21).aa (ae l 22).aa (ae l 23).aa (ae l 24).aa (ae l 25).aa (ae l 26).aa (ae l 27).aa (ae l 28).aa (ae l 29).aa (ae l 30).aa (ae l 31).aa
def z6 (a:Oq) (b c:Nat) (d:Bool):List V:=[.slice a b c,.bool d]
def ZV:List bX:=[.int .u8,.int .u8,.int .u8,.int .u8,.int .u8,.int .u8]
def mR (a b c d e f:Int):List V:=[.int .u8 a,.int .u8 b,.int .u8 c,.int .u8 d,.int .u8 e,.int .u8 f]
def ZW (l:List V):List V:=mR (ae l 0).aa (ae l 1).aa (ae l 2).aa (ae l 3).aa (ae l 4).aa (ae l 5).aa
def ZX:List (TypeId×List bX):=[(46,[.int .u32,.int .u32,.int .u32,.int .u32,.int .u32,.int .u32,.int .u32,.int .u32,.int .u8,.int .i64,.int .u32,.bool]),(44,[.int .u32,.int .u32,.int .u32,.int .u32,.int .u32,.int .u32,.int .u32,.int .u32])]
theorem RY:ZX.all (fun x=>JA Tryz.prog x.1 x.2)=true:=by kernel_rfl
theorem xW:Tryz.prog.funcs.toList.all (fun fn=> !(fn.name == "runtime.NumGoroutine"))=true:=by kernel_rfl
def ZY:bO:={bj:=[7,13,15,16,21],aT:=[(7,7),(27,7),(29,7),(31,7),(13,13),(56,13),(60,13),(61,13),(15,15),(16,16),(111,16),(113,16),(21,21)],bA:=[(8,{dv:=[1,2,7,8,10,12],uE:=[7],cz:=[(2,.k (.bool)),(7,.lp 7),(8,.k (.ak)),(10,.k (.ak))],gH:=[(7,26,[.int .i64,.int .i64,.int .i64,.slice])],cG:=[0]}),(9,{dv:=[49],mg:=true,wT:=[42,43,44,45,46,47,48], }),(19,{dl:=true,wT:=[76,77], }),(24,{cz:=[(103,.k (.bool))],dl:=true,wT:=[92,93,94,95,96,97,98,99,100,101,102,103], })], }
def ZZ:bO:={bj:=[5,16,17,19],aT:=[(5,5),(32,5),(34,5),(36,5),(42,5),(44,5),(46,5),(132,5),(138,5),(16,16),(17,17),(109,17),(116,17),(125,17),(19,19),(111,19),(119,19),(127,19)],bA:=[(9,{dv:=[68],mg:=true,wT:=[63,64,65,66,67], }),(13,{dv:=[1,5,6,8,10,12,14],uE:=[5],cz:=[(5,.lp 5),(6,.k (.ak)),(8,.k (.ak)),(10,.k (.ak)),(12,.k (.ak))],gH:=[(5,26,[.int .i64,.int .i64,.int .i64,.slice])],lZ:=[(4,.k (.bool))],cG:=[0]}),(14,{dv:=[76],mg:=true,wT:=[69,70,71,72,73,74,75], }),(16,{cz:=[(15,.k (.int .i64)),(16,.lp 16)],gH:=[(16,41,[.int .u8,.int .i64,.slice,.bool,.int .u32,.int .u32,.int .u8,.bool])],dl:=true,wT:=[15,16,79,80,81,82,83,84,85,86,87,88,89,90],wL:=[16]}),(24,{dv:=[5,6,8,10,12,21],uE:=[5],cz:=[(10,.k (.ak)),(12,.k (.ak))],lZ:=[(4,.k (.bool))],cG:=[2]}),(28,{dv:=[5,6,8,10,12,21,22],uE:=[5],cz:=[(5,.lp 5),(6,.k (.ak)),(8,.k (.ak)),(10,.k (.ak)),(12,.k (.ak)),(21,.k (.int .i64))],gH:=[(5,26,[.int .i64,.int .i64,.int .i64,.slice])],lZ:=[(4,.k (.bool))],cG:=[4]})], }
def Vx:bO:={bj:=[1,7],aT:=[(1,1),(11,1),(13,1),(15,1),(7,7),(60,7)], }
def Vy:bO:={bj:=[2,3],aT:=[(2,2),(3,3),(18,3),(23,3),(28,3),(32,3)],bA:=[(2,{dv:=[21],mg:=true,wT:=[14,15,16,17,18,19,20], }),(3,{gH:=[(3,26,[.int .i64,.int .i64,.int .i64,.slice])],dl:=true,wT:=[22,23],wL:=[3]}),(5,{dv:=[31],mg:=true,wT:=[24,25,26,27,28,29,30], })], }
def Vz:bO:={bA:=[(1,{dv:=[24],mg:=true,wT:=[11,12,13,14,15,16,17,18,19,20,21,22,23], }),(6,{dv:=[0,8,30,31,32],cz:=[(8,.k (.ak))],lZ:=[(6,.k (.ak)),(7,.k (.int .i64))],cG:=[0]}),(10,{dv:=[42],mg:=true,wT:=[36,37,38,39,40,41], })], }
def VA:bO:={bj:=[4,12],aT:=[(4,4),(12,12)],bA:=[(8,{cz:=[(10,.k (.ak))],dl:=true,wT:=[10,27,28,29,30,31,32,33,34], })], }
def VB:bO:={bj:=[3,4,7,11],aT:=[(3,3),(12,3),(19,3),(24,3),(29,3),(31,3),(33,3),(37,3),(42,3),(48,3),(55,3),(59,3),(4,4),(51,4),(52,4),(7,7),(11,11),(54,11),(61,11)],bA:=[(6,{gH:=[(11,41,[.int .u8,.int .i64,.slice,.bool,.int .u32,.int .u32,.int .u8,.bool])],dl:=true,wT:=[50,51,52,53,54],wL:=[11]})], }
def VC:bO:={bj:=[2],aT:=[(2,2)], }
def VD:bO:={bj:=[5,6,9],aT:=[(5,5),(6,6),(9,9),(39,9)],bA:=[(9,{dv:=[32],mg:=true,wT:=[27,28,29,30,31], })], }
def VE:bO:={bA:=[(5,{dl:=true,wT:=[12,13,14,15,16,17], })], }
def VF:bO:={bj:=[1],aT:=[(1,1),(3,1),(9,1),(11,1),(15,1)], }
def VG:bO:={bA:=[(5,{dv:=[20],mg:=true,wT:=[21,22,23,24,25,26,27,28,29,30], })], }
def VH:bO:={}
def VI:bO:={}
def VJ:bO:={bj:=[1],aT:=[(1,1),(8,1),(14,1),(22,1)],bA:=[(3,{dv:=[1,3,4],uE:=[1],cz:=[(3,.k (.slice))],cG:=[0]}),(8,{dv:=[1,3,4,5,6],uE:=[1],cz:=[(1,.lp 1),(3,.k (.slice)),(4,.k (.int .i64)),(5,.k (.bool))],gH:=[(1,26,[.int .i64,.int .i64,.int .i64,.slice])],cG:=[2]}),(11,{dv:=[5],mg:=true,wT:=[20,21,22,23,24,25,26,27,28,29], })], }
def VK:bO:={}
def VL:bO:={bj:=[4,8],aT:=[(4,4),(105,4),(8,8),(45,8),(48,8),(96,8)],bA:=[(1,{dv:=[26],mg:=true,wT:=[21,22,23,24,25], }),(12,{dv:=[0,4,8,10,12,13,14,53,54,55],uE:=[4,8],cz:=[(10,.k (.ak)),(12,.k (.ak)),(14,.k (.int .i64))],lZ:=[(6,.k (.ak)),(7,.k (.int .i64))],cG:=[0]}),(29,{dv:=[0,4,8,10,12,13,14,16,53,54,55,90,91,92],uE:=[4,8],cz:=[(0,.k (.ak)),(4,.lp 4),(8,.lp 8),(10,.k (.ak)),(12,.k (.ak)),(13,.k (.int .u64)),(14,.k (.int .i64)),(53,.k (.slice)),(54,.k (.int .i64)),(55,.k (.int .i64))],gH:=[(4,26,[.int .i64,.int .i64,.int .i64,.slice]),(8,113,[.ak,.map,.int .u64,.slice])],cG:=[2]}),(34,{dv:=[112],mg:=true,wT:=[102,103,104,105,106,107,108,109,110,111], })], }
def VM:bO:={bj:=[0],aT:=[(0,0)], }
def VN:bO:={bj:=[7],aT:=[(7,7),(24,7)], }
def VO:bO:={bj:=[1],aT:=[(1,1)], }
def VP:bO:={bj:=[2,6],aT:=[(2,2),(6,6),(18,6),(19,6),(28,6),(29,6),(36,6),(37,6)],bA:=[(4,{dv:=[2,5,6,11],uE:=[2,6],cz:=[(2,.lp 2),(5,.k (.ak)),(6,.lp 6)],gH:=[(2,46,[.int .u32,.int .u32,.int .u32,.int .u32,.int .u32,.int .u32,.int .u32,.int .u32,.int .u8,.int .i64,.int .u32,.bool]),(6,46,[.int .u32,.int .u32,.int .u32,.int .u32,.int .u32,.int .u32,.int .u32,.int .u32,.int .u8,.int .i64,.int .u32,.bool])],cG:=[0]}),(13,{cz:=[(48,.k (.bool))],dl:=true,wT:=[41,42,43,44,45,46,47,48], })], }
def VQ:bO:={bj:=[3,6],aT:=[(3,3),(11,3),(15,3),(6,6)], }
def VS:bO:={}
def VT:bO:={bA:=[(5,{cz:=[(13,.k (.bool))],dl:=true,wT:=[13,14,15,16,17,18,19,20,21,22,23,24,25,26,27,28,29,30], })], }
def VU:bO:={bj:=[5,6,8,12],aT:=[(5,5),(36,5),(45,5),(59,5),(71,5),(73,5),(76,5),(83,5),(86,5),(6,6),(8,8),(51,8),(12,12)],bA:=[(29,{dv:=[120],mg:=true,wT:=[111,112,113,114,115,116,117,118,119], }),(32,{cz:=[(14,.k (.int .i64))],dl:=true,wT:=[14,123,124,125,126,127,128,129,130,131,132,133,134,135,136,137,138,139], })], }
def VV:bO:={bA:=[(4,{dv:=[9],mg:=true,wT:=[10,11,12,13,14,15,16,17,18,19,20], })], }
def VW:bO:={}
def VX:bO:={}
def VY:bO:={bj:=[4],aT:=[(4,4),(26,4)],bA:=[(2,{dv:=[0,10,11,12],lZ:=[(2,.k (.int .i64))],cG:=[0]})], }
def VZ:bO:={}
def V0:bO:={bj:=[3,4,8,15,21,22,25],aT:=[(3,3),(35,3),(42,3),(51,3),(4,4),(8,8),(87,8),(93,8),(106,8),(111,8),(131,8),(150,8),(158,8),(15,15),(89,15),(90,15),(21,21),(133,21),(134,21),(145,21),(146,21),(152,21),(153,21),(22,22),(142,22),(143,22),(25,25),(168,25)],bA:=[(4,{cz:=[(45,.k (.bool))],dl:=true,wT:=[29,30,31,32,33,34,35,36,37,38,39,40,41,42,43,44,45], }),(11,{dv:=[0,3,4,6,8,9,61,62,63],uE:=[3,4,8],cz:=[(3,.lp 3),(4,.lp 4),(6,.k (.ak)),(8,.lp 8),(9,.k (.map))],gH:=[(3,26,[.int .i64,.int .i64,.int .i64,.slice]),(4,113,[.ak,.map,.int .u64,.slice]),(8,113,[.ak,.map,.int .u64,.slice])],lZ:=[(4,.lp 4),(5,.k (.int .i64))],RM:=[(4,113,[.ak,.map,.int .u64,.slice])],cG:=[0]}),(21,{dv:=[0,3,4,6,8,9,61,62,63,81,82,83],uE:=[3,4,8],cz:=[(0,.k (.ak)),(3,.lp 3),(4,.lp 4),(6,.k (.ak)),(8,.lp 8),(9,.k (.map)),(61,.k (.slice)),(62,.k (.int .i64)),(63,.k (.int .i64))],gH:=[(3,26,[.int .i64,.int .i64,.int .i64,.slice]),(4,113,[.ak,.map,.int .u64,.slice]),(8,113,[.ak,.map,.int .u64,.slice])],cG:=[2]}),(29,{dv:=[3,4,6,8,9,97,98,99],uE:=[3,4,8],cz:=[(3,.lp 3),(4,.lp 4),(6,.k (.ak)),(8,.lp 8),(9,.k (.map))],gH:=[(3,26,[.int .i64,.int .i64,.int .i64,.slice]),(4,113,[.ak,.map,.int .u64,.slice]),(8,113,[.ak,.map,.int .u64,.slice])],cG:=[4]}),(39,{dv:=[4,6,8,9,116,117,118],uE:=[4,8],cz:=[(4,.lp 4),(6,.k (.ak)),(8,.lp 8)],gH:=[(4,113,[.ak,.map,.int .u64,.slice]),(8,113,[.ak,.map,.int .u64,.slice])],cG:=[6]}),(44,{dv:=[4,6,8,9,116,117,118,124,125,126],uE:=[4,8],cz:=[(4,.lp 4),(6,.k (.ak)),(8,.lp 8),(9,.k (.map)),(116,.k (.slice)),(117,.k (.int .i64)),(118,.k (.int .i64))],gH:=[(4,113,[.ak,.map,.int .u64,.slice]),(8,113,[.ak,.map,.int .u64,.slice])],cG:=[8]}),(49,{dv:=[149],mg:=true,wT:=[139,140,141,142,143,144,145,146,147,148], }),(55,{dv:=[4,6,8,160],uE:=[4,8],cz:=[(4,.lp 4),(8,.lp 8)],gH:=[(4,113,[.ak,.map,.int .u64,.slice]),(8,113,[.ak,.map,.int .u64,.slice])],cG:=[10]})], }
def V1:bO:={bA:=[(3,{dv:=[0,4,10,11,12],cz:=[(0,.k (.slice)),(4,.k (.ak))],lZ:=[(2,.k (.ak)),(3,.k (.int .i64))],cG:=[0]}),(7,{dv:=[35],mg:=true,wT:=[17,18,19,20,21,22,23,24,25,26,27,28,29,30,31,32,33,34], })], }
def V2:bO:={bj:=[1],aT:=[(1,1),(6,1),(11,1)],bA:=[(3,{dv:=[1,3,4],uE:=[1],cz:=[(3,.k (.slice))],cG:=[0]})], }
def V3:bO:={bA:=[(1,{dv:=[4],mg:=true,wT:=[5,6,7,8,9,10,11,12,13,14,15,16,17,18,19,20,21,22,23,24,25,26,27,28,29], })], }
def V4:bO:={bA:=[(5,{dv:=[22],mg:=true,wT:=[23,24,25,26,27,28], }),(8,{dv:=[29],mg:=true,wT:=[30,31,32,33,34,35], })], }
def V5:bO:={bA:=[(1,{dv:=[19],mg:=true,wT:=[5,6,7,8,9,10,11,12,13,14,15,16,17,18], })], }
def V6:bO:={bA:=[(1,{dv:=[19],mg:=true,wT:=[5,6,7,8,9,10,11,12,13,14,15,16,17,18], })], }
def V7:bO:={}
def V8:bO:={bj:=[5,7],aT:=[(5,5),(64,5),(7,7),(55,7),(60,7)],bA:=[(1,{dv:=[35],mg:=true,wT:=[11,12,13,14,15,16,17,18,19,20,21,22,23,24,25,26,27,28,29,30,31,32,33,34], }),(6,{dv:=[0,1,5,40,41,42],uE:=[5],cz:=[(5,.lp 5)],gH:=[(5,177,[.int .i64,.int .i64,.int .i64,.int .i64,.int .i64,.int .i64,.int .i64,.int .i64,.int .i64,.int .i64,.int .i64,.int .i64,.int .i64,.int .i64,.int .i64,.int .i64,.int .i64,.int .i64,.int .i64,.int .i64,.int .i64,.int .i64,.int .i64,.int .i64,.int .i64,.int .i64,.int .i64,.int .i64,.int .i64,.int .i64,.int .i64,.int .i64])],cG:=[0]}),(10,{dv:=[59],mg:=true,wT:=[47,48,49,50,51,52,53,54,55,56,57,58], }),(16,{dv:=[8,66,67],cz:=[(8,.k (.slice))],cG:=[2]})], }
def V9:bO:={}
def Wa:bO:={bj:=[4,6],aT:=[(4,4),(6,6),(28,6),(30,6)], }
def Wb:bO:={bj:=[1],aT:=[(1,1),(3,1),(8,1)], }
def Wc:bO:={}
def Wd:bO:={}
def We:bO:={bA:=[(1,{dv:=[2],mg:=true,wT:=[3,4,5,6,7,8,9,10,11,12,13,14,15,16,17,18,19], })], }
def Wf:bO:={bj:=[1],aT:=[(1,1),(7,1),(11,1),(16,1),(20,1),(26,1),(37,1),(41,1),(46,1),(51,1),(59,1),(61,1),(62,1),(68,1)],bA:=[(1,{cz:=[(25,.k (.bool))],dl:=true,wT:=[7,8,9,10,11,12,13,14,15,16,17,18,19,20,21,22,23,24,25], }),(6,{dv:=[1,3,27,28],uE:=[1],cz:=[(1,.lp 1),(3,.k (.bool))],gH:=[(1,46,[.int .u32,.int .u32,.int .u32,.int .u32,.int .u32,.int .u32,.int .u32,.int .u32,.int .u8,.int .i64,.int .u32,.bool])],cG:=[0]}),(10,{dv:=[3],mg:=true,wT:=[31,32,33,34,35], }),(12,{dv:=[6],mg:=true,wT:=[37,38,39,40,41,42,43,44,45,46,47,48,49], }),(13,{dv:=[2],mg:=true,wT:=[50,51,52,53,54,55,56,57,58,59,60,61,62,63,64,65,66,67,68,69,70,71,72,73,74], })], }
def Wg:bO:={bA:=[(1,{dv:=[2],mg:=true,wT:=[3,4,5,6,7,8,9,10,11], })], }
def Wh:bO:={}
def Wi:bO:={bj:=[4],aT:=[(4,4),(8,4),(12,4),(17,4),(28,4),(36,4),(40,4),(48,4),(52,4)],bA:=[(1,{dv:=[7],mg:=true,wT:=[8,9,10,11,12,13,14,15,16,17,18,19,20], }),(2,{dv:=[6],mg:=true,wT:=[21,22,23,24,25,26,27,28,29,30,31,32,33,34,35,36,37,38,39,40,41,42,43,44,45,46,47,48,49,50,51,52,53,54,55,56,57], })], }
def Wj:bO:={bj:=[3,5],aT:=[(3,3),(5,5),(7,5)],bA:=[(6,{cz:=[(14,.k (.bool))],dl:=true,wT:=[14,16,17], })], }
def Wk:bO:={bj:=[4,8],aT:=[(4,4),(8,8),(28,8),(31,8)], }
def Wl:bO:={bj:=[4],aT:=[(4,4),(20,4)], }
def Wm:bO:={bj:=[3,5,6,9],aT:=[(3,3),(49,3),(50,3),(77,3),(86,3),(94,3),(109,3),(119,3),(122,3),(5,5),(17,5),(22,5),(27,5),(31,5),(36,5),(42,5),(52,5),(56,5),(60,5),(67,5),(88,5),(99,5),(111,5),(6,6),(9,9)],bA:=[(1,{dv:=[25],mg:=true,wT:=[10,11,12,13,14,15,16,17,18,19,20,21,22,23,24], }),(4,{dv:=[8],mg:=true,wT:=[27,28,29,30,31,32,33,34,35,36,37,38,39], }),(5,{cz:=[(46,.k (.bool))],dl:=true,wT:=[40,41,42,43,44,45,46], }),(8,{dv:=[64],mg:=true,wT:=[48,49,50,51,52,53,54,55,56,57,58,59,60,61,62,63], }),(18,{cz:=[(92,.k (.bool))],dl:=true,wT:=[77,78,79,80,81,82,83,84,85,86,87,88,89,90,91,92], })], }
def Wn:bO:={}
def Wo:bO:={bj:=[2],aT:=[(2,2),(9,2),(20,2),(24,2),(29,2),(32,2)],bA:=[(3,{dv:=[1,2,5,10,11],uE:=[2],cz:=[(1,.k (.int .i64)),(2,.lp 2),(5,.k (.slice))],gH:=[(2,46,[.int .u32,.int .u32,.int .u32,.int .u32,.int .u32,.int .u32,.int .u32,.int .u32,.int .u8,.int .i64,.int .u32,.bool])],cG:=[0]}),(12,{cz:=[(8,.k (.int .u64))],dl:=true,wT:=[8], })], }
def Wp:bO:={bj:=[1],aT:=[(1,1),(9,1),(10,1)],bA:=[(2,{dv:=[1,3],uE:=[1],lZ:=[(2,.k (.bool))],cG:=[0]})], }
def Wq:bO:={bj:=[5],aT:=[(5,5),(17,5),(20,5)],bA:=[(5,{dv:=[3,11,12,13],cz:=[(3,.k (.slice))],cG:=[0]})], }
def Wr:bO:={bj:=[3],aT:=[(3,3),(5,3),(11,3),(18,3),(20,3)], }
def Ws:bO:={}
def Wt:bO:={bA:=[(5,{dv:=[1,5,14],cz:=[(5,.k (.int .i64))],cG:=[0]})], }
def Wu:bO:={bj:=[1],aT:=[(1,1),(5,1),(9,1),(14,1),(19,1),(24,1),(29,1),(33,1),(45,1),(50,1)],bA:=[(1,{dv:=[32],mg:=true,wT:=[5,6,7,8,9,10,11,12,13,14,15,16,17,18,19,20,21,22,23,24,25,26,27,28,29,30,31], }),(5,{dv:=[1,34,35,36],uE:=[1],cz:=[(1,.lp 1)],gH:=[(1,26,[.int .i64,.int .i64,.int .i64,.slice])],lZ:=[(2,.k (.bool))],cG:=[0]})], }
def Wv:bO:={}
def Ww:bO:={}
def Wx:bO:={bA:=[(1,{dv:=[19],mg:=true,wT:=[6,7,8,9,10,11,12,13,14,15,16,17,18], }),(4,{cz:=[(4,.k (.ak)),(5,.k (.int .i64))],dl:=true,wT:=[4,5,20,21,22,23,24,25,26,27], })], }
def Wz:bO:={bj:=[4,12],aT:=[(4,4),(22,4),(29,4),(12,12),(66,12),(71,12)],bA:=[(4,{cz:=[(39,.k (.bool))],dl:=true,wT:=[16,17,18,19,20,21,22,23,24,25,26,27,28,29,30,31,32,33,34,35,36,37,38,39], }),(9,{dv:=[0,2,4,8,42,43],uE:=[4],cz:=[(8,.k (.slice))],lZ:=[(6,.k (.slice)),(7,.k (.int .i64))],cG:=[0]}),(20,{cz:=[(76,.k (.bool))],dl:=true,wT:=[63,64,65,66,67,68,69,70,71,72,73,74,75,76], })], }
def WA:bO:={bA:=[(6,{dv:=[0,5,23,24,25],lZ:=[(4,.k (.bool))],cG:=[0]}),(11,{dv:=[46],mg:=true,wT:=[34,35,36,37,38,39,40,41,42,43,44,45], })], }
def RZ:bO:={bj:=[5],aT:=[(5,5),(23,5),(28,5),(38,5),(43,5),(67,5)],bA:=[(4,{dv:=[10],mg:=true,wT:=[11,12,13,14,15,16,17,18,19,20,21,22,23,24,25,26,27,28,29,30,31,32,33,34,35,36,37,38,39,40,41,42,43,44,45,46], })], }
def R0:bO:={}
def R1:bO:={}
def R2:bO:={bA:=[(4,{dv:=[0,11,12,13],lZ:=[(2,.k (.int .i64)),(3,.k (.bool))],cG:=[0]})], }
def R3:bO:={}
def R4:bO:={bj:=[4],aT:=[(4,4)],bA:=[(1,{dv:=[30],mg:=true,wT:=[6,7,8,9,10,11,12,13,14,15,16,17,18,19,20,21,22,23,24,25,26,27,28,29], })], }
def R5:bO:={bj:=[2,7],aT:=[(2,2),(7,7),(38,7),(39,7),(47,7),(48,7),(51,7)],bA:=[(1,{dv:=[16],mg:=true,wT:=[8,9,10,11,12,13,14,15], }),(13,{cz:=[(66,.k (.bool))],dl:=true,wT:=[52,53,54,55,56,57,58,59,60,61,62,63,64,65,66], })], }
def R6:bO:={bA:=[(3,{dv:=[3,6,7,8],cz:=[(3,.k (.int .u64))],cG:=[0]})], }
def R7:bO:={bA:=[(1,{dv:=[18],mg:=true,wT:=[6,7,8,9,10,11,12,13,14,15,16,17], })], }
def R8:bO:={bA:=[(2,{dv:=[0,5,6],lZ:=[(2,.k (.bool))],cG:=[0]})], }
def R9:bO:={bj:=[3],aT:=[(3,3),(13,3),(21,3),(36,3),(37,3),(42,3),(43,3)],bA:=[(1,{dv:=[12],mg:=true,wT:=[7,8,9,10,11], }),(4,{cz:=[(20,.k (.bool))],dl:=true,wT:=[13,14,15,16,17,18,19,20], }),(15,{cz:=[(29,.k (.bool))],dl:=true,wT:=[29,31], }),(18,{dv:=[6],mg:=true,wT:=[32,33,34,35,36,37,38,39,40], })], }
def Sa:bO:={}
def Sb:bO:={bj:=[3],aT:=[(3,3),(11,3),(15,3),(20,3),(24,3),(27,3),(28,3),(30,3),(33,3)],bA:=[(4,{dv:=[10],mg:=true,wT:=[11,12,13,14,15,16,17,18], }),(12,{gH:=[(3,138,[.int .i64,.slice,.bool])],dl:=true,wT:=[30],wL:=[3]}),(21,{dl:=true,wT:=[38,39,40,41,42,43,44,45,46,47,48], })], }
def Sc:bO:={bj:=[3,5,6],aT:=[(3,3),(7,3),(10,3),(13,3),(23,3),(24,3),(5,5),(11,5),(14,5),(21,5),(6,6)], }
def Sd:bO:={bj:=[2],aT:=[(2,2),(12,2),(16,2),(21,2),(26,2),(27,2)],bA:=[(1,{dv:=[15],mg:=true,wT:=[5,6,7,8,9,10,11,12,13,14], })], }
def Se:bO:={bj:=[3,6],aT:=[(3,3),(9,3),(10,3),(13,3),(6,6)], }
def Sf:bO:={bj:=[1,2],aT:=[(1,1),(3,1),(4,1),(2,2)], }
def Sg:bO:={bj:=[3,5,6,10],aT:=[(3,3),(17,3),(30,3),(31,3),(35,3),(40,3),(47,3),(73,3),(5,5),(13,5),(23,5),(27,5),(62,5),(66,5),(97,5),(6,6),(10,10),(79,10),(80,10),(89,10),(92,10)],bA:=[(1,{cz:=[(21,.k (.bool))],dl:=true,wT:=[13,14,15,16,17,18,19,20,21], }),(5,{dv:=[9],mg:=true,wT:=[23,24,25,26,27,28,29,30,31,32,33,34,35,36,37,38,39,40,41,42,43,44,45], }),(8,{dv:=[1,3,5,6,8,9,10,48,49],uE:=[3,5,6,10],cz:=[(1,.k (.int .i64)),(3,.lp 3),(5,.lp 5),(6,.lp 6),(8,.k (.bool)),(9,.k (.bool)),(10,.lp 10)],gH:=[(3,46,[.int .u32,.int .u32,.int .u32,.int .u32,.int .u32,.int .u32,.int .u32,.int .u32,.int .u8,.int .i64,.int .u32,.bool]),(5,41,[.int .u8,.int .i64,.slice,.bool,.int .u32,.int .u32,.int .u8,.bool]),(6,46,[.int .u32,.int .u32,.int .u32,.int .u32,.int .u32,.int .u32,.int .u32,.int .u32,.int .u8,.int .i64,.int .u32,.bool]),(10,46,[.int .u32,.int .u32,.int .u32,.int .u32,.int .u32,.int .u32,.int .u32,.int .u32,.int .u8,.int .i64,.int .u32,.bool])],cG:=[0]}),(12,{dv:=[70],mg:=true,wT:=[53,54,55,56,57,58,59,60,61,62,63,64,65,66,67,68,69], }),(15,{dv:=[9],mg:=true,wT:=[71,72,73,74,75,76,77], }),(18,{dv:=[87],mg:=true,wT:=[82,83,84,85,86], })], }
def Si:bO:={bj:=[3],aT:=[(3,3)],bA:=[(1,{dv:=[0,3],uE:=[3],lZ:=[(4,.k (.int .i64))], })], }
def Sj:bO:={bA:=[(2,{dv:=[0,1,8,9],cz:=[(0,.k (.slice))],cG:=[0]})], }
def Sk:bO:={bj:=[6],aT:=[(6,6)], }
def Sl:bO:={}
def Sm:bO:={}
def Sn:bO:={bj:=[2],aT:=[(2,2),(4,2),(5,2),(12,2),(13,2),(21,2),(22,2),(30,2),(31,2)], }
def So:bO:={bA:=[(4,{dv:=[8],mg:=true,wT:=[9,10,11,12,13,14,15,16,17,18,19], }),(8,{dl:=true,wT:=[27,28,29,30,31,32,33,34,35,36,37,38,39,40,41,42], })], }
def Sp:bO:={bA:=[(2,{dv:=[0,1,7,8],lZ:=[(4,.k (.int .i64))],cG:=[0]})], }
def Sq:bO:={bA:=[(3,{dl:=true,wT:=[18,19,20,21,22,23,24,25,26,27,28,29,30,31,32], })], }
def Ss:bO:={bA:=[(0,{dl:=true,wT:=[1,2,3,4,5,6], })], }
def Su:bO:={}
def Sv:bO:={}
def Sw:bO:={bA:=[(1,{dv:=[2],mg:=true,wT:=[3,4,5,6,7,8,9,10], })], }
def Sx:bO:={bj:=[1],aT:=[(1,1),(3,1),(7,1),(12,1),(17,1),(22,1),(27,1),(32,1),(37,1),(42,1),(48,1),(52,1)],bA:=[(1,{dv:=[2],mg:=true,wT:=[3,4,5,6,7,8,9,10,11,12,13,14,15,16,17,18,19,20,21,22,23,24,25,26,27,28,29,30,31,32,33,34,35,36,37,38,39,40,41,42,43,44,45,46,47,48,49,50,51,52,53,54,55,56,57], })], }
def Sy:bO:={bj:=[1],aT:=[(1,1),(4,1),(9,1),(12,1),(16,1),(20,1),(26,1)], }
def Sz:bO:={bj:=[0],aT:=[(0,0)], }
def SA:bO:={bA:=[(3,{dv:=[0,1,2,8,9,10],cz:=[(0,.k (.slice)),(1,.k (.int .i64)),(2,.k (.func)),(8,.k (.int .i64)),(9,.k (.int .i64))],cG:=[0]})], }
def SB:bO:={bj:=[2],aT:=[(2,2),(5,2)], }
def SC:bO:={}
def SD:bO:={bj:=[2,4],aT:=[(2,2),(6,2),(7,2),(8,2),(13,2),(4,4)],bA:=[(2,{dv:=[17],mg:=true,wT:=[8,9,10,11,12,13,14,15,16], })], }
def SE:bO:={bA:=[(1,{dv:=[2],mg:=true,wT:=[3,4,5,6,7,8], })], }
def SF:bO:={bA:=[(1,{dv:=[0],lZ:=[(2,.k (.int .i64)),(3,.k (.int .i64))], }),(3,{cz:=[(30,.k (.bool))],dl:=true,wT:=[16,17,18,19,20,21,22,23,24,25,26,27,28,29,30], }),(7,{dl:=true,wT:=[33,34,35,36,37,38], }),(13,{cz:=[(62,.k (.bool))],dl:=true,wT:=[51,52,53,54,55,56,57,58,59,60,61,62], })], }
def SG:bO:={bj:=[5,7],aT:=[(5,5),(24,5),(25,5),(66,5),(7,7),(39,7)],bA:=[(4,{cz:=[(8,.k (.int .i64))],dl:=true,wT:=[8,34,35,36,37,38,39,40,41,42,43,44,45,46,47], }),(5,{dv:=[53],mg:=true,wT:=[48,49,50,51,52], })], }
def SH:bO:={bA:=[(2,{dv:=[0,1,7,8],lZ:=[(4,.k (.int .i64))],cG:=[0]})], }
def SI:bO:={bA:=[(3,{dv:=[3,6,7,8],cz:=[(3,.k (.int .u32))],cG:=[0]}),(9,{dv:=[3,6,7,8,16],cz:=[(3,.k (.int .u32)),(6,.k (.slice)),(7,.k (.int .i64)),(8,.k (.int .i64))],cG:=[2]})], }
def SJ:bO:={}
def SK:bO:={}
def SL:bO:={}
def SM:bO:={bj:=[2],aT:=[(2,2),(5,2)], }
def SN:bO:={bA:=[(1,{cz:=[(2,.k (.int .i64)),(3,.k (.bool))],dl:=true,wT:=[2,3,4,5,6,7,8,9,10,11,12,13,14,15,16,17], })], }
def SO:bO:={bj:=[7],aT:=[(7,7),(83,7)],bA:=[(1,{cz:=[(3,.k (.int .i64)),(4,.k (.bool))],dl:=true,wT:=[3,4,10,11,12,13,14,15,16,17,18,19,20,21,22,23,24], }),(9,{cz:=[(57,.k (.bool))],dl:=true,wT:=[42,43,44,45,46,47,48,49,50,51,52,53,54,55,56,57], }),(12,{dv:=[0,3,5],cz:=[(0,.k (.ak)),(3,.k (.int .i64)),(5,.k (.int .i64))],lZ:=[(2,.k (.int .i64))],cG:=[0]})], }
def SP:bO:={bj:=[11,13],aT:=[(11,11),(13,13)],bA:=[(5,{dv:=[26],mg:=true,wT:=[27,28,29,30,31,32,33,34,35,36], }),(11,{dv:=[41],mg:=true,wT:=[42,43,44,45,46,47,48,49,50,51,52,53,54], }),(25,{dl:=true,wT:=[79,80,81,82,83,84,85,86,87,88,89,90,91,92], }),(27,{dl:=true,wT:=[93,94,95,96,97,98,99,100,101,102], })], }
def SQ:bO:={}
def SS:bO:={bA:=[(6,{dv:=[0,1,2,8,9,17,18,19],cz:=[(8,.k (.int .i64)),(9,.k (.bool))],cG:=[0]}),(10,{dv:=[36],mg:=true,wT:=[23,24,25,26,27,28,29,30,31,32,33,34,35], }),(12,{dv:=[49],mg:=true,wT:=[37,38,39,40,41,42,43,44,45,46,47,48], })], }
def SU:bO:={bA:=[(3,{dv:=[1,5,11,12],cz:=[(5,.k (.slice))],cG:=[0]})], }
def SV:bO:={bA:=[(1,{dv:=[19],mg:=true,wT:=[5,6,7,8,9,10,11,12,13,14,15,16,17,18], })], }
def SW:bO:={}
def SX:bO:={bA:=[(1,{dv:=[0,2,3],cG:=[0]})], }
def SY:bO:={bA:=[(2,{dl:=true,wT:=[11], }),(5,{dv:=[26],mg:=true,wT:=[21,22,23,24,25], }),(6,{dl:=true,wT:=[27], }),(10,{dv:=[7,8],cz:=[(7,.k (.slice))],cG:=[0]})], }
def SZ:bO:={}
def S3:bO:={}
theorem WB:ZP Tryz.prog 146 .overlaps:=⟨Tryz.f146,89,4,138,Tryz.func146,by kernel_rfl,by kernel_rfl,by kernel_rfl,by kernel_rfl,by kernel_rfl,by kernel_rfl⟩
def S4:List (Nat×XK):=[(146,.overlaps)]
theorem Pe:∀g k,Am.ab S4 g=some k→ZP Tryz.prog g k:=by
 intro g k hg;simp only[S4,ik,kU] at hg;split at hg
 ·rename_i he;subst he;cases hg;exact WB
 cases hg
def Z0:List (Nat×bO):=[(3,ZY),(5,ZZ),(10,Vx),(11,Vy),(12,Vz),(13,VA),(14,VB),(15,VC),(16,VD),(17,VE),(18,VF),(23,VG),(24,VH),(25,VI),(27,VJ),(36,VK),(37,VL),(38,VM),(39,VN),(40,VO),(41,VP),(42,VQ),(43,VS),(44,VT),(45,VU),(51,VV),(52,VW),(53,VX),(54,VY),(58,VZ),(59,V0),(60,V1),(61,V2),(62,V3),(63,V4),(64,V5),(65,V6),(66,V7),(67,V8),(68,V9),(69,Wa),(70,Wb),(71,Wc),(72,Wd),(73,We),(74,Wf),(75,Wg),(76,Wh),(77,Wi),(78,Wj),(79,Wk),(80,Wl),(81,Wm),(82,Wn),(83,Wo),(86,Wp),(90,Wq),(91,Wr),(92,Ws),(93,Wt),(94,Wu),(95,Wv),(96,Ww),(97,Wx),(98,Wz),(99,WA),(100,RZ),(101,R0),(102,R1),(103,R2),(104,R3),(105,R4),(106,R5),(107,R6),(108,R7),(109,R8),(110,R9),(111,Sa),(112,Sb),(113,Sc),(114,Sd),(115,Se),(116,Sf),(117,Sg),(118,Si),(119,Sj),(120,Sk),(121,Sl),(122,Sm),(123,Sn),(124,So),(125,Sp),(126,Sq),(127,Ss),(129,Su),(130,Sv),(131,Sw),(132,Sx),(133,Sy),(134,Sz),(135,SA),(136,SB),(137,SC),(138,SD),(139,SE),(140,SF),(141,SG),(142,SH),(143,SI),(144,SJ),(145,SK),(147,SL),(148,SM),(149,SN),(150,SO),(151,SP),(152,SQ),(153,SS),(154,SU),(155,SV),(157,SW),(158,SX),(159,SY),(160,SZ),(162,S3)]
theorem ti_ok (t:Nat) (x:TI) (h:Y9[t]? =some x):OS Tryz.prog t=some x:=by
 have h1:t<240:=by
  have h2:Y9.length=240:=by kernel_rfl
  have:=(List.getElem?_eq_some_iff.1 h).1;omega
 have h3:=congrArg (fun l=>l[t]?) RT;simp only[List.getElem?_map,h,List.getElem?_range h1,Option.map_some,Option.some.injEq] at h3;exact h3
theorem eq_ok (t:Nat) (ks:List bX) (h:Am.ab ZX t=some ks):JA Tryz.prog t ks=true:=by
 have key:∀l:List (TypeId×List bX),l.all (fun x=>JA Tryz.prog x.1 x.2)=true→Am.ab l t=some ks→JA Tryz.prog t ks=true:=by
  intro l
  induction l with
  |nil=>intro _ h;cases h
  |cons p l ih=>
   intro h1 h2;rw[List.all_cons,Bool.and_eq_true] at h1;simp only[Am.ab,aP] at h2;by_cases he:t=p.1
   ·simp only[he,decide_true,cond_true,Option.some.injEq] at h2;rw[he, ←h2];exact h1.1
   ·simp only[he,decide_false,cond_false] at h2;exact ih h1.2 h2
 exact key _ RY h
noncomputable def Zd:List (Nat×Func):=[(3,Tryz.f3),(5,Tryz.f5),(10,Tryz.f10),(11,Tryz.f11),(12,Tryz.f12),(13,Tryz.f13),(14,Tryz.f14),(15,Tryz.f15),(16,Tryz.f16),(17,Tryz.f17),(18,Tryz.f18),(23,Tryz.f23),(24,Tryz.f24),(25,Tryz.f25),(27,Tryz.f27),(36,Tryz.f36),(37,Tryz.f37),(38,Tryz.f38),(39,Tryz.f39),(40,Tryz.f40),(41,Tryz.f41),(42,Tryz.f42),(43,Tryz.f43),(44,Tryz.f44),(45,Tryz.f45),(51,Tryz.f51),(52,Tryz.f52),(53,Tryz.f53),(54,Tryz.f54),(58,Tryz.f58),(59,Tryz.f59),(60,Tryz.f60),(61,Tryz.f61),(62,Tryz.f62),(63,Tryz.f63),(64,Tryz.f64),(65,Tryz.f65),(66,Tryz.f66),(67,Tryz.f67),(68,Tryz.f68),(69,Tryz.f69),(70,Tryz.f70),(71,Tryz.f71),(72,Tryz.f72),(73,Tryz.f73),(74,Tryz.f74),(75,Tryz.f75),(76,Tryz.f76),(77,Tryz.f77),(78,Tryz.f78),(79,Tryz.f79),(80,Tryz.f80),(81,Tryz.f81),(82,Tryz.f82),(83,Tryz.f83),(86,Tryz.f86),(90,Tryz.f90),(91,Tryz.f91),(92,Tryz.f92),(93,Tryz.f93),(94,Tryz.f94),(95,Tryz.f95),(96,Tryz.f96),(97,Tryz.f97),(98,Tryz.f98),(99,Tryz.f99),(100,Tryz.f100),(101,Tryz.f101),(102,Tryz.f102),(103,Tryz.f103),(104,Tryz.f104),(105,Tryz.f105),(106,Tryz.f106),(107,Tryz.f107),(108,Tryz.f108),(109,Tryz.f109),(110,Tryz.f110),(111,Tryz.f111),(112,Tryz.f112),(113,Tryz.f113),(114,Tryz.f114),(115,Tryz.f115),(116,Tryz.f116),(117,Tryz.f117),(118,Tryz.f118),(119,Tryz.f119),(120,Tryz.f120),(121,Tryz.f121),(122,Tryz.f122),(123,Tryz.f123),(124,Tryz.f124),(125,Tryz.f125),(126,Tryz.f126),(127,Tryz.f127),(129,Tryz.f129),(130,Tryz.f130),(131,Tryz.f131),(132,Tryz.f132),(133,Tryz.f133),(134,Tryz.f134),(135,Tryz.f135),(136,Tryz.f136),(137,Tryz.f137),(138,Tryz.f138),(139,Tryz.f139),(140,Tryz.f140),(141,Tryz.f141),(142,Tryz.f142),(143,Tryz.f143),(144,Tryz.f144),(145,Tryz.f145),(147,Tryz.f147),(148,Tryz.f148),(149,Tryz.f149),(150,Tryz.f150),(151,Tryz.f151),(152,Tryz.f152),(153,Tryz.f153),(154,Tryz.f154),(155,Tryz.f155),(157,Tryz.f157),(158,Tryz.f158),(159,Tryz.f159),(160,Tryz.f160),(162,Tryz.f162)]
theorem S5:Zd.map (fun x=>Tryz.prog.funcs[x.1]?)=Zd.map (fun x=>some x.2):=by kernel_rfl
theorem fn_ok (f:Nat) (x:Func) (h:Am.ab Zd f=some x):Tryz.prog.funcs[f]? =some x:=by
 have key:∀l:List (Nat×Func),l.map (fun x=>Tryz.prog.funcs[x.1]?)=l.map (fun x=>some x.2)→Am.ab l f=some x→Tryz.prog.funcs[f]? =some x:=by
  intro l
  induction l with
  |nil=>intro _ h;cases h
  |cons p l ih=>
   intro h1 h2;simp only[List.map_cons,List.cons.injEq] at h1;simp only[Am.ab,aP] at h2;by_cases he:f=p.1
   ·simp only[he,decide_true,cond_true,Option.some.injEq] at h2;rw[he, ←h2];exact h1.1
   ·simp only[he,decide_false,cond_false] at h2;exact ih h1.2 h2
 exact key _ S5 h
noncomputable def ej:jR where
 P:=Tryz.prog
 ext:=GN Tryz.prog S4
 fn:=fun f=>Am.ab Zd f
 fn_ok:=fn_ok
 ti:=fun t=>Y9[t]?
 ti_ok:=ti_ok
 ann:=fun f=>(Am.ab Z0 f).getD {}
 eqt:=ZX
 eq_ok:=eq_ok
 names:=xW
noncomputable def cl:=lG.call (qO ej)
noncomputable def lo (f:FuncId) (n:Nat):=lG.loop (qO ej) (LZ ej f n) f n
theorem qc {f:FuncId} {aS:List V} {H:Am.ag} {K:V→Am.ag→Prop} {Q:Prop} (h:((F ej (qO ej)).call f aS H K)=Q:=by kernel_rfl):cl f aS H K=Q:=LG.trans h
theorem ql {f:FuncId} {n:Nat} {S:Am.St} {Kr:Am.St→Prop} {Ke:Nat→Am.St→Prop} {Q:Prop} (h:((F ej (qO ej)).loop (LZ ej f n) f n S Kr Ke)=Q:=by kernel_rfl):lo f n S Kr Ke=Q:=LH.trans h
theorem WC:Tryz.prog.follows .mixedOrders=true:=by kernel_rfl
theorem WD:jE ej:=JT rfl Pe
end Go.Proofs.YtlgdkndamddpkaaGreat
end
section
namespace Go.Am
def ag.ok (H:ag):Prop:=∀id o,H.get id=some o→id<H.next
theorem ag.va (H:ag) (o:Obj):(H.alloc o).get H.next=some o:=by simp [ag.alloc]
theorem ag.fD {H:ag} {o:Obj} {id:Nat} (h:id≠H.next):(H.alloc o).get id=H.get id:=by simp [ag.alloc,h]
theorem ag.HS (H:ag) (id:Nat) (o:Obj):(H.put id o).get id=some o:=by simp [ag.put]
theorem ag.kY {H:ag} {id j:Nat} {o:Obj} (h:j≠id):(H.put id o).get j=H.get j:=by simp [ag.put,h]
theorem ag.GR (H:ag) (o:Obj):(H.alloc o).next=H.next+1:=rfl
theorem ag.Mf (H:ag) (id:Nat) (o:Obj):(H.put id o).next=H.next:=rfl
theorem ag.ym {H:ag} {id off:Nat} {vs:List V} {e:TypeId} {l:List V} {ro:Bool} (h:H.get id=some (.cells e l ro)):H.store id off vs=H.put id (.cells e (bL l off vs) ro):=by simp [ag.store,h]
theorem ag.ok.alloc {H:ag} (h:H.ok) (o:Obj):(H.alloc o).ok:=by
 intro id o' hg;rw[ag.GR];by_cases he:id=H.next
 ·omega
 ·rw[ag.fD he] at hg;have:=h id o' hg;omega
theorem ag.ok.put {H:ag} (h:H.ok) {id:Nat} {o o':Obj} (hg:H.get id=some o):(H.put id o').ok:=by
 intro j o2 hj;rw[ag.Mf];by_cases he:j=id
 ·subst he;exact h _ _ hg
 ·rw[ag.kY he] at hj;exact h _ _ hj
def Rd (H:ag) (q:Oq) (cs:List V):Prop:=
 cs=[]∨∃id off e l ro,q=some (id,off)∧H.get id=some (.cells e l ro)∧(l.drop off).take cs.length=cs
theorem Rd.nil (H:ag) (q:Oq):Rd H q []:=.inl rfl
theorem Ez {l cs:List V} {off:Nat} (h:(l.drop off).take cs.length=cs) (h0:cs≠[]):off+cs.length≤l.length:=by
 have:=congrArg List.length h;simp at this;have:0<cs.length:=List.length_pos_iff.2 h0;omega
theorem EA {l cs:List V} {off i k:Nat} (h:(l.drop off).take cs.length=cs) (hi:i+k≤cs.length):(l.drop (off+i)).take k=(cs.drop i).take k:=by
 rw[←h];rw[List.drop_take,List.take_take,List.drop_drop];congr 1;omega
section
variable {H:ag} {q:Oq} {cs:List V}
theorem Rd.some (h:Rd H q cs) (h0:cs≠[]):q.isSome=true:=by
 rcases h with h|⟨id,off,e,l,ro,rfl,_⟩
 ·exact absurd h h0
 ·rfl
theorem Rd.inb (h:Rd H q cs) {i k:Nat} (hi:i+k≤cs.length) (h0:cs≠[]):H.inb (q.getD (0,0)).1 ((q.getD (0,0)).2+i) k=true:=by
 rcases h with h|⟨id,off,e,l,ro,rfl,hg,ht⟩
 ·exact absurd h h0
 ·have:=Ez ht h0;simp [ag.inb,hg];omega
theorem Rd.sub (h:Rd H q cs) {i k:Nat} (hi:i+k≤cs.length) (h0:cs≠[]):H.sub (q.getD (0,0)).1 ((q.getD (0,0)).2+i) k=(cs.drop i).take k:=by
 rcases h with h|⟨id,off,e,l,ro,rfl,hg,ht⟩
 ·exact absurd h h0
 ·simp only[ag.sub,ag.cs,Option.getD_some,hg];exact EA ht hi
theorem ko:∀(l:List V) (i:Nat),ae l i=l.getD i .none
 |[],i=>by simp [ae]
 |x::l,0=>rfl
 |x::l,i+1=>by rw[ae,ko l i];simp
theorem Rd.cell (h:Rd H q cs) {i:Nat} (hi:i<cs.length):H.cell (q.getD (0,0)).1 ((q.getD (0,0)).2+i)=ae cs i:=by
 rcases h with h|⟨id,off,e,l,ro,rfl,hg,ht⟩
 ·rw[h] at hi;cases hi
 ·simp only[ag.cell,ag.cs,Option.getD_some,hg,ko];have:=congrArg (fun m=>m.getD i V.none) ht;simp only[List.getD_eq_getElem?_getD,List.getElem?_take,List.getElem?_drop,if_pos hi] at this⊢;exact this
theorem Rd.Mg (h:Rd H q cs) {k:Nat} (hi:k≤cs.length) (h0:cs≠[]):H.inb (q.getD (0,0)).1 (q.getD (0,0)).2 k=true:=by
 simpa using h.inb (i:=0) (k:=k) (by omega) h0
theorem Rd.Z1 (h:Rd H q cs) {k:Nat} (hi:k≤cs.length) (h0:cs≠[]):H.sub (q.getD (0,0)).1 (q.getD (0,0)).2 k=cs.take k:=by
 simpa using h.sub (i:=0) (k:=k) (by omega) h0
theorem Rd.all (h:Rd H q cs) (h0:cs≠[]):H.sub (q.getD (0,0)).1 (q.getD (0,0)).2 cs.length=cs:=by
 rw[h.Z1 (Nat.le_refl _) h0,List.take_length]
theorem Rd.part (h:Rd H q cs) {id off:Nat} (hq:q=Option.some (id,off)) (i k:Nat) (hi:i+k≤cs.length):Rd H (Option.some (id,off+i)) ((cs.drop i).take k):=by
 by_cases h0:(cs.drop i).take k=[]
 ·exact .inl h0
 ·rcases h with h|⟨id',off',e,l,ro,he,hg,ht⟩
  ·rw[h] at h0;simp at h0
  ·rw[hq] at he;cases he;refine .inr ⟨id,off+i,e,l,ro,rfl,hg, ?_⟩;have hl:((cs.drop i).take k).length=k:=by simp;omega
   rw[hl];exact EA ht hi
structure Fr (H H':ag) (W:Nat→Prop):Prop where
 next:H.next≤H'.next
 wA:∀id,id<H.next→¬W id→H'.get id=H.get id
theorem Fr.alloc (H:ag) (o:Obj) (W:Nat→Prop):Fr H (H.alloc o) W:=
 ⟨Nat.le_succ _,fun id hid _=>ag.fD (by omega)⟩
theorem Fr.get {H H':ag} {W:Nat→Prop} (h:Fr H H' W) {id:Nat} {o:Obj} (hok:H.ok) (hg:H.get id=Option.some o) (hw:¬W id):H'.get id=Option.some o:=by
 rw[h.wA id (hok id o hg) hw,hg]
def QO (q:Oq) (W:Nat→Prop):Prop:=∀id off,q=Option.some (id,off)→¬W id
theorem Rd.fr {H':ag} {W:Nat→Prop} (h:Rd H q cs) (hok:H.ok) (hf:Fr H H' W) (ha:QO q W):Rd H' q cs:=by
 rcases h with h|⟨id,off,e,l,ro,rfl,hg,ht⟩
 ·exact .inl h
 ·exact .inr ⟨id,off,e,l,ro,rfl,hf.get hok hg (ha id off rfl),ht⟩
structure UO (H:ag) (el n:Nat) (q:Oq) (len cap:Nat) (cs:List V):Prop where
 size:cs.length=len*n
 one:aY cs
 le:len≤cap
 mem:(q=none∧cap=0)∨∃id off l,q=Option.some (id,off)∧H.get id=Option.some (.cells el l false)∧off+cap*n≤l.length∧(l.drop off).take cs.length=cs
theorem UO.rd {el n len cap:Nat} (h:UO H el n q len cap cs):Rd H q cs:=by
 rcases h.mem with⟨rfl,hc⟩|⟨id,off,l,rfl,hg,_,ht⟩
 ·left;have:=h.le;have h1:len=0:=by omega
  have:=h.size;rw[h1,Nat.zero_mul] at this;exact List.length_eq_zero_iff.1 this
 ·exact .inr ⟨id,off,el,l,false,rfl,hg,ht⟩
theorem UO.fr {H':ag} {W:Nat→Prop} {el n len cap:Nat} (h:UO H el n q len cap cs) (hok:H.ok) (hf:Fr H H' W) (ha:QO q W):UO H' el n q len cap cs:=by
 refine⟨h.size,h.one,h.le, ?_⟩;rcases h.mem with hn|⟨id,off,l,rfl,hg,h1,ht⟩
 ·exact .inl hn
 ·exact .inr ⟨id,off,l,rfl,hf.get hok hg (ha id off rfl),h1,ht⟩
theorem HT:∀(l:List V) (j n:Nat) (v:V),xh l j n v=l.mapIdx fun i x=>if j+i=n then v else x
 |[],_,_,_=>rfl
 |x::l,j,n,v=>by
  rw[xh,HT l (j+1) n v,List.mapIdx_cons,mB,aP];congr 1
  ·by_cases h:j=n<;>simp [h]
  ·congr 1;funext i x;have:j+1+i=j+(i+1):=by omega
   rw[this]
theorem EB (l:List V) (n:Nat) (v:V):xh l 0 n v=l.set n v:=by
 rw[HT];apply List.ext_getElem?;intro i;simp only[List.getElem?_mapIdx,List.getElem?_set,Nat.zero_add];by_cases h:n=i
 ·subst h;by_cases hl:n<l.length
  ·simp [hl]
  ·simp [hl]
 ·have:¬i=n:=fun e=>h e.symm
  simp [h,this]
theorem fE:∀(vs l:List V) (off:Nat),off+vs.length≤l.length→bL l off vs=l.take off++(vs++l.drop (off+vs.length))
 |[],l,off,h=>by simp [bL]
 |v::vs,l,off,h=>by
  simp only[List.length_cons] at h;rw[bL,EB,fE vs _ (off+1) (by simp;omega)];apply List.ext_getElem?;intro i;simp only[List.getElem?_append,List.getElem?_take,List.getElem?_drop,List.getElem?_set,List.length_take,List.length_set,List.length_cons,List.cons_append,List.getElem?_cons]
  grind
theorem Pf {l cs src:List V} {off:Nat} (ht:(l.drop off).take cs.length=cs) (hl:off+cs.length+src.length≤l.length):((bL l (off+cs.length) src).drop off).take (cs++src).length=cs++src:=by
 rw[fE _ _ _ hl];have e:l.take (off+cs.length)=l.take off++cs:=by rw[List.take_add,ht]
 rw[e,List.append_assoc,List.drop_left' (by simp;omega), ←List.append_assoc,List.take_left' rfl]
theorem gq:∀(vs l:List V) (off:Nat),(bL l off vs).length=l.length
 |[],l,off=>rfl
 |v::vs,l,off=>by rw[bL,gq vs,EB,List.length_set]
theorem qp {l:List V} (h:aY l):uL l=true:=rO.2 h
def S6 (H:ag) (n:Nat) (x:V) (m:Nat) (src:List V):Prop:=
 src.length=m*n∧aY src∧((∃q c,x=.slice q m c∧Rd H q src)∨∃s,x=.dS s∧m=s.size∧n=1∧src=eI s)
theorem EC {n m:Nat} {x:V} {src:List V} (h:S6 H n x m src) (hn:0<n):∃ok cf,kH H n x=Option.some (m,ok,cf)∧ok m=true∧cf m=src:=by
 obtain⟨hl,h1,⟨q,c,rfl,hr⟩|⟨s,rfl,rfl,rfl,rfl⟩⟩:=h
 ·refine⟨_,_,rfl, ?_, ?_⟩
  ·by_cases h0:m=0
   ·subst h0;rfl
   ·have hne:src≠[]:=by
     intro e;rw[e] at hl;have:=Nat.mul_pos (Nat.pos_of_ne_zero h0) hn;simp at hl;omega
    simp only[oN,Bool.or_eq_true,Bool.and_eq_true];exact .inr ⟨hr.some hne,hr.Mg (by omega) hne,qp (by rw[←hl,hr.all hne];exact h1)⟩
  ·by_cases h0:m=0
   ·subst h0;simp at hl;subst hl;rfl
   ·have hz:Nat.beq m 0=false:=by simp [h0]
    have hne:src≠[]:=by
     intro e;rw[e] at hl;have:=Nat.mul_pos (Nat.pos_of_ne_zero h0) hn;simp at hl;omega
    simp only[hz,cond_false];rw[←hl,hr.all hne]
 ·refine⟨_,_,rfl,rfl, ?_⟩;exact List.take_of_length_le (by rw[hl];omega)
end
abbrev Hp:=Nat→Option Obj
abbrev bV:=Hp→Prop
def di (id:Nat) (e:TypeId) (cs:List V):bV:=fun h=>h=fun j=>if j=id then some (.cells e cs false) else none
def kZ (h1 h2 h:Hp):Prop:=∀i,(h1 i=none∧h i=h2 i)∨(h2 i=none∧h i=h1 i)
def yn:List bV→bV
 |[]=>fun h=>h=fun _=>none
 |A::L=>fun h=>∃h1 h2,kZ h1 h2 h∧A h1∧yn L h2
def mS (A B:bV):bV:=fun h=>∃h1 h2,kZ h1 h2 h∧A h1∧B h2
def emp:bV:=fun h=>h=fun _=>none
def HU (p:Prop):bV:=fun h=>p∧h=fun _=>none
def JW {α:Type} (A:α→bV):bV:=fun h=>∃x,A x h
theorem kZ.symm {a b c:Hp} (h:kZ a b c):kZ b a c:=fun i=>(h i).symm
theorem kZ.empty (a:Hp):kZ (fun _=>none) a a:=fun i=>.inl ⟨rfl,rfl⟩
theorem kZ.swap {a b c bc abc:Hp} (h1:kZ b c bc) (h2:kZ a bc abc):∃ac,kZ a c ac∧kZ b ac abc:=by
 refine⟨fun i=>match a i with|some o=>some o|none=>c i,fun i=> ?_,fun i=> ?_⟩
 ·rcases h1 i with⟨e1,e2⟩|⟨e1,e2⟩<;>rcases h2 i with⟨e3,e4⟩|⟨e3,e4⟩
  ·simp [e3]
  ·rw[e2] at e3;right;refine⟨e3, ?_⟩;cases h:a i<;>simp [e3,h]
  ·simp [e3,e1]
  ·right;refine⟨e1, ?_⟩;cases h:a i<;>simp [e1,h]
 ·rcases h1 i with⟨e1,e2⟩|⟨e1,e2⟩<;>rcases h2 i with⟨e3,e4⟩|⟨e3,e4⟩
  ·left;simp [e1,e3,e4,e2]
  ·left;refine⟨e1, ?_⟩;rw[e2] at e3;cases h:a i<;>simp [e3,e4,h]
  ·right;simp [e1,e3,e4,e2]
  ·left;rw[e2] at e3;refine⟨e3, ?_⟩;cases h:a i<;>simp [e1,e4,h]
theorem kZ.S7 {a b c:Hp} (h:kZ a b c) {i:Nat} {o:Obj} (ha:a i=some o):c i=some o:=by
 rcases h i with⟨e,_⟩|⟨_,e⟩
 ·rw[ha] at e;cases e
 ·rw[e,ha]
theorem kZ.S8 {a b c:Hp} (h:kZ a b c) {i:Nat} {o:Obj} (hb:b i=some o):c i=some o:=h.symm.S7 hb
theorem JX {A B:bV} {L:List bV} {h:Hp} (hs:yn (A::B::L) h):yn (B::A::L) h:=by
 obtain⟨h1,h2,j1,a,h3,h4,j2,b,l⟩:=hs;obtain⟨ac,k1,k2⟩:=kZ.swap j2 j1;exact⟨h3,ac,k2,b,h1,h4,k1,a,l⟩
theorem JY {A:bV} {L L':List bV} (hl:∀h,yn L h→yn L' h) {h:Hp} (hs:yn (A::L) h):yn (A::L') h:=by
 obtain⟨h1,h2,j1,a,l⟩:=hs;exact⟨h1,h2,j1,a,hl _ l⟩
theorem AQ {L L':List bV} (hp:L.Perm L'):∀h,yn L h→yn L' h:=by
 induction hp with
 |nil=>exact fun h=>id
 |cons x _ ih=>exact fun h=>JY ih
 |swap x y l=>exact fun h=>JX
 |trans _ _ ih1 ih2=>exact fun h hs=>ih2 h (ih1 h hs)
def iT:List bV→Nat→bV
 |[],_=>emp
 |A::_,0=>A
 |_::L,n+1=>iT L n
def iH:List bV→Nat→List bV
 |[],_=>[]
 |_::L,0=>L
 |A::L,n+1=>A::iH L n
theorem vb:∀{L:List bV} {n:Nat},n<L.length→L.Perm (iT L n::iH L n)
 |A::L,0,_=>.refl _
 |A::L,n+1,h=>((vb (Nat.lt_of_succ_lt_succ h)).cons A).trans (.swap ..)
structure az (B H:ag) (L:List bV):Prop where
 ok:H.ok
 JZ:B.next≤H.next
 ro:∀id o,B.get id=some o→H.get id=some o∧∃e cs,o=.cells e cs true
 ex:∃h,(∀id o,h id=some o→H.get id=some o)∧yn L h
variable {B H:ag} {L L':List bV} {A A':bV}
theorem az.vc (h:az B H L) (hp:L.Perm L'):az B H L':=
 ⟨h.ok,h.JZ,h.ro,let ⟨g,h1,h2⟩:=h.ex;⟨g,h1,AQ hp _ h2⟩⟩
theorem az.up (h:az B H L) (n:Nat) (hn:Nat.blt n L.length=true:=by rfl):az B H (iT L n::iH L n):=
 h.vc (vb (Nat.le_of_ble_eq_true hn))
theorem az.swap (h:az B H (A::A'::L)):az B H (A'::A::L):=h.vc (.swap ..)
theorem az.imp (h:az B H (A::L)) (hi:∀g,A g→A' g):az B H (A'::L):=
 ⟨h.ok,h.JZ,h.ro,let ⟨g,h1,h2,h3,h4,h5,h6⟩:=h.ex;⟨g,h1,h2,h3,h4,hi _ h5,h6⟩⟩
theorem az.drop (h:az B H (A::L)):az B H L:=
 ⟨h.ok,h.JZ,h.ro,let ⟨g,h1,h2,h3,h4,h5,h6⟩:=h.ex;⟨h3,fun id o ho=>h1 id o (h4.S8 ho),h6⟩⟩
theorem az.HU {p:Prop} (h:az B H (HU p::L)):p∧az B H L:=
 let ⟨g,h1,h2,h3,h4,⟨h5,h7⟩,h6⟩:=h.ex
 ⟨h5,h.drop⟩
theorem az.pure {p:Prop} (h:az B H L) (hp:p):az B H (Am.HU p::L):=
 ⟨h.ok,h.JZ,h.ro,let ⟨g,h1,h2⟩:=h.ex;⟨g,h1,_,g,kZ.empty g,⟨hp,rfl⟩,h2⟩⟩
theorem az.S9 {α:Type} {A:α→bV} (h:az B H (JW A::L)):∃x,az B H (A x::L):=
 let ⟨g,h1,h2,h3,h4,⟨x,h5⟩,h6⟩:=h.ex
 ⟨x,h.ok,h.JZ,h.ro,g,h1,h2,h3,h4,h5,h6⟩
theorem az.intro {α:Type} {A:α→bV} {x:α} (h:az B H (A x::L)):az B H (JW A::L):=h.imp fun g hg=>⟨x,hg⟩
theorem az.mS (h:az B H (mS A A'::L)):az B H (A::A'::L):=by
 obtain⟨g,h1,h2,h3,h4,⟨h5,h6,h7,h8,h9⟩,xg⟩:=h.ex;obtain⟨ac,k1,k2⟩:=kZ.swap h7 (h4.symm);exact⟨h.ok,h.JZ,h.ro,g,h1,h5,ac,k2,h8,h6,h3,k1.symm,h9,xg⟩
theorem az.vd (h:az B H (A::A'::L)):az B H (Am.mS A A'::L):=by
 obtain⟨g,h1,h5,ac,k2,h8,h6,h3,k1,h9,xg⟩:=h.ex;obtain⟨x,k3,k4⟩:=kZ.swap k1.symm k2;exact⟨h.ok,h.JZ,h.ro,g,h1,x,h3,k4.symm,⟨h5,h6,k3,h8,h9⟩,xg⟩
theorem az.QP (h:az B H L):az B H (Am.emp::L):=
 ⟨h.ok,h.JZ,h.ro,let ⟨g,h1,h2⟩:=h.ex;⟨g,h1,_,g,kZ.empty g,rfl,h2⟩⟩
theorem az.get {id:Nat} {e:TypeId} {cs:List V} (h:az B H (di id e cs::L)):H.get id=some (.cells e cs false):=by
 obtain⟨g,h1,h2,h3,h4,h5,h6⟩:=h.ex;exact h1 _ _ (h4.S7 (by rw[h5];simp))
theorem az.start (hB:B.ok) (hro:∀id o,B.get id=some o→∃e cs,o=.cells e cs true):az B B []:=
 ⟨hB,Nat.le_refl _,fun id o h=>⟨h,hro id o h⟩,fun _=>none,(fun id o h=>by cases h),rfl⟩
theorem az.alloc (h:az B H L) (e:TypeId) (cs:List V):az B (H.alloc (.cells e cs false)) (di H.next e cs::L):=by
 obtain⟨g,h1,h2⟩:=h.ex;refine⟨h.ok.alloc _,Nat.le_succ_of_le h.JZ,fun id o ho=> ?_,fun j=>if j=H.next then some (.cells e cs false) else g j,fun id o ho=> ?_,_,g,fun i=> ?_,rfl,h2⟩
 ·have:=h.ok id o (h.ro id o ho).1;exact⟨by rw[ag.fD (by omega)];exact(h.ro id o ho).1,(h.ro id o ho).2⟩
 ·by_cases hid:id=H.next
  ·subst hid;simp only[if_pos] at ho;rw[ag.va,ho]
  ·simp only[if_neg hid] at ho;rw[ag.fD hid];exact h1 id o ho
 ·by_cases hid:i=H.next
  ·subst hid;right;refine⟨?_,by simp⟩
   cases hg:g H.next with
   |none=>rfl
   |some o=>have:=h.ok _ _ (h1 _ _ hg);omega
  ·left;simp [hid]
theorem az.put {id:Nat} {e:TypeId} {cs cs':List V} (h:az B H (di id e cs::L)):az B (H.put id (.cells e cs' false)) (di id e cs'::L):=by
 have Ue:=h.get;obtain⟨g,h1,h2,h3,h4,h5,h6⟩:=h.ex;subst h5;refine⟨h.ok.put Ue,h.JZ,fun j o ho=> ?_,fun j=>if j=id then some (.cells e cs' false) else h3 j,fun j o ho=> ?_,_,h3,fun i=> ?_,rfl,h6⟩
 ·have hj:=h.ro j o ho;refine⟨?_,hj.2⟩;by_cases he:j=id
  ·subst he;obtain⟨e',c',rfl⟩:=hj.2;rw[hj.1] at Ue;cases Ue
  ·rw[ag.kY he];exact hj.1
 ·by_cases hid:j=id
  ·subst hid;simp only[if_pos] at ho;rw[ag.HS,ho]
  ·simp only[if_neg hid] at ho;rw[ag.kY hid];exact h1 j o (h4.S8 ho)
 ·by_cases hid:i=id
  ·subst hid;right;refine⟨?_,by simp⟩;rcases h4 i with⟨e1,_⟩|⟨e1,_⟩
   ·simp at e1
   ·exact e1
  ·left;simp [hid]
theorem az.store {id off:Nat} {e:TypeId} {cs vs:List V} (h:az B H (di id e cs::L)):az B (H.store id off vs) (di id e (bL cs off vs)::L):=by
 rw[ag.ym h.get];exact h.put
theorem az.rd (h:az B H L) {q:Oq} {cs:List V} (hr:Rd B q cs):Rd H q cs:=by
 rcases hr with hr|⟨id,off,e,l,ro,rfl,hg,ht⟩
 ·exact .inl hr
 ·exact .inr ⟨id,off,e,l,ro,rfl,(h.ro _ _ hg).1,ht⟩
def CG (el n:Nat) (q:Oq) (len cap:Nat) (cs:List V):bV:=fun h=>
 cs.length=len*n∧aY cs∧len≤cap∧
   ((q=none∧cap=0∧h=fun _=>none)∨∃id off l,q=some (id,off)∧off+cap*n≤l.length∧(l.drop off).take cs.length=cs∧di id el l h)
section
variable {el n len cap:Nat} {q:Oq} {cs:List V}
theorem az.Mh (h:az B H L) (el n:Nat):az B H (CG el n none 0 0 []::L):=
 h.QP.imp fun g hg=>⟨by simp,fun v hv=>by simp at hv,Nat.le_refl _,.inl ⟨rfl,rfl,hg⟩⟩
theorem az.Lq (h:az B H (CG el n q len cap cs::L)):cs.length=len*n∧aY cs∧len≤cap∧((q=none∧cap=0∧az B H L)∨∃id off l,q=some (id,off)∧off+cap*n≤l.length∧(l.drop off).take cs.length=cs∧az B H (di id el l::L)):=by
 obtain⟨g,h1,h2,h3,h4,⟨a,b,c,d⟩,h6⟩:=h.ex;refine⟨a,b,c, ?_⟩;rcases d with⟨d1,d2,d3⟩|⟨id,off,l,d1,d2,d3,d4⟩
 ·exact .inl ⟨d1,d2,h.drop⟩
 ·exact .inr ⟨id,off,l,d1,d2,d3,h.ok,h.JZ,h.ro,g,h1,h2,h3,h4,d4,h6⟩
theorem az.unbuf {id off:Nat} {l:List V} (h:az B H (di id el l::L)) (h1:cs.length=len*n) (h2:aY cs) (h3:len≤cap) (h4:off+cap*n≤l.length) (h5:(l.drop off).take cs.length=cs):az B H (CG el n (some (id,off)) len cap cs::L):=
 h.imp fun g hg=>⟨h1,h2,h3,.inr ⟨id,off,l,rfl,h4,h5,hg⟩⟩
theorem az.QQ (h:az B H (CG el n q len cap cs::L)):Rd H q cs:=by
 obtain⟨h1,h2,h3,⟨rfl,hc,_⟩|⟨id,off,l,rfl,h4,h5,h6⟩⟩:=h.Lq
 ·left;have:len=0:=by omega
  rw[this,Nat.zero_mul] at h1;exact List.length_eq_zero_iff.1 h1
 ·exact .inr ⟨id,off,el,l,false,rfl,h6.get,h5⟩
theorem az.Ta (h:az B H (CG el n q len cap cs::L)):UO H el n q len cap cs:=by
 obtain⟨h1,h2,h3,⟨rfl,hc,_⟩|⟨id,off,l,rfl,h4,h5,h6⟩⟩:=h.Lq
 ·exact⟨h1,h2,h3,.inl ⟨rfl,hc⟩⟩
 ·exact⟨h1,h2,h3,.inr ⟨id,off,l,rfl,h6.get,h4,h5⟩⟩
theorem az.CH (h:az B H L) {c:Nat} {l:List V} (h1:cs.length=len*n) (h2:aY cs) (h3:len≤c) (h4:c*n≤l.length) (h5:l.take cs.length=cs):az B (H.alloc (.cells el l false)) (CG el n (some (H.next,0)) len c cs::L):=
 (h.alloc el l).unbuf h1 h2 h3 (by omega) (by simpa using h5)
theorem az.ED {E:jR} {t u el n cB:Nat} {z:List V} (h:az B H (CG el n q len cap cs::L)) (he:fA E t=some (el,n,cB,z))
 (hz:aY z) (hzl:z.length=n) (hn:0<n) {m:Nat} {x:V} {src:List V} {ok:Nat→Bool} {cf:Nat→List V} (h1:l8 H n cB z (aZ E u) x=some (true,m,ok,cf)) (h2:ok m=true) (h3:cf m=src)
 (HF:src.length=m*n) (Yq:aY src) (gV:(len+m)*(cB+1)≤70368744177664) {K:Oq→Nat→Nat→ag→Prop}
 (hk:∀q' c' H',(q'=q∨∃i,q'=some (i,0))→az B H' (CG el n q' (len+m) c' (cs++src)::L)→K q' (len+m) c' H'):aQ E [t,u] [.slice q len cap,x] H K:=by
 have ho:=h.Ta;simp only[aQ,he,h1,h3,aA];have hcs:=ho.size;by_cases hroom:len+m≤cap
 ·have hb:Nat.ble (len+m) cap=true:=by simpa using hroom
  rw[hb,aq];by_cases hm:m=0
  ·subst hm;have hs:src=[]:=by simp at HF;exact HF
   subst hs;simp only[Nat.beq,Bool.true_or,aA,cond_true];exact hk _ _ _ (.inl rfl) (by simpa using h)
  ·have hb:Nat.beq m 0=false:=by simp [hm]
   obtain⟨_,Aj,Rx,⟨rfl,hc,_⟩|⟨id,off,l,rfl,h4,h5,h6⟩⟩:=h.Lq
   ·omega
   ·have hle:(len+m)*n≤cap*n:=Nat.mul_le_mul_right _ hroom;rw[Nat.add_mul] at hle
    have hw:H.wr id (off+len*n) (m*n)=true:=by
     simp [ag.wr,h6.get];omega
    simp only[hb,Bool.false_or,Option.isSome_some,Bool.true_and,h2,Option.getD_some,hw,aA,cond_false];refine hk _ _ _ (.inl rfl) (h6.store.unbuf ?_ ?_ hroom ?_ ?_)
    ·rw[List.length_append,hcs,HF,Nat.add_mul]
    ·exact ho.one.append Yq
    ·rw[gq];exact h4
    ·rw[←hcs];exact Pf h5 (by omega)
 ·have hb:Nat.ble (len+m) cap=false:=by simp;omega
  have OD:Nat.ble ((len+m)*(cB+1)) 70368744177664=true:=by simpa using gV
  have hrow:oN H n q len=true:=by
   by_cases h0:len=0
   ·subst h0;rfl
   ·have hne:cs≠[]:=by
     intro e;have:=ho.size;rw[e] at this;have:=Nat.mul_pos (Nat.pos_of_ne_zero h0) hn;simp at*;omega
    simp only[oN,Bool.or_eq_true,Bool.and_eq_true];exact .inr ⟨ho.rd.some hne,ho.rd.Mg (by rw[ho.size];omega) hne,qp (by rw[←ho.size,ho.rd.all hne];exact ho.one)⟩
  have hold:(bif Nat.beq len 0 then [] else H.sub (q.getD (0,0)).1 (q.getD (0,0)).2 (len*n))=cs:=by
   by_cases h0:len=0
   ·subst h0;have:=ho.size;simp at this;subst this;rfl
   ·have hz:Nat.beq len 0=false:=by simp [h0]
    have hne:cs≠[]:=by
     intro e;have:=ho.size;rw[e] at this;have:=Nat.mul_pos (Nat.pos_of_ne_zero h0) hn;simp at*;omega
    simp only[hz,cond_false];rw[←ho.size,ho.rd.all hne]
  rw[hb,ai,hrow,h2,OD,hold];simp only[Bool.and_self,aA];intro c FR Ga;have hd:az B H L:=h.drop;refine hk _ _ _ (.inr ⟨_,rfl⟩) (hd.CH ?_ ?_ FR ?_ ?_)
  ·rw[List.length_append,hcs,HF,Nat.add_mul]
  ·exact ho.one.append Yq
  ·have:(c-(len+m))*n+(len+m)*n=c*n:=by rw[←Nat.add_mul];congr 1;omega
   rw[Nat.add_mul] at this;simp only[xk,ew,List.length_append,fL,hzl,hcs,HF];omega
  ·simp only[xk];rw[←List.append_assoc,List.take_left' rfl]
theorem az.yo {E:jR} {t u el n cB:Nat} {z:List V} (h:az B H (CG el n q len cap cs::L)) (he:fA E t=some (el,n,cB,z))
 (hz:aY z) (hzl:z.length=n) (hn:0<n) {m:Nat} {x:V} {src:List V} {ok:Nat→Bool} {cf:Nat→List V} (h1:l8 H n cB z (aZ E u) x=some (true,m,ok,cf)) (h2:ok m=true) (h3:cf m=src)
 (HF:src.length=m*n) (Yq:aY src) (gV:(len+m)*(cB+1)≤70368744177664) {K:Oq→Nat→Nat→ag→Prop}
 (hk:∀q' c' H',az B H' (CG el n q' (len+m) c' (cs++src)::L)→K q' (len+m) c' H'):aQ E [t,u] [.slice q len cap,x] H K:=
 h.ED he hz hzl hn h1 h2 h3 HF Yq gV fun q' c' H' _=>hk q' c' H'
theorem yp {n cB:Nat} {z:List V} {k:Option bX} {x:V} (h:jc k=true):l8 H n cB z k x=match kH H n x with|some (m,ok,cs)=>some (true,m,ok,cs)|none=>none:=by
 unfold l8;split
 ·cases h
 ·rw[h];rfl
theorem az.append {E:jR} {t u el n cB:Nat} {z:List V} (h:az B H (CG el n q len cap cs::L)) (he:fA E t=some (el,n,cB,z)) (hu:jc (aZ E u)=true)
 (hz:aY z) (hzl:z.length=n) (hn:0<n) {m:Nat} {x:V} {src:List V} (hx:S6 H n x m src) (gV:(len+m)*(cB+1)≤70368744177664) {K:Oq→Nat→Nat→ag→Prop}
 (hk:∀q' c' H',az B H' (CG el n q' (len+m) c' (cs++src)::L)→K q' (len+m) c' H'):aQ E [t,u] [.slice q len cap,x] H K:=by
 obtain⟨ok,cf,h1,h2,h3⟩:=EC hx hn;exact h.yo he hz hzl hn (by rw[yp hu,h1]) h2 h3 hx.1 hx.2.1 gV hk
theorem az.Ph {E:jR} {t u el n cB:Nat} {z:List V} (h:az B H (CG el n q len cap cs::L)) (he:fA E t=some (el,n,cB,z)) (hu:aZ E u=some (.int .i64))
 (hz:aY z) (hzl:z.length=n) (hn:0<n) {m:Int} (h0:0≤m) (gV:(len+m.toNat)*(cB+1)≤70368744177664) {K:Oq→Nat→Nat→ag→Prop}
 (hk:∀q' c' H',az B H' (CG el n q' (len+m.toNat) c' (cs++gM m.toNat z)::L)→K q' (len+m.toNat) c' H'):aQ E [t,u] [.slice q len cap,.int .i64 m] H K:=by
 have hb:m*(cB+1)≤70368744177664:=by
  have h1:m.toNat*(cB+1)≤(len+m.toNat)*(cB+1):=Nat.mul_le_mul_right _ (by omega);have h2:((m.toNat*(cB+1):Nat):Int)=m*(cB+1):=by rw[Int.natCast_mul,Int.toNat_of_nonneg h0];rfl
  omega
 refine h.yo (x:=.int .i64 m) (u:=u) (ok:=fun _=>true) (cf:=fun j=>ew j z) he hz hzl hn ?_ rfl rfl ?_ (gk hz _) gV hk
 ·rw[hu];show some (decide (0≤m)&&decide (m*(cB+1)≤70368744177664),_)=_
  rw[decide_eq_true h0,decide_eq_true hb];rfl
 ·show (gM _ z).length=_
  rw[fL,hzl]
end
def ba (bs:List UInt8):List V:=bs.map fun b=>.int .u8 b.toNat
def jJ (bs:List UInt8):ByteArray:=⟨bs.toArray⟩
@[simp] theorem nX (bs:List UInt8):(ba bs).length=bs.length:=by simp [ba]
@[simp] theorem Tb:ba []=[]:=rfl
@[simp] theorem jl (a b:List UInt8):ba (a++b)=ba a++ba b:=by simp [ba]
theorem lT (a:List UInt8) (n:Nat):(ba a).take n=ba (a.take n):=by simp [ba]
theorem pE (a:List UInt8) (n:Nat):(ba a).drop n=ba (a.drop n):=by simp [ba]
theorem jm (bs:List UInt8):aY (ba bs):=by
 intro v hv;simp only[ba,List.mem_map] at hv;obtain⟨b,_,rfl⟩:=hv;rfl
theorem yq:∀{bs:List UInt8} {i:Nat} (h:i<bs.length),ae (ba bs) i=.int .u8 (bs[i].toNat:Int)
 |b::bs,0,h=>rfl
 |b::bs,i+1,h=>by
  show ae (ba bs) i=_
  rw[yq (Nat.lt_of_succ_lt_succ h)];rfl
theorem yr:∀bs:List UInt8,Gn (.int .u8) (ba bs)=true
 |[]=>rfl
 |b::bs=>by
  show (V.aw (.int .u8) (.int .u8 (b.toNat:Int))&&Gn (.int .u8) (ba bs))=true
  rw[yr bs];rfl
theorem ot:∀(bs:List UInt8) (acc:ByteArray),cX (ba bs) acc=⟨acc.data++bs.toArray⟩
 |[],acc=>by simp [cX,ba]
 |b::bs,acc=>by
  show cX (ba bs) (acc.push (UInt8.ofNat (V.aa (.int .u8 (b.toNat:Int))).toNat))=_
  rw[ot bs];simp [ByteArray.push]
theorem GS (bs:List UInt8):cX (ba bs) ByteArray.empty=jJ bs:=by
 rw[ot];show (⟨#[]++bs.toArray⟩:ByteArray)=⟨bs.toArray⟩
 simp
theorem J0 {a b:List UInt8}:jJ a=jJ b↔a=b:=by
 constructor
 ·intro h;have:=congrArg (fun s=>s.data.toList) h;simpa [jJ] using this
 ·rintro rfl;rfl
theorem J1:jJ []=ByteArray.empty:=rfl
def lz (H:ag) (q:Oq) (bs:List UInt8):Prop:=Rd H q (ba bs)
def WE (el:Nat) (q:Oq) (cap:Nat) (bs:List UInt8):bV:=CG el 1 q bs.length cap (ba bs)
theorem az.gQ {el cap:Nat} {q:Oq} {bs:List UInt8} (h:az B H (WE el q cap bs::L)):lz H q bs:=h.QQ
theorem lz.src {q:Oq} {bs:List UInt8} (h:lz H q bs) (c:Nat):S6 H 1 (.slice q bs.length c) bs.length (ba bs):=
 ⟨by simp,jm bs,.inl ⟨q,c,rfl,h⟩⟩
theorem lz.part {q:Oq} {bs:List UInt8} (h:lz H q bs) (i k:Nat) (hi:i+k≤bs.length):lz H (bH q i) ((bs.drop i).take k):=by
 cases q with
 |none=>
  rcases h with h|⟨_,_,_,_,_,h,_⟩
  ·have:bs=[]:=by simpa [ba] using h
   subst this;left;simp
  ·cases h
 |some q=>
  have:=Rd.part h (q:=some q) (id:=q.1) (off:=q.2) rfl i k (by simpa using hi);unfold lz;rw[←lT, ←pE];exact this
theorem lz.nil (H:ag) (q:Oq):lz H q []:=.inl rfl
theorem lz.at {q:Oq} {bs:List UInt8} (h:lz H q bs) {i:Nat} (hi:i<bs.length):q.isSome=true∧H.inb (q.getD (0,0)).1 ((q.getD (0,0)).2+i) 1=true∧H.cell (q.getD (0,0)).1 ((q.getD (0,0)).2+i)=.int .u8 (bs[i].toNat:Int):=by
 have hne:ba bs≠[]:=by
  intro e;have:=congrArg List.length e;simp at this;subst this;simp at hi
 refine⟨Rd.some h hne,Rd.inb h (by simp;omega) hne, ?_⟩;rw[Rd.cell h (by simpa using hi),yq hi]
theorem lz.eG {q:Oq} {bs:List UInt8} (h:lz H q bs):eG H q bs.length=true:=by
 unfold Am.eG;by_cases h0:bs=[]
 ·subst h0;simp [Nat.beq]
 ·have hne:ba bs≠[]:=by
   intro e;have:=congrArg List.length e;simp at this;exact h0 this
  have h4:=Rd.Mg h (k:=bs.length) (by simp) hne
  have h5:H.sub (q.getD (0,0)).1 (q.getD (0,0)).2 bs.length=ba bs:=by
   have:=Rd.all h hne;simpa using this
  rw[h4,h5,yr];simp
theorem lz.eH {q:Oq} {bs:List UInt8} (h:lz H q bs):eH H q bs.length=jJ bs:=by
 unfold Am.eH;by_cases h0:bs=[]
 ·subst h0;have e:Nat.beq ([]:List UInt8).length 0=true:=rfl;rw[e,Bool.or_true,cond_true,J1]
 ·have hne:ba bs≠[]:=by
   intro e;have:=congrArg List.length e;simp at this;exact h0 this
  have h1:=Rd.some h hne;have h2:q.isNone=false:=by cases q<;>simp_all
  have h3:Nat.beq bs.length 0=false:=by simp [h0]
  have h5:H.sub (q.getD (0,0)).1 (q.getD (0,0)).2 bs.length=ba bs:=by
   have:=Rd.all h hne;simpa using this
  rw[h2,h3,h5,GS];rfl
theorem dP {id:Nat} {e:TypeId} {cs:List V} {ro:Bool} (hg:H.get id=some (.cells e cs ro)) (off n:Nat):H.inb id off n=Nat.ble (off+n) cs.length:=by simp only[ag.inb,hg]
theorem fY {id:Nat} {e:TypeId} {cs:List V} (hg:H.get id=some (.cells e cs false)) (off n:Nat):H.wr id off n=Nat.ble (off+n) cs.length:=by simp only[ag.wr,hg,Bool.not_false,Bool.true_and]
theorem aX {id:Nat} {e:TypeId} {cs:List V} {ro:Bool} (hg:H.get id=some (.cells e cs ro)) (off:Nat):H.cell id off=ae cs off:=by simp only[ag.cell,ag.cs,hg]
theorem lU {id:Nat} {e:TypeId} {cs:List V} {ro:Bool} (hg:H.get id=some (.cells e cs ro)) (off n:Nat):H.sub id off n=(cs.drop off).take n:=by simp only[ag.sub,ag.cs,hg]
def lC (B:ag) (L:List bV) (q:Oq) (bs:List UInt8):Prop:=∀H,az B H L→lz H q bs
theorem lC.nil (B:ag) (L:List bV) (q:Oq):lC B L q []:=fun H _=>lz.nil H q
theorem lC.part {q:Oq} {bs:List UInt8} (h:lC B L q bs) (i k:Nat) (hi:i+k≤bs.length):lC B L (bH q i) ((bs.drop i).take k):=fun H hs=>(h H hs).part i k hi
theorem lC.bg {q:Oq} {bs:List UInt8} (h:lC B L q bs) (A:bV):lC B (A::L) q bs:=fun H hs=>h H hs.drop
theorem lC.of {q:Oq} {bs:List UInt8} (h:lz B q bs):lC B L q bs:=fun H hs=>hs.rd h
theorem lC.Z2 {el cap:Nat} {q:Oq} {bs:List UInt8}:lC B (WE el q cap bs::L) q bs:=fun H hs=>hs.gQ
@[simp] theorem gr (q:Oq):bH q 0=q:=by rcases q with _|⟨a,b⟩<;>rfl
@[simp] theorem Tc (q:Oq) (a b:Nat):bH (bH q a) b=bH q (a+b):=by rcases q with _|⟨x,y⟩<;>simp [bH,Nat.add_assoc]
theorem aO (c a b:Bool):aR c a b=if c=true then a else b:=by cases c<;>cases a<;>cases b<;>rfl
end Go.Am
end
