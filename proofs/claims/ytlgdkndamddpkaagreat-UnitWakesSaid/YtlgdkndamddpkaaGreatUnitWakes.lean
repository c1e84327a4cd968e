/- The law UnitWakes holds: whatever the input, the call returns true, and each argument reads behind it as before. -/
import Derived.Test.YtlgdkndamddpkaaGreatRows
import Derived.Test.YtlgdkndamddpkaaGreatP6
set_option maxRecDepth 100000
namespace Go.Proofs.YtlgdkndamddpkaaGreat.unitWakes
open Go.ChangeShapes Go.WideShapes Go.ChangeAt Go.RowKit Go.Am
theorem call_true {H:Type} {enc:TypeId×Value→H} (W:World) (aU:Nat) (args:Array Value) (ds:List (DataW H)) (before:List MemPlace) (hval:∀(j:Nat) t v,Tryz.f3.params[j]? =some t→args[j]? =some v→Value.okWide Tryz.prog W .any aU t v) (hA:DataW.TrodAll enc Tryz.prog W 0 (fun _=>true) true Tryz.f3.params.toList args.toList ds before):(p8 cP).call 3 (args.toList.map (Jq W)) (gL W) fun v _=>v=.bool true:=by
 rw[Tryz.params3] at hA hval;obtain⟨v0,vs0,d0,ds0,p0,q0,hargs0,rfl,rfl,h0,r0⟩:=trodAll_cons hA;obtain⟨v1,vs1,d1,ds1,p1,q1,hargs1,rfl,rfl,h1,r1⟩:=trodAll_cons r0;obtain⟨v2,vs2,d2,ds2,p2,q2,hargs2,rfl,rfl,h2,r2⟩:=trodAll_cons r1;obtain⟨hargs3,rfl,rfl⟩:=trodAll_nil r2;obtain rfl:args= #[v0,v1,v2]:=by cases args;simp_all
 obtain⟨x0,e0,l0,g0⟩:=Qd (P:=cP.P) (W:=W) Tryz.underlying5 (hval 0 5 v0 rfl rfl) h0;obtain⟨x1,len1,cap1,e1,hs1⟩:=Lb (P:=cP.P) (W:=W) Tryz.underlying22 (Nat.le_of_ble_eq_true (by kernel_rfl)) (hval 1 22 v1 rfl rfl) h1;obtain⟨x2,e2⟩:=N2 (P:=cP.P) (W:=W) Tryz.underlying4 (hval 2 4 v2 rfl rfl) h2;show (p8 cP).call 3 [Jq W v0,Jq W v1,Jq W v2] (gL W) _
 rw[e0,e1,e2];exact Ab (N3 W) x0 x1 len1 cap1 x2 (by simpa [IntKind.min,IntKind.max,IntKind.bits,IntKind.signed] using l0) (by simpa [IntKind.min,IntKind.max,IntKind.bits,IntKind.signed] using g0) hs1
theorem lifted (os:Os) (started:os.Started) (H:Type) (enc:TypeId×Value→H):ReturnsInHanded {} Tryz.checked os 3 .any (Rows.unitWakesSpec.pre6 enc Tryz.prog Tryz.f3 Rows.unitWakesRow.domain false) (Rows.unitWakesSpec.post enc Tryz.prog Tryz.f3 false true false false):=by
 refine returnsInHanded_of_change (C:=Tryz.checked) l6 started (by kernel_rfl) Tryz.func3
  (ChangeSpec.witness6 (enc:=enc) (C:=Tryz.checked) false ⟨#[], #[.int .u8 0,.slice none 0 0,.bool false],[]⟩ 8 (by kernel_rfl) (by kernel_rfl) (by kernel_rfl) (by kernel_rfl)) ?_
 intro W aU args ds gs before hval hW hcnd _;refine FE (E:=cP) Wx Ww abd (tb:=4) Tryz.underlying4 (T0 (by kernel_rfl)) (by kernel_rfl) rfl (fun ds hl=> ?_) hW ?_
 ·rw[show Tryz.f3.params.size=3 from rfl] at hl;obtain⟨z0,l0,rfl⟩:∃z l,ds=z::l:=by cases ds<;>simp_all
  obtain⟨z1,l1,rfl⟩:∃z l,l0=z::l:=by cases l0<;>simp_all
  obtain⟨z2,l2,rfl⟩:∃z l,l1=z::l:=by cases l1<;>simp_all
  obtain rfl:l2=[]:=by cases l2<;>simp_all
  rfl
 ·obtain⟨p,q,hA,hV,rfl,_,_⟩:=hW;exact call_true W aU args ds p hval hA
theorem over:Rows.unitWakesRow.holds Tryz.pinned (OpenSpec.ofChange Rows.unitWakesSpec):=
 OpenClaim.holds_of_wide 3 Tryz.f3 rfl rfl rfl rfl rfl rfl rfl ⟨rfl,rfl,rfl,rfl,rfl⟩ rfl rfl rfl rfl rfl (by kernel_rfl) Tryz.func3 (by kernel_rfl)
  (of_decide_eq_true (by kernel_rfl)) (by unfold Func.isWrapper;first|(rw[if_pos (by decide+kernel)];kernel_rfl)|(rw[if_neg (by decide+kernel)];exact⟨rfl,rfl⟩))
  (fun os started H enc _=>lifted os started H enc)
theorem proved:Rows.UnitWakesSaid:=over
#print axioms proved
end Go.Proofs.YtlgdkndamddpkaaGreat.unitWakes
