/- The law UnitFalls holds: whatever the input, the call returns true, and each argument reads behind it as before. -/
import Derived.Test.YtlgdkndamddpkaaGreatRows
import Derived.Test.YtlgdkndamddpkaaGreatP6
set_option maxRecDepth 100000
namespace Go.Proofs.YtlgdkndamddpkaaGreat.unitFalls
open Go.ChangeShapes Go.WideShapes Go.ChangeAt Go.RowKit Go.Am
theorem call_true {H:Type} {enc:TypeId×Value→H} (W:World) (aX:Nat) (args:Array Value) (ds:List (DataW H)) (before:List MemPlace) (hval:∀(j:Nat) t v,Tryz.f9.params[j]? =some t→args[j]? =some v→Value.okWide Tryz.prog W .any aX t v) (hA:DataW.TrodAll enc Tryz.prog W 0 (fun _=>true) true Tryz.f9.params.toList args.toList ds before):(qQ cV).call 9 (args.toList.map (Nm W)) (hY W) fun v _=>v=.bool true:=by
 rw[Tryz.params9] at hA hval;obtain⟨v0,vs0,d0,ds0,p0,q0,hargs0,rfl,rfl,h0,r0⟩:=trodAll_cons hA;obtain⟨v1,vs1,d1,ds1,p1,q1,hargs1,rfl,rfl,h1,r1⟩:=trodAll_cons r0;obtain⟨hargs2,rfl,rfl⟩:=trodAll_nil r1;obtain rfl:args= #[v0,v1]:=by cases args;simp_all
 obtain⟨x0,e0,l0,g0⟩:=Ta (P:=cV.P) (W:=W) Tryz.underlying5 (hval 0 5 v0 rfl rfl) h0;obtain⟨x1,len1,cap1,e1,hs1⟩:=M0 (P:=cV.P) (W:=W) Tryz.underlying22 (Nat.le_of_ble_eq_true (by kernel_rfl)) (hval 1 22 v1 rfl rfl) h1;show (qQ cV).call 9 [Nm W v0,Nm W v1] (hY W) _
 rw[e0,e1];exact Bp (Qv W) x0 x1 len1 cap1 (by simpa [IntKind.min,IntKind.max,IntKind.bits,IntKind.signed] using l0) (by simpa [IntKind.min,IntKind.max,IntKind.bits,IntKind.signed] using g0) hs1
theorem lifted (os:Os) (started:os.Started) (H:Type) (enc:TypeId×Value→H):ReturnsInHanded {} Tryz.checked os 9 .any (Rows.unitFallsSpec.pre6 enc Tryz.prog Tryz.f9 Rows.unitFallsRow.domain false) (Rows.unitFallsSpec.post enc Tryz.prog Tryz.f9 false true false false):=by
 refine returnsInHanded_of_change (C:=Tryz.checked) mD started (by kernel_rfl) Tryz.func9
  (ChangeSpec.witness6 (enc:=enc) (C:=Tryz.checked) false ⟨#[], #[.int .u8 0,.slice none 0 0],[]⟩ 8 (by kernel_rfl) (by kernel_rfl) (by kernel_rfl) (by kernel_rfl)) ?_
 intro W aX args ds gs before hval hW hcnd _;refine G7 (E:=cV) ZU ZT adP (tb:=4) Tryz.underlying4 (W7 (by kernel_rfl)) (by kernel_rfl) rfl (fun ds hl=> ?_) hW ?_
 ·rw[show Tryz.f9.params.size=2 from rfl] at hl;obtain⟨z0,l0,rfl⟩:∃z l,ds=z::l:=by cases ds<;>simp_all
  obtain⟨z1,l1,rfl⟩:∃z l,l0=z::l:=by cases l0<;>simp_all
  obtain rfl:l1=[]:=by cases l1<;>simp_all
  rfl
 ·obtain⟨p,q,hA,hV,rfl,_,_⟩:=hW;exact call_true W aX args ds p hval hA
theorem over:Rows.unitFallsRow.holds Tryz.pinned (OpenSpec.ofChange Rows.unitFallsSpec):=
 OpenClaim.holds_of_wide 9 Tryz.f9 rfl rfl rfl rfl rfl rfl rfl ⟨rfl,rfl,rfl,rfl,rfl⟩ rfl rfl rfl rfl rfl (by kernel_rfl) Tryz.func9 (by kernel_rfl)
  (of_decide_eq_true (by kernel_rfl)) (by unfold Func.isWrapper;first|(rw[if_pos (by decide+kernel)];kernel_rfl)|(rw[if_neg (by decide+kernel)];exact⟨rfl,rfl⟩))
  (fun os started H enc _=>lifted os started H enc)
theorem proved:Rows.UnitFallsSaid:=over
#print axioms proved
end Go.Proofs.YtlgdkndamddpkaaGreat.unitFalls
