/- The law UnitRaw holds: whatever the input, the call returns true, and each argument reads behind it as before. -/
import Derived.Test.YtlgdkndamddpkaaGreatRows
import Derived.Test.YtlgdkndamddpkaaGreatP6
set_option maxRecDepth 100000
namespace Go.Proofs.YtlgdkndamddpkaaGreat.unitRaw
open Go.ChangeShapes Go.WideShapes Go.ChangeAt Go.RowKit Go.Am
theorem call_true {H:Type} {enc:TypeId×Value→H} (W:World) (aV:Nat) (args:Array Value) (ds:List (DataW H)) (before:List MemPlace) (hval:∀(j:Nat) t v,Tryz.f4.params[j]? =some t→args[j]? =some v→Value.okWide Tryz.prog W .any aV t v) (hA:DataW.TrodAll enc Tryz.prog W 0 (fun _=>true) true Tryz.f4.params.toList args.toList ds before):(rT dK).call 4 (args.toList.map (Hs W)) (gP W) fun v _=>v=.bool true:=by
 rw[Tryz.params4] at hA hval;obtain⟨v0,vs0,d0,ds0,p0,q0,hargs0,rfl,rfl,h0,r0⟩:=trodAll_cons hA;obtain⟨v1,vs1,d1,ds1,p1,q1,hargs1,rfl,rfl,h1,r1⟩:=trodAll_cons r0;obtain⟨v2,vs2,d2,ds2,p2,q2,hargs2,rfl,rfl,h2,r2⟩:=trodAll_cons r1;obtain⟨v3,vs3,d3,ds3,p3,q3,hargs3,rfl,rfl,h3,r3⟩:=trodAll_cons r2;obtain⟨hargs4,rfl,rfl⟩:=trodAll_nil r3;obtain rfl:args= #[v0,v1,v2,v3]:=by cases args;simp_all
 obtain⟨x0,e0,l0,g0⟩:=KV (P:=dK.P) (W:=W) Tryz.underlying5 (hval 0 5 v0 rfl rfl) h0;obtain⟨x1,len1,cap1,e1,hs1⟩:=MG (P:=dK.P) (W:=W) Tryz.underlying22 (Nat.le_of_ble_eq_true (by kernel_rfl)) (hval 1 22 v1 rfl rfl) h1;obtain⟨x2,e2,l2,g2⟩:=KV (P:=dK.P) (W:=W) Tryz.underlying3 (hval 2 3 v2 rfl rfl) h2;obtain⟨cs3,n3,hx3,e3⟩:=I8 (P:=dK.P) (W:=W) Tryz.underlying41 (hval 3 41 v3 rfl rfl) h3;obtain⟨x3,rfl,o3⟩:=Wn hx3;have e3:=e3 (fI (Cm.db x3));show (rT dK).call 4 [Hs W v0,Hs W v1,Hs W v2,Hs W v3] (gP W) _
 rw[e0,e1,e2,e3];exact G7 (Qa W) x0 x1 len1 cap1 x2 x3 (by simpa [IntKind.min,IntKind.max,IntKind.bits,IntKind.signed] using l0) (by simpa [IntKind.min,IntKind.max,IntKind.bits,IntKind.signed] using g0) hs1 (by simpa [IntKind.min,IntKind.max,IntKind.bits,IntKind.signed] using l2) (by simpa [IntKind.min,IntKind.max,IntKind.bits,IntKind.signed] using g2) o3
theorem lifted (os:Os) (started:os.Started) (H:Type) (enc:TypeId×Value→H):ReturnsInHanded {} Tryz.checked os 4 .any (Rows.unitRawSpec.pre6 enc Tryz.prog Tryz.f4 Rows.unitRawRow.domain false) (Rows.unitRawSpec.post enc Tryz.prog Tryz.f4 false true false false):=by
 refine returnsInHanded_of_change (C:=Tryz.checked) oy started (by kernel_rfl) Tryz.func4
  (ChangeSpec.witness6 (enc:=enc) (C:=Tryz.checked) false ⟨#[], #[.int .u8 0,.slice none 0 0,.int .i64 0,.agg #[.int .u8 0,.int .i64 0,.slice none 0 0,.bool false,.int .u32 0,.int .u32 0,.int .u8 0,.bool false]],[]⟩ 8 (by kernel_rfl) (by kernel_rfl) (by kernel_rfl) (by kernel_rfl)) ?_
 intro W aV args ds gs before hval hW hcnd _;refine G1 (E:=dK) Y3 Y2 acJ (tb:=4) Tryz.underlying4 (Wo (by kernel_rfl)) (by kernel_rfl) rfl (fun ds hl=> ?_) hW ?_
 ·rw[show Tryz.f4.params.size=4 from rfl] at hl;obtain⟨z0,l0,rfl⟩:∃z l,ds=z::l:=by cases ds<;>simp_all
  obtain⟨z1,l1,rfl⟩:∃z l,l0=z::l:=by cases l0<;>simp_all
  obtain⟨z2,l2,rfl⟩:∃z l,l1=z::l:=by cases l1<;>simp_all
  obtain⟨z3,l3,rfl⟩:∃z l,l2=z::l:=by cases l2<;>simp_all
  obtain rfl:l3=[]:=by cases l3<;>simp_all
  rfl
 ·obtain⟨p,q,hA,hV,rfl,_,_⟩:=hW;exact call_true W aV args ds p hval hA
theorem over:Rows.unitRawRow.holds Tryz.pinned (OpenSpec.ofChange Rows.unitRawSpec):=
 OpenClaim.holds_of_wide 4 Tryz.f4 rfl rfl rfl rfl rfl rfl rfl ⟨rfl,rfl,rfl,rfl,rfl⟩ rfl rfl rfl rfl rfl (by kernel_rfl) Tryz.func4 (by kernel_rfl)
  (of_decide_eq_true (by kernel_rfl)) (by unfold Func.isWrapper;first|(rw[if_pos (by decide+kernel)];kernel_rfl)|(rw[if_neg (by decide+kernel)];exact⟨rfl,rfl⟩))
  (fun os started H enc _=>lifted os started H enc)
theorem proved:Rows.UnitRawSaid:=over
#print axioms proved
end Go.Proofs.YtlgdkndamddpkaaGreat.unitRaw
