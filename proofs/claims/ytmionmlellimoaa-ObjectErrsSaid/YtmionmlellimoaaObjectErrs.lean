/- The law drawbarlaw14.ObjectErrs holds: whatever the input, the call returns true, and each argument reads behind it as before. -/
import Derived.Test.YtmionmlellimoaaRows
import Derived.Test.YtmionmlellimoaaObjM
import Derived.Test.YtmionmlellimoaaSeat
namespace Go.Proofs.Ytmionmlellimoaa.objectErrs
open Go.ChangeShapes Go.WideShapes Go.ChangeAt Go.RowKit Go.Am
set_option maxRecDepth 100000

theorem call_true {H : Type} {enc : TypeId × Value → H} (W : World) (base : Nat) (args : Array Value) (ds : List (DataW H)) (before : List MemPlace)
    (hval : ∀ (j : Nat) t v, Try.f8.params[j]? = some t → args[j]? = some v → Value.okWide Try.prog W .any base t v)
    (hA : DataW.TrodAll enc Try.prog W 0 (fun _ => true) true Try.f8.params.toList args.toList ds before) :
    (Run env).call 8 (args.toList.map (toA W)) (heapOf W) fun v _ => v = .bool true := by
  rw [Try.params8] at hA hval
  obtain ⟨v0, vs0, d0, ds0, p0, q0, hargs0, rfl, rfl, h0, r0⟩ := trodAll_cons hA
  obtain ⟨v1, vs1, d1, ds1, p1, q1, hargs1, rfl, rfl, h1, r1⟩ := trodAll_cons r0
  obtain ⟨v2, vs2, d2, ds2, p2, q2, hargs2, rfl, rfl, h2, r2⟩ := trodAll_cons r1
  obtain ⟨hargs3, rfl, rfl⟩ := trodAll_nil r2
  obtain rfl : args = #[v0, v1, v2] := by cases args; simp_all
  obtain ⟨x0, e0, l0, g0⟩ := arg_int (P := env.P) (W := W) Try.underlying3 (hval 0 3 v0 rfl rfl) h0
  obtain ⟨x1, e1, l1, g1⟩ := arg_int (P := env.P) (W := W) Try.underlying3 (hval 1 3 v1 rfl rfl) h1
  obtain ⟨cs2, n2, hx2, e2⟩ := arg_struct (P := env.P) (W := W) Try.underlying33 (hval 2 33 v2 rfl rfl) h2
  obtain ⟨x2, rfl, o2⟩ := cmd_of hx2
  have e2 := e2 (fits_one (Cm.fits_cs x2))
  show (Run env).call 8 [toA W v0, toA W v1, toA W v2] (heapOf W) _
  rw [e0, e1, e2]
  exact law_ObjectErrs (memStart W) x0 x1 x2 (by simpa [IntKind.min, IntKind.max, IntKind.bits, IntKind.signed] using l0) (by simpa [IntKind.min, IntKind.max, IntKind.bits, IntKind.signed] using g0) (by simpa [IntKind.min, IntKind.max, IntKind.bits, IntKind.signed] using l1) (by simpa [IntKind.min, IntKind.max, IntKind.bits, IntKind.signed] using g1) o2

theorem lifted (os : Os) (started : os.Started) (H : Type) (enc : TypeId × Value → H) :
    ReturnsInHanded {} Try.checked os 8 .any (Rows.objectErrsSpec.pre6 enc Try.prog Try.f8 Rows.objectErrsRow.domain false) (Rows.objectErrsSpec.post enc Try.prog Try.f8 false true false false) := by
  refine returnsInHanded_of_change (C := Try.checked) own started (by kernel_rfl) Try.func8
    (ChangeSpec.witness6 (enc := enc) (C := Try.checked) false ⟨#[], #[.int .i64 0, .int .i64 0, .agg #[.int .u8 0, .int .i64 0, .slice none 0 0, .bool false, .int .u32 0, .int .u32 0, .int .u8 0, .bool false]], []⟩ 8 (by kernel_rfl) (by kernel_rfl) (by kernel_rfl) (by kernel_rfl)) ?_
  intro W base args ds gs before hval hW hcnd _
  refine law_of_call (E := env) extOk mixed laid (tb := 4) Try.underlying4 (par_ok (by kernel_rfl)) (by kernel_rfl) rfl (fun ds hl => ?_) hW ?_
  · rw [show Try.f8.params.size = 3 from rfl] at hl
    obtain ⟨z0, l0, rfl⟩ : ∃ z l, ds = z :: l := by cases ds <;> simp_all
    obtain ⟨z1, l1, rfl⟩ : ∃ z l, l0 = z :: l := by cases l0 <;> simp_all
    obtain ⟨z2, l2, rfl⟩ : ∃ z l, l1 = z :: l := by cases l1 <;> simp_all
    obtain rfl : l2 = [] := by cases l2 <;> simp_all
    rfl
  · obtain ⟨p, q, hA, hV, rfl, _, _⟩ := hW
    exact call_true W base args ds p hval hA

theorem over : Rows.objectErrsRow.holds Try.pinned (OpenSpec.ofChange Rows.objectErrsSpec) :=
  OpenClaim.holds_of_wide 8 Try.f8 rfl rfl rfl rfl rfl rfl rfl ⟨rfl, rfl, rfl, rfl, rfl⟩ rfl rfl rfl rfl rfl (by kernel_rfl) Try.func8 (by kernel_rfl)
    (of_decide_eq_true (by kernel_rfl)) (by unfold Func.isWrapper; first | (rw [if_pos (by decide +kernel)]; kernel_rfl) | (rw [if_neg (by decide +kernel)]; exact ⟨rfl, rfl⟩))
    (fun os started H enc _ => lifted os started H enc)

theorem proved : Rows.ObjectErrsSaid := over
#print axioms proved
end Go.Proofs.Ytmionmlellimoaa.objectErrs
