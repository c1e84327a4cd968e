/- The law drawbarlaw14.ObjectConflicts holds: whatever the input, the call returns true, and each argument reads behind it as before. -/
import Derived.Test.YtmionmlellimoaaRows
import Derived.Test.YtmionmlellimoaaObjM
import Derived.Test.YtmionmlellimoaaSeat
namespace Go.Proofs.Ytmionmlellimoaa.objectConflicts
open Go.ChangeShapes Go.WideShapes Go.ChangeAt Go.RowKit Go.Am
set_option maxRecDepth 100000

theorem call_true {H : Type} {enc : TypeId × Value → H} (W : World) (base : Nat) (args : Array Value) (ds : List (DataW H)) (before : List MemPlace)
    (hval : ∀ (j : Nat) t v, Try.f4.params[j]? = some t → args[j]? = some v → Value.okWide Try.prog W .any base t v)
    (hA : DataW.TrodAll enc Try.prog W 0 (fun _ => true) true Try.f4.params.toList args.toList ds before) :
    (Run env).call 4 (args.toList.map (toA W)) (heapOf W) fun v _ => v = .bool true := by
  rw [Try.params4] at hA hval
  obtain ⟨v0, vs0, d0, ds0, p0, q0, hargs0, rfl, rfl, h0, r0⟩ := trodAll_cons hA
  obtain ⟨v1, vs1, d1, ds1, p1, q1, hargs1, rfl, rfl, h1, r1⟩ := trodAll_cons r0
  obtain ⟨v2, vs2, d2, ds2, p2, q2, hargs2, rfl, rfl, h2, r2⟩ := trodAll_cons r1
  obtain ⟨hargs3, rfl, rfl⟩ := trodAll_nil r2
  obtain rfl : args = #[v0, v1, v2] := by cases args; simp_all
  obtain ⟨x0, len0, cap0, e0, hs0⟩ := arg_slice (P := env.P) (W := W) Try.underlying22 (Nat.le_of_ble_eq_true (by kernel_rfl)) (hval 0 22 v0 rfl rfl) h0
  obtain ⟨x1, e1, l1, g1⟩ := arg_int (P := env.P) (W := W) Try.underlying5 (hval 1 5 v1 rfl rfl) h1
  obtain ⟨cs2, n2, hx2, e2⟩ := arg_struct (P := env.P) (W := W) Try.underlying25 (hval 2 25 v2 rfl rfl) h2
  obtain ⟨x2, rfl, o2⟩ := act_of hx2
  have e2 := e2 (fits_one (Ac.fits_cs x2))
  show (Run env).call 4 [toA W v0, toA W v1, toA W v2] (heapOf W) _
  rw [e0, e1, e2]
  exact law_ObjectConflicts (memStart W) x0 len0 cap0 x1 x2 hs0 (by simpa [IntKind.min, IntKind.max, IntKind.bits, IntKind.signed] using l1) (by simpa [IntKind.min, IntKind.max, IntKind.bits, IntKind.signed] using g1) o2

theorem lifted (os : Os) (started : os.Started) (H : Type) (enc : TypeId × Value → H) :
    ReturnsInHanded {} Try.checked os 4 .any (Rows.objectConflictsSpec.pre6 enc Try.prog Try.f4 Rows.objectConflictsRow.domain false) (Rows.objectConflictsSpec.post enc Try.prog Try.f4 false true false false) := by
  refine returnsInHanded_of_change (C := Try.checked) own started (by kernel_rfl) Try.func4
    (ChangeSpec.witness6 (enc := enc) (C := Try.checked) false ⟨#[], #[.slice none 0 0, .int .u8 0, .agg #[.int .u8 0, .int .u8 0, .int .u8 0, .int .u8 0, .int .u8 0, .int .u8 0, .bool false, .bool false, .slice none 0 0]], []⟩ 8 (by kernel_rfl) (by kernel_rfl) (by kernel_rfl) (by kernel_rfl)) ?_
  intro W base args ds gs before hval hW hcnd _
  refine law_of_call (E := env) extOk mixed laid (tb := 4) Try.underlying4 (par_ok (by kernel_rfl)) (by kernel_rfl) rfl (fun ds hl => ?_) hW ?_
  · rw [show Try.f4.params.size = 3 from rfl] at hl
    obtain ⟨z0, l0, rfl⟩ : ∃ z l, ds = z :: l := by cases ds <;> simp_all
    obtain ⟨z1, l1, rfl⟩ : ∃ z l, l0 = z :: l := by cases l0 <;> simp_all
    obtain ⟨z2, l2, rfl⟩ : ∃ z l, l1 = z :: l := by cases l1 <;> simp_all
    obtain rfl : l2 = [] := by cases l2 <;> simp_all
    rfl
  · obtain ⟨p, q, hA, hV, rfl, _, _⟩ := hW
    exact call_true W base args ds p hval hA

theorem over : Rows.objectConflictsRow.holds Try.pinned (OpenSpec.ofChange Rows.objectConflictsSpec) :=
  OpenClaim.holds_of_wide 4 Try.f4 rfl rfl rfl rfl rfl rfl rfl ⟨rfl, rfl, rfl, rfl, rfl⟩ rfl rfl rfl rfl rfl (by kernel_rfl) Try.func4 (by kernel_rfl)
    (of_decide_eq_true (by kernel_rfl)) (by unfold Func.isWrapper; first | (rw [if_pos (by decide +kernel)]; kernel_rfl) | (rw [if_neg (by decide +kernel)]; exact ⟨rfl, rfl⟩))
    (fun os started H enc _ => lifted os started H enc)

theorem proved : Rows.ObjectConflictsSaid := over
#print axioms proved
end Go.Proofs.Ytmionmlellimoaa.objectConflicts
