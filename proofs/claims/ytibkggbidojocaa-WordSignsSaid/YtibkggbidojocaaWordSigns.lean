/- The law drawbarlaw02.WordSigns holds: whatever the input, the call returns true, and each argument reads behind it as before. -/
import Derived.Test.YtibkggbidojocaaRows
import Derived.Test.YtibkggbidojocaaWordL
import Derived.Test.YtibkggbidojocaaSeat
namespace Go.Proofs.Ytibkggbidojocaa.wordSigns
open Go.ChangeShapes Go.WideShapes Go.ChangeAt Go.RowKit Go.Am
set_option maxRecDepth 100000

theorem call_true {H : Type} {enc : TypeId × Value → H} (W : World) (base : Nat) (args : Array Value) (ds : List (DataW H)) (before : List MemPlace)
    (hval : ∀ (j : Nat) t v, Try.f7.params[j]? = some t → args[j]? = some v → Value.okWide Try.prog W .any base t v)
    (hA : DataW.TrodAll enc Try.prog W 0 (fun _ => true) true Try.f7.params.toList args.toList ds before) :
    (Run env).call 7 (args.toList.map (toA W)) (heapOf W) fun v _ => v = .bool true := by
  rw [Try.params7] at hA hval
  obtain ⟨v0, vs0, d0, ds0, p0, q0, hargs0, rfl, rfl, h0, r0⟩ := trodAll_cons hA
  obtain ⟨hargs1, rfl, rfl⟩ := trodAll_nil r0
  obtain rfl : args = #[v0] := by cases args; simp_all
  obtain ⟨x0, e0, l0, g0⟩ := arg_int (P := env.P) (W := W) Try.underlying36 (hval 0 36 v0 rfl rfl) h0
  show (Run env).call 7 [toA W v0] (heapOf W) _
  rw [e0]
  exact law_WordSigns (memStart W) x0 (by simpa [IntKind.min, IntKind.max, IntKind.bits, IntKind.signed] using l0) (by simpa [IntKind.min, IntKind.max, IntKind.bits, IntKind.signed] using g0)

theorem lifted (os : Os) (started : os.Started) (H : Type) (enc : TypeId × Value → H) :
    ReturnsInHanded {} Try.checked os 7 .any (Rows.wordSignsSpec.pre6 enc Try.prog Try.f7 Rows.wordSignsRow.domain false) (Rows.wordSignsSpec.post enc Try.prog Try.f7 false true false false) := by
  refine returnsInHanded_of_change (C := Try.checked) own started (by kernel_rfl) Try.func7
    (ChangeSpec.witness6 (enc := enc) (C := Try.checked) false ⟨#[], #[.int .u32 0], []⟩ 8 (by kernel_rfl) (by kernel_rfl) (by kernel_rfl) (by kernel_rfl)) ?_
  intro W base args ds gs before hval hW hcnd _
  refine law_of_call (E := env) extOk mixed laid (tb := 4) Try.underlying4 (par_ok (by kernel_rfl)) (by kernel_rfl) rfl (fun ds hl => ?_) hW ?_
  · rw [show Try.f7.params.size = 1 from rfl] at hl
    obtain ⟨z0, l0, rfl⟩ : ∃ z l, ds = z :: l := by cases ds <;> simp_all
    obtain rfl : l0 = [] := by cases l0 <;> simp_all
    rfl
  · obtain ⟨p, q, hA, hV, rfl, _, _⟩ := hW
    exact call_true W base args ds p hval hA

theorem over : Rows.wordSignsRow.holds Try.pinned (OpenSpec.ofChange Rows.wordSignsSpec) :=
  OpenClaim.holds_of_wide 7 Try.f7 rfl rfl rfl rfl rfl rfl rfl ⟨rfl, rfl, rfl, rfl, rfl⟩ rfl rfl rfl rfl rfl (by kernel_rfl) Try.func7 (by kernel_rfl)
    (of_decide_eq_true (by kernel_rfl)) (by unfold Func.isWrapper; first | (rw [if_pos (by decide +kernel)]; kernel_rfl) | (rw [if_neg (by decide +kernel)]; exact ⟨rfl, rfl⟩))
    (fun os started H enc _ => lifted os started H enc)

theorem proved : Rows.WordSignsSaid := over
#print axioms proved
end Go.Proofs.Ytibkggbidojocaa.wordSigns
