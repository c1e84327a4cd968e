/- The law drawbarlaw02.WordJoins holds: whatever the input, the call returns true, and each argument reads behind it as before. -/
import Derived.Test.YtibkggbidojocaaRows
import Derived.Test.YtibkggbidojocaaWordN
import Derived.Test.YtibkggbidojocaaSeat
import Derived.Test.YtibkggbidojocaaWordW
import Derived.SizedLaws
namespace Go.Proofs.Ytibkggbidojocaa.wordJoins
open Go.ChangeShapes Go.WideShapes Go.ChangeAt Go.RowKit Go.Am
set_option maxRecDepth 100000

theorem call_true {H : Type} {enc : TypeId × Value → H} (W : World) (base : Nat) (args : Array Value) (ds gs : List (DataW H)) (ts : List TypeId) (before : List MemPlace)
    (hval : ∀ (j : Nat) t v, Try.f4.params[j]? = some t → args[j]? = some v → Value.okWide Try.prog W .any base t v)
    (hA : DataW.TrodAll enc Try.prog W 0 (fun _ => true) true Try.f4.params.toList args.toList ds before)
    (hw : (DataW.weightsEach Try.prog (Try.f4.params.toList ++ ts) (ds ++ gs)).all (· ≤ reachBytes) = true) :
    (Run env).call 4 (args.toList.map (toA W)) (heapOf W) fun v _ => v = .bool true := by
  rw [Try.params4] at hA hval hw
  obtain ⟨v0, vs0, d0, ds0, p0, q0, hargs0, rfl, rfl, h0, r0⟩ := trodAll_cons hA
  obtain ⟨v1, vs1, d1, ds1, p1, q1, hargs1, rfl, rfl, h1, r1⟩ := trodAll_cons r0
  obtain ⟨hargs2, rfl, rfl⟩ := trodAll_nil r1
  obtain rfl : args = #[v0, v1] := by cases args; simp_all
  obtain ⟨x0, rfl, rfl⟩ := arg_string2 (P := env.P) (W := W) Try.underlying9 (hval 0 9 v0 rfl rfl) h0
  have e0 : toA W (.string x0) = .str x0 := rfl
  obtain ⟨x1, rfl, rfl⟩ := arg_string2 (P := env.P) (W := W) Try.underlying9 (hval 1 9 v1 rfl rfl) h1
  have e1 : toA W (.string x1) = .str x1 := rfl
  show (Run env).call 4 [toA W (.string x0), toA W (.string x1)] (heapOf W) _
  rw [e0, e1]
  exact law_WordJoins (memStart W) x0 x1 (by have h := hw; simp [DataW.weightsEach, DataW.weights, reachBytes] at h; exact of_decide_eq_true h.1) (by have h := hw; simp [DataW.weightsEach, DataW.weights, reachBytes] at h; exact of_decide_eq_true h.2.1)

theorem lifted (os : Os) (started : os.Started) (H : Type) (enc : TypeId × Value → H) :
    ReturnsInHanded {} Try.checked os 4 .any (Rows.wordJoinsSpec.pre6 enc Try.prog Try.f4 Rows.wordJoinsRow.domain false) (Rows.wordJoinsSpec.post enc Try.prog Try.f4 false true false false) := by
  refine returnsInHanded_of_change_sized (C := Try.checked) own started (by kernel_rfl) Try.func4
    (ChangeSpec.witness6 (enc := enc) (C := Try.checked) false ⟨#[], #[.string ⟨#[]⟩, .string ⟨#[]⟩], []⟩ 8 (by kernel_rfl) (by kernel_rfl) (by kernel_rfl) (by kernel_rfl)) ?_
  intro W base args ds gs before hval hW hcnd hwt _
  refine law_of_call (E := env) extOk mixed laid (tb := 4) Try.underlying4 (par_ok (by kernel_rfl)) (by kernel_rfl) rfl (fun ds hl => ?_) hW ?_
  · rw [show Try.f4.params.size = 2 from rfl] at hl
    obtain ⟨z0, l0, rfl⟩ : ∃ z l, ds = z :: l := by cases ds <;> simp_all
    obtain ⟨z1, l1, rfl⟩ : ∃ z l, l0 = z :: l := by cases l0 <;> simp_all
    obtain rfl : l1 = [] := by cases l1 <;> simp_all
    rfl
  · obtain ⟨p, q, hA, hV, rfl, _, _⟩ := hW
    exact call_true W base args ds gs _ p hval hA hwt

theorem over : Rows.wordJoinsRow.holds Try.pinned (OpenSpec.ofChange Rows.wordJoinsSpec) :=
  OpenClaim.holds_of_wide 4 Try.f4 rfl rfl rfl rfl rfl rfl rfl ⟨rfl, rfl, rfl, rfl, rfl⟩ rfl rfl rfl rfl rfl (by kernel_rfl) Try.func4 (by kernel_rfl)
    (of_decide_eq_true (by kernel_rfl)) (by unfold Func.isWrapper; first | (rw [if_pos (by decide +kernel)]; kernel_rfl) | (rw [if_neg (by decide +kernel)]; exact ⟨rfl, rfl⟩))
    (fun os started H enc _ => lifted os started H enc)

theorem proved : Rows.WordJoinsSaid := over
#print axioms proved
end Go.Proofs.Ytibkggbidojocaa.wordJoins
