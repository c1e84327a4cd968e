/- The law drawbarlaw02.WordNumbers holds: whatever the input, the call returns true, and each argument reads behind it as before. -/
import Derived.Test.YtibkggbidojocaaDoorRows
import Derived.Test.YtibkggbidojocaaDoorWordU
import Derived.Test.YtibkggbidojocaaDoorSeat
import Derived.Test.YtibkggbidojocaaDoorWordW
import Derived.SizedLaws
import Derived.Handed
import Derived.LaidMore
import Derived.SevenTiedAt
import Derived.Test.YtibkggbidojocaaDoorAmG
import Derived.Test.YtibkggbidojocaaDoorCards
import Derived.Test.YtibkggbidojocaaDoorTie
namespace Go.Proofs.YtibkggbidojocaaDoor.wordNumbers
open Go.ChangeShapes Go.WideShapes Go.ChangeAt Go.RowKit Go.Am
set_option maxRecDepth 100000

abbrev laidL : List (String × DataW Unit) := Rows.wordNumbersRow.laid

theorem door_met (os : Os) (args : Array Value) : laidMetH Tryd.prog laidL ((World.doorLaid Tryd.prog 4000 os).forCall (fun _ _ => 0) ⟨#[], args, []⟩).memory :=
  laidMetH_of_parts3 (fuel := 8) (laidMet_of_run' 8 (by kernel_rfl) (by kernel_rfl)) (by kernel_rfl) (by kernel_rfl)

theorem call_true {H : Type} {enc : TypeId × Value → H} (W : World) (base : Nat) (args : Array Value) (ds gs : List (DataW H)) (ts : List TypeId) (before : List MemPlace)
    (hval : ∀ (j : Nat) t v, Tryd.f3.params[j]? = some t → args[j]? = some v → Value.okWide Tryd.prog W .any base t v)
    (hA : DataW.TrodAll enc Tryd.prog W 0 (fun _ => true) true Tryd.f3.params.toList args.toList ds before)
    (hG : GL (heapOf W)) (hw : (DataW.weightsEach Tryd.prog (Tryd.f3.params.toList ++ ts) (ds ++ gs)).all (· ≤ reachBytes) = true) :
    (Run env).call 3 (args.toList.map (toA W)) (heapOf W) fun v _ => v = .bool true := by
  rw [Tryd.params3] at hA hval hw
  obtain ⟨v0, vs0, d0, ds0, p0, q0, hargs0, rfl, rfl, h0, r0⟩ := trodAll_cons hA
  obtain ⟨v1, vs1, d1, ds1, p1, q1, hargs1, rfl, rfl, h1, r1⟩ := trodAll_cons r0
  obtain ⟨hargs2, rfl, rfl⟩ := trodAll_nil r1
  obtain rfl : args = #[v0, v1] := by cases args; simp_all
  obtain ⟨x0, e0, l0, g0⟩ := arg_int (P := env.P) (W := W) Tryd.underlying2 (hval 0 2 v0 rfl rfl) h0
  obtain ⟨x1, e1, l1, g1⟩ := arg_int (P := env.P) (W := W) Tryd.underlying5 (hval 1 5 v1 rfl rfl) h1
  show (Run env).call 3 [toA W v0, toA W v1] (heapOf W) _
  rw [e0, e1]
  exact law_WordNumbers hG (memStart W) x0 x1 (by simpa [IntKind.min, IntKind.max, IntKind.bits, IntKind.signed] using l0) (by simpa [IntKind.min, IntKind.max, IntKind.bits, IntKind.signed] using g0) (by simpa [IntKind.min, IntKind.max, IntKind.bits, IntKind.signed] using l1) (by simpa [IntKind.min, IntKind.max, IntKind.bits, IntKind.signed] using g1)

theorem lifted (os : Os) (started : os.Started) (H : Type) (enc : TypeId × Value → H) :
    ReturnsInHanded {} Tryd.checked os 3 .any (fun w args => (Rows.wordNumbersSpec.pre enc Tryd.prog Tryd.f3 [] false w args ∧ laidMetH Tryd.prog laidL w) ∧ sizedMet enc Tryd.prog Tryd.f3 (OpenSpec.ofChange Rows.wordNumbersSpec) false w args) (Rows.wordNumbersSpec.post enc Tryd.prog Tryd.f3 false true false false) := by
  refine returnsInHanded_of_change_and (C := Tryd.checked) (X := fun w _ => laidMetH Tryd.prog laidL w) (fun _ _ _ hh h => h.of_heap hh) own started (by kernel_rfl) Tryd.func3
    (ChangeSpec.witness_shaped (enc := enc) (C := Tryd.checked) (os := os) (X := fun w _ => laidMetH Tryd.prog laidL w) false (World.doorLaid Tryd.prog 4000 os) #[.int .i64 0, .int .u8 0] 8 rfl (World.shaped_of_RefB (by kernel_rfl) (by kernel_rfl)) (by kernel_rfl) (by kernel_rfl) (by kernel_rfl) (door_met os _)) ?_
  intro W base args ds gs before hval hW hcnd hwt hL _
  have hgl := glob_of rfl hL
  refine law_of_call (E := env) extOk mixed laid (tb := 4) Tryd.underlying4 (par_ok (by kernel_rfl)) (by kernel_rfl) rfl (fun ds hl => ?_) hW ?_ hgl.2
  · rw [show Tryd.f3.params.size = 2 from rfl] at hl
    obtain ⟨z0, l0, rfl⟩ : ∃ z l, ds = z :: l := by cases ds <;> simp_all
    obtain ⟨z1, l1, rfl⟩ : ∃ z l, l0 = z :: l := by cases l0 <;> simp_all
    obtain rfl : l1 = [] := by cases l1 <;> simp_all
    rfl
  · obtain ⟨p, q, hA, hV, rfl, _, _⟩ := hW
    exact call_true W base args ds gs _ p hval hA hgl.1 hwt

theorem over : Rows.wordNumbersRow.holds Tryd.pinned (OpenSpec.ofChange Rows.wordNumbersSpec) :=
  OpenClaim.holds_of_wide 3 Tryd.f3 rfl rfl rfl rfl rfl rfl rfl ⟨rfl, rfl, rfl, rfl, rfl⟩ rfl rfl rfl rfl rfl (by kernel_rfl) Tryd.func3 (by kernel_rfl)
    (of_decide_eq_true (by kernel_rfl)) (by unfold Func.isWrapper; first | (rw [if_pos (by decide +kernel)]; kernel_rfl) | (rw [if_neg (by decide +kernel)]; exact ⟨rfl, rfl⟩))
    (fun os started H enc _ => lifted os started H enc)

theorem proved : Rows.WordNumbersCardSaid :=
  Claim7.holds_tied_plain_at .later [] [.data, .data, .data, .sentinel, .sentinel] true (true, "3526a2f38278af496a7f198af84df25879ddc4ed0ff2cdebe470b37d8ddf5ed8") true
    over (fun _ h => by cases h) (by kernel_rfl) (fun _ h => by cases h) wordNumbers_row_tie rfl ⟨rfl, rfl⟩ (by kernel_rfl) rfl
    (fun f fn hf hfn => by
      obtain rfl : f = 3 := Option.some.inj ((show Tryd.prog.funcNamed "drawbar/drawbarlaw02.WordNumbers" = some 3 by kernel_rfl).symm.trans hf) |>.symm
      obtain rfl : fn = Tryd.f3 := (Option.some.inj (Tryd.func3.symm.trans hfn)).symm
      exact ⟨by kernel_rfl, fun j t ht => by
        have hm : t ∈ Tryd.f3.params := Array.mem_of_getElem? ht
        have hall : (Tryd.f3.params.toList.all fun u => !Tryd.prog.wantsStandIn u) = true := by kernel_rfl
        exact (show Tryd.prog.wantsStandIn t = false by simpa using List.all_eq_true.1 hall t (Array.mem_toList_iff.2 hm))⟩)
    (by kernel_rfl)
#print axioms proved
end Go.Proofs.YtibkggbidojocaaDoor.wordNumbers
