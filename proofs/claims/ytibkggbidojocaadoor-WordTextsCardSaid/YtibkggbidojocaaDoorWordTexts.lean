/- The law drawbarlaw02.WordTexts holds: whatever the input, the call returns true, and each argument reads behind it as before. -/
import Derived.Test.YtibkggbidojocaaDoorRows
import Derived.Test.YtibkggbidojocaaDoorWordU
import Derived.Test.YtibkggbidojocaaDoorSeat
import Derived.Test.YtibkggbidojocaaDoorWordW
import Derived.SizedLaws
import Derived.Handed
import Derived.LaidMore
import Derived.SevenTiedAt
import Derived.Test.YtibkggbidojocaaDoorAmG
import Derived.Test.YtibkggbidojocaaDoorCards
import Derived.Test.YtibkggbidojocaaDoorTie
namespace Go.Proofs.YtibkggbidojocaaDoor.wordTexts
open Go.ChangeShapes Go.WideShapes Go.ChangeAt Go.RowKit Go.Am
set_option maxRecDepth 100000

abbrev laidL : List (String × DataW Unit) := Rows.wordTextsRow.laid

theorem door_met (os : Os) (args : Array Value) : laidMetH Tryd.prog laidL ((World.doorLaid Tryd.prog 4000 os).forCall (fun _ _ => 0) ⟨#[], args, []⟩).memory :=
  laidMetH_of_parts3 (fuel := 8) (laidMet_of_run' 8 (by kernel_rfl) (by kernel_rfl)) (by kernel_rfl) (by kernel_rfl)

theorem call_true {H : Type} {enc : TypeId × Value → H} (W : World) (base : Nat) (args : Array Value) (ds gs : List (DataW H)) (ts : List TypeId) (before : List MemPlace)
    (hval : ∀ (j : Nat) t v, Tryd.f4.params[j]? = some t → args[j]? = some v → Value.okWide Tryd.prog W .any base t v)
    (hA : DataW.TrodAll enc Tryd.prog W 0 (fun _ => true) true Tryd.f4.params.toList args.toList ds before)
    (hG : GL (heapOf W)) (hw : (DataW.weightsEach Tryd.prog (Tryd.f4.params.toList ++ ts) (ds ++ gs)).all (· ≤ reachBytes) = true) :
    (Run env).call 4 (args.toList.map (toA W)) (heapOf W) fun v _ => v = .bool true := by
  rw [Tryd.params4] at hA hval hw
  obtain ⟨v0, vs0, d0, ds0, p0, q0, hargs0, rfl, rfl, h0, r0⟩ := trodAll_cons hA
  obtain ⟨hargs1, rfl, rfl⟩ := trodAll_nil r0
  obtain rfl : args = #[v0] := by cases args; simp_all
  obtain ⟨x0, rfl, rfl⟩ := arg_string2 (P := env.P) (W := W) Tryd.underlying9 (hval 0 9 v0 rfl rfl) h0
  have e0 : toA W (.string x0) = .str x0 := rfl
  show (Run env).call 4 [toA W (.string x0)] (heapOf W) _
  rw [e0]
  exact law_WordTexts hG (memStart W) x0 (by have h := hw; simp [DataW.weightsEach, DataW.weights, reachBytes] at h; exact of_decide_eq_true h.1)

theorem lifted (os : Os) (started : os.Started) (H : Type) (enc : TypeId × Value → H) :
    ReturnsInHanded {} Tryd.checked os 4 .any (fun w args => (Rows.wordTextsSpec.pre enc Tryd.prog Tryd.f4 [] false w args ∧ laidMetH Tryd.prog laidL w) ∧ sizedMet enc Tryd.prog Tryd.f4 (OpenSpec.ofChange Rows.wordTextsSpec) false w args) (Rows.wordTextsSpec.post enc Tryd.prog Tryd.f4 false true false false) := by
  refine returnsInHanded_of_change_and (C := Tryd.checked) (X := fun w _ => laidMetH Tryd.prog laidL w) (fun _ _ _ hh h => h.of_heap hh) own started (by kernel_rfl) Tryd.func4
    (ChangeSpec.witness_shaped (enc := enc) (C := Tryd.checked) (os := os) (X := fun w _ => laidMetH Tryd.prog laidL w) false (World.doorLaid Tryd.prog 4000 os) #[.string ⟨#[]⟩] 8 rfl (World.shaped_of_RefB (by kernel_rfl) (by kernel_rfl)) (by kernel_rfl) (by kernel_rfl) (by kernel_rfl) (door_met os _)) ?_
  intro W base args ds gs before hval hW hcnd hwt hL _
  have hgl := glob_of rfl hL
  refine law_of_call (E := env) extOk mixed laid (tb := 4) Tryd.underlying4 (par_ok (by kernel_rfl)) (by kernel_rfl) rfl (fun ds hl => ?_) hW ?_ hgl.2
  · rw [show Tryd.f4.params.size = 1 from rfl] at hl
    obtain ⟨z0, l0, rfl⟩ : ∃ z l, ds = z :: l := by cases ds <;> simp_all
    obtain rfl : l0 = [] := by cases l0 <;> simp_all
    rfl
  · obtain ⟨p, q, hA, hV, rfl, _, _⟩ := hW
    exact call_true W base args ds gs _ p hval hA hgl.1 hwt

theorem over : Rows.wordTextsRow.holds Tryd.pinned (OpenSpec.ofChange Rows.wordTextsSpec) :=
  OpenClaim.holds_of_wide 4 Tryd.f4 rfl rfl rfl rfl rfl rfl rfl ⟨rfl, rfl, rfl, rfl, rfl⟩ rfl rfl rfl rfl rfl (by kernel_rfl) Tryd.func4 (by kernel_rfl)
    (of_decide_eq_true (by kernel_rfl)) (by unfold Func.isWrapper; first | (rw [if_pos (by decide +kernel)]; kernel_rfl) | (rw [if_neg (by decide +kernel)]; exact ⟨rfl, rfl⟩))
    (fun os started H enc _ => lifted os started H enc)

theorem proved : Rows.WordTextsCardSaid :=
  Claim7.holds_tied_plain_at .later [] [.data, .data, .data, .sentinel, .sentinel] true (true, "3526a2f38278af496a7f198af84df25879ddc4ed0ff2cdebe470b37d8ddf5ed8") true
    over (fun _ h => by cases h) (by kernel_rfl) (fun _ h => by cases h) wordTexts_row_tie rfl ⟨rfl, rfl⟩ (by kernel_rfl) rfl
    (fun f fn hf hfn => by
      obtain rfl : f = 4 := Option.some.inj ((show Tryd.prog.funcNamed "drawbar/drawbarlaw02.WordTexts" = some 4 by kernel_rfl).symm.trans hf) |>.symm
      obtain rfl : fn = Tryd.f4 := (Option.some.inj (Tryd.func4.symm.trans hfn)).symm
      exact ⟨by kernel_rfl, fun j t ht => by
        have hm : t ∈ Tryd.f4.params := Array.mem_of_getElem? ht
        have hall : (Tryd.f4.params.toList.all fun u => !Tryd.prog.wantsStandIn u) = true := by kernel_rfl
        exact (show Tryd.prog.wantsStandIn t = false by simpa using List.all_eq_true.1 hall t (Array.mem_toList_iff.2 hm))⟩)
    (by kernel_rfl)
#print axioms proved
end Go.Proofs.YtibkggbidojocaaDoor.wordTexts
