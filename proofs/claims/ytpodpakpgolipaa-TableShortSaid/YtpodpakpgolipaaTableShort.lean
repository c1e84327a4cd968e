/- The law drawbarlaw13.TableShort holds: whatever the input, the call returns true, and each argument reads behind it as before. -/
import Derived.Test.YtpodpakpgolipaaRows
import Derived.Test.YtpodpakpgolipaaTabM
import Derived.Test.YtpodpakpgolipaaSeat
namespace Go.Proofs.Ytpodpakpgolipaa.tableShort
open Go.ChangeShapes Go.WideShapes Go.ChangeAt Go.RowKit Go.Am
set_option maxRecDepth 100000

theorem call_true {H : Type} {enc : TypeId × Value → H} (W : World) (base : Nat) (args : Array Value) (ds : List (DataW H)) (before : List MemPlace)
    (hval : ∀ (j : Nat) t v, Try.f9.params[j]? = some t → args[j]? = some v → Value.okWide Try.prog W .any base t v)
    (hA : DataW.TrodAll enc Try.prog W 0 (fun _ => true) true Try.f9.params.toList args.toList ds before) :
    (Run env).call 9 (args.toList.map (toA W)) (heapOf W) fun v _ => v = .bool true := by
  rw [Try.params9] at hA hval
  obtain ⟨v0, vs0, d0, ds0, p0, q0, hargs0, rfl, rfl, h0, r0⟩ := trodAll_cons hA
  obtain ⟨v1, vs1, d1, ds1, p1, q1, hargs1, rfl, rfl, h1, r1⟩ := trodAll_cons r0
  obtain ⟨v2, vs2, d2, ds2, p2, q2, hargs2, rfl, rfl, h2, r2⟩ := trodAll_cons r1
  obtain ⟨v3, vs3, d3, ds3, p3, q3, hargs3, rfl, rfl, h3, r3⟩ := trodAll_cons r2
  obtain ⟨hargs4, rfl, rfl⟩ := trodAll_nil r3
  obtain rfl : args = #[v0, v1, v2, v3] := by cases args; simp_all
  obtain ⟨cs0, n0, hx0, e0⟩ := arg_struct (P := env.P) (W := W) Try.underlying25 (hval 0 25 v0 rfl rfl) h0
  obtain ⟨x0, rfl, o0⟩ := resv_of hx0
  have e0 := e0 (fits_one (R.fits_cs x0))
  obtain ⟨x1, e1, l1, g1⟩ := arg_int (P := env.P) (W := W) Try.underlying29 (hval 1 29 v1 rfl rfl) h1
  obtain ⟨x2, e2, l2, g2⟩ := arg_int (P := env.P) (W := W) Try.underlying5 (hval 2 5 v2 rfl rfl) h2
  obtain ⟨x3, len3, cap3, e3, hs3⟩ := arg_slice (P := env.P) (W := W) Try.underlying31 (Nat.le_of_ble_eq_true (by kernel_rfl)) (hval 3 31 v3 rfl rfl) h3
  show (Run env).call 9 [toA W v0, toA W v1, toA W v2, toA W v3] (heapOf W) _
  rw [e0, e1, e2, e3]
  exact law_TableShort (memStart W) x0 x1 x2 x3 len3 cap3 o0 (by simpa [IntKind.min, IntKind.max, IntKind.bits, IntKind.signed] using l1) (by simpa [IntKind.min, IntKind.max, IntKind.bits, IntKind.signed] using g1) (by simpa [IntKind.min, IntKind.max, IntKind.bits, IntKind.signed] using l2) (by simpa [IntKind.min, IntKind.max, IntKind.bits, IntKind.signed] using g2) hs3

theorem lifted (os : Os) (started : os.Started) (H : Type) (enc : TypeId × Value → H) :
    ReturnsInHanded {} Try.checked os 9 .any (Rows.tableShortSpec.pre6 enc Try.prog Try.f9 Rows.tableShortRow.domain false) (Rows.tableShortSpec.post enc Try.prog Try.f9 false true false false) := by
  refine returnsInHanded_of_change (C := Try.checked) own started (by kernel_rfl) Try.func9
    (ChangeSpec.witness6 (enc := enc) (C := Try.checked) false ⟨#[], #[.agg #[.int .u32 0, .int .u32 0, .int .u32 0, .int .u32 0, .int .u32 0, .int .u32 0, .int .u32 0, .int .u32 0, .int .u8 0, .int .i64 0, .int .u32 0, .bool false], .int .u16 0, .int .u8 0, .slice none 0 0], []⟩ 8 (by kernel_rfl) (by kernel_rfl) (by kernel_rfl) (by kernel_rfl)) ?_
  intro W base args ds gs before hval hW hcnd _
  refine law_of_call (E := env) extOk mixed laid (tb := 4) Try.underlying4 (par_ok (by kernel_rfl)) (by kernel_rfl) rfl (fun ds hl => ?_) hW ?_
  · rw [show Try.f9.params.size = 4 from rfl] at hl
    obtain ⟨z0, l0, rfl⟩ : ∃ z l, ds = z :: l := by cases ds <;> simp_all
    obtain ⟨z1, l1, rfl⟩ : ∃ z l, l0 = z :: l := by cases l0 <;> simp_all
    obtain ⟨z2, l2, rfl⟩ : ∃ z l, l1 = z :: l := by cases l1 <;> simp_all
    obtain ⟨z3, l3, rfl⟩ : ∃ z l, l2 = z :: l := by cases l2 <;> simp_all
    obtain rfl : l3 = [] := by cases l3 <;> simp_all
    rfl
  · obtain ⟨p, q, hA, hV, rfl, _, _⟩ := hW
    exact call_true W base args ds p hval hA

theorem over : Rows.tableShortRow.holds Try.pinned (OpenSpec.ofChange Rows.tableShortSpec) :=
  OpenClaim.holds_of_wide 9 Try.f9 rfl rfl rfl rfl rfl rfl rfl ⟨rfl, rfl, rfl, rfl, rfl⟩ rfl rfl rfl rfl rfl (by kernel_rfl) Try.func9 (by kernel_rfl)
    (of_decide_eq_true (by kernel_rfl)) (by unfold Func.isWrapper; first | (rw [if_pos (by decide +kernel)]; kernel_rfl) | (rw [if_neg (by decide +kernel)]; exact ⟨rfl, rfl⟩))
    (fun os started H enc _ => lifted os started H enc)

theorem proved : Rows.TableShortSaid := over
#print axioms proved
end Go.Proofs.Ytpodpakpgolipaa.tableShort
