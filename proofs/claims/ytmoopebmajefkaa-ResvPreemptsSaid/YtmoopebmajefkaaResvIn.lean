/- The inputs of the laws of layer 12, as they read. -/
import Derived.Test.YtmoopebmajefkaaResvQ
import Derived.Test.YtmoopebmajefkaaAmLaw
namespace Go.Proofs.Ytmoopebmajefkaa
open Go.Am
set_option maxRecDepth 100000
set_option linter.unusedSimpArgs false
set_option linter.unusedVariables false

theorem u8_range {y : Int} (h : IntKind.u8.min ≤ y ∧ y ≤ IntKind.u8.max) : 0 ≤ y ∧ y ≤ 255 := by
  simpa [IntKind.min, IntKind.max, IntKind.bits, IntKind.signed] using h

theorem cells_u8 : env.P.cellsOf 5 = 1 := by kernel_rfl
theorem cells_bool : env.P.cellsOf 4 = 1 := by kernel_rfl
theorem cells_Act : env.P.cellsOf 34 = 7 := by kernel_rfl

theorem act_of {H : Am.Heap} {n : Nat} {cs : List V} (h : tyC env.P H n 34 cs) : ∃ a : Act, cs = a.cs ∧ a.ok := by
  obtain ⟨hl, m, hf⟩ := ty_struct (P := env.P) Try.underlying34 h
  rw [cells_Act] at hl
  match cs, hl with
  | [a0, a1, a2, a3, a4, a5, a6], _ =>
    simp only [List.forall_mem_cons, cells_u8, cells_bool, List.drop_succ_cons, List.drop_zero, List.take_succ_cons, List.take_zero] at hf
    obtain ⟨h0, h1, h2, h3, h4, h5, h6, _⟩ := hf
    obtain ⟨y0, rfl, r0⟩ := ty_int (P := env.P) Try.underlying5 h0
    obtain ⟨y1, rfl, r1⟩ := ty_int (P := env.P) Try.underlying5 h1
    obtain ⟨y2, rfl, r2⟩ := ty_int (P := env.P) Try.underlying5 h2
    obtain ⟨y3, rfl, r3⟩ := ty_int (P := env.P) Try.underlying5 h3
    obtain ⟨y4, rfl, r4⟩ := ty_int (P := env.P) Try.underlying5 h4
    obtain ⟨y5, rfl⟩ := ty_bool (P := env.P) Try.underlying4 h5
    obtain ⟨y6, rfl⟩ := ty_bool (P := env.P) Try.underlying4 h6
    exact ⟨⟨y0, y1, y2, y3, y4, y5, y6⟩, rfl, u8_range r0, u8_range r1, u8_range r2, u8_range r3, u8_range r4⟩

theorem scr_of {H : Am.Heap} {q : Option (Nat × Nat)} {len cap : Nat} (h : SlTy env.P H 34 q len cap) : ∃ A, Scr H q len A := by
  obtain ⟨h1, _, _, n, h2⟩ := h
  have key : ∀ i, ∃ a : Act, i < len → ∃ id off, q = some (id, off) ∧ id < H.next ∧ H.inb id (off + i * 7) 7 = true ∧ H.sub id (off + i * 7) 7 = a.cs ∧ a.ok := by
    intro i
    by_cases hi : i < len
    · obtain ⟨id, off, e1, e2, e3, e4⟩ := h2 i (by omega)
      rw [cells_Act] at e3 e4
      obtain ⟨a, e5, e6⟩ := act_of e4
      exact ⟨a, fun _ => ⟨id, off, e1, e2, e3, e5, e6⟩⟩
    · exact ⟨⟨0, 0, 0, 0, 0, false, false⟩, fun h => absurd h hi⟩
  exact ⟨fun i => Classical.choose (key i), ⟨fun i hi => Classical.choose_spec (key i) hi⟩⟩

theorem i64_range {y : Int} (h : IntKind.i64.min ≤ y ∧ y ≤ IntKind.i64.max) : -9223372036854775808 ≤ y ∧ y ≤ 9223372036854775807 := by
  simpa [IntKind.min, IntKind.max, IntKind.bits, IntKind.signed] using h
theorem u32_range {y : Int} (h : IntKind.u32.min ≤ y ∧ y ≤ IntKind.u32.max) : 0 ≤ y ∧ y ≤ 4294967295 := by
  simpa [IntKind.min, IntKind.max, IntKind.bits, IntKind.signed] using h

theorem cells_int : env.P.cellsOf 3 = 1 := by kernel_rfl
theorem cells_u32 : env.P.cellsOf 24 = 1 := by kernel_rfl
theorem cells_bytes : env.P.cellsOf 23 = 1 := by kernel_rfl
theorem cells_Cmd : env.P.cellsOf 26 = 8 := by kernel_rfl

structure Cm.ok (c : Cm) (H : Am.Heap) : Prop where
  kd : 0 ≤ c.kd ∧ c.kd ≤ 255
  lba : -9223372036854775808 ≤ c.lba ∧ c.lba ≤ 9223372036854775807
  data : SlTy env.P H 5 c.dp c.dn c.dc
  ky : 0 ≤ c.ky ∧ c.ky ≤ 4294967295
  nw : 0 ≤ c.nw ∧ c.nw ≤ 4294967295
  ty : 0 ≤ c.ty ∧ c.ty ≤ 255

theorem cmd_of {H : Am.Heap} {n : Nat} {cs : List V} (h : tyC env.P H n 26 cs) : ∃ c : Cm, cs = c.cs ∧ c.ok H := by
  obtain ⟨hl, m, hf⟩ := ty_struct (P := env.P) Try.underlying26 h
  rw [cells_Cmd] at hl
  match cs, hl with
  | [a0, a1, a2, a3, a4, a5, a6, a7], _ =>
    simp only [List.forall_mem_cons, cells_u8, cells_bool, cells_int, cells_u32, cells_bytes, List.drop_succ_cons, List.drop_zero, List.take_succ_cons, List.take_zero] at hf
    obtain ⟨h0, h1, h2, h3, h4, h5, h6, h7, _⟩ := hf
    obtain ⟨y0, rfl, r0⟩ := ty_int (P := env.P) Try.underlying5 h0
    obtain ⟨y1, rfl, r1⟩ := ty_int (P := env.P) Try.underlying3 h1
    obtain ⟨q, len, cap, rfl, r2⟩ := ty_slice (P := env.P) Try.underlying23 (Nat.le_of_ble_eq_true (by kernel_rfl)) h2
    obtain ⟨y3, rfl⟩ := ty_bool (P := env.P) Try.underlying4 h3
    obtain ⟨y4, rfl, r4⟩ := ty_int (P := env.P) Try.underlying24 h4
    obtain ⟨y5, rfl, r5⟩ := ty_int (P := env.P) Try.underlying24 h5
    obtain ⟨y6, rfl, r6⟩ := ty_int (P := env.P) Try.underlying5 h6
    obtain ⟨y7, rfl⟩ := ty_bool (P := env.P) Try.underlying4 h7
    exact ⟨⟨y0, y1, q, len, cap, y3, y4, y5, y6, y7⟩, rfl, u8_range r0, i64_range r1, r2, u32_range r4, u32_range r5, u8_range r6⟩

end Go.Proofs.Ytmoopebmajefkaa
