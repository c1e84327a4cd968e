/- The walks of the builder's functions. -/
import Derived.Test.YtibkggbidojocaaDoorAmUse
import Derived.Test.YtibkggbidojocaaDoorAmExt
import Derived.Test.YtibkggbidojocaaDoorProg
import Derived.KernelRfl
import Derived.Lib.Builder
import Derived.Lib.UnsafeStr
import Derived.Lib.Walk
import Derived.WalkKit
namespace Go.Proofs.YtibkggbidojocaaDoor
open Go.Am Go.RowKit Go.Proofs
set_option maxRecDepth 100000
set_option linter.unusedVariables false
set_option linter.unusedSimpArgs false

theorem ccU (b off : Nat) (w : World) (h0 : w.cell? ⟨b, off, none⟩ = some (.pointer (some ⟨b, off, none⟩))) :
    Calls Tryd.prog 50 #[.pointer (some ⟨b, off, none⟩)] w fun e w' => e = .returned (.tuple #[]) ∧ w' = w := by
  obtain ⟨j, hj⟩ : ∃ j, Tryd.prog.info? 44 = some j := Option.isSome_iff_exists.1 (by kernel_rfl)
  go_enter Tryd.func50, Tryd.ntmps50
  go_wp2
  rw [Lib.run_neq_ptr_same w _ Tryd.underlying42 hj]
  go_wp2
  go_end0
  exact ⟨rfl, rfl⟩

theorem ccF (b off : Nat) (w : World) (e : TypeId) (cells : Nat) (h0 : w.cell? ⟨b, off, none⟩ = some (.pointer none)) (hsh : w.shape? b = some (e, cells)) (hoff : off < cells)
    (hfz : w.frozen? ⟨b, off, none⟩ = false) (hl : liesAt Tryd.prog Tryd.prog.depth e (cells / Tryd.prog.cellsOf e) off 44 1 = true) :
    Calls Tryd.prog 50 #[.pointer (some ⟨b, off, none⟩)] w fun x w' => x = .returned (.tuple #[]) ∧ w' = w.setCell ⟨b, off, none⟩ (.pointer (some ⟨b, off, none⟩)) := by
  obtain ⟨j, hj, hjs⟩ := Option.map_eq_some_iff.1 (by kernel_rfl : (Tryd.prog.info? 44).map (·.size) = some 2)
  go_enter Tryd.func50, Tryd.ntmps50
  go_wp2
  rw [Lib.run_to_unsafe w ⟨b, off, none⟩ Tryd.underlying42 Tryd.underlying89 hj (by rw [hjs]; decide) hsh hoff]
  simp only [Result.andThen]
  rw [Oper.upon_value]
  go_wp2
  rw [run_callFunc_extern Tryd.func56 (by kernel_rfl) (by kernel_rfl) (by kernel_rfl) (e := Extern.AbiNoEscape.same) (by kernel_rfl)]
  rw [Lib.run_noEscape]
  simp only [Result.andThen]
  rw [Oper.upon_value]
  go_wp2
  rw [Lib.run_from_unsafe w ⟨b, off, none⟩ Tryd.underlying89 Tryd.underlying42 hj hsh hl]
  simp only [Result.andThen]
  rw [Oper.upon_value]
  go_wp2
  go_end0
  exact ⟨rfl, rfl⟩

theorem xo50 : XOk Tryd.prog 50 (.copyCheck 44) := ⟨enters Tryd.func50 (by kernel_rfl) rfl, ccF, ccU⟩

theorem bsN (b off : Nat) (w : World) (h0 : w.cell? ⟨b, off + 1, none⟩ = some (.slice none 0 0)) :
    Calls Tryd.prog 34 #[.pointer (some ⟨b, off, none⟩)] w fun x w' => x = .returned (.string ⟨#[]⟩) ∧ Quiet w w' := by
  have c1 : w.drew.cell? ⟨b, off + 1, none⟩ = some (.slice none 0 0) := h0
  have hSD : (Builtin.unsafeSliceData_ #[25] 84 #[.slice none 0 0]).run Tryd.prog w.drew = .ok (.pointer none) w.drew := rfl
  have hUS := Lib.run_unsafeString_none (P := Tryd.prog) w.drew 84 3 9 none
  go_enter Tryd.func34, Tryd.ntmps34
  go_wp2
  go_region
  all_goals (go_wp2; go_ret; exact ⟨rfl, rfl, rfl, rfl, rfl⟩)

theorem bsS (b off : Nat) (w : World) (i : Nat) (l : List UInt8) (c cells : Nat) (h0 : w.cell? ⟨b, off + 1, none⟩ = some (.slice (some ⟨i, 0, none⟩) l.length c)) (hl : l ≠ []) (hc : l.length ≤ c)
    (hsh : w.shape? i = some (5, cells)) (hn : l.length ≤ cells) (h63 : l.length ≤ 9223372036854775807) (hcell : ∀ j x, l[j]? = some x → w.cell? ((⟨i, 0, none⟩ : Addr).add j) = some (.int .u8 x.toNat)) :
    Calls Tryd.prog 34 #[.pointer (some ⟨b, off, none⟩)] w fun x w' => x = .returned (.string ⟨l.toArray⟩) ∧ Quiet (w.freeze ⟨i, 0, none⟩ l.length) w' := by
  have hl0 : l.length ≠ 0 := fun h => hl (List.length_eq_zero_iff.1 h)
  have c1 : w.drew.cell? ⟨b, off + 1, none⟩ = some (.slice (some ⟨i, 0, none⟩) l.length c) := h0
  have hSD : (Builtin.unsafeSliceData_ #[25] 84 #[.slice (some ⟨i, 0, none⟩) l.length c]).run Tryd.prog w.drew = .ok (.pointer (some ⟨i, 0, none⟩)) w.drew :=
    Lib.run_unsafeSliceData_row _ _ _ _ _ _ (by omega)
  have hUS : (Builtin.unsafeString_ #[84, 3] 9 #[.pointer (some ⟨i, 0, none⟩), .int .i64 l.length]).run Tryd.prog w.drew = .ok (.string ⟨l.toArray⟩) (w.drew.freeze ⟨i, 0, none⟩ l.length) :=
    Lib.run_unsafeString_row w.drew 84 3 9 5 Tryd.underlying84 (by kernel_rfl) i cells hsh l hl hn h63 hcell
  go_enter Tryd.func34, Tryd.ntmps34
  go_wp2
  go_region
  all_goals (go_wp2; go_ret; refine ⟨rfl, ?_⟩; unfold Quiet World.freeze; rw [if_neg hl0, if_neg hl0]; exact ⟨rfl, rfl, rfl, rfl⟩)

theorem xo34 : XOk Tryd.prog 34 (.bString 5) := ⟨enters Tryd.func34 (by kernel_rfl) rfl, bsN, bsS⟩
end Go.Proofs.YtibkggbidojocaaDoor
