/- Signs of a text: the calls that only read. -/
import Derived.Test.YtibkggbidojocaaDoorEqsW
import Derived.Test.YtibkggbidojocaaDoorWordR
import Derived.Test.YtibkggbidojocaaDoorAmByt
namespace Go.Proofs.YtibkggbidojocaaDoor
open Go.Am Go.Lib
set_option maxRecDepth 100000
set_option linter.unusedSimpArgs false
set_option linter.unusedVariables false
set_option linter.unusedSectionVars false

/-- A byte of a text. -/
def bAt (bs : List UInt8) (i : Nat) : Nat := (bs.getD i 0).toNat
theorem bAt_lt (bs : List UInt8) (i : Nat) : bAt bs i < 256 := (bs.getD i 0).toNat_lt

theorem byteAt_of (bs : List UInt8) (i : Nat) : byteAt (strOf bs) i = (bAt bs i : Int) := by
  unfold byteAt bAt strOf
  have := getD_get!' (⟨bs.toArray⟩ : ByteArray) i
  simp only [List.toList_toArray] at this
  rw [this]

/-- A sign by its bytes. -/
def signN (n b0 b1 b2 b3 : Nat) : Nat × Nat :=
  if b0 < 128 then (1, b0)
  else if 192 ≤ b0 ∧ b0 < 224 then
    (if 1 < n then (if 128 ≤ b1 ∧ b1 ≤ 191 then (if (b0 - 192) * 64 + b1 - 128 < 128 then (0, 0) else (2, (b0 - 192) * 64 + b1 - 128)) else (0, 0)) else (0, 0))
  else if 224 ≤ b0 ∧ b0 < 240 then
    (if 2 < n then (if 128 ≤ b1 ∧ b1 ≤ 191 then (if 128 ≤ b2 ∧ b2 ≤ 191 then
      (if ((b0 - 224) * 64 + b1 - 128) * 64 + b2 - 128 < 2048 ∨ (55296 ≤ ((b0 - 224) * 64 + b1 - 128) * 64 + b2 - 128 ∧ ((b0 - 224) * 64 + b1 - 128) * 64 + b2 - 128 < 57344) then (0, 0) else (3, ((b0 - 224) * 64 + b1 - 128) * 64 + b2 - 128)) else (0, 0)) else (0, 0)) else (0, 0))
  else if 240 ≤ b0 ∧ b0 < 248 then
    (if 3 < n then (if 128 ≤ b1 ∧ b1 ≤ 191 then (if 128 ≤ b2 ∧ b2 ≤ 191 then (if 128 ≤ b3 ∧ b3 ≤ 191 then
      (if (((b0 - 240) * 64 + b1 - 128) * 64 + b2 - 128) * 64 + b3 - 128 < 65536 ∨ (((b0 - 240) * 64 + b1 - 128) * 64 + b2 - 128) * 64 + b3 - 128 > 1114111 then (0, 0) else (4, (((b0 - 240) * 64 + b1 - 128) * 64 + b2 - 128) * 64 + b3 - 128)) else (0, 0)) else (0, 0)) else (0, 0)) else (0, 0))
  else (0, 0)

set_option maxHeartbeats 4000000 in
theorem sgn_N (l : List UInt8) : sgn l = signN l.length (l.getD 0 0).toNat (l.getD 1 0).toNat (l.getD 2 0).toNat (l.getD 3 0).toNat := by
  have k0 := (l.getD 0 0).toNat_lt
  unfold sgn
  rw [decodeL_N]
  generalize (l.getD 0 0).toNat = b0 at *
  generalize (l.getD 1 0).toNat = b1 at *
  generalize (l.getD 2 0).toNat = b2 at *
  generalize (l.getD 3 0).toNat = b3 at *
  generalize l.length = n at *
  unfold decodeN signN
  repeat' split
  all_goals first | rfl | (exfalso; omega) | (apply Prod.ext <;> dsimp only <;> omega) | (exfalso; rename_i h; revert h; dsimp only; omega)

theorem sgn_at (bs : List UInt8) (i : Nat) : sgn (bs.drop i) = signN (bs.length - i) (bAt bs i) (bAt bs (i + 1)) (bAt bs (i + 2)) (bAt bs (i + 3)) := by
  rw [sgn_N, List.length_drop]
  unfold bAt
  rw [getD_dropU, getD_dropU, getD_dropU, getD_dropU, Nat.add_zero]

section

variable {H : Am.Heap} {K : V → Am.Heap → Prop} {bs : List UInt8}

end

end Go.Proofs.YtibkggbidojocaaDoor
