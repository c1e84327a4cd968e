/- Bytes: numbers in bytes, the lowest first; what the machine's arithmetic makes of them. -/
import Derived.Test.YtibkggbidojocaaDoorAmSep
import Derived.Laws.Strings
namespace Go.Am
set_option linter.unusedSimpArgs false
set_option linter.unusedVariables false
set_option linter.unusedSectionVars false

def le (n : Nat) : Nat → List UInt8
  | 0 => []
  | k + 1 => UInt8.ofNat n :: le (n / 256) k

def unle : List UInt8 → Nat
  | [] => 0
  | b :: l => b.toNat + 256 * unle l

@[simp] theorem le_len (n : Nat) : ∀ k, (le n k).length = k
  | 0 => rfl
  | k + 1 => by rw [le, List.length_cons, le_len]

theorem le_snoc : ∀ (n k : Nat), le n (k + 1) = le n k ++ [UInt8.ofNat (n / 256 ^ k)]
  | n, 0 => by simp [le]
  | n, k + 1 => by
    rw [le, le_snoc (n / 256) k, le]
    simp [Nat.div_div_eq_div_mul, Nat.pow_succ, Nat.mul_comm]

theorem unle_le : ∀ (n k : Nat), unle (le n k) = n % 256 ^ k
  | n, 0 => by simp [le, unle, Nat.mod_one]
  | n, k + 1 => by
    rw [le, unle, unle_le (n / 256) k, Nat.pow_succ, Nat.mul_comm (256 ^ k) 256, Nat.mod_mul]
    simp

theorem le_unle : ∀ l : List UInt8, le (unle l) l.length = l
  | [] => rfl
  | b :: l => by
    have h := b.toNat_lt
    have e1 : (b.toNat + 256 * unle l) / 256 = unle l := by omega
    rw [unle, List.length_cons, le, e1, le_unle l]
    congr 1
    apply UInt8.toNat_inj.1
    simp

theorem unle_lt : ∀ l : List UInt8, unle l < 256 ^ l.length
  | [] => by simp [unle]
  | b :: l => by
    have := b.toNat_lt
    have := unle_lt l
    rw [unle, List.length_cons, Nat.pow_succ]
    omega

theorem unle_append : ∀ a b : List UInt8, unle (a ++ b) = unle a + 256 ^ a.length * unle b
  | [], b => by simp [unle]
  | x :: a, b => by
    rw [List.cons_append, unle, unle_append a b, unle, List.length_cons, Nat.pow_succ, Nat.mul_add, Nat.add_assoc, ← Nat.mul_assoc, Nat.mul_comm 256 (256 ^ a.length)]

theorem unle_inj {a b : List UInt8} (hl : a.length = b.length) (h : unle a = unle b) : a = b := by
  rw [← le_unle a, ← le_unle b, h, hl]

theorem wrap_u8_nat (n : Nat) : IntKind.u8.wrap (n : Int) = ((UInt8.ofNat n).toNat : Int) := by
  rw [IntKind.wrap_u8]; simp
theorem wrap_u64_nat {n : Nat} (h : n < 18446744073709551616) : IntKind.u64.wrap (n : Int) = (n : Int) := IntWalk.u64_in _ (by omega)
theorem wrap_i64_nat {n : Nat} (h : n < 9223372036854775808) : IntKind.i64.wrap (n : Int) = (n : Int) := IntWalk.i64_in _ (by omega)
theorem wrap_u32_nat {n : Nat} (h : n < 4294967296) : IntKind.u32.wrap (n : Int) = (n : Int) := IntWalk.u32_in _ (by omega)

theorem shift_8 {i : Nat} (h : i < 8) : (2 : Int) ^ shiftBy (IntKind.i64.wrap (8 * (i : Int))) 64 = ((256 ^ i : Nat) : Int) := by
  have h1 : IntKind.i64.wrap (8 * (i : Int)) = ((8 * i : Nat) : Int) := by rw [IntWalk.i64_in _ (by omega)]; omega
  have h2 : shiftBy ((8 * i : Nat) : Int) 64 = 8 * i := by unfold shiftBy; rw [Int.toNat_natCast]; omega
  rw [h1, h2]
  have h3 : (256 ^ i : Nat) = 2 ^ (8 * i) := by rw [Nat.pow_mul]
  rw [h3]; push_cast; rfl

theorem shift_ok {i : Nat} (h : i < 8) : decide (0 ≤ IntKind.i64.wrap (8 * (i : Int))) = true := by
  rw [IntWalk.i64_in _ (by omega)]; simp; omega

theorem put_byte (n : Nat) {i : Nat} (h : i < 8) : IntKind.u8.wrap (Int.fdiv (n : Int) (2 ^ shiftBy (IntKind.i64.wrap (8 * (i : Int))) 64)) = ((UInt8.ofNat (n / 256 ^ i)).toNat : Int) := by
  rw [shift_8 h, Int.fdiv_eq_ediv_of_nonneg _ (Int.natCast_nonneg _), ← Int.natCast_ediv, wrap_u8_nat]

/-- a or b, where b lies above. -/
theorem or_above {a b k : Nat} (h : a < 256 ^ k) : a ||| (b * 256 ^ k) = a + b * 256 ^ k := by
  have e : (256 ^ k : Nat) = 2 ^ (8 * k) := by rw [Nat.pow_mul]
  rw [e] at h ⊢
  rw [Nat.or_comm, Nat.mul_comm b, ← Nat.two_pow_add_eq_or_of_lt h, Nat.add_comm]

theorem u64_or {a b : Nat} (ha : a < 18446744073709551616) (hb : b < 18446744073709551616) :
    IntKind.u64.wrap (((BitVec.ofInt 64 (a : Int) ||| BitVec.ofInt 64 (b : Int)).toNat : Nat) : Int) = ((a ||| b : Nat) : Int) := by
  have h1 : (BitVec.ofInt 64 (a : Int) ||| BitVec.ofInt 64 (b : Int)).toNat = a ||| b := by
    rw [BitVec.ofInt_natCast, BitVec.ofInt_natCast, BitVec.toNat_or, BitVec.toNat_ofNat, BitVec.toNat_ofNat, Nat.mod_eq_of_lt ha, Nat.mod_eq_of_lt hb]
  rw [h1]
  exact wrap_u64_nat (Nat.or_lt_two_pow (n := 64) ha hb)

theorem pow_le_8 {i : Nat} (h : i ≤ 8) : (256 : Nat) ^ i ≤ 18446744073709551616 := by
  have := Nat.pow_le_pow_right (n := 256) (by omega) h
  exact Nat.le_trans this (by decide)

theorem get_byte {n b i : Nat} (hn : n < 256 ^ i) (hb : b < 256) (hi : i < 8) :
    IntKind.u64.wrap (((BitVec.ofInt 64 (n : Int) ||| BitVec.ofInt 64 (IntKind.u64.wrap (IntKind.u64.wrap (b : Int) * 2 ^ shiftBy (IntKind.i64.wrap (8 * (i : Int))) 64))).toNat : Nat) : Int) =
      ((n + b * 256 ^ i : Nat) : Int) := by
  have h1 : (256 : Nat) ^ (i + 1) ≤ 18446744073709551616 := pow_le_8 hi
  have h2 : b * 256 ^ i < 256 ^ (i + 1) := by
    rw [Nat.pow_succ, Nat.mul_comm (256 ^ i)]
    exact Nat.mul_lt_mul_of_pos_right hb (Nat.pow_pos (by decide))
  have h3 : (256 : Nat) ^ i ≤ 18446744073709551616 := pow_le_8 (by omega)
  rw [wrap_u64_nat (n := b) (by omega), shift_8 hi, ← Int.natCast_mul, wrap_u64_nat (n := b * 256 ^ i) (by omega), u64_or (by omega) (by omega), or_above hn]

theorem toList_strOf (bs : List UInt8) : (strOf bs).toList = bs := by
  rw [ByteArray.toList_eq]; simp [strOf]

theorem strEq_iff (x y : ByteArray) : strEq x y = decide (x = y) := by
  unfold strEq
  rw [ByteArray.toList_eq, ByteArray.toList_eq]
  by_cases h : x = y
  · subst h; simp
  · have : x.data ≠ y.data := fun e => h (by cases x; cases y; simp at e; subst e; rfl)
    simp [h, this]

theorem strEq_of (a b : List UInt8) : strEq (strOf a) (strOf b) = decide (a = b) := by
  rw [strEq_iff]
  by_cases h : a = b
  · subst h; simp
  · have : strOf a ≠ strOf b := fun e => h (strOf_inj.1 e)
    simp [h, this]

end Go.Am
