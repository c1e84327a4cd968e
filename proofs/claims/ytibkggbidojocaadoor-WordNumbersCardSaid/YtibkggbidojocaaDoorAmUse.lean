/- Small laws for those who use the equations. -/
import Derived.Test.YtibkggbidojocaaDoorAmMain
import Derived.IntWalk
namespace Go.Am
set_option linter.unusedSimpArgs false
set_option linter.unusedVariables false
set_option linter.unusedSectionVars false

theorem wrap_succ {i : Nat} (h : (i : Int) + 1 ≤ 9223372036854775807) : IntKind.i64.wrap ((i : Int) + 1) = ((i + 1 : Nat) : Int) := by
  rw [IntWalk.i64_in _ (by omega)]; omega
theorem wrap_in {x : Int} (h : -9223372036854775808 ≤ x) (h' : x ≤ 9223372036854775807) : IntKind.i64.wrap x = x := IntWalk.i64_in _ ⟨h, h'⟩

@[simp] theorem br_true (X Y : Prop) : br true X Y = X := rfl
@[simp] theorem br_false (X Y : Prop) : br false X Y = Y := rfl
@[simp] theorem req_true (X : Prop) : req true X = X := rfl
@[simp] theorem req_false (X : Prop) : req false X = False := rfl
theorem br_ite (c : Bool) (X Y : Prop) : br c X Y = if c = true then X else Y := by cases c <;> rfl
theorem req_ite (c : Bool) (X : Prop) : req c X = (c = true ∧ X) := by cases c <;> simp
@[simp] theorem joinP_eq {α : Type} (A : (α → Prop) → Prop) (Q : α → Prop) : joinP A Q = A Q := rfl
@[simp] theorem beq_dec (a b : Nat) : Nat.beq a b = decide (a = b) := beq_iff
@[simp] theorem ble_dec (a b : Nat) : Nat.ble a b = decide (a ≤ b) := by
  cases h : Nat.ble a b with
  | true => simpa using Nat.le_of_ble_eq_true h
  | false => exact (decide_eq_false fun hle => by rw [Nat.ble_eq_true_of_le hle] at h; cases h).symm
@[simp] theorem look_nil {α : Type} (n : Nat) : look ([] : List (Nat × α)) n = none := rfl
@[simp] theorem look_cons {α : Type} (k n : Nat) (x : α) (l : List (Nat × α)) : look ((k, x) :: l) n = if n = k then some x else look l n := by
  simp only [look, beq_dec]; by_cases h : n = k <;> simp [h]
@[simp] theorem T_val_v (x : V) : T.val (some (.v x)) = x := rfl
@[simp] theorem isKT_k (k : Kind) (x : V) : isKT (.k k) (some (.v x)) = x.isK k := rfl
@[simp] theorem isKT_agg (ks : List Kind) (x : V) : isKT (.agg ks) (some (.v x)) = (x.isAgg && fits ks x.aggCells) := rfl
@[simp] theorem isKT_lp (s : Nat) : isKT (.lp s) (some (.lp s 0)) = true := by simp [isKT]
@[simp] theorem isLK_c (e : Nat) (ks : List Kind) (cs : List V) : isLK e ks (some (.cells e cs)) = fits ks cs := by simp [isLK]
@[simp] theorem locCells_c (e : Nat) (cs : List V) : locCells (some (.cells e cs)) = cs := rfl
@[simp] theorem nthV_zero (x : V) (l : List V) : nthV (x :: l) 0 = x := rfl
@[simp] theorem nthV_one (x y : V) (l : List V) : nthV (x :: y :: l) 1 = y := rfl
@[simp] theorem nthV_two (x y z : V) (l : List V) : nthV (x :: y :: z :: l) 2 = z := rfl
@[simp] theorem vals_tuple (l : List V) : V.vals (.tuple l) = l := rfl
@[simp] theorem aggCells_agg (l : List V) : V.aggCells (.agg l) = l := rfl
@[simp] theorem isAgg_agg (l : List V) : V.isAgg (.agg l) = true := rfl
@[simp] theorem getInt_int (k : IntKind) (x : Int) : V.getInt (.int k x) = x := rfl
@[simp] theorem getBool_bool (b : Bool) : V.getBool (.bool b) = b := rfl
@[simp] theorem getStr_str (b : ByteArray) : V.getStr (.str b) = b := rfl
@[simp] theorem getPtr_ptr (b : Option (Nat × Nat)) : V.getPtr (.ptr b) = b := rfl
@[simp] theorem slPtr_slice (p : Option (Nat × Nat)) (n c : Nat) : V.slPtr (.slice p n c) = p := rfl
@[simp] theorem slLen_slice (p : Option (Nat × Nat)) (n c : Nat) : V.slLen (.slice p n c) = n := rfl
@[simp] theorem slCap_slice (p : Option (Nat × Nat)) (n c : Nat) : V.slCap (.slice p n c) = c := rfl
@[simp] theorem isK_int (k : IntKind) (x : Int) : V.isK (.int k) (.int k x) = true := by simp [V.isK]
@[simp] theorem isK_bool (b : Bool) : V.isK .bool (.bool b) = true := rfl
@[simp] theorem isK_str (b : ByteArray) : V.isK .str (.str b) = true := rfl
@[simp] theorem isK_ptr (b : Option (Nat × Nat)) : V.isK .ptr (.ptr b) = true := rfl
@[simp] theorem isK_slice (p : Option (Nat × Nat)) (n c : Nat) : V.isK .slice (.slice p n c) = true := rfl
@[simp] theorem isTuple_tuple (n : Nat) (l : List V) : V.isTuple n (.tuple l) = decide (l.length = n) := by
  by_cases h : l.length = n <;> simp [V.isTuple, h]
@[simp] theorem condV_ite (c : Bool) (a b : V) : condV c a b = if c = true then a else b := by rw [condV_eq]

theorem K_ite {α : Sort _} (K : V → Heap → Prop) (c : Prop) [Decidable c] (a b : V) (H : Heap) : (if c then K a H else K b H) = K (if c then a else b) H := by split <;> rfl

end Go.Am
