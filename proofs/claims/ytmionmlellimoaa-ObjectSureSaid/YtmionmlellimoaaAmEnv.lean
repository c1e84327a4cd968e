/- The tables that the abstract machine wants: types, frame-local blocks, what loops keep. Written by a program (wip/am/Gen.lean). -/
import Derived.Test.YtmionmlellimoaaAmExt
import Derived.Test.YtmionmlellimoaaProg
import Derived.KernelRfl
namespace Go.Proofs.Ytmionmlellimoaa
open Go.Am
set_option maxRecDepth 100000
set_option linter.unusedVariables false
set_option linter.unusedSimpArgs false
def tab : List TI := [
  ⟨.tuple [], 1, 0, none⟩,
  ⟨.func, 1, 8, some (.nilFunc)⟩,
  ⟨.int .i64, 1, 8, some (.int .i64 0)⟩,
  ⟨.int .i64, 1, 8, some (.int .i64 0)⟩,
  ⟨.bool, 1, 1, some (.bool false)⟩,
  ⟨.int .u8, 1, 1, some (.int .u8 0)⟩,
  ⟨.int .u8, 1, 1, some (.int .u8 0)⟩,
  ⟨.struct [(0, 2), (1, 3), (2, 4), (3, 6)], 4, 24, some (.agg [.int .i64 0, .int .i64 0, .bool false, .int .u8 0])⟩,
  ⟨.struct [(0, 2), (1, 3), (2, 4), (3, 6)], 4, 24, some (.agg [.int .i64 0, .int .i64 0, .bool false, .int .u8 0])⟩,
  ⟨.str, 1, 16, some (.str ⟨#[]⟩)⟩,
  ⟨.str, 1, 16, some (.str ⟨#[]⟩)⟩,
  ⟨.str, 1, 16, some (.str ⟨#[]⟩)⟩,
  ⟨.int .u64, 1, 8, some (.int .u64 0)⟩,
  ⟨.struct [(0, 9), (1, 12)], 2, 24, some (.agg [.str ⟨#[]⟩, .int .u64 0])⟩,
  ⟨.struct [(0, 9), (1, 12)], 2, 24, some (.agg [.str ⟨#[]⟩, .int .u64 0])⟩,
  ⟨.ptr 111, 1, 8, some (.ptr none)⟩,
  ⟨.ptr 114, 1, 8, some (.ptr none)⟩,
  ⟨.ptr 122, 1, 8, some (.ptr none)⟩,
  ⟨.struct [(0, 17)], 1, 8, some (.agg [.ptr none])⟩,
  ⟨.struct [(0, 17)], 1, 8, some (.agg [.ptr none])⟩,
  ⟨.iface, 1, 16, some (.nilIface)⟩,
  ⟨.int .i32, 1, 4, some (.int .i32 0)⟩,
  ⟨.slice 25, 1, 24, some (.slice none 0 0)⟩,
  ⟨.slice 5, 1, 24, some (.slice none 0 0)⟩,
  ⟨.struct [(0, 5), (1, 5), (2, 5), (3, 5), (4, 5), (5, 5), (6, 4), (7, 4), (8, 23)], 9, 32, some (.agg [.int .u8 0, .int .u8 0, .int .u8 0, .int .u8 0, .int .u8 0, .int .u8 0, .bool false, .bool false, .slice none 0 0])⟩,
  ⟨.struct [(0, 5), (1, 5), (2, 5), (3, 5), (4, 5), (5, 5), (6, 4), (7, 4), (8, 23)], 9, 32, some (.agg [.int .u8 0, .int .u8 0, .int .u8 0, .int .u8 0, .int .u8 0, .int .u8 0, .bool false, .bool false, .slice none 0 0])⟩,
  ⟨.func, 1, 8, some (.nilFunc)⟩,
  ⟨.ptr 69, 1, 8, some (.ptr none)⟩,
  ⟨.int .i64, 1, 8, some (.int .i64 0)⟩,
  ⟨.tuple [27, 28], 1, 0, none⟩,
  ⟨.func, 1, 8, some (.nilFunc)⟩,
  ⟨.int .u32, 1, 4, some (.int .u32 0)⟩,
  ⟨.struct [(0, 5), (1, 3), (2, 23), (3, 4), (4, 31), (5, 31), (6, 5), (7, 4)], 8, 56, some (.agg [.int .u8 0, .int .i64 0, .slice none 0 0, .bool false, .int .u32 0, .int .u32 0, .int .u8 0, .bool false])⟩,
  ⟨.struct [(0, 5), (1, 3), (2, 23), (3, 4), (4, 31), (5, 31), (6, 5), (7, 4)], 8, 56, some (.agg [.int .u8 0, .int .i64 0, .slice none 0 0, .bool false, .int .u32 0, .int .u32 0, .int .u8 0, .bool false])⟩,
  ⟨.tuple [3, 33], 1, 0, none⟩,
  ⟨.func, 1, 8, some (.nilFunc)⟩,
  ⟨.arr 8 31, 8, 32, some (.agg [.int .u32 0, .int .u32 0, .int .u32 0, .int .u32 0, .int .u32 0, .int .u32 0, .int .u32 0, .int .u32 0])⟩,
  ⟨.struct [(0, 36), (8, 5), (9, 3), (10, 31), (11, 4)], 12, 56, some (.agg [.int .u32 0, .int .u32 0, .int .u32 0, .int .u32 0, .int .u32 0, .int .u32 0, .int .u32 0, .int .u32 0, .int .u8 0, .int .i64 0, .int .u32 0, .bool false])⟩,
  ⟨.struct [(0, 36), (8, 5), (9, 3), (10, 31), (11, 4)], 12, 56, some (.agg [.int .u32 0, .int .u32 0, .int .u32 0, .int .u32 0, .int .u32 0, .int .u32 0, .int .u32 0, .int .u32 0, .int .u8 0, .int .i64 0, .int .u32 0, .bool false])⟩,
  ⟨.func, 1, 8, some (.nilFunc)⟩,
  ⟨.struct [(0, 28), (1, 23), (2, 38)], 14, 88, some (.agg [.int .i64 0, .slice none 0 0, .int .u32 0, .int .u32 0, .int .u32 0, .int .u32 0, .int .u32 0, .int .u32 0, .int .u32 0, .int .u32 0, .int .u8 0, .int .i64 0, .int .u32 0, .bool false])⟩,
  ⟨.struct [(0, 28), (1, 23), (2, 38)], 14, 88, some (.agg [.int .i64 0, .slice none 0 0, .int .u32 0, .int .u32 0, .int .u32 0, .int .u32 0, .int .u32 0, .int .u32 0, .int .u32 0, .int .u32 0, .int .u8 0, .int .i64 0, .int .u32 0, .bool false])⟩,
  ⟨.func, 1, 8, some (.nilFunc)⟩,
  ⟨.slice 9, 1, 24, some (.slice none 0 0)⟩,
  ⟨.func, 1, 8, some (.nilFunc)⟩,
  ⟨.func, 1, 8, some (.nilFunc)⟩,
  ⟨.ptr 50, 1, 8, some (.ptr none)⟩,
  ⟨.func, 1, 8, some (.nilFunc)⟩,
  ⟨.slice 96, 1, 24, some (.slice none 0 0)⟩,
  ⟨.struct [(0, 43), (1, 48), (2, 38)], 14, 104, some (.agg [.slice none 0 0, .slice none 0 0, .int .u32 0, .int .u32 0, .int .u32 0, .int .u32 0, .int .u32 0, .int .u32 0, .int .u32 0, .int .u32 0, .int .u8 0, .int .i64 0, .int .u32 0, .bool false])⟩,
  ⟨.struct [(0, 43), (1, 48), (2, 38)], 14, 104, some (.agg [.slice none 0 0, .slice none 0 0, .int .u32 0, .int .u32 0, .int .u32 0, .int .u32 0, .int .u32 0, .int .u32 0, .int .u32 0, .int .u32 0, .int .u8 0, .int .i64 0, .int .u32 0, .bool false])⟩,
  ⟨.tuple [3, 9, 38], 1, 0, none⟩,
  ⟨.func, 1, 8, some (.nilFunc)⟩,
  ⟨.func, 1, 8, some (.nilFunc)⟩,
  ⟨.func, 1, 8, some (.nilFunc)⟩,
  ⟨.func, 1, 8, some (.nilFunc)⟩,
  ⟨.func, 1, 8, some (.nilFunc)⟩,
  ⟨.func, 1, 8, some (.nilFunc)⟩,
  ⟨.func, 1, 8, some (.nilFunc)⟩,
  ⟨.func, 1, 8, some (.nilFunc)⟩,
  ⟨.func, 1, 8, some (.nilFunc)⟩,
  ⟨.func, 1, 8, some (.nilFunc)⟩,
  ⟨.func, 1, 8, some (.nilFunc)⟩,
  ⟨.slice 23, 1, 24, some (.slice none 0 0)⟩,
  ⟨.ptr 67, 1, 8, some (.ptr none)⟩,
  ⟨.slice 73, 1, 24, some (.slice none 0 0)⟩,
  ⟨.struct [(0, 65)], 1, 24, some (.agg [.slice none 0 0])⟩,
  ⟨.struct [(0, 65)], 1, 24, some (.agg [.slice none 0 0])⟩,
  ⟨.struct [(0, 63), (1, 64), (2, 38)], 14, 88, some (.agg [.slice none 0 0, .ptr none, .int .u32 0, .int .u32 0, .int .u32 0, .int .u32 0, .int .u32 0, .int .u32 0, .int .u32 0, .int .u32 0, .int .u8 0, .int .i64 0, .int .u32 0, .bool false])⟩,
  ⟨.struct [(0, 63), (1, 64), (2, 38)], 14, 88, some (.agg [.slice none 0 0, .ptr none, .int .u32 0, .int .u32 0, .int .u32 0, .int .u32 0, .int .u32 0, .int .u32 0, .int .u32 0, .int .u32 0, .int .u8 0, .int .i64 0, .int .u32 0, .bool false])⟩,
  ⟨.func, 1, 8, some (.nilFunc)⟩,
  ⟨.func, 1, 8, some (.nilFunc)⟩,
  ⟨.struct [(0, 3), (1, 23), (2, 4)], 3, 40, some (.agg [.int .i64 0, .slice none 0 0, .bool false])⟩,
  ⟨.struct [(0, 3), (1, 23), (2, 4)], 3, 40, some (.agg [.int .i64 0, .slice none 0 0, .bool false])⟩,
  ⟨.tuple [38, 28], 1, 0, none⟩,
  ⟨.func, 1, 8, some (.nilFunc)⟩,
  ⟨.tuple [73, 4], 1, 0, none⟩,
  ⟨.func, 1, 8, some (.nilFunc)⟩,
  ⟨.func, 1, 8, some (.nilFunc)⟩,
  ⟨.func, 1, 8, some (.nilFunc)⟩,
  ⟨.func, 1, 8, some (.nilFunc)⟩,
  ⟨.tuple [38, 3], 1, 0, none⟩,
  ⟨.func, 1, 8, some (.nilFunc)⟩,
  ⟨.func, 1, 8, some (.nilFunc)⟩,
  ⟨.func, 1, 8, some (.nilFunc)⟩,
  ⟨.func, 1, 8, some (.nilFunc)⟩,
  ⟨.func, 1, 8, some (.nilFunc)⟩,
  ⟨.func, 1, 8, some (.nilFunc)⟩,
  ⟨.func, 1, 8, some (.nilFunc)⟩,
  ⟨.func, 1, 8, some (.nilFunc)⟩,
  ⟨.func, 1, 8, some (.nilFunc)⟩,
  ⟨.func, 1, 8, some (.nilFunc)⟩,
  ⟨.func, 1, 8, some (.nilFunc)⟩,
  ⟨.tuple [3, 4], 1, 0, none⟩,
  ⟨.func, 1, 8, some (.nilFunc)⟩,
  ⟨.struct [(0, 3), (1, 9)], 2, 24, some (.agg [.int .i64 0, .str ⟨#[]⟩])⟩,
  ⟨.struct [(0, 3), (1, 9)], 2, 24, some (.agg [.int .i64 0, .str ⟨#[]⟩])⟩,
  ⟨.func, 1, 8, some (.nilFunc)⟩,
  ⟨.func, 1, 8, some (.nilFunc)⟩,
  ⟨.func, 1, 8, some (.nilFunc)⟩,
  ⟨.arr 6 5, 6, 6, some (.agg [.int .u8 0, .int .u8 0, .int .u8 0, .int .u8 0, .int .u8 0, .int .u8 0])⟩,
  ⟨.func, 1, 8, some (.nilFunc)⟩,
  ⟨.func, 1, 8, some (.nilFunc)⟩,
  ⟨.func, 1, 8, some (.nilFunc)⟩,
  ⟨.func, 1, 8, some (.nilFunc)⟩,
  ⟨.func, 1, 8, some (.nilFunc)⟩,
  ⟨.func, 1, 8, some (.nilFunc)⟩,
  ⟨.int .u64, 1, 8, some (.int .u64 0)⟩,
  ⟨.func, 1, 8, some (.nilFunc)⟩,
  ⟨.func, 1, 8, some (.nilFunc)⟩,
  ⟨.struct [(0, 17), (1, 17), (2, 17), (3, 9)], 4, 40, some (.agg [.ptr none, .ptr none, .ptr none, .str ⟨#[]⟩])⟩,
  ⟨.struct [(0, 17), (1, 17), (2, 17), (3, 9)], 4, 40, some (.agg [.ptr none, .ptr none, .ptr none, .str ⟨#[]⟩])⟩,
  ⟨.arr 0 16, 0, 0, some (.agg [])⟩,
  ⟨.struct [(0, 112)], 0, 0, some (.agg [])⟩,
  ⟨.struct [(0, 112)], 0, 0, some (.agg [])⟩,
  ⟨.int .u8, 1, 1, some (.int .u8 0)⟩,
  ⟨.int .u8, 1, 1, some (.int .u8 0)⟩,
  ⟨.func, 1, 8, some (.nilFunc)⟩,
  ⟨.ptr 5, 1, 8, some (.ptr none)⟩,
  ⟨.int .i32, 1, 4, some (.int .i32 0)⟩,
  ⟨.int .i32, 1, 4, some (.int .i32 0)⟩,
  ⟨.struct [(0, 12), (1, 12), (2, 31), (3, 115), (4, 5), (5, 5), (6, 116), (7, 117), (8, 118), (9, 119), (10, 120)], 11, 48, some (.agg [.int .u64 0, .int .u64 0, .int .u32 0, .int .u8 0, .int .u8 0, .int .u8 0, .int .u8 0, .nilFunc, .ptr none, .int .i32 0, .int .i32 0])⟩,
  ⟨.struct [(0, 12), (1, 12), (2, 31), (3, 115), (4, 5), (5, 5), (6, 116), (7, 117), (8, 118), (9, 119), (10, 120)], 11, 48, some (.agg [.int .u64 0, .int .u64 0, .int .u32 0, .int .u8 0, .int .u8 0, .int .u8 0, .int .u8 0, .nilFunc, .ptr none, .int .i32 0, .int .i32 0])⟩,
  ⟨.other, 1, 8, some (.ptr none)⟩]
theorem tab_ok : (List.range 124).map (tiOf Try.prog) = tab.map some := by kernel_rfl
def k7 : List Kind := [.int .i64, .int .i64, .bool, .int .u8]
def c7 (a0 : Int) (a1 : Int) (a2 : Bool) (a3 : Int) : List V := [.int .i64 a0, .int .i64 a1, .bool a2, .int .u8 a3]
def o7 (l : List V) : List V := c7 (nthV l 0).getInt (nthV l 1).getInt (nthV l 2).getBool (nthV l 3).getInt
@[simp] theorem f7 (a0 : Int) (a1 : Int) (a2 : Bool) (a3 : Int) : Am.fits k7 (c7 a0 a1 a2 a3) = true := rfl
@[simp] theorem oc7 (a0 : Int) (a1 : Int) (a2 : Bool) (a3 : Int) : o7 (c7 a0 a1 a2 a3) = c7 a0 a1 a2 a3 := rfl
@[simp] theorem n7_0 (a0 : Int) (a1 : Int) (a2 : Bool) (a3 : Int) : nthV (c7 a0 a1 a2 a3) 0 = .int .i64 a0 := rfl
@[simp] theorem n7_1 (a0 : Int) (a1 : Int) (a2 : Bool) (a3 : Int) : nthV (c7 a0 a1 a2 a3) 1 = .int .i64 a1 := rfl
@[simp] theorem n7_2 (a0 : Int) (a1 : Int) (a2 : Bool) (a3 : Int) : nthV (c7 a0 a1 a2 a3) 2 = .bool a2 := rfl
@[simp] theorem n7_3 (a0 : Int) (a1 : Int) (a2 : Bool) (a3 : Int) : nthV (c7 a0 a1 a2 a3) 3 = .int .u8 a3 := rfl
def k13 : List Kind := [.str, .int .u64]
def c13 (a0 : ByteArray) (a1 : Int) : List V := [.str a0, .int .u64 a1]
def o13 (l : List V) : List V := c13 (nthV l 0).getStr (nthV l 1).getInt
@[simp] theorem f13 (a0 : ByteArray) (a1 : Int) : Am.fits k13 (c13 a0 a1) = true := rfl
@[simp] theorem oc13 (a0 : ByteArray) (a1 : Int) : o13 (c13 a0 a1) = c13 a0 a1 := rfl
@[simp] theorem n13_0 (a0 : ByteArray) (a1 : Int) : nthV (c13 a0 a1) 0 = .str a0 := rfl
@[simp] theorem n13_1 (a0 : ByteArray) (a1 : Int) : nthV (c13 a0 a1) 1 = .int .u64 a1 := rfl
def k24 : List Kind := [.int .u8, .int .u8, .int .u8, .int .u8, .int .u8, .int .u8, .bool, .bool, .slice]
def c24 (a0 : Int) (a1 : Int) (a2 : Int) (a3 : Int) (a4 : Int) (a5 : Int) (a6 : Bool) (a7 : Bool) (a8p : Option (Nat × Nat)) (a8n : Nat) (a8c : Nat) : List V := [.int .u8 a0, .int .u8 a1, .int .u8 a2, .int .u8 a3, .int .u8 a4, .int .u8 a5, .bool a6, .bool a7, .slice a8p a8n a8c]
def o24 (l : List V) : List V := c24 (nthV l 0).getInt (nthV l 1).getInt (nthV l 2).getInt (nthV l 3).getInt (nthV l 4).getInt (nthV l 5).getInt (nthV l 6).getBool (nthV l 7).getBool (nthV l 8).slPtr (nthV l 8).slLen (nthV l 8).slCap
@[simp] theorem f24 (a0 : Int) (a1 : Int) (a2 : Int) (a3 : Int) (a4 : Int) (a5 : Int) (a6 : Bool) (a7 : Bool) (a8p : Option (Nat × Nat)) (a8n : Nat) (a8c : Nat) : Am.fits k24 (c24 a0 a1 a2 a3 a4 a5 a6 a7 a8p a8n a8c) = true := rfl
@[simp] theorem oc24 (a0 : Int) (a1 : Int) (a2 : Int) (a3 : Int) (a4 : Int) (a5 : Int) (a6 : Bool) (a7 : Bool) (a8p : Option (Nat × Nat)) (a8n : Nat) (a8c : Nat) : o24 (c24 a0 a1 a2 a3 a4 a5 a6 a7 a8p a8n a8c) = c24 a0 a1 a2 a3 a4 a5 a6 a7 a8p a8n a8c := rfl
@[simp] theorem n24_0 (a0 : Int) (a1 : Int) (a2 : Int) (a3 : Int) (a4 : Int) (a5 : Int) (a6 : Bool) (a7 : Bool) (a8p : Option (Nat × Nat)) (a8n : Nat) (a8c : Nat) : nthV (c24 a0 a1 a2 a3 a4 a5 a6 a7 a8p a8n a8c) 0 = .int .u8 a0 := rfl
@[simp] theorem n24_1 (a0 : Int) (a1 : Int) (a2 : Int) (a3 : Int) (a4 : Int) (a5 : Int) (a6 : Bool) (a7 : Bool) (a8p : Option (Nat × Nat)) (a8n : Nat) (a8c : Nat) : nthV (c24 a0 a1 a2 a3 a4 a5 a6 a7 a8p a8n a8c) 1 = .int .u8 a1 := rfl
@[simp] theorem n24_2 (a0 : Int) (a1 : Int) (a2 : Int) (a3 : Int) (a4 : Int) (a5 : Int) (a6 : Bool) (a7 : Bool) (a8p : Option (Nat × Nat)) (a8n : Nat) (a8c : Nat) : nthV (c24 a0 a1 a2 a3 a4 a5 a6 a7 a8p a8n a8c) 2 = .int .u8 a2 := rfl
@[simp] theorem n24_3 (a0 : Int) (a1 : Int) (a2 : Int) (a3 : Int) (a4 : Int) (a5 : Int) (a6 : Bool) (a7 : Bool) (a8p : Option (Nat × Nat)) (a8n : Nat) (a8c : Nat) : nthV (c24 a0 a1 a2 a3 a4 a5 a6 a7 a8p a8n a8c) 3 = .int .u8 a3 := rfl
@[simp] theorem n24_4 (a0 : Int) (a1 : Int) (a2 : Int) (a3 : Int) (a4 : Int) (a5 : Int) (a6 : Bool) (a7 : Bool) (a8p : Option (Nat × Nat)) (a8n : Nat) (a8c : Nat) : nthV (c24 a0 a1 a2 a3 a4 a5 a6 a7 a8p a8n a8c) 4 = .int .u8 a4 := rfl
@[simp] theorem n24_5 (a0 : Int) (a1 : Int) (a2 : Int) (a3 : Int) (a4 : Int) (a5 : Int) (a6 : Bool) (a7 : Bool) (a8p : Option (Nat × Nat)) (a8n : Nat) (a8c : Nat) : nthV (c24 a0 a1 a2 a3 a4 a5 a6 a7 a8p a8n a8c) 5 = .int .u8 a5 := rfl
@[simp] theorem n24_6 (a0 : Int) (a1 : Int) (a2 : Int) (a3 : Int) (a4 : Int) (a5 : Int) (a6 : Bool) (a7 : Bool) (a8p : Option (Nat × Nat)) (a8n : Nat) (a8c : Nat) : nthV (c24 a0 a1 a2 a3 a4 a5 a6 a7 a8p a8n a8c) 6 = .bool a6 := rfl
@[simp] theorem n24_7 (a0 : Int) (a1 : Int) (a2 : Int) (a3 : Int) (a4 : Int) (a5 : Int) (a6 : Bool) (a7 : Bool) (a8p : Option (Nat × Nat)) (a8n : Nat) (a8c : Nat) : nthV (c24 a0 a1 a2 a3 a4 a5 a6 a7 a8p a8n a8c) 7 = .bool a7 := rfl
@[simp] theorem n24_8 (a0 : Int) (a1 : Int) (a2 : Int) (a3 : Int) (a4 : Int) (a5 : Int) (a6 : Bool) (a7 : Bool) (a8p : Option (Nat × Nat)) (a8n : Nat) (a8c : Nat) : nthV (c24 a0 a1 a2 a3 a4 a5 a6 a7 a8p a8n a8c) 8 = .slice a8p a8n a8c := rfl
def k32 : List Kind := [.int .u8, .int .i64, .slice, .bool, .int .u32, .int .u32, .int .u8, .bool]
def c32 (a0 : Int) (a1 : Int) (a2p : Option (Nat × Nat)) (a2n : Nat) (a2c : Nat) (a3 : Bool) (a4 : Int) (a5 : Int) (a6 : Int) (a7 : Bool) : List V := [.int .u8 a0, .int .i64 a1, .slice a2p a2n a2c, .bool a3, .int .u32 a4, .int .u32 a5, .int .u8 a6, .bool a7]
def o32 (l : List V) : List V := c32 (nthV l 0).getInt (nthV l 1).getInt (nthV l 2).slPtr (nthV l 2).slLen (nthV l 2).slCap (nthV l 3).getBool (nthV l 4).getInt (nthV l 5).getInt (nthV l 6).getInt (nthV l 7).getBool
@[simp] theorem f32 (a0 : Int) (a1 : Int) (a2p : Option (Nat × Nat)) (a2n : Nat) (a2c : Nat) (a3 : Bool) (a4 : Int) (a5 : Int) (a6 : Int) (a7 : Bool) : Am.fits k32 (c32 a0 a1 a2p a2n a2c a3 a4 a5 a6 a7) = true := rfl
@[simp] theorem oc32 (a0 : Int) (a1 : Int) (a2p : Option (Nat × Nat)) (a2n : Nat) (a2c : Nat) (a3 : Bool) (a4 : Int) (a5 : Int) (a6 : Int) (a7 : Bool) : o32 (c32 a0 a1 a2p a2n a2c a3 a4 a5 a6 a7) = c32 a0 a1 a2p a2n a2c a3 a4 a5 a6 a7 := rfl
@[simp] theorem n32_0 (a0 : Int) (a1 : Int) (a2p : Option (Nat × Nat)) (a2n : Nat) (a2c : Nat) (a3 : Bool) (a4 : Int) (a5 : Int) (a6 : Int) (a7 : Bool) : nthV (c32 a0 a1 a2p a2n a2c a3 a4 a5 a6 a7) 0 = .int .u8 a0 := rfl
@[simp] theorem n32_1 (a0 : Int) (a1 : Int) (a2p : Option (Nat × Nat)) (a2n : Nat) (a2c : Nat) (a3 : Bool) (a4 : Int) (a5 : Int) (a6 : Int) (a7 : Bool) : nthV (c32 a0 a1 a2p a2n a2c a3 a4 a5 a6 a7) 1 = .int .i64 a1 := rfl
@[simp] theorem n32_2 (a0 : Int) (a1 : Int) (a2p : Option (Nat × Nat)) (a2n : Nat) (a2c : Nat) (a3 : Bool) (a4 : Int) (a5 : Int) (a6 : Int) (a7 : Bool) : nthV (c32 a0 a1 a2p a2n a2c a3 a4 a5 a6 a7) 2 = .slice a2p a2n a2c := rfl
@[simp] theorem n32_3 (a0 : Int) (a1 : Int) (a2p : Option (Nat × Nat)) (a2n : Nat) (a2c : Nat) (a3 : Bool) (a4 : Int) (a5 : Int) (a6 : Int) (a7 : Bool) : nthV (c32 a0 a1 a2p a2n a2c a3 a4 a5 a6 a7) 3 = .bool a3 := rfl
@[simp] theorem n32_4 (a0 : Int) (a1 : Int) (a2p : Option (Nat × Nat)) (a2n : Nat) (a2c : Nat) (a3 : Bool) (a4 : Int) (a5 : Int) (a6 : Int) (a7 : Bool) : nthV (c32 a0 a1 a2p a2n a2c a3 a4 a5 a6 a7) 4 = .int .u32 a4 := rfl
@[simp] theorem n32_5 (a0 : Int) (a1 : Int) (a2p : Option (Nat × Nat)) (a2n : Nat) (a2c : Nat) (a3 : Bool) (a4 : Int) (a5 : Int) (a6 : Int) (a7 : Bool) : nthV (c32 a0 a1 a2p a2n a2c a3 a4 a5 a6 a7) 5 = .int .u32 a5 := rfl
@[simp] theorem n32_6 (a0 : Int) (a1 : Int) (a2p : Option (Nat × Nat)) (a2n : Nat) (a2c : Nat) (a3 : Bool) (a4 : Int) (a5 : Int) (a6 : Int) (a7 : Bool) : nthV (c32 a0 a1 a2p a2n a2c a3 a4 a5 a6 a7) 6 = .int .u8 a6 := rfl
@[simp] theorem n32_7 (a0 : Int) (a1 : Int) (a2p : Option (Nat × Nat)) (a2n : Nat) (a2c : Nat) (a3 : Bool) (a4 : Int) (a5 : Int) (a6 : Int) (a7 : Bool) : nthV (c32 a0 a1 a2p a2n a2c a3 a4 a5 a6 a7) 7 = .bool a7 := rfl
def k36 : List Kind := [.int .u32, .int .u32, .int .u32, .int .u32, .int .u32, .int .u32, .int .u32, .int .u32]
def c36 (a0 : Int) (a1 : Int) (a2 : Int) (a3 : Int) (a4 : Int) (a5 : Int) (a6 : Int) (a7 : Int) : List V := [.int .u32 a0, .int .u32 a1, .int .u32 a2, .int .u32 a3, .int .u32 a4, .int .u32 a5, .int .u32 a6, .int .u32 a7]
def o36 (l : List V) : List V := c36 (nthV l 0).getInt (nthV l 1).getInt (nthV l 2).getInt (nthV l 3).getInt (nthV l 4).getInt (nthV l 5).getInt (nthV l 6).getInt (nthV l 7).getInt
@[simp] theorem f36 (a0 : Int) (a1 : Int) (a2 : Int) (a3 : Int) (a4 : Int) (a5 : Int) (a6 : Int) (a7 : Int) : Am.fits k36 (c36 a0 a1 a2 a3 a4 a5 a6 a7) = true := rfl
@[simp] theorem oc36 (a0 : Int) (a1 : Int) (a2 : Int) (a3 : Int) (a4 : Int) (a5 : Int) (a6 : Int) (a7 : Int) : o36 (c36 a0 a1 a2 a3 a4 a5 a6 a7) = c36 a0 a1 a2 a3 a4 a5 a6 a7 := rfl
@[simp] theorem n36_0 (a0 : Int) (a1 : Int) (a2 : Int) (a3 : Int) (a4 : Int) (a5 : Int) (a6 : Int) (a7 : Int) : nthV (c36 a0 a1 a2 a3 a4 a5 a6 a7) 0 = .int .u32 a0 := rfl
@[simp] theorem n36_1 (a0 : Int) (a1 : Int) (a2 : Int) (a3 : Int) (a4 : Int) (a5 : Int) (a6 : Int) (a7 : Int) : nthV (c36 a0 a1 a2 a3 a4 a5 a6 a7) 1 = .int .u32 a1 := rfl
@[simp] theorem n36_2 (a0 : Int) (a1 : Int) (a2 : Int) (a3 : Int) (a4 : Int) (a5 : Int) (a6 : Int) (a7 : Int) : nthV (c36 a0 a1 a2 a3 a4 a5 a6 a7) 2 = .int .u32 a2 := rfl
@[simp] theorem n36_3 (a0 : Int) (a1 : Int) (a2 : Int) (a3 : Int) (a4 : Int) (a5 : Int) (a6 : Int) (a7 : Int) : nthV (c36 a0 a1 a2 a3 a4 a5 a6 a7) 3 = .int .u32 a3 := rfl
@[simp] theorem n36_4 (a0 : Int) (a1 : Int) (a2 : Int) (a3 : Int) (a4 : Int) (a5 : Int) (a6 : Int) (a7 : Int) : nthV (c36 a0 a1 a2 a3 a4 a5 a6 a7) 4 = .int .u32 a4 := rfl
@[simp] theorem n36_5 (a0 : Int) (a1 : Int) (a2 : Int) (a3 : Int) (a4 : Int) (a5 : Int) (a6 : Int) (a7 : Int) : nthV (c36 a0 a1 a2 a3 a4 a5 a6 a7) 5 = .int .u32 a5 := rfl
@[simp] theorem n36_6 (a0 : Int) (a1 : Int) (a2 : Int) (a3 : Int) (a4 : Int) (a5 : Int) (a6 : Int) (a7 : Int) : nthV (c36 a0 a1 a2 a3 a4 a5 a6 a7) 6 = .int .u32 a6 := rfl
@[simp] theorem n36_7 (a0 : Int) (a1 : Int) (a2 : Int) (a3 : Int) (a4 : Int) (a5 : Int) (a6 : Int) (a7 : Int) : nthV (c36 a0 a1 a2 a3 a4 a5 a6 a7) 7 = .int .u32 a7 := rfl
def k37 : List Kind := [.int .u32, .int .u32, .int .u32, .int .u32, .int .u32, .int .u32, .int .u32, .int .u32, .int .u8, .int .i64, .int .u32, .bool]
def c37 (a0 : Int) (a1 : Int) (a2 : Int) (a3 : Int) (a4 : Int) (a5 : Int) (a6 : Int) (a7 : Int) (a8 : Int) (a9 : Int) (a10 : Int) (a11 : Bool) : List V := [.int .u32 a0, .int .u32 a1, .int .u32 a2, .int .u32 a3, .int .u32 a4, .int .u32 a5, .int .u32 a6, .int .u32 a7, .int .u8 a8, .int .i64 a9, .int .u32 a10, .bool a11]
def o37 (l : List V) : List V := c37 (nthV l 0).getInt (nthV l 1).getInt (nthV l 2).getInt (nthV l 3).getInt (nthV l 4).getInt (nthV l 5).getInt (nthV l 6).getInt (nthV l 7).getInt (nthV l 8).getInt (nthV l 9).getInt (nthV l 10).getInt (nthV l 11).getBool
@[simp] theorem f37 (a0 : Int) (a1 : Int) (a2 : Int) (a3 : Int) (a4 : Int) (a5 : Int) (a6 : Int) (a7 : Int) (a8 : Int) (a9 : Int) (a10 : Int) (a11 : Bool) : Am.fits k37 (c37 a0 a1 a2 a3 a4 a5 a6 a7 a8 a9 a10 a11) = true := rfl
@[simp] theorem oc37 (a0 : Int) (a1 : Int) (a2 : Int) (a3 : Int) (a4 : Int) (a5 : Int) (a6 : Int) (a7 : Int) (a8 : Int) (a9 : Int) (a10 : Int) (a11 : Bool) : o37 (c37 a0 a1 a2 a3 a4 a5 a6 a7 a8 a9 a10 a11) = c37 a0 a1 a2 a3 a4 a5 a6 a7 a8 a9 a10 a11 := rfl
@[simp] theorem n37_0 (a0 : Int) (a1 : Int) (a2 : Int) (a3 : Int) (a4 : Int) (a5 : Int) (a6 : Int) (a7 : Int) (a8 : Int) (a9 : Int) (a10 : Int) (a11 : Bool) : nthV (c37 a0 a1 a2 a3 a4 a5 a6 a7 a8 a9 a10 a11) 0 = .int .u32 a0 := rfl
@[simp] theorem n37_1 (a0 : Int) (a1 : Int) (a2 : Int) (a3 : Int) (a4 : Int) (a5 : Int) (a6 : Int) (a7 : Int) (a8 : Int) (a9 : Int) (a10 : Int) (a11 : Bool) : nthV (c37 a0 a1 a2 a3 a4 a5 a6 a7 a8 a9 a10 a11) 1 = .int .u32 a1 := rfl
@[simp] theorem n37_2 (a0 : Int) (a1 : Int) (a2 : Int) (a3 : Int) (a4 : Int) (a5 : Int) (a6 : Int) (a7 : Int) (a8 : Int) (a9 : Int) (a10 : Int) (a11 : Bool) : nthV (c37 a0 a1 a2 a3 a4 a5 a6 a7 a8 a9 a10 a11) 2 = .int .u32 a2 := rfl
@[simp] theorem n37_3 (a0 : Int) (a1 : Int) (a2 : Int) (a3 : Int) (a4 : Int) (a5 : Int) (a6 : Int) (a7 : Int) (a8 : Int) (a9 : Int) (a10 : Int) (a11 : Bool) : nthV (c37 a0 a1 a2 a3 a4 a5 a6 a7 a8 a9 a10 a11) 3 = .int .u32 a3 := rfl
@[simp] theorem n37_4 (a0 : Int) (a1 : Int) (a2 : Int) (a3 : Int) (a4 : Int) (a5 : Int) (a6 : Int) (a7 : Int) (a8 : Int) (a9 : Int) (a10 : Int) (a11 : Bool) : nthV (c37 a0 a1 a2 a3 a4 a5 a6 a7 a8 a9 a10 a11) 4 = .int .u32 a4 := rfl
@[simp] theorem n37_5 (a0 : Int) (a1 : Int) (a2 : Int) (a3 : Int) (a4 : Int) (a5 : Int) (a6 : Int) (a7 : Int) (a8 : Int) (a9 : Int) (a10 : Int) (a11 : Bool) : nthV (c37 a0 a1 a2 a3 a4 a5 a6 a7 a8 a9 a10 a11) 5 = .int .u32 a5 := rfl
@[simp] theorem n37_6 (a0 : Int) (a1 : Int) (a2 : Int) (a3 : Int) (a4 : Int) (a5 : Int) (a6 : Int) (a7 : Int) (a8 : Int) (a9 : Int) (a10 : Int) (a11 : Bool) : nthV (c37 a0 a1 a2 a3 a4 a5 a6 a7 a8 a9 a10 a11) 6 = .int .u32 a6 := rfl
@[simp] theorem n37_7 (a0 : Int) (a1 : Int) (a2 : Int) (a3 : Int) (a4 : Int) (a5 : Int) (a6 : Int) (a7 : Int) (a8 : Int) (a9 : Int) (a10 : Int) (a11 : Bool) : nthV (c37 a0 a1 a2 a3 a4 a5 a6 a7 a8 a9 a10 a11) 7 = .int .u32 a7 := rfl
@[simp] theorem n37_8 (a0 : Int) (a1 : Int) (a2 : Int) (a3 : Int) (a4 : Int) (a5 : Int) (a6 : Int) (a7 : Int) (a8 : Int) (a9 : Int) (a10 : Int) (a11 : Bool) : nthV (c37 a0 a1 a2 a3 a4 a5 a6 a7 a8 a9 a10 a11) 8 = .int .u8 a8 := rfl
@[simp] theorem n37_9 (a0 : Int) (a1 : Int) (a2 : Int) (a3 : Int) (a4 : Int) (a5 : Int) (a6 : Int) (a7 : Int) (a8 : Int) (a9 : Int) (a10 : Int) (a11 : Bool) : nthV (c37 a0 a1 a2 a3 a4 a5 a6 a7 a8 a9 a10 a11) 9 = .int .i64 a9 := rfl
@[simp] theorem n37_10 (a0 : Int) (a1 : Int) (a2 : Int) (a3 : Int) (a4 : Int) (a5 : Int) (a6 : Int) (a7 : Int) (a8 : Int) (a9 : Int) (a10 : Int) (a11 : Bool) : nthV (c37 a0 a1 a2 a3 a4 a5 a6 a7 a8 a9 a10 a11) 10 = .int .u32 a10 := rfl
@[simp] theorem n37_11 (a0 : Int) (a1 : Int) (a2 : Int) (a3 : Int) (a4 : Int) (a5 : Int) (a6 : Int) (a7 : Int) (a8 : Int) (a9 : Int) (a10 : Int) (a11 : Bool) : nthV (c37 a0 a1 a2 a3 a4 a5 a6 a7 a8 a9 a10 a11) 11 = .bool a11 := rfl
def k40 : List Kind := [.int .i64, .slice, .int .u32, .int .u32, .int .u32, .int .u32, .int .u32, .int .u32, .int .u32, .int .u32, .int .u8, .int .i64, .int .u32, .bool]
def c40 (a0 : Int) (a1p : Option (Nat × Nat)) (a1n : Nat) (a1c : Nat) (a2 : Int) (a3 : Int) (a4 : Int) (a5 : Int) (a6 : Int) (a7 : Int) (a8 : Int) (a9 : Int) (a10 : Int) (a11 : Int) (a12 : Int) (a13 : Bool) : List V := [.int .i64 a0, .slice a1p a1n a1c, .int .u32 a2, .int .u32 a3, .int .u32 a4, .int .u32 a5, .int .u32 a6, .int .u32 a7, .int .u32 a8, .int .u32 a9, .int .u8 a10, .int .i64 a11, .int .u32 a12, .bool a13]
def o40 (l : List V) : List V := c40 (nthV l 0).getInt (nthV l 1).slPtr (nthV l 1).slLen (nthV l 1).slCap (nthV l 2).getInt (nthV l 3).getInt (nthV l 4).getInt (nthV l 5).getInt (nthV l 6).getInt (nthV l 7).getInt (nthV l 8).getInt (nthV l 9).getInt (nthV l 10).getInt (nthV l 11).getInt (nthV l 12).getInt (nthV l 13).getBool
@[simp] theorem f40 (a0 : Int) (a1p : Option (Nat × Nat)) (a1n : Nat) (a1c : Nat) (a2 : Int) (a3 : Int) (a4 : Int) (a5 : Int) (a6 : Int) (a7 : Int) (a8 : Int) (a9 : Int) (a10 : Int) (a11 : Int) (a12 : Int) (a13 : Bool) : Am.fits k40 (c40 a0 a1p a1n a1c a2 a3 a4 a5 a6 a7 a8 a9 a10 a11 a12 a13) = true := rfl
@[simp] theorem oc40 (a0 : Int) (a1p : Option (Nat × Nat)) (a1n : Nat) (a1c : Nat) (a2 : Int) (a3 : Int) (a4 : Int) (a5 : Int) (a6 : Int) (a7 : Int) (a8 : Int) (a9 : Int) (a10 : Int) (a11 : Int) (a12 : Int) (a13 : Bool) : o40 (c40 a0 a1p a1n a1c a2 a3 a4 a5 a6 a7 a8 a9 a10 a11 a12 a13) = c40 a0 a1p a1n a1c a2 a3 a4 a5 a6 a7 a8 a9 a10 a11 a12 a13 := rfl
@[simp] theorem n40_0 (a0 : Int) (a1p : Option (Nat × Nat)) (a1n : Nat) (a1c : Nat) (a2 : Int) (a3 : Int) (a4 : Int) (a5 : Int) (a6 : Int) (a7 : Int) (a8 : Int) (a9 : Int) (a10 : Int) (a11 : Int) (a12 : Int) (a13 : Bool) : nthV (c40 a0 a1p a1n a1c a2 a3 a4 a5 a6 a7 a8 a9 a10 a11 a12 a13) 0 = .int .i64 a0 := rfl
@[simp] theorem n40_1 (a0 : Int) (a1p : Option (Nat × Nat)) (a1n : Nat) (a1c : Nat) (a2 : Int) (a3 : Int) (a4 : Int) (a5 : Int) (a6 : Int) (a7 : Int) (a8 : Int) (a9 : Int) (a10 : Int) (a11 : Int) (a12 : Int) (a13 : Bool) : nthV (c40 a0 a1p a1n a1c a2 a3 a4 a5 a6 a7 a8 a9 a10 a11 a12 a13) 1 = .slice a1p a1n a1c := rfl
@[simp] theorem n40_2 (a0 : Int) (a1p : Option (Nat × Nat)) (a1n : Nat) (a1c : Nat) (a2 : Int) (a3 : Int) (a4 : Int) (a5 : Int) (a6 : Int) (a7 : Int) (a8 : Int) (a9 : Int) (a10 : Int) (a11 : Int) (a12 : Int) (a13 : Bool) : nthV (c40 a0 a1p a1n a1c a2 a3 a4 a5 a6 a7 a8 a9 a10 a11 a12 a13) 2 = .int .u32 a2 := rfl
@[simp] theorem n40_3 (a0 : Int) (a1p : Option (Nat × Nat)) (a1n : Nat) (a1c : Nat) (a2 : Int) (a3 : Int) (a4 : Int) (a5 : Int) (a6 : Int) (a7 : Int) (a8 : Int) (a9 : Int) (a10 : Int) (a11 : Int) (a12 : Int) (a13 : Bool) : nthV (c40 a0 a1p a1n a1c a2 a3 a4 a5 a6 a7 a8 a9 a10 a11 a12 a13) 3 = .int .u32 a3 := rfl
@[simp] theorem n40_4 (a0 : Int) (a1p : Option (Nat × Nat)) (a1n : Nat) (a1c : Nat) (a2 : Int) (a3 : Int) (a4 : Int) (a5 : Int) (a6 : Int) (a7 : Int) (a8 : Int) (a9 : Int) (a10 : Int) (a11 : Int) (a12 : Int) (a13 : Bool) : nthV (c40 a0 a1p a1n a1c a2 a3 a4 a5 a6 a7 a8 a9 a10 a11 a12 a13) 4 = .int .u32 a4 := rfl
@[simp] theorem n40_5 (a0 : Int) (a1p : Option (Nat × Nat)) (a1n : Nat) (a1c : Nat) (a2 : Int) (a3 : Int) (a4 : Int) (a5 : Int) (a6 : Int) (a7 : Int) (a8 : Int) (a9 : Int) (a10 : Int) (a11 : Int) (a12 : Int) (a13 : Bool) : nthV (c40 a0 a1p a1n a1c a2 a3 a4 a5 a6 a7 a8 a9 a10 a11 a12 a13) 5 = .int .u32 a5 := rfl
@[simp] theorem n40_6 (a0 : Int) (a1p : Option (Nat × Nat)) (a1n : Nat) (a1c : Nat) (a2 : Int) (a3 : Int) (a4 : Int) (a5 : Int) (a6 : Int) (a7 : Int) (a8 : Int) (a9 : Int) (a10 : Int) (a11 : Int) (a12 : Int) (a13 : Bool) : nthV (c40 a0 a1p a1n a1c a2 a3 a4 a5 a6 a7 a8 a9 a10 a11 a12 a13) 6 = .int .u32 a6 := rfl
@[simp] theorem n40_7 (a0 : Int) (a1p : Option (Nat × Nat)) (a1n : Nat) (a1c : Nat) (a2 : Int) (a3 : Int) (a4 : Int) (a5 : Int) (a6 : Int) (a7 : Int) (a8 : Int) (a9 : Int) (a10 : Int) (a11 : Int) (a12 : Int) (a13 : Bool) : nthV (c40 a0 a1p a1n a1c a2 a3 a4 a5 a6 a7 a8 a9 a10 a11 a12 a13) 7 = .int .u32 a7 := rfl
@[simp] theorem n40_8 (a0 : Int) (a1p : Option (Nat × Nat)) (a1n : Nat) (a1c : Nat) (a2 : Int) (a3 : Int) (a4 : Int) (a5 : Int) (a6 : Int) (a7 : Int) (a8 : Int) (a9 : Int) (a10 : Int) (a11 : Int) (a12 : Int) (a13 : Bool) : nthV (c40 a0 a1p a1n a1c a2 a3 a4 a5 a6 a7 a8 a9 a10 a11 a12 a13) 8 = .int .u32 a8 := rfl
@[simp] theorem n40_9 (a0 : Int) (a1p : Option (Nat × Nat)) (a1n : Nat) (a1c : Nat) (a2 : Int) (a3 : Int) (a4 : Int) (a5 : Int) (a6 : Int) (a7 : Int) (a8 : Int) (a9 : Int) (a10 : Int) (a11 : Int) (a12 : Int) (a13 : Bool) : nthV (c40 a0 a1p a1n a1c a2 a3 a4 a5 a6 a7 a8 a9 a10 a11 a12 a13) 9 = .int .u32 a9 := rfl
@[simp] theorem n40_10 (a0 : Int) (a1p : Option (Nat × Nat)) (a1n : Nat) (a1c : Nat) (a2 : Int) (a3 : Int) (a4 : Int) (a5 : Int) (a6 : Int) (a7 : Int) (a8 : Int) (a9 : Int) (a10 : Int) (a11 : Int) (a12 : Int) (a13 : Bool) : nthV (c40 a0 a1p a1n a1c a2 a3 a4 a5 a6 a7 a8 a9 a10 a11 a12 a13) 10 = .int .u8 a10 := rfl
@[simp] theorem n40_11 (a0 : Int) (a1p : Option (Nat × Nat)) (a1n : Nat) (a1c : Nat) (a2 : Int) (a3 : Int) (a4 : Int) (a5 : Int) (a6 : Int) (a7 : Int) (a8 : Int) (a9 : Int) (a10 : Int) (a11 : Int) (a12 : Int) (a13 : Bool) : nthV (c40 a0 a1p a1n a1c a2 a3 a4 a5 a6 a7 a8 a9 a10 a11 a12 a13) 11 = .int .i64 a11 := rfl
@[simp] theorem n40_12 (a0 : Int) (a1p : Option (Nat × Nat)) (a1n : Nat) (a1c : Nat) (a2 : Int) (a3 : Int) (a4 : Int) (a5 : Int) (a6 : Int) (a7 : Int) (a8 : Int) (a9 : Int) (a10 : Int) (a11 : Int) (a12 : Int) (a13 : Bool) : nthV (c40 a0 a1p a1n a1c a2 a3 a4 a5 a6 a7 a8 a9 a10 a11 a12 a13) 12 = .int .u32 a12 := rfl
@[simp] theorem n40_13 (a0 : Int) (a1p : Option (Nat × Nat)) (a1n : Nat) (a1c : Nat) (a2 : Int) (a3 : Int) (a4 : Int) (a5 : Int) (a6 : Int) (a7 : Int) (a8 : Int) (a9 : Int) (a10 : Int) (a11 : Int) (a12 : Int) (a13 : Bool) : nthV (c40 a0 a1p a1n a1c a2 a3 a4 a5 a6 a7 a8 a9 a10 a11 a12 a13) 13 = .bool a13 := rfl
def k49 : List Kind := [.slice, .slice, .int .u32, .int .u32, .int .u32, .int .u32, .int .u32, .int .u32, .int .u32, .int .u32, .int .u8, .int .i64, .int .u32, .bool]
def c49 (a0p : Option (Nat × Nat)) (a0n : Nat) (a0c : Nat) (a1p : Option (Nat × Nat)) (a1n : Nat) (a1c : Nat) (a2 : Int) (a3 : Int) (a4 : Int) (a5 : Int) (a6 : Int) (a7 : Int) (a8 : Int) (a9 : Int) (a10 : Int) (a11 : Int) (a12 : Int) (a13 : Bool) : List V := [.slice a0p a0n a0c, .slice a1p a1n a1c, .int .u32 a2, .int .u32 a3, .int .u32 a4, .int .u32 a5, .int .u32 a6, .int .u32 a7, .int .u32 a8, .int .u32 a9, .int .u8 a10, .int .i64 a11, .int .u32 a12, .bool a13]
def o49 (l : List V) : List V := c49 (nthV l 0).slPtr (nthV l 0).slLen (nthV l 0).slCap (nthV l 1).slPtr (nthV l 1).slLen (nthV l 1).slCap (nthV l 2).getInt (nthV l 3).getInt (nthV l 4).getInt (nthV l 5).getInt (nthV l 6).getInt (nthV l 7).getInt (nthV l 8).getInt (nthV l 9).getInt (nthV l 10).getInt (nthV l 11).getInt (nthV l 12).getInt (nthV l 13).getBool
@[simp] theorem f49 (a0p : Option (Nat × Nat)) (a0n : Nat) (a0c : Nat) (a1p : Option (Nat × Nat)) (a1n : Nat) (a1c : Nat) (a2 : Int) (a3 : Int) (a4 : Int) (a5 : Int) (a6 : Int) (a7 : Int) (a8 : Int) (a9 : Int) (a10 : Int) (a11 : Int) (a12 : Int) (a13 : Bool) : Am.fits k49 (c49 a0p a0n a0c a1p a1n a1c a2 a3 a4 a5 a6 a7 a8 a9 a10 a11 a12 a13) = true := rfl
@[simp] theorem oc49 (a0p : Option (Nat × Nat)) (a0n : Nat) (a0c : Nat) (a1p : Option (Nat × Nat)) (a1n : Nat) (a1c : Nat) (a2 : Int) (a3 : Int) (a4 : Int) (a5 : Int) (a6 : Int) (a7 : Int) (a8 : Int) (a9 : Int) (a10 : Int) (a11 : Int) (a12 : Int) (a13 : Bool) : o49 (c49 a0p a0n a0c a1p a1n a1c a2 a3 a4 a5 a6 a7 a8 a9 a10 a11 a12 a13) = c49 a0p a0n a0c a1p a1n a1c a2 a3 a4 a5 a6 a7 a8 a9 a10 a11 a12 a13 := rfl
@[simp] theorem n49_0 (a0p : Option (Nat × Nat)) (a0n : Nat) (a0c : Nat) (a1p : Option (Nat × Nat)) (a1n : Nat) (a1c : Nat) (a2 : Int) (a3 : Int) (a4 : Int) (a5 : Int) (a6 : Int) (a7 : Int) (a8 : Int) (a9 : Int) (a10 : Int) (a11 : Int) (a12 : Int) (a13 : Bool) : nthV (c49 a0p a0n a0c a1p a1n a1c a2 a3 a4 a5 a6 a7 a8 a9 a10 a11 a12 a13) 0 = .slice a0p a0n a0c := rfl
@[simp] theorem n49_1 (a0p : Option (Nat × Nat)) (a0n : Nat) (a0c : Nat) (a1p : Option (Nat × Nat)) (a1n : Nat) (a1c : Nat) (a2 : Int) (a3 : Int) (a4 : Int) (a5 : Int) (a6 : Int) (a7 : Int) (a8 : Int) (a9 : Int) (a10 : Int) (a11 : Int) (a12 : Int) (a13 : Bool) : nthV (c49 a0p a0n a0c a1p a1n a1c a2 a3 a4 a5 a6 a7 a8 a9 a10 a11 a12 a13) 1 = .slice a1p a1n a1c := rfl
@[simp] theorem n49_2 (a0p : Option (Nat × Nat)) (a0n : Nat) (a0c : Nat) (a1p : Option (Nat × Nat)) (a1n : Nat) (a1c : Nat) (a2 : Int) (a3 : Int) (a4 : Int) (a5 : Int) (a6 : Int) (a7 : Int) (a8 : Int) (a9 : Int) (a10 : Int) (a11 : Int) (a12 : Int) (a13 : Bool) : nthV (c49 a0p a0n a0c a1p a1n a1c a2 a3 a4 a5 a6 a7 a8 a9 a10 a11 a12 a13) 2 = .int .u32 a2 := rfl
@[simp] theorem n49_3 (a0p : Option (Nat × Nat)) (a0n : Nat) (a0c : Nat) (a1p : Option (Nat × Nat)) (a1n : Nat) (a1c : Nat) (a2 : Int) (a3 : Int) (a4 : Int) (a5 : Int) (a6 : Int) (a7 : Int) (a8 : Int) (a9 : Int) (a10 : Int) (a11 : Int) (a12 : Int) (a13 : Bool) : nthV (c49 a0p a0n a0c a1p a1n a1c a2 a3 a4 a5 a6 a7 a8 a9 a10 a11 a12 a13) 3 = .int .u32 a3 := rfl
@[simp] theorem n49_4 (a0p : Option (Nat × Nat)) (a0n : Nat) (a0c : Nat) (a1p : Option (Nat × Nat)) (a1n : Nat) (a1c : Nat) (a2 : Int) (a3 : Int) (a4 : Int) (a5 : Int) (a6 : Int) (a7 : Int) (a8 : Int) (a9 : Int) (a10 : Int) (a11 : Int) (a12 : Int) (a13 : Bool) : nthV (c49 a0p a0n a0c a1p a1n a1c a2 a3 a4 a5 a6 a7 a8 a9 a10 a11 a12 a13) 4 = .int .u32 a4 := rfl
@[simp] theorem n49_5 (a0p : Option (Nat × Nat)) (a0n : Nat) (a0c : Nat) (a1p : Option (Nat × Nat)) (a1n : Nat) (a1c : Nat) (a2 : Int) (a3 : Int) (a4 : Int) (a5 : Int) (a6 : Int) (a7 : Int) (a8 : Int) (a9 : Int) (a10 : Int) (a11 : Int) (a12 : Int) (a13 : Bool) : nthV (c49 a0p a0n a0c a1p a1n a1c a2 a3 a4 a5 a6 a7 a8 a9 a10 a11 a12 a13) 5 = .int .u32 a5 := rfl
@[simp] theorem n49_6 (a0p : Option (Nat × Nat)) (a0n : Nat) (a0c : Nat) (a1p : Option (Nat × Nat)) (a1n : Nat) (a1c : Nat) (a2 : Int) (a3 : Int) (a4 : Int) (a5 : Int) (a6 : Int) (a7 : Int) (a8 : Int) (a9 : Int) (a10 : Int) (a11 : Int) (a12 : Int) (a13 : Bool) : nthV (c49 a0p a0n a0c a1p a1n a1c a2 a3 a4 a5 a6 a7 a8 a9 a10 a11 a12 a13) 6 = .int .u32 a6 := rfl
@[simp] theorem n49_7 (a0p : Option (Nat × Nat)) (a0n : Nat) (a0c : Nat) (a1p : Option (Nat × Nat)) (a1n : Nat) (a1c : Nat) (a2 : Int) (a3 : Int) (a4 : Int) (a5 : Int) (a6 : Int) (a7 : Int) (a8 : Int) (a9 : Int) (a10 : Int) (a11 : Int) (a12 : Int) (a13 : Bool) : nthV (c49 a0p a0n a0c a1p a1n a1c a2 a3 a4 a5 a6 a7 a8 a9 a10 a11 a12 a13) 7 = .int .u32 a7 := rfl
@[simp] theorem n49_8 (a0p : Option (Nat × Nat)) (a0n : Nat) (a0c : Nat) (a1p : Option (Nat × Nat)) (a1n : Nat) (a1c : Nat) (a2 : Int) (a3 : Int) (a4 : Int) (a5 : Int) (a6 : Int) (a7 : Int) (a8 : Int) (a9 : Int) (a10 : Int) (a11 : Int) (a12 : Int) (a13 : Bool) : nthV (c49 a0p a0n a0c a1p a1n a1c a2 a3 a4 a5 a6 a7 a8 a9 a10 a11 a12 a13) 8 = .int .u32 a8 := rfl
@[simp] theorem n49_9 (a0p : Option (Nat × Nat)) (a0n : Nat) (a0c : Nat) (a1p : Option (Nat × Nat)) (a1n : Nat) (a1c : Nat) (a2 : Int) (a3 : Int) (a4 : Int) (a5 : Int) (a6 : Int) (a7 : Int) (a8 : Int) (a9 : Int) (a10 : Int) (a11 : Int) (a12 : Int) (a13 : Bool) : nthV (c49 a0p a0n a0c a1p a1n a1c a2 a3 a4 a5 a6 a7 a8 a9 a10 a11 a12 a13) 9 = .int .u32 a9 := rfl
@[simp] theorem n49_10 (a0p : Option (Nat × Nat)) (a0n : Nat) (a0c : Nat) (a1p : Option (Nat × Nat)) (a1n : Nat) (a1c : Nat) (a2 : Int) (a3 : Int) (a4 : Int) (a5 : Int) (a6 : Int) (a7 : Int) (a8 : Int) (a9 : Int) (a10 : Int) (a11 : Int) (a12 : Int) (a13 : Bool) : nthV (c49 a0p a0n a0c a1p a1n a1c a2 a3 a4 a5 a6 a7 a8 a9 a10 a11 a12 a13) 10 = .int .u8 a10 := rfl
@[simp] theorem n49_11 (a0p : Option (Nat × Nat)) (a0n : Nat) (a0c : Nat) (a1p : Option (Nat × Nat)) (a1n : Nat) (a1c : Nat) (a2 : Int) (a3 : Int) (a4 : Int) (a5 : Int) (a6 : Int) (a7 : Int) (a8 : Int) (a9 : Int) (a10 : Int) (a11 : Int) (a12 : Int) (a13 : Bool) : nthV (c49 a0p a0n a0c a1p a1n a1c a2 a3 a4 a5 a6 a7 a8 a9 a10 a11 a12 a13) 11 = .int .i64 a11 := rfl
@[simp] theorem n49_12 (a0p : Option (Nat × Nat)) (a0n : Nat) (a0c : Nat) (a1p : Option (Nat × Nat)) (a1n : Nat) (a1c : Nat) (a2 : Int) (a3 : Int) (a4 : Int) (a5 : Int) (a6 : Int) (a7 : Int) (a8 : Int) (a9 : Int) (a10 : Int) (a11 : Int) (a12 : Int) (a13 : Bool) : nthV (c49 a0p a0n a0c a1p a1n a1c a2 a3 a4 a5 a6 a7 a8 a9 a10 a11 a12 a13) 12 = .int .u32 a12 := rfl
@[simp] theorem n49_13 (a0p : Option (Nat × Nat)) (a0n : Nat) (a0c : Nat) (a1p : Option (Nat × Nat)) (a1n : Nat) (a1c : Nat) (a2 : Int) (a3 : Int) (a4 : Int) (a5 : Int) (a6 : Int) (a7 : Int) (a8 : Int) (a9 : Int) (a10 : Int) (a11 : Int) (a12 : Int) (a13 : Bool) : nthV (c49 a0p a0n a0c a1p a1n a1c a2 a3 a4 a5 a6 a7 a8 a9 a10 a11 a12 a13) 13 = .bool a13 := rfl
def k68 : List Kind := [.slice, .ptr, .int .u32, .int .u32, .int .u32, .int .u32, .int .u32, .int .u32, .int .u32, .int .u32, .int .u8, .int .i64, .int .u32, .bool]
def c68 (a0p : Option (Nat × Nat)) (a0n : Nat) (a0c : Nat) (a1 : Option (Nat × Nat)) (a2 : Int) (a3 : Int) (a4 : Int) (a5 : Int) (a6 : Int) (a7 : Int) (a8 : Int) (a9 : Int) (a10 : Int) (a11 : Int) (a12 : Int) (a13 : Bool) : List V := [.slice a0p a0n a0c, .ptr a1, .int .u32 a2, .int .u32 a3, .int .u32 a4, .int .u32 a5, .int .u32 a6, .int .u32 a7, .int .u32 a8, .int .u32 a9, .int .u8 a10, .int .i64 a11, .int .u32 a12, .bool a13]
def o68 (l : List V) : List V := c68 (nthV l 0).slPtr (nthV l 0).slLen (nthV l 0).slCap (nthV l 1).getPtr (nthV l 2).getInt (nthV l 3).getInt (nthV l 4).getInt (nthV l 5).getInt (nthV l 6).getInt (nthV l 7).getInt (nthV l 8).getInt (nthV l 9).getInt (nthV l 10).getInt (nthV l 11).getInt (nthV l 12).getInt (nthV l 13).getBool
@[simp] theorem f68 (a0p : Option (Nat × Nat)) (a0n : Nat) (a0c : Nat) (a1 : Option (Nat × Nat)) (a2 : Int) (a3 : Int) (a4 : Int) (a5 : Int) (a6 : Int) (a7 : Int) (a8 : Int) (a9 : Int) (a10 : Int) (a11 : Int) (a12 : Int) (a13 : Bool) : Am.fits k68 (c68 a0p a0n a0c a1 a2 a3 a4 a5 a6 a7 a8 a9 a10 a11 a12 a13) = true := rfl
@[simp] theorem oc68 (a0p : Option (Nat × Nat)) (a0n : Nat) (a0c : Nat) (a1 : Option (Nat × Nat)) (a2 : Int) (a3 : Int) (a4 : Int) (a5 : Int) (a6 : Int) (a7 : Int) (a8 : Int) (a9 : Int) (a10 : Int) (a11 : Int) (a12 : Int) (a13 : Bool) : o68 (c68 a0p a0n a0c a1 a2 a3 a4 a5 a6 a7 a8 a9 a10 a11 a12 a13) = c68 a0p a0n a0c a1 a2 a3 a4 a5 a6 a7 a8 a9 a10 a11 a12 a13 := rfl
@[simp] theorem n68_0 (a0p : Option (Nat × Nat)) (a0n : Nat) (a0c : Nat) (a1 : Option (Nat × Nat)) (a2 : Int) (a3 : Int) (a4 : Int) (a5 : Int) (a6 : Int) (a7 : Int) (a8 : Int) (a9 : Int) (a10 : Int) (a11 : Int) (a12 : Int) (a13 : Bool) : nthV (c68 a0p a0n a0c a1 a2 a3 a4 a5 a6 a7 a8 a9 a10 a11 a12 a13) 0 = .slice a0p a0n a0c := rfl
@[simp] theorem n68_1 (a0p : Option (Nat × Nat)) (a0n : Nat) (a0c : Nat) (a1 : Option (Nat × Nat)) (a2 : Int) (a3 : Int) (a4 : Int) (a5 : Int) (a6 : Int) (a7 : Int) (a8 : Int) (a9 : Int) (a10 : Int) (a11 : Int) (a12 : Int) (a13 : Bool) : nthV (c68 a0p a0n a0c a1 a2 a3 a4 a5 a6 a7 a8 a9 a10 a11 a12 a13) 1 = .ptr a1 := rfl
@[simp] theorem n68_2 (a0p : Option (Nat × Nat)) (a0n : Nat) (a0c : Nat) (a1 : Option (Nat × Nat)) (a2 : Int) (a3 : Int) (a4 : Int) (a5 : Int) (a6 : Int) (a7 : Int) (a8 : Int) (a9 : Int) (a10 : Int) (a11 : Int) (a12 : Int) (a13 : Bool) : nthV (c68 a0p a0n a0c a1 a2 a3 a4 a5 a6 a7 a8 a9 a10 a11 a12 a13) 2 = .int .u32 a2 := rfl
@[simp] theorem n68_3 (a0p : Option (Nat × Nat)) (a0n : Nat) (a0c : Nat) (a1 : Option (Nat × Nat)) (a2 : Int) (a3 : Int) (a4 : Int) (a5 : Int) (a6 : Int) (a7 : Int) (a8 : Int) (a9 : Int) (a10 : Int) (a11 : Int) (a12 : Int) (a13 : Bool) : nthV (c68 a0p a0n a0c a1 a2 a3 a4 a5 a6 a7 a8 a9 a10 a11 a12 a13) 3 = .int .u32 a3 := rfl
@[simp] theorem n68_4 (a0p : Option (Nat × Nat)) (a0n : Nat) (a0c : Nat) (a1 : Option (Nat × Nat)) (a2 : Int) (a3 : Int) (a4 : Int) (a5 : Int) (a6 : Int) (a7 : Int) (a8 : Int) (a9 : Int) (a10 : Int) (a11 : Int) (a12 : Int) (a13 : Bool) : nthV (c68 a0p a0n a0c a1 a2 a3 a4 a5 a6 a7 a8 a9 a10 a11 a12 a13) 4 = .int .u32 a4 := rfl
@[simp] theorem n68_5 (a0p : Option (Nat × Nat)) (a0n : Nat) (a0c : Nat) (a1 : Option (Nat × Nat)) (a2 : Int) (a3 : Int) (a4 : Int) (a5 : Int) (a6 : Int) (a7 : Int) (a8 : Int) (a9 : Int) (a10 : Int) (a11 : Int) (a12 : Int) (a13 : Bool) : nthV (c68 a0p a0n a0c a1 a2 a3 a4 a5 a6 a7 a8 a9 a10 a11 a12 a13) 5 = .int .u32 a5 := rfl
@[simp] theorem n68_6 (a0p : Option (Nat × Nat)) (a0n : Nat) (a0c : Nat) (a1 : Option (Nat × Nat)) (a2 : Int) (a3 : Int) (a4 : Int) (a5 : Int) (a6 : Int) (a7 : Int) (a8 : Int) (a9 : Int) (a10 : Int) (a11 : Int) (a12 : Int) (a13 : Bool) : nthV (c68 a0p a0n a0c a1 a2 a3 a4 a5 a6 a7 a8 a9 a10 a11 a12 a13) 6 = .int .u32 a6 := rfl
@[simp] theorem n68_7 (a0p : Option (Nat × Nat)) (a0n : Nat) (a0c : Nat) (a1 : Option (Nat × Nat)) (a2 : Int) (a3 : Int) (a4 : Int) (a5 : Int) (a6 : Int) (a7 : Int) (a8 : Int) (a9 : Int) (a10 : Int) (a11 : Int) (a12 : Int) (a13 : Bool) : nthV (c68 a0p a0n a0c a1 a2 a3 a4 a5 a6 a7 a8 a9 a10 a11 a12 a13) 7 = .int .u32 a7 := rfl
@[simp] theorem n68_8 (a0p : Option (Nat × Nat)) (a0n : Nat) (a0c : Nat) (a1 : Option (Nat × Nat)) (a2 : Int) (a3 : Int) (a4 : Int) (a5 : Int) (a6 : Int) (a7 : Int) (a8 : Int) (a9 : Int) (a10 : Int) (a11 : Int) (a12 : Int) (a13 : Bool) : nthV (c68 a0p a0n a0c a1 a2 a3 a4 a5 a6 a7 a8 a9 a10 a11 a12 a13) 8 = .int .u32 a8 := rfl
@[simp] theorem n68_9 (a0p : Option (Nat × Nat)) (a0n : Nat) (a0c : Nat) (a1 : Option (Nat × Nat)) (a2 : Int) (a3 : Int) (a4 : Int) (a5 : Int) (a6 : Int) (a7 : Int) (a8 : Int) (a9 : Int) (a10 : Int) (a11 : Int) (a12 : Int) (a13 : Bool) : nthV (c68 a0p a0n a0c a1 a2 a3 a4 a5 a6 a7 a8 a9 a10 a11 a12 a13) 9 = .int .u32 a9 := rfl
@[simp] theorem n68_10 (a0p : Option (Nat × Nat)) (a0n : Nat) (a0c : Nat) (a1 : Option (Nat × Nat)) (a2 : Int) (a3 : Int) (a4 : Int) (a5 : Int) (a6 : Int) (a7 : Int) (a8 : Int) (a9 : Int) (a10 : Int) (a11 : Int) (a12 : Int) (a13 : Bool) : nthV (c68 a0p a0n a0c a1 a2 a3 a4 a5 a6 a7 a8 a9 a10 a11 a12 a13) 10 = .int .u8 a10 := rfl
@[simp] theorem n68_11 (a0p : Option (Nat × Nat)) (a0n : Nat) (a0c : Nat) (a1 : Option (Nat × Nat)) (a2 : Int) (a3 : Int) (a4 : Int) (a5 : Int) (a6 : Int) (a7 : Int) (a8 : Int) (a9 : Int) (a10 : Int) (a11 : Int) (a12 : Int) (a13 : Bool) : nthV (c68 a0p a0n a0c a1 a2 a3 a4 a5 a6 a7 a8 a9 a10 a11 a12 a13) 11 = .int .i64 a11 := rfl
@[simp] theorem n68_12 (a0p : Option (Nat × Nat)) (a0n : Nat) (a0c : Nat) (a1 : Option (Nat × Nat)) (a2 : Int) (a3 : Int) (a4 : Int) (a5 : Int) (a6 : Int) (a7 : Int) (a8 : Int) (a9 : Int) (a10 : Int) (a11 : Int) (a12 : Int) (a13 : Bool) : nthV (c68 a0p a0n a0c a1 a2 a3 a4 a5 a6 a7 a8 a9 a10 a11 a12 a13) 12 = .int .u32 a12 := rfl
@[simp] theorem n68_13 (a0p : Option (Nat × Nat)) (a0n : Nat) (a0c : Nat) (a1 : Option (Nat × Nat)) (a2 : Int) (a3 : Int) (a4 : Int) (a5 : Int) (a6 : Int) (a7 : Int) (a8 : Int) (a9 : Int) (a10 : Int) (a11 : Int) (a12 : Int) (a13 : Bool) : nthV (c68 a0p a0n a0c a1 a2 a3 a4 a5 a6 a7 a8 a9 a10 a11 a12 a13) 13 = .bool a13 := rfl
def k72 : List Kind := [.int .i64, .slice, .bool]
def c72 (a0 : Int) (a1p : Option (Nat × Nat)) (a1n : Nat) (a1c : Nat) (a2 : Bool) : List V := [.int .i64 a0, .slice a1p a1n a1c, .bool a2]
def o72 (l : List V) : List V := c72 (nthV l 0).getInt (nthV l 1).slPtr (nthV l 1).slLen (nthV l 1).slCap (nthV l 2).getBool
@[simp] theorem f72 (a0 : Int) (a1p : Option (Nat × Nat)) (a1n : Nat) (a1c : Nat) (a2 : Bool) : Am.fits k72 (c72 a0 a1p a1n a1c a2) = true := rfl
@[simp] theorem oc72 (a0 : Int) (a1p : Option (Nat × Nat)) (a1n : Nat) (a1c : Nat) (a2 : Bool) : o72 (c72 a0 a1p a1n a1c a2) = c72 a0 a1p a1n a1c a2 := rfl
@[simp] theorem n72_0 (a0 : Int) (a1p : Option (Nat × Nat)) (a1n : Nat) (a1c : Nat) (a2 : Bool) : nthV (c72 a0 a1p a1n a1c a2) 0 = .int .i64 a0 := rfl
@[simp] theorem n72_1 (a0 : Int) (a1p : Option (Nat × Nat)) (a1n : Nat) (a1c : Nat) (a2 : Bool) : nthV (c72 a0 a1p a1n a1c a2) 1 = .slice a1p a1n a1c := rfl
@[simp] theorem n72_2 (a0 : Int) (a1p : Option (Nat × Nat)) (a1n : Nat) (a1c : Nat) (a2 : Bool) : nthV (c72 a0 a1p a1n a1c a2) 2 = .bool a2 := rfl
def k95 : List Kind := [.int .i64, .str]
def c95 (a0 : Int) (a1 : ByteArray) : List V := [.int .i64 a0, .str a1]
def o95 (l : List V) : List V := c95 (nthV l 0).getInt (nthV l 1).getStr
@[simp] theorem f95 (a0 : Int) (a1 : ByteArray) : Am.fits k95 (c95 a0 a1) = true := rfl
@[simp] theorem oc95 (a0 : Int) (a1 : ByteArray) : o95 (c95 a0 a1) = c95 a0 a1 := rfl
@[simp] theorem n95_0 (a0 : Int) (a1 : ByteArray) : nthV (c95 a0 a1) 0 = .int .i64 a0 := rfl
@[simp] theorem n95_1 (a0 : Int) (a1 : ByteArray) : nthV (c95 a0 a1) 1 = .str a1 := rfl
def k100 : List Kind := [.int .u8, .int .u8, .int .u8, .int .u8, .int .u8, .int .u8]
def c100 (a0 : Int) (a1 : Int) (a2 : Int) (a3 : Int) (a4 : Int) (a5 : Int) : List V := [.int .u8 a0, .int .u8 a1, .int .u8 a2, .int .u8 a3, .int .u8 a4, .int .u8 a5]
def o100 (l : List V) : List V := c100 (nthV l 0).getInt (nthV l 1).getInt (nthV l 2).getInt (nthV l 3).getInt (nthV l 4).getInt (nthV l 5).getInt
@[simp] theorem f100 (a0 : Int) (a1 : Int) (a2 : Int) (a3 : Int) (a4 : Int) (a5 : Int) : Am.fits k100 (c100 a0 a1 a2 a3 a4 a5) = true := rfl
@[simp] theorem oc100 (a0 : Int) (a1 : Int) (a2 : Int) (a3 : Int) (a4 : Int) (a5 : Int) : o100 (c100 a0 a1 a2 a3 a4 a5) = c100 a0 a1 a2 a3 a4 a5 := rfl
@[simp] theorem n100_0 (a0 : Int) (a1 : Int) (a2 : Int) (a3 : Int) (a4 : Int) (a5 : Int) : nthV (c100 a0 a1 a2 a3 a4 a5) 0 = .int .u8 a0 := rfl
@[simp] theorem n100_1 (a0 : Int) (a1 : Int) (a2 : Int) (a3 : Int) (a4 : Int) (a5 : Int) : nthV (c100 a0 a1 a2 a3 a4 a5) 1 = .int .u8 a1 := rfl
@[simp] theorem n100_2 (a0 : Int) (a1 : Int) (a2 : Int) (a3 : Int) (a4 : Int) (a5 : Int) : nthV (c100 a0 a1 a2 a3 a4 a5) 2 = .int .u8 a2 := rfl
@[simp] theorem n100_3 (a0 : Int) (a1 : Int) (a2 : Int) (a3 : Int) (a4 : Int) (a5 : Int) : nthV (c100 a0 a1 a2 a3 a4 a5) 3 = .int .u8 a3 := rfl
@[simp] theorem n100_4 (a0 : Int) (a1 : Int) (a2 : Int) (a3 : Int) (a4 : Int) (a5 : Int) : nthV (c100 a0 a1 a2 a3 a4 a5) 4 = .int .u8 a4 := rfl
@[simp] theorem n100_5 (a0 : Int) (a1 : Int) (a2 : Int) (a3 : Int) (a4 : Int) (a5 : Int) : nthV (c100 a0 a1 a2 a3 a4 a5) 5 = .int .u8 a5 := rfl
def k110 : List Kind := [.ptr, .ptr, .ptr, .str]
def c110 (a0 : Option (Nat × Nat)) (a1 : Option (Nat × Nat)) (a2 : Option (Nat × Nat)) (a3 : ByteArray) : List V := [.ptr a0, .ptr a1, .ptr a2, .str a3]
def o110 (l : List V) : List V := c110 (nthV l 0).getPtr (nthV l 1).getPtr (nthV l 2).getPtr (nthV l 3).getStr
@[simp] theorem f110 (a0 : Option (Nat × Nat)) (a1 : Option (Nat × Nat)) (a2 : Option (Nat × Nat)) (a3 : ByteArray) : Am.fits k110 (c110 a0 a1 a2 a3) = true := rfl
@[simp] theorem oc110 (a0 : Option (Nat × Nat)) (a1 : Option (Nat × Nat)) (a2 : Option (Nat × Nat)) (a3 : ByteArray) : o110 (c110 a0 a1 a2 a3) = c110 a0 a1 a2 a3 := rfl
@[simp] theorem n110_0 (a0 : Option (Nat × Nat)) (a1 : Option (Nat × Nat)) (a2 : Option (Nat × Nat)) (a3 : ByteArray) : nthV (c110 a0 a1 a2 a3) 0 = .ptr a0 := rfl
@[simp] theorem n110_1 (a0 : Option (Nat × Nat)) (a1 : Option (Nat × Nat)) (a2 : Option (Nat × Nat)) (a3 : ByteArray) : nthV (c110 a0 a1 a2 a3) 1 = .ptr a1 := rfl
@[simp] theorem n110_2 (a0 : Option (Nat × Nat)) (a1 : Option (Nat × Nat)) (a2 : Option (Nat × Nat)) (a3 : ByteArray) : nthV (c110 a0 a1 a2 a3) 2 = .ptr a2 := rfl
@[simp] theorem n110_3 (a0 : Option (Nat × Nat)) (a1 : Option (Nat × Nat)) (a2 : Option (Nat × Nat)) (a3 : ByteArray) : nthV (c110 a0 a1 a2 a3) 3 = .str a3 := rfl
def k121 : List Kind := [.int .u64, .int .u64, .int .u32, .int .u8, .int .u8, .int .u8, .int .u8, .func, .ptr, .int .i32, .int .i32]
def c121 (a0 : Int) (a1 : Int) (a2 : Int) (a3 : Int) (a4 : Int) (a5 : Int) (a6 : Int) (a7 : V) (a8 : Option (Nat × Nat)) (a9 : Int) (a10 : Int) : List V := [.int .u64 a0, .int .u64 a1, .int .u32 a2, .int .u8 a3, .int .u8 a4, .int .u8 a5, .int .u8 a6, a7, .ptr a8, .int .i32 a9, .int .i32 a10]
def o121 (l : List V) : List V := c121 (nthV l 0).getInt (nthV l 1).getInt (nthV l 2).getInt (nthV l 3).getInt (nthV l 4).getInt (nthV l 5).getInt (nthV l 6).getInt (nthV l 7) (nthV l 8).getPtr (nthV l 9).getInt (nthV l 10).getInt
@[simp] theorem n121_0 (a0 : Int) (a1 : Int) (a2 : Int) (a3 : Int) (a4 : Int) (a5 : Int) (a6 : Int) (a7 : V) (a8 : Option (Nat × Nat)) (a9 : Int) (a10 : Int) : nthV (c121 a0 a1 a2 a3 a4 a5 a6 a7 a8 a9 a10) 0 = .int .u64 a0 := rfl
@[simp] theorem n121_1 (a0 : Int) (a1 : Int) (a2 : Int) (a3 : Int) (a4 : Int) (a5 : Int) (a6 : Int) (a7 : V) (a8 : Option (Nat × Nat)) (a9 : Int) (a10 : Int) : nthV (c121 a0 a1 a2 a3 a4 a5 a6 a7 a8 a9 a10) 1 = .int .u64 a1 := rfl
@[simp] theorem n121_2 (a0 : Int) (a1 : Int) (a2 : Int) (a3 : Int) (a4 : Int) (a5 : Int) (a6 : Int) (a7 : V) (a8 : Option (Nat × Nat)) (a9 : Int) (a10 : Int) : nthV (c121 a0 a1 a2 a3 a4 a5 a6 a7 a8 a9 a10) 2 = .int .u32 a2 := rfl
@[simp] theorem n121_3 (a0 : Int) (a1 : Int) (a2 : Int) (a3 : Int) (a4 : Int) (a5 : Int) (a6 : Int) (a7 : V) (a8 : Option (Nat × Nat)) (a9 : Int) (a10 : Int) : nthV (c121 a0 a1 a2 a3 a4 a5 a6 a7 a8 a9 a10) 3 = .int .u8 a3 := rfl
@[simp] theorem n121_4 (a0 : Int) (a1 : Int) (a2 : Int) (a3 : Int) (a4 : Int) (a5 : Int) (a6 : Int) (a7 : V) (a8 : Option (Nat × Nat)) (a9 : Int) (a10 : Int) : nthV (c121 a0 a1 a2 a3 a4 a5 a6 a7 a8 a9 a10) 4 = .int .u8 a4 := rfl
@[simp] theorem n121_5 (a0 : Int) (a1 : Int) (a2 : Int) (a3 : Int) (a4 : Int) (a5 : Int) (a6 : Int) (a7 : V) (a8 : Option (Nat × Nat)) (a9 : Int) (a10 : Int) : nthV (c121 a0 a1 a2 a3 a4 a5 a6 a7 a8 a9 a10) 5 = .int .u8 a5 := rfl
@[simp] theorem n121_6 (a0 : Int) (a1 : Int) (a2 : Int) (a3 : Int) (a4 : Int) (a5 : Int) (a6 : Int) (a7 : V) (a8 : Option (Nat × Nat)) (a9 : Int) (a10 : Int) : nthV (c121 a0 a1 a2 a3 a4 a5 a6 a7 a8 a9 a10) 6 = .int .u8 a6 := rfl
@[simp] theorem n121_7 (a0 : Int) (a1 : Int) (a2 : Int) (a3 : Int) (a4 : Int) (a5 : Int) (a6 : Int) (a7 : V) (a8 : Option (Nat × Nat)) (a9 : Int) (a10 : Int) : nthV (c121 a0 a1 a2 a3 a4 a5 a6 a7 a8 a9 a10) 7 = a7 := rfl
@[simp] theorem n121_8 (a0 : Int) (a1 : Int) (a2 : Int) (a3 : Int) (a4 : Int) (a5 : Int) (a6 : Int) (a7 : V) (a8 : Option (Nat × Nat)) (a9 : Int) (a10 : Int) : nthV (c121 a0 a1 a2 a3 a4 a5 a6 a7 a8 a9 a10) 8 = .ptr a8 := rfl
@[simp] theorem n121_9 (a0 : Int) (a1 : Int) (a2 : Int) (a3 : Int) (a4 : Int) (a5 : Int) (a6 : Int) (a7 : V) (a8 : Option (Nat × Nat)) (a9 : Int) (a10 : Int) : nthV (c121 a0 a1 a2 a3 a4 a5 a6 a7 a8 a9 a10) 9 = .int .i32 a9 := rfl
@[simp] theorem n121_10 (a0 : Int) (a1 : Int) (a2 : Int) (a3 : Int) (a4 : Int) (a5 : Int) (a6 : Int) (a7 : V) (a8 : Option (Nat × Nat)) (a9 : Int) (a10 : Int) : nthV (c121 a0 a1 a2 a3 a4 a5 a6 a7 a8 a9 a10) 10 = .int .i32 a10 := rfl
def eqs : List (TypeId × List Kind) := [(38, [.int .u32, .int .u32, .int .u32, .int .u32, .int .u32, .int .u32, .int .u32, .int .u32, .int .u8, .int .i64, .int .u32, .bool]), (36, [.int .u32, .int .u32, .int .u32, .int .u32, .int .u32, .int .u32, .int .u32, .int .u32])]
theorem eqs_ok : eqs.all (fun x => eqOk Try.prog x.1 x.2) = true := by kernel_rfl
theorem names_ok : Try.prog.funcs.toList.all (fun fn => !(fn.name == "runtime.NumGoroutine")) = true := by kernel_rfl
def ann2 : Ann := { locals := [], base := [], keeps := [], blocks := [] }
def ann3 : Ann := { locals := [3, 9, 13], base := [(3, 3), (9, 9), (13, 13), (72, 13), (76, 13), (92, 13)], keeps := [(6, { inT := [0, 3, 5, 7], inL := [3], outT := [(3, .lp 3), (5, .k (.ptr))], outL := [(3, 25, [.int .u8, .int .u8, .int .u8, .int .u8, .int .u8, .int .u8, .bool, .bool, .slice])], retT := [], retL := [], exits := [0] }), (7, { inT := [29], inL := [], mg := true, wT := [22, 23, 24, 25, 26, 27, 28], wL := [] }), (9, { inT := [], inL := [], outT := [(8, .k (.int .i64)), (9, .lp 9)], outL := [(9, 33, [.int .u8, .int .i64, .slice, .bool, .int .u32, .int .u32, .int .u8, .bool])], retT := [], retL := [], exits := [], dl := true, wT := [8, 9, 32, 33, 34, 35, 36, 37, 38, 39, 40, 41], wL := [9] }), (14, { inT := [3, 5, 10, 11], inL := [3], outT := [(3, .lp 3), (5, .k (.ptr)), (10, .k (.slice))], outL := [(3, 25, [.int .u8, .int .u8, .int .u8, .int .u8, .int .u8, .int .u8, .bool, .bool, .slice])], retT := [], retL := [], exits := [2] }), (22, { inT := [5, 10, 13, 14], inL := [13], outT := [], outL := [], retT := [(4, .k (.bool))], retL := [], exits := [4] }), (25, { inT := [15], inL := [], mg := true, wT := [72, 73, 74, 75, 76, 77, 78, 79], wL := [] }), (26, { inT := [], inL := [], outT := [(98, .k (.bool))], outL := [], retT := [], retL := [], exits := [], dl := true, wT := [80, 81, 82, 83, 84, 85, 86, 87, 88, 89, 90, 91, 92, 93, 94, 95, 96, 97, 98], wL := [] })], blocks := [] }
def ann4 : Ann := { locals := [5, 12, 14, 17], base := [(5, 5), (12, 12), (14, 14), (17, 17), (78, 17), (82, 17)], keeps := [(7, { inT := [0, 1, 5, 7, 9, 10], inL := [5], outT := [(1, .k (.int .u8)), (5, .lp 5), (7, .k (.ptr)), (9, .k (.ptr))], outL := [(5, 25, [.int .u8, .int .u8, .int .u8, .int .u8, .int .u8, .int .u8, .bool, .bool, .slice])], retT := [], retL := [], exits := [0] }), (8, { inT := [32], inL := [], mg := true, wT := [25, 26, 27, 28, 29, 30, 31], wL := [] })], blocks := [] }
def ann5 : Ann := { locals := [7], base := [(7, 7)], keeps := [(7, { inT := [0, 3, 5, 6], inL := [], outT := [(3, .k (.ptr)), (5, .k (.ptr))], outL := [], retT := [(2, .k (.bool))], retL := [], exits := [0] }), (8, { inT := [23], inL := [], mg := true, wT := [16, 17, 18, 19, 20, 21, 22], wL := [] }), (14, { inT := [], inL := [], outT := [(66, .k (.bool))], outL := [], retT := [], retL := [], exits := [], dl := true, wT := [43, 44, 45, 46, 47, 48, 49, 50, 51, 52, 53, 54, 55, 56, 57, 58, 59, 60, 61, 62, 63, 64, 65, 66], wL := [] })], blocks := [] }
def ann6 : Ann := { locals := [12, 13, 16], base := [(12, 12), (13, 13), (16, 16)], keeps := [(8, { inT := [1, 5, 6, 7, 8, 9], inL := [], outT := [(7, .k (.int .i64))], outL := [], retT := [(4, .k (.bool))], retL := [], exits := [0] }), (9, { inT := [37], inL := [], mg := true, wT := [30, 31, 32, 33, 34, 35, 36], wL := [] }), (13, { inT := [], inL := [], outT := [], outL := [], retT := [], retL := [], exits := [], dl := true, wT := [4, 11, 12, 13, 14, 15, 16, 45, 46, 47, 48, 49, 50, 51, 52, 53, 54, 55, 56, 57, 58, 59, 60, 61, 62, 63, 64, 65, 66, 67, 68, 69, 70, 71, 72, 73, 74, 75, 80, 81, 82, 83, 84, 85, 86, 87, 88, 89, 90, 91, 92, 93, 94, 95, 96, 97], wL := [12, 13, 16] })], blocks := [] }
def ann7 : Ann := { locals := [9, 13], base := [(9, 9), (13, 13)], keeps := [(6, { inT := [0, 1, 5, 7], inL := [], outT := [(1, .k (.bool)), (5, .k (.ptr))], outL := [], retT := [], retL := [], exits := [0] }), (7, { inT := [28], inL := [], mg := true, wT := [21, 22, 23, 24, 25, 26, 27], wL := [] }), (9, { inT := [], inL := [], outT := [(8, .k (.int .i64)), (9, .lp 9)], outL := [(9, 33, [.int .u8, .int .i64, .slice, .bool, .int .u32, .int .u32, .int .u8, .bool])], retT := [], retL := [], exits := [], dl := true, wT := [8, 9, 31, 32, 33, 34, 35, 36, 37, 38, 39, 40], wL := [9] }), (13, { inT := [], inL := [], outT := [], outL := [], retT := [], retL := [], exits := [], dl := true, wT := [46, 47], wL := [] }), (17, { inT := [1, 5, 10, 11, 12], inL := [], outT := [(1, .k (.bool)), (5, .k (.ptr)), (10, .k (.slice)), (11, .k (.slice))], outL := [], retT := [], retL := [], exits := [2] }), (26, { inT := [1, 5, 10, 11, 13, 14], inL := [13], outT := [(5, .k (.ptr)), (13, .lp 13)], outL := [(13, 38, [.int .u32, .int .u32, .int .u32, .int .u32, .int .u32, .int .u32, .int .u32, .int .u32, .int .u8, .int .i64, .int .u32, .bool])], retT := [(4, .k (.bool))], retL := [], exits := [4] }), (29, { inT := [], inL := [], outT := [(96, .k (.bool))], outL := [], retT := [], retL := [], exits := [], dl := true, wT := [74, 75, 76, 77, 78, 79, 80, 81, 82, 83, 84, 85, 86, 87, 88, 89, 90, 91, 92, 93, 94, 95, 96], wL := [] })], blocks := [] }
def ann8 : Ann := { locals := [5], base := [(5, 5)], keeps := [(4, { inT := [17], inL := [], mg := true, wT := [12, 13, 14, 15, 16], wL := [] }), (5, { inT := [], inL := [], outT := [], outL := [], retT := [], retL := [], exits := [], dl := true, wT := [6, 7, 8, 18, 19, 20, 21, 22, 23, 24, 25, 26, 27, 28, 29, 30, 31, 32, 33, 34, 35, 36, 37, 38, 39], wL := [] }), (7, { inT := [39], inL := [], mg := true, wT := [23, 24, 25, 26, 27, 28, 29, 30, 31, 32, 33, 34, 35, 36, 37, 38], wL := [] })], blocks := [] }
def ann9 : Ann := { locals := [], base := [], keeps := [(2, { inT := [], inL := [], outT := [(27, .k (.bool))], outL := [], retT := [], retL := [], exits := [], dl := true, wT := [8, 9, 10, 11, 12, 13, 14, 15, 16, 17, 18, 19, 20, 21, 22, 23, 24, 25, 26, 27], wL := [] })], blocks := [] }
def ann10 : Ann := { locals := [], base := [], keeps := [(1, { inT := [9], inL := [], mg := true, wT := [4, 5, 6, 7, 8], wL := [] }), (4, { inT := [], inL := [], outT := [(2, .k (.ptr)), (3, .k (.int .i64))], outL := [], retT := [], retL := [], exits := [], dl := true, wT := [2, 3, 10, 11, 12, 13, 14, 15, 16], wL := [] })], blocks := [] }
def ann11 : Ann := { locals := [3, 4, 7, 11], base := [(3, 3), (12, 3), (19, 3), (24, 3), (29, 3), (31, 3), (33, 3), (37, 3), (42, 3), (48, 3), (55, 3), (59, 3), (4, 4), (51, 4), (52, 4), (7, 7), (11, 11), (54, 11), (61, 11)], keeps := [(6, { inT := [], inL := [], outT := [], outL := [(11, 33, [.int .u8, .int .i64, .slice, .bool, .int .u32, .int .u32, .int .u8, .bool])], retT := [], retL := [], exits := [], dl := true, wT := [50, 51, 52, 53, 54], wL := [11] })], blocks := [] }
def ann12 : Ann := { locals := [2], base := [(2, 2)], keeps := [], blocks := [] }
def ann13 : Ann := { locals := [5, 6, 7], base := [(5, 5), (34, 5), (55, 5), (62, 5), (64, 5), (67, 5), (73, 5), (76, 5), (6, 6), (7, 7)], keeps := [], blocks := [] }
def ann14 : Ann := { locals := [5], base := [(5, 5), (32, 5)], keeps := [(1, { inT := [21], inL := [], mg := true, wT := [7, 8, 9, 10, 11, 12, 13, 14, 15, 16, 17, 18, 19, 20], wL := [] })], blocks := [] }
def ann15 : Ann := { locals := [], base := [], keeps := [], blocks := [] }
def ann16 : Ann := { locals := [5, 8, 9], base := [(5, 5), (30, 5), (51, 5), (58, 5), (60, 5), (63, 5), (69, 5), (71, 5), (8, 8), (9, 9)], keeps := [], blocks := [] }
def ann17 : Ann := { locals := [3, 5], base := [(3, 3), (5, 5), (7, 5)], keeps := [(6, { inT := [], inL := [], outT := [(14, .k (.bool))], outL := [], retT := [], retL := [], exits := [], dl := true, wT := [14, 16, 17], wL := [] })], blocks := [] }
def ann18 : Ann := { locals := [], base := [], keeps := [(1, { inT := [], inL := [], outT := [(22, .k (.bool))], outL := [], retT := [], retL := [], exits := [], dl := true, wT := [6, 7, 8, 9, 10, 11, 12, 13, 14, 15, 16, 17, 18, 19, 20, 21, 22], wL := [] }), (5, { inT := [0, 1, 5], inL := [], outT := [], outL := [], retT := [(4, .k (.bool))], retL := [], exits := [0] }), (8, { inT := [], inL := [], outT := [(53, .k (.bool))], outL := [], retT := [], retL := [], exits := [], dl := true, wT := [32, 33, 34, 35, 36, 37, 38, 39, 40, 41, 42, 43, 44, 45, 46, 47, 48, 49, 50, 51, 52, 53], wL := [] })], blocks := [] }
def ann19 : Ann := { locals := [], base := [], keeps := [], blocks := [] }
def ann20 : Ann := { locals := [], base := [], keeps := [(3, { inT := [11], inL := [], mg := true, wT := [12, 13, 14, 15, 16, 17, 18, 19, 20], wL := [] })], blocks := [] }
def ann21 : Ann := { locals := [], base := [], keeps := [], blocks := [] }
def ann22 : Ann := { locals := [], base := [], keeps := [], blocks := [] }
def ann23 : Ann := { locals := [], base := [], keeps := [(0, { inT := [0], inL := [], outT := [], outL := [], retT := [], retL := [], exits := [0] })], blocks := [] }
def ann24 : Ann := { locals := [4, 7], base := [(4, 4), (9, 4), (14, 4), (21, 4), (7, 7)], keeps := [], blocks := [] }
def ann25 : Ann := { locals := [], base := [], keeps := [(1, { inT := [19], inL := [], mg := true, wT := [5, 6, 7, 8, 9, 10, 11, 12, 13, 14, 15, 16, 17, 18], wL := [] })], blocks := [] }
def ann26 : Ann := { locals := [0], base := [(0, 0)], keeps := [], blocks := [] }
def ann27 : Ann := { locals := [4], base := [(4, 4), (8, 4), (12, 4), (17, 4), (28, 4), (36, 4), (40, 4), (48, 4), (52, 4)], keeps := [(1, { inT := [7], inL := [], mg := true, wT := [8, 9, 10, 11, 12, 13, 14, 15, 16, 17, 18, 19, 20], wL := [] }), (2, { inT := [6], inL := [], mg := true, wT := [21, 22, 23, 24, 25, 26, 27, 28, 29, 30, 31, 32, 33, 34, 35, 36, 37, 38, 39, 40, 41, 42, 43, 44, 45, 46, 47, 48, 49, 50, 51, 52, 53, 54, 55, 56, 57], wL := [] })], blocks := [] }
def ann28 : Ann := { locals := [4], base := [(4, 4), (11, 4), (18, 4), (20, 4)], keeps := [(4, { inT := [], inL := [], outT := [], outL := [], retT := [], retL := [], exits := [], dl := true, wT := [14, 15, 16, 17, 18, 19, 20, 21, 22, 23], wL := [] })], blocks := [] }
def ann29 : Ann := { locals := [3], base := [(3, 3), (18, 3), (20, 3), (27, 3)], keeps := [(1, { inT := [0, 8, 9, 10], inL := [], outT := [], outL := [], retT := [], retL := [], exits := [0] })], blocks := [] }
def ann30 : Ann := { locals := [3, 5, 6, 9], base := [(3, 3), (49, 3), (50, 3), (77, 3), (86, 3), (94, 3), (109, 3), (119, 3), (122, 3), (5, 5), (17, 5), (22, 5), (27, 5), (31, 5), (36, 5), (42, 5), (52, 5), (56, 5), (60, 5), (67, 5), (88, 5), (99, 5), (111, 5), (6, 6), (9, 9)], keeps := [(1, { inT := [25], inL := [], mg := true, wT := [10, 11, 12, 13, 14, 15, 16, 17, 18, 19, 20, 21, 22, 23, 24], wL := [] }), (4, { inT := [8], inL := [], mg := true, wT := [27, 28, 29, 30, 31, 32, 33, 34, 35, 36, 37, 38, 39], wL := [] }), (5, { inT := [], inL := [], outT := [(46, .k (.bool))], outL := [], retT := [], retL := [], exits := [], dl := true, wT := [40, 41, 42, 43, 44, 45, 46], wL := [] }), (8, { inT := [64], inL := [], mg := true, wT := [48, 49, 50, 51, 52, 53, 54, 55, 56, 57, 58, 59, 60, 61, 62, 63], wL := [] }), (18, { inT := [], inL := [], outT := [(92, .k (.bool))], outL := [], retT := [], retL := [], exits := [], dl := true, wT := [77, 78, 79, 80, 81, 82, 83, 84, 85, 86, 87, 88, 89, 90, 91, 92], wL := [] })], blocks := [] }
def ann31 : Ann := { locals := [4, 8], base := [(4, 4), (8, 8), (28, 8), (31, 8)], keeps := [], blocks := [] }
def ann32 : Ann := { locals := [], base := [], keeps := [], blocks := [] }
def ann33 : Ann := { locals := [4], base := [(4, 4), (14, 4), (18, 4), (22, 4), (26, 4), (32, 4), (36, 4)], keeps := [(1, { inT := [17], inL := [], mg := true, wT := [7, 8, 9, 10, 11, 12, 13, 14, 15, 16], wL := [] }), (4, { inT := [31], inL := [], mg := true, wT := [18, 19, 20, 21, 22, 23, 24, 25, 26, 27, 28, 29, 30], wL := [] }), (7, { inT := [6], inL := [], mg := true, wT := [32, 33, 34, 35, 36, 37, 38, 39, 40], wL := [] })], blocks := [] }
def ann34 : Ann := { locals := [3, 5], base := [(3, 3), (5, 5), (7, 5), (12, 5)], keeps := [], blocks := [] }
def ann35 : Ann := { locals := [], base := [], keeps := [(2, { inT := [0, 1, 5], inL := [], outT := [(0, .k (.ptr)), (1, .k (.int .i64))], outL := [], retT := [(4, .k (.str))], retL := [], exits := [0] })], blocks := [] }
def ann36 : Ann := { locals := [], base := [], keeps := [(2, { inT := [0, 1, 2, 3, 8, 9], inL := [], outT := [(0, .k (.ptr)), (1, .k (.int .i64)), (2, .k (.str)), (3, .k (.bool)), (8, .k (.bool))], outL := [], retT := [], retL := [], exits := [0] }), (5, { inT := [8], inL := [], mg := true, wT := [19, 20, 21, 22, 23, 24, 25, 26, 27, 28, 29, 30, 31], wL := [] }), (7, { inT := [45], inL := [], mg := true, wT := [32, 33, 34, 35, 36, 37, 38, 39, 40, 41, 42, 43, 44], wL := [] }), (8, { inT := [], inL := [], outT := [], outL := [], retT := [], retL := [], exits := [], dl := true, wT := [46, 47], wL := [] })], blocks := [] }
def ann37 : Ann := { locals := [3, 5, 6, 8], base := [(3, 3), (53, 3), (54, 3), (188, 3), (202, 3), (210, 3), (229, 3), (75, 3), (80, 3), (89, 3), (93, 3), (100, 3), (101, 3), (117, 3), (118, 3), (128, 3), (129, 3), (143, 3), (147, 3), (5, 5), (20, 5), (25, 5), (30, 5), (34, 5), (39, 5), (44, 5), (50, 5), (58, 5), (62, 5), (69, 5), (176, 5), (180, 5), (184, 5), (207, 5), (212, 5), (231, 5), (71, 5), (85, 5), (103, 5), (123, 5), (131, 5), (167, 5), (6, 6), (8, 8), (172, 8), (175, 8), (178, 8), (182, 8), (183, 8), (244, 8), (245, 8), (248, 8), (251, 8), (137, 8), (138, 8), (160, 8), (163, 8)], keeps := [(1, { inT := [28], inL := [], mg := true, wT := [13, 14, 15, 16, 17, 18, 19, 20, 21, 22, 23, 24, 25, 26, 27], wL := [] }), (4, { inT := [], inL := [], outT := [(48, .k (.bool))], outL := [], retT := [], retL := [], exits := [], dl := true, wT := [30, 31, 32, 33, 34, 35, 36, 37, 38, 39, 40, 41, 42, 43, 44, 45, 46, 47, 48], wL := [] }), (7, { inT := [66], inL := [], mg := true, wT := [50, 51, 52, 53, 54, 55, 56, 57, 58, 59, 60, 61, 62, 63, 64, 65], wL := [] }), (17, { inT := [], inL := [], outT := [(197, .k (.bool))], outL := [], retT := [], retL := [], exits := [], dl := true, wT := [184, 185, 186, 187, 188, 189, 190, 191, 192, 193, 194, 195, 196, 197], wL := [] }), (25, { inT := [], inL := [], outT := [(220, .k (.bool))], outL := [], retT := [], retL := [], exits := [], dl := true, wT := [210, 211, 212, 213, 214, 215, 216, 217, 218, 219, 220], wL := [] }), (40, { inT := [6, 8, 9], inL := [6, 8], outT := [(6, .lp 6), (8, .lp 8)], outL := [(6, 38, [.int .u32, .int .u32, .int .u32, .int .u32, .int .u32, .int .u32, .int .u32, .int .u32, .int .u8, .int .i64, .int .u32, .bool]), (8, 38, [.int .u32, .int .u32, .int .u32, .int .u32, .int .u32, .int .u32, .int .u32, .int .u32, .int .u8, .int .i64, .int .u32, .bool])], retT := [], retL := [], exits := [3] }), (47, { inT := [83], inL := [], mg := true, wT := [71, 72, 73, 74, 75, 76, 77, 78, 79, 80, 81, 82], wL := [] }), (50, { inT := [10], inL := [], mg := true, wT := [85, 86, 87, 88, 89, 90, 91, 92, 93, 94, 95, 96, 97, 98, 99, 100, 101, 102, 103, 104, 105, 106, 107], wL := [] }), (53, { inT := [1, 3, 5, 6, 8, 10, 11, 12], inL := [3, 5, 6, 8], outT := [(1, .k (.int .i64)), (3, .lp 3), (5, .lp 5), (6, .lp 6), (8, .lp 8), (10, .k (.bool)), (11, .k (.int .i64))], outL := [(3, 38, [.int .u32, .int .u32, .int .u32, .int .u32, .int .u32, .int .u32, .int .u32, .int .u32, .int .u8, .int .i64, .int .u32, .bool]), (5, 33, [.int .u8, .int .i64, .slice, .bool, .int .u32, .int .u32, .int .u8, .bool]), (6, 38, [.int .u32, .int .u32, .int .u32, .int .u32, .int .u32, .int .u32, .int .u32, .int .u32, .int .u8, .int .i64, .int .u32, .bool]), (8, 38, [.int .u32, .int .u32, .int .u32, .int .u32, .int .u32, .int .u32, .int .u32, .int .u32, .int .u8, .int .i64, .int .u32, .bool])], retT := [], retL := [], exits := [1] }), (56, { inT := [135], inL := [], mg := true, wT := [112, 113, 114, 115, 116, 117, 118, 119, 120, 121, 122, 123, 124, 125, 126, 127, 128, 129, 130, 131, 132, 133, 134], wL := [] }), (60, { inT := [10], inL := [], mg := true, wT := [141, 142, 143, 144, 145, 146, 147, 148, 149, 150, 151, 152], wL := [] }), (62, { inT := [158], inL := [], mg := true, wT := [153, 154, 155, 156, 157], wL := [] })], blocks := [] }
def ann38 : Ann := { locals := [3], base := [(3, 3), (13, 3), (21, 3), (36, 3), (37, 3), (42, 3), (43, 3)], keeps := [(1, { inT := [12], inL := [], mg := true, wT := [7, 8, 9, 10, 11], wL := [] }), (4, { inT := [], inL := [], outT := [(20, .k (.bool))], outL := [], retT := [], retL := [], exits := [], dl := true, wT := [13, 14, 15, 16, 17, 18, 19, 20], wL := [] }), (15, { inT := [], inL := [], outT := [(29, .k (.bool))], outL := [], retT := [], retL := [], exits := [], dl := true, wT := [29, 31], wL := [] }), (18, { inT := [6], inL := [], mg := true, wT := [32, 33, 34, 35, 36, 37, 38, 39, 40], wL := [] })], blocks := [] }
def ann39 : Ann := { locals := [], base := [], keeps := [], blocks := [] }
def ann40 : Ann := { locals := [3, 6], base := [(3, 3), (11, 3), (19, 3), (6, 6)], keeps := [(1, { inT := [14], inL := [], mg := true, wT := [7, 8, 9, 10, 11, 12, 13], wL := [] })], blocks := [] }
def ann41 : Ann := { locals := [], base := [], keeps := [(2, { inT := [0, 2, 3], inL := [], outT := [(0, .k (.ptr)), (2, .k (.int .i64))], outL := [], retT := [], retL := [], exits := [0] })], blocks := [] }
def ann42 : Ann := { locals := [], base := [], keeps := [], blocks := [] }
def ann43 : Ann := { locals := [3], base := [(3, 3), (11, 3), (15, 3), (20, 3), (24, 3), (27, 3), (28, 3), (30, 3), (33, 3)], keeps := [(4, { inT := [10], inL := [], mg := true, wT := [11, 12, 13, 14, 15, 16, 17, 18], wL := [] }), (12, { inT := [], inL := [], outT := [], outL := [(3, 73, [.int .i64, .slice, .bool])], retT := [], retL := [], exits := [], dl := true, wT := [30], wL := [3] }), (21, { inT := [], inL := [], outT := [], outL := [], retT := [], retL := [], exits := [], dl := true, wT := [38, 39, 40, 41, 42, 43, 44, 45, 46, 47, 48], wL := [] })], blocks := [] }
def ann44 : Ann := { locals := [5], base := [(5, 5), (17, 5), (20, 5)], keeps := [(5, { inT := [3, 11, 12, 13], inL := [], outT := [(3, .k (.slice))], outL := [], retT := [], retL := [], exits := [0] })], blocks := [] }
def ann45 : Ann := { locals := [], base := [], keeps := [(2, { inT := [0, 5, 6], inL := [], outT := [], outL := [], retT := [(2, .k (.bool))], retL := [], exits := [0] })], blocks := [] }
def ann46 : Ann := { locals := [3, 5, 6], base := [(3, 3), (7, 3), (10, 3), (13, 3), (23, 3), (24, 3), (5, 5), (11, 5), (14, 5), (21, 5), (6, 6)], keeps := [], blocks := [] }
def ann47 : Ann := { locals := [2], base := [(2, 2), (12, 2), (16, 2), (21, 2), (26, 2), (27, 2)], keeps := [(1, { inT := [15], inL := [], mg := true, wT := [5, 6, 7, 8, 9, 10, 11, 12, 13, 14], wL := [] })], blocks := [] }
def ann48 : Ann := { locals := [3, 6], base := [(3, 3), (9, 3), (10, 3), (13, 3), (6, 6)], keeps := [], blocks := [] }
def ann49 : Ann := { locals := [1, 2], base := [(1, 1), (3, 1), (4, 1), (2, 2)], keeps := [], blocks := [] }
def ann50 : Ann := { locals := [3, 5, 6, 10], base := [(3, 3), (17, 3), (30, 3), (31, 3), (35, 3), (40, 3), (47, 3), (73, 3), (5, 5), (13, 5), (23, 5), (27, 5), (62, 5), (66, 5), (97, 5), (6, 6), (10, 10), (79, 10), (80, 10), (89, 10), (92, 10)], keeps := [(1, { inT := [], inL := [], outT := [(21, .k (.bool))], outL := [], retT := [], retL := [], exits := [], dl := true, wT := [13, 14, 15, 16, 17, 18, 19, 20, 21], wL := [] }), (5, { inT := [9], inL := [], mg := true, wT := [23, 24, 25, 26, 27, 28, 29, 30, 31, 32, 33, 34, 35, 36, 37, 38, 39, 40, 41, 42, 43, 44, 45], wL := [] }), (8, { inT := [1, 3, 5, 6, 8, 9, 10, 48, 49], inL := [3, 5, 6, 10], outT := [(1, .k (.int .i64)), (3, .lp 3), (5, .lp 5), (6, .lp 6), (8, .k (.bool)), (9, .k (.bool)), (10, .lp 10)], outL := [(3, 38, [.int .u32, .int .u32, .int .u32, .int .u32, .int .u32, .int .u32, .int .u32, .int .u32, .int .u8, .int .i64, .int .u32, .bool]), (5, 33, [.int .u8, .int .i64, .slice, .bool, .int .u32, .int .u32, .int .u8, .bool]), (6, 38, [.int .u32, .int .u32, .int .u32, .int .u32, .int .u32, .int .u32, .int .u32, .int .u32, .int .u8, .int .i64, .int .u32, .bool]), (10, 38, [.int .u32, .int .u32, .int .u32, .int .u32, .int .u32, .int .u32, .int .u32, .int .u32, .int .u8, .int .i64, .int .u32, .bool])], retT := [], retL := [], exits := [0] }), (12, { inT := [70], inL := [], mg := true, wT := [53, 54, 55, 56, 57, 58, 59, 60, 61, 62, 63, 64, 65, 66, 67, 68, 69], wL := [] }), (15, { inT := [9], inL := [], mg := true, wT := [71, 72, 73, 74, 75, 76, 77], wL := [] }), (18, { inT := [87], inL := [], mg := true, wT := [82, 83, 84, 85, 86], wL := [] })], blocks := [] }
def ann51 : Ann := { locals := [], base := [], keeps := [], blocks := [] }
def ann52 : Ann := { locals := [3], base := [(3, 3), (14, 3), (23, 3), (24, 3), (27, 3)], keeps := [(1, { inT := [13], inL := [], mg := true, wT := [8, 9, 10, 11, 12], wL := [] }), (4, { inT := [], inL := [], outT := [(21, .k (.bool))], outL := [], retT := [], retL := [], exits := [], dl := true, wT := [14, 15, 16, 17, 18, 19, 20, 21], wL := [] }), (13, { inT := [], inL := [], outT := [(33, .k (.bool))], outL := [], retT := [], retL := [], exits := [], dl := true, wT := [33, 35], wL := [] }), (16, { inT := [6], inL := [], mg := true, wT := [36, 37, 38, 39, 40], wL := [] })], blocks := [] }
def ann53 : Ann := { locals := [], base := [], keeps := [(2, { inT := [0, 1, 4, 5], inL := [], outT := [(0, .k (.ptr)), (4, .k (.slice))], outL := [], retT := [], retL := [], exits := [0] })], blocks := [] }
def ann54 : Ann := { locals := [], base := [], keeps := [(1, { inT := [2], inL := [], mg := true, wT := [3, 4, 5, 6, 7, 8, 9, 10, 11, 12, 13, 14, 15, 16], wL := [] })], blocks := [] }
def ann55 : Ann := { locals := [1], base := [(1, 1), (9, 1), (10, 1)], keeps := [(2, { inT := [1, 3], inL := [1], outT := [], outL := [], retT := [(2, .k (.bool))], retL := [], exits := [0] })], blocks := [] }
def ann56 : Ann := { locals := [1, 2], base := [(1, 1), (3, 1), (4, 1), (2, 2)], keeps := [], blocks := [] }
def ann57 : Ann := { locals := [3, 6], base := [(3, 3), (8, 3), (10, 3), (17, 3), (6, 6)], keeps := [(3, { inT := [16], inL := [], mg := true, wT := [11, 12, 13, 14, 15], wL := [] })], blocks := [] }
def ann58 : Ann := { locals := [2], base := [(2, 2), (11, 2), (19, 2), (20, 2), (23, 2)], keeps := [(1, { inT := [10], inL := [], mg := true, wT := [5, 6, 7, 8, 9], wL := [] }), (9, { inT := [], inL := [], outT := [(15, .k (.bool))], outL := [], retT := [], retL := [], exits := [], dl := true, wT := [15, 17], wL := [] })], blocks := [] }
def ann59 : Ann := { locals := [], base := [], keeps := [], blocks := [] }
def ann60 : Ann := { locals := [], base := [], keeps := [], blocks := [] }
def ann61 : Ann := { locals := [0], base := [(0, 0)], keeps := [], blocks := [] }
def ann62 : Ann := { locals := [2, 4], base := [(2, 2), (6, 2), (7, 2), (8, 2), (13, 2), (4, 4)], keeps := [(2, { inT := [17], inL := [], mg := true, wT := [8, 9, 10, 11, 12, 13, 14, 15, 16], wL := [] })], blocks := [] }
def ann63 : Ann := { locals := [], base := [], keeps := [(1, { inT := [2], inL := [], mg := true, wT := [3, 4, 5, 6, 7, 8], wL := [] })], blocks := [] }
def ann64 : Ann := { locals := [], base := [], keeps := [(3, { inT := [0, 1, 2, 8, 9, 10], inL := [], outT := [(0, .k (.slice)), (1, .k (.int .i64)), (2, .k (.func)), (8, .k (.int .i64)), (9, .k (.int .i64))], outL := [], retT := [], retL := [], exits := [0] })], blocks := [] }
def ann65 : Ann := { locals := [2], base := [(2, 2), (5, 2)], keeps := [], blocks := [] }
def ann67 : Ann := { locals := [], base := [], keeps := [], blocks := [] }
def ann68 : Ann := { locals := [], base := [], keeps := [], blocks := [] }
def ann69 : Ann := { locals := [], base := [], keeps := [(1, { inT := [0, 2, 3], inL := [], outT := [], outL := [], retT := [], retL := [], exits := [0] })], blocks := [] }
theorem ov66 : OvOk Try.prog 66 := ⟨Try.f66, 65, 4, 73, Try.func66, by kernel_rfl, by kernel_rfl, by kernel_rfl, by kernel_rfl, by kernel_rfl, by kernel_rfl⟩
def exts : List Nat := [66]
theorem exts_ok : ∀ g, g ∈ exts → OvOk Try.prog g := by
  intro g hg
  simp only [exts, List.mem_cons, List.not_mem_nil, or_false] at hg
  subst hg; exact ov66
def anns : List (Nat × Ann) := [(2, ann2), (3, ann3), (4, ann4), (5, ann5), (6, ann6), (7, ann7), (8, ann8), (9, ann9), (10, ann10), (11, ann11), (12, ann12), (13, ann13), (14, ann14), (15, ann15), (16, ann16), (17, ann17), (18, ann18), (19, ann19), (20, ann20), (21, ann21), (22, ann22), (23, ann23), (24, ann24), (25, ann25), (26, ann26), (27, ann27), (28, ann28), (29, ann29), (30, ann30), (31, ann31), (32, ann32), (33, ann33), (34, ann34), (35, ann35), (36, ann36), (37, ann37), (38, ann38), (39, ann39), (40, ann40), (41, ann41), (42, ann42), (43, ann43), (44, ann44), (45, ann45), (46, ann46), (47, ann47), (48, ann48), (49, ann49), (50, ann50), (51, ann51), (52, ann52), (53, ann53), (54, ann54), (55, ann55), (56, ann56), (57, ann57), (58, ann58), (59, ann59), (60, ann60), (61, ann61), (62, ann62), (63, ann63), (64, ann64), (65, ann65), (67, ann67), (68, ann68), (69, ann69)]
theorem ti_ok (t : Nat) (x : TI) (h : tab[t]? = some x) : tiOf Try.prog t = some x := by
  have h1 : t < 124 := by
    have h2 : tab.length = 124 := by kernel_rfl
    have := (List.getElem?_eq_some_iff.1 h).1
    omega
  have h3 := congrArg (fun l => l[t]?) tab_ok
  simp only [List.getElem?_map, h, List.getElem?_range h1, Option.map_some, Option.some.injEq] at h3
  exact h3
theorem eq_ok (t : Nat) (ks : List Kind) (h : Am.look eqs t = some ks) : eqOk Try.prog t ks = true := by
  have key : ∀ l : List (TypeId × List Kind), l.all (fun x => eqOk Try.prog x.1 x.2) = true → Am.look l t = some ks → eqOk Try.prog t ks = true := by
    intro l
    induction l with
    | nil => intro _ h; cases h
    | cons p l ih =>
      intro h1 h2
      rw [List.all_cons, Bool.and_eq_true] at h1
      simp only [Am.look, beq_iff] at h2
      by_cases he : t = p.1
      · simp only [he, decide_true, cond_true, Option.some.injEq] at h2
        rw [he, ← h2]; exact h1.1
      · simp only [he, decide_false, cond_false] at h2
        exact ih h1.2 h2
  exact key _ eqs_ok h
noncomputable def fns : List (Nat × Func) := [(2, Try.f2), (3, Try.f3), (4, Try.f4), (5, Try.f5), (6, Try.f6), (7, Try.f7), (8, Try.f8), (9, Try.f9), (10, Try.f10), (11, Try.f11), (12, Try.f12), (13, Try.f13), (14, Try.f14), (15, Try.f15), (16, Try.f16), (17, Try.f17), (18, Try.f18), (19, Try.f19), (20, Try.f20), (21, Try.f21), (22, Try.f22), (23, Try.f23), (24, Try.f24), (25, Try.f25), (26, Try.f26), (27, Try.f27), (28, Try.f28), (29, Try.f29), (30, Try.f30), (31, Try.f31), (32, Try.f32), (33, Try.f33), (34, Try.f34), (35, Try.f35), (36, Try.f36), (37, Try.f37), (38, Try.f38), (39, Try.f39), (40, Try.f40), (41, Try.f41), (42, Try.f42), (43, Try.f43), (44, Try.f44), (45, Try.f45), (46, Try.f46), (47, Try.f47), (48, Try.f48), (49, Try.f49), (50, Try.f50), (51, Try.f51), (52, Try.f52), (53, Try.f53), (54, Try.f54), (55, Try.f55), (56, Try.f56), (57, Try.f57), (58, Try.f58), (59, Try.f59), (60, Try.f60), (61, Try.f61), (62, Try.f62), (63, Try.f63), (64, Try.f64), (65, Try.f65), (67, Try.f67), (68, Try.f68), (69, Try.f69)]
theorem fns_ok : fns.map (fun x => Try.prog.funcs[x.1]?) = fns.map (fun x => some x.2) := by kernel_rfl
theorem fn_ok (f : Nat) (x : Func) (h : Am.look fns f = some x) : Try.prog.funcs[f]? = some x := by
  have key : ∀ l : List (Nat × Func), l.map (fun x => Try.prog.funcs[x.1]?) = l.map (fun x => some x.2) → Am.look l f = some x → Try.prog.funcs[f]? = some x := by
    intro l
    induction l with
    | nil => intro _ h; cases h
    | cons p l ih =>
      intro h1 h2
      simp only [List.map_cons, List.cons.injEq] at h1
      simp only [Am.look, beq_iff] at h2
      by_cases he : f = p.1
      · simp only [he, decide_true, cond_true, Option.some.injEq] at h2
        rw [he, ← h2]; exact h1.1
      · simp only [he, decide_false, cond_false] at h2
        exact ih h1.2 h2
  exact key _ fns_ok h
noncomputable def env : Env where
  P := Try.prog
  ext := extTab exts
  fn := fun f => Am.look fns f
  fn_ok := fn_ok
  ti := fun t => tab[t]?
  ti_ok := ti_ok
  ann := fun f => (Am.look anns f).getD {}
  eqt := eqs
  eq_ok := eq_ok
  names := names_ok
theorem mixed : Try.prog.follows .mixedOrders = true := by kernel_rfl
theorem extOk : ExtSound env := ext_sound rfl exts_ok
theorem sound : Sound env (Run env) := Run_sound (E := env) extOk mixed
end Go.Proofs.Ytmionmlellimoaa
