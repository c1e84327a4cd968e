/- The tables that the abstract machine wants: types, frame-local blocks, what loops keep. Written by a program (wip/am/Gen.lean). -/
import Derived.Test.YtibkggbidojocaaDoorAmX
import Derived.Test.YtibkggbidojocaaDoorAmS
import Derived.Test.YtibkggbidojocaaDoorProg
import Derived.KernelRfl
namespace Go.Proofs.YtibkggbidojocaaDoor
open Go.Am
set_option maxRecDepth 100000
set_option linter.unusedVariables false
set_option linter.unusedSimpArgs false
def tab : List TI := [
  ⟨.tuple [], 1, 0, none⟩,
  ⟨.func, 1, 8, some (.nilFunc)⟩,
  ⟨.int .i64, 1, 8, some (.int .i64 0)⟩,
  ⟨.int .i64, 1, 8, some (.int .i64 0)⟩,
  ⟨.bool, 1, 1, some (.bool false)⟩,
  ⟨.int .u8, 1, 1, some (.int .u8 0)⟩,
  ⟨.int .u8, 1, 1, some (.int .u8 0)⟩,
  ⟨.struct [(0, 2), (1, 3), (2, 4), (3, 6)], 4, 24, some (.agg [.int .i64 0, .int .i64 0, .bool false, .int .u8 0])⟩,
  ⟨.struct [(0, 2), (1, 3), (2, 4), (3, 6)], 4, 24, some (.agg [.int .i64 0, .int .i64 0, .bool false, .int .u8 0])⟩,
  ⟨.str, 1, 16, some (.str ⟨#[]⟩)⟩,
  ⟨.str, 1, 16, some (.str ⟨#[]⟩)⟩,
  ⟨.str, 1, 16, some (.str ⟨#[]⟩)⟩,
  ⟨.int .u64, 1, 8, some (.int .u64 0)⟩,
  ⟨.struct [(0, 9), (1, 12)], 2, 24, some (.agg [.str ⟨#[]⟩, .int .u64 0])⟩,
  ⟨.struct [(0, 9), (1, 12)], 2, 24, some (.agg [.str ⟨#[]⟩, .int .u64 0])⟩,
  ⟨.ptr 94, 1, 8, some (.ptr none)⟩,
  ⟨.ptr 97, 1, 8, some (.ptr none)⟩,
  ⟨.ptr 104, 1, 8, some (.ptr none)⟩,
  ⟨.struct [(0, 17)], 1, 8, some (.agg [.ptr none])⟩,
  ⟨.struct [(0, 17)], 1, 8, some (.agg [.ptr none])⟩,
  ⟨.iface, 1, 16, some (.nilIface)⟩,
  ⟨.int .i32, 1, 4, some (.int .i32 0)⟩,
  ⟨.func, 1, 8, some (.nilFunc)⟩,
  ⟨.tuple [3, 4], 1, 0, none⟩,
  ⟨.func, 1, 8, some (.nilFunc)⟩,
  ⟨.slice 5, 1, 24, some (.slice none 0 0)⟩,
  ⟨.func, 1, 8, some (.nilFunc)⟩,
  ⟨.func, 1, 8, some (.nilFunc)⟩,
  ⟨.func, 1, 8, some (.nilFunc)⟩,
  ⟨.func, 1, 8, some (.nilFunc)⟩,
  ⟨.int .u64, 1, 8, some (.int .u64 0)⟩,
  ⟨.iface, 1, 16, some (.nilIface)⟩,
  ⟨.iface, 1, 16, some (.nilIface)⟩,
  ⟨.tuple [2, 32], 1, 0, none⟩,
  ⟨.func, 1, 8, some (.nilFunc)⟩,
  ⟨.func, 1, 8, some (.nilFunc)⟩,
  ⟨.slice 9, 1, 24, some (.slice none 0 0)⟩,
  ⟨.int .i64, 1, 8, some (.int .i64 0)⟩,
  ⟨.tuple [36, 3, 37], 1, 0, none⟩,
  ⟨.func, 1, 8, some (.nilFunc)⟩,
  ⟨.func, 1, 8, some (.nilFunc)⟩,
  ⟨.ptr 46, 1, 8, some (.ptr none)⟩,
  ⟨.ptr 44, 1, 8, some (.ptr none)⟩,
  ⟨.struct [(0, 42), (1, 25)], 2, 32, some (.agg [.ptr none, .slice none 0 0])⟩,
  ⟨.struct [(0, 42), (1, 25)], 2, 32, some (.agg [.ptr none, .slice none 0 0])⟩,
  ⟨.struct [(0, 36), (1, 44), (3, 4), (4, 4), (5, 4), (6, 4)], 7, 64, some (.agg [.slice none 0 0, .ptr none, .slice none 0 0, .bool false, .bool false, .bool false, .bool false])⟩,
  ⟨.struct [(0, 36), (1, 44), (3, 4), (4, 4), (5, 4), (6, 4)], 7, 64, some (.agg [.slice none 0 0, .ptr none, .slice none 0 0, .bool false, .bool false, .bool false, .bool false])⟩,
  ⟨.func, 1, 8, some (.nilFunc)⟩,
  ⟨.func, 1, 8, some (.nilFunc)⟩,
  ⟨.int .i64, 1, 8, some (.int .i64 0)⟩,
  ⟨.tuple [30, 32], 1, 0, none⟩,
  ⟨.func, 1, 8, some (.nilFunc)⟩,
  ⟨.int .u64, 1, 8, some (.int .u64 0)⟩,
  ⟨.ptr 72, 1, 8, some (.ptr none)⟩,
  ⟨.func, 1, 8, some (.nilFunc)⟩,
  ⟨.func, 1, 8, some (.nilFunc)⟩,
  ⟨.func, 1, 8, some (.nilFunc)⟩,
  ⟨.arr 24 5, 24, 24, some (.agg [.int .u8 0, .int .u8 0, .int .u8 0, .int .u8 0, .int .u8 0, .int .u8 0, .int .u8 0, .int .u8 0, .int .u8 0, .int .u8 0, .int .u8 0, .int .u8 0, .int .u8 0, .int .u8 0, .int .u8 0, .int .u8 0, .int .u8 0, .int .u8 0, .int .u8 0, .int .u8 0, .int .u8 0, .int .u8 0, .int .u8 0, .int .u8 0])⟩,
  ⟨.func, 1, 8, some (.nilFunc)⟩,
  ⟨.func, 1, 8, some (.nilFunc)⟩,
  ⟨.tuple [25, 9], 1, 0, none⟩,
  ⟨.func, 1, 8, some (.nilFunc)⟩,
  ⟨.func, 1, 8, some (.nilFunc)⟩,
  ⟨.func, 1, 8, some (.nilFunc)⟩,
  ⟨.tuple [3, 32], 1, 0, none⟩,
  ⟨.func, 1, 8, some (.nilFunc)⟩,
  ⟨.func, 1, 8, some (.nilFunc)⟩,
  ⟨.func, 1, 8, some (.nilFunc)⟩,
  ⟨.func, 1, 8, some (.nilFunc)⟩,
  ⟨.func, 1, 8, some (.nilFunc)⟩,
  ⟨.func, 1, 8, some (.nilFunc)⟩,
  ⟨.struct [(0, 9), (1, 9), (2, 32)], 3, 48, some (.agg [.str ⟨#[]⟩, .str ⟨#[]⟩, .nilIface])⟩,
  ⟨.struct [(0, 9), (1, 9), (2, 32)], 3, 48, some (.agg [.str ⟨#[]⟩, .str ⟨#[]⟩, .nilIface])⟩,
  ⟨.func, 1, 8, some (.nilFunc)⟩,
  ⟨.func, 1, 8, some (.nilFunc)⟩,
  ⟨.func, 1, 8, some (.nilFunc)⟩,
  ⟨.arr 20 30, 20, 160, some (.agg [.int .u64 0, .int .u64 0, .int .u64 0, .int .u64 0, .int .u64 0, .int .u64 0, .int .u64 0, .int .u64 0, .int .u64 0, .int .u64 0, .int .u64 0, .int .u64 0, .int .u64 0, .int .u64 0, .int .u64 0, .int .u64 0, .int .u64 0, .int .u64 0, .int .u64 0, .int .u64 0])⟩,
  ⟨.int .u32, 1, 4, some (.int .u32 0)⟩,
  ⟨.arr 65 5, 65, 65, some (.agg [.int .u8 0, .int .u8 0, .int .u8 0, .int .u8 0, .int .u8 0, .int .u8 0, .int .u8 0, .int .u8 0, .int .u8 0, .int .u8 0, .int .u8 0, .int .u8 0, .int .u8 0, .int .u8 0, .int .u8 0, .int .u8 0, .int .u8 0, .int .u8 0, .int .u8 0, .int .u8 0, .int .u8 0, .int .u8 0, .int .u8 0, .int .u8 0, .int .u8 0, .int .u8 0, .int .u8 0, .int .u8 0, .int .u8 0, .int .u8 0, .int .u8 0, .int .u8 0, .int .u8 0, .int .u8 0, .int .u8 0, .int .u8 0, .int .u8 0, .int .u8 0, .int .u8 0, .int .u8 0, .int .u8 0, .int .u8 0, .int .u8 0, .int .u8 0, .int .u8 0, .int .u8 0, .int .u8 0, .int .u8 0, .int .u8 0, .int .u8 0, .int .u8 0, .int .u8 0, .int .u8 0, .int .u8 0, .int .u8 0, .int .u8 0, .int .u8 0, .int .u8 0, .int .u8 0, .int .u8 0, .int .u8 0, .int .u8 0, .int .u8 0, .int .u8 0, .int .u8 0])⟩,
  ⟨.func, 1, 8, some (.nilFunc)⟩,
  ⟨.func, 1, 8, some (.nilFunc)⟩,
  ⟨.func, 1, 8, some (.nilFunc)⟩,
  ⟨.func, 1, 8, some (.nilFunc)⟩,
  ⟨.func, 1, 8, some (.nilFunc)⟩,
  ⟨.ptr 5, 1, 8, some (.ptr none)⟩,
  ⟨.ptr 87, 1, 8, some (.ptr none)⟩,
  ⟨.struct [(0, 9)], 1, 16, some (.agg [.str ⟨#[]⟩])⟩,
  ⟨.struct [(0, 9)], 1, 16, some (.agg [.str ⟨#[]⟩])⟩,
  ⟨.func, 1, 8, some (.nilFunc)⟩,
  ⟨.other, 1, 8, some (.ptr none)⟩,
  ⟨.func, 1, 8, some (.nilFunc)⟩,
  ⟨.arr 32 5, 32, 32, some (.agg [.int .u8 0, .int .u8 0, .int .u8 0, .int .u8 0, .int .u8 0, .int .u8 0, .int .u8 0, .int .u8 0, .int .u8 0, .int .u8 0, .int .u8 0, .int .u8 0, .int .u8 0, .int .u8 0, .int .u8 0, .int .u8 0, .int .u8 0, .int .u8 0, .int .u8 0, .int .u8 0, .int .u8 0, .int .u8 0, .int .u8 0, .int .u8 0, .int .u8 0, .int .u8 0, .int .u8 0, .int .u8 0, .int .u8 0, .int .u8 0, .int .u8 0, .int .u8 0])⟩,
  ⟨.arr 64 5, 64, 64, some (.agg [.int .u8 0, .int .u8 0, .int .u8 0, .int .u8 0, .int .u8 0, .int .u8 0, .int .u8 0, .int .u8 0, .int .u8 0, .int .u8 0, .int .u8 0, .int .u8 0, .int .u8 0, .int .u8 0, .int .u8 0, .int .u8 0, .int .u8 0, .int .u8 0, .int .u8 0, .int .u8 0, .int .u8 0, .int .u8 0, .int .u8 0, .int .u8 0, .int .u8 0, .int .u8 0, .int .u8 0, .int .u8 0, .int .u8 0, .int .u8 0, .int .u8 0, .int .u8 0, .int .u8 0, .int .u8 0, .int .u8 0, .int .u8 0, .int .u8 0, .int .u8 0, .int .u8 0, .int .u8 0, .int .u8 0, .int .u8 0, .int .u8 0, .int .u8 0, .int .u8 0, .int .u8 0, .int .u8 0, .int .u8 0, .int .u8 0, .int .u8 0, .int .u8 0, .int .u8 0, .int .u8 0, .int .u8 0, .int .u8 0, .int .u8 0, .int .u8 0, .int .u8 0, .int .u8 0, .int .u8 0, .int .u8 0, .int .u8 0, .int .u8 0, .int .u8 0])⟩,
  ⟨.struct [(0, 17), (1, 17), (2, 17), (3, 9)], 4, 40, some (.agg [.ptr none, .ptr none, .ptr none, .str ⟨#[]⟩])⟩,
  ⟨.struct [(0, 17), (1, 17), (2, 17), (3, 9)], 4, 40, some (.agg [.ptr none, .ptr none, .ptr none, .str ⟨#[]⟩])⟩,
  ⟨.arr 0 16, 0, 0, some (.agg [])⟩,
  ⟨.struct [(0, 95)], 0, 0, some (.agg [])⟩,
  ⟨.struct [(0, 95)], 0, 0, some (.agg [])⟩,
  ⟨.int .u8, 1, 1, some (.int .u8 0)⟩,
  ⟨.int .u8, 1, 1, some (.int .u8 0)⟩,
  ⟨.func, 1, 8, some (.nilFunc)⟩,
  ⟨.int .i32, 1, 4, some (.int .i32 0)⟩,
  ⟨.int .i32, 1, 4, some (.int .i32 0)⟩,
  ⟨.struct [(0, 12), (1, 12), (2, 77), (3, 98), (4, 5), (5, 5), (6, 99), (7, 100), (8, 84), (9, 101), (10, 102)], 11, 48, some (.agg [.int .u64 0, .int .u64 0, .int .u32 0, .int .u8 0, .int .u8 0, .int .u8 0, .int .u8 0, .nilFunc, .ptr none, .int .i32 0, .int .i32 0])⟩,
  ⟨.struct [(0, 12), (1, 12), (2, 77), (3, 98), (4, 5), (5, 5), (6, 99), (7, 100), (8, 84), (9, 101), (10, 102)], 11, 48, some (.agg [.int .u64 0, .int .u64 0, .int .u32 0, .int .u8 0, .int .u8 0, .int .u8 0, .int .u8 0, .nilFunc, .ptr none, .int .i32 0, .int .i32 0])⟩]
theorem tab_ok : (List.range 105).map (tiOf Tryd.prog) = tab.map some := by kernel_rfl
def k7 : List Kind := [.int .i64, .int .i64, .bool, .int .u8]
def c7 (a0 : Int) (a1 : Int) (a2 : Bool) (a3 : Int) : List V := [.int .i64 a0, .int .i64 a1, .bool a2, .int .u8 a3]
def o7 (l : List V) : List V := c7 (nthV l 0).getInt (nthV l 1).getInt (nthV l 2).getBool (nthV l 3).getInt
@[simp] theorem f7 (a0 : Int) (a1 : Int) (a2 : Bool) (a3 : Int) : Am.fits k7 (c7 a0 a1 a2 a3) = true := rfl
@[simp] theorem oc7 (a0 : Int) (a1 : Int) (a2 : Bool) (a3 : Int) : o7 (c7 a0 a1 a2 a3) = c7 a0 a1 a2 a3 := rfl
@[simp] theorem n7_0 (a0 : Int) (a1 : Int) (a2 : Bool) (a3 : Int) : nthV (c7 a0 a1 a2 a3) 0 = .int .i64 a0 := rfl
@[simp] theorem n7_1 (a0 : Int) (a1 : Int) (a2 : Bool) (a3 : Int) : nthV (c7 a0 a1 a2 a3) 1 = .int .i64 a1 := rfl
@[simp] theorem n7_2 (a0 : Int) (a1 : Int) (a2 : Bool) (a3 : Int) : nthV (c7 a0 a1 a2 a3) 2 = .bool a2 := rfl
@[simp] theorem n7_3 (a0 : Int) (a1 : Int) (a2 : Bool) (a3 : Int) : nthV (c7 a0 a1 a2 a3) 3 = .int .u8 a3 := rfl
def k13 : List Kind := [.str, .int .u64]
def c13 (a0 : ByteArray) (a1 : Int) : List V := [.str a0, .int .u64 a1]
def o13 (l : List V) : List V := c13 (nthV l 0).getStr (nthV l 1).getInt
@[simp] theorem f13 (a0 : ByteArray) (a1 : Int) : Am.fits k13 (c13 a0 a1) = true := rfl
@[simp] theorem oc13 (a0 : ByteArray) (a1 : Int) : o13 (c13 a0 a1) = c13 a0 a1 := rfl
@[simp] theorem n13_0 (a0 : ByteArray) (a1 : Int) : nthV (c13 a0 a1) 0 = .str a0 := rfl
@[simp] theorem n13_1 (a0 : ByteArray) (a1 : Int) : nthV (c13 a0 a1) 1 = .int .u64 a1 := rfl
def k43 : List Kind := [.ptr, .slice]
def c43 (a0 : Option (Nat × Nat)) (a1p : Option (Nat × Nat)) (a1n : Nat) (a1c : Nat) : List V := [.ptr a0, .slice a1p a1n a1c]
def o43 (l : List V) : List V := c43 (nthV l 0).getPtr (nthV l 1).slPtr (nthV l 1).slLen (nthV l 1).slCap
@[simp] theorem f43 (a0 : Option (Nat × Nat)) (a1p : Option (Nat × Nat)) (a1n : Nat) (a1c : Nat) : Am.fits k43 (c43 a0 a1p a1n a1c) = true := rfl
@[simp] theorem oc43 (a0 : Option (Nat × Nat)) (a1p : Option (Nat × Nat)) (a1n : Nat) (a1c : Nat) : o43 (c43 a0 a1p a1n a1c) = c43 a0 a1p a1n a1c := rfl
@[simp] theorem n43_0 (a0 : Option (Nat × Nat)) (a1p : Option (Nat × Nat)) (a1n : Nat) (a1c : Nat) : nthV (c43 a0 a1p a1n a1c) 0 = .ptr a0 := rfl
@[simp] theorem n43_1 (a0 : Option (Nat × Nat)) (a1p : Option (Nat × Nat)) (a1n : Nat) (a1c : Nat) : nthV (c43 a0 a1p a1n a1c) 1 = .slice a1p a1n a1c := rfl
def k45 : List Kind := [.slice, .ptr, .slice, .bool, .bool, .bool, .bool]
def c45 (a0p : Option (Nat × Nat)) (a0n : Nat) (a0c : Nat) (a1 : Option (Nat × Nat)) (a2p : Option (Nat × Nat)) (a2n : Nat) (a2c : Nat) (a3 : Bool) (a4 : Bool) (a5 : Bool) (a6 : Bool) : List V := [.slice a0p a0n a0c, .ptr a1, .slice a2p a2n a2c, .bool a3, .bool a4, .bool a5, .bool a6]
def o45 (l : List V) : List V := c45 (nthV l 0).slPtr (nthV l 0).slLen (nthV l 0).slCap (nthV l 1).getPtr (nthV l 2).slPtr (nthV l 2).slLen (nthV l 2).slCap (nthV l 3).getBool (nthV l 4).getBool (nthV l 5).getBool (nthV l 6).getBool
@[simp] theorem f45 (a0p : Option (Nat × Nat)) (a0n : Nat) (a0c : Nat) (a1 : Option (Nat × Nat)) (a2p : Option (Nat × Nat)) (a2n : Nat) (a2c : Nat) (a3 : Bool) (a4 : Bool) (a5 : Bool) (a6 : Bool) : Am.fits k45 (c45 a0p a0n a0c a1 a2p a2n a2c a3 a4 a5 a6) = true := rfl
@[simp] theorem oc45 (a0p : Option (Nat × Nat)) (a0n : Nat) (a0c : Nat) (a1 : Option (Nat × Nat)) (a2p : Option (Nat × Nat)) (a2n : Nat) (a2c : Nat) (a3 : Bool) (a4 : Bool) (a5 : Bool) (a6 : Bool) : o45 (c45 a0p a0n a0c a1 a2p a2n a2c a3 a4 a5 a6) = c45 a0p a0n a0c a1 a2p a2n a2c a3 a4 a5 a6 := rfl
@[simp] theorem n45_0 (a0p : Option (Nat × Nat)) (a0n : Nat) (a0c : Nat) (a1 : Option (Nat × Nat)) (a2p : Option (Nat × Nat)) (a2n : Nat) (a2c : Nat) (a3 : Bool) (a4 : Bool) (a5 : Bool) (a6 : Bool) : nthV (c45 a0p a0n a0c a1 a2p a2n a2c a3 a4 a5 a6) 0 = .slice a0p a0n a0c := rfl
@[simp] theorem n45_1 (a0p : Option (Nat × Nat)) (a0n : Nat) (a0c : Nat) (a1 : Option (Nat × Nat)) (a2p : Option (Nat × Nat)) (a2n : Nat) (a2c : Nat) (a3 : Bool) (a4 : Bool) (a5 : Bool) (a6 : Bool) : nthV (c45 a0p a0n a0c a1 a2p a2n a2c a3 a4 a5 a6) 1 = .ptr a1 := rfl
@[simp] theorem n45_2 (a0p : Option (Nat × Nat)) (a0n : Nat) (a0c : Nat) (a1 : Option (Nat × Nat)) (a2p : Option (Nat × Nat)) (a2n : Nat) (a2c : Nat) (a3 : Bool) (a4 : Bool) (a5 : Bool) (a6 : Bool) : nthV (c45 a0p a0n a0c a1 a2p a2n a2c a3 a4 a5 a6) 2 = .slice a2p a2n a2c := rfl
@[simp] theorem n45_3 (a0p : Option (Nat × Nat)) (a0n : Nat) (a0c : Nat) (a1 : Option (Nat × Nat)) (a2p : Option (Nat × Nat)) (a2n : Nat) (a2c : Nat) (a3 : Bool) (a4 : Bool) (a5 : Bool) (a6 : Bool) : nthV (c45 a0p a0n a0c a1 a2p a2n a2c a3 a4 a5 a6) 3 = .bool a3 := rfl
@[simp] theorem n45_4 (a0p : Option (Nat × Nat)) (a0n : Nat) (a0c : Nat) (a1 : Option (Nat × Nat)) (a2p : Option (Nat × Nat)) (a2n : Nat) (a2c : Nat) (a3 : Bool) (a4 : Bool) (a5 : Bool) (a6 : Bool) : nthV (c45 a0p a0n a0c a1 a2p a2n a2c a3 a4 a5 a6) 4 = .bool a4 := rfl
@[simp] theorem n45_5 (a0p : Option (Nat × Nat)) (a0n : Nat) (a0c : Nat) (a1 : Option (Nat × Nat)) (a2p : Option (Nat × Nat)) (a2n : Nat) (a2c : Nat) (a3 : Bool) (a4 : Bool) (a5 : Bool) (a6 : Bool) : nthV (c45 a0p a0n a0c a1 a2p a2n a2c a3 a4 a5 a6) 5 = .bool a5 := rfl
@[simp] theorem n45_6 (a0p : Option (Nat × Nat)) (a0n : Nat) (a0c : Nat) (a1 : Option (Nat × Nat)) (a2p : Option (Nat × Nat)) (a2n : Nat) (a2c : Nat) (a3 : Bool) (a4 : Bool) (a5 : Bool) (a6 : Bool) : nthV (c45 a0p a0n a0c a1 a2p a2n a2c a3 a4 a5 a6) 6 = .bool a6 := rfl
def k57 : List Kind := [.int .u8, .int .u8, .int .u8, .int .u8, .int .u8, .int .u8, .int .u8, .int .u8, .int .u8, .int .u8, .int .u8, .int .u8, .int .u8, .int .u8, .int .u8, .int .u8, .int .u8, .int .u8, .int .u8, .int .u8, .int .u8, .int .u8, .int .u8, .int .u8]
def c57 (a0 : Int) (a1 : Int) (a2 : Int) (a3 : Int) (a4 : Int) (a5 : Int) (a6 : Int) (a7 : Int) (a8 : Int) (a9 : Int) (a10 : Int) (a11 : Int) (a12 : Int) (a13 : Int) (a14 : Int) (a15 : Int) (a16 : Int) (a17 : Int) (a18 : Int) (a19 : Int) (a20 : Int) (a21 : Int) (a22 : Int) (a23 : Int) : List V := [.int .u8 a0, .int .u8 a1, .int .u8 a2, .int .u8 a3, .int .u8 a4, .int .u8 a5, .int .u8 a6, .int .u8 a7, .int .u8 a8, .int .u8 a9, .int .u8 a10, .int .u8 a11, .int .u8 a12, .int .u8 a13, .int .u8 a14, .int .u8 a15, .int .u8 a16, .int .u8 a17, .int .u8 a18, .int .u8 a19, .int .u8 a20, .int .u8 a21, .int .u8 a22, .int .u8 a23]
def o57 (l : List V) : List V := c57 (nthV l 0).getInt (nthV l 1).getInt (nthV l 2).getInt (nthV l 3).getInt (nthV l 4).getInt (nthV l 5).getInt (nthV l 6).getInt (nthV l 7).getInt (nthV l 8).getInt (nthV l 9).getInt (nthV l 10).getInt (nthV l 11).getInt (nthV l 12).getInt (nthV l 13).getInt (nthV l 14).getInt (nthV l 15).getInt (nthV l 16).getInt (nthV l 17).getInt (nthV l 18).getInt (nthV l 19).getInt (nthV l 20).getInt (nthV l 21).getInt (nthV l 22).getInt (nthV l 23).getInt
@[simp] theorem f57 (a0 : Int) (a1 : Int) (a2 : Int) (a3 : Int) (a4 : Int) (a5 : Int) (a6 : Int) (a7 : Int) (a8 : Int) (a9 : Int) (a10 : Int) (a11 : Int) (a12 : Int) (a13 : Int) (a14 : Int) (a15 : Int) (a16 : Int) (a17 : Int) (a18 : Int) (a19 : Int) (a20 : Int) (a21 : Int) (a22 : Int) (a23 : Int) : Am.fits k57 (c57 a0 a1 a2 a3 a4 a5 a6 a7 a8 a9 a10 a11 a12 a13 a14 a15 a16 a17 a18 a19 a20 a21 a22 a23) = true := rfl
@[simp] theorem oc57 (a0 : Int) (a1 : Int) (a2 : Int) (a3 : Int) (a4 : Int) (a5 : Int) (a6 : Int) (a7 : Int) (a8 : Int) (a9 : Int) (a10 : Int) (a11 : Int) (a12 : Int) (a13 : Int) (a14 : Int) (a15 : Int) (a16 : Int) (a17 : Int) (a18 : Int) (a19 : Int) (a20 : Int) (a21 : Int) (a22 : Int) (a23 : Int) : o57 (c57 a0 a1 a2 a3 a4 a5 a6 a7 a8 a9 a10 a11 a12 a13 a14 a15 a16 a17 a18 a19 a20 a21 a22 a23) = c57 a0 a1 a2 a3 a4 a5 a6 a7 a8 a9 a10 a11 a12 a13 a14 a15 a16 a17 a18 a19 a20 a21 a22 a23 := rfl
def k71 : List Kind := [.str, .str, .iface]
def c71 (a0 : ByteArray) (a1 : ByteArray) (a2 : V) : List V := [.str a0, .str a1, a2]
def o71 (l : List V) : List V := c71 (nthV l 0).getStr (nthV l 1).getStr (nthV l 2)
@[simp] theorem n71_0 (a0 : ByteArray) (a1 : ByteArray) (a2 : V) : nthV (c71 a0 a1 a2) 0 = .str a0 := rfl
@[simp] theorem n71_1 (a0 : ByteArray) (a1 : ByteArray) (a2 : V) : nthV (c71 a0 a1 a2) 1 = .str a1 := rfl
@[simp] theorem n71_2 (a0 : ByteArray) (a1 : ByteArray) (a2 : V) : nthV (c71 a0 a1 a2) 2 = a2 := rfl
def k76 : List Kind := [.int .u64, .int .u64, .int .u64, .int .u64, .int .u64, .int .u64, .int .u64, .int .u64, .int .u64, .int .u64, .int .u64, .int .u64, .int .u64, .int .u64, .int .u64, .int .u64, .int .u64, .int .u64, .int .u64, .int .u64]
def c76 (a0 : Int) (a1 : Int) (a2 : Int) (a3 : Int) (a4 : Int) (a5 : Int) (a6 : Int) (a7 : Int) (a8 : Int) (a9 : Int) (a10 : Int) (a11 : Int) (a12 : Int) (a13 : Int) (a14 : Int) (a15 : Int) (a16 : Int) (a17 : Int) (a18 : Int) (a19 : Int) : List V := [.int .u64 a0, .int .u64 a1, .int .u64 a2, .int .u64 a3, .int .u64 a4, .int .u64 a5, .int .u64 a6, .int .u64 a7, .int .u64 a8, .int .u64 a9, .int .u64 a10, .int .u64 a11, .int .u64 a12, .int .u64 a13, .int .u64 a14, .int .u64 a15, .int .u64 a16, .int .u64 a17, .int .u64 a18, .int .u64 a19]
def o76 (l : List V) : List V := c76 (nthV l 0).getInt (nthV l 1).getInt (nthV l 2).getInt (nthV l 3).getInt (nthV l 4).getInt (nthV l 5).getInt (nthV l 6).getInt (nthV l 7).getInt (nthV l 8).getInt (nthV l 9).getInt (nthV l 10).getInt (nthV l 11).getInt (nthV l 12).getInt (nthV l 13).getInt (nthV l 14).getInt (nthV l 15).getInt (nthV l 16).getInt (nthV l 17).getInt (nthV l 18).getInt (nthV l 19).getInt
@[simp] theorem f76 (a0 : Int) (a1 : Int) (a2 : Int) (a3 : Int) (a4 : Int) (a5 : Int) (a6 : Int) (a7 : Int) (a8 : Int) (a9 : Int) (a10 : Int) (a11 : Int) (a12 : Int) (a13 : Int) (a14 : Int) (a15 : Int) (a16 : Int) (a17 : Int) (a18 : Int) (a19 : Int) : Am.fits k76 (c76 a0 a1 a2 a3 a4 a5 a6 a7 a8 a9 a10 a11 a12 a13 a14 a15 a16 a17 a18 a19) = true := rfl
@[simp] theorem oc76 (a0 : Int) (a1 : Int) (a2 : Int) (a3 : Int) (a4 : Int) (a5 : Int) (a6 : Int) (a7 : Int) (a8 : Int) (a9 : Int) (a10 : Int) (a11 : Int) (a12 : Int) (a13 : Int) (a14 : Int) (a15 : Int) (a16 : Int) (a17 : Int) (a18 : Int) (a19 : Int) : o76 (c76 a0 a1 a2 a3 a4 a5 a6 a7 a8 a9 a10 a11 a12 a13 a14 a15 a16 a17 a18 a19) = c76 a0 a1 a2 a3 a4 a5 a6 a7 a8 a9 a10 a11 a12 a13 a14 a15 a16 a17 a18 a19 := rfl
def k91 : List Kind := [.int .u8, .int .u8, .int .u8, .int .u8, .int .u8, .int .u8, .int .u8, .int .u8, .int .u8, .int .u8, .int .u8, .int .u8, .int .u8, .int .u8, .int .u8, .int .u8, .int .u8, .int .u8, .int .u8, .int .u8, .int .u8, .int .u8, .int .u8, .int .u8, .int .u8, .int .u8, .int .u8, .int .u8, .int .u8, .int .u8, .int .u8, .int .u8]
def c91 (a0 : Int) (a1 : Int) (a2 : Int) (a3 : Int) (a4 : Int) (a5 : Int) (a6 : Int) (a7 : Int) (a8 : Int) (a9 : Int) (a10 : Int) (a11 : Int) (a12 : Int) (a13 : Int) (a14 : Int) (a15 : Int) (a16 : Int) (a17 : Int) (a18 : Int) (a19 : Int) (a20 : Int) (a21 : Int) (a22 : Int) (a23 : Int) (a24 : Int) (a25 : Int) (a26 : Int) (a27 : Int) (a28 : Int) (a29 : Int) (a30 : Int) (a31 : Int) : List V := [.int .u8 a0, .int .u8 a1, .int .u8 a2, .int .u8 a3, .int .u8 a4, .int .u8 a5, .int .u8 a6, .int .u8 a7, .int .u8 a8, .int .u8 a9, .int .u8 a10, .int .u8 a11, .int .u8 a12, .int .u8 a13, .int .u8 a14, .int .u8 a15, .int .u8 a16, .int .u8 a17, .int .u8 a18, .int .u8 a19, .int .u8 a20, .int .u8 a21, .int .u8 a22, .int .u8 a23, .int .u8 a24, .int .u8 a25, .int .u8 a26, .int .u8 a27, .int .u8 a28, .int .u8 a29, .int .u8 a30, .int .u8 a31]
def o91 (l : List V) : List V := c91 (nthV l 0).getInt (nthV l 1).getInt (nthV l 2).getInt (nthV l 3).getInt (nthV l 4).getInt (nthV l 5).getInt (nthV l 6).getInt (nthV l 7).getInt (nthV l 8).getInt (nthV l 9).getInt (nthV l 10).getInt (nthV l 11).getInt (nthV l 12).getInt (nthV l 13).getInt (nthV l 14).getInt (nthV l 15).getInt (nthV l 16).getInt (nthV l 17).getInt (nthV l 18).getInt (nthV l 19).getInt (nthV l 20).getInt (nthV l 21).getInt (nthV l 22).getInt (nthV l 23).getInt (nthV l 24).getInt (nthV l 25).getInt (nthV l 26).getInt (nthV l 27).getInt (nthV l 28).getInt (nthV l 29).getInt (nthV l 30).getInt (nthV l 31).getInt
@[simp] theorem f91 (a0 : Int) (a1 : Int) (a2 : Int) (a3 : Int) (a4 : Int) (a5 : Int) (a6 : Int) (a7 : Int) (a8 : Int) (a9 : Int) (a10 : Int) (a11 : Int) (a12 : Int) (a13 : Int) (a14 : Int) (a15 : Int) (a16 : Int) (a17 : Int) (a18 : Int) (a19 : Int) (a20 : Int) (a21 : Int) (a22 : Int) (a23 : Int) (a24 : Int) (a25 : Int) (a26 : Int) (a27 : Int) (a28 : Int) (a29 : Int) (a30 : Int) (a31 : Int) : Am.fits k91 (c91 a0 a1 a2 a3 a4 a5 a6 a7 a8 a9 a10 a11 a12 a13 a14 a15 a16 a17 a18 a19 a20 a21 a22 a23 a24 a25 a26 a27 a28 a29 a30 a31) = true := rfl
@[simp] theorem oc91 (a0 : Int) (a1 : Int) (a2 : Int) (a3 : Int) (a4 : Int) (a5 : Int) (a6 : Int) (a7 : Int) (a8 : Int) (a9 : Int) (a10 : Int) (a11 : Int) (a12 : Int) (a13 : Int) (a14 : Int) (a15 : Int) (a16 : Int) (a17 : Int) (a18 : Int) (a19 : Int) (a20 : Int) (a21 : Int) (a22 : Int) (a23 : Int) (a24 : Int) (a25 : Int) (a26 : Int) (a27 : Int) (a28 : Int) (a29 : Int) (a30 : Int) (a31 : Int) : o91 (c91 a0 a1 a2 a3 a4 a5 a6 a7 a8 a9 a10 a11 a12 a13 a14 a15 a16 a17 a18 a19 a20 a21 a22 a23 a24 a25 a26 a27 a28 a29 a30 a31) = c91 a0 a1 a2 a3 a4 a5 a6 a7 a8 a9 a10 a11 a12 a13 a14 a15 a16 a17 a18 a19 a20 a21 a22 a23 a24 a25 a26 a27 a28 a29 a30 a31 := rfl
def k92 : List Kind := [.int .u8, .int .u8, .int .u8, .int .u8, .int .u8, .int .u8, .int .u8, .int .u8, .int .u8, .int .u8, .int .u8, .int .u8, .int .u8, .int .u8, .int .u8, .int .u8, .int .u8, .int .u8, .int .u8, .int .u8, .int .u8, .int .u8, .int .u8, .int .u8, .int .u8, .int .u8, .int .u8, .int .u8, .int .u8, .int .u8, .int .u8, .int .u8, .int .u8, .int .u8, .int .u8, .int .u8, .int .u8, .int .u8, .int .u8, .int .u8, .int .u8, .int .u8, .int .u8, .int .u8, .int .u8, .int .u8, .int .u8, .int .u8, .int .u8, .int .u8, .int .u8, .int .u8, .int .u8, .int .u8, .int .u8, .int .u8, .int .u8, .int .u8, .int .u8, .int .u8, .int .u8, .int .u8, .int .u8, .int .u8]
def c92 (a0 : Int) (a1 : Int) (a2 : Int) (a3 : Int) (a4 : Int) (a5 : Int) (a6 : Int) (a7 : Int) (a8 : Int) (a9 : Int) (a10 : Int) (a11 : Int) (a12 : Int) (a13 : Int) (a14 : Int) (a15 : Int) (a16 : Int) (a17 : Int) (a18 : Int) (a19 : Int) (a20 : Int) (a21 : Int) (a22 : Int) (a23 : Int) (a24 : Int) (a25 : Int) (a26 : Int) (a27 : Int) (a28 : Int) (a29 : Int) (a30 : Int) (a31 : Int) (a32 : Int) (a33 : Int) (a34 : Int) (a35 : Int) (a36 : Int) (a37 : Int) (a38 : Int) (a39 : Int) (a40 : Int) (a41 : Int) (a42 : Int) (a43 : Int) (a44 : Int) (a45 : Int) (a46 : Int) (a47 : Int) (a48 : Int) (a49 : Int) (a50 : Int) (a51 : Int) (a52 : Int) (a53 : Int) (a54 : Int) (a55 : Int) (a56 : Int) (a57 : Int) (a58 : Int) (a59 : Int) (a60 : Int) (a61 : Int) (a62 : Int) (a63 : Int) : List V := [.int .u8 a0, .int .u8 a1, .int .u8 a2, .int .u8 a3, .int .u8 a4, .int .u8 a5, .int .u8 a6, .int .u8 a7, .int .u8 a8, .int .u8 a9, .int .u8 a10, .int .u8 a11, .int .u8 a12, .int .u8 a13, .int .u8 a14, .int .u8 a15, .int .u8 a16, .int .u8 a17, .int .u8 a18, .int .u8 a19, .int .u8 a20, .int .u8 a21, .int .u8 a22, .int .u8 a23, .int .u8 a24, .int .u8 a25, .int .u8 a26, .int .u8 a27, .int .u8 a28, .int .u8 a29, .int .u8 a30, .int .u8 a31, .int .u8 a32, .int .u8 a33, .int .u8 a34, .int .u8 a35, .int .u8 a36, .int .u8 a37, .int .u8 a38, .int .u8 a39, .int .u8 a40, .int .u8 a41, .int .u8 a42, .int .u8 a43, .int .u8 a44, .int .u8 a45, .int .u8 a46, .int .u8 a47, .int .u8 a48, .int .u8 a49, .int .u8 a50, .int .u8 a51, .int .u8 a52, .int .u8 a53, .int .u8 a54, .int .u8 a55, .int .u8 a56, .int .u8 a57, .int .u8 a58, .int .u8 a59, .int .u8 a60, .int .u8 a61, .int .u8 a62, .int .u8 a63]
def o92 (l : List V) : List V := c92 (nthV l 0).getInt (nthV l 1).getInt (nthV l 2).getInt (nthV l 3).getInt (nthV l 4).getInt (nthV l 5).getInt (nthV l 6).getInt (nthV l 7).getInt (nthV l 8).getInt (nthV l 9).getInt (nthV l 10).getInt (nthV l 11).getInt (nthV l 12).getInt (nthV l 13).getInt (nthV l 14).getInt (nthV l 15).getInt (nthV l 16).getInt (nthV l 17).getInt (nthV l 18).getInt (nthV l 19).getInt (nthV l 20).getInt (nthV l 21).getInt (nthV l 22).getInt (nthV l 23).getInt (nthV l 24).getInt (nthV l 25).getInt (nthV l 26).getInt (nthV l 27).getInt (nthV l 28).getInt (nthV l 29).getInt (nthV l 30).getInt (nthV l 31).getInt (nthV l 32).getInt (nthV l 33).getInt (nthV l 34).getInt (nthV l 35).getInt (nthV l 36).getInt (nthV l 37).getInt (nthV l 38).getInt (nthV l 39).getInt (nthV l 40).getInt (nthV l 41).getInt (nthV l 42).getInt (nthV l 43).getInt (nthV l 44).getInt (nthV l 45).getInt (nthV l 46).getInt (nthV l 47).getInt (nthV l 48).getInt (nthV l 49).getInt (nthV l 50).getInt (nthV l 51).getInt (nthV l 52).getInt (nthV l 53).getInt (nthV l 54).getInt (nthV l 55).getInt (nthV l 56).getInt (nthV l 57).getInt (nthV l 58).getInt (nthV l 59).getInt (nthV l 60).getInt (nthV l 61).getInt (nthV l 62).getInt (nthV l 63).getInt
@[simp] theorem f92 (a0 : Int) (a1 : Int) (a2 : Int) (a3 : Int) (a4 : Int) (a5 : Int) (a6 : Int) (a7 : Int) (a8 : Int) (a9 : Int) (a10 : Int) (a11 : Int) (a12 : Int) (a13 : Int) (a14 : Int) (a15 : Int) (a16 : Int) (a17 : Int) (a18 : Int) (a19 : Int) (a20 : Int) (a21 : Int) (a22 : Int) (a23 : Int) (a24 : Int) (a25 : Int) (a26 : Int) (a27 : Int) (a28 : Int) (a29 : Int) (a30 : Int) (a31 : Int) (a32 : Int) (a33 : Int) (a34 : Int) (a35 : Int) (a36 : Int) (a37 : Int) (a38 : Int) (a39 : Int) (a40 : Int) (a41 : Int) (a42 : Int) (a43 : Int) (a44 : Int) (a45 : Int) (a46 : Int) (a47 : Int) (a48 : Int) (a49 : Int) (a50 : Int) (a51 : Int) (a52 : Int) (a53 : Int) (a54 : Int) (a55 : Int) (a56 : Int) (a57 : Int) (a58 : Int) (a59 : Int) (a60 : Int) (a61 : Int) (a62 : Int) (a63 : Int) : Am.fits k92 (c92 a0 a1 a2 a3 a4 a5 a6 a7 a8 a9 a10 a11 a12 a13 a14 a15 a16 a17 a18 a19 a20 a21 a22 a23 a24 a25 a26 a27 a28 a29 a30 a31 a32 a33 a34 a35 a36 a37 a38 a39 a40 a41 a42 a43 a44 a45 a46 a47 a48 a49 a50 a51 a52 a53 a54 a55 a56 a57 a58 a59 a60 a61 a62 a63) = true := rfl
@[simp] theorem oc92 (a0 : Int) (a1 : Int) (a2 : Int) (a3 : Int) (a4 : Int) (a5 : Int) (a6 : Int) (a7 : Int) (a8 : Int) (a9 : Int) (a10 : Int) (a11 : Int) (a12 : Int) (a13 : Int) (a14 : Int) (a15 : Int) (a16 : Int) (a17 : Int) (a18 : Int) (a19 : Int) (a20 : Int) (a21 : Int) (a22 : Int) (a23 : Int) (a24 : Int) (a25 : Int) (a26 : Int) (a27 : Int) (a28 : Int) (a29 : Int) (a30 : Int) (a31 : Int) (a32 : Int) (a33 : Int) (a34 : Int) (a35 : Int) (a36 : Int) (a37 : Int) (a38 : Int) (a39 : Int) (a40 : Int) (a41 : Int) (a42 : Int) (a43 : Int) (a44 : Int) (a45 : Int) (a46 : Int) (a47 : Int) (a48 : Int) (a49 : Int) (a50 : Int) (a51 : Int) (a52 : Int) (a53 : Int) (a54 : Int) (a55 : Int) (a56 : Int) (a57 : Int) (a58 : Int) (a59 : Int) (a60 : Int) (a61 : Int) (a62 : Int) (a63 : Int) : o92 (c92 a0 a1 a2 a3 a4 a5 a6 a7 a8 a9 a10 a11 a12 a13 a14 a15 a16 a17 a18 a19 a20 a21 a22 a23 a24 a25 a26 a27 a28 a29 a30 a31 a32 a33 a34 a35 a36 a37 a38 a39 a40 a41 a42 a43 a44 a45 a46 a47 a48 a49 a50 a51 a52 a53 a54 a55 a56 a57 a58 a59 a60 a61 a62 a63) = c92 a0 a1 a2 a3 a4 a5 a6 a7 a8 a9 a10 a11 a12 a13 a14 a15 a16 a17 a18 a19 a20 a21 a22 a23 a24 a25 a26 a27 a28 a29 a30 a31 a32 a33 a34 a35 a36 a37 a38 a39 a40 a41 a42 a43 a44 a45 a46 a47 a48 a49 a50 a51 a52 a53 a54 a55 a56 a57 a58 a59 a60 a61 a62 a63 := rfl
def k93 : List Kind := [.ptr, .ptr, .ptr, .str]
def c93 (a0 : Option (Nat × Nat)) (a1 : Option (Nat × Nat)) (a2 : Option (Nat × Nat)) (a3 : ByteArray) : List V := [.ptr a0, .ptr a1, .ptr a2, .str a3]
def o93 (l : List V) : List V := c93 (nthV l 0).getPtr (nthV l 1).getPtr (nthV l 2).getPtr (nthV l 3).getStr
@[simp] theorem f93 (a0 : Option (Nat × Nat)) (a1 : Option (Nat × Nat)) (a2 : Option (Nat × Nat)) (a3 : ByteArray) : Am.fits k93 (c93 a0 a1 a2 a3) = true := rfl
@[simp] theorem oc93 (a0 : Option (Nat × Nat)) (a1 : Option (Nat × Nat)) (a2 : Option (Nat × Nat)) (a3 : ByteArray) : o93 (c93 a0 a1 a2 a3) = c93 a0 a1 a2 a3 := rfl
@[simp] theorem n93_0 (a0 : Option (Nat × Nat)) (a1 : Option (Nat × Nat)) (a2 : Option (Nat × Nat)) (a3 : ByteArray) : nthV (c93 a0 a1 a2 a3) 0 = .ptr a0 := rfl
@[simp] theorem n93_1 (a0 : Option (Nat × Nat)) (a1 : Option (Nat × Nat)) (a2 : Option (Nat × Nat)) (a3 : ByteArray) : nthV (c93 a0 a1 a2 a3) 1 = .ptr a1 := rfl
@[simp] theorem n93_2 (a0 : Option (Nat × Nat)) (a1 : Option (Nat × Nat)) (a2 : Option (Nat × Nat)) (a3 : ByteArray) : nthV (c93 a0 a1 a2 a3) 2 = .ptr a2 := rfl
@[simp] theorem n93_3 (a0 : Option (Nat × Nat)) (a1 : Option (Nat × Nat)) (a2 : Option (Nat × Nat)) (a3 : ByteArray) : nthV (c93 a0 a1 a2 a3) 3 = .str a3 := rfl
def k103 : List Kind := [.int .u64, .int .u64, .int .u32, .int .u8, .int .u8, .int .u8, .int .u8, .func, .ptr, .int .i32, .int .i32]
def c103 (a0 : Int) (a1 : Int) (a2 : Int) (a3 : Int) (a4 : Int) (a5 : Int) (a6 : Int) (a7 : V) (a8 : Option (Nat × Nat)) (a9 : Int) (a10 : Int) : List V := [.int .u64 a0, .int .u64 a1, .int .u32 a2, .int .u8 a3, .int .u8 a4, .int .u8 a5, .int .u8 a6, a7, .ptr a8, .int .i32 a9, .int .i32 a10]
def o103 (l : List V) : List V := c103 (nthV l 0).getInt (nthV l 1).getInt (nthV l 2).getInt (nthV l 3).getInt (nthV l 4).getInt (nthV l 5).getInt (nthV l 6).getInt (nthV l 7) (nthV l 8).getPtr (nthV l 9).getInt (nthV l 10).getInt
@[simp] theorem n103_0 (a0 : Int) (a1 : Int) (a2 : Int) (a3 : Int) (a4 : Int) (a5 : Int) (a6 : Int) (a7 : V) (a8 : Option (Nat × Nat)) (a9 : Int) (a10 : Int) : nthV (c103 a0 a1 a2 a3 a4 a5 a6 a7 a8 a9 a10) 0 = .int .u64 a0 := rfl
@[simp] theorem n103_1 (a0 : Int) (a1 : Int) (a2 : Int) (a3 : Int) (a4 : Int) (a5 : Int) (a6 : Int) (a7 : V) (a8 : Option (Nat × Nat)) (a9 : Int) (a10 : Int) : nthV (c103 a0 a1 a2 a3 a4 a5 a6 a7 a8 a9 a10) 1 = .int .u64 a1 := rfl
@[simp] theorem n103_2 (a0 : Int) (a1 : Int) (a2 : Int) (a3 : Int) (a4 : Int) (a5 : Int) (a6 : Int) (a7 : V) (a8 : Option (Nat × Nat)) (a9 : Int) (a10 : Int) : nthV (c103 a0 a1 a2 a3 a4 a5 a6 a7 a8 a9 a10) 2 = .int .u32 a2 := rfl
@[simp] theorem n103_3 (a0 : Int) (a1 : Int) (a2 : Int) (a3 : Int) (a4 : Int) (a5 : Int) (a6 : Int) (a7 : V) (a8 : Option (Nat × Nat)) (a9 : Int) (a10 : Int) : nthV (c103 a0 a1 a2 a3 a4 a5 a6 a7 a8 a9 a10) 3 = .int .u8 a3 := rfl
@[simp] theorem n103_4 (a0 : Int) (a1 : Int) (a2 : Int) (a3 : Int) (a4 : Int) (a5 : Int) (a6 : Int) (a7 : V) (a8 : Option (Nat × Nat)) (a9 : Int) (a10 : Int) : nthV (c103 a0 a1 a2 a3 a4 a5 a6 a7 a8 a9 a10) 4 = .int .u8 a4 := rfl
@[simp] theorem n103_5 (a0 : Int) (a1 : Int) (a2 : Int) (a3 : Int) (a4 : Int) (a5 : Int) (a6 : Int) (a7 : V) (a8 : Option (Nat × Nat)) (a9 : Int) (a10 : Int) : nthV (c103 a0 a1 a2 a3 a4 a5 a6 a7 a8 a9 a10) 5 = .int .u8 a5 := rfl
@[simp] theorem n103_6 (a0 : Int) (a1 : Int) (a2 : Int) (a3 : Int) (a4 : Int) (a5 : Int) (a6 : Int) (a7 : V) (a8 : Option (Nat × Nat)) (a9 : Int) (a10 : Int) : nthV (c103 a0 a1 a2 a3 a4 a5 a6 a7 a8 a9 a10) 6 = .int .u8 a6 := rfl
@[simp] theorem n103_7 (a0 : Int) (a1 : Int) (a2 : Int) (a3 : Int) (a4 : Int) (a5 : Int) (a6 : Int) (a7 : V) (a8 : Option (Nat × Nat)) (a9 : Int) (a10 : Int) : nthV (c103 a0 a1 a2 a3 a4 a5 a6 a7 a8 a9 a10) 7 = a7 := rfl
@[simp] theorem n103_8 (a0 : Int) (a1 : Int) (a2 : Int) (a3 : Int) (a4 : Int) (a5 : Int) (a6 : Int) (a7 : V) (a8 : Option (Nat × Nat)) (a9 : Int) (a10 : Int) : nthV (c103 a0 a1 a2 a3 a4 a5 a6 a7 a8 a9 a10) 8 = .ptr a8 := rfl
@[simp] theorem n103_9 (a0 : Int) (a1 : Int) (a2 : Int) (a3 : Int) (a4 : Int) (a5 : Int) (a6 : Int) (a7 : V) (a8 : Option (Nat × Nat)) (a9 : Int) (a10 : Int) : nthV (c103 a0 a1 a2 a3 a4 a5 a6 a7 a8 a9 a10) 9 = .int .i32 a9 := rfl
@[simp] theorem n103_10 (a0 : Int) (a1 : Int) (a2 : Int) (a3 : Int) (a4 : Int) (a5 : Int) (a6 : Int) (a7 : V) (a8 : Option (Nat × Nat)) (a9 : Int) (a10 : Int) : nthV (c103 a0 a1 a2 a3 a4 a5 a6 a7 a8 a9 a10) 10 = .int .i32 a10 := rfl
def eqs : List (TypeId × List Kind) := []
theorem eqs_ok : eqs.all (fun x => eqOk Tryd.prog x.1 x.2) = true := by kernel_rfl
theorem names_ok : Tryd.prog.funcs.toList.all (fun fn => !(fn.name == "runtime.NumGoroutine")) = true := by kernel_rfl
def ann2 : Ann := { locals := [], base := [], keeps := [], blocks := [] }
def ann3 : Ann := { locals := [], base := [], keeps := [(6, { inT := [49], inL := [], mg := true, wT := [36, 37, 38, 39, 40, 41, 42, 43, 44, 45, 46, 47, 48], wL := [] })], blocks := [] }
def ann4 : Ann := { locals := [], base := [], keeps := [], blocks := [] }
def ann5 : Ann := { locals := [], base := [], keeps := [], blocks := [] }
def ann6 : Ann := { locals := [], base := [], keeps := [], blocks := [] }
def ann7 : Ann := { locals := [], base := [], keeps := [(2, { inT := [0], inL := [], mg := true, wT := [9, 10, 11, 12, 13, 14, 15, 16, 17, 18, 19, 20, 21, 22, 23, 24, 25], wL := [] })], blocks := [] }
def ann8 : Ann := { locals := [], base := [], keeps := [], blocks := [] }
def ann9 : Ann := { locals := [], base := [], keeps := [], blocks := [] }
def ann10 : Ann := { locals := [], base := [], keeps := [], blocks := [] }
def ann11 : Ann := { locals := [15], base := [(15, 15)], keeps := [(6, { inT := [0, 5, 15], inL := [15], outT := [(0, .k (.str)), (5, .k (.ptr))], outL := [], retT := [(2, .k (.slice)), (3, .k (.int .i64)), (4, .k (.int .i64))], retL := [], exits := [0] }), (10, { inT := [], inL := [], outT := [(28, .k (.bool))], outL := [], retT := [], retL := [], exits := [], dl := true, wT := [20, 21, 22, 23, 24, 25, 26, 27, 28], wL := [] })], blocks := [] }
def ann12 : Ann := { locals := [], base := [], keeps := [(7, { inT := [], inL := [], outT := [(0, .k (.str)), (8, .k (.bool))], outL := [], retT := [], retL := [], exits := [], dl := true, wT := [0, 8, 19, 20, 21, 22, 23, 24], wL := [] }), (15, { inT := [38], inL := [], mg := true, wT := [32, 33, 34, 35, 36, 37], wL := [] }), (19, { inT := [], inL := [], outT := [(2, .k (.int .i64))], outL := [], retT := [], retL := [], exits := [], dl := true, wT := [2], wL := [] }), (22, { inT := [52], inL := [], mg := true, wT := [46, 47, 48, 49, 50, 51], wL := [] }), (25, { inT := [62], inL := [], mg := true, wT := [57, 58, 59, 60, 61], wL := [] })], blocks := [] }
def ann13 : Ann := { locals := [], base := [], keeps := [], blocks := [] }
def ann14 : Ann := { locals := [], base := [], keeps := [(3, { inT := [17], inL := [], mg := true, wT := [12, 13, 14, 15, 16], wL := [] }), (9, { inT := [], inL := [], outT := [(6, .k (.int .u64))], outL := [], retT := [], retL := [], exits := [], dl := true, wT := [6, 24, 25], wL := [] })], blocks := [] }
def ann15 : Ann := { locals := [], base := [], keeps := [], blocks := [] }
def ann16 : Ann := { locals := [], base := [], keeps := [(2, { inT := [], inL := [], outT := [], outL := [], retT := [], retL := [], exits := [], dl := true, wT := [4, 5, 6, 7, 8, 9, 10, 11, 12, 13, 19, 20, 21, 22, 23, 24, 25, 26, 27, 28, 29, 30, 31, 32, 33, 34, 35, 36, 37, 38, 39, 40, 41, 42, 43, 44, 45, 46, 47, 48, 49, 50, 51, 52, 53, 54, 55, 56, 57, 58, 59, 60, 61, 62, 63, 64, 65, 66, 67, 68, 69, 70, 71, 72, 73, 74, 75, 76, 77, 78, 79, 80, 81, 82, 83, 84, 85, 86, 87, 88, 89, 90, 91, 92, 93, 94, 95, 96, 97, 98, 99, 100, 101, 102, 103, 104, 105], wL := [] }), (9, { inT := [32], inL := [], mg := true, wT := [33, 34, 35, 36, 37, 38, 39, 40], wL := [] }), (12, { inT := [44], inL := [], mg := true, wT := [45, 46, 47, 48, 49, 50, 51, 52], wL := [] }), (15, { inT := [59], inL := [], mg := true, wT := [60, 61, 62, 63, 64, 65, 66, 67], wL := [] }), (30, { inT := [], inL := [], outT := [(96, .k (.bool))], outL := [], retT := [], retL := [], exits := [], dl := true, wT := [96, 97, 98, 99, 100, 101, 102, 103, 104, 105], wL := [] })], blocks := [] }
def ann17 : Ann := { locals := [], base := [], keeps := [(1, { inT := [], inL := [], outT := [], outL := [], retT := [], retL := [], exits := [], dl := true, wT := [6, 7, 8, 9, 10, 11, 12, 13, 14, 15, 16, 17, 18, 19, 20, 21, 22], wL := [] }), (2, { inT := [], inL := [], outT := [], outL := [], retT := [], retL := [], exits := [], dl := true, wT := [6, 7, 8, 9, 10, 11, 12, 13, 14, 15, 16, 17, 18], wL := [] })], blocks := [] }
def ann18 : Ann := { locals := [], base := [], keeps := [(6, { inT := [25], inL := [], mg := true, wT := [26, 27, 28, 29, 30, 31], wL := [] }), (7, { inT := [], inL := [], outT := [(0, .k (.str)), (1, .k (.int .i64))], outL := [], retT := [], retL := [], exits := [], dl := true, wT := [0, 1, 6, 7, 24, 32, 33, 34, 35, 36, 37, 38, 39, 40, 41, 42, 43, 44, 45, 46, 47, 48, 49, 50, 51, 52, 53, 54, 55, 56, 57, 58, 59, 60, 61, 62, 63, 64, 65, 66, 67, 68, 69, 70, 71, 72, 73, 74, 75], wL := [] }), (13, { inT := [], inL := [], outT := [(40, .k (.bool))], outL := [], retT := [], retL := [], exits := [], dl := true, wT := [40, 41, 42, 43, 44, 45, 46, 47, 48, 49], wL := [] }), (17, { inT := [], inL := [], outT := [(52, .k (.bool))], outL := [], retT := [], retL := [], exits := [], dl := true, wT := [52, 53, 54, 55, 56, 57, 58, 59, 60, 61], wL := [] }), (29, { inT := [], inL := [], outT := [(2, .k (.int .i64))], outL := [], retT := [], retL := [], exits := [], dl := true, wT := [2, 6, 7, 78, 79, 80, 81, 82, 83, 84], wL := [] }), (31, { inT := [83], inL := [], mg := true, wT := [78, 79, 80, 81, 82], wL := [] }), (37, { inT := [], inL := [], outT := [(10, .k (.int .u64))], outL := [], retT := [], retL := [], exits := [], dl := true, wT := [10, 86, 87, 88, 89, 92, 93], wL := [] }), (47, { inT := [1, 8, 9, 10, 11, 12, 13, 99, 100, 101], inL := [], outT := [(9, .k (.str)), (12, .k (.bool)), (13, .k (.int .u64))], outL := [], retT := [(6, .k (.int .u64)), (7, .k (.iface))], retL := [], exits := [3] }), (52, { inT := [106], inL := [], mg := true, wT := [107, 108, 109, 110, 111], wL := [] }), (55, { inT := [112], inL := [], mg := true, wT := [113, 114, 115, 116, 117, 118], wL := [] }), (56, { inT := [], inL := [], outT := [(16, .k (.int .u8))], outL := [], retT := [], retL := [], exits := [], dl := true, wT := [6, 7, 16, 105, 119, 120, 121, 122, 123, 124, 125, 126, 127, 128, 129, 130, 131, 132, 133], wL := [] }), (58, { inT := [], inL := [], outT := [(121, .k (.bool))], outL := [], retT := [], retL := [], exits := [], dl := true, wT := [121, 122, 123, 124, 125, 126, 127, 128, 129], wL := [] }), (70, { inT := [159], inL := [], mg := true, wT := [152, 153, 154, 155, 156, 157, 158], wL := [] })], blocks := [] }
def ann19 : Ann := { locals := [], base := [], keeps := [(1, { inT := [], inL := [], outT := [(4, .k (.ptr))], outL := [], retT := [], retL := [], exits := [], dl := true, wT := [4, 5, 6, 7, 8, 9, 10], wL := [] })], blocks := [] }
def ann20 : Ann := { locals := [], base := [], keeps := [(1, { inT := [], inL := [], outT := [(4, .k (.ptr))], outL := [], retT := [], retL := [], exits := [], dl := true, wT := [4, 5, 6, 7, 8, 9, 10], wL := [] })], blocks := [] }
def ann21 : Ann := { locals := [], base := [], keeps := [], blocks := [] }
def ann22 : Ann := { locals := [], base := [], keeps := [], blocks := [] }
def ann23 : Ann := { locals := [], base := [], keeps := [], blocks := [] }
def ann24 : Ann := { locals := [], base := [], keeps := [], blocks := [] }
def ann25 : Ann := { locals := [], base := [], keeps := [(1, { inT := [0, 1, 4], inL := [], outT := [(0, .k (.slice)), (1, .k (.int .u64)), (4, .k (.int .i64))], outL := [], retT := [], retL := [], exits := [0] }), (16, { inT := [], inL := [], outT := [(4, .k (.int .i64)), (12, .k (.int .u32))], outL := [], retT := [], retL := [], exits := [], dl := true, wT := [4, 12, 13, 14, 15, 100, 101, 102, 103, 104, 105, 106, 107, 108, 109, 110, 111, 112, 113, 114, 115, 116, 117, 118, 119, 120, 121, 122, 123, 124, 125, 126, 127, 128, 129, 130, 131, 132, 133, 134, 135, 136, 137], wL := [] }), (24, { inT := [], inL := [], outT := [(4, .k (.int .i64)), (12, .k (.int .u32))], outL := [], retT := [], retL := [], exits := [], dl := true, wT := [4, 12, 16, 140, 141, 142, 143, 144, 145, 146, 147, 148, 149, 150, 151, 152, 153, 154, 155, 156, 157, 158, 159], wL := [] })], blocks := [] }
def ann26 : Ann := { locals := [], base := [], keeps := [(1, { inT := [28], inL := [], mg := true, wT := [19, 20, 21, 22, 23, 24, 25, 26, 27], wL := [] }), (2, { inT := [], inL := [], outT := [], outL := [], retT := [], retL := [], exits := [], dl := true, wT := [29], wL := [] }), (7, { inT := [], inL := [], outT := [(1, .k (.int .u64))], outL := [], retT := [], retL := [], exits := [], dl := true, wT := [1, 31, 32], wL := [] }), (10, { inT := [], inL := [], outT := [(0, .k (.slice)), (3, .k (.bool)), (4, .k (.bool)), (10, .k (.slice)), (11, .k (.str)), (12, .k (.ptr)), (13, .k (.int .i64))], outL := [], retT := [], retL := [], exits := [] }), (14, { inT := [0, 1, 3, 4, 10, 11, 12, 13, 14, 15, 16], inL := [], outT := [(0, .k (.slice)), (1, .k (.int .u64)), (3, .k (.bool)), (4, .k (.bool)), (10, .k (.slice)), (11, .k (.str)), (12, .k (.ptr)), (13, .k (.int .i64))], outL := [], retT := [], retL := [], exits := [0] }), (23, { inT := [0, 1, 3, 4, 10, 11, 12, 13, 17], inL := [], outT := [(0, .k (.slice)), (1, .k (.int .u64)), (3, .k (.bool)), (4, .k (.bool)), (10, .k (.slice)), (11, .k (.str)), (12, .k (.ptr)), (13, .k (.int .i64))], outL := [], retT := [], retL := [], exits := [2] })], blocks := [] }
def ann27 : Ann := { locals := [], base := [], keeps := [], blocks := [] }
def ann28 : Ann := { locals := [175], base := [(175, 175)], keeps := [(1, { inT := [160], inL := [], mg := true, wT := [161, 162, 163, 164, 165, 166], wL := [] }), (7, { inT := [175], inL := [175], outT := [], outL := [], retT := [(4, .k (.int .i64))], retL := [], exits := [9] }), (22, { inT := [0, 7, 8, 9], inL := [], outT := [], outL := [], retT := [(4, .k (.int .i64))], retL := [], exits := [1] }), (26, { inT := [], inL := [], outT := [(9, .k (.int .i64))], outL := [], retT := [], retL := [], exits := [], dl := true, wT := [4, 9, 11, 34, 35, 36, 37, 38, 39, 40, 41, 42, 43, 44, 45, 46, 47], wL := [] }), (33, { inT := [0, 7, 8, 9, 12], inL := [], outT := [(8, .k (.int .i64)), (9, .k (.int .i64))], outL := [], retT := [], retL := [], exits := [3] }), (52, { inT := [0, 7, 8, 9, 14, 15], inL := [], outT := [], outL := [], retT := [(4, .k (.int .i64))], retL := [], exits := [5] }), (55, { inT := [139], inL := [], mg := true, wT := [127, 128, 129, 130, 131, 132, 133, 134, 135, 136, 137, 138], wL := [] }), (58, { inT := [0, 7, 8, 9, 14, 15, 16], inL := [], outT := [(0, .k (.str)), (7, .k (.str)), (8, .k (.int .i64)), (9, .k (.int .i64)), (14, .k (.int .u8)), (15, .k (.int .u8))], outL := [], retT := [], retL := [], exits := [6, 7] })], blocks := [] }
def ann29 : Ann := { locals := [], base := [], keeps := [], blocks := [] }
def ann30 : Ann := { locals := [], base := [], keeps := [], blocks := [] }
def ann31 : Ann := { locals := [], base := [], keeps := [(1, { inT := [2], inL := [], mg := true, wT := [3, 4, 5, 6, 7, 8, 9, 10, 11, 12], wL := [] })], blocks := [] }
def ann32 : Ann := { locals := [], base := [], keeps := [], blocks := [] }
def ann33 : Ann := { locals := [], base := [], keeps := [], blocks := [] }
def ann34 : Ann := { locals := [], base := [], keeps := [(1, { inT := [], inL := [], outT := [(2, .k (.str))], outL := [], retT := [], retL := [], exits := [], dl := true, wT := [2, 3, 4, 5, 6, 7, 8, 9, 10, 11, 12, 13], wL := [] })], blocks := [] }
def ann35 : Ann := { locals := [], base := [], keeps := [], blocks := [] }
def ann36 : Ann := { locals := [], base := [], keeps := [], blocks := [] }
def ann37 : Ann := { locals := [], base := [], keeps := [(3, { inT := [18], inL := [], mg := true, wT := [6, 7, 8, 9, 10, 11, 12, 13, 14, 15, 16, 17], wL := [] }), (4, { inT := [], inL := [], outT := [(0, .k (.str))], outL := [], retT := [], retL := [], exits := [], dl := true, wT := [0, 19, 20], wL := [] }), (7, { inT := [], inL := [], outT := [(46, .k (.bool))], outL := [], retT := [], retL := [], exits := [], dl := true, wT := [21, 22, 23, 24, 25, 26, 27, 28, 29, 30, 31, 32, 33, 34, 35, 36, 37, 38, 39, 40, 41, 42, 43, 44, 45, 46], wL := [] }), (8, { inT := [], inL := [], outT := [(3, .k (.int .i32)), (4, .k (.int .i64)), (5, .k (.bool))], outL := [], retT := [], retL := [], exits := [], dl := true, wT := [3, 4, 5, 47, 48, 49, 50], wL := [] }), (12, { inT := [0, 3, 4, 5], inL := [], outT := [(3, .k (.int .i32))], outL := [], retT := [(2, .k (.bool))], retL := [], exits := [0] }), (15, { inT := [], inL := [], outT := [(83, .k (.bool))], outL := [], retT := [], retL := [], exits := [], dl := true, wT := [57, 58, 59, 60, 61, 62, 63, 64, 65, 66, 67, 68, 69, 70, 71, 72, 73, 74, 75, 76, 77, 78, 79, 80, 81, 82, 83], wL := [] })], blocks := [] }
def ann38 : Ann := { locals := [], base := [], keeps := [], blocks := [] }
def ann39 : Ann := { locals := [], base := [], keeps := [], blocks := [] }
def ann40 : Ann := { locals := [], base := [], keeps := [], blocks := [] }
def ann41 : Ann := { locals := [], base := [], keeps := [], blocks := [] }
def ann42 : Ann := { locals := [], base := [], keeps := [(2, { inT := [], inL := [], outT := [(0, .k (.int .u64)), (2, .k (.int .i64))], outL := [], retT := [], retL := [], exits := [], dl := true, wT := [0, 2, 5, 6], wL := [] }), (6, { inT := [], inL := [], outT := [(0, .k (.int .u64)), (2, .k (.int .i64))], outL := [], retT := [], retL := [], exits := [], dl := true, wT := [0, 2, 9, 10, 11, 12], wL := [] })], blocks := [] }
def ann43 : Ann := { locals := [], base := [], keeps := [], blocks := [] }
def ann44 : Ann := { locals := [], base := [], keeps := [], blocks := [] }
def ann45 : Ann := { locals := [], base := [], keeps := [], blocks := [] }
def ann46 : Ann := { locals := [], base := [], keeps := [], blocks := [] }
def ann47 : Ann := { locals := [], base := [], keeps := [(1, { inT := [3], inL := [], mg := true, wT := [4, 5, 6, 7, 8, 9], wL := [] }), (4, { inT := [10], inL := [], mg := true, wT := [11, 12, 13, 14, 15, 16], wL := [] })], blocks := [] }
def ann48 : Ann := { locals := [], base := [], keeps := [], blocks := [] }
def ann50 : Ann := { locals := [], base := [], keeps := [], blocks := [] }
def ann51 : Ann := { locals := [], base := [], keeps := [], blocks := [] }
def ann52 : Ann := { locals := [], base := [], keeps := [], blocks := [] }
def ann53 : Ann := { locals := [], base := [], keeps := [], blocks := [] }
def ann54 : Ann := { locals := [], base := [], keeps := [], blocks := [] }
def ann55 : Ann := { locals := [], base := [], keeps := [], blocks := [] }
def ann57 : Ann := { locals := [], base := [], keeps := [(6, { inT := [], inL := [], outT := [(25, .k (.bool))], outL := [], retT := [], retL := [], exits := [], dl := true, wT := [25, 28, 29, 30, 31, 32, 33], wL := [] }), (7, { inT := [25], inL := [], mg := true, wT := [28, 29, 30, 31, 32, 33], wL := [] }), (10, { inT := [50], inL := [], mg := true, wT := [51, 52, 53, 54, 55, 56], wL := [] })], blocks := [] }
def ann85 : Ann := { locals := [], base := [], keeps := [], blocks := [] }
theorem xo9 : XOk Tryd.prog 9 (.parseInt 0 1) := xoPI
theorem xo10 : XOk Tryd.prog 10 (.formatInt 2 Lib.pow10Tab) := xoFI
theorem xo58 : XOk Tryd.prog 58 .indexByte := ⟨Tryd.f58, Tryd.func58, by kernel_rfl, by kernel_rfl, by kernel_rfl, by kernel_rfl⟩
def exts : List (Nat × XK) := [(9, (.parseInt 0 1)), (10, (.formatInt 2 Lib.pow10Tab)), (34, (.bString 5)), (50, (.copyCheck 44)), (58, .indexByte)]
theorem exts_ok : ∀ g k, Am.look exts g = some k → XOk Tryd.prog g k := by
  intro g k hg
  simp only [exts, look_cons, look_nil] at hg
  split at hg
  · rename_i he
    subst he
    cases hg
    exact xo9
  split at hg
  · rename_i he
    subst he
    cases hg
    exact xo10
  split at hg
  · rename_i he
    subst he
    cases hg
    exact xo34
  split at hg
  · rename_i he
    subst he
    cases hg
    exact xo50
  split at hg
  · rename_i he
    subst he
    cases hg
    exact xo58
  cases hg
def anns : List (Nat × Ann) := [(2, ann2), (3, ann3), (4, ann4), (5, ann5), (6, ann6), (7, ann7), (8, ann8), (9, ann9), (10, ann10), (11, ann11), (12, ann12), (13, ann13), (14, ann14), (15, ann15), (16, ann16), (17, ann17), (18, ann18), (19, ann19), (20, ann20), (21, ann21), (22, ann22), (23, ann23), (24, ann24), (25, ann25), (26, ann26), (27, ann27), (28, ann28), (29, ann29), (30, ann30), (31, ann31), (32, ann32), (33, ann33), (34, ann34), (35, ann35), (36, ann36), (37, ann37), (38, ann38), (39, ann39), (40, ann40), (41, ann41), (42, ann42), (43, ann43), (44, ann44), (45, ann45), (46, ann46), (47, ann47), (48, ann48), (50, ann50), (51, ann51), (52, ann52), (53, ann53), (54, ann54), (55, ann55), (57, ann57), (85, ann85)]
theorem ti_ok (t : Nat) (x : TI) (h : tab[t]? = some x) : tiOf Tryd.prog t = some x := by
  have h1 : t < 105 := by
    have h2 : tab.length = 105 := by kernel_rfl
    have := (List.getElem?_eq_some_iff.1 h).1
    omega
  have h3 := congrArg (fun l => l[t]?) tab_ok
  simp only [List.getElem?_map, h, List.getElem?_range h1, Option.map_some, Option.some.injEq] at h3
  exact h3
theorem eq_ok (t : Nat) (ks : List Kind) (h : Am.look eqs t = some ks) : eqOk Tryd.prog t ks = true := by
  have key : ∀ l : List (TypeId × List Kind), l.all (fun x => eqOk Tryd.prog x.1 x.2) = true → Am.look l t = some ks → eqOk Tryd.prog t ks = true := by
    intro l
    induction l with
    | nil => intro _ h; cases h
    | cons p l ih =>
      intro h1 h2
      rw [List.all_cons, Bool.and_eq_true] at h1
      simp only [Am.look, beq_iff] at h2
      by_cases he : t = p.1
      · simp only [he, decide_true, cond_true, Option.some.injEq] at h2
        rw [he, ← h2]; exact h1.1
      · simp only [he, decide_false, cond_false] at h2
        exact ih h1.2 h2
  exact key _ eqs_ok h
noncomputable def fns : List (Nat × Func) := [(2, Tryd.f2), (3, Tryd.f3), (4, Tryd.f4), (5, Tryd.f5), (6, Tryd.f6), (7, Tryd.f7), (8, Tryd.f8), (9, Tryd.f9), (10, Tryd.f10), (11, Tryd.f11), (12, Tryd.f12), (13, Tryd.f13), (14, Tryd.f14), (15, Tryd.f15), (16, Tryd.f16), (17, Tryd.f17), (18, Tryd.f18), (19, Tryd.f19), (20, Tryd.f20), (21, Tryd.f21), (22, Tryd.f22), (23, Tryd.f23), (24, Tryd.f24), (25, Tryd.f25), (26, Tryd.f26), (27, Tryd.f27), (28, Tryd.f28), (29, Tryd.f29), (30, Tryd.f30), (31, Tryd.f31), (32, Tryd.f32), (33, Tryd.f33), (34, Tryd.f34), (35, Tryd.f35), (36, Tryd.f36), (37, Tryd.f37), (38, Tryd.f38), (39, Tryd.f39), (40, Tryd.f40), (41, Tryd.f41), (42, Tryd.f42), (43, Tryd.f43), (44, Tryd.f44), (45, Tryd.f45), (46, Tryd.f46), (47, Tryd.f47), (48, Tryd.f48), (50, Tryd.f50), (51, Tryd.f51), (52, Tryd.f52), (53, Tryd.f53), (54, Tryd.f54), (55, Tryd.f55), (57, Tryd.f57), (85, Tryd.f85)]
theorem fns_ok : fns.map (fun x => Tryd.prog.funcs[x.1]?) = fns.map (fun x => some x.2) := by kernel_rfl
theorem fn_ok (f : Nat) (x : Func) (h : Am.look fns f = some x) : Tryd.prog.funcs[f]? = some x := by
  have key : ∀ l : List (Nat × Func), l.map (fun x => Tryd.prog.funcs[x.1]?) = l.map (fun x => some x.2) → Am.look l f = some x → Tryd.prog.funcs[f]? = some x := by
    intro l
    induction l with
    | nil => intro _ h; cases h
    | cons p l ih =>
      intro h1 h2
      simp only [List.map_cons, List.cons.injEq] at h1
      simp only [Am.look, beq_iff] at h2
      by_cases he : f = p.1
      · simp only [he, decide_true, cond_true, Option.some.injEq] at h2
        rw [he, ← h2]; exact h1.1
      · simp only [he, decide_false, cond_false] at h2
        exact ih h1.2 h2
  exact key _ fns_ok h
noncomputable def env : Env where
  P := Tryd.prog
  ext := extTab Tryd.prog exts
  fn := fun f => Am.look fns f
  fn_ok := fn_ok
  ti := fun t => tab[t]?
  ti_ok := ti_ok
  ann := fun f => (Am.look anns f).getD {}
  eqt := eqs
  eq_ok := eq_ok
  names := names_ok
theorem mixed : Tryd.prog.follows .mixedOrders = true := by kernel_rfl
theorem extOk : ExtSound env := ext_sound rfl exts_ok
theorem sound : Sound env (Run env) := Run_sound (E := env) extOk mixed
end Go.Proofs.YtibkggbidojocaaDoor
