/- The tables that the abstract machine wants: types, frame-local blocks, what loops keep. Written by a program (wip/am/Gen.lean). -/
import Derived.Test.YtpodpakpgolipaaAmExt
import Derived.Test.YtpodpakpgolipaaProg
import Derived.KernelRfl
namespace Go.Proofs.Ytpodpakpgolipaa
open Go.Am
set_option maxRecDepth 100000
set_option linter.unusedVariables false
set_option linter.unusedSimpArgs false
def tab : List TI := [
  ⟨.tuple [], 1, 0, none⟩,
  ⟨.func, 1, 8, some (.nilFunc)⟩,
  ⟨.int .i64, 1, 8, some (.int .i64 0)⟩,
  ⟨.int .i64, 1, 8, some (.int .i64 0)⟩,
  ⟨.bool, 1, 1, some (.bool false)⟩,
  ⟨.int .u8, 1, 1, some (.int .u8 0)⟩,
  ⟨.int .u8, 1, 1, some (.int .u8 0)⟩,
  ⟨.struct [(0, 2), (1, 3), (2, 4), (3, 6)], 4, 24, some (.agg [.int .i64 0, .int .i64 0, .bool false, .int .u8 0])⟩,
  ⟨.struct [(0, 2), (1, 3), (2, 4), (3, 6)], 4, 24, some (.agg [.int .i64 0, .int .i64 0, .bool false, .int .u8 0])⟩,
  ⟨.str, 1, 16, some (.str ⟨#[]⟩)⟩,
  ⟨.str, 1, 16, some (.str ⟨#[]⟩)⟩,
  ⟨.str, 1, 16, some (.str ⟨#[]⟩)⟩,
  ⟨.int .u64, 1, 8, some (.int .u64 0)⟩,
  ⟨.struct [(0, 9), (1, 12)], 2, 24, some (.agg [.str ⟨#[]⟩, .int .u64 0])⟩,
  ⟨.struct [(0, 9), (1, 12)], 2, 24, some (.agg [.str ⟨#[]⟩, .int .u64 0])⟩,
  ⟨.ptr 98, 1, 8, some (.ptr none)⟩,
  ⟨.ptr 101, 1, 8, some (.ptr none)⟩,
  ⟨.ptr 109, 1, 8, some (.ptr none)⟩,
  ⟨.struct [(0, 17)], 1, 8, some (.agg [.ptr none])⟩,
  ⟨.struct [(0, 17)], 1, 8, some (.agg [.ptr none])⟩,
  ⟨.iface, 1, 16, some (.nilIface)⟩,
  ⟨.int .i32, 1, 4, some (.int .i32 0)⟩,
  ⟨.int .u32, 1, 4, some (.int .u32 0)⟩,
  ⟨.arr 8 22, 8, 32, some (.agg [.int .u32 0, .int .u32 0, .int .u32 0, .int .u32 0, .int .u32 0, .int .u32 0, .int .u32 0, .int .u32 0])⟩,
  ⟨.struct [(0, 23), (8, 5), (9, 3), (10, 22), (11, 4)], 12, 56, some (.agg [.int .u32 0, .int .u32 0, .int .u32 0, .int .u32 0, .int .u32 0, .int .u32 0, .int .u32 0, .int .u32 0, .int .u8 0, .int .i64 0, .int .u32 0, .bool false])⟩,
  ⟨.struct [(0, 23), (8, 5), (9, 3), (10, 22), (11, 4)], 12, 56, some (.agg [.int .u32 0, .int .u32 0, .int .u32 0, .int .u32 0, .int .u32 0, .int .u32 0, .int .u32 0, .int .u32 0, .int .u8 0, .int .i64 0, .int .u32 0, .bool false])⟩,
  ⟨.func, 1, 8, some (.nilFunc)⟩,
  ⟨.func, 1, 8, some (.nilFunc)⟩,
  ⟨.func, 1, 8, some (.nilFunc)⟩,
  ⟨.int .u16, 1, 2, some (.int .u16 0)⟩,
  ⟨.func, 1, 8, some (.nilFunc)⟩,
  ⟨.slice 5, 1, 24, some (.slice none 0 0)⟩,
  ⟨.func, 1, 8, some (.nilFunc)⟩,
  ⟨.func, 1, 8, some (.nilFunc)⟩,
  ⟨.func, 1, 8, some (.nilFunc)⟩,
  ⟨.func, 1, 8, some (.nilFunc)⟩,
  ⟨.slice 42, 1, 24, some (.slice none 0 0)⟩,
  ⟨.struct [(0, 36)], 1, 24, some (.agg [.slice none 0 0])⟩,
  ⟨.struct [(0, 36)], 1, 24, some (.agg [.slice none 0 0])⟩,
  ⟨.int .i64, 1, 8, some (.int .i64 0)⟩,
  ⟨.func, 1, 8, some (.nilFunc)⟩,
  ⟨.struct [(0, 3), (1, 31), (2, 4)], 3, 40, some (.agg [.int .i64 0, .slice none 0 0, .bool false])⟩,
  ⟨.struct [(0, 3), (1, 31), (2, 4)], 3, 40, some (.agg [.int .i64 0, .slice none 0 0, .bool false])⟩,
  ⟨.tuple [42, 4], 1, 0, none⟩,
  ⟨.func, 1, 8, some (.nilFunc)⟩,
  ⟨.func, 1, 8, some (.nilFunc)⟩,
  ⟨.func, 1, 8, some (.nilFunc)⟩,
  ⟨.int .u64, 1, 8, some (.int .u64 0)⟩,
  ⟨.tuple [25, 3, 39], 1, 0, none⟩,
  ⟨.func, 1, 8, some (.nilFunc)⟩,
  ⟨.func, 1, 8, some (.nilFunc)⟩,
  ⟨.tuple [25, 3, 4], 1, 0, none⟩,
  ⟨.func, 1, 8, some (.nilFunc)⟩,
  ⟨.func, 1, 8, some (.nilFunc)⟩,
  ⟨.func, 1, 8, some (.nilFunc)⟩,
  ⟨.func, 1, 8, some (.nilFunc)⟩,
  ⟨.func, 1, 8, some (.nilFunc)⟩,
  ⟨.slice 59, 1, 24, some (.slice none 0 0)⟩,
  ⟨.struct [(0, 5), (1, 42), (4, 4)], 5, 56, some (.agg [.int .u8 0, .int .i64 0, .slice none 0 0, .bool false, .bool false])⟩,
  ⟨.struct [(0, 5), (1, 42), (4, 4)], 5, 56, some (.agg [.int .u8 0, .int .i64 0, .slice none 0 0, .bool false, .bool false])⟩,
  ⟨.func, 1, 8, some (.nilFunc)⟩,
  ⟨.func, 1, 8, some (.nilFunc)⟩,
  ⟨.func, 1, 8, some (.nilFunc)⟩,
  ⟨.ptr 38, 1, 8, some (.ptr none)⟩,
  ⟨.func, 1, 8, some (.nilFunc)⟩,
  ⟨.tuple [25, 39], 1, 0, none⟩,
  ⟨.func, 1, 8, some (.nilFunc)⟩,
  ⟨.struct [(0, 5), (1, 3), (2, 31), (3, 4), (4, 22), (5, 22), (6, 5), (7, 4)], 8, 56, some (.agg [.int .u8 0, .int .i64 0, .slice none 0 0, .bool false, .int .u32 0, .int .u32 0, .int .u8 0, .bool false])⟩,
  ⟨.struct [(0, 5), (1, 3), (2, 31), (3, 4), (4, 22), (5, 22), (6, 5), (7, 4)], 8, 56, some (.agg [.int .u8 0, .int .i64 0, .slice none 0 0, .bool false, .int .u32 0, .int .u32 0, .int .u8 0, .bool false])⟩,
  ⟨.func, 1, 8, some (.nilFunc)⟩,
  ⟨.int .u64, 1, 8, some (.int .u64 0)⟩,
  ⟨.func, 1, 8, some (.nilFunc)⟩,
  ⟨.func, 1, 8, some (.nilFunc)⟩,
  ⟨.tuple [3, 4], 1, 0, none⟩,
  ⟨.func, 1, 8, some (.nilFunc)⟩,
  ⟨.func, 1, 8, some (.nilFunc)⟩,
  ⟨.ptr 92, 1, 8, some (.ptr none)⟩,
  ⟨.func, 1, 8, some (.nilFunc)⟩,
  ⟨.func, 1, 8, some (.nilFunc)⟩,
  ⟨.func, 1, 8, some (.nilFunc)⟩,
  ⟨.func, 1, 8, some (.nilFunc)⟩,
  ⟨.func, 1, 8, some (.nilFunc)⟩,
  ⟨.func, 1, 8, some (.nilFunc)⟩,
  ⟨.func, 1, 8, some (.nilFunc)⟩,
  ⟨.func, 1, 8, some (.nilFunc)⟩,
  ⟨.arr 6 5, 6, 6, some (.agg [.int .u8 0, .int .u8 0, .int .u8 0, .int .u8 0, .int .u8 0, .int .u8 0])⟩,
  ⟨.func, 1, 8, some (.nilFunc)⟩,
  ⟨.func, 1, 8, some (.nilFunc)⟩,
  ⟨.func, 1, 8, some (.nilFunc)⟩,
  ⟨.func, 1, 8, some (.nilFunc)⟩,
  ⟨.func, 1, 8, some (.nilFunc)⟩,
  ⟨.struct [(0, 31), (1, 4)], 2, 32, some (.agg [.slice none 0 0, .bool false])⟩,
  ⟨.struct [(0, 31), (1, 4)], 2, 32, some (.agg [.slice none 0 0, .bool false])⟩,
  ⟨.func, 1, 8, some (.nilFunc)⟩,
  ⟨.func, 1, 8, some (.nilFunc)⟩,
  ⟨.func, 1, 8, some (.nilFunc)⟩,
  ⟨.func, 1, 8, some (.nilFunc)⟩,
  ⟨.struct [(0, 17), (1, 17), (2, 17), (3, 9)], 4, 40, some (.agg [.ptr none, .ptr none, .ptr none, .str ⟨#[]⟩])⟩,
  ⟨.struct [(0, 17), (1, 17), (2, 17), (3, 9)], 4, 40, some (.agg [.ptr none, .ptr none, .ptr none, .str ⟨#[]⟩])⟩,
  ⟨.arr 0 16, 0, 0, some (.agg [])⟩,
  ⟨.struct [(0, 99)], 0, 0, some (.agg [])⟩,
  ⟨.struct [(0, 99)], 0, 0, some (.agg [])⟩,
  ⟨.int .u8, 1, 1, some (.int .u8 0)⟩,
  ⟨.int .u8, 1, 1, some (.int .u8 0)⟩,
  ⟨.func, 1, 8, some (.nilFunc)⟩,
  ⟨.ptr 5, 1, 8, some (.ptr none)⟩,
  ⟨.int .i32, 1, 4, some (.int .i32 0)⟩,
  ⟨.int .i32, 1, 4, some (.int .i32 0)⟩,
  ⟨.struct [(0, 12), (1, 12), (2, 22), (3, 102), (4, 5), (5, 5), (6, 103), (7, 104), (8, 105), (9, 106), (10, 107)], 11, 48, some (.agg [.int .u64 0, .int .u64 0, .int .u32 0, .int .u8 0, .int .u8 0, .int .u8 0, .int .u8 0, .nilFunc, .ptr none, .int .i32 0, .int .i32 0])⟩,
  ⟨.struct [(0, 12), (1, 12), (2, 22), (3, 102), (4, 5), (5, 5), (6, 103), (7, 104), (8, 105), (9, 106), (10, 107)], 11, 48, some (.agg [.int .u64 0, .int .u64 0, .int .u32 0, .int .u8 0, .int .u8 0, .int .u8 0, .int .u8 0, .nilFunc, .ptr none, .int .i32 0, .int .i32 0])⟩,
  ⟨.other, 1, 8, some (.ptr none)⟩]
theorem tab_ok : (List.range 111).map (tiOf Try.prog) = tab.map some := by kernel_rfl
def k7 : List Kind := [.int .i64, .int .i64, .bool, .int .u8]
def c7 (a0 : Int) (a1 : Int) (a2 : Bool) (a3 : Int) : List V := [.int .i64 a0, .int .i64 a1, .bool a2, .int .u8 a3]
def o7 (l : List V) : List V := c7 (nthV l 0).getInt (nthV l 1).getInt (nthV l 2).getBool (nthV l 3).getInt
@[simp] theorem f7 (a0 : Int) (a1 : Int) (a2 : Bool) (a3 : Int) : Am.fits k7 (c7 a0 a1 a2 a3) = true := rfl
@[simp] theorem oc7 (a0 : Int) (a1 : Int) (a2 : Bool) (a3 : Int) : o7 (c7 a0 a1 a2 a3) = c7 a0 a1 a2 a3 := rfl
@[simp] theorem n7_0 (a0 : Int) (a1 : Int) (a2 : Bool) (a3 : Int) : nthV (c7 a0 a1 a2 a3) 0 = .int .i64 a0 := rfl
@[simp] theorem n7_1 (a0 : Int) (a1 : Int) (a2 : Bool) (a3 : Int) : nthV (c7 a0 a1 a2 a3) 1 = .int .i64 a1 := rfl
@[simp] theorem n7_2 (a0 : Int) (a1 : Int) (a2 : Bool) (a3 : Int) : nthV (c7 a0 a1 a2 a3) 2 = .bool a2 := rfl
@[simp] theorem n7_3 (a0 : Int) (a1 : Int) (a2 : Bool) (a3 : Int) : nthV (c7 a0 a1 a2 a3) 3 = .int .u8 a3 := rfl
def k13 : List Kind := [.str, .int .u64]
def c13 (a0 : ByteArray) (a1 : Int) : List V := [.str a0, .int .u64 a1]
def o13 (l : List V) : List V := c13 (nthV l 0).getStr (nthV l 1).getInt
@[simp] theorem f13 (a0 : ByteArray) (a1 : Int) : Am.fits k13 (c13 a0 a1) = true := rfl
@[simp] theorem oc13 (a0 : ByteArray) (a1 : Int) : o13 (c13 a0 a1) = c13 a0 a1 := rfl
@[simp] theorem n13_0 (a0 : ByteArray) (a1 : Int) : nthV (c13 a0 a1) 0 = .str a0 := rfl
@[simp] theorem n13_1 (a0 : ByteArray) (a1 : Int) : nthV (c13 a0 a1) 1 = .int .u64 a1 := rfl
def k23 : List Kind := [.int .u32, .int .u32, .int .u32, .int .u32, .int .u32, .int .u32, .int .u32, .int .u32]
def c23 (a0 : Int) (a1 : Int) (a2 : Int) (a3 : Int) (a4 : Int) (a5 : Int) (a6 : Int) (a7 : Int) : List V := [.int .u32 a0, .int .u32 a1, .int .u32 a2, .int .u32 a3, .int .u32 a4, .int .u32 a5, .int .u32 a6, .int .u32 a7]
def o23 (l : List V) : List V := c23 (nthV l 0).getInt (nthV l 1).getInt (nthV l 2).getInt (nthV l 3).getInt (nthV l 4).getInt (nthV l 5).getInt (nthV l 6).getInt (nthV l 7).getInt
@[simp] theorem f23 (a0 : Int) (a1 : Int) (a2 : Int) (a3 : Int) (a4 : Int) (a5 : Int) (a6 : Int) (a7 : Int) : Am.fits k23 (c23 a0 a1 a2 a3 a4 a5 a6 a7) = true := rfl
@[simp] theorem oc23 (a0 : Int) (a1 : Int) (a2 : Int) (a3 : Int) (a4 : Int) (a5 : Int) (a6 : Int) (a7 : Int) : o23 (c23 a0 a1 a2 a3 a4 a5 a6 a7) = c23 a0 a1 a2 a3 a4 a5 a6 a7 := rfl
@[simp] theorem n23_0 (a0 : Int) (a1 : Int) (a2 : Int) (a3 : Int) (a4 : Int) (a5 : Int) (a6 : Int) (a7 : Int) : nthV (c23 a0 a1 a2 a3 a4 a5 a6 a7) 0 = .int .u32 a0 := rfl
@[simp] theorem n23_1 (a0 : Int) (a1 : Int) (a2 : Int) (a3 : Int) (a4 : Int) (a5 : Int) (a6 : Int) (a7 : Int) : nthV (c23 a0 a1 a2 a3 a4 a5 a6 a7) 1 = .int .u32 a1 := rfl
@[simp] theorem n23_2 (a0 : Int) (a1 : Int) (a2 : Int) (a3 : Int) (a4 : Int) (a5 : Int) (a6 : Int) (a7 : Int) : nthV (c23 a0 a1 a2 a3 a4 a5 a6 a7) 2 = .int .u32 a2 := rfl
@[simp] theorem n23_3 (a0 : Int) (a1 : Int) (a2 : Int) (a3 : Int) (a4 : Int) (a5 : Int) (a6 : Int) (a7 : Int) : nthV (c23 a0 a1 a2 a3 a4 a5 a6 a7) 3 = .int .u32 a3 := rfl
@[simp] theorem n23_4 (a0 : Int) (a1 : Int) (a2 : Int) (a3 : Int) (a4 : Int) (a5 : Int) (a6 : Int) (a7 : Int) : nthV (c23 a0 a1 a2 a3 a4 a5 a6 a7) 4 = .int .u32 a4 := rfl
@[simp] theorem n23_5 (a0 : Int) (a1 : Int) (a2 : Int) (a3 : Int) (a4 : Int) (a5 : Int) (a6 : Int) (a7 : Int) : nthV (c23 a0 a1 a2 a3 a4 a5 a6 a7) 5 = .int .u32 a5 := rfl
@[simp] theorem n23_6 (a0 : Int) (a1 : Int) (a2 : Int) (a3 : Int) (a4 : Int) (a5 : Int) (a6 : Int) (a7 : Int) : nthV (c23 a0 a1 a2 a3 a4 a5 a6 a7) 6 = .int .u32 a6 := rfl
@[simp] theorem n23_7 (a0 : Int) (a1 : Int) (a2 : Int) (a3 : Int) (a4 : Int) (a5 : Int) (a6 : Int) (a7 : Int) : nthV (c23 a0 a1 a2 a3 a4 a5 a6 a7) 7 = .int .u32 a7 := rfl
def k24 : List Kind := [.int .u32, .int .u32, .int .u32, .int .u32, .int .u32, .int .u32, .int .u32, .int .u32, .int .u8, .int .i64, .int .u32, .bool]
def c24 (a0 : Int) (a1 : Int) (a2 : Int) (a3 : Int) (a4 : Int) (a5 : Int) (a6 : Int) (a7 : Int) (a8 : Int) (a9 : Int) (a10 : Int) (a11 : Bool) : List V := [.int .u32 a0, .int .u32 a1, .int .u32 a2, .int .u32 a3, .int .u32 a4, .int .u32 a5, .int .u32 a6, .int .u32 a7, .int .u8 a8, .int .i64 a9, .int .u32 a10, .bool a11]
def o24 (l : List V) : List V := c24 (nthV l 0).getInt (nthV l 1).getInt (nthV l 2).getInt (nthV l 3).getInt (nthV l 4).getInt (nthV l 5).getInt (nthV l 6).getInt (nthV l 7).getInt (nthV l 8).getInt (nthV l 9).getInt (nthV l 10).getInt (nthV l 11).getBool
@[simp] theorem f24 (a0 : Int) (a1 : Int) (a2 : Int) (a3 : Int) (a4 : Int) (a5 : Int) (a6 : Int) (a7 : Int) (a8 : Int) (a9 : Int) (a10 : Int) (a11 : Bool) : Am.fits k24 (c24 a0 a1 a2 a3 a4 a5 a6 a7 a8 a9 a10 a11) = true := rfl
@[simp] theorem oc24 (a0 : Int) (a1 : Int) (a2 : Int) (a3 : Int) (a4 : Int) (a5 : Int) (a6 : Int) (a7 : Int) (a8 : Int) (a9 : Int) (a10 : Int) (a11 : Bool) : o24 (c24 a0 a1 a2 a3 a4 a5 a6 a7 a8 a9 a10 a11) = c24 a0 a1 a2 a3 a4 a5 a6 a7 a8 a9 a10 a11 := rfl
@[simp] theorem n24_0 (a0 : Int) (a1 : Int) (a2 : Int) (a3 : Int) (a4 : Int) (a5 : Int) (a6 : Int) (a7 : Int) (a8 : Int) (a9 : Int) (a10 : Int) (a11 : Bool) : nthV (c24 a0 a1 a2 a3 a4 a5 a6 a7 a8 a9 a10 a11) 0 = .int .u32 a0 := rfl
@[simp] theorem n24_1 (a0 : Int) (a1 : Int) (a2 : Int) (a3 : Int) (a4 : Int) (a5 : Int) (a6 : Int) (a7 : Int) (a8 : Int) (a9 : Int) (a10 : Int) (a11 : Bool) : nthV (c24 a0 a1 a2 a3 a4 a5 a6 a7 a8 a9 a10 a11) 1 = .int .u32 a1 := rfl
@[simp] theorem n24_2 (a0 : Int) (a1 : Int) (a2 : Int) (a3 : Int) (a4 : Int) (a5 : Int) (a6 : Int) (a7 : Int) (a8 : Int) (a9 : Int) (a10 : Int) (a11 : Bool) : nthV (c24 a0 a1 a2 a3 a4 a5 a6 a7 a8 a9 a10 a11) 2 = .int .u32 a2 := rfl
@[simp] theorem n24_3 (a0 : Int) (a1 : Int) (a2 : Int) (a3 : Int) (a4 : Int) (a5 : Int) (a6 : Int) (a7 : Int) (a8 : Int) (a9 : Int) (a10 : Int) (a11 : Bool) : nthV (c24 a0 a1 a2 a3 a4 a5 a6 a7 a8 a9 a10 a11) 3 = .int .u32 a3 := rfl
@[simp] theorem n24_4 (a0 : Int) (a1 : Int) (a2 : Int) (a3 : Int) (a4 : Int) (a5 : Int) (a6 : Int) (a7 : Int) (a8 : Int) (a9 : Int) (a10 : Int) (a11 : Bool) : nthV (c24 a0 a1 a2 a3 a4 a5 a6 a7 a8 a9 a10 a11) 4 = .int .u32 a4 := rfl
@[simp] theorem n24_5 (a0 : Int) (a1 : Int) (a2 : Int) (a3 : Int) (a4 : Int) (a5 : Int) (a6 : Int) (a7 : Int) (a8 : Int) (a9 : Int) (a10 : Int) (a11 : Bool) : nthV (c24 a0 a1 a2 a3 a4 a5 a6 a7 a8 a9 a10 a11) 5 = .int .u32 a5 := rfl
@[simp] theorem n24_6 (a0 : Int) (a1 : Int) (a2 : Int) (a3 : Int) (a4 : Int) (a5 : Int) (a6 : Int) (a7 : Int) (a8 : Int) (a9 : Int) (a10 : Int) (a11 : Bool) : nthV (c24 a0 a1 a2 a3 a4 a5 a6 a7 a8 a9 a10 a11) 6 = .int .u32 a6 := rfl
@[simp] theorem n24_7 (a0 : Int) (a1 : Int) (a2 : Int) (a3 : Int) (a4 : Int) (a5 : Int) (a6 : Int) (a7 : Int) (a8 : Int) (a9 : Int) (a10 : Int) (a11 : Bool) : nthV (c24 a0 a1 a2 a3 a4 a5 a6 a7 a8 a9 a10 a11) 7 = .int .u32 a7 := rfl
@[simp] theorem n24_8 (a0 : Int) (a1 : Int) (a2 : Int) (a3 : Int) (a4 : Int) (a5 : Int) (a6 : Int) (a7 : Int) (a8 : Int) (a9 : Int) (a10 : Int) (a11 : Bool) : nthV (c24 a0 a1 a2 a3 a4 a5 a6 a7 a8 a9 a10 a11) 8 = .int .u8 a8 := rfl
@[simp] theorem n24_9 (a0 : Int) (a1 : Int) (a2 : Int) (a3 : Int) (a4 : Int) (a5 : Int) (a6 : Int) (a7 : Int) (a8 : Int) (a9 : Int) (a10 : Int) (a11 : Bool) : nthV (c24 a0 a1 a2 a3 a4 a5 a6 a7 a8 a9 a10 a11) 9 = .int .i64 a9 := rfl
@[simp] theorem n24_10 (a0 : Int) (a1 : Int) (a2 : Int) (a3 : Int) (a4 : Int) (a5 : Int) (a6 : Int) (a7 : Int) (a8 : Int) (a9 : Int) (a10 : Int) (a11 : Bool) : nthV (c24 a0 a1 a2 a3 a4 a5 a6 a7 a8 a9 a10 a11) 10 = .int .u32 a10 := rfl
@[simp] theorem n24_11 (a0 : Int) (a1 : Int) (a2 : Int) (a3 : Int) (a4 : Int) (a5 : Int) (a6 : Int) (a7 : Int) (a8 : Int) (a9 : Int) (a10 : Int) (a11 : Bool) : nthV (c24 a0 a1 a2 a3 a4 a5 a6 a7 a8 a9 a10 a11) 11 = .bool a11 := rfl
def k41 : List Kind := [.int .i64, .slice, .bool]
def c41 (a0 : Int) (a1p : Option (Nat × Nat)) (a1n : Nat) (a1c : Nat) (a2 : Bool) : List V := [.int .i64 a0, .slice a1p a1n a1c, .bool a2]
def o41 (l : List V) : List V := c41 (nthV l 0).getInt (nthV l 1).slPtr (nthV l 1).slLen (nthV l 1).slCap (nthV l 2).getBool
@[simp] theorem f41 (a0 : Int) (a1p : Option (Nat × Nat)) (a1n : Nat) (a1c : Nat) (a2 : Bool) : Am.fits k41 (c41 a0 a1p a1n a1c a2) = true := rfl
@[simp] theorem oc41 (a0 : Int) (a1p : Option (Nat × Nat)) (a1n : Nat) (a1c : Nat) (a2 : Bool) : o41 (c41 a0 a1p a1n a1c a2) = c41 a0 a1p a1n a1c a2 := rfl
@[simp] theorem n41_0 (a0 : Int) (a1p : Option (Nat × Nat)) (a1n : Nat) (a1c : Nat) (a2 : Bool) : nthV (c41 a0 a1p a1n a1c a2) 0 = .int .i64 a0 := rfl
@[simp] theorem n41_1 (a0 : Int) (a1p : Option (Nat × Nat)) (a1n : Nat) (a1c : Nat) (a2 : Bool) : nthV (c41 a0 a1p a1n a1c a2) 1 = .slice a1p a1n a1c := rfl
@[simp] theorem n41_2 (a0 : Int) (a1p : Option (Nat × Nat)) (a1n : Nat) (a1c : Nat) (a2 : Bool) : nthV (c41 a0 a1p a1n a1c a2) 2 = .bool a2 := rfl
def k58 : List Kind := [.int .u8, .int .i64, .slice, .bool, .bool]
def c58 (a0 : Int) (a1 : Int) (a2p : Option (Nat × Nat)) (a2n : Nat) (a2c : Nat) (a3 : Bool) (a4 : Bool) : List V := [.int .u8 a0, .int .i64 a1, .slice a2p a2n a2c, .bool a3, .bool a4]
def o58 (l : List V) : List V := c58 (nthV l 0).getInt (nthV l 1).getInt (nthV l 2).slPtr (nthV l 2).slLen (nthV l 2).slCap (nthV l 3).getBool (nthV l 4).getBool
@[simp] theorem f58 (a0 : Int) (a1 : Int) (a2p : Option (Nat × Nat)) (a2n : Nat) (a2c : Nat) (a3 : Bool) (a4 : Bool) : Am.fits k58 (c58 a0 a1 a2p a2n a2c a3 a4) = true := rfl
@[simp] theorem oc58 (a0 : Int) (a1 : Int) (a2p : Option (Nat × Nat)) (a2n : Nat) (a2c : Nat) (a3 : Bool) (a4 : Bool) : o58 (c58 a0 a1 a2p a2n a2c a3 a4) = c58 a0 a1 a2p a2n a2c a3 a4 := rfl
@[simp] theorem n58_0 (a0 : Int) (a1 : Int) (a2p : Option (Nat × Nat)) (a2n : Nat) (a2c : Nat) (a3 : Bool) (a4 : Bool) : nthV (c58 a0 a1 a2p a2n a2c a3 a4) 0 = .int .u8 a0 := rfl
@[simp] theorem n58_1 (a0 : Int) (a1 : Int) (a2p : Option (Nat × Nat)) (a2n : Nat) (a2c : Nat) (a3 : Bool) (a4 : Bool) : nthV (c58 a0 a1 a2p a2n a2c a3 a4) 1 = .int .i64 a1 := rfl
@[simp] theorem n58_2 (a0 : Int) (a1 : Int) (a2p : Option (Nat × Nat)) (a2n : Nat) (a2c : Nat) (a3 : Bool) (a4 : Bool) : nthV (c58 a0 a1 a2p a2n a2c a3 a4) 2 = .slice a2p a2n a2c := rfl
@[simp] theorem n58_3 (a0 : Int) (a1 : Int) (a2p : Option (Nat × Nat)) (a2n : Nat) (a2c : Nat) (a3 : Bool) (a4 : Bool) : nthV (c58 a0 a1 a2p a2n a2c a3 a4) 3 = .bool a3 := rfl
@[simp] theorem n58_4 (a0 : Int) (a1 : Int) (a2p : Option (Nat × Nat)) (a2n : Nat) (a2c : Nat) (a3 : Bool) (a4 : Bool) : nthV (c58 a0 a1 a2p a2n a2c a3 a4) 4 = .bool a4 := rfl
def k67 : List Kind := [.int .u8, .int .i64, .slice, .bool, .int .u32, .int .u32, .int .u8, .bool]
def c67 (a0 : Int) (a1 : Int) (a2p : Option (Nat × Nat)) (a2n : Nat) (a2c : Nat) (a3 : Bool) (a4 : Int) (a5 : Int) (a6 : Int) (a7 : Bool) : List V := [.int .u8 a0, .int .i64 a1, .slice a2p a2n a2c, .bool a3, .int .u32 a4, .int .u32 a5, .int .u8 a6, .bool a7]
def o67 (l : List V) : List V := c67 (nthV l 0).getInt (nthV l 1).getInt (nthV l 2).slPtr (nthV l 2).slLen (nthV l 2).slCap (nthV l 3).getBool (nthV l 4).getInt (nthV l 5).getInt (nthV l 6).getInt (nthV l 7).getBool
@[simp] theorem f67 (a0 : Int) (a1 : Int) (a2p : Option (Nat × Nat)) (a2n : Nat) (a2c : Nat) (a3 : Bool) (a4 : Int) (a5 : Int) (a6 : Int) (a7 : Bool) : Am.fits k67 (c67 a0 a1 a2p a2n a2c a3 a4 a5 a6 a7) = true := rfl
@[simp] theorem oc67 (a0 : Int) (a1 : Int) (a2p : Option (Nat × Nat)) (a2n : Nat) (a2c : Nat) (a3 : Bool) (a4 : Int) (a5 : Int) (a6 : Int) (a7 : Bool) : o67 (c67 a0 a1 a2p a2n a2c a3 a4 a5 a6 a7) = c67 a0 a1 a2p a2n a2c a3 a4 a5 a6 a7 := rfl
@[simp] theorem n67_0 (a0 : Int) (a1 : Int) (a2p : Option (Nat × Nat)) (a2n : Nat) (a2c : Nat) (a3 : Bool) (a4 : Int) (a5 : Int) (a6 : Int) (a7 : Bool) : nthV (c67 a0 a1 a2p a2n a2c a3 a4 a5 a6 a7) 0 = .int .u8 a0 := rfl
@[simp] theorem n67_1 (a0 : Int) (a1 : Int) (a2p : Option (Nat × Nat)) (a2n : Nat) (a2c : Nat) (a3 : Bool) (a4 : Int) (a5 : Int) (a6 : Int) (a7 : Bool) : nthV (c67 a0 a1 a2p a2n a2c a3 a4 a5 a6 a7) 1 = .int .i64 a1 := rfl
@[simp] theorem n67_2 (a0 : Int) (a1 : Int) (a2p : Option (Nat × Nat)) (a2n : Nat) (a2c : Nat) (a3 : Bool) (a4 : Int) (a5 : Int) (a6 : Int) (a7 : Bool) : nthV (c67 a0 a1 a2p a2n a2c a3 a4 a5 a6 a7) 2 = .slice a2p a2n a2c := rfl
@[simp] theorem n67_3 (a0 : Int) (a1 : Int) (a2p : Option (Nat × Nat)) (a2n : Nat) (a2c : Nat) (a3 : Bool) (a4 : Int) (a5 : Int) (a6 : Int) (a7 : Bool) : nthV (c67 a0 a1 a2p a2n a2c a3 a4 a5 a6 a7) 3 = .bool a3 := rfl
@[simp] theorem n67_4 (a0 : Int) (a1 : Int) (a2p : Option (Nat × Nat)) (a2n : Nat) (a2c : Nat) (a3 : Bool) (a4 : Int) (a5 : Int) (a6 : Int) (a7 : Bool) : nthV (c67 a0 a1 a2p a2n a2c a3 a4 a5 a6 a7) 4 = .int .u32 a4 := rfl
@[simp] theorem n67_5 (a0 : Int) (a1 : Int) (a2p : Option (Nat × Nat)) (a2n : Nat) (a2c : Nat) (a3 : Bool) (a4 : Int) (a5 : Int) (a6 : Int) (a7 : Bool) : nthV (c67 a0 a1 a2p a2n a2c a3 a4 a5 a6 a7) 5 = .int .u32 a5 := rfl
@[simp] theorem n67_6 (a0 : Int) (a1 : Int) (a2p : Option (Nat × Nat)) (a2n : Nat) (a2c : Nat) (a3 : Bool) (a4 : Int) (a5 : Int) (a6 : Int) (a7 : Bool) : nthV (c67 a0 a1 a2p a2n a2c a3 a4 a5 a6 a7) 6 = .int .u8 a6 := rfl
@[simp] theorem n67_7 (a0 : Int) (a1 : Int) (a2p : Option (Nat × Nat)) (a2n : Nat) (a2c : Nat) (a3 : Bool) (a4 : Int) (a5 : Int) (a6 : Int) (a7 : Bool) : nthV (c67 a0 a1 a2p a2n a2c a3 a4 a5 a6 a7) 7 = .bool a7 := rfl
def k85 : List Kind := [.int .u8, .int .u8, .int .u8, .int .u8, .int .u8, .int .u8]
def c85 (a0 : Int) (a1 : Int) (a2 : Int) (a3 : Int) (a4 : Int) (a5 : Int) : List V := [.int .u8 a0, .int .u8 a1, .int .u8 a2, .int .u8 a3, .int .u8 a4, .int .u8 a5]
def o85 (l : List V) : List V := c85 (nthV l 0).getInt (nthV l 1).getInt (nthV l 2).getInt (nthV l 3).getInt (nthV l 4).getInt (nthV l 5).getInt
@[simp] theorem f85 (a0 : Int) (a1 : Int) (a2 : Int) (a3 : Int) (a4 : Int) (a5 : Int) : Am.fits k85 (c85 a0 a1 a2 a3 a4 a5) = true := rfl
@[simp] theorem oc85 (a0 : Int) (a1 : Int) (a2 : Int) (a3 : Int) (a4 : Int) (a5 : Int) : o85 (c85 a0 a1 a2 a3 a4 a5) = c85 a0 a1 a2 a3 a4 a5 := rfl
@[simp] theorem n85_0 (a0 : Int) (a1 : Int) (a2 : Int) (a3 : Int) (a4 : Int) (a5 : Int) : nthV (c85 a0 a1 a2 a3 a4 a5) 0 = .int .u8 a0 := rfl
@[simp] theorem n85_1 (a0 : Int) (a1 : Int) (a2 : Int) (a3 : Int) (a4 : Int) (a5 : Int) : nthV (c85 a0 a1 a2 a3 a4 a5) 1 = .int .u8 a1 := rfl
@[simp] theorem n85_2 (a0 : Int) (a1 : Int) (a2 : Int) (a3 : Int) (a4 : Int) (a5 : Int) : nthV (c85 a0 a1 a2 a3 a4 a5) 2 = .int .u8 a2 := rfl
@[simp] theorem n85_3 (a0 : Int) (a1 : Int) (a2 : Int) (a3 : Int) (a4 : Int) (a5 : Int) : nthV (c85 a0 a1 a2 a3 a4 a5) 3 = .int .u8 a3 := rfl
@[simp] theorem n85_4 (a0 : Int) (a1 : Int) (a2 : Int) (a3 : Int) (a4 : Int) (a5 : Int) : nthV (c85 a0 a1 a2 a3 a4 a5) 4 = .int .u8 a4 := rfl
@[simp] theorem n85_5 (a0 : Int) (a1 : Int) (a2 : Int) (a3 : Int) (a4 : Int) (a5 : Int) : nthV (c85 a0 a1 a2 a3 a4 a5) 5 = .int .u8 a5 := rfl
def k91 : List Kind := [.slice, .bool]
def c91 (a0p : Option (Nat × Nat)) (a0n : Nat) (a0c : Nat) (a1 : Bool) : List V := [.slice a0p a0n a0c, .bool a1]
def o91 (l : List V) : List V := c91 (nthV l 0).slPtr (nthV l 0).slLen (nthV l 0).slCap (nthV l 1).getBool
@[simp] theorem f91 (a0p : Option (Nat × Nat)) (a0n : Nat) (a0c : Nat) (a1 : Bool) : Am.fits k91 (c91 a0p a0n a0c a1) = true := rfl
@[simp] theorem oc91 (a0p : Option (Nat × Nat)) (a0n : Nat) (a0c : Nat) (a1 : Bool) : o91 (c91 a0p a0n a0c a1) = c91 a0p a0n a0c a1 := rfl
@[simp] theorem n91_0 (a0p : Option (Nat × Nat)) (a0n : Nat) (a0c : Nat) (a1 : Bool) : nthV (c91 a0p a0n a0c a1) 0 = .slice a0p a0n a0c := rfl
@[simp] theorem n91_1 (a0p : Option (Nat × Nat)) (a0n : Nat) (a0c : Nat) (a1 : Bool) : nthV (c91 a0p a0n a0c a1) 1 = .bool a1 := rfl
def k97 : List Kind := [.ptr, .ptr, .ptr, .str]
def c97 (a0 : Option (Nat × Nat)) (a1 : Option (Nat × Nat)) (a2 : Option (Nat × Nat)) (a3 : ByteArray) : List V := [.ptr a0, .ptr a1, .ptr a2, .str a3]
def o97 (l : List V) : List V := c97 (nthV l 0).getPtr (nthV l 1).getPtr (nthV l 2).getPtr (nthV l 3).getStr
@[simp] theorem f97 (a0 : Option (Nat × Nat)) (a1 : Option (Nat × Nat)) (a2 : Option (Nat × Nat)) (a3 : ByteArray) : Am.fits k97 (c97 a0 a1 a2 a3) = true := rfl
@[simp] theorem oc97 (a0 : Option (Nat × Nat)) (a1 : Option (Nat × Nat)) (a2 : Option (Nat × Nat)) (a3 : ByteArray) : o97 (c97 a0 a1 a2 a3) = c97 a0 a1 a2 a3 := rfl
@[simp] theorem n97_0 (a0 : Option (Nat × Nat)) (a1 : Option (Nat × Nat)) (a2 : Option (Nat × Nat)) (a3 : ByteArray) : nthV (c97 a0 a1 a2 a3) 0 = .ptr a0 := rfl
@[simp] theorem n97_1 (a0 : Option (Nat × Nat)) (a1 : Option (Nat × Nat)) (a2 : Option (Nat × Nat)) (a3 : ByteArray) : nthV (c97 a0 a1 a2 a3) 1 = .ptr a1 := rfl
@[simp] theorem n97_2 (a0 : Option (Nat × Nat)) (a1 : Option (Nat × Nat)) (a2 : Option (Nat × Nat)) (a3 : ByteArray) : nthV (c97 a0 a1 a2 a3) 2 = .ptr a2 := rfl
@[simp] theorem n97_3 (a0 : Option (Nat × Nat)) (a1 : Option (Nat × Nat)) (a2 : Option (Nat × Nat)) (a3 : ByteArray) : nthV (c97 a0 a1 a2 a3) 3 = .str a3 := rfl
def k108 : List Kind := [.int .u64, .int .u64, .int .u32, .int .u8, .int .u8, .int .u8, .int .u8, .func, .ptr, .int .i32, .int .i32]
def c108 (a0 : Int) (a1 : Int) (a2 : Int) (a3 : Int) (a4 : Int) (a5 : Int) (a6 : Int) (a7 : V) (a8 : Option (Nat × Nat)) (a9 : Int) (a10 : Int) : List V := [.int .u64 a0, .int .u64 a1, .int .u32 a2, .int .u8 a3, .int .u8 a4, .int .u8 a5, .int .u8 a6, a7, .ptr a8, .int .i32 a9, .int .i32 a10]
def o108 (l : List V) : List V := c108 (nthV l 0).getInt (nthV l 1).getInt (nthV l 2).getInt (nthV l 3).getInt (nthV l 4).getInt (nthV l 5).getInt (nthV l 6).getInt (nthV l 7) (nthV l 8).getPtr (nthV l 9).getInt (nthV l 10).getInt
@[simp] theorem n108_0 (a0 : Int) (a1 : Int) (a2 : Int) (a3 : Int) (a4 : Int) (a5 : Int) (a6 : Int) (a7 : V) (a8 : Option (Nat × Nat)) (a9 : Int) (a10 : Int) : nthV (c108 a0 a1 a2 a3 a4 a5 a6 a7 a8 a9 a10) 0 = .int .u64 a0 := rfl
@[simp] theorem n108_1 (a0 : Int) (a1 : Int) (a2 : Int) (a3 : Int) (a4 : Int) (a5 : Int) (a6 : Int) (a7 : V) (a8 : Option (Nat × Nat)) (a9 : Int) (a10 : Int) : nthV (c108 a0 a1 a2 a3 a4 a5 a6 a7 a8 a9 a10) 1 = .int .u64 a1 := rfl
@[simp] theorem n108_2 (a0 : Int) (a1 : Int) (a2 : Int) (a3 : Int) (a4 : Int) (a5 : Int) (a6 : Int) (a7 : V) (a8 : Option (Nat × Nat)) (a9 : Int) (a10 : Int) : nthV (c108 a0 a1 a2 a3 a4 a5 a6 a7 a8 a9 a10) 2 = .int .u32 a2 := rfl
@[simp] theorem n108_3 (a0 : Int) (a1 : Int) (a2 : Int) (a3 : Int) (a4 : Int) (a5 : Int) (a6 : Int) (a7 : V) (a8 : Option (Nat × Nat)) (a9 : Int) (a10 : Int) : nthV (c108 a0 a1 a2 a3 a4 a5 a6 a7 a8 a9 a10) 3 = .int .u8 a3 := rfl
@[simp] theorem n108_4 (a0 : Int) (a1 : Int) (a2 : Int) (a3 : Int) (a4 : Int) (a5 : Int) (a6 : Int) (a7 : V) (a8 : Option (Nat × Nat)) (a9 : Int) (a10 : Int) : nthV (c108 a0 a1 a2 a3 a4 a5 a6 a7 a8 a9 a10) 4 = .int .u8 a4 := rfl
@[simp] theorem n108_5 (a0 : Int) (a1 : Int) (a2 : Int) (a3 : Int) (a4 : Int) (a5 : Int) (a6 : Int) (a7 : V) (a8 : Option (Nat × Nat)) (a9 : Int) (a10 : Int) : nthV (c108 a0 a1 a2 a3 a4 a5 a6 a7 a8 a9 a10) 5 = .int .u8 a5 := rfl
@[simp] theorem n108_6 (a0 : Int) (a1 : Int) (a2 : Int) (a3 : Int) (a4 : Int) (a5 : Int) (a6 : Int) (a7 : V) (a8 : Option (Nat × Nat)) (a9 : Int) (a10 : Int) : nthV (c108 a0 a1 a2 a3 a4 a5 a6 a7 a8 a9 a10) 6 = .int .u8 a6 := rfl
@[simp] theorem n108_7 (a0 : Int) (a1 : Int) (a2 : Int) (a3 : Int) (a4 : Int) (a5 : Int) (a6 : Int) (a7 : V) (a8 : Option (Nat × Nat)) (a9 : Int) (a10 : Int) : nthV (c108 a0 a1 a2 a3 a4 a5 a6 a7 a8 a9 a10) 7 = a7 := rfl
@[simp] theorem n108_8 (a0 : Int) (a1 : Int) (a2 : Int) (a3 : Int) (a4 : Int) (a5 : Int) (a6 : Int) (a7 : V) (a8 : Option (Nat × Nat)) (a9 : Int) (a10 : Int) : nthV (c108 a0 a1 a2 a3 a4 a5 a6 a7 a8 a9 a10) 8 = .ptr a8 := rfl
@[simp] theorem n108_9 (a0 : Int) (a1 : Int) (a2 : Int) (a3 : Int) (a4 : Int) (a5 : Int) (a6 : Int) (a7 : V) (a8 : Option (Nat × Nat)) (a9 : Int) (a10 : Int) : nthV (c108 a0 a1 a2 a3 a4 a5 a6 a7 a8 a9 a10) 9 = .int .i32 a9 := rfl
@[simp] theorem n108_10 (a0 : Int) (a1 : Int) (a2 : Int) (a3 : Int) (a4 : Int) (a5 : Int) (a6 : Int) (a7 : V) (a8 : Option (Nat × Nat)) (a9 : Int) (a10 : Int) : nthV (c108 a0 a1 a2 a3 a4 a5 a6 a7 a8 a9 a10) 10 = .int .i32 a10 := rfl
def eqs : List (TypeId × List Kind) := [(25, [.int .u32, .int .u32, .int .u32, .int .u32, .int .u32, .int .u32, .int .u32, .int .u32, .int .u8, .int .i64, .int .u32, .bool]), (23, [.int .u32, .int .u32, .int .u32, .int .u32, .int .u32, .int .u32, .int .u32, .int .u32])]
theorem eqs_ok : eqs.all (fun x => eqOk Try.prog x.1 x.2) = true := by kernel_rfl
theorem names_ok : Try.prog.funcs.toList.all (fun fn => !(fn.name == "runtime.NumGoroutine")) = true := by kernel_rfl
def ann2 : Ann := { locals := [], base := [], keeps := [], blocks := [] }
def ann3 : Ann := { locals := [3, 7], base := [(3, 3), (7, 7)], keeps := [], blocks := [] }
def ann4 : Ann := { locals := [4, 5, 9, 10], base := [(4, 4), (5, 5), (9, 9), (10, 10)], keeps := [(3, { inT := [11], inL := [], mg := true, wT := [16, 17, 18, 19, 20, 21, 22, 23], wL := [] }), (4, { inT := [], inL := [], outT := [(8, .k (.bool))], outL := [], retT := [], retL := [], exits := [], dl := true, wT := [8, 24, 25, 26, 27, 28, 29, 30, 31, 32, 33, 34, 35, 36, 37, 38, 39, 40, 41, 42, 43, 44, 45, 46, 47, 48], wL := [] })], blocks := [] }
def ann5 : Ann := { locals := [1], base := [(1, 1)], keeps := [], blocks := [] }
def ann6 : Ann := { locals := [9], base := [(9, 9), (46, 9), (50, 9)], keeps := [(1, { inT := [22], inL := [], mg := true, wT := [11, 12, 13, 14, 15, 16, 17, 18, 19, 20, 21], wL := [] })], blocks := [] }
def ann7 : Ann := { locals := [2, 5, 8], base := [(2, 2), (5, 5), (8, 8)], keeps := [(8, { inT := [], inL := [], outT := [(4, .k (.bool))], outL := [], retT := [], retL := [], exits := [], dl := true, wT := [4, 27, 28, 29, 30, 31, 32, 33, 34, 35, 36, 37, 38, 39, 40, 41, 42, 43, 44, 45, 46, 47], wL := [] })], blocks := [] }
def ann8 : Ann := { locals := [6, 9], base := [(6, 6), (9, 9)], keeps := [(1, { inT := [18], inL := [], mg := true, wT := [12, 13, 14, 15, 16, 17], wL := [] }), (6, { inT := [1, 5], inL := [], outT := [(5, .k (.slice))], outL := [], retT := [], retL := [], exits := [0] }), (7, { inT := [28], inL := [], mg := true, wT := [23, 24, 25, 26, 27], wL := [] }), (12, { inT := [4], inL := [], mg := true, wT := [44, 45, 46, 47, 48, 49, 50, 51, 52, 53, 54, 55, 56, 57, 58, 59, 60, 61, 62, 63, 64], wL := [] })], blocks := [] }
def ann9 : Ann := { locals := [4, 10, 13], base := [(4, 4), (10, 10), (13, 13)], keeps := [(1, { inT := [22], inL := [], mg := true, wT := [16, 17, 18, 19, 20, 21], wL := [] }), (7, { inT := [8], inL := [], mg := true, wT := [48, 49, 50, 51, 52, 53, 54, 55, 56, 57, 58, 59, 60, 61, 62, 63, 64, 65], wL := [] })], blocks := [] }
def ann10 : Ann := { locals := [], base := [], keeps := [(1, { inT := [16], inL := [], mg := true, wT := [10, 11, 12, 13, 14, 15], wL := [] }), (7, { inT := [1, 5, 6, 7], inL := [], outT := [(1, .k (.slice)), (5, .k (.ptr)), (6, .k (.int .i64))], outL := [], retT := [(4, .k (.bool))], retL := [], exits := [0] }), (15, { inT := [1, 5, 6, 8], inL := [], outT := [(5, .k (.ptr)), (6, .k (.int .i64))], outL := [], retT := [(4, .k (.bool))], retL := [], exits := [2] })], blocks := [] }
def ann11 : Ann := { locals := [6, 12, 16, 18], base := [(6, 6), (42, 6), (47, 6), (61, 6), (69, 6), (85, 6), (103, 6), (123, 6), (127, 6), (134, 6), (12, 12), (105, 12), (16, 16), (18, 18)], keeps := [(7, { inT := [0, 3, 4, 5], inL := [], outT := [(3, .k (.ptr))], outL := [], retT := [(2, .k (.bool))], retL := [], exits := [0] }), (8, { inT := [29], inL := [], mg := true, wT := [22, 23, 24, 25, 26, 27, 28], wL := [] }), (12, { inT := [], inL := [], outT := [], outL := [(6, 42, [.int .i64, .slice, .bool])], retT := [], retL := [], exits := [], dl := true, wT := [42, 43, 44, 45, 46, 47], wL := [6] }), (17, { inT := [0, 3, 4, 5, 6, 7, 8, 9], inL := [6], outT := [(0, .k (.slice)), (3, .k (.ptr)), (4, .k (.slice)), (5, .k (.int .i64)), (6, .lp 6), (7, .k (.int .i64)), (8, .k (.bool))], outL := [(6, 42, [.int .i64, .slice, .bool])], retT := [], retL := [], exits := [2] }), (21, { inT := [], inL := [], outT := [(8, .k (.bool))], outL := [], retT := [], retL := [], exits := [], dl := true, wT := [8], wL := [] }), (23, { inT := [76], inL := [], mg := true, wT := [64, 65, 66, 67, 68, 69, 70, 71, 72, 73, 74, 75], wL := [] }), (28, { inT := [], inL := [], outT := [(4, .k (.slice))], outL := [], retT := [], retL := [], exits := [], dl := true, wT := [2, 4, 10, 11, 12, 13, 85, 86, 87, 88, 89, 90, 91, 92, 93, 94, 95, 96, 97, 98, 99, 100, 101, 102, 103, 104, 105, 106, 107, 108, 109, 110, 111, 112, 113, 114, 115, 116, 117, 118, 119, 120, 121, 122, 123, 124, 125, 126, 127, 128, 129, 130, 131, 132, 133, 134, 135, 136, 137, 138, 139, 140, 141, 142, 143, 144, 145, 146, 147, 148, 149, 150, 151, 152, 153], wL := [12] }), (38, { inT := [], inL := [], outT := [], outL := [(12, 42, [.int .i64, .slice, .bool])], retT := [], retL := [], exits := [], dl := true, wT := [105], wL := [12] }), (40, { inT := [122], inL := [], mg := true, wT := [123, 124, 125, 126, 127, 128, 129, 130], wL := [] }), (69, { inT := [], inL := [], outT := [(165, .k (.bool))], outL := [], retT := [], retL := [], exits := [], dl := true, wT := [155, 156, 157, 158, 159, 160, 161, 162, 163, 164, 165], wL := [] }), (73, { inT := [0, 3, 4, 5, 14, 15], inL := [], outT := [(0, .k (.slice)), (3, .k (.ptr)), (4, .k (.slice)), (5, .k (.int .i64))], outL := [], retT := [(2, .k (.bool))], retL := [], exits := [5] })], blocks := [] }
def ann12 : Ann := { locals := [7, 10, 13], base := [(7, 7), (48, 7), (50, 7), (10, 10), (88, 10), (13, 13)], keeps := [(1, { inT := [26], inL := [], mg := true, wT := [15, 16, 17, 18, 19, 20, 21, 22, 23, 24, 25], wL := [] })], blocks := [] }
def ann13 : Ann := { locals := [3, 6], base := [(3, 3), (11, 3), (15, 3), (6, 6)], keeps := [], blocks := [] }
def ann14 : Ann := { locals := [1], base := [(1, 1)], keeps := [], blocks := [] }
def ann15 : Ann := { locals := [3, 6], base := [(3, 3), (11, 3), (19, 3), (6, 6)], keeps := [(1, { inT := [14], inL := [], mg := true, wT := [7, 8, 9, 10, 11, 12, 13], wL := [] })], blocks := [] }
def ann16 : Ann := { locals := [1, 2], base := [(1, 1), (9, 1), (10, 1), (14, 1), (17, 1), (24, 1), (25, 1), (30, 1), (31, 1), (35, 1), (36, 1), (37, 1), (41, 1), (2, 2)], keeps := [(13, { inT := [], inL := [], outT := [], outL := [(1, 25, [.int .u32, .int .u32, .int .u32, .int .u32, .int .u32, .int .u32, .int .u32, .int .u32, .int .u8, .int .i64, .int .u32, .bool])], retT := [], retL := [], exits := [], dl := true, wT := [34, 35, 36], wL := [1] })], blocks := [] }
def ann17 : Ann := { locals := [2], base := [(2, 2), (9, 2), (20, 2), (24, 2), (29, 2), (32, 2)], keeps := [(3, { inT := [1, 2, 5, 10, 11], inL := [2], outT := [(1, .k (.int .i64)), (2, .lp 2), (5, .k (.slice))], outL := [(2, 25, [.int .u32, .int .u32, .int .u32, .int .u32, .int .u32, .int .u32, .int .u32, .int .u32, .int .u8, .int .i64, .int .u32, .bool])], retT := [], retL := [], exits := [0] }), (12, { inT := [], inL := [], outT := [(8, .k (.int .u64))], outL := [], retT := [], retL := [], exits := [], dl := true, wT := [8], wL := [] })], blocks := [] }
def ann18 : Ann := { locals := [0], base := [(0, 0)], keeps := [], blocks := [] }
def ann19 : Ann := { locals := [1], base := [(1, 1), (12, 1), (13, 1), (17, 1), (21, 1), (27, 1), (33, 1), (37, 1), (42, 1), (47, 1), (49, 1), (50, 1)], keeps := [(3, { inT := [1, 3, 4], inL := [1], outT := [(1, .lp 1), (3, .k (.bool))], outL := [(1, 25, [.int .u32, .int .u32, .int .u32, .int .u32, .int .u32, .int .u32, .int .u32, .int .u32, .int .u8, .int .i64, .int .u32, .bool])], retT := [], retL := [], exits := [0] }), (6, { inT := [3], inL := [], mg := true, wT := [9, 10, 11, 12, 13, 14, 15, 16], wL := [] }), (13, { inT := [], inL := [], outT := [(24, .k (.bool))], outL := [], retT := [], retL := [], exits := [], dl := true, wT := [24, 26], wL := [] }), (16, { inT := [2], inL := [], mg := true, wT := [27, 28, 29, 30, 31, 32], wL := [] }), (17, { inT := [2], inL := [], mg := true, wT := [33, 34, 35, 36, 37, 38, 39, 40, 41, 42, 43, 44, 45, 46, 47, 48, 49, 50, 51, 52, 53], wL := [] })], blocks := [] }
def ann20 : Ann := { locals := [1], base := [(1, 1), (7, 1), (11, 1), (16, 1), (20, 1), (26, 1), (37, 1), (41, 1), (46, 1), (51, 1), (59, 1), (61, 1), (62, 1), (68, 1)], keeps := [(1, { inT := [], inL := [], outT := [(25, .k (.bool))], outL := [], retT := [], retL := [], exits := [], dl := true, wT := [7, 8, 9, 10, 11, 12, 13, 14, 15, 16, 17, 18, 19, 20, 21, 22, 23, 24, 25], wL := [] }), (6, { inT := [1, 3, 27, 28], inL := [1], outT := [(1, .lp 1), (3, .k (.bool))], outL := [(1, 25, [.int .u32, .int .u32, .int .u32, .int .u32, .int .u32, .int .u32, .int .u32, .int .u32, .int .u8, .int .i64, .int .u32, .bool])], retT := [], retL := [], exits := [0] }), (10, { inT := [3], inL := [], mg := true, wT := [31, 32, 33, 34, 35], wL := [] }), (12, { inT := [6], inL := [], mg := true, wT := [37, 38, 39, 40, 41, 42, 43, 44, 45, 46, 47, 48, 49], wL := [] }), (13, { inT := [2], inL := [], mg := true, wT := [50, 51, 52, 53, 54, 55, 56, 57, 58, 59, 60, 61, 62, 63, 64, 65, 66, 67, 68, 69, 70, 71, 72, 73, 74], wL := [] })], blocks := [] }
def ann21 : Ann := { locals := [], base := [], keeps := [(6, { inT := [0], inL := [], mg := true, wT := [14, 15, 16, 17, 18, 19, 20, 21, 22, 23, 24, 25, 26, 27, 28, 29, 30, 31, 32, 33, 34, 35, 36, 37, 38, 39], wL := [] })], blocks := [] }
def ann22 : Ann := { locals := [3], base := [(3, 3), (11, 3), (15, 3), (20, 3), (24, 3), (27, 3), (28, 3), (30, 3), (33, 3)], keeps := [(4, { inT := [10], inL := [], mg := true, wT := [11, 12, 13, 14, 15, 16, 17, 18], wL := [] }), (12, { inT := [], inL := [], outT := [], outL := [(3, 42, [.int .i64, .slice, .bool])], retT := [], retL := [], exits := [], dl := true, wT := [30], wL := [3] }), (21, { inT := [], inL := [], outT := [], outL := [], retT := [], retL := [], exits := [], dl := true, wT := [38, 39, 40, 41, 42, 43, 44, 45, 46, 47, 48], wL := [] })], blocks := [] }
def ann23 : Ann := { locals := [4, 8], base := [(4, 4), (8, 8), (28, 8), (31, 8)], keeps := [], blocks := [] }
def ann24 : Ann := { locals := [], base := [], keeps := [], blocks := [] }
def ann25 : Ann := { locals := [2, 6], base := [(2, 2), (6, 6), (18, 6), (19, 6), (28, 6), (29, 6), (36, 6), (37, 6)], keeps := [(4, { inT := [2, 5, 6, 11], inL := [2, 6], outT := [(2, .lp 2), (5, .k (.ptr)), (6, .lp 6)], outL := [(2, 25, [.int .u32, .int .u32, .int .u32, .int .u32, .int .u32, .int .u32, .int .u32, .int .u32, .int .u8, .int .i64, .int .u32, .bool]), (6, 25, [.int .u32, .int .u32, .int .u32, .int .u32, .int .u32, .int .u32, .int .u32, .int .u32, .int .u8, .int .i64, .int .u32, .bool])], retT := [], retL := [], exits := [0] }), (13, { inT := [], inL := [], outT := [(48, .k (.bool))], outL := [], retT := [], retL := [], exits := [], dl := true, wT := [41, 42, 43, 44, 45, 46, 47, 48], wL := [] })], blocks := [] }
def ann26 : Ann := { locals := [2], base := [(2, 2), (13, 2), (14, 2), (20, 2), (22, 2), (29, 2), (34, 2)], keeps := [(3, { inT := [1, 2, 5, 6], inL := [2], outT := [(1, .k (.int .i64)), (2, .lp 2), (5, .k (.slice))], outL := [(2, 25, [.int .u32, .int .u32, .int .u32, .int .u32, .int .u32, .int .u32, .int .u32, .int .u32, .int .u8, .int .i64, .int .u32, .bool])], retT := [], retL := [], exits := [0] }), (11, { inT := [], inL := [], outT := [(5, .k (.slice))], outL := [], retT := [], retL := [], exits := [], dl := true, wT := [5, 36, 37, 38, 39, 40, 41], wL := [] })], blocks := [] }
def ann27 : Ann := { locals := [2, 5], base := [(2, 2), (5, 5), (43, 5), (44, 5), (48, 5), (54, 5), (59, 5), (64, 5)], keeps := [(1, { inT := [27], inL := [], mg := true, wT := [7, 8, 9, 10, 11, 12, 13, 14, 15, 16, 17, 18, 19, 20, 21, 22, 23, 24, 25, 26], wL := [] }), (6, { inT := [0, 2, 5, 6], inL := [2, 5], outT := [(0, .k (.slice)), (2, .lp 2), (5, .lp 5)], outL := [(2, 25, [.int .u32, .int .u32, .int .u32, .int .u32, .int .u32, .int .u32, .int .u32, .int .u32, .int .u8, .int .i64, .int .u32, .bool]), (5, 25, [.int .u32, .int .u32, .int .u32, .int .u32, .int .u32, .int .u32, .int .u32, .int .u32, .int .u8, .int .i64, .int .u32, .bool])], retT := [], retL := [], exits := [0] })], blocks := [] }
def ann28 : Ann := { locals := [], base := [], keeps := [], blocks := [] }
def ann29 : Ann := { locals := [5], base := [(5, 5), (17, 5), (20, 5)], keeps := [(5, { inT := [3, 11, 12, 13], inL := [], outT := [(3, .k (.slice))], outL := [], retT := [], retL := [], exits := [0] })], blocks := [] }
def ann30 : Ann := { locals := [2, 3], base := [(2, 2), (5, 2), (11, 2), (18, 2), (3, 3), (7, 3), (13, 3), (21, 3)], keeps := [], blocks := [] }
def ann31 : Ann := { locals := [3, 5, 6, 9], base := [(3, 3), (49, 3), (50, 3), (77, 3), (86, 3), (94, 3), (109, 3), (119, 3), (122, 3), (5, 5), (17, 5), (22, 5), (27, 5), (31, 5), (36, 5), (42, 5), (52, 5), (56, 5), (60, 5), (67, 5), (88, 5), (99, 5), (111, 5), (6, 6), (9, 9)], keeps := [(1, { inT := [25], inL := [], mg := true, wT := [10, 11, 12, 13, 14, 15, 16, 17, 18, 19, 20, 21, 22, 23, 24], wL := [] }), (4, { inT := [8], inL := [], mg := true, wT := [27, 28, 29, 30, 31, 32, 33, 34, 35, 36, 37, 38, 39], wL := [] }), (5, { inT := [], inL := [], outT := [(46, .k (.bool))], outL := [], retT := [], retL := [], exits := [], dl := true, wT := [40, 41, 42, 43, 44, 45, 46], wL := [] }), (8, { inT := [64], inL := [], mg := true, wT := [48, 49, 50, 51, 52, 53, 54, 55, 56, 57, 58, 59, 60, 61, 62, 63], wL := [] }), (18, { inT := [], inL := [], outT := [(92, .k (.bool))], outL := [], retT := [], retL := [], exits := [], dl := true, wT := [77, 78, 79, 80, 81, 82, 83, 84, 85, 86, 87, 88, 89, 90, 91, 92], wL := [] })], blocks := [] }
def ann32 : Ann := { locals := [], base := [], keeps := [(2, { inT := [0, 1, 8, 9], inL := [], outT := [(0, .k (.slice))], outL := [], retT := [], retL := [], exits := [0] })], blocks := [] }
def ann33 : Ann := { locals := [], base := [], keeps := [(1, { inT := [2], inL := [], mg := true, wT := [3, 4, 5, 6, 7, 8, 9, 10, 11, 12, 13, 14, 15, 16], wL := [] })], blocks := [] }
def ann34 : Ann := { locals := [], base := [], keeps := [(2, { inT := [0, 5, 6], inL := [], outT := [], outL := [], retT := [(2, .k (.bool))], retL := [], exits := [0] })], blocks := [] }
def ann35 : Ann := { locals := [], base := [], keeps := [], blocks := [] }
def ann36 : Ann := { locals := [], base := [], keeps := [], blocks := [] }
def ann37 : Ann := { locals := [], base := [], keeps := [], blocks := [] }
def ann38 : Ann := { locals := [], base := [], keeps := [], blocks := [] }
def ann39 : Ann := { locals := [], base := [], keeps := [], blocks := [] }
def ann40 : Ann := { locals := [], base := [], keeps := [(1, { inT := [2], inL := [], mg := true, wT := [3, 4, 5, 6, 7, 8, 9, 10, 11, 12, 13, 14, 15, 16, 17, 18, 19], wL := [] })], blocks := [] }
def ann41 : Ann := { locals := [], base := [], keeps := [(3, { inT := [0, 1, 5, 6], inL := [], outT := [(5, .k (.slice))], outL := [], retT := [], retL := [], exits := [0] })], blocks := [] }
def ann42 : Ann := { locals := [], base := [], keeps := [(3, { inT := [0, 3, 4], inL := [], outT := [(3, .k (.int .u64))], outL := [], retT := [], retL := [], exits := [0] })], blocks := [] }
def ann43 : Ann := { locals := [], base := [], keeps := [], blocks := [] }
def ann44 : Ann := { locals := [3, 5, 6], base := [(3, 3), (7, 3), (10, 3), (13, 3), (23, 3), (24, 3), (5, 5), (11, 5), (14, 5), (21, 5), (6, 6)], keeps := [], blocks := [] }
def ann45 : Ann := { locals := [2], base := [(2, 2), (12, 2), (16, 2), (21, 2), (26, 2), (27, 2)], keeps := [(1, { inT := [15], inL := [], mg := true, wT := [5, 6, 7, 8, 9, 10, 11, 12, 13, 14], wL := [] })], blocks := [] }
def ann46 : Ann := { locals := [3, 6], base := [(3, 3), (9, 3), (10, 3), (13, 3), (6, 6)], keeps := [], blocks := [] }
def ann47 : Ann := { locals := [1, 2], base := [(1, 1), (3, 1), (4, 1), (2, 2)], keeps := [], blocks := [] }
def ann48 : Ann := { locals := [3, 5, 6, 10], base := [(3, 3), (17, 3), (30, 3), (31, 3), (35, 3), (40, 3), (47, 3), (73, 3), (5, 5), (13, 5), (23, 5), (27, 5), (62, 5), (66, 5), (97, 5), (6, 6), (10, 10), (79, 10), (80, 10), (89, 10), (92, 10)], keeps := [(1, { inT := [], inL := [], outT := [(21, .k (.bool))], outL := [], retT := [], retL := [], exits := [], dl := true, wT := [13, 14, 15, 16, 17, 18, 19, 20, 21], wL := [] }), (5, { inT := [9], inL := [], mg := true, wT := [23, 24, 25, 26, 27, 28, 29, 30, 31, 32, 33, 34, 35, 36, 37, 38, 39, 40, 41, 42, 43, 44, 45], wL := [] }), (8, { inT := [1, 3, 5, 6, 8, 9, 10, 48, 49], inL := [3, 5, 6, 10], outT := [(1, .k (.int .i64)), (3, .lp 3), (5, .lp 5), (6, .lp 6), (8, .k (.bool)), (9, .k (.bool)), (10, .lp 10)], outL := [(3, 25, [.int .u32, .int .u32, .int .u32, .int .u32, .int .u32, .int .u32, .int .u32, .int .u32, .int .u8, .int .i64, .int .u32, .bool]), (5, 68, [.int .u8, .int .i64, .slice, .bool, .int .u32, .int .u32, .int .u8, .bool]), (6, 25, [.int .u32, .int .u32, .int .u32, .int .u32, .int .u32, .int .u32, .int .u32, .int .u32, .int .u8, .int .i64, .int .u32, .bool]), (10, 25, [.int .u32, .int .u32, .int .u32, .int .u32, .int .u32, .int .u32, .int .u32, .int .u32, .int .u8, .int .i64, .int .u32, .bool])], retT := [], retL := [], exits := [0] }), (12, { inT := [70], inL := [], mg := true, wT := [53, 54, 55, 56, 57, 58, 59, 60, 61, 62, 63, 64, 65, 66, 67, 68, 69], wL := [] }), (15, { inT := [9], inL := [], mg := true, wT := [71, 72, 73, 74, 75, 76, 77], wL := [] }), (18, { inT := [87], inL := [], mg := true, wT := [82, 83, 84, 85, 86], wL := [] })], blocks := [] }
def ann49 : Ann := { locals := [0], base := [(0, 0)], keeps := [], blocks := [] }
def ann50 : Ann := { locals := [], base := [], keeps := [(3, { inT := [0, 1, 2, 8, 9, 10], inL := [], outT := [(0, .k (.slice)), (1, .k (.int .i64)), (2, .k (.func)), (8, .k (.int .i64)), (9, .k (.int .i64))], outL := [], retT := [], retL := [], exits := [0] })], blocks := [] }
def ann51 : Ann := { locals := [2], base := [(2, 2), (5, 2)], keeps := [], blocks := [] }
def ann53 : Ann := { locals := [], base := [], keeps := [], blocks := [] }
def ann54 : Ann := { locals := [], base := [], keeps := [(3, { inT := [3, 6, 7, 8], inL := [], outT := [(3, .k (.int .u64))], outL := [], retT := [], retL := [], exits := [0] })], blocks := [] }
def ann55 : Ann := { locals := [], base := [], keeps := [(1, { inT := [18], inL := [], mg := true, wT := [6, 7, 8, 9, 10, 11, 12, 13, 14, 15, 16, 17], wL := [] })], blocks := [] }
def ann56 : Ann := { locals := [2, 4], base := [(2, 2), (6, 2), (7, 2), (8, 2), (13, 2), (4, 4)], keeps := [(2, { inT := [17], inL := [], mg := true, wT := [8, 9, 10, 11, 12, 13, 14, 15, 16], wL := [] })], blocks := [] }
def ann57 : Ann := { locals := [], base := [], keeps := [(1, { inT := [2], inL := [], mg := true, wT := [3, 4, 5, 6, 7, 8], wL := [] })], blocks := [] }
def ann58 : Ann := { locals := [], base := [], keeps := [], blocks := [] }
def ann59 : Ann := { locals := [], base := [], keeps := [(1, { inT := [0, 2, 3], inL := [], outT := [], outL := [], retT := [], retL := [], exits := [0] })], blocks := [] }
theorem ov52 : OvOk Try.prog 52 := ⟨Try.f52, 36, 4, 42, Try.func52, by kernel_rfl, by kernel_rfl, by kernel_rfl, by kernel_rfl, by kernel_rfl, by kernel_rfl⟩
def exts : List Nat := [52]
theorem exts_ok : ∀ g, g ∈ exts → OvOk Try.prog g := by
  intro g hg
  simp only [exts, List.mem_cons, List.not_mem_nil, or_false] at hg
  subst hg; exact ov52
def anns : List (Nat × Ann) := [(2, ann2), (3, ann3), (4, ann4), (5, ann5), (6, ann6), (7, ann7), (8, ann8), (9, ann9), (10, ann10), (11, ann11), (12, ann12), (13, ann13), (14, ann14), (15, ann15), (16, ann16), (17, ann17), (18, ann18), (19, ann19), (20, ann20), (21, ann21), (22, ann22), (23, ann23), (24, ann24), (25, ann25), (26, ann26), (27, ann27), (28, ann28), (29, ann29), (30, ann30), (31, ann31), (32, ann32), (33, ann33), (34, ann34), (35, ann35), (36, ann36), (37, ann37), (38, ann38), (39, ann39), (40, ann40), (41, ann41), (42, ann42), (43, ann43), (44, ann44), (45, ann45), (46, ann46), (47, ann47), (48, ann48), (49, ann49), (50, ann50), (51, ann51), (53, ann53), (54, ann54), (55, ann55), (56, ann56), (57, ann57), (58, ann58), (59, ann59)]
theorem ti_ok (t : Nat) (x : TI) (h : tab[t]? = some x) : tiOf Try.prog t = some x := by
  have h1 : t < 111 := by
    have h2 : tab.length = 111 := by kernel_rfl
    have := (List.getElem?_eq_some_iff.1 h).1
    omega
  have h3 := congrArg (fun l => l[t]?) tab_ok
  simp only [List.getElem?_map, h, List.getElem?_range h1, Option.map_some, Option.some.injEq] at h3
  exact h3
theorem eq_ok (t : Nat) (ks : List Kind) (h : Am.look eqs t = some ks) : eqOk Try.prog t ks = true := by
  have key : ∀ l : List (TypeId × List Kind), l.all (fun x => eqOk Try.prog x.1 x.2) = true → Am.look l t = some ks → eqOk Try.prog t ks = true := by
    intro l
    induction l with
    | nil => intro _ h; cases h
    | cons p l ih =>
      intro h1 h2
      rw [List.all_cons, Bool.and_eq_true] at h1
      simp only [Am.look, beq_iff] at h2
      by_cases he : t = p.1
      · simp only [he, decide_true, cond_true, Option.some.injEq] at h2
        rw [he, ← h2]; exact h1.1
      · simp only [he, decide_false, cond_false] at h2
        exact ih h1.2 h2
  exact key _ eqs_ok h
noncomputable def fns : List (Nat × Func) := [(2, Try.f2), (3, Try.f3), (4, Try.f4), (5, Try.f5), (6, Try.f6), (7, Try.f7), (8, Try.f8), (9, Try.f9), (10, Try.f10), (11, Try.f11), (12, Try.f12), (13, Try.f13), (14, Try.f14), (15, Try.f15), (16, Try.f16), (17, Try.f17), (18, Try.f18), (19, Try.f19), (20, Try.f20), (21, Try.f21), (22, Try.f22), (23, Try.f23), (24, Try.f24), (25, Try.f25), (26, Try.f26), (27, Try.f27), (28, Try.f28), (29, Try.f29), (30, Try.f30), (31, Try.f31), (32, Try.f32), (33, Try.f33), (34, Try.f34), (35, Try.f35), (36, Try.f36), (37, Try.f37), (38, Try.f38), (39, Try.f39), (40, Try.f40), (41, Try.f41), (42, Try.f42), (43, Try.f43), (44, Try.f44), (45, Try.f45), (46, Try.f46), (47, Try.f47), (48, Try.f48), (49, Try.f49), (50, Try.f50), (51, Try.f51), (53, Try.f53), (54, Try.f54), (55, Try.f55), (56, Try.f56), (57, Try.f57), (58, Try.f58), (59, Try.f59)]
theorem fns_ok : fns.map (fun x => Try.prog.funcs[x.1]?) = fns.map (fun x => some x.2) := by kernel_rfl
theorem fn_ok (f : Nat) (x : Func) (h : Am.look fns f = some x) : Try.prog.funcs[f]? = some x := by
  have key : ∀ l : List (Nat × Func), l.map (fun x => Try.prog.funcs[x.1]?) = l.map (fun x => some x.2) → Am.look l f = some x → Try.prog.funcs[f]? = some x := by
    intro l
    induction l with
    | nil => intro _ h; cases h
    | cons p l ih =>
      intro h1 h2
      simp only [List.map_cons, List.cons.injEq] at h1
      simp only [Am.look, beq_iff] at h2
      by_cases he : f = p.1
      · simp only [he, decide_true, cond_true, Option.some.injEq] at h2
        rw [he, ← h2]; exact h1.1
      · simp only [he, decide_false, cond_false] at h2
        exact ih h1.2 h2
  exact key _ fns_ok h
noncomputable def env : Env where
  P := Try.prog
  ext := extTab exts
  fn := fun f => Am.look fns f
  fn_ok := fn_ok
  ti := fun t => tab[t]?
  ti_ok := ti_ok
  ann := fun f => (Am.look anns f).getD {}
  eqt := eqs
  eq_ok := eq_ok
  names := names_ok
theorem mixed : Try.prog.follows .mixedOrders = true := by kernel_rfl
theorem extOk : ExtSound env := ext_sound rfl exts_ok
theorem sound : Sound env (Run env) := Run_sound (E := env) extOk mixed
end Go.Proofs.Ytpodpakpgolipaa
