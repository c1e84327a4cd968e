/- The tables that the abstract machine wants: types, frame-local blocks, what loops keep. Written by a program (wip/am/Gen.lean). -/
import Derived.Test.YtmoopebmajefkaaAmMain
import Derived.Test.YtmoopebmajefkaaProg
import Derived.KernelRfl
namespace Go.Proofs.Ytmoopebmajefkaa
open Go.Am
set_option maxRecDepth 100000
set_option linter.unusedVariables false
set_option linter.unusedSimpArgs false
def tab : List TI := [
  ⟨.tuple [], 1, 0, none⟩,
  ⟨.func, 1, 8, some (.nilFunc)⟩,
  ⟨.int .i64, 1, 8, some (.int .i64 0)⟩,
  ⟨.int .i64, 1, 8, some (.int .i64 0)⟩,
  ⟨.bool, 1, 1, some (.bool false)⟩,
  ⟨.int .u8, 1, 1, some (.int .u8 0)⟩,
  ⟨.int .u8, 1, 1, some (.int .u8 0)⟩,
  ⟨.struct [(0, 2), (1, 3), (2, 4), (3, 6)], 4, 24, some (.agg [.int .i64 0, .int .i64 0, .bool false, .int .u8 0])⟩,
  ⟨.struct [(0, 2), (1, 3), (2, 4), (3, 6)], 4, 24, some (.agg [.int .i64 0, .int .i64 0, .bool false, .int .u8 0])⟩,
  ⟨.str, 1, 16, some (.str ⟨#[]⟩)⟩,
  ⟨.str, 1, 16, some (.str ⟨#[]⟩)⟩,
  ⟨.str, 1, 16, some (.str ⟨#[]⟩)⟩,
  ⟨.int .u64, 1, 8, some (.int .u64 0)⟩,
  ⟨.struct [(0, 9), (1, 12)], 2, 24, some (.agg [.str ⟨#[]⟩, .int .u64 0])⟩,
  ⟨.struct [(0, 9), (1, 12)], 2, 24, some (.agg [.str ⟨#[]⟩, .int .u64 0])⟩,
  ⟨.ptr 59, 1, 8, some (.ptr none)⟩,
  ⟨.ptr 62, 1, 8, some (.ptr none)⟩,
  ⟨.ptr 71, 1, 8, some (.ptr none)⟩,
  ⟨.struct [(0, 17)], 1, 8, some (.agg [.ptr none])⟩,
  ⟨.struct [(0, 17)], 1, 8, some (.agg [.ptr none])⟩,
  ⟨.iface, 1, 16, some (.nilIface)⟩,
  ⟨.int .i32, 1, 4, some (.int .i32 0)⟩,
  ⟨.slice 34, 1, 24, some (.slice none 0 0)⟩,
  ⟨.slice 5, 1, 24, some (.slice none 0 0)⟩,
  ⟨.int .u32, 1, 4, some (.int .u32 0)⟩,
  ⟨.struct [(0, 5), (1, 3), (2, 23), (3, 4), (4, 24), (5, 24), (6, 5), (7, 4)], 8, 56, some (.agg [.int .u8 0, .int .i64 0, .slice none 0 0, .bool false, .int .u32 0, .int .u32 0, .int .u8 0, .bool false])⟩,
  ⟨.struct [(0, 5), (1, 3), (2, 23), (3, 4), (4, 24), (5, 24), (6, 5), (7, 4)], 8, 56, some (.agg [.int .u8 0, .int .i64 0, .slice none 0 0, .bool false, .int .u32 0, .int .u32 0, .int .u8 0, .bool false])⟩,
  ⟨.func, 1, 8, some (.nilFunc)⟩,
  ⟨.arr 8 24, 8, 32, some (.agg [.int .u32 0, .int .u32 0, .int .u32 0, .int .u32 0, .int .u32 0, .int .u32 0, .int .u32 0, .int .u32 0])⟩,
  ⟨.struct [(0, 28), (8, 5), (9, 3), (10, 24), (11, 4)], 12, 56, some (.agg [.int .u32 0, .int .u32 0, .int .u32 0, .int .u32 0, .int .u32 0, .int .u32 0, .int .u32 0, .int .u32 0, .int .u8 0, .int .i64 0, .int .u32 0, .bool false])⟩,
  ⟨.struct [(0, 28), (8, 5), (9, 3), (10, 24), (11, 4)], 12, 56, some (.agg [.int .u32 0, .int .u32 0, .int .u32 0, .int .u32 0, .int .u32 0, .int .u32 0, .int .u32 0, .int .u32 0, .int .u8 0, .int .i64 0, .int .u32 0, .bool false])⟩,
  ⟨.func, 1, 8, some (.nilFunc)⟩,
  ⟨.tuple [3, 26], 1, 0, none⟩,
  ⟨.struct [(0, 5), (1, 5), (2, 5), (3, 5), (4, 5), (5, 4), (6, 4)], 7, 7, some (.agg [.int .u8 0, .int .u8 0, .int .u8 0, .int .u8 0, .int .u8 0, .bool false, .bool false])⟩,
  ⟨.struct [(0, 5), (1, 5), (2, 5), (3, 5), (4, 5), (5, 4), (6, 4)], 7, 7, some (.agg [.int .u8 0, .int .u8 0, .int .u8 0, .int .u8 0, .int .u8 0, .bool false, .bool false])⟩,
  ⟨.func, 1, 8, some (.nilFunc)⟩,
  ⟨.int .i64, 1, 8, some (.int .i64 0)⟩,
  ⟨.tuple [30, 36], 1, 0, none⟩,
  ⟨.func, 1, 8, some (.nilFunc)⟩,
  ⟨.tuple [30, 3], 1, 0, none⟩,
  ⟨.func, 1, 8, some (.nilFunc)⟩,
  ⟨.func, 1, 8, some (.nilFunc)⟩,
  ⟨.func, 1, 8, some (.nilFunc)⟩,
  ⟨.func, 1, 8, some (.nilFunc)⟩,
  ⟨.func, 1, 8, some (.nilFunc)⟩,
  ⟨.func, 1, 8, some (.nilFunc)⟩,
  ⟨.arr 6 5, 6, 6, some (.agg [.int .u8 0, .int .u8 0, .int .u8 0, .int .u8 0, .int .u8 0, .int .u8 0])⟩,
  ⟨.func, 1, 8, some (.nilFunc)⟩,
  ⟨.func, 1, 8, some (.nilFunc)⟩,
  ⟨.func, 1, 8, some (.nilFunc)⟩,
  ⟨.func, 1, 8, some (.nilFunc)⟩,
  ⟨.func, 1, 8, some (.nilFunc)⟩,
  ⟨.func, 1, 8, some (.nilFunc)⟩,
  ⟨.func, 1, 8, some (.nilFunc)⟩,
  ⟨.func, 1, 8, some (.nilFunc)⟩,
  ⟨.func, 1, 8, some (.nilFunc)⟩,
  ⟨.func, 1, 8, some (.nilFunc)⟩,
  ⟨.func, 1, 8, some (.nilFunc)⟩,
  ⟨.struct [(0, 17), (1, 17), (2, 17), (3, 9)], 4, 40, some (.agg [.ptr none, .ptr none, .ptr none, .str ⟨#[]⟩])⟩,
  ⟨.struct [(0, 17), (1, 17), (2, 17), (3, 9)], 4, 40, some (.agg [.ptr none, .ptr none, .ptr none, .str ⟨#[]⟩])⟩,
  ⟨.arr 0 16, 0, 0, some (.agg [])⟩,
  ⟨.struct [(0, 60)], 0, 0, some (.agg [])⟩,
  ⟨.struct [(0, 60)], 0, 0, some (.agg [])⟩,
  ⟨.func, 1, 8, some (.nilFunc)⟩,
  ⟨.int .u8, 1, 1, some (.int .u8 0)⟩,
  ⟨.int .u8, 1, 1, some (.int .u8 0)⟩,
  ⟨.func, 1, 8, some (.nilFunc)⟩,
  ⟨.ptr 5, 1, 8, some (.ptr none)⟩,
  ⟨.int .i32, 1, 4, some (.int .i32 0)⟩,
  ⟨.int .i32, 1, 4, some (.int .i32 0)⟩,
  ⟨.struct [(0, 12), (1, 12), (2, 24), (3, 64), (4, 5), (5, 5), (6, 65), (7, 66), (8, 67), (9, 68), (10, 69)], 11, 48, some (.agg [.int .u64 0, .int .u64 0, .int .u32 0, .int .u8 0, .int .u8 0, .int .u8 0, .int .u8 0, .nilFunc, .ptr none, .int .i32 0, .int .i32 0])⟩,
  ⟨.struct [(0, 12), (1, 12), (2, 24), (3, 64), (4, 5), (5, 5), (6, 65), (7, 66), (8, 67), (9, 68), (10, 69)], 11, 48, some (.agg [.int .u64 0, .int .u64 0, .int .u32 0, .int .u8 0, .int .u8 0, .int .u8 0, .int .u8 0, .nilFunc, .ptr none, .int .i32 0, .int .i32 0])⟩,
  ⟨.other, 1, 8, some (.ptr none)⟩]
theorem tab_ok : (List.range 73).map (tiOf Try.prog) = tab.map some := by kernel_rfl
def k7 : List Kind := [.int .i64, .int .i64, .bool, .int .u8]
def c7 (a0 : Int) (a1 : Int) (a2 : Bool) (a3 : Int) : List V := [.int .i64 a0, .int .i64 a1, .bool a2, .int .u8 a3]
def o7 (l : List V) : List V := c7 (nthV l 0).getInt (nthV l 1).getInt (nthV l 2).getBool (nthV l 3).getInt
def k13 : List Kind := [.str, .int .u64]
def c13 (a0 : ByteArray) (a1 : Int) : List V := [.str a0, .int .u64 a1]
def o13 (l : List V) : List V := c13 (nthV l 0).getStr (nthV l 1).getInt
def k25 : List Kind := [.int .u8, .int .i64, .slice, .bool, .int .u32, .int .u32, .int .u8, .bool]
def c25 (a0 : Int) (a1 : Int) (a2p : Option (Nat × Nat)) (a2n : Nat) (a2c : Nat) (a3 : Bool) (a4 : Int) (a5 : Int) (a6 : Int) (a7 : Bool) : List V := [.int .u8 a0, .int .i64 a1, .slice a2p a2n a2c, .bool a3, .int .u32 a4, .int .u32 a5, .int .u8 a6, .bool a7]
def o25 (l : List V) : List V := c25 (nthV l 0).getInt (nthV l 1).getInt (nthV l 2).slPtr (nthV l 2).slLen (nthV l 2).slCap (nthV l 3).getBool (nthV l 4).getInt (nthV l 5).getInt (nthV l 6).getInt (nthV l 7).getBool
def k28 : List Kind := [.int .u32, .int .u32, .int .u32, .int .u32, .int .u32, .int .u32, .int .u32, .int .u32]
def c28 (a0 : Int) (a1 : Int) (a2 : Int) (a3 : Int) (a4 : Int) (a5 : Int) (a6 : Int) (a7 : Int) : List V := [.int .u32 a0, .int .u32 a1, .int .u32 a2, .int .u32 a3, .int .u32 a4, .int .u32 a5, .int .u32 a6, .int .u32 a7]
def o28 (l : List V) : List V := c28 (nthV l 0).getInt (nthV l 1).getInt (nthV l 2).getInt (nthV l 3).getInt (nthV l 4).getInt (nthV l 5).getInt (nthV l 6).getInt (nthV l 7).getInt
def k29 : List Kind := [.int .u32, .int .u32, .int .u32, .int .u32, .int .u32, .int .u32, .int .u32, .int .u32, .int .u8, .int .i64, .int .u32, .bool]
def c29 (a0 : Int) (a1 : Int) (a2 : Int) (a3 : Int) (a4 : Int) (a5 : Int) (a6 : Int) (a7 : Int) (a8 : Int) (a9 : Int) (a10 : Int) (a11 : Bool) : List V := [.int .u32 a0, .int .u32 a1, .int .u32 a2, .int .u32 a3, .int .u32 a4, .int .u32 a5, .int .u32 a6, .int .u32 a7, .int .u8 a8, .int .i64 a9, .int .u32 a10, .bool a11]
def o29 (l : List V) : List V := c29 (nthV l 0).getInt (nthV l 1).getInt (nthV l 2).getInt (nthV l 3).getInt (nthV l 4).getInt (nthV l 5).getInt (nthV l 6).getInt (nthV l 7).getInt (nthV l 8).getInt (nthV l 9).getInt (nthV l 10).getInt (nthV l 11).getBool
def k33 : List Kind := [.int .u8, .int .u8, .int .u8, .int .u8, .int .u8, .bool, .bool]
def c33 (a0 : Int) (a1 : Int) (a2 : Int) (a3 : Int) (a4 : Int) (a5 : Bool) (a6 : Bool) : List V := [.int .u8 a0, .int .u8 a1, .int .u8 a2, .int .u8 a3, .int .u8 a4, .bool a5, .bool a6]
def o33 (l : List V) : List V := c33 (nthV l 0).getInt (nthV l 1).getInt (nthV l 2).getInt (nthV l 3).getInt (nthV l 4).getInt (nthV l 5).getBool (nthV l 6).getBool
def k46 : List Kind := [.int .u8, .int .u8, .int .u8, .int .u8, .int .u8, .int .u8]
def c46 (a0 : Int) (a1 : Int) (a2 : Int) (a3 : Int) (a4 : Int) (a5 : Int) : List V := [.int .u8 a0, .int .u8 a1, .int .u8 a2, .int .u8 a3, .int .u8 a4, .int .u8 a5]
def o46 (l : List V) : List V := c46 (nthV l 0).getInt (nthV l 1).getInt (nthV l 2).getInt (nthV l 3).getInt (nthV l 4).getInt (nthV l 5).getInt
def k58 : List Kind := [.ptr, .ptr, .ptr, .str]
def c58 (a0 : Option (Nat × Nat)) (a1 : Option (Nat × Nat)) (a2 : Option (Nat × Nat)) (a3 : ByteArray) : List V := [.ptr a0, .ptr a1, .ptr a2, .str a3]
def o58 (l : List V) : List V := c58 (nthV l 0).getPtr (nthV l 1).getPtr (nthV l 2).getPtr (nthV l 3).getStr
def k70 : List Kind := [.int .u64, .int .u64, .int .u32, .int .u8, .int .u8, .int .u8, .int .u8, .func, .ptr, .int .i32, .int .i32]
def c70 (a0 : Int) (a1 : Int) (a2 : Int) (a3 : Int) (a4 : Int) (a5 : Int) (a6 : Int) (a7 : V) (a8 : Option (Nat × Nat)) (a9 : Int) (a10 : Int) : List V := [.int .u64 a0, .int .u64 a1, .int .u32 a2, .int .u8 a3, .int .u8 a4, .int .u8 a5, .int .u8 a6, a7, .ptr a8, .int .i32 a9, .int .i32 a10]
def o70 (l : List V) : List V := c70 (nthV l 0).getInt (nthV l 1).getInt (nthV l 2).getInt (nthV l 3).getInt (nthV l 4).getInt (nthV l 5).getInt (nthV l 6).getInt (nthV l 7) (nthV l 8).getPtr (nthV l 9).getInt (nthV l 10).getInt
def eqs : List (TypeId × List Kind) := [(30, [.int .u32, .int .u32, .int .u32, .int .u32, .int .u32, .int .u32, .int .u32, .int .u32, .int .u8, .int .i64, .int .u32, .bool]), (28, [.int .u32, .int .u32, .int .u32, .int .u32, .int .u32, .int .u32, .int .u32, .int .u32])]
theorem eqs_ok : eqs.all (fun x => eqOk Try.prog x.1 x.2) = true := by kernel_rfl
theorem names_ok : Try.prog.funcs.toList.all (fun fn => !(fn.name == "runtime.NumGoroutine")) = true := by kernel_rfl
def ann2 : Ann := { locals := [], base := [], keeps := [], blocks := [] }
def ann3 : Ann := { locals := [5, 7, 10, 11, 13], base := [(5, 5), (18, 5), (83, 5), (86, 5), (7, 7), (10, 10), (11, 11), (13, 13)], keeps := [(1, { inT := [22], inL := [], mg := true, wT := [15, 16, 17, 18, 19, 20, 21], wL := [] }), (6, { inT := [0, 1, 5, 7, 8], inL := [5, 7], outT := [(1, .k (.int .i64)), (5, .lp 5), (7, .lp 7)], outL := [(5, 26, [.int .u8, .int .i64, .slice, .bool, .int .u32, .int .u32, .int .u8, .bool]), (7, 30, [.int .u32, .int .u32, .int .u32, .int .u32, .int .u32, .int .u32, .int .u32, .int .u32, .int .u8, .int .i64, .int .u32, .bool])], retT := [], retL := [], exits := [0] }), (7, { inT := [32], inL := [], mg := true, wT := [25, 26, 27, 28, 29, 30, 31], wL := [] })], blocks := [] }
def ann4 : Ann := { locals := [3, 6], base := [(3, 3), (45, 3), (46, 3), (55, 3), (56, 3), (72, 3), (77, 3), (78, 3), (98, 3), (106, 3), (110, 3), (116, 3), (120, 3), (125, 3), (6, 6)], keeps := [(6, { inT := [0, 3, 4], inL := [3], outT := [], outL := [], retT := [(2, .k (.bool))], retL := [], exits := [0] }), (7, { inT := [19], inL := [], mg := true, wT := [12, 13, 14, 15, 16, 17, 18], wL := [] }), (13, { inT := [0, 3, 4, 7, 8], inL := [3], outT := [(0, .k (.slice)), (3, .lp 3), (4, .k (.int .i64)), (7, .k (.bool))], outL := [(3, 30, [.int .u32, .int .u32, .int .u32, .int .u32, .int .u32, .int .u32, .int .u32, .int .u32, .int .u8, .int .i64, .int .u32, .bool])], retT := [(2, .k (.bool))], retL := [], exits := [2] }), (16, { inT := [7], inL := [], mg := true, wT := [42, 43, 44, 45, 46, 47, 48, 49], wL := [] }), (17, { inT := [], inL := [], outT := [(71, .k (.bool))], outL := [], retT := [], retL := [], exits := [], dl := true, wT := [50, 51, 52, 53, 54, 55, 56, 57, 58, 59, 60, 61, 62, 63, 64, 65, 66, 67, 68, 69, 70, 71], wL := [] }), (24, { inT := [129], inL := [], mg := true, wT := [98, 99, 100, 101, 102, 103, 104, 105, 106, 107, 108, 109, 110, 111, 112, 113, 114, 115, 116, 117, 118, 119, 120, 121, 122, 123, 124, 125, 126, 127, 128], wL := [] })], blocks := [] }
def ann5 : Ann := { locals := [9, 12, 15], base := [(9, 9), (59, 9), (60, 9), (66, 9), (67, 9), (73, 9), (74, 9), (77, 9), (78, 9), (86, 9), (87, 9), (90, 9), (91, 9), (107, 9), (118, 9), (119, 9), (132, 9), (133, 9), (136, 9), (137, 9), (158, 9), (159, 9), (180, 9), (185, 9), (12, 12), (15, 15), (105, 15), (114, 15), (115, 15), (144, 15), (145, 15), (154, 15), (155, 15), (166, 15)], keeps := [(6, { inT := [0, 1, 2, 3, 9, 10], inL := [9], outT := [(1, .k (.int .u8)), (2, .k (.int .u8)), (3, .k (.int .u8)), (9, .lp 9)], outL := [(9, 30, [.int .u32, .int .u32, .int .u32, .int .u32, .int .u32, .int .u32, .int .u32, .int .u32, .int .u8, .int .i64, .int .u32, .bool])], retT := [], retL := [], exits := [0] }), (7, { inT := [29], inL := [], mg := true, wT := [22, 23, 24, 25, 26, 27, 28], wL := [] }), (14, { inT := [81], inL := [], mg := true, wT := [54, 55, 56, 57, 58, 59, 60, 61, 62, 63, 64, 65, 66, 67, 68, 69, 70, 71, 72, 73, 74, 75, 76, 77, 78, 79, 80], wL := [] }), (18, { inT := [122], inL := [], mg := true, wT := [102, 103, 104, 105, 106, 107, 108, 109, 110, 111, 112, 113, 114, 115, 116, 117, 118, 119, 120, 121], wL := [] }), (22, { inT := [9, 13, 14, 15, 17], inL := [9, 15], outT := [(9, .lp 9), (13, .k (.int .i64)), (14, .k (.int .i64)), (15, .lp 15)], outL := [(9, 30, [.int .u32, .int .u32, .int .u32, .int .u32, .int .u32, .int .u32, .int .u32, .int .u32, .int .u8, .int .i64, .int .u32, .bool]), (15, 30, [.int .u32, .int .u32, .int .u32, .int .u32, .int .u32, .int .u32, .int .u32, .int .u32, .int .u8, .int .i64, .int .u32, .bool])], retT := [(8, .k (.bool))], retL := [], exits := [2] }), (25, { inT := [18], inL := [], mg := true, wT := [127, 128, 129, 130, 131, 132, 133, 134, 135, 136, 137, 138, 139, 140], wL := [] }), (26, { inT := [163], inL := [], mg := true, wT := [141, 142, 143, 144, 145, 146, 147, 148, 149, 150, 151, 152, 153, 154, 155, 156, 157, 158, 159, 160, 161, 162], wL := [] })], blocks := [] }
def ann6 : Ann := { locals := [3, 6, 7], base := [(3, 3), (60, 3), (71, 3), (6, 6), (42, 6), (46, 6), (51, 6), (7, 7), (58, 7), (69, 7)], keeps := [(6, { inT := [0, 3, 4], inL := [3], outT := [], outL := [], retT := [(2, .k (.bool))], retL := [], exits := [0] }), (7, { inT := [20], inL := [], mg := true, wT := [13, 14, 15, 16, 17, 18, 19], wL := [] }), (11, { inT := [9], inL := [], mg := true, wT := [39, 40, 41, 42, 43, 44, 45, 46, 47, 48, 49, 50, 51, 52, 53, 54, 55], wL := [] }), (12, { inT := [75], inL := [], mg := true, wT := [56, 57, 58, 59, 60, 61, 62, 63, 64, 65, 66, 67, 68, 69, 70, 71, 72, 73, 74], wL := [] })], blocks := [] }
def ann7 : Ann := { locals := [5, 8, 10], base := [(5, 5), (49, 5), (50, 5), (57, 5), (58, 5), (8, 8), (10, 10), (73, 10), (74, 10), (91, 10), (96, 10)], keeps := [(6, { inT := [0, 1, 5, 6], inL := [5], outT := [(1, .k (.int .u8)), (5, .lp 5)], outL := [(5, 30, [.int .u32, .int .u32, .int .u32, .int .u32, .int .u32, .int .u32, .int .u32, .int .u32, .int .u8, .int .i64, .int .u32, .bool])], retT := [], retL := [], exits := [0] }), (7, { inT := [23], inL := [], mg := true, wT := [16, 17, 18, 19, 20, 21, 22], wL := [] }), (16, { inT := [4], inL := [], mg := true, wT := [61, 62, 63, 64, 65, 66, 67], wL := [] }), (18, { inT := [10, 11, 12], inL := [10], outT := [(10, .lp 10), (11, .k (.int .i64))], outL := [(10, 30, [.int .u32, .int .u32, .int .u32, .int .u32, .int .u32, .int .u32, .int .u32, .int .u32, .int .u8, .int .i64, .int .u32, .bool])], retT := [(4, .k (.bool))], retL := [], exits := [2] }), (25, { inT := [4], inL := [], mg := true, wT := [88, 89, 90, 91, 92, 93, 94, 95, 96, 97, 98, 99], wL := [] })], blocks := [] }
def ann8 : Ann := { locals := [6], base := [(6, 6)], keeps := [(8, { inT := [], inL := [], outT := [(54, .k (.bool))], outL := [], retT := [], retL := [], exits := [], dl := true, wT := [39, 40, 41, 42, 43, 44, 45, 46, 47, 48, 49, 50, 51, 52, 53, 54], wL := [] }), (12, { inT := [10], inL := [], mg := true, wT := [57, 58, 59, 60, 61, 62], wL := [] })], blocks := [] }
def ann9 : Ann := { locals := [11, 14, 16], base := [(11, 11), (52, 11), (53, 11), (14, 14), (16, 16)], keeps := [(6, { inT := [0, 1, 2, 3, 4, 11, 12], inL := [11], outT := [(1, .k (.int .u8)), (2, .k (.int .u8)), (3, .k (.int .u32)), (4, .k (.int .u32)), (11, .lp 11)], outL := [(11, 30, [.int .u32, .int .u32, .int .u32, .int .u32, .int .u32, .int .u32, .int .u32, .int .u32, .int .u8, .int .i64, .int .u32, .bool])], retT := [], retL := [], exits := [0] }), (7, { inT := [28], inL := [], mg := true, wT := [21, 22, 23, 24, 25, 26, 27], wL := [] }), (17, { inT := [10], inL := [], mg := true, wT := [68, 69, 70, 71, 72, 73, 74], wL := [] })], blocks := [] }
def ann10 : Ann := { locals := [1, 3], base := [(1, 1), (3, 3)], keeps := [], blocks := [] }
def ann11 : Ann := { locals := [0], base := [(0, 0)], keeps := [], blocks := [] }
def ann12 : Ann := { locals := [2, 3, 5, 8], base := [(2, 2), (9, 2), (14, 2), (18, 2), (22, 2), (27, 2), (32, 2), (35, 2), (3, 3), (38, 3), (39, 3), (5, 5), (8, 8), (41, 8)], keeps := [], blocks := [] }
def ann13 : Ann := { locals := [3, 5, 6, 9], base := [(3, 3), (49, 3), (50, 3), (77, 3), (86, 3), (94, 3), (109, 3), (119, 3), (122, 3), (5, 5), (17, 5), (22, 5), (27, 5), (31, 5), (36, 5), (42, 5), (52, 5), (56, 5), (60, 5), (67, 5), (88, 5), (99, 5), (111, 5), (6, 6), (9, 9)], keeps := [(1, { inT := [25], inL := [], mg := true, wT := [10, 11, 12, 13, 14, 15, 16, 17, 18, 19, 20, 21, 22, 23, 24], wL := [] }), (4, { inT := [8], inL := [], mg := true, wT := [27, 28, 29, 30, 31, 32, 33, 34, 35, 36, 37, 38, 39], wL := [] }), (5, { inT := [], inL := [], outT := [(46, .k (.bool))], outL := [], retT := [], retL := [], exits := [], dl := true, wT := [40, 41, 42, 43, 44, 45, 46], wL := [] }), (8, { inT := [64], inL := [], mg := true, wT := [48, 49, 50, 51, 52, 53, 54, 55, 56, 57, 58, 59, 60, 61, 62, 63], wL := [] }), (18, { inT := [], inL := [], outT := [(92, .k (.bool))], outL := [], retT := [], retL := [], exits := [], dl := true, wT := [77, 78, 79, 80, 81, 82, 83, 84, 85, 86, 87, 88, 89, 90, 91, 92], wL := [] })], blocks := [] }
def ann14 : Ann := { locals := [3, 5, 6, 8], base := [(3, 3), (53, 3), (54, 3), (188, 3), (202, 3), (210, 3), (229, 3), (75, 3), (80, 3), (89, 3), (93, 3), (100, 3), (101, 3), (117, 3), (118, 3), (128, 3), (129, 3), (143, 3), (147, 3), (5, 5), (20, 5), (25, 5), (30, 5), (34, 5), (39, 5), (44, 5), (50, 5), (58, 5), (62, 5), (69, 5), (176, 5), (180, 5), (184, 5), (207, 5), (212, 5), (231, 5), (71, 5), (85, 5), (103, 5), (123, 5), (131, 5), (167, 5), (6, 6), (8, 8), (172, 8), (175, 8), (178, 8), (182, 8), (183, 8), (244, 8), (245, 8), (248, 8), (251, 8), (137, 8), (138, 8), (160, 8), (163, 8)], keeps := [(1, { inT := [28], inL := [], mg := true, wT := [13, 14, 15, 16, 17, 18, 19, 20, 21, 22, 23, 24, 25, 26, 27], wL := [] }), (4, { inT := [], inL := [], outT := [(48, .k (.bool))], outL := [], retT := [], retL := [], exits := [], dl := true, wT := [30, 31, 32, 33, 34, 35, 36, 37, 38, 39, 40, 41, 42, 43, 44, 45, 46, 47, 48], wL := [] }), (7, { inT := [66], inL := [], mg := true, wT := [50, 51, 52, 53, 54, 55, 56, 57, 58, 59, 60, 61, 62, 63, 64, 65], wL := [] }), (17, { inT := [], inL := [], outT := [(197, .k (.bool))], outL := [], retT := [], retL := [], exits := [], dl := true, wT := [184, 185, 186, 187, 188, 189, 190, 191, 192, 193, 194, 195, 196, 197], wL := [] }), (25, { inT := [], inL := [], outT := [(220, .k (.bool))], outL := [], retT := [], retL := [], exits := [], dl := true, wT := [210, 211, 212, 213, 214, 215, 216, 217, 218, 219, 220], wL := [] }), (40, { inT := [6, 8, 9], inL := [6, 8], outT := [(6, .lp 6), (8, .lp 8)], outL := [(6, 30, [.int .u32, .int .u32, .int .u32, .int .u32, .int .u32, .int .u32, .int .u32, .int .u32, .int .u8, .int .i64, .int .u32, .bool]), (8, 30, [.int .u32, .int .u32, .int .u32, .int .u32, .int .u32, .int .u32, .int .u32, .int .u32, .int .u8, .int .i64, .int .u32, .bool])], retT := [], retL := [], exits := [3] }), (47, { inT := [83], inL := [], mg := true, wT := [71, 72, 73, 74, 75, 76, 77, 78, 79, 80, 81, 82], wL := [] }), (50, { inT := [10], inL := [], mg := true, wT := [85, 86, 87, 88, 89, 90, 91, 92, 93, 94, 95, 96, 97, 98, 99, 100, 101, 102, 103, 104, 105, 106, 107], wL := [] }), (53, { inT := [1, 3, 5, 6, 8, 10, 11, 12], inL := [3, 5, 6, 8], outT := [(1, .k (.int .i64)), (3, .lp 3), (5, .lp 5), (6, .lp 6), (8, .lp 8), (10, .k (.bool)), (11, .k (.int .i64))], outL := [(3, 30, [.int .u32, .int .u32, .int .u32, .int .u32, .int .u32, .int .u32, .int .u32, .int .u32, .int .u8, .int .i64, .int .u32, .bool]), (5, 26, [.int .u8, .int .i64, .slice, .bool, .int .u32, .int .u32, .int .u8, .bool]), (6, 30, [.int .u32, .int .u32, .int .u32, .int .u32, .int .u32, .int .u32, .int .u32, .int .u32, .int .u8, .int .i64, .int .u32, .bool]), (8, 30, [.int .u32, .int .u32, .int .u32, .int .u32, .int .u32, .int .u32, .int .u32, .int .u32, .int .u8, .int .i64, .int .u32, .bool])], retT := [], retL := [], exits := [1] }), (56, { inT := [135], inL := [], mg := true, wT := [112, 113, 114, 115, 116, 117, 118, 119, 120, 121, 122, 123, 124, 125, 126, 127, 128, 129, 130, 131, 132, 133, 134], wL := [] }), (60, { inT := [10], inL := [], mg := true, wT := [141, 142, 143, 144, 145, 146, 147, 148, 149, 150, 151, 152], wL := [] }), (62, { inT := [158], inL := [], mg := true, wT := [153, 154, 155, 156, 157], wL := [] })], blocks := [] }
def ann15 : Ann := { locals := [], base := [], keeps := [(2, { inT := [0, 5, 6], inL := [], outT := [], outL := [], retT := [(2, .k (.bool))], retL := [], exits := [0] })], blocks := [] }
def ann16 : Ann := { locals := [], base := [], keeps := [(1, { inT := [2], inL := [], mg := true, wT := [3, 4, 5, 6, 7, 8, 9, 10, 11, 12, 13, 14, 15, 16], wL := [] })], blocks := [] }
def ann17 : Ann := { locals := [2], base := [(2, 2), (12, 2), (16, 2), (21, 2), (26, 2), (27, 2)], keeps := [(1, { inT := [15], inL := [], mg := true, wT := [5, 6, 7, 8, 9, 10, 11, 12, 13, 14], wL := [] })], blocks := [] }
def ann18 : Ann := { locals := [3], base := [(3, 3), (13, 3), (21, 3), (36, 3), (37, 3), (42, 3), (43, 3)], keeps := [(1, { inT := [12], inL := [], mg := true, wT := [7, 8, 9, 10, 11], wL := [] }), (4, { inT := [], inL := [], outT := [(20, .k (.bool))], outL := [], retT := [], retL := [], exits := [], dl := true, wT := [13, 14, 15, 16, 17, 18, 19, 20], wL := [] }), (15, { inT := [], inL := [], outT := [(29, .k (.bool))], outL := [], retT := [], retL := [], exits := [], dl := true, wT := [29, 31], wL := [] }), (18, { inT := [6], inL := [], mg := true, wT := [32, 33, 34, 35, 36, 37, 38, 39, 40], wL := [] })], blocks := [] }
def ann19 : Ann := { locals := [0], base := [(0, 0)], keeps := [], blocks := [] }
def ann20 : Ann := { locals := [3], base := [(3, 3), (14, 3), (23, 3), (24, 3), (27, 3)], keeps := [(1, { inT := [13], inL := [], mg := true, wT := [8, 9, 10, 11, 12], wL := [] }), (4, { inT := [], inL := [], outT := [(21, .k (.bool))], outL := [], retT := [], retL := [], exits := [], dl := true, wT := [14, 15, 16, 17, 18, 19, 20, 21], wL := [] }), (13, { inT := [], inL := [], outT := [(33, .k (.bool))], outL := [], retT := [], retL := [], exits := [], dl := true, wT := [33, 35], wL := [] }), (16, { inT := [6], inL := [], mg := true, wT := [36, 37, 38, 39, 40], wL := [] })], blocks := [] }
def ann21 : Ann := { locals := [3, 5, 6], base := [(3, 3), (7, 3), (10, 3), (13, 3), (23, 3), (24, 3), (5, 5), (11, 5), (14, 5), (21, 5), (6, 6)], keeps := [], blocks := [] }
def ann22 : Ann := { locals := [3, 6], base := [(3, 3), (9, 3), (10, 3), (13, 3), (6, 6)], keeps := [], blocks := [] }
def ann23 : Ann := { locals := [1, 2], base := [(1, 1), (3, 1), (4, 1), (2, 2)], keeps := [], blocks := [] }
def ann24 : Ann := { locals := [3, 5, 6, 10], base := [(3, 3), (17, 3), (30, 3), (31, 3), (35, 3), (40, 3), (47, 3), (73, 3), (5, 5), (13, 5), (23, 5), (27, 5), (62, 5), (66, 5), (97, 5), (6, 6), (10, 10), (79, 10), (80, 10), (89, 10), (92, 10)], keeps := [(1, { inT := [], inL := [], outT := [(21, .k (.bool))], outL := [], retT := [], retL := [], exits := [], dl := true, wT := [13, 14, 15, 16, 17, 18, 19, 20, 21], wL := [] }), (5, { inT := [9], inL := [], mg := true, wT := [23, 24, 25, 26, 27, 28, 29, 30, 31, 32, 33, 34, 35, 36, 37, 38, 39, 40, 41, 42, 43, 44, 45], wL := [] }), (8, { inT := [1, 3, 5, 6, 8, 9, 10, 48, 49], inL := [3, 5, 6, 10], outT := [(1, .k (.int .i64)), (3, .lp 3), (5, .lp 5), (6, .lp 6), (8, .k (.bool)), (9, .k (.bool)), (10, .lp 10)], outL := [(3, 30, [.int .u32, .int .u32, .int .u32, .int .u32, .int .u32, .int .u32, .int .u32, .int .u32, .int .u8, .int .i64, .int .u32, .bool]), (5, 26, [.int .u8, .int .i64, .slice, .bool, .int .u32, .int .u32, .int .u8, .bool]), (6, 30, [.int .u32, .int .u32, .int .u32, .int .u32, .int .u32, .int .u32, .int .u32, .int .u32, .int .u8, .int .i64, .int .u32, .bool]), (10, 30, [.int .u32, .int .u32, .int .u32, .int .u32, .int .u32, .int .u32, .int .u32, .int .u32, .int .u8, .int .i64, .int .u32, .bool])], retT := [], retL := [], exits := [0] }), (12, { inT := [70], inL := [], mg := true, wT := [53, 54, 55, 56, 57, 58, 59, 60, 61, 62, 63, 64, 65, 66, 67, 68, 69], wL := [] }), (15, { inT := [9], inL := [], mg := true, wT := [71, 72, 73, 74, 75, 76, 77], wL := [] }), (18, { inT := [87], inL := [], mg := true, wT := [82, 83, 84, 85, 86], wL := [] })], blocks := [] }
def ann25 : Ann := { locals := [1], base := [(1, 1), (9, 1), (10, 1)], keeps := [(2, { inT := [1, 3], inL := [1], outT := [], outL := [], retT := [(2, .k (.bool))], retL := [], exits := [0] })], blocks := [] }
def ann26 : Ann := { locals := [1, 2], base := [(1, 1), (3, 1), (4, 1), (2, 2)], keeps := [], blocks := [] }
def ann27 : Ann := { locals := [3, 6], base := [(3, 3), (8, 3), (10, 3), (17, 3), (6, 6)], keeps := [(3, { inT := [16], inL := [], mg := true, wT := [11, 12, 13, 14, 15], wL := [] })], blocks := [] }
def ann28 : Ann := { locals := [2], base := [(2, 2), (11, 2), (19, 2), (20, 2), (23, 2)], keeps := [(1, { inT := [10], inL := [], mg := true, wT := [5, 6, 7, 8, 9], wL := [] }), (9, { inT := [], inL := [], outT := [(15, .k (.bool))], outL := [], retT := [], retL := [], exits := [], dl := true, wT := [15, 17], wL := [] })], blocks := [] }
def ann29 : Ann := { locals := [], base := [], keeps := [(1, { inT := [2], inL := [], mg := true, wT := [3, 4, 5, 6, 7, 8], wL := [] })], blocks := [] }
def ann30 : Ann := { locals := [2, 4], base := [(2, 2), (6, 2), (7, 2), (8, 2), (13, 2), (4, 4)], keeps := [(2, { inT := [17], inL := [], mg := true, wT := [8, 9, 10, 11, 12, 13, 14, 15, 16], wL := [] })], blocks := [] }
def anns : List (Nat × Ann) := [(2, ann2), (3, ann3), (4, ann4), (5, ann5), (6, ann6), (7, ann7), (8, ann8), (9, ann9), (10, ann10), (11, ann11), (12, ann12), (13, ann13), (14, ann14), (15, ann15), (16, ann16), (17, ann17), (18, ann18), (19, ann19), (20, ann20), (21, ann21), (22, ann22), (23, ann23), (24, ann24), (25, ann25), (26, ann26), (27, ann27), (28, ann28), (29, ann29), (30, ann30)]
theorem ti_ok (t : Nat) (x : TI) (h : tab[t]? = some x) : tiOf Try.prog t = some x := by
  have h1 : t < 73 := by
    have h2 : tab.length = 73 := by kernel_rfl
    have := (List.getElem?_eq_some_iff.1 h).1
    omega
  have h3 := congrArg (fun l => l[t]?) tab_ok
  simp only [List.getElem?_map, h, List.getElem?_range h1, Option.map_some, Option.some.injEq] at h3
  exact h3
theorem eq_ok (t : Nat) (ks : List Kind) (h : Am.look eqs t = some ks) : eqOk Try.prog t ks = true := by
  have key : ∀ l : List (TypeId × List Kind), l.all (fun x => eqOk Try.prog x.1 x.2) = true → Am.look l t = some ks → eqOk Try.prog t ks = true := by
    intro l
    induction l with
    | nil => intro _ h; cases h
    | cons p l ih =>
      intro h1 h2
      rw [List.all_cons, Bool.and_eq_true] at h1
      simp only [Am.look, beq_iff] at h2
      by_cases he : t = p.1
      · simp only [he, decide_true, cond_true, Option.some.injEq] at h2
        rw [he, ← h2]; exact h1.1
      · simp only [he, decide_false, cond_false] at h2
        exact ih h1.2 h2
  exact key _ eqs_ok h
noncomputable def fns : List (Nat × Func) := [(2, Try.f2), (3, Try.f3), (4, Try.f4), (5, Try.f5), (6, Try.f6), (7, Try.f7), (8, Try.f8), (9, Try.f9), (10, Try.f10), (11, Try.f11), (12, Try.f12), (13, Try.f13), (14, Try.f14), (15, Try.f15), (16, Try.f16), (17, Try.f17), (18, Try.f18), (19, Try.f19), (20, Try.f20), (21, Try.f21), (22, Try.f22), (23, Try.f23), (24, Try.f24), (25, Try.f25), (26, Try.f26), (27, Try.f27), (28, Try.f28), (29, Try.f29), (30, Try.f30)]
theorem fns_ok : fns.map (fun x => Try.prog.funcs[x.1]?) = fns.map (fun x => some x.2) := by kernel_rfl
theorem fn_ok (f : Nat) (x : Func) (h : Am.look fns f = some x) : Try.prog.funcs[f]? = some x := by
  have key : ∀ l : List (Nat × Func), l.map (fun x => Try.prog.funcs[x.1]?) = l.map (fun x => some x.2) → Am.look l f = some x → Try.prog.funcs[f]? = some x := by
    intro l
    induction l with
    | nil => intro _ h; cases h
    | cons p l ih =>
      intro h1 h2
      simp only [List.map_cons, List.cons.injEq] at h1
      simp only [Am.look, beq_iff] at h2
      by_cases he : f = p.1
      · simp only [he, decide_true, cond_true, Option.some.injEq] at h2
        rw [he, ← h2]; exact h1.1
      · simp only [he, decide_false, cond_false] at h2
        exact ih h1.2 h2
  exact key _ fns_ok h
noncomputable def env : Env where
  P := Try.prog
  fn := fun f => Am.look fns f
  fn_ok := fn_ok
  ti := fun t => tab[t]?
  ti_ok := ti_ok
  ann := fun f => (Am.look anns f).getD {}
  eqt := eqs
  eq_ok := eq_ok
  names := names_ok
theorem mixed : Try.prog.follows .mixedOrders = true := by kernel_rfl
theorem sound : Sound env (Run env) := Run_sound (E := env) mixed
end Go.Proofs.Ytmoopebmajefkaa
