/- The equations of the calls and of the loops' rounds; the kernel looks at each. Written by a program (wip/am/Walk.lean). -/
import Derived.Test.YtibkggbidojocaaDoorAmEnv
import Derived.Test.YtibkggbidojocaaDoorAmSep
namespace Go.Proofs.YtibkggbidojocaaDoor
open Go.Am
set_option maxRecDepth 100000
set_option linter.unusedVariables false

theorem eq3 : ∀ (x0 x1 : Int) (H : Am.Heap) (K : Am.V → Am.Heap → Prop),
  Am.Rec.call (Am.Run env) 3 [V.int IntKind.i64 x0, V.int IntKind.u8 x1] H K =
  Am.Rec.call (Am.Run env) 5 [V.int IntKind.i64 x0] H fun v H' ↦
   req (V.isK Kind.str v)
   (Am.Rec.call (Am.Run env) 6 [V.str (V.getStr v)] H' fun v_1 H' ↦
    req (V.isTuple 2 v_1 && (V.isK (Kind.int IntKind.i64) (nthV (V.vals v_1) 0) && (V.isK Kind.bool (nthV (V.vals v_1) 1) || false)))
    (req (Am.strOk (Am.Heap.alloc H' (Am.Obj.cells 5 [V.int IntKind.u8 x1] false)) (Option.some (H'.2, 0)) 1)
     (req (Am.joinOk (V.getStr v) (Am.strAt (Am.Heap.alloc H' (Am.Obj.cells 5 [V.int IntKind.u8 x1] false)) (Option.some (H'.2, 0)) 1))
     (Am.Rec.call (Am.Run env) 6
      [V.str (Am.joinS (V.getStr v) (Am.strAt (Am.Heap.alloc H' (Am.Obj.cells 5 [V.int IntKind.u8 x1] false)) (Option.some (H'.2, 0)) 1))]
      (Am.Heap.alloc H' (Am.Obj.cells 5 [V.int IntKind.u8 x1] false)) fun v_2 H'_1 ↦
      req (V.isTuple 2 v_2 && (V.isK (Kind.int IntKind.i64) (nthV (V.vals v_2) 0) && (V.isK Kind.bool (nthV (V.vals v_2) 1) || false)))
      (req (Am.joinOk (Am.strOf [48]) (V.getStr v))
       (Am.Rec.call (Am.Run env) 6 [V.str (Am.joinS (Am.strOf [48]) (V.getStr v))] H'_1
       fun v_3 H'_2 ↦
       req
        (V.isTuple 2 v_3 && (V.isK (Kind.int IntKind.i64) (nthV (V.vals v_3) 0) && (V.isK Kind.bool (nthV (V.vals v_3) 1) || false)))
        (Am.Rec.call (Am.Run env) 7 [] H'_2 fun v_4 H'_3 ↦
        req (V.isK Kind.bool v_4)
         (br
         (bif !!V.getBool v_4 then
          bif !!V.getBool (nthV (V.vals v_1) 1) then
          bif !!decide (V.getInt (nthV (V.vals v_1) 0) = x0) then V.getBool (nthV (V.vals v_3) 1) else true
          else true
         else true)
         (K (V.bool false) H'_3)
         (br (!!V.getBool (nthV (V.vals v_2) 1))
          (Am.Rec.call (Am.Run env) 5 [V.int IntKind.i64 (V.getInt (nthV (V.vals v_2) 0))] H'_3 fun v_5 H'_4 ↦
          req (V.isK Kind.str v_5)
           (K
           (V.bool
            (Am.strEq (V.getStr v_5)
            (Am.joinS (V.getStr v) (Am.strAt (Am.Heap.alloc H' (Am.Obj.cells 5 [V.int IntKind.u8 x1] false)) (Option.some (H'.2, 0)) 1))))
           H'_4))
          (K (V.bool true) H'_3)))))))))) :=
  fun x0 x1 H K => (Run_call (E := env)).trans (by kernel_rfl)

theorem eq4 : ∀ (x0 : ByteArray) (H : Am.Heap) (K : Am.V → Am.Heap → Prop),
  Am.Rec.call (Am.Run env) 4 [V.str x0] H K =
  Am.Rec.call (Am.Run env) 6 [V.str x0] H fun v H' ↦
   req (V.isTuple 2 v && (V.isK (Kind.int IntKind.i64) (nthV (V.vals v) 0) && (V.isK Kind.bool (nthV (V.vals v) 1) || false)))
   (br (!V.getBool (nthV (V.vals v) 1))
    (Am.Rec.call (Am.Run env) 7 [] H' fun v H' ↦ req (V.isK Kind.bool v) (K (V.bool (V.getBool v)) H'))
    (Am.Rec.call (Am.Run env) 7 [] H' fun v_1 H' ↦
    req (V.isK Kind.bool v_1)
     (br (V.getBool v_1)
     (Am.Rec.call (Am.Run env) 5 [V.int IntKind.i64 (V.getInt (nthV (V.vals v) 0))] H' fun v H' ↦
      req (V.isK Kind.str v) (K (V.bool (Am.strEq (V.getStr v) x0)) H'))
     (K (V.bool false) H')))) :=
  fun x0 H K => (Run_call (E := env)).trans (by kernel_rfl)

theorem eq5 : ∀ (x0 : Int) (H : Am.Heap) (K : Am.V → Am.Heap → Prop),
  Am.Rec.call (Am.Run env) 5 [V.int IntKind.i64 x0] H K =
  br (decide (x0 < 0))
   (Am.Rec.call (Am.Run env) 8
   [V.int IntKind.u64 (IntKind.wrap IntKind.u64 (IntKind.wrap IntKind.u64 (IntKind.wrap IntKind.i64 (0 - IntKind.wrap IntKind.i64 (x0 + 1))) + 1))] H fun v H' ↦
   req (V.isK Kind.str v)
    (req (Am.joinOk (Am.strOf [45]) (V.getStr v))
    (K (V.str (Am.joinS (Am.strOf [45]) (V.getStr v))) H')))
   (Am.Rec.call (Am.Run env) 8 [V.int IntKind.u64 (IntKind.wrap IntKind.u64 x0)] H fun v H' ↦
   req (V.isK Kind.str v) (K (V.str (V.getStr v)) H')) :=
  fun x0 H K => (Run_call (E := env)).trans (by kernel_rfl)

theorem eq6 : ∀ (x0 : ByteArray) (H : Am.Heap) (K : Am.V → Am.Heap → Prop),
  Am.Rec.call (Am.Run env) 6 [V.str x0] H K =
  Am.extCall env 9 [V.str x0, V.int IntKind.i64 10, V.int IntKind.i64 64] H fun v H' ↦
   req (V.isTuple 2 v && (V.isK (Kind.int IntKind.i64) (nthV (V.vals v) 0) && (V.isK Kind.iface (nthV (V.vals v) 1) || false)))
   (req (V.isK Kind.iface (nthV (V.vals v) 1))
    (br (V.isNilIface (nthV (V.vals v) 1))
    (Am.extCall env 10 [V.int IntKind.i64 (V.getInt (nthV (V.vals v) 0)), V.int IntKind.i64 10] H' fun v_1 H' ↦
     req (V.isK Kind.str v_1) (K (V.tuple [V.int IntKind.i64 (V.getInt (nthV (V.vals v) 0)), V.bool (Am.strEq (V.getStr v_1) x0)]) H'))
    (K (V.tuple [V.int IntKind.i64 (V.getInt (nthV (V.vals v) 0)), V.bool false]) H'))) :=
  fun x0 H K => (Run_call (E := env)).trans (by kernel_rfl)

theorem eq7 : ∀ (H : Am.Heap) (K : Am.V → Am.Heap → Prop),
  Am.Rec.call (Am.Run env) 7 [] H K =
  Am.Rec.call (Am.Run env) 11
   [V.str
    (Am.strOf [119, 114, 105, 116,
     101, 32, 51, 32,
     34, 97, 32, 98,
     34])]
   H fun v H' ↦
   req
   (V.isTuple 3 v &&
    (V.isK Kind.slice (nthV (V.vals v) 0) &&
    (V.isK (Kind.int IntKind.i64) (nthV (V.vals v) 1) && (V.isK (Kind.int IntKind.i64) (nthV (V.vals v) 2) || false))))
   (req
    (Am.mergeR (decide (V.getInt (nthV (V.vals v) 2) = 0))
    (Am.mergeR (decide ((↑(V.slLen (nthV (V.vals v) 0)) : Int) = 3))
     (decide (2 < (↑(V.slLen (nthV (V.vals v) 0)) : Int)) && Option.isSome (V.slPtr (nthV (V.vals v) 0)) && true &&
     (Am.Heap.inb H' (Option.getD (V.slPtr (nthV (V.vals v) 0)) (0, 0)).1 ((Option.getD (V.slPtr (nthV (V.vals v) 0)) (0, 0)).2 + 2) 1 &&
       V.isK Kind.str (Am.Heap.cell H' (Option.getD (V.slPtr (nthV (V.vals v) 0)) (0, 0)).1 ((Option.getD (V.slPtr (nthV (V.vals v) 0)) (0, 0)).2 + 2)) &&
      true &&
      true))
     true)
    (Am.mergeR false
     (decide (2 < (↑(V.slLen (nthV (V.vals v) 0)) : Int)) && Option.isSome (V.slPtr (nthV (V.vals v) 0)) && true &&
     (Am.Heap.inb H' (Option.getD (V.slPtr (nthV (V.vals v) 0)) (0, 0)).1 ((Option.getD (V.slPtr (nthV (V.vals v) 0)) (0, 0)).2 + 2) 1 &&
       V.isK Kind.str (Am.Heap.cell H' (Option.getD (V.slPtr (nthV (V.vals v) 0)) (0, 0)).1 ((Option.getD (V.slPtr (nthV (V.vals v) 0)) (0, 0)).2 + 2)) &&
      true &&
      true))
     true))
    (K
    (V.bool
     (decide (V.getInt (nthV (V.vals v) 2) = 0) &&
     (decide ((↑(V.slLen (nthV (V.vals v) 0)) : Int) = 3) &&
      (Am.strEq (V.getStr (Am.Heap.cell H' (Option.getD (V.slPtr (nthV (V.vals v) 0)) (0, 0)).1 ((Option.getD (V.slPtr (nthV (V.vals v) 0)) (0, 0)).2 + 2)))
       (Am.strOf [97, 32, 98]) ||
       false ||
      false))))
    H')) :=
  fun H K => (Run_call (E := env)).trans (by kernel_rfl)

theorem eq8 : ∀ (x0 : Int) (H : Am.Heap) (K : Am.V → Am.Heap → Prop),
  Am.Rec.call (Am.Run env) 8 [V.int IntKind.u64 x0] H K =
  br (decide (x0 < 10))
   (req (Am.strOk (Am.Heap.alloc H (Am.Obj.cells 5 [V.int IntKind.u8 (IntKind.wrap IntKind.u8 (IntKind.wrap IntKind.u64 (48 + x0)))] false)) (Option.some (H.2, 0)) 1)
   (K (V.str (Am.strAt (Am.Heap.alloc H (Am.Obj.cells 5 [V.int IntKind.u8 (IntKind.wrap IntKind.u8 (IntKind.wrap IntKind.u64 (48 + x0)))] false)) (Option.some (H.2, 0)) 1))
    (Am.Heap.alloc H (Am.Obj.cells 5 [V.int IntKind.u8 (IntKind.wrap IntKind.u8 (IntKind.wrap IntKind.u64 (48 + x0)))] false))))
   (Am.Rec.call (Am.Run env) 8 [V.int IntKind.u64 (IntKind.wrap IntKind.u64 (Int.tdiv x0 10))] H fun v H' ↦
   req (V.isK Kind.str v)
    (Am.Rec.call (Am.Run env) 8 [V.int IntKind.u64 (Int.tmod x0 10)] H' fun v_1 H' ↦
    req (V.isK Kind.str v_1) (req (Am.joinOk (V.getStr v) (V.getStr v_1)) (K (V.str (Am.joinS (V.getStr v) (V.getStr v_1))) H')))) :=
  fun x0 H K => (Run_call (E := env)).trans (by kernel_rfl)

theorem eq11 : ∀ (x0 : ByteArray) (H : Am.Heap) (K : Am.V → Am.Heap → Prop),
  Am.Rec.call (Am.Run env) 11 [V.str x0] H K =
  br (decide ((↑(ByteArray.size x0) : Int) > 400)) (K (V.tuple [V.slice Option.none 0 0, V.int IntKind.i64 400, V.int IntKind.i64 2]) H)
   (Am.Rec.loop (Am.Run env) (Am.loopAt env 11 6) 11 6
   (St.mk (Am.look [(0, T.v (V.str x0)), (5, T.v (V.ptr (Option.some (H.2, 0)))), (15, T.lp 15 0)]) (Am.look [(15, Loc.iter x0 0)])
    (Am.Heap.alloc H (Am.Obj.cells 46 (c45 Option.none 0 0 Option.none Option.none 0 0 false false false false) false)))
   (fun S' ↦
    req
    (Am.isKT (KT.k Kind.slice) (S'.1 2) && (Am.isKT (KT.k (Kind.int IntKind.i64)) (S'.1 3) && (Am.isKT (KT.k (Kind.int IntKind.i64)) (S'.1 4) || false)) ||
     false)
    (K
     (V.tuple
     [V.slice (V.slPtr (T.val (S'.1 2))) (V.slLen (T.val (S'.1 2))) (V.slCap (T.val (S'.1 2))), V.int IntKind.i64 (V.getInt (T.val (S'.1 3))),
      V.int IntKind.i64 (V.getInt (T.val (S'.1 4)))])
     S'.3))
   fun j S' ↦
   br (Nat.beq j 0)
    (req (Am.isKT (KT.k Kind.str) (S'.1 0) && (Am.isKT (KT.k Kind.ptr) (S'.1 5) || false) || false)
    (req (Option.isSome (V.getPtr (T.val (S'.1 5))))
     (req
     (Am.Heap.inb S'.3 (Option.getD (V.getPtr (T.val (S'.1 5))) (0, 0)).1 ((Option.getD (V.getPtr (T.val (S'.1 5))) (0, 0)).2 + 4) 1 &&
      V.isK Kind.bool (Am.Heap.cell S'.3 (Option.getD (V.getPtr (T.val (S'.1 5))) (0, 0)).1 ((Option.getD (V.getPtr (T.val (S'.1 5))) (0, 0)).2 + 4)))
     (br (V.getBool (Am.Heap.cell S'.3 (Option.getD (V.getPtr (T.val (S'.1 5))) (0, 0)).1 ((Option.getD (V.getPtr (T.val (S'.1 5))) (0, 0)).2 + 4)))
      (K (V.tuple [V.slice Option.none 0 0, V.int IntKind.i64 (↑(ByteArray.size (V.getStr (T.val (S'.1 0)))) : Int), V.int IntKind.i64 14]) S'.3)
      (Am.Rec.call (Am.Run env) 17 [V.ptr (V.getPtr (T.val (S'.1 5)))] S'.3 fun v H' ↦
      req (Option.isSome (V.getPtr (T.val (S'.1 5))))
       (req
       (Am.Heap.inb H' (Option.getD (V.getPtr (T.val (S'.1 5))) (0, 0)).1 (Option.getD (V.getPtr (T.val (S'.1 5))) (0, 0)).2 1 &&
        V.isK Kind.slice (Am.Heap.cell H' (Option.getD (V.getPtr (T.val (S'.1 5))) (0, 0)).1 (Option.getD (V.getPtr (T.val (S'.1 5))) (0, 0)).2))
       (K
        (V.tuple
        [V.slice (V.slPtr (Am.Heap.cell H' (Option.getD (V.getPtr (T.val (S'.1 5))) (0, 0)).1 (Option.getD (V.getPtr (T.val (S'.1 5))) (0, 0)).2))
         (V.slLen (Am.Heap.cell H' (Option.getD (V.getPtr (T.val (S'.1 5))) (0, 0)).1 (Option.getD (V.getPtr (T.val (S'.1 5))) (0, 0)).2))
         (V.slCap (Am.Heap.cell H' (Option.getD (V.getPtr (T.val (S'.1 5))) (0, 0)).1 (Option.getD (V.getPtr (T.val (S'.1 5))) (0, 0)).2)),
         V.int IntKind.i64 0, V.int IntKind.i64 0])
        H')))))))
    False) :=
  fun x0 H K => (Run_call (E := env)).trans (by kernel_rfl)

theorem lp11_6 : ∀ (t0 : ByteArray) (t5 : Option (Nat × Nat)) (l15_0 : ByteArray) (l15_1 : Nat) (H : Am.Heap) (Kr : Am.St → Prop) (Ke : Nat → Am.St → Prop),
  Am.Rec.loop (Am.Run env) (Am.loopAt env 11 6) 11 6
   (St.mk (Am.look [(0, T.v (V.str t0)), (5, T.v (V.ptr t5)), (15, T.lp 15 0)]) (Am.look [(15, Loc.iter l15_0 l15_1)]) H) Kr Ke =
  br (Nat.ble (Nat.succ l15_1) (ByteArray.size l15_0))
   (Am.joinP
   (fun Q ↦
    br (decide ((↑(Go.Utf8.decode l15_0 l15_1).1 : Int) = 65533))
    (req (decide (0 ≤ (↑l15_1 : Int)) && decide ((↑l15_1 : Int) ≤ (↑(ByteArray.size t0) : Int)))
     (Am.Rec.call (Am.Run env) 15
     [V.str (ByteArray.extract t0 l15_1 (ByteArray.size t0)),
      V.str (Am.strOf [239, 191, 189])]
     H fun v H' ↦ req (V.isK Kind.bool v) (Q (St.mk (Am.look [(28, T.v (V.bool !V.getBool v))]) (Am.look []) H'))))
    (Q (St.mk (Am.look [(28, T.v (V.bool false))]) (Am.look []) H)))
   fun S' ↦
   req (Am.isKT (KT.k Kind.bool) (S'.1 28) || false || false)
    (br (V.getBool (T.val (S'.1 28)))
    (Kr
     (St.mk (Am.look [(2, T.v (V.slice Option.none 0 0)), (3, T.v (V.int IntKind.i64 (↑l15_1 : Int))), (4, T.v (V.int IntKind.i64 14))]) (Am.look []) S'.3))
    (Am.Rec.call (Am.Run env) 16 [V.ptr t5, V.int IntKind.i32 (↑(Go.Utf8.decode l15_0 l15_1).1 : Int)] S'.3 fun v H' ↦
     req (V.isK (Kind.int IntKind.i64) v)
     (br (!decide (V.getInt v = 0))
      (Kr
      (St.mk (Am.look [(2, T.v (V.slice Option.none 0 0)), (3, T.v (V.int IntKind.i64 (↑l15_1 : Int))), (4, T.v (V.int IntKind.i64 (V.getInt v)))])
       (Am.look []) H'))
      (Am.Rec.loop (Am.Run env) (Am.loopAt env 11 6) 11 6
      (St.mk (Am.look [(0, T.v (V.str t0)), (5, T.v (V.ptr t5)), (15, T.lp 15 0)]) (Am.look [(15, Loc.iter l15_0 (l15_1 + (Go.Utf8.decode l15_0 l15_1).2))])
       H')
      Kr Ke)))))
   (Ke 0 (St.mk (Am.look [(0, T.v (V.str t0)), (5, T.v (V.ptr t5))]) (Am.look []) H)) :=
  fun t0 t5 l15_0 l15_1 H Kr Ke => (Run_loop (E := env)).trans (by kernel_rfl)

theorem eq15 : ∀ (x0 x1 : ByteArray) (H : Am.Heap) (K : Am.V → Am.Heap → Prop),
  Am.Rec.call (Am.Run env) 15 [V.str x0, V.str x1] H K =
  Am.Rec.call (Am.Run env) 27 [V.str x0, V.str x1] H fun v H' ↦ req (V.isK Kind.bool v) (K (V.bool (V.getBool v)) H') :=
  fun x0 x1 H K => (Run_call (E := env)).trans (by kernel_rfl)

theorem eq16 : ∀ (x0 : Option (Nat × Nat)) (x1 : Int) (H : Am.Heap) (K : Am.V → Am.Heap → Prop),
  Am.Rec.call (Am.Run env) 16 [V.ptr x0, V.int IntKind.i32 x1] H K =
  req (Option.isSome x0)
   (req (Am.Heap.inb H (Option.getD x0 (0, 0)).1 ((Option.getD x0 (0, 0)).2 + 5) 1 && V.isK Kind.bool (Am.Heap.cell H (Option.getD x0 (0, 0)).1 ((Option.getD x0 (0, 0)).2 + 5)))
   (Am.joinP
    (fun Q ↦
    br (V.getBool (Am.Heap.cell H (Option.getD x0 (0, 0)).1 ((Option.getD x0 (0, 0)).2 + 5)))
     (Am.Rec.call (Am.Run env) 28
     [V.str
      (Am.strOf [34, 92, 110, 116]),
      V.int IntKind.i32 x1]
     H fun v H' ↦
     req (V.isK (Kind.int IntKind.i64) v)
      (br (decide (V.getInt v < 0)) (K (V.int IntKind.i64 14) H')
      (req (Option.isSome x0)
       (req (decide (0 ≤ V.getInt v) && decide (V.getInt v < 4))
       (Am.Rec.call (Am.Run env) 29
        [V.ptr (Option.some ((Option.getD x0 (0, 0)).1, (Option.getD x0 (0, 0)).2 + 1)),
        V.int IntKind.u8
         (Am.byteAt
         (Am.strOf [34, 92, 10, 9])
         (Int.toNat (V.getInt v)))]
        H' fun v H' ↦
        req (V.isK Kind.iface v)
        (req (Option.isSome x0)
         (req (Am.Heap.wr H' (Option.getD x0 (0, 0)).1 ((Option.getD x0 (0, 0)).2 + 5) 1)
         (Q (St.mk (Am.look []) (Am.look []) (Am.Heap.store H' (Option.getD x0 (0, 0)).1 ((Option.getD x0 (0, 0)).2 + 5) [V.bool false]))))))))))
     (req (Option.isSome x0)
     (req (Am.Heap.inb H (Option.getD x0 (0, 0)).1 ((Option.getD x0 (0, 0)).2 + 4) 1 && V.isK Kind.bool (Am.Heap.cell H (Option.getD x0 (0, 0)).1 ((Option.getD x0 (0, 0)).2 + 4)))
      (br (V.getBool (Am.Heap.cell H (Option.getD x0 (0, 0)).1 ((Option.getD x0 (0, 0)).2 + 4)) && decide (x1 = 92))
      (req (Option.isSome x0)
       (req (Am.Heap.wr H (Option.getD x0 (0, 0)).1 ((Option.getD x0 (0, 0)).2 + 5) 1)
       (Q (St.mk (Am.look []) (Am.look []) (Am.Heap.store H (Option.getD x0 (0, 0)).1 ((Option.getD x0 (0, 0)).2 + 5) [V.bool true])))))
      (req (Option.isSome x0)
       (req (Am.Heap.inb H (Option.getD x0 (0, 0)).1 ((Option.getD x0 (0, 0)).2 + 4) 1 && V.isK Kind.bool (Am.Heap.cell H (Option.getD x0 (0, 0)).1 ((Option.getD x0 (0, 0)).2 + 4)))
       (br (V.getBool (Am.Heap.cell H (Option.getD x0 (0, 0)).1 ((Option.getD x0 (0, 0)).2 + 4)) && decide (x1 = 34))
        (req (Option.isSome x0)
        (req (Am.Heap.wr H (Option.getD x0 (0, 0)).1 ((Option.getD x0 (0, 0)).2 + 4) 1)
         (req (Option.isSome x0)
         (req
          (Am.Heap.wr (Am.Heap.store H (Option.getD x0 (0, 0)).1 ((Option.getD x0 (0, 0)).2 + 4) [V.bool false]) (Option.getD x0 (0, 0)).1 ((Option.getD x0 (0, 0)).2 + 6) 1)
          (Q
          (St.mk (Am.look []) (Am.look [])
           (Am.Heap.store (Am.Heap.store H (Option.getD x0 (0, 0)).1 ((Option.getD x0 (0, 0)).2 + 4) [V.bool false]) (Option.getD x0 (0, 0)).1 ((Option.getD x0 (0, 0)).2 + 6)
           [V.bool true])))))))
        (req (Option.isSome x0)
        (req
         (Am.Heap.inb H (Option.getD x0 (0, 0)).1 ((Option.getD x0 (0, 0)).2 + 4) 1 && V.isK Kind.bool (Am.Heap.cell H (Option.getD x0 (0, 0)).1 ((Option.getD x0 (0, 0)).2 + 4)))
         (br (V.getBool (Am.Heap.cell H (Option.getD x0 (0, 0)).1 ((Option.getD x0 (0, 0)).2 + 4)) && decide (x1 < 32)) (K (V.int IntKind.i64 14) H)
         (req (Option.isSome x0)
          (req
          (Am.Heap.inb H (Option.getD x0 (0, 0)).1 ((Option.getD x0 (0, 0)).2 + 4) 1 &&
           V.isK Kind.bool (Am.Heap.cell H (Option.getD x0 (0, 0)).1 ((Option.getD x0 (0, 0)).2 + 4)))
          (br (V.getBool (Am.Heap.cell H (Option.getD x0 (0, 0)).1 ((Option.getD x0 (0, 0)).2 + 4)))
           (req (Option.isSome x0)
           (Am.Rec.call (Am.Run env) 30
            [V.ptr (Option.some ((Option.getD x0 (0, 0)).1, (Option.getD x0 (0, 0)).2 + 1)), V.int IntKind.i32 x1] H fun v H' ↦
            req
            (V.isTuple 2 v &&
             (V.isK (Kind.int IntKind.i64) (nthV (V.vals v) 0) && (V.isK Kind.iface (nthV (V.vals v) 1) || false)))
            (Q (St.mk (Am.look []) (Am.look []) H'))))
           (br (decide (x1 = 34))
           (req (Option.isSome x0)
            (req
            (Am.Heap.inb H (Option.getD x0 (0, 0)).1 ((Option.getD x0 (0, 0)).2 + 3) 1 &&
             V.isK Kind.bool (Am.Heap.cell H (Option.getD x0 (0, 0)).1 ((Option.getD x0 (0, 0)).2 + 3)))
            (br (V.getBool (Am.Heap.cell H (Option.getD x0 (0, 0)).1 ((Option.getD x0 (0, 0)).2 + 3))) (K (V.int IntKind.i64 14) H)
             (req (Option.isSome x0)
             (req (Am.Heap.wr H (Option.getD x0 (0, 0)).1 ((Option.getD x0 (0, 0)).2 + 3) 1)
              (req (Option.isSome x0)
              (req
               (Am.Heap.wr (Am.Heap.store H (Option.getD x0 (0, 0)).1 ((Option.getD x0 (0, 0)).2 + 3) [V.bool true]) (Option.getD x0 (0, 0)).1
               ((Option.getD x0 (0, 0)).2 + 4) 1)
               (Q
               (St.mk (Am.look []) (Am.look [])
                (Am.Heap.store (Am.Heap.store H (Option.getD x0 (0, 0)).1 ((Option.getD x0 (0, 0)).2 + 3) [V.bool true]) (Option.getD x0 (0, 0)).1
                ((Option.getD x0 (0, 0)).2 + 4) [V.bool true]))))))))))
           (Am.Rec.call (Am.Run env) 31 [V.int IntKind.i32 x1] H fun v H' ↦
            req (V.isK Kind.bool v)
            (br (V.getBool v)
             (Am.Rec.call (Am.Run env) 17 [V.ptr x0] H' fun v H' ↦ Q (St.mk (Am.look []) (Am.look []) H'))
             (Am.joinP
             (fun Q ↦
              req (Option.isSome x0)
              (req
               (Am.Heap.inb H' (Option.getD x0 (0, 0)).1 ((Option.getD x0 (0, 0)).2 + 6) 1 &&
               V.isK Kind.bool (Am.Heap.cell H' (Option.getD x0 (0, 0)).1 ((Option.getD x0 (0, 0)).2 + 6)))
               (br (!V.getBool (Am.Heap.cell H' (Option.getD x0 (0, 0)).1 ((Option.getD x0 (0, 0)).2 + 6)))
               (Am.Rec.call (Am.Run env) 32 [V.int IntKind.i32 x1] H' fun v H' ↦
                req (V.isK Kind.bool v) (Q (St.mk (Am.look [(96, T.v (V.bool !V.getBool v))]) (Am.look []) H')))
               (Q (St.mk (Am.look [(96, T.v (V.bool true))]) (Am.look []) H')))))
             fun S' ↦
             req (Am.isKT (KT.k Kind.bool) (S'.1 96) || false || false)
              (br (V.getBool (T.val (S'.1 96))) (K (V.int IntKind.i64 14) S'.3)
              (req (Option.isSome x0)
               (req (Am.Heap.wr S'.3 (Option.getD x0 (0, 0)).1 ((Option.getD x0 (0, 0)).2 + 3) 1)
               (req (Option.isSome x0)
                (Am.Rec.call (Am.Run env) 30
                [V.ptr (Option.some ((Option.getD x0 (0, 0)).1, (Option.getD x0 (0, 0)).2 + 1)), V.int IntKind.i32 x1]
                (Am.Heap.store S'.3 (Option.getD x0 (0, 0)).1 ((Option.getD x0 (0, 0)).2 + 3) [V.bool true]) fun v H' ↦
                req
                 (V.isTuple 2 v &&
                 (V.isK (Kind.int IntKind.i64) (nthV (V.vals v) 0) &&
                  (V.isK Kind.iface (nthV (V.vals v) 1) || false)))
                 (Q (St.mk (Am.look []) (Am.look []) H'))))))))))))))))))))))))
    fun S' ↦
    req (Option.isSome x0)
    (Am.Rec.call (Am.Run env) 33 [V.ptr (Option.some ((Option.getD x0 (0, 0)).1, (Option.getD x0 (0, 0)).2 + 1))] S'.3 fun v H' ↦
     req (V.isK (Kind.int IntKind.i64) v) (br (decide (V.getInt v > 200)) (K (V.int IntKind.i64 2) H') (K (V.int IntKind.i64 0) H'))))) :=
  fun x0 x1 H K => (Run_call (E := env)).trans (by kernel_rfl)

theorem eq17 : ∀ (x0 : Option (Nat × Nat)) (H : Am.Heap) (K : Am.V → Am.Heap → Prop),
  Am.Rec.call (Am.Run env) 17 [V.ptr x0] H K =
  req (Option.isSome x0)
   (req (Am.Heap.inb H (Option.getD x0 (0, 0)).1 ((Option.getD x0 (0, 0)).2 + 3) 1 && V.isK Kind.bool (Am.Heap.cell H (Option.getD x0 (0, 0)).1 ((Option.getD x0 (0, 0)).2 + 3)))
   (Am.joinP
    (fun Q ↦
    br (V.getBool (Am.Heap.cell H (Option.getD x0 (0, 0)).1 ((Option.getD x0 (0, 0)).2 + 3)))
     (Am.joinP
     (fun Q ↦
      req (Option.isSome x0)
      (req (Option.isSome x0)
       (req (Am.Heap.inb H (Option.getD x0 (0, 0)).1 (Option.getD x0 (0, 0)).2 1 && V.isK Kind.slice (Am.Heap.cell H (Option.getD x0 (0, 0)).1 (Option.getD x0 (0, 0)).2))
        (Am.extCall env 34 [V.ptr (Option.some ((Option.getD x0 (0, 0)).1, (Option.getD x0 (0, 0)).2 + 1))] H fun v H' ↦
        req (V.isK Kind.str v)
         (Am.appendOp env [36, 36]
         [V.slice (V.slPtr (Am.Heap.cell H (Option.getD x0 (0, 0)).1 (Option.getD x0 (0, 0)).2))
          (V.slLen (Am.Heap.cell H (Option.getD x0 (0, 0)).1 (Option.getD x0 (0, 0)).2)) (V.slCap (Am.Heap.cell H (Option.getD x0 (0, 0)).1 (Option.getD x0 (0, 0)).2)),
          V.slice (Option.some (H'.2, 0)) 1 1]
         (Am.Heap.alloc H' (Am.Obj.cells 9 [V.str (V.getStr v)] false)) fun q n c H' ↦
         req (Option.isSome x0)
          (req (Am.Heap.wr H' (Option.getD x0 (0, 0)).1 (Option.getD x0 (0, 0)).2 1)
          (Q (St.mk (Am.look []) (Am.look []) (Am.Heap.store H' (Option.getD x0 (0, 0)).1 (Option.getD x0 (0, 0)).2 [V.slice q n c])))))) ∧
       Am.extCall env 34 [V.ptr (Option.some ((Option.getD x0 (0, 0)).1, (Option.getD x0 (0, 0)).2 + 1))] H fun v H' ↦
        req (V.isK Kind.str v)
        (req (Am.Heap.inb H' (Option.getD x0 (0, 0)).1 (Option.getD x0 (0, 0)).2 1 && V.isK Kind.slice (Am.Heap.cell H' (Option.getD x0 (0, 0)).1 (Option.getD x0 (0, 0)).2))
         (Am.appendOp env [36, 36]
          [V.slice (V.slPtr (Am.Heap.cell H' (Option.getD x0 (0, 0)).1 (Option.getD x0 (0, 0)).2))
           (V.slLen (Am.Heap.cell H' (Option.getD x0 (0, 0)).1 (Option.getD x0 (0, 0)).2)) (V.slCap (Am.Heap.cell H' (Option.getD x0 (0, 0)).1 (Option.getD x0 (0, 0)).2)),
          V.slice (Option.some (H'.2, 0)) 1 1]
          (Am.Heap.alloc H' (Am.Obj.cells 9 [V.str (V.getStr v)] false)) fun q n c H' ↦
          req (Option.isSome x0)
          (req (Am.Heap.wr H' (Option.getD x0 (0, 0)).1 (Option.getD x0 (0, 0)).2 1)
           (Q (St.mk (Am.look []) (Am.look []) (Am.Heap.store H' (Option.getD x0 (0, 0)).1 (Option.getD x0 (0, 0)).2 [V.slice q n c]))))) ∧
         req
         (Am.Heap.inb (Am.Heap.alloc H' (Am.Obj.cells 9 [V.str (V.getStr v)] false)) (Option.getD x0 (0, 0)).1 (Option.getD x0 (0, 0)).2 1 &&
          V.isK Kind.slice (Am.Heap.cell (Am.Heap.alloc H' (Am.Obj.cells 9 [V.str (V.getStr v)] false)) (Option.getD x0 (0, 0)).1 (Option.getD x0 (0, 0)).2))
         (Am.appendOp env [36, 36]
          [V.slice (V.slPtr (Am.Heap.cell (Am.Heap.alloc H' (Am.Obj.cells 9 [V.str (V.getStr v)] false)) (Option.getD x0 (0, 0)).1 (Option.getD x0 (0, 0)).2))
           (V.slLen (Am.Heap.cell (Am.Heap.alloc H' (Am.Obj.cells 9 [V.str (V.getStr v)] false)) (Option.getD x0 (0, 0)).1 (Option.getD x0 (0, 0)).2))
           (V.slCap (Am.Heap.cell (Am.Heap.alloc H' (Am.Obj.cells 9 [V.str (V.getStr v)] false)) (Option.getD x0 (0, 0)).1 (Option.getD x0 (0, 0)).2)),
          V.slice (Option.some (H'.2, 0)) 1 1]
          (Am.Heap.alloc H' (Am.Obj.cells 9 [V.str (V.getStr v)] false)) fun q n c H' ↦
          req (Option.isSome x0)
          (req (Am.Heap.wr H' (Option.getD x0 (0, 0)).1 (Option.getD x0 (0, 0)).2 1)
           (Q (St.mk (Am.look []) (Am.look []) (Am.Heap.store H' (Option.getD x0 (0, 0)).1 (Option.getD x0 (0, 0)).2 [V.slice q n c])))))))))
     fun S' ↦
     req (Option.isSome x0)
      (Am.Rec.call (Am.Run env) 35 [V.ptr (Option.some ((Option.getD x0 (0, 0)).1, (Option.getD x0 (0, 0)).2 + 1))] S'.3 fun v H' ↦
      Q (St.mk (Am.look []) (Am.look []) H')))
     (Q (St.mk (Am.look []) (Am.look []) H)))
    fun S' ↦
    req (Option.isSome x0)
    (req (Am.Heap.wr S'.3 (Option.getD x0 (0, 0)).1 ((Option.getD x0 (0, 0)).2 + 3) 1)
     (req (Option.isSome x0)
     (req (Am.Heap.wr (Am.Heap.store S'.3 (Option.getD x0 (0, 0)).1 ((Option.getD x0 (0, 0)).2 + 3) [V.bool false]) (Option.getD x0 (0, 0)).1 ((Option.getD x0 (0, 0)).2 + 6) 1)
      (K (V.tuple [])
      (Am.Heap.store (Am.Heap.store S'.3 (Option.getD x0 (0, 0)).1 ((Option.getD x0 (0, 0)).2 + 3) [V.bool false]) (Option.getD x0 (0, 0)).1 ((Option.getD x0 (0, 0)).2 + 6)
       [V.bool false]))))))) :=
  fun x0 H K => (Run_call (E := env)).trans (by kernel_rfl)

theorem eq27 : ∀ (x0 x1 : ByteArray) (H : Am.Heap) (K : Am.V → Am.Heap → Prop),
  Am.Rec.call (Am.Run env) 27 [V.str x0, V.str x1] H K =
  br (decide ((↑(ByteArray.size x0) : Int) ≥ (↑(ByteArray.size x1) : Int)))
   (req (decide (0 ≤ (↑(ByteArray.size x1) : Int)) && decide ((↑(ByteArray.size x1) : Int) ≤ (↑(ByteArray.size x0) : Int)) || false)
   (K (V.bool (Am.strEq (ByteArray.extract x0 0 (ByteArray.size x1)) x1)) H))
   (K (V.bool false) H) :=
  fun x0 x1 H K => (Run_call (E := env)).trans (by kernel_rfl)

theorem eq28 : ∀ (x0 : ByteArray) (x1 : Int) (H : Am.Heap) (K : Am.V → Am.Heap → Prop),
  Am.Rec.call (Am.Run env) 28 [V.str x0, V.int IntKind.i32 x1] H K =
  br (decide (0 ≤ x1) && decide (x1 < 128))
   (Am.Rec.call (Am.Run env) 46 [V.str x0, V.int IntKind.u8 (IntKind.wrap IntKind.u8 x1)] H fun v H' ↦
   req (V.isK (Kind.int IntKind.i64) v) (K (V.int IntKind.i64 (V.getInt v)) H'))
   (br (decide (x1 = 65533))
   (Am.Rec.loop (Am.Run env) (Am.loopAt env 28 7) 28 7
    (St.mk (Am.look [(175, T.lp 175 0)]) (Am.look [(175, Loc.iter x0 0)]) H)
    (fun S' ↦ req (Am.isKT (KT.k (Kind.int IntKind.i64)) (S'.1 4) || false || false) (K (V.int IntKind.i64 (V.getInt (T.val (S'.1 4)))) S'.3)) fun j S' ↦
    br (Nat.beq j 9) (K (V.int IntKind.i64 (-1)) S'.3) False)
   (Am.Rec.call (Am.Run env) 47 [V.int IntKind.i32 x1] H fun v H' ↦
    req (V.isK Kind.bool v)
    (br (!V.getBool v) (K (V.int IntKind.i64 (-1)) H')
     (Am.Rec.loop (Am.Run env) (Am.loopAt env 28 22) 28 22
     (St.mk
      (Am.look
      [(0, T.v (V.str x0)), (7, T.v (V.str (Go.Utf8.encode x1))),
       (8, T.v (V.int IntKind.i64 (IntKind.wrap IntKind.i64 ((↑(ByteArray.size (Go.Utf8.encode x1)) : Int) - 1)))),
       (9, T.v (V.int IntKind.i64 (IntKind.wrap IntKind.i64 ((↑(ByteArray.size (Go.Utf8.encode x1)) : Int) - 1))))])
      (Am.look []) H')
     (fun S' ↦ req (Am.isKT (KT.k (Kind.int IntKind.i64)) (S'.1 4) || false || false) (K (V.int IntKind.i64 (V.getInt (T.val (S'.1 4)))) S'.3)) fun j S' ↦
     br (Nat.beq j 1) (K (V.int IntKind.i64 (-1)) S'.3) False)))) :=
  fun x0 x1 H K => (Run_call (E := env)).trans (by kernel_rfl)

theorem lp28_22 : ∀ (t0 t7 : ByteArray) (t8 t9 : Int) (H : Am.Heap) (Kr : Am.St → Prop) (Ke : Nat → Am.St → Prop),
  Am.Rec.loop (Am.Run env) (Am.loopAt env 28 22) 28 22
   (St.mk (Am.look [(0, T.v (V.str t0)), (7, T.v (V.str t7)), (8, T.v (V.int IntKind.i64 t8)), (9, T.v (V.int IntKind.i64 t9))]) (Am.look []) H) Kr
   Ke =
  br (decide (t9 < (↑(ByteArray.size t0) : Int)))
   (req (decide (0 ≤ t9) && decide (t9 < (↑(ByteArray.size t0) : Int)))
   (req (decide (0 ≤ t8) && decide (t8 < (↑(ByteArray.size t7) : Int)))
    (Am.joinP
    (fun Q ↦
     br (!decide (Am.byteAt t0 (Int.toNat t9) = Am.byteAt t7 (Int.toNat t8)))
     (req (decide (0 ≤ IntKind.wrap IntKind.i64 (t9 + 1)) && decide (IntKind.wrap IntKind.i64 (t9 + 1) ≤ (↑(ByteArray.size t0) : Int)))
      (req (decide (0 ≤ t8) && decide (t8 < (↑(ByteArray.size t7) : Int)))
      (Am.Rec.call (Am.Run env) 46
       [V.str (ByteArray.extract t0 (Int.toNat (IntKind.wrap IntKind.i64 (t9 + 1))) (ByteArray.size t0)), V.int IntKind.u8 (Am.byteAt t7 (Int.toNat t8))] H fun v H' ↦
       req (V.isK (Kind.int IntKind.i64) v)
       (br (decide (V.getInt v < 0)) (Kr (St.mk (Am.look [(4, T.v (V.int IntKind.i64 (-1)))]) (Am.look []) H'))
        (Q (St.mk (Am.look [(9, T.v (V.int IntKind.i64 (IntKind.wrap IntKind.i64 (t9 + IntKind.wrap IntKind.i64 (V.getInt v + 1)))))]) (Am.look []) H'))))))
     (Q (St.mk (Am.look [(9, T.v (V.int IntKind.i64 t9))]) (Am.look []) H)))
    fun S' ↦
    req (Am.isKT (KT.k (Kind.int IntKind.i64)) (S'.1 9) || false || false)
     (Am.Rec.loop (Am.Run env) (Am.loopAt env 28 33) 28 33
     (St.mk
      (Am.look
      [(0, T.v (V.str t0)), (7, T.v (V.str t7)), (8, T.v (V.int IntKind.i64 t8)), (9, T.v (V.int IntKind.i64 (V.getInt (T.val (S'.1 9))))),
       (12, T.v (V.int IntKind.i64 1))])
      (Am.look []) S'.3)
     (fun S' ↦ False) fun j S' ↦
     br (Nat.beq j 3)
      (req (Am.isKT (KT.k (Kind.int IntKind.i64)) (S'.1 8) && (Am.isKT (KT.k (Kind.int IntKind.i64)) (S'.1 9) || false) || false)
      (Kr
       (St.mk (Am.look [(4, T.v (V.int IntKind.i64 (IntKind.wrap IntKind.i64 (V.getInt (T.val (S'.1 9)) - V.getInt (T.val (S'.1 8))))))])
       (Am.look []) S'.3)))
      False))))
   (Ke 1 (St.mk (Am.look []) (Am.look []) H)) :=
  fun t0 t7 t8 t9 H Kr Ke => (Run_loop (E := env)).trans (by kernel_rfl)

theorem lp28_33 : ∀ (t0 t7 : ByteArray) (t8 t9 t12 : Int) (H : Am.Heap) (Kr : Am.St → Prop) (Ke : Nat → Am.St → Prop),
  Am.Rec.loop (Am.Run env) (Am.loopAt env 28 33) 28 33
   (St.mk
   (Am.look
    [(0, T.v (V.str t0)), (7, T.v (V.str t7)), (8, T.v (V.int IntKind.i64 t8)), (9, T.v (V.int IntKind.i64 t9)),
    (12, T.v (V.int IntKind.i64 t12))])
   (Am.look []) H)
   Kr Ke =
  br (decide (t12 < (↑(ByteArray.size t7) : Int)))
   (req (decide (0 ≤ IntKind.wrap IntKind.i64 (t9 - t12)) && decide (IntKind.wrap IntKind.i64 (t9 - t12) < (↑(ByteArray.size t0) : Int)))
   (req (decide (0 ≤ IntKind.wrap IntKind.i64 (t8 - t12)) && decide (IntKind.wrap IntKind.i64 (t8 - t12) < (↑(ByteArray.size t7) : Int)))
    (br (!decide (Am.byteAt t0 (Int.toNat (IntKind.wrap IntKind.i64 (t9 - t12))) = Am.byteAt t7 (Int.toNat (IntKind.wrap IntKind.i64 (t8 - t12))))) False
    (Am.Rec.loop (Am.Run env) (Am.loopAt env 28 33) 28 33
     (St.mk
     (Am.look
      [(0, T.v (V.str t0)), (7, T.v (V.str t7)), (8, T.v (V.int IntKind.i64 t8)), (9, T.v (V.int IntKind.i64 t9)),
      (12, T.v (V.int IntKind.i64 (IntKind.wrap IntKind.i64 (t12 + 1))))])
     (Am.look []) H)
     Kr Ke))))
   (Ke 3 (St.mk (Am.look [(8, T.v (V.int IntKind.i64 t8)), (9, T.v (V.int IntKind.i64 t9))]) (Am.look []) H)) :=
  fun t0 t7 t8 t9 t12 H Kr Ke => (Run_loop (E := env)).trans (by kernel_rfl)

theorem lp28_7 : ∀ (l175_0 : ByteArray) (l175_1 : Nat) (H : Am.Heap) (Kr : Am.St → Prop) (Ke : Nat → Am.St → Prop),
  Am.Rec.loop (Am.Run env) (Am.loopAt env 28 7) 28 7
   (St.mk (Am.look [(175, T.lp 175 0)]) (Am.look [(175, Loc.iter l175_0 l175_1)]) H) Kr Ke =
  br (Nat.ble (Nat.succ l175_1) (ByteArray.size l175_0))
   (br (decide ((↑(Go.Utf8.decode l175_0 l175_1).1 : Int) = 65533)) (Kr (St.mk (Am.look [(4, T.v (V.int IntKind.i64 (↑l175_1 : Int)))]) (Am.look []) H))
   (Am.Rec.loop (Am.Run env) (Am.loopAt env 28 7) 28 7
    (St.mk (Am.look [(175, T.lp 175 0)]) (Am.look [(175, Loc.iter l175_0 (l175_1 + (Go.Utf8.decode l175_0 l175_1).2))]) H) Kr Ke))
   (Ke 9 (St.mk (Am.look []) (Am.look []) H)) :=
  fun l175_0 l175_1 H Kr Ke => (Run_loop (E := env)).trans (by kernel_rfl)

theorem eq29 : ∀ (x0 : Option (Nat × Nat)) (x1 : Int) (H : Am.Heap) (K : Am.V → Am.Heap → Prop),
  Am.Rec.call (Am.Run env) 29 [V.ptr x0, V.int IntKind.u8 x1] H K =
  Am.extCall env 50 [V.ptr x0] H fun v H' ↦
   req (Option.isSome x0)
   (req (Am.Heap.inb H' (Option.getD x0 (0, 0)).1 ((Option.getD x0 (0, 0)).2 + 1) 1 && V.isK Kind.slice (Am.Heap.cell H' (Option.getD x0 (0, 0)).1 ((Option.getD x0 (0, 0)).2 + 1)))
    (Am.appendOp env [25, 25]
    [V.slice (V.slPtr (Am.Heap.cell H' (Option.getD x0 (0, 0)).1 ((Option.getD x0 (0, 0)).2 + 1))) (V.slLen (Am.Heap.cell H' (Option.getD x0 (0, 0)).1 ((Option.getD x0 (0, 0)).2 + 1)))
     (V.slCap (Am.Heap.cell H' (Option.getD x0 (0, 0)).1 ((Option.getD x0 (0, 0)).2 + 1))),
     V.slice (Option.some (H'.2, 0)) 1 1]
    (Am.Heap.alloc H' (Am.Obj.cells 5 [V.int IntKind.u8 x1] false)) fun q n c H' ↦
    req (Option.isSome x0)
     (req (Am.Heap.wr H' (Option.getD x0 (0, 0)).1 ((Option.getD x0 (0, 0)).2 + 1) 1)
     (K V.nilIface (Am.Heap.store H' (Option.getD x0 (0, 0)).1 ((Option.getD x0 (0, 0)).2 + 1) [V.slice q n c]))))) :=
  fun x0 x1 H K => (Run_call (E := env)).trans (by kernel_rfl)

theorem eq30 : ∀ (x0 : Option (Nat × Nat)) (x1 : Int) (H : Am.Heap) (K : Am.V → Am.Heap → Prop),
  Am.Rec.call (Am.Run env) 30 [V.ptr x0, V.int IntKind.i32 x1] H K =
  Am.extCall env 50 [V.ptr x0] H fun v H' ↦
   req (Option.isSome x0)
   (req (Am.Heap.inb H' (Option.getD x0 (0, 0)).1 ((Option.getD x0 (0, 0)).2 + 1) 1 && V.isK Kind.slice (Am.Heap.cell H' (Option.getD x0 (0, 0)).1 ((Option.getD x0 (0, 0)).2 + 1)))
    (req (Option.isSome x0)
    (req (Am.Heap.inb H' (Option.getD x0 (0, 0)).1 ((Option.getD x0 (0, 0)).2 + 1) 1 && V.isK Kind.slice (Am.Heap.cell H' (Option.getD x0 (0, 0)).1 ((Option.getD x0 (0, 0)).2 + 1)))
     (Am.Rec.call (Am.Run env) 51
     [V.slice (V.slPtr (Am.Heap.cell H' (Option.getD x0 (0, 0)).1 ((Option.getD x0 (0, 0)).2 + 1))) (V.slLen (Am.Heap.cell H' (Option.getD x0 (0, 0)).1 ((Option.getD x0 (0, 0)).2 + 1)))
      (V.slCap (Am.Heap.cell H' (Option.getD x0 (0, 0)).1 ((Option.getD x0 (0, 0)).2 + 1))),
      V.int IntKind.i32 x1]
     H' fun v H'_1 ↦
     req (V.isK Kind.slice v)
      (req (Option.isSome x0)
      (req (Am.Heap.wr H'_1 (Option.getD x0 (0, 0)).1 ((Option.getD x0 (0, 0)).2 + 1) 1)
       (req (Option.isSome x0)
       (req
        (Am.Heap.inb (Am.Heap.store H'_1 (Option.getD x0 (0, 0)).1 ((Option.getD x0 (0, 0)).2 + 1) [V.slice (V.slPtr v) (V.slLen v) (V.slCap v)]) (Option.getD x0 (0, 0)).1
         ((Option.getD x0 (0, 0)).2 + 1) 1 &&
        V.isK Kind.slice
         (Am.Heap.cell (Am.Heap.store H'_1 (Option.getD x0 (0, 0)).1 ((Option.getD x0 (0, 0)).2 + 1) [V.slice (V.slPtr v) (V.slLen v) (V.slCap v)])
         (Option.getD x0 (0, 0)).1 ((Option.getD x0 (0, 0)).2 + 1)))
        (K
        (V.tuple
         [V.int IntKind.i64
          (IntKind.wrap IntKind.i64
          ((↑(V.slLen
            (Am.Heap.cell (Am.Heap.store H'_1 (Option.getD x0 (0, 0)).1 ((Option.getD x0 (0, 0)).2 + 1) [V.slice (V.slPtr v) (V.slLen v) (V.slCap v)])
             (Option.getD x0 (0, 0)).1 ((Option.getD x0 (0, 0)).2 + 1))) :
           Int) -
           (↑(V.slLen (Am.Heap.cell H' (Option.getD x0 (0, 0)).1 ((Option.getD x0 (0, 0)).2 + 1))) : Int))),
         V.nilIface])
        (Am.Heap.store H'_1 (Option.getD x0 (0, 0)).1 ((Option.getD x0 (0, 0)).2 + 1) [V.slice (V.slPtr v) (V.slLen v) (V.slCap v)])))))))))) :=
  fun x0 x1 H K => (Run_call (E := env)).trans (by kernel_rfl)

theorem eq31 : ∀ (x0 : Int) (H : Am.Heap) (K : Am.V → Am.Heap → Prop),
  Am.Rec.call (Am.Run env) 31 [V.int IntKind.i32 x0] H K =
  K (V.bool (bif !decide (x0 = 32) then bif !decide (x0 = 9) then decide (x0 = 12288) else true else true)) H :=
  fun x0 H K => (Run_call (E := env)).trans (by kernel_rfl)

theorem eq32 : ∀ (x0 : Int) (H : Am.Heap) (K : Am.V → Am.Heap → Prop),
  Am.Rec.call (Am.Run env) 32 [V.int IntKind.i32 x0] H K =
  br (decide (x0 ≥ 32))
   (br (!decide (x0 = 34))
   (Am.Rec.call (Am.Run env) 31 [V.int IntKind.i32 x0] H fun v H' ↦
    req (V.isK Kind.bool v) (br (!V.getBool v) (K (V.bool !decide (x0 = 127)) H') (K (V.bool false) H')))
   (K (V.bool false) H))
   (K (V.bool false) H) :=
  fun x0 H K => (Run_call (E := env)).trans (by kernel_rfl)

theorem eq33 : ∀ (x0 : Option (Nat × Nat)) (H : Am.Heap) (K : Am.V → Am.Heap → Prop),
  Am.Rec.call (Am.Run env) 33 [V.ptr x0] H K =
  req (Option.isSome x0)
   (req (Am.Heap.inb H (Option.getD x0 (0, 0)).1 ((Option.getD x0 (0, 0)).2 + 1) 1 && V.isK Kind.slice (Am.Heap.cell H (Option.getD x0 (0, 0)).1 ((Option.getD x0 (0, 0)).2 + 1)))
   (K (V.int IntKind.i64 (↑(V.slLen (Am.Heap.cell H (Option.getD x0 (0, 0)).1 ((Option.getD x0 (0, 0)).2 + 1))) : Int)) H)) :=
  fun x0 H K => (Run_call (E := env)).trans (by kernel_rfl)

theorem eq35 : ∀ (x0 : Option (Nat × Nat)) (H : Am.Heap) (K : Am.V → Am.Heap → Prop),
  Am.Rec.call (Am.Run env) 35 [V.ptr x0] H K =
  req (Option.isSome x0)
   (req (Am.Heap.wr H (Option.getD x0 (0, 0)).1 (Option.getD x0 (0, 0)).2 1)
   (req (Option.isSome x0)
    (req (Am.Heap.wr (Am.Heap.store H (Option.getD x0 (0, 0)).1 (Option.getD x0 (0, 0)).2 [V.ptr Option.none]) (Option.getD x0 (0, 0)).1 ((Option.getD x0 (0, 0)).2 + 1) 1)
    (K (V.tuple [])
     (Am.Heap.store (Am.Heap.store H (Option.getD x0 (0, 0)).1 (Option.getD x0 (0, 0)).2 [V.ptr Option.none]) (Option.getD x0 (0, 0)).1 ((Option.getD x0 (0, 0)).2 + 1)
     [V.slice Option.none 0 0]))))) :=
  fun x0 H K => (Run_call (E := env)).trans (by kernel_rfl)

theorem eq46 : ∀ (x0 : ByteArray) (x1 : Int) (H : Am.Heap) (K : Am.V → Am.Heap → Prop),
  Am.Rec.call (Am.Run env) 46 [V.str x0, V.int IntKind.u8 x1] H K =
  Am.Rec.call (Am.Run env) 55 [V.str x0, V.int IntKind.u8 x1] H fun v H' ↦
   req (V.isK (Kind.int IntKind.i64) v) (K (V.int IntKind.i64 (V.getInt v)) H') :=
  fun x0 x1 H K => (Run_call (E := env)).trans (by kernel_rfl)

theorem eq47 : ∀ (x0 : Int) (H : Am.Heap) (K : Am.V → Am.Heap → Prop),
  Am.Rec.call (Am.Run env) 47 [V.int IntKind.i32 x0] H K =
  br (decide (0 ≤ x0) && decide (x0 < 55296)) (K (V.bool true) H)
   (br (decide (57343 < x0) && decide (x0 ≤ 1114111)) (K (V.bool true) H) (K (V.bool false) H)) :=
  fun x0 H K => (Run_call (E := env)).trans (by kernel_rfl)

theorem eq51 : ∀ (x0p : Option (Nat × Nat)) (x0n x0c : Nat) (x1 : Int) (H : Am.Heap) (K : Am.V → Am.Heap → Prop),
  Am.Rec.call (Am.Run env) 51 [V.slice x0p x0n x0c, V.int IntKind.i32 x1] H K =
  br (decide (IntKind.wrap IntKind.u32 x1 ≤ 127))
   (Am.appendOp env [25, 25] [V.slice x0p x0n x0c, V.slice (Option.some (H.2, 0)) 1 1]
   (Am.Heap.alloc H (Am.Obj.cells 5 [V.int IntKind.u8 (IntKind.wrap IntKind.u8 x1)] false)) fun q n c H' ↦ K (V.slice q n c) H')
   (Am.Rec.call (Am.Run env) 57 [V.slice x0p x0n x0c, V.int IntKind.i32 x1] H fun v H' ↦
   req (V.isK Kind.slice v) (K (V.slice (V.slPtr v) (V.slLen v) (V.slCap v)) H')) :=
  fun x0p x0n x0c x1 H K => (Run_call (E := env)).trans (by kernel_rfl)

theorem eq55 : ∀ (x0 : ByteArray) (x1 : Int) (H : Am.Heap) (K : Am.V → Am.Heap → Prop),
  Am.Rec.call (Am.Run env) 55 [V.str x0, V.int IntKind.u8 x1] H K =
  Am.extCall env 58 [V.str x0, V.int IntKind.u8 x1] H fun v H' ↦
   req (V.isK (Kind.int IntKind.i64) v) (K (V.int IntKind.i64 (V.getInt v)) H') :=
  fun x0 x1 H K => (Run_call (E := env)).trans (by kernel_rfl)

theorem eq57 : ∀ (x0p : Option (Nat × Nat)) (x0n x0c : Nat) (x1 : Int) (H : Am.Heap) (K : Am.V → Am.Heap → Prop),
  Am.Rec.call (Am.Run env) 57 [V.slice x0p x0n x0c, V.int IntKind.i32 x1] H K =
  br (decide (IntKind.wrap IntKind.u32 x1 ≤ 2047))
   (Am.appendOp env [25, 25] [V.slice x0p x0n x0c, V.slice (Option.some (H.2, 0)) 2 2]
   (Am.Heap.alloc H
    (Am.Obj.cells 5
    [V.int IntKind.u8 (IntKind.wrap IntKind.u8 (↑(BitVec.toNat (BitVec.ofInt 8 192 ||| BitVec.ofInt 8 (IntKind.wrap IntKind.u8 (Int.fdiv x1 64)))) : Int)),
     V.int IntKind.u8
     (IntKind.wrap IntKind.u8
      (↑(BitVec.toNat (BitVec.ofInt 8 128 ||| BitVec.ofInt 8 (IntKind.wrap IntKind.u8 (↑(BitVec.toNat (BitVec.ofInt 8 (IntKind.wrap IntKind.u8 x1) &&& BitVec.ofInt 8 63)) : Int)))) : Int))]
    false))
   fun q n c H' ↦ K (V.slice q n c) H')
   (Am.joinP
   (fun Q ↦
    br (decide (IntKind.wrap IntKind.u32 x1 < 55296))
    (Q (St.mk (Am.look [(25, T.v (V.bool (decide (IntKind.wrap IntKind.u32 x1 < 55296))))]) (Am.look []) H))
    (Q
     (St.mk (Am.look [(25, T.v (V.bool (decide (57343 < IntKind.wrap IntKind.u32 x1) && decide (IntKind.wrap IntKind.u32 x1 ≤ 65535))))]) (Am.look []) H)))
   fun S' ↦
   req (Am.isKT (KT.k Kind.bool) (S'.1 25) || false || false)
    (br (V.getBool (T.val (S'.1 25)))
    (Am.appendOp env [25, 25] [V.slice x0p x0n x0c, V.slice (Option.some (S'.3.2, 0)) 3 3]
     (Am.Heap.alloc S'.3
     (Am.Obj.cells 5
      [V.int IntKind.u8 (IntKind.wrap IntKind.u8 (↑(BitVec.toNat (BitVec.ofInt 8 224 ||| BitVec.ofInt 8 (IntKind.wrap IntKind.u8 (Int.fdiv x1 4096)))) : Int)),
      V.int IntKind.u8
       (IntKind.wrap IntKind.u8
       (↑(BitVec.toNat
         (BitVec.ofInt 8 128 ||| BitVec.ofInt 8 (IntKind.wrap IntKind.u8 (↑(BitVec.toNat (BitVec.ofInt 8 (IntKind.wrap IntKind.u8 (Int.fdiv x1 64)) &&& BitVec.ofInt 8 63)) : Int)))) :
        Int)),
      V.int IntKind.u8
       (IntKind.wrap IntKind.u8
       (↑(BitVec.toNat (BitVec.ofInt 8 128 ||| BitVec.ofInt 8 (IntKind.wrap IntKind.u8 (↑(BitVec.toNat (BitVec.ofInt 8 (IntKind.wrap IntKind.u8 x1) &&& BitVec.ofInt 8 63)) : Int)))) : Int))]
      false))
     fun q n c H' ↦ K (V.slice q n c) H')
    (br (decide (IntKind.wrap IntKind.u32 x1 > 65535) && decide (IntKind.wrap IntKind.u32 x1 ≤ 1114111))
     (Am.appendOp env [25, 25] [V.slice x0p x0n x0c, V.slice (Option.some (S'.3.2, 0)) 4 4]
     (Am.Heap.alloc S'.3
      (Am.Obj.cells 5
      [V.int IntKind.u8 (IntKind.wrap IntKind.u8 (↑(BitVec.toNat (BitVec.ofInt 8 240 ||| BitVec.ofInt 8 (IntKind.wrap IntKind.u8 (Int.fdiv x1 262144)))) : Int)),
       V.int IntKind.u8
       (IntKind.wrap IntKind.u8
        (↑(BitVec.toNat
         (BitVec.ofInt 8 128 ||| BitVec.ofInt 8 (IntKind.wrap IntKind.u8 (↑(BitVec.toNat (BitVec.ofInt 8 (IntKind.wrap IntKind.u8 (Int.fdiv x1 4096)) &&& BitVec.ofInt 8 63)) : Int)))) :
        Int)),
       V.int IntKind.u8
       (IntKind.wrap IntKind.u8
        (↑(BitVec.toNat
         (BitVec.ofInt 8 128 ||| BitVec.ofInt 8 (IntKind.wrap IntKind.u8 (↑(BitVec.toNat (BitVec.ofInt 8 (IntKind.wrap IntKind.u8 (Int.fdiv x1 64)) &&& BitVec.ofInt 8 63)) : Int)))) :
        Int)),
       V.int IntKind.u8
       (IntKind.wrap IntKind.u8
        (↑(BitVec.toNat (BitVec.ofInt 8 128 ||| BitVec.ofInt 8 (IntKind.wrap IntKind.u8 (↑(BitVec.toNat (BitVec.ofInt 8 (IntKind.wrap IntKind.u8 x1) &&& BitVec.ofInt 8 63)) : Int)))) :
        Int))]
      false))
     fun q n c H' ↦ K (V.slice q n c) H')
     (Am.appendOp env [25, 25] [V.slice x0p x0n x0c, V.slice (Option.some (S'.3.2, 0)) 3 3]
     (Am.Heap.alloc S'.3 (Am.Obj.cells 5 [V.int IntKind.u8 239, V.int IntKind.u8 191, V.int IntKind.u8 189] false)) fun q n c H' ↦ K (V.slice q n c) H')))) :=
  fun x0p x0n x0c x1 H K => (Run_call (E := env)).trans (by kernel_rfl)

end Go.Proofs.YtibkggbidojocaaDoor
