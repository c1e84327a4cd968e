/- The equations of the calls and of the loops' rounds; the kernel looks at each. Written by a program (wip/am/Walk.lean). -/
import Derived.Test.YtpodpakpgolipaaAmEnv
namespace Go.Proofs.Ytpodpakpgolipaa
open Go.Am
set_option maxRecDepth 100000
set_option linter.unusedVariables false

theorem eq6 : ∀ (x0 : Int) (x1p : Option (Nat × Nat)) (x1n x1c : Nat) (x2p : Option (Nat × Nat)) (x2n x2c : Nat) (H : Am.Heap) (K : Am.V → Am.Heap → Prop),
  Am.Rec.call (Am.Run env) 6 [V.int IntKind.u16 x0, V.slice x1p x1n x1c, V.slice x2p x2n x2c] H K =
  Am.Rec.call (Am.Run env) 21 [] H fun v H' ↦
   req (V.isK Kind.bool v)
   (br (bif !!V.getBool v then bif !decide ((↑x1n : Int) > 64) then decide ((↑x2n : Int) > 64) else true else true)
    (Am.Rec.call (Am.Run env) 21 [] H' fun v H' ↦ req (V.isK Kind.bool v) (K (V.bool (V.getBool v)) H'))
    (Am.Rec.call (Am.Run env) 22 [V.ptr (Option.some (H'.2, 0)), V.agg (c41 (IntKind.wrap IntKind.i64 x0) x1p x1n x1c false)]
    (Am.Heap.alloc H' (Am.Obj.cells 38 [V.slice Option.none 0 0] false)) fun v H'_1 ↦
    req (V.isK (Kind.int IntKind.i64) v)
     (Am.Rec.call (Am.Run env) 22 [V.ptr (Option.some (H'.2, 0)), V.agg (c41 (IntKind.wrap IntKind.i64 x0) x2p x2n x2c true)]
     H'_1 fun v H'_2 ↦
     req (V.isK (Kind.int IntKind.i64) v)
      (Am.Rec.call (Am.Run env) 23 [V.ptr (Option.some (H'.2, 0)), V.int IntKind.i64 (IntKind.wrap IntKind.i64 x0)] H'_2 fun v_1 H'_3 ↦
      req
       (V.isTuple 2 v_1 &&
       (V.isAgg (nthV (V.vals v_1) 0) && Am.fits k41 (V.aggCells (nthV (V.vals v_1) 0)) &&
        (V.isK Kind.bool (nthV (V.vals v_1) 1) || false)))
       (br (decide (V.getInt v = 0))
       (br (V.getBool (nthV (V.vals v_1) 1))
        (br (V.getBool (nthV (V.aggCells (nthV (V.vals v_1) 0)) 2))
        (br (decide ((↑(V.slLen (nthV (V.aggCells (nthV (V.vals v_1) 0)) 1)) : Int) = 0))
         (Am.Rec.call (Am.Run env) 24 [V.ptr (Option.some (H'.2, 0))] H'_3 fun v H' ↦
         req (V.isK (Kind.int IntKind.i64) v) (K (V.bool (decide (V.getInt v = 1))) H'))
         (K (V.bool false) H'_3))
        (K (V.bool false) H'_3))
        (K (V.bool false) H'_3))
       (K (V.bool false) H'_3)))))) :=
  fun x0 x1p x1n x1c x2p x2n x2c H K => (Run_call (E := env)).trans (by kernel_rfl)

theorem eq10 : ∀ (x0 : Int) (x1p : Option (Nat × Nat)) (x1n x1c : Nat) (H : Am.Heap) (K : Am.V → Am.Heap → Prop),
  Am.Rec.call (Am.Run env) 10 [V.int IntKind.u16 x0, V.slice x1p x1n x1c] H K =
  Am.Rec.call (Am.Run env) 21 [] H fun v H' ↦
   req (V.isK Kind.bool v)
   (br (bif !!V.getBool v then decide ((↑x1n : Int) > 40) else true)
    (Am.Rec.call (Am.Run env) 21 [] H' fun v H' ↦ req (V.isK Kind.bool v) (K (V.bool (V.getBool v)) H'))
    (Am.Rec.loop (Am.Run env) (Am.loopAt env 10 7) 10 7
    (St.mk
     (Am.look
     [(1, T.v (V.slice x1p x1n x1c)), (5, T.v (V.ptr (Option.some (H'.2, 0)))), (6, T.v (V.int IntKind.i64 (Int.tmod (IntKind.wrap IntKind.i64 x0) 60000))),
      (7, T.v (V.int IntKind.i64 0))])
     (Am.look []) (Am.Heap.alloc H' (Am.Obj.cells 38 [V.slice Option.none 0 0] false)))
    (fun S' ↦ req (Am.isKT (KT.k Kind.bool) (S'.1 4) || false || false) (K (V.bool (V.getBool (T.val (S'.1 4)))) S'.3)) fun j S' ↦
    br (Nat.beq j 0)
     (req
     (Am.isKT (KT.k Kind.slice) (S'.1 1) && (Am.isKT (KT.k Kind.ptr) (S'.1 5) && (Am.isKT (KT.k (Kind.int IntKind.i64)) (S'.1 6) || false)) || false)
     (Am.Rec.loop (Am.Run env) (Am.loopAt env 10 15) 10 15
      (St.mk
      (Am.look
       [(1, T.v (V.slice (V.slPtr (T.val (S'.1 1))) (V.slLen (T.val (S'.1 1))) (V.slCap (T.val (S'.1 1))))),
       (5, T.v (V.ptr (V.getPtr (T.val (S'.1 5))))), (6, T.v (V.int IntKind.i64 (V.getInt (T.val (S'.1 6))))),
       (8, T.v (V.int IntKind.i64 0))])
      (Am.look []) S'.3)
      (fun S' ↦ req (Am.isKT (KT.k Kind.bool) (S'.1 4) || false || false) (K (V.bool (V.getBool (T.val (S'.1 4)))) S'.3)) fun j S' ↦
      br (Nat.beq j 2)
      (req (Am.isKT (KT.k Kind.ptr) (S'.1 5) && (Am.isKT (KT.k (Kind.int IntKind.i64)) (S'.1 6) || false) || false)
       (Am.Rec.call (Am.Run env) 28 [V.ptr (V.getPtr (T.val (S'.1 5))), V.int IntKind.i64 (V.getInt (T.val (S'.1 6)))] S'.3
       fun v H' ↦
       Am.Rec.call (Am.Run env) 22
        [V.ptr (V.getPtr (T.val (S'.1 5))),
        V.agg (c41 (IntKind.wrap IntKind.i64 (V.getInt (T.val (S'.1 6)) + 1)) Option.none 0 0 false)]
        H' fun v H' ↦
        req (V.isK (Kind.int IntKind.i64) v)
        (br (decide (V.getInt v = 0))
         (Am.Rec.call (Am.Run env) 22
         [V.ptr (V.getPtr (T.val (S'.1 5))), V.agg (c41 (V.getInt (T.val (S'.1 6))) Option.none 0 0 false)] H' fun v H' ↦
         req (V.isK (Kind.int IntKind.i64) v) (K (V.bool (decide (V.getInt v = 11))) H'))
         (K (V.bool false) H'))))
      False))
     False)) :=
  fun x0 x1p x1n x1c H K => (Run_call (E := env)).trans (by kernel_rfl)

theorem lp10_15 : ∀ (t1_0 : Option (Nat × Nat)) (t1_1 t1_2 : Nat) (t5 : Option (Nat × Nat)) (t6 t8 : Int) (H : Am.Heap) (Kr : Am.St → Prop) (Ke : Nat → Am.St → Prop),
  Am.Rec.loop (Am.Run env) (Am.loopAt env 10 15) 10 15
   (St.mk (Am.look [(1, T.v (V.slice t1_0 t1_1 t1_2)), (5, T.v (V.ptr t5)), (6, T.v (V.int IntKind.i64 t6)), (8, T.v (V.int IntKind.i64 t8))])
   (Am.look []) H)
   Kr Ke =
  br (decide (t8 < (↑t1_1 : Int)))
   (req (decide (0 ≤ t8) && decide (t8 < (↑t1_1 : Int)) && Option.isSome t1_0)
   (req
    (Am.Heap.inb H (Option.getD t1_0 (0, 0)).1 ((Option.getD t1_0 (0, 0)).2 + Int.toNat t8 * 1) 1 &&
    V.isK (Kind.int IntKind.u8) (Am.Heap.cell H (Option.getD t1_0 (0, 0)).1 ((Option.getD t1_0 (0, 0)).2 + Int.toNat t8 * 1)))
    (req
    (decide (0 ≤ IntKind.wrap IntKind.i64 (t8 + 1)) && decide (IntKind.wrap IntKind.i64 (t8 + 1) ≤ (↑t1_2 : Int)) &&
     (decide (0 ≤ t8) && decide (t8 ≤ (↑(Int.toNat (IntKind.wrap IntKind.i64 (t8 + 1))) : Int))) &&
     Nat.ble (Int.toNat (IntKind.wrap IntKind.i64 (t8 + 1))) t1_2)
    (Am.Rec.call (Am.Run env) 22
     [V.ptr t5,
     V.agg
      (c41
      (IntKind.wrap IntKind.i64
       (t6 +
       IntKind.wrap IntKind.i64 (2 * IntKind.wrap IntKind.i64 (Int.tmod (V.getInt (Am.Heap.cell H (Option.getD t1_0 (0, 0)).1 ((Option.getD t1_0 (0, 0)).2 + Int.toNat t8 * 1))) 8))))
      (Am.ptrAdd t1_0 (Int.toNat t8 * 1)) (Int.toNat (IntKind.wrap IntKind.i64 (t8 + 1)) - Int.toNat t8) (t1_2 - Int.toNat t8) false)]
     H fun v H' ↦
     req (V.isK (Kind.int IntKind.i64) v)
     (br (!!decide (V.getInt v = 0))
      (Am.Rec.call (Am.Run env) 22
      [V.ptr t5,
       V.agg
       (c41
        (IntKind.wrap IntKind.i64
        (IntKind.wrap IntKind.i64
         (t6 +
          IntKind.wrap IntKind.i64
          (2 * IntKind.wrap IntKind.i64 (Int.tmod (V.getInt (Am.Heap.cell H (Option.getD t1_0 (0, 0)).1 ((Option.getD t1_0 (0, 0)).2 + Int.toNat t8 * 1))) 8))) +
         1))
        Option.none 0 0 false)]
      H' fun v H' ↦
      req (V.isK (Kind.int IntKind.i64) v)
       (br (!!decide (V.getInt v = 11))
       (Am.Rec.call (Am.Run env) 24 [V.ptr t5] H' fun v H' ↦
        req (V.isK (Kind.int IntKind.i64) v)
        (br (!decide (V.getInt v = 8)) (Kr (St.mk (Am.look [(4, T.v (V.bool false))]) (Am.look []) H'))
         (Am.Rec.loop (Am.Run env) (Am.loopAt env 10 15) 10 15
         (St.mk
          (Am.look
          [(1, T.v (V.slice t1_0 t1_1 t1_2)), (5, T.v (V.ptr t5)), (6, T.v (V.int IntKind.i64 t6)),
           (8, T.v (V.int IntKind.i64 (IntKind.wrap IntKind.i64 (t8 + 1))))])
          (Am.look []) H')
         Kr Ke)))
       (Kr (St.mk (Am.look [(4, T.v (V.bool false))]) (Am.look []) H'))))
      (Kr (St.mk (Am.look [(4, T.v (V.bool false))]) (Am.look []) H')))))))
   (Ke 2 (St.mk (Am.look [(5, T.v (V.ptr t5)), (6, T.v (V.int IntKind.i64 t6))]) (Am.look []) H)) :=
  fun t1_0 t1_1 t1_2 t5 t6 t8 H Kr Ke => (Run_loop (E := env)).trans (by kernel_rfl)

theorem lp10_7 : ∀ (t1_0 : Option (Nat × Nat)) (t1_1 t1_2 : Nat) (t5 : Option (Nat × Nat)) (t6 t7 : Int) (H : Am.Heap) (Kr : Am.St → Prop) (Ke : Nat → Am.St → Prop),
  Am.Rec.loop (Am.Run env) (Am.loopAt env 10 7) 10 7
   (St.mk (Am.look [(1, T.v (V.slice t1_0 t1_1 t1_2)), (5, T.v (V.ptr t5)), (6, T.v (V.int IntKind.i64 t6)), (7, T.v (V.int IntKind.i64 t7))])
   (Am.look []) H)
   Kr Ke =
  br (decide (t7 < 8))
   (Am.Rec.call (Am.Run env) 22
   [V.ptr t5, V.agg (c41 (IntKind.wrap IntKind.i64 (t6 + IntKind.wrap IntKind.i64 (2 * t7))) Option.none 0 0 false)] H fun v H' ↦
   req (V.isK (Kind.int IntKind.i64) v)
    (br (!decide (V.getInt v = 0)) (Kr (St.mk (Am.look [(4, T.v (V.bool false))]) (Am.look []) H'))
    (Am.Rec.loop (Am.Run env) (Am.loopAt env 10 7) 10 7
     (St.mk
     (Am.look
      [(1, T.v (V.slice t1_0 t1_1 t1_2)), (5, T.v (V.ptr t5)), (6, T.v (V.int IntKind.i64 t6)),
      (7, T.v (V.int IntKind.i64 (IntKind.wrap IntKind.i64 (t7 + 1))))])
     (Am.look []) H')
     Kr Ke)))
   (Ke 0 (St.mk (Am.look [(1, T.v (V.slice t1_0 t1_1 t1_2)), (5, T.v (V.ptr t5)), (6, T.v (V.int IntKind.i64 t6))]) (Am.look []) H)) :=
  fun t1_0 t1_1 t1_2 t5 t6 t7 H Kr Ke => (Run_loop (E := env)).trans (by kernel_rfl)

theorem eq12 : ∀ (x0p : Option (Nat × Nat)) (x0n x0c : Nat) (x1 : Int) (H : Am.Heap) (K : Am.V → Am.Heap → Prop),
  Am.Rec.call (Am.Run env) 12 [V.slice x0p x0n x0c, V.int IntKind.u16 x1] H K =
  Am.Rec.call (Am.Run env) 21 [] H fun v H' ↦
   req (V.isK Kind.bool v)
   (br (bif !!V.getBool v then bif !decide ((↑x0n : Int) = 0) then decide ((↑x0n : Int) > 64) else true else true)
    (Am.Rec.call (Am.Run env) 21 [] H' fun v H' ↦ req (V.isK Kind.bool v) (K (V.bool (V.getBool v)) H'))
    (Am.appendOp env [31, 31] [V.slice Option.none 0 0, V.slice x0p x0n x0c] (Am.Heap.alloc H' (Am.Obj.cells 38 [V.slice Option.none 0 0] false))
    fun q n c H'_1 ↦
    Am.Rec.call (Am.Run env) 22 [V.ptr (Option.some (H'.2, 0)), V.agg (c41 (IntKind.wrap IntKind.i64 x1) q n c false)] H'_1
     fun v H'_2 ↦
     req (V.isK (Kind.int IntKind.i64) v)
     (br (!decide (V.getInt v = 0)) (K (V.bool false) H'_2)
      (req (decide (0 < (↑n : Int)) && Option.isSome q)
      (req
       (Am.Heap.inb H'_2 (Option.getD q (0, 0)).1 (Option.getD q (0, 0)).2 1 && V.isK (Kind.int IntKind.u8) (Am.Heap.cell H'_2 (Option.getD q (0, 0)).1 (Option.getD q (0, 0)).2))
       (req (decide (0 < (↑n : Int)) && Option.isSome q)
       (req (Am.Heap.wr H'_2 (Option.getD q (0, 0)).1 (Option.getD q (0, 0)).2 1)
        (Am.Rec.call (Am.Run env) 23 [V.ptr (Option.some (H'.2, 0)), V.int IntKind.i64 (IntKind.wrap IntKind.i64 x1)]
        (Am.Heap.store H'_2 (Option.getD q (0, 0)).1 (Option.getD q (0, 0)).2
         [V.int IntKind.u8
          (IntKind.wrap IntKind.u8 (↑(BitVec.toNat (BitVec.ofInt 8 (V.getInt (Am.Heap.cell H'_2 (Option.getD q (0, 0)).1 (Option.getD q (0, 0)).2)) ^^^ BitVec.ofInt 8 1)) : Int))])
        fun v H'_3 ↦
        req
         (V.isTuple 2 v &&
         (V.isAgg (nthV (V.vals v) 0) && Am.fits k41 (V.aggCells (nthV (V.vals v) 0)) &&
          (V.isK Kind.bool (nthV (V.vals v) 1) || false)))
         (req
         (decide (0 < (↑(V.slLen (nthV (V.aggCells (nthV (V.vals v) 0)) 1)) : Int)) &&
          Option.isSome (V.slPtr (nthV (V.aggCells (nthV (V.vals v) 0)) 1)))
         (req
          (Am.Heap.inb H'_3 (Option.getD (V.slPtr (nthV (V.aggCells (nthV (V.vals v) 0)) 1)) (0, 0)).1
           (Option.getD (V.slPtr (nthV (V.aggCells (nthV (V.vals v) 0)) 1)) (0, 0)).2 1 &&
          V.isK (Kind.int IntKind.u8)
           (Am.Heap.cell H'_3 (Option.getD (V.slPtr (nthV (V.aggCells (nthV (V.vals v) 0)) 1)) (0, 0)).1
           (Option.getD (V.slPtr (nthV (V.aggCells (nthV (V.vals v) 0)) 1)) (0, 0)).2))
          (req
          (decide (0 < (↑(V.slLen (nthV (V.aggCells (nthV (V.vals v) 0)) 1)) : Int)) &&
           Option.isSome (V.slPtr (nthV (V.aggCells (nthV (V.vals v) 0)) 1)))
          (req
           (Am.Heap.wr H'_3 (Option.getD (V.slPtr (nthV (V.aggCells (nthV (V.vals v) 0)) 1)) (0, 0)).1
           (Option.getD (V.slPtr (nthV (V.aggCells (nthV (V.vals v) 0)) 1)) (0, 0)).2 1)
           (Am.Rec.call (Am.Run env) 29 [V.ptr (Option.some (H'.2, 0))]
           (Am.Heap.store H'_3 (Option.getD (V.slPtr (nthV (V.aggCells (nthV (V.vals v) 0)) 1)) (0, 0)).1
            (Option.getD (V.slPtr (nthV (V.aggCells (nthV (V.vals v) 0)) 1)) (0, 0)).2
            [V.int IntKind.u8
             (IntKind.wrap IntKind.u8
             (↑(BitVec.toNat
               (BitVec.ofInt 8
                (V.getInt
                (Am.Heap.cell H'_3 (Option.getD (V.slPtr (nthV (V.aggCells (nthV (V.vals v) 0)) 1)) (0, 0)).1
                 (Option.getD (V.slPtr (nthV (V.aggCells (nthV (V.vals v) 0)) 1)) (0, 0)).2)) ^^^
               BitVec.ofInt 8 2)) :
              Int))])
           fun v H'_4 ↦
           req (V.isK Kind.slice v)
            (req (decide (0 < (↑(V.slLen v) : Int)) && Option.isSome (V.slPtr v))
            (req
             (Am.Heap.inb H'_4 (Option.getD (V.slPtr v) (0, 0)).1 ((Option.getD (V.slPtr v) (0, 0)).2 + 1) 1 &&
             V.isK Kind.slice (Am.Heap.cell H'_4 (Option.getD (V.slPtr v) (0, 0)).1 ((Option.getD (V.slPtr v) (0, 0)).2 + 1)))
             (req (decide (0 < (↑(V.slLen v) : Int)) && Option.isSome (V.slPtr v))
             (req
              (Am.Heap.inb H'_4 (Option.getD (V.slPtr v) (0, 0)).1 ((Option.getD (V.slPtr v) (0, 0)).2 + 1) 1 &&
              V.isK Kind.slice (Am.Heap.cell H'_4 (Option.getD (V.slPtr v) (0, 0)).1 ((Option.getD (V.slPtr v) (0, 0)).2 + 1)))
              (req
              (decide (0 < (↑(V.slLen (Am.Heap.cell H'_4 (Option.getD (V.slPtr v) (0, 0)).1 ((Option.getD (V.slPtr v) (0, 0)).2 + 1))) : Int)) &&
               Option.isSome (V.slPtr (Am.Heap.cell H'_4 (Option.getD (V.slPtr v) (0, 0)).1 ((Option.getD (V.slPtr v) (0, 0)).2 + 1))))
              (req
               (Am.Heap.inb H'_4
                (Option.getD (V.slPtr (Am.Heap.cell H'_4 (Option.getD (V.slPtr v) (0, 0)).1 ((Option.getD (V.slPtr v) (0, 0)).2 + 1))) (0, 0)).1
                (Option.getD (V.slPtr (Am.Heap.cell H'_4 (Option.getD (V.slPtr v) (0, 0)).1 ((Option.getD (V.slPtr v) (0, 0)).2 + 1))) (0, 0)).2 1 &&
               V.isK (Kind.int IntKind.u8)
                (Am.Heap.cell H'_4
                (Option.getD (V.slPtr (Am.Heap.cell H'_4 (Option.getD (V.slPtr v) (0, 0)).1 ((Option.getD (V.slPtr v) (0, 0)).2 + 1))) (0, 0)).1
                (Option.getD (V.slPtr (Am.Heap.cell H'_4 (Option.getD (V.slPtr v) (0, 0)).1 ((Option.getD (V.slPtr v) (0, 0)).2 + 1))) (0, 0)).2))
               (req
               (decide (0 < (↑(V.slLen (Am.Heap.cell H'_4 (Option.getD (V.slPtr v) (0, 0)).1 ((Option.getD (V.slPtr v) (0, 0)).2 + 1))) : Int)) &&
                Option.isSome (V.slPtr (Am.Heap.cell H'_4 (Option.getD (V.slPtr v) (0, 0)).1 ((Option.getD (V.slPtr v) (0, 0)).2 + 1))))
               (req
                (Am.Heap.wr H'_4
                (Option.getD (V.slPtr (Am.Heap.cell H'_4 (Option.getD (V.slPtr v) (0, 0)).1 ((Option.getD (V.slPtr v) (0, 0)).2 + 1))) (0, 0)).1
                (Option.getD (V.slPtr (Am.Heap.cell H'_4 (Option.getD (V.slPtr v) (0, 0)).1 ((Option.getD (V.slPtr v) (0, 0)).2 + 1))) (0, 0)).2 1)
                (Am.Rec.call (Am.Run env) 23
                [V.ptr (Option.some (H'.2, 0)), V.int IntKind.i64 (IntKind.wrap IntKind.i64 x1)]
                (Am.Heap.store H'_4
                 (Option.getD (V.slPtr (Am.Heap.cell H'_4 (Option.getD (V.slPtr v) (0, 0)).1 ((Option.getD (V.slPtr v) (0, 0)).2 + 1))) (0, 0)).1
                 (Option.getD (V.slPtr (Am.Heap.cell H'_4 (Option.getD (V.slPtr v) (0, 0)).1 ((Option.getD (V.slPtr v) (0, 0)).2 + 1))) (0, 0)).2
                 [V.int IntKind.u8
                  (IntKind.wrap IntKind.u8
                  (↑(BitVec.toNat
                    (BitVec.ofInt 8
                     (V.getInt
                     (Am.Heap.cell H'_4
                      (Option.getD
                       (V.slPtr (Am.Heap.cell H'_4 (Option.getD (V.slPtr v) (0, 0)).1 ((Option.getD (V.slPtr v) (0, 0)).2 + 1)))
                       (0, 0)).1
                      (Option.getD
                       (V.slPtr (Am.Heap.cell H'_4 (Option.getD (V.slPtr v) (0, 0)).1 ((Option.getD (V.slPtr v) (0, 0)).2 + 1)))
                       (0, 0)).2)) ^^^
                    BitVec.ofInt 8 4)) :
                   Int))])
                fun v H' ↦
                req
                 (V.isTuple 2 v &&
                 (V.isAgg (nthV (V.vals v) 0) && Am.fits k41 (V.aggCells (nthV (V.vals v) 0)) &&
                  (V.isK Kind.bool (nthV (V.vals v) 1) || false)))
                 (Am.Rec.call (Am.Run env) 28 [V.ptr Option.none, V.int IntKind.i64 (IntKind.wrap IntKind.i64 x1)] H'
                 fun v_1 H' ↦
                 Am.Rec.call (Am.Run env) 23 [V.ptr Option.none, V.int IntKind.i64 (IntKind.wrap IntKind.i64 x1)] H'
                  fun v_2 H' ↦
                  req
                  (V.isTuple 2 v_2 &&
                   (V.isAgg (nthV (V.vals v_2) 0) && Am.fits k41 (V.aggCells (nthV (V.vals v_2) 0)) &&
                   (V.isK Kind.bool (nthV (V.vals v_2) 1) || false)))
                  (br (V.getBool (nthV (V.vals v) 1))
                   (req
                   (Am.strOk H' (V.slPtr (nthV (V.aggCells (nthV (V.vals v) 0)) 1))
                    (V.slLen (nthV (V.aggCells (nthV (V.vals v) 0)) 1)))
                   (req (Am.strOk H' x0p x0n)
                    (br
                    (Am.strEq
                     (Am.strAt H' (V.slPtr (nthV (V.aggCells (nthV (V.vals v) 0)) 1))
                     (V.slLen (nthV (V.aggCells (nthV (V.vals v) 0)) 1)))
                     (Am.strAt H' x0p x0n))
                    (Am.Rec.call (Am.Run env) 22
                     [V.ptr Option.none, V.agg (o41 (V.aggCells (nthV (V.vals v) 0)))] H' fun v H' ↦
                     req (V.isK (Kind.int IntKind.i64) v)
                     (br (decide (V.getInt v = 5))
                      (br (!V.getBool (nthV (V.vals v_2) 1))
                      (Am.Rec.call (Am.Run env) 29 [V.ptr Option.none] H' fun v H' ↦
                       req (V.isK Kind.slice v)
                       (Am.Rec.call (Am.Run env) 24 [V.ptr Option.none] H' fun v_3 H' ↦
                        req (V.isK (Kind.int IntKind.i64) v_3)
                        (K (V.bool (decide (IntKind.wrap IntKind.i64 ((↑(V.slLen v) : Int) + V.getInt v_3) = 0)))
                         H')))
                      (K (V.bool false) H'))
                      (K (V.bool false) H')))
                    (K (V.bool false) H'))))
                   (K (V.bool false) H'))))))))))))))))))))))))) :=
  fun x0p x0n x0c x1 H K => (Run_call (E := env)).trans (by kernel_rfl)

theorem eq21 : ∀ (H : Am.Heap) (K : Am.V → Am.Heap → Prop),
  Am.Rec.call (Am.Run env) 21 [] H K =
  req
   (Am.Heap.wr (Am.Heap.alloc (Am.Heap.alloc H (Am.Obj.cells 38 [V.slice Option.none 0 0] false)) (Am.Obj.cells 5 [V.int IntKind.u8 97] false))
   (Am.Heap.alloc H (Am.Obj.cells 38 [V.slice Option.none 0 0] false)).2 0 0)
   (Am.Rec.call (Am.Run env) 22
   [V.ptr (Option.some (H.2, 0)), V.agg (c41 3 (Option.some ((Am.Heap.alloc H (Am.Obj.cells 38 [V.slice Option.none 0 0] false)).2, 0)) 1 1 false)]
   (Am.Heap.alloc (Am.Heap.alloc H (Am.Obj.cells 38 [V.slice Option.none 0 0] false)) (Am.Obj.cells 5 [V.int IntKind.u8 97] false)) fun v H' ↦
   req (V.isK (Kind.int IntKind.i64) v)
    (req (Am.Heap.wr (Am.Heap.alloc H' (Am.Obj.cells 5 [V.int IntKind.u8 98] false)) H'.2 0 0)
    (Am.Rec.call (Am.Run env) 22 [V.ptr (Option.some (H.2, 0)), V.agg (c41 1 (Option.some (H'.2, 0)) 1 1 false)]
     (Am.Heap.alloc H' (Am.Obj.cells 5 [V.int IntKind.u8 98] false)) fun v H' ↦
     req (V.isK (Kind.int IntKind.i64) v)
     (Am.Rec.call (Am.Run env) 22 [V.ptr (Option.some (H.2, 0)), V.agg (c41 3 Option.none 0 0 true)] H' fun v H' ↦
      req (V.isK (Kind.int IntKind.i64) v)
      (Am.Rec.call (Am.Run env) 29 [V.ptr (Option.some (H.2, 0))] H' fun v H' ↦
       req (V.isK Kind.slice v)
       (req
        (Am.mergeR (decide ((↑(V.slLen v) : Int) = 2))
        (decide (0 < (↑(V.slLen v) : Int)) && Option.isSome (V.slPtr v) && true &&
         (Am.Heap.inb H' (Option.getD (V.slPtr v) (0, 0)).1 (Option.getD (V.slPtr v) (0, 0)).2 1 &&
          V.isK (Kind.int IntKind.i64) (Am.Heap.cell H' (Option.getD (V.slPtr v) (0, 0)).1 (Option.getD (V.slPtr v) (0, 0)).2) &&
          true &&
         Am.mergeR (decide (V.getInt (Am.Heap.cell H' (Option.getD (V.slPtr v) (0, 0)).1 (Option.getD (V.slPtr v) (0, 0)).2) = 1))
          (decide (1 < (↑(V.slLen v) : Int)) && Option.isSome (V.slPtr v) && true &&
          (Am.Heap.inb H' (Option.getD (V.slPtr v) (0, 0)).1 ((Option.getD (V.slPtr v) (0, 0)).2 + 3 + 2) 1 &&
            V.isK Kind.bool (Am.Heap.cell H' (Option.getD (V.slPtr v) (0, 0)).1 ((Option.getD (V.slPtr v) (0, 0)).2 + 3 + 2)) &&
           true &&
           Am.mergeR (V.getBool (Am.Heap.cell H' (Option.getD (V.slPtr v) (0, 0)).1 ((Option.getD (V.slPtr v) (0, 0)).2 + 3 + 2)))
           (decide (1 < (↑(V.slLen v) : Int)) && Option.isSome (V.slPtr v) && true &&
            (Am.Heap.inb H' (Option.getD (V.slPtr v) (0, 0)).1 ((Option.getD (V.slPtr v) (0, 0)).2 + 3 + 1) 1 &&
             V.isK Kind.slice (Am.Heap.cell H' (Option.getD (V.slPtr v) (0, 0)).1 ((Option.getD (V.slPtr v) (0, 0)).2 + 3 + 1)) &&
             true &&
            true))
           true))
          (Am.mergeR false
          (decide (1 < (↑(V.slLen v) : Int)) && Option.isSome (V.slPtr v) && true &&
           (Am.Heap.inb H' (Option.getD (V.slPtr v) (0, 0)).1 ((Option.getD (V.slPtr v) (0, 0)).2 + 3 + 1) 1 &&
            V.isK Kind.slice (Am.Heap.cell H' (Option.getD (V.slPtr v) (0, 0)).1 ((Option.getD (V.slPtr v) (0, 0)).2 + 3 + 1)) &&
            true &&
           true))
          true)))
        (Am.mergeR false
         (decide (1 < (↑(V.slLen v) : Int)) && Option.isSome (V.slPtr v) && true &&
         (Am.Heap.inb H' (Option.getD (V.slPtr v) (0, 0)).1 ((Option.getD (V.slPtr v) (0, 0)).2 + 3 + 2) 1 &&
           V.isK Kind.bool (Am.Heap.cell H' (Option.getD (V.slPtr v) (0, 0)).1 ((Option.getD (V.slPtr v) (0, 0)).2 + 3 + 2)) &&
          true &&
          Am.mergeR (V.getBool (Am.Heap.cell H' (Option.getD (V.slPtr v) (0, 0)).1 ((Option.getD (V.slPtr v) (0, 0)).2 + 3 + 2)))
          (decide (1 < (↑(V.slLen v) : Int)) && Option.isSome (V.slPtr v) && true &&
           (Am.Heap.inb H' (Option.getD (V.slPtr v) (0, 0)).1 ((Option.getD (V.slPtr v) (0, 0)).2 + 3 + 1) 1 &&
            V.isK Kind.slice (Am.Heap.cell H' (Option.getD (V.slPtr v) (0, 0)).1 ((Option.getD (V.slPtr v) (0, 0)).2 + 3 + 1)) &&
            true &&
           true))
          true))
         (Am.mergeR false
         (decide (1 < (↑(V.slLen v) : Int)) && Option.isSome (V.slPtr v) && true &&
          (Am.Heap.inb H' (Option.getD (V.slPtr v) (0, 0)).1 ((Option.getD (V.slPtr v) (0, 0)).2 + 3 + 1) 1 &&
           V.isK Kind.slice (Am.Heap.cell H' (Option.getD (V.slPtr v) (0, 0)).1 ((Option.getD (V.slPtr v) (0, 0)).2 + 3 + 1)) &&
           true &&
          true))
         true)))
        (K
        (V.bool
         (decide ((↑(V.slLen v) : Int) = 2) &&
         (decide (V.getInt (Am.Heap.cell H' (Option.getD (V.slPtr v) (0, 0)).1 (Option.getD (V.slPtr v) (0, 0)).2) = 1) &&
          (V.getBool (Am.Heap.cell H' (Option.getD (V.slPtr v) (0, 0)).1 ((Option.getD (V.slPtr v) (0, 0)).2 + 3 + 2)) &&
          (decide ((↑(V.slLen (Am.Heap.cell H' (Option.getD (V.slPtr v) (0, 0)).1 ((Option.getD (V.slPtr v) (0, 0)).2 + 3 + 1))) : Int) = 0) || false)))))
        H'))))))) :=
  fun H K => (Run_call (E := env)).trans (by kernel_rfl)

theorem eq22 : ∀ (x0 : Option (Nat × Nat)) (x1_0 : Int) (x1_1p : Option (Nat × Nat)) (x1_1n x1_1c : Nat) (x1_2 : Bool) (H : Am.Heap) (K : Am.V → Am.Heap → Prop),
  Am.Rec.call (Am.Run env) 22 [V.ptr x0, V.agg (c41 x1_0 x1_1p x1_1n x1_1c x1_2)] H K =
  br (Option.isNone x0) (K (V.int IntKind.i64 5) H)
   (br (bif !decide (x1_0 < 0) then decide (x1_0 ≥ 65536) else true) (K (V.int IntKind.i64 1) H)
   (br (decide ((↑x1_1n : Int) > 64)) (K (V.int IntKind.i64 2) H)
    (Am.Rec.call (Am.Run env) 35 [V.slice x1_1p x1_1n x1_1c] H fun v H' ↦
    req (V.isK Kind.slice v)
     (Am.joinP
     (fun Q ↦
      br x1_2 (Q (St.mk (Am.look []) (Am.look [(3, Loc.cells 42 (c41 x1_0 Option.none 0 0 x1_2))]) H'))
      (Q (St.mk (Am.look []) (Am.look [(3, Loc.cells 42 (c41 x1_0 (V.slPtr v) (V.slLen v) (V.slCap v) x1_2))]) H')))
     fun S' ↦
     req (Am.isLK 42 k41 (S'.2 3) || false)
      (Am.Rec.call (Am.Run env) 36 [V.ptr x0, V.int IntKind.i64 (V.getInt (nthV (Am.locCells (S'.2 3)) 0))] S'.3 fun v H' ↦
      req (V.isTuple 2 v && (V.isK (Kind.int IntKind.i64) (nthV (V.vals v) 0) && (V.isK Kind.bool (nthV (V.vals v) 1) || false)))
       (br (V.getBool (nthV (V.vals v) 1))
       (req (Option.isSome x0)
        (req (Am.Heap.inb H' (Option.getD x0 (0, 0)).1 (Option.getD x0 (0, 0)).2 1 && V.isK Kind.slice (Am.Heap.cell H' (Option.getD x0 (0, 0)).1 (Option.getD x0 (0, 0)).2))
        (req
         (decide (0 ≤ V.getInt (nthV (V.vals v) 0)) &&
          decide (V.getInt (nthV (V.vals v) 0) < (↑(V.slLen (Am.Heap.cell H' (Option.getD x0 (0, 0)).1 (Option.getD x0 (0, 0)).2)) : Int)) &&
         Option.isSome (V.slPtr (Am.Heap.cell H' (Option.getD x0 (0, 0)).1 (Option.getD x0 (0, 0)).2)))
         (req
         (Am.Heap.wr H' (Option.getD (V.slPtr (Am.Heap.cell H' (Option.getD x0 (0, 0)).1 (Option.getD x0 (0, 0)).2)) (0, 0)).1
          ((Option.getD (V.slPtr (Am.Heap.cell H' (Option.getD x0 (0, 0)).1 (Option.getD x0 (0, 0)).2)) (0, 0)).2 + Int.toNat (V.getInt (nthV (V.vals v) 0)) * 3) 3)
         (K (V.int IntKind.i64 0)
          (Am.Heap.store H' (Option.getD (V.slPtr (Am.Heap.cell H' (Option.getD x0 (0, 0)).1 (Option.getD x0 (0, 0)).2)) (0, 0)).1
          ((Option.getD (V.slPtr (Am.Heap.cell H' (Option.getD x0 (0, 0)).1 (Option.getD x0 (0, 0)).2)) (0, 0)).2 + Int.toNat (V.getInt (nthV (V.vals v) 0)) * 3)
          (o41 (Am.locCells (S'.2 3)))))))))
       (req (Option.isSome x0)
        (req (Am.Heap.inb H' (Option.getD x0 (0, 0)).1 (Option.getD x0 (0, 0)).2 1 && V.isK Kind.slice (Am.Heap.cell H' (Option.getD x0 (0, 0)).1 (Option.getD x0 (0, 0)).2))
        (br (decide ((↑(V.slLen (Am.Heap.cell H' (Option.getD x0 (0, 0)).1 (Option.getD x0 (0, 0)).2)) : Int) ≥ 8)) (K (V.int IntKind.i64 11) H')
         (Am.joinP
         (fun Q ↦
          req (Option.isSome x0)
          (req
           (Am.Heap.inb H' (Option.getD x0 (0, 0)).1 (Option.getD x0 (0, 0)).2 1 && V.isK Kind.slice (Am.Heap.cell H' (Option.getD x0 (0, 0)).1 (Option.getD x0 (0, 0)).2))
           (Am.Rec.call (Am.Run env) 37
            [V.slice (V.slPtr (Am.Heap.cell H' (Option.getD x0 (0, 0)).1 (Option.getD x0 (0, 0)).2))
             (V.slLen (Am.Heap.cell H' (Option.getD x0 (0, 0)).1 (Option.getD x0 (0, 0)).2))
             (V.slCap (Am.Heap.cell H' (Option.getD x0 (0, 0)).1 (Option.getD x0 (0, 0)).2)),
            V.int IntKind.i64 (V.getInt (nthV (V.vals v) 0)), V.slice (Option.some (H'.2, 0)) 1 1]
            (Am.Heap.alloc H' (Am.Obj.cells 42 (o41 (Am.locCells (S'.2 3))) false)) fun v H' ↦
            req (V.isK Kind.slice v)
            (req (Option.isSome x0)
             (req (Am.Heap.wr H' (Option.getD x0 (0, 0)).1 (Option.getD x0 (0, 0)).2 1)
             (Q
              (St.mk (Am.look []) (Am.look [])
              (Am.Heap.store H' (Option.getD x0 (0, 0)).1 (Option.getD x0 (0, 0)).2 [V.slice (V.slPtr v) (V.slLen v) (V.slCap v)])))))) ∧
           req
           (Am.Heap.inb (Am.Heap.alloc H' (Am.Obj.cells 42 (o41 (Am.locCells (S'.2 3))) false)) (Option.getD x0 (0, 0)).1 (Option.getD x0 (0, 0)).2
            1 &&
            V.isK Kind.slice
            (Am.Heap.cell (Am.Heap.alloc H' (Am.Obj.cells 42 (o41 (Am.locCells (S'.2 3))) false)) (Option.getD x0 (0, 0)).1
             (Option.getD x0 (0, 0)).2))
           (Am.Rec.call (Am.Run env) 37
            [V.slice
             (V.slPtr
             (Am.Heap.cell (Am.Heap.alloc H' (Am.Obj.cells 42 (o41 (Am.locCells (S'.2 3))) false)) (Option.getD x0 (0, 0)).1
              (Option.getD x0 (0, 0)).2))
             (V.slLen
             (Am.Heap.cell (Am.Heap.alloc H' (Am.Obj.cells 42 (o41 (Am.locCells (S'.2 3))) false)) (Option.getD x0 (0, 0)).1
              (Option.getD x0 (0, 0)).2))
             (V.slCap
             (Am.Heap.cell (Am.Heap.alloc H' (Am.Obj.cells 42 (o41 (Am.locCells (S'.2 3))) false)) (Option.getD x0 (0, 0)).1
              (Option.getD x0 (0, 0)).2)),
            V.int IntKind.i64 (V.getInt (nthV (V.vals v) 0)), V.slice (Option.some (H'.2, 0)) 1 1]
            (Am.Heap.alloc H' (Am.Obj.cells 42 (o41 (Am.locCells (S'.2 3))) false)) fun v H' ↦
            req (V.isK Kind.slice v)
            (req (Option.isSome x0)
             (req (Am.Heap.wr H' (Option.getD x0 (0, 0)).1 (Option.getD x0 (0, 0)).2 1)
             (Q
              (St.mk (Am.look []) (Am.look [])
              (Am.Heap.store H' (Option.getD x0 (0, 0)).1 (Option.getD x0 (0, 0)).2 [V.slice (V.slPtr v) (V.slLen v) (V.slCap v)]))))))))
         fun S' ↦ K (V.int IntKind.i64 0) S'.3)))))))))) :=
  fun x0 x1_0 x1_1p x1_1n x1_1c x1_2 H K => (Run_call (E := env)).trans (by kernel_rfl)

theorem eq23 : ∀ (x0 : Option (Nat × Nat)) (x1 : Int) (H : Am.Heap) (K : Am.V → Am.Heap → Prop),
  Am.Rec.call (Am.Run env) 23 [V.ptr x0, V.int IntKind.i64 x1] H K =
  br (Option.isNone x0) (K (V.tuple [V.agg (c41 0 Option.none 0 0 false), V.bool false]) H)
   (Am.Rec.call (Am.Run env) 36 [V.ptr x0, V.int IntKind.i64 x1] H fun v H' ↦
   req (V.isTuple 2 v && (V.isK (Kind.int IntKind.i64) (nthV (V.vals v) 0) && (V.isK Kind.bool (nthV (V.vals v) 1) || false)))
    (br (!V.getBool (nthV (V.vals v) 1)) (K (V.tuple [V.agg (c41 0 Option.none 0 0 false), V.bool false]) H')
    (req (Option.isSome x0)
     (req (Am.Heap.inb H' (Option.getD x0 (0, 0)).1 (Option.getD x0 (0, 0)).2 1 && V.isK Kind.slice (Am.Heap.cell H' (Option.getD x0 (0, 0)).1 (Option.getD x0 (0, 0)).2))
     (req
      (decide (0 ≤ V.getInt (nthV (V.vals v) 0)) &&
       decide (V.getInt (nthV (V.vals v) 0) < (↑(V.slLen (Am.Heap.cell H' (Option.getD x0 (0, 0)).1 (Option.getD x0 (0, 0)).2)) : Int)) &&
      Option.isSome (V.slPtr (Am.Heap.cell H' (Option.getD x0 (0, 0)).1 (Option.getD x0 (0, 0)).2)))
      (req
      (Am.Heap.inb H' (Option.getD (V.slPtr (Am.Heap.cell H' (Option.getD x0 (0, 0)).1 (Option.getD x0 (0, 0)).2)) (0, 0)).1
       ((Option.getD (V.slPtr (Am.Heap.cell H' (Option.getD x0 (0, 0)).1 (Option.getD x0 (0, 0)).2)) (0, 0)).2 + Int.toNat (V.getInt (nthV (V.vals v) 0)) * 3) 3 &&
       Am.fits k41
       (Am.Heap.sub H' (Option.getD (V.slPtr (Am.Heap.cell H' (Option.getD x0 (0, 0)).1 (Option.getD x0 (0, 0)).2)) (0, 0)).1
        ((Option.getD (V.slPtr (Am.Heap.cell H' (Option.getD x0 (0, 0)).1 (Option.getD x0 (0, 0)).2)) (0, 0)).2 + Int.toNat (V.getInt (nthV (V.vals v) 0)) * 3) 3))
      (Am.Rec.call (Am.Run env) 35
       [V.slice
        (V.slPtr
        (nthV
         (Am.Heap.sub H' (Option.getD (V.slPtr (Am.Heap.cell H' (Option.getD x0 (0, 0)).1 (Option.getD x0 (0, 0)).2)) (0, 0)).1
         ((Option.getD (V.slPtr (Am.Heap.cell H' (Option.getD x0 (0, 0)).1 (Option.getD x0 (0, 0)).2)) (0, 0)).2 + Int.toNat (V.getInt (nthV (V.vals v) 0)) * 3) 3)
         1))
        (V.slLen
        (nthV
         (Am.Heap.sub H' (Option.getD (V.slPtr (Am.Heap.cell H' (Option.getD x0 (0, 0)).1 (Option.getD x0 (0, 0)).2)) (0, 0)).1
         ((Option.getD (V.slPtr (Am.Heap.cell H' (Option.getD x0 (0, 0)).1 (Option.getD x0 (0, 0)).2)) (0, 0)).2 + Int.toNat (V.getInt (nthV (V.vals v) 0)) * 3) 3)
         1))
        (V.slCap
        (nthV
         (Am.Heap.sub H' (Option.getD (V.slPtr (Am.Heap.cell H' (Option.getD x0 (0, 0)).1 (Option.getD x0 (0, 0)).2)) (0, 0)).1
         ((Option.getD (V.slPtr (Am.Heap.cell H' (Option.getD x0 (0, 0)).1 (Option.getD x0 (0, 0)).2)) (0, 0)).2 + Int.toNat (V.getInt (nthV (V.vals v) 0)) * 3) 3)
         1))]
       H' fun v_1 H'_1 ↦
       req (V.isK Kind.slice v_1)
       (K
        (V.tuple
        [V.agg
         (c41
          (V.getInt
          (nthV
           (Am.Heap.sub H' (Option.getD (V.slPtr (Am.Heap.cell H' (Option.getD x0 (0, 0)).1 (Option.getD x0 (0, 0)).2)) (0, 0)).1
           ((Option.getD (V.slPtr (Am.Heap.cell H' (Option.getD x0 (0, 0)).1 (Option.getD x0 (0, 0)).2)) (0, 0)).2 + Int.toNat (V.getInt (nthV (V.vals v) 0)) * 3)
           3)
           0))
          (V.slPtr v_1) (V.slLen v_1) (V.slCap v_1)
          (V.getBool
          (nthV
           (Am.Heap.sub H' (Option.getD (V.slPtr (Am.Heap.cell H' (Option.getD x0 (0, 0)).1 (Option.getD x0 (0, 0)).2)) (0, 0)).1
           ((Option.getD (V.slPtr (Am.Heap.cell H' (Option.getD x0 (0, 0)).1 (Option.getD x0 (0, 0)).2)) (0, 0)).2 + Int.toNat (V.getInt (nthV (V.vals v) 0)) * 3)
           3)
           2))),
         V.bool true])
        H'_1)))))))) :=
  fun x0 x1 H K => (Run_call (E := env)).trans (by kernel_rfl)

theorem eq24 : ∀ (x0 : Option (Nat × Nat)) (H : Am.Heap) (K : Am.V → Am.Heap → Prop),
  Am.Rec.call (Am.Run env) 24 [V.ptr x0] H K =
  br (Option.isNone x0) (K (V.int IntKind.i64 0) H)
   (req (Option.isSome x0)
   (req (Am.Heap.inb H (Option.getD x0 (0, 0)).1 (Option.getD x0 (0, 0)).2 1 && V.isK Kind.slice (Am.Heap.cell H (Option.getD x0 (0, 0)).1 (Option.getD x0 (0, 0)).2))
    (K (V.int IntKind.i64 (↑(V.slLen (Am.Heap.cell H (Option.getD x0 (0, 0)).1 (Option.getD x0 (0, 0)).2)) : Int)) H))) :=
  fun x0 H K => (Run_call (E := env)).trans (by kernel_rfl)

theorem eq28 : ∀ (x0 : Option (Nat × Nat)) (x1 : Int) (H : Am.Heap) (K : Am.V → Am.Heap → Prop),
  Am.Rec.call (Am.Run env) 28 [V.ptr x0, V.int IntKind.i64 x1] H K =
  br (Option.isNone x0) (K (V.tuple []) H)
   (Am.Rec.call (Am.Run env) 36 [V.ptr x0, V.int IntKind.i64 x1] H fun v H' ↦
   req (V.isTuple 2 v && (V.isK (Kind.int IntKind.i64) (nthV (V.vals v) 0) && (V.isK Kind.bool (nthV (V.vals v) 1) || false)))
    (br (V.getBool (nthV (V.vals v) 1))
    (req (Option.isSome x0)
     (req (Am.Heap.inb H' (Option.getD x0 (0, 0)).1 (Option.getD x0 (0, 0)).2 1 && V.isK Kind.slice (Am.Heap.cell H' (Option.getD x0 (0, 0)).1 (Option.getD x0 (0, 0)).2))
     (Am.Rec.call (Am.Run env) 43
      [V.slice (V.slPtr (Am.Heap.cell H' (Option.getD x0 (0, 0)).1 (Option.getD x0 (0, 0)).2)) (V.slLen (Am.Heap.cell H' (Option.getD x0 (0, 0)).1 (Option.getD x0 (0, 0)).2))
       (V.slCap (Am.Heap.cell H' (Option.getD x0 (0, 0)).1 (Option.getD x0 (0, 0)).2)),
      V.int IntKind.i64 (V.getInt (nthV (V.vals v) 0)), V.int IntKind.i64 (IntKind.wrap IntKind.i64 (V.getInt (nthV (V.vals v) 0) + 1))]
      H' fun v H' ↦
      req (V.isK Kind.slice v)
      (req (Option.isSome x0)
       (req (Am.Heap.wr H' (Option.getD x0 (0, 0)).1 (Option.getD x0 (0, 0)).2 1)
       (K (V.tuple []) (Am.Heap.store H' (Option.getD x0 (0, 0)).1 (Option.getD x0 (0, 0)).2 [V.slice (V.slPtr v) (V.slLen v) (V.slCap v)])))))))
    (K (V.tuple []) H'))) :=
  fun x0 x1 H K => (Run_call (E := env)).trans (by kernel_rfl)

theorem eq29 : ∀ (x0 : Option (Nat × Nat)) (H : Am.Heap) (K : Am.V → Am.Heap → Prop),
  Am.Rec.call (Am.Run env) 29 [V.ptr x0] H K =
  br (!Option.isNone x0)
   (req (Option.isSome x0)
   (req (Am.Heap.inb H (Option.getD x0 (0, 0)).1 (Option.getD x0 (0, 0)).2 1 && V.isK Kind.slice (Am.Heap.cell H (Option.getD x0 (0, 0)).1 (Option.getD x0 (0, 0)).2))
    (Am.Rec.loop (Am.Run env) (Am.loopAt env 29 5) 29 5
    (St.mk
     (Am.look
     [(3, T.v (V.slice Option.none 0 0)),
      (11,
      T.v
       (V.slice (V.slPtr (Am.Heap.cell H (Option.getD x0 (0, 0)).1 (Option.getD x0 (0, 0)).2)) (V.slLen (Am.Heap.cell H (Option.getD x0 (0, 0)).1 (Option.getD x0 (0, 0)).2))
       (V.slCap (Am.Heap.cell H (Option.getD x0 (0, 0)).1 (Option.getD x0 (0, 0)).2)))),
      (12, T.v (V.int IntKind.i64 (↑(V.slLen (Am.Heap.cell H (Option.getD x0 (0, 0)).1 (Option.getD x0 (0, 0)).2)) : Int))), (13, T.v (V.int IntKind.i64 0))])
     (Am.look []) H)
    (fun S' ↦ False) fun j S' ↦
    br (Nat.beq j 0)
     (req (Am.isKT (KT.k Kind.slice) (S'.1 3) || false || false)
     (K (V.slice (V.slPtr (T.val (S'.1 3))) (V.slLen (T.val (S'.1 3))) (V.slCap (T.val (S'.1 3)))) S'.3))
     False)))
   (K (V.slice Option.none 0 0) H) :=
  fun x0 H K => (Run_call (E := env)).trans (by kernel_rfl)

theorem lp29_5 : ∀ (t3_0 : Option (Nat × Nat)) (t3_1 t3_2 : Nat) (t11_0 : Option (Nat × Nat)) (t11_1 t11_2 : Nat) (t12 t13 : Int) (H : Am.Heap) (Kr : Am.St → Prop) (Ke : Nat → Am.St → Prop),
  Am.Rec.loop (Am.Run env) (Am.loopAt env 29 5) 29 5
   (St.mk
   (Am.look [(3, T.v (V.slice t3_0 t3_1 t3_2)), (11, T.v (V.slice t11_0 t11_1 t11_2)), (12, T.v (V.int IntKind.i64 t12)), (13, T.v (V.int IntKind.i64 t13))])
   (Am.look []) H)
   Kr Ke =
  br (decide (t13 < t12))
   (req (decide (0 ≤ t13) && decide (t13 < (↑t11_1 : Int)) && Option.isSome t11_0)
   (req
    (Am.Heap.inb H (Option.getD t11_0 (0, 0)).1 ((Option.getD t11_0 (0, 0)).2 + Int.toNat t13 * 3) 3 &&
    Am.fits k41 (Am.Heap.sub H (Option.getD t11_0 (0, 0)).1 ((Option.getD t11_0 (0, 0)).2 + Int.toNat t13 * 3) 3))
    (Am.Rec.call (Am.Run env) 35
    [V.slice (V.slPtr (nthV (Am.Heap.sub H (Option.getD t11_0 (0, 0)).1 ((Option.getD t11_0 (0, 0)).2 + Int.toNat t13 * 3) 3) 1))
     (V.slLen (nthV (Am.Heap.sub H (Option.getD t11_0 (0, 0)).1 ((Option.getD t11_0 (0, 0)).2 + Int.toNat t13 * 3) 3) 1))
     (V.slCap (nthV (Am.Heap.sub H (Option.getD t11_0 (0, 0)).1 ((Option.getD t11_0 (0, 0)).2 + Int.toNat t13 * 3) 3) 1))]
    H fun v H' ↦
    req (V.isK Kind.slice v)
     (Am.appendOp env [36, 36] [V.slice t3_0 t3_1 t3_2, V.slice (Option.some (H'.2, 0)) 1 1]
     (Am.Heap.alloc H'
      (Am.Obj.cells 42
      (c41 (V.getInt (nthV (Am.Heap.sub H (Option.getD t11_0 (0, 0)).1 ((Option.getD t11_0 (0, 0)).2 + Int.toNat t13 * 3) 3) 0)) (V.slPtr v) (V.slLen v)
       (V.slCap v) (V.getBool (nthV (Am.Heap.sub H (Option.getD t11_0 (0, 0)).1 ((Option.getD t11_0 (0, 0)).2 + Int.toNat t13 * 3) 3) 2)))
      false))
     fun q n c H' ↦
     Am.Rec.loop (Am.Run env) (Am.loopAt env 29 5) 29 5
      (St.mk
      (Am.look
       [(3, T.v (V.slice q n c)), (11, T.v (V.slice t11_0 t11_1 t11_2)), (12, T.v (V.int IntKind.i64 t12)),
       (13, T.v (V.int IntKind.i64 (IntKind.wrap IntKind.i64 (t13 + 1))))])
      (Am.look []) H')
      Kr Ke))))
   (Ke 0 (St.mk (Am.look [(3, T.v (V.slice t3_0 t3_1 t3_2))]) (Am.look []) H)) :=
  fun t3_0 t3_1 t3_2 t11_0 t11_1 t11_2 t12 t13 H Kr Ke => (Run_loop (E := env)).trans (by kernel_rfl)

theorem eq30 : ∀ (x0_0 : Int) (x0_1p : Option (Nat × Nat)) (x0_1n x0_1c : Nat) (x0_2 : Bool) (x1_0 : Int) (x1_1p : Option (Nat × Nat)) (x1_1n x1_1c : Nat) (x1_2 : Bool) (H : Am.Heap) (K : Am.V → Am.Heap → Prop),
  Am.Rec.call (Am.Run env) 30 [V.agg (c41 x0_0 x0_1p x0_1n x0_1c x0_2), V.agg (c41 x1_0 x1_1p x1_1n x1_1c x1_2)] H K =
  br (decide (x0_0 = x1_0))
   (br (decide (x0_2 = x1_2)) (req (Am.strOk H x0_1p x0_1n) (req (Am.strOk H x1_1p x1_1n) (K (V.bool (Am.strEq (Am.strAt H x0_1p x0_1n) (Am.strAt H x1_1p x1_1n))) H)))
   (K (V.bool false) H))
   (K (V.bool false) H) :=
  fun x0_0 x0_1p x0_1n x0_1c x0_2 x1_0 x1_1p x1_1n x1_1c x1_2 H K => (Run_call (E := env)).trans (by kernel_rfl)

theorem eq35 : ∀ (x0p : Option (Nat × Nat)) (x0n x0c : Nat) (H : Am.Heap) (K : Am.V → Am.Heap → Prop),
  Am.Rec.call (Am.Run env) 35 [V.slice x0p x0n x0c] H K =
  br (Option.isNone x0p) (K (V.slice Option.none 0 0) H)
   (Am.appendOp env [31, 31] [V.slice (Option.some (H.2, 0)) 0 0, V.slice x0p x0n x0c] (Am.Heap.alloc H (Am.Obj.cells 5 [] false)) fun q n c H' ↦
   K (V.slice q n c) H') :=
  fun x0p x0n x0c H K => (Run_call (E := env)).trans (by kernel_rfl)

theorem eq36 : ∀ (x0 : Option (Nat × Nat)) (x1 : Int) (H : Am.Heap) (K : Am.V → Am.Heap → Prop),
  Am.Rec.call (Am.Run env) 36 [V.ptr x0, V.int IntKind.i64 x1] H K =
  req (Option.isSome x0)
   (req (Am.Heap.inb H (Option.getD x0 (0, 0)).1 (Option.getD x0 (0, 0)).2 1 && V.isK Kind.slice (Am.Heap.cell H (Option.getD x0 (0, 0)).1 (Option.getD x0 (0, 0)).2))
   (Am.Rec.call (Am.Run env) 50
    [V.slice (V.slPtr (Am.Heap.cell H (Option.getD x0 (0, 0)).1 (Option.getD x0 (0, 0)).2)) (V.slLen (Am.Heap.cell H (Option.getD x0 (0, 0)).1 (Option.getD x0 (0, 0)).2))
     (V.slCap (Am.Heap.cell H (Option.getD x0 (0, 0)).1 (Option.getD x0 (0, 0)).2)),
    V.int IntKind.i64 x1, V.func 51 []]
    H fun v H' ↦
    req (V.isTuple 2 v && (V.isK (Kind.int IntKind.i64) (nthV (V.vals v) 0) && (V.isK Kind.bool (nthV (V.vals v) 1) || false)))
    (K (V.tuple [V.int IntKind.i64 (V.getInt (nthV (V.vals v) 0)), V.bool (V.getBool (nthV (V.vals v) 1))]) H'))) :=
  fun x0 x1 H K => (Run_call (E := env)).trans (by kernel_rfl)

theorem eq37 : ∀ (x0p : Option (Nat × Nat)) (x0n x0c : Nat) (x1 : Int) (x2p : Option (Nat × Nat)) (x2n x2c : Nat) (H : Am.Heap) (K : Am.V → Am.Heap → Prop),
  Am.Rec.call (Am.Run env) 37 [V.slice x0p x0n x0c, V.int IntKind.i64 x1, V.slice x2p x2n x2c] H K =
  req (decide (0 ≤ x1) && decide (x1 ≤ (↑x0n : Int)) && Nat.ble x0n x0c)
   (br (decide ((↑x2n : Int) = 0)) (K (V.slice x0p x0n x0c) H)
   (br (decide (x1 = (↑x0n : Int))) (Am.appendOp env [36, 36] [V.slice x0p x0n x0c, V.slice x2p x2n x2c] H fun q n c H' ↦ K (V.slice q n c) H')
    (br (decide (IntKind.wrap IntKind.i64 ((↑x0n : Int) + (↑x2n : Int)) > (↑x0c : Int)))
    (req ((decide (0 ≤ x1) && decide (x1 ≤ (↑x0c : Int)) || false) && Nat.ble (Int.toNat x1) x0c)
     (Am.appendOp env [36, 3]
     [V.slice (Am.ptrAdd x0p 0) (Int.toNat x1 - 0) (x0c - 0), V.int IntKind.i64 (IntKind.wrap IntKind.i64 (IntKind.wrap IntKind.i64 ((↑x0n : Int) + (↑x2n : Int)) - x1))] H
     fun q n c H' ↦
     req (decide (0 ≤ x1) && decide (x1 ≤ (↑n : Int)) && Nat.ble n c)
      (req (Am.copyOk H' 3 (Am.ptrAdd q (Int.toNat x1 * 3)) (n - Int.toNat x1) (V.slice x2p x2n x2c))
      (req (decide (0 ≤ IntKind.wrap IntKind.i64 (x1 + (↑x2n : Int))) && decide (IntKind.wrap IntKind.i64 (x1 + (↑x2n : Int)) ≤ (↑n : Int)) && Nat.ble n c)
       (req (decide (0 ≤ x1) && decide (x1 ≤ (↑x0n : Int)) && Nat.ble x0n x0c)
       (req
        (Am.copyOk (Am.copyTo H' 3 (Am.ptrAdd q (Int.toNat x1 * 3)) (n - Int.toNat x1) (V.slice x2p x2n x2c)) 3
        (Am.ptrAdd q (Int.toNat (IntKind.wrap IntKind.i64 (x1 + (↑x2n : Int))) * 3)) (n - Int.toNat (IntKind.wrap IntKind.i64 (x1 + (↑x2n : Int))))
        (V.slice (Am.ptrAdd x0p (Int.toNat x1 * 3)) (x0n - Int.toNat x1) (x0c - Int.toNat x1)))
        (K (V.slice q n c)
        (Am.copyTo (Am.copyTo H' 3 (Am.ptrAdd q (Int.toNat x1 * 3)) (n - Int.toNat x1) (V.slice x2p x2n x2c)) 3
         (Am.ptrAdd q (Int.toNat (IntKind.wrap IntKind.i64 (x1 + (↑x2n : Int))) * 3)) (n - Int.toNat (IntKind.wrap IntKind.i64 (x1 + (↑x2n : Int))))
         (V.slice (Am.ptrAdd x0p (Int.toNat x1 * 3)) (x0n - Int.toNat x1) (x0c - Int.toNat x1))))))))))
    (req
     ((decide (0 ≤ IntKind.wrap IntKind.i64 ((↑x0n : Int) + (↑x2n : Int))) && decide (IntKind.wrap IntKind.i64 ((↑x0n : Int) + (↑x2n : Int)) ≤ (↑x0c : Int)) || false) &&
     Nat.ble (Int.toNat (IntKind.wrap IntKind.i64 ((↑x0n : Int) + (↑x2n : Int)))) x0c)
     (req
     (decide (0 ≤ IntKind.wrap IntKind.i64 (x1 + (↑x2n : Int))) &&
      decide (IntKind.wrap IntKind.i64 (x1 + (↑x2n : Int)) ≤ (↑(Int.toNat (IntKind.wrap IntKind.i64 ((↑x0n : Int) + (↑x2n : Int))) - 0) : Int)) &&
      Nat.ble (Int.toNat (IntKind.wrap IntKind.i64 ((↑x0n : Int) + (↑x2n : Int))) - 0) (x0c - 0))
     (Am.extCall env 52
      [V.slice x2p x2n x2c,
      V.slice (Am.ptrAdd (Am.ptrAdd x0p 0) (Int.toNat (IntKind.wrap IntKind.i64 (x1 + (↑x2n : Int))) * 3))
       (Int.toNat (IntKind.wrap IntKind.i64 ((↑x0n : Int) + (↑x2n : Int))) - 0 - Int.toNat (IntKind.wrap IntKind.i64 (x1 + (↑x2n : Int))))
       (x0c - 0 - Int.toNat (IntKind.wrap IntKind.i64 (x1 + (↑x2n : Int))))]
      H fun v H' ↦
      req (V.isK Kind.bool v)
      (br (!V.getBool v)
       (req
       (decide (0 ≤ IntKind.wrap IntKind.i64 (x1 + (↑x2n : Int))) &&
        decide (IntKind.wrap IntKind.i64 (x1 + (↑x2n : Int)) ≤ (↑(Int.toNat (IntKind.wrap IntKind.i64 ((↑x0n : Int) + (↑x2n : Int))) - 0) : Int)) &&
        Nat.ble (Int.toNat (IntKind.wrap IntKind.i64 ((↑x0n : Int) + (↑x2n : Int))) - 0) (x0c - 0))
       (req
        (decide (0 ≤ x1) && decide (x1 ≤ (↑(Int.toNat (IntKind.wrap IntKind.i64 ((↑x0n : Int) + (↑x2n : Int))) - 0) : Int)) &&
        Nat.ble (Int.toNat (IntKind.wrap IntKind.i64 ((↑x0n : Int) + (↑x2n : Int))) - 0) (x0c - 0))
        (req
        (Am.copyOk H' 3 (Am.ptrAdd (Am.ptrAdd x0p 0) (Int.toNat (IntKind.wrap IntKind.i64 (x1 + (↑x2n : Int))) * 3))
         (Int.toNat (IntKind.wrap IntKind.i64 ((↑x0n : Int) + (↑x2n : Int))) - 0 - Int.toNat (IntKind.wrap IntKind.i64 (x1 + (↑x2n : Int))))
         (V.slice (Am.ptrAdd (Am.ptrAdd x0p 0) (Int.toNat x1 * 3)) (Int.toNat (IntKind.wrap IntKind.i64 ((↑x0n : Int) + (↑x2n : Int))) - 0 - Int.toNat x1) (x0c - 0 - Int.toNat x1)))
        (req
         (decide (0 ≤ x1) && decide (x1 ≤ (↑(Int.toNat (IntKind.wrap IntKind.i64 ((↑x0n : Int) + (↑x2n : Int))) - 0) : Int)) &&
         Nat.ble (Int.toNat (IntKind.wrap IntKind.i64 ((↑x0n : Int) + (↑x2n : Int))) - 0) (x0c - 0))
         (req
         (Am.copyOk
          (Am.copyTo H' 3 (Am.ptrAdd (Am.ptrAdd x0p 0) (Int.toNat (IntKind.wrap IntKind.i64 (x1 + (↑x2n : Int))) * 3))
          (Int.toNat (IntKind.wrap IntKind.i64 ((↑x0n : Int) + (↑x2n : Int))) - 0 - Int.toNat (IntKind.wrap IntKind.i64 (x1 + (↑x2n : Int))))
          (V.slice (Am.ptrAdd (Am.ptrAdd x0p 0) (Int.toNat x1 * 3)) (Int.toNat (IntKind.wrap IntKind.i64 ((↑x0n : Int) + (↑x2n : Int))) - 0 - Int.toNat x1)
           (x0c - 0 - Int.toNat x1)))
          3 (Am.ptrAdd (Am.ptrAdd x0p 0) (Int.toNat x1 * 3)) (Int.toNat (IntKind.wrap IntKind.i64 ((↑x0n : Int) + (↑x2n : Int))) - 0 - Int.toNat x1) (V.slice x2p x2n x2c))
         (K (V.slice (Am.ptrAdd x0p 0) (Int.toNat (IntKind.wrap IntKind.i64 ((↑x0n : Int) + (↑x2n : Int))) - 0) (x0c - 0))
          (Am.copyTo
          (Am.copyTo H' 3 (Am.ptrAdd (Am.ptrAdd x0p 0) (Int.toNat (IntKind.wrap IntKind.i64 (x1 + (↑x2n : Int))) * 3))
           (Int.toNat (IntKind.wrap IntKind.i64 ((↑x0n : Int) + (↑x2n : Int))) - 0 - Int.toNat (IntKind.wrap IntKind.i64 (x1 + (↑x2n : Int))))
           (V.slice (Am.ptrAdd (Am.ptrAdd x0p 0) (Int.toNat x1 * 3)) (Int.toNat (IntKind.wrap IntKind.i64 ((↑x0n : Int) + (↑x2n : Int))) - 0 - Int.toNat x1)
           (x0c - 0 - Int.toNat x1)))
          3 (Am.ptrAdd (Am.ptrAdd x0p 0) (Int.toNat x1 * 3)) (Int.toNat (IntKind.wrap IntKind.i64 ((↑x0n : Int) + (↑x2n : Int))) - 0 - Int.toNat x1)
          (V.slice x2p x2n x2c))))))))
       (req
       (decide (0 ≤ (↑x0n : Int)) && decide ((↑x0n : Int) ≤ (↑(Int.toNat (IntKind.wrap IntKind.i64 ((↑x0n : Int) + (↑x2n : Int))) - 0) : Int)) &&
        Nat.ble (Int.toNat (IntKind.wrap IntKind.i64 ((↑x0n : Int) + (↑x2n : Int))) - 0) (x0c - 0))
       (req (Am.copyOk H' 3 (Am.ptrAdd (Am.ptrAdd x0p 0) (x0n * 3)) (Int.toNat (IntKind.wrap IntKind.i64 ((↑x0n : Int) + (↑x2n : Int))) - 0 - x0n) (V.slice x2p x2n x2c))
        (req
        (decide (0 ≤ x1) && decide (x1 ≤ (↑(Int.toNat (IntKind.wrap IntKind.i64 ((↑x0n : Int) + (↑x2n : Int))) - 0) : Int)) &&
         Nat.ble (Int.toNat (IntKind.wrap IntKind.i64 ((↑x0n : Int) + (↑x2n : Int))) - 0) (x0c - 0))
        (Am.Rec.call (Am.Run env) 53
         [V.slice (Am.ptrAdd (Am.ptrAdd x0p 0) (Int.toNat x1 * 3)) (Int.toNat (IntKind.wrap IntKind.i64 ((↑x0n : Int) + (↑x2n : Int))) - 0 - Int.toNat x1) (x0c - 0 - Int.toNat x1),
         V.int IntKind.i64 (↑x2n : Int)]
         (Am.copyTo H' 3 (Am.ptrAdd (Am.ptrAdd x0p 0) (x0n * 3)) (Int.toNat (IntKind.wrap IntKind.i64 ((↑x0n : Int) + (↑x2n : Int))) - 0 - x0n) (V.slice x2p x2n x2c)) fun v H' ↦
         K (V.slice (Am.ptrAdd x0p 0) (Int.toNat (IntKind.wrap IntKind.i64 ((↑x0n : Int) + (↑x2n : Int))) - 0) (x0c - 0)) H'))))))))))) :=
  fun x0p x0n x0c x1 x2p x2n x2c H K => (Run_call (E := env)).trans (by kernel_rfl)

theorem eq43 : ∀ (x0p : Option (Nat × Nat)) (x0n x0c : Nat) (x1 x2 : Int) (H : Am.Heap) (K : Am.V → Am.Heap → Prop),
  Am.Rec.call (Am.Run env) 43 [V.slice x0p x0n x0c, V.int IntKind.i64 x1, V.int IntKind.i64 x2] H K =
  req
   (decide (0 ≤ (↑x0n : Int)) && decide ((↑x0n : Int) ≤ (↑x0c : Int)) && (decide (0 ≤ x2) && decide (x2 ≤ (↑x0n : Int))) &&
    (decide (0 ≤ x1) && decide (x1 ≤ (↑(Int.toNat x2) : Int))) &&
   Nat.ble (Int.toNat x2) x0n)
   (br (decide (x1 = x2)) (K (V.slice x0p x0n x0c) H)
   (req ((decide (0 ≤ x1) && decide (x1 ≤ (↑x0c : Int)) || false) && Nat.ble (Int.toNat x1) x0c)
    (req (decide (0 ≤ x2) && decide (x2 ≤ (↑x0n : Int)) && Nat.ble x0n x0c)
    (Am.appendOp env [36, 36]
     [V.slice (Am.ptrAdd x0p 0) (Int.toNat x1 - 0) (x0c - 0), V.slice (Am.ptrAdd x0p (Int.toNat x2 * 3)) (x0n - Int.toNat x2) (x0c - Int.toNat x2)] H fun q n c H' ↦
     req (decide (0 ≤ (↑x0n : Int)) && decide ((↑x0n : Int) ≤ (↑c : Int)) && (decide (0 ≤ (↑n : Int)) && decide ((↑n : Int) ≤ (↑x0n : Int))) && Nat.ble x0n c)
     (req
      (Option.isNone (Am.ptrAdd q (n * 3)) || Nat.beq (x0n - n) 0 || Am.Heap.wr H' (Option.getD (Am.ptrAdd q (n * 3)) (0, 0)).1 (Option.getD (Am.ptrAdd q (n * 3)) (0, 0)).2 ((x0n - n) * 3))
      (K (V.slice q n c)
      (bif Option.isNone (Am.ptrAdd q (n * 3)) || Nat.beq (x0n - n) 0 then H'
      else
       Am.Heap.store H' (Option.getD (Am.ptrAdd q (n * 3)) (0, 0)).1 (Option.getD (Am.ptrAdd q (n * 3)) (0, 0)).2
       (Am.rowV (x0n - n) (c41 0 Option.none 0 0 false))))))))) :=
  fun x0p x0n x0c x1 x2 H K => (Run_call (E := env)).trans (by kernel_rfl)

theorem eq50 : ∀ (x0p : Option (Nat × Nat)) (x0n x0c : Nat) (x1 : Int) (x2 : Am.V) (H : Am.Heap) (K : Am.V → Am.Heap → Prop),
  Am.Rec.call (Am.Run env) 50 [V.slice x0p x0n x0c, V.int IntKind.i64 x1, x2] H K =
  Am.Rec.loop (Am.Run env) (Am.loopAt env 50 3) 50 3
   (St.mk
   (Am.look
    [(0, T.v (V.slice x0p x0n x0c)), (1, T.v (V.int IntKind.i64 x1)), (2, T.v x2), (8, T.v (V.int IntKind.i64 (↑x0n : Int))),
    (9, T.v (V.int IntKind.i64 0)), (10, T.v (V.int IntKind.i64 (↑x0n : Int)))])
   (Am.look []) H)
   (fun S' ↦ False) fun j S' ↦
   br (Nat.beq j 0)
   (req
    (Am.isKT (KT.k Kind.slice) (S'.1 0) &&
     (Am.isKT (KT.k (Kind.int IntKind.i64)) (S'.1 1) &&
     (Am.isKT (KT.k Kind.func) (S'.1 2) &&
      (Am.isKT (KT.k (Kind.int IntKind.i64)) (S'.1 8) && (Am.isKT (KT.k (Kind.int IntKind.i64)) (S'.1 9) || false)))) ||
    false)
    (br (decide (V.getInt (T.val (S'.1 9)) < V.getInt (T.val (S'.1 8))))
    (req
     (decide (0 ≤ V.getInt (T.val (S'.1 9))) && decide (V.getInt (T.val (S'.1 9)) < (↑(V.slLen (T.val (S'.1 0))) : Int)) &&
     Option.isSome (V.slPtr (T.val (S'.1 0))))
     (req
     (Am.Heap.inb S'.3 (Option.getD (V.slPtr (T.val (S'.1 0))) (0, 0)).1 ((Option.getD (V.slPtr (T.val (S'.1 0))) (0, 0)).2 + Int.toNat (V.getInt (T.val (S'.1 9))) * 3)
      3 &&
      Am.fits k41
      (Am.Heap.sub S'.3 (Option.getD (V.slPtr (T.val (S'.1 0))) (0, 0)).1
       ((Option.getD (V.slPtr (T.val (S'.1 0))) (0, 0)).2 + Int.toNat (V.getInt (T.val (S'.1 9))) * 3) 3))
     (Am.callV env (Am.Run env) (T.val (S'.1 2))
      [V.agg
       (o41
       (Am.Heap.sub S'.3 (Option.getD (V.slPtr (T.val (S'.1 0))) (0, 0)).1
        ((Option.getD (V.slPtr (T.val (S'.1 0))) (0, 0)).2 + Int.toNat (V.getInt (T.val (S'.1 9))) * 3) 3)),
      V.int IntKind.i64 (V.getInt (T.val (S'.1 1)))]
      S'.3 fun v H' ↦
      req (V.isK (Kind.int IntKind.i64) v)
      (K (V.tuple [V.int IntKind.i64 (V.getInt (T.val (S'.1 9))), V.bool (decide (V.getInt v = 0))]) H'))))
    (K (V.tuple [V.int IntKind.i64 (V.getInt (T.val (S'.1 9))), V.bool false]) S'.3)))
   False :=
  fun x0p x0n x0c x1 x2 H K => (Run_call (E := env)).trans (by kernel_rfl)

theorem lp50_3 : ∀ (t0_0 : Option (Nat × Nat)) (t0_1 t0_2 : Nat) (t1 : Int) (t2 : Am.V) (t8 t9 t10 : Int) (H : Am.Heap) (Kr : Am.St → Prop) (Ke : Nat → Am.St → Prop),
  Am.Rec.loop (Am.Run env) (Am.loopAt env 50 3) 50 3
   (St.mk
   (Am.look
    [(0, T.v (V.slice t0_0 t0_1 t0_2)), (1, T.v (V.int IntKind.i64 t1)), (2, T.v t2), (8, T.v (V.int IntKind.i64 t8)), (9, T.v (V.int IntKind.i64 t9)),
    (10, T.v (V.int IntKind.i64 t10))])
   (Am.look []) H)
   Kr Ke =
  br (decide (t9 < t10))
   (req
   (decide (0 ≤ IntKind.wrap IntKind.i64 (Int.fdiv (IntKind.wrap IntKind.u64 (IntKind.wrap IntKind.i64 (t9 + t10))) 2)) &&
    decide (IntKind.wrap IntKind.i64 (Int.fdiv (IntKind.wrap IntKind.u64 (IntKind.wrap IntKind.i64 (t9 + t10))) 2) < (↑t0_1 : Int)) &&
    Option.isSome t0_0)
   (req
    (Am.Heap.inb H (Option.getD t0_0 (0, 0)).1
     ((Option.getD t0_0 (0, 0)).2 + Int.toNat (IntKind.wrap IntKind.i64 (Int.fdiv (IntKind.wrap IntKind.u64 (IntKind.wrap IntKind.i64 (t9 + t10))) 2)) * 3) 3 &&
    Am.fits k41
     (Am.Heap.sub H (Option.getD t0_0 (0, 0)).1
     ((Option.getD t0_0 (0, 0)).2 + Int.toNat (IntKind.wrap IntKind.i64 (Int.fdiv (IntKind.wrap IntKind.u64 (IntKind.wrap IntKind.i64 (t9 + t10))) 2)) * 3) 3))
    (Am.callV env (Am.Run env) t2
    [V.agg
     (o41
      (Am.Heap.sub H (Option.getD t0_0 (0, 0)).1
      ((Option.getD t0_0 (0, 0)).2 + Int.toNat (IntKind.wrap IntKind.i64 (Int.fdiv (IntKind.wrap IntKind.u64 (IntKind.wrap IntKind.i64 (t9 + t10))) 2)) * 3) 3)),
     V.int IntKind.i64 t1]
    H fun v H' ↦
    req (V.isK (Kind.int IntKind.i64) v)
     (br (decide (V.getInt v < 0))
     (Am.Rec.loop (Am.Run env) (Am.loopAt env 50 3) 50 3
      (St.mk
      (Am.look
       [(0, T.v (V.slice t0_0 t0_1 t0_2)), (1, T.v (V.int IntKind.i64 t1)), (2, T.v t2), (8, T.v (V.int IntKind.i64 t8)),
       (9,
        T.v
        (V.int IntKind.i64 (IntKind.wrap IntKind.i64 (IntKind.wrap IntKind.i64 (Int.fdiv (IntKind.wrap IntKind.u64 (IntKind.wrap IntKind.i64 (t9 + t10))) 2) + 1)))),
       (10, T.v (V.int IntKind.i64 t10))])
      (Am.look []) H')
      Kr Ke)
     (Am.Rec.loop (Am.Run env) (Am.loopAt env 50 3) 50 3
      (St.mk
      (Am.look
       [(0, T.v (V.slice t0_0 t0_1 t0_2)), (1, T.v (V.int IntKind.i64 t1)), (2, T.v t2), (8, T.v (V.int IntKind.i64 t8)),
       (9, T.v (V.int IntKind.i64 t9)),
       (10, T.v (V.int IntKind.i64 (IntKind.wrap IntKind.i64 (Int.fdiv (IntKind.wrap IntKind.u64 (IntKind.wrap IntKind.i64 (t9 + t10))) 2))))])
      (Am.look []) H')
      Kr Ke)))))
   (Ke 0
   (St.mk
    (Am.look
    [(0, T.v (V.slice t0_0 t0_1 t0_2)), (1, T.v (V.int IntKind.i64 t1)), (2, T.v t2), (8, T.v (V.int IntKind.i64 t8)),
     (9, T.v (V.int IntKind.i64 t9))])
    (Am.look []) H)) :=
  fun t0_0 t0_1 t0_2 t1 t2 t8 t9 t10 H Kr Ke => (Run_loop (E := env)).trans (by kernel_rfl)

theorem eq51 : ∀ (x0_0 : Int) (x0_1p : Option (Nat × Nat)) (x0_1n x0_1c : Nat) (x0_2 : Bool) (x1 : Int) (H : Am.Heap) (K : Am.V → Am.Heap → Prop),
  Am.Rec.call (Am.Run env) 51 [V.agg (c41 x0_0 x0_1p x0_1n x0_1c x0_2), V.int IntKind.i64 x1] H K =
  K (V.int IntKind.i64 (IntKind.wrap IntKind.i64 (x0_0 - x1))) H :=
  fun x0_0 x0_1p x0_1n x0_1c x0_2 x1 H K => (Run_call (E := env)).trans (by kernel_rfl)

theorem eq53 : ∀ (x0p : Option (Nat × Nat)) (x0n x0c : Nat) (x1 : Int) (H : Am.Heap) (K : Am.V → Am.Heap → Prop),
  Am.Rec.call (Am.Run env) 53 [V.slice x0p x0n x0c, V.int IntKind.i64 x1] H K =
  Am.Rec.call (Am.Run env) 58 [V.slice x0p x0n x0c, V.int IntKind.i64 (IntKind.wrap IntKind.i64 ((↑x0n : Int) - x1))] H fun v H' ↦ K (V.tuple []) H' :=
  fun x0p x0n x0c x1 H K => (Run_call (E := env)).trans (by kernel_rfl)

theorem eq58 : ∀ (x0p : Option (Nat × Nat)) (x0n x0c : Nat) (x1 : Int) (H : Am.Heap) (K : Am.V → Am.Heap → Prop),
  Am.Rec.call (Am.Run env) 58 [V.slice x0p x0n x0c, V.int IntKind.i64 x1] H K =
  req ((decide (0 ≤ x1) && decide (x1 ≤ (↑x0c : Int)) || false) && Nat.ble (Int.toNat x1) x0c)
   (Am.Rec.call (Am.Run env) 59 [V.slice (Am.ptrAdd x0p 0) (Int.toNat x1 - 0) (x0c - 0)] H fun v H' ↦
   req (decide (0 ≤ x1) && decide (x1 ≤ (↑x0n : Int)) && Nat.ble x0n x0c)
    (Am.Rec.call (Am.Run env) 59 [V.slice (Am.ptrAdd x0p (Int.toNat x1 * 3)) (x0n - Int.toNat x1) (x0c - Int.toNat x1)] H' fun v H' ↦
    Am.Rec.call (Am.Run env) 59 [V.slice x0p x0n x0c] H' fun v H' ↦ K (V.tuple []) H')) :=
  fun x0p x0n x0c x1 H K => (Run_call (E := env)).trans (by kernel_rfl)

theorem eq59 : ∀ (x0p : Option (Nat × Nat)) (x0n x0c : Nat) (H : Am.Heap) (K : Am.V → Am.Heap → Prop),
  Am.Rec.call (Am.Run env) 59 [V.slice x0p x0n x0c] H K =
  Am.Rec.loop (Am.Run env) (Am.loopAt env 59 1) 59 1
   (St.mk (Am.look [(0, T.v (V.slice x0p x0n x0c)), (2, T.v (V.int IntKind.i64 0)), (3, T.v (V.int IntKind.i64 (IntKind.wrap IntKind.i64 ((↑x0n : Int) - 1))))])
   (Am.look []) H)
   (fun S' ↦ K (V.tuple []) S'.3) fun j S' ↦ br (Nat.beq j 0) (K (V.tuple []) S'.3) False :=
  fun x0p x0n x0c H K => (Run_call (E := env)).trans (by kernel_rfl)

theorem lp59_1 : ∀ (t0_0 : Option (Nat × Nat)) (t0_1 t0_2 : Nat) (t2 t3 : Int) (H : Am.Heap) (Kr : Am.St → Prop) (Ke : Nat → Am.St → Prop),
  Am.Rec.loop (Am.Run env) (Am.loopAt env 59 1) 59 1
   (St.mk (Am.look [(0, T.v (V.slice t0_0 t0_1 t0_2)), (2, T.v (V.int IntKind.i64 t2)), (3, T.v (V.int IntKind.i64 t3))]) (Am.look []) H) Kr Ke =
  br (decide (t2 < t3))
   (req (decide (0 ≤ t3) && decide (t3 < (↑t0_1 : Int)) && Option.isSome t0_0)
   (req
    (Am.Heap.inb H (Option.getD t0_0 (0, 0)).1 ((Option.getD t0_0 (0, 0)).2 + Int.toNat t3 * 3) 3 &&
    Am.fits k41 (Am.Heap.sub H (Option.getD t0_0 (0, 0)).1 ((Option.getD t0_0 (0, 0)).2 + Int.toNat t3 * 3) 3))
    (req (decide (0 ≤ t2) && decide (t2 < (↑t0_1 : Int)) && Option.isSome t0_0)
    (req
     (Am.Heap.inb H (Option.getD t0_0 (0, 0)).1 ((Option.getD t0_0 (0, 0)).2 + Int.toNat t2 * 3) 3 &&
     Am.fits k41 (Am.Heap.sub H (Option.getD t0_0 (0, 0)).1 ((Option.getD t0_0 (0, 0)).2 + Int.toNat t2 * 3) 3))
     (req (decide (0 ≤ t2) && decide (t2 < (↑t0_1 : Int)) && Option.isSome t0_0)
     (req (Am.Heap.wr H (Option.getD t0_0 (0, 0)).1 ((Option.getD t0_0 (0, 0)).2 + Int.toNat t2 * 3) 3)
      (req (decide (0 ≤ t3) && decide (t3 < (↑t0_1 : Int)) && Option.isSome t0_0)
      (req
       (Am.Heap.wr
       (Am.Heap.store H (Option.getD t0_0 (0, 0)).1 ((Option.getD t0_0 (0, 0)).2 + Int.toNat t2 * 3)
        (o41 (Am.Heap.sub H (Option.getD t0_0 (0, 0)).1 ((Option.getD t0_0 (0, 0)).2 + Int.toNat t3 * 3) 3)))
       (Option.getD t0_0 (0, 0)).1 ((Option.getD t0_0 (0, 0)).2 + Int.toNat t3 * 3) 3)
       (Am.Rec.loop (Am.Run env) (Am.loopAt env 59 1) 59 1
       (St.mk
        (Am.look
        [(0, T.v (V.slice t0_0 t0_1 t0_2)), (2, T.v (V.int IntKind.i64 (IntKind.wrap IntKind.i64 (t2 + 1)))),
         (3, T.v (V.int IntKind.i64 (IntKind.wrap IntKind.i64 (t3 - 1))))])
        (Am.look [])
        (Am.Heap.store
        (Am.Heap.store H (Option.getD t0_0 (0, 0)).1 ((Option.getD t0_0 (0, 0)).2 + Int.toNat t2 * 3)
         (o41 (Am.Heap.sub H (Option.getD t0_0 (0, 0)).1 ((Option.getD t0_0 (0, 0)).2 + Int.toNat t3 * 3) 3)))
        (Option.getD t0_0 (0, 0)).1 ((Option.getD t0_0 (0, 0)).2 + Int.toNat t3 * 3)
        (o41 (Am.Heap.sub H (Option.getD t0_0 (0, 0)).1 ((Option.getD t0_0 (0, 0)).2 + Int.toNat t2 * 3) 3))))
       Kr Ke)))))))))
   (Ke 0 (St.mk (Am.look []) (Am.look []) H)) :=
  fun t0_0 t0_1 t0_2 t2 t3 H Kr Ke => (Run_loop (E := env)).trans (by kernel_rfl)

end Go.Proofs.Ytpodpakpgolipaa
