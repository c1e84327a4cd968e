/- The equations of the calls and of the loops' rounds; the kernel looks at each. Written by a program (wip/am/Walk.lean). -/
import Derived.Test.YtpodpakpgolipaaAmEnv
namespace Go.Proofs.Ytpodpakpgolipaa
open Go.Am
set_option maxRecDepth 100000
set_option linter.unusedVariables false

theorem eq11 : ∀ (x0p : Option (Nat × Nat)) (x0n x0c : Nat) (H : Am.Heap) (K : Am.V → Am.Heap → Prop),
  Am.Rec.call (Am.Run env) 11 [V.slice x0p x0n x0c] H K =
  Am.Rec.call (Am.Run env) 21 [] H fun v H' ↦
   req (V.isK Kind.bool v)
   (br (!V.getBool v) (K (V.bool false) H')
    (Am.Rec.loop (Am.Run env) (Am.loopAt env 11 7) 11 7
    (St.mk
     (Am.look [(0, T.v (V.slice x0p x0n x0c)), (3, T.v (V.ptr (Option.some (H'.2, 0)))), (4, T.v (V.slice Option.none 0 0)), (5, T.v (V.int IntKind.i64 0))])
     (Am.look []) (Am.Heap.alloc H' (Am.Obj.cells 38 [V.slice Option.none 0 0] false)))
    (fun S' ↦ req (Am.isKT (KT.k Kind.bool) (S'.1 2) || false || false) (K (V.bool (V.getBool (T.val (S'.1 2)))) S'.3)) fun j S' ↦
    br (Nat.beq j 0)
     (req (Am.isKT (KT.k Kind.ptr) (S'.1 3) || false || false)
     (Am.Rec.call (Am.Run env) 23 [V.ptr (V.getPtr (T.val (S'.1 3))), V.int IntKind.i64 70000] S'.3 fun v H' ↦
      req
      (V.isTuple 2 v &&
       (V.isAgg (nthV (V.vals v) 0) && Am.fits k41 (V.aggCells (nthV (V.vals v) 0)) &&
       (V.isK Kind.bool (nthV (V.vals v) 1) || false)))
      (K (V.bool !V.getBool (nthV (V.vals v) 1)) H')))
     False)) :=
  fun x0p x0n x0c H K => (Run_call (E := env)).trans (by kernel_rfl)

theorem lp11_7 : ∀ (t0_0 : Option (Nat × Nat)) (t0_1 t0_2 : Nat) (t3 t4_0 : Option (Nat × Nat)) (t4_1 t4_2 : Nat) (t5 : Int) (H : Am.Heap) (Kr : Am.St → Prop) (Ke : Nat → Am.St → Prop),
  Am.Rec.loop (Am.Run env) (Am.loopAt env 11 7) 11 7
   (St.mk (Am.look [(0, T.v (V.slice t0_0 t0_1 t0_2)), (3, T.v (V.ptr t3)), (4, T.v (V.slice t4_0 t4_1 t4_2)), (5, T.v (V.int IntKind.i64 t5))])
   (Am.look []) H)
   Kr Ke =
  br (decide (t5 < (↑t0_1 : Int)) && decide (t5 < 60))
   (req (decide (0 ≤ t5) && decide (t5 < (↑t0_1 : Int)) && Option.isSome t0_0)
   (req
    (Am.Heap.inb H (Option.getD t0_0 (0, 0)).1 ((Option.getD t0_0 (0, 0)).2 + Int.toNat t5 * 5 + 1) 3 &&
    Am.fits k41 (Am.Heap.sub H (Option.getD t0_0 (0, 0)).1 ((Option.getD t0_0 (0, 0)).2 + Int.toNat t5 * 5 + 1) 3))
    (req (decide (0 ≤ t5) && decide (t5 < (↑t0_1 : Int)) && Option.isSome t0_0)
    (req
     (Am.Heap.inb H (Option.getD t0_0 (0, 0)).1 ((Option.getD t0_0 (0, 0)).2 + Int.toNat t5 * 5 + 4) 1 &&
     V.isK Kind.bool (Am.Heap.cell H (Option.getD t0_0 (0, 0)).1 ((Option.getD t0_0 (0, 0)).2 + Int.toNat t5 * 5 + 4)))
     (Am.joinP
     (fun Q ↦
      br (V.getBool (Am.Heap.cell H (Option.getD t0_0 (0, 0)).1 ((Option.getD t0_0 (0, 0)).2 + Int.toNat t5 * 5 + 4)))
      (Q
       (St.mk (Am.look [])
       (Am.look
        [(6,
         Loc.cells 42
         (c41
          (IntKind.wrap IntKind.i64
          (Int.tmod (IntKind.wrap IntKind.u64 (V.getInt (nthV (Am.Heap.sub H (Option.getD t0_0 (0, 0)).1 ((Option.getD t0_0 (0, 0)).2 + Int.toNat t5 * 5 + 1) 3) 0))) 12))
          (V.slPtr (nthV (Am.Heap.sub H (Option.getD t0_0 (0, 0)).1 ((Option.getD t0_0 (0, 0)).2 + Int.toNat t5 * 5 + 1) 3) 1))
          (V.slLen (nthV (Am.Heap.sub H (Option.getD t0_0 (0, 0)).1 ((Option.getD t0_0 (0, 0)).2 + Int.toNat t5 * 5 + 1) 3) 1))
          (V.slCap (nthV (Am.Heap.sub H (Option.getD t0_0 (0, 0)).1 ((Option.getD t0_0 (0, 0)).2 + Int.toNat t5 * 5 + 1) 3) 1))
          (V.getBool (nthV (Am.Heap.sub H (Option.getD t0_0 (0, 0)).1 ((Option.getD t0_0 (0, 0)).2 + Int.toNat t5 * 5 + 1) 3) 2))))])
       H))
      (Q
       (St.mk (Am.look [])
       (Am.look [(6, Loc.cells 42 (o41 (Am.Heap.sub H (Option.getD t0_0 (0, 0)).1 ((Option.getD t0_0 (0, 0)).2 + Int.toNat t5 * 5 + 1) 3)))]) H)))
     fun S' ↦
     req (Am.isLK 42 k41 (S'.2 6) || false)
      (Am.Rec.loop (Am.Run env) (Am.loopAt env 11 17) 11 17
      (St.mk
       (Am.look
       [(0, T.v (V.slice t0_0 t0_1 t0_2)), (3, T.v (V.ptr t3)), (4, T.v (V.slice t4_0 t4_1 t4_2)), (5, T.v (V.int IntKind.i64 t5)), (6, T.lp 6 0),
        (7, T.v (V.int IntKind.i64 (↑t4_1 : Int))), (8, T.v (V.bool false)), (9, T.v (V.int IntKind.i64 0))])
       (Am.look [(6, Loc.cells 42 (o41 (Am.locCells (S'.2 6))))]) S'.3)
      (fun S' ↦ False) fun j S' ↦
      br (Nat.beq j 2)
       (req
       (Am.isKT (KT.k Kind.slice) (S'.1 0) &&
        (Am.isKT (KT.k Kind.ptr) (S'.1 3) &&
         (Am.isKT (KT.k Kind.slice) (S'.1 4) &&
         (Am.isKT (KT.k (Kind.int IntKind.i64)) (S'.1 5) &&
          (Am.isKT (KT.lp 6) (S'.1 6) && (Am.isKT (KT.k (Kind.int IntKind.i64)) (S'.1 7) && (Am.isKT (KT.k Kind.bool) (S'.1 8) || false)))))) &&
        (Am.isLK 42 k41 (S'.2 6) || false))
       (req
        (decide (0 ≤ V.getInt (T.val (S'.1 5))) && decide (V.getInt (T.val (S'.1 5)) < (↑(V.slLen (T.val (S'.1 0))) : Int)) &&
        Option.isSome (V.slPtr (T.val (S'.1 0))))
        (req
        (Am.Heap.inb S'.3 (Option.getD (V.slPtr (T.val (S'.1 0))) (0, 0)).1
         ((Option.getD (V.slPtr (T.val (S'.1 0))) (0, 0)).2 + Int.toNat (V.getInt (T.val (S'.1 5))) * 5) 1 &&
         V.isK (Kind.int IntKind.u8)
         (Am.Heap.cell S'.3 (Option.getD (V.slPtr (T.val (S'.1 0))) (0, 0)).1
          ((Option.getD (V.slPtr (T.val (S'.1 0))) (0, 0)).2 + Int.toNat (V.getInt (T.val (S'.1 5))) * 5)))
        (Am.joinP
         (fun Q ↦
         br
          (decide
          (Int.tmod
           (V.getInt
            (Am.Heap.cell S'.3 (Option.getD (V.slPtr (T.val (S'.1 0))) (0, 0)).1
            ((Option.getD (V.slPtr (T.val (S'.1 0))) (0, 0)).2 + Int.toNat (V.getInt (T.val (S'.1 5))) * 5)))
           7 =
           6))
          (Am.Rec.call (Am.Run env) 28
          [V.ptr (V.getPtr (T.val (S'.1 3))), V.int IntKind.i64 (V.getInt (nthV (Am.locCells (S'.2 6)) 0))] S'.3 fun v H' ↦
          br (V.getBool (T.val (S'.1 8)))
           (req
           ((decide (0 ≤ V.getInt (T.val (S'.1 7))) && decide (V.getInt (T.val (S'.1 7)) ≤ (↑(V.slCap (T.val (S'.1 4))) : Int)) ||
            false) &&
            Nat.ble (Int.toNat (V.getInt (T.val (S'.1 7)))) (V.slCap (T.val (S'.1 4))))
           (Am.appendOp env [36, 36]
            [V.slice Option.none 0 0,
            V.slice (Am.ptrAdd (V.slPtr (T.val (S'.1 4))) 0) (Int.toNat (V.getInt (T.val (S'.1 7))) - 0) (V.slCap (T.val (S'.1 4)) - 0)]
            H' fun q n c H' ↦
            req
            (decide (0 ≤ IntKind.wrap IntKind.i64 (V.getInt (T.val (S'.1 7)) + 1)) &&
             decide (IntKind.wrap IntKind.i64 (V.getInt (T.val (S'.1 7)) + 1) ≤ (↑(V.slLen (T.val (S'.1 4))) : Int)) &&
             Nat.ble (V.slLen (T.val (S'.1 4))) (V.slCap (T.val (S'.1 4))))
            (Am.appendOp env [36, 36]
             [V.slice q n c,
             V.slice (Am.ptrAdd (V.slPtr (T.val (S'.1 4))) (Int.toNat (IntKind.wrap IntKind.i64 (V.getInt (T.val (S'.1 7)) + 1)) * 3))
              (V.slLen (T.val (S'.1 4)) - Int.toNat (IntKind.wrap IntKind.i64 (V.getInt (T.val (S'.1 7)) + 1)))
              (V.slCap (T.val (S'.1 4)) - Int.toNat (IntKind.wrap IntKind.i64 (V.getInt (T.val (S'.1 7)) + 1)))]
             H' fun q n c H' ↦ Q (St.mk (Am.look [(4, T.v (V.slice q n c))]) (Am.look []) H'))))
           (Q
           (St.mk (Am.look [(4, T.v (V.slice (V.slPtr (T.val (S'.1 4))) (V.slLen (T.val (S'.1 4))) (V.slCap (T.val (S'.1 4)))))])
            (Am.look []) H')))
          (Am.Rec.call (Am.Run env) 22
          [V.ptr (V.getPtr (T.val (S'.1 3))), V.agg (o41 (Am.locCells (S'.2 6)))] S'.3 fun v H' ↦
          req (V.isK (Kind.int IntKind.i64) v)
           (Am.joinP
           (fun Q ↦
            br (V.getBool (nthV (Am.locCells (S'.2 6)) 2))
            (Q
             (St.mk (Am.look [])
             (Am.look
              [(12,
               Loc.cells 42
               (c41 (V.getInt (nthV (Am.locCells (S'.2 6)) 0)) Option.none 0 0
                (V.getBool (nthV (Am.locCells (S'.2 6)) 2))))])
             H'))
            (Q (St.mk (Am.look []) (Am.look [(12, Loc.cells 42 (o41 (Am.locCells (S'.2 6))))]) H')))
           fun S'_1 ↦
           req (Am.isLK 42 k41 (S'_1.2 12) || false)
            (br
            (bif !decide (V.getInt (nthV (Am.locCells (S'.2 6)) 0) < 0) then decide (V.getInt (nthV (Am.locCells (S'.2 6)) 0) > 65535)
            else true)
            (br (!decide (V.getInt v = 1)) (Kr (St.mk (Am.look [(2, T.v (V.bool false))]) (Am.look []) S'_1.3))
             (Q
             (St.mk
              (Am.look [(4, T.v (V.slice (V.slPtr (T.val (S'.1 4))) (V.slLen (T.val (S'.1 4))) (V.slCap (T.val (S'.1 4)))))])
              (Am.look []) S'_1.3)))
            (br (decide ((↑(V.slLen (nthV (Am.locCells (S'.2 6)) 1)) : Int) > 64))
             (br (!decide (V.getInt v = 2)) (Kr (St.mk (Am.look [(2, T.v (V.bool false))]) (Am.look []) S'_1.3))
             (Q
              (St.mk
              (Am.look [(4, T.v (V.slice (V.slPtr (T.val (S'.1 4))) (V.slLen (T.val (S'.1 4))) (V.slCap (T.val (S'.1 4)))))])
              (Am.look []) S'_1.3)))
             (br (V.getBool (T.val (S'.1 8)))
             (br (!decide (V.getInt v = 0)) (Kr (St.mk (Am.look [(2, T.v (V.bool false))]) (Am.look []) S'_1.3))
              (req
              (decide (0 ≤ V.getInt (T.val (S'.1 7))) &&
               decide (V.getInt (T.val (S'.1 7)) < (↑(V.slLen (T.val (S'.1 4))) : Int)) &&
               Option.isSome (V.slPtr (T.val (S'.1 4))))
              (req
               (Am.Heap.wr S'_1.3 (Option.getD (V.slPtr (T.val (S'.1 4))) (0, 0)).1
               ((Option.getD (V.slPtr (T.val (S'.1 4))) (0, 0)).2 + Int.toNat (V.getInt (T.val (S'.1 7))) * 3) 3)
               (Q
               (St.mk
                (Am.look [(4, T.v (V.slice (V.slPtr (T.val (S'.1 4))) (V.slLen (T.val (S'.1 4))) (V.slCap (T.val (S'.1 4)))))])
                (Am.look [])
                (Am.Heap.store S'_1.3 (Option.getD (V.slPtr (T.val (S'.1 4))) (0, 0)).1
                ((Option.getD (V.slPtr (T.val (S'.1 4))) (0, 0)).2 + Int.toNat (V.getInt (T.val (S'.1 7))) * 3)
                (o41 (Am.locCells (S'_1.2 12)))))))))
             (br (decide ((↑(V.slLen (T.val (S'.1 4))) : Int) = 8))
              (br (!decide (V.getInt v = 11)) (Kr (St.mk (Am.look [(2, T.v (V.bool false))]) (Am.look []) S'_1.3))
              (Q
               (St.mk
               (Am.look [(4, T.v (V.slice (V.slPtr (T.val (S'.1 4))) (V.slLen (T.val (S'.1 4))) (V.slCap (T.val (S'.1 4)))))])
               (Am.look []) S'_1.3)))
              (br (!decide (V.getInt v = 0)) (Kr (St.mk (Am.look [(2, T.v (V.bool false))]) (Am.look []) S'_1.3))
              (req
               ((decide (0 ≤ V.getInt (T.val (S'.1 7))) &&
                decide (V.getInt (T.val (S'.1 7)) ≤ (↑(V.slCap (T.val (S'.1 4))) : Int)) ||
                false) &&
               Nat.ble (Int.toNat (V.getInt (T.val (S'.1 7)))) (V.slCap (T.val (S'.1 4))))
               (Am.appendOp env [36, 36]
               [V.slice Option.none 0 0,
                V.slice (Am.ptrAdd (V.slPtr (T.val (S'.1 4))) 0) (Int.toNat (V.getInt (T.val (S'.1 7))) - 0)
                (V.slCap (T.val (S'.1 4)) - 0)]
               S'_1.3 fun q n c H' ↦
               Am.appendOp env [36, 36] [V.slice q n c, V.slice (Option.some (H'.2, 0)) 1 1]
                (Am.Heap.alloc H' (Am.Obj.cells 42 (o41 (Am.locCells (S'_1.2 12))) false)) fun q n c H' ↦
                req
                (decide (0 ≤ V.getInt (T.val (S'.1 7))) &&
                 decide (V.getInt (T.val (S'.1 7)) ≤ (↑(V.slLen (T.val (S'.1 4))) : Int)) &&
                 Nat.ble (V.slLen (T.val (S'.1 4))) (V.slCap (T.val (S'.1 4))))
                (Am.appendOp env [36, 36]
                 [V.slice q n c,
                 V.slice (Am.ptrAdd (V.slPtr (T.val (S'.1 4))) (Int.toNat (V.getInt (T.val (S'.1 7))) * 3))
                  (V.slLen (T.val (S'.1 4)) - Int.toNat (V.getInt (T.val (S'.1 7))))
                  (V.slCap (T.val (S'.1 4)) - Int.toNat (V.getInt (T.val (S'.1 7))))]
                 H' fun q n c H' ↦ Q (St.mk (Am.look [(4, T.v (V.slice q n c))]) (Am.look []) H'))))))))))))
         fun S'_1 ↦
         req (Am.isKT (KT.k Kind.slice) (S'_1.1 4) || false || false)
         (Am.Rec.call (Am.Run env) 29 [V.ptr (V.getPtr (T.val (S'.1 3)))] S'_1.3 fun v H' ↦
          req (V.isK Kind.slice v)
          (Am.joinP
           (fun Q ↦
           br (!!decide ((↑(V.slLen v) : Int) = (↑(V.slLen (T.val (S'_1.1 4))) : Int)))
            (Am.Rec.call (Am.Run env) 24 [V.ptr (V.getPtr (T.val (S'.1 3)))] H' fun v H' ↦
            req (V.isK (Kind.int IntKind.i64) v)
             (Q (St.mk (Am.look [(165, T.v (V.bool !decide (V.getInt v = (↑(V.slLen (T.val (S'_1.1 4))) : Int))))]) (Am.look []) H')))
            (Q (St.mk (Am.look [(165, T.v (V.bool true))]) (Am.look []) H')))
           fun S'_2 ↦
           req (Am.isKT (KT.k Kind.bool) (S'_2.1 165) || false || false)
           (br (V.getBool (T.val (S'_2.1 165))) (Kr (St.mk (Am.look [(2, T.v (V.bool false))]) (Am.look []) S'_2.3))
            (Am.Rec.loop (Am.Run env) (Am.loopAt env 11 73) 11 73
            (St.mk
             (Am.look
             [(0, T.v (V.slice (V.slPtr (T.val (S'.1 0))) (V.slLen (T.val (S'.1 0))) (V.slCap (T.val (S'.1 0))))),
              (3, T.v (V.ptr (V.getPtr (T.val (S'.1 3))))),
              (4, T.v (V.slice (V.slPtr (T.val (S'_1.1 4))) (V.slLen (T.val (S'_1.1 4))) (V.slCap (T.val (S'_1.1 4))))),
              (5, T.v (V.int IntKind.i64 (V.getInt (T.val (S'.1 5))))),
              (14, T.v (V.slice (V.slPtr v) (V.slLen v) (V.slCap v))), (15, T.v (V.int IntKind.i64 0))])
             (Am.look []) S'_2.3)
            (fun S' ↦
             req (Am.isKT (KT.k Kind.bool) (S'.1 2) || false || false)
             (Kr (St.mk (Am.look [(2, T.v (V.bool (V.getBool (T.val (S'.1 2)))))]) (Am.look []) S'.3)))
            fun j S' ↦
            br (Nat.beq j 5)
             (req
             (Am.isKT (KT.k Kind.slice) (S'.1 0) &&
              (Am.isKT (KT.k Kind.ptr) (S'.1 3) &&
               (Am.isKT (KT.k Kind.slice) (S'.1 4) && (Am.isKT (KT.k (Kind.int IntKind.i64)) (S'.1 5) || false))) ||
              false)
             (Am.Rec.loop (Am.Run env) (Am.loopAt env 11 7) 11 7
              (St.mk
              (Am.look
               [(0, T.v (V.slice (V.slPtr (T.val (S'.1 0))) (V.slLen (T.val (S'.1 0))) (V.slCap (T.val (S'.1 0))))),
               (3, T.v (V.ptr (V.getPtr (T.val (S'.1 3))))),
               (4, T.v (V.slice (V.slPtr (T.val (S'.1 4))) (V.slLen (T.val (S'.1 4))) (V.slCap (T.val (S'.1 4))))),
               (5, T.v (V.int IntKind.i64 (IntKind.wrap IntKind.i64 (V.getInt (T.val (S'.1 5)) + 1))))])
              (Am.look []) S'.3)
              Kr Ke))
             False))))))))
       False))))))
   (Ke 0 (St.mk (Am.look [(3, T.v (V.ptr t3))]) (Am.look []) H)) :=
  fun t0_0 t0_1 t0_2 t3 t4_0 t4_1 t4_2 t5 H Kr Ke => (Run_loop (E := env)).trans (by kernel_rfl)

theorem lp11_73 : ∀ (t0_0 : Option (Nat × Nat)) (t0_1 t0_2 : Nat) (t3 t4_0 : Option (Nat × Nat)) (t4_1 t4_2 : Nat) (t5 : Int) (t14_0 : Option (Nat × Nat)) (t14_1 t14_2 : Nat) (t15 : Int) (H : Am.Heap) (Kr : Am.St → Prop)
  (Ke : Nat → Am.St → Prop),
  Am.Rec.loop (Am.Run env) (Am.loopAt env 11 73) 11 73
   (St.mk
   (Am.look
    [(0, T.v (V.slice t0_0 t0_1 t0_2)), (3, T.v (V.ptr t3)), (4, T.v (V.slice t4_0 t4_1 t4_2)), (5, T.v (V.int IntKind.i64 t5)),
    (14, T.v (V.slice t14_0 t14_1 t14_2)), (15, T.v (V.int IntKind.i64 t15))])
   (Am.look []) H)
   Kr Ke =
  br (decide (t15 < (↑t4_1 : Int)))
   (req (decide (0 ≤ t15) && decide (t15 < (↑t4_1 : Int)) && Option.isSome t4_0)
   (req
    (Am.Heap.inb H (Option.getD t4_0 (0, 0)).1 ((Option.getD t4_0 (0, 0)).2 + Int.toNat t15 * 3) 1 &&
    V.isK (Kind.int IntKind.i64) (Am.Heap.cell H (Option.getD t4_0 (0, 0)).1 ((Option.getD t4_0 (0, 0)).2 + Int.toNat t15 * 3)))
    (Am.Rec.call (Am.Run env) 23
    [V.ptr t3, V.int IntKind.i64 (V.getInt (Am.Heap.cell H (Option.getD t4_0 (0, 0)).1 ((Option.getD t4_0 (0, 0)).2 + Int.toNat t15 * 3)))] H fun v H' ↦
    req
     (V.isTuple 2 v &&
     (V.isAgg (nthV (V.vals v) 0) && Am.fits k41 (V.aggCells (nthV (V.vals v) 0)) &&
      (V.isK Kind.bool (nthV (V.vals v) 1) || false)))
     (req (decide (0 ≤ t15) && decide (t15 < (↑t14_1 : Int)) && Option.isSome t14_0)
     (req
      (Am.Heap.inb H' (Option.getD t14_0 (0, 0)).1 ((Option.getD t14_0 (0, 0)).2 + Int.toNat t15 * 3) 3 &&
      Am.fits k41 (Am.Heap.sub H' (Option.getD t14_0 (0, 0)).1 ((Option.getD t14_0 (0, 0)).2 + Int.toNat t15 * 3) 3))
      (req (decide (0 ≤ t15) && decide (t15 < (↑t4_1 : Int)) && Option.isSome t4_0)
      (req
       (Am.Heap.inb H' (Option.getD t4_0 (0, 0)).1 ((Option.getD t4_0 (0, 0)).2 + Int.toNat t15 * 3) 3 &&
       Am.fits k41 (Am.Heap.sub H' (Option.getD t4_0 (0, 0)).1 ((Option.getD t4_0 (0, 0)).2 + Int.toNat t15 * 3) 3))
       (Am.Rec.call (Am.Run env) 30
       [V.agg (o41 (Am.Heap.sub H' (Option.getD t14_0 (0, 0)).1 ((Option.getD t14_0 (0, 0)).2 + Int.toNat t15 * 3) 3)),
        V.agg (o41 (Am.Heap.sub H' (Option.getD t4_0 (0, 0)).1 ((Option.getD t4_0 (0, 0)).2 + Int.toNat t15 * 3) 3))]
       H' fun v_1 H' ↦
       req (V.isK Kind.bool v_1)
        (br (!!V.getBool v_1)
        (br (!!V.getBool (nthV (V.vals v) 1))
         (req (decide (0 ≤ t15) && decide (t15 < (↑t4_1 : Int)) && Option.isSome t4_0)
         (req
          (Am.Heap.inb H' (Option.getD t4_0 (0, 0)).1 ((Option.getD t4_0 (0, 0)).2 + Int.toNat t15 * 3) 3 &&
          Am.fits k41 (Am.Heap.sub H' (Option.getD t4_0 (0, 0)).1 ((Option.getD t4_0 (0, 0)).2 + Int.toNat t15 * 3) 3))
          (Am.Rec.call (Am.Run env) 30
          [V.agg (o41 (V.aggCells (nthV (V.vals v) 0))),
           V.agg (o41 (Am.Heap.sub H' (Option.getD t4_0 (0, 0)).1 ((Option.getD t4_0 (0, 0)).2 + Int.toNat t15 * 3) 3))]
          H' fun v H' ↦
          req (V.isK Kind.bool v)
           (br (!V.getBool v) (Kr (St.mk (Am.look [(2, T.v (V.bool false))]) (Am.look []) H'))
           (Am.Rec.loop (Am.Run env) (Am.loopAt env 11 73) 11 73
            (St.mk
            (Am.look
             [(0, T.v (V.slice t0_0 t0_1 t0_2)), (3, T.v (V.ptr t3)), (4, T.v (V.slice t4_0 t4_1 t4_2)),
             (5, T.v (V.int IntKind.i64 t5)), (14, T.v (V.slice t14_0 t14_1 t14_2)),
             (15, T.v (V.int IntKind.i64 (IntKind.wrap IntKind.i64 (t15 + 1))))])
            (Am.look []) H')
            Kr Ke)))))
         (Kr (St.mk (Am.look [(2, T.v (V.bool false))]) (Am.look []) H')))
        (Kr (St.mk (Am.look [(2, T.v (V.bool false))]) (Am.look []) H')))))))))))
   (Ke 5
   (St.mk (Am.look [(0, T.v (V.slice t0_0 t0_1 t0_2)), (3, T.v (V.ptr t3)), (4, T.v (V.slice t4_0 t4_1 t4_2)), (5, T.v (V.int IntKind.i64 t5))])
    (Am.look []) H)) :=
  fun t0_0 t0_1 t0_2 t3 t4_0 t4_1 t4_2 t5 t14_0 t14_1 t14_2 t15 H Kr Ke => (Run_loop (E := env)).trans (by kernel_rfl)

theorem lp11_17 : ∀ (t0_0 : Option (Nat × Nat)) (t0_1 t0_2 : Nat) (t3 t4_0 : Option (Nat × Nat)) (t4_1 t4_2 : Nat) (t5 t7 : Int) (t8 : Bool) (t9 l6 : Int) (l6'_0 : Option (Nat × Nat)) (l6'_1 l6'_2 : Nat) (l6'' : Bool) (H : Am.Heap)
  (Kr : Am.St → Prop) (Ke : Nat → Am.St → Prop),
  Am.Rec.loop (Am.Run env) (Am.loopAt env 11 17) 11 17
   (St.mk
   (Am.look
    [(0, T.v (V.slice t0_0 t0_1 t0_2)), (3, T.v (V.ptr t3)), (4, T.v (V.slice t4_0 t4_1 t4_2)), (5, T.v (V.int IntKind.i64 t5)), (6, T.lp 6 0),
    (7, T.v (V.int IntKind.i64 t7)), (8, T.v (V.bool t8)), (9, T.v (V.int IntKind.i64 t9))])
   (Am.look [(6, Loc.cells 42 (c41 l6 l6'_0 l6'_1 l6'_2 l6''))]) H)
   Kr Ke =
  br (decide (t9 < (↑t4_1 : Int)))
   (req (decide (0 ≤ t9) && decide (t9 < (↑t4_1 : Int)) && Option.isSome t4_0)
   (req
    (Am.Heap.inb H (Option.getD t4_0 (0, 0)).1 ((Option.getD t4_0 (0, 0)).2 + Int.toNat t9 * 3) 1 &&
    V.isK (Kind.int IntKind.i64) (Am.Heap.cell H (Option.getD t4_0 (0, 0)).1 ((Option.getD t4_0 (0, 0)).2 + Int.toNat t9 * 3)))
    (Am.joinP
    (fun Q ↦
     br (decide (V.getInt (Am.Heap.cell H (Option.getD t4_0 (0, 0)).1 ((Option.getD t4_0 (0, 0)).2 + Int.toNat t9 * 3)) = l6))
     (Q (St.mk (Am.look [(8, T.v (V.bool true))]) (Am.look []) H)) (Q (St.mk (Am.look [(8, T.v (V.bool t8))]) (Am.look []) H)))
    fun S' ↦
    req (Am.isKT (KT.k Kind.bool) (S'.1 8) || false || false)
     (req (decide (0 ≤ t9) && decide (t9 < (↑t4_1 : Int)) && Option.isSome t4_0)
     (req
      (Am.Heap.inb S'.3 (Option.getD t4_0 (0, 0)).1 ((Option.getD t4_0 (0, 0)).2 + Int.toNat t9 * 3) 1 &&
      V.isK (Kind.int IntKind.i64) (Am.Heap.cell S'.3 (Option.getD t4_0 (0, 0)).1 ((Option.getD t4_0 (0, 0)).2 + Int.toNat t9 * 3)))
      (br (decide (V.getInt (Am.Heap.cell S'.3 (Option.getD t4_0 (0, 0)).1 ((Option.getD t4_0 (0, 0)).2 + Int.toNat t9 * 3)) ≥ l6) && decide (t9 < t7))
      (Am.Rec.loop (Am.Run env) (Am.loopAt env 11 17) 11 17
       (St.mk
       (Am.look
        [(0, T.v (V.slice t0_0 t0_1 t0_2)), (3, T.v (V.ptr t3)), (4, T.v (V.slice t4_0 t4_1 t4_2)), (5, T.v (V.int IntKind.i64 t5)),
        (6, T.lp 6 0), (7, T.v (V.int IntKind.i64 t9)), (8, T.v (V.bool (V.getBool (T.val (S'.1 8))))),
        (9, T.v (V.int IntKind.i64 (IntKind.wrap IntKind.i64 (t9 + 1))))])
       (Am.look [(6, Loc.cells 42 (c41 l6 l6'_0 l6'_1 l6'_2 l6''))]) S'.3)
       Kr Ke)
      (Am.Rec.loop (Am.Run env) (Am.loopAt env 11 17) 11 17
       (St.mk
       (Am.look
        [(0, T.v (V.slice t0_0 t0_1 t0_2)), (3, T.v (V.ptr t3)), (4, T.v (V.slice t4_0 t4_1 t4_2)), (5, T.v (V.int IntKind.i64 t5)),
        (6, T.lp 6 0), (7, T.v (V.int IntKind.i64 t7)), (8, T.v (V.bool (V.getBool (T.val (S'.1 8))))),
        (9, T.v (V.int IntKind.i64 (IntKind.wrap IntKind.i64 (t9 + 1))))])
       (Am.look [(6, Loc.cells 42 (c41 l6 l6'_0 l6'_1 l6'_2 l6''))]) S'.3)
       Kr Ke)))))))
   (Ke 2
   (St.mk
    (Am.look
    [(0, T.v (V.slice t0_0 t0_1 t0_2)), (3, T.v (V.ptr t3)), (4, T.v (V.slice t4_0 t4_1 t4_2)), (5, T.v (V.int IntKind.i64 t5)), (6, T.lp 6 0),
     (7, T.v (V.int IntKind.i64 t7)), (8, T.v (V.bool t8))])
    (Am.look [(6, Loc.cells 42 (c41 l6 l6'_0 l6'_1 l6'_2 l6''))]) H)) :=
  fun t0_0 t0_1 t0_2 t3 t4_0 t4_1 t4_2 t5 t7 t8 t9 l6 l6'_0 l6'_1 l6'_2 l6'' H Kr Ke => (Run_loop (E := env)).trans (by kernel_rfl)

end Go.Proofs.Ytpodpakpgolipaa
