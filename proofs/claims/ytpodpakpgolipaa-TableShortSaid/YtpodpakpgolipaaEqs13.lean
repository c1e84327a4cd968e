/- The equations of the calls and of the loops' rounds; the kernel looks at each. Written by a program (wip/am/Walk.lean). -/
import Derived.Test.YtpodpakpgolipaaAmEnv
namespace Go.Proofs.Ytpodpakpgolipaa
open Go.Am
set_option maxRecDepth 100000
set_option linter.unusedVariables false

theorem eq3 : ∀ (x0_0 x0_1 x0_2 x0_3 x0_4 x0_5 x0_6 x0_7 x0_8 x0_9 x0_10 : Int) (x0_11 : Bool) (x1 x2 : Int) (H : Am.Heap) (K : Am.V → Am.Heap → Prop),
  Am.Rec.call (Am.Run env) 3
   [V.agg (c24 x0_0 x0_1 x0_2 x0_3 x0_4 x0_5 x0_6 x0_7 x0_8 x0_9 x0_10 x0_11), V.int IntKind.i64 x1, V.int IntKind.i64 x2] H K =
  Am.Rec.call (Am.Run env) 13
   [V.agg (c24 x0_0 x0_1 x0_2 x0_3 x0_4 x0_5 x0_6 x0_7 x0_8 x0_9 x0_10 x0_11), V.int IntKind.i64 x1, V.int IntKind.i64 x2] H fun v H' ↦
   req (V.isAgg v && Am.fits k24 (V.aggCells v))
   (Am.Rec.call (Am.Run env) 14 [] H' fun v_1 H' ↦
    req (V.isK Kind.bool v_1)
    (br (V.getBool v_1)
     (Am.Rec.call (Am.Run env) 15
     [V.agg (c24 x0_0 x0_1 x0_2 x0_3 x0_4 x0_5 x0_6 x0_7 x0_8 x0_9 x0_10 x0_11), V.int IntKind.i64 x1, V.int IntKind.i64 x2] H' fun v_2 H' ↦
     req (V.isAgg v_2 && Am.fits k24 (V.aggCells v_2))
      (br (Am.cellsEq (o24 (V.aggCells v)) (o24 (V.aggCells v_2)))
      (br (!!decide (x1 = x2))
       (K (V.bool (Am.cellsEq (o24 (V.aggCells v)) (c24 x0_0 x0_1 x0_2 x0_3 x0_4 x0_5 x0_6 x0_7 x0_8 x0_9 x0_10 x0_11))) H')
       (K (V.bool true) H'))
      (K (V.bool false) H')))
     (K (V.bool false) H'))) :=
  fun x0_0 x0_1 x0_2 x0_3 x0_4 x0_5 x0_6 x0_7 x0_8 x0_9 x0_10 x0_11 x1 x2 H K => (Run_call (E := env)).trans (by kernel_rfl)

theorem eq4 : ∀ (x0_0 x0_1 x0_2 x0_3 x0_4 x0_5 x0_6 x0_7 x0_8 x0_9 x0_10 : Int) (x0_11 : Bool) (x1_0 x1_1 x1_2 x1_3 x1_4 x1_5 x1_6 x1_7 x1_8 x1_9 x1_10 : Int) (x1_11 : Bool) (x2 x3 : Int) (H : Am.Heap)
  (K : Am.V → Am.Heap → Prop),
  Am.Rec.call (Am.Run env) 4
   [V.agg (c24 x0_0 x0_1 x0_2 x0_3 x0_4 x0_5 x0_6 x0_7 x0_8 x0_9 x0_10 x0_11),
   V.agg (c24 x1_0 x1_1 x1_2 x1_3 x1_4 x1_5 x1_6 x1_7 x1_8 x1_9 x1_10 x1_11), V.int IntKind.u16 x2, V.int IntKind.u16 x3]
   H K =
  Am.Rec.call (Am.Run env) 16 [V.agg (c24 x0_0 x0_1 x0_2 x0_3 x0_4 x0_5 x0_6 x0_7 x0_8 x0_9 x0_10 x0_11)] H fun v H' ↦
   req (V.isAgg v && Am.fits k24 (V.aggCells v))
   (Am.Rec.call (Am.Run env) 16 [V.agg (c24 x1_0 x1_1 x1_2 x1_3 x1_4 x1_5 x1_6 x1_7 x1_8 x1_9 x1_10 x1_11)] H' fun v_1 H' ↦
    req (V.isAgg v_1 && Am.fits k24 (V.aggCells v_1))
    (Am.joinP
     (fun Q ↦
     Am.Rec.call (Am.Run env) 14 [] H' fun v_2 H' ↦
      req (V.isK Kind.bool v_2)
      (br (V.getBool v_2)
       (Am.Rec.call (Am.Run env) 17 [V.agg (o24 (V.aggCells v)), V.int IntKind.i64 (IntKind.wrap IntKind.i64 x2)] H'
       fun v_3 H' ↦
       req (V.isK Kind.slice v_3)
        (req (Am.strOk H' (V.slPtr v_3) (V.slLen v_3))
         (Am.Rec.call (Am.Run env) 17
         [V.agg (o24 (V.aggCells v_1)), V.int IntKind.i64 (IntKind.wrap IntKind.i64 x3)] H' fun v_4 H'_1 ↦
         req (V.isK Kind.slice v_4)
          (req (Am.strOk H'_1 (V.slPtr v_4) (V.slLen v_4))
          (br
           (decide
           ((Am.cellsEq (o24 (V.aggCells v)) (o24 (V.aggCells v_1)) && decide (x2 = x3)) =
            Am.strEq (Am.strAt H' (V.slPtr v_3) (V.slLen v_3)) (Am.strAt H'_1 (V.slPtr v_4) (V.slLen v_4))))
           (Am.Rec.call (Am.Run env) 18 [] H'_1 fun v_5 H' ↦
           req (V.isAgg v_5 && Am.fits k24 (V.aggCells v_5))
            (br (Am.cellsEq (o24 (V.aggCells v_5)) (c24 0 0 0 0 0 0 0 0 0 (-1) 0 false))
            (Am.Rec.call (Am.Run env) 19 [V.agg (o24 (V.aggCells v))] H' fun v H' ↦
             req (V.isK Kind.bool v) (Q (St.mk (Am.look [(8, T.v (V.bool (V.getBool v)))]) (Am.look []) H')))
            (Q (St.mk (Am.look [(8, T.v (V.bool false))]) (Am.look []) H'))))
           (Q (St.mk (Am.look [(8, T.v (V.bool false))]) (Am.look []) H'_1))))) ∧
        Am.Rec.call (Am.Run env) 17
         [V.agg (o24 (V.aggCells v_1)), V.int IntKind.i64 (IntKind.wrap IntKind.i64 x3)] H' fun v_4 H' ↦
         req (V.isK Kind.slice v_4)
         (req (Am.strOk H' (V.slPtr v_3) (V.slLen v_3))
          (req (Am.strOk H' (V.slPtr v_4) (V.slLen v_4))
          (br
           (decide
           ((Am.cellsEq (o24 (V.aggCells v)) (o24 (V.aggCells v_1)) && decide (x2 = x3)) =
            Am.strEq (Am.strAt H' (V.slPtr v_3) (V.slLen v_3)) (Am.strAt H' (V.slPtr v_4) (V.slLen v_4))))
           (Am.Rec.call (Am.Run env) 18 [] H' fun v_5 H' ↦
           req (V.isAgg v_5 && Am.fits k24 (V.aggCells v_5))
            (br (Am.cellsEq (o24 (V.aggCells v_5)) (c24 0 0 0 0 0 0 0 0 0 (-1) 0 false))
            (Am.Rec.call (Am.Run env) 19 [V.agg (o24 (V.aggCells v))] H' fun v H' ↦
             req (V.isK Kind.bool v) (Q (St.mk (Am.look [(8, T.v (V.bool (V.getBool v)))]) (Am.look []) H')))
            (Q (St.mk (Am.look [(8, T.v (V.bool false))]) (Am.look []) H'))))
           (Q (St.mk (Am.look [(8, T.v (V.bool false))]) (Am.look []) H')))))))
       (Q (St.mk (Am.look [(8, T.v (V.bool false))]) (Am.look []) H') ∧ Q (St.mk (Am.look [(8, T.v (V.bool false))]) (Am.look []) H'))))
     fun S' ↦ req (Am.isKT (KT.k Kind.bool) (S'.1 8) || false || false) (K (V.bool (V.getBool (T.val (S'.1 8)))) S'.3))) :=
  fun x0_0 x0_1 x0_2 x0_3 x0_4 x0_5 x0_6 x0_7 x0_8 x0_9 x0_10 x0_11 x1_0 x1_1 x1_2 x1_3 x1_4 x1_5 x1_6 x1_7 x1_8 x1_9 x1_10 x1_11 x2 x3 H K => (Run_call (E := env)).trans (by kernel_rfl)

theorem eq5 : ∀ (x0_0 x0_1 x0_2 x0_3 x0_4 x0_5 x0_6 x0_7 x0_8 x0_9 x0_10 : Int) (x0_11 : Bool) (H : Am.Heap) (K : Am.V → Am.Heap → Prop),
  Am.Rec.call (Am.Run env) 5 [V.agg (c24 x0_0 x0_1 x0_2 x0_3 x0_4 x0_5 x0_6 x0_7 x0_8 x0_9 x0_10 x0_11)] H K =
  Am.Rec.call (Am.Run env) 14 [] H fun v H' ↦
   req (V.isK Kind.bool v)
   (br (V.getBool v)
    (Am.Rec.call (Am.Run env) 20 [V.agg (c24 x0_0 x0_1 x0_2 x0_3 x0_4 x0_5 x0_6 x0_7 x0_8 x0_9 x0_10 x0_11)] H' fun v H' ↦
    req (V.isK Kind.bool v)
     (Am.Rec.call (Am.Run env) 19 [V.agg (c24 x0_0 x0_1 x0_2 x0_3 x0_4 x0_5 x0_6 x0_7 x0_8 x0_9 x0_10 x0_11)] H' fun v_1 H' ↦
     req (V.isK Kind.bool v_1)
      (br (decide (V.getBool v = V.getBool v_1))
      (Am.Rec.call (Am.Run env) 16 [V.agg (c24 x0_0 x0_1 x0_2 x0_3 x0_4 x0_5 x0_6 x0_7 x0_8 x0_9 x0_10 x0_11)] H' fun v H' ↦
       req (V.isAgg v && Am.fits k24 (V.aggCells v))
       (Am.Rec.call (Am.Run env) 20 [V.agg (o24 (V.aggCells v))] H' fun v H' ↦
        req (V.isK Kind.bool v)
        (br (V.getBool v)
         (Am.Rec.call (Am.Run env) 18 [] H' fun v H' ↦
         req (V.isAgg v && Am.fits k24 (V.aggCells v))
          (Am.Rec.call (Am.Run env) 20 [V.agg (o24 (V.aggCells v))] H' fun v H' ↦
          req (V.isK Kind.bool v) (K (V.bool (V.getBool v)) H')))
         (K (V.bool false) H'))))
      (K (V.bool false) H'))))
    (K (V.bool false) H')) :=
  fun x0_0 x0_1 x0_2 x0_3 x0_4 x0_5 x0_6 x0_7 x0_8 x0_9 x0_10 x0_11 H K => (Run_call (E := env)).trans (by kernel_rfl)

theorem eq7 : ∀ (x0_0 x0_1 x0_2 x0_3 x0_4 x0_5 x0_6 x0_7 x0_8 x0_9 x0_10 : Int) (x0_11 : Bool) (x1 : Int) (H : Am.Heap) (K : Am.V → Am.Heap → Prop),
  Am.Rec.call (Am.Run env) 7 [V.agg (c24 x0_0 x0_1 x0_2 x0_3 x0_4 x0_5 x0_6 x0_7 x0_8 x0_9 x0_10 x0_11), V.int IntKind.u32 x1] H K =
  Am.Rec.call (Am.Run env) 14 [] H fun v H' ↦
   req (V.isK Kind.bool v)
   (br (!V.getBool v) (K (V.bool false) H')
    (Am.Rec.call (Am.Run env) 16 [V.agg (c24 x0_0 x0_1 x0_2 x0_3 x0_4 x0_5 x0_6 x0_7 x0_8 x0_9 x0_10 x0_11)] H' fun v H' ↦
    req (V.isAgg v && Am.fits k24 (V.aggCells v))
     (Am.Rec.call (Am.Run env) 17 [V.agg (o24 (V.aggCells v)), V.int IntKind.i64 (IntKind.wrap IntKind.i64 (Int.fdiv x1 2))]
     H' fun v_1 H' ↦
     req (V.isK Kind.slice v_1)
      (Am.Rec.call (Am.Run env) 25 [V.slice (V.slPtr v_1) (V.slLen v_1) (V.slCap v_1)] H' fun v_2 H' ↦
      req
       (V.isTuple 3 v_2 &&
       (V.isAgg (nthV (V.vals v_2) 0) && Am.fits k24 (V.aggCells (nthV (V.vals v_2) 0)) &&
        (V.isK (Kind.int IntKind.i64) (nthV (V.vals v_2) 1) && (V.isK (Kind.int IntKind.i64) (nthV (V.vals v_2) 2) || false))))
       (Am.joinP
       (fun Q ↦
        req (Am.strOk H' (V.slPtr v_1) (V.slLen v_1))
         (Am.Rec.call (Am.Run env) 26
         [V.agg (o24 (V.aggCells v)), V.int IntKind.i64 (IntKind.wrap IntKind.i64 (Int.fdiv x1 2))] H' fun v_3 H'_1 ↦
         req (V.isK Kind.slice v_3)
          (req (Am.strOk H'_1 (V.slPtr v_3) (V.slLen v_3))
          (br (Am.strEq (Am.strAt H' (V.slPtr v_1) (V.slLen v_1)) (Am.strAt H'_1 (V.slPtr v_3) (V.slLen v_3)))
           (br (decide (V.getInt (nthV (V.vals v_2) 2) = 0))
           (br (Am.cellsEq (o24 (V.aggCells (nthV (V.vals v_2) 0))) (o24 (V.aggCells v)))
            (Q
            (St.mk (Am.look [(4, T.v (V.bool (decide (V.getInt (nthV (V.vals v_2) 1) = IntKind.wrap IntKind.i64 (Int.fdiv x1 2)))))])
             (Am.look []) H'_1))
            (Q (St.mk (Am.look [(4, T.v (V.bool false))]) (Am.look []) H'_1)))
           (Q (St.mk (Am.look [(4, T.v (V.bool false))]) (Am.look []) H'_1)))
           (Q (St.mk (Am.look [(4, T.v (V.bool false))]) (Am.look []) H'_1))))) ∧
        Am.Rec.call (Am.Run env) 26
         [V.agg (o24 (V.aggCells v)), V.int IntKind.i64 (IntKind.wrap IntKind.i64 (Int.fdiv x1 2))] H' fun v_3 H' ↦
         req (V.isK Kind.slice v_3)
         (req (Am.strOk H' (V.slPtr v_1) (V.slLen v_1))
          (req (Am.strOk H' (V.slPtr v_3) (V.slLen v_3))
          (br (Am.strEq (Am.strAt H' (V.slPtr v_1) (V.slLen v_1)) (Am.strAt H' (V.slPtr v_3) (V.slLen v_3)))
           (br (decide (V.getInt (nthV (V.vals v_2) 2) = 0))
           (br (Am.cellsEq (o24 (V.aggCells (nthV (V.vals v_2) 0))) (o24 (V.aggCells v)))
            (Q
            (St.mk (Am.look [(4, T.v (V.bool (decide (V.getInt (nthV (V.vals v_2) 1) = IntKind.wrap IntKind.i64 (Int.fdiv x1 2)))))])
             (Am.look []) H'))
            (Q (St.mk (Am.look [(4, T.v (V.bool false))]) (Am.look []) H')))
           (Q (St.mk (Am.look [(4, T.v (V.bool false))]) (Am.look []) H')))
           (Q (St.mk (Am.look [(4, T.v (V.bool false))]) (Am.look []) H'))))))
       fun S' ↦ req (Am.isKT (KT.k Kind.bool) (S'.1 4) || false || false) (K (V.bool (V.getBool (T.val (S'.1 4)))) S'.3)))))) :=
  fun x0_0 x0_1 x0_2 x0_3 x0_4 x0_5 x0_6 x0_7 x0_8 x0_9 x0_10 x0_11 x1 H K => (Run_call (E := env)).trans (by kernel_rfl)

theorem eq8 : ∀ (x0p : Option (Nat × Nat)) (x0n x0c : Nat) (x1 : Bool) (H : Am.Heap) (K : Am.V → Am.Heap → Prop),
  Am.Rec.call (Am.Run env) 8 (c91 x0p x0n x0c x1) H K =
  Am.Rec.call (Am.Run env) 14 [] H fun v H' ↦
   req (V.isK Kind.bool v)
   (br (bif !!V.getBool v then decide ((↑x0n : Int) > 300) else true)
    (Am.Rec.call (Am.Run env) 14 [] H' fun v H' ↦ req (V.isK Kind.bool v) (K (V.bool (V.getBool v)) H'))
    (Am.appendOp env [31, 31] [V.slice Option.none 0 0, V.slice x0p x0n x0c] H' fun q n c H' ↦
    Am.Rec.loop (Am.Run env) (Am.loopAt env 8 6) 8 6
     (St.mk (Am.look [(1, T.v (V.bool x1)), (5, T.v (V.slice q n c))]) (Am.look []) H') (fun S' ↦ False) fun j S' ↦
     br (Nat.beq j 0)
     (req (Am.isKT (KT.k Kind.slice) (S'.1 5) || false || false)
      (Am.Rec.call (Am.Run env) 25 [V.slice (V.slPtr (T.val (S'.1 5))) (V.slLen (T.val (S'.1 5))) (V.slCap (T.val (S'.1 5)))] S'.3
      fun v H' ↦
      req
       (V.isTuple 3 v &&
       (V.isAgg (nthV (V.vals v) 0) && Am.fits k24 (V.aggCells (nthV (V.vals v) 0)) &&
        (V.isK (Kind.int IntKind.i64) (nthV (V.vals v) 1) && (V.isK (Kind.int IntKind.i64) (nthV (V.vals v) 2) || false))))
       (Am.Rec.call (Am.Run env) 27 [V.slice (V.slPtr (T.val (S'.1 5))) (V.slLen (T.val (S'.1 5))) (V.slCap (T.val (S'.1 5)))] H'
       fun v_1 H' ↦
       req
        (V.isTuple 3 v_1 &&
        (V.isAgg (nthV (V.vals v_1) 0) && Am.fits k24 (V.aggCells (nthV (V.vals v_1) 0)) &&
         (V.isK (Kind.int IntKind.i64) (nthV (V.vals v_1) 1) && (V.isK Kind.bool (nthV (V.vals v_1) 2) || false))))
        (K
        (V.bool
         (decide (V.getBool (nthV (V.vals v_1) 2) = decide (V.getInt (nthV (V.vals v) 2) = 0)) &&
         bif !V.getBool (nthV (V.vals v_1) 2) then
          decide (V.getInt (nthV (V.vals v) 2) = 3) &&
          (Am.cellsEq (o24 (V.aggCells (nthV (V.vals v) 0)))
           (o24 (V.aggCells (nthV (V.vals v_1) 0))) &&
           decide (V.getInt (nthV (V.vals v) 1) = V.getInt (nthV (V.vals v_1) 1)))
         else
          Am.cellsEq (o24 (V.aggCells (nthV (V.vals v) 0))) (o24 (V.aggCells (nthV (V.vals v_1) 0))) &&
          decide (V.getInt (nthV (V.vals v) 1) = V.getInt (nthV (V.vals v_1) 1))))
        H'))))
     False)) :=
  fun x0p x0n x0c x1 H K => (Run_call (E := env)).trans (by kernel_rfl)

theorem lp8_6 : ∀ (t1 : Bool) (t5_0 : Option (Nat × Nat)) (t5_1 t5_2 : Nat) (H : Am.Heap) (Kr : Am.St → Prop) (Ke : Nat → Am.St → Prop),
  Am.Rec.loop (Am.Run env) (Am.loopAt env 8 6) 8 6
   (St.mk (Am.look [(1, T.v (V.bool t1)), (5, T.v (V.slice t5_0 t5_1 t5_2))]) (Am.look []) H) Kr Ke =
  br (t1 && decide ((↑t5_1 : Int) < 43))
   (Am.appendOp env [31, 31] [V.slice t5_0 t5_1 t5_2, V.slice (Option.some (H.2, 0)) 1 1] (Am.Heap.alloc H (Am.Obj.cells 5 [V.int IntKind.u8 0] false))
   fun q n c H' ↦
   Am.Rec.loop (Am.Run env) (Am.loopAt env 8 6) 8 6
    (St.mk (Am.look [(1, T.v (V.bool t1)), (5, T.v (V.slice q n c))]) (Am.look []) H') Kr Ke)
   (Ke 0 (St.mk (Am.look [(5, T.v (V.slice t5_0 t5_1 t5_2))]) (Am.look []) H)) :=
  fun t1 t5_0 t5_1 t5_2 H Kr Ke => (Run_loop (E := env)).trans (by kernel_rfl)

theorem eq9 : ∀ (x0_0 x0_1 x0_2 x0_3 x0_4 x0_5 x0_6 x0_7 x0_8 x0_9 x0_10 : Int) (x0_11 : Bool) (x1 x2 : Int) (x3p : Option (Nat × Nat)) (x3n x3c : Nat) (H : Am.Heap) (K : Am.V → Am.Heap → Prop),
  Am.Rec.call (Am.Run env) 9
   [V.agg (c24 x0_0 x0_1 x0_2 x0_3 x0_4 x0_5 x0_6 x0_7 x0_8 x0_9 x0_10 x0_11), V.int IntKind.u16 x1, V.int IntKind.u8 x2, V.slice x3p x3n x3c] H K =
  Am.Rec.call (Am.Run env) 14 [] H fun v H' ↦
   req (V.isK Kind.bool v)
   (br (bif !!V.getBool v then decide ((↑x3n : Int) > 100) else true)
    (Am.Rec.call (Am.Run env) 14 [] H' fun v H' ↦ req (V.isK Kind.bool v) (K (V.bool (V.getBool v)) H'))
    (Am.Rec.call (Am.Run env) 16 [V.agg (c24 x0_0 x0_1 x0_2 x0_3 x0_4 x0_5 x0_6 x0_7 x0_8 x0_9 x0_10 x0_11)] H' fun v H' ↦
    req (V.isAgg v && Am.fits k24 (V.aggCells v))
     (Am.Rec.call (Am.Run env) 17 [V.agg (o24 (V.aggCells v)), V.int IntKind.i64 (IntKind.wrap IntKind.i64 x1)] H'
     fun v H' ↦
     req (V.isK Kind.slice v)
      (req
      ((decide (0 ≤ Int.tmod (IntKind.wrap IntKind.i64 x2) 43) && decide (Int.tmod (IntKind.wrap IntKind.i64 x2) 43 ≤ (↑(V.slCap v) : Int)) || false) &&
       Nat.ble (Int.toNat (Int.tmod (IntKind.wrap IntKind.i64 x2) 43)) (V.slCap v))
      (Am.Rec.call (Am.Run env) 25 [V.slice (Am.ptrAdd (V.slPtr v) 0) (Int.toNat (Int.tmod (IntKind.wrap IntKind.i64 x2) 43) - 0) (V.slCap v - 0)]
       H' fun v_1 H' ↦
       req
       (V.isTuple 3 v_1 &&
        (V.isAgg (nthV (V.vals v_1) 0) && Am.fits k24 (V.aggCells (nthV (V.vals v_1) 0)) &&
        (V.isK (Kind.int IntKind.i64) (nthV (V.vals v_1) 1) && (V.isK (Kind.int IntKind.i64) (nthV (V.vals v_1) 2) || false))))
       (Am.appendOp env [31, 31] [V.slice Option.none 0 0, V.slice (V.slPtr v) (V.slLen v) (V.slCap v)] H' fun q n c H' ↦
        Am.appendOp env [31, 31] [V.slice q n c, V.slice x3p x3n x3c] H' fun q n c H' ↦
        Am.Rec.call (Am.Run env) 25 [V.slice q n c] H' fun v H' ↦
         req
         (V.isTuple 3 v &&
          (V.isAgg (nthV (V.vals v) 0) && Am.fits k24 (V.aggCells (nthV (V.vals v) 0)) &&
          (V.isK (Kind.int IntKind.i64) (nthV (V.vals v) 1) && (V.isK (Kind.int IntKind.i64) (nthV (V.vals v) 2) || false))))
         (K
          (V.bool
          (decide (V.getInt (nthV (V.vals v_1) 2) = 3) &&
           (decide (decide (V.getInt (nthV (V.vals v) 2) = 0) = decide ((↑x3n : Int) = 0)) &&
           bif !decide (V.getInt (nthV (V.vals v) 2) = 0) then decide (V.getInt (nthV (V.vals v) 2) = 3) else true)))
          H'))))))) :=
  fun x0_0 x0_1 x0_2 x0_3 x0_4 x0_5 x0_6 x0_7 x0_8 x0_9 x0_10 x0_11 x1 x2 x3p x3n x3c H K => (Run_call (E := env)).trans (by kernel_rfl)

theorem eq13 : ∀ (x0_0 x0_1 x0_2 x0_3 x0_4 x0_5 x0_6 x0_7 x0_8 x0_9 x0_10 : Int) (x0_11 : Bool) (x1 x2 : Int) (H : Am.Heap) (K : Am.V → Am.Heap → Prop),
  Am.Rec.call (Am.Run env) 13
   [V.agg (c24 x0_0 x0_1 x0_2 x0_3 x0_4 x0_5 x0_6 x0_7 x0_8 x0_9 x0_10 x0_11), V.int IntKind.i64 x1, V.int IntKind.i64 x2] H K =
  br (decide (x1 = x2)) (K (V.agg (c24 x0_0 x0_1 x0_2 x0_3 x0_4 x0_5 x0_6 x0_7 x0_8 x0_9 x0_10 x0_11)) H)
   (br (!x0_11)
   (Am.Rec.call (Am.Run env) 18 [] H fun v H' ↦
    req (V.isAgg v && Am.fits k24 (V.aggCells v)) (K (V.agg (o24 (V.aggCells v))) H'))
   (K (V.agg (c24 x0_0 x0_1 x0_2 x0_3 x0_4 x0_5 x0_6 x0_7 x0_8 x0_9 0 x0_11)) H)) :=
  fun x0_0 x0_1 x0_2 x0_3 x0_4 x0_5 x0_6 x0_7 x0_8 x0_9 x0_10 x0_11 x1 x2 H K => (Run_call (E := env)).trans (by kernel_rfl)

theorem eq14 : ∀ (H : Am.Heap) (K : Am.V → Am.Heap → Prop),
  Am.Rec.call (Am.Run env) 14 [] H K =
  Am.Rec.call (Am.Run env) 18 [] H fun v H' ↦
   req (V.isAgg v && Am.fits k24 (V.aggCells v))
   (Am.Rec.call (Am.Run env) 31
    [V.agg (o24 (V.aggCells v)), V.int IntKind.i64 3, V.agg (c67 4 0 Option.none 0 0 false 0 9 0 false)] H' fun v H' ↦
    req
    (V.isTuple 2 v &&
     (V.isAgg (nthV (V.vals v) 0) && Am.fits k24 (V.aggCells (nthV (V.vals v) 0)) &&
     (V.isK (Kind.int IntKind.i64) (nthV (V.vals v) 1) || false)))
    (Am.Rec.call (Am.Run env) 13
     [V.agg (o24 (V.aggCells (nthV (V.vals v) 0))), V.int IntKind.i64 0, V.int IntKind.i64 1] H' fun v_1 H' ↦
     req (V.isAgg v_1 && Am.fits k24 (V.aggCells v_1))
     (Am.Rec.call (Am.Run env) 18 [] H' fun v_2 H' ↦
      req (V.isAgg v_2 && Am.fits k24 (V.aggCells v_2))
      (br (Am.cellsEq (o24 (V.aggCells v_1)) (o24 (V.aggCells v_2)))
       (Am.Rec.call (Am.Run env) 13
       [V.agg (o24 (V.aggCells (nthV (V.vals v) 0))), V.int IntKind.i64 1, V.int IntKind.i64 1] H' fun v_3 H' ↦
       req (V.isAgg v_3 && Am.fits k24 (V.aggCells v_3))
        (br (Am.cellsEq (o24 (V.aggCells v_3)) (o24 (V.aggCells (nthV (V.vals v) 0))))
        (Am.Rec.call (Am.Run env) 17 [V.agg (o24 (V.aggCells (nthV (V.vals v) 0))), V.int IntKind.i64 1] H'
         fun v H' ↦ req (V.isK Kind.slice v) (K (V.bool (decide ((↑(V.slLen v) : Int) = 43))) H'))
        (K (V.bool false) H')))
       (K (V.bool false) H'))))) :=
  fun H K => (Run_call (E := env)).trans (by kernel_rfl)

theorem eq15 : ∀ (x0_0 x0_1 x0_2 x0_3 x0_4 x0_5 x0_6 x0_7 x0_8 x0_9 x0_10 : Int) (x0_11 : Bool) (x1 x2 : Int) (H : Am.Heap) (K : Am.V → Am.Heap → Prop),
  Am.Rec.call (Am.Run env) 15
   [V.agg (c24 x0_0 x0_1 x0_2 x0_3 x0_4 x0_5 x0_6 x0_7 x0_8 x0_9 x0_10 x0_11), V.int IntKind.i64 x1, V.int IntKind.i64 x2] H K =
  br (!decide (x1 = x2) && !x0_11) (K (V.agg (c24 0 0 0 0 0 0 0 0 0 (-1) 0 false)) H)
   (br (!decide (x1 = x2)) (K (V.agg (c24 x0_0 x0_1 x0_2 x0_3 x0_4 x0_5 x0_6 x0_7 x0_8 x0_9 0 x0_11)) H)
   (K (V.agg (c24 x0_0 x0_1 x0_2 x0_3 x0_4 x0_5 x0_6 x0_7 x0_8 x0_9 x0_10 x0_11)) H)) :=
  fun x0_0 x0_1 x0_2 x0_3 x0_4 x0_5 x0_6 x0_7 x0_8 x0_9 x0_10 x0_11 x1 x2 H K => (Run_call (E := env)).trans (by kernel_rfl)

theorem eq16 : ∀ (x0_0 x0_1 x0_2 x0_3 x0_4 x0_5 x0_6 x0_7 x0_8 x0_9 x0_10 : Int) (x0_11 : Bool) (H : Am.Heap) (K : Am.V → Am.Heap → Prop),
  Am.Rec.call (Am.Run env) 16 [V.agg (c24 x0_0 x0_1 x0_2 x0_3 x0_4 x0_5 x0_6 x0_7 x0_8 x0_9 x0_10 x0_11)] H K =
  Am.Rec.call (Am.Run env) 19 [V.agg (c24 x0_0 x0_1 x0_2 x0_3 x0_4 x0_5 x0_6 x0_7 x0_8 x0_9 x0_10 x0_11)] H fun v H' ↦
   req (V.isK Kind.bool v)
   (br (V.getBool v) (K (V.agg (c24 x0_0 x0_1 x0_2 x0_3 x0_4 x0_5 x0_6 x0_7 x0_8 x0_9 x0_10 x0_11)) H')
    (br (decide (Int.tmod x0_8 2 = 0))
    (K (V.agg (c24 x0_0 x0_1 x0_2 x0_3 x0_4 x0_5 x0_6 x0_7 0 (-1) x0_10 x0_11)) (Am.Heap.alloc H' (Am.Obj.cells 5 (c85 1 3 5 6 7 8) false)))
    (req
     (decide (0 ≤ Int.tmod (IntKind.wrap IntKind.i64 (IntKind.wrap IntKind.u8 (Int.tdiv x0_8 2))) 6) &&
      decide (Int.tmod (IntKind.wrap IntKind.i64 (IntKind.wrap IntKind.u8 (Int.tdiv x0_8 2))) 6 < 6) ||
     false)
     (req
     (Am.Heap.inb (Am.Heap.alloc H' (Am.Obj.cells 5 (c85 1 3 5 6 7 8) false)) H'.2
      (0 + Int.toNat (Int.tmod (IntKind.wrap IntKind.i64 (IntKind.wrap IntKind.u8 (Int.tdiv x0_8 2))) 6) * 1) 1 &&
      V.isK (Kind.int IntKind.u8)
      (Am.Heap.cell (Am.Heap.alloc H' (Am.Obj.cells 5 (c85 1 3 5 6 7 8) false)) H'.2
       (0 + Int.toNat (Int.tmod (IntKind.wrap IntKind.i64 (IntKind.wrap IntKind.u8 (Int.tdiv x0_8 2))) 6) * 1)))
     (req (decide (0 ≤ IntKind.wrap IntKind.i64 (Int.tmod x0_10 8)) && decide (IntKind.wrap IntKind.i64 (Int.tmod x0_10 8) < 8))
      (req
      (Nat.ble (Nat.succ (0 + Int.toNat (IntKind.wrap IntKind.i64 (Int.tmod x0_10 8)) * 1)) 12 &&
       V.isK (Kind.int IntKind.u32)
       (nthV
        (c24 x0_0 x0_1 x0_2 x0_3 x0_4 x0_5 x0_6 x0_7
        (V.getInt
         (Am.Heap.cell (Am.Heap.alloc H' (Am.Obj.cells 5 (c85 1 3 5 6 7 8) false)) H'.2
         (0 + Int.toNat (Int.tmod (IntKind.wrap IntKind.i64 (IntKind.wrap IntKind.u8 (Int.tdiv x0_8 2))) 6) * 1)))
        (-1) x0_10 x0_11)
        (0 + Int.toNat (IntKind.wrap IntKind.i64 (Int.tmod x0_10 8)) * 1)))
      (Am.joinP
       (fun Q ↦
       br
        (decide
        (V.getInt
         (nthV
          (c24 x0_0 x0_1 x0_2 x0_3 x0_4 x0_5 x0_6 x0_7
          (V.getInt
           (Am.Heap.cell (Am.Heap.alloc H' (Am.Obj.cells 5 (c85 1 3 5 6 7 8) false)) H'.2
           (0 + Int.toNat (Int.tmod (IntKind.wrap IntKind.i64 (IntKind.wrap IntKind.u8 (Int.tdiv x0_8 2))) 6) * 1)))
          (-1) x0_10 x0_11)
          (0 + Int.toNat (IntKind.wrap IntKind.i64 (Int.tmod x0_10 8)) * 1)) =
         0))
        (req (decide (0 ≤ IntKind.wrap IntKind.i64 (Int.tmod x0_10 8)) && decide (IntKind.wrap IntKind.i64 (Int.tmod x0_10 8) < 8))
        (req
         (Nat.ble (0 + Int.toNat (IntKind.wrap IntKind.i64 (Int.tmod x0_10 8)) * 1 + 1) 12 &&
         (V.isK (Kind.int IntKind.u8)
          (Am.condV (Nat.beq 8 (0 + Int.toNat (IntKind.wrap IntKind.i64 (Int.tmod x0_10 8)) * 1)) (V.int IntKind.u32 1)
           (V.int IntKind.u8
           (V.getInt
            (Am.Heap.cell (Am.Heap.alloc H' (Am.Obj.cells 5 (c85 1 3 5 6 7 8) false)) H'.2
            (0 + Int.toNat (Int.tmod (IntKind.wrap IntKind.i64 (IntKind.wrap IntKind.u8 (Int.tdiv x0_8 2))) 6) * 1))))) &&
          (V.isK (Kind.int IntKind.i64)
           (Am.condV (Nat.beq 9 (0 + Int.toNat (IntKind.wrap IntKind.i64 (Int.tmod x0_10 8)) * 1)) (V.int IntKind.u32 1) (V.int IntKind.i64 (-1))) &&
          (V.isK Kind.bool (Am.condV (Nat.beq 11 (0 + Int.toNat (IntKind.wrap IntKind.i64 (Int.tmod x0_10 8)) * 1)) (V.int IntKind.u32 1) (V.bool x0_11)) &&
           true))))
         (Q
         (St.mk (Am.look [])
          (Am.look
          [(1,
           Loc.cells 25
            (c24 (bif Nat.beq 0 (0 + Int.toNat (IntKind.wrap IntKind.i64 (Int.tmod x0_10 8)) * 1) then 1 else x0_0)
            (bif Nat.beq 1 (0 + Int.toNat (IntKind.wrap IntKind.i64 (Int.tmod x0_10 8)) * 1) then 1 else x0_1)
            (bif Nat.beq 2 (0 + Int.toNat (IntKind.wrap IntKind.i64 (Int.tmod x0_10 8)) * 1) then 1 else x0_2)
            (bif Nat.beq 3 (0 + Int.toNat (IntKind.wrap IntKind.i64 (Int.tmod x0_10 8)) * 1) then 1 else x0_3)
            (bif Nat.beq 4 (0 + Int.toNat (IntKind.wrap IntKind.i64 (Int.tmod x0_10 8)) * 1) then 1 else x0_4)
            (bif Nat.beq 5 (0 + Int.toNat (IntKind.wrap IntKind.i64 (Int.tmod x0_10 8)) * 1) then 1 else x0_5)
            (bif Nat.beq 6 (0 + Int.toNat (IntKind.wrap IntKind.i64 (Int.tmod x0_10 8)) * 1) then 1 else x0_6)
            (bif Nat.beq 7 (0 + Int.toNat (IntKind.wrap IntKind.i64 (Int.tmod x0_10 8)) * 1) then 1 else x0_7)
            (V.getInt
             (Am.condV (Nat.beq 8 (0 + Int.toNat (IntKind.wrap IntKind.i64 (Int.tmod x0_10 8)) * 1)) (V.int IntKind.u32 1)
             (V.int IntKind.u8
              (V.getInt
              (Am.Heap.cell (Am.Heap.alloc H' (Am.Obj.cells 5 (c85 1 3 5 6 7 8) false)) H'.2
               (0 + Int.toNat (Int.tmod (IntKind.wrap IntKind.i64 (IntKind.wrap IntKind.u8 (Int.tdiv x0_8 2))) 6) * 1))))))
            (V.getInt
             (Am.condV (Nat.beq 9 (0 + Int.toNat (IntKind.wrap IntKind.i64 (Int.tmod x0_10 8)) * 1)) (V.int IntKind.u32 1) (V.int IntKind.i64 (-1))))
            (bif Nat.beq 10 (0 + Int.toNat (IntKind.wrap IntKind.i64 (Int.tmod x0_10 8)) * 1) then 1 else x0_10)
            (V.getBool (Am.condV (Nat.beq 11 (0 + Int.toNat (IntKind.wrap IntKind.i64 (Int.tmod x0_10 8)) * 1)) (V.int IntKind.u32 1) (V.bool x0_11)))))])
          (Am.Heap.alloc H' (Am.Obj.cells 5 (c85 1 3 5 6 7 8) false))))))
        (Q
        (St.mk (Am.look [])
         (Am.look
         [(1,
          Loc.cells 25
           (c24 x0_0 x0_1 x0_2 x0_3 x0_4 x0_5 x0_6 x0_7
           (V.getInt
            (Am.Heap.cell (Am.Heap.alloc H' (Am.Obj.cells 5 (c85 1 3 5 6 7 8) false)) H'.2
            (0 + Int.toNat (Int.tmod (IntKind.wrap IntKind.i64 (IntKind.wrap IntKind.u8 (Int.tdiv x0_8 2))) 6) * 1)))
           (-1) x0_10 x0_11))])
         (Am.Heap.alloc H' (Am.Obj.cells 5 (c85 1 3 5 6 7 8) false)))))
       fun S' ↦
       req (Am.isLK 25 k24 (S'.2 1) || false)
       (br (decide (V.getInt (nthV (Am.locCells (S'.2 1)) 8) < 7))
        (K
        (V.agg
         (c24 (V.getInt (nthV (Am.locCells (S'.2 1)) 0)) (V.getInt (nthV (Am.locCells (S'.2 1)) 1))
         (V.getInt (nthV (Am.locCells (S'.2 1)) 2)) (V.getInt (nthV (Am.locCells (S'.2 1)) 3)) (V.getInt (nthV (Am.locCells (S'.2 1)) 4))
         (V.getInt (nthV (Am.locCells (S'.2 1)) 5)) (V.getInt (nthV (Am.locCells (S'.2 1)) 6)) (V.getInt (nthV (Am.locCells (S'.2 1)) 7))
         (V.getInt (nthV (Am.locCells (S'.2 1)) 8)) (IntKind.wrap IntKind.i64 (Int.tmod x0_10 8)) (V.getInt (nthV (Am.locCells (S'.2 1)) 10))
         (V.getBool (nthV (Am.locCells (S'.2 1)) 11))))
        S'.3)
        (K (V.agg (o24 (Am.locCells (S'.2 1)))) S'.3))))))))) :=
  fun x0_0 x0_1 x0_2 x0_3 x0_4 x0_5 x0_6 x0_7 x0_8 x0_9 x0_10 x0_11 H K => (Run_call (E := env)).trans (by kernel_rfl)

theorem eq17 : ∀ (x0_0 x0_1 x0_2 x0_3 x0_4 x0_5 x0_6 x0_7 x0_8 x0_9 x0_10 : Int) (x0_11 : Bool) (x1 : Int) (H : Am.Heap) (K : Am.V → Am.Heap → Prop),
  Am.Rec.call (Am.Run env) 17 [V.agg (c24 x0_0 x0_1 x0_2 x0_3 x0_4 x0_5 x0_6 x0_7 x0_8 x0_9 x0_10 x0_11), V.int IntKind.i64 x1] H K =
  Am.Rec.loop (Am.Run env) (Am.loopAt env 17 3) 17 3
   (St.mk
   (Am.look
    [(1, T.v (V.int IntKind.i64 x1)), (2, T.lp 2 0), (5, T.v (V.slice Option.none 0 0)),
    (10, T.v (V.agg (c23 x0_0 x0_1 x0_2 x0_3 x0_4 x0_5 x0_6 x0_7))), (11, T.v (V.int IntKind.i64 0))])
   (Am.look [(2, Loc.cells 25 (c24 x0_0 x0_1 x0_2 x0_3 x0_4 x0_5 x0_6 x0_7 x0_8 x0_9 x0_10 x0_11))]) H)
   (fun S' ↦ False) fun j S' ↦
   br (Nat.beq j 0)
   (req
    (Am.isKT (KT.k (Kind.int IntKind.i64)) (S'.1 1) && (Am.isKT (KT.lp 2) (S'.1 2) && (Am.isKT (KT.k Kind.slice) (S'.1 5) || false)) &&
    (Am.isLK 25 k24 (S'.2 2) || false))
    (Am.Rec.call (Am.Run env) 32
    [V.slice (V.slPtr (T.val (S'.1 5))) (V.slLen (T.val (S'.1 5))) (V.slCap (T.val (S'.1 5))),
     V.int IntKind.u64 (IntKind.wrap IntKind.u64 (V.getInt (nthV (Am.locCells (S'.2 2)) 8))), V.int IntKind.i64 1]
    S'.3 fun v H' ↦
    req (V.isK Kind.slice v)
     (Am.Rec.call (Am.Run env) 32
     [V.slice (V.slPtr v) (V.slLen v) (V.slCap v),
      V.int IntKind.u64 (IntKind.wrap IntKind.u64 (IntKind.wrap IntKind.i64 (V.getInt (nthV (Am.locCells (S'.2 2)) 9) + 1))), V.int IntKind.i64 1]
     H' fun v H' ↦
     req (V.isK Kind.slice v)
      (Am.joinP
      (fun Q ↦
       br (V.getBool (nthV (Am.locCells (S'.2 2)) 11)) (Q (St.mk (Am.look [(8, T.v (V.int IntKind.u64 1))]) (Am.look []) H'))
       (Q (St.mk (Am.look [(8, T.v (V.int IntKind.u64 0))]) (Am.look []) H')))
      fun S'_1 ↦
      req (Am.isKT (KT.k (Kind.int IntKind.u64)) (S'_1.1 8) || false || false)
       (Am.Rec.call (Am.Run env) 32
       [V.slice (V.slPtr v) (V.slLen v) (V.slCap v), V.int IntKind.u64 (IntKind.wrap IntKind.u64 (V.getInt (nthV (Am.locCells (S'.2 2)) 10))),
        V.int IntKind.i64 4]
       S'_1.3 fun v H' ↦
       req (V.isK Kind.slice v)
        (Am.Rec.call (Am.Run env) 32
        [V.slice (V.slPtr v) (V.slLen v) (V.slCap v), V.int IntKind.u64 (V.getInt (T.val (S'_1.1 8))), V.int IntKind.i64 1] H' fun v H' ↦
        req (V.isK Kind.slice v)
         (Am.Rec.call (Am.Run env) 32
         [V.slice (V.slPtr v) (V.slLen v) (V.slCap v), V.int IntKind.u64 (IntKind.wrap IntKind.u64 (V.getInt (T.val (S'.1 1)))),
          V.int IntKind.i64 4]
         H' fun v H' ↦ req (V.isK Kind.slice v) (K (V.slice (V.slPtr v) (V.slLen v) (V.slCap v)) H'))))))))
   False :=
  fun x0_0 x0_1 x0_2 x0_3 x0_4 x0_5 x0_6 x0_7 x0_8 x0_9 x0_10 x0_11 x1 H K => (Run_call (E := env)).trans (by kernel_rfl)

theorem lp17_3 : ∀ (t1 : Int) (t5_0 : Option (Nat × Nat)) (t5_1 t5_2 : Nat) (t10 t10' t10'' t10''' t10'''' t10''''' t10'''''' t10''''''' t11 l2 l2' l2'' l2''' l2'''' l2''''' l2'''''' l2''''''' l2'''''''' l2''''''''' l2'''''''''' : Int)
  (l2''''''''''' : Bool) (H : Am.Heap) (Kr : Am.St → Prop) (Ke : Nat → Am.St → Prop),
  Am.Rec.loop (Am.Run env) (Am.loopAt env 17 3) 17 3
   (St.mk
   (Am.look
    [(1, T.v (V.int IntKind.i64 t1)), (2, T.lp 2 0), (5, T.v (V.slice t5_0 t5_1 t5_2)),
    (10, T.v (V.agg (c23 t10 t10' t10'' t10''' t10'''' t10''''' t10'''''' t10'''''''))), (11, T.v (V.int IntKind.i64 t11))])
   (Am.look [(2, Loc.cells 25 (c24 l2 l2' l2'' l2''' l2'''' l2''''' l2'''''' l2''''''' l2'''''''' l2''''''''' l2'''''''''' l2'''''''''''))]) H)
   Kr Ke =
  br (decide (t11 < 8))
   (req
   (decide (0 ≤ t11) && decide (t11 < 8) &&
    (Nat.ble (Nat.succ (Int.toNat t11 * 1)) 8 &&
    V.isK (Kind.int IntKind.u32) (nthV (c23 t10 t10' t10'' t10''' t10'''' t10''''' t10'''''' t10''''''') (Int.toNat t11 * 1))))
   (Am.Rec.call (Am.Run env) 32
    [V.slice t5_0 t5_1 t5_2,
    V.int IntKind.u64 (IntKind.wrap IntKind.u64 (V.getInt (nthV (c23 t10 t10' t10'' t10''' t10'''' t10''''' t10'''''' t10''''''') (Int.toNat t11 * 1)))),
    V.int IntKind.i64 4]
    H fun v H' ↦
    req (V.isK Kind.slice v)
    (Am.Rec.loop (Am.Run env) (Am.loopAt env 17 3) 17 3
     (St.mk
     (Am.look
      [(1, T.v (V.int IntKind.i64 t1)), (2, T.lp 2 0), (5, T.v (V.slice (V.slPtr v) (V.slLen v) (V.slCap v))),
      (10, T.v (V.agg (c23 t10 t10' t10'' t10''' t10'''' t10''''' t10'''''' t10'''''''))),
      (11, T.v (V.int IntKind.i64 (IntKind.wrap IntKind.i64 (t11 + 1))))])
     (Am.look [(2, Loc.cells 25 (c24 l2 l2' l2'' l2''' l2'''' l2''''' l2'''''' l2''''''' l2'''''''' l2''''''''' l2'''''''''' l2'''''''''''))]) H')
     Kr Ke)))
   (Ke 0
   (St.mk (Am.look [(1, T.v (V.int IntKind.i64 t1)), (2, T.lp 2 0), (5, T.v (V.slice t5_0 t5_1 t5_2))])
    (Am.look [(2, Loc.cells 25 (c24 l2 l2' l2'' l2''' l2'''' l2''''' l2'''''' l2''''''' l2'''''''' l2''''''''' l2'''''''''' l2'''''''''''))]) H)) :=
  fun t1 t5_0 t5_1 t5_2 t10 t10' t10'' t10''' t10'''' t10''''' t10'''''' t10''''''' t11 l2 l2' l2'' l2''' l2'''' l2''''' l2'''''' l2''''''' l2'''''''' l2''''''''' l2'''''''''' l2''''''''''' H Kr Ke => (Run_loop (E := env)).trans (by kernel_rfl)

theorem eq18 : ∀ (H : Am.Heap) (K : Am.V → Am.Heap → Prop), Am.Rec.call (Am.Run env) 18 [] H K = K (V.agg (c24 0 0 0 0 0 0 0 0 0 (-1) 0 false)) H :=
  fun H K => (Run_call (E := env)).trans (by kernel_rfl)

theorem eq19 : ∀ (x0_0 x0_1 x0_2 x0_3 x0_4 x0_5 x0_6 x0_7 x0_8 x0_9 x0_10 : Int) (x0_11 : Bool) (H : Am.Heap) (K : Am.V → Am.Heap → Prop),
  Am.Rec.call (Am.Run env) 19 [V.agg (c24 x0_0 x0_1 x0_2 x0_3 x0_4 x0_5 x0_6 x0_7 x0_8 x0_9 x0_10 x0_11)] H K =
  Am.Rec.loop (Am.Run env) (Am.loopAt env 19 3) 19 3
   (St.mk (Am.look [(1, T.lp 1 0), (3, T.v (V.bool false)), (4, T.v (V.int IntKind.i64 0))])
   (Am.look [(1, Loc.cells 25 (c24 x0_0 x0_1 x0_2 x0_3 x0_4 x0_5 x0_6 x0_7 x0_8 x0_9 x0_10 x0_11))]) H)
   (fun S' ↦ False) fun j S' ↦
   br (Nat.beq j 0)
   (req (Am.isKT (KT.lp 1) (S'.1 1) && (Am.isKT (KT.k Kind.bool) (S'.1 3) || false) && (Am.isLK 25 k24 (S'.2 1) || false))
    (br (decide (V.getInt (nthV (Am.locCells (S'.2 1)) 8) = 0)) (K (V.bool (decide (V.getInt (nthV (Am.locCells (S'.2 1)) 9) = -1))) S'.3)
    (Am.joinP
     (fun Q ↦
     br (decide (V.getInt (nthV (Am.locCells (S'.2 1)) 8) = 7))
      (Q (St.mk (Am.look [(24, T.v (V.bool (decide (V.getInt (nthV (Am.locCells (S'.2 1)) 8) = 7))))]) (Am.look []) S'.3))
      (Q (St.mk (Am.look [(24, T.v (V.bool (decide (V.getInt (nthV (Am.locCells (S'.2 1)) 8) = 8))))]) (Am.look []) S'.3)))
     fun S'_1 ↦
     req (Am.isKT (KT.k Kind.bool) (S'_1.1 24) || false || false)
     (br (V.getBool (T.val (S'_1.1 24))) (K (V.bool (decide (V.getInt (nthV (Am.locCells (S'.2 1)) 9) = -1) && V.getBool (T.val (S'.1 3)))) S'_1.3)
      (Am.Rec.call (Am.Run env) 33 [V.int IntKind.u8 (V.getInt (nthV (Am.locCells (S'.2 1)) 8))] S'_1.3 fun v H' ↦
      req (V.isK Kind.bool v)
       (req
       (Am.mergeR (V.getBool v)
        (Am.mergeR (decide (V.getInt (nthV (Am.locCells (S'.2 1)) 9) ≥ 0))
        (Am.mergeR (decide (V.getInt (nthV (Am.locCells (S'.2 1)) 9) < 8))
         (decide (0 ≤ V.getInt (nthV (Am.locCells (S'.2 1)) 9)) && decide (V.getInt (nthV (Am.locCells (S'.2 1)) 9) < 8) && true &&
         (Nat.ble (Nat.succ (0 + Int.toNat (V.getInt (nthV (Am.locCells (S'.2 1)) 9)) * 1)) 12 &&
           V.isK (Kind.int IntKind.u32)
           (nthV (o24 (Am.locCells (S'.2 1))) (0 + Int.toNat (V.getInt (nthV (Am.locCells (S'.2 1)) 9)) * 1)) &&
          true &&
          true))
         true)
        (Am.mergeR false
         (decide (0 ≤ V.getInt (nthV (Am.locCells (S'.2 1)) 9)) && decide (V.getInt (nthV (Am.locCells (S'.2 1)) 9) < 8) && true &&
         (Nat.ble (Nat.succ (0 + Int.toNat (V.getInt (nthV (Am.locCells (S'.2 1)) 9)) * 1)) 12 &&
           V.isK (Kind.int IntKind.u32)
           (nthV (o24 (Am.locCells (S'.2 1))) (0 + Int.toNat (V.getInt (nthV (Am.locCells (S'.2 1)) 9)) * 1)) &&
          true &&
          true))
         true))
        (Am.mergeR false
        (Am.mergeR (decide (V.getInt (nthV (Am.locCells (S'.2 1)) 9) < 8))
         (decide (0 ≤ V.getInt (nthV (Am.locCells (S'.2 1)) 9)) && decide (V.getInt (nthV (Am.locCells (S'.2 1)) 9) < 8) && true &&
         (Nat.ble (Nat.succ (0 + Int.toNat (V.getInt (nthV (Am.locCells (S'.2 1)) 9)) * 1)) 12 &&
           V.isK (Kind.int IntKind.u32)
           (nthV (o24 (Am.locCells (S'.2 1))) (0 + Int.toNat (V.getInt (nthV (Am.locCells (S'.2 1)) 9)) * 1)) &&
          true &&
          true))
         true)
        (Am.mergeR false
         (decide (0 ≤ V.getInt (nthV (Am.locCells (S'.2 1)) 9)) && decide (V.getInt (nthV (Am.locCells (S'.2 1)) 9) < 8) && true &&
         (Nat.ble (Nat.succ (0 + Int.toNat (V.getInt (nthV (Am.locCells (S'.2 1)) 9)) * 1)) 12 &&
           V.isK (Kind.int IntKind.u32)
           (nthV (o24 (Am.locCells (S'.2 1))) (0 + Int.toNat (V.getInt (nthV (Am.locCells (S'.2 1)) 9)) * 1)) &&
          true &&
          true))
         true)))
       (K
        (V.bool
        (V.getBool v &&
         (decide (V.getInt (nthV (Am.locCells (S'.2 1)) 9) ≥ 0) &&
         (decide (V.getInt (nthV (Am.locCells (S'.2 1)) 9) < 8) &&
          !decide
           (V.getInt (nthV (o24 (Am.locCells (S'.2 1))) (0 + Int.toNat (V.getInt (nthV (Am.locCells (S'.2 1)) 9)) * 1)) = 0)))))
        H')))))))
   False :=
  fun x0_0 x0_1 x0_2 x0_3 x0_4 x0_5 x0_6 x0_7 x0_8 x0_9 x0_10 x0_11 H K => (Run_call (E := env)).trans (by kernel_rfl)

theorem lp19_3 : ∀ (t3 : Bool) (t4 l1 l1' l1'' l1''' l1'''' l1''''' l1'''''' l1''''''' l1'''''''' l1''''''''' l1'''''''''' : Int) (l1''''''''''' : Bool) (H : Am.Heap) (Kr : Am.St → Prop) (Ke : Nat → Am.St → Prop),
  Am.Rec.loop (Am.Run env) (Am.loopAt env 19 3) 19 3
   (St.mk (Am.look [(1, T.lp 1 0), (3, T.v (V.bool t3)), (4, T.v (V.int IntKind.i64 t4))])
   (Am.look [(1, Loc.cells 25 (c24 l1 l1' l1'' l1''' l1'''' l1''''' l1'''''' l1''''''' l1'''''''' l1''''''''' l1'''''''''' l1'''''''''''))]) H)
   Kr Ke =
  br (decide (t4 < 8))
   (req
   (Am.mergeR (!t3)
    (decide (0 ≤ t4) && decide (t4 < 8) && true &&
    (Nat.ble (Nat.succ (0 + Int.toNat t4 * 1)) 12 &&
      V.isK (Kind.int IntKind.u32)
      (nthV (c24 l1 l1' l1'' l1''' l1'''' l1''''' l1'''''' l1''''''' l1'''''''' l1''''''''' l1'''''''''' l1''''''''''') (0 + Int.toNat t4 * 1)) &&
     true &&
     true))
    true)
   (Am.Rec.loop (Am.Run env) (Am.loopAt env 19 3) 19 3
    (St.mk
    (Am.look
     [(1, T.lp 1 0),
     (3,
      T.v
      (V.bool
       (bif !t3 then
       !decide
        (V.getInt (nthV (c24 l1 l1' l1'' l1''' l1'''' l1''''' l1'''''' l1''''''' l1'''''''' l1''''''''' l1'''''''''' l1''''''''''') (0 + Int.toNat t4 * 1)) = 0)
       else true))),
     (4, T.v (V.int IntKind.i64 (IntKind.wrap IntKind.i64 (t4 + 1))))])
    (Am.look [(1, Loc.cells 25 (c24 l1 l1' l1'' l1''' l1'''' l1''''' l1'''''' l1''''''' l1'''''''' l1''''''''' l1'''''''''' l1'''''''''''))]) H)
    Kr Ke))
   (Ke 0
   (St.mk (Am.look [(1, T.lp 1 0), (3, T.v (V.bool t3))])
    (Am.look [(1, Loc.cells 25 (c24 l1 l1' l1'' l1''' l1'''' l1''''' l1'''''' l1''''''' l1'''''''' l1''''''''' l1'''''''''' l1'''''''''''))]) H)) :=
  fun t3 t4 l1 l1' l1'' l1''' l1'''' l1''''' l1'''''' l1''''''' l1'''''''' l1''''''''' l1'''''''''' l1''''''''''' H Kr Ke => (Run_loop (E := env)).trans (by kernel_rfl)

theorem eq20 : ∀ (x0_0 x0_1 x0_2 x0_3 x0_4 x0_5 x0_6 x0_7 x0_8 x0_9 x0_10 : Int) (x0_11 : Bool) (H : Am.Heap) (K : Am.V → Am.Heap → Prop),
  Am.Rec.call (Am.Run env) 20 [V.agg (c24 x0_0 x0_1 x0_2 x0_3 x0_4 x0_5 x0_6 x0_7 x0_8 x0_9 x0_10 x0_11)] H K =
  Am.joinP
   (fun Q ↦
   br (!decide (x0_9 < -1))
    (br (!decide (x0_9 ≥ 8))
    (br (!decide (x0_8 = 0))
     (Am.Rec.call (Am.Run env) 34 [V.int IntKind.u8 x0_8] H fun v H' ↦
     req (V.isK Kind.bool v) (Q (St.mk (Am.look [(25, T.v (V.bool !V.getBool v))]) (Am.look []) H')))
     (Q (St.mk (Am.look [(25, T.v (V.bool false))]) (Am.look []) H)))
    (Q (St.mk (Am.look [(25, T.v (V.bool true))]) (Am.look []) H)))
    (Q (St.mk (Am.look [(25, T.v (V.bool true))]) (Am.look []) H)))
   fun S' ↦
   req (Am.isKT (KT.k Kind.bool) (S'.1 25) || false || false)
   (br (V.getBool (T.val (S'.1 25))) (K (V.bool false) S'.3)
    (Am.Rec.loop (Am.Run env) (Am.loopAt env 20 6) 20 6
    (St.mk
     (Am.look
     [(1, T.lp 1 0), (3, T.v (V.bool false)), (27, T.v (V.agg (c23 x0_0 x0_1 x0_2 x0_3 x0_4 x0_5 x0_6 x0_7))),
      (28, T.v (V.int IntKind.i64 0))])
     (Am.look [(1, Loc.cells 25 (c24 x0_0 x0_1 x0_2 x0_3 x0_4 x0_5 x0_6 x0_7 x0_8 x0_9 x0_10 x0_11))]) S'.3)
    (fun S' ↦ False) fun j S' ↦
    br (Nat.beq j 0)
     (req (Am.isKT (KT.lp 1) (S'.1 1) && (Am.isKT (KT.k Kind.bool) (S'.1 3) || false) && (Am.isLK 25 k24 (S'.2 1) || false))
     (req
      (Am.mergeR
      (decide
       ((!decide (V.getInt (nthV (Am.locCells (S'.2 1)) 8) = 0) &&
        (!decide (V.getInt (nthV (Am.locCells (S'.2 1)) 8) = 7) && !decide (V.getInt (nthV (Am.locCells (S'.2 1)) 8) = 8))) =
       decide (V.getInt (nthV (Am.locCells (S'.2 1)) 9) ≥ 0)))
      (Am.mergeR
       (!!(!decide (V.getInt (nthV (Am.locCells (S'.2 1)) 8) = 0) &&
        (!decide (V.getInt (nthV (Am.locCells (S'.2 1)) 8) = 7) && !decide (V.getInt (nthV (Am.locCells (S'.2 1)) 8) = 8))))
       (decide (0 ≤ V.getInt (nthV (Am.locCells (S'.2 1)) 9)) && decide (V.getInt (nthV (Am.locCells (S'.2 1)) 9) < 8) && true &&
       (Nat.ble (Nat.succ (0 + Int.toNat (V.getInt (nthV (Am.locCells (S'.2 1)) 9)) * 1)) 12 &&
         V.isK (Kind.int IntKind.u32)
         (nthV (o24 (Am.locCells (S'.2 1))) (0 + Int.toNat (V.getInt (nthV (Am.locCells (S'.2 1)) 9)) * 1)) &&
        true &&
        true))
       true)
      true)
      (K
      (V.bool
       (decide
        ((!decide (V.getInt (nthV (Am.locCells (S'.2 1)) 8) = 0) &&
         (!decide (V.getInt (nthV (Am.locCells (S'.2 1)) 8) = 7) && !decide (V.getInt (nthV (Am.locCells (S'.2 1)) 8) = 8))) =
        decide (V.getInt (nthV (Am.locCells (S'.2 1)) 9) ≥ 0)) &&
       bif
        !!(!decide (V.getInt (nthV (Am.locCells (S'.2 1)) 8) = 0) &&
          (!decide (V.getInt (nthV (Am.locCells (S'.2 1)) 8) = 7) && !decide (V.getInt (nthV (Am.locCells (S'.2 1)) 8) = 8))) then
        !decide (V.getInt (nthV (o24 (Am.locCells (S'.2 1))) (0 + Int.toNat (V.getInt (nthV (Am.locCells (S'.2 1)) 9)) * 1)) = 0) &&
        bif !decide (V.getInt (nthV (Am.locCells (S'.2 1)) 8) = 0) then V.getBool (T.val (S'.1 3)) else true
       else bif !decide (V.getInt (nthV (Am.locCells (S'.2 1)) 8) = 0) then V.getBool (T.val (S'.1 3)) else true))
      S'.3)))
     False)) :=
  fun x0_0 x0_1 x0_2 x0_3 x0_4 x0_5 x0_6 x0_7 x0_8 x0_9 x0_10 x0_11 H K => (Run_call (E := env)).trans (by kernel_rfl)

theorem lp20_6 : ∀ (t3 : Bool) (t27 t27' t27'' t27''' t27'''' t27''''' t27'''''' t27''''''' t28 l1 l1' l1'' l1''' l1'''' l1''''' l1'''''' l1''''''' l1'''''''' l1''''''''' l1'''''''''' : Int) (l1''''''''''' : Bool) (H : Am.Heap)
  (Kr : Am.St → Prop) (Ke : Nat → Am.St → Prop),
  Am.Rec.loop (Am.Run env) (Am.loopAt env 20 6) 20 6
   (St.mk
   (Am.look
    [(1, T.lp 1 0), (3, T.v (V.bool t3)), (27, T.v (V.agg (c23 t27 t27' t27'' t27''' t27'''' t27''''' t27'''''' t27'''''''))),
    (28, T.v (V.int IntKind.i64 t28))])
   (Am.look [(1, Loc.cells 25 (c24 l1 l1' l1'' l1''' l1'''' l1''''' l1'''''' l1''''''' l1'''''''' l1''''''''' l1'''''''''' l1'''''''''''))]) H)
   Kr Ke =
  br (decide (t28 < 8))
   (req
   (decide (0 ≤ t28) && decide (t28 < 8) &&
    (Nat.ble (Nat.succ (Int.toNat t28 * 1)) 8 &&
    V.isK (Kind.int IntKind.u32) (nthV (c23 t27 t27' t27'' t27''' t27'''' t27''''' t27'''''' t27''''''') (Int.toNat t28 * 1))))
   (Am.Rec.loop (Am.Run env) (Am.loopAt env 20 6) 20 6
    (St.mk
    (Am.look
     [(1, T.lp 1 0),
     (3,
      T.v
      (V.bool
       (bif !t3 then !decide (V.getInt (nthV (c23 t27 t27' t27'' t27''' t27'''' t27''''' t27'''''' t27''''''') (Int.toNat t28 * 1)) = 0) else true))),
     (27, T.v (V.agg (c23 t27 t27' t27'' t27''' t27'''' t27''''' t27'''''' t27'''''''))),
     (28, T.v (V.int IntKind.i64 (IntKind.wrap IntKind.i64 (t28 + 1))))])
    (Am.look [(1, Loc.cells 25 (c24 l1 l1' l1'' l1''' l1'''' l1''''' l1'''''' l1''''''' l1'''''''' l1''''''''' l1'''''''''' l1'''''''''''))]) H)
    Kr Ke))
   (Ke 0
   (St.mk (Am.look [(1, T.lp 1 0), (3, T.v (V.bool t3))])
    (Am.look [(1, Loc.cells 25 (c24 l1 l1' l1'' l1''' l1'''' l1''''' l1'''''' l1''''''' l1'''''''' l1''''''''' l1'''''''''' l1'''''''''''))]) H)) :=
  fun t3 t27 t27' t27'' t27''' t27'''' t27''''' t27'''''' t27''''''' t28 l1 l1' l1'' l1''' l1'''' l1''''' l1'''''' l1''''''' l1'''''''' l1''''''''' l1'''''''''' l1''''''''''' H Kr Ke => (Run_loop (E := env)).trans (by kernel_rfl)

theorem eq25 : ∀ (x0p : Option (Nat × Nat)) (x0n x0c : Nat) (H : Am.Heap) (K : Am.V → Am.Heap → Prop),
  Am.Rec.call (Am.Run env) 25 [V.slice x0p x0n x0c] H K =
  Am.Rec.call (Am.Run env) 38 [V.slice x0p x0n x0c] H fun v H' ↦
   req (V.isK Kind.ptr v)
   (Am.Rec.loop (Am.Run env) (Am.loopAt env 25 4) 25 4
    (St.mk (Am.look [(2, T.lp 2 0), (5, T.v (V.ptr (V.getPtr v))), (6, T.lp 6 0), (11, T.v (V.int IntKind.i64 0))])
    (Am.look [(2, Loc.cells 25 (c24 0 0 0 0 0 0 0 0 0 0 0 false)), (6, Loc.cells 25 (c24 0 0 0 0 0 0 0 0 0 0 0 false))]) H')
    (fun S' ↦ False) fun j S' ↦
    br (Nat.beq j 0)
    (req
     (Am.isKT (KT.lp 2) (S'.1 2) && (Am.isKT (KT.k Kind.ptr) (S'.1 5) && (Am.isKT (KT.lp 6) (S'.1 6) || false)) &&
     (Am.isLK 25 k24 (S'.2 2) && (Am.isLK 25 k24 (S'.2 6) || false)))
     (Am.Rec.call (Am.Run env) 39 [V.ptr (V.getPtr (T.val (S'.1 5))), V.int IntKind.i64 1, V.int IntKind.u64 255] S'.3 fun v H' ↦
     req (V.isK (Kind.int IntKind.u64) v)
      (Am.Rec.call (Am.Run env) 39 [V.ptr (V.getPtr (T.val (S'.1 5))), V.int IntKind.i64 1, V.int IntKind.u64 8] H' fun v_1 H' ↦
      req (V.isK (Kind.int IntKind.u64) v_1)
       (Am.Rec.call (Am.Run env) 39 [V.ptr (V.getPtr (T.val (S'.1 5))), V.int IntKind.i64 4, V.int IntKind.u64 4294967295] H'
       fun v_2 H' ↦
       req (V.isK (Kind.int IntKind.u64) v_2)
        (Am.Rec.call (Am.Run env) 39 [V.ptr (V.getPtr (T.val (S'.1 5))), V.int IntKind.i64 1, V.int IntKind.u64 1] H' fun v_3 H' ↦
        req (V.isK (Kind.int IntKind.u64) v_3)
         (Am.Rec.call (Am.Run env) 39 [V.ptr (V.getPtr (T.val (S'.1 5))), V.int IntKind.i64 4, V.int IntKind.u64 2147483647] H'
         fun v_4 H' ↦
         req (V.isK (Kind.int IntKind.u64) v_4)
          (Am.joinP
          (fun Q ↦
           Am.Rec.call (Am.Run env) 40 [V.ptr (V.getPtr (T.val (S'.1 5)))] H' fun v_5 H' ↦
           req (V.isK Kind.bool v_5)
            (br (!!V.getBool v_5)
            (Am.Rec.call (Am.Run env) 20
             [V.agg
              (c24 (V.getInt (nthV (Am.locCells (S'.2 6)) 0)) (V.getInt (nthV (Am.locCells (S'.2 6)) 1))
              (V.getInt (nthV (Am.locCells (S'.2 6)) 2)) (V.getInt (nthV (Am.locCells (S'.2 6)) 3))
              (V.getInt (nthV (Am.locCells (S'.2 6)) 4)) (V.getInt (nthV (Am.locCells (S'.2 6)) 5))
              (V.getInt (nthV (Am.locCells (S'.2 6)) 6)) (V.getInt (nthV (Am.locCells (S'.2 6)) 7)) (IntKind.wrap IntKind.u8 (V.getInt v))
              (IntKind.wrap IntKind.i64 (IntKind.wrap IntKind.i64 (V.getInt v_1) - 1)) (IntKind.wrap IntKind.u32 (V.getInt v_2))
              (decide (V.getInt v_3 = 1)))]
             H' fun v H' ↦ req (V.isK Kind.bool v) (Q (St.mk (Am.look [(48, T.v (V.bool !V.getBool v))]) (Am.look []) H')))
            (Q (St.mk (Am.look [(48, T.v (V.bool true))]) (Am.look []) H'))))
          fun S'_1 ↦
          req (Am.isKT (KT.k Kind.bool) (S'_1.1 48) || false || false)
           (br (V.getBool (T.val (S'_1.1 48)))
           (K (V.tuple [V.agg (c24 0 0 0 0 0 0 0 0 0 0 0 false), V.int IntKind.i64 0, V.int IntKind.i64 3]) S'_1.3)
           (K
            (V.tuple
            [V.agg
             (c24 (V.getInt (nthV (Am.locCells (S'.2 6)) 0)) (V.getInt (nthV (Am.locCells (S'.2 6)) 1))
              (V.getInt (nthV (Am.locCells (S'.2 6)) 2)) (V.getInt (nthV (Am.locCells (S'.2 6)) 3))
              (V.getInt (nthV (Am.locCells (S'.2 6)) 4)) (V.getInt (nthV (Am.locCells (S'.2 6)) 5))
              (V.getInt (nthV (Am.locCells (S'.2 6)) 6)) (V.getInt (nthV (Am.locCells (S'.2 6)) 7)) (IntKind.wrap IntKind.u8 (V.getInt v))
              (IntKind.wrap IntKind.i64 (IntKind.wrap IntKind.i64 (V.getInt v_1) - 1)) (IntKind.wrap IntKind.u32 (V.getInt v_2))
              (decide (V.getInt v_3 = 1))),
             V.int IntKind.i64 (IntKind.wrap IntKind.i64 (V.getInt v_4)), V.int IntKind.i64 0])
            S'_1.3)))))))))
    False) :=
  fun x0p x0n x0c H K => (Run_call (E := env)).trans (by kernel_rfl)

theorem lp25_4 : ∀ (t5 : Option (Nat × Nat)) (t11 l2 l2' l2'' l2''' l2'''' l2''''' l2'''''' l2''''''' l2'''''''' l2''''''''' l2'''''''''' : Int) (l2''''''''''' : Bool)
  (l6 l6' l6'' l6''' l6'''' l6''''' l6'''''' l6''''''' l6'''''''' l6''''''''' l6'''''''''' : Int) (l6''''''''''' : Bool) (H : Am.Heap) (Kr : Am.St → Prop) (Ke : Nat → Am.St → Prop),
  Am.Rec.loop (Am.Run env) (Am.loopAt env 25 4) 25 4
   (St.mk (Am.look [(2, T.lp 2 0), (5, T.v (V.ptr t5)), (6, T.lp 6 0), (11, T.v (V.int IntKind.i64 t11))])
   (Am.look
    [(2, Loc.cells 25 (c24 l2 l2' l2'' l2''' l2'''' l2''''' l2'''''' l2''''''' l2'''''''' l2''''''''' l2'''''''''' l2''''''''''')),
    (6, Loc.cells 25 (c24 l6 l6' l6'' l6''' l6'''' l6''''' l6'''''' l6''''''' l6'''''''' l6''''''''' l6'''''''''' l6'''''''''''))])
   H)
   Kr Ke =
  br (decide (t11 < 8))
   (Am.Rec.call (Am.Run env) 39 [V.ptr t5, V.int IntKind.i64 4, V.int IntKind.u64 4294967295] H fun v H' ↦
   req (V.isK (Kind.int IntKind.u64) v)
    (req (decide (0 ≤ t11) && decide (t11 < 8))
    (req
     (Nat.ble (0 + Int.toNat t11 * 1 + 1) 12 &&
     (V.isK (Kind.int IntKind.u8)
      (Am.condV (Nat.beq 8 (0 + Int.toNat t11 * 1)) (V.int IntKind.u32 (IntKind.wrap IntKind.u32 (V.getInt v))) (V.int IntKind.u8 l6'''''''')) &&
      (V.isK (Kind.int IntKind.i64)
       (Am.condV (Nat.beq 9 (0 + Int.toNat t11 * 1)) (V.int IntKind.u32 (IntKind.wrap IntKind.u32 (V.getInt v))) (V.int IntKind.i64 l6''''''''')) &&
      (V.isK Kind.bool (Am.condV (Nat.beq 11 (0 + Int.toNat t11 * 1)) (V.int IntKind.u32 (IntKind.wrap IntKind.u32 (V.getInt v))) (V.bool l6''''''''''')) &&
       true))))
     (Am.Rec.loop (Am.Run env) (Am.loopAt env 25 4) 25 4
     (St.mk (Am.look [(2, T.lp 2 0), (5, T.v (V.ptr t5)), (6, T.lp 6 0), (11, T.v (V.int IntKind.i64 (IntKind.wrap IntKind.i64 (t11 + 1))))])
      (Am.look
      [(2, Loc.cells 25 (c24 l2 l2' l2'' l2''' l2'''' l2''''' l2'''''' l2''''''' l2'''''''' l2''''''''' l2'''''''''' l2''''''''''')),
       (6,
       Loc.cells 25
        (c24 (bif Nat.beq 0 (0 + Int.toNat t11 * 1) then IntKind.wrap IntKind.u32 (V.getInt v) else l6)
        (bif Nat.beq 1 (0 + Int.toNat t11 * 1) then IntKind.wrap IntKind.u32 (V.getInt v) else l6')
        (bif Nat.beq 2 (0 + Int.toNat t11 * 1) then IntKind.wrap IntKind.u32 (V.getInt v) else l6'')
        (bif Nat.beq 3 (0 + Int.toNat t11 * 1) then IntKind.wrap IntKind.u32 (V.getInt v) else l6''')
        (bif Nat.beq 4 (0 + Int.toNat t11 * 1) then IntKind.wrap IntKind.u32 (V.getInt v) else l6'''')
        (bif Nat.beq 5 (0 + Int.toNat t11 * 1) then IntKind.wrap IntKind.u32 (V.getInt v) else l6''''')
        (bif Nat.beq 6 (0 + Int.toNat t11 * 1) then IntKind.wrap IntKind.u32 (V.getInt v) else l6'''''')
        (bif Nat.beq 7 (0 + Int.toNat t11 * 1) then IntKind.wrap IntKind.u32 (V.getInt v) else l6''''''')
        (V.getInt (Am.condV (Nat.beq 8 (0 + Int.toNat t11 * 1)) (V.int IntKind.u32 (IntKind.wrap IntKind.u32 (V.getInt v))) (V.int IntKind.u8 l6'''''''')))
        (V.getInt (Am.condV (Nat.beq 9 (0 + Int.toNat t11 * 1)) (V.int IntKind.u32 (IntKind.wrap IntKind.u32 (V.getInt v))) (V.int IntKind.i64 l6''''''''')))
        (bif Nat.beq 10 (0 + Int.toNat t11 * 1) then IntKind.wrap IntKind.u32 (V.getInt v) else l6'''''''''')
        (V.getBool (Am.condV (Nat.beq 11 (0 + Int.toNat t11 * 1)) (V.int IntKind.u32 (IntKind.wrap IntKind.u32 (V.getInt v))) (V.bool l6''''''''''')))))])
      H')
     Kr Ke))))
   (Ke 0
   (St.mk (Am.look [(2, T.lp 2 0), (5, T.v (V.ptr t5)), (6, T.lp 6 0)])
    (Am.look
    [(2, Loc.cells 25 (c24 l2 l2' l2'' l2''' l2'''' l2''''' l2'''''' l2''''''' l2'''''''' l2''''''''' l2'''''''''' l2''''''''''')),
     (6, Loc.cells 25 (c24 l6 l6' l6'' l6''' l6'''' l6''''' l6'''''' l6''''''' l6'''''''' l6''''''''' l6'''''''''' l6'''''''''''))])
    H)) :=
  fun t5 t11 l2 l2' l2'' l2''' l2'''' l2''''' l2'''''' l2''''''' l2'''''''' l2''''''''' l2'''''''''' l2''''''''''' l6 l6' l6'' l6''' l6'''' l6''''' l6'''''' l6''''''' l6'''''''' l6''''''''' l6'''''''''' l6''''''''''' H Kr Ke => (Run_loop (E := env)).trans (by kernel_rfl)

theorem eq26 : ∀ (x0_0 x0_1 x0_2 x0_3 x0_4 x0_5 x0_6 x0_7 x0_8 x0_9 x0_10 : Int) (x0_11 : Bool) (x1 : Int) (H : Am.Heap) (K : Am.V → Am.Heap → Prop),
  Am.Rec.call (Am.Run env) 26 [V.agg (c24 x0_0 x0_1 x0_2 x0_3 x0_4 x0_5 x0_6 x0_7 x0_8 x0_9 x0_10 x0_11), V.int IntKind.i64 x1] H K =
  Am.Rec.loop (Am.Run env) (Am.loopAt env 26 3) 26 3
   (St.mk (Am.look [(1, T.v (V.int IntKind.i64 x1)), (2, T.lp 2 0), (5, T.v (V.slice Option.none 0 0)), (6, T.v (V.int IntKind.i64 0))])
   (Am.look [(2, Loc.cells 25 (c24 x0_0 x0_1 x0_2 x0_3 x0_4 x0_5 x0_6 x0_7 x0_8 x0_9 x0_10 x0_11))]) H)
   (fun S' ↦ False) fun j S' ↦
   br (Nat.beq j 0)
   (req
    (Am.isKT (KT.k (Kind.int IntKind.i64)) (S'.1 1) && (Am.isKT (KT.lp 2) (S'.1 2) && (Am.isKT (KT.k Kind.slice) (S'.1 5) || false)) &&
    (Am.isLK 25 k24 (S'.2 2) || false))
    (Am.appendOp env [31, 31]
    [V.slice (V.slPtr (T.val (S'.1 5))) (V.slLen (T.val (S'.1 5))) (V.slCap (T.val (S'.1 5))), V.slice (Option.some (S'.3.2, 0)) 2 2]
    (Am.Heap.alloc S'.3
     (Am.Obj.cells 5
     [V.int IntKind.u8 (V.getInt (nthV (Am.locCells (S'.2 2)) 8)),
      V.int IntKind.u8 (IntKind.wrap IntKind.u8 (IntKind.wrap IntKind.i64 (V.getInt (nthV (Am.locCells (S'.2 2)) 9) + 1)))]
     false))
    fun q n c H' ↦
    Am.Rec.call (Am.Run env) 41
     [V.int IntKind.u64 (IntKind.wrap IntKind.u64 (V.getInt (nthV (Am.locCells (S'.2 2)) 10))), V.int IntKind.i64 4] H' fun v H' ↦
     req (V.isK Kind.slice v)
     (Am.appendOp env [31, 31] [V.slice q n c, V.slice (V.slPtr v) (V.slLen v) (V.slCap v)] H' fun q n c H' ↦
      Am.joinP
      (fun Q ↦
       br (V.getBool (nthV (Am.locCells (S'.2 2)) 11))
       (Am.appendOp env [31, 31] [V.slice q n c, V.slice (Option.some (H'.2, 0)) 1 1]
        (Am.Heap.alloc H' (Am.Obj.cells 5 [V.int IntKind.u8 1] false)) fun q n c H' ↦ Q (St.mk (Am.look [(5, T.v (V.slice q n c))]) (Am.look []) H'))
       (Am.appendOp env [31, 31] [V.slice q n c, V.slice (Option.some (H'.2, 0)) 1 1]
        (Am.Heap.alloc H' (Am.Obj.cells 5 [V.int IntKind.u8 0] false)) fun q n c H' ↦ Q (St.mk (Am.look [(5, T.v (V.slice q n c))]) (Am.look []) H')))
      fun S'_1 ↦
      req (Am.isKT (KT.k Kind.slice) (S'_1.1 5) || false || false)
       (Am.Rec.call (Am.Run env) 41 [V.int IntKind.u64 (IntKind.wrap IntKind.u64 (V.getInt (T.val (S'.1 1)))), V.int IntKind.i64 4]
       S'_1.3 fun v H' ↦
       req (V.isK Kind.slice v)
        (Am.appendOp env [31, 31]
        [V.slice (V.slPtr (T.val (S'_1.1 5))) (V.slLen (T.val (S'_1.1 5))) (V.slCap (T.val (S'_1.1 5))),
         V.slice (V.slPtr v) (V.slLen v) (V.slCap v)]
        H' fun q n c H' ↦ K (V.slice q n c) H')))))
   False :=
  fun x0_0 x0_1 x0_2 x0_3 x0_4 x0_5 x0_6 x0_7 x0_8 x0_9 x0_10 x0_11 x1 H K => (Run_call (E := env)).trans (by kernel_rfl)

theorem lp26_3 : ∀ (t1 : Int) (t5_0 : Option (Nat × Nat)) (t5_1 t5_2 : Nat) (t6 l2 l2' l2'' l2''' l2'''' l2''''' l2'''''' l2''''''' l2'''''''' l2''''''''' l2'''''''''' : Int) (l2''''''''''' : Bool) (H : Am.Heap) (Kr : Am.St → Prop)
  (Ke : Nat → Am.St → Prop),
  Am.Rec.loop (Am.Run env) (Am.loopAt env 26 3) 26 3
   (St.mk (Am.look [(1, T.v (V.int IntKind.i64 t1)), (2, T.lp 2 0), (5, T.v (V.slice t5_0 t5_1 t5_2)), (6, T.v (V.int IntKind.i64 t6))])
   (Am.look [(2, Loc.cells 25 (c24 l2 l2' l2'' l2''' l2'''' l2''''' l2'''''' l2''''''' l2'''''''' l2''''''''' l2'''''''''' l2'''''''''''))]) H)
   Kr Ke =
  br (decide (t6 < 8))
   (req (decide (0 ≤ t6) && decide (t6 < 8))
   (req
    (Nat.ble (Nat.succ (0 + Int.toNat t6 * 1)) 12 &&
    V.isK (Kind.int IntKind.u32)
     (nthV (c24 l2 l2' l2'' l2''' l2'''' l2''''' l2'''''' l2''''''' l2'''''''' l2''''''''' l2'''''''''' l2''''''''''') (0 + Int.toNat t6 * 1)))
    (Am.Rec.call (Am.Run env) 41
    [V.int IntKind.u64
     (IntKind.wrap IntKind.u64
      (V.getInt (nthV (c24 l2 l2' l2'' l2''' l2'''' l2''''' l2'''''' l2''''''' l2'''''''' l2''''''''' l2'''''''''' l2''''''''''') (0 + Int.toNat t6 * 1)))),
     V.int IntKind.i64 4]
    H fun v H' ↦
    req (V.isK Kind.slice v)
     (Am.appendOp env [31, 31] [V.slice t5_0 t5_1 t5_2, V.slice (V.slPtr v) (V.slLen v) (V.slCap v)] H' fun q n c H' ↦
     Am.Rec.loop (Am.Run env) (Am.loopAt env 26 3) 26 3
      (St.mk
      (Am.look
       [(1, T.v (V.int IntKind.i64 t1)), (2, T.lp 2 0), (5, T.v (V.slice q n c)), (6, T.v (V.int IntKind.i64 (IntKind.wrap IntKind.i64 (t6 + 1))))])
      (Am.look [(2, Loc.cells 25 (c24 l2 l2' l2'' l2''' l2'''' l2''''' l2'''''' l2''''''' l2'''''''' l2''''''''' l2'''''''''' l2'''''''''''))]) H')
      Kr Ke))))
   (Ke 0
   (St.mk (Am.look [(1, T.v (V.int IntKind.i64 t1)), (2, T.lp 2 0), (5, T.v (V.slice t5_0 t5_1 t5_2))])
    (Am.look [(2, Loc.cells 25 (c24 l2 l2' l2'' l2''' l2'''' l2''''' l2'''''' l2''''''' l2'''''''' l2''''''''' l2'''''''''' l2'''''''''''))]) H)) :=
  fun t1 t5_0 t5_1 t5_2 t6 l2 l2' l2'' l2''' l2'''' l2''''' l2'''''' l2''''''' l2'''''''' l2''''''''' l2'''''''''' l2''''''''''' H Kr Ke => (Run_loop (E := env)).trans (by kernel_rfl)

theorem eq27 : ∀ (x0p : Option (Nat × Nat)) (x0n x0c : Nat) (H : Am.Heap) (K : Am.V → Am.Heap → Prop),
  Am.Rec.call (Am.Run env) 27 [V.slice x0p x0n x0c] H K =
  req
   (Am.mergeR (!!decide ((↑x0n : Int) = 43))
   (decide (33 < (↑x0n : Int)) && Option.isSome x0p && true &&
    (Am.Heap.inb H (Option.getD x0p (0, 0)).1 ((Option.getD x0p (0, 0)).2 + 33) 1 && V.isK (Kind.int IntKind.u8) (Am.Heap.cell H (Option.getD x0p (0, 0)).1 ((Option.getD x0p (0, 0)).2 + 33)) &&
     true &&
    Am.mergeR (!decide (V.getInt (Am.Heap.cell H (Option.getD x0p (0, 0)).1 ((Option.getD x0p (0, 0)).2 + 33)) > 8))
     (decide (38 < (↑x0n : Int)) && Option.isSome x0p && true &&
     (Am.Heap.inb H (Option.getD x0p (0, 0)).1 ((Option.getD x0p (0, 0)).2 + 38) 1 &&
       V.isK (Kind.int IntKind.u8) (Am.Heap.cell H (Option.getD x0p (0, 0)).1 ((Option.getD x0p (0, 0)).2 + 38)) &&
      true &&
      Am.mergeR (!decide (V.getInt (Am.Heap.cell H (Option.getD x0p (0, 0)).1 ((Option.getD x0p (0, 0)).2 + 38)) > 1))
      (decide (42 < (↑x0n : Int)) && Option.isSome x0p && true &&
       (Am.Heap.inb H (Option.getD x0p (0, 0)).1 ((Option.getD x0p (0, 0)).2 + 42) 1 &&
        V.isK (Kind.int IntKind.u8) (Am.Heap.cell H (Option.getD x0p (0, 0)).1 ((Option.getD x0p (0, 0)).2 + 42)) &&
        true &&
       true))
      true))
     (Am.mergeR false
     (decide (42 < (↑x0n : Int)) && Option.isSome x0p && true &&
      (Am.Heap.inb H (Option.getD x0p (0, 0)).1 ((Option.getD x0p (0, 0)).2 + 42) 1 &&
       V.isK (Kind.int IntKind.u8) (Am.Heap.cell H (Option.getD x0p (0, 0)).1 ((Option.getD x0p (0, 0)).2 + 42)) &&
       true &&
      true))
     true)))
   (Am.mergeR false
    (decide (38 < (↑x0n : Int)) && Option.isSome x0p && true &&
    (Am.Heap.inb H (Option.getD x0p (0, 0)).1 ((Option.getD x0p (0, 0)).2 + 38) 1 &&
      V.isK (Kind.int IntKind.u8) (Am.Heap.cell H (Option.getD x0p (0, 0)).1 ((Option.getD x0p (0, 0)).2 + 38)) &&
     true &&
     Am.mergeR (!decide (V.getInt (Am.Heap.cell H (Option.getD x0p (0, 0)).1 ((Option.getD x0p (0, 0)).2 + 38)) > 1))
     (decide (42 < (↑x0n : Int)) && Option.isSome x0p && true &&
      (Am.Heap.inb H (Option.getD x0p (0, 0)).1 ((Option.getD x0p (0, 0)).2 + 42) 1 &&
       V.isK (Kind.int IntKind.u8) (Am.Heap.cell H (Option.getD x0p (0, 0)).1 ((Option.getD x0p (0, 0)).2 + 42)) &&
       true &&
      true))
     true))
    (Am.mergeR false
    (decide (42 < (↑x0n : Int)) && Option.isSome x0p && true &&
     (Am.Heap.inb H (Option.getD x0p (0, 0)).1 ((Option.getD x0p (0, 0)).2 + 42) 1 &&
      V.isK (Kind.int IntKind.u8) (Am.Heap.cell H (Option.getD x0p (0, 0)).1 ((Option.getD x0p (0, 0)).2 + 42)) &&
      true &&
     true))
    true)))
   (br
   (bif !!decide ((↑x0n : Int) = 43) then
    bif !decide (V.getInt (Am.Heap.cell H (Option.getD x0p (0, 0)).1 ((Option.getD x0p (0, 0)).2 + 33)) > 8) then
    bif !decide (V.getInt (Am.Heap.cell H (Option.getD x0p (0, 0)).1 ((Option.getD x0p (0, 0)).2 + 38)) > 1) then
     decide (V.getInt (Am.Heap.cell H (Option.getD x0p (0, 0)).1 ((Option.getD x0p (0, 0)).2 + 42)) > 127)
    else true
    else true
   else true)
   (K (V.tuple [V.agg (c24 0 0 0 0 0 0 0 0 0 0 0 false), V.int IntKind.i64 0, V.bool false]) H)
   (Am.Rec.loop (Am.Run env) (Am.loopAt env 27 6) 27 6
    (St.mk (Am.look [(0, T.v (V.slice x0p x0n x0c)), (2, T.lp 2 0), (5, T.lp 5 0), (6, T.v (V.int IntKind.i64 0))])
    (Am.look [(2, Loc.cells 25 (c24 0 0 0 0 0 0 0 0 0 0 0 false)), (5, Loc.cells 25 (c24 0 0 0 0 0 0 0 0 0 0 0 false))]) H)
    (fun S' ↦ False) fun j S' ↦
    br (Nat.beq j 0)
    (req
     (Am.isKT (KT.k Kind.slice) (S'.1 0) && (Am.isKT (KT.lp 2) (S'.1 2) && (Am.isKT (KT.lp 5) (S'.1 5) || false)) &&
     (Am.isLK 25 k24 (S'.2 2) && (Am.isLK 25 k24 (S'.2 5) || false)))
     (req (decide (32 < (↑(V.slLen (T.val (S'.1 0))) : Int)) && Option.isSome (V.slPtr (T.val (S'.1 0))))
     (req
      (Am.Heap.inb S'.3 (Option.getD (V.slPtr (T.val (S'.1 0))) (0, 0)).1 ((Option.getD (V.slPtr (T.val (S'.1 0))) (0, 0)).2 + 32) 1 &&
      V.isK (Kind.int IntKind.u8) (Am.Heap.cell S'.3 (Option.getD (V.slPtr (T.val (S'.1 0))) (0, 0)).1 ((Option.getD (V.slPtr (T.val (S'.1 0))) (0, 0)).2 + 32)))
      (req (decide (33 < (↑(V.slLen (T.val (S'.1 0))) : Int)) && Option.isSome (V.slPtr (T.val (S'.1 0))))
      (req
       (Am.Heap.inb S'.3 (Option.getD (V.slPtr (T.val (S'.1 0))) (0, 0)).1 ((Option.getD (V.slPtr (T.val (S'.1 0))) (0, 0)).2 + 33) 1 &&
       V.isK (Kind.int IntKind.u8)
        (Am.Heap.cell S'.3 (Option.getD (V.slPtr (T.val (S'.1 0))) (0, 0)).1 ((Option.getD (V.slPtr (T.val (S'.1 0))) (0, 0)).2 + 33)))
       (req (decide (38 ≤ (↑(V.slCap (T.val (S'.1 0))) : Int)) && decide (34 ≤ 38) && Nat.ble 38 (V.slCap (T.val (S'.1 0))))
       (Am.Rec.call (Am.Run env) 42 [V.slice (Am.ptrAdd (V.slPtr (T.val (S'.1 0))) 34) 4 (V.slCap (T.val (S'.1 0)) - 34)] S'.3 fun v H' ↦
        req (V.isK (Kind.int IntKind.u64) v)
        (req (decide (38 < (↑(V.slLen (T.val (S'.1 0))) : Int)) && Option.isSome (V.slPtr (T.val (S'.1 0))))
         (req
         (Am.Heap.inb H' (Option.getD (V.slPtr (T.val (S'.1 0))) (0, 0)).1 ((Option.getD (V.slPtr (T.val (S'.1 0))) (0, 0)).2 + 38) 1 &&
          V.isK (Kind.int IntKind.u8)
          (Am.Heap.cell H' (Option.getD (V.slPtr (T.val (S'.1 0))) (0, 0)).1 ((Option.getD (V.slPtr (T.val (S'.1 0))) (0, 0)).2 + 38)))
         (Am.Rec.call (Am.Run env) 19
          [V.agg
           (c24 (V.getInt (nthV (Am.locCells (S'.2 5)) 0)) (V.getInt (nthV (Am.locCells (S'.2 5)) 1))
           (V.getInt (nthV (Am.locCells (S'.2 5)) 2)) (V.getInt (nthV (Am.locCells (S'.2 5)) 3)) (V.getInt (nthV (Am.locCells (S'.2 5)) 4))
           (V.getInt (nthV (Am.locCells (S'.2 5)) 5)) (V.getInt (nthV (Am.locCells (S'.2 5)) 6)) (V.getInt (nthV (Am.locCells (S'.2 5)) 7))
           (V.getInt (Am.Heap.cell S'.3 (Option.getD (V.slPtr (T.val (S'.1 0))) (0, 0)).1 ((Option.getD (V.slPtr (T.val (S'.1 0))) (0, 0)).2 + 32)))
           (IntKind.wrap IntKind.i64
            (IntKind.wrap IntKind.i64
             (V.getInt (Am.Heap.cell S'.3 (Option.getD (V.slPtr (T.val (S'.1 0))) (0, 0)).1 ((Option.getD (V.slPtr (T.val (S'.1 0))) (0, 0)).2 + 33))) -
            1))
           (IntKind.wrap IntKind.u32 (V.getInt v))
           (decide
            (V.getInt (Am.Heap.cell H' (Option.getD (V.slPtr (T.val (S'.1 0))) (0, 0)).1 ((Option.getD (V.slPtr (T.val (S'.1 0))) (0, 0)).2 + 38)) = 1)))]
          H' fun v_1 H'_1 ↦
          req (V.isK Kind.bool v_1)
          (br (!V.getBool v_1)
           (K (V.tuple [V.agg (c24 0 0 0 0 0 0 0 0 0 0 0 false), V.int IntKind.i64 0, V.bool false]) H'_1)
           (req (decide (43 ≤ (↑(V.slCap (T.val (S'.1 0))) : Int)) && decide (39 ≤ 43) && Nat.ble 43 (V.slCap (T.val (S'.1 0))))
           (Am.Rec.call (Am.Run env) 42 [V.slice (Am.ptrAdd (V.slPtr (T.val (S'.1 0))) 39) 4 (V.slCap (T.val (S'.1 0)) - 39)]
            H'_1 fun v_2 H'_2 ↦
            req (V.isK (Kind.int IntKind.u64) v_2)
            (K
             (V.tuple
             [V.agg
              (c24 (V.getInt (nthV (Am.locCells (S'.2 5)) 0)) (V.getInt (nthV (Am.locCells (S'.2 5)) 1))
               (V.getInt (nthV (Am.locCells (S'.2 5)) 2)) (V.getInt (nthV (Am.locCells (S'.2 5)) 3))
               (V.getInt (nthV (Am.locCells (S'.2 5)) 4)) (V.getInt (nthV (Am.locCells (S'.2 5)) 5))
               (V.getInt (nthV (Am.locCells (S'.2 5)) 6)) (V.getInt (nthV (Am.locCells (S'.2 5)) 7))
               (V.getInt
               (Am.Heap.cell S'.3 (Option.getD (V.slPtr (T.val (S'.1 0))) (0, 0)).1 ((Option.getD (V.slPtr (T.val (S'.1 0))) (0, 0)).2 + 32)))
               (IntKind.wrap IntKind.i64
               (IntKind.wrap IntKind.i64
                (V.getInt
                 (Am.Heap.cell S'.3 (Option.getD (V.slPtr (T.val (S'.1 0))) (0, 0)).1 ((Option.getD (V.slPtr (T.val (S'.1 0))) (0, 0)).2 + 33))) -
                1))
               (IntKind.wrap IntKind.u32 (V.getInt v))
               (decide
               (V.getInt
                (Am.Heap.cell H' (Option.getD (V.slPtr (T.val (S'.1 0))) (0, 0)).1 ((Option.getD (V.slPtr (T.val (S'.1 0))) (0, 0)).2 + 38)) =
                1))),
              V.int IntKind.i64 (IntKind.wrap IntKind.i64 (V.getInt v_2)), V.bool true])
             H'_2))))))))))))))
    False)) :=
  fun x0p x0n x0c H K => (Run_call (E := env)).trans (by kernel_rfl)

theorem lp27_6 : ∀ (t0_0 : Option (Nat × Nat)) (t0_1 t0_2 : Nat) (t6 l2 l2' l2'' l2''' l2'''' l2''''' l2'''''' l2''''''' l2'''''''' l2''''''''' l2'''''''''' : Int) (l2''''''''''' : Bool)
  (l5 l5' l5'' l5''' l5'''' l5''''' l5'''''' l5''''''' l5'''''''' l5''''''''' l5'''''''''' : Int) (l5''''''''''' : Bool) (H : Am.Heap) (Kr : Am.St → Prop) (Ke : Nat → Am.St → Prop),
  Am.Rec.loop (Am.Run env) (Am.loopAt env 27 6) 27 6
   (St.mk (Am.look [(0, T.v (V.slice t0_0 t0_1 t0_2)), (2, T.lp 2 0), (5, T.lp 5 0), (6, T.v (V.int IntKind.i64 t6))])
   (Am.look
    [(2, Loc.cells 25 (c24 l2 l2' l2'' l2''' l2'''' l2''''' l2'''''' l2''''''' l2'''''''' l2''''''''' l2'''''''''' l2''''''''''')),
    (5, Loc.cells 25 (c24 l5 l5' l5'' l5''' l5'''' l5''''' l5'''''' l5''''''' l5'''''''' l5''''''''' l5'''''''''' l5'''''''''''))])
   H)
   Kr Ke =
  br (decide (t6 < 8))
   (req
   (decide (0 ≤ IntKind.wrap IntKind.i64 (IntKind.wrap IntKind.i64 (4 * t6) + 4)) &&
     decide (IntKind.wrap IntKind.i64 (IntKind.wrap IntKind.i64 (4 * t6) + 4) ≤ (↑t0_2 : Int)) &&
    (decide (0 ≤ IntKind.wrap IntKind.i64 (4 * t6)) &&
     decide (IntKind.wrap IntKind.i64 (4 * t6) ≤ (↑(Int.toNat (IntKind.wrap IntKind.i64 (IntKind.wrap IntKind.i64 (4 * t6) + 4))) : Int))) &&
    Nat.ble (Int.toNat (IntKind.wrap IntKind.i64 (IntKind.wrap IntKind.i64 (4 * t6) + 4))) t0_2)
   (Am.Rec.call (Am.Run env) 42
    [V.slice (Am.ptrAdd t0_0 (Int.toNat (IntKind.wrap IntKind.i64 (4 * t6)) * 1))
     (Int.toNat (IntKind.wrap IntKind.i64 (IntKind.wrap IntKind.i64 (4 * t6) + 4)) - Int.toNat (IntKind.wrap IntKind.i64 (4 * t6))) (t0_2 - Int.toNat (IntKind.wrap IntKind.i64 (4 * t6)))]
    H fun v H' ↦
    req (V.isK (Kind.int IntKind.u64) v)
    (req (decide (0 ≤ t6) && decide (t6 < 8))
     (req
     (Nat.ble (0 + Int.toNat t6 * 1 + 1) 12 &&
      (V.isK (Kind.int IntKind.u8)
       (Am.condV (Nat.beq 8 (0 + Int.toNat t6 * 1)) (V.int IntKind.u32 (IntKind.wrap IntKind.u32 (V.getInt v))) (V.int IntKind.u8 l5'''''''')) &&
      (V.isK (Kind.int IntKind.i64)
       (Am.condV (Nat.beq 9 (0 + Int.toNat t6 * 1)) (V.int IntKind.u32 (IntKind.wrap IntKind.u32 (V.getInt v))) (V.int IntKind.i64 l5''''''''')) &&
       (V.isK Kind.bool (Am.condV (Nat.beq 11 (0 + Int.toNat t6 * 1)) (V.int IntKind.u32 (IntKind.wrap IntKind.u32 (V.getInt v))) (V.bool l5''''''''''')) &&
       true))))
     (Am.Rec.loop (Am.Run env) (Am.loopAt env 27 6) 27 6
      (St.mk (Am.look [(0, T.v (V.slice t0_0 t0_1 t0_2)), (2, T.lp 2 0), (5, T.lp 5 0), (6, T.v (V.int IntKind.i64 (IntKind.wrap IntKind.i64 (t6 + 1))))])
      (Am.look
       [(2, Loc.cells 25 (c24 l2 l2' l2'' l2''' l2'''' l2''''' l2'''''' l2''''''' l2'''''''' l2''''''''' l2'''''''''' l2''''''''''')),
       (5,
        Loc.cells 25
        (c24 (bif Nat.beq 0 (0 + Int.toNat t6 * 1) then IntKind.wrap IntKind.u32 (V.getInt v) else l5)
         (bif Nat.beq 1 (0 + Int.toNat t6 * 1) then IntKind.wrap IntKind.u32 (V.getInt v) else l5')
         (bif Nat.beq 2 (0 + Int.toNat t6 * 1) then IntKind.wrap IntKind.u32 (V.getInt v) else l5'')
         (bif Nat.beq 3 (0 + Int.toNat t6 * 1) then IntKind.wrap IntKind.u32 (V.getInt v) else l5''')
         (bif Nat.beq 4 (0 + Int.toNat t6 * 1) then IntKind.wrap IntKind.u32 (V.getInt v) else l5'''')
         (bif Nat.beq 5 (0 + Int.toNat t6 * 1) then IntKind.wrap IntKind.u32 (V.getInt v) else l5''''')
         (bif Nat.beq 6 (0 + Int.toNat t6 * 1) then IntKind.wrap IntKind.u32 (V.getInt v) else l5'''''')
         (bif Nat.beq 7 (0 + Int.toNat t6 * 1) then IntKind.wrap IntKind.u32 (V.getInt v) else l5''''''')
         (V.getInt (Am.condV (Nat.beq 8 (0 + Int.toNat t6 * 1)) (V.int IntKind.u32 (IntKind.wrap IntKind.u32 (V.getInt v))) (V.int IntKind.u8 l5'''''''')))
         (V.getInt (Am.condV (Nat.beq 9 (0 + Int.toNat t6 * 1)) (V.int IntKind.u32 (IntKind.wrap IntKind.u32 (V.getInt v))) (V.int IntKind.i64 l5''''''''')))
         (bif Nat.beq 10 (0 + Int.toNat t6 * 1) then IntKind.wrap IntKind.u32 (V.getInt v) else l5'''''''''')
         (V.getBool (Am.condV (Nat.beq 11 (0 + Int.toNat t6 * 1)) (V.int IntKind.u32 (IntKind.wrap IntKind.u32 (V.getInt v))) (V.bool l5''''''''''')))))])
      H')
      Kr Ke)))))
   (Ke 0
   (St.mk (Am.look [(0, T.v (V.slice t0_0 t0_1 t0_2)), (2, T.lp 2 0), (5, T.lp 5 0)])
    (Am.look
    [(2, Loc.cells 25 (c24 l2 l2' l2'' l2''' l2'''' l2''''' l2'''''' l2''''''' l2'''''''' l2''''''''' l2'''''''''' l2''''''''''')),
     (5, Loc.cells 25 (c24 l5 l5' l5'' l5''' l5'''' l5''''' l5'''''' l5''''''' l5'''''''' l5''''''''' l5'''''''''' l5'''''''''''))])
    H)) :=
  fun t0_0 t0_1 t0_2 t6 l2 l2' l2'' l2''' l2'''' l2''''' l2'''''' l2''''''' l2'''''''' l2''''''''' l2'''''''''' l2''''''''''' l5 l5' l5'' l5''' l5'''' l5''''' l5'''''' l5''''''' l5'''''''' l5''''''''' l5'''''''''' l5''''''''''' H Kr Ke => (Run_loop (E := env)).trans (by kernel_rfl)

theorem eq31 : ∀ (x0_0 x0_1 x0_2 x0_3 x0_4 x0_5 x0_6 x0_7 x0_8 x0_9 x0_10 : Int) (x0_11 : Bool) (x1 x2_0 x2_1 : Int) (x2_2p : Option (Nat × Nat)) (x2_2n x2_2c : Nat) (x2_3 : Bool) (x2_4 x2_5 x2_6 : Int) (x2_7 : Bool) (H : Am.Heap)
  (K : Am.V → Am.Heap → Prop),
  Am.Rec.call (Am.Run env) 31
   [V.agg (c24 x0_0 x0_1 x0_2 x0_3 x0_4 x0_5 x0_6 x0_7 x0_8 x0_9 x0_10 x0_11), V.int IntKind.i64 x1,
   V.agg (c67 x2_0 x2_1 x2_2p x2_2n x2_2c x2_3 x2_4 x2_5 x2_6 x2_7)]
   H K =
  br (bif !decide (x1 < 0) then bif !decide (x1 ≥ 8) then bif !decide (x2_0 < 4) then decide (x2_0 > 8) else true else true else true)
   (K (V.tuple [V.agg (c24 x0_0 x0_1 x0_2 x0_3 x0_4 x0_5 x0_6 x0_7 x0_8 x0_9 x0_10 x0_11), V.int IntKind.i64 1]) H)
   (Am.joinP
   (fun Q ↦
    br (bif !decide (x2_0 = 5) then bif !decide (x2_0 = 6) then decide (x2_0 = 8) else true else true)
    (Am.Rec.call (Am.Run env) 34 [V.int IntKind.u8 x2_6] H fun v H' ↦
     req (V.isK Kind.bool v) (Q (St.mk (Am.look [(46, T.v (V.bool !V.getBool v))]) (Am.look []) H')))
    (Q (St.mk (Am.look [(46, T.v (V.bool false))]) (Am.look []) H)))
   fun S' ↦
   req (Am.isKT (KT.k Kind.bool) (S'.1 46) || false || false)
    (br (V.getBool (T.val (S'.1 46)))
    (K (V.tuple [V.agg (c24 x0_0 x0_1 x0_2 x0_3 x0_4 x0_5 x0_6 x0_7 x0_8 x0_9 x0_10 x0_11), V.int IntKind.i64 1]) S'.3)
    (req (decide (0 ≤ x1) && decide (x1 < 8))
     (req
     (Nat.ble (Nat.succ (0 + Int.toNat x1 * 1)) 12 &&
      V.isK (Kind.int IntKind.u32) (nthV (c24 x0_0 x0_1 x0_2 x0_3 x0_4 x0_5 x0_6 x0_7 x0_8 x0_9 x0_10 x0_11) (0 + Int.toNat x1 * 1)))
     (br
      (bif !!decide (V.getInt (nthV (c24 x0_0 x0_1 x0_2 x0_3 x0_4 x0_5 x0_6 x0_7 x0_8 x0_9 x0_10 x0_11) (0 + Int.toNat x1 * 1)) = x2_4) then
      decide (x2_4 = 0) && !decide (x2_0 = 4)
      else true)
      (K (V.tuple [V.agg (c24 x0_0 x0_1 x0_2 x0_3 x0_4 x0_5 x0_6 x0_7 x0_8 x0_9 x0_10 x0_11), V.int IntKind.i64 13]) S'.3)
      (br (decide (x2_0 = 4))
      (Am.Rec.call (Am.Run env) 44
       [V.agg (c24 x0_0 x0_1 x0_2 x0_3 x0_4 x0_5 x0_6 x0_7 x0_8 x0_9 x0_10 x0_11), V.int IntKind.i64 x1,
       V.agg (c67 x2_0 x2_1 x2_2p x2_2n x2_2c x2_3 x2_4 x2_5 x2_6 x2_7)]
       S'.3 fun v H' ↦
       req (V.isAgg v && Am.fits k24 (V.aggCells v))
       (K (V.tuple [V.agg (o24 (V.aggCells v)), V.int IntKind.i64 0]) H'))
      (br (decide (x2_0 = 5))
       (Am.joinP
       (fun Q ↦
        br (!decide (x0_8 = 0))
        (Am.Rec.call (Am.Run env) 45
         [V.agg (c24 x0_0 x0_1 x0_2 x0_3 x0_4 x0_5 x0_6 x0_7 x0_8 x0_9 x0_10 x0_11), V.int IntKind.i64 x1] S'.3 fun v H' ↦
         req (V.isK Kind.bool v)
         (br (!!V.getBool v) (Q (St.mk (Am.look [(92, T.v (V.bool !decide (x0_8 = x2_6)))]) (Am.look []) H'))
          (Q (St.mk (Am.look [(92, T.v (V.bool true))]) (Am.look []) H'))))
        (Q (St.mk (Am.look [(92, T.v (V.bool false))]) (Am.look []) S'.3)))
       fun S' ↦
       req (Am.isKT (KT.k Kind.bool) (S'.1 92) || false || false)
        (br (V.getBool (T.val (S'.1 92)))
        (K (V.tuple [V.agg (c24 x0_0 x0_1 x0_2 x0_3 x0_4 x0_5 x0_6 x0_7 x0_8 x0_9 x0_10 x0_11), V.int IntKind.i64 13]) S'.3)
        (br (decide (x0_8 = 0))
         (Am.Rec.call (Am.Run env) 46
         [V.agg (c24 x0_0 x0_1 x0_2 x0_3 x0_4 x0_5 x0_6 x0_7 x0_8 x0_9 x0_10 x0_11), V.int IntKind.i64 x1, V.int IntKind.u8 x2_6] S'.3 fun v H' ↦
         req (V.isAgg v && Am.fits k24 (V.aggCells v))
          (K (V.tuple [V.agg (o24 (V.aggCells v)), V.int IntKind.i64 0]) H'))
         (K (V.tuple [V.agg (c24 x0_0 x0_1 x0_2 x0_3 x0_4 x0_5 x0_6 x0_7 x0_8 x0_9 x0_10 x0_11), V.int IntKind.i64 0]) S'.3))))
       (br (decide (x2_0 = 6))
       (Am.Rec.call (Am.Run env) 45
        [V.agg (c24 x0_0 x0_1 x0_2 x0_3 x0_4 x0_5 x0_6 x0_7 x0_8 x0_9 x0_10 x0_11), V.int IntKind.i64 x1] S'.3 fun v H' ↦
        req (V.isK Kind.bool v)
        (br (!V.getBool v) (K (V.tuple [V.agg (c24 x0_0 x0_1 x0_2 x0_3 x0_4 x0_5 x0_6 x0_7 x0_8 x0_9 x0_10 x0_11), V.int IntKind.i64 0]) H')
         (br (!decide (x0_8 = x2_6))
         (K (V.tuple [V.agg (c24 x0_0 x0_1 x0_2 x0_3 x0_4 x0_5 x0_6 x0_7 x0_8 x0_9 x0_10 x0_11), V.int IntKind.i64 1]) H')
         (Am.Rec.call (Am.Run env) 47 [V.agg (c24 x0_0 x0_1 x0_2 x0_3 x0_4 x0_5 x0_6 x0_7 x0_8 x0_9 x0_10 x0_11)] H' fun v H' ↦
          req (V.isAgg v && Am.fits k24 (V.aggCells v))
          (K (V.tuple [V.agg (o24 (V.aggCells v)), V.int IntKind.i64 0]) H')))))
       (br (decide (x2_0 = 7))
        (K (V.tuple [V.agg (c24 0 0 0 0 0 0 0 0 0 (-1) (IntKind.wrap IntKind.u32 (x0_10 + 1)) x0_11), V.int IntKind.i64 0]) S'.3)
        (br (decide (x2_0 = 8))
        (Am.Rec.call (Am.Run env) 48
         [V.agg (c24 x0_0 x0_1 x0_2 x0_3 x0_4 x0_5 x0_6 x0_7 x0_8 x0_9 x0_10 x0_11), V.int IntKind.i64 x1,
         V.agg (c67 x2_0 x2_1 x2_2p x2_2n x2_2c x2_3 x2_4 x2_5 x2_6 x2_7)]
         S'.3 fun v H' ↦
         req
         (V.isTuple 2 v &&
          (V.isAgg (nthV (V.vals v) 0) && Am.fits k24 (V.aggCells (nthV (V.vals v) 0)) &&
          (V.isK (Kind.int IntKind.i64) (nthV (V.vals v) 1) || false)))
         (K
          (V.tuple
          [V.agg (o24 (V.aggCells (nthV (V.vals v) 0))), V.int IntKind.i64 (V.getInt (nthV (V.vals v) 1))])
          H'))
        (K (V.tuple [V.agg (c24 x0_0 x0_1 x0_2 x0_3 x0_4 x0_5 x0_6 x0_7 x0_8 x0_9 x0_10 x0_11), V.int IntKind.i64 0]) S'.3))))))))))) :=
  fun x0_0 x0_1 x0_2 x0_3 x0_4 x0_5 x0_6 x0_7 x0_8 x0_9 x0_10 x0_11 x1 x2_0 x2_1 x2_2p x2_2n x2_2c x2_3 x2_4 x2_5 x2_6 x2_7 H K => (Run_call (E := env)).trans (by kernel_rfl)

theorem eq32 : ∀ (x0p : Option (Nat × Nat)) (x0n x0c : Nat) (x1 x2 : Int) (H : Am.Heap) (K : Am.V → Am.Heap → Prop),
  Am.Rec.call (Am.Run env) 32 [V.slice x0p x0n x0c, V.int IntKind.u64 x1, V.int IntKind.i64 x2] H K =
  Am.Rec.loop (Am.Run env) (Am.loopAt env 32 2) 32 2
   (St.mk (Am.look [(0, T.v (V.slice x0p x0n x0c)), (1, T.v (V.int IntKind.u64 x1)), (8, T.v (V.int IntKind.i64 x2)), (9, T.v (V.int IntKind.i64 0))])
   (Am.look []) H)
   (fun S' ↦ False) fun j S' ↦
   br (Nat.beq j 0)
   (req (Am.isKT (KT.k Kind.slice) (S'.1 0) || false || false)
    (K (V.slice (V.slPtr (T.val (S'.1 0))) (V.slLen (T.val (S'.1 0))) (V.slCap (T.val (S'.1 0)))) S'.3))
   False :=
  fun x0p x0n x0c x1 x2 H K => (Run_call (E := env)).trans (by kernel_rfl)

theorem lp32_2 : ∀ (t0_0 : Option (Nat × Nat)) (t0_1 t0_2 : Nat) (t1 t8 t9 : Int) (H : Am.Heap) (Kr : Am.St → Prop) (Ke : Nat → Am.St → Prop),
  Am.Rec.loop (Am.Run env) (Am.loopAt env 32 2) 32 2
   (St.mk
   (Am.look [(0, T.v (V.slice t0_0 t0_1 t0_2)), (1, T.v (V.int IntKind.u64 t1)), (8, T.v (V.int IntKind.i64 t8)), (9, T.v (V.int IntKind.i64 t9))])
   (Am.look []) H)
   Kr Ke =
  br (decide (t9 < t8))
   (req (decide (0 ≤ IntKind.wrap IntKind.i64 (8 * t9)))
   (Am.appendOp env [31, 31] [V.slice t0_0 t0_1 t0_2, V.slice (Option.some (H.2, 0)) 1 1]
    (Am.Heap.alloc H (Am.Obj.cells 5 [V.int IntKind.u8 (IntKind.wrap IntKind.u8 (Int.fdiv t1 (2 ^ Am.shiftBy (IntKind.wrap IntKind.i64 (8 * t9)) 64)))] false)) fun q n c H' ↦
    Am.Rec.loop (Am.Run env) (Am.loopAt env 32 2) 32 2
    (St.mk
     (Am.look
     [(0, T.v (V.slice q n c)), (1, T.v (V.int IntKind.u64 t1)), (8, T.v (V.int IntKind.i64 t8)),
      (9, T.v (V.int IntKind.i64 (IntKind.wrap IntKind.i64 (t9 + 1))))])
     (Am.look []) H')
    Kr Ke))
   (Ke 0 (St.mk (Am.look [(0, T.v (V.slice t0_0 t0_1 t0_2))]) (Am.look []) H)) :=
  fun t0_0 t0_1 t0_2 t1 t8 t9 H Kr Ke => (Run_loop (E := env)).trans (by kernel_rfl)

theorem eq33 : ∀ (x0 : Int) (H : Am.Heap) (K : Am.V → Am.Heap → Prop),
  Am.Rec.call (Am.Run env) 33 [V.int IntKind.u8 x0] H K =
  K (V.bool (bif !decide (x0 = 1) then bif !decide (x0 = 3) then decide (x0 ≥ 5) && decide (x0 ≤ 8) else true else true)) H :=
  fun x0 H K => (Run_call (E := env)).trans (by kernel_rfl)

theorem eq34 : ∀ (x0 : Int) (H : Am.Heap) (K : Am.V → Am.Heap → Prop),
  Am.Rec.call (Am.Run env) 34 [V.int IntKind.u8 x0] H K =
  Am.Rec.call (Am.Run env) 49 [] H fun v H' ↦
   req (V.isAgg v && Am.fits k85 (V.aggCells v))
   (Am.Rec.loop (Am.Run env) (Am.loopAt env 34 2) 34 2
    (St.mk (Am.look [(0, T.v (V.int IntKind.u8 x0)), (5, T.v (V.agg (o85 (V.aggCells v)))), (6, T.v (V.int IntKind.i64 0))])
    (Am.look []) H')
    (fun S' ↦ req (Am.isKT (KT.k Kind.bool) (S'.1 2) || false || false) (K (V.bool (V.getBool (T.val (S'.1 2)))) S'.3)) fun j S' ↦
    br (Nat.beq j 0) (K (V.bool false) S'.3) False) :=
  fun x0 H K => (Run_call (E := env)).trans (by kernel_rfl)

theorem lp34_2 : ∀ (t0 t5 t5' t5'' t5''' t5'''' t5''''' t6 : Int) (H : Am.Heap) (Kr : Am.St → Prop) (Ke : Nat → Am.St → Prop),
  Am.Rec.loop (Am.Run env) (Am.loopAt env 34 2) 34 2
   (St.mk
   (Am.look [(0, T.v (V.int IntKind.u8 t0)), (5, T.v (V.agg (c85 t5 t5' t5'' t5''' t5'''' t5'''''))), (6, T.v (V.int IntKind.i64 t6))])
   (Am.look []) H)
   Kr Ke =
  br (decide (t6 < 6))
   (req
   (decide (0 ≤ t6) && decide (t6 < 6) &&
    (Nat.ble (Nat.succ (Int.toNat t6 * 1)) 6 && V.isK (Kind.int IntKind.u8) (nthV (c85 t5 t5' t5'' t5''' t5'''' t5''''') (Int.toNat t6 * 1))))
   (br (decide (V.getInt (nthV (c85 t5 t5' t5'' t5''' t5'''' t5''''') (Int.toNat t6 * 1)) = t0))
    (Kr (St.mk (Am.look [(2, T.v (V.bool true))]) (Am.look []) H))
    (Am.Rec.loop (Am.Run env) (Am.loopAt env 34 2) 34 2
    (St.mk
     (Am.look
     [(0, T.v (V.int IntKind.u8 t0)), (5, T.v (V.agg (c85 t5 t5' t5'' t5''' t5'''' t5'''''))),
      (6, T.v (V.int IntKind.i64 (IntKind.wrap IntKind.i64 (t6 + 1))))])
     (Am.look []) H)
    Kr Ke)))
   (Ke 0 (St.mk (Am.look []) (Am.look []) H)) :=
  fun t0 t5 t5' t5'' t5''' t5'''' t5''''' t6 H Kr Ke => (Run_loop (E := env)).trans (by kernel_rfl)

theorem eq38 : ∀ (x0p : Option (Nat × Nat)) (x0n x0c : Nat) (H : Am.Heap) (K : Am.V → Am.Heap → Prop),
  Am.Rec.call (Am.Run env) 38 [V.slice x0p x0n x0c] H K =
  K (V.ptr (Option.some (H.2, 0))) (Am.Heap.alloc H (Am.Obj.cells 92 (c91 x0p x0n x0c false) false)) :=
  fun x0p x0n x0c H K => (Run_call (E := env)).trans (by kernel_rfl)

theorem eq39 : ∀ (x0 : Option (Nat × Nat)) (x1 x2 : Int) (H : Am.Heap) (K : Am.V → Am.Heap → Prop),
  Am.Rec.call (Am.Run env) 39 [V.ptr x0, V.int IntKind.i64 x1, V.int IntKind.u64 x2] H K =
  br (Option.isNone x0) (K (V.int IntKind.u64 0) H)
   (Am.Rec.call (Am.Run env) 55 [V.ptr x0, V.int IntKind.i64 x1] H fun v H' ↦
   req (V.isK Kind.slice v)
    (Am.Rec.call (Am.Run env) 54 [V.slice (V.slPtr v) (V.slLen v) (V.slCap v)] H' fun v H' ↦
    req (V.isK (Kind.int IntKind.u64) v)
     (br (decide (V.getInt v > x2))
     (req (Option.isSome x0)
      (req (Am.Heap.wr H' (Option.getD x0 (0, 0)).1 ((Option.getD x0 (0, 0)).2 + 1) 1)
      (K (V.int IntKind.u64 0) (Am.Heap.store H' (Option.getD x0 (0, 0)).1 ((Option.getD x0 (0, 0)).2 + 1) [V.bool true]))))
     (K (V.int IntKind.u64 (V.getInt v)) H')))) :=
  fun x0 x1 x2 H K => (Run_call (E := env)).trans (by kernel_rfl)

theorem eq40 : ∀ (x0 : Option (Nat × Nat)) (H : Am.Heap) (K : Am.V → Am.Heap → Prop),
  Am.Rec.call (Am.Run env) 40 [V.ptr x0] H K =
  req
   (Am.mergeR (!Option.isNone x0)
   (Option.isSome x0 && true &&
    (Am.Heap.inb H (Option.getD x0 (0, 0)).1 ((Option.getD x0 (0, 0)).2 + 1) 1 && V.isK Kind.bool (Am.Heap.cell H (Option.getD x0 (0, 0)).1 ((Option.getD x0 (0, 0)).2 + 1)) && true &&
    Am.mergeR (!V.getBool (Am.Heap.cell H (Option.getD x0 (0, 0)).1 ((Option.getD x0 (0, 0)).2 + 1)))
     (Option.isSome x0 && true &&
     (Am.Heap.inb H (Option.getD x0 (0, 0)).1 (Option.getD x0 (0, 0)).2 1 && V.isK Kind.slice (Am.Heap.cell H (Option.getD x0 (0, 0)).1 (Option.getD x0 (0, 0)).2) && true && true))
     true))
   (Am.mergeR false
    (Option.isSome x0 && true &&
    (Am.Heap.inb H (Option.getD x0 (0, 0)).1 (Option.getD x0 (0, 0)).2 1 && V.isK Kind.slice (Am.Heap.cell H (Option.getD x0 (0, 0)).1 (Option.getD x0 (0, 0)).2) && true && true))
    true))
   (K
   (V.bool
    (!Option.isNone x0 &&
    (!V.getBool (Am.Heap.cell H (Option.getD x0 (0, 0)).1 ((Option.getD x0 (0, 0)).2 + 1)) &&
     decide ((↑(V.slLen (Am.Heap.cell H (Option.getD x0 (0, 0)).1 (Option.getD x0 (0, 0)).2)) : Int) = 0))))
   H) :=
  fun x0 H K => (Run_call (E := env)).trans (by kernel_rfl)

theorem eq41 : ∀ (x0 x1 : Int) (H : Am.Heap) (K : Am.V → Am.Heap → Prop),
  Am.Rec.call (Am.Run env) 41 [V.int IntKind.u64 x0, V.int IntKind.i64 x1] H K =
  Am.Rec.loop (Am.Run env) (Am.loopAt env 41 3) 41 3
   (St.mk
   (Am.look [(0, T.v (V.int IntKind.u64 x0)), (1, T.v (V.int IntKind.i64 x1)), (5, T.v (V.slice Option.none 0 0)), (6, T.v (V.int IntKind.i64 0))])
   (Am.look []) H)
   (fun S' ↦ False) fun j S' ↦
   br (Nat.beq j 0)
   (req (Am.isKT (KT.k Kind.slice) (S'.1 5) || false || false)
    (K (V.slice (V.slPtr (T.val (S'.1 5))) (V.slLen (T.val (S'.1 5))) (V.slCap (T.val (S'.1 5)))) S'.3))
   False :=
  fun x0 x1 H K => (Run_call (E := env)).trans (by kernel_rfl)

theorem lp41_3 : ∀ (t0 t1 : Int) (t5_0 : Option (Nat × Nat)) (t5_1 t5_2 : Nat) (t6 : Int) (H : Am.Heap) (Kr : Am.St → Prop) (Ke : Nat → Am.St → Prop),
  Am.Rec.loop (Am.Run env) (Am.loopAt env 41 3) 41 3
   (St.mk
   (Am.look [(0, T.v (V.int IntKind.u64 t0)), (1, T.v (V.int IntKind.i64 t1)), (5, T.v (V.slice t5_0 t5_1 t5_2)), (6, T.v (V.int IntKind.i64 t6))])
   (Am.look []) H)
   Kr Ke =
  br (decide (t6 < t1))
   (Am.appendOp env [31, 31] [V.slice t5_0 t5_1 t5_2, V.slice (Option.some (H.2, 0)) 1 1]
   (Am.Heap.alloc H (Am.Obj.cells 5 [V.int IntKind.u8 (IntKind.wrap IntKind.u8 (Int.tmod t0 256))] false)) fun q n c H' ↦
   Am.Rec.loop (Am.Run env) (Am.loopAt env 41 3) 41 3
    (St.mk
    (Am.look
     [(0, T.v (V.int IntKind.u64 (IntKind.wrap IntKind.u64 (Int.tdiv t0 256)))), (1, T.v (V.int IntKind.i64 t1)), (5, T.v (V.slice q n c)),
     (6, T.v (V.int IntKind.i64 (IntKind.wrap IntKind.i64 (t6 + 1))))])
    (Am.look []) H')
    Kr Ke)
   (Ke 0 (St.mk (Am.look [(5, T.v (V.slice t5_0 t5_1 t5_2))]) (Am.look []) H)) :=
  fun t0 t1 t5_0 t5_1 t5_2 t6 H Kr Ke => (Run_loop (E := env)).trans (by kernel_rfl)

theorem eq42 : ∀ (x0p : Option (Nat × Nat)) (x0n x0c : Nat) (H : Am.Heap) (K : Am.V → Am.Heap → Prop),
  Am.Rec.call (Am.Run env) 42 [V.slice x0p x0n x0c] H K =
  Am.Rec.loop (Am.Run env) (Am.loopAt env 42 3) 42 3
   (St.mk (Am.look [(0, T.v (V.slice x0p x0n x0c)), (3, T.v (V.int IntKind.u64 0)), (4, T.v (V.int IntKind.i64 (IntKind.wrap IntKind.i64 ((↑x0n : Int) - 1))))])
   (Am.look []) H)
   (fun S' ↦ False) fun j S' ↦
   br (Nat.beq j 0) (req (Am.isKT (KT.k (Kind.int IntKind.u64)) (S'.1 3) || false || false) (K (V.int IntKind.u64 (V.getInt (T.val (S'.1 3)))) S'.3)) False :=
  fun x0p x0n x0c H K => (Run_call (E := env)).trans (by kernel_rfl)

theorem lp42_3 : ∀ (t0_0 : Option (Nat × Nat)) (t0_1 t0_2 : Nat) (t3 t4 : Int) (H : Am.Heap) (Kr : Am.St → Prop) (Ke : Nat → Am.St → Prop),
  Am.Rec.loop (Am.Run env) (Am.loopAt env 42 3) 42 3
   (St.mk (Am.look [(0, T.v (V.slice t0_0 t0_1 t0_2)), (3, T.v (V.int IntKind.u64 t3)), (4, T.v (V.int IntKind.i64 t4))]) (Am.look []) H) Kr Ke =
  br (decide (t4 ≥ 0))
   (req (decide (0 ≤ t4) && decide (t4 < (↑t0_1 : Int)) && Option.isSome t0_0)
   (req
    (Am.Heap.inb H (Option.getD t0_0 (0, 0)).1 ((Option.getD t0_0 (0, 0)).2 + Int.toNat t4 * 1) 1 &&
    V.isK (Kind.int IntKind.u8) (Am.Heap.cell H (Option.getD t0_0 (0, 0)).1 ((Option.getD t0_0 (0, 0)).2 + Int.toNat t4 * 1)))
    (Am.Rec.loop (Am.Run env) (Am.loopAt env 42 3) 42 3
    (St.mk
     (Am.look
     [(0, T.v (V.slice t0_0 t0_1 t0_2)),
      (3,
      T.v
       (V.int IntKind.u64
       (IntKind.wrap IntKind.u64
        (IntKind.wrap IntKind.u64 (t3 * 256) + IntKind.wrap IntKind.u64 (V.getInt (Am.Heap.cell H (Option.getD t0_0 (0, 0)).1 ((Option.getD t0_0 (0, 0)).2 + Int.toNat t4 * 1))))))),
      (4, T.v (V.int IntKind.i64 (IntKind.wrap IntKind.i64 (t4 - 1))))])
     (Am.look []) H)
    Kr Ke)))
   (Ke 0 (St.mk (Am.look [(3, T.v (V.int IntKind.u64 t3))]) (Am.look []) H)) :=
  fun t0_0 t0_1 t0_2 t3 t4 H Kr Ke => (Run_loop (E := env)).trans (by kernel_rfl)

theorem eq44 : ∀ (x0_0 x0_1 x0_2 x0_3 x0_4 x0_5 x0_6 x0_7 x0_8 x0_9 x0_10 : Int) (x0_11 : Bool) (x1 x2_0 x2_1 : Int) (x2_2p : Option (Nat × Nat)) (x2_2n x2_2c : Nat) (x2_3 : Bool) (x2_4 x2_5 x2_6 : Int) (x2_7 : Bool) (H : Am.Heap)
  (K : Am.V → Am.Heap → Prop),
  Am.Rec.call (Am.Run env) 44
   [V.agg (c24 x0_0 x0_1 x0_2 x0_3 x0_4 x0_5 x0_6 x0_7 x0_8 x0_9 x0_10 x0_11), V.int IntKind.i64 x1,
   V.agg (c67 x2_0 x2_1 x2_2p x2_2n x2_2c x2_3 x2_4 x2_5 x2_6 x2_7)]
   H K =
  br (decide (x2_5 = 0))
   (Am.Rec.call (Am.Run env) 56
   [V.agg (c24 x0_0 x0_1 x0_2 x0_3 x0_4 x0_5 x0_6 x0_7 x0_8 x0_9 (IntKind.wrap IntKind.u32 (x0_10 + 1)) x2_7), V.int IntKind.i64 x1] H fun v H' ↦
   req (V.isAgg v && Am.fits k24 (V.aggCells v)) (K (V.agg (o24 (V.aggCells v))) H'))
   (req (decide (0 ≤ x1) && decide (x1 < 8))
   (req
    (Nat.ble (0 + Int.toNat x1 * 1 + 1) 12 &&
    (V.isK (Kind.int IntKind.u8) (Am.condV (Nat.beq 8 (0 + Int.toNat x1 * 1)) (V.int IntKind.u32 x2_5) (V.int IntKind.u8 x0_8)) &&
     (V.isK (Kind.int IntKind.i64) (Am.condV (Nat.beq 9 (0 + Int.toNat x1 * 1)) (V.int IntKind.u32 x2_5) (V.int IntKind.i64 x0_9)) &&
     (V.isK Kind.bool (Am.condV (Nat.beq 11 (0 + Int.toNat x1 * 1)) (V.int IntKind.u32 x2_5) (V.bool x2_7)) && true))))
    (K
    (V.agg
     (c24 (bif Nat.beq 0 (0 + Int.toNat x1 * 1) then x2_5 else x0_0) (bif Nat.beq 1 (0 + Int.toNat x1 * 1) then x2_5 else x0_1)
     (bif Nat.beq 2 (0 + Int.toNat x1 * 1) then x2_5 else x0_2) (bif Nat.beq 3 (0 + Int.toNat x1 * 1) then x2_5 else x0_3) (bif Nat.beq 4 (0 + Int.toNat x1 * 1) then x2_5 else x0_4)
     (bif Nat.beq 5 (0 + Int.toNat x1 * 1) then x2_5 else x0_5) (bif Nat.beq 6 (0 + Int.toNat x1 * 1) then x2_5 else x0_6) (bif Nat.beq 7 (0 + Int.toNat x1 * 1) then x2_5 else x0_7)
     (V.getInt (Am.condV (Nat.beq 8 (0 + Int.toNat x1 * 1)) (V.int IntKind.u32 x2_5) (V.int IntKind.u8 x0_8)))
     (V.getInt (Am.condV (Nat.beq 9 (0 + Int.toNat x1 * 1)) (V.int IntKind.u32 x2_5) (V.int IntKind.i64 x0_9)))
     (bif Nat.beq 10 (0 + Int.toNat x1 * 1) then x2_5 else IntKind.wrap IntKind.u32 (x0_10 + 1))
     (V.getBool (Am.condV (Nat.beq 11 (0 + Int.toNat x1 * 1)) (V.int IntKind.u32 x2_5) (V.bool x2_7)))))
    H))) :=
  fun x0_0 x0_1 x0_2 x0_3 x0_4 x0_5 x0_6 x0_7 x0_8 x0_9 x0_10 x0_11 x1 x2_0 x2_1 x2_2p x2_2n x2_2c x2_3 x2_4 x2_5 x2_6 x2_7 H K => (Run_call (E := env)).trans (by kernel_rfl)

theorem eq45 : ∀ (x0_0 x0_1 x0_2 x0_3 x0_4 x0_5 x0_6 x0_7 x0_8 x0_9 x0_10 : Int) (x0_11 : Bool) (x1 : Int) (H : Am.Heap) (K : Am.V → Am.Heap → Prop),
  Am.Rec.call (Am.Run env) 45 [V.agg (c24 x0_0 x0_1 x0_2 x0_3 x0_4 x0_5 x0_6 x0_7 x0_8 x0_9 x0_10 x0_11), V.int IntKind.i64 x1] H K =
  br (bif !decide (x1 < 0) then bif !decide (x1 ≥ 8) then decide (x0_8 = 0) else true else true) (K (V.bool false) H)
   (br (!decide (x0_9 = x1))
   (Am.Rec.call (Am.Run env) 57 [V.int IntKind.u8 x0_8] H fun v H' ↦
    req (V.isK Kind.bool v)
    (br (V.getBool v)
     (req (decide (0 ≤ x1) && decide (x1 < 8))
     (req
      (Nat.ble (Nat.succ (0 + Int.toNat x1 * 1)) 12 &&
      V.isK (Kind.int IntKind.u32) (nthV (c24 x0_0 x0_1 x0_2 x0_3 x0_4 x0_5 x0_6 x0_7 x0_8 x0_9 x0_10 x0_11) (0 + Int.toNat x1 * 1)))
      (K (V.bool !decide (V.getInt (nthV (c24 x0_0 x0_1 x0_2 x0_3 x0_4 x0_5 x0_6 x0_7 x0_8 x0_9 x0_10 x0_11) (0 + Int.toNat x1 * 1)) = 0)) H')))
     (K (V.bool false) H')))
   (K (V.bool true) H)) :=
  fun x0_0 x0_1 x0_2 x0_3 x0_4 x0_5 x0_6 x0_7 x0_8 x0_9 x0_10 x0_11 x1 H K => (Run_call (E := env)).trans (by kernel_rfl)

theorem eq46 : ∀ (x0_0 x0_1 x0_2 x0_3 x0_4 x0_5 x0_6 x0_7 x0_8 x0_9 x0_10 : Int) (x0_11 : Bool) (x1 x2 : Int) (H : Am.Heap) (K : Am.V → Am.Heap → Prop),
  Am.Rec.call (Am.Run env) 46
   [V.agg (c24 x0_0 x0_1 x0_2 x0_3 x0_4 x0_5 x0_6 x0_7 x0_8 x0_9 x0_10 x0_11), V.int IntKind.i64 x1, V.int IntKind.u8 x2] H K =
  Am.Rec.call (Am.Run env) 57 [V.int IntKind.u8 x2] H fun v H' ↦
   req (V.isK Kind.bool v)
   (br (V.getBool v) (K (V.agg (c24 x0_0 x0_1 x0_2 x0_3 x0_4 x0_5 x0_6 x0_7 x2 (-1) x0_10 x0_11)) H')
    (K (V.agg (c24 x0_0 x0_1 x0_2 x0_3 x0_4 x0_5 x0_6 x0_7 x2 x1 x0_10 x0_11)) H')) :=
  fun x0_0 x0_1 x0_2 x0_3 x0_4 x0_5 x0_6 x0_7 x0_8 x0_9 x0_10 x0_11 x1 x2 H K => (Run_call (E := env)).trans (by kernel_rfl)

theorem eq47 : ∀ (x0_0 x0_1 x0_2 x0_3 x0_4 x0_5 x0_6 x0_7 x0_8 x0_9 x0_10 : Int) (x0_11 : Bool) (H : Am.Heap) (K : Am.V → Am.Heap → Prop),
  Am.Rec.call (Am.Run env) 47 [V.agg (c24 x0_0 x0_1 x0_2 x0_3 x0_4 x0_5 x0_6 x0_7 x0_8 x0_9 x0_10 x0_11)] H K =
  K (V.agg (c24 x0_0 x0_1 x0_2 x0_3 x0_4 x0_5 x0_6 x0_7 0 (-1) x0_10 x0_11)) H :=
  fun x0_0 x0_1 x0_2 x0_3 x0_4 x0_5 x0_6 x0_7 x0_8 x0_9 x0_10 x0_11 H K => (Run_call (E := env)).trans (by kernel_rfl)

theorem eq48 : ∀ (x0_0 x0_1 x0_2 x0_3 x0_4 x0_5 x0_6 x0_7 x0_8 x0_9 x0_10 : Int) (x0_11 : Bool) (x1 x2_0 x2_1 : Int) (x2_2p : Option (Nat × Nat)) (x2_2n x2_2c : Nat) (x2_3 : Bool) (x2_4 x2_5 x2_6 : Int) (x2_7 : Bool) (H : Am.Heap)
  (K : Am.V → Am.Heap → Prop),
  Am.Rec.call (Am.Run env) 48
   [V.agg (c24 x0_0 x0_1 x0_2 x0_3 x0_4 x0_5 x0_6 x0_7 x0_8 x0_9 x0_10 x0_11), V.int IntKind.i64 x1,
   V.agg (c67 x2_0 x2_1 x2_2p x2_2n x2_2c x2_3 x2_4 x2_5 x2_6 x2_7)]
   H K =
  Am.joinP
   (fun Q ↦
   br (decide (x2_5 = 0))
    (Am.Rec.call (Am.Run env) 57 [V.int IntKind.u8 x0_8] H fun v H' ↦
    req (V.isK Kind.bool v) (Q (St.mk (Am.look [(21, T.v (V.bool !V.getBool v))]) (Am.look []) H')))
    (Q (St.mk (Am.look [(21, T.v (V.bool false))]) (Am.look []) H)))
   fun S' ↦
   req (Am.isKT (KT.k Kind.bool) (S'.1 21) || false || false)
   (br (V.getBool (T.val (S'.1 21)))
    (K (V.tuple [V.agg (c24 x0_0 x0_1 x0_2 x0_3 x0_4 x0_5 x0_6 x0_7 x0_8 x0_9 x0_10 x0_11), V.int IntKind.i64 1]) S'.3)
    (req
    (Am.mergeR (!decide (x2_5 = 0))
     (decide (0 ≤ x1) && decide (x1 < 8) && true &&
     (Nat.ble (Nat.succ (0 + Int.toNat x1 * 1)) 12 &&
       V.isK (Kind.int IntKind.u32) (nthV (c24 x0_0 x0_1 x0_2 x0_3 x0_4 x0_5 x0_6 x0_7 x0_8 x0_9 x0_10 x0_11) (0 + Int.toNat x1 * 1)) &&
      true &&
      true))
     true)
    (Am.Rec.loop (Am.Run env) (Am.loopAt env 48 8) 48 8
     (St.mk
     (Am.look
      [(1, T.v (V.int IntKind.i64 x1)), (3, T.lp 3 0), (5, T.lp 5 0), (6, T.lp 6 0), (8, T.v (V.bool false)),
      (9,
       T.v
       (V.bool
        (bif !decide (x2_5 = 0) then
        decide (x2_5 = V.getInt (nthV (c24 x0_0 x0_1 x0_2 x0_3 x0_4 x0_5 x0_6 x0_7 x0_8 x0_9 x0_10 x0_11) (0 + Int.toNat x1 * 1))) &&
         (!decide (x0_8 = 0) && decide (x0_9 = x1))
        else true))),
      (10, T.lp 10 0), (48, T.v (V.agg (c23 x0_0 x0_1 x0_2 x0_3 x0_4 x0_5 x0_6 x0_7))), (49, T.v (V.int IntKind.i64 0))])
     (Am.look
      [(3, Loc.cells 25 (c24 x0_0 x0_1 x0_2 x0_3 x0_4 x0_5 x0_6 x0_7 x0_8 x0_9 x0_10 x0_11)),
      (5, Loc.cells 68 (c67 x2_0 x2_1 x2_2p x2_2n x2_2c x2_3 x2_4 x2_5 x2_6 x2_7)),
      (6, Loc.cells 25 (c24 0 0 0 0 0 0 0 0 0 0 0 false)),
      (10, Loc.cells 25 (c24 x0_0 x0_1 x0_2 x0_3 x0_4 x0_5 x0_6 x0_7 x0_8 x0_9 x0_10 x0_11))])
     S'.3)
     (fun S' ↦ False) fun j S' ↦
     br (Nat.beq j 0)
     (req
      (Am.isKT (KT.k (Kind.int IntKind.i64)) (S'.1 1) &&
       (Am.isKT (KT.lp 3) (S'.1 3) &&
       (Am.isKT (KT.lp 5) (S'.1 5) &&
        (Am.isKT (KT.lp 6) (S'.1 6) &&
        (Am.isKT (KT.k Kind.bool) (S'.1 8) && (Am.isKT (KT.k Kind.bool) (S'.1 9) && (Am.isKT (KT.lp 10) (S'.1 10) || false)))))) &&
      (Am.isLK 25 k24 (S'.2 3) &&
       (Am.isLK 68 k67 (S'.2 5) && (Am.isLK 25 k24 (S'.2 6) && (Am.isLK 25 k24 (S'.2 10) || false)))))
      (br (!V.getBool (T.val (S'.1 8)) && !V.getBool (T.val (S'.1 9)))
      (K (V.tuple [V.agg (o24 (Am.locCells (S'.2 3))), V.int IntKind.i64 13]) S'.3)
      (br (V.getBool (T.val (S'.1 9)))
       (Am.Rec.call (Am.Run env) 47
       [V.agg
        (c24 (V.getInt (nthV (Am.locCells (S'.2 10)) 0)) (V.getInt (nthV (Am.locCells (S'.2 10)) 1))
         (V.getInt (nthV (Am.locCells (S'.2 10)) 2)) (V.getInt (nthV (Am.locCells (S'.2 10)) 3)) (V.getInt (nthV (Am.locCells (S'.2 10)) 4))
         (V.getInt (nthV (Am.locCells (S'.2 10)) 5)) (V.getInt (nthV (Am.locCells (S'.2 10)) 6)) (V.getInt (nthV (Am.locCells (S'.2 10)) 7))
         (V.getInt (nthV (Am.locCells (S'.2 10)) 8)) (V.getInt (nthV (Am.locCells (S'.2 10)) 9))
         (IntKind.wrap IntKind.u32 (V.getInt (nthV (Am.locCells (S'.2 10)) 10) + 1)) (V.getBool (nthV (Am.locCells (S'.2 10)) 11)))]
       S'.3 fun v H' ↦
       req (V.isAgg v && Am.fits k24 (V.aggCells v))
        (Am.Rec.call (Am.Run env) 46
        [V.agg (o24 (V.aggCells v)), V.int IntKind.i64 (V.getInt (T.val (S'.1 1))),
         V.int IntKind.u8 (V.getInt (nthV (Am.locCells (S'.2 5)) 6))]
        H' fun v H' ↦
        req (V.isAgg v && Am.fits k24 (V.aggCells v))
         (K (V.tuple [V.agg (o24 (V.aggCells v)), V.int IntKind.i64 0]) H')))
       (K
       (V.tuple
        [V.agg
         (c24 (V.getInt (nthV (Am.locCells (S'.2 10)) 0)) (V.getInt (nthV (Am.locCells (S'.2 10)) 1))
         (V.getInt (nthV (Am.locCells (S'.2 10)) 2)) (V.getInt (nthV (Am.locCells (S'.2 10)) 3)) (V.getInt (nthV (Am.locCells (S'.2 10)) 4))
         (V.getInt (nthV (Am.locCells (S'.2 10)) 5)) (V.getInt (nthV (Am.locCells (S'.2 10)) 6)) (V.getInt (nthV (Am.locCells (S'.2 10)) 7))
         (V.getInt (nthV (Am.locCells (S'.2 10)) 8)) (V.getInt (nthV (Am.locCells (S'.2 10)) 9))
         (IntKind.wrap IntKind.u32 (V.getInt (nthV (Am.locCells (S'.2 10)) 10) + 1)) (V.getBool (nthV (Am.locCells (S'.2 10)) 11))),
        V.int IntKind.i64 0])
       S'.3))))
     False))) :=
  fun x0_0 x0_1 x0_2 x0_3 x0_4 x0_5 x0_6 x0_7 x0_8 x0_9 x0_10 x0_11 x1 x2_0 x2_1 x2_2p x2_2n x2_2c x2_3 x2_4 x2_5 x2_6 x2_7 H K => (Run_call (E := env)).trans (by kernel_rfl)

theorem lp48_8 : ∀ (t1 : Int) (t8 t9 : Bool) (t48 t48' t48'' t48''' t48'''' t48''''' t48'''''' t48''''''' t49 l3 l3' l3'' l3''' l3'''' l3''''' l3'''''' l3''''''' l3'''''''' l3''''''''' l3'''''''''' : Int) (l3''''''''''' : Bool)
  (l5 l5' : Int) (l5''_0 : Option (Nat × Nat)) (l5''_1 l5''_2 : Nat) (l5''' : Bool) (l5'''' l5''''' l5'''''' : Int) (l5''''''' : Bool)
  (l6 l6' l6'' l6''' l6'''' l6''''' l6'''''' l6''''''' l6'''''''' l6''''''''' l6'''''''''' : Int) (l6''''''''''' : Bool)
  (l10 l10' l10'' l10''' l10'''' l10''''' l10'''''' l10''''''' l10'''''''' l10''''''''' l10'''''''''' : Int) (l10''''''''''' : Bool) (H : Am.Heap) (Kr : Am.St → Prop) (Ke : Nat → Am.St → Prop),
  Am.Rec.loop (Am.Run env) (Am.loopAt env 48 8) 48 8
   (St.mk
   (Am.look
    [(1, T.v (V.int IntKind.i64 t1)), (3, T.lp 3 0), (5, T.lp 5 0), (6, T.lp 6 0), (8, T.v (V.bool t8)), (9, T.v (V.bool t9)), (10, T.lp 10 0),
    (48, T.v (V.agg (c23 t48 t48' t48'' t48''' t48'''' t48''''' t48'''''' t48'''''''))), (49, T.v (V.int IntKind.i64 t49))])
   (Am.look
    [(3, Loc.cells 25 (c24 l3 l3' l3'' l3''' l3'''' l3''''' l3'''''' l3''''''' l3'''''''' l3''''''''' l3'''''''''' l3''''''''''')),
    (5, Loc.cells 68 (c67 l5 l5' l5''_0 l5''_1 l5''_2 l5''' l5'''' l5''''' l5'''''' l5''''''')),
    (6, Loc.cells 25 (c24 l6 l6' l6'' l6''' l6'''' l6''''' l6'''''' l6''''''' l6'''''''' l6''''''''' l6'''''''''' l6''''''''''')),
    (10, Loc.cells 25 (c24 l10 l10' l10'' l10''' l10'''' l10''''' l10'''''' l10''''''' l10'''''''' l10''''''''' l10'''''''''' l10'''''''''''))])
   H)
   Kr Ke =
  br (decide (t49 < 8))
   (req
   (decide (0 ≤ t49) && decide (t49 < 8) &&
    (Nat.ble (Nat.succ (Int.toNat t49 * 1)) 8 &&
    V.isK (Kind.int IntKind.u32) (nthV (c23 t48 t48' t48'' t48''' t48'''' t48''''' t48'''''' t48''''''') (Int.toNat t49 * 1))))
   (br
    (bif !decide (V.getInt (nthV (c23 t48 t48' t48'' t48''' t48'''' t48''''' t48'''''' t48''''''') (Int.toNat t49 * 1)) = 0) then
    bif !decide (t49 = t1) then
     !decide (V.getInt (nthV (c23 t48 t48' t48'' t48''' t48'''' t48''''' t48'''''' t48''''''') (Int.toNat t49 * 1)) = l5''''') && !decide (l5''''' = 0)
    else true
    else true)
    (Am.Rec.loop (Am.Run env) (Am.loopAt env 48 8) 48 8
    (St.mk
     (Am.look
     [(1, T.v (V.int IntKind.i64 t1)), (3, T.lp 3 0), (5, T.lp 5 0), (6, T.lp 6 0), (8, T.v (V.bool t8)), (9, T.v (V.bool t9)), (10, T.lp 10 0),
      (48, T.v (V.agg (c23 t48 t48' t48'' t48''' t48'''' t48''''' t48'''''' t48'''''''))),
      (49, T.v (V.int IntKind.i64 (IntKind.wrap IntKind.i64 (t49 + 1))))])
     (Am.look
     [(3, Loc.cells 25 (c24 l3 l3' l3'' l3''' l3'''' l3''''' l3'''''' l3''''''' l3'''''''' l3''''''''' l3'''''''''' l3''''''''''')),
      (5, Loc.cells 68 (c67 l5 l5' l5''_0 l5''_1 l5''_2 l5''' l5'''' l5''''' l5'''''' l5''''''')),
      (6, Loc.cells 25 (c24 l6 l6' l6'' l6''' l6'''' l6''''' l6'''''' l6''''''' l6'''''''' l6''''''''' l6'''''''''' l6''''''''''')),
      (10, Loc.cells 25 (c24 l10 l10' l10'' l10''' l10'''' l10''''' l10'''''' l10''''''' l10'''''''' l10''''''''' l10'''''''''' l10'''''''''''))])
     H)
    Kr Ke)
    (req (decide (0 ≤ t49) && decide (t49 < 8))
    (req
     (Nat.ble (0 + Int.toNat t49 * 1 + 1) 12 &&
     (V.isK (Kind.int IntKind.u8) (Am.condV (Nat.beq 8 (0 + Int.toNat t49 * 1)) (V.int IntKind.u32 0) (V.int IntKind.u8 l10'''''''')) &&
      (V.isK (Kind.int IntKind.i64) (Am.condV (Nat.beq 9 (0 + Int.toNat t49 * 1)) (V.int IntKind.u32 0) (V.int IntKind.i64 l10''''''''')) &&
      (V.isK Kind.bool (Am.condV (Nat.beq 11 (0 + Int.toNat t49 * 1)) (V.int IntKind.u32 0) (V.bool l10''''''''''')) && true))))
     (Am.Rec.loop (Am.Run env) (Am.loopAt env 48 8) 48 8
     (St.mk
      (Am.look
      [(1, T.v (V.int IntKind.i64 t1)), (3, T.lp 3 0), (5, T.lp 5 0), (6, T.lp 6 0), (8, T.v (V.bool true)),
       (9, T.v (V.bool (bif !t9 then decide (l3''''''''' = t49) else true))), (10, T.lp 10 0),
       (48, T.v (V.agg (c23 t48 t48' t48'' t48''' t48'''' t48''''' t48'''''' t48'''''''))),
       (49, T.v (V.int IntKind.i64 (IntKind.wrap IntKind.i64 (t49 + 1))))])
      (Am.look
      [(3, Loc.cells 25 (c24 l3 l3' l3'' l3''' l3'''' l3''''' l3'''''' l3''''''' l3'''''''' l3''''''''' l3'''''''''' l3''''''''''')),
       (5, Loc.cells 68 (c67 l5 l5' l5''_0 l5''_1 l5''_2 l5''' l5'''' l5''''' l5'''''' l5''''''')),
       (6, Loc.cells 25 (c24 l6 l6' l6'' l6''' l6'''' l6''''' l6'''''' l6''''''' l6'''''''' l6''''''''' l6'''''''''' l6''''''''''')),
       (10,
       Loc.cells 25
        (c24 (bif Nat.beq 0 (0 + Int.toNat t49 * 1) then 0 else l10) (bif Nat.beq 1 (0 + Int.toNat t49 * 1) then 0 else l10')
        (bif Nat.beq 2 (0 + Int.toNat t49 * 1) then 0 else l10'') (bif Nat.beq 3 (0 + Int.toNat t49 * 1) then 0 else l10''') (bif Nat.beq 4 (0 + Int.toNat t49 * 1) then 0 else l10'''')
        (bif Nat.beq 5 (0 + Int.toNat t49 * 1) then 0 else l10''''') (bif Nat.beq 6 (0 + Int.toNat t49 * 1) then 0 else l10'''''') (bif Nat.beq 7 (0 + Int.toNat t49 * 1) then 0 else l10''''''')
        (V.getInt (Am.condV (Nat.beq 8 (0 + Int.toNat t49 * 1)) (V.int IntKind.u32 0) (V.int IntKind.u8 l10'''''''')))
        (V.getInt (Am.condV (Nat.beq 9 (0 + Int.toNat t49 * 1)) (V.int IntKind.u32 0) (V.int IntKind.i64 l10''''''''')))
        (bif Nat.beq 10 (0 + Int.toNat t49 * 1) then 0 else l10'''''''''')
        (V.getBool (Am.condV (Nat.beq 11 (0 + Int.toNat t49 * 1)) (V.int IntKind.u32 0) (V.bool l10''''''''''')))))])
      H)
     Kr Ke)))))
   (Ke 0
   (St.mk
    (Am.look
    [(1, T.v (V.int IntKind.i64 t1)), (3, T.lp 3 0), (5, T.lp 5 0), (6, T.lp 6 0), (8, T.v (V.bool t8)), (9, T.v (V.bool t9)), (10, T.lp 10 0)])
    (Am.look
    [(3, Loc.cells 25 (c24 l3 l3' l3'' l3''' l3'''' l3''''' l3'''''' l3''''''' l3'''''''' l3''''''''' l3'''''''''' l3''''''''''')),
     (5, Loc.cells 68 (c67 l5 l5' l5''_0 l5''_1 l5''_2 l5''' l5'''' l5''''' l5'''''' l5''''''')),
     (6, Loc.cells 25 (c24 l6 l6' l6'' l6''' l6'''' l6''''' l6'''''' l6''''''' l6'''''''' l6''''''''' l6'''''''''' l6''''''''''')),
     (10, Loc.cells 25 (c24 l10 l10' l10'' l10''' l10'''' l10''''' l10'''''' l10''''''' l10'''''''' l10''''''''' l10'''''''''' l10'''''''''''))])
    H)) :=
  fun t1 t8 t9 t48 t48' t48'' t48''' t48'''' t48''''' t48'''''' t48''''''' t49 l3 l3' l3'' l3''' l3'''' l3''''' l3'''''' l3''''''' l3'''''''' l3''''''''' l3'''''''''' l3''''''''''' l5 l5' l5''_0 l5''_1 l5''_2 l5''' l5'''' l5''''' l5'''''' l5''''''' l6 l6' l6'' l6''' l6'''' l6''''' l6'''''' l6''''''' l6'''''''' l6''''''''' l6'''''''''' l6''''''''''' l10 l10' l10'' l10''' l10'''' l10''''' l10'''''' l10''''''' l10'''''''' l10''''''''' l10'''''''''' l10''''''''''' H Kr Ke => (Run_loop (E := env)).trans (by kernel_rfl)

theorem eq49 : ∀ (H : Am.Heap) (K : Am.V → Am.Heap → Prop), Am.Rec.call (Am.Run env) 49 [] H K = K (V.agg (c85 1 3 5 6 7 8)) H :=
  fun H K => (Run_call (E := env)).trans (by kernel_rfl)

theorem eq54 : ∀ (x0p : Option (Nat × Nat)) (x0n x0c : Nat) (H : Am.Heap) (K : Am.V → Am.Heap → Prop),
  Am.Rec.call (Am.Run env) 54 [V.slice x0p x0n x0c] H K =
  Am.Rec.loop (Am.Run env) (Am.loopAt env 54 3) 54 3
   (St.mk
   (Am.look [(3, T.v (V.int IntKind.u64 0)), (6, T.v (V.slice x0p x0n x0c)), (7, T.v (V.int IntKind.i64 (↑x0n : Int))), (8, T.v (V.int IntKind.i64 0))])
   (Am.look []) H)
   (fun S' ↦ False) fun j S' ↦
   br (Nat.beq j 0) (req (Am.isKT (KT.k (Kind.int IntKind.u64)) (S'.1 3) || false || false) (K (V.int IntKind.u64 (V.getInt (T.val (S'.1 3)))) S'.3)) False :=
  fun x0p x0n x0c H K => (Run_call (E := env)).trans (by kernel_rfl)

theorem lp54_3 : ∀ (t3 : Int) (t6_0 : Option (Nat × Nat)) (t6_1 t6_2 : Nat) (t7 t8 : Int) (H : Am.Heap) (Kr : Am.St → Prop) (Ke : Nat → Am.St → Prop),
  Am.Rec.loop (Am.Run env) (Am.loopAt env 54 3) 54 3
   (St.mk
   (Am.look [(3, T.v (V.int IntKind.u64 t3)), (6, T.v (V.slice t6_0 t6_1 t6_2)), (7, T.v (V.int IntKind.i64 t7)), (8, T.v (V.int IntKind.i64 t8))])
   (Am.look []) H)
   Kr Ke =
  br (decide (t8 < t7))
   (req (decide (0 ≤ t8) && decide (t8 < (↑t6_1 : Int)) && Option.isSome t6_0)
   (req
    (Am.Heap.inb H (Option.getD t6_0 (0, 0)).1 ((Option.getD t6_0 (0, 0)).2 + Int.toNat t8 * 1) 1 &&
    V.isK (Kind.int IntKind.u8) (Am.Heap.cell H (Option.getD t6_0 (0, 0)).1 ((Option.getD t6_0 (0, 0)).2 + Int.toNat t8 * 1)))
    (req (decide (0 ≤ IntKind.wrap IntKind.i64 (8 * t8)))
    (Am.Rec.loop (Am.Run env) (Am.loopAt env 54 3) 54 3
     (St.mk
     (Am.look
      [(3,
       T.v
       (V.int IntKind.u64
        (IntKind.wrap IntKind.u64
        (↑(BitVec.toNat
          (BitVec.ofInt 64 t3 |||
          BitVec.ofInt 64
           (IntKind.wrap IntKind.u64
           (IntKind.wrap IntKind.u64 (V.getInt (Am.Heap.cell H (Option.getD t6_0 (0, 0)).1 ((Option.getD t6_0 (0, 0)).2 + Int.toNat t8 * 1))) *
            2 ^ Am.shiftBy (IntKind.wrap IntKind.i64 (8 * t8)) 64)))) :
         Int)))),
      (6, T.v (V.slice t6_0 t6_1 t6_2)), (7, T.v (V.int IntKind.i64 t7)), (8, T.v (V.int IntKind.i64 (IntKind.wrap IntKind.i64 (t8 + 1))))])
     (Am.look []) H)
     Kr Ke))))
   (Ke 0 (St.mk (Am.look [(3, T.v (V.int IntKind.u64 t3))]) (Am.look []) H)) :=
  fun t3 t6_0 t6_1 t6_2 t7 t8 H Kr Ke => (Run_loop (E := env)).trans (by kernel_rfl)

theorem eq55 : ∀ (x0 : Option (Nat × Nat)) (x1 : Int) (H : Am.Heap) (K : Am.V → Am.Heap → Prop),
  Am.Rec.call (Am.Run env) 55 [V.ptr x0, V.int IntKind.i64 x1] H K =
  req (Option.isSome x0)
   (req (Am.Heap.inb H (Option.getD x0 (0, 0)).1 ((Option.getD x0 (0, 0)).2 + 1) 1 && V.isK Kind.bool (Am.Heap.cell H (Option.getD x0 (0, 0)).1 ((Option.getD x0 (0, 0)).2 + 1)))
   (req
    (Am.mergeR (!V.getBool (Am.Heap.cell H (Option.getD x0 (0, 0)).1 ((Option.getD x0 (0, 0)).2 + 1)))
    (Option.isSome x0 && true &&
     (Am.Heap.inb H (Option.getD x0 (0, 0)).1 (Option.getD x0 (0, 0)).2 1 && V.isK Kind.slice (Am.Heap.cell H (Option.getD x0 (0, 0)).1 (Option.getD x0 (0, 0)).2) && true && true))
    true)
    (br
    (bif !V.getBool (Am.Heap.cell H (Option.getD x0 (0, 0)).1 ((Option.getD x0 (0, 0)).2 + 1)) then
     decide (x1 > (↑(V.slLen (Am.Heap.cell H (Option.getD x0 (0, 0)).1 (Option.getD x0 (0, 0)).2)) : Int))
    else true)
    (req (Option.isSome x0)
     (req (Am.Heap.wr H (Option.getD x0 (0, 0)).1 ((Option.getD x0 (0, 0)).2 + 1) 1)
     (K (V.slice Option.none 0 0) (Am.Heap.store H (Option.getD x0 (0, 0)).1 ((Option.getD x0 (0, 0)).2 + 1) [V.bool true]))))
    (req (Option.isSome x0)
     (req (Am.Heap.inb H (Option.getD x0 (0, 0)).1 (Option.getD x0 (0, 0)).2 1 && V.isK Kind.slice (Am.Heap.cell H (Option.getD x0 (0, 0)).1 (Option.getD x0 (0, 0)).2))
     (req
      ((decide (0 ≤ x1) && decide (x1 ≤ (↑(V.slCap (Am.Heap.cell H (Option.getD x0 (0, 0)).1 (Option.getD x0 (0, 0)).2)) : Int)) &&
       (decide (0 ≤ x1) && decide (x1 ≤ (↑(Int.toNat x1) : Int))) ||
       false) &&
      Nat.ble (Int.toNat x1) (Int.toNat x1))
      (req (Option.isSome x0)
      (req (Am.Heap.inb H (Option.getD x0 (0, 0)).1 (Option.getD x0 (0, 0)).2 1 && V.isK Kind.slice (Am.Heap.cell H (Option.getD x0 (0, 0)).1 (Option.getD x0 (0, 0)).2))
       (req
       (decide (0 ≤ x1) && decide (x1 ≤ (↑(V.slLen (Am.Heap.cell H (Option.getD x0 (0, 0)).1 (Option.getD x0 (0, 0)).2)) : Int)) &&
        Nat.ble (V.slLen (Am.Heap.cell H (Option.getD x0 (0, 0)).1 (Option.getD x0 (0, 0)).2)) (V.slCap (Am.Heap.cell H (Option.getD x0 (0, 0)).1 (Option.getD x0 (0, 0)).2)))
       (req (Option.isSome x0)
        (req (Am.Heap.wr H (Option.getD x0 (0, 0)).1 (Option.getD x0 (0, 0)).2 1)
        (K (V.slice (Am.ptrAdd (V.slPtr (Am.Heap.cell H (Option.getD x0 (0, 0)).1 (Option.getD x0 (0, 0)).2)) 0) (Int.toNat x1 - 0) (Int.toNat x1 - 0))
         (Am.Heap.store H (Option.getD x0 (0, 0)).1 (Option.getD x0 (0, 0)).2
         [V.slice (Am.ptrAdd (V.slPtr (Am.Heap.cell H (Option.getD x0 (0, 0)).1 (Option.getD x0 (0, 0)).2)) (Int.toNat x1 * 1))
          (V.slLen (Am.Heap.cell H (Option.getD x0 (0, 0)).1 (Option.getD x0 (0, 0)).2) - Int.toNat x1)
          (V.slCap (Am.Heap.cell H (Option.getD x0 (0, 0)).1 (Option.getD x0 (0, 0)).2) - Int.toNat x1)]))))))))))))) :=
  fun x0 x1 H K => (Run_call (E := env)).trans (by kernel_rfl)

theorem eq56 : ∀ (x0_0 x0_1 x0_2 x0_3 x0_4 x0_5 x0_6 x0_7 x0_8 x0_9 x0_10 : Int) (x0_11 : Bool) (x1 : Int) (H : Am.Heap) (K : Am.V → Am.Heap → Prop),
  Am.Rec.call (Am.Run env) 56 [V.agg (c24 x0_0 x0_1 x0_2 x0_3 x0_4 x0_5 x0_6 x0_7 x0_8 x0_9 x0_10 x0_11), V.int IntKind.i64 x1] H K =
  req (decide (0 ≤ x1) && decide (x1 < 8))
   (req
   (Nat.ble (0 + Int.toNat x1 * 1 + 1) 12 &&
    (V.isK (Kind.int IntKind.u8) (Am.condV (Nat.beq 8 (0 + Int.toNat x1 * 1)) (V.int IntKind.u32 0) (V.int IntKind.u8 x0_8)) &&
    (V.isK (Kind.int IntKind.i64) (Am.condV (Nat.beq 9 (0 + Int.toNat x1 * 1)) (V.int IntKind.u32 0) (V.int IntKind.i64 x0_9)) &&
     (V.isK Kind.bool (Am.condV (Nat.beq 11 (0 + Int.toNat x1 * 1)) (V.int IntKind.u32 0) (V.bool x0_11)) && true))))
   (br
    (bif !decide (V.getInt (Am.condV (Nat.beq 9 (0 + Int.toNat x1 * 1)) (V.int IntKind.u32 0) (V.int IntKind.i64 x0_9)) = x1) then
    Am.cellsEq
     (c23 (bif Nat.beq 0 (0 + Int.toNat x1 * 1) then 0 else x0_0) (bif Nat.beq 1 (0 + Int.toNat x1 * 1) then 0 else x0_1) (bif Nat.beq 2 (0 + Int.toNat x1 * 1) then 0 else x0_2)
     (bif Nat.beq 3 (0 + Int.toNat x1 * 1) then 0 else x0_3) (bif Nat.beq 4 (0 + Int.toNat x1 * 1) then 0 else x0_4) (bif Nat.beq 5 (0 + Int.toNat x1 * 1) then 0 else x0_5)
     (bif Nat.beq 6 (0 + Int.toNat x1 * 1) then 0 else x0_6) (bif Nat.beq 7 (0 + Int.toNat x1 * 1) then 0 else x0_7))
     (c23 0 0 0 0 0 0 0 0)
    else true)
    (Am.Rec.call (Am.Run env) 47
    [V.agg
     (c24 (bif Nat.beq 0 (0 + Int.toNat x1 * 1) then 0 else x0_0) (bif Nat.beq 1 (0 + Int.toNat x1 * 1) then 0 else x0_1) (bif Nat.beq 2 (0 + Int.toNat x1 * 1) then 0 else x0_2)
      (bif Nat.beq 3 (0 + Int.toNat x1 * 1) then 0 else x0_3) (bif Nat.beq 4 (0 + Int.toNat x1 * 1) then 0 else x0_4) (bif Nat.beq 5 (0 + Int.toNat x1 * 1) then 0 else x0_5)
      (bif Nat.beq 6 (0 + Int.toNat x1 * 1) then 0 else x0_6) (bif Nat.beq 7 (0 + Int.toNat x1 * 1) then 0 else x0_7)
      (V.getInt (Am.condV (Nat.beq 8 (0 + Int.toNat x1 * 1)) (V.int IntKind.u32 0) (V.int IntKind.u8 x0_8)))
      (V.getInt (Am.condV (Nat.beq 9 (0 + Int.toNat x1 * 1)) (V.int IntKind.u32 0) (V.int IntKind.i64 x0_9))) (bif Nat.beq 10 (0 + Int.toNat x1 * 1) then 0 else x0_10)
      (V.getBool (Am.condV (Nat.beq 11 (0 + Int.toNat x1 * 1)) (V.int IntKind.u32 0) (V.bool x0_11))))]
    H fun v H' ↦ req (V.isAgg v && Am.fits k24 (V.aggCells v)) (K (V.agg (o24 (V.aggCells v))) H'))
    (K
    (V.agg
     (c24 (bif Nat.beq 0 (0 + Int.toNat x1 * 1) then 0 else x0_0) (bif Nat.beq 1 (0 + Int.toNat x1 * 1) then 0 else x0_1) (bif Nat.beq 2 (0 + Int.toNat x1 * 1) then 0 else x0_2)
     (bif Nat.beq 3 (0 + Int.toNat x1 * 1) then 0 else x0_3) (bif Nat.beq 4 (0 + Int.toNat x1 * 1) then 0 else x0_4) (bif Nat.beq 5 (0 + Int.toNat x1 * 1) then 0 else x0_5)
     (bif Nat.beq 6 (0 + Int.toNat x1 * 1) then 0 else x0_6) (bif Nat.beq 7 (0 + Int.toNat x1 * 1) then 0 else x0_7)
     (V.getInt (Am.condV (Nat.beq 8 (0 + Int.toNat x1 * 1)) (V.int IntKind.u32 0) (V.int IntKind.u8 x0_8)))
     (V.getInt (Am.condV (Nat.beq 9 (0 + Int.toNat x1 * 1)) (V.int IntKind.u32 0) (V.int IntKind.i64 x0_9))) (bif Nat.beq 10 (0 + Int.toNat x1 * 1) then 0 else x0_10)
     (V.getBool (Am.condV (Nat.beq 11 (0 + Int.toNat x1 * 1)) (V.int IntKind.u32 0) (V.bool x0_11)))))
    H))) :=
  fun x0_0 x0_1 x0_2 x0_3 x0_4 x0_5 x0_6 x0_7 x0_8 x0_9 x0_10 x0_11 x1 H K => (Run_call (E := env)).trans (by kernel_rfl)

theorem eq57 : ∀ (x0 : Int) (H : Am.Heap) (K : Am.V → Am.Heap → Prop),
  Am.Rec.call (Am.Run env) 57 [V.int IntKind.u8 x0] H K = K (V.bool (bif !decide (x0 = 7) then decide (x0 = 8) else true)) H :=
  fun x0 H K => (Run_call (E := env)).trans (by kernel_rfl)

end Go.Proofs.Ytpodpakpgolipaa
