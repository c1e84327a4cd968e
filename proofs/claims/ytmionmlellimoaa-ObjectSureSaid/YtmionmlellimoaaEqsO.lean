/- The equations of the calls and of the loops' rounds; the kernel looks at each. Written by a program (wip/am/Walk.lean). -/
import Derived.Test.YtmionmlellimoaaAmEnv
import Derived.Test.YtmionmlellimoaaAmSep
namespace Go.Proofs.Ytmionmlellimoaa
open Go.Am
set_option maxRecDepth 100000
set_option linter.unusedVariables false

theorem eq9 : ∀ (H : Am.Heap) (K : Am.V → Am.Heap → Prop),
  Am.Rec.call (Am.Run env) 9 [] H K =
  Am.Rec.call (Am.Run env) 10 [V.int IntKind.i64 4] H fun v H' ↦
   req (V.isTuple 2 v && (V.isK Kind.ptr (nthV (V.vals v) 0) && (V.isK (Kind.int IntKind.i64) (nthV (V.vals v) 1) || false)))
   (Am.joinP
    (fun Q ↦
    br (!!decide (V.getInt (nthV (V.vals v) 1) = 0))
     (req (Am.Heap.wr (Am.Heap.alloc H' (Am.Obj.cells 5 [V.int IntKind.u8 97] false)) H'.2 0 0)
     (Am.Rec.call (Am.Run env) 13
      [V.ptr (V.getPtr (nthV (V.vals v) 0)), V.int IntKind.i64 0, V.agg (c32 1 0 (Option.some (H'.2, 0)) 1 1 true 0 0 0 false)]
      (Am.Heap.alloc H' (Am.Obj.cells 5 [V.int IntKind.u8 97] false)) fun v_1 H' ↦
      req (V.isAgg v_1 && Am.fits k40 (V.aggCells v_1))
      (br (!!decide (V.getInt (nthV (V.aggCells v_1) 0) = 0))
       (req (Am.Heap.wr (Am.Heap.alloc H' (Am.Obj.cells 5 [V.int IntKind.u8 98] false)) H'.2 0 0)
       (Am.Rec.call (Am.Run env) 13
        [V.ptr (V.getPtr (nthV (V.vals v) 0)), V.int IntKind.i64 0,
        V.agg (c32 1 0 (Option.some (H'.2, 0)) 1 1 false 0 0 0 false)]
        (Am.Heap.alloc H' (Am.Obj.cells 5 [V.int IntKind.u8 98] false)) fun v H' ↦
        req (V.isAgg v && Am.fits k40 (V.aggCells v))
        (Q (St.mk (Am.look [(27, T.v (V.bool !decide (V.getInt (nthV (V.aggCells v) 0) = 0)))]) (Am.look []) H'))))
       (Q (St.mk (Am.look [(27, T.v (V.bool true))]) (Am.look []) H')))))
     (Q (St.mk (Am.look [(27, T.v (V.bool true))]) (Am.look []) H')))
    fun S' ↦
    req (Am.isKT (KT.k Kind.bool) (S'.1 27) || false || false)
    (br (V.getBool (T.val (S'.1 27))) (K (V.bool false) S'.3)
     (Am.Rec.call (Am.Run env) 14 [V.ptr (V.getPtr (nthV (V.vals v) 0)), V.int IntKind.i64 0] S'.3 fun v_1 H' ↦
     req (V.isK Kind.slice v_1)
      (req (Am.strOk H' (V.slPtr v_1) (V.slLen v_1))
      (Am.Rec.call (Am.Run env) 20 [V.ptr (V.getPtr (nthV (V.vals v) 0)), V.bool false] H' fun v_2 H'_1 ↦
       br (Am.strEq (Am.strAt H' (V.slPtr v_1) (V.slLen v_1)) (Am.strOf [98]))
       (Am.Rec.call (Am.Run env) 13
        [V.ptr (V.getPtr (nthV (V.vals v) 0)), V.int IntKind.i64 1, V.agg (c32 0 0 Option.none 0 0 false 0 0 0 false)] H'_1
        fun v H' ↦
        req (V.isAgg v && Am.fits k40 (V.aggCells v))
        (req (Am.strOk H' (V.slPtr (nthV (V.aggCells v) 1)) (V.slLen (nthV (V.aggCells v) 1)))
         (K
         (V.bool
          (Am.strEq (Am.strAt H' (V.slPtr (nthV (V.aggCells v) 1)) (V.slLen (nthV (V.aggCells v) 1)))
          (Am.strOf [97])))
         H')))
       (K (V.bool false) H'_1)))))) :=
  fun H K => (Run_call (E := env)).trans (by kernel_rfl)

theorem eq10 : ∀ (x0 : Int) (H : Am.Heap) (K : Am.V → Am.Heap → Prop),
  Am.Rec.call (Am.Run env) 10 [V.int IntKind.i64 x0] H K =
  br (bif !decide (x0 < 1) then decide (x0 > 65536) else true) (K (V.tuple [V.ptr Option.none, V.int IntKind.i64 1]) H)
   (Am.joinP
   (fun Q ↦
    req (decide (0 ≤ x0) && (decide (x0 ≤ x0) && decide (x0 * 25 ≤ 70368744177664)))
     ((Am.Rec.call (Am.Run env) 26 []
      (Am.Heap.alloc (Am.Heap.alloc H (Am.Obj.cells 23 (Am.rowV (Int.toNat x0) [V.slice Option.none 0 0]) false)) (Am.Obj.cells 67 [V.slice Option.none 0 0] false))
      fun v H' ↦
      req (V.isAgg v && Am.fits k37 (V.aggCells v))
      (Q
       (St.mk (Am.look [(2, T.v (V.ptr (Option.some (H'.2, 0)))), (3, T.v (V.int IntKind.i64 0))]) (Am.look [])
       (Am.Heap.alloc H'
        (Am.Obj.cells 69
        (c68 (Option.some (H.2, 0)) (Int.toNat x0) (Int.toNat x0)
         (Option.some ((Am.Heap.alloc H (Am.Obj.cells 23 (Am.rowV (Int.toNat x0) [V.slice Option.none 0 0]) false)).2, 0)) (V.getInt (nthV (V.aggCells v) 0))
         (V.getInt (nthV (V.aggCells v) 1)) (V.getInt (nthV (V.aggCells v) 2)) (V.getInt (nthV (V.aggCells v) 3))
         (V.getInt (nthV (V.aggCells v) 4)) (V.getInt (nthV (V.aggCells v) 5)) (V.getInt (nthV (V.aggCells v) 6))
         (V.getInt (nthV (V.aggCells v) 7)) (V.getInt (nthV (V.aggCells v) 8)) (V.getInt (nthV (V.aggCells v) 9))
         (V.getInt (nthV (V.aggCells v) 10)) (V.getBool (nthV (V.aggCells v) 11)))
        false))))) ∧
     Am.Rec.call (Am.Run env) 26 [] (Am.Heap.alloc H (Am.Obj.cells 23 (Am.rowV (Int.toNat x0) [V.slice Option.none 0 0]) false)) fun v H' ↦
      req (V.isAgg v && Am.fits k37 (V.aggCells v))
      (Q
       (St.mk
       (Am.look
        [(2, T.v (V.ptr (Option.some ((Am.Heap.alloc H' (Am.Obj.cells 67 [V.slice Option.none 0 0] false)).2, 0)))), (3, T.v (V.int IntKind.i64 0))])
       (Am.look [])
       (Am.Heap.alloc (Am.Heap.alloc H' (Am.Obj.cells 67 [V.slice Option.none 0 0] false))
        (Am.Obj.cells 69
        (c68 (Option.some (H.2, 0)) (Int.toNat x0) (Int.toNat x0) (Option.some (H'.2, 0)) (V.getInt (nthV (V.aggCells v) 0))
         (V.getInt (nthV (V.aggCells v) 1)) (V.getInt (nthV (V.aggCells v) 2)) (V.getInt (nthV (V.aggCells v) 3))
         (V.getInt (nthV (V.aggCells v) 4)) (V.getInt (nthV (V.aggCells v) 5)) (V.getInt (nthV (V.aggCells v) 6))
         (V.getInt (nthV (V.aggCells v) 7)) (V.getInt (nthV (V.aggCells v) 8)) (V.getInt (nthV (V.aggCells v) 9))
         (V.getInt (nthV (V.aggCells v) 10)) (V.getBool (nthV (V.aggCells v) 11)))
        false))))) ∧
    (req (decide (0 ≤ x0) && (decide (x0 ≤ x0) && decide (x0 * 25 ≤ 70368744177664)))
      (Am.Rec.call (Am.Run env) 26 []
      (Am.Heap.alloc (Am.Heap.alloc H (Am.Obj.cells 67 [V.slice Option.none 0 0] false)) (Am.Obj.cells 23 (Am.rowV (Int.toNat x0) [V.slice Option.none 0 0]) false))
      fun v H' ↦
      req (V.isAgg v && Am.fits k37 (V.aggCells v))
       (Q
       (St.mk (Am.look [(2, T.v (V.ptr (Option.some (H'.2, 0)))), (3, T.v (V.int IntKind.i64 0))]) (Am.look [])
        (Am.Heap.alloc H'
        (Am.Obj.cells 69
         (c68 (Option.some ((Am.Heap.alloc H (Am.Obj.cells 67 [V.slice Option.none 0 0] false)).2, 0)) (Int.toNat x0) (Int.toNat x0) (Option.some (H.2, 0))
         (V.getInt (nthV (V.aggCells v) 0)) (V.getInt (nthV (V.aggCells v) 1)) (V.getInt (nthV (V.aggCells v) 2))
         (V.getInt (nthV (V.aggCells v) 3)) (V.getInt (nthV (V.aggCells v) 4)) (V.getInt (nthV (V.aggCells v) 5))
         (V.getInt (nthV (V.aggCells v) 6)) (V.getInt (nthV (V.aggCells v) 7)) (V.getInt (nthV (V.aggCells v) 8))
         (V.getInt (nthV (V.aggCells v) 9)) (V.getInt (nthV (V.aggCells v) 10)) (V.getBool (nthV (V.aggCells v) 11)))
         false))))) ∧
     Am.Rec.call (Am.Run env) 26 [] (Am.Heap.alloc H (Am.Obj.cells 67 [V.slice Option.none 0 0] false)) fun v H' ↦
      req (V.isAgg v && Am.fits k37 (V.aggCells v))
      (req (decide (0 ≤ x0) && (decide (x0 ≤ x0) && decide (x0 * 25 ≤ 70368744177664)))
       (Q
       (St.mk
        (Am.look
        [(2, T.v (V.ptr (Option.some ((Am.Heap.alloc H' (Am.Obj.cells 23 (Am.rowV (Int.toNat x0) [V.slice Option.none 0 0]) false)).2, 0)))),
         (3, T.v (V.int IntKind.i64 0))])
        (Am.look [])
        (Am.Heap.alloc (Am.Heap.alloc H' (Am.Obj.cells 23 (Am.rowV (Int.toNat x0) [V.slice Option.none 0 0]) false))
        (Am.Obj.cells 69
         (c68 (Option.some (H'.2, 0)) (Int.toNat x0) (Int.toNat x0) (Option.some (H.2, 0)) (V.getInt (nthV (V.aggCells v) 0))
         (V.getInt (nthV (V.aggCells v) 1)) (V.getInt (nthV (V.aggCells v) 2)) (V.getInt (nthV (V.aggCells v) 3))
         (V.getInt (nthV (V.aggCells v) 4)) (V.getInt (nthV (V.aggCells v) 5)) (V.getInt (nthV (V.aggCells v) 6))
         (V.getInt (nthV (V.aggCells v) 7)) (V.getInt (nthV (V.aggCells v) 8)) (V.getInt (nthV (V.aggCells v) 9))
         (V.getInt (nthV (V.aggCells v) 10)) (V.getBool (nthV (V.aggCells v) 11)))
         false)))))) ∧
     Am.Rec.call (Am.Run env) 26 [] H fun v H' ↦
     req (V.isAgg v && Am.fits k37 (V.aggCells v))
      (req (decide (0 ≤ x0) && (decide (x0 ≤ x0) && decide (x0 * 25 ≤ 70368744177664)))
       (Q
       (St.mk
        (Am.look
        [(2,
         T.v
          (V.ptr
          (Option.some
           ((Am.Heap.alloc (Am.Heap.alloc H' (Am.Obj.cells 23 (Am.rowV (Int.toNat x0) [V.slice Option.none 0 0]) false))
            (Am.Obj.cells 67 [V.slice Option.none 0 0] false)).2,
           0)))),
         (3, T.v (V.int IntKind.i64 0))])
        (Am.look [])
        (Am.Heap.alloc
        (Am.Heap.alloc (Am.Heap.alloc H' (Am.Obj.cells 23 (Am.rowV (Int.toNat x0) [V.slice Option.none 0 0]) false))
         (Am.Obj.cells 67 [V.slice Option.none 0 0] false))
        (Am.Obj.cells 69
         (c68 (Option.some (H'.2, 0)) (Int.toNat x0) (Int.toNat x0)
         (Option.some ((Am.Heap.alloc H' (Am.Obj.cells 23 (Am.rowV (Int.toNat x0) [V.slice Option.none 0 0]) false)).2, 0)) (V.getInt (nthV (V.aggCells v) 0))
         (V.getInt (nthV (V.aggCells v) 1)) (V.getInt (nthV (V.aggCells v) 2)) (V.getInt (nthV (V.aggCells v) 3))
         (V.getInt (nthV (V.aggCells v) 4)) (V.getInt (nthV (V.aggCells v) 5)) (V.getInt (nthV (V.aggCells v) 6))
         (V.getInt (nthV (V.aggCells v) 7)) (V.getInt (nthV (V.aggCells v) 8)) (V.getInt (nthV (V.aggCells v) 9))
         (V.getInt (nthV (V.aggCells v) 10)) (V.getBool (nthV (V.aggCells v) 11)))
         false)))) ∧
      req (decide (0 ≤ x0) && (decide (x0 ≤ x0) && decide (x0 * 25 ≤ 70368744177664)))
       (Q
       (St.mk
        (Am.look
        [(2,
         T.v
          (V.ptr
          (Option.some
           ((Am.Heap.alloc (Am.Heap.alloc H' (Am.Obj.cells 67 [V.slice Option.none 0 0] false))
            (Am.Obj.cells 23 (Am.rowV (Int.toNat x0) [V.slice Option.none 0 0]) false)).2,
           0)))),
         (3, T.v (V.int IntKind.i64 0))])
        (Am.look [])
        (Am.Heap.alloc
        (Am.Heap.alloc (Am.Heap.alloc H' (Am.Obj.cells 67 [V.slice Option.none 0 0] false))
         (Am.Obj.cells 23 (Am.rowV (Int.toNat x0) [V.slice Option.none 0 0]) false))
        (Am.Obj.cells 69
         (c68 (Option.some ((Am.Heap.alloc H' (Am.Obj.cells 67 [V.slice Option.none 0 0] false)).2, 0)) (Int.toNat x0) (Int.toNat x0)
         (Option.some (H'.2, 0)) (V.getInt (nthV (V.aggCells v) 0)) (V.getInt (nthV (V.aggCells v) 1)) (V.getInt (nthV (V.aggCells v) 2))
         (V.getInt (nthV (V.aggCells v) 3)) (V.getInt (nthV (V.aggCells v) 4)) (V.getInt (nthV (V.aggCells v) 5))
         (V.getInt (nthV (V.aggCells v) 6)) (V.getInt (nthV (V.aggCells v) 7)) (V.getInt (nthV (V.aggCells v) 8))
         (V.getInt (nthV (V.aggCells v) 9)) (V.getInt (nthV (V.aggCells v) 10)) (V.getBool (nthV (V.aggCells v) 11)))
         false))))))
   fun S' ↦
   req (Am.isKT (KT.k Kind.ptr) (S'.1 2) && (Am.isKT (KT.k (Kind.int IntKind.i64)) (S'.1 3) || false) || false)
    (K (V.tuple [V.ptr (V.getPtr (T.val (S'.1 2))), V.int IntKind.i64 (V.getInt (T.val (S'.1 3)))]) S'.3)) :=
  fun x0 H K => (Run_call (E := env)).trans (by kernel_rfl)

theorem eq11 : ∀ (x0_0 x0_1 x0_2 x0_3 x0_4 x0_5 : Int) (x0_6 x0_7 : Bool) (x0_8p : Option (Nat × Nat)) (x0_8n x0_8c : Nat) (x1_0 x1_1 x1_2 x1_3 x1_4 x1_5 x1_6 x1_7 x1_8 x1_9 x1_10 : Int) (x1_11 : Bool) (x2 : Int) (H : Am.Heap)
  (K : Am.V → Am.Heap → Prop),
  Am.Rec.call (Am.Run env) 11
   [V.agg (c24 x0_0 x0_1 x0_2 x0_3 x0_4 x0_5 x0_6 x0_7 x0_8p x0_8n x0_8c), V.agg (c37 x1_0 x1_1 x1_2 x1_3 x1_4 x1_5 x1_6 x1_7 x1_8 x1_9 x1_10 x1_11),
   V.int IntKind.i64 x2]
   H K =
  req (decide (0 ≤ Int.tmod x0_1 14) && decide (Int.tmod x0_1 14 < 14) || false)
   (req
   (Am.Heap.inb
    (Am.Heap.alloc (Am.Heap.alloc H (Am.Obj.cells 5 (c100 1 3 5 6 7 8) false))
     (Am.Obj.cells 5
     (V.int IntKind.u8 0 ::
      V.int IntKind.u8 0 ::
      V.int IntKind.u8 1 ::
       V.int IntKind.u8 1 ::
       V.int IntKind.u8 1 :: V.int IntKind.u8 2 :: V.int IntKind.u8 3 :: V.int IntKind.u8 4 :: c100 4 5 6 7 8 9)
     false))
    (Am.Heap.alloc H (Am.Obj.cells 5 (c100 1 3 5 6 7 8) false)).2 (0 + Int.toNat (Int.tmod x0_1 14) * 1) 1 &&
    V.isK (Kind.int IntKind.u8)
    (Am.Heap.cell
     (Am.Heap.alloc (Am.Heap.alloc H (Am.Obj.cells 5 (c100 1 3 5 6 7 8) false))
     (Am.Obj.cells 5
      (V.int IntKind.u8 0 ::
      V.int IntKind.u8 0 ::
       V.int IntKind.u8 1 ::
       V.int IntKind.u8 1 ::
        V.int IntKind.u8 1 :: V.int IntKind.u8 2 :: V.int IntKind.u8 3 :: V.int IntKind.u8 4 :: c100 4 5 6 7 8 9)
      false))
     (Am.Heap.alloc H (Am.Obj.cells 5 (c100 1 3 5 6 7 8) false)).2 (0 + Int.toNat (Int.tmod x0_1 14) * 1)))
   (req (!decide (x2 = 0))
    (req (decide (0 ≤ Int.tmod x0_5 6) && decide (Int.tmod x0_5 6 < 6) || false)
    (req
     (Am.Heap.inb
      (Am.Heap.alloc (Am.Heap.alloc H (Am.Obj.cells 5 (c100 1 3 5 6 7 8) false))
      (Am.Obj.cells 5
       (V.int IntKind.u8 0 ::
       V.int IntKind.u8 0 ::
        V.int IntKind.u8 1 ::
        V.int IntKind.u8 1 ::
         V.int IntKind.u8 1 :: V.int IntKind.u8 2 :: V.int IntKind.u8 3 :: V.int IntKind.u8 4 :: c100 4 5 6 7 8 9)
       false))
      H.2 (0 + Int.toNat (Int.tmod x0_5 6) * 1) 1 &&
     V.isK (Kind.int IntKind.u8)
      (Am.Heap.cell
      (Am.Heap.alloc (Am.Heap.alloc H (Am.Obj.cells 5 (c100 1 3 5 6 7 8) false))
       (Am.Obj.cells 5
       (V.int IntKind.u8 0 ::
        V.int IntKind.u8 0 ::
        V.int IntKind.u8 1 ::
         V.int IntKind.u8 1 ::
         V.int IntKind.u8 1 :: V.int IntKind.u8 2 :: V.int IntKind.u8 3 :: V.int IntKind.u8 4 :: c100 4 5 6 7 8 9)
       false))
      H.2 (0 + Int.toNat (Int.tmod x0_5 6) * 1)))
     (Am.joinP
     (fun Q ↦
      br x0_7
      (req (decide (0 ≤ IntKind.wrap IntKind.i64 (Int.tmod x0_0 4)) && decide (IntKind.wrap IntKind.i64 (Int.tmod x0_0 4) < 8))
       (req
       (Nat.ble (Nat.succ (0 + Int.toNat (IntKind.wrap IntKind.i64 (Int.tmod x0_0 4)) * 1)) 12 &&
        V.isK (Kind.int IntKind.u32)
        (nthV (c37 x1_0 x1_1 x1_2 x1_3 x1_4 x1_5 x1_6 x1_7 x1_8 x1_9 x1_10 x1_11) (0 + Int.toNat (IntKind.wrap IntKind.i64 (Int.tmod x0_0 4)) * 1)))
       (Q
        (St.mk (Am.look [])
        (Am.look
         [(11,
          Loc.cells 33
          (c32
           (V.getInt
           (Am.Heap.cell
            (Am.Heap.alloc (Am.Heap.alloc H (Am.Obj.cells 5 (c100 1 3 5 6 7 8) false))
            (Am.Obj.cells 5
             (V.int IntKind.u8 0 ::
             V.int IntKind.u8 0 ::
              V.int IntKind.u8 1 ::
              V.int IntKind.u8 1 ::
               V.int IntKind.u8 1 ::
               V.int IntKind.u8 2 :: V.int IntKind.u8 3 :: V.int IntKind.u8 4 :: c100 4 5 6 7 8 9)
             false))
            (Am.Heap.alloc H (Am.Obj.cells 5 (c100 1 3 5 6 7 8) false)).2 (0 + Int.toNat (Int.tmod x0_1 14) * 1)))
           (Int.tmod (IntKind.wrap IntKind.i64 x0_2) x2) Option.none 0 0 x0_6
           (V.getInt
           (nthV (c37 x1_0 x1_1 x1_2 x1_3 x1_4 x1_5 x1_6 x1_7 x1_8 x1_9 x1_10 x1_11) (0 + Int.toNat (IntKind.wrap IntKind.i64 (Int.tmod x0_0 4)) * 1)))
           (IntKind.wrap IntKind.u32 (Int.tmod x0_4 4))
           (V.getInt
           (Am.Heap.cell
            (Am.Heap.alloc (Am.Heap.alloc H (Am.Obj.cells 5 (c100 1 3 5 6 7 8) false))
            (Am.Obj.cells 5
             (V.int IntKind.u8 0 ::
             V.int IntKind.u8 0 ::
              V.int IntKind.u8 1 ::
              V.int IntKind.u8 1 ::
               V.int IntKind.u8 1 ::
               V.int IntKind.u8 2 :: V.int IntKind.u8 3 :: V.int IntKind.u8 4 :: c100 4 5 6 7 8 9)
             false))
            H.2 (0 + Int.toNat (Int.tmod x0_5 6) * 1)))
           x0_6))])
        (Am.Heap.alloc (Am.Heap.alloc H (Am.Obj.cells 5 (c100 1 3 5 6 7 8) false))
         (Am.Obj.cells 5
         (V.int IntKind.u8 0 ::
          V.int IntKind.u8 0 ::
          V.int IntKind.u8 1 ::
           V.int IntKind.u8 1 ::
           V.int IntKind.u8 1 :: V.int IntKind.u8 2 :: V.int IntKind.u8 3 :: V.int IntKind.u8 4 :: c100 4 5 6 7 8 9)
         false))))))
      (Q
       (St.mk (Am.look [])
       (Am.look
        [(11,
         Loc.cells 33
         (c32
          (V.getInt
          (Am.Heap.cell
           (Am.Heap.alloc (Am.Heap.alloc H (Am.Obj.cells 5 (c100 1 3 5 6 7 8) false))
           (Am.Obj.cells 5
            (V.int IntKind.u8 0 ::
            V.int IntKind.u8 0 ::
             V.int IntKind.u8 1 ::
             V.int IntKind.u8 1 ::
              V.int IntKind.u8 1 :: V.int IntKind.u8 2 :: V.int IntKind.u8 3 :: V.int IntKind.u8 4 :: c100 4 5 6 7 8 9)
            false))
           (Am.Heap.alloc H (Am.Obj.cells 5 (c100 1 3 5 6 7 8) false)).2 (0 + Int.toNat (Int.tmod x0_1 14) * 1)))
          (Int.tmod (IntKind.wrap IntKind.i64 x0_2) x2) Option.none 0 0 x0_6 (IntKind.wrap IntKind.u32 (Int.tmod x0_3 4)) (IntKind.wrap IntKind.u32 (Int.tmod x0_4 4))
          (V.getInt
          (Am.Heap.cell
           (Am.Heap.alloc (Am.Heap.alloc H (Am.Obj.cells 5 (c100 1 3 5 6 7 8) false))
           (Am.Obj.cells 5
            (V.int IntKind.u8 0 ::
            V.int IntKind.u8 0 ::
             V.int IntKind.u8 1 ::
             V.int IntKind.u8 1 ::
              V.int IntKind.u8 1 :: V.int IntKind.u8 2 :: V.int IntKind.u8 3 :: V.int IntKind.u8 4 :: c100 4 5 6 7 8 9)
            false))
           H.2 (0 + Int.toNat (Int.tmod x0_5 6) * 1)))
          x0_6))])
       (Am.Heap.alloc (Am.Heap.alloc H (Am.Obj.cells 5 (c100 1 3 5 6 7 8) false))
        (Am.Obj.cells 5
        (V.int IntKind.u8 0 ::
         V.int IntKind.u8 0 ::
         V.int IntKind.u8 1 ::
          V.int IntKind.u8 1 ::
          V.int IntKind.u8 1 :: V.int IntKind.u8 2 :: V.int IntKind.u8 3 :: V.int IntKind.u8 4 :: c100 4 5 6 7 8 9)
        false)))))
     fun S' ↦
     req (Am.isLK 33 k32 (S'.2 11) || false)
      (br (decide ((↑x0_8n : Int) ≤ 64))
      (K
       (V.tuple
       [V.int IntKind.i64 (IntKind.wrap IntKind.i64 (Int.tmod x0_0 4)),
        V.agg
        (c32 (V.getInt (nthV (Am.locCells (S'.2 11)) 0)) (V.getInt (nthV (Am.locCells (S'.2 11)) 1)) x0_8p x0_8n x0_8c
         (V.getBool (nthV (Am.locCells (S'.2 11)) 3)) (V.getInt (nthV (Am.locCells (S'.2 11)) 4)) (V.getInt (nthV (Am.locCells (S'.2 11)) 5))
         (V.getInt (nthV (Am.locCells (S'.2 11)) 6)) (V.getBool (nthV (Am.locCells (S'.2 11)) 7)))])
       S'.3)
      (K (V.tuple [V.int IntKind.i64 (IntKind.wrap IntKind.i64 (Int.tmod x0_0 4)), V.agg (o32 (Am.locCells (S'.2 11)))]) S'.3))))))) :=
  fun x0_0 x0_1 x0_2 x0_3 x0_4 x0_5 x0_6 x0_7 x0_8p x0_8n x0_8c x1_0 x1_1 x1_2 x1_3 x1_4 x1_5 x1_6 x1_7 x1_8 x1_9 x1_10 x1_11 x2 H K => (Run_call (E := env)).trans (by kernel_rfl)

theorem eq12 : ∀ (x0 : Option (Nat × Nat)) (H : Am.Heap) (K : Am.V → Am.Heap → Prop),
  Am.Rec.call (Am.Run env) 12 [V.ptr x0] H K =
  br (Option.isNone x0)
   (Am.Rec.call (Am.Run env) 26 [] H fun v H' ↦
   req (V.isAgg v && Am.fits k37 (V.aggCells v)) (K (V.agg (o37 (V.aggCells v))) H'))
   (req (Option.isSome x0)
   (req
    (Am.Heap.inb H (Option.getD x0 (0, 0)).1 ((Option.getD x0 (0, 0)).2 + 2) 12 && Am.fits k37 (Am.Heap.sub H (Option.getD x0 (0, 0)).1 ((Option.getD x0 (0, 0)).2 + 2) 12))
    (K (V.agg (o37 (Am.Heap.sub H (Option.getD x0 (0, 0)).1 ((Option.getD x0 (0, 0)).2 + 2) 12))) H))) :=
  fun x0 H K => (Run_call (E := env)).trans (by kernel_rfl)

theorem eq13 : ∀ (x0 : Option (Nat × Nat)) (x1 x2_0 x2_1 : Int) (x2_2p : Option (Nat × Nat)) (x2_2n x2_2c : Nat) (x2_3 : Bool) (x2_4 x2_5 x2_6 : Int) (x2_7 : Bool) (H : Am.Heap) (K : Am.V → Am.Heap → Prop),
  Am.Rec.call (Am.Run env) 13 [V.ptr x0, V.int IntKind.i64 x1, V.agg (c32 x2_0 x2_1 x2_2p x2_2n x2_2c x2_3 x2_4 x2_5 x2_6 x2_7)] H K =
  br (Option.isNone x0) (K (V.agg (c40 5 Option.none 0 0 0 0 0 0 0 0 0 0 0 0 0 false)) H)
   (req (Option.isSome x0)
   (req (Am.Heap.inb H (Option.getD x0 (0, 0)).1 (Option.getD x0 (0, 0)).2 1 && V.isK Kind.slice (Am.Heap.cell H (Option.getD x0 (0, 0)).1 (Option.getD x0 (0, 0)).2))
    (Am.Rec.call (Am.Run env) 27
    [V.int IntKind.i64 x1, V.agg (c32 x2_0 x2_1 x2_2p x2_2n x2_2c x2_3 x2_4 x2_5 x2_6 x2_7),
     V.int IntKind.i64 (↑(V.slLen (Am.Heap.cell H (Option.getD x0 (0, 0)).1 (Option.getD x0 (0, 0)).2)) : Int)]
    H fun v H' ↦
    req (V.isK Kind.bool v)
     (br (!V.getBool v) (K (V.agg (c40 1 Option.none 0 0 0 0 0 0 0 0 0 0 0 0 0 false)) H')
     (req (Option.isSome x0)
      (req
      (Am.Heap.inb H' (Option.getD x0 (0, 0)).1 ((Option.getD x0 (0, 0)).2 + 2) 12 &&
       Am.fits k37 (Am.Heap.sub H' (Option.getD x0 (0, 0)).1 ((Option.getD x0 (0, 0)).2 + 2) 12))
      (Am.Rec.call (Am.Run env) 17
       [V.agg (o37 (Am.Heap.sub H' (Option.getD x0 (0, 0)).1 ((Option.getD x0 (0, 0)).2 + 2) 12)), V.int IntKind.i64 x1,
       V.agg (c32 x2_0 x2_1 x2_2p x2_2n x2_2c x2_3 x2_4 x2_5 x2_6 x2_7)]
       H' fun v H' ↦
       req (V.isK Kind.bool v)
       (br (!V.getBool v) (K (V.agg (c40 13 Option.none 0 0 0 0 0 0 0 0 0 0 0 0 0 false)) H')
        (br (decide (x2_0 = 0))
        (Am.Rec.call (Am.Run env) 14 [V.ptr x0, V.int IntKind.i64 x2_1] H' fun v H' ↦
         req (V.isK Kind.slice v) (K (V.agg (c40 0 (V.slPtr v) (V.slLen v) (V.slCap v) 0 0 0 0 0 0 0 0 0 0 0 false)) H'))
        (br (decide (x2_0 = 1))
         (Am.Rec.call (Am.Run env) 28 [V.ptr x0, V.agg (c72 x2_1 x2_2p x2_2n x2_2c false), V.bool x2_3] H'
         fun v H' ↦ K (V.agg (c40 0 Option.none 0 0 0 0 0 0 0 0 0 0 0 0 0 false)) H')
         (br (decide (x2_0 = 2))
         (Am.Rec.call (Am.Run env) 28 [V.ptr x0, V.agg (c72 x2_1 Option.none 0 0 true), V.bool x2_3] H' fun v H' ↦
          K (V.agg (c40 0 Option.none 0 0 0 0 0 0 0 0 0 0 0 0 0 false)) H')
         (br (decide (x2_0 = 3))
          (Am.Rec.call (Am.Run env) 29 [V.ptr x0] H' fun v H' ↦
          K (V.agg (c40 0 Option.none 0 0 0 0 0 0 0 0 0 0 0 0 0 false)) H')
          (br (decide (x2_0 = 9))
          (req (Option.isSome x0)
           (req
           (Am.Heap.inb H' (Option.getD x0 (0, 0)).1 ((Option.getD x0 (0, 0)).2 + 2) 12 &&
            Am.fits k37 (Am.Heap.sub H' (Option.getD x0 (0, 0)).1 ((Option.getD x0 (0, 0)).2 + 2) 12))
           (K
            (V.agg
            (c40 0 Option.none 0 0 (V.getInt (nthV (Am.Heap.sub H' (Option.getD x0 (0, 0)).1 ((Option.getD x0 (0, 0)).2 + 2) 12) 0))
             (V.getInt (nthV (Am.Heap.sub H' (Option.getD x0 (0, 0)).1 ((Option.getD x0 (0, 0)).2 + 2) 12) 1))
             (V.getInt (nthV (Am.Heap.sub H' (Option.getD x0 (0, 0)).1 ((Option.getD x0 (0, 0)).2 + 2) 12) 2))
             (V.getInt (nthV (Am.Heap.sub H' (Option.getD x0 (0, 0)).1 ((Option.getD x0 (0, 0)).2 + 2) 12) 3))
             (V.getInt (nthV (Am.Heap.sub H' (Option.getD x0 (0, 0)).1 ((Option.getD x0 (0, 0)).2 + 2) 12) 4))
             (V.getInt (nthV (Am.Heap.sub H' (Option.getD x0 (0, 0)).1 ((Option.getD x0 (0, 0)).2 + 2) 12) 5))
             (V.getInt (nthV (Am.Heap.sub H' (Option.getD x0 (0, 0)).1 ((Option.getD x0 (0, 0)).2 + 2) 12) 6))
             (V.getInt (nthV (Am.Heap.sub H' (Option.getD x0 (0, 0)).1 ((Option.getD x0 (0, 0)).2 + 2) 12) 7))
             (V.getInt (nthV (Am.Heap.sub H' (Option.getD x0 (0, 0)).1 ((Option.getD x0 (0, 0)).2 + 2) 12) 8))
             (V.getInt (nthV (Am.Heap.sub H' (Option.getD x0 (0, 0)).1 ((Option.getD x0 (0, 0)).2 + 2) 12) 9))
             (V.getInt (nthV (Am.Heap.sub H' (Option.getD x0 (0, 0)).1 ((Option.getD x0 (0, 0)).2 + 2) 12) 10))
             (V.getBool (nthV (Am.Heap.sub H' (Option.getD x0 (0, 0)).1 ((Option.getD x0 (0, 0)).2 + 2) 12) 11))))
            H')))
          (req (Option.isSome x0)
           (req
           (Am.Heap.inb H' (Option.getD x0 (0, 0)).1 ((Option.getD x0 (0, 0)).2 + 2) 12 &&
            Am.fits k37 (Am.Heap.sub H' (Option.getD x0 (0, 0)).1 ((Option.getD x0 (0, 0)).2 + 2) 12))
           (Am.Rec.call (Am.Run env) 30
            [V.agg (o37 (Am.Heap.sub H' (Option.getD x0 (0, 0)).1 ((Option.getD x0 (0, 0)).2 + 2) 12)), V.int IntKind.i64 x1,
            V.agg (c32 x2_0 x2_1 x2_2p x2_2n x2_2c x2_3 x2_4 x2_5 x2_6 x2_7)]
            H' fun v H' ↦
            req
            (V.isTuple 2 v &&
             (V.isAgg (nthV (V.vals v) 0) && Am.fits k37 (V.aggCells (nthV (V.vals v) 0)) &&
             (V.isK (Kind.int IntKind.i64) (nthV (V.vals v) 1) || false)))
            (req (Option.isSome x0)
             (req (Am.Heap.wr H' (Option.getD x0 (0, 0)).1 ((Option.getD x0 (0, 0)).2 + 2) 12)
             (K (V.agg (c40 (V.getInt (nthV (V.vals v) 1)) Option.none 0 0 0 0 0 0 0 0 0 0 0 0 0 false))
              (Am.Heap.store H' (Option.getD x0 (0, 0)).1 ((Option.getD x0 (0, 0)).2 + 2)
              (o37 (V.aggCells (nthV (V.vals v) 0))))))))))))))))))))))) :=
  fun x0 x1 x2_0 x2_1 x2_2p x2_2n x2_2c x2_3 x2_4 x2_5 x2_6 x2_7 H K => (Run_call (E := env)).trans (by kernel_rfl)

theorem eq14 : ∀ (x0 : Option (Nat × Nat)) (x1 : Int) (H : Am.Heap) (K : Am.V → Am.Heap → Prop),
  Am.Rec.call (Am.Run env) 14 [V.ptr x0, V.int IntKind.i64 x1] H K =
  req
   (Am.mergeR (!Option.isNone x0)
   (Am.mergeR (!decide (x1 < 0))
    (Option.isSome x0 && true &&
    (Am.Heap.inb H (Option.getD x0 (0, 0)).1 (Option.getD x0 (0, 0)).2 1 && V.isK Kind.slice (Am.Heap.cell H (Option.getD x0 (0, 0)).1 (Option.getD x0 (0, 0)).2) && true && true))
    true)
   (Am.mergeR false
    (Option.isSome x0 && true &&
    (Am.Heap.inb H (Option.getD x0 (0, 0)).1 (Option.getD x0 (0, 0)).2 1 && V.isK Kind.slice (Am.Heap.cell H (Option.getD x0 (0, 0)).1 (Option.getD x0 (0, 0)).2) && true && true))
    true))
   (br
   (bif !Option.isNone x0 then bif !decide (x1 < 0) then decide (x1 ≥ (↑(V.slLen (Am.Heap.cell H (Option.getD x0 (0, 0)).1 (Option.getD x0 (0, 0)).2)) : Int)) else true
   else true)
   (K (V.slice Option.none 0 0) H)
   (req (Option.isSome x0)
    (req (Am.Heap.inb H (Option.getD x0 (0, 0)).1 ((Option.getD x0 (0, 0)).2 + 1) 1 && V.isK Kind.ptr (Am.Heap.cell H (Option.getD x0 (0, 0)).1 ((Option.getD x0 (0, 0)).2 + 1)))
    (Am.Rec.call (Am.Run env) 31 [V.ptr (V.getPtr (Am.Heap.cell H (Option.getD x0 (0, 0)).1 ((Option.getD x0 (0, 0)).2 + 1))), V.int IntKind.i64 x1] H
     fun v H' ↦
     req
     (V.isTuple 2 v &&
      (V.isAgg (nthV (V.vals v) 0) && Am.fits k72 (V.aggCells (nthV (V.vals v) 0)) &&
      (V.isK Kind.bool (nthV (V.vals v) 1) || false)))
     (br (V.getBool (nthV (V.vals v) 1))
      (K
      (V.slice (V.slPtr (nthV (V.aggCells (nthV (V.vals v) 0)) 1)) (V.slLen (nthV (V.aggCells (nthV (V.vals v) 0)) 1))
       (V.slCap (nthV (V.aggCells (nthV (V.vals v) 0)) 1)))
      H')
      (req (Option.isSome x0)
      (req (Am.Heap.inb H' (Option.getD x0 (0, 0)).1 (Option.getD x0 (0, 0)).2 1 && V.isK Kind.slice (Am.Heap.cell H' (Option.getD x0 (0, 0)).1 (Option.getD x0 (0, 0)).2))
       (req
       (decide (0 ≤ x1) && decide (x1 < (↑(V.slLen (Am.Heap.cell H' (Option.getD x0 (0, 0)).1 (Option.getD x0 (0, 0)).2)) : Int)) &&
        Option.isSome (V.slPtr (Am.Heap.cell H' (Option.getD x0 (0, 0)).1 (Option.getD x0 (0, 0)).2)))
       (req
        (Am.Heap.inb H' (Option.getD (V.slPtr (Am.Heap.cell H' (Option.getD x0 (0, 0)).1 (Option.getD x0 (0, 0)).2)) (0, 0)).1
         ((Option.getD (V.slPtr (Am.Heap.cell H' (Option.getD x0 (0, 0)).1 (Option.getD x0 (0, 0)).2)) (0, 0)).2 + Int.toNat x1 * 1) 1 &&
        V.isK Kind.slice
         (Am.Heap.cell H' (Option.getD (V.slPtr (Am.Heap.cell H' (Option.getD x0 (0, 0)).1 (Option.getD x0 (0, 0)).2)) (0, 0)).1
         ((Option.getD (V.slPtr (Am.Heap.cell H' (Option.getD x0 (0, 0)).1 (Option.getD x0 (0, 0)).2)) (0, 0)).2 + Int.toNat x1 * 1)))
        (Am.Rec.call (Am.Run env) 32
        [V.slice
         (V.slPtr
          (Am.Heap.cell H' (Option.getD (V.slPtr (Am.Heap.cell H' (Option.getD x0 (0, 0)).1 (Option.getD x0 (0, 0)).2)) (0, 0)).1
          ((Option.getD (V.slPtr (Am.Heap.cell H' (Option.getD x0 (0, 0)).1 (Option.getD x0 (0, 0)).2)) (0, 0)).2 + Int.toNat x1 * 1)))
         (V.slLen
          (Am.Heap.cell H' (Option.getD (V.slPtr (Am.Heap.cell H' (Option.getD x0 (0, 0)).1 (Option.getD x0 (0, 0)).2)) (0, 0)).1
          ((Option.getD (V.slPtr (Am.Heap.cell H' (Option.getD x0 (0, 0)).1 (Option.getD x0 (0, 0)).2)) (0, 0)).2 + Int.toNat x1 * 1)))
         (V.slCap
          (Am.Heap.cell H' (Option.getD (V.slPtr (Am.Heap.cell H' (Option.getD x0 (0, 0)).1 (Option.getD x0 (0, 0)).2)) (0, 0)).1
          ((Option.getD (V.slPtr (Am.Heap.cell H' (Option.getD x0 (0, 0)).1 (Option.getD x0 (0, 0)).2)) (0, 0)).2 + Int.toNat x1 * 1)))]
        H' fun v H' ↦ req (V.isK Kind.slice v) (K (V.slice (V.slPtr v) (V.slLen v) (V.slCap v)) H'))))))))))) :=
  fun x0 x1 H K => (Run_call (E := env)).trans (by kernel_rfl)

theorem eq15 : ∀ (x0 : Int) (H : Am.Heap) (K : Am.V → Am.Heap → Prop),
  Am.Rec.call (Am.Run env) 15 [V.int IntKind.i64 x0] H K =
  req (decide (0 ≤ x0) && (decide (x0 ≤ x0) && decide (x0 * 17 ≤ 70368744177664)))
   (K (V.ptr (Option.some ((Am.Heap.alloc H (Am.Obj.cells 9 (Am.rowV (Int.toNat x0) [V.str (Am.strOf [])]) false)).2, 0)))
   (Am.Heap.alloc (Am.Heap.alloc H (Am.Obj.cells 9 (Am.rowV (Int.toNat x0) [V.str (Am.strOf [])]) false))
    (Am.Obj.cells 50 (c49 (Option.some (H.2, 0)) (Int.toNat x0) (Int.toNat x0) Option.none 0 0 0 0 0 0 0 0 0 0 0 (-1) 0 false) false))) :=
  fun x0 H K => (Run_call (E := env)).trans (by kernel_rfl)

theorem eq16 : ∀ (x0 : Option (Nat × Nat)) (x1 x2_0 x2_1 : Int) (x2_2p : Option (Nat × Nat)) (x2_2n x2_2c : Nat) (x2_3 : Bool) (x2_4 x2_5 x2_6 : Int) (x2_7 : Bool) (H : Am.Heap) (K : Am.V → Am.Heap → Prop),
  Am.Rec.call (Am.Run env) 16 [V.ptr x0, V.int IntKind.i64 x1, V.agg (c32 x2_0 x2_1 x2_2p x2_2n x2_2c x2_3 x2_4 x2_5 x2_6 x2_7)] H K =
  req (Option.isSome x0)
   (req (Am.Heap.inb H (Option.getD x0 (0, 0)).1 (Option.getD x0 (0, 0)).2 1 && V.isK Kind.slice (Am.Heap.cell H (Option.getD x0 (0, 0)).1 (Option.getD x0 (0, 0)).2))
   (Am.Rec.call (Am.Run env) 33
    [V.int IntKind.i64 x1, V.agg (c32 x2_0 x2_1 x2_2p x2_2n x2_2c x2_3 x2_4 x2_5 x2_6 x2_7),
    V.int IntKind.i64 (↑(V.slLen (Am.Heap.cell H (Option.getD x0 (0, 0)).1 (Option.getD x0 (0, 0)).2)) : Int)]
    H fun v H' ↦
    req (V.isK Kind.bool v)
    (br (!V.getBool v) (K (V.tuple [V.int IntKind.i64 1, V.str (Am.strOf []), V.agg (c37 0 0 0 0 0 0 0 0 0 0 0 false)]) H')
     (req (Option.isSome x0)
     (req
      (Am.Heap.inb H' (Option.getD x0 (0, 0)).1 ((Option.getD x0 (0, 0)).2 + 2) 12 &&
      Am.fits k37 (Am.Heap.sub H' (Option.getD x0 (0, 0)).1 ((Option.getD x0 (0, 0)).2 + 2) 12))
      (Am.Rec.call (Am.Run env) 34
      [V.agg (o37 (Am.Heap.sub H' (Option.getD x0 (0, 0)).1 ((Option.getD x0 (0, 0)).2 + 2) 12)), V.int IntKind.i64 x1,
       V.agg (c32 x2_0 x2_1 x2_2p x2_2n x2_2c x2_3 x2_4 x2_5 x2_6 x2_7)]
      H' fun v H' ↦
      req (V.isK Kind.bool v)
       (br (!V.getBool v)
       (K (V.tuple [V.int IntKind.i64 13, V.str (Am.strOf []), V.agg (c37 0 0 0 0 0 0 0 0 0 0 0 false)]) H')
       (br (decide (x2_0 = 0))
        (Am.Rec.call (Am.Run env) 35 [V.ptr x0, V.int IntKind.i64 x2_1] H' fun v H' ↦
        req (V.isK Kind.str v)
         (K (V.tuple [V.int IntKind.i64 0, V.str (V.getStr v), V.agg (c37 0 0 0 0 0 0 0 0 0 0 0 false)]) H'))
        (br (decide (x2_0 = 1))
        (req (Am.strOk H' x2_2p x2_2n)
         (Am.Rec.call (Am.Run env) 36 [V.ptr x0, V.int IntKind.i64 x2_1, V.str (Am.strAt H' x2_2p x2_2n), V.bool x2_3] H' fun v H' ↦
         K (V.tuple [V.int IntKind.i64 0, V.str (Am.strOf []), V.agg (c37 0 0 0 0 0 0 0 0 0 0 0 false)]) H'))
        (br (decide (x2_0 = 2))
         (Am.Rec.call (Am.Run env) 36 [V.ptr x0, V.int IntKind.i64 x2_1, V.str (Am.strOf []), V.bool x2_3] H' fun v H' ↦
         K (V.tuple [V.int IntKind.i64 0, V.str (Am.strOf []), V.agg (c37 0 0 0 0 0 0 0 0 0 0 0 false)]) H')
         (br (decide (x2_0 = 3))
         (Am.Rec.call (Am.Run env) 23 [V.ptr x0] H' fun v H' ↦
          K (V.tuple [V.int IntKind.i64 0, V.str (Am.strOf []), V.agg (c37 0 0 0 0 0 0 0 0 0 0 0 false)]) H')
         (br (decide (x2_0 = 9))
          (req (Option.isSome x0)
          (req
           (Am.Heap.inb H' (Option.getD x0 (0, 0)).1 ((Option.getD x0 (0, 0)).2 + 2) 12 &&
           Am.fits k37 (Am.Heap.sub H' (Option.getD x0 (0, 0)).1 ((Option.getD x0 (0, 0)).2 + 2) 12))
           (K
           (V.tuple
            [V.int IntKind.i64 0, V.str (Am.strOf []),
            V.agg (o37 (Am.Heap.sub H' (Option.getD x0 (0, 0)).1 ((Option.getD x0 (0, 0)).2 + 2) 12))])
           H')))
          (req (Option.isSome x0)
          (req
           (Am.Heap.inb H' (Option.getD x0 (0, 0)).1 ((Option.getD x0 (0, 0)).2 + 2) 12 &&
           Am.fits k37 (Am.Heap.sub H' (Option.getD x0 (0, 0)).1 ((Option.getD x0 (0, 0)).2 + 2) 12))
           (Am.Rec.call (Am.Run env) 37
           [V.agg (o37 (Am.Heap.sub H' (Option.getD x0 (0, 0)).1 ((Option.getD x0 (0, 0)).2 + 2) 12)), V.int IntKind.i64 x1,
            V.agg (c32 x2_0 x2_1 x2_2p x2_2n x2_2c x2_3 x2_4 x2_5 x2_6 x2_7)]
           H' fun v H' ↦
           req
            (V.isTuple 2 v &&
            (V.isAgg (nthV (V.vals v) 0) && Am.fits k37 (V.aggCells (nthV (V.vals v) 0)) &&
             (V.isK (Kind.int IntKind.i64) (nthV (V.vals v) 1) || false)))
            (req (Option.isSome x0)
            (req (Am.Heap.wr H' (Option.getD x0 (0, 0)).1 ((Option.getD x0 (0, 0)).2 + 2) 12)
             (K
             (V.tuple
              [V.int IntKind.i64 (V.getInt (nthV (V.vals v) 1)), V.str (Am.strOf []),
              V.agg (c37 0 0 0 0 0 0 0 0 0 0 0 false)])
             (Am.Heap.store H' (Option.getD x0 (0, 0)).1 ((Option.getD x0 (0, 0)).2 + 2)
              (o37 (V.aggCells (nthV (V.vals v) 0)))))))))))))))))))))) :=
  fun x0 x1 x2_0 x2_1 x2_2p x2_2n x2_2c x2_3 x2_4 x2_5 x2_6 x2_7 H K => (Run_call (E := env)).trans (by kernel_rfl)

theorem eq17 : ∀ (x0_0 x0_1 x0_2 x0_3 x0_4 x0_5 x0_6 x0_7 x0_8 x0_9 x0_10 : Int) (x0_11 : Bool) (x1 x2_0 x2_1 : Int) (x2_2p : Option (Nat × Nat)) (x2_2n x2_2c : Nat) (x2_3 : Bool) (x2_4 x2_5 x2_6 : Int) (x2_7 : Bool) (H : Am.Heap)
  (K : Am.V → Am.Heap → Prop),
  Am.Rec.call (Am.Run env) 17
   [V.agg (c37 x0_0 x0_1 x0_2 x0_3 x0_4 x0_5 x0_6 x0_7 x0_8 x0_9 x0_10 x0_11), V.int IntKind.i64 x1,
   V.agg (c32 x2_0 x2_1 x2_2p x2_2n x2_2c x2_3 x2_4 x2_5 x2_6 x2_7)]
   H K =
  br (decide (x2_0 = 0))
   (Am.Rec.call (Am.Run env) 38
   [V.agg (c37 x0_0 x0_1 x0_2 x0_3 x0_4 x0_5 x0_6 x0_7 x0_8 x0_9 x0_10 x0_11), V.int IntKind.i64 x1, V.bool false] H fun v H' ↦
   req (V.isK Kind.bool v) (K (V.bool (V.getBool v)) H'))
   (Am.joinP
   (fun Q ↦
    br (decide (x2_0 = 1)) (Q (St.mk (Am.look [(14, T.v (V.bool (decide (x2_0 = 1))))]) (Am.look []) H))
    (br (decide (x2_0 = 2)) (Q (St.mk (Am.look [(14, T.v (V.bool (decide (x2_0 = 2))))]) (Am.look []) H))
     (Q (St.mk (Am.look [(14, T.v (V.bool (decide (x2_0 = 3))))]) (Am.look []) H))))
   fun S' ↦
   req (Am.isKT (KT.k Kind.bool) (S'.1 14) || false || false)
    (br (V.getBool (T.val (S'.1 14)))
    (Am.Rec.call (Am.Run env) 38
     [V.agg (c37 x0_0 x0_1 x0_2 x0_3 x0_4 x0_5 x0_6 x0_7 x0_8 x0_9 x0_10 x0_11), V.int IntKind.i64 x1, V.bool true] S'.3 fun v H' ↦
     req (V.isK Kind.bool v) (K (V.bool (V.getBool v)) H'))
    (K (V.bool true) S'.3))) :=
  fun x0_0 x0_1 x0_2 x0_3 x0_4 x0_5 x0_6 x0_7 x0_8 x0_9 x0_10 x0_11 x1 x2_0 x2_1 x2_2p x2_2n x2_2c x2_3 x2_4 x2_5 x2_6 x2_7 H K => (Run_call (E := env)).trans (by kernel_rfl)

theorem eq18 : ∀ (x0 x1 : Option (Nat × Nat)) (H : Am.Heap) (K : Am.V → Am.Heap → Prop),
  Am.Rec.call (Am.Run env) 18 [V.ptr x0, V.ptr x1] H K =
  Am.joinP
   (fun Q ↦
   req (Option.isSome x1)
    ((Am.Rec.call (Am.Run env) 12 [V.ptr x0] H fun v H' ↦
     req (V.isAgg v && Am.fits k37 (V.aggCells v))
     (req
      (Am.Heap.inb H' (Option.getD x1 (0, 0)).1 ((Option.getD x1 (0, 0)).2 + 2) 12 &&
      Am.fits k37 (Am.Heap.sub H' (Option.getD x1 (0, 0)).1 ((Option.getD x1 (0, 0)).2 + 2) 12))
      (br (!!Am.cellsEq (o37 (V.aggCells v)) (o37 (Am.Heap.sub H' (Option.getD x1 (0, 0)).1 ((Option.getD x1 (0, 0)).2 + 2) 12)))
      (req (Option.isSome x1)
       ((Am.Rec.call (Am.Run env) 19 [V.ptr x0] H' fun v H' ↦
        req (V.isK (Kind.int IntKind.i64) v)
        (req
         (Am.Heap.inb H' (Option.getD x1 (0, 0)).1 ((Option.getD x1 (0, 0)).2 + 1) 1 && V.isK Kind.slice (Am.Heap.cell H' (Option.getD x1 (0, 0)).1 ((Option.getD x1 (0, 0)).2 + 1)))
         (Q
         (St.mk
          (Am.look
          [(22, T.v (V.bool !decide (V.getInt v = (↑(V.slLen (Am.Heap.cell H' (Option.getD x1 (0, 0)).1 ((Option.getD x1 (0, 0)).2 + 1))) : Int))))])
          (Am.look []) H')))) ∧
       req
        (Am.Heap.inb H' (Option.getD x1 (0, 0)).1 ((Option.getD x1 (0, 0)).2 + 1) 1 && V.isK Kind.slice (Am.Heap.cell H' (Option.getD x1 (0, 0)).1 ((Option.getD x1 (0, 0)).2 + 1)))
        (Am.Rec.call (Am.Run env) 19 [V.ptr x0] H' fun v H'_1 ↦
        req (V.isK (Kind.int IntKind.i64) v)
         (Q
         (St.mk
          (Am.look
          [(22, T.v (V.bool !decide (V.getInt v = (↑(V.slLen (Am.Heap.cell H' (Option.getD x1 (0, 0)).1 ((Option.getD x1 (0, 0)).2 + 1))) : Int))))])
          (Am.look []) H'_1)))))
      (Q (St.mk (Am.look [(22, T.v (V.bool true))]) (Am.look []) H') ∧ Q (St.mk (Am.look [(22, T.v (V.bool true))]) (Am.look []) H'))))) ∧
    req
     (Am.Heap.inb H (Option.getD x1 (0, 0)).1 ((Option.getD x1 (0, 0)).2 + 2) 12 && Am.fits k37 (Am.Heap.sub H (Option.getD x1 (0, 0)).1 ((Option.getD x1 (0, 0)).2 + 2) 12))
     (Am.Rec.call (Am.Run env) 12 [V.ptr x0] H fun v H' ↦
     req (V.isAgg v && Am.fits k37 (V.aggCells v))
      (br (!!Am.cellsEq (o37 (V.aggCells v)) (o37 (Am.Heap.sub H (Option.getD x1 (0, 0)).1 ((Option.getD x1 (0, 0)).2 + 2) 12)))
      (req (Option.isSome x1)
       ((Am.Rec.call (Am.Run env) 19 [V.ptr x0] H' fun v H' ↦
        req (V.isK (Kind.int IntKind.i64) v)
        (req
         (Am.Heap.inb H' (Option.getD x1 (0, 0)).1 ((Option.getD x1 (0, 0)).2 + 1) 1 && V.isK Kind.slice (Am.Heap.cell H' (Option.getD x1 (0, 0)).1 ((Option.getD x1 (0, 0)).2 + 1)))
         (Q
         (St.mk
          (Am.look
          [(22, T.v (V.bool !decide (V.getInt v = (↑(V.slLen (Am.Heap.cell H' (Option.getD x1 (0, 0)).1 ((Option.getD x1 (0, 0)).2 + 1))) : Int))))])
          (Am.look []) H')))) ∧
       req
        (Am.Heap.inb H' (Option.getD x1 (0, 0)).1 ((Option.getD x1 (0, 0)).2 + 1) 1 && V.isK Kind.slice (Am.Heap.cell H' (Option.getD x1 (0, 0)).1 ((Option.getD x1 (0, 0)).2 + 1)))
        (Am.Rec.call (Am.Run env) 19 [V.ptr x0] H' fun v H'_1 ↦
        req (V.isK (Kind.int IntKind.i64) v)
         (Q
         (St.mk
          (Am.look
          [(22, T.v (V.bool !decide (V.getInt v = (↑(V.slLen (Am.Heap.cell H' (Option.getD x1 (0, 0)).1 ((Option.getD x1 (0, 0)).2 + 1))) : Int))))])
          (Am.look []) H'_1)))))
      (Q (St.mk (Am.look [(22, T.v (V.bool true))]) (Am.look []) H') ∧ Q (St.mk (Am.look [(22, T.v (V.bool true))]) (Am.look []) H'))))))
   fun S' ↦
   req (Am.isKT (KT.k Kind.bool) (S'.1 22) || false || false)
   (br (V.getBool (T.val (S'.1 22))) (K (V.bool false) S'.3)
    (Am.Rec.loop (Am.Run env) (Am.loopAt env 18 5) 18 5
    (St.mk (Am.look [(0, T.v (V.ptr x0)), (1, T.v (V.ptr x1)), (5, T.v (V.int IntKind.i64 0))]) (Am.look []) S'.3)
    (fun S' ↦ req (Am.isKT (KT.k Kind.bool) (S'.1 4) || false || false) (K (V.bool (V.getBool (T.val (S'.1 4)))) S'.3)) fun j S' ↦
    br (Nat.beq j 0) (K (V.bool true) S'.3) False)) :=
  fun x0 x1 H K => (Run_call (E := env)).trans (by kernel_rfl)

theorem lp18_5 : ∀ (t0 t1 : Option (Nat × Nat)) (t5 : Int) (H : Am.Heap) (Kr : Am.St → Prop) (Ke : Nat → Am.St → Prop),
  Am.Rec.loop (Am.Run env) (Am.loopAt env 18 5) 18 5
   (St.mk (Am.look [(0, T.v (V.ptr t0)), (1, T.v (V.ptr t1)), (5, T.v (V.int IntKind.i64 t5))]) (Am.look []) H) Kr Ke =
  req (Option.isSome t1)
   (req (Am.Heap.inb H (Option.getD t1 (0, 0)).1 (Option.getD t1 (0, 0)).2 1 && V.isK Kind.slice (Am.Heap.cell H (Option.getD t1 (0, 0)).1 (Option.getD t1 (0, 0)).2))
   (br (decide (t5 < (↑(V.slLen (Am.Heap.cell H (Option.getD t1 (0, 0)).1 (Option.getD t1 (0, 0)).2)) : Int)))
    (Am.joinP
    (fun Q ↦
     Am.Rec.call (Am.Run env) 14 [V.ptr t0, V.int IntKind.i64 t5] H fun v H' ↦
     req (V.isK Kind.slice v)
      (req (Am.strOk H' (V.slPtr v) (V.slLen v))
       (Am.Rec.call (Am.Run env) 35 [V.ptr t1, V.int IntKind.i64 t5] H' fun v_1 H'_1 ↦
       req (V.isK Kind.str v_1)
        (br (!!Am.strEq (Am.strAt H' (V.slPtr v) (V.slLen v)) (V.getStr v_1))
        (req (Option.isSome t1)
         ((Am.Rec.call (Am.Run env) 25 [V.ptr t0, V.int IntKind.i64 t5] H'_1 fun v H' ↦
          req (V.isK Kind.slice v)
          (req (Am.strOk H' (V.slPtr v) (V.slLen v))
           (req
           (Am.Heap.inb H' (Option.getD t1 (0, 0)).1 (Option.getD t1 (0, 0)).2 1 && V.isK Kind.slice (Am.Heap.cell H' (Option.getD t1 (0, 0)).1 (Option.getD t1 (0, 0)).2))
           (req
            (decide (0 ≤ t5) && decide (t5 < (↑(V.slLen (Am.Heap.cell H' (Option.getD t1 (0, 0)).1 (Option.getD t1 (0, 0)).2)) : Int)) &&
            Option.isSome (V.slPtr (Am.Heap.cell H' (Option.getD t1 (0, 0)).1 (Option.getD t1 (0, 0)).2)))
            (req
            (Am.Heap.inb H' (Option.getD (V.slPtr (Am.Heap.cell H' (Option.getD t1 (0, 0)).1 (Option.getD t1 (0, 0)).2)) (0, 0)).1
             ((Option.getD (V.slPtr (Am.Heap.cell H' (Option.getD t1 (0, 0)).1 (Option.getD t1 (0, 0)).2)) (0, 0)).2 + Int.toNat t5 * 1) 1 &&
             V.isK Kind.str
             (Am.Heap.cell H' (Option.getD (V.slPtr (Am.Heap.cell H' (Option.getD t1 (0, 0)).1 (Option.getD t1 (0, 0)).2)) (0, 0)).1
              ((Option.getD (V.slPtr (Am.Heap.cell H' (Option.getD t1 (0, 0)).1 (Option.getD t1 (0, 0)).2)) (0, 0)).2 + Int.toNat t5 * 1)))
            (Q
             (St.mk
             (Am.look
              [(53,
               T.v
               (V.bool
                !Am.strEq (Am.strAt H' (V.slPtr v) (V.slLen v))
                 (V.getStr
                 (Am.Heap.cell H' (Option.getD (V.slPtr (Am.Heap.cell H' (Option.getD t1 (0, 0)).1 (Option.getD t1 (0, 0)).2)) (0, 0)).1
                  ((Option.getD (V.slPtr (Am.Heap.cell H' (Option.getD t1 (0, 0)).1 (Option.getD t1 (0, 0)).2)) (0, 0)).2 + Int.toNat t5 * 1)))))])
             (Am.look []) H'))))))) ∧
         req
          (Am.Heap.inb H'_1 (Option.getD t1 (0, 0)).1 (Option.getD t1 (0, 0)).2 1 && V.isK Kind.slice (Am.Heap.cell H'_1 (Option.getD t1 (0, 0)).1 (Option.getD t1 (0, 0)).2))
          (req
          (decide (0 ≤ t5) && decide (t5 < (↑(V.slLen (Am.Heap.cell H'_1 (Option.getD t1 (0, 0)).1 (Option.getD t1 (0, 0)).2)) : Int)) &&
           Option.isSome (V.slPtr (Am.Heap.cell H'_1 (Option.getD t1 (0, 0)).1 (Option.getD t1 (0, 0)).2)))
          ((Am.Rec.call (Am.Run env) 25 [V.ptr t0, V.int IntKind.i64 t5] H'_1 fun v H' ↦
           req (V.isK Kind.slice v)
            (req (Am.strOk H' (V.slPtr v) (V.slLen v))
            (req
             (Am.Heap.inb H' (Option.getD (V.slPtr (Am.Heap.cell H'_1 (Option.getD t1 (0, 0)).1 (Option.getD t1 (0, 0)).2)) (0, 0)).1
              ((Option.getD (V.slPtr (Am.Heap.cell H'_1 (Option.getD t1 (0, 0)).1 (Option.getD t1 (0, 0)).2)) (0, 0)).2 + Int.toNat t5 * 1) 1 &&
             V.isK Kind.str
              (Am.Heap.cell H' (Option.getD (V.slPtr (Am.Heap.cell H'_1 (Option.getD t1 (0, 0)).1 (Option.getD t1 (0, 0)).2)) (0, 0)).1
              ((Option.getD (V.slPtr (Am.Heap.cell H'_1 (Option.getD t1 (0, 0)).1 (Option.getD t1 (0, 0)).2)) (0, 0)).2 + Int.toNat t5 * 1)))
             (Q
             (St.mk
              (Am.look
              [(53,
               T.v
                (V.bool
                !Am.strEq (Am.strAt H' (V.slPtr v) (V.slLen v))
                 (V.getStr
                  (Am.Heap.cell H' (Option.getD (V.slPtr (Am.Heap.cell H'_1 (Option.getD t1 (0, 0)).1 (Option.getD t1 (0, 0)).2)) (0, 0)).1
                  ((Option.getD (V.slPtr (Am.Heap.cell H'_1 (Option.getD t1 (0, 0)).1 (Option.getD t1 (0, 0)).2)) (0, 0)).2 + Int.toNat t5 * 1)))))])
              (Am.look []) H'))))) ∧
           req
           (Am.Heap.inb H'_1 (Option.getD (V.slPtr (Am.Heap.cell H'_1 (Option.getD t1 (0, 0)).1 (Option.getD t1 (0, 0)).2)) (0, 0)).1
            ((Option.getD (V.slPtr (Am.Heap.cell H'_1 (Option.getD t1 (0, 0)).1 (Option.getD t1 (0, 0)).2)) (0, 0)).2 + Int.toNat t5 * 1) 1 &&
            V.isK Kind.str
            (Am.Heap.cell H'_1 (Option.getD (V.slPtr (Am.Heap.cell H'_1 (Option.getD t1 (0, 0)).1 (Option.getD t1 (0, 0)).2)) (0, 0)).1
             ((Option.getD (V.slPtr (Am.Heap.cell H'_1 (Option.getD t1 (0, 0)).1 (Option.getD t1 (0, 0)).2)) (0, 0)).2 + Int.toNat t5 * 1)))
           (Am.Rec.call (Am.Run env) 25 [V.ptr t0, V.int IntKind.i64 t5] H'_1 fun v H' ↦
            req (V.isK Kind.slice v)
            (req (Am.strOk H' (V.slPtr v) (V.slLen v))
             (Q
             (St.mk
              (Am.look
              [(53,
               T.v
                (V.bool
                !Am.strEq (Am.strAt H' (V.slPtr v) (V.slLen v))
                 (V.getStr
                  (Am.Heap.cell H'_1 (Option.getD (V.slPtr (Am.Heap.cell H'_1 (Option.getD t1 (0, 0)).1 (Option.getD t1 (0, 0)).2)) (0, 0)).1
                  ((Option.getD (V.slPtr (Am.Heap.cell H'_1 (Option.getD t1 (0, 0)).1 (Option.getD t1 (0, 0)).2)) (0, 0)).2 + Int.toNat t5 * 1)))))])
              (Am.look []) H'))))))))
        (Q (St.mk (Am.look [(53, T.v (V.bool true))]) (Am.look []) H'_1) ∧
         Q (St.mk (Am.look [(53, T.v (V.bool true))]) (Am.look []) H'_1) ∧
         Q (St.mk (Am.look [(53, T.v (V.bool true))]) (Am.look []) H'_1)))) ∧
      Am.Rec.call (Am.Run env) 35 [V.ptr t1, V.int IntKind.i64 t5] H' fun v_1 H' ↦
       req (V.isK Kind.str v_1)
       (req (Am.strOk H' (V.slPtr v) (V.slLen v))
        (br (!!Am.strEq (Am.strAt H' (V.slPtr v) (V.slLen v)) (V.getStr v_1))
        (req (Option.isSome t1)
         ((Am.Rec.call (Am.Run env) 25 [V.ptr t0, V.int IntKind.i64 t5] H' fun v H' ↦
          req (V.isK Kind.slice v)
          (req (Am.strOk H' (V.slPtr v) (V.slLen v))
           (req
           (Am.Heap.inb H' (Option.getD t1 (0, 0)).1 (Option.getD t1 (0, 0)).2 1 && V.isK Kind.slice (Am.Heap.cell H' (Option.getD t1 (0, 0)).1 (Option.getD t1 (0, 0)).2))
           (req
            (decide (0 ≤ t5) && decide (t5 < (↑(V.slLen (Am.Heap.cell H' (Option.getD t1 (0, 0)).1 (Option.getD t1 (0, 0)).2)) : Int)) &&
            Option.isSome (V.slPtr (Am.Heap.cell H' (Option.getD t1 (0, 0)).1 (Option.getD t1 (0, 0)).2)))
            (req
            (Am.Heap.inb H' (Option.getD (V.slPtr (Am.Heap.cell H' (Option.getD t1 (0, 0)).1 (Option.getD t1 (0, 0)).2)) (0, 0)).1
             ((Option.getD (V.slPtr (Am.Heap.cell H' (Option.getD t1 (0, 0)).1 (Option.getD t1 (0, 0)).2)) (0, 0)).2 + Int.toNat t5 * 1) 1 &&
             V.isK Kind.str
             (Am.Heap.cell H' (Option.getD (V.slPtr (Am.Heap.cell H' (Option.getD t1 (0, 0)).1 (Option.getD t1 (0, 0)).2)) (0, 0)).1
              ((Option.getD (V.slPtr (Am.Heap.cell H' (Option.getD t1 (0, 0)).1 (Option.getD t1 (0, 0)).2)) (0, 0)).2 + Int.toNat t5 * 1)))
            (Q
             (St.mk
             (Am.look
              [(53,
               T.v
               (V.bool
                !Am.strEq (Am.strAt H' (V.slPtr v) (V.slLen v))
                 (V.getStr
                 (Am.Heap.cell H' (Option.getD (V.slPtr (Am.Heap.cell H' (Option.getD t1 (0, 0)).1 (Option.getD t1 (0, 0)).2)) (0, 0)).1
                  ((Option.getD (V.slPtr (Am.Heap.cell H' (Option.getD t1 (0, 0)).1 (Option.getD t1 (0, 0)).2)) (0, 0)).2 + Int.toNat t5 * 1)))))])
             (Am.look []) H'))))))) ∧
         req (Am.Heap.inb H' (Option.getD t1 (0, 0)).1 (Option.getD t1 (0, 0)).2 1 && V.isK Kind.slice (Am.Heap.cell H' (Option.getD t1 (0, 0)).1 (Option.getD t1 (0, 0)).2))
          (req
          (decide (0 ≤ t5) && decide (t5 < (↑(V.slLen (Am.Heap.cell H' (Option.getD t1 (0, 0)).1 (Option.getD t1 (0, 0)).2)) : Int)) &&
           Option.isSome (V.slPtr (Am.Heap.cell H' (Option.getD t1 (0, 0)).1 (Option.getD t1 (0, 0)).2)))
          ((Am.Rec.call (Am.Run env) 25 [V.ptr t0, V.int IntKind.i64 t5] H' fun v H'_1 ↦
           req (V.isK Kind.slice v)
            (req (Am.strOk H'_1 (V.slPtr v) (V.slLen v))
            (req
             (Am.Heap.inb H'_1 (Option.getD (V.slPtr (Am.Heap.cell H' (Option.getD t1 (0, 0)).1 (Option.getD t1 (0, 0)).2)) (0, 0)).1
              ((Option.getD (V.slPtr (Am.Heap.cell H' (Option.getD t1 (0, 0)).1 (Option.getD t1 (0, 0)).2)) (0, 0)).2 + Int.toNat t5 * 1) 1 &&
             V.isK Kind.str
              (Am.Heap.cell H'_1 (Option.getD (V.slPtr (Am.Heap.cell H' (Option.getD t1 (0, 0)).1 (Option.getD t1 (0, 0)).2)) (0, 0)).1
              ((Option.getD (V.slPtr (Am.Heap.cell H' (Option.getD t1 (0, 0)).1 (Option.getD t1 (0, 0)).2)) (0, 0)).2 + Int.toNat t5 * 1)))
             (Q
             (St.mk
              (Am.look
              [(53,
               T.v
                (V.bool
                !Am.strEq (Am.strAt H'_1 (V.slPtr v) (V.slLen v))
                 (V.getStr
                  (Am.Heap.cell H'_1 (Option.getD (V.slPtr (Am.Heap.cell H' (Option.getD t1 (0, 0)).1 (Option.getD t1 (0, 0)).2)) (0, 0)).1
                  ((Option.getD (V.slPtr (Am.Heap.cell H' (Option.getD t1 (0, 0)).1 (Option.getD t1 (0, 0)).2)) (0, 0)).2 + Int.toNat t5 * 1)))))])
              (Am.look []) H'_1))))) ∧
           req
           (Am.Heap.inb H' (Option.getD (V.slPtr (Am.Heap.cell H' (Option.getD t1 (0, 0)).1 (Option.getD t1 (0, 0)).2)) (0, 0)).1
            ((Option.getD (V.slPtr (Am.Heap.cell H' (Option.getD t1 (0, 0)).1 (Option.getD t1 (0, 0)).2)) (0, 0)).2 + Int.toNat t5 * 1) 1 &&
            V.isK Kind.str
            (Am.Heap.cell H' (Option.getD (V.slPtr (Am.Heap.cell H' (Option.getD t1 (0, 0)).1 (Option.getD t1 (0, 0)).2)) (0, 0)).1
             ((Option.getD (V.slPtr (Am.Heap.cell H' (Option.getD t1 (0, 0)).1 (Option.getD t1 (0, 0)).2)) (0, 0)).2 + Int.toNat t5 * 1)))
           (Am.Rec.call (Am.Run env) 25 [V.ptr t0, V.int IntKind.i64 t5] H' fun v H'_1 ↦
            req (V.isK Kind.slice v)
            (req (Am.strOk H'_1 (V.slPtr v) (V.slLen v))
             (Q
             (St.mk
              (Am.look
              [(53,
               T.v
                (V.bool
                !Am.strEq (Am.strAt H'_1 (V.slPtr v) (V.slLen v))
                 (V.getStr
                  (Am.Heap.cell H' (Option.getD (V.slPtr (Am.Heap.cell H' (Option.getD t1 (0, 0)).1 (Option.getD t1 (0, 0)).2)) (0, 0)).1
                  ((Option.getD (V.slPtr (Am.Heap.cell H' (Option.getD t1 (0, 0)).1 (Option.getD t1 (0, 0)).2)) (0, 0)).2 + Int.toNat t5 * 1)))))])
              (Am.look []) H'_1))))))))
        (Q (St.mk (Am.look [(53, T.v (V.bool true))]) (Am.look []) H') ∧
         Q (St.mk (Am.look [(53, T.v (V.bool true))]) (Am.look []) H') ∧ Q (St.mk (Am.look [(53, T.v (V.bool true))]) (Am.look []) H'))))))
    fun S' ↦
    req (Am.isKT (KT.k Kind.bool) (S'.1 53) || false || false)
     (br (V.getBool (T.val (S'.1 53))) (Kr (St.mk (Am.look [(4, T.v (V.bool false))]) (Am.look []) S'.3))
     (Am.Rec.loop (Am.Run env) (Am.loopAt env 18 5) 18 5
      (St.mk (Am.look [(0, T.v (V.ptr t0)), (1, T.v (V.ptr t1)), (5, T.v (V.int IntKind.i64 (IntKind.wrap IntKind.i64 (t5 + 1))))]) (Am.look []) S'.3)
      Kr Ke)))
    (Ke 0 (St.mk (Am.look []) (Am.look []) H)))) :=
  fun t0 t1 t5 H Kr Ke => (Run_loop (E := env)).trans (by kernel_rfl)

theorem eq19 : ∀ (x0 : Option (Nat × Nat)) (H : Am.Heap) (K : Am.V → Am.Heap → Prop),
  Am.Rec.call (Am.Run env) 19 [V.ptr x0] H K =
  br (Option.isNone x0) (K (V.int IntKind.i64 0) H)
   (req (Option.isSome x0)
   (req (Am.Heap.inb H (Option.getD x0 (0, 0)).1 ((Option.getD x0 (0, 0)).2 + 1) 1 && V.isK Kind.ptr (Am.Heap.cell H (Option.getD x0 (0, 0)).1 ((Option.getD x0 (0, 0)).2 + 1)))
    (Am.Rec.call (Am.Run env) 39 [V.ptr (V.getPtr (Am.Heap.cell H (Option.getD x0 (0, 0)).1 ((Option.getD x0 (0, 0)).2 + 1)))] H fun v H' ↦
    req (V.isK (Kind.int IntKind.i64) v) (K (V.int IntKind.i64 (V.getInt v)) H')))) :=
  fun x0 H K => (Run_call (E := env)).trans (by kernel_rfl)

theorem eq20 : ∀ (x0 : Option (Nat × Nat)) (x1 : Bool) (H : Am.Heap) (K : Am.V → Am.Heap → Prop),
  Am.Rec.call (Am.Run env) 20 [V.ptr x0, V.bool x1] H K =
  br (Option.isNone x0) (K (V.tuple []) H)
   (req (Option.isSome x0)
   (req (Am.Heap.wr (Am.Heap.alloc H (Am.Obj.cells 67 [V.slice Option.none 0 0] false)) (Option.getD x0 (0, 0)).1 ((Option.getD x0 (0, 0)).2 + 1) 1)
    (req
    (Am.mergeR x1
     (Option.isSome x0 && true &&
     (Am.Heap.inb
       (Am.Heap.store (Am.Heap.alloc H (Am.Obj.cells 67 [V.slice Option.none 0 0] false)) (Option.getD x0 (0, 0)).1 ((Option.getD x0 (0, 0)).2 + 1)
        [V.ptr (Option.some (H.2, 0))])
       (Option.getD x0 (0, 0)).1 ((Option.getD x0 (0, 0)).2 + 2 + 11) 1 &&
       V.isK Kind.bool
       (Am.Heap.cell
        (Am.Heap.store (Am.Heap.alloc H (Am.Obj.cells 67 [V.slice Option.none 0 0] false)) (Option.getD x0 (0, 0)).1 ((Option.getD x0 (0, 0)).2 + 1)
        [V.ptr (Option.some (H.2, 0))])
        (Option.getD x0 (0, 0)).1 ((Option.getD x0 (0, 0)).2 + 2 + 11)) &&
      true &&
      true))
     true)
    (br
     (x1 &&
     !V.getBool
      (Am.Heap.cell
       (Am.Heap.store (Am.Heap.alloc H (Am.Obj.cells 67 [V.slice Option.none 0 0] false)) (Option.getD x0 (0, 0)).1 ((Option.getD x0 (0, 0)).2 + 1) [V.ptr (Option.some (H.2, 0))])
       (Option.getD x0 (0, 0)).1 ((Option.getD x0 (0, 0)).2 + 2 + 11)))
     (Am.Rec.call (Am.Run env) 26 []
     (Am.Heap.store (Am.Heap.alloc H (Am.Obj.cells 67 [V.slice Option.none 0 0] false)) (Option.getD x0 (0, 0)).1 ((Option.getD x0 (0, 0)).2 + 1) [V.ptr (Option.some (H.2, 0))])
     fun v H' ↦
     req (V.isAgg v && Am.fits k37 (V.aggCells v))
      (req (Option.isSome x0)
      (req (Am.Heap.wr H' (Option.getD x0 (0, 0)).1 ((Option.getD x0 (0, 0)).2 + 2) 12)
       (K (V.tuple []) (Am.Heap.store H' (Option.getD x0 (0, 0)).1 ((Option.getD x0 (0, 0)).2 + 2) (o37 (V.aggCells v)))))))
     (br x1
     (req (Option.isSome x0)
      (req
      (Am.Heap.wr
       (Am.Heap.store (Am.Heap.alloc H (Am.Obj.cells 67 [V.slice Option.none 0 0] false)) (Option.getD x0 (0, 0)).1 ((Option.getD x0 (0, 0)).2 + 1) [V.ptr (Option.some (H.2, 0))])
       (Option.getD x0 (0, 0)).1 ((Option.getD x0 (0, 0)).2 + 2 + 10) 1)
      (K (V.tuple [])
       (Am.Heap.store
       (Am.Heap.store (Am.Heap.alloc H (Am.Obj.cells 67 [V.slice Option.none 0 0] false)) (Option.getD x0 (0, 0)).1 ((Option.getD x0 (0, 0)).2 + 1)
        [V.ptr (Option.some (H.2, 0))])
       (Option.getD x0 (0, 0)).1 ((Option.getD x0 (0, 0)).2 + 2 + 10) [V.int IntKind.u32 0]))))
     (K (V.tuple [])
      (Am.Heap.store (Am.Heap.alloc H (Am.Obj.cells 67 [V.slice Option.none 0 0] false)) (Option.getD x0 (0, 0)).1 ((Option.getD x0 (0, 0)).2 + 1)
      [V.ptr (Option.some (H.2, 0))]))))))) :=
  fun x0 x1 H K => (Run_call (E := env)).trans (by kernel_rfl)

theorem eq21 : ∀ (x0 : Option (Nat × Nat)) (x1 : Bool) (H : Am.Heap) (K : Am.V → Am.Heap → Prop),
  Am.Rec.call (Am.Run env) 21 [V.ptr x0, V.bool x1] H K =
  req (Option.isSome x0)
   (req (Am.Heap.wr H (Option.getD x0 (0, 0)).1 ((Option.getD x0 (0, 0)).2 + 1) 1)
   (br x1
    (req (Option.isSome x0)
    (req
     (Am.Heap.inb (Am.Heap.store H (Option.getD x0 (0, 0)).1 ((Option.getD x0 (0, 0)).2 + 1) [V.slice Option.none 0 0]) (Option.getD x0 (0, 0)).1 ((Option.getD x0 (0, 0)).2 + 2) 12 &&
     Am.fits k37
      (Am.Heap.sub (Am.Heap.store H (Option.getD x0 (0, 0)).1 ((Option.getD x0 (0, 0)).2 + 1) [V.slice Option.none 0 0]) (Option.getD x0 (0, 0)).1 ((Option.getD x0 (0, 0)).2 + 2) 12))
     (Am.Rec.call (Am.Run env) 40
     [V.agg
      (o37
       (Am.Heap.sub (Am.Heap.store H (Option.getD x0 (0, 0)).1 ((Option.getD x0 (0, 0)).2 + 1) [V.slice Option.none 0 0]) (Option.getD x0 (0, 0)).1 ((Option.getD x0 (0, 0)).2 + 2) 12)),
      V.int IntKind.i64 0, V.int IntKind.i64 1]
     (Am.Heap.store H (Option.getD x0 (0, 0)).1 ((Option.getD x0 (0, 0)).2 + 1) [V.slice Option.none 0 0]) fun v H' ↦
     req (V.isAgg v && Am.fits k37 (V.aggCells v))
      (req (Option.isSome x0)
      (req (Am.Heap.wr H' (Option.getD x0 (0, 0)).1 ((Option.getD x0 (0, 0)).2 + 2) 12)
       (K (V.tuple []) (Am.Heap.store H' (Option.getD x0 (0, 0)).1 ((Option.getD x0 (0, 0)).2 + 2) (o37 (V.aggCells v)))))))))
    (K (V.tuple []) (Am.Heap.store H (Option.getD x0 (0, 0)).1 ((Option.getD x0 (0, 0)).2 + 1) [V.slice Option.none 0 0])))) :=
  fun x0 x1 H K => (Run_call (E := env)).trans (by kernel_rfl)

theorem eq22 : ∀ (x0 : Option (Nat × Nat)) (H : Am.Heap) (K : Am.V → Am.Heap → Prop),
  Am.Rec.call (Am.Run env) 22 [V.ptr x0] H K =
  br (!Option.isNone x0) (Am.Rec.call (Am.Run env) 29 [V.ptr x0] H fun v H' ↦ K (V.tuple []) H') (K (V.tuple []) H) :=
  fun x0 H K => (Run_call (E := env)).trans (by kernel_rfl)

theorem eq23 : ∀ (x0 : Option (Nat × Nat)) (H : Am.Heap) (K : Am.V → Am.Heap → Prop),
  Am.Rec.call (Am.Run env) 23 [V.ptr x0] H K =
  Am.Rec.loop (Am.Run env) (Am.loopAt env 23 0) 23 0 (St.mk (Am.look [(0, T.v (V.ptr x0))]) (Am.look []) H)
   (fun S' ↦ K (V.tuple []) S'.3) fun j S' ↦ br (Nat.beq j 0) (K (V.tuple []) S'.3) False :=
  fun x0 H K => (Run_call (E := env)).trans (by kernel_rfl)

theorem lp23_0 : ∀ (t0 : Option (Nat × Nat)) (H : Am.Heap) (Kr : Am.St → Prop) (Ke : Nat → Am.St → Prop),
  Am.Rec.loop (Am.Run env) (Am.loopAt env 23 0) 23 0 (St.mk (Am.look [(0, T.v (V.ptr t0))]) (Am.look []) H) Kr Ke =
  req (Option.isSome t0)
   (req (Am.Heap.inb H (Option.getD t0 (0, 0)).1 ((Option.getD t0 (0, 0)).2 + 1) 1 && V.isK Kind.slice (Am.Heap.cell H (Option.getD t0 (0, 0)).1 ((Option.getD t0 (0, 0)).2 + 1)))
   (br (decide ((↑(V.slLen (Am.Heap.cell H (Option.getD t0 (0, 0)).1 ((Option.getD t0 (0, 0)).2 + 1))) : Int) > 0))
    (Am.Rec.call (Am.Run env) 41 [V.ptr t0] H fun v H' ↦
    Am.Rec.loop (Am.Run env) (Am.loopAt env 23 0) 23 0 (St.mk (Am.look [(0, T.v (V.ptr t0))]) (Am.look []) H') Kr Ke)
    (Ke 0 (St.mk (Am.look []) (Am.look []) H)))) :=
  fun t0 H Kr Ke => (Run_loop (E := env)).trans (by kernel_rfl)

theorem eq24 : ∀ (x0_0 : Int) (x0_1p : Option (Nat × Nat)) (x0_1n x0_1c : Nat) (x0_2 x0_3 x0_4 x0_5 x0_6 x0_7 x0_8 x0_9 x0_10 x0_11 x0_12 : Int) (x0_13 : Bool) (x1 : Int) (x2 : ByteArray)
  (x3_0 x3_1 x3_2 x3_3 x3_4 x3_5 x3_6 x3_7 x3_8 x3_9 x3_10 : Int) (x3_11 : Bool) (H : Am.Heap) (K : Am.V → Am.Heap → Prop),
  Am.Rec.call (Am.Run env) 24
   [V.agg (c40 x0_0 x0_1p x0_1n x0_1c x0_2 x0_3 x0_4 x0_5 x0_6 x0_7 x0_8 x0_9 x0_10 x0_11 x0_12 x0_13), V.int IntKind.i64 x1, V.str x2,
   V.agg (c37 x3_0 x3_1 x3_2 x3_3 x3_4 x3_5 x3_6 x3_7 x3_8 x3_9 x3_10 x3_11)]
   H K =
  br (decide (x0_0 = x1))
   (req (Am.strOk H x0_1p x0_1n)
   (br (Am.strEq (Am.strAt H x0_1p x0_1n) x2)
    (K
    (V.bool
     (Am.cellsEq (c37 x0_2 x0_3 x0_4 x0_5 x0_6 x0_7 x0_8 x0_9 x0_10 x0_11 x0_12 x0_13)
     (c37 x3_0 x3_1 x3_2 x3_3 x3_4 x3_5 x3_6 x3_7 x3_8 x3_9 x3_10 x3_11)))
    H)
    (K (V.bool false) H)))
   (K (V.bool false) H) :=
  fun x0_0 x0_1p x0_1n x0_1c x0_2 x0_3 x0_4 x0_5 x0_6 x0_7 x0_8 x0_9 x0_10 x0_11 x0_12 x0_13 x1 x2 x3_0 x3_1 x3_2 x3_3 x3_4 x3_5 x3_6 x3_7 x3_8 x3_9 x3_10 x3_11 H K => (Run_call (E := env)).trans (by kernel_rfl)

theorem eq25 : ∀ (x0 : Option (Nat × Nat)) (x1 : Int) (H : Am.Heap) (K : Am.V → Am.Heap → Prop),
  Am.Rec.call (Am.Run env) 25 [V.ptr x0, V.int IntKind.i64 x1] H K =
  req
   (Am.mergeR (!Option.isNone x0)
   (Am.mergeR (!decide (x1 < 0))
    (Option.isSome x0 && true &&
    (Am.Heap.inb H (Option.getD x0 (0, 0)).1 (Option.getD x0 (0, 0)).2 1 && V.isK Kind.slice (Am.Heap.cell H (Option.getD x0 (0, 0)).1 (Option.getD x0 (0, 0)).2) && true && true))
    true)
   (Am.mergeR false
    (Option.isSome x0 && true &&
    (Am.Heap.inb H (Option.getD x0 (0, 0)).1 (Option.getD x0 (0, 0)).2 1 && V.isK Kind.slice (Am.Heap.cell H (Option.getD x0 (0, 0)).1 (Option.getD x0 (0, 0)).2) && true && true))
    true))
   (br
   (bif !Option.isNone x0 then bif !decide (x1 < 0) then decide (x1 ≥ (↑(V.slLen (Am.Heap.cell H (Option.getD x0 (0, 0)).1 (Option.getD x0 (0, 0)).2)) : Int)) else true
   else true)
   (K (V.slice Option.none 0 0) H)
   (req (Option.isSome x0)
    (req (Am.Heap.inb H (Option.getD x0 (0, 0)).1 (Option.getD x0 (0, 0)).2 1 && V.isK Kind.slice (Am.Heap.cell H (Option.getD x0 (0, 0)).1 (Option.getD x0 (0, 0)).2))
    (req
     (decide (0 ≤ x1) && decide (x1 < (↑(V.slLen (Am.Heap.cell H (Option.getD x0 (0, 0)).1 (Option.getD x0 (0, 0)).2)) : Int)) &&
     Option.isSome (V.slPtr (Am.Heap.cell H (Option.getD x0 (0, 0)).1 (Option.getD x0 (0, 0)).2)))
     (req
     (Am.Heap.inb H (Option.getD (V.slPtr (Am.Heap.cell H (Option.getD x0 (0, 0)).1 (Option.getD x0 (0, 0)).2)) (0, 0)).1
      ((Option.getD (V.slPtr (Am.Heap.cell H (Option.getD x0 (0, 0)).1 (Option.getD x0 (0, 0)).2)) (0, 0)).2 + Int.toNat x1 * 1) 1 &&
      V.isK Kind.slice
      (Am.Heap.cell H (Option.getD (V.slPtr (Am.Heap.cell H (Option.getD x0 (0, 0)).1 (Option.getD x0 (0, 0)).2)) (0, 0)).1
       ((Option.getD (V.slPtr (Am.Heap.cell H (Option.getD x0 (0, 0)).1 (Option.getD x0 (0, 0)).2)) (0, 0)).2 + Int.toNat x1 * 1)))
     (Am.Rec.call (Am.Run env) 32
      [V.slice
       (V.slPtr
       (Am.Heap.cell H (Option.getD (V.slPtr (Am.Heap.cell H (Option.getD x0 (0, 0)).1 (Option.getD x0 (0, 0)).2)) (0, 0)).1
        ((Option.getD (V.slPtr (Am.Heap.cell H (Option.getD x0 (0, 0)).1 (Option.getD x0 (0, 0)).2)) (0, 0)).2 + Int.toNat x1 * 1)))
       (V.slLen
       (Am.Heap.cell H (Option.getD (V.slPtr (Am.Heap.cell H (Option.getD x0 (0, 0)).1 (Option.getD x0 (0, 0)).2)) (0, 0)).1
        ((Option.getD (V.slPtr (Am.Heap.cell H (Option.getD x0 (0, 0)).1 (Option.getD x0 (0, 0)).2)) (0, 0)).2 + Int.toNat x1 * 1)))
       (V.slCap
       (Am.Heap.cell H (Option.getD (V.slPtr (Am.Heap.cell H (Option.getD x0 (0, 0)).1 (Option.getD x0 (0, 0)).2)) (0, 0)).1
        ((Option.getD (V.slPtr (Am.Heap.cell H (Option.getD x0 (0, 0)).1 (Option.getD x0 (0, 0)).2)) (0, 0)).2 + Int.toNat x1 * 1)))]
      H fun v H' ↦ req (V.isK Kind.slice v) (K (V.slice (V.slPtr v) (V.slLen v) (V.slCap v)) H'))))))) :=
  fun x0 x1 H K => (Run_call (E := env)).trans (by kernel_rfl)

theorem eq27 : ∀ (x0 x1_0 x1_1 : Int) (x1_2p : Option (Nat × Nat)) (x1_2n x1_2c : Nat) (x1_3 : Bool) (x1_4 x1_5 x1_6 : Int) (x1_7 : Bool) (x2 : Int) (H : Am.Heap) (K : Am.V → Am.Heap → Prop),
  Am.Rec.call (Am.Run env) 27
   [V.int IntKind.i64 x0, V.agg (c32 x1_0 x1_1 x1_2p x1_2n x1_2c x1_3 x1_4 x1_5 x1_6 x1_7), V.int IntKind.i64 x2] H K =
  K
   (V.bool
   (decide (x0 ≥ 0) &&
    (decide (x0 < 8) &&
    (decide (x1_0 ≤ 9) &&
     bif !!bif !decide (x1_0 = 0) then bif !decide (x1_0 = 1) then decide (x1_0 = 2) else true else true then
     decide (x1_1 ≥ 0) && (decide (x1_1 < x2) && bif !!decide (x1_0 = 1) then decide ((↑x1_2n : Int) ≤ 64) else true)
     else bif !!decide (x1_0 = 1) then decide ((↑x1_2n : Int) ≤ 64) else true))))
   H :=
  fun x0 x1_0 x1_1 x1_2p x1_2n x1_2c x1_3 x1_4 x1_5 x1_6 x1_7 x2 H K => (Run_call (E := env)).trans (by kernel_rfl)

theorem eq28 : ∀ (x0 : Option (Nat × Nat)) (x1_0 : Int) (x1_1p : Option (Nat × Nat)) (x1_1n x1_1c : Nat) (x1_2 x2 : Bool) (H : Am.Heap) (K : Am.V → Am.Heap → Prop),
  Am.Rec.call (Am.Run env) 28 [V.ptr x0, V.agg (c72 x1_0 x1_1p x1_1n x1_1c x1_2), V.bool x2] H K =
  br x2
   (req (Option.isSome x0)
   (req (Am.Heap.inb H (Option.getD x0 (0, 0)).1 ((Option.getD x0 (0, 0)).2 + 1) 1 && V.isK Kind.ptr (Am.Heap.cell H (Option.getD x0 (0, 0)).1 ((Option.getD x0 (0, 0)).2 + 1)))
    (Am.Rec.call (Am.Run env) 42 [V.ptr (V.getPtr (Am.Heap.cell H (Option.getD x0 (0, 0)).1 ((Option.getD x0 (0, 0)).2 + 1))), V.int IntKind.i64 x1_0] H
    fun v H' ↦
    Am.joinP
     (fun Q ↦
     req (Option.isSome x0)
      (req (Am.Heap.inb H' (Option.getD x0 (0, 0)).1 (Option.getD x0 (0, 0)).2 1 && V.isK Kind.slice (Am.Heap.cell H' (Option.getD x0 (0, 0)).1 (Option.getD x0 (0, 0)).2))
       (Am.Rec.call (Am.Run env) 32 [V.slice x1_1p x1_1n x1_1c] H' fun v H'_1 ↦
       req (V.isK Kind.slice v)
        (req
        (decide (0 ≤ x1_0) && decide (x1_0 < (↑(V.slLen (Am.Heap.cell H' (Option.getD x0 (0, 0)).1 (Option.getD x0 (0, 0)).2)) : Int)) &&
         Option.isSome (V.slPtr (Am.Heap.cell H' (Option.getD x0 (0, 0)).1 (Option.getD x0 (0, 0)).2)))
        (req
         (Am.Heap.wr H'_1 (Option.getD (V.slPtr (Am.Heap.cell H' (Option.getD x0 (0, 0)).1 (Option.getD x0 (0, 0)).2)) (0, 0)).1
         ((Option.getD (V.slPtr (Am.Heap.cell H' (Option.getD x0 (0, 0)).1 (Option.getD x0 (0, 0)).2)) (0, 0)).2 + Int.toNat x1_0 * 1) 1)
         (Q
         (St.mk (Am.look []) (Am.look [])
          (Am.Heap.store H'_1 (Option.getD (V.slPtr (Am.Heap.cell H' (Option.getD x0 (0, 0)).1 (Option.getD x0 (0, 0)).2)) (0, 0)).1
          ((Option.getD (V.slPtr (Am.Heap.cell H' (Option.getD x0 (0, 0)).1 (Option.getD x0 (0, 0)).2)) (0, 0)).2 + Int.toNat x1_0 * 1)
          [V.slice (V.slPtr v) (V.slLen v) (V.slCap v)])))))) ∧
      Am.Rec.call (Am.Run env) 32 [V.slice x1_1p x1_1n x1_1c] H' fun v H' ↦
       req (V.isK Kind.slice v)
       (req (Am.Heap.inb H' (Option.getD x0 (0, 0)).1 (Option.getD x0 (0, 0)).2 1 && V.isK Kind.slice (Am.Heap.cell H' (Option.getD x0 (0, 0)).1 (Option.getD x0 (0, 0)).2))
        (req
        (decide (0 ≤ x1_0) && decide (x1_0 < (↑(V.slLen (Am.Heap.cell H' (Option.getD x0 (0, 0)).1 (Option.getD x0 (0, 0)).2)) : Int)) &&
         Option.isSome (V.slPtr (Am.Heap.cell H' (Option.getD x0 (0, 0)).1 (Option.getD x0 (0, 0)).2)))
        (req
         (Am.Heap.wr H' (Option.getD (V.slPtr (Am.Heap.cell H' (Option.getD x0 (0, 0)).1 (Option.getD x0 (0, 0)).2)) (0, 0)).1
         ((Option.getD (V.slPtr (Am.Heap.cell H' (Option.getD x0 (0, 0)).1 (Option.getD x0 (0, 0)).2)) (0, 0)).2 + Int.toNat x1_0 * 1) 1)
         (Q
         (St.mk (Am.look []) (Am.look [])
          (Am.Heap.store H' (Option.getD (V.slPtr (Am.Heap.cell H' (Option.getD x0 (0, 0)).1 (Option.getD x0 (0, 0)).2)) (0, 0)).1
          ((Option.getD (V.slPtr (Am.Heap.cell H' (Option.getD x0 (0, 0)).1 (Option.getD x0 (0, 0)).2)) (0, 0)).2 + Int.toNat x1_0 * 1)
          [V.slice (V.slPtr v) (V.slLen v) (V.slCap v)]))))))))
     fun S' ↦ K (V.tuple []) S'.3)))
   (req (Option.isSome x0)
   (req (Am.Heap.inb H (Option.getD x0 (0, 0)).1 ((Option.getD x0 (0, 0)).2 + 1) 1 && V.isK Kind.ptr (Am.Heap.cell H (Option.getD x0 (0, 0)).1 ((Option.getD x0 (0, 0)).2 + 1)))
    (Am.Rec.call (Am.Run env) 43
    [V.ptr (V.getPtr (Am.Heap.cell H (Option.getD x0 (0, 0)).1 ((Option.getD x0 (0, 0)).2 + 1))), V.agg (c72 x1_0 x1_1p x1_1n x1_1c x1_2)] H fun v H' ↦
    req (V.isK (Kind.int IntKind.i64) v)
     (br (decide (V.getInt v = 11))
     (Am.Rec.call (Am.Run env) 29 [V.ptr x0] H' fun v H' ↦
      req (Option.isSome x0)
      (req (Am.Heap.inb H' (Option.getD x0 (0, 0)).1 ((Option.getD x0 (0, 0)).2 + 1) 1 && V.isK Kind.ptr (Am.Heap.cell H' (Option.getD x0 (0, 0)).1 ((Option.getD x0 (0, 0)).2 + 1)))
       (Am.Rec.call (Am.Run env) 43
       [V.ptr (V.getPtr (Am.Heap.cell H' (Option.getD x0 (0, 0)).1 ((Option.getD x0 (0, 0)).2 + 1))), V.agg (c72 x1_0 x1_1p x1_1n x1_1c x1_2)] H'
       fun v H' ↦ req (V.isK (Kind.int IntKind.i64) v) (K (V.tuple []) H'))))
     (K (V.tuple []) H'))))) :=
  fun x0 x1_0 x1_1p x1_1n x1_1c x1_2 x2 H K => (Run_call (E := env)).trans (by kernel_rfl)

theorem eq29 : ∀ (x0 : Option (Nat × Nat)) (H : Am.Heap) (K : Am.V → Am.Heap → Prop),
  Am.Rec.call (Am.Run env) 29 [V.ptr x0] H K =
  req (Option.isSome x0)
   (req (Am.Heap.inb H (Option.getD x0 (0, 0)).1 ((Option.getD x0 (0, 0)).2 + 1) 1 && V.isK Kind.ptr (Am.Heap.cell H (Option.getD x0 (0, 0)).1 ((Option.getD x0 (0, 0)).2 + 1)))
   (Am.Rec.call (Am.Run env) 44 [V.ptr (V.getPtr (Am.Heap.cell H (Option.getD x0 (0, 0)).1 ((Option.getD x0 (0, 0)).2 + 1)))] H fun v H' ↦
    req (V.isK Kind.slice v)
    (Am.Rec.loop (Am.Run env) (Am.loopAt env 29 1) 29 1
     (St.mk
     (Am.look
      [(0, T.v (V.ptr x0)), (8, T.v (V.slice (V.slPtr v) (V.slLen v) (V.slCap v))), (9, T.v (V.int IntKind.i64 (↑(V.slLen v) : Int))),
      (10, T.v (V.int IntKind.i64 0))])
     (Am.look []) H')
     (fun S' ↦ K (V.tuple []) S'.3) fun j S' ↦ br (Nat.beq j 0) (K (V.tuple []) S'.3) False))) :=
  fun x0 H K => (Run_call (E := env)).trans (by kernel_rfl)

theorem lp29_1 : ∀ (t0 t8_0 : Option (Nat × Nat)) (t8_1 t8_2 : Nat) (t9 t10 : Int) (H : Am.Heap) (Kr : Am.St → Prop) (Ke : Nat → Am.St → Prop),
  Am.Rec.loop (Am.Run env) (Am.loopAt env 29 1) 29 1
   (St.mk (Am.look [(0, T.v (V.ptr t0)), (8, T.v (V.slice t8_0 t8_1 t8_2)), (9, T.v (V.int IntKind.i64 t9)), (10, T.v (V.int IntKind.i64 t10))])
   (Am.look []) H)
   Kr Ke =
  br (decide (t10 < t9))
   (req (decide (0 ≤ t10) && decide (t10 < (↑t8_1 : Int)) && Option.isSome t8_0)
   (req
    (Am.Heap.inb H (Option.getD t8_0 (0, 0)).1 ((Option.getD t8_0 (0, 0)).2 + Int.toNat t10 * 3) 3 &&
    Am.fits k72 (Am.Heap.sub H (Option.getD t8_0 (0, 0)).1 ((Option.getD t8_0 (0, 0)).2 + Int.toNat t10 * 3) 3))
    (req (Option.isSome t0)
    (req (Am.Heap.inb H (Option.getD t0 (0, 0)).1 (Option.getD t0 (0, 0)).2 1 && V.isK Kind.slice (Am.Heap.cell H (Option.getD t0 (0, 0)).1 (Option.getD t0 (0, 0)).2))
     (req
     (decide (0 ≤ V.getInt (nthV (Am.Heap.sub H (Option.getD t8_0 (0, 0)).1 ((Option.getD t8_0 (0, 0)).2 + Int.toNat t10 * 3) 3) 0)) &&
      decide
       (V.getInt (nthV (Am.Heap.sub H (Option.getD t8_0 (0, 0)).1 ((Option.getD t8_0 (0, 0)).2 + Int.toNat t10 * 3) 3) 0) <
       (↑(V.slLen (Am.Heap.cell H (Option.getD t0 (0, 0)).1 (Option.getD t0 (0, 0)).2)) : Int)) &&
      Option.isSome (V.slPtr (Am.Heap.cell H (Option.getD t0 (0, 0)).1 (Option.getD t0 (0, 0)).2)))
     (req
      (Am.Heap.wr H (Option.getD (V.slPtr (Am.Heap.cell H (Option.getD t0 (0, 0)).1 (Option.getD t0 (0, 0)).2)) (0, 0)).1
      ((Option.getD (V.slPtr (Am.Heap.cell H (Option.getD t0 (0, 0)).1 (Option.getD t0 (0, 0)).2)) (0, 0)).2 +
       Int.toNat (V.getInt (nthV (Am.Heap.sub H (Option.getD t8_0 (0, 0)).1 ((Option.getD t8_0 (0, 0)).2 + Int.toNat t10 * 3) 3) 0)) * 1)
      1)
      (req (Option.isSome t0)
      (req
       (Am.Heap.inb
        (Am.Heap.store H (Option.getD (V.slPtr (Am.Heap.cell H (Option.getD t0 (0, 0)).1 (Option.getD t0 (0, 0)).2)) (0, 0)).1
        ((Option.getD (V.slPtr (Am.Heap.cell H (Option.getD t0 (0, 0)).1 (Option.getD t0 (0, 0)).2)) (0, 0)).2 +
         Int.toNat (V.getInt (nthV (Am.Heap.sub H (Option.getD t8_0 (0, 0)).1 ((Option.getD t8_0 (0, 0)).2 + Int.toNat t10 * 3) 3) 0)) * 1)
        [V.slice (V.slPtr (nthV (Am.Heap.sub H (Option.getD t8_0 (0, 0)).1 ((Option.getD t8_0 (0, 0)).2 + Int.toNat t10 * 3) 3) 1))
         (V.slLen (nthV (Am.Heap.sub H (Option.getD t8_0 (0, 0)).1 ((Option.getD t8_0 (0, 0)).2 + Int.toNat t10 * 3) 3) 1))
         (V.slCap (nthV (Am.Heap.sub H (Option.getD t8_0 (0, 0)).1 ((Option.getD t8_0 (0, 0)).2 + Int.toNat t10 * 3) 3) 1))])
        (Option.getD t0 (0, 0)).1 ((Option.getD t0 (0, 0)).2 + 1) 1 &&
       V.isK Kind.ptr
        (Am.Heap.cell
        (Am.Heap.store H (Option.getD (V.slPtr (Am.Heap.cell H (Option.getD t0 (0, 0)).1 (Option.getD t0 (0, 0)).2)) (0, 0)).1
         ((Option.getD (V.slPtr (Am.Heap.cell H (Option.getD t0 (0, 0)).1 (Option.getD t0 (0, 0)).2)) (0, 0)).2 +
         Int.toNat (V.getInt (nthV (Am.Heap.sub H (Option.getD t8_0 (0, 0)).1 ((Option.getD t8_0 (0, 0)).2 + Int.toNat t10 * 3) 3) 0)) * 1)
         [V.slice (V.slPtr (nthV (Am.Heap.sub H (Option.getD t8_0 (0, 0)).1 ((Option.getD t8_0 (0, 0)).2 + Int.toNat t10 * 3) 3) 1))
          (V.slLen (nthV (Am.Heap.sub H (Option.getD t8_0 (0, 0)).1 ((Option.getD t8_0 (0, 0)).2 + Int.toNat t10 * 3) 3) 1))
          (V.slCap (nthV (Am.Heap.sub H (Option.getD t8_0 (0, 0)).1 ((Option.getD t8_0 (0, 0)).2 + Int.toNat t10 * 3) 3) 1))])
        (Option.getD t0 (0, 0)).1 ((Option.getD t0 (0, 0)).2 + 1)))
       (Am.Rec.call (Am.Run env) 42
       [V.ptr
        (V.getPtr
         (Am.Heap.cell
         (Am.Heap.store H (Option.getD (V.slPtr (Am.Heap.cell H (Option.getD t0 (0, 0)).1 (Option.getD t0 (0, 0)).2)) (0, 0)).1
          ((Option.getD (V.slPtr (Am.Heap.cell H (Option.getD t0 (0, 0)).1 (Option.getD t0 (0, 0)).2)) (0, 0)).2 +
          Int.toNat (V.getInt (nthV (Am.Heap.sub H (Option.getD t8_0 (0, 0)).1 ((Option.getD t8_0 (0, 0)).2 + Int.toNat t10 * 3) 3) 0)) * 1)
          [V.slice (V.slPtr (nthV (Am.Heap.sub H (Option.getD t8_0 (0, 0)).1 ((Option.getD t8_0 (0, 0)).2 + Int.toNat t10 * 3) 3) 1))
           (V.slLen (nthV (Am.Heap.sub H (Option.getD t8_0 (0, 0)).1 ((Option.getD t8_0 (0, 0)).2 + Int.toNat t10 * 3) 3) 1))
           (V.slCap (nthV (Am.Heap.sub H (Option.getD t8_0 (0, 0)).1 ((Option.getD t8_0 (0, 0)).2 + Int.toNat t10 * 3) 3) 1))])
         (Option.getD t0 (0, 0)).1 ((Option.getD t0 (0, 0)).2 + 1))),
        V.int IntKind.i64 (V.getInt (nthV (Am.Heap.sub H (Option.getD t8_0 (0, 0)).1 ((Option.getD t8_0 (0, 0)).2 + Int.toNat t10 * 3) 3) 0))]
       (Am.Heap.store H (Option.getD (V.slPtr (Am.Heap.cell H (Option.getD t0 (0, 0)).1 (Option.getD t0 (0, 0)).2)) (0, 0)).1
        ((Option.getD (V.slPtr (Am.Heap.cell H (Option.getD t0 (0, 0)).1 (Option.getD t0 (0, 0)).2)) (0, 0)).2 +
        Int.toNat (V.getInt (nthV (Am.Heap.sub H (Option.getD t8_0 (0, 0)).1 ((Option.getD t8_0 (0, 0)).2 + Int.toNat t10 * 3) 3) 0)) * 1)
        [V.slice (V.slPtr (nthV (Am.Heap.sub H (Option.getD t8_0 (0, 0)).1 ((Option.getD t8_0 (0, 0)).2 + Int.toNat t10 * 3) 3) 1))
         (V.slLen (nthV (Am.Heap.sub H (Option.getD t8_0 (0, 0)).1 ((Option.getD t8_0 (0, 0)).2 + Int.toNat t10 * 3) 3) 1))
         (V.slCap (nthV (Am.Heap.sub H (Option.getD t8_0 (0, 0)).1 ((Option.getD t8_0 (0, 0)).2 + Int.toNat t10 * 3) 3) 1))])
       fun v H' ↦
       Am.Rec.loop (Am.Run env) (Am.loopAt env 29 1) 29 1
        (St.mk
        (Am.look
         [(0, T.v (V.ptr t0)), (8, T.v (V.slice t8_0 t8_1 t8_2)), (9, T.v (V.int IntKind.i64 t9)),
         (10, T.v (V.int IntKind.i64 (IntKind.wrap IntKind.i64 (t10 + 1))))])
        (Am.look []) H')
        Kr Ke)))))))))
   (Ke 0 (St.mk (Am.look []) (Am.look []) H)) :=
  fun t0 t8_0 t8_1 t8_2 t9 t10 H Kr Ke => (Run_loop (E := env)).trans (by kernel_rfl)

theorem eq33 : ∀ (x0 x1_0 x1_1 : Int) (x1_2p : Option (Nat × Nat)) (x1_2n x1_2c : Nat) (x1_3 : Bool) (x1_4 x1_5 x1_6 : Int) (x1_7 : Bool) (x2 : Int) (H : Am.Heap) (K : Am.V → Am.Heap → Prop),
  Am.Rec.call (Am.Run env) 33
   [V.int IntKind.i64 x0, V.agg (c32 x1_0 x1_1 x1_2p x1_2n x1_2c x1_3 x1_4 x1_5 x1_6 x1_7), V.int IntKind.i64 x2] H K =
  br (bif !decide (x0 < 0) then bif !decide (x0 > 7) then decide (x1_0 > 9) else true else true) (K (V.bool false) H)
   (br (decide (x1_0 < 3) && bif !decide (x1_1 < 0) then decide (x1_1 ≥ x2) else true) (K (V.bool false) H)
   (K (V.bool (bif !!decide (x1_0 = 1) then decide ((↑x1_2n : Int) ≤ 64) else true)) H)) :=
  fun x0 x1_0 x1_1 x1_2p x1_2n x1_2c x1_3 x1_4 x1_5 x1_6 x1_7 x2 H K => (Run_call (E := env)).trans (by kernel_rfl)

theorem eq34 : ∀ (x0_0 x0_1 x0_2 x0_3 x0_4 x0_5 x0_6 x0_7 x0_8 x0_9 x0_10 : Int) (x0_11 : Bool) (x1 x2_0 x2_1 : Int) (x2_2p : Option (Nat × Nat)) (x2_2n x2_2c : Nat) (x2_3 : Bool) (x2_4 x2_5 x2_6 : Int) (x2_7 : Bool) (H : Am.Heap)
  (K : Am.V → Am.Heap → Prop),
  Am.Rec.call (Am.Run env) 34
   [V.agg (c37 x0_0 x0_1 x0_2 x0_3 x0_4 x0_5 x0_6 x0_7 x0_8 x0_9 x0_10 x0_11), V.int IntKind.i64 x1,
   V.agg (c32 x2_0 x2_1 x2_2p x2_2n x2_2c x2_3 x2_4 x2_5 x2_6 x2_7)]
   H K =
  br (decide (x2_0 > 3)) (K (V.bool true) H)
   (Am.Rec.call (Am.Run env) 52
   [V.agg (c37 x0_0 x0_1 x0_2 x0_3 x0_4 x0_5 x0_6 x0_7 x0_8 x0_9 x0_10 x0_11), V.int IntKind.i64 x1, V.bool (decide (x2_0 > 0))] H fun v H' ↦
   req (V.isK Kind.bool v) (K (V.bool (V.getBool v)) H')) :=
  fun x0_0 x0_1 x0_2 x0_3 x0_4 x0_5 x0_6 x0_7 x0_8 x0_9 x0_10 x0_11 x1 x2_0 x2_1 x2_2p x2_2n x2_2c x2_3 x2_4 x2_5 x2_6 x2_7 H K => (Run_call (E := env)).trans (by kernel_rfl)

theorem eq35 : ∀ (x0 : Option (Nat × Nat)) (x1 : Int) (H : Am.Heap) (K : Am.V → Am.Heap → Prop),
  Am.Rec.call (Am.Run env) 35 [V.ptr x0, V.int IntKind.i64 x1] H K =
  Am.Rec.loop (Am.Run env) (Am.loopAt env 35 2) 35 2
   (St.mk (Am.look [(0, T.v (V.ptr x0)), (1, T.v (V.int IntKind.i64 x1)), (5, T.v (V.int IntKind.i64 0))]) (Am.look []) H)
   (fun S' ↦ req (Am.isKT (KT.k Kind.str) (S'.1 4) || false || false) (K (V.str (V.getStr (T.val (S'.1 4)))) S'.3)) fun j S' ↦
   br (Nat.beq j 0)
   (req (Am.isKT (KT.k Kind.ptr) (S'.1 0) && (Am.isKT (KT.k (Kind.int IntKind.i64)) (S'.1 1) || false) || false)
    (req (Option.isSome (V.getPtr (T.val (S'.1 0))))
    (req
     (Am.Heap.inb S'.3 (Option.getD (V.getPtr (T.val (S'.1 0))) (0, 0)).1 (Option.getD (V.getPtr (T.val (S'.1 0))) (0, 0)).2 1 &&
     V.isK Kind.slice (Am.Heap.cell S'.3 (Option.getD (V.getPtr (T.val (S'.1 0))) (0, 0)).1 (Option.getD (V.getPtr (T.val (S'.1 0))) (0, 0)).2))
     (req
     (decide (0 ≤ V.getInt (T.val (S'.1 1))) &&
      decide
       (V.getInt (T.val (S'.1 1)) <
       (↑(V.slLen (Am.Heap.cell S'.3 (Option.getD (V.getPtr (T.val (S'.1 0))) (0, 0)).1 (Option.getD (V.getPtr (T.val (S'.1 0))) (0, 0)).2)) : Int)) &&
      Option.isSome (V.slPtr (Am.Heap.cell S'.3 (Option.getD (V.getPtr (T.val (S'.1 0))) (0, 0)).1 (Option.getD (V.getPtr (T.val (S'.1 0))) (0, 0)).2)))
     (req
      (Am.Heap.inb S'.3
       (Option.getD (V.slPtr (Am.Heap.cell S'.3 (Option.getD (V.getPtr (T.val (S'.1 0))) (0, 0)).1 (Option.getD (V.getPtr (T.val (S'.1 0))) (0, 0)).2)) (0, 0)).1
       ((Option.getD (V.slPtr (Am.Heap.cell S'.3 (Option.getD (V.getPtr (T.val (S'.1 0))) (0, 0)).1 (Option.getD (V.getPtr (T.val (S'.1 0))) (0, 0)).2)) (0, 0)).2 +
       Int.toNat (V.getInt (T.val (S'.1 1))) * 1)
       1 &&
      V.isK Kind.str
       (Am.Heap.cell S'.3
       (Option.getD (V.slPtr (Am.Heap.cell S'.3 (Option.getD (V.getPtr (T.val (S'.1 0))) (0, 0)).1 (Option.getD (V.getPtr (T.val (S'.1 0))) (0, 0)).2)) (0, 0)).1
       ((Option.getD (V.slPtr (Am.Heap.cell S'.3 (Option.getD (V.getPtr (T.val (S'.1 0))) (0, 0)).1 (Option.getD (V.getPtr (T.val (S'.1 0))) (0, 0)).2)) (0, 0)).2 +
        Int.toNat (V.getInt (T.val (S'.1 1))) * 1)))
      (K
      (V.str
       (V.getStr
       (Am.Heap.cell S'.3
        (Option.getD (V.slPtr (Am.Heap.cell S'.3 (Option.getD (V.getPtr (T.val (S'.1 0))) (0, 0)).1 (Option.getD (V.getPtr (T.val (S'.1 0))) (0, 0)).2)) (0, 0)).1
        ((Option.getD (V.slPtr (Am.Heap.cell S'.3 (Option.getD (V.getPtr (T.val (S'.1 0))) (0, 0)).1 (Option.getD (V.getPtr (T.val (S'.1 0))) (0, 0)).2)) (0, 0)).2 +
        Int.toNat (V.getInt (T.val (S'.1 1))) * 1))))
      S'.3))))))
   False :=
  fun x0 x1 H K => (Run_call (E := env)).trans (by kernel_rfl)

theorem lp35_2 : ∀ (t0 : Option (Nat × Nat)) (t1 t5 : Int) (H : Am.Heap) (Kr : Am.St → Prop) (Ke : Nat → Am.St → Prop),
  Am.Rec.loop (Am.Run env) (Am.loopAt env 35 2) 35 2
   (St.mk (Am.look [(0, T.v (V.ptr t0)), (1, T.v (V.int IntKind.i64 t1)), (5, T.v (V.int IntKind.i64 t5))]) (Am.look []) H) Kr Ke =
  req (Option.isSome t0)
   (req (Am.Heap.inb H (Option.getD t0 (0, 0)).1 ((Option.getD t0 (0, 0)).2 + 1) 1 && V.isK Kind.slice (Am.Heap.cell H (Option.getD t0 (0, 0)).1 ((Option.getD t0 (0, 0)).2 + 1)))
   (br (decide (t5 < (↑(V.slLen (Am.Heap.cell H (Option.getD t0 (0, 0)).1 ((Option.getD t0 (0, 0)).2 + 1))) : Int)))
    (req (Option.isSome t0)
    (req (Am.Heap.inb H (Option.getD t0 (0, 0)).1 ((Option.getD t0 (0, 0)).2 + 1) 1 && V.isK Kind.slice (Am.Heap.cell H (Option.getD t0 (0, 0)).1 ((Option.getD t0 (0, 0)).2 + 1)))
     (req
     (decide (0 ≤ t5) && decide (t5 < (↑(V.slLen (Am.Heap.cell H (Option.getD t0 (0, 0)).1 ((Option.getD t0 (0, 0)).2 + 1))) : Int)) &&
      Option.isSome (V.slPtr (Am.Heap.cell H (Option.getD t0 (0, 0)).1 ((Option.getD t0 (0, 0)).2 + 1))))
     (req
      (Am.Heap.inb H (Option.getD (V.slPtr (Am.Heap.cell H (Option.getD t0 (0, 0)).1 ((Option.getD t0 (0, 0)).2 + 1))) (0, 0)).1
       ((Option.getD (V.slPtr (Am.Heap.cell H (Option.getD t0 (0, 0)).1 ((Option.getD t0 (0, 0)).2 + 1))) (0, 0)).2 + Int.toNat t5 * 2) 1 &&
      V.isK (Kind.int IntKind.i64)
       (Am.Heap.cell H (Option.getD (V.slPtr (Am.Heap.cell H (Option.getD t0 (0, 0)).1 ((Option.getD t0 (0, 0)).2 + 1))) (0, 0)).1
       ((Option.getD (V.slPtr (Am.Heap.cell H (Option.getD t0 (0, 0)).1 ((Option.getD t0 (0, 0)).2 + 1))) (0, 0)).2 + Int.toNat t5 * 2)))
      (br
      (decide
       (V.getInt
        (Am.Heap.cell H (Option.getD (V.slPtr (Am.Heap.cell H (Option.getD t0 (0, 0)).1 ((Option.getD t0 (0, 0)).2 + 1))) (0, 0)).1
        ((Option.getD (V.slPtr (Am.Heap.cell H (Option.getD t0 (0, 0)).1 ((Option.getD t0 (0, 0)).2 + 1))) (0, 0)).2 + Int.toNat t5 * 2)) =
       t1))
      (req (Option.isSome t0)
       (req
       (Am.Heap.inb H (Option.getD t0 (0, 0)).1 ((Option.getD t0 (0, 0)).2 + 1) 1 && V.isK Kind.slice (Am.Heap.cell H (Option.getD t0 (0, 0)).1 ((Option.getD t0 (0, 0)).2 + 1)))
       (req
        (decide (0 ≤ t5) && decide (t5 < (↑(V.slLen (Am.Heap.cell H (Option.getD t0 (0, 0)).1 ((Option.getD t0 (0, 0)).2 + 1))) : Int)) &&
        Option.isSome (V.slPtr (Am.Heap.cell H (Option.getD t0 (0, 0)).1 ((Option.getD t0 (0, 0)).2 + 1))))
        (req
        (Am.Heap.inb H (Option.getD (V.slPtr (Am.Heap.cell H (Option.getD t0 (0, 0)).1 ((Option.getD t0 (0, 0)).2 + 1))) (0, 0)).1
         ((Option.getD (V.slPtr (Am.Heap.cell H (Option.getD t0 (0, 0)).1 ((Option.getD t0 (0, 0)).2 + 1))) (0, 0)).2 + Int.toNat t5 * 2 + 1) 1 &&
         V.isK Kind.str
         (Am.Heap.cell H (Option.getD (V.slPtr (Am.Heap.cell H (Option.getD t0 (0, 0)).1 ((Option.getD t0 (0, 0)).2 + 1))) (0, 0)).1
          ((Option.getD (V.slPtr (Am.Heap.cell H (Option.getD t0 (0, 0)).1 ((Option.getD t0 (0, 0)).2 + 1))) (0, 0)).2 + Int.toNat t5 * 2 + 1)))
        (Kr
         (St.mk
         (Am.look
          [(4,
           T.v
           (V.str
            (V.getStr
            (Am.Heap.cell H (Option.getD (V.slPtr (Am.Heap.cell H (Option.getD t0 (0, 0)).1 ((Option.getD t0 (0, 0)).2 + 1))) (0, 0)).1
             ((Option.getD (V.slPtr (Am.Heap.cell H (Option.getD t0 (0, 0)).1 ((Option.getD t0 (0, 0)).2 + 1))) (0, 0)).2 + Int.toNat t5 * 2 + 1)))))])
         (Am.look []) H))))))
      (Am.Rec.loop (Am.Run env) (Am.loopAt env 35 2) 35 2
       (St.mk (Am.look [(0, T.v (V.ptr t0)), (1, T.v (V.int IntKind.i64 t1)), (5, T.v (V.int IntKind.i64 (IntKind.wrap IntKind.i64 (t5 + 1))))])
       (Am.look []) H)
       Kr Ke))))))
    (Ke 0 (St.mk (Am.look [(0, T.v (V.ptr t0)), (1, T.v (V.int IntKind.i64 t1))]) (Am.look []) H)))) :=
  fun t0 t1 t5 H Kr Ke => (Run_loop (E := env)).trans (by kernel_rfl)

theorem eq36 : ∀ (x0 : Option (Nat × Nat)) (x1 : Int) (x2 : ByteArray) (x3 : Bool) (H : Am.Heap) (K : Am.V → Am.Heap → Prop),
  Am.Rec.call (Am.Run env) 36 [V.ptr x0, V.int IntKind.i64 x1, V.str x2, V.bool x3] H K =
  Am.Rec.loop (Am.Run env) (Am.loopAt env 36 2) 36 2
   (St.mk
   (Am.look
    [(0, T.v (V.ptr x0)), (1, T.v (V.int IntKind.i64 x1)), (2, T.v (V.str x2)), (3, T.v (V.bool x3)), (8, T.v (V.bool false)),
    (9, T.v (V.int IntKind.i64 0))])
   (Am.look []) H)
   (fun S' ↦ K (V.tuple []) S'.3) fun j S' ↦
   br (Nat.beq j 0)
   (req
    (Am.isKT (KT.k Kind.ptr) (S'.1 0) &&
     (Am.isKT (KT.k (Kind.int IntKind.i64)) (S'.1 1) &&
     (Am.isKT (KT.k Kind.str) (S'.1 2) && (Am.isKT (KT.k Kind.bool) (S'.1 3) && (Am.isKT (KT.k Kind.bool) (S'.1 8) || false)))) ||
    false)
    (req
    (Am.mergeR (!V.getBool (T.val (S'.1 3)))
     (Am.mergeR (!V.getBool (T.val (S'.1 8)))
     (Option.isSome (V.getPtr (T.val (S'.1 0))) && true &&
      (Am.Heap.inb S'.3 (Option.getD (V.getPtr (T.val (S'.1 0))) (0, 0)).1 ((Option.getD (V.getPtr (T.val (S'.1 0))) (0, 0)).2 + 1) 1 &&
       V.isK Kind.slice (Am.Heap.cell S'.3 (Option.getD (V.getPtr (T.val (S'.1 0))) (0, 0)).1 ((Option.getD (V.getPtr (T.val (S'.1 0))) (0, 0)).2 + 1)) &&
       true &&
      true))
     true)
     (Am.mergeR false
     (Option.isSome (V.getPtr (T.val (S'.1 0))) && true &&
      (Am.Heap.inb S'.3 (Option.getD (V.getPtr (T.val (S'.1 0))) (0, 0)).1 ((Option.getD (V.getPtr (T.val (S'.1 0))) (0, 0)).2 + 1) 1 &&
       V.isK Kind.slice (Am.Heap.cell S'.3 (Option.getD (V.getPtr (T.val (S'.1 0))) (0, 0)).1 ((Option.getD (V.getPtr (T.val (S'.1 0))) (0, 0)).2 + 1)) &&
       true &&
      true))
     true))
    (Am.joinP
     (fun Q ↦
     br
      (!V.getBool (T.val (S'.1 3)) &&
      (!V.getBool (T.val (S'.1 8)) &&
       decide
       ((↑(V.slLen (Am.Heap.cell S'.3 (Option.getD (V.getPtr (T.val (S'.1 0))) (0, 0)).1 ((Option.getD (V.getPtr (T.val (S'.1 0))) (0, 0)).2 + 1))) : Int) = 8)))
      (Am.Rec.call (Am.Run env) 23 [V.ptr (V.getPtr (T.val (S'.1 0)))] S'.3 fun v H' ↦ Q (St.mk (Am.look []) (Am.look []) H'))
      (Q (St.mk (Am.look []) (Am.look []) S'.3)))
     fun S'_1 ↦
     Am.Rec.call (Am.Run env) 53 [V.ptr (V.getPtr (T.val (S'.1 0))), V.int IntKind.i64 (V.getInt (T.val (S'.1 1)))] S'_1.3 fun v H' ↦
     br (V.getBool (T.val (S'.1 3)))
      (req (Option.isSome (V.getPtr (T.val (S'.1 0))))
      (req
       (Am.Heap.inb H' (Option.getD (V.getPtr (T.val (S'.1 0))) (0, 0)).1 (Option.getD (V.getPtr (T.val (S'.1 0))) (0, 0)).2 1 &&
       V.isK Kind.slice (Am.Heap.cell H' (Option.getD (V.getPtr (T.val (S'.1 0))) (0, 0)).1 (Option.getD (V.getPtr (T.val (S'.1 0))) (0, 0)).2))
       (req
       (decide (0 ≤ V.getInt (T.val (S'.1 1))) &&
        decide
         (V.getInt (T.val (S'.1 1)) <
         (↑(V.slLen (Am.Heap.cell H' (Option.getD (V.getPtr (T.val (S'.1 0))) (0, 0)).1 (Option.getD (V.getPtr (T.val (S'.1 0))) (0, 0)).2)) : Int)) &&
        Option.isSome (V.slPtr (Am.Heap.cell H' (Option.getD (V.getPtr (T.val (S'.1 0))) (0, 0)).1 (Option.getD (V.getPtr (T.val (S'.1 0))) (0, 0)).2)))
       (req
        (Am.Heap.wr H'
        (Option.getD (V.slPtr (Am.Heap.cell H' (Option.getD (V.getPtr (T.val (S'.1 0))) (0, 0)).1 (Option.getD (V.getPtr (T.val (S'.1 0))) (0, 0)).2)) (0, 0)).1
        ((Option.getD (V.slPtr (Am.Heap.cell H' (Option.getD (V.getPtr (T.val (S'.1 0))) (0, 0)).1 (Option.getD (V.getPtr (T.val (S'.1 0))) (0, 0)).2)) (0, 0)).2 +
         Int.toNat (V.getInt (T.val (S'.1 1))) * 1)
        1)
        (K (V.tuple [])
        (Am.Heap.store H'
         (Option.getD (V.slPtr (Am.Heap.cell H' (Option.getD (V.getPtr (T.val (S'.1 0))) (0, 0)).1 (Option.getD (V.getPtr (T.val (S'.1 0))) (0, 0)).2)) (0, 0)).1
         ((Option.getD (V.slPtr (Am.Heap.cell H' (Option.getD (V.getPtr (T.val (S'.1 0))) (0, 0)).1 (Option.getD (V.getPtr (T.val (S'.1 0))) (0, 0)).2)) (0, 0)).2 +
         Int.toNat (V.getInt (T.val (S'.1 1))) * 1)
         [V.str (V.getStr (T.val (S'.1 2)))]))))))
      (req (Option.isSome (V.getPtr (T.val (S'.1 0))))
      (req
       (Am.Heap.inb H' (Option.getD (V.getPtr (T.val (S'.1 0))) (0, 0)).1 ((Option.getD (V.getPtr (T.val (S'.1 0))) (0, 0)).2 + 1) 1 &&
       V.isK Kind.slice (Am.Heap.cell H' (Option.getD (V.getPtr (T.val (S'.1 0))) (0, 0)).1 ((Option.getD (V.getPtr (T.val (S'.1 0))) (0, 0)).2 + 1)))
       (Am.appendOp env [48, 48]
       [V.slice (V.slPtr (Am.Heap.cell H' (Option.getD (V.getPtr (T.val (S'.1 0))) (0, 0)).1 ((Option.getD (V.getPtr (T.val (S'.1 0))) (0, 0)).2 + 1)))
        (V.slLen (Am.Heap.cell H' (Option.getD (V.getPtr (T.val (S'.1 0))) (0, 0)).1 ((Option.getD (V.getPtr (T.val (S'.1 0))) (0, 0)).2 + 1)))
        (V.slCap (Am.Heap.cell H' (Option.getD (V.getPtr (T.val (S'.1 0))) (0, 0)).1 ((Option.getD (V.getPtr (T.val (S'.1 0))) (0, 0)).2 + 1))),
        V.slice (Option.some (H'.2, 0)) 1 1]
       (Am.Heap.alloc H' (Am.Obj.cells 96 (c95 (V.getInt (T.val (S'.1 1))) (V.getStr (T.val (S'.1 2)))) false)) fun q n c H' ↦
       req (Option.isSome (V.getPtr (T.val (S'.1 0))))
        (req (Am.Heap.wr H' (Option.getD (V.getPtr (T.val (S'.1 0))) (0, 0)).1 ((Option.getD (V.getPtr (T.val (S'.1 0))) (0, 0)).2 + 1) 1)
        (K (V.tuple [])
         (Am.Heap.store H' (Option.getD (V.getPtr (T.val (S'.1 0))) (0, 0)).1 ((Option.getD (V.getPtr (T.val (S'.1 0))) (0, 0)).2 + 1) [V.slice q n c])))))))))
   False :=
  fun x0 x1 x2 x3 H K => (Run_call (E := env)).trans (by kernel_rfl)

theorem lp36_2 : ∀ (t0 : Option (Nat × Nat)) (t1 : Int) (t2 : ByteArray) (t3 t8 : Bool) (t9 : Int) (H : Am.Heap) (Kr : Am.St → Prop) (Ke : Nat → Am.St → Prop),
  Am.Rec.loop (Am.Run env) (Am.loopAt env 36 2) 36 2
   (St.mk
   (Am.look
    [(0, T.v (V.ptr t0)), (1, T.v (V.int IntKind.i64 t1)), (2, T.v (V.str t2)), (3, T.v (V.bool t3)), (8, T.v (V.bool t8)),
    (9, T.v (V.int IntKind.i64 t9))])
   (Am.look []) H)
   Kr Ke =
  req (Option.isSome t0)
   (req (Am.Heap.inb H (Option.getD t0 (0, 0)).1 ((Option.getD t0 (0, 0)).2 + 1) 1 && V.isK Kind.slice (Am.Heap.cell H (Option.getD t0 (0, 0)).1 ((Option.getD t0 (0, 0)).2 + 1)))
   (br (decide (t9 < (↑(V.slLen (Am.Heap.cell H (Option.getD t0 (0, 0)).1 ((Option.getD t0 (0, 0)).2 + 1))) : Int)))
    (req
    (Am.mergeR (!t8)
     (Option.isSome t0 && true &&
     (Am.Heap.inb H (Option.getD t0 (0, 0)).1 ((Option.getD t0 (0, 0)).2 + 1) 1 && V.isK Kind.slice (Am.Heap.cell H (Option.getD t0 (0, 0)).1 ((Option.getD t0 (0, 0)).2 + 1)) && true &&
      (decide (0 ≤ t9) && decide (t9 < (↑(V.slLen (Am.Heap.cell H (Option.getD t0 (0, 0)).1 ((Option.getD t0 (0, 0)).2 + 1))) : Int)) &&
       Option.isSome (V.slPtr (Am.Heap.cell H (Option.getD t0 (0, 0)).1 ((Option.getD t0 (0, 0)).2 + 1))) &&
       true &&
      (Am.Heap.inb H (Option.getD (V.slPtr (Am.Heap.cell H (Option.getD t0 (0, 0)).1 ((Option.getD t0 (0, 0)).2 + 1))) (0, 0)).1
        ((Option.getD (V.slPtr (Am.Heap.cell H (Option.getD t0 (0, 0)).1 ((Option.getD t0 (0, 0)).2 + 1))) (0, 0)).2 + Int.toNat t9 * 2) 1 &&
        V.isK (Kind.int IntKind.i64)
        (Am.Heap.cell H (Option.getD (V.slPtr (Am.Heap.cell H (Option.getD t0 (0, 0)).1 ((Option.getD t0 (0, 0)).2 + 1))) (0, 0)).1
         ((Option.getD (V.slPtr (Am.Heap.cell H (Option.getD t0 (0, 0)).1 ((Option.getD t0 (0, 0)).2 + 1))) (0, 0)).2 + Int.toNat t9 * 2)) &&
       true &&
       true))))
     true)
    (Am.Rec.loop (Am.Run env) (Am.loopAt env 36 2) 36 2
     (St.mk
     (Am.look
      [(0, T.v (V.ptr t0)), (1, T.v (V.int IntKind.i64 t1)), (2, T.v (V.str t2)), (3, T.v (V.bool t3)),
      (8,
       T.v
       (V.bool
        (bif !t8 then
        decide
         (V.getInt
          (Am.Heap.cell H (Option.getD (V.slPtr (Am.Heap.cell H (Option.getD t0 (0, 0)).1 ((Option.getD t0 (0, 0)).2 + 1))) (0, 0)).1
          ((Option.getD (V.slPtr (Am.Heap.cell H (Option.getD t0 (0, 0)).1 ((Option.getD t0 (0, 0)).2 + 1))) (0, 0)).2 + Int.toNat t9 * 2)) =
         t1)
        else true))),
      (9, T.v (V.int IntKind.i64 (IntKind.wrap IntKind.i64 (t9 + 1))))])
     (Am.look []) H)
     Kr Ke))
    (Ke 0
    (St.mk (Am.look [(0, T.v (V.ptr t0)), (1, T.v (V.int IntKind.i64 t1)), (2, T.v (V.str t2)), (3, T.v (V.bool t3)), (8, T.v (V.bool t8))])
     (Am.look []) H)))) :=
  fun t0 t1 t2 t3 t8 t9 H Kr Ke => (Run_loop (E := env)).trans (by kernel_rfl)

theorem eq41 : ∀ (x0 : Option (Nat × Nat)) (H : Am.Heap) (K : Am.V → Am.Heap → Prop),
  Am.Rec.call (Am.Run env) 41 [V.ptr x0] H K =
  Am.Rec.loop (Am.Run env) (Am.loopAt env 41 2) 41 2
   (St.mk (Am.look [(0, T.v (V.ptr x0)), (2, T.v (V.int IntKind.i64 0)), (3, T.v (V.int IntKind.i64 0))]) (Am.look []) H) (fun S' ↦ K (V.tuple []) S'.3)
   fun j S' ↦
   br (Nat.beq j 0)
   (req (Am.isKT (KT.k Kind.ptr) (S'.1 0) && (Am.isKT (KT.k (Kind.int IntKind.i64)) (S'.1 2) || false) || false)
    (req (Option.isSome (V.getPtr (T.val (S'.1 0))))
    (req
     (Am.Heap.inb S'.3 (Option.getD (V.getPtr (T.val (S'.1 0))) (0, 0)).1 (Option.getD (V.getPtr (T.val (S'.1 0))) (0, 0)).2 1 &&
     V.isK Kind.slice (Am.Heap.cell S'.3 (Option.getD (V.getPtr (T.val (S'.1 0))) (0, 0)).1 (Option.getD (V.getPtr (T.val (S'.1 0))) (0, 0)).2))
     (req (Option.isSome (V.getPtr (T.val (S'.1 0))))
     (req
      (Am.Heap.inb S'.3 (Option.getD (V.getPtr (T.val (S'.1 0))) (0, 0)).1 ((Option.getD (V.getPtr (T.val (S'.1 0))) (0, 0)).2 + 1) 1 &&
      V.isK Kind.slice (Am.Heap.cell S'.3 (Option.getD (V.getPtr (T.val (S'.1 0))) (0, 0)).1 ((Option.getD (V.getPtr (T.val (S'.1 0))) (0, 0)).2 + 1)))
      (req
      (decide (0 ≤ V.getInt (T.val (S'.1 2))) &&
       decide
        (V.getInt (T.val (S'.1 2)) <
        (↑(V.slLen (Am.Heap.cell S'.3 (Option.getD (V.getPtr (T.val (S'.1 0))) (0, 0)).1 ((Option.getD (V.getPtr (T.val (S'.1 0))) (0, 0)).2 + 1))) : Int)) &&
       Option.isSome (V.slPtr (Am.Heap.cell S'.3 (Option.getD (V.getPtr (T.val (S'.1 0))) (0, 0)).1 ((Option.getD (V.getPtr (T.val (S'.1 0))) (0, 0)).2 + 1))))
      (req
       (Am.Heap.inb S'.3
        (Option.getD (V.slPtr (Am.Heap.cell S'.3 (Option.getD (V.getPtr (T.val (S'.1 0))) (0, 0)).1 ((Option.getD (V.getPtr (T.val (S'.1 0))) (0, 0)).2 + 1))) (0, 0)).1
        ((Option.getD (V.slPtr (Am.Heap.cell S'.3 (Option.getD (V.getPtr (T.val (S'.1 0))) (0, 0)).1 ((Option.getD (V.getPtr (T.val (S'.1 0))) (0, 0)).2 + 1)))
         (0, 0)).2 +
        Int.toNat (V.getInt (T.val (S'.1 2))) * 2)
        1 &&
       V.isK (Kind.int IntKind.i64)
        (Am.Heap.cell S'.3
        (Option.getD (V.slPtr (Am.Heap.cell S'.3 (Option.getD (V.getPtr (T.val (S'.1 0))) (0, 0)).1 ((Option.getD (V.getPtr (T.val (S'.1 0))) (0, 0)).2 + 1)))
         (0, 0)).1
        ((Option.getD (V.slPtr (Am.Heap.cell S'.3 (Option.getD (V.getPtr (T.val (S'.1 0))) (0, 0)).1 ((Option.getD (V.getPtr (T.val (S'.1 0))) (0, 0)).2 + 1)))
          (0, 0)).2 +
         Int.toNat (V.getInt (T.val (S'.1 2))) * 2)))
       (req (Option.isSome (V.getPtr (T.val (S'.1 0))))
       (req
        (Am.Heap.inb S'.3 (Option.getD (V.getPtr (T.val (S'.1 0))) (0, 0)).1 ((Option.getD (V.getPtr (T.val (S'.1 0))) (0, 0)).2 + 1) 1 &&
        V.isK Kind.slice (Am.Heap.cell S'.3 (Option.getD (V.getPtr (T.val (S'.1 0))) (0, 0)).1 ((Option.getD (V.getPtr (T.val (S'.1 0))) (0, 0)).2 + 1)))
        (req
        (decide (0 ≤ V.getInt (T.val (S'.1 2))) &&
         decide
          (V.getInt (T.val (S'.1 2)) <
          (↑(V.slLen (Am.Heap.cell S'.3 (Option.getD (V.getPtr (T.val (S'.1 0))) (0, 0)).1 ((Option.getD (V.getPtr (T.val (S'.1 0))) (0, 0)).2 + 1))) : Int)) &&
         Option.isSome (V.slPtr (Am.Heap.cell S'.3 (Option.getD (V.getPtr (T.val (S'.1 0))) (0, 0)).1 ((Option.getD (V.getPtr (T.val (S'.1 0))) (0, 0)).2 + 1))))
        (req
         (Am.Heap.inb S'.3
          (Option.getD (V.slPtr (Am.Heap.cell S'.3 (Option.getD (V.getPtr (T.val (S'.1 0))) (0, 0)).1 ((Option.getD (V.getPtr (T.val (S'.1 0))) (0, 0)).2 + 1)))
           (0, 0)).1
          ((Option.getD (V.slPtr (Am.Heap.cell S'.3 (Option.getD (V.getPtr (T.val (S'.1 0))) (0, 0)).1 ((Option.getD (V.getPtr (T.val (S'.1 0))) (0, 0)).2 + 1)))
            (0, 0)).2 +
           Int.toNat (V.getInt (T.val (S'.1 2))) * 2 +
          1)
          1 &&
         V.isK Kind.str
          (Am.Heap.cell S'.3
          (Option.getD (V.slPtr (Am.Heap.cell S'.3 (Option.getD (V.getPtr (T.val (S'.1 0))) (0, 0)).1 ((Option.getD (V.getPtr (T.val (S'.1 0))) (0, 0)).2 + 1)))
           (0, 0)).1
          ((Option.getD (V.slPtr (Am.Heap.cell S'.3 (Option.getD (V.getPtr (T.val (S'.1 0))) (0, 0)).1 ((Option.getD (V.getPtr (T.val (S'.1 0))) (0, 0)).2 + 1)))
            (0, 0)).2 +
           Int.toNat (V.getInt (T.val (S'.1 2))) * 2 +
           1)))
         (req
         (decide
           (0 ≤
           V.getInt
            (Am.Heap.cell S'.3
            (Option.getD
             (V.slPtr (Am.Heap.cell S'.3 (Option.getD (V.getPtr (T.val (S'.1 0))) (0, 0)).1 ((Option.getD (V.getPtr (T.val (S'.1 0))) (0, 0)).2 + 1)))
             (0, 0)).1
            ((Option.getD
              (V.slPtr (Am.Heap.cell S'.3 (Option.getD (V.getPtr (T.val (S'.1 0))) (0, 0)).1 ((Option.getD (V.getPtr (T.val (S'.1 0))) (0, 0)).2 + 1)))
              (0, 0)).2 +
             Int.toNat (V.getInt (T.val (S'.1 2))) * 2))) &&
          decide
           (V.getInt
            (Am.Heap.cell S'.3
            (Option.getD
             (V.slPtr (Am.Heap.cell S'.3 (Option.getD (V.getPtr (T.val (S'.1 0))) (0, 0)).1 ((Option.getD (V.getPtr (T.val (S'.1 0))) (0, 0)).2 + 1)))
             (0, 0)).1
            ((Option.getD
              (V.slPtr (Am.Heap.cell S'.3 (Option.getD (V.getPtr (T.val (S'.1 0))) (0, 0)).1 ((Option.getD (V.getPtr (T.val (S'.1 0))) (0, 0)).2 + 1)))
              (0, 0)).2 +
             Int.toNat (V.getInt (T.val (S'.1 2))) * 2)) <
           (↑(V.slLen (Am.Heap.cell S'.3 (Option.getD (V.getPtr (T.val (S'.1 0))) (0, 0)).1 (Option.getD (V.getPtr (T.val (S'.1 0))) (0, 0)).2)) : Int)) &&
          Option.isSome (V.slPtr (Am.Heap.cell S'.3 (Option.getD (V.getPtr (T.val (S'.1 0))) (0, 0)).1 (Option.getD (V.getPtr (T.val (S'.1 0))) (0, 0)).2)))
         (req
          (Am.Heap.wr S'.3
          (Option.getD (V.slPtr (Am.Heap.cell S'.3 (Option.getD (V.getPtr (T.val (S'.1 0))) (0, 0)).1 (Option.getD (V.getPtr (T.val (S'.1 0))) (0, 0)).2))
           (0, 0)).1
          ((Option.getD (V.slPtr (Am.Heap.cell S'.3 (Option.getD (V.getPtr (T.val (S'.1 0))) (0, 0)).1 (Option.getD (V.getPtr (T.val (S'.1 0))) (0, 0)).2))
            (0, 0)).2 +
           Int.toNat
            (V.getInt
            (Am.Heap.cell S'.3
             (Option.getD
              (V.slPtr (Am.Heap.cell S'.3 (Option.getD (V.getPtr (T.val (S'.1 0))) (0, 0)).1 ((Option.getD (V.getPtr (T.val (S'.1 0))) (0, 0)).2 + 1)))
              (0, 0)).1
             ((Option.getD
              (V.slPtr
               (Am.Heap.cell S'.3 (Option.getD (V.getPtr (T.val (S'.1 0))) (0, 0)).1 ((Option.getD (V.getPtr (T.val (S'.1 0))) (0, 0)).2 + 1)))
              (0, 0)).2 +
             Int.toNat (V.getInt (T.val (S'.1 2))) * 2))) *
           1)
          1)
          (req (Option.isSome (V.getPtr (T.val (S'.1 0))))
          (req
           (Am.Heap.inb
            (Am.Heap.store S'.3
            (Option.getD
             (V.slPtr (Am.Heap.cell S'.3 (Option.getD (V.getPtr (T.val (S'.1 0))) (0, 0)).1 (Option.getD (V.getPtr (T.val (S'.1 0))) (0, 0)).2))
             (0, 0)).1
            ((Option.getD
              (V.slPtr (Am.Heap.cell S'.3 (Option.getD (V.getPtr (T.val (S'.1 0))) (0, 0)).1 (Option.getD (V.getPtr (T.val (S'.1 0))) (0, 0)).2))
              (0, 0)).2 +
             Int.toNat
              (V.getInt
              (Am.Heap.cell S'.3
               (Option.getD
                (V.slPtr
                (Am.Heap.cell S'.3 (Option.getD (V.getPtr (T.val (S'.1 0))) (0, 0)).1 ((Option.getD (V.getPtr (T.val (S'.1 0))) (0, 0)).2 + 1)))
                (0, 0)).1
               ((Option.getD
                (V.slPtr
                 (Am.Heap.cell S'.3 (Option.getD (V.getPtr (T.val (S'.1 0))) (0, 0)).1 ((Option.getD (V.getPtr (T.val (S'.1 0))) (0, 0)).2 + 1)))
                (0, 0)).2 +
               Int.toNat (V.getInt (T.val (S'.1 2))) * 2))) *
             1)
            [V.str
             (V.getStr
              (Am.Heap.cell S'.3
              (Option.getD
               (V.slPtr
                (Am.Heap.cell S'.3 (Option.getD (V.getPtr (T.val (S'.1 0))) (0, 0)).1 ((Option.getD (V.getPtr (T.val (S'.1 0))) (0, 0)).2 + 1)))
               (0, 0)).1
              ((Option.getD
                (V.slPtr
                 (Am.Heap.cell S'.3 (Option.getD (V.getPtr (T.val (S'.1 0))) (0, 0)).1 ((Option.getD (V.getPtr (T.val (S'.1 0))) (0, 0)).2 + 1)))
                (0, 0)).2 +
               Int.toNat (V.getInt (T.val (S'.1 2))) * 2 +
               1)))])
            (Option.getD (V.getPtr (T.val (S'.1 0))) (0, 0)).1 ((Option.getD (V.getPtr (T.val (S'.1 0))) (0, 0)).2 + 1) 1 &&
           V.isK Kind.slice
            (Am.Heap.cell
            (Am.Heap.store S'.3
             (Option.getD
              (V.slPtr (Am.Heap.cell S'.3 (Option.getD (V.getPtr (T.val (S'.1 0))) (0, 0)).1 (Option.getD (V.getPtr (T.val (S'.1 0))) (0, 0)).2))
              (0, 0)).1
             ((Option.getD
              (V.slPtr (Am.Heap.cell S'.3 (Option.getD (V.getPtr (T.val (S'.1 0))) (0, 0)).1 (Option.getD (V.getPtr (T.val (S'.1 0))) (0, 0)).2))
              (0, 0)).2 +
             Int.toNat
              (V.getInt
               (Am.Heap.cell S'.3
               (Option.getD
                (V.slPtr
                 (Am.Heap.cell S'.3 (Option.getD (V.getPtr (T.val (S'.1 0))) (0, 0)).1 ((Option.getD (V.getPtr (T.val (S'.1 0))) (0, 0)).2 + 1)))
                (0, 0)).1
               ((Option.getD
                 (V.slPtr
                 (Am.Heap.cell S'.3 (Option.getD (V.getPtr (T.val (S'.1 0))) (0, 0)).1 ((Option.getD (V.getPtr (T.val (S'.1 0))) (0, 0)).2 + 1)))
                 (0, 0)).2 +
                Int.toNat (V.getInt (T.val (S'.1 2))) * 2))) *
              1)
             [V.str
              (V.getStr
              (Am.Heap.cell S'.3
               (Option.getD
                (V.slPtr
                (Am.Heap.cell S'.3 (Option.getD (V.getPtr (T.val (S'.1 0))) (0, 0)).1 ((Option.getD (V.getPtr (T.val (S'.1 0))) (0, 0)).2 + 1)))
                (0, 0)).1
               ((Option.getD
                 (V.slPtr
                 (Am.Heap.cell S'.3 (Option.getD (V.getPtr (T.val (S'.1 0))) (0, 0)).1 ((Option.getD (V.getPtr (T.val (S'.1 0))) (0, 0)).2 + 1)))
                 (0, 0)).2 +
                Int.toNat (V.getInt (T.val (S'.1 2))) * 2 +
               1)))])
            (Option.getD (V.getPtr (T.val (S'.1 0))) (0, 0)).1 ((Option.getD (V.getPtr (T.val (S'.1 0))) (0, 0)).2 + 1)))
           (req
           (decide (0 ≤ V.getInt (T.val (S'.1 2))) &&
            decide
             (V.getInt (T.val (S'.1 2)) <
             (↑(V.slLen
               (Am.Heap.cell
               (Am.Heap.store S'.3
                (Option.getD
                 (V.slPtr
                 (Am.Heap.cell S'.3 (Option.getD (V.getPtr (T.val (S'.1 0))) (0, 0)).1 (Option.getD (V.getPtr (T.val (S'.1 0))) (0, 0)).2))
                 (0, 0)).1
                ((Option.getD
                 (V.slPtr
                  (Am.Heap.cell S'.3 (Option.getD (V.getPtr (T.val (S'.1 0))) (0, 0)).1 (Option.getD (V.getPtr (T.val (S'.1 0))) (0, 0)).2))
                 (0, 0)).2 +
                Int.toNat
                 (V.getInt
                  (Am.Heap.cell S'.3
                  (Option.getD
                   (V.slPtr
                    (Am.Heap.cell S'.3 (Option.getD (V.getPtr (T.val (S'.1 0))) (0, 0)).1
                    ((Option.getD (V.getPtr (T.val (S'.1 0))) (0, 0)).2 + 1)))
                   (0, 0)).1
                  ((Option.getD
                    (V.slPtr
                    (Am.Heap.cell S'.3 (Option.getD (V.getPtr (T.val (S'.1 0))) (0, 0)).1
                     ((Option.getD (V.getPtr (T.val (S'.1 0))) (0, 0)).2 + 1)))
                    (0, 0)).2 +
                   Int.toNat (V.getInt (T.val (S'.1 2))) * 2))) *
                 1)
                [V.str
                 (V.getStr
                 (Am.Heap.cell S'.3
                  (Option.getD
                   (V.slPtr
                   (Am.Heap.cell S'.3 (Option.getD (V.getPtr (T.val (S'.1 0))) (0, 0)).1
                    ((Option.getD (V.getPtr (T.val (S'.1 0))) (0, 0)).2 + 1)))
                   (0, 0)).1
                  ((Option.getD
                    (V.slPtr
                    (Am.Heap.cell S'.3 (Option.getD (V.getPtr (T.val (S'.1 0))) (0, 0)).1
                     ((Option.getD (V.getPtr (T.val (S'.1 0))) (0, 0)).2 + 1)))
                    (0, 0)).2 +
                   Int.toNat (V.getInt (T.val (S'.1 2))) * 2 +
                  1)))])
               (Option.getD (V.getPtr (T.val (S'.1 0))) (0, 0)).1 ((Option.getD (V.getPtr (T.val (S'.1 0))) (0, 0)).2 + 1))) :
              Int)) &&
            Option.isSome
            (V.slPtr
             (Am.Heap.cell
             (Am.Heap.store S'.3
              (Option.getD
               (V.slPtr (Am.Heap.cell S'.3 (Option.getD (V.getPtr (T.val (S'.1 0))) (0, 0)).1 (Option.getD (V.getPtr (T.val (S'.1 0))) (0, 0)).2))
               (0, 0)).1
              ((Option.getD
               (V.slPtr (Am.Heap.cell S'.3 (Option.getD (V.getPtr (T.val (S'.1 0))) (0, 0)).1 (Option.getD (V.getPtr (T.val (S'.1 0))) (0, 0)).2))
               (0, 0)).2 +
              Int.toNat
               (V.getInt
                (Am.Heap.cell S'.3
                (Option.getD
                 (V.slPtr
                  (Am.Heap.cell S'.3 (Option.getD (V.getPtr (T.val (S'.1 0))) (0, 0)).1
                  ((Option.getD (V.getPtr (T.val (S'.1 0))) (0, 0)).2 + 1)))
                 (0, 0)).1
                ((Option.getD
                  (V.slPtr
                  (Am.Heap.cell S'.3 (Option.getD (V.getPtr (T.val (S'.1 0))) (0, 0)).1
                   ((Option.getD (V.getPtr (T.val (S'.1 0))) (0, 0)).2 + 1)))
                  (0, 0)).2 +
                 Int.toNat (V.getInt (T.val (S'.1 2))) * 2))) *
               1)
              [V.str
               (V.getStr
               (Am.Heap.cell S'.3
                (Option.getD
                 (V.slPtr
                 (Am.Heap.cell S'.3 (Option.getD (V.getPtr (T.val (S'.1 0))) (0, 0)).1 ((Option.getD (V.getPtr (T.val (S'.1 0))) (0, 0)).2 + 1)))
                 (0, 0)).1
                ((Option.getD
                  (V.slPtr
                  (Am.Heap.cell S'.3 (Option.getD (V.getPtr (T.val (S'.1 0))) (0, 0)).1
                   ((Option.getD (V.getPtr (T.val (S'.1 0))) (0, 0)).2 + 1)))
                  (0, 0)).2 +
                 Int.toNat (V.getInt (T.val (S'.1 2))) * 2 +
                1)))])
             (Option.getD (V.getPtr (T.val (S'.1 0))) (0, 0)).1 ((Option.getD (V.getPtr (T.val (S'.1 0))) (0, 0)).2 + 1))))
           (req
            (Am.Heap.inb
             (Am.Heap.store S'.3
             (Option.getD
              (V.slPtr (Am.Heap.cell S'.3 (Option.getD (V.getPtr (T.val (S'.1 0))) (0, 0)).1 (Option.getD (V.getPtr (T.val (S'.1 0))) (0, 0)).2))
              (0, 0)).1
             ((Option.getD
               (V.slPtr (Am.Heap.cell S'.3 (Option.getD (V.getPtr (T.val (S'.1 0))) (0, 0)).1 (Option.getD (V.getPtr (T.val (S'.1 0))) (0, 0)).2))
               (0, 0)).2 +
              Int.toNat
               (V.getInt
               (Am.Heap.cell S'.3
                (Option.getD
                 (V.slPtr
                 (Am.Heap.cell S'.3 (Option.getD (V.getPtr (T.val (S'.1 0))) (0, 0)).1 ((Option.getD (V.getPtr (T.val (S'.1 0))) (0, 0)).2 + 1)))
                 (0, 0)).1
                ((Option.getD
                 (V.slPtr
                  (Am.Heap.cell S'.3 (Option.getD (V.getPtr (T.val (S'.1 0))) (0, 0)).1
                  ((Option.getD (V.getPtr (T.val (S'.1 0))) (0, 0)).2 + 1)))
                 (0, 0)).2 +
                Int.toNat (V.getInt (T.val (S'.1 2))) * 2))) *
              1)
             [V.str
              (V.getStr
               (Am.Heap.cell S'.3
               (Option.getD
                (V.slPtr
                 (Am.Heap.cell S'.3 (Option.getD (V.getPtr (T.val (S'.1 0))) (0, 0)).1 ((Option.getD (V.getPtr (T.val (S'.1 0))) (0, 0)).2 + 1)))
                (0, 0)).1
               ((Option.getD
                 (V.slPtr
                  (Am.Heap.cell S'.3 (Option.getD (V.getPtr (T.val (S'.1 0))) (0, 0)).1
                  ((Option.getD (V.getPtr (T.val (S'.1 0))) (0, 0)).2 + 1)))
                 (0, 0)).2 +
                Int.toNat (V.getInt (T.val (S'.1 2))) * 2 +
                1)))])
             (Option.getD
              (V.slPtr
              (Am.Heap.cell
               (Am.Heap.store S'.3
               (Option.getD
                (V.slPtr
                 (Am.Heap.cell S'.3 (Option.getD (V.getPtr (T.val (S'.1 0))) (0, 0)).1 (Option.getD (V.getPtr (T.val (S'.1 0))) (0, 0)).2))
                (0, 0)).1
               ((Option.getD
                 (V.slPtr
                 (Am.Heap.cell S'.3 (Option.getD (V.getPtr (T.val (S'.1 0))) (0, 0)).1 (Option.getD (V.getPtr (T.val (S'.1 0))) (0, 0)).2))
                 (0, 0)).2 +
                Int.toNat
                 (V.getInt
                 (Am.Heap.cell S'.3
                  (Option.getD
                   (V.slPtr
                   (Am.Heap.cell S'.3 (Option.getD (V.getPtr (T.val (S'.1 0))) (0, 0)).1
                    ((Option.getD (V.getPtr (T.val (S'.1 0))) (0, 0)).2 + 1)))
                   (0, 0)).1
                  ((Option.getD
                   (V.slPtr
                    (Am.Heap.cell S'.3 (Option.getD (V.getPtr (T.val (S'.1 0))) (0, 0)).1
                    ((Option.getD (V.getPtr (T.val (S'.1 0))) (0, 0)).2 + 1)))
                   (0, 0)).2 +
                  Int.toNat (V.getInt (T.val (S'.1 2))) * 2))) *
                1)
               [V.str
                (V.getStr
                 (Am.Heap.cell S'.3
                 (Option.getD
                  (V.slPtr
                   (Am.Heap.cell S'.3 (Option.getD (V.getPtr (T.val (S'.1 0))) (0, 0)).1
                   ((Option.getD (V.getPtr (T.val (S'.1 0))) (0, 0)).2 + 1)))
                  (0, 0)).1
                 ((Option.getD
                   (V.slPtr
                    (Am.Heap.cell S'.3 (Option.getD (V.getPtr (T.val (S'.1 0))) (0, 0)).1
                    ((Option.getD (V.getPtr (T.val (S'.1 0))) (0, 0)).2 + 1)))
                   (0, 0)).2 +
                  Int.toNat (V.getInt (T.val (S'.1 2))) * 2 +
                  1)))])
               (Option.getD (V.getPtr (T.val (S'.1 0))) (0, 0)).1 ((Option.getD (V.getPtr (T.val (S'.1 0))) (0, 0)).2 + 1)))
              (0, 0)).1
             ((Option.getD
              (V.slPtr
               (Am.Heap.cell
               (Am.Heap.store S'.3
                (Option.getD
                 (V.slPtr
                 (Am.Heap.cell S'.3 (Option.getD (V.getPtr (T.val (S'.1 0))) (0, 0)).1 (Option.getD (V.getPtr (T.val (S'.1 0))) (0, 0)).2))
                 (0, 0)).1
                ((Option.getD
                 (V.slPtr
                  (Am.Heap.cell S'.3 (Option.getD (V.getPtr (T.val (S'.1 0))) (0, 0)).1 (Option.getD (V.getPtr (T.val (S'.1 0))) (0, 0)).2))
                 (0, 0)).2 +
                Int.toNat
                 (V.getInt
                  (Am.Heap.cell S'.3
                  (Option.getD
                   (V.slPtr
                    (Am.Heap.cell S'.3 (Option.getD (V.getPtr (T.val (S'.1 0))) (0, 0)).1
                    ((Option.getD (V.getPtr (T.val (S'.1 0))) (0, 0)).2 + 1)))
                   (0, 0)).1
                  ((Option.getD
                    (V.slPtr
                    (Am.Heap.cell S'.3 (Option.getD (V.getPtr (T.val (S'.1 0))) (0, 0)).1
                     ((Option.getD (V.getPtr (T.val (S'.1 0))) (0, 0)).2 + 1)))
                    (0, 0)).2 +
                   Int.toNat (V.getInt (T.val (S'.1 2))) * 2))) *
                 1)
                [V.str
                 (V.getStr
                 (Am.Heap.cell S'.3
                  (Option.getD
                   (V.slPtr
                   (Am.Heap.cell S'.3 (Option.getD (V.getPtr (T.val (S'.1 0))) (0, 0)).1
                    ((Option.getD (V.getPtr (T.val (S'.1 0))) (0, 0)).2 + 1)))
                   (0, 0)).1
                  ((Option.getD
                    (V.slPtr
                    (Am.Heap.cell S'.3 (Option.getD (V.getPtr (T.val (S'.1 0))) (0, 0)).1
                     ((Option.getD (V.getPtr (T.val (S'.1 0))) (0, 0)).2 + 1)))
                    (0, 0)).2 +
                   Int.toNat (V.getInt (T.val (S'.1 2))) * 2 +
                  1)))])
               (Option.getD (V.getPtr (T.val (S'.1 0))) (0, 0)).1 ((Option.getD (V.getPtr (T.val (S'.1 0))) (0, 0)).2 + 1)))
              (0, 0)).2 +
             Int.toNat (V.getInt (T.val (S'.1 2))) * 2)
             1 &&
            V.isK (Kind.int IntKind.i64)
             (Am.Heap.cell
             (Am.Heap.store S'.3
              (Option.getD
               (V.slPtr (Am.Heap.cell S'.3 (Option.getD (V.getPtr (T.val (S'.1 0))) (0, 0)).1 (Option.getD (V.getPtr (T.val (S'.1 0))) (0, 0)).2))
               (0, 0)).1
              ((Option.getD
               (V.slPtr (Am.Heap.cell S'.3 (Option.getD (V.getPtr (T.val (S'.1 0))) (0, 0)).1 (Option.getD (V.getPtr (T.val (S'.1 0))) (0, 0)).2))
               (0, 0)).2 +
              Int.toNat
               (V.getInt
                (Am.Heap.cell S'.3
                (Option.getD
                 (V.slPtr
                  (Am.Heap.cell S'.3 (Option.getD (V.getPtr (T.val (S'.1 0))) (0, 0)).1
                  ((Option.getD (V.getPtr (T.val (S'.1 0))) (0, 0)).2 + 1)))
                 (0, 0)).1
                ((Option.getD
                  (V.slPtr
                  (Am.Heap.cell S'.3 (Option.getD (V.getPtr (T.val (S'.1 0))) (0, 0)).1
                   ((Option.getD (V.getPtr (T.val (S'.1 0))) (0, 0)).2 + 1)))
                  (0, 0)).2 +
                 Int.toNat (V.getInt (T.val (S'.1 2))) * 2))) *
               1)
              [V.str
               (V.getStr
               (Am.Heap.cell S'.3
                (Option.getD
                 (V.slPtr
                 (Am.Heap.cell S'.3 (Option.getD (V.getPtr (T.val (S'.1 0))) (0, 0)).1 ((Option.getD (V.getPtr (T.val (S'.1 0))) (0, 0)).2 + 1)))
                 (0, 0)).1
                ((Option.getD
                  (V.slPtr
                  (Am.Heap.cell S'.3 (Option.getD (V.getPtr (T.val (S'.1 0))) (0, 0)).1
                   ((Option.getD (V.getPtr (T.val (S'.1 0))) (0, 0)).2 + 1)))
                  (0, 0)).2 +
                 Int.toNat (V.getInt (T.val (S'.1 2))) * 2 +
                1)))])
             (Option.getD
              (V.slPtr
               (Am.Heap.cell
               (Am.Heap.store S'.3
                (Option.getD
                 (V.slPtr
                 (Am.Heap.cell S'.3 (Option.getD (V.getPtr (T.val (S'.1 0))) (0, 0)).1 (Option.getD (V.getPtr (T.val (S'.1 0))) (0, 0)).2))
                 (0, 0)).1
                ((Option.getD
                 (V.slPtr
                  (Am.Heap.cell S'.3 (Option.getD (V.getPtr (T.val (S'.1 0))) (0, 0)).1 (Option.getD (V.getPtr (T.val (S'.1 0))) (0, 0)).2))
                 (0, 0)).2 +
                Int.toNat
                 (V.getInt
                  (Am.Heap.cell S'.3
                  (Option.getD
                   (V.slPtr
                    (Am.Heap.cell S'.3 (Option.getD (V.getPtr (T.val (S'.1 0))) (0, 0)).1
                    ((Option.getD (V.getPtr (T.val (S'.1 0))) (0, 0)).2 + 1)))
                   (0, 0)).1
                  ((Option.getD
                    (V.slPtr
                    (Am.Heap.cell S'.3 (Option.getD (V.getPtr (T.val (S'.1 0))) (0, 0)).1
                     ((Option.getD (V.getPtr (T.val (S'.1 0))) (0, 0)).2 + 1)))
                    (0, 0)).2 +
                   Int.toNat (V.getInt (T.val (S'.1 2))) * 2))) *
                 1)
                [V.str
                 (V.getStr
                 (Am.Heap.cell S'.3
                  (Option.getD
                   (V.slPtr
                   (Am.Heap.cell S'.3 (Option.getD (V.getPtr (T.val (S'.1 0))) (0, 0)).1
                    ((Option.getD (V.getPtr (T.val (S'.1 0))) (0, 0)).2 + 1)))
                   (0, 0)).1
                  ((Option.getD
                    (V.slPtr
                    (Am.Heap.cell S'.3 (Option.getD (V.getPtr (T.val (S'.1 0))) (0, 0)).1
                     ((Option.getD (V.getPtr (T.val (S'.1 0))) (0, 0)).2 + 1)))
                    (0, 0)).2 +
                   Int.toNat (V.getInt (T.val (S'.1 2))) * 2 +
                  1)))])
               (Option.getD (V.getPtr (T.val (S'.1 0))) (0, 0)).1 ((Option.getD (V.getPtr (T.val (S'.1 0))) (0, 0)).2 + 1)))
              (0, 0)).1
             ((Option.getD
               (V.slPtr
               (Am.Heap.cell
                (Am.Heap.store S'.3
                (Option.getD
                 (V.slPtr
                  (Am.Heap.cell S'.3 (Option.getD (V.getPtr (T.val (S'.1 0))) (0, 0)).1 (Option.getD (V.getPtr (T.val (S'.1 0))) (0, 0)).2))
                 (0, 0)).1
                ((Option.getD
                  (V.slPtr
                  (Am.Heap.cell S'.3 (Option.getD (V.getPtr (T.val (S'.1 0))) (0, 0)).1 (Option.getD (V.getPtr (T.val (S'.1 0))) (0, 0)).2))
                  (0, 0)).2 +
                 Int.toNat
                  (V.getInt
                  (Am.Heap.cell S'.3
                   (Option.getD
                    (V.slPtr
                    (Am.Heap.cell S'.3 (Option.getD (V.getPtr (T.val (S'.1 0))) (0, 0)).1
                     ((Option.getD (V.getPtr (T.val (S'.1 0))) (0, 0)).2 + 1)))
                    (0, 0)).1
                   ((Option.getD
                    (V.slPtr
                     (Am.Heap.cell S'.3 (Option.getD (V.getPtr (T.val (S'.1 0))) (0, 0)).1
                     ((Option.getD (V.getPtr (T.val (S'.1 0))) (0, 0)).2 + 1)))
                    (0, 0)).2 +
                   Int.toNat (V.getInt (T.val (S'.1 2))) * 2))) *
                 1)
                [V.str
                 (V.getStr
                  (Am.Heap.cell S'.3
                  (Option.getD
                   (V.slPtr
                    (Am.Heap.cell S'.3 (Option.getD (V.getPtr (T.val (S'.1 0))) (0, 0)).1
                    ((Option.getD (V.getPtr (T.val (S'.1 0))) (0, 0)).2 + 1)))
                   (0, 0)).1
                  ((Option.getD
                    (V.slPtr
                     (Am.Heap.cell S'.3 (Option.getD (V.getPtr (T.val (S'.1 0))) (0, 0)).1
                     ((Option.getD (V.getPtr (T.val (S'.1 0))) (0, 0)).2 + 1)))
                    (0, 0)).2 +
                   Int.toNat (V.getInt (T.val (S'.1 2))) * 2 +
                   1)))])
                (Option.getD (V.getPtr (T.val (S'.1 0))) (0, 0)).1 ((Option.getD (V.getPtr (T.val (S'.1 0))) (0, 0)).2 + 1)))
               (0, 0)).2 +
              Int.toNat (V.getInt (T.val (S'.1 2))) * 2)))
            (Am.Rec.call (Am.Run env) 53
            [V.ptr (V.getPtr (T.val (S'.1 0))),
             V.int IntKind.i64
             (V.getInt
              (Am.Heap.cell
              (Am.Heap.store S'.3
               (Option.getD
                (V.slPtr
                (Am.Heap.cell S'.3 (Option.getD (V.getPtr (T.val (S'.1 0))) (0, 0)).1 (Option.getD (V.getPtr (T.val (S'.1 0))) (0, 0)).2))
                (0, 0)).1
               ((Option.getD
                (V.slPtr
                 (Am.Heap.cell S'.3 (Option.getD (V.getPtr (T.val (S'.1 0))) (0, 0)).1 (Option.getD (V.getPtr (T.val (S'.1 0))) (0, 0)).2))
                (0, 0)).2 +
               Int.toNat
                (V.getInt
                 (Am.Heap.cell S'.3
                 (Option.getD
                  (V.slPtr
                   (Am.Heap.cell S'.3 (Option.getD (V.getPtr (T.val (S'.1 0))) (0, 0)).1
                   ((Option.getD (V.getPtr (T.val (S'.1 0))) (0, 0)).2 + 1)))
                  (0, 0)).1
                 ((Option.getD
                   (V.slPtr
                   (Am.Heap.cell S'.3 (Option.getD (V.getPtr (T.val (S'.1 0))) (0, 0)).1
                    ((Option.getD (V.getPtr (T.val (S'.1 0))) (0, 0)).2 + 1)))
                   (0, 0)).2 +
                  Int.toNat (V.getInt (T.val (S'.1 2))) * 2))) *
                1)
               [V.str
                (V.getStr
                (Am.Heap.cell S'.3
                 (Option.getD
                  (V.slPtr
                  (Am.Heap.cell S'.3 (Option.getD (V.getPtr (T.val (S'.1 0))) (0, 0)).1
                   ((Option.getD (V.getPtr (T.val (S'.1 0))) (0, 0)).2 + 1)))
                  (0, 0)).1
                 ((Option.getD
                   (V.slPtr
                   (Am.Heap.cell S'.3 (Option.getD (V.getPtr (T.val (S'.1 0))) (0, 0)).1
                    ((Option.getD (V.getPtr (T.val (S'.1 0))) (0, 0)).2 + 1)))
                   (0, 0)).2 +
                  Int.toNat (V.getInt (T.val (S'.1 2))) * 2 +
                 1)))])
              (Option.getD
               (V.slPtr
                (Am.Heap.cell
                (Am.Heap.store S'.3
                 (Option.getD
                  (V.slPtr
                  (Am.Heap.cell S'.3 (Option.getD (V.getPtr (T.val (S'.1 0))) (0, 0)).1 (Option.getD (V.getPtr (T.val (S'.1 0))) (0, 0)).2))
                  (0, 0)).1
                 ((Option.getD
                  (V.slPtr
                   (Am.Heap.cell S'.3 (Option.getD (V.getPtr (T.val (S'.1 0))) (0, 0)).1 (Option.getD (V.getPtr (T.val (S'.1 0))) (0, 0)).2))
                  (0, 0)).2 +
                 Int.toNat
                  (V.getInt
                   (Am.Heap.cell S'.3
                   (Option.getD
                    (V.slPtr
                     (Am.Heap.cell S'.3 (Option.getD (V.getPtr (T.val (S'.1 0))) (0, 0)).1
                     ((Option.getD (V.getPtr (T.val (S'.1 0))) (0, 0)).2 + 1)))
                    (0, 0)).1
                   ((Option.getD
                     (V.slPtr
                     (Am.Heap.cell S'.3 (Option.getD (V.getPtr (T.val (S'.1 0))) (0, 0)).1
                      ((Option.getD (V.getPtr (T.val (S'.1 0))) (0, 0)).2 + 1)))
                     (0, 0)).2 +
                    Int.toNat (V.getInt (T.val (S'.1 2))) * 2))) *
                  1)
                 [V.str
                  (V.getStr
                  (Am.Heap.cell S'.3
                   (Option.getD
                    (V.slPtr
                    (Am.Heap.cell S'.3 (Option.getD (V.getPtr (T.val (S'.1 0))) (0, 0)).1
                     ((Option.getD (V.getPtr (T.val (S'.1 0))) (0, 0)).2 + 1)))
                    (0, 0)).1
                   ((Option.getD
                     (V.slPtr
                     (Am.Heap.cell S'.3 (Option.getD (V.getPtr (T.val (S'.1 0))) (0, 0)).1
                      ((Option.getD (V.getPtr (T.val (S'.1 0))) (0, 0)).2 + 1)))
                     (0, 0)).2 +
                    Int.toNat (V.getInt (T.val (S'.1 2))) * 2 +
                   1)))])
                (Option.getD (V.getPtr (T.val (S'.1 0))) (0, 0)).1 ((Option.getD (V.getPtr (T.val (S'.1 0))) (0, 0)).2 + 1)))
               (0, 0)).1
              ((Option.getD
                (V.slPtr
                (Am.Heap.cell
                 (Am.Heap.store S'.3
                 (Option.getD
                  (V.slPtr
                   (Am.Heap.cell S'.3 (Option.getD (V.getPtr (T.val (S'.1 0))) (0, 0)).1 (Option.getD (V.getPtr (T.val (S'.1 0))) (0, 0)).2))
                  (0, 0)).1
                 ((Option.getD
                   (V.slPtr
                   (Am.Heap.cell S'.3 (Option.getD (V.getPtr (T.val (S'.1 0))) (0, 0)).1
                    (Option.getD (V.getPtr (T.val (S'.1 0))) (0, 0)).2))
                   (0, 0)).2 +
                  Int.toNat
                   (V.getInt
                   (Am.Heap.cell S'.3
                    (Option.getD
                     (V.slPtr
                     (Am.Heap.cell S'.3 (Option.getD (V.getPtr (T.val (S'.1 0))) (0, 0)).1
                      ((Option.getD (V.getPtr (T.val (S'.1 0))) (0, 0)).2 + 1)))
                     (0, 0)).1
                    ((Option.getD
                     (V.slPtr
                      (Am.Heap.cell S'.3 (Option.getD (V.getPtr (T.val (S'.1 0))) (0, 0)).1
                      ((Option.getD (V.getPtr (T.val (S'.1 0))) (0, 0)).2 + 1)))
                     (0, 0)).2 +
                    Int.toNat (V.getInt (T.val (S'.1 2))) * 2))) *
                  1)
                 [V.str
                  (V.getStr
                   (Am.Heap.cell S'.3
                   (Option.getD
                    (V.slPtr
                     (Am.Heap.cell S'.3 (Option.getD (V.getPtr (T.val (S'.1 0))) (0, 0)).1
                     ((Option.getD (V.getPtr (T.val (S'.1 0))) (0, 0)).2 + 1)))
                    (0, 0)).1
                   ((Option.getD
                     (V.slPtr
                      (Am.Heap.cell S'.3 (Option.getD (V.getPtr (T.val (S'.1 0))) (0, 0)).1
                      ((Option.getD (V.getPtr (T.val (S'.1 0))) (0, 0)).2 + 1)))
                     (0, 0)).2 +
                    Int.toNat (V.getInt (T.val (S'.1 2))) * 2 +
                    1)))])
                 (Option.getD (V.getPtr (T.val (S'.1 0))) (0, 0)).1 ((Option.getD (V.getPtr (T.val (S'.1 0))) (0, 0)).2 + 1)))
                (0, 0)).2 +
               Int.toNat (V.getInt (T.val (S'.1 2))) * 2)))]
            (Am.Heap.store S'.3
             (Option.getD
              (V.slPtr (Am.Heap.cell S'.3 (Option.getD (V.getPtr (T.val (S'.1 0))) (0, 0)).1 (Option.getD (V.getPtr (T.val (S'.1 0))) (0, 0)).2))
              (0, 0)).1
             ((Option.getD
              (V.slPtr (Am.Heap.cell S'.3 (Option.getD (V.getPtr (T.val (S'.1 0))) (0, 0)).1 (Option.getD (V.getPtr (T.val (S'.1 0))) (0, 0)).2))
              (0, 0)).2 +
             Int.toNat
              (V.getInt
               (Am.Heap.cell S'.3
               (Option.getD
                (V.slPtr
                 (Am.Heap.cell S'.3 (Option.getD (V.getPtr (T.val (S'.1 0))) (0, 0)).1 ((Option.getD (V.getPtr (T.val (S'.1 0))) (0, 0)).2 + 1)))
                (0, 0)).1
               ((Option.getD
                 (V.slPtr
                 (Am.Heap.cell S'.3 (Option.getD (V.getPtr (T.val (S'.1 0))) (0, 0)).1 ((Option.getD (V.getPtr (T.val (S'.1 0))) (0, 0)).2 + 1)))
                 (0, 0)).2 +
                Int.toNat (V.getInt (T.val (S'.1 2))) * 2))) *
              1)
             [V.str
              (V.getStr
              (Am.Heap.cell S'.3
               (Option.getD
                (V.slPtr
                (Am.Heap.cell S'.3 (Option.getD (V.getPtr (T.val (S'.1 0))) (0, 0)).1 ((Option.getD (V.getPtr (T.val (S'.1 0))) (0, 0)).2 + 1)))
                (0, 0)).1
               ((Option.getD
                 (V.slPtr
                 (Am.Heap.cell S'.3 (Option.getD (V.getPtr (T.val (S'.1 0))) (0, 0)).1 ((Option.getD (V.getPtr (T.val (S'.1 0))) (0, 0)).2 + 1)))
                 (0, 0)).2 +
                Int.toNat (V.getInt (T.val (S'.1 2))) * 2 +
               1)))])
            fun v H' ↦ K (V.tuple []) H'))))))))))))))))))
   False :=
  fun x0 H K => (Run_call (E := env)).trans (by kernel_rfl)

theorem lp41_2 : ∀ (t0 : Option (Nat × Nat)) (t2 t3 : Int) (H : Am.Heap) (Kr : Am.St → Prop) (Ke : Nat → Am.St → Prop),
  Am.Rec.loop (Am.Run env) (Am.loopAt env 41 2) 41 2
   (St.mk (Am.look [(0, T.v (V.ptr t0)), (2, T.v (V.int IntKind.i64 t2)), (3, T.v (V.int IntKind.i64 t3))]) (Am.look []) H) Kr Ke =
  req (Option.isSome t0)
   (req (Am.Heap.inb H (Option.getD t0 (0, 0)).1 ((Option.getD t0 (0, 0)).2 + 1) 1 && V.isK Kind.slice (Am.Heap.cell H (Option.getD t0 (0, 0)).1 ((Option.getD t0 (0, 0)).2 + 1)))
   (br (decide (t3 < (↑(V.slLen (Am.Heap.cell H (Option.getD t0 (0, 0)).1 ((Option.getD t0 (0, 0)).2 + 1))) : Int)))
    (req (Option.isSome t0)
    (req (Am.Heap.inb H (Option.getD t0 (0, 0)).1 ((Option.getD t0 (0, 0)).2 + 1) 1 && V.isK Kind.slice (Am.Heap.cell H (Option.getD t0 (0, 0)).1 ((Option.getD t0 (0, 0)).2 + 1)))
     (req
     (decide (0 ≤ t3) && decide (t3 < (↑(V.slLen (Am.Heap.cell H (Option.getD t0 (0, 0)).1 ((Option.getD t0 (0, 0)).2 + 1))) : Int)) &&
      Option.isSome (V.slPtr (Am.Heap.cell H (Option.getD t0 (0, 0)).1 ((Option.getD t0 (0, 0)).2 + 1))))
     (req
      (Am.Heap.inb H (Option.getD (V.slPtr (Am.Heap.cell H (Option.getD t0 (0, 0)).1 ((Option.getD t0 (0, 0)).2 + 1))) (0, 0)).1
       ((Option.getD (V.slPtr (Am.Heap.cell H (Option.getD t0 (0, 0)).1 ((Option.getD t0 (0, 0)).2 + 1))) (0, 0)).2 + Int.toNat t3 * 2) 1 &&
      V.isK (Kind.int IntKind.i64)
       (Am.Heap.cell H (Option.getD (V.slPtr (Am.Heap.cell H (Option.getD t0 (0, 0)).1 ((Option.getD t0 (0, 0)).2 + 1))) (0, 0)).1
       ((Option.getD (V.slPtr (Am.Heap.cell H (Option.getD t0 (0, 0)).1 ((Option.getD t0 (0, 0)).2 + 1))) (0, 0)).2 + Int.toNat t3 * 2)))
      (req (Option.isSome t0)
      (req (Am.Heap.inb H (Option.getD t0 (0, 0)).1 ((Option.getD t0 (0, 0)).2 + 1) 1 && V.isK Kind.slice (Am.Heap.cell H (Option.getD t0 (0, 0)).1 ((Option.getD t0 (0, 0)).2 + 1)))
       (req
       (decide (0 ≤ t2) && decide (t2 < (↑(V.slLen (Am.Heap.cell H (Option.getD t0 (0, 0)).1 ((Option.getD t0 (0, 0)).2 + 1))) : Int)) &&
        Option.isSome (V.slPtr (Am.Heap.cell H (Option.getD t0 (0, 0)).1 ((Option.getD t0 (0, 0)).2 + 1))))
       (req
        (Am.Heap.inb H (Option.getD (V.slPtr (Am.Heap.cell H (Option.getD t0 (0, 0)).1 ((Option.getD t0 (0, 0)).2 + 1))) (0, 0)).1
         ((Option.getD (V.slPtr (Am.Heap.cell H (Option.getD t0 (0, 0)).1 ((Option.getD t0 (0, 0)).2 + 1))) (0, 0)).2 + Int.toNat t2 * 2) 1 &&
        V.isK (Kind.int IntKind.i64)
         (Am.Heap.cell H (Option.getD (V.slPtr (Am.Heap.cell H (Option.getD t0 (0, 0)).1 ((Option.getD t0 (0, 0)).2 + 1))) (0, 0)).1
         ((Option.getD (V.slPtr (Am.Heap.cell H (Option.getD t0 (0, 0)).1 ((Option.getD t0 (0, 0)).2 + 1))) (0, 0)).2 + Int.toNat t2 * 2)))
        (br
        (decide
         (V.getInt
          (Am.Heap.cell H (Option.getD (V.slPtr (Am.Heap.cell H (Option.getD t0 (0, 0)).1 ((Option.getD t0 (0, 0)).2 + 1))) (0, 0)).1
          ((Option.getD (V.slPtr (Am.Heap.cell H (Option.getD t0 (0, 0)).1 ((Option.getD t0 (0, 0)).2 + 1))) (0, 0)).2 + Int.toNat t3 * 2)) <
         V.getInt
          (Am.Heap.cell H (Option.getD (V.slPtr (Am.Heap.cell H (Option.getD t0 (0, 0)).1 ((Option.getD t0 (0, 0)).2 + 1))) (0, 0)).1
          ((Option.getD (V.slPtr (Am.Heap.cell H (Option.getD t0 (0, 0)).1 ((Option.getD t0 (0, 0)).2 + 1))) (0, 0)).2 + Int.toNat t2 * 2))))
        (Am.Rec.loop (Am.Run env) (Am.loopAt env 41 2) 41 2
         (St.mk
         (Am.look [(0, T.v (V.ptr t0)), (2, T.v (V.int IntKind.i64 t3)), (3, T.v (V.int IntKind.i64 (IntKind.wrap IntKind.i64 (t3 + 1))))])
         (Am.look []) H)
         Kr Ke)
        (Am.Rec.loop (Am.Run env) (Am.loopAt env 41 2) 41 2
         (St.mk
         (Am.look [(0, T.v (V.ptr t0)), (2, T.v (V.int IntKind.i64 t2)), (3, T.v (V.int IntKind.i64 (IntKind.wrap IntKind.i64 (t3 + 1))))])
         (Am.look []) H)
         Kr Ke))))))))))
    (Ke 0 (St.mk (Am.look [(0, T.v (V.ptr t0)), (2, T.v (V.int IntKind.i64 t2))]) (Am.look []) H)))) :=
  fun t0 t2 t3 H Kr Ke => (Run_loop (E := env)).trans (by kernel_rfl)

theorem eq53 : ∀ (x0 : Option (Nat × Nat)) (x1 : Int) (H : Am.Heap) (K : Am.V → Am.Heap → Prop),
  Am.Rec.call (Am.Run env) 53 [V.ptr x0, V.int IntKind.i64 x1] H K =
  Am.Rec.loop (Am.Run env) (Am.loopAt env 53 2) 53 2
   (St.mk (Am.look [(0, T.v (V.ptr x0)), (1, T.v (V.int IntKind.i64 x1)), (4, T.v (V.slice Option.none 0 0)), (5, T.v (V.int IntKind.i64 0))])
   (Am.look []) H)
   (fun S' ↦ K (V.tuple []) S'.3) fun j S' ↦
   br (Nat.beq j 0)
   (req (Am.isKT (KT.k Kind.ptr) (S'.1 0) && (Am.isKT (KT.k Kind.slice) (S'.1 4) || false) || false)
    (req (Option.isSome (V.getPtr (T.val (S'.1 0))))
    (req (Am.Heap.wr S'.3 (Option.getD (V.getPtr (T.val (S'.1 0))) (0, 0)).1 ((Option.getD (V.getPtr (T.val (S'.1 0))) (0, 0)).2 + 1) 1)
     (K (V.tuple [])
     (Am.Heap.store S'.3 (Option.getD (V.getPtr (T.val (S'.1 0))) (0, 0)).1 ((Option.getD (V.getPtr (T.val (S'.1 0))) (0, 0)).2 + 1)
      [V.slice (V.slPtr (T.val (S'.1 4))) (V.slLen (T.val (S'.1 4))) (V.slCap (T.val (S'.1 4)))])))))
   False :=
  fun x0 x1 H K => (Run_call (E := env)).trans (by kernel_rfl)

theorem lp53_2 : ∀ (t0 : Option (Nat × Nat)) (t1 : Int) (t4_0 : Option (Nat × Nat)) (t4_1 t4_2 : Nat) (t5 : Int) (H : Am.Heap) (Kr : Am.St → Prop) (Ke : Nat → Am.St → Prop),
  Am.Rec.loop (Am.Run env) (Am.loopAt env 53 2) 53 2
   (St.mk (Am.look [(0, T.v (V.ptr t0)), (1, T.v (V.int IntKind.i64 t1)), (4, T.v (V.slice t4_0 t4_1 t4_2)), (5, T.v (V.int IntKind.i64 t5))])
   (Am.look []) H)
   Kr Ke =
  req (Option.isSome t0)
   (req (Am.Heap.inb H (Option.getD t0 (0, 0)).1 ((Option.getD t0 (0, 0)).2 + 1) 1 && V.isK Kind.slice (Am.Heap.cell H (Option.getD t0 (0, 0)).1 ((Option.getD t0 (0, 0)).2 + 1)))
   (br (decide (t5 < (↑(V.slLen (Am.Heap.cell H (Option.getD t0 (0, 0)).1 ((Option.getD t0 (0, 0)).2 + 1))) : Int)))
    (req (Option.isSome t0)
    (req (Am.Heap.inb H (Option.getD t0 (0, 0)).1 ((Option.getD t0 (0, 0)).2 + 1) 1 && V.isK Kind.slice (Am.Heap.cell H (Option.getD t0 (0, 0)).1 ((Option.getD t0 (0, 0)).2 + 1)))
     (req
     (decide (0 ≤ t5) && decide (t5 < (↑(V.slLen (Am.Heap.cell H (Option.getD t0 (0, 0)).1 ((Option.getD t0 (0, 0)).2 + 1))) : Int)) &&
      Option.isSome (V.slPtr (Am.Heap.cell H (Option.getD t0 (0, 0)).1 ((Option.getD t0 (0, 0)).2 + 1))))
     (req
      (Am.Heap.inb H (Option.getD (V.slPtr (Am.Heap.cell H (Option.getD t0 (0, 0)).1 ((Option.getD t0 (0, 0)).2 + 1))) (0, 0)).1
       ((Option.getD (V.slPtr (Am.Heap.cell H (Option.getD t0 (0, 0)).1 ((Option.getD t0 (0, 0)).2 + 1))) (0, 0)).2 + Int.toNat t5 * 2) 1 &&
      V.isK (Kind.int IntKind.i64)
       (Am.Heap.cell H (Option.getD (V.slPtr (Am.Heap.cell H (Option.getD t0 (0, 0)).1 ((Option.getD t0 (0, 0)).2 + 1))) (0, 0)).1
       ((Option.getD (V.slPtr (Am.Heap.cell H (Option.getD t0 (0, 0)).1 ((Option.getD t0 (0, 0)).2 + 1))) (0, 0)).2 + Int.toNat t5 * 2)))
      (br
      (!decide
       (V.getInt
        (Am.Heap.cell H (Option.getD (V.slPtr (Am.Heap.cell H (Option.getD t0 (0, 0)).1 ((Option.getD t0 (0, 0)).2 + 1))) (0, 0)).1
         ((Option.getD (V.slPtr (Am.Heap.cell H (Option.getD t0 (0, 0)).1 ((Option.getD t0 (0, 0)).2 + 1))) (0, 0)).2 + Int.toNat t5 * 2)) =
        t1))
      (req (Option.isSome t0)
       (req
       (Am.Heap.inb H (Option.getD t0 (0, 0)).1 ((Option.getD t0 (0, 0)).2 + 1) 1 && V.isK Kind.slice (Am.Heap.cell H (Option.getD t0 (0, 0)).1 ((Option.getD t0 (0, 0)).2 + 1)))
       (req
        (decide (0 ≤ t5) && decide (t5 < (↑(V.slLen (Am.Heap.cell H (Option.getD t0 (0, 0)).1 ((Option.getD t0 (0, 0)).2 + 1))) : Int)) &&
        Option.isSome (V.slPtr (Am.Heap.cell H (Option.getD t0 (0, 0)).1 ((Option.getD t0 (0, 0)).2 + 1))))
        (req
        (Am.Heap.inb H (Option.getD (V.slPtr (Am.Heap.cell H (Option.getD t0 (0, 0)).1 ((Option.getD t0 (0, 0)).2 + 1))) (0, 0)).1
         ((Option.getD (V.slPtr (Am.Heap.cell H (Option.getD t0 (0, 0)).1 ((Option.getD t0 (0, 0)).2 + 1))) (0, 0)).2 + Int.toNat t5 * 2) 2 &&
         Am.fits k95
         (Am.Heap.sub H (Option.getD (V.slPtr (Am.Heap.cell H (Option.getD t0 (0, 0)).1 ((Option.getD t0 (0, 0)).2 + 1))) (0, 0)).1
          ((Option.getD (V.slPtr (Am.Heap.cell H (Option.getD t0 (0, 0)).1 ((Option.getD t0 (0, 0)).2 + 1))) (0, 0)).2 + Int.toNat t5 * 2) 2))
        (Am.appendOp env [48, 48] [V.slice t4_0 t4_1 t4_2, V.slice (Option.some (H.2, 0)) 1 1]
         (Am.Heap.alloc H
         (Am.Obj.cells 96
          (o95
          (Am.Heap.sub H (Option.getD (V.slPtr (Am.Heap.cell H (Option.getD t0 (0, 0)).1 ((Option.getD t0 (0, 0)).2 + 1))) (0, 0)).1
           ((Option.getD (V.slPtr (Am.Heap.cell H (Option.getD t0 (0, 0)).1 ((Option.getD t0 (0, 0)).2 + 1))) (0, 0)).2 + Int.toNat t5 * 2) 2))
          false))
         fun q n c H' ↦
         Am.Rec.loop (Am.Run env) (Am.loopAt env 53 2) 53 2
         (St.mk
          (Am.look
          [(0, T.v (V.ptr t0)), (1, T.v (V.int IntKind.i64 t1)), (4, T.v (V.slice q n c)),
           (5, T.v (V.int IntKind.i64 (IntKind.wrap IntKind.i64 (t5 + 1))))])
          (Am.look []) H')
         Kr Ke)))))
      (Am.Rec.loop (Am.Run env) (Am.loopAt env 53 2) 53 2
       (St.mk
       (Am.look
        [(0, T.v (V.ptr t0)), (1, T.v (V.int IntKind.i64 t1)), (4, T.v (V.slice t4_0 t4_1 t4_2)),
        (5, T.v (V.int IntKind.i64 (IntKind.wrap IntKind.i64 (t5 + 1))))])
       (Am.look []) H)
       Kr Ke))))))
    (Ke 0 (St.mk (Am.look [(0, T.v (V.ptr t0)), (4, T.v (V.slice t4_0 t4_1 t4_2))]) (Am.look []) H)))) :=
  fun t0 t1 t4_0 t4_1 t4_2 t5 H Kr Ke => (Run_loop (E := env)).trans (by kernel_rfl)

theorem eq3 : ∀ (x0p : Option (Nat × Nat)) (x0n x0c : Nat) (x1_0 x1_1 x1_2 x1_3 x1_4 x1_5 : Int) (x1_6 x1_7 : Bool) (x1_8p : Option (Nat × Nat)) (x1_8n x1_8c : Nat) (H : Am.Heap) (K : Am.V → Am.Heap → Prop),
  Am.Rec.call (Am.Run env) 3 [V.slice x0p x0n x0c, V.agg (c24 x1_0 x1_1 x1_2 x1_3 x1_4 x1_5 x1_6 x1_7 x1_8p x1_8n x1_8c)] H K =
  Am.Rec.call (Am.Run env) 9 [] H fun v H' ↦
   req (V.isK Kind.bool v)
   (br (!V.getBool v) (K (V.bool false) H')
    (Am.Rec.call (Am.Run env) 10 [V.int IntKind.i64 9] H' fun v H' ↦
    req (V.isTuple 2 v && (V.isK Kind.ptr (nthV (V.vals v) 0) && (V.isK (Kind.int IntKind.i64) (nthV (V.vals v) 1) || false)))
     (Am.Rec.loop (Am.Run env) (Am.loopAt env 3 6) 3 6
     (St.mk
      (Am.look
      [(0, T.v (V.slice x0p x0n x0c)), (3, T.lp 3 0), (5, T.v (V.ptr (V.getPtr (nthV (V.vals v) 0)))), (7, T.v (V.int IntKind.i64 0))])
      (Am.look [(3, Loc.cells 25 (c24 x1_0 x1_1 x1_2 x1_3 x1_4 x1_5 x1_6 x1_7 x1_8p x1_8n x1_8c))]) H')
     (fun S' ↦ False) fun j S' ↦
     br (Nat.beq j 0)
      (req (Am.isKT (KT.lp 3) (S'.1 3) && (Am.isKT (KT.k Kind.ptr) (S'.1 5) || false) && (Am.isLK 25 k24 (S'.2 3) || false))
      (Am.Rec.loop (Am.Run env) (Am.loopAt env 3 14) 3 14
       (St.mk
       (Am.look
        [(3, T.lp 3 0), (5, T.v (V.ptr (V.getPtr (T.val (S'.1 5))))), (10, T.v (V.slice Option.none 0 0)), (11, T.v (V.int IntKind.i64 0))])
       (Am.look [(3, Loc.cells 25 (o24 (Am.locCells (S'.2 3))))]) S'.3)
       (fun S' ↦ False) fun j S' ↦
       br (Nat.beq j 2)
       (req
        (Am.isKT (KT.lp 3) (S'.1 3) && (Am.isKT (KT.k Kind.ptr) (S'.1 5) && (Am.isKT (KT.k Kind.slice) (S'.1 10) || false)) &&
        (Am.isLK 25 k24 (S'.2 3) || false))
        (Am.Rec.call (Am.Run env) 12 [V.ptr (V.getPtr (T.val (S'.1 5)))] S'.3 fun v H' ↦
        req (V.isAgg v && Am.fits k37 (V.aggCells v))
         (Am.Rec.call (Am.Run env) 11
         [V.agg (o24 (Am.locCells (S'.2 3))), V.agg (o37 (V.aggCells v)), V.int IntKind.i64 9] H' fun v H' ↦
         req
          (V.isTuple 2 v &&
          (V.isK (Kind.int IntKind.i64) (nthV (V.vals v) 0) &&
           (V.isAgg (nthV (V.vals v) 1) && Am.fits k32 (V.aggCells (nthV (V.vals v) 1)) || false)))
          (Am.Rec.call (Am.Run env) 13
          [V.ptr (V.getPtr (T.val (S'.1 5))), V.int IntKind.i64 (V.getInt (nthV (V.vals v) 0)),
           V.agg (o32 (V.aggCells (nthV (V.vals v) 1)))]
          H' fun v_1 H' ↦
          req (V.isAgg v_1 && Am.fits k40 (V.aggCells v_1))
           (Am.Rec.loop (Am.Run env) (Am.loopAt env 3 22) 3 22
           (St.mk
            (Am.look
            [(5, T.v (V.ptr (V.getPtr (T.val (S'.1 5))))),
             (10, T.v (V.slice (V.slPtr (T.val (S'.1 10))) (V.slLen (T.val (S'.1 10))) (V.slCap (T.val (S'.1 10))))),
             (13, T.lp 13 0), (14, T.v (V.int IntKind.i64 0))])
            (Am.look [(13, Loc.cells 33 (o32 (V.aggCells (nthV (V.vals v) 1))))]) H')
           (fun S' ↦ req (Am.isKT (KT.k Kind.bool) (S'.1 4) || false || false) (K (V.bool (V.getBool (T.val (S'.1 4)))) S'.3)) fun j S' ↦
           br (Nat.beq j 4) (K (V.bool true) S'.3) False)))))
       False))
      False))) :=
  fun x0p x0n x0c x1_0 x1_1 x1_2 x1_3 x1_4 x1_5 x1_6 x1_7 x1_8p x1_8n x1_8c H K => (Run_call (E := env)).trans (by kernel_rfl)

theorem lp3_22 : ∀ (t5 t10_0 : Option (Nat × Nat)) (t10_1 t10_2 : Nat) (t14 l13 l13' : Int) (l13''_0 : Option (Nat × Nat)) (l13''_1 l13''_2 : Nat) (l13''' : Bool) (l13'''' l13''''' l13'''''' : Int) (l13''''''' : Bool) (H : Am.Heap)
  (Kr : Am.St → Prop) (Ke : Nat → Am.St → Prop),
  Am.Rec.loop (Am.Run env) (Am.loopAt env 3 22) 3 22
   (St.mk (Am.look [(5, T.v (V.ptr t5)), (10, T.v (V.slice t10_0 t10_1 t10_2)), (13, T.lp 13 0), (14, T.v (V.int IntKind.i64 t14))])
   (Am.look [(13, Loc.cells 33 (c32 l13 l13' l13''_0 l13''_1 l13''_2 l13''' l13'''' l13''''' l13'''''' l13'''''''))]) H)
   Kr Ke =
  br (decide (t14 < 9))
   (Am.joinP
   (fun Q ↦
    req (decide (0 ≤ t14) && decide (t14 < (↑t10_1 : Int)) && Option.isSome t10_0)
    ((Am.Rec.call (Am.Run env) 14 [V.ptr t5, V.int IntKind.i64 t14] H fun v H' ↦
     req (V.isK Kind.slice v)
      (req (Am.strOk H' (V.slPtr v) (V.slLen v))
      (req
       (Am.Heap.inb H' (Option.getD t10_0 (0, 0)).1 ((Option.getD t10_0 (0, 0)).2 + Int.toNat t14 * 1) 1 &&
       V.isK Kind.str (Am.Heap.cell H' (Option.getD t10_0 (0, 0)).1 ((Option.getD t10_0 (0, 0)).2 + Int.toNat t14 * 1)))
       (br (!Am.strEq (Am.strAt H' (V.slPtr v) (V.slLen v)) (V.getStr (Am.Heap.cell H' (Option.getD t10_0 (0, 0)).1 ((Option.getD t10_0 (0, 0)).2 + Int.toNat t14 * 1))))
       (br (bif !decide (l13 = 1) then decide (l13 = 2) else true)
        (Q (St.mk (Am.look [(98, T.v (V.bool !decide (l13' = t14)))]) (Am.look []) H'))
        (Q (St.mk (Am.look [(98, T.v (V.bool true))]) (Am.look []) H')))
       (Q (St.mk (Am.look [(98, T.v (V.bool false))]) (Am.look []) H')))))) ∧
     req
     (Am.Heap.inb H (Option.getD t10_0 (0, 0)).1 ((Option.getD t10_0 (0, 0)).2 + Int.toNat t14 * 1) 1 &&
      V.isK Kind.str (Am.Heap.cell H (Option.getD t10_0 (0, 0)).1 ((Option.getD t10_0 (0, 0)).2 + Int.toNat t14 * 1)))
     (Am.Rec.call (Am.Run env) 14 [V.ptr t5, V.int IntKind.i64 t14] H fun v H' ↦
      req (V.isK Kind.slice v)
      (req (Am.strOk H' (V.slPtr v) (V.slLen v))
       (br (!Am.strEq (Am.strAt H' (V.slPtr v) (V.slLen v)) (V.getStr (Am.Heap.cell H (Option.getD t10_0 (0, 0)).1 ((Option.getD t10_0 (0, 0)).2 + Int.toNat t14 * 1))))
       (br (bif !decide (l13 = 1) then decide (l13 = 2) else true)
        (Q (St.mk (Am.look [(98, T.v (V.bool !decide (l13' = t14)))]) (Am.look []) H'))
        (Q (St.mk (Am.look [(98, T.v (V.bool true))]) (Am.look []) H')))
       (Q (St.mk (Am.look [(98, T.v (V.bool false))]) (Am.look []) H')))))))
   fun S' ↦
   req (Am.isKT (KT.k Kind.bool) (S'.1 98) || false || false)
    (br (V.getBool (T.val (S'.1 98))) (Kr (St.mk (Am.look [(4, T.v (V.bool false))]) (Am.look []) S'.3))
    (Am.Rec.loop (Am.Run env) (Am.loopAt env 3 22) 3 22
     (St.mk
     (Am.look
      [(5, T.v (V.ptr t5)), (10, T.v (V.slice t10_0 t10_1 t10_2)), (13, T.lp 13 0), (14, T.v (V.int IntKind.i64 (IntKind.wrap IntKind.i64 (t14 + 1))))])
     (Am.look [(13, Loc.cells 33 (c32 l13 l13' l13''_0 l13''_1 l13''_2 l13''' l13'''' l13''''' l13'''''' l13'''''''))]) S'.3)
     Kr Ke)))
   (Ke 4 (St.mk (Am.look []) (Am.look []) H)) :=
  fun t5 t10_0 t10_1 t10_2 t14 l13 l13' l13''_0 l13''_1 l13''_2 l13''' l13'''' l13''''' l13'''''' l13''''''' H Kr Ke => (Run_loop (E := env)).trans (by kernel_rfl)

theorem lp3_14 : ∀ (t5 t10_0 : Option (Nat × Nat)) (t10_1 t10_2 : Nat) (t11 l3 l3' l3'' l3''' l3'''' l3''''' : Int) (l3'''''' l3''''''' : Bool) (l3''''''''_0 : Option (Nat × Nat)) (l3''''''''_1 l3''''''''_2 : Nat) (H : Am.Heap)
  (Kr : Am.St → Prop) (Ke : Nat → Am.St → Prop),
  Am.Rec.loop (Am.Run env) (Am.loopAt env 3 14) 3 14
   (St.mk (Am.look [(3, T.lp 3 0), (5, T.v (V.ptr t5)), (10, T.v (V.slice t10_0 t10_1 t10_2)), (11, T.v (V.int IntKind.i64 t11))])
   (Am.look [(3, Loc.cells 25 (c24 l3 l3' l3'' l3''' l3'''' l3''''' l3'''''' l3''''''' l3''''''''_0 l3''''''''_1 l3''''''''_2))]) H)
   Kr Ke =
  br (decide (t11 < 9))
   (Am.Rec.call (Am.Run env) 14 [V.ptr t5, V.int IntKind.i64 t11] H fun v H' ↦
   req (V.isK Kind.slice v)
    (req (Am.strOk H' (V.slPtr v) (V.slLen v))
    (Am.appendOp env [43, 43] [V.slice t10_0 t10_1 t10_2, V.slice (Option.some (H'.2, 0)) 1 1]
     (Am.Heap.alloc H' (Am.Obj.cells 9 [V.str (Am.strAt H' (V.slPtr v) (V.slLen v))] false)) fun q n c H' ↦
     Am.Rec.loop (Am.Run env) (Am.loopAt env 3 14) 3 14
     (St.mk
      (Am.look [(3, T.lp 3 0), (5, T.v (V.ptr t5)), (10, T.v (V.slice q n c)), (11, T.v (V.int IntKind.i64 (IntKind.wrap IntKind.i64 (t11 + 1))))])
      (Am.look [(3, Loc.cells 25 (c24 l3 l3' l3'' l3''' l3'''' l3''''' l3'''''' l3''''''' l3''''''''_0 l3''''''''_1 l3''''''''_2))]) H')
     Kr Ke)))
   (Ke 2
   (St.mk (Am.look [(3, T.lp 3 0), (5, T.v (V.ptr t5)), (10, T.v (V.slice t10_0 t10_1 t10_2))])
    (Am.look [(3, Loc.cells 25 (c24 l3 l3' l3'' l3''' l3'''' l3''''' l3'''''' l3''''''' l3''''''''_0 l3''''''''_1 l3''''''''_2))]) H)) :=
  fun t5 t10_0 t10_1 t10_2 t11 l3 l3' l3'' l3''' l3'''' l3''''' l3'''''' l3''''''' l3''''''''_0 l3''''''''_1 l3''''''''_2 H Kr Ke => (Run_loop (E := env)).trans (by kernel_rfl)

theorem lp3_6 : ∀ (t0_0 : Option (Nat × Nat)) (t0_1 t0_2 : Nat) (t5 : Option (Nat × Nat)) (t7 l3 l3' l3'' l3''' l3'''' l3''''' : Int) (l3'''''' l3''''''' : Bool) (l3''''''''_0 : Option (Nat × Nat)) (l3''''''''_1 l3''''''''_2 : Nat)
  (H : Am.Heap) (Kr : Am.St → Prop) (Ke : Nat → Am.St → Prop),
  Am.Rec.loop (Am.Run env) (Am.loopAt env 3 6) 3 6
   (St.mk (Am.look [(0, T.v (V.slice t0_0 t0_1 t0_2)), (3, T.lp 3 0), (5, T.v (V.ptr t5)), (7, T.v (V.int IntKind.i64 t7))])
   (Am.look [(3, Loc.cells 25 (c24 l3 l3' l3'' l3''' l3'''' l3''''' l3'''''' l3''''''' l3''''''''_0 l3''''''''_1 l3''''''''_2))]) H)
   Kr Ke =
  br (decide (t7 < (↑t0_1 : Int)) && decide (t7 < 40))
   (Am.joinP
   (fun Q ↦
    req (decide (0 ≤ t7) && decide (t7 < (↑t0_1 : Int)) && Option.isSome t0_0)
    (req
     (Am.Heap.inb H (Option.getD t0_0 (0, 0)).1 ((Option.getD t0_0 (0, 0)).2 + Int.toNat t7 * 9) 9 &&
      Am.fits k24 (Am.Heap.sub H (Option.getD t0_0 (0, 0)).1 ((Option.getD t0_0 (0, 0)).2 + Int.toNat t7 * 9) 9))
     (Am.Rec.call (Am.Run env) 12 [V.ptr t5] H fun v H' ↦
      req (V.isAgg v && Am.fits k37 (V.aggCells v))
      (Am.Rec.call (Am.Run env) 11
       [V.agg (o24 (Am.Heap.sub H (Option.getD t0_0 (0, 0)).1 ((Option.getD t0_0 (0, 0)).2 + Int.toNat t7 * 9) 9)),
       V.agg (o37 (V.aggCells v)), V.int IntKind.i64 9]
       H' fun v H' ↦
       req
       (V.isTuple 2 v &&
        (V.isK (Kind.int IntKind.i64) (nthV (V.vals v) 0) &&
        (V.isAgg (nthV (V.vals v) 1) && Am.fits k32 (V.aggCells (nthV (V.vals v) 1)) || false)))
       (Q
        (St.mk (Am.look [(8, T.v (V.int IntKind.i64 (V.getInt (nthV (V.vals v) 0)))), (9, T.lp 9 0)])
        (Am.look [(9, Loc.cells 33 (o32 (V.aggCells (nthV (V.vals v) 1))))]) H')))) ∧
     Am.Rec.call (Am.Run env) 12 [V.ptr t5] H fun v H' ↦
     req (V.isAgg v && Am.fits k37 (V.aggCells v))
      (req
      (Am.Heap.inb H' (Option.getD t0_0 (0, 0)).1 ((Option.getD t0_0 (0, 0)).2 + Int.toNat t7 * 9) 9 &&
       Am.fits k24 (Am.Heap.sub H' (Option.getD t0_0 (0, 0)).1 ((Option.getD t0_0 (0, 0)).2 + Int.toNat t7 * 9) 9))
      (Am.Rec.call (Am.Run env) 11
       [V.agg (o24 (Am.Heap.sub H' (Option.getD t0_0 (0, 0)).1 ((Option.getD t0_0 (0, 0)).2 + Int.toNat t7 * 9) 9)),
       V.agg (o37 (V.aggCells v)), V.int IntKind.i64 9]
       H' fun v H' ↦
       req
       (V.isTuple 2 v &&
        (V.isK (Kind.int IntKind.i64) (nthV (V.vals v) 0) &&
        (V.isAgg (nthV (V.vals v) 1) && Am.fits k32 (V.aggCells (nthV (V.vals v) 1)) || false)))
       (Q
        (St.mk (Am.look [(8, T.v (V.int IntKind.i64 (V.getInt (nthV (V.vals v) 0)))), (9, T.lp 9 0)])
        (Am.look [(9, Loc.cells 33 (o32 (V.aggCells (nthV (V.vals v) 1))))]) H'))))))
   fun S' ↦
   req (Am.isKT (KT.k (Kind.int IntKind.i64)) (S'.1 8) && (Am.isKT (KT.lp 9) (S'.1 9) || false) && (Am.isLK 33 k32 (S'.2 9) || false))
    (Am.Rec.call (Am.Run env) 13
    [V.ptr t5, V.int IntKind.i64 (V.getInt (T.val (S'.1 8))), V.agg (o32 (Am.locCells (S'.2 9)))] S'.3 fun v H' ↦
    req (V.isAgg v && Am.fits k40 (V.aggCells v))
     (Am.Rec.loop (Am.Run env) (Am.loopAt env 3 6) 3 6
     (St.mk
      (Am.look [(0, T.v (V.slice t0_0 t0_1 t0_2)), (3, T.lp 3 0), (5, T.v (V.ptr t5)), (7, T.v (V.int IntKind.i64 (IntKind.wrap IntKind.i64 (t7 + 1))))])
      (Am.look [(3, Loc.cells 25 (c24 l3 l3' l3'' l3''' l3'''' l3''''' l3'''''' l3''''''' l3''''''''_0 l3''''''''_1 l3''''''''_2))]) H')
     Kr Ke)))
   (Ke 0
   (St.mk (Am.look [(3, T.lp 3 0), (5, T.v (V.ptr t5))])
    (Am.look [(3, Loc.cells 25 (c24 l3 l3' l3'' l3''' l3'''' l3''''' l3'''''' l3''''''' l3''''''''_0 l3''''''''_1 l3''''''''_2))]) H)) :=
  fun t0_0 t0_1 t0_2 t5 t7 l3 l3' l3'' l3''' l3'''' l3''''' l3'''''' l3''''''' l3''''''''_0 l3''''''''_1 l3''''''''_2 H Kr Ke => (Run_loop (E := env)).trans (by kernel_rfl)

theorem eq4 : ∀ (x0p : Option (Nat × Nat)) (x0n x0c : Nat) (x1 x2_0 x2_1 x2_2 x2_3 x2_4 x2_5 : Int) (x2_6 x2_7 : Bool) (x2_8p : Option (Nat × Nat)) (x2_8n x2_8c : Nat) (H : Am.Heap) (K : Am.V → Am.Heap → Prop),
  Am.Rec.call (Am.Run env) 4
   [V.slice x0p x0n x0c, V.int IntKind.u8 x1, V.agg (c24 x2_0 x2_1 x2_2 x2_3 x2_4 x2_5 x2_6 x2_7 x2_8p x2_8n x2_8c)] H K =
  Am.Rec.call (Am.Run env) 9 [] H fun v H' ↦
   req (V.isK Kind.bool v)
   (br (!V.getBool v) (K (V.bool false) H')
    (Am.Rec.call (Am.Run env) 10 [V.int IntKind.i64 9] H' fun v H' ↦
    req (V.isTuple 2 v && (V.isK Kind.ptr (nthV (V.vals v) 0) && (V.isK (Kind.int IntKind.i64) (nthV (V.vals v) 1) || false)))
     (Am.Rec.call (Am.Run env) 15 [V.int IntKind.i64 9] H' fun v_1 H' ↦
     req (V.isK Kind.ptr v_1)
      (Am.Rec.loop (Am.Run env) (Am.loopAt env 4 7) 4 7
      (St.mk
       (Am.look
       [(0, T.v (V.slice x0p x0n x0c)), (1, T.v (V.int IntKind.u8 x1)), (5, T.lp 5 0), (7, T.v (V.ptr (V.getPtr (nthV (V.vals v) 0)))),
        (9, T.v (V.ptr (V.getPtr v_1))), (10, T.v (V.int IntKind.i64 0))])
       (Am.look [(5, Loc.cells 25 (c24 x2_0 x2_1 x2_2 x2_3 x2_4 x2_5 x2_6 x2_7 x2_8p x2_8n x2_8c))]) H')
      (fun S' ↦ False) fun j S' ↦
      br (Nat.beq j 0)
       (req
       (Am.isKT (KT.k (Kind.int IntKind.u8)) (S'.1 1) &&
        (Am.isKT (KT.lp 5) (S'.1 5) && (Am.isKT (KT.k Kind.ptr) (S'.1 7) && (Am.isKT (KT.k Kind.ptr) (S'.1 9) || false))) &&
        (Am.isLK 25 k24 (S'.2 5) || false))
       (req (Option.isSome (V.getPtr (T.val (S'.1 9))))
        (req
        (Am.Heap.inb S'.3 (Option.getD (V.getPtr (T.val (S'.1 9))) (0, 0)).1 ((Option.getD (V.getPtr (T.val (S'.1 9))) (0, 0)).2 + 2) 12 &&
         Am.fits k37
         (Am.Heap.sub S'.3 (Option.getD (V.getPtr (T.val (S'.1 9))) (0, 0)).1 ((Option.getD (V.getPtr (T.val (S'.1 9))) (0, 0)).2 + 2) 12))
        (Am.Rec.call (Am.Run env) 11
         [V.agg (o24 (Am.locCells (S'.2 5))),
         V.agg
          (o37
          (Am.Heap.sub S'.3 (Option.getD (V.getPtr (T.val (S'.1 9))) (0, 0)).1 ((Option.getD (V.getPtr (T.val (S'.1 9))) (0, 0)).2 + 2) 12)),
         V.int IntKind.i64 9]
         S'.3 fun v H' ↦
         req
         (V.isTuple 2 v &&
          (V.isK (Kind.int IntKind.i64) (nthV (V.vals v) 0) &&
          (V.isAgg (nthV (V.vals v) 1) && Am.fits k32 (V.aggCells (nthV (V.vals v) 1)) || false)))
         (Am.Rec.call (Am.Run env) 12 [V.ptr (V.getPtr (T.val (S'.1 7)))] H' fun v_2 H' ↦
          req (V.isAgg v_2 && Am.fits k37 (V.aggCells v_2))
          (Am.Rec.call (Am.Run env) 17
           [V.agg (o37 (V.aggCells v_2)),
           V.int IntKind.i64 (IntKind.wrap IntKind.i64 (Int.tmod (V.getInt (T.val (S'.1 1))) 8)),
           V.agg (o32 (V.aggCells (nthV (V.vals v) 1)))]
           H' fun v_3 H' ↦
           req (V.isK Kind.bool v_3)
           (Am.Rec.call (Am.Run env) 13
            [V.ptr (V.getPtr (T.val (S'.1 7))), V.int IntKind.i64 (IntKind.wrap IntKind.i64 (Int.tmod (V.getInt (T.val (S'.1 1))) 8)),
            V.agg (o32 (V.aggCells (nthV (V.vals v) 1)))]
            H' fun v H' ↦
            req (V.isAgg v && Am.fits k40 (V.aggCells v))
            (br (!V.getBool v_3)
             (br (decide (V.getInt (nthV (V.aggCells v) 0) = 13))
             (br (decide ((↑(V.slLen (nthV (V.aggCells v) 1)) : Int) = 0))
              (Am.Rec.call (Am.Run env) 18 [V.ptr (V.getPtr (T.val (S'.1 7))), V.ptr (V.getPtr (T.val (S'.1 9)))]
              H' fun v H' ↦ req (V.isK Kind.bool v) (K (V.bool (V.getBool v)) H'))
              (K (V.bool false) H'))
             (K (V.bool false) H'))
             (K (V.bool true) H')))))))))
       False)))) :=
  fun x0p x0n x0c x1 x2_0 x2_1 x2_2 x2_3 x2_4 x2_5 x2_6 x2_7 x2_8p x2_8n x2_8c H K => (Run_call (E := env)).trans (by kernel_rfl)

theorem lp4_7 : ∀ (t0_0 : Option (Nat × Nat)) (t0_1 t0_2 : Nat) (t1 : Int) (t7 t9 : Option (Nat × Nat)) (t10 l5 l5' l5'' l5''' l5'''' l5''''' : Int) (l5'''''' l5''''''' : Bool) (l5''''''''_0 : Option (Nat × Nat))
  (l5''''''''_1 l5''''''''_2 : Nat) (H : Am.Heap) (Kr : Am.St → Prop) (Ke : Nat → Am.St → Prop),
  Am.Rec.loop (Am.Run env) (Am.loopAt env 4 7) 4 7
   (St.mk
   (Am.look
    [(0, T.v (V.slice t0_0 t0_1 t0_2)), (1, T.v (V.int IntKind.u8 t1)), (5, T.lp 5 0), (7, T.v (V.ptr t7)), (9, T.v (V.ptr t9)),
    (10, T.v (V.int IntKind.i64 t10))])
   (Am.look [(5, Loc.cells 25 (c24 l5 l5' l5'' l5''' l5'''' l5''''' l5'''''' l5''''''' l5''''''''_0 l5''''''''_1 l5''''''''_2))]) H)
   Kr Ke =
  br (decide (t10 < (↑t0_1 : Int)) && decide (t10 < 40))
   (req (decide (0 ≤ t10) && decide (t10 < (↑t0_1 : Int)) && Option.isSome t0_0)
   (req
    (Am.Heap.inb H (Option.getD t0_0 (0, 0)).1 ((Option.getD t0_0 (0, 0)).2 + Int.toNat t10 * 9) 9 &&
    Am.fits k24 (Am.Heap.sub H (Option.getD t0_0 (0, 0)).1 ((Option.getD t0_0 (0, 0)).2 + Int.toNat t10 * 9) 9))
    (req (Option.isSome t9)
    (req
     (Am.Heap.inb H (Option.getD t9 (0, 0)).1 ((Option.getD t9 (0, 0)).2 + 2) 12 && Am.fits k37 (Am.Heap.sub H (Option.getD t9 (0, 0)).1 ((Option.getD t9 (0, 0)).2 + 2) 12))
     (Am.Rec.call (Am.Run env) 11
     [V.agg (o24 (Am.Heap.sub H (Option.getD t0_0 (0, 0)).1 ((Option.getD t0_0 (0, 0)).2 + Int.toNat t10 * 9) 9)),
      V.agg (o37 (Am.Heap.sub H (Option.getD t9 (0, 0)).1 ((Option.getD t9 (0, 0)).2 + 2) 12)), V.int IntKind.i64 9]
     H fun v H' ↦
     req
      (V.isTuple 2 v &&
      (V.isK (Kind.int IntKind.i64) (nthV (V.vals v) 0) &&
       (V.isAgg (nthV (V.vals v) 1) && Am.fits k32 (V.aggCells (nthV (V.vals v) 1)) || false)))
      (Am.Rec.call (Am.Run env) 13
      [V.ptr t7, V.int IntKind.i64 (V.getInt (nthV (V.vals v) 0)), V.agg (o32 (V.aggCells (nthV (V.vals v) 1)))] H'
      fun v_1 H' ↦
      req (V.isAgg v_1 && Am.fits k40 (V.aggCells v_1))
       (Am.Rec.call (Am.Run env) 16
       [V.ptr t9, V.int IntKind.i64 (V.getInt (nthV (V.vals v) 0)), V.agg (o32 (V.aggCells (nthV (V.vals v) 1)))] H'
       fun v H' ↦
       req
        (V.isTuple 3 v &&
        (V.isK (Kind.int IntKind.i64) (nthV (V.vals v) 0) &&
         (V.isK Kind.str (nthV (V.vals v) 1) &&
         (V.isAgg (nthV (V.vals v) 2) && Am.fits k37 (V.aggCells (nthV (V.vals v) 2)) || false))))
        (Am.Rec.loop (Am.Run env) (Am.loopAt env 4 7) 4 7
        (St.mk
         (Am.look
         [(0, T.v (V.slice t0_0 t0_1 t0_2)), (1, T.v (V.int IntKind.u8 t1)), (5, T.lp 5 0), (7, T.v (V.ptr t7)), (9, T.v (V.ptr t9)),
          (10, T.v (V.int IntKind.i64 (IntKind.wrap IntKind.i64 (t10 + 1))))])
         (Am.look [(5, Loc.cells 25 (c24 l5 l5' l5'' l5''' l5'''' l5''''' l5'''''' l5''''''' l5''''''''_0 l5''''''''_1 l5''''''''_2))]) H')
        Kr Ke))))))))
   (Ke 0
   (St.mk (Am.look [(1, T.v (V.int IntKind.u8 t1)), (5, T.lp 5 0), (7, T.v (V.ptr t7)), (9, T.v (V.ptr t9))])
    (Am.look [(5, Loc.cells 25 (c24 l5 l5' l5'' l5''' l5'''' l5''''' l5'''''' l5''''''' l5''''''''_0 l5''''''''_1 l5''''''''_2))]) H)) :=
  fun t0_0 t0_1 t0_2 t1 t7 t9 t10 l5 l5' l5'' l5''' l5'''' l5''''' l5'''''' l5''''''' l5''''''''_0 l5''''''''_1 l5''''''''_2 H Kr Ke => (Run_loop (E := env)).trans (by kernel_rfl)

theorem eq5 : ∀ (x0p : Option (Nat × Nat)) (x0n x0c : Nat) (H : Am.Heap) (K : Am.V → Am.Heap → Prop),
  Am.Rec.call (Am.Run env) 5 [V.slice x0p x0n x0c] H K =
  Am.Rec.call (Am.Run env) 9 [] H fun v H' ↦
   req (V.isK Kind.bool v)
   (br (!V.getBool v) (K (V.bool false) H')
    (Am.Rec.call (Am.Run env) 10 [V.int IntKind.i64 256] H' fun v H' ↦
    req (V.isTuple 2 v && (V.isK Kind.ptr (nthV (V.vals v) 0) && (V.isK (Kind.int IntKind.i64) (nthV (V.vals v) 1) || false)))
     (Am.Rec.call (Am.Run env) 15 [V.int IntKind.i64 256] H' fun v_1 H' ↦
     req (V.isK Kind.ptr v_1)
      (Am.Rec.loop (Am.Run env) (Am.loopAt env 5 7) 5 7
      (St.mk
       (Am.look
       [(0, T.v (V.slice x0p x0n x0c)), (3, T.v (V.ptr (V.getPtr (nthV (V.vals v) 0)))), (5, T.v (V.ptr (V.getPtr v_1))),
        (6, T.v (V.int IntKind.i64 0))])
       (Am.look []) H')
      (fun S' ↦ req (Am.isKT (KT.k Kind.bool) (S'.1 2) || false || false) (K (V.bool (V.getBool (T.val (S'.1 2)))) S'.3)) fun j S' ↦
      br (Nat.beq j 0)
       (req (Am.isKT (KT.k Kind.ptr) (S'.1 3) && (Am.isKT (KT.k Kind.ptr) (S'.1 5) || false) || false)
       (Am.Rec.call (Am.Run env) 20 [V.ptr (V.getPtr (T.val (S'.1 3))), V.bool false] S'.3 fun v H' ↦
        Am.Rec.call (Am.Run env) 21 [V.ptr (V.getPtr (T.val (S'.1 5))), V.bool false] H' fun v H' ↦
        Am.Rec.call (Am.Run env) 18 [V.ptr (V.getPtr (T.val (S'.1 3))), V.ptr (V.getPtr (T.val (S'.1 5)))] H' fun v H' ↦
         req (V.isK Kind.bool v) (K (V.bool (V.getBool v)) H')))
       False)))) :=
  fun x0p x0n x0c H K => (Run_call (E := env)).trans (by kernel_rfl)

theorem lp5_7 : ∀ (t0_0 : Option (Nat × Nat)) (t0_1 t0_2 : Nat) (t3 t5 : Option (Nat × Nat)) (t6 : Int) (H : Am.Heap) (Kr : Am.St → Prop) (Ke : Nat → Am.St → Prop),
  Am.Rec.loop (Am.Run env) (Am.loopAt env 5 7) 5 7
   (St.mk (Am.look [(0, T.v (V.slice t0_0 t0_1 t0_2)), (3, T.v (V.ptr t3)), (5, T.v (V.ptr t5)), (6, T.v (V.int IntKind.i64 t6))]) (Am.look []) H) Kr Ke =
  br (decide (t6 < (↑t0_1 : Int)) && decide (t6 < 60))
   (req (decide (0 ≤ t6) && decide (t6 < (↑t0_1 : Int)) && Option.isSome t0_0)
   (req
    (Am.Heap.inb H (Option.getD t0_0 (0, 0)).1 ((Option.getD t0_0 (0, 0)).2 + Int.toNat t6 * 1) 1 &&
    V.isK (Kind.int IntKind.u8) (Am.Heap.cell H (Option.getD t0_0 (0, 0)).1 ((Option.getD t0_0 (0, 0)).2 + Int.toNat t6 * 1)))
    (Am.Rec.call (Am.Run env) 19 [V.ptr t3] (Am.Heap.alloc H (Am.Obj.cells 5 [V.int IntKind.u8 (IntKind.wrap IntKind.u8 t6)] false)) fun v H' ↦
    req (V.isK (Kind.int IntKind.i64) v)
     (Am.Rec.call (Am.Run env) 13
     [V.ptr t3, V.int IntKind.i64 0,
      V.agg
      (c32 1 (IntKind.wrap IntKind.i64 (V.getInt (Am.Heap.cell H (Option.getD t0_0 (0, 0)).1 ((Option.getD t0_0 (0, 0)).2 + Int.toNat t6 * 1))))
       (Option.some (H.2, 0)) 1 1 false 0 0 0 false)]
     H' fun v_1 H' ↦
     req (V.isAgg v_1 && Am.fits k40 (V.aggCells v_1))
      (Am.Rec.call (Am.Run env) 16
      [V.ptr t5, V.int IntKind.i64 0,
       V.agg
       (c32 1 (IntKind.wrap IntKind.i64 (V.getInt (Am.Heap.cell H (Option.getD t0_0 (0, 0)).1 ((Option.getD t0_0 (0, 0)).2 + Int.toNat t6 * 1))))
        (Option.some (H.2, 0)) 1 1 false 0 0 0 false)]
      H' fun v_2 H' ↦
      req
       (V.isTuple 3 v_2 &&
       (V.isK (Kind.int IntKind.i64) (nthV (V.vals v_2) 0) &&
        (V.isK Kind.str (nthV (V.vals v_2) 1) &&
        (V.isAgg (nthV (V.vals v_2) 2) && Am.fits k37 (V.aggCells (nthV (V.vals v_2) 2)) || false))))
       (Am.joinP
       (fun Q ↦
        req (Option.isSome t5)
        ((Am.Rec.call (Am.Run env) 19 [V.ptr t3] H' fun v_3 H' ↦
         req (V.isK (Kind.int IntKind.i64) v_3)
          (req
          (Am.Heap.inb H' (Option.getD t5 (0, 0)).1 ((Option.getD t5 (0, 0)).2 + 1) 1 &&
           V.isK Kind.slice (Am.Heap.cell H' (Option.getD t5 (0, 0)).1 ((Option.getD t5 (0, 0)).2 + 1)))
          (br (!!decide (V.getInt v_3 = (↑(V.slLen (Am.Heap.cell H' (Option.getD t5 (0, 0)).1 ((Option.getD t5 (0, 0)).2 + 1))) : Int)))
           (Am.Rec.call (Am.Run env) 19 [V.ptr t3] H' fun v_4 H' ↦
           req (V.isK (Kind.int IntKind.i64) v_4)
            (br (!decide (V.getInt v_4 > 8))
            (Am.Rec.call (Am.Run env) 19 [V.ptr t3] H' fun v_5 H' ↦
             req (V.isK (Kind.int IntKind.i64) v_5)
             (br (decide (V.getInt v_5 < V.getInt v))
              (Am.Rec.call (Am.Run env) 19 [V.ptr t3] H' fun v H' ↦
              req (V.isK (Kind.int IntKind.i64) v)
               (Q (St.mk (Am.look [(66, T.v (V.bool !decide (V.getInt v = 1)))]) (Am.look []) H')))
              (Q (St.mk (Am.look [(66, T.v (V.bool false))]) (Am.look []) H'))))
            (Q (St.mk (Am.look [(66, T.v (V.bool true))]) (Am.look []) H'))))
           (Q (St.mk (Am.look [(66, T.v (V.bool true))]) (Am.look []) H'))))) ∧
         req
         (Am.Heap.inb H' (Option.getD t5 (0, 0)).1 ((Option.getD t5 (0, 0)).2 + 1) 1 &&
          V.isK Kind.slice (Am.Heap.cell H' (Option.getD t5 (0, 0)).1 ((Option.getD t5 (0, 0)).2 + 1)))
         (Am.Rec.call (Am.Run env) 19 [V.ptr t3] H' fun v_3 H'_1 ↦
          req (V.isK (Kind.int IntKind.i64) v_3)
          (br (!!decide (V.getInt v_3 = (↑(V.slLen (Am.Heap.cell H' (Option.getD t5 (0, 0)).1 ((Option.getD t5 (0, 0)).2 + 1))) : Int)))
           (Am.Rec.call (Am.Run env) 19 [V.ptr t3] H'_1 fun v_4 H' ↦
           req (V.isK (Kind.int IntKind.i64) v_4)
            (br (!decide (V.getInt v_4 > 8))
            (Am.Rec.call (Am.Run env) 19 [V.ptr t3] H' fun v_5 H' ↦
             req (V.isK (Kind.int IntKind.i64) v_5)
             (br (decide (V.getInt v_5 < V.getInt v))
              (Am.Rec.call (Am.Run env) 19 [V.ptr t3] H' fun v H' ↦
              req (V.isK (Kind.int IntKind.i64) v)
               (Q (St.mk (Am.look [(66, T.v (V.bool !decide (V.getInt v = 1)))]) (Am.look []) H')))
              (Q (St.mk (Am.look [(66, T.v (V.bool false))]) (Am.look []) H'))))
            (Q (St.mk (Am.look [(66, T.v (V.bool true))]) (Am.look []) H'))))
           (Q (St.mk (Am.look [(66, T.v (V.bool true))]) (Am.look []) H'_1))))))
       fun S' ↦
       req (Am.isKT (KT.k Kind.bool) (S'.1 66) || false || false)
        (br (V.getBool (T.val (S'.1 66))) (Kr (St.mk (Am.look [(2, T.v (V.bool false))]) (Am.look []) S'.3))
        (Am.Rec.loop (Am.Run env) (Am.loopAt env 5 7) 5 7
         (St.mk
         (Am.look
          [(0, T.v (V.slice t0_0 t0_1 t0_2)), (3, T.v (V.ptr t3)), (5, T.v (V.ptr t5)),
          (6, T.v (V.int IntKind.i64 (IntKind.wrap IntKind.i64 (t6 + 1))))])
         (Am.look []) S'.3)
         Kr Ke))))))))
   (Ke 0 (St.mk (Am.look [(3, T.v (V.ptr t3)), (5, T.v (V.ptr t5))]) (Am.look []) H)) :=
  fun t0_0 t0_1 t0_2 t3 t5 t6 H Kr Ke => (Run_loop (E := env)).trans (by kernel_rfl)

theorem eq6 : ∀ (x0 : Int) (x1p : Option (Nat × Nat)) (x1n x1c : Nat) (H : Am.Heap) (K : Am.V → Am.Heap → Prop),
  Am.Rec.call (Am.Run env) 6 [V.int IntKind.u8 x0, V.slice x1p x1n x1c] H K =
  Am.Rec.call (Am.Run env) 9 [] H fun v H' ↦
   req (V.isK Kind.bool v)
   (br (!V.getBool v) (K (V.bool false) H')
    (Am.Rec.call (Am.Run env) 10 [V.int IntKind.i64 (IntKind.wrap IntKind.i64 (1 + Int.tmod (IntKind.wrap IntKind.i64 x0) 20))] H' fun v H' ↦
    req (V.isTuple 2 v && (V.isK Kind.ptr (nthV (V.vals v) 0) && (V.isK (Kind.int IntKind.i64) (nthV (V.vals v) 1) || false)))
     (Am.Rec.call (Am.Run env) 15 [V.int IntKind.i64 (IntKind.wrap IntKind.i64 (1 + Int.tmod (IntKind.wrap IntKind.i64 x0) 20))] H' fun v_1 H' ↦
     req (V.isK Kind.ptr v_1)
      (Am.Rec.loop (Am.Run env) (Am.loopAt env 6 8) 6 8
      (St.mk
       (Am.look
       [(1, T.v (V.slice x1p x1n x1c)), (5, T.v (V.int IntKind.i64 (IntKind.wrap IntKind.i64 (1 + Int.tmod (IntKind.wrap IntKind.i64 x0) 20)))),
        (6, T.v (V.ptr (V.getPtr (nthV (V.vals v) 0)))), (7, T.v (V.int IntKind.i64 (V.getInt (nthV (V.vals v) 1)))),
        (8, T.v (V.ptr (V.getPtr v_1))), (9, T.v (V.int IntKind.i64 0))])
       (Am.look []) H')
      (fun S' ↦ req (Am.isKT (KT.k Kind.bool) (S'.1 4) || false || false) (K (V.bool (V.getBool (T.val (S'.1 4)))) S'.3)) fun j S' ↦
      br (Nat.beq j 0)
       (req (Am.isKT (KT.k (Kind.int IntKind.i64)) (S'.1 7) || false || false) (K (V.bool (decide (V.getInt (T.val (S'.1 7)) = 0))) S'.3))
       False)))) :=
  fun x0 x1p x1n x1c H K => (Run_call (E := env)).trans (by kernel_rfl)

theorem lp6_8 : ∀ (t1_0 : Option (Nat × Nat)) (t1_1 t1_2 : Nat) (t5 : Int) (t6 : Option (Nat × Nat)) (t7 : Int) (t8 : Option (Nat × Nat)) (t9 : Int) (H : Am.Heap) (Kr : Am.St → Prop) (Ke : Nat → Am.St → Prop),
  Am.Rec.loop (Am.Run env) (Am.loopAt env 6 8) 6 8
   (St.mk
   (Am.look
    [(1, T.v (V.slice t1_0 t1_1 t1_2)), (5, T.v (V.int IntKind.i64 t5)), (6, T.v (V.ptr t6)), (7, T.v (V.int IntKind.i64 t7)), (8, T.v (V.ptr t8)),
    (9, T.v (V.int IntKind.i64 t9))])
   (Am.look []) H)
   Kr Ke =
  br (decide (t9 < (↑t1_1 : Int)) && decide (t9 < 80))
   (req (decide (0 ≤ t9) && decide (t9 < (↑t1_1 : Int)) && Option.isSome t1_0)
   (req
    (Am.Heap.inb H (Option.getD t1_0 (0, 0)).1 ((Option.getD t1_0 (0, 0)).2 + Int.toNat t9 * 9 + 1) 1 &&
    V.isK (Kind.int IntKind.u8) (Am.Heap.cell H (Option.getD t1_0 (0, 0)).1 ((Option.getD t1_0 (0, 0)).2 + Int.toNat t9 * 9 + 1)))
    (Am.joinP
    (fun Q ↦
     br (decide (Int.tmod (V.getInt (Am.Heap.cell H (Option.getD t1_0 (0, 0)).1 ((Option.getD t1_0 (0, 0)).2 + Int.toNat t9 * 9 + 1))) 43 = 40))
     (Am.Rec.call (Am.Run env) 22 [V.ptr t6] H fun v H' ↦
      Am.Rec.call (Am.Run env) 23 [V.ptr t8] H' fun v H' ↦ Q (St.mk (Am.look []) (Am.look []) H'))
     (br (decide (Int.tmod (V.getInt (Am.Heap.cell H (Option.getD t1_0 (0, 0)).1 ((Option.getD t1_0 (0, 0)).2 + Int.toNat t9 * 9 + 1))) 43 > 40))
      (Am.Rec.call (Am.Run env) 20
      [V.ptr t6, V.bool (decide (Int.tmod (V.getInt (Am.Heap.cell H (Option.getD t1_0 (0, 0)).1 ((Option.getD t1_0 (0, 0)).2 + Int.toNat t9 * 9 + 1))) 43 = 42))] H fun v H' ↦
      Am.Rec.call (Am.Run env) 21
       [V.ptr t8, V.bool (decide (Int.tmod (V.getInt (Am.Heap.cell H (Option.getD t1_0 (0, 0)).1 ((Option.getD t1_0 (0, 0)).2 + Int.toNat t9 * 9 + 1))) 43 = 42))] H'
       fun v H' ↦ Q (St.mk (Am.look []) (Am.look []) H'))
      (req (decide (0 ≤ t9) && decide (t9 < (↑t1_1 : Int)) && Option.isSome t1_0)
      (req
       (Am.Heap.inb H (Option.getD t1_0 (0, 0)).1 ((Option.getD t1_0 (0, 0)).2 + Int.toNat t9 * 9) 9 &&
       Am.fits k24 (Am.Heap.sub H (Option.getD t1_0 (0, 0)).1 ((Option.getD t1_0 (0, 0)).2 + Int.toNat t9 * 9) 9))
       (req (Option.isSome t8)
       (req
        (Am.Heap.inb H (Option.getD t8 (0, 0)).1 ((Option.getD t8 (0, 0)).2 + 2) 12 &&
        Am.fits k37 (Am.Heap.sub H (Option.getD t8 (0, 0)).1 ((Option.getD t8 (0, 0)).2 + 2) 12))
        (Am.Rec.call (Am.Run env) 11
        [V.agg (o24 (Am.Heap.sub H (Option.getD t1_0 (0, 0)).1 ((Option.getD t1_0 (0, 0)).2 + Int.toNat t9 * 9) 9)),
         V.agg (o37 (Am.Heap.sub H (Option.getD t8 (0, 0)).1 ((Option.getD t8 (0, 0)).2 + 2) 12)), V.int IntKind.i64 t5]
        H fun v H' ↦
        req
         (V.isTuple 2 v &&
         (V.isK (Kind.int IntKind.i64) (nthV (V.vals v) 0) &&
          (V.isAgg (nthV (V.vals v) 1) && Am.fits k32 (V.aggCells (nthV (V.vals v) 1)) || false)))
         (Am.Rec.call (Am.Run env) 13
         [V.ptr t6, V.int IntKind.i64 (V.getInt (nthV (V.vals v) 0)),
          V.agg (o32 (V.aggCells (nthV (V.vals v) 1)))]
         H' fun v_1 H' ↦
         req (V.isAgg v_1 && Am.fits k40 (V.aggCells v_1))
          (Am.Rec.call (Am.Run env) 16
          [V.ptr t8, V.int IntKind.i64 (V.getInt (nthV (V.vals v) 0)),
           V.agg (o32 (V.aggCells (nthV (V.vals v) 1)))]
          H' fun v H' ↦
          req
           (V.isTuple 3 v &&
           (V.isK (Kind.int IntKind.i64) (nthV (V.vals v) 0) &&
            (V.isK Kind.str (nthV (V.vals v) 1) &&
            (V.isAgg (nthV (V.vals v) 2) && Am.fits k37 (V.aggCells (nthV (V.vals v) 2)) || false))))
           (Am.Rec.call (Am.Run env) 24
           [V.agg (o40 (V.aggCells v_1)), V.int IntKind.i64 (V.getInt (nthV (V.vals v) 0)),
            V.str (V.getStr (nthV (V.vals v) 1)), V.agg (o37 (V.aggCells (nthV (V.vals v) 2)))]
           H' fun v H' ↦
           req (V.isK Kind.bool v)
            (br (!V.getBool v) (Kr (St.mk (Am.look [(4, T.v (V.bool false))]) (Am.look []) H'))
            (Q (St.mk (Am.look []) (Am.look []) H')))))))))))))
    fun S' ↦
    Am.Rec.call (Am.Run env) 18 [V.ptr t6, V.ptr t8] S'.3 fun v H' ↦
     req (V.isK Kind.bool v)
     (br (!V.getBool v) (Kr (St.mk (Am.look [(4, T.v (V.bool false))]) (Am.look []) H'))
      (Am.Rec.loop (Am.Run env) (Am.loopAt env 6 8) 6 8
      (St.mk
       (Am.look
       [(1, T.v (V.slice t1_0 t1_1 t1_2)), (5, T.v (V.int IntKind.i64 t5)), (6, T.v (V.ptr t6)), (7, T.v (V.int IntKind.i64 t7)),
        (8, T.v (V.ptr t8)), (9, T.v (V.int IntKind.i64 (IntKind.wrap IntKind.i64 (t9 + 1))))])
       (Am.look []) H')
      Kr Ke)))))
   (Ke 0 (St.mk (Am.look [(7, T.v (V.int IntKind.i64 t7))]) (Am.look []) H)) :=
  fun t1_0 t1_1 t1_2 t5 t6 t7 t8 t9 H Kr Ke => (Run_loop (E := env)).trans (by kernel_rfl)

theorem eq7 : ∀ (x0p : Option (Nat × Nat)) (x0n x0c : Nat) (x1 : Bool) (H : Am.Heap) (K : Am.V → Am.Heap → Prop),
  Am.Rec.call (Am.Run env) 7 [V.slice x0p x0n x0c, V.bool x1] H K =
  Am.Rec.call (Am.Run env) 9 [] H fun v H' ↦
   req (V.isK Kind.bool v)
   (br (!V.getBool v) (K (V.bool false) H')
    (Am.Rec.call (Am.Run env) 10 [V.int IntKind.i64 9] H' fun v H' ↦
    req (V.isTuple 2 v && (V.isK Kind.ptr (nthV (V.vals v) 0) && (V.isK (Kind.int IntKind.i64) (nthV (V.vals v) 1) || false)))
     (Am.Rec.loop (Am.Run env) (Am.loopAt env 7 6) 7 6
     (St.mk
      (Am.look
      [(0, T.v (V.slice x0p x0n x0c)), (1, T.v (V.bool x1)), (5, T.v (V.ptr (V.getPtr (nthV (V.vals v) 0)))),
       (7, T.v (V.int IntKind.i64 0))])
      (Am.look []) H')
     (fun S' ↦ False) fun j S' ↦
     br (Nat.beq j 0)
      (req (Am.isKT (KT.k Kind.bool) (S'.1 1) && (Am.isKT (KT.k Kind.ptr) (S'.1 5) || false) || false)
      (Am.joinP
       (fun Q ↦
       br (V.getBool (T.val (S'.1 1)))
        (Am.Rec.call (Am.Run env) 22 [V.ptr (V.getPtr (T.val (S'.1 5)))] S'.3 fun v H' ↦ Q (St.mk (Am.look []) (Am.look []) H'))
        (Q (St.mk (Am.look []) (Am.look []) S'.3)))
       fun S'_1 ↦
       Am.Rec.loop (Am.Run env) (Am.loopAt env 7 17) 7 17
       (St.mk
        (Am.look
        [(1, T.v (V.bool (V.getBool (T.val (S'.1 1))))), (5, T.v (V.ptr (V.getPtr (T.val (S'.1 5))))), (10, T.v (V.slice Option.none 0 0)),
         (11, T.v (V.slice Option.none 0 0)), (12, T.v (V.int IntKind.i64 0))])
        (Am.look []) S'_1.3)
       (fun S' ↦ False) fun j S' ↦
       br (Nat.beq j 2)
        (req
        (Am.isKT (KT.k Kind.bool) (S'.1 1) &&
         (Am.isKT (KT.k Kind.ptr) (S'.1 5) && (Am.isKT (KT.k Kind.slice) (S'.1 10) && (Am.isKT (KT.k Kind.slice) (S'.1 11) || false))) ||
         false)
        (Am.Rec.call (Am.Run env) 12 [V.ptr (V.getPtr (T.val (S'.1 5)))] S'.3 fun v H' ↦
         req (V.isAgg v && Am.fits k37 (V.aggCells v))
         (Am.Rec.call (Am.Run env) 20 [V.ptr (V.getPtr (T.val (S'.1 5))), V.bool false] H' fun v_1 H' ↦
          Am.Rec.loop (Am.Run env) (Am.loopAt env 7 26) 7 26
          (St.mk
           (Am.look
           [(1, T.v (V.bool (V.getBool (T.val (S'.1 1))))), (5, T.v (V.ptr (V.getPtr (T.val (S'.1 5))))),
            (10, T.v (V.slice (V.slPtr (T.val (S'.1 10))) (V.slLen (T.val (S'.1 10))) (V.slCap (T.val (S'.1 10))))),
            (11, T.v (V.slice (V.slPtr (T.val (S'.1 11))) (V.slLen (T.val (S'.1 11))) (V.slCap (T.val (S'.1 11))))), (13, T.lp 13 0),
            (14, T.v (V.int IntKind.i64 0))])
           (Am.look [(13, Loc.cells 38 (o37 (V.aggCells v)))]) H')
          (fun S' ↦ req (Am.isKT (KT.k Kind.bool) (S'.1 4) || false || false) (K (V.bool (V.getBool (T.val (S'.1 4)))) S'.3)) fun j S' ↦
          br (Nat.beq j 4)
           (req
           (Am.isKT (KT.k Kind.ptr) (S'.1 5) && (Am.isKT (KT.lp 13) (S'.1 13) || false) && (Am.isLK 38 k37 (S'.2 13) || false))
           (Am.Rec.call (Am.Run env) 12 [V.ptr (V.getPtr (T.val (S'.1 5)))] S'.3 fun v H' ↦
            req (V.isAgg v && Am.fits k37 (V.aggCells v))
            (br (Am.cellsEq (o37 (V.aggCells v)) (o37 (Am.locCells (S'.2 13))))
             (Am.Rec.call (Am.Run env) 19 [V.ptr (V.getPtr (T.val (S'.1 5)))] H' fun v H' ↦
             req (V.isK (Kind.int IntKind.i64) v) (K (V.bool (decide (V.getInt v = 0))) H'))
             (K (V.bool false) H'))))
           False)))
        False))
      False))) :=
  fun x0p x0n x0c x1 H K => (Run_call (E := env)).trans (by kernel_rfl)

theorem lp7_26 : ∀ (t1 : Bool) (t5 t10_0 : Option (Nat × Nat)) (t10_1 t10_2 : Nat) (t11_0 : Option (Nat × Nat)) (t11_1 t11_2 : Nat)
  (t14 l13 l13' l13'' l13''' l13'''' l13''''' l13'''''' l13''''''' l13'''''''' l13''''''''' l13'''''''''' : Int) (l13''''''''''' : Bool) (H : Am.Heap) (Kr : Am.St → Prop) (Ke : Nat → Am.St → Prop),
  Am.Rec.loop (Am.Run env) (Am.loopAt env 7 26) 7 26
   (St.mk
   (Am.look
    [(1, T.v (V.bool t1)), (5, T.v (V.ptr t5)), (10, T.v (V.slice t10_0 t10_1 t10_2)), (11, T.v (V.slice t11_0 t11_1 t11_2)), (13, T.lp 13 0),
    (14, T.v (V.int IntKind.i64 t14))])
   (Am.look [(13, Loc.cells 38 (c37 l13 l13' l13'' l13''' l13'''' l13''''' l13'''''' l13''''''' l13'''''''' l13''''''''' l13'''''''''' l13'''''''''''))]) H)
   Kr Ke =
  br (decide (t14 < 9))
   (Am.joinP
   (fun Q ↦
    req (decide (0 ≤ t14) && decide (t14 < (↑t11_1 : Int)) && Option.isSome t11_0)
    ((Am.Rec.call (Am.Run env) 14 [V.ptr t5, V.int IntKind.i64 t14] H fun v H' ↦
     req (V.isK Kind.slice v)
      (req (Am.strOk H' (V.slPtr v) (V.slLen v))
      (req
       (Am.Heap.inb H' (Option.getD t11_0 (0, 0)).1 ((Option.getD t11_0 (0, 0)).2 + Int.toNat t14 * 1) 1 &&
       V.isK Kind.str (Am.Heap.cell H' (Option.getD t11_0 (0, 0)).1 ((Option.getD t11_0 (0, 0)).2 + Int.toNat t14 * 1)))
       (br (!!Am.strEq (Am.strAt H' (V.slPtr v) (V.slLen v)) (V.getStr (Am.Heap.cell H' (Option.getD t11_0 (0, 0)).1 ((Option.getD t11_0 (0, 0)).2 + Int.toNat t14 * 1))))
       (br t1
        (req (decide (0 ≤ t14) && decide (t14 < (↑t11_1 : Int)) && Option.isSome t11_0)
        (req
         (Am.Heap.inb H' (Option.getD t11_0 (0, 0)).1 ((Option.getD t11_0 (0, 0)).2 + Int.toNat t14 * 1) 1 &&
         V.isK Kind.str (Am.Heap.cell H' (Option.getD t11_0 (0, 0)).1 ((Option.getD t11_0 (0, 0)).2 + Int.toNat t14 * 1)))
         (req (decide (0 ≤ t14) && decide (t14 < (↑t10_1 : Int)) && Option.isSome t10_0)
         (req
          (Am.Heap.inb H' (Option.getD t10_0 (0, 0)).1 ((Option.getD t10_0 (0, 0)).2 + Int.toNat t14 * 1) 1 &&
          V.isK Kind.str (Am.Heap.cell H' (Option.getD t10_0 (0, 0)).1 ((Option.getD t10_0 (0, 0)).2 + Int.toNat t14 * 1)))
          (Q
          (St.mk
           (Am.look
           [(96,
            T.v
             (V.bool
             !Am.strEq (V.getStr (Am.Heap.cell H' (Option.getD t11_0 (0, 0)).1 ((Option.getD t11_0 (0, 0)).2 + Int.toNat t14 * 1)))
              (V.getStr (Am.Heap.cell H' (Option.getD t10_0 (0, 0)).1 ((Option.getD t10_0 (0, 0)).2 + Int.toNat t14 * 1)))))])
           (Am.look []) H'))))))
        (Q (St.mk (Am.look [(96, T.v (V.bool false))]) (Am.look []) H')))
       (Q (St.mk (Am.look [(96, T.v (V.bool true))]) (Am.look []) H')))))) ∧
     req
     (Am.Heap.inb H (Option.getD t11_0 (0, 0)).1 ((Option.getD t11_0 (0, 0)).2 + Int.toNat t14 * 1) 1 &&
      V.isK Kind.str (Am.Heap.cell H (Option.getD t11_0 (0, 0)).1 ((Option.getD t11_0 (0, 0)).2 + Int.toNat t14 * 1)))
     (Am.Rec.call (Am.Run env) 14 [V.ptr t5, V.int IntKind.i64 t14] H fun v H' ↦
      req (V.isK Kind.slice v)
      (req (Am.strOk H' (V.slPtr v) (V.slLen v))
       (br (!!Am.strEq (Am.strAt H' (V.slPtr v) (V.slLen v)) (V.getStr (Am.Heap.cell H (Option.getD t11_0 (0, 0)).1 ((Option.getD t11_0 (0, 0)).2 + Int.toNat t14 * 1))))
       (br t1
        (req (decide (0 ≤ t14) && decide (t14 < (↑t11_1 : Int)) && Option.isSome t11_0)
        (req
         (Am.Heap.inb H' (Option.getD t11_0 (0, 0)).1 ((Option.getD t11_0 (0, 0)).2 + Int.toNat t14 * 1) 1 &&
         V.isK Kind.str (Am.Heap.cell H' (Option.getD t11_0 (0, 0)).1 ((Option.getD t11_0 (0, 0)).2 + Int.toNat t14 * 1)))
         (req (decide (0 ≤ t14) && decide (t14 < (↑t10_1 : Int)) && Option.isSome t10_0)
         (req
          (Am.Heap.inb H' (Option.getD t10_0 (0, 0)).1 ((Option.getD t10_0 (0, 0)).2 + Int.toNat t14 * 1) 1 &&
          V.isK Kind.str (Am.Heap.cell H' (Option.getD t10_0 (0, 0)).1 ((Option.getD t10_0 (0, 0)).2 + Int.toNat t14 * 1)))
          (Q
          (St.mk
           (Am.look
           [(96,
            T.v
             (V.bool
             !Am.strEq (V.getStr (Am.Heap.cell H' (Option.getD t11_0 (0, 0)).1 ((Option.getD t11_0 (0, 0)).2 + Int.toNat t14 * 1)))
              (V.getStr (Am.Heap.cell H' (Option.getD t10_0 (0, 0)).1 ((Option.getD t10_0 (0, 0)).2 + Int.toNat t14 * 1)))))])
           (Am.look []) H'))))))
        (Q (St.mk (Am.look [(96, T.v (V.bool false))]) (Am.look []) H')))
       (Q (St.mk (Am.look [(96, T.v (V.bool true))]) (Am.look []) H')))))))
   fun S' ↦
   req (Am.isKT (KT.k Kind.bool) (S'.1 96) || false || false)
    (br (V.getBool (T.val (S'.1 96))) (Kr (St.mk (Am.look [(4, T.v (V.bool false))]) (Am.look []) S'.3))
    (Am.Rec.loop (Am.Run env) (Am.loopAt env 7 26) 7 26
     (St.mk
     (Am.look
      [(1, T.v (V.bool t1)), (5, T.v (V.ptr t5)), (10, T.v (V.slice t10_0 t10_1 t10_2)), (11, T.v (V.slice t11_0 t11_1 t11_2)), (13, T.lp 13 0),
      (14, T.v (V.int IntKind.i64 (IntKind.wrap IntKind.i64 (t14 + 1))))])
     (Am.look [(13, Loc.cells 38 (c37 l13 l13' l13'' l13''' l13'''' l13''''' l13'''''' l13''''''' l13'''''''' l13''''''''' l13'''''''''' l13'''''''''''))]) S'.3)
     Kr Ke)))
   (Ke 4
   (St.mk (Am.look [(5, T.v (V.ptr t5)), (13, T.lp 13 0)])
    (Am.look [(13, Loc.cells 38 (c37 l13 l13' l13'' l13''' l13'''' l13''''' l13'''''' l13''''''' l13'''''''' l13''''''''' l13'''''''''' l13'''''''''''))]) H)) :=
  fun t1 t5 t10_0 t10_1 t10_2 t11_0 t11_1 t11_2 t14 l13 l13' l13'' l13''' l13'''' l13''''' l13'''''' l13''''''' l13'''''''' l13''''''''' l13'''''''''' l13''''''''''' H Kr Ke => (Run_loop (E := env)).trans (by kernel_rfl)

theorem lp7_17 : ∀ (t1 : Bool) (t5 t10_0 : Option (Nat × Nat)) (t10_1 t10_2 : Nat) (t11_0 : Option (Nat × Nat)) (t11_1 t11_2 : Nat) (t12 : Int) (H : Am.Heap) (Kr : Am.St → Prop) (Ke : Nat → Am.St → Prop),
  Am.Rec.loop (Am.Run env) (Am.loopAt env 7 17) 7 17
   (St.mk
   (Am.look
    [(1, T.v (V.bool t1)), (5, T.v (V.ptr t5)), (10, T.v (V.slice t10_0 t10_1 t10_2)), (11, T.v (V.slice t11_0 t11_1 t11_2)),
    (12, T.v (V.int IntKind.i64 t12))])
   (Am.look []) H)
   Kr Ke =
  br (decide (t12 < 9))
   (Am.Rec.call (Am.Run env) 14 [V.ptr t5, V.int IntKind.i64 t12] H fun v H' ↦
   req (V.isK Kind.slice v)
    (req (Am.strOk H' (V.slPtr v) (V.slLen v))
    (Am.appendOp env [43, 43] [V.slice t10_0 t10_1 t10_2, V.slice (Option.some (H'.2, 0)) 1 1]
     (Am.Heap.alloc H' (Am.Obj.cells 9 [V.str (Am.strAt H' (V.slPtr v) (V.slLen v))] false)) fun q n c H' ↦
     Am.Rec.call (Am.Run env) 25 [V.ptr t5, V.int IntKind.i64 t12] H' fun v H' ↦
     req (V.isK Kind.slice v)
      (req (Am.strOk H' (V.slPtr v) (V.slLen v))
      (Am.appendOp env [43, 43] [V.slice t11_0 t11_1 t11_2, V.slice (Option.some (H'.2, 0)) 1 1]
       (Am.Heap.alloc H' (Am.Obj.cells 9 [V.str (Am.strAt H' (V.slPtr v) (V.slLen v))] false)) fun q_1 n_1 c_1 H' ↦
       Am.Rec.loop (Am.Run env) (Am.loopAt env 7 17) 7 17
       (St.mk
        (Am.look
        [(1, T.v (V.bool t1)), (5, T.v (V.ptr t5)), (10, T.v (V.slice q n c)), (11, T.v (V.slice q_1 n_1 c_1)),
         (12, T.v (V.int IntKind.i64 (IntKind.wrap IntKind.i64 (t12 + 1))))])
        (Am.look []) H')
       Kr Ke)))))
   (Ke 2
   (St.mk (Am.look [(1, T.v (V.bool t1)), (5, T.v (V.ptr t5)), (10, T.v (V.slice t10_0 t10_1 t10_2)), (11, T.v (V.slice t11_0 t11_1 t11_2))]) (Am.look [])
    H)) :=
  fun t1 t5 t10_0 t10_1 t10_2 t11_0 t11_1 t11_2 t12 H Kr Ke => (Run_loop (E := env)).trans (by kernel_rfl)

theorem lp7_6 : ∀ (t0_0 : Option (Nat × Nat)) (t0_1 t0_2 : Nat) (t1 : Bool) (t5 : Option (Nat × Nat)) (t7 : Int) (H : Am.Heap) (Kr : Am.St → Prop) (Ke : Nat → Am.St → Prop),
  Am.Rec.loop (Am.Run env) (Am.loopAt env 7 6) 7 6
   (St.mk (Am.look [(0, T.v (V.slice t0_0 t0_1 t0_2)), (1, T.v (V.bool t1)), (5, T.v (V.ptr t5)), (7, T.v (V.int IntKind.i64 t7))]) (Am.look []) H) Kr
   Ke =
  br (decide (t7 < (↑t0_1 : Int)) && decide (t7 < 40))
   (Am.joinP
   (fun Q ↦
    req (decide (0 ≤ t7) && decide (t7 < (↑t0_1 : Int)) && Option.isSome t0_0)
    (req
     (Am.Heap.inb H (Option.getD t0_0 (0, 0)).1 ((Option.getD t0_0 (0, 0)).2 + Int.toNat t7 * 9) 9 &&
      Am.fits k24 (Am.Heap.sub H (Option.getD t0_0 (0, 0)).1 ((Option.getD t0_0 (0, 0)).2 + Int.toNat t7 * 9) 9))
     (Am.Rec.call (Am.Run env) 12 [V.ptr t5] H fun v H' ↦
      req (V.isAgg v && Am.fits k37 (V.aggCells v))
      (Am.Rec.call (Am.Run env) 11
       [V.agg (o24 (Am.Heap.sub H (Option.getD t0_0 (0, 0)).1 ((Option.getD t0_0 (0, 0)).2 + Int.toNat t7 * 9) 9)),
       V.agg (o37 (V.aggCells v)), V.int IntKind.i64 9]
       H' fun v H' ↦
       req
       (V.isTuple 2 v &&
        (V.isK (Kind.int IntKind.i64) (nthV (V.vals v) 0) &&
        (V.isAgg (nthV (V.vals v) 1) && Am.fits k32 (V.aggCells (nthV (V.vals v) 1)) || false)))
       (Q
        (St.mk (Am.look [(8, T.v (V.int IntKind.i64 (V.getInt (nthV (V.vals v) 0)))), (9, T.lp 9 0)])
        (Am.look [(9, Loc.cells 33 (o32 (V.aggCells (nthV (V.vals v) 1))))]) H')))) ∧
     Am.Rec.call (Am.Run env) 12 [V.ptr t5] H fun v H' ↦
     req (V.isAgg v && Am.fits k37 (V.aggCells v))
      (req
      (Am.Heap.inb H' (Option.getD t0_0 (0, 0)).1 ((Option.getD t0_0 (0, 0)).2 + Int.toNat t7 * 9) 9 &&
       Am.fits k24 (Am.Heap.sub H' (Option.getD t0_0 (0, 0)).1 ((Option.getD t0_0 (0, 0)).2 + Int.toNat t7 * 9) 9))
      (Am.Rec.call (Am.Run env) 11
       [V.agg (o24 (Am.Heap.sub H' (Option.getD t0_0 (0, 0)).1 ((Option.getD t0_0 (0, 0)).2 + Int.toNat t7 * 9) 9)),
       V.agg (o37 (V.aggCells v)), V.int IntKind.i64 9]
       H' fun v H' ↦
       req
       (V.isTuple 2 v &&
        (V.isK (Kind.int IntKind.i64) (nthV (V.vals v) 0) &&
        (V.isAgg (nthV (V.vals v) 1) && Am.fits k32 (V.aggCells (nthV (V.vals v) 1)) || false)))
       (Q
        (St.mk (Am.look [(8, T.v (V.int IntKind.i64 (V.getInt (nthV (V.vals v) 0)))), (9, T.lp 9 0)])
        (Am.look [(9, Loc.cells 33 (o32 (V.aggCells (nthV (V.vals v) 1))))]) H'))))))
   fun S' ↦
   req (Am.isKT (KT.k (Kind.int IntKind.i64)) (S'.1 8) && (Am.isKT (KT.lp 9) (S'.1 9) || false) && (Am.isLK 33 k32 (S'.2 9) || false))
    (Am.Rec.call (Am.Run env) 13
    [V.ptr t5, V.int IntKind.i64 (V.getInt (T.val (S'.1 8))), V.agg (o32 (Am.locCells (S'.2 9)))] S'.3 fun v H' ↦
    req (V.isAgg v && Am.fits k40 (V.aggCells v))
     (Am.Rec.loop (Am.Run env) (Am.loopAt env 7 6) 7 6
     (St.mk
      (Am.look
      [(0, T.v (V.slice t0_0 t0_1 t0_2)), (1, T.v (V.bool t1)), (5, T.v (V.ptr t5)),
       (7, T.v (V.int IntKind.i64 (IntKind.wrap IntKind.i64 (t7 + 1))))])
      (Am.look []) H')
     Kr Ke)))
   (Ke 0 (St.mk (Am.look [(1, T.v (V.bool t1)), (5, T.v (V.ptr t5))]) (Am.look []) H)) :=
  fun t0_0 t0_1 t0_2 t1 t5 t7 H Kr Ke => (Run_loop (E := env)).trans (by kernel_rfl)

theorem eq8 : ∀ (x0 x1 x2_0 x2_1 : Int) (x2_2p : Option (Nat × Nat)) (x2_2n x2_2c : Nat) (x2_3 : Bool) (x2_4 x2_5 x2_6 : Int) (x2_7 : Bool) (H : Am.Heap) (K : Am.V → Am.Heap → Prop),
  Am.Rec.call (Am.Run env) 8
   [V.int IntKind.i64 x0, V.int IntKind.i64 x1, V.agg (c32 x2_0 x2_1 x2_2p x2_2n x2_2c x2_3 x2_4 x2_5 x2_6 x2_7)] H K =
  Am.Rec.call (Am.Run env) 9 [] H fun v H' ↦
   req (V.isK Kind.bool v)
   (br (!V.getBool v) (K (V.bool false) H')
    (Am.joinP
    (fun Q ↦
     br (bif !decide (x0 ≤ 65536) then decide (x0 > 1099511627776) else true)
     (Am.Rec.call (Am.Run env) 10 [V.int IntKind.i64 x0] H' fun v H' ↦
      req (V.isTuple 2 v && (V.isK Kind.ptr (nthV (V.vals v) 0) && (V.isK (Kind.int IntKind.i64) (nthV (V.vals v) 1) || false)))
      (br
       (bif decide (x0 ≥ 1) then
       bif !!decide (decide (V.getInt (nthV (V.vals v) 1) = 0) = decide (x0 ≤ 65536)) then
        !decide (V.getInt (nthV (V.vals v) 1) = 0) && !decide (V.getInt (nthV (V.vals v) 1) = 1)
       else true
       else
       bif !!decide (decide (V.getInt (nthV (V.vals v) 1) = 0) = false) then
        !decide (V.getInt (nthV (V.vals v) 1) = 0) && !decide (V.getInt (nthV (V.vals v) 1) = 1)
       else true)
       (K (V.bool false) H') (Q (St.mk (Am.look []) (Am.look []) H'))))
     (Q (St.mk (Am.look []) (Am.look []) H')))
    fun S' ↦
    Am.Rec.call (Am.Run env) 22 [V.ptr Option.none] S'.3 fun v H' ↦
     Am.Rec.call (Am.Run env) 20 [V.ptr Option.none, V.bool true] H' fun v H' ↦
     Am.Rec.call (Am.Run env) 13
      [V.ptr Option.none, V.int IntKind.i64 x1, V.agg (c32 x2_0 x2_1 x2_2p x2_2n x2_2c x2_3 x2_4 x2_5 x2_6 x2_7)] H' fun v H' ↦
      req (V.isAgg v && Am.fits k40 (V.aggCells v))
      (br (decide (V.getInt (nthV (V.aggCells v) 0) = 5))
       (Am.Rec.call (Am.Run env) 14 [V.ptr Option.none, V.int IntKind.i64 x0] H' fun v H' ↦
       req (V.isK Kind.slice v)
        (Am.Rec.call (Am.Run env) 25 [V.ptr Option.none, V.int IntKind.i64 x0] H' fun v_1 H' ↦
        req (V.isK Kind.slice v_1)
         (Am.Rec.call (Am.Run env) 19 [V.ptr Option.none] H' fun v_2 H' ↦
         req (V.isK (Kind.int IntKind.i64) v_2)
          (br (decide (IntKind.wrap IntKind.i64 (IntKind.wrap IntKind.i64 ((↑(V.slLen v) : Int) + (↑(V.slLen v_1) : Int)) + V.getInt v_2) = 0))
          (Am.Rec.call (Am.Run env) 12 [V.ptr Option.none] H' fun v H' ↦
           req (V.isAgg v && Am.fits k37 (V.aggCells v))
           (K (V.bool (Am.cellsEq (o37 (V.aggCells v)) (c37 0 0 0 0 0 0 0 0 0 (-1) 0 false))) H'))
          (K (V.bool false) H')))))
       (K (V.bool false) H')))) :=
  fun x0 x1 x2_0 x2_1 x2_2p x2_2n x2_2c x2_3 x2_4 x2_5 x2_6 x2_7 H K => (Run_call (E := env)).trans (by kernel_rfl)

end Go.Proofs.Ytmionmlellimoaa
