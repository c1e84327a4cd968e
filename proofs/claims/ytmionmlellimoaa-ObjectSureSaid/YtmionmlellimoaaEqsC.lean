/- The equations of the calls and of the loops' rounds; the kernel looks at each. Written by a program (wip/am/Walk.lean). -/
import Derived.Test.YtmionmlellimoaaAmEnv
namespace Go.Proofs.Ytmionmlellimoaa
open Go.Am
set_option maxRecDepth 100000
set_option linter.unusedVariables false

theorem eq26 : ∀ (H : Am.Heap) (K : Am.V → Am.Heap → Prop), Am.Rec.call (Am.Run env) 26 [] H K = K (V.agg (c37 0 0 0 0 0 0 0 0 0 (-1) 0 false)) H :=
  fun H K => (Run_call (E := env)).trans (by kernel_rfl)

theorem eq30 : ∀ (x0_0 x0_1 x0_2 x0_3 x0_4 x0_5 x0_6 x0_7 x0_8 x0_9 x0_10 : Int) (x0_11 : Bool) (x1 x2_0 x2_1 : Int) (x2_2p : Option (Nat × Nat)) (x2_2n x2_2c : Nat) (x2_3 : Bool) (x2_4 x2_5 x2_6 : Int) (x2_7 : Bool) (H : Am.Heap)
  (K : Am.V → Am.Heap → Prop),
  Am.Rec.call (Am.Run env) 30
   [V.agg (c37 x0_0 x0_1 x0_2 x0_3 x0_4 x0_5 x0_6 x0_7 x0_8 x0_9 x0_10 x0_11), V.int IntKind.i64 x1,
   V.agg (c32 x2_0 x2_1 x2_2p x2_2n x2_2c x2_3 x2_4 x2_5 x2_6 x2_7)]
   H K =
  br (bif !decide (x1 < 0) then bif !decide (x1 ≥ 8) then bif !decide (x2_0 < 4) then decide (x2_0 > 8) else true else true else true)
   (K (V.tuple [V.agg (c37 x0_0 x0_1 x0_2 x0_3 x0_4 x0_5 x0_6 x0_7 x0_8 x0_9 x0_10 x0_11), V.int IntKind.i64 1]) H)
   (Am.joinP
   (fun Q ↦
    br (bif !decide (x2_0 = 5) then bif !decide (x2_0 = 6) then decide (x2_0 = 8) else true else true)
    (Am.Rec.call (Am.Run env) 45 [V.int IntKind.u8 x2_6] H fun v H' ↦
     req (V.isK Kind.bool v) (Q (St.mk (Am.look [(46, T.v (V.bool !V.getBool v))]) (Am.look []) H')))
    (Q (St.mk (Am.look [(46, T.v (V.bool false))]) (Am.look []) H)))
   fun S' ↦
   req (Am.isKT (KT.k Kind.bool) (S'.1 46) || false || false)
    (br (V.getBool (T.val (S'.1 46)))
    (K (V.tuple [V.agg (c37 x0_0 x0_1 x0_2 x0_3 x0_4 x0_5 x0_6 x0_7 x0_8 x0_9 x0_10 x0_11), V.int IntKind.i64 1]) S'.3)
    (req (decide (0 ≤ x1) && decide (x1 < 8))
     (req
     (Nat.ble (Nat.succ (0 + Int.toNat x1 * 1)) 12 &&
      V.isK (Kind.int IntKind.u32) (nthV (c37 x0_0 x0_1 x0_2 x0_3 x0_4 x0_5 x0_6 x0_7 x0_8 x0_9 x0_10 x0_11) (0 + Int.toNat x1 * 1)))
     (br
      (bif !!decide (V.getInt (nthV (c37 x0_0 x0_1 x0_2 x0_3 x0_4 x0_5 x0_6 x0_7 x0_8 x0_9 x0_10 x0_11) (0 + Int.toNat x1 * 1)) = x2_4) then
      decide (x2_4 = 0) && !decide (x2_0 = 4)
      else true)
      (K (V.tuple [V.agg (c37 x0_0 x0_1 x0_2 x0_3 x0_4 x0_5 x0_6 x0_7 x0_8 x0_9 x0_10 x0_11), V.int IntKind.i64 13]) S'.3)
      (br (decide (x2_0 = 4))
      (Am.Rec.call (Am.Run env) 46
       [V.agg (c37 x0_0 x0_1 x0_2 x0_3 x0_4 x0_5 x0_6 x0_7 x0_8 x0_9 x0_10 x0_11), V.int IntKind.i64 x1,
       V.agg (c32 x2_0 x2_1 x2_2p x2_2n x2_2c x2_3 x2_4 x2_5 x2_6 x2_7)]
       S'.3 fun v H' ↦
       req (V.isAgg v && Am.fits k37 (V.aggCells v))
       (K (V.tuple [V.agg (o37 (V.aggCells v)), V.int IntKind.i64 0]) H'))
      (br (decide (x2_0 = 5))
       (Am.joinP
       (fun Q ↦
        br (!decide (x0_8 = 0))
        (Am.Rec.call (Am.Run env) 47
         [V.agg (c37 x0_0 x0_1 x0_2 x0_3 x0_4 x0_5 x0_6 x0_7 x0_8 x0_9 x0_10 x0_11), V.int IntKind.i64 x1] S'.3 fun v H' ↦
         req (V.isK Kind.bool v)
         (br (!!V.getBool v) (Q (St.mk (Am.look [(92, T.v (V.bool !decide (x0_8 = x2_6)))]) (Am.look []) H'))
          (Q (St.mk (Am.look [(92, T.v (V.bool true))]) (Am.look []) H'))))
        (Q (St.mk (Am.look [(92, T.v (V.bool false))]) (Am.look []) S'.3)))
       fun S' ↦
       req (Am.isKT (KT.k Kind.bool) (S'.1 92) || false || false)
        (br (V.getBool (T.val (S'.1 92)))
        (K (V.tuple [V.agg (c37 x0_0 x0_1 x0_2 x0_3 x0_4 x0_5 x0_6 x0_7 x0_8 x0_9 x0_10 x0_11), V.int IntKind.i64 13]) S'.3)
        (br (decide (x0_8 = 0))
         (Am.Rec.call (Am.Run env) 48
         [V.agg (c37 x0_0 x0_1 x0_2 x0_3 x0_4 x0_5 x0_6 x0_7 x0_8 x0_9 x0_10 x0_11), V.int IntKind.i64 x1, V.int IntKind.u8 x2_6] S'.3 fun v H' ↦
         req (V.isAgg v && Am.fits k37 (V.aggCells v))
          (K (V.tuple [V.agg (o37 (V.aggCells v)), V.int IntKind.i64 0]) H'))
         (K (V.tuple [V.agg (c37 x0_0 x0_1 x0_2 x0_3 x0_4 x0_5 x0_6 x0_7 x0_8 x0_9 x0_10 x0_11), V.int IntKind.i64 0]) S'.3))))
       (br (decide (x2_0 = 6))
       (Am.Rec.call (Am.Run env) 47
        [V.agg (c37 x0_0 x0_1 x0_2 x0_3 x0_4 x0_5 x0_6 x0_7 x0_8 x0_9 x0_10 x0_11), V.int IntKind.i64 x1] S'.3 fun v H' ↦
        req (V.isK Kind.bool v)
        (br (!V.getBool v) (K (V.tuple [V.agg (c37 x0_0 x0_1 x0_2 x0_3 x0_4 x0_5 x0_6 x0_7 x0_8 x0_9 x0_10 x0_11), V.int IntKind.i64 0]) H')
         (br (!decide (x0_8 = x2_6))
         (K (V.tuple [V.agg (c37 x0_0 x0_1 x0_2 x0_3 x0_4 x0_5 x0_6 x0_7 x0_8 x0_9 x0_10 x0_11), V.int IntKind.i64 1]) H')
         (Am.Rec.call (Am.Run env) 49 [V.agg (c37 x0_0 x0_1 x0_2 x0_3 x0_4 x0_5 x0_6 x0_7 x0_8 x0_9 x0_10 x0_11)] H' fun v H' ↦
          req (V.isAgg v && Am.fits k37 (V.aggCells v))
          (K (V.tuple [V.agg (o37 (V.aggCells v)), V.int IntKind.i64 0]) H')))))
       (br (decide (x2_0 = 7))
        (K (V.tuple [V.agg (c37 0 0 0 0 0 0 0 0 0 (-1) (IntKind.wrap IntKind.u32 (x0_10 + 1)) x0_11), V.int IntKind.i64 0]) S'.3)
        (br (decide (x2_0 = 8))
        (Am.Rec.call (Am.Run env) 50
         [V.agg (c37 x0_0 x0_1 x0_2 x0_3 x0_4 x0_5 x0_6 x0_7 x0_8 x0_9 x0_10 x0_11), V.int IntKind.i64 x1,
         V.agg (c32 x2_0 x2_1 x2_2p x2_2n x2_2c x2_3 x2_4 x2_5 x2_6 x2_7)]
         S'.3 fun v H' ↦
         req
         (V.isTuple 2 v &&
          (V.isAgg (nthV (V.vals v) 0) && Am.fits k37 (V.aggCells (nthV (V.vals v) 0)) &&
          (V.isK (Kind.int IntKind.i64) (nthV (V.vals v) 1) || false)))
         (K
          (V.tuple
          [V.agg (o37 (V.aggCells (nthV (V.vals v) 0))), V.int IntKind.i64 (V.getInt (nthV (V.vals v) 1))])
          H'))
        (K (V.tuple [V.agg (c37 x0_0 x0_1 x0_2 x0_3 x0_4 x0_5 x0_6 x0_7 x0_8 x0_9 x0_10 x0_11), V.int IntKind.i64 0]) S'.3))))))))))) :=
  fun x0_0 x0_1 x0_2 x0_3 x0_4 x0_5 x0_6 x0_7 x0_8 x0_9 x0_10 x0_11 x1 x2_0 x2_1 x2_2p x2_2n x2_2c x2_3 x2_4 x2_5 x2_6 x2_7 H K => (Run_call (E := env)).trans (by kernel_rfl)

theorem eq31 : ∀ (x0 : Option (Nat × Nat)) (x1 : Int) (H : Am.Heap) (K : Am.V → Am.Heap → Prop),
  Am.Rec.call (Am.Run env) 31 [V.ptr x0, V.int IntKind.i64 x1] H K =
  br (Option.isNone x0) (K (V.tuple [V.agg (c72 0 Option.none 0 0 false), V.bool false]) H)
   (Am.Rec.call (Am.Run env) 51 [V.ptr x0, V.int IntKind.i64 x1] H fun v H' ↦
   req (V.isTuple 2 v && (V.isK (Kind.int IntKind.i64) (nthV (V.vals v) 0) && (V.isK Kind.bool (nthV (V.vals v) 1) || false)))
    (br (!V.getBool (nthV (V.vals v) 1)) (K (V.tuple [V.agg (c72 0 Option.none 0 0 false), V.bool false]) H')
    (req (Option.isSome x0)
     (req (Am.Heap.inb H' (Option.getD x0 (0, 0)).1 (Option.getD x0 (0, 0)).2 1 && V.isK Kind.slice (Am.Heap.cell H' (Option.getD x0 (0, 0)).1 (Option.getD x0 (0, 0)).2))
     (req
      (decide (0 ≤ V.getInt (nthV (V.vals v) 0)) &&
       decide (V.getInt (nthV (V.vals v) 0) < (↑(V.slLen (Am.Heap.cell H' (Option.getD x0 (0, 0)).1 (Option.getD x0 (0, 0)).2)) : Int)) &&
      Option.isSome (V.slPtr (Am.Heap.cell H' (Option.getD x0 (0, 0)).1 (Option.getD x0 (0, 0)).2)))
      (req
      (Am.Heap.inb H' (Option.getD (V.slPtr (Am.Heap.cell H' (Option.getD x0 (0, 0)).1 (Option.getD x0 (0, 0)).2)) (0, 0)).1
       ((Option.getD (V.slPtr (Am.Heap.cell H' (Option.getD x0 (0, 0)).1 (Option.getD x0 (0, 0)).2)) (0, 0)).2 + Int.toNat (V.getInt (nthV (V.vals v) 0)) * 3) 3 &&
       Am.fits k72
       (Am.Heap.sub H' (Option.getD (V.slPtr (Am.Heap.cell H' (Option.getD x0 (0, 0)).1 (Option.getD x0 (0, 0)).2)) (0, 0)).1
        ((Option.getD (V.slPtr (Am.Heap.cell H' (Option.getD x0 (0, 0)).1 (Option.getD x0 (0, 0)).2)) (0, 0)).2 + Int.toNat (V.getInt (nthV (V.vals v) 0)) * 3) 3))
      (Am.Rec.call (Am.Run env) 32
       [V.slice
        (V.slPtr
        (nthV
         (Am.Heap.sub H' (Option.getD (V.slPtr (Am.Heap.cell H' (Option.getD x0 (0, 0)).1 (Option.getD x0 (0, 0)).2)) (0, 0)).1
         ((Option.getD (V.slPtr (Am.Heap.cell H' (Option.getD x0 (0, 0)).1 (Option.getD x0 (0, 0)).2)) (0, 0)).2 + Int.toNat (V.getInt (nthV (V.vals v) 0)) * 3) 3)
         1))
        (V.slLen
        (nthV
         (Am.Heap.sub H' (Option.getD (V.slPtr (Am.Heap.cell H' (Option.getD x0 (0, 0)).1 (Option.getD x0 (0, 0)).2)) (0, 0)).1
         ((Option.getD (V.slPtr (Am.Heap.cell H' (Option.getD x0 (0, 0)).1 (Option.getD x0 (0, 0)).2)) (0, 0)).2 + Int.toNat (V.getInt (nthV (V.vals v) 0)) * 3) 3)
         1))
        (V.slCap
        (nthV
         (Am.Heap.sub H' (Option.getD (V.slPtr (Am.Heap.cell H' (Option.getD x0 (0, 0)).1 (Option.getD x0 (0, 0)).2)) (0, 0)).1
         ((Option.getD (V.slPtr (Am.Heap.cell H' (Option.getD x0 (0, 0)).1 (Option.getD x0 (0, 0)).2)) (0, 0)).2 + Int.toNat (V.getInt (nthV (V.vals v) 0)) * 3) 3)
         1))]
       H' fun v_1 H'_1 ↦
       req (V.isK Kind.slice v_1)
       (K
        (V.tuple
        [V.agg
         (c72
          (V.getInt
          (nthV
           (Am.Heap.sub H' (Option.getD (V.slPtr (Am.Heap.cell H' (Option.getD x0 (0, 0)).1 (Option.getD x0 (0, 0)).2)) (0, 0)).1
           ((Option.getD (V.slPtr (Am.Heap.cell H' (Option.getD x0 (0, 0)).1 (Option.getD x0 (0, 0)).2)) (0, 0)).2 + Int.toNat (V.getInt (nthV (V.vals v) 0)) * 3)
           3)
           0))
          (V.slPtr v_1) (V.slLen v_1) (V.slCap v_1)
          (V.getBool
          (nthV
           (Am.Heap.sub H' (Option.getD (V.slPtr (Am.Heap.cell H' (Option.getD x0 (0, 0)).1 (Option.getD x0 (0, 0)).2)) (0, 0)).1
           ((Option.getD (V.slPtr (Am.Heap.cell H' (Option.getD x0 (0, 0)).1 (Option.getD x0 (0, 0)).2)) (0, 0)).2 + Int.toNat (V.getInt (nthV (V.vals v) 0)) * 3)
           3)
           2))),
         V.bool true])
        H'_1)))))))) :=
  fun x0 x1 H K => (Run_call (E := env)).trans (by kernel_rfl)

theorem eq32 : ∀ (x0p : Option (Nat × Nat)) (x0n x0c : Nat) (H : Am.Heap) (K : Am.V → Am.Heap → Prop),
  Am.Rec.call (Am.Run env) 32 [V.slice x0p x0n x0c] H K =
  br (Option.isNone x0p) (K (V.slice Option.none 0 0) H)
   (Am.appendOp env [23, 23] [V.slice (Option.some (H.2, 0)) 0 0, V.slice x0p x0n x0c] (Am.Heap.alloc H (Am.Obj.cells 5 [] false)) fun q n c H' ↦
   K (V.slice q n c) H') :=
  fun x0p x0n x0c H K => (Run_call (E := env)).trans (by kernel_rfl)

theorem eq37 : ∀ (x0_0 x0_1 x0_2 x0_3 x0_4 x0_5 x0_6 x0_7 x0_8 x0_9 x0_10 : Int) (x0_11 : Bool) (x1 x2_0 x2_1 : Int) (x2_2p : Option (Nat × Nat)) (x2_2n x2_2c : Nat) (x2_3 : Bool) (x2_4 x2_5 x2_6 : Int) (x2_7 : Bool) (H : Am.Heap)
  (K : Am.V → Am.Heap → Prop),
  Am.Rec.call (Am.Run env) 37
   [V.agg (c37 x0_0 x0_1 x0_2 x0_3 x0_4 x0_5 x0_6 x0_7 x0_8 x0_9 x0_10 x0_11), V.int IntKind.i64 x1,
   V.agg (c32 x2_0 x2_1 x2_2p x2_2n x2_2c x2_3 x2_4 x2_5 x2_6 x2_7)]
   H K =
  br (bif !decide (x1 < 0) then bif !decide (x1 > 7) then bif !decide (x2_0 < 4) then decide (x2_0 > 8) else true else true else true)
   (K (V.tuple [V.agg (c37 x0_0 x0_1 x0_2 x0_3 x0_4 x0_5 x0_6 x0_7 x0_8 x0_9 x0_10 x0_11), V.int IntKind.i64 1]) H)
   (Am.joinP
   (fun Q ↦
    br (!decide (x2_0 = 5))
    (br (!decide (x2_0 = 6))
     (br (decide (x2_0 = 8))
     (Am.Rec.call (Am.Run env) 54 [V.int IntKind.u8 x2_6] H fun v H' ↦
      req (V.isK Kind.bool v) (Q (St.mk (Am.look [(48, T.v (V.bool !V.getBool v))]) (Am.look []) H')))
     (Q (St.mk (Am.look [(48, T.v (V.bool false))]) (Am.look []) H)))
     (Am.Rec.call (Am.Run env) 54 [V.int IntKind.u8 x2_6] H fun v H' ↦
     req (V.isK Kind.bool v) (Q (St.mk (Am.look [(48, T.v (V.bool !V.getBool v))]) (Am.look []) H'))))
    (Am.Rec.call (Am.Run env) 54 [V.int IntKind.u8 x2_6] H fun v H' ↦
     req (V.isK Kind.bool v) (Q (St.mk (Am.look [(48, T.v (V.bool !V.getBool v))]) (Am.look []) H'))))
   fun S' ↦
   req (Am.isKT (KT.k Kind.bool) (S'.1 48) || false || false)
    (br (V.getBool (T.val (S'.1 48)))
    (K (V.tuple [V.agg (c37 x0_0 x0_1 x0_2 x0_3 x0_4 x0_5 x0_6 x0_7 x0_8 x0_9 x0_10 x0_11), V.int IntKind.i64 1]) S'.3)
    (req (decide (0 ≤ x1) && decide (x1 < 8))
     (req
     (Nat.ble (Nat.succ (0 + Int.toNat x1 * 1)) 12 &&
      V.isK (Kind.int IntKind.u32) (nthV (c37 x0_0 x0_1 x0_2 x0_3 x0_4 x0_5 x0_6 x0_7 x0_8 x0_9 x0_10 x0_11) (0 + Int.toNat x1 * 1)))
     (br
      (bif !!decide (x2_4 = V.getInt (nthV (c37 x0_0 x0_1 x0_2 x0_3 x0_4 x0_5 x0_6 x0_7 x0_8 x0_9 x0_10 x0_11) (0 + Int.toNat x1 * 1))) then
      !decide (x2_0 = 4) && decide (x2_4 = 0)
      else true)
      (K (V.tuple [V.agg (c37 x0_0 x0_1 x0_2 x0_3 x0_4 x0_5 x0_6 x0_7 x0_8 x0_9 x0_10 x0_11), V.int IntKind.i64 13]) S'.3)
      (br (decide (x2_0 = 4))
      (req (decide (0 ≤ x1) && decide (x1 < 8))
       (req
       (Nat.ble (0 + Int.toNat x1 * 1 + 1) 12 &&
        (V.isK (Kind.int IntKind.u8) (Am.condV (Nat.beq 8 (0 + Int.toNat x1 * 1)) (V.int IntKind.u32 x2_5) (V.int IntKind.u8 x0_8)) &&
        (V.isK (Kind.int IntKind.i64) (Am.condV (Nat.beq 9 (0 + Int.toNat x1 * 1)) (V.int IntKind.u32 x2_5) (V.int IntKind.i64 x0_9)) &&
         (V.isK Kind.bool (Am.condV (Nat.beq 11 (0 + Int.toNat x1 * 1)) (V.int IntKind.u32 x2_5) (V.bool x2_7)) && true))))
       (Am.joinP
        (fun Q ↦
        br (decide (x2_5 = 0))
         (br (!decide (x0_9 = x1))
         (Am.Rec.call (Am.Run env) 55
          [V.agg
           (c37 (bif Nat.beq 0 (0 + Int.toNat x1 * 1) then x2_5 else x0_0) (bif Nat.beq 1 (0 + Int.toNat x1 * 1) then x2_5 else x0_1)
           (bif Nat.beq 2 (0 + Int.toNat x1 * 1) then x2_5 else x0_2) (bif Nat.beq 3 (0 + Int.toNat x1 * 1) then x2_5 else x0_3) (bif Nat.beq 4 (0 + Int.toNat x1 * 1) then x2_5 else x0_4)
           (bif Nat.beq 5 (0 + Int.toNat x1 * 1) then x2_5 else x0_5) (bif Nat.beq 6 (0 + Int.toNat x1 * 1) then x2_5 else x0_6) (bif Nat.beq 7 (0 + Int.toNat x1 * 1) then x2_5 else x0_7)
           (V.getInt (Am.condV (Nat.beq 8 (0 + Int.toNat x1 * 1)) (V.int IntKind.u32 x2_5) (V.int IntKind.u8 x0_8)))
           (V.getInt (Am.condV (Nat.beq 9 (0 + Int.toNat x1 * 1)) (V.int IntKind.u32 x2_5) (V.int IntKind.i64 x0_9)))
           (bif Nat.beq 10 (0 + Int.toNat x1 * 1) then x2_5 else IntKind.wrap IntKind.u32 (x0_10 + 1))
           (V.getBool (Am.condV (Nat.beq 11 (0 + Int.toNat x1 * 1)) (V.int IntKind.u32 x2_5) (V.bool x2_7))))]
          S'.3 fun v H' ↦ req (V.isK Kind.bool v) (Q (St.mk (Am.look [(197, T.v (V.bool !V.getBool v))]) (Am.look []) H')))
         (Q (St.mk (Am.look [(197, T.v (V.bool true))]) (Am.look []) S'.3)))
         (Q (St.mk (Am.look [(197, T.v (V.bool false))]) (Am.look []) S'.3)))
        fun S' ↦
        req (Am.isKT (KT.k Kind.bool) (S'.1 197) || false || false)
        (br (V.getBool (T.val (S'.1 197)))
         (Am.Rec.call (Am.Run env) 56
         [V.agg
          (c37 (bif Nat.beq 0 (0 + Int.toNat x1 * 1) then x2_5 else x0_0) (bif Nat.beq 1 (0 + Int.toNat x1 * 1) then x2_5 else x0_1)
           (bif Nat.beq 2 (0 + Int.toNat x1 * 1) then x2_5 else x0_2) (bif Nat.beq 3 (0 + Int.toNat x1 * 1) then x2_5 else x0_3) (bif Nat.beq 4 (0 + Int.toNat x1 * 1) then x2_5 else x0_4)
           (bif Nat.beq 5 (0 + Int.toNat x1 * 1) then x2_5 else x0_5) (bif Nat.beq 6 (0 + Int.toNat x1 * 1) then x2_5 else x0_6) (bif Nat.beq 7 (0 + Int.toNat x1 * 1) then x2_5 else x0_7)
           (V.getInt (Am.condV (Nat.beq 8 (0 + Int.toNat x1 * 1)) (V.int IntKind.u32 x2_5) (V.int IntKind.u8 x0_8)))
           (V.getInt (Am.condV (Nat.beq 9 (0 + Int.toNat x1 * 1)) (V.int IntKind.u32 x2_5) (V.int IntKind.i64 x0_9)))
           (bif Nat.beq 10 (0 + Int.toNat x1 * 1) then x2_5 else IntKind.wrap IntKind.u32 (x0_10 + 1))
           (V.getBool (Am.condV (Nat.beq 11 (0 + Int.toNat x1 * 1)) (V.int IntKind.u32 x2_5) (V.bool x2_7))))]
         S'.3 fun v H' ↦
         req (V.isAgg v && Am.fits k37 (V.aggCells v))
          (K (V.tuple [V.agg (o37 (V.aggCells v)), V.int IntKind.i64 0]) H'))
         (K
         (V.tuple
          [V.agg
           (c37 (bif Nat.beq 0 (0 + Int.toNat x1 * 1) then x2_5 else x0_0) (bif Nat.beq 1 (0 + Int.toNat x1 * 1) then x2_5 else x0_1)
           (bif Nat.beq 2 (0 + Int.toNat x1 * 1) then x2_5 else x0_2) (bif Nat.beq 3 (0 + Int.toNat x1 * 1) then x2_5 else x0_3) (bif Nat.beq 4 (0 + Int.toNat x1 * 1) then x2_5 else x0_4)
           (bif Nat.beq 5 (0 + Int.toNat x1 * 1) then x2_5 else x0_5) (bif Nat.beq 6 (0 + Int.toNat x1 * 1) then x2_5 else x0_6) (bif Nat.beq 7 (0 + Int.toNat x1 * 1) then x2_5 else x0_7)
           (V.getInt (Am.condV (Nat.beq 8 (0 + Int.toNat x1 * 1)) (V.int IntKind.u32 x2_5) (V.int IntKind.u8 x0_8)))
           (V.getInt (Am.condV (Nat.beq 9 (0 + Int.toNat x1 * 1)) (V.int IntKind.u32 x2_5) (V.int IntKind.i64 x0_9)))
           (bif Nat.beq 10 (0 + Int.toNat x1 * 1) then x2_5 else IntKind.wrap IntKind.u32 (x0_10 + 1))
           (V.getBool (Am.condV (Nat.beq 11 (0 + Int.toNat x1 * 1)) (V.int IntKind.u32 x2_5) (V.bool x2_7)))),
          V.int IntKind.i64 0])
         S'.3)))))
      (br (decide (x2_0 = 5))
       (br (decide (x0_8 = 0))
       (Am.Rec.call (Am.Run env) 57
        [V.agg (c37 x0_0 x0_1 x0_2 x0_3 x0_4 x0_5 x0_6 x0_7 x0_8 x0_9 x0_10 x0_11), V.int IntKind.i64 x1, V.int IntKind.u8 x2_6] S'.3 fun v H' ↦
        req (V.isAgg v && Am.fits k37 (V.aggCells v))
        (K (V.tuple [V.agg (o37 (V.aggCells v)), V.int IntKind.i64 0]) H'))
       (Am.joinP
        (fun Q ↦
        br (!!decide (x0_8 = x2_6))
         (Am.Rec.call (Am.Run env) 58
         [V.agg (c37 x0_0 x0_1 x0_2 x0_3 x0_4 x0_5 x0_6 x0_7 x0_8 x0_9 x0_10 x0_11), V.int IntKind.i64 x1] S'.3 fun v H' ↦
         req (V.isK Kind.bool v) (Q (St.mk (Am.look [(220, T.v (V.bool !V.getBool v))]) (Am.look []) H')))
         (Q (St.mk (Am.look [(220, T.v (V.bool true))]) (Am.look []) S'.3)))
        fun S' ↦
        req (Am.isKT (KT.k Kind.bool) (S'.1 220) || false || false)
        (br (V.getBool (T.val (S'.1 220)))
         (K (V.tuple [V.agg (c37 x0_0 x0_1 x0_2 x0_3 x0_4 x0_5 x0_6 x0_7 x0_8 x0_9 x0_10 x0_11), V.int IntKind.i64 13]) S'.3)
         (K (V.tuple [V.agg (c37 x0_0 x0_1 x0_2 x0_3 x0_4 x0_5 x0_6 x0_7 x0_8 x0_9 x0_10 x0_11), V.int IntKind.i64 0]) S'.3))))
       (br (decide (x2_0 = 6))
       (Am.Rec.call (Am.Run env) 58
        [V.agg (c37 x0_0 x0_1 x0_2 x0_3 x0_4 x0_5 x0_6 x0_7 x0_8 x0_9 x0_10 x0_11), V.int IntKind.i64 x1] S'.3 fun v H' ↦
        req (V.isK Kind.bool v)
        (br (!V.getBool v) (K (V.tuple [V.agg (c37 x0_0 x0_1 x0_2 x0_3 x0_4 x0_5 x0_6 x0_7 x0_8 x0_9 x0_10 x0_11), V.int IntKind.i64 0]) H')
         (br (!decide (x0_8 = x2_6))
         (K (V.tuple [V.agg (c37 x0_0 x0_1 x0_2 x0_3 x0_4 x0_5 x0_6 x0_7 x0_8 x0_9 x0_10 x0_11), V.int IntKind.i64 1]) H')
         (Am.Rec.call (Am.Run env) 56 [V.agg (c37 x0_0 x0_1 x0_2 x0_3 x0_4 x0_5 x0_6 x0_7 x0_8 x0_9 x0_10 x0_11)] H' fun v H' ↦
          req (V.isAgg v && Am.fits k37 (V.aggCells v))
          (K (V.tuple [V.agg (o37 (V.aggCells v)), V.int IntKind.i64 0]) H')))))
       (br (decide (x2_0 = 7))
        (Am.Rec.loop (Am.Run env) (Am.loopAt env 37 40) 37 40
        (St.mk (Am.look [(6, T.lp 6 0), (8, T.lp 8 0), (9, T.v (V.int IntKind.i64 0))])
         (Am.look
         [(6, Loc.cells 38 (c37 0 0 0 0 0 0 0 0 0 0 0 false)),
          (8, Loc.cells 38 (c37 x0_0 x0_1 x0_2 x0_3 x0_4 x0_5 x0_6 x0_7 x0_8 x0_9 x0_10 x0_11))])
         S'.3)
        (fun S' ↦ False) fun j S' ↦
        br (Nat.beq j 3)
         (req
         (Am.isKT (KT.lp 6) (S'.1 6) && (Am.isKT (KT.lp 8) (S'.1 8) || false) &&
          (Am.isLK 38 k37 (S'.2 6) && (Am.isLK 38 k37 (S'.2 8) || false)))
         (Am.Rec.call (Am.Run env) 56 [V.agg (o37 (Am.locCells (S'.2 8)))] S'.3 fun v H' ↦
          req (V.isAgg v && Am.fits k37 (V.aggCells v))
          (K
           (V.tuple
           [V.agg
            (c37 (V.getInt (nthV (V.aggCells v) 0)) (V.getInt (nthV (V.aggCells v) 1))
             (V.getInt (nthV (V.aggCells v) 2)) (V.getInt (nthV (V.aggCells v) 3)) (V.getInt (nthV (V.aggCells v) 4))
             (V.getInt (nthV (V.aggCells v) 5)) (V.getInt (nthV (V.aggCells v) 6)) (V.getInt (nthV (V.aggCells v) 7))
             (V.getInt (nthV (V.aggCells v) 8)) (V.getInt (nthV (V.aggCells v) 9))
             (IntKind.wrap IntKind.u32 (V.getInt (nthV (V.aggCells v) 10) + 1)) (V.getBool (nthV (V.aggCells v) 11))),
            V.int IntKind.i64 0])
           H')))
         False)
        (br (decide (x2_5 = 0) && (!decide (x0_8 = 7) && !decide (x0_8 = 8)))
        (K (V.tuple [V.agg (c37 x0_0 x0_1 x0_2 x0_3 x0_4 x0_5 x0_6 x0_7 x0_8 x0_9 x0_10 x0_11), V.int IntKind.i64 1]) S'.3)
        (req
         (Am.mergeR (!decide (x2_5 = 0))
         (Am.mergeR (!decide (x0_8 = 0))
          (Am.mergeR (decide (x0_9 = x1))
          (decide (0 ≤ x1) && decide (x1 < 8) && true &&
           (Nat.ble (Nat.succ (0 + Int.toNat x1 * 1)) 12 &&
            V.isK (Kind.int IntKind.u32)
             (nthV (c37 x0_0 x0_1 x0_2 x0_3 x0_4 x0_5 x0_6 x0_7 x0_8 x0_9 x0_10 x0_11) (0 + Int.toNat x1 * 1)) &&
            true &&
           true))
          true)
          (Am.mergeR false
          (decide (0 ≤ x1) && decide (x1 < 8) && true &&
           (Nat.ble (Nat.succ (0 + Int.toNat x1 * 1)) 12 &&
            V.isK (Kind.int IntKind.u32)
             (nthV (c37 x0_0 x0_1 x0_2 x0_3 x0_4 x0_5 x0_6 x0_7 x0_8 x0_9 x0_10 x0_11) (0 + Int.toNat x1 * 1)) &&
            true &&
           true))
          true))
         true)
         (Am.Rec.loop (Am.Run env) (Am.loopAt env 37 53) 37 53
         (St.mk
          (Am.look
          [(1, T.v (V.int IntKind.i64 x1)), (3, T.lp 3 0), (5, T.lp 5 0), (6, T.lp 6 0), (8, T.lp 8 0),
           (10,
           T.v
            (V.bool
            (bif !decide (x2_5 = 0) then
             !decide (x0_8 = 0) &&
             (decide (x0_9 = x1) &&
              decide
              (V.getInt (nthV (c37 x0_0 x0_1 x0_2 x0_3 x0_4 x0_5 x0_6 x0_7 x0_8 x0_9 x0_10 x0_11) (0 + Int.toNat x1 * 1)) = x2_5))
            else true))),
           (11, T.v (V.int IntKind.i64 0)), (12, T.v (V.int IntKind.i64 0))])
          (Am.look
          [(3, Loc.cells 38 (c37 x0_0 x0_1 x0_2 x0_3 x0_4 x0_5 x0_6 x0_7 x0_8 x0_9 x0_10 x0_11)),
           (5, Loc.cells 33 (c32 x2_0 x2_1 x2_2p x2_2n x2_2c x2_3 x2_4 x2_5 x2_6 x2_7)),
           (6, Loc.cells 38 (c37 0 0 0 0 0 0 0 0 0 0 0 false)),
           (8, Loc.cells 38 (c37 x0_0 x0_1 x0_2 x0_3 x0_4 x0_5 x0_6 x0_7 x0_8 x0_9 x0_10 x0_11))])
          S'.3)
         (fun S' ↦ False) fun j S' ↦
         br (Nat.beq j 1)
          (req
          (Am.isKT (KT.k (Kind.int IntKind.i64)) (S'.1 1) &&
           (Am.isKT (KT.lp 3) (S'.1 3) &&
            (Am.isKT (KT.lp 5) (S'.1 5) &&
            (Am.isKT (KT.lp 6) (S'.1 6) &&
             (Am.isKT (KT.lp 8) (S'.1 8) &&
             (Am.isKT (KT.k Kind.bool) (S'.1 10) && (Am.isKT (KT.k (Kind.int IntKind.i64)) (S'.1 11) || false)))))) &&
           (Am.isLK 38 k37 (S'.2 3) &&
           (Am.isLK 33 k32 (S'.2 5) &&
            (Am.isLK 38 k37 (S'.2 6) && (Am.isLK 38 k37 (S'.2 8) || false)))))
          (br (decide (V.getInt (T.val (S'.1 11)) = 0) && !V.getBool (T.val (S'.1 10)))
           (K (V.tuple [V.agg (o37 (Am.locCells (S'.2 3))), V.int IntKind.i64 13]) S'.3)
           (br (V.getBool (T.val (S'.1 10)))
           (Am.Rec.call (Am.Run env) 57
            [V.agg
             (c37 (V.getInt (nthV (Am.locCells (S'.2 8)) 0)) (V.getInt (nthV (Am.locCells (S'.2 8)) 1))
             (V.getInt (nthV (Am.locCells (S'.2 8)) 2)) (V.getInt (nthV (Am.locCells (S'.2 8)) 3))
             (V.getInt (nthV (Am.locCells (S'.2 8)) 4)) (V.getInt (nthV (Am.locCells (S'.2 8)) 5))
             (V.getInt (nthV (Am.locCells (S'.2 8)) 6)) (V.getInt (nthV (Am.locCells (S'.2 8)) 7))
             (V.getInt (nthV (Am.locCells (S'.2 8)) 8)) (V.getInt (nthV (Am.locCells (S'.2 8)) 9))
             (IntKind.wrap IntKind.u32 (V.getInt (nthV (Am.locCells (S'.2 8)) 10) + 1)) (V.getBool (nthV (Am.locCells (S'.2 8)) 11))),
            V.int IntKind.i64 (V.getInt (T.val (S'.1 1))), V.int IntKind.u8 (V.getInt (nthV (Am.locCells (S'.2 5)) 6))]
            S'.3 fun v H' ↦
            req (V.isAgg v && Am.fits k37 (V.aggCells v))
            (K (V.tuple [V.agg (o37 (V.aggCells v)), V.int IntKind.i64 0]) H'))
           (K
            (V.tuple
            [V.agg
             (c37 (V.getInt (nthV (Am.locCells (S'.2 8)) 0)) (V.getInt (nthV (Am.locCells (S'.2 8)) 1))
              (V.getInt (nthV (Am.locCells (S'.2 8)) 2)) (V.getInt (nthV (Am.locCells (S'.2 8)) 3))
              (V.getInt (nthV (Am.locCells (S'.2 8)) 4)) (V.getInt (nthV (Am.locCells (S'.2 8)) 5))
              (V.getInt (nthV (Am.locCells (S'.2 8)) 6)) (V.getInt (nthV (Am.locCells (S'.2 8)) 7))
              (V.getInt (nthV (Am.locCells (S'.2 8)) 8)) (V.getInt (nthV (Am.locCells (S'.2 8)) 9))
              (IntKind.wrap IntKind.u32 (V.getInt (nthV (Am.locCells (S'.2 8)) 10) + 1)) (V.getBool (nthV (Am.locCells (S'.2 8)) 11))),
             V.int IntKind.i64 0])
            S'.3))))
          False)))))))))))) :=
  fun x0_0 x0_1 x0_2 x0_3 x0_4 x0_5 x0_6 x0_7 x0_8 x0_9 x0_10 x0_11 x1 x2_0 x2_1 x2_2p x2_2n x2_2c x2_3 x2_4 x2_5 x2_6 x2_7 H K => (Run_call (E := env)).trans (by kernel_rfl)

theorem lp37_53 : ∀ (t1 : Int) (t10 : Bool) (t11 t12 l3 l3' l3'' l3''' l3'''' l3''''' l3'''''' l3''''''' l3'''''''' l3''''''''' l3'''''''''' : Int) (l3''''''''''' : Bool) (l5 l5' : Int) (l5''_0 : Option (Nat × Nat)) (l5''_1 l5''_2 : Nat)
  (l5''' : Bool) (l5'''' l5''''' l5'''''' : Int) (l5''''''' : Bool) (l6 l6' l6'' l6''' l6'''' l6''''' l6'''''' l6''''''' l6'''''''' l6''''''''' l6'''''''''' : Int) (l6''''''''''' : Bool)
  (l8 l8' l8'' l8''' l8'''' l8''''' l8'''''' l8''''''' l8'''''''' l8''''''''' l8'''''''''' : Int) (l8''''''''''' : Bool) (H : Am.Heap) (Kr : Am.St → Prop) (Ke : Nat → Am.St → Prop),
  Am.Rec.loop (Am.Run env) (Am.loopAt env 37 53) 37 53
   (St.mk
   (Am.look
    [(1, T.v (V.int IntKind.i64 t1)), (3, T.lp 3 0), (5, T.lp 5 0), (6, T.lp 6 0), (8, T.lp 8 0), (10, T.v (V.bool t10)),
    (11, T.v (V.int IntKind.i64 t11)), (12, T.v (V.int IntKind.i64 t12))])
   (Am.look
    [(3, Loc.cells 38 (c37 l3 l3' l3'' l3''' l3'''' l3''''' l3'''''' l3''''''' l3'''''''' l3''''''''' l3'''''''''' l3''''''''''')),
    (5, Loc.cells 33 (c32 l5 l5' l5''_0 l5''_1 l5''_2 l5''' l5'''' l5''''' l5'''''' l5''''''')),
    (6, Loc.cells 38 (c37 l6 l6' l6'' l6''' l6'''' l6''''' l6'''''' l6''''''' l6'''''''' l6''''''''' l6'''''''''' l6''''''''''')),
    (8, Loc.cells 38 (c37 l8 l8' l8'' l8''' l8'''' l8''''' l8'''''' l8''''''' l8'''''''' l8''''''''' l8'''''''''' l8'''''''''''))])
   H)
   Kr Ke =
  br (decide (t12 < 8))
   (req
   (Am.mergeR (!decide (t12 = t1))
    (decide (0 ≤ t12) && decide (t12 < 8) && true &&
    (Nat.ble (Nat.succ (0 + Int.toNat t12 * 1)) 12 &&
      V.isK (Kind.int IntKind.u32)
      (nthV (c37 l3 l3' l3'' l3''' l3'''' l3''''' l3'''''' l3''''''' l3'''''''' l3''''''''' l3'''''''''' l3''''''''''') (0 + Int.toNat t12 * 1)) &&
     true &&
     Am.mergeR
     (!decide
      (V.getInt (nthV (c37 l3 l3' l3'' l3''' l3'''' l3''''' l3'''''' l3''''''' l3'''''''' l3''''''''' l3'''''''''' l3''''''''''') (0 + Int.toNat t12 * 1)) = 0))
     (Am.mergeR (!decide (l5''''' = 0))
      (decide (0 ≤ t12) && decide (t12 < 8) && true &&
      (Nat.ble (Nat.succ (0 + Int.toNat t12 * 1)) 12 &&
        V.isK (Kind.int IntKind.u32)
        (nthV (c37 l3 l3' l3'' l3''' l3'''' l3''''' l3'''''' l3''''''' l3'''''''' l3''''''''' l3'''''''''' l3''''''''''') (0 + Int.toNat t12 * 1)) &&
       true &&
       true))
      true)
     true))
    (Am.mergeR false
    (Am.mergeR (!decide (l5''''' = 0))
     (decide (0 ≤ t12) && decide (t12 < 8) && true &&
     (Nat.ble (Nat.succ (0 + Int.toNat t12 * 1)) 12 &&
       V.isK (Kind.int IntKind.u32)
       (nthV (c37 l3 l3' l3'' l3''' l3'''' l3''''' l3'''''' l3''''''' l3'''''''' l3''''''''' l3'''''''''' l3''''''''''') (0 + Int.toNat t12 * 1)) &&
      true &&
      true))
     true)
    true))
   (br
    (!decide (t12 = t1) &&
    (!decide
      (V.getInt (nthV (c37 l3 l3' l3'' l3''' l3'''' l3''''' l3'''''' l3''''''' l3'''''''' l3''''''''' l3'''''''''' l3''''''''''') (0 + Int.toNat t12 * 1)) = 0) &&
     bif !decide (l5''''' = 0) then
     decide
      (V.getInt (nthV (c37 l3 l3' l3'' l3''' l3'''' l3''''' l3'''''' l3''''''' l3'''''''' l3''''''''' l3'''''''''' l3''''''''''') (0 + Int.toNat t12 * 1)) = l5''''')
     else true))
    (req (decide (0 ≤ t12) && decide (t12 < 8))
    (req
     (Nat.ble (0 + Int.toNat t12 * 1 + 1) 12 &&
     (V.isK (Kind.int IntKind.u8) (Am.condV (Nat.beq 8 (0 + Int.toNat t12 * 1)) (V.int IntKind.u32 0) (V.int IntKind.u8 l8'''''''')) &&
      (V.isK (Kind.int IntKind.i64) (Am.condV (Nat.beq 9 (0 + Int.toNat t12 * 1)) (V.int IntKind.u32 0) (V.int IntKind.i64 l8''''''''')) &&
      (V.isK Kind.bool (Am.condV (Nat.beq 11 (0 + Int.toNat t12 * 1)) (V.int IntKind.u32 0) (V.bool l8''''''''''')) && true))))
     (Am.Rec.loop (Am.Run env) (Am.loopAt env 37 53) 37 53
     (St.mk
      (Am.look
      [(1, T.v (V.int IntKind.i64 t1)), (3, T.lp 3 0), (5, T.lp 5 0), (6, T.lp 6 0), (8, T.lp 8 0),
       (10, T.v (V.bool (bif !t10 then !decide (l3'''''''' = 0) && decide (l3''''''''' = t12) else true))),
       (11, T.v (V.int IntKind.i64 (IntKind.wrap IntKind.i64 (t11 + 1)))), (12, T.v (V.int IntKind.i64 (IntKind.wrap IntKind.i64 (t12 + 1))))])
      (Am.look
      [(3, Loc.cells 38 (c37 l3 l3' l3'' l3''' l3'''' l3''''' l3'''''' l3''''''' l3'''''''' l3''''''''' l3'''''''''' l3''''''''''')),
       (5, Loc.cells 33 (c32 l5 l5' l5''_0 l5''_1 l5''_2 l5''' l5'''' l5''''' l5'''''' l5''''''')),
       (6, Loc.cells 38 (c37 l6 l6' l6'' l6''' l6'''' l6''''' l6'''''' l6''''''' l6'''''''' l6''''''''' l6'''''''''' l6''''''''''')),
       (8,
       Loc.cells 38
        (c37 (bif Nat.beq 0 (0 + Int.toNat t12 * 1) then 0 else l8) (bif Nat.beq 1 (0 + Int.toNat t12 * 1) then 0 else l8')
        (bif Nat.beq 2 (0 + Int.toNat t12 * 1) then 0 else l8'') (bif Nat.beq 3 (0 + Int.toNat t12 * 1) then 0 else l8''') (bif Nat.beq 4 (0 + Int.toNat t12 * 1) then 0 else l8'''')
        (bif Nat.beq 5 (0 + Int.toNat t12 * 1) then 0 else l8''''') (bif Nat.beq 6 (0 + Int.toNat t12 * 1) then 0 else l8'''''') (bif Nat.beq 7 (0 + Int.toNat t12 * 1) then 0 else l8''''''')
        (V.getInt (Am.condV (Nat.beq 8 (0 + Int.toNat t12 * 1)) (V.int IntKind.u32 0) (V.int IntKind.u8 l8'''''''')))
        (V.getInt (Am.condV (Nat.beq 9 (0 + Int.toNat t12 * 1)) (V.int IntKind.u32 0) (V.int IntKind.i64 l8''''''''')))
        (bif Nat.beq 10 (0 + Int.toNat t12 * 1) then 0 else l8'''''''''')
        (V.getBool (Am.condV (Nat.beq 11 (0 + Int.toNat t12 * 1)) (V.int IntKind.u32 0) (V.bool l8''''''''''')))))])
      H)
     Kr Ke)))
    (Am.Rec.loop (Am.Run env) (Am.loopAt env 37 53) 37 53
    (St.mk
     (Am.look
     [(1, T.v (V.int IntKind.i64 t1)), (3, T.lp 3 0), (5, T.lp 5 0), (6, T.lp 6 0), (8, T.lp 8 0), (10, T.v (V.bool t10)),
      (11, T.v (V.int IntKind.i64 t11)), (12, T.v (V.int IntKind.i64 (IntKind.wrap IntKind.i64 (t12 + 1))))])
     (Am.look
     [(3, Loc.cells 38 (c37 l3 l3' l3'' l3''' l3'''' l3''''' l3'''''' l3''''''' l3'''''''' l3''''''''' l3'''''''''' l3''''''''''')),
      (5, Loc.cells 33 (c32 l5 l5' l5''_0 l5''_1 l5''_2 l5''' l5'''' l5''''' l5'''''' l5''''''')),
      (6, Loc.cells 38 (c37 l6 l6' l6'' l6''' l6'''' l6''''' l6'''''' l6''''''' l6'''''''' l6''''''''' l6'''''''''' l6''''''''''')),
      (8, Loc.cells 38 (c37 l8 l8' l8'' l8''' l8'''' l8''''' l8'''''' l8''''''' l8'''''''' l8''''''''' l8'''''''''' l8'''''''''''))])
     H)
    Kr Ke)))
   (Ke 1
   (St.mk
    (Am.look
    [(1, T.v (V.int IntKind.i64 t1)), (3, T.lp 3 0), (5, T.lp 5 0), (6, T.lp 6 0), (8, T.lp 8 0), (10, T.v (V.bool t10)),
     (11, T.v (V.int IntKind.i64 t11))])
    (Am.look
    [(3, Loc.cells 38 (c37 l3 l3' l3'' l3''' l3'''' l3''''' l3'''''' l3''''''' l3'''''''' l3''''''''' l3'''''''''' l3''''''''''')),
     (5, Loc.cells 33 (c32 l5 l5' l5''_0 l5''_1 l5''_2 l5''' l5'''' l5''''' l5'''''' l5''''''')),
     (6, Loc.cells 38 (c37 l6 l6' l6'' l6''' l6'''' l6''''' l6'''''' l6''''''' l6'''''''' l6''''''''' l6'''''''''' l6''''''''''')),
     (8, Loc.cells 38 (c37 l8 l8' l8'' l8''' l8'''' l8''''' l8'''''' l8''''''' l8'''''''' l8''''''''' l8'''''''''' l8'''''''''''))])
    H)) :=
  fun t1 t10 t11 t12 l3 l3' l3'' l3''' l3'''' l3''''' l3'''''' l3''''''' l3'''''''' l3''''''''' l3'''''''''' l3''''''''''' l5 l5' l5''_0 l5''_1 l5''_2 l5''' l5'''' l5''''' l5'''''' l5''''''' l6 l6' l6'' l6''' l6'''' l6''''' l6'''''' l6''''''' l6'''''''' l6''''''''' l6'''''''''' l6''''''''''' l8 l8' l8'' l8''' l8'''' l8''''' l8'''''' l8''''''' l8'''''''' l8''''''''' l8'''''''''' l8''''''''''' H Kr Ke => (Run_loop (E := env)).trans (by kernel_rfl)

theorem lp37_40 : ∀ (t9 l6 l6' l6'' l6''' l6'''' l6''''' l6'''''' l6''''''' l6'''''''' l6''''''''' l6'''''''''' : Int) (l6''''''''''' : Bool) (l8 l8' l8'' l8''' l8'''' l8''''' l8'''''' l8''''''' l8'''''''' l8''''''''' l8'''''''''' : Int)
  (l8''''''''''' : Bool) (H : Am.Heap) (Kr : Am.St → Prop) (Ke : Nat → Am.St → Prop),
  Am.Rec.loop (Am.Run env) (Am.loopAt env 37 40) 37 40
   (St.mk (Am.look [(6, T.lp 6 0), (8, T.lp 8 0), (9, T.v (V.int IntKind.i64 t9))])
   (Am.look
    [(6, Loc.cells 38 (c37 l6 l6' l6'' l6''' l6'''' l6''''' l6'''''' l6''''''' l6'''''''' l6''''''''' l6'''''''''' l6''''''''''')),
    (8, Loc.cells 38 (c37 l8 l8' l8'' l8''' l8'''' l8''''' l8'''''' l8''''''' l8'''''''' l8''''''''' l8'''''''''' l8'''''''''''))])
   H)
   Kr Ke =
  br (decide (t9 < 8))
   (req (decide (0 ≤ t9) && decide (t9 < 8))
   (req
    (Nat.ble (0 + Int.toNat t9 * 1 + 1) 12 &&
    (V.isK (Kind.int IntKind.u8) (Am.condV (Nat.beq 8 (0 + Int.toNat t9 * 1)) (V.int IntKind.u32 0) (V.int IntKind.u8 l8'''''''')) &&
     (V.isK (Kind.int IntKind.i64) (Am.condV (Nat.beq 9 (0 + Int.toNat t9 * 1)) (V.int IntKind.u32 0) (V.int IntKind.i64 l8''''''''')) &&
     (V.isK Kind.bool (Am.condV (Nat.beq 11 (0 + Int.toNat t9 * 1)) (V.int IntKind.u32 0) (V.bool l8''''''''''')) && true))))
    (Am.Rec.loop (Am.Run env) (Am.loopAt env 37 40) 37 40
    (St.mk (Am.look [(6, T.lp 6 0), (8, T.lp 8 0), (9, T.v (V.int IntKind.i64 (IntKind.wrap IntKind.i64 (t9 + 1))))])
     (Am.look
     [(6, Loc.cells 38 (c37 l6 l6' l6'' l6''' l6'''' l6''''' l6'''''' l6''''''' l6'''''''' l6''''''''' l6'''''''''' l6''''''''''')),
      (8,
      Loc.cells 38
       (c37 (bif Nat.beq 0 (0 + Int.toNat t9 * 1) then 0 else l8) (bif Nat.beq 1 (0 + Int.toNat t9 * 1) then 0 else l8') (bif Nat.beq 2 (0 + Int.toNat t9 * 1) then 0 else l8'')
       (bif Nat.beq 3 (0 + Int.toNat t9 * 1) then 0 else l8''') (bif Nat.beq 4 (0 + Int.toNat t9 * 1) then 0 else l8'''') (bif Nat.beq 5 (0 + Int.toNat t9 * 1) then 0 else l8''''')
       (bif Nat.beq 6 (0 + Int.toNat t9 * 1) then 0 else l8'''''') (bif Nat.beq 7 (0 + Int.toNat t9 * 1) then 0 else l8''''''')
       (V.getInt (Am.condV (Nat.beq 8 (0 + Int.toNat t9 * 1)) (V.int IntKind.u32 0) (V.int IntKind.u8 l8'''''''')))
       (V.getInt (Am.condV (Nat.beq 9 (0 + Int.toNat t9 * 1)) (V.int IntKind.u32 0) (V.int IntKind.i64 l8''''''''')))
       (bif Nat.beq 10 (0 + Int.toNat t9 * 1) then 0 else l8'''''''''') (V.getBool (Am.condV (Nat.beq 11 (0 + Int.toNat t9 * 1)) (V.int IntKind.u32 0) (V.bool l8''''''''''')))))])
     H)
    Kr Ke)))
   (Ke 3
   (St.mk (Am.look [(6, T.lp 6 0), (8, T.lp 8 0)])
    (Am.look
    [(6, Loc.cells 38 (c37 l6 l6' l6'' l6''' l6'''' l6''''' l6'''''' l6''''''' l6'''''''' l6''''''''' l6'''''''''' l6''''''''''')),
     (8, Loc.cells 38 (c37 l8 l8' l8'' l8''' l8'''' l8''''' l8'''''' l8''''''' l8'''''''' l8''''''''' l8'''''''''' l8'''''''''''))])
    H)) :=
  fun t9 l6 l6' l6'' l6''' l6'''' l6''''' l6'''''' l6''''''' l6'''''''' l6''''''''' l6'''''''''' l6''''''''''' l8 l8' l8'' l8''' l8'''' l8''''' l8'''''' l8''''''' l8'''''''' l8''''''''' l8'''''''''' l8''''''''''' H Kr Ke => (Run_loop (E := env)).trans (by kernel_rfl)

theorem eq38 : ∀ (x0_0 x0_1 x0_2 x0_3 x0_4 x0_5 x0_6 x0_7 x0_8 x0_9 x0_10 : Int) (x0_11 : Bool) (x1 : Int) (x2 : Bool) (H : Am.Heap) (K : Am.V → Am.Heap → Prop),
  Am.Rec.call (Am.Run env) 38 [V.agg (c37 x0_0 x0_1 x0_2 x0_3 x0_4 x0_5 x0_6 x0_7 x0_8 x0_9 x0_10 x0_11), V.int IntKind.i64 x1, V.bool x2]
   H K =
  br (bif !decide (x1 < 0) then decide (x1 ≥ 8) else true) (K (V.bool false) H)
   (Am.joinP
   (fun Q ↦
    br (!decide (x0_8 = 0))
    (Am.Rec.call (Am.Run env) 47 [V.agg (c37 x0_0 x0_1 x0_2 x0_3 x0_4 x0_5 x0_6 x0_7 x0_8 x0_9 x0_10 x0_11), V.int IntKind.i64 x1] H
     fun v H' ↦ req (V.isK Kind.bool v) (Q (St.mk (Am.look [(20, T.v (V.bool (V.getBool v)))]) (Am.look []) H')))
    (Q (St.mk (Am.look [(20, T.v (V.bool true))]) (Am.look []) H)))
   fun S' ↦
   req (Am.isKT (KT.k Kind.bool) (S'.1 20) || false || false)
    (br (V.getBool (T.val (S'.1 20))) (K (V.bool true) S'.3)
    (br (decide (x0_8 = 1)) (K (V.bool !x2) S'.3)
     (br (decide (x0_8 = 3)) (K (V.bool false) S'.3)
     (Am.joinP
      (fun Q ↦
      br (decide (x0_8 = 5)) (Q (St.mk (Am.look [(29, T.v (V.bool (decide (x0_8 = 5))))]) (Am.look []) S'.3))
       (Q (St.mk (Am.look [(29, T.v (V.bool (decide (x0_8 = 7))))]) (Am.look []) S'.3)))
      fun S' ↦
      req (Am.isKT (KT.k Kind.bool) (S'.1 29) || false || false)
      (br (V.getBool (T.val (S'.1 29)))
       (req
       (Am.mergeR (!!x2)
        (decide (0 ≤ x1) && decide (x1 < 8) && true &&
        (Nat.ble (Nat.succ (0 + Int.toNat x1 * 1)) 12 &&
          V.isK (Kind.int IntKind.u32) (nthV (c37 x0_0 x0_1 x0_2 x0_3 x0_4 x0_5 x0_6 x0_7 x0_8 x0_9 x0_10 x0_11) (0 + Int.toNat x1 * 1)) &&
         true &&
         true))
        true)
       (K
        (V.bool
        (bif !!x2 then !decide (V.getInt (nthV (c37 x0_0 x0_1 x0_2 x0_3 x0_4 x0_5 x0_6 x0_7 x0_8 x0_9 x0_10 x0_11) (0 + Int.toNat x1 * 1)) = 0)
        else true))
        S'.3))
       (req (decide (0 ≤ x1) && decide (x1 < 8))
       (req
        (Nat.ble (Nat.succ (0 + Int.toNat x1 * 1)) 12 &&
        V.isK (Kind.int IntKind.u32) (nthV (c37 x0_0 x0_1 x0_2 x0_3 x0_4 x0_5 x0_6 x0_7 x0_8 x0_9 x0_10 x0_11) (0 + Int.toNat x1 * 1)))
        (K (V.bool !decide (V.getInt (nthV (c37 x0_0 x0_1 x0_2 x0_3 x0_4 x0_5 x0_6 x0_7 x0_8 x0_9 x0_10 x0_11) (0 + Int.toNat x1 * 1)) = 0))
        S'.3))))))))) :=
  fun x0_0 x0_1 x0_2 x0_3 x0_4 x0_5 x0_6 x0_7 x0_8 x0_9 x0_10 x0_11 x1 x2 H K => (Run_call (E := env)).trans (by kernel_rfl)

theorem eq39 : ∀ (x0 : Option (Nat × Nat)) (H : Am.Heap) (K : Am.V → Am.Heap → Prop),
  Am.Rec.call (Am.Run env) 39 [V.ptr x0] H K =
  br (Option.isNone x0) (K (V.int IntKind.i64 0) H)
   (req (Option.isSome x0)
   (req (Am.Heap.inb H (Option.getD x0 (0, 0)).1 (Option.getD x0 (0, 0)).2 1 && V.isK Kind.slice (Am.Heap.cell H (Option.getD x0 (0, 0)).1 (Option.getD x0 (0, 0)).2))
    (K (V.int IntKind.i64 (↑(V.slLen (Am.Heap.cell H (Option.getD x0 (0, 0)).1 (Option.getD x0 (0, 0)).2)) : Int)) H))) :=
  fun x0 H K => (Run_call (E := env)).trans (by kernel_rfl)

theorem eq40 : ∀ (x0_0 x0_1 x0_2 x0_3 x0_4 x0_5 x0_6 x0_7 x0_8 x0_9 x0_10 : Int) (x0_11 : Bool) (x1 x2 : Int) (H : Am.Heap) (K : Am.V → Am.Heap → Prop),
  Am.Rec.call (Am.Run env) 40
   [V.agg (c37 x0_0 x0_1 x0_2 x0_3 x0_4 x0_5 x0_6 x0_7 x0_8 x0_9 x0_10 x0_11), V.int IntKind.i64 x1, V.int IntKind.i64 x2] H K =
  br (!decide (x1 = x2) && !x0_11) (K (V.agg (c37 0 0 0 0 0 0 0 0 0 (-1) 0 false)) H)
   (br (!decide (x1 = x2)) (K (V.agg (c37 x0_0 x0_1 x0_2 x0_3 x0_4 x0_5 x0_6 x0_7 x0_8 x0_9 0 x0_11)) H)
   (K (V.agg (c37 x0_0 x0_1 x0_2 x0_3 x0_4 x0_5 x0_6 x0_7 x0_8 x0_9 x0_10 x0_11)) H)) :=
  fun x0_0 x0_1 x0_2 x0_3 x0_4 x0_5 x0_6 x0_7 x0_8 x0_9 x0_10 x0_11 x1 x2 H K => (Run_call (E := env)).trans (by kernel_rfl)

theorem eq42 : ∀ (x0 : Option (Nat × Nat)) (x1 : Int) (H : Am.Heap) (K : Am.V → Am.Heap → Prop),
  Am.Rec.call (Am.Run env) 42 [V.ptr x0, V.int IntKind.i64 x1] H K =
  br (Option.isNone x0) (K (V.tuple []) H)
   (Am.Rec.call (Am.Run env) 51 [V.ptr x0, V.int IntKind.i64 x1] H fun v H' ↦
   req (V.isTuple 2 v && (V.isK (Kind.int IntKind.i64) (nthV (V.vals v) 0) && (V.isK Kind.bool (nthV (V.vals v) 1) || false)))
    (br (V.getBool (nthV (V.vals v) 1))
    (req (Option.isSome x0)
     (req (Am.Heap.inb H' (Option.getD x0 (0, 0)).1 (Option.getD x0 (0, 0)).2 1 && V.isK Kind.slice (Am.Heap.cell H' (Option.getD x0 (0, 0)).1 (Option.getD x0 (0, 0)).2))
     (Am.Rec.call (Am.Run env) 59
      [V.slice (V.slPtr (Am.Heap.cell H' (Option.getD x0 (0, 0)).1 (Option.getD x0 (0, 0)).2)) (V.slLen (Am.Heap.cell H' (Option.getD x0 (0, 0)).1 (Option.getD x0 (0, 0)).2))
       (V.slCap (Am.Heap.cell H' (Option.getD x0 (0, 0)).1 (Option.getD x0 (0, 0)).2)),
      V.int IntKind.i64 (V.getInt (nthV (V.vals v) 0)), V.int IntKind.i64 (IntKind.wrap IntKind.i64 (V.getInt (nthV (V.vals v) 0) + 1))]
      H' fun v H' ↦
      req (V.isK Kind.slice v)
      (req (Option.isSome x0)
       (req (Am.Heap.wr H' (Option.getD x0 (0, 0)).1 (Option.getD x0 (0, 0)).2 1)
       (K (V.tuple []) (Am.Heap.store H' (Option.getD x0 (0, 0)).1 (Option.getD x0 (0, 0)).2 [V.slice (V.slPtr v) (V.slLen v) (V.slCap v)])))))))
    (K (V.tuple []) H'))) :=
  fun x0 x1 H K => (Run_call (E := env)).trans (by kernel_rfl)

theorem eq43 : ∀ (x0 : Option (Nat × Nat)) (x1_0 : Int) (x1_1p : Option (Nat × Nat)) (x1_1n x1_1c : Nat) (x1_2 : Bool) (H : Am.Heap) (K : Am.V → Am.Heap → Prop),
  Am.Rec.call (Am.Run env) 43 [V.ptr x0, V.agg (c72 x1_0 x1_1p x1_1n x1_1c x1_2)] H K =
  br (Option.isNone x0) (K (V.int IntKind.i64 5) H)
   (br (bif !decide (x1_0 < 0) then decide (x1_0 ≥ 65536) else true) (K (V.int IntKind.i64 1) H)
   (br (decide ((↑x1_1n : Int) > 64)) (K (V.int IntKind.i64 2) H)
    (Am.Rec.call (Am.Run env) 32 [V.slice x1_1p x1_1n x1_1c] H fun v H' ↦
    req (V.isK Kind.slice v)
     (Am.joinP
     (fun Q ↦
      br x1_2 (Q (St.mk (Am.look []) (Am.look [(3, Loc.cells 73 (c72 x1_0 Option.none 0 0 x1_2))]) H'))
      (Q (St.mk (Am.look []) (Am.look [(3, Loc.cells 73 (c72 x1_0 (V.slPtr v) (V.slLen v) (V.slCap v) x1_2))]) H')))
     fun S' ↦
     req (Am.isLK 73 k72 (S'.2 3) || false)
      (Am.Rec.call (Am.Run env) 51 [V.ptr x0, V.int IntKind.i64 (V.getInt (nthV (Am.locCells (S'.2 3)) 0))] S'.3 fun v H' ↦
      req (V.isTuple 2 v && (V.isK (Kind.int IntKind.i64) (nthV (V.vals v) 0) && (V.isK Kind.bool (nthV (V.vals v) 1) || false)))
       (br (V.getBool (nthV (V.vals v) 1))
       (req (Option.isSome x0)
        (req (Am.Heap.inb H' (Option.getD x0 (0, 0)).1 (Option.getD x0 (0, 0)).2 1 && V.isK Kind.slice (Am.Heap.cell H' (Option.getD x0 (0, 0)).1 (Option.getD x0 (0, 0)).2))
        (req
         (decide (0 ≤ V.getInt (nthV (V.vals v) 0)) &&
          decide (V.getInt (nthV (V.vals v) 0) < (↑(V.slLen (Am.Heap.cell H' (Option.getD x0 (0, 0)).1 (Option.getD x0 (0, 0)).2)) : Int)) &&
         Option.isSome (V.slPtr (Am.Heap.cell H' (Option.getD x0 (0, 0)).1 (Option.getD x0 (0, 0)).2)))
         (req
         (Am.Heap.wr H' (Option.getD (V.slPtr (Am.Heap.cell H' (Option.getD x0 (0, 0)).1 (Option.getD x0 (0, 0)).2)) (0, 0)).1
          ((Option.getD (V.slPtr (Am.Heap.cell H' (Option.getD x0 (0, 0)).1 (Option.getD x0 (0, 0)).2)) (0, 0)).2 + Int.toNat (V.getInt (nthV (V.vals v) 0)) * 3) 3)
         (K (V.int IntKind.i64 0)
          (Am.Heap.store H' (Option.getD (V.slPtr (Am.Heap.cell H' (Option.getD x0 (0, 0)).1 (Option.getD x0 (0, 0)).2)) (0, 0)).1
          ((Option.getD (V.slPtr (Am.Heap.cell H' (Option.getD x0 (0, 0)).1 (Option.getD x0 (0, 0)).2)) (0, 0)).2 + Int.toNat (V.getInt (nthV (V.vals v) 0)) * 3)
          (o72 (Am.locCells (S'.2 3)))))))))
       (req (Option.isSome x0)
        (req (Am.Heap.inb H' (Option.getD x0 (0, 0)).1 (Option.getD x0 (0, 0)).2 1 && V.isK Kind.slice (Am.Heap.cell H' (Option.getD x0 (0, 0)).1 (Option.getD x0 (0, 0)).2))
        (br (decide ((↑(V.slLen (Am.Heap.cell H' (Option.getD x0 (0, 0)).1 (Option.getD x0 (0, 0)).2)) : Int) ≥ 8)) (K (V.int IntKind.i64 11) H')
         (Am.joinP
         (fun Q ↦
          req (Option.isSome x0)
          (req
           (Am.Heap.inb H' (Option.getD x0 (0, 0)).1 (Option.getD x0 (0, 0)).2 1 && V.isK Kind.slice (Am.Heap.cell H' (Option.getD x0 (0, 0)).1 (Option.getD x0 (0, 0)).2))
           (Am.Rec.call (Am.Run env) 60
            [V.slice (V.slPtr (Am.Heap.cell H' (Option.getD x0 (0, 0)).1 (Option.getD x0 (0, 0)).2))
             (V.slLen (Am.Heap.cell H' (Option.getD x0 (0, 0)).1 (Option.getD x0 (0, 0)).2))
             (V.slCap (Am.Heap.cell H' (Option.getD x0 (0, 0)).1 (Option.getD x0 (0, 0)).2)),
            V.int IntKind.i64 (V.getInt (nthV (V.vals v) 0)), V.slice (Option.some (H'.2, 0)) 1 1]
            (Am.Heap.alloc H' (Am.Obj.cells 73 (o72 (Am.locCells (S'.2 3))) false)) fun v H' ↦
            req (V.isK Kind.slice v)
            (req (Option.isSome x0)
             (req (Am.Heap.wr H' (Option.getD x0 (0, 0)).1 (Option.getD x0 (0, 0)).2 1)
             (Q
              (St.mk (Am.look []) (Am.look [])
              (Am.Heap.store H' (Option.getD x0 (0, 0)).1 (Option.getD x0 (0, 0)).2 [V.slice (V.slPtr v) (V.slLen v) (V.slCap v)])))))) ∧
           req
           (Am.Heap.inb (Am.Heap.alloc H' (Am.Obj.cells 73 (o72 (Am.locCells (S'.2 3))) false)) (Option.getD x0 (0, 0)).1 (Option.getD x0 (0, 0)).2
            1 &&
            V.isK Kind.slice
            (Am.Heap.cell (Am.Heap.alloc H' (Am.Obj.cells 73 (o72 (Am.locCells (S'.2 3))) false)) (Option.getD x0 (0, 0)).1
             (Option.getD x0 (0, 0)).2))
           (Am.Rec.call (Am.Run env) 60
            [V.slice
             (V.slPtr
             (Am.Heap.cell (Am.Heap.alloc H' (Am.Obj.cells 73 (o72 (Am.locCells (S'.2 3))) false)) (Option.getD x0 (0, 0)).1
              (Option.getD x0 (0, 0)).2))
             (V.slLen
             (Am.Heap.cell (Am.Heap.alloc H' (Am.Obj.cells 73 (o72 (Am.locCells (S'.2 3))) false)) (Option.getD x0 (0, 0)).1
              (Option.getD x0 (0, 0)).2))
             (V.slCap
             (Am.Heap.cell (Am.Heap.alloc H' (Am.Obj.cells 73 (o72 (Am.locCells (S'.2 3))) false)) (Option.getD x0 (0, 0)).1
              (Option.getD x0 (0, 0)).2)),
            V.int IntKind.i64 (V.getInt (nthV (V.vals v) 0)), V.slice (Option.some (H'.2, 0)) 1 1]
            (Am.Heap.alloc H' (Am.Obj.cells 73 (o72 (Am.locCells (S'.2 3))) false)) fun v H' ↦
            req (V.isK Kind.slice v)
            (req (Option.isSome x0)
             (req (Am.Heap.wr H' (Option.getD x0 (0, 0)).1 (Option.getD x0 (0, 0)).2 1)
             (Q
              (St.mk (Am.look []) (Am.look [])
              (Am.Heap.store H' (Option.getD x0 (0, 0)).1 (Option.getD x0 (0, 0)).2 [V.slice (V.slPtr v) (V.slLen v) (V.slCap v)]))))))))
         fun S' ↦ K (V.int IntKind.i64 0) S'.3)))))))))) :=
  fun x0 x1_0 x1_1p x1_1n x1_1c x1_2 H K => (Run_call (E := env)).trans (by kernel_rfl)

theorem eq44 : ∀ (x0 : Option (Nat × Nat)) (H : Am.Heap) (K : Am.V → Am.Heap → Prop),
  Am.Rec.call (Am.Run env) 44 [V.ptr x0] H K =
  br (!Option.isNone x0)
   (req (Option.isSome x0)
   (req (Am.Heap.inb H (Option.getD x0 (0, 0)).1 (Option.getD x0 (0, 0)).2 1 && V.isK Kind.slice (Am.Heap.cell H (Option.getD x0 (0, 0)).1 (Option.getD x0 (0, 0)).2))
    (Am.Rec.loop (Am.Run env) (Am.loopAt env 44 5) 44 5
    (St.mk
     (Am.look
     [(3, T.v (V.slice Option.none 0 0)),
      (11,
      T.v
       (V.slice (V.slPtr (Am.Heap.cell H (Option.getD x0 (0, 0)).1 (Option.getD x0 (0, 0)).2)) (V.slLen (Am.Heap.cell H (Option.getD x0 (0, 0)).1 (Option.getD x0 (0, 0)).2))
       (V.slCap (Am.Heap.cell H (Option.getD x0 (0, 0)).1 (Option.getD x0 (0, 0)).2)))),
      (12, T.v (V.int IntKind.i64 (↑(V.slLen (Am.Heap.cell H (Option.getD x0 (0, 0)).1 (Option.getD x0 (0, 0)).2)) : Int))), (13, T.v (V.int IntKind.i64 0))])
     (Am.look []) H)
    (fun S' ↦ False) fun j S' ↦
    br (Nat.beq j 0)
     (req (Am.isKT (KT.k Kind.slice) (S'.1 3) || false || false)
     (K (V.slice (V.slPtr (T.val (S'.1 3))) (V.slLen (T.val (S'.1 3))) (V.slCap (T.val (S'.1 3)))) S'.3))
     False)))
   (K (V.slice Option.none 0 0) H) :=
  fun x0 H K => (Run_call (E := env)).trans (by kernel_rfl)

theorem lp44_5 : ∀ (t3_0 : Option (Nat × Nat)) (t3_1 t3_2 : Nat) (t11_0 : Option (Nat × Nat)) (t11_1 t11_2 : Nat) (t12 t13 : Int) (H : Am.Heap) (Kr : Am.St → Prop) (Ke : Nat → Am.St → Prop),
  Am.Rec.loop (Am.Run env) (Am.loopAt env 44 5) 44 5
   (St.mk
   (Am.look [(3, T.v (V.slice t3_0 t3_1 t3_2)), (11, T.v (V.slice t11_0 t11_1 t11_2)), (12, T.v (V.int IntKind.i64 t12)), (13, T.v (V.int IntKind.i64 t13))])
   (Am.look []) H)
   Kr Ke =
  br (decide (t13 < t12))
   (req (decide (0 ≤ t13) && decide (t13 < (↑t11_1 : Int)) && Option.isSome t11_0)
   (req
    (Am.Heap.inb H (Option.getD t11_0 (0, 0)).1 ((Option.getD t11_0 (0, 0)).2 + Int.toNat t13 * 3) 3 &&
    Am.fits k72 (Am.Heap.sub H (Option.getD t11_0 (0, 0)).1 ((Option.getD t11_0 (0, 0)).2 + Int.toNat t13 * 3) 3))
    (Am.Rec.call (Am.Run env) 32
    [V.slice (V.slPtr (nthV (Am.Heap.sub H (Option.getD t11_0 (0, 0)).1 ((Option.getD t11_0 (0, 0)).2 + Int.toNat t13 * 3) 3) 1))
     (V.slLen (nthV (Am.Heap.sub H (Option.getD t11_0 (0, 0)).1 ((Option.getD t11_0 (0, 0)).2 + Int.toNat t13 * 3) 3) 1))
     (V.slCap (nthV (Am.Heap.sub H (Option.getD t11_0 (0, 0)).1 ((Option.getD t11_0 (0, 0)).2 + Int.toNat t13 * 3) 3) 1))]
    H fun v H' ↦
    req (V.isK Kind.slice v)
     (Am.appendOp env [65, 65] [V.slice t3_0 t3_1 t3_2, V.slice (Option.some (H'.2, 0)) 1 1]
     (Am.Heap.alloc H'
      (Am.Obj.cells 73
      (c72 (V.getInt (nthV (Am.Heap.sub H (Option.getD t11_0 (0, 0)).1 ((Option.getD t11_0 (0, 0)).2 + Int.toNat t13 * 3) 3) 0)) (V.slPtr v) (V.slLen v)
       (V.slCap v) (V.getBool (nthV (Am.Heap.sub H (Option.getD t11_0 (0, 0)).1 ((Option.getD t11_0 (0, 0)).2 + Int.toNat t13 * 3) 3) 2)))
      false))
     fun q n c H' ↦
     Am.Rec.loop (Am.Run env) (Am.loopAt env 44 5) 44 5
      (St.mk
      (Am.look
       [(3, T.v (V.slice q n c)), (11, T.v (V.slice t11_0 t11_1 t11_2)), (12, T.v (V.int IntKind.i64 t12)),
       (13, T.v (V.int IntKind.i64 (IntKind.wrap IntKind.i64 (t13 + 1))))])
      (Am.look []) H')
      Kr Ke))))
   (Ke 0 (St.mk (Am.look [(3, T.v (V.slice t3_0 t3_1 t3_2))]) (Am.look []) H)) :=
  fun t3_0 t3_1 t3_2 t11_0 t11_1 t11_2 t12 t13 H Kr Ke => (Run_loop (E := env)).trans (by kernel_rfl)

theorem eq45 : ∀ (x0 : Int) (H : Am.Heap) (K : Am.V → Am.Heap → Prop),
  Am.Rec.call (Am.Run env) 45 [V.int IntKind.u8 x0] H K =
  Am.Rec.call (Am.Run env) 61 [] H fun v H' ↦
   req (V.isAgg v && Am.fits k100 (V.aggCells v))
   (Am.Rec.loop (Am.Run env) (Am.loopAt env 45 2) 45 2
    (St.mk (Am.look [(0, T.v (V.int IntKind.u8 x0)), (5, T.v (V.agg (o100 (V.aggCells v)))), (6, T.v (V.int IntKind.i64 0))])
    (Am.look []) H')
    (fun S' ↦ req (Am.isKT (KT.k Kind.bool) (S'.1 2) || false || false) (K (V.bool (V.getBool (T.val (S'.1 2)))) S'.3)) fun j S' ↦
    br (Nat.beq j 0) (K (V.bool false) S'.3) False) :=
  fun x0 H K => (Run_call (E := env)).trans (by kernel_rfl)

theorem lp45_2 : ∀ (t0 t5 t5' t5'' t5''' t5'''' t5''''' t6 : Int) (H : Am.Heap) (Kr : Am.St → Prop) (Ke : Nat → Am.St → Prop),
  Am.Rec.loop (Am.Run env) (Am.loopAt env 45 2) 45 2
   (St.mk
   (Am.look [(0, T.v (V.int IntKind.u8 t0)), (5, T.v (V.agg (c100 t5 t5' t5'' t5''' t5'''' t5'''''))), (6, T.v (V.int IntKind.i64 t6))])
   (Am.look []) H)
   Kr Ke =
  br (decide (t6 < 6))
   (req
   (decide (0 ≤ t6) && decide (t6 < 6) &&
    (Nat.ble (Nat.succ (Int.toNat t6 * 1)) 6 && V.isK (Kind.int IntKind.u8) (nthV (c100 t5 t5' t5'' t5''' t5'''' t5''''') (Int.toNat t6 * 1))))
   (br (decide (V.getInt (nthV (c100 t5 t5' t5'' t5''' t5'''' t5''''') (Int.toNat t6 * 1)) = t0))
    (Kr (St.mk (Am.look [(2, T.v (V.bool true))]) (Am.look []) H))
    (Am.Rec.loop (Am.Run env) (Am.loopAt env 45 2) 45 2
    (St.mk
     (Am.look
     [(0, T.v (V.int IntKind.u8 t0)), (5, T.v (V.agg (c100 t5 t5' t5'' t5''' t5'''' t5'''''))),
      (6, T.v (V.int IntKind.i64 (IntKind.wrap IntKind.i64 (t6 + 1))))])
     (Am.look []) H)
    Kr Ke)))
   (Ke 0 (St.mk (Am.look []) (Am.look []) H)) :=
  fun t0 t5 t5' t5'' t5''' t5'''' t5''''' t6 H Kr Ke => (Run_loop (E := env)).trans (by kernel_rfl)

theorem eq46 : ∀ (x0_0 x0_1 x0_2 x0_3 x0_4 x0_5 x0_6 x0_7 x0_8 x0_9 x0_10 : Int) (x0_11 : Bool) (x1 x2_0 x2_1 : Int) (x2_2p : Option (Nat × Nat)) (x2_2n x2_2c : Nat) (x2_3 : Bool) (x2_4 x2_5 x2_6 : Int) (x2_7 : Bool) (H : Am.Heap)
  (K : Am.V → Am.Heap → Prop),
  Am.Rec.call (Am.Run env) 46
   [V.agg (c37 x0_0 x0_1 x0_2 x0_3 x0_4 x0_5 x0_6 x0_7 x0_8 x0_9 x0_10 x0_11), V.int IntKind.i64 x1,
   V.agg (c32 x2_0 x2_1 x2_2p x2_2n x2_2c x2_3 x2_4 x2_5 x2_6 x2_7)]
   H K =
  br (decide (x2_5 = 0))
   (Am.Rec.call (Am.Run env) 62
   [V.agg (c37 x0_0 x0_1 x0_2 x0_3 x0_4 x0_5 x0_6 x0_7 x0_8 x0_9 (IntKind.wrap IntKind.u32 (x0_10 + 1)) x2_7), V.int IntKind.i64 x1] H fun v H' ↦
   req (V.isAgg v && Am.fits k37 (V.aggCells v)) (K (V.agg (o37 (V.aggCells v))) H'))
   (req (decide (0 ≤ x1) && decide (x1 < 8))
   (req
    (Nat.ble (0 + Int.toNat x1 * 1 + 1) 12 &&
    (V.isK (Kind.int IntKind.u8) (Am.condV (Nat.beq 8 (0 + Int.toNat x1 * 1)) (V.int IntKind.u32 x2_5) (V.int IntKind.u8 x0_8)) &&
     (V.isK (Kind.int IntKind.i64) (Am.condV (Nat.beq 9 (0 + Int.toNat x1 * 1)) (V.int IntKind.u32 x2_5) (V.int IntKind.i64 x0_9)) &&
     (V.isK Kind.bool (Am.condV (Nat.beq 11 (0 + Int.toNat x1 * 1)) (V.int IntKind.u32 x2_5) (V.bool x2_7)) && true))))
    (K
    (V.agg
     (c37 (bif Nat.beq 0 (0 + Int.toNat x1 * 1) then x2_5 else x0_0) (bif Nat.beq 1 (0 + Int.toNat x1 * 1) then x2_5 else x0_1)
     (bif Nat.beq 2 (0 + Int.toNat x1 * 1) then x2_5 else x0_2) (bif Nat.beq 3 (0 + Int.toNat x1 * 1) then x2_5 else x0_3) (bif Nat.beq 4 (0 + Int.toNat x1 * 1) then x2_5 else x0_4)
     (bif Nat.beq 5 (0 + Int.toNat x1 * 1) then x2_5 else x0_5) (bif Nat.beq 6 (0 + Int.toNat x1 * 1) then x2_5 else x0_6) (bif Nat.beq 7 (0 + Int.toNat x1 * 1) then x2_5 else x0_7)
     (V.getInt (Am.condV (Nat.beq 8 (0 + Int.toNat x1 * 1)) (V.int IntKind.u32 x2_5) (V.int IntKind.u8 x0_8)))
     (V.getInt (Am.condV (Nat.beq 9 (0 + Int.toNat x1 * 1)) (V.int IntKind.u32 x2_5) (V.int IntKind.i64 x0_9)))
     (bif Nat.beq 10 (0 + Int.toNat x1 * 1) then x2_5 else IntKind.wrap IntKind.u32 (x0_10 + 1))
     (V.getBool (Am.condV (Nat.beq 11 (0 + Int.toNat x1 * 1)) (V.int IntKind.u32 x2_5) (V.bool x2_7)))))
    H))) :=
  fun x0_0 x0_1 x0_2 x0_3 x0_4 x0_5 x0_6 x0_7 x0_8 x0_9 x0_10 x0_11 x1 x2_0 x2_1 x2_2p x2_2n x2_2c x2_3 x2_4 x2_5 x2_6 x2_7 H K => (Run_call (E := env)).trans (by kernel_rfl)

theorem eq47 : ∀ (x0_0 x0_1 x0_2 x0_3 x0_4 x0_5 x0_6 x0_7 x0_8 x0_9 x0_10 : Int) (x0_11 : Bool) (x1 : Int) (H : Am.Heap) (K : Am.V → Am.Heap → Prop),
  Am.Rec.call (Am.Run env) 47 [V.agg (c37 x0_0 x0_1 x0_2 x0_3 x0_4 x0_5 x0_6 x0_7 x0_8 x0_9 x0_10 x0_11), V.int IntKind.i64 x1] H K =
  br (bif !decide (x1 < 0) then bif !decide (x1 ≥ 8) then decide (x0_8 = 0) else true else true) (K (V.bool false) H)
   (br (!decide (x0_9 = x1))
   (Am.Rec.call (Am.Run env) 63 [V.int IntKind.u8 x0_8] H fun v H' ↦
    req (V.isK Kind.bool v)
    (br (V.getBool v)
     (req (decide (0 ≤ x1) && decide (x1 < 8))
     (req
      (Nat.ble (Nat.succ (0 + Int.toNat x1 * 1)) 12 &&
      V.isK (Kind.int IntKind.u32) (nthV (c37 x0_0 x0_1 x0_2 x0_3 x0_4 x0_5 x0_6 x0_7 x0_8 x0_9 x0_10 x0_11) (0 + Int.toNat x1 * 1)))
      (K (V.bool !decide (V.getInt (nthV (c37 x0_0 x0_1 x0_2 x0_3 x0_4 x0_5 x0_6 x0_7 x0_8 x0_9 x0_10 x0_11) (0 + Int.toNat x1 * 1)) = 0)) H')))
     (K (V.bool false) H')))
   (K (V.bool true) H)) :=
  fun x0_0 x0_1 x0_2 x0_3 x0_4 x0_5 x0_6 x0_7 x0_8 x0_9 x0_10 x0_11 x1 H K => (Run_call (E := env)).trans (by kernel_rfl)

theorem eq48 : ∀ (x0_0 x0_1 x0_2 x0_3 x0_4 x0_5 x0_6 x0_7 x0_8 x0_9 x0_10 : Int) (x0_11 : Bool) (x1 x2 : Int) (H : Am.Heap) (K : Am.V → Am.Heap → Prop),
  Am.Rec.call (Am.Run env) 48
   [V.agg (c37 x0_0 x0_1 x0_2 x0_3 x0_4 x0_5 x0_6 x0_7 x0_8 x0_9 x0_10 x0_11), V.int IntKind.i64 x1, V.int IntKind.u8 x2] H K =
  Am.Rec.call (Am.Run env) 63 [V.int IntKind.u8 x2] H fun v H' ↦
   req (V.isK Kind.bool v)
   (br (V.getBool v) (K (V.agg (c37 x0_0 x0_1 x0_2 x0_3 x0_4 x0_5 x0_6 x0_7 x2 (-1) x0_10 x0_11)) H')
    (K (V.agg (c37 x0_0 x0_1 x0_2 x0_3 x0_4 x0_5 x0_6 x0_7 x2 x1 x0_10 x0_11)) H')) :=
  fun x0_0 x0_1 x0_2 x0_3 x0_4 x0_5 x0_6 x0_7 x0_8 x0_9 x0_10 x0_11 x1 x2 H K => (Run_call (E := env)).trans (by kernel_rfl)

theorem eq49 : ∀ (x0_0 x0_1 x0_2 x0_3 x0_4 x0_5 x0_6 x0_7 x0_8 x0_9 x0_10 : Int) (x0_11 : Bool) (H : Am.Heap) (K : Am.V → Am.Heap → Prop),
  Am.Rec.call (Am.Run env) 49 [V.agg (c37 x0_0 x0_1 x0_2 x0_3 x0_4 x0_5 x0_6 x0_7 x0_8 x0_9 x0_10 x0_11)] H K =
  K (V.agg (c37 x0_0 x0_1 x0_2 x0_3 x0_4 x0_5 x0_6 x0_7 0 (-1) x0_10 x0_11)) H :=
  fun x0_0 x0_1 x0_2 x0_3 x0_4 x0_5 x0_6 x0_7 x0_8 x0_9 x0_10 x0_11 H K => (Run_call (E := env)).trans (by kernel_rfl)

theorem eq50 : ∀ (x0_0 x0_1 x0_2 x0_3 x0_4 x0_5 x0_6 x0_7 x0_8 x0_9 x0_10 : Int) (x0_11 : Bool) (x1 x2_0 x2_1 : Int) (x2_2p : Option (Nat × Nat)) (x2_2n x2_2c : Nat) (x2_3 : Bool) (x2_4 x2_5 x2_6 : Int) (x2_7 : Bool) (H : Am.Heap)
  (K : Am.V → Am.Heap → Prop),
  Am.Rec.call (Am.Run env) 50
   [V.agg (c37 x0_0 x0_1 x0_2 x0_3 x0_4 x0_5 x0_6 x0_7 x0_8 x0_9 x0_10 x0_11), V.int IntKind.i64 x1,
   V.agg (c32 x2_0 x2_1 x2_2p x2_2n x2_2c x2_3 x2_4 x2_5 x2_6 x2_7)]
   H K =
  Am.joinP
   (fun Q ↦
   br (decide (x2_5 = 0))
    (Am.Rec.call (Am.Run env) 63 [V.int IntKind.u8 x0_8] H fun v H' ↦
    req (V.isK Kind.bool v) (Q (St.mk (Am.look [(21, T.v (V.bool !V.getBool v))]) (Am.look []) H')))
    (Q (St.mk (Am.look [(21, T.v (V.bool false))]) (Am.look []) H)))
   fun S' ↦
   req (Am.isKT (KT.k Kind.bool) (S'.1 21) || false || false)
   (br (V.getBool (T.val (S'.1 21)))
    (K (V.tuple [V.agg (c37 x0_0 x0_1 x0_2 x0_3 x0_4 x0_5 x0_6 x0_7 x0_8 x0_9 x0_10 x0_11), V.int IntKind.i64 1]) S'.3)
    (req
    (Am.mergeR (!decide (x2_5 = 0))
     (decide (0 ≤ x1) && decide (x1 < 8) && true &&
     (Nat.ble (Nat.succ (0 + Int.toNat x1 * 1)) 12 &&
       V.isK (Kind.int IntKind.u32) (nthV (c37 x0_0 x0_1 x0_2 x0_3 x0_4 x0_5 x0_6 x0_7 x0_8 x0_9 x0_10 x0_11) (0 + Int.toNat x1 * 1)) &&
      true &&
      true))
     true)
    (Am.Rec.loop (Am.Run env) (Am.loopAt env 50 8) 50 8
     (St.mk
     (Am.look
      [(1, T.v (V.int IntKind.i64 x1)), (3, T.lp 3 0), (5, T.lp 5 0), (6, T.lp 6 0), (8, T.v (V.bool false)),
      (9,
       T.v
       (V.bool
        (bif !decide (x2_5 = 0) then
        decide (x2_5 = V.getInt (nthV (c37 x0_0 x0_1 x0_2 x0_3 x0_4 x0_5 x0_6 x0_7 x0_8 x0_9 x0_10 x0_11) (0 + Int.toNat x1 * 1))) &&
         (!decide (x0_8 = 0) && decide (x0_9 = x1))
        else true))),
      (10, T.lp 10 0), (48, T.v (V.agg (c36 x0_0 x0_1 x0_2 x0_3 x0_4 x0_5 x0_6 x0_7))), (49, T.v (V.int IntKind.i64 0))])
     (Am.look
      [(3, Loc.cells 38 (c37 x0_0 x0_1 x0_2 x0_3 x0_4 x0_5 x0_6 x0_7 x0_8 x0_9 x0_10 x0_11)),
      (5, Loc.cells 33 (c32 x2_0 x2_1 x2_2p x2_2n x2_2c x2_3 x2_4 x2_5 x2_6 x2_7)),
      (6, Loc.cells 38 (c37 0 0 0 0 0 0 0 0 0 0 0 false)),
      (10, Loc.cells 38 (c37 x0_0 x0_1 x0_2 x0_3 x0_4 x0_5 x0_6 x0_7 x0_8 x0_9 x0_10 x0_11))])
     S'.3)
     (fun S' ↦ False) fun j S' ↦
     br (Nat.beq j 0)
     (req
      (Am.isKT (KT.k (Kind.int IntKind.i64)) (S'.1 1) &&
       (Am.isKT (KT.lp 3) (S'.1 3) &&
       (Am.isKT (KT.lp 5) (S'.1 5) &&
        (Am.isKT (KT.lp 6) (S'.1 6) &&
        (Am.isKT (KT.k Kind.bool) (S'.1 8) && (Am.isKT (KT.k Kind.bool) (S'.1 9) && (Am.isKT (KT.lp 10) (S'.1 10) || false)))))) &&
      (Am.isLK 38 k37 (S'.2 3) &&
       (Am.isLK 33 k32 (S'.2 5) && (Am.isLK 38 k37 (S'.2 6) && (Am.isLK 38 k37 (S'.2 10) || false)))))
      (br (!V.getBool (T.val (S'.1 8)) && !V.getBool (T.val (S'.1 9)))
      (K (V.tuple [V.agg (o37 (Am.locCells (S'.2 3))), V.int IntKind.i64 13]) S'.3)
      (br (V.getBool (T.val (S'.1 9)))
       (Am.Rec.call (Am.Run env) 49
       [V.agg
        (c37 (V.getInt (nthV (Am.locCells (S'.2 10)) 0)) (V.getInt (nthV (Am.locCells (S'.2 10)) 1))
         (V.getInt (nthV (Am.locCells (S'.2 10)) 2)) (V.getInt (nthV (Am.locCells (S'.2 10)) 3)) (V.getInt (nthV (Am.locCells (S'.2 10)) 4))
         (V.getInt (nthV (Am.locCells (S'.2 10)) 5)) (V.getInt (nthV (Am.locCells (S'.2 10)) 6)) (V.getInt (nthV (Am.locCells (S'.2 10)) 7))
         (V.getInt (nthV (Am.locCells (S'.2 10)) 8)) (V.getInt (nthV (Am.locCells (S'.2 10)) 9))
         (IntKind.wrap IntKind.u32 (V.getInt (nthV (Am.locCells (S'.2 10)) 10) + 1)) (V.getBool (nthV (Am.locCells (S'.2 10)) 11)))]
       S'.3 fun v H' ↦
       req (V.isAgg v && Am.fits k37 (V.aggCells v))
        (Am.Rec.call (Am.Run env) 48
        [V.agg (o37 (V.aggCells v)), V.int IntKind.i64 (V.getInt (T.val (S'.1 1))),
         V.int IntKind.u8 (V.getInt (nthV (Am.locCells (S'.2 5)) 6))]
        H' fun v H' ↦
        req (V.isAgg v && Am.fits k37 (V.aggCells v))
         (K (V.tuple [V.agg (o37 (V.aggCells v)), V.int IntKind.i64 0]) H')))
       (K
       (V.tuple
        [V.agg
         (c37 (V.getInt (nthV (Am.locCells (S'.2 10)) 0)) (V.getInt (nthV (Am.locCells (S'.2 10)) 1))
         (V.getInt (nthV (Am.locCells (S'.2 10)) 2)) (V.getInt (nthV (Am.locCells (S'.2 10)) 3)) (V.getInt (nthV (Am.locCells (S'.2 10)) 4))
         (V.getInt (nthV (Am.locCells (S'.2 10)) 5)) (V.getInt (nthV (Am.locCells (S'.2 10)) 6)) (V.getInt (nthV (Am.locCells (S'.2 10)) 7))
         (V.getInt (nthV (Am.locCells (S'.2 10)) 8)) (V.getInt (nthV (Am.locCells (S'.2 10)) 9))
         (IntKind.wrap IntKind.u32 (V.getInt (nthV (Am.locCells (S'.2 10)) 10) + 1)) (V.getBool (nthV (Am.locCells (S'.2 10)) 11))),
        V.int IntKind.i64 0])
       S'.3))))
     False))) :=
  fun x0_0 x0_1 x0_2 x0_3 x0_4 x0_5 x0_6 x0_7 x0_8 x0_9 x0_10 x0_11 x1 x2_0 x2_1 x2_2p x2_2n x2_2c x2_3 x2_4 x2_5 x2_6 x2_7 H K => (Run_call (E := env)).trans (by kernel_rfl)

theorem lp50_8 : ∀ (t1 : Int) (t8 t9 : Bool) (t48 t48' t48'' t48''' t48'''' t48''''' t48'''''' t48''''''' t49 l3 l3' l3'' l3''' l3'''' l3''''' l3'''''' l3''''''' l3'''''''' l3''''''''' l3'''''''''' : Int) (l3''''''''''' : Bool)
  (l5 l5' : Int) (l5''_0 : Option (Nat × Nat)) (l5''_1 l5''_2 : Nat) (l5''' : Bool) (l5'''' l5''''' l5'''''' : Int) (l5''''''' : Bool)
  (l6 l6' l6'' l6''' l6'''' l6''''' l6'''''' l6''''''' l6'''''''' l6''''''''' l6'''''''''' : Int) (l6''''''''''' : Bool)
  (l10 l10' l10'' l10''' l10'''' l10''''' l10'''''' l10''''''' l10'''''''' l10''''''''' l10'''''''''' : Int) (l10''''''''''' : Bool) (H : Am.Heap) (Kr : Am.St → Prop) (Ke : Nat → Am.St → Prop),
  Am.Rec.loop (Am.Run env) (Am.loopAt env 50 8) 50 8
   (St.mk
   (Am.look
    [(1, T.v (V.int IntKind.i64 t1)), (3, T.lp 3 0), (5, T.lp 5 0), (6, T.lp 6 0), (8, T.v (V.bool t8)), (9, T.v (V.bool t9)), (10, T.lp 10 0),
    (48, T.v (V.agg (c36 t48 t48' t48'' t48''' t48'''' t48''''' t48'''''' t48'''''''))), (49, T.v (V.int IntKind.i64 t49))])
   (Am.look
    [(3, Loc.cells 38 (c37 l3 l3' l3'' l3''' l3'''' l3''''' l3'''''' l3''''''' l3'''''''' l3''''''''' l3'''''''''' l3''''''''''')),
    (5, Loc.cells 33 (c32 l5 l5' l5''_0 l5''_1 l5''_2 l5''' l5'''' l5''''' l5'''''' l5''''''')),
    (6, Loc.cells 38 (c37 l6 l6' l6'' l6''' l6'''' l6''''' l6'''''' l6''''''' l6'''''''' l6''''''''' l6'''''''''' l6''''''''''')),
    (10, Loc.cells 38 (c37 l10 l10' l10'' l10''' l10'''' l10''''' l10'''''' l10''''''' l10'''''''' l10''''''''' l10'''''''''' l10'''''''''''))])
   H)
   Kr Ke =
  br (decide (t49 < 8))
   (req
   (decide (0 ≤ t49) && decide (t49 < 8) &&
    (Nat.ble (Nat.succ (Int.toNat t49 * 1)) 8 &&
    V.isK (Kind.int IntKind.u32) (nthV (c36 t48 t48' t48'' t48''' t48'''' t48''''' t48'''''' t48''''''') (Int.toNat t49 * 1))))
   (br
    (bif !decide (V.getInt (nthV (c36 t48 t48' t48'' t48''' t48'''' t48''''' t48'''''' t48''''''') (Int.toNat t49 * 1)) = 0) then
    bif !decide (t49 = t1) then
     !decide (V.getInt (nthV (c36 t48 t48' t48'' t48''' t48'''' t48''''' t48'''''' t48''''''') (Int.toNat t49 * 1)) = l5''''') && !decide (l5''''' = 0)
    else true
    else true)
    (Am.Rec.loop (Am.Run env) (Am.loopAt env 50 8) 50 8
    (St.mk
     (Am.look
     [(1, T.v (V.int IntKind.i64 t1)), (3, T.lp 3 0), (5, T.lp 5 0), (6, T.lp 6 0), (8, T.v (V.bool t8)), (9, T.v (V.bool t9)), (10, T.lp 10 0),
      (48, T.v (V.agg (c36 t48 t48' t48'' t48''' t48'''' t48''''' t48'''''' t48'''''''))),
      (49, T.v (V.int IntKind.i64 (IntKind.wrap IntKind.i64 (t49 + 1))))])
     (Am.look
     [(3, Loc.cells 38 (c37 l3 l3' l3'' l3''' l3'''' l3''''' l3'''''' l3''''''' l3'''''''' l3''''''''' l3'''''''''' l3''''''''''')),
      (5, Loc.cells 33 (c32 l5 l5' l5''_0 l5''_1 l5''_2 l5''' l5'''' l5''''' l5'''''' l5''''''')),
      (6, Loc.cells 38 (c37 l6 l6' l6'' l6''' l6'''' l6''''' l6'''''' l6''''''' l6'''''''' l6''''''''' l6'''''''''' l6''''''''''')),
      (10, Loc.cells 38 (c37 l10 l10' l10'' l10''' l10'''' l10''''' l10'''''' l10''''''' l10'''''''' l10''''''''' l10'''''''''' l10'''''''''''))])
     H)
    Kr Ke)
    (req (decide (0 ≤ t49) && decide (t49 < 8))
    (req
     (Nat.ble (0 + Int.toNat t49 * 1 + 1) 12 &&
     (V.isK (Kind.int IntKind.u8) (Am.condV (Nat.beq 8 (0 + Int.toNat t49 * 1)) (V.int IntKind.u32 0) (V.int IntKind.u8 l10'''''''')) &&
      (V.isK (Kind.int IntKind.i64) (Am.condV (Nat.beq 9 (0 + Int.toNat t49 * 1)) (V.int IntKind.u32 0) (V.int IntKind.i64 l10''''''''')) &&
      (V.isK Kind.bool (Am.condV (Nat.beq 11 (0 + Int.toNat t49 * 1)) (V.int IntKind.u32 0) (V.bool l10''''''''''')) && true))))
     (Am.Rec.loop (Am.Run env) (Am.loopAt env 50 8) 50 8
     (St.mk
      (Am.look
      [(1, T.v (V.int IntKind.i64 t1)), (3, T.lp 3 0), (5, T.lp 5 0), (6, T.lp 6 0), (8, T.v (V.bool true)),
       (9, T.v (V.bool (bif !t9 then decide (l3''''''''' = t49) else true))), (10, T.lp 10 0),
       (48, T.v (V.agg (c36 t48 t48' t48'' t48''' t48'''' t48''''' t48'''''' t48'''''''))),
       (49, T.v (V.int IntKind.i64 (IntKind.wrap IntKind.i64 (t49 + 1))))])
      (Am.look
      [(3, Loc.cells 38 (c37 l3 l3' l3'' l3''' l3'''' l3''''' l3'''''' l3''''''' l3'''''''' l3''''''''' l3'''''''''' l3''''''''''')),
       (5, Loc.cells 33 (c32 l5 l5' l5''_0 l5''_1 l5''_2 l5''' l5'''' l5''''' l5'''''' l5''''''')),
       (6, Loc.cells 38 (c37 l6 l6' l6'' l6''' l6'''' l6''''' l6'''''' l6''''''' l6'''''''' l6''''''''' l6'''''''''' l6''''''''''')),
       (10,
       Loc.cells 38
        (c37 (bif Nat.beq 0 (0 + Int.toNat t49 * 1) then 0 else l10) (bif Nat.beq 1 (0 + Int.toNat t49 * 1) then 0 else l10')
        (bif Nat.beq 2 (0 + Int.toNat t49 * 1) then 0 else l10'') (bif Nat.beq 3 (0 + Int.toNat t49 * 1) then 0 else l10''') (bif Nat.beq 4 (0 + Int.toNat t49 * 1) then 0 else l10'''')
        (bif Nat.beq 5 (0 + Int.toNat t49 * 1) then 0 else l10''''') (bif Nat.beq 6 (0 + Int.toNat t49 * 1) then 0 else l10'''''') (bif Nat.beq 7 (0 + Int.toNat t49 * 1) then 0 else l10''''''')
        (V.getInt (Am.condV (Nat.beq 8 (0 + Int.toNat t49 * 1)) (V.int IntKind.u32 0) (V.int IntKind.u8 l10'''''''')))
        (V.getInt (Am.condV (Nat.beq 9 (0 + Int.toNat t49 * 1)) (V.int IntKind.u32 0) (V.int IntKind.i64 l10''''''''')))
        (bif Nat.beq 10 (0 + Int.toNat t49 * 1) then 0 else l10'''''''''')
        (V.getBool (Am.condV (Nat.beq 11 (0 + Int.toNat t49 * 1)) (V.int IntKind.u32 0) (V.bool l10''''''''''')))))])
      H)
     Kr Ke)))))
   (Ke 0
   (St.mk
    (Am.look
    [(1, T.v (V.int IntKind.i64 t1)), (3, T.lp 3 0), (5, T.lp 5 0), (6, T.lp 6 0), (8, T.v (V.bool t8)), (9, T.v (V.bool t9)), (10, T.lp 10 0)])
    (Am.look
    [(3, Loc.cells 38 (c37 l3 l3' l3'' l3''' l3'''' l3''''' l3'''''' l3''''''' l3'''''''' l3''''''''' l3'''''''''' l3''''''''''')),
     (5, Loc.cells 33 (c32 l5 l5' l5''_0 l5''_1 l5''_2 l5''' l5'''' l5''''' l5'''''' l5''''''')),
     (6, Loc.cells 38 (c37 l6 l6' l6'' l6''' l6'''' l6''''' l6'''''' l6''''''' l6'''''''' l6''''''''' l6'''''''''' l6''''''''''')),
     (10, Loc.cells 38 (c37 l10 l10' l10'' l10''' l10'''' l10''''' l10'''''' l10''''''' l10'''''''' l10''''''''' l10'''''''''' l10'''''''''''))])
    H)) :=
  fun t1 t8 t9 t48 t48' t48'' t48''' t48'''' t48''''' t48'''''' t48''''''' t49 l3 l3' l3'' l3''' l3'''' l3''''' l3'''''' l3''''''' l3'''''''' l3''''''''' l3'''''''''' l3''''''''''' l5 l5' l5''_0 l5''_1 l5''_2 l5''' l5'''' l5''''' l5'''''' l5''''''' l6 l6' l6'' l6''' l6'''' l6''''' l6'''''' l6''''''' l6'''''''' l6''''''''' l6'''''''''' l6''''''''''' l10 l10' l10'' l10''' l10'''' l10''''' l10'''''' l10''''''' l10'''''''' l10''''''''' l10'''''''''' l10''''''''''' H Kr Ke => (Run_loop (E := env)).trans (by kernel_rfl)

theorem eq51 : ∀ (x0 : Option (Nat × Nat)) (x1 : Int) (H : Am.Heap) (K : Am.V → Am.Heap → Prop),
  Am.Rec.call (Am.Run env) 51 [V.ptr x0, V.int IntKind.i64 x1] H K =
  req (Option.isSome x0)
   (req (Am.Heap.inb H (Option.getD x0 (0, 0)).1 (Option.getD x0 (0, 0)).2 1 && V.isK Kind.slice (Am.Heap.cell H (Option.getD x0 (0, 0)).1 (Option.getD x0 (0, 0)).2))
   (Am.Rec.call (Am.Run env) 64
    [V.slice (V.slPtr (Am.Heap.cell H (Option.getD x0 (0, 0)).1 (Option.getD x0 (0, 0)).2)) (V.slLen (Am.Heap.cell H (Option.getD x0 (0, 0)).1 (Option.getD x0 (0, 0)).2))
     (V.slCap (Am.Heap.cell H (Option.getD x0 (0, 0)).1 (Option.getD x0 (0, 0)).2)),
    V.int IntKind.i64 x1, V.func 65 []]
    H fun v H' ↦
    req (V.isTuple 2 v && (V.isK (Kind.int IntKind.i64) (nthV (V.vals v) 0) && (V.isK Kind.bool (nthV (V.vals v) 1) || false)))
    (K (V.tuple [V.int IntKind.i64 (V.getInt (nthV (V.vals v) 0)), V.bool (V.getBool (nthV (V.vals v) 1))]) H'))) :=
  fun x0 x1 H K => (Run_call (E := env)).trans (by kernel_rfl)

theorem eq52 : ∀ (x0_0 x0_1 x0_2 x0_3 x0_4 x0_5 x0_6 x0_7 x0_8 x0_9 x0_10 : Int) (x0_11 : Bool) (x1 : Int) (x2 : Bool) (H : Am.Heap) (K : Am.V → Am.Heap → Prop),
  Am.Rec.call (Am.Run env) 52 [V.agg (c37 x0_0 x0_1 x0_2 x0_3 x0_4 x0_5 x0_6 x0_7 x0_8 x0_9 x0_10 x0_11), V.int IntKind.i64 x1, V.bool x2]
   H K =
  br (bif !decide (x1 < 0) then decide (x1 > 7) else true) (K (V.bool false) H)
   (Am.joinP
   (fun Q ↦
    br (!decide (x0_8 = 0))
    (Am.Rec.call (Am.Run env) 58 [V.agg (c37 x0_0 x0_1 x0_2 x0_3 x0_4 x0_5 x0_6 x0_7 x0_8 x0_9 x0_10 x0_11), V.int IntKind.i64 x1] H
     fun v H' ↦ req (V.isK Kind.bool v) (Q (St.mk (Am.look [(21, T.v (V.bool (V.getBool v)))]) (Am.look []) H')))
    (Q (St.mk (Am.look [(21, T.v (V.bool true))]) (Am.look []) H)))
   fun S' ↦
   req (Am.isKT (KT.k Kind.bool) (S'.1 21) || false || false)
    (br (V.getBool (T.val (S'.1 21))) (K (V.bool true) S'.3)
    (req (decide (0 ≤ x1) && decide (x1 < 8))
     (req
     (Nat.ble (Nat.succ (0 + Int.toNat x1 * 1)) 12 &&
      V.isK (Kind.int IntKind.u32) (nthV (c37 x0_0 x0_1 x0_2 x0_3 x0_4 x0_5 x0_6 x0_7 x0_8 x0_9 x0_10 x0_11) (0 + Int.toNat x1 * 1)))
     (br (decide (x0_8 = 1)) (K (V.bool !x2) S'.3)
      (Am.joinP
      (fun Q ↦
       br (decide (x0_8 = 5)) (Q (St.mk (Am.look [(33, T.v (V.bool (decide (x0_8 = 5))))]) (Am.look []) S'.3))
       (Q (St.mk (Am.look [(33, T.v (V.bool (decide (x0_8 = 7))))]) (Am.look []) S'.3)))
      fun S' ↦
      req (Am.isKT (KT.k Kind.bool) (S'.1 33) || false || false)
       (br (V.getBool (T.val (S'.1 33)))
       (K
        (V.bool
        (bif !!x2 then !decide (V.getInt (nthV (c37 x0_0 x0_1 x0_2 x0_3 x0_4 x0_5 x0_6 x0_7 x0_8 x0_9 x0_10 x0_11) (0 + Int.toNat x1 * 1)) = 0)
        else true))
        S'.3)
       (br (decide (x0_8 = 6))
        (br (decide (x0_8 = 6))
        (K (V.bool !decide (V.getInt (nthV (c37 x0_0 x0_1 x0_2 x0_3 x0_4 x0_5 x0_6 x0_7 x0_8 x0_9 x0_10 x0_11) (0 + Int.toNat x1 * 1)) = 0))
         S'.3)
        (K (V.bool false) S'.3))
        (br (decide (x0_8 = 8))
        (K (V.bool !decide (V.getInt (nthV (c37 x0_0 x0_1 x0_2 x0_3 x0_4 x0_5 x0_6 x0_7 x0_8 x0_9 x0_10 x0_11) (0 + Int.toNat x1 * 1)) = 0))
         S'.3)
        (K (V.bool false) S'.3)))))))))) :=
  fun x0_0 x0_1 x0_2 x0_3 x0_4 x0_5 x0_6 x0_7 x0_8 x0_9 x0_10 x0_11 x1 x2 H K => (Run_call (E := env)).trans (by kernel_rfl)

theorem eq54 : ∀ (x0 : Int) (H : Am.Heap) (K : Am.V → Am.Heap → Prop),
  Am.Rec.call (Am.Run env) 54 [V.int IntKind.u8 x0] H K =
  K (V.bool (bif !decide (x0 = 1) then bif !decide (x0 = 3) then decide (x0 ≥ 5) && decide (x0 ≤ 8) else true else true)) H :=
  fun x0 H K => (Run_call (E := env)).trans (by kernel_rfl)

theorem eq55 : ∀ (x0_0 x0_1 x0_2 x0_3 x0_4 x0_5 x0_6 x0_7 x0_8 x0_9 x0_10 : Int) (x0_11 : Bool) (H : Am.Heap) (K : Am.V → Am.Heap → Prop),
  Am.Rec.call (Am.Run env) 55 [V.agg (c37 x0_0 x0_1 x0_2 x0_3 x0_4 x0_5 x0_6 x0_7 x0_8 x0_9 x0_10 x0_11)] H K =
  Am.Rec.loop (Am.Run env) (Am.loopAt env 55 2) 55 2
   (St.mk (Am.look [(1, T.lp 1 0), (3, T.v (V.int IntKind.i64 0))])
   (Am.look [(1, Loc.cells 38 (c37 x0_0 x0_1 x0_2 x0_3 x0_4 x0_5 x0_6 x0_7 x0_8 x0_9 x0_10 x0_11))]) H)
   (fun S' ↦ req (Am.isKT (KT.k Kind.bool) (S'.1 2) || false || false) (K (V.bool (V.getBool (T.val (S'.1 2)))) S'.3)) fun j S' ↦
   br (Nat.beq j 0) (K (V.bool false) S'.3) False :=
  fun x0_0 x0_1 x0_2 x0_3 x0_4 x0_5 x0_6 x0_7 x0_8 x0_9 x0_10 x0_11 H K => (Run_call (E := env)).trans (by kernel_rfl)

theorem lp55_2 : ∀ (t3 l1 l1' l1'' l1''' l1'''' l1''''' l1'''''' l1''''''' l1'''''''' l1''''''''' l1'''''''''' : Int) (l1''''''''''' : Bool) (H : Am.Heap) (Kr : Am.St → Prop) (Ke : Nat → Am.St → Prop),
  Am.Rec.loop (Am.Run env) (Am.loopAt env 55 2) 55 2
   (St.mk (Am.look [(1, T.lp 1 0), (3, T.v (V.int IntKind.i64 t3))])
   (Am.look [(1, Loc.cells 38 (c37 l1 l1' l1'' l1''' l1'''' l1''''' l1'''''' l1''''''' l1'''''''' l1''''''''' l1'''''''''' l1'''''''''''))]) H)
   Kr Ke =
  br (decide (t3 < 8))
   (req (decide (0 ≤ t3) && decide (t3 < 8))
   (req
    (Nat.ble (Nat.succ (0 + Int.toNat t3 * 1)) 12 &&
    V.isK (Kind.int IntKind.u32)
     (nthV (c37 l1 l1' l1'' l1''' l1'''' l1''''' l1'''''' l1''''''' l1'''''''' l1''''''''' l1'''''''''' l1''''''''''') (0 + Int.toNat t3 * 1)))
    (br
    (!decide
     (V.getInt (nthV (c37 l1 l1' l1'' l1''' l1'''' l1''''' l1'''''' l1''''''' l1'''''''' l1''''''''' l1'''''''''' l1''''''''''') (0 + Int.toNat t3 * 1)) = 0))
    (Kr (St.mk (Am.look [(2, T.v (V.bool true))]) (Am.look []) H))
    (Am.Rec.loop (Am.Run env) (Am.loopAt env 55 2) 55 2
     (St.mk (Am.look [(1, T.lp 1 0), (3, T.v (V.int IntKind.i64 (IntKind.wrap IntKind.i64 (t3 + 1))))])
     (Am.look [(1, Loc.cells 38 (c37 l1 l1' l1'' l1''' l1'''' l1''''' l1'''''' l1''''''' l1'''''''' l1''''''''' l1'''''''''' l1'''''''''''))]) H)
     Kr Ke))))
   (Ke 0 (St.mk (Am.look []) (Am.look []) H)) :=
  fun t3 l1 l1' l1'' l1''' l1'''' l1''''' l1'''''' l1''''''' l1'''''''' l1''''''''' l1'''''''''' l1''''''''''' H Kr Ke => (Run_loop (E := env)).trans (by kernel_rfl)

theorem eq56 : ∀ (x0_0 x0_1 x0_2 x0_3 x0_4 x0_5 x0_6 x0_7 x0_8 x0_9 x0_10 : Int) (x0_11 : Bool) (H : Am.Heap) (K : Am.V → Am.Heap → Prop),
  Am.Rec.call (Am.Run env) 56 [V.agg (c37 x0_0 x0_1 x0_2 x0_3 x0_4 x0_5 x0_6 x0_7 x0_8 x0_9 x0_10 x0_11)] H K =
  K (V.agg (c37 x0_0 x0_1 x0_2 x0_3 x0_4 x0_5 x0_6 x0_7 0 (-1) x0_10 x0_11)) H :=
  fun x0_0 x0_1 x0_2 x0_3 x0_4 x0_5 x0_6 x0_7 x0_8 x0_9 x0_10 x0_11 H K => (Run_call (E := env)).trans (by kernel_rfl)

theorem eq57 : ∀ (x0_0 x0_1 x0_2 x0_3 x0_4 x0_5 x0_6 x0_7 x0_8 x0_9 x0_10 : Int) (x0_11 : Bool) (x1 x2 : Int) (H : Am.Heap) (K : Am.V → Am.Heap → Prop),
  Am.Rec.call (Am.Run env) 57
   [V.agg (c37 x0_0 x0_1 x0_2 x0_3 x0_4 x0_5 x0_6 x0_7 x0_8 x0_9 x0_10 x0_11), V.int IntKind.i64 x1, V.int IntKind.u8 x2] H K =
  br (bif !decide (x2 = 7) then decide (x2 = 8) else true) (K (V.agg (c37 x0_0 x0_1 x0_2 x0_3 x0_4 x0_5 x0_6 x0_7 x2 (-1) x0_10 x0_11)) H)
   (K (V.agg (c37 x0_0 x0_1 x0_2 x0_3 x0_4 x0_5 x0_6 x0_7 x2 x1 x0_10 x0_11)) H) :=
  fun x0_0 x0_1 x0_2 x0_3 x0_4 x0_5 x0_6 x0_7 x0_8 x0_9 x0_10 x0_11 x1 x2 H K => (Run_call (E := env)).trans (by kernel_rfl)

theorem eq58 : ∀ (x0_0 x0_1 x0_2 x0_3 x0_4 x0_5 x0_6 x0_7 x0_8 x0_9 x0_10 : Int) (x0_11 : Bool) (x1 : Int) (H : Am.Heap) (K : Am.V → Am.Heap → Prop),
  Am.Rec.call (Am.Run env) 58 [V.agg (c37 x0_0 x0_1 x0_2 x0_3 x0_4 x0_5 x0_6 x0_7 x0_8 x0_9 x0_10 x0_11), V.int IntKind.i64 x1] H K =
  br (bif !decide (x1 < 0) then decide (x1 > 7) else true) (K (V.bool false) H)
   (br (decide (x0_8 = 0)) (K (V.bool false) H)
   (Am.joinP
    (fun Q ↦
    br (decide (x0_8 = 7)) (Q (St.mk (Am.look [(15, T.v (V.bool (decide (x0_8 = 7))))]) (Am.look []) H))
     (Q (St.mk (Am.look [(15, T.v (V.bool (decide (x0_8 = 8))))]) (Am.look []) H)))
    fun S' ↦
    req (Am.isKT (KT.k Kind.bool) (S'.1 15) || false || false)
    (br (V.getBool (T.val (S'.1 15)))
     (req (decide (0 ≤ x1) && decide (x1 < 8))
     (req
      (Nat.ble (Nat.succ (0 + Int.toNat x1 * 1)) 12 &&
      V.isK (Kind.int IntKind.u32) (nthV (c37 x0_0 x0_1 x0_2 x0_3 x0_4 x0_5 x0_6 x0_7 x0_8 x0_9 x0_10 x0_11) (0 + Int.toNat x1 * 1)))
      (K (V.bool !decide (V.getInt (nthV (c37 x0_0 x0_1 x0_2 x0_3 x0_4 x0_5 x0_6 x0_7 x0_8 x0_9 x0_10 x0_11) (0 + Int.toNat x1 * 1)) = 0)) S'.3)))
     (K (V.bool (decide (x0_9 = x1))) S'.3)))) :=
  fun x0_0 x0_1 x0_2 x0_3 x0_4 x0_5 x0_6 x0_7 x0_8 x0_9 x0_10 x0_11 x1 H K => (Run_call (E := env)).trans (by kernel_rfl)

theorem eq59 : ∀ (x0p : Option (Nat × Nat)) (x0n x0c : Nat) (x1 x2 : Int) (H : Am.Heap) (K : Am.V → Am.Heap → Prop),
  Am.Rec.call (Am.Run env) 59 [V.slice x0p x0n x0c, V.int IntKind.i64 x1, V.int IntKind.i64 x2] H K =
  req
   (decide (0 ≤ (↑x0n : Int)) && decide ((↑x0n : Int) ≤ (↑x0c : Int)) && (decide (0 ≤ x2) && decide (x2 ≤ (↑x0n : Int))) &&
    (decide (0 ≤ x1) && decide (x1 ≤ (↑(Int.toNat x2) : Int))) &&
   Nat.ble (Int.toNat x2) x0n)
   (br (decide (x1 = x2)) (K (V.slice x0p x0n x0c) H)
   (req ((decide (0 ≤ x1) && decide (x1 ≤ (↑x0c : Int)) || false) && Nat.ble (Int.toNat x1) x0c)
    (req (decide (0 ≤ x2) && decide (x2 ≤ (↑x0n : Int)) && Nat.ble x0n x0c)
    (Am.appendOp env [65, 65]
     [V.slice (Am.ptrAdd x0p 0) (Int.toNat x1 - 0) (x0c - 0), V.slice (Am.ptrAdd x0p (Int.toNat x2 * 3)) (x0n - Int.toNat x2) (x0c - Int.toNat x2)] H fun q n c H' ↦
     req (decide (0 ≤ (↑x0n : Int)) && decide ((↑x0n : Int) ≤ (↑c : Int)) && (decide (0 ≤ (↑n : Int)) && decide ((↑n : Int) ≤ (↑x0n : Int))) && Nat.ble x0n c)
     (req
      (Option.isNone (Am.ptrAdd q (n * 3)) || Nat.beq (x0n - n) 0 || Am.Heap.wr H' (Option.getD (Am.ptrAdd q (n * 3)) (0, 0)).1 (Option.getD (Am.ptrAdd q (n * 3)) (0, 0)).2 ((x0n - n) * 3))
      (K (V.slice q n c)
      (bif Option.isNone (Am.ptrAdd q (n * 3)) || Nat.beq (x0n - n) 0 then H'
      else
       Am.Heap.store H' (Option.getD (Am.ptrAdd q (n * 3)) (0, 0)).1 (Option.getD (Am.ptrAdd q (n * 3)) (0, 0)).2
       (Am.rowV (x0n - n) (c72 0 Option.none 0 0 false))))))))) :=
  fun x0p x0n x0c x1 x2 H K => (Run_call (E := env)).trans (by kernel_rfl)

theorem eq60 : ∀ (x0p : Option (Nat × Nat)) (x0n x0c : Nat) (x1 : Int) (x2p : Option (Nat × Nat)) (x2n x2c : Nat) (H : Am.Heap) (K : Am.V → Am.Heap → Prop),
  Am.Rec.call (Am.Run env) 60 [V.slice x0p x0n x0c, V.int IntKind.i64 x1, V.slice x2p x2n x2c] H K =
  req (decide (0 ≤ x1) && decide (x1 ≤ (↑x0n : Int)) && Nat.ble x0n x0c)
   (br (decide ((↑x2n : Int) = 0)) (K (V.slice x0p x0n x0c) H)
   (br (decide (x1 = (↑x0n : Int))) (Am.appendOp env [65, 65] [V.slice x0p x0n x0c, V.slice x2p x2n x2c] H fun q n c H' ↦ K (V.slice q n c) H')
    (br (decide (IntKind.wrap IntKind.i64 ((↑x0n : Int) + (↑x2n : Int)) > (↑x0c : Int)))
    (req ((decide (0 ≤ x1) && decide (x1 ≤ (↑x0c : Int)) || false) && Nat.ble (Int.toNat x1) x0c)
     (Am.appendOp env [65, 3]
     [V.slice (Am.ptrAdd x0p 0) (Int.toNat x1 - 0) (x0c - 0), V.int IntKind.i64 (IntKind.wrap IntKind.i64 (IntKind.wrap IntKind.i64 ((↑x0n : Int) + (↑x2n : Int)) - x1))] H
     fun q n c H' ↦
     req (decide (0 ≤ x1) && decide (x1 ≤ (↑n : Int)) && Nat.ble n c)
      (req (Am.copyOk H' 3 (Am.ptrAdd q (Int.toNat x1 * 3)) (n - Int.toNat x1) (V.slice x2p x2n x2c))
      (req (decide (0 ≤ IntKind.wrap IntKind.i64 (x1 + (↑x2n : Int))) && decide (IntKind.wrap IntKind.i64 (x1 + (↑x2n : Int)) ≤ (↑n : Int)) && Nat.ble n c)
       (req (decide (0 ≤ x1) && decide (x1 ≤ (↑x0n : Int)) && Nat.ble x0n x0c)
       (req
        (Am.copyOk (Am.copyTo H' 3 (Am.ptrAdd q (Int.toNat x1 * 3)) (n - Int.toNat x1) (V.slice x2p x2n x2c)) 3
        (Am.ptrAdd q (Int.toNat (IntKind.wrap IntKind.i64 (x1 + (↑x2n : Int))) * 3)) (n - Int.toNat (IntKind.wrap IntKind.i64 (x1 + (↑x2n : Int))))
        (V.slice (Am.ptrAdd x0p (Int.toNat x1 * 3)) (x0n - Int.toNat x1) (x0c - Int.toNat x1)))
        (K (V.slice q n c)
        (Am.copyTo (Am.copyTo H' 3 (Am.ptrAdd q (Int.toNat x1 * 3)) (n - Int.toNat x1) (V.slice x2p x2n x2c)) 3
         (Am.ptrAdd q (Int.toNat (IntKind.wrap IntKind.i64 (x1 + (↑x2n : Int))) * 3)) (n - Int.toNat (IntKind.wrap IntKind.i64 (x1 + (↑x2n : Int))))
         (V.slice (Am.ptrAdd x0p (Int.toNat x1 * 3)) (x0n - Int.toNat x1) (x0c - Int.toNat x1))))))))))
    (req
     ((decide (0 ≤ IntKind.wrap IntKind.i64 ((↑x0n : Int) + (↑x2n : Int))) && decide (IntKind.wrap IntKind.i64 ((↑x0n : Int) + (↑x2n : Int)) ≤ (↑x0c : Int)) || false) &&
     Nat.ble (Int.toNat (IntKind.wrap IntKind.i64 ((↑x0n : Int) + (↑x2n : Int)))) x0c)
     (req
     (decide (0 ≤ IntKind.wrap IntKind.i64 (x1 + (↑x2n : Int))) &&
      decide (IntKind.wrap IntKind.i64 (x1 + (↑x2n : Int)) ≤ (↑(Int.toNat (IntKind.wrap IntKind.i64 ((↑x0n : Int) + (↑x2n : Int))) - 0) : Int)) &&
      Nat.ble (Int.toNat (IntKind.wrap IntKind.i64 ((↑x0n : Int) + (↑x2n : Int))) - 0) (x0c - 0))
     (Am.extCall env 66
      [V.slice x2p x2n x2c,
      V.slice (Am.ptrAdd (Am.ptrAdd x0p 0) (Int.toNat (IntKind.wrap IntKind.i64 (x1 + (↑x2n : Int))) * 3))
       (Int.toNat (IntKind.wrap IntKind.i64 ((↑x0n : Int) + (↑x2n : Int))) - 0 - Int.toNat (IntKind.wrap IntKind.i64 (x1 + (↑x2n : Int))))
       (x0c - 0 - Int.toNat (IntKind.wrap IntKind.i64 (x1 + (↑x2n : Int))))]
      H fun v H' ↦
      req (V.isK Kind.bool v)
      (br (!V.getBool v)
       (req
       (decide (0 ≤ IntKind.wrap IntKind.i64 (x1 + (↑x2n : Int))) &&
        decide (IntKind.wrap IntKind.i64 (x1 + (↑x2n : Int)) ≤ (↑(Int.toNat (IntKind.wrap IntKind.i64 ((↑x0n : Int) + (↑x2n : Int))) - 0) : Int)) &&
        Nat.ble (Int.toNat (IntKind.wrap IntKind.i64 ((↑x0n : Int) + (↑x2n : Int))) - 0) (x0c - 0))
       (req
        (decide (0 ≤ x1) && decide (x1 ≤ (↑(Int.toNat (IntKind.wrap IntKind.i64 ((↑x0n : Int) + (↑x2n : Int))) - 0) : Int)) &&
        Nat.ble (Int.toNat (IntKind.wrap IntKind.i64 ((↑x0n : Int) + (↑x2n : Int))) - 0) (x0c - 0))
        (req
        (Am.copyOk H' 3 (Am.ptrAdd (Am.ptrAdd x0p 0) (Int.toNat (IntKind.wrap IntKind.i64 (x1 + (↑x2n : Int))) * 3))
         (Int.toNat (IntKind.wrap IntKind.i64 ((↑x0n : Int) + (↑x2n : Int))) - 0 - Int.toNat (IntKind.wrap IntKind.i64 (x1 + (↑x2n : Int))))
         (V.slice (Am.ptrAdd (Am.ptrAdd x0p 0) (Int.toNat x1 * 3)) (Int.toNat (IntKind.wrap IntKind.i64 ((↑x0n : Int) + (↑x2n : Int))) - 0 - Int.toNat x1) (x0c - 0 - Int.toNat x1)))
        (req
         (decide (0 ≤ x1) && decide (x1 ≤ (↑(Int.toNat (IntKind.wrap IntKind.i64 ((↑x0n : Int) + (↑x2n : Int))) - 0) : Int)) &&
         Nat.ble (Int.toNat (IntKind.wrap IntKind.i64 ((↑x0n : Int) + (↑x2n : Int))) - 0) (x0c - 0))
         (req
         (Am.copyOk
          (Am.copyTo H' 3 (Am.ptrAdd (Am.ptrAdd x0p 0) (Int.toNat (IntKind.wrap IntKind.i64 (x1 + (↑x2n : Int))) * 3))
          (Int.toNat (IntKind.wrap IntKind.i64 ((↑x0n : Int) + (↑x2n : Int))) - 0 - Int.toNat (IntKind.wrap IntKind.i64 (x1 + (↑x2n : Int))))
          (V.slice (Am.ptrAdd (Am.ptrAdd x0p 0) (Int.toNat x1 * 3)) (Int.toNat (IntKind.wrap IntKind.i64 ((↑x0n : Int) + (↑x2n : Int))) - 0 - Int.toNat x1)
           (x0c - 0 - Int.toNat x1)))
          3 (Am.ptrAdd (Am.ptrAdd x0p 0) (Int.toNat x1 * 3)) (Int.toNat (IntKind.wrap IntKind.i64 ((↑x0n : Int) + (↑x2n : Int))) - 0 - Int.toNat x1) (V.slice x2p x2n x2c))
         (K (V.slice (Am.ptrAdd x0p 0) (Int.toNat (IntKind.wrap IntKind.i64 ((↑x0n : Int) + (↑x2n : Int))) - 0) (x0c - 0))
          (Am.copyTo
          (Am.copyTo H' 3 (Am.ptrAdd (Am.ptrAdd x0p 0) (Int.toNat (IntKind.wrap IntKind.i64 (x1 + (↑x2n : Int))) * 3))
           (Int.toNat (IntKind.wrap IntKind.i64 ((↑x0n : Int) + (↑x2n : Int))) - 0 - Int.toNat (IntKind.wrap IntKind.i64 (x1 + (↑x2n : Int))))
           (V.slice (Am.ptrAdd (Am.ptrAdd x0p 0) (Int.toNat x1 * 3)) (Int.toNat (IntKind.wrap IntKind.i64 ((↑x0n : Int) + (↑x2n : Int))) - 0 - Int.toNat x1)
           (x0c - 0 - Int.toNat x1)))
          3 (Am.ptrAdd (Am.ptrAdd x0p 0) (Int.toNat x1 * 3)) (Int.toNat (IntKind.wrap IntKind.i64 ((↑x0n : Int) + (↑x2n : Int))) - 0 - Int.toNat x1)
          (V.slice x2p x2n x2c))))))))
       (req
       (decide (0 ≤ (↑x0n : Int)) && decide ((↑x0n : Int) ≤ (↑(Int.toNat (IntKind.wrap IntKind.i64 ((↑x0n : Int) + (↑x2n : Int))) - 0) : Int)) &&
        Nat.ble (Int.toNat (IntKind.wrap IntKind.i64 ((↑x0n : Int) + (↑x2n : Int))) - 0) (x0c - 0))
       (req (Am.copyOk H' 3 (Am.ptrAdd (Am.ptrAdd x0p 0) (x0n * 3)) (Int.toNat (IntKind.wrap IntKind.i64 ((↑x0n : Int) + (↑x2n : Int))) - 0 - x0n) (V.slice x2p x2n x2c))
        (req
        (decide (0 ≤ x1) && decide (x1 ≤ (↑(Int.toNat (IntKind.wrap IntKind.i64 ((↑x0n : Int) + (↑x2n : Int))) - 0) : Int)) &&
         Nat.ble (Int.toNat (IntKind.wrap IntKind.i64 ((↑x0n : Int) + (↑x2n : Int))) - 0) (x0c - 0))
        (Am.Rec.call (Am.Run env) 67
         [V.slice (Am.ptrAdd (Am.ptrAdd x0p 0) (Int.toNat x1 * 3)) (Int.toNat (IntKind.wrap IntKind.i64 ((↑x0n : Int) + (↑x2n : Int))) - 0 - Int.toNat x1) (x0c - 0 - Int.toNat x1),
         V.int IntKind.i64 (↑x2n : Int)]
         (Am.copyTo H' 3 (Am.ptrAdd (Am.ptrAdd x0p 0) (x0n * 3)) (Int.toNat (IntKind.wrap IntKind.i64 ((↑x0n : Int) + (↑x2n : Int))) - 0 - x0n) (V.slice x2p x2n x2c)) fun v H' ↦
         K (V.slice (Am.ptrAdd x0p 0) (Int.toNat (IntKind.wrap IntKind.i64 ((↑x0n : Int) + (↑x2n : Int))) - 0) (x0c - 0)) H'))))))))))) :=
  fun x0p x0n x0c x1 x2p x2n x2c H K => (Run_call (E := env)).trans (by kernel_rfl)

theorem eq61 : ∀ (H : Am.Heap) (K : Am.V → Am.Heap → Prop), Am.Rec.call (Am.Run env) 61 [] H K = K (V.agg (c100 1 3 5 6 7 8)) H :=
  fun H K => (Run_call (E := env)).trans (by kernel_rfl)

theorem eq62 : ∀ (x0_0 x0_1 x0_2 x0_3 x0_4 x0_5 x0_6 x0_7 x0_8 x0_9 x0_10 : Int) (x0_11 : Bool) (x1 : Int) (H : Am.Heap) (K : Am.V → Am.Heap → Prop),
  Am.Rec.call (Am.Run env) 62 [V.agg (c37 x0_0 x0_1 x0_2 x0_3 x0_4 x0_5 x0_6 x0_7 x0_8 x0_9 x0_10 x0_11), V.int IntKind.i64 x1] H K =
  req (decide (0 ≤ x1) && decide (x1 < 8))
   (req
   (Nat.ble (0 + Int.toNat x1 * 1 + 1) 12 &&
    (V.isK (Kind.int IntKind.u8) (Am.condV (Nat.beq 8 (0 + Int.toNat x1 * 1)) (V.int IntKind.u32 0) (V.int IntKind.u8 x0_8)) &&
    (V.isK (Kind.int IntKind.i64) (Am.condV (Nat.beq 9 (0 + Int.toNat x1 * 1)) (V.int IntKind.u32 0) (V.int IntKind.i64 x0_9)) &&
     (V.isK Kind.bool (Am.condV (Nat.beq 11 (0 + Int.toNat x1 * 1)) (V.int IntKind.u32 0) (V.bool x0_11)) && true))))
   (br
    (bif !decide (V.getInt (Am.condV (Nat.beq 9 (0 + Int.toNat x1 * 1)) (V.int IntKind.u32 0) (V.int IntKind.i64 x0_9)) = x1) then
    Am.cellsEq
     (c36 (bif Nat.beq 0 (0 + Int.toNat x1 * 1) then 0 else x0_0) (bif Nat.beq 1 (0 + Int.toNat x1 * 1) then 0 else x0_1) (bif Nat.beq 2 (0 + Int.toNat x1 * 1) then 0 else x0_2)
     (bif Nat.beq 3 (0 + Int.toNat x1 * 1) then 0 else x0_3) (bif Nat.beq 4 (0 + Int.toNat x1 * 1) then 0 else x0_4) (bif Nat.beq 5 (0 + Int.toNat x1 * 1) then 0 else x0_5)
     (bif Nat.beq 6 (0 + Int.toNat x1 * 1) then 0 else x0_6) (bif Nat.beq 7 (0 + Int.toNat x1 * 1) then 0 else x0_7))
     (c36 0 0 0 0 0 0 0 0)
    else true)
    (Am.Rec.call (Am.Run env) 49
    [V.agg
     (c37 (bif Nat.beq 0 (0 + Int.toNat x1 * 1) then 0 else x0_0) (bif Nat.beq 1 (0 + Int.toNat x1 * 1) then 0 else x0_1) (bif Nat.beq 2 (0 + Int.toNat x1 * 1) then 0 else x0_2)
      (bif Nat.beq 3 (0 + Int.toNat x1 * 1) then 0 else x0_3) (bif Nat.beq 4 (0 + Int.toNat x1 * 1) then 0 else x0_4) (bif Nat.beq 5 (0 + Int.toNat x1 * 1) then 0 else x0_5)
      (bif Nat.beq 6 (0 + Int.toNat x1 * 1) then 0 else x0_6) (bif Nat.beq 7 (0 + Int.toNat x1 * 1) then 0 else x0_7)
      (V.getInt (Am.condV (Nat.beq 8 (0 + Int.toNat x1 * 1)) (V.int IntKind.u32 0) (V.int IntKind.u8 x0_8)))
      (V.getInt (Am.condV (Nat.beq 9 (0 + Int.toNat x1 * 1)) (V.int IntKind.u32 0) (V.int IntKind.i64 x0_9))) (bif Nat.beq 10 (0 + Int.toNat x1 * 1) then 0 else x0_10)
      (V.getBool (Am.condV (Nat.beq 11 (0 + Int.toNat x1 * 1)) (V.int IntKind.u32 0) (V.bool x0_11))))]
    H fun v H' ↦ req (V.isAgg v && Am.fits k37 (V.aggCells v)) (K (V.agg (o37 (V.aggCells v))) H'))
    (K
    (V.agg
     (c37 (bif Nat.beq 0 (0 + Int.toNat x1 * 1) then 0 else x0_0) (bif Nat.beq 1 (0 + Int.toNat x1 * 1) then 0 else x0_1) (bif Nat.beq 2 (0 + Int.toNat x1 * 1) then 0 else x0_2)
     (bif Nat.beq 3 (0 + Int.toNat x1 * 1) then 0 else x0_3) (bif Nat.beq 4 (0 + Int.toNat x1 * 1) then 0 else x0_4) (bif Nat.beq 5 (0 + Int.toNat x1 * 1) then 0 else x0_5)
     (bif Nat.beq 6 (0 + Int.toNat x1 * 1) then 0 else x0_6) (bif Nat.beq 7 (0 + Int.toNat x1 * 1) then 0 else x0_7)
     (V.getInt (Am.condV (Nat.beq 8 (0 + Int.toNat x1 * 1)) (V.int IntKind.u32 0) (V.int IntKind.u8 x0_8)))
     (V.getInt (Am.condV (Nat.beq 9 (0 + Int.toNat x1 * 1)) (V.int IntKind.u32 0) (V.int IntKind.i64 x0_9))) (bif Nat.beq 10 (0 + Int.toNat x1 * 1) then 0 else x0_10)
     (V.getBool (Am.condV (Nat.beq 11 (0 + Int.toNat x1 * 1)) (V.int IntKind.u32 0) (V.bool x0_11)))))
    H))) :=
  fun x0_0 x0_1 x0_2 x0_3 x0_4 x0_5 x0_6 x0_7 x0_8 x0_9 x0_10 x0_11 x1 H K => (Run_call (E := env)).trans (by kernel_rfl)

theorem eq63 : ∀ (x0 : Int) (H : Am.Heap) (K : Am.V → Am.Heap → Prop),
  Am.Rec.call (Am.Run env) 63 [V.int IntKind.u8 x0] H K = K (V.bool (bif !decide (x0 = 7) then decide (x0 = 8) else true)) H :=
  fun x0 H K => (Run_call (E := env)).trans (by kernel_rfl)

theorem eq64 : ∀ (x0p : Option (Nat × Nat)) (x0n x0c : Nat) (x1 : Int) (x2 : Am.V) (H : Am.Heap) (K : Am.V → Am.Heap → Prop),
  Am.Rec.call (Am.Run env) 64 [V.slice x0p x0n x0c, V.int IntKind.i64 x1, x2] H K =
  Am.Rec.loop (Am.Run env) (Am.loopAt env 64 3) 64 3
   (St.mk
   (Am.look
    [(0, T.v (V.slice x0p x0n x0c)), (1, T.v (V.int IntKind.i64 x1)), (2, T.v x2), (8, T.v (V.int IntKind.i64 (↑x0n : Int))),
    (9, T.v (V.int IntKind.i64 0)), (10, T.v (V.int IntKind.i64 (↑x0n : Int)))])
   (Am.look []) H)
   (fun S' ↦ False) fun j S' ↦
   br (Nat.beq j 0)
   (req
    (Am.isKT (KT.k Kind.slice) (S'.1 0) &&
     (Am.isKT (KT.k (Kind.int IntKind.i64)) (S'.1 1) &&
     (Am.isKT (KT.k Kind.func) (S'.1 2) &&
      (Am.isKT (KT.k (Kind.int IntKind.i64)) (S'.1 8) && (Am.isKT (KT.k (Kind.int IntKind.i64)) (S'.1 9) || false)))) ||
    false)
    (br (decide (V.getInt (T.val (S'.1 9)) < V.getInt (T.val (S'.1 8))))
    (req
     (decide (0 ≤ V.getInt (T.val (S'.1 9))) && decide (V.getInt (T.val (S'.1 9)) < (↑(V.slLen (T.val (S'.1 0))) : Int)) &&
     Option.isSome (V.slPtr (T.val (S'.1 0))))
     (req
     (Am.Heap.inb S'.3 (Option.getD (V.slPtr (T.val (S'.1 0))) (0, 0)).1 ((Option.getD (V.slPtr (T.val (S'.1 0))) (0, 0)).2 + Int.toNat (V.getInt (T.val (S'.1 9))) * 3)
      3 &&
      Am.fits k72
      (Am.Heap.sub S'.3 (Option.getD (V.slPtr (T.val (S'.1 0))) (0, 0)).1
       ((Option.getD (V.slPtr (T.val (S'.1 0))) (0, 0)).2 + Int.toNat (V.getInt (T.val (S'.1 9))) * 3) 3))
     (Am.callV env (Am.Run env) (T.val (S'.1 2))
      [V.agg
       (o72
       (Am.Heap.sub S'.3 (Option.getD (V.slPtr (T.val (S'.1 0))) (0, 0)).1
        ((Option.getD (V.slPtr (T.val (S'.1 0))) (0, 0)).2 + Int.toNat (V.getInt (T.val (S'.1 9))) * 3) 3)),
      V.int IntKind.i64 (V.getInt (T.val (S'.1 1)))]
      S'.3 fun v H' ↦
      req (V.isK (Kind.int IntKind.i64) v)
      (K (V.tuple [V.int IntKind.i64 (V.getInt (T.val (S'.1 9))), V.bool (decide (V.getInt v = 0))]) H'))))
    (K (V.tuple [V.int IntKind.i64 (V.getInt (T.val (S'.1 9))), V.bool false]) S'.3)))
   False :=
  fun x0p x0n x0c x1 x2 H K => (Run_call (E := env)).trans (by kernel_rfl)

theorem lp64_3 : ∀ (t0_0 : Option (Nat × Nat)) (t0_1 t0_2 : Nat) (t1 : Int) (t2 : Am.V) (t8 t9 t10 : Int) (H : Am.Heap) (Kr : Am.St → Prop) (Ke : Nat → Am.St → Prop),
  Am.Rec.loop (Am.Run env) (Am.loopAt env 64 3) 64 3
   (St.mk
   (Am.look
    [(0, T.v (V.slice t0_0 t0_1 t0_2)), (1, T.v (V.int IntKind.i64 t1)), (2, T.v t2), (8, T.v (V.int IntKind.i64 t8)), (9, T.v (V.int IntKind.i64 t9)),
    (10, T.v (V.int IntKind.i64 t10))])
   (Am.look []) H)
   Kr Ke =
  br (decide (t9 < t10))
   (req
   (decide (0 ≤ IntKind.wrap IntKind.i64 (Int.fdiv (IntKind.wrap IntKind.u64 (IntKind.wrap IntKind.i64 (t9 + t10))) 2)) &&
    decide (IntKind.wrap IntKind.i64 (Int.fdiv (IntKind.wrap IntKind.u64 (IntKind.wrap IntKind.i64 (t9 + t10))) 2) < (↑t0_1 : Int)) &&
    Option.isSome t0_0)
   (req
    (Am.Heap.inb H (Option.getD t0_0 (0, 0)).1
     ((Option.getD t0_0 (0, 0)).2 + Int.toNat (IntKind.wrap IntKind.i64 (Int.fdiv (IntKind.wrap IntKind.u64 (IntKind.wrap IntKind.i64 (t9 + t10))) 2)) * 3) 3 &&
    Am.fits k72
     (Am.Heap.sub H (Option.getD t0_0 (0, 0)).1
     ((Option.getD t0_0 (0, 0)).2 + Int.toNat (IntKind.wrap IntKind.i64 (Int.fdiv (IntKind.wrap IntKind.u64 (IntKind.wrap IntKind.i64 (t9 + t10))) 2)) * 3) 3))
    (Am.callV env (Am.Run env) t2
    [V.agg
     (o72
      (Am.Heap.sub H (Option.getD t0_0 (0, 0)).1
      ((Option.getD t0_0 (0, 0)).2 + Int.toNat (IntKind.wrap IntKind.i64 (Int.fdiv (IntKind.wrap IntKind.u64 (IntKind.wrap IntKind.i64 (t9 + t10))) 2)) * 3) 3)),
     V.int IntKind.i64 t1]
    H fun v H' ↦
    req (V.isK (Kind.int IntKind.i64) v)
     (br (decide (V.getInt v < 0))
     (Am.Rec.loop (Am.Run env) (Am.loopAt env 64 3) 64 3
      (St.mk
      (Am.look
       [(0, T.v (V.slice t0_0 t0_1 t0_2)), (1, T.v (V.int IntKind.i64 t1)), (2, T.v t2), (8, T.v (V.int IntKind.i64 t8)),
       (9,
        T.v
        (V.int IntKind.i64 (IntKind.wrap IntKind.i64 (IntKind.wrap IntKind.i64 (Int.fdiv (IntKind.wrap IntKind.u64 (IntKind.wrap IntKind.i64 (t9 + t10))) 2) + 1)))),
       (10, T.v (V.int IntKind.i64 t10))])
      (Am.look []) H')
      Kr Ke)
     (Am.Rec.loop (Am.Run env) (Am.loopAt env 64 3) 64 3
      (St.mk
      (Am.look
       [(0, T.v (V.slice t0_0 t0_1 t0_2)), (1, T.v (V.int IntKind.i64 t1)), (2, T.v t2), (8, T.v (V.int IntKind.i64 t8)),
       (9, T.v (V.int IntKind.i64 t9)),
       (10, T.v (V.int IntKind.i64 (IntKind.wrap IntKind.i64 (Int.fdiv (IntKind.wrap IntKind.u64 (IntKind.wrap IntKind.i64 (t9 + t10))) 2))))])
      (Am.look []) H')
      Kr Ke)))))
   (Ke 0
   (St.mk
    (Am.look
    [(0, T.v (V.slice t0_0 t0_1 t0_2)), (1, T.v (V.int IntKind.i64 t1)), (2, T.v t2), (8, T.v (V.int IntKind.i64 t8)),
     (9, T.v (V.int IntKind.i64 t9))])
    (Am.look []) H)) :=
  fun t0_0 t0_1 t0_2 t1 t2 t8 t9 t10 H Kr Ke => (Run_loop (E := env)).trans (by kernel_rfl)

theorem eq65 : ∀ (x0_0 : Int) (x0_1p : Option (Nat × Nat)) (x0_1n x0_1c : Nat) (x0_2 : Bool) (x1 : Int) (H : Am.Heap) (K : Am.V → Am.Heap → Prop),
  Am.Rec.call (Am.Run env) 65 [V.agg (c72 x0_0 x0_1p x0_1n x0_1c x0_2), V.int IntKind.i64 x1] H K =
  K (V.int IntKind.i64 (IntKind.wrap IntKind.i64 (x0_0 - x1))) H :=
  fun x0_0 x0_1p x0_1n x0_1c x0_2 x1 H K => (Run_call (E := env)).trans (by kernel_rfl)

theorem eq67 : ∀ (x0p : Option (Nat × Nat)) (x0n x0c : Nat) (x1 : Int) (H : Am.Heap) (K : Am.V → Am.Heap → Prop),
  Am.Rec.call (Am.Run env) 67 [V.slice x0p x0n x0c, V.int IntKind.i64 x1] H K =
  Am.Rec.call (Am.Run env) 68 [V.slice x0p x0n x0c, V.int IntKind.i64 (IntKind.wrap IntKind.i64 ((↑x0n : Int) - x1))] H fun v H' ↦ K (V.tuple []) H' :=
  fun x0p x0n x0c x1 H K => (Run_call (E := env)).trans (by kernel_rfl)

theorem eq68 : ∀ (x0p : Option (Nat × Nat)) (x0n x0c : Nat) (x1 : Int) (H : Am.Heap) (K : Am.V → Am.Heap → Prop),
  Am.Rec.call (Am.Run env) 68 [V.slice x0p x0n x0c, V.int IntKind.i64 x1] H K =
  req ((decide (0 ≤ x1) && decide (x1 ≤ (↑x0c : Int)) || false) && Nat.ble (Int.toNat x1) x0c)
   (Am.Rec.call (Am.Run env) 69 [V.slice (Am.ptrAdd x0p 0) (Int.toNat x1 - 0) (x0c - 0)] H fun v H' ↦
   req (decide (0 ≤ x1) && decide (x1 ≤ (↑x0n : Int)) && Nat.ble x0n x0c)
    (Am.Rec.call (Am.Run env) 69 [V.slice (Am.ptrAdd x0p (Int.toNat x1 * 3)) (x0n - Int.toNat x1) (x0c - Int.toNat x1)] H' fun v H' ↦
    Am.Rec.call (Am.Run env) 69 [V.slice x0p x0n x0c] H' fun v H' ↦ K (V.tuple []) H')) :=
  fun x0p x0n x0c x1 H K => (Run_call (E := env)).trans (by kernel_rfl)

theorem eq69 : ∀ (x0p : Option (Nat × Nat)) (x0n x0c : Nat) (H : Am.Heap) (K : Am.V → Am.Heap → Prop),
  Am.Rec.call (Am.Run env) 69 [V.slice x0p x0n x0c] H K =
  Am.Rec.loop (Am.Run env) (Am.loopAt env 69 1) 69 1
   (St.mk (Am.look [(0, T.v (V.slice x0p x0n x0c)), (2, T.v (V.int IntKind.i64 0)), (3, T.v (V.int IntKind.i64 (IntKind.wrap IntKind.i64 ((↑x0n : Int) - 1))))])
   (Am.look []) H)
   (fun S' ↦ K (V.tuple []) S'.3) fun j S' ↦ br (Nat.beq j 0) (K (V.tuple []) S'.3) False :=
  fun x0p x0n x0c H K => (Run_call (E := env)).trans (by kernel_rfl)

theorem lp69_1 : ∀ (t0_0 : Option (Nat × Nat)) (t0_1 t0_2 : Nat) (t2 t3 : Int) (H : Am.Heap) (Kr : Am.St → Prop) (Ke : Nat → Am.St → Prop),
  Am.Rec.loop (Am.Run env) (Am.loopAt env 69 1) 69 1
   (St.mk (Am.look [(0, T.v (V.slice t0_0 t0_1 t0_2)), (2, T.v (V.int IntKind.i64 t2)), (3, T.v (V.int IntKind.i64 t3))]) (Am.look []) H) Kr Ke =
  br (decide (t2 < t3))
   (req (decide (0 ≤ t3) && decide (t3 < (↑t0_1 : Int)) && Option.isSome t0_0)
   (req
    (Am.Heap.inb H (Option.getD t0_0 (0, 0)).1 ((Option.getD t0_0 (0, 0)).2 + Int.toNat t3 * 3) 3 &&
    Am.fits k72 (Am.Heap.sub H (Option.getD t0_0 (0, 0)).1 ((Option.getD t0_0 (0, 0)).2 + Int.toNat t3 * 3) 3))
    (req (decide (0 ≤ t2) && decide (t2 < (↑t0_1 : Int)) && Option.isSome t0_0)
    (req
     (Am.Heap.inb H (Option.getD t0_0 (0, 0)).1 ((Option.getD t0_0 (0, 0)).2 + Int.toNat t2 * 3) 3 &&
     Am.fits k72 (Am.Heap.sub H (Option.getD t0_0 (0, 0)).1 ((Option.getD t0_0 (0, 0)).2 + Int.toNat t2 * 3) 3))
     (req (decide (0 ≤ t2) && decide (t2 < (↑t0_1 : Int)) && Option.isSome t0_0)
     (req (Am.Heap.wr H (Option.getD t0_0 (0, 0)).1 ((Option.getD t0_0 (0, 0)).2 + Int.toNat t2 * 3) 3)
      (req (decide (0 ≤ t3) && decide (t3 < (↑t0_1 : Int)) && Option.isSome t0_0)
      (req
       (Am.Heap.wr
       (Am.Heap.store H (Option.getD t0_0 (0, 0)).1 ((Option.getD t0_0 (0, 0)).2 + Int.toNat t2 * 3)
        (o72 (Am.Heap.sub H (Option.getD t0_0 (0, 0)).1 ((Option.getD t0_0 (0, 0)).2 + Int.toNat t3 * 3) 3)))
       (Option.getD t0_0 (0, 0)).1 ((Option.getD t0_0 (0, 0)).2 + Int.toNat t3 * 3) 3)
       (Am.Rec.loop (Am.Run env) (Am.loopAt env 69 1) 69 1
       (St.mk
        (Am.look
        [(0, T.v (V.slice t0_0 t0_1 t0_2)), (2, T.v (V.int IntKind.i64 (IntKind.wrap IntKind.i64 (t2 + 1)))),
         (3, T.v (V.int IntKind.i64 (IntKind.wrap IntKind.i64 (t3 - 1))))])
        (Am.look [])
        (Am.Heap.store
        (Am.Heap.store H (Option.getD t0_0 (0, 0)).1 ((Option.getD t0_0 (0, 0)).2 + Int.toNat t2 * 3)
         (o72 (Am.Heap.sub H (Option.getD t0_0 (0, 0)).1 ((Option.getD t0_0 (0, 0)).2 + Int.toNat t3 * 3) 3)))
        (Option.getD t0_0 (0, 0)).1 ((Option.getD t0_0 (0, 0)).2 + Int.toNat t3 * 3)
        (o72 (Am.Heap.sub H (Option.getD t0_0 (0, 0)).1 ((Option.getD t0_0 (0, 0)).2 + Int.toNat t2 * 3) 3))))
       Kr Ke)))))))))
   (Ke 0 (St.mk (Am.look []) (Am.look []) H)) :=
  fun t0_0 t0_1 t0_2 t2 t3 H Kr Ke => (Run_loop (E := env)).trans (by kernel_rfl)

end Go.Proofs.Ytmionmlellimoaa
