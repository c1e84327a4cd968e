/- The equations of the calls and of the loops' rounds; the kernel looks at each. Written by a program (wip/am/Walk.lean). -/
import Derived.Test.YtmoopebmajefkaaAmEnv
namespace Go.Proofs.Ytmoopebmajefkaa
open Go.Am
set_option maxRecDepth 100000
set_option linter.unusedVariables false

theorem eq3 : ∀ (x0p : Option (Nat × Nat)) (x0n x0c : Nat) (x1 x2_0 x2_1 : Int) (x2_2p : Option (Nat × Nat)) (x2_2n x2_2c : Nat) (x2_3 : Bool) (x2_4 x2_5 x2_6 : Int) (x2_7 : Bool) (H : Am.Heap) (K : Am.V → Am.Heap → Prop),
  Am.Rec.call (Am.Run env) 3 [V.slice x0p x0n x0c, V.int IntKind.i64 x1, V.agg (c25 x2_0 x2_1 x2_2p x2_2n x2_2c x2_3 x2_4 x2_5 x2_6 x2_7)]
   H K =
  Am.Rec.call (Am.Run env) 10 [] H fun v H' ↦
   req (V.isK Kind.bool v)
   (br (bif !!V.getBool v then decide ((↑x2_2n : Int) > 200) else true)
    (Am.Rec.call (Am.Run env) 10 [] H' fun v H' ↦ req (V.isK Kind.bool v) (K (V.bool (V.getBool v)) H'))
    (Am.Rec.call (Am.Run env) 11 [] H' fun v H' ↦
    req (V.isAgg v && Am.fits k29 (V.aggCells v))
     (Am.Rec.loop (Am.Run env) (Am.loopAt env 3 6) 3 6
     (St.mk
      (Am.look [(0, T.v (V.slice x0p x0n x0c)), (1, T.v (V.int IntKind.i64 x1)), (5, T.lp 5 0), (7, T.lp 7 0), (8, T.v (V.int IntKind.i64 0))])
      (Am.look
      [(5, Loc.cells 26 (c25 x2_0 x2_1 x2_2p x2_2n x2_2c x2_3 x2_4 x2_5 x2_6 x2_7)), (7, Loc.cells 30 (o29 (V.aggCells v)))])
      H')
     (fun S' ↦ False) fun j S' ↦
     br (Nat.beq j 0)
      (req
      (Am.isKT (KT.k (Kind.int IntKind.i64)) (S'.1 1) && (Am.isKT (KT.lp 5) (S'.1 5) && (Am.isKT (KT.lp 7) (S'.1 7) || false)) &&
       (Am.isLK 26 k25 (S'.2 5) && (Am.isLK 30 k29 (S'.2 7) || false)))
      (Am.Rec.call (Am.Run env) 13
       [V.agg (o29 (Am.locCells (S'.2 7))), V.int IntKind.i64 (V.getInt (T.val (S'.1 1))),
       V.agg (o25 (Am.locCells (S'.2 5)))]
       S'.3 fun v H' ↦
       req
       (V.isTuple 2 v &&
        (V.isAgg (nthV (V.vals v) 0) && Am.fits k29 (V.aggCells (nthV (V.vals v) 0)) &&
        (V.isK (Kind.int IntKind.i64) (nthV (V.vals v) 1) || false)))
       (Am.Rec.call (Am.Run env) 14
        [V.agg (o29 (Am.locCells (S'.2 7))), V.int IntKind.i64 (V.getInt (T.val (S'.1 1))),
        V.agg (o25 (Am.locCells (S'.2 5)))]
        H' fun v_1 H' ↦
        req
        (V.isTuple 2 v_1 &&
         (V.isAgg (nthV (V.vals v_1) 0) && Am.fits k29 (V.aggCells (nthV (V.vals v_1) 0)) &&
         (V.isK (Kind.int IntKind.i64) (nthV (V.vals v_1) 1) || false)))
        (br
         (decide (V.getInt (nthV (V.aggCells (nthV (V.vals v) 0)) 0) = V.getInt (nthV (V.aggCells (nthV (V.vals v_1) 0)) 0)) &&
         (decide (V.getInt (nthV (V.aggCells (nthV (V.vals v) 0)) 1) = V.getInt (nthV (V.aggCells (nthV (V.vals v_1) 0)) 1)) &&
          (decide
           (V.getInt (nthV (V.aggCells (nthV (V.vals v) 0)) 2) = V.getInt (nthV (V.aggCells (nthV (V.vals v_1) 0)) 2)) &&
          (decide
           (V.getInt (nthV (V.aggCells (nthV (V.vals v) 0)) 3) = V.getInt (nthV (V.aggCells (nthV (V.vals v_1) 0)) 3)) &&
           (decide
            (V.getInt (nthV (V.aggCells (nthV (V.vals v) 0)) 4) = V.getInt (nthV (V.aggCells (nthV (V.vals v_1) 0)) 4)) &&
           (decide
            (V.getInt (nthV (V.aggCells (nthV (V.vals v) 0)) 5) = V.getInt (nthV (V.aggCells (nthV (V.vals v_1) 0)) 5)) &&
            (decide
             (V.getInt (nthV (V.aggCells (nthV (V.vals v) 0)) 6) = V.getInt (nthV (V.aggCells (nthV (V.vals v_1) 0)) 6)) &&
            (decide
             (V.getInt (nthV (V.aggCells (nthV (V.vals v) 0)) 7) = V.getInt (nthV (V.aggCells (nthV (V.vals v_1) 0)) 7)) &&
             (decide
              (V.getInt (nthV (V.aggCells (nthV (V.vals v) 0)) 8) = V.getInt (nthV (V.aggCells (nthV (V.vals v_1) 0)) 8)) &&
             (decide
              (V.getInt (nthV (V.aggCells (nthV (V.vals v) 0)) 9) =
               V.getInt (nthV (V.aggCells (nthV (V.vals v_1) 0)) 9)) &&
              (decide
               (V.getInt (nthV (V.aggCells (nthV (V.vals v) 0)) 10) =
               V.getInt (nthV (V.aggCells (nthV (V.vals v_1) 0)) 10)) &&
              (decide
               (V.getBool (nthV (V.aggCells (nthV (V.vals v) 0)) 11) =
                V.getBool (nthV (V.aggCells (nthV (V.vals v_1) 0)) 11)) ||
               false))))))))))))
         (br (decide (V.getInt (nthV (V.vals v) 1) = V.getInt (nthV (V.vals v_1) 1)))
         (br (!decide (V.getInt (nthV (V.vals v) 1) = 0))
          (br
          (decide (V.getInt (nthV (V.aggCells (nthV (V.vals v) 0)) 0) = V.getInt (nthV (Am.locCells (S'.2 7)) 0)) &&
           (decide (V.getInt (nthV (V.aggCells (nthV (V.vals v) 0)) 1) = V.getInt (nthV (Am.locCells (S'.2 7)) 1)) &&
           (decide (V.getInt (nthV (V.aggCells (nthV (V.vals v) 0)) 2) = V.getInt (nthV (Am.locCells (S'.2 7)) 2)) &&
            (decide (V.getInt (nthV (V.aggCells (nthV (V.vals v) 0)) 3) = V.getInt (nthV (Am.locCells (S'.2 7)) 3)) &&
            (decide (V.getInt (nthV (V.aggCells (nthV (V.vals v) 0)) 4) = V.getInt (nthV (Am.locCells (S'.2 7)) 4)) &&
             (decide (V.getInt (nthV (V.aggCells (nthV (V.vals v) 0)) 5) = V.getInt (nthV (Am.locCells (S'.2 7)) 5)) &&
             (decide (V.getInt (nthV (V.aggCells (nthV (V.vals v) 0)) 6) = V.getInt (nthV (Am.locCells (S'.2 7)) 6)) &&
              (decide (V.getInt (nthV (V.aggCells (nthV (V.vals v) 0)) 7) = V.getInt (nthV (Am.locCells (S'.2 7)) 7)) &&
              (decide (V.getInt (nthV (V.aggCells (nthV (V.vals v) 0)) 8) = V.getInt (nthV (Am.locCells (S'.2 7)) 8)) &&
               (decide (V.getInt (nthV (V.aggCells (nthV (V.vals v) 0)) 9) = V.getInt (nthV (Am.locCells (S'.2 7)) 9)) &&
               (decide (V.getInt (nthV (V.aggCells (nthV (V.vals v) 0)) 10) = V.getInt (nthV (Am.locCells (S'.2 7)) 10)) &&
                (decide
                 (V.getBool (nthV (V.aggCells (nthV (V.vals v) 0)) 11) = V.getBool (nthV (Am.locCells (S'.2 7)) 11)) ||
                false))))))))))))
          (Am.Rec.call (Am.Run env) 15 [V.int IntKind.u8 (V.getInt (nthV (Am.locCells (S'.2 5)) 6))] H' fun v H' ↦
           req (V.isK Kind.bool v)
           (Am.Rec.call (Am.Run env) 16 [V.int IntKind.u8 (V.getInt (nthV (Am.locCells (S'.2 5)) 6))] H' fun v_2 H' ↦
            req (V.isK Kind.bool v_2) (K (V.bool (decide (V.getBool v = V.getBool v_2))) H')))
          (K (V.bool false) H'))
          (Am.Rec.call (Am.Run env) 15 [V.int IntKind.u8 (V.getInt (nthV (Am.locCells (S'.2 5)) 6))] H' fun v H' ↦
          req (V.isK Kind.bool v)
           (Am.Rec.call (Am.Run env) 16 [V.int IntKind.u8 (V.getInt (nthV (Am.locCells (S'.2 5)) 6))] H' fun v_2 H' ↦
           req (V.isK Kind.bool v_2) (K (V.bool (decide (V.getBool v = V.getBool v_2))) H'))))
         (K (V.bool false) H'))
         (K (V.bool false) H')))))
      False))) :=
  fun x0p x0n x0c x1 x2_0 x2_1 x2_2p x2_2n x2_2c x2_3 x2_4 x2_5 x2_6 x2_7 H K => (Run_call (E := env)).trans (by kernel_rfl)

theorem lp3_6 : ∀ (t0_0 : Option (Nat × Nat)) (t0_1 t0_2 : Nat) (t1 t8 l5 l5' : Int) (l5''_0 : Option (Nat × Nat)) (l5''_1 l5''_2 : Nat) (l5''' : Bool) (l5'''' l5''''' l5'''''' : Int) (l5''''''' : Bool)
  (l7 l7' l7'' l7''' l7'''' l7''''' l7'''''' l7''''''' l7'''''''' l7''''''''' l7'''''''''' : Int) (l7''''''''''' : Bool) (H : Am.Heap) (Kr : Am.St → Prop) (Ke : Nat → Am.St → Prop),
  Am.Rec.loop (Am.Run env) (Am.loopAt env 3 6) 3 6
   (St.mk (Am.look [(0, T.v (V.slice t0_0 t0_1 t0_2)), (1, T.v (V.int IntKind.i64 t1)), (5, T.lp 5 0), (7, T.lp 7 0), (8, T.v (V.int IntKind.i64 t8))])
   (Am.look
    [(5, Loc.cells 26 (c25 l5 l5' l5''_0 l5''_1 l5''_2 l5''' l5'''' l5''''' l5'''''' l5''''''')),
    (7, Loc.cells 30 (c29 l7 l7' l7'' l7''' l7'''' l7''''' l7'''''' l7''''''' l7'''''''' l7''''''''' l7'''''''''' l7'''''''''''))])
   H)
   Kr Ke =
  br (decide (t8 < (↑t0_1 : Int)) && decide (t8 < 20))
   (req (decide (0 ≤ t8) && decide (t8 < (↑t0_1 : Int)) && Option.isSome t0_0)
   (req
    (Am.Heap.inb H (Option.getD t0_0 (0, 0)).1 ((Option.getD t0_0 (0, 0)).2 + Int.toNat t8 * 7) 7 &&
    Am.fits k33 (Am.Heap.sub H (Option.getD t0_0 (0, 0)).1 ((Option.getD t0_0 (0, 0)).2 + Int.toNat t8 * 7) 7))
    (Am.Rec.call (Am.Run env) 12
    [V.agg (o33 (Am.Heap.sub H (Option.getD t0_0 (0, 0)).1 ((Option.getD t0_0 (0, 0)).2 + Int.toNat t8 * 7) 7)),
     V.agg (c29 l7 l7' l7'' l7''' l7'''' l7''''' l7'''''' l7''''''' l7'''''''' l7''''''''' l7'''''''''' l7''''''''''')]
    H fun v H' ↦
    req
     (V.isTuple 2 v &&
     (V.isK (Kind.int IntKind.i64) (nthV (V.vals v) 0) &&
      (V.isAgg (nthV (V.vals v) 1) && Am.fits k25 (V.aggCells (nthV (V.vals v) 1)) || false)))
     (Am.Rec.call (Am.Run env) 13
     [V.agg (c29 l7 l7' l7'' l7''' l7'''' l7''''' l7'''''' l7''''''' l7'''''''' l7''''''''' l7'''''''''' l7'''''''''''),
      V.int IntKind.i64 (V.getInt (nthV (V.vals v) 0)), V.agg (o25 (V.aggCells (nthV (V.vals v) 1)))]
     H' fun v H' ↦
     req
      (V.isTuple 2 v &&
      (V.isAgg (nthV (V.vals v) 0) && Am.fits k29 (V.aggCells (nthV (V.vals v) 0)) &&
       (V.isK (Kind.int IntKind.i64) (nthV (V.vals v) 1) || false)))
      (Am.Rec.loop (Am.Run env) (Am.loopAt env 3 6) 3 6
      (St.mk
       (Am.look
       [(0, T.v (V.slice t0_0 t0_1 t0_2)), (1, T.v (V.int IntKind.i64 t1)), (5, T.lp 5 0), (7, T.lp 7 0),
        (8, T.v (V.int IntKind.i64 (IntKind.wrap IntKind.i64 (t8 + 1))))])
       (Am.look
       [(5, Loc.cells 26 (c25 l5 l5' l5''_0 l5''_1 l5''_2 l5''' l5'''' l5''''' l5'''''' l5''''''')),
        (7, Loc.cells 30 (o29 (V.aggCells (nthV (V.vals v) 0))))])
       H')
      Kr Ke)))))
   (Ke 0
   (St.mk (Am.look [(1, T.v (V.int IntKind.i64 t1)), (5, T.lp 5 0), (7, T.lp 7 0)])
    (Am.look
    [(5, Loc.cells 26 (c25 l5 l5' l5''_0 l5''_1 l5''_2 l5''' l5'''' l5''''' l5'''''' l5''''''')),
     (7, Loc.cells 30 (c29 l7 l7' l7'' l7''' l7'''' l7''''' l7'''''' l7''''''' l7'''''''' l7''''''''' l7'''''''''' l7'''''''''''))])
    H)) :=
  fun t0_0 t0_1 t0_2 t1 t8 l5 l5' l5''_0 l5''_1 l5''_2 l5''' l5'''' l5''''' l5'''''' l5''''''' l7 l7' l7'' l7''' l7'''' l7''''' l7'''''' l7''''''' l7'''''''' l7''''''''' l7'''''''''' l7''''''''''' H Kr Ke => (Run_loop (E := env)).trans (by kernel_rfl)

theorem eq4 : ∀ (x0p : Option (Nat × Nat)) (x0n x0c : Nat) (H : Am.Heap) (K : Am.V → Am.Heap → Prop),
  Am.Rec.call (Am.Run env) 4 [V.slice x0p x0n x0c] H K =
  Am.Rec.call (Am.Run env) 10 [] H fun v H' ↦
   req (V.isK Kind.bool v)
   (br (!V.getBool v) (K (V.bool false) H')
    (Am.Rec.call (Am.Run env) 11 [] H' fun v H' ↦
    req (V.isAgg v && Am.fits k29 (V.aggCells v))
     (Am.Rec.loop (Am.Run env) (Am.loopAt env 4 6) 4 6
     (St.mk (Am.look [(0, T.v (V.slice x0p x0n x0c)), (3, T.lp 3 0), (4, T.v (V.int IntKind.i64 0))])
      (Am.look [(3, Loc.cells 30 (o29 (V.aggCells v)))]) H')
     (fun S' ↦ req (Am.isKT (KT.k Kind.bool) (S'.1 2) || false || false) (K (V.bool (V.getBool (T.val (S'.1 2)))) S'.3)) fun j S' ↦
     br (Nat.beq j 0) (K (V.bool true) S'.3) False))) :=
  fun x0p x0n x0c H K => (Run_call (E := env)).trans (by kernel_rfl)

theorem lp4_6 : ∀ (t0_0 : Option (Nat × Nat)) (t0_1 t0_2 : Nat) (t4 l3 l3' l3'' l3''' l3'''' l3''''' l3'''''' l3''''''' l3'''''''' l3''''''''' l3'''''''''' : Int) (l3''''''''''' : Bool) (H : Am.Heap) (Kr : Am.St → Prop)
  (Ke : Nat → Am.St → Prop),
  Am.Rec.loop (Am.Run env) (Am.loopAt env 4 6) 4 6
   (St.mk (Am.look [(0, T.v (V.slice t0_0 t0_1 t0_2)), (3, T.lp 3 0), (4, T.v (V.int IntKind.i64 t4))])
   (Am.look [(3, Loc.cells 30 (c29 l3 l3' l3'' l3''' l3'''' l3''''' l3'''''' l3''''''' l3'''''''' l3''''''''' l3'''''''''' l3'''''''''''))]) H)
   Kr Ke =
  br (decide (t4 < (↑t0_1 : Int)) && decide (t4 < 80))
   (req (decide (0 ≤ t4) && decide (t4 < (↑t0_1 : Int)) && Option.isSome t0_0)
   (req
    (Am.Heap.inb H (Option.getD t0_0 (0, 0)).1 ((Option.getD t0_0 (0, 0)).2 + Int.toNat t4 * 7) 7 &&
    Am.fits k33 (Am.Heap.sub H (Option.getD t0_0 (0, 0)).1 ((Option.getD t0_0 (0, 0)).2 + Int.toNat t4 * 7) 7))
    (Am.Rec.call (Am.Run env) 12
    [V.agg (o33 (Am.Heap.sub H (Option.getD t0_0 (0, 0)).1 ((Option.getD t0_0 (0, 0)).2 + Int.toNat t4 * 7) 7)),
     V.agg (c29 l3 l3' l3'' l3''' l3'''' l3''''' l3'''''' l3''''''' l3'''''''' l3''''''''' l3'''''''''' l3''''''''''')]
    H fun v H' ↦
    req
     (V.isTuple 2 v &&
     (V.isK (Kind.int IntKind.i64) (nthV (V.vals v) 0) &&
      (V.isAgg (nthV (V.vals v) 1) && Am.fits k25 (V.aggCells (nthV (V.vals v) 1)) || false)))
     (Am.Rec.call (Am.Run env) 13
     [V.agg (c29 l3 l3' l3'' l3''' l3'''' l3''''' l3'''''' l3''''''' l3'''''''' l3''''''''' l3'''''''''' l3'''''''''''),
      V.int IntKind.i64 (V.getInt (nthV (V.vals v) 0)), V.agg (o25 (V.aggCells (nthV (V.vals v) 1)))]
     H' fun v H' ↦
     req
      (V.isTuple 2 v &&
      (V.isAgg (nthV (V.vals v) 0) && Am.fits k29 (V.aggCells (nthV (V.vals v) 0)) &&
       (V.isK (Kind.int IntKind.i64) (nthV (V.vals v) 1) || false)))
      (Am.Rec.loop (Am.Run env) (Am.loopAt env 4 13) 4 13
      (St.mk
       (Am.look
       [(0, T.v (V.slice t0_0 t0_1 t0_2)), (3, T.lp 3 0), (4, T.v (V.int IntKind.i64 t4)), (7, T.v (V.bool false)),
        (8, T.v (V.int IntKind.i64 0))])
       (Am.look [(3, Loc.cells 30 (o29 (V.aggCells (nthV (V.vals v) 0))))]) H')
      (fun S' ↦
       req (Am.isKT (KT.k Kind.bool) (S'.1 2) || false || false)
       (Kr (St.mk (Am.look [(2, T.v (V.bool (V.getBool (T.val (S'.1 2)))))]) (Am.look []) S'.3)))
      fun j S' ↦
      br (Nat.beq j 2)
       (req
       (Am.isKT (KT.k Kind.slice) (S'.1 0) &&
        (Am.isKT (KT.lp 3) (S'.1 3) && (Am.isKT (KT.k (Kind.int IntKind.i64)) (S'.1 4) && (Am.isKT (KT.k Kind.bool) (S'.1 7) || false))) &&
        (Am.isLK 30 k29 (S'.2 3) || false))
       (br
        (bif !decide (V.getInt (nthV (Am.locCells (S'.2 3)) 8) = 0) then
        bif !!V.getBool (T.val (S'.1 7)) then
         bif decide (V.getInt (nthV (Am.locCells (S'.2 3)) 8) = 0) then
         bif !!decide (V.getInt (nthV (Am.locCells (S'.2 3)) 9) = -1) then
          bif !decide (V.getInt (nthV (Am.locCells (S'.2 3)) 8) = 7) then
          decide (V.getInt (nthV (Am.locCells (S'.2 3)) 8) = 8) && !decide (V.getInt (nthV (Am.locCells (S'.2 3)) 9) = -1)
          else !decide (V.getInt (nthV (Am.locCells (S'.2 3)) 9) = -1)
         else true
         else
         bif !decide (V.getInt (nthV (Am.locCells (S'.2 3)) 8) = 7) then
          decide (V.getInt (nthV (Am.locCells (S'.2 3)) 8) = 8) && !decide (V.getInt (nthV (Am.locCells (S'.2 3)) 9) = -1)
         else !decide (V.getInt (nthV (Am.locCells (S'.2 3)) 9) = -1)
        else true
        else
        bif decide (V.getInt (nthV (Am.locCells (S'.2 3)) 8) = 0) then
         bif !!decide (V.getInt (nthV (Am.locCells (S'.2 3)) 9) = -1) then
         bif !decide (V.getInt (nthV (Am.locCells (S'.2 3)) 8) = 7) then
          decide (V.getInt (nthV (Am.locCells (S'.2 3)) 8) = 8) && !decide (V.getInt (nthV (Am.locCells (S'.2 3)) 9) = -1)
         else !decide (V.getInt (nthV (Am.locCells (S'.2 3)) 9) = -1)
         else true
        else
         bif !decide (V.getInt (nthV (Am.locCells (S'.2 3)) 8) = 7) then
         decide (V.getInt (nthV (Am.locCells (S'.2 3)) 8) = 8) && !decide (V.getInt (nthV (Am.locCells (S'.2 3)) 9) = -1)
         else !decide (V.getInt (nthV (Am.locCells (S'.2 3)) 9) = -1))
        (Kr (St.mk (Am.look [(2, T.v (V.bool false))]) (Am.look []) S'.3))
        (Am.Rec.loop (Am.Run env) (Am.loopAt env 4 6) 4 6
        (St.mk
         (Am.look
         [(0, T.v (V.slice (V.slPtr (T.val (S'.1 0))) (V.slLen (T.val (S'.1 0))) (V.slCap (T.val (S'.1 0))))), (3, T.lp 3 0),
          (4, T.v (V.int IntKind.i64 (IntKind.wrap IntKind.i64 (V.getInt (T.val (S'.1 4)) + 1))))])
         (Am.look [(3, Loc.cells 30 (o29 (Am.locCells (S'.2 3))))]) S'.3)
        Kr Ke)))
       False)))))
   (Ke 0 (St.mk (Am.look []) (Am.look []) H)) :=
  fun t0_0 t0_1 t0_2 t4 l3 l3' l3'' l3''' l3'''' l3''''' l3'''''' l3''''''' l3'''''''' l3''''''''' l3'''''''''' l3''''''''''' H Kr Ke => (Run_loop (E := env)).trans (by kernel_rfl)

theorem lp4_13 : ∀ (t0_0 : Option (Nat × Nat)) (t0_1 t0_2 : Nat) (t4 : Int) (t7 : Bool) (t8 l3 l3' l3'' l3''' l3'''' l3''''' l3'''''' l3''''''' l3'''''''' l3''''''''' l3'''''''''' : Int) (l3''''''''''' : Bool) (H : Am.Heap)
  (Kr : Am.St → Prop) (Ke : Nat → Am.St → Prop),
  Am.Rec.loop (Am.Run env) (Am.loopAt env 4 13) 4 13
   (St.mk
   (Am.look [(0, T.v (V.slice t0_0 t0_1 t0_2)), (3, T.lp 3 0), (4, T.v (V.int IntKind.i64 t4)), (7, T.v (V.bool t7)), (8, T.v (V.int IntKind.i64 t8))])
   (Am.look [(3, Loc.cells 30 (c29 l3 l3' l3'' l3''' l3'''' l3''''' l3'''''' l3''''''' l3'''''''' l3''''''''' l3'''''''''' l3'''''''''''))]) H)
   Kr Ke =
  br (decide (t8 < 8))
   (req
   (Am.mergeR (!t7)
    (decide (0 ≤ t8) && decide (t8 < 8) && true &&
    (Nat.ble (Nat.succ (0 + Int.toNat t8 * 1)) 12 &&
      V.isK (Kind.int IntKind.u32)
      (nthV (c29 l3 l3' l3'' l3''' l3'''' l3''''' l3'''''' l3''''''' l3'''''''' l3''''''''' l3'''''''''' l3''''''''''') (0 + Int.toNat t8 * 1)) &&
     true &&
     true))
    true)
   (Am.joinP
    (fun Q ↦
    Am.Rec.call (Am.Run env) 17
     [V.agg (c29 l3 l3' l3'' l3''' l3'''' l3''''' l3'''''' l3''''''' l3'''''''' l3''''''''' l3'''''''''' l3'''''''''''), V.int IntKind.i64 t8] H fun v H' ↦
     req (V.isK Kind.bool v)
     (br (V.getBool v)
      (req (decide (0 ≤ t8) && decide (t8 < 8))
      (req
       (Nat.ble (Nat.succ (0 + Int.toNat t8 * 1)) 12 &&
       V.isK (Kind.int IntKind.u32)
        (nthV (c29 l3 l3' l3'' l3''' l3'''' l3''''' l3'''''' l3''''''' l3'''''''' l3''''''''' l3'''''''''' l3''''''''''') (0 + Int.toNat t8 * 1)))
       (br
       (!decide
        (V.getInt (nthV (c29 l3 l3' l3'' l3''' l3'''' l3''''' l3'''''' l3''''''' l3'''''''' l3''''''''' l3'''''''''' l3''''''''''') (0 + Int.toNat t8 * 1)) = 0))
       (Am.Rec.call (Am.Run env) 18
        [V.agg (c29 l3 l3' l3'' l3''' l3'''' l3''''' l3'''''' l3''''''' l3'''''''' l3''''''''' l3'''''''''' l3'''''''''''), V.int IntKind.i64 t8,
        V.bool true]
        H' fun v H' ↦
        req (V.isK Kind.bool v)
        (br (!!V.getBool v)
         (Am.Rec.call (Am.Run env) 18
         [V.agg (c29 l3 l3' l3'' l3''' l3'''' l3''''' l3'''''' l3''''''' l3'''''''' l3''''''''' l3'''''''''' l3'''''''''''), V.int IntKind.i64 t8,
          V.bool false]
         H' fun v H' ↦ req (V.isK Kind.bool v) (Q (St.mk (Am.look [(71, T.v (V.bool !V.getBool v))]) (Am.look []) H')))
         (Q (St.mk (Am.look [(71, T.v (V.bool true))]) (Am.look []) H'))))
       (Q (St.mk (Am.look [(71, T.v (V.bool true))]) (Am.look []) H')))))
      (Q (St.mk (Am.look [(71, T.v (V.bool false))]) (Am.look []) H'))))
    fun S' ↦
    req (Am.isKT (KT.k Kind.bool) (S'.1 71) || false || false)
    (br (V.getBool (T.val (S'.1 71))) (Kr (St.mk (Am.look [(2, T.v (V.bool false))]) (Am.look []) S'.3))
     (br (!decide (l3'''''''' = 0))
     (req (decide (0 ≤ t8) && decide (t8 < 8))
      (req
      (Nat.ble (Nat.succ (0 + Int.toNat t8 * 1)) 12 &&
       V.isK (Kind.int IntKind.u32)
       (nthV (c29 l3 l3' l3'' l3''' l3'''' l3''''' l3'''''' l3''''''' l3'''''''' l3''''''''' l3'''''''''' l3''''''''''') (0 + Int.toNat t8 * 1)))
      (br
       (decide
       (V.getInt (nthV (c29 l3 l3' l3'' l3''' l3'''' l3''''' l3'''''' l3''''''' l3'''''''' l3''''''''' l3'''''''''' l3''''''''''') (0 + Int.toNat t8 * 1)) = 0))
       (Am.Rec.call (Am.Run env) 18
       [V.agg (c29 l3 l3' l3'' l3''' l3'''' l3''''' l3'''''' l3''''''' l3'''''''' l3''''''''' l3'''''''''' l3'''''''''''), V.int IntKind.i64 t8,
        V.bool true]
       S'.3 fun v H' ↦
       req (V.isK Kind.bool v)
        (br (!V.getBool v)
        (Am.Rec.call (Am.Run env) 18
         [V.agg (c29 l3 l3' l3'' l3''' l3'''' l3''''' l3'''''' l3''''''' l3'''''''' l3''''''''' l3'''''''''' l3'''''''''''), V.int IntKind.i64 t8,
         V.bool true]
         H' fun v H' ↦
         req (V.isK Kind.bool v)
         (br (V.getBool v)
          (Am.Rec.call (Am.Run env) 18
          [V.agg (c29 l3 l3' l3'' l3''' l3'''' l3''''' l3'''''' l3''''''' l3'''''''' l3''''''''' l3'''''''''' l3'''''''''''), V.int IntKind.i64 t8,
           V.bool false]
          H' fun v H' ↦
          req (V.isK Kind.bool v)
           (br (!V.getBool v) (Kr (St.mk (Am.look [(2, T.v (V.bool false))]) (Am.look []) H'))
           (Am.Rec.loop (Am.Run env) (Am.loopAt env 4 13) 4 13
            (St.mk
            (Am.look
             [(0, T.v (V.slice t0_0 t0_1 t0_2)), (3, T.lp 3 0), (4, T.v (V.int IntKind.i64 t4)),
             (7,
              T.v
              (V.bool
               (bif !t7 then
               !decide
                (V.getInt
                 (nthV (c29 l3 l3' l3'' l3''' l3'''' l3''''' l3'''''' l3''''''' l3'''''''' l3''''''''' l3'''''''''' l3''''''''''')
                  (0 + Int.toNat t8 * 1)) =
                 0)
               else true))),
             (8, T.v (V.int IntKind.i64 (IntKind.wrap IntKind.i64 (t8 + 1))))])
            (Am.look [(3, Loc.cells 30 (c29 l3 l3' l3'' l3''' l3'''' l3''''' l3'''''' l3''''''' l3'''''''' l3''''''''' l3'''''''''' l3'''''''''''))])
            H')
            Kr Ke)))
          (Am.Rec.loop (Am.Run env) (Am.loopAt env 4 13) 4 13
          (St.mk
           (Am.look
           [(0, T.v (V.slice t0_0 t0_1 t0_2)), (3, T.lp 3 0), (4, T.v (V.int IntKind.i64 t4)),
            (7,
            T.v
             (V.bool
             (bif !t7 then
              !decide
               (V.getInt
                (nthV (c29 l3 l3' l3'' l3''' l3'''' l3''''' l3'''''' l3''''''' l3'''''''' l3''''''''' l3'''''''''' l3''''''''''')
                (0 + Int.toNat t8 * 1)) =
               0)
             else true))),
            (8, T.v (V.int IntKind.i64 (IntKind.wrap IntKind.i64 (t8 + 1))))])
           (Am.look [(3, Loc.cells 30 (c29 l3 l3' l3'' l3''' l3'''' l3''''' l3'''''' l3''''''' l3'''''''' l3''''''''' l3'''''''''' l3'''''''''''))]) H')
          Kr Ke)))
        (Kr (St.mk (Am.look [(2, T.v (V.bool false))]) (Am.look []) H'))))
       (Am.Rec.call (Am.Run env) 18
       [V.agg (c29 l3 l3' l3'' l3''' l3'''' l3''''' l3'''''' l3''''''' l3'''''''' l3''''''''' l3'''''''''' l3'''''''''''), V.int IntKind.i64 t8,
        V.bool true]
       S'.3 fun v H' ↦
       req (V.isK Kind.bool v)
        (br (V.getBool v)
        (Am.Rec.call (Am.Run env) 18
         [V.agg (c29 l3 l3' l3'' l3''' l3'''' l3''''' l3'''''' l3''''''' l3'''''''' l3''''''''' l3'''''''''' l3'''''''''''), V.int IntKind.i64 t8,
         V.bool false]
         H' fun v H' ↦
         req (V.isK Kind.bool v)
         (br (!V.getBool v) (Kr (St.mk (Am.look [(2, T.v (V.bool false))]) (Am.look []) H'))
          (Am.Rec.loop (Am.Run env) (Am.loopAt env 4 13) 4 13
          (St.mk
           (Am.look
           [(0, T.v (V.slice t0_0 t0_1 t0_2)), (3, T.lp 3 0), (4, T.v (V.int IntKind.i64 t4)),
            (7,
            T.v
             (V.bool
             (bif !t7 then
              !decide
               (V.getInt
                (nthV (c29 l3 l3' l3'' l3''' l3'''' l3''''' l3'''''' l3''''''' l3'''''''' l3''''''''' l3'''''''''' l3''''''''''')
                (0 + Int.toNat t8 * 1)) =
               0)
             else true))),
            (8, T.v (V.int IntKind.i64 (IntKind.wrap IntKind.i64 (t8 + 1))))])
           (Am.look [(3, Loc.cells 30 (c29 l3 l3' l3'' l3''' l3'''' l3''''' l3'''''' l3''''''' l3'''''''' l3''''''''' l3'''''''''' l3'''''''''''))]) H')
          Kr Ke)))
        (Am.Rec.loop (Am.Run env) (Am.loopAt env 4 13) 4 13
         (St.mk
         (Am.look
          [(0, T.v (V.slice t0_0 t0_1 t0_2)), (3, T.lp 3 0), (4, T.v (V.int IntKind.i64 t4)),
          (7,
           T.v
           (V.bool
            (bif !t7 then
            !decide
             (V.getInt
              (nthV (c29 l3 l3' l3'' l3''' l3'''' l3''''' l3'''''' l3''''''' l3'''''''' l3''''''''' l3'''''''''' l3''''''''''')
               (0 + Int.toNat t8 * 1)) =
              0)
            else true))),
          (8, T.v (V.int IntKind.i64 (IntKind.wrap IntKind.i64 (t8 + 1))))])
         (Am.look [(3, Loc.cells 30 (c29 l3 l3' l3'' l3''' l3'''' l3''''' l3'''''' l3''''''' l3'''''''' l3''''''''' l3'''''''''' l3'''''''''''))]) H')
         Kr Ke))))))
     (Am.Rec.call (Am.Run env) 18
      [V.agg (c29 l3 l3' l3'' l3''' l3'''' l3''''' l3'''''' l3''''''' l3'''''''' l3''''''''' l3'''''''''' l3'''''''''''), V.int IntKind.i64 t8,
      V.bool true]
      S'.3 fun v H' ↦
      req (V.isK Kind.bool v)
      (br (V.getBool v)
       (Am.Rec.call (Am.Run env) 18
       [V.agg (c29 l3 l3' l3'' l3''' l3'''' l3''''' l3'''''' l3''''''' l3'''''''' l3''''''''' l3'''''''''' l3'''''''''''), V.int IntKind.i64 t8,
        V.bool false]
       H' fun v H' ↦
       req (V.isK Kind.bool v)
        (br (!V.getBool v) (Kr (St.mk (Am.look [(2, T.v (V.bool false))]) (Am.look []) H'))
        (Am.Rec.loop (Am.Run env) (Am.loopAt env 4 13) 4 13
         (St.mk
         (Am.look
          [(0, T.v (V.slice t0_0 t0_1 t0_2)), (3, T.lp 3 0), (4, T.v (V.int IntKind.i64 t4)),
          (7,
           T.v
           (V.bool
            (bif !t7 then
            !decide
             (V.getInt
              (nthV (c29 l3 l3' l3'' l3''' l3'''' l3''''' l3'''''' l3''''''' l3'''''''' l3''''''''' l3'''''''''' l3''''''''''')
               (0 + Int.toNat t8 * 1)) =
              0)
            else true))),
          (8, T.v (V.int IntKind.i64 (IntKind.wrap IntKind.i64 (t8 + 1))))])
         (Am.look [(3, Loc.cells 30 (c29 l3 l3' l3'' l3''' l3'''' l3''''' l3'''''' l3''''''' l3'''''''' l3''''''''' l3'''''''''' l3'''''''''''))]) H')
         Kr Ke)))
       (Am.Rec.loop (Am.Run env) (Am.loopAt env 4 13) 4 13
       (St.mk
        (Am.look
        [(0, T.v (V.slice t0_0 t0_1 t0_2)), (3, T.lp 3 0), (4, T.v (V.int IntKind.i64 t4)),
         (7,
         T.v
          (V.bool
          (bif !t7 then
           !decide
            (V.getInt
             (nthV (c29 l3 l3' l3'' l3''' l3'''' l3''''' l3'''''' l3''''''' l3'''''''' l3''''''''' l3'''''''''' l3''''''''''') (0 + Int.toNat t8 * 1)) =
            0)
          else true))),
         (8, T.v (V.int IntKind.i64 (IntKind.wrap IntKind.i64 (t8 + 1))))])
        (Am.look [(3, Loc.cells 30 (c29 l3 l3' l3'' l3''' l3'''' l3''''' l3'''''' l3''''''' l3'''''''' l3''''''''' l3'''''''''' l3'''''''''''))]) H')
       Kr Ke)))))))
   (Ke 2
   (St.mk (Am.look [(0, T.v (V.slice t0_0 t0_1 t0_2)), (3, T.lp 3 0), (4, T.v (V.int IntKind.i64 t4)), (7, T.v (V.bool t7))])
    (Am.look [(3, Loc.cells 30 (c29 l3 l3' l3'' l3''' l3'''' l3''''' l3'''''' l3''''''' l3'''''''' l3''''''''' l3'''''''''' l3'''''''''''))]) H)) :=
  fun t0_0 t0_1 t0_2 t4 t7 t8 l3 l3' l3'' l3''' l3'''' l3''''' l3'''''' l3''''''' l3'''''''' l3''''''''' l3'''''''''' l3''''''''''' H Kr Ke => (Run_loop (E := env)).trans (by kernel_rfl)

theorem eq5 : ∀ (x0p : Option (Nat × Nat)) (x0n x0c : Nat) (x1 x2 x3 : Int) (H : Am.Heap) (K : Am.V → Am.Heap → Prop),
  Am.Rec.call (Am.Run env) 5 [V.slice x0p x0n x0c, V.int IntKind.u8 x1, V.int IntKind.u8 x2, V.int IntKind.u8 x3] H K =
  Am.Rec.call (Am.Run env) 10 [] H fun v H' ↦
   req (V.isK Kind.bool v)
   (br (!V.getBool v) (K (V.bool false) H')
    (Am.Rec.call (Am.Run env) 11 [] H' fun v H' ↦
    req (V.isAgg v && Am.fits k29 (V.aggCells v))
     (Am.Rec.loop (Am.Run env) (Am.loopAt env 5 6) 5 6
     (St.mk
      (Am.look
      [(0, T.v (V.slice x0p x0n x0c)), (1, T.v (V.int IntKind.u8 x1)), (2, T.v (V.int IntKind.u8 x2)), (3, T.v (V.int IntKind.u8 x3)),
       (9, T.lp 9 0), (10, T.v (V.int IntKind.i64 0))])
      (Am.look [(9, Loc.cells 30 (o29 (V.aggCells v)))]) H')
     (fun S' ↦ False) fun j S' ↦
     br (Nat.beq j 0)
      (req
      (Am.isKT (KT.k (Kind.int IntKind.u8)) (S'.1 1) &&
       (Am.isKT (KT.k (Kind.int IntKind.u8)) (S'.1 2) && (Am.isKT (KT.k (Kind.int IntKind.u8)) (S'.1 3) && (Am.isKT (KT.lp 9) (S'.1 9) || false))) &&
       (Am.isLK 30 k29 (S'.2 9) || false))
      (req
       (Am.mergeR
       (!decide (IntKind.wrap IntKind.i64 (Int.tmod (V.getInt (T.val (S'.1 1))) 8) = IntKind.wrap IntKind.i64 (Int.tmod (V.getInt (T.val (S'.1 2))) 8)))
       (decide (0 ≤ IntKind.wrap IntKind.i64 (Int.tmod (V.getInt (T.val (S'.1 1))) 8)) &&
         decide (IntKind.wrap IntKind.i64 (Int.tmod (V.getInt (T.val (S'.1 1))) 8) < 8) &&
        true &&
        (Nat.ble (Nat.succ (0 + Int.toNat (IntKind.wrap IntKind.i64 (Int.tmod (V.getInt (T.val (S'.1 1))) 8)) * 1)) 12 &&
         V.isK (Kind.int IntKind.u32)
          (nthV (o29 (Am.locCells (S'.2 9))) (0 + Int.toNat (IntKind.wrap IntKind.i64 (Int.tmod (V.getInt (T.val (S'.1 1))) 8)) * 1)) &&
         true &&
        Am.mergeR
         (!decide
          (V.getInt
           (nthV (o29 (Am.locCells (S'.2 9))) (0 + Int.toNat (IntKind.wrap IntKind.i64 (Int.tmod (V.getInt (T.val (S'.1 1))) 8)) * 1)) =
          0))
         (decide (0 ≤ IntKind.wrap IntKind.i64 (Int.tmod (V.getInt (T.val (S'.1 2))) 8)) &&
          decide (IntKind.wrap IntKind.i64 (Int.tmod (V.getInt (T.val (S'.1 2))) 8) < 8) &&
          true &&
         (Nat.ble (Nat.succ (0 + Int.toNat (IntKind.wrap IntKind.i64 (Int.tmod (V.getInt (T.val (S'.1 2))) 8)) * 1)) 12 &&
           V.isK (Kind.int IntKind.u32)
           (nthV (o29 (Am.locCells (S'.2 9))) (0 + Int.toNat (IntKind.wrap IntKind.i64 (Int.tmod (V.getInt (T.val (S'.1 2))) 8)) * 1)) &&
          true &&
          Am.mergeR
          (!decide
           (V.getInt
            (nthV (o29 (Am.locCells (S'.2 9)))
             (0 + Int.toNat (IntKind.wrap IntKind.i64 (Int.tmod (V.getInt (T.val (S'.1 2))) 8)) * 1)) =
            0))
          (decide (0 ≤ IntKind.wrap IntKind.i64 (Int.tmod (V.getInt (T.val (S'.1 2))) 8)) &&
            decide (IntKind.wrap IntKind.i64 (Int.tmod (V.getInt (T.val (S'.1 2))) 8) < 8) &&
           true &&
           (Nat.ble (Nat.succ (0 + Int.toNat (IntKind.wrap IntKind.i64 (Int.tmod (V.getInt (T.val (S'.1 2))) 8)) * 1)) 12 &&
            V.isK (Kind.int IntKind.u32)
             (nthV (o29 (Am.locCells (S'.2 9)))
             (0 + Int.toNat (IntKind.wrap IntKind.i64 (Int.tmod (V.getInt (T.val (S'.1 2))) 8)) * 1)) &&
            true &&
           (decide (0 ≤ IntKind.wrap IntKind.i64 (Int.tmod (V.getInt (T.val (S'.1 1))) 8)) &&
             decide (IntKind.wrap IntKind.i64 (Int.tmod (V.getInt (T.val (S'.1 1))) 8) < 8) &&
            true &&
            (Nat.ble (Nat.succ (0 + Int.toNat (IntKind.wrap IntKind.i64 (Int.tmod (V.getInt (T.val (S'.1 1))) 8)) * 1)) 12 &&
             V.isK (Kind.int IntKind.u32)
              (nthV (o29 (Am.locCells (S'.2 9)))
              (0 + Int.toNat (IntKind.wrap IntKind.i64 (Int.tmod (V.getInt (T.val (S'.1 1))) 8)) * 1)) &&
             true &&
            true))))
          true))
         (Am.mergeR false
         (decide (0 ≤ IntKind.wrap IntKind.i64 (Int.tmod (V.getInt (T.val (S'.1 2))) 8)) &&
           decide (IntKind.wrap IntKind.i64 (Int.tmod (V.getInt (T.val (S'.1 2))) 8) < 8) &&
          true &&
          (Nat.ble (Nat.succ (0 + Int.toNat (IntKind.wrap IntKind.i64 (Int.tmod (V.getInt (T.val (S'.1 2))) 8)) * 1)) 12 &&
           V.isK (Kind.int IntKind.u32)
            (nthV (o29 (Am.locCells (S'.2 9)))
            (0 + Int.toNat (IntKind.wrap IntKind.i64 (Int.tmod (V.getInt (T.val (S'.1 2))) 8)) * 1)) &&
           true &&
          (decide (0 ≤ IntKind.wrap IntKind.i64 (Int.tmod (V.getInt (T.val (S'.1 1))) 8)) &&
            decide (IntKind.wrap IntKind.i64 (Int.tmod (V.getInt (T.val (S'.1 1))) 8) < 8) &&
           true &&
           (Nat.ble (Nat.succ (0 + Int.toNat (IntKind.wrap IntKind.i64 (Int.tmod (V.getInt (T.val (S'.1 1))) 8)) * 1)) 12 &&
            V.isK (Kind.int IntKind.u32)
             (nthV (o29 (Am.locCells (S'.2 9)))
             (0 + Int.toNat (IntKind.wrap IntKind.i64 (Int.tmod (V.getInt (T.val (S'.1 1))) 8)) * 1)) &&
            true &&
           true))))
         true)))
       (Am.mergeR false
        (decide (0 ≤ IntKind.wrap IntKind.i64 (Int.tmod (V.getInt (T.val (S'.1 2))) 8)) &&
         decide (IntKind.wrap IntKind.i64 (Int.tmod (V.getInt (T.val (S'.1 2))) 8) < 8) &&
         true &&
        (Nat.ble (Nat.succ (0 + Int.toNat (IntKind.wrap IntKind.i64 (Int.tmod (V.getInt (T.val (S'.1 2))) 8)) * 1)) 12 &&
          V.isK (Kind.int IntKind.u32)
          (nthV (o29 (Am.locCells (S'.2 9))) (0 + Int.toNat (IntKind.wrap IntKind.i64 (Int.tmod (V.getInt (T.val (S'.1 2))) 8)) * 1)) &&
         true &&
         Am.mergeR
         (!decide
          (V.getInt
           (nthV (o29 (Am.locCells (S'.2 9))) (0 + Int.toNat (IntKind.wrap IntKind.i64 (Int.tmod (V.getInt (T.val (S'.1 2))) 8)) * 1)) =
           0))
         (decide (0 ≤ IntKind.wrap IntKind.i64 (Int.tmod (V.getInt (T.val (S'.1 2))) 8)) &&
           decide (IntKind.wrap IntKind.i64 (Int.tmod (V.getInt (T.val (S'.1 2))) 8) < 8) &&
          true &&
          (Nat.ble (Nat.succ (0 + Int.toNat (IntKind.wrap IntKind.i64 (Int.tmod (V.getInt (T.val (S'.1 2))) 8)) * 1)) 12 &&
           V.isK (Kind.int IntKind.u32)
            (nthV (o29 (Am.locCells (S'.2 9)))
            (0 + Int.toNat (IntKind.wrap IntKind.i64 (Int.tmod (V.getInt (T.val (S'.1 2))) 8)) * 1)) &&
           true &&
          (decide (0 ≤ IntKind.wrap IntKind.i64 (Int.tmod (V.getInt (T.val (S'.1 1))) 8)) &&
            decide (IntKind.wrap IntKind.i64 (Int.tmod (V.getInt (T.val (S'.1 1))) 8) < 8) &&
           true &&
           (Nat.ble (Nat.succ (0 + Int.toNat (IntKind.wrap IntKind.i64 (Int.tmod (V.getInt (T.val (S'.1 1))) 8)) * 1)) 12 &&
            V.isK (Kind.int IntKind.u32)
             (nthV (o29 (Am.locCells (S'.2 9)))
             (0 + Int.toNat (IntKind.wrap IntKind.i64 (Int.tmod (V.getInt (T.val (S'.1 1))) 8)) * 1)) &&
            true &&
           true))))
         true))
        (Am.mergeR false
        (decide (0 ≤ IntKind.wrap IntKind.i64 (Int.tmod (V.getInt (T.val (S'.1 2))) 8)) &&
          decide (IntKind.wrap IntKind.i64 (Int.tmod (V.getInt (T.val (S'.1 2))) 8) < 8) &&
         true &&
         (Nat.ble (Nat.succ (0 + Int.toNat (IntKind.wrap IntKind.i64 (Int.tmod (V.getInt (T.val (S'.1 2))) 8)) * 1)) 12 &&
          V.isK (Kind.int IntKind.u32)
           (nthV (o29 (Am.locCells (S'.2 9))) (0 + Int.toNat (IntKind.wrap IntKind.i64 (Int.tmod (V.getInt (T.val (S'.1 2))) 8)) * 1)) &&
          true &&
         (decide (0 ≤ IntKind.wrap IntKind.i64 (Int.tmod (V.getInt (T.val (S'.1 1))) 8)) &&
           decide (IntKind.wrap IntKind.i64 (Int.tmod (V.getInt (T.val (S'.1 1))) 8) < 8) &&
          true &&
          (Nat.ble (Nat.succ (0 + Int.toNat (IntKind.wrap IntKind.i64 (Int.tmod (V.getInt (T.val (S'.1 1))) 8)) * 1)) 12 &&
           V.isK (Kind.int IntKind.u32)
            (nthV (o29 (Am.locCells (S'.2 9)))
            (0 + Int.toNat (IntKind.wrap IntKind.i64 (Int.tmod (V.getInt (T.val (S'.1 1))) 8)) * 1)) &&
           true &&
          true))))
        true)))
       (br
       (bif
        !decide
         (IntKind.wrap IntKind.i64 (Int.tmod (V.getInt (T.val (S'.1 1))) 8) = IntKind.wrap IntKind.i64 (Int.tmod (V.getInt (T.val (S'.1 2))) 8)) then
        bif
         !decide
          (V.getInt
           (nthV (o29 (Am.locCells (S'.2 9))) (0 + Int.toNat (IntKind.wrap IntKind.i64 (Int.tmod (V.getInt (T.val (S'.1 1))) 8)) * 1)) =
          0) then
        bif
         !decide
          (V.getInt
           (nthV (o29 (Am.locCells (S'.2 9))) (0 + Int.toNat (IntKind.wrap IntKind.i64 (Int.tmod (V.getInt (T.val (S'.1 2))) 8)) * 1)) =
           0) then
         decide
         (V.getInt
          (nthV (o29 (Am.locCells (S'.2 9))) (0 + Int.toNat (IntKind.wrap IntKind.i64 (Int.tmod (V.getInt (T.val (S'.1 2))) 8)) * 1)) =
          V.getInt
          (nthV (o29 (Am.locCells (S'.2 9))) (0 + Int.toNat (IntKind.wrap IntKind.i64 (Int.tmod (V.getInt (T.val (S'.1 1))) 8)) * 1)))
        else true
        else true
       else true)
       (K (V.bool true) S'.3)
       (req
        (decide (0 ≤ IntKind.wrap IntKind.i64 (Int.tmod (V.getInt (T.val (S'.1 1))) 8)) &&
        decide (IntKind.wrap IntKind.i64 (Int.tmod (V.getInt (T.val (S'.1 1))) 8) < 8))
        (req
        (Nat.ble (Nat.succ (0 + Int.toNat (IntKind.wrap IntKind.i64 (Int.tmod (V.getInt (T.val (S'.1 1))) 8)) * 1)) 12 &&
         V.isK (Kind.int IntKind.u32)
         (nthV (o29 (Am.locCells (S'.2 9))) (0 + Int.toNat (IntKind.wrap IntKind.i64 (Int.tmod (V.getInt (T.val (S'.1 1))) 8)) * 1)))
        (req
         (decide (0 ≤ IntKind.wrap IntKind.i64 (Int.tmod (V.getInt (T.val (S'.1 2))) 8)) &&
         decide (IntKind.wrap IntKind.i64 (Int.tmod (V.getInt (T.val (S'.1 2))) 8) < 8))
         (req
         (Nat.ble (Nat.succ (0 + Int.toNat (IntKind.wrap IntKind.i64 (Int.tmod (V.getInt (T.val (S'.1 2))) 8)) * 1)) 12 &&
          V.isK (Kind.int IntKind.u32)
          (nthV (o29 (Am.locCells (S'.2 9))) (0 + Int.toNat (IntKind.wrap IntKind.i64 (Int.tmod (V.getInt (T.val (S'.1 2))) 8)) * 1)))
         (Am.Rec.call (Am.Run env) 19 [] S'.3 fun v H' ↦
          req (V.isAgg v && Am.fits k46 (V.aggCells v))
          (req
           (decide (0 ≤ Int.tmod (IntKind.wrap IntKind.i64 (V.getInt (T.val (S'.1 3)))) 6) &&
            decide (Int.tmod (IntKind.wrap IntKind.i64 (V.getInt (T.val (S'.1 3)))) 6 < 6) &&
           (Nat.ble (Nat.succ (Int.toNat (Int.tmod (IntKind.wrap IntKind.i64 (V.getInt (T.val (S'.1 3)))) 6) * 1)) 6 &&
            V.isK (Kind.int IntKind.u8)
            (nthV (o46 (V.aggCells v)) (Int.toNat (Int.tmod (IntKind.wrap IntKind.i64 (V.getInt (T.val (S'.1 3)))) 6) * 1))))
           (Am.Rec.call (Am.Run env) 13
           [V.agg (o29 (Am.locCells (S'.2 9))),
            V.int IntKind.i64 (IntKind.wrap IntKind.i64 (Int.tmod (V.getInt (T.val (S'.1 1))) 8)),
            V.agg
            (c25 8 0 Option.none 0 0 false
             (V.getInt
             (nthV (o29 (Am.locCells (S'.2 9)))
              (0 + Int.toNat (IntKind.wrap IntKind.i64 (Int.tmod (V.getInt (T.val (S'.1 1))) 8)) * 1)))
             (V.getInt
             (nthV (o29 (Am.locCells (S'.2 9)))
              (0 + Int.toNat (IntKind.wrap IntKind.i64 (Int.tmod (V.getInt (T.val (S'.1 2))) 8)) * 1)))
             (V.getInt
             (nthV (o46 (V.aggCells v)) (Int.toNat (Int.tmod (IntKind.wrap IntKind.i64 (V.getInt (T.val (S'.1 3)))) 6) * 1)))
             false)]
           H' fun v H' ↦
           req
            (V.isTuple 2 v &&
            (V.isAgg (nthV (V.vals v) 0) && Am.fits k29 (V.aggCells (nthV (V.vals v) 0)) &&
             (V.isK (Kind.int IntKind.i64) (nthV (V.vals v) 1) || false)))
            (req
            (Am.mergeR (!!decide (V.getInt (nthV (V.vals v) 1) = 0))
             (Am.mergeR
             (!!decide
               (V.getInt (nthV (V.aggCells (nthV (V.vals v) 0)) 10) =
               IntKind.wrap IntKind.u32 (V.getInt (nthV (Am.locCells (S'.2 9)) 10) + 1)))
             (decide (0 ≤ IntKind.wrap IntKind.i64 (Int.tmod (V.getInt (T.val (S'.1 1))) 8)) &&
               decide (IntKind.wrap IntKind.i64 (Int.tmod (V.getInt (T.val (S'.1 1))) 8) < 8) &&
              true &&
              (Nat.ble (Nat.succ (0 + Int.toNat (IntKind.wrap IntKind.i64 (Int.tmod (V.getInt (T.val (S'.1 1))) 8)) * 1)) 12 &&
               V.isK (Kind.int IntKind.u32)
                (nthV (o29 (V.aggCells (nthV (V.vals v) 0)))
                (0 + Int.toNat (IntKind.wrap IntKind.i64 (Int.tmod (V.getInt (T.val (S'.1 1))) 8)) * 1)) &&
               true &&
              (decide (0 ≤ IntKind.wrap IntKind.i64 (Int.tmod (V.getInt (T.val (S'.1 1))) 8)) &&
                decide (IntKind.wrap IntKind.i64 (Int.tmod (V.getInt (T.val (S'.1 1))) 8) < 8) &&
               true &&
               (Nat.ble (Nat.succ (0 + Int.toNat (IntKind.wrap IntKind.i64 (Int.tmod (V.getInt (T.val (S'.1 1))) 8)) * 1)) 12 &&
                V.isK (Kind.int IntKind.u32)
                 (nthV (o29 (Am.locCells (S'.2 9)))
                 (0 + Int.toNat (IntKind.wrap IntKind.i64 (Int.tmod (V.getInt (T.val (S'.1 1))) 8)) * 1)) &&
                true &&
               true))))
             true)
             (Am.mergeR false
             (decide (0 ≤ IntKind.wrap IntKind.i64 (Int.tmod (V.getInt (T.val (S'.1 1))) 8)) &&
               decide (IntKind.wrap IntKind.i64 (Int.tmod (V.getInt (T.val (S'.1 1))) 8) < 8) &&
              true &&
              (Nat.ble (Nat.succ (0 + Int.toNat (IntKind.wrap IntKind.i64 (Int.tmod (V.getInt (T.val (S'.1 1))) 8)) * 1)) 12 &&
               V.isK (Kind.int IntKind.u32)
                (nthV (o29 (V.aggCells (nthV (V.vals v) 0)))
                (0 + Int.toNat (IntKind.wrap IntKind.i64 (Int.tmod (V.getInt (T.val (S'.1 1))) 8)) * 1)) &&
               true &&
              (decide (0 ≤ IntKind.wrap IntKind.i64 (Int.tmod (V.getInt (T.val (S'.1 1))) 8)) &&
                decide (IntKind.wrap IntKind.i64 (Int.tmod (V.getInt (T.val (S'.1 1))) 8) < 8) &&
               true &&
               (Nat.ble (Nat.succ (0 + Int.toNat (IntKind.wrap IntKind.i64 (Int.tmod (V.getInt (T.val (S'.1 1))) 8)) * 1)) 12 &&
                V.isK (Kind.int IntKind.u32)
                 (nthV (o29 (Am.locCells (S'.2 9)))
                 (0 + Int.toNat (IntKind.wrap IntKind.i64 (Int.tmod (V.getInt (T.val (S'.1 1))) 8)) * 1)) &&
                true &&
               true))))
             true))
            (br
             (bif !!decide (V.getInt (nthV (V.vals v) 1) = 0) then
             bif
              !!decide
                (V.getInt (nthV (V.aggCells (nthV (V.vals v) 0)) 10) =
                IntKind.wrap IntKind.u32 (V.getInt (nthV (Am.locCells (S'.2 9)) 10) + 1)) then
              !decide
               (V.getInt
                (nthV (o29 (V.aggCells (nthV (V.vals v) 0)))
                (0 + Int.toNat (IntKind.wrap IntKind.i64 (Int.tmod (V.getInt (T.val (S'.1 1))) 8)) * 1)) =
               V.getInt
                (nthV (o29 (Am.locCells (S'.2 9)))
                (0 + Int.toNat (IntKind.wrap IntKind.i64 (Int.tmod (V.getInt (T.val (S'.1 1))) 8)) * 1)))
             else true
             else true)
             (K (V.bool false) H')
             (Am.Rec.loop (Am.Run env) (Am.loopAt env 5 22) 5 22
             (St.mk
              (Am.look
              [(9, T.lp 9 0), (13, T.v (V.int IntKind.i64 (IntKind.wrap IntKind.i64 (Int.tmod (V.getInt (T.val (S'.1 1))) 8)))),
               (14, T.v (V.int IntKind.i64 (IntKind.wrap IntKind.i64 (Int.tmod (V.getInt (T.val (S'.1 2))) 8)))), (15, T.lp 15 0),
               (17, T.v (V.int IntKind.i64 0))])
              (Am.look
              [(9, Loc.cells 30 (o29 (Am.locCells (S'.2 9)))),
               (15, Loc.cells 30 (o29 (V.aggCells (nthV (V.vals v) 0))))])
              H')
             (fun S' ↦ req (Am.isKT (KT.k Kind.bool) (S'.1 8) || false || false) (K (V.bool (V.getBool (T.val (S'.1 8)))) S'.3))
             fun j S' ↦
             br (Nat.beq j 2)
              (req
              (Am.isKT (KT.lp 9) (S'.1 9) &&
               (Am.isKT (KT.k (Kind.int IntKind.i64)) (S'.1 13) &&
                (Am.isKT (KT.k (Kind.int IntKind.i64)) (S'.1 14) && (Am.isKT (KT.lp 15) (S'.1 15) || false))) &&
               (Am.isLK 30 k29 (S'.2 9) && (Am.isLK 30 k29 (S'.2 15) || false)))
              (Am.Rec.call (Am.Run env) 17
               [V.agg (o29 (Am.locCells (S'.2 9))), V.int IntKind.i64 (V.getInt (T.val (S'.1 14)))] S'.3 fun v H' ↦
               req (V.isK Kind.bool v)
               (br (!!V.getBool v)
                (br (!decide (V.getInt (nthV (Am.locCells (S'.2 9)) 8) = 7))
                (br (!decide (V.getInt (nthV (Am.locCells (S'.2 9)) 8) = 8))
                 (Am.Rec.call (Am.Run env) 17
                 [V.agg (o29 (Am.locCells (S'.2 15))), V.int IntKind.i64 (V.getInt (T.val (S'.1 13)))] H' fun v H' ↦
                 req (V.isK Kind.bool v) (K (V.bool (V.getBool v)) H'))
                 (K (V.bool true) H'))
                (K (V.bool true) H'))
                (K (V.bool true) H'))))
              False)))))))))))))
      False))) :=
  fun x0p x0n x0c x1 x2 x3 H K => (Run_call (E := env)).trans (by kernel_rfl)

theorem lp5_22 : ∀ (t13 t14 t17 l9 l9' l9'' l9''' l9'''' l9''''' l9'''''' l9''''''' l9'''''''' l9''''''''' l9'''''''''' : Int) (l9''''''''''' : Bool)
  (l15 l15' l15'' l15''' l15'''' l15''''' l15'''''' l15''''''' l15'''''''' l15''''''''' l15'''''''''' : Int) (l15''''''''''' : Bool) (H : Am.Heap) (Kr : Am.St → Prop) (Ke : Nat → Am.St → Prop),
  Am.Rec.loop (Am.Run env) (Am.loopAt env 5 22) 5 22
   (St.mk
   (Am.look [(9, T.lp 9 0), (13, T.v (V.int IntKind.i64 t13)), (14, T.v (V.int IntKind.i64 t14)), (15, T.lp 15 0), (17, T.v (V.int IntKind.i64 t17))])
   (Am.look
    [(9, Loc.cells 30 (c29 l9 l9' l9'' l9''' l9'''' l9''''' l9'''''' l9''''''' l9'''''''' l9''''''''' l9'''''''''' l9''''''''''')),
    (15, Loc.cells 30 (c29 l15 l15' l15'' l15''' l15'''' l15''''' l15'''''' l15''''''' l15'''''''' l15''''''''' l15'''''''''' l15'''''''''''))])
   H)
   Kr Ke =
  br (decide (t17 < 8))
   (req
   (Am.mergeR (!decide (t17 = t13))
    (decide (0 ≤ t17) && decide (t17 < 8) && true &&
    (Nat.ble (Nat.succ (0 + Int.toNat t17 * 1)) 12 &&
      V.isK (Kind.int IntKind.u32)
      (nthV (c29 l9 l9' l9'' l9''' l9'''' l9''''' l9'''''' l9''''''' l9'''''''' l9''''''''' l9'''''''''' l9''''''''''') (0 + Int.toNat t17 * 1)) &&
     true &&
     (decide (0 ≤ t14) && decide (t14 < 8) && true &&
     (Nat.ble (Nat.succ (0 + Int.toNat t14 * 1)) 12 &&
       V.isK (Kind.int IntKind.u32)
       (nthV (c29 l9 l9' l9'' l9''' l9'''' l9''''' l9'''''' l9''''''' l9'''''''' l9''''''''' l9'''''''''' l9''''''''''') (0 + Int.toNat t14 * 1)) &&
      true &&
      true))))
    true)
   (req
    (Am.mergeR
    (!decide (t17 = t13) &&
     decide
     (V.getInt (nthV (c29 l9 l9' l9'' l9''' l9'''' l9''''' l9'''''' l9''''''' l9'''''''' l9''''''''' l9'''''''''' l9''''''''''') (0 + Int.toNat t17 * 1)) =
      V.getInt (nthV (c29 l9 l9' l9'' l9''' l9'''' l9''''' l9'''''' l9''''''' l9'''''''' l9''''''''' l9'''''''''' l9''''''''''') (0 + Int.toNat t14 * 1))))
    (decide (0 ≤ t17) && decide (t17 < 8) && true &&
     (Nat.ble (Nat.succ (0 + Int.toNat t17 * 1)) 12 &&
      V.isK (Kind.int IntKind.u32)
       (nthV (c29 l15 l15' l15'' l15''' l15'''' l15''''' l15'''''' l15''''''' l15'''''''' l15''''''''' l15'''''''''' l15''''''''''') (0 + Int.toNat t17 * 1)) &&
      true &&
     Am.mergeR
      (!!decide
       (V.getInt
        (nthV (c29 l15 l15' l15'' l15''' l15'''' l15''''' l15'''''' l15''''''' l15'''''''' l15''''''''' l15'''''''''' l15''''''''''') (0 + Int.toNat t17 * 1)) =
        0))
      (Am.mergeR
      (!(!decide (t17 = t13) &&
       decide
        (V.getInt (nthV (c29 l9 l9' l9'' l9''' l9'''' l9''''' l9'''''' l9''''''' l9'''''''' l9''''''''' l9'''''''''' l9''''''''''') (0 + Int.toNat t17 * 1)) =
        V.getInt (nthV (c29 l9 l9' l9'' l9''' l9'''' l9''''' l9'''''' l9''''''' l9'''''''' l9''''''''' l9'''''''''' l9''''''''''') (0 + Int.toNat t14 * 1)))))
      (decide (0 ≤ t17) && decide (t17 < 8) && true &&
       (Nat.ble (Nat.succ (0 + Int.toNat t17 * 1)) 12 &&
        V.isK (Kind.int IntKind.u32)
         (nthV (c29 l15 l15' l15'' l15''' l15'''' l15''''' l15'''''' l15''''''' l15'''''''' l15''''''''' l15'''''''''' l15''''''''''') (0 + Int.toNat t17 * 1)) &&
        true &&
       (decide (0 ≤ t17) && decide (t17 < 8) && true &&
        (Nat.ble (Nat.succ (0 + Int.toNat t17 * 1)) 12 &&
         V.isK (Kind.int IntKind.u32)
          (nthV (c29 l9 l9' l9'' l9''' l9'''' l9''''' l9'''''' l9''''''' l9'''''''' l9''''''''' l9'''''''''' l9''''''''''') (0 + Int.toNat t17 * 1)) &&
         true &&
        true))))
      true)
      true))
    (Am.mergeR true
     (Am.mergeR
     (!(!decide (t17 = t13) &&
      decide
       (V.getInt (nthV (c29 l9 l9' l9'' l9''' l9'''' l9''''' l9'''''' l9''''''' l9'''''''' l9''''''''' l9'''''''''' l9''''''''''') (0 + Int.toNat t17 * 1)) =
       V.getInt (nthV (c29 l9 l9' l9'' l9''' l9'''' l9''''' l9'''''' l9''''''' l9'''''''' l9''''''''' l9'''''''''' l9''''''''''') (0 + Int.toNat t14 * 1)))))
     (decide (0 ≤ t17) && decide (t17 < 8) && true &&
      (Nat.ble (Nat.succ (0 + Int.toNat t17 * 1)) 12 &&
       V.isK (Kind.int IntKind.u32)
        (nthV (c29 l15 l15' l15'' l15''' l15'''' l15''''' l15'''''' l15''''''' l15'''''''' l15''''''''' l15'''''''''' l15''''''''''') (0 + Int.toNat t17 * 1)) &&
       true &&
      (decide (0 ≤ t17) && decide (t17 < 8) && true &&
       (Nat.ble (Nat.succ (0 + Int.toNat t17 * 1)) 12 &&
        V.isK (Kind.int IntKind.u32)
         (nthV (c29 l9 l9' l9'' l9''' l9'''' l9''''' l9'''''' l9''''''' l9'''''''' l9''''''''' l9'''''''''' l9''''''''''') (0 + Int.toNat t17 * 1)) &&
        true &&
       true))))
     true)
     true))
    (br
    (bif
     !decide (t17 = t13) &&
      decide
      (V.getInt (nthV (c29 l9 l9' l9'' l9''' l9'''' l9''''' l9'''''' l9''''''' l9'''''''' l9''''''''' l9'''''''''' l9''''''''''') (0 + Int.toNat t17 * 1)) =
       V.getInt (nthV (c29 l9 l9' l9'' l9''' l9'''' l9''''' l9'''''' l9''''''' l9'''''''' l9''''''''' l9'''''''''' l9''''''''''') (0 + Int.toNat t14 * 1))) then
     bif
      !!decide
       (V.getInt
        (nthV (c29 l15 l15' l15'' l15''' l15'''' l15''''' l15'''''' l15''''''' l15'''''''' l15''''''''' l15'''''''''' l15''''''''''') (0 + Int.toNat t17 * 1)) =
        0) then
     !(!decide (t17 = t13) &&
       decide
       (V.getInt (nthV (c29 l9 l9' l9'' l9''' l9'''' l9''''' l9'''''' l9''''''' l9'''''''' l9''''''''' l9'''''''''' l9''''''''''') (0 + Int.toNat t17 * 1)) =
        V.getInt (nthV (c29 l9 l9' l9'' l9''' l9'''' l9''''' l9'''''' l9''''''' l9'''''''' l9''''''''' l9'''''''''' l9''''''''''') (0 + Int.toNat t14 * 1)))) &&
      !decide
       (V.getInt
        (nthV (c29 l15 l15' l15'' l15''' l15'''' l15''''' l15'''''' l15''''''' l15'''''''' l15''''''''' l15'''''''''' l15''''''''''') (0 + Int.toNat t17 * 1)) =
       V.getInt (nthV (c29 l9 l9' l9'' l9''' l9'''' l9''''' l9'''''' l9''''''' l9'''''''' l9''''''''' l9'''''''''' l9''''''''''') (0 + Int.toNat t17 * 1)))
     else true
    else
     !(!decide (t17 = t13) &&
      decide
       (V.getInt (nthV (c29 l9 l9' l9'' l9''' l9'''' l9''''' l9'''''' l9''''''' l9'''''''' l9''''''''' l9'''''''''' l9''''''''''') (0 + Int.toNat t17 * 1)) =
       V.getInt (nthV (c29 l9 l9' l9'' l9''' l9'''' l9''''' l9'''''' l9''''''' l9'''''''' l9''''''''' l9'''''''''' l9''''''''''') (0 + Int.toNat t14 * 1)))) &&
     !decide
      (V.getInt
       (nthV (c29 l15 l15' l15'' l15''' l15'''' l15''''' l15'''''' l15''''''' l15'''''''' l15''''''''' l15'''''''''' l15''''''''''') (0 + Int.toNat t17 * 1)) =
       V.getInt (nthV (c29 l9 l9' l9'' l9''' l9'''' l9''''' l9'''''' l9''''''' l9'''''''' l9''''''''' l9'''''''''' l9''''''''''') (0 + Int.toNat t17 * 1))))
    (Kr (St.mk (Am.look [(8, T.v (V.bool false))]) (Am.look []) H))
    (br
     (!decide (t17 = t13) &&
     decide
      (V.getInt (nthV (c29 l9 l9' l9'' l9''' l9'''' l9''''' l9'''''' l9''''''' l9'''''''' l9''''''''' l9'''''''''' l9''''''''''') (0 + Int.toNat t17 * 1)) =
      V.getInt (nthV (c29 l9 l9' l9'' l9''' l9'''' l9''''' l9'''''' l9''''''' l9'''''''' l9''''''''' l9'''''''''' l9''''''''''') (0 + Int.toNat t14 * 1))))
     (br (!decide (l15'''''''' = 0))
     (Am.Rec.call (Am.Run env) 18
      [V.agg (c29 l15 l15' l15'' l15''' l15'''' l15''''' l15'''''' l15''''''' l15'''''''' l15''''''''' l15'''''''''' l15'''''''''''), V.int IntKind.i64 t17,
      V.bool true]
      H fun v H' ↦
      req (V.isK Kind.bool v)
      (br (V.getBool v) (Kr (St.mk (Am.look [(8, T.v (V.bool false))]) (Am.look []) H'))
       (Am.Rec.loop (Am.Run env) (Am.loopAt env 5 22) 5 22
       (St.mk
        (Am.look
        [(9, T.lp 9 0), (13, T.v (V.int IntKind.i64 t13)), (14, T.v (V.int IntKind.i64 t14)), (15, T.lp 15 0),
         (17, T.v (V.int IntKind.i64 (IntKind.wrap IntKind.i64 (t17 + 1))))])
        (Am.look
        [(9, Loc.cells 30 (c29 l9 l9' l9'' l9''' l9'''' l9''''' l9'''''' l9''''''' l9'''''''' l9''''''''' l9'''''''''' l9''''''''''')),
         (15, Loc.cells 30 (c29 l15 l15' l15'' l15''' l15'''' l15''''' l15'''''' l15''''''' l15'''''''' l15''''''''' l15'''''''''' l15'''''''''''))])
        H')
       Kr Ke)))
     (Am.Rec.loop (Am.Run env) (Am.loopAt env 5 22) 5 22
      (St.mk
      (Am.look
       [(9, T.lp 9 0), (13, T.v (V.int IntKind.i64 t13)), (14, T.v (V.int IntKind.i64 t14)), (15, T.lp 15 0),
       (17, T.v (V.int IntKind.i64 (IntKind.wrap IntKind.i64 (t17 + 1))))])
      (Am.look
       [(9, Loc.cells 30 (c29 l9 l9' l9'' l9''' l9'''' l9''''' l9'''''' l9''''''' l9'''''''' l9''''''''' l9'''''''''' l9''''''''''')),
       (15, Loc.cells 30 (c29 l15 l15' l15'' l15''' l15'''' l15''''' l15'''''' l15''''''' l15'''''''' l15''''''''' l15'''''''''' l15'''''''''''))])
      H)
      Kr Ke))
     (Am.Rec.loop (Am.Run env) (Am.loopAt env 5 22) 5 22
     (St.mk
      (Am.look
      [(9, T.lp 9 0), (13, T.v (V.int IntKind.i64 t13)), (14, T.v (V.int IntKind.i64 t14)), (15, T.lp 15 0),
       (17, T.v (V.int IntKind.i64 (IntKind.wrap IntKind.i64 (t17 + 1))))])
      (Am.look
      [(9, Loc.cells 30 (c29 l9 l9' l9'' l9''' l9'''' l9''''' l9'''''' l9''''''' l9'''''''' l9''''''''' l9'''''''''' l9''''''''''')),
       (15, Loc.cells 30 (c29 l15 l15' l15'' l15''' l15'''' l15''''' l15'''''' l15''''''' l15'''''''' l15''''''''' l15'''''''''' l15'''''''''''))])
      H)
     Kr Ke)))))
   (Ke 2
   (St.mk (Am.look [(9, T.lp 9 0), (13, T.v (V.int IntKind.i64 t13)), (14, T.v (V.int IntKind.i64 t14)), (15, T.lp 15 0)])
    (Am.look
    [(9, Loc.cells 30 (c29 l9 l9' l9'' l9''' l9'''' l9''''' l9'''''' l9''''''' l9'''''''' l9''''''''' l9'''''''''' l9''''''''''')),
     (15, Loc.cells 30 (c29 l15 l15' l15'' l15''' l15'''' l15''''' l15'''''' l15''''''' l15'''''''' l15''''''''' l15'''''''''' l15'''''''''''))])
    H)) :=
  fun t13 t14 t17 l9 l9' l9'' l9''' l9'''' l9''''' l9'''''' l9''''''' l9'''''''' l9''''''''' l9'''''''''' l9''''''''''' l15 l15' l15'' l15''' l15'''' l15''''' l15'''''' l15''''''' l15'''''''' l15''''''''' l15'''''''''' l15''''''''''' H Kr Ke => (Run_loop (E := env)).trans (by kernel_rfl)

theorem lp5_6 : ∀ (t0_0 : Option (Nat × Nat)) (t0_1 t0_2 : Nat) (t1 t2 t3 t10 l9 l9' l9'' l9''' l9'''' l9''''' l9'''''' l9''''''' l9'''''''' l9''''''''' l9'''''''''' : Int) (l9''''''''''' : Bool) (H : Am.Heap) (Kr : Am.St → Prop)
  (Ke : Nat → Am.St → Prop),
  Am.Rec.loop (Am.Run env) (Am.loopAt env 5 6) 5 6
   (St.mk
   (Am.look
    [(0, T.v (V.slice t0_0 t0_1 t0_2)), (1, T.v (V.int IntKind.u8 t1)), (2, T.v (V.int IntKind.u8 t2)), (3, T.v (V.int IntKind.u8 t3)), (9, T.lp 9 0),
    (10, T.v (V.int IntKind.i64 t10))])
   (Am.look [(9, Loc.cells 30 (c29 l9 l9' l9'' l9''' l9'''' l9''''' l9'''''' l9''''''' l9'''''''' l9''''''''' l9'''''''''' l9'''''''''''))]) H)
   Kr Ke =
  br (decide (t10 < (↑t0_1 : Int)) && decide (t10 < 30))
   (req (decide (0 ≤ t10) && decide (t10 < (↑t0_1 : Int)) && Option.isSome t0_0)
   (req
    (Am.Heap.inb H (Option.getD t0_0 (0, 0)).1 ((Option.getD t0_0 (0, 0)).2 + Int.toNat t10 * 7) 7 &&
    Am.fits k33 (Am.Heap.sub H (Option.getD t0_0 (0, 0)).1 ((Option.getD t0_0 (0, 0)).2 + Int.toNat t10 * 7) 7))
    (Am.Rec.call (Am.Run env) 12
    [V.agg (o33 (Am.Heap.sub H (Option.getD t0_0 (0, 0)).1 ((Option.getD t0_0 (0, 0)).2 + Int.toNat t10 * 7) 7)),
     V.agg (c29 l9 l9' l9'' l9''' l9'''' l9''''' l9'''''' l9''''''' l9'''''''' l9''''''''' l9'''''''''' l9''''''''''')]
    H fun v H' ↦
    req
     (V.isTuple 2 v &&
     (V.isK (Kind.int IntKind.i64) (nthV (V.vals v) 0) &&
      (V.isAgg (nthV (V.vals v) 1) && Am.fits k25 (V.aggCells (nthV (V.vals v) 1)) || false)))
     (Am.Rec.call (Am.Run env) 13
     [V.agg (c29 l9 l9' l9'' l9''' l9'''' l9''''' l9'''''' l9''''''' l9'''''''' l9''''''''' l9'''''''''' l9'''''''''''),
      V.int IntKind.i64 (V.getInt (nthV (V.vals v) 0)), V.agg (o25 (V.aggCells (nthV (V.vals v) 1)))]
     H' fun v H' ↦
     req
      (V.isTuple 2 v &&
      (V.isAgg (nthV (V.vals v) 0) && Am.fits k29 (V.aggCells (nthV (V.vals v) 0)) &&
       (V.isK (Kind.int IntKind.i64) (nthV (V.vals v) 1) || false)))
      (Am.Rec.loop (Am.Run env) (Am.loopAt env 5 6) 5 6
      (St.mk
       (Am.look
       [(0, T.v (V.slice t0_0 t0_1 t0_2)), (1, T.v (V.int IntKind.u8 t1)), (2, T.v (V.int IntKind.u8 t2)), (3, T.v (V.int IntKind.u8 t3)),
        (9, T.lp 9 0), (10, T.v (V.int IntKind.i64 (IntKind.wrap IntKind.i64 (t10 + 1))))])
       (Am.look [(9, Loc.cells 30 (o29 (V.aggCells (nthV (V.vals v) 0))))]) H')
      Kr Ke)))))
   (Ke 0
   (St.mk (Am.look [(1, T.v (V.int IntKind.u8 t1)), (2, T.v (V.int IntKind.u8 t2)), (3, T.v (V.int IntKind.u8 t3)), (9, T.lp 9 0)])
    (Am.look [(9, Loc.cells 30 (c29 l9 l9' l9'' l9''' l9'''' l9''''' l9'''''' l9''''''' l9'''''''' l9''''''''' l9'''''''''' l9'''''''''''))]) H)) :=
  fun t0_0 t0_1 t0_2 t1 t2 t3 t10 l9 l9' l9'' l9''' l9'''' l9''''' l9'''''' l9''''''' l9'''''''' l9''''''''' l9'''''''''' l9''''''''''' H Kr Ke => (Run_loop (E := env)).trans (by kernel_rfl)

theorem eq6 : ∀ (x0p : Option (Nat × Nat)) (x0n x0c : Nat) (H : Am.Heap) (K : Am.V → Am.Heap → Prop),
  Am.Rec.call (Am.Run env) 6 [V.slice x0p x0n x0c] H K =
  Am.Rec.call (Am.Run env) 10 [] H fun v H' ↦
   req (V.isK Kind.bool v)
   (br (!V.getBool v) (K (V.bool false) H')
    (Am.Rec.call (Am.Run env) 11 [] H' fun v H' ↦
    req (V.isAgg v && Am.fits k29 (V.aggCells v))
     (Am.Rec.loop (Am.Run env) (Am.loopAt env 6 6) 6 6
     (St.mk (Am.look [(0, T.v (V.slice x0p x0n x0c)), (3, T.lp 3 0), (4, T.v (V.int IntKind.i64 0))])
      (Am.look [(3, Loc.cells 30 (o29 (V.aggCells v)))]) H')
     (fun S' ↦ req (Am.isKT (KT.k Kind.bool) (S'.1 2) || false || false) (K (V.bool (V.getBool (T.val (S'.1 2)))) S'.3)) fun j S' ↦
     br (Nat.beq j 0) (K (V.bool true) S'.3) False))) :=
  fun x0p x0n x0c H K => (Run_call (E := env)).trans (by kernel_rfl)

theorem lp6_6 : ∀ (t0_0 : Option (Nat × Nat)) (t0_1 t0_2 : Nat) (t4 l3 l3' l3'' l3''' l3'''' l3''''' l3'''''' l3''''''' l3'''''''' l3''''''''' l3'''''''''' : Int) (l3''''''''''' : Bool) (H : Am.Heap) (Kr : Am.St → Prop)
  (Ke : Nat → Am.St → Prop),
  Am.Rec.loop (Am.Run env) (Am.loopAt env 6 6) 6 6
   (St.mk (Am.look [(0, T.v (V.slice t0_0 t0_1 t0_2)), (3, T.lp 3 0), (4, T.v (V.int IntKind.i64 t4))])
   (Am.look [(3, Loc.cells 30 (c29 l3 l3' l3'' l3''' l3'''' l3''''' l3'''''' l3''''''' l3'''''''' l3''''''''' l3'''''''''' l3'''''''''''))]) H)
   Kr Ke =
  br (decide (t4 < (↑t0_1 : Int)) && decide (t4 < 80))
   (req (decide (0 ≤ t4) && decide (t4 < (↑t0_1 : Int)) && Option.isSome t0_0)
   (req
    (Am.Heap.inb H (Option.getD t0_0 (0, 0)).1 ((Option.getD t0_0 (0, 0)).2 + Int.toNat t4 * 7) 7 &&
    Am.fits k33 (Am.Heap.sub H (Option.getD t0_0 (0, 0)).1 ((Option.getD t0_0 (0, 0)).2 + Int.toNat t4 * 7) 7))
    (Am.Rec.call (Am.Run env) 12
    [V.agg (o33 (Am.Heap.sub H (Option.getD t0_0 (0, 0)).1 ((Option.getD t0_0 (0, 0)).2 + Int.toNat t4 * 7) 7)),
     V.agg (c29 l3 l3' l3'' l3''' l3'''' l3''''' l3'''''' l3''''''' l3'''''''' l3''''''''' l3'''''''''' l3''''''''''')]
    H fun v H' ↦
    req
     (V.isTuple 2 v &&
     (V.isK (Kind.int IntKind.i64) (nthV (V.vals v) 0) &&
      (V.isAgg (nthV (V.vals v) 1) && Am.fits k25 (V.aggCells (nthV (V.vals v) 1)) || false)))
     (Am.Rec.call (Am.Run env) 13
     [V.agg (c29 l3 l3' l3'' l3''' l3'''' l3''''' l3'''''' l3''''''' l3'''''''' l3''''''''' l3'''''''''' l3'''''''''''),
      V.int IntKind.i64 (V.getInt (nthV (V.vals v) 0)), V.agg (o25 (V.aggCells (nthV (V.vals v) 1)))]
     H' fun v_1 H' ↦
     req
      (V.isTuple 2 v_1 &&
      (V.isAgg (nthV (V.vals v_1) 0) && Am.fits k29 (V.aggCells (nthV (V.vals v_1) 0)) &&
       (V.isK (Kind.int IntKind.i64) (nthV (V.vals v_1) 1) || false)))
      (br
      (bif
       decide (V.getInt (nthV (V.vals v_1) 1) = 0) &&
        bif !decide (V.getInt (nthV (V.aggCells (nthV (V.vals v) 1)) 0) = 4) then
        bif !decide (V.getInt (nthV (V.aggCells (nthV (V.vals v) 1)) 0) = 7) then
         decide (V.getInt (nthV (V.aggCells (nthV (V.vals v) 1)) 0) = 8)
        else true
        else true then
       bif !!decide (V.getInt (nthV (V.aggCells (nthV (V.vals v_1) 0)) 10) = IntKind.wrap IntKind.u32 (l3'''''''''' + 1)) then
       !(decide (V.getInt (nthV (V.vals v_1) 1) = 0) &&
         bif !decide (V.getInt (nthV (V.aggCells (nthV (V.vals v) 1)) 0) = 4) then
         bif !decide (V.getInt (nthV (V.aggCells (nthV (V.vals v) 1)) 0) = 7) then
          decide (V.getInt (nthV (V.aggCells (nthV (V.vals v) 1)) 0) = 8)
         else true
         else true) &&
        !decide (V.getInt (nthV (V.aggCells (nthV (V.vals v_1) 0)) 10) = l3'''''''''')
       else true
      else
       !(decide (V.getInt (nthV (V.vals v_1) 1) = 0) &&
        bif !decide (V.getInt (nthV (V.aggCells (nthV (V.vals v) 1)) 0) = 4) then
         bif !decide (V.getInt (nthV (V.aggCells (nthV (V.vals v) 1)) 0) = 7) then
         decide (V.getInt (nthV (V.aggCells (nthV (V.vals v) 1)) 0) = 8)
         else true
        else true) &&
       !decide (V.getInt (nthV (V.aggCells (nthV (V.vals v_1) 0)) 10) = l3''''''''''))
      (Kr (St.mk (Am.look [(2, T.v (V.bool false))]) (Am.look []) H'))
      (Am.Rec.loop (Am.Run env) (Am.loopAt env 6 6) 6 6
       (St.mk (Am.look [(0, T.v (V.slice t0_0 t0_1 t0_2)), (3, T.lp 3 0), (4, T.v (V.int IntKind.i64 (IntKind.wrap IntKind.i64 (t4 + 1))))])
       (Am.look [(3, Loc.cells 30 (o29 (V.aggCells (nthV (V.vals v_1) 0))))]) H')
       Kr Ke))))))
   (Ke 0 (St.mk (Am.look []) (Am.look []) H)) :=
  fun t0_0 t0_1 t0_2 t4 l3 l3' l3'' l3''' l3'''' l3''''' l3'''''' l3''''''' l3'''''''' l3''''''''' l3'''''''''' l3''''''''''' H Kr Ke => (Run_loop (E := env)).trans (by kernel_rfl)

theorem eq7 : ∀ (x0p : Option (Nat × Nat)) (x0n x0c : Nat) (x1 : Int) (H : Am.Heap) (K : Am.V → Am.Heap → Prop),
  Am.Rec.call (Am.Run env) 7 [V.slice x0p x0n x0c, V.int IntKind.u8 x1] H K =
  Am.Rec.call (Am.Run env) 10 [] H fun v H' ↦
   req (V.isK Kind.bool v)
   (br (!V.getBool v) (K (V.bool false) H')
    (Am.Rec.call (Am.Run env) 11 [] H' fun v H' ↦
    req (V.isAgg v && Am.fits k29 (V.aggCells v))
     (Am.Rec.loop (Am.Run env) (Am.loopAt env 7 6) 7 6
     (St.mk (Am.look [(0, T.v (V.slice x0p x0n x0c)), (1, T.v (V.int IntKind.u8 x1)), (5, T.lp 5 0), (6, T.v (V.int IntKind.i64 0))])
      (Am.look [(5, Loc.cells 30 (o29 (V.aggCells v)))]) H')
     (fun S' ↦ False) fun j S' ↦
     br (Nat.beq j 0)
      (req
      (Am.isKT (KT.k (Kind.int IntKind.u8)) (S'.1 1) && (Am.isKT (KT.lp 5) (S'.1 5) || false) && (Am.isLK 30 k29 (S'.2 5) || false))
      (req
       (decide (0 ≤ IntKind.wrap IntKind.i64 (Int.tmod (V.getInt (T.val (S'.1 1))) 8)) &&
       decide (IntKind.wrap IntKind.i64 (Int.tmod (V.getInt (T.val (S'.1 1))) 8) < 8))
       (req
       (Nat.ble (Nat.succ (0 + Int.toNat (IntKind.wrap IntKind.i64 (Int.tmod (V.getInt (T.val (S'.1 1))) 8)) * 1)) 12 &&
        V.isK (Kind.int IntKind.u32)
        (nthV (o29 (Am.locCells (S'.2 5))) (0 + Int.toNat (IntKind.wrap IntKind.i64 (Int.tmod (V.getInt (T.val (S'.1 1))) 8)) * 1)))
       (Am.Rec.call (Am.Run env) 13
        [V.agg (o29 (Am.locCells (S'.2 5))), V.int IntKind.i64 (IntKind.wrap IntKind.i64 (Int.tmod (V.getInt (T.val (S'.1 1))) 8)),
        V.agg
         (c25 7 0 Option.none 0 0 false
         (V.getInt
          (nthV (o29 (Am.locCells (S'.2 5))) (0 + Int.toNat (IntKind.wrap IntKind.i64 (Int.tmod (V.getInt (T.val (S'.1 1))) 8)) * 1)))
         0 0 false)]
        S'.3 fun v H' ↦
        req
        (V.isTuple 2 v &&
         (V.isAgg (nthV (V.vals v) 0) && Am.fits k29 (V.aggCells (nthV (V.vals v) 0)) &&
         (V.isK (Kind.int IntKind.i64) (nthV (V.vals v) 1) || false)))
        (req
         (decide (0 ≤ IntKind.wrap IntKind.i64 (Int.tmod (V.getInt (T.val (S'.1 1))) 8)) &&
         decide (IntKind.wrap IntKind.i64 (Int.tmod (V.getInt (T.val (S'.1 1))) 8) < 8))
         (req
         (Nat.ble (Nat.succ (0 + Int.toNat (IntKind.wrap IntKind.i64 (Int.tmod (V.getInt (T.val (S'.1 1))) 8)) * 1)) 12 &&
          V.isK (Kind.int IntKind.u32)
          (nthV (o29 (Am.locCells (S'.2 5))) (0 + Int.toNat (IntKind.wrap IntKind.i64 (Int.tmod (V.getInt (T.val (S'.1 1))) 8)) * 1)))
         (br
          (decide
          (V.getInt
           (nthV (o29 (Am.locCells (S'.2 5))) (0 + Int.toNat (IntKind.wrap IntKind.i64 (Int.tmod (V.getInt (T.val (S'.1 1))) 8)) * 1)) =
           0))
          (K
          (V.bool
           (decide (V.getInt (nthV (V.vals v) 1) = 13) &&
           (decide (V.getInt (nthV (V.aggCells (nthV (V.vals v) 0)) 0) = V.getInt (nthV (Am.locCells (S'.2 5)) 0)) &&
            (decide (V.getInt (nthV (V.aggCells (nthV (V.vals v) 0)) 1) = V.getInt (nthV (Am.locCells (S'.2 5)) 1)) &&
            (decide (V.getInt (nthV (V.aggCells (nthV (V.vals v) 0)) 2) = V.getInt (nthV (Am.locCells (S'.2 5)) 2)) &&
             (decide (V.getInt (nthV (V.aggCells (nthV (V.vals v) 0)) 3) = V.getInt (nthV (Am.locCells (S'.2 5)) 3)) &&
             (decide (V.getInt (nthV (V.aggCells (nthV (V.vals v) 0)) 4) = V.getInt (nthV (Am.locCells (S'.2 5)) 4)) &&
              (decide (V.getInt (nthV (V.aggCells (nthV (V.vals v) 0)) 5) = V.getInt (nthV (Am.locCells (S'.2 5)) 5)) &&
              (decide (V.getInt (nthV (V.aggCells (nthV (V.vals v) 0)) 6) = V.getInt (nthV (Am.locCells (S'.2 5)) 6)) &&
               (decide (V.getInt (nthV (V.aggCells (nthV (V.vals v) 0)) 7) = V.getInt (nthV (Am.locCells (S'.2 5)) 7)) &&
               (decide (V.getInt (nthV (V.aggCells (nthV (V.vals v) 0)) 8) = V.getInt (nthV (Am.locCells (S'.2 5)) 8)) &&
                (decide (V.getInt (nthV (V.aggCells (nthV (V.vals v) 0)) 9) = V.getInt (nthV (Am.locCells (S'.2 5)) 9)) &&
                (decide
                 (V.getInt (nthV (V.aggCells (nthV (V.vals v) 0)) 10) = V.getInt (nthV (Am.locCells (S'.2 5)) 10)) &&
                 (decide
                  (V.getBool (nthV (V.aggCells (nthV (V.vals v) 0)) 11) = V.getBool (nthV (Am.locCells (S'.2 5)) 11)) ||
                 false))))))))))))))
          H')
          (Am.Rec.loop (Am.Run env) (Am.loopAt env 7 18) 7 18
          (St.mk
           (Am.look [(10, T.lp 10 0), (11, T.v (V.int IntKind.i64 (V.getInt (nthV (V.vals v) 1)))), (12, T.v (V.int IntKind.i64 0))])
           (Am.look [(10, Loc.cells 30 (o29 (V.aggCells (nthV (V.vals v) 0))))]) H')
          (fun S' ↦ req (Am.isKT (KT.k Kind.bool) (S'.1 4) || false || false) (K (V.bool (V.getBool (T.val (S'.1 4)))) S'.3)) fun j S' ↦
          br (Nat.beq j 2)
           (req
           (Am.isKT (KT.lp 10) (S'.1 10) && (Am.isKT (KT.k (Kind.int IntKind.i64)) (S'.1 11) || false) &&
            (Am.isLK 30 k29 (S'.2 10) || false))
           (K
            (V.bool
            (decide (V.getInt (T.val (S'.1 11)) = 0) &&
             (decide (V.getInt (nthV (Am.locCells (S'.2 10)) 8) = 0) && decide (V.getInt (nthV (Am.locCells (S'.2 10)) 9) = -1))))
            S'.3))
           False))))))))
      False))) :=
  fun x0p x0n x0c x1 H K => (Run_call (E := env)).trans (by kernel_rfl)

theorem lp7_18 : ∀ (t11 t12 l10 l10' l10'' l10''' l10'''' l10''''' l10'''''' l10''''''' l10'''''''' l10''''''''' l10'''''''''' : Int) (l10''''''''''' : Bool) (H : Am.Heap) (Kr : Am.St → Prop) (Ke : Nat → Am.St → Prop),
  Am.Rec.loop (Am.Run env) (Am.loopAt env 7 18) 7 18
   (St.mk (Am.look [(10, T.lp 10 0), (11, T.v (V.int IntKind.i64 t11)), (12, T.v (V.int IntKind.i64 t12))])
   (Am.look [(10, Loc.cells 30 (c29 l10 l10' l10'' l10''' l10'''' l10''''' l10'''''' l10''''''' l10'''''''' l10''''''''' l10'''''''''' l10'''''''''''))]) H)
   Kr Ke =
  br (decide (t12 < 8))
   (req (decide (0 ≤ t12) && decide (t12 < 8))
   (req
    (Nat.ble (Nat.succ (0 + Int.toNat t12 * 1)) 12 &&
    V.isK (Kind.int IntKind.u32)
     (nthV (c29 l10 l10' l10'' l10''' l10'''' l10''''' l10'''''' l10''''''' l10'''''''' l10''''''''' l10'''''''''' l10''''''''''') (0 + Int.toNat t12 * 1)))
    (br
    (!!decide
      (V.getInt (nthV (c29 l10 l10' l10'' l10''' l10'''' l10''''' l10'''''' l10''''''' l10'''''''' l10''''''''' l10'''''''''' l10''''''''''') (0 + Int.toNat t12 * 1)) =
      0))
    (Am.Rec.call (Am.Run env) 18
     [V.agg (c29 l10 l10' l10'' l10''' l10'''' l10''''' l10'''''' l10''''''' l10'''''''' l10''''''''' l10'''''''''' l10'''''''''''), V.int IntKind.i64 t12,
     V.bool true]
     H fun v H' ↦
     req (V.isK Kind.bool v)
     (br (!!V.getBool v)
      (Am.Rec.call (Am.Run env) 17
      [V.agg (c29 l10 l10' l10'' l10''' l10'''' l10''''' l10'''''' l10''''''' l10'''''''' l10''''''''' l10'''''''''' l10'''''''''''), V.int IntKind.i64 t12] H'
      fun v H' ↦
      req (V.isK Kind.bool v)
       (br (V.getBool v) (Kr (St.mk (Am.look [(4, T.v (V.bool false))]) (Am.look []) H'))
       (Am.Rec.loop (Am.Run env) (Am.loopAt env 7 18) 7 18
        (St.mk (Am.look [(10, T.lp 10 0), (11, T.v (V.int IntKind.i64 t11)), (12, T.v (V.int IntKind.i64 (IntKind.wrap IntKind.i64 (t12 + 1))))])
        (Am.look [(10, Loc.cells 30 (c29 l10 l10' l10'' l10''' l10'''' l10''''' l10'''''' l10''''''' l10'''''''' l10''''''''' l10'''''''''' l10'''''''''''))]) H')
        Kr Ke)))
      (Kr (St.mk (Am.look [(4, T.v (V.bool false))]) (Am.look []) H'))))
    (Kr (St.mk (Am.look [(4, T.v (V.bool false))]) (Am.look []) H)))))
   (Ke 2
   (St.mk (Am.look [(10, T.lp 10 0), (11, T.v (V.int IntKind.i64 t11))])
    (Am.look [(10, Loc.cells 30 (c29 l10 l10' l10'' l10''' l10'''' l10''''' l10'''''' l10''''''' l10'''''''' l10''''''''' l10'''''''''' l10'''''''''''))]) H)) :=
  fun t11 t12 l10 l10' l10'' l10''' l10'''' l10''''' l10'''''' l10''''''' l10'''''''' l10''''''''' l10'''''''''' l10''''''''''' H Kr Ke => (Run_loop (E := env)).trans (by kernel_rfl)

theorem lp7_6 : ∀ (t0_0 : Option (Nat × Nat)) (t0_1 t0_2 : Nat) (t1 t6 l5 l5' l5'' l5''' l5'''' l5''''' l5'''''' l5''''''' l5'''''''' l5''''''''' l5'''''''''' : Int) (l5''''''''''' : Bool) (H : Am.Heap) (Kr : Am.St → Prop)
  (Ke : Nat → Am.St → Prop),
  Am.Rec.loop (Am.Run env) (Am.loopAt env 7 6) 7 6
   (St.mk (Am.look [(0, T.v (V.slice t0_0 t0_1 t0_2)), (1, T.v (V.int IntKind.u8 t1)), (5, T.lp 5 0), (6, T.v (V.int IntKind.i64 t6))])
   (Am.look [(5, Loc.cells 30 (c29 l5 l5' l5'' l5''' l5'''' l5''''' l5'''''' l5''''''' l5'''''''' l5''''''''' l5'''''''''' l5'''''''''''))]) H)
   Kr Ke =
  br (decide (t6 < (↑t0_1 : Int)) && decide (t6 < 40))
   (req (decide (0 ≤ t6) && decide (t6 < (↑t0_1 : Int)) && Option.isSome t0_0)
   (req
    (Am.Heap.inb H (Option.getD t0_0 (0, 0)).1 ((Option.getD t0_0 (0, 0)).2 + Int.toNat t6 * 7) 7 &&
    Am.fits k33 (Am.Heap.sub H (Option.getD t0_0 (0, 0)).1 ((Option.getD t0_0 (0, 0)).2 + Int.toNat t6 * 7) 7))
    (Am.Rec.call (Am.Run env) 12
    [V.agg (o33 (Am.Heap.sub H (Option.getD t0_0 (0, 0)).1 ((Option.getD t0_0 (0, 0)).2 + Int.toNat t6 * 7) 7)),
     V.agg (c29 l5 l5' l5'' l5''' l5'''' l5''''' l5'''''' l5''''''' l5'''''''' l5''''''''' l5'''''''''' l5''''''''''')]
    H fun v H' ↦
    req
     (V.isTuple 2 v &&
     (V.isK (Kind.int IntKind.i64) (nthV (V.vals v) 0) &&
      (V.isAgg (nthV (V.vals v) 1) && Am.fits k25 (V.aggCells (nthV (V.vals v) 1)) || false)))
     (Am.Rec.call (Am.Run env) 13
     [V.agg (c29 l5 l5' l5'' l5''' l5'''' l5''''' l5'''''' l5''''''' l5'''''''' l5''''''''' l5'''''''''' l5'''''''''''),
      V.int IntKind.i64 (V.getInt (nthV (V.vals v) 0)), V.agg (o25 (V.aggCells (nthV (V.vals v) 1)))]
     H' fun v H' ↦
     req
      (V.isTuple 2 v &&
      (V.isAgg (nthV (V.vals v) 0) && Am.fits k29 (V.aggCells (nthV (V.vals v) 0)) &&
       (V.isK (Kind.int IntKind.i64) (nthV (V.vals v) 1) || false)))
      (Am.Rec.loop (Am.Run env) (Am.loopAt env 7 6) 7 6
      (St.mk
       (Am.look
       [(0, T.v (V.slice t0_0 t0_1 t0_2)), (1, T.v (V.int IntKind.u8 t1)), (5, T.lp 5 0),
        (6, T.v (V.int IntKind.i64 (IntKind.wrap IntKind.i64 (t6 + 1))))])
       (Am.look [(5, Loc.cells 30 (o29 (V.aggCells (nthV (V.vals v) 0))))]) H')
      Kr Ke)))))
   (Ke 0
   (St.mk (Am.look [(1, T.v (V.int IntKind.u8 t1)), (5, T.lp 5 0)])
    (Am.look [(5, Loc.cells 30 (c29 l5 l5' l5'' l5''' l5'''' l5''''' l5'''''' l5''''''' l5'''''''' l5''''''''' l5'''''''''' l5'''''''''''))]) H)) :=
  fun t0_0 t0_1 t0_2 t1 t6 l5 l5' l5'' l5''' l5'''' l5''''' l5'''''' l5''''''' l5'''''''' l5''''''''' l5'''''''''' l5''''''''''' H Kr Ke => (Run_loop (E := env)).trans (by kernel_rfl)

theorem eq8 : ∀ (x0 : Int) (x1 : Bool) (H : Am.Heap) (K : Am.V → Am.Heap → Prop),
  Am.Rec.call (Am.Run env) 8 [V.int IntKind.u8 x0, V.bool x1] H K =
  Am.Rec.call (Am.Run env) 10 [] H fun v H' ↦
   req (V.isK Kind.bool v)
   (br (!V.getBool v) (K (V.bool false) H')
    (Am.Rec.call (Am.Run env) 19 [] H' fun v H' ↦
    req (V.isAgg v && Am.fits k46 (V.aggCells v))
     (req
     (decide (0 ≤ Int.tmod (IntKind.wrap IntKind.i64 x0) 6) && decide (Int.tmod (IntKind.wrap IntKind.i64 x0) 6 < 6) &&
      (Nat.ble (Nat.succ (Int.toNat (Int.tmod (IntKind.wrap IntKind.i64 x0) 6) * 1)) 6 &&
      V.isK (Kind.int IntKind.u8) (nthV (o46 (V.aggCells v)) (Int.toNat (Int.tmod (IntKind.wrap IntKind.i64 x0) 6) * 1))))
     (Am.Rec.call (Am.Run env) 11 [] H' fun v_1 H' ↦
      req (V.isAgg v_1 && Am.fits k29 (V.aggCells v_1))
      (Am.Rec.call (Am.Run env) 13
       [V.agg (o29 (V.aggCells v_1)), V.int IntKind.i64 0, V.agg (c25 4 0 Option.none 0 0 false 0 3 0 x1)] H'
       fun v_2 H' ↦
       req
       (V.isTuple 2 v_2 &&
        (V.isAgg (nthV (V.vals v_2) 0) && Am.fits k29 (V.aggCells (nthV (V.vals v_2) 0)) &&
        (V.isK (Kind.int IntKind.i64) (nthV (V.vals v_2) 1) || false)))
       (Am.Rec.call (Am.Run env) 13
        [V.agg (o29 (V.aggCells (nthV (V.vals v_2) 0))), V.int IntKind.i64 1,
        V.agg (c25 4 0 Option.none 0 0 false 0 4 0 x1)]
        H' fun v_3 H' ↦
        req
        (V.isTuple 2 v_3 &&
         (V.isAgg (nthV (V.vals v_3) 0) && Am.fits k29 (V.aggCells (nthV (V.vals v_3) 0)) &&
         (V.isK (Kind.int IntKind.i64) (nthV (V.vals v_3) 1) || false)))
        (Am.Rec.call (Am.Run env) 13
         [V.agg (o29 (V.aggCells (nthV (V.vals v_3) 0))), V.int IntKind.i64 0,
         V.agg
          (c25 5 0 Option.none 0 0 false 3 0
          (V.getInt (nthV (o46 (V.aggCells v)) (Int.toNat (Int.tmod (IntKind.wrap IntKind.i64 x0) 6) * 1))) false)]
         H' fun v_4 H' ↦
         req
         (V.isTuple 2 v_4 &&
          (V.isAgg (nthV (V.vals v_4) 0) && Am.fits k29 (V.aggCells (nthV (V.vals v_4) 0)) &&
          (V.isK (Kind.int IntKind.i64) (nthV (V.vals v_4) 1) || false)))
         (Am.joinP
          (fun Q ↦
          br (!!decide (V.getInt (nthV (V.vals v_4) 1) = 0))
           (Am.Rec.call (Am.Run env) 18
           [V.agg (o29 (V.aggCells (nthV (V.vals v_4) 0))), V.int IntKind.i64 0, V.bool true] H' fun v H' ↦
           req (V.isK Kind.bool v)
            (br (!!V.getBool v)
            (Am.Rec.call (Am.Run env) 18
             [V.agg (o29 (V.aggCells (nthV (V.vals v_4) 0))), V.int IntKind.i64 0, V.bool false] H' fun v H' ↦
             req (V.isK Kind.bool v)
             (br (!!V.getBool v)
              (Am.Rec.call (Am.Run env) 18
              [V.agg (o29 (V.aggCells (nthV (V.vals v_4) 0))), V.int IntKind.i64 2, V.bool true] H' fun v H' ↦
              req (V.isK Kind.bool v) (Q (St.mk (Am.look [(54, T.v (V.bool (V.getBool v)))]) (Am.look []) H')))
              (Q (St.mk (Am.look [(54, T.v (V.bool true))]) (Am.look []) H'))))
            (Q (St.mk (Am.look [(54, T.v (V.bool true))]) (Am.look []) H'))))
           (Q (St.mk (Am.look [(54, T.v (V.bool true))]) (Am.look []) H')))
          fun S' ↦
          req (Am.isKT (KT.k Kind.bool) (S'.1 54) || false || false)
          (br (V.getBool (T.val (S'.1 54))) (K (V.bool false) S'.3)
           (Am.Rec.call (Am.Run env) 18
           [V.agg (o29 (V.aggCells (nthV (V.vals v_4) 0))), V.int IntKind.i64 1, V.bool true] S'.3 fun v_5 H' ↦
           req (V.isK Kind.bool v_5)
            (br
            (decide
             (V.getBool v_5 =
             decide (V.getInt (nthV (o46 (V.aggCells v)) (Int.toNat (Int.tmod (IntKind.wrap IntKind.i64 x0) 6) * 1)) ≥ 5)))
            (Am.Rec.call (Am.Run env) 18
             [V.agg (o29 (V.aggCells (nthV (V.vals v_4) 0))), V.int IntKind.i64 1, V.bool false] H' fun v_6 H' ↦
             req (V.isK Kind.bool v_6)
             (br
              (decide
              (V.getBool v_6 =
               bif
                !decide
                 (V.getInt (nthV (o46 (V.aggCells v)) (Int.toNat (Int.tmod (IntKind.wrap IntKind.i64 x0) 6) * 1)) = 1) then
               decide
                (V.getInt (nthV (o46 (V.aggCells v)) (Int.toNat (Int.tmod (IntKind.wrap IntKind.i64 x0) 6) * 1)) ≥ 5)
               else true))
              (Am.Rec.call (Am.Run env) 18
              [V.agg (o29 (V.aggCells (nthV (V.vals v_4) 0))), V.int IntKind.i64 2, V.bool false] H'
              fun v_7 H' ↦
              req (V.isK Kind.bool v_7)
               (br
               (!decide
                (V.getInt (nthV (o46 (V.aggCells v)) (Int.toNat (Int.tmod (IntKind.wrap IntKind.i64 x0) 6) * 1)) = 1))
               (br
                (!decide
                 (V.getInt (nthV (o46 (V.aggCells v)) (Int.toNat (Int.tmod (IntKind.wrap IntKind.i64 x0) 6) * 1)) = 5))
                (br
                (decide
                 (V.getBool v_7 =
                 decide
                  (V.getInt (nthV (o46 (V.aggCells v)) (Int.toNat (Int.tmod (IntKind.wrap IntKind.i64 x0) 6) * 1)) = 7)))
                (Am.Rec.call (Am.Run env) 20
                 [V.agg (o29 (V.aggCells (nthV (V.vals v_4) 0))), V.int IntKind.i64 2, V.bool false] H'
                 fun v H' ↦
                 req (V.isK Kind.bool v)
                 (Am.Rec.call (Am.Run env) 18
                  [V.agg (o29 (V.aggCells (nthV (V.vals v_4) 0))), V.int IntKind.i64 2, V.bool false]
                  H' fun v_8 H' ↦ req (V.isK Kind.bool v_8) (K (V.bool (decide (V.getBool v = V.getBool v_8))) H')))
                (K (V.bool false) H'))
                (br (decide (V.getBool v_7 = true))
                (Am.Rec.call (Am.Run env) 20
                 [V.agg (o29 (V.aggCells (nthV (V.vals v_4) 0))), V.int IntKind.i64 2, V.bool false] H'
                 fun v H' ↦
                 req (V.isK Kind.bool v)
                 (Am.Rec.call (Am.Run env) 18
                  [V.agg (o29 (V.aggCells (nthV (V.vals v_4) 0))), V.int IntKind.i64 2, V.bool false]
                  H' fun v_8 H' ↦ req (V.isK Kind.bool v_8) (K (V.bool (decide (V.getBool v = V.getBool v_8))) H')))
                (K (V.bool false) H')))
               (br (decide (V.getBool v_7 = true))
                (Am.Rec.call (Am.Run env) 20
                [V.agg (o29 (V.aggCells (nthV (V.vals v_4) 0))), V.int IntKind.i64 2, V.bool false] H'
                fun v H' ↦
                req (V.isK Kind.bool v)
                 (Am.Rec.call (Am.Run env) 18
                 [V.agg (o29 (V.aggCells (nthV (V.vals v_4) 0))), V.int IntKind.i64 2, V.bool false]
                 H' fun v_8 H' ↦ req (V.isK Kind.bool v_8) (K (V.bool (decide (V.getBool v = V.getBool v_8))) H')))
                (K (V.bool false) H'))))
              (K (V.bool false) H')))
            (K (V.bool false) H')))))))))))) :=
  fun x0 x1 H K => (Run_call (E := env)).trans (by kernel_rfl)

theorem eq9 : ∀ (x0p : Option (Nat × Nat)) (x0n x0c : Nat) (x1 x2 x3 x4 : Int) (H : Am.Heap) (K : Am.V → Am.Heap → Prop),
  Am.Rec.call (Am.Run env) 9 [V.slice x0p x0n x0c, V.int IntKind.u8 x1, V.int IntKind.u8 x2, V.int IntKind.u32 x3, V.int IntKind.u32 x4] H K =
  Am.Rec.call (Am.Run env) 10 [] H fun v H' ↦
   req (V.isK Kind.bool v)
   (br (!V.getBool v) (K (V.bool false) H')
    (Am.Rec.call (Am.Run env) 11 [] H' fun v H' ↦
    req (V.isAgg v && Am.fits k29 (V.aggCells v))
     (Am.Rec.loop (Am.Run env) (Am.loopAt env 9 6) 9 6
     (St.mk
      (Am.look
      [(0, T.v (V.slice x0p x0n x0c)), (1, T.v (V.int IntKind.u8 x1)), (2, T.v (V.int IntKind.u8 x2)), (3, T.v (V.int IntKind.u32 x3)),
       (4, T.v (V.int IntKind.u32 x4)), (11, T.lp 11 0), (12, T.v (V.int IntKind.i64 0))])
      (Am.look [(11, Loc.cells 30 (o29 (V.aggCells v)))]) H')
     (fun S' ↦ False) fun j S' ↦
     br (Nat.beq j 0)
      (req
      (Am.isKT (KT.k (Kind.int IntKind.u8)) (S'.1 1) &&
       (Am.isKT (KT.k (Kind.int IntKind.u8)) (S'.1 2) &&
        (Am.isKT (KT.k (Kind.int IntKind.u32)) (S'.1 3) &&
        (Am.isKT (KT.k (Kind.int IntKind.u32)) (S'.1 4) && (Am.isKT (KT.lp 11) (S'.1 11) || false)))) &&
       (Am.isLK 30 k29 (S'.2 11) || false))
      (req
       (decide (0 ≤ IntKind.wrap IntKind.i64 (Int.tmod (V.getInt (T.val (S'.1 1))) 8)) &&
       decide (IntKind.wrap IntKind.i64 (Int.tmod (V.getInt (T.val (S'.1 1))) 8) < 8))
       (req
       (Nat.ble (Nat.succ (0 + Int.toNat (IntKind.wrap IntKind.i64 (Int.tmod (V.getInt (T.val (S'.1 1))) 8)) * 1)) 12 &&
        V.isK (Kind.int IntKind.u32)
        (nthV (o29 (Am.locCells (S'.2 11))) (0 + Int.toNat (IntKind.wrap IntKind.i64 (Int.tmod (V.getInt (T.val (S'.1 1))) 8)) * 1)))
       (br
        (decide
        (V.getInt (T.val (S'.1 3)) =
         V.getInt
         (nthV (o29 (Am.locCells (S'.2 11))) (0 + Int.toNat (IntKind.wrap IntKind.i64 (Int.tmod (V.getInt (T.val (S'.1 1))) 8)) * 1))))
        (K (V.bool true) S'.3)
        (Am.Rec.call (Am.Run env) 13
        [V.agg (o29 (Am.locCells (S'.2 11))), V.int IntKind.i64 (IntKind.wrap IntKind.i64 (Int.tmod (V.getInt (T.val (S'.1 1))) 8)),
         V.agg
         (c25 (IntKind.wrap IntKind.u8 (4 + Int.tmod (V.getInt (T.val (S'.1 2))) 5)) 0 Option.none 0 0 false
          (V.getInt (T.val (S'.1 3))) (V.getInt (T.val (S'.1 4))) 1 false)]
        S'.3 fun v H' ↦
        req
         (V.isTuple 2 v &&
         (V.isAgg (nthV (V.vals v) 0) && Am.fits k29 (V.aggCells (nthV (V.vals v) 0)) &&
          (V.isK (Kind.int IntKind.i64) (nthV (V.vals v) 1) || false)))
         (K
         (V.bool
          (decide (V.getInt (nthV (V.vals v) 1) = 13) &&
          (decide (V.getInt (nthV (V.aggCells (nthV (V.vals v) 0)) 0) = V.getInt (nthV (Am.locCells (S'.2 11)) 0)) &&
           (decide (V.getInt (nthV (V.aggCells (nthV (V.vals v) 0)) 1) = V.getInt (nthV (Am.locCells (S'.2 11)) 1)) &&
           (decide (V.getInt (nthV (V.aggCells (nthV (V.vals v) 0)) 2) = V.getInt (nthV (Am.locCells (S'.2 11)) 2)) &&
            (decide (V.getInt (nthV (V.aggCells (nthV (V.vals v) 0)) 3) = V.getInt (nthV (Am.locCells (S'.2 11)) 3)) &&
            (decide (V.getInt (nthV (V.aggCells (nthV (V.vals v) 0)) 4) = V.getInt (nthV (Am.locCells (S'.2 11)) 4)) &&
             (decide (V.getInt (nthV (V.aggCells (nthV (V.vals v) 0)) 5) = V.getInt (nthV (Am.locCells (S'.2 11)) 5)) &&
             (decide (V.getInt (nthV (V.aggCells (nthV (V.vals v) 0)) 6) = V.getInt (nthV (Am.locCells (S'.2 11)) 6)) &&
              (decide (V.getInt (nthV (V.aggCells (nthV (V.vals v) 0)) 7) = V.getInt (nthV (Am.locCells (S'.2 11)) 7)) &&
              (decide (V.getInt (nthV (V.aggCells (nthV (V.vals v) 0)) 8) = V.getInt (nthV (Am.locCells (S'.2 11)) 8)) &&
               (decide (V.getInt (nthV (V.aggCells (nthV (V.vals v) 0)) 9) = V.getInt (nthV (Am.locCells (S'.2 11)) 9)) &&
               (decide (V.getInt (nthV (V.aggCells (nthV (V.vals v) 0)) 10) = V.getInt (nthV (Am.locCells (S'.2 11)) 10)) &&
                (decide
                 (V.getBool (nthV (V.aggCells (nthV (V.vals v) 0)) 11) = V.getBool (nthV (Am.locCells (S'.2 11)) 11)) ||
                false))))))))))))))
         H'))))))
      False))) :=
  fun x0p x0n x0c x1 x2 x3 x4 H K => (Run_call (E := env)).trans (by kernel_rfl)

theorem lp9_6 : ∀ (t0_0 : Option (Nat × Nat)) (t0_1 t0_2 : Nat) (t1 t2 t3 t4 t12 l11 l11' l11'' l11''' l11'''' l11''''' l11'''''' l11''''''' l11'''''''' l11''''''''' l11'''''''''' : Int) (l11''''''''''' : Bool) (H : Am.Heap)
  (Kr : Am.St → Prop) (Ke : Nat → Am.St → Prop),
  Am.Rec.loop (Am.Run env) (Am.loopAt env 9 6) 9 6
   (St.mk
   (Am.look
    [(0, T.v (V.slice t0_0 t0_1 t0_2)), (1, T.v (V.int IntKind.u8 t1)), (2, T.v (V.int IntKind.u8 t2)), (3, T.v (V.int IntKind.u32 t3)),
    (4, T.v (V.int IntKind.u32 t4)), (11, T.lp 11 0), (12, T.v (V.int IntKind.i64 t12))])
   (Am.look [(11, Loc.cells 30 (c29 l11 l11' l11'' l11''' l11'''' l11''''' l11'''''' l11''''''' l11'''''''' l11''''''''' l11'''''''''' l11'''''''''''))]) H)
   Kr Ke =
  br (decide (t12 < (↑t0_1 : Int)) && decide (t12 < 40))
   (req (decide (0 ≤ t12) && decide (t12 < (↑t0_1 : Int)) && Option.isSome t0_0)
   (req
    (Am.Heap.inb H (Option.getD t0_0 (0, 0)).1 ((Option.getD t0_0 (0, 0)).2 + Int.toNat t12 * 7) 7 &&
    Am.fits k33 (Am.Heap.sub H (Option.getD t0_0 (0, 0)).1 ((Option.getD t0_0 (0, 0)).2 + Int.toNat t12 * 7) 7))
    (Am.Rec.call (Am.Run env) 12
    [V.agg (o33 (Am.Heap.sub H (Option.getD t0_0 (0, 0)).1 ((Option.getD t0_0 (0, 0)).2 + Int.toNat t12 * 7) 7)),
     V.agg (c29 l11 l11' l11'' l11''' l11'''' l11''''' l11'''''' l11''''''' l11'''''''' l11''''''''' l11'''''''''' l11''''''''''')]
    H fun v H' ↦
    req
     (V.isTuple 2 v &&
     (V.isK (Kind.int IntKind.i64) (nthV (V.vals v) 0) &&
      (V.isAgg (nthV (V.vals v) 1) && Am.fits k25 (V.aggCells (nthV (V.vals v) 1)) || false)))
     (Am.Rec.call (Am.Run env) 13
     [V.agg (c29 l11 l11' l11'' l11''' l11'''' l11''''' l11'''''' l11''''''' l11'''''''' l11''''''''' l11'''''''''' l11'''''''''''),
      V.int IntKind.i64 (V.getInt (nthV (V.vals v) 0)), V.agg (o25 (V.aggCells (nthV (V.vals v) 1)))]
     H' fun v H' ↦
     req
      (V.isTuple 2 v &&
      (V.isAgg (nthV (V.vals v) 0) && Am.fits k29 (V.aggCells (nthV (V.vals v) 0)) &&
       (V.isK (Kind.int IntKind.i64) (nthV (V.vals v) 1) || false)))
      (Am.Rec.loop (Am.Run env) (Am.loopAt env 9 6) 9 6
      (St.mk
       (Am.look
       [(0, T.v (V.slice t0_0 t0_1 t0_2)), (1, T.v (V.int IntKind.u8 t1)), (2, T.v (V.int IntKind.u8 t2)), (3, T.v (V.int IntKind.u32 t3)),
        (4, T.v (V.int IntKind.u32 t4)), (11, T.lp 11 0), (12, T.v (V.int IntKind.i64 (IntKind.wrap IntKind.i64 (t12 + 1))))])
       (Am.look [(11, Loc.cells 30 (o29 (V.aggCells (nthV (V.vals v) 0))))]) H')
      Kr Ke)))))
   (Ke 0
   (St.mk
    (Am.look
    [(1, T.v (V.int IntKind.u8 t1)), (2, T.v (V.int IntKind.u8 t2)), (3, T.v (V.int IntKind.u32 t3)), (4, T.v (V.int IntKind.u32 t4)),
     (11, T.lp 11 0)])
    (Am.look [(11, Loc.cells 30 (c29 l11 l11' l11'' l11''' l11'''' l11''''' l11'''''' l11''''''' l11'''''''' l11''''''''' l11'''''''''' l11'''''''''''))]) H)) :=
  fun t0_0 t0_1 t0_2 t1 t2 t3 t4 t12 l11 l11' l11'' l11''' l11'''' l11''''' l11'''''' l11''''''' l11'''''''' l11''''''''' l11'''''''''' l11''''''''''' H Kr Ke => (Run_loop (E := env)).trans (by kernel_rfl)

theorem eq10 : ∀ (H : Am.Heap) (K : Am.V → Am.Heap → Prop),
  Am.Rec.call (Am.Run env) 10 [] H K =
  Am.Rec.call (Am.Run env) 11 [] H fun v H' ↦
   req (V.isAgg v && Am.fits k29 (V.aggCells v))
   (Am.Rec.call (Am.Run env) 13
    [V.agg (o29 (V.aggCells v)), V.int IntKind.i64 0, V.agg (c25 4 0 Option.none 0 0 false 0 7 0 false)] H' fun v H' ↦
    req
    (V.isTuple 2 v &&
     (V.isAgg (nthV (V.vals v) 0) && Am.fits k29 (V.aggCells (nthV (V.vals v) 0)) &&
     (V.isK (Kind.int IntKind.i64) (nthV (V.vals v) 1) || false)))
    (Am.Rec.call (Am.Run env) 13
     [V.agg (o29 (V.aggCells (nthV (V.vals v) 0))), V.int IntKind.i64 0,
     V.agg (c25 5 0 Option.none 0 0 false 7 0 1 false)]
     H' fun v_1 H' ↦
     req
     (V.isTuple 2 v_1 &&
      (V.isAgg (nthV (V.vals v_1) 0) && Am.fits k29 (V.aggCells (nthV (V.vals v_1) 0)) &&
      (V.isK (Kind.int IntKind.i64) (nthV (V.vals v_1) 1) || false)))
     (br (decide (V.getInt (nthV (V.vals v) 1) = 0))
      (br (decide (V.getInt (nthV (V.vals v_1) 1) = 0))
      (Am.Rec.call (Am.Run env) 18
       [V.agg (o29 (V.aggCells (nthV (V.vals v_1) 0))), V.int IntKind.i64 1, V.bool false] H' fun v H' ↦
       req (V.isK Kind.bool v)
       (br (V.getBool v)
        (Am.Rec.call (Am.Run env) 18
        [V.agg (o29 (V.aggCells (nthV (V.vals v_1) 0))), V.int IntKind.i64 1, V.bool true] H' fun v H' ↦
        req (V.isK Kind.bool v)
         (br (!V.getBool v)
         (Am.Rec.call (Am.Run env) 18
          [V.agg (o29 (V.aggCells (nthV (V.vals v_1) 0))), V.int IntKind.i64 0, V.bool true] H' fun v H' ↦
          req (V.isK Kind.bool v) (K (V.bool (V.getBool v || false)) H'))
         (K (V.bool false) H')))
        (K (V.bool false) H')))
      (K (V.bool false) H'))
      (K (V.bool false) H')))) :=
  fun H K => (Run_call (E := env)).trans (by kernel_rfl)

theorem eq11 : ∀ (H : Am.Heap) (K : Am.V → Am.Heap → Prop), Am.Rec.call (Am.Run env) 11 [] H K = K (V.agg (c29 0 0 0 0 0 0 0 0 0 (-1) 0 false)) H :=
  fun H K => (Run_call (E := env)).trans (by kernel_rfl)

theorem eq12 : ∀ (x0_0 x0_1 x0_2 x0_3 x0_4 : Int) (x0_5 x0_6 : Bool) (x1_0 x1_1 x1_2 x1_3 x1_4 x1_5 x1_6 x1_7 x1_8 x1_9 x1_10 : Int) (x1_11 : Bool) (H : Am.Heap) (K : Am.V → Am.Heap → Prop),
  Am.Rec.call (Am.Run env) 12
   [V.agg (c33 x0_0 x0_1 x0_2 x0_3 x0_4 x0_5 x0_6), V.agg (c29 x1_0 x1_1 x1_2 x1_3 x1_4 x1_5 x1_6 x1_7 x1_8 x1_9 x1_10 x1_11)] H K =
  req (decide (0 ≤ Int.tmod x0_4 9) && decide (Int.tmod x0_4 9 < 9) || false)
   (req
   (Am.Heap.inb (Am.Heap.alloc H (Am.Obj.cells 5 (V.int IntKind.u8 1 :: V.int IntKind.u8 3 :: V.int IntKind.u8 5 :: c46 6 7 8 0 2 9) false)) H.2
    (0 + Int.toNat (Int.tmod x0_4 9) * 1) 1 &&
    V.isK (Kind.int IntKind.u8)
    (Am.Heap.cell (Am.Heap.alloc H (Am.Obj.cells 5 (V.int IntKind.u8 1 :: V.int IntKind.u8 3 :: V.int IntKind.u8 5 :: c46 6 7 8 0 2 9) false))
     H.2 (0 + Int.toNat (Int.tmod x0_4 9) * 1)))
   (br x0_5
    (req (decide (0 ≤ IntKind.wrap IntKind.i64 (Int.tmod x0_0 4)) && decide (IntKind.wrap IntKind.i64 (Int.tmod x0_0 4) < 8))
    (req
     (Nat.ble (Nat.succ (0 + Int.toNat (IntKind.wrap IntKind.i64 (Int.tmod x0_0 4)) * 1)) 12 &&
     V.isK (Kind.int IntKind.u32)
      (nthV (c29 x1_0 x1_1 x1_2 x1_3 x1_4 x1_5 x1_6 x1_7 x1_8 x1_9 x1_10 x1_11) (0 + Int.toNat (IntKind.wrap IntKind.i64 (Int.tmod x0_0 4)) * 1)))
     (K
     (V.tuple
      [V.int IntKind.i64 (IntKind.wrap IntKind.i64 (Int.tmod x0_0 4)),
      V.agg
       (c25 (IntKind.wrap IntKind.u8 (4 + Int.tmod x0_1 5)) 0 Option.none 0 0 false
       (V.getInt (nthV (c29 x1_0 x1_1 x1_2 x1_3 x1_4 x1_5 x1_6 x1_7 x1_8 x1_9 x1_10 x1_11) (0 + Int.toNat (IntKind.wrap IntKind.i64 (Int.tmod x0_0 4)) * 1)))
       (IntKind.wrap IntKind.u32 (Int.tmod x0_3 4))
       (V.getInt
        (Am.Heap.cell
        (Am.Heap.alloc H (Am.Obj.cells 5 (V.int IntKind.u8 1 :: V.int IntKind.u8 3 :: V.int IntKind.u8 5 :: c46 6 7 8 0 2 9) false))
        H.2 (0 + Int.toNat (Int.tmod x0_4 9) * 1)))
       x0_6)])
     (Am.Heap.alloc H (Am.Obj.cells 5 (V.int IntKind.u8 1 :: V.int IntKind.u8 3 :: V.int IntKind.u8 5 :: c46 6 7 8 0 2 9) false)))))
    (K
    (V.tuple
     [V.int IntKind.i64 (IntKind.wrap IntKind.i64 (Int.tmod x0_0 4)),
     V.agg
      (c25 (IntKind.wrap IntKind.u8 (4 + Int.tmod x0_1 5)) 0 Option.none 0 0 false (IntKind.wrap IntKind.u32 (Int.tmod x0_2 4))
      (IntKind.wrap IntKind.u32 (Int.tmod x0_3 4))
      (V.getInt
       (Am.Heap.cell
       (Am.Heap.alloc H (Am.Obj.cells 5 (V.int IntKind.u8 1 :: V.int IntKind.u8 3 :: V.int IntKind.u8 5 :: c46 6 7 8 0 2 9) false)) H.2
       (0 + Int.toNat (Int.tmod x0_4 9) * 1)))
      x0_6)])
    (Am.Heap.alloc H (Am.Obj.cells 5 (V.int IntKind.u8 1 :: V.int IntKind.u8 3 :: V.int IntKind.u8 5 :: c46 6 7 8 0 2 9) false))))) :=
  fun x0_0 x0_1 x0_2 x0_3 x0_4 x0_5 x0_6 x1_0 x1_1 x1_2 x1_3 x1_4 x1_5 x1_6 x1_7 x1_8 x1_9 x1_10 x1_11 H K => (Run_call (E := env)).trans (by kernel_rfl)

theorem eq13 : ∀ (x0_0 x0_1 x0_2 x0_3 x0_4 x0_5 x0_6 x0_7 x0_8 x0_9 x0_10 : Int) (x0_11 : Bool) (x1 x2_0 x2_1 : Int) (x2_2p : Option (Nat × Nat)) (x2_2n x2_2c : Nat) (x2_3 : Bool) (x2_4 x2_5 x2_6 : Int) (x2_7 : Bool) (H : Am.Heap)
  (K : Am.V → Am.Heap → Prop),
  Am.Rec.call (Am.Run env) 13
   [V.agg (c29 x0_0 x0_1 x0_2 x0_3 x0_4 x0_5 x0_6 x0_7 x0_8 x0_9 x0_10 x0_11), V.int IntKind.i64 x1,
   V.agg (c25 x2_0 x2_1 x2_2p x2_2n x2_2c x2_3 x2_4 x2_5 x2_6 x2_7)]
   H K =
  br (bif !decide (x1 < 0) then bif !decide (x1 ≥ 8) then bif !decide (x2_0 < 4) then decide (x2_0 > 8) else true else true else true)
   (K (V.tuple [V.agg (c29 x0_0 x0_1 x0_2 x0_3 x0_4 x0_5 x0_6 x0_7 x0_8 x0_9 x0_10 x0_11), V.int IntKind.i64 1]) H)
   (Am.joinP
   (fun Q ↦
    br (bif !decide (x2_0 = 5) then bif !decide (x2_0 = 6) then decide (x2_0 = 8) else true else true)
    (Am.Rec.call (Am.Run env) 15 [V.int IntKind.u8 x2_6] H fun v H' ↦
     req (V.isK Kind.bool v) (Q (St.mk (Am.look [(46, T.v (V.bool !V.getBool v))]) (Am.look []) H')))
    (Q (St.mk (Am.look [(46, T.v (V.bool false))]) (Am.look []) H)))
   fun S' ↦
   req (Am.isKT (KT.k Kind.bool) (S'.1 46) || false || false)
    (br (V.getBool (T.val (S'.1 46)))
    (K (V.tuple [V.agg (c29 x0_0 x0_1 x0_2 x0_3 x0_4 x0_5 x0_6 x0_7 x0_8 x0_9 x0_10 x0_11), V.int IntKind.i64 1]) S'.3)
    (req (decide (0 ≤ x1) && decide (x1 < 8))
     (req
     (Nat.ble (Nat.succ (0 + Int.toNat x1 * 1)) 12 &&
      V.isK (Kind.int IntKind.u32) (nthV (c29 x0_0 x0_1 x0_2 x0_3 x0_4 x0_5 x0_6 x0_7 x0_8 x0_9 x0_10 x0_11) (0 + Int.toNat x1 * 1)))
     (br
      (bif !!decide (V.getInt (nthV (c29 x0_0 x0_1 x0_2 x0_3 x0_4 x0_5 x0_6 x0_7 x0_8 x0_9 x0_10 x0_11) (0 + Int.toNat x1 * 1)) = x2_4) then
      decide (x2_4 = 0) && !decide (x2_0 = 4)
      else true)
      (K (V.tuple [V.agg (c29 x0_0 x0_1 x0_2 x0_3 x0_4 x0_5 x0_6 x0_7 x0_8 x0_9 x0_10 x0_11), V.int IntKind.i64 13]) S'.3)
      (br (decide (x2_0 = 4))
      (Am.Rec.call (Am.Run env) 21
       [V.agg (c29 x0_0 x0_1 x0_2 x0_3 x0_4 x0_5 x0_6 x0_7 x0_8 x0_9 x0_10 x0_11), V.int IntKind.i64 x1,
       V.agg (c25 x2_0 x2_1 x2_2p x2_2n x2_2c x2_3 x2_4 x2_5 x2_6 x2_7)]
       S'.3 fun v H' ↦
       req (V.isAgg v && Am.fits k29 (V.aggCells v))
       (K (V.tuple [V.agg (o29 (V.aggCells v)), V.int IntKind.i64 0]) H'))
      (br (decide (x2_0 = 5))
       (Am.joinP
       (fun Q ↦
        br (!decide (x0_8 = 0))
        (Am.Rec.call (Am.Run env) 17
         [V.agg (c29 x0_0 x0_1 x0_2 x0_3 x0_4 x0_5 x0_6 x0_7 x0_8 x0_9 x0_10 x0_11), V.int IntKind.i64 x1] S'.3 fun v H' ↦
         req (V.isK Kind.bool v)
         (br (!!V.getBool v) (Q (St.mk (Am.look [(92, T.v (V.bool !decide (x0_8 = x2_6)))]) (Am.look []) H'))
          (Q (St.mk (Am.look [(92, T.v (V.bool true))]) (Am.look []) H'))))
        (Q (St.mk (Am.look [(92, T.v (V.bool false))]) (Am.look []) S'.3)))
       fun S' ↦
       req (Am.isKT (KT.k Kind.bool) (S'.1 92) || false || false)
        (br (V.getBool (T.val (S'.1 92)))
        (K (V.tuple [V.agg (c29 x0_0 x0_1 x0_2 x0_3 x0_4 x0_5 x0_6 x0_7 x0_8 x0_9 x0_10 x0_11), V.int IntKind.i64 13]) S'.3)
        (br (decide (x0_8 = 0))
         (Am.Rec.call (Am.Run env) 22
         [V.agg (c29 x0_0 x0_1 x0_2 x0_3 x0_4 x0_5 x0_6 x0_7 x0_8 x0_9 x0_10 x0_11), V.int IntKind.i64 x1, V.int IntKind.u8 x2_6] S'.3 fun v H' ↦
         req (V.isAgg v && Am.fits k29 (V.aggCells v))
          (K (V.tuple [V.agg (o29 (V.aggCells v)), V.int IntKind.i64 0]) H'))
         (K (V.tuple [V.agg (c29 x0_0 x0_1 x0_2 x0_3 x0_4 x0_5 x0_6 x0_7 x0_8 x0_9 x0_10 x0_11), V.int IntKind.i64 0]) S'.3))))
       (br (decide (x2_0 = 6))
       (Am.Rec.call (Am.Run env) 17
        [V.agg (c29 x0_0 x0_1 x0_2 x0_3 x0_4 x0_5 x0_6 x0_7 x0_8 x0_9 x0_10 x0_11), V.int IntKind.i64 x1] S'.3 fun v H' ↦
        req (V.isK Kind.bool v)
        (br (!V.getBool v) (K (V.tuple [V.agg (c29 x0_0 x0_1 x0_2 x0_3 x0_4 x0_5 x0_6 x0_7 x0_8 x0_9 x0_10 x0_11), V.int IntKind.i64 0]) H')
         (br (!decide (x0_8 = x2_6))
         (K (V.tuple [V.agg (c29 x0_0 x0_1 x0_2 x0_3 x0_4 x0_5 x0_6 x0_7 x0_8 x0_9 x0_10 x0_11), V.int IntKind.i64 1]) H')
         (Am.Rec.call (Am.Run env) 23 [V.agg (c29 x0_0 x0_1 x0_2 x0_3 x0_4 x0_5 x0_6 x0_7 x0_8 x0_9 x0_10 x0_11)] H' fun v H' ↦
          req (V.isAgg v && Am.fits k29 (V.aggCells v))
          (K (V.tuple [V.agg (o29 (V.aggCells v)), V.int IntKind.i64 0]) H')))))
       (br (decide (x2_0 = 7))
        (K (V.tuple [V.agg (c29 0 0 0 0 0 0 0 0 0 (-1) (IntKind.wrap IntKind.u32 (x0_10 + 1)) x0_11), V.int IntKind.i64 0]) S'.3)
        (br (decide (x2_0 = 8))
        (Am.Rec.call (Am.Run env) 24
         [V.agg (c29 x0_0 x0_1 x0_2 x0_3 x0_4 x0_5 x0_6 x0_7 x0_8 x0_9 x0_10 x0_11), V.int IntKind.i64 x1,
         V.agg (c25 x2_0 x2_1 x2_2p x2_2n x2_2c x2_3 x2_4 x2_5 x2_6 x2_7)]
         S'.3 fun v H' ↦
         req
         (V.isTuple 2 v &&
          (V.isAgg (nthV (V.vals v) 0) && Am.fits k29 (V.aggCells (nthV (V.vals v) 0)) &&
          (V.isK (Kind.int IntKind.i64) (nthV (V.vals v) 1) || false)))
         (K
          (V.tuple
          [V.agg (o29 (V.aggCells (nthV (V.vals v) 0))), V.int IntKind.i64 (V.getInt (nthV (V.vals v) 1))])
          H'))
        (K (V.tuple [V.agg (c29 x0_0 x0_1 x0_2 x0_3 x0_4 x0_5 x0_6 x0_7 x0_8 x0_9 x0_10 x0_11), V.int IntKind.i64 0]) S'.3))))))))))) :=
  fun x0_0 x0_1 x0_2 x0_3 x0_4 x0_5 x0_6 x0_7 x0_8 x0_9 x0_10 x0_11 x1 x2_0 x2_1 x2_2p x2_2n x2_2c x2_3 x2_4 x2_5 x2_6 x2_7 H K => (Run_call (E := env)).trans (by kernel_rfl)

theorem eq14 : ∀ (x0_0 x0_1 x0_2 x0_3 x0_4 x0_5 x0_6 x0_7 x0_8 x0_9 x0_10 : Int) (x0_11 : Bool) (x1 x2_0 x2_1 : Int) (x2_2p : Option (Nat × Nat)) (x2_2n x2_2c : Nat) (x2_3 : Bool) (x2_4 x2_5 x2_6 : Int) (x2_7 : Bool) (H : Am.Heap)
  (K : Am.V → Am.Heap → Prop),
  Am.Rec.call (Am.Run env) 14
   [V.agg (c29 x0_0 x0_1 x0_2 x0_3 x0_4 x0_5 x0_6 x0_7 x0_8 x0_9 x0_10 x0_11), V.int IntKind.i64 x1,
   V.agg (c25 x2_0 x2_1 x2_2p x2_2n x2_2c x2_3 x2_4 x2_5 x2_6 x2_7)]
   H K =
  br (bif !decide (x1 < 0) then bif !decide (x1 > 7) then bif !decide (x2_0 < 4) then decide (x2_0 > 8) else true else true else true)
   (K (V.tuple [V.agg (c29 x0_0 x0_1 x0_2 x0_3 x0_4 x0_5 x0_6 x0_7 x0_8 x0_9 x0_10 x0_11), V.int IntKind.i64 1]) H)
   (Am.joinP
   (fun Q ↦
    br (!decide (x2_0 = 5))
    (br (!decide (x2_0 = 6))
     (br (decide (x2_0 = 8))
     (Am.Rec.call (Am.Run env) 16 [V.int IntKind.u8 x2_6] H fun v H' ↦
      req (V.isK Kind.bool v) (Q (St.mk (Am.look [(48, T.v (V.bool !V.getBool v))]) (Am.look []) H')))
     (Q (St.mk (Am.look [(48, T.v (V.bool false))]) (Am.look []) H)))
     (Am.Rec.call (Am.Run env) 16 [V.int IntKind.u8 x2_6] H fun v H' ↦
     req (V.isK Kind.bool v) (Q (St.mk (Am.look [(48, T.v (V.bool !V.getBool v))]) (Am.look []) H'))))
    (Am.Rec.call (Am.Run env) 16 [V.int IntKind.u8 x2_6] H fun v H' ↦
     req (V.isK Kind.bool v) (Q (St.mk (Am.look [(48, T.v (V.bool !V.getBool v))]) (Am.look []) H'))))
   fun S' ↦
   req (Am.isKT (KT.k Kind.bool) (S'.1 48) || false || false)
    (br (V.getBool (T.val (S'.1 48)))
    (K (V.tuple [V.agg (c29 x0_0 x0_1 x0_2 x0_3 x0_4 x0_5 x0_6 x0_7 x0_8 x0_9 x0_10 x0_11), V.int IntKind.i64 1]) S'.3)
    (req (decide (0 ≤ x1) && decide (x1 < 8))
     (req
     (Nat.ble (Nat.succ (0 + Int.toNat x1 * 1)) 12 &&
      V.isK (Kind.int IntKind.u32) (nthV (c29 x0_0 x0_1 x0_2 x0_3 x0_4 x0_5 x0_6 x0_7 x0_8 x0_9 x0_10 x0_11) (0 + Int.toNat x1 * 1)))
     (br
      (bif !!decide (x2_4 = V.getInt (nthV (c29 x0_0 x0_1 x0_2 x0_3 x0_4 x0_5 x0_6 x0_7 x0_8 x0_9 x0_10 x0_11) (0 + Int.toNat x1 * 1))) then
      !decide (x2_0 = 4) && decide (x2_4 = 0)
      else true)
      (K (V.tuple [V.agg (c29 x0_0 x0_1 x0_2 x0_3 x0_4 x0_5 x0_6 x0_7 x0_8 x0_9 x0_10 x0_11), V.int IntKind.i64 13]) S'.3)
      (br (decide (x2_0 = 4))
      (req (decide (0 ≤ x1) && decide (x1 < 8))
       (req
       (Nat.ble (0 + Int.toNat x1 * 1 + 1) 12 &&
        (V.isK (Kind.int IntKind.u8) (Am.condV (Nat.beq 8 (0 + Int.toNat x1 * 1)) (V.int IntKind.u32 x2_5) (V.int IntKind.u8 x0_8)) &&
        (V.isK (Kind.int IntKind.i64) (Am.condV (Nat.beq 9 (0 + Int.toNat x1 * 1)) (V.int IntKind.u32 x2_5) (V.int IntKind.i64 x0_9)) &&
         (V.isK Kind.bool (Am.condV (Nat.beq 11 (0 + Int.toNat x1 * 1)) (V.int IntKind.u32 x2_5) (V.bool x2_7)) && true))))
       (Am.joinP
        (fun Q ↦
        br (decide (x2_5 = 0))
         (br (!decide (x0_9 = x1))
         (Am.Rec.call (Am.Run env) 25
          [V.agg
           (c29 (bif Nat.beq 0 (0 + Int.toNat x1 * 1) then x2_5 else x0_0) (bif Nat.beq 1 (0 + Int.toNat x1 * 1) then x2_5 else x0_1)
           (bif Nat.beq 2 (0 + Int.toNat x1 * 1) then x2_5 else x0_2) (bif Nat.beq 3 (0 + Int.toNat x1 * 1) then x2_5 else x0_3) (bif Nat.beq 4 (0 + Int.toNat x1 * 1) then x2_5 else x0_4)
           (bif Nat.beq 5 (0 + Int.toNat x1 * 1) then x2_5 else x0_5) (bif Nat.beq 6 (0 + Int.toNat x1 * 1) then x2_5 else x0_6) (bif Nat.beq 7 (0 + Int.toNat x1 * 1) then x2_5 else x0_7)
           (V.getInt (Am.condV (Nat.beq 8 (0 + Int.toNat x1 * 1)) (V.int IntKind.u32 x2_5) (V.int IntKind.u8 x0_8)))
           (V.getInt (Am.condV (Nat.beq 9 (0 + Int.toNat x1 * 1)) (V.int IntKind.u32 x2_5) (V.int IntKind.i64 x0_9)))
           (bif Nat.beq 10 (0 + Int.toNat x1 * 1) then x2_5 else IntKind.wrap IntKind.u32 (x0_10 + 1))
           (V.getBool (Am.condV (Nat.beq 11 (0 + Int.toNat x1 * 1)) (V.int IntKind.u32 x2_5) (V.bool x2_7))))]
          S'.3 fun v H' ↦ req (V.isK Kind.bool v) (Q (St.mk (Am.look [(197, T.v (V.bool !V.getBool v))]) (Am.look []) H')))
         (Q (St.mk (Am.look [(197, T.v (V.bool true))]) (Am.look []) S'.3)))
         (Q (St.mk (Am.look [(197, T.v (V.bool false))]) (Am.look []) S'.3)))
        fun S' ↦
        req (Am.isKT (KT.k Kind.bool) (S'.1 197) || false || false)
        (br (V.getBool (T.val (S'.1 197)))
         (Am.Rec.call (Am.Run env) 26
         [V.agg
          (c29 (bif Nat.beq 0 (0 + Int.toNat x1 * 1) then x2_5 else x0_0) (bif Nat.beq 1 (0 + Int.toNat x1 * 1) then x2_5 else x0_1)
           (bif Nat.beq 2 (0 + Int.toNat x1 * 1) then x2_5 else x0_2) (bif Nat.beq 3 (0 + Int.toNat x1 * 1) then x2_5 else x0_3) (bif Nat.beq 4 (0 + Int.toNat x1 * 1) then x2_5 else x0_4)
           (bif Nat.beq 5 (0 + Int.toNat x1 * 1) then x2_5 else x0_5) (bif Nat.beq 6 (0 + Int.toNat x1 * 1) then x2_5 else x0_6) (bif Nat.beq 7 (0 + Int.toNat x1 * 1) then x2_5 else x0_7)
           (V.getInt (Am.condV (Nat.beq 8 (0 + Int.toNat x1 * 1)) (V.int IntKind.u32 x2_5) (V.int IntKind.u8 x0_8)))
           (V.getInt (Am.condV (Nat.beq 9 (0 + Int.toNat x1 * 1)) (V.int IntKind.u32 x2_5) (V.int IntKind.i64 x0_9)))
           (bif Nat.beq 10 (0 + Int.toNat x1 * 1) then x2_5 else IntKind.wrap IntKind.u32 (x0_10 + 1))
           (V.getBool (Am.condV (Nat.beq 11 (0 + Int.toNat x1 * 1)) (V.int IntKind.u32 x2_5) (V.bool x2_7))))]
         S'.3 fun v H' ↦
         req (V.isAgg v && Am.fits k29 (V.aggCells v))
          (K (V.tuple [V.agg (o29 (V.aggCells v)), V.int IntKind.i64 0]) H'))
         (K
         (V.tuple
          [V.agg
           (c29 (bif Nat.beq 0 (0 + Int.toNat x1 * 1) then x2_5 else x0_0) (bif Nat.beq 1 (0 + Int.toNat x1 * 1) then x2_5 else x0_1)
           (bif Nat.beq 2 (0 + Int.toNat x1 * 1) then x2_5 else x0_2) (bif Nat.beq 3 (0 + Int.toNat x1 * 1) then x2_5 else x0_3) (bif Nat.beq 4 (0 + Int.toNat x1 * 1) then x2_5 else x0_4)
           (bif Nat.beq 5 (0 + Int.toNat x1 * 1) then x2_5 else x0_5) (bif Nat.beq 6 (0 + Int.toNat x1 * 1) then x2_5 else x0_6) (bif Nat.beq 7 (0 + Int.toNat x1 * 1) then x2_5 else x0_7)
           (V.getInt (Am.condV (Nat.beq 8 (0 + Int.toNat x1 * 1)) (V.int IntKind.u32 x2_5) (V.int IntKind.u8 x0_8)))
           (V.getInt (Am.condV (Nat.beq 9 (0 + Int.toNat x1 * 1)) (V.int IntKind.u32 x2_5) (V.int IntKind.i64 x0_9)))
           (bif Nat.beq 10 (0 + Int.toNat x1 * 1) then x2_5 else IntKind.wrap IntKind.u32 (x0_10 + 1))
           (V.getBool (Am.condV (Nat.beq 11 (0 + Int.toNat x1 * 1)) (V.int IntKind.u32 x2_5) (V.bool x2_7)))),
          V.int IntKind.i64 0])
         S'.3)))))
      (br (decide (x2_0 = 5))
       (br (decide (x0_8 = 0))
       (Am.Rec.call (Am.Run env) 27
        [V.agg (c29 x0_0 x0_1 x0_2 x0_3 x0_4 x0_5 x0_6 x0_7 x0_8 x0_9 x0_10 x0_11), V.int IntKind.i64 x1, V.int IntKind.u8 x2_6] S'.3 fun v H' ↦
        req (V.isAgg v && Am.fits k29 (V.aggCells v))
        (K (V.tuple [V.agg (o29 (V.aggCells v)), V.int IntKind.i64 0]) H'))
       (Am.joinP
        (fun Q ↦
        br (!!decide (x0_8 = x2_6))
         (Am.Rec.call (Am.Run env) 28
         [V.agg (c29 x0_0 x0_1 x0_2 x0_3 x0_4 x0_5 x0_6 x0_7 x0_8 x0_9 x0_10 x0_11), V.int IntKind.i64 x1] S'.3 fun v H' ↦
         req (V.isK Kind.bool v) (Q (St.mk (Am.look [(220, T.v (V.bool !V.getBool v))]) (Am.look []) H')))
         (Q (St.mk (Am.look [(220, T.v (V.bool true))]) (Am.look []) S'.3)))
        fun S' ↦
        req (Am.isKT (KT.k Kind.bool) (S'.1 220) || false || false)
        (br (V.getBool (T.val (S'.1 220)))
         (K (V.tuple [V.agg (c29 x0_0 x0_1 x0_2 x0_3 x0_4 x0_5 x0_6 x0_7 x0_8 x0_9 x0_10 x0_11), V.int IntKind.i64 13]) S'.3)
         (K (V.tuple [V.agg (c29 x0_0 x0_1 x0_2 x0_3 x0_4 x0_5 x0_6 x0_7 x0_8 x0_9 x0_10 x0_11), V.int IntKind.i64 0]) S'.3))))
       (br (decide (x2_0 = 6))
       (Am.Rec.call (Am.Run env) 28
        [V.agg (c29 x0_0 x0_1 x0_2 x0_3 x0_4 x0_5 x0_6 x0_7 x0_8 x0_9 x0_10 x0_11), V.int IntKind.i64 x1] S'.3 fun v H' ↦
        req (V.isK Kind.bool v)
        (br (!V.getBool v) (K (V.tuple [V.agg (c29 x0_0 x0_1 x0_2 x0_3 x0_4 x0_5 x0_6 x0_7 x0_8 x0_9 x0_10 x0_11), V.int IntKind.i64 0]) H')
         (br (!decide (x0_8 = x2_6))
         (K (V.tuple [V.agg (c29 x0_0 x0_1 x0_2 x0_3 x0_4 x0_5 x0_6 x0_7 x0_8 x0_9 x0_10 x0_11), V.int IntKind.i64 1]) H')
         (Am.Rec.call (Am.Run env) 26 [V.agg (c29 x0_0 x0_1 x0_2 x0_3 x0_4 x0_5 x0_6 x0_7 x0_8 x0_9 x0_10 x0_11)] H' fun v H' ↦
          req (V.isAgg v && Am.fits k29 (V.aggCells v))
          (K (V.tuple [V.agg (o29 (V.aggCells v)), V.int IntKind.i64 0]) H')))))
       (br (decide (x2_0 = 7))
        (Am.Rec.loop (Am.Run env) (Am.loopAt env 14 40) 14 40
        (St.mk (Am.look [(6, T.lp 6 0), (8, T.lp 8 0), (9, T.v (V.int IntKind.i64 0))])
         (Am.look
         [(6, Loc.cells 30 (c29 0 0 0 0 0 0 0 0 0 0 0 false)),
          (8, Loc.cells 30 (c29 x0_0 x0_1 x0_2 x0_3 x0_4 x0_5 x0_6 x0_7 x0_8 x0_9 x0_10 x0_11))])
         S'.3)
        (fun S' ↦ False) fun j S' ↦
        br (Nat.beq j 3)
         (req
         (Am.isKT (KT.lp 6) (S'.1 6) && (Am.isKT (KT.lp 8) (S'.1 8) || false) &&
          (Am.isLK 30 k29 (S'.2 6) && (Am.isLK 30 k29 (S'.2 8) || false)))
         (Am.Rec.call (Am.Run env) 26 [V.agg (o29 (Am.locCells (S'.2 8)))] S'.3 fun v H' ↦
          req (V.isAgg v && Am.fits k29 (V.aggCells v))
          (K
           (V.tuple
           [V.agg
            (c29 (V.getInt (nthV (V.aggCells v) 0)) (V.getInt (nthV (V.aggCells v) 1))
             (V.getInt (nthV (V.aggCells v) 2)) (V.getInt (nthV (V.aggCells v) 3)) (V.getInt (nthV (V.aggCells v) 4))
             (V.getInt (nthV (V.aggCells v) 5)) (V.getInt (nthV (V.aggCells v) 6)) (V.getInt (nthV (V.aggCells v) 7))
             (V.getInt (nthV (V.aggCells v) 8)) (V.getInt (nthV (V.aggCells v) 9))
             (IntKind.wrap IntKind.u32 (V.getInt (nthV (V.aggCells v) 10) + 1)) (V.getBool (nthV (V.aggCells v) 11))),
            V.int IntKind.i64 0])
           H')))
         False)
        (br (decide (x2_5 = 0) && (!decide (x0_8 = 7) && !decide (x0_8 = 8)))
        (K (V.tuple [V.agg (c29 x0_0 x0_1 x0_2 x0_3 x0_4 x0_5 x0_6 x0_7 x0_8 x0_9 x0_10 x0_11), V.int IntKind.i64 1]) S'.3)
        (req
         (Am.mergeR (!decide (x2_5 = 0))
         (Am.mergeR (!decide (x0_8 = 0))
          (Am.mergeR (decide (x0_9 = x1))
          (decide (0 ≤ x1) && decide (x1 < 8) && true &&
           (Nat.ble (Nat.succ (0 + Int.toNat x1 * 1)) 12 &&
            V.isK (Kind.int IntKind.u32)
             (nthV (c29 x0_0 x0_1 x0_2 x0_3 x0_4 x0_5 x0_6 x0_7 x0_8 x0_9 x0_10 x0_11) (0 + Int.toNat x1 * 1)) &&
            true &&
           true))
          true)
          (Am.mergeR false
          (decide (0 ≤ x1) && decide (x1 < 8) && true &&
           (Nat.ble (Nat.succ (0 + Int.toNat x1 * 1)) 12 &&
            V.isK (Kind.int IntKind.u32)
             (nthV (c29 x0_0 x0_1 x0_2 x0_3 x0_4 x0_5 x0_6 x0_7 x0_8 x0_9 x0_10 x0_11) (0 + Int.toNat x1 * 1)) &&
            true &&
           true))
          true))
         true)
         (Am.Rec.loop (Am.Run env) (Am.loopAt env 14 53) 14 53
         (St.mk
          (Am.look
          [(1, T.v (V.int IntKind.i64 x1)), (3, T.lp 3 0), (5, T.lp 5 0), (6, T.lp 6 0), (8, T.lp 8 0),
           (10,
           T.v
            (V.bool
            (bif !decide (x2_5 = 0) then
             !decide (x0_8 = 0) &&
             (decide (x0_9 = x1) &&
              decide
              (V.getInt (nthV (c29 x0_0 x0_1 x0_2 x0_3 x0_4 x0_5 x0_6 x0_7 x0_8 x0_9 x0_10 x0_11) (0 + Int.toNat x1 * 1)) = x2_5))
            else true))),
           (11, T.v (V.int IntKind.i64 0)), (12, T.v (V.int IntKind.i64 0))])
          (Am.look
          [(3, Loc.cells 30 (c29 x0_0 x0_1 x0_2 x0_3 x0_4 x0_5 x0_6 x0_7 x0_8 x0_9 x0_10 x0_11)),
           (5, Loc.cells 26 (c25 x2_0 x2_1 x2_2p x2_2n x2_2c x2_3 x2_4 x2_5 x2_6 x2_7)),
           (6, Loc.cells 30 (c29 0 0 0 0 0 0 0 0 0 0 0 false)),
           (8, Loc.cells 30 (c29 x0_0 x0_1 x0_2 x0_3 x0_4 x0_5 x0_6 x0_7 x0_8 x0_9 x0_10 x0_11))])
          S'.3)
         (fun S' ↦ False) fun j S' ↦
         br (Nat.beq j 1)
          (req
          (Am.isKT (KT.k (Kind.int IntKind.i64)) (S'.1 1) &&
           (Am.isKT (KT.lp 3) (S'.1 3) &&
            (Am.isKT (KT.lp 5) (S'.1 5) &&
            (Am.isKT (KT.lp 6) (S'.1 6) &&
             (Am.isKT (KT.lp 8) (S'.1 8) &&
             (Am.isKT (KT.k Kind.bool) (S'.1 10) && (Am.isKT (KT.k (Kind.int IntKind.i64)) (S'.1 11) || false)))))) &&
           (Am.isLK 30 k29 (S'.2 3) &&
           (Am.isLK 26 k25 (S'.2 5) &&
            (Am.isLK 30 k29 (S'.2 6) && (Am.isLK 30 k29 (S'.2 8) || false)))))
          (br (decide (V.getInt (T.val (S'.1 11)) = 0) && !V.getBool (T.val (S'.1 10)))
           (K (V.tuple [V.agg (o29 (Am.locCells (S'.2 3))), V.int IntKind.i64 13]) S'.3)
           (br (V.getBool (T.val (S'.1 10)))
           (Am.Rec.call (Am.Run env) 27
            [V.agg
             (c29 (V.getInt (nthV (Am.locCells (S'.2 8)) 0)) (V.getInt (nthV (Am.locCells (S'.2 8)) 1))
             (V.getInt (nthV (Am.locCells (S'.2 8)) 2)) (V.getInt (nthV (Am.locCells (S'.2 8)) 3))
             (V.getInt (nthV (Am.locCells (S'.2 8)) 4)) (V.getInt (nthV (Am.locCells (S'.2 8)) 5))
             (V.getInt (nthV (Am.locCells (S'.2 8)) 6)) (V.getInt (nthV (Am.locCells (S'.2 8)) 7))
             (V.getInt (nthV (Am.locCells (S'.2 8)) 8)) (V.getInt (nthV (Am.locCells (S'.2 8)) 9))
             (IntKind.wrap IntKind.u32 (V.getInt (nthV (Am.locCells (S'.2 8)) 10) + 1)) (V.getBool (nthV (Am.locCells (S'.2 8)) 11))),
            V.int IntKind.i64 (V.getInt (T.val (S'.1 1))), V.int IntKind.u8 (V.getInt (nthV (Am.locCells (S'.2 5)) 6))]
            S'.3 fun v H' ↦
            req (V.isAgg v && Am.fits k29 (V.aggCells v))
            (K (V.tuple [V.agg (o29 (V.aggCells v)), V.int IntKind.i64 0]) H'))
           (K
            (V.tuple
            [V.agg
             (c29 (V.getInt (nthV (Am.locCells (S'.2 8)) 0)) (V.getInt (nthV (Am.locCells (S'.2 8)) 1))
              (V.getInt (nthV (Am.locCells (S'.2 8)) 2)) (V.getInt (nthV (Am.locCells (S'.2 8)) 3))
              (V.getInt (nthV (Am.locCells (S'.2 8)) 4)) (V.getInt (nthV (Am.locCells (S'.2 8)) 5))
              (V.getInt (nthV (Am.locCells (S'.2 8)) 6)) (V.getInt (nthV (Am.locCells (S'.2 8)) 7))
              (V.getInt (nthV (Am.locCells (S'.2 8)) 8)) (V.getInt (nthV (Am.locCells (S'.2 8)) 9))
              (IntKind.wrap IntKind.u32 (V.getInt (nthV (Am.locCells (S'.2 8)) 10) + 1)) (V.getBool (nthV (Am.locCells (S'.2 8)) 11))),
             V.int IntKind.i64 0])
            S'.3))))
          False)))))))))))) :=
  fun x0_0 x0_1 x0_2 x0_3 x0_4 x0_5 x0_6 x0_7 x0_8 x0_9 x0_10 x0_11 x1 x2_0 x2_1 x2_2p x2_2n x2_2c x2_3 x2_4 x2_5 x2_6 x2_7 H K => (Run_call (E := env)).trans (by kernel_rfl)

theorem lp14_53 : ∀ (t1 : Int) (t10 : Bool) (t11 t12 l3 l3' l3'' l3''' l3'''' l3''''' l3'''''' l3''''''' l3'''''''' l3''''''''' l3'''''''''' : Int) (l3''''''''''' : Bool) (l5 l5' : Int) (l5''_0 : Option (Nat × Nat)) (l5''_1 l5''_2 : Nat)
  (l5''' : Bool) (l5'''' l5''''' l5'''''' : Int) (l5''''''' : Bool) (l6 l6' l6'' l6''' l6'''' l6''''' l6'''''' l6''''''' l6'''''''' l6''''''''' l6'''''''''' : Int) (l6''''''''''' : Bool)
  (l8 l8' l8'' l8''' l8'''' l8''''' l8'''''' l8''''''' l8'''''''' l8''''''''' l8'''''''''' : Int) (l8''''''''''' : Bool) (H : Am.Heap) (Kr : Am.St → Prop) (Ke : Nat → Am.St → Prop),
  Am.Rec.loop (Am.Run env) (Am.loopAt env 14 53) 14 53
   (St.mk
   (Am.look
    [(1, T.v (V.int IntKind.i64 t1)), (3, T.lp 3 0), (5, T.lp 5 0), (6, T.lp 6 0), (8, T.lp 8 0), (10, T.v (V.bool t10)),
    (11, T.v (V.int IntKind.i64 t11)), (12, T.v (V.int IntKind.i64 t12))])
   (Am.look
    [(3, Loc.cells 30 (c29 l3 l3' l3'' l3''' l3'''' l3''''' l3'''''' l3''''''' l3'''''''' l3''''''''' l3'''''''''' l3''''''''''')),
    (5, Loc.cells 26 (c25 l5 l5' l5''_0 l5''_1 l5''_2 l5''' l5'''' l5''''' l5'''''' l5''''''')),
    (6, Loc.cells 30 (c29 l6 l6' l6'' l6''' l6'''' l6''''' l6'''''' l6''''''' l6'''''''' l6''''''''' l6'''''''''' l6''''''''''')),
    (8, Loc.cells 30 (c29 l8 l8' l8'' l8''' l8'''' l8''''' l8'''''' l8''''''' l8'''''''' l8''''''''' l8'''''''''' l8'''''''''''))])
   H)
   Kr Ke =
  br (decide (t12 < 8))
   (req
   (Am.mergeR (!decide (t12 = t1))
    (decide (0 ≤ t12) && decide (t12 < 8) && true &&
    (Nat.ble (Nat.succ (0 + Int.toNat t12 * 1)) 12 &&
      V.isK (Kind.int IntKind.u32)
      (nthV (c29 l3 l3' l3'' l3''' l3'''' l3''''' l3'''''' l3''''''' l3'''''''' l3''''''''' l3'''''''''' l3''''''''''') (0 + Int.toNat t12 * 1)) &&
     true &&
     Am.mergeR
     (!decide
      (V.getInt (nthV (c29 l3 l3' l3'' l3''' l3'''' l3''''' l3'''''' l3''''''' l3'''''''' l3''''''''' l3'''''''''' l3''''''''''') (0 + Int.toNat t12 * 1)) = 0))
     (Am.mergeR (!decide (l5''''' = 0))
      (decide (0 ≤ t12) && decide (t12 < 8) && true &&
      (Nat.ble (Nat.succ (0 + Int.toNat t12 * 1)) 12 &&
        V.isK (Kind.int IntKind.u32)
        (nthV (c29 l3 l3' l3'' l3''' l3'''' l3''''' l3'''''' l3''''''' l3'''''''' l3''''''''' l3'''''''''' l3''''''''''') (0 + Int.toNat t12 * 1)) &&
       true &&
       true))
      true)
     true))
    (Am.mergeR false
    (Am.mergeR (!decide (l5''''' = 0))
     (decide (0 ≤ t12) && decide (t12 < 8) && true &&
     (Nat.ble (Nat.succ (0 + Int.toNat t12 * 1)) 12 &&
       V.isK (Kind.int IntKind.u32)
       (nthV (c29 l3 l3' l3'' l3''' l3'''' l3''''' l3'''''' l3''''''' l3'''''''' l3''''''''' l3'''''''''' l3''''''''''') (0 + Int.toNat t12 * 1)) &&
      true &&
      true))
     true)
    true))
   (br
    (!decide (t12 = t1) &&
    (!decide
      (V.getInt (nthV (c29 l3 l3' l3'' l3''' l3'''' l3''''' l3'''''' l3''''''' l3'''''''' l3''''''''' l3'''''''''' l3''''''''''') (0 + Int.toNat t12 * 1)) = 0) &&
     bif !decide (l5''''' = 0) then
     decide
      (V.getInt (nthV (c29 l3 l3' l3'' l3''' l3'''' l3''''' l3'''''' l3''''''' l3'''''''' l3''''''''' l3'''''''''' l3''''''''''') (0 + Int.toNat t12 * 1)) = l5''''')
     else true))
    (req (decide (0 ≤ t12) && decide (t12 < 8))
    (req
     (Nat.ble (0 + Int.toNat t12 * 1 + 1) 12 &&
     (V.isK (Kind.int IntKind.u8) (Am.condV (Nat.beq 8 (0 + Int.toNat t12 * 1)) (V.int IntKind.u32 0) (V.int IntKind.u8 l8'''''''')) &&
      (V.isK (Kind.int IntKind.i64) (Am.condV (Nat.beq 9 (0 + Int.toNat t12 * 1)) (V.int IntKind.u32 0) (V.int IntKind.i64 l8''''''''')) &&
      (V.isK Kind.bool (Am.condV (Nat.beq 11 (0 + Int.toNat t12 * 1)) (V.int IntKind.u32 0) (V.bool l8''''''''''')) && true))))
     (Am.Rec.loop (Am.Run env) (Am.loopAt env 14 53) 14 53
     (St.mk
      (Am.look
      [(1, T.v (V.int IntKind.i64 t1)), (3, T.lp 3 0), (5, T.lp 5 0), (6, T.lp 6 0), (8, T.lp 8 0),
       (10, T.v (V.bool (bif !t10 then !decide (l3'''''''' = 0) && decide (l3''''''''' = t12) else true))),
       (11, T.v (V.int IntKind.i64 (IntKind.wrap IntKind.i64 (t11 + 1)))), (12, T.v (V.int IntKind.i64 (IntKind.wrap IntKind.i64 (t12 + 1))))])
      (Am.look
      [(3, Loc.cells 30 (c29 l3 l3' l3'' l3''' l3'''' l3''''' l3'''''' l3''''''' l3'''''''' l3''''''''' l3'''''''''' l3''''''''''')),
       (5, Loc.cells 26 (c25 l5 l5' l5''_0 l5''_1 l5''_2 l5''' l5'''' l5''''' l5'''''' l5''''''')),
       (6, Loc.cells 30 (c29 l6 l6' l6'' l6''' l6'''' l6''''' l6'''''' l6''''''' l6'''''''' l6''''''''' l6'''''''''' l6''''''''''')),
       (8,
       Loc.cells 30
        (c29 (bif Nat.beq 0 (0 + Int.toNat t12 * 1) then 0 else l8) (bif Nat.beq 1 (0 + Int.toNat t12 * 1) then 0 else l8')
        (bif Nat.beq 2 (0 + Int.toNat t12 * 1) then 0 else l8'') (bif Nat.beq 3 (0 + Int.toNat t12 * 1) then 0 else l8''') (bif Nat.beq 4 (0 + Int.toNat t12 * 1) then 0 else l8'''')
        (bif Nat.beq 5 (0 + Int.toNat t12 * 1) then 0 else l8''''') (bif Nat.beq 6 (0 + Int.toNat t12 * 1) then 0 else l8'''''') (bif Nat.beq 7 (0 + Int.toNat t12 * 1) then 0 else l8''''''')
        (V.getInt (Am.condV (Nat.beq 8 (0 + Int.toNat t12 * 1)) (V.int IntKind.u32 0) (V.int IntKind.u8 l8'''''''')))
        (V.getInt (Am.condV (Nat.beq 9 (0 + Int.toNat t12 * 1)) (V.int IntKind.u32 0) (V.int IntKind.i64 l8''''''''')))
        (bif Nat.beq 10 (0 + Int.toNat t12 * 1) then 0 else l8'''''''''')
        (V.getBool (Am.condV (Nat.beq 11 (0 + Int.toNat t12 * 1)) (V.int IntKind.u32 0) (V.bool l8''''''''''')))))])
      H)
     Kr Ke)))
    (Am.Rec.loop (Am.Run env) (Am.loopAt env 14 53) 14 53
    (St.mk
     (Am.look
     [(1, T.v (V.int IntKind.i64 t1)), (3, T.lp 3 0), (5, T.lp 5 0), (6, T.lp 6 0), (8, T.lp 8 0), (10, T.v (V.bool t10)),
      (11, T.v (V.int IntKind.i64 t11)), (12, T.v (V.int IntKind.i64 (IntKind.wrap IntKind.i64 (t12 + 1))))])
     (Am.look
     [(3, Loc.cells 30 (c29 l3 l3' l3'' l3''' l3'''' l3''''' l3'''''' l3''''''' l3'''''''' l3''''''''' l3'''''''''' l3''''''''''')),
      (5, Loc.cells 26 (c25 l5 l5' l5''_0 l5''_1 l5''_2 l5''' l5'''' l5''''' l5'''''' l5''''''')),
      (6, Loc.cells 30 (c29 l6 l6' l6'' l6''' l6'''' l6''''' l6'''''' l6''''''' l6'''''''' l6''''''''' l6'''''''''' l6''''''''''')),
      (8, Loc.cells 30 (c29 l8 l8' l8'' l8''' l8'''' l8''''' l8'''''' l8''''''' l8'''''''' l8''''''''' l8'''''''''' l8'''''''''''))])
     H)
    Kr Ke)))
   (Ke 1
   (St.mk
    (Am.look
    [(1, T.v (V.int IntKind.i64 t1)), (3, T.lp 3 0), (5, T.lp 5 0), (6, T.lp 6 0), (8, T.lp 8 0), (10, T.v (V.bool t10)),
     (11, T.v (V.int IntKind.i64 t11))])
    (Am.look
    [(3, Loc.cells 30 (c29 l3 l3' l3'' l3''' l3'''' l3''''' l3'''''' l3''''''' l3'''''''' l3''''''''' l3'''''''''' l3''''''''''')),
     (5, Loc.cells 26 (c25 l5 l5' l5''_0 l5''_1 l5''_2 l5''' l5'''' l5''''' l5'''''' l5''''''')),
     (6, Loc.cells 30 (c29 l6 l6' l6'' l6''' l6'''' l6''''' l6'''''' l6''''''' l6'''''''' l6''''''''' l6'''''''''' l6''''''''''')),
     (8, Loc.cells 30 (c29 l8 l8' l8'' l8''' l8'''' l8''''' l8'''''' l8''''''' l8'''''''' l8''''''''' l8'''''''''' l8'''''''''''))])
    H)) :=
  fun t1 t10 t11 t12 l3 l3' l3'' l3''' l3'''' l3''''' l3'''''' l3''''''' l3'''''''' l3''''''''' l3'''''''''' l3''''''''''' l5 l5' l5''_0 l5''_1 l5''_2 l5''' l5'''' l5''''' l5'''''' l5''''''' l6 l6' l6'' l6''' l6'''' l6''''' l6'''''' l6''''''' l6'''''''' l6''''''''' l6'''''''''' l6''''''''''' l8 l8' l8'' l8''' l8'''' l8''''' l8'''''' l8''''''' l8'''''''' l8''''''''' l8'''''''''' l8''''''''''' H Kr Ke => (Run_loop (E := env)).trans (by kernel_rfl)

theorem lp14_40 : ∀ (t9 l6 l6' l6'' l6''' l6'''' l6''''' l6'''''' l6''''''' l6'''''''' l6''''''''' l6'''''''''' : Int) (l6''''''''''' : Bool) (l8 l8' l8'' l8''' l8'''' l8''''' l8'''''' l8''''''' l8'''''''' l8''''''''' l8'''''''''' : Int)
  (l8''''''''''' : Bool) (H : Am.Heap) (Kr : Am.St → Prop) (Ke : Nat → Am.St → Prop),
  Am.Rec.loop (Am.Run env) (Am.loopAt env 14 40) 14 40
   (St.mk (Am.look [(6, T.lp 6 0), (8, T.lp 8 0), (9, T.v (V.int IntKind.i64 t9))])
   (Am.look
    [(6, Loc.cells 30 (c29 l6 l6' l6'' l6''' l6'''' l6''''' l6'''''' l6''''''' l6'''''''' l6''''''''' l6'''''''''' l6''''''''''')),
    (8, Loc.cells 30 (c29 l8 l8' l8'' l8''' l8'''' l8''''' l8'''''' l8''''''' l8'''''''' l8''''''''' l8'''''''''' l8'''''''''''))])
   H)
   Kr Ke =
  br (decide (t9 < 8))
   (req (decide (0 ≤ t9) && decide (t9 < 8))
   (req
    (Nat.ble (0 + Int.toNat t9 * 1 + 1) 12 &&
    (V.isK (Kind.int IntKind.u8) (Am.condV (Nat.beq 8 (0 + Int.toNat t9 * 1)) (V.int IntKind.u32 0) (V.int IntKind.u8 l8'''''''')) &&
     (V.isK (Kind.int IntKind.i64) (Am.condV (Nat.beq 9 (0 + Int.toNat t9 * 1)) (V.int IntKind.u32 0) (V.int IntKind.i64 l8''''''''')) &&
     (V.isK Kind.bool (Am.condV (Nat.beq 11 (0 + Int.toNat t9 * 1)) (V.int IntKind.u32 0) (V.bool l8''''''''''')) && true))))
    (Am.Rec.loop (Am.Run env) (Am.loopAt env 14 40) 14 40
    (St.mk (Am.look [(6, T.lp 6 0), (8, T.lp 8 0), (9, T.v (V.int IntKind.i64 (IntKind.wrap IntKind.i64 (t9 + 1))))])
     (Am.look
     [(6, Loc.cells 30 (c29 l6 l6' l6'' l6''' l6'''' l6''''' l6'''''' l6''''''' l6'''''''' l6''''''''' l6'''''''''' l6''''''''''')),
      (8,
      Loc.cells 30
       (c29 (bif Nat.beq 0 (0 + Int.toNat t9 * 1) then 0 else l8) (bif Nat.beq 1 (0 + Int.toNat t9 * 1) then 0 else l8') (bif Nat.beq 2 (0 + Int.toNat t9 * 1) then 0 else l8'')
       (bif Nat.beq 3 (0 + Int.toNat t9 * 1) then 0 else l8''') (bif Nat.beq 4 (0 + Int.toNat t9 * 1) then 0 else l8'''') (bif Nat.beq 5 (0 + Int.toNat t9 * 1) then 0 else l8''''')
       (bif Nat.beq 6 (0 + Int.toNat t9 * 1) then 0 else l8'''''') (bif Nat.beq 7 (0 + Int.toNat t9 * 1) then 0 else l8''''''')
       (V.getInt (Am.condV (Nat.beq 8 (0 + Int.toNat t9 * 1)) (V.int IntKind.u32 0) (V.int IntKind.u8 l8'''''''')))
       (V.getInt (Am.condV (Nat.beq 9 (0 + Int.toNat t9 * 1)) (V.int IntKind.u32 0) (V.int IntKind.i64 l8''''''''')))
       (bif Nat.beq 10 (0 + Int.toNat t9 * 1) then 0 else l8'''''''''') (V.getBool (Am.condV (Nat.beq 11 (0 + Int.toNat t9 * 1)) (V.int IntKind.u32 0) (V.bool l8''''''''''')))))])
     H)
    Kr Ke)))
   (Ke 3
   (St.mk (Am.look [(6, T.lp 6 0), (8, T.lp 8 0)])
    (Am.look
    [(6, Loc.cells 30 (c29 l6 l6' l6'' l6''' l6'''' l6''''' l6'''''' l6''''''' l6'''''''' l6''''''''' l6'''''''''' l6''''''''''')),
     (8, Loc.cells 30 (c29 l8 l8' l8'' l8''' l8'''' l8''''' l8'''''' l8''''''' l8'''''''' l8''''''''' l8'''''''''' l8'''''''''''))])
    H)) :=
  fun t9 l6 l6' l6'' l6''' l6'''' l6''''' l6'''''' l6''''''' l6'''''''' l6''''''''' l6'''''''''' l6''''''''''' l8 l8' l8'' l8''' l8'''' l8''''' l8'''''' l8''''''' l8'''''''' l8''''''''' l8'''''''''' l8''''''''''' H Kr Ke => (Run_loop (E := env)).trans (by kernel_rfl)

theorem eq15 : ∀ (x0 : Int) (H : Am.Heap) (K : Am.V → Am.Heap → Prop),
  Am.Rec.call (Am.Run env) 15 [V.int IntKind.u8 x0] H K =
  Am.Rec.call (Am.Run env) 19 [] H fun v H' ↦
   req (V.isAgg v && Am.fits k46 (V.aggCells v))
   (Am.Rec.loop (Am.Run env) (Am.loopAt env 15 2) 15 2
    (St.mk (Am.look [(0, T.v (V.int IntKind.u8 x0)), (5, T.v (V.agg (o46 (V.aggCells v)))), (6, T.v (V.int IntKind.i64 0))])
    (Am.look []) H')
    (fun S' ↦ req (Am.isKT (KT.k Kind.bool) (S'.1 2) || false || false) (K (V.bool (V.getBool (T.val (S'.1 2)))) S'.3)) fun j S' ↦
    br (Nat.beq j 0) (K (V.bool false) S'.3) False) :=
  fun x0 H K => (Run_call (E := env)).trans (by kernel_rfl)

theorem lp15_2 : ∀ (t0 t5 t5' t5'' t5''' t5'''' t5''''' t6 : Int) (H : Am.Heap) (Kr : Am.St → Prop) (Ke : Nat → Am.St → Prop),
  Am.Rec.loop (Am.Run env) (Am.loopAt env 15 2) 15 2
   (St.mk
   (Am.look [(0, T.v (V.int IntKind.u8 t0)), (5, T.v (V.agg (c46 t5 t5' t5'' t5''' t5'''' t5'''''))), (6, T.v (V.int IntKind.i64 t6))])
   (Am.look []) H)
   Kr Ke =
  br (decide (t6 < 6))
   (req
   (decide (0 ≤ t6) && decide (t6 < 6) &&
    (Nat.ble (Nat.succ (Int.toNat t6 * 1)) 6 && V.isK (Kind.int IntKind.u8) (nthV (c46 t5 t5' t5'' t5''' t5'''' t5''''') (Int.toNat t6 * 1))))
   (br (decide (V.getInt (nthV (c46 t5 t5' t5'' t5''' t5'''' t5''''') (Int.toNat t6 * 1)) = t0))
    (Kr (St.mk (Am.look [(2, T.v (V.bool true))]) (Am.look []) H))
    (Am.Rec.loop (Am.Run env) (Am.loopAt env 15 2) 15 2
    (St.mk
     (Am.look
     [(0, T.v (V.int IntKind.u8 t0)), (5, T.v (V.agg (c46 t5 t5' t5'' t5''' t5'''' t5'''''))),
      (6, T.v (V.int IntKind.i64 (IntKind.wrap IntKind.i64 (t6 + 1))))])
     (Am.look []) H)
    Kr Ke)))
   (Ke 0 (St.mk (Am.look []) (Am.look []) H)) :=
  fun t0 t5 t5' t5'' t5''' t5'''' t5''''' t6 H Kr Ke => (Run_loop (E := env)).trans (by kernel_rfl)

theorem eq16 : ∀ (x0 : Int) (H : Am.Heap) (K : Am.V → Am.Heap → Prop),
  Am.Rec.call (Am.Run env) 16 [V.int IntKind.u8 x0] H K =
  K (V.bool (bif !decide (x0 = 1) then bif !decide (x0 = 3) then decide (x0 ≥ 5) && decide (x0 ≤ 8) else true else true)) H :=
  fun x0 H K => (Run_call (E := env)).trans (by kernel_rfl)

theorem eq17 : ∀ (x0_0 x0_1 x0_2 x0_3 x0_4 x0_5 x0_6 x0_7 x0_8 x0_9 x0_10 : Int) (x0_11 : Bool) (x1 : Int) (H : Am.Heap) (K : Am.V → Am.Heap → Prop),
  Am.Rec.call (Am.Run env) 17 [V.agg (c29 x0_0 x0_1 x0_2 x0_3 x0_4 x0_5 x0_6 x0_7 x0_8 x0_9 x0_10 x0_11), V.int IntKind.i64 x1] H K =
  br (bif !decide (x1 < 0) then bif !decide (x1 ≥ 8) then decide (x0_8 = 0) else true else true) (K (V.bool false) H)
   (br (!decide (x0_9 = x1))
   (Am.Rec.call (Am.Run env) 29 [V.int IntKind.u8 x0_8] H fun v H' ↦
    req (V.isK Kind.bool v)
    (br (V.getBool v)
     (req (decide (0 ≤ x1) && decide (x1 < 8))
     (req
      (Nat.ble (Nat.succ (0 + Int.toNat x1 * 1)) 12 &&
      V.isK (Kind.int IntKind.u32) (nthV (c29 x0_0 x0_1 x0_2 x0_3 x0_4 x0_5 x0_6 x0_7 x0_8 x0_9 x0_10 x0_11) (0 + Int.toNat x1 * 1)))
      (K (V.bool !decide (V.getInt (nthV (c29 x0_0 x0_1 x0_2 x0_3 x0_4 x0_5 x0_6 x0_7 x0_8 x0_9 x0_10 x0_11) (0 + Int.toNat x1 * 1)) = 0)) H')))
     (K (V.bool false) H')))
   (K (V.bool true) H)) :=
  fun x0_0 x0_1 x0_2 x0_3 x0_4 x0_5 x0_6 x0_7 x0_8 x0_9 x0_10 x0_11 x1 H K => (Run_call (E := env)).trans (by kernel_rfl)

theorem eq18 : ∀ (x0_0 x0_1 x0_2 x0_3 x0_4 x0_5 x0_6 x0_7 x0_8 x0_9 x0_10 : Int) (x0_11 : Bool) (x1 : Int) (x2 : Bool) (H : Am.Heap) (K : Am.V → Am.Heap → Prop),
  Am.Rec.call (Am.Run env) 18 [V.agg (c29 x0_0 x0_1 x0_2 x0_3 x0_4 x0_5 x0_6 x0_7 x0_8 x0_9 x0_10 x0_11), V.int IntKind.i64 x1, V.bool x2]
   H K =
  br (bif !decide (x1 < 0) then decide (x1 ≥ 8) else true) (K (V.bool false) H)
   (Am.joinP
   (fun Q ↦
    br (!decide (x0_8 = 0))
    (Am.Rec.call (Am.Run env) 17 [V.agg (c29 x0_0 x0_1 x0_2 x0_3 x0_4 x0_5 x0_6 x0_7 x0_8 x0_9 x0_10 x0_11), V.int IntKind.i64 x1] H
     fun v H' ↦ req (V.isK Kind.bool v) (Q (St.mk (Am.look [(20, T.v (V.bool (V.getBool v)))]) (Am.look []) H')))
    (Q (St.mk (Am.look [(20, T.v (V.bool true))]) (Am.look []) H)))
   fun S' ↦
   req (Am.isKT (KT.k Kind.bool) (S'.1 20) || false || false)
    (br (V.getBool (T.val (S'.1 20))) (K (V.bool true) S'.3)
    (br (decide (x0_8 = 1)) (K (V.bool !x2) S'.3)
     (br (decide (x0_8 = 3)) (K (V.bool false) S'.3)
     (Am.joinP
      (fun Q ↦
      br (decide (x0_8 = 5)) (Q (St.mk (Am.look [(29, T.v (V.bool (decide (x0_8 = 5))))]) (Am.look []) S'.3))
       (Q (St.mk (Am.look [(29, T.v (V.bool (decide (x0_8 = 7))))]) (Am.look []) S'.3)))
      fun S' ↦
      req (Am.isKT (KT.k Kind.bool) (S'.1 29) || false || false)
      (br (V.getBool (T.val (S'.1 29)))
       (req
       (Am.mergeR (!!x2)
        (decide (0 ≤ x1) && decide (x1 < 8) && true &&
        (Nat.ble (Nat.succ (0 + Int.toNat x1 * 1)) 12 &&
          V.isK (Kind.int IntKind.u32) (nthV (c29 x0_0 x0_1 x0_2 x0_3 x0_4 x0_5 x0_6 x0_7 x0_8 x0_9 x0_10 x0_11) (0 + Int.toNat x1 * 1)) &&
         true &&
         true))
        true)
       (K
        (V.bool
        (bif !!x2 then !decide (V.getInt (nthV (c29 x0_0 x0_1 x0_2 x0_3 x0_4 x0_5 x0_6 x0_7 x0_8 x0_9 x0_10 x0_11) (0 + Int.toNat x1 * 1)) = 0)
        else true))
        S'.3))
       (req (decide (0 ≤ x1) && decide (x1 < 8))
       (req
        (Nat.ble (Nat.succ (0 + Int.toNat x1 * 1)) 12 &&
        V.isK (Kind.int IntKind.u32) (nthV (c29 x0_0 x0_1 x0_2 x0_3 x0_4 x0_5 x0_6 x0_7 x0_8 x0_9 x0_10 x0_11) (0 + Int.toNat x1 * 1)))
        (K (V.bool !decide (V.getInt (nthV (c29 x0_0 x0_1 x0_2 x0_3 x0_4 x0_5 x0_6 x0_7 x0_8 x0_9 x0_10 x0_11) (0 + Int.toNat x1 * 1)) = 0))
        S'.3))))))))) :=
  fun x0_0 x0_1 x0_2 x0_3 x0_4 x0_5 x0_6 x0_7 x0_8 x0_9 x0_10 x0_11 x1 x2 H K => (Run_call (E := env)).trans (by kernel_rfl)

theorem eq19 : ∀ (H : Am.Heap) (K : Am.V → Am.Heap → Prop), Am.Rec.call (Am.Run env) 19 [] H K = K (V.agg (c46 1 3 5 6 7 8)) H :=
  fun H K => (Run_call (E := env)).trans (by kernel_rfl)

theorem eq20 : ∀ (x0_0 x0_1 x0_2 x0_3 x0_4 x0_5 x0_6 x0_7 x0_8 x0_9 x0_10 : Int) (x0_11 : Bool) (x1 : Int) (x2 : Bool) (H : Am.Heap) (K : Am.V → Am.Heap → Prop),
  Am.Rec.call (Am.Run env) 20 [V.agg (c29 x0_0 x0_1 x0_2 x0_3 x0_4 x0_5 x0_6 x0_7 x0_8 x0_9 x0_10 x0_11), V.int IntKind.i64 x1, V.bool x2]
   H K =
  br (bif !decide (x1 < 0) then decide (x1 > 7) else true) (K (V.bool false) H)
   (Am.joinP
   (fun Q ↦
    br (!decide (x0_8 = 0))
    (Am.Rec.call (Am.Run env) 28 [V.agg (c29 x0_0 x0_1 x0_2 x0_3 x0_4 x0_5 x0_6 x0_7 x0_8 x0_9 x0_10 x0_11), V.int IntKind.i64 x1] H
     fun v H' ↦ req (V.isK Kind.bool v) (Q (St.mk (Am.look [(21, T.v (V.bool (V.getBool v)))]) (Am.look []) H')))
    (Q (St.mk (Am.look [(21, T.v (V.bool true))]) (Am.look []) H)))
   fun S' ↦
   req (Am.isKT (KT.k Kind.bool) (S'.1 21) || false || false)
    (br (V.getBool (T.val (S'.1 21))) (K (V.bool true) S'.3)
    (req (decide (0 ≤ x1) && decide (x1 < 8))
     (req
     (Nat.ble (Nat.succ (0 + Int.toNat x1 * 1)) 12 &&
      V.isK (Kind.int IntKind.u32) (nthV (c29 x0_0 x0_1 x0_2 x0_3 x0_4 x0_5 x0_6 x0_7 x0_8 x0_9 x0_10 x0_11) (0 + Int.toNat x1 * 1)))
     (br (decide (x0_8 = 1)) (K (V.bool !x2) S'.3)
      (Am.joinP
      (fun Q ↦
       br (decide (x0_8 = 5)) (Q (St.mk (Am.look [(33, T.v (V.bool (decide (x0_8 = 5))))]) (Am.look []) S'.3))
       (Q (St.mk (Am.look [(33, T.v (V.bool (decide (x0_8 = 7))))]) (Am.look []) S'.3)))
      fun S' ↦
      req (Am.isKT (KT.k Kind.bool) (S'.1 33) || false || false)
       (br (V.getBool (T.val (S'.1 33)))
       (K
        (V.bool
        (bif !!x2 then !decide (V.getInt (nthV (c29 x0_0 x0_1 x0_2 x0_3 x0_4 x0_5 x0_6 x0_7 x0_8 x0_9 x0_10 x0_11) (0 + Int.toNat x1 * 1)) = 0)
        else true))
        S'.3)
       (br (decide (x0_8 = 6))
        (br (decide (x0_8 = 6))
        (K (V.bool !decide (V.getInt (nthV (c29 x0_0 x0_1 x0_2 x0_3 x0_4 x0_5 x0_6 x0_7 x0_8 x0_9 x0_10 x0_11) (0 + Int.toNat x1 * 1)) = 0))
         S'.3)
        (K (V.bool false) S'.3))
        (br (decide (x0_8 = 8))
        (K (V.bool !decide (V.getInt (nthV (c29 x0_0 x0_1 x0_2 x0_3 x0_4 x0_5 x0_6 x0_7 x0_8 x0_9 x0_10 x0_11) (0 + Int.toNat x1 * 1)) = 0))
         S'.3)
        (K (V.bool false) S'.3)))))))))) :=
  fun x0_0 x0_1 x0_2 x0_3 x0_4 x0_5 x0_6 x0_7 x0_8 x0_9 x0_10 x0_11 x1 x2 H K => (Run_call (E := env)).trans (by kernel_rfl)

theorem eq21 : ∀ (x0_0 x0_1 x0_2 x0_3 x0_4 x0_5 x0_6 x0_7 x0_8 x0_9 x0_10 : Int) (x0_11 : Bool) (x1 x2_0 x2_1 : Int) (x2_2p : Option (Nat × Nat)) (x2_2n x2_2c : Nat) (x2_3 : Bool) (x2_4 x2_5 x2_6 : Int) (x2_7 : Bool) (H : Am.Heap)
  (K : Am.V → Am.Heap → Prop),
  Am.Rec.call (Am.Run env) 21
   [V.agg (c29 x0_0 x0_1 x0_2 x0_3 x0_4 x0_5 x0_6 x0_7 x0_8 x0_9 x0_10 x0_11), V.int IntKind.i64 x1,
   V.agg (c25 x2_0 x2_1 x2_2p x2_2n x2_2c x2_3 x2_4 x2_5 x2_6 x2_7)]
   H K =
  br (decide (x2_5 = 0))
   (Am.Rec.call (Am.Run env) 30
   [V.agg (c29 x0_0 x0_1 x0_2 x0_3 x0_4 x0_5 x0_6 x0_7 x0_8 x0_9 (IntKind.wrap IntKind.u32 (x0_10 + 1)) x2_7), V.int IntKind.i64 x1] H fun v H' ↦
   req (V.isAgg v && Am.fits k29 (V.aggCells v)) (K (V.agg (o29 (V.aggCells v))) H'))
   (req (decide (0 ≤ x1) && decide (x1 < 8))
   (req
    (Nat.ble (0 + Int.toNat x1 * 1 + 1) 12 &&
    (V.isK (Kind.int IntKind.u8) (Am.condV (Nat.beq 8 (0 + Int.toNat x1 * 1)) (V.int IntKind.u32 x2_5) (V.int IntKind.u8 x0_8)) &&
     (V.isK (Kind.int IntKind.i64) (Am.condV (Nat.beq 9 (0 + Int.toNat x1 * 1)) (V.int IntKind.u32 x2_5) (V.int IntKind.i64 x0_9)) &&
     (V.isK Kind.bool (Am.condV (Nat.beq 11 (0 + Int.toNat x1 * 1)) (V.int IntKind.u32 x2_5) (V.bool x2_7)) && true))))
    (K
    (V.agg
     (c29 (bif Nat.beq 0 (0 + Int.toNat x1 * 1) then x2_5 else x0_0) (bif Nat.beq 1 (0 + Int.toNat x1 * 1) then x2_5 else x0_1)
     (bif Nat.beq 2 (0 + Int.toNat x1 * 1) then x2_5 else x0_2) (bif Nat.beq 3 (0 + Int.toNat x1 * 1) then x2_5 else x0_3) (bif Nat.beq 4 (0 + Int.toNat x1 * 1) then x2_5 else x0_4)
     (bif Nat.beq 5 (0 + Int.toNat x1 * 1) then x2_5 else x0_5) (bif Nat.beq 6 (0 + Int.toNat x1 * 1) then x2_5 else x0_6) (bif Nat.beq 7 (0 + Int.toNat x1 * 1) then x2_5 else x0_7)
     (V.getInt (Am.condV (Nat.beq 8 (0 + Int.toNat x1 * 1)) (V.int IntKind.u32 x2_5) (V.int IntKind.u8 x0_8)))
     (V.getInt (Am.condV (Nat.beq 9 (0 + Int.toNat x1 * 1)) (V.int IntKind.u32 x2_5) (V.int IntKind.i64 x0_9)))
     (bif Nat.beq 10 (0 + Int.toNat x1 * 1) then x2_5 else IntKind.wrap IntKind.u32 (x0_10 + 1))
     (V.getBool (Am.condV (Nat.beq 11 (0 + Int.toNat x1 * 1)) (V.int IntKind.u32 x2_5) (V.bool x2_7)))))
    H))) :=
  fun x0_0 x0_1 x0_2 x0_3 x0_4 x0_5 x0_6 x0_7 x0_8 x0_9 x0_10 x0_11 x1 x2_0 x2_1 x2_2p x2_2n x2_2c x2_3 x2_4 x2_5 x2_6 x2_7 H K => (Run_call (E := env)).trans (by kernel_rfl)

theorem eq22 : ∀ (x0_0 x0_1 x0_2 x0_3 x0_4 x0_5 x0_6 x0_7 x0_8 x0_9 x0_10 : Int) (x0_11 : Bool) (x1 x2 : Int) (H : Am.Heap) (K : Am.V → Am.Heap → Prop),
  Am.Rec.call (Am.Run env) 22
   [V.agg (c29 x0_0 x0_1 x0_2 x0_3 x0_4 x0_5 x0_6 x0_7 x0_8 x0_9 x0_10 x0_11), V.int IntKind.i64 x1, V.int IntKind.u8 x2] H K =
  Am.Rec.call (Am.Run env) 29 [V.int IntKind.u8 x2] H fun v H' ↦
   req (V.isK Kind.bool v)
   (br (V.getBool v) (K (V.agg (c29 x0_0 x0_1 x0_2 x0_3 x0_4 x0_5 x0_6 x0_7 x2 (-1) x0_10 x0_11)) H')
    (K (V.agg (c29 x0_0 x0_1 x0_2 x0_3 x0_4 x0_5 x0_6 x0_7 x2 x1 x0_10 x0_11)) H')) :=
  fun x0_0 x0_1 x0_2 x0_3 x0_4 x0_5 x0_6 x0_7 x0_8 x0_9 x0_10 x0_11 x1 x2 H K => (Run_call (E := env)).trans (by kernel_rfl)

theorem eq23 : ∀ (x0_0 x0_1 x0_2 x0_3 x0_4 x0_5 x0_6 x0_7 x0_8 x0_9 x0_10 : Int) (x0_11 : Bool) (H : Am.Heap) (K : Am.V → Am.Heap → Prop),
  Am.Rec.call (Am.Run env) 23 [V.agg (c29 x0_0 x0_1 x0_2 x0_3 x0_4 x0_5 x0_6 x0_7 x0_8 x0_9 x0_10 x0_11)] H K =
  K (V.agg (c29 x0_0 x0_1 x0_2 x0_3 x0_4 x0_5 x0_6 x0_7 0 (-1) x0_10 x0_11)) H :=
  fun x0_0 x0_1 x0_2 x0_3 x0_4 x0_5 x0_6 x0_7 x0_8 x0_9 x0_10 x0_11 H K => (Run_call (E := env)).trans (by kernel_rfl)

theorem eq24 : ∀ (x0_0 x0_1 x0_2 x0_3 x0_4 x0_5 x0_6 x0_7 x0_8 x0_9 x0_10 : Int) (x0_11 : Bool) (x1 x2_0 x2_1 : Int) (x2_2p : Option (Nat × Nat)) (x2_2n x2_2c : Nat) (x2_3 : Bool) (x2_4 x2_5 x2_6 : Int) (x2_7 : Bool) (H : Am.Heap)
  (K : Am.V → Am.Heap → Prop),
  Am.Rec.call (Am.Run env) 24
   [V.agg (c29 x0_0 x0_1 x0_2 x0_3 x0_4 x0_5 x0_6 x0_7 x0_8 x0_9 x0_10 x0_11), V.int IntKind.i64 x1,
   V.agg (c25 x2_0 x2_1 x2_2p x2_2n x2_2c x2_3 x2_4 x2_5 x2_6 x2_7)]
   H K =
  Am.joinP
   (fun Q ↦
   br (decide (x2_5 = 0))
    (Am.Rec.call (Am.Run env) 29 [V.int IntKind.u8 x0_8] H fun v H' ↦
    req (V.isK Kind.bool v) (Q (St.mk (Am.look [(21, T.v (V.bool !V.getBool v))]) (Am.look []) H')))
    (Q (St.mk (Am.look [(21, T.v (V.bool false))]) (Am.look []) H)))
   fun S' ↦
   req (Am.isKT (KT.k Kind.bool) (S'.1 21) || false || false)
   (br (V.getBool (T.val (S'.1 21)))
    (K (V.tuple [V.agg (c29 x0_0 x0_1 x0_2 x0_3 x0_4 x0_5 x0_6 x0_7 x0_8 x0_9 x0_10 x0_11), V.int IntKind.i64 1]) S'.3)
    (req
    (Am.mergeR (!decide (x2_5 = 0))
     (decide (0 ≤ x1) && decide (x1 < 8) && true &&
     (Nat.ble (Nat.succ (0 + Int.toNat x1 * 1)) 12 &&
       V.isK (Kind.int IntKind.u32) (nthV (c29 x0_0 x0_1 x0_2 x0_3 x0_4 x0_5 x0_6 x0_7 x0_8 x0_9 x0_10 x0_11) (0 + Int.toNat x1 * 1)) &&
      true &&
      true))
     true)
    (Am.Rec.loop (Am.Run env) (Am.loopAt env 24 8) 24 8
     (St.mk
     (Am.look
      [(1, T.v (V.int IntKind.i64 x1)), (3, T.lp 3 0), (5, T.lp 5 0), (6, T.lp 6 0), (8, T.v (V.bool false)),
      (9,
       T.v
       (V.bool
        (bif !decide (x2_5 = 0) then
        decide (x2_5 = V.getInt (nthV (c29 x0_0 x0_1 x0_2 x0_3 x0_4 x0_5 x0_6 x0_7 x0_8 x0_9 x0_10 x0_11) (0 + Int.toNat x1 * 1))) &&
         (!decide (x0_8 = 0) && decide (x0_9 = x1))
        else true))),
      (10, T.lp 10 0), (48, T.v (V.agg (c28 x0_0 x0_1 x0_2 x0_3 x0_4 x0_5 x0_6 x0_7))), (49, T.v (V.int IntKind.i64 0))])
     (Am.look
      [(3, Loc.cells 30 (c29 x0_0 x0_1 x0_2 x0_3 x0_4 x0_5 x0_6 x0_7 x0_8 x0_9 x0_10 x0_11)),
      (5, Loc.cells 26 (c25 x2_0 x2_1 x2_2p x2_2n x2_2c x2_3 x2_4 x2_5 x2_6 x2_7)),
      (6, Loc.cells 30 (c29 0 0 0 0 0 0 0 0 0 0 0 false)),
      (10, Loc.cells 30 (c29 x0_0 x0_1 x0_2 x0_3 x0_4 x0_5 x0_6 x0_7 x0_8 x0_9 x0_10 x0_11))])
     S'.3)
     (fun S' ↦ False) fun j S' ↦
     br (Nat.beq j 0)
     (req
      (Am.isKT (KT.k (Kind.int IntKind.i64)) (S'.1 1) &&
       (Am.isKT (KT.lp 3) (S'.1 3) &&
       (Am.isKT (KT.lp 5) (S'.1 5) &&
        (Am.isKT (KT.lp 6) (S'.1 6) &&
        (Am.isKT (KT.k Kind.bool) (S'.1 8) && (Am.isKT (KT.k Kind.bool) (S'.1 9) && (Am.isKT (KT.lp 10) (S'.1 10) || false)))))) &&
      (Am.isLK 30 k29 (S'.2 3) &&
       (Am.isLK 26 k25 (S'.2 5) && (Am.isLK 30 k29 (S'.2 6) && (Am.isLK 30 k29 (S'.2 10) || false)))))
      (br (!V.getBool (T.val (S'.1 8)) && !V.getBool (T.val (S'.1 9)))
      (K (V.tuple [V.agg (o29 (Am.locCells (S'.2 3))), V.int IntKind.i64 13]) S'.3)
      (br (V.getBool (T.val (S'.1 9)))
       (Am.Rec.call (Am.Run env) 23
       [V.agg
        (c29 (V.getInt (nthV (Am.locCells (S'.2 10)) 0)) (V.getInt (nthV (Am.locCells (S'.2 10)) 1))
         (V.getInt (nthV (Am.locCells (S'.2 10)) 2)) (V.getInt (nthV (Am.locCells (S'.2 10)) 3)) (V.getInt (nthV (Am.locCells (S'.2 10)) 4))
         (V.getInt (nthV (Am.locCells (S'.2 10)) 5)) (V.getInt (nthV (Am.locCells (S'.2 10)) 6)) (V.getInt (nthV (Am.locCells (S'.2 10)) 7))
         (V.getInt (nthV (Am.locCells (S'.2 10)) 8)) (V.getInt (nthV (Am.locCells (S'.2 10)) 9))
         (IntKind.wrap IntKind.u32 (V.getInt (nthV (Am.locCells (S'.2 10)) 10) + 1)) (V.getBool (nthV (Am.locCells (S'.2 10)) 11)))]
       S'.3 fun v H' ↦
       req (V.isAgg v && Am.fits k29 (V.aggCells v))
        (Am.Rec.call (Am.Run env) 22
        [V.agg (o29 (V.aggCells v)), V.int IntKind.i64 (V.getInt (T.val (S'.1 1))),
         V.int IntKind.u8 (V.getInt (nthV (Am.locCells (S'.2 5)) 6))]
        H' fun v H' ↦
        req (V.isAgg v && Am.fits k29 (V.aggCells v))
         (K (V.tuple [V.agg (o29 (V.aggCells v)), V.int IntKind.i64 0]) H')))
       (K
       (V.tuple
        [V.agg
         (c29 (V.getInt (nthV (Am.locCells (S'.2 10)) 0)) (V.getInt (nthV (Am.locCells (S'.2 10)) 1))
         (V.getInt (nthV (Am.locCells (S'.2 10)) 2)) (V.getInt (nthV (Am.locCells (S'.2 10)) 3)) (V.getInt (nthV (Am.locCells (S'.2 10)) 4))
         (V.getInt (nthV (Am.locCells (S'.2 10)) 5)) (V.getInt (nthV (Am.locCells (S'.2 10)) 6)) (V.getInt (nthV (Am.locCells (S'.2 10)) 7))
         (V.getInt (nthV (Am.locCells (S'.2 10)) 8)) (V.getInt (nthV (Am.locCells (S'.2 10)) 9))
         (IntKind.wrap IntKind.u32 (V.getInt (nthV (Am.locCells (S'.2 10)) 10) + 1)) (V.getBool (nthV (Am.locCells (S'.2 10)) 11))),
        V.int IntKind.i64 0])
       S'.3))))
     False))) :=
  fun x0_0 x0_1 x0_2 x0_3 x0_4 x0_5 x0_6 x0_7 x0_8 x0_9 x0_10 x0_11 x1 x2_0 x2_1 x2_2p x2_2n x2_2c x2_3 x2_4 x2_5 x2_6 x2_7 H K => (Run_call (E := env)).trans (by kernel_rfl)

theorem lp24_8 : ∀ (t1 : Int) (t8 t9 : Bool) (t48 t48' t48'' t48''' t48'''' t48''''' t48'''''' t48''''''' t49 l3 l3' l3'' l3''' l3'''' l3''''' l3'''''' l3''''''' l3'''''''' l3''''''''' l3'''''''''' : Int) (l3''''''''''' : Bool)
  (l5 l5' : Int) (l5''_0 : Option (Nat × Nat)) (l5''_1 l5''_2 : Nat) (l5''' : Bool) (l5'''' l5''''' l5'''''' : Int) (l5''''''' : Bool)
  (l6 l6' l6'' l6''' l6'''' l6''''' l6'''''' l6''''''' l6'''''''' l6''''''''' l6'''''''''' : Int) (l6''''''''''' : Bool)
  (l10 l10' l10'' l10''' l10'''' l10''''' l10'''''' l10''''''' l10'''''''' l10''''''''' l10'''''''''' : Int) (l10''''''''''' : Bool) (H : Am.Heap) (Kr : Am.St → Prop) (Ke : Nat → Am.St → Prop),
  Am.Rec.loop (Am.Run env) (Am.loopAt env 24 8) 24 8
   (St.mk
   (Am.look
    [(1, T.v (V.int IntKind.i64 t1)), (3, T.lp 3 0), (5, T.lp 5 0), (6, T.lp 6 0), (8, T.v (V.bool t8)), (9, T.v (V.bool t9)), (10, T.lp 10 0),
    (48, T.v (V.agg (c28 t48 t48' t48'' t48''' t48'''' t48''''' t48'''''' t48'''''''))), (49, T.v (V.int IntKind.i64 t49))])
   (Am.look
    [(3, Loc.cells 30 (c29 l3 l3' l3'' l3''' l3'''' l3''''' l3'''''' l3''''''' l3'''''''' l3''''''''' l3'''''''''' l3''''''''''')),
    (5, Loc.cells 26 (c25 l5 l5' l5''_0 l5''_1 l5''_2 l5''' l5'''' l5''''' l5'''''' l5''''''')),
    (6, Loc.cells 30 (c29 l6 l6' l6'' l6''' l6'''' l6''''' l6'''''' l6''''''' l6'''''''' l6''''''''' l6'''''''''' l6''''''''''')),
    (10, Loc.cells 30 (c29 l10 l10' l10'' l10''' l10'''' l10''''' l10'''''' l10''''''' l10'''''''' l10''''''''' l10'''''''''' l10'''''''''''))])
   H)
   Kr Ke =
  br (decide (t49 < 8))
   (req
   (decide (0 ≤ t49) && decide (t49 < 8) &&
    (Nat.ble (Nat.succ (Int.toNat t49 * 1)) 8 &&
    V.isK (Kind.int IntKind.u32) (nthV (c28 t48 t48' t48'' t48''' t48'''' t48''''' t48'''''' t48''''''') (Int.toNat t49 * 1))))
   (br
    (bif !decide (V.getInt (nthV (c28 t48 t48' t48'' t48''' t48'''' t48''''' t48'''''' t48''''''') (Int.toNat t49 * 1)) = 0) then
    bif !decide (t49 = t1) then
     !decide (V.getInt (nthV (c28 t48 t48' t48'' t48''' t48'''' t48''''' t48'''''' t48''''''') (Int.toNat t49 * 1)) = l5''''') && !decide (l5''''' = 0)
    else true
    else true)
    (Am.Rec.loop (Am.Run env) (Am.loopAt env 24 8) 24 8
    (St.mk
     (Am.look
     [(1, T.v (V.int IntKind.i64 t1)), (3, T.lp 3 0), (5, T.lp 5 0), (6, T.lp 6 0), (8, T.v (V.bool t8)), (9, T.v (V.bool t9)), (10, T.lp 10 0),
      (48, T.v (V.agg (c28 t48 t48' t48'' t48''' t48'''' t48''''' t48'''''' t48'''''''))),
      (49, T.v (V.int IntKind.i64 (IntKind.wrap IntKind.i64 (t49 + 1))))])
     (Am.look
     [(3, Loc.cells 30 (c29 l3 l3' l3'' l3''' l3'''' l3''''' l3'''''' l3''''''' l3'''''''' l3''''''''' l3'''''''''' l3''''''''''')),
      (5, Loc.cells 26 (c25 l5 l5' l5''_0 l5''_1 l5''_2 l5''' l5'''' l5''''' l5'''''' l5''''''')),
      (6, Loc.cells 30 (c29 l6 l6' l6'' l6''' l6'''' l6''''' l6'''''' l6''''''' l6'''''''' l6''''''''' l6'''''''''' l6''''''''''')),
      (10, Loc.cells 30 (c29 l10 l10' l10'' l10''' l10'''' l10''''' l10'''''' l10''''''' l10'''''''' l10''''''''' l10'''''''''' l10'''''''''''))])
     H)
    Kr Ke)
    (req (decide (0 ≤ t49) && decide (t49 < 8))
    (req
     (Nat.ble (0 + Int.toNat t49 * 1 + 1) 12 &&
     (V.isK (Kind.int IntKind.u8) (Am.condV (Nat.beq 8 (0 + Int.toNat t49 * 1)) (V.int IntKind.u32 0) (V.int IntKind.u8 l10'''''''')) &&
      (V.isK (Kind.int IntKind.i64) (Am.condV (Nat.beq 9 (0 + Int.toNat t49 * 1)) (V.int IntKind.u32 0) (V.int IntKind.i64 l10''''''''')) &&
      (V.isK Kind.bool (Am.condV (Nat.beq 11 (0 + Int.toNat t49 * 1)) (V.int IntKind.u32 0) (V.bool l10''''''''''')) && true))))
     (Am.Rec.loop (Am.Run env) (Am.loopAt env 24 8) 24 8
     (St.mk
      (Am.look
      [(1, T.v (V.int IntKind.i64 t1)), (3, T.lp 3 0), (5, T.lp 5 0), (6, T.lp 6 0), (8, T.v (V.bool true)),
       (9, T.v (V.bool (bif !t9 then decide (l3''''''''' = t49) else true))), (10, T.lp 10 0),
       (48, T.v (V.agg (c28 t48 t48' t48'' t48''' t48'''' t48''''' t48'''''' t48'''''''))),
       (49, T.v (V.int IntKind.i64 (IntKind.wrap IntKind.i64 (t49 + 1))))])
      (Am.look
      [(3, Loc.cells 30 (c29 l3 l3' l3'' l3''' l3'''' l3''''' l3'''''' l3''''''' l3'''''''' l3''''''''' l3'''''''''' l3''''''''''')),
       (5, Loc.cells 26 (c25 l5 l5' l5''_0 l5''_1 l5''_2 l5''' l5'''' l5''''' l5'''''' l5''''''')),
       (6, Loc.cells 30 (c29 l6 l6' l6'' l6''' l6'''' l6''''' l6'''''' l6''''''' l6'''''''' l6''''''''' l6'''''''''' l6''''''''''')),
       (10,
       Loc.cells 30
        (c29 (bif Nat.beq 0 (0 + Int.toNat t49 * 1) then 0 else l10) (bif Nat.beq 1 (0 + Int.toNat t49 * 1) then 0 else l10')
        (bif Nat.beq 2 (0 + Int.toNat t49 * 1) then 0 else l10'') (bif Nat.beq 3 (0 + Int.toNat t49 * 1) then 0 else l10''') (bif Nat.beq 4 (0 + Int.toNat t49 * 1) then 0 else l10'''')
        (bif Nat.beq 5 (0 + Int.toNat t49 * 1) then 0 else l10''''') (bif Nat.beq 6 (0 + Int.toNat t49 * 1) then 0 else l10'''''') (bif Nat.beq 7 (0 + Int.toNat t49 * 1) then 0 else l10''''''')
        (V.getInt (Am.condV (Nat.beq 8 (0 + Int.toNat t49 * 1)) (V.int IntKind.u32 0) (V.int IntKind.u8 l10'''''''')))
        (V.getInt (Am.condV (Nat.beq 9 (0 + Int.toNat t49 * 1)) (V.int IntKind.u32 0) (V.int IntKind.i64 l10''''''''')))
        (bif Nat.beq 10 (0 + Int.toNat t49 * 1) then 0 else l10'''''''''')
        (V.getBool (Am.condV (Nat.beq 11 (0 + Int.toNat t49 * 1)) (V.int IntKind.u32 0) (V.bool l10''''''''''')))))])
      H)
     Kr Ke)))))
   (Ke 0
   (St.mk
    (Am.look
    [(1, T.v (V.int IntKind.i64 t1)), (3, T.lp 3 0), (5, T.lp 5 0), (6, T.lp 6 0), (8, T.v (V.bool t8)), (9, T.v (V.bool t9)), (10, T.lp 10 0)])
    (Am.look
    [(3, Loc.cells 30 (c29 l3 l3' l3'' l3''' l3'''' l3''''' l3'''''' l3''''''' l3'''''''' l3''''''''' l3'''''''''' l3''''''''''')),
     (5, Loc.cells 26 (c25 l5 l5' l5''_0 l5''_1 l5''_2 l5''' l5'''' l5''''' l5'''''' l5''''''')),
     (6, Loc.cells 30 (c29 l6 l6' l6'' l6''' l6'''' l6''''' l6'''''' l6''''''' l6'''''''' l6''''''''' l6'''''''''' l6''''''''''')),
     (10, Loc.cells 30 (c29 l10 l10' l10'' l10''' l10'''' l10''''' l10'''''' l10''''''' l10'''''''' l10''''''''' l10'''''''''' l10'''''''''''))])
    H)) :=
  fun t1 t8 t9 t48 t48' t48'' t48''' t48'''' t48''''' t48'''''' t48''''''' t49 l3 l3' l3'' l3''' l3'''' l3''''' l3'''''' l3''''''' l3'''''''' l3''''''''' l3'''''''''' l3''''''''''' l5 l5' l5''_0 l5''_1 l5''_2 l5''' l5'''' l5''''' l5'''''' l5''''''' l6 l6' l6'' l6''' l6'''' l6''''' l6'''''' l6''''''' l6'''''''' l6''''''''' l6'''''''''' l6''''''''''' l10 l10' l10'' l10''' l10'''' l10''''' l10'''''' l10''''''' l10'''''''' l10''''''''' l10'''''''''' l10''''''''''' H Kr Ke => (Run_loop (E := env)).trans (by kernel_rfl)

theorem eq25 : ∀ (x0_0 x0_1 x0_2 x0_3 x0_4 x0_5 x0_6 x0_7 x0_8 x0_9 x0_10 : Int) (x0_11 : Bool) (H : Am.Heap) (K : Am.V → Am.Heap → Prop),
  Am.Rec.call (Am.Run env) 25 [V.agg (c29 x0_0 x0_1 x0_2 x0_3 x0_4 x0_5 x0_6 x0_7 x0_8 x0_9 x0_10 x0_11)] H K =
  Am.Rec.loop (Am.Run env) (Am.loopAt env 25 2) 25 2
   (St.mk (Am.look [(1, T.lp 1 0), (3, T.v (V.int IntKind.i64 0))])
   (Am.look [(1, Loc.cells 30 (c29 x0_0 x0_1 x0_2 x0_3 x0_4 x0_5 x0_6 x0_7 x0_8 x0_9 x0_10 x0_11))]) H)
   (fun S' ↦ req (Am.isKT (KT.k Kind.bool) (S'.1 2) || false || false) (K (V.bool (V.getBool (T.val (S'.1 2)))) S'.3)) fun j S' ↦
   br (Nat.beq j 0) (K (V.bool false) S'.3) False :=
  fun x0_0 x0_1 x0_2 x0_3 x0_4 x0_5 x0_6 x0_7 x0_8 x0_9 x0_10 x0_11 H K => (Run_call (E := env)).trans (by kernel_rfl)

theorem lp25_2 : ∀ (t3 l1 l1' l1'' l1''' l1'''' l1''''' l1'''''' l1''''''' l1'''''''' l1''''''''' l1'''''''''' : Int) (l1''''''''''' : Bool) (H : Am.Heap) (Kr : Am.St → Prop) (Ke : Nat → Am.St → Prop),
  Am.Rec.loop (Am.Run env) (Am.loopAt env 25 2) 25 2
   (St.mk (Am.look [(1, T.lp 1 0), (3, T.v (V.int IntKind.i64 t3))])
   (Am.look [(1, Loc.cells 30 (c29 l1 l1' l1'' l1''' l1'''' l1''''' l1'''''' l1''''''' l1'''''''' l1''''''''' l1'''''''''' l1'''''''''''))]) H)
   Kr Ke =
  br (decide (t3 < 8))
   (req (decide (0 ≤ t3) && decide (t3 < 8))
   (req
    (Nat.ble (Nat.succ (0 + Int.toNat t3 * 1)) 12 &&
    V.isK (Kind.int IntKind.u32)
     (nthV (c29 l1 l1' l1'' l1''' l1'''' l1''''' l1'''''' l1''''''' l1'''''''' l1''''''''' l1'''''''''' l1''''''''''') (0 + Int.toNat t3 * 1)))
    (br
    (!decide
     (V.getInt (nthV (c29 l1 l1' l1'' l1''' l1'''' l1''''' l1'''''' l1''''''' l1'''''''' l1''''''''' l1'''''''''' l1''''''''''') (0 + Int.toNat t3 * 1)) = 0))
    (Kr (St.mk (Am.look [(2, T.v (V.bool true))]) (Am.look []) H))
    (Am.Rec.loop (Am.Run env) (Am.loopAt env 25 2) 25 2
     (St.mk (Am.look [(1, T.lp 1 0), (3, T.v (V.int IntKind.i64 (IntKind.wrap IntKind.i64 (t3 + 1))))])
     (Am.look [(1, Loc.cells 30 (c29 l1 l1' l1'' l1''' l1'''' l1''''' l1'''''' l1''''''' l1'''''''' l1''''''''' l1'''''''''' l1'''''''''''))]) H)
     Kr Ke))))
   (Ke 0 (St.mk (Am.look []) (Am.look []) H)) :=
  fun t3 l1 l1' l1'' l1''' l1'''' l1''''' l1'''''' l1''''''' l1'''''''' l1''''''''' l1'''''''''' l1''''''''''' H Kr Ke => (Run_loop (E := env)).trans (by kernel_rfl)

theorem eq26 : ∀ (x0_0 x0_1 x0_2 x0_3 x0_4 x0_5 x0_6 x0_7 x0_8 x0_9 x0_10 : Int) (x0_11 : Bool) (H : Am.Heap) (K : Am.V → Am.Heap → Prop),
  Am.Rec.call (Am.Run env) 26 [V.agg (c29 x0_0 x0_1 x0_2 x0_3 x0_4 x0_5 x0_6 x0_7 x0_8 x0_9 x0_10 x0_11)] H K =
  K (V.agg (c29 x0_0 x0_1 x0_2 x0_3 x0_4 x0_5 x0_6 x0_7 0 (-1) x0_10 x0_11)) H :=
  fun x0_0 x0_1 x0_2 x0_3 x0_4 x0_5 x0_6 x0_7 x0_8 x0_9 x0_10 x0_11 H K => (Run_call (E := env)).trans (by kernel_rfl)

theorem eq27 : ∀ (x0_0 x0_1 x0_2 x0_3 x0_4 x0_5 x0_6 x0_7 x0_8 x0_9 x0_10 : Int) (x0_11 : Bool) (x1 x2 : Int) (H : Am.Heap) (K : Am.V → Am.Heap → Prop),
  Am.Rec.call (Am.Run env) 27
   [V.agg (c29 x0_0 x0_1 x0_2 x0_3 x0_4 x0_5 x0_6 x0_7 x0_8 x0_9 x0_10 x0_11), V.int IntKind.i64 x1, V.int IntKind.u8 x2] H K =
  br (bif !decide (x2 = 7) then decide (x2 = 8) else true) (K (V.agg (c29 x0_0 x0_1 x0_2 x0_3 x0_4 x0_5 x0_6 x0_7 x2 (-1) x0_10 x0_11)) H)
   (K (V.agg (c29 x0_0 x0_1 x0_2 x0_3 x0_4 x0_5 x0_6 x0_7 x2 x1 x0_10 x0_11)) H) :=
  fun x0_0 x0_1 x0_2 x0_3 x0_4 x0_5 x0_6 x0_7 x0_8 x0_9 x0_10 x0_11 x1 x2 H K => (Run_call (E := env)).trans (by kernel_rfl)

theorem eq28 : ∀ (x0_0 x0_1 x0_2 x0_3 x0_4 x0_5 x0_6 x0_7 x0_8 x0_9 x0_10 : Int) (x0_11 : Bool) (x1 : Int) (H : Am.Heap) (K : Am.V → Am.Heap → Prop),
  Am.Rec.call (Am.Run env) 28 [V.agg (c29 x0_0 x0_1 x0_2 x0_3 x0_4 x0_5 x0_6 x0_7 x0_8 x0_9 x0_10 x0_11), V.int IntKind.i64 x1] H K =
  br (bif !decide (x1 < 0) then decide (x1 > 7) else true) (K (V.bool false) H)
   (br (decide (x0_8 = 0)) (K (V.bool false) H)
   (Am.joinP
    (fun Q ↦
    br (decide (x0_8 = 7)) (Q (St.mk (Am.look [(15, T.v (V.bool (decide (x0_8 = 7))))]) (Am.look []) H))
     (Q (St.mk (Am.look [(15, T.v (V.bool (decide (x0_8 = 8))))]) (Am.look []) H)))
    fun S' ↦
    req (Am.isKT (KT.k Kind.bool) (S'.1 15) || false || false)
    (br (V.getBool (T.val (S'.1 15)))
     (req (decide (0 ≤ x1) && decide (x1 < 8))
     (req
      (Nat.ble (Nat.succ (0 + Int.toNat x1 * 1)) 12 &&
      V.isK (Kind.int IntKind.u32) (nthV (c29 x0_0 x0_1 x0_2 x0_3 x0_4 x0_5 x0_6 x0_7 x0_8 x0_9 x0_10 x0_11) (0 + Int.toNat x1 * 1)))
      (K (V.bool !decide (V.getInt (nthV (c29 x0_0 x0_1 x0_2 x0_3 x0_4 x0_5 x0_6 x0_7 x0_8 x0_9 x0_10 x0_11) (0 + Int.toNat x1 * 1)) = 0)) S'.3)))
     (K (V.bool (decide (x0_9 = x1))) S'.3)))) :=
  fun x0_0 x0_1 x0_2 x0_3 x0_4 x0_5 x0_6 x0_7 x0_8 x0_9 x0_10 x0_11 x1 H K => (Run_call (E := env)).trans (by kernel_rfl)

theorem eq29 : ∀ (x0 : Int) (H : Am.Heap) (K : Am.V → Am.Heap → Prop),
  Am.Rec.call (Am.Run env) 29 [V.int IntKind.u8 x0] H K = K (V.bool (bif !decide (x0 = 7) then decide (x0 = 8) else true)) H :=
  fun x0 H K => (Run_call (E := env)).trans (by kernel_rfl)

theorem eq30 : ∀ (x0_0 x0_1 x0_2 x0_3 x0_4 x0_5 x0_6 x0_7 x0_8 x0_9 x0_10 : Int) (x0_11 : Bool) (x1 : Int) (H : Am.Heap) (K : Am.V → Am.Heap → Prop),
  Am.Rec.call (Am.Run env) 30 [V.agg (c29 x0_0 x0_1 x0_2 x0_3 x0_4 x0_5 x0_6 x0_7 x0_8 x0_9 x0_10 x0_11), V.int IntKind.i64 x1] H K =
  req (decide (0 ≤ x1) && decide (x1 < 8))
   (req
   (Nat.ble (0 + Int.toNat x1 * 1 + 1) 12 &&
    (V.isK (Kind.int IntKind.u8) (Am.condV (Nat.beq 8 (0 + Int.toNat x1 * 1)) (V.int IntKind.u32 0) (V.int IntKind.u8 x0_8)) &&
    (V.isK (Kind.int IntKind.i64) (Am.condV (Nat.beq 9 (0 + Int.toNat x1 * 1)) (V.int IntKind.u32 0) (V.int IntKind.i64 x0_9)) &&
     (V.isK Kind.bool (Am.condV (Nat.beq 11 (0 + Int.toNat x1 * 1)) (V.int IntKind.u32 0) (V.bool x0_11)) && true))))
   (br
    (bif !decide (V.getInt (Am.condV (Nat.beq 9 (0 + Int.toNat x1 * 1)) (V.int IntKind.u32 0) (V.int IntKind.i64 x0_9)) = x1) then
    decide ((bif Nat.beq 0 (0 + Int.toNat x1 * 1) then 0 else x0_0) = 0) &&
     (decide ((bif Nat.beq 1 (0 + Int.toNat x1 * 1) then 0 else x0_1) = 0) &&
     (decide ((bif Nat.beq 2 (0 + Int.toNat x1 * 1) then 0 else x0_2) = 0) &&
      (decide ((bif Nat.beq 3 (0 + Int.toNat x1 * 1) then 0 else x0_3) = 0) &&
      (decide ((bif Nat.beq 4 (0 + Int.toNat x1 * 1) then 0 else x0_4) = 0) &&
       (decide ((bif Nat.beq 5 (0 + Int.toNat x1 * 1) then 0 else x0_5) = 0) &&
       (decide ((bif Nat.beq 6 (0 + Int.toNat x1 * 1) then 0 else x0_6) = 0) && (decide ((bif Nat.beq 7 (0 + Int.toNat x1 * 1) then 0 else x0_7) = 0) || false)))))))
    else true)
    (Am.Rec.call (Am.Run env) 23
    [V.agg
     (c29 (bif Nat.beq 0 (0 + Int.toNat x1 * 1) then 0 else x0_0) (bif Nat.beq 1 (0 + Int.toNat x1 * 1) then 0 else x0_1) (bif Nat.beq 2 (0 + Int.toNat x1 * 1) then 0 else x0_2)
      (bif Nat.beq 3 (0 + Int.toNat x1 * 1) then 0 else x0_3) (bif Nat.beq 4 (0 + Int.toNat x1 * 1) then 0 else x0_4) (bif Nat.beq 5 (0 + Int.toNat x1 * 1) then 0 else x0_5)
      (bif Nat.beq 6 (0 + Int.toNat x1 * 1) then 0 else x0_6) (bif Nat.beq 7 (0 + Int.toNat x1 * 1) then 0 else x0_7)
      (V.getInt (Am.condV (Nat.beq 8 (0 + Int.toNat x1 * 1)) (V.int IntKind.u32 0) (V.int IntKind.u8 x0_8)))
      (V.getInt (Am.condV (Nat.beq 9 (0 + Int.toNat x1 * 1)) (V.int IntKind.u32 0) (V.int IntKind.i64 x0_9))) (bif Nat.beq 10 (0 + Int.toNat x1 * 1) then 0 else x0_10)
      (V.getBool (Am.condV (Nat.beq 11 (0 + Int.toNat x1 * 1)) (V.int IntKind.u32 0) (V.bool x0_11))))]
    H fun v H' ↦ req (V.isAgg v && Am.fits k29 (V.aggCells v)) (K (V.agg (o29 (V.aggCells v))) H'))
    (K
    (V.agg
     (c29 (bif Nat.beq 0 (0 + Int.toNat x1 * 1) then 0 else x0_0) (bif Nat.beq 1 (0 + Int.toNat x1 * 1) then 0 else x0_1) (bif Nat.beq 2 (0 + Int.toNat x1 * 1) then 0 else x0_2)
     (bif Nat.beq 3 (0 + Int.toNat x1 * 1) then 0 else x0_3) (bif Nat.beq 4 (0 + Int.toNat x1 * 1) then 0 else x0_4) (bif Nat.beq 5 (0 + Int.toNat x1 * 1) then 0 else x0_5)
     (bif Nat.beq 6 (0 + Int.toNat x1 * 1) then 0 else x0_6) (bif Nat.beq 7 (0 + Int.toNat x1 * 1) then 0 else x0_7)
     (V.getInt (Am.condV (Nat.beq 8 (0 + Int.toNat x1 * 1)) (V.int IntKind.u32 0) (V.int IntKind.u8 x0_8)))
     (V.getInt (Am.condV (Nat.beq 9 (0 + Int.toNat x1 * 1)) (V.int IntKind.u32 0) (V.int IntKind.i64 x0_9))) (bif Nat.beq 10 (0 + Int.toNat x1 * 1) then 0 else x0_10)
     (V.getBool (Am.condV (Nat.beq 11 (0 + Int.toNat x1 * 1)) (V.int IntKind.u32 0) (V.bool x0_11)))))
    H))) :=
  fun x0_0 x0_1 x0_2 x0_3 x0_4 x0_5 x0_6 x0_7 x0_8 x0_9 x0_10 x0_11 x1 H K => (Run_call (E := env)).trans (by kernel_rfl)

end Go.Proofs.Ytmoopebmajefkaa
