/- The equations of the calls and of the loops' rounds; the kernel looks at each. Written by a program (wip/am/Walk.lean). -/
import Derived.Test.YtibkggbidojocaaAmEnv
import Derived.Test.YtibkggbidojocaaAmSep
namespace Go.Proofs.Ytibkggbidojocaa
open Go.Am
set_option maxRecDepth 100000
set_option linter.unusedVariables false

theorem eq3 : ∀ (x0 : ByteArray) (H : Am.Heap) (K : Am.V → Am.Heap → Prop),
  Am.Rec.call (Am.Run env) 3 [V.str x0] H K =
  Am.Rec.call (Am.Run env) 10 [] H fun v H' ↦
   req (V.isK Kind.bool v)
   (br (!V.getBool v) (K (V.bool false) H')
    (Am.Rec.call (Am.Run env) 11 [V.str x0] H' fun v H' ↦
    req
     (V.isTuple 3 v &&
     (V.isK Kind.slice (nthV (V.vals v) 0) &&
      (V.isK (Kind.int IntKind.i64) (nthV (V.vals v) 1) && (V.isK (Kind.int IntKind.i64) (nthV (V.vals v) 2) || false))))
     (Am.Rec.call (Am.Run env) 12 [V.str x0] H' fun v_1 H' ↦
     req
      (V.isTuple 3 v_1 &&
      (V.isK Kind.slice (nthV (V.vals v_1) 0) &&
       (V.isK (Kind.int IntKind.i64) (nthV (V.vals v_1) 1) && (V.isK (Kind.int IntKind.i64) (nthV (V.vals v_1) 2) || false))))
      (Am.Rec.call (Am.Run env) 13
      [V.slice (V.slPtr (nthV (V.vals v) 0)) (V.slLen (nthV (V.vals v) 0)) (V.slCap (nthV (V.vals v) 0)),
       V.slice (V.slPtr (nthV (V.vals v_1) 0)) (V.slLen (nthV (V.vals v_1) 0)) (V.slCap (nthV (V.vals v_1) 0))]
      H' fun v_2 H' ↦
      req (V.isK Kind.bool v_2)
       (K
       (V.bool
        (V.getBool v_2 &&
        (decide (V.getInt (nthV (V.vals v) 1) = V.getInt (nthV (V.vals v_1) 1)) &&
         decide (V.getInt (nthV (V.vals v) 2) = V.getInt (nthV (V.vals v_1) 2)))))
       H'))))) :=
  fun x0 H K => (Run_call (E := env)).trans (by kernel_rfl)

theorem eq4 : ∀ (x0 x1 : ByteArray) (H : Am.Heap) (K : Am.V → Am.Heap → Prop),
  Am.Rec.call (Am.Run env) 4 [V.str x0, V.str x1] H K =
  Am.Rec.call (Am.Run env) 10 [] H fun v H' ↦
   req (V.isK Kind.bool v)
   (br (bif !!V.getBool v then decide (IntKind.wrap IntKind.i64 ((↑(ByteArray.size x0) : Int) + (↑(ByteArray.size x1) : Int)) > 399) else true)
    (Am.Rec.call (Am.Run env) 10 [] H' fun v H' ↦ req (V.isK Kind.bool v) (K (V.bool (V.getBool v)) H'))
    (Am.Rec.call (Am.Run env) 11 [V.str x0] H' fun v H' ↦
    req
     (V.isTuple 3 v &&
     (V.isK Kind.slice (nthV (V.vals v) 0) &&
      (V.isK (Kind.int IntKind.i64) (nthV (V.vals v) 1) && (V.isK (Kind.int IntKind.i64) (nthV (V.vals v) 2) || false))))
     (Am.Rec.call (Am.Run env) 11 [V.str x1] H' fun v_1 H' ↦
     req
      (V.isTuple 3 v_1 &&
      (V.isK Kind.slice (nthV (V.vals v_1) 0) &&
       (V.isK (Kind.int IntKind.i64) (nthV (V.vals v_1) 1) && (V.isK (Kind.int IntKind.i64) (nthV (V.vals v_1) 2) || false))))
      (req (Am.joinOk x0 (Am.strOf [32]))
      (req (Am.joinOk (Am.joinS x0 (Am.strOf [32])) x1)
       (Am.Rec.call (Am.Run env) 11 [V.str (Am.joinS (Am.joinS x0 (Am.strOf [32])) x1)] H' fun v_2 H' ↦
       req
        (V.isTuple 3 v_2 &&
        (V.isK Kind.slice (nthV (V.vals v_2) 0) &&
         (V.isK (Kind.int IntKind.i64) (nthV (V.vals v_2) 1) && (V.isK (Kind.int IntKind.i64) (nthV (V.vals v_2) 2) || false))))
        (br (!decide (V.getInt (nthV (V.vals v) 2) = 0)) (K (V.bool true) H')
        (br (!decide (V.getInt (nthV (V.vals v_1) 2) = 0))
         (K
         (V.bool
          (decide (V.getInt (nthV (V.vals v_2) 2) = V.getInt (nthV (V.vals v_1) 2)) &&
          decide
           (V.getInt (nthV (V.vals v_2) 1) =
           IntKind.wrap IntKind.i64 (IntKind.wrap IntKind.i64 ((↑(ByteArray.size x0) : Int) + 1) + V.getInt (nthV (V.vals v_1) 1)))))
         H')
         (Am.appendOp env [23, 23]
         [V.slice Option.none 0 0,
          V.slice (V.slPtr (nthV (V.vals v) 0)) (V.slLen (nthV (V.vals v) 0)) (V.slCap (nthV (V.vals v) 0))]
         H' fun q n c H' ↦
         Am.appendOp env [23, 23]
          [V.slice q n c, V.slice (V.slPtr (nthV (V.vals v_1) 0)) (V.slLen (nthV (V.vals v_1) 0)) (V.slCap (nthV (V.vals v_1) 0))]
          H' fun q n c H' ↦
          br (decide (V.getInt (nthV (V.vals v_2) 2) = 0))
          (Am.Rec.call (Am.Run env) 13
           [V.slice (V.slPtr (nthV (V.vals v_2) 0)) (V.slLen (nthV (V.vals v_2) 0)) (V.slCap (nthV (V.vals v_2) 0)),
           V.slice q n c]
           H' fun v H' ↦ req (V.isK Kind.bool v) (K (V.bool (V.getBool v)) H'))
          (K (V.bool false) H')))))))))) :=
  fun x0 x1 H K => (Run_call (E := env)).trans (by kernel_rfl)

theorem eq5 : ∀ (x0 : Int) (H : Am.Heap) (K : Am.V → Am.Heap → Prop),
  Am.Rec.call (Am.Run env) 5 [V.int IntKind.u8 x0] H K =
  req (Am.strOk (Am.Heap.alloc H (Am.Obj.cells 5 [V.int IntKind.u8 x0] false)) (Option.some (H.2, 0)) 1)
   (req
   (Am.joinOk (Am.strOf [34, 97, 92])
    (Am.strAt (Am.Heap.alloc H (Am.Obj.cells 5 [V.int IntKind.u8 x0] false)) (Option.some (H.2, 0)) 1))
   (req
    (Am.joinOk
    (Am.joinS (Am.strOf [34, 97, 92])
     (Am.strAt (Am.Heap.alloc H (Am.Obj.cells 5 [V.int IntKind.u8 x0] false)) (Option.some (H.2, 0)) 1))
    (Am.strOf [34]))
    (Am.Rec.call (Am.Run env) 11
    [V.str
     (Am.joinS
      (Am.joinS (Am.strOf [34, 97, 92])
      (Am.strAt (Am.Heap.alloc H (Am.Obj.cells 5 [V.int IntKind.u8 x0] false)) (Option.some (H.2, 0)) 1))
      (Am.strOf [34]))]
    (Am.Heap.alloc H (Am.Obj.cells 5 [V.int IntKind.u8 x0] false)) fun v H' ↦
    req
     (V.isTuple 3 v &&
     (V.isK Kind.slice (nthV (V.vals v) 0) &&
      (V.isK (Kind.int IntKind.i64) (nthV (V.vals v) 1) && (V.isK (Kind.int IntKind.i64) (nthV (V.vals v) 2) || false))))
     (req (Am.strOk (Am.Heap.alloc H' (Am.Obj.cells 5 [V.int IntKind.u8 x0] false)) (Option.some (H'.2, 0)) 1)
     (req
      (Am.joinOk (Am.strOf [34, 97, 92])
      (Am.strAt (Am.Heap.alloc H' (Am.Obj.cells 5 [V.int IntKind.u8 x0] false)) (Option.some (H'.2, 0)) 1))
      (req
      (Am.joinOk
       (Am.joinS (Am.strOf [34, 97, 92])
       (Am.strAt (Am.Heap.alloc H' (Am.Obj.cells 5 [V.int IntKind.u8 x0] false)) (Option.some (H'.2, 0)) 1))
       (Am.strOf [34]))
      (Am.Rec.call (Am.Run env) 12
       [V.str
        (Am.joinS
        (Am.joinS (Am.strOf [34, 97, 92])
         (Am.strAt (Am.Heap.alloc H' (Am.Obj.cells 5 [V.int IntKind.u8 x0] false)) (Option.some (H'.2, 0)) 1))
        (Am.strOf [34]))]
       (Am.Heap.alloc H' (Am.Obj.cells 5 [V.int IntKind.u8 x0] false)) fun v_1 H' ↦
       req
       (V.isTuple 3 v_1 &&
        (V.isK Kind.slice (nthV (V.vals v_1) 0) &&
        (V.isK (Kind.int IntKind.i64) (nthV (V.vals v_1) 1) && (V.isK (Kind.int IntKind.i64) (nthV (V.vals v_1) 2) || false))))
       (Am.Rec.call (Am.Run env) 10 [] H' fun v_2 H' ↦
        req (V.isK Kind.bool v_2)
        (br (V.getBool v_2)
         (Am.Rec.call (Am.Run env) 13
         [V.slice (V.slPtr (nthV (V.vals v) 0)) (V.slLen (nthV (V.vals v) 0)) (V.slCap (nthV (V.vals v) 0)),
          V.slice (V.slPtr (nthV (V.vals v_1) 0)) (V.slLen (nthV (V.vals v_1) 0)) (V.slCap (nthV (V.vals v_1) 0))]
         H' fun v_3 H' ↦
         req (V.isK Kind.bool v_3)
          (br (V.getBool v_3)
          (br (decide (V.getInt (nthV (V.vals v) 1) = V.getInt (nthV (V.vals v_1) 1)))
           (br (decide (V.getInt (nthV (V.vals v) 2) = V.getInt (nthV (V.vals v_1) 2)))
           (br (!decide (x0 = 92))
            (br (!decide (x0 = 110))
            (br (!decide (x0 = 116))
             (K (V.bool (decide (decide (V.getInt (nthV (V.vals v_1) 2) = 0) = decide (x0 = 34)))) H')
             (K (V.bool (decide (decide (V.getInt (nthV (V.vals v_1) 2) = 0) = true))) H'))
            (K (V.bool (decide (decide (V.getInt (nthV (V.vals v_1) 2) = 0) = true))) H'))
            (K (V.bool (decide (decide (V.getInt (nthV (V.vals v_1) 2) = 0) = true))) H'))
           (K (V.bool false) H'))
           (K (V.bool false) H'))
          (K (V.bool false) H')))
         (K (V.bool false) H')))))))))) :=
  fun x0 H K => (Run_call (E := env)).trans (by kernel_rfl)

theorem eq6 : ∀ (x0 : ByteArray) (H : Am.Heap) (K : Am.V → Am.Heap → Prop),
  Am.Rec.call (Am.Run env) 6 [V.str x0] H K =
  Am.Rec.call (Am.Run env) 10 [] H fun v H' ↦
   req (V.isK Kind.bool v)
   (br (bif !!V.getBool v then decide ((↑(ByteArray.size x0) : Int) > 2000) else true)
    (Am.Rec.call (Am.Run env) 10 [] H' fun v H' ↦ req (V.isK Kind.bool v) (K (V.bool (V.getBool v)) H'))
    (Am.Rec.call (Am.Run env) 14 [V.str x0] H' fun v H' ↦
    req (V.isTuple 2 v && (V.isK (Kind.int IntKind.i64) (nthV (V.vals v) 0) && (V.isK Kind.bool (nthV (V.vals v) 1) || false)))
     (Am.Rec.call (Am.Run env) 15 [V.str x0] H' fun v_1 H' ↦
     req (V.isTuple 2 v_1 && (V.isK (Kind.int IntKind.i64) (nthV (V.vals v_1) 0) && (V.isK Kind.bool (nthV (V.vals v_1) 1) || false)))
      (K
      (V.bool
       (decide (V.getInt (nthV (V.vals v) 0) = V.getInt (nthV (V.vals v_1) 0)) &&
       decide (V.getBool (nthV (V.vals v) 1) = V.getBool (nthV (V.vals v_1) 1))))
      H')))) :=
  fun x0 H K => (Run_call (E := env)).trans (by kernel_rfl)

theorem eq7 : ∀ (x0 : Int) (H : Am.Heap) (K : Am.V → Am.Heap → Prop),
  Am.Rec.call (Am.Run env) 7 [V.int IntKind.u32 x0] H K =
  br (decide (IntKind.wrap IntKind.i32 (Int.tmod x0 1114112) ≥ 55296) && decide (IntKind.wrap IntKind.i32 (Int.tmod x0 1114112) < 57344))
   (Am.Rec.call (Am.Run env) 10 [] H fun v H' ↦ req (V.isK Kind.bool v) (K (V.bool (V.getBool v)) H'))
   (req (Am.joinOk (Am.strOf [97]) (Go.Utf8.encode (IntKind.wrap IntKind.i32 (Int.tmod x0 1114112))))
   (req
    (Am.joinOk (Am.joinS (Am.strOf [97]) (Go.Utf8.encode (IntKind.wrap IntKind.i32 (Int.tmod x0 1114112))))
    (Am.strOf [98]))
    (Am.Rec.call (Am.Run env) 11
    [V.str
     (Am.joinS (Am.joinS (Am.strOf [97]) (Go.Utf8.encode (IntKind.wrap IntKind.i32 (Int.tmod x0 1114112))))
      (Am.strOf [98]))]
    H fun v H' ↦
    req
     (V.isTuple 3 v &&
     (V.isK Kind.slice (nthV (V.vals v) 0) &&
      (V.isK (Kind.int IntKind.i64) (nthV (V.vals v) 1) && (V.isK (Kind.int IntKind.i64) (nthV (V.vals v) 2) || false))))
     (Am.Rec.call (Am.Run env) 14 [V.str (Go.Utf8.encode (IntKind.wrap IntKind.i32 (Int.tmod x0 1114112)))] H' fun v_1 H' ↦
     req (V.isTuple 2 v_1 && (V.isK (Kind.int IntKind.i64) (nthV (V.vals v_1) 0) && (V.isK Kind.bool (nthV (V.vals v_1) 1) || false)))
      (Am.Rec.call (Am.Run env) 10 [] H' fun v_2 H' ↦
      req (V.isK Kind.bool v_2)
       (br
       (bif !!V.getBool v_2 then bif !!decide (V.getInt (nthV (V.vals v_1) 0) = 1) then !V.getBool (nthV (V.vals v_1) 1) else true else true)
       (K (V.bool false) H')
       (br
        (bif !decide (IntKind.wrap IntKind.i32 (Int.tmod x0 1114112) = 32) then
        bif !decide (IntKind.wrap IntKind.i32 (Int.tmod x0 1114112) = 9) then decide (IntKind.wrap IntKind.i32 (Int.tmod x0 1114112) = 12288) else true
        else true)
        (Am.joinP
        (fun Q ↦
         br (decide (V.getInt (nthV (V.vals v) 2) = 0))
         (Am.Rec.call (Am.Run env) 13
          [V.slice (V.slPtr (nthV (V.vals v) 0)) (V.slLen (nthV (V.vals v) 0)) (V.slCap (nthV (V.vals v) 0)),
          V.slice (Option.some (H'.2, 0)) 2 2]
          (Am.Heap.alloc H'
          (Am.Obj.cells 9
           [V.str (Am.strOf [97]), V.str (Am.strOf [98])]
           false))
          fun v H' ↦ req (V.isK Kind.bool v) (Q (St.mk (Am.look [(2, T.v (V.bool (V.getBool v)))]) (Am.look []) H')))
         (Q (St.mk (Am.look [(2, T.v (V.bool false))]) (Am.look []) H')))
        fun S' ↦ req (Am.isKT (KT.k Kind.bool) (S'.1 2) || false || false) (K (V.bool (V.getBool (T.val (S'.1 2)))) S'.3))
        (br
        (bif !decide (IntKind.wrap IntKind.i32 (Int.tmod x0 1114112) < 32) then
         bif !decide (IntKind.wrap IntKind.i32 (Int.tmod x0 1114112) = 34) then decide (IntKind.wrap IntKind.i32 (Int.tmod x0 1114112) = 127) else true
        else true)
        (K (V.bool (decide (V.getInt (nthV (V.vals v) 2) = 14) && decide (V.getInt (nthV (V.vals v) 1) = 1))) H')
        (br (decide (V.getInt (nthV (V.vals v) 2) = 0))
         (req (Am.joinOk (Am.strOf [97]) (Go.Utf8.encode (IntKind.wrap IntKind.i32 (Int.tmod x0 1114112))))
         (req
          (Am.joinOk (Am.joinS (Am.strOf [97]) (Go.Utf8.encode (IntKind.wrap IntKind.i32 (Int.tmod x0 1114112))))
          (Am.strOf [98]))
          (Am.Rec.call (Am.Run env) 13
          [V.slice (V.slPtr (nthV (V.vals v) 0)) (V.slLen (nthV (V.vals v) 0)) (V.slCap (nthV (V.vals v) 0)),
           V.slice (Option.some (H'.2, 0)) 1 1]
          (Am.Heap.alloc H'
           (Am.Obj.cells 9
           [V.str
            (Am.joinS (Am.joinS (Am.strOf [97]) (Go.Utf8.encode (IntKind.wrap IntKind.i32 (Int.tmod x0 1114112))))
             (Am.strOf [98]))]
           false))
          fun v H' ↦ req (V.isK Kind.bool v) (K (V.bool (V.getBool v)) H'))))
         (K (V.bool false) H')))))))))) :=
  fun x0 H K => (Run_call (E := env)).trans (by kernel_rfl)

theorem eq8 : ∀ (x0 x1 : ByteArray) (H : Am.Heap) (K : Am.V → Am.Heap → Prop),
  Am.Rec.call (Am.Run env) 8 [V.str x0, V.str x1] H K =
  Am.Rec.call (Am.Run env) 10 [] H fun v H' ↦
   req (V.isK Kind.bool v)
   (br (bif !!V.getBool v then bif !decide ((↑(ByteArray.size x0) : Int) > 1000) then decide ((↑(ByteArray.size x1) : Int) > 1000) else true else true)
    (Am.Rec.call (Am.Run env) 10 [] H' fun v H' ↦ req (V.isK Kind.bool v) (K (V.bool (V.getBool v)) H'))
    (Am.Rec.call (Am.Run env) 14 [V.str x0] H' fun v H' ↦
    req (V.isTuple 2 v && (V.isK (Kind.int IntKind.i64) (nthV (V.vals v) 0) && (V.isK Kind.bool (nthV (V.vals v) 1) || false)))
     (Am.Rec.call (Am.Run env) 14 [V.str x1] H' fun v_1 H' ↦
     req (V.isTuple 2 v_1 && (V.isK (Kind.int IntKind.i64) (nthV (V.vals v_1) 0) && (V.isK Kind.bool (nthV (V.vals v_1) 1) || false)))
      (req (Am.joinOk x0 x1)
      (Am.Rec.call (Am.Run env) 14 [V.str (Am.joinS x0 x1)] H' fun v_2 H' ↦
       req (V.isTuple 2 v_2 && (V.isK (Kind.int IntKind.i64) (nthV (V.vals v_2) 0) && (V.isK Kind.bool (nthV (V.vals v_2) 1) || false)))
       (br (V.getBool (nthV (V.vals v) 1) && V.getBool (nthV (V.vals v_1) 1))
        (K
        (V.bool
         (V.getBool (nthV (V.vals v_2) 1) &&
         decide
          (V.getInt (nthV (V.vals v_2) 0) = IntKind.wrap IntKind.i64 (V.getInt (nthV (V.vals v) 0) + V.getInt (nthV (V.vals v_1) 0)))))
        H')
        (K
        (V.bool
         (bif !V.getBool (nthV (V.vals v) 1) then
         bif !V.getBool (nthV (V.vals v_1) 1) then
          bif !!V.getBool (nthV (V.vals v_2) 1) then decide (V.getInt (nthV (V.vals v_2) 0) > 0) else true
         else true
         else true))
        H'))))))) :=
  fun x0 x1 H K => (Run_call (E := env)).trans (by kernel_rfl)

theorem eq9 : ∀ (x0p : Option (Nat × Nat)) (x0n x0c : Nat) (x1p : Option (Nat × Nat)) (x1n x1c : Nat) (H : Am.Heap) (K : Am.V → Am.Heap → Prop),
  Am.Rec.call (Am.Run env) 9 [V.slice x0p x0n x0c, V.slice x1p x1n x1c] H K =
  Am.Rec.call (Am.Run env) 10 [] H fun v H' ↦
   req (V.isK Kind.bool v)
   (br (bif !!V.getBool v then decide ((↑x0n : Int) > 8) else true)
    (Am.Rec.call (Am.Run env) 10 [] H' fun v H' ↦ req (V.isK Kind.bool v) (K (V.bool (V.getBool v)) H'))
    (Am.Rec.loop (Am.Run env) (Am.loopAt env 9 7) 9 7
    (St.mk
     (Am.look
     [(0, T.v (V.slice x0p x0n x0c)), (1, T.v (V.slice x1p x1n x1c)), (5, T.v (V.slice (Option.some (H'.2, 0)) 5 5)),
      (6, T.v (V.str (Am.strOf []))), (7, T.v (V.int IntKind.i64 0))])
     (Am.look [])
     (Am.Heap.alloc H'
     (Am.Obj.cells 9
      [V.str (Am.strOf [32]), V.str (Am.strOf [9]),
      V.str (Am.strOf [227, 128, 128]),
      V.str (Am.strOf [32, 32]),
      V.str (Am.strOf [32, 9])]
      false)))
    (fun S' ↦ req (Am.isKT (KT.k Kind.bool) (S'.1 4) || false || false) (K (V.bool (V.getBool (T.val (S'.1 4)))) S'.3)) fun j S' ↦
    br (Nat.beq j 0)
     (req (Am.isKT (KT.k Kind.slice) (S'.1 0) && (Am.isKT (KT.k Kind.str) (S'.1 6) || false) || false)
     (Am.Rec.call (Am.Run env) 11 [V.str (V.getStr (T.val (S'.1 6)))] S'.3 fun v H' ↦
      req
      (V.isTuple 3 v &&
       (V.isK Kind.slice (nthV (V.vals v) 0) &&
       (V.isK (Kind.int IntKind.i64) (nthV (V.vals v) 1) && (V.isK (Kind.int IntKind.i64) (nthV (V.vals v) 2) || false))))
      (br (decide ((↑(ByteArray.size (V.getStr (T.val (S'.1 6)))) : Int) > 400)) (K (V.bool (decide (V.getInt (nthV (V.vals v) 2) = 2))) H')
       (br (decide (V.getInt (nthV (V.vals v) 2) = 0))
       (Am.Rec.call (Am.Run env) 13
        [V.slice (V.slPtr (T.val (S'.1 0))) (V.slLen (T.val (S'.1 0))) (V.slCap (T.val (S'.1 0))),
        V.slice (V.slPtr (nthV (V.vals v) 0)) (V.slLen (nthV (V.vals v) 0)) (V.slCap (nthV (V.vals v) 0))]
        H' fun v H' ↦ req (V.isK Kind.bool v) (K (V.bool (V.getBool v)) H'))
       (K (V.bool false) H')))))
     False)) :=
  fun x0p x0n x0c x1p x1n x1c H K => (Run_call (E := env)).trans (by kernel_rfl)

theorem lp9_7 : ∀ (t0_0 : Option (Nat × Nat)) (t0_1 t0_2 : Nat) (t1_0 : Option (Nat × Nat)) (t1_1 t1_2 : Nat) (t5_0 : Option (Nat × Nat)) (t5_1 t5_2 : Nat) (t6 : ByteArray) (t7 : Int) (H : Am.Heap) (Kr : Am.St → Prop)
  (Ke : Nat → Am.St → Prop),
  Am.Rec.loop (Am.Run env) (Am.loopAt env 9 7) 9 7
   (St.mk
   (Am.look
    [(0, T.v (V.slice t0_0 t0_1 t0_2)), (1, T.v (V.slice t1_0 t1_1 t1_2)), (5, T.v (V.slice t5_0 t5_1 t5_2)), (6, T.v (V.str t6)),
    (7, T.v (V.int IntKind.i64 t7))])
   (Am.look []) H)
   Kr Ke =
  br (decide (t7 < (↑t0_1 : Int)))
   (req (decide (0 ≤ t7) && decide (t7 < (↑t0_1 : Int)) && Option.isSome t0_0)
   (req
    (Am.Heap.inb H (Option.getD t0_0 (0, 0)).1 ((Option.getD t0_0 (0, 0)).2 + Int.toNat t7 * 1) 1 &&
    V.isK Kind.str (Am.Heap.cell H (Option.getD t0_0 (0, 0)).1 ((Option.getD t0_0 (0, 0)).2 + Int.toNat t7 * 1)))
    (Am.Rec.call (Am.Run env) 16 [V.str (V.getStr (Am.Heap.cell H (Option.getD t0_0 (0, 0)).1 ((Option.getD t0_0 (0, 0)).2 + Int.toNat t7 * 1)))] H fun v H' ↦
    req (V.isK Kind.bool v)
     (br (!V.getBool v) (Kr (St.mk (Am.look [(4, T.v (V.bool true))]) (Am.look []) H'))
     (req (decide (0 ≤ t7) && decide (t7 < (↑t0_1 : Int)) && Option.isSome t0_0)
      (req
      (Am.Heap.inb H' (Option.getD t0_0 (0, 0)).1 ((Option.getD t0_0 (0, 0)).2 + Int.toNat t7 * 1) 1 &&
       V.isK Kind.str (Am.Heap.cell H' (Option.getD t0_0 (0, 0)).1 ((Option.getD t0_0 (0, 0)).2 + Int.toNat t7 * 1)))
      (Am.Rec.call (Am.Run env) 17 [V.str (V.getStr (Am.Heap.cell H' (Option.getD t0_0 (0, 0)).1 ((Option.getD t0_0 (0, 0)).2 + Int.toNat t7 * 1)))] H'
       fun v H' ↦
       req (V.isK Kind.str v)
       (req (decide (0 ≤ t7) && decide (t7 < (↑t0_1 : Int)) && Option.isSome t0_0)
        (req
        (Am.Heap.inb H' (Option.getD t0_0 (0, 0)).1 ((Option.getD t0_0 (0, 0)).2 + Int.toNat t7 * 1) 1 &&
         V.isK Kind.str (Am.Heap.cell H' (Option.getD t0_0 (0, 0)).1 ((Option.getD t0_0 (0, 0)).2 + Int.toNat t7 * 1)))
        (Am.Rec.call (Am.Run env) 18 [V.str (V.getStr (Am.Heap.cell H' (Option.getD t0_0 (0, 0)).1 ((Option.getD t0_0 (0, 0)).2 + Int.toNat t7 * 1)))]
         H' fun v_1 H' ↦
         req (V.isK Kind.str v_1)
         (br (!Am.strEq (V.getStr v) (V.getStr v_1)) (Kr (St.mk (Am.look [(4, T.v (V.bool false))]) (Am.look []) H'))
          (br (decide (t7 < (↑t1_1 : Int)))
          (req (decide (0 ≤ t7) && decide (t7 < (↑t1_1 : Int)) && Option.isSome t1_0)
           (req
           (Am.Heap.inb H' (Option.getD t1_0 (0, 0)).1 ((Option.getD t1_0 (0, 0)).2 + Int.toNat t7 * 1) 1 &&
            V.isK (Kind.int IntKind.u8) (Am.Heap.cell H' (Option.getD t1_0 (0, 0)).1 ((Option.getD t1_0 (0, 0)).2 + Int.toNat t7 * 1)))
           (req
            (decide (0 ≤ Int.tmod (V.getInt (Am.Heap.cell H' (Option.getD t1_0 (0, 0)).1 ((Option.getD t1_0 (0, 0)).2 + Int.toNat t7 * 1))) 5) &&
             decide (Int.tmod (V.getInt (Am.Heap.cell H' (Option.getD t1_0 (0, 0)).1 ((Option.getD t1_0 (0, 0)).2 + Int.toNat t7 * 1))) 5 < (↑t5_1 : Int)) &&
            Option.isSome t5_0)
            (req
            (Am.Heap.inb H' (Option.getD t5_0 (0, 0)).1
             ((Option.getD t5_0 (0, 0)).2 +
              Int.toNat (Int.tmod (V.getInt (Am.Heap.cell H' (Option.getD t1_0 (0, 0)).1 ((Option.getD t1_0 (0, 0)).2 + Int.toNat t7 * 1))) 5) * 1)
             1 &&
             V.isK Kind.str
             (Am.Heap.cell H' (Option.getD t5_0 (0, 0)).1
              ((Option.getD t5_0 (0, 0)).2 +
              Int.toNat (Int.tmod (V.getInt (Am.Heap.cell H' (Option.getD t1_0 (0, 0)).1 ((Option.getD t1_0 (0, 0)).2 + Int.toNat t7 * 1))) 5) * 1)))
            (req
             (Am.joinOk
             (V.getStr
              (Am.Heap.cell H' (Option.getD t5_0 (0, 0)).1
              ((Option.getD t5_0 (0, 0)).2 +
               Int.toNat (Int.tmod (V.getInt (Am.Heap.cell H' (Option.getD t1_0 (0, 0)).1 ((Option.getD t1_0 (0, 0)).2 + Int.toNat t7 * 1))) 5) * 1)))
             (V.getStr v))
             (req
             (Am.joinOk t6
              (Am.joinS
              (V.getStr
               (Am.Heap.cell H' (Option.getD t5_0 (0, 0)).1
               ((Option.getD t5_0 (0, 0)).2 +
                Int.toNat (Int.tmod (V.getInt (Am.Heap.cell H' (Option.getD t1_0 (0, 0)).1 ((Option.getD t1_0 (0, 0)).2 + Int.toNat t7 * 1))) 5) * 1)))
              (V.getStr v)))
             (Am.Rec.loop (Am.Run env) (Am.loopAt env 9 7) 9 7
              (St.mk
              (Am.look
               [(0, T.v (V.slice t0_0 t0_1 t0_2)), (1, T.v (V.slice t1_0 t1_1 t1_2)), (5, T.v (V.slice t5_0 t5_1 t5_2)),
               (6,
                T.v
                (V.str
                 (Am.joinS t6
                 (Am.joinS
                  (V.getStr
                  (Am.Heap.cell H' (Option.getD t5_0 (0, 0)).1
                   ((Option.getD t5_0 (0, 0)).2 +
                   Int.toNat (Int.tmod (V.getInt (Am.Heap.cell H' (Option.getD t1_0 (0, 0)).1 ((Option.getD t1_0 (0, 0)).2 + Int.toNat t7 * 1))) 5) * 1)))
                  (V.getStr v))))),
               (7, T.v (V.int IntKind.i64 (IntKind.wrap IntKind.i64 (t7 + 1))))])
              (Am.look []) H')
              Kr Ke)))))))
          (req (Am.joinOk (Am.strOf [32]) (V.getStr v))
           (req (Am.joinOk t6 (Am.joinS (Am.strOf [32]) (V.getStr v)))
           (Am.Rec.loop (Am.Run env) (Am.loopAt env 9 7) 9 7
            (St.mk
            (Am.look
             [(0, T.v (V.slice t0_0 t0_1 t0_2)), (1, T.v (V.slice t1_0 t1_1 t1_2)), (5, T.v (V.slice t5_0 t5_1 t5_2)),
             (6, T.v (V.str (Am.joinS t6 (Am.joinS (Am.strOf [32]) (V.getStr v))))),
             (7, T.v (V.int IntKind.i64 (IntKind.wrap IntKind.i64 (t7 + 1))))])
            (Am.look []) H')
            Kr Ke)))))))))))))))
   (Ke 0 (St.mk (Am.look [(0, T.v (V.slice t0_0 t0_1 t0_2)), (6, T.v (V.str t6))]) (Am.look []) H)) :=
  fun t0_0 t0_1 t0_2 t1_0 t1_1 t1_2 t5_0 t5_1 t5_2 t6 t7 H Kr Ke => (Run_loop (E := env)).trans (by kernel_rfl)

theorem eq10 : ∀ (H : Am.Heap) (K : Am.V → Am.Heap → Prop),
  Am.Rec.call (Am.Run env) 10 [] H K =
  Am.Rec.call (Am.Run env) 11
   [V.str
    (Am.strOf [119, 114, 105, 116,
     101, 32, 51, 32,
     34, 97, 32, 98,
     34])]
   H fun v H' ↦
   req
   (V.isTuple 3 v &&
    (V.isK Kind.slice (nthV (V.vals v) 0) &&
    (V.isK (Kind.int IntKind.i64) (nthV (V.vals v) 1) && (V.isK (Kind.int IntKind.i64) (nthV (V.vals v) 2) || false))))
   (req
    (Am.mergeR (decide (V.getInt (nthV (V.vals v) 2) = 0))
    (Am.mergeR (decide ((↑(V.slLen (nthV (V.vals v) 0)) : Int) = 3))
     (decide (2 < (↑(V.slLen (nthV (V.vals v) 0)) : Int)) && Option.isSome (V.slPtr (nthV (V.vals v) 0)) && true &&
     (Am.Heap.inb H' (Option.getD (V.slPtr (nthV (V.vals v) 0)) (0, 0)).1 ((Option.getD (V.slPtr (nthV (V.vals v) 0)) (0, 0)).2 + 2) 1 &&
       V.isK Kind.str (Am.Heap.cell H' (Option.getD (V.slPtr (nthV (V.vals v) 0)) (0, 0)).1 ((Option.getD (V.slPtr (nthV (V.vals v) 0)) (0, 0)).2 + 2)) &&
      true &&
      true))
     true)
    (Am.mergeR false
     (decide (2 < (↑(V.slLen (nthV (V.vals v) 0)) : Int)) && Option.isSome (V.slPtr (nthV (V.vals v) 0)) && true &&
     (Am.Heap.inb H' (Option.getD (V.slPtr (nthV (V.vals v) 0)) (0, 0)).1 ((Option.getD (V.slPtr (nthV (V.vals v) 0)) (0, 0)).2 + 2) 1 &&
       V.isK Kind.str (Am.Heap.cell H' (Option.getD (V.slPtr (nthV (V.vals v) 0)) (0, 0)).1 ((Option.getD (V.slPtr (nthV (V.vals v) 0)) (0, 0)).2 + 2)) &&
      true &&
      true))
     true))
    (K
    (V.bool
     (decide (V.getInt (nthV (V.vals v) 2) = 0) &&
     (decide ((↑(V.slLen (nthV (V.vals v) 0)) : Int) = 3) &&
      (Am.strEq (V.getStr (Am.Heap.cell H' (Option.getD (V.slPtr (nthV (V.vals v) 0)) (0, 0)).1 ((Option.getD (V.slPtr (nthV (V.vals v) 0)) (0, 0)).2 + 2)))
       (Am.strOf [97, 32, 98]) ||
       false ||
      false))))
    H')) :=
  fun H K => (Run_call (E := env)).trans (by kernel_rfl)

theorem eq11 : ∀ (x0 : ByteArray) (H : Am.Heap) (K : Am.V → Am.Heap → Prop),
  Am.Rec.call (Am.Run env) 11 [V.str x0] H K =
  br (decide ((↑(ByteArray.size x0) : Int) > 400)) (K (V.tuple [V.slice Option.none 0 0, V.int IntKind.i64 400, V.int IntKind.i64 2]) H)
   (Am.Rec.loop (Am.Run env) (Am.loopAt env 11 6) 11 6
   (St.mk (Am.look [(0, T.v (V.str x0)), (5, T.v (V.ptr (Option.some (H.2, 0)))), (15, T.lp 15 0)]) (Am.look [(15, Loc.iter x0 0)])
    (Am.Heap.alloc H (Am.Obj.cells 45 (c44 Option.none 0 0 Option.none Option.none 0 0 false false false false) false)))
   (fun S' ↦
    req
    (Am.isKT (KT.k Kind.slice) (S'.1 2) && (Am.isKT (KT.k (Kind.int IntKind.i64)) (S'.1 3) && (Am.isKT (KT.k (Kind.int IntKind.i64)) (S'.1 4) || false)) ||
     false)
    (K
     (V.tuple
     [V.slice (V.slPtr (T.val (S'.1 2))) (V.slLen (T.val (S'.1 2))) (V.slCap (T.val (S'.1 2))), V.int IntKind.i64 (V.getInt (T.val (S'.1 3))),
      V.int IntKind.i64 (V.getInt (T.val (S'.1 4)))])
     S'.3))
   fun j S' ↦
   br (Nat.beq j 0)
    (req (Am.isKT (KT.k Kind.str) (S'.1 0) && (Am.isKT (KT.k Kind.ptr) (S'.1 5) || false) || false)
    (req (Option.isSome (V.getPtr (T.val (S'.1 5))))
     (req
     (Am.Heap.inb S'.3 (Option.getD (V.getPtr (T.val (S'.1 5))) (0, 0)).1 ((Option.getD (V.getPtr (T.val (S'.1 5))) (0, 0)).2 + 4) 1 &&
      V.isK Kind.bool (Am.Heap.cell S'.3 (Option.getD (V.getPtr (T.val (S'.1 5))) (0, 0)).1 ((Option.getD (V.getPtr (T.val (S'.1 5))) (0, 0)).2 + 4)))
     (br (V.getBool (Am.Heap.cell S'.3 (Option.getD (V.getPtr (T.val (S'.1 5))) (0, 0)).1 ((Option.getD (V.getPtr (T.val (S'.1 5))) (0, 0)).2 + 4)))
      (K (V.tuple [V.slice Option.none 0 0, V.int IntKind.i64 (↑(ByteArray.size (V.getStr (T.val (S'.1 0)))) : Int), V.int IntKind.i64 14]) S'.3)
      (Am.Rec.call (Am.Run env) 21 [V.ptr (V.getPtr (T.val (S'.1 5)))] S'.3 fun v H' ↦
      req (Option.isSome (V.getPtr (T.val (S'.1 5))))
       (req
       (Am.Heap.inb H' (Option.getD (V.getPtr (T.val (S'.1 5))) (0, 0)).1 (Option.getD (V.getPtr (T.val (S'.1 5))) (0, 0)).2 1 &&
        V.isK Kind.slice (Am.Heap.cell H' (Option.getD (V.getPtr (T.val (S'.1 5))) (0, 0)).1 (Option.getD (V.getPtr (T.val (S'.1 5))) (0, 0)).2))
       (K
        (V.tuple
        [V.slice (V.slPtr (Am.Heap.cell H' (Option.getD (V.getPtr (T.val (S'.1 5))) (0, 0)).1 (Option.getD (V.getPtr (T.val (S'.1 5))) (0, 0)).2))
         (V.slLen (Am.Heap.cell H' (Option.getD (V.getPtr (T.val (S'.1 5))) (0, 0)).1 (Option.getD (V.getPtr (T.val (S'.1 5))) (0, 0)).2))
         (V.slCap (Am.Heap.cell H' (Option.getD (V.getPtr (T.val (S'.1 5))) (0, 0)).1 (Option.getD (V.getPtr (T.val (S'.1 5))) (0, 0)).2)),
         V.int IntKind.i64 0, V.int IntKind.i64 0])
        H')))))))
    False) :=
  fun x0 H K => (Run_call (E := env)).trans (by kernel_rfl)

theorem lp11_6 : ∀ (t0 : ByteArray) (t5 : Option (Nat × Nat)) (l15_0 : ByteArray) (l15_1 : Nat) (H : Am.Heap) (Kr : Am.St → Prop) (Ke : Nat → Am.St → Prop),
  Am.Rec.loop (Am.Run env) (Am.loopAt env 11 6) 11 6
   (St.mk (Am.look [(0, T.v (V.str t0)), (5, T.v (V.ptr t5)), (15, T.lp 15 0)]) (Am.look [(15, Loc.iter l15_0 l15_1)]) H) Kr Ke =
  br (Nat.ble (Nat.succ l15_1) (ByteArray.size l15_0))
   (Am.joinP
   (fun Q ↦
    br (decide ((↑(Go.Utf8.decode l15_0 l15_1).1 : Int) = 65533))
    (req (decide (0 ≤ (↑l15_1 : Int)) && decide ((↑l15_1 : Int) ≤ (↑(ByteArray.size t0) : Int)))
     (Am.Rec.call (Am.Run env) 19
     [V.str (ByteArray.extract t0 l15_1 (ByteArray.size t0)),
      V.str (Am.strOf [239, 191, 189])]
     H fun v H' ↦ req (V.isK Kind.bool v) (Q (St.mk (Am.look [(28, T.v (V.bool !V.getBool v))]) (Am.look []) H'))))
    (Q (St.mk (Am.look [(28, T.v (V.bool false))]) (Am.look []) H)))
   fun S' ↦
   req (Am.isKT (KT.k Kind.bool) (S'.1 28) || false || false)
    (br (V.getBool (T.val (S'.1 28)))
    (Kr
     (St.mk (Am.look [(2, T.v (V.slice Option.none 0 0)), (3, T.v (V.int IntKind.i64 (↑l15_1 : Int))), (4, T.v (V.int IntKind.i64 14))]) (Am.look []) S'.3))
    (Am.Rec.call (Am.Run env) 20 [V.ptr t5, V.int IntKind.i32 (↑(Go.Utf8.decode l15_0 l15_1).1 : Int)] S'.3 fun v H' ↦
     req (V.isK (Kind.int IntKind.i64) v)
     (br (!decide (V.getInt v = 0))
      (Kr
      (St.mk (Am.look [(2, T.v (V.slice Option.none 0 0)), (3, T.v (V.int IntKind.i64 (↑l15_1 : Int))), (4, T.v (V.int IntKind.i64 (V.getInt v)))])
       (Am.look []) H'))
      (Am.Rec.loop (Am.Run env) (Am.loopAt env 11 6) 11 6
      (St.mk (Am.look [(0, T.v (V.str t0)), (5, T.v (V.ptr t5)), (15, T.lp 15 0)]) (Am.look [(15, Loc.iter l15_0 (l15_1 + (Go.Utf8.decode l15_0 l15_1).2))])
       H')
      Kr Ke)))))
   (Ke 0 (St.mk (Am.look [(0, T.v (V.str t0)), (5, T.v (V.ptr t5))]) (Am.look []) H)) :=
  fun t0 t5 l15_0 l15_1 H Kr Ke => (Run_loop (E := env)).trans (by kernel_rfl)

theorem eq12 : ∀ (x0 : ByteArray) (H : Am.Heap) (K : Am.V → Am.Heap → Prop),
  Am.Rec.call (Am.Run env) 12 [V.str x0] H K =
  br (decide ((↑(ByteArray.size x0) : Int) > 400)) (K (V.tuple [V.slice Option.none 0 0, V.int IntKind.i64 400, V.int IntKind.i64 2]) H)
   (Am.Rec.loop (Am.Run env) (Am.loopAt env 12 6) 12 6
   (St.mk (Am.look [(0, T.v (V.str x0)), (5, T.v (V.slice Option.none 0 0)), (6, T.v (V.int IntKind.i64 0))]) (Am.look []) H)
   (fun S' ↦
    req
    (Am.isKT (KT.k Kind.slice) (S'.1 2) && (Am.isKT (KT.k (Kind.int IntKind.i64)) (S'.1 3) && (Am.isKT (KT.k (Kind.int IntKind.i64)) (S'.1 4) || false)) ||
     false)
    (K
     (V.tuple
     [V.slice (V.slPtr (T.val (S'.1 2))) (V.slLen (T.val (S'.1 2))) (V.slCap (T.val (S'.1 2))), V.int IntKind.i64 (V.getInt (T.val (S'.1 3))),
      V.int IntKind.i64 (V.getInt (T.val (S'.1 4)))])
     S'.3))
   fun j S' ↦
   br (Nat.beq j 0)
    (req (Am.isKT (KT.k Kind.slice) (S'.1 5) || false || false)
    (K
     (V.tuple
     [V.slice (V.slPtr (T.val (S'.1 5))) (V.slLen (T.val (S'.1 5))) (V.slCap (T.val (S'.1 5))), V.int IntKind.i64 0, V.int IntKind.i64 0])
     S'.3))
    False) :=
  fun x0 H K => (Run_call (E := env)).trans (by kernel_rfl)

theorem lp12_6 : ∀ (t0 : ByteArray) (t5_0 : Option (Nat × Nat)) (t5_1 t5_2 : Nat) (t6 : Int) (H : Am.Heap) (Kr : Am.St → Prop) (Ke : Nat → Am.St → Prop),
  Am.Rec.loop (Am.Run env) (Am.loopAt env 12 6) 12 6
   (St.mk (Am.look [(0, T.v (V.str t0)), (5, T.v (V.slice t5_0 t5_1 t5_2)), (6, T.v (V.int IntKind.i64 t6))]) (Am.look []) H) Kr Ke =
  br (decide (t6 < (↑(ByteArray.size t0) : Int)))
   (Am.Rec.call (Am.Run env) 22 [V.str t0, V.int IntKind.i64 t6] H fun v H' ↦
   req (V.isTuple 2 v && (V.isK (Kind.int IntKind.i64) (nthV (V.vals v) 0) && (V.isK (Kind.int IntKind.i64) (nthV (V.vals v) 1) || false)))
    (br (decide (V.getInt (nthV (V.vals v) 0) = 0))
    (Kr (St.mk (Am.look [(2, T.v (V.slice Option.none 0 0)), (3, T.v (V.int IntKind.i64 t6)), (4, T.v (V.int IntKind.i64 14))]) (Am.look []) H'))
    (Am.Rec.call (Am.Run env) 23 [V.int IntKind.i64 (V.getInt (nthV (V.vals v) 1))] H' fun v_1 H' ↦
     req (V.isK Kind.bool v_1)
     (br (V.getBool v_1)
      (Am.Rec.loop (Am.Run env) (Am.loopAt env 12 6) 12 6
      (St.mk
       (Am.look
       [(0, T.v (V.str t0)), (5, T.v (V.slice t5_0 t5_1 t5_2)),
        (6, T.v (V.int IntKind.i64 (IntKind.wrap IntKind.i64 (t6 + V.getInt (nthV (V.vals v) 0)))))])
       (Am.look []) H')
      Kr Ke)
      (br (decide (V.getInt (nthV (V.vals v) 1) = 34))
      (Am.Rec.call (Am.Run env) 24 [V.str t0, V.int IntKind.i64 (IntKind.wrap IntKind.i64 (t6 + 1))] H' fun v H' ↦
       req
       (V.isTuple 3 v &&
        (V.isK Kind.str (nthV (V.vals v) 0) &&
        (V.isK (Kind.int IntKind.i64) (nthV (V.vals v) 1) && (V.isK (Kind.int IntKind.i64) (nthV (V.vals v) 2) || false))))
       (br (!decide (V.getInt (nthV (V.vals v) 2) = 0))
        (Kr
        (St.mk
         (Am.look
         [(2, T.v (V.slice Option.none 0 0)), (3, T.v (V.int IntKind.i64 (V.getInt (nthV (V.vals v) 1)))),
          (4, T.v (V.int IntKind.i64 (V.getInt (nthV (V.vals v) 2))))])
         (Am.look []) H'))
        (Am.appendOp env [23, 23] [V.slice t5_0 t5_1 t5_2, V.slice (Option.some (H'.2, 0)) 1 1]
        (Am.Heap.alloc H' (Am.Obj.cells 9 [V.str (V.getStr (nthV (V.vals v) 0))] false)) fun q n c H' ↦
        Am.Rec.loop (Am.Run env) (Am.loopAt env 12 6) 12 6
         (St.mk
         (Am.look [(0, T.v (V.str t0)), (5, T.v (V.slice q n c)), (6, T.v (V.int IntKind.i64 (V.getInt (nthV (V.vals v) 1))))])
         (Am.look []) H')
         Kr Ke)))
      (Am.Rec.call (Am.Run env) 25 [V.str t0, V.int IntKind.i64 t6] H' fun v H' ↦
       req
       (V.isTuple 3 v &&
        (V.isK Kind.str (nthV (V.vals v) 0) &&
        (V.isK (Kind.int IntKind.i64) (nthV (V.vals v) 1) && (V.isK (Kind.int IntKind.i64) (nthV (V.vals v) 2) || false))))
       (br (!decide (V.getInt (nthV (V.vals v) 2) = 0))
        (Kr
        (St.mk
         (Am.look
         [(2, T.v (V.slice Option.none 0 0)), (3, T.v (V.int IntKind.i64 (V.getInt (nthV (V.vals v) 1)))),
          (4, T.v (V.int IntKind.i64 (V.getInt (nthV (V.vals v) 2))))])
         (Am.look []) H'))
        (Am.appendOp env [23, 23] [V.slice t5_0 t5_1 t5_2, V.slice (Option.some (H'.2, 0)) 1 1]
        (Am.Heap.alloc H' (Am.Obj.cells 9 [V.str (V.getStr (nthV (V.vals v) 0))] false)) fun q n c H' ↦
        Am.Rec.loop (Am.Run env) (Am.loopAt env 12 6) 12 6
         (St.mk
         (Am.look [(0, T.v (V.str t0)), (5, T.v (V.slice q n c)), (6, T.v (V.int IntKind.i64 (V.getInt (nthV (V.vals v) 1))))])
         (Am.look []) H')
         Kr Ke))))))))
   (Ke 0 (St.mk (Am.look [(5, T.v (V.slice t5_0 t5_1 t5_2))]) (Am.look []) H)) :=
  fun t0 t5_0 t5_1 t5_2 t6 H Kr Ke => (Run_loop (E := env)).trans (by kernel_rfl)

theorem eq13 : ∀ (x0p : Option (Nat × Nat)) (x0n x0c : Nat) (x1p : Option (Nat × Nat)) (x1n x1c : Nat) (H : Am.Heap) (K : Am.V → Am.Heap → Prop),
  Am.Rec.call (Am.Run env) 13 [V.slice x0p x0n x0c, V.slice x1p x1n x1c] H K =
  br (!decide ((↑x0n : Int) = (↑x1n : Int))) (K (V.bool false) H)
   (Am.Rec.loop (Am.Run env) (Am.loopAt env 13 5) 13 5
   (St.mk (Am.look [(0, T.v (V.slice x0p x0n x0c)), (1, T.v (V.slice x1p x1n x1c)), (5, T.v (V.int IntKind.i64 0))]) (Am.look []) H)
   (fun S' ↦ req (Am.isKT (KT.k Kind.bool) (S'.1 4) || false || false) (K (V.bool (V.getBool (T.val (S'.1 4)))) S'.3)) fun j S' ↦
   br (Nat.beq j 0) (K (V.bool true) S'.3) False) :=
  fun x0p x0n x0c x1p x1n x1c H K => (Run_call (E := env)).trans (by kernel_rfl)

theorem lp13_5 : ∀ (t0_0 : Option (Nat × Nat)) (t0_1 t0_2 : Nat) (t1_0 : Option (Nat × Nat)) (t1_1 t1_2 : Nat) (t5 : Int) (H : Am.Heap) (Kr : Am.St → Prop) (Ke : Nat → Am.St → Prop),
  Am.Rec.loop (Am.Run env) (Am.loopAt env 13 5) 13 5
   (St.mk (Am.look [(0, T.v (V.slice t0_0 t0_1 t0_2)), (1, T.v (V.slice t1_0 t1_1 t1_2)), (5, T.v (V.int IntKind.i64 t5))]) (Am.look []) H) Kr Ke =
  br (decide (t5 < (↑t0_1 : Int)))
   (req (decide (0 ≤ t5) && decide (t5 < (↑t0_1 : Int)) && Option.isSome t0_0)
   (req
    (Am.Heap.inb H (Option.getD t0_0 (0, 0)).1 ((Option.getD t0_0 (0, 0)).2 + Int.toNat t5 * 1) 1 &&
    V.isK Kind.str (Am.Heap.cell H (Option.getD t0_0 (0, 0)).1 ((Option.getD t0_0 (0, 0)).2 + Int.toNat t5 * 1)))
    (req (decide (0 ≤ t5) && decide (t5 < (↑t1_1 : Int)) && Option.isSome t1_0)
    (req
     (Am.Heap.inb H (Option.getD t1_0 (0, 0)).1 ((Option.getD t1_0 (0, 0)).2 + Int.toNat t5 * 1) 1 &&
     V.isK Kind.str (Am.Heap.cell H (Option.getD t1_0 (0, 0)).1 ((Option.getD t1_0 (0, 0)).2 + Int.toNat t5 * 1)))
     (br
     (!Am.strEq (V.getStr (Am.Heap.cell H (Option.getD t0_0 (0, 0)).1 ((Option.getD t0_0 (0, 0)).2 + Int.toNat t5 * 1)))
      (V.getStr (Am.Heap.cell H (Option.getD t1_0 (0, 0)).1 ((Option.getD t1_0 (0, 0)).2 + Int.toNat t5 * 1))))
     (Kr (St.mk (Am.look [(4, T.v (V.bool false))]) (Am.look []) H))
     (Am.Rec.loop (Am.Run env) (Am.loopAt env 13 5) 13 5
      (St.mk
      (Am.look [(0, T.v (V.slice t0_0 t0_1 t0_2)), (1, T.v (V.slice t1_0 t1_1 t1_2)), (5, T.v (V.int IntKind.i64 (IntKind.wrap IntKind.i64 (t5 + 1))))])
      (Am.look []) H)
      Kr Ke))))))
   (Ke 0 (St.mk (Am.look []) (Am.look []) H)) :=
  fun t0_0 t0_1 t0_2 t1_0 t1_1 t1_2 t5 H Kr Ke => (Run_loop (E := env)).trans (by kernel_rfl)

theorem eq14 : ∀ (x0 : ByteArray) (H : Am.Heap) (K : Am.V → Am.Heap → Prop),
  Am.Rec.call (Am.Run env) 14 [V.str x0] H K =
  Am.Rec.loop (Am.Run env) (Am.loopAt env 14 3) 14 3
   (St.mk (Am.look [(0, T.v (V.str x0)), (4, T.v (V.int IntKind.i64 0)), (8, T.lp 8 0)]) (Am.look [(8, Loc.iter x0 0)]) H)
   (fun S' ↦
   req (Am.isKT (KT.k (Kind.int IntKind.i64)) (S'.1 2) && (Am.isKT (KT.k Kind.bool) (S'.1 3) || false) || false)
    (K (V.tuple [V.int IntKind.i64 (V.getInt (T.val (S'.1 2))), V.bool (V.getBool (T.val (S'.1 3)))]) S'.3))
   fun j S' ↦
   br (Nat.beq j 0)
   (req (Am.isKT (KT.k (Kind.int IntKind.i64)) (S'.1 4) || false || false)
    (K (V.tuple [V.int IntKind.i64 (V.getInt (T.val (S'.1 4))), V.bool true]) S'.3))
   False :=
  fun x0 H K => (Run_call (E := env)).trans (by kernel_rfl)

theorem lp14_3 : ∀ (t0 : ByteArray) (t4 : Int) (l8_0 : ByteArray) (l8_1 : Nat) (H : Am.Heap) (Kr : Am.St → Prop) (Ke : Nat → Am.St → Prop),
  Am.Rec.loop (Am.Run env) (Am.loopAt env 14 3) 14 3
   (St.mk (Am.look [(0, T.v (V.str t0)), (4, T.v (V.int IntKind.i64 t4)), (8, T.lp 8 0)]) (Am.look [(8, Loc.iter l8_0 l8_1)]) H) Kr Ke =
  br (Nat.ble (Nat.succ l8_1) (ByteArray.size l8_0))
   (br (decide ((↑(Go.Utf8.decode l8_0 l8_1).1 : Int) = 65533))
   (req (decide (0 ≤ (↑l8_1 : Int)) && decide ((↑l8_1 : Int) ≤ (↑(ByteArray.size t0) : Int)))
    (Am.Rec.call (Am.Run env) 19
    [V.str (ByteArray.extract t0 l8_1 (ByteArray.size t0)),
     V.str (Am.strOf [239, 191, 189])]
    H fun v H' ↦
    req (V.isK Kind.bool v)
     (br (!V.getBool v) (Kr (St.mk (Am.look [(2, T.v (V.int IntKind.i64 0)), (3, T.v (V.bool false))]) (Am.look []) H'))
     (Am.Rec.loop (Am.Run env) (Am.loopAt env 14 3) 14 3
      (St.mk (Am.look [(0, T.v (V.str t0)), (4, T.v (V.int IntKind.i64 (IntKind.wrap IntKind.i64 (t4 + 1)))), (8, T.lp 8 0)])
      (Am.look [(8, Loc.iter l8_0 (l8_1 + (Go.Utf8.decode l8_0 l8_1).2))]) H')
      Kr Ke))))
   (Am.Rec.loop (Am.Run env) (Am.loopAt env 14 3) 14 3
    (St.mk (Am.look [(0, T.v (V.str t0)), (4, T.v (V.int IntKind.i64 (IntKind.wrap IntKind.i64 (t4 + 1)))), (8, T.lp 8 0)])
    (Am.look [(8, Loc.iter l8_0 (l8_1 + (Go.Utf8.decode l8_0 l8_1).2))]) H)
    Kr Ke))
   (Ke 0 (St.mk (Am.look [(4, T.v (V.int IntKind.i64 t4))]) (Am.look []) H)) :=
  fun t0 t4 l8_0 l8_1 H Kr Ke => (Run_loop (E := env)).trans (by kernel_rfl)

theorem eq15 : ∀ (x0 : ByteArray) (H : Am.Heap) (K : Am.V → Am.Heap → Prop),
  Am.Rec.call (Am.Run env) 15 [V.str x0] H K =
  Am.Rec.loop (Am.Run env) (Am.loopAt env 15 3) 15 3
   (St.mk (Am.look [(0, T.v (V.str x0)), (4, T.v (V.int IntKind.i64 0)), (5, T.v (V.int IntKind.i64 0))]) (Am.look []) H)
   (fun S' ↦
   req (Am.isKT (KT.k (Kind.int IntKind.i64)) (S'.1 2) && (Am.isKT (KT.k Kind.bool) (S'.1 3) || false) || false)
    (K (V.tuple [V.int IntKind.i64 (V.getInt (T.val (S'.1 2))), V.bool (V.getBool (T.val (S'.1 3)))]) S'.3))
   fun j S' ↦
   br (Nat.beq j 0)
   (req (Am.isKT (KT.k (Kind.int IntKind.i64)) (S'.1 4) || false || false)
    (K (V.tuple [V.int IntKind.i64 (V.getInt (T.val (S'.1 4))), V.bool true]) S'.3))
   False :=
  fun x0 H K => (Run_call (E := env)).trans (by kernel_rfl)

theorem lp15_3 : ∀ (t0 : ByteArray) (t4 t5 : Int) (H : Am.Heap) (Kr : Am.St → Prop) (Ke : Nat → Am.St → Prop),
  Am.Rec.loop (Am.Run env) (Am.loopAt env 15 3) 15 3
   (St.mk (Am.look [(0, T.v (V.str t0)), (4, T.v (V.int IntKind.i64 t4)), (5, T.v (V.int IntKind.i64 t5))]) (Am.look []) H) Kr Ke =
  br (decide (t5 < (↑(ByteArray.size t0) : Int)))
   (Am.Rec.call (Am.Run env) 22 [V.str t0, V.int IntKind.i64 t5] H fun v H' ↦
   req (V.isTuple 2 v && (V.isK (Kind.int IntKind.i64) (nthV (V.vals v) 0) && (V.isK (Kind.int IntKind.i64) (nthV (V.vals v) 1) || false)))
    (br (decide (V.getInt (nthV (V.vals v) 0) = 0))
    (Kr (St.mk (Am.look [(2, T.v (V.int IntKind.i64 0)), (3, T.v (V.bool false))]) (Am.look []) H'))
    (Am.Rec.loop (Am.Run env) (Am.loopAt env 15 3) 15 3
     (St.mk
     (Am.look
      [(0, T.v (V.str t0)), (4, T.v (V.int IntKind.i64 (IntKind.wrap IntKind.i64 (t4 + 1)))),
      (5, T.v (V.int IntKind.i64 (IntKind.wrap IntKind.i64 (t5 + V.getInt (nthV (V.vals v) 0)))))])
     (Am.look []) H')
     Kr Ke)))
   (Ke 0 (St.mk (Am.look [(4, T.v (V.int IntKind.i64 t4))]) (Am.look []) H)) :=
  fun t0 t4 t5 H Kr Ke => (Run_loop (E := env)).trans (by kernel_rfl)

theorem eq16 : ∀ (x0 : ByteArray) (H : Am.Heap) (K : Am.V → Am.Heap → Prop),
  Am.Rec.call (Am.Run env) 16 [V.str x0] H K =
  Am.Rec.call (Am.Run env) 15 [V.str x0] H fun v H' ↦
   req (V.isTuple 2 v && (V.isK (Kind.int IntKind.i64) (nthV (V.vals v) 0) && (V.isK Kind.bool (nthV (V.vals v) 1) || false)))
   (Am.Rec.loop (Am.Run env) (Am.loopAt env 16 3) 16 3
    (St.mk (Am.look [(0, T.v (V.str x0)), (4, T.v (V.bool (V.getBool (nthV (V.vals v) 1)))), (5, T.v (V.int IntKind.i64 0))]) (Am.look []) H')
    (fun S' ↦ False) fun j S' ↦
    br (Nat.beq j 0)
    (req (Am.isKT (KT.k Kind.str) (S'.1 0) && (Am.isKT (KT.k Kind.bool) (S'.1 4) || false) || false)
     (K (V.bool (V.getBool (T.val (S'.1 4)) && decide ((↑(ByteArray.size (V.getStr (T.val (S'.1 0)))) : Int) ≤ 100))) S'.3))
    False) :=
  fun x0 H K => (Run_call (E := env)).trans (by kernel_rfl)

theorem lp16_3 : ∀ (t0 : ByteArray) (t4 : Bool) (t5 : Int) (H : Am.Heap) (Kr : Am.St → Prop) (Ke : Nat → Am.St → Prop),
  Am.Rec.loop (Am.Run env) (Am.loopAt env 16 3) 16 3
   (St.mk (Am.look [(0, T.v (V.str t0)), (4, T.v (V.bool t4)), (5, T.v (V.int IntKind.i64 t5))]) (Am.look []) H) Kr Ke =
  br (decide (t5 < (↑(ByteArray.size t0) : Int)))
   (req
   (Am.mergeR t4
    (decide (0 ≤ t5) && decide (t5 < (↑(ByteArray.size t0) : Int)) && true &&
    Am.mergeR (!decide (Am.byteAt t0 (Int.toNat t5) ≥ 32))
     (decide (0 ≤ t5) && decide (t5 < (↑(ByteArray.size t0) : Int)) && true &&
     Am.mergeR (!decide (Am.byteAt t0 (Int.toNat t5) = 10)) (decide (0 ≤ t5) && decide (t5 < (↑(ByteArray.size t0) : Int)) && true && true) true)
     (Am.mergeR false (decide (0 ≤ t5) && decide (t5 < (↑(ByteArray.size t0) : Int)) && true && true) true))
    true)
   (Am.Rec.loop (Am.Run env) (Am.loopAt env 16 3) 16 3
    (St.mk
    (Am.look
     [(0, T.v (V.str t0)),
     (4,
      T.v
      (V.bool
       (t4 &&
       bif !decide (Am.byteAt t0 (Int.toNat t5) ≥ 32) then
        bif !decide (Am.byteAt t0 (Int.toNat t5) = 10) then decide (Am.byteAt t0 (Int.toNat t5) = 9) else true
       else true))),
     (5, T.v (V.int IntKind.i64 (IntKind.wrap IntKind.i64 (t5 + 1))))])
    (Am.look []) H)
    Kr Ke))
   (Ke 0 (St.mk (Am.look [(0, T.v (V.str t0)), (4, T.v (V.bool t4))]) (Am.look []) H)) :=
  fun t0 t4 t5 H Kr Ke => (Run_loop (E := env)).trans (by kernel_rfl)

theorem eq17 : ∀ (x0 : ByteArray) (H : Am.Heap) (K : Am.V → Am.Heap → Prop),
  Am.Rec.call (Am.Run env) 17 [V.str x0] H K =
  Am.joinP
   (fun Q ↦
   br (!Am.strEq x0 (Am.strOf []))
    (Am.Rec.call (Am.Run env) 26 [V.str x0, V.func 27 []] H fun v H' ↦
    req (V.isK Kind.bool v) (Q (St.mk (Am.look [(9, T.v (V.bool !V.getBool v))]) (Am.look []) H')))
    (Q (St.mk (Am.look [(9, T.v (V.bool false))]) (Am.look []) H)))
   fun S' ↦
   req (Am.isKT (KT.k Kind.bool) (S'.1 9) || false || false)
   (br (V.getBool (T.val (S'.1 9))) (K (V.str x0) S'.3)
    (Am.Rec.call (Am.Run env) 29 [V.slice (Option.some (S'.3.2, 0)) 8 8]
    (Am.Heap.alloc S'.3
     (Am.Obj.cells 9
     [V.str (Am.strOf [92]),
      V.str (Am.strOf [92, 92]),
      V.str (Am.strOf [34]),
      V.str (Am.strOf [92, 34]),
      V.str (Am.strOf [10]),
      V.str (Am.strOf [92, 110]),
      V.str (Am.strOf [9]),
      V.str (Am.strOf [92, 116])]
     false))
    fun v H' ↦
    req (V.isK Kind.ptr v)
     (Am.Rec.call (Am.Run env) 30 (c112 (V.getPtr v) x0) H' fun v H' ↦
     req (V.isK Kind.str v)
      (req (Am.joinOk (Am.strOf [34]) (V.getStr v))
      (req
       (Am.joinOk (Am.joinS (Am.strOf [34]) (V.getStr v)) (Am.strOf [34]))
       (K
       (V.str
        (Am.joinS (Am.joinS (Am.strOf [34]) (V.getStr v)) (Am.strOf [34])))
       H')))))) :=
  fun x0 H K => (Run_call (E := env)).trans (by kernel_rfl)

theorem eq18 : ∀ (x0 : ByteArray) (H : Am.Heap) (K : Am.V → Am.Heap → Prop),
  Am.Rec.call (Am.Run env) 18 [V.str x0] H K =
  Am.Rec.loop (Am.Run env) (Am.loopAt env 18 4) 18 4
   (St.mk
   (Am.look
    [(0, T.v (V.str x0)), (3, T.v (V.bool !Am.strEq x0 (Am.strOf []))),
    (4, T.v (V.str (Am.strOf [34]))), (5, T.v (V.int IntKind.i64 0))])
   (Am.look []) H)
   (fun S' ↦ False) fun j S' ↦
   br (Nat.beq j 0)
   (req (Am.isKT (KT.k Kind.str) (S'.1 0) && (Am.isKT (KT.k Kind.bool) (S'.1 3) && (Am.isKT (KT.k Kind.str) (S'.1 4) || false)) || false)
    (br (V.getBool (T.val (S'.1 3))) (K (V.str (V.getStr (T.val (S'.1 0)))) S'.3)
    (req (Am.joinOk (V.getStr (T.val (S'.1 4))) (Am.strOf [34]))
     (K (V.str (Am.joinS (V.getStr (T.val (S'.1 4))) (Am.strOf [34]))) S'.3))))
   False :=
  fun x0 H K => (Run_call (E := env)).trans (by kernel_rfl)

theorem lp18_4 : ∀ (t0 : ByteArray) (t3 : Bool) (t4 : ByteArray) (t5 : Int) (H : Am.Heap) (Kr : Am.St → Prop) (Ke : Nat → Am.St → Prop),
  Am.Rec.loop (Am.Run env) (Am.loopAt env 18 4) 18 4
   (St.mk (Am.look [(0, T.v (V.str t0)), (3, T.v (V.bool t3)), (4, T.v (V.str t4)), (5, T.v (V.int IntKind.i64 t5))]) (Am.look []) H) Kr Ke =
  br (decide (t5 < (↑(ByteArray.size t0) : Int)))
   (req (decide (0 ≤ t5) && decide (t5 < (↑(ByteArray.size t0) : Int)))
   (Am.joinP
    (fun Q ↦
    br (decide (Am.byteAt t0 (Int.toNat t5) = 34))
     (req (Am.joinOk t4 (Am.strOf [92, 34]))
     (Q
      (St.mk (Am.look [(4, T.v (V.str (Am.joinS t4 (Am.strOf [92, 34]))))])
      (Am.look []) H)))
     (br (decide (Am.byteAt t0 (Int.toNat t5) = 92))
     (req (Am.joinOk t4 (Am.strOf [92, 92]))
      (Q
      (St.mk (Am.look [(4, T.v (V.str (Am.joinS t4 (Am.strOf [92, 92]))))])
       (Am.look []) H)))
     (br (decide (Am.byteAt t0 (Int.toNat t5) = 10))
      (req (Am.joinOk t4 (Am.strOf [92, 110]))
      (Q
       (St.mk (Am.look [(4, T.v (V.str (Am.joinS t4 (Am.strOf [92, 110]))))])
       (Am.look []) H)))
      (br (decide (Am.byteAt t0 (Int.toNat t5) = 9))
      (req (Am.joinOk t4 (Am.strOf [92, 116]))
       (Q
       (St.mk (Am.look [(4, T.v (V.str (Am.joinS t4 (Am.strOf [92, 116]))))])
        (Am.look []) H)))
      (req
       (decide (0 ≤ IntKind.wrap IntKind.i64 (t5 + 1)) && decide (IntKind.wrap IntKind.i64 (t5 + 1) ≤ (↑(ByteArray.size t0) : Int)) &&
       (decide (0 ≤ t5) && decide (t5 ≤ (↑(Int.toNat (IntKind.wrap IntKind.i64 (t5 + 1))) : Int))))
       (req (Am.joinOk t4 (ByteArray.extract t0 (Int.toNat t5) (Int.toNat (IntKind.wrap IntKind.i64 (t5 + 1)))))
       (Q (St.mk (Am.look [(4, T.v (V.str (Am.joinS t4 (ByteArray.extract t0 (Int.toNat t5) (Int.toNat (IntKind.wrap IntKind.i64 (t5 + 1)))))))]) (Am.look []) H))))))))
    fun S' ↦
    req (Am.isKT (KT.k Kind.str) (S'.1 4) || false || false)
    (req (decide (0 ≤ t5) && decide (t5 < (↑(ByteArray.size t0) : Int)))
     (req
     (Am.mergeR (!decide (Am.byteAt t0 (Int.toNat t5) ≤ 32))
      (decide (0 ≤ t5) && decide (t5 < (↑(ByteArray.size t0) : Int)) && true &&
      Am.mergeR (!decide (Am.byteAt t0 (Int.toNat t5) = 34))
       (decide (0 ≤ t5) && decide (t5 < (↑(ByteArray.size t0) : Int)) && true &&
       Am.mergeR (!decide (Am.byteAt t0 (Int.toNat t5) = 92)) (decide (0 ≤ t5) && decide (t5 < (↑(ByteArray.size t0) : Int)) && true && true) true)
       (Am.mergeR false (decide (0 ≤ t5) && decide (t5 < (↑(ByteArray.size t0) : Int)) && true && true) true))
      (Am.mergeR false
      (decide (0 ≤ t5) && decide (t5 < (↑(ByteArray.size t0) : Int)) && true &&
       Am.mergeR (!decide (Am.byteAt t0 (Int.toNat t5) = 92)) (decide (0 ≤ t5) && decide (t5 < (↑(ByteArray.size t0) : Int)) && true && true) true)
      (Am.mergeR false (decide (0 ≤ t5) && decide (t5 < (↑(ByteArray.size t0) : Int)) && true && true) true)))
     (Am.joinP
      (fun Q ↦
      br
       (bif !decide (Am.byteAt t0 (Int.toNat t5) ≤ 32) then
       bif !decide (Am.byteAt t0 (Int.toNat t5) = 34) then
        bif !decide (Am.byteAt t0 (Int.toNat t5) = 92) then decide (Am.byteAt t0 (Int.toNat t5) = 127) else true
       else true
       else true)
       (Q (St.mk (Am.look [(3, T.v (V.bool false))]) (Am.look []) S'.3)) (Q (St.mk (Am.look [(3, T.v (V.bool t3))]) (Am.look []) S'.3)))
      fun S'_1 ↦
      req (Am.isKT (KT.k Kind.bool) (S'_1.1 3) || false || false)
      (br (decide (IntKind.wrap IntKind.i64 (t5 + 3) ≤ (↑(ByteArray.size t0) : Int)))
       (req
       (decide (0 ≤ IntKind.wrap IntKind.i64 (t5 + 3)) && decide (IntKind.wrap IntKind.i64 (t5 + 3) ≤ (↑(ByteArray.size t0) : Int)) &&
        (decide (0 ≤ t5) && decide (t5 ≤ (↑(Int.toNat (IntKind.wrap IntKind.i64 (t5 + 3))) : Int))))
       (br
        (Am.strEq (ByteArray.extract t0 (Int.toNat t5) (Int.toNat (IntKind.wrap IntKind.i64 (t5 + 3))))
        (Am.strOf [227, 128, 128]))
        (Am.Rec.loop (Am.Run env) (Am.loopAt env 18 4) 18 4
        (St.mk
         (Am.look
         [(0, T.v (V.str t0)), (3, T.v (V.bool false)), (4, T.v (V.str (V.getStr (T.val (S'.1 4))))),
          (5, T.v (V.int IntKind.i64 (IntKind.wrap IntKind.i64 (t5 + 1))))])
         (Am.look []) S'_1.3)
        Kr Ke)
        (Am.Rec.loop (Am.Run env) (Am.loopAt env 18 4) 18 4
        (St.mk
         (Am.look
         [(0, T.v (V.str t0)), (3, T.v (V.bool (V.getBool (T.val (S'_1.1 3))))), (4, T.v (V.str (V.getStr (T.val (S'.1 4))))),
          (5, T.v (V.int IntKind.i64 (IntKind.wrap IntKind.i64 (t5 + 1))))])
         (Am.look []) S'_1.3)
        Kr Ke)))
       (Am.Rec.loop (Am.Run env) (Am.loopAt env 18 4) 18 4
       (St.mk
        (Am.look
        [(0, T.v (V.str t0)), (3, T.v (V.bool (V.getBool (T.val (S'_1.1 3))))), (4, T.v (V.str (V.getStr (T.val (S'.1 4))))),
         (5, T.v (V.int IntKind.i64 (IntKind.wrap IntKind.i64 (t5 + 1))))])
        (Am.look []) S'_1.3)
       Kr Ke)))))))
   (Ke 0 (St.mk (Am.look [(0, T.v (V.str t0)), (3, T.v (V.bool t3)), (4, T.v (V.str t4))]) (Am.look []) H)) :=
  fun t0 t3 t4 t5 H Kr Ke => (Run_loop (E := env)).trans (by kernel_rfl)

theorem eq19 : ∀ (x0 x1 : ByteArray) (H : Am.Heap) (K : Am.V → Am.Heap → Prop),
  Am.Rec.call (Am.Run env) 19 [V.str x0, V.str x1] H K =
  Am.Rec.call (Am.Run env) 31 [V.str x0, V.str x1] H fun v H' ↦ req (V.isK Kind.bool v) (K (V.bool (V.getBool v)) H') :=
  fun x0 x1 H K => (Run_call (E := env)).trans (by kernel_rfl)

theorem eq20 : ∀ (x0 : Option (Nat × Nat)) (x1 : Int) (H : Am.Heap) (K : Am.V → Am.Heap → Prop),
  Am.Rec.call (Am.Run env) 20 [V.ptr x0, V.int IntKind.i32 x1] H K =
  req (Option.isSome x0)
   (req (Am.Heap.inb H (Option.getD x0 (0, 0)).1 ((Option.getD x0 (0, 0)).2 + 5) 1 && V.isK Kind.bool (Am.Heap.cell H (Option.getD x0 (0, 0)).1 ((Option.getD x0 (0, 0)).2 + 5)))
   (Am.joinP
    (fun Q ↦
    br (V.getBool (Am.Heap.cell H (Option.getD x0 (0, 0)).1 ((Option.getD x0 (0, 0)).2 + 5)))
     (Am.Rec.call (Am.Run env) 32
     [V.str
      (Am.strOf [34, 92, 110, 116]),
      V.int IntKind.i32 x1]
     H fun v H' ↦
     req (V.isK (Kind.int IntKind.i64) v)
      (br (decide (V.getInt v < 0)) (K (V.int IntKind.i64 14) H')
      (req (Option.isSome x0)
       (req (decide (0 ≤ V.getInt v) && decide (V.getInt v < 4))
       (Am.Rec.call (Am.Run env) 33
        [V.ptr (Option.some ((Option.getD x0 (0, 0)).1, (Option.getD x0 (0, 0)).2 + 1)),
        V.int IntKind.u8
         (Am.byteAt
         (Am.strOf [34, 92, 10, 9])
         (Int.toNat (V.getInt v)))]
        H' fun v H' ↦
        req (V.isK Kind.iface v)
        (req (Option.isSome x0)
         (req (Am.Heap.wr H' (Option.getD x0 (0, 0)).1 ((Option.getD x0 (0, 0)).2 + 5) 1)
         (Q (St.mk (Am.look []) (Am.look []) (Am.Heap.store H' (Option.getD x0 (0, 0)).1 ((Option.getD x0 (0, 0)).2 + 5) [V.bool false]))))))))))
     (req (Option.isSome x0)
     (req (Am.Heap.inb H (Option.getD x0 (0, 0)).1 ((Option.getD x0 (0, 0)).2 + 4) 1 && V.isK Kind.bool (Am.Heap.cell H (Option.getD x0 (0, 0)).1 ((Option.getD x0 (0, 0)).2 + 4)))
      (br (V.getBool (Am.Heap.cell H (Option.getD x0 (0, 0)).1 ((Option.getD x0 (0, 0)).2 + 4)) && decide (x1 = 92))
      (req (Option.isSome x0)
       (req (Am.Heap.wr H (Option.getD x0 (0, 0)).1 ((Option.getD x0 (0, 0)).2 + 5) 1)
       (Q (St.mk (Am.look []) (Am.look []) (Am.Heap.store H (Option.getD x0 (0, 0)).1 ((Option.getD x0 (0, 0)).2 + 5) [V.bool true])))))
      (req (Option.isSome x0)
       (req (Am.Heap.inb H (Option.getD x0 (0, 0)).1 ((Option.getD x0 (0, 0)).2 + 4) 1 && V.isK Kind.bool (Am.Heap.cell H (Option.getD x0 (0, 0)).1 ((Option.getD x0 (0, 0)).2 + 4)))
       (br (V.getBool (Am.Heap.cell H (Option.getD x0 (0, 0)).1 ((Option.getD x0 (0, 0)).2 + 4)) && decide (x1 = 34))
        (req (Option.isSome x0)
        (req (Am.Heap.wr H (Option.getD x0 (0, 0)).1 ((Option.getD x0 (0, 0)).2 + 4) 1)
         (req (Option.isSome x0)
         (req
          (Am.Heap.wr (Am.Heap.store H (Option.getD x0 (0, 0)).1 ((Option.getD x0 (0, 0)).2 + 4) [V.bool false]) (Option.getD x0 (0, 0)).1 ((Option.getD x0 (0, 0)).2 + 6) 1)
          (Q
          (St.mk (Am.look []) (Am.look [])
           (Am.Heap.store (Am.Heap.store H (Option.getD x0 (0, 0)).1 ((Option.getD x0 (0, 0)).2 + 4) [V.bool false]) (Option.getD x0 (0, 0)).1 ((Option.getD x0 (0, 0)).2 + 6)
           [V.bool true])))))))
        (req (Option.isSome x0)
        (req
         (Am.Heap.inb H (Option.getD x0 (0, 0)).1 ((Option.getD x0 (0, 0)).2 + 4) 1 && V.isK Kind.bool (Am.Heap.cell H (Option.getD x0 (0, 0)).1 ((Option.getD x0 (0, 0)).2 + 4)))
         (br (V.getBool (Am.Heap.cell H (Option.getD x0 (0, 0)).1 ((Option.getD x0 (0, 0)).2 + 4)) && decide (x1 < 32)) (K (V.int IntKind.i64 14) H)
         (req (Option.isSome x0)
          (req
          (Am.Heap.inb H (Option.getD x0 (0, 0)).1 ((Option.getD x0 (0, 0)).2 + 4) 1 &&
           V.isK Kind.bool (Am.Heap.cell H (Option.getD x0 (0, 0)).1 ((Option.getD x0 (0, 0)).2 + 4)))
          (br (V.getBool (Am.Heap.cell H (Option.getD x0 (0, 0)).1 ((Option.getD x0 (0, 0)).2 + 4)))
           (req (Option.isSome x0)
           (Am.Rec.call (Am.Run env) 34 [V.ptr (Option.some ((Option.getD x0 (0, 0)).1, (Option.getD x0 (0, 0)).2 + 1)), V.int IntKind.i32 x1]
            H fun v H' ↦
            req
            (V.isTuple 2 v &&
             (V.isK (Kind.int IntKind.i64) (nthV (V.vals v) 0) && (V.isK Kind.iface (nthV (V.vals v) 1) || false)))
            (Q (St.mk (Am.look []) (Am.look []) H'))))
           (br (decide (x1 = 34))
           (req (Option.isSome x0)
            (req
            (Am.Heap.inb H (Option.getD x0 (0, 0)).1 ((Option.getD x0 (0, 0)).2 + 3) 1 &&
             V.isK Kind.bool (Am.Heap.cell H (Option.getD x0 (0, 0)).1 ((Option.getD x0 (0, 0)).2 + 3)))
            (br (V.getBool (Am.Heap.cell H (Option.getD x0 (0, 0)).1 ((Option.getD x0 (0, 0)).2 + 3))) (K (V.int IntKind.i64 14) H)
             (req (Option.isSome x0)
             (req (Am.Heap.wr H (Option.getD x0 (0, 0)).1 ((Option.getD x0 (0, 0)).2 + 3) 1)
              (req (Option.isSome x0)
              (req
               (Am.Heap.wr (Am.Heap.store H (Option.getD x0 (0, 0)).1 ((Option.getD x0 (0, 0)).2 + 3) [V.bool true]) (Option.getD x0 (0, 0)).1
               ((Option.getD x0 (0, 0)).2 + 4) 1)
               (Q
               (St.mk (Am.look []) (Am.look [])
                (Am.Heap.store (Am.Heap.store H (Option.getD x0 (0, 0)).1 ((Option.getD x0 (0, 0)).2 + 3) [V.bool true]) (Option.getD x0 (0, 0)).1
                ((Option.getD x0 (0, 0)).2 + 4) [V.bool true]))))))))))
           (Am.Rec.call (Am.Run env) 35 [V.int IntKind.i32 x1] H fun v H' ↦
            req (V.isK Kind.bool v)
            (br (V.getBool v) (Am.Rec.call (Am.Run env) 21 [V.ptr x0] H' fun v H' ↦ Q (St.mk (Am.look []) (Am.look []) H'))
             (Am.joinP
             (fun Q ↦
              req (Option.isSome x0)
              (req
               (Am.Heap.inb H' (Option.getD x0 (0, 0)).1 ((Option.getD x0 (0, 0)).2 + 6) 1 &&
               V.isK Kind.bool (Am.Heap.cell H' (Option.getD x0 (0, 0)).1 ((Option.getD x0 (0, 0)).2 + 6)))
               (br (!V.getBool (Am.Heap.cell H' (Option.getD x0 (0, 0)).1 ((Option.getD x0 (0, 0)).2 + 6)))
               (Am.Rec.call (Am.Run env) 28 [V.int IntKind.i32 x1] H' fun v H' ↦
                req (V.isK Kind.bool v) (Q (St.mk (Am.look [(96, T.v (V.bool !V.getBool v))]) (Am.look []) H')))
               (Q (St.mk (Am.look [(96, T.v (V.bool true))]) (Am.look []) H')))))
             fun S' ↦
             req (Am.isKT (KT.k Kind.bool) (S'.1 96) || false || false)
              (br (V.getBool (T.val (S'.1 96))) (K (V.int IntKind.i64 14) S'.3)
              (req (Option.isSome x0)
               (req (Am.Heap.wr S'.3 (Option.getD x0 (0, 0)).1 ((Option.getD x0 (0, 0)).2 + 3) 1)
               (req (Option.isSome x0)
                (Am.Rec.call (Am.Run env) 34
                [V.ptr (Option.some ((Option.getD x0 (0, 0)).1, (Option.getD x0 (0, 0)).2 + 1)), V.int IntKind.i32 x1]
                (Am.Heap.store S'.3 (Option.getD x0 (0, 0)).1 ((Option.getD x0 (0, 0)).2 + 3) [V.bool true]) fun v H' ↦
                req
                 (V.isTuple 2 v &&
                 (V.isK (Kind.int IntKind.i64) (nthV (V.vals v) 0) &&
                  (V.isK Kind.iface (nthV (V.vals v) 1) || false)))
                 (Q (St.mk (Am.look []) (Am.look []) H'))))))))))))))))))))))))
    fun S' ↦
    req (Option.isSome x0)
    (Am.Rec.call (Am.Run env) 36 [V.ptr (Option.some ((Option.getD x0 (0, 0)).1, (Option.getD x0 (0, 0)).2 + 1))] S'.3 fun v H' ↦
     req (V.isK (Kind.int IntKind.i64) v) (br (decide (V.getInt v > 200)) (K (V.int IntKind.i64 2) H') (K (V.int IntKind.i64 0) H'))))) :=
  fun x0 x1 H K => (Run_call (E := env)).trans (by kernel_rfl)

theorem eq21 : ∀ (x0 : Option (Nat × Nat)) (H : Am.Heap) (K : Am.V → Am.Heap → Prop),
  Am.Rec.call (Am.Run env) 21 [V.ptr x0] H K =
  req (Option.isSome x0)
   (req (Am.Heap.inb H (Option.getD x0 (0, 0)).1 ((Option.getD x0 (0, 0)).2 + 3) 1 && V.isK Kind.bool (Am.Heap.cell H (Option.getD x0 (0, 0)).1 ((Option.getD x0 (0, 0)).2 + 3)))
   (Am.joinP
    (fun Q ↦
    br (V.getBool (Am.Heap.cell H (Option.getD x0 (0, 0)).1 ((Option.getD x0 (0, 0)).2 + 3)))
     (Am.joinP
     (fun Q ↦
      req (Option.isSome x0)
      (req (Option.isSome x0)
       (req (Am.Heap.inb H (Option.getD x0 (0, 0)).1 (Option.getD x0 (0, 0)).2 1 && V.isK Kind.slice (Am.Heap.cell H (Option.getD x0 (0, 0)).1 (Option.getD x0 (0, 0)).2))
        (Am.extCall env 37 [V.ptr (Option.some ((Option.getD x0 (0, 0)).1, (Option.getD x0 (0, 0)).2 + 1))] H fun v H' ↦
        req (V.isK Kind.str v)
         (Am.appendOp env [23, 23]
         [V.slice (V.slPtr (Am.Heap.cell H (Option.getD x0 (0, 0)).1 (Option.getD x0 (0, 0)).2))
          (V.slLen (Am.Heap.cell H (Option.getD x0 (0, 0)).1 (Option.getD x0 (0, 0)).2)) (V.slCap (Am.Heap.cell H (Option.getD x0 (0, 0)).1 (Option.getD x0 (0, 0)).2)),
          V.slice (Option.some (H'.2, 0)) 1 1]
         (Am.Heap.alloc H' (Am.Obj.cells 9 [V.str (V.getStr v)] false)) fun q n c H' ↦
         req (Option.isSome x0)
          (req (Am.Heap.wr H' (Option.getD x0 (0, 0)).1 (Option.getD x0 (0, 0)).2 1)
          (Q (St.mk (Am.look []) (Am.look []) (Am.Heap.store H' (Option.getD x0 (0, 0)).1 (Option.getD x0 (0, 0)).2 [V.slice q n c])))))) ∧
       Am.extCall env 37 [V.ptr (Option.some ((Option.getD x0 (0, 0)).1, (Option.getD x0 (0, 0)).2 + 1))] H fun v H' ↦
        req (V.isK Kind.str v)
        (req (Am.Heap.inb H' (Option.getD x0 (0, 0)).1 (Option.getD x0 (0, 0)).2 1 && V.isK Kind.slice (Am.Heap.cell H' (Option.getD x0 (0, 0)).1 (Option.getD x0 (0, 0)).2))
         (Am.appendOp env [23, 23]
          [V.slice (V.slPtr (Am.Heap.cell H' (Option.getD x0 (0, 0)).1 (Option.getD x0 (0, 0)).2))
           (V.slLen (Am.Heap.cell H' (Option.getD x0 (0, 0)).1 (Option.getD x0 (0, 0)).2)) (V.slCap (Am.Heap.cell H' (Option.getD x0 (0, 0)).1 (Option.getD x0 (0, 0)).2)),
          V.slice (Option.some (H'.2, 0)) 1 1]
          (Am.Heap.alloc H' (Am.Obj.cells 9 [V.str (V.getStr v)] false)) fun q n c H' ↦
          req (Option.isSome x0)
          (req (Am.Heap.wr H' (Option.getD x0 (0, 0)).1 (Option.getD x0 (0, 0)).2 1)
           (Q (St.mk (Am.look []) (Am.look []) (Am.Heap.store H' (Option.getD x0 (0, 0)).1 (Option.getD x0 (0, 0)).2 [V.slice q n c]))))) ∧
         req
         (Am.Heap.inb (Am.Heap.alloc H' (Am.Obj.cells 9 [V.str (V.getStr v)] false)) (Option.getD x0 (0, 0)).1 (Option.getD x0 (0, 0)).2 1 &&
          V.isK Kind.slice (Am.Heap.cell (Am.Heap.alloc H' (Am.Obj.cells 9 [V.str (V.getStr v)] false)) (Option.getD x0 (0, 0)).1 (Option.getD x0 (0, 0)).2))
         (Am.appendOp env [23, 23]
          [V.slice (V.slPtr (Am.Heap.cell (Am.Heap.alloc H' (Am.Obj.cells 9 [V.str (V.getStr v)] false)) (Option.getD x0 (0, 0)).1 (Option.getD x0 (0, 0)).2))
           (V.slLen (Am.Heap.cell (Am.Heap.alloc H' (Am.Obj.cells 9 [V.str (V.getStr v)] false)) (Option.getD x0 (0, 0)).1 (Option.getD x0 (0, 0)).2))
           (V.slCap (Am.Heap.cell (Am.Heap.alloc H' (Am.Obj.cells 9 [V.str (V.getStr v)] false)) (Option.getD x0 (0, 0)).1 (Option.getD x0 (0, 0)).2)),
          V.slice (Option.some (H'.2, 0)) 1 1]
          (Am.Heap.alloc H' (Am.Obj.cells 9 [V.str (V.getStr v)] false)) fun q n c H' ↦
          req (Option.isSome x0)
          (req (Am.Heap.wr H' (Option.getD x0 (0, 0)).1 (Option.getD x0 (0, 0)).2 1)
           (Q (St.mk (Am.look []) (Am.look []) (Am.Heap.store H' (Option.getD x0 (0, 0)).1 (Option.getD x0 (0, 0)).2 [V.slice q n c])))))))))
     fun S' ↦
     req (Option.isSome x0)
      (Am.Rec.call (Am.Run env) 38 [V.ptr (Option.some ((Option.getD x0 (0, 0)).1, (Option.getD x0 (0, 0)).2 + 1))] S'.3 fun v H' ↦
      Q (St.mk (Am.look []) (Am.look []) H')))
     (Q (St.mk (Am.look []) (Am.look []) H)))
    fun S' ↦
    req (Option.isSome x0)
    (req (Am.Heap.wr S'.3 (Option.getD x0 (0, 0)).1 ((Option.getD x0 (0, 0)).2 + 3) 1)
     (req (Option.isSome x0)
     (req (Am.Heap.wr (Am.Heap.store S'.3 (Option.getD x0 (0, 0)).1 ((Option.getD x0 (0, 0)).2 + 3) [V.bool false]) (Option.getD x0 (0, 0)).1 ((Option.getD x0 (0, 0)).2 + 6) 1)
      (K (V.tuple [])
      (Am.Heap.store (Am.Heap.store S'.3 (Option.getD x0 (0, 0)).1 ((Option.getD x0 (0, 0)).2 + 3) [V.bool false]) (Option.getD x0 (0, 0)).1 ((Option.getD x0 (0, 0)).2 + 6)
       [V.bool false]))))))) :=
  fun x0 H K => (Run_call (E := env)).trans (by kernel_rfl)

theorem eq22 : ∀ (x0 : ByteArray) (x1 : Int) (H : Am.Heap) (K : Am.V → Am.Heap → Prop),
  Am.Rec.call (Am.Run env) 22 [V.str x0, V.int IntKind.i64 x1] H K =
  req (decide (0 ≤ x1) && decide (x1 < (↑(ByteArray.size x0) : Int)))
   (br (decide (IntKind.wrap IntKind.i64 (Am.byteAt x0 (Int.toNat x1)) < 128))
   (K (V.tuple [V.int IntKind.i64 1, V.int IntKind.i64 (IntKind.wrap IntKind.i64 (Am.byteAt x0 (Int.toNat x1)))]) H)
   (Am.joinP
    (fun Q ↦
    br (decide (IntKind.wrap IntKind.i64 (Am.byteAt x0 (Int.toNat x1)) ≥ 192) && decide (IntKind.wrap IntKind.i64 (Am.byteAt x0 (Int.toNat x1)) < 224))
     (Q
     (St.mk
      (Am.look
      [(7, T.v (V.int IntKind.i64 2)), (8, T.v (V.int IntKind.i64 (IntKind.wrap IntKind.i64 (IntKind.wrap IntKind.i64 (Am.byteAt x0 (Int.toNat x1)) - 192)))),
       (9, T.v (V.int IntKind.i64 128))])
      (Am.look []) H))
     (br (decide (IntKind.wrap IntKind.i64 (Am.byteAt x0 (Int.toNat x1)) ≥ 224) && decide (IntKind.wrap IntKind.i64 (Am.byteAt x0 (Int.toNat x1)) < 240))
     (Q
      (St.mk
      (Am.look
       [(7, T.v (V.int IntKind.i64 3)), (8, T.v (V.int IntKind.i64 (IntKind.wrap IntKind.i64 (IntKind.wrap IntKind.i64 (Am.byteAt x0 (Int.toNat x1)) - 224)))),
       (9, T.v (V.int IntKind.i64 2048))])
      (Am.look []) H))
     (br (decide (IntKind.wrap IntKind.i64 (Am.byteAt x0 (Int.toNat x1)) ≥ 240) && decide (IntKind.wrap IntKind.i64 (Am.byteAt x0 (Int.toNat x1)) < 248))
      (Q
      (St.mk
       (Am.look
       [(7, T.v (V.int IntKind.i64 4)),
        (8, T.v (V.int IntKind.i64 (IntKind.wrap IntKind.i64 (IntKind.wrap IntKind.i64 (Am.byteAt x0 (Int.toNat x1)) - 240)))),
        (9, T.v (V.int IntKind.i64 65536))])
       (Am.look []) H))
      (K (V.tuple [V.int IntKind.i64 0, V.int IntKind.i64 0]) H))))
    fun S' ↦
    req
    (Am.isKT (KT.k (Kind.int IntKind.i64)) (S'.1 7) &&
     (Am.isKT (KT.k (Kind.int IntKind.i64)) (S'.1 8) && (Am.isKT (KT.k (Kind.int IntKind.i64)) (S'.1 9) || false)) ||
     false)
    (br (decide (IntKind.wrap IntKind.i64 (x1 + V.getInt (T.val (S'.1 7))) > (↑(ByteArray.size x0) : Int)))
     (K (V.tuple [V.int IntKind.i64 0, V.int IntKind.i64 0]) S'.3)
     (Am.Rec.loop (Am.Run env) (Am.loopAt env 22 28) 22 28
     (St.mk
      (Am.look
      [(0, T.v (V.str x0)), (1, T.v (V.int IntKind.i64 x1)), (7, T.v (V.int IntKind.i64 (V.getInt (T.val (S'.1 7))))),
       (8, T.v (V.int IntKind.i64 (V.getInt (T.val (S'.1 8))))), (9, T.v (V.int IntKind.i64 (V.getInt (T.val (S'.1 9))))),
       (10, T.v (V.int IntKind.i64 1))])
      (Am.look []) S'.3)
     (fun S' ↦
      req (Am.isKT (KT.k (Kind.int IntKind.i64)) (S'.1 4) && (Am.isKT (KT.k (Kind.int IntKind.i64)) (S'.1 5) || false) || false)
      (K (V.tuple [V.int IntKind.i64 (V.getInt (T.val (S'.1 4))), V.int IntKind.i64 (V.getInt (T.val (S'.1 5)))]) S'.3))
     fun j S' ↦
     br (Nat.beq j 1)
      (req
      (Am.isKT (KT.k (Kind.int IntKind.i64)) (S'.1 7) &&
       (Am.isKT (KT.k (Kind.int IntKind.i64)) (S'.1 8) && (Am.isKT (KT.k (Kind.int IntKind.i64)) (S'.1 9) || false)) ||
       false)
      (br
       (bif !decide (V.getInt (T.val (S'.1 8)) < V.getInt (T.val (S'.1 9))) then
       bif !decide (V.getInt (T.val (S'.1 8)) > 1114111) then
        decide (V.getInt (T.val (S'.1 8)) ≥ 55296) && decide (V.getInt (T.val (S'.1 8)) < 57344)
       else true
       else true)
       (K (V.tuple [V.int IntKind.i64 0, V.int IntKind.i64 0]) S'.3)
       (K (V.tuple [V.int IntKind.i64 (V.getInt (T.val (S'.1 7))), V.int IntKind.i64 (V.getInt (T.val (S'.1 8)))]) S'.3)))
      False)))) :=
  fun x0 x1 H K => (Run_call (E := env)).trans (by kernel_rfl)

theorem lp22_28 : ∀ (t0 : ByteArray) (t1 t7 t8 t9 t10 : Int) (H : Am.Heap) (Kr : Am.St → Prop) (Ke : Nat → Am.St → Prop),
  Am.Rec.loop (Am.Run env) (Am.loopAt env 22 28) 22 28
   (St.mk
   (Am.look
    [(0, T.v (V.str t0)), (1, T.v (V.int IntKind.i64 t1)), (7, T.v (V.int IntKind.i64 t7)), (8, T.v (V.int IntKind.i64 t8)),
    (9, T.v (V.int IntKind.i64 t9)), (10, T.v (V.int IntKind.i64 t10))])
   (Am.look []) H)
   Kr Ke =
  br (decide (t10 < t7))
   (req (decide (0 ≤ IntKind.wrap IntKind.i64 (t1 + t10)) && decide (IntKind.wrap IntKind.i64 (t1 + t10) < (↑(ByteArray.size t0) : Int)))
   (br
    (bif !decide (IntKind.wrap IntKind.i64 (Am.byteAt t0 (Int.toNat (IntKind.wrap IntKind.i64 (t1 + t10)))) < 128) then
    decide (IntKind.wrap IntKind.i64 (Am.byteAt t0 (Int.toNat (IntKind.wrap IntKind.i64 (t1 + t10)))) > 191)
    else true)
    (Kr (St.mk (Am.look [(4, T.v (V.int IntKind.i64 0)), (5, T.v (V.int IntKind.i64 0))]) (Am.look []) H))
    (Am.Rec.loop (Am.Run env) (Am.loopAt env 22 28) 22 28
    (St.mk
     (Am.look
     [(0, T.v (V.str t0)), (1, T.v (V.int IntKind.i64 t1)), (7, T.v (V.int IntKind.i64 t7)),
      (8,
      T.v
       (V.int IntKind.i64
       (IntKind.wrap IntKind.i64
        (IntKind.wrap IntKind.i64 (IntKind.wrap IntKind.i64 (t8 * 64) + IntKind.wrap IntKind.i64 (Am.byteAt t0 (Int.toNat (IntKind.wrap IntKind.i64 (t1 + t10))))) - 128)))),
      (9, T.v (V.int IntKind.i64 t9)), (10, T.v (V.int IntKind.i64 (IntKind.wrap IntKind.i64 (t10 + 1))))])
     (Am.look []) H)
    Kr Ke)))
   (Ke 1 (St.mk (Am.look [(7, T.v (V.int IntKind.i64 t7)), (8, T.v (V.int IntKind.i64 t8)), (9, T.v (V.int IntKind.i64 t9))]) (Am.look []) H)) :=
  fun t0 t1 t7 t8 t9 t10 H Kr Ke => (Run_loop (E := env)).trans (by kernel_rfl)

theorem eq23 : ∀ (x0 : Int) (H : Am.Heap) (K : Am.V → Am.Heap → Prop),
  Am.Rec.call (Am.Run env) 23 [V.int IntKind.i64 x0] H K =
  K (V.bool (bif !decide (x0 = 32) then bif !decide (x0 = 9) then decide (x0 = 12288) else true else true)) H :=
  fun x0 H K => (Run_call (E := env)).trans (by kernel_rfl)

theorem eq24 : ∀ (x0 : ByteArray) (x1 : Int) (H : Am.Heap) (K : Am.V → Am.Heap → Prop),
  Am.Rec.call (Am.Run env) 24 [V.str x0, V.int IntKind.i64 x1] H K =
  Am.Rec.loop (Am.Run env) (Am.loopAt env 24 2) 24 2
   (St.mk (Am.look [(0, T.v (V.str x0)), (1, T.v (V.int IntKind.i64 x1)), (7, T.v (V.str (Am.strOf [])))]) (Am.look []) H)
   (fun S' ↦
   req
    (Am.isKT (KT.k Kind.str) (S'.1 4) && (Am.isKT (KT.k (Kind.int IntKind.i64)) (S'.1 5) && (Am.isKT (KT.k (Kind.int IntKind.i64)) (S'.1 6) || false)) ||
    false)
    (K (V.tuple [V.str (V.getStr (T.val (S'.1 4))), V.int IntKind.i64 (V.getInt (T.val (S'.1 5))), V.int IntKind.i64 (V.getInt (T.val (S'.1 6)))])
    S'.3))
   fun j S' ↦
   br (Nat.beq j 0)
   (req (Am.isKT (KT.k Kind.str) (S'.1 0) || false || false)
    (K (V.tuple [V.str (Am.strOf []), V.int IntKind.i64 (↑(ByteArray.size (V.getStr (T.val (S'.1 0)))) : Int), V.int IntKind.i64 14]) S'.3))
   False :=
  fun x0 x1 H K => (Run_call (E := env)).trans (by kernel_rfl)

theorem lp24_2 : ∀ (t0 : ByteArray) (t1 : Int) (t7 : ByteArray) (H : Am.Heap) (Kr : Am.St → Prop) (Ke : Nat → Am.St → Prop),
  Am.Rec.loop (Am.Run env) (Am.loopAt env 24 2) 24 2
   (St.mk (Am.look [(0, T.v (V.str t0)), (1, T.v (V.int IntKind.i64 t1)), (7, T.v (V.str t7))]) (Am.look []) H) Kr Ke =
  br (decide (t1 < (↑(ByteArray.size t0) : Int)))
   (Am.Rec.call (Am.Run env) 22 [V.str t0, V.int IntKind.i64 t1] H fun v H' ↦
   req (V.isTuple 2 v && (V.isK (Kind.int IntKind.i64) (nthV (V.vals v) 0) && (V.isK (Kind.int IntKind.i64) (nthV (V.vals v) 1) || false)))
    (br (bif !decide (V.getInt (nthV (V.vals v) 0) = 0) then decide (V.getInt (nthV (V.vals v) 1) < 32) else true)
    (Kr (St.mk (Am.look [(4, T.v (V.str (Am.strOf []))), (5, T.v (V.int IntKind.i64 t1)), (6, T.v (V.int IntKind.i64 14))]) (Am.look []) H'))
    (br (decide (V.getInt (nthV (V.vals v) 1) = 34))
     (Am.joinP
     (fun Q ↦
      br (decide (IntKind.wrap IntKind.i64 (t1 + 1) < (↑(ByteArray.size t0) : Int)))
      (Am.Rec.call (Am.Run env) 22 [V.str t0, V.int IntKind.i64 (IntKind.wrap IntKind.i64 (t1 + 1))] H' fun v H' ↦
       req
       (V.isTuple 2 v &&
        (V.isK (Kind.int IntKind.i64) (nthV (V.vals v) 0) && (V.isK (Kind.int IntKind.i64) (nthV (V.vals v) 1) || false)))
       (br (!decide (V.getInt (nthV (V.vals v) 0) = 0))
        (Am.Rec.call (Am.Run env) 23 [V.int IntKind.i64 (V.getInt (nthV (V.vals v) 1))] H' fun v H' ↦
        req (V.isK Kind.bool v)
         (br (!V.getBool v)
         (Kr
          (St.mk
          (Am.look
           [(4, T.v (V.str (Am.strOf []))), (5, T.v (V.int IntKind.i64 (IntKind.wrap IntKind.i64 (t1 + 1)))),
           (6, T.v (V.int IntKind.i64 14))])
          (Am.look []) H'))
         (Q (St.mk (Am.look []) (Am.look []) H'))))
        (Kr
        (St.mk
         (Am.look
         [(4, T.v (V.str (Am.strOf []))), (5, T.v (V.int IntKind.i64 (IntKind.wrap IntKind.i64 (t1 + 1)))),
          (6, T.v (V.int IntKind.i64 14))])
         (Am.look []) H'))))
      (Q (St.mk (Am.look []) (Am.look []) H')))
     fun S' ↦
     Kr
      (St.mk (Am.look [(4, T.v (V.str t7)), (5, T.v (V.int IntKind.i64 (IntKind.wrap IntKind.i64 (t1 + 1)))), (6, T.v (V.int IntKind.i64 0))])
      (Am.look []) S'.3))
     (br (!decide (V.getInt (nthV (V.vals v) 1) = 92))
     (req
      (decide (0 ≤ IntKind.wrap IntKind.i64 (t1 + V.getInt (nthV (V.vals v) 0))) &&
       decide (IntKind.wrap IntKind.i64 (t1 + V.getInt (nthV (V.vals v) 0)) ≤ (↑(ByteArray.size t0) : Int)) &&
      (decide (0 ≤ t1) && decide (t1 ≤ (↑(Int.toNat (IntKind.wrap IntKind.i64 (t1 + V.getInt (nthV (V.vals v) 0)))) : Int))))
      (req (Am.joinOk t7 (ByteArray.extract t0 (Int.toNat t1) (Int.toNat (IntKind.wrap IntKind.i64 (t1 + V.getInt (nthV (V.vals v) 0))))))
      (br
       (decide
       ((↑(ByteArray.size (Am.joinS t7 (ByteArray.extract t0 (Int.toNat t1) (Int.toNat (IntKind.wrap IntKind.i64 (t1 + V.getInt (nthV (V.vals v) 0))))))) : Int) > 200))
       (Kr
       (St.mk (Am.look [(4, T.v (V.str (Am.strOf []))), (5, T.v (V.int IntKind.i64 t1)), (6, T.v (V.int IntKind.i64 2))]) (Am.look [])
        H'))
       (Am.Rec.loop (Am.Run env) (Am.loopAt env 24 2) 24 2
       (St.mk
        (Am.look
        [(0, T.v (V.str t0)), (1, T.v (V.int IntKind.i64 (IntKind.wrap IntKind.i64 (t1 + V.getInt (nthV (V.vals v) 0))))),
         (7, T.v (V.str (Am.joinS t7 (ByteArray.extract t0 (Int.toNat t1) (Int.toNat (IntKind.wrap IntKind.i64 (t1 + V.getInt (nthV (V.vals v) 0))))))))])
        (Am.look []) H')
       Kr Ke))))
     (br (decide (IntKind.wrap IntKind.i64 (t1 + 1) = (↑(ByteArray.size t0) : Int)))
      (Kr
      (St.mk
       (Am.look
       [(4, T.v (V.str (Am.strOf []))), (5, T.v (V.int IntKind.i64 (IntKind.wrap IntKind.i64 (t1 + 1)))), (6, T.v (V.int IntKind.i64 14))])
       (Am.look []) H'))
      (Am.Rec.call (Am.Run env) 22 [V.str t0, V.int IntKind.i64 (IntKind.wrap IntKind.i64 (t1 + 1))] H' fun v H' ↦
      req
       (V.isTuple 2 v && (V.isK (Kind.int IntKind.i64) (nthV (V.vals v) 0) && (V.isK (Kind.int IntKind.i64) (nthV (V.vals v) 1) || false)))
       (br (decide (V.getInt (nthV (V.vals v) 0) = 0))
       (Kr
        (St.mk
        (Am.look
         [(4, T.v (V.str (Am.strOf []))), (5, T.v (V.int IntKind.i64 (IntKind.wrap IntKind.i64 (t1 + 1)))),
         (6, T.v (V.int IntKind.i64 14))])
        (Am.look []) H'))
       (br (bif !decide (V.getInt (nthV (V.vals v) 1) = 34) then decide (V.getInt (nthV (V.vals v) 1) = 92) else true)
        (req
        (decide (0 ≤ IntKind.wrap IntKind.i64 (IntKind.wrap IntKind.i64 (t1 + 1) + 1)) &&
         decide (IntKind.wrap IntKind.i64 (IntKind.wrap IntKind.i64 (t1 + 1) + 1) ≤ (↑(ByteArray.size t0) : Int)) &&
         (decide (0 ≤ IntKind.wrap IntKind.i64 (t1 + 1)) &&
         decide (IntKind.wrap IntKind.i64 (t1 + 1) ≤ (↑(Int.toNat (IntKind.wrap IntKind.i64 (IntKind.wrap IntKind.i64 (t1 + 1) + 1))) : Int))))
        (req
         (Am.joinOk t7 (ByteArray.extract t0 (Int.toNat (IntKind.wrap IntKind.i64 (t1 + 1))) (Int.toNat (IntKind.wrap IntKind.i64 (IntKind.wrap IntKind.i64 (t1 + 1) + 1)))))
         (br
         (decide
          ((↑(ByteArray.size
            (Am.joinS t7
            (ByteArray.extract t0 (Int.toNat (IntKind.wrap IntKind.i64 (t1 + 1))) (Int.toNat (IntKind.wrap IntKind.i64 (IntKind.wrap IntKind.i64 (t1 + 1) + 1)))))) :
           Int) >
          200))
         (Kr
          (St.mk
          (Am.look
           [(4, T.v (V.str (Am.strOf []))), (5, T.v (V.int IntKind.i64 (IntKind.wrap IntKind.i64 (t1 + 1)))),
           (6, T.v (V.int IntKind.i64 2))])
          (Am.look []) H'))
         (Am.Rec.loop (Am.Run env) (Am.loopAt env 24 2) 24 2
          (St.mk
          (Am.look
           [(0, T.v (V.str t0)),
           (1, T.v (V.int IntKind.i64 (IntKind.wrap IntKind.i64 (IntKind.wrap IntKind.i64 (t1 + 1) + V.getInt (nthV (V.vals v) 0))))),
           (7,
            T.v
            (V.str
             (Am.joinS t7
             (ByteArray.extract t0 (Int.toNat (IntKind.wrap IntKind.i64 (t1 + 1))) (Int.toNat (IntKind.wrap IntKind.i64 (IntKind.wrap IntKind.i64 (t1 + 1) + 1)))))))])
          (Am.look []) H')
          Kr Ke))))
        (br (decide (V.getInt (nthV (V.vals v) 1) = 110))
        (req (Am.joinOk t7 (Am.strOf [10]))
         (br (decide ((↑(ByteArray.size (Am.joinS t7 (Am.strOf [10]))) : Int) > 200))
         (Kr
          (St.mk
          (Am.look
           [(4, T.v (V.str (Am.strOf []))), (5, T.v (V.int IntKind.i64 (IntKind.wrap IntKind.i64 (t1 + 1)))),
           (6, T.v (V.int IntKind.i64 2))])
          (Am.look []) H'))
         (Am.Rec.loop (Am.Run env) (Am.loopAt env 24 2) 24 2
          (St.mk
          (Am.look
           [(0, T.v (V.str t0)),
           (1, T.v (V.int IntKind.i64 (IntKind.wrap IntKind.i64 (IntKind.wrap IntKind.i64 (t1 + 1) + V.getInt (nthV (V.vals v) 0))))),
           (7, T.v (V.str (Am.joinS t7 (Am.strOf [10]))))])
          (Am.look []) H')
          Kr Ke)))
        (br (decide (V.getInt (nthV (V.vals v) 1) = 116))
         (req (Am.joinOk t7 (Am.strOf [9]))
         (br (decide ((↑(ByteArray.size (Am.joinS t7 (Am.strOf [9]))) : Int) > 200))
          (Kr
          (St.mk
           (Am.look
           [(4, T.v (V.str (Am.strOf []))), (5, T.v (V.int IntKind.i64 (IntKind.wrap IntKind.i64 (t1 + 1)))),
            (6, T.v (V.int IntKind.i64 2))])
           (Am.look []) H'))
          (Am.Rec.loop (Am.Run env) (Am.loopAt env 24 2) 24 2
          (St.mk
           (Am.look
           [(0, T.v (V.str t0)),
            (1, T.v (V.int IntKind.i64 (IntKind.wrap IntKind.i64 (IntKind.wrap IntKind.i64 (t1 + 1) + V.getInt (nthV (V.vals v) 0))))),
            (7, T.v (V.str (Am.joinS t7 (Am.strOf [9]))))])
           (Am.look []) H')
          Kr Ke)))
         (Kr
         (St.mk
          (Am.look
          [(4, T.v (V.str (Am.strOf []))), (5, T.v (V.int IntKind.i64 (IntKind.wrap IntKind.i64 (t1 + 1)))),
           (6, T.v (V.int IntKind.i64 14))])
          (Am.look []) H'))))))))))))
   (Ke 0 (St.mk (Am.look [(0, T.v (V.str t0))]) (Am.look []) H)) :=
  fun t0 t1 t7 H Kr Ke => (Run_loop (E := env)).trans (by kernel_rfl)

theorem eq25 : ∀ (x0 : ByteArray) (x1 : Int) (H : Am.Heap) (K : Am.V → Am.Heap → Prop),
  Am.Rec.call (Am.Run env) 25 [V.str x0, V.int IntKind.i64 x1] H K =
  Am.Rec.loop (Am.Run env) (Am.loopAt env 25 2) 25 2
   (St.mk (Am.look [(0, T.v (V.str x0)), (1, T.v (V.int IntKind.i64 x1)), (7, T.v (V.str (Am.strOf [])))]) (Am.look []) H)
   (fun S' ↦
   req
    (Am.isKT (KT.k Kind.str) (S'.1 4) && (Am.isKT (KT.k (Kind.int IntKind.i64)) (S'.1 5) && (Am.isKT (KT.k (Kind.int IntKind.i64)) (S'.1 6) || false)) ||
    false)
    (K (V.tuple [V.str (V.getStr (T.val (S'.1 4))), V.int IntKind.i64 (V.getInt (T.val (S'.1 5))), V.int IntKind.i64 (V.getInt (T.val (S'.1 6)))])
    S'.3))
   fun j S' ↦
   br (Nat.beq j 0)
   (req (Am.isKT (KT.k (Kind.int IntKind.i64)) (S'.1 1) && (Am.isKT (KT.k Kind.str) (S'.1 7) || false) || false)
    (K (V.tuple [V.str (V.getStr (T.val (S'.1 7))), V.int IntKind.i64 (V.getInt (T.val (S'.1 1))), V.int IntKind.i64 0]) S'.3))
   False :=
  fun x0 x1 H K => (Run_call (E := env)).trans (by kernel_rfl)

theorem lp25_2 : ∀ (t0 : ByteArray) (t1 : Int) (t7 : ByteArray) (H : Am.Heap) (Kr : Am.St → Prop) (Ke : Nat → Am.St → Prop),
  Am.Rec.loop (Am.Run env) (Am.loopAt env 25 2) 25 2
   (St.mk (Am.look [(0, T.v (V.str t0)), (1, T.v (V.int IntKind.i64 t1)), (7, T.v (V.str t7))]) (Am.look []) H) Kr Ke =
  br (decide (t1 < (↑(ByteArray.size t0) : Int)))
   (Am.Rec.call (Am.Run env) 22 [V.str t0, V.int IntKind.i64 t1] H fun v H' ↦
   req (V.isTuple 2 v && (V.isK (Kind.int IntKind.i64) (nthV (V.vals v) 0) && (V.isK (Kind.int IntKind.i64) (nthV (V.vals v) 1) || false)))
    (Am.joinP
    (fun Q ↦
     br (decide (V.getInt (nthV (V.vals v) 0) > 0))
     (Am.Rec.call (Am.Run env) 23 [V.int IntKind.i64 (V.getInt (nthV (V.vals v) 1))] H' fun v H' ↦
      req (V.isK Kind.bool v) (Q (St.mk (Am.look [(25, T.v (V.bool (V.getBool v)))]) (Am.look []) H')))
     (Q (St.mk (Am.look [(25, T.v (V.bool false))]) (Am.look []) H')))
    fun S' ↦
    req (Am.isKT (KT.k Kind.bool) (S'.1 25) || false || false)
     (br (V.getBool (T.val (S'.1 25))) (Ke 0 (St.mk (Am.look [(1, T.v (V.int IntKind.i64 t1)), (7, T.v (V.str t7))]) (Am.look []) S'.3))
     (br
      (bif !decide (V.getInt (nthV (V.vals v) 0) = 0) then
      bif !decide (V.getInt (nthV (V.vals v) 1) < 32) then
       bif !decide (V.getInt (nthV (V.vals v) 1) = 34) then decide (V.getInt (nthV (V.vals v) 1) = 127) else true
      else true
      else true)
      (Kr
      (St.mk (Am.look [(4, T.v (V.str (Am.strOf []))), (5, T.v (V.int IntKind.i64 t1)), (6, T.v (V.int IntKind.i64 14))]) (Am.look [])
       S'.3))
      (req
      (decide (0 ≤ IntKind.wrap IntKind.i64 (t1 + V.getInt (nthV (V.vals v) 0))) &&
       decide (IntKind.wrap IntKind.i64 (t1 + V.getInt (nthV (V.vals v) 0)) ≤ (↑(ByteArray.size t0) : Int)) &&
       (decide (0 ≤ t1) && decide (t1 ≤ (↑(Int.toNat (IntKind.wrap IntKind.i64 (t1 + V.getInt (nthV (V.vals v) 0)))) : Int))))
      (req (Am.joinOk t7 (ByteArray.extract t0 (Int.toNat t1) (Int.toNat (IntKind.wrap IntKind.i64 (t1 + V.getInt (nthV (V.vals v) 0))))))
       (br
       (decide
        ((↑(ByteArray.size (Am.joinS t7 (ByteArray.extract t0 (Int.toNat t1) (Int.toNat (IntKind.wrap IntKind.i64 (t1 + V.getInt (nthV (V.vals v) 0))))))) : Int) > 200))
       (Kr
        (St.mk (Am.look [(4, T.v (V.str (Am.strOf []))), (5, T.v (V.int IntKind.i64 t1)), (6, T.v (V.int IntKind.i64 2))])
        (Am.look []) S'.3))
       (Am.Rec.loop (Am.Run env) (Am.loopAt env 25 2) 25 2
        (St.mk
        (Am.look
         [(0, T.v (V.str t0)), (1, T.v (V.int IntKind.i64 (IntKind.wrap IntKind.i64 (t1 + V.getInt (nthV (V.vals v) 0))))),
         (7, T.v (V.str (Am.joinS t7 (ByteArray.extract t0 (Int.toNat t1) (Int.toNat (IntKind.wrap IntKind.i64 (t1 + V.getInt (nthV (V.vals v) 0))))))))])
        (Am.look []) S'.3)
        Kr Ke))))))))
   (Ke 0 (St.mk (Am.look [(1, T.v (V.int IntKind.i64 t1)), (7, T.v (V.str t7))]) (Am.look []) H)) :=
  fun t0 t1 t7 H Kr Ke => (Run_loop (E := env)).trans (by kernel_rfl)

theorem eq26 : ∀ (x0 : ByteArray) (x1 : Am.V) (H : Am.Heap) (K : Am.V → Am.Heap → Prop),
  Am.Rec.call (Am.Run env) 26 [V.str x0, x1] H K =
  Am.Rec.call (Am.Run env) 39 [V.str x0, x1] H fun v H' ↦ req (V.isK (Kind.int IntKind.i64) v) (K (V.bool (decide (V.getInt v ≥ 0))) H') :=
  fun x0 x1 H K => (Run_call (E := env)).trans (by kernel_rfl)

theorem eq27 : ∀ (x0 : Int) (H : Am.Heap) (K : Am.V → Am.Heap → Prop),
  Am.Rec.call (Am.Run env) 27 [V.int IntKind.i32 x0] H K =
  Am.Rec.call (Am.Run env) 28 [V.int IntKind.i32 x0] H fun v H' ↦
   req (V.isK Kind.bool v) (K (V.bool (bif !!V.getBool v then decide (x0 = 92) else true)) H') :=
  fun x0 H K => (Run_call (E := env)).trans (by kernel_rfl)

theorem eq28 : ∀ (x0 : Int) (H : Am.Heap) (K : Am.V → Am.Heap → Prop),
  Am.Rec.call (Am.Run env) 28 [V.int IntKind.i32 x0] H K =
  br (decide (x0 ≥ 32))
   (br (!decide (x0 = 34))
   (Am.Rec.call (Am.Run env) 35 [V.int IntKind.i32 x0] H fun v H' ↦
    req (V.isK Kind.bool v) (br (!V.getBool v) (K (V.bool !decide (x0 = 127)) H') (K (V.bool false) H')))
   (K (V.bool false) H))
   (K (V.bool false) H) :=
  fun x0 H K => (Run_call (E := env)).trans (by kernel_rfl)

theorem eq31 : ∀ (x0 x1 : ByteArray) (H : Am.Heap) (K : Am.V → Am.Heap → Prop),
  Am.Rec.call (Am.Run env) 31 [V.str x0, V.str x1] H K =
  br (decide ((↑(ByteArray.size x0) : Int) ≥ (↑(ByteArray.size x1) : Int)))
   (req (decide (0 ≤ (↑(ByteArray.size x1) : Int)) && decide ((↑(ByteArray.size x1) : Int) ≤ (↑(ByteArray.size x0) : Int)) || false)
   (K (V.bool (Am.strEq (ByteArray.extract x0 0 (ByteArray.size x1)) x1)) H))
   (K (V.bool false) H) :=
  fun x0 x1 H K => (Run_call (E := env)).trans (by kernel_rfl)

theorem eq32 : ∀ (x0 : ByteArray) (x1 : Int) (H : Am.Heap) (K : Am.V → Am.Heap → Prop),
  Am.Rec.call (Am.Run env) 32 [V.str x0, V.int IntKind.i32 x1] H K =
  br (decide (0 ≤ x1) && decide (x1 < 128))
   (Am.Rec.call (Am.Run env) 42 [V.str x0, V.int IntKind.u8 (IntKind.wrap IntKind.u8 x1)] H fun v H' ↦
   req (V.isK (Kind.int IntKind.i64) v) (K (V.int IntKind.i64 (V.getInt v)) H'))
   (br (decide (x1 = 65533))
   (Am.Rec.loop (Am.Run env) (Am.loopAt env 32 7) 32 7 (St.mk (Am.look [(175, T.lp 175 0)]) (Am.look [(175, Loc.iter x0 0)]) H)
    (fun S' ↦ req (Am.isKT (KT.k (Kind.int IntKind.i64)) (S'.1 4) || false || false) (K (V.int IntKind.i64 (V.getInt (T.val (S'.1 4)))) S'.3)) fun j S' ↦
    br (Nat.beq j 9) (K (V.int IntKind.i64 (-1)) S'.3) False)
   (Am.Rec.call (Am.Run env) 43 [V.int IntKind.i32 x1] H fun v H' ↦
    req (V.isK Kind.bool v)
    (br (!V.getBool v) (K (V.int IntKind.i64 (-1)) H')
     (Am.Rec.loop (Am.Run env) (Am.loopAt env 32 22) 32 22
     (St.mk
      (Am.look
      [(0, T.v (V.str x0)), (7, T.v (V.str (Go.Utf8.encode x1))),
       (8, T.v (V.int IntKind.i64 (IntKind.wrap IntKind.i64 ((↑(ByteArray.size (Go.Utf8.encode x1)) : Int) - 1)))),
       (9, T.v (V.int IntKind.i64 (IntKind.wrap IntKind.i64 ((↑(ByteArray.size (Go.Utf8.encode x1)) : Int) - 1))))])
      (Am.look []) H')
     (fun S' ↦ req (Am.isKT (KT.k (Kind.int IntKind.i64)) (S'.1 4) || false || false) (K (V.int IntKind.i64 (V.getInt (T.val (S'.1 4)))) S'.3)) fun j S' ↦
     br (Nat.beq j 1) (K (V.int IntKind.i64 (-1)) S'.3) False)))) :=
  fun x0 x1 H K => (Run_call (E := env)).trans (by kernel_rfl)

theorem lp32_22 : ∀ (t0 t7 : ByteArray) (t8 t9 : Int) (H : Am.Heap) (Kr : Am.St → Prop) (Ke : Nat → Am.St → Prop),
  Am.Rec.loop (Am.Run env) (Am.loopAt env 32 22) 32 22
   (St.mk (Am.look [(0, T.v (V.str t0)), (7, T.v (V.str t7)), (8, T.v (V.int IntKind.i64 t8)), (9, T.v (V.int IntKind.i64 t9))]) (Am.look []) H) Kr
   Ke =
  br (decide (t9 < (↑(ByteArray.size t0) : Int)))
   (req (decide (0 ≤ t9) && decide (t9 < (↑(ByteArray.size t0) : Int)))
   (req (decide (0 ≤ t8) && decide (t8 < (↑(ByteArray.size t7) : Int)))
    (Am.joinP
    (fun Q ↦
     br (!decide (Am.byteAt t0 (Int.toNat t9) = Am.byteAt t7 (Int.toNat t8)))
     (req (decide (0 ≤ IntKind.wrap IntKind.i64 (t9 + 1)) && decide (IntKind.wrap IntKind.i64 (t9 + 1) ≤ (↑(ByteArray.size t0) : Int)))
      (req (decide (0 ≤ t8) && decide (t8 < (↑(ByteArray.size t7) : Int)))
      (Am.Rec.call (Am.Run env) 42
       [V.str (ByteArray.extract t0 (Int.toNat (IntKind.wrap IntKind.i64 (t9 + 1))) (ByteArray.size t0)), V.int IntKind.u8 (Am.byteAt t7 (Int.toNat t8))] H fun v H' ↦
       req (V.isK (Kind.int IntKind.i64) v)
       (br (decide (V.getInt v < 0)) (Kr (St.mk (Am.look [(4, T.v (V.int IntKind.i64 (-1)))]) (Am.look []) H'))
        (Q (St.mk (Am.look [(9, T.v (V.int IntKind.i64 (IntKind.wrap IntKind.i64 (t9 + IntKind.wrap IntKind.i64 (V.getInt v + 1)))))]) (Am.look []) H'))))))
     (Q (St.mk (Am.look [(9, T.v (V.int IntKind.i64 t9))]) (Am.look []) H)))
    fun S' ↦
    req (Am.isKT (KT.k (Kind.int IntKind.i64)) (S'.1 9) || false || false)
     (Am.Rec.loop (Am.Run env) (Am.loopAt env 32 33) 32 33
     (St.mk
      (Am.look
      [(0, T.v (V.str t0)), (7, T.v (V.str t7)), (8, T.v (V.int IntKind.i64 t8)), (9, T.v (V.int IntKind.i64 (V.getInt (T.val (S'.1 9))))),
       (12, T.v (V.int IntKind.i64 1))])
      (Am.look []) S'.3)
     (fun S' ↦ False) fun j S' ↦
     br (Nat.beq j 3)
      (req (Am.isKT (KT.k (Kind.int IntKind.i64)) (S'.1 8) && (Am.isKT (KT.k (Kind.int IntKind.i64)) (S'.1 9) || false) || false)
      (Kr
       (St.mk (Am.look [(4, T.v (V.int IntKind.i64 (IntKind.wrap IntKind.i64 (V.getInt (T.val (S'.1 9)) - V.getInt (T.val (S'.1 8))))))])
       (Am.look []) S'.3)))
      False))))
   (Ke 1 (St.mk (Am.look []) (Am.look []) H)) :=
  fun t0 t7 t8 t9 H Kr Ke => (Run_loop (E := env)).trans (by kernel_rfl)

theorem lp32_33 : ∀ (t0 t7 : ByteArray) (t8 t9 t12 : Int) (H : Am.Heap) (Kr : Am.St → Prop) (Ke : Nat → Am.St → Prop),
  Am.Rec.loop (Am.Run env) (Am.loopAt env 32 33) 32 33
   (St.mk
   (Am.look
    [(0, T.v (V.str t0)), (7, T.v (V.str t7)), (8, T.v (V.int IntKind.i64 t8)), (9, T.v (V.int IntKind.i64 t9)),
    (12, T.v (V.int IntKind.i64 t12))])
   (Am.look []) H)
   Kr Ke =
  br (decide (t12 < (↑(ByteArray.size t7) : Int)))
   (req (decide (0 ≤ IntKind.wrap IntKind.i64 (t9 - t12)) && decide (IntKind.wrap IntKind.i64 (t9 - t12) < (↑(ByteArray.size t0) : Int)))
   (req (decide (0 ≤ IntKind.wrap IntKind.i64 (t8 - t12)) && decide (IntKind.wrap IntKind.i64 (t8 - t12) < (↑(ByteArray.size t7) : Int)))
    (br (!decide (Am.byteAt t0 (Int.toNat (IntKind.wrap IntKind.i64 (t9 - t12))) = Am.byteAt t7 (Int.toNat (IntKind.wrap IntKind.i64 (t8 - t12))))) False
    (Am.Rec.loop (Am.Run env) (Am.loopAt env 32 33) 32 33
     (St.mk
     (Am.look
      [(0, T.v (V.str t0)), (7, T.v (V.str t7)), (8, T.v (V.int IntKind.i64 t8)), (9, T.v (V.int IntKind.i64 t9)),
      (12, T.v (V.int IntKind.i64 (IntKind.wrap IntKind.i64 (t12 + 1))))])
     (Am.look []) H)
     Kr Ke))))
   (Ke 3 (St.mk (Am.look [(8, T.v (V.int IntKind.i64 t8)), (9, T.v (V.int IntKind.i64 t9))]) (Am.look []) H)) :=
  fun t0 t7 t8 t9 t12 H Kr Ke => (Run_loop (E := env)).trans (by kernel_rfl)

theorem lp32_7 : ∀ (l175_0 : ByteArray) (l175_1 : Nat) (H : Am.Heap) (Kr : Am.St → Prop) (Ke : Nat → Am.St → Prop),
  Am.Rec.loop (Am.Run env) (Am.loopAt env 32 7) 32 7
   (St.mk (Am.look [(175, T.lp 175 0)]) (Am.look [(175, Loc.iter l175_0 l175_1)]) H) Kr Ke =
  br (Nat.ble (Nat.succ l175_1) (ByteArray.size l175_0))
   (br (decide ((↑(Go.Utf8.decode l175_0 l175_1).1 : Int) = 65533)) (Kr (St.mk (Am.look [(4, T.v (V.int IntKind.i64 (↑l175_1 : Int)))]) (Am.look []) H))
   (Am.Rec.loop (Am.Run env) (Am.loopAt env 32 7) 32 7
    (St.mk (Am.look [(175, T.lp 175 0)]) (Am.look [(175, Loc.iter l175_0 (l175_1 + (Go.Utf8.decode l175_0 l175_1).2))]) H) Kr Ke))
   (Ke 9 (St.mk (Am.look []) (Am.look []) H)) :=
  fun l175_0 l175_1 H Kr Ke => (Run_loop (E := env)).trans (by kernel_rfl)

theorem eq33 : ∀ (x0 : Option (Nat × Nat)) (x1 : Int) (H : Am.Heap) (K : Am.V → Am.Heap → Prop),
  Am.Rec.call (Am.Run env) 33 [V.ptr x0, V.int IntKind.u8 x1] H K =
  Am.extCall env 46 [V.ptr x0] H fun v H' ↦
   req (Option.isSome x0)
   (req (Am.Heap.inb H' (Option.getD x0 (0, 0)).1 ((Option.getD x0 (0, 0)).2 + 1) 1 && V.isK Kind.slice (Am.Heap.cell H' (Option.getD x0 (0, 0)).1 ((Option.getD x0 (0, 0)).2 + 1)))
    (Am.appendOp env [32, 32]
    [V.slice (V.slPtr (Am.Heap.cell H' (Option.getD x0 (0, 0)).1 ((Option.getD x0 (0, 0)).2 + 1))) (V.slLen (Am.Heap.cell H' (Option.getD x0 (0, 0)).1 ((Option.getD x0 (0, 0)).2 + 1)))
     (V.slCap (Am.Heap.cell H' (Option.getD x0 (0, 0)).1 ((Option.getD x0 (0, 0)).2 + 1))),
     V.slice (Option.some (H'.2, 0)) 1 1]
    (Am.Heap.alloc H' (Am.Obj.cells 5 [V.int IntKind.u8 x1] false)) fun q n c H' ↦
    req (Option.isSome x0)
     (req (Am.Heap.wr H' (Option.getD x0 (0, 0)).1 ((Option.getD x0 (0, 0)).2 + 1) 1)
     (K V.nilIface (Am.Heap.store H' (Option.getD x0 (0, 0)).1 ((Option.getD x0 (0, 0)).2 + 1) [V.slice q n c]))))) :=
  fun x0 x1 H K => (Run_call (E := env)).trans (by kernel_rfl)

theorem eq34 : ∀ (x0 : Option (Nat × Nat)) (x1 : Int) (H : Am.Heap) (K : Am.V → Am.Heap → Prop),
  Am.Rec.call (Am.Run env) 34 [V.ptr x0, V.int IntKind.i32 x1] H K =
  Am.extCall env 46 [V.ptr x0] H fun v H' ↦
   req (Option.isSome x0)
   (req (Am.Heap.inb H' (Option.getD x0 (0, 0)).1 ((Option.getD x0 (0, 0)).2 + 1) 1 && V.isK Kind.slice (Am.Heap.cell H' (Option.getD x0 (0, 0)).1 ((Option.getD x0 (0, 0)).2 + 1)))
    (req (Option.isSome x0)
    (req (Am.Heap.inb H' (Option.getD x0 (0, 0)).1 ((Option.getD x0 (0, 0)).2 + 1) 1 && V.isK Kind.slice (Am.Heap.cell H' (Option.getD x0 (0, 0)).1 ((Option.getD x0 (0, 0)).2 + 1)))
     (Am.Rec.call (Am.Run env) 47
     [V.slice (V.slPtr (Am.Heap.cell H' (Option.getD x0 (0, 0)).1 ((Option.getD x0 (0, 0)).2 + 1))) (V.slLen (Am.Heap.cell H' (Option.getD x0 (0, 0)).1 ((Option.getD x0 (0, 0)).2 + 1)))
      (V.slCap (Am.Heap.cell H' (Option.getD x0 (0, 0)).1 ((Option.getD x0 (0, 0)).2 + 1))),
      V.int IntKind.i32 x1]
     H' fun v H'_1 ↦
     req (V.isK Kind.slice v)
      (req (Option.isSome x0)
      (req (Am.Heap.wr H'_1 (Option.getD x0 (0, 0)).1 ((Option.getD x0 (0, 0)).2 + 1) 1)
       (req (Option.isSome x0)
       (req
        (Am.Heap.inb (Am.Heap.store H'_1 (Option.getD x0 (0, 0)).1 ((Option.getD x0 (0, 0)).2 + 1) [V.slice (V.slPtr v) (V.slLen v) (V.slCap v)]) (Option.getD x0 (0, 0)).1
         ((Option.getD x0 (0, 0)).2 + 1) 1 &&
        V.isK Kind.slice
         (Am.Heap.cell (Am.Heap.store H'_1 (Option.getD x0 (0, 0)).1 ((Option.getD x0 (0, 0)).2 + 1) [V.slice (V.slPtr v) (V.slLen v) (V.slCap v)])
         (Option.getD x0 (0, 0)).1 ((Option.getD x0 (0, 0)).2 + 1)))
        (K
        (V.tuple
         [V.int IntKind.i64
          (IntKind.wrap IntKind.i64
          ((↑(V.slLen
            (Am.Heap.cell (Am.Heap.store H'_1 (Option.getD x0 (0, 0)).1 ((Option.getD x0 (0, 0)).2 + 1) [V.slice (V.slPtr v) (V.slLen v) (V.slCap v)])
             (Option.getD x0 (0, 0)).1 ((Option.getD x0 (0, 0)).2 + 1))) :
           Int) -
           (↑(V.slLen (Am.Heap.cell H' (Option.getD x0 (0, 0)).1 ((Option.getD x0 (0, 0)).2 + 1))) : Int))),
         V.nilIface])
        (Am.Heap.store H'_1 (Option.getD x0 (0, 0)).1 ((Option.getD x0 (0, 0)).2 + 1) [V.slice (V.slPtr v) (V.slLen v) (V.slCap v)])))))))))) :=
  fun x0 x1 H K => (Run_call (E := env)).trans (by kernel_rfl)

theorem eq35 : ∀ (x0 : Int) (H : Am.Heap) (K : Am.V → Am.Heap → Prop),
  Am.Rec.call (Am.Run env) 35 [V.int IntKind.i32 x0] H K =
  K (V.bool (bif !decide (x0 = 32) then bif !decide (x0 = 9) then decide (x0 = 12288) else true else true)) H :=
  fun x0 H K => (Run_call (E := env)).trans (by kernel_rfl)

theorem eq36 : ∀ (x0 : Option (Nat × Nat)) (H : Am.Heap) (K : Am.V → Am.Heap → Prop),
  Am.Rec.call (Am.Run env) 36 [V.ptr x0] H K =
  req (Option.isSome x0)
   (req (Am.Heap.inb H (Option.getD x0 (0, 0)).1 ((Option.getD x0 (0, 0)).2 + 1) 1 && V.isK Kind.slice (Am.Heap.cell H (Option.getD x0 (0, 0)).1 ((Option.getD x0 (0, 0)).2 + 1)))
   (K (V.int IntKind.i64 (↑(V.slLen (Am.Heap.cell H (Option.getD x0 (0, 0)).1 ((Option.getD x0 (0, 0)).2 + 1))) : Int)) H)) :=
  fun x0 H K => (Run_call (E := env)).trans (by kernel_rfl)

theorem eq38 : ∀ (x0 : Option (Nat × Nat)) (H : Am.Heap) (K : Am.V → Am.Heap → Prop),
  Am.Rec.call (Am.Run env) 38 [V.ptr x0] H K =
  req (Option.isSome x0)
   (req (Am.Heap.wr H (Option.getD x0 (0, 0)).1 (Option.getD x0 (0, 0)).2 1)
   (req (Option.isSome x0)
    (req (Am.Heap.wr (Am.Heap.store H (Option.getD x0 (0, 0)).1 (Option.getD x0 (0, 0)).2 [V.ptr Option.none]) (Option.getD x0 (0, 0)).1 ((Option.getD x0 (0, 0)).2 + 1) 1)
    (K (V.tuple [])
     (Am.Heap.store (Am.Heap.store H (Option.getD x0 (0, 0)).1 (Option.getD x0 (0, 0)).2 [V.ptr Option.none]) (Option.getD x0 (0, 0)).1 ((Option.getD x0 (0, 0)).2 + 1)
     [V.slice Option.none 0 0]))))) :=
  fun x0 H K => (Run_call (E := env)).trans (by kernel_rfl)

theorem eq39 : ∀ (x0 : ByteArray) (x1 : Am.V) (H : Am.Heap) (K : Am.V → Am.Heap → Prop),
  Am.Rec.call (Am.Run env) 39 [V.str x0, x1] H K =
  Am.Rec.call (Am.Run env) 48 [V.str x0, x1, V.bool true] H fun v H' ↦
   req (V.isK (Kind.int IntKind.i64) v) (K (V.int IntKind.i64 (V.getInt v)) H') :=
  fun x0 x1 H K => (Run_call (E := env)).trans (by kernel_rfl)

theorem eq42 : ∀ (x0 : ByteArray) (x1 : Int) (H : Am.Heap) (K : Am.V → Am.Heap → Prop),
  Am.Rec.call (Am.Run env) 42 [V.str x0, V.int IntKind.u8 x1] H K =
  Am.Rec.call (Am.Run env) 52 [V.str x0, V.int IntKind.u8 x1] H fun v H' ↦
   req (V.isK (Kind.int IntKind.i64) v) (K (V.int IntKind.i64 (V.getInt v)) H') :=
  fun x0 x1 H K => (Run_call (E := env)).trans (by kernel_rfl)

theorem eq43 : ∀ (x0 : Int) (H : Am.Heap) (K : Am.V → Am.Heap → Prop),
  Am.Rec.call (Am.Run env) 43 [V.int IntKind.i32 x0] H K =
  br (decide (0 ≤ x0) && decide (x0 < 55296)) (K (V.bool true) H)
   (br (decide (57343 < x0) && decide (x0 ≤ 1114111)) (K (V.bool true) H) (K (V.bool false) H)) :=
  fun x0 H K => (Run_call (E := env)).trans (by kernel_rfl)

theorem eq44 : ∀ (x0 : Int) (H : Am.Heap) (K : Am.V → Am.Heap → Prop),
  Am.Rec.call (Am.Run env) 44 [V.int IntKind.i64 x0] H K =
  K (V.int IntKind.i64 (IntKind.wrap IntKind.i64 (Int.tdiv (IntKind.wrap IntKind.i64 (x0 + 16)) 8))) H :=
  fun x0 H K => (Run_call (E := env)).trans (by kernel_rfl)

theorem eq47 : ∀ (x0p : Option (Nat × Nat)) (x0n x0c : Nat) (x1 : Int) (H : Am.Heap) (K : Am.V → Am.Heap → Prop),
  Am.Rec.call (Am.Run env) 47 [V.slice x0p x0n x0c, V.int IntKind.i32 x1] H K =
  br (decide (IntKind.wrap IntKind.u32 x1 ≤ 127))
   (Am.appendOp env [32, 32] [V.slice x0p x0n x0c, V.slice (Option.some (H.2, 0)) 1 1]
   (Am.Heap.alloc H (Am.Obj.cells 5 [V.int IntKind.u8 (IntKind.wrap IntKind.u8 x1)] false)) fun q n c H' ↦ K (V.slice q n c) H')
   (Am.Rec.call (Am.Run env) 54 [V.slice x0p x0n x0c, V.int IntKind.i32 x1] H fun v H' ↦
   req (V.isK Kind.slice v) (K (V.slice (V.slPtr v) (V.slLen v) (V.slCap v)) H')) :=
  fun x0p x0n x0c x1 H K => (Run_call (E := env)).trans (by kernel_rfl)

theorem eq48 : ∀ (x0 : ByteArray) (x1 : Am.V) (x2 : Bool) (H : Am.Heap) (K : Am.V → Am.Heap → Prop),
  Am.Rec.call (Am.Run env) 48 [V.str x0, x1, V.bool x2] H K =
  Am.Rec.loop (Am.Run env) (Am.loopAt env 48 2) 48 2
   (St.mk (Am.look [(1, T.v x1), (2, T.v (V.bool x2)), (10, T.lp 10 0)]) (Am.look [(10, Loc.iter x0 0)]) H)
   (fun S' ↦ req (Am.isKT (KT.k (Kind.int IntKind.i64)) (S'.1 6) || false || false) (K (V.int IntKind.i64 (V.getInt (T.val (S'.1 6)))) S'.3)) fun j S' ↦
   br (Nat.beq j 0) (K (V.int IntKind.i64 (-1)) S'.3) False :=
  fun x0 x1 x2 H K => (Run_call (E := env)).trans (by kernel_rfl)

theorem lp48_2 : ∀ (t1 : Am.V) (t2 : Bool) (l10_0 : ByteArray) (l10_1 : Nat) (H : Am.Heap) (Kr : Am.St → Prop) (Ke : Nat → Am.St → Prop),
  Am.Rec.loop (Am.Run env) (Am.loopAt env 48 2) 48 2
   (St.mk (Am.look [(1, T.v t1), (2, T.v (V.bool t2)), (10, T.lp 10 0)]) (Am.look [(10, Loc.iter l10_0 l10_1)]) H) Kr Ke =
  br (Nat.ble (Nat.succ l10_1) (ByteArray.size l10_0))
   (Am.callV env (Am.Run env) t1 [V.int IntKind.i32 (↑(Go.Utf8.decode l10_0 l10_1).1 : Int)] H fun v H' ↦
   req (V.isK Kind.bool v)
    (br (decide (V.getBool v = t2)) (Kr (St.mk (Am.look [(6, T.v (V.int IntKind.i64 (↑l10_1 : Int)))]) (Am.look []) H'))
    (Am.Rec.loop (Am.Run env) (Am.loopAt env 48 2) 48 2
     (St.mk (Am.look [(1, T.v t1), (2, T.v (V.bool t2)), (10, T.lp 10 0)]) (Am.look [(10, Loc.iter l10_0 (l10_1 + (Go.Utf8.decode l10_0 l10_1).2))]) H') Kr Ke)))
   (Ke 0 (St.mk (Am.look []) (Am.look []) H)) :=
  fun t1 t2 l10_0 l10_1 H Kr Ke => (Run_loop (E := env)).trans (by kernel_rfl)

theorem eq52 : ∀ (x0 : ByteArray) (x1 : Int) (H : Am.Heap) (K : Am.V → Am.Heap → Prop),
  Am.Rec.call (Am.Run env) 52 [V.str x0, V.int IntKind.u8 x1] H K =
  Am.extCall env 61 [V.str x0, V.int IntKind.u8 x1] H fun v H' ↦
   req (V.isK (Kind.int IntKind.i64) v) (K (V.int IntKind.i64 (V.getInt v)) H') :=
  fun x0 x1 H K => (Run_call (E := env)).trans (by kernel_rfl)

theorem eq54 : ∀ (x0p : Option (Nat × Nat)) (x0n x0c : Nat) (x1 : Int) (H : Am.Heap) (K : Am.V → Am.Heap → Prop),
  Am.Rec.call (Am.Run env) 54 [V.slice x0p x0n x0c, V.int IntKind.i32 x1] H K =
  br (decide (IntKind.wrap IntKind.u32 x1 ≤ 2047))
   (Am.appendOp env [32, 32] [V.slice x0p x0n x0c, V.slice (Option.some (H.2, 0)) 2 2]
   (Am.Heap.alloc H
    (Am.Obj.cells 5
    [V.int IntKind.u8 (IntKind.wrap IntKind.u8 (↑(BitVec.toNat (BitVec.ofInt 8 192 ||| BitVec.ofInt 8 (IntKind.wrap IntKind.u8 (Int.fdiv x1 64)))) : Int)),
     V.int IntKind.u8
     (IntKind.wrap IntKind.u8
      (↑(BitVec.toNat (BitVec.ofInt 8 128 ||| BitVec.ofInt 8 (IntKind.wrap IntKind.u8 (↑(BitVec.toNat (BitVec.ofInt 8 (IntKind.wrap IntKind.u8 x1) &&& BitVec.ofInt 8 63)) : Int)))) : Int))]
    false))
   fun q n c H' ↦ K (V.slice q n c) H')
   (Am.joinP
   (fun Q ↦
    br (decide (IntKind.wrap IntKind.u32 x1 < 55296))
    (Q (St.mk (Am.look [(25, T.v (V.bool (decide (IntKind.wrap IntKind.u32 x1 < 55296))))]) (Am.look []) H))
    (Q
     (St.mk (Am.look [(25, T.v (V.bool (decide (57343 < IntKind.wrap IntKind.u32 x1) && decide (IntKind.wrap IntKind.u32 x1 ≤ 65535))))]) (Am.look []) H)))
   fun S' ↦
   req (Am.isKT (KT.k Kind.bool) (S'.1 25) || false || false)
    (br (V.getBool (T.val (S'.1 25)))
    (Am.appendOp env [32, 32] [V.slice x0p x0n x0c, V.slice (Option.some (S'.3.2, 0)) 3 3]
     (Am.Heap.alloc S'.3
     (Am.Obj.cells 5
      [V.int IntKind.u8 (IntKind.wrap IntKind.u8 (↑(BitVec.toNat (BitVec.ofInt 8 224 ||| BitVec.ofInt 8 (IntKind.wrap IntKind.u8 (Int.fdiv x1 4096)))) : Int)),
      V.int IntKind.u8
       (IntKind.wrap IntKind.u8
       (↑(BitVec.toNat
         (BitVec.ofInt 8 128 ||| BitVec.ofInt 8 (IntKind.wrap IntKind.u8 (↑(BitVec.toNat (BitVec.ofInt 8 (IntKind.wrap IntKind.u8 (Int.fdiv x1 64)) &&& BitVec.ofInt 8 63)) : Int)))) :
        Int)),
      V.int IntKind.u8
       (IntKind.wrap IntKind.u8
       (↑(BitVec.toNat (BitVec.ofInt 8 128 ||| BitVec.ofInt 8 (IntKind.wrap IntKind.u8 (↑(BitVec.toNat (BitVec.ofInt 8 (IntKind.wrap IntKind.u8 x1) &&& BitVec.ofInt 8 63)) : Int)))) : Int))]
      false))
     fun q n c H' ↦ K (V.slice q n c) H')
    (br (decide (IntKind.wrap IntKind.u32 x1 > 65535) && decide (IntKind.wrap IntKind.u32 x1 ≤ 1114111))
     (Am.appendOp env [32, 32] [V.slice x0p x0n x0c, V.slice (Option.some (S'.3.2, 0)) 4 4]
     (Am.Heap.alloc S'.3
      (Am.Obj.cells 5
      [V.int IntKind.u8 (IntKind.wrap IntKind.u8 (↑(BitVec.toNat (BitVec.ofInt 8 240 ||| BitVec.ofInt 8 (IntKind.wrap IntKind.u8 (Int.fdiv x1 262144)))) : Int)),
       V.int IntKind.u8
       (IntKind.wrap IntKind.u8
        (↑(BitVec.toNat
         (BitVec.ofInt 8 128 ||| BitVec.ofInt 8 (IntKind.wrap IntKind.u8 (↑(BitVec.toNat (BitVec.ofInt 8 (IntKind.wrap IntKind.u8 (Int.fdiv x1 4096)) &&& BitVec.ofInt 8 63)) : Int)))) :
        Int)),
       V.int IntKind.u8
       (IntKind.wrap IntKind.u8
        (↑(BitVec.toNat
         (BitVec.ofInt 8 128 ||| BitVec.ofInt 8 (IntKind.wrap IntKind.u8 (↑(BitVec.toNat (BitVec.ofInt 8 (IntKind.wrap IntKind.u8 (Int.fdiv x1 64)) &&& BitVec.ofInt 8 63)) : Int)))) :
        Int)),
       V.int IntKind.u8
       (IntKind.wrap IntKind.u8
        (↑(BitVec.toNat (BitVec.ofInt 8 128 ||| BitVec.ofInt 8 (IntKind.wrap IntKind.u8 (↑(BitVec.toNat (BitVec.ofInt 8 (IntKind.wrap IntKind.u8 x1) &&& BitVec.ofInt 8 63)) : Int)))) :
        Int))]
      false))
     fun q n c H' ↦ K (V.slice q n c) H')
     (Am.appendOp env [32, 32] [V.slice x0p x0n x0c, V.slice (Option.some (S'.3.2, 0)) 3 3]
     (Am.Heap.alloc S'.3 (Am.Obj.cells 5 [V.int IntKind.u8 239, V.int IntKind.u8 191, V.int IntKind.u8 189] false)) fun q n c H' ↦ K (V.slice q n c) H')))) :=
  fun x0p x0n x0c x1 H K => (Run_call (E := env)).trans (by kernel_rfl)

end Go.Proofs.Ytibkggbidojocaa
