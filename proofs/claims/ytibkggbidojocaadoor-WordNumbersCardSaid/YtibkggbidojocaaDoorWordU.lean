/- Numbers as texts. -/
import Derived.Test.YtibkggbidojocaaDoorWordJ
import Derived.Lib.ParseIntBTie
import Derived.Lib.ParseIntBCases
import Derived.Lib.ItoaNum
import Derived.Lib.LaidTab
namespace Go.Proofs.YtibkggbidojocaaDoor
open Go.Am Go.Lib
set_option maxRecDepth 100000
set_option linter.unusedSimpArgs false
set_option linter.unusedVariables false
set_option linter.unusedSectionVars false

/-! ### digits -/

theorem dig_small {u : Nat} (h : u < 10) : decDigits u = [UInt8.ofNat (48 + u)] := by rw [decDigits, dif_pos h]
theorem dig_big {u : Nat} (h : ¬ u < 10) : decDigits u = decDigits (u / 10) ++ [UInt8.ofNat (48 + u % 10)] := by rw [decDigits, dif_neg h]

theorem dig_len : ∀ (k u : Nat), 1 ≤ k → u < 10 ^ k → (decDigits u).length ≤ k
  | 0, u, h, _ => by omega
  | k + 1, u, _, hu => by
    by_cases h : u < 10
    · rw [dig_small h]; simp
    · rw [dig_big h, List.length_append]
      have hk : 1 ≤ k := by
        rcases Nat.eq_zero_or_pos k with rfl | hk
        · simp at hu; omega
        · exact hk
      have : u / 10 < 10 ^ k := by rw [Nat.pow_succ] at hu; omega
      have := dig_len k (u / 10) hk this
      simp only [List.length_cons, List.length_nil]
      omega

theorem ofNat_dig {d : Nat} (h : d < 10) : (UInt8.ofNat (48 + d)).toNat = 48 + d := by rw [UInt8.toNat_ofNat']; omega

theorem dig_head : ∀ u : Nat, 1 ≤ u → ∃ c r, decDigits u = c :: r ∧ 49 ≤ c.toNat ∧ c.toNat ≤ 57 := by
  intro u
  induction u using Nat.strongRecOn with
  | _ u ih =>
    intro h1
    by_cases h : u < 10
    · exact ⟨_, [], dig_small h, by rw [ofNat_dig h]; omega, by rw [ofNat_dig h]; omega⟩
    · obtain ⟨c, r, e, a, b⟩ := ih (u / 10) (by omega) (by omega)
      exact ⟨c, r ++ [UInt8.ofNat (48 + u % 10)], by rw [dig_big h, e]; rfl, a, b⟩

theorem dig_first (u : Nat) : ∃ c r, decDigits u = c :: r ∧ 48 ≤ c.toNat ∧ c.toNat ≤ 57 := by
  by_cases h : u = 0
  · subst h; exact ⟨48, [], by rw [dig_small (by omega)]; rfl, by decide, by decide⟩
  · obtain ⟨c, r, e, a, b⟩ := dig_head u (by omega)
    exact ⟨c, r, e, by omega, b⟩

theorem parseM_snoc (M : Nat) (c : UInt8) (hc : 48 ≤ c.toNat ∧ c.toNat ≤ 57) : ∀ (l : List UInt8) (acc : Nat), parseUintM M acc (l ++ [c]) = match parseUintM M acc l with
    | .ok a => (if 1844674407370955162 ≤ a then .range else if M < a * 10 + (c.toNat - 48) then .range else .ok (a * 10 + (c.toNat - 48)))
    | x => x
  | [], acc => by simp [parseUintM, hc]
  | d :: l, acc => by
    rw [List.cons_append, parseUintM, parseUintM]
    split
    · split
      · rfl
      · split
        · rfl
        · exact parseM_snoc M c hc l _
    · rfl

theorem parse_dig : ∀ u : Nat, u < 18446744073709551616 → parseUintM 18446744073709551615 0 (decDigits u) = .ok u := by
  intro u
  induction u using Nat.strongRecOn with
  | _ u ih =>
    intro hu
    by_cases h : u < 10
    · rw [dig_small h, parseUintM, ofNat_dig h, if_pos (by omega), if_neg (by omega), if_neg (by omega)]
      simp [parseUintM]
    · rw [dig_big h, parseM_snoc _ _ (by rw [ofNat_dig (by omega)]; omega), ih (u / 10) (by omega) (by omega)]
      dsimp only
      rw [ofNat_dig (by omega), if_neg (by omega), if_neg (by omega)]
      congr 1
      omega

theorem parse_itoa {n : Int} (h0 : -9223372036854775808 ≤ n) (h1 : n ≤ 9223372036854775807) : parseIntB 64 (itoa n) = .ok n := by
  unfold itoa
  by_cases hn : n < 0
  · rw [if_pos hn, parseIntB_minus]
    have hne : decDigits n.natAbs ≠ [] := by obtain ⟨c, r, e, _⟩ := dig_first n.natAbs; rw [e]; nofun
    unfold parseUintB
    rw [if_neg hne, show (2 ^ 64 - 1 : Nat) = 18446744073709551615 by decide, parse_dig _ (by omega)]
    unfold signedC
    dsimp only
    rw [if_neg (by omega)]
    congr 1
    omega
  · rw [if_neg hn]
    obtain ⟨c, r, e, a, b⟩ := dig_first n.toNat
    have hp := parse_dig n.toNat (by omega)
    rw [e] at hp ⊢
    rw [parseIntB_plain 64 c r (by omega) (by omega)]
    unfold parseUintB
    rw [if_neg (by nofun), show (2 ^ 64 - 1 : Nat) = 18446744073709551615 by decide, hp]
    unfold signlessC
    dsimp only
    rw [if_neg (by omega)]
    congr 1
    omega

theorem itoa_len {n : Int} (h0 : -9223372036854775808 ≤ n) (h1 : n ≤ 9223372036854775807) : 1 ≤ (itoa n).length ∧ (itoa n).length ≤ 21 := by
  unfold itoa
  split
  · have := dig_len 20 n.natAbs (by omega) (by omega)
    simp only [List.length_cons]
    omega
  · obtain ⟨c, r, e, _⟩ := dig_first n.toNat
    have := dig_len 20 n.toNat (by omega) (by omega)
    rw [e] at this ⊢
    simp only [List.length_cons] at this ⊢
    omega

/-- No number begins with a nought, but nought. -/
theorem itoa_nought {v : Int} {s : List UInt8} (h : itoa v = 48 :: s) : s = [] := by
  unfold itoa at h
  split at h
  · cases h
  · by_cases h0 : v.toNat = 0
    · rw [h0, dig_small (by omega)] at h
      exact (List.cons.inj h).2.symm
    · obtain ⟨c, r, e, a, b⟩ := dig_head v.toNat (by omega)
      rw [e] at h
      have := (List.cons.inj h).1
      subst this
      exact absurd a (by decide)

/-! ### the calls -/

/-- What the three variables hold. -/
structure GL (B : Am.Heap) : Prop where
  s : ∃ e t cs, B.get 0 = some (.cells e (.iface t .hole :: cs) true)
  r : ∃ e t cs, B.get 1 = some (.cells e (.iface t .hole :: cs) true)
  t : ∃ e, B.get 2 = some (.cells e (pow10Tab.map fun z => V.int .u64 z) true)

section

variable {B : Am.Heap} {L : List Ast} {H : Am.Heap} {K : V → Am.Heap → Prop} {bs : List UInt8}

theorem ext_pi (args : List V) (H : Am.Heap) (K : V → Am.Heap → Prop) : extCall env 9 args H K = piRun 0 1 args H K := by kernel_rfl

theorem ext_fi (args : List V) (H : Am.Heap) (K : V → Am.Heap → Prop) : extCall env 10 args H K = fiRun 2 pow10Tab args H K := by kernel_rfl

theorem sp_Format (hB : GL B) (h : Sat B H L) {n : Int} (h0 : -9223372036854775808 ≤ n) (h1 : n ≤ 9223372036854775807) (k : K (.str (strOf (itoa n))) H) : extCall env 10 [.int .i64 n, .int .i64 10] H K := by
  rw [ext_fi]
  obtain ⟨e, he⟩ := hB.t
  exact ⟨⟨h0, h1, by decide⟩, ⟨e, true, (h.ro _ _ he).1⟩, k⟩

theorem sp_Parse (hB : GL B) (h : Sat B H L) (hs : bs.length ≤ 281474976710656) (k1 : ∀ v, parseIntB 64 bs = .ok v → K (.tuple [.int .i64 v, .nilIface]) H) (k2 : (∀ v, parseIntB 64 bs ≠ .ok v) → ∀ v t, K (.tuple [.int .i64 v, .iface t .hole]) H) :
    extCall env 9 [.str (strOf bs), .int .i64 10, .int .i64 64] H K := by
  rw [ext_pi]
  obtain ⟨e1, t1, cs1, he1⟩ := hB.s
  obtain ⟨e2, t2, cs2, he2⟩ := hB.r
  refine ⟨by rw [strOf_size]; exact hs, ⟨by decide, by decide⟩, ⟨e1, t1, cs1, true, (h.ro _ _ he1).1⟩, ⟨e2, t2, cs2, true, (h.ro _ _ he2).1⟩, ?_⟩
  have e : (strOf bs).data.toList = bs := by simp [strOf]
  rw [e]
  rcases hp : parseIntB 64 bs with v | _ | _
  · exact k1 v hp
  · exact fun v t => k2 (fun v' => by rw [hp]; nofun) v t
  · exact fun v t => k2 (fun v' => by rw [hp]; nofun) v t

theorem sp_Number (hB : GL B) (h : Sat B H L) (hs : bs.length ≤ 281474976710656)
    (k1 : ∀ v, parseIntB 64 bs = .ok v → -9223372036854775808 ≤ v → v ≤ 9223372036854775807 → K (.tuple [.int .i64 v, .bool (decide (itoa v = bs))]) H)
    (k2 : (∀ v, parseIntB 64 bs ≠ .ok v) → ∀ v, K (.tuple [.int .i64 v, .bool false]) H) :
    Am.Rec.call (Am.Run env) 6 [.str (strOf bs)] H K := by
  rw [eq6]
  refine sp_Parse hB h hs (fun v hv => ?_) (fun hn v t => ?_)
  · have hb := parseIntB_bounds hv
    have b1 : -9223372036854775808 ≤ v := by have := hb.1; omega
    have b2 : v ≤ 9223372036854775807 := by have := hb.2; omega
    simp only [isTuple_tuple, vals_tuple, nthV_zero, nthV_one, isK_int, getInt_int, V.isK, V.isNilIface, List.length_cons, List.length_nil, Nat.reduceAdd, decide_true, Bool.and_self, Bool.or_false, req_true, br_true]
    refine sp_Format hB h b1 b2 ?_
    simp only [isK_str, V.isK, getStr_str, req_true, strEq_of]
    exact k1 v hv b1 b2
  · simp only [isTuple_tuple, vals_tuple, nthV_zero, nthV_one, isK_int, getInt_int, V.isK, V.isNilIface, List.length_cons, List.length_nil, Nat.reduceAdd, decide_true, Bool.and_self, Bool.or_false, req_true, br_false]
    exact k2 hn v

theorem litU (h : Sat B H L) {x : Int} {c : UInt8} (hx : x = (c.toNat : Int)) : Sat B (H.alloc (.cells 5 [V.int .u8 x] false)) (BY (some (H.next, 0)) 1 [c] :: L) := by
  subst hx
  exact h.newBuf rfl (bcells_one [c]) (Nat.le_refl _) (by simp) rfl

theorem sp_digits : ∀ (n : Nat), n < 18446744073709551616 → ∀ {H : Am.Heap} {K : V → Am.Heap → Prop}, Sat B H L → (∀ H', Sat B H' L → K (.str (strOf (decDigits n))) H') →
    Am.Rec.call (Am.Run env) 8 [.int .u64 (n : Int)] H K := by
  intro n
  induction n using Nat.strongRecOn with
  | _ n ih =>
    intro hn H K h k
    rw [eq8]
    by_cases hs : n < 10
    · have d1 : (n : Int) < 10 := by omega
      have e1 : IntKind.u64.wrap (48 + (n : Int)) = ((48 + n : Nat) : Int) := by rw [IntWalk.u64_in _ (by omega)]; omega
      have e2 : IntKind.u8.wrap ((48 + n : Nat) : Int) = ((UInt8.ofNat (48 + n)).toNat : Int) := by rw [wrap8, ofNat_dig hs, Nat.mod_eq_of_lt (by omega)]
      simp only [d1, decide_true, br_true, e1, e2]
      have h1 := litU h (c := UInt8.ofNat (48 + n)) rfl
      have s1 : strOk (H.alloc (.cells 5 [V.int .u8 ((UInt8.ofNat (48 + n)).toNat : Int)] false)) (some (H.next, 0)) 1 = true := h1.bytRd.strOk
      have s2 : strAt (H.alloc (.cells 5 [V.int .u8 ((UInt8.ofNat (48 + n)).toNat : Int)] false)) (some (H.next, 0)) 1 = strOf [UInt8.ofNat (48 + n)] := h1.bytRd.strAt
      rw [s1, s2, req_true, ← dig_small hs]
      exact k _ h1.drop
    · have d1 : ¬ (n : Int) < 10 := by omega
      have e1 : IntKind.u64.wrap (Int.tdiv (n : Int) 10) = ((n / 10 : Nat) : Int) := by
        rw [Int.tdiv_eq_ediv_of_nonneg (by omega), IntWalk.u64_in _ (by omega)]
        omega
      have e2 : Int.tmod (n : Int) 10 = ((n % 10 : Nat) : Int) := by rw [Int.tmod_eq_emod_of_nonneg (by omega)]; omega
      simp only [d1, decide_false, br_false, e1, e2]
      refine ih (n / 10) (by omega) (by omega) h (fun H1 h1 => ?_)
      simp only [isK_str, getStr_str, req_true]
      refine ih (n % 10) (by omega) (by omega) h1 (fun H2 h2 => ?_)
      have l1 := dig_len 20 (n / 10) (by omega) (by omega)
      have l2 := dig_len 20 (n % 10) (by omega) (by omega)
      simp only [isK_str, getStr_str, req_true, joinOk_of (show (decDigits (n / 10)).length + (decDigits (n % 10)).length ≤ 1000000000 by omega), join_of]
      have e3 : decDigits (n / 10) ++ decDigits (n % 10) = decDigits n := by rw [dig_big hs, dig_small (u := n % 10) (by omega)]
      rw [e3]
      exact k H2 h2

theorem sp_Num (h : Sat B H L) {n : Int} (h0 : -9223372036854775808 ≤ n) (h1 : n ≤ 9223372036854775807) (k : ∀ H', Sat B H' L → K (.str (strOf (itoa n))) H') :
    Am.Rec.call (Am.Run env) 5 [.int .i64 n] H K := by
  rw [eq5]
  by_cases hn : n < 0
  · have e1 : IntKind.i64.wrap (n + 1) = n + 1 := wrap_in (by omega) (by omega)
    have e2 : IntKind.i64.wrap (0 - (n + 1)) = 0 - (n + 1) := wrap_in (by omega) (by omega)
    have e3 : IntKind.u64.wrap (0 - (n + 1)) = 0 - (n + 1) := IntWalk.u64_in _ (by omega)
    have e4 : IntKind.u64.wrap (0 - (n + 1) + 1) = ((n.natAbs : Nat) : Int) := by rw [IntWalk.u64_in _ (by omega)]; omega
    simp only [hn, decide_true, br_true, e1, e2, e3, e4]
    refine sp_digits n.natAbs (by omega) h (fun H' h' => ?_)
    have l1 := dig_len 20 n.natAbs (by omega) (by omega)
    simp only [isK_str, getStr_str, req_true]
    rw [joinOk_of (by simp; omega), req_true, join_of]
    have e : ([45] ++ decDigits n.natAbs : List UInt8) = itoa n := by unfold itoa; rw [if_pos hn]; rfl
    rw [e]
    exact k H' h'
  · have e1 : IntKind.u64.wrap n = ((n.toNat : Nat) : Int) := by rw [IntWalk.u64_in _ (by omega)]; omega
    simp only [hn, decide_false, br_false, e1]
    refine sp_digits n.toNat (by omega) h (fun H' h' => ?_)
    simp only [isK_str, getStr_str, req_true]
    have e : decDigits n.toNat = itoa n := by unfold itoa; rw [if_neg hn]
    rw [e]
    exact k H' h'

/-! ### the laws -/

theorem law_WordTexts (hB : GL B) (h : Sat B H L) (x0 : ByteArray) (l0 : x0.size ≤ 140737488351232) : Am.Rec.call (Am.Run env) 4 [.str x0] H fun v _ => v = .bool true := by
  rw [eq4]
  have e0 : x0 = strOf (bytesOf x0) := (strOf_bytesOf x0).symm
  rw [e0] at l0 ⊢
  rw [strOf_size] at l0
  generalize bytesOf x0 = a at *
  refine sp_Number hB h (by omega) (fun v hv b1 b2 => ?_) (fun hn v => ?_)
  · simp only [isTuple_tuple, vals_tuple, nthV_zero, nthV_one, isK_int, isK_bool, getInt_int, getBool_bool, List.length_cons, List.length_nil, Nat.reduceAdd, decide_true, Bool.and_self, Bool.or_false, req_true]
    by_cases hi : itoa v = a
    · simp only [hi, decide_true, Bool.not_true, br_false]
      refine sp_awake h (fun H1 h1 => ?_)
      simp only [isK_bool, getBool_bool, req_true, br_true]
      refine sp_Num h1 b1 b2 (fun H2 h2 => ?_)
      simp only [isK_str, getStr_str, req_true, strEq_of, hi, decide_true]
    · simp only [hi, decide_false, Bool.not_false, br_true]
      exact sp_awake h (fun H1 h1 => rfl)
  · simp only [isTuple_tuple, vals_tuple, nthV_zero, nthV_one, isK_int, isK_bool, getInt_int, getBool_bool, List.length_cons, List.length_nil, Nat.reduceAdd, decide_true, Bool.and_self, Bool.or_false, req_true, Bool.not_false, br_true]
    exact sp_awake h (fun H1 h1 => rfl)

theorem law_WordNumbers (hB : GL B) (h : Sat B H L) (x0 : Int) (x1 : Int) (h0 : -9223372036854775808 ≤ x0) (h1 : x0 ≤ 9223372036854775807) (g0 : 0 ≤ x1) (g1 : x1 ≤ 255) :
    Am.Rec.call (Am.Run env) 3 [.int .i64 x0, .int .u8 x1] H fun v _ => v = .bool true := by
  rw [eq3]
  obtain ⟨c, hc⟩ : ∃ c : UInt8, x1 = (c.toNat : Int) := ⟨UInt8.ofNat x1.toNat, by rw [UInt8.toNat_ofNat']; omega⟩
  obtain ⟨hl1, hl2⟩ := itoa_len h0 h1
  refine sp_Num h h0 h1 (fun H1 hs1 => ?_)
  simp only [isK_str, getStr_str, req_true]
  generalize hS : itoa x0 = s at hl1 hl2 ⊢
  refine sp_Number hB hs1 (by omega) (fun v hv b1 b2 => ?_) (fun hn v => absurd (hS ▸ parse_itoa h0 h1) (hn x0))
  obtain rfl : v = x0 := by
    have := parse_itoa h0 h1
    rw [hS, hv] at this
    cases this
    rfl
  simp only [isTuple_tuple, vals_tuple, nthV_zero, nthV_one, isK_int, isK_bool, getInt_int, getBool_bool, List.length_cons, List.length_nil, Nat.reduceAdd, decide_true, Bool.and_self, Bool.or_false, req_true, hS]
  have h2 := litU hs1 hc
  have s1 : strOk (H1.alloc (.cells 5 [V.int .u8 x1] false)) (some (H1.next, 0)) 1 = true := h2.bytRd.strOk
  have s2 : strAt (H1.alloc (.cells 5 [V.int .u8 x1] false)) (some (H1.next, 0)) 1 = strOf [c] := h2.bytRd.strAt
  rw [s1, s2, joinOk_of (by simp; omega), join_of, req_true, req_true]
  -- the second number
  have rest : ∀ (k : Int) (is : Bool) (H2 : Am.Heap), Sat B H2 (BY (some (H1.next, 0)) 1 [c] :: L) → (is = true → itoa k = s ++ [c] ∧ -9223372036854775808 ≤ k ∧ k ≤ 9223372036854775807) →
      req (joinOk (strOf [48]) (strOf s)) (Am.Rec.call (Am.Run env) 6 [.str (joinS (strOf [48]) (strOf s))] H2 fun v_3 H'_2 =>
        req (V.isTuple 2 v_3 && (V.isK (.int .i64) (nthV (V.vals v_3) 0) && (V.isK .bool (nthV (V.vals v_3) 1) || false)))
        (Am.Rec.call (Am.Run env) 7 [] H'_2 fun v_4 H'_3 =>
          req (V.isK .bool v_4) (br (bif !!V.getBool v_4 then bif !!true then bif !!decide (v = v) then V.getBool (nthV (V.vals v_3) 1) else true else true else true)
            (V.bool false = V.bool true)
            (br (!!is) (Am.Rec.call (Am.Run env) 5 [.int .i64 k] H'_3 fun v_5 H'_4 => req (V.isK .str v_5) (V.bool (strEq (V.getStr v_5) (strOf (s ++ [c]))) = V.bool true)) (V.bool true = V.bool true))))) := by
    intro k is H2 h2 his
    rw [joinOk_of (by simp; omega), join_of, req_true]
    have fin : ∀ w : Int, req (V.isTuple 2 (.tuple [.int .i64 w, .bool false]) && (V.isK (.int .i64) (nthV (V.vals (.tuple [.int .i64 w, .bool false])) 0) && (V.isK .bool (nthV (V.vals (.tuple [.int .i64 w, .bool false])) 1) || false)))
        (Am.Rec.call (Am.Run env) 7 [] H2 fun v_4 H'_3 =>
          req (V.isK .bool v_4) (br (bif !!V.getBool v_4 then bif !!true then bif !!decide (v = v) then V.getBool (nthV (V.vals (.tuple [.int .i64 w, .bool false])) 1) else true else true else true)
            (V.bool false = V.bool true)
            (br (!!is) (Am.Rec.call (Am.Run env) 5 [.int .i64 k] H'_3 fun v_5 H'_4 => req (V.isK .str v_5) (V.bool (strEq (V.getStr v_5) (strOf (s ++ [c]))) = V.bool true)) (V.bool true = V.bool true)))) := by
      intro w
      simp only [isTuple_tuple, vals_tuple, nthV_zero, nthV_one, isK_int, isK_bool, getInt_int, getBool_bool, List.length_cons, List.length_nil, Nat.reduceAdd, decide_true, Bool.and_self, Bool.or_false, req_true]
      refine sp_awake h2 (fun H3 h3 => ?_)
      simp only [isK_bool, getBool_bool, req_true, Bool.not_true, Bool.not_false, cond_true, br_false]
      cases is with
      | false => simp only [Bool.not_false, Bool.not_true, br_false]
      | true =>
        obtain ⟨e, k1, k2⟩ := his rfl
        simp only [Bool.not_true, Bool.not_false, br_true]
        refine sp_Num h3 k1 k2 (fun H4 h4 => ?_)
        simp only [isK_str, getStr_str, req_true, strEq_of, e, decide_true]
    refine sp_Number hB h2 (by simp; omega) (fun w hw _ _ => ?_) (fun _ w => fin w)
    have : ¬ (itoa w = [48] ++ s) := fun e => by
      have := itoa_nought (s := s) e
      rw [this] at hl1
      simp at hl1
    rw [decide_eq_false this]
    exact fin w
  refine sp_Number hB h2 (by simp; omega) (fun k hk k1 k2 => ?_) (fun _ k => ?_)
  · simp only [isTuple_tuple, vals_tuple, nthV_zero, nthV_one, isK_int, isK_bool, getInt_int, getBool_bool, List.length_cons, List.length_nil, Nat.reduceAdd, decide_true, Bool.and_self, Bool.or_false, req_true]
    have := rest k (decide (itoa k = s ++ [c])) _ h2 (fun hd => ⟨of_decide_eq_true hd, k1, k2⟩)
    simp only [Bool.or_false] at this
    exact this
  · simp only [isTuple_tuple, vals_tuple, nthV_zero, nthV_one, isK_int, isK_bool, getInt_int, getBool_bool, List.length_cons, List.length_nil, Nat.reduceAdd, decide_true, Bool.and_self, Bool.or_false, req_true]
    have := rest k false _ h2 nofun
    simp only [Bool.or_false] at this
    exact this

end

end Go.Proofs.YtibkggbidojocaaDoor
