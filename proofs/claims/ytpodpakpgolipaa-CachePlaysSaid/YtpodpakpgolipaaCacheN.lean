/- The law CachePlays of layer 11. -/
import Derived.Test.YtpodpakpgolipaaCacheM
import Derived.Test.YtpodpakpgolipaaEqs11b
namespace Go.Proofs.Ytpodpakpgolipaa
open Go.Am
set_option maxRecDepth 100000
set_option linter.unusedSimpArgs false
set_option linter.unusedVariables false
set_option linter.unusedSectionVars false

/-- A step of the script. -/
structure Stp where
  kd : Int
  r : Rp
  near : Bool

def Stp.cs (a : Stp) : List V := c58 a.kd a.r.p.addr a.r.q a.r.p.data.length a.r.c a.r.p.hole a.near

structure Stp.ok (B : Am.Heap) (a : Stp) : Prop where
  kd : 0 ≤ a.kd ∧ a.kd ≤ 255
  ad : -9223372036854775808 ≤ a.r.p.addr ∧ a.r.p.addr ≤ 9223372036854775807
  rd : RdB B a.r.q a.r.p.data

theorem u8_range {y : Int} (h : IntKind.u8.min ≤ y ∧ y ≤ IntKind.u8.max) : 0 ≤ y ∧ y ≤ 255 := by
  simpa [IntKind.min, IntKind.max, IntKind.bits, IntKind.signed] using h
theorem i64_range {y : Int} (h : IntKind.i64.min ≤ y ∧ y ≤ IntKind.i64.max) : -9223372036854775808 ≤ y ∧ y ≤ 9223372036854775807 := by
  simpa [IntKind.min, IntKind.max, IntKind.bits, IntKind.signed] using h
theorem cells_int : env.P.cellsOf 3 = 1 := by kernel_rfl
theorem cells_bool : env.P.cellsOf 4 = 1 := by kernel_rfl
theorem cells_bytes : env.P.cellsOf 31 = 1 := by kernel_rfl
theorem cells_Page : env.P.cellsOf 42 = 3 := by kernel_rfl
theorem cells_Act : env.P.cellsOf 59 = 5 := by kernel_rfl

theorem page_of {H : Am.Heap} {n : Nat} {cs : List V} (h : tyC env.P H n 42 cs) : ∃ r : Rp, cs = r.cs ∧ (-9223372036854775808 ≤ r.p.addr ∧ r.p.addr ≤ 9223372036854775807) ∧ RdB H r.q r.p.data := by
  obtain ⟨hl, m, hf⟩ := ty_struct (P := env.P) Try.underlying42 h
  rw [cells_Page] at hl
  match cs, hl with
  | [a0, a1, a2], _ =>
    simp only [List.forall_mem_cons, cells_bool, cells_int, cells_bytes, List.drop_succ_cons, List.drop_zero, List.take_succ_cons, List.take_zero] at hf
    obtain ⟨h0, h1, h2, _⟩ := hf
    obtain ⟨y0, rfl, r0⟩ := ty_int (P := env.P) Try.underlying3 h0
    obtain ⟨q, len, cap, rfl, hs⟩ := ty_slice (P := env.P) Try.underlying31 (Nat.le_of_ble_eq_true (by kernel_rfl)) h1
    obtain ⟨y2, rfl⟩ := ty_bool (P := env.P) Try.underlying4 h2
    obtain ⟨bs, rfl, hr, _, _⟩ := bytes_in el_u8 cells_u8 hs
    exact ⟨⟨⟨y0, bs, y2⟩, q, cap⟩, rfl, i64_range r0, hr⟩

theorem stp_of {H : Am.Heap} {n : Nat} {cs : List V} (h : tyC env.P H n 59 cs) : ∃ a : Stp, cs = a.cs ∧ a.ok H := by
  obtain ⟨hl, m, hf⟩ := ty_struct (P := env.P) Try.underlying59 h
  rw [cells_Act] at hl
  match cs, hl with
  | [a0, a1, a2, a3, a4], _ =>
    simp only [List.forall_mem_cons, cells_u8, cells_bool, cells_Page, List.drop_succ_cons, List.drop_zero, List.take_succ_cons, List.take_zero] at hf
    obtain ⟨h0, h1, h2, _⟩ := hf
    obtain ⟨y0, rfl, r0⟩ := ty_int (P := env.P) Try.underlying5 h0
    obtain ⟨r, hr, hr1, hr2⟩ := page_of h1
    obtain ⟨y2, rfl⟩ := ty_bool (P := env.P) Try.underlying4 h2
    unfold Rp.cs c41 at hr
    simp only [List.cons.injEq, and_true] at hr
    obtain ⟨rfl, rfl, rfl⟩ := hr
    exact ⟨⟨y0, r, y2⟩, rfl, u8_range r0, hr1, hr2⟩

theorem script_in {H : Am.Heap} {q : Option (Nat × Nat)} {len cap : Nat} (h : SlTy env.P H 59 q len cap) : ∃ sc : List Stp, sc.length = len ∧ Rd H q (sc.map Stp.cs).flatten ∧ ∀ a ∈ sc, a.ok H := by
  obtain ⟨css, m, h1, h2, h3, _, _⟩ := rows_in cells_Act h
  have key : ∀ css : List (List V), (∀ c ∈ css, c.length = 5 ∧ tyC env.P H m 59 c) → ∃ sc : List Stp, sc.map Stp.cs = css ∧ ∀ a ∈ sc, a.ok H := by
    intro css
    induction css with
    | nil => exact fun _ => ⟨[], rfl, fun a h => by cases h⟩
    | cons c css ih =>
      intro h
      obtain ⟨sc, e1, e2⟩ := ih (fun x hx => h x (List.mem_cons_of_mem _ hx))
      obtain ⟨a, e3, e4⟩ := stp_of (h c (List.mem_cons_self ..)).2
      refine ⟨a :: sc, by rw [List.map_cons, e1, e3], fun x hx => ?_⟩
      rcases List.mem_cons.1 hx with rfl | hx
      · exact e4
      · exact e2 x hx
  obtain ⟨sc, e1, e2⟩ := key css h3
  exact ⟨sc, by rw [← h1, ← e1, List.length_map], by rw [e1]; exact h2, e2⟩

theorem posP_iff {ps : List Pg} {a : Int} {i : Nat} (hi : i < ps.length) (h : i ≤ posP ps a) : (ps[i]).addr < a ↔ i < posP ps a := by
  constructor
  · intro hlt
    rcases Nat.lt_or_ge i (posP ps a) with h' | h'
    · exact h'
    · exfalso
      have he : posP ps a = i := by omega
      have key : ∀ (ps : List Pg) (h : posP ps a < ps.length), ¬ (ps[posP ps a]).addr < a := by
        intro ps
        induction ps with
        | nil => intro h; simp at h
        | cons p l ih =>
          intro h
          by_cases hp : p.addr < a
          · have e : posP (p :: l) a = posP l a + 1 := by rw [posP, if_pos hp]
            simp only [e, List.getElem_cons_succ]
            exact ih (by rw [e] at h; simpa using h)
          · have e : posP (p :: l) a = 0 := by rw [posP, if_neg hp]
            simp only [e, List.getElem_cons_zero]
            exact hp
      subst he
      exact key ps hi hlt
  · exact posP_lt hi

section
variable {B : Am.Heap} {L : List Ast} {H : Am.Heap} {K : V → Am.Heap → Prop}

theorem read_stp {q : Option (Nat × Nat)} {sc : List Stp} (hr : Rd H q (sc.map Stp.cs).flatten) {i : Nat} (hi : i < sc.length) :
    q.isSome = true ∧ H.inb (q.getD (0, 0)).1 ((q.getD (0, 0)).2 + i * 5) 1 = true ∧ H.cell (q.getD (0, 0)).1 ((q.getD (0, 0)).2 + i * 5) = .int .u8 sc[i].kd ∧
    H.inb (q.getD (0, 0)).1 ((q.getD (0, 0)).2 + i * 5 + 1) 3 = true ∧ H.sub (q.getD (0, 0)).1 ((q.getD (0, 0)).2 + i * 5 + 1) 3 = sc[i].r.cs ∧
    H.inb (q.getD (0, 0)).1 ((q.getD (0, 0)).2 + i * 5 + 4) 1 = true ∧ H.cell (q.getD (0, 0)).1 ((q.getD (0, 0)).2 + i * 5 + 4) = .bool sc[i].near := by
  have hu : Uni 5 (sc.map Stp.cs) := by
    intro c hc
    obtain ⟨a, _, rfl⟩ := List.mem_map.1 hc
    exact ⟨rfl, fits_one (f58 _ _ _ _ _ _ _)⟩
  have hlen : (sc.map Stp.cs).flatten.length = sc.length * 5 := by rw [flat_len hu, List.length_map]
  have hle : i * 5 + 5 ≤ sc.length * 5 := by
    have := Nat.mul_le_mul_right 5 (show i + 1 ≤ sc.length by omega)
    omega
  have hne : (sc.map Stp.cs).flatten ≠ [] := by
    intro e; rw [e] at hlen; simp at hlen; omega
  have hat : ((sc.map Stp.cs).flatten.drop (i * 5)).take 5 = sc[i].cs := by
    rw [flat_at hu (by simpa using hi)]; simp
  have hd : ∀ k n, k + n ≤ 5 → ((sc.map Stp.cs).flatten.drop (i * 5 + k)).take n = (sc[i].cs.drop k).take n := by
    intro k n hk
    rw [← hat, List.drop_take, List.take_take, List.drop_drop, Nat.min_eq_left (by omega)]
  have hn : ∀ k, k < 5 → Am.nthV (sc.map Stp.cs).flatten (i * 5 + k) = Am.nthV sc[i].cs k := by
    intro k hk
    have := hd k 1 (by omega)
    rw [nthV_getD, nthV_getD]
    have h1 := congrArg (fun l => l.getD 0 V.none) this
    simpa [List.getD_eq_getElem?_getD, List.getElem?_take, List.getElem?_drop] using h1
  have hs : ∀ k n, k + n ≤ 5 → H.sub (q.getD (0, 0)).1 ((q.getD (0, 0)).2 + (i * 5 + k)) n = (sc[i].cs.drop k).take n := by
    intro k n hk
    rw [hr.sub (by omega) hne, hd k n hk]
  refine ⟨hr.some hne, hr.inb (by omega) hne, ?_, ?_, ?_, ?_, ?_⟩
  · rw [hr.cell (by omega)]; exact hn 0 (by omega)
  · have := hr.inb (i := i * 5 + 1) (k := 3) (by omega) hne; rwa [← Nat.add_assoc] at this
  · have := hs 1 3 (by omega); rw [← Nat.add_assoc] at this; rw [this]; rfl
  · have := hr.inb (i := i * 5 + 4) (k := 1) (by omega) hne; rwa [← Nat.add_assoc] at this
  · have := hr.cell (i := i * 5 + 4) (by omega); rw [← Nat.add_assoc] at this; rw [this]; exact hn 4 (by omega)

theorem cell_page {q : Option (Nat × Nat)} {rs : List Rp} (hr : Rd H q (rs.map Rp.cs).flatten) {i : Nat} (hi : i < rs.length) :
    H.inb (q.getD (0, 0)).1 ((q.getD (0, 0)).2 + i * 3) 1 = true ∧ H.cell (q.getD (0, 0)).1 ((q.getD (0, 0)).2 + i * 3) = .int .i64 rs[i].p.addr := by
  have hu := (raw_fit rs).uni
  have hlen : (rs.map Rp.cs).flatten.length = rs.length * 3 := by rw [flat_len hu, List.length_map]
  have hle : i * 3 + 3 ≤ rs.length * 3 := by
    have := Nat.mul_le_mul_right 3 (show i + 1 ≤ rs.length by omega)
    omega
  have hne : (rs.map Rp.cs).flatten ≠ [] := by
    intro e; rw [e] at hlen; simp at hlen; omega
  refine ⟨hr.inb (by omega) hne, ?_⟩
  rw [hr.cell (by omega)]
  have hat : ((rs.map Rp.cs).flatten.drop (i * 3)).take 3 = rs[i].cs := by
    rw [flat_at hu (by simpa using hi)]; simp
  rw [nthV_getD]
  have h1 := congrArg (fun l => l.getD 0 V.none) hat
  simp only [List.getD_eq_getElem?_getD, List.getElem?_take, List.getElem?_drop] at h1 ⊢
  simp only [Nat.add_zero, if_pos (show 0 < 3 by omega)] at h1
  rw [h1]; rfl

/-- The place that is looked for in the list. -/
def atI (ps : List Pg) (a : Int) (i : Nat) : Nat := if posP ps a < i then posP ps a else ps.length
def thereI (ps : List Pg) (a : Int) (i : Nat) : Bool := hasP (ps.take i) a

theorem lp_find {id : Nat} {q4 : Option (Nat × Nat)} {c4 : Nat} {ls : List Rp} (hb : ls.length ≤ 8) (r : Rp) {x0q : Option (Nat × Nat)} {x0n x0c : Nat} {x5 : Int} {Kr : Am.St → Prop} {Ke : Nat → Am.St → Prop}
    (hrd : Rd H q4 (ls.map Rp.cs).flatten) : ∀ (n i : Nat), i + n = ls.length →
    Am.Rec.loop (Am.Run env) (Am.loopAt env 11 17) 11 17
      (St.mk (Am.look [(0, T.v (V.slice x0q x0n x0c)), (3, T.v (V.ptr (some (id, 0)))), (4, T.v (V.slice q4 ls.length c4)), (5, T.v (V.int .i64 x5)), (6, T.lp 6 0),
        (7, T.v (V.int .i64 (atI (ls.map Rp.p) r.p.addr i : Nat))), (8, T.v (V.bool (thereI (ls.map Rp.p) r.p.addr i))), (9, T.v (V.int .i64 (i : Int)))]) (Am.look [(6, Loc.cells 42 r.cs)]) H) Kr Ke =
    Ke 2 (St.mk (Am.look [(0, T.v (V.slice x0q x0n x0c)), (3, T.v (V.ptr (some (id, 0)))), (4, T.v (V.slice q4 ls.length c4)), (5, T.v (V.int .i64 x5)), (6, T.lp 6 0),
        (7, T.v (V.int .i64 (posP (ls.map Rp.p) r.p.addr : Nat))), (8, T.v (V.bool (hasP (ls.map Rp.p) r.p.addr)))]) (Am.look [(6, Loc.cells 42 r.cs)]) H)
  | 0, i, hi => by
    obtain rfl : i = ls.length := by omega
    unfold Rp.cs
    rw [lp11_17]
    have e1 : ¬ (ls.length : Int) < (ls.length : Int) := by omega
    rw [decide_eq_false e1, br_false]
    have hle := posP_le (ls.map Rp.p) r.p.addr
    have hl : (ls.map Rp.p).length = ls.length := List.length_map _
    have e2 : atI (ls.map Rp.p) r.p.addr ls.length = posP (ls.map Rp.p) r.p.addr := by
      unfold atI
      split
      · rfl
      · omega
    have e3 : thereI (ls.map Rp.p) r.p.addr ls.length = hasP (ls.map Rp.p) r.p.addr := by unfold thereI; rw [List.take_of_length_le (by omega)]
    rw [e2, e3]
  | n + 1, i, hi => by
    have hlt : i < ls.length := by omega
    have hl : (ls.map Rp.p).length = ls.length := List.length_map _
    obtain ⟨s1, s2, s3⟩ := read_page hrd hlt
    obtain ⟨i1, v1⟩ := cell_page hrd hlt
    have e1 : (i : Int) < (ls.length : Int) := by omega
    have e2 : 0 ≤ (i : Int) := by omega
    have hth : thereI (ls.map Rp.p) r.p.addr (i + 1) = (thereI (ls.map Rp.p) r.p.addr i || decide (ls[i].p.addr = r.p.addr)) := by
      unfold thereI hasP
      rw [List.take_succ_eq_append_getElem (by omega), List.any_append]
      simp
    have hat : atI (ls.map Rp.p) r.p.addr (i + 1) = if ls[i].p.addr ≥ r.p.addr ∧ i < atI (ls.map Rp.p) r.p.addr i then i else atI (ls.map Rp.p) r.p.addr i := by
      unfold atI
      rw [hl]
      by_cases h1 : posP (ls.map Rp.p) r.p.addr < i
      · have : posP (ls.map Rp.p) r.p.addr < i + 1 := by omega
        rw [if_pos h1, if_pos this, if_neg (by omega)]
      · have hif := posP_iff (ps := ls.map Rp.p) (a := r.p.addr) (i := i) (by omega) (by omega)
        rw [List.getElem_map] at hif
        rw [if_neg h1]
        by_cases h2 : ls[i].p.addr < r.p.addr
        · have := hif.1 h2
          rw [if_neg (by omega), if_neg (by omega)]
        · have : ¬ i < posP (ls.map Rp.p) r.p.addr := fun h => h2 (hif.2 h)
          have : posP (ls.map Rp.p) r.p.addr = i := by omega
          rw [if_pos (by omega), if_pos ⟨by omega, hlt⟩, this]
    have hatle : atI (ls.map Rp.p) r.p.addr i ≤ 8 := by
      have := posP_le (ls.map Rp.p) r.p.addr
      unfold atI; split <;> omega
    conv => lhs; unfold Rp.cs
    rw [lp11_17]
    simp only [e1, e2, s1, i1, v1, Int.toNat_natCast, decide_true, br_true, Bool.and_self, req_true, isK_int, getInt_int, joinP_eq]
    rw [wrap_succ (by omega)]
    have hgo := lp_find hb r (x0q := x0q) (x0n := x0n) (x0c := x0c) (x5 := x5) (id := id) (c4 := c4) (Kr := Kr) (Ke := Ke) hrd n (i + 1) (by omega)
    rw [hth, hat] at hgo
    unfold Rp.cs at hgo ⊢
    by_cases ha : ls[i].p.addr = r.p.addr
    · rw [decide_eq_true ha, Bool.or_true] at hgo
      by_cases hc : ls[i].p.addr ≥ r.p.addr ∧ i < atI (ls.map Rp.p) r.p.addr i
      · rw [if_pos hc] at hgo
        have c2 : (i : Int) < ((atI (ls.map Rp.p) r.p.addr i : Nat) : Int) := by omega
        simpa [ha, c2, hc.2, v1, i1, joinP_eq, br_true, br_false, req_true, look_cons, look_nil, reduceIte, reduceCtorEq, T_val_v, isKT_k, isKT_agg, isKT_lp, isLK_c, locCells_c, nthV_zero, nthV_one, nthV_two, vals_tuple, aggCells_agg, isAgg_agg, getInt_int, getBool_bool, getStr_str, getPtr_ptr, slPtr_slice, slLen_slice, slCap_slice, isK_int, isK_bool, isK_str, isK_ptr, isK_slice, isTuple_tuple, List.length_cons, List.length_nil, Bool.and_true, Bool.true_and, Bool.or_false, Bool.false_or, Bool.and_self, decide_true, decide_false, Bool.not_true, Bool.not_false, beq_dec, ble_dec, Nat.reduceAdd, Nat.reduceEqDiff, Nat.reduceEqDiff] using hgo
      · rw [if_neg hc] at hgo
        have c2 : ¬ i < atI (ls.map Rp.p) r.p.addr i := fun h => hc ⟨by omega, h⟩
        simpa [ha, c2, v1, i1, joinP_eq, br_true, br_false, req_true, look_cons, look_nil, reduceIte, reduceCtorEq, T_val_v, isKT_k, isKT_agg, isKT_lp, isLK_c, locCells_c, nthV_zero, nthV_one, nthV_two, vals_tuple, aggCells_agg, isAgg_agg, getInt_int, getBool_bool, getStr_str, getPtr_ptr, slPtr_slice, slLen_slice, slCap_slice, isK_int, isK_bool, isK_str, isK_ptr, isK_slice, isTuple_tuple, List.length_cons, List.length_nil, Bool.and_true, Bool.true_and, Bool.or_false, Bool.false_or, Bool.and_self, decide_true, decide_false, Bool.not_true, Bool.not_false, beq_dec, ble_dec, Nat.reduceAdd, Nat.reduceEqDiff, Nat.reduceEqDiff] using hgo
    · rw [decide_eq_false ha, Bool.or_false] at hgo
      by_cases hc : ls[i].p.addr ≥ r.p.addr ∧ i < atI (ls.map Rp.p) r.p.addr i
      · rw [if_pos hc] at hgo
        have c1 : r.p.addr ≤ ls[i].p.addr := hc.1
        simpa [ha, c1, hc.2, v1, i1, joinP_eq, br_true, br_false, req_true, look_cons, look_nil, reduceIte, reduceCtorEq, T_val_v, isKT_k, isKT_agg, isKT_lp, isLK_c, locCells_c, nthV_zero, nthV_one, nthV_two, vals_tuple, aggCells_agg, isAgg_agg, getInt_int, getBool_bool, getStr_str, getPtr_ptr, slPtr_slice, slLen_slice, slCap_slice, isK_int, isK_bool, isK_str, isK_ptr, isK_slice, isTuple_tuple, List.length_cons, List.length_nil, Bool.and_true, Bool.true_and, Bool.or_false, Bool.false_or, Bool.and_self, decide_true, decide_false, Bool.not_true, Bool.not_false, beq_dec, ble_dec, Nat.reduceAdd, Nat.reduceEqDiff, Nat.reduceEqDiff] using hgo
      · rw [if_neg hc] at hgo
        by_cases c1 : r.p.addr ≤ ls[i].p.addr
        · have c2 : ¬ i < atI (ls.map Rp.p) r.p.addr i := fun h => hc ⟨c1, h⟩
          simpa [ha, c1, c2, v1, i1, joinP_eq, br_true, br_false, req_true, look_cons, look_nil, reduceIte, reduceCtorEq, T_val_v, isKT_k, isKT_agg, isKT_lp, isLK_c, locCells_c, nthV_zero, nthV_one, nthV_two, vals_tuple, aggCells_agg, isAgg_agg, getInt_int, getBool_bool, getStr_str, getPtr_ptr, slPtr_slice, slLen_slice, slCap_slice, isK_int, isK_bool, isK_str, isK_ptr, isK_slice, isTuple_tuple, List.length_cons, List.length_nil, Bool.and_true, Bool.true_and, Bool.or_false, Bool.false_or, Bool.and_self, decide_true, decide_false, Bool.not_true, Bool.not_false, beq_dec, ble_dec, Nat.reduceAdd, Nat.reduceEqDiff, Nat.reduceEqDiff] using hgo
        · simpa [ha, c1, v1, i1, joinP_eq, br_true, br_false, req_true, look_cons, look_nil, reduceIte, reduceCtorEq, T_val_v, isKT_k, isKT_agg, isKT_lp, isLK_c, locCells_c, nthV_zero, nthV_one, nthV_two, vals_tuple, aggCells_agg, isAgg_agg, getInt_int, getBool_bool, getStr_str, getPtr_ptr, slPtr_slice, slLen_slice, slCap_slice, isK_int, isK_bool, isK_str, isK_ptr, isK_slice, isTuple_tuple, List.length_cons, List.length_nil, Bool.and_true, Bool.true_and, Bool.or_false, Bool.false_or, Bool.and_self, decide_true, decide_false, Bool.not_true, Bool.not_false, beq_dec, ble_dec, Nat.reduceAdd, Nat.reduceEqDiff, Nat.reduceEqDiff] using hgo

end
end Go.Proofs.Ytpodpakpgolipaa
