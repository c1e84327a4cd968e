/- Rows of elements of several cells each; copies; many pieces in one. -/
import Derived.Test.YtibkggbidojocaaDoorAmByt
namespace Go.Am
set_option linter.unusedSimpArgs false
set_option linter.unusedVariables false
set_option linter.unusedSectionVars false

/-- Elements of n cells each. -/
def Uni (n : Nat) (css : List (List V)) : Prop := ∀ c ∈ css, c.length = n ∧ OneAll c

theorem Uni.nil (n : Nat) : Uni n [] := fun c h => by cases h
theorem Uni.cons {n : Nat} {c : List V} {css : List (List V)} (h1 : c.length = n) (h2 : OneAll c) (h : Uni n css) : Uni n (c :: css) := by
  intro x hx
  rcases List.mem_cons.1 hx with rfl | hx
  · exact ⟨h1, h2⟩
  · exact h x hx
theorem Uni.append {n : Nat} {a b : List (List V)} (h : Uni n a) (k : Uni n b) : Uni n (a ++ b) := by
  intro x hx
  rcases List.mem_append.1 hx with hx | hx
  · exact h x hx
  · exact k x hx
theorem Uni.take {n : Nat} {a : List (List V)} (h : Uni n a) (i : Nat) : Uni n (a.take i) := fun x hx => h x (List.mem_of_mem_take hx)
theorem Uni.drop {n : Nat} {a : List (List V)} (h : Uni n a) (i : Nat) : Uni n (a.drop i) := fun x hx => h x (List.mem_of_mem_drop hx)
theorem Uni.rev {n : Nat} {a : List (List V)} (h : Uni n a) : Uni n a.reverse := fun x hx => h x (List.mem_reverse.1 hx)
theorem Uni.set {n : Nat} {a : List (List V)} (h : Uni n a) {i : Nat} {c : List V} (h1 : c.length = n) (h2 : OneAll c) : Uni n (a.set i c) := by
  intro x hx
  rcases List.mem_or_eq_of_mem_set hx with hx | rfl
  · exact h x hx
  · exact ⟨h1, h2⟩

theorem flat_len {n : Nat} : ∀ {css : List (List V)}, Uni n css → css.flatten.length = css.length * n
  | [], _ => by simp
  | c :: css, h => by
    rw [List.flatten_cons, List.length_append, flat_len (fun x hx => h x (List.mem_cons_of_mem _ hx)), (h c (List.mem_cons_self ..)).1, List.length_cons, Nat.add_mul]
    omega

theorem flat_one {n : Nat} {css : List (List V)} (h : Uni n css) : OneAll css.flatten := by
  intro v hv
  obtain ⟨c, hc, hv⟩ := List.mem_flatten.1 hv
  exact (h c hc).2 v hv

theorem flat_split (css : List (List V)) (i : Nat) : css.flatten = (css.take i).flatten ++ (css.drop i).flatten := by
  rw [← List.flatten_append, List.take_append_drop]

theorem flat_drop {n : Nat} {css : List (List V)} (h : Uni n css) {i : Nat} (hi : i ≤ css.length) : css.flatten.drop (i * n) = (css.drop i).flatten := by
  rw [flat_split css i, List.drop_left' (by rw [flat_len (h.take i), List.length_take, Nat.min_eq_left hi])]

theorem flat_take {n : Nat} {css : List (List V)} (h : Uni n css) {i : Nat} (hi : i ≤ css.length) : css.flatten.take (i * n) = (css.take i).flatten := by
  rw [flat_split css i, List.take_left' (by rw [flat_len (h.take i), List.length_take, Nat.min_eq_left hi])]

/-- One element. -/
theorem flat_at {n : Nat} {css : List (List V)} (h : Uni n css) {i : Nat} (hi : i < css.length) : (css.flatten.drop (i * n)).take n = css[i] := by
  rw [flat_drop h (by omega), List.drop_eq_getElem_cons hi, List.flatten_cons, List.take_left' (h _ (List.getElem_mem hi)).1]

variable {B H : Heap} {L : List Ast} {el n cap len : Nat} {q : Option (Nat × Nat)} {cs : List V} {css : List (List V)}

/-- An owned row of elements. -/
def Rw (el n : Nat) (q : Option (Nat × Nat)) (cap : Nat) (css : List (List V)) : Ast := Buf el n q css.length cap css.flatten

theorem Sat.rwNil (h : Sat B H L) (el n : Nat) : Sat B H (Rw el n none 0 [] :: L) := h.bufNil el n
theorem Sat.rwLe (h : Sat B H (Rw el n q cap css :: L)) : css.length ≤ cap := h.buf.2.2.1
theorem Sat.rwRd (h : Sat B H (Rw el n q cap css :: L)) : Rd H q css.flatten := h.bufRd

/-- An element is read. -/
theorem rd_at (hr : Rd H q css.flatten) (hu : Uni n css) (hn : 0 < n) {i : Nat} (hi : i < css.length) :
    q.isSome = true ∧ H.inb (q.getD (0, 0)).1 ((q.getD (0, 0)).2 + i * n) n = true ∧ H.sub (q.getD (0, 0)).1 ((q.getD (0, 0)).2 + i * n) n = css[i] := by
  have hle : i * n + n ≤ css.flatten.length := by
    rw [flat_len hu]
    have := Nat.mul_le_mul_right n (show i + 1 ≤ css.length by omega)
    rw [Nat.add_mul] at this
    omega
  have hne : css.flatten ≠ [] := by
    intro e
    rw [e] at hle
    simp at hle
    omega
  refine ⟨hr.some hne, hr.inb hle hne, ?_⟩
  rw [hr.sub hle hne, flat_at hu hi]

/-- The block of a row that is not empty. -/
theorem Sat.rwBlk (h : Sat B H (Rw el n q cap css :: L)) (hu : Uni n css) (hc : 0 < cap) : ∃ id off pre post, q = some (id, off) ∧ pre.length = off ∧ (cap - css.length) * n ≤ post.length ∧ Sat B H (blk id el (pre ++ (css.flatten ++ post)) :: L) := by
  obtain ⟨h1, h2, h3, ⟨rfl, hc0, _⟩ | ⟨id, off, l, rfl, h4, h5, h6⟩⟩ := h.buf
  · omega
  · refine ⟨id, off, l.take off, (l.drop off).drop css.flatten.length, rfl, ?_, ?_, ?_⟩
    · rw [List.length_take]; omega
    · rw [List.length_drop, List.length_drop, flat_len hu, Nat.sub_mul]
      omega
    · have e : l = l.take off ++ (css.flatten ++ (l.drop off).drop css.flatten.length) := by
        conv => lhs; rw [← List.take_append_drop off l, ← List.take_append_drop css.flatten.length (l.drop off), h5]
      rw [← e]; exact h6

/-- A block as a row. -/
theorem Sat.blkRw {id : Nat} {pre post : List V} (h : Sat B H (blk id el (pre ++ (css.flatten ++ post)) :: L)) (hu : Uni n css) (hc : css.length ≤ cap) (hp : (cap - css.length) * n ≤ post.length) :
    Sat B H (Rw el n (some (id, pre.length)) cap css :: L) := by
  refine h.unbuf ?_ (flat_one hu) hc ?_ ?_
  · rw [flat_len hu]
  · rw [List.length_append, List.length_append, flat_len hu]
    have : css.length * n + (cap - css.length) * n = cap * n := by rw [← Nat.add_mul]; congr 1; omega
    omega
  · rw [List.drop_left' rfl, List.take_left' rfl]

theorem setMany_mid (a b c vs : List V) (h : b.length = vs.length) : setMany (a ++ (b ++ c)) a.length vs = a ++ (vs ++ c) := by
  rw [setMany_eq _ _ _ (by simp; omega)]
  rw [List.take_left' rfl, ← List.drop_drop, List.drop_left' rfl, List.drop_left' h]

theorem setMany_mid' (a b c vs : List V) (o : Nat) (ho : o = a.length) (h : b.length = vs.length) : setMany (a ++ (b ++ c)) o vs = a ++ (vs ++ c) := by
  subst ho; exact setMany_mid a b c vs h

/-- An element is laid over another. -/
theorem Sat.rwSet (h : Sat B H (Rw el n q cap css :: L)) (hu : Uni n css) {i : Nat} (hi : i < css.length) {c : List V} (h1 : c.length = n) (h2 : OneAll c) :
    H.wr (q.getD (0, 0)).1 ((q.getD (0, 0)).2 + i * n) n = true ∧ Sat B (H.store (q.getD (0, 0)).1 ((q.getD (0, 0)).2 + i * n) c) (Rw el n q cap (css.set i c) :: L) := by
  have hle := h.rwLe
  obtain ⟨id, off, pre, post, rfl, hp, hpo, hs⟩ := h.rwBlk hu (by omega)
  have e : css.flatten = (css.take i).flatten ++ (css[i] ++ (css.drop (i + 1)).flatten) := by
    rw [flat_split css i, List.drop_eq_getElem_cons hi, List.flatten_cons]
  have hlt : ((css.take i).flatten).length = i * n := by rw [flat_len (hu.take i), List.length_take, Nat.min_eq_left (by omega)]
  have hci := (hu _ (List.getElem_mem hi)).1
  have hb : off + i * n + n ≤ (pre ++ (css.flatten ++ post)).length := by
    rw [e]; simp only [List.length_append]; omega
  refine ⟨?_, ?_⟩
  · show H.wr id (off + i * n) n = true
    rw [wr_get hs.get]
    exact Nat.ble_eq_true_of_le hb
  · have hs2 := hs.store (off := off + i * n) (vs := c)
    have e2 : setMany (pre ++ (css.flatten ++ post)) (off + i * n) c = pre ++ ((css.set i c).flatten ++ post) := by
      have e3 : pre ++ (css.flatten ++ post) = (pre ++ (css.take i).flatten) ++ (css[i] ++ ((css.drop (i + 1)).flatten ++ post)) := by rw [e]; simp only [List.append_assoc]
      rw [e3, setMany_mid' _ _ _ _ _ (by rw [List.length_append, hp, hlt]) (by rw [hci, h1])]
      have e4 : css.set i c = css.take i ++ c :: css.drop (i + 1) := by rw [List.set_eq_take_append_cons_drop, if_pos hi]
      rw [e4]
      simp only [List.flatten_append, List.flatten_cons, List.append_assoc]
    rw [e2] at hs2
    subst hp
    exact hs2.blkRw (cap := cap) (hu.set h1 h2) (by rw [List.length_set]; omega) (by rw [List.length_set]; exact hpo)

/-- An element behind a row, out of a block of its own. -/
theorem Sat.rwPush {E : Env} {t u by' : Nat} {z : List V} (h : Sat B H (Rw el n q cap css :: L)) (he : elemOf E t = some (el, n, by', z)) (hu : notInt (kindOf E u) = true) (hz : OneAll z) (hzl : z.length = n) (hn : 0 < n) (hU : Uni n css)
    {e2 : TypeId} {c : List V} (h1 : c.length = n) (h2 : OneAll c) (hbig : (css.length + 1) * (by' + 1) ≤ 70368744177664) {K : Option (Nat × Nat) → Nat → Nat → Heap → Prop}
    (hk : ∀ q' c' H', Sat B H' (Rw el n q' c' (css ++ [c]) :: L) → K q' (css.length + 1) c' H') :
    appendOp E [t, u] [.slice q css.length cap, .slice (some (H.next, 0)) 1 1] (H.alloc (.cells e2 c false)) K := by
  have ha := h.alloc e2 c
  have hr : Rd (H.alloc (.cells e2 c false)) (some (H.next, 0)) c := .inr ⟨_, 0, _, _, _, rfl, ha.get, by rw [List.drop_zero, List.take_length]⟩
  refine ha.drop.append he hu hz hzl hn (m := 1) (src := c) ⟨by rw [h1, Nat.one_mul], h2, .inl ⟨_, _, rfl, hr⟩⟩ hbig (fun q' c' H' h' => hk q' c' H' ?_)
  unfold Rw
  rw [List.length_append, List.flatten_append]
  simpa using h'

/-- Append where there is no room: the old row stays. -/
theorem Sat.appendNew {E : Env} {t u by' : Nat} {z : List V} (h : Sat B H L) (he : elemOf E t = some (el, n, by', z)) (hz : OneAll z) (hzl : z.length = n) (hn : 0 < n)
    (hr : Rd H q cs) (hcs : cs.length = len * n) (hc1 : OneAll cs) {m : Nat} {x : V} {src : List V} {ok : Nat → Bool} {cf : Nat → List V} (h1 : appSrc H n by' z (kindOf E u) x = some (true, m, ok, cf)) (h2 : ok m = true) (h3 : cf m = src)
    (hsl : src.length = m * n) (h1s : OneAll src) (hbig : (len + m) * (by' + 1) ≤ 70368744177664) (hroom : ¬ len + m ≤ cap) {K : Option (Nat × Nat) → Nat → Nat → Heap → Prop}
    (hk : ∀ c' post, len + m ≤ c' → post.length = (c' - (len + m)) * n → Sat B (H.alloc (.cells el (cs ++ (src ++ post)) false)) (blk H.next el (cs ++ (src ++ post)) :: L) → K (some (H.next, 0)) (len + m) c' (H.alloc (.cells el (cs ++ (src ++ post)) false))) :
    appendOp E [t, u] [.slice q len cap, x] H K := by
  simp only [appendOp, he, h1, h3, req_true]
  have hb : Nat.ble (len + m) cap = false := by simp; omega
  have hbig' : Nat.ble ((len + m) * (by' + 1)) 70368744177664 = true := by simpa using hbig
  have hrow : rowOk H n q len = true := by
    by_cases h0 : len = 0
    · subst h0; rfl
    · have hne : cs ≠ [] := by
        intro e
        rw [e] at hcs
        have := Nat.mul_pos (Nat.pos_of_ne_zero h0) hn
        simp at *; omega
      simp only [rowOk, Bool.or_eq_true, Bool.and_eq_true]
      exact .inr ⟨hr.some hne, hr.inb0 (by rw [hcs]; omega) hne, allOne_of (by rw [← hcs, hr.all hne]; exact hc1)⟩
  have hold : (bif Nat.beq len 0 then [] else H.sub (q.getD (0, 0)).1 (q.getD (0, 0)).2 (len * n)) = cs := by
    by_cases h0 : len = 0
    · subst h0
      simp at hcs
      subst hcs
      rfl
    · have hz : Nat.beq len 0 = false := by simp [h0]
      have hne : cs ≠ [] := by
        intro e
        rw [e] at hcs
        have := Nat.mul_pos (Nat.pos_of_ne_zero h0) hn
        simp at *; omega
      simp only [hz, cond_false]
      rw [← hcs, hr.all hne]
  rw [hb, br_false, hrow, h2, hbig', hold]
  simp only [Bool.and_self, req_true]
  intro c hc1 hc2
  exact hk c _ hc1 (by show (repV _ z).length = _; rw [repV_len, hzl]) (h.alloc _ _)

theorem appSrc_z {E : Env} {by' : Nat} {z : List V} {u : TypeId} (hu : kindOf E u = some (.int .i64)) {m : Int} (h0 : 0 ≤ m) (hb : m * (by' + 1) ≤ 70368744177664) :
    appSrc H n by' z (kindOf E u) (.int .i64 m) = some (true, m.toNat, fun _ => true, fun j => rowV j z) := by
  rw [hu]
  show some (decide (0 ≤ m) && decide (m * (by' + 1) ≤ 70368744177664), _) = _
  rw [decide_eq_true h0, decide_eq_true hb]
  rfl

/-- Elements are laid over others. -/
theorem copy_ok {id o k ms c j : Nat} {e : TypeId} {l src : List V} {qs : Option (Nat × Nat)} (hg : H.get id = some (.cells e l false)) (hr : Rd H qs src) (hj : Nat.min ms k = j) (hl : src.length = j * n) (h1 : OneAll src) (hn : 0 < n)
    (hb : o + j * n ≤ l.length) : copyOk H n (some (id, o)) k (.slice qs ms c) = true ∧ copyTo H n (some (id, o)) k (.slice qs ms c) = H.store id o src := by
  unfold copyOk copyTo
  simp only [srcOf, hj]
  by_cases h0 : j = 0
  · subst h0
    have hs : src = [] := by simpa using hl
    subst hs
    refine ⟨by simp [Nat.beq], ?_⟩
    rw [Heap.store_eq hg]
    have e1 : setMany l o [] = l := rfl
    rw [e1, put_same hg]
    rfl
  · have hz : Nat.beq j 0 = false := by simp [h0]
    have hne : src ≠ [] := by
      intro e
      rw [e] at hl
      have := Nat.mul_pos (Nat.pos_of_ne_zero h0) hn
      simp at hl
      omega
    have hrow : rowOk H n qs j = true := by
      simp only [rowOk, Bool.or_eq_true, Bool.and_eq_true]
      exact .inr ⟨hr.some hne, hr.inb0 (by rw [hl]; omega) hne, allOne_of (by rw [← hl, hr.all hne]; exact h1)⟩
    have hw : H.wr id o (j * n) = true := by rw [wr_get hg]; exact Nat.ble_eq_true_of_le hb
    simp only [hz, Bool.false_or, Option.isSome_some, Bool.true_and, Option.getD_some, hrow, hw, cond_false]
    refine ⟨trivial, ?_⟩
    rw [← hl, hr.all hne]

/-- Append in place, of a block that is known. -/
theorem append_in {E : Env} {t u by' : Nat} {z : List V} (he : elemOf E t = some (el, n, by', z)) (hu : notInt (kindOf E u) = true) (hn : 0 < n) {id off m : Nat} {e : TypeId} {l : List V} (hg : H.get id = some (.cells e l false)) {x : V} {src : List V}
    (hx : Src H n x m src) (hroom : len + m ≤ cap) (hb : off + len * n + m * n ≤ l.length) {K : Option (Nat × Nat) → Nat → Nat → Heap → Prop} (hk : K (some (id, off)) (len + m) cap (H.store id (off + len * n) src)) :
    appendOp E [t, u] [.slice (some (id, off)) len cap, x] H K := by
  obtain ⟨ok, cf, h1, h2, h3⟩ := src_spec hx hn
  have h1' : appSrc H n by' z (kindOf E u) x = some (true, m, ok, cf) := by rw [appSrc_not hu, h1]
  have hbl : Nat.ble (len + m) cap = true := by simpa using hroom
  simp only [appendOp, he, h1', h3, req_true, hbl, br_true]
  by_cases hm : m = 0
  · subst hm
    have hs : src = [] := by have := hx.1; simp at this; exact this
    subst hs
    rw [Heap.store_eq hg] at hk
    have e1 : setMany l (off + len * n) [] = l := rfl
    rw [e1, put_same hg] at hk
    simpa [Nat.beq] using hk
  · have hz : Nat.beq m 0 = false := by simp [hm]
    have hw : H.wr id (off + len * n) (m * n) = true := by rw [wr_get hg]; exact Nat.ble_eq_true_of_le hb
    simp only [hz, Bool.false_or, Option.isSome_some, Bool.true_and, h2, Option.getD_some, hw, req_true, cond_false]
    exact hk

theorem perm_out {α : Type _} : ∀ {l : List α} {i : Nat} (h : i < l.length), l.Perm (l[i] :: l.eraseIdx i)
  | x :: l, 0, _ => .refl _
  | x :: l, i + 1, h => ((perm_out (l := l) (Nat.lt_of_succ_lt_succ h)).cons x).trans (.swap ..)

theorem perm_in {α : Type _} (a : α) : ∀ {l : List α} {i : Nat} (h : i < l.length), (a :: l.eraseIdx i).Perm (l.set i a)
  | x :: l, 0, _ => .refl _
  | x :: l, i + 1, h => (List.Perm.swap ..).trans ((perm_in a (l := l) (Nat.lt_of_succ_lt_succ h)).cons x)

theorem isK_int_inv {k : IntKind} {v : V} (h : V.isK (.int k) v = true) : ∃ a, v = .int k a := by
  cases v <;> simp [V.isK] at h
  rename_i k' a
  exact ⟨a, by rw [h]⟩
theorem isK_bool_inv {v : V} (h : V.isK .bool v = true) : ∃ a, v = .bool a := by
  cases v <;> simp [V.isK] at h
  exact ⟨_, rfl⟩
theorem isK_str_inv {v : V} (h : V.isK .str v = true) : ∃ a, v = .str a := by
  cases v <;> simp [V.isK] at h
  exact ⟨_, rfl⟩
theorem isK_ptr_inv {v : V} (h : V.isK .ptr v = true) : ∃ a, v = .ptr a := by
  cases v <;> simp [V.isK] at h
  exact ⟨_, rfl⟩
theorem isK_slice_inv {v : V} (h : V.isK .slice v = true) : ∃ q n c, v = .slice q n c := by
  cases v <;> simp [V.isK] at h
  exact ⟨_, _, _, rfl⟩
theorem fits_cons_inv {k : Kind} {ks : List Kind} {c : List V} (h : fits (k :: ks) c = true) : ∃ v vs, c = v :: vs ∧ v.isK k = true ∧ fits ks vs = true := by
  cases c with
  | nil => cases h
  | cons v vs =>
    simp only [fits, Bool.and_eq_true] at h
    exact ⟨v, vs, rfl, h.1, h.2⟩
theorem fits_nil_inv {c : List V} (h : fits [] c = true) : c = [] := by
  cases c with
  | nil => rfl
  | cons v vs => cases h
/-- Elements of one type. -/
def Fit (ks : List Kind) (css : List (List V)) : Prop := ∀ c ∈ css, fits ks c = true
theorem Fit.uni {ks : List Kind} {css : List (List V)} (h : Fit ks css) : Uni ks.length css := fun c hc => ⟨(fits_len (h c hc)).symm, fits_one (h c hc)⟩

/-- A part of a known block. -/
theorem sub_mid {id : Nat} {e : TypeId} {a b c : List V} {ro : Bool} (hg : H.get id = some (.cells e (a ++ (b ++ c)) ro)) {o m : Nat} (ho : o = a.length) (hm : m = b.length) : H.sub id o m = b := by
  subst ho
  subst hm
  rw [sub_get hg, List.drop_left' rfl, List.take_left' rfl]
theorem inb_mid {id : Nat} {e : TypeId} {a b c : List V} {ro : Bool} (hg : H.get id = some (.cells e (a ++ (b ++ c)) ro)) {o m : Nat} (ho : o = a.length) (hm : m = b.length) : H.inb id o m = true := by
  subst ho
  subst hm
  rw [inb_get hg]
  apply Nat.ble_eq_true_of_le
  simp only [List.length_append]
  omega
theorem wr_mid {id : Nat} {e : TypeId} {a b c : List V} (hg : H.get id = some (.cells e (a ++ (b ++ c)) false)) {o m : Nat} (ho : o = a.length) (hm : m = b.length) : H.wr id o m = true := by
  subst ho
  subst hm
  rw [wr_get hg]
  apply Nat.ble_eq_true_of_le
  simp only [List.length_append]
  omega
theorem rd_mid {id : Nat} {e : TypeId} {a b c : List V} {ro : Bool} (hg : H.get id = some (.cells e (a ++ (b ++ c)) ro)) {o : Nat} (ho : o = a.length) : Rd H (some (id, o)) b := by
  subst ho
  exact .inr ⟨id, _, e, _, ro, rfl, hg, by rw [List.drop_left' rfl, List.take_left' rfl]⟩
theorem Sat.storeMid {id : Nat} {e : TypeId} {a b c vs : List V} (h : Sat B H (blk id e (a ++ (b ++ c)) :: L)) {o : Nat} (ho : o = a.length) (hb : b.length = vs.length) :
    Sat B (H.store id o vs) (blk id e (a ++ (vs ++ c)) :: L) := by
  have := h.store (off := o) (vs := vs)
  rw [setMany_mid' a b c vs o ho hb] at this
  exact this

/-- Cells of an owned row are written over. -/
theorem Sat.bufSet (h : Sat B H (Buf el n q len cap cs :: L)) {i : Nat} {vs : List V} (hi : i + vs.length ≤ cs.length) (h1 : OneAll vs) (h0 : vs ≠ []) :
    H.wr (q.getD (0, 0)).1 ((q.getD (0, 0)).2 + i) vs.length = true ∧ Sat B (H.store (q.getD (0, 0)).1 ((q.getD (0, 0)).2 + i) vs) (Buf el n q len cap (setMany cs i vs) :: L) := by
  have hpos : 0 < vs.length := List.length_pos_iff.2 h0
  obtain ⟨a1, a2, a3, ⟨rfl, hc, _⟩ | ⟨id, off, l, rfl, a4, a5, a6⟩⟩ := h.buf
  · have : len = 0 := by omega
    rw [this, Nat.zero_mul] at a1
    omega
  · have hne : cs ≠ [] := by intro e; rw [e] at hi; simp only [List.length_nil] at hi; omega
    have hll := take_len a5 hne
    refine ⟨?_, ?_⟩
    · show H.wr id (off + i) vs.length = true
      rw [wr_get a6.get]
      have h9 : off + i + vs.length ≤ l.length := by omega
      exact Nat.ble_eq_true_of_le h9
    · have h2 := a6.store (off := off + i) (vs := vs)
      refine h2.unbuf ?_ ?_ a3 ?_ ?_
      · rw [setMany_length, a1]
      · exact setMany_one h1 a2
      · rw [setMany_length]; exact a4
      · rw [setMany_length, setMany_eq vs l (off + i) (by omega), setMany_eq vs cs i hi]
        have e : l = l.take off ++ (cs ++ l.drop (off + cs.length)) := by
          conv => lhs; rw [← List.take_append_drop off l, ← List.take_append_drop cs.length (l.drop off), a5, List.drop_drop]
        have hlo : (l.take off).length = off := by rw [List.length_take]; omega
        generalize l.take off = pre at e hlo
        generalize l.drop (off + cs.length) = post at e
        subst e
        rw [show (pre ++ (cs ++ post)).take (off + i) = pre ++ cs.take i by
          rw [← hlo, List.take_length_add_append, List.take_append_of_le_length (by omega)]]
        rw [show (pre ++ (cs ++ post)).drop (off + i + vs.length) = cs.drop (i + vs.length) ++ post by
          rw [Nat.add_assoc, ← hlo, List.drop_length_add_append, List.drop_append_of_le_length hi]]
        rw [List.append_assoc, ← hlo, List.drop_left' rfl]
        rw [show cs.take i ++ (vs ++ (cs.drop (i + vs.length) ++ post)) = (cs.take i ++ (vs ++ cs.drop (i + vs.length))) ++ post by simp]
        exact List.take_left' (by simp; omega)

theorem setMany_bytes {bs : List UInt8} {i : Nat} (b : UInt8) : setMany (bcells bs) i [V.int .u8 b.toNat] = bcells (bs.set i b) := by
  show setV (bcells bs) 0 i _ = _
  rw [setV_set]
  simp [bcells, List.map_set]

/-- A byte is written over. -/
theorem Sat.bytSet {bs : List UInt8} (h : Sat B H (Byt el q cap bs :: L)) {i : Nat} (hi : i < bs.length) (b : UInt8) :
    H.wr (q.getD (0, 0)).1 ((q.getD (0, 0)).2 + i) 1 = true ∧ Sat B (H.store (q.getD (0, 0)).1 ((q.getD (0, 0)).2 + i) [.int .u8 b.toNat]) (Byt el q cap (bs.set i b) :: L) := by
  obtain ⟨h1, h2⟩ := h.bufSet (i := i) (vs := [V.int .u8 b.toNat]) (by simp; omega) (by intro v hv; rw [List.mem_singleton] at hv; subst hv; rfl) (by simp)
  refine ⟨h1, ?_⟩
  unfold Byt
  rw [List.length_set, ← setMany_bytes]
  exact h2

/-- A part of a row. -/
theorem rd_part {n : Nat} (hr : Rd H q css.flatten) (hu : Uni n css) {i k : Nat} (hi : i + k ≤ css.length) : Rd H (ptrAdd q (i * n)) ((css.drop i).take k).flatten := by
  have e : ((css.drop i).take k).flatten = (css.flatten.drop (i * n)).take (k * n) := by
    rw [flat_drop hu (by omega), flat_take (hu.drop i) (by rw [List.length_drop]; omega)]
  cases q with
  | none =>
    rcases hr with h | ⟨_, _, _, _, _, h, _⟩
    · rw [e, h]; left; simp
    · cases h
  | some q =>
    rw [e]
    refine Rd.part hr (q := some q) (id := q.1) (off := q.2) rfl (i * n) (k * n) ?_
    rw [flat_len hu, ← Nat.add_mul]
    exact Nat.mul_le_mul_right _ hi

/-- A row behind a row. -/
theorem Sat.rwApp {E : Env} {t u by' : Nat} {z : List V} (h : Sat B H (Rw el n q cap css :: L)) (he : elemOf E t = some (el, n, by', z)) (hu : notInt (kindOf E u) = true) (hz : OneAll z) (hzl : z.length = n) (hn : 0 < n)
    {q2 : Option (Nat × Nat)} {c2 : Nat} {css2 : List (List V)} (hr : Rd H q2 css2.flatten) (hU : Uni n css2) (hbig : (css.length + css2.length) * (by' + 1) ≤ 70368744177664) {K : Option (Nat × Nat) → Nat → Nat → Heap → Prop}
    (hk : ∀ q' c' H', Sat B H' (Rw el n q' c' (css ++ css2) :: L) → K q' (css.length + css2.length) c' H') :
    appendOp E [t, u] [.slice q css.length cap, .slice q2 css2.length c2] H K := by
  refine h.append he hu hz hzl hn (m := css2.length) (src := css2.flatten) ⟨flat_len hU, flat_one hU, .inl ⟨_, _, rfl, hr⟩⟩ hbig (fun q' c' H' h' => hk q' c' H' ?_)
  unfold Rw
  rw [List.length_append, List.flatten_append]
  exact h'

/-- Ways that meet, all in such a state. -/
theorem joinP_gen {α : Type} {A : (α → Prop) → Prop} {Q : α → Prop} (P : α → Prop) (hP : ∀ S, P S → Q S) (hA : ∀ Q' : α → Prop, (∀ S, P S → Q' S) → A Q') : joinP A Q := hA Q hP

/-- Two ways that meet. -/
theorem joinP_br {c : Bool} {s1 s2 : St} {Q : St → Prop} (h : ∀ s, (c = true ∧ s = s1) ∨ (c = false ∧ s = s2) → Q s) : joinP (fun Q => br c (Q s1) (Q s2)) Q := by
  show br c (Q s1) (Q s2)
  cases c
  · exact h _ (.inr ⟨rfl, rfl⟩)
  · exact h _ (.inl ⟨rfl, rfl⟩)

/-- Many pieces in one. -/
def bigA (l : List Ast) : Ast := seps l

theorem Sat.bigNil (h : Sat B H L) : Sat B H (bigA [] :: L) := h.unemp
theorem Sat.bigCons {A : Ast} {l : List Ast} (h : Sat B H (A :: bigA l :: L)) : Sat B H (bigA (A :: l) :: L) := h.unstar.imp fun g hg => hg
theorem Sat.unbigCons {A : Ast} {l : List Ast} (h : Sat B H (bigA (A :: l) :: L)) : Sat B H (A :: bigA l :: L) :=
  Sat.star (A := A) (A' := bigA l) (h.imp fun g hg => hg)
theorem Sat.bigPerm {l l' : List Ast} (h : Sat B H (bigA l :: L)) (hp : l.Perm l') : Sat B H (bigA l' :: L) := h.imp fun g hg => seps_perm hp g hg

/-- One of many. -/
theorem Sat.bigOut {l : List Ast} (h : Sat B H (bigA l :: L)) {i : Nat} (hi : i < l.length) : Sat B H (l[i] :: bigA (l.eraseIdx i) :: L) :=
  (h.bigPerm (perm_out hi)).unbigCons

theorem Sat.bigIn {A : Ast} {l : List Ast} {i : Nat} (h : Sat B H (A :: bigA (l.eraseIdx i) :: L)) (hi : i < l.length) : Sat B H (bigA (l.set i A) :: L) := by
  exact h.bigCons.bigPerm (perm_in A hi)

end Go.Am
