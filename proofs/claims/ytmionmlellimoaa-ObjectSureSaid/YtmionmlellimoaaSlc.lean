/- slices.Reverse, rotateLeft, rotateRight, Insert of one, Delete of one, of rows of pages. -/
import Derived.Test.YtmionmlellimoaaEqsC
import Derived.Test.YtmionmlellimoaaAmRow
namespace Go.Proofs.Ytmionmlellimoaa
open Go.Am
set_option maxRecDepth 100000
set_option linter.unusedSimpArgs false
set_option linter.unusedVariables false
set_option linter.unusedSectionVars false

theorem el_page : Am.elemOf env 65 = some (73, 3, 40, c72 0 none 0 0 false) := by kernel_rfl
theorem sl_page : Am.notInt (Am.kindOf env 65) = true := by kernel_rfl
theorem int_int : Am.kindOf env 3 = some (.int .i64) := by kernel_rfl
theorem page_z : OneAll (c72 0 none 0 0 false) := fits_one (f72 0 none 0 0 false)
theorem page_len (a : Int) (q : Option (Nat × Nat)) (n c : Nat) (b : Bool) : (c72 a q n c b).length = 3 := rfl

abbrev PF (css : List (List V)) : Prop := Fit k72 css

theorem page_inv {c : List V} (h : Am.fits k72 c = true) : ∃ a q n cp b, c = c72 a q n cp b := by
  obtain ⟨v1, r1, rfl, h1, h⟩ := fits_cons_inv h
  obtain ⟨v2, r2, rfl, h2, h⟩ := fits_cons_inv h
  obtain ⟨v3, r3, rfl, h3, h⟩ := fits_cons_inv h
  obtain rfl := fits_nil_inv h
  obtain ⟨a, rfl⟩ := isK_int_inv h1
  obtain ⟨q, n, cp, rfl⟩ := isK_slice_inv h2
  obtain ⟨b, rfl⟩ := isK_bool_inv h3
  exact ⟨a, q, n, cp, b, rfl⟩

theorem page_o {c : List V} (h : Am.fits k72 c = true) : o72 c = c := by
  obtain ⟨a, q, n, cp, b, rfl⟩ := page_inv h
  rfl

theorem PF.uni {css : List (List V)} (h : PF css) : Uni 3 css := Fit.uni h

section
variable {B : Am.Heap} {L : List Ast} {H : Am.Heap} {K : V → Am.Heap → Prop} {id o len cap : Nat} {e : TypeId}

theorem lp_Rev {Kr : Am.St → Prop} {Ke : Nat → Am.St → Prop} : ∀ (k : Nat) (mid : List (List V)) (X Y : List V) (i : Nat) {H : Am.Heap}, mid.length ≤ k → PF mid → X.length = o + i * 3 → i + mid.length ≤ len → len ≤ 1000000 →
    Sat B H (blk id e (X ++ (mid.flatten ++ Y)) :: L) → (∀ H', Sat B H' (blk id e (X ++ (mid.reverse.flatten ++ Y)) :: L) → Ke 0 (St.mk (Am.look []) (Am.look []) H')) →
    Am.Rec.loop (Am.Run env) (Am.loopAt env 69 1) 69 1
      (St.mk (Am.look [(0, T.v (V.slice (some (id, o)) len cap)), (2, T.v (V.int .i64 (i : Int))), (3, T.v (V.int .i64 ((i : Int) + mid.length - 1)))]) (Am.look []) H) Kr Ke := by
  intro k
  induction k with
  | zero =>
    intro mid X Y i H hk hf hX hl hb h K
    have : mid = [] := List.eq_nil_of_length_eq_zero (by omega)
    subst this
    rw [lp69_1]
    have e1 : ¬ (i : Int) < (i : Int) + (0 : Nat) - 1 := by omega
    simp only [List.length_nil, e1, decide_false, br_false]
    exact K _ h
  | succ k ih =>
    intro mid X Y i H hk hf hX hl hb h K
    rw [lp69_1]
    match mid, hk, hf, hl, h, K with
    | [], hk, hf, hl, h, K =>
      have e1 : ¬ (i : Int) < (i : Int) + (0 : Nat) - 1 := by omega
      simp only [List.length_nil, e1, decide_false, br_false]
      exact K _ h
    | [a], hk, hf, hl, h, K =>
      have e1 : ¬ (i : Int) < (i : Int) + (1 : Nat) - 1 := by omega
      simp only [List.length_cons, List.length_nil, e1, decide_false, br_false]
      exact K _ h
    | a :: r1 :: rs, hk, hf, hl, h, K =>
      obtain ⟨m', b, hm⟩ : ∃ m' b, r1 :: rs = m' ++ [b] := ⟨_, _, (List.dropLast_concat_getLast (by simp)).symm⟩
      have hml : rs.length + 1 = m'.length + 1 := by have := congrArg List.length hm; simpa using this
      rw [hm] at hf h K
      have hlen : (a :: r1 :: rs).length = m'.length + 2 := by simp; omega
      rw [hlen] at hk hl ⊢
      have fa := hf a (List.mem_cons_self ..)
      have fb := hf b (by simp)
      have fm : PF m' := fun c hc => hf c (by simp [hc])
      have la : a.length = 3 := (fits_len fa).symm
      have lb : b.length = 3 := (fits_len fb).symm
      have lm : m'.flatten.length = m'.length * 3 := flat_len fm.uni
      have e1 : (i : Int) < (i : Int) + ((m'.length + 2 : Nat) : Int) - 1 := by omega
      have e2 : 0 ≤ (i : Int) + ((m'.length + 2 : Nat) : Int) - 1 := by omega
      have e3 : (i : Int) + ((m'.length + 2 : Nat) : Int) - 1 < (len : Int) := by omega
      have e4 : 0 ≤ (i : Int) := by omega
      have e5 : (i : Int) < (len : Int) := by omega
      have e6 : ((i : Int) + ((m'.length + 2 : Nat) : Int) - 1).toNat = i + m'.length + 1 := by omega
      have e7 : IntKind.i64.wrap ((i : Int) + ((m'.length + 2 : Nat) : Int) - 1 - 1) = ((i + 1 : Nat) : Int) + (m'.length : Nat) - 1 := by rw [wrap_in (by omega) (by omega)]; omega
      have hg := h.get
      have s1 : X ++ ((a :: (m' ++ [b])).flatten ++ Y) = (X ++ (a ++ m'.flatten)) ++ (b ++ Y) := by simp
      have s2 : X ++ ((a :: (m' ++ [b])).flatten ++ Y) = X ++ (a ++ (m'.flatten ++ (b ++ Y))) := by simp
      have hg1 := hg
      rw [s1] at hg1
      have hg2 := hg
      rw [s2] at hg2
      have o1 : o + (i + m'.length + 1) * 3 = (X ++ (a ++ m'.flatten)).length := by simp only [List.length_append, hX, la, lm]; omega
      have i1 := inb_mid hg1 o1 lb.symm
      have u1 := sub_mid hg1 o1 lb.symm
      have i2 := inb_mid hg2 hX.symm la.symm
      have u2 := sub_mid hg2 hX.symm la.symm
      have w2 := wr_mid hg2 hX.symm la.symm
      have h2 := h
      rw [s2] at h2
      have h3 := h2.storeMid hX.symm (vs := b) (by rw [la, lb])
      have s3 : X ++ (b ++ (m'.flatten ++ (b ++ Y))) = (X ++ (b ++ m'.flatten)) ++ (b ++ Y) := by simp
      rw [s3] at h3
      have o3 : o + (i + m'.length + 1) * 3 = (X ++ (b ++ m'.flatten)).length := by simp only [List.length_append, hX, lb, lm]; omega
      have w3 := wr_mid h3.get o3 lb.symm
      have h4 := h3.storeMid o3 (vs := a) (by rw [la, lb])
      have s4 : (X ++ (b ++ m'.flatten)) ++ (a ++ Y) = (X ++ b) ++ (m'.flatten ++ (a ++ Y)) := by simp
      rw [s4] at h4
      simp only [e1, e2, e3, e4, e5, e6, Int.toNat_natCast, decide_true, br_true, Option.isSome_some, Option.getD_some, Bool.and_self, req_true, i1, u1, i2, u2, w2, fa, fb, page_o fa, page_o fb, w3]
      rw [wrap_succ (by omega), e7]
      refine ih m' (X ++ b) (a ++ Y) (i + 1) (by omega) fm (by rw [List.length_append, hX, lb]; omega) (by omega) hb h4 (fun H' h' => ?_)
      refine K H' ?_
      have s5 : X ++ ((a :: (m' ++ [b])).reverse.flatten ++ Y) = (X ++ b) ++ (m'.reverse.flatten ++ (a ++ Y)) := by simp
      rw [s5]
      exact h'

/-- A row's elements the other way round. -/
theorem sp_Rev {css : List (List V)} {X Y : List V} (hf : PF css) (hX : X.length = o) (hb : css.length ≤ 1000000) (h : Sat B H (blk id e (X ++ (css.flatten ++ Y)) :: L))
    (k : ∀ H', Sat B H' (blk id e (X ++ (css.reverse.flatten ++ Y)) :: L) → K (.tuple []) H') :
    Am.Rec.call (Am.Run env) 69 [.slice (some (id, o)) css.length cap] H K := by
  rw [eq69, wrap_in (by omega) (by omega)]
  have := lp_Rev (B := B) (L := L) (id := id) (o := o) (len := css.length) (cap := cap) (e := e) (Kr := fun S' => K (V.tuple []) S'.3) (Ke := fun j S' => br (Nat.beq j 0) (K (V.tuple []) S'.3) False)
    css.length css X Y 0 (H := H) (Nat.le_refl _) hf (by omega) (by omega) hb h (fun H' h' => by simpa using k H' h')
  simpa using this

theorem sp_RotL {css : List (List V)} {X Y : List V} (hf : PF css) (hX : X.length = o) (hb : css.length ≤ 1000000) (hc : css.length ≤ cap) {r : Nat} (hr : r ≤ css.length) (h : Sat B H (blk id e (X ++ (css.flatten ++ Y)) :: L))
    (k : ∀ H', Sat B H' (blk id e (X ++ ((css.drop r ++ css.take r).flatten ++ Y)) :: L) → K (.tuple []) H') :
    Am.Rec.call (Am.Run env) 68 [.slice (some (id, o)) css.length cap, .int .i64 (r : Int)] H K := by
  have e1 : 0 ≤ (r : Int) := by omega
  have e2 : (r : Int) ≤ (cap : Int) := by omega
  have e3 : r ≤ cap := by omega
  have e4 : (r : Int) ≤ (css.length : Int) := by omega
  have la : (css.take r).length = r := by rw [List.length_take]; omega
  have lb : (css.drop r).length = css.length - r := List.length_drop
  have fa : PF (css.take r) := fun c hc => hf c (List.mem_of_mem_take hc)
  have fb : PF (css.drop r) := fun c hc => hf c (List.mem_of_mem_drop hc)
  have lfa : (css.take r).flatten.length = r * 3 := by rw [flat_len fa.uni, la]
  rw [eq68]
  simp only [e1, e2, e3, e4, hc, decide_true, Bool.and_self, Bool.true_and, Bool.or_false, ble_dec, Int.toNat_natCast, req_true, ptrAdd_zero, Nat.sub_zero]
  have s1 : X ++ (css.flatten ++ Y) = X ++ ((css.take r).flatten ++ ((css.drop r).flatten ++ Y)) := by rw [flat_split css r]; simp
  rw [s1] at h
  have g1 := fun K c => sp_Rev (K := K) (cap := c) fa hX (by omega) h
  rw [la] at g1
  refine g1 _ _ (fun H1 h1 => ?_)
  have s2 : X ++ ((css.take r).reverse.flatten ++ ((css.drop r).flatten ++ Y)) = (X ++ (css.take r).reverse.flatten) ++ ((css.drop r).flatten ++ Y) := by simp
  rw [s2] at h1
  have lr : ((css.take r).reverse.flatten).length = r * 3 := by rw [flat_len (Uni.rev fa.uni), List.length_reverse, la]
  have g2 := fun K c => sp_Rev (K := K) (cap := c) (o := o + r * 3) fb (by rw [List.length_append, hX, lr]) (by omega) h1
  rw [lb] at g2
  refine g2 _ _ (fun H2 h2 => ?_)
  have fr : PF ((css.take r).reverse ++ (css.drop r).reverse) := by
    intro c hc
    rcases List.mem_append.1 hc with hc | hc
    · exact fa c (List.mem_reverse.1 hc)
    · exact fb c (List.mem_reverse.1 hc)
  have s3 : (X ++ (css.take r).reverse.flatten) ++ ((css.drop r).reverse.flatten ++ Y) = X ++ (((css.take r).reverse ++ (css.drop r).reverse).flatten ++ Y) := by simp
  rw [s3] at h2
  have lx : ((css.take r).reverse ++ (css.drop r).reverse).length = css.length := by simp; omega
  have g3 := fun K => sp_Rev (K := K) (cap := cap) fr hX (by omega) h2
  rw [lx] at g3
  refine g3 _ (fun H3 h3 => ?_)
  have s4 : ((css.take r).reverse ++ (css.drop r).reverse).reverse = css.drop r ++ css.take r := by simp
  rw [s4] at h3
  exact k _ h3

theorem sp_RotR {css : List (List V)} {X Y : List V} (hf : PF css) (hX : X.length = o) (hb : css.length ≤ 1000000) (hc : css.length ≤ cap) (hr : 1 ≤ css.length) (h : Sat B H (blk id e (X ++ (css.flatten ++ Y)) :: L))
    (k : ∀ H', Sat B H' (blk id e (X ++ ((css.drop (css.length - 1) ++ css.take (css.length - 1)).flatten ++ Y)) :: L) → K (.tuple []) H') :
    Am.Rec.call (Am.Run env) 67 [.slice (some (id, o)) css.length cap, .int .i64 1] H K := by
  have e : IntKind.i64.wrap ((css.length : Int) - 1) = ((css.length - 1 : Nat) : Int) := by rw [wrap_in (by omega) (by omega)]; omega
  rw [eq67, e]
  exact sp_RotL hf hX hb hc (by omega) h k

end
end Go.Proofs.Ytmionmlellimoaa
