/- slices.Insert of one element, slices.Delete of one. -/
import Derived.Test.YtmionmlellimoaaSlc
namespace Go.Proofs.Ytmionmlellimoaa
open Go.Am
set_option maxRecDepth 100000
set_option linter.unusedSimpArgs false
set_option linter.unusedVariables false
set_option linter.unusedSectionVars false

theorem ov_run (args : List V) (H : Am.Heap) (K : V → Am.Heap → Prop) : Am.extCall env 66 args H K = ovRun args H K := by kernel_rfl

section
variable {B : Am.Heap} {L : List Ast} {H : Am.Heap} {K : V → Am.Heap → Prop} {cap : Nat} {q : Option (Nat × Nat)} {css : List (List V)}

theorem sp_Insert (h : Sat B H (Rw 73 3 q cap css :: L)) {vid : Nat} {e2 : TypeId} {c : List V} (hv : ∀ H, Sat B H L → H.get vid = some (.cells e2 c false)) (hf : PF css) (hfc : Am.fits k72 c = true) (hb : css.length ≤ 1000)
    {i : Nat} (hi : i ≤ css.length) (hne : ∀ id off, q = some (id, off) → vid ≠ id)
    (k : ∀ q' c' H', Sat B H' (Rw 73 3 q' c' (css.take i ++ c :: css.drop i) :: L) → K (.slice q' (css.length + 1) c') H') :
    Am.Rec.call (Am.Run env) 60 [.slice q css.length cap, .int .i64 (i : Int), .slice (some (vid, 0)) 1 1] H K := by
  have hle := h.rwLe
  have hu := hf.uni
  have lc : c.length = 3 := (fits_len hfc).symm
  have oc : OneAll c := fits_one hfc
  have e1 : 0 ≤ (i : Int) := by omega
  have e2' : (i : Int) ≤ (css.length : Int) := by omega
  have e3 : ¬ ((1 : Nat) : Int) = 0 := by omega
  have hvg := hv H h.drop
  have hrv : Rd H (some (vid, 0)) c := .inr ⟨vid, 0, e2, c, false, rfl, hvg, by rw [List.drop_zero, List.take_length]⟩
  have w1 : IntKind.i64.wrap ((css.length : Int) + ((1 : Nat) : Int)) = ((css.length + 1 : Nat) : Int) := by rw [wrap_in (by omega) (by omega)]; omega
  have w2 : IntKind.i64.wrap ((i : Int) + ((1 : Nat) : Int)) = ((i + 1 : Nat) : Int) := by rw [wrap_in (by omega) (by omega)]; omega
  rw [eq60]
  simp only [e1, e2', e3, hle, decide_true, decide_false, Bool.and_self, Bool.true_and, Bool.or_false, ble_dec, req_true, br_false, br_true, w1, w2, Int.toNat_natCast, ptrAdd_zero, Nat.sub_zero]
  by_cases hin : i = css.length
  · subst hin
    rw [decide_eq_true rfl, br_true]
    have hx : Src H 3 (.slice (some (vid, 0)) 1 1) 1 c := ⟨by rw [lc], oc, .inl ⟨_, _, rfl, hrv⟩⟩
    refine h.append el_page sl_page page_z rfl (by omega) hx (by omega) (fun q' c' H' h' => ?_)
    have e : css.take css.length ++ c :: css.drop css.length = css ++ [c] := by simp
    rw [e] at k
    refine k q' c' H' ?_
    unfold Rw
    rw [List.length_append, List.flatten_append]
    simpa using h'
  · have hlt : i < css.length := by omega
    have e4 : ¬ (i : Int) = (css.length : Int) := by omega
    rw [decide_eq_false e4, br_false]
    have fa : PF (css.take i) := fun c hc => hf c (List.mem_of_mem_take hc)
    have fd : PF (css.drop i) := fun c hc => hf c (List.mem_of_mem_drop hc)
    have la : (css.take i).flatten.length = i * 3 := by rw [flat_len fa.uni, List.length_take, Nat.min_eq_left hi]
    have ld : (css.drop i).flatten.length = (css.length - i) * 3 := by rw [flat_len fd.uni, List.length_drop]
    have hfin : (css.take i ++ c :: css.drop i).flatten = (css.take i).flatten ++ (c ++ (css.drop i).flatten) := by simp
    have hlen : (css.take i ++ c :: css.drop i).length = css.length + 1 := by simp; omega
    have ffin : PF (css.take i ++ c :: css.drop i) := by
      intro x hx
      rcases List.mem_append.1 hx with hx | hx
      · exact fa x hx
      · rcases List.mem_cons.1 hx with rfl | hx
        · exact hfc
        · exact fd x hx
    obtain ⟨id, off, pre, post, rfl, hp, hpo, hs⟩ := h.rwBlk hu (by omega)
    have hvid := hne id off rfl
    have hg := hs.get
    have hsrcD : Rd H (some (id, off + i * 3)) (css.drop i).flatten := by
      have hg' := hg
      rw [flat_split css i, show pre ++ ((css.take i).flatten ++ (css.drop i).flatten ++ post) = (pre ++ (css.take i).flatten) ++ ((css.drop i).flatten ++ post) by simp] at hg'
      exact rd_mid hg' (by rw [List.length_append, hp, la])
    have padd : ∀ m, ptrAdd (some (id, off)) m = some (id, off + m) := fun m => rfl
    by_cases hroom : css.length + 1 ≤ cap
    · have e5 : ¬ ((css.length + 1 : Nat) : Int) > (cap : Int) := by omega
      have e6 : 0 ≤ ((css.length + 1 : Nat) : Int) := by omega
      have e7 : ((css.length + 1 : Nat) : Int) ≤ (cap : Int) := by omega
      have e8 : 0 ≤ ((i + 1 : Nat) : Int) := by omega
      have e9 : ((i + 1 : Nat) : Int) ≤ ((css.length + 1 : Nat) : Int) := by omega
      have e10 : (i : Int) ≤ ((css.length + 1 : Nat) : Int) := by omega
      have e11 : 0 ≤ (css.length : Int) := by omega
      have e12 : (css.length : Int) ≤ ((css.length + 1 : Nat) : Int) := by omega
      rw [decide_eq_false e5, br_false]
      simp only [e6, e7, e8, e9, hroom, decide_true, Bool.and_self, req_true, padd]
      rw [ov_run]
      refine ⟨hvid, by omega, by omega, ⟨e2, c, hvg, by omega⟩, ⟨_, _, _, hg⟩, ?_, ?_⟩
      · -- they may be one: copied to the end, and turned
        simp only [isK_bool, getBool_bool, Bool.not_true, br_false, req_true, e11, e12, hroom, decide_true, Bool.and_self]
        have hpost : 3 ≤ post.length := by
          have : 1 * 3 ≤ (cap - css.length) * 3 := Nat.mul_le_mul_right _ (by omega)
          omega
        have lcs : css.flatten.length = css.length * 3 := flat_len hu
        have hcp := copy_ok (n := 3) (k := css.length + 1 - css.length) (o := off + css.length * 3) (ms := 1) (c := 1) (j := 1) hg hrv (by rw [show css.length + 1 - css.length = 1 by omega]; rfl) (by rw [lc]) oc (by omega)
          (by simp only [List.length_append]; omega)
        rw [hcp.1, hcp.2, req_true]
        have s1 : pre ++ (css.flatten ++ post) = (pre ++ css.flatten) ++ (post.take 3 ++ post.drop 3) := by rw [List.take_append_drop, List.append_assoc]
        rw [s1] at hs
        have hs2 := hs.storeMid (o := off + css.length * 3) (vs := c) (by rw [List.length_append, hp, lcs]) (by rw [List.length_take, lc]; omega)
        have fdc : PF (css.drop i ++ [c]) := by
          intro x hx
          rcases List.mem_append.1 hx with hx | hx
          · exact fd x hx
          · rw [List.mem_singleton] at hx; subst hx; exact hfc
        have ldc : (css.drop i ++ [c]).length = css.length + 1 - i := by simp; omega
        have s2 : (pre ++ css.flatten) ++ (c ++ post.drop 3) = (pre ++ (css.take i).flatten) ++ ((css.drop i ++ [c]).flatten ++ post.drop 3) := by rw [flat_split css i]; simp
        rw [s2] at hs2
        have e13 : i ≤ css.length + 1 := by omega
        simp only [e1, e10, decide_true, Bool.and_self, req_true]
        have hrot := fun K => sp_RotR (K := K) (cap := cap - i) (o := off + i * 3) fdc (by rw [List.length_append, hp, la]) (by omega) (by omega) (by omega) hs2
        rw [ldc] at hrot
        refine hrot _ (fun H3 h3 => ?_)
        have ldd : css.length + 1 - i - 1 = (css.drop i).length := by rw [List.length_drop]; omega
        have s3 : (css.drop i ++ [c]).drop (css.length + 1 - i - 1) ++ (css.drop i ++ [c]).take (css.length + 1 - i - 1) = c :: css.drop i := by
          rw [ldd, List.drop_left' rfl, List.take_left' rfl]; rfl
        rw [s3, show (pre ++ (css.take i).flatten) ++ ((c :: css.drop i).flatten ++ post.drop 3) = pre ++ ((css.take i ++ c :: css.drop i).flatten ++ post.drop 3) by simp] at h3
        have := h3.blkRw (cap := cap) ffin.uni (by omega) (by rw [hlen, List.length_drop, Nat.sub_mul, Nat.add_mul]; rw [Nat.sub_mul] at hpo; omega)
        rw [hp] at this
        exact k _ _ _ this
      · simp only [isK_bool, getBool_bool, Bool.not_false, br_true, req_true, e1, e8, e9, e10, hroom, decide_true, Bool.and_self]
        have hpost : 3 ≤ post.length := by
          have : 1 * 3 ≤ (cap - css.length) * 3 := Nat.mul_le_mul_right _ (by omega)
          omega
        have lcs : css.flatten.length = css.length * 3 := flat_len hu
        have hcp := copy_ok (n := 3) (k := css.length + 1 - (i + 1)) (o := off + (i + 1) * 3) (ms := css.length + 1 - i) (c := cap - i) (j := css.length - i) hg hsrcD (by
            rw [show css.length + 1 - (i + 1) = css.length - i by omega]; exact Nat.min_eq_right (by omega)) ld (flat_one fd.uni) (by omega)
          (by simp only [List.length_append, lcs]; have : (css.length - i) * 3 + i * 3 = css.length * 3 := by rw [← Nat.add_mul]; congr 1; omega
              omega)
        rw [hcp.1, hcp.2, req_true]
        have ls : ((css.drop i).flatten ++ post).length = ((css.drop i).flatten).length + post.length := List.length_append
        have s1 : pre ++ (css.flatten ++ post) = (pre ++ ((css.take i).flatten ++ ((css.drop i).flatten ++ post).take 3)) ++ ((((css.drop i).flatten ++ post).drop 3).take ((css.length - i) * 3) ++ post.drop 3) := by
          have a1 : ((css.drop i).flatten ++ post) = ((css.drop i).flatten ++ post).take 3 ++ ((((css.drop i).flatten ++ post).drop 3).take ((css.length - i) * 3) ++ (((css.drop i).flatten ++ post).drop 3).drop ((css.length - i) * 3)) := by
            rw [List.take_append_drop, List.take_append_drop]
          have a2 : (((css.drop i).flatten ++ post).drop 3).drop ((css.length - i) * 3) = post.drop 3 := by
            rw [List.drop_drop, Nat.add_comm, ← ld, ← List.drop_drop, List.drop_left' rfl]
          rw [a2] at a1
          conv => lhs; rw [flat_split css i, List.append_assoc, a1]
          simp only [List.append_assoc]
        rw [s1] at hs
        have l3 : (((css.drop i).flatten ++ post).take 3).length = 3 := by rw [List.length_take]; omega
        have hs2 := hs.storeMid (o := off + (i + 1) * 3) (vs := (css.drop i).flatten) (by simp only [List.length_append, hp, la, l3]; omega) (by rw [ld, List.length_take, List.length_drop]; omega)
        have s2 : (pre ++ ((css.take i).flatten ++ ((css.drop i).flatten ++ post).take 3)) ++ ((css.drop i).flatten ++ post.drop 3) = (pre ++ (css.take i).flatten) ++ (((css.drop i).flatten ++ post).take 3 ++ ((css.drop i).flatten ++ post.drop 3)) := by simp only [List.append_assoc]
        rw [s2] at hs2
        have hvg2 := hv _ hs2.drop
        have hrv2 : Rd (H.store id (off + (i + 1) * 3) (css.drop i).flatten) (some (vid, 0)) c := .inr ⟨vid, 0, e2, c, false, rfl, hvg2, by rw [List.drop_zero, List.take_length]⟩
        have hcp2 := copy_ok (n := 3) (k := css.length + 1 - i) (o := off + i * 3) (ms := 1) (c := 1) (j := 1) hs2.get hrv2 (Nat.min_eq_left (by omega)) (by rw [lc]) oc (by omega) (by simp only [List.length_append, la, l3, hp]; omega)
        rw [hcp2.1, hcp2.2, req_true]
        have hs3 := hs2.storeMid (o := off + i * 3) (vs := c) (by rw [List.length_append, hp, la]) (by rw [l3, lc])
        rw [show (pre ++ (css.take i).flatten) ++ (c ++ ((css.drop i).flatten ++ post.drop 3)) = pre ++ ((css.take i ++ c :: css.drop i).flatten ++ post.drop 3) by simp] at hs3
        have := hs3.blkRw (cap := cap) ffin.uni (by omega) (by rw [hlen, List.length_drop, Nat.sub_mul, Nat.add_mul]; rw [Nat.sub_mul] at hpo; omega)
        rw [hp] at this
        exact k _ _ _ this
    · have e5 : ((css.length + 1 : Nat) : Int) > (cap : Int) := by omega
      have e6 : (i : Int) ≤ (cap : Int) := by omega
      have e7 : i ≤ cap := by omega
      rw [decide_eq_true e5, br_true]
      have w3 : IntKind.i64.wrap (((css.length + 1 : Nat) : Int) - (i : Int)) = ((css.length + 1 - i : Nat) : Int) := by rw [wrap_in (by omega) (by omega)]; omega
      simp only [e6, e7, w3, decide_true, Bool.and_self, req_true]
      have hsrcA : Rd H (some (id, off)) (css.take i).flatten := by
        have hg' := hg
        rw [flat_split css i, show pre ++ ((css.take i).flatten ++ (css.drop i).flatten ++ post) = pre ++ ((css.take i).flatten ++ ((css.drop i).flatten ++ post)) by simp] at hg'
        exact rd_mid hg' hp.symm
      have hz : (repV (css.length + 1 - i) (c72 0 none 0 0 false)).length = (css.length + 1 - i) * 3 := by rw [repV_len, page_len]
      refine hs.appendNew (u := 3) el_page page_z rfl (by omega) hsrcA la (flat_one fa.uni) (appSrc_z int_int (by omega) (by omega)) rfl rfl (by rw [show rowV _ _ = repV _ _ from rfl, Int.toNat_natCast]; exact hz) (repV_one page_z _) (by omega) (by omega) (fun c' po hc' hpo' hs2 => ?_)
      simp only [show ∀ (n : Nat) (z : List V), rowV n z = repV n z from fun _ _ => rfl, Int.toNat_natCast] at hs2 hpo' hc' ⊢
      have hn2 : i + (css.length + 1 - i) = css.length + 1 := by omega
      simp only [hn2] at hc' hpo' ⊢
      generalize hz0 : repV (css.length + 1 - i) (c72 0 none 0 0 false) = zs at hs2 hz ⊢
      have padd2 : ∀ m, ptrAdd (some (H.next, 0)) m = some (H.next, m) := fun m => by simp [ptrAdd]
      have e8 : (i : Int) ≤ ((css.length + 1 : Nat) : Int) := by omega
      have e9 : 0 ≤ ((i + 1 : Nat) : Int) := by omega
      have e10 : ((i + 1 : Nat) : Int) ≤ ((css.length + 1 : Nat) : Int) := by omega
      simp only [padd, padd2, e1, e2', e8, e9, e10, hle, hc', decide_true, Bool.and_self, req_true]
      have hvg2 := hv _ hs2.drop.drop
      generalize hH2 : Heap.alloc H _ = H2 at hs2 hvg2 ⊢
      have hrv2 : Rd H2 (some (vid, 0)) c := .inr ⟨vid, 0, e2, c, false, rfl, hvg2, by rw [List.drop_zero, List.take_length]⟩
      have hcp := copy_ok (n := 3) (k := css.length + 1 - i) (o := i * 3) (ms := 1) (c := 1) (j := 1) hs2.get hrv2 (Nat.min_eq_left (by omega)) (by rw [lc]) oc (by omega) (by simp only [List.length_append, la, hz]; omega)
      rw [hcp.1, hcp.2, req_true]
      have z3 : (zs.take 3).length = 3 := by rw [List.length_take, hz]; omega
      rw [show (css.take i).flatten ++ (zs ++ po) = (css.take i).flatten ++ (zs.take 3 ++ (zs.drop 3 ++ po)) by rw [← List.append_assoc (zs.take 3), List.take_append_drop]] at hs2
      have hs3 := hs2.storeMid (o := i * 3) (vs := c) (by rw [la]) (by rw [z3, lc])
      have hs4 := hs3.up 1
      simp only [nthA, outA] at hs4
      have hsrcD4 : Rd (H2.store H.next (i * 3) c) (some (id, off + i * 3)) (css.drop i).flatten := by
        have hg' := hs4.get
        rw [flat_split css i, show pre ++ ((css.take i).flatten ++ (css.drop i).flatten ++ post) = (pre ++ (css.take i).flatten) ++ ((css.drop i).flatten ++ post) by simp] at hg'
        exact rd_mid hg' (by rw [List.length_append, hp, la])
      have z4 : (zs.drop 3).length = (css.length - i) * 3 := by rw [List.length_drop, hz]; omega
      have hcp2 := copy_ok (n := 3) (k := css.length + 1 - (i + 1)) (o := (i + 1) * 3) (ms := css.length - i) (c := cap - i) (j := css.length - i) hs3.get hsrcD4 (by
          rw [show css.length + 1 - (i + 1) = css.length - i by omega]; exact Nat.min_eq_left (by omega)) ld (flat_one fd.uni) (by omega) (by simp only [List.length_append, la, lc, z4]; omega)
      rw [hcp2.1, hcp2.2, req_true]
      rw [show (css.take i).flatten ++ (c ++ (zs.drop 3 ++ po)) = ((css.take i).flatten ++ c) ++ (zs.drop 3 ++ po) by simp] at hs3
      have hs5 := hs3.storeMid (o := (i + 1) * 3) (vs := (css.drop i).flatten) (by rw [List.length_append, la, lc]; omega) (by rw [z4, ld])
      rw [show ((css.take i).flatten ++ c) ++ ((css.drop i).flatten ++ po) = [] ++ ((css.take i ++ c :: css.drop i).flatten ++ po) by simp] at hs5
      have hs6 := hs5.blkRw (cap := c') ffin.uni (by omega) (by rw [hlen, hpo']; exact Nat.le_refl _)
      have hs7 := (hs6.up 1).drop
      exact k _ _ _ hs7

theorem sp_Delete (h : Sat B H (Rw 73 3 q cap css :: L)) (hf : PF css) (hb : css.length ≤ 1000) {i : Nat} (hi : i < css.length)
    (k : ∀ H', Sat B H' (Rw 73 3 q cap (css.eraseIdx i) :: L) → K (.slice q (css.length - 1) cap) H') :
    Am.Rec.call (Am.Run env) 59 [.slice q css.length cap, .int .i64 (i : Int), .int .i64 ((i + 1 : Nat) : Int)] H K := by
  have hle := h.rwLe
  have hu := hf.uni
  rw [eq59]
  have e1 : 0 ≤ (css.length : Int) := by omega
  have e2 : (css.length : Int) ≤ (cap : Int) := by omega
  have e3 : 0 ≤ ((i + 1 : Nat) : Int) := by omega
  have e4 : ((i + 1 : Nat) : Int) ≤ (css.length : Int) := by omega
  have e5 : 0 ≤ (i : Int) := by omega
  have e6 : (i : Int) ≤ ((i + 1 : Nat) : Int) := by omega
  have e7 : i + 1 ≤ css.length := by omega
  have e8 : ¬ (i : Int) = ((i + 1 : Nat) : Int) := by omega
  have e9 : (i : Int) ≤ (cap : Int) := by omega
  have e10 : i ≤ cap := by omega
  simp only [e1, e2, e3, e4, e5, e6, e7, e8, e9, e10, hle, decide_true, decide_false, Bool.and_self, Bool.true_and, Bool.or_false, ble_dec, req_true, br_false, Int.toNat_natCast, ptrAdd_zero, Nat.sub_zero]
  obtain ⟨id, off, pre, post, rfl, hp, hpo, hs⟩ := h.rwBlk hu (by omega)
  have hg := hs.get
  have padd : ∀ m, ptrAdd (some (id, off)) m = some (id, off + m) := fun m => rfl
  have fa : PF (css.take i) := fun c hc => hf c (List.mem_of_mem_take hc)
  have fd : PF (css.drop (i + 1)) := fun c hc => hf c (List.mem_of_mem_drop hc)
  have la : (css.take i).flatten.length = i * 3 := by rw [flat_len fa.uni, List.length_take, Nat.min_eq_left (by omega)]
  have ld : (css.drop (i + 1)).flatten.length = (css.length - (i + 1)) * 3 := by rw [flat_len fd.uni, List.length_drop]
  have lx : (css[i]).length = 3 := (fits_len (hf _ (List.getElem_mem hi))).symm
  have s0 : css.flatten = (css.take i).flatten ++ (css[i] ++ (css.drop (i + 1)).flatten) := by rw [flat_split css i, List.drop_eq_getElem_cons hi, List.flatten_cons]
  have hrd : Rd H (some (id, off + (i + 1) * 3)) (css.drop (i + 1)).flatten := by
    have hg' := hg
    rw [s0, show pre ++ ((css.take i).flatten ++ (css[i] ++ (css.drop (i + 1)).flatten) ++ post) = (pre ++ ((css.take i).flatten ++ css[i])) ++ ((css.drop (i + 1)).flatten ++ post) by simp] at hg'
    exact rd_mid hg' (by simp only [List.length_append, hp, la, lx]; omega)
  have hn : css.length - (i + 1) + (i + 1) = css.length := by omega
  have hx : Src H 3 (.slice (some (id, off + (i + 1) * 3)) (css.length - (i + 1)) (cap - (i + 1))) (css.length - (i + 1)) (css.drop (i + 1)).flatten := ⟨ld, flat_one fd.uni, .inl ⟨_, _, rfl, hrd⟩⟩
  have lcs : css.flatten.length = css.length * 3 := flat_len hu
  simp only [padd]
  refine append_in el_page sl_page (by omega) hg hx (by omega) (by simp only [List.length_append, lcs]; have : (css.length - (i + 1)) * 3 + i * 3 ≤ css.length * 3 := by rw [← Nat.add_mul]; exact Nat.mul_le_mul_right _ (by omega)
                                                                   omega) ?_
  have hm : i + (css.length - (i + 1)) = css.length - 1 := by omega
  have e11 : 0 ≤ ((css.length - 1 : Nat) : Int) := by omega
  have e12 : ((css.length - 1 : Nat) : Int) ≤ (css.length : Int) := by omega
  have hk1 : css.length - (css.length - 1) = 1 := by omega
  have hz1 : Nat.beq 1 0 = false := rfl
  simp only [hm, e1, e2, e11, e12, hle, hk1, hz1, decide_true, Bool.and_self, req_true, padd, Option.isNone_some, Bool.false_or, Bool.or_self, Option.getD_some, cond_false]
  -- the last element's place
  have s1 : ((css.drop i).flatten).length = (css.length - i) * 3 := by rw [flat_len (Uni.drop hu i), List.length_drop]
  have hlast : css.flatten = (css.take i).flatten ++ (((css.drop i).flatten).take ((css.length - (i + 1)) * 3) ++ ((css.drop i).flatten).drop ((css.length - (i + 1)) * 3)) := by
    rw [List.take_append_drop, ← flat_split]
  have l2 : (((css.drop i).flatten).take ((css.length - (i + 1)) * 3)).length = (css.length - (i + 1)) * 3 := by rw [List.length_take, s1]; omega
  have l3 : (((css.drop i).flatten).drop ((css.length - (i + 1)) * 3)).length = 3 := by rw [List.length_drop, s1]; omega
  rw [show pre ++ (css.flatten ++ post) = (pre ++ (css.take i).flatten) ++ (((css.drop i).flatten).take ((css.length - (i + 1)) * 3) ++ (((css.drop i).flatten).drop ((css.length - (i + 1)) * 3) ++ post)) by
    conv => lhs; rw [hlast]
    simp only [List.append_assoc]] at hs
  have hs2 := hs.storeMid (o := off + i * 3) (vs := (css.drop (i + 1)).flatten) (by rw [List.length_append, hp, la]) (by rw [l2, ld])
  rw [show (pre ++ (css.take i).flatten) ++ ((css.drop (i + 1)).flatten ++ (((css.drop i).flatten).drop ((css.length - (i + 1)) * 3) ++ post)) =
    (pre ++ ((css.take i).flatten ++ (css.drop (i + 1)).flatten)) ++ (((css.drop i).flatten).drop ((css.length - (i + 1)) * 3) ++ post) by simp] at hs2
  have ho : off + (css.length - 1) * 3 = (pre ++ ((css.take i).flatten ++ (css.drop (i + 1)).flatten)).length := by
    simp only [List.length_append, hp, la, ld]
    have : (css.length - 1) * 3 = i * 3 + (css.length - (i + 1)) * 3 := by rw [← Nat.add_mul]; congr 1; omega
    omega
  rw [wr_mid hs2.get ho (by rw [l3]), req_true]
  have hrow : rowV 1 (c72 0 none 0 0 false) = c72 0 none 0 0 false := by show _ ++ [] = _; rw [List.append_nil]
  rw [hrow]
  have hs3 := hs2.storeMid ho (vs := c72 0 none 0 0 false) (by rw [l3, page_len])
  have he : css.eraseIdx i = css.take i ++ css.drop (i + 1) := List.eraseIdx_eq_take_drop_succ css i
  rw [show (pre ++ ((css.take i).flatten ++ (css.drop (i + 1)).flatten)) ++ (c72 0 none 0 0 false ++ post) = pre ++ ((css.eraseIdx i).flatten ++ (c72 0 none 0 0 false ++ post)) by rw [he]; simp] at hs3
  have hle2 : (css.eraseIdx i).length = css.length - 1 := by rw [List.length_eraseIdx, if_pos hi]
  have fe : PF (css.eraseIdx i) := fun c hc => hf c (List.mem_of_mem_eraseIdx hc)
  have := hs3.blkRw (cap := cap) fe.uni (by omega) (by
    rw [hle2, List.length_append, page_len]
    have : (cap - (css.length - 1)) * 3 = (cap - css.length) * 3 + 3 := by
      rw [show cap - (css.length - 1) = cap - css.length + 1 by omega, Nat.add_mul]
    omega)
  rw [hp] at this
  exact k _ this

end
end Go.Proofs.Ytmionmlellimoaa
