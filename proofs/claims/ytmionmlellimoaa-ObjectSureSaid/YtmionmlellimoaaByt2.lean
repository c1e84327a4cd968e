/- Rows of bytes: behind others; a copy. -/
import Derived.Test.YtmionmlellimoaaEqsC
import Derived.Test.YtmionmlellimoaaAmByt
namespace Go.Proofs.Ytmionmlellimoaa
open Go.Am
set_option maxRecDepth 100000
set_option linter.unusedSimpArgs false
set_option linter.unusedVariables false
set_option linter.unusedSectionVars false

theorem el_bytes : Am.elemOf env 23 = some (5, 1, 1, [V.int .u8 0]) := by kernel_rfl
theorem sl_bytes : Am.notInt (Am.kindOf env 23) = true := by kernel_rfl

abbrev BY (q : Option (Nat × Nat)) (cap : Nat) (bs : List UInt8) : Ast := Byt 5 q cap bs

section
variable {B : Am.Heap} {L : List Ast} {H : Am.Heap} {K : V → Am.Heap → Prop} {q : Option (Nat × Nat)} {cap : Nat} {bs : List UInt8}

theorem bytNil (h : Sat B H L) : Sat B H (BY none 0 [] :: L) := h.bufNil _ _

/-- Bytes behind others. -/
theorem app_bytes (h : Sat B H (BY q cap bs :: L)) {x : V} {src : List UInt8} (hx : Src H 1 x src.length (bcells src)) (hb : bs.length + src.length ≤ 1000000000) {K : Option (Nat × Nat) → Nat → Nat → Am.Heap → Prop}
    (k : ∀ q' c' H', Sat B H' (BY q' c' (bs ++ src) :: L) → K q' (bs ++ src).length c' H') : Am.appendOp env [23, 23] [.slice q bs.length cap, x] H K := by
  refine h.append el_bytes sl_bytes (fun v hv => by rw [List.mem_singleton] at hv; subst hv; rfl) rfl (by omega) hx (by omega) (fun q' c' H' h' => ?_)
  rw [← List.length_append]
  refine k q' c' H' ?_
  unfold BY Byt
  rw [List.length_append, bcells_app]
  exact h'

/-- One byte behind others, out of a row of one. -/
theorem app_byte (h : Sat B H (BY q cap bs :: L)) (b : UInt8) (hb : bs.length + 1 ≤ 1000000000) {K : Option (Nat × Nat) → Nat → Nat → Am.Heap → Prop}
    (k : ∀ q' c' H', Sat B H' (BY q' c' (bs ++ [b]) :: L) → K q' (bs ++ [b]).length c' H') :
    Am.appendOp env [23, 23] [.slice q bs.length cap, .slice (some (H.next, 0)) 1 1] (H.alloc (.cells 5 [V.int .u8 b.toNat] false)) K := by
  have h1 := h.alloc 5 [V.int .u8 b.toNat]
  have hr : RdB (H.alloc (.cells 5 [V.int .u8 b.toNat] false)) (some (H.next, 0)) [b] := .inr ⟨_, 0, _, _, _, rfl, h1.get, rfl⟩
  exact app_bytes h1.drop (src := [b]) (hr.src 1) hb k

theorem app_byte' (h : Sat B H (BY q cap bs :: L)) (b : UInt8) {n : Int} (hn : n = (b.toNat : Int)) (hb : bs.length + 1 ≤ 1000000000) {K : Option (Nat × Nat) → Nat → Nat → Am.Heap → Prop}
    (k : ∀ q' c' H', Sat B H' (BY q' c' (bs ++ [b]) :: L) → K q' (bs ++ [b]).length c' H') :
    Am.appendOp env [23, 23] [.slice q bs.length cap, .slice (some (H.next, 0)) 1 1] (H.alloc (.cells 5 [V.int .u8 n] false)) K := by
  subst hn; exact app_byte h b hb k

/-- slices.Clone of bytes. -/
theorem sp_Clone (h : Sat B H L) (hr : RdB H q bs) (hb : bs.length ≤ 1000000) (k : ∀ q' c' H', Sat B H' (BY q' c' bs :: L) → K (.slice q' bs.length c') H') :
    Am.Rec.call (Am.Run env) 32 [.slice q bs.length cap] H K := by
  rw [eq32]
  cases q with
  | none =>
    have : bs = [] := by
      rcases hr with h | ⟨_, _, _, _, _, h, _⟩
      · simpa [bcells] using h
      · cases h
    subst this
    exact k none 0 H (bytNil h)
  | some q =>
    rw [Option.isNone_some, br_false]
    have h1 : Sat B (H.alloc (.cells 5 [] false)) (BY (some (H.next, 0)) 0 [] :: L) := (h.newBuf (el := 5) (n := 1) (len := 0) (c := 0) (l := []) (cs := bcells []) (by simp) (fun v hv => by cases hv) (by omega) (by simp) (by simp))
    have hr1 : RdB (H.alloc (.cells 5 [] false)) (some q) bs := by
      rcases hr with h' | ⟨id, off, e, l, ro, he, hg, ht⟩
      · exact .inl h'
      · refine .inr ⟨id, off, e, l, ro, he, ?_, ht⟩
        have := h.ok id _ hg
        rw [Heap.get_alloc_ne (by omega)]
        exact hg
    refine app_bytes (bs := []) h1 (hr1.src cap) (by simp; omega) (fun q' c' H' h' => ?_)
    rw [List.nil_append] at h' ⊢
    exact k _ _ _ h'

end
end Go.Proofs.Ytmionmlellimoaa
