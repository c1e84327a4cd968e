/- The reader's steps: a word's end; a sign. -/
import Derived.Test.YtibkggbidojocaaDoorWordD
namespace Go.Proofs.YtibkggbidojocaaDoor
open Go.Am Go.Lib
set_option maxRecDepth 100000
set_option linter.unusedSimpArgs false
set_option linter.unusedVariables false
set_option linter.unusedSectionVars false

section

variable {B : Am.Heap} {L : List Ast} {H : Am.Heap} {K : V → Am.Heap → Prop} {id : Nat} {σ : Wd}

theorem end_app {q ad qb : Option (Nat × Nat)} {c cb : Nat} (h : Sat B H (blk id 46 (rcs q c ad qb cb σ) :: Rw 9 1 q c (σ.ws.map st) :: L)) (hw : σ.ws.length ≤ 900) {Q : St → Prop}
    (hQ : ∀ q' c' H', Sat B H' (blk id 46 (rcs q' c' ad qb cb { σ with ws := σ.ws ++ [σ.buf] }) :: Rw 9 1 q' c' ((σ.ws ++ [σ.buf]).map st) :: L) → Q (St.mk (Am.look []) (Am.look []) H')) :
    Am.appendOp env [36, 36] [.slice q σ.ws.length c, .slice (some (H.next, 0)) 1 1] (H.alloc (.cells 9 [V.str (strOf σ.buf)] false)) fun q n c H' => req (H'.wr id 0 1) (Q (St.mk (Am.look []) (Am.look []) (H'.store id 0 [.slice q n c]))) := by
  refine app_strQ h.swap (by omega) (fun q' c' H' h' => ?_)
  have h2 := h'.swap
  have hf := RF.of (rcs_len q c ad qb cb σ) h2.get
  simp only [hf.wr 0 (by omega), req_true]
  refine hQ q' c' _ ?_
  exact h2.store

theorem sp_end (h : RdS B L id σ H) (hw : σ.ws.length ≤ 900) (hb : σ.buf.length ≤ 100000) (k : ∀ H', RdS B L id (endW σ) H' → K (.tuple []) H') :
    Am.Rec.call (Am.Run env) 17 [.ptr (some (id, 0))] H K := by
  obtain ⟨q, c, ad, qb, cb, h⟩ := h
  rw [eq17]
  have hs := h.2.2.2
  have hf := RF.of (rcs_len q c ad qb cb σ) hs.get
  have c0 : nthV (rcs q c ad qb cb σ) 0 = .slice q σ.ws.length c := rfl
  have c3 : nthV (rcs q c ad qb cb σ) 3 = .bool σ.inn := rfl
  simp only [Option.isSome_some, Option.getD_some, Nat.zero_add, hf.inb 3 (by omega), hf.inb 0 (by omega), hf.cell, c0, c3, V.isK, V.getBool, req_true, Bool.and_self, Bool.and_true, slPtr_slice, slLen_slice, slCap_slice]
  refine joinP_gen (fun S => ∃ q' c' ad' qb' cb', ∃ σ' : Wd, σ'.ws = (endW σ).ws ∧ σ'.buf = (endW σ).buf ∧ σ'.text = σ.text ∧ σ'.mark = σ.mark ∧ RdO B L id σ' q' c' ad' qb' cb' S.hp) ?_ ?_
  · rintro S ⟨q', c', ad', qb', cb', σ', w1, w2, w3, w4, a1, a2, a3, h'⟩
    have hf' := RF.of (rcs_len q' c' ad' qb' cb' σ') h'.get
    have h2 : Sat B (S.hp.store id 3 [.bool false]) (blk id 46 (rcs q' c' ad' qb' cb' { σ' with inn := false }) :: Rw 9 1 q' c' (σ'.ws.map st) :: BY qb' cb' σ'.buf :: L) := h'.store
    have hf2 := RF.of (rcs_len q' c' ad' qb' cb' { σ' with inn := false }) h2.get
    simp only [hf'.wr 3 (by omega), hf2.wr 6 (by omega), req_true]
    have h3 : Sat B ((S.hp.store id 3 [.bool false]).store id 6 [.bool false]) (blk id 46 (rcs q' c' ad' qb' cb' { σ' with inn := false, shut := false }) :: Rw 9 1 q' c' (σ'.ws.map st) :: BY qb' cb' σ'.buf :: L) := h2.store
    have e : { σ' with inn := false, shut := false } = endW σ := by
      unfold endW at w1 w2 ⊢
      cases σ'
      dsimp only at w1 w2 w3 w4 ⊢
      subst w1; subst w2; subst w3; subst w4
      split <;> rfl
    refine k _ ⟨q', c', ad', qb', cb', a1, a2, ?_, ?_⟩
    · rw [← e]; exact a3
    · rw [← e]; exact h3
  · intro Q hQ
    cases hin : σ.inn with
    | false =>
      simp only [br_false]
      refine hQ _ ⟨q, c, ad, qb, cb, σ, ?_, ?_, rfl, rfl, h⟩
      · unfold endW; rw [hin]; rfl
      · unfold endW; rw [hin]; rfl
    | true =>
      simp only [br_true]
      have fin : ∀ (S : St), (∃ q' c', Sat B S.hp (blk id 46 (rcs q' c' ad qb cb { σ with ws := σ.ws ++ [σ.buf] }) :: Rw 9 1 q' c' ((σ.ws ++ [σ.buf]).map st) :: L)) →
          Am.Rec.call (Am.Run env) 35 [V.ptr (some (id, 1))] S.hp fun v H' => Q (St.mk (Am.look []) (Am.look []) H') := by
        rintro S ⟨q', c', h'⟩
        refine sp_bReset h' (fun H' h2 => hQ _ ⟨q', c', none, none, 0, { σ with ws := σ.ws ++ [σ.buf], buf := [] }, ?_, ?_, rfl, rfl, .inl rfl, nofun, fun _ => rfl, ?_⟩)
        · unfold endW; rw [hin]; rfl
        · unfold endW; rw [hin]; rfl
        · have h3 := ((h2.bufNil 5 1).up 1)
          simp only [nthA, outA] at h3
          have h4 := h3.up 2
          simp only [nthA, outA] at h4
          have h5 := h4.up 1
          simp only [nthA, outA] at h5
          exact h5
      refine joinP_gen (fun S => ∃ q' c', Sat B S.hp (blk id 46 (rcs q' c' ad qb cb { σ with ws := σ.ws ++ [σ.buf] }) :: Rw 9 1 q' c' ((σ.ws ++ [σ.buf]).map st) :: L)) (fun S hS => fin S hS) ?_
      intro Q' hQ'
      refine ⟨?_, ?_⟩
      · refine sp_bStr h hb (fun H' h' => ?_)
        simp only [V.isK, req_true, getStr_str]
        exact end_app h' hw (fun q' c' H2 h2 => hQ' _ ⟨q', c', h2⟩)
      · refine sp_bStr h hb (fun H' h' => ?_)
        have hf' := RF.of (rcs_len q c ad qb cb σ) h'.get
        have h2 := (h'.alloc 9 [V.str (strOf σ.buf)]).up 1
        simp only [nthA, outA] at h2
        have hf2 := RF.of (rcs_len q c ad qb cb σ) h2.get
        simp only [V.isK, req_true, getStr_str, hf'.inb 0 (by omega), hf'.cell, hf2.inb 0 (by omega), hf2.cell, c0, Bool.and_self, slPtr_slice, slLen_slice, slCap_slice]
        exact ⟨end_app h' hw (fun q' c' H2 h2 => hQ' _ ⟨q', c', h2⟩), end_app h' hw (fun q' c' H2 h2 => hQ' _ ⟨q', c', h2⟩)⟩

end

end Go.Proofs.YtibkggbidojocaaDoor
