/- One operation of the abstract machine, in the machine: the heap; all operations. -/
import Derived.Test.YtibkggbidojocaaDoorAmHeap
namespace Go.Am
set_option linter.unusedSimpArgs false
set_option linter.unusedVariables false
set_option linter.unusedSectionVars false

section
variable {E : Env} {H0 : Heap} {ρ0 : Ren} {w0 : World} {ann : Ann} {N : Nat} {ρ lam : Ren} {S : St} {a : Act} {w : World}

theorem bytes_loop {g : Value → ByteArray → Sem (ForInStep ByteArray)} (hg : ∀ n r, g (.int .u8 n) r = pure (.yield (r.push (UInt8.ofNat n.toNat)))) :
    ∀ (vs : List V) (us : List Value) (acc : ByteArray), VRs ρ vs us → allK (.int .u8) vs = true →
    (forIn us acc g : Sem ByteArray).run E.P w = .ok (bytesOfCells vs acc) w
  | [], us, acc, h, _ => by rw [h.of_nil]; simp [bytesOfCells]
  | v :: vs, us, acc, h, hk => by
    obtain ⟨u, m, rfl, h1, h2⟩ := h.of_cons
    rw [allK, Bool.and_eq_true] at hk
    have hv : ∃ n, v = .int .u8 n := by
      cases v <;> simp [V.isK] at hk
      exact ⟨_, by rw [hk.1]⟩
    obtain ⟨n, rfl⟩ := hv
    rw [h1.int_eq]
    have ih := bytes_loop hg vs m (acc.push (UInt8.ofNat n.toNat)) h2 hk.2
    simp only [List.forIn_cons, hg, Sem.run_bind, Sem.run_pure, Result.andThen_ok, bytesOfCells, V.getInt]
    exact ih

theorem bytes_zero {p : Nat × Nat} {c : Nat} {x : Value} (hx : VR ρ (.slice (some p) 0 c) x) : (Conv.bytesToString x).run E.P w = .ok (.string .empty) w := by
  obtain ⟨id, off⟩ := p
  rcases hx.slice_eq with ⟨b, _, rfl⟩ | ⟨_, _, a, rfl⟩
  · simp [Conv.bytesToString, loadCells, loadCellsFrom]
  · simp [Conv.bytesToString, loadCells, loadCellsFrom]

theorem bytes_sound {H : Heap} (hr : HR ρ H w) {id off len c : Nat} {x : Value} (hx : VR ρ (.slice (some (id, off)) len c) x) (h : H.inb id off len = true) (hk : allK (.int .u8) (H.sub id off len) = true) :
    (Conv.bytesToString x).run E.P w = .ok (.string (bytesOfCells (H.sub id off len) ByteArray.empty)) w := by
  obtain ⟨e, cs, ro, hg, hle, b, hb, cs', fz, hcell, hvs, _, _⟩ := hr_cells hr h
  rcases hx.slice_eq with ⟨b', hb', rfl⟩ | ⟨h0, _, a, rfl⟩
  rotate_left
  · subst h0
    simp [Conv.bytesToString, loadCells, loadCellsFrom, Heap.sub, bytesOfCells]
  rw [hb] at hb'
  cases hb'
  have hsub : H.sub id off len = (cs.drop off).take len := by simp [Heap.sub, Heap.cs, hg]
  have hlen : cs'.size = cs.length := by have := hvs.1; simp at this; omega
  have hrun := run_loadCells_list (P := E.P) w ⟨b, off, none⟩ ((cs'.toList.drop off).take len) (by
    intro j v hv
    rw [add_addr, cell_at hcell]
    rw [List.getElem?_take] at hv
    split at hv
    · rw [List.getElem?_drop] at hv
      simpa using hv
    · cases hv)
  have hl : ((cs'.toList.drop off).take len).length = len := by simp; omega
  rw [hl] at hrun
  simp only [Conv.bytesToString, Sem.run_bind, hrun, Result.andThen_ok, ← Array.forIn_toList]
  rw [bytes_loop (E := E) (fun n r => rfl) (H.sub id off len) ((cs'.toList.drop off).take len) ByteArray.empty (by rw [hsub]; exact (hvs.drop off).take len) hk]
  rfl

theorem hread_sound {o : Oper} {ev : Ev} {e : Operand → Value} (hev : EvR ρ lam ev e) {H : Heap} (hr : HR ρ H w) {d : Dec T} (h : hreadOp E o.op ev H = some d) (hq : d.rq = true) :
    ∃ v, (execOp e o).run E.P w = .ok (.value v) w ∧ TR ρ lam (if d.c = true then d.x else d.y) v := by
  obtain ⟨dst, op, type, pos, after, guard⟩ := o
  cases op with
  | load t a =>
    simp only [hreadOp] at h
    split at h
    · rename_i id off ha
      obtain ⟨b, hb, he⟩ := (hev.tv ha).ptr_eq
      have key : ∀ n, H.inb id off n = true → ∃ cs e ro, H.get id = some (.cells e cs ro) ∧ CellsR ρ e cs (!ro) w.heap[b]? ∧ off + n ≤ cs.length := by
        intro n hn
        obtain ⟨e, cs, ro, hg, hle, b', hb', hc⟩ := hr_cells hr hn
        rw [hb] at hb'
        cases hb'
        exact ⟨cs, e, ro, hg, hc, hle⟩
      split at h
      · rename_i k hk
        simp only [Option.some.injEq] at h
        subst h
        simp only [Dec.one, Bool.and_eq_true] at hq
        obtain ⟨cs, el, ro, hg, hc, hle⟩ := key 1 hq.1
        have hcell : H.cell id off = nthV cs off := by simp [Heap.cell, Heap.cs, hg]
        obtain ⟨v', h1, h2⟩ := load_sound (E := E) (t := t) (off := off) (r := true) (v := (H.cell id off).asK k) hc (by
          simp only [partOf, hk, hcell, Option.some.injEq, Prod.mk.injEq, and_true]
          rw [hcell] at hq
          simp [hq.2]; omega) rfl (fun cs' he => by rw [V.asK_eq hq.2] at he; have := V.one_of_isK hq.2; rw [he] at this; cases this)
        exact ⟨v', by simp [execOp, Instr.loadAt, he, Instr.sureAddr, h1], .v h2⟩
      · rename_i hk
        split at h
        · rename_i ks n hks hn
          simp only [Option.some.injEq] at h
          subst h
          simp only [Dec.one, Bool.and_eq_true] at hq
          obtain ⟨cs, el, ro, hg, hc, hle⟩ := key n hq.1
          have hsub : H.sub id off n = (cs.drop off).take n := by simp [Heap.sub, Heap.cs, hg]
          obtain ⟨v', h1, h2⟩ := load_sound (E := E) (t := t) (off := off) (r := true) (v := .agg ((cs.drop off).take n)) hc (by
            simp only [partOf, hk, hks, hn, Option.some.injEq, Prod.mk.injEq, and_true]
            simpa using hle) rfl (fun cs' he => by cases he; exact .inr (fits_one (hsub ▸ hq.2)))
          refine ⟨v', by simp [execOp, Instr.loadAt, he, Instr.sureAddr, h1], .v ?_⟩
          rw [expand_eq hq.2 rfl, hsub]
          exact h2
        · cases h
    · cases h
  | convert s t x =>
    simp only [hreadOp] at h
    split at h
    · rename_i ti p len c hti hk hx
      obtain ⟨ds, hus, hds⟩ := shape_ti hti
      obtain ⟨dt, hut, hdt⟩ := kind_desc hk
      split at h
      · rename_i el hs
        rw [hs] at hds
        cases desc_slice hds
        split at h
        · rename_i hel
          obtain ⟨de, hue, hde⟩ := kind_desc hel
          simp only [Option.some.injEq] at h
          subst h
          cases dt <;> simp [shapeOf, shapeK] at hdt
          cases de <;> simp [shapeOf, shapeK] at hde
          subst hde
          have hv := hev.v hx
          change strOk H p len = true at hq
          show ∃ v, _ ∧ TR ρ lam (T.v (V.str (strAt H p len))) v
          unfold strOk at hq
          unfold strAt
          cases p with
          | none =>
            have he := hv.slice_none
            exact ⟨.string .empty, by simp [execOp, convert, run_underlying hus, run_underlying hut, run_underlying hue, he, Conv.bytesToString], .v (.str _)⟩
          | some q =>
            obtain ⟨id, off⟩ := q
            have hsl : ∃ a n c', e x = .slice a n c' := by
              rcases hv.slice_eq with ⟨b, _, he⟩ | ⟨_, _, a, he⟩
              · exact ⟨_, _, _, he⟩
              · exact ⟨_, _, _, he⟩
            obtain ⟨a, n, c', he⟩ := hsl
            by_cases h0 : len = 0
            · subst h0
              have hb := bytes_zero (E := E) (w := w) hv
              rw [he] at hb
              exact ⟨.string .empty, by simp [execOp, convert, run_underlying hus, run_underlying hut, run_underlying hue, he, hb], .v (.str _)⟩
            have hz : Nat.beq len 0 = false := by rw [beq_iff]; simp [h0]
            simp only [Option.isNone_some, Bool.false_or, hz, Option.getD_some, Bool.and_eq_true] at hq
            have hb := bytes_sound (E := E) hr hv hq.1 hq.2
            rw [he] at hb
            simp only [Option.isNone_some, hz, Bool.or_self, cond_false, Option.getD_some]
            exact ⟨_, by simp [execOp, convert, run_underlying hus, run_underlying hut, run_underlying hue, he, hb], .v (.str _)⟩
        · cases h
      · cases h
    · cases h
  | _ => simp [hreadOp] at h

theorem resolve_value {e : Operand → Value} {c : Call} {type : TypeId} {f : Operand} (hc : c.callee = .value f) : resolve e c type = Deferred.ofValue (e f) (c.args.map e) := by
  simp [resolve, hc]

theorem names_ok {fn : Func} {f : Nat} (h : E.P.funcs[f]? = some fn) : (fn.name == "runtime.NumGoroutine") = false := by
  have h1 := List.all_eq_true.1 E.names fn (by
    rw [Array.mem_toList_iff]
    exact Array.mem_of_getElem? h)
  simpa using h1

/-- A call of a function that has a body. -/
theorem run_call {e : Operand → Value} {o : Oper} {c : Call} {f : Operand} {g : FuncId} {cap : Array Value} {fn : Func} (ho : o.op = .call c) (hc : c.callee = .value f)
    (he : e f = .func (.func g) #[] cap) (hf : E.P.funcs[g]? = some fn) (hb : fn.body.isSome = true) (w : World) :
    (execOp e o).run E.P w = .ok (.enter g (c.args.map e ++ cap)) w := by
  have hn : ¬ fn.name = "runtime.NumGoroutine" := by simpa using names_ok hf
  have hb' : ¬ fn.body = none := by cases h : fn.body <;> simp_all
  simp [execOp, ho, resolve_value hc, he, Deferred.ofValue, invoke, callFunc, hf, hn, hb']

theorem run_callFunc {e : Operand → Value} {o : Oper} {c : Call} {f : Operand} {g : FuncId} {cap : Array Value} (ho : o.op = .call c) (hc : c.callee = .value f)
    (he : e f = .func (.func g) #[] cap) (w : World) : (execOp e o).run E.P w = (callFunc g (c.args.map e ++ cap)).run E.P w := by
  simp [execOp, ho, resolve_value hc, he, Deferred.ofValue, invoke]

theorem upon_value {P : Program} {o : Oper} {a : Act} {next : Act → World → Prop} {Q : Exit → Act → World → Prop} {w w' : World} {v : Value}
    (h : (execOp a.eval o).run P w = .ok (.value v) w') (hn : next (a.put o.dst v) w') : o.wp P a w next Q := by
  unfold Oper.wp
  rw [h]
  exact hn

theorem upon_skip {P : Program} {o : Oper} {a : Act} {next : Act → World → Prop} {Q : Exit → Act → World → Prop} {w w' : World}
    (h : (execOp a.eval o).run P w = .ok .skip w') (hn : next (a.put o.dst undef) w') : o.wp P a w next Q := by
  unfold Oper.wp
  rw [h]
  exact hn

theorem hsimple_sound (h : SR H0 ρ0 w0 ann N ρ lam S a w) {o : Oper} {r : Bool} {x : T} {H' : Heap}
    (ho : hsimpleOp E o.op (evalO S.tm) S.hp = some (r, x, H')) (hr : r = true) :
    ∃ ρ' v w', (execOp a.eval o).run E.P w = .ok (.value v) w' ∧ SR H0 ρ0 w0 ann N ρ' lam { S with hp := H' } a w' ∧ TR ρ' lam x v := by
  have hev := h.ev
  obtain ⟨dst, op, type, pos, after, guard⟩ := o
  cases op with
  | buildSlice t len parts =>
    simp only [hsimpleOp] at ho
    split at ho
    · rename_i ti ps hti hps
      obtain ⟨ds, hus, hds⟩ := shape_ti hti
      split at ho
      · rename_i el hsh
        rw [hsh] at hds
        cases desc_slice hds
        split at ho
        · rename_i n ei hsz hei
          split at ho
          · rename_i z hz
            obtain ⟨z', hz1, hz2, hz3⟩ := zero_spec (E := E) hei hz ρ w
            cases hb : (Nat.beq z.cells.length n && natPos n && Nat.ble (len * n) 16777216) with
            | false => simp [hb] at ho
            | true =>
              simp only [hb, cond_true] at ho
              simp only [Bool.and_eq_true] at hb
              have hn : z.cells.length = n := Nat.eq_of_beq_eq_true hb.1.1
              have hp : 0 < n := by
                have := hb.1.2
                cases n with
                | zero => cases this
                | succ n => omega
              have hle : len * n ≤ 16777216 := Nat.le_of_ble_eq_true hb.2
              split at ho
              · rename_i r' cs hcs
                simp only [Option.some.injEq, Prod.mk.injEq] at ho
                obtain ⟨rfl, rfl, rfl⟩ := ho
                obtain ⟨h1, h2⟩ := evParts_sound hev hps
                have hparts : (parts.map fun p => (p.1, a.eval p.2)).toList = parts.toList.map fun p => (p.1, a.eval p.2) := by simp
                obtain ⟨zc, hzc⟩ : ∃ zc : Array Value, zc = if len * n = 0 then #[] else z'.cells := ⟨_, rfl⟩
                have hrow : VRs ρ (repV len z.cells) ((Array.range (len * n)).map (zc[· % zc.size]!)).toList := by
                  by_cases h0 : len * n = 0
                  · have hl : len = 0 := by
                      rcases Nat.mul_eq_zero.1 h0 with h | h
                      · exact h
                      · omega
                    subst hl
                    simpa [repV] using VRs.nil ρ
                  · rw [if_neg h0] at hzc
                    rw [hzc]
                    exact repV_rel hz2 hn hp
                obtain ⟨out', h3, h4, h5⟩ := fill_sound (E := E) (place' := fun j => some (j * n, n)) (by
                  intro i off t m hp' hm
                  simp only [Option.some.injEq, Prod.mk.injEq] at hp' ⊢
                  obtain ⟨h1, rfl⟩ := hp'
                  rw [hsz] at hm
                  exact ⟨h1, Option.some.inj hm⟩) h1 h2 hrow (repV_one hz3 len) hcs hr
                rw [← hparts] at h3
                have hpush : Pushed (.cells out' el) w { w with heap := w.heap.push (.cells out' el) } := ⟨rfl, rfl, rfl, rfl⟩
                refine ⟨_, .slice (some ⟨w.heap.size, 0, none⟩) len len, { w with heap := w.heap.push (.cells out' el) }, ?_, h.newH hpush (x := .cells el cs false) (cells_new h4 h5),
                  .v (.slice _ _ (by rw [updR, if_pos rfl]))⟩
                have hbig : ¬ len * n > 2 ^ 24 := by omega
                by_cases h0 : len * n = 0
                · rw [if_pos h0] at hzc
                  subst hzc
                  simp only [execOp, Instr.buildSlice, Sem.run_bind, run_underlying hus, Result.andThen_ok, run_size hsz, if_neg hbig, if_pos h0, h3, Sem.run_pure, newRow, newObj]
                  rfl
                · rw [if_neg h0] at hzc
                  subst hzc
                  simp only [execOp, Instr.buildSlice, Sem.run_bind, run_underlying hus, Result.andThen_ok, run_size hsz, if_neg hbig, if_neg h0, hz1, h3, Sem.run_pure, newRow, newObj]
                  rfl
              · cases ho
          · cases ho
        · cases ho
      · cases ho
    · cases ho
  | makeSlice t len cap =>
    simp only [hsimpleOp] at ho
    split at ho
    · rename_i el n by' z k l k' c hel hl hc
      simp only [Option.some.injEq, Prod.mk.injEq] at ho
      obtain ⟨rfl, rfl, rfl⟩ := ho
      simp only [Bool.and_eq_true, decide_eq_true_eq] at hr
      obtain ⟨inf, z', hut, hi, hz, hsz, hby, hzl, hpos, hzs, hzo, hzr⟩ := elem_spec hel
      have e1 := (hev.v hl).int_eq
      have e2 := (hev.v hc).int_eq
      have hrun := run_makeSlice (E := E) (w := w) (t := t) (by' := 0) (n := 0) (z := []) hut hi hz (by omega) (by omega) (k := k) (k' := k') hr.1 hr.2.1 (by rw [hby]; exact hr.2.2)
      have hp : Pushed (.cells (Builtin.zeroCells z'.cells c.toNat) el) w (w.alloc (.cells (Builtin.zeroCells z'.cells c.toNat) el)) := ⟨rfl, rfl, rfl, rfl⟩
      exact ⟨_, .slice (some ⟨w.heap.size, 0, none⟩) l.toNat c.toNat, w.alloc (.cells (Builtin.zeroCells z'.cells c.toNat) el), by simp [execOp, e1, e2, hrun], h.newH hp (x := .cells el (repV c.toNat z) false) (cells_new (zeroRow_rel (hzr ρ) hzl hpos _) (repV_one hzo _)),
        .v (.slice _ _ (by rw [updR, if_pos rfl]))⟩
    · cases ho
  | convert s d x =>
    simp only [hsimpleOp] at ho
    split at ho
    · rename_i p len cap ti hk hx hti
      obtain ⟨ds, hus, hds⟩ := kind_desc hk
      obtain ⟨dd, hud, hdd⟩ := shape_ti hti
      split at ho
      · rename_i e hsh
        rw [hsh] at hdd
        cases desc_slice hdd
        split at ho
        · rename_i hel
          obtain ⟨de, hue, hde⟩ := kind_desc hel
          simp only [Option.some.injEq, Prod.mk.injEq] at ho
          obtain ⟨rfl, rfl, rfl⟩ := ho
          simp only [Bool.and_eq_true] at hr
          obtain ⟨hsd, hp, hcap, hwr⟩ := hr
          have hsd : s = d := Nat.eq_of_beq_eq_true hsd
          subst hsd
          cases de <;> simp [shapeOf, shapeK] at hde
          subst hde
          cases p with
          | none => cases hp
          | some q =>
            obtain ⟨id, off⟩ := q
            obtain ⟨e', cs, b, hg, hle, hb, hc⟩ := wr_spec h.hr hwr
            have hv := hev.v hx
            rcases hv.slice_eq with ⟨b', hb', he⟩ | ⟨h0, h1, ad, he⟩
            · simp only [Option.getD_some] at hb
              rw [hb] at hb'
              cases hb'
              obtain ⟨w', g1, g2, g3⟩ := mark_sound (E := E) (off := off) hc
              have hs := h.putH hg rfl rfl hb g3 (y := .cells e' cs false) g2
              rw [put_same hg] at hs
              exact ⟨ρ, _, w', by simp [execOp, convert, run_underlying hud, run_underlying hue, he, g1], hs, .v (.slice _ _ hb)⟩
            · rw [h1] at hcap; cases hcap
        · cases ho
      · cases ho
    · cases ho
  | call c =>
    simp only [hsimpleOp] at ho
    split at ho
    · rename_i t ts p l cp x hcal hts hargs
      split at ho
      · rename_i el n by' z hel
        split at ho
        · rename_i m ok cs hsrc
          simp only [Option.some.injEq, Prod.mk.injEq, copyOk, copyTo, hsrc] at ho
          obtain ⟨rfl, rfl, rfl⟩ := ho
          have ha : VRs ρ [.slice p l cp, x] (c.args.map a.eval).toList := by simpa using hev.vs hargs
          obtain ⟨s', r1, hr1, hs', hrest⟩ := ha.of_cons
          obtain ⟨x', r2, hr2, hx', hrest2⟩ := hrest.of_cons
          have hr3 := hrest2.of_nil
          subst hr3
          subst hr2
          have hargs' : c.args.map a.eval = #[s', x'] := by
            apply Array.ext'
            rw [hr1]
          have htt : c.argTypes[0]? = some t := by
            rw [← Array.getElem?_toList, hts]; rfl
          obtain ⟨inf, z', hut, hi, hz, hsz, hby, hzl, hpos, hzs, hzo, hzr⟩ := elem_spec hel
          subst hsz
          obtain ⟨hlen, hcells⟩ := src_sound (E := E) h.hr hx' hsrc
          obtain ⟨xs, h1, h2, h3, h4⟩ := hcells (Nat.min m l) (Nat.min_le_left _ _) (by
            by_cases h0 : Nat.min m l = 0
            · exact .inl h0
            · rw [beq_iff] at hr
              simp [h0] at hr
              exact .inr hr.2.1)
          have hsl : ∃ base, s' = .slice base l cp ∧ ∀ w' , (match base with | some ad => storeCells ad xs.toList | none => pure ()).run E.P w = .ok () w' →
              (Builtin.copy_ c.argTypes type (c.args.map a.eval)).run E.P w = .ok (.int .i64 ((Nat.min m l : Nat) : Int)) w' := by
            have hsl : ∃ base, s' = .slice base l cp := by
              cases p with
              | none => exact ⟨_, hs'.slice_none⟩
              | some q =>
                obtain ⟨id, off⟩ := q
                rcases hs'.slice_eq with ⟨b, hb, he⟩ | ⟨h0, h1, ad, he⟩
                · exact ⟨_, he⟩
                · exact ⟨_, by rw [he, h0, h1]⟩
            obtain ⟨base, rfl⟩ := hsl
            refine ⟨base, rfl, fun w' hw => ?_⟩
            rw [hargs']
            cases base with
            | none =>
              simp at hw
              subst hw
              simp [Builtin.copy_, htt, run_underlying hut, hlen, sizeOf, typeInfo, hi, h1, goInt]
            | some ad => simp [Builtin.copy_, htt, run_underlying hut, hlen, sizeOf, typeInfo, hi, h1, hw, goInt]
          obtain ⟨base, rfl, hcopy⟩ := hsl
          by_cases h0 : Nat.min m l = 0
          · have hxs : xs = #[] := by
              have := h2.1
              rw [h4, h0] at this
              apply Array.eq_empty_of_size_eq_zero
              simpa using this.symm
            subst hxs
            have hc := hcopy w (by cases base <;> simp [storeCells_nil])
            rw [beq_iff, decide_eq_true h0, cond_true]
            exact ⟨ρ, .int .i64 (Nat.min m l : Nat), w, by simp only [execOp, resolve, hcal, invoke, builtin, Sem.run_bind, Sem.run_pure, Result.andThen_ok, hc], h, .v (.int _ _)⟩
          · rw [beq_iff, decide_eq_false h0] at hr
            rw [beq_iff, decide_eq_false h0, cond_false]
            simp only [Bool.false_or, Bool.and_eq_true] at hr
            obtain ⟨hp, hok, hwr⟩ := hr
            cases p with
            | none => cases hp
            | some q =>
              obtain ⟨id, off⟩ := q
              simp only [Option.getD_some] at hwr ⊢
              obtain ⟨e, ccs, b, hg, hle, hb, hc⟩ := wr_spec h.hr hwr
              rcases hs'.slice_eq with ⟨b', hb', he⟩ | ⟨hl0, _, _⟩
              · rw [hb] at hb'
                cases hb'
                cases he
                obtain ⟨w', g1, g2, g3⟩ := cells_store (E := E) (off := off) hc h2 h3 (by rw [h4]; exact hle)
                have hst : S.hp.store id off (cs (Nat.min m l)) = S.hp.put id (.cells e (setMany ccs off (cs (Nat.min m l))) false) := by simp [Heap.store, hg]
                rw [hst]
                have hc := hcopy w' g1
                exact ⟨ρ, .int .i64 (Nat.min m l : Nat), w', by simp only [execOp, resolve, hcal, invoke, builtin, Sem.run_bind, Sem.run_pure, Result.andThen_ok, hc], h.putH hg rfl rfl hb g3 g2, .v (.int _ _)⟩
              · exact absurd (by rw [hl0]; exact Nat.min_zero m) h0
        · cases ho
      · cases ho
    · rename_i t ts p l cp hcal hts hargs
      split at ho
      · rename_i el n by' z hel
        simp only [Option.some.injEq, Prod.mk.injEq] at ho
        obtain ⟨rfl, rfl, rfl⟩ := ho
        have ha : VRs ρ [.slice p l cp] (c.args.map a.eval).toList := by simpa using hev.vs hargs
        obtain ⟨s', r1, hr1, hs', hrest⟩ := ha.of_cons
        have hr3 := hrest.of_nil
        subst hr3
        have hargs' : c.args.map a.eval = #[s'] := by
          apply Array.ext'
          rw [hr1]
        have htt : c.argTypes[0]? = some t := by
          rw [← Array.getElem?_toList, hts]; rfl
        obtain ⟨inf, z', hut, hi, hz, hsz, hby, hzl, hpos, hzs, hzo, hzr⟩ := elem_spec hel
        subst hsz
        have key : ∀ w', (Builtin.clear_ c.argTypes type #[s']).run E.P w = .ok (.tuple #[]) w' →
            (execOp a.eval ⟨dst, .call c, type, pos, after, guard⟩).run E.P w = .ok (.value (.tuple #[])) w' := by
          intro w' hw
          simp only [execOp, resolve, hcal, invoke, builtin, Sem.run_bind, Sem.run_pure, Result.andThen_ok, hargs', hw]
        have nop : (p.isNone || Nat.beq l 0) = true → ∃ ρ' v w', (execOp a.eval ⟨dst, .call c, type, pos, after, guard⟩).run E.P w = .ok (.value v) w' ∧
            SR H0 ρ0 w0 ann N ρ' lam { S with hp := S.hp } a w' ∧ TR ρ' lam (.v (.tuple [])) v := by
          intro hn
          refine ⟨ρ, _, w, key w ?_, h, .v (.tuple rfl (fun i x y hx => by simp at hx))⟩
          cases p with
          | none => rw [hs'.slice_none]; simp [Builtin.clear_, htt, run_underlying hut]
          | some q =>
            have hl0 : l = 0 := Nat.eq_of_beq_eq_true (by simpa using hn)
            subst hl0
            obtain ⟨id, off⟩ := q
            rcases hs'.slice_eq with ⟨b, hb, he⟩ | ⟨_, _, ad, he⟩
            · rw [he]; simp [Builtin.clear_, htt, run_underlying hut]
            · rw [he]; simp [Builtin.clear_, htt, run_underlying hut]
        cases hn : (p.isNone || Nat.beq l 0) with
        | true => simpa using nop hn
        | false =>
          rw [hn] at hr
          simp only [Bool.false_or] at hr
          simp only [cond_false]
          cases p with
          | none => cases hn
          | some q =>
            obtain ⟨id, off⟩ := q
            simp only [Option.getD_some] at hr ⊢
            have hl0 : l ≠ 0 := by
              rintro rfl
              cases hn
            obtain ⟨e, ccs, b, hg, hle, hb, hc⟩ := wr_spec h.hr hr
            rcases hs'.slice_eq with ⟨b', hb', he⟩ | ⟨hl0', _, _⟩
            · rw [hb] at hb'
              cases hb'
              cases he
              obtain ⟨w', g1, g2, g3⟩ := cells_store (E := E) (off := off) hc (zeroRow_rel (hzr ρ) hzl hpos l) (repV_one hzo l) (by rw [repV_len, hzl]; exact hle)
              have hst : S.hp.store id off (rowV l z) = S.hp.put id (.cells e (setMany ccs off (rowV l z)) false) := by simp [Heap.store, hg]
              rw [hst]
              refine ⟨ρ, _, w', key w' ?_, h.putH hg rfl rfl hb g3 g2, .v (.tuple rfl (fun i x y hx => by simp at hx))⟩
              cases l with
              | zero => exact absurd rfl hl0
              | succ l => simp [Builtin.clear_, htt, run_underlying hut, zeroValue, typeInfo, hi, hz, g1]
            · exact absurd hl0' hl0
      · cases ho
    · cases ho
  | _ => simp [hsimpleOp] at ho

theorem hwrite_sound {R : Rec} (hX : ExtSound E) (hR : ∀ f args H K, R.call f args H K → SoundCall E f args H K) (hB : ∀ f args H K, R.call f args H K → ∃ fn, E.P.funcs[f]? = some fn ∧ fn.body.isSome = true)
    (h : SR H0 ρ0 w0 ann N ρ lam S a w) {o : Oper} {K : T → Heap → Prop}
    (ho : hwriteOp E R o.op o.type (evalO S.tm) S.hp K) {next : Act → World → Prop} {Q : Exit → Act → World → Prop}
    (hn : ∀ x H' ρ' v w', K x H' → SR H0 ρ0 w0 ann N ρ' lam { S with hp := H' } a w' → TR ρ' lam x v → next (a.put o.dst v) w') : o.wp E.P a w next Q := by
  have hev := h.ev
  obtain ⟨dst, op, type, pos, after, guard⟩ := o
  cases op with
  | alloc t =>
    simp only [hwriteOp] at ho
    split at ho
    · rename_i i hi
      split at ho
      · rename_i z hz
        obtain ⟨z', h1, h2, h3⟩ := zero_spec hi hz ρ w
        have hp : Pushed (.cells z'.cells t) w { w with heap := w.heap.push (.cells z'.cells t) } := ⟨rfl, rfl, rfl, rfl⟩
        refine upon_value (v := .pointer (some ⟨w.heap.size, 0, none⟩)) (w' := { w with heap := w.heap.push (.cells z'.cells t) }) (by simp [execOp, Instr.alloc, h1, newVar, newRow]) ?_
        exact hn _ _ _ _ _ ho (h.newH hp (x := .cells t z.cells false) (cells_new h2 h3)) (.v (.ptr (by rw [updR, if_pos rfl])))
      · exact ho.elim
    · exact ho.elim
  | box t x =>
    simp only [hwriteOp] at ho
    split at ho
    · rename_i v hv
      split at ho
      · rename_i r vs hvs
        obtain ⟨hr, ho⟩ := req_elim ho
        obtain ⟨h2, h3⟩ := cellsFor_sound (hev.v hv) hvs hr
        have hp : Pushed (.cells (a.eval x).cells t) w { w with heap := w.heap.push (.cells (a.eval x).cells t) } := ⟨rfl, rfl, rfl, rfl⟩
        refine upon_value (v := .pointer (some ⟨w.heap.size, 0, none⟩)) (w' := { w with heap := w.heap.push (.cells (a.eval x).cells t) }) (by simp [execOp, Instr.box, newVar, newRow]) ?_
        exact hn _ _ _ _ _ ho (h.newH hp (x := .cells t vs false) (cells_new h2 h3)) (.v (.ptr (by rw [updR, if_pos rfl])))
      · exact ho.elim
    · exact ho.elim
  | store t ad x =>
    simp only [hwriteOp] at ho
    split at ho
    · rename_i id off v ha hx
      split at ho
      · rename_i r vs hvs
        obtain ⟨hr, ho⟩ := req_elim ho
        rw [Bool.and_eq_true] at hr
        have hwr := hr.2
        unfold Heap.wr at hwr
        split at hwr
        · rename_i e cs ro hg
          rw [Bool.and_eq_true] at hwr
          have hro : ro = false := by simpa using hwr.1
          subst hro
          obtain ⟨b, hb, hc⟩ := h.hr.obj id _ hg
          obtain ⟨b', hb', he⟩ := (hev.tv ha).ptr_eq
          rw [hb] at hb'
          cases hb'
          obtain ⟨w', h1, h2, h3⟩ := store_sound (E := E) (t := t) hc (hev.v hx) hvs hr.1 (Nat.le_of_ble_eq_true hwr.2)
          refine upon_skip (w' := w') (by simp [execOp, Instr.storeAt, he, Instr.sureAddr, h1]) ?_
          have hst : S.hp.store id off vs = S.hp.put id (.cells e (setMany cs off vs) false) := by simp [Heap.store, hg]
          rw [hst] at ho
          exact hn _ _ _ _ _ ho (h.putH hg rfl rfl hb h3 h2) .undef
        · cases hwr
      · exact ho.elim
    · exact ho.elim
  | call c =>
    simp only [hwriteOp] at ho
    split at ho
    · rename_i f args hc hargs
      split at ho
      · rename_i fv hf
        unfold callV at ho
        split at ho
        rotate_left
        · exact ho.elim
        rename_i g cap
        obtain ⟨cap', he, hcap⟩ := (hev.v hf).func_iff
        have has : VRs ρ (args ++ cap) (c.args.map a.eval ++ cap').toList := by
          rw [Array.toList_append]
          exact (by simpa using hev.vs hargs : VRs ρ args (c.args.map a.eval).toList).append hcap
        have post : ∀ v v' H' ρ' w', (match openV E type v with | some (b, v') => req b (K (.v v') H') | none => False) → VR ρ' v v' → HR ρ' H' w' → Since S.hp ρ w H' ρ' w' → next (a.put dst v') w' := by
          intro v v' H' ρ' w' hk hv hhr hs
          revert hk
          split
          · rename_i b y hy
            intro hk
            obtain ⟨hb, hk⟩ := req_elim hk
            rw [openV_eq hy hb] at hk
            exact hn _ _ _ _ _ hk (h.call hs hhr) (.v hv)
          · exact fun hk => hk.elim
        split at ho
        · unfold extCall at ho
          split at ho
          · rename_i x hx
            rcases hX g x hx _ _ _ ho ρ w _ h.hr has with ⟨v, v', w', H', ρ', hrun, hk, hv, hhr, hs⟩ | ⟨hrun, hcall⟩
            · exact upon_value (by rw [run_callFunc (E := E) rfl hc he, hrun]) (post v v' H' ρ' w' hk hv hhr hs)
            · unfold Oper.wp
              rw [run_callFunc (E := E) rfl hc he, hrun]
              refine hcall.mono ?_
              rintro e w' ⟨v, v', H', ρ', rfl, hk, hv, hhr, hs⟩
              exact post v v' H' ρ' w' hk hv hhr hs
          · exact ho.elim
        · obtain ⟨fn, hfn, hbody⟩ := hB _ _ _ _ ho
          have hrun := run_call (E := E) (e := a.eval) (o := ⟨dst, .call c, type, pos, after, guard⟩) rfl hc he hfn hbody w
          have hcall := hR _ _ _ _ ho ρ w _ h.hr has
          unfold Oper.wp
          rw [hrun]
          refine hcall.mono ?_
          rintro e w' ⟨v, v', H', ρ', rfl, hk, hv, hhr, hs⟩
          exact post v v' H' ρ' w' hk hv hhr hs
      · exact ho.elim
    · rename_i args hc hargs
      obtain ⟨q, n, cp, H', ρ', v, w', hk, hrun, hs, hv⟩ := append_sound (E := E) h (args' := c.args.map a.eval) (ty := type) (by simpa using hev.vs hargs) ho
      refine upon_value ?_ (hn _ _ _ _ _ hk hs hv)
      have hrun' : (Builtin.append_ c.argTypes type (c.args.map a.eval)).run E.P w = .ok v w' := by simpa using hrun
      simp only [execOp, resolve, hc, invoke, builtin, Sem.run_bind, Sem.run_pure, Result.andThen_ok, hrun']
    · split at ho
      · rename_i r x H' hs
        obtain ⟨hr, ho⟩ := req_elim ho
        obtain ⟨ρ', v, w', h1, h2, h3⟩ := hsimple_sound h (o := ⟨dst, .call c, type, pos, after, guard⟩) hs hr
        exact upon_value h1 (hn _ _ _ _ _ ho h2 h3)
      · exact ho.elim
  | convert s d x =>
    simp only [hwriteOp] at ho
    split at ho
    · rename_i by' ti hk hx hti
      split at ho
      · rename_i el hsh
        split at ho
        · rename_i hel
          obtain ⟨hr, ho⟩ := req_elim ho
          have hbig := Nat.le_of_ble_eq_true hr
          obtain ⟨ds, hus, hds⟩ := kind_desc hk
          obtain ⟨dd, hud, hdd⟩ := shape_ti hti
          rw [hsh] at hdd
          cases desc_slice hdd
          obtain ⟨de, hue, hde⟩ := kind_desc hel
          cases de <;> simp [shapeOf, shapeK] at hde
          subst hde
          have he := (hev.v hx).str_eq
          have hcap1 := grownCap_ge w by'.size 0 el
          have hcap2 := grownCap_le_maxLen w by'.size 0 el (by simp only [maxLen]; omega)
          have hk := ho (grownCap w by'.size 0 el) hcap1 (by simp only [maxLen] at hcap2; omega)
          obtain ⟨row, hrow⟩ : ∃ row : Array Value, row = by'.data.map (fun b => Value.int .u8 b.toNat) ++ Array.replicate (grownCap w by'.size 0 el - by'.size) (.int .u8 0) := ⟨_, rfl⟩
          have hzr : VRs ρ (repV (grownCap w by'.size 0 el - by'.size) [.int .u8 0]) (Array.replicate (grownCap w by'.size 0 el - by'.size) (Value.int .u8 0)).toList := by
            refine ⟨by simp [repV_len], ?_⟩
            intro i x y hx hy
            have hi : i < grownCap w by'.size 0 el - by'.size := by
              rcases Nat.lt_or_ge i (grownCap w by'.size 0 el - by'.size) with h | h
              · exact h
              · rw [List.getElem?_eq_none (by simpa using h)] at hy; cases hy
            rw [repV_get (by simp) _ _ (by simpa using hi)] at hx
            have h1 := List.mem_of_getElem? hx
            have h2 := List.mem_of_getElem? hy
            simp only [List.mem_singleton] at h1
            simp at h2
            rw [h1, h2.2]
            exact .int _ _
          have hrel := (strCells_rel ρ by').append hzr
          have h1 := h.newH (o := .cells row el) (w' := w.drew.alloc (.cells row el)) ⟨rfl, rfl, rfl, rfl⟩ (x := .cells el (catV (strCells by') (repV (grownCap w by'.size 0 el - by'.size) [.int .u8 0])) false)
            (cells_new (by rw [hrow]; simpa [catV] using hrel) ((strCells_one by').append (repV_one (by intro v hv; simp at hv; rw [hv]; rfl) _)))
          have hg : (S.hp.alloc (.cells el (catV (strCells by') (repV (grownCap w by'.size 0 el - by'.size) [.int .u8 0])) false)).get S.hp.next = some (.cells el (catV (strCells by') (repV (grownCap w by'.size 0 el - by'.size) [.int .u8 0])) false) := by
            simp [Heap.alloc]
          obtain ⟨b, hb, hc⟩ := h1.hr.obj _ _ hg
          obtain ⟨w2, g1, g2, g3⟩ := mark_sound (E := E) (off := 0) hc
          have hs := h1.putH hg rfl rfl hb g3 (y := .cells el (catV (strCells by') (repV (grownCap w by'.size 0 el - by'.size) [.int .u8 0])) false) g2
          rw [put_same hg] at hs
          have hbb : b = w.heap.size := by rw [updR, if_pos rfl] at hb; exact (Option.some.inj hb).symm
          subst hbb
          refine upon_value (v := .slice (some ⟨w.heap.size, 0, none⟩) by'.size (grownCap w by'.size 0 el)) (w' := w2) ?_ (hn _ _ _ _ _ hk hs (.v (.slice _ _ hb)))
          have hch : (choose (.appendCap by'.size 0 el)).run E.P w = .ok (grownCap w by'.size 0 el) w.drew := by simp [Question.forced, grownCap]
          cases ds <;> simp [shapeOf, shapeK] at hds
          simp only [execOp, convert, Sem.run_bind, run_underlying hus, run_underlying hud, run_underlying hue, Result.andThen_ok, he, Conv.stringToBytes, hch, newRow, ← hrow]
          have hn2 : (Sem.new (.cells row el) Sem.pure).run E.P w.drew = .ok w.heap.size (w.drew.alloc (.cells row el)) := rfl
          simp [newObj, hn2, g1]
        · exact ho.elim
      · exact ho.elim
    · split at ho
      · rename_i r x' H' hs
        obtain ⟨hr, ho⟩ := req_elim ho
        obtain ⟨ρ', v, w', h1, h2, h3⟩ := hsimple_sound h (o := ⟨dst, .convert s d x, type, pos, after, guard⟩) hs hr
        exact upon_value h1 (hn _ _ _ _ _ ho h2 h3)
      · exact ho.elim
  | makeSlice t len cap =>
    simp only [hwriteOp] at ho
    split at ho
    · rename_i r x H' hs
      obtain ⟨hr, ho⟩ := req_elim ho
      obtain ⟨ρ', v, w', h1, h2, h3⟩ := hsimple_sound h (o := ⟨dst, .makeSlice t len cap, type, pos, after, guard⟩) hs hr
      exact upon_value h1 (hn _ _ _ _ _ ho h2 h3)
    · exact ho.elim
  | buildSlice t len parts =>
    simp only [hwriteOp] at ho
    split at ho
    · rename_i r x H' hs
      obtain ⟨hr, ho⟩ := req_elim ho
      obtain ⟨ρ', v, w', h1, h2, h3⟩ := hsimple_sound h (o := ⟨dst, .buildSlice t len parts, type, pos, after, guard⟩) hs hr
      exact upon_value h1 (hn _ _ _ _ _ ho h2 h3)
    · exact ho.elim
  | _ => simp [hwriteOp, hsimpleOp] at ho

theorem coreO_sound {R : Rec} (hX : ExtSound E) (hR : ∀ f args H K, R.call f args H K → SoundCall E f args H K) (hB : ∀ f args H K, R.call f args H K → ∃ fn, E.P.funcs[f]? = some fn ∧ fn.body.isSome = true)
    (h : SR H0 ρ0 w0 ann N ρ lam S a w) {o : Oper} {K : St → Prop} (hc : coreO E R ann N o S K) {next : Act → World → Prop} {Q : Exit → Act → World → Prop}
    (hn : ∀ S' ρ' lam' a' w', SR H0 ρ0 w0 ann N ρ' lam' S' a' w' → K S' → next a' w') : o.wp E.P a w next Q := by
  have hev := h.ev
  have hL : ∀ s M, S.lo s = some M → ∃ b, lam s = some b ∧ LocR ρ M w.heap[b]? := by
    intro s M hM
    obtain ⟨b, h1, h2, _⟩ := h.lo s M hM
    exact ⟨b, h1, h2⟩
  unfold coreO at hc
  cases hcl : cls E ann o with
  | pure =>
    simp only [hcl] at hc
    split at hc
    · rename_i d hd
      obtain ⟨hr, hk⟩ := Dec.run_elim hc
      obtain ⟨v, h1, h2⟩ := pureOp_sound (w := w) hev hd hr
      obtain ⟨hok, hk⟩ := putK_iff.1 hk
      exact upon_value h1 (hn _ _ _ _ _ (h.put h2 hok) hk)
    · exact hc.elim
  | lload s =>
    simp only [hcl] at hc
    split at hc
    · rename_i d hd
      obtain ⟨hr, hk⟩ := Dec.run_elim hc
      obtain ⟨v, h1, h2⟩ := lload_sound (w := w) hev hd hr (hL s)
      obtain ⟨hok, hk⟩ := putK_iff.1 hk
      exact upon_value h1 (hn _ _ _ _ _ (h.put h2 hok) hk)
    · exact hc.elim
  | lstore s =>
    simp only [hcl] at hc
    split at hc
    · rename_i d hd
      obtain ⟨hr, hk⟩ := Dec.run_elim hc
      obtain ⟨M, b, w', v, hM, hb, ho, hl, hx, hrun⟩ := lstore_sound (w := w) hev hd hr (hL s)
      obtain ⟨hok, hk⟩ := putK_iff.1 hk
      have h' := (h.setL hM hb ho hl).put hx hok
      rcases hrun with hrun | ⟨rfl, hrun⟩
      · exact upon_value hrun (hn _ _ _ _ _ h' hk)
      · exact upon_skip hrun (hn _ _ _ _ _ h' hk)
    · exact hc.elim
  | lnew =>
    simp only [hcl] at hc
    split at hc
    · rename_i d r L hdst hd
      obtain ⟨hr, hk⟩ := req_elim hc
      obtain ⟨x, w', h1, h2, h3⟩ := lnew_sound (w := w) hev hd hr
      obtain ⟨hok, hk⟩ := putK_iff.1 hk
      have hs := (h.newL h2 h3).put (dst := some d) (x := .lp d 0) (v := .pointer (some ⟨w.heap.size, 0, none⟩)) (.lp (by rw [updR, if_pos rfl])) hok
      refine upon_value h1 ?_
      rw [hdst]
      exact hn _ _ _ _ _ hs hk
    · exact hc.elim
  | hread =>
    simp only [hcl] at hc
    split at hc
    · rename_i d hd
      obtain ⟨hr, hk⟩ := Dec.run_elim hc
      obtain ⟨v, h1, h2⟩ := hread_sound (w := w) hev h.hr hd hr
      obtain ⟨hok, hk⟩ := putK_iff.1 hk
      exact upon_value h1 (hn _ _ _ _ _ (h.put h2 hok) hk)
    · exact hc.elim
  | hwrite =>
    simp only [hcl] at hc
    refine hwrite_sound hX hR hB h hc ?_
    intro x H' ρ' v w' hk hs hx
    obtain ⟨hok, hk⟩ := putK_iff.1 hk
    exact hn _ _ _ _ _ (hs.put hx hok) hk

theorem yielded_spec {ops : Array Oper} {j : Nat} {t : T} (h : SR H0 ρ0 w0 ann N ρ lam S a w) (hy : yieldedA ops.toList S.tm j = some t) :
    (∀ b, t = .v (.bool b) → yielded ops a.tmps j = some b) ∧ (t = .undef → yielded ops a.tmps j = none) := by
  unfold yieldedA at hy
  split at hy
  · rename_i o ho
    split at hy
    · rename_i d hd
      have ho' : ops[j]? = some o := by simpa using ho
      have ht := h.tm d t hy
      have key : yielded ops a.tmps j = match a.tmps[d]? with | some (.bool b) => some b | _ => none := by
        simp only [yielded, ho', Option.bind_some, hd]
        cases a.tmps[d]? with
        | none => rfl
        | some x => cases x <;> rfl
      rw [key]
      rw [Array.getD_eq_getD_getElem?] at ht
      constructor
      · rintro b rfl
        cases hq : a.tmps[d]? with
        | none => rw [hq] at ht; simp only [Option.getD_none, undef] at ht; cases ht with | v h => cases h
        | some x => rw [hq] at ht; simp only [Option.getD_some] at ht; cases ht with | v h => cases h; rfl
      · rintro rfl
        cases hq : a.tmps[d]? with
        | none => rfl
        | some x => rw [hq] at ht; simp only [Option.getD_some] at ht; cases ht; rfl
    · cases hy
  · cases hy

theorem stepO_sound {R : Rec} (hX : ExtSound E) (hR : ∀ f args H K, R.call f args H K → SoundCall E f args H K) (hB : ∀ f args H K, R.call f args H K → ∃ fn, E.P.funcs[f]? = some fn ∧ fn.body.isSome = true)
    (h : SR H0 ρ0 w0 ann N ρ lam S a w) {ops : Array Oper} {i : Nat} {o : Oper} (hi : ops[i]? = some o) {K : St → Prop} (hc : stepO E R ann N ops.toList o S K)
    {next : Act → World → Prop} {Q : Exit → Act → World → Prop}
    (hn : ∀ S' ρ' lam' a' w', SR H0 ρ0 w0 ann N ρ' lam' S' a' w' → K S' → next a' w') : wpOp E.P ops Q i next a w := by
  unfold wpOp
  simp only [hi]
  have skip : putK ann N o.dst .undef S K → next (a.put o.dst undef) w := by
    intro hk
    obtain ⟨hok, hk⟩ := putK_iff.1 hk
    exact hn _ _ _ _ _ (h.put .undef hok) hk
  unfold stepO at hc
  cases hg : o.guard with
  | none =>
    simp only [hg] at hc
    simp only [Region.wanted, hg, if_true]
    exact .inl (coreO_sound hX hR hB h hc hn)
  | some p =>
    obtain ⟨j, want⟩ := p
    simp only [hg] at hc
    cases hy : yieldedA ops.toList S.tm j with
    | none => simp only [hy] at hc
    | some t =>
      obtain ⟨h1, h2⟩ := yielded_spec h hy
      cases t with
      | undef =>
        simp only [hy] at hc
        simp only [Region.wanted, hg, h2 rfl]
        rw [if_neg (by simp)]
        exact skip hc
      | lp s off => simp only [hy] at hc
      | v x =>
        cases x with
        | bool b =>
          simp only [hy] at hc
          simp only [Region.wanted, hg, h1 b rfl]
          rcases br_elim hc with ⟨hb, hc⟩ | ⟨hb, hc⟩
          · rw [if_pos (by simpa using hb)]
            exact .inl (coreO_sound hX hR hB h hc hn)
          · rw [if_neg (by simpa using hb)]
            exact skip hc
        | _ => simp only [hy] at hc

end
end Go.Am
