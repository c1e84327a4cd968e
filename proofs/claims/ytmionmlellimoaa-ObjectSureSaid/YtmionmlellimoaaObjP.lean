/- Objects in plain Lean: each address's data, what waits, what is reserved. -/
import Derived.Test.YtmionmlellimoaaCacheC
import Derived.Test.YtmionmlellimoaaResvD
namespace Go.Proofs.Ytmionmlellimoaa
open Go.Am
set_option maxRecDepth 100000
set_option linter.unusedSimpArgs false
set_option linter.unusedVariables false
set_option linter.unusedSectionVars false

def R.zero : R := ⟨fun _ => 0, 0, 0, 0, false⟩
def R.none0 : R := ⟨fun _ => 0, 0, -1, 0, false⟩
theorem zero_cs : c37 0 0 0 0 0 0 0 0 0 0 0 false = R.zero.cs := rfl
theorem none_cs : c37 0 0 0 0 0 0 0 0 0 (-1) 0 false = R.none0.cs := rfl

/-- An object. -/
structure Ob where
  su : List (List UInt8)
  ps : List Pg
  r : R

/-- What waits, as the document has it. -/
def wt (p : Pg) : Int × List UInt8 := (p.addr, p.data)

theorem find_perm {α : Type} (key : α → Int) (a : Int) {l l' : List α} (h : l.Perm l') : (l.map key).Nodup → l.find? (fun x => decide (key x = a)) = l'.find? (fun x => decide (key x = a)) := by
  induction h with
  | nil => exact fun _ => rfl
  | cons x _ ih =>
    intro hn
    rw [List.map_cons, List.nodup_cons] at hn
    simp only [List.find?_cons, ih hn.2]
  | swap x y l =>
    intro hn
    rw [List.map_cons, List.map_cons, List.nodup_cons] at hn
    have hne : key y ≠ key x := fun h => hn.1 (by simp [h])
    simp only [List.find?_cons]
    by_cases h1 : key y = a
    · have h2 : key x ≠ a := fun h => hne (by omega)
      simp [h1, h2]
    · by_cases h2 : key x = a <;> simp [h1, h2]
  | trans h1 _ ih1 ih2 =>
    intro hn
    rw [ih1 hn, ih2 ((h1.map key).nodup_iff.1 hn)]

/-- The data of an address that waits. -/
def getP (ps : List Pg) (a : Int) : Option (List UInt8) := (ps.find? fun p => decide (p.addr = a)).map Pg.data
def getL (l : List (Int × List UInt8)) (a : Int) : Option (List UInt8) := (l.find? fun w => decide (w.1 = a)).map Prod.snd

theorem sort_nodup {ps : List Pg} (h : SortP ps) : (ps.map Pg.addr).Nodup := by
  rw [List.Nodup, List.pairwise_map]
  exact h.up.imp fun h => by omega

theorem getP_perm {ps ps' : List Pg} (h : ps.Perm ps') (hn : (ps.map Pg.addr).Nodup) (a : Int) : getP ps a = getP ps' a := by
  unfold getP
  rw [find_perm Pg.addr a h hn]

theorem getL_perm {l : List (Int × List UInt8)} {ps : List Pg} (h : l.Perm (ps.map wt)) (hs : SortP ps) (a : Int) : getL l a = getP ps a := by
  have hn : (l.map Prod.fst).Nodup := by
    have := (h.map Prod.fst).nodup_iff.2 (by
      rw [List.map_map]
      exact sort_nodup hs)
    exact this
  unfold getL
  rw [find_perm Prod.fst a h hn, List.find?_map]
  unfold getP
  rw [Option.map_map]
  rfl

theorem getP_none {ps : List Pg} {a : Int} : getP ps a = none ↔ hasP ps a = false := by
  unfold getP hasP
  rw [Option.map_eq_none_iff, List.find?_eq_none, List.any_eq_false]

theorem getP_some {ps : List Pg} (hs : SortP ps) {a : Int} (hh : hasP ps a = true) (hp : posP ps a < ps.length) : getP ps a = some (ps[posP ps a]).data := by
  obtain ⟨_, he⟩ := (hasP_iff hs.up).1 hh
  have h1 := getP_perm (perm_out hp) (sort_nodup hs) a
  rw [h1]
  unfold getP
  simp [he]

/-- An address is dropped: without it. -/
theorem drop_filter {ps : List Pg} (hs : ps.Pairwise fun x y => x.addr < y.addr) (a : Int) : dropP ps a = ps.filter fun p => !decide (p.addr = a) := by
  induction ps with
  | nil => rfl
  | cons p l ih =>
    obtain ⟨h1, h2⟩ := List.pairwise_cons.1 hs
    have ih := ih h2
    by_cases hlt : p.addr < a
    · have hne : ¬ p.addr = a := by omega
      have e1 : posP (p :: l) a = posP l a + 1 := by rw [posP, if_pos hlt]
      have e2 : hasP (p :: l) a = hasP l a := by unfold hasP; simp [hne]
      rw [List.filter_cons]
      simp only [hne, decide_false, Bool.not_false, if_true]
      rw [← ih]
      unfold dropP
      rw [e1, e2]
      split <;> simp
    · have e1 : posP (p :: l) a = 0 := by rw [posP, if_neg hlt]
      have hl : l.filter (fun p => !decide (p.addr = a)) = l := by
        rw [List.filter_eq_self]
        intro x hx
        have := h1 x hx
        have : ¬ x.addr = a := by omega
        simp [this]
      by_cases he : p.addr = a
      · have e2 : hasP (p :: l) a = true := by unfold hasP; simp [he]
        unfold dropP
        rw [e1, e2, if_pos rfl, List.filter_cons]
        simp [he, hl]
      · have e2 : hasP (p :: l) a = false := by
          unfold hasP
          rw [List.any_eq_false]
          intro x hx
          rcases List.mem_cons.1 hx with rfl | hx
          · simpa using he
          · have := h1 x hx
            have : ¬ x.addr = a := by omega
            simpa using this
        unfold dropP
        rw [e2, if_neg (by simp), List.filter_cons]
        simp [he, hl]

/-- A page is put: it, and the others. -/
theorem put_perm {ps : List Pg} (hs : SortP ps) {p : Pg} (h0 : (putP ps p).2 = 0) : (putP ps p).1.Perm (p.put :: dropP ps p.addr) := by
  unfold putP at h0 ⊢
  split at h0
  · simp at h0
  · rename_i c1
    rw [if_neg c1]
    split at h0
    · simp at h0
    · rename_i c2
      rw [if_neg c2]
      split at h0
      · rename_i c3
        rw [if_pos c3]
        unfold dropP
        rw [if_pos c3]
        obtain ⟨g1, _⟩ := (hasP_iff hs.up).1 c3
        exact (perm_in p.put g1).symm
      · rename_i c3
        rw [if_neg c3]
        split at h0
        · simp at h0
        · rename_i c4
          rw [if_neg c4]
          unfold dropP
          rw [if_neg c3]
          have := List.perm_middle (a := p.put) (l₁ := ps.take (posP ps p.addr)) (l₂ := ps.drop (posP ps p.addr))
          rw [List.take_append_drop] at this
          exact this

theorem nodup_put {ps : List Pg} (hs : SortP ps) (p : Pg) : ((putP ps p).1.map Pg.addr).Nodup := sort_nodup (sort_put hs p)

theorem getP_drop {ps : List Pg} (hs : SortP ps) (a b : Int) : getP (dropP ps a) b = if b = a then none else getP ps b := by
  rw [drop_filter hs.up]
  unfold getP
  split
  · rename_i h
    subst h
    rw [Option.map_eq_none_iff, List.find?_eq_none]
    intro x hx
    have := (List.mem_filter.1 hx).2
    simpa using this
  · rename_i h
    congr 1
    induction ps with
    | nil => rfl
    | cons p l ih =>
      have ih := ih ⟨(List.pairwise_cons.1 hs.up).2, fun x hx => hs.lo x (List.mem_cons_of_mem _ hx), fun x hx => hs.dl x (List.mem_cons_of_mem _ hx)⟩
      by_cases h1 : p.addr = a
      · have : ¬ p.addr = b := by omega
        rw [List.filter_cons]
        have h2 : ¬ a = b := fun e => h e.symm
        simp [h1, List.find?_cons, ih, h2]
      · rw [List.filter_cons]
        simp only [h1, decide_false, Bool.not_false, if_true, List.find?_cons, ih]

theorem getP_put {ps : List Pg} (hs : SortP ps) {p : Pg} (h0 : (putP ps p).2 = 0) (b : Int) : getP (putP ps p).1 b = if b = p.addr then some p.put.data else getP ps b := by
  rw [getP_perm (put_perm hs h0) (nodup_put hs p)]
  by_cases h : b = p.addr
  · rw [if_pos h]
    unfold getP
    rw [List.find?_cons]
    have : p.put.addr = b := h.symm
    simp [this]
  · rw [if_neg h]
    have := getP_drop hs p.addr b
    rw [if_neg h] at this
    rw [← this]
    unfold getP
    rw [List.find?_cons]
    have : ¬ p.put.addr = b := fun e => h e.symm
    simp [this]

/-- All that waits is sure. -/
def flushS (su : List (List UInt8)) (ps : List Pg) : List (List UInt8) := ps.foldl (fun s p => s.set p.addr.toNat p.data) su

theorem flushS_len : ∀ (ps : List Pg) (su : List (List UInt8)), (flushS su ps).length = su.length
  | [], _ => rfl
  | p :: ps, su => by
    show (flushS (su.set p.addr.toNat p.data) ps).length = su.length
    rw [flushS_len ps, List.length_set]

theorem sort_tail {p : Pg} {ps : List Pg} (hs : SortP (p :: ps)) : SortP ps := ⟨(List.pairwise_cons.1 hs.up).2, fun x hx => hs.lo x (List.mem_cons_of_mem _ hx), fun x hx => hs.dl x (List.mem_cons_of_mem _ hx)⟩

theorem flushS_at : ∀ (ps : List Pg) (su : List (List UInt8)), SortP ps → (∀ p ∈ ps, p.addr < su.length) → ∀ i, i < su.length → (flushS su ps).getD i [] = (getP ps (i : Int)).getD (su.getD i [])
  | [], _, _, _, _, _ => rfl
  | p :: ps, su, hs, hr, i, hi => by
    have h2 := sort_tail hs
    have ih := flushS_at ps (su.set p.addr.toNat p.data) h2 (fun x hx => by rw [List.length_set]; exact hr x (List.mem_cons_of_mem _ hx)) i (by rw [List.length_set]; exact hi)
    show (flushS (su.set p.addr.toNat p.data) ps).getD i [] = _
    rw [ih]
    have hlo := hs.lo p (List.mem_cons_self ..)
    have hlt := hr p (List.mem_cons_self ..)
    by_cases he : p.addr = (i : Int)
    · have hn : getP ps (i : Int) = none := by
        rw [getP_none]
        unfold hasP
        rw [List.any_eq_false]
        intro x hx
        have := (List.pairwise_cons.1 hs.up).1 x hx
        have : ¬ x.addr = (i : Int) := by omega
        simpa using this
      have hy : getP (p :: ps) (i : Int) = some p.data := by unfold getP; rw [List.find?_cons]; simp [he]
      have hi' : p.addr.toNat = i := by omega
      rw [hn, hy, hi']
      simp [hi]
    · have hy : getP (p :: ps) (i : Int) = getP ps (i : Int) := by unfold getP; rw [List.find?_cons]; simp [he]
      have hi' : p.addr.toNat ≠ i := by omega
      rw [hy]
      congr 1
      simp [List.getD_eq_getElem?_getD, List.getElem?_set, hi']

/-- An address's data. -/
def nowO (o : Ob) (a : Int) : List UInt8 := if 0 ≤ a ∧ a < o.su.length then (getP o.ps a).getD (o.su.getD a.toNat []) else []
def sureO (o : Ob) (a : Int) : List UInt8 := if 0 ≤ a ∧ a < o.su.length then o.su.getD a.toNat [] else []

def flushO (o : Ob) : Ob := ⟨flushS o.su o.ps, [], o.r⟩
def putO (o : Ob) (p : Pg) (sure : Bool) : Ob :=
  if sure = true then ⟨o.su.set p.addr.toNat p.data, dropP o.ps p.addr, o.r⟩ else
  if (putP o.ps p).2 = 11 then ⟨flushS o.su o.ps, (putP [] p).1, o.r⟩ else ⟨o.su, (putP o.ps p).1, o.r⟩
def fallR (r : R) (power : Bool) : R := if power = true then if r.la = true then ⟨r.k, r.ty, r.ho, 0, r.la⟩ else R.none0 else r
def fallO (o : Ob) (power : Bool) : Ob := ⟨o.su, [], fallR o.r power⟩

def valid (h : Int) (c : Cm) (n : Nat) : Bool :=
  decide (0 ≤ h) && decide (h < 8) && decide (c.kd ≤ 9) && (!(decide (c.kd = 0) || decide (c.kd = 1) || decide (c.kd = 2)) || decide (0 ≤ c.lba) && decide (c.lba < n)) && (!decide (c.kd = 1) || decide (c.dn ≤ 64))
def may (r : R) (h : Int) (c : Cm) : Bool :=
  if c.kd = 0 then permits r h false else if c.kd = 1 ∨ c.kd = 2 ∨ c.kd = 3 then permits r h true else true

/-- A command's answer. -/
structure Rs where
  e : Int
  d : List UInt8
  r : R

def doO (o : Ob) (h : Int) (c : Cm) (dat : List UInt8) : Ob × Rs :=
  if valid h c o.su.length = false then (o, ⟨1, [], R.zero⟩) else
  if may o.r h c = false then (o, ⟨13, [], R.zero⟩) else
  if c.kd = 0 then (o, ⟨0, nowO o c.lba, R.zero⟩) else
  if c.kd = 1 then (putO o ⟨c.lba, dat, false⟩ c.su, ⟨0, [], R.zero⟩) else
  if c.kd = 2 then (putO o ⟨c.lba, [], true⟩ c.su, ⟨0, [], R.zero⟩) else
  if c.kd = 3 then (flushO o, ⟨0, [], R.zero⟩) else
  if c.kd = 9 then (o, ⟨0, [], o.r⟩) else
  (⟨o.su, o.ps, (doR o.r h c).1⟩, ⟨(doR o.r h c).2, [], R.zero⟩)

/-- At any time. -/
structure Ob.ok (o : Ob) : Prop where
  n1 : 1 ≤ o.su.length
  n2 : o.su.length ≤ 65536
  dl : ∀ b ∈ o.su, b.length ≤ 64
  sort : SortP o.ps
  le8 : o.ps.length ≤ 8
  inr : ∀ p ∈ o.ps, p.addr < o.su.length
  inv : Inv o.r

theorem sortNil : SortP [] := ⟨.nil, nofun, nofun⟩

theorem flushS_dl : ∀ (ps : List Pg) (su : List (List UInt8)), (∀ b ∈ su, b.length ≤ 64) → (∀ p ∈ ps, p.data.length ≤ 64) → ∀ b ∈ flushS su ps, b.length ≤ 64
  | [], su, h, _ => h
  | p :: ps, su, h, hp => by
    refine flushS_dl ps (su.set p.addr.toNat p.data) (fun b hb => ?_) (fun x hx => hp x (List.mem_cons_of_mem _ hx))
    rcases List.mem_or_eq_of_mem_set hb with hb | rfl
    · exact h b hb
    · exact hp p (List.mem_cons_self ..)

theorem ok_flush {o : Ob} (h : o.ok) : (flushO o).ok :=
  ⟨by unfold flushO; rw [flushS_len]; exact h.n1, by unfold flushO; rw [flushS_len]; exact h.n2, flushS_dl _ _ h.dl h.sort.dl, sortNil, by simp [flushO], nofun, h.inv⟩

theorem fall_inv {r : R} (h : Inv r) (power : Bool) : Inv (fallR r power) := by
  unfold fallR
  split
  · split
    · exact ⟨h.ty, h.none, h.all, h.one, h.some⟩
    · exact inv0
  · exact h

theorem ok_fall {o : Ob} (h : o.ok) (power : Bool) : (fallO o power).ok := ⟨h.n1, h.n2, h.dl, sortNil, by simp [fallO], nofun, fall_inv h.inv power⟩

theorem put_res {ps : List Pg} (hl : ps.length ≤ 8) {p : Pg} (h0 : 0 ≤ p.addr) (h1 : p.addr ≤ 65535) (hd : p.data.length ≤ 64) : (putP ps p).2 = if hasP ps p.addr = false ∧ ps.length ≥ 8 then 11 else 0 := by
  unfold putP
  rw [if_neg (by omega), if_neg (by omega)]
  cases hasP ps p.addr
  · simp only [Bool.false_eq_true, if_false, true_and]
    split <;> rfl
  · simp

theorem put_full {ps : List Pg} {p : Pg} (h : (putP ps p).2 = 11) : (putP ps p).1 = ps := by
  unfold putP at h ⊢
  split at h
  · simp at h
  · rename_i c1
    split at h
    · simp at h
    · rename_i c2
      split at h
      · simp at h
      · rename_i c3
        split at h
        · rename_i c4
          rw [if_neg c1, if_neg c2, if_neg c3, if_pos c4]
        · simp at h

theorem mem_put {ps : List Pg} (hs : SortP ps) {p x : Pg} (hx : x ∈ (putP ps p).1) : x ∈ ps ∨ x = p.put := by
  unfold putP at hx
  split at hx
  · exact .inl hx
  · split at hx
    · exact .inl hx
    · split at hx
      · exact List.mem_or_eq_of_mem_set hx
      · split at hx
        · exact .inl hx
        · rcases List.mem_append.1 hx with hx | hx
          · exact .inl (List.mem_of_mem_take hx)
          · rcases List.mem_cons.1 hx with hx | hx
            · exact .inr hx
            · exact .inl (List.mem_of_mem_drop hx)

theorem mem_drop {ps : List Pg} {a : Int} {x : Pg} (hx : x ∈ dropP ps a) : x ∈ ps := by
  unfold dropP at hx
  split at hx
  · exact List.mem_of_mem_eraseIdx hx
  · exact hx

theorem ok_put {o : Ob} (h : o.ok) {p : Pg} (h0 : 0 ≤ p.addr) (h1 : p.addr < o.su.length) (hd : p.data.length ≤ 64) (sure : Bool) : (putO o p sure).ok := by
  have hn := h.n2
  unfold putO
  split
  · refine ⟨by simpa using h.n1, by simpa using hn, fun b hb => ?_, sort_drop h.sort _, len_drop h.le8 _, fun x hx => by simpa using h.inr x (mem_drop hx), h.inv⟩
    rcases List.mem_or_eq_of_mem_set hb with hb | rfl
    · exact h.dl b hb
    · exact hd
  · split
    · have hf := ok_flush h
      refine ⟨hf.n1, hf.n2, hf.dl, sort_put sortNil p, len_put (by simp) p, fun x hx => ?_, h.inv⟩
      rcases mem_put sortNil hx with hx | rfl
      · cases hx
      · show p.addr < ((flushS o.su o.ps).length : Int)
        rw [flushS_len]; exact h1
    · refine ⟨h.n1, hn, h.dl, sort_put h.sort p, len_put h.le8 p, fun x hx => ?_, h.inv⟩
      rcases mem_put h.sort hx with hx | rfl
      · exact h.inr x hx
      · exact h1

theorem ok_do {o : Ob} (ho : o.ok) (h : Int) (c : Cm) {dat : List UInt8} (hd : c.dn = dat.length) : (doO o h c dat).1.ok := by
  unfold doO
  split
  · exact ho
  · rename_i hv
    have hv : valid h c o.su.length = true := by simpa using hv
    unfold valid at hv
    simp only [Bool.and_eq_true, Bool.or_eq_true, Bool.not_eq_true', Bool.or_eq_false_iff, decide_eq_true_eq, decide_eq_false_iff_not] at hv
    obtain ⟨⟨⟨⟨v1, v2⟩, v3⟩, v4⟩, v5⟩ := hv
    split
    · exact ho
    · split
      · exact ho
      · split
        · rename_i k1
          have : c.dn ≤ 64 := by omega
          exact ok_put ho (by simp only []; omega) (by simp only []; omega) (by simp only []; omega) _
        · split
          · exact ok_put ho (by simp only []; omega) (by simp only []; omega) (by simp) _
          · split
            · exact ok_flush ho
            · split
              · exact ho
              · exact ⟨ho.n1, ho.n2, ho.dl, ho.sort, ho.le8, ho.inr, do_inv ho.inv h c⟩

def newO (n : Nat) : Ob := ⟨List.replicate n [], [], R.none0⟩

theorem ok_new {n : Nat} (h1 : 1 ≤ n) (h2 : n ≤ 65536) : (newO n).ok :=
  ⟨by simpa [newO] using h1, by simpa [newO] using h2, fun b hb => by have := (List.mem_replicate.1 hb).2; simp [this], sortNil, by simp [newO], nofun, inv0⟩

end Go.Proofs.Ytmionmlellimoaa
