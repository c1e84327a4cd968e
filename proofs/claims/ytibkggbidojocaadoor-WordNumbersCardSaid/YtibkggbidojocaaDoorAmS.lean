/- strconv.ParseInt and FormatInt, at base 10: the kit's contracts at this program. -/
import Derived.Test.YtibkggbidojocaaDoorAmUse
import Derived.Test.YtibkggbidojocaaDoorAmExt
import Derived.Test.YtibkggbidojocaaDoorProg
import Derived.KernelRfl
import Derived.Shelf.LaysC
import Derived.Shelf.LaysM
import Derived.Shelf.Strconv.Itoa4
import Derived.Shelf.Strconv.ParseIntPublic10
namespace Go.Proofs.YtibkggbidojocaaDoor
open Go.Am Go.Proofs Go.Shelf
set_option maxRecDepth 1000000
set_option linter.unusedVariables false

def ren174 : Go.Shelf.Ren := ⟨fun x => match x with | 174 => 9 | 247 => 12 | 245 => 13 | 287 => 18 | 279 => 19 | 280 => 20 | 281 => 21 | 282 => 22 | 321 => 36 | 322 => 37 | 316 => 38 | 171 => 40 | 205 => 39 | 243 => 52 | 246 => 14 | 283 => 23 | 284 => 24 | 285 => 25 | 286 => 26 | 129 => 42 | 317 => 41 | 318 => 43 | 319 => 44 | 320 => 45 | 337 => 53 | 338 => 54 | n => n,
  fun x => match x with | 9 => 9 | 3 => 3 | 2 => 2 | 75 => 32 | 85 => 33 | 4 => 4 | 167 => 49 | 5 => 5 | 53 => 30 | 175 => 50 | 46 => 52 | 168 => 53 | 37 => 25 | 0 => 0 | 210 => 72 | 21 => 21 | 127 => 84 | 145 => 87 | 143 => 85 | 171 => 57 | 173 => 60 | 212 => 76 | 51 => 77 | 20 => 20 | 213 => 78 | 232 => 91 | 233 => 92 | 80 => 68 | n => n,
  fun x => match x with | 15 => 0 | 16 => 1 | 17 => 2 | 18 => 4 | 19 => 5 | n => n⟩

theorem lays174 : LaysC.n174 Tryd.prog ren174 where
  mixed := by kernel_rfl
  f129 := Tryd.func42.trans (by kernel_rfl)
  f171 := Tryd.func40.trans (by kernel_rfl)
  f174 := Tryd.func9.trans (by kernel_rfl)
  f205 := Tryd.func39.trans (by kernel_rfl)
  f243 := Tryd.func52.trans (by kernel_rfl)
  f245 := Tryd.func13.trans (by kernel_rfl)
  f246 := Tryd.func14.trans (by kernel_rfl)
  f247 := Tryd.func12.trans (by kernel_rfl)
  f279 := Tryd.func19.trans (by kernel_rfl)
  f280 := Tryd.func20.trans (by kernel_rfl)
  f281 := Tryd.func21.trans (by kernel_rfl)
  f282 := Tryd.func22.trans (by kernel_rfl)
  f283 := Tryd.func23.trans (by kernel_rfl)
  f284 := Tryd.func24.trans (by kernel_rfl)
  f285 := Tryd.func25.trans (by kernel_rfl)
  f286 := Tryd.func26.trans (by kernel_rfl)
  f287 := Tryd.func18.trans (by kernel_rfl)
  f316 := Tryd.func38.trans (by kernel_rfl)
  f317 := Tryd.func41.trans (by kernel_rfl)
  f318 := Tryd.func43.trans (by kernel_rfl)
  f319 := Tryd.func44.trans (by kernel_rfl)
  f320 := Tryd.func45.trans (by kernel_rfl)
  f321 := Tryd.func36.trans (by kernel_rfl)
  f322 := Tryd.func37.trans (by kernel_rfl)
  f337 := Tryd.func53.trans (by kernel_rfl)
  f338 := Tryd.func54.trans (by kernel_rfl)
  t0 := Tryd.underlying0
  a0 := Tryd.isAgg0
  z0 := Tryd.sizeOf0
  v0 := Tryd.zeroValue0
  t2 := Tryd.underlying2
  a2 := Tryd.isAgg2
  z2 := Tryd.sizeOf2
  v2 := Tryd.zeroValue2
  t3 := Tryd.underlying3
  a3 := Tryd.isAgg3
  z3 := Tryd.sizeOf3
  v3 := Tryd.zeroValue3
  t4 := Tryd.underlying4
  a4 := Tryd.isAgg4
  z4 := Tryd.sizeOf4
  v4 := Tryd.zeroValue4
  t5 := Tryd.underlying5
  a5 := Tryd.isAgg5
  z5 := Tryd.sizeOf5
  v5 := Tryd.zeroValue5
  t9 := Tryd.underlying9
  a9 := Tryd.isAgg9
  z9 := Tryd.sizeOf9
  v9 := Tryd.zeroValue9
  t20 := Tryd.underlying20
  a20 := Tryd.isAgg20
  z20 := Tryd.sizeOf20
  v20 := Tryd.zeroValue20
  t21 := Tryd.underlying21
  a21 := Tryd.isAgg21
  z21 := Tryd.sizeOf21
  v21 := Tryd.zeroValue21
  t37 := Tryd.underlying25
  a37 := Tryd.isAgg25
  z37 := Tryd.sizeOf25
  v37 := Tryd.zeroValue25
  t46 := Tryd.underlying52
  a46 := Tryd.isAgg52
  z46 := Tryd.sizeOf52
  v46 := Tryd.zeroValue52
  t51 := Tryd.underlying77
  a51 := Tryd.isAgg77
  z51 := Tryd.sizeOf77
  v51 := Tryd.zeroValue77
  t53 := Tryd.underlying30
  a53 := Tryd.isAgg30
  z53 := Tryd.sizeOf30
  v53 := Tryd.zeroValue30
  t75 := Tryd.underlying32
  a75 := Tryd.isAgg32
  z75 := Tryd.sizeOf32
  v75 := Tryd.zeroValue32
  t85 := Tryd.underlying33
  a85 := Tryd.isAgg33
  z85 := Tryd.sizeOf33
  v85 := Tryd.zeroValue33
  t127 := Tryd.underlying84
  a127 := Tryd.isAgg84
  z127 := Tryd.sizeOf84
  v127 := Tryd.zeroValue84
  t143 := Tryd.underlying85
  a143 := Tryd.isAgg85
  z143 := Tryd.sizeOf85
  v143 := Tryd.zeroValue85
  t145 := Tryd.underlying87
  a145 := Tryd.isAgg87
  z145 := Tryd.sizeOf87
  v145 := Tryd.zeroValue87
  t167 := Tryd.underlying49
  a167 := Tryd.isAgg49
  z167 := Tryd.sizeOf49
  v167 := Tryd.zeroValue49
  t168 := Tryd.underlying53
  a168 := Tryd.isAgg53
  z168 := Tryd.sizeOf53
  v168 := Tryd.zeroValue53
  t171 := Tryd.underlying57
  a171 := Tryd.isAgg57
  z171 := Tryd.sizeOf57
  v171 := Tryd.zeroValue57
  t173 := Tryd.underlying60
  a173 := Tryd.isAgg60
  z173 := Tryd.sizeOf60
  v173 := Tryd.zeroValue60
  t175 := Tryd.underlying50
  a175 := Tryd.isAgg50
  z175 := Tryd.sizeOf50
  v175 := Tryd.zeroValue50
  t210 := Tryd.underlying72
  a210 := Tryd.isAgg72
  z210 := Tryd.sizeOf72
  v210 := Tryd.zeroValue72
  t212 := Tryd.underlying76
  a212 := Tryd.isAgg76
  z212 := Tryd.sizeOf76
  v212 := Tryd.zeroValue76
  t213 := Tryd.underlying78
  a213 := Tryd.isAgg78
  z213 := Tryd.sizeOf78
  t232 := Tryd.underlying91
  a232 := Tryd.isAgg91
  z232 := Tryd.sizeOf91
  v232 := Tryd.zeroValue91
  t233 := Tryd.underlying92
  a233 := Tryd.isAgg92
  z233 := Tryd.sizeOf92
  v233 := Tryd.zeroValue92
  g15 := by kernel_rfl
  g16 := by kernel_rfl
  g17 := by kernel_rfl
  g18 := by kernel_rfl
  g19 := by kernel_rfl
  t80 := Tryd.underlying68
  a80 := Tryd.isAgg68
  z80 := Tryd.sizeOf68
  v80 := Tryd.zeroValue68
  i0 := by kernel_rfl
  i2 := by kernel_rfl
  i3 := by kernel_rfl
  i4 := by kernel_rfl
  i5 := by kernel_rfl
  i9 := by kernel_rfl
  i20 := by kernel_rfl
  i21 := by kernel_rfl
  i37 := by kernel_rfl
  i46 := by kernel_rfl
  i51 := by kernel_rfl
  i53 := by kernel_rfl
  i75 := by kernel_rfl
  i80 := by kernel_rfl
  i85 := by kernel_rfl
  i127 := by kernel_rfl
  i143 := by kernel_rfl
  i145 := by kernel_rfl
  i167 := by kernel_rfl
  i168 := by kernel_rfl
  i171 := by kernel_rfl
  i173 := by kernel_rfl
  i175 := by kernel_rfl
  i210 := by kernel_rfl
  i212 := by kernel_rfl
  i232 := by kernel_rfl
  i233 := by kernel_rfl
  m15 := by kernel_rfl
  m16 := by kernel_rfl
  m17 := by kernel_rfl
  m18 := by kernel_rfl
  m19 := by kernel_rfl
  c0 := by kernel_rfl
  c2 := by kernel_rfl
  c3 := by kernel_rfl
  c4 := by kernel_rfl
  c5 := by kernel_rfl
  c9 := by kernel_rfl
  c20 := by kernel_rfl
  c21 := by kernel_rfl
  c37 := by kernel_rfl
  c46 := by kernel_rfl
  c51 := by kernel_rfl
  c53 := by kernel_rfl
  c75 := by kernel_rfl
  c80 := by kernel_rfl
  c85 := by kernel_rfl
  c127 := by kernel_rfl
  c143 := by kernel_rfl
  c145 := by kernel_rfl
  c167 := by kernel_rfl
  c168 := by kernel_rfl
  c171 := by kernel_rfl
  c173 := by kernel_rfl
  c175 := by kernel_rfl
  c210 := by kernel_rfl
  c212 := by kernel_rfl
  c213 := by kernel_rfl
  c232 := by kernel_rfl
  c233 := by kernel_rfl

def ren173 : Go.Shelf.Ren := ⟨fun x => match x with | 173 => 10 | 246 => 14 | 283 => 23 | 284 => 24 | 285 => 25 | 286 => 26 | 129 => 42 | 317 => 41 | 318 => 43 | 319 => 44 | 320 => 45 | 337 => 53 | 338 => 54 | n => n,
  fun x => match x with | 2 => 2 | 3 => 3 | 9 => 9 | 4 => 4 | 171 => 57 | 0 => 0 | 53 => 30 | 37 => 25 | 5 => 5 | 173 => 60 | 212 => 76 | 51 => 77 | 20 => 20 | 213 => 78 | 46 => 52 | 232 => 91 | 233 => 92 | n => n,
  fun x => match x with | 17 => 2 | 18 => 4 | 19 => 5 | n => n⟩

theorem lays173 : LaysM.n173 Tryd.prog ren173 where
  mixed := by kernel_rfl
  f129 := Tryd.func42.trans (by kernel_rfl)
  f173 := Tryd.func10.trans (by kernel_rfl)
  f246 := Tryd.func14.trans (by kernel_rfl)
  f283 := Tryd.func23.trans (by kernel_rfl)
  f284 := Tryd.func24.trans (by kernel_rfl)
  f285 := Tryd.func25.trans (by kernel_rfl)
  f286 := Tryd.func26.trans (by kernel_rfl)
  f317 := Tryd.func41.trans (by kernel_rfl)
  f318 := Tryd.func43.trans (by kernel_rfl)
  f319 := Tryd.func44.trans (by kernel_rfl)
  f320 := Tryd.func45.trans (by kernel_rfl)
  f337 := Tryd.func53.trans (by kernel_rfl)
  f338 := Tryd.func54.trans (by kernel_rfl)
  t0 := Tryd.underlying0
  a0 := Tryd.isAgg0
  z0 := Tryd.sizeOf0
  v0 := Tryd.zeroValue0
  t2 := Tryd.underlying2
  a2 := Tryd.isAgg2
  z2 := Tryd.sizeOf2
  v2 := Tryd.zeroValue2
  t3 := Tryd.underlying3
  a3 := Tryd.isAgg3
  z3 := Tryd.sizeOf3
  v3 := Tryd.zeroValue3
  t4 := Tryd.underlying4
  a4 := Tryd.isAgg4
  z4 := Tryd.sizeOf4
  v4 := Tryd.zeroValue4
  t5 := Tryd.underlying5
  a5 := Tryd.isAgg5
  z5 := Tryd.sizeOf5
  v5 := Tryd.zeroValue5
  t9 := Tryd.underlying9
  a9 := Tryd.isAgg9
  z9 := Tryd.sizeOf9
  v9 := Tryd.zeroValue9
  t20 := Tryd.underlying20
  a20 := Tryd.isAgg20
  z20 := Tryd.sizeOf20
  v20 := Tryd.zeroValue20
  t37 := Tryd.underlying25
  a37 := Tryd.isAgg25
  z37 := Tryd.sizeOf25
  v37 := Tryd.zeroValue25
  t46 := Tryd.underlying52
  a46 := Tryd.isAgg52
  z46 := Tryd.sizeOf52
  v46 := Tryd.zeroValue52
  t51 := Tryd.underlying77
  a51 := Tryd.isAgg77
  z51 := Tryd.sizeOf77
  v51 := Tryd.zeroValue77
  t53 := Tryd.underlying30
  a53 := Tryd.isAgg30
  z53 := Tryd.sizeOf30
  v53 := Tryd.zeroValue30
  t171 := Tryd.underlying57
  a171 := Tryd.isAgg57
  z171 := Tryd.sizeOf57
  v171 := Tryd.zeroValue57
  t173 := Tryd.underlying60
  a173 := Tryd.isAgg60
  z173 := Tryd.sizeOf60
  v173 := Tryd.zeroValue60
  t212 := Tryd.underlying76
  a212 := Tryd.isAgg76
  z212 := Tryd.sizeOf76
  v212 := Tryd.zeroValue76
  t213 := Tryd.underlying78
  a213 := Tryd.isAgg78
  z213 := Tryd.sizeOf78
  t232 := Tryd.underlying91
  a232 := Tryd.isAgg91
  z232 := Tryd.sizeOf91
  v232 := Tryd.zeroValue91
  t233 := Tryd.underlying92
  a233 := Tryd.isAgg92
  z233 := Tryd.sizeOf92
  v233 := Tryd.zeroValue92
  g17 := by kernel_rfl
  g18 := by kernel_rfl
  g19 := by kernel_rfl
  i0 := by kernel_rfl
  i2 := by kernel_rfl
  i3 := by kernel_rfl
  i4 := by kernel_rfl
  i5 := by kernel_rfl
  i9 := by kernel_rfl
  i20 := by kernel_rfl
  i37 := by kernel_rfl
  i46 := by kernel_rfl
  i51 := by kernel_rfl
  i53 := by kernel_rfl
  i171 := by kernel_rfl
  i173 := by kernel_rfl
  i212 := by kernel_rfl
  i232 := by kernel_rfl
  i233 := by kernel_rfl
  m17 := by kernel_rfl
  m18 := by kernel_rfl
  m19 := by kernel_rfl

theorem below_grow (w : World) (k : Nat) (os : Array Go.Obj) : Go.RowKit.Below w.heap.size w (Go.Sort.grow (w.drewN k) os) :=
  ⟨rfl, rfl, rfl, by simp [Go.Sort.grow, World.drewN], fun i hi => by simp [Go.Sort.grow, World.drewN, Array.getElem?_append_left hi]⟩

theorem xoPI : XOk Tryd.prog 9 (.parseInt 0 1) := by
  refine ⟨enters Tryd.func9 (by kernel_rfl) rfl, ?_, ?_⟩
  · intro s v w hs h
    refine (Any.strconv_ParseInt_10_at64_ok lays174 s (by omega) v h w).mono ?_
    rintro e w' ⟨rfl, rfl | ⟨t, rfl⟩⟩
    · exact ⟨rfl, Go.RowKit.Below.refl _ _⟩
    · exact ⟨rfl, ⟨rfl, rfl, rfl, by rw [Lib.bytesWorld_size]; omega, fun k hk => Lib.bytesWorld_at_old w _ t k (by omega)⟩⟩
  · intro s w tS tR pS pR hs hn hS hR
    rcases hp : Lib.parseIntB 64 s.data.toList with v | _ | _
    · exact absurd hp (hn v)
    · refine (Any.strconv_ParseInt_10_at64_syntax lays174 s hs hp _ w hS (.inr ⟨_, _, rfl⟩)).mono ?_
      rintro e w' ⟨N, rfl, _, _, hb⟩
      exact ⟨_, _, _, rfl, hb⟩
    · refine (Any.strconv_ParseInt_10_at64_range lays174 s hs hp _ w hR (.inr ⟨_, _, rfl⟩)).mono ?_
      rintro e w' ⟨N, rfl, _, _, hb⟩
      exact ⟨_, _, _, rfl, hb⟩

theorem xoFI : XOk Tryd.prog 10 (.formatInt 2 Lib.pow10Tab) := by
  refine ⟨enters Tryd.func10 (by kernel_rfl) rfl, ?_⟩
  intro n w e fz h0 h1 hh
  have htab : Lib.TabIs Tryd.prog w "internal/strconv.uint64pow10" .u64 Lib.pow10Tab := by
    unfold Lib.TabIs World.var?
    rw [show Tryd.prog.globalNamed "internal/strconv.uint64pow10" = some 2 by kernel_rfl]
    simp only [Option.bind_some, hh]
  refine (Any.strconv_FormatInt_10 lays173 n h0 h1 w htab).mono ?_
  rintro x w' ⟨rfl, k, os, rfl⟩
  exact ⟨rfl, below_grow w k os⟩
end Go.Proofs.YtibkggbidojocaaDoor
