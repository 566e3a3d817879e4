/-
  DERIVED: THE SHELF's CONTRACTS AT THIS DUMP, IN PLAIN WORDS (tools/lay-plain.mjs out of 'TryzShelf.lean', which tools/lay-shelf.mjs wrote): THE SAME DECLARATIONS UNDER THE SAME NAMES: 'import', 'namespace', 'open', 'def', 'theorem' AND NOTHING ELSE: no command of the shelf's: FOR A HAND-IN. Each lay
  Natural numbers as lists of digits in a base, the least digit first. No program is named here.
  Digits, first ones and last ones; a digit put in; the order of numbers by their digits. No program is named here.
  The text of an integer: its canonical decimal digits. No program is named here.
  Canonical texts of integers, and the error of a text. No program is named here.
  Digits in groups: words of several decimal digits. No program is named here.
  The texts of numbers against the kit's words for strconv and strings. No program is named here.
  Representation of Go data in the model's memory: a value's cells stand for a Lean datum. No program is named here.
  Words of 32 bits in memory; digits without zeros at the end are the first ones.
  Slices that a call itself makes: what they own, what an append does, how they read afterwards. No program is named here.
  A row of the call's own, one cell an element, that is known whole: read, written in place. No program is named here.
  Sums, differences and products of numbers, digit by digit. No program is named here.
  Long division: how good the guess by the first digits is. No program is named here.
  Long division: taking the guess away, word by word, and what is left. No program is named here.
  Natural numbers in memory: a slice of words, the least one first, without zeros at the end. No program is named here.
  A block of the call's own that is known whole: a boxed variable, struct or array. No program is named here.
  integer: the text of a natural number.
  integer.trimmed: the words without zeros at the end.
  integer: the sum of natural numbers.
  integer: the difference of natural numbers.
  integer: the product of natural numbers.
  integer: division by a word.
  Long division: the guess of a word of the quotient, by the first words. No program is named here.
  integer.step: one word of a quotient.
  Long division, word after word: the plain law. No program is named here.
  integer: the order of natural numbers by their words.
  integer: division of natural numbers.
-/
import Derived.Shelf.Strings.Builder1
import Derived.Shelf.Strings.Builder2
import Derived.Shelf.Small.Wraps
import Derived.Shelf.Strconv.Itoa0
import Derived.Shelf.Strconv.Itoa1
import Derived.Shelf.LaysM
import Derived.Shelf.Strconv.Itoa2
import Derived.Shelf.Strconv.Itoa3
import Derived.Ground.MpProg
import Derived.Shelf.Pu.ParseUintPublic10
import Derived.Shelf.Strings.Prefix
import Derived.Shelf.Bits.Mul64
import Derived.Shelf.Strings.Repeat
import Derived.Test.YthpknfoahimopaaGreatDoorProg
import Derived.Lib.ItoaNum
import Derived.Lib.ParseIntB
import Derived.Lib.Repeat
import Derived.WalkKit
import Derived.WalkSpells
import Derived.WalkLawsBesides
import Derived.KernelRfl
import Derived.OwnWalk
import Derived.Lib.AppendIntMem
import Derived.Deep.LoopGhost
import Derived.BigQuiet
import Derived.Deep.DeepCutAuto
import Derived.Deep.CutBlock
import Derived.Deep.QuietTactic
import Derived.Laws.CopyOwn

namespace Go.Proofs
open Go.Shelf
def Tryz.lays169_ren : Go.Shelf.Ren := ⟨fun | 169 => 144 | n => n, fun | 70 => 160 | 9 => 9 | 0 => 0 | 72 => 162 | 37 => 112 | 127 => 182 | 3 => 3 | 5 => 5 | n => n, fun | n => n⟩
theorem Tryz.lays169 : Go.Proofs.Lays.n169 Tryz.prog Tryz.lays169_ren := {
  mixed := by kernel_rfl
  f169 := Tryz.func144.trans (congrArg some (by kernel_rfl))
  t0 := Tryz.underlying0
  a0 := Tryz.isAgg0
  z0 := Tryz.sizeOf0
  v0 := Tryz.zeroValue0
  t3 := Tryz.underlying3
  a3 := Tryz.isAgg3
  z3 := Tryz.sizeOf3
  v3 := Tryz.zeroValue3
  t9 := Tryz.underlying9
  a9 := Tryz.isAgg9
  z9 := Tryz.sizeOf9
  v9 := Tryz.zeroValue9
  t37 := Tryz.underlying112
  a37 := Tryz.isAgg112
  z37 := Tryz.sizeOf112
  v37 := Tryz.zeroValue112
  t70 := Tryz.underlying160
  a70 := Tryz.isAgg160
  z70 := Tryz.sizeOf160
  v70 := Tryz.zeroValue160
  t72 := Tryz.underlying162
  a72 := Tryz.isAgg162
  z72 := Tryz.sizeOf162
  v72 := Tryz.zeroValue162
  t127 := Tryz.underlying182
  a127 := Tryz.isAgg182
  z127 := Tryz.sizeOf182
  v127 := Tryz.zeroValue182 }
theorem Tryz.Builder_Extra_169 : Builder.Extra Tryz.prog Tryz.lays169_ren := {
  sizeBuilder := by kernel_rfl
  liesBuilder := by kernel_rfl
  t5 := Tryz.underlying5
  a5 := Tryz.isAgg5
  z5 := Tryz.sizeOf5
  v5 := Tryz.zeroValue5
  infoByte := by kernel_rfl
  cellsByte := by kernel_rfl
  sizeByte := by kernel_rfl
  neB5 := by decide }
open Go.RowKit in
/-- (*strings.Builder).String: "String returns the accumulated string.": WHATEVER THE BUILDER HOLDS. (LAID: no walk: one application.) -/
theorem Tryz.Builder_String_any (B b : Nat) (l : List UInt8) (w : World) (h : Lib.IsBuilder 162 5 B b (Lib.byteCells l) w) (hBw : B ≤ w.heap.size) :
    Calls Tryz.prog 144 #[.pointer (some ⟨b, 0, none⟩)] w fun e w' => e = .returned (.string ⟨l.toArray⟩) ∧ Below B w w' := Any.Builder_String_any Tryz.lays169 Tryz.Builder_Extra_169 B b l w h hBw
def Tryz.lays103_ren : Go.Shelf.Ren := ⟨fun | 103 => 88 | 210 => 115 | 206 => 127 | n => n, fun | 9 => 9 | 4 => 4 | 24 => 110 | 3 => 3 | n => n, fun | n => n⟩
theorem Tryz.lays103 : Go.Proofs.Lays.n103 Tryz.prog Tryz.lays103_ren := {
  mixed := by kernel_rfl
  f103 := Tryz.func88.trans (congrArg some (by kernel_rfl))
  f206 := Tryz.func127.trans (congrArg some (by kernel_rfl))
  f210 := Tryz.func115.trans (congrArg some (by kernel_rfl))
  t3 := Tryz.underlying3
  a3 := Tryz.isAgg3
  z3 := Tryz.sizeOf3
  v3 := Tryz.zeroValue3
  t4 := Tryz.underlying4
  a4 := Tryz.isAgg4
  z4 := Tryz.sizeOf4
  v4 := Tryz.zeroValue4
  t9 := Tryz.underlying9
  a9 := Tryz.isAgg9
  z9 := Tryz.sizeOf9
  v9 := Tryz.zeroValue9
  t24 := Tryz.underlying110
  a24 := Tryz.isAgg110
  z24 := Tryz.sizeOf110
  v24 := Tryz.zeroValue110 }
open Go.RowKit in
/-- strings.CutPrefix: "CutPrefix returns s without the provided leading prefix string and reports whether it found the prefix. If s doesn't start with prefix, CutPrefix returns s, false. If prefix is the empty string, CutPrefix returns s, true.": IT RETURNS '(Lib.trimPrefix s p, Lib.hasPrefix s p)'; the world is as it was. (LAID: no walk: one application.) -/
theorem Tryz.strings_CutPrefix (s p : ByteArray) (w : World) :
    Calls Tryz.prog 88 #[.string s, .string p] w fun e w' => e = .returned (.tuple #[.string ⟨(Lib.trimPrefix s.data.toList p.data.toList).toArray⟩, .bool (Lib.hasPrefix s.data.toList p.data.toList)]) ∧ w' = w := Any.strings_CutPrefix Tryz.lays103 s p w
def Tryz.laysM171_ren : Go.Shelf.Ren := ⟨fun | 171 => 84 | 243 => 112 | 246 => 126 | 283 => 138 | 284 => 139 | 285 => 140 | 286 => 141 | 129 => 155 | 317 => 154 | 318 => 156 | 319 => 157 | 320 => 158 | 337 => 166 | 338 => 167 | n => n, fun | 3 => 3 | 9 => 9 | 2 => 2 | 4 => 4 | 171 => 155 | 0 => 0 | 53 => 141 | 37 => 112 | 5 => 5 | 173 => 158 | 212 => 175 | 51 => 131 | 20 => 20 | 213 => 176 | 46 => 153 | 232 => 196 | 233 => 197 | n => n, fun | 17 => 1 | 18 => 4 | 19 => 5 | n => n⟩
theorem Tryz.laysM171 : Go.Proofs.LaysM.n171 Tryz.prog Tryz.laysM171_ren := {
  mixed := by kernel_rfl
  f129 := Tryz.func155.trans (congrArg some (by kernel_rfl))
  f171 := Tryz.func84.trans (congrArg some (by kernel_rfl))
  f243 := Tryz.func112.trans (congrArg some (by kernel_rfl))
  f246 := Tryz.func126.trans (congrArg some (by kernel_rfl))
  f283 := Tryz.func138.trans (congrArg some (by kernel_rfl))
  f284 := Tryz.func139.trans (congrArg some (by kernel_rfl))
  f285 := Tryz.func140.trans (congrArg some (by kernel_rfl))
  f286 := Tryz.func141.trans (congrArg some (by kernel_rfl))
  f317 := Tryz.func154.trans (congrArg some (by kernel_rfl))
  f318 := Tryz.func156.trans (congrArg some (by kernel_rfl))
  f319 := Tryz.func157.trans (congrArg some (by kernel_rfl))
  f320 := Tryz.func158.trans (congrArg some (by kernel_rfl))
  f337 := Tryz.func166.trans (congrArg some (by kernel_rfl))
  f338 := Tryz.func167.trans (congrArg some (by kernel_rfl))
  t0 := Tryz.underlying0
  a0 := Tryz.isAgg0
  z0 := Tryz.sizeOf0
  v0 := Tryz.zeroValue0
  t2 := Tryz.underlying2
  a2 := Tryz.isAgg2
  z2 := Tryz.sizeOf2
  v2 := Tryz.zeroValue2
  t3 := Tryz.underlying3
  a3 := Tryz.isAgg3
  z3 := Tryz.sizeOf3
  v3 := Tryz.zeroValue3
  t4 := Tryz.underlying4
  a4 := Tryz.isAgg4
  z4 := Tryz.sizeOf4
  v4 := Tryz.zeroValue4
  t5 := Tryz.underlying5
  a5 := Tryz.isAgg5
  z5 := Tryz.sizeOf5
  v5 := Tryz.zeroValue5
  t9 := Tryz.underlying9
  a9 := Tryz.isAgg9
  z9 := Tryz.sizeOf9
  v9 := Tryz.zeroValue9
  t20 := Tryz.underlying20
  a20 := Tryz.isAgg20
  z20 := Tryz.sizeOf20
  v20 := Tryz.zeroValue20
  t37 := Tryz.underlying112
  a37 := Tryz.isAgg112
  z37 := Tryz.sizeOf112
  v37 := Tryz.zeroValue112
  t46 := Tryz.underlying153
  a46 := Tryz.isAgg153
  z46 := Tryz.sizeOf153
  v46 := Tryz.zeroValue153
  t51 := Tryz.underlying131
  a51 := Tryz.isAgg131
  z51 := Tryz.sizeOf131
  v51 := Tryz.zeroValue131
  t53 := Tryz.underlying141
  a53 := Tryz.isAgg141
  z53 := Tryz.sizeOf141
  v53 := Tryz.zeroValue141
  t171 := Tryz.underlying155
  a171 := Tryz.isAgg155
  z171 := Tryz.sizeOf155
  v171 := Tryz.zeroValue155
  t173 := Tryz.underlying158
  a173 := Tryz.isAgg158
  z173 := Tryz.sizeOf158
  v173 := Tryz.zeroValue158
  t212 := Tryz.underlying175
  a212 := Tryz.isAgg175
  z212 := Tryz.sizeOf175
  v212 := Tryz.zeroValue175
  t213 := Tryz.underlying176
  a213 := Tryz.isAgg176
  z213 := Tryz.sizeOf176
  t232 := Tryz.underlying196
  a232 := Tryz.isAgg196
  z232 := Tryz.sizeOf196
  v232 := Tryz.zeroValue196
  t233 := Tryz.underlying197
  a233 := Tryz.isAgg197
  z233 := Tryz.sizeOf197
  v233 := Tryz.zeroValue197
  g17 := by kernel_rfl
  g18 := by kernel_rfl
  g19 := by kernel_rfl
  i0 := by kernel_rfl
  i2 := by kernel_rfl
  i3 := by kernel_rfl
  i4 := by kernel_rfl
  i5 := by kernel_rfl
  i9 := by kernel_rfl
  i20 := by kernel_rfl
  i37 := by kernel_rfl
  i46 := by kernel_rfl
  i51 := by kernel_rfl
  i53 := by kernel_rfl
  i171 := by kernel_rfl
  i173 := by kernel_rfl
  i212 := by kernel_rfl
  i232 := by kernel_rfl
  i233 := by kernel_rfl
  m17 := by kernel_rfl
  m18 := by kernel_rfl
  m19 := by kernel_rfl }
open Go.RowKit Go.Sort Go.Lib in
/-- strconv.Itoa: "Itoa is equivalent to FormatInt(int64(i), 10).": i's DECIMAL NUMERAL ('Lib.itoa': a '-' where i is negative, then the digits), FOR EVERY int. The world behind the call: the world before it, new blocks behind the heap (the library's 'var a [24]byte'), draws. (LAID: no walk: one application.) -/
theorem Tryz.strconv_Itoa (n : Int) (h0 : -9223372036854775808 ≤ n) (h1 : n ≤ 9223372036854775807) (w : World) (htab : Lib.TabIs Tryz.prog w "internal/strconv.uint64pow10" .u64 Lib.pow10Tab) :
    Calls Tryz.prog 84 #[.int .i64 n] w fun e w' => e = .returned (.string ⟨(Lib.itoa n).toArray⟩) ∧ ∃ k os, w' = grow (w.drewN k) os := Any.strconv_Itoa Tryz.laysM171 n h0 h1 w htab
def Tryz.laysPu14_ren : Go.Shelf.Ren := ⟨fun | 14 => 125 | 16 => 136 | 17 => 137 | 19 => 148 | 20 => 149 | 21 => 150 | 22 => 151 | 23 => 152 | 24 => 153 | 25 => 164 | 27 => 84 | 26 => 165 | 28 => 112 | 29 => 126 | 30 => 138 | 31 => 139 | 32 => 140 | 33 => 141 | 35 => 155 | 34 => 154 | 36 => 156 | 37 => 157 | 38 => 158 | 39 => 166 | 40 => 167 | n => n, fun | 9 => 9 | 3 => 3 | 22 => 141 | 24 => 143 | 25 => 144 | 4 => 4 | 34 => 168 | 5 => 5 | 36 => 153 | 37 => 112 | 0 => 0 | 39 => 171 | 21 => 21 | 44 => 185 | 47 => 182 | 50 => 195 | 48 => 193 | 2 => 2 | 52 => 155 | 55 => 158 | 59 => 175 | 60 => 131 | 20 => 20 | 61 => 176 | 65 => 196 | 66 => 197 | 67 => 135 | n => n, fun | 0 => 2 | 1 => 3 | 2 => 1 | 3 => 4 | 4 => 5 | n => n⟩
theorem Tryz.laysPu14 : Go.Proofs.LaysPu.n14 Tryz.prog Tryz.laysPu14_ren := {
  mixed := by kernel_rfl
  f14 := Tryz.func125.trans (congrArg some (by kernel_rfl))
  f16 := Tryz.func136.trans (congrArg some (by kernel_rfl))
  f17 := Tryz.func137.trans (congrArg some (by kernel_rfl))
  f19 := Tryz.func148.trans (congrArg some (by kernel_rfl))
  f20 := Tryz.func149.trans (congrArg some (by kernel_rfl))
  f21 := Tryz.func150.trans (congrArg some (by kernel_rfl))
  f22 := Tryz.func151.trans (congrArg some (by kernel_rfl))
  f23 := Tryz.func152.trans (congrArg some (by kernel_rfl))
  f24 := Tryz.func153.trans (congrArg some (by kernel_rfl))
  f25 := Tryz.func164.trans (congrArg some (by kernel_rfl))
  f26 := Tryz.func165.trans (congrArg some (by kernel_rfl))
  f27 := Tryz.func84.trans (congrArg some (by kernel_rfl))
  f28 := Tryz.func112.trans (congrArg some (by kernel_rfl))
  f29 := Tryz.func126.trans (congrArg some (by kernel_rfl))
  f30 := Tryz.func138.trans (congrArg some (by kernel_rfl))
  f31 := Tryz.func139.trans (congrArg some (by kernel_rfl))
  f32 := Tryz.func140.trans (congrArg some (by kernel_rfl))
  f33 := Tryz.func141.trans (congrArg some (by kernel_rfl))
  f34 := Tryz.func154.trans (congrArg some (by kernel_rfl))
  f35 := Tryz.func155.trans (congrArg some (by kernel_rfl))
  f36 := Tryz.func156.trans (congrArg some (by kernel_rfl))
  f37 := Tryz.func157.trans (congrArg some (by kernel_rfl))
  f38 := Tryz.func158.trans (congrArg some (by kernel_rfl))
  f39 := Tryz.func166.trans (congrArg some (by kernel_rfl))
  f40 := Tryz.func167.trans (congrArg some (by kernel_rfl))
  t0 := Tryz.underlying0
  a0 := Tryz.isAgg0
  z0 := Tryz.sizeOf0
  v0 := Tryz.zeroValue0
  i0 := by kernel_rfl
  t2 := Tryz.underlying2
  a2 := Tryz.isAgg2
  z2 := Tryz.sizeOf2
  v2 := Tryz.zeroValue2
  i2 := by kernel_rfl
  t3 := Tryz.underlying3
  a3 := Tryz.isAgg3
  z3 := Tryz.sizeOf3
  v3 := Tryz.zeroValue3
  i3 := by kernel_rfl
  t4 := Tryz.underlying4
  a4 := Tryz.isAgg4
  z4 := Tryz.sizeOf4
  v4 := Tryz.zeroValue4
  i4 := by kernel_rfl
  t5 := Tryz.underlying5
  a5 := Tryz.isAgg5
  z5 := Tryz.sizeOf5
  v5 := Tryz.zeroValue5
  i5 := by kernel_rfl
  t9 := Tryz.underlying9
  a9 := Tryz.isAgg9
  z9 := Tryz.sizeOf9
  v9 := Tryz.zeroValue9
  i9 := by kernel_rfl
  t20 := Tryz.underlying20
  a20 := Tryz.isAgg20
  z20 := Tryz.sizeOf20
  v20 := Tryz.zeroValue20
  i20 := by kernel_rfl
  t21 := Tryz.underlying21
  a21 := Tryz.isAgg21
  z21 := Tryz.sizeOf21
  v21 := Tryz.zeroValue21
  i21 := by kernel_rfl
  t22 := Tryz.underlying141
  a22 := Tryz.isAgg141
  z22 := Tryz.sizeOf141
  v22 := Tryz.zeroValue141
  i22 := by kernel_rfl
  t24 := Tryz.underlying143
  a24 := Tryz.isAgg143
  z24 := Tryz.sizeOf143
  v24 := Tryz.zeroValue143
  i24 := by kernel_rfl
  t25 := Tryz.underlying144
  a25 := Tryz.isAgg144
  z25 := Tryz.sizeOf144
  v25 := Tryz.zeroValue144
  i25 := by kernel_rfl
  t34 := Tryz.underlying168
  a34 := Tryz.isAgg168
  z34 := Tryz.sizeOf168
  v34 := Tryz.zeroValue168
  i34 := by kernel_rfl
  c34 := by kernel_rfl
  t36 := Tryz.underlying153
  a36 := Tryz.isAgg153
  z36 := Tryz.sizeOf153
  v36 := Tryz.zeroValue153
  i36 := by kernel_rfl
  t37 := Tryz.underlying112
  a37 := Tryz.isAgg112
  z37 := Tryz.sizeOf112
  v37 := Tryz.zeroValue112
  i37 := by kernel_rfl
  t39 := Tryz.underlying171
  a39 := Tryz.isAgg171
  z39 := Tryz.sizeOf171
  v39 := Tryz.zeroValue171
  i39 := by kernel_rfl
  t44 := Tryz.underlying185
  a44 := Tryz.isAgg185
  z44 := Tryz.sizeOf185
  v44 := Tryz.zeroValue185
  i44 := by kernel_rfl
  t47 := Tryz.underlying182
  a47 := Tryz.isAgg182
  z47 := Tryz.sizeOf182
  v47 := Tryz.zeroValue182
  i47 := by kernel_rfl
  t48 := Tryz.underlying193
  a48 := Tryz.isAgg193
  z48 := Tryz.sizeOf193
  v48 := Tryz.zeroValue193
  i48 := by kernel_rfl
  t50 := Tryz.underlying195
  a50 := Tryz.isAgg195
  z50 := Tryz.sizeOf195
  v50 := Tryz.zeroValue195
  i50 := by kernel_rfl
  t52 := Tryz.underlying155
  a52 := Tryz.isAgg155
  z52 := Tryz.sizeOf155
  v52 := Tryz.zeroValue155
  i52 := by kernel_rfl
  t55 := Tryz.underlying158
  a55 := Tryz.isAgg158
  z55 := Tryz.sizeOf158
  v55 := Tryz.zeroValue158
  i55 := by kernel_rfl
  t59 := Tryz.underlying175
  a59 := Tryz.isAgg175
  z59 := Tryz.sizeOf175
  v59 := Tryz.zeroValue175
  i59 := by kernel_rfl
  t60 := Tryz.underlying131
  a60 := Tryz.isAgg131
  z60 := Tryz.sizeOf131
  v60 := Tryz.zeroValue131
  i60 := by kernel_rfl
  t61 := Tryz.underlying176
  a61 := Tryz.isAgg176
  z61 := Tryz.sizeOf176
  t65 := Tryz.underlying196
  a65 := Tryz.isAgg196
  z65 := Tryz.sizeOf196
  v65 := Tryz.zeroValue196
  i65 := by kernel_rfl
  t66 := Tryz.underlying197
  a66 := Tryz.isAgg197
  z66 := Tryz.sizeOf197
  v66 := Tryz.zeroValue197
  i66 := by kernel_rfl
  t67 := Tryz.underlying135
  a67 := Tryz.isAgg135
  z67 := Tryz.sizeOf135
  v67 := Tryz.zeroValue135
  i67 := by kernel_rfl
  g0 := by kernel_rfl
  m0 := by kernel_rfl
  g1 := by kernel_rfl
  m1 := by kernel_rfl
  g2 := by kernel_rfl
  m2 := by kernel_rfl
  g3 := by kernel_rfl
  m3 := by kernel_rfl
  g4 := by kernel_rfl
  m4 := by kernel_rfl }
open Go.RowKit in
/-- strconv.ParseUint(s, 10, 32), AT EVERY STRING THAT SPELLS A uint32 ('Lib.parseUintB 32 s.data.toList = .ok u'): u, AND NO ERROR. (LAID: no walk: one application.) -/
theorem Tryz.strconv_ParseUint_10_at32_ok (s : ByteArray) (hmax : s.size ≤ 9223372036854775806) (u : Nat) (h : Lib.parseUintB 32 s.data.toList = .ok u) (w : World) :
    Calls Tryz.prog 125 #[.string s, .int .i64 10, .int .i64 32] w fun e w' => e = .returned (.tuple #[.int .u64 u, .nilIface]) ∧ (w' = w ∨ w' = Lib.bytesWorld w 5 s) := Any.strconv_ParseUint_10_at32_ok Tryz.laysPu14 s hmax u h w
def Tryz.lays219_ren : Go.Shelf.Ren := ⟨fun | 219 => 121 | 217 => 132 | 225 => 133 | 224 => 134 | 267 => 135 | 266 => 146 | 314 => 147 | n => n, fun | 9 => 9 | 3 => 3 | 4 => 4 | 5 => 5 | 46 => 153 | 146 => 166 | 51 => 131 | n => n, fun | 1 => 0 | n => n⟩
theorem Tryz.lays219 : Go.Proofs.Lays.n219 Tryz.prog Tryz.lays219_ren := {
  mixed := by kernel_rfl
  f217 := Tryz.func132.trans (congrArg some (by kernel_rfl))
  f219 := Tryz.func121.trans (congrArg some (by kernel_rfl))
  f224 := Tryz.func134.trans (congrArg some (by kernel_rfl))
  f225 := Tryz.func133.trans (congrArg some (by kernel_rfl))
  f266 := Tryz.func146.trans (congrArg some (by kernel_rfl))
  f267 := Tryz.func135.trans (congrArg some (by kernel_rfl))
  f314 := Tryz.func147.trans (congrArg some (by kernel_rfl))
  t3 := Tryz.underlying3
  a3 := Tryz.isAgg3
  z3 := Tryz.sizeOf3
  v3 := Tryz.zeroValue3
  t4 := Tryz.underlying4
  a4 := Tryz.isAgg4
  z4 := Tryz.sizeOf4
  v4 := Tryz.zeroValue4
  t5 := Tryz.underlying5
  a5 := Tryz.isAgg5
  z5 := Tryz.sizeOf5
  v5 := Tryz.zeroValue5
  t9 := Tryz.underlying9
  a9 := Tryz.isAgg9
  z9 := Tryz.sizeOf9
  v9 := Tryz.zeroValue9
  t46 := Tryz.underlying153
  a46 := Tryz.isAgg153
  z46 := Tryz.sizeOf153
  v46 := Tryz.zeroValue153
  t51 := Tryz.underlying131
  a51 := Tryz.isAgg131
  z51 := Tryz.sizeOf131
  v51 := Tryz.zeroValue131
  t146 := Tryz.underlying166
  a146 := Tryz.isAgg166
  z146 := Tryz.sizeOf166
  v146 := Tryz.zeroValue166
  g1 := by kernel_rfl }
def Tryz.lays101_ren : Go.Shelf.Ren := ⟨fun | 101 => 131 | 208 => 145 | 206 => 127 | n => n, fun | 9 => 9 | 4 => 4 | 3 => 3 | n => n, fun | n => n⟩
theorem Tryz.lays101 : Go.Proofs.Lays.n101 Tryz.prog Tryz.lays101_ren := {
  mixed := by kernel_rfl
  f101 := Tryz.func131.trans (congrArg some (by kernel_rfl))
  f206 := Tryz.func127.trans (congrArg some (by kernel_rfl))
  f208 := Tryz.func145.trans (congrArg some (by kernel_rfl))
  t3 := Tryz.underlying3
  a3 := Tryz.isAgg3
  z3 := Tryz.sizeOf3
  v3 := Tryz.zeroValue3
  t4 := Tryz.underlying4
  a4 := Tryz.isAgg4
  z4 := Tryz.sizeOf4
  v4 := Tryz.zeroValue4
  t9 := Tryz.underlying9
  a9 := Tryz.isAgg9
  z9 := Tryz.sizeOf9
  v9 := Tryz.zeroValue9 }
open Go.RowKit Go.Lib in
/-- strings.TrimPrefix: "TrimPrefix returns s without the provided leading prefix string. If s doesn't start with prefix, s is returned unchanged.": IT RETURNS 'Lib.trimPrefix s prefix'; the world is as it was. (LAID: no walk: one application.) -/
theorem Tryz.strings_TrimPrefix (s p : ByteArray) (w : World) :
    Calls Tryz.prog 131 #[.string s, .string p] w fun e w' => e = .returned (.string ⟨(Lib.trimPrefix s.data.toList p.data.toList).toArray⟩) ∧ w' = w := Any.strings_TrimPrefix Tryz.lays101 s p w
def Tryz.lays105_ren : Go.Shelf.Ren := ⟨fun | 105 => 143 | 212 => 160 | 99 => 161 | 165 => 162 | 166 => 142 | 170 => 163 | 169 => 144 | 263 => 169 | 264 => 170 | 206 => 127 | 240 => 159 | 241 => 171 | 276 => 168 | 277 => 172 | n => n, fun | 9 => 9 | 3 => 3 | 4 => 4 | 20 => 20 | 0 => 0 | 46 => 153 | 109 => 179 | 5 => 5 | 72 => 162 | 76 => 163 | 51 => 131 | 146 => 166 | 53 => 141 | 148 => 191 | 70 => 160 | 37 => 112 | 75 => 143 | 127 => 182 | 164 => 188 | 80 => 135 | n => n, fun | n => n⟩
theorem Tryz.lays105 : Go.Proofs.Lays.n105 Tryz.prog Tryz.lays105_ren := {
  mixed := by kernel_rfl
  f99 := Tryz.func161.trans (congrArg some (by kernel_rfl))
  f105 := Tryz.func143.trans (congrArg some (by kernel_rfl))
  f165 := Tryz.func162.trans (congrArg some (by kernel_rfl))
  f166 := Tryz.func142.trans (congrArg some (by kernel_rfl))
  f169 := Tryz.func144.trans (congrArg some (by kernel_rfl))
  f170 := Tryz.func163.trans (congrArg some (by kernel_rfl))
  f206 := Tryz.func127.trans (congrArg some (by kernel_rfl))
  f212 := Tryz.func160.trans (congrArg some (by kernel_rfl))
  f240 := Tryz.func159.trans (congrArg some (by kernel_rfl))
  f241 := Tryz.func171.trans (congrArg some (by kernel_rfl))
  f263 := Tryz.func169.trans (congrArg some (by kernel_rfl))
  f264 := Tryz.func170.trans (congrArg some (by kernel_rfl))
  f276 := Tryz.func168.trans (congrArg some (by kernel_rfl))
  f277 := Tryz.func172.trans (congrArg some (by kernel_rfl))
  t0 := Tryz.underlying0
  a0 := Tryz.isAgg0
  z0 := Tryz.sizeOf0
  v0 := Tryz.zeroValue0
  t3 := Tryz.underlying3
  a3 := Tryz.isAgg3
  z3 := Tryz.sizeOf3
  v3 := Tryz.zeroValue3
  t4 := Tryz.underlying4
  a4 := Tryz.isAgg4
  z4 := Tryz.sizeOf4
  v4 := Tryz.zeroValue4
  t5 := Tryz.underlying5
  a5 := Tryz.isAgg5
  z5 := Tryz.sizeOf5
  v5 := Tryz.zeroValue5
  t9 := Tryz.underlying9
  a9 := Tryz.isAgg9
  z9 := Tryz.sizeOf9
  v9 := Tryz.zeroValue9
  t20 := Tryz.underlying20
  a20 := Tryz.isAgg20
  z20 := Tryz.sizeOf20
  v20 := Tryz.zeroValue20
  t37 := Tryz.underlying112
  a37 := Tryz.isAgg112
  z37 := Tryz.sizeOf112
  v37 := Tryz.zeroValue112
  t46 := Tryz.underlying153
  a46 := Tryz.isAgg153
  z46 := Tryz.sizeOf153
  v46 := Tryz.zeroValue153
  t51 := Tryz.underlying131
  a51 := Tryz.isAgg131
  z51 := Tryz.sizeOf131
  v51 := Tryz.zeroValue131
  t53 := Tryz.underlying141
  a53 := Tryz.isAgg141
  z53 := Tryz.sizeOf141
  v53 := Tryz.zeroValue141
  t70 := Tryz.underlying160
  a70 := Tryz.isAgg160
  z70 := Tryz.sizeOf160
  v70 := Tryz.zeroValue160
  t72 := Tryz.underlying162
  a72 := Tryz.isAgg162
  z72 := Tryz.sizeOf162
  v72 := Tryz.zeroValue162
  t75 := Tryz.underlying143
  a75 := Tryz.isAgg143
  z75 := Tryz.sizeOf143
  v75 := Tryz.zeroValue143
  t76 := Tryz.underlying163
  a76 := Tryz.isAgg163
  z76 := Tryz.sizeOf163
  v76 := Tryz.zeroValue163
  t109 := Tryz.underlying179
  a109 := Tryz.isAgg179
  z109 := Tryz.sizeOf179
  v109 := Tryz.zeroValue179
  t127 := Tryz.underlying182
  a127 := Tryz.isAgg182
  z127 := Tryz.sizeOf182
  v127 := Tryz.zeroValue182
  t146 := Tryz.underlying166
  a146 := Tryz.isAgg166
  z146 := Tryz.sizeOf166
  v146 := Tryz.zeroValue166
  t148 := Tryz.underlying191
  a148 := Tryz.isAgg191
  z148 := Tryz.sizeOf191
  v148 := Tryz.zeroValue191
  t164 := Tryz.underlying188
  a164 := Tryz.isAgg188
  z164 := Tryz.sizeOf188
  v164 := Tryz.zeroValue188 }
theorem Tryz.Builder_Extra_105 : Builder.Extra Tryz.prog Tryz.lays105_ren := {
  sizeBuilder := by kernel_rfl
  liesBuilder := by kernel_rfl
  t5 := Tryz.underlying5
  a5 := Tryz.isAgg5
  z5 := Tryz.sizeOf5
  v5 := Tryz.zeroValue5
  infoByte := by kernel_rfl
  cellsByte := by kernel_rfl
  sizeByte := by kernel_rfl
  neB5 := by decide }
open Go.RowKit Go.Lib in
/-- **strings.Repeat: count ≥ 0, the result within one allocation: count copies of s.** (LAID: no walk: one application.) -/
theorem Tryz.strings_Repeat (s : ByteArray) (c : Nat) (w : World) (hc : c ≤ 9223372036854775807) (hlen : s.size * c ≤ 140737488355328) :
    Calls Tryz.prog 143 #[.string s, .int .i64 c] w fun e w' => e = .returned (.string ⟨(Lib.repeatL s.data.toList c).toArray⟩) ∧ Below w.heap.size w w' := Any.strings_Repeat Tryz.lays105 Tryz.Builder_Extra_105 s c w hc hlen
def Tryz.lays166_ren : Go.Shelf.Ren := ⟨fun | 166 => 142 | 240 => 159 | 276 => 168 | n => n, fun | 0 => 0 | 3 => 3 | 4 => 4 | 9 => 9 | 20 => 20 | 37 => 112 | 70 => 160 | 72 => 162 | 75 => 143 | 164 => 188 | 80 => 135 | 5 => 5 | n => n, fun | n => n⟩
theorem Tryz.lays166 : Go.Proofs.Lays.n166 Tryz.prog Tryz.lays166_ren := {
  mixed := by kernel_rfl
  f166 := Tryz.func142.trans (congrArg some (by kernel_rfl))
  f240 := Tryz.func159.trans (congrArg some (by kernel_rfl))
  f276 := Tryz.func168.trans (congrArg some (by kernel_rfl))
  t0 := Tryz.underlying0
  a0 := Tryz.isAgg0
  z0 := Tryz.sizeOf0
  v0 := Tryz.zeroValue0
  t3 := Tryz.underlying3
  a3 := Tryz.isAgg3
  z3 := Tryz.sizeOf3
  v3 := Tryz.zeroValue3
  t4 := Tryz.underlying4
  a4 := Tryz.isAgg4
  z4 := Tryz.sizeOf4
  v4 := Tryz.zeroValue4
  t9 := Tryz.underlying9
  a9 := Tryz.isAgg9
  z9 := Tryz.sizeOf9
  v9 := Tryz.zeroValue9
  t20 := Tryz.underlying20
  a20 := Tryz.isAgg20
  z20 := Tryz.sizeOf20
  v20 := Tryz.zeroValue20
  t37 := Tryz.underlying112
  a37 := Tryz.isAgg112
  z37 := Tryz.sizeOf112
  v37 := Tryz.zeroValue112
  t70 := Tryz.underlying160
  a70 := Tryz.isAgg160
  z70 := Tryz.sizeOf160
  v70 := Tryz.zeroValue160
  t72 := Tryz.underlying162
  a72 := Tryz.isAgg162
  z72 := Tryz.sizeOf162
  v72 := Tryz.zeroValue162
  t75 := Tryz.underlying143
  a75 := Tryz.isAgg143
  z75 := Tryz.sizeOf143
  v75 := Tryz.zeroValue143
  t164 := Tryz.underlying188
  a164 := Tryz.isAgg188
  z164 := Tryz.sizeOf188
  v164 := Tryz.zeroValue188 }
theorem Tryz.Builder_Extra_166 : Builder.Extra Tryz.prog Tryz.lays166_ren := {
  sizeBuilder := by kernel_rfl
  liesBuilder := by kernel_rfl
  t5 := Tryz.underlying5
  a5 := Tryz.isAgg5
  z5 := Tryz.sizeOf5
  v5 := Tryz.zeroValue5
  infoByte := by kernel_rfl
  cellsByte := by kernel_rfl
  sizeByte := by kernel_rfl
  neB5 := by decide }
open Go.RowKit in
theorem Tryz.Builder_WriteString (B b : Nat) (bs : List Value) (s : ByteArray) (w : World) (h : Lib.IsBuilder 162 5 B b bs w) (hlen : bs.length + s.size ≤ 140737488355328) (hBw : B ≤ w.heap.size) :
    Calls Tryz.prog 142 #[.pointer (some ⟨b, 0, none⟩), .string s] w fun e w' => e = .returned (.tuple #[.int .i64 s.size, .nilIface]) ∧ (Lib.BuilderAt 162 5 B b (.pointer (some ⟨b, 0, none⟩)) (bs ++ Lib.strCells s) w' ∧ Below B w w') := Any.Builder_WriteString Tryz.lays166 Tryz.Builder_Extra_166 B b bs s w h hlen hBw
end Go.Proofs

set_option linter.unusedVariables false
set_option linter.unusedSimpArgs false
namespace Go.Proofs.YthpknfoahimopaaGreatDoor

/-- The number with some digits. -/
def valB (b : Nat) : List Nat → Nat
  | [] => 0
  | d :: r => d + b * valB b r
/-- The digits without zeros at the end. -/
def cutB : List Nat → List Nat
  | [] => []
  | d :: r => if d = 0 ∧ cutB r = [] then [] else d :: cutB r
/-- No zero at the end. -/
def Cut (l : List Nat) : Prop := cutB l = l
theorem valB_append (b : Nat) : ∀ l m : List Nat, valB b (l ++ m) = valB b l + b ^ l.length * valB b m
  | [], m => by simp [valB]
  | d :: r, m => by
    simp only [List.cons_append, valB, List.length_cons, valB_append b r m, Nat.pow_succ, Nat.mul_add]
    rw [Nat.mul_comm (b ^ r.length) b, Nat.mul_assoc, Nat.add_assoc]
theorem valB_lt {b : Nat} : ∀ {l : List Nat}, (∀ d ∈ l, d < b) → valB b l < b ^ l.length
  | [], _ => by simp [valB]
  | d :: r, h => by
    have h1 := h d (by simp)
    have h2 := valB_lt (l := r) (fun x hx => h x (by simp [hx]))
    simp only [valB, List.length_cons, Nat.pow_succ]
    have h3 : b * (valB b r + 1) ≤ b * b ^ r.length := Nat.mul_le_mul_left _ h2
    rw [Nat.mul_comm (b ^ r.length) b]
    rw [Nat.mul_add] at h3
    omega
theorem valB_cut (b : Nat) : ∀ l, valB b (cutB l) = valB b l
  | [] => rfl
  | d :: r => by
    have h := valB_cut b r
    unfold cutB
    split
    · rename_i e
      rw [e.2] at h
      simp only [valB] at h ⊢
      rw [← h, e.1]
      simp
    · simp only [valB, h]
theorem cutB_cons (d : Nat) (r : List Nat) : cutB (d :: r) = if d = 0 ∧ cutB r = [] then [] else d :: cutB r := rfl
theorem cutB_cut : ∀ l, cutB (cutB l) = cutB l
  | [] => rfl
  | d :: r => by
    have h := cutB_cut r
    by_cases e : d = 0 ∧ cutB r = []
    · rw [cutB_cons, if_pos e]
      rfl
    · rw [cutB_cons, if_neg e, cutB_cons, h, if_neg e]
theorem cutB_mem : ∀ {l : List Nat} {d : Nat}, d ∈ cutB l → d ∈ l
  | [], d, h => h
  | x :: r, d, h => by
    unfold cutB at h
    split at h
    · simp at h
    · rcases List.mem_cons.1 h with h | h
      · simp [h]
      · exact List.mem_cons_of_mem _ (cutB_mem h)
theorem cutB_len : ∀ l : List Nat, (cutB l).length ≤ l.length
  | [] => by simp [cutB]
  | x :: r => by
    have h := cutB_len r
    unfold cutB
    split
    · simp
    · simp; exact h
theorem Cut.tail {d : Nat} {r : List Nat} (h : Cut (d :: r)) : Cut r := by
  unfold Cut at h ⊢
  unfold cutB at h
  split at h
  · cases h
  · injection h
theorem valB_zero {b : Nat} (hb : 0 < b) : ∀ {l : List Nat}, valB b l = 0 → cutB l = []
  | [], _ => rfl
  | d :: r, h => by
    simp only [valB] at h
    have h1 : d = 0 := by omega
    have h2 : valB b r = 0 := by
      rcases Nat.mul_eq_zero.1 (show b * valB b r = 0 by omega) with h | h
      · omega
      · exact h
    unfold cutB
    rw [if_pos ⟨h1, valB_zero hb h2⟩]
/-- The digits of a number are known by their value. -/
theorem valB_inj {b : Nat} (hb : 0 < b) : ∀ {l m : List Nat}, (∀ d ∈ l, d < b) → (∀ d ∈ m, d < b) → Cut l → Cut m → valB b l = valB b m → l = m
  | [], m, _, _, _, hm, h => by
    have h1 := valB_zero hb (l := m) (by rw [← h]; rfl)
    unfold Cut at hm
    rw [← hm, h1]
  | x :: r, [], _, _, hl, _, h => by
    have h1 := valB_zero hb (l := x :: r) (by rw [h]; rfl)
    unfold Cut at hl
    rw [← hl, h1]
  | x :: r, y :: s, hl, hm, cl, cm, h => by
    have h1 := hl x (by simp)
    have h2 := hm y (by simp)
    simp only [valB] at h
    have h3 : x = y := by
      have h5 := congrArg (· % b) h
      simp only [Nat.add_mul_mod_self_left] at h5
      rw [Nat.mod_eq_of_lt h1, Nat.mod_eq_of_lt h2] at h5
      exact h5
    subst h3
    have h4 : valB b r = valB b s := Nat.eq_of_mul_eq_mul_left hb (by omega)
    rw [valB_inj hb (fun d hd => hl d (by simp [hd])) (fun d hd => hm d (by simp [hd])) cl.tail cm.tail h4]
/-- The digits of a number. -/
def digB (b : Nat) (n : Nat) : List Nat :=
  if h : 2 ≤ b ∧ 0 < n then n % b :: digB b (n / b) else []
termination_by n
decreasing_by exact Nat.div_lt_self h.2 (by omega)
theorem valB_digB {b : Nat} (hb : 2 ≤ b) (n : Nat) : valB b (digB b n) = n := by
  induction n using Nat.strongRecOn with
  | ind n ih =>
    unfold digB
    split
    · rename_i h
      simp only [valB]
      rw [ih (n / b) (Nat.div_lt_self h.2 (by omega))]
      exact Nat.mod_add_div n b
    · simp only [valB]
      omega
theorem digB_lt {b : Nat} (hb : 2 ≤ b) (n : Nat) : ∀ d ∈ digB b n, d < b := by
  induction n using Nat.strongRecOn with
  | ind n ih =>
    intro d hd
    unfold digB at hd
    split at hd
    · rename_i h
      rcases List.mem_cons.1 hd with e | e
      · rw [e]; exact Nat.mod_lt _ (by omega)
      · exact ih _ (Nat.div_lt_self h.2 (by omega)) d e
    · simp at hd
theorem digB_nil {b : Nat} (hb : 2 ≤ b) {n : Nat} (h : digB b n = []) : n = 0 := by
  have h1 := valB_digB hb n
  rw [h] at h1
  exact h1.symm
theorem digB_cut {b : Nat} (hb : 2 ≤ b) (n : Nat) : Cut (digB b n) := by
  induction n using Nat.strongRecOn with
  | ind n ih =>
    unfold digB
    split
    · rename_i h
      have h1 := ih (n / b) (Nat.div_lt_self h.2 (by omega))
      unfold Cut at h1 ⊢
      unfold cutB
      rw [h1, if_neg]
      rintro ⟨h2, h3⟩
      have h4 := digB_nil hb h3
      have h5 := Nat.mod_add_div n b
      rw [h2, h4] at h5
      omega
    · rfl
/-- Digits without zeros at the end are the digits of their number. -/
theorem digB_val {b : Nat} (hb : 2 ≤ b) {l : List Nat} (h : ∀ d ∈ l, d < b) (hc : Cut l) : digB b (valB b l) = l :=
  valB_inj (by omega) (digB_lt hb _) h (digB_cut hb _) hc (valB_digB hb _)
theorem cutB_digB {b : Nat} (hb : 2 ≤ b) {l : List Nat} (h : ∀ d ∈ l, d < b) : cutB l = digB b (valB b l) := by
  rw [← valB_cut b l]
  exact (digB_val hb (fun d hd => h d (cutB_mem hd)) (cutB_cut l)).symm
/-- How long the digits are. -/
theorem digB_len_le {b : Nat} (hb : 2 ≤ b) {n k : Nat} (h : n < b ^ k) : (digB b n).length ≤ k := by
  induction k generalizing n with
  | zero =>
    have : n = 0 := by simpa using h
    subst this
    unfold digB
    simp
  | succ k ih =>
    unfold digB
    split
    · rename_i h0
      simp only [List.length_cons]
      have := ih (n := n / b) (Nat.div_lt_of_lt_mul (by rw [Nat.pow_succ, Nat.mul_comm] at h; exact h))
      omega
    · simp
theorem digB_len_ge {b : Nat} (hb : 2 ≤ b) {n k : Nat} (h : b ^ k ≤ n) : k < (digB b n).length := by
  have h1 := valB_lt (digB_lt hb n)
  rw [valB_digB hb] at h1
  exact (Nat.pow_lt_pow_iff_right (by omega)).1 (Nat.lt_of_le_of_lt h h1)
end Go.Proofs.YthpknfoahimopaaGreatDoor

set_option linter.unusedVariables false
set_option linter.unusedSimpArgs false
namespace Go.Proofs.YthpknfoahimopaaGreatDoor

theorem valB_take_succ (b : Nat) {l : List Nat} {i x : Nat} (h : l[i]? = some x) : valB b (l.take (i + 1)) = valB b (l.take i) + b ^ i * x := by
  have hi := (List.getElem?_eq_some_iff.1 h).1
  rw [List.take_add_one, h, valB_append, List.length_take]
  simp only [Option.toList, valB, Nat.mul_zero, Nat.add_zero]
  rw [Nat.min_eq_left (by omega)]
theorem valB_take_past (b : Nat) {l : List Nat} {i : Nat} (h : l.length ≤ i) : valB b (l.take i) = valB b l := by
  rw [List.take_of_length_le h]
theorem valB_snoc (b : Nat) (l : List Nat) (x : Nat) : valB b (l ++ [x]) = valB b l + b ^ l.length * x := by
  rw [valB_append]
  simp [valB]
theorem valB_set (b : Nat) : ∀ {l : List Nat} {i x : Nat} (y : Nat), l[i]? = some x → valB b (l.set i y) + b ^ i * x = valB b l + b ^ i * y
  | [], i, x, y, h => by simp at h
  | d :: r, 0, x, y, h => by
    simp at h
    subst h
    simp only [List.set_cons_zero, valB, Nat.pow_zero, Nat.one_mul]
    omega
  | d :: r, i + 1, x, y, h => by
    simp at h
    have h1 := valB_set b y h
    have h2 : b * (valB b (r.set i y) + b ^ i * x) = b * (valB b r + b ^ i * y) := by rw [h1]
    simp only [List.set_cons_succ, valB, Nat.pow_succ]
    rw [Nat.mul_add, Nat.mul_add, ← Nat.mul_assoc, ← Nat.mul_assoc, Nat.mul_comm b (b ^ i)] at h2
    omega
theorem valB_drop (b : Nat) {l : List Nat} {i x : Nat} (h : l[i]? = some x) : valB b (l.drop i) = x + b * valB b (l.drop (i + 1)) := by
  have hi := (List.getElem?_eq_some_iff.1 h)
  rw [List.drop_eq_getElem_cons hi.1, hi.2]
  rfl
theorem valB_split (b : Nat) (l : List Nat) (i : Nat) (h : i ≤ l.length) : valB b l = valB b (l.take i) + b ^ i * valB b (l.drop i) := by
  have h1 := valB_append b (l.take i) (l.drop i)
  rw [List.take_append_drop, List.length_take, Nat.min_eq_left h] at h1
  exact h1
theorem valB_replicate (b : Nat) : ∀ n, valB b (List.replicate n 0) = 0
  | 0 => rfl
  | n + 1 => by
    rw [List.replicate_succ]
    simp [valB, valB_replicate b n]
/-- More digits: a greater number. -/
theorem valB_len {b : Nat} (hb : 2 ≤ b) {l m : List Nat} (hl : ∀ d ∈ l, d < b) (hm : ∀ d ∈ m, d < b) (cm : Cut m) (h : l.length < m.length) : valB b l < valB b m := by
  by_cases e : valB b l < valB b m
  · exact e
  · exfalso
    have h1 := valB_lt hl
    have h2 : valB b m < b ^ l.length := by omega
    have h3 := digB_len_le hb h2
    rw [digB_val hb hm cm] at h3
    omega
/-- As many digits, and the first ones that differ from the end. -/
theorem valB_top {b : Nat} {l m : List Nat} (hl : ∀ d ∈ l, d < b) (hm : ∀ d ∈ m, d < b) {i x y : Nat} (hx : l[i]? = some x) (hy : m[i]? = some y) (h : l.drop (i + 1) = m.drop (i + 1)) (hxy : x < y) : valB b l < valB b m := by
  have il := (List.getElem?_eq_some_iff.1 hx).1
  have im := (List.getElem?_eq_some_iff.1 hy).1
  rw [valB_split b l i (by omega), valB_split b m i (by omega), valB_drop b hx, valB_drop b hy, h]
  have h1 : valB b (l.take i) < b ^ i := by
    have h2 := valB_lt (l := l.take i) (fun d hd => hl d (List.mem_of_mem_take hd))
    rw [List.length_take, Nat.min_eq_left (by omega)] at h2
    exact h2
  have h3 : b ^ i * (x + b * valB b (m.drop (i + 1)) + 1) ≤ b ^ i * (y + b * valB b (m.drop (i + 1))) := Nat.mul_le_mul_left _ (by omega)
  rw [Nat.mul_add, Nat.mul_one] at h3
  omega
end Go.Proofs.YthpknfoahimopaaGreatDoor

set_option linter.unusedVariables false
set_option linter.unusedSimpArgs false
namespace Go.Proofs.YthpknfoahimopaaGreatDoor

/-- The byte of a digit, the digit of a byte. -/
def byteD (d : Nat) : UInt8 := UInt8.ofNat (48 + d)
def dgt (c : UInt8) : Nat := c.toNat - 48
def isDgt (c : UInt8) : Prop := 48 ≤ c.toNat ∧ c.toNat ≤ 57
instance (c : UInt8) : Decidable (isDgt c) := inferInstanceAs (Decidable (48 ≤ c.toNat ∧ c.toNat ≤ 57))
instance (l : List Nat) : Decidable (Cut l) := inferInstanceAs (Decidable (cutB l = l))
theorem byteD_nat {d : Nat} (h : d < 10) : (byteD d).toNat = 48 + d := by
  unfold byteD
  rw [UInt8.toNat_ofNat']
  omega
theorem dgt_byteD {d : Nat} (h : d < 10) : dgt (byteD d) = d := by
  unfold dgt
  rw [byteD_nat h]
  omega
theorem isDgt_byteD {d : Nat} (h : d < 10) : isDgt (byteD d) := by
  unfold isDgt
  rw [byteD_nat h]
  omega
theorem dgt_lt {c : UInt8} (h : isDgt c) : dgt c < 10 := by
  unfold isDgt at h
  unfold dgt
  omega
theorem byteD_dgt {c : UInt8} (h : isDgt c) : byteD (dgt c) = c := by
  apply UInt8.toNat_inj.1
  rw [byteD_nat (dgt_lt h)]
  unfold isDgt at h
  unfold dgt
  omega
/-- The digits of a text, the last one first; the number with them. -/
def digT (l : List UInt8) : List Nat := l.reverse.map dgt
def valT (l : List UInt8) : Nat := valB 10 (digT l)
/-- The text of a natural number, of an integer. -/
def txtN (n : Nat) : List UInt8 := if n = 0 then [48] else ((digB 10 n).map byteD).reverse
def txtI (z : Int) : List UInt8 := if z < 0 then 45 :: txtN z.natAbs else txtN z.natAbs
theorem digT_lt {l : List UInt8} (h : ∀ c ∈ l, isDgt c) : ∀ d ∈ digT l, d < 10 := by
  intro d hd
  obtain ⟨c, hc, rfl⟩ := List.mem_map.1 hd
  exact dgt_lt (h c (by simpa using hc))
theorem map_dgt_byteD {l : List Nat} (h : ∀ d ∈ l, d < 10) : (l.map byteD).map dgt = l := by
  rw [List.map_map]
  conv => rhs; rw [← List.map_id l]
  exact List.map_congr_left fun d hd => dgt_byteD (h d hd)
theorem map_byteD_dgt {l : List UInt8} (h : ∀ c ∈ l, isDgt c) : (l.map dgt).map byteD = l := by
  rw [List.map_map]
  conv => rhs; rw [← List.map_id l]
  exact List.map_congr_left fun c hc => byteD_dgt (h c hc)
theorem txtN_dgt (n : Nat) : ∀ c ∈ txtN n, isDgt c := by
  intro c hc
  unfold txtN at hc
  split at hc
  · simp at hc
    subst hc
    decide
  · rw [List.mem_reverse] at hc
    obtain ⟨d, hd, rfl⟩ := List.mem_map.1 hc
    exact isDgt_byteD (digB_lt (by omega) n d hd)
theorem valT_txtN (n : Nat) : valT (txtN n) = n := by
  unfold valT digT txtN
  split
  · rename_i h
    subst h
    rfl
  · rw [List.reverse_reverse, map_dgt_byteD (digB_lt (by omega) n), valB_digB (by omega)]
theorem txtN_inj {n m : Nat} (h : txtN n = txtN m) : n = m := by rw [← valT_txtN n, h, valT_txtN]
theorem txtN_ne (n : Nat) : txtN n ≠ [] := by
  unfold txtN
  split
  · simp
  · rename_i h
    intro e
    simp at e
    exact h (digB_nil (by omega) e)
theorem txtN_len_pos (n : Nat) : 0 < (txtN n).length := List.length_pos_iff.2 (txtN_ne n)
theorem txtN_head (n : Nat) {r : List UInt8} : txtN n ≠ 45 :: r := by
  intro e
  have h := txtN_dgt n 45 (by rw [e]; simp)
  exact absurd h (by decide)
theorem txtI_inj {x y : Int} (h : txtI x = txtI y) : x = y := by
  unfold txtI at h
  split at h <;> split at h
  · injection h with _ h
    have := txtN_inj h
    omega
  · exact absurd h.symm (txtN_head _)
  · exact absurd h (txtN_head _)
  · have := txtN_inj h
    omega
/-- No zero at the end of digits: the last one is not zero. -/
theorem cut_last {l : List Nat} {x : Nat} (h : x ≠ 0) : Cut (l ++ [x]) := by
  unfold Cut
  induction l with
  | nil => simp [cutB, h]
  | cons d r ih =>
    rw [List.cons_append, cutB_cons, ih, if_neg]
    rintro ⟨_, e⟩
    simp at e
theorem cut_last_ne {l : List Nat} {x : Nat} (h : Cut (l ++ [x])) : x ≠ 0 := by
  induction l with
  | nil =>
    intro e
    subst e
    exact absurd h (by decide)
  | cons d r ih => exact ih h.tail
/-- A text of digits without a zero ahead is the text of its number. -/
theorem txtN_val {c : UInt8} {l : List UInt8} (h : ∀ x ∈ c :: l, isDgt x) (h0 : c ≠ 48 ∨ l = []) : txtN (valT (c :: l)) = c :: l := by
  by_cases e : valT (c :: l) = 0
  · have h1 : cutB (digT (c :: l)) = [] := valB_zero (b := 10) (by omega) e
    have hc := h c (by simp)
    by_cases hc0 : c = 48
    · rcases h0 with h0 | h0
      · exact absurd hc0 h0
      · subst h0 hc0
        rfl
    · exfalso
      have h2 : Cut (digT (c :: l)) := by
        unfold digT
        rw [List.reverse_cons, List.map_append]
        refine cut_last (x := dgt c) ?_
        intro e2
        apply hc0
        rw [← byteD_dgt hc, e2]
        rfl
      rw [h2] at h1
      unfold digT at h1
      simp at h1
  · unfold txtN
    rw [if_neg e]
    have h2 : Cut (digT (c :: l)) := by
      unfold digT
      rw [List.reverse_cons, List.map_append]
      refine cut_last (x := dgt c) ?_
      intro e2
      have hc0 : c = 48 := by
        rw [← byteD_dgt (h c (by simp)), e2]
        rfl
      rcases h0 with h0 | h0
      · exact h0 hc0
      · subst h0 hc0
        exact e rfl
    unfold valT
    rw [digB_val (by omega) (digT_lt h) h2]
    unfold digT
    rw [map_byteD_dgt (fun x hx => h x (List.mem_reverse.1 hx)), List.reverse_reverse]
/-- How long a text is. -/
theorem txtN_len {n : Nat} (h : n ≠ 0) : (txtN n).length = (digB 10 n).length := by
  unfold txtN
  rw [if_neg h]
  simp
end Go.Proofs.YthpknfoahimopaaGreatDoor

set_option linter.unusedVariables false
set_option linter.unusedSimpArgs false
namespace Go.Proofs.YthpknfoahimopaaGreatDoor

/-- A text without its sign. -/
def sgnT (l : List UInt8) : Bool := l.head? == some 45
def magT (l : List UInt8) : List UInt8 := if sgnT l then l.drop 1 else l
/-- Canonical texts. -/
def CanT (l : List UInt8) : Prop := (∀ c ∈ magT l, isDgt c) ∧ magT l ≠ [] ∧ ((magT l).head? ≠ some 48 ∨ ((magT l).length = 1 ∧ sgnT l = false))
instance (l : List UInt8) : Decidable (CanT l) := inferInstanceAs (Decidable ((∀ c ∈ magT l, isDgt c) ∧ magT l ≠ [] ∧ ((magT l).head? ≠ some 48 ∨ ((magT l).length = 1 ∧ sgnT l = false))))
/-- The error of a text. -/
def chkI (l : List UInt8) : Int := if CanT l then (if 1024 < (magT l).length then 11 else 0) else 3
/-- The integer with a text. -/
def readI (l : List UInt8) : Int := if sgnT l then -(valT (magT l) : Int) else valT (magT l)
theorem txtI_pos {z : Int} (h : 0 ≤ z) : sgnT (txtI z) = false ∧ magT (txtI z) = txtN z.natAbs := by
  have h1 : txtI z = txtN z.natAbs := if_neg (by omega)
  have h2 : sgnT (txtI z) = false := by
    rw [h1]
    unfold sgnT
    cases hl : txtN z.natAbs with
    | nil => rfl
    | cons c r =>
      have := fun e : c = 45 => txtN_head z.natAbs (r := r) (by rw [hl, e])
      simp
      exact this
  exact ⟨h2, by unfold magT; rw [h2, h1]; rfl⟩
theorem txtI_neg {z : Int} (h : z < 0) : sgnT (txtI z) = true ∧ magT (txtI z) = txtN z.natAbs := by
  have h1 : txtI z = 45 :: txtN z.natAbs := if_pos h
  have h2 : sgnT (txtI z) = true := by rw [h1]; rfl
  exact ⟨h2, by unfold magT; rw [h2, h1]; rfl⟩
theorem magT_txtI (z : Int) : magT (txtI z) = txtN z.natAbs := by
  by_cases h : 0 ≤ z
  · exact (txtI_pos h).2
  · exact (txtI_neg (by omega)).2
theorem sgnT_txtI (z : Int) : sgnT (txtI z) = decide (z < 0) := by
  by_cases h : 0 ≤ z
  · rw [(txtI_pos h).1, decide_eq_false (by omega)]
  · rw [(txtI_neg (by omega)).1, decide_eq_true (by omega)]
theorem txtN_first {n : Nat} (h : (txtN n).head? = some 48) : n = 0 := by
  by_cases e : n = 0
  · exact e
  · exfalso
    have h1 := digB_cut (b := 10) (by omega) n
    have h2 : txtN n = ((digB 10 n).map byteD).reverse := if_neg e
    rcases List.eq_nil_or_concat (digB 10 n) with h3 | ⟨l, x, h3⟩
    · exact e (digB_nil (by omega) h3)
    · rw [List.concat_eq_append] at h3
      rw [h3] at h1 h2
      have h4 := cut_last_ne h1
      rw [List.map_append, List.reverse_append] at h2
      rw [h2] at h
      simp at h
      have h5 := dgt_byteD (digB_lt (b := 10) (by omega) n x (by rw [h3]; simp))
      rw [h] at h5
      exact h4 (by rw [← h5]; rfl)
theorem canT_txtI (z : Int) : CanT (txtI z) := by
  unfold CanT
  rw [magT_txtI]
  refine ⟨txtN_dgt _, txtN_ne _, ?_⟩
  by_cases h : (txtN z.natAbs).head? = some 48
  · have h1 := txtN_first h
    have h2 : z = 0 := by omega
    subst h2
    exact .inr ⟨rfl, by rw [sgnT_txtI]; rfl⟩
  · exact .inl h
theorem readI_txtI (z : Int) : readI (txtI z) = z := by
  unfold readI
  rw [magT_txtI, sgnT_txtI, valT_txtN]
  by_cases h : z < 0
  · rw [decide_eq_true h, if_pos rfl]
    omega
  · rw [decide_eq_false h, if_neg (by simp)]
    omega
theorem txtI_readI {l : List UInt8} (h : CanT l) : txtI (readI l) = l := by
  obtain ⟨h1, h2, h3⟩ := h
  have h4 : txtN (valT (magT l)) = magT l := by
    cases hm : magT l with
    | nil => exact absurd hm h2
    | cons c r =>
      rw [hm] at h1 h3
      refine txtN_val h1 ?_
      rcases h3 with h3 | ⟨h3, _⟩
      · left
        intro e
        exact h3 (by rw [e]; rfl)
      · right
        exact List.eq_nil_of_length_eq_zero (by simp at h3; simp [h3])
  unfold readI
  by_cases hs : sgnT l = true
  · rw [if_pos hs]
    have h5 : valT (magT l) ≠ 0 := by
      intro e
      rw [e] at h4
      rcases h3 with h3 | ⟨_, h3⟩
      · exact h3 (by rw [← h4]; rfl)
      · rw [hs] at h3
        cases h3
    unfold txtI
    rw [if_pos (by omega), Int.natAbs_neg, Int.natAbs_natCast, h4]
    unfold magT
    rw [if_pos hs]
    unfold sgnT at hs
    cases l with
    | nil => simp at hs
    | cons c r =>
      simp at hs
      rw [hs]
      rfl
  · rw [if_neg hs]
    unfold txtI
    rw [if_neg (by omega), Int.natAbs_natCast, h4]
    unfold magT
    rw [if_neg hs]
theorem chkI_ok {l : List UInt8} (h : chkI l = 0) : ∃ z : Int, l = txtI z ∧ (txtN z.natAbs).length ≤ 1024 := by
  unfold chkI at h
  split at h
  · rename_i hc
    split at h
    · omega
    · rename_i hl
      refine ⟨readI l, (txtI_readI hc).symm, ?_⟩
      have h1 := magT_txtI (readI l)
      rw [txtI_readI hc] at h1
      rw [← h1]
      omega
  · omega
theorem chkI_txtI (z : Int) : chkI (txtI z) = if 1024 < (txtN z.natAbs).length then 11 else 0 := by
  unfold chkI
  rw [if_pos (canT_txtI z), magT_txtI]
end Go.Proofs.YthpknfoahimopaaGreatDoor

set_option linter.unusedVariables false
set_option linter.unusedSimpArgs false
namespace Go.Proofs.YthpknfoahimopaaGreatDoor

/-- So many digits of a number, with zeros at the end. -/
def padB (b : Nat) : Nat → Nat → List Nat
  | 0, _ => []
  | k + 1, n => n % b :: padB b k (n / b)
theorem padB_len (b : Nat) : ∀ k n, (padB b k n).length = k
  | 0, _ => rfl
  | k + 1, n => by simp [padB, padB_len b k]
theorem padB_lt {b : Nat} (hb : 0 < b) : ∀ k n, ∀ d ∈ padB b k n, d < b
  | 0, _, d, h => by simp [padB] at h
  | k + 1, n, d, h => by
    unfold padB at h
    rcases List.mem_cons.1 h with e | e
    · rw [e]; exact Nat.mod_lt _ hb
    · exact padB_lt hb k _ d e
theorem valB_padB {b : Nat} (hb : 0 < b) : ∀ {k n}, n < b ^ k → valB b (padB b k n) = n
  | 0, n, h => by
    have : n = 0 := by simpa using h
    subst this
    rfl
  | k + 1, n, h => by
    simp only [padB, valB]
    rw [valB_padB hb (Nat.div_lt_of_lt_mul (by rw [Nat.pow_succ, Nat.mul_comm] at h; exact h))]
    exact Nat.mod_add_div n b
theorem cut_append {l m : List Nat} (hm : Cut m) (h0 : m ≠ []) : Cut (l ++ m) := by
  induction l with
  | nil => exact hm
  | cons d r ih =>
    unfold Cut at ih ⊢
    rw [List.cons_append, cutB_cons, ih, if_neg]
    rintro ⟨_, e⟩
    exact h0 (List.append_eq_nil_iff.1 e).2
/-- The digits of a number by its last digits and the others. -/
theorem digB_pad {b : Nat} (hb : 2 ≤ b) {k w m : Nat} (hw : w < b ^ k) (hm : 0 < m) : digB b (w + b ^ k * m) = padB b k w ++ digB b m := by
  have h0 : digB b m ≠ [] := fun e => by
    have := digB_nil hb e
    omega
  refine valB_inj (b := b) (by omega) (digB_lt hb _) (fun d hd => ?_) (digB_cut hb _) (cut_append (digB_cut hb m) h0) ?_
  · rcases List.mem_append.1 hd with h | h
    · exact padB_lt (by omega) k w d h
    · exact digB_lt hb m d h
  · rw [valB_digB hb, valB_append, padB_len, valB_padB (by omega) hw, valB_digB hb]
/-- The digits with zeros behind them, so that there are k. -/
theorem padB_digB {b : Nat} (hb : 2 ≤ b) {k w : Nat} (hw : w < b ^ k) : padB b k w = digB b w ++ List.replicate (k - (digB b w).length) 0 := by
  have hl := digB_len_le hb hw
  have same : ∀ {l m : List Nat}, (∀ d ∈ l, d < b) → (∀ d ∈ m, d < b) → l.length = m.length → valB b l = valB b m → l = m := fun {l} => by
    induction l with
    | nil =>
      intro m _ _ h _
      exact (List.eq_nil_of_length_eq_zero h.symm).symm
    | cons x r ih =>
      intro m hl hm h hv
      cases m with
      | nil => simp at h
      | cons y s =>
        simp only [valB] at hv
        have h1 := hl x (by simp)
        have h2 := hm y (by simp)
        have h3 : x = y := by
          have h5 := congrArg (· % b) hv
          simp only [Nat.add_mul_mod_self_left] at h5
          rw [Nat.mod_eq_of_lt h1, Nat.mod_eq_of_lt h2] at h5
          exact h5
        subst h3
        have h4 : valB b r = valB b s := Nat.eq_of_mul_eq_mul_left (show 0 < b by omega) (by omega)
        rw [ih (fun d hd => hl d (by simp [hd])) (fun d hd => hm d (by simp [hd])) (by simpa using h) h4]
  refine same (padB_lt (by omega) k w) (fun d hd => ?_) ?_ ?_
  · rcases List.mem_append.1 hd with h | h
    · exact digB_lt hb w d h
    · rw [(List.mem_replicate.1 h).2]
      omega
  · rw [padB_len, List.length_append, List.length_replicate]
    omega
  · rw [valB_padB (by omega) hw, valB_append, valB_replicate, valB_digB hb]
    simp
/-- A text in two parts. -/
theorem valT_append (l m : List UInt8) : valT (l ++ m) = valT m + 10 ^ m.length * valT l := by
  unfold valT digT
  rw [List.reverse_append, List.map_append, valB_append]
  simp
/-- Words of k digits are the digits in the base of so many. -/
theorem valB_pow (b k : Nat) (hb : 0 < b) : ∀ l : List Nat, (∀ w ∈ l, w < b ^ k) → valB b (l.flatMap (padB b k)) = valB (b ^ k) l
  | [], _ => rfl
  | w :: r, h => by
    rw [List.flatMap_cons, valB_append, padB_len, valB_padB hb (h w (by simp)), valB_pow b k hb r (fun x hx => h x (by simp [hx]))]
    rfl
end Go.Proofs.YthpknfoahimopaaGreatDoor

set_option linter.unusedVariables false
set_option linter.unusedSimpArgs false
namespace Go.Proofs.YthpknfoahimopaaGreatDoor
open Go

theorem digB_step {b n : Nat} (hb : 2 ≤ b) (hn : 0 < n) : digB b n = n % b :: digB b (n / b) := by
  rw [digB, dif_pos ⟨hb, hn⟩]
theorem digB_zero (b : Nat) : digB b 0 = [] := by
  rw [digB, dif_neg (by omega)]
theorem decDigits_txtN (n : Nat) : Lib.decDigits n = txtN n := by
  induction n using Nat.strongRecOn with
  | ind n ih =>
    unfold Lib.decDigits
    split
    · rename_i h
      unfold txtN
      split
      · rename_i h0
        subst h0
        rfl
      · rename_i h0
        rw [digB_step (by omega) (by omega), show n / 10 = 0 from by omega, digB_zero, Nat.mod_eq_of_lt h]
        rfl
    · rename_i h
      rw [ih (n / 10) (by omega)]
      unfold txtN
      rw [if_neg (by omega), if_neg (by omega), digB_step (b := 10) (n := n) (by omega) (by omega), List.map_cons, List.reverse_cons]
      rfl
theorem itoa_txtI (z : Int) : Lib.itoa z = txtI z := by
  unfold Lib.itoa txtI
  split
  · rw [decDigits_txtN]
  · rw [decDigits_txtN, show z.toNat = z.natAbs from by omega]
/-- The value of digits, the first ahead, with what is before. -/
theorem valT_cons (c : UInt8) (l : List UInt8) : valT (c :: l) = valT l + 10 ^ l.length * dgt c := by
  have := valT_append [c] l
  rw [List.singleton_append] at this
  rw [this]
  congr 2
theorem parseM_digits (M : Nat) : ∀ (l : List UInt8) (acc : Nat), (∀ c ∈ l, isDgt c) → acc * 10 ^ l.length + valT l ≤ M → M < 1844674407370955162 → Lib.parseUintM M acc l = .ok (acc * 10 ^ l.length + valT l)
  | [], acc, _, _, _ => by simp [Lib.parseUintM, valT, digT, valB]
  | c :: r, acc, hd, hM, hb => by
    have h1 : isDgt c := hd c (by simp)
    have h2 : dgt c = c.toNat - 48 := rfl
    have h3 : acc * 10 ^ (c :: r).length + valT (c :: r) = (acc * 10 + dgt c) * 10 ^ r.length + valT r := by
      rw [valT_cons, List.length_cons, Nat.pow_succ, Nat.add_mul]
      rw [Nat.mul_comm (dgt c), Nat.mul_comm (10 ^ r.length) 10, ← Nat.mul_assoc]
      omega
    rw [h3] at hM ⊢
    have hp : 1 ≤ 10 ^ r.length := Nat.pos_of_ne_zero (by simp)
    have h4 : acc * 10 + dgt c ≤ M := by
      have : (acc * 10 + dgt c) * 1 ≤ (acc * 10 + dgt c) * 10 ^ r.length := Nat.mul_le_mul_left _ hp
      omega
    unfold Lib.parseUintM
    rw [if_pos (show 48 ≤ c.toNat ∧ c.toNat ≤ 57 from h1), if_neg (by omega), if_neg (by rw [← h2]; omega)]
    exact parseM_digits M r _ (fun x hx => hd x (by simp [hx])) hM hb
theorem valT_lt {l : List UInt8} (h : ∀ c ∈ l, isDgt c) : valT l < 10 ^ l.length := by
  have := valB_lt (b := 10) (digT_lt h)
  unfold valT
  simpa [digT] using this
theorem parse32 {l : List UInt8} (h : ∀ c ∈ l, isDgt c) (h0 : l ≠ []) (h9 : l.length ≤ 9) : Lib.parseUintB 32 l = .ok (valT l) := by
  have h1 := valT_lt h
  have h2 : 10 ^ l.length ≤ 10 ^ 9 := Nat.pow_le_pow_right (by omega) h9
  unfold Lib.parseUintB
  rw [if_neg h0, parseM_digits _ l 0 h (by simp; omega) (by decide)]
  simp
theorem valT_lt9 {l : List UInt8} (h : ∀ c ∈ l, isDgt c) (h9 : l.length ≤ 9) : valT l < 1000000000 := by
  have h1 := valT_lt h
  have h2 : 10 ^ l.length ≤ 10 ^ 9 := Nat.pow_le_pow_right (by omega) h9
  have h3 : (10 : Nat) ^ 9 = 1000000000 := rfl
  omega
theorem digT_len (l : List UInt8) : (digT l).length = l.length := by simp [digT]
/-- A part of a text: a part of its digits. -/
theorem digT_part (l : List UInt8) {lo hi : Nat} (h : lo ≤ hi) (hl : hi ≤ l.length) : digT ((l.drop lo).take (hi - lo)) = ((digT l).drop (l.length - hi)).take (hi - lo) := by
  unfold digT
  apply List.ext_getElem?
  intro i
  by_cases hi' : i < hi - lo
  · rw [List.getElem?_take_of_lt hi', List.getElem?_drop, List.getElem?_map, List.getElem?_map, List.getElem?_reverse (by simp; omega), List.getElem?_reverse (by omega)]
    rw [List.getElem?_take_of_lt (by simp; omega), List.getElem?_drop]
    congr 2
    simp
    omega
  · rw [List.getElem?_eq_none (by simp; omega), List.getElem?_eq_none (by simp; omega)]
/-- The word k of some decimal digits. -/
def grpF (d : List Nat) (k : Nat) : Nat := valB 10 ((d.drop (9 * k)).take 9)
def grps (d : List Nat) (k : Nat) : List Nat := (List.range k).map (grpF d)
theorem grps_succ (d : List Nat) (k : Nat) : grps d (k + 1) = grps d k ++ [grpF d k] := by simp [grps, List.range_succ]
theorem grps_len (d : List Nat) (k : Nat) : (grps d k).length = k := by simp [grps]
theorem grpF_lt {d : List Nat} (h : ∀ x ∈ d, x < 10) (k : Nat) : grpF d k < 1000000000 := by
  have h1 := valB_lt (b := 10) (l := (d.drop (9 * k)).take 9) fun x hx => h x (List.mem_of_mem_drop (List.mem_of_mem_take hx))
  have h2 : ((d.drop (9 * k)).take 9).length ≤ 9 := by rw [List.length_take]; omega
  have h3 : 10 ^ ((d.drop (9 * k)).take 9).length ≤ 10 ^ 9 := Nat.pow_le_pow_right (by omega) h2
  have h4 : (10 : Nat) ^ 9 = 1000000000 := rfl
  unfold grpF
  omega
theorem grps_val (d : List Nat) : ∀ k, valB 1000000000 (grps d k) = valB 10 (d.take (9 * k))
  | 0 => by simp [grps, valB]
  | k + 1 => by
    have e : d.take (9 * (k + 1)) = d.take (9 * k) ++ (d.drop (9 * k)).take 9 := by
      rw [show 9 * (k + 1) = 9 * k + 9 from by omega, List.take_add]
    rw [grps_succ, valB_snoc, grps_val d k, grps_len, e, valB_append]
    by_cases h : 9 * k ≤ d.length
    · rw [List.length_take, Nat.min_eq_left h, Nat.pow_mul]
      rfl
    · have e2 : d.drop (9 * k) = [] := List.drop_eq_nil_of_le (by omega)
      unfold grpF
      rw [e2]
      simp [valB]
theorem grps_all {d : List Nat} {k : Nat} (h : d.length ≤ 9 * k) : valB 1000000000 (grps d k) = valB 10 d := by
  rw [grps_val, List.take_of_length_le h]
/-- Zeros in front of a word, so that it has nine digits. -/
theorem pad_txt {w : Nat} (h0 : w ≠ 0 ∨ True) (h : w < 1000000000) : List.replicate (9 - (txtN w).length) 48 ++ txtN w = ((padB 10 9 w).map byteD).reverse := by
  have h9 : w < 10 ^ 9 := h
  have hl := digB_len_le (b := 10) (by omega) h9
  rw [padB_digB (b := 10) (by omega) h9]
  by_cases e : w = 0
  · subst e
    have e1 : txtN 0 = [48] := rfl
    rw [digB_zero, e1]
    rfl
  · unfold txtN
    rw [if_neg e, List.map_append, List.reverse_append, List.map_replicate, List.reverse_replicate]
    simp only [List.length_reverse, List.length_map]
    rfl
/-- The text of words from the front. -/
def txtW : List Nat → List UInt8
  | [] => []
  | [w] => txtN w
  | w :: r => txtW r ++ (List.replicate (9 - (txtN w).length) 48 ++ txtN w)
theorem txtW_cons (w : Nat) {r : List Nat} (h : r ≠ []) : txtW (w :: r) = txtW r ++ (List.replicate (9 - (txtN w).length) 48 ++ txtN w) := by
  cases r with
  | nil => exact absurd rfl h
  | cons x s => rfl
theorem txtW_val : ∀ {l : List Nat}, (∀ w ∈ l, w < 1000000000) → Cut l → l ≠ [] → txtW l = txtN (valB 1000000000 l)
  | [], _, _, h => absurd rfl h
  | [w], hl, hc, _ => by simp [txtW, valB]
  | w :: x :: r, hl, hc, _ => by
    have hw := hl w (by simp)
    have ih := txtW_val (l := x :: r) (fun y hy => hl y (by simp at hy ⊢; exact .inr hy)) hc.tail (by simp)
    have hm : 0 < valB 1000000000 (x :: r) := by
      rcases Nat.eq_zero_or_pos (valB 1000000000 (x :: r)) with h | h
      · have h1 := valB_zero (by omega) h
        have h2 : cutB (x :: r) = x :: r := hc.tail
        rw [h1] at h2
        cases h2
      · exact h
    rw [txtW_cons w (by simp), ih, pad_txt (.inr trivial) hw]
    show txtN (valB 1000000000 (x :: r)) ++ _ = txtN (w + 1000000000 * valB 1000000000 (x :: r))
    generalize valB 1000000000 (x :: r) = m at hm
    have hd := digB_pad (b := 10) (k := 9) (m := m) (by omega) (show w < 10 ^ 9 from hw) hm
    rw [show (10 : Nat) ^ 9 = 1000000000 from rfl] at hd
    unfold txtN
    rw [if_neg (by omega), if_neg (by omega), hd, List.map_append, List.reverse_append]
end Go.Proofs.YthpknfoahimopaaGreatDoor

namespace Go.Proofs.YthpknfoahimopaaGreatDoor
open Go.RowKit

abbrev Foot := Nat → Prop
abbrev Rep (α : Type) := Foot → World → List Value → α → Prop
def All : Foot := fun _ => True
def Lt (B : Nat) : Foot := fun k => k < B
def Ge (B : Nat) : Foot := fun k => B ≤ k

def SameOn (F : Foot) (w w' : World) : Prop := ∀ k, F k → k < w.heap.size → w'.heap[k]? = w.heap[k]?

theorem SameOn.refl (F : Foot) (w : World) : SameOn F w w := fun _ _ _ => rfl
theorem SameOn.of_below {F : Foot} {w w' : World} (h : Below w.heap.size w w') : SameOn F w w' := fun k _ hk => h.block k hk
theorem SameOn.of_lt {B : Nat} {w w' : World} (h : Below B w w') : SameOn (Lt B) w w' := fun k hk _ => h.block k hk

structure RepOk {α : Type} (R : Rep α) (sz : Nat) : Prop where
  len : ∀ {F w cs x}, R F w cs x → cs.length = sz
  one : ∀ {F w cs x}, R F w cs x → ∀ u ∈ cs, u.oneCell' = true
  keep : ∀ {F w w' cs x}, R F w cs x → SameOn F w w' → R F w' cs x
  wide : ∀ {F F' w cs x}, R F w cs x → (∀ k, F k → k < w.heap.size → F' k) → R F' w cs x

def I64 (x : Int) : Prop := -9223372036854775808 ≤ x ∧ x ≤ 9223372036854775807

def intR : Rep Int := fun _ _ cs x => cs = [.int .i64 x] ∧ I64 x
def boolR : Rep Bool := fun _ _ cs x => cs = [.bool x]

theorem intR_ok : RepOk intR 1 where
  len := by rintro F w cs x ⟨rfl, _⟩; rfl
  one := by rintro F w cs x ⟨rfl, _⟩ u hu; simp at hu; subst hu; rfl
  keep := by rintro F w w' cs x h _; exact h
  wide := by rintro F F' w cs x h _; exact h
theorem boolR_ok : RepOk boolR 1 where
  len := by rintro F w cs x rfl; rfl
  one := by rintro F w cs x rfl u hu; simp at hu; subst hu; rfl
  keep := by rintro F w w' cs x h _; exact h
  wide := by rintro F F' w cs x h _; exact h

/-- The address oa holds, from its place on, the elements xs, sz cells each. -/
def SliceR {α : Type} (R : Rep α) (sz : Nat) (F : Foot) (w : World) (oa : Option Addr) (xs : List α) : Prop :=
  ∀ i x, xs[i]? = some x → ∃ b off cs, oa = some ⟨b, off, none⟩ ∧ F b ∧ R F w cs x ∧ ∀ j u, cs[j]? = some u → w.cell? ⟨b, off + i * sz + j, none⟩ = some u

section
variable {α : Type} {R : Rep α} {sz : Nat} {F F' : Foot} {w w' : World} {oa : Option Addr} {xs : List α}

theorem SliceR.nil (R : Rep α) (sz : Nat) (F : Foot) (w : World) (oa : Option Addr) : SliceR R sz F w oa [] := by intro i x h; simp at h

theorem SliceR.keep (ok : RepOk R sz) (h : SliceR R sz F w oa xs) (hs : SameOn F w w') : SliceR R sz F w' oa xs := by
  intro i x hx
  obtain ⟨b, off, cs, rfl, hF, hR, hc⟩ := h i x hx
  refine ⟨b, off, cs, rfl, hF, ok.keep hR hs, fun j u hu => ?_⟩
  have h1 := hc j u hu
  have hb : b < w.heap.size := World.block_lt_of_cell? _ _ h1
  rw [World.cell?_of_block (hs b hF hb)]
  exact h1

theorem SliceR.below (ok : RepOk R sz) (h : SliceR R sz F w oa xs) (hb : Below w.heap.size w w') : SliceR R sz F w' oa xs := h.keep ok (SameOn.of_below hb)

theorem SliceR.wide (ok : RepOk R sz) (hsz : 0 < sz) (h : SliceR R sz F w oa xs) (hs : ∀ k, F k → k < w.heap.size → F' k) : SliceR R sz F' w oa xs := by
  intro i x hx
  obtain ⟨b, off, cs, rfl, hF, hR, hc⟩ := h i x hx
  have hl := ok.len hR
  have h0 : cs[0]? = some (cs[0]'(by omega)) := List.getElem?_eq_getElem (by omega)
  exact ⟨b, off, cs, rfl, hs b hF (World.block_lt_of_cell? _ _ (hc 0 _ h0)), ok.wide hR hs, hc⟩

theorem SliceR.loc (ok : RepOk R sz) (hsz : 0 < sz) (h : SliceR R sz F w oa xs) : SliceR R sz (Lt w.heap.size) w oa xs := h.wide ok hsz fun _ _ hk => hk
theorem SliceR.all (ok : RepOk R sz) (hsz : 0 < sz) (h : SliceR R sz F w oa xs) : SliceR R sz All w oa xs := h.wide ok hsz fun _ _ _ => trivial

/-- The element at i, with what is left of the list. -/
theorem SliceR.at (h : SliceR R sz F w oa xs) {i : Nat} (hi : i < xs.length) :
    ∃ x, xs.drop i = x :: xs.drop (i + 1) ∧ xs[i]? = some x ∧ ∃ b off cs, oa = some ⟨b, off, none⟩ ∧ F b ∧ R F w cs x ∧ ∀ j u, cs[j]? = some u → w.cell? ⟨b, off + i * sz + j, none⟩ = some u :=
  ⟨xs[i], List.drop_eq_getElem_cons hi, List.getElem?_eq_getElem hi, h i _ (List.getElem?_eq_getElem hi)⟩
end

/-- A slice value that stands for a list. -/
def slcR {α : Type} (R : Rep α) (sz : Nat) : Rep (List α) := fun F w cs xs =>
  ∃ oa c, cs = [.slice oa xs.length c] ∧ xs.length ≤ c ∧ xs.length ≤ 9223372036854775807 ∧ SliceR R sz F w oa xs

theorem slcR_ok {α : Type} {R : Rep α} {sz : Nat} (ok : RepOk R sz) (hsz : 0 < sz) : RepOk (slcR R sz) 1 where
  len := by rintro F w cs x ⟨oa, c, rfl, _⟩; rfl
  one := by rintro F w cs x ⟨oa, c, rfl, _⟩ u hu; simp at hu; subst hu; rfl
  keep := by rintro F w w' cs x ⟨oa, c, rfl, h1, h2, h⟩ hs; exact ⟨oa, c, rfl, h1, h2, h.keep ok hs⟩
  wide := by rintro F F' w cs x ⟨oa, c, rfl, h1, h2, h⟩ hs; exact ⟨oa, c, rfl, h1, h2, h.wide ok hsz hs⟩

section
variable {F : Foot} {w : World} {oa : Option Addr}
theorem SliceR.int_at {xs : List Int} (h : SliceR intR 1 F w oa xs) {i : Nat} (hi : i < xs.length) :
    ∃ x, xs.drop i = x :: xs.drop (i + 1) ∧ xs[i]? = some x ∧ I64 x ∧ ∃ b off, oa = some ⟨b, off, none⟩ ∧ F b ∧ w.cell? ⟨b, off + i, none⟩ = some (.int .i64 x) := by
  obtain ⟨x, h1, h2, b, off, cs, h3, h4, ⟨rfl, h5⟩, h6⟩ := h.at hi
  exact ⟨x, h1, h2, h5, b, off, h3, h4, by simpa using h6 0 _ rfl⟩
theorem SliceR.slc_at {α : Type} {R : Rep α} {sz : Nat} {xs : List (List α)} (h : SliceR (slcR R sz) 1 F w oa xs) {i : Nat} (hi : i < xs.length) :
    ∃ x, xs.drop i = x :: xs.drop (i + 1) ∧ xs[i]? = some x ∧ ∃ b off oa' c, oa = some ⟨b, off, none⟩ ∧ F b ∧ w.cell? ⟨b, off + i, none⟩ = some (.slice oa' x.length c) ∧ x.length ≤ c ∧ x.length ≤ 9223372036854775807 ∧ SliceR R sz F w oa' x := by
  obtain ⟨x, h1, h2, b, off, cs, h3, h4, ⟨oa', c, rfl, h5, h6, h7⟩, h8⟩ := h.at hi
  exact ⟨x, h1, h2, b, off, oa', c, h3, h4, by simpa using h8 0 _ rfl, h5, h6, h7⟩
end

theorem ret_int {k : IntKind} {a b : Int} (h : a = b) : Ending.returned (.int k a) = .returned (.int k b) := by rw [h]
theorem ret_bool {a b : Bool} (h : a = b) : Ending.returned (.bool a) = .returned (.bool b) := by rw [h]
theorem hide {p : Prop} (h : p) : Hid p := h

theorem bnew {w w' : World} (h : Below w.heap.size w w') (o : Obj) : Below w.heap.size w (w'.alloc o) := h.alloc h.size o
/-- Behind a box that the call laid first: below it all is as it was. -/
theorem below_box {w wr : World} {o : Obj} (hb : Below (w.heap.size + 1) (w.alloc o) wr) : Below w.heap.size w wr :=
  ((Below.refl w.heap.size w).alloc (Nat.le_refl _) o).trans (hb.mono (by omega))
theorem box_refl (w : World) (o : Obj) : Below (w.heap.size + 1) (w.alloc o) (w.alloc o) := Below.refl _ _
theorem box_cell {w wr : World} {cs : Array Value} {t : TypeId} (hb : Below (w.heap.size + 1) (w.alloc (.cells cs t)) wr) (i : Nat) : wr.cell? ⟨w.heap.size, i, none⟩ = cs[i]? := by
  rw [hb.cell (p := ⟨w.heap.size, i, none⟩) (by simp)]
  exact cell_of_row (w.alloc (.cells cs t)) w.heap.size i cs t (0, 0) (heap_alloc_new w _)
theorem box_lt {w wr : World} {o : Obj} (hb : Below (w.heap.size + 1) (w.alloc o) wr) : w.heap.size < wr.heap.size := by
  have := hb.size
  simp at this
  omega
theorem box_new {B : Nat} {a wr : World} (hb : Below B a wr) (hB : B ≤ a.heap.size) (o : Obj) : Below B a (wr.alloc o) := hb.alloc (Nat.le_trans hB hb.size) o
theorem box_then {B : Nat} {a wr w2 : World} (hb : Below B a wr) (hB : B ≤ a.heap.size) (h2 : Below wr.heap.size wr w2) : Below B a w2 := hb.trans (h2.mono (Nat.le_trans hB hb.size))
theorem below_drewN {B : Nat} {a w : World} (h : Below B a w) (n : Nat) : Below B a (w.drewN n) := ⟨h.os, h.tape, h.output, h.size, h.block⟩
theorem SliceR.drewN {α : Type} {R : Rep α} {sz : Nat} {F : Foot} {w : World} {oa : Option Addr} {xs : List α} (ok : RepOk R sz) (h : SliceR R sz F w oa xs) (n : Nat) : SliceR R sz F (w.drewN n) oa xs :=
  h.keep ok fun _ _ _ => rfl
theorem below_then {a wr w2 : World} (hb : Below a.heap.size a wr) (h2 : Below wr.heap.size wr w2) : Below a.heap.size a w2 := hb.trans (h2.mono hb.size)

end Go.Proofs.YthpknfoahimopaaGreatDoor

set_option linter.unusedVariables false
set_option linter.unusedSimpArgs false
namespace Go.Proofs.YthpknfoahimopaaGreatDoor
open Go.RowKit

def wrdR : Rep Nat := fun _ _ cs x => cs = [.int .u32 (x : Int)] ∧ x < 4294967296
theorem wrdR_ok : RepOk wrdR 1 where
  len := by rintro F w cs x ⟨rfl, _⟩; rfl
  one := by rintro F w cs x ⟨rfl, _⟩ u hu; simp at hu; subst hu; rfl
  keep := by rintro F w w' cs x h _; exact h
  wide := by rintro F F' w cs x h _; exact h
theorem SliceR.wrd_at {F : Foot} {w : World} {oa : Option Addr} {xs : List Nat} (h : SliceR wrdR 1 F w oa xs) {i : Nat} (hi : i < xs.length) :
    ∃ x, xs.drop i = x :: xs.drop (i + 1) ∧ xs[i]? = some x ∧ x < 4294967296 ∧ ∃ b off, oa = some ⟨b, off, none⟩ ∧ F b ∧ w.cell? ⟨b, off + i, none⟩ = some (.int .u32 (x : Int)) := by
  obtain ⟨x, h1, h2, b, off, cs, h3, h4, ⟨rfl, h5⟩, h6⟩ := h.at hi
  exact ⟨x, h1, h2, h5, b, off, h3, h4, by simpa using h6 0 _ rfl⟩
/-- Leaving out one zero at the end. -/
theorem cutB_snoc_zero (l : List Nat) : cutB (l ++ [0]) = cutB l := by
  induction l with
  | nil => rfl
  | cons d r ih => rw [List.cons_append, cutB_cons, cutB_cons, ih]
theorem cutB_take {l : List Nat} {k : Nat} (h : l[k]? = some 0) : cutB (l.take (k + 1)) = cutB (l.take k) := by
  rw [List.take_add_one, h]
  exact cutB_snoc_zero _
theorem cutB_take_ne {l : List Nat} {k x : Nat} (h : l[k]? = some x) (hx : x ≠ 0) : cutB (l.take (k + 1)) = l.take (k + 1) := by
  have e : l.take (k + 1) = l.take k ++ [x] := by rw [List.take_add_one, h]; rfl
  rw [e]
  exact cut_last' hx
where
  cut_last' {l : List Nat} {x : Nat} (h : x ≠ 0) : cutB (l ++ [x]) = l ++ [x] := by
    induction l with
    | nil => simp [cutB, h]
    | cons d r ih =>
      rw [List.cons_append, cutB_cons, ih, if_neg]
      rintro ⟨_, e⟩
      simp at e
end Go.Proofs.YthpknfoahimopaaGreatDoor

namespace Go.Proofs.YthpknfoahimopaaGreatDoor
open Go.RowKit

def Non : Foot := fun _ => False

section
variable {P : Program} (w : World)

theorem run_append_empty (base : Nat) (t ty e : TypeId) (i : TypeInfo) (size : Nat) (ht : P.underlying t = some (.slice e)) (hi : P.info? e = some i)
    (v : Value) (n : Nat) (xs : List Value) (hown : w.ownsRow base e size v n xs) (c : Nat) : (Builtin.append_ #[t, t] ty #[v, .slice none 0 c]).run P w = .ok v w := by
  rcases hown.2 with ⟨rfl, rfl⟩ | ⟨g, cap, cur, rfl, _, _, hnc, _⟩
  · simp [Builtin.append_, run_underlying ht, sizeOf, typeInfo, hi, Builtin.lenOf, Builtin.firstCells]
  · simp [Builtin.append_, run_underlying ht, sizeOf, typeInfo, hi, Builtin.lenOf, Builtin.firstCells, hnc, storeCells]

/-- append(v, x...), v the call's own, x whatever slice: nil, empty or not. -/
theorem run_append_src (base : Nat) (t ty e : TypeId) (i : TypeInfo) (z : Value) (size bytes : Nat) (ht : P.underlying t = some (.slice e)) (hi : P.info? e = some i) (hz : i.zero = some z)
    (hsize : i.size = size) (hby : i.bytes = bytes) (hzs : z.cells.size = size) (hsz : 0 < size)
    (v : Value) (n : Nat) (xs : List Value) (hown : w.ownsRow base e size v n xs)
    (oa : Option Addr) (m c : Nat) (news : List Value) (hl : news.length = m * size) (hc : ∀ j u, news[j]? = some u → ∃ b off, oa = some ⟨b, off, none⟩ ∧ w.cell? ⟨b, off + j, none⟩ = some u) (h1 : ∀ u ∈ news, u.oneCell' = true)
    (h63 : n + m ≤ maxLen) (hbytes : (n + m) * bytes ≤ 140737488355328) (hbase : base ≤ w.heap.size) :
    ∃ v' w', (Builtin.append_ #[t, t] ty #[v, .slice oa m c]).run P w = .ok v' w' ∧ w'.ownsRow base e size v' (n + m) (xs ++ news) ∧ w.grownBy w' v.ownBlock := by
  rcases oa with _ | ad
  · have hn : news = [] := by
      cases news with
      | nil => rfl
      | cons u r => obtain ⟨b, off, h, _⟩ := hc 0 u rfl; cases h
    subst hn
    have hm : m = 0 := by
      rcases Nat.eq_zero_or_pos m with h | h
      · exact h
      · have h2 := Nat.mul_pos h hsz
        simp at hl
        omega
    subst hm
    exact ⟨v, w, run_append_empty w base t ty e i size ht hi v n xs hown c, by simpa using hown, rfl, rfl, rfl, Nat.le_refl _, fun _ _ _ => rfl⟩
  · have hcells : ∀ j u, news[j]? = some u → w.cell? (ad.add j) = some u := by
      intro j u hu
      obtain ⟨b, off, h, hcc⟩ := hc j u hu
      injection h with h
      subst h
      rw [Addr.add_lit]
      exact hcc
    obtain ⟨v', w', h2, h3, h4, _⟩ := run_append_own (P := P) w base t ty e i z size bytes ht hi hz hsize hby hzs hsz v n xs hown ad m c news hl hcells h1 h63 hbytes hbase
    exact ⟨v', w', h2, h3, h4⟩

theorem wpList_append_src {ops : Array Oper} {rest : List Oper} {o : Oper} {a : Act} {Q : Exit → Act → World → Prop} (hgd : o.guard = none) (s x : Operand) (t : TypeId)
    (ho : o.op = .call { callee := .builtin .append, args := #[s, x], argTypes := #[t, t] })
    (base : Nat) (e : TypeId) (i : TypeInfo) (z : Value) (size bytes : Nat) (ht : P.underlying t = some (.slice e)) (hi : P.info? e = some i) (hz : i.zero = some z)
    (hsize : i.size = size) (hby : i.bytes = bytes) (hzs : z.cells.size = size) (hsz : 0 < size)
    (v : Value) (n : Nat) (xs : List Value) (hs : a.eval s = v) (hown : w.ownsRow base e size v n xs)
    (oa : Option Addr) (m c : Nat) (news : List Value) (hx : a.eval x = .slice oa m c) (hl : news.length = m * size) (hc : ∀ j u, news[j]? = some u → ∃ b off, oa = some ⟨b, off, none⟩ ∧ w.cell? ⟨b, off + j, none⟩ = some u) (h1 : ∀ u ∈ news, u.oneCell' = true)
    (h63 : n + m ≤ maxLen) (hbytes : (n + m) * bytes ≤ 140737488355328) (hbase : base ≤ w.heap.size)
    (h : ∀ v' w', w'.ownsRow base e size v' (n + m) (xs ++ news) → w.grownBy w' v.ownBlock → wpList P ops Q rest (a.put o.dst v') w') : wpList P ops Q (o :: rest) a w :=
  wpList_plain hgd fun _ hK => by
    obtain ⟨v', w', hrun, h2, h3⟩ := run_append_src (P := P) w base t o.type e i z size bytes ht hi hz hsize hby hzs hsz v n xs hown oa m c news hl hc h1 h63 hbytes hbase
    unfold Oper.wp execOp
    simp only [ho, resolve, invoke, builtin, Sem.run_bind, Sem.run_pure, Result.andThen_ok, List.map_toArray, List.map_cons, List.map_nil, hs, hx, hrun]
    exact hK _ _ (h v' w' h2 h3)
end

def chunk (sz i : Nat) (l : List Value) : List Value := (l.drop (i * sz)).take sz

theorem chunk_get {sz i j : Nat} {l : List Value} {u : Value} (h : (chunk sz i l)[j]? = some u) : j < sz ∧ l[i * sz + j]? = some u := by
  unfold chunk at h
  rw [List.getElem?_take] at h
  split at h
  · rw [List.getElem?_drop] at h
    exact ⟨by assumption, h⟩
  · cases h

/-- The cells of a slice, in a row, part by part. -/
theorem SliceR.cells {α : Type} {R : Rep α} {sz : Nat} {F : Foot} {w : World} {oa : Option Addr} (ok : RepOk R sz) :
    ∀ {xs : List α}, SliceR R sz F w oa xs → ∃ news, news.length = xs.length * sz ∧ (∀ j u, news[j]? = some u → ∃ b off, oa = some ⟨b, off, none⟩ ∧ w.cell? ⟨b, off + j, none⟩ = some u) ∧
      (∀ u ∈ news, u.oneCell' = true) ∧ ∀ i x, xs[i]? = some x → R F w (chunk sz i news) x := by
  intro xs h
  rcases Nat.eq_zero_or_pos xs.length with h0 | h0
  · have : xs = [] := List.eq_nil_of_length_eq_zero h0
    subst this
    exact ⟨[], by simp, by simp, by simp, by simp⟩
  obtain ⟨b, off, cs0, hoa, hF0, hR0, hc0⟩ := h 0 _ (List.getElem?_eq_getElem h0)
  subst hoa
  have key : ∀ i x, xs[i]? = some x → ∃ cs, R F w cs x ∧ ∀ j u, cs[j]? = some u → w.cell? ⟨b, off + i * sz + j, none⟩ = some u := by
    intro i x hx
    obtain ⟨b', off', cs, he, _, hR, hc⟩ := h i x hx
    simp only [Option.some.injEq, Addr.mk.injEq, and_true] at he
    obtain ⟨rfl, rfl⟩ := he
    exact ⟨cs, hR, hc⟩
  have cell : ∀ j, j < xs.length * sz → ∃ u, w.cell? ⟨b, off + j, none⟩ = some u ∧ u.oneCell' = true := by
    intro j hj
    have hsz : 0 < sz := by
      rcases Nat.eq_zero_or_pos sz with h | h
      · subst h; simp at hj
      · exact h
    have hi : j / sz < xs.length := (Nat.div_lt_iff_lt_mul hsz).2 hj
    obtain ⟨cs, hR, hc⟩ := key (j / sz) _ (List.getElem?_eq_getElem hi)
    have hm : j % sz < cs.length := by rw [ok.len hR]; exact Nat.mod_lt _ hsz
    have hcc := hc (j % sz) _ (List.getElem?_eq_getElem hm)
    have hj2 : off + j / sz * sz + j % sz = off + j := by
      have := Nat.div_add_mod' j sz
      omega
    rw [hj2] at hcc
    exact ⟨_, hcc, ok.one hR _ (List.getElem_mem hm)⟩
  let news := (List.range (xs.length * sz)).map fun j => (w.cell? ⟨b, off + j, none⟩).getD undef
  have get : ∀ j u, news[j]? = some u → j < xs.length * sz ∧ w.cell? ⟨b, off + j, none⟩ = some u := by
    intro j u hu
    simp only [news, List.getElem?_map, Option.map_eq_some_iff] at hu
    obtain ⟨k, hk, hu⟩ := hu
    have hk2 := List.getElem?_eq_some_iff.1 hk
    obtain ⟨hlt, hkk⟩ := hk2
    simp only [List.length_range] at hlt
    simp only [List.getElem_range] at hkk
    subst hkk
    obtain ⟨u', hu', _⟩ := cell j hlt
    rw [hu'] at hu
    simp only [Option.getD_some] at hu
    subst hu
    exact ⟨hlt, hu'⟩
  refine ⟨news, by simp [news], fun j u hu => ⟨b, off, rfl, (get j u hu).2⟩, ?_, ?_⟩
  · intro u hu
    obtain ⟨j, hj, rfl⟩ := List.getElem_of_mem hu
    obtain ⟨h1, h2⟩ := get j _ (List.getElem?_eq_getElem hj)
    obtain ⟨u', hu', ho⟩ := cell j h1
    rw [h2] at hu'
    injection hu' with hu'
    rw [hu']; exact ho
  · intro i x hx
    obtain ⟨cs, hR, hc⟩ := key i x hx
    have hi : i < xs.length := (List.getElem?_eq_some_iff.1 hx).1
    have hle : i * sz + sz ≤ xs.length * sz := by
      have := Nat.mul_le_mul_right sz (Nat.succ_le_of_lt hi)
      rw [Nat.succ_mul] at this
      exact this
    have : chunk sz i news = cs := by
      apply List.ext_getElem?
      intro j
      unfold chunk
      rw [List.getElem?_take]
      split
      · rename_i hj
        rw [List.getElem?_drop]
        have hjl : j < cs.length := by rw [ok.len hR]; exact hj
        have h1 := hc j _ (List.getElem?_eq_getElem hjl)
        have hn : i * sz + j < news.length := by simp only [news, List.length_map, List.length_range]; omega
        have h2 := (get _ _ (List.getElem?_eq_getElem hn)).2
        rw [Nat.add_assoc] at h1
        rw [h1] at h2
        rw [List.getElem?_eq_getElem hn, List.getElem?_eq_getElem hjl, h2]
      · rename_i hj
        rw [List.getElem?_eq_none (by rw [ok.len hR]; omega)]
    rw [this]
    exact hR

/-- The slice value v, which the call itself made (blocks from base on), holds xs. -/
def OwnS {α : Type} (R : Rep α) (sz base : Nat) (e : TypeId) (F : Foot) (w : World) (v : Value) (xs : List α) : Prop :=
  ∃ cells, w.ownsRow base e sz v xs.length cells ∧ (∀ u ∈ cells, u.oneCell' = true) ∧ ∀ i x, xs[i]? = some x → R F w (chunk sz i cells) x

section
variable {α : Type} {R : Rep α} {sz base : Nat} {e : TypeId} {F : Foot} {w w' : World} {v : Value} {xs : List α}

theorem OwnS.nil (R : Rep α) (sz base : Nat) (e : TypeId) (F : Foot) (w : World) : OwnS R sz base e F w (.slice none 0 0) [] :=
  ⟨[], World.ownsRow_nil w base e sz, by simp, by simp⟩

theorem chunk_app_left {cells news : List Value} {i n : Nat} (hl : cells.length = n * sz) (hi : i < n) : chunk sz i (cells ++ news) = chunk sz i cells := by
  have hle : i * sz + sz ≤ n * sz := by
    have := Nat.mul_le_mul_right sz (Nat.succ_le_of_lt hi)
    rw [Nat.succ_mul] at this
    exact this
  unfold chunk
  rw [List.drop_append_of_le_length (by omega), List.take_append_of_le_length (by rw [List.length_drop]; omega)]

theorem chunk_app_right {cells news : List Value} {i n : Nat} (hl : cells.length = n * sz) (hi : n ≤ i) : chunk sz i (cells ++ news) = chunk sz (i - n) news := by
  have hle := Nat.mul_le_mul_right sz hi
  unfold chunk
  rw [List.drop_append, List.drop_eq_nil_of_le (by omega), List.nil_append, hl, Nat.sub_mul]

/-- What an append of ys leaves. -/
theorem OwnS.app {cells news : List Value} {ys : List α} {v' : Value} (hx : xs.length * sz = cells.length) (ho : w'.ownsRow base e sz v' (xs.length + ys.length) (cells ++ news))
    (h1 : ∀ u ∈ cells, u.oneCell' = true) (h2 : ∀ u ∈ news, u.oneCell' = true)
    (hc : ∀ i x, xs[i]? = some x → R F w' (chunk sz i cells) x) (hn : ∀ i x, ys[i]? = some x → R F w' (chunk sz i news) x) : OwnS R sz base e F w' v' (xs ++ ys) := by
  refine ⟨cells ++ news, by rw [List.length_append]; exact ho, ?_, ?_⟩
  · intro u hu
    rcases List.mem_append.1 hu with h | h
    · exact h1 u h
    · exact h2 u h
  · intro i x hxx
    rcases Nat.lt_or_ge i xs.length with hi | hi
    · rw [List.getElem?_append_left hi] at hxx
      rw [chunk_app_left hx.symm hi]
      exact hc i x hxx
    · rw [List.getElem?_append_right hi] at hxx
      rw [chunk_app_right hx.symm hi]
      exact hn _ x hxx

theorem OwnS.block (h : OwnS R sz base e F w v xs) : ∀ g, v.ownBlock = some g → base ≤ g ∧ g < w.heap.size := by
  obtain ⟨cells, ho, _⟩ := h
  exact ho.lt

/-- What is owned stays owned while other blocks turn. -/
theorem OwnS.keep (ok : RepOk R sz) (h : OwnS R sz base e F w v xs) (hb : ∀ g, v.ownBlock = some g → w'.heap[g]? = w.heap[g]?) (hs : SameOn F w w') : OwnS R sz base e F w' v xs := by
  obtain ⟨cells, ho, h1, hc⟩ := h
  refine ⟨cells, ⟨ho.1, ?_⟩, h1, fun i x hx => ok.keep (hc i x hx) hs⟩
  rcases ho.2 with hn | ⟨g, cap, cur, rfl, hg, hh, rest⟩
  · exact .inl hn
  · exact .inr ⟨g, cap, cur, rfl, hg, by rw [hb g rfl]; exact hh, rest⟩
theorem OwnS.below (ok : RepOk R sz) (h : OwnS R sz base e F w v xs) (hb : Below w.heap.size w w') : OwnS R sz base e F w' v xs :=
  h.keep ok (fun g hg => hb.block g (h.block g hg).2) (SameOn.of_below hb)

theorem OwnS.rebase {base' : Nat} (h : OwnS R sz base e F w v xs) (hb : base' ≤ base) : OwnS R sz base' e F w v xs := by
  obtain ⟨cells, ho, h1, hc⟩ := h
  refine ⟨cells, ⟨ho.1, ?_⟩, h1, hc⟩
  rcases ho.2 with hn | ⟨g, cap, cur, rfl, hg, rest⟩
  · exact .inl hn
  · exact .inr ⟨g, cap, cur, rfl, by omega, rest⟩
theorem OwnS.new (ok : RepOk R sz) (h : OwnS R sz base e F w v xs) (o : Obj) : OwnS R sz base e F (w.alloc o) v xs := h.below ok (bnew (Below.refl _ _) o)
theorem OwnS.draw (ok : RepOk R sz) (h : OwnS R sz base e F w v xs) : OwnS R sz base e F w.drew v xs := h.keep ok (fun _ _ => rfl) fun _ _ _ => rfl
theorem OwnS.draws (ok : RepOk R sz) (h : OwnS R sz base e F w v xs) (n : Nat) : OwnS R sz base e F (w.drewN n) v xs := h.keep ok (fun _ _ => rfl) fun _ _ _ => rfl
/-- A box that was laid just before the append is as it was. -/
theorem OwnS.boxed {w1 : World} {cs : Array Value} {t : TypeId} (h : OwnS R sz base e F w v xs) (hg : (w.alloc (.cells cs t)).grownBy w1 v.ownBlock) (i : Nat) : w1.cell? ⟨w.heap.size, i, none⟩ = cs[i]? := by
  have hb : w1.heap[w.heap.size]? = (w.alloc (.cells cs t)).heap[w.heap.size]? := hg.block w.heap.size (by simp) fun he => by
    have := (h.block w.heap.size he.symm).2
    omega
  exact cell_of_row w1 w.heap.size i cs t (0, 0) (hb.trans (heap_alloc_new w _))
/-- As a slice. -/
theorem OwnS.slice (ok : RepOk R sz) (h : OwnS R sz base e F w v xs) : ∃ oa c, v = .slice oa xs.length c ∧ xs.length ≤ c ∧ SliceR R sz (fun k => F k ∨ base ≤ k) w oa xs := by
  obtain ⟨cells, ho, h1, hc⟩ := h
  rcases ho.2 with ⟨rfl, hn⟩ | ⟨g, cap, cur, rfl, hg, hh, hle, _, hcs, htake⟩
  · have : xs = [] := List.eq_nil_of_length_eq_zero hn
    subst this
    exact ⟨none, 0, rfl, by simp, SliceR.nil _ _ _ _ _⟩
  · refine ⟨_, cap, rfl, hle, fun i x hx => ⟨g, 0, chunk sz i cells, rfl, .inr hg, ok.wide (hc i x hx) fun _ h _ => .inl h, fun j u hu => ?_⟩⟩
    obtain ⟨hj, hu⟩ := chunk_get hu
    have hi : i < xs.length := (List.getElem?_eq_some_iff.1 hx).1
    rw [cell_of_row w g _ cur e (0, 0) hh]
    rw [← htake, List.getElem?_take] at hu
    split at hu
    · rw [show 0 + i * sz + j = i * sz + j from by omega]
      simpa using hu
    · cases hu
end

/-- The arm for 'out = append(out, src...)'. -/
theorem wpList_append_rep {α : Type} {R : Rep α} {P : Program} {w : World} {ops : Array Oper} {rest : List Oper} {o : Oper} {a : Act} {Q : Exit → Act → World → Prop} (hgd : o.guard = none) (s x : Operand) (t : TypeId)
    (ho : o.op = .call { callee := .builtin .append, args := #[s, x], argTypes := #[t, t] })
    (base : Nat) (e : TypeId) (z : Value) (size bytes : Nat) (ht : P.underlying t = some (.slice e)) (hinfo : (P.info? e).map (fun i => (i.zero, i.size, i.bytes)) = some (some z, size, bytes))
    (hzs : z.cells.size = size) (hsz : 0 < size) (ok : RepOk R size)
    (F G : Foot) (v : Value) (xs : List α) (hs : a.eval s = v) (hown : OwnS R size base e F w v xs)
    (oa : Option Addr) (c : Nat) (ys : List α) (hx : a.eval x = .slice oa ys.length c) (hsrc : SliceR R size G w oa ys) (hW : ∀ cs x, R G w cs x → R F w cs x) (hF : ∀ k, F k → k < base)
    (hbytes : (xs.length + ys.length) * bytes ≤ 140737488355328) (hm : xs.length + ys.length ≤ 9223372036854775807) (hbase : base ≤ w.heap.size)
    (h : ∀ v' w', OwnS R size base e F w' v' (xs ++ ys) → Below base w w' → w.grownBy w' v.ownBlock → wpList P ops Q rest (a.put o.dst v') w') : wpList P ops Q (o :: rest) a w := by
  obtain ⟨i0, hi, hz0, hz1, hz2⟩ := info_parts hinfo
  obtain ⟨cells, hown0, h1, hc⟩ := hown
  obtain ⟨news, hn1, hn2, hn3, hn4⟩ := hsrc.cells ok
  refine wpList_append_src w hgd s x t ho base e i0 z size bytes ht hi hz0 hz1 hz2 hzs hsz v xs.length cells hs hown0 oa ys.length c news hx hn1 hn2 hn3 (by unfold maxLen; omega) hbytes hbase fun v' w' ho' hg => ?_
  have hb : Below base w w' := (Below.refl base w).grown hg hbase fun k hk => (hown0.lt k hk).1
  have hsame : SameOn F w w' := fun k hk _ => hb.block k (hF k hk)
  refine h v' w' (OwnS.app hown0.1.symm ho' h1 hn3 (fun i x hx => ok.keep (hc i x hx) hsame) (fun i x hx => ok.keep (hW _ _ (hn4 i x hx)) hsame)) hb hg

end Go.Proofs.YthpknfoahimopaaGreatDoor

set_option linter.unusedVariables false
namespace Go.Proofs.YthpknfoahimopaaGreatDoor
open Go.RowKit

/-- Block g holds f of xs, and behind them rest. -/
def Row1 {α : Type} (f : α → Value) (w : World) (g : Nat) (e : TypeId) (xs : List α) (rest : List Value) : Prop := w.heap[g]? = some (.cells (xs.map f ++ rest).toArray e (0, 0))

section
variable {α : Type} {f : α → Value} {w w' : World} {g : Nat} {e : TypeId} {xs : List α} {rest : List Value}
theorem Row1.lt (h : Row1 f w g e xs rest) : g < w.heap.size := (Array.getElem?_eq_some_iff.1 h).1
theorem Row1.cell (h : Row1 f w g e xs rest) {i : Nat} {x : α} (hi : xs[i]? = some x) : w.cell? ⟨g, i, none⟩ = some (f x) := by
  have hl : i < xs.length := (List.getElem?_eq_some_iff.1 hi).1
  rw [cell_of_row w g _ _ _ _ h]
  simp only [List.getElem?_toArray]
  rw [List.getElem?_append_left (by simpa using hl), List.getElem?_map, hi]
  rfl
theorem Row1.free (h : Row1 f w g e xs rest) (i : Nat) : w.frozen? ⟨g, i, none⟩ = false := frozen_of_row w g i _ _ h
theorem Row1.keep (h : Row1 f w g e xs rest) (hb : w'.heap[g]? = w.heap[g]?) : Row1 f w' g e xs rest := hb.trans h
theorem Row1.below (h : Row1 f w g e xs rest) (hb : Below w.heap.size w w') : Row1 f w' g e xs rest := h.keep (hb.block g h.lt)
theorem Row1.new (h : Row1 f w g e xs rest) (o : Obj) : Row1 f (w.alloc o) g e xs rest := h.below (bnew (Below.refl _ _) o)
theorem Row1.draw (h : Row1 f w g e xs rest) : Row1 f w.drew g e xs rest := h
theorem heap_set1 (w : World) (g i : Nat) (l : List Value) (e : TypeId) (u : Value) (h : w.heap[g]? = some (.cells l.toArray e (0, 0))) : (w.setCell ⟨g, i, none⟩ u).heap[g]? = some (.cells (l.set i u).toArray e (0, 0)) := by
  simp [World.setCell, Array.getElem?_modify, h]
theorem Row1.put (h : Row1 f w g e xs rest) {i : Nat} (hi : i < xs.length) (y : α) : Row1 f (w.setCell ⟨g, i, none⟩ (f y)) g e (xs.set i y) rest := by
  unfold Row1
  rw [heap_set1 w g i _ e _ h, List.set_append_left _ _ (by simpa using hi), List.map_set]
/-- A store into another block. -/
theorem Row1.other (h : Row1 f w g e xs rest) {p : Addr} (hp : g ≠ p.block) (u : Value) : Row1 f (w.setCell p u) g e xs rest := h.keep (Below.heap_setCell w p u g hp)
theorem Row1.of (cur : List Value) (h : w.heap[g]? = some (.cells cur.toArray e (0, 0))) (hx : xs.map f = cur.take xs.length) : Row1 f w g e xs (cur.drop xs.length) := by
  unfold Row1
  rw [hx, List.take_append_drop]
  exact h
theorem Row1.own (h : Row1 f w g e xs rest) (hone : ∀ x, (f x).cells = #[f x]) {base cap : Nat} (hg : base ≤ g) (hc : cap = xs.length + rest.length) (hm : cap ≤ maxLen) :
    w.ownsRow base e 1 (.slice (some ⟨g, 0, none⟩) xs.length cap) xs.length (xs.map f) :=
  ⟨by simp, .inr ⟨g, cap, _, rfl, hg, h, by omega, hm, by simp; omega, by simp⟩⟩
end

section
variable {w w' : World} {g base : Nat} {e : TypeId} {F : Foot} {rest : List Value} {v : Value}
theorem Row1.ints {xs : List Int} (h : Row1 (Value.int .i64) w g e xs rest) (hx : ∀ x ∈ xs, I64 x) (hF : F g) : SliceR intR 1 F w (some ⟨g, 0, none⟩) xs := by
  intro i x hi
  refine ⟨g, 0, [.int .i64 x], rfl, hF, ⟨rfl, hx x (List.mem_of_getElem? hi)⟩, fun j u hu => ?_⟩
  have hj : j = 0 := by
    have := (List.getElem?_eq_some_iff.1 hu).1
    simp at this
    exact this
  subst hj
  simp at hu
  subst hu
  simpa using h.cell hi
theorem Row1.bools {xs : List Bool} (h : Row1 Value.bool w g e xs rest) (hF : F g) : SliceR boolR 1 F w (some ⟨g, 0, none⟩) xs := by
  intro i x hi
  refine ⟨g, 0, [.bool x], rfl, hF, rfl, fun j u hu => ?_⟩
  have hj : j = 0 := by
    have := (List.getElem?_eq_some_iff.1 hu).1
    simp at this
    exact this
  subst hj
  simp at hu
  subst hu
  simpa using h.cell hi
/-- A row of ints that append made (or grew), known whole. -/
theorem OwnS.row {xs : List Int} (h : OwnS intR 1 base e F w v xs) (hne : xs ≠ []) : ∃ g cap rest, v = .slice (some ⟨g, 0, none⟩) xs.length cap ∧ base ≤ g ∧ cap = xs.length + rest.length ∧ cap ≤ maxLen ∧ Row1 (Value.int .i64) w g e xs rest ∧ ∀ x ∈ xs, I64 x := by
  obtain ⟨cells, ho, h1, hc⟩ := h
  have hcells : cells = xs.map (Value.int .i64) := by
    have hl := ho.1
    apply List.ext_getElem?
    intro i
    rw [List.getElem?_map]
    rcases Nat.lt_or_ge i xs.length with hi | hi
    · have h2 := (hc i _ (List.getElem?_eq_getElem hi)).1
      rw [List.getElem?_eq_getElem hi]
      have h3 := congrArg (fun l => l[0]?) h2
      simp only [chunk, Nat.mul_one] at h3
      rw [List.getElem?_take_of_lt (by omega), List.getElem?_drop] at h3
      simpa using h3
    · rw [List.getElem?_eq_none (by omega), List.getElem?_eq_none (by omega)]
      rfl
  have h64 : ∀ x ∈ xs, I64 x := fun x hx => by
    obtain ⟨i, hi, rfl⟩ := List.getElem_of_mem hx
    exact (hc i _ (List.getElem?_eq_getElem hi)).2
  rcases ho.2 with ⟨_, hn⟩ | ⟨g, cap, cur, rfl, hg, hh, hle, hcm, hcs, htake⟩
  · exact absurd (List.eq_nil_of_length_eq_zero hn) hne
  · refine ⟨g, cap, cur.toList.drop xs.length, rfl, hg, by simp; omega, hcm, Row1.of cur.toList hh ?_, h64⟩
    rw [← hcells, ← htake, Nat.mul_one]
/-- Back. -/
theorem Row1.ownInts {xs : List Int} (h : Row1 (Value.int .i64) w g e xs rest) (hx : ∀ x ∈ xs, I64 x) {cap : Nat} (hg : base ≤ g) (hc : cap = xs.length + rest.length) (hm : cap ≤ maxLen) :
    OwnS intR 1 base e F w (.slice (some ⟨g, 0, none⟩) xs.length cap) xs := by
  refine ⟨xs.map (Value.int .i64), h.own (fun _ => rfl) hg hc hm, ?_, ?_⟩
  · intro u hu
    obtain ⟨x, _, rfl⟩ := List.mem_map.1 hu
    rfl
  · intro i x hi
    refine ⟨?_, hx x (List.mem_of_getElem? hi)⟩
    have hl : i < xs.length := (List.getElem?_eq_some_iff.1 hi).1
    apply List.ext_getElem?
    intro j
    unfold chunk
    match j with
    | 0 =>
      rw [List.getElem?_take_of_lt (by omega), List.getElem?_drop, List.getElem?_map]
      simp [hi]
    | j + 1 => rw [List.getElem?_eq_none (by simp; omega), List.getElem?_eq_none (by simp)]
theorem grown_row {w w' : World} {g : Nat} {o : Option Nat} (hg : w.grownBy w' o) (h : some g ≠ o) (hlt : g < w.heap.size) : w'.heap[g]? = w.heap[g]? := hg.block g hlt h
end

/-- make([]T, n): a row of n zeros. -/
theorem wpList_make_row {α : Type} {f : α → Value} {P : Program} (w : World) {ops : Array Oper} {rest : List Oper} {o : Oper} {a : Act} {Q : Exit → Act → World → Prop}
    (hg : o.guard = none) (l c : Operand) (t : TypeId) (hop : o.op = Op.makeSlice t l c) (e : TypeId) (x0 : α) (bytes : Nat) (h1 : P.underlying t = some (.slice e)) (hinfo : (P.info? e).map (fun i => (i.zero, i.size, i.bytes)) = some (some (f x0), 1, bytes))
    (hone : (f x0).cells = #[f x0]) (kl kc : IntKind) (L C : Int) (n : Nat) (hl : a.eval l = .int kl L) (hc : a.eval c = .int kc C) (hL : L = (n : Int)) (hC : C = (n : Int)) (b2 : bytes * n ≤ 281474976710656) (b3 : n ≤ maxLen)
    (hK : ∀ w', Row1 f w' w.heap.size e (List.replicate n x0) [] → Below w.heap.size w w' → w.grownBy w' none → wpList P ops Q rest (a.put o.dst (.slice (some ⟨w.heap.size, 0, none⟩) n n)) w') :
    wpList P ops Q (o :: rest) a w := by
  obtain ⟨i0, hi, hz0, hz1, hz2⟩ := info_parts hinfo
  refine wpList_make_full w hg l c t hop w.heap.size e i0 (f x0) 1 h1 hi hz0 hz1 kl kc L C n hl hc hL hC (by rw [hz2]; exact b2) b3 (Nat.le_refl _) fun w' hown hgr => hK w' ?_ ((Below.refl _ _).grown hgr (Nat.le_refl _) fun k hk => by cases hk) hgr
  rcases hown.2 with ⟨he, _⟩ | ⟨g, cap, cur, he, _, hh, _, _, hcs, htake⟩
  · cases he
  · injection he with e1 e2 e3
    injection e1 with e1
    injection e1 with e1
    subst e1 e3
    have hcur : cur.toList = (List.replicate n x0).map f ++ [] := by
      rw [List.append_nil, List.map_replicate]
      rw [← List.take_of_length_le (l := cur.toList) (i := n * 1) (by simp; omega), htake]
      apply List.ext_getElem?
      intro j
      simp only [Array.getElem?_toList, madeCells, Array.getElem?_map, Array.getElem?_range, List.getElem?_replicate, hone]
      by_cases hj : j < n
      · simp [hj, Nat.mod_one]
      · simp [hj]
    unfold Row1
    rw [← hcur]
    exact hh

end Go.Proofs.YthpknfoahimopaaGreatDoor

set_option linter.unusedVariables false
set_option linter.unusedSimpArgs false
namespace Go.Proofs.YthpknfoahimopaaGreatDoor

theorem valB_take_getD (b : Nat) (l : List Nat) (i : Nat) : valB b (l.take (i + 1)) = valB b (l.take i) + b ^ i * l.getD i 0 := by
  rw [List.getD_eq_getElem?_getD]
  cases h : l[i]? with
  | some x => exact valB_take_succ b h
  | none =>
    have h1 : l.length ≤ i := List.getElem?_eq_none_iff.1 h
    rw [valB_take_past b (by omega), valB_take_past b h1]
    simp
/-- A digit of a sum. -/
theorem add_step {b i c w : Nat} {x y out : List Nat} (hl : out.length = i) (h : valB b out + b ^ i * c = valB b (x.take i) + valB b (y.take i)) (hw : w = x.getD i 0 + c + y.getD i 0) :
    valB b (out ++ [w % b]) + b ^ (i + 1) * (w / b) = valB b (x.take (i + 1)) + valB b (y.take (i + 1)) := by
  rw [valB_snoc, hl, valB_take_getD, valB_take_getD, Nat.pow_succ]
  have h1 : b ^ i * (w % b) + b ^ i * b * (w / b) = b ^ i * w := by
    rw [Nat.mul_assoc, ← Nat.mul_add, Nat.mod_add_div]
  have h2 : b ^ i * w = b ^ i * x.getD i 0 + b ^ i * c + b ^ i * y.getD i 0 := by rw [hw, Nat.mul_add, Nat.mul_add]
  omega
/-- A digit of a difference. -/
theorem sub_step {b i c c' d : Nat} {x y out : List Nat} (hl : out.length = i) (h : valB b out + valB b (y.take i) = valB b (x.take i) + b ^ i * c) (hd : d + y.getD i 0 + c = x.getD i 0 + b * c') :
    valB b (out ++ [d]) + valB b (y.take (i + 1)) = valB b (x.take (i + 1)) + b ^ (i + 1) * c' := by
  rw [valB_snoc, hl, valB_take_getD, valB_take_getD, Nat.pow_succ]
  have h1 : b ^ i * (d + y.getD i 0 + c) = b ^ i * (x.getD i 0 + b * c') := by rw [hd]
  rw [Nat.mul_add, Nat.mul_add, Nat.mul_add, ← Nat.mul_assoc] at h1
  omega
theorem sub_end {b n c : Nat} {x y out : List Nat} (hl : out.length = n) (ho : ∀ d ∈ out, d < b) (h : valB b out + valB b y = valB b x + b ^ n * c) (hyx : valB b y ≤ valB b x) : c = 0 ∧ valB b out = valB b x - valB b y := by
  have h1 := valB_lt ho
  rw [hl] at h1
  have h2 : c = 0 := by
    by_cases e : c = 0
    · exact e
    · exfalso
      have h3 : b ^ n * 1 ≤ b ^ n * c := Nat.mul_le_mul_left _ (by omega)
      omega
  subst h2
  exact ⟨rfl, by omega⟩
/-- A digit of a row of a product. -/
theorem mul_step {b j c w a z t : Nat} {y out : List Nat} {k i : Nat} (hj : j = i + k) (ht : out[j]? = some t) (h : valB b out + b ^ j * c = z + a * (b ^ i * valB b (y.take k))) (hw : w = t + a * y.getD k 0 + c) :
    valB b (out.set j (w % b)) + b ^ (j + 1) * (w / b) = z + a * (b ^ i * valB b (y.take (k + 1))) := by
  have h1 := valB_set b (w % b) ht
  have h2 : b ^ j * (w % b) + b ^ (j + 1) * (w / b) = b ^ j * w := by
    rw [Nat.pow_succ, Nat.mul_assoc, ← Nat.mul_add, Nat.mod_add_div]
  have h3 : b ^ j * w = b ^ j * t + a * (b ^ j * y.getD k 0) + b ^ j * c := by
    rw [hw, Nat.mul_add, Nat.mul_add, Nat.mul_left_comm]
  have h4 : a * (b ^ i * valB b (y.take (k + 1))) = a * (b ^ i * valB b (y.take k)) + a * (b ^ j * y.getD k 0) := by
    rw [valB_take_getD, Nat.mul_add, Nat.mul_add, ← Nat.mul_assoc (b ^ i) (b ^ k), ← Nat.pow_add, ← hj]
  omega
/-- The carry of a product. -/
theorem mul_carry {b c w a t y : Nat} (hb : 0 < b) (ht : t < b) (ha : a < b) (hy : y < b) (hc : c < b) (hw : w = t + a * y + c) : w / b < b := by
  rw [Nat.div_lt_iff_lt_mul hb, hw]
  have h1 : a * y ≤ (b - 1) * (b - 1) := Nat.mul_le_mul (by omega) (by omega)
  obtain ⟨m, rfl⟩ : ∃ m, b = m + 1 := ⟨b - 1, by omega⟩
  simp only [Nat.add_sub_cancel] at h1
  rw [Nat.mul_add, Nat.add_mul]
  omega
/-- A digit of a quotient by a short number, from the front. -/
theorem short_step {b i d r w x : Nat} {l : List Nat} (hx : l[i]? = some x) (hw : w = r * b + x) {q : Nat} (hq : q * d + r = valB b (l.drop (i + 1))) :
    (w / d + b * q) * d + w % d = valB b (l.drop i) := by
  rw [valB_drop b hx, ← hq, Nat.add_mul, Nat.mul_add, Nat.mul_assoc]
  have h1 := Nat.div_add_mod w d
  rw [Nat.mul_comm d] at h1
  rw [Nat.mul_comm r b] at hw
  omega
end Go.Proofs.YthpknfoahimopaaGreatDoor

set_option linter.unusedVariables false
set_option linter.unusedSimpArgs false
namespace Go.Proofs.YthpknfoahimopaaGreatDoor

section
variable {b B v1 v2 V u2 top U g r : Nat}
/-- The guess is not too small as long as it is lessened for a reason. -/
theorem guess_low (hV1 : V < (v1 * b + v2 + 1) * B) (hV : (v1 * b + v2) * B ≤ V) (hU : U < (top * b + u2 + 1) * B) (hg : g * v1 + r = top) (h : r * b + u2 < g * v2) : U < g * V := by
  have h1 : top * b + u2 + 1 ≤ g * (v1 * b + v2) := by
    rw [← hg, Nat.mul_add, Nat.add_mul, Nat.mul_assoc]
    omega
  have h2 : (top * b + u2 + 1) * B ≤ g * (v1 * b + v2) * B := Nat.mul_le_mul_right _ h1
  have h3 : g * ((v1 * b + v2) * B) ≤ g * V := Nat.mul_le_mul_left _ hV
  rw [← Nat.mul_assoc] at h3
  omega
/-- The guess is at most 1 too great where it is not lessened any more. -/
theorem guess_high (hB : 0 < B) (hv1 : 0 < v1) (hV1 : V < (v1 * b + v2 + 1) * B) (hV : (v1 * b + v2) * B ≤ V) (hU : (top * b + u2) * B ≤ U) (hg : g * v1 + r = top) (hgb : g < b) (h : g * v2 ≤ r * b + u2) : g * V < U + V := by
  by_cases e : g = 0
  · subst e
    have : 0 < V := Nat.lt_of_lt_of_le (Nat.mul_pos (by have := Nat.mul_pos hv1 (show 0 < b by omega); omega) hB) hV
    omega
  have h1 : g * (v1 * b + v2) ≤ top * b + u2 := by
    rw [← hg, Nat.mul_add, Nat.add_mul, Nat.mul_assoc]
    omega
  have h2 : g * V < g * ((v1 * b + v2 + 1) * B) := Nat.mul_lt_mul_of_pos_left hV1 (by omega)
  have h3 : g * ((v1 * b + v2 + 1) * B) = g * (v1 * b + v2) * B + g * B := by
    rw [Nat.add_mul, Nat.one_mul, Nat.mul_add, Nat.mul_assoc]
  have h4 : g * (v1 * b + v2) * B ≤ (top * b + u2) * B := Nat.mul_le_mul_right _ h1
  have h5 : g * B ≤ (v1 * b + v2) * B := Nat.mul_le_mul_right _ (by
    have : 1 * b ≤ v1 * b := Nat.mul_le_mul_right _ hv1
    omega)
  omega
/-- The guess is not too great where what is left is at least a whole digit. -/
theorem guess_rest (hV1 : V < (v1 * b + v2 + 1) * B) (hv2 : v2 < b) (hU : (top * b + u2) * B ≤ U) (hg : g * v1 + r = top) (hgb : g ≤ b) (h : b ≤ r) : g * V ≤ U := by
  have h1 : (v1 * b + v2 + 1) * B ≤ (v1 + 1) * b * B := Nat.mul_le_mul_right _ (by rw [Nat.add_mul]; omega)
  have h2 : g * V ≤ g * ((v1 + 1) * b * B) := Nat.mul_le_mul_left _ (by omega)
  have h3 : g * ((v1 + 1) * b * B) = (g * v1 + g) * b * B := by
    rw [← Nat.mul_assoc, ← Nat.mul_assoc, Nat.mul_add, Nat.mul_one]
  have h4 : (g * v1 + g) * b * B ≤ top * b * B := Nat.mul_le_mul_right _ (Nat.mul_le_mul_right _ (by omega))
  have h5 : top * b * B ≤ (top * b + u2) * B := Nat.mul_le_mul_right _ (by omega)
  omega
end
/-- The first guess: not less than the quotient. -/
theorem guess_first {b B v1 V W top U : Nat} (hV : v1 * B ≤ V) (hU : U < (top + 1) * B) (hv1 : 0 < v1) : U < (top / v1 + 1) * V := by
  have h1 : top + 1 ≤ (top / v1 + 1) * v1 := by
    have := Nat.lt_div_mul_add (a := top) hv1
    rw [Nat.add_mul]
    omega
  have h2 : (top + 1) * B ≤ (top / v1 + 1) * v1 * B := Nat.mul_le_mul_right _ h1
  have h3 : (top / v1 + 1) * (v1 * B) ≤ (top / v1 + 1) * V := Nat.mul_le_mul_left _ hV
  rw [← Nat.mul_assoc] at h3
  omega
end Go.Proofs.YthpknfoahimopaaGreatDoor

set_option linter.unusedVariables false
set_option linter.unusedSimpArgs false
namespace Go.Proofs.YthpknfoahimopaaGreatDoor

/-- A word of the difference of a number and a multiple of another. -/
theorem msub_step {b i g d w c k : Nat} {u v out : List Nat} (hl : out.length = i) (h : valB b out + g * valB b (v.take i) = valB b (u.take i) + b ^ i * c) (hw : w = g * v.getD i 0) (hd : d + w % b + c = u.getD i 0 + b * k) :
    valB b (out ++ [d]) + g * valB b (v.take (i + 1)) = valB b (u.take (i + 1)) + b ^ (i + 1) * (w / b + k) := by
  rw [valB_snoc, hl, valB_take_getD, valB_take_getD, Nat.pow_succ, Nat.mul_add g, Nat.mul_left_comm g, ← hw]
  have h1 : d + w + c = u.getD i 0 + b * (w / b + k) := by
    have := Nat.mod_add_div w b
    rw [Nat.mul_add]
    omega
  have h2 : b ^ i * (d + w + c) = b ^ i * (u.getD i 0 + b * (w / b + k)) := by rw [h1]
  rw [Nat.mul_add, Nat.mul_add, Nat.mul_add (b ^ i) (u.getD i 0), ← Nat.mul_assoc] at h2
  omega
/-- What is left where the guess is right. -/
theorem msub_end {b n g c V U : Nat} {out : List Nat} (hl : out.length = n) (ho : ∀ d ∈ out, d < b) (h : valB b out + g * V = U + b ^ n * c) (hle : g * V ≤ U) : c = 0 ∧ valB b out = U - g * V := by
  have h1 := valB_lt ho
  rw [hl] at h1
  have h2 : c = 0 := by
    by_cases e : c = 0
    · exact e
    · exfalso
      have h3 : b ^ n * 1 ≤ b ^ n * c := Nat.mul_le_mul_left _ (by omega)
      omega
  subst h2
  exact ⟨rfl, by omega⟩
/-- What is left where the guess is 1 too great: adding back. -/
theorem msub_back {b n g c V U c2 : Nat} {out out2 : List Nat} (hl : out.length = n) (ho : ∀ d ∈ out, d < b) (hl2 : out2.length = n) (ho2 : ∀ d ∈ out2, d < b) (h : valB b out + g * V = U + b ^ n * c) (hgt : U < g * V) (hlt : g * V < U + V) (hV : V < b ^ n)
    (h2 : valB b out2 + b ^ n * c2 = valB b out + V) : c ≠ 0 ∧ valB b out2 = U - (g - 1) * V ∧ (g - 1) * V ≤ U := by
  have h3 := valB_lt ho
  have h4 := valB_lt ho2
  rw [hl] at h3
  rw [hl2] at h4
  obtain ⟨m, rfl⟩ : ∃ m, g = m + 1 := ⟨g - 1, by
    have : g ≠ 0 := fun e => by subst e; omega
    omega⟩
  rw [Nat.add_mul, Nat.one_mul] at h hgt hlt
  rw [Nat.add_sub_cancel]
  have hc : c = 1 := by
    have h5 : ¬ c = 0 := fun e => by subst e; omega
    have h6 : c < 2 := by
      by_cases e : c < 2
      · exact e
      · exfalso
        have h7 : b ^ n * 2 ≤ b ^ n * c := Nat.mul_le_mul_left _ (by omega)
        omega
    omega
  subst hc
  have hc2 : c2 = 1 := by
    have h5 : ¬ c2 = 0 := fun e => by subst e; omega
    have h6 : c2 < 2 := by
      by_cases e : c2 < 2
      · exact e
      · exfalso
        have h7 : b ^ n * 2 ≤ b ^ n * c2 := Nat.mul_le_mul_left _ (by omega)
        omega
    omega
  subst hc2
  exact ⟨by omega, by omega, by omega⟩
/-- A quotient is known by what is left. -/
theorem quo_of {U V q : Nat} (h1 : q * V ≤ U) (h2 : U < (q + 1) * V) : q = U / V ∧ U - q * V = U % V := by
  have hV : 0 < V := by
    by_cases e : V = 0
    · subst e; omega
    · omega
  have h3 : q = U / V := by
    have h4 := (Nat.le_div_iff_mul_le hV).2 h1
    have h5 := (Nat.div_lt_iff_lt_mul hV).2 h2
    omega
  refine ⟨h3, ?_⟩
  have h6 := Nat.div_add_mod U V
  rw [Nat.mul_comm, ← h3] at h6
  omega
/-- One more word of a quotient, from the front. -/
theorem quo_word {b V R u : Nat} (hV : 0 < V) (hR : R < V) (hu : u < b) : (R * b + u) / V < b ∧ (R * b + u) % V < V := by
  refine ⟨?_, Nat.mod_lt _ hV⟩
  rw [Nat.div_lt_iff_lt_mul hV, Nat.mul_comm b]
  have : (R + 1) * b ≤ V * b := Nat.mul_le_mul_right _ hR
  rw [Nat.add_mul] at this
  omega
end Go.Proofs.YthpknfoahimopaaGreatDoor

set_option linter.unusedVariables false
set_option linter.unusedSimpArgs false
namespace Go.Proofs.YthpknfoahimopaaGreatDoor
open Go.RowKit

/-- The base of the words. -/
def BW : Nat := 1000000000
theorem BW2 : 2 ≤ BW := by unfold BW; omega
theorem BW0 : 0 < BW := by unfold BW; omega
def Wrd (l : List Nat) : Prop := ∀ d ∈ l, d < 1000000000
def wds (n : Nat) : List Nat := digB BW n
theorem wds_wrd (n : Nat) : Wrd (wds n) := digB_lt BW2 n
theorem wds_cut (n : Nat) : Cut (wds n) := digB_cut BW2 n
theorem wds_val (n : Nat) : valB BW (wds n) = n := valB_digB BW2 n
theorem cut_wds {l : List Nat} (h : Wrd l) : cutB l = wds (valB BW l) := cutB_digB BW2 h
theorem wds_of {l : List Nat} (h : Wrd l) (hc : Cut l) : wds (valB BW l) = l := digB_val BW2 h hc
theorem wrd_snoc {l : List Nat} {x : Nat} (h : Wrd l) (hx : x < 1000000000) : Wrd (l ++ [x]) := by
  intro d hd
  rcases List.mem_append.1 hd with h1 | h1
  · exact h d h1
  · simp at h1; omega
theorem wrd_getD {l : List Nat} (h : Wrd l) (i : Nat) : l.getD i 0 < 1000000000 := by
  rw [List.getD_eq_getElem?_getD]
  rcases e : l[i]? with _ | x
  · simp
  · exact h x (List.mem_of_getElem? e)
theorem wrd_get {l : List Nat} (h : Wrd l) {i x : Nat} (e : l[i]? = some x) : x < 1000000000 := h x (List.mem_of_getElem? e)
theorem wrd_set {l : List Nat} (h : Wrd l) (i : Nat) {x : Nat} (hx : x < 1000000000) : Wrd (l.set i x) := by
  intro d hd
  rcases List.mem_or_eq_of_mem_set hd with h1 | h1
  · exact h d h1
  · omega
theorem wrd_zeros (n : Nat) : Wrd (List.replicate n 0) := by
  intro d hd
  have := List.eq_of_mem_replicate hd
  omega
theorem wds_zero : wds 0 = [] := by unfold wds digB; simp
theorem wds_one {d : Nat} (h0 : d ≠ 0) (h : d < 1000000000) : wds d = [d] := by
  have := wds_of (l := [d]) (fun x hx => by simp at hx; omega) (by unfold Cut; simp [cutB, h0])
  simpa [valB] using this
theorem wds_nil {n : Nat} (h : wds n = []) : n = 0 := digB_nil BW2 h
/-- Not too long. -/
def Few (n : Nat) : Prop := (wds n).length ≤ 1000000
theorem few_of {n k : Nat} (h : n < 10 ^ k) (hk : k ≤ 1000000) : Few n := by
  refine Nat.le_trans (digB_len_le BW2 (k := k) (Nat.lt_of_lt_of_le h (Nat.pow_le_pow_left (by unfold BW; omega) k))) hk
theorem i64_in {n : Int} (h : -9223372036854775808 ≤ n ∧ n ≤ 9223372036854775807) : IntKind.i64.wrap n = n := by
  unfold IntKind.wrap; simp [IntKind.signed, IntKind.bits]; omega
def u32V (n : Nat) : Value := .int .u32 (n : Int)
section
variable {w w' : World} {g : Nat} {e : TypeId} {F : Foot} {rest : List Value}
theorem Row1.wrds {xs : List Nat} (h : Row1 u32V w g e xs rest) (hx : ∀ x ∈ xs, x < 4294967296) (hF : F g) : SliceR wrdR 1 F w (some ⟨g, 0, none⟩) xs := by
  intro i x hi
  refine ⟨g, 0, [.int .u32 x], rfl, hF, ⟨rfl, hx x (List.mem_of_getElem? hi)⟩, fun j u hu => ?_⟩
  have hj : j = 0 := by
    have := (List.getElem?_eq_some_iff.1 hu).1
    simp at this
    exact this
  subst hj
  simp at hu
  subst hu
  simpa [u32V] using h.cell hi
/-- A part of such a row. -/
theorem Row1.wrdsAt {xs : List Nat} (h : Row1 u32V w g e xs rest) (hx : ∀ x ∈ xs, x < 4294967296) (hF : F g) (j : Nat) : SliceR wrdR 1 F w (some ⟨g, j, none⟩) (xs.drop j) := by
  intro i x hi
  have hi' : xs[j + i]? = some x := by rw [← List.getElem?_drop]; exact hi
  refine ⟨g, j, [.int .u32 x], rfl, hF, ⟨rfl, hx x (List.mem_of_getElem? hi')⟩, fun k u hu => ?_⟩
  have hk : k = 0 := by
    have := (List.getElem?_eq_some_iff.1 hu).1
    simp at this
    exact this
  subst hk
  simp at hu
  subst hu
  simpa [u32V] using h.cell hi'
theorem SliceR.wrd_take {oa : Option Addr} {xs : List Nat} (h : SliceR wrdR 1 F w oa xs) (k : Nat) : SliceR wrdR 1 F w oa (xs.take k) := by
  intro i x hi
  rw [List.getElem?_take] at hi
  split at hi
  · exact h i x hi
  · cases hi
end
/-- Rows that are filled from the front. -/
theorem fill_at (o : List Nat) {n k : Nat} (hl : o.length = k) (hk : k < n) : (o ++ List.replicate (n - k) 0)[k]? = some 0 := by
  rw [List.getElem?_append_right (by omega), List.getElem?_replicate, if_pos (by omega)]
theorem fill_set (o : List Nat) {n k : Nat} (d : Nat) (hl : o.length = k) (hk : k < n) : (o ++ List.replicate (n - k) 0).set k d = (o ++ [d]) ++ List.replicate (n - (k + 1)) 0 := by
  rw [List.set_append_right _ _ (by omega), hl, Nat.sub_self, show n - k = (n - (k + 1)) + 1 from by omega, List.replicate_succ, List.set_cons_zero, List.append_assoc]
  rfl
/-- One word in a new block. -/
theorem wrdl (w : World) (e : TypeId) (z : Int) (d : Nat) (h : z = (d : Int)) (hd : d < 4294967296) : SliceR wrdR 1 All (w.alloc (.cells #[.int .u32 z] e)) (some ⟨w.heap.size, 0, none⟩) [d] := by
  subst h
  exact Row1.wrds (xs := [d]) (rest := []) (heap_alloc_new w _) (fun x hx => by simp at hx; omega) trivial
/-- The value holds a natural number. -/
def NatV (w : World) (v : Value) (n : Nat) : Prop := ∃ oa c, v = .slice oa (wds n).length c ∧ (wds n).length ≤ c ∧ c ≤ 9223372036854775807 ∧ SliceR wrdR 1 All w oa (wds n)
theorem NatV.below {w w' : World} {v : Value} {n : Nat} (h : NatV w v n) (hb : Below w.heap.size w w') : NatV w' v n := by
  obtain ⟨oa, c, h1, h2, h3, h4⟩ := h
  exact ⟨oa, c, h1, h2, h3, h4.below wrdR_ok hb⟩
theorem NatV.nil (w : World) : NatV w (.slice none 0 0) 0 := ⟨none, 0, by rw [wds_zero]; rfl, by rw [wds_zero]; simp, by omega, by rw [wds_zero]; exact SliceR.nil _ _ _ _ _⟩
def NatPost (w : World) (n : Nat) (e : Ending) (w' : World) : Prop := ∃ v, e = .returned v ∧ NatV w' v n ∧ Below w.heap.size w w'
def NatPost2 (w : World) (n m : Nat) (e : Ending) (w' : World) : Prop := ∃ v u, e = .returned (.tuple #[v, u]) ∧ NatV w' v n ∧ NatV w' u m ∧ Below w.heap.size w w'
/-- What trimming leaves. -/
theorem NatV.cut {w : World} {oa : Option Addr} {l : List Nat} {c : Nat} {F : Foot} (h : SliceR wrdR 1 F w oa l) (hl : Wrd l) (hc : l.length ≤ c) (hm : c ≤ 9223372036854775807) {n : Nat} (hn : valB BW l = n) : NatV w (.slice oa (cutB l).length c) n := by
  subst hn
  refine ⟨oa, c, by rw [cut_wds hl], by rw [← cut_wds hl]; exact Nat.le_trans (cutB_len l) hc, hm, ?_⟩
  rw [← cut_wds hl]
  have := (h.all wrdR_ok (by decide)).wrd_take (cutB l).length
  rwa [← cutB_pre] at this
where
  cutB_pre : ∀ l : List Nat, cutB l = l.take (cutB l).length
    | [] => rfl
    | d :: r => by
      have h := cutB_pre r
      rw [cutB_cons]
      split
      · rfl
      · rw [List.length_cons, List.take_succ_cons, ← h]
end Go.Proofs.YthpknfoahimopaaGreatDoor

set_option linter.unusedVariables false
set_option linter.unusedSimpArgs false
namespace Go.Proofs.YthpknfoahimopaaGreatDoor
open Go.RowKit

def Box (w : World) (B : Nat) (cs : List Value) (t : TypeId) : Prop := w.heap[B]? = some (.cells cs.toArray t (0, 0))
theorem cell_next {w : World} {a : Addr} {v : Value} (h : w.cell? a = some v) (o : Obj) : (w.alloc o).cell? a = some v := (World.cell?_alloc_lt w o a (World.block_lt_of_cell? _ _ h)).trans h
section
variable {w w' : World} {B : Nat} {cs : List Value} {t : TypeId}
theorem Box.lt (h : Box w B cs t) : B < w.heap.size := (Array.getElem?_eq_some_iff.1 h).1
theorem Box.cell (h : Box w B cs t) (i : Nat) : w.cell? ⟨B, i, none⟩ = cs[i]? := by
  rw [cell_of_row w B i _ t (0, 0) h]
  simp
theorem Box.free (h : Box w B cs t) (i : Nat) : w.frozen? ⟨B, i, none⟩ = false := frozen_of_row w B i _ _ h
theorem Box.keep (h : Box w B cs t) (hb : w'.heap[B]? = w.heap[B]?) : Box w' B cs t := hb.trans h
theorem Box.below (h : Box w B cs t) (hb : Below w.heap.size w w') : Box w' B cs t := h.keep (hb.block B h.lt)
theorem Box.under {n : Nat} (h : Box w B cs t) (hb : Below n w w') (hn : B < n) : Box w' B cs t := h.keep (hb.block B hn)
theorem Box.next (h : Box w B cs t) (o : Obj) : Box (w.alloc o) B cs t := h.below (bnew (Below.refl _ _) o)
theorem Box.draw (h : Box w B cs t) : Box w.drew B cs t := h
theorem Box.new (w : World) (cs : List Value) (t : TypeId) : Box (w.alloc (.cells cs.toArray t)) w.heap.size cs t := heap_alloc_new w _
theorem Box.put (h : Box w B cs t) (i : Nat) (v : Value) : Box (w.setCell ⟨B, i, none⟩ v) B (cs.set i v) t := by
  unfold Box at h ⊢
  simp [World.setCell, Array.getElem?_modify, h]
theorem Box.other (h : Box w B cs t) {p : Addr} (hp : B ≠ p.block) (u : Value) : Box (w.setCell p u) B cs t := h.keep (Below.heap_setCell w p u B hp)
theorem Box.grown {o : Option Nat} (h : Box w B cs t) (hg : w.grownBy w' o) (hne : some B ≠ o) : Box w' B cs t := h.keep (hg.block B h.lt hne)
end

end Go.Proofs.YthpknfoahimopaaGreatDoor

set_option linter.unusedVariables false
set_option linter.unusedSimpArgs false
set_option linter.unnecessarySimpa false
namespace Go.Proofs.YthpknfoahimopaaGreatDoor
open Go.RowKit

/-- The library's table of powers of ten. -/
def Tbl (w : World) : Prop := Lib.TabIs Tryz.prog w "internal/strconv.uint64pow10" .u64 Lib.pow10Tab
theorem Tbl.below {w w' : World} (h : Tbl w) (hb : Below w.heap.size w w') : Tbl w' := Lib.tabBelow_of_tabIs h w' hb
def strN (l : List UInt8) : ByteArray := ⟨l.toArray⟩
theorem itoa_any {z : Int} (h0 : -9223372036854775808 ≤ z) (h1 : z ≤ 9223372036854775807) {w : World} (ht : Tbl w) : Calls Tryz.prog 84 #[.int .i64 z] w fun e w' => e = .returned (.string (strN (txtI z))) ∧ Below w.heap.size w w' := by
  refine (Tryz.strconv_Itoa z h0 h1 w ht).mono ?_
  rintro e w' ⟨rfl, k, os, rfl⟩
  refine ⟨by rw [itoa_txtI]; rfl, Lib.below_grow _ w (Nat.le_refl _) k os⟩
theorem itoa_word {d : Nat} (h : d < 1000000000) {w : World} (ht : Tbl w) : Calls Tryz.prog 84 #[.int .i64 d] w fun e w' => e = .returned (.string (strN (txtN d))) ∧ Below w.heap.size w w' := by
  have h5 := itoa_any (z := (d : Int)) (by omega) (by omega) ht
  rw [show txtI (d : Int) = txtN d from by unfold txtI; rw [if_neg (by omega)]; rfl] at h5
  exact h5
theorem builder_old {T e : TypeId} {B b : Nat} {bs : List Value} {w w' : World} (h : Lib.IsBuilder T e B b bs w) (hb : Below w.heap.size w w') : Lib.IsBuilder T e B b bs w' := by
  have key : ∀ p, Lib.BuilderAt T e B b p bs w → Lib.BuilderAt T e B b p bs w' := fun p ⟨h1, v, h2, h3, h4⟩ => by
    have hlt : b < w.heap.size := (Array.getElem?_eq_some_iff.1 h2).1
    refine ⟨h1, v, (hb.block b hlt).trans h2, ⟨h3.1, ?_⟩, h4⟩
    rcases h3.2 with h5 | ⟨g, cap, cur, hv, hg, hh, r⟩
    · exact .inl h5
    · exact .inr ⟨g, cap, cur, hv, hg, (hb.block g (Array.getElem?_eq_some_iff.1 hh).1).trans hh, r⟩
  exact h.imp (key _) (key _)
theorem txtN_len9 {d : Nat} (h : d < 1000000000) : (txtN d).length ≤ 9 := by
  by_cases h0 : d = 0
  · subst h0; decide
  · rw [txtN_len h0]
    exact digB_len_le (by omega) (show d < 10 ^ 9 from h)
theorem txtW_len : ∀ {l : List Nat}, (∀ w ∈ l, w < 1000000000) → (txtW l).length ≤ 9 * l.length
  | [], _ => by simp [txtW]
  | [w], h => by have := txtN_len9 (h w (by simp)); simpa [txtW] using this
  | w :: x :: r, h => by
    have ih := txtW_len (l := x :: r) fun y hy => h y (by simp at hy ⊢; exact .inr hy)
    have h9 := txtN_len9 (h w (by simp))
    rw [txtW_cons w (by simp), List.length_append, List.length_append, List.length_replicate, List.length_cons]
    omega
theorem zeros_text (c : Nat) : Lib.repeatL [48] c = List.replicate c 48 := by
  have := Lib.repeatL_replicate 48 1 c
  simpa using this
theorem repeat_any (c : Nat) (hc : c ≤ 9) (w : World) : Calls Tryz.prog 143 #[.string ⟨#[48]⟩, .int .i64 c] w fun e w' => e = .returned (.string (strN (List.replicate c 48))) ∧ Below w.heap.size w w' := by
  refine (Tryz.strings_Repeat ⟨#[48]⟩ c w (by omega) (by show 1 * c ≤ _; omega)).mono ?_
  rintro e w' ⟨rfl, hb⟩
  exact ⟨by rw [show (⟨#[48]⟩ : ByteArray).data.toList = [48] from rfl, zeros_text]; rfl, hb⟩
theorem write_any {B b : Nat} {l m : List UInt8} {w : World} (h : Lib.IsBuilder 162 5 B b (Lib.byteCells l) w) (hl : l.length + m.length ≤ 100000000) (hB : B ≤ w.heap.size) :
    Calls Tryz.prog 142 #[.pointer (some ⟨b, 0, none⟩), .string (strN m)] w fun e w' => e = .returned (.tuple #[.int .i64 m.length, .nilIface]) ∧ Lib.IsBuilder 162 5 B b (Lib.byteCells (l ++ m)) w' ∧ Below B w w' := by
  refine (Tryz.Builder_WriteString B b _ (strN m) w h (by rw [Lib.byteCells_length]; show l.length + m.length ≤ _; omega) hB).mono ?_
  rintro e w' ⟨rfl, h1, h2⟩
  refine ⟨rfl, .inr ?_, h2⟩
  rw [Lib.byteCells_append]
  exact h1
set_option maxRecDepth 100000 in
set_option maxHeartbeats 4000000 in
theorem ntext_any {x : Nat} {v : Value} {w : World} (h : NatV w v x) (hx : Few x) (ht : Tbl w) : Calls Tryz.prog 130 #[v] w fun e w' => e = .returned (.string (strN (txtN x))) ∧ Below w.heap.size w w' := by
  obtain ⟨oa, c, rfl, hc, hcm, hs⟩ := h
  by_cases h0 : x = 0
  · subst h0
    rw [wds_zero] at hc ⊢
    have tq : (((([] : List Nat).length : Nat) : Int) == 0) = true := by simp
    clear hs
    go_enter Tryz.func130, Tryz.ntmps130
    go_wp2_with fail
    go_ret
    exact ⟨rfl, Below.refl _ _⟩
  have HVX := hide (wds_val x)
  have HWP := hide (wds_wrd x)
  have HCP := hide (wds_cut x)
  have hn0 : (wds x).length ≠ 0 := fun h => h0 (wds_nil (List.eq_nil_of_length_eq_zero h))
  unfold Few at hx
  generalize wds x = p at *
  have HSP := hide hs
  have HT := hide ht
  obtain ⟨n, hn⟩ : ∃ n, n = p.length := ⟨_, rfl⟩
  rw [← hn] at hc hx hn0 ⊢
  have HN := hide hn
  have tq : ((n : Int) == 0) = false := by simp; omega
  have HFB : Hid (Lib.IsBuilder 162 5 w.heap.size w.heap.size (Lib.byteCells []) (w.alloc (.cells #[.pointer none, .slice none 0 0] 162))) := Lib.fresh_isBuilder _ _ w
  have HB0 : Hid (Below w.heap.size w (w.alloc (.cells #[.pointer none, .slice none 0 0] 162))) := bnew (Below.refl _ _) _
  clear hs ht hn h0
  go_enter Tryz.func130, Tryz.ntmps130
  go_wp2_with fail
  go_loopg [4, 5] n (fun gm iv sv wx => ∃ k : Nat, k ≤ n ∧ gm = k ∧ iv = .int .i64 ((k : Int) - 1) ∧ Hid (Lib.IsBuilder 162 5 w.heap.size w.heap.size (Lib.byteCells (txtW (p.drop k))) wx) ∧ Hid (Below w.heap.size w wx))
  case atStart => exact ⟨n, by omega, rfl, rfl, (show Lib.IsBuilder _ _ _ _ _ _ from by rw [HN.out, List.drop_length]; exact HFB), HB0⟩
  case round =>
    obtain ⟨k, hk, hgm, rfl, HBU, HB⟩ := hrel
    have HGM := hide hgm
    clear hgm HFB HB0
    rcases Nat.eq_zero_or_pos k with hk0 | hk0
    · subst hk0
      have tq1 : decide ((0 : Int) ≤ ((0 : Nat) : Int) - 1) = false := by simp
      have HPT : Hid (txtW p = txtN x) := by
        show _ = _
        have h5 := txtW_val HWP.out HCP.out (fun h => hn0 (by rw [HN.out, h]; rfl))
        rw [h5]
        exact congrArg txtN HVX.out
      have HBU : Hid (Lib.IsBuilder 162 5 w.heap.size w.heap.size (Lib.byteCells (txtN x)) wr) := by
        have h5 := HBU.out
        rw [List.drop_zero, HPT.out] at h5
        exact h5
      have HST := hide (Tryz.Builder_String_any w.heap.size w.heap.size (txtN x) wr HBU.out HB.out.size)
      go_wp2_with (go_at_call 144; (with_reducible refine HST.out.mono ?_); rintro ec w5 ⟨rfl, hb5⟩; have HB5 := hide (HB.out.trans hb5); clear hb5)
      go_ret
      exact ⟨rfl, HB5.out⟩
    · obtain ⟨j, rfl⟩ : ∃ j, k = j + 1 := ⟨k - 1, by omega⟩
      have e1 : (((j + 1 : Nat) : Int) - 1) = (j : Int) := by omega
      rw [e1]
      have tq1 : decide ((0 : Int) ≤ (j : Int)) = true := by simp
      have hj : j < p.length := by rw [← HN.out]; omega
      obtain ⟨d, hdr, hd, _, bb, offb, hob, _, c1⟩ := (HSP.out.below wrdR_ok HB.out).wrd_at hj
      subst hob
      have hd9 := wrd_get HWP.out hd
      have HIT := hide (itoa_word hd9 (HT.out.below HB.out))
      have hsz9 : (strN (txtN d)).size ≤ 9 := txtN_len9 hd9
      have HRP : Hid (∀ w', Calls Tryz.prog 143 #[.string ⟨#[48]⟩, .int .i64 (9 - ((strN (txtN d)).size : Int))] w' fun e w2 => e = .returned (.string (strN (List.replicate (9 - (txtN d).length) 48))) ∧ Below w'.heap.size w' w2) := fun w' => by
        have h5 := repeat_any (9 - (txtN d).length) (by omega) w'
        rw [show (((9 - (txtN d).length : Nat)) : Int) = 9 - ((strN (txtN d)).size : Int) from by show _ = 9 - ((txtN d).length : Int); have : (txtN d).length ≤ 9 := hsz9; omega] at h5
        exact h5
      have HLW : Hid ((txtW (p.drop (j + 1))).length ≤ 9000000) := by
        have h5 := txtW_len (l := p.drop (j + 1)) fun y hy => HWP.out y (List.mem_of_mem_drop hy)
        have h6 : (p.drop (j + 1)).length ≤ 1000000 := by rw [List.length_drop, ← HN.out]; omega
        show _ ≤ _
        omega
      have HL9 : Hid ((txtN d).length ≤ 9) := txtN_len9 hd9
      have HDR := hide hdr
      by_cases hl : j < n - 1
      · have tq2 : decide ((j : Int) < (n : Int) - 1) = true := by simp; omega
        have HTW : Hid (txtW (p.drop j) = txtW (p.drop (j + 1)) ++ List.replicate (9 - (txtN d).length) 48 ++ txtN d) := by
          show _ = _
          rw [HDR.out, txtW_cons d (by
            intro h5
            have h6 := congrArg List.length h5
            rw [List.length_drop, ← HN.out, List.length_nil] at h6
            omega), List.append_assoc]
        clear hj hd hdr e1
        go_wp2_with (first
          | (go_at_call 84; (with_reducible refine HIT.out.mono ?_); rintro ec w5 ⟨rfl, hb5⟩; have HB5 : Hid (Below w.heap.size w w5) := below_then HB.out hb5; have HBU5 := hide (builder_old HBU.out hb5); clear hb5)
          | (go_at_call 143; (with_reducible refine (HRP.out _).mono ?_); rintro ec w6 ⟨rfl, hb6⟩; have HB6 : Hid (Below w.heap.size w w6) := below_then HB5.out hb6; have HBU6 := hide (builder_old HBU5.out hb6); clear hb6)
          | (go_at_call 142; (with_reducible refine (write_any (m := List.replicate (9 - (txtN d).length) 48) HBU6.out (by have := HLW.out; rw [List.length_replicate]; omega) HB6.out.size).mono ?_); rintro ec w7 ⟨rfl, h7, hb7⟩; have HBU7 := hide h7; have HB7 := hide (HB6.out.trans hb7); clear h7 hb7)
          | (go_at_call 142; (with_reducible refine (write_any (m := txtN d) HBU7.out (by have := HLW.out; have := HL9.out; rw [List.length_append, List.length_replicate]; omega) HB7.out.size).mono ?_); rintro ec w8 ⟨rfl, h8, hb8⟩; have HBU8 := hide h8; have HB8 := hide (HB7.out.trans hb8); clear h8 hb8))
        go_roundg j
        case rel => exact ⟨j, by omega, rfl, by go_num, (show Lib.IsBuilder _ _ _ _ _ _ from by rw [HTW.out]; exact HBU8.out), HB8⟩
        case measure => rw [HGM.out]; omega
      · have tq2 : decide ((j : Int) < (n : Int) - 1) = false := by simp; omega
        have HJN : Hid (p.drop (j + 1) = []) := List.drop_of_length_le (by rw [← HN.out]; omega)
        have HTW : Hid (txtW (p.drop j) = txtN d) := by
          show _ = _
          rw [HDR.out, HJN.out]
          rfl
        have HBU : Hid (Lib.IsBuilder 162 5 w.heap.size w.heap.size (Lib.byteCells []) wr) := by
          have h5 := HBU.out
          rw [HJN.out] at h5
          exact h5
        clear hj hd hdr e1
        go_wp2_with (first
          | (go_at_call 84; (with_reducible refine HIT.out.mono ?_); rintro ec w5 ⟨rfl, hb5⟩; have HB5 : Hid (Below w.heap.size w w5) := below_then HB.out hb5; have HBU5 := hide (builder_old HBU.out hb5); clear hb5)
          | (go_at_call 142; (with_reducible refine (write_any (l := []) (m := txtN d) HBU5.out (by have := HL9.out; simp; omega) HB5.out.size).mono ?_); rintro ec w8 ⟨rfl, h8, hb8⟩; have HBU8 := hide h8; have HB8 := hide (HB5.out.trans hb8); clear h8 hb8))
        go_roundg j
        case rel => exact ⟨j, by omega, rfl, by go_num, (show Lib.IsBuilder _ _ _ _ _ _ from by rw [HTW.out]; exact HBU8.out), HB8⟩
        case measure => rw [HGM.out]; omega
end Go.Proofs.YthpknfoahimopaaGreatDoor

set_option linter.unusedVariables false
set_option linter.unusedSimpArgs false
set_option linter.unnecessarySimpa false
namespace Go.Proofs.YthpknfoahimopaaGreatDoor
open Go.RowKit

theorem cutB_pre : ∀ l : List Nat, cutB l = l.take (cutB l).length
  | [] => rfl
  | d :: r => by
    have h := cutB_pre r
    rw [cutB_cons]
    split
    · rfl
    · rw [List.length_cons, List.take_succ_cons, ← h]
set_option maxRecDepth 100000 in
set_option maxHeartbeats 4000000 in
theorem trimmed_any (l : List Nat) (oa : Option Addr) (c : Nat) (F : Foot) (w : World) (hs : SliceR wrdR 1 F w oa l) (hc : l.length ≤ c) (hl : c ≤ 9223372036854775807) :
    Calls Tryz.prog 111 #[.slice oa l.length c] w fun e w' => e = .returned (.slice oa (cutB l).length c) ∧ w = w' := by
  have HS := hide hs
  clear hs
  go_enter Tryz.func111, Tryz.ntmps111
  go_wp2_with fail
  go_loopg [0] l.length (fun gm sv wx => ∃ k : Nat, k ≤ l.length ∧ gm = k ∧ sv = .slice oa k c ∧ Hid (cutB (l.take k) = cutB l) ∧ w = wx)
  case atStart => exact ⟨l.length, by omega, rfl, rfl, by show _ = _; rw [List.take_length], rfl⟩
  case round =>
    obtain ⟨k, hk, hgm, rfl, HC, rfl⟩ := hrel
    have HGM := hide hgm
    clear hgm
    by_cases hk0 : k = 0
    · subst hk0
      have HE : Hid ((cutB l).length = 0) := by show _ = _; rw [← HC.out]; rfl
      go_wp2_with fail
      go_ret
      exact ⟨by rw [HE.out]; rfl, rfl⟩
    · obtain ⟨j, rfl⟩ : ∃ j, k = j + 1 := ⟨k - 1, by omega⟩
      obtain ⟨x, _, hx, hxb, b, off, hoa, _, cx⟩ := HS.out.wrd_at (i := j) (by omega)
      subst hoa
      have q1 : decide ((0 : Int) < ((j + 1 : Nat) : Int)) = true := by (try simp) <;> (try omega)
      have e1 : ((j + 1 : Nat) : Int) - 1 = (j : Int) := by omega
      by_cases hx0 : x = 0
      · have HN : Hid (cutB (l.take j) = cutB l) := by show _ = _; rw [← HC.out, cutB_take (by rw [hx, hx0])]
        have q2 : ((x : Int) == 0) = true := by simp [hx0]
        clear hx0
        go_wp2_with fail
        go_roundg j
        case rel => exact ⟨j, by omega, rfl, by go_num, HN, rfl⟩
        case measure => rw [HGM.out]; omega
      · have HE : Hid ((cutB l).length = j + 1) := by show _ = _; rw [← HC.out, cutB_take_ne hx hx0, List.length_take]; omega
        have q2 : ((x : Int) == 0) = false := by simp; omega
        clear hx0
        go_wp2_with fail
        go_ret
        exact ⟨by rw [HE.out]; rfl, rfl⟩
end Go.Proofs.YthpknfoahimopaaGreatDoor

set_option linter.unusedVariables false
set_option linter.unusedSimpArgs false
set_option linter.unnecessarySimpa false
namespace Go.Proofs.YthpknfoahimopaaGreatDoor
open Go.RowKit

theorem wInfo : (Tryz.prog.info? 131).map (fun i => (i.zero, i.size, i.bytes)) = some (some (.int .u32 0), 1, 4) := by kernel_rfl
theorem OwnS.none0 {α : Type} {R : Rep α} {sz base : Nat} {e : TypeId} {F : Foot} {w : World} {v : Value} (h : w.ownsRow base e sz v 0 []) : OwnS R sz base e F w v [] := ⟨[], h, by simp, by simp⟩
/-- Words of the call's own as a slice. -/
theorem own_words {base : Nat} {e : TypeId} {w : World} {v : Value} {xs : List Nat} (h : OwnS wrdR 1 base e Non w v xs) : ∃ oa c, v = .slice oa xs.length c ∧ xs.length ≤ c ∧ c ≤ 9223372036854775807 ∧ SliceR wrdR 1 All w oa xs := by
  obtain ⟨oa, c, hv, hc, hs⟩ := h.slice wrdR_ok
  refine ⟨oa, c, hv, hc, ?_, hs.all wrdR_ok (by decide)⟩
  obtain ⟨cells, ho, _⟩ := h
  rcases ho.2 with ⟨hn, _⟩ | ⟨g, cap, cur, hn, _, _, _, hm, _⟩
  · rw [hv] at hn; injection hn; omega
  · rw [hv] at hn; injection hn; unfold maxLen at hm; omega
set_option maxRecDepth 100000 in
set_option maxHeartbeats 4000000 in
theorem nplus_any {x y : Nat} {v1 v2 : Value} {w : World} (h1 : NatV w v1 x) (h2 : NatV w v2 y) (hx : Few x) (hy : Few y) : Calls Tryz.prog 119 #[v1, v2] w (NatPost w (x + y)) := by
  obtain ⟨oa, ca, rfl, hca, hcm, hs⟩ := h1
  obtain ⟨ob, cb, rfl, hcb, hcm2, ht⟩ := h2
  have HVX := hide (wds_val x)
  have HVY := hide (wds_val y)
  have HWX := hide (wds_wrd x)
  have HWY := hide (wds_wrd y)
  unfold Few at hx hy
  generalize wds x = l at *
  generalize wds y = m at *
  have HS := hide hs
  have HT := hide ht
  obtain ⟨i0, hi, hz0, hz1, hz2⟩ := info_parts wInfo
  have HI := hide hi
  have HZ0 := hide hz0
  have HZ1 := hide hz1
  have HZ2 := hide hz2
  clear hs ht hi hz0 hz1 hz2
  go_enter Tryz.func119, Tryz.ntmps119
  go_upto_if 13 with fail
  go_cut [0, 1] (fun s0 s1 wx => ∃ (p q : List Nat) (op oq : Option Addr) (cp cq : Nat), s0 = .slice op p.length cp ∧ s1 = .slice oq q.length cq ∧ q.length ≤ p.length ∧ p.length ≤ 1000000 ∧ Hid (Wrd p) ∧ Hid (Wrd q) ∧ Hid (valB BW p + valB BW q = x + y) ∧ Hid (SliceR wrdR 1 All w op p) ∧ Hid (SliceR wrdR 1 All w oq q) ∧ w = wx)
  case first =>
    by_cases hlt : l.length < m.length
    · go_wp2_with fail
      go_meet
      exact ⟨m, l, ob, oa, cb, ca, rfl, rfl, by omega, hy, HWY, HWX, (by show _ = _; rw [HVX.out, HVY.out, Nat.add_comm]), HT, HS, rfl⟩
    · go_wp2_with fail
      go_meet
      exact ⟨l, m, oa, ob, ca, cb, rfl, rfl, by omega, hx, HWX, HWY, (by show _ = _; rw [HVX.out, HVY.out]), HS, HT, rfl⟩
  case rest =>
    obtain ⟨p, q, op, oq, cp, cq, rfl, rfl, hqp, hp, HWP, HWQ, HV, HSP, HSQ, rfl⟩ := hcut
    go_wp2_with (at_make; refine wpList_make_own _ rfl _ _ 100 rfl w.heap.size 131 i0 (.int .u32 0) 1 Tryz.underlying100 HI.out HZ0.out HZ1.out .i64 .i64 _ (p.length + 1) rfl rfl (by simp) (by rw [HZ2.out]; omega) (by unfold maxLen; omega) (Nat.le_refl _) ?_; intro w1 hown hg)
    have HO1 := hide (OwnS.none0 (R := wrdR) (F := Non) hown)
    have HB1 : Hid (Below w.heap.size w w1) := (Below.refl _ _).grown hg (Nat.le_refl _) fun k hk => by cases hk
    clear hown hg
    go_loopg [5, 6, 8, 22] p.length (fun gm ov cv s8 iv wx => ∃ (k c : Nat) (o : List Nat), k ≤ p.length ∧ gm = p.length - k ∧ iv = .int .i64 k ∧ cv = .int .u32 c ∧ c ≤ 1 ∧ Hid (o.length = k) ∧ Hid (Wrd o) ∧ Hid (valB BW o + BW ^ k * c = valB BW (p.take k) + valB BW (q.take k)) ∧ Hid (OwnS wrdR 1 w.heap.size 131 Non wx ov o) ∧ Hid (Below w.heap.size w wx))
    case atStart => exact ⟨0, 0, [], by omega, by omega, rfl, rfl, by omega, rfl, (show Wrd [] from fun d hd => by cases hd), (show _ = _ from by simp [valB]), HO1, HB1⟩
    case round =>
      obtain ⟨k, c, o, hk, hgm, rfl, rfl, hc1, HL, HW, HE, HO, HB⟩ := hrel
      have HGM := hide hgm
      clear hgm
      by_cases hlt : k < p.length
      · obtain ⟨a, _, ha, hab, ba, offa, hoa, _, ca⟩ := (HSP.out.below wrdR_ok HB.out).wrd_at hlt
        subst hoa
        have HA := hide ha
        have ha9 := wrd_get HWP.out ha
        have hw1 : IntKind.u32.wrap ((a : Int) + (c : Int)) = (a : Int) + (c : Int) := by unfold IntKind.wrap; simp [IntKind.signed, IntKind.bits]; omega
        clear ha
        by_cases hlq : k < q.length
        · obtain ⟨b, _, hb, hbb, bb, offb, hob, _, cb⟩ := (HSQ.out.below wrdR_ok HB.out).wrd_at hlq
          subst hob
          have HBQ := hide hb
          have hb9 := wrd_get HWQ.out hb
          clear hb
          obtain ⟨t, ht⟩ : ∃ t : Nat, t = a + c + b := ⟨_, rfl⟩
          have E1 : Hid ((a : Int) + (c : Int) + (b : Int) = (t : Int)) := by show _ = _; omega
          have ht2 : t < 2000000000 := by omega
          have HE2 : Hid (valB BW (o ++ [t % BW]) + BW ^ (k + 1) * (t / BW) = valB BW (p.take (k + 1)) + valB BW (q.take (k + 1))) := add_step HL.out HE.out (by rw [List.getD_eq_getElem?_getD, List.getD_eq_getElem?_getD, HA.out, HBQ.out]; exact ht)
          clear ht
          go_upto_region 12 with fail
          rw [E1.out]
          clear hw1
          have HT2 : Hid ((t : Int) % 1000000000 = ((t % 1000000000 : Nat) : Int)) := by show _ = _; omega
          have HT3 : Hid (t % 1000000000 < 4294967296) := by show _ < _; omega
          go_wp2_with (at_builtin; refine wpList_append_rep rfl (.tmp 42) (.tmp 45) 100 rfl w.heap.size 131 _ 1 4 Tryz.underlying100 wInfo rfl (by decide) wrdR_ok Non All u5 o (by simp [Act.eval, Act.put]) (HO.out.new wrdR_ok _) (some ⟨wr.heap.size, 0, none⟩) 1 [t % 1000000000] (by simp [Act.eval, Act.put]) (wrdl wr 131 _ (t % 1000000000) HT2.out HT3.out) (fun _ _ h => h) (fun _ h => h.elim) (by have := HL.out; simp; omega) (by have := HL.out; simp; omega) (by have := HB.out.size; simp; omega) ?_; intro v' w2 ho2 hb2 hg2; have HO2 := hide ho2; have HB2 := hide hb2; clear ho2 hb2 hg2)
          go_roundg (p.length - (k + 1))
          case rel => exact ⟨k + 1, t / 1000000000, o ++ [t % 1000000000], by omega, rfl, by go_num, by rfl, by omega, (show _ = _ from by rw [List.length_append, HL.out]; rfl), (show Wrd _ from wrd_snoc HW.out (by omega)), HE2, HO2, (HB.out.alloc HB.out.size _).trans HB2.out⟩
          case measure => rw [HGM.out]; omega
        · obtain ⟨t, ht⟩ : ∃ t : Nat, t = a + c := ⟨_, rfl⟩
          have hlq2 : q[k]? = none := List.getElem?_eq_none (by omega)
          have E1 : Hid ((a : Int) + (c : Int) = (t : Int)) := by show _ = _; omega
          have ht2 : t < 2000000000 := by omega
          have HE2 : Hid (valB BW (o ++ [t % BW]) + BW ^ (k + 1) * (t / BW) = valB BW (p.take (k + 1)) + valB BW (q.take (k + 1))) := add_step HL.out HE.out (by rw [List.getD_eq_getElem?_getD, List.getD_eq_getElem?_getD, HA.out, hlq2]; exact ht)
          clear ht hlq2
          go_upto_region 12 with fail
          rw [E1.out]
          clear hw1
          have HT2 : Hid ((t : Int) % 1000000000 = ((t % 1000000000 : Nat) : Int)) := by show _ = _; omega
          have HT3 : Hid (t % 1000000000 < 4294967296) := by show _ < _; omega
          go_wp2_with (at_builtin; refine wpList_append_rep rfl (.tmp 42) (.tmp 45) 100 rfl w.heap.size 131 _ 1 4 Tryz.underlying100 wInfo rfl (by decide) wrdR_ok Non All u5 o (by simp [Act.eval, Act.put]) (HO.out.new wrdR_ok _) (some ⟨wr.heap.size, 0, none⟩) 1 [t % 1000000000] (by simp [Act.eval, Act.put]) (wrdl wr 131 _ (t % 1000000000) HT2.out HT3.out) (fun _ _ h => h) (fun _ h => h.elim) (by have := HL.out; simp; omega) (by have := HL.out; simp; omega) (by have := HB.out.size; simp; omega) ?_; intro v' w2 ho2 hb2 hg2; have HO2 := hide ho2; have HB2 := hide hb2; clear ho2 hb2 hg2)
          go_roundg (p.length - (k + 1))
          case rel => exact ⟨k + 1, t / 1000000000, o ++ [t % 1000000000], by omega, rfl, by go_num, by rfl, by omega, (show _ = _ from by rw [List.length_append, HL.out]; rfl), (show Wrd _ from wrd_snoc HW.out (by omega)), HE2, HO2, (HB.out.alloc HB.out.size _).trans HB2.out⟩
          case measure => rw [HGM.out]; omega
      · have HK : Hid (k = p.length) := by show _ = _; omega
        have HP1 : Hid (valB BW (p.take k) = valB BW p) := by show _ = _; rw [List.take_of_length_le (by omega)]
        have HP2 : Hid (valB BW (q.take k) = valB BW q) := by show _ = _; rw [List.take_of_length_le (by omega)]
        have HC1 : Hid ((c : Int) = ((c : Nat) : Int)) := rfl
        go_wp2_with (first
          | (at_builtin; refine wpList_append_rep rfl (.tmp 48) (.tmp 50) 100 rfl w.heap.size 131 _ 1 4 Tryz.underlying100 wInfo rfl (by decide) wrdR_ok Non All u5 o (by simp [Act.eval, Act.put]) (HO.out.new wrdR_ok _) (some ⟨wr.heap.size, 0, none⟩) 1 [c] (by simp [Act.eval, Act.put]) (wrdl wr 131 _ c HC1.out (by omega)) (fun _ _ h => h) (fun _ h => h.elim) (by have := HL.out; simp; omega) (by have := HL.out; simp; omega) (by have := HB.out.size; simp; omega) ?_; intro v' w2 ho2 hb2 hg2; obtain ⟨L, hL⟩ : ∃ L, L = o ++ [c] := ⟨_, rfl⟩; rw [← hL] at ho2; obtain ⟨o3, c3, hv3, hc3, hm3, hs3⟩ := own_words ho2; have HLL := hide hL; clear hL; subst hv3; have HO2 := hide hs3; have HB2 := hide hb2; clear ho2 hb2 hg2 hs3)
          | (go_at_call 111; refine (trimmed_any L o3 c3 All _ HO2.out hc3 hm3).mono ?_; rintro e w5 ⟨rfl, rfl⟩))
        go_ret
        refine ⟨_, rfl, NatV.cut HO2.out (by rw [HLL.out]; exact wrd_snoc HW.out (by omega)) hc3 hm3 ?_, (HB.out.alloc HB.out.size _).trans HB2.out⟩
        rw [HLL.out, valB_snoc, HL.out, HE.out, HP1.out, HP2.out, HV.out]
end Go.Proofs.YthpknfoahimopaaGreatDoor

set_option linter.unusedVariables false
set_option linter.unusedSimpArgs false
set_option linter.unnecessarySimpa false
namespace Go.Proofs.YthpknfoahimopaaGreatDoor
open Go.RowKit

set_option maxRecDepth 100000 in
set_option maxHeartbeats 4000000 in
theorem nless_any {x y : Nat} {v1 v2 : Value} {w : World} (h1 : NatV w v1 x) (h2 : NatV w v2 y) (hx : Few x) (hy : Few y) (hyx : y ≤ x) : Calls Tryz.prog 120 #[v1, v2] w (NatPost w (x - y)) := by
  obtain ⟨oa, ca, rfl, hca, hcm, hs⟩ := h1
  obtain ⟨ob, cb, rfl, hcb, hcm2, ht⟩ := h2
  have HLQ : Hid ((wds y).length ≤ (wds x).length) := by
    rcases Nat.lt_or_ge (wds x).length (wds y).length with h | h
    · have := valB_len BW2 (wds_wrd x) (wds_wrd y) (wds_cut y) h
      rw [wds_val, wds_val] at this
      omega
    · exact h
  have HVX := hide (wds_val x)
  have HVY := hide (wds_val y)
  have HWP := hide (wds_wrd x)
  have HWQ := hide (wds_wrd y)
  unfold Few at hx hy
  generalize wds x = p at *
  generalize wds y = q at *
  have HSP := hide hs
  have HSQ := hide ht
  clear hs ht
  go_enter Tryz.func120, Tryz.ntmps120
  go_wp2_with (at_make; refine wpList_make_row _ rfl _ _ 100 rfl 131 0 4 Tryz.underlying100 (f := u32V) wInfo rfl .i64 .i64 _ _ p.length rfl rfl rfl rfl (by omega) (by unfold maxLen; omega) (fun w1 hrow hb1 hg1 => ?_); have HR1 := hide hrow; have HB1 := hide hb1; clear hrow hb1 hg1)
  go_loopg [6, 7, 8, 14] p.length (fun gm cv s7 s8 iv wx => ∃ (k c : Nat) (o : List Nat), k ≤ p.length ∧ gm = p.length - k ∧ iv = .int .i64 k ∧ cv = .int .i64 c ∧ c ≤ 1 ∧ Hid (o.length = k) ∧ Hid (Wrd o) ∧ Hid (valB BW o + valB BW (q.take k) = valB BW (p.take k) + BW ^ k * c) ∧ Hid (Row1 u32V wx w.heap.size 131 (o ++ List.replicate (p.length - k) 0) []) ∧ Hid (Below w.heap.size w wx))
  case atStart => exact ⟨0, 0, [], by omega, by omega, rfl, rfl, by omega, rfl, (show Wrd [] from fun d hd => by cases hd), (show _ = _ from by simp [valB]), HR1, HB1⟩
  case round =>
    obtain ⟨k, c, o, hk, hgm, rfl, rfl, hc1, HL, HW, HE, HR, HB⟩ := hrel
    have HGM := hide hgm
    clear hgm
    by_cases hlt : k < p.length
    · obtain ⟨a, _, ha, hab, ba, offa, hoa, _, ca⟩ := (HSP.out.below wrdR_ok HB.out).wrd_at hlt
      subst hoa
      have HA := hide ha
      have ha9 := wrd_get HWP.out ha
      have l1 : wr.cell? ⟨w.heap.size, k, none⟩ = some (.int .u32 0) := HR.out.cell (fill_at o HL.out hlt)
      have fz := HR.out.free k
      have hkl : k < (o ++ List.replicate (p.length - k) 0).length := by have := HL.out; rw [List.length_append, List.length_replicate]; omega
      clear ha
      by_cases hlq : k < q.length
      · obtain ⟨b, _, hb, hbb, bb, offb, hob, _, cb⟩ := (HSQ.out.below wrdR_ok HB.out).wrd_at hlq
        subst hob
        have HBQ := hide hb
        have hb9 := wrd_get HWQ.out hb
        clear hb
        by_cases hn : (a : Int) - (c : Int) - (b : Int) < 0
        · obtain ⟨d, hd⟩ : ∃ d : Nat, d = a + 1000000000 - c - b := ⟨_, rfl⟩
          have E1 : Hid ((a : Int) - (c : Int) - (b : Int) + 1000000000 = (d : Int)) := by show _ = _; omega
          have hd9 : d < 1000000000 := by omega
          have HE2 : Hid (valB BW (o ++ [d]) + valB BW (q.take (k + 1)) = valB BW (p.take (k + 1)) + BW ^ (k + 1) * 1) := sub_step HL.out HE.out (by rw [List.getD_eq_getElem?_getD, List.getD_eq_getElem?_getD, HA.out, HBQ.out]; show d + b + c = a + 1000000000 * 1; omega)
          clear hd
          go_wp2_with fail
          rw [E1.out]
          go_roundg (p.length - (k + 1))
          case rel => exact ⟨k + 1, 1, o ++ [d], by omega, rfl, by go_num, by rfl, by omega, (show _ = _ from by rw [List.length_append, HL.out]; rfl), (show Wrd _ from wrd_snoc HW.out hd9), HE2, (show Row1 _ _ _ _ _ _ from by rw [← fill_set o d HL.out hlt]; exact HR.out.put hkl d), HB.out.setCell (Nat.le_refl _) _⟩
          case measure => rw [HGM.out]; omega
        · obtain ⟨d, hd⟩ : ∃ d : Nat, d = a - c - b := ⟨_, rfl⟩
          have E1 : Hid ((a : Int) - (c : Int) - (b : Int) = (d : Int)) := by show _ = _; omega
          have hd9 : d < 1000000000 := by omega
          have HE2 : Hid (valB BW (o ++ [d]) + valB BW (q.take (k + 1)) = valB BW (p.take (k + 1)) + BW ^ (k + 1) * 0) := sub_step HL.out HE.out (by rw [List.getD_eq_getElem?_getD, List.getD_eq_getElem?_getD, HA.out, HBQ.out]; show d + b + c = a + 1000000000 * 0; omega)
          clear hd
          go_wp2_with fail
          rw [E1.out]
          go_roundg (p.length - (k + 1))
          case rel => exact ⟨k + 1, 0, o ++ [d], by omega, rfl, by go_num, by rfl, by omega, (show _ = _ from by rw [List.length_append, HL.out]; rfl), (show Wrd _ from wrd_snoc HW.out hd9), HE2, (show Row1 _ _ _ _ _ _ from by rw [← fill_set o d HL.out hlt]; exact HR.out.put hkl d), HB.out.setCell (Nat.le_refl _) _⟩
          case measure => rw [HGM.out]; omega
      · have HBQ : Hid (q[k]? = none) := List.getElem?_eq_none (by omega)
        by_cases hn : (a : Int) - (c : Int) < 0
        · obtain ⟨d, hd⟩ : ∃ d : Nat, d = a + 1000000000 - c - 0 := ⟨_, rfl⟩
          have E1 : Hid ((a : Int) - (c : Int) + 1000000000 = (d : Int)) := by show _ = _; omega
          have hd9 : d < 1000000000 := by omega
          have HE2 : Hid (valB BW (o ++ [d]) + valB BW (q.take (k + 1)) = valB BW (p.take (k + 1)) + BW ^ (k + 1) * 1) := sub_step HL.out HE.out (by rw [List.getD_eq_getElem?_getD, List.getD_eq_getElem?_getD, HA.out, HBQ.out]; show d + 0 + c = a + 1000000000 * 1; omega)
          clear hd
          go_wp2_with fail
          rw [E1.out]
          go_roundg (p.length - (k + 1))
          case rel => exact ⟨k + 1, 1, o ++ [d], by omega, rfl, by go_num, by rfl, by omega, (show _ = _ from by rw [List.length_append, HL.out]; rfl), (show Wrd _ from wrd_snoc HW.out hd9), HE2, (show Row1 _ _ _ _ _ _ from by rw [← fill_set o d HL.out hlt]; exact HR.out.put hkl d), HB.out.setCell (Nat.le_refl _) _⟩
          case measure => rw [HGM.out]; omega
        · obtain ⟨d, hd⟩ : ∃ d : Nat, d = a - c - 0 := ⟨_, rfl⟩
          have E1 : Hid ((a : Int) - (c : Int) = (d : Int)) := by show _ = _; omega
          have hd9 : d < 1000000000 := by omega
          have HE2 : Hid (valB BW (o ++ [d]) + valB BW (q.take (k + 1)) = valB BW (p.take (k + 1)) + BW ^ (k + 1) * 0) := sub_step HL.out HE.out (by rw [List.getD_eq_getElem?_getD, List.getD_eq_getElem?_getD, HA.out, HBQ.out]; show d + 0 + c = a + 1000000000 * 0; omega)
          clear hd
          go_wp2_with fail
          rw [E1.out]
          go_roundg (p.length - (k + 1))
          case rel => exact ⟨k + 1, 0, o ++ [d], by omega, rfl, by go_num, by rfl, by omega, (show _ = _ from by rw [List.length_append, HL.out]; rfl), (show Wrd _ from wrd_snoc HW.out hd9), HE2, (show Row1 _ _ _ _ _ _ from by rw [← fill_set o d HL.out hlt]; exact HR.out.put hkl d), HB.out.setCell (Nat.le_refl _) _⟩
          case measure => rw [HGM.out]; omega
    · have HK : Hid (k = p.length) := by show _ = _; omega
      have HP1 : Hid (valB BW (p.take k) = valB BW p) := by show _ = _; rw [List.take_of_length_le (by omega)]
      have HP2 : Hid (valB BW (q.take k) = valB BW q) := by have := HLQ.out; show _ = _; rw [List.take_of_length_le (by omega)]
      have HR2 : Hid (Row1 u32V wr w.heap.size 131 o []) := by
        have h5 := HR.out
        rw [show p.length - k = 0 from by omega, List.replicate_zero, List.append_nil] at h5
        exact h5
      have HOL : Hid (p.length = o.length) := by show _ = _; rw [HL.out, HK.out]
      have HS2 := hide (HR2.out.wrds (F := All) (fun d hd => by have := HW.out d hd; omega) trivial)
      have HTR : Hid (Calls Tryz.prog 111 #[.slice (some ⟨w.heap.size, 0, none⟩) p.length p.length] wr fun e w' => e = .returned (.slice (some ⟨w.heap.size, 0, none⟩) (cutB o).length p.length) ∧ wr = w') := by
        have h5 := trimmed_any o (some ⟨w.heap.size, 0, none⟩) p.length All wr HS2.out (by rw [HOL.out]; exact Nat.le_refl _) (by omega)
        rw [← HOL.out] at h5
        exact h5
      go_wp2_with (go_at_call 111; refine HTR.out.mono ?_; rintro e w5 ⟨rfl, rfl⟩)
      go_ret
      refine ⟨_, rfl, NatV.cut HS2.out HW.out (by rw [HOL.out]; exact Nat.le_refl _) (by omega) ?_, HB.out⟩
      have h6 := HE.out
      rw [HP1.out, HP2.out, HVX.out, HVY.out] at h6
      have h7 := sub_end (b := BW) (n := k) (x := p) (y := q) HL.out HW.out (by rw [HVX.out, HVY.out]; exact h6) (by rw [HVX.out, HVY.out]; exact hyx)
      rw [h7.2, HVX.out, HVY.out]
end Go.Proofs.YthpknfoahimopaaGreatDoor

set_option linter.unusedVariables false
set_option linter.unusedSimpArgs false
set_option linter.unnecessarySimpa false
namespace Go.Proofs.YthpknfoahimopaaGreatDoor
open Go.RowKit

theorem mul_bound {a b : Nat} (ha : a < 1000000000) (hb : b < 1000000000) : (0 : Int) ≤ (a : Int) * (b : Int) ∧ (a : Int) * (b : Int) ≤ 999999998000000001 := by
  have h : a * b ≤ 999999999 * 999999999 := Nat.mul_le_mul (by omega) (by omega)
  have h2 : (a : Int) * (b : Int) = ((a * b : Nat) : Int) := by push_cast; rfl
  rw [h2]
  omega
set_option maxRecDepth 100000 in
set_option maxHeartbeats 4000000 in
theorem ntimes_any {x y : Nat} {v1 v2 : Value} {w : World} (h1 : NatV w v1 x) (h2 : NatV w v2 y) (hx : Few x) (hy : Few y) : Calls Tryz.prog 113 #[v1, v2] w (NatPost w (x * y)) := by
  obtain ⟨oa, ca, rfl, hca, hcm, hs⟩ := h1
  obtain ⟨ob, cb, rfl, hcb, hcm2, ht⟩ := h2
  have HVX := hide (wds_val x)
  have HVY := hide (wds_val y)
  have HWP := hide (wds_wrd x)
  have HWQ := hide (wds_wrd y)
  unfold Few at hx hy
  generalize wds x = p at *
  generalize wds y = q at *
  have HSP := hide hs
  have HSQ := hide ht
  clear hs ht
  go_enter Tryz.func113, Tryz.ntmps113
  go_wp2_with (at_make; refine wpList_make_row _ rfl _ _ 100 rfl 131 0 4 Tryz.underlying100 (f := u32V) wInfo rfl .i64 .i64 _ _ (p.length + q.length) rfl rfl (by push_cast; rfl) (by push_cast; rfl) (by omega) (by unfold maxLen; omega) (fun w1 hrow hb1 hg1 => ?_); have HR1 := hide hrow; have HB1 := hide hb1; clear hrow hb1 hg1)
  go_loopg [20] p.length (fun gm iv wx => ∃ (i : Nat) (L : List Nat), i ≤ p.length ∧ gm = p.length - i ∧ iv = .int .i64 i ∧ Hid (L.length = p.length + q.length) ∧ Hid (Wrd L) ∧ Hid (valB BW L = valB BW (p.take i) * valB BW q) ∧ Hid (∀ j, i + q.length ≤ j → j < p.length + q.length → L[j]? = some 0) ∧ Hid (Row1 u32V wx w.heap.size 131 L []) ∧ Hid (Below w.heap.size w wx))
  case atStart => exact ⟨0, List.replicate (p.length + q.length) 0, by omega, by omega, rfl, (show _ = _ from List.length_replicate), (show Wrd _ from wrd_zeros _), (show _ = _ from by rw [valB_replicate]; simp [valB]), fun j _ hj => by rw [List.getElem?_replicate, if_pos hj], HR1, HB1⟩
  case round =>
    obtain ⟨i, L, hi, hgm, rfl, HL, HW, HE, HZ, HR, HB⟩ := hrel
    have HGM := hide hgm
    clear hgm
    by_cases hlt : i < p.length
    · obtain ⟨a, _, ha, hab, ba, offa, hoa, _, ca⟩ := (HSP.out.below wrdR_ok HB.out).wrd_at hlt
      subst hoa
      have HA := hide ha
      have ha9 := wrd_get HWP.out ha
      clear ha
      go_wp2_with fail
      go_loopg [8, 27] q.length (fun gm cv kv wx => ∃ (k c : Nat) (L2 : List Nat), k ≤ q.length ∧ gm = q.length - k ∧ kv = .int .i64 k ∧ cv = .int .u64 c ∧ c < 1000000000 ∧ Hid (L2.length = p.length + q.length) ∧ Hid (Wrd L2) ∧ Hid (valB BW L2 + BW ^ (i + k) * c = valB BW L + a * (BW ^ i * valB BW (q.take k))) ∧ Hid (∀ j, i + q.length ≤ j → j < p.length + q.length → L2[j]? = some 0) ∧ Hid (Row1 u32V wx w.heap.size 131 L2 []) ∧ Hid (Below w.heap.size w wx))
      case atStart => exact ⟨0, 0, L, by omega, by omega, rfl, rfl, by omega, HL, HW, (show _ = _ from by simp [valB]), HZ, HR, HB⟩
      case round =>
        clear ca
        obtain ⟨k, c, L2, hk, hgm, rfl, rfl, hc9, HL2, HW2, HE2, HZ2, HR2, HB2⟩ := hrel
        have HGM2 := hide hgm
        clear hgm
        by_cases hlt2 : k < q.length
        · obtain ⟨b, _, hb, hbb, bb, offb, hob, _, cb⟩ := (HSQ.out.below wrdR_ok HB2.out).wrd_at hlt2
          subst hob
          have HBQ := hide hb
          have hb9 := wrd_get HWQ.out hb
          have hjl : i + k < L2.length := by have := HL2.out; omega
          obtain ⟨t, ht⟩ : ∃ t, L2[i + k]? = some t := ⟨_, List.getElem?_eq_getElem hjl⟩
          have ht9 := wrd_get HW2.out ht
          have l1 : wr.cell? ⟨w.heap.size, i + k, none⟩ = some (.int .u32 (t : Int)) := HR2.out.cell ht
          have fz := HR2.out.free (i + k)
          have hm1 := mul_bound ha9 hb9
          obtain ⟨W, hW⟩ : ∃ W : Nat, W = t + a * b + c := ⟨_, rfl⟩
          have E1 : Hid ((t : Int) + (a : Int) * (b : Int) + (c : Int) = (W : Int)) := by show _ = _; rw [hW]; push_cast; rfl
          have hWc : W / BW < BW := mul_carry BW0 ht9 ha9 hb9 hc9 hW
          have HE3 : Hid (valB BW (L2.set (i + k) (W % BW)) + BW ^ (i + k + 1) * (W / BW) = valB BW L + a * (BW ^ i * valB BW (q.take (k + 1)))) := mul_step rfl ht HE2.out (by rw [List.getD_eq_getElem?_getD, HBQ.out]; exact hW)
          have hWb : W < 2000000000000000000 := by
            have e5 : (W : Int) = (t : Int) + (a : Int) * (b : Int) + (c : Int) := E1.out.symm
            omega
          have HJL := hide hjl
          clear hb ht hW hjl
          go_upto_region 10 with fail
          rw [E1.out]
          clear hm1
          have HT2 : Hid ((W : Int) % 1000000000 = ((W % 1000000000 : Nat) : Int)) := by show _ = _; omega
          go_wp2_with fail
          rw [HT2.out]
          go_roundg (q.length - (k + 1))
          case rel =>
            refine ⟨k + 1, W / 1000000000, L2.set (i + k) (W % 1000000000), by omega, rfl, by go_num, by rfl, hWc, (show _ = _ from by rw [List.length_set, HL2.out]), (show Wrd _ from wrd_set HW2.out _ (Nat.mod_lt _ (by omega))), HE3, ?_, HR2.out.put HJL.out (W % 1000000000), HB2.out.setCell (Nat.le_refl _) _⟩
            intro j h1 h2
            rw [List.getElem?_set_ne (by omega)]
            exact HZ2.out j h1 h2
          case measure => rw [HGM2.out]; omega
        · have HKQ : Hid (k = q.length) := by show _ = _; omega
          have hjl : i + q.length < L2.length := by have := HL2.out; omega
          have HJ0 := hide (HZ2.out (i + q.length) (Nat.le_refl _) (by omega))
          have l1 : wr.cell? ⟨w.heap.size, i + q.length, none⟩ = some (.int .u32 0) := HR2.out.cell HJ0.out
          have fz := HR2.out.free (i + q.length)
          have HJL := hide hjl
          have HE3 : Hid (valB BW (L2.set (i + q.length) c) = valB BW (p.take (i + 1)) * valB BW q) := by
            have h5 := valB_set BW c HJ0.out
            have h6 := HE2.out
            rw [HKQ.out, List.take_length] at h6
            show _ = _
            rw [Nat.mul_zero, Nat.add_zero] at h5
            rw [h5, h6, HE.out, valB_take_succ BW HA.out, Nat.add_mul, Nat.mul_comm (BW ^ i) a, Nat.mul_assoc]
          clear hjl
          go_wp2_with fail
          go_roundg (p.length - (i + 1))
          case rel =>
            refine ⟨i + 1, L2.set (i + q.length) c, by omega, rfl, by go_num, (show _ = _ from by rw [List.length_set, HL2.out]), (show Wrd _ from wrd_set HW2.out _ hc9), HE3, ?_, HR2.out.put HJL.out c, HB2.out.setCell (Nat.le_refl _) _⟩
            intro j h1 h2
            rw [List.getElem?_set_ne (by omega)]
            exact HZ2.out j (by omega) h2
          case measure => rw [HGM.out]; omega
    · have HP1 : Hid (valB BW (p.take i) = valB BW p) := by show _ = _; rw [List.take_of_length_le (by omega)]
      have HS2 := hide (HR.out.wrds (F := All) (fun d hd => by have := HW.out d hd; omega) trivial)
      have HTR : Hid (Calls Tryz.prog 111 #[.slice (some ⟨w.heap.size, 0, none⟩) (p.length + q.length) (p.length + q.length)] wr fun e w' => e = .returned (.slice (some ⟨w.heap.size, 0, none⟩) (cutB L).length (p.length + q.length)) ∧ wr = w') := by
        have h5 := trimmed_any L (some ⟨w.heap.size, 0, none⟩) (p.length + q.length) All wr HS2.out (by rw [HL.out]; exact Nat.le_refl _) (by omega)
        rw [HL.out] at h5
        exact h5
      go_wp2_with (go_at_call 111; refine HTR.out.mono ?_; rintro e w5 ⟨rfl, rfl⟩)
      go_ret
      refine ⟨_, rfl, NatV.cut HS2.out HW.out (by rw [HL.out]; exact Nat.le_refl _) (by omega) ?_, HB.out⟩
      rw [HE.out, HP1.out, HVX.out, HVY.out]
end Go.Proofs.YthpknfoahimopaaGreatDoor

set_option linter.unusedVariables false
set_option linter.unusedSimpArgs false
set_option linter.unnecessarySimpa false
namespace Go.Proofs.YthpknfoahimopaaGreatDoor
open Go.RowKit

theorem div_bound {W d B : Nat} (hd : 0 < d) (h : W < B * d) : (0 : Int) ≤ (W : Int) / (d : Int) ∧ (W : Int) / (d : Int) < (B : Int) ∧ (0 : Int) ≤ (W : Int) % (d : Int) ∧ (W : Int) % (d : Int) < (d : Int) := by
  have h1 : W / d < B := Nat.div_lt_of_lt_mul (by rw [Nat.mul_comm]; exact h)
  have h2 : W % d < d := Nat.mod_lt _ hd
  have e1 : (W : Int) / (d : Int) = ((W / d : Nat) : Int) := rfl
  have e2 : (W : Int) % (d : Int) = ((W % d : Nat) : Int) := rfl
  rw [e1, e2]
  exact ⟨Int.natCast_nonneg _, Int.ofNat_lt.2 h1, Int.natCast_nonneg _, Int.ofNat_lt.2 h2⟩
theorem set_drop {L : List Nat} {j : Nat} (h : j < L.length) (v : Nat) : (L.set j v).drop j = v :: L.drop (j + 1) := by
  rw [List.drop_eq_getElem_cons (by rw [List.length_set]; exact h), List.getElem_set_self, List.drop_set_of_lt (by omega)]
set_option maxRecDepth 100000 in
set_option maxHeartbeats 4000000 in
theorem nshort_any {x d : Nat} {v1 : Value} {w : World} (h1 : NatV w v1 x) (hx : Few x) (hd0 : 0 < d) (hd9 : d < 1000000000) : Calls Tryz.prog 128 #[v1, .int .u32 d] w (NatPost2 w (x / d) (x % d)) := by
  obtain ⟨oa, ca, rfl, hca, hcm, hs⟩ := h1
  have HVX := hide (wds_val x)
  have HWP := hide (wds_wrd x)
  unfold Few at hx
  generalize wds x = p at *
  have HSP := hide hs
  clear hs
  go_enter Tryz.func128, Tryz.ntmps128
  go_wp2_with (at_make; refine wpList_make_row _ rfl _ _ 100 rfl 131 0 4 Tryz.underlying100 (f := u32V) wInfo rfl .i64 .i64 _ _ p.length rfl rfl rfl rfl (by omega) (by unfold maxLen; omega) (fun w1 hrow hb1 hg1 => ?_); have HR1 := hide hrow; have HB1 := hide hb1; clear hrow hb1 hg1)
  go_loopg [7, 8, 9] p.length (fun gm rv iv s9 wx => ∃ (k r : Nat) (L : List Nat), k ≤ p.length ∧ gm = k ∧ iv = .int .i64 ((k : Int) - 1) ∧ rv = .int .u64 r ∧ r < d ∧ Hid (L.length = p.length) ∧ Hid (Wrd L) ∧ Hid (valB BW (L.drop k) * d + r = valB BW (p.drop k)) ∧ Hid (Row1 u32V wx w.heap.size 131 L []) ∧ Hid (Below w.heap.size w wx))
  case atStart => exact ⟨p.length, 0, List.replicate p.length 0, by omega, rfl, rfl, rfl, hd0, (show _ = _ from List.length_replicate), (show Wrd _ from wrd_zeros _), (show _ = _ from by rw [List.drop_of_length_le (by rw [List.length_replicate]; exact Nat.le_refl _), List.drop_length]; simp [valB]), HR1, HB1⟩
  case round =>
    obtain ⟨k, r, L, hk, hgm, rfl, rfl, hr, HL, HW, HE, HR, HB⟩ := hrel
    have HGM := hide hgm
    clear hgm
    rcases Nat.eq_zero_or_pos k with hk0 | hk0
    · subst hk0
      have q1 : decide ((0 : Int) ≤ ((0 : Nat) : Int) - 1) = false := by simp
      have HS2 := hide (HR.out.wrds (F := All) (fun d hd => by have := HW.out d hd; omega) trivial)
      have HE1 : Hid (valB BW L = x / d ∧ r = x % d) := by
        have h5 := HE.out
        rw [List.drop_zero, List.drop_zero, HVX.out] at h5
        have h6 := quo_of (U := x) (V := d) (q := valB BW L) (by omega) (by rw [Nat.add_mul]; omega)
        exact ⟨h6.1, by rw [← h6.2]; omega⟩
      have HTR : Hid (Calls Tryz.prog 111 #[.slice (some ⟨w.heap.size, 0, none⟩) p.length p.length] wr fun e w' => e = .returned (.slice (some ⟨w.heap.size, 0, none⟩) (cutB L).length p.length) ∧ wr = w') := by
        have h5 := trimmed_any L (some ⟨w.heap.size, 0, none⟩) p.length All wr HS2.out (by rw [HL.out]; exact Nat.le_refl _) (by omega)
        rw [HL.out] at h5
        exact h5
      have HS3 := hide (wrdl wr 131 (r : Int) r rfl (by omega))
      have HTR2 : Hid (Calls Tryz.prog 111 #[.slice (some ⟨wr.heap.size, 0, none⟩) 1 1] (wr.alloc (.cells #[.int .u32 (r : Int)] 131)) fun e w' => e = .returned (.slice (some ⟨wr.heap.size, 0, none⟩) (cutB [r]).length 1) ∧ (wr.alloc (.cells #[.int .u32 (r : Int)] 131)) = w') := trimmed_any [r] (some ⟨wr.heap.size, 0, none⟩) 1 All _ HS3.out (by simp) (by omega)
      go_wp2_with (first | (go_at_call 111; (with_reducible refine HTR.out.mono ?_); rintro e w5 ⟨rfl, rfl⟩) | (go_at_call 111; (with_reducible refine HTR2.out.mono ?_); rintro e w5 ⟨rfl, rfl⟩))
      go_ret2
      have hbn : Below wr.heap.size wr (wr.alloc (.cells #[.int .u32 (r : Int)] 131)) := bnew (Below.refl _ _) _
      exact ⟨_, _, rfl, (NatV.cut HS2.out HW.out (by rw [HL.out]; exact Nat.le_refl _) (by omega) HE1.out.1).below hbn, NatV.cut HS3.out (fun y hy => by simp at hy; omega) (by simp) (by omega) (by rw [← HE1.out.2]; simp [valB]), HB.out.trans (hbn.mono HB.out.size)⟩
    · obtain ⟨j, rfl⟩ : ∃ j, k = j + 1 := ⟨k - 1, by omega⟩
      have hj : j < p.length := by omega
      obtain ⟨a, _, ha, hab, ba, offa, hoa, _, ca⟩ := (HSP.out.below wrdR_ok HB.out).wrd_at hj
      subst hoa
      have ha9 := wrd_get HWP.out ha
      have hjl : j < L.length := by rw [HL.out]; exact hj
      obtain ⟨t, ht⟩ : ∃ t, L[j]? = some t := ⟨_, List.getElem?_eq_getElem hjl⟩
      have l1 : wr.cell? ⟨w.heap.size, j, none⟩ = some (.int .u32 (t : Int)) := HR.out.cell ht
      have fz := HR.out.free j
      have e1 : (((j + 1 : Nat) : Int) - 1) = (j : Int) := by omega
      rw [e1]
      obtain ⟨W, hW⟩ : ∃ W : Nat, W = r * 1000000000 + a := ⟨_, rfl⟩
      have E1 : Hid ((r : Int) * 1000000000 + (a : Int) = (W : Int)) := by show _ = _; omega
      have hqw := quo_word (b := 1000000000) hd0 hr ha9
      rw [← hW] at hqw
      have hWd : W < 1000000000 * d := by
        have := Nat.div_add_mod W d
        have h5 : d * (W / d) ≤ d * 999999999 := Nat.mul_le_mul_left _ (by omega)
        omega
      obtain ⟨b1, b2, b3, b4⟩ := div_bound hd0 hWd
      have b2 : (W : Int) / (d : Int) < 1000000000 := b2
      have HQ1 := hide hqw.1
      have HQ2 := hide hqw.2
      have HE3 : Hid (valB BW ((L.set j (W / d)).drop j) * d + W % d = valB BW (p.drop j)) := by
        show _ = _
        rw [set_drop hjl]
        exact short_step ha hW HE.out
      have HJL := hide hjl
      have hWb : W < 1000000000000000000 := by omega
      have q1 : decide ((0 : Int) ≤ (j : Int)) = true := by simp
      clear ha ht hW hjl hqw hWd e1
      go_upto_region 7 with fail
      rw [E1.out]
      go_wp2_with fail
      go_roundg j
      case rel => exact ⟨j, W % d, L.set j (W / d), by omega, rfl, by go_num, by rfl, HQ2.out, (show _ = _ from by rw [List.length_set, HL.out]), (show Wrd _ from wrd_set HW.out _ HQ1.out), HE3, HR.out.put HJL.out (W / d), HB.out.setCell (Nat.le_refl _) _⟩
      case measure => rw [HGM.out]; omega
end Go.Proofs.YthpknfoahimopaaGreatDoor

set_option linter.unusedVariables false
set_option linter.unusedSimpArgs false
namespace Go.Proofs.YthpknfoahimopaaGreatDoor

/-- The first words of both numbers. -/
structure Gss (b n V U v1 v2 u0 u1 u2 : Nat) : Prop where
  b2 : 2 ≤ b
  v1p : 0 < v1
  v2b : v2 < b
  hV : (v1 * b + v2) * b ^ n ≤ V
  hV1 : V < (v1 * b + v2 + 1) * b ^ n
  hU : ((u0 * b + u1) * b + u2) * b ^ n ≤ U
  hU1 : U < ((u0 * b + u1) * b + u2 + 1) * b ^ n
  u2b : u2 < b
  lt : U < b * V
theorem val_two {b : Nat} {l : List Nat} {n x y : Nat} (hl : l.length = n + 2) (hx : l[n + 1]? = some x) (hy : l[n]? = some y) (hd : ∀ d ∈ l, d < b) : (x * b + y) * b ^ n ≤ valB b l ∧ valB b l < (x * b + y + 1) * b ^ n := by
  have h1 := valB_split b l n (by omega)
  have h2 : valB b (l.drop n) = y + b * x := by
    rw [valB_drop b hy, valB_drop b hx, List.drop_of_length_le (by omega)]
    simp [valB]
  have h3 := valB_lt (b := b) (l := l.take n) fun d h => hd d (List.mem_of_mem_take h)
  rw [List.length_take, Nat.min_eq_left (by omega)] at h3
  rw [h2] at h1
  have e : (x * b + y) * b ^ n = b ^ n * (y + b * x) := by rw [Nat.mul_comm, Nat.mul_comm x b, Nat.add_comm]
  rw [Nat.add_mul _ 1, Nat.one_mul, e]
  omega
theorem val_three {b : Nat} {l : List Nat} {n x y z : Nat} (hl : l.length = n + 3) (hx : l[n + 2]? = some x) (hy : l[n + 1]? = some y) (hz : l[n]? = some z) (hd : ∀ d ∈ l, d < b) :
    ((x * b + y) * b + z) * b ^ n ≤ valB b l ∧ valB b l < ((x * b + y) * b + z + 1) * b ^ n := by
  have h1 := valB_split b l n (by omega)
  have h2 : valB b (l.drop n) = z + b * (y + b * x) := by
    rw [valB_drop b hz, valB_drop b hy, valB_drop b hx, List.drop_of_length_le (by omega)]
    simp [valB]
  have h3 := valB_lt (b := b) (l := l.take n) fun d h => hd d (List.mem_of_mem_take h)
  rw [List.length_take, Nat.min_eq_left (by omega)] at h3
  rw [h2] at h1
  have e : ((x * b + y) * b + z) * b ^ n = b ^ n * (z + b * (y + b * x)) := by
    rw [Nat.mul_comm, Nat.mul_comm x b, Nat.add_comm _ z, Nat.mul_comm _ b, Nat.add_comm _ y]
  rw [Nat.add_mul _ 1, Nat.one_mul, e]
  omega
section
variable {b n V U v1 v2 u0 u1 u2 g r : Nat}
theorem Gss.pw (h : Gss b n V U v1 v2 u0 u1 u2) : 0 < b ^ n := Nat.pow_pos (by have := h.b2; omega)
/-- The first guess. -/
theorem Gss.first (h : Gss b n V U v1 v2 u0 u1 u2) : U < ((u0 * b + u1) / v1 + 1) * V := by
  refine guess_first (b := b) (B := b ^ (n + 1)) (W := 0) (V := V) (v1 := v1) ?_ ?_ h.v1p
  · refine Nat.le_trans ?_ h.hV
    rw [Nat.pow_succ, Nat.add_mul, Nat.mul_comm (b ^ n) b, ← Nat.mul_assoc]
    omega
  · refine Nat.lt_of_lt_of_le h.hU1 ?_
    rw [Nat.pow_succ, Nat.mul_comm (b ^ n) b, ← Nat.mul_assoc]
    refine Nat.mul_le_mul_right _ ?_
    have := h.u2b
    rw [Nat.add_mul _ 1 b]
    omega
theorem Gss.top (h : Gss b n V U v1 v2 u0 u1 u2) : u0 * b + u1 < b * (v1 + 1) := by
  have h1 : (u0 * b + u1) * b ^ (n + 1) ≤ U := by
    refine Nat.le_trans ?_ h.hU
    rw [Nat.pow_succ, Nat.add_mul _ u2, Nat.mul_comm (b ^ n) b, ← Nat.mul_assoc]
    omega
  have h2 : V ≤ (v1 + 1) * b ^ (n + 1) := by
    refine Nat.le_trans (Nat.le_of_lt h.hV1) ?_
    rw [Nat.pow_succ, Nat.mul_comm (b ^ n) b, ← Nat.mul_assoc]
    refine Nat.mul_le_mul_right _ ?_
    have := h.v2b
    rw [Nat.add_mul v1 1 b]
    omega
  have h3 : b * V ≤ (b * (v1 + 1)) * b ^ (n + 1) := by rw [Nat.mul_assoc]; exact Nat.mul_le_mul_left _ h2
  have h4 := h.lt
  have h5 : (u0 * b + u1) * b ^ (n + 1) < (b * (v1 + 1)) * b ^ (n + 1) := by omega
  exact Nat.lt_of_mul_lt_mul_right h5
theorem Gss.next (h : Gss b n V U v1 v2 u0 u1 u2) (hg : g * v1 + r = u0 * b + u1) (hq : U < (g + 1) * V) (hc : b ≤ g ∨ r * b + u2 < g * v2) : 0 < g ∧ (g - 1) * v1 + (r + v1) = u0 * b + u1 ∧ U < (g - 1 + 1) * V := by
  have h0 : 0 < g := by
    have := h.b2
    rcases hc with h1 | h1
    · omega
    · rcases Nat.eq_zero_or_pos g with e | e
      · subst e; omega
      · exact e
  refine ⟨h0, ?_, ?_⟩
  · obtain ⟨m, rfl⟩ : ∃ m, g = m + 1 := ⟨g - 1, by omega⟩
    rw [Nat.add_sub_cancel]
    rw [Nat.add_mul, Nat.one_mul] at hg
    omega
  · rw [Nat.sub_add_cancel h0]
    rcases hc with h1 | h1
    · exact Nat.lt_of_lt_of_le h.lt (Nat.mul_le_mul_right _ h1)
    · exact guess_low h.hV1 h.hV h.hU1 hg h1
/-- The guess is right, or 1 too great. -/
def QGs (b V U g : Nat) : Prop := g < b ∧ ((g * V ≤ U ∧ U < (g + 1) * V) ∨ (U < g * V ∧ g * V < U + V))
theorem Gss.end1 (h : Gss b n V U v1 v2 u0 u1 u2) (hg : g * v1 + r = u0 * b + u1) (hq : U < (g + 1) * V) (hr : b ≤ r) : QGs b V U g := by
  have h1 : g < b := by
    have h2 := h.top
    have h3 : g * v1 < b * v1 := by rw [Nat.mul_add, Nat.mul_one] at h2; omega
    exact Nat.lt_of_mul_lt_mul_right h3
  exact ⟨h1, .inl ⟨guess_rest h.hV1 h.v2b h.hU hg (Nat.le_of_lt h1) hr, hq⟩⟩
theorem Gss.end2 (h : Gss b n V U v1 v2 u0 u1 u2) (hg : g * v1 + r = u0 * b + u1) (hq : U < (g + 1) * V) (hgb : g < b) (hc : g * v2 ≤ r * b + u2) : QGs b V U g := by
  refine ⟨hgb, ?_⟩
  by_cases e : g * V ≤ U
  · exact .inl ⟨e, hq⟩
  · exact .inr ⟨by omega, guess_high h.pw h.v1p h.hV1 h.hV h.hU hg hgb hc⟩
end
/-- What a step leaves, where the guess is right, or not. -/
theorem QGs.right {b V U g : Nat} (h : QGs b V U g) (hle : g * V ≤ U) : g = U / V ∧ U - g * V = U % V := by
  rcases h.2 with h1 | h1
  · exact quo_of h1.1 h1.2
  · omega
theorem QGs.less {b V U g : Nat} (h : QGs b V U g) (hlt : U < g * V) : 0 < g ∧ g - 1 = U / V ∧ U - (g - 1) * V = U % V ∧ g * V < U + V := by
  have h0 : 0 < g := by
    rcases Nat.eq_zero_or_pos g with e | e
    · subst e; omega
    · exact e
  rcases h.2 with h1 | h1
  · omega
  · have h2 : (g - 1) * V ≤ U := by
      obtain ⟨m, rfl⟩ : ∃ m, g = m + 1 := ⟨g - 1, by omega⟩
      rw [Nat.add_sub_cancel]
      have := h1.2
      rw [Nat.add_mul, Nat.one_mul] at this
      omega
    have h3 : U < (g - 1 + 1) * V := by rw [Nat.sub_add_cancel h0]; exact hlt
    have h4 := quo_of h2 h3
    exact ⟨h0, h4.1, h4.2, h1.2⟩
/-- A part of a row. -/
theorem part_at {A M C : List Nat} {j i x : Nat} (hA : A.length = j) (hx : M[i]? = some x) : (A ++ (M ++ C))[j + i]? = some x := by
  have hi : i < M.length := (List.getElem?_eq_some_iff.1 hx).1
  rw [List.getElem?_append_right (by omega), hA, Nat.add_sub_cancel_left, List.getElem?_append_left hi]
  exact hx
theorem part_set {A M C : List Nat} {j i : Nat} (hA : A.length = j) (hi : i < M.length) (d : Nat) : (A ++ (M ++ C)).set (j + i) d = A ++ (M.set i d ++ C) := by
  rw [List.set_append_right _ _ (by omega), hA, Nat.add_sub_cancel_left, List.set_append_left _ _ hi]
theorem done_set {o u : List Nat} {i : Nat} (hl : o.length = i) (hi : i < u.length) (d : Nat) : (o ++ u.drop i).set i d = (o ++ [d]) ++ u.drop (i + 1) := by
  rw [List.set_append_right _ _ (by omega), hl, Nat.sub_self, List.drop_eq_getElem_cons hi, List.set_cons_zero, List.append_assoc]
  rfl
theorem done_at {o u : List Nat} {i : Nat} (hl : o.length = i) : (o ++ u.drop i)[i]? = u[i]? := by
  rw [List.getElem?_append_right (by omega), hl, Nat.sub_self, List.getElem?_drop, Nat.add_zero]
end Go.Proofs.YthpknfoahimopaaGreatDoor

set_option linter.unusedVariables false
set_option linter.unusedSimpArgs false
set_option linter.unnecessarySimpa false
namespace Go.Proofs.YthpknfoahimopaaGreatDoor
open Go.RowKit

/-- Nothing but block g has changed. -/
def OnlyG (g : Nat) (w w' : World) : Prop := Below g w w' ∧ ∀ k, k ≠ g → w'.heap[k]? = w.heap[k]?
theorem OnlyG.refl (g : Nat) (w : World) : OnlyG g w w := ⟨Below.refl _ _, fun _ _ => rfl⟩
theorem OnlyG.drewN {g : Nat} {w w' : World} (h : OnlyG g w w') (n : Nat) : OnlyG g w (w'.drewN n) := ⟨below_drewN h.1 n, h.2⟩
theorem OnlyG.put {g : Nat} {w w' : World} (h : OnlyG g w w') (i : Nat) (u : Value) : OnlyG g w (w'.setCell ⟨g, i, none⟩ u) :=
  ⟨h.1.setCell (Nat.le_refl _) _, fun k hk => (Below.heap_setCell w' ⟨g, i, none⟩ u k hk).trans (h.2 k hk)⟩
theorem OnlyG.slice {g : Nat} {w w' : World} (h : OnlyG g w w') {oa : Option Addr} {xs : List Nat} (hs : SliceR wrdR 1 (fun k => k ≠ g) w oa xs) : SliceR wrdR 1 (fun k => k ≠ g) w' oa xs :=
  hs.keep wrdR_ok fun k hk _ => h.2 k hk
def SameH (g : Nat) (w w' : World) : Prop := w'.heap = w.heap ∧ OnlyG g w w'
theorem SameH.cell {g : Nat} {w w' : World} (h : SameH g w w') {a : Addr} {v : Value} (hc : w.cell? a = some v) : w'.cell? a = some v := (World.cell?_of_block (by rw [h.1])).trans hc
theorem SameH.drewN {g : Nat} {w w' : World} (h : SameH g w w') (n : Nat) : SameH g w (w'.drewN n) := ⟨h.1, h.2.drewN n⟩
def StepPost (w : World) (g : Nat) (A C : List Nat) (n U V : Nat) (e : Ending) (w' : World) : Prop :=
  ∃ (q : Nat) (u : List Nat), e = .returned (.int .u32 q) ∧ q = U / V ∧ q < 1000000000 ∧ u.length = n ∧ Wrd u ∧ valB BW u = U % V ∧ Row1 u32V w' g 131 (A ++ (u ++ C)) [] ∧ OnlyG g w w'

set_option maxRecDepth 100000 in
set_option maxHeartbeats 8000000 in
theorem nstep_any {g j m cap cv : Nat} {A u C v : List Nat} {ov : Option Addr} {w : World} (hrow : Row1 u32V w g 131 (A ++ (u ++ C)) []) (hA : A.length = j) (hu : u.length = m + 3) (hwu : Wrd u)
    (hv : SliceR wrdR 1 (fun k => k ≠ g) w ov v) (hvl : v.length = m + 2) (hwv : Wrd v) (hcv : Cut v) (hlt : valB BW u < BW * valB BW v) (hm : m ≤ 3000000) (hcap : m + 3 ≤ cap) (hcv2 : m + 2 ≤ cv) :
    Calls Tryz.prog 129 #[.slice (some ⟨g, j, none⟩) (m + 3) cap, .slice ov (m + 2) cv] w (StepPost w g A C (m + 3) (valB BW u) (valB BW v)) := by
  obtain ⟨v1, hv1⟩ : ∃ x, v[m + 1]? = some x := ⟨_, List.getElem?_eq_getElem (by omega)⟩
  obtain ⟨v2, hv2⟩ : ∃ x, v[m]? = some x := ⟨_, List.getElem?_eq_getElem (by omega)⟩
  obtain ⟨u0, hu0⟩ : ∃ x, u[m + 2]? = some x := ⟨_, List.getElem?_eq_getElem (by omega)⟩
  obtain ⟨u1, hu1⟩ : ∃ x, u[m + 1]? = some x := ⟨_, List.getElem?_eq_getElem (by omega)⟩
  obtain ⟨u2, hu2⟩ : ∃ x, u[m]? = some x := ⟨_, List.getElem?_eq_getElem (by omega)⟩
  have hV := val_two hvl hv1 hv2 hwv
  have hU := val_three hu hu0 hu1 hu2 hwu
  have hv1p : 0 < v1 := by
    have h5 : v = v.take (m + 1) ++ [v1] := by
      have h6 := List.take_of_length_le (l := v) (i := m + 2) (by omega)
      rw [List.take_add_one, hv1] at h6
      exact h6.symm
    rw [h5] at hcv
    exact Nat.pos_of_ne_zero (cut_last_ne' hcv)
  have HG : Hid (Gss BW m (valB BW v) (valB BW u) v1 v2 u0 u1 u2) := ⟨BW2, hv1p, wrd_get hwv hv2, hV.1, hV.2, hU.1, hU.2, wrd_get hwu hu2, hlt⟩
  have hu09 := wrd_get hwu hu0
  have hu19 := wrd_get hwu hu1
  have hu29 := wrd_get hwu hu2
  have hv19 := wrd_get hwv hv1
  have hv29 := wrd_get hwv hv2
  have HA := hide hA
  have HUL := hide hu
  have HVL := hide hvl
  have HWU := hide hwu
  have HWV := hide hwv
  have HROW := hide hrow
  have HSV := hide hv
  obtain ⟨x1, _, hx1, _, bv, offv, hov, _, c1⟩ := hv.wrd_at (i := m + 1) (by omega)
  obtain ⟨x2, _, hx2, _, bv', offv', hov', _, c2⟩ := hv.wrd_at (i := m) (by omega)
  rw [hov] at hov'
  simp only [Option.some.injEq, Addr.mk.injEq, and_true] at hov'
  obtain ⟨rfl, rfl⟩ := hov'
  subst hov
  rw [hv1] at hx1
  rw [hv2] at hx2
  injection hx1 with hx1
  injection hx2 with hx2
  subst hx1 hx2
  have d0 : w.cell? ⟨g, j + (m + 2), none⟩ = some (.int .u32 (u0 : Int)) := hrow.cell (part_at hA hu0)
  have d1 : w.cell? ⟨g, j + (m + 1), none⟩ = some (.int .u32 (u1 : Int)) := hrow.cell (part_at hA hu1)
  have d2 : w.cell? ⟨g, j + m, none⟩ = some (.int .u32 (u2 : Int)) := hrow.cell (part_at hA hu2)
  clear hA hu hwu hv hvl hwv hcv hlt hv1 hv2 hu0 hu1 hu2 hV hU hrow
  go_enter Tryz.func129, Tryz.ntmps129
  go_wp2_with fail
  go_quiet (fail)
  obtain ⟨T, hT⟩ : ∃ T : Nat, T = u0 * 1000000000 + u1 := ⟨_, rfl⟩
  have ET : Hid ((u0 : Int) * 1000000000 + (u1 : Int) = (T : Int)) := by show _ = _; omega
  have HTT : Hid (T = u0 * BW + u1) := hT
  have hT18 : T < 1000000000000000000 := by omega
  rw [ET.out]
  clear hT
  have hT1 : (0 : Int) ≤ (T : Int) / (v1 : Int) ∧ (T : Int) / (v1 : Int) ≤ (T : Int) := by
    have h5 : T / v1 ≤ T := Nat.div_le_self _ _
    have h6 : (T : Int) / (v1 : Int) = ((T / v1 : Nat) : Int) := rfl
    rw [h6]
    exact ⟨Int.natCast_nonneg _, Int.ofNat_le.2 h5⟩
  obtain ⟨hT1, hT2⟩ := hT1
  go_wp2_with fail
  go_quiet (fail)
  go_upto_block 0 with fail
  go_cut [7] (fun s7 wx => ∃ q : Nat, s7 = .int .u64 q ∧ Hid (QGs BW (valB BW v) (valB BW u) q) ∧ Hid (SameH g w wx))
  case first =>
    have HQ1 : Hid (T / v1 * v1 + T % v1 = u0 * BW + u1) := by show _ = _; rw [← HTT.out, Nat.mul_comm]; exact Nat.div_add_mod T v1
    have HQ2 : Hid (valB BW u < (T / v1 + 1) * valB BW v) := by have := HG.out.first; rw [← HTT.out] at this; exact this
    have HQ3 : Hid (T % v1 < v1) := Nat.mod_lt _ hv1p
    have HQ4 : Hid (T / v1 ≤ T) := Nat.div_le_self _ _
    go_wp2_with fail
    go_loopg [7, 8] 2000000000 (fun gm s7 s8 wx => ∃ q r : Nat, 2000000000 ≤ gm + r ∧ s7 = .int .u64 q ∧ s8 = .int .u64 r ∧ r < 2000000000 ∧ q < 1000000000000000000 ∧ Hid (q * v1 + r = u0 * BW + u1) ∧ Hid (valB BW u < (q + 1) * valB BW v) ∧ Hid (SameH g w wx))
    case atStart =>
      have h5 := HQ3.out
      have h6 := HQ4.out
      exact ⟨T / v1, T % v1, by omega, by rfl, by rfl, by omega, by omega, HQ1, HQ2, ⟨rfl, ((OnlyG.refl g w).drewN _).drewN _⟩⟩
    case round =>
      obtain ⟨q, r, hgm, rfl, rfl, hr, hq, HE, HL, HS⟩ := hrel
      have HGM := hide hgm
      clear hgm
      have c1 := HS.out.cell c1
      have c2 := HS.out.cell c2
      have d2 := HS.out.cell d2
      by_cases h1 : r < 1000000000
      · have t1 : decide ((r : Int) < 1000000000) = true := by simp; omega
        by_cases h2 : 1000000000 ≤ q
        · have t2 : decide ((1000000000 : Int) ≤ (q : Int)) = true := by simp; omega
          have t3 : decide ((q : Int) < (1000000000 : Int)) = false := by simp; omega
          have hn := HG.out.next HE.out HL.out (.inl h2)
          have HN1 := hide hn.2.1
          have HN2 := hide hn.2.2
          have hq0 := hn.1
          clear hn
          go_wp2_with fail
          go_quiet (fail)
          go_wp2_with fail
          go_roundg (2000000000 - (r + v1))
          case rel => exact ⟨q - 1, r + v1, by omega, by go_num, by go_num, by omega, by omega, HN1, HN2, HS.out.drewN _⟩
          case measure => have := HGM.out; omega
        · have t2 : decide ((1000000000 : Int) ≤ (q : Int)) = false := by simp; omega
          have t3 : decide ((q : Int) < (1000000000 : Int)) = true := by simp; omega
          have hq9 : q < 1000000000 := by omega
          have hm1 := mul_bound hq9 hv29
          have e4 : (q : Int) * (v2 : Int) = ((q * v2 : Nat) : Int) := by push_cast; rfl
          by_cases h3 : r * 1000000000 + u2 < q * v2
          · have t4 : decide ((r : Int) * 1000000000 + (u2 : Int) < (q : Int) * (v2 : Int)) = true := by rw [e4]; simp; omega
            have hn := HG.out.next HE.out HL.out (.inr h3)
            have HN1 := hide hn.2.1
            have HN2 := hide hn.2.2
            have hq0 := hn.1
            clear hn e4 h3
            go_wp2_with fail
            go_quiet (fail)
            go_wp2_with fail
            go_roundg (2000000000 - (r + v1))
            case rel => exact ⟨q - 1, r + v1, by omega, by go_num, by go_num, by omega, by omega, HN1, HN2, HS.out.drewN _⟩
            case measure => have := HGM.out; omega
          · have t4 : decide ((r : Int) * 1000000000 + (u2 : Int) < (q : Int) * (v2 : Int)) = false := by rw [e4]; simp; omega
            have HQG := hide (HG.out.end2 HE.out HL.out hq9 (by show q * v2 ≤ r * 1000000000 + u2; omega))
            clear e4 h3
            go_wp2_with fail
            go_quiet (fail)
            go_wp2_with fail
            go_meet
            exact ⟨q, rfl, HQG, HS.out.drewN _⟩
      · have t1 : decide ((r : Int) < 1000000000) = false := by simp; omega
        have HQG := hide (HG.out.end1 HE.out HL.out (by show 1000000000 ≤ r; omega))
        go_wp2_with fail
        go_quiet (fail)
        go_wp2_with fail
        go_meet
        exact ⟨q, rfl, HQG, HS.out.drewN _⟩
  case rest =>
    obtain ⟨q, rfl, HQ, HS⟩ := hcut
    have hq9 := HQ.out.1
    have hq9 : q < 1000000000 := hq9
    clear c1 c2 d0 d1 d2
    have HR0 : Hid (Row1 u32V wc g 131 (A ++ (([] ++ u.drop 0) ++ C)) []) := by
      have h5 := HROW.out.keep (w' := wc) (by rw [HS.out.1])
      rw [List.drop_zero, List.nil_append]
      exact h5
    rw [show m + 2 - 1 = m + 1 from rfl]
    go_upto_block 2 with fail
    go_cut [9] (fun s9 wx => ∃ (c : Nat) (o : List Nat), s9 = .int .i64 c ∧ c ≤ 1000000000 ∧ Hid (o.length = m + 3) ∧ Hid (Wrd o) ∧ Hid (valB BW o + q * valB BW v = valB BW u + BW ^ (m + 3) * c) ∧ Hid (Row1 u32V wx g 131 (A ++ (o ++ C)) []) ∧ Hid (OnlyG g w wx))
    case first =>
      go_wp2_with fail
      go_loopg [9, 10, 11, 12, 85] (m + 3) (fun gm s9 s10 s11 s12 iv wx => ∃ (i c : Nat) (o : List Nat), i ≤ m + 3 ∧ gm = m + 3 - i ∧ iv = .int .i64 i ∧ s9 = .int .i64 c ∧ c ≤ 1000000000 ∧ Hid (o.length = i) ∧ Hid (Wrd o) ∧ Hid (valB BW o + q * valB BW (v.take i) = valB BW (u.take i) + BW ^ i * c) ∧ Hid (Row1 u32V wx g 131 (A ++ ((o ++ u.drop i) ++ C)) []) ∧ Hid (OnlyG g w wx))
      case atStart => exact ⟨0, 0, [], by omega, by omega, rfl, rfl, by omega, rfl, (show Wrd [] from fun d hd => by cases hd), (show _ = _ from by simp [valB]), HR0, HS.out.2⟩
      case round =>
        obtain ⟨i, c, o, hi, hgm, rfl, rfl, hc, HL, HW, HE, HR, HB⟩ := hrel
        have HGM := hide hgm
        clear hgm
        by_cases hlt : i < m + 3
        · have tq1 : decide ((i : Int) < (m : Int) + 3) = true := by simp; omega
          obtain ⟨x, hx⟩ : ∃ x, u[i]? = some x := ⟨_, List.getElem?_eq_getElem (by rw [HUL.out]; exact hlt)⟩
          have hx9 := wrd_get HWU.out hx
          have l1 : wr.cell? ⟨g, j + i, none⟩ = some (.int .u32 (x : Int)) := HR.out.cell (part_at HA.out (by rw [done_at HL.out]; exact hx))
          have fz := HR.out.free (j + i)
          have HUI : Hid (u.getD i 0 = x) := by show _ = _; rw [List.getD_eq_getElem?_getD, hx]; rfl
          clear hx
          by_cases hin : i < m + 2
          · have tq2 : decide ((i : Int) < (m : Int) + 2) = true := by simp; omega
            obtain ⟨y, _, hy, _, bb2, offb2, hob, _, c5⟩ := (HB.out.slice HSV.out).wrd_at (i := i) (by rw [HVL.out]; exact hin)
            simp only [Option.some.injEq, Addr.mk.injEq, and_true] at hob
            obtain ⟨rfl, rfl⟩ := hob
            have hy9 := wrd_get HWV.out hy
            have hm1 := mul_bound hq9 hy9
            obtain ⟨W, hWe⟩ : ∃ W : Nat, W = q * y := ⟨_, rfl⟩
            have E1 : Hid ((q : Int) * (y : Int) = (W : Int)) := by show _ = _; rw [hWe]; push_cast; rfl
            have HGV : Hid (W = q * v.getD i 0) := by show _ = _; rw [List.getD_eq_getElem?_getD, hy]; exact hWe
            have hWb : W ≤ 999999998000000001 := by have := E1.out; omega
            clear hy hWe
            go_upto_region 14 with fail
            rw [E1.out]
            clear hm1
            go_wp2_with fail
            obtain ⟨D, hD⟩ : ∃ D : Int, (x : Int) - (c : Int) - (W : Int) % 1000000000 = D := ⟨_, rfl⟩
            obtain ⟨C0, hC0⟩ : ∃ C0 : Nat, C0 = W / 1000000000 := ⟨_, rfl⟩
            have HC1 : Hid ((W : Int) / 1000000000 = (C0 : Int)) := by show _ = _; omega
            have HDE : Hid (D = (x : Int) - (c : Int) - ((W % 1000000000 : Nat) : Int)) := by show _ = _; omega
            have hD1 : -2000000000 < D := by omega
            have hD2 : D < 1000000000 := by omega
            have hC2 : C0 ≤ 999999998 := by omega
            rw [hD, HC1.out]
            have HC0 : Hid (C0 = W / BW) := hC0
            clear hD hC0
            obtain ⟨wo, rfl⟩ : ∃ wo : World, wo = wr := ⟨_, rfl⟩
            go_loopg [9, 11] 2 (fun gm bv dv wx => ∃ (t : Nat) (bb dd : Int), t ≤ 2 ∧ gm = 2 - t ∧ bv = .int .i64 bb ∧ dv = .int .i64 dd ∧ -2000000000 < dd ∧ dd < 1000000000 ∧ 0 ≤ bb ∧ bb ≤ 1000000002 ∧ Hid (dd = D + 1000000000 * t) ∧ Hid (bb = (C0 : Int) + t) ∧ Hid (wx = wo))
            case atStart => exact ⟨0, C0, D, by omega, rfl, rfl, rfl, hD1, hD2, by omega, by omega, (show D = D + 1000000000 * ((0 : Nat) : Int) from by omega), (show (C0 : Int) = C0 + ((0 : Nat) : Int) from by omega), rfl⟩
            case round =>
              obtain ⟨t, bb, dd, ht, hgm, rfl, rfl, hd1, hd2, hb1, hb2, HDD, HBB, HWX⟩ := hrel
              have HGM2 := hide hgm
              clear hgm
              obtain rfl := HWX.out
              by_cases hneg : dd < 0
              · have ht2 : t < 2 := by have := HDD.out; omega
                have tt : decide (dd < 0) = true := by simp; omega
                go_wp2_with fail
                go_roundg (2 - (t + 1))
                case rel => have h5 := HBB.out; exact ⟨t + 1, bb + 1, dd + 1000000000, by omega, rfl, rfl, rfl, by omega, by omega, by omega, by omega, (show _ = _ from by rw [HDD.out]; push_cast; omega), (show _ = _ from by rw [HBB.out]; push_cast; omega), rfl⟩
                case measure => rw [HGM2.out]; omega
              · have tt : decide (dd < 0) = false := by simp; omega
                obtain ⟨d, hdn⟩ : ∃ d : Nat, dd = (d : Int) := ⟨dd.toNat, by omega⟩
                obtain ⟨b3, hbn⟩ : ∃ b3 : Nat, bb = (b3 : Int) := ⟨bb.toNat, by omega⟩
                subst hdn hbn
                have HB3 : Hid (b3 = C0 + t) := by have := HBB.out; show _ = _; omega
                have HEN : Hid (valB BW (o ++ [d]) + q * valB BW (v.take (i + 1)) = valB BW (u.take (i + 1)) + BW ^ (i + 1) * b3) := by
                  have h5 := msub_step (b := BW) (i := i) (g := q) (d := d) (w := W) (c := c) (k := t) (u := u) (v := v) HL.out HE.out HGV.out (by
                    have h6 := HDD.out
                    have h7 := HDE.out
                    rw [HUI.out]
                    show d + W % 1000000000 + c = x + 1000000000 * t
                    omega)
                  rw [HB3.out]
                  show _ = _
                  rw [h5, HC0.out]
                have HR5 := HR.out.put (i := j + i) (by rw [List.length_append, List.length_append, List.length_append, List.length_drop, HA.out, HL.out, HUL.out]; omega) d
                rw [part_set HA.out (by rw [List.length_append, List.length_drop, HL.out, HUL.out]; omega), done_set HL.out (by rw [HUL.out]; exact hlt)] at HR5
                have HR6 := hide HR5
                have hc0b : b3 ≤ 1000000000 := by have := HB3.out; omega
                clear HR5
                go_wp2_with fail
                go_roundg (m + 3 - (i + 1))
                case rel => exact ⟨i + 1, b3, o ++ [d], by omega, rfl, by go_num, by rfl, hc0b, (show _ = _ from by rw [List.length_append, HL.out]; rfl), (show Wrd _ from wrd_snoc HW.out (by omega)), HEN, HR6, HB.out.put _ _⟩
                case measure => rw [HGM.out]; omega
          · have tq2 : decide ((i : Int) < (m : Int) + 2) = false := by simp; omega
            have hie : Hid (i = m + 2) := by show _ = _; omega
            have HGV : Hid (0 = q * v.getD i 0) := by
              show _ = _
              rw [List.getD_eq_getElem?_getD, List.getElem?_eq_none (by rw [HVL.out]; omega)]
              simp
            go_wp2_with fail
            obtain ⟨D, hD⟩ : ∃ D : Int, (x : Int) - (c : Int) = D := ⟨_, rfl⟩
            obtain ⟨C0, hC0⟩ : ∃ C0 : Nat, C0 = 0 := ⟨_, rfl⟩
            have HC1 : Hid ((0 : Int) = (C0 : Int)) := by show _ = _; omega
            have HDE : Hid (D = (x : Int) - (c : Int) - ((0 % 1000000000 : Nat) : Int)) := by show _ = _; omega
            have hD1 : -2000000000 < D := by omega
            have hD2 : D < 1000000000 := by omega
            have hC2 : C0 ≤ 999999998 := by omega
            rw [hD]
            have HC0 : Hid (C0 = 0 / BW) := by show _ = _; rw [hC0]; rfl
            have HC00 := hide hC0
            clear hD hC0
            obtain ⟨wo, rfl⟩ : ∃ wo : World, wo = wr := ⟨_, rfl⟩
            go_loopg [9, 11] 2 (fun gm bv dv wx => ∃ (t : Nat) (bb dd : Int), t ≤ 2 ∧ gm = 2 - t ∧ bv = .int .i64 bb ∧ dv = .int .i64 dd ∧ -2000000000 < dd ∧ dd < 1000000000 ∧ 0 ≤ bb ∧ bb ≤ 1000000002 ∧ Hid (dd = D + 1000000000 * t) ∧ Hid (bb = (C0 : Int) + t) ∧ Hid (wx = wo))
            case atStart => exact ⟨0, C0, D, by omega, rfl, by rw [HC00.out]; rfl, rfl, hD1, hD2, by omega, by omega, (show D = D + 1000000000 * ((0 : Nat) : Int) from by omega), (show (C0 : Int) = C0 + ((0 : Nat) : Int) from by omega), rfl⟩
            case round =>
              obtain ⟨t, bb, dd, ht, hgm, rfl, rfl, hd1, hd2, hb1, hb2, HDD, HBB, HWX⟩ := hrel
              have HGM2 := hide hgm
              clear hgm
              obtain rfl := HWX.out
              by_cases hneg : dd < 0
              · have ht2 : t < 2 := by have := HDD.out; omega
                have tt : decide (dd < 0) = true := by simp; omega
                go_wp2_with fail
                go_roundg (2 - (t + 1))
                case rel => have h5 := HBB.out; exact ⟨t + 1, bb + 1, dd + 1000000000, by omega, rfl, rfl, rfl, by omega, by omega, by omega, by omega, (show _ = _ from by rw [HDD.out]; push_cast; omega), (show _ = _ from by rw [HBB.out]; push_cast; omega), rfl⟩
                case measure => rw [HGM2.out]; omega
              · have tt : decide (dd < 0) = false := by simp; omega
                obtain ⟨d, hdn⟩ : ∃ d : Nat, dd = (d : Int) := ⟨dd.toNat, by omega⟩
                obtain ⟨b3, hbn⟩ : ∃ b3 : Nat, bb = (b3 : Int) := ⟨bb.toNat, by omega⟩
                subst hdn hbn
                have HB3 : Hid (b3 = C0 + t) := by have := HBB.out; show _ = _; omega
                have HEN : Hid (valB BW (o ++ [d]) + q * valB BW (v.take (i + 1)) = valB BW (u.take (i + 1)) + BW ^ (i + 1) * b3) := by
                  have h5 := msub_step (b := BW) (i := i) (g := q) (d := d) (w := 0) (c := c) (k := t) (u := u) (v := v) HL.out HE.out HGV.out (by
                    have h6 := HDD.out
                    have h7 := HDE.out
                    rw [HUI.out]
                    show d + 0 % 1000000000 + c = x + 1000000000 * t
                    omega)
                  rw [HB3.out]
                  show _ = _
                  rw [h5, HC0.out]
                have HR5 := HR.out.put (i := j + i) (by rw [List.length_append, List.length_append, List.length_append, List.length_drop, HA.out, HL.out, HUL.out]; omega) d
                rw [part_set HA.out (by rw [List.length_append, List.length_drop, HL.out, HUL.out]; omega), done_set HL.out (by rw [HUL.out]; exact hlt)] at HR5
                have HR6 := hide HR5
                have hc0b : b3 ≤ 1000000000 := by have := HB3.out; omega
                clear HR5
                go_wp2_with fail
                go_roundg (m + 3 - (i + 1))
                case rel => exact ⟨i + 1, b3, o ++ [d], by omega, rfl, by go_num, by rfl, hc0b, (show _ = _ from by rw [List.length_append, HL.out]; rfl), (show Wrd _ from wrd_snoc HW.out (by omega)), HEN, HR6, HB.out.put _ _⟩
                case measure => rw [HGM.out]; omega
        · have HP1 : Hid (valB BW (v.take i) = valB BW v) := by show _ = _; rw [List.take_of_length_le (by rw [HVL.out]; omega)]
          have HP2 : Hid (valB BW (u.take i) = valB BW u) := by show _ = _; rw [List.take_of_length_le (by rw [HUL.out]; omega)]
          have HIE : Hid (i = m + 3) := by show _ = _; omega
          have HDR : Hid (u.drop i = []) := List.drop_of_length_le (by rw [HUL.out]; omega)
          go_wp2_with fail
          go_meet
          refine ⟨c, o, rfl, hc, (show _ = _ from by rw [HL.out, HIE.out]), HW, ?_, ?_, HB⟩
          · have h5 := HE.out
            rw [HP1.out, HP2.out] at h5
            rw [← HIE.out]
            exact h5
          · have h5 := HR.out
            rw [HDR.out, List.append_nil] at h5
            exact h5
    case rest =>
      obtain ⟨c, o, rfl, hc, HL, HW, HE, HR, HB⟩ := hcut
      have hVlt : valB BW v < BW ^ (m + 3) := by
        have h5 := valB_lt (b := BW) HWV.out
        rw [HVL.out] at h5
        exact Nat.lt_of_lt_of_le h5 (Nat.pow_le_pow_right BW0 (by omega))
      have HVLT := hide hVlt
      clear hVlt
      by_cases hle : q * valB BW v ≤ valB BW u
      · have h5 := msub_end (b := BW) HL.out HW.out HE.out hle
        have h6 := HQ.out.right hle
        have HH1 := hide h5.2
        have HH2 := hide h6
        obtain rfl := h5.1
        clear h5 h6 hle
        go_wp2_with fail
        go_ret
        exact ⟨q, o, rfl, HH2.out.1, hq9, HL.out, HW.out, by rw [HH1.out, HH2.out.2], HR.out, HB.out⟩
      · have h6 := HQ.out.less (by omega)
        have HH2 := hide h6
        have hq0 := h6.1
        have HGT : Hid (valB BW u < q * valB BW v) := by show _ < _; omega
        have hc0 : c ≠ 0 := by
          rintro rfl
          have h7 := HE.out
          have h8 := valB_lt (b := BW) HW.out
          omega
        have tq0 : ((c : Int) == 0) = false := by simp; omega
        have HR0' : Hid (Row1 u32V wc g 131 (A ++ (([] ++ o.drop 0) ++ C)) []) := by
          rw [List.drop_zero, List.nil_append]
          exact HR
        clear h6 hle
        go_wp2_with fail
        go_loopg [13, 14, 15, 131] (m + 3) (fun gm cv s14 s15 iv wx => ∃ (i c2 : Nat) (o2 : List Nat), i ≤ m + 3 ∧ gm = m + 3 - i ∧ iv = .int .i64 i ∧ cv = .int .u32 c2 ∧ c2 ≤ 1 ∧ Hid (o2.length = i) ∧ Hid (Wrd o2) ∧ Hid (valB BW o2 + BW ^ i * c2 = valB BW (o.take i) + valB BW (v.take i)) ∧ Hid (Row1 u32V wx g 131 (A ++ ((o2 ++ o.drop i) ++ C)) []) ∧ Hid (OnlyG g w wx))
        case atStart => exact ⟨0, 0, [], by omega, by omega, rfl, rfl, by omega, rfl, (show Wrd [] from fun d hd => by cases hd), (show _ = _ from by simp [valB]), HR0', HB⟩
        case round =>
          obtain ⟨i, c2, o2, hi, hgm, rfl, rfl, hc2, HL2, HW2, HE2, HR2, HB2⟩ := hrel
          have HGM := hide hgm
          clear hgm
          by_cases hlt : i < m + 3
          · have tq1 : decide ((i : Int) < (m : Int) + 3) = true := by simp; omega
            obtain ⟨x, hx⟩ : ∃ x, o[i]? = some x := ⟨_, List.getElem?_eq_getElem (by rw [HL.out]; exact hlt)⟩
            have hx9 := wrd_get HW.out hx
            have l1 : wr.cell? ⟨g, j + i, none⟩ = some (.int .u32 (x : Int)) := HR2.out.cell (part_at HA.out (by rw [done_at HL2.out]; exact hx))
            have fz := HR2.out.free (j + i)
            have HUI : Hid (o.getD i 0 = x) := by show _ = _; rw [List.getD_eq_getElem?_getD, hx]; rfl
            clear hx
            by_cases hin : i < m + 2
            · have tq2 : decide ((i : Int) < (m : Int) + 2) = true := by simp; omega
              obtain ⟨y, _, hy, _, bb2, offb2, hob, _, c5⟩ := (HB2.out.slice HSV.out).wrd_at (i := i) (by rw [HVL.out]; exact hin)
              simp only [Option.some.injEq, Addr.mk.injEq, and_true] at hob
              obtain ⟨rfl, rfl⟩ := hob
              have hy9 := wrd_get HWV.out hy
              have HGV : Hid (v.getD i 0 = y) := by show _ = _; rw [List.getD_eq_getElem?_getD, hy]; rfl
              clear hy
              obtain ⟨t, ht⟩ : ∃ t : Nat, t = x + c2 + y := ⟨_, rfl⟩
              have E1 : Hid ((x : Int) + (c2 : Int) + (y : Int) = (t : Int)) := by show _ = _; omega
              have ht2 : t < 2000000000 := by omega
              have HEN : Hid (valB BW (o2 ++ [t % BW]) + BW ^ (i + 1) * (t / BW) = valB BW (o.take (i + 1)) + valB BW (v.take (i + 1))) := add_step HL2.out HE2.out (by rw [HUI.out, HGV.out]; exact ht)
              have HT2 : Hid ((t : Int) % 1000000000 = ((t % 1000000000 : Nat) : Int)) := by show _ = _; omega
              have HR5 := HR2.out.put (i := j + i) (by rw [List.length_append, List.length_append, List.length_append, List.length_drop, HA.out, HL2.out, HL.out]; omega) (t % 1000000000)
              rw [part_set HA.out (by rw [List.length_append, List.length_drop, HL2.out, HL.out]; omega), done_set HL2.out (by rw [HL.out]; exact hlt)] at HR5
              have HR6 := hide HR5
              clear HR5 ht
              go_upto_region 31 with fail
              rw [E1.out]
              go_wp2_with fail
              rw [HT2.out]
              go_roundg (m + 3 - (i + 1))
              case rel => exact ⟨i + 1, t / 1000000000, o2 ++ [t % 1000000000], by omega, rfl, by go_num, by rfl, by omega, (show _ = _ from by rw [List.length_append, HL2.out]; rfl), (show Wrd _ from wrd_snoc HW2.out (by omega)), HEN, HR6, HB2.out.put _ _⟩
              case measure => rw [HGM.out]; omega
            · have tq2 : decide ((i : Int) < (m : Int) + 2) = false := by simp; omega
              have HGV : Hid (v.getD i 0 = 0) := by
                show _ = _
                rw [List.getD_eq_getElem?_getD, List.getElem?_eq_none (by rw [HVL.out]; omega)]
                rfl
              obtain ⟨t, ht⟩ : ∃ t : Nat, t = x + c2 := ⟨_, rfl⟩
              have E1 : Hid ((x : Int) + (c2 : Int) = (t : Int)) := by show _ = _; omega
              have ht2 : t < 2000000000 := by omega
              have HEN : Hid (valB BW (o2 ++ [t % BW]) + BW ^ (i + 1) * (t / BW) = valB BW (o.take (i + 1)) + valB BW (v.take (i + 1))) := add_step HL2.out HE2.out (by rw [HUI.out, HGV.out]; exact ht)
              have HT2 : Hid ((t : Int) % 1000000000 = ((t % 1000000000 : Nat) : Int)) := by show _ = _; omega
              have HR5 := HR2.out.put (i := j + i) (by rw [List.length_append, List.length_append, List.length_append, List.length_drop, HA.out, HL2.out, HL.out]; omega) (t % 1000000000)
              rw [part_set HA.out (by rw [List.length_append, List.length_drop, HL2.out, HL.out]; omega), done_set HL2.out (by rw [HL.out]; exact hlt)] at HR5
              have HR6 := hide HR5
              clear HR5 ht
              go_upto_region 31 with fail
              rw [E1.out]
              go_wp2_with fail
              rw [HT2.out]
              go_roundg (m + 3 - (i + 1))
              case rel => exact ⟨i + 1, t / 1000000000, o2 ++ [t % 1000000000], by omega, rfl, by go_num, by rfl, by omega, (show _ = _ from by rw [List.length_append, HL2.out]; rfl), (show Wrd _ from wrd_snoc HW2.out (by omega)), HEN, HR6, HB2.out.put _ _⟩
              case measure => rw [HGM.out]; omega
          · have HP1 : Hid (valB BW (v.take i) = valB BW v) := by show _ = _; rw [List.take_of_length_le (by rw [HVL.out]; omega)]
            have HP2 : Hid (valB BW (o.take i) = valB BW o) := by show _ = _; rw [List.take_of_length_le (by rw [HL.out]; omega)]
            have HIE : Hid (i = m + 3) := by show _ = _; omega
            have HDR : Hid (o.drop i = []) := List.drop_of_length_le (by rw [HL.out]; omega)
            have HEND : Hid (valB BW o2 = valB BW u - (q - 1) * valB BW v) := by
              have h5 := HE2.out
              have h6 := HL2.out
              rw [HP1.out, HP2.out, HIE.out] at h5
              rw [HIE.out] at h6
              exact (msub_back HL.out HW.out h6 HW2.out HE.out HGT.out HH2.out.2.2.2 HVLT.out h5).2.1
            go_wp2_with fail
            go_ret
            refine ⟨q - 1, o2, by go_num, HH2.out.2.1, by omega, (by rw [HL2.out, HIE.out]), HW2.out, (by rw [HEND.out, HH2.out.2.2.1]), ?_, HB2.out⟩
            have h5 := HR2.out
            rw [HDR.out, List.append_nil] at h5
            exact h5
where
  cut_last_ne' {l : List Nat} {x : Nat} (h : Cut (l ++ [x])) : x ≠ 0 := by
    rintro rfl
    have h1 := cutB_snoc_zero l
    have h2 : cutB (l ++ [0]) = l ++ [0] := h
    have h3 := cutB_len l
    rw [← h1, h2] at h3
    simp at h3
    omega
end Go.Proofs.YthpknfoahimopaaGreatDoor

set_option linter.unusedVariables false
set_option linter.unusedSimpArgs false
namespace Go.Proofs.YthpknfoahimopaaGreatDoor

theorem wds_len {m n : Nat} (h1 : BW ^ n ≤ m) (h2 : m < BW ^ (n + 1)) : (wds m).length = n + 1 := by
  have a := digB_len_le BW2 h2
  have b := digB_len_ge BW2 h1
  unfold wds
  omega
theorem wds_top {y n : Nat} (h : (wds y).length = n + 1) : ∃ t, (wds y)[n]? = some t ∧ 0 < t ∧ t < 1000000000 ∧ t * BW ^ n ≤ y ∧ y < (t + 1) * BW ^ n := by
  obtain ⟨t, ht⟩ : ∃ t, (wds y)[n]? = some t := ⟨_, List.getElem?_eq_getElem (by omega)⟩
  have h1 := valB_take_succ BW ht
  rw [List.take_of_length_le (by omega), wds_val] at h1
  have h2 := valB_lt (b := BW) (l := (wds y).take n) fun d hd => wds_wrd y d (List.mem_of_mem_take hd)
  rw [List.length_take, Nat.min_eq_left (by omega)] at h2
  have h3 : t ≠ 0 := by
    have h5 : wds y = (wds y).take n ++ [t] := by
      have h6 := List.take_of_length_le (l := wds y) (i := n + 1) (by omega)
      rw [List.take_add_one, ht] at h6
      exact h6.symm
    have hc := wds_cut y
    rw [h5] at hc
    rintro rfl
    have h7 := cutB_snoc_zero ((wds y).take n)
    have h8 : cutB ((wds y).take n ++ [0]) = (wds y).take n ++ [0] := hc
    have h9 := cutB_len ((wds y).take n)
    rw [← h7, h8, List.length_append] at h9
    simp at h9
    omega
  have e : BW ^ n * t = t * BW ^ n := Nat.mul_comm _ _
  refine ⟨t, ht, Nat.pos_of_ne_zero h3, wrd_get (wds_wrd y) ht, by omega, ?_⟩
  rw [Nat.add_mul, Nat.one_mul]
  omega
/-- The scale. -/
theorem scale_ok {y n t : Nat} (h1 : t * BW ^ n ≤ y) (h2 : y < (t + 1) * BW ^ n) (h0 : 0 < t) (h9 : t < 1000000000) : 0 < 1000000000 / (t + 1) ∧ 1000000000 / (t + 1) < 1000000000 ∧ (wds (y * (1000000000 / (t + 1)))).length = n + 1 := by
  have a1 : 0 < 1000000000 / (t + 1) := Nat.div_pos (by omega) (by omega)
  have a2 : 1000000000 / (t + 1) < 1000000000 := Nat.div_lt_self (by omega) (by omega)
  refine ⟨a1, a2, wds_len ?_ ?_⟩
  · have h3 : 1 * BW ^ n ≤ t * BW ^ n := Nat.mul_le_mul_right _ h0
    have h4 : y * 1 ≤ y * (1000000000 / (t + 1)) := Nat.mul_le_mul_left _ a1
    omega
  · have h3 : (t + 1) * (1000000000 / (t + 1)) ≤ BW := Nat.mul_div_le _ _
    have h4 : y * (1000000000 / (t + 1)) < (t + 1) * BW ^ n * (1000000000 / (t + 1)) := Nat.mul_lt_mul_of_pos_right h2 a1
    have h5 : (t + 1) * BW ^ n * (1000000000 / (t + 1)) = (t + 1) * (1000000000 / (t + 1)) * BW ^ n := by
      rw [Nat.mul_assoc, Nat.mul_comm (BW ^ n), ← Nat.mul_assoc]
    have h6 : (t + 1) * (1000000000 / (t + 1)) * BW ^ n ≤ BW * BW ^ n := Nat.mul_le_mul_right _ h3
    rw [Nat.pow_succ, Nat.mul_comm (BW ^ n)]
    omega
/-- How long division stands with the words from k on: u the words, x what they were, p the words of the quotient. -/
structure LongD (V k : Nat) (x u p : List Nat) : Prop where
  lt : valB BW (u.drop k) < V
  eq : valB BW (p.drop k) * V + valB BW (u.drop k) = valB BW (x.drop k)
  low : u.take k = x.take k
  len : u.length = x.length
theorem drop_app {A M C : List Nat} {j : Nat} (hA : A.length = j) : (A ++ (M ++ C)).drop j = M ++ C := by rw [← hA, List.drop_left]
/-- The window: its words, and what follows them is 0. -/
theorem LongD.window {V j n : Nat} {x u p : List Nat} (h : LongD V (j + 1) x u p) (hV : V < BW ^ n) (hn : 0 < n) (hl : j + n + 1 ≤ u.length) (hw : Wrd u) :
    ∃ A M C, u = A ++ (M ++ C) ∧ A.length = j ∧ M.length = n + 1 ∧ Wrd M ∧ valB BW C = 0 ∧ valB BW M = valB BW (u.drop j) ∧ valB BW M < BW * V := by
  obtain ⟨a, ha⟩ : ∃ a, u[j]? = some a := ⟨_, List.getElem?_eq_getElem (by omega)⟩
  have ha9 := wrd_get hw ha
  have hlt := h.lt
  have hC : valB BW ((u.drop j).drop (n + 1)) = 0 := by
    rw [List.drop_drop]
    rcases Nat.eq_zero_or_pos (valB BW (u.drop (j + (n + 1)))) with e | e
    · exact e
    · exfalso
      have h1 := valB_split BW (u.drop (j + 1)) n (by rw [List.length_drop]; omega)
      rw [List.drop_drop, show j + 1 + n = j + (n + 1) from by omega] at h1
      have h2 : BW ^ n * 1 ≤ BW ^ n * valB BW (u.drop (j + (n + 1))) := Nat.mul_le_mul_left _ e
      omega
  refine ⟨u.take j, (u.drop j).take (n + 1), (u.drop j).drop (n + 1), by rw [List.take_append_drop, List.take_append_drop], by rw [List.length_take]; omega, by rw [List.length_take, List.length_drop]; omega, fun d hd => hw d (List.mem_of_mem_drop (List.mem_of_mem_take hd)), hC, ?_, ?_⟩
  · have h1 := valB_split BW (u.drop j) (n + 1) (by rw [List.length_drop]; omega)
    rw [hC] at h1
    omega
  · have h1 := valB_split BW (u.drop j) (n + 1) (by rw [List.length_drop]; omega)
    rw [hC] at h1
    have h2 := valB_drop BW ha
    have h3 : BW * (valB BW (u.drop (j + 1)) + 1) ≤ BW * V := Nat.mul_le_mul_left _ hlt
    have h4 : BW = 1000000000 := rfl
    rw [Nat.mul_add] at h3
    omega
theorem LongD.step {V j q : Nat} {x p A M M' C : List Nat} (h : LongD V (j + 1) x (A ++ (M ++ C)) p) (hA : A.length = j) (hl : M'.length = M.length) (hC : valB BW C = 0) (hq : q = valB BW M / V) (hv : valB BW M' = valB BW M % V) (hV : 0 < V) (hp : j < p.length) (hM : 0 < M.length) :
    LongD V j x (A ++ (M' ++ C)) (p.set j q) := by
  have e1 : (A ++ (M' ++ C)).drop j = M' ++ C := drop_app hA
  have hv2 : valB BW (M' ++ C) = valB BW M % V := by rw [valB_append, hC, hv, Nat.mul_zero, Nat.add_zero]
  have hM2 : valB BW (M ++ C) = valB BW M := by rw [valB_append, hC, Nat.mul_zero, Nat.add_zero]
  have hlen := h.len
  simp only [List.length_append] at hlen
  obtain ⟨a, ha⟩ : ∃ a, (A ++ (M ++ C))[j]? = some a := ⟨_, List.getElem?_eq_getElem (by simp only [List.length_append]; omega)⟩
  have hxa : x[j]? = some a := by
    have h1 := congrArg (fun l => l[j]?) h.low
    simp only [List.getElem?_take_of_lt (show j < j + 1 from by omega)] at h1
    rw [← h1]
    exact ha
  constructor
  · rw [e1, hv2]
    exact Nat.mod_lt _ hV
  · rw [e1, hv2, valB_drop BW hxa, ← h.eq]
    have e2 : (p.set j q).drop j = q :: p.drop (j + 1) := by
      rw [List.drop_eq_getElem_cons (by rw [List.length_set]; exact hp), List.getElem_set_self, List.drop_set_of_lt (by omega)]
    have e3 : valB BW (q :: p.drop (j + 1)) = q + BW * valB BW (p.drop (j + 1)) := rfl
    have h2 := valB_drop BW ha
    rw [drop_app hA, hM2] at h2
    have h3 := Nat.div_add_mod (valB BW M) V
    rw [e2, e3, hq, Nat.add_mul, Nat.mul_add, Nat.mul_assoc]
    rw [Nat.mul_comm V] at h3
    omega
  · have h1 := congrArg (List.take j) h.low
    rw [List.take_take, List.take_take, Nat.min_eq_left (by omega)] at h1
    rw [← h1, List.take_append_of_le_length (by omega), List.take_append_of_le_length (by omega)]
  · simp only [List.length_append]
    omega
theorem LongD.fin {V x y s : Nat} {X u p : List Nat} (h : LongD V 0 X u p) (hX : valB BW X = x * s) (hV : V = y * s) (hs : 0 < s) : valB BW p = x / y ∧ valB BW u = (x % y) * s ∧ valB BW u / s = x % y := by
  have h1 := h.eq
  have h2 := h.lt
  rw [List.drop_zero] at h2
  rw [List.drop_zero, List.drop_zero, List.drop_zero, hX] at h1
  have h3 := quo_of (U := x * s) (V := V) (q := valB BW p) (by omega) (by rw [Nat.add_mul]; omega)
  subst hV
  rw [Nat.mul_div_mul_right _ _ hs, Nat.mul_mod_mul_right] at h3
  have h4 : valB BW u = (x % y) * s := by rw [← h3.2]; omega
  exact ⟨h3.1, h4, by rw [h4, Nat.mul_div_cancel _ hs]⟩
/-- The start. -/
theorem LongD.begin_ {x y s n L : Nat} {X p : List Nat} (hX : valB BW X = x * s) (hL : X.length = L + 1) (hx : x < BW ^ L) (hy : BW ^ n ≤ y) (hn : n ≤ L) (hs : 0 < s) (hp : p.length = L - n) : LongD (y * s) (L - n) X X p := by
  constructor
  · have h1 := valB_split BW X (L - n) (by omega)
    have h2 : x * s < BW ^ (L - n) * (y * s) := by
      have h3 : BW ^ (L - n) * BW ^ n ≤ BW ^ (L - n) * y := Nat.mul_le_mul_left _ hy
      rw [← Nat.pow_add, Nat.sub_add_cancel hn] at h3
      rw [← Nat.mul_assoc]
      exact Nat.mul_lt_mul_of_pos_right (by omega) hs
    rw [hX] at h1
    have h4 : BW ^ (L - n) * valB BW (X.drop (L - n)) < BW ^ (L - n) * (y * s) := by omega
    exact Nat.lt_of_mul_lt_mul_left h4
  · rw [List.drop_of_length_le (l := p) (by omega)]
    simp [valB]
  · rfl
  · rfl
end Go.Proofs.YthpknfoahimopaaGreatDoor

set_option linter.unusedVariables false
set_option linter.unusedSimpArgs false
set_option linter.unnecessarySimpa false
namespace Go.Proofs.YthpknfoahimopaaGreatDoor
open Go.RowKit

set_option maxRecDepth 100000 in
set_option maxHeartbeats 4000000 in
theorem ncompare_any (l m : List Nat) (ox oy : Option Addr) (cx cy : Nat) (F G : Foot) (w : World) (hs : SliceR wrdR 1 F w ox l) (ht : SliceR wrdR 1 G w oy m) (hw : Wrd l) (hv : Wrd m) (cl : Cut l) (cm : Cut m) (hlx : l.length ≤ 281474976710656) (hly : m.length ≤ 281474976710656) :
    Calls Tryz.prog 122 #[.slice ox l.length cx, .slice oy m.length cy] w fun e w' => ∃ r : Int, e = .returned (.int .i64 r) ∧ (r < 0 ↔ valB BW l < valB BW m) ∧ (0 < r ↔ valB BW m < valB BW l) ∧ Below w.heap.size w w' := by
  have HS := hide hs
  have HT := hide ht
  have HLT : Hid (l.length < m.length → valB BW l < valB BW m) := fun h => valB_len (by unfold BW; omega) hw hv cm h
  have HGT : Hid (m.length < l.length → valB BW m < valB BW l) := fun h => valB_len (by unfold BW; omega) hv hw cl h
  have HTL : Hid (∀ i x y, l[i]? = some x → m[i]? = some y → l.drop (i + 1) = m.drop (i + 1) → x < y → valB BW l < valB BW m) := fun i x y hx hy h hxy => valB_top hw hv hx hy h hxy
  have HTG : Hid (∀ i x y, l[i]? = some x → m[i]? = some y → l.drop (i + 1) = m.drop (i + 1) → y < x → valB BW m < valB BW l) := fun i x y hx hy h hxy => valB_top hv hw hy hx h.symm hxy
  have HW := hide hw
  have HV := hide hv
  clear hs ht hw hv cl cm
  by_cases hlen : l.length = m.length
  case neg =>
    have q1 : ((l.length : Int) != (m.length : Int)) = true := by simp; omega
    have hw1 : IntKind.i64.wrap ((l.length : Int) - (m.length : Int)) = (l.length : Int) - (m.length : Int) := i64_in (by omega)
    have h1 := HLT.out
    have h2 := HGT.out
    go_enter Tryz.func122, Tryz.ntmps122
    go_wp2_with fail
    go_ret
    refine ⟨(l.length : Int) - (m.length : Int), rfl, ?_, ?_, Below.refl _ _⟩
    · constructor
      · intro h; exact h1 (by omega)
      · intro h
        by_cases e : l.length < m.length
        · omega
        · have := h2 (by omega)
          omega
    · constructor
      · intro h; exact h2 (by omega)
      · intro h
        by_cases e : m.length < l.length
        · omega
        · have := h1 (by omega)
          omega
  obtain ⟨n, hn⟩ : ∃ n, n = l.length := ⟨_, rfl⟩
  have HN := hide hn
  have HM : Hid (n = m.length) := by show _ = _; omega
  rw [← hlen, ← hn]
  clear hlen HLT HGT hly
  rw [← hn] at hlx
  clear hn
  go_enter Tryz.func122, Tryz.ntmps122
  go_wp2_with fail
  go_loopg [5] n (fun gm sv wx => ∃ k : Nat, k ≤ n ∧ gm = k ∧ sv = .int .i64 ((k : Int) - 1) ∧ Hid (l.drop k = m.drop k) ∧ Hid (Below w.heap.size w wx))
  case atStart => exact ⟨n, by omega, by omega, rfl, by show _ = _; rw [HN.out, List.drop_length]; have := HM.out; rw [HN.out] at this; rw [this, List.drop_length], Below.refl _ _⟩
  case round =>
    obtain ⟨k, hk, hgm, rfl, HD, HB⟩ := hrel
    have HGM := hide hgm
    clear hgm
    rcases Nat.eq_zero_or_pos k with hk0 | hk0
    · subst hk0
      have HE : Hid (valB BW l = valB BW m) := by
        have := HD.out
        rw [List.drop_zero, List.drop_zero] at this
        show _ = _
        rw [this]
      have q1 : decide ((0 : Int) ≤ ((0 : Nat) : Int) - 1) = false := by simp
      go_wp2_with fail
      go_ret
      refine ⟨0, rfl, ?_, ?_, HB.out⟩ <;> rw [HE.out] <;> simp
    · obtain ⟨j, rfl⟩ : ∃ j, k = j + 1 := ⟨k - 1, by omega⟩
      have hj : j < l.length := by rw [← HN.out]; omega
      have hj2 : j < m.length := by rw [← HM.out]; omega
      obtain ⟨x, _, hx, hxb, b, off, hox, _, cx⟩ := (HS.out.below wrdR_ok HB.out).wrd_at hj
      obtain ⟨y, _, hy, hyb, b2, off2, hoy, _, cy⟩ := (HT.out.below wrdR_ok HB.out).wrd_at hj2
      have e1 : (((j + 1 : Nat) : Int) - 1) = (j : Int) := by omega
      rw [e1]
      subst hox hoy
      have HX := hide hx
      have HY := hide hy
      have hj0 : (0 : Int) ≤ j := by omega
      have hj1 : (j : Int) < n := by omega
      have q2 : decide ((0 : Int) ≤ (j : Int)) = true := by simp
      clear hx hy hj hj2 e1
      by_cases hxy : x = y
      · have q3 : ((x : Int) != (y : Int)) = false := by simp [hxy]
        have HD2 : Hid (l.drop j = m.drop j) := by
          show _ = _
          have h1 := List.getElem?_eq_some_iff.1 HX.out
          have h2 := List.getElem?_eq_some_iff.1 HY.out
          rw [List.drop_eq_getElem_cons h1.1, List.drop_eq_getElem_cons h2.1, h1.2, h2.2, hxy, HD.out]
        clear hxy
        go_wp2_with fail
        go_quiet (fail)
        go_wp2_with fail
        go_roundg j
        case rel => exact ⟨j, by omega, rfl, by go_num, HD2, below_drewN HB.out _⟩
        case measure => rw [HGM.out]; omega
      · have q3 : ((x : Int) != (y : Int)) = true := by simp; omega
        have hw1 : IntKind.i64.wrap ((x : Int) - (y : Int)) = (x : Int) - (y : Int) := i64_in (by omega)
        go_wp2_with fail
        go_quiet (fail)
        go_wp2_with fail
        go_quiet (fail)
        go_wp2_with fail
        go_ret
        refine ⟨(x : Int) - (y : Int), rfl, ?_, ?_, below_drewN (below_drewN HB.out _) _⟩
        · constructor
          · intro h; exact HTL.out j x y HX.out HY.out HD.out (by omega)
          · intro h
            by_cases e : x < y
            · omega
            · have := HTG.out j x y HX.out HY.out HD.out (by omega)
              omega
        · constructor
          · intro h; exact HTG.out j x y HX.out HY.out HD.out (by omega)
          · intro h
            by_cases e : y < x
            · omega
            · have := HTL.out j x y HX.out HY.out HD.out (by omega)
              omega
def CmpPost (w : World) (x y : Nat) (e : Ending) (w' : World) : Prop := ∃ r : Int, e = .returned (.int .i64 r) ∧ (r < 0 ↔ x < y) ∧ (0 < r ↔ y < x) ∧ Below w.heap.size w w'
theorem ncmp_nat {x y : Nat} {v1 v2 : Value} {w : World} (h1 : NatV w v1 x) (h2 : NatV w v2 y) (hx : Few x) (hy : Few y) : Calls Tryz.prog 122 #[v1, v2] w (CmpPost w x y) := by
  obtain ⟨oa, c, rfl, _, _, s1⟩ := h1
  obtain ⟨oa2, c2, rfl, _, _, s2⟩ := h2
  have := ncompare_any (wds x) (wds y) oa oa2 c c2 All All w s1 s2 (wds_wrd x) (wds_wrd y) (wds_cut x) (wds_cut y) (by unfold Few at hx; omega) (by unfold Few at hy; omega)
  rw [wds_val, wds_val] at this
  exact this
end Go.Proofs.YthpknfoahimopaaGreatDoor

set_option linter.unusedVariables false
set_option linter.unusedSimpArgs false
set_option linter.unnecessarySimpa false
namespace Go.Proofs.YthpknfoahimopaaGreatDoor
open Go.RowKit

theorem natlit (w : World) (e : TypeId) (z : Int) (s : Nat) (h : z = (s : Int)) (h0 : s ≠ 0) (h9 : s < 1000000000) : NatV (w.alloc (.cells #[.int .u32 z] e)) (.slice (some ⟨w.heap.size, 0, none⟩) 1 1) s := by
  refine ⟨some ⟨w.heap.size, 0, none⟩, 1, ?_, ?_, by omega, ?_⟩
  · rw [wds_one h0 h9]; rfl
  · rw [wds_one h0 h9]; simp
  · rw [wds_one h0 h9]; exact wrdl w e z s h (by omega)
theorem few_word {s : Nat} (h : s < 1000000000) : Few s := by
  unfold Few
  have := digB_len_le BW2 (n := s) (k := 1) (by rw [Nat.pow_one]; exact h)
  unfold wds
  omega
theorem wInfoSize : (Tryz.prog.info? 131).map (·.size) = some 1 := by kernel_rfl

set_option maxRecDepth 100000 in
set_option maxHeartbeats 4000000 in
/-- By a number of one word. -/
theorem ndiv_word {x y : Nat} {v1 v2 : Value} {w : World} (h1 : NatV w v1 x) (h2 : NatV w v2 y) (hx : Few x) (hy : (wds y).length = 1) : Calls Tryz.prog 116 #[v1, v2] w (NatPost2 w (x / y) (x % y)) := by
  have hy0 : y ≠ 0 := by rintro rfl; rw [wds_zero] at hy; simp at hy
  have hy9 : y < 1000000000 := by
    have := valB_lt (b := BW) (wds_wrd y)
    rw [wds_val, hy, Nat.pow_one] at this
    exact this
  have HSH := hide (nshort_any h1 hx (Nat.pos_of_ne_zero hy0) hy9)
  obtain ⟨ob, cb, rfl, hcb, hcm2, ht⟩ := h2
  obtain ⟨d, _, hd, _, bb, offb, hob, _, c0⟩ := ht.wrd_at (i := 0) (by omega)
  have HD : Hid (d = y) := by
    rw [wds_one hy0 hy9] at hd
    show _ = _
    simpa using hd.symm
  rw [hy]
  obtain rfl := HD.out
  subst hob
  rw [Nat.add_zero] at c0
  clear hd ht h1 hy
  go_enter Tryz.func116, Tryz.ntmps116
  go_wp2_with (go_at_call 128; (with_reducible refine HSH.out.mono ?_); rintro e w5 ⟨v, u, rfl, h5, h6, h7⟩; have H5 := hide h5; have H6 := hide h6; have H7 := hide h7; clear h5 h6 h7)
  go_ret2
  exact ⟨_, _, rfl, H5.out, H6.out, H7.out⟩

set_option maxRecDepth 100000 in
set_option maxHeartbeats 4000000 in
/-- By a greater number. -/
theorem ndiv_less {x y : Nat} {v1 v2 : Value} {w : World} (h1 : NatV w v1 x) (h2 : NatV w v2 y) (hx : Few x) (hyf : Few y) (hy : (wds y).length ≠ 1) (hlt : x < y) : Calls Tryz.prog 116 #[v1, v2] w (NatPost2 w (x / y) (x % y)) := by
  have HC := hide (ncmp_nat h1 h2 hx hyf)
  have H1 := hide h1
  obtain ⟨ob, cb, rfl, hcb, hcm2, ht⟩ := h2
  have tq : (((wds y).length : Int) == 1) = false := by simp; omega
  have E1 : Hid (x / y = 0) := Nat.div_eq_of_lt hlt
  have E2 : Hid (x % y = x) := Nat.mod_eq_of_lt hlt
  have HLT := hide hlt
  clear ht h1 hy hlt
  go_enter Tryz.func116, Tryz.ntmps116
  go_wp2_with (go_at_call 122; (with_reducible refine HC.out.mono ?_); rintro e w5 ⟨r, rfl, h5, h6, h7⟩; have hr := h5.2 HLT.out; have H7 := hide h7; clear h5 h6 h7)
  go_ret2
  exact ⟨_, _, rfl, by rw [E1.out]; exact NatV.nil _, by rw [E2.out]; exact H1.out.below H7.out, H7.out⟩
end Go.Proofs.YthpknfoahimopaaGreatDoor
