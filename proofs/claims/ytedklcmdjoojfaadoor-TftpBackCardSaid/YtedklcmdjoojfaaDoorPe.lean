/-
  DERIVED: THE SHELF's CONTRACTS AT THIS DUMP, IN PLAIN WORDS (tools/lay-plain.mjs out of 'TrydShelf.lean', which tools/lay-shelf.mjs wrote): THE SAME DECLARATIONS UNDER THE SAME NAMES: 'import', 'namespace', 'open', 'def', 'theorem' AND NOTHING ELSE: no command of the shelf's: FOR A HAND-IN. Each laying: the table of numbers ('.._ren') and one theorem, a field a fact of the dump's own or the kernel's comparison; each contract: ONE APPLICATION.
-/
import Derived.Shelf.Strconv.Atoi
import Derived.Shelf.Strconv.Itoa0
import Derived.Shelf.Strconv.Itoa1
import Derived.Shelf.LaysM
import Derived.Shelf.Strconv.Itoa2
import Derived.Shelf.Strconv.Itoa3
import Derived.Shelf.Strconv.AtoiErrFast
import Derived.Shelf.Strconv.ParseIntEmpty
import Derived.Shelf.Strconv.AtoiFail
import Derived.Shelf.Strconv.Clone
import Derived.Shelf.Strconv.SyntaxError
import Derived.Shelf.LaysC
import Derived.Shelf.Strconv.ToError
import Derived.Shelf.Strconv.Lower
import Derived.Shelf.Strconv.ParseUint10
import Derived.Shelf.Strconv.ParseUint10Empty
import Derived.Shelf.Strconv.ParseUint10Any
import Derived.Shelf.Strconv.ParseInt10
import Derived.Shelf.Strconv.AtoiLong
import Derived.Shelf.Strconv.AtoiInnerAll
import Derived.Shelf.Strconv.RangeError
import Derived.Shelf.Strconv.ToErrorRange
import Derived.Shelf.Strconv.AtoiAll
import Derived.Shelf.Strconv.ErrVarAll
import Derived.Shelf.Strconv.ParseUintEmpty
import Derived.Shelf.Strings.Search1
import Derived.Shelf.Strings.Search2
import Derived.Shelf.Strings.Search3
import Derived.Shelf.Strings.Shaped
import Derived.Shelf.Bytes.SlIndexSmall
import Derived.Shelf.Bytes.SlIndexAt
import Derived.Shelf.Bytes.SlSearch0
import Derived.Shelf.Bytes.SlSearch1
import Derived.Shelf.Bytes.SlSearch2
import Derived.Shelf.Bytes.SlIndexWhole
import Derived.Ground.SlbCloneProg
import Derived.Shelf.Bytes.SlClone
import Derived.Ground.SlbtProg
import Derived.Shelf.Bytes.SlCut
import Derived.Shelf.Bytes.Small
import Derived.Shelf.Bytes.IndexByte
import Derived.Test.YtedklcmdjoojfaaDoorProg
import Derived.Test.YtedklcmdjoojfaaDoorPd
import Derived.Lib.SplitLaws
import Derived.Lib.IndexBytes
import Derived.Lib.IndexLaws
import Derived.Lib.ItoaNum
import Derived.Lib.ParseIntB
import Derived.Lib.Join
import Derived.Laws.Strings
import Derived.Lib.AtoiTie
namespace Go.Proofs
open Go.Shelf
def Tryd.laysM171_ren : Go.Shelf.Ren := ⟨fun | 171 => 31 | 243 => 52 | 246 => 64 | 283 => 69 | 284 => 70 | 285 => 71 | 286 => 72 | 129 => 80 | 317 => 79 | 318 => 81 | 319 => 82 | 320 => 83 | 337 => 92 | 338 => 93 | n => n, fun | 3 => 3 | 9 => 9 | 2 => 2 | 4 => 4 | 171 => 93 | 0 => 0 | 53 => 80 | 37 => 24 | 5 => 5 | 173 => 96 | 212 => 106 | 51 => 107 | 20 => 20 | 213 => 108 | 46 => 90 | 232 => 123 | 233 => 124 | n => n, fun | 17 => 1 | 18 => 2 | 19 => 3 | n => n⟩
theorem Tryd.laysM171 : Go.Proofs.LaysM.n171 Tryd.prog Tryd.laysM171_ren := {
  mixed := by kernel_rfl
  f129 := Tryd.func80.trans (congrArg some (by kernel_rfl))
  f171 := Tryd.func31.trans (congrArg some (by kernel_rfl))
  f243 := Tryd.func52.trans (congrArg some (by kernel_rfl))
  f246 := Tryd.func64.trans (congrArg some (by kernel_rfl))
  f283 := Tryd.func69.trans (congrArg some (by kernel_rfl))
  f284 := Tryd.func70.trans (congrArg some (by kernel_rfl))
  f285 := Tryd.func71.trans (congrArg some (by kernel_rfl))
  f286 := Tryd.func72.trans (congrArg some (by kernel_rfl))
  f317 := Tryd.func79.trans (congrArg some (by kernel_rfl))
  f318 := Tryd.func81.trans (congrArg some (by kernel_rfl))
  f319 := Tryd.func82.trans (congrArg some (by kernel_rfl))
  f320 := Tryd.func83.trans (congrArg some (by kernel_rfl))
  f337 := Tryd.func92.trans (congrArg some (by kernel_rfl))
  f338 := Tryd.func93.trans (congrArg some (by kernel_rfl))
  t0 := Tryd.underlying0
  a0 := Tryd.isAgg0
  z0 := Tryd.sizeOf0
  v0 := Tryd.zeroValue0
  t2 := Tryd.underlying2
  a2 := Tryd.isAgg2
  z2 := Tryd.sizeOf2
  v2 := Tryd.zeroValue2
  t3 := Tryd.underlying3
  a3 := Tryd.isAgg3
  z3 := Tryd.sizeOf3
  v3 := Tryd.zeroValue3
  t4 := Tryd.underlying4
  a4 := Tryd.isAgg4
  z4 := Tryd.sizeOf4
  v4 := Tryd.zeroValue4
  t5 := Tryd.underlying5
  a5 := Tryd.isAgg5
  z5 := Tryd.sizeOf5
  v5 := Tryd.zeroValue5
  t9 := Tryd.underlying9
  a9 := Tryd.isAgg9
  z9 := Tryd.sizeOf9
  v9 := Tryd.zeroValue9
  t20 := Tryd.underlying20
  a20 := Tryd.isAgg20
  z20 := Tryd.sizeOf20
  v20 := Tryd.zeroValue20
  t37 := Tryd.underlying24
  a37 := Tryd.isAgg24
  z37 := Tryd.sizeOf24
  v37 := Tryd.zeroValue24
  t46 := Tryd.underlying90
  a46 := Tryd.isAgg90
  z46 := Tryd.sizeOf90
  v46 := Tryd.zeroValue90
  t51 := Tryd.underlying107
  a51 := Tryd.isAgg107
  z51 := Tryd.sizeOf107
  v51 := Tryd.zeroValue107
  t53 := Tryd.underlying80
  a53 := Tryd.isAgg80
  z53 := Tryd.sizeOf80
  v53 := Tryd.zeroValue80
  t171 := Tryd.underlying93
  a171 := Tryd.isAgg93
  z171 := Tryd.sizeOf93
  v171 := Tryd.zeroValue93
  t173 := Tryd.underlying96
  a173 := Tryd.isAgg96
  z173 := Tryd.sizeOf96
  v173 := Tryd.zeroValue96
  t212 := Tryd.underlying106
  a212 := Tryd.isAgg106
  z212 := Tryd.sizeOf106
  v212 := Tryd.zeroValue106
  t213 := Tryd.underlying108
  a213 := Tryd.isAgg108
  z213 := Tryd.sizeOf108
  t232 := Tryd.underlying123
  a232 := Tryd.isAgg123
  z232 := Tryd.sizeOf123
  v232 := Tryd.zeroValue123
  t233 := Tryd.underlying124
  a233 := Tryd.isAgg124
  z233 := Tryd.sizeOf124
  v233 := Tryd.zeroValue124
  g17 := by kernel_rfl
  g18 := by kernel_rfl
  g19 := by kernel_rfl
  i0 := by kernel_rfl
  i2 := by kernel_rfl
  i3 := by kernel_rfl
  i4 := by kernel_rfl
  i5 := by kernel_rfl
  i9 := by kernel_rfl
  i20 := by kernel_rfl
  i37 := by kernel_rfl
  i46 := by kernel_rfl
  i51 := by kernel_rfl
  i53 := by kernel_rfl
  i171 := by kernel_rfl
  i173 := by kernel_rfl
  i212 := by kernel_rfl
  i232 := by kernel_rfl
  i233 := by kernel_rfl
  m17 := by kernel_rfl
  m18 := by kernel_rfl
  m19 := by kernel_rfl }
open Go.RowKit Go.Sort Go.Lib in
/-- strconv.Itoa: "Itoa is equivalent to FormatInt(int64(i), 10).": i's DECIMAL NUMERAL ('Lib.itoa': a '-' where i is negative, then the digits), FOR EVERY int. The world behind the call: the world before it, new blocks behind the heap (the library's 'var a [24]byte'), draws. (LAID: no walk: one application.) -/
theorem Tryd.strconv_Itoa (n : Int) (h0 : -9223372036854775808 ≤ n) (h1 : n ≤ 9223372036854775807) (w : World) (htab : Lib.TabIs Tryd.prog w "internal/strconv.uint64pow10" .u64 Lib.pow10Tab) :
    Calls Tryd.prog 31 #[.int .i64 n] w fun e w' => e = .returned (.string ⟨(Lib.itoa n).toArray⟩) ∧ ∃ k os, w' = grow (w.drewN k) os := Any.strconv_Itoa Tryd.laysM171 n h0 h1 w htab
def Tryd.laysC172_ren : Go.Shelf.Ren := ⟨fun | 172 => 73 | 244 => 84 | 245 => 85 | 247 => 94 | 279 => 95 | 280 => 96 | 281 => 97 | 282 => 98 | 287 => 101 | 316 => 102 | 171 => 31 | 205 => 103 | 321 => 104 | 322 => 105 | 243 => 52 | 246 => 64 | 283 => 69 | 284 => 70 | 285 => 71 | 286 => 72 | 129 => 80 | 317 => 79 | 318 => 81 | 319 => 82 | 320 => 83 | 337 => 92 | 338 => 93 | n => n, fun | 9 => 9 | 3 => 3 | 75 => 99 | 76 => 100 | 4 => 4 | 5 => 5 | 167 => 116 | 37 => 24 | 0 => 0 | 85 => 117 | 2 => 2 | 168 => 119 | 53 => 80 | 175 => 125 | 46 => 90 | 210 => 128 | 127 => 131 | 145 => 134 | 143 => 132 | 21 => 21 | 171 => 93 | 173 => 96 | 212 => 106 | 51 => 107 | 20 => 20 | 213 => 108 | 232 => 123 | 233 => 124 | 80 => 135 | n => n, fun | 15 => 4 | 16 => 5 | 17 => 1 | 18 => 2 | 19 => 3 | n => n⟩
theorem Tryd.laysC172 : Go.Proofs.LaysC.n172 Tryd.prog Tryd.laysC172_ren := {
  mixed := by kernel_rfl
  f129 := Tryd.func80.trans (congrArg some (by kernel_rfl))
  f171 := Tryd.func31.trans (congrArg some (by kernel_rfl))
  f172 := Tryd.func73.trans (congrArg some (by kernel_rfl))
  f205 := Tryd.func103.trans (congrArg some (by kernel_rfl))
  f243 := Tryd.func52.trans (congrArg some (by kernel_rfl))
  f244 := Tryd.func84.trans (congrArg some (by kernel_rfl))
  f245 := Tryd.func85.trans (congrArg some (by kernel_rfl))
  f246 := Tryd.func64.trans (congrArg some (by kernel_rfl))
  f247 := Tryd.func94.trans (congrArg some (by kernel_rfl))
  f279 := Tryd.func95.trans (congrArg some (by kernel_rfl))
  f280 := Tryd.func96.trans (congrArg some (by kernel_rfl))
  f281 := Tryd.func97.trans (congrArg some (by kernel_rfl))
  f282 := Tryd.func98.trans (congrArg some (by kernel_rfl))
  f283 := Tryd.func69.trans (congrArg some (by kernel_rfl))
  f284 := Tryd.func70.trans (congrArg some (by kernel_rfl))
  f285 := Tryd.func71.trans (congrArg some (by kernel_rfl))
  f286 := Tryd.func72.trans (congrArg some (by kernel_rfl))
  f287 := Tryd.func101.trans (congrArg some (by kernel_rfl))
  f316 := Tryd.func102.trans (congrArg some (by kernel_rfl))
  f317 := Tryd.func79.trans (congrArg some (by kernel_rfl))
  f318 := Tryd.func81.trans (congrArg some (by kernel_rfl))
  f319 := Tryd.func82.trans (congrArg some (by kernel_rfl))
  f320 := Tryd.func83.trans (congrArg some (by kernel_rfl))
  f321 := Tryd.func104.trans (congrArg some (by kernel_rfl))
  f322 := Tryd.func105.trans (congrArg some (by kernel_rfl))
  f337 := Tryd.func92.trans (congrArg some (by kernel_rfl))
  f338 := Tryd.func93.trans (congrArg some (by kernel_rfl))
  t0 := Tryd.underlying0
  a0 := Tryd.isAgg0
  z0 := Tryd.sizeOf0
  v0 := Tryd.zeroValue0
  t2 := Tryd.underlying2
  a2 := Tryd.isAgg2
  z2 := Tryd.sizeOf2
  v2 := Tryd.zeroValue2
  t3 := Tryd.underlying3
  a3 := Tryd.isAgg3
  z3 := Tryd.sizeOf3
  v3 := Tryd.zeroValue3
  t4 := Tryd.underlying4
  a4 := Tryd.isAgg4
  z4 := Tryd.sizeOf4
  v4 := Tryd.zeroValue4
  t5 := Tryd.underlying5
  a5 := Tryd.isAgg5
  z5 := Tryd.sizeOf5
  v5 := Tryd.zeroValue5
  t9 := Tryd.underlying9
  a9 := Tryd.isAgg9
  z9 := Tryd.sizeOf9
  v9 := Tryd.zeroValue9
  t20 := Tryd.underlying20
  a20 := Tryd.isAgg20
  z20 := Tryd.sizeOf20
  v20 := Tryd.zeroValue20
  t21 := Tryd.underlying21
  a21 := Tryd.isAgg21
  z21 := Tryd.sizeOf21
  v21 := Tryd.zeroValue21
  t37 := Tryd.underlying24
  a37 := Tryd.isAgg24
  z37 := Tryd.sizeOf24
  v37 := Tryd.zeroValue24
  t46 := Tryd.underlying90
  a46 := Tryd.isAgg90
  z46 := Tryd.sizeOf90
  v46 := Tryd.zeroValue90
  t51 := Tryd.underlying107
  a51 := Tryd.isAgg107
  z51 := Tryd.sizeOf107
  v51 := Tryd.zeroValue107
  t53 := Tryd.underlying80
  a53 := Tryd.isAgg80
  z53 := Tryd.sizeOf80
  v53 := Tryd.zeroValue80
  t75 := Tryd.underlying99
  a75 := Tryd.isAgg99
  z75 := Tryd.sizeOf99
  v75 := Tryd.zeroValue99
  t76 := Tryd.underlying100
  a76 := Tryd.isAgg100
  z76 := Tryd.sizeOf100
  v76 := Tryd.zeroValue100
  t85 := Tryd.underlying117
  a85 := Tryd.isAgg117
  z85 := Tryd.sizeOf117
  v85 := Tryd.zeroValue117
  t127 := Tryd.underlying131
  a127 := Tryd.isAgg131
  z127 := Tryd.sizeOf131
  v127 := Tryd.zeroValue131
  t143 := Tryd.underlying132
  a143 := Tryd.isAgg132
  z143 := Tryd.sizeOf132
  v143 := Tryd.zeroValue132
  t145 := Tryd.underlying134
  a145 := Tryd.isAgg134
  z145 := Tryd.sizeOf134
  v145 := Tryd.zeroValue134
  t167 := Tryd.underlying116
  a167 := Tryd.isAgg116
  z167 := Tryd.sizeOf116
  v167 := Tryd.zeroValue116
  t168 := Tryd.underlying119
  a168 := Tryd.isAgg119
  z168 := Tryd.sizeOf119
  v168 := Tryd.zeroValue119
  t171 := Tryd.underlying93
  a171 := Tryd.isAgg93
  z171 := Tryd.sizeOf93
  v171 := Tryd.zeroValue93
  t173 := Tryd.underlying96
  a173 := Tryd.isAgg96
  z173 := Tryd.sizeOf96
  v173 := Tryd.zeroValue96
  t175 := Tryd.underlying125
  a175 := Tryd.isAgg125
  z175 := Tryd.sizeOf125
  v175 := Tryd.zeroValue125
  t210 := Tryd.underlying128
  a210 := Tryd.isAgg128
  z210 := Tryd.sizeOf128
  v210 := Tryd.zeroValue128
  t212 := Tryd.underlying106
  a212 := Tryd.isAgg106
  z212 := Tryd.sizeOf106
  v212 := Tryd.zeroValue106
  t213 := Tryd.underlying108
  a213 := Tryd.isAgg108
  z213 := Tryd.sizeOf108
  t232 := Tryd.underlying123
  a232 := Tryd.isAgg123
  z232 := Tryd.sizeOf123
  v232 := Tryd.zeroValue123
  t233 := Tryd.underlying124
  a233 := Tryd.isAgg124
  z233 := Tryd.sizeOf124
  v233 := Tryd.zeroValue124
  g15 := by kernel_rfl
  g16 := by kernel_rfl
  g17 := by kernel_rfl
  g18 := by kernel_rfl
  g19 := by kernel_rfl
  t80 := Tryd.underlying135
  a80 := Tryd.isAgg135
  z80 := Tryd.sizeOf135
  v80 := Tryd.zeroValue135
  i0 := by kernel_rfl
  i2 := by kernel_rfl
  i3 := by kernel_rfl
  i4 := by kernel_rfl
  i5 := by kernel_rfl
  i9 := by kernel_rfl
  i20 := by kernel_rfl
  i21 := by kernel_rfl
  i37 := by kernel_rfl
  i46 := by kernel_rfl
  i51 := by kernel_rfl
  i53 := by kernel_rfl
  i75 := by kernel_rfl
  i76 := by kernel_rfl
  i80 := by kernel_rfl
  i85 := by kernel_rfl
  i127 := by kernel_rfl
  i143 := by kernel_rfl
  i145 := by kernel_rfl
  i167 := by kernel_rfl
  i168 := by kernel_rfl
  i171 := by kernel_rfl
  i173 := by kernel_rfl
  i175 := by kernel_rfl
  i210 := by kernel_rfl
  i212 := by kernel_rfl
  i232 := by kernel_rfl
  i233 := by kernel_rfl
  m15 := by kernel_rfl
  m16 := by kernel_rfl
  m17 := by kernel_rfl
  m18 := by kernel_rfl
  m19 := by kernel_rfl
  c0 := by kernel_rfl
  c2 := by kernel_rfl
  c3 := by kernel_rfl
  c4 := by kernel_rfl
  c5 := by kernel_rfl
  c9 := by kernel_rfl
  c20 := by kernel_rfl
  c21 := by kernel_rfl
  c37 := by kernel_rfl
  c46 := by kernel_rfl
  c51 := by kernel_rfl
  c53 := by kernel_rfl
  c75 := by kernel_rfl
  c76 := by kernel_rfl
  c80 := by kernel_rfl
  c85 := by kernel_rfl
  c127 := by kernel_rfl
  c143 := by kernel_rfl
  c145 := by kernel_rfl
  c167 := by kernel_rfl
  c168 := by kernel_rfl
  c171 := by kernel_rfl
  c173 := by kernel_rfl
  c175 := by kernel_rfl
  c210 := by kernel_rfl
  c212 := by kernel_rfl
  c213 := by kernel_rfl
  c232 := by kernel_rfl
  c233 := by kernel_rfl }
open Go.RowKit in
/-- strconv.Atoi, AT EVERY STRING THAT SPELLS AN int ('Lib.atoiAll .. = .ok v'; of whatever length: leading zeros count): v, AND NO ERROR. The world: as it was, or with the one new row that '[]byte(..)' lays. (LAID: no walk: one application.) -/
theorem Tryd.strconv_Atoi_ok (s : ByteArray) (hmax : s.size ≤ 9223372036854775806) (v : Int) (h : Lib.atoiAll s.data.toList = .ok v) (w : World) :
    Calls Tryd.prog 73 #[.string s] w fun e w' => e = .returned (.tuple #[.int .i64 v, .nilIface]) ∧ (w' = w ∨ ∃ t, w' = Lib.bytesWorld w 5 t) := Any.strconv_Atoi_ok Tryd.laysC172 s hmax v h w
def Tryd.lays144_ren : Go.Shelf.Ren := ⟨fun | 144 => 50 | 143 => 63 | 219 => 68 | 217 => 75 | 225 => 76 | 224 => 77 | 267 => 78 | 266 => 90 | 314 => 91 | n => n, fun | 9 => 9 | 4 => 4 | 3 => 3 | 5 => 5 | 46 => 90 | 146 => 113 | 51 => 107 | n => n, fun | 1 => 0 | n => n⟩
theorem Tryd.lays144 : Go.Proofs.Lays.n144 Tryd.prog Tryd.lays144_ren := {
  mixed := by kernel_rfl
  f143 := Tryd.func63.trans (congrArg some (by kernel_rfl))
  f144 := Tryd.func50.trans (congrArg some (by kernel_rfl))
  f217 := Tryd.func75.trans (congrArg some (by kernel_rfl))
  f219 := Tryd.func68.trans (congrArg some (by kernel_rfl))
  f224 := Tryd.func77.trans (congrArg some (by kernel_rfl))
  f225 := Tryd.func76.trans (congrArg some (by kernel_rfl))
  f266 := Tryd.func90.trans (congrArg some (by kernel_rfl))
  f267 := Tryd.func78.trans (congrArg some (by kernel_rfl))
  f314 := Tryd.func91.trans (congrArg some (by kernel_rfl))
  t3 := Tryd.underlying3
  a3 := Tryd.isAgg3
  z3 := Tryd.sizeOf3
  v3 := Tryd.zeroValue3
  t4 := Tryd.underlying4
  a4 := Tryd.isAgg4
  z4 := Tryd.sizeOf4
  v4 := Tryd.zeroValue4
  t5 := Tryd.underlying5
  a5 := Tryd.isAgg5
  z5 := Tryd.sizeOf5
  v5 := Tryd.zeroValue5
  t9 := Tryd.underlying9
  a9 := Tryd.isAgg9
  z9 := Tryd.sizeOf9
  v9 := Tryd.zeroValue9
  t46 := Tryd.underlying90
  a46 := Tryd.isAgg90
  z46 := Tryd.sizeOf90
  v46 := Tryd.zeroValue90
  t51 := Tryd.underlying107
  a51 := Tryd.isAgg107
  z51 := Tryd.sizeOf107
  v51 := Tryd.zeroValue107
  t146 := Tryd.underlying113
  a146 := Tryd.isAgg113
  z146 := Tryd.sizeOf113
  v146 := Tryd.zeroValue113
  g1 := by kernel_rfl }
open Go.RowKit Go.Lib in
/-- strings.Contains: "Contains reports whether substr is within s.": AT A substr OF ONE BYTE c: IT RETURNS 'decide (0 ≤ Lib.indexByte s c)'; the world is as it was. (LAID: no walk: one application.) -/
theorem Tryd.strings_Contains_one (s : ByteArray) (c : UInt8) (w : World) :
    Calls Tryd.prog 50 #[.string s, .string ⟨#[c]⟩] w fun e w' => e = .returned (.bool (decide (0 ≤ Lib.indexByte s.data.toList c))) ∧ w' = w := Any.strings_Contains_one Tryd.lays144 s c w
def Tryd.lays185_ren : Go.Shelf.Ren := ⟨fun | 185 => 74 | 187 => 86 | 115 => 87 | 253 => 88 | 224 => 77 | 254 => 89 | 255 => 99 | 291 => 100 | n => n, fun | 37 => 24 | 3 => 3 | 4 => 4 | 0 => 0 | 5 => 5 | 46 => 90 | 9 => 9 | 146 => 113 | 51 => 107 | n => n, fun | 1 => 0 | n => n⟩
theorem Tryd.lays185 : Go.Proofs.Lays.n185 Tryd.prog Tryd.lays185_ren := {
  mixed := by kernel_rfl
  f115 := Tryd.func87.trans (congrArg some (by kernel_rfl))
  f185 := Tryd.func74.trans (congrArg some (by kernel_rfl))
  f187 := Tryd.func86.trans (congrArg some (by kernel_rfl))
  f224 := Tryd.func77.trans (congrArg some (by kernel_rfl))
  f253 := Tryd.func88.trans (congrArg some (by kernel_rfl))
  f254 := Tryd.func89.trans (congrArg some (by kernel_rfl))
  f255 := Tryd.func99.trans (congrArg some (by kernel_rfl))
  f291 := Tryd.func100.trans (congrArg some (by kernel_rfl))
  t0 := Tryd.underlying0
  a0 := Tryd.isAgg0
  z0 := Tryd.sizeOf0
  v0 := Tryd.zeroValue0
  t3 := Tryd.underlying3
  a3 := Tryd.isAgg3
  z3 := Tryd.sizeOf3
  v3 := Tryd.zeroValue3
  t4 := Tryd.underlying4
  a4 := Tryd.isAgg4
  z4 := Tryd.sizeOf4
  v4 := Tryd.zeroValue4
  t5 := Tryd.underlying5
  a5 := Tryd.isAgg5
  z5 := Tryd.sizeOf5
  v5 := Tryd.zeroValue5
  t9 := Tryd.underlying9
  a9 := Tryd.isAgg9
  z9 := Tryd.sizeOf9
  v9 := Tryd.zeroValue9
  t37 := Tryd.underlying24
  a37 := Tryd.isAgg24
  z37 := Tryd.sizeOf24
  v37 := Tryd.zeroValue24
  t46 := Tryd.underlying90
  a46 := Tryd.isAgg90
  z46 := Tryd.sizeOf90
  v46 := Tryd.zeroValue90
  t51 := Tryd.underlying107
  a51 := Tryd.isAgg107
  z51 := Tryd.sizeOf107
  v51 := Tryd.zeroValue107
  t146 := Tryd.underlying113
  a146 := Tryd.isAgg113
  z146 := Tryd.sizeOf113
  v146 := Tryd.zeroValue113
  g1 := by kernel_rfl }
open Go.RowKit Go.Lib in
/-- The same where s is nil: -1. (LAID: no walk: one application.) -/
theorem Tryd.bytes_Index_one_nil (b2 o2 d : Nat) (cv : Int) (w : World) (hc2 : w.cell? ⟨b2, o2, none⟩ = some (.int .u8 cv)) :
    Calls Tryd.prog 74 #[.slice none 0 0, .slice (some ⟨b2, o2, none⟩) 1 d] w fun e w' => e = .returned (.int .i64 (-1)) ∧ w' = w := Any.bytes_Index_one_nil Tryd.lays185 b2 o2 d cv w hc2
open Go.RowKit Go.Lib in
/-- bytes.Index at a separator of one byte, s at whatever address. (LAID: no walk: one application.) -/
theorem Tryd.bytes_Index_one_at (a : Addr) (n c b2 o2 d : Nat) (xs : List Int) (cv : Int) (w : World) (hx : xs.length = n) (hc : ∀ i, i < n → w.cell? (a.add i) = some (.int .u8 (xs.getD i 0))) (hc2 : w.cell? ⟨b2, o2, none⟩ = some (.int .u8 cv)) :
    Calls Tryd.prog 74 #[.slice (some a) n c, .slice (some ⟨b2, o2, none⟩) 1 d] w fun e w' => e = .returned (.int .i64 (Lib.indexByte (Lib.bytesOf xs) cv.toNat.toUInt8)) ∧ w' = w := Any.bytes_Index_one_at Tryd.lays185 a n c b2 o2 d xs cv w hx hc hc2
def Tryd.laysSlT4_ren : Go.Shelf.Ren := ⟨fun | 4 => 67 | 5 => 74 | 6 => 86 | 7 => 87 | 8 => 88 | 9 => 77 | 10 => 89 | 11 => 99 | 12 => 100 | n => n, fun | 22 => 24 | 4 => 4 | 3 => 3 | 0 => 0 | 5 => 5 | 29 => 90 | 9 => 9 | 31 => 113 | 30 => 107 | n => n, fun | 0 => 0 | n => n⟩
theorem Tryd.laysSlT4 : Go.Proofs.SlLaysT.n4 Tryd.prog Tryd.laysSlT4_ren := {
  mixed := by kernel_rfl
  f4 := Tryd.func67.trans (congrArg some (by kernel_rfl))
  f5 := Tryd.func74.trans (congrArg some (by kernel_rfl))
  f6 := Tryd.func86.trans (congrArg some (by kernel_rfl))
  f7 := Tryd.func87.trans (congrArg some (by kernel_rfl))
  f8 := Tryd.func88.trans (congrArg some (by kernel_rfl))
  f9 := Tryd.func77.trans (congrArg some (by kernel_rfl))
  f10 := Tryd.func89.trans (congrArg some (by kernel_rfl))
  f11 := Tryd.func99.trans (congrArg some (by kernel_rfl))
  f12 := Tryd.func100.trans (congrArg some (by kernel_rfl))
  t0 := Tryd.underlying0
  a0 := Tryd.isAgg0
  z0 := Tryd.sizeOf0
  v0 := Tryd.zeroValue0
  t3 := Tryd.underlying3
  a3 := Tryd.isAgg3
  z3 := Tryd.sizeOf3
  v3 := Tryd.zeroValue3
  t4 := Tryd.underlying4
  a4 := Tryd.isAgg4
  z4 := Tryd.sizeOf4
  v4 := Tryd.zeroValue4
  t5 := Tryd.underlying5
  a5 := Tryd.isAgg5
  z5 := Tryd.sizeOf5
  v5 := Tryd.zeroValue5
  t9 := Tryd.underlying9
  a9 := Tryd.isAgg9
  z9 := Tryd.sizeOf9
  v9 := Tryd.zeroValue9
  t22 := Tryd.underlying24
  a22 := Tryd.isAgg24
  z22 := Tryd.sizeOf24
  v22 := Tryd.zeroValue24
  t29 := Tryd.underlying90
  a29 := Tryd.isAgg90
  z29 := Tryd.sizeOf90
  v29 := Tryd.zeroValue90
  t30 := Tryd.underlying107
  a30 := Tryd.isAgg107
  z30 := Tryd.sizeOf107
  v30 := Tryd.zeroValue107
  t31 := Tryd.underlying113
  a31 := Tryd.isAgg113
  z31 := Tryd.sizeOf113
  v31 := Tryd.zeroValue113
  g0 := by kernel_rfl }
theorem Tryd.bytes_Cut_of (p1 p2 : Option Addr) (n c1 k c2 : Nat) (i : Int) (w : World) (hcap : n ≤ c1) (hlo : -1 ≤ i) (hroom : 0 ≤ i → i + k ≤ n) (hn : n ≤ 4611686018427387904) (hidx : Calls Tryd.prog 74 #[.slice p1 n c1, .slice p2 k c2] w fun e w' => e = .returned (.int .i64 i) ∧ ∃ q, w' = w.drewN q) :
    Calls Tryd.prog 67 #[.slice p1 n c1, .slice p2 k c2] w fun e w' => e = .returned (Lib.cutV p1 n c1 k i) ∧ ∃ q, w' = w.drewN q := Any.bytes_Cut_of Tryd.laysSlT4 p1 p2 n c1 k c2 i w hcap hlo hroom hn hidx
end Go.Proofs

/-
  The library's functions that layer 1 calls: what a call of each is, over heaps.
-/
set_option linter.unusedSimpArgs false
set_option linter.unusedVariables false
namespace Go.Proofs.YtedklcmdjoojfaaDoor
open Go Go.Hw Go.RowKit Go.Sort
theorem push_old {w : World} {o o' : Obj} {b : Nat} (hb : hpOf w b = some o) : (w.heap.push o')[b]? = some o := by
  have hlt : b < w.heap.size := (Array.getElem?_eq_some_iff.1 hb).1
  rw [Array.getElem?_push, if_neg (by omega)]; exact hb
theorem frzn_ne {h : Hp} {a : Addr} {n b : Nat} (hn : b ≠ a.block) : frzn h a n b = h b := by
  unfold frzn
  split
  · rfl
  · cases hq : h a.block with
    | none => rfl
    | some o => cases o <;> first | rfl | (simp only; rw [upd_ne hn])
theorem ext_below {w w' : World} {B : Nat} (hB : w.heap.size ≤ B) (h : Below B w w') : Ext none' (hpOf w) (hpOf w') := by
  intro b o hb _
  have hlt : b < w.heap.size := (Array.getElem?_eq_some_iff.1 hb).1
  show w'.heap[b]? = _
  rw [h.block b (by omega)]; exact hb
theorem kp_below {w w' : World} {B : Nat} (h : Below B w w') : Kp w w' := ⟨h.os, h.output⟩
theorem ext_grow (w : World) (os : Array Obj) (n : Nat) : Ext none' (hpOf w) (hpOf (grow (w.drewN n) os)) := by
  intro b o hb _
  have hlt : b < w.heap.size := (Array.getElem?_eq_some_iff.1 hb).1
  show (w.heap ++ os)[b]? = _
  rw [Array.getElem?_append_left hlt]; exact hb
structure Glob (h : Hp) : Prop where
  pow : ∀ i z, Lib.pow10Tab[i]? = some z → cell h ⟨1, i, none⟩ = some (.int .u64 z)
  powN : ∃ cs e fr, h 1 = some (.cells ⟨cs⟩ e fr) ∧ cs.length = 20
  syn : ∃ te pe, cell h ⟨4, 0, none⟩ = some (.iface te pe)
  rng : ∃ te pe, cell h ⟨5, 0, none⟩ = some (.iface te pe)
  max : ∃ m, cell h ⟨0, 0, none⟩ = some (.int .i64 m)
theorem Glob.ext {h h' : Hp} (G : Glob h) (he : Ext none' h h') : Glob h' :=
  ⟨fun i z hz => cellx he (G.pow i z hz), let ⟨cs, e, fr, hb, hl⟩ := G.powN; ⟨cs, e, fr, he _ _ hb (fun e => e), hl⟩, let ⟨a, b, hc⟩ := G.syn; ⟨a, b, cellx he hc⟩, let ⟨a, b, hc⟩ := G.rng; ⟨a, b, cellx he hc⟩, let ⟨m, hc⟩ := G.max; ⟨m, cellx he hc⟩⟩
theorem pow_len : Lib.pow10Tab.length = 20 := by decide
theorem tab_of {w : World} (G : Glob (hpOf w)) : Lib.TabIs Tryd.prog w "internal/strconv.uint64pow10" .u64 Lib.pow10Tab := by
  obtain ⟨cs, e, fr, hb, hl⟩ := G.powN
  have hg : Tryd.prog.globalNamed "internal/strconv.uint64pow10" = some 1 := by kernel_rfl
  unfold Lib.TabIs World.var?
  rw [hg]
  have hb' : w.heap[1]? = some (.cells ⟨cs⟩ e fr) := hb
  simp only [Option.bind_some, hb']
  congr 1
  apply Array.ext'
  show cs = Lib.pow10Tab.map fun z => Value.int .u64 z
  apply List.ext_getElem?
  intro i
  by_cases hi : i < 20
  · have h1 : i < Lib.pow10Tab.length := by rw [pow_len]; exact hi
    have h2 := G.pow i _ (List.getElem?_eq_getElem h1)
    rw [cell_at hb] at h2
    rw [h2, List.getElem?_map, List.getElem?_eq_getElem h1]; rfl
  · rw [List.getElem?_eq_none (by omega), List.getElem?_eq_none (by rw [List.length_map, pow_len]; omega)]
theorem c_itoa {n : Int} {h : Hp} {K : ByteArray → Hp → Prop} (G : Glob h) (h0 : -9223372036854775808 ≤ n) (h1 : n ≤ 9223372036854775807) (hK : ∀ h', Ext none' h h' → K ⟨⟨Lib.itoa n⟩⟩ h') : C31 n h K := by
  intro w hw
  subst hw
  refine (Tryd.strconv_Itoa n h0 h1 w (tab_of G)).mono ?_
  rintro e w' ⟨rfl, k, os, rfl⟩
  exact ⟨_, rfl, hK _ (ext_grow w os k), rfl, rfl⟩
end Go.Proofs.YtedklcmdjoojfaaDoor

set_option linter.unusedVariables false
set_option maxRecDepth 100000
namespace Go.Proofs.YtedklcmdjoojfaaDoor
open Go Go.Hw
end Go.Proofs.YtedklcmdjoojfaaDoor

set_option linter.unusedVariables false
set_option maxRecDepth 100000
namespace Go.Proofs.YtedklcmdjoojfaaDoor
open Go Go.Hw
end Go.Proofs.YtedklcmdjoojfaaDoor

/-
  The internet's sum: the program's and the document's; bytes lent; the bound.
-/
-- (no octet.Sum)
-- (no ref01.Sum)
-- (no ref01.Beyond)
set_option linter.unusedSimpArgs false
set_option linter.unusedVariables false
namespace Go.Proofs.YtedklcmdjoojfaaDoor
open Go Go.Hw
def wat (i : Nat) (b : UInt8) : Nat := if i % 2 = 0 then 256 * b.toNat else b.toNat
def ws : Nat → List UInt8 → Nat
  | _, [] => 0
  | i, b :: l => wat i b + ws (i + 1) l
structure RdP (h : Hp) (s : Sl) (ts : List Sl) (ps : List (List UInt8)) : Prop where
  n : s.n = ts.length
  len : ts.length = ps.length
  r : Rdc h s.p (ts.map Sl.v)
  each : ∀ (i : Nat) t l, ts[i]? = some t → ps[i]? = some l → RdB h t l
theorem RdP.ext {h h' : Hp} {s : Sl} {ts : List Sl} {ps : List (List UInt8)} (H : RdP h s ts ps) (he : Ext none' h h') : RdP h' s ts ps := ⟨H.n, H.len, H.r.ext he, fun i t l h1 h2 => (H.each i t l h1 h2).ext he⟩
theorem RdP.at {h : Hp} {s : Sl} {ts : List Sl} {ps : List (List UInt8)} (H : RdP h s ts ps) {x : Int} {i : Nat} (hx : x = i) (hi : i < ps.length) {F : Sl → Prop} (hF : ∀ t, ts[i]? = some t → RdB h t (ps[i]'hi) → F t) : idx x s.n (nn s.p fun a => xL (cell h (a.add (x.toNat * 1))) F) := by
  have hi2 : i < ts.length := by rw [H.len]; exact hi
  obtain ⟨a, hp, hc⟩ := H.r i (ts[i]).v (by rw [List.getElem?_map, List.getElem?_eq_getElem hi2]; rfl)
  refine idx_of (by omega) (by rw [H.n]; omega) ?_
  rw [hp]
  subst hx
  simp only [nn_some', Nat.mul_one, Int.toNat_natCast, hc, xL_v]
  exact hF _ (List.getElem?_eq_getElem hi2) (H.each i _ _ (List.getElem?_eq_getElem hi2) (List.getElem?_eq_getElem hi))
end Go.Proofs.YtedklcmdjoojfaaDoor

set_option linter.unusedVariables false
set_option maxRecDepth 100000
namespace Go.Proofs.YtedklcmdjoojfaaDoor
open Go Go.Hw
end Go.Proofs.YtedklcmdjoojfaaDoor

set_option linter.unusedVariables false
set_option maxRecDepth 100000
namespace Go.Proofs.YtedklcmdjoojfaaDoor
open Go Go.Hw
end Go.Proofs.YtedklcmdjoojfaaDoor

/-
  A book of lists of bytes that came out: one more is taken; all of them are their owner's.
-/
set_option linter.unusedSimpArgs false
set_option linter.unusedVariables false
namespace Go.Proofs.YtedklcmdjoojfaaDoor
open Go Go.Hw
abbrev Ent := Sl × List UInt8
theorem Sat.ex {α : Type} {L : List Asn} {A : α → Asn} {h : Hp} (a : α) (hs : Sat (L ++ [A a]) h) : Sat (L ++ [exs A]) h := hs.imp 0 rfl fun F hF => ⟨a, hF⟩
def mk (i n : Nat) : List UInt8 := (List.range n).map fun j => UInt8.ofNat (markN i j)
def dn (i : Nat) (e : Ent) (g : Sl) : Asn :=
  orA (star [pur (g.p = e.1.p ∧ g.c = e.1.c ∧ e.1.n = e.2.length ∧ e.1.n ≤ e.1.c), Hw.own 5 1 g (bc (mk i (e.2.length + 9)))]) (star [Hw.own 5 1 e.1 (bc (mk i e.2.length)), Hw.own 5 1 g (bc (mk i (e.2.length + 9)))])
end Go.Proofs.YtedklcmdjoojfaaDoor

set_option linter.unusedVariables false
set_option maxRecDepth 100000
namespace Go.Proofs.YtedklcmdjoojfaaDoor
open Go Go.Hw
end Go.Proofs.YtedklcmdjoojfaaDoor

/-
  Texts: what is split and joined again; decimal numbers. Plain laws.
-/
set_option linter.unusedSimpArgs false
set_option linter.unusedVariables false
namespace Go.Hw
open Go
theorem dec_small {u : Nat} (h : u < 10) : Lib.decDigits u = [UInt8.ofNat (48 + u)] := Lib.decDigits_one h
theorem dec_big {u : Nat} (h : ¬ u < 10) : Lib.decDigits u = Lib.decDigits (u / 10) ++ [UInt8.ofNat (48 + u % 10)] := by rw [Lib.decDigits, dif_neg h]
end Go.Hw

/-
  Texts over heaps: strings that are put together, bytes of a string, text out of a fresh row.
-/
set_option linter.unusedSimpArgs false
set_option linter.unusedVariables false
namespace Go.Hw
open Go
theorem ba_list (l : List UInt8) : (⟨⟨l⟩⟩ : ByteArray).toList = l := ByteArray.toList_eq _
theorem ba_beq (s t : ByteArray) : (s.toList == t.toList) = decide (s.data.toList = t.data.toList) := by
  rw [ByteArray.toList_eq, ByteArray.toList_eq]
  by_cases h : s.data.toList = t.data.toList
  · rw [h]; simp
  · rw [decide_eq_false h]; exact beq_false_of_ne h
end Go.Hw

/-
  Addresses as text: Decimal, Dotted, Undotted: the program's and the document's.
-/
-- (no octet.Dotted)
-- (no ref01.Dotted)
-- (no octet.Undotted)
-- (no ref01.Undotted)
set_option linter.unusedSimpArgs false
set_option linter.unusedVariables false
namespace Go.Proofs.YtedklcmdjoojfaaDoor
open Go Go.Hw
theorem nat_be (n w : Nat) (h : n < 256 ^ w) : nat256 (be n w) = n := by
  have key : ∀ (w a n : Nat), (be n w).foldl (fun a b => a * 256 + b.toNat) a = a * 256 ^ w + n % 256 ^ w := by
    intro w
    induction w with
    | zero => intro a n; simp [be, Nat.mod_one]
    | succ w ih =>
      intro a n
      simp only [be, List.foldl_cons]
      rw [ih]
      have hb : (UInt8.ofNat (n / 256 ^ w % 256)).toNat = n / 256 ^ w % 256 := by rw [UInt8.toNat_ofNat']; omega
      rw [hb, Nat.pow_succ, Nat.mod_mul, Nat.add_mul, Nat.mul_assoc, Nat.mul_comm 256 (256 ^ w), Nat.mul_comm (256 ^ w) (n / 256 ^ w % 256)]
      omega
  have := key w 0 n
  unfold nat256
  rw [this, Nat.mod_eq_of_lt h]; omega
end Go.Proofs.YtedklcmdjoojfaaDoor

set_option linter.unusedVariables false
set_option maxRecDepth 100000
namespace Go.Proofs.YtedklcmdjoojfaaDoor
open Go Go.Hw
noncomputable def B60 : Code := match Tryd.f60.body with | some c => c | none => .skip
def N60 (x0 : Option Addr) (h : Hp) (K : ByteArray → Int → Hp → Prop) : Prop :=
  nn x0 fun a0 =>
  xL (cell h a0) fun s0 =>
  nw h (.cells ⟨[.int .u8 0]⟩ 5) fun b0 h0 =>
  C67 s0 ⟨some (bk b0), 1, 1⟩ h0 fun s1 s2 b1 h1 =>
  bif (!b1) then
    K (⟨⟨[]⟩⟩ : ByteArray) 5 h1
  else
    nn x0 fun a1 =>
    st h1 a1 (.slice s2.p s2.n s2.c) fun h2 =>
    b2s h2 s1.p s1.n fun s3 =>
    K s3 0 h2
theorem S60 {x0 : Option Addr} {h : Hp} {K : ByteArray → Int → Hp → Prop} (hn : N60 x0 h K) : C60 x0 h K := by
  refine calls_of_D Tryd.func60 (c := B60) rfl (by kernel_rfl) ?_
  refine den_sound hE hm _ .leaf _ _ _ (annOk_leaf) ?_
  refine cast ?_ hn
  kernel_rfl
end Go.Proofs.YtedklcmdjoojfaaDoor

set_option linter.unusedVariables false
set_option maxRecDepth 100000
namespace Go.Proofs.YtedklcmdjoojfaaDoor
open Go Go.Hw
noncomputable def B66 : Code := match Tryd.f66.body with | some c => c | none => .skip
def N66 (x0 : ByteArray) (h : Hp) (K : Int → Bool → Hp → Prop) : Prop :=
  bif (decide ((x0.size : Int) > 10)) then
    K 0 false h
  else
    C73 x0 h fun n0 v0 h0 =>
    ifn v0 fun b0 =>
    bif b0 then
      bif (decide (n0 ≥ 0)) then
        bif (decide (n0 ≤ 2147483647)) then
          C31 n0 h0 fun s0 h1 =>
          K n0 (s0.toList == x0.toList) h1
        else
          K n0 false h0
      else
        K n0 false h0
    else
      K n0 false h0
theorem S66 {x0 : ByteArray} {h : Hp} {K : Int → Bool → Hp → Prop} (hn : N66 x0 h K) : C66 x0 h K := by
  refine calls_of_D Tryd.func66 (c := B66) rfl (by kernel_rfl) ?_
  refine den_sound hE hm _ .leaf _ _ _ (annOk_leaf) ?_
  refine cast ?_ hn
  kernel_rfl
end Go.Proofs.YtedklcmdjoojfaaDoor

set_option linter.unusedVariables false
set_option maxRecDepth 100000
namespace Go.Proofs.YtedklcmdjoojfaaDoor
open Go Go.Hw
end Go.Proofs.YtedklcmdjoojfaaDoor

/-
  Texts that are read, by the library: bytes.Cut; numbers that texts say.
-/
set_option linter.unusedSimpArgs false
set_option linter.unusedVariables false
namespace Go.Proofs.YtedklcmdjoojfaaDoor
open Go Go.Hw Go.RowKit
structure RdS (h : Hp) (s : Sl) (l : List UInt8) : Prop where
  r : RdB h s l
  a : s.p = none → s.c = 0
theorem RdS.ext {h h' : Hp} {s : Sl} {l : List UInt8} (H : RdS h s l) (he : Ext none' h h') : RdS h' s l := ⟨H.r.ext he, H.a⟩
theorem RdS.of {h : Hp} {s : Sl} {l : List UInt8} (H : RdB h s l) (hl : l ≠ []) : RdS h s l := by
  refine ⟨H, fun hp => ?_⟩
  cases l with
  | nil => exact absurd rfl hl
  | cons b l => obtain ⟨a', ha', hc⟩ := H.get (i := 0) (by simp); rw [hp] at ha'; cases ha'
theorem rds_tail {h : Hp} {s : Sl} {l : List UInt8} (H : RdS h s l) {i : Nat} (hi : i ≤ l.length) : RdS h ⟨sadr s.p s.c i 1, s.n - i, s.c - i⟩ (l.drop i) := by
  refine ⟨rdb_tail H.r hi, fun hp => ?_⟩
  have hp : sadr s.p s.c i 1 = none := hp
  unfold sadr at hp
  show s.c - i = 0
  split at hp
  · have := H.a hp; omega
  · cases hq : s.p with
    | none => have := H.a hq; omega
    | some b => rw [hq] at hp; cases hp
theorem rdb_head {h : Hp} {s : Sl} {l : List UInt8} (H : RdB h s l) {o : Nat} (ho : o ≤ l.length) : RdB h ⟨s.p, o, s.c⟩ (l.take o) := by
  have hn := H.n
  have hc := H.c
  refine ⟨by show o = _; simp; omega, by show o ≤ s.c; omega, fun i v hi => ?_⟩
  have hil : i < o := by
    have := (List.getElem?_eq_some_iff.1 hi).1
    simp at this; omega
  rw [bc_get, List.getElem?_take, if_pos hil] at hi
  exact H.r i v (by rw [bc_get]; exact hi)
theorem c_cutB {s : Sl} {l : List UInt8} {b0 : Nat} {h : Hp} {K : Sl → Sl → Bool → Hp → Prop} (H : RdS h s l) (hb : cell h ⟨b0, 0, none⟩ = some (.int .u8 0)) (hl : l.length ≤ 4611686018427387904)
    (hno : cutL l = none → ∀ s1 s2, K s1 s2 false h) (hK : ∀ o, o < l.length → cutL l = some (l.take o, l.drop (o + 1)) → K ⟨s.p, o, s.c⟩ ⟨sadr s.p s.c (o + 1) 1, s.n - (o + 1), s.c - (o + 1)⟩ true h) : C67 s ⟨some (bk b0), 1, 1⟩ h K := by
  intro w hw
  subst hw
  have hn := H.r.n
  have hc := H.r.c
  have ix : Calls Tryd.prog 74 #[.slice s.p s.n s.c, .slice (some (bk b0)) 1 1] w fun e w' => e = .returned (.int .i64 (Lib.indexByte l 0)) ∧ ∃ q, w' = w.drewN q := by
    have hb' : w.cell? ⟨b0, 0, none⟩ = some (.int .u8 0) := by rw [← cell_hp]; exact hb
    cases hp : s.p with
    | none =>
      have : l = [] := by
        cases l with
        | nil => rfl
        | cons x l => obtain ⟨a, ha, _⟩ := H.r.get (i := 0) (by simp); rw [hp] at ha; cases ha
      subst this
      have hn0 : s.n = 0 := by simpa using hn
      rw [hn0, H.a hp]
      refine (Tryd.bytes_Index_one_nil b0 0 1 0 w hb').mono ?_
      rintro e w' ⟨rfl, rfl⟩
      exact ⟨rfl, 0, rfl⟩
    | some a =>
      have e : Lib.bytesOf (l.map fun x => (x.toNat : Int)) = l := by
        unfold Lib.bytesOf
        rw [List.map_map]
        conv => rhs; rw [← List.map_id l]
        apply List.map_congr_left
        intro x _
        simp
      have := Tryd.bytes_Index_one_at a s.n s.c b0 0 1 (l.map fun x => (x.toNat : Int)) 0 w (by simp [hn]) (fun i hi => by
        have hil : i < l.length := by omega
        obtain ⟨a', ha, hc⟩ := H.r.get hil
        rw [hp] at ha; cases ha
        rw [cell_hp] at hc
        have : (l.map fun x => (x.toNat : Int)).getD i 0 = (l[i].toNat : Int) := by simp [List.getD, hil]
        rw [this]; exact hc) hb'
      rw [e] at this
      refine this.mono ?_
      rintro e w' ⟨rfl, rfl⟩
      exact ⟨rfl, 0, rfl⟩
  have hge := Lib.indexByte_ge l 0
  have hroom : 0 ≤ Lib.indexByte l 0 → Lib.indexByte l 0 + 1 ≤ s.n := by
    intro h0
    obtain ⟨o, ho⟩ := Int.eq_ofNat_of_zero_le h0
    obtain ⟨h1, _⟩ := Lib.indexByte_some ho
    have := (List.getElem?_eq_some_iff.1 h1).1
    omega
  refine (Tryd.bytes_Cut_of s.p (some (bk b0)) s.n s.c 1 1 (Lib.indexByte l 0) w hc hge hroom (by omega) ix).mono ?_
  rintro e w' ⟨rfl, q, rfl⟩
  refine ⟨_, rfl, ?_, Kp.refl _⟩
  unfold Lib.cutV
  by_cases h0 : 0 ≤ Lib.indexByte l 0
  · rw [if_pos h0]
    obtain ⟨o, ho⟩ := Int.eq_ofNat_of_zero_le h0
    obtain ⟨h1, h2⟩ := Lib.indexByte_some ho
    obtain ⟨hol, h1⟩ := List.getElem?_eq_some_iff.1 h1
    have hcut := cutL_at hol (fun j b hj hb e => h2 j hj (by rw [hb, e])) h1
    rw [ho]
    have ef : Lib.fromV s.p s.n s.c (o + 1) = .slice (sadr s.p s.c (o + 1) 1) (s.n - (o + 1)) (s.c - (o + 1)) := by
      unfold Lib.fromV sadr
      by_cases e : s.c = o + 1
      · rw [if_pos e, if_pos e]
      · rw [if_neg e, if_neg e, Nat.mul_one]
    rw [Int.toNat_natCast, ef]
    exact hK o hol hcut
  · rw [if_neg h0]
    refine hno (cutL_none fun b hb e => ?_) ⟨s.p, s.n, s.c⟩ ⟨none, 0, 0⟩
    obtain ⟨j, hj, rfl⟩ := List.getElem_of_mem hb
    exact Lib.indexByte_none (l := l) (c := 0) (by omega) j (by rw [List.getElem?_eq_getElem hj, e])
theorem c_rtext {L : List Asn} {Q : Hp → Prop} {br : Nat} {s : Sl} {l : List UInt8} {h : Hp} {K : ByteArray → Int → Hp → Prop} (hs : Sat (L ++ [row br 65 [s.v]]) h) (hQ : ∀ h', Sat L h' → Q h') (H : ∀ h', Q h' → RdS h' s l) (hl : l.length ≤ 4611686018427387904)
    (hno : cutL l = none → ∀ h', Sat (L ++ [row br 65 [s.v]]) h' → K ⟨⟨[]⟩⟩ 5 h')
    (hK : ∀ x y s', cutL l = some (x, y) → (∀ h', Q h' → RdS h' s' y) → ∀ h', Sat (L ++ [row br 65 [s'.v]]) h' → K ⟨⟨x⟩⟩ 0 h') : C60 (some (bk br)) h K := by
  apply S60; unfold N60
  simp only [nn_some']
  refine hs.lL 0 rfl rfl ?_
  intro b0 e0
  have hs1 := hs.new e0 (.cells ⟨[.int .u8 0]⟩ 5 (0, 0))
  revert hs1
  generalize upd h b0 _ = h1
  intro hs1
  have hs1 : Sat (L ++ [row br 65 [s.v], row b0 5 [.int .u8 0]]) h1 := hs1
  have hb : cell h1 ⟨b0, 0, none⟩ = some (.int .u8 0) := by rw [(hs1.blk 1 rfl).cell]; rfl
  refine c_cutB (s := s) (H h1 (hQ h1 hs1.left)) hb hl ?_ ?_
  · intro hc _ _
    simp only [Bool.not_false, cond_true]
    exact hno hc h1 (hs1.sel [0] (by decide) rfl)
  · intro o ho hc
    simp only [Bool.not_true, cond_false]
    refine hs1.st 0 rfl (by simp) rfl ?_
    intro h2 hs2
    have hs2 : Sat (L ++ [row br 65 [(⟨sadr s.p s.c (o + 1) 1, s.n - (o + 1), s.c - (o + 1)⟩ : Sl).v], row b0 5 [.int .u8 0]]) h2 := hs2
    refine (rdb_head (H h2 (hQ h2 hs2.left)).r (o := o) (by omega)).b2s ?_
    exact hK _ _ _ hc (fun h' hs' => rds_tail (H h' hs') ho) h2 (hs2.sel [0] (by decide) rfl)
theorem dec_some {l : List UInt8} : ∀ {a n : Nat}, Lib.decFrom a l = some n → ∀ b ∈ l, (Lib.digitVal b).isSome = true := by
  induction l with
  | nil => intro a n _ b hb; cases hb
  | cons c l ih =>
    intro a n h b hb
    simp only [Lib.decFrom] at h
    cases hd : Lib.digitVal c with
    | none => rw [hd] at h; cases h
    | some d =>
      rw [hd] at h
      rcases List.mem_cons.1 hb with rfl | hb
      · rw [hd]; rfl
      · exact ih h b hb
theorem dec_snoc {b : UInt8} {d : Nat} (hd : Lib.digitVal b = some d) : ∀ {l : List UInt8} {a n : Nat}, Lib.decFrom a l = some n → Lib.decFrom a (l ++ [b]) = some (n * 10 + d) := by
  intro l
  induction l with
  | nil => intro a n h; simp only [Lib.decFrom, Option.some.injEq] at h; subst h; simp [Lib.decFrom, hd]
  | cons c l ih =>
    intro a n h
    simp only [List.cons_append, Lib.decFrom] at h ⊢
    cases hc : Lib.digitVal c with
    | none => rw [hc] at h; cases h
    | some e => rw [hc] at h; exact ih h
theorem digit_of {d : Nat} (h : d < 10) : Lib.digitVal (UInt8.ofNat (48 + d)) = some d := by
  unfold Lib.digitVal
  have e : (UInt8.ofNat (48 + d)).toNat = 48 + d := by simp; omega
  rw [e, if_pos ⟨by omega, by omega⟩]
  congr 1; omega
theorem dec_digits : ∀ (u : Nat), Lib.decFrom 0 (Lib.decDigits u) = some u ∧ Lib.decDigits u ≠ [] := by
  intro u
  induction u using Nat.strongRecOn with
  | _ u ih =>
    by_cases h : u < 10
    · rw [Lib.decDigits, dif_pos h]
      refine ⟨?_, by simp⟩
      simp only [Lib.decFrom, digit_of h]
      congr 1; omega
    · rw [Lib.decDigits, dif_neg h]
      refine ⟨?_, by simp⟩
      have := dec_snoc (digit_of (d := u % 10) (by omega)) (ih (u / 10) (by omega)).1
      rw [this]; congr 1; omega
theorem digits_len : ∀ (k u : Nat), u < 10 ^ (k + 1) → (Lib.decDigits u).length ≤ k + 1
  | 0, u, h => by rw [Lib.decDigits, dif_pos (by simpa using h)]; simp
  | k + 1, u, h => by
    by_cases h1 : u < 10
    · rw [Lib.decDigits, dif_pos h1]; simp
    · rw [Lib.decDigits, dif_neg h1]
      have := digits_len k (u / 10) (Nat.div_lt_of_lt_mul (by rw [Nat.mul_comm, ← Nat.pow_succ]; exact h))
      simp; omega
def valL (l : List UInt8) : Option Nat := match Lib.decFrom 0 l with
  | some n => if Lib.decDigits n = l ∧ n ≤ 2147483647 then some n else none
  | none => none
theorem valL_some {l : List UInt8} {n : Nat} (h : valL l = some n) : Lib.decDigits n = l ∧ n ≤ 2147483647 ∧ Lib.decFrom 0 l = some n := by
  unfold valL at h
  split at h
  · rename_i m hm
    split at h
    · rename_i hc
      cases h
      exact ⟨hc.1, hc.2, hm⟩
    · cases h
  · cases h
theorem valL_of {n : Nat} (h : n ≤ 2147483647) : valL (Lib.decDigits n) = some n := by
  unfold valL
  rw [(dec_digits n).1]
  simp [h]
theorem valL_long {l : List UInt8} (h : 10 < l.length) : valL l = none := by
  cases hv : valL l with
  | none => rfl
  | some n =>
    obtain ⟨h1, h2, _⟩ := valL_some hv
    have := digits_len 9 n (by omega)
    rw [h1] at this; omega
theorem c_atoi {l : List UInt8} {h : Hp} {K : Int → Value → Hp → Prop} (G : Glob h) (hl : l.length ≤ 10)
    (hok : ∀ v, Lib.atoi l = some v → ∀ h', Ext none' h h' → K v .nilIface h') (hbad : Lib.atoi l = none → ∀ n t p h', Ext none' h h' → K n (.iface t p) h') : C73 ⟨⟨l⟩⟩ h K := by
  intro w hw
  subst hw
  have ht := Lib.atoiAll_short l (by omega)
  have hsz : (⟨⟨l⟩⟩ : ByteArray).size = l.length := rfl
  cases hv : Lib.atoi l with
  | some v =>
    rw [hv] at ht
    refine (Tryd.strconv_Atoi_ok ⟨⟨l⟩⟩ (by omega) v ht w).mono ?_
    rintro e w' ⟨rfl, hw'⟩
    have hx : Ext none' (hpOf w) (hpOf w') ∧ Kp w w' := by
      rcases hw' with rfl | ⟨t, rfl⟩
      · exact ⟨Ext.refl, Kp.refl _⟩
      · refine ⟨?_, ?_⟩
        · intro b o hb _
          have hlt : b < w.heap.size := (Array.getElem?_eq_some_iff.1 hb).1
          unfold Lib.bytesWorld
          rw [frzn_hp, frzn_ne (by show b ≠ w.heap.size; omega)]
          exact push_old (w := w.drew) hb
        · unfold Lib.bytesWorld World.freeze
          split <;> exact ⟨rfl, rfl⟩
    exact ⟨_, rfl, hok v hv _ hx.1, hx.2⟩
  | none =>
    rw [hv] at ht
    obtain ⟨te, pe, hc⟩ := G.syn
    refine (Any.strconv_Atoi_syntax Tryd.laysC172 ⟨⟨l⟩⟩ (by omega) ht (.iface te pe) w hc (.inr ⟨te, pe, rfl⟩)).mono ?_
    rintro e w' ⟨N, rfl, _, _, hb⟩
    exact ⟨_, rfl, hbad hv _ _ _ _ (ext_below (Nat.le_refl _) hb), kp_below hb⟩
theorem atoi_digits (m : Nat) : Lib.atoi (Lib.decDigits m) = some (m : Int) := by
  obtain ⟨h1, h2⟩ := dec_digits m
  have hall := dec_some h1
  cases hd : Lib.decDigits m with
  | nil => exact absurd hd h2
  | cons b r =>
    have hb := hall b (by rw [hd]; exact List.mem_cons_self ..)
    have hr : 48 ≤ b.toNat ∧ b.toNat ≤ 57 := by
      unfold Lib.digitVal at hb
      split at hb
      · assumption
      · cases hb
    have n45 : (b == 45) = false := by
      rw [beq_eq_false_iff_ne]; intro e; subst e
      have : (45 : UInt8).toNat = 45 := rfl
      omega
    have n43 : (b == 43) = false := by
      rw [beq_eq_false_iff_ne]; intro e; subst e
      have : (43 : UInt8).toNat = 43 := rfl
      omega
    rw [hd] at h1
    unfold Lib.atoi
    simp only [n45, n43, Bool.false_eq_true, if_false]
    unfold Lib.decNat
    simp [h1]
theorem valL_atoi {l : List UInt8} {m : Nat} (h : valL l = some m) : Lib.atoi l = some (m : Int) ∧ m ≤ 2147483647 ∧ Lib.itoa (m : Int) = l := by
  obtain ⟨h1, h2, _⟩ := valL_some h
  refine ⟨by rw [← h1]; exact atoi_digits m, h2, ?_⟩
  unfold Lib.itoa
  rw [if_neg (by omega), Int.toNat_natCast]; exact h1
theorem c_value {l : List UInt8} {h : Hp} {K : Int → Bool → Hp → Prop} (G : Glob h) (hno : valL l = none → ∀ n h', Ext none' h h' → K n false h') (hK : ∀ n, valL l = some n → ∀ h', Ext none' h h' → K n true h') : C66 ⟨⟨l⟩⟩ h K := by
  apply S66; unfold N66
  have hsz : (⟨⟨l⟩⟩ : ByteArray).size = l.length := rfl
  simp only [hsz]
  by_cases hlen : l.length > 10
  · rw [decide_eq_true (by omega), cond_true]
    exact hno (valL_long hlen) 0 h Ext.refl
  · rw [decide_eq_false (by omega), cond_false]
    refine c_atoi G (by omega) ?_ ?_
    · intro v hv h1 he
      simp only [ifn, cond_true]
      have none_of : (∀ m : Nat, v = m → m ≤ 2147483647 → Lib.itoa v ≠ l) → valL l = none := by
        intro hne
        cases hq : valL l with
        | none => rfl
        | some m =>
          obtain ⟨a1, a2, a3⟩ := valL_atoi hq
          rw [hv] at a1
          cases a1
          exact absurd a3 (hne m rfl a2)
      by_cases c1 : v ≥ 0
      · rw [decide_eq_true c1, cond_true]
        by_cases c2 : v ≤ 2147483647
        · rw [decide_eq_true c2, cond_true]
          obtain ⟨n, rfl⟩ := Int.eq_ofNat_of_zero_le c1
          refine c_itoa (G.ext he) (by omega) (by omega) ?_
          intro h2 he2
          rw [ba_list, ba_list]
          cases heq : (Lib.itoa (n : Int) == l) with
          | true =>
            have heq : Lib.itoa (n : Int) = l := by simpa using heq
            refine hK n ?_ h2 (he.trans he2)
            unfold Lib.itoa at heq
            rw [if_neg (by omega), Int.toNat_natCast] at heq
            rw [← heq]; exact valL_of (by omega)
          | false =>
            have heq : ¬ Lib.itoa (n : Int) = l := by simpa using heq
            exact hno (none_of fun m _ _ => heq) _ h2 (he.trans he2)
        · rw [decide_eq_false c2, cond_false]
          exact hno (none_of fun m e hm => by omega) _ h1 he
      · rw [decide_eq_false c1, cond_false]
        exact hno (none_of fun m e hm => by omega) _ h1 he
    · intro hv n t p h1 he
      simp only [ifn, cond_false]
      refine hno ?_ _ h1 he
      cases hq : valL l with
      | none => rfl
      | some m => rw [(valL_atoi hq).1] at hv; cases hv
end Go.Proofs.YtedklcmdjoojfaaDoor

set_option linter.unusedVariables false
set_option maxRecDepth 100000
namespace Go.Proofs.YtedklcmdjoojfaaDoor
open Go Go.Hw
noncomputable def B44 : Code := match Tryd.f44.body with | some c => c | none => .skip
def N44 (x0 : ByteArray) (h : Hp) (K : Bool → Hp → Prop) : Prop :=
  bif (x0.toList == (⟨⟨[98, 108, 107, 115, 105, 122, 101]⟩⟩ : ByteArray).toList) then
    K true h
  else
    bif (x0.toList == (⟨⟨[119, 105, 110, 100, 111, 119, 115, 105, 122, 101]⟩⟩ : ByteArray).toList) then
      K true h
    else
      K (x0.toList == (⟨⟨[116, 115, 105, 122, 101]⟩⟩ : ByteArray).toList) h
theorem S44 {x0 : ByteArray} {h : Hp} {K : Bool → Hp → Prop} (hn : N44 x0 h K) : C44 x0 h K := by
  refine calls_of_D Tryd.func44 (c := B44) rfl (by kernel_rfl) ?_
  refine den_sound hE hm _ .leaf _ _ _ (annOk_leaf) ?_
  refine cast ?_ hn
  kernel_rfl
end Go.Proofs.YtedklcmdjoojfaaDoor

set_option linter.unusedVariables false
set_option maxRecDepth 100000
namespace Go.Proofs.YtedklcmdjoojfaaDoor
open Go Go.Hw
end Go.Proofs.YtedklcmdjoojfaaDoor

set_option linter.unusedVariables false
set_option maxRecDepth 100000
namespace Go.Proofs.YtedklcmdjoojfaaDoor
open Go Go.Hw
noncomputable def B43 : Code := match Tryd.f43.body with | some c => c | none => .skip
def N43_l0_b (x0_l : Sl) (x1_at : Int) (x9 : Sl) (x10 : Int) (Φ : Int → Hp → Prop) (x11 : Int) (h : Hp) (K_e0 : Hp → Prop) (K_ret : Bool → Hp → Prop) : Prop :=
  bif (decide (x11 < x10)) then
    idx x11 x9.n <|
    nn x9.p fun a0 =>
    xS (cell h (a0.add (x11.toNat * 2))) fun s0 =>
    xI .i64 (cell h ((a0.add (x11.toNat * 2)).add 1)) fun n0 =>
    nw h (.cells ⟨[.string (⟨⟨[]⟩⟩ : ByteArray), .int .i64 0]⟩ 56) fun b0 h0 =>
    st h0 (bk b0) (.string s0) fun h1 =>
    st h1 ((bk b0).add 1) (.int .i64 n0) fun h2 =>
    xS (cell h2 (bk b0)) fun s1 =>
    idx x1_at x0_l.n <|
    nn x0_l.p fun a1 =>
    xS (cell h2 (a1.add (x1_at.toNat * 2))) fun s2 =>
    bif (s1.toList == s2.toList) then
      K_ret false h2
    else
      Φ (IntKind.wrap .i64 (x11 + 1)) h2
  else
    K_e0 h
def N43_l0_B (x0_l : Sl) (x1_at : Int) (x9 : Sl) (x10 : Int) (K_e0 : Hp → Prop) (K_ret : Bool → Hp → Prop) (s : Sg.T [(11, .c (.int .i64))]) (h : Hp) (Φ : Sg.T [(11, .c (.int .i64))] → Hp → Prop) : Prop :=
  N43_l0_b x0_l x1_at x9 x10 (fun x11 h => Φ x11 h) s h K_e0 K_ret
def N43_l0 (x0_l : Sl) (x1_at : Int) (x9 : Sl) (x10 : Int) (x11 : Int) (h : Hp) (K_e0 : Hp → Prop) (K_ret : Bool → Hp → Prop) : Prop :=
  loopP (N43_l0_B x0_l x1_at x9 x10 K_e0 K_ret) x11 h
noncomputable def N43_l0_t : Xf := loopT [(0, .c (.slice)), (1, .c (.int .i64)), (9, .c (.slice)), (10, .c (.int .i64))] [(11, .c (.int .i64))] (codeAt B43 [1, 0, 1, 0, 0]) fun F Q => N43_l0_B F.1 F.2.1 F.2.2.1 F.2.2.2 (fun h' => Q (.exit 0) (Sg.env [] ()) h') (fun o0 h' => Q .ret (Sg.env [(4, .c (.bool))] o0) h')
theorem N43_l0_ok : Sound Tryd.prog Tryd.f43.ntmps N43_l0_t (codeAt B43 [1, 0, 1, 0]) := by
  refine loop_sound (fun e => match e with | .exit 0 => [] | .ret => [4] | _ => []) (by kernel_rfl) ?_
  intro F Q s h Φ hb
  refine den_sound hE hm _ (.two .leaf (.two .leaf (.two (.one (.two .leaf (.two (.ord [0, 1, 2, 3, 4, 5, 6, 7]) .leaf))) .leaf))) _ _ _ (⟨annOk_leaf, ⟨annOk_leaf, ⟨⟨annOk_leaf, ⟨trivial, annOk_leaf⟩⟩, annOk_leaf⟩⟩⟩) ?_
  refine cast ?_ hb
  kernel_rfl
def N43 (x0 : Sl) (x1 : Int) (h : Hp) (K : Bool → Hp → Prop) : Prop :=
  bd x1 x0.c fun k0 =>
  N43_l0 x0 x1 ⟨sadr x0.p x0.c 0 2, k0, x0.c⟩ ((k0 : Nat) : Int) 0 h
    (fun h0 =>
      K true h0)
    (fun b0 h1 =>
      K b0 h1)
theorem S43 {x0 : Sl} {x1 : Int} {h : Hp} {K : Bool → Hp → Prop} (hn : N43 x0 x1 h K) : C43 x0 x1 h K := by
  refine calls_of_D Tryd.func43 (c := B43) rfl (by kernel_rfl) ?_
  refine den_sound hE hm _ (.two .leaf (.two (.two .leaf (.one (.xf N43_l0_t))) .leaf)) _ _ _ (⟨annOk_leaf, ⟨⟨annOk_leaf, N43_l0_ok⟩, annOk_leaf⟩⟩) ?_
  refine cast ?_ hn
  kernel_rfl
end Go.Proofs.YtedklcmdjoojfaaDoor

set_option linter.unusedVariables false
set_option maxRecDepth 100000
namespace Go.Proofs.YtedklcmdjoojfaaDoor
open Go Go.Hw
end Go.Proofs.YtedklcmdjoojfaaDoor

set_option linter.unusedVariables false
set_option maxRecDepth 100000
namespace Go.Proofs.YtedklcmdjoojfaaDoor
open Go Go.Hw
noncomputable def B49 : Code := match Tryd.f49.body with | some c => c | none => .skip
def N49_l0_b (x0_l : Sl) (x5 : Sl) (x6 : Int) (Φ : Int → Hp → Prop) (x7 : Int) (h : Hp) (K_e0 : Hp → Prop) (K_ret : Bool → Hp → Prop) : Prop :=
  bif (decide (x7 < x6)) then
    idx x7 x5.n <|
    nn x5.p fun a0 =>
    xS (cell h (a0.add (x7.toNat * 2))) fun s0 =>
    xI .i64 (cell h ((a0.add (x7.toNat * 2)).add 1)) fun n0 =>
    nw h (.cells ⟨[.string (⟨⟨[]⟩⟩ : ByteArray), .int .i64 0]⟩ 56) fun b0 h0 =>
    st h0 (bk b0) (.string s0) fun h1 =>
    st h1 ((bk b0).add 1) (.int .i64 n0) fun h2 =>
    xS (cell h2 (bk b0)) fun s1 =>
    C44 s1 h2 fun b1 h3 =>
    bif (!b1) then
      K_ret false h3
    else
      C43 x0_l x7 h3 fun b2 h4 =>
      bif (!b2) then
        K_ret false h4
      else
        xI .i64 (cell h4 ((bk b0).add 1)) fun n1 =>
        bif (decide (n1 < 0)) then
          K_ret false h4
        else
          xI .i64 (cell h4 ((bk b0).add 1)) fun n2 =>
          bif (decide (n2 > 2147483647)) then
            K_ret false h4
          else
            Φ (IntKind.wrap .i64 (x7 + 1)) h4
  else
    K_e0 h
def N49_l0_B (x0_l : Sl) (x5 : Sl) (x6 : Int) (K_e0 : Hp → Prop) (K_ret : Bool → Hp → Prop) (s : Sg.T [(7, .c (.int .i64))]) (h : Hp) (Φ : Sg.T [(7, .c (.int .i64))] → Hp → Prop) : Prop :=
  N49_l0_b x0_l x5 x6 (fun x7 h => Φ x7 h) s h K_e0 K_ret
def N49_l0 (x0_l : Sl) (x5 : Sl) (x6 : Int) (x7 : Int) (h : Hp) (K_e0 : Hp → Prop) (K_ret : Bool → Hp → Prop) : Prop :=
  loopP (N49_l0_B x0_l x5 x6 K_e0 K_ret) x7 h
noncomputable def N49_l0_t : Xf := loopT [(0, .c (.slice)), (5, .c (.slice)), (6, .c (.int .i64))] [(7, .c (.int .i64))] (codeAt B49 [1, 0, 1, 0, 0]) fun F Q => N49_l0_B F.1 F.2.1 F.2.2 (fun h' => Q (.exit 0) (Sg.env [] ()) h') (fun o0 h' => Q .ret (Sg.env [(2, .c (.bool))] o0) h')
theorem N49_l0_ok : Sound Tryd.prog Tryd.f49.ntmps N49_l0_t (codeAt B49 [1, 0, 1, 0]) := by
  refine loop_sound (fun e => match e with | .exit 0 => [] | .ret => [2] | _ => []) (by kernel_rfl) ?_
  intro F Q s h Φ hb
  refine den_sound hE hm _ .leaf _ _ _ (annOk_leaf) ?_
  refine cast ?_ hb
  kernel_rfl
def N49 (x0 : Sl) (h : Hp) (K : Bool → Hp → Prop) : Prop :=
  N49_l0 x0 x0 ((x0.n : Nat) : Int) 0 h
    (fun h0 =>
      K true h0)
    (fun b0 h1 =>
      K b0 h1)
theorem S49 {x0 : Sl} {h : Hp} {K : Bool → Hp → Prop} (hn : N49 x0 h K) : C49 x0 h K := by
  refine calls_of_D Tryd.func49 (c := B49) rfl (by kernel_rfl) ?_
  refine den_sound hE hm _ (.two .leaf (.two (.two .leaf (.one (.xf N49_l0_t))) .leaf)) _ _ _ (⟨annOk_leaf, ⟨⟨annOk_leaf, N49_l0_ok⟩, annOk_leaf⟩⟩) ?_
  refine cast ?_ hn
  kernel_rfl
end Go.Proofs.YtedklcmdjoojfaaDoor

set_option linter.unusedVariables false
set_option maxRecDepth 100000
namespace Go.Proofs.YtedklcmdjoojfaaDoor
open Go Go.Hw
end Go.Proofs.YtedklcmdjoojfaaDoor

set_option linter.unusedVariables false
set_option maxRecDepth 100000
namespace Go.Proofs.YtedklcmdjoojfaaDoor
open Go Go.Hw
end Go.Proofs.YtedklcmdjoojfaaDoor

set_option linter.unusedVariables false
set_option maxRecDepth 100000
namespace Go.Proofs.YtedklcmdjoojfaaDoor
open Go Go.Hw
end Go.Proofs.YtedklcmdjoojfaaDoor

/-
  The choices of a packet: how they lie, which are right.
-/
set_option linter.unusedSimpArgs false
set_option linter.unusedVariables false
namespace Go.Proofs.YtedklcmdjoojfaaDoor
open Go Go.Hw
abbrev Opt := ByteArray × Int
def oc (o : Opt) : List Value := [.string o.1, .int .i64 o.2]
theorem oc_get : ∀ (os : List Opt) (i : Nat) (hi : i < os.length), (os.flatMap oc)[i * 2]? = some (.string os[i].1) ∧ (os.flatMap oc)[i * 2 + 1]? = some (.int .i64 os[i].2)
  | o :: os, 0, _ => ⟨rfl, rfl⟩
  | o :: os, i + 1, hi => by
    have := oc_get os i (by simpa using hi)
    rw [show (i + 1) * 2 = i * 2 + 1 + 1 by omega]
    exact this
structure RdO (h : Hp) (s : Sl) (os : List Opt) : Prop where
  n : s.n = os.length
  c : s.n ≤ s.c
  r : Rdc h s.p (os.flatMap oc)
theorem RdO.ext {h h' : Hp} {s : Sl} {os : List Opt} (H : RdO h s os) (he : Ext none' h h') : RdO h' s os := ⟨H.n, H.c, H.r.ext he⟩
theorem RdO.at {h : Hp} {s : Sl} {os : List Opt} (H : RdO h s os) {x : Int} {i : Nat} (hx : x = i) (hi : i < os.length) {X : Addr → Prop}
    (hX : ∀ a, s.p = some a → cell h (a.add (x.toNat * 2)) = some (.string os[i].1) → cell h ((a.add (x.toNat * 2)).add 1) = some (.int .i64 os[i].2) → X a) : idx x s.n (nn s.p X) := by
  obtain ⟨g1, g2⟩ := oc_get os i hi
  obtain ⟨a, ha, hc⟩ := H.r _ _ g1
  obtain ⟨a', ha', hc'⟩ := H.r _ _ g2
  have : a = a' := Option.some.inj (ha.symm.trans ha')
  subst this
  subst hx
  refine idx_of (by omega) (by rw [H.n]; omega) ?_
  rw [ha]
  show X a
  exact hX a ha (by rw [Int.toNat_natCast]; exact hc) (by rw [Int.toNat_natCast, addadd]; exact hc')
theorem RdO.cells {h : Hp} {s : Sl} {os : List Opt} (H : RdO h s os) {i : Nat} (hi : i < os.length) : ∃ a, s.p = some a ∧ cell h (a.add ((i : Int).toNat * 2)) = some (.string os[i].1) ∧ cell h ((a.add ((i : Int).toNat * 2)).add 1) = some (.int .i64 os[i].2) := by
  obtain ⟨g1, g2⟩ := oc_get os i hi
  obtain ⟨a, ha, hc⟩ := H.r _ _ g1
  obtain ⟨a', ha', hc'⟩ := H.r _ _ g2
  have : a = a' := Option.some.inj (ha.symm.trans ha')
  subst this
  exact ⟨a, ha, by rw [Int.toNat_natCast]; exact hc, by rw [Int.toNat_natCast, addadd]; exact hc'⟩
theorem rng_new {h : Hp} {s0 : ByteArray} {n0 : Int} {F : Nat → Hp → Prop} (hF : ∀ b h', Ext none' h h' → Blk h' b 56 [.string s0, .int .i64 n0] → F b h') :
    nw h (.cells ⟨[.string (⟨⟨[]⟩⟩ : ByteArray), .int .i64 0]⟩ 56) fun b0 h0 => st h0 (bk b0) (.string s0) fun h1 => st h1 ((bk b0).add 1) (.int .i64 n0) (F b0) := by
  intro b0 e0
  have hs : Sat ([] ++ [Hw.was h, row b0 56 [.string (⟨⟨[]⟩⟩ : ByteArray), .int .i64 0]]) _ := Sat.start.new e0 _
  revert hs
  generalize upd h b0 _ = h1
  intro hs
  simp only [add_bk]
  refine hs.st 1 rfl (by simp) rfl ?_
  intro h2 hs
  refine hs.st 1 rfl (by simp) rfl ?_
  intro h3 hs
  exact hF b0 h3 (hs.was 0 rfl) (hs.blk 1 rfl)
def blkS : List UInt8 := [98, 108, 107, 115, 105, 122, 101]
def winS : List UInt8 := [119, 105, 110, 100, 111, 119, 115, 105, 122, 101]
def tsiS : List UInt8 := [116, 115, 105, 122, 101]
def known (s : ByteArray) : Bool := s.data.toList == blkS || (s.data.toList == winS || s.data.toList == tsiS)
theorem ba_list (a b : ByteArray) : (a.toList == b.toList) = (a.data.toList == b.data.toList) := by
  rw [Bool.eq_iff_iff, beq_iff_eq, beq_iff_eq]
  have e : ∀ a : ByteArray, a.toList = a.data.toList := ByteArray.toList_eq
  rw [e, e]
theorem c_known {s : ByteArray} {h : Hp} {K : Bool → Hp → Prop} (hK : K (known s) h) : C44 s h K := by
  apply S44; unfold N44
  simp only [ba_list]
  unfold known blkS winS tsiS at hK
  cases h1 : (s.data.toList == [98, 108, 107, 115, 105, 122, 101]) <;> cases h2 : (s.data.toList == [119, 105, 110, 100, 111, 119, 115, 105, 122, 101]) <;> simp only [h1, h2, Bool.true_or, Bool.false_or, cond_true, cond_false] at hK ⊢ <;> exact hK
def hasZero (s : ByteArray) : Bool := decide ((0 : UInt8) ∈ s.data.toList)
end Go.Proofs.YtedklcmdjoojfaaDoor

set_option linter.unusedVariables false
set_option maxRecDepth 100000
namespace Go.Proofs.YtedklcmdjoojfaaDoor
open Go Go.Hw
noncomputable def B48 : Code := match Tryd.f48.body with | some c => c | none => .skip
def N48 (x0 : ByteArray) (h : Hp) (K : Bool → Hp → Prop) : Prop :=
  bif (decide ((x0.size : Int) ≥ 1)) then
    bif (decide ((x0.size : Int) ≤ 64)) then
      C50 x0 (⟨⟨[0]⟩⟩ : ByteArray) h fun b0 h0 =>
      K (!b0) h0
    else
      K false h
  else
    K false h
theorem S48 {x0 : ByteArray} {h : Hp} {K : Bool → Hp → Prop} (hn : N48 x0 h K) : C48 x0 h K := by
  refine calls_of_D Tryd.func48 (c := B48) rfl (by kernel_rfl) ?_
  refine den_sound hE hm _ .leaf _ _ _ (annOk_leaf) ?_
  refine cast ?_ hn
  kernel_rfl
end Go.Proofs.YtedklcmdjoojfaaDoor

/-
  Which choices are right; what a packet's texts may be.
-/
set_option linter.unusedSimpArgs false
set_option linter.unusedVariables false
namespace Go.Proofs.YtedklcmdjoojfaaDoor
open Go Go.Hw
theorem c_contains0 {s : ByteArray} {h : Hp} {K : Bool → Hp → Prop} (hK : K (hasZero s) h) : C50 s ⟨⟨[0]⟩⟩ h K := by
  intro w hw
  subst hw
  refine (Tryd.strings_Contains_one s 0 w).mono ?_
  rintro e w' ⟨rfl, rfl⟩
  have eq : decide (0 ≤ Lib.indexByte s.data.toList 0) = hasZero s := by
    unfold hasZero
    rw [decide_eq_decide]
    have hg := Lib.indexByte_ge s.data.toList 0
    constructor
    · intro h0
      obtain ⟨o, ho⟩ := Int.eq_ofNat_of_zero_le h0
      obtain ⟨h1, _⟩ := Lib.indexByte_some ho
      exact List.mem_of_getElem? h1
    · intro hm
      obtain ⟨i, hi, he⟩ := List.getElem_of_mem hm
      by_cases hn : Lib.indexByte s.data.toList 0 = -1
      · exact absurd (by rw [List.getElem?_eq_getElem hi, he]) (Lib.indexByte_none hn i)
      · omega
  rw [eq]
  exact ⟨_, rfl, hK, Kp.refl _⟩
def fileOk (s : ByteArray) : Bool := decide (1 ≤ s.size) && (decide (s.size ≤ 64) && !hasZero s)
theorem c_isFile {s : ByteArray} {h : Hp} {K : Bool → Hp → Prop} (hK : K (fileOk s) h) : C48 s h K := by
  apply S48; unfold N48
  unfold fileOk at hK
  by_cases h1 : 1 ≤ s.size
  · have e1 : decide ((s.size : Int) ≥ 1) = true := decide_eq_true (by omega)
    have e1' : decide (1 ≤ s.size) = true := decide_eq_true h1
    rw [e1, cond_true]
    rw [e1', Bool.true_and] at hK
    by_cases h2 : s.size ≤ 64
    · have e2 : decide ((s.size : Int) ≤ 64) = true := decide_eq_true (by omega)
      have e2' : decide (s.size ≤ 64) = true := decide_eq_true h2
      rw [e2, cond_true]
      rw [e2', Bool.true_and] at hK
      exact c_contains0 hK
    · have e2 : decide ((s.size : Int) ≤ 64) = false := decide_eq_false (by omega)
      have e2' : decide (s.size ≤ 64) = false := decide_eq_false h2
      rw [e2, cond_false]
      rw [e2', Bool.false_and] at hK
      exact hK
  · have e1 : decide ((s.size : Int) ≥ 1) = false := decide_eq_false (by omega)
    have e1' : decide (1 ≤ s.size) = false := decide_eq_false h1
    rw [e1, cond_false]
    rw [e1', Bool.false_and] at hK
    exact hK
def freshO (os : List Opt) (nm : ByteArray) : Bool := os.all fun o => !(o.1.data.toList == nm.data.toList)
theorem freshO_snoc (os : List Opt) (o : Opt) (nm : ByteArray) : freshO (os ++ [o]) nm = (freshO os nm && !(o.1.data.toList == nm.data.toList)) := by simp [freshO]
theorem freshO_bad {os : List Opt} {nm : ByteArray} {o : Opt} (ho : o ∈ os) (e : (o.1.data.toList == nm.data.toList) = true) : freshO os nm = false := by
  rw [Bool.eq_false_iff]
  intro h
  have := List.all_eq_true.1 h o ho
  rw [e] at this; cases this
theorem c_first {s : Sl} {os : List Opt} {i : Nat} {x : Int} {h : Hp} {K : Bool → Hp → Prop} (H : RdO h s os) (hl : os.length ≤ 4611686018427387904) (hx : x = i) (hi : i < os.length) (hK : ∀ h', Ext none' h h' → K (freshO (os.take i) (os[i]).1) h') : C43 s x h K := by
  apply S43; unfold N43 N43_l0
  subst hx
  have hn := H.n
  have hc := H.c
  refine bd_nat (by omega) ?_
  rw [sadr_zero]
  refine loopP_inv (fun (x : Int) hc => Ext none' h hc ∧ ∃ j : Nat, x = j ∧ j ≤ i ∧ freshO (os.take j) (os[i]).1 = true) (fun x _ => i - x.toNat) ?_ ⟨Ext.refl, 0, rfl, Nat.zero_le _, rfl⟩
  rintro x hc' ⟨he, j, rfl, hj, hf⟩
  unfold N43_l0_B N43_l0_b
  dsimp only
  have H1 := H.ext he
  by_cases hlt : j < i
  · have : decide ((j : Int) < ((i : Nat) : Int)) = true := decide_eq_true (by omega)
    rw [this, cond_true]
    obtain ⟨a, ha, hs, hi'⟩ := H1.cells (i := j) (by omega)
    refine idx_of (by omega) (by show (j : Int) < ((i : Nat) : Int); omega) ?_
    rw [ha]
    show xS (cell hc' (a.add (((j : Nat) : Int).toNat * 2))) _
    rw [hs, xS_some, hi', xI_some]
    refine rng_new ?_
    intro b h2 e2 hb
    have hb0 : cell h2 (bk b) = some (.string (os[j]).1) := by rw [show (bk b) = (⟨b, 0, none⟩ : Addr) from rfl, hb.cell]; rfl
    rw [hb0, xS_some]
    obtain ⟨a2, ha2, hs2, _⟩ := (H1.ext e2).cells hi
    refine idx_of (by omega) (by omega) ?_
    have ea : a = a2 := Option.some.inj (ha.symm.trans ha2)
    subst ea
    show xS (cell h2 (a.add (((i : Nat) : Int).toNat * 2))) _
    rw [hs2, xS_some, ba_list]
    cases hq : ((os[j]).1.data.toList == (os[i]).1.data.toList) with
    | true =>
      simp only [cond_true]
      have := hK h2 (he.trans e2)
      rw [freshO_bad (o := os[j]) ?_ hq] at this
      · exact this
      · rw [List.mem_iff_getElem]
        exact ⟨j, by simp; omega, by simp⟩
    | false =>
      simp only [cond_false]
      rw [nat_succ64 (by omega)]
      refine ⟨⟨he.trans e2, j + 1, rfl, hlt, ?_⟩, by simp only [Int.toNat_natCast]; omega⟩
      rw [← List.take_append_getElem (by omega : j < os.length), freshO_snoc, hf, hq]; rfl
  · have : decide ((j : Int) < ((i : Nat) : Int)) = false := decide_eq_false (by omega)
    rw [this, cond_false]
    have : j = i := by omega
    subst this
    have := hK hc' he
    rw [hf] at this
    exact this
end Go.Proofs.YtedklcmdjoojfaaDoor

/-
  Right choices, told by both.
-/
set_option linter.unusedSimpArgs false
set_option linter.unusedVariables false
namespace Go.Proofs.YtedklcmdjoojfaaDoor
open Go Go.Hw
def right1 (pre : List Opt) (o : Opt) : Bool := known o.1 && (freshO pre o.1 && (decide (0 ≤ o.2) && decide (o.2 ≤ 2147483647)))
def rightL : List Opt → List Opt → Bool
  | _, [] => true
  | pre, o :: r => right1 pre o && rightL (pre ++ [o]) r
def rightO (os : List Opt) : Bool := rightL [] os
theorem rightL_step {os : List Opt} {i : Nat} (hi : i < os.length) : rightL (os.take i) (os.drop i) = (right1 (os.take i) os[i] && rightL (os.take (i + 1)) (os.drop (i + 1))) := by
  rw [List.drop_eq_getElem_cons hi, rightL, List.take_append_getElem hi]
theorem c_right {s : Sl} {os : List Opt} {h : Hp} {K : Bool → Hp → Prop} (H : RdO h s os) (hl : os.length ≤ 4611686018427387904) (hK : ∀ h', Ext none' h h' → K (rightO os) h') : C49 s h K := by
  apply S49; unfold N49 N49_l0
  have hn := H.n
  refine loopP_inv (fun (x : Int) hc => Ext none' h hc ∧ ∃ i : Nat, x = i ∧ i ≤ os.length ∧ rightO os = rightL (os.take i) (os.drop i)) (fun x _ => os.length - x.toNat) ?_ ⟨Ext.refl, 0, rfl, Nat.zero_le _, rfl⟩
  rintro x hc ⟨he, i, rfl, hi, hr⟩
  unfold N49_l0_B N49_l0_b
  dsimp only
  have H1 := H.ext he
  by_cases hlt : i < os.length
  · have : decide ((i : Int) < ((s.n : Nat) : Int)) = true := decide_eq_true (by omega)
    rw [this, cond_true]
    rw [rightL_step hlt] at hr
    unfold right1 at hr
    refine H1.at rfl hlt ?_
    intro a _ hs hv
    rw [hs, xS_some, hv, xI_some]
    refine rng_new ?_
    intro b h2 e2 hb
    have hb0 : cell h2 (bk b) = some (.string (os[i]).1) := by rw [show (bk b) = (⟨b, 0, none⟩ : Addr) from rfl, hb.cell]; rfl
    rw [hb0, xS_some]
    refine c_known ?_
    cases hk : known (os[i]).1 with
    | false =>
      rw [hk, Bool.false_and, Bool.false_and] at hr
      have := hK h2 (he.trans e2)
      rw [hr] at this
      exact this
    | true =>
    rw [hk, Bool.true_and] at hr
    simp only [Bool.not_true, cond_false]
    refine c_first (H1.ext e2) hl rfl hlt ?_
    intro h3 e3
    cases hf : freshO (os.take i) (os[i]).1 with
    | false =>
      rw [hf, Bool.false_and, Bool.false_and] at hr
      have := hK h3 ((he.trans e2).trans e3)
      rw [hr] at this
      exact this
    | true =>
    rw [hf, Bool.true_and] at hr
    simp only [Bool.not_true, cond_false]
    have hb3 := e3.blk hb (fun e => e)
    have hb1 : cell h3 ((bk b).add 1) = some (.int .i64 (os[i]).2) := by rw [add_bk, hb3.cell]; rfl
    rw [hb1, xI_some, xI_some]
    by_cases h0 : (os[i]).2 < 0
    · have e : decide ((os[i]).2 < 0) = true := decide_eq_true h0
      rw [e, cond_true]
      rw [show decide (0 ≤ (os[i]).2) = false from decide_eq_false (by omega), Bool.false_and, Bool.false_and] at hr
      have := hK h3 ((he.trans e2).trans e3)
      rw [hr] at this
      exact this
    have e : decide ((os[i]).2 < 0) = false := decide_eq_false h0
    rw [e, cond_false]
    rw [show decide (0 ≤ (os[i]).2) = true from decide_eq_true (by omega), Bool.true_and] at hr
    by_cases h9 : (os[i]).2 > 2147483647
    · have e : decide ((os[i]).2 > 2147483647) = true := decide_eq_true h9
      rw [e, cond_true]
      rw [show decide ((os[i]).2 ≤ 2147483647) = false from decide_eq_false (by omega), Bool.false_and] at hr
      have := hK h3 ((he.trans e2).trans e3)
      rw [hr] at this
      exact this
    have e : decide ((os[i]).2 > 2147483647) = false := decide_eq_false h9
    rw [e, cond_false]
    rw [show decide ((os[i]).2 ≤ 2147483647) = true from decide_eq_true (by omega), Bool.true_and] at hr
    rw [nat_succ64 (by omega)]
    exact ⟨⟨(he.trans e2).trans e3, i + 1, rfl, hlt, hr⟩, by simp only [Int.toNat_natCast]; omega⟩
  · have : decide ((i : Int) < ((s.n : Nat) : Int)) = false := decide_eq_false (by omega)
    rw [this, cond_false]
    rw [List.drop_of_length_le (by omega)] at hr
    have := hK hc he
    rw [hr] at this
    exact this
end Go.Proofs.YtedklcmdjoojfaaDoor

set_option linter.unusedVariables false
set_option maxRecDepth 100000
namespace Go.Proofs.YtedklcmdjoojfaaDoor
open Go Go.Hw
noncomputable def B28 : Code := match Tryd.f28.body with | some c => c | none => .skip
def N28_j1 (x1_p : Option Addr) (x8 : Bool) (h : Hp) (K_normal : Hp → Prop) (K_ret : Int → Hp → Prop) : Prop :=
  bif x8 then
    K_ret 171 h
  else
    nn x1_p fun a0 =>
    xL (cell h (a0.add 3)) fun s0 =>
    C49 s0 h fun b0 h0 =>
    bif (!b0) then
      K_ret 172 h0
    else
      K_normal h0
noncomputable def N28_j1_t : Xf := pieceT [(1, .c (.ptr)), (8, .c (.bool))] (codeAt B28 [1, 0, 1, 0, 1, 0, 0, 1]) fun x h Q => N28_j1 x.1 x.2 h (fun h' => Q .normal (Sg.env [] ()) h') (fun o0 h' => Q .ret (Sg.env [(2, .c (.int .i64))] o0) h')
theorem N28_j1_ok : Sound Tryd.prog Tryd.f28.ntmps N28_j1_t (codeAt B28 [1, 0, 1, 0, 1, 0, 0, 1]) := by
  refine piece_sound (fun e => match e with | .normal => [] | .ret => [2] | _ => []) ?_
  intro x h Q hb
  refine den_sound hE hm _ .leaf _ _ _ (annOk_leaf) ?_
  refine cast ?_ hb
  kernel_rfl
def N28_j3 (x1_p : Option Addr) (x31 : Bool) (h : Hp) (K_normal : Hp → Prop) (K_ret : Int → Hp → Prop) : Prop :=
  bif x31 then
    K_ret 1 h
  else
    nn x1_p fun a0 =>
    xI .i64 (cell h a0) fun n0 =>
    bif (n0 == 3) then
      nn x1_p fun a1 =>
      xL (cell h (a1.add 5)) fun s0 =>
      bif (decide (((s0.n : Nat) : Int) > 65464)) then
        K_ret 2 h
      else
        K_normal h
    else
      K_normal h
noncomputable def N28_j3_t : Xf := pieceT [(1, .c (.ptr)), (31, .c (.bool))] (codeAt B28 [1, 0, 1, 0, 1, 1, 1, 0, 0, 1]) fun x h Q => N28_j3 x.1 x.2 h (fun h' => Q .normal (Sg.env [] ()) h') (fun o0 h' => Q .ret (Sg.env [(2, .c (.int .i64))] o0) h')
theorem N28_j3_ok : Sound Tryd.prog Tryd.f28.ntmps N28_j3_t (codeAt B28 [1, 0, 1, 0, 1, 1, 1, 0, 0, 1]) := by
  refine piece_sound (fun e => match e with | .normal => [] | .ret => [2] | _ => []) ?_
  intro x h Q hb
  refine den_sound hE hm _ .leaf _ _ _ (annOk_leaf) ?_
  refine cast ?_ hb
  kernel_rfl
def N28_j4 (x1_p : Option Addr) (x52 : Bool) (h : Hp) (K_normal : Hp → Prop) (K_ret : Int → Hp → Prop) : Prop :=
  bif x52 then
    K_ret 1 h
  else
    nn x1_p fun a0 =>
    xS (cell h (a0.add 7)) fun s0 =>
    C50 s0 (⟨⟨[0]⟩⟩ : ByteArray) h fun b0 h0 =>
    bif b0 then
      K_ret 171 h0
    else
      nn x1_p fun a1 =>
      xS (cell h0 (a1.add 7)) fun s1 =>
      bif (decide ((s1.size : Int) > 255)) then
        K_ret 2 h0
      else
        K_normal h0
noncomputable def N28_j4_t : Xf := pieceT [(1, .c (.ptr)), (52, .c (.bool))] (codeAt B28 [1, 0, 1, 0, 1, 1, 1, 1, 1, 0, 0, 1]) fun x h Q => N28_j4 x.1 x.2 h (fun h' => Q .normal (Sg.env [] ()) h') (fun o0 h' => Q .ret (Sg.env [(2, .c (.int .i64))] o0) h')
theorem N28_j4_ok : Sound Tryd.prog Tryd.f28.ntmps N28_j4_t (codeAt B28 [1, 0, 1, 0, 1, 1, 1, 1, 1, 0, 0, 1]) := by
  refine piece_sound (fun e => match e with | .normal => [] | .ret => [2] | _ => []) ?_
  intro x h Q hb
  refine den_sound hE hm _ .leaf _ _ _ (annOk_leaf) ?_
  refine cast ?_ hb
  kernel_rfl
def N28_j2 (x1_p : Option Addr) (x4 : Int) (x28 : Bool) (h : Hp) (K_normal : Hp → Prop) (K_ret : Int → Hp → Prop) : Prop :=
  bif x28 then
    nn x1_p fun a0 =>
    xI .i64 (cell h (a0.add 4)) fun n0 =>
    bif (decide (n0 < 0)) then
      N28_j3 x1_p true h
        (fun h0 =>
          K_normal h0)
        (fun n1 h1 =>
          K_ret n1 h1)
    else
      nn x1_p fun a1 =>
      xI .i64 (cell h (a1.add 4)) fun n2 =>
      N28_j3 x1_p (decide (n2 > 65535)) h
        (fun h2 =>
          K_normal h2)
        (fun n3 h3 =>
          K_ret n3 h3)
  else
    bif (x4 == 5) then
      nn x1_p fun a2 =>
      xI .i64 (cell h (a2.add 6)) fun n4 =>
      bif (decide (n4 < 0)) then
        N28_j4 x1_p true h
          (fun h4 =>
            K_normal h4)
          (fun n5 h5 =>
            K_ret n5 h5)
      else
        nn x1_p fun a3 =>
        xI .i64 (cell h (a3.add 6)) fun n6 =>
        N28_j4 x1_p (decide (n6 > 65535)) h
          (fun h6 =>
            K_normal h6)
          (fun n7 h7 =>
            K_ret n7 h7)
    else
      K_ret 170 h
noncomputable def N28_j2_t : Xf := pieceT [(1, .c (.ptr)), (4, .c (.int .i64)), (28, .c (.bool))] (codeAt B28 [1, 0, 1, 0, 1, 1, 1]) fun x h Q => N28_j2 x.1 x.2.1 x.2.2 h (fun h' => Q .normal (Sg.env [] ()) h') (fun o0 h' => Q .ret (Sg.env [(2, .c (.int .i64))] o0) h')
theorem N28_j2_ok : Sound Tryd.prog Tryd.f28.ntmps N28_j2_t (codeAt B28 [1, 0, 1, 0, 1, 1, 1]) := by
  refine piece_sound (fun e => match e with | .normal => [] | .ret => [2] | _ => []) ?_
  intro x h Q hb
  refine den_sound hE hm _ (.two (.one (.two .leaf (.xf N28_j3_t))) (.two .leaf (.two (.one (.two .leaf (.xf N28_j4_t))) .leaf))) _ _ _ (⟨⟨annOk_leaf, N28_j3_ok⟩, ⟨annOk_leaf, ⟨⟨annOk_leaf, N28_j4_ok⟩, annOk_leaf⟩⟩⟩) ?_
  refine cast ?_ hb
  kernel_rfl
def N28_j0 (x1_p : Option Addr) (x4 : Int) (x5 : Bool) (h : Hp) (K_normal : Hp → Prop) (K_ret : Int → Hp → Prop) : Prop :=
  bif x5 then
    nn x1_p fun a0 =>
    xI .i64 (cell h a0) fun n0 =>
    bif (n0 == 1) then
      nn x1_p fun a1 =>
      xS (cell h (a1.add 1)) fun s0 =>
      C48 s0 h fun b0 h0 =>
      bif (!b0) then
        N28_j1 x1_p true h0
          (fun h1 =>
            K_normal h1)
          (fun n1 h2 =>
            K_ret n1 h2)
      else
        nn x1_p fun a2 =>
        xS (cell h0 (a2.add 2)) fun s1 =>
        N28_j1 x1_p (!(s1.toList == (⟨⟨[111, 99, 116, 101, 116]⟩⟩ : ByteArray).toList)) h0
          (fun h3 =>
            K_normal h3)
          (fun n2 h4 =>
            K_ret n2 h4)
    else
      N28_j1 x1_p false h
        (fun h5 =>
          K_normal h5)
        (fun n3 h6 =>
          K_ret n3 h6)
  else
    bif (x4 == 3) then
      N28_j2 x1_p x4 true h
        (fun h7 =>
          K_normal h7)
        (fun n4 h8 =>
          K_ret n4 h8)
    else
      N28_j2 x1_p x4 (x4 == 4) h
        (fun h9 =>
          K_normal h9)
        (fun n5 h10 =>
          K_ret n5 h10)
noncomputable def N28_j0_t : Xf := pieceT [(1, .c (.ptr)), (4, .c (.int .i64)), (5, .c (.bool))] (codeAt B28 [1, 0, 1, 0, 1]) fun x h Q => N28_j0 x.1 x.2.1 x.2.2 h (fun h' => Q .normal (Sg.env [] ()) h') (fun o0 h' => Q .ret (Sg.env [(2, .c (.int .i64))] o0) h')
theorem N28_j0_ok : Sound Tryd.prog Tryd.f28.ntmps N28_j0_t (codeAt B28 [1, 0, 1, 0, 1]) := by
  refine piece_sound (fun e => match e with | .normal => [] | .ret => [2] | _ => []) ?_
  intro x h Q hb
  refine den_sound hE hm _ (.two (.one (.two .leaf (.xf N28_j1_t))) (.two .leaf (.xf N28_j2_t))) _ _ _ (⟨⟨annOk_leaf, N28_j1_ok⟩, ⟨annOk_leaf, N28_j2_ok⟩⟩) ?_
  refine cast ?_ hb
  kernel_rfl
def N28 (x0_0 : Int) (x0_1 : ByteArray) (x0_2 : ByteArray) (x0_3 : Sl) (x0_4 : Int) (x0_5 : Sl) (x0_6 : Int) (x0_7 : ByteArray) (h : Hp) (K : Int → Hp → Prop) : Prop :=
  nw h (.cells ⟨[.int .i64 x0_0, .string x0_1, .string x0_2, .slice x0_3.p x0_3.n x0_3.c, .int .i64 x0_4, .slice x0_5.p x0_5.n x0_5.c, .int .i64 x0_6, .string x0_7]⟩ 26) fun b0 h0 =>
  xI .i64 (cell h0 (bk b0)) fun n0 =>
  bif (n0 == 1) then
    N28_j0 (some (bk b0)) n0 true h0
      (fun h1 =>
        K 0 h1)
      (fun n1 h2 =>
        K n1 h2)
  else
    N28_j0 (some (bk b0)) n0 (n0 == 6) h0
      (fun h3 =>
        K 0 h3)
      (fun n2 h4 =>
        K n2 h4)
theorem S28 {x0_0 : Int} {x0_1 : ByteArray} {x0_2 : ByteArray} {x0_3 : Sl} {x0_4 : Int} {x0_5 : Sl} {x0_6 : Int} {x0_7 : ByteArray} {h : Hp} {K : Int → Hp → Prop} (hn : N28 x0_0 x0_1 x0_2 x0_3 x0_4 x0_5 x0_6 x0_7 h K) : C28 x0_0 x0_1 x0_2 x0_3 x0_4 x0_5 x0_6 x0_7 h K := by
  refine calls_of_D Tryd.func28 (c := B28) rfl (by kernel_rfl) ?_
  refine den_sound hE hm _ (.two .leaf (.two (.two .leaf (.one (.two .leaf (.xf N28_j0_t)))) .leaf)) _ _ _ (⟨annOk_leaf, ⟨⟨annOk_leaf, ⟨annOk_leaf, N28_j0_ok⟩⟩, annOk_leaf⟩⟩) ?_
  refine cast ?_ hn
  kernel_rfl
end Go.Proofs.YtedklcmdjoojfaaDoor

set_option linter.unusedVariables false
set_option maxRecDepth 100000
namespace Go.Proofs.YtedklcmdjoojfaaDoor
open Go Go.Hw
end Go.Proofs.YtedklcmdjoojfaaDoor

/-
  Which packets may be laid, told by both.
-/
set_option linter.unusedSimpArgs false
set_option linter.unusedVariables false
namespace Go.Proofs.YtedklcmdjoojfaaDoor
open Go Go.Hw
def octS : List UInt8 := [111, 99, 116, 101, 116]
def checkV (op : Int) (file mode : ByteArray) (os : List Opt) (block : Int) (dl : Nat) (code : Int) (text : ByteArray) : Int :=
  if op = 1 then (if fileOk file = false then 171 else if (mode.data.toList == octS) = false then 171 else if rightO os = false then 172 else 0)
  else if op = 6 then (if rightO os = false then 172 else 0)
  else if op = 3 then (if block < 0 then 1 else if block > 65535 then 1 else if dl > 65464 then 2 else 0)
  else if op = 4 then (if block < 0 then 1 else if block > 65535 then 1 else 0)
  else if op = 5 then (if code < 0 then 1 else if code > 65535 then 1 else if hasZero text = true then 171 else if text.size > 255 then 2 else 0)
  else 170
def pkL (op : Int) (file mode : ByteArray) (x3 : Sl) (block : Int) (x5 : Sl) (code : Int) (text : ByteArray) : List Value :=
  [.int .i64 op, .string file, .string mode, x3.v, .int .i64 block, x5.v, .int .i64 code, .string text]
structure PkC (h : Hp) (a : Addr) (op : Int) (file mode : ByteArray) (x3 : Sl) (block : Int) (x5 : Sl) (code : Int) (text : ByteArray) : Prop where
  c0 : cell h a = some (.int .i64 op)
  c1 : cell h (a.add 1) = some (.string file)
  c2 : cell h (a.add 2) = some (.string mode)
  c3 : cell h (a.add 3) = some x3.v
  c4 : cell h (a.add 4) = some (.int .i64 block)
  c5 : cell h (a.add 5) = some x5.v
  c6 : cell h (a.add 6) = some (.int .i64 code)
  c7 : cell h (a.add 7) = some (.string text)
theorem pkC_of {h : Hp} {b : Nat} {T : TypeId} {op : Int} {file mode : ByteArray} {x3 : Sl} {block : Int} {x5 : Sl} {code : Int} {text : ByteArray} (hb : Blk h b T (pkL op file mode x3 block x5 code text)) : PkC h (bk b) op file mode x3 block x5 code text := by
  constructor <;> (first | rw [add_bk, hb.cell] | rw [show (bk b) = (⟨b, 0, none⟩ : Addr) from rfl, hb.cell]) <;> rfl
theorem PkC.ext {h h' : Hp} {a : Addr} {op : Int} {file mode : ByteArray} {x3 : Sl} {block : Int} {x5 : Sl} {code : Int} {text : ByteArray} (H : PkC h a op file mode x3 block x5 code text) (he : Ext none' h h') : PkC h' a op file mode x3 block x5 code text :=
  ⟨cellx he H.c0, cellx he H.c1, cellx he H.c2, cellx he H.c3, cellx he H.c4, cellx he H.c5, cellx he H.c6, cellx he H.c7⟩
theorem c_check {op : Int} {file mode : ByteArray} {x3 : Sl} {block : Int} {x5 : Sl} {code : Int} {text : ByteArray} {os : List Opt} {h : Hp} {K : Int → Hp → Prop} (H : RdO h x3 os) (hl : os.length ≤ 4611686018427387904)
    (hK : ∀ h', Ext none' h h' → K (checkV op file mode os block x5.n code text) h') : C28 op file mode x3 block x5 code text h K := by
  apply S28; unfold N28
  intro b0 e0
  have y0 : Ext none' h (upd h b0 (.cells ⟨pkL op file mode x3 block x5 code text⟩ 26 (0, 0))) := Ext.new e0
  have pc := pkC_of (h := upd h b0 (.cells ⟨pkL op file mode x3 block x5 code text⟩ 26 (0, 0))) (b := b0) (T := 26) Blk.upd_same
  have es : (upd h b0 (.cells ⟨[.int .i64 op, .string file, .string mode, .slice x3.p x3.n x3.c, .int .i64 block, .slice x5.p x5.n x5.c, .int .i64 code, .string text]⟩ 26)) = upd h b0 (.cells ⟨pkL op file mode x3 block x5 code text⟩ 26 (0, 0)) := rfl
  rw [es]
  revert y0 pc
  generalize upd h b0 _ = h0
  intro y0 pc
  obtain ⟨c0, c1, c2, c3, c4, c5, c6, c7⟩ := pc
  have H0 := H.ext y0
  have hK0 := hK h0 y0
  rw [c0, xI_some]
  by_cases h1 : op = 1
  · subst h1
    have hq : ∀ h', Ext none' h h' → K (if fileOk file = false then 171 else if (mode.data.toList == octS) = false then 171 else if rightO os = false then 172 else 0) h' := hK
    simp only [beq_self_eq_true, cond_true]
    unfold N28_j0
    simp only [cond_true, nn_some', c0, c1, xI_some, xS_some, beq_self_eq_true]
    refine c_isFile ?_
    cases hf : fileOk file with
    | false =>
      simp only [Bool.not_false, cond_true]
      unfold N28_j1
      simp only [cond_true]
      have := hq h0 y0
      rw [if_pos hf] at this; exact this
    | true =>
    rw [if_neg (by rw [hf]; simp)] at hq
    simp only [Bool.not_true, cond_false, c2, xS_some, ba_list]
    unfold N28_j1
    cases hm : (mode.data.toList == octS) with
    | false =>
      have hm' : (mode.data.toList == [111, 99, 116, 101, 116]) = false := hm
      simp only [hm', Bool.not_false, cond_true]
      have := hq h0 y0
      rw [if_pos hm] at this; exact this
    | true =>
    rw [if_neg (by rw [hm]; simp)] at hq
    have hm' : (mode.data.toList == [111, 99, 116, 101, 116]) = true := hm
    simp only [hm', Bool.not_true, cond_false, nn_some', c3, xL_v]
    refine c_right H0 hl ?_
    intro h2 e2
    have := hq h2 (y0.trans e2)
    cases hr : rightO os with
    | false => simp only [Bool.not_false, cond_true]; rw [if_pos hr] at this; exact this
    | true => simp only [Bool.not_true, cond_false]; rw [if_neg (by rw [hr]; simp)] at this; exact this
  have e1 : (op == 1) = false := by rw [beq_eq_false_iff_ne]; exact h1
  rw [e1, cond_false]
  unfold checkV at hK hK0
  rw [if_neg h1] at hK0
  by_cases h6 : op = 6
  · subst h6
    have hq : ∀ h', Ext none' h h' → K (if rightO os = false then 172 else 0) h' := hK
    unfold N28_j0
    simp only [beq_self_eq_true, cond_true, nn_some', c0, xI_some, show ((6 : Int) == 1) = false from rfl, cond_false]
    unfold N28_j1
    simp only [cond_false, nn_some', c3, xL_v]
    refine c_right H0 hl ?_
    intro h2 e2
    have := hq h2 (y0.trans e2)
    cases hr : rightO os with
    | false => simp only [Bool.not_false, cond_true]; rw [if_pos hr] at this; exact this
    | true => simp only [Bool.not_true, cond_false]; rw [if_neg (by rw [hr]; simp)] at this; exact this
  have e6 : (op == 6) = false := by rw [beq_eq_false_iff_ne]; exact h6
  rw [if_neg h6] at hK0
  rw [e6]
  unfold N28_j0
  simp only [cond_false]
  unfold N28_j2
  by_cases h3 : op = 3
  · subst h3
    rw [if_pos rfl] at hK0
    simp only [beq_self_eq_true, cond_true, nn_some', c4, xI_some]
    unfold N28_j3
    by_cases g0 : block < 0
    · rw [if_pos g0] at hK0
      simp only [g0, decide_true, cond_true]; exact hK0
    rw [if_neg g0] at hK0
    simp only [g0, decide_false, cond_false]
    by_cases g1 : block > 65535
    · rw [if_pos g1] at hK0
      simp only [g1, decide_true, cond_true]; exact hK0
    rw [if_neg g1] at hK0
    simp only [g1, decide_false, cond_false, nn_some', c0, xI_some, beq_self_eq_true, cond_true, c5, xL_v]
    by_cases g2 : x5.n > 65464
    · rw [if_pos g2] at hK0
      have : decide (((x5.n : Nat) : Int) > 65464) = true := decide_eq_true (by omega)
      rw [this, cond_true]; exact hK0
    · rw [if_neg g2] at hK0
      have : decide (((x5.n : Nat) : Int) > 65464) = false := decide_eq_false (by omega)
      rw [this, cond_false]; exact hK0
  have e3 : (op == 3) = false := by rw [beq_eq_false_iff_ne]; exact h3
  rw [if_neg h3] at hK0
  simp only [e3, cond_false]
  by_cases h4 : op = 4
  · subst h4
    rw [if_pos rfl] at hK0
    simp only [beq_self_eq_true, cond_true, nn_some', c4, xI_some]
    unfold N28_j3
    by_cases g0 : block < 0
    · rw [if_pos g0] at hK0
      simp only [g0, decide_true, cond_true]; exact hK0
    rw [if_neg g0] at hK0
    simp only [g0, decide_false, cond_false]
    by_cases g1 : block > 65535
    · rw [if_pos g1] at hK0
      simp only [g1, decide_true, cond_true]; exact hK0
    rw [if_neg g1] at hK0
    simp only [g1, decide_false, cond_false, nn_some', c0, xI_some, show ((4 : Int) == 3) = false from rfl]
    exact hK0
  have e4 : (op == 4) = false := by rw [beq_eq_false_iff_ne]; exact h4
  rw [if_neg h4] at hK0
  simp only [e4, cond_false]
  by_cases h5 : op = 5
  · subst h5
    rw [if_pos rfl] at hK0
    simp only [beq_self_eq_true, cond_true, nn_some', c6, xI_some]
    unfold N28_j4
    by_cases g0 : code < 0
    · rw [if_pos g0] at hK0
      simp only [g0, decide_true, cond_true]; exact hK0
    rw [if_neg g0] at hK0
    simp only [g0, decide_false, cond_false]
    by_cases g1 : code > 65535
    · rw [if_pos g1] at hK0
      simp only [g1, decide_true, cond_true]; exact hK0
    rw [if_neg g1] at hK0
    simp only [g1, decide_false, cond_false, nn_some', c7, xS_some]
    refine c_contains0 ?_
    cases hz : hasZero text with
    | true =>
      rw [if_pos hz] at hK0
      simp only [cond_true]; exact hK0
    | false =>
      rw [if_neg (by rw [hz]; simp)] at hK0
      simp only [cond_false, nn_some', c7, xS_some]
      by_cases g2 : text.size > 255
      · rw [if_pos g2] at hK0
        have : decide ((text.size : Int) > 255) = true := decide_eq_true (by omega)
        rw [this, cond_true]; exact hK0
      · rw [if_neg g2] at hK0
        have : decide ((text.size : Int) > 255) = false := decide_eq_false (by omega)
        rw [this, cond_false]; exact hK0
  have e5 : (op == 5) = false := by rw [beq_eq_false_iff_ne]; exact h5
  rw [if_neg h5] at hK0
  simp only [e5, cond_false]
  exact hK0
end Go.Proofs.YtedklcmdjoojfaaDoor

set_option linter.unusedVariables false
set_option maxRecDepth 100000
namespace Go.Proofs.YtedklcmdjoojfaaDoor
open Go Go.Hw
noncomputable def B29 : Code := match Tryd.f29.body with | some c => c | none => .skip
def N29 (x0 : Sl) (x1 : Int) (h : Hp) (K : Sl → Hp → Prop) : Prop :=
  C51 (IntKind.wrap .u64 x1) 2 h fun s0 h0 =>
  apK Tryd.prog 5 x0 (.slice s0.p s0.n s0.c) h0 fun s1 h1 =>
  K s1 h1
theorem S29 {x0 : Sl} {x1 : Int} {h : Hp} {K : Sl → Hp → Prop} (hn : N29 x0 x1 h K) : C29 x0 x1 h K := by
  refine calls_of_D Tryd.func29 (c := B29) rfl (by kernel_rfl) ?_
  refine den_sound hE hm _ .leaf _ _ _ (annOk_leaf) ?_
  refine cast ?_ hn
  kernel_rfl
end Go.Proofs.YtedklcmdjoojfaaDoor

set_option linter.unusedVariables false
set_option maxRecDepth 100000
namespace Go.Proofs.YtedklcmdjoojfaaDoor
open Go Go.Hw
noncomputable def B30 : Code := match Tryd.f30.body with | some c => c | none => .skip
def N30 (x0 : Sl) (x1 : ByteArray) (h : Hp) (K : Sl → Hp → Prop) : Prop :=
  apK Tryd.prog 5 x0 (.string x1) h fun s0 h0 =>
  nw h0 (.cells ⟨[.int .u8 0]⟩ 5) fun b0 h1 =>
  apK Tryd.prog 5 s0 (.slice (some (bk b0)) 1 1) h1 fun s1 h2 =>
  K s1 h2
theorem S30 {x0 : Sl} {x1 : ByteArray} {h : Hp} {K : Sl → Hp → Prop} (hn : N30 x0 x1 h K) : C30 x0 x1 h K := by
  refine calls_of_D Tryd.func30 (c := B30) rfl (by kernel_rfl) ?_
  refine den_sound hE hm _ .leaf _ _ _ (annOk_leaf) ?_
  refine cast ?_ hn
  kernel_rfl
end Go.Proofs.YtedklcmdjoojfaaDoor

set_option linter.unusedVariables false
set_option maxRecDepth 100000
namespace Go.Proofs.YtedklcmdjoojfaaDoor
open Go Go.Hw
end Go.Proofs.YtedklcmdjoojfaaDoor

set_option linter.unusedVariables false
set_option maxRecDepth 100000
namespace Go.Proofs.YtedklcmdjoojfaaDoor
open Go Go.Hw
end Go.Proofs.YtedklcmdjoojfaaDoor

set_option linter.unusedVariables false
set_option maxRecDepth 100000
namespace Go.Proofs.YtedklcmdjoojfaaDoor
open Go Go.Hw
end Go.Proofs.YtedklcmdjoojfaaDoor

/-
  Bytes that grow: numbers, texts.
-/
set_option linter.unusedSimpArgs false
set_option linter.unusedVariables false
namespace Go.Proofs.YtedklcmdjoojfaaDoor
open Go Go.Hw
theorem set_snoc {α : Type} {M : List α} {j : Nat} {A B : α} (hj : j < M.length) : (M ++ [A]).set j B = M.set j B ++ [A] := by rw [List.set_append_left _ _ hj]
theorem sat_letgo {L M : List Asn} {A : Asn} {h : Hp} (hs : Sat (L ++ (M ++ [A])) h) : Sat (L ++ M) h := by
  rw [← List.append_assoc] at hs; exact hs.left
theorem grow_sl {L M : List Asn} {s t : Sl} {l m : List UInt8} {h : Hp} {F : Sl → Hp → Prop} (hs : Sat (L ++ M) h) (j : Nat) (hj : M[j]? = some (Hw.own 5 1 s (bc l))) (T : RdB h t m) (hl : l.length + m.length ≤ 1099511627776)
    (hF : ∀ s' h', Sat (L ++ M.set j (Hw.own 5 1 s' (bc (l ++ m)))) h' → F s' h') : apK Tryd.prog 5 s (.slice t.p t.n t.c) h F := by
  have tn := T.n
  have sn : s.n = l.length := by have := (hs.own j hj).1; simp at this; omega
  refine hs.ap j hj (n := m.length) (ns := bc m) y_a y_zl (fun G => by show G t.n = _; rw [tn]) (fun G hG => T.srcK (s := t) (n := m.length) (Nat.le_refl _) (by rw [List.take_length]; exact hG)) (by simp) bc_plain (by rw [y_b]; omega) ?_
  intro s' h' hs' _
  rw [← bc_app] at hs'
  exact hF s' h' hs'
theorem grow_one {L M : List Asn} {s : Sl} {l : List UInt8} {b : UInt8} {n : Int} {h : Hp} {F : Sl → Hp → Prop} (hs : Sat (L ++ M) h) (j : Nat) (hj : M[j]? = some (Hw.own 5 1 s (bc l))) (hn : n = b.toNat) (hl : l.length ≤ 1099511627776)
    (hF : ∀ s' h', Sat (L ++ M.set j (Hw.own 5 1 s' (bc (l ++ [b])))) h' → F s' h') : nw h (.cells ⟨[.int .u8 n]⟩ 5) fun b0 h0 => apK Tryd.prog 5 s (.slice (some (bk b0)) 1 1) h0 F := by
  subst hn
  have sn : s.n = l.length := by have := (hs.own j hj).1; simp at this; omega
  refine hs.push j hj (k := 1) (ns := bc [b]) y_a y_zl rfl bc_plain (by rw [y_b]; omega) ?_
  intro s' h' hs' _
  rw [← bc_app] at hs'
  exact hF s' h' hs'
theorem grow_str {L M : List Asn} {s : Sl} {l m : List UInt8} {h : Hp} {F : Sl → Hp → Prop} (hs : Sat (L ++ M) h) (j : Nat) (hj : M[j]? = some (Hw.own 5 1 s (bc l))) (hl : l.length + m.length ≤ 1099511627776)
    (hF : ∀ s' h', Sat (L ++ M.set j (Hw.own 5 1 s' (bc (l ++ m)))) h' → F s' h') : apK Tryd.prog 5 s (.string ⟨⟨m⟩⟩) h F := by
  have sn : s.n = l.length := by have := (hs.own j hj).1; simp at this; omega
  refine hs.ap j hj (n := m.length) (ns := bc m) y_a y_zl (fun G => rfl) (fun G hG => ?_) (by simp) bc_plain (by rw [y_b]; omega) ?_
  · unfold srcK
    simp only [bcells_bc]
    rw [List.take_of_length_le (by simp)]
    exact hG
  · intro s' h' hs' _
    rw [← bc_app] at hs'
    exact hF s' h' hs'
theorem c_number {L M : List Asn} {s : Sl} {l : List UInt8} {n : Int} {h : Hp} {K : Sl → Hp → Prop} (hs : Sat (L ++ M) h) (j : Nat) (hj : M[j]? = some (Hw.own 5 1 s (bc l))) (hl : l.length ≤ 1073741824) (n0 : 0 ≤ n) (n1 : n ≤ 65535)
    (hK : ∀ s' h', Sat (L ++ M.set j (Hw.own 5 1 s' (bc (l ++ be n.toNat 2)))) h' → K s' h') : C29 s n h K := by
  apply S29; unfold N29
  rw [wu64i n0 (by omega)]
  refine c_put n0 (by omega) ?_
  intro h2 c no
  have hjl := lt_of_get hj
  have hs2 := hs.addNew no
  have ep : putL n.toNat 2 = be n.toNat 2 := rfl
  rw [ep] at hs2
  have hr : RdB h2 c (be n.toNat 2) := by have := no.2.1.rdb; rwa [ep] at this
  refine grow_sl hs2 j (by rw [List.getElem?_append_left hjl]; exact hj) hr (by rw [be_len]; omega) ?_
  intro s' h' hs3
  rw [set_snoc hjl] at hs3
  exact hK s' h' (sat_letgo hs3)
theorem c_text {L M : List Asn} {s : Sl} {l : List UInt8} {t : ByteArray} {h : Hp} {K : Sl → Hp → Prop} (hs : Sat (L ++ M) h) (j : Nat) (hj : M[j]? = some (Hw.own 5 1 s (bc l))) (hl : l.length + t.size ≤ 1073741824)
    (hK : ∀ s' h', Sat (L ++ M.set j (Hw.own 5 1 s' (bc (l ++ (t.data.toList ++ [0]))))) h' → K s' h') : C30 s t h K := by
  apply S30; unfold N30
  obtain ⟨⟨m⟩⟩ := t
  have sz : (⟨⟨m⟩⟩ : ByteArray).size = m.length := rfl
  rw [sz] at hl
  have hjl := lt_of_get hj
  refine grow_str hs j hj (by omega) ?_
  intro s' h' hs'
  refine grow_one (b := 0) hs' j (by rw [List.getElem?_set_self hjl]) rfl (by simp; omega) ?_
  intro s2 h2 hs2
  rw [List.set_set, List.append_assoc] at hs2
  exact hK s2 h2 hs2
end Go.Proofs.YtedklcmdjoojfaaDoor

set_option linter.unusedVariables false
set_option maxRecDepth 100000
namespace Go.Proofs.YtedklcmdjoojfaaDoor
open Go Go.Hw
noncomputable def B11 : Code := match Tryd.f11.body with | some c => c | none => .skip
def N11_l1_b (x52 : Sl) (x53 : Int) (Φ : Sl → Int → Hp → Prop) (x5_b : Sl) (x54 : Int) (h : Hp) (K_e1 : Sl → Hp → Prop) : Prop :=
  bif (decide (x54 < x53)) then
    idx x54 x52.n <|
    nn x52.p fun a0 =>
    xS (cell h (a0.add (x54.toNat * 2))) fun s0 =>
    xI .i64 (cell h ((a0.add (x54.toNat * 2)).add 1)) fun n0 =>
    nw h (.cells ⟨[.string (⟨⟨[]⟩⟩ : ByteArray), .int .i64 0]⟩ 56) fun b0 h0 =>
    st h0 (bk b0) (.string s0) fun h1 =>
    st h1 ((bk b0).add 1) (.int .i64 n0) fun h2 =>
    xS (cell h2 (bk b0)) fun s1 =>
    xI .i64 (cell h2 ((bk b0).add 1)) fun n1 =>
    C30 x5_b s1 h2 fun s2 h3 =>
    both (xI .i64 (cell h3 ((bk b0).add 1)) fun n2 => Only (.int .i64 n1) h3 (.int .i64 n2) h3) <|
    C31 n1 h3 fun s3 h4 =>
    C30 s2 s3 h4 fun s4 h5 =>
    Φ s4 (IntKind.wrap .i64 (x54 + 1)) h5
  else
    K_e1 x5_b h
def N11_l1_B (x52 : Sl) (x53 : Int) (K_e1 : Sl → Hp → Prop) (s : Sg.T [(5, .c (.slice)), (54, .c (.int .i64))]) (h : Hp) (Φ : Sg.T [(5, .c (.slice)), (54, .c (.int .i64))] → Hp → Prop) : Prop :=
  N11_l1_b x52 x53 (fun x5_b x54 h => Φ (x5_b, x54) h) s.1 s.2 h K_e1
def N11_l1 (x52 : Sl) (x53 : Int) (x5_b : Sl) (x54 : Int) (h : Hp) (K_e1 : Sl → Hp → Prop) : Prop :=
  loopP (N11_l1_B x52 x53 K_e1) (x5_b, x54) h
noncomputable def N11_l1_t : Xf := loopT [(52, .c (.slice)), (53, .c (.int .i64))] [(5, .c (.slice)), (54, .c (.int .i64))] (codeAt B11 [1, 1, 1, 1, 0, 1, 0, 0]) fun F Q => N11_l1_B F.1 F.2 (fun o0 h' => Q (.exit 1) (Sg.env [(5, .c (.slice))] o0) h')
theorem N11_l1_ok : Sound Tryd.prog Tryd.f11.ntmps N11_l1_t (codeAt B11 [1, 1, 1, 1, 0, 1, 0]) := by
  refine loop_sound (fun e => match e with | .exit 1 => [5] | _ => []) (by kernel_rfl) ?_
  intro F Q s h Φ hb
  refine den_sound hE hm _ (.two .leaf (.two .leaf (.two (.one (.two .leaf (.ord [0, 1, 2, 4, 5, 3, 6, 7, 8]))) .leaf))) _ _ _ (⟨annOk_leaf, ⟨annOk_leaf, ⟨⟨annOk_leaf, trivial⟩, annOk_leaf⟩⟩⟩) ?_
  refine cast ?_ hb
  kernel_rfl
def N11_j0 (x1_p : Option Addr) (x5_b : Sl) (h : Hp) (K_ret : Sl → Int → Hp → Prop) : Prop :=
  nn x1_p fun a0 =>
  xL (cell h (a0.add 3)) fun s0 =>
  N11_l1 s0 ((s0.n : Nat) : Int) x5_b 0 h
    (fun s1 h0 =>
      K_ret s1 0 h0)
noncomputable def N11_j0_t : Xf := pieceT [(1, .c (.ptr)), (5, .c (.slice))] (codeAt B11 [1, 1, 1, 1]) fun x h Q => N11_j0 x.1 x.2 h (fun o0 o1 h' => Q .ret (Sg.env [(2, .c (.slice)), (3, .c (.int .i64))] (o0, o1)) h')
theorem N11_j0_ok : Sound Tryd.prog Tryd.f11.ntmps N11_j0_t (codeAt B11 [1, 1, 1, 1]) := by
  refine piece_sound (fun e => match e with | .ret => [2, 3] | _ => []) ?_
  intro x h Q hb
  refine den_sound hE hm _ (.two (.two .leaf (.one (.xf N11_l1_t))) .leaf) _ _ _ (⟨⟨annOk_leaf, N11_l1_ok⟩, annOk_leaf⟩) ?_
  refine cast ?_ hb
  kernel_rfl
def N11 (x0_0 : Int) (x0_1 : ByteArray) (x0_2 : ByteArray) (x0_3 : Sl) (x0_4 : Int) (x0_5 : Sl) (x0_6 : Int) (x0_7 : ByteArray) (h : Hp) (K : Sl → Int → Hp → Prop) : Prop :=
  nw h (.cells ⟨[.int .i64 x0_0, .string x0_1, .string x0_2, .slice x0_3.p x0_3.n x0_3.c, .int .i64 x0_4, .slice x0_5.p x0_5.n x0_5.c, .int .i64 x0_6, .string x0_7]⟩ 26) fun b0 h0 =>
  xI .i64 (cell h0 (bk b0)) fun n0 =>
  xS (cell h0 ((bk b0).add 1)) fun s0 =>
  xS (cell h0 ((bk b0).add 2)) fun s1 =>
  xL (cell h0 ((bk b0).add 3)) fun s2 =>
  xI .i64 (cell h0 ((bk b0).add 4)) fun n1 =>
  xL (cell h0 ((bk b0).add 5)) fun s3 =>
  xI .i64 (cell h0 ((bk b0).add 6)) fun n2 =>
  xS (cell h0 ((bk b0).add 7)) fun s4 =>
  C28 n0 s0 s1 s2 n1 s3 n2 s4 h0 fun n3 h1 =>
  bif (n3 != 0) then
    K ⟨none, 0, 0⟩ n3 h1
  else
    xI .i64 (cell h1 (bk b0)) fun n4 =>
    C29 ⟨none, 0, 0⟩ n4 h1 fun s5 h2 =>
    xI .i64 (cell h2 (bk b0)) fun n5 =>
    bif (n5 == 3) then
      xI .i64 (cell h2 ((bk b0).add 4)) fun n6 =>
      xL (cell h2 ((bk b0).add 5)) fun s6 =>
      C29 s5 n6 h2 fun s7 h3 =>
      both (xL (cell h3 ((bk b0).add 5)) fun s8 => Only (.slice s6.p s6.n s6.c) h3 (.slice s8.p s8.n s8.c) h3) <|
      apK Tryd.prog 5 s7 (.slice s6.p s6.n s6.c) h3 fun s9 h4 =>
      K s9 0 h4
    else
      bif (n5 == 4) then
        xI .i64 (cell h2 ((bk b0).add 4)) fun n7 =>
        C29 s5 n7 h2 fun s10 h5 =>
        K s10 0 h5
      else
        bif (n5 == 5) then
          xI .i64 (cell h2 ((bk b0).add 6)) fun n8 =>
          xS (cell h2 ((bk b0).add 7)) fun s11 =>
          C29 s5 n8 h2 fun s12 h6 =>
          both (xS (cell h6 ((bk b0).add 7)) fun s13 => Only (.string s11) h6 (.string s13) h6) <|
          C30 s12 s11 h6 fun s14 h7 =>
          K s14 0 h7
        else
          bif (n5 == 1) then
            xS (cell h2 ((bk b0).add 1)) fun s15 =>
            xS (cell h2 ((bk b0).add 2)) fun s16 =>
            C30 s5 s15 h2 fun s17 h8 =>
            both (xS (cell h8 ((bk b0).add 2)) fun s18 => Only (.string s16) h8 (.string s18) h8) <|
            C30 s17 s16 h8 fun s19 h9 =>
            N11_j0 (some (bk b0)) s19 h9
              (fun s20 n9 h10 =>
                K s20 n9 h10)
          else
            N11_j0 (some (bk b0)) s5 h2
              (fun s21 n10 h11 =>
                K s21 n10 h11)
theorem S11 {x0_0 : Int} {x0_1 : ByteArray} {x0_2 : ByteArray} {x0_3 : Sl} {x0_4 : Int} {x0_5 : Sl} {x0_6 : Int} {x0_7 : ByteArray} {h : Hp} {K : Sl → Int → Hp → Prop} (hn : N11 x0_0 x0_1 x0_2 x0_3 x0_4 x0_5 x0_6 x0_7 h K) : C11 x0_0 x0_1 x0_2 x0_3 x0_4 x0_5 x0_6 x0_7 h K := by
  refine calls_of_D Tryd.func11 (c := B11) rfl (by kernel_rfl) ?_
  refine den_sound hE hm _ (.two .leaf (.two .leaf (.two .leaf (.two (.two .leaf (.one (.two .leaf (.two (.two (.ord [0, 1, 2, 4, 5, 3, 6, 7, 8]) .leaf) (.two .leaf (.two .leaf (.two .leaf (.two (.two (.ord [0, 1, 2, 4, 5, 3, 6, 7, 8]) .leaf) (.two .leaf (.two (.ord [0, 1, 2, 4, 5, 3, 6, 7]) .leaf)))))))))) (.xf N11_j0_t))))) _ _ _ (⟨annOk_leaf, ⟨annOk_leaf, ⟨annOk_leaf, ⟨⟨annOk_leaf, ⟨annOk_leaf, ⟨⟨trivial, annOk_leaf⟩, ⟨annOk_leaf, ⟨annOk_leaf, ⟨annOk_leaf, ⟨⟨trivial, annOk_leaf⟩, ⟨annOk_leaf, ⟨trivial, annOk_leaf⟩⟩⟩⟩⟩⟩⟩⟩⟩, N11_j0_ok⟩⟩⟩⟩) ?_
  refine cast ?_ hn
  kernel_rfl
end Go.Proofs.YtedklcmdjoojfaaDoor

set_option linter.unusedVariables false
set_option maxRecDepth 100000
namespace Go.Proofs.YtedklcmdjoojfaaDoor
open Go Go.Hw
end Go.Proofs.YtedklcmdjoojfaaDoor

/-
  A packet's choices laid as bytes, by both.
-/
set_option linter.unusedSimpArgs false
set_option linter.unusedVariables false
namespace Go.Proofs.YtedklcmdjoojfaaDoor
open Go Go.Hw
def optB (o : Opt) : List UInt8 := (o.1.data.toList ++ [0]) ++ (Lib.decDigits o.2.toNat ++ [0])
def optsB (os : List Opt) : List UInt8 := os.flatMap optB
theorem optsB_step {os : List Opt} {i : Nat} (hi : i < os.length) : optsB (os.take (i + 1)) = optsB (os.take i) ++ optB os[i] := by
  unfold optsB
  rw [← List.take_append_getElem hi, List.flatMap_append, List.flatMap_cons, List.flatMap_nil, List.append_nil]
theorem optsB_le (os : List Opt) (i : Nat) : (optsB (os.take i)).length ≤ (optsB os).length := by
  have : optsB os = optsB (os.take i) ++ optsB (os.drop i) := by unfold optsB; rw [← List.flatMap_append, List.take_append_drop]
  rw [this]; simp
theorem rng_sat {L M : List Asn} {h : Hp} {s0 : ByteArray} {n0 : Int} {F : Nat → Hp → Prop} (hs : Sat (L ++ M) h) (hF : ∀ b h', Sat (L ++ (M ++ [row b 56 [.string s0, .int .i64 n0]])) h' → F b h') :
    nw h (.cells ⟨[.string (⟨⟨[]⟩⟩ : ByteArray), .int .i64 0]⟩ 56) fun b0 h0 => st h0 (bk b0) (.string s0) fun h1 => st h1 ((bk b0).add 1) (.int .i64 n0) (F b0) := by
  intro b0 e0
  have hs : Sat (L ++ (M ++ [row b0 56 [.string (⟨⟨[]⟩⟩ : ByteArray), .int .i64 0]])) _ := hs.new e0 _
  have get : ∀ A : Asn, (M ++ [A])[M.length]? = some A := fun A => by simp
  have set : ∀ A B : Asn, (M ++ [A]).set M.length B = M ++ [B] := fun A B => by simp
  revert hs
  generalize upd h b0 _ = h1
  intro hs
  simp only [add_bk]
  refine hs.st M.length (get _) (by simp) rfl ?_
  intro h2 hs; rw [set] at hs
  refine hs.st M.length (get _) (by simp) rfl ?_
  intro h3 hs; rw [set] at hs
  exact hF b0 h3 hs
theorem opts_impl {L M : List Asn} {j : Nat} {x3 q : Sl} {os : List Opt} {l : List UInt8} {h : Hp} {F : Sl → Hp → Prop} (hjl : j < M.length) (hs : Sat (L ++ M.set j (Hw.own 5 1 q (bc l))) h)
    (hT : ∀ q l' h', Sat (L ++ M.set j (Hw.own 5 1 q (bc l'))) h' → Glob h' ∧ RdO h' x3 os) (hlen : l.length + (optsB os).length ≤ 1073741000) (hos : os.length ≤ 4611686018427387904) (hv : ∀ o ∈ os, 0 ≤ o.2 ∧ o.2 ≤ 2147483647)
    (hF : ∀ q' h', Sat (L ++ M.set j (Hw.own 5 1 q' (bc (l ++ optsB os)))) h' → F q' h') : N11_l1 x3 ((x3.n : Nat) : Int) q 0 h F := by
  unfold N11_l1
  have hn := (hT _ _ _ hs).2.n
  refine loopP_inv (fun (x : Sl × Int) hc => ∃ i : Nat, x.2 = i ∧ i ≤ os.length ∧ Sat (L ++ M.set j (Hw.own 5 1 x.1 (bc (l ++ optsB (os.take i))))) hc) (fun x _ => os.length - x.2.toNat) ?_ ⟨0, rfl, Nat.zero_le _, by simpa [optsB] using hs⟩
  rintro ⟨q, x⟩ hc ⟨i, hx, hi, hs⟩
  simp only at hx
  subst hx
  unfold N11_l1_B N11_l1_b
  dsimp only
  by_cases hlt : i < os.length
  · have : decide ((i : Int) < ((x3.n : Nat) : Int)) = true := decide_eq_true (by omega)
    rw [this, cond_true]
    obtain ⟨g, H⟩ := hT _ _ _ hs
    have hstep := optsB_step hlt
    have hle := optsB_le os (i + 1)
    rw [hstep, List.length_append] at hle
    have hob : (optB os[i]).length = (os[i]).1.data.toList.length + 1 + ((Lib.decDigits (os[i]).2.toNat).length + 1) := by simp [optB]; omega
    obtain ⟨v0, v1⟩ := hv _ (List.getElem_mem hlt)
    refine H.at rfl hlt ?_
    intro a _ hs0 hv0
    rw [hs0, xS_some, hv0, xI_some]
    refine rng_sat hs ?_
    intro b h2 hs2
    have hb := hs2.blk (M.set j (Hw.own 5 1 q (bc (l ++ optsB (os.take i))))).length (by simp; rfl)
    rw [show cell h2 (bk b) = some (.string (os[i]).1) from by rw [show (bk b) = (⟨b, 0, none⟩ : Addr) from rfl, hb.cell]; rfl, xS_some]
    rw [show cell h2 ((bk b).add 1) = some (.int .i64 (os[i]).2) from by rw [add_bk, hb.cell]; rfl, xI_some]
    have hsz : (os[i]).1.size = (os[i]).1.data.toList.length := by show (os[i]).1.data.size = _; simp
    refine c_text hs2 j (by rw [List.getElem?_append_left (by simpa using hjl), List.getElem?_set_self hjl]) (by rw [List.length_append]; omega) ?_
    intro q2 h3 hs3
    rw [set_snoc (by simpa using hjl), List.set_set] at hs3
    have hb3 := hs3.blk M.length (by rw [List.getElem?_append_right (by simp)]; simp; rfl)
    refine ⟨by rw [show cell h3 ((bk b).add 1) = some (.int .i64 (os[i]).2) from by rw [add_bk, hb3.cell]; rfl]; exact ⟨rfl, rfl⟩, ?_⟩
    obtain ⟨g3, _⟩ := hT _ _ _ (sat_letgo hs3)
    refine c_itoa g3 (by omega) (by omega) ?_
    intro h4 e4
    have hs4 := (sat_letgo hs3).ext e4
    have eit : Lib.itoa (os[i]).2 = Lib.decDigits (os[i]).2.toNat := by
      obtain ⟨n, hn⟩ := Int.eq_ofNat_of_zero_le v0
      rw [hn]; rfl
    rw [eit]
    refine c_text (t := ⟨⟨Lib.decDigits (os[i]).2.toNat⟩⟩) hs4 j (by rw [List.getElem?_set_self hjl]) (by show _ + (Lib.decDigits (os[i]).2.toNat).length ≤ _; simp only [List.length_append, List.length_cons, List.length_nil]; omega) ?_
    intro q3 h5 hs5
    rw [List.set_set] at hs5
    rw [nat_succ64 (by omega)]
    refine ⟨⟨i + 1, rfl, hlt, ?_⟩, by simp only [Int.toNat_natCast]; omega⟩
    rw [hstep]
    have e : (l ++ optsB (os.take i) ++ ((os[i]).1.data.toList ++ [0])) ++ (Lib.decDigits (os[i]).2.toNat ++ [0]) = l ++ (optsB (os.take i) ++ optB os[i]) := by simp [optB]
    rw [← e]; exact hs5
  · have : decide ((i : Int) < ((x3.n : Nat) : Int)) = false := decide_eq_false (by omega)
    rw [this, cond_false]
    rw [List.take_of_length_le (by omega)] at hs
    exact hF q hc hs
end Go.Proofs.YtedklcmdjoojfaaDoor

/-
  A packet as bytes, by both.
-/
set_option linter.unusedSimpArgs false
set_option linter.unusedVariables false
namespace Go.Proofs.YtedklcmdjoojfaaDoor
open Go Go.Hw
def encB (op : Int) (file mode : ByteArray) (os : List Opt) (block : Int) (data : List UInt8) (code : Int) (text : ByteArray) : List UInt8 :=
  if checkV op file mode os block data.length code text ≠ 0 then []
  else be op.toNat 2 ++ (if op = 3 then be block.toNat 2 ++ data else if op = 4 then be block.toNat 2 else if op = 5 then be code.toNat 2 ++ (text.data.toList ++ [0])
    else if op = 1 then (file.data.toList ++ [0]) ++ ((mode.data.toList ++ [0]) ++ optsB os) else optsB os)
theorem right_vals : ∀ (os pre : List Opt), rightL pre os = true → ∀ o ∈ os, 0 ≤ o.2 ∧ o.2 ≤ 2147483647
  | [], _, _, o, ho => by cases ho
  | x :: os, pre, h, o, ho => by
    simp only [rightL, right1, Bool.and_eq_true, decide_eq_true_eq] at h
    rcases List.mem_cons.1 ho with rfl | ho
    · exact ⟨h.1.2.2.1, h.1.2.2.2⟩
    · exact right_vals os _ h.2 o ho
theorem dec_lt : ∀ (k u : Nat), u < 10 ^ (k + 1) → (Lib.decDigits u).length ≤ k + 1
  | 0, u, h => by rw [dec_small (by simpa using h)]; simp
  | k + 1, u, h => by
    by_cases h1 : u < 10
    · rw [dec_small h1]; simp
    · rw [dec_big h1]
      have := dec_lt k (u / 10) (Nat.div_lt_of_lt_mul (by rw [Nat.mul_comm, ← Nat.pow_succ]; exact h))
      simp; omega
def freshB (os : List Opt) (l : List UInt8) : Nat := if (os.all fun o => !(o.1.data.toList == l)) then 1 else 0
def leftB (os : List Opt) : Nat := freshB os blkS + freshB os winS + freshB os tsiS
theorem freshB_more (os : List Opt) (o : Opt) (l : List UInt8) : freshB (os ++ [o]) l ≤ freshB os l := by
  unfold freshB
  simp only [List.all_append]
  cases (os.all fun o => !(o.1.data.toList == l)) <;> simp <;> split <;> omega
theorem freshB_gone {os : List Opt} {o : Opt} {l : List UInt8} (e : o.1.data.toList = l) (hf : freshO os o.1 = true) : freshB (os ++ [o]) l + 1 ≤ freshB os l := by
  unfold freshB
  unfold freshO at hf
  rw [e] at hf
  rw [hf]
  simp [List.all_append, e]
theorem right_len : ∀ (os pre : List Opt), rightL pre os = true → (optsB os).length ≤ 22 * leftB pre ∧ os.length ≤ leftB pre
  | [], _, _ => by simp [optsB]
  | o :: os, pre, h => by
    simp only [rightL, right1, Bool.and_eq_true, decide_eq_true_eq] at h
    obtain ⟨⟨hk, hf, h0, h1⟩, hr⟩ := h
    obtain ⟨i1, i2⟩ := right_len os _ hr
    have hd := dec_lt 9 o.2.toNat (by omega)
    have a1 := freshB_more pre o blkS
    have a2 := freshB_more pre o winS
    have a3 := freshB_more pre o tsiS
    have e : (optsB (o :: os)).length = o.1.data.toList.length + 1 + ((Lib.decDigits o.2.toNat).length + 1) + (optsB os).length := by simp [optsB, optB]; omega
    have hs : o.1.data.toList.length ≤ 10 ∧ leftB (pre ++ [o]) + 1 ≤ leftB pre := by
      unfold known at hk
      simp only [Bool.or_eq_true, beq_iff_eq] at hk
      unfold leftB
      rcases hk with hk | hk | hk
      · have := freshB_gone hk hf; rw [hk]; exact ⟨by decide, by omega⟩
      · have := freshB_gone hk hf; rw [hk]; exact ⟨by decide, by omega⟩
      · have := freshB_gone hk hf; rw [hk]; exact ⟨by decide, by omega⟩
    rw [e]
    simp only [List.length_cons]
    omega
theorem right_small {os : List Opt} (h : rightO os = true) : (optsB os).length ≤ 66 := by
  have := (right_len os [] h).1
  have e : leftB [] = 3 := rfl
  omega
theorem file_small {s : ByteArray} (h : ¬ fileOk s = false) : s.size ≤ 64 := by
  rw [Bool.not_eq_false] at h
  simp only [fileOk, Bool.and_eq_true, decide_eq_true_eq] at h
  exact h.2.1
theorem mode_small {s : ByteArray} (h : ¬ (s.data.toList == octS) = false) : s.size ≤ 5 := by
  rw [Bool.not_eq_false, beq_iff_eq] at h
  have : s.size = s.data.toList.length := by show s.data.size = _; simp
  rw [this, h]; decide
theorem check0 {op : Int} {file mode : ByteArray} {os : List Opt} {block : Int} {dl : Nat} {code : Int} {text : ByteArray} (h : checkV op file mode os block dl code text = 0) :
    (op = 1 ∧ rightO os = true ∧ file.size ≤ 64 ∧ mode.size ≤ 5) ∨ (op = 6 ∧ rightO os = true) ∨ (op = 3 ∧ 0 ≤ block ∧ block ≤ 65535 ∧ dl ≤ 65464) ∨ (op = 4 ∧ 0 ≤ block ∧ block ≤ 65535) ∨ (op = 5 ∧ 0 ≤ code ∧ code ≤ 65535 ∧ text.size ≤ 255) := by
  unfold checkV at h
  split at h
  · rename_i e
    split at h
    · omega
    rename_i hf
    split at h
    · omega
    rename_i hm
    split at h
    · omega
    · rename_i hr; left; exact ⟨e, by simpa using hr, file_small hf, mode_small hm⟩
  split at h
  · rename_i e
    split at h
    · omega
    · rename_i hr; right; left; exact ⟨e, by simpa using hr⟩
  split at h
  · rename_i e
    split at h
    · omega
    split at h
    · omega
    split at h
    · omega
    · right; right; left; exact ⟨e, by omega, by omega, by omega⟩
  split at h
  · rename_i e
    split at h
    · omega
    split at h
    · omega
    · right; right; right; left; exact ⟨e, by omega, by omega⟩
  split at h
  · rename_i e
    split at h
    · omega
    split at h
    · omega
    split at h
    · omega
    split at h
    · omega
    · right; right; right; right; exact ⟨e, by omega, by omega, by omega⟩
  · omega
theorem encB_len (op : Int) (file mode : ByteArray) (os : List Opt) (block : Int) (data : List UInt8) (code : Int) (text : ByteArray) : (encB op file mode os block data code text).length ≤ 70000 := by
  have hf : file.size = file.data.toList.length := by show file.data.size = _; simp
  have hm : mode.size = mode.data.toList.length := by show mode.data.size = _; simp
  have ht : text.size = text.data.toList.length := by show text.data.size = _; simp
  unfold encB
  by_cases hv : checkV op file mode os block data.length code text = 0
  · rw [if_neg (by rw [hv]; simp)]
    rcases check0 hv with ⟨rfl, hr, k1, k2⟩ | ⟨rfl, hr⟩ | ⟨rfl, k0, k1, k2⟩ | ⟨rfl, k0, k1⟩ | ⟨rfl, k0, k1, k2⟩
    · have := right_small hr
      simp only [List.length_append, be_len, show ¬ ((1 : Int) = 3) from by omega, show ¬ ((1 : Int) = 4) from by omega, show ¬ ((1 : Int) = 5) from by omega, if_false, if_true, List.length_cons, List.length_nil]
      omega
    · have := right_small hr
      simp only [List.length_append, be_len, show ¬ ((6 : Int) = 3) from by omega, show ¬ ((6 : Int) = 4) from by omega, show ¬ ((6 : Int) = 5) from by omega, show ¬ ((6 : Int) = 1) from by omega, if_false]
      omega
    · simp only [List.length_append, be_len, if_true]
      omega
    · simp only [List.length_append, be_len, show ¬ ((4 : Int) = 3) from by omega, if_true, if_false]
      omega
    · simp only [List.length_append, be_len, show ¬ ((5 : Int) = 3) from by omega, show ¬ ((5 : Int) = 4) from by omega, if_true, if_false, List.length_cons, List.length_nil]
      omega
  · rw [if_pos hv]; simp
theorem c_encode {op : Int} {file mode : ByteArray} {x3 : Sl} {block : Int} {x5 : Sl} {code : Int} {text : ByteArray} {os : List Opt} {data : List UInt8} {h : Hp} {K : Sl → Int → Hp → Prop} (G : Glob h) (H : RdO h x3 os) (D : RdB h x5 data)
    (hl : os.length ≤ 4611686018427387904) (hfs : file.size ≤ 9223372036854775806) (hts : text.size ≤ 9223372036854775806)
    (hK : ∀ h' s, NewO h h' 5 1 s (bc (encB op file mode os block data code text)) → K s (checkV op file mode os block data.length code text) h') : C11 op file mode x3 block x5 code text h K := by
  apply S11; unfold N11
  have dn := D.n
  intro b0 e0
  have hs : Sat ([] ++ [Hw.was h, row b0 26 (pkL op file mode x3 block x5 code text)]) (upd h b0 (.cells ⟨pkL op file mode x3 block x5 code text⟩ 26 (0, 0))) := Sat.start.new e0 _
  have es : (upd h b0 (.cells ⟨[.int .i64 op, .string file, .string mode, .slice x3.p x3.n x3.c, .int .i64 block, .slice x5.p x5.n x5.c, .int .i64 code, .string text]⟩ 26)) = upd h b0 (.cells ⟨pkL op file mode x3 block x5 code text⟩ 26 (0, 0)) := rfl
  rw [es]
  revert hs
  generalize upd h b0 _ = h0
  intro hs
  obtain ⟨c0, c1, c2, c3, c4, c5, c6, c7⟩ := pkC_of (hs.blk 1 rfl)
  simp only [c0, c1, c2, c3, c4, c5, c6, c7, xI_some, xS_some, xL_v]
  refine c_check (H.ext (hs.was 0 rfl)) (by omega) ?_
  intro h1 e1
  have hs := hs.ext e1
  rw [dn]
  by_cases hv : checkV op file mode os block data.length code text = 0
  · have e0 : (checkV op file mode os block data.length code text != 0) = false := by rw [hv]; rfl
    rw [e0, cond_false]
    have hop := check0 hv
    have hB : encB op file mode os block data code text = be op.toNat 2 ++ (if op = 3 then be block.toNat 2 ++ data else if op = 4 then be block.toNat 2 else if op = 5 then be code.toNat 2 ++ (text.data.toList ++ [0])
        else if op = 1 then (file.data.toList ++ [0]) ++ ((mode.data.toList ++ [0]) ++ optsB os) else optsB os) := by unfold encB; rw [if_neg (by rw [hv]; simp)]
    rw [hB, hv] at hK
    obtain ⟨c0, c1, c2, c3, c4, c5, c6, c7⟩ := pkC_of (hs.blk 1 rfl)
    rw [c0, xI_some]
    have hs : Sat ([] ++ [Hw.was h, row b0 26 (pkL op file mode x3 block x5 code text), Hw.own 5 1 ⟨none, 0, 0⟩ (bc [])]) h1 := hs.addNil 5 1
    refine c_number hs 2 rfl (by simp) (by omega) (by omega) ?_
    intro s5 h2 hs
    have hs : Sat ([] ++ [Hw.was h, row b0 26 (pkL op file mode x3 block x5 code text), Hw.own 5 1 s5 (bc (be op.toNat 2))]) h2 := hs
    obtain ⟨c0, c1, c2, c3, c4, c5, c6, c7⟩ := pkC_of (hs.blk 1 rfl)
    have opts : ∀ (q : Sl) (l : List UInt8) (h3 : Hp), l.length ≤ 1073740000 → rightO os = true → Sat ([] ++ [Hw.was h, row b0 26 (pkL op file mode x3 block x5 code text), Hw.own 5 1 q (bc l)]) h3 →
        (∀ q' h', Sat ([] ++ [Hw.was h, row b0 26 (pkL op file mode x3 block x5 code text), Hw.own 5 1 q' (bc (l ++ optsB os))]) h' → K q' 0 h') → N11_j0 (some (bk b0)) q h3 K := by
      intro q l h3 hlen hr hs hF
      have hlen : l.length + (optsB os).length ≤ 1073741000 := by have := right_small hr; omega
      unfold N11_j0
      simp only [nn_some', (pkC_of (hs.blk 1 rfl)).c3, xL_v]
      refine opts_impl (M := [Hw.was h, row b0 26 (pkL op file mode x3 block x5 code text), Hw.own 5 1 q (bc l)]) (j := 2) (x3 := x3) (os := os) (l := l) (by simp) hs ?_ hlen hl (right_vals os [] hr) (fun q' h' hs' => hF q' h' hs')
      intro q' l' h' hs'
      have hs' : Sat ([] ++ [Hw.was h, row b0 26 (pkL op file mode x3 block x5 code text), Hw.own 5 1 q' (bc l')]) h' := hs'
      exact ⟨G.ext (hs'.was 0 rfl), H.ext (hs'.was 0 rfl)⟩
    rw [c0, xI_some]
    rcases hop with ⟨rfl, hr, hfs1, hms1⟩ | ⟨rfl, hr⟩ | ⟨rfl, g0, g1, hds1⟩ | ⟨rfl, g0, g1⟩ | ⟨rfl, g0, g1, hts1⟩
    · simp only [show ((1 : Int) == 3) = false from rfl, show ((1 : Int) == 4) = false from rfl, show ((1 : Int) == 5) = false from rfl, cond_false, beq_self_eq_true, cond_true, c1, c2, xS_some]
      refine c_text hs 2 rfl (by rw [be_len]; omega) ?_
      intro s6 h3 hs
      have hs : Sat ([] ++ [Hw.was h, row b0 26 (pkL 1 file mode x3 block x5 code text), Hw.own 5 1 s6 (bc (be (1 : Int).toNat 2 ++ (file.data.toList ++ [0])))]) h3 := hs
      obtain ⟨c0, c1, c2, c3, c4, c5, c6, c7⟩ := pkC_of (hs.blk 1 rfl)
      refine ⟨by rw [c2]; exact ⟨rfl, rfl⟩, ?_⟩
      have hf : file.size = file.data.toList.length := by show file.data.size = _; simp
      have hm : mode.size = mode.data.toList.length := by show mode.data.size = _; simp
      refine c_text hs 2 rfl (by simp only [List.length_append, be_len, List.length_cons, List.length_nil]; omega) ?_
      intro s7 h4 hs
      refine opts s7 ((be (1 : Int).toNat 2 ++ (file.data.toList ++ [0])) ++ (mode.data.toList ++ [0])) h4 (by simp only [List.length_append, be_len, List.length_cons, List.length_nil]; omega) hr hs ?_
      intro q' h' hs'
      refine hK h' q' ?_
      have := hs'.newO 0 2 rfl rfl (by omega)
      simpa [List.append_assoc] using this
    · simp only [show ((6 : Int) == 1) = false from rfl, show ((6 : Int) == 3) = false from rfl, show ((6 : Int) == 4) = false from rfl, show ((6 : Int) == 5) = false from rfl, cond_false]
      refine opts s5 _ h2 (by rw [be_len]; omega) hr hs ?_
      intro q' h' hs'
      refine hK h' q' ?_
      have := hs'.newO 0 2 rfl rfl (by omega)
      simpa [List.append_assoc] using this
    · simp only [beq_self_eq_true, cond_true, cond_false, c4, c5, xI_some, xL_v]
      refine c_number hs 2 rfl (by rw [be_len]; omega) g0 g1 ?_
      intro s6 h3 hs
      have hs : Sat ([] ++ [Hw.was h, row b0 26 (pkL 3 file mode x3 block x5 code text), Hw.own 5 1 s6 (bc (be (3 : Int).toNat 2 ++ be block.toNat 2))]) h3 := hs
      obtain ⟨c0, c1, c2, c3, c4, c5, c6, c7⟩ := pkC_of (hs.blk 1 rfl)
      refine ⟨by rw [c5]; exact ⟨rfl, rfl⟩, ?_⟩
      refine grow_sl hs 2 rfl (D.ext (hs.was 0 rfl)) (by simp only [List.length_append, be_len]; omega) ?_
      · intro q' h' hs'
        refine hK h' q' ?_
        have := hs'.newO 0 2 rfl rfl (by omega)
        simpa [List.append_assoc] using this
    · simp only [show ((4 : Int) == 3) = false from rfl, beq_self_eq_true, cond_true, cond_false, c4, xI_some]
      refine c_number hs 2 rfl (by rw [be_len]; omega) g0 g1 ?_
      intro q' h' hs'
      refine hK h' q' ?_
      have := hs'.newO 0 2 rfl rfl (by omega)
      simpa [List.append_assoc] using this
    · simp only [show ((5 : Int) == 3) = false from rfl, show ((5 : Int) == 4) = false from rfl, beq_self_eq_true, cond_true, cond_false, c6, c7, xI_some, xS_some]
      refine c_number hs 2 rfl (by rw [be_len]; omega) g0 g1 ?_
      intro s6 h3 hs
      have hs : Sat ([] ++ [Hw.was h, row b0 26 (pkL 5 file mode x3 block x5 code text), Hw.own 5 1 s6 (bc (be (5 : Int).toNat 2 ++ be code.toNat 2))]) h3 := hs
      obtain ⟨c0, c1, c2, c3, c4, c5, c6, c7⟩ := pkC_of (hs.blk 1 rfl)
      refine ⟨by rw [c7]; exact ⟨rfl, rfl⟩, ?_⟩
      refine c_text hs 2 rfl (by simp only [List.length_append, be_len]; omega) ?_
      intro q' h' hs'
      refine hK h' q' ?_
      have := hs'.newO 0 2 rfl rfl (by omega)
      simpa [List.append_assoc] using this
  · have e0 : (checkV op file mode os block data.length code text != 0) = true := by rw [bne_iff_ne]; exact hv
    rw [e0, cond_true]
    refine hK h1 _ ⟨hs.was 0 rfl, ?_, by intro b hb; cases hb⟩
    unfold encB
    rw [if_pos hv]
    exact Own.nil
end Go.Proofs.YtedklcmdjoojfaaDoor

set_option linter.unusedVariables false
set_option maxRecDepth 100000
namespace Go.Proofs.YtedklcmdjoojfaaDoor
open Go Go.Hw
noncomputable def B58 : Code := match Tryd.f58.body with | some c => c | none => .skip
def N58_l0_b (x0_r : Option Addr) (Φ : Sl → Int → Hp → Prop) (x4_out : Sl) (x5_bad : Int) (h : Hp) (K_e0 : Sl → Int → Hp → Prop) : Prop :=
  nn x0_r fun a0 =>
  xL (cell h a0) fun s0 =>
  bif (decide (((s0.n : Nat) : Int) > 0)) then
    C60 x0_r h fun s1 n0 h0 =>
    bif (n0 != 0) then
      K_e0 x4_out n0 h0
    else
      C60 x0_r h0 fun s2 n1 h1 =>
      bif (n1 != 0) then
        K_e0 x4_out n1 h1
      else
        C65 s1 h1 fun s3 h2 =>
        C44 s3 h2 fun b0 h3 =>
        bif (!b0) then
          Φ x4_out x5_bad h3
        else
          C66 s2 h3 fun n2 b1 h4 =>
          nw h4 (.cells ⟨[.string s3, .int .i64 n2]⟩ 56) fun b2 h5 =>
          apK Tryd.prog 56 x4_out (.slice (some (bk b2)) 1 1) h5 fun s4 h6 =>
          bif (!b1) then
            K_e0 s4 172 h6
          else
            C43 s4 (IntKind.wrap .i64 (((s4.n : Nat) : Int) - 1)) h6 fun b3 h7 =>
            bif (!b3) then
              K_e0 s4 172 h7
            else
              Φ s4 x5_bad h7
  else
    K_e0 x4_out x5_bad h
def N58_l0_B (x0_r : Option Addr) (K_e0 : Sl → Int → Hp → Prop) (s : Sg.T [(4, .c (.slice)), (5, .c (.int .i64))]) (h : Hp) (Φ : Sg.T [(4, .c (.slice)), (5, .c (.int .i64))] → Hp → Prop) : Prop :=
  N58_l0_b x0_r (fun x4_out x5_bad h => Φ (x4_out, x5_bad) h) s.1 s.2 h K_e0
def N58_l0 (x0_r : Option Addr) (x4_out : Sl) (x5_bad : Int) (h : Hp) (K_e0 : Sl → Int → Hp → Prop) : Prop :=
  loopP (N58_l0_B x0_r K_e0) (x4_out, x5_bad) h
noncomputable def N58_l0_t : Xf := loopT [(0, .c (.ptr))] [(4, .c (.slice)), (5, .c (.int .i64))] (codeAt B58 [1, 0, 1, 1, 1, 0, 0, 0]) fun F Q => N58_l0_B F (fun o0 o1 h' => Q (.exit 0) (Sg.env [(4, .c (.slice)), (5, .c (.int .i64))] (o0, o1)) h')
theorem N58_l0_ok : Sound Tryd.prog Tryd.f58.ntmps N58_l0_t (codeAt B58 [1, 0, 1, 1, 1, 0, 0]) := by
  refine loop_sound (fun e => match e with | .exit 0 => [4, 5] | _ => []) (by kernel_rfl) ?_
  intro F Q s h Φ hb
  refine den_sound hE hm _ .leaf _ _ _ (annOk_leaf) ?_
  refine cast ?_ hb
  kernel_rfl
def N58 (x0 : Option Addr) (h : Hp) (K : Sl → Int → Hp → Prop) : Prop :=
  N58_l0 x0 ⟨none, 0, 0⟩ 0 h
    (fun s0 n0 h0 =>
      bif (n0 != 0) then
        K ⟨none, 0, 0⟩ n0 h0
      else
        K s0 0 h0)
theorem S58 {x0 : Option Addr} {h : Hp} {K : Sl → Int → Hp → Prop} (hn : N58 x0 h K) : C58 x0 h K := by
  refine calls_of_D Tryd.func58 (c := B58) rfl (by kernel_rfl) ?_
  refine den_sound hE hm _ (.two .leaf (.one (.two .leaf (.two .leaf (.two .leaf (.two (.one (.xf N58_l0_t)) .leaf)))))) _ _ _ (⟨annOk_leaf, ⟨annOk_leaf, ⟨annOk_leaf, ⟨annOk_leaf, ⟨N58_l0_ok, annOk_leaf⟩⟩⟩⟩⟩) ?_
  refine cast ?_ hn
  kernel_rfl
end Go.Proofs.YtedklcmdjoojfaaDoor

set_option linter.unusedVariables false
set_option maxRecDepth 100000
namespace Go.Proofs.YtedklcmdjoojfaaDoor
open Go Go.Hw
end Go.Proofs.YtedklcmdjoojfaaDoor

/-
  Choices that are read: what bytes say (readL), and that both read it so.
-/
set_option linter.unusedSimpArgs false
set_option linter.unusedVariables false
namespace Go.Proofs.YtedklcmdjoojfaaDoor
open Go Go.Hw
def smallS (l : List UInt8) : ByteArray := ⟨⟨l.map smallB⟩⟩
def readL (acc : List Opt) (l : List UInt8) : Int × List Opt :=
  if l = [] then (0, acc) else
  match h1 : cutL l with
  | none => (5, [])
  | some p => match h2 : cutL p.2 with
    | none => (5, [])
    | some q => if known (smallS p.1) = true then (match valL q.1 with
        | none => (172, [])
        | some n => if freshO acc (smallS p.1) = true then readL (acc ++ [(smallS p.1, (n : Int))]) q.2 else (172, []))
      else readL acc q.2
termination_by l.length
decreasing_by
  all_goals
    have a1 := cutL_len h1
    have a2 := cutL_len h2
    omega
theorem readL_nil (acc : List Opt) : readL acc [] = (0, acc) := by rw [readL, if_pos rfl]
theorem readL_cut1 {acc : List Opt} {l : List UInt8} (hl : l ≠ []) (h1 : cutL l = none) : readL acc l = (5, []) := by
  rw [readL, if_neg hl]
  split
  · rfl
  · rename_i p h; rw [h1] at h; cases h
theorem readL_cut2 {acc : List Opt} {l x y : List UInt8} (hl : l ≠ []) (h1 : cutL l = some (x, y)) (h2 : cutL y = none) : readL acc l = (5, []) := by
  rw [readL, if_neg hl]
  split
  · rfl
  · rename_i p h
    rw [h1] at h; cases h
    split
    · rfl
    · rename_i q h; rw [h2] at h; cases h
theorem readL_cut {acc : List Opt} {l x y u v : List UInt8} (hl : l ≠ []) (h1 : cutL l = some (x, y)) (h2 : cutL y = some (u, v)) :
    readL acc l = if known (smallS x) = true then (match valL u with
        | none => (172, [])
        | some n => if freshO acc (smallS x) = true then readL (acc ++ [(smallS x, (n : Int))]) v else (172, []))
      else readL acc v := by
  rw [readL, if_neg hl]
  split
  · rename_i h; rw [h1] at h; cases h
  · rename_i p h
    rw [h1] at h; cases h
    split
    · rename_i h; rw [h2] at h; cases h
    · rename_i q h
      rw [h2] at h; cases h
      rfl
theorem rdo_own {h : Hp} {T : TypeId} {s : Sl} {os : List Opt} (H : Own h T 2 s (os.flatMap oc)) : RdO h s os := by
  have hl : (os.flatMap oc).length = os.length * 2 := by
    induction os with
    | nil => rfl
    | cons o os ih => rw [List.flatMap_cons, List.length_append]; have e : (oc o).length = 2 := rfl; rw [e, List.length_cons]; have : (os.flatMap oc).length = os.length * 2 := by clear ih H; induction os with
        | nil => rfl
        | cons o os ih => rw [List.flatMap_cons, List.length_append]; have e : (oc o).length = 2 := rfl; rw [e, List.length_cons]; omega
                      omega
  refine ⟨?_, H.2.1, H.rdc⟩
  have := H.1
  omega
theorem oc_snoc (os : List Opt) (o : Opt) : os.flatMap oc ++ [.string o.1, .int .i64 o.2] = (os ++ [o]).flatMap oc := by rw [List.flatMap_append]; simp [oc]
theorem left_step {acc : List Opt} {x : ByteArray} {n : Int} (hk : known x = true) (hf : freshO acc x = true) : leftB (acc ++ [(x, n)]) + 1 ≤ leftB acc := by
  have a1 := freshB_more acc (x, n) blkS
  have a2 := freshB_more acc (x, n) winS
  have a3 := freshB_more acc (x, n) tsiS
  unfold known at hk
  simp only [Bool.or_eq_true, beq_iff_eq] at hk
  unfold leftB
  rcases hk with hk | hk
  · have := freshB_gone (os := acc) (o := (x, n)) hk hf; omega
  · rcases hk with hk | hk
    · have := freshB_gone (os := acc) (o := (x, n)) hk hf; omega
    · have := freshB_gone (os := acc) (o := (x, n)) hk hf; omega
theorem left_nil : leftB [] = 3 := by rfl
def rdLeft (br : Nat) (h : Hp) : Nat := match cell h ⟨br, 0, none⟩ with
  | some (.slice _ n _) => n
  | _ => 0
theorem c_choices {L : List Asn} {br : Nat} {s : Sl} {l : List UInt8} {h : Hp} {K : Sl → Int → Hp → Prop} (hs : Sat (L ++ [row br 65 [s.v]]) h) (H : ∀ h', Sat L h' → RdS h' s l) (G : ∀ h', Sat L h' → Glob h') (hl : l.length ≤ 140737488355000)
    (hK : ∀ so sv h', Sat (L ++ [row br 65 [sv], Hw.own 56 2 so ((readL [] l).2.flatMap oc)]) h' → K so (readL [] l).1 h') : C58 (some (bk br)) h K := by
  apply S58; unfold N58 N58_l0
  have hs0 : Sat (L ++ [row br 65 [s.v], Hw.own 56 2 ⟨none, 0, 0⟩ (([] : List Opt).flatMap oc)]) h := hs.addNil 56 2
  refine loopP_inv (fun (x : Sl × Int) hc => x.2 = 0 ∧ ∃ (s' : Sl) (l' : List UInt8) (acc : List Opt), Sat (L ++ [row br 65 [s'.v], Hw.own 56 2 x.1 (acc.flatMap oc)]) hc ∧ (∀ h', Sat L h' → RdS h' s' l') ∧ readL acc l' = readL [] l ∧ acc.length + leftB acc ≤ 3 ∧ l'.length ≤ l.length) (fun _ hc => rdLeft br hc) ?_
    ⟨rfl, s, l, [], hs0, H, rfl, by rw [left_nil]; exact Nat.le_refl _, Nat.le_refl _⟩
  clear hs0
  rintro ⟨out, bad⟩ hc ⟨hb, s', l', acc, hs, H', hr, hlen, hlen2⟩
  have hb : bad = 0 := hb
  subst hb
  have hs : Sat (L ++ [row br 65 [s'.v], Hw.own 56 2 out (acc.flatMap oc)]) hc := hs
  have hleft : ∀ {h' : Hp} {t : Sl} {A : Asn}, Sat (L ++ [row br 65 [t.v], A]) h' → rdLeft br h' = t.n := by
    intro h' t A hs'
    unfold rdLeft
    rw [(hs'.blk 0 rfl).cell]; rfl
  have hm := hleft hs
  have sn : s'.n = l'.length := (H' hc hs.left).r.n
  have bad : ∀ (e : Int) (sv : Value) (A : Asn) (h' : Hp), e ≠ 0 → readL acc l' = (e, []) → Sat (L ++ [row br 65 [sv], A]) h' → ∀ o : Sl, bif (e != 0) then K ⟨none, 0, 0⟩ e h' else K o 0 h' := by
    intro e sv A h' he hrd hs' o
    rw [show (e != 0) = true by simpa using he, cond_true]
    have h1 : readL [] l = (e, []) := by rw [← hr]; exact hrd
    rw [h1] at hK
    have hs2 : Sat (L ++ [row br 65 [sv]]) h' := hs'.sel [0] (by decide) rfl
    exact hK ⟨none, 0, 0⟩ sv h' (hs2.addNil 56 2)
  unfold N58_l0_B N58_l0_b
  simp only [nn_some']
  refine hs.lL 0 rfl rfl ?_
  by_cases hl0 : l' = []
  · have : s'.n = 0 := by rw [sn, hl0]; rfl
    simp only [this]
    rw [show decide (((0 : Nat) : Int) > 0) = false from rfl, cond_false]
    rw [show ((0 : Int) != 0) = false from rfl, cond_false]
    rw [hl0, readL_nil] at hr
    rw [← hr] at hK
    exact hK out _ hc hs
  · have hpos : 0 < l'.length := by cases l' with
      | nil => exact absurd rfl hl0
      | cons => simp
    rw [show decide (((s'.n : Nat) : Int) > 0) = true from decide_eq_true (by omega), cond_true]
    have hs1 : Sat ((L ++ [Hw.own 56 2 out (acc.flatMap oc)]) ++ [row br 65 [s'.v]]) hc := Sat.csa (hs.sel [1, 0] (by decide) rfl)
    refine c_rtext (Q := Sat L) hs1 (fun h' g => g.left) H' (by omega) ?_ ?_
    · intro hcut h1 g1
      rw [show ((5 : Int) != 0) = true from rfl, cond_true]
      exact bad 5 _ _ h1 (by decide) (readL_cut1 hl0 hcut) ((Sat.asc g1).sel [1, 0] (by decide) rfl) out
    · intro x y s1 hcut H1 h1 g1
      rw [show ((0 : Int) != 0) = false from rfl, cond_false]
      have l1 := cutL_len hcut
      refine c_rtext (Q := Sat L) g1 (fun h' g => g.left) H1 (by omega) ?_ ?_
      · intro hcut2 h2 g2
        rw [show ((5 : Int) != 0) = true from rfl, cond_true]
        exact bad 5 _ _ h2 (by decide) (readL_cut2 hl0 hcut hcut2) ((Sat.asc g2).sel [1, 0] (by decide) rfl) out
      · intro u v s2 hcut2 H2 h2 g2
        rw [show ((0 : Int) != 0) = false from rfl, cond_false]
        have l2 := cutL_len hcut2
        have e0 := readL_cut (acc := acc) hl0 hcut hcut2
        have H2' : ∀ h', Sat L h' → RdS h' s2 v := H2
        have g2 : Sat (L ++ [row br 65 [s2.v], Hw.own 56 2 out (acc.flatMap oc)]) h2 := (Sat.asc g2).sel [1, 0] (by decide) rfl
        refine c_lower ?_
        intro h3 he3
        have g3 := g2.ext he3
        refine c_known ?_
        show bif (!known (smallS x)) then _ else _
        cases hk : known (smallS x) with
        | false =>
          rw [hk] at e0
          simp only [Bool.false_eq_true, if_false] at e0
          simp only [Bool.not_false, cond_true]
          exact ⟨⟨trivial, s2, v, acc, g3, H2', by rw [← e0]; exact hr, hlen, by omega⟩, by rw [hleft g3, hm]; have := (H2' h3 g3.left).r.n; omega⟩
        | true =>
          rw [hk] at e0
          simp only [if_true] at e0
          simp only [Bool.not_true, cond_false]
          have on : out.n = acc.length := (rdo_own (g3.own 1 rfl)).n
          refine c_value (G h3 g3.left) ?_ ?_
          · intro hv n h4 he4
            have g4 := g3.ext he4
            rw [hv] at e0
            refine g4.push (k := 1) (sz := 2) 1 rfl (by kernel_rfl) (by kernel_rfl) rfl (by simp [plain]) (by rw [show Tryd.prog.bytesOf 56 = 24 by kernel_rfl]; omega) ?_
            intro s4 h5 g5 _
            simp only [Bool.not_false, cond_true]
            exact bad 172 _ _ h5 (by decide) e0 g5 s4
          · intro n hv h4 he4
            have g4 := g3.ext he4
            rw [hv] at e0
            refine g4.push (k := 1) (sz := 2) 1 rfl (by kernel_rfl) (by kernel_rfl) rfl (by simp [plain]) (by rw [show Tryd.prog.bytesOf 56 = 24 by kernel_rfl]; omega) ?_
            intro s4 h5 g5 hn4
            simp only [Bool.not_true, cond_false]
            have g5 : Sat (L ++ [row br 65 [s2.v], Hw.own 56 2 s4 (acc.flatMap oc ++ [.string (smallS x), .int .i64 (n : Int)])]) h5 := g5
            rw [oc_snoc acc (smallS x, (n : Int))] at g5
            have ho := rdo_own (g5.own 1 rfl)
            have hn5 : s4.n = acc.length + 1 := by rw [ho.n]; simp
            rw [show IntKind.wrap .i64 (((s4.n : Nat) : Int) - 1) = (acc.length : Int) by rw [wrap64 (by omega) (by omega)]; omega]
            refine c_first ho (by simp; omega) rfl (by simp) ?_
            intro h6 he6
            have g6 := g5.ext he6
            have ef : freshO ((acc ++ [(smallS x, (n : Int))]).take acc.length) ((acc ++ [(smallS x, (n : Int))])[acc.length]'(by simp)).1 = freshO acc (smallS x) := by simp
            rw [ef]
            cases hf : freshO acc (smallS x) with
            | true =>
              rw [hf] at e0
              simp only [if_true] at e0
              simp only [Bool.not_true, cond_false]
              exact ⟨⟨trivial, s2, v, acc ++ [(smallS x, (n : Int))], g6, H2', by rw [← e0]; exact hr, by have := left_step (n := (n : Int)) hk hf; simp only [List.length_append, List.length_singleton]; omega, by omega⟩, by rw [hleft g6, hm]; have := (H2' h6 g6.left).r.n; omega⟩
            | false =>
              rw [hf] at e0
              simp only [Bool.false_eq_true, if_false] at e0
              simp only [Bool.not_false, cond_true]
              exact bad 172 _ _ h6 (by decide) e0 g6 s4
end Go.Proofs.YtedklcmdjoojfaaDoor

set_option linter.unusedVariables false
set_option maxRecDepth 100000
namespace Go.Proofs.YtedklcmdjoojfaaDoor
open Go Go.Hw
noncomputable def B27 : Code := match Tryd.f27.body with | some c => c | none => .skip
def N27_l0_b (x0_a : Sl) (x1_b : Sl) (Φ : Int → Hp → Prop) (x5_i : Int) (h : Hp) (K_e0 : Hp → Prop) (K_ret : Bool → Hp → Prop) : Prop :=
  bif (decide (x5_i < ((x0_a.n : Nat) : Int))) then
    idx x5_i x0_a.n <|
    nn x0_a.p fun a0 =>
    xS (cell h (a0.add (x5_i.toNat * 2))) fun s0 =>
    xI .i64 (cell h ((a0.add (x5_i.toNat * 2)).add 1)) fun n0 =>
    idx x5_i x1_b.n <|
    nn x1_b.p fun a1 =>
    xS (cell h (a1.add (x5_i.toNat * 2))) fun s1 =>
    xI .i64 (cell h ((a1.add (x5_i.toNat * 2)).add 1)) fun n1 =>
    bif (!((s0 == s1) && ((n0 == n1) && true))) then
      K_ret false h
    else
      Φ (IntKind.wrap .i64 (x5_i + 1)) h
  else
    K_e0 h
def N27_l0_B (x0_a : Sl) (x1_b : Sl) (K_e0 : Hp → Prop) (K_ret : Bool → Hp → Prop) (s : Sg.T [(5, .c (.int .i64))]) (h : Hp) (Φ : Sg.T [(5, .c (.int .i64))] → Hp → Prop) : Prop :=
  N27_l0_b x0_a x1_b (fun x5_i h => Φ x5_i h) s h K_e0 K_ret
def N27_l0 (x0_a : Sl) (x1_b : Sl) (x5_i : Int) (h : Hp) (K_e0 : Hp → Prop) (K_ret : Bool → Hp → Prop) : Prop :=
  loopP (N27_l0_B x0_a x1_b K_e0 K_ret) x5_i h
noncomputable def N27_l0_t : Xf := loopT [(0, .c (.slice)), (1, .c (.slice))] [(5, .c (.int .i64))] (codeAt B27 [1, 1, 0, 1, 0, 0]) fun F Q => N27_l0_B F.1 F.2 (fun h' => Q (.exit 0) (Sg.env [] ()) h') (fun o0 h' => Q .ret (Sg.env [(4, .c (.bool))] o0) h')
theorem N27_l0_ok : Sound Tryd.prog Tryd.f27.ntmps N27_l0_t (codeAt B27 [1, 1, 0, 1, 0]) := by
  refine loop_sound (fun e => match e with | .exit 0 => [] | .ret => [4] | _ => []) (by kernel_rfl) ?_
  intro F Q s h Φ hb
  refine den_sound hE hm _ (.two .leaf (.two (.one (.two (.ord [0, 1, 2, 3, 4, 5, 6, 7, 8]) .leaf)) .leaf)) _ _ _ (⟨annOk_leaf, ⟨⟨trivial, annOk_leaf⟩, annOk_leaf⟩⟩) ?_
  refine cast ?_ hb
  kernel_rfl
def N27 (x0 : Sl) (x1 : Sl) (h : Hp) (K : Bool → Hp → Prop) : Prop :=
  bif (((x0.n : Nat) : Int) != ((x1.n : Nat) : Int)) then
    K false h
  else
    N27_l0 x0 x1 0 h
      (fun h0 =>
        K true h0)
      (fun b0 h1 =>
        K b0 h1)
theorem S27 {x0 : Sl} {x1 : Sl} {h : Hp} {K : Bool → Hp → Prop} (hn : N27 x0 x1 h K) : C27 x0 x1 h K := by
  refine calls_of_D Tryd.func27 (c := B27) rfl (by kernel_rfl) ?_
  refine den_sound hE hm _ (.two .leaf (.two .leaf (.two (.two .leaf (.one (.xf N27_l0_t))) .leaf))) _ _ _ (⟨annOk_leaf, ⟨annOk_leaf, ⟨⟨annOk_leaf, N27_l0_ok⟩, annOk_leaf⟩⟩⟩) ?_
  refine cast ?_ hn
  kernel_rfl
end Go.Proofs.YtedklcmdjoojfaaDoor

set_option linter.unusedVariables false
set_option maxRecDepth 100000
namespace Go.Proofs.YtedklcmdjoojfaaDoor
open Go Go.Hw
end Go.Proofs.YtedklcmdjoojfaaDoor

set_option linter.unusedVariables false
set_option maxRecDepth 100000
namespace Go.Proofs.YtedklcmdjoojfaaDoor
open Go Go.Hw
end Go.Proofs.YtedklcmdjoojfaaDoor

/-
  Choices compared; choices lent.
-/
set_option linter.unusedSimpArgs false
set_option linter.unusedVariables false
namespace Go.Proofs.YtedklcmdjoojfaaDoor
open Go Go.Hw
theorem ba_self (b : ByteArray) : (b == b) = true := by
  cases b with | mk d => exact beq_self_eq_true (α := Array UInt8) d
theorem c_SameC {a b : Sl} {os : List Opt} {h : Hp} {K : Bool → Hp → Prop} (A : RdO h a os) (B : RdO h b os) (hl : os.length ≤ 6000000000000) (hK : K true h) : C27 a b h K := by
  apply S27; unfold N27 N27_l0
  have an := A.n
  have bn := B.n
  have e : (((a.n : Nat) : Int) != ((b.n : Nat) : Int)) = false := by rw [an, bn]; simp
  rw [e, cond_false]
  refine loopP_inv (fun (x : Int) hc => hc = h ∧ ∃ i : Nat, x = i ∧ i ≤ os.length) (fun x _ => os.length - x.toNat) ?_ ⟨rfl, 0, rfl, Nat.zero_le _⟩
  rintro x hc ⟨rfl, i, rfl, hi⟩
  unfold N27_l0_B N27_l0_b
  dsimp only
  by_cases hlt : i < os.length
  · have : decide ((i : Int) < ((a.n : Nat) : Int)) = true := decide_eq_true (by omega)
    rw [this, cond_true]
    refine A.at rfl hlt ?_
    intro a0 _ hs hv
    rw [hs, xS_some, hv, xI_some]
    refine B.at rfl hlt ?_
    intro a1 _ hs1 hv1
    rw [hs1, xS_some, hv1, xI_some]
    simp only [ba_self, beq_self_eq_true, Bool.and_self, Bool.not_true, cond_false]
    rw [nat_succ64 (by omega)]
    exact ⟨⟨trivial, i + 1, rfl, hlt⟩, by simp only [Int.toNat_natCast]; omega⟩
  · have : decide ((i : Int) < ((a.n : Nat) : Int)) = false := decide_eq_false (by omega)
    rw [this, cond_false]
    exact hK
theorem oc_len (os : List Opt) : (os.flatMap oc).length = os.length * 2 := by
  induction os with
  | nil => rfl
  | cons o os ih => simp only [List.flatMap_cons, List.length_append, ih, List.length_cons, oc, List.length_nil]; omega
theorem ch_a : Tryd.prog.cellsOf 56 = 2 := by kernel_rfl
theorem ch_z : (zc Tryd.prog 56).length = 2 := by kernel_rfl
theorem ch_b : Tryd.prog.bytesOf 56 = 24 := by kernel_rfl
end Go.Proofs.YtedklcmdjoojfaaDoor

set_option linter.unusedVariables false
set_option maxRecDepth 100000
namespace Go.Proofs.YtedklcmdjoojfaaDoor
open Go Go.Hw
noncomputable def B21 : Code := match Tryd.f21.body with | some c => c | none => .skip
def N21_l0_b (x1_name : ByteArray) (x8 : Sl) (x9 : Int) (Φ : Int → Hp → Prop) (x10 : Int) (h : Hp) (K_e0 : Hp → Prop) (K_ret : Int → Bool → Hp → Prop) : Prop :=
  bif (decide (x10 < x9)) then
    idx x10 x8.n <|
    nn x8.p fun a0 =>
    xS (cell h (a0.add (x10.toNat * 2))) fun s0 =>
    xI .i64 (cell h ((a0.add (x10.toNat * 2)).add 1)) fun n0 =>
    nw h (.cells ⟨[.string (⟨⟨[]⟩⟩ : ByteArray), .int .i64 0]⟩ 56) fun b0 h0 =>
    st h0 (bk b0) (.string s0) fun h1 =>
    st h1 ((bk b0).add 1) (.int .i64 n0) fun h2 =>
    xS (cell h2 (bk b0)) fun s1 =>
    bif (s1.toList == x1_name.toList) then
      xI .i64 (cell h2 ((bk b0).add 1)) fun n1 =>
      K_ret n1 true h2
    else
      Φ (IntKind.wrap .i64 (x10 + 1)) h2
  else
    K_e0 h
def N21_l0_B (x1_name : ByteArray) (x8 : Sl) (x9 : Int) (K_e0 : Hp → Prop) (K_ret : Int → Bool → Hp → Prop) (s : Sg.T [(10, .c (.int .i64))]) (h : Hp) (Φ : Sg.T [(10, .c (.int .i64))] → Hp → Prop) : Prop :=
  N21_l0_b x1_name x8 x9 (fun x10 h => Φ x10 h) s h K_e0 K_ret
def N21_l0 (x1_name : ByteArray) (x8 : Sl) (x9 : Int) (x10 : Int) (h : Hp) (K_e0 : Hp → Prop) (K_ret : Int → Bool → Hp → Prop) : Prop :=
  loopP (N21_l0_B x1_name x8 x9 K_e0 K_ret) x10 h
noncomputable def N21_l0_t : Xf := loopT [(1, .c (.str)), (8, .c (.slice)), (9, .c (.int .i64))] [(10, .c (.int .i64))] (codeAt B21 [1, 0, 1, 0, 0]) fun F Q => N21_l0_B F.1 F.2.1 F.2.2 (fun h' => Q (.exit 0) (Sg.env [] ()) h') (fun o0 o1 h' => Q .ret (Sg.env [(4, .c (.int .i64)), (5, .c (.bool))] (o0, o1)) h')
theorem N21_l0_ok : Sound Tryd.prog Tryd.f21.ntmps N21_l0_t (codeAt B21 [1, 0, 1, 0]) := by
  refine loop_sound (fun e => match e with | .exit 0 => [] | .ret => [4, 5] | _ => []) (by kernel_rfl) ?_
  intro F Q s h Φ hb
  refine den_sound hE hm _ .leaf _ _ _ (annOk_leaf) ?_
  refine cast ?_ hb
  kernel_rfl
def N21 (x0 : Sl) (x1 : ByteArray) (h : Hp) (K : Int → Bool → Hp → Prop) : Prop :=
  N21_l0 x1 x0 ((x0.n : Nat) : Int) 0 h
    (fun h0 =>
      K 0 false h0)
    (fun n0 b0 h1 =>
      K n0 b0 h1)
theorem S21 {x0 : Sl} {x1 : ByteArray} {h : Hp} {K : Int → Bool → Hp → Prop} (hn : N21 x0 x1 h K) : C21 x0 x1 h K := by
  refine calls_of_D Tryd.func21 (c := B21) rfl (by kernel_rfl) ?_
  refine den_sound hE hm _ (.two .leaf (.two (.two .leaf (.one (.xf N21_l0_t))) .leaf)) _ _ _ (⟨annOk_leaf, ⟨⟨annOk_leaf, N21_l0_ok⟩, annOk_leaf⟩⟩) ?_
  refine cast ?_ hn
  kernel_rfl
end Go.Proofs.YtedklcmdjoojfaaDoor

set_option linter.unusedVariables false
set_option maxRecDepth 100000
namespace Go.Proofs.YtedklcmdjoojfaaDoor
open Go Go.Hw
end Go.Proofs.YtedklcmdjoojfaaDoor

set_option linter.unusedVariables false
set_option maxRecDepth 100000
namespace Go.Proofs.YtedklcmdjoojfaaDoor
open Go Go.Hw
noncomputable def B22 : Code := match Tryd.f22.body with | some c => c | none => .skip
def N22_j2 (x0_asked : Sl) (x1_block : Int) (x2_window : Int) (x3_size : Int) (x11_b : Int) (x12_w : Int) (x13_out : Sl) (x15_c : Option Addr) (x16 : Sl) (x17 : Int) (x18 : Int) (x44 : Bool) (h : Hp) (K_e1 : Int → Hp → Prop) (K_normal : Int → Hp → Prop) : Prop :=
  bif x44 then
    nn x15_c fun a0 =>
    xI .i64 (cell h (a0.add 1)) fun n0 =>
    nn x15_c fun a1 =>
    st h (a1.add 1) (.int .i64 (mn (mn n0 (mx x2_window 1)) 65535)) fun h0 =>
    K_normal (mn (mn n0 (mx x2_window 1)) 65535) h0
  else
    nn x15_c fun a2 =>
    xS (cell h a2) fun s0 =>
    bif (s0.toList == (⟨⟨[116, 115, 105, 122, 101]⟩⟩ : ByteArray).toList) then
      nn x15_c fun a3 =>
      st h (a3.add 1) (.int .i64 (mn (mx x3_size 0) 2147483647)) fun h1 =>
      K_normal x12_w h1
    else
      K_e1 x12_w h
noncomputable def N22_j2_t : Xf := pieceT [(0, .c (.slice)), (1, .c (.int .i64)), (2, .c (.int .i64)), (3, .c (.int .i64)), (11, .c (.int .i64)), (12, .c (.int .i64)), (13, .c (.slice)), (15, .c (.ptr)), (16, .c (.slice)), (17, .c (.int .i64)), (18, .c (.int .i64)), (44, .c (.bool))] (codeAt B22 [1, 1, 1, 0, 1, 0, 0, 1, 1, 0, 0, 1, 0, 0, 1, 1, 1, 1, 1]) fun x h Q => N22_j2 x.1 x.2.1 x.2.2.1 x.2.2.2.1 x.2.2.2.2.1 x.2.2.2.2.2.1 x.2.2.2.2.2.2.1 x.2.2.2.2.2.2.2.1 x.2.2.2.2.2.2.2.2.1 x.2.2.2.2.2.2.2.2.2.1 x.2.2.2.2.2.2.2.2.2.2.1 x.2.2.2.2.2.2.2.2.2.2.2 h (fun o0 h' => Q (.exit 1) (Sg.env [(12, .c (.int .i64))] o0) h') (fun o0 h' => Q .normal (Sg.env [(12, .c (.int .i64))] o0) h')
theorem N22_j2_ok : Sound Tryd.prog Tryd.f22.ntmps N22_j2_t (codeAt B22 [1, 1, 1, 0, 1, 0, 0, 1, 1, 0, 0, 1, 0, 0, 1, 1, 1, 1, 1]) := by
  refine piece_sound (fun e => match e with | .exit 1 => [12] | .normal => [12] | _ => []) ?_
  intro x h Q hb
  refine den_sound hE hm _ .leaf _ _ _ (annOk_leaf) ?_
  refine cast ?_ hb
  kernel_rfl
def N22_j1 (x0_asked : Sl) (x1_block : Int) (x2_window : Int) (x3_size : Int) (x11_b : Int) (x12_w : Int) (x13_out : Sl) (x15_c : Option Addr) (x16 : Sl) (x17 : Int) (x18 : Int) (x28 : Bool) (h : Hp) (K_e1 : Int → Int → Hp → Prop) (K_normal : Int → Int → Hp → Prop) : Prop :=
  bif x28 then
    nn x15_c fun a0 =>
    xI .i64 (cell h (a0.add 1)) fun n0 =>
    nn x15_c fun a1 =>
    st h (a1.add 1) (.int .i64 (mn (mn n0 (mx x1_block 8)) 65464)) fun h0 =>
    K_normal (mn (mn n0 (mx x1_block 8)) 65464) x12_w h0
  else
    nn x15_c fun a2 =>
    xS (cell h a2) fun s0 =>
    bif (s0.toList == (⟨⟨[119, 105, 110, 100, 111, 119, 115, 105, 122, 101]⟩⟩ : ByteArray).toList) then
      nn x15_c fun a3 =>
      xI .i64 (cell h (a3.add 1)) fun n1 =>
      N22_j2 x0_asked x1_block x2_window x3_size x11_b x12_w x13_out x15_c x16 x17 x18 (decide (n1 ≥ 1)) h
        (fun n2 h1 =>
          K_e1 x11_b n2 h1)
        (fun n3 h2 =>
          K_normal x11_b n3 h2)
    else
      N22_j2 x0_asked x1_block x2_window x3_size x11_b x12_w x13_out x15_c x16 x17 x18 false h
        (fun n4 h3 =>
          K_e1 x11_b n4 h3)
        (fun n5 h4 =>
          K_normal x11_b n5 h4)
noncomputable def N22_j1_t : Xf := pieceT [(0, .c (.slice)), (1, .c (.int .i64)), (2, .c (.int .i64)), (3, .c (.int .i64)), (11, .c (.int .i64)), (12, .c (.int .i64)), (13, .c (.slice)), (15, .c (.ptr)), (16, .c (.slice)), (17, .c (.int .i64)), (18, .c (.int .i64)), (28, .c (.bool))] (codeAt B22 [1, 1, 1, 0, 1, 0, 0, 1, 1, 0, 0, 1, 0, 0, 1, 1, 1]) fun x h Q => N22_j1 x.1 x.2.1 x.2.2.1 x.2.2.2.1 x.2.2.2.2.1 x.2.2.2.2.2.1 x.2.2.2.2.2.2.1 x.2.2.2.2.2.2.2.1 x.2.2.2.2.2.2.2.2.1 x.2.2.2.2.2.2.2.2.2.1 x.2.2.2.2.2.2.2.2.2.2.1 x.2.2.2.2.2.2.2.2.2.2.2 h (fun o0 o1 h' => Q (.exit 1) (Sg.env [(11, .c (.int .i64)), (12, .c (.int .i64))] (o0, o1)) h') (fun o0 o1 h' => Q .normal (Sg.env [(11, .c (.int .i64)), (12, .c (.int .i64))] (o0, o1)) h')
theorem N22_j1_ok : Sound Tryd.prog Tryd.f22.ntmps N22_j1_t (codeAt B22 [1, 1, 1, 0, 1, 0, 0, 1, 1, 0, 0, 1, 0, 0, 1, 1, 1]) := by
  refine piece_sound (fun e => match e with | .exit 1 => [11, 12] | .normal => [11, 12] | _ => []) ?_
  intro x h Q hb
  refine den_sound hE hm _ (.two .leaf (.two .leaf (.xf N22_j2_t))) _ _ _ (⟨annOk_leaf, ⟨annOk_leaf, N22_j2_ok⟩⟩) ?_
  refine cast ?_ hb
  kernel_rfl
def N22_j3 (x0_asked : Sl) (x1_block : Int) (x2_window : Int) (x3_size : Int) (x11_b : Int) (x12_w : Int) (x13_out : Sl) (x15_c : Option Addr) (x16 : Sl) (x17 : Int) (x18 : Int) (h : Hp) (K_normal : Sl → Hp → Prop) : Prop :=
  nn x15_c fun a0 =>
  xS (cell h a0) fun s0 =>
  xI .i64 (cell h (a0.add 1)) fun n0 =>
  nw h (.cells ⟨[.string s0, .int .i64 n0]⟩ 56) fun b0 h0 =>
  apK Tryd.prog 56 x13_out (.slice (some (bk b0)) 1 1) h0 fun s1 h1 =>
  K_normal s1 h1
noncomputable def N22_j3_t : Xf := pieceT [(0, .c (.slice)), (1, .c (.int .i64)), (2, .c (.int .i64)), (3, .c (.int .i64)), (11, .c (.int .i64)), (12, .c (.int .i64)), (13, .c (.slice)), (15, .c (.ptr)), (16, .c (.slice)), (17, .c (.int .i64)), (18, .c (.int .i64))] (codeAt B22 [1, 1, 1, 0, 1, 0, 0, 1, 1, 0, 0, 1, 1]) fun x h Q => N22_j3 x.1 x.2.1 x.2.2.1 x.2.2.2.1 x.2.2.2.2.1 x.2.2.2.2.2.1 x.2.2.2.2.2.2.1 x.2.2.2.2.2.2.2.1 x.2.2.2.2.2.2.2.2.1 x.2.2.2.2.2.2.2.2.2.1 x.2.2.2.2.2.2.2.2.2.2 h (fun o0 h' => Q .normal (Sg.env [(13, .c (.slice))] o0) h')
theorem N22_j3_ok : Sound Tryd.prog Tryd.f22.ntmps N22_j3_t (codeAt B22 [1, 1, 1, 0, 1, 0, 0, 1, 1, 0, 0, 1, 1]) := by
  refine piece_sound (fun e => match e with | .normal => [13] | _ => []) ?_
  intro x h Q hb
  refine den_sound hE hm _ .leaf _ _ _ (annOk_leaf) ?_
  refine cast ?_ hb
  kernel_rfl
def N22_l0_b (x0_asked : Sl) (x1_block : Int) (x2_window : Int) (x3_size : Int) (x16 : Sl) (x17 : Int) (Φ : Int → Int → Sl → Int → Hp → Prop) (x11_b : Int) (x12_w : Int) (x13_out : Sl) (x18 : Int) (h : Hp) (K_e0 : Int → Int → Sl → Hp → Prop) : Prop :=
  bif (decide (x18 < x17)) then
    idx x18 x16.n <|
    nn x16.p fun a0 =>
    xS (cell h (a0.add (x18.toNat * 2))) fun s0 =>
    xI .i64 (cell h ((a0.add (x18.toNat * 2)).add 1)) fun n0 =>
    nw h (.cells ⟨[.string (⟨⟨[]⟩⟩ : ByteArray), .int .i64 0]⟩ 56) fun b0 h0 =>
    st h0 (bk b0) (.string s0) fun h1 =>
    st h1 ((bk b0).add 1) (.int .i64 n0) fun h2 =>
    C43 x0_asked x18 h2 fun b1 h3 =>
    bif (!b1) then
      Φ x11_b x12_w x13_out (IntKind.wrap .i64 (x18 + 1)) h3
    else
      xS (cell h3 (bk b0)) fun s1 =>
      bif (s1.toList == (⟨⟨[98, 108, 107, 115, 105, 122, 101]⟩⟩ : ByteArray).toList) then
        xI .i64 (cell h3 ((bk b0).add 1)) fun n1 =>
        N22_j1 x0_asked x1_block x2_window x3_size x11_b x12_w x13_out (some (bk b0)) x16 x17 x18 (decide (n1 ≥ 8)) h3
          (fun n2 n3 h4 =>
            Φ n2 n3 x13_out (IntKind.wrap .i64 (x18 + 1)) h4)
          (fun n4 n5 h5 =>
            N22_j3 x0_asked x1_block x2_window x3_size n4 n5 x13_out (some (bk b0)) x16 x17 x18 h5
              (fun s2 h6 =>
                Φ n4 n5 s2 (IntKind.wrap .i64 (x18 + 1)) h6))
      else
        N22_j1 x0_asked x1_block x2_window x3_size x11_b x12_w x13_out (some (bk b0)) x16 x17 x18 false h3
          (fun n6 n7 h7 =>
            Φ n6 n7 x13_out (IntKind.wrap .i64 (x18 + 1)) h7)
          (fun n8 n9 h8 =>
            N22_j3 x0_asked x1_block x2_window x3_size n8 n9 x13_out (some (bk b0)) x16 x17 x18 h8
              (fun s3 h9 =>
                Φ n8 n9 s3 (IntKind.wrap .i64 (x18 + 1)) h9))
  else
    K_e0 x11_b x12_w x13_out h
def N22_l0_B (x0_asked : Sl) (x1_block : Int) (x2_window : Int) (x3_size : Int) (x16 : Sl) (x17 : Int) (K_e0 : Int → Int → Sl → Hp → Prop) (s : Sg.T [(11, .c (.int .i64)), (12, .c (.int .i64)), (13, .c (.slice)), (18, .c (.int .i64))]) (h : Hp) (Φ : Sg.T [(11, .c (.int .i64)), (12, .c (.int .i64)), (13, .c (.slice)), (18, .c (.int .i64))] → Hp → Prop) : Prop :=
  N22_l0_b x0_asked x1_block x2_window x3_size x16 x17 (fun x11_b x12_w x13_out x18 h => Φ (x11_b, x12_w, x13_out, x18) h) s.1 s.2.1 s.2.2.1 s.2.2.2 h K_e0
def N22_l0 (x0_asked : Sl) (x1_block : Int) (x2_window : Int) (x3_size : Int) (x16 : Sl) (x17 : Int) (x11_b : Int) (x12_w : Int) (x13_out : Sl) (x18 : Int) (h : Hp) (K_e0 : Int → Int → Sl → Hp → Prop) : Prop :=
  loopP (N22_l0_B x0_asked x1_block x2_window x3_size x16 x17 K_e0) (x11_b, x12_w, x13_out, x18) h
noncomputable def N22_l0_t : Xf := loopT [(0, .c (.slice)), (1, .c (.int .i64)), (2, .c (.int .i64)), (3, .c (.int .i64)), (16, .c (.slice)), (17, .c (.int .i64))] [(11, .c (.int .i64)), (12, .c (.int .i64)), (13, .c (.slice)), (18, .c (.int .i64))] (codeAt B22 [1, 1, 1, 0, 1, 0, 0]) fun F Q => N22_l0_B F.1 F.2.1 F.2.2.1 F.2.2.2.1 F.2.2.2.2.1 F.2.2.2.2.2 (fun o0 o1 o2 h' => Q (.exit 0) (Sg.env [(11, .c (.int .i64)), (12, .c (.int .i64)), (13, .c (.slice))] (o0, o1, o2)) h')
theorem N22_l0_ok : Sound Tryd.prog Tryd.f22.ntmps N22_l0_t (codeAt B22 [1, 1, 1, 0, 1, 0]) := by
  refine loop_sound (fun e => match e with | .exit 0 => [11, 12, 13] | _ => []) (by kernel_rfl) ?_
  intro F Q s h Φ hb
  refine den_sound hE hm _ (.two .leaf (.two .leaf (.two (.one (.two .leaf (.two (.one (.two .leaf (.two .leaf (.two .leaf (.xf N22_j1_t))))) (.xf N22_j3_t)))) .leaf))) _ _ _ (⟨annOk_leaf, ⟨annOk_leaf, ⟨⟨annOk_leaf, ⟨⟨annOk_leaf, ⟨annOk_leaf, ⟨annOk_leaf, N22_j1_ok⟩⟩⟩, N22_j3_ok⟩⟩, annOk_leaf⟩⟩⟩) ?_
  refine cast ?_ hb
  kernel_rfl
def N22 (x0 : Sl) (x1 : Int) (x2 : Int) (x3 : Int) (h : Hp) (K : Int → Int → Sl → Hp → Prop) : Prop :=
  N22_l0 x0 x1 x2 x3 x0 ((x0.n : Nat) : Int) 512 1 ⟨none, 0, 0⟩ 0 h
    (fun n0 n1 s0 h0 =>
      K n0 n1 s0 h0)
theorem S22 {x0 : Sl} {x1 : Int} {x2 : Int} {x3 : Int} {h : Hp} {K : Int → Int → Sl → Hp → Prop} (hn : N22 x0 x1 x2 x3 h K) : C22 x0 x1 x2 x3 h K := by
  refine calls_of_D Tryd.func22 (c := B22) rfl (by kernel_rfl) ?_
  refine den_sound hE hm _ (.two .leaf (.two .leaf (.two .leaf (.two (.two .leaf (.one (.xf N22_l0_t))) .leaf)))) _ _ _ (⟨annOk_leaf, ⟨annOk_leaf, ⟨annOk_leaf, ⟨⟨annOk_leaf, N22_l0_ok⟩, annOk_leaf⟩⟩⟩⟩) ?_
  refine cast ?_ hn
  kernel_rfl
end Go.Proofs.YtedklcmdjoojfaaDoor

set_option linter.unusedVariables false
set_option maxRecDepth 100000
namespace Go.Proofs.YtedklcmdjoojfaaDoor
open Go Go.Hw
end Go.Proofs.YtedklcmdjoojfaaDoor

set_option linter.unusedVariables false
set_option maxRecDepth 100000
namespace Go.Proofs.YtedklcmdjoojfaaDoor
open Go Go.Hw
end Go.Proofs.YtedklcmdjoojfaaDoor

/-
  What a choice is worth; what a server agrees to.
-/
set_option linter.unusedSimpArgs false
set_option linter.unusedVariables false
namespace Go.Proofs.YtedklcmdjoojfaaDoor
open Go Go.Hw
def wantL : List Opt → ByteArray → Int × Bool
  | [], _ => (0, false)
  | o :: os, nm => bif (o.1.data.toList == nm.data.toList) then (o.2, true) else wantL os nm
theorem wantL_drop {os : List Opt} {i : Nat} (hi : i < os.length) (nm : ByteArray) : wantL (os.drop i) nm = bif (os[i].1.data.toList == nm.data.toList) then (os[i].2, true) else wantL (os.drop (i + 1)) nm := by
  rw [List.drop_eq_getElem_cons hi]; rfl
theorem c_want {s : Sl} {os : List Opt} {nm : ByteArray} {h : Hp} {K : Int → Bool → Hp → Prop} (H : RdO h s os) (hl : os.length ≤ 4611686018427387904) (hK : ∀ h', Ext none' h h' → K (wantL os nm).1 (wantL os nm).2 h') : C21 s nm h K := by
  apply S21; unfold N21 N21_l0
  have hn := H.n
  refine loopP_inv (fun (x : Int) hc => Ext none' h hc ∧ ∃ i : Nat, x = i ∧ i ≤ os.length ∧ wantL os nm = wantL (os.drop i) nm) (fun x _ => os.length - x.toNat) ?_ ⟨Ext.refl, 0, rfl, Nat.zero_le _, rfl⟩
  rintro x hc ⟨he, i, rfl, hi, hr⟩
  unfold N21_l0_B N21_l0_b
  dsimp only
  have H1 := H.ext he
  by_cases hlt : i < os.length
  · have : decide ((i : Int) < ((s.n : Nat) : Int)) = true := decide_eq_true (by omega)
    rw [this, cond_true]
    rw [wantL_drop hlt] at hr
    refine H1.at rfl hlt ?_
    intro a _ hs hv
    rw [hs, xS_some, hv, xI_some]
    refine rng_new ?_
    intro b h2 e2 hb
    have hb0 : cell h2 (bk b) = some (.string (os[i]).1) := by rw [show (bk b) = (⟨b, 0, none⟩ : Addr) from rfl, hb.cell]; rfl
    rw [hb0, xS_some, ba_list]
    cases hq : ((os[i]).1.data.toList == nm.data.toList) with
    | true =>
      rw [hq, cond_true] at hr
      simp only [cond_true]
      have hb1 : cell h2 ((bk b).add 1) = some (.int .i64 (os[i]).2) := by rw [add_bk, hb.cell]; rfl
      rw [hb1, xI_some]
      have := hK h2 (he.trans e2)
      rw [hr] at this
      exact this
    | false =>
      rw [hq, cond_false] at hr
      simp only [cond_false]
      rw [nat_succ64 (by omega)]
      exact ⟨⟨he.trans e2, i + 1, rfl, hlt, hr⟩, by simp only [Int.toNat_natCast]; omega⟩
  · have : decide ((i : Int) < ((s.n : Nat) : Int)) = false := decide_eq_false (by omega)
    rw [this, cond_false]
    rw [List.drop_of_length_le (by omega)] at hr
    have := hK hc he
    rw [hr] at this
    exact this
abbrev Agd := Int × Int × List Opt
def ag1 (bl wi si : Int) (pre : List Opt) (o : Opt) (st : Agd) : Agd :=
  bif freshO pre o.1 then
    bif (o.1.data.toList == blkS) && decide (o.2 ≥ 8) then (mn (mn o.2 (mx bl 8)) 65464, st.2.1, st.2.2 ++ [(o.1, mn (mn o.2 (mx bl 8)) 65464)])
    else bif (o.1.data.toList == winS) && decide (o.2 ≥ 1) then (st.1, mn (mn o.2 (mx wi 1)) 65535, st.2.2 ++ [(o.1, mn (mn o.2 (mx wi 1)) 65535)])
    else bif (o.1.data.toList == tsiS) then (st.1, st.2.1, st.2.2 ++ [(o.1, mn (mx si 0) 2147483647)])
    else st
  else st
def agL (bl wi si : Int) : List Opt → List Opt → Agd → Agd
  | _, [], st => st
  | pre, o :: r, st => agL bl wi si (pre ++ [o]) r (ag1 bl wi si pre o st)
def agO (bl wi si : Int) (os : List Opt) : Agd := agL bl wi si [] os (512, 1, [])
theorem agL_step {bl wi si : Int} {os : List Opt} {i : Nat} (hi : i < os.length) (st : Agd) : agL bl wi si (os.take i) (os.drop i) st = agL bl wi si (os.take (i + 1)) (os.drop (i + 1)) (ag1 bl wi si (os.take i) os[i] st) := by
  rw [List.drop_eq_getElem_cons hi, agL, List.take_append_getElem hi]
set_option maxHeartbeats 1000000 in
theorem c_agree {s : Sl} {os : List Opt} {bl wi si : Int} {h : Hp} {K : Int → Int → Sl → Hp → Prop} (H : RdO h s os) (hl : os.length ≤ 5864062014635)
    (hK : ∀ s' h', NewO h h' 56 2 s' ((agO bl wi si os).2.2.flatMap oc) → K (agO bl wi si os).1 (agO bl wi si os).2.1 s' h') : C22 s bl wi si h K := by
  apply S22; unfold N22 N22_l0
  have hn := H.n
  refine loopP_inv (fun (x : Int × Int × Sl × Int) hc => ∃ (i : Nat) (l : List Opt), x.2.2.2 = i ∧ i ≤ os.length ∧ agO bl wi si os = agL bl wi si (os.take i) (os.drop i) (x.1, x.2.1, l) ∧ l.length ≤ i ∧ Sat ([] ++ [Hw.was h, Hw.own 56 2 x.2.2.1 (l.flatMap oc)]) hc) (fun x _ => os.length - x.2.2.2.toNat) ?_
    ⟨0, [], rfl, Nat.zero_le _, rfl, Nat.le_refl _, Sat.start.addNil 56 2⟩
  rintro ⟨b, w, out, x⟩ hc ⟨i, l, hx, hi, hr, hll, hs⟩
  simp only at hx hr hs
  subst hx
  unfold N22_l0_B N22_l0_b
  dsimp only
  have H1 := H.ext (hs.was 0 rfl)
  by_cases hlt : i < os.length
  · have : decide ((i : Int) < ((s.n : Nat) : Int)) = true := decide_eq_true (by omega)
    rw [this, cond_true]
    rw [agL_step hlt] at hr
    refine H1.at rfl hlt ?_
    intro a _ hs0 hv0
    rw [hs0, xS_some, hv0, xI_some]
    refine rng_sat hs ?_
    intro b0 h2 hs
    refine c_first (H.ext (hs.was 0 rfl)) (by omega) rfl hlt ?_
    intro h3 e3
    have hs := hs.ext e3
    generalize hO : os[i] = o at hr hs ⊢
    obtain ⟨nm, v⟩ := o
    have hs : Sat ([] ++ [Hw.was h, Hw.own 56 2 out (l.flatMap oc), row b0 56 [.string nm, .int .i64 v]]) h3 := hs
    have next : ∀ (b' w' : Int) (out' : Sl) (l' : List Opt) (h' : Hp), agO bl wi si os = agL bl wi si (os.take (i + 1)) (os.drop (i + 1)) (b', w', l') → l'.length ≤ i + 1 → Sat ([] ++ [Hw.was h, Hw.own 56 2 out' (l'.flatMap oc)]) h' →
        (∃ (j : Nat) (l : List Opt), IntKind.wrap .i64 ((i : Int) + 1) = j ∧ j ≤ os.length ∧ agO bl wi si os = agL bl wi si (os.take j) (os.drop j) (b', w', l) ∧ l.length ≤ j ∧ Sat ([] ++ [Hw.was h, Hw.own 56 2 out' (l.flatMap oc)]) h') ∧ os.length - (IntKind.wrap .i64 ((i : Int) + 1)).toNat < os.length - ((i : Nat) : Int).toNat := by
      intro b' w' out' l' h' g1 g2 g3
      rw [nat_succ64 (by omega)]
      exact ⟨⟨i + 1, l', rfl, hlt, g1, g2, g3⟩, by simp only [Int.toNat_natCast]; omega⟩
    have skip : ∀ (h' : Hp), agO bl wi si os = agL bl wi si (os.take (i + 1)) (os.drop (i + 1)) (b, w, l) → Sat ([] ++ [Hw.was h, Hw.own 56 2 out (l.flatMap oc), row b0 56 [.string nm, .int .i64 v]]) h' → _ := fun h' g1 g2 => next b w out l h' g1 (by omega) (sat_letgo (M := [_, _]) g2)
    have on : out.n = l.length := by have := (hs.own 1 rfl).1; rw [oc_len] at this; omega
    have lay : ∀ (b' w' u : Int) (h' : Hp), agO bl wi si os = agL bl wi si (os.take (i + 1)) (os.drop (i + 1)) (b', w', l ++ [(nm, u)]) → Sat ([] ++ [Hw.was h, Hw.own 56 2 out (l.flatMap oc), row b0 56 [.string nm, .int .i64 u]]) h' →
        N22_j3 s bl wi si b' w' out (some (bk b0)) s (i : Int) (i : Int) h' (fun s1 h1 => (∃ (j : Nat) (l : List Opt), IntKind.wrap .i64 ((i : Int) + 1) = j ∧ j ≤ os.length ∧ agO bl wi si os = agL bl wi si (os.take j) (os.drop j) (b', w', l) ∧ l.length ≤ j ∧ Sat ([] ++ [Hw.was h, Hw.own 56 2 s1 (l.flatMap oc)]) h1) ∧ os.length - (IntKind.wrap .i64 ((i : Int) + 1)).toNat < os.length - ((i : Nat) : Int).toNat) := by
      intro b' w' u h' g1 g2
      unfold N22_j3
      simp only [nn_some', add_bk]
      refine g2.lS 2 rfl rfl ?_
      refine g2.lI 2 rfl rfl ?_
      refine g2.push (k := 1) (sz := 2) 1 rfl ch_a ch_z rfl (by simp [plain]) (by rw [ch_b]; omega) ?_
      intro s1 h1 hs1 _
      refine next b' w' s1 _ h1 g1 (by simp; omega) ?_
      rw [← oc_snoc]
      exact sat_letgo (M := [_, _]) hs1
    unfold ag1 at hr
    simp only [blkS, winS, tsiS] at hr
    cases hf : freshO (os.take i) nm with
    | false =>
      rw [hf, cond_false] at hr
      simp only [Bool.not_false, cond_true]
      exact skip h3 hr hs
    | true =>
    rw [hf, cond_true] at hr
    simp only [Bool.not_true, cond_false]
    refine hs.lS 2 rfl rfl ?_
    simp only [ba_list]
    cases eb : (nm.data.toList == [98, 108, 107, 115, 105, 122, 101])
    case' false => (rw [eb, Bool.false_and, cond_false] at hr; rw [cond_false])
    case' true =>
      rw [eb, Bool.true_and] at hr
      rw [cond_true, add_bk]
      refine hs.lI 2 rfl rfl ?_
      cases h8 : decide (v ≥ 8)
      case' true =>
        rw [h8, cond_true] at hr
        unfold N22_j1
        rw [cond_true]
        simp only [nn_some', add_bk]
        refine hs.lI 2 rfl rfl ?_
        refine hs.st 2 rfl (by simp) rfl ?_
        intro h4 hs4
        exact lay _ _ _ h4 hr hs4
      case' false => rw [h8, cond_false] at hr
    all_goals
      unfold N22_j1
      rw [cond_false]
      simp only [nn_some', add_bk]
      refine hs.lS 2 rfl rfl ?_
      simp only [ba_list]
      cases ew : (nm.data.toList == [119, 105, 110, 100, 111, 119, 115, 105, 122, 101])
      case' false => (rw [ew, Bool.false_and, cond_false] at hr; rw [cond_false])
      case' true =>
        rw [ew, Bool.true_and] at hr
        rw [cond_true]
        refine hs.lI 2 rfl rfl ?_
        cases h8 : decide (v ≥ 1)
        case' true =>
          rw [h8, cond_true] at hr
          unfold N22_j2
          rw [cond_true]
          simp only [nn_some', add_bk]
          refine hs.lI 2 rfl rfl ?_
          refine hs.st 2 rfl (by simp) rfl ?_
          intro h4 hs4
          exact lay _ _ _ h4 hr hs4
        case' false => rw [h8, cond_false] at hr
      all_goals
        unfold N22_j2
        rw [cond_false]
        simp only [nn_some', add_bk]
        refine hs.lS 2 rfl rfl ?_
        simp only [ba_list]
        cases et : (nm.data.toList == [116, 115, 105, 122, 101])
        case' false =>
          rw [et, cond_false] at hr
          rw [cond_false]
          exact skip h3 hr hs
        case' true =>
          rw [et, cond_true] at hr
          rw [cond_true]
          refine hs.st 2 rfl (by simp) rfl ?_
          intro h4 hs4
          exact lay _ _ _ h4 hr hs4
  · have : decide ((i : Int) < ((s.n : Nat) : Int)) = false := decide_eq_false (by omega)
    rw [this, cond_false]
    rw [List.drop_of_length_le (by omega)] at hr
    have := hK out hc
    rw [hr] at this
    exact this (hs.newO 0 1 rfl rfl (by omega))
end Go.Proofs.YtedklcmdjoojfaaDoor

set_option linter.unusedVariables false
set_option maxRecDepth 100000
namespace Go.Proofs.YtedklcmdjoojfaaDoor
open Go Go.Hw
noncomputable def B23 : Code := match Tryd.f23.body with | some c => c | none => .skip
def N23_j3 (x0_asked : Sl) (x1_answer : Sl) (x2_most : Int) (x9_b : Int) (x10_w : Int) (x12_c : Option Addr) (x17 : Sl) (x18 : Int) (x19 : Int) (x66 : Bool) (h : Hp) (K_normal : Int → Int → Hp → Prop) (K_ret : Int → Int → Int → Hp → Prop) : Prop :=
  bif x66 then
    K_ret 0 0 172 h
  else
    nn x12_c fun a0 =>
    xS (cell h a0) fun s0 =>
    bif (s0.toList == (⟨⟨[98, 108, 107, 115, 105, 122, 101]⟩⟩ : ByteArray).toList) then
      nn x12_c fun a1 =>
      xI .i64 (cell h (a1.add 1)) fun n0 =>
      K_normal n0 x10_w h
    else
      nn x12_c fun a2 =>
      xS (cell h a2) fun s1 =>
      bif (s1.toList == (⟨⟨[119, 105, 110, 100, 111, 119, 115, 105, 122, 101]⟩⟩ : ByteArray).toList) then
        nn x12_c fun a3 =>
        xI .i64 (cell h (a3.add 1)) fun n1 =>
        K_normal x9_b n1 h
      else
        K_normal x9_b x10_w h
noncomputable def N23_j3_t : Xf := pieceT [(0, .c (.slice)), (1, .c (.slice)), (2, .c (.int .i64)), (9, .c (.int .i64)), (10, .c (.int .i64)), (12, .c (.ptr)), (17, .c (.slice)), (18, .c (.int .i64)), (19, .c (.int .i64)), (66, .c (.bool))] (codeAt B23 [1, 1, 0, 1, 0, 0, 1, 1, 0, 0, 1, 1, 0, 1, 1, 1, 1, 1]) fun x h Q => N23_j3 x.1 x.2.1 x.2.2.1 x.2.2.2.1 x.2.2.2.2.1 x.2.2.2.2.2.1 x.2.2.2.2.2.2.1 x.2.2.2.2.2.2.2.1 x.2.2.2.2.2.2.2.2.1 x.2.2.2.2.2.2.2.2.2 h (fun o0 o1 h' => Q .normal (Sg.env [(9, .c (.int .i64)), (10, .c (.int .i64))] (o0, o1)) h') (fun o0 o1 o2 h' => Q .ret (Sg.env [(6, .c (.int .i64)), (7, .c (.int .i64)), (8, .c (.int .i64))] (o0, o1, o2)) h')
theorem N23_j3_ok : Sound Tryd.prog Tryd.f23.ntmps N23_j3_t (codeAt B23 [1, 1, 0, 1, 0, 0, 1, 1, 0, 0, 1, 1, 0, 1, 1, 1, 1, 1]) := by
  refine piece_sound (fun e => match e with | .normal => [9, 10] | .ret => [6, 7, 8] | _ => []) ?_
  intro x h Q hb
  refine den_sound hE hm _ .leaf _ _ _ (annOk_leaf) ?_
  refine cast ?_ hb
  kernel_rfl
def N23_j2 (x0_asked : Sl) (x1_answer : Sl) (x2_most : Int) (x9_b : Int) (x10_w : Int) (x12_c : Option Addr) (x13_want : Int) (x17 : Sl) (x18 : Int) (x19 : Int) (x51 : Bool) (h : Hp) (K_normal : Int → Int → Hp → Prop) (K_ret : Int → Int → Int → Hp → Prop) : Prop :=
  bif x51 then
    K_ret 0 0 172 h
  else
    nn x12_c fun a0 =>
    xS (cell h a0) fun s0 =>
    bif (s0.toList == (⟨⟨[119, 105, 110, 100, 111, 119, 115, 105, 122, 101]⟩⟩ : ByteArray).toList) then
      nn x12_c fun a1 =>
      xI .i64 (cell h (a1.add 1)) fun n0 =>
      bif (decide (n0 < 1)) then
        N23_j3 x0_asked x1_answer x2_most x9_b x10_w x12_c x17 x18 x19 true h
          (fun n1 n2 h0 =>
            K_normal n1 n2 h0)
          (fun n3 n4 n5 h1 =>
            K_ret n3 n4 n5 h1)
      else
        nn x12_c fun a2 =>
        xI .i64 (cell h (a2.add 1)) fun n6 =>
        N23_j3 x0_asked x1_answer x2_most x9_b x10_w x12_c x17 x18 x19 (decide (n6 > x13_want)) h
          (fun n7 n8 h2 =>
            K_normal n7 n8 h2)
          (fun n9 n10 n11 h3 =>
            K_ret n9 n10 n11 h3)
    else
      N23_j3 x0_asked x1_answer x2_most x9_b x10_w x12_c x17 x18 x19 false h
        (fun n12 n13 h4 =>
          K_normal n12 n13 h4)
        (fun n14 n15 n16 h5 =>
          K_ret n14 n15 n16 h5)
noncomputable def N23_j2_t : Xf := pieceT [(0, .c (.slice)), (1, .c (.slice)), (2, .c (.int .i64)), (9, .c (.int .i64)), (10, .c (.int .i64)), (12, .c (.ptr)), (13, .c (.int .i64)), (17, .c (.slice)), (18, .c (.int .i64)), (19, .c (.int .i64)), (51, .c (.bool))] (codeAt B23 [1, 1, 0, 1, 0, 0, 1, 1, 0, 0, 1, 1, 0, 1, 1, 1]) fun x h Q => N23_j2 x.1 x.2.1 x.2.2.1 x.2.2.2.1 x.2.2.2.2.1 x.2.2.2.2.2.1 x.2.2.2.2.2.2.1 x.2.2.2.2.2.2.2.1 x.2.2.2.2.2.2.2.2.1 x.2.2.2.2.2.2.2.2.2.1 x.2.2.2.2.2.2.2.2.2.2 h (fun o0 o1 h' => Q .normal (Sg.env [(9, .c (.int .i64)), (10, .c (.int .i64))] (o0, o1)) h') (fun o0 o1 o2 h' => Q .ret (Sg.env [(6, .c (.int .i64)), (7, .c (.int .i64)), (8, .c (.int .i64))] (o0, o1, o2)) h')
theorem N23_j2_ok : Sound Tryd.prog Tryd.f23.ntmps N23_j2_t (codeAt B23 [1, 1, 0, 1, 0, 0, 1, 1, 0, 0, 1, 1, 0, 1, 1, 1]) := by
  refine piece_sound (fun e => match e with | .normal => [9, 10] | .ret => [6, 7, 8] | _ => []) ?_
  intro x h Q hb
  refine den_sound hE hm _ (.two .leaf (.two .leaf (.xf N23_j3_t))) _ _ _ (⟨annOk_leaf, ⟨annOk_leaf, N23_j3_ok⟩⟩) ?_
  refine cast ?_ hb
  kernel_rfl
def N23_j1 (x0_asked : Sl) (x1_answer : Sl) (x2_most : Int) (x9_b : Int) (x10_w : Int) (x12_c : Option Addr) (x13_want : Int) (x17 : Sl) (x18 : Int) (x19 : Int) (x31 : Bool) (h : Hp) (K_normal : Int → Int → Hp → Prop) (K_ret : Int → Int → Int → Hp → Prop) : Prop :=
  bif x31 then
    K_ret 0 0 172 h
  else
    nn x12_c fun a0 =>
    xS (cell h a0) fun s0 =>
    bif (s0.toList == (⟨⟨[98, 108, 107, 115, 105, 122, 101]⟩⟩ : ByteArray).toList) then
      nn x12_c fun a1 =>
      xI .i64 (cell h (a1.add 1)) fun n0 =>
      bif (decide (n0 < 8)) then
        N23_j2 x0_asked x1_answer x2_most x9_b x10_w x12_c x13_want x17 x18 x19 true h
          (fun n1 n2 h0 =>
            K_normal n1 n2 h0)
          (fun n3 n4 n5 h1 =>
            K_ret n3 n4 n5 h1)
      else
        nn x12_c fun a2 =>
        xI .i64 (cell h (a2.add 1)) fun n6 =>
        N23_j2 x0_asked x1_answer x2_most x9_b x10_w x12_c x13_want x17 x18 x19 (decide (n6 > x13_want)) h
          (fun n7 n8 h2 =>
            K_normal n7 n8 h2)
          (fun n9 n10 n11 h3 =>
            K_ret n9 n10 n11 h3)
    else
      N23_j2 x0_asked x1_answer x2_most x9_b x10_w x12_c x13_want x17 x18 x19 false h
        (fun n12 n13 h4 =>
          K_normal n12 n13 h4)
        (fun n14 n15 n16 h5 =>
          K_ret n14 n15 n16 h5)
noncomputable def N23_j1_t : Xf := pieceT [(0, .c (.slice)), (1, .c (.slice)), (2, .c (.int .i64)), (9, .c (.int .i64)), (10, .c (.int .i64)), (12, .c (.ptr)), (13, .c (.int .i64)), (17, .c (.slice)), (18, .c (.int .i64)), (19, .c (.int .i64)), (31, .c (.bool))] (codeAt B23 [1, 1, 0, 1, 0, 0, 1, 1, 0, 0, 1, 1, 0, 1]) fun x h Q => N23_j1 x.1 x.2.1 x.2.2.1 x.2.2.2.1 x.2.2.2.2.1 x.2.2.2.2.2.1 x.2.2.2.2.2.2.1 x.2.2.2.2.2.2.2.1 x.2.2.2.2.2.2.2.2.1 x.2.2.2.2.2.2.2.2.2.1 x.2.2.2.2.2.2.2.2.2.2 h (fun o0 o1 h' => Q .normal (Sg.env [(9, .c (.int .i64)), (10, .c (.int .i64))] (o0, o1)) h') (fun o0 o1 o2 h' => Q .ret (Sg.env [(6, .c (.int .i64)), (7, .c (.int .i64)), (8, .c (.int .i64))] (o0, o1, o2)) h')
theorem N23_j1_ok : Sound Tryd.prog Tryd.f23.ntmps N23_j1_t (codeAt B23 [1, 1, 0, 1, 0, 0, 1, 1, 0, 0, 1, 1, 0, 1]) := by
  refine piece_sound (fun e => match e with | .normal => [9, 10] | .ret => [6, 7, 8] | _ => []) ?_
  intro x h Q hb
  refine den_sound hE hm _ (.two .leaf (.two .leaf (.xf N23_j2_t))) _ _ _ (⟨annOk_leaf, ⟨annOk_leaf, N23_j2_ok⟩⟩) ?_
  refine cast ?_ hb
  kernel_rfl
def N23_l0_b (x0_asked : Sl) (x1_answer : Sl) (x2_most : Int) (x17 : Sl) (x18 : Int) (Φ : Int → Int → Int → Hp → Prop) (x9_b : Int) (x10_w : Int) (x19 : Int) (h : Hp) (K_e0 : Int → Int → Hp → Prop) (K_ret : Int → Int → Int → Hp → Prop) : Prop :=
  bif (decide (x19 < x18)) then
    idx x19 x17.n <|
    nn x17.p fun a0 =>
    xS (cell h (a0.add (x19.toNat * 2))) fun s0 =>
    xI .i64 (cell h ((a0.add (x19.toNat * 2)).add 1)) fun n0 =>
    nw h (.cells ⟨[.string (⟨⟨[]⟩⟩ : ByteArray), .int .i64 0]⟩ 56) fun b0 h0 =>
    st h0 (bk b0) (.string s0) fun h1 =>
    st h1 ((bk b0).add 1) (.int .i64 n0) fun h2 =>
    xS (cell h2 (bk b0)) fun s1 =>
    C21 x0_asked s1 h2 fun n1 b1 h3 =>
    xS (cell h3 (bk b0)) fun s2 =>
    C44 s2 h3 fun b2 h4 =>
    bif (!b2) then
      N23_j1 x0_asked x1_answer x2_most x9_b x10_w (some (bk b0)) n1 x17 x18 x19 true h4
        (fun n2 n3 h5 =>
          Φ n2 n3 (IntKind.wrap .i64 (x19 + 1)) h5)
        (fun n4 n5 n6 h6 =>
          K_ret n4 n5 n6 h6)
    else
      bif (!b1) then
        N23_j1 x0_asked x1_answer x2_most x9_b x10_w (some (bk b0)) n1 x17 x18 x19 true h4
          (fun n7 n8 h7 =>
            Φ n7 n8 (IntKind.wrap .i64 (x19 + 1)) h7)
          (fun n9 n10 n11 h8 =>
            K_ret n9 n10 n11 h8)
      else
        C43 x1_answer x19 h4 fun b3 h9 =>
        bif (!b3) then
          N23_j1 x0_asked x1_answer x2_most x9_b x10_w (some (bk b0)) n1 x17 x18 x19 true h9
            (fun n12 n13 h10 =>
              Φ n12 n13 (IntKind.wrap .i64 (x19 + 1)) h10)
            (fun n14 n15 n16 h11 =>
              K_ret n14 n15 n16 h11)
        else
          xI .i64 (cell h9 ((bk b0).add 1)) fun n17 =>
          N23_j1 x0_asked x1_answer x2_most x9_b x10_w (some (bk b0)) n1 x17 x18 x19 (decide (n17 < 0)) h9
            (fun n18 n19 h12 =>
              Φ n18 n19 (IntKind.wrap .i64 (x19 + 1)) h12)
            (fun n20 n21 n22 h13 =>
              K_ret n20 n21 n22 h13)
  else
    K_e0 x9_b x10_w h
def N23_l0_B (x0_asked : Sl) (x1_answer : Sl) (x2_most : Int) (x17 : Sl) (x18 : Int) (K_e0 : Int → Int → Hp → Prop) (K_ret : Int → Int → Int → Hp → Prop) (s : Sg.T [(9, .c (.int .i64)), (10, .c (.int .i64)), (19, .c (.int .i64))]) (h : Hp) (Φ : Sg.T [(9, .c (.int .i64)), (10, .c (.int .i64)), (19, .c (.int .i64))] → Hp → Prop) : Prop :=
  N23_l0_b x0_asked x1_answer x2_most x17 x18 (fun x9_b x10_w x19 h => Φ (x9_b, x10_w, x19) h) s.1 s.2.1 s.2.2 h K_e0 K_ret
def N23_l0 (x0_asked : Sl) (x1_answer : Sl) (x2_most : Int) (x17 : Sl) (x18 : Int) (x9_b : Int) (x10_w : Int) (x19 : Int) (h : Hp) (K_e0 : Int → Int → Hp → Prop) (K_ret : Int → Int → Int → Hp → Prop) : Prop :=
  loopP (N23_l0_B x0_asked x1_answer x2_most x17 x18 K_e0 K_ret) (x9_b, x10_w, x19) h
noncomputable def N23_l0_t : Xf := loopT [(0, .c (.slice)), (1, .c (.slice)), (2, .c (.int .i64)), (17, .c (.slice)), (18, .c (.int .i64))] [(9, .c (.int .i64)), (10, .c (.int .i64)), (19, .c (.int .i64))] (codeAt B23 [1, 1, 0, 1, 0, 0]) fun F Q => N23_l0_B F.1 F.2.1 F.2.2.1 F.2.2.2.1 F.2.2.2.2 (fun o0 o1 h' => Q (.exit 0) (Sg.env [(9, .c (.int .i64)), (10, .c (.int .i64))] (o0, o1)) h') (fun o0 o1 o2 h' => Q .ret (Sg.env [(6, .c (.int .i64)), (7, .c (.int .i64)), (8, .c (.int .i64))] (o0, o1, o2)) h')
theorem N23_l0_ok : Sound Tryd.prog Tryd.f23.ntmps N23_l0_t (codeAt B23 [1, 1, 0, 1, 0]) := by
  refine loop_sound (fun e => match e with | .exit 0 => [9, 10] | .ret => [6, 7, 8] | _ => []) (by kernel_rfl) ?_
  intro F Q s h Φ hb
  refine den_sound hE hm _ (.two .leaf (.two .leaf (.two (.one (.two .leaf (.two .leaf (.one (.two .leaf (.xf N23_j1_t)))))) .leaf))) _ _ _ (⟨annOk_leaf, ⟨annOk_leaf, ⟨⟨annOk_leaf, ⟨annOk_leaf, ⟨annOk_leaf, N23_j1_ok⟩⟩⟩, annOk_leaf⟩⟩⟩) ?_
  refine cast ?_ hb
  kernel_rfl
def N23_j4 (x9_b : Int) (x10_w : Int) (x104 : Bool) (h : Hp) (K_normal : Hp → Prop) (K_ret : Int → Int → Int → Hp → Prop) : Prop :=
  bif x104 then
    K_ret 0 0 2 h
  else
    K_normal h
noncomputable def N23_j4_t : Xf := pieceT [(9, .c (.int .i64)), (10, .c (.int .i64)), (104, .c (.bool))] (codeAt B23 [1, 1, 1, 0, 1, 1]) fun x h Q => N23_j4 x.1 x.2.1 x.2.2 h (fun h' => Q .normal (Sg.env [] ()) h') (fun o0 o1 o2 h' => Q .ret (Sg.env [(6, .c (.int .i64)), (7, .c (.int .i64)), (8, .c (.int .i64))] (o0, o1, o2)) h')
theorem N23_j4_ok : Sound Tryd.prog Tryd.f23.ntmps N23_j4_t (codeAt B23 [1, 1, 1, 0, 1, 1]) := by
  refine piece_sound (fun e => match e with | .normal => [] | .ret => [6, 7, 8] | _ => []) ?_
  intro x h Q hb
  refine den_sound hE hm _ .leaf _ _ _ (annOk_leaf) ?_
  refine cast ?_ hb
  kernel_rfl
def N23 (x0 : Sl) (x1 : Sl) (x2 : Int) (h : Hp) (K : Int → Int → Int → Hp → Prop) : Prop :=
  N23_l0 x0 x1 x2 x1 ((x1.n : Nat) : Int) 512 1 0 h
    (fun n0 n1 h0 =>
      C21 x1 (⟨⟨[116, 115, 105, 122, 101]⟩⟩ : ByteArray) h0 fun n2 b0 h1 =>
      bif b0 then
        N23_j4 n0 n1 (decide (n2 > x2)) h1
          (fun h2 =>
            K n0 n1 0 h2)
          (fun n3 n4 n5 h3 =>
            K n3 n4 n5 h3)
      else
        N23_j4 n0 n1 false h1
          (fun h4 =>
            K n0 n1 0 h4)
          (fun n6 n7 n8 h5 =>
            K n6 n7 n8 h5))
    (fun n9 n10 n11 h6 =>
      K n9 n10 n11 h6)
theorem S23 {x0 : Sl} {x1 : Sl} {x2 : Int} {h : Hp} {K : Int → Int → Int → Hp → Prop} (hn : N23 x0 x1 x2 h K) : C23 x0 x1 x2 h K := by
  refine calls_of_D Tryd.func23 (c := B23) rfl (by kernel_rfl) ?_
  refine den_sound hE hm _ (.two .leaf (.two .leaf (.two (.two .leaf (.one (.xf N23_l0_t))) (.two (.two .leaf (.two .leaf (.xf N23_j4_t))) .leaf)))) _ _ _ (⟨annOk_leaf, ⟨annOk_leaf, ⟨⟨annOk_leaf, N23_l0_ok⟩, ⟨⟨annOk_leaf, ⟨annOk_leaf, N23_j4_ok⟩⟩, annOk_leaf⟩⟩⟩⟩) ?_
  refine cast ?_ hn
  kernel_rfl
end Go.Proofs.YtedklcmdjoojfaaDoor

set_option linter.unusedVariables false
set_option maxRecDepth 100000
namespace Go.Proofs.YtedklcmdjoojfaaDoor
open Go Go.Hw
end Go.Proofs.YtedklcmdjoojfaaDoor

/-
  What a client accepts.
-/
set_option linter.unusedSimpArgs false
set_option linter.unusedVariables false
namespace Go.Proofs.YtedklcmdjoojfaaDoor
open Go Go.Hw
def ac1 (asked pre : List Opt) (o : Opt) (b w : Int) : Option (Int × Int) :=
  bif known o.1 && ((wantL asked o.1).2 && (freshO pre o.1 && !decide (o.2 < 0))) then
    bif (o.1.data.toList == blkS) then (bif decide (o.2 < 8) || decide (o.2 > (wantL asked o.1).1) then none else some (o.2, w))
    else bif (o.1.data.toList == winS) then (bif decide (o.2 < 1) || decide (o.2 > (wantL asked o.1).1) then none else some (b, o.2))
    else some (b, w)
  else none
def acL (asked : List Opt) : List Opt → List Opt → Int → Int → Option (Int × Int)
  | _, [], b, w => some (b, w)
  | pre, o :: r, b, w => match ac1 asked pre o b w with
    | none => none
    | some p => acL asked (pre ++ [o]) r p.1 p.2
def acE (answer : List Opt) (most : Int) : Option (Int × Int) → Int × Int × Int
  | none => (0, 0, 172)
  | some (b, w) => bif (wantL answer ⟨⟨[116, 115, 105, 122, 101]⟩⟩).2 && decide ((wantL answer ⟨⟨[116, 115, 105, 122, 101]⟩⟩).1 > most) then (0, 0, 2) else (b, w, 0)
def acO (asked answer : List Opt) (most : Int) : Int × Int × Int := acE answer most (acL asked [] answer 512 1)
theorem acL_step {asked os : List Opt} {i : Nat} (hi : i < os.length) (b w : Int) : acL asked (os.take i) (os.drop i) b w = match ac1 asked (os.take i) os[i] b w with
    | none => none
    | some p => acL asked (os.take (i + 1)) (os.drop (i + 1)) p.1 p.2 := by
  rw [List.drop_eq_getElem_cons hi, acL, List.take_append_getElem hi]
set_option maxHeartbeats 1000000 in
theorem c_accept {s t : Sl} {asked os : List Opt} {most : Int} {h : Hp} {K : Int → Int → Int → Hp → Prop} (A : RdO h s asked) (H : RdO h t os) (hla : asked.length ≤ 5864062014635) (hl : os.length ≤ 5864062014635)
    (hK : ∀ h', Ext none' h h' → K (acO asked os most).1 (acO asked os most).2.1 (acO asked os most).2.2 h') : C23 s t most h K := by
  apply S23; unfold N23 N23_l0
  have hn := H.n
  refine loopP_inv (fun (x : Int × Int × Int) hc => Ext none' h hc ∧ ∃ (i : Nat), x.2.2 = i ∧ i ≤ os.length ∧ acL asked [] os 512 1 = acL asked (os.take i) (os.drop i) x.1 x.2.1) (fun x _ => os.length - x.2.2.toNat) ?_
    ⟨Ext.refl, 0, rfl, Nat.zero_le _, rfl⟩
  rintro ⟨b, w, x⟩ hc ⟨he, i, hx, hi, hr⟩
  simp only at hx hr
  subst hx
  unfold N23_l0_B N23_l0_b
  dsimp only
  have H1 := H.ext he
  by_cases hlt : i < os.length
  · have : decide ((i : Int) < ((t.n : Nat) : Int)) = true := decide_eq_true (by omega)
    rw [this, cond_true]
    rw [acL_step hlt] at hr
    refine H1.at rfl hlt ?_
    intro a _ hs0 hv0
    rw [hs0, xS_some, hv0, xI_some]
    have hs : Sat ([] ++ [Hw.was h]) hc := Sat.start.ext he
    refine rng_sat hs ?_
    intro b0 h2 hs
    generalize hO : os[i] = o at hr hs ⊢
    have hO' : os[i].1 = o.1 := by rw [hO]
    obtain ⟨nm, v⟩ := o
    have hs : Sat ([] ++ [Hw.was h, row b0 56 [.string nm, .int .i64 v]]) h2 := hs
    refine hs.lS 1 rfl rfl ?_
    refine c_want (A.ext (hs.was 0 rfl)) (by omega) ?_
    intro h3 e3
    have hs := hs.ext e3
    refine hs.lS 1 rfl rfl ?_
    have bad : ∀ (h' : Hp), acL asked [] os 512 1 = none → Ext none' h h' → K 0 0 172 h' := by
      intro h' g1 g2
      have := hK h' g2
      unfold acO at this
      rw [g1] at this
      exact this
    have next : ∀ (b' w' : Int) (h' : Hp), acL asked [] os 512 1 = acL asked (os.take (i + 1)) (os.drop (i + 1)) b' w' → Ext none' h h' →
        (Ext none' h h' ∧ ∃ (j : Nat), IntKind.wrap .i64 ((i : Int) + 1) = j ∧ j ≤ os.length ∧ acL asked [] os 512 1 = acL asked (os.take j) (os.drop j) b' w') ∧ os.length - (IntKind.wrap .i64 ((i : Int) + 1)).toNat < os.length - ((i : Nat) : Int).toNat := by
      intro b' w' h' g1 g2
      rw [nat_succ64 (by omega)]
      exact ⟨⟨g2, i + 1, rfl, hlt, g1⟩, by simp only [Int.toNat_natCast]; omega⟩
    refine c_known ?_
    unfold ac1 at hr
    simp only [blkS, winS, tsiS] at hr
    have ext : ∀ {h' : Hp}, Sat ([] ++ [Hw.was h, row b0 56 [.string nm, .int .i64 v]]) h' → Ext none' h h' := fun g => g.was 0 rfl
    cases hk : known nm with
    | false =>
      rw [hk, Bool.false_and, cond_false] at hr
      simp only [Bool.not_false, cond_true]
      unfold N23_j1
      rw [cond_true]
      exact bad h3 hr (ext hs)
    | true =>
    rw [hk, Bool.true_and] at hr
    simp only [Bool.not_true, cond_false]
    cases hw : (wantL asked nm).2 with
    | false =>
      rw [hw, Bool.false_and, cond_false] at hr
      simp only [Bool.not_false, cond_true]
      unfold N23_j1
      rw [cond_true]
      exact bad h3 hr (ext hs)
    | true =>
    rw [hw, Bool.true_and] at hr
    simp only [Bool.not_true, cond_false]
    refine c_first (H.ext (ext hs)) (by omega) rfl hlt ?_
    intro h4 e4
    have hs := hs.ext e4
    rw [hO']
    cases hf : freshO (os.take i) nm with
    | false =>
      rw [hf, Bool.false_and, cond_false] at hr
      simp only [Bool.not_false, cond_true]
      unfold N23_j1
      rw [cond_true]
      exact bad h4 hr (ext hs)
    | true =>
    rw [hf, Bool.true_and] at hr
    simp only [Bool.not_true, cond_false, add_bk]
    refine hs.lI 1 rfl rfl ?_
    unfold N23_j1
    cases hv : decide (v < 0) with
    | true =>
      rw [hv, Bool.not_true, cond_false] at hr
      rw [cond_true]
      exact bad h4 hr (ext hs)
    | false =>
    rw [hv, Bool.not_false, cond_true] at hr
    rw [cond_false]
    simp only [nn_some', add_bk]
    refine hs.lS 1 rfl rfl ?_
    simp only [ba_list]
    cases eb : (nm.data.toList == [98, 108, 107, 115, 105, 122, 101])
    case' true =>
      rw [eb, cond_true] at hr
      have ew : (nm.data.toList == [119, 105, 110, 100, 111, 119, 115, 105, 122, 101]) = false := by
        rw [eq_of_beq eb]; rfl
      rw [cond_true]
      refine hs.lI 1 rfl rfl ?_
      cases h8 : decide (v < 8)
      case' true =>
        rw [h8, Bool.true_or, cond_true] at hr
        rw [cond_true]
        unfold N23_j2
        rw [cond_true]
        exact bad h4 hr (ext hs)
      case' false =>
        rw [h8, Bool.false_or] at hr
        rw [cond_false]
        refine hs.lI 1 rfl rfl ?_
        cases h9 : decide (v > (wantL asked nm).1)
        case' true =>
          rw [h9, cond_true] at hr
          unfold N23_j2
          rw [cond_true]
          exact bad h4 hr (ext hs)
        case' false =>
          rw [h9, cond_false] at hr
          unfold N23_j2
          rw [cond_false]
          simp only [nn_some', add_bk]
          refine hs.lS 1 rfl rfl ?_
          simp only [ba_list]
          rw [ew, cond_false]
          unfold N23_j3
          rw [cond_false]
          simp only [nn_some', add_bk]
          refine hs.lS 1 rfl rfl ?_
          simp only [ba_list]
          rw [eb, cond_true]
          refine hs.lI 1 rfl rfl ?_
          exact next _ _ h4 hr (ext hs)
    case' false =>
      rw [eb, cond_false] at hr
      rw [cond_false]
      unfold N23_j2
      rw [cond_false]
      simp only [nn_some', add_bk]
      refine hs.lS 1 rfl rfl ?_
      simp only [ba_list]
      cases ew : (nm.data.toList == [119, 105, 110, 100, 111, 119, 115, 105, 122, 101])
      case' true =>
        rw [ew, cond_true] at hr
        rw [cond_true]
        refine hs.lI 1 rfl rfl ?_
        cases h8 : decide (v < 1)
        case' true =>
          rw [h8, Bool.true_or, cond_true] at hr
          rw [cond_true]
          unfold N23_j3
          rw [cond_true]
          exact bad h4 hr (ext hs)
        case' false =>
          rw [h8, Bool.false_or] at hr
          rw [cond_false]
          refine hs.lI 1 rfl rfl ?_
          cases h9 : decide (v > (wantL asked nm).1)
          case' true =>
            rw [h9, cond_true] at hr
            unfold N23_j3
            rw [cond_true]
            exact bad h4 hr (ext hs)
          case' false =>
            rw [h9, cond_false] at hr
            unfold N23_j3
            rw [cond_false]
            simp only [nn_some', add_bk]
            refine hs.lS 1 rfl rfl ?_
            try simp only [ba_list]
            rw [eb, cond_false]
            refine hs.lS 1 rfl rfl ?_
            try simp only [ba_list]
            rw [ew, cond_true]
            refine hs.lI 1 rfl rfl ?_
            exact next _ _ h4 hr (ext hs)
      case' false =>
        rw [ew, cond_false] at hr
        rw [cond_false]
        unfold N23_j3
        rw [cond_false]
        simp only [nn_some', add_bk]
        refine hs.lS 1 rfl rfl ?_
        try simp only [ba_list]
        rw [eb, cond_false]
        refine hs.lS 1 rfl rfl ?_
        try simp only [ba_list]
        rw [ew, cond_false]
        exact next _ _ h4 hr (ext hs)
  · have : decide ((i : Int) < ((t.n : Nat) : Int)) = false := decide_eq_false (by omega)
    rw [this, cond_false]
    rw [List.drop_of_length_le (by omega)] at hr
    refine c_want H1 (by omega) ?_
    intro h2 e2
    have hk := hK h2 (he.trans e2)
    unfold acO at hk
    rw [hr] at hk
    simp only [acL, acE] at hk
    unfold N23_j4
    cases ht : (wantL os ⟨⟨[116, 115, 105, 122, 101]⟩⟩).2 with
    | false =>
      rw [ht, Bool.false_and, cond_false] at hk
      rw [cond_false, cond_false]
      exact hk
    | true =>
      rw [ht, Bool.true_and] at hk
      rw [cond_true]
      cases hm : decide ((wantL os ⟨⟨[116, 115, 105, 122, 101]⟩⟩).1 > most) with
      | true => rw [hm, cond_true] at hk; rw [cond_true]; exact hk
      | false => rw [hm, cond_false] at hk; rw [cond_false]; exact hk
end Go.Proofs.YtedklcmdjoojfaaDoor

set_option linter.unusedVariables false
set_option maxRecDepth 100000
namespace Go.Proofs.YtedklcmdjoojfaaDoor
open Go Go.Hw
noncomputable def B38 : Code := match Tryd.f38.body with | some c => c | none => .skip
def N38 (x0 : Option Addr) (h : Hp) (K : Int → Int → Hp → Prop) : Prop :=
  nn x0 fun a0 =>
  xL (cell h a0) fun s0 =>
  C56 s0 0 2 h fun n0 n1 h0 =>
  bif (n1 != 0) then
    K 0 5 h0
  else
    nn x0 fun a1 =>
    xL (cell h0 a1) fun s1 =>
    bd 2 s1.n fun k0 =>
    nn x0 fun a2 =>
    st h0 a2 (.slice (sadr s1.p s1.c k0 1) (s1.n - k0) (s1.c - k0)) fun h1 =>
    K (IntKind.wrap .i64 n0) 0 h1
theorem S38 {x0 : Option Addr} {h : Hp} {K : Int → Int → Hp → Prop} (hn : N38 x0 h K) : C38 x0 h K := by
  refine calls_of_D Tryd.func38 (c := B38) rfl (by kernel_rfl) ?_
  refine den_sound hE hm _ .leaf _ _ _ (annOk_leaf) ?_
  refine cast ?_ hn
  kernel_rfl
end Go.Proofs.YtedklcmdjoojfaaDoor

set_option linter.unusedVariables false
set_option maxRecDepth 100000
namespace Go.Proofs.YtedklcmdjoojfaaDoor
open Go Go.Hw
noncomputable def B57 : Code := match Tryd.f57.body with | some c => c | none => .skip
def N57 (x0 : Option Addr) (h : Hp) (K : ByteArray → Int → Hp → Prop) : Prop :=
  C60 x0 h fun s0 n0 h0 =>
  bif (n0 != 0) then
    K (⟨⟨[]⟩⟩ : ByteArray) n0 h0
  else
    C48 s0 h0 fun b0 h1 =>
    bif (!b0) then
      K (⟨⟨[]⟩⟩ : ByteArray) 171 h1
    else
      C60 x0 h1 fun s1 n1 h2 =>
      bif (n1 != 0) then
        K (⟨⟨[]⟩⟩ : ByteArray) n1 h2
      else
        C65 s1 h2 fun s2 h3 =>
        bif (!(s2.toList == (⟨⟨[111, 99, 116, 101, 116]⟩⟩ : ByteArray).toList)) then
          K (⟨⟨[]⟩⟩ : ByteArray) 171 h3
        else
          K s0 0 h3
theorem S57 {x0 : Option Addr} {h : Hp} {K : ByteArray → Int → Hp → Prop} (hn : N57 x0 h K) : C57 x0 h K := by
  refine calls_of_D Tryd.func57 (c := B57) rfl (by kernel_rfl) ?_
  refine den_sound hE hm _ .leaf _ _ _ (annOk_leaf) ?_
  refine cast ?_ hn
  kernel_rfl
end Go.Proofs.YtedklcmdjoojfaaDoor

set_option linter.unusedVariables false
set_option maxRecDepth 100000
namespace Go.Proofs.YtedklcmdjoojfaaDoor
open Go Go.Hw
noncomputable def B39 : Code := match Tryd.f39.body with | some c => c | none => .skip
def N39_j0 (x0_r : Option Addr) (x1_p : Option Addr) (x5_e : Int) (h : Hp) (K_normal : Hp → Prop) : Prop :=
  bif (x5_e == 0) then
    nn x0_r fun a0 =>
    xL (cell h a0) fun s0 =>
    C59 s0 h fun s1 h0 =>
    nn x1_p fun a1 =>
    st h0 (a1.add 5) (.slice s1.p s1.n s1.c) fun h1 =>
    K_normal h1
  else
    K_normal h
noncomputable def N39_j0_t : Xf := pieceT [(0, .c (.ptr)), (1, .c (.ptr)), (5, .c (.int .i64))] (codeAt B39 [1, 1, 0, 1, 0, 1, 1, 1, 1, 1, 1, 1, 0, 1, 1]) fun x h Q => N39_j0 x.1 x.2.1 x.2.2 h (fun h' => Q .normal (Sg.env [] ()) h')
theorem N39_j0_ok : Sound Tryd.prog Tryd.f39.ntmps N39_j0_t (codeAt B39 [1, 1, 0, 1, 0, 1, 1, 1, 1, 1, 1, 1, 0, 1, 1]) := by
  refine piece_sound (fun e => match e with | .normal => [] | _ => []) ?_
  intro x h Q hb
  refine den_sound hE hm _ .leaf _ _ _ (annOk_leaf) ?_
  refine cast ?_ hb
  kernel_rfl
def N39_j1 (x1_p : Option Addr) (x5_e : Int) (h : Hp) (K_normal : Int → Hp → Prop) : Prop :=
  bif (x5_e == 0) then
    nn x1_p fun a0 =>
    xS (cell h (a0.add 7)) fun s0 =>
    bif (decide ((s0.size : Int) > 255)) then
      K_normal 2 h
    else
      K_normal x5_e h
  else
    K_normal x5_e h
noncomputable def N39_j1_t : Xf := pieceT [(1, .c (.ptr)), (5, .c (.int .i64))] (codeAt B39 [1, 1, 0, 1, 0, 1, 1, 1, 1, 1, 1, 1, 1, 1, 0, 1]) fun x h Q => N39_j1 x.1 x.2 h (fun o0 h' => Q .normal (Sg.env [(5, .c (.int .i64))] o0) h')
theorem N39_j1_ok : Sound Tryd.prog Tryd.f39.ntmps N39_j1_t (codeAt B39 [1, 1, 0, 1, 0, 1, 1, 1, 1, 1, 1, 1, 1, 1, 0, 1]) := by
  refine piece_sound (fun e => match e with | .normal => [5] | _ => []) ?_
  intro x h Q hb
  refine den_sound hE hm _ .leaf _ _ _ (annOk_leaf) ?_
  refine cast ?_ hb
  kernel_rfl
def N39 (x0 : Option Addr) (x1 : Option Addr) (h : Hp) (K : Int → Hp → Prop) : Prop :=
  nn x1 fun a0 =>
  xI .i64 (cell h a0) fun n0 =>
  bif (n0 == 1) then
    nn x1 fun a1 =>
    st h (a1.add 2) (.string (⟨⟨[111, 99, 116, 101, 116]⟩⟩ : ByteArray)) fun h0 =>
    C57 x0 h0 fun s0 n1 h1 =>
    nn x1 fun a2 =>
    st h1 (a2.add 1) (.string s0) fun h2 =>
    bif (n1 == 0) then
      C58 x0 h2 fun s1 n2 h3 =>
      nn x1 fun a3 =>
      st h3 (a3.add 3) (.slice s1.p s1.n s1.c) fun h4 =>
      K n2 h4
    else
      K n1 h2
  else
    bif (n0 == 6) then
      C58 x0 h fun s2 n3 h5 =>
      nn x1 fun a4 =>
      st h5 (a4.add 3) (.slice s2.p s2.n s2.c) fun h6 =>
      K n3 h6
    else
      bif (n0 == 4) then
        C38 x0 h fun n4 n5 h7 =>
        nn x1 fun a5 =>
        st h7 (a5.add 4) (.int .i64 n4) fun h8 =>
        K n5 h8
      else
        bif (n0 == 3) then
          C38 x0 h fun n6 n7 h9 =>
          nn x1 fun a6 =>
          st h9 (a6.add 4) (.int .i64 n6) fun h10 =>
          bif (n7 == 0) then
            nn x0 fun a7 =>
            xL (cell h10 a7) fun s3 =>
            bif (decide (((s3.n : Nat) : Int) > 65464)) then
              N39_j0 x0 x1 2 h10
                (fun h11 =>
                  K 2 h11)
            else
              N39_j0 x0 x1 n7 h10
                (fun h12 =>
                  K n7 h12)
          else
            N39_j0 x0 x1 n7 h10
              (fun h13 =>
                K n7 h13)
        else
          bif (n0 == 5) then
            C38 x0 h fun n8 n9 h14 =>
            nn x1 fun a8 =>
            st h14 (a8.add 6) (.int .i64 n8) fun h15 =>
            bif (n9 == 0) then
              C60 x0 h15 fun s4 n10 h16 =>
              nn x1 fun a9 =>
              st h16 (a9.add 7) (.string s4) fun h17 =>
              N39_j1 x1 n10 h17
                (fun n11 h18 =>
                  K n11 h18)
            else
              N39_j1 x1 n9 h15
                (fun n12 h19 =>
                  K n12 h19)
          else
            K 170 h
theorem S39 {x0 : Option Addr} {x1 : Option Addr} {h : Hp} {K : Int → Hp → Prop} (hn : N39 x0 x1 h K) : C39 x0 x1 h K := by
  refine calls_of_D Tryd.func39 (c := B39) rfl (by kernel_rfl) ?_
  refine den_sound hE hm _ (.two .leaf (.two .leaf (.two (.two .leaf (.one (.two .leaf (.two .leaf (.two .leaf (.two .leaf (.two .leaf (.two .leaf (.two .leaf (.two (.two .leaf (.two .leaf (.xf N39_j0_t))) (.two .leaf (.two (.two .leaf (.xf N39_j1_t)) .leaf)))))))))))) .leaf))) _ _ _ (⟨annOk_leaf, ⟨annOk_leaf, ⟨⟨annOk_leaf, ⟨annOk_leaf, ⟨annOk_leaf, ⟨annOk_leaf, ⟨annOk_leaf, ⟨annOk_leaf, ⟨annOk_leaf, ⟨annOk_leaf, ⟨⟨annOk_leaf, ⟨annOk_leaf, N39_j0_ok⟩⟩, ⟨annOk_leaf, ⟨⟨annOk_leaf, N39_j1_ok⟩, annOk_leaf⟩⟩⟩⟩⟩⟩⟩⟩⟩⟩⟩, annOk_leaf⟩⟩⟩) ?_
  refine cast ?_ hn
  kernel_rfl
end Go.Proofs.YtedklcmdjoojfaaDoor

set_option linter.unusedVariables false
set_option maxRecDepth 100000
namespace Go.Proofs.YtedklcmdjoojfaaDoor
open Go Go.Hw
noncomputable def B17 : Code := match Tryd.f17.body with | some c => c | none => .skip
def N17_j0 (x2 : Option Addr) (x6_e : Int) (x7_p : Option Addr) (h : Hp) (K_ret : Int → Hp → Prop) : Prop :=
  bif (x6_e != 0) then
    nn x2 fun a0 =>
    st h a0 (.int .i64 0) fun h0 =>
    st h0 (a0.add 1) (.string (⟨⟨[]⟩⟩ : ByteArray)) fun h1 =>
    st h1 (a0.add 2) (.string (⟨⟨[]⟩⟩ : ByteArray)) fun h2 =>
    st h2 (a0.add 3) (.slice none 0 0) fun h3 =>
    st h3 (a0.add 4) (.int .i64 0) fun h4 =>
    st h4 (a0.add 5) (.slice none 0 0) fun h5 =>
    st h5 (a0.add 6) (.int .i64 0) fun h6 =>
    st h6 (a0.add 7) (.string (⟨⟨[]⟩⟩ : ByteArray)) fun h7 =>
    K_ret x6_e h7
  else
    nn x7_p fun a1 =>
    xI .i64 (cell h a1) fun n0 =>
    xS (cell h (a1.add 1)) fun s0 =>
    xS (cell h (a1.add 2)) fun s1 =>
    xL (cell h (a1.add 3)) fun s2 =>
    xI .i64 (cell h (a1.add 4)) fun n1 =>
    xL (cell h (a1.add 5)) fun s3 =>
    xI .i64 (cell h (a1.add 6)) fun n2 =>
    xS (cell h (a1.add 7)) fun s4 =>
    nn x2 fun a2 =>
    st h a2 (.int .i64 n0) fun h8 =>
    st h8 (a2.add 1) (.string s0) fun h9 =>
    st h9 (a2.add 2) (.string s1) fun h10 =>
    st h10 (a2.add 3) (.slice s2.p s2.n s2.c) fun h11 =>
    st h11 (a2.add 4) (.int .i64 n1) fun h12 =>
    st h12 (a2.add 5) (.slice s3.p s3.n s3.c) fun h13 =>
    st h13 (a2.add 6) (.int .i64 n2) fun h14 =>
    st h14 (a2.add 7) (.string s4) fun h15 =>
    K_ret 0 h15
noncomputable def N17_j0_t : Xf := pieceT [(2, .c (.ptr)), (6, .c (.int .i64)), (7, .c (.ptr))] (codeAt B17 [1, 1, 1, 1, 1]) fun x h Q => N17_j0 x.1 x.2.1 x.2.2 h (fun o0 h' => Q .ret (Sg.env [(3, .c (.int .i64))] o0) h')
theorem N17_j0_ok : Sound Tryd.prog Tryd.f17.ntmps N17_j0_t (codeAt B17 [1, 1, 1, 1, 1]) := by
  refine piece_sound (fun e => match e with | .ret => [3] | _ => []) ?_
  intro x h Q hb
  refine den_sound hE hm _ .leaf _ _ _ (annOk_leaf) ?_
  refine cast ?_ hb
  kernel_rfl
def N17 (x0 : Sl) (h : Hp) (K : Int → ByteArray → ByteArray → Sl → Int → Sl → Int → ByteArray → Int → Hp → Prop) : Prop :=
  nw h (.cells ⟨[.int .i64 0, .string (⟨⟨[]⟩⟩ : ByteArray), .string (⟨⟨[]⟩⟩ : ByteArray), .slice none 0 0, .int .i64 0, .slice none 0 0, .int .i64 0, .string (⟨⟨[]⟩⟩ : ByteArray)]⟩ 26) fun b0 h0 =>
  nw h0 (.cells ⟨[.slice x0.p x0.n x0.c]⟩ 65) fun b1 h1 =>
  C38 (some (bk b1)) h1 fun n0 n1 h2 =>
  nw h2 (.cells ⟨[.int .i64 0, .string (⟨⟨[]⟩⟩ : ByteArray), .string (⟨⟨[]⟩⟩ : ByteArray), .slice none 0 0, .int .i64 0, .slice none 0 0, .int .i64 0, .string (⟨⟨[]⟩⟩ : ByteArray)]⟩ 26) fun b2 h3 =>
  st h3 (bk b2) (.int .i64 n0) fun h4 =>
  st h4 ((bk b2).add 1) (.string (⟨⟨[]⟩⟩ : ByteArray)) fun h5 =>
  st h5 ((bk b2).add 2) (.string (⟨⟨[]⟩⟩ : ByteArray)) fun h6 =>
  st h6 ((bk b2).add 3) (.slice none 0 0) fun h7 =>
  st h7 ((bk b2).add 4) (.int .i64 0) fun h8 =>
  st h8 ((bk b2).add 5) (.slice none 0 0) fun h9 =>
  st h9 ((bk b2).add 6) (.int .i64 0) fun h10 =>
  st h10 ((bk b2).add 7) (.string (⟨⟨[]⟩⟩ : ByteArray)) fun h11 =>
  bif (n1 == 0) then
    C39 (some (bk b1)) (some (bk b2)) h11 fun n2 h12 =>
    N17_j0 (some (bk b0)) n2 (some (bk b2)) h12
      (fun n3 h13 =>
        xI .i64 (cell h13 (bk b0)) fun n4 =>
        xS (cell h13 ((bk b0).add 1)) fun s0 =>
        xS (cell h13 ((bk b0).add 2)) fun s1 =>
        xL (cell h13 ((bk b0).add 3)) fun s2 =>
        xI .i64 (cell h13 ((bk b0).add 4)) fun n5 =>
        xL (cell h13 ((bk b0).add 5)) fun s3 =>
        xI .i64 (cell h13 ((bk b0).add 6)) fun n6 =>
        xS (cell h13 ((bk b0).add 7)) fun s4 =>
        K n4 s0 s1 s2 n5 s3 n6 s4 n3 h13)
  else
    N17_j0 (some (bk b0)) n1 (some (bk b2)) h11
      (fun n7 h14 =>
        xI .i64 (cell h14 (bk b0)) fun n8 =>
        xS (cell h14 ((bk b0).add 1)) fun s5 =>
        xS (cell h14 ((bk b0).add 2)) fun s6 =>
        xL (cell h14 ((bk b0).add 3)) fun s7 =>
        xI .i64 (cell h14 ((bk b0).add 4)) fun n9 =>
        xL (cell h14 ((bk b0).add 5)) fun s8 =>
        xI .i64 (cell h14 ((bk b0).add 6)) fun n10 =>
        xS (cell h14 ((bk b0).add 7)) fun s9 =>
        K n8 s5 s6 s7 n9 s8 n10 s9 n7 h14)
theorem S17 {x0 : Sl} {h : Hp} {K : Int → ByteArray → ByteArray → Sl → Int → Sl → Int → ByteArray → Int → Hp → Prop} (hn : N17 x0 h K) : C17 x0 h K := by
  refine calls_of_M Tryd.func17 (c := B17) rfl (by kernel_rfl) ?_
  refine den_sound hE hm _ (.two .leaf (.two .leaf (.two .leaf (.two .leaf (.two .leaf (.xf N17_j0_t)))))) _ _ _ (⟨annOk_leaf, ⟨annOk_leaf, ⟨annOk_leaf, ⟨annOk_leaf, ⟨annOk_leaf, N17_j0_ok⟩⟩⟩⟩⟩) ?_
  refine cast ?_ hn
  kernel_rfl
end Go.Proofs.YtedklcmdjoojfaaDoor

set_option linter.unusedVariables false
set_option maxRecDepth 100000
namespace Go.Proofs.YtedklcmdjoojfaaDoor
open Go Go.Hw
noncomputable def B59 : Code := match Tryd.f59.body with | some c => c | none => .skip
def N59 (x0 : Sl) (h : Hp) (K : Sl → Hp → Prop) : Prop :=
  bif x0.p.isNone then
    K ⟨none, 0, 0⟩ h
  else
    nw h (.cells ⟨[]⟩ 5) fun b0 h0 =>
    apK Tryd.prog 5 ⟨some (bk b0), 0, 0⟩ (.slice x0.p x0.n x0.c) h0 fun s0 h1 =>
    K s0 h1
theorem S59 {x0 : Sl} {h : Hp} {K : Sl → Hp → Prop} (hn : N59 x0 h K) : C59 x0 h K := by
  refine calls_of_D Tryd.func59 (c := B59) rfl (by kernel_rfl) ?_
  refine den_sound hE hm _ .leaf _ _ _ (annOk_leaf) ?_
  refine cast ?_ hn
  kernel_rfl
end Go.Proofs.YtedklcmdjoojfaaDoor

/-
  A packet that is read: what bytes say (decL), and that the program reads it so.
-/
set_option linter.unusedSimpArgs false
set_option linter.unusedVariables false
namespace Go.Proofs.YtedklcmdjoojfaaDoor
open Go Go.Hw
structure Dec where
  op : Int
  file : ByteArray
  mode : ByteArray
  os : List Opt
  block : Int
  data : List UInt8
  code : Int
  text : ByteArray
def emp : ByteArray := ⟨⟨[]⟩⟩
def octB : ByteArray := ⟨⟨[111, 99, 116, 101, 116]⟩⟩
def dec0 : Dec := ⟨0, emp, emp, [], 0, [], 0, emp⟩
def be2 (l : List UInt8) : Int := (nat256 (l.take 2) : Nat)
def fileL (l : List UInt8) : Int × ByteArray × List UInt8 := match cutL l with
  | none => (5, emp, [])
  | some p => if fileOk ⟨⟨p.1⟩⟩ = true then (match cutL p.2 with
      | none => (5, emp, [])
      | some q => if q.1.map smallB = [111, 99, 116, 101, 116] then (0, ⟨⟨p.1⟩⟩, q.2) else (171, emp, []))
    else (171, emp, [])
def decF (op : Int) (r : List UInt8) : Int × Dec :=
  if op = 1 then (if (fileL r).1 = 0 then ((readL [] (fileL r).2.2).1, { dec0 with op := 1, file := (fileL r).2.1, mode := octB, os := (readL [] (fileL r).2.2).2 }) else ((fileL r).1, dec0))
  else if op = 6 then ((readL [] r).1, { dec0 with op := 6, os := (readL [] r).2 })
  else if op = 4 then (if r.length < 2 then (5, dec0) else (0, { dec0 with op := 4, block := be2 r }))
  else if op = 3 then (if r.length < 2 then (5, dec0) else if (r.drop 2).length > 65464 then (2, dec0) else (0, { dec0 with op := 3, block := be2 r, data := r.drop 2 }))
  else if op = 5 then (if r.length < 2 then (5, dec0) else match cutL (r.drop 2) with
    | none => (5, dec0)
    | some p => if p.1.length > 255 then (2, dec0) else (0, { dec0 with op := 5, code := be2 r, text := ⟨⟨p.1⟩⟩ }))
  else (170, dec0)
def decL (l : List UInt8) : Int × Dec := if l.length < 2 then (5, dec0) else
  if (decF (be2 l) (l.drop 2)).1 = 0 then decF (be2 l) (l.drop 2) else ((decF (be2 l) (l.drop 2)).1, dec0)
def decC (d : Dec) (so sd : Sl) : List Value := [.int .i64 d.op, .string d.file, .string d.mode, so.v, .int .i64 d.block, sd.v, .int .i64 d.code, .string d.text]
theorem be2_rng (l : List UInt8) : 0 ≤ be2 l ∧ be2 l < 65536 := by
  unfold be2
  have h1 := nat256_lt (l.take 2)
  have h2 : 256 ^ (l.take 2).length ≤ 256 ^ 2 := Nat.pow_le_pow_right (by decide) (by rw [List.length_take]; omega)
  have e : (256 : Nat) ^ 2 = 65536 := by decide
  omega
theorem c_bclone {s : Sl} {l : List UInt8} {h : Hp} {K : Sl → Hp → Prop} (hr : RdB h s l) (hl : l.length ≤ 140737488355328) (hK : ∀ s' h', NewO h h' 5 1 s' (bc l) → K s' h') : C59 s h K := by
  apply S59; unfold N59
  cases hp : s.p with
  | none =>
    have : l = [] := by
      cases l with
      | nil => rfl
      | cons x l => obtain ⟨a, ha, _⟩ := hr.get (i := 0) (by simp); rw [hp] at ha; cases ha
    subst this
    exact hK _ _ NewO.nil
  | some a =>
    simp only [Option.isNone_some, cond_false]
    intro b0 e0
    have hs0 : Sat ([] ++ [Hw.was h]) h := Sat.start
    have hs1 : Sat ([] ++ [Hw.was h, Hw.own 5 1 ⟨some (bk b0), 0, 0⟩ []]) (upd h b0 (.cells ⟨[]⟩ 5 (0, 0))) := hs0.addOwn (Ext.new e0) ⟨rfl, Nat.le_refl _, rfl, [], upd_same, rfl, rfl⟩ (fun b hb => by
      simp only [Option.some.injEq] at hb
      have : b0 = b := congrArg Addr.block hb
      subst this; exact e0)
    have hr1 := hr.ext (Ext.new (o := .cells ⟨[]⟩ 5 (0, 0)) e0)
    have hn := hr.n
    refine hs1.ap 1 rfl (n := s.n) (ns := bc l) (by kernel_rfl) (by kernel_rfl) (fun _ => rfl) ?_ (by rw [bc_len]; omega) bc_plain (by
      rw [show Tryd.prog.bytesOf 5 = 1 by kernel_rfl]; show (0 + s.n) * 2 * 1 ≤ _; omega) ?_
    · intro G hG
      rw [← hp]
      refine hr1.srcK (n := s.n) (by omega) ?_
      rw [hn, List.take_length]; exact hG
    · intro s' h' hs' _
      rw [List.nil_append] at hs'
      have hs' : Sat ([] ++ [Hw.was h, Hw.own 5 1 s' (bc l)]) h' := hs'
      exact hK s' h' (hs'.newO 0 1 rfl rfl (by decide))
theorem c_rnumber {L : List Asn} {Q : Hp → Prop} {br : Nat} {s : Sl} {l : List UInt8} {h : Hp} {K : Int → Int → Hp → Prop} (hs : Sat (L ++ [row br 65 [s.v]]) h) (hQ : ∀ h', Sat L h' → Q h') (H : ∀ h', Q h' → RdB h' s l) (hl : l.length ≤ 140737488355328)
    (hno : l.length < 2 → K 0 5 h) (hK : 2 ≤ l.length → ∀ s', (∀ h', Q h' → RdS h' s' (l.drop 2)) → ∀ h', Sat (L ++ [row br 65 [s'.v]]) h' → K (be2 l) 0 h') : C38 (some (bk br)) h K := by
  apply S38; unfold N38
  simp only [nn_some']
  refine hs.lL 0 rfl rfl ?_
  have hr := H h (hQ h hs.left)
  have hn := hr.n
  refine c_get (s := s) hr hl ?_
  by_cases h2 : l.length < 2
  · have e1 : getE l 0 2 = 5 := by unfold getE; rw [if_neg (by omega), if_pos (.inr (by omega))]
    rw [e1, show ((5 : Int) != 0) = true from rfl, cond_true]
    exact hno h2
  · have e1 : getE l 0 2 = 0 := by unfold getE; rw [if_neg (by omega), if_neg (by omega)]
    have e2 : ((getV l 0 2 : Nat) : Int) = be2 l := by
      unfold getV be2; rw [if_neg (by omega), if_neg (by omega)]
      simp
    rw [e1, show ((0 : Int) != 0) = false from rfl, cond_false, e2]
    refine hs.lL 0 rfl rfl ?_
    refine bd_nat (i := 2) (show 2 ≤ s.n by omega) ?_
    refine hs.st 0 rfl (by simp) rfl ?_
    intro h1 hs1
    obtain ⟨b1, b2⟩ := be2_rng l
    rw [wrap64 (by omega) (by omega)]
    exact hK (by omega) ⟨sadr s.p s.c 2 1, s.n - 2, s.c - 2⟩ (fun h' q => rds_tail (RdS.of (H h' q) (by intro e; rw [e] at h2; simp at h2)) (by omega)) h1 hs1
theorem c_file {L : List Asn} {Q : Hp → Prop} {br : Nat} {s : Sl} {l : List UInt8} {h : Hp} {K : ByteArray → Int → Hp → Prop} (hs : Sat (L ++ [row br 65 [s.v]]) h) (hQ : ∀ h', Sat L h' → Q h') (H : ∀ h', Q h' → RdS h' s l) (hl : l.length ≤ 140737488355000)
    (hno : (fileL l).1 ≠ 0 → ∀ h', Sat L h' → K emp (fileL l).1 h') (hK : (fileL l).1 = 0 → ∀ s', (∀ h', Q h' → RdS h' s' (fileL l).2.2) → ∀ h', Sat (L ++ [row br 65 [s'.v]]) h' → K (fileL l).2.1 0 h') : C57 (some (bk br)) h K := by
  apply S57; unfold N57
  refine c_rtext hs hQ H (by omega) ?_ ?_
  · intro hc h1 hs1
    rw [show ((5 : Int) != 0) = true from rfl, cond_true]
    have e : fileL l = (5, emp, []) := by unfold fileL; rw [hc]
    rw [e] at hno
    exact hno (by decide) h1 hs1.left
  · intro x y s1 hc H1 h1 hs1
    rw [show ((0 : Int) != 0) = false from rfl, cond_false]
    refine c_isFile ?_
    cases hf : fileOk ⟨⟨x⟩⟩ with
    | false =>
      simp only [Bool.not_false, cond_true]
      have e : fileL l = (171, emp, []) := by unfold fileL; rw [hc]; simp [hf]
      rw [e] at hno
      exact hno (by decide) h1 hs1.left
    | true =>
      simp only [Bool.not_true, cond_false]
      refine c_rtext hs1 hQ H1 (by have := cutL_len hc; omega) ?_ ?_
      · intro hc2 h2 hs2
        rw [show ((5 : Int) != 0) = true from rfl, cond_true]
        have e : fileL l = (5, emp, []) := by unfold fileL; rw [hc]; simp [hf, hc2]
        rw [e] at hno
        exact hno (by decide) h2 hs2.left
      · intro u v s2 hc2 H2 h2 hs2
        rw [show ((0 : Int) != 0) = false from rfl, cond_false]
        refine c_lower ?_
        intro h3 he3
        simp only [ba_list]
        show bif (!(u.map smallB == [111, 99, 116, 101, 116])) then _ else _
        have hs3 := hs2.ext he3
        cases hm : (u.map smallB == [111, 99, 116, 101, 116]) with
        | true =>
          have hm : u.map smallB = [111, 99, 116, 101, 116] := by simpa using hm
          simp only [Bool.not_true, cond_false]
          have e : fileL l = (0, ⟨⟨x⟩⟩, v) := by unfold fileL; rw [hc]; simp [hf, hc2, hm]
          rw [e] at hK
          exact hK rfl s2 H2 h3 hs3
        | false =>
          have hm : ¬ u.map smallB = [111, 99, 116, 101, 116] := by simpa using hm
          simp only [Bool.not_false, cond_true]
          have e : fileL l = (171, emp, []) := by unfold fileL; rw [hc]; simp [hf, hc2, hm]
          rw [e] at hno
          exact hno (by decide) h3 hs3.left
set_option maxHeartbeats 1000000 in
theorem c_fields {L : List Asn} {br bp : Nat} {s : Sl} {op : Int} {r : List UInt8} {h : Hp} {K : Int → Hp → Prop}
    (hs : Sat (L ++ [row br 65 [s.v], row bp 26 (decC { dec0 with op := op } ⟨none, 0, 0⟩ ⟨none, 0, 0⟩)]) h) (H : ∀ h', Sat L h' → RdS h' s r) (G : ∀ h', Sat L h' → Glob h') (hl : r.length ≤ 140737488355000)
    (hno : (decF op r).1 ≠ 0 → ∀ h', Sat L h' → K (decF op r).1 h') (hK : (decF op r).1 = 0 → ∀ so sd h', Sat (L ++ [row bp 26 (decC (decF op r).2 so sd), Hw.own 56 2 so ((decF op r).2.os.flatMap oc), Hw.own 5 1 sd (bc (decF op r).2.data)]) h' → K 0 h') : C39 (some (bk br)) (some (bk bp)) h K := by
  apply S39; unfold N39
  simp only [nn_some', add_bk]
  refine hs.lI 1 rfl rfl ?_
  have fin : ∀ (d : Dec) (so : Sl) (A : Asn) (h' : Hp), d.data = [] → decF op r = (0, d) → Sat (L ++ [A, row bp 26 (decC d so ⟨none, 0, 0⟩), Hw.own 56 2 so (d.os.flatMap oc)]) h' → K 0 h' := by
    intro d so A h' hd he hs'
    rw [he] at hK
    have g : Sat (L ++ [row bp 26 (decC d so ⟨none, 0, 0⟩), Hw.own 56 2 so (d.os.flatMap oc)]) h' := hs'.sel [1, 2] (by decide) rfl
    refine hK rfl so ⟨none, 0, 0⟩ h' ?_
    show Sat (L ++ [row bp 26 (decC d so ⟨none, 0, 0⟩), Hw.own 56 2 so (d.os.flatMap oc), Hw.own 5 1 ⟨none, 0, 0⟩ (bc d.data)]) h'
    rw [hd]
    exact g.addNil 5 1
  have fin0 : ∀ (d : Dec) (A : Asn) (h' : Hp), d.data = [] → d.os = [] → decF op r = (0, d) → Sat (L ++ [A, row bp 26 (decC d ⟨none, 0, 0⟩ ⟨none, 0, 0⟩)]) h' → K 0 h' := by
    intro d A h' hd ho he hs'
    refine fin d ⟨none, 0, 0⟩ A h' hd he ?_
    rw [ho]
    exact hs'.addNil 56 2
  have bad : ∀ (e : Int) (d : Dec) (h' : Hp), e ≠ 0 → decF op r = (e, d) → Sat L h' → K e h' := by
    intro e d h' he hd hs'
    rw [hd] at hno
    exact hno he h' hs'
  by_cases o1 : op = 1
  · subst o1
    rw [show ((1 : Int) == 1) = true from rfl, cond_true]
    refine hs.st 1 rfl (by simp [decC]) rfl ?_
    intro h1 hs1
    have hs1 : Sat (L ++ [row br 65 [s.v], row bp 26 (decC { dec0 with op := 1, mode := octB } ⟨none, 0, 0⟩ ⟨none, 0, 0⟩)]) h1 := hs1
    have g1 : Sat ((L ++ [row bp 26 (decC { dec0 with op := 1, mode := octB } ⟨none, 0, 0⟩ ⟨none, 0, 0⟩)]) ++ [row br 65 [s.v]]) h1 := Sat.csa (hs1.sel [1, 0] (by decide) rfl)
    refine c_file (Q := Sat L) g1 (fun h' g => g.left) H hl ?_ ?_
    · intro he h2 hs2
      refine hs2.st 0 rfl (by simp [decC]) rfl ?_
      intro h3 hs3
      rw [show ((fileL r).1 == 0) = false by simpa using he, cond_false]
      exact bad _ dec0 h3 he (by unfold decF; rw [if_pos rfl, if_neg he]) hs3.left
    · intro he s2 H2 h2 hs2
      have hs2 : Sat (L ++ [row br 65 [s2.v], row bp 26 (decC { dec0 with op := 1, mode := octB } ⟨none, 0, 0⟩ ⟨none, 0, 0⟩)]) h2 := (Sat.asc hs2).sel [1, 0] (by decide) rfl
      refine hs2.st 1 rfl (by simp [decC]) rfl ?_
      intro h3 hs3
      rw [show ((0 : Int) == 0) = true from rfl, cond_true]
      have g3 : Sat ((L ++ [row bp 26 (decC { dec0 with op := 1, file := (fileL r).2.1, mode := octB } ⟨none, 0, 0⟩ ⟨none, 0, 0⟩)]) ++ [row br 65 [s2.v]]) h3 := Sat.csa (Sat.sel (M := [row br 65 [s2.v], row bp 26 (decC { dec0 with op := 1, file := (fileL r).2.1, mode := octB } ⟨none, 0, 0⟩ ⟨none, 0, 0⟩)]) hs3 [1, 0] (by decide) rfl)
      have hfl : (fileL r).2.2.length ≤ r.length := by
        have ha := (H2 h2 hs2.left).r.n
        unfold fileL
        cases hc : cutL r with
        | none => simp
        | some p =>
          have a1 := cutL_len (x := p.1) (y := p.2) hc
          simp only []
          split
          · cases hc2 : cutL p.2 with
            | none => simp
            | some q =>
              have a2 := cutL_len (x := q.1) (y := q.2) hc2
              simp only []
              split
              · show q.2.length ≤ _; omega
              · simp
          · simp
      refine c_choices g3 (fun h' g => H2 h' g.left) (fun h' g => G h' g.left) (by omega) ?_
      intro so sv h4 hs4
      have hs4 : Sat (L ++ [row br 65 [sv], row bp 26 (decC { dec0 with op := 1, file := (fileL r).2.1, mode := octB } ⟨none, 0, 0⟩ ⟨none, 0, 0⟩), Hw.own 56 2 so ((readL [] (fileL r).2.2).2.flatMap oc)]) h4 := (Sat.asc hs4).sel [1, 0, 2] (by decide) rfl
      refine hs4.st 1 rfl (by simp [decC]) rfl ?_
      intro h5 hs5
      have hs5 : Sat (L ++ [row br 65 [sv], row bp 26 (decC { dec0 with op := 1, file := (fileL r).2.1, mode := octB, os := (readL [] (fileL r).2.2).2 } so ⟨none, 0, 0⟩), Hw.own 56 2 so ((readL [] (fileL r).2.2).2.flatMap oc)]) h5 := hs5
      have ed : decF 1 r = ((readL [] (fileL r).2.2).1, { dec0 with op := 1, file := (fileL r).2.1, mode := octB, os := (readL [] (fileL r).2.2).2 }) := by unfold decF; rw [if_pos rfl, if_pos he]
      by_cases hz : (readL [] (fileL r).2.2).1 = 0
      · rw [hz] at ed ⊢
        exact fin _ so _ h5 rfl ed hs5
      · exact bad _ _ h5 hz ed hs5.left
  rw [show (op == 1) = false by simpa using o1, cond_false]
  by_cases o6 : op = 6
  · subst o6
    rw [show ((6 : Int) == 6) = true from rfl, cond_true]
    have g1 : Sat ((L ++ [row bp 26 (decC { dec0 with op := 6 } ⟨none, 0, 0⟩ ⟨none, 0, 0⟩)]) ++ [row br 65 [s.v]]) h := Sat.csa (hs.sel [1, 0] (by decide) rfl)
    refine c_choices g1 (fun h' g => H h' g.left) (fun h' g => G h' g.left) hl ?_
    intro so sv h4 hs4
    have hs4 : Sat (L ++ [row br 65 [sv], row bp 26 (decC { dec0 with op := 6 } ⟨none, 0, 0⟩ ⟨none, 0, 0⟩), Hw.own 56 2 so ((readL [] r).2.flatMap oc)]) h4 := (Sat.asc hs4).sel [1, 0, 2] (by decide) rfl
    refine hs4.st 1 rfl (by simp [decC]) rfl ?_
    intro h5 hs5
    have hs5 : Sat (L ++ [row br 65 [sv], row bp 26 (decC { dec0 with op := 6, os := (readL [] r).2 } so ⟨none, 0, 0⟩), Hw.own 56 2 so ((readL [] r).2.flatMap oc)]) h5 := hs5
    have ed : decF 6 r = ((readL [] r).1, { dec0 with op := 6, os := (readL [] r).2 }) := by unfold decF; rw [if_neg (by decide), if_pos rfl]
    by_cases hz : (readL [] r).1 = 0
    · rw [hz] at ed ⊢
      exact fin _ so _ h5 rfl ed hs5
    · exact bad _ _ h5 hz ed hs5.left
  rw [show (op == 6) = false by simpa using o6, cond_false]
  have num : ∀ (op : Int) (K1 : Int → Int → Hp → Prop), Sat (L ++ [row br 65 [s.v], row bp 26 (decC { dec0 with op := op } ⟨none, 0, 0⟩ ⟨none, 0, 0⟩)]) h → (r.length < 2 → ∀ h', Sat (L ++ [row br 65 [s.v], row bp 26 (decC { dec0 with op := op } ⟨none, 0, 0⟩ ⟨none, 0, 0⟩)]) h' → K1 0 5 h') →
      (2 ≤ r.length → ∀ s', (∀ h', Sat L h' → RdS h' s' (r.drop 2)) → ∀ h', Sat (L ++ [row br 65 [s'.v], row bp 26 (decC { dec0 with op := op } ⟨none, 0, 0⟩ ⟨none, 0, 0⟩)]) h' → K1 (be2 r) 0 h') → C38 (some (bk br)) h K1 := by
    intro op K1 hs a1 a2
    have g1 : Sat ((L ++ [row bp 26 (decC { dec0 with op := op } ⟨none, 0, 0⟩ ⟨none, 0, 0⟩)]) ++ [row br 65 [s.v]]) h := Sat.csa (hs.sel [1, 0] (by decide) rfl)
    refine c_rnumber (Q := Sat L) g1 (fun h' g => g.left) (fun h' q => (H h' q).r) (by omega) (fun h2 => a1 h2 h hs) ?_
    intro h2 s' H' h' hs'
    exact a2 h2 s' H' h' ((Sat.asc hs').sel [1, 0] (by decide) rfl)
  by_cases o4 : op = 4
  · subst o4
    rw [show ((4 : Int) == 4) = true from rfl, cond_true]
    refine num 4 _ hs ?_ ?_
    · intro h2 h1 hs1
      refine hs1.st 1 rfl (by simp [decC]) rfl ?_
      intro h3 hs3
      exact bad 5 dec0 h3 (by decide) (by unfold decF; simp [h2]) hs3.left
    · intro h2 s' H' h1 hs1
      refine hs1.st 1 rfl (by simp [decC]) rfl ?_
      intro h3 hs3
      exact fin0 { dec0 with op := 4, block := be2 r } (row br 65 [s'.v]) h3 rfl rfl (by unfold decF; rw [if_neg (by decide), if_neg (by decide), if_pos rfl, if_neg (by omega)]) hs3
  rw [show (op == 4) = false by simpa using o4, cond_false]
  by_cases o3 : op = 3
  · subst o3
    rw [show ((3 : Int) == 3) = true from rfl, cond_true]
    refine num 3 _ hs ?_ ?_
    · intro h2 h1 hs1
      refine hs1.st 1 rfl (by simp [decC]) rfl ?_
      intro h3 hs3
      rw [show ((5 : Int) == 0) = false from rfl, cond_false]
      unfold N39_j0
      rw [show ((5 : Int) == 0) = false from rfl, cond_false]
      exact bad 5 dec0 h3 (by decide) (by unfold decF; simp [h2]) hs3.left
    · intro h2 s' H' h1 hs1
      refine hs1.st 1 rfl (by simp [decC]) rfl ?_
      intro h3 hs3
      have hs3 : Sat (L ++ [row br 65 [s'.v], row bp 26 (decC { dec0 with op := 3, block := be2 r } ⟨none, 0, 0⟩ ⟨none, 0, 0⟩)]) h3 := hs3
      rw [show ((0 : Int) == 0) = true from rfl, cond_true]
      refine hs3.lL 0 rfl rfl ?_
      have sn : s'.n = (r.drop 2).length := (H' h3 hs3.left).r.n
      by_cases hlong : (r.drop 2).length > 65464
      · rw [show decide (((s'.n : Nat) : Int) > 65464) = true from decide_eq_true (by omega), cond_true]
        unfold N39_j0
        rw [show ((2 : Int) == 0) = false from rfl, cond_false]
        exact bad 2 dec0 h3 (by decide) (by unfold decF; rw [if_neg (by decide), if_neg (by decide), if_neg (by decide), if_pos rfl, if_neg (by omega), if_pos hlong]) hs3.left
      · rw [show decide (((s'.n : Nat) : Int) > 65464) = false from decide_eq_false (by omega), cond_false]
        unfold N39_j0
        rw [show ((0 : Int) == 0) = true from rfl, cond_true]
        simp only [nn_some', add_bk]
        refine hs3.lL 0 rfl rfl ?_
        refine c_bclone (s := s') (H' h3 hs3.left).r (by omega) ?_
        intro sd h4 hn4
        have hs4 := hs3.addNew hn4
        have hs4 : Sat (L ++ [row br 65 [s'.v], row bp 26 (decC { dec0 with op := 3, block := be2 r } ⟨none, 0, 0⟩ ⟨none, 0, 0⟩), Hw.own 5 1 sd (bc (r.drop 2))]) h4 := hs4
        refine hs4.st 1 rfl (by simp [decC]) rfl ?_
        intro h5 hs5
        have hs5 : Sat (L ++ [row br 65 [s'.v], row bp 26 (decC { dec0 with op := 3, block := be2 r, data := r.drop 2 } ⟨none, 0, 0⟩ sd), Hw.own 5 1 sd (bc (r.drop 2))]) h5 := hs5
        have ed : decF 3 r = (0, { dec0 with op := 3, block := be2 r, data := r.drop 2 }) := by unfold decF; rw [if_neg (by decide), if_neg (by decide), if_neg (by decide), if_pos rfl, if_neg (by omega), if_neg hlong]
        rw [ed] at hK
        have g5 := (hs5.addNil 56 2)
        exact hK rfl ⟨none, 0, 0⟩ sd h5 (Sat.sel (M := [row br 65 [s'.v], row bp 26 (decC { dec0 with op := 3, block := be2 r, data := r.drop 2 } ⟨none, 0, 0⟩ sd), Hw.own 5 1 sd (bc (r.drop 2)), Hw.own 56 2 ⟨none, 0, 0⟩ []]) g5 [1, 3, 2] (by decide) rfl)
  rw [show (op == 3) = false by simpa using o3, cond_false]
  by_cases o5 : op = 5
  · subst o5
    rw [show ((5 : Int) == 5) = true from rfl, cond_true]
    refine num 5 _ hs ?_ ?_
    · intro h2 h1 hs1
      refine hs1.st 1 rfl (by simp [decC]) rfl ?_
      intro h3 hs3
      rw [show ((5 : Int) == 0) = false from rfl, cond_false]
      unfold N39_j1
      rw [show ((5 : Int) == 0) = false from rfl, cond_false]
      exact bad 5 dec0 h3 (by decide) (by unfold decF; simp [h2]) hs3.left
    · intro h2 s' H' h1 hs1
      refine hs1.st 1 rfl (by simp [decC]) rfl ?_
      intro h3 hs3
      have hs3 : Sat (L ++ [row br 65 [s'.v], row bp 26 (decC { dec0 with op := 5, code := be2 r } ⟨none, 0, 0⟩ ⟨none, 0, 0⟩)]) h3 := hs3
      rw [show ((0 : Int) == 0) = true from rfl, cond_true]
      have g3 : Sat ((L ++ [row bp 26 (decC { dec0 with op := 5, code := be2 r } ⟨none, 0, 0⟩ ⟨none, 0, 0⟩)]) ++ [row br 65 [s'.v]]) h3 := Sat.csa (hs3.sel [1, 0] (by decide) rfl)
      have e5 : decF 5 r = match cutL (r.drop 2) with
          | none => (5, dec0)
          | some p => if p.1.length > 255 then (2, dec0) else (0, { dec0 with op := 5, code := be2 r, text := ⟨⟨p.1⟩⟩ }) := by
        unfold decF; rw [if_neg (by decide), if_neg (by decide), if_neg (by decide), if_neg (by decide), if_pos rfl, if_neg (by omega)]
      refine c_rtext (Q := Sat L) g3 (fun h' g => g.left) H' (by simp; omega) ?_ ?_
      · intro hc h4 hs4
        have hs4 : Sat (L ++ [row br 65 [s'.v], row bp 26 (decC { dec0 with op := 5, code := be2 r } ⟨none, 0, 0⟩ ⟨none, 0, 0⟩)]) h4 := (Sat.asc hs4).sel [1, 0] (by decide) rfl
        refine hs4.st 1 rfl (by simp [decC]) rfl ?_
        intro h5 hs5
        unfold N39_j1
        rw [show ((5 : Int) == 0) = false from rfl, cond_false]
        exact bad 5 dec0 h5 (by decide) (by rw [e5, hc]) hs5.left
      · intro x y s4 hc H4 h4 hs4
        have hs4 : Sat (L ++ [row br 65 [s4.v], row bp 26 (decC { dec0 with op := 5, code := be2 r } ⟨none, 0, 0⟩ ⟨none, 0, 0⟩)]) h4 := (Sat.asc hs4).sel [1, 0] (by decide) rfl
        refine hs4.st 1 rfl (by simp [decC]) rfl ?_
        intro h5 hs5
        have hs5 : Sat (L ++ [row br 65 [s4.v], row bp 26 (decC { dec0 with op := 5, code := be2 r, text := ⟨⟨x⟩⟩ } ⟨none, 0, 0⟩ ⟨none, 0, 0⟩)]) h5 := hs5
        unfold N39_j1
        rw [show ((0 : Int) == 0) = true from rfl, cond_true]
        simp only [nn_some', add_bk]
        refine hs5.lS 1 rfl rfl ?_
        show bif decide (((x.length : Nat) : Int) > 255) then _ else _
        by_cases hx : x.length > 255
        · rw [show decide (((x.length : Nat) : Int) > 255) = true from decide_eq_true (by omega), cond_true]
          exact bad 2 dec0 h5 (by decide) (by rw [e5, hc]; simp [hx]) hs5.left
        · rw [show decide (((x.length : Nat) : Int) > 255) = false from decide_eq_false (by omega), cond_false]
          exact fin0 { dec0 with op := 5, code := be2 r, text := ⟨⟨x⟩⟩ } (row br 65 [s4.v]) h5 rfl rfl (by rw [e5, hc]; simp [hx]) hs5
  rw [show (op == 5) = false by simpa using o5, cond_false]
  exact bad 170 dec0 h (by decide) (by unfold decF; rw [if_neg o1, if_neg o6, if_neg o4, if_neg o3, if_neg o5]) hs.left
def zeroC : List Value := [.int .i64 0, .string emp, .string emp, .slice none 0 0, .int .i64 0, .slice none 0 0, .int .i64 0, .string emp]
theorem decL_bad {l : List UInt8} {e : Int} (h2 : 2 ≤ l.length) (he : e ≠ 0) (hd : (decF (be2 l) (l.drop 2)).1 = e) : decL l = (e, dec0) := by
  unfold decL; rw [if_neg (by omega), if_neg (by rw [hd]; exact he), hd]
theorem decL_good {l : List UInt8} (h2 : 2 ≤ l.length) (hd : (decF (be2 l) (l.drop 2)).1 = 0) : decL l = decF (be2 l) (l.drop 2) := by
  unfold decL; rw [if_neg (by omega), if_pos hd]
set_option maxHeartbeats 1000000 in
theorem c_decode {L : List Asn} {s : Sl} {l : List UInt8} {h : Hp} {K : Int → ByteArray → ByteArray → Sl → Int → Sl → Int → ByteArray → Int → Hp → Prop} (hs : Sat (L ++ []) h) (H : ∀ h', Sat L h' → RdB h' s l) (G : ∀ h', Sat L h' → Glob h') (hl : l.length ≤ 140737488355000)
    (hK : ∀ so sd h', Sat (L ++ [Hw.own 56 2 so ((decL l).2.os.flatMap oc), Hw.own 5 1 sd (bc (decL l).2.data)]) h' → K (decL l).2.op (decL l).2.file (decL l).2.mode so (decL l).2.block sd (decL l).2.code (decL l).2.text (decL l).1 h') : C17 s h K := by
  apply S17; unfold N17
  intro b0 e0
  have hs := hs.new e0 (.cells ⟨[.int .i64 0, .string (⟨⟨[]⟩⟩ : ByteArray), .string (⟨⟨[]⟩⟩ : ByteArray), .slice none 0 0, .int .i64 0, .slice none 0 0, .int .i64 0, .string (⟨⟨[]⟩⟩ : ByteArray)]⟩ 26 (0, 0))
  revert hs
  generalize upd h b0 _ = h0
  intro hs b1 e1
  have hs := hs.new e1 (.cells ⟨[.slice s.p s.n s.c]⟩ 65 (0, 0))
  revert hs
  generalize upd h0 b1 _ = h1
  intro hs
  have hs : Sat (L ++ [row b0 26 zeroC, row b1 65 [s.v]]) h1 := hs
  have hs1 : Sat ((L ++ [row b0 26 zeroC]) ++ [row b1 65 [s.v]]) h1 := Sat.csa hs
  -- where it is bad
  have jbad : ∀ (e : Int) (p7 : Option Addr) (hh : Hp), e ≠ 0 → decL l = (e, dec0) → Sat (L ++ [row b0 26 zeroC]) hh → N17_j0 (some (bk b0)) e p7 hh fun n3 h13 => xI .i64 (cell h13 (bk b0)) fun n4 => xS (cell h13 ((bk b0).add 1)) fun s0 => xS (cell h13 ((bk b0).add 2)) fun s1 => xL (cell h13 ((bk b0).add 3)) fun s2 =>
        xI .i64 (cell h13 ((bk b0).add 4)) fun n5 => xL (cell h13 ((bk b0).add 5)) fun s3 => xI .i64 (cell h13 ((bk b0).add 6)) fun n6 => xS (cell h13 ((bk b0).add 7)) fun s4 => K n4 s0 s1 s2 n5 s3 n6 s4 n3 h13 := by
    intro e p7 hh he hd hs
    unfold N17_j0
    rw [show (e != 0) = true by simpa using he, cond_true]
    simp only [nn_some', add_bk]
    refine hs.st 0 rfl (by simp [zeroC]) rfl ?_
    intro _ hs
    refine hs.st 0 rfl (by simp [zeroC]) rfl ?_
    intro _ hs
    refine hs.st 0 rfl (by simp [zeroC]) rfl ?_
    intro _ hs
    refine hs.st 0 rfl (by simp [zeroC]) rfl ?_
    intro _ hs
    refine hs.st 0 rfl (by simp [zeroC]) rfl ?_
    intro _ hs
    refine hs.st 0 rfl (by simp [zeroC]) rfl ?_
    intro _ hs
    refine hs.st 0 rfl (by simp [zeroC]) rfl ?_
    intro _ hs
    refine hs.st 0 rfl (by simp [zeroC]) rfl ?_
    intro h9 hs
    have hs : Sat (L ++ [row b0 26 zeroC]) h9 := hs
    refine hs.lI 0 rfl rfl ?_
    refine hs.lS 0 rfl rfl ?_
    refine hs.lS 0 rfl rfl ?_
    refine hs.lL 0 rfl rfl ?_
    refine hs.lI 0 rfl rfl ?_
    refine hs.lL 0 rfl rfl ?_
    refine hs.lI 0 rfl rfl ?_
    refine hs.lS 0 rfl rfl ?_
    rw [hd] at hK
    have g : Sat (L ++ []) h9 := hs.sel [] (by decide) rfl
    exact hK ⟨none, 0, 0⟩ ⟨none, 0, 0⟩ h9 ((g.addNil 56 2).addNil 5 1)
  refine c_rnumber (Q := Sat L) hs1 (fun h' g => g.left) H (by omega) ?_ ?_
  · intro h2 b2 e2
    have hs2 := hs.new e2 (.cells ⟨[.int .i64 0, .string (⟨⟨[]⟩⟩ : ByteArray), .string (⟨⟨[]⟩⟩ : ByteArray), .slice none 0 0, .int .i64 0, .slice none 0 0, .int .i64 0, .string (⟨⟨[]⟩⟩ : ByteArray)]⟩ 26 (0, 0))
    revert hs2
    generalize upd h1 b2 _ = h3
    intro hs2
    have hs : Sat (L ++ [row b0 26 zeroC, row b1 65 [s.v], row b2 26 zeroC]) h3 := hs2
    simp only [add_bk]
    refine hs.st 2 rfl (by simp [zeroC]) rfl ?_
    intro _ hs
    refine hs.st 2 rfl (by simp [zeroC]) rfl ?_
    intro _ hs
    refine hs.st 2 rfl (by simp [zeroC]) rfl ?_
    intro _ hs
    refine hs.st 2 rfl (by simp [zeroC]) rfl ?_
    intro _ hs
    refine hs.st 2 rfl (by simp [zeroC]) rfl ?_
    intro _ hs
    refine hs.st 2 rfl (by simp [zeroC]) rfl ?_
    intro _ hs
    refine hs.st 2 rfl (by simp [zeroC]) rfl ?_
    intro _ hs
    refine hs.st 2 rfl (by simp [zeroC]) rfl ?_
    intro h11 hs
    rw [show ((5 : Int) == 0) = false from rfl, cond_false]
    have g : Sat (L ++ [row b0 26 zeroC]) h11 := hs.sel [0] (by decide) rfl
    have := jbad 5 (some (bk b2)) h11 (by decide) (by unfold decL; rw [if_pos h2]) g
    simp only [add_bk] at this
    exact this
  · intro h2 s' H' h2' hs2 b2 e2
    have hs2 : Sat (L ++ [row b0 26 zeroC, row b1 65 [s'.v]]) h2' := Sat.asc hs2
    have hs2 := hs2.new e2 (.cells ⟨[.int .i64 0, .string (⟨⟨[]⟩⟩ : ByteArray), .string (⟨⟨[]⟩⟩ : ByteArray), .slice none 0 0, .int .i64 0, .slice none 0 0, .int .i64 0, .string (⟨⟨[]⟩⟩ : ByteArray)]⟩ 26 (0, 0))
    revert hs2
    generalize upd h2' b2 _ = h3
    intro hs2
    have hs : Sat (L ++ [row b0 26 zeroC, row b1 65 [s'.v], row b2 26 zeroC]) h3 := hs2
    simp only [add_bk]
    refine hs.st 2 rfl (by simp [zeroC]) rfl ?_
    intro _ hs
    refine hs.st 2 rfl (by simp [zeroC]) rfl ?_
    intro _ hs
    refine hs.st 2 rfl (by simp [zeroC]) rfl ?_
    intro _ hs
    refine hs.st 2 rfl (by simp [zeroC]) rfl ?_
    intro _ hs
    refine hs.st 2 rfl (by simp [zeroC]) rfl ?_
    intro _ hs
    refine hs.st 2 rfl (by simp [zeroC]) rfl ?_
    intro _ hs
    refine hs.st 2 rfl (by simp [zeroC]) rfl ?_
    intro _ hs
    refine hs.st 2 rfl (by simp [zeroC]) rfl ?_
    intro h11 hs
    have hs : Sat (L ++ [row b0 26 zeroC, row b1 65 [s'.v], row b2 26 (decC { dec0 with op := be2 l } ⟨none, 0, 0⟩ ⟨none, 0, 0⟩)]) h11 := hs
    rw [show ((0 : Int) == 0) = true from rfl, cond_true]
    have g1 : Sat ((L ++ [row b0 26 zeroC]) ++ [row b1 65 [s'.v], row b2 26 (decC { dec0 with op := be2 l } ⟨none, 0, 0⟩ ⟨none, 0, 0⟩)]) h11 := Sat.csa hs
    refine c_fields g1 (fun h' g => H' h' g.left) (fun h' g => G h' g.left) (by simp; omega) ?_ ?_
    · intro he h12 g12
      have := jbad _ (some (bk b2)) h12 he (decL_bad h2 he rfl) g12
      simp only [add_bk] at this
      exact this
    · intro he so sd h12 g12
      have hs : Sat (L ++ [row b0 26 zeroC, row b2 26 (decC (decF (be2 l) (l.drop 2)).2 so sd), Hw.own 56 2 so ((decF (be2 l) (l.drop 2)).2.os.flatMap oc), Hw.own 5 1 sd (bc (decF (be2 l) (l.drop 2)).2.data)]) h12 := Sat.asc g12
      have ed := decL_good h2 he
      rw [ed] at hK
      generalize (decF (be2 l) (l.drop 2)).2 = d at hs hK
      unfold N17_j0
      rw [show ((0 : Int) != 0) = false from rfl, cond_false]
      simp only [nn_some', add_bk]
      refine hs.lI 1 rfl rfl ?_
      refine hs.lS 1 rfl rfl ?_
      refine hs.lS 1 rfl rfl ?_
      refine hs.lL 1 rfl rfl ?_
      refine hs.lI 1 rfl rfl ?_
      refine hs.lL 1 rfl rfl ?_
      refine hs.lI 1 rfl rfl ?_
      refine hs.lS 1 rfl rfl ?_
      refine hs.st 0 rfl (by simp [zeroC]) rfl ?_
      intro _ hs
      refine hs.st 0 rfl (by simp [zeroC]) rfl ?_
      intro _ hs
      refine hs.st 0 rfl (by simp [zeroC]) rfl ?_
      intro _ hs
      refine hs.st 0 rfl (by simp [zeroC]) rfl ?_
      intro _ hs
      refine hs.st 0 rfl (by simp [zeroC]) rfl ?_
      intro _ hs
      refine hs.st 0 rfl (by simp [zeroC]) rfl ?_
      intro _ hs
      refine hs.st 0 rfl (by simp [zeroC]) rfl ?_
      intro _ hs
      refine hs.st 0 rfl (by simp [zeroC]) rfl ?_
      intro h20 hs
      have hs : Sat (L ++ [row b0 26 (decC d so sd), row b2 26 (decC d so sd), Hw.own 56 2 so (d.os.flatMap oc), Hw.own 5 1 sd (bc d.data)]) h20 := hs
      refine hs.lI 0 rfl rfl ?_
      refine hs.lS 0 rfl rfl ?_
      refine hs.lS 0 rfl rfl ?_
      refine hs.lL 0 rfl rfl ?_
      refine hs.lI 0 rfl rfl ?_
      refine hs.lL 0 rfl rfl ?_
      refine hs.lI 0 rfl rfl ?_
      refine hs.lS 0 rfl rfl ?_
      rw [he] at hK
      exact hK so sd h20 (hs.sel [2, 3] (by decide) rfl)
end Go.Proofs.YtedklcmdjoojfaaDoor

set_option linter.unusedVariables false
set_option maxRecDepth 100000
namespace Go.Proofs.YtedklcmdjoojfaaDoor
open Go Go.Hw
end Go.Proofs.YtedklcmdjoojfaaDoor

set_option linter.unusedVariables false
set_option maxRecDepth 100000
namespace Go.Proofs.YtedklcmdjoojfaaDoor
open Go Go.Hw
end Go.Proofs.YtedklcmdjoojfaaDoor
