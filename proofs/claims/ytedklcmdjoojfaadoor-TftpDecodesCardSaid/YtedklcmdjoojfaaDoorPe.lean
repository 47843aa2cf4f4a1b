/-
  DERIVED: THE SHELF's CONTRACTS AT THIS DUMP, IN PLAIN WORDS (tools/lay-plain.mjs out of 'TrydShelf.lean', which tools/lay-shelf.mjs wrote): THE SAME DECLARATIONS UNDER THE SAME NAMES: 'import', 'namespace', 'open', 'def', 'theorem' AND NOTHING ELSE: no command of the shelf's: FOR A HAND-IN. Each laying: the table of numbers ('.._ren') and one theorem, a field a fact of the dump's own or the kernel's comparison; each contract: ONE APPLICATION.
-/
import Derived.Shelf.Strconv.Atoi
import Derived.Shelf.Strconv.Itoa0
import Derived.Shelf.Strconv.Itoa1
import Derived.Shelf.LaysM
import Derived.Shelf.Strconv.Itoa2
import Derived.Shelf.Strconv.Itoa3
import Derived.Shelf.Strconv.AtoiErrFast
import Derived.Shelf.Strconv.ParseIntEmpty
import Derived.Shelf.Strconv.AtoiFail
import Derived.Shelf.Strconv.Clone
import Derived.Shelf.Strconv.SyntaxError
import Derived.Shelf.LaysC
import Derived.Shelf.Strconv.ToError
import Derived.Shelf.Strconv.Lower
import Derived.Shelf.Strconv.ParseUint10
import Derived.Shelf.Strconv.ParseUint10Empty
import Derived.Shelf.Strconv.ParseUint10Any
import Derived.Shelf.Strconv.ParseInt10
import Derived.Shelf.Strconv.AtoiLong
import Derived.Shelf.Strconv.AtoiInnerAll
import Derived.Shelf.Strconv.RangeError
import Derived.Shelf.Strconv.ToErrorRange
import Derived.Shelf.Strconv.AtoiAll
import Derived.Shelf.Strconv.ErrVarAll
import Derived.Shelf.Strconv.ParseUintEmpty
import Derived.Shelf.Strings.Search1
import Derived.Shelf.Strings.Search2
import Derived.Shelf.Strings.Search3
import Derived.Shelf.Strings.Shaped
import Derived.Shelf.Bytes.SlIndexSmall
import Derived.Shelf.Bytes.SlIndexAt
import Derived.Shelf.Bytes.SlSearch0
import Derived.Shelf.Bytes.SlSearch1
import Derived.Shelf.Bytes.SlSearch2
import Derived.Shelf.Bytes.SlIndexWhole
import Derived.Ground.SlbCloneProg
import Derived.Shelf.Bytes.SlClone
import Derived.Ground.SlbtProg
import Derived.Shelf.Bytes.SlCut
import Derived.Shelf.Bytes.Small
import Derived.Shelf.Bytes.IndexByte
import Derived.Test.YtedklcmdjoojfaaDoorProg
import Derived.Test.YtedklcmdjoojfaaDoorPd
import Derived.Lib.SplitLaws
import Derived.Lib.IndexBytes
import Derived.Lib.IndexLaws
import Derived.Lib.ItoaNum
import Derived.Lib.ParseIntB
import Derived.Lib.Join
import Derived.Laws.Strings
import Derived.Lib.AtoiTie
namespace Go.Proofs
open Go.Shelf
def Tryd.lays244_ren : Go.Shelf.Ren := ⟨fun | 244 => 84 | 247 => 94 | 287 => 101 | 321 => 104 | 322 => 105 | n => n, fun | 9 => 9 | 3 => 3 | 75 => 99 | 4 => 4 | 5 => 5 | 167 => 116 | 37 => 24 | 0 => 0 | 85 => 117 | 2 => 2 | 53 => 80 | 175 => 125 | 46 => 90 | 21 => 21 | 80 => 135 | n => n, fun | n => n⟩
theorem Tryd.lays244 : Go.Proofs.Lays.n244 Tryd.prog Tryd.lays244_ren := {
  mixed := by kernel_rfl
  f244 := Tryd.func84.trans (congrArg some (by kernel_rfl))
  f247 := Tryd.func94.trans (congrArg some (by kernel_rfl))
  f287 := Tryd.func101.trans (congrArg some (by kernel_rfl))
  f321 := Tryd.func104.trans (congrArg some (by kernel_rfl))
  f322 := Tryd.func105.trans (congrArg some (by kernel_rfl))
  t0 := Tryd.underlying0
  a0 := Tryd.isAgg0
  z0 := Tryd.sizeOf0
  v0 := Tryd.zeroValue0
  t2 := Tryd.underlying2
  a2 := Tryd.isAgg2
  z2 := Tryd.sizeOf2
  v2 := Tryd.zeroValue2
  t3 := Tryd.underlying3
  a3 := Tryd.isAgg3
  z3 := Tryd.sizeOf3
  v3 := Tryd.zeroValue3
  t4 := Tryd.underlying4
  a4 := Tryd.isAgg4
  z4 := Tryd.sizeOf4
  v4 := Tryd.zeroValue4
  t5 := Tryd.underlying5
  a5 := Tryd.isAgg5
  z5 := Tryd.sizeOf5
  v5 := Tryd.zeroValue5
  t9 := Tryd.underlying9
  a9 := Tryd.isAgg9
  z9 := Tryd.sizeOf9
  v9 := Tryd.zeroValue9
  t21 := Tryd.underlying21
  a21 := Tryd.isAgg21
  z21 := Tryd.sizeOf21
  v21 := Tryd.zeroValue21
  t37 := Tryd.underlying24
  a37 := Tryd.isAgg24
  z37 := Tryd.sizeOf24
  v37 := Tryd.zeroValue24
  t46 := Tryd.underlying90
  a46 := Tryd.isAgg90
  z46 := Tryd.sizeOf90
  v46 := Tryd.zeroValue90
  t53 := Tryd.underlying80
  a53 := Tryd.isAgg80
  z53 := Tryd.sizeOf80
  v53 := Tryd.zeroValue80
  t75 := Tryd.underlying99
  a75 := Tryd.isAgg99
  z75 := Tryd.sizeOf99
  v75 := Tryd.zeroValue99
  t85 := Tryd.underlying117
  a85 := Tryd.isAgg117
  z85 := Tryd.sizeOf117
  v85 := Tryd.zeroValue117
  t167 := Tryd.underlying116
  a167 := Tryd.isAgg116
  z167 := Tryd.sizeOf116
  v167 := Tryd.zeroValue116
  t175 := Tryd.underlying125
  a175 := Tryd.isAgg125
  z175 := Tryd.sizeOf125
  v175 := Tryd.zeroValue125 }
open Go.RowKit in
/-- internal/strconv.Atoi, at a decimal numeral of at most 18 bytes: ITS VALUE, AND NO ERROR. The world behind the call: the one new row that '[]byte(s)' lays. (LAID: no walk: one application.) -/
theorem Tryd.internal_strconv_Atoi (s : ByteArray) (n : Int) (hl : s.size ≤ 18) (h : Lib.atoi s.data.toList = some n) (w : World) :
    Calls Tryd.prog 84 #[.string s] w fun e w' => e = .returned (.tuple #[.int .i64 n, .nilIface]) ∧ ∃ t, w' = Lib.bytesWorld w 5 t := Any.internal_strconv_Atoi Tryd.lays244 s n hl h w
def Tryd.lays172_ren : Go.Shelf.Ren := ⟨fun | 172 => 73 | 244 => 84 | 245 => 85 | 247 => 94 | 279 => 95 | 280 => 96 | 281 => 97 | 282 => 98 | 287 => 101 | 316 => 102 | 171 => 31 | 205 => 103 | 321 => 104 | 322 => 105 | 243 => 52 | 246 => 64 | 283 => 69 | 284 => 70 | 285 => 71 | 286 => 72 | 129 => 80 | 317 => 79 | 318 => 81 | 319 => 82 | 320 => 83 | 337 => 92 | 338 => 93 | n => n, fun | 9 => 9 | 3 => 3 | 75 => 99 | 76 => 100 | 4 => 4 | 5 => 5 | 167 => 116 | 37 => 24 | 0 => 0 | 85 => 117 | 2 => 2 | 168 => 119 | 53 => 80 | 175 => 125 | 46 => 90 | 210 => 128 | 127 => 131 | 145 => 134 | 143 => 132 | 21 => 21 | 171 => 93 | 173 => 96 | 212 => 106 | 51 => 107 | 20 => 20 | 213 => 108 | 232 => 123 | 233 => 124 | 80 => 135 | n => n, fun | 15 => 4 | 16 => 5 | 17 => 1 | 18 => 2 | 19 => 3 | n => n⟩
theorem Tryd.lays172 : Go.Proofs.Lays.n172 Tryd.prog Tryd.lays172_ren := {
  mixed := by kernel_rfl
  f129 := Tryd.func80.trans (congrArg some (by kernel_rfl))
  f171 := Tryd.func31.trans (congrArg some (by kernel_rfl))
  f172 := Tryd.func73.trans (congrArg some (by kernel_rfl))
  f205 := Tryd.func103.trans (congrArg some (by kernel_rfl))
  f243 := Tryd.func52.trans (congrArg some (by kernel_rfl))
  f244 := Tryd.func84.trans (congrArg some (by kernel_rfl))
  f245 := Tryd.func85.trans (congrArg some (by kernel_rfl))
  f246 := Tryd.func64.trans (congrArg some (by kernel_rfl))
  f247 := Tryd.func94.trans (congrArg some (by kernel_rfl))
  f279 := Tryd.func95.trans (congrArg some (by kernel_rfl))
  f280 := Tryd.func96.trans (congrArg some (by kernel_rfl))
  f281 := Tryd.func97.trans (congrArg some (by kernel_rfl))
  f282 := Tryd.func98.trans (congrArg some (by kernel_rfl))
  f283 := Tryd.func69.trans (congrArg some (by kernel_rfl))
  f284 := Tryd.func70.trans (congrArg some (by kernel_rfl))
  f285 := Tryd.func71.trans (congrArg some (by kernel_rfl))
  f286 := Tryd.func72.trans (congrArg some (by kernel_rfl))
  f287 := Tryd.func101.trans (congrArg some (by kernel_rfl))
  f316 := Tryd.func102.trans (congrArg some (by kernel_rfl))
  f317 := Tryd.func79.trans (congrArg some (by kernel_rfl))
  f318 := Tryd.func81.trans (congrArg some (by kernel_rfl))
  f319 := Tryd.func82.trans (congrArg some (by kernel_rfl))
  f320 := Tryd.func83.trans (congrArg some (by kernel_rfl))
  f321 := Tryd.func104.trans (congrArg some (by kernel_rfl))
  f322 := Tryd.func105.trans (congrArg some (by kernel_rfl))
  f337 := Tryd.func92.trans (congrArg some (by kernel_rfl))
  f338 := Tryd.func93.trans (congrArg some (by kernel_rfl))
  t0 := Tryd.underlying0
  a0 := Tryd.isAgg0
  z0 := Tryd.sizeOf0
  v0 := Tryd.zeroValue0
  t2 := Tryd.underlying2
  a2 := Tryd.isAgg2
  z2 := Tryd.sizeOf2
  v2 := Tryd.zeroValue2
  t3 := Tryd.underlying3
  a3 := Tryd.isAgg3
  z3 := Tryd.sizeOf3
  v3 := Tryd.zeroValue3
  t4 := Tryd.underlying4
  a4 := Tryd.isAgg4
  z4 := Tryd.sizeOf4
  v4 := Tryd.zeroValue4
  t5 := Tryd.underlying5
  a5 := Tryd.isAgg5
  z5 := Tryd.sizeOf5
  v5 := Tryd.zeroValue5
  t9 := Tryd.underlying9
  a9 := Tryd.isAgg9
  z9 := Tryd.sizeOf9
  v9 := Tryd.zeroValue9
  t20 := Tryd.underlying20
  a20 := Tryd.isAgg20
  z20 := Tryd.sizeOf20
  v20 := Tryd.zeroValue20
  t21 := Tryd.underlying21
  a21 := Tryd.isAgg21
  z21 := Tryd.sizeOf21
  v21 := Tryd.zeroValue21
  t37 := Tryd.underlying24
  a37 := Tryd.isAgg24
  z37 := Tryd.sizeOf24
  v37 := Tryd.zeroValue24
  t46 := Tryd.underlying90
  a46 := Tryd.isAgg90
  z46 := Tryd.sizeOf90
  v46 := Tryd.zeroValue90
  t51 := Tryd.underlying107
  a51 := Tryd.isAgg107
  z51 := Tryd.sizeOf107
  v51 := Tryd.zeroValue107
  t53 := Tryd.underlying80
  a53 := Tryd.isAgg80
  z53 := Tryd.sizeOf80
  v53 := Tryd.zeroValue80
  t75 := Tryd.underlying99
  a75 := Tryd.isAgg99
  z75 := Tryd.sizeOf99
  v75 := Tryd.zeroValue99
  t76 := Tryd.underlying100
  a76 := Tryd.isAgg100
  z76 := Tryd.sizeOf100
  v76 := Tryd.zeroValue100
  t85 := Tryd.underlying117
  a85 := Tryd.isAgg117
  z85 := Tryd.sizeOf117
  v85 := Tryd.zeroValue117
  t127 := Tryd.underlying131
  a127 := Tryd.isAgg131
  z127 := Tryd.sizeOf131
  v127 := Tryd.zeroValue131
  t143 := Tryd.underlying132
  a143 := Tryd.isAgg132
  z143 := Tryd.sizeOf132
  v143 := Tryd.zeroValue132
  t145 := Tryd.underlying134
  a145 := Tryd.isAgg134
  z145 := Tryd.sizeOf134
  v145 := Tryd.zeroValue134
  t167 := Tryd.underlying116
  a167 := Tryd.isAgg116
  z167 := Tryd.sizeOf116
  v167 := Tryd.zeroValue116
  t168 := Tryd.underlying119
  a168 := Tryd.isAgg119
  z168 := Tryd.sizeOf119
  v168 := Tryd.zeroValue119
  t171 := Tryd.underlying93
  a171 := Tryd.isAgg93
  z171 := Tryd.sizeOf93
  v171 := Tryd.zeroValue93
  t173 := Tryd.underlying96
  a173 := Tryd.isAgg96
  z173 := Tryd.sizeOf96
  v173 := Tryd.zeroValue96
  t175 := Tryd.underlying125
  a175 := Tryd.isAgg125
  z175 := Tryd.sizeOf125
  v175 := Tryd.zeroValue125
  t210 := Tryd.underlying128
  a210 := Tryd.isAgg128
  z210 := Tryd.sizeOf128
  v210 := Tryd.zeroValue128
  t212 := Tryd.underlying106
  a212 := Tryd.isAgg106
  z212 := Tryd.sizeOf106
  v212 := Tryd.zeroValue106
  t213 := Tryd.underlying108
  a213 := Tryd.isAgg108
  z213 := Tryd.sizeOf108
  t232 := Tryd.underlying123
  a232 := Tryd.isAgg123
  z232 := Tryd.sizeOf123
  v232 := Tryd.zeroValue123
  t233 := Tryd.underlying124
  a233 := Tryd.isAgg124
  z233 := Tryd.sizeOf124
  v233 := Tryd.zeroValue124
  g15 := by kernel_rfl
  g16 := by kernel_rfl
  g17 := by kernel_rfl
  g18 := by kernel_rfl
  g19 := by kernel_rfl }
open Go.RowKit in
/-- strconv.Atoi: "Atoi is equivalent to ParseInt(s, 10, 0), converted to type int.": AT A DECIMAL NUMERAL OF AT MOST 18 BYTES: its value, and a nil error. The world behind the call: the one new row that the library's '[]byte(s)' lays. (LAID: no walk: one application.) -/
theorem Tryd.strconv_Atoi (s : ByteArray) (n : Int) (hl : s.size ≤ 18) (h : Lib.atoi s.data.toList = some n) (w : World) :
    Calls Tryd.prog 73 #[.string s] w fun e w' => e = .returned (.tuple #[.int .i64 n, .nilIface]) ∧ ∃ t, w' = Lib.bytesWorld w 5 t := Any.strconv_Atoi Tryd.lays172 s n hl h w
def Tryd.lays129_ren : Go.Shelf.Ren := ⟨fun | 129 => 80 | n => n, fun | 53 => 80 | 3 => 3 | 4 => 4 | 46 => 90 | 5 => 5 | 9 => 9 | n => n, fun | n => n⟩
theorem Tryd.lays129 : Go.Proofs.Lays.n129 Tryd.prog Tryd.lays129_ren := {
  mixed := by kernel_rfl
  f129 := Tryd.func80.trans (congrArg some (by kernel_rfl))
  t3 := Tryd.underlying3
  a3 := Tryd.isAgg3
  z3 := Tryd.sizeOf3
  v3 := Tryd.zeroValue3
  t4 := Tryd.underlying4
  a4 := Tryd.isAgg4
  z4 := Tryd.sizeOf4
  v4 := Tryd.zeroValue4
  t5 := Tryd.underlying5
  a5 := Tryd.isAgg5
  z5 := Tryd.sizeOf5
  v5 := Tryd.zeroValue5
  t9 := Tryd.underlying9
  a9 := Tryd.isAgg9
  z9 := Tryd.sizeOf9
  v9 := Tryd.zeroValue9
  t46 := Tryd.underlying90
  a46 := Tryd.isAgg90
  z46 := Tryd.sizeOf90
  v46 := Tryd.zeroValue90
  t53 := Tryd.underlying80
  a53 := Tryd.isAgg80
  z53 := Tryd.sizeOf80
  v53 := Tryd.zeroValue80 }
/-- bits.Len64: "Len64 returns the minimum number of bits required to represent x; the result is 0 for x == 0.": IT RETURNS 'Lib.bitLen x'; the world is as it was. ('h0', 'h1': x is a uint64.) (LAID: no walk: one application.) -/
theorem Tryd.bits_Len64 (x : Int) (w : World) (h0 : 0 ≤ x) (h1 : x ≤ 18446744073709551615) :
    Calls Tryd.prog 80 #[.int .u64 x] w fun e w' => e = .returned (.int .i64 (Lib.bitLen x.toNat)) ∧ w' = w := Any.bits_Len64 Tryd.lays129 x w h0 h1
def Tryd.lays317_ren : Go.Shelf.Ren := ⟨fun | 317 => 79 | n => n, fun | 3 => 3 | 46 => 90 | n => n, fun | n => n⟩
theorem Tryd.lays317 : Go.Proofs.Lays.n317 Tryd.prog Tryd.lays317_ren := {
  mixed := by kernel_rfl
  f317 := Tryd.func79.trans (congrArg some (by kernel_rfl))
  t3 := Tryd.underlying3
  a3 := Tryd.isAgg3
  z3 := Tryd.sizeOf3
  v3 := Tryd.zeroValue3
  t46 := Tryd.underlying90
  a46 := Tryd.isAgg90
  z46 := Tryd.sizeOf90
  v46 := Tryd.zeroValue90 }
open Go.Lib in
/-- internal/strconv.log10Pow2: "log10Pow2(x) returns ⌊log₁₀ 2**x⌋ = ⌊x * log₁₀ 2⌋.": '(x * 78913) >> 18', at an x up to 64 (a length in bits). The world is as it was. (LAID: no walk: one application.) -/
theorem Tryd.internal_strconv_log10Pow2 (x : Nat) (h : x ≤ 64) (w : World) :
    Calls Tryd.prog 79 #[.int .i64 x] w fun e w' => e = .returned (.int .i64 (Lib.l10 x)) ∧ w' = w := Any.internal_strconv_log10Pow2 Tryd.lays317 x h w
def Tryd.lays318_ren : Go.Shelf.Ren := ⟨fun | 318 => 81 | n => n, fun | 3 => 3 | 4 => 4 | n => n, fun | n => n⟩
theorem Tryd.lays318 : Go.Proofs.Lays.n318 Tryd.prog Tryd.lays318_ren := {
  mixed := by kernel_rfl
  f318 := Tryd.func81.trans (congrArg some (by kernel_rfl))
  t3 := Tryd.underlying3
  a3 := Tryd.isAgg3
  z3 := Tryd.sizeOf3
  v3 := Tryd.zeroValue3
  t4 := Tryd.underlying4
  a4 := Tryd.isAgg4
  z4 := Tryd.sizeOf4
  v4 := Tryd.zeroValue4 }
open Go.Lib in
/-- internal/strconv.bool2: "bool2 converts b to an integer: 1 for true, 0 for false." The world is as it was. (LAID: no walk: one application.) -/
theorem Tryd.internal_strconv_bool2_int (b : Bool) (w : World) :
    Calls Tryd.prog 81 #[.bool b] w fun e w' => e = .returned (.int .i64 (if b then 1 else 0)) ∧ w' = w := Any.internal_strconv_bool2_int Tryd.lays318 b w
def Tryd.lays283_ren : Go.Shelf.Ren := ⟨fun | 283 => 69 | n => n, fun | 3 => 3 | 9 => 9 | 4 => 4 | n => n, fun | n => n⟩
theorem Tryd.lays283 : Go.Proofs.Lays.n283 Tryd.prog Tryd.lays283_ren := {
  mixed := by kernel_rfl
  f283 := Tryd.func69.trans (congrArg some (by kernel_rfl))
  t3 := Tryd.underlying3
  a3 := Tryd.isAgg3
  z3 := Tryd.sizeOf3
  v3 := Tryd.zeroValue3
  t4 := Tryd.underlying4
  a4 := Tryd.isAgg4
  z4 := Tryd.sizeOf4
  v4 := Tryd.zeroValue4
  t9 := Tryd.underlying9
  a9 := Tryd.isAgg9
  z9 := Tryd.sizeOf9
  v9 := Tryd.zeroValue9 }
open Go.Lib in
/-- internal/strconv.small: "small returns the string for an i with 0 <= i < nSmalls.": i's decimal numeral. The world is as it was. (LAID: no walk: one application.) -/
theorem Tryd.internal_strconv_small (i : Nat) (h : i < 100) (w : World) :
    Calls Tryd.prog 69 #[.int .i64 i] w fun e w' => e = .returned (.string ⟨(Lib.decDigits i).toArray⟩) ∧ w' = w := Any.internal_strconv_small Tryd.lays283 i h w
def Tryd.laysM284_ren : Go.Shelf.Ren := ⟨fun | 284 => 70 | 129 => 80 | 317 => 79 | 318 => 81 | n => n, fun | 53 => 80 | 3 => 3 | 212 => 106 | 0 => 0 | 4 => 4 | 46 => 90 | 5 => 5 | 9 => 9 | n => n, fun | 17 => 1 | n => n⟩
theorem Tryd.laysM284 : Go.Proofs.LaysM.n284 Tryd.prog Tryd.laysM284_ren := {
  mixed := by kernel_rfl
  f129 := Tryd.func80.trans (congrArg some (by kernel_rfl))
  f284 := Tryd.func70.trans (congrArg some (by kernel_rfl))
  f317 := Tryd.func79.trans (congrArg some (by kernel_rfl))
  f318 := Tryd.func81.trans (congrArg some (by kernel_rfl))
  t0 := Tryd.underlying0
  a0 := Tryd.isAgg0
  z0 := Tryd.sizeOf0
  v0 := Tryd.zeroValue0
  t3 := Tryd.underlying3
  a3 := Tryd.isAgg3
  z3 := Tryd.sizeOf3
  v3 := Tryd.zeroValue3
  t4 := Tryd.underlying4
  a4 := Tryd.isAgg4
  z4 := Tryd.sizeOf4
  v4 := Tryd.zeroValue4
  t5 := Tryd.underlying5
  a5 := Tryd.isAgg5
  z5 := Tryd.sizeOf5
  v5 := Tryd.zeroValue5
  t9 := Tryd.underlying9
  a9 := Tryd.isAgg9
  z9 := Tryd.sizeOf9
  v9 := Tryd.zeroValue9
  t46 := Tryd.underlying90
  a46 := Tryd.isAgg90
  z46 := Tryd.sizeOf90
  v46 := Tryd.zeroValue90
  t53 := Tryd.underlying80
  a53 := Tryd.isAgg80
  z53 := Tryd.sizeOf80
  v53 := Tryd.zeroValue80
  t212 := Tryd.underlying106
  a212 := Tryd.isAgg106
  z212 := Tryd.sizeOf106
  v212 := Tryd.zeroValue106
  g17 := by kernel_rfl
  i0 := by kernel_rfl
  i3 := by kernel_rfl
  i4 := by kernel_rfl
  i5 := by kernel_rfl
  i9 := by kernel_rfl
  i46 := by kernel_rfl
  i53 := by kernel_rfl
  i212 := by kernel_rfl
  m17 := by kernel_rfl }
open Go.Lib in
/-- internal/strconv.numDigits, at a d that is not 0: THE NUMBER OF d's DECIMAL DIGITS. The world is as it was. (LAID: no walk: one application.) -/
theorem Tryd.internal_strconv_numDigits (u : Nat) (h1 : 1 ≤ u) (h2 : u < 18446744073709551616) (w : World) (htab : Lib.TabIs Tryd.prog w "internal/strconv.uint64pow10" .u64 Lib.pow10Tab) :
    Calls Tryd.prog 70 #[.int .u64 u] w fun e w' => e = .returned (.int .i64 (Lib.nDigits u)) ∧ w' = w := Any.internal_strconv_numDigits Tryd.laysM284 u h1 h2 w htab
def Tryd.lays285_ren : Go.Shelf.Ren := ⟨fun | 285 => 71 | n => n, fun | 37 => 24 | 53 => 80 | 3 => 3 | 4 => 4 | 51 => 107 | 9 => 9 | 5 => 5 | 0 => 0 | n => n, fun | n => n⟩
theorem Tryd.lays285 : Go.Proofs.Lays.n285 Tryd.prog Tryd.lays285_ren := {
  mixed := by kernel_rfl
  f285 := Tryd.func71.trans (congrArg some (by kernel_rfl))
  t0 := Tryd.underlying0
  a0 := Tryd.isAgg0
  z0 := Tryd.sizeOf0
  v0 := Tryd.zeroValue0
  t3 := Tryd.underlying3
  a3 := Tryd.isAgg3
  z3 := Tryd.sizeOf3
  v3 := Tryd.zeroValue3
  t4 := Tryd.underlying4
  a4 := Tryd.isAgg4
  z4 := Tryd.sizeOf4
  v4 := Tryd.zeroValue4
  t5 := Tryd.underlying5
  a5 := Tryd.isAgg5
  z5 := Tryd.sizeOf5
  v5 := Tryd.zeroValue5
  t9 := Tryd.underlying9
  a9 := Tryd.isAgg9
  z9 := Tryd.sizeOf9
  v9 := Tryd.zeroValue9
  t37 := Tryd.underlying24
  a37 := Tryd.isAgg24
  z37 := Tryd.sizeOf24
  v37 := Tryd.zeroValue24
  t51 := Tryd.underlying107
  a51 := Tryd.isAgg107
  z51 := Tryd.sizeOf107
  v51 := Tryd.zeroValue107
  t53 := Tryd.underlying80
  a53 := Tryd.isAgg80
  z53 := Tryd.sizeOf80
  v53 := Tryd.zeroValue80 }
open Go.RowKit Go.Sort Go.Lib in
/-- internal/strconv.formatBase10: "formatBase10 formats the decimal representation of u into a. The caller is responsible for ensuring that a is big enough to hold u. If a is too big, leading zeros will be filled in as needed.": THE ROW HOLDS u's DIGITS ('FmtInv .. 0 ..': every place t holds 'dg u (len - 1 - t)'); all else is as it was but for the count of draws. (LAID: no walk: one application.) -/
theorem Tryd.internal_strconv_formatBase10 (blk off cap : Nat) (u : Nat) (d : Array UInt8) (w : World) (hH : Holds (fun (b : UInt8) => Value.int .u8 (b.toNat : Int)) w blk off d) (hu : u < 10 ^ d.size) (hu64 : u < 18446744073709551616) (hsz : d.size < 4611686018427387904) :
    Calls Tryd.prog 71 #[.slice (some ⟨blk, off, none⟩) d.size cap, .int .u64 u] w fun e w' =>
      e = .returned (.tuple #[]) ∧ ∃ (n v' : Nat) (dk : Array UInt8), w' = (putRow (fun (b : UInt8) => Value.int .u8 (b.toNat : Int)) w blk off dk).drewN n ∧ FmtInv d.size u 0 v' dk := Any.internal_strconv_formatBase10 Tryd.lays285 blk off cap u d w hH hu hu64 hsz
def Tryd.laysM246_ren : Go.Shelf.Ren := ⟨fun | 246 => 64 | 283 => 69 | 284 => 70 | 285 => 71 | 286 => 72 | 129 => 80 | 317 => 79 | 318 => 81 | 319 => 82 | 320 => 83 | 337 => 92 | 338 => 93 | n => n, fun | 2 => 2 | 3 => 3 | 9 => 9 | 4 => 4 | 171 => 93 | 0 => 0 | 53 => 80 | 37 => 24 | 5 => 5 | 173 => 96 | 212 => 106 | 51 => 107 | 20 => 20 | 213 => 108 | 46 => 90 | 232 => 123 | 233 => 124 | n => n, fun | 17 => 1 | 18 => 2 | 19 => 3 | n => n⟩
theorem Tryd.laysM246 : Go.Proofs.LaysM.n246 Tryd.prog Tryd.laysM246_ren := {
  mixed := by kernel_rfl
  f129 := Tryd.func80.trans (congrArg some (by kernel_rfl))
  f246 := Tryd.func64.trans (congrArg some (by kernel_rfl))
  f283 := Tryd.func69.trans (congrArg some (by kernel_rfl))
  f284 := Tryd.func70.trans (congrArg some (by kernel_rfl))
  f285 := Tryd.func71.trans (congrArg some (by kernel_rfl))
  f286 := Tryd.func72.trans (congrArg some (by kernel_rfl))
  f317 := Tryd.func79.trans (congrArg some (by kernel_rfl))
  f318 := Tryd.func81.trans (congrArg some (by kernel_rfl))
  f319 := Tryd.func82.trans (congrArg some (by kernel_rfl))
  f320 := Tryd.func83.trans (congrArg some (by kernel_rfl))
  f337 := Tryd.func92.trans (congrArg some (by kernel_rfl))
  f338 := Tryd.func93.trans (congrArg some (by kernel_rfl))
  t0 := Tryd.underlying0
  a0 := Tryd.isAgg0
  z0 := Tryd.sizeOf0
  v0 := Tryd.zeroValue0
  t2 := Tryd.underlying2
  a2 := Tryd.isAgg2
  z2 := Tryd.sizeOf2
  v2 := Tryd.zeroValue2
  t3 := Tryd.underlying3
  a3 := Tryd.isAgg3
  z3 := Tryd.sizeOf3
  v3 := Tryd.zeroValue3
  t4 := Tryd.underlying4
  a4 := Tryd.isAgg4
  z4 := Tryd.sizeOf4
  v4 := Tryd.zeroValue4
  t5 := Tryd.underlying5
  a5 := Tryd.isAgg5
  z5 := Tryd.sizeOf5
  v5 := Tryd.zeroValue5
  t9 := Tryd.underlying9
  a9 := Tryd.isAgg9
  z9 := Tryd.sizeOf9
  v9 := Tryd.zeroValue9
  t20 := Tryd.underlying20
  a20 := Tryd.isAgg20
  z20 := Tryd.sizeOf20
  v20 := Tryd.zeroValue20
  t37 := Tryd.underlying24
  a37 := Tryd.isAgg24
  z37 := Tryd.sizeOf24
  v37 := Tryd.zeroValue24
  t46 := Tryd.underlying90
  a46 := Tryd.isAgg90
  z46 := Tryd.sizeOf90
  v46 := Tryd.zeroValue90
  t51 := Tryd.underlying107
  a51 := Tryd.isAgg107
  z51 := Tryd.sizeOf107
  v51 := Tryd.zeroValue107
  t53 := Tryd.underlying80
  a53 := Tryd.isAgg80
  z53 := Tryd.sizeOf80
  v53 := Tryd.zeroValue80
  t171 := Tryd.underlying93
  a171 := Tryd.isAgg93
  z171 := Tryd.sizeOf93
  v171 := Tryd.zeroValue93
  t173 := Tryd.underlying96
  a173 := Tryd.isAgg96
  z173 := Tryd.sizeOf96
  v173 := Tryd.zeroValue96
  t212 := Tryd.underlying106
  a212 := Tryd.isAgg106
  z212 := Tryd.sizeOf106
  v212 := Tryd.zeroValue106
  t213 := Tryd.underlying108
  a213 := Tryd.isAgg108
  z213 := Tryd.sizeOf108
  t232 := Tryd.underlying123
  a232 := Tryd.isAgg123
  z232 := Tryd.sizeOf123
  v232 := Tryd.zeroValue123
  t233 := Tryd.underlying124
  a233 := Tryd.isAgg124
  z233 := Tryd.sizeOf124
  v233 := Tryd.zeroValue124
  g17 := by kernel_rfl
  g18 := by kernel_rfl
  g19 := by kernel_rfl
  i0 := by kernel_rfl
  i2 := by kernel_rfl
  i3 := by kernel_rfl
  i4 := by kernel_rfl
  i5 := by kernel_rfl
  i9 := by kernel_rfl
  i20 := by kernel_rfl
  i37 := by kernel_rfl
  i46 := by kernel_rfl
  i51 := by kernel_rfl
  i53 := by kernel_rfl
  i171 := by kernel_rfl
  i173 := by kernel_rfl
  i212 := by kernel_rfl
  i232 := by kernel_rfl
  i233 := by kernel_rfl
  m17 := by kernel_rfl
  m18 := by kernel_rfl
  m19 := by kernel_rfl }
open Go.RowKit Go.Sort Go.Lib in
/-- internal/strconv.FormatInt: "FormatInt returns the string representation of i in the given base": AT BASE 10: i's decimal numeral, for every int64. The world behind the call: the world before it, new blocks behind the heap, draws. (LAID: no walk: one application.) -/
theorem Tryd.internal_strconv_FormatInt_10 (n : Int) (h0 : -9223372036854775808 ≤ n) (h1 : n ≤ 9223372036854775807) (w : World) (htab : Lib.TabIs Tryd.prog w "internal/strconv.uint64pow10" .u64 Lib.pow10Tab) :
    Calls Tryd.prog 64 #[.int .i64 n, .int .i64 10] w fun e w' => e = .returned (.string ⟨(Lib.itoa n).toArray⟩) ∧ ∃ k os, w' = grow (w.drewN k) os := Any.internal_strconv_FormatInt_10 Tryd.laysM246 n h0 h1 w htab
def Tryd.lays246_ren : Go.Shelf.Ren := ⟨fun | 246 => 64 | 283 => 69 | 284 => 70 | 285 => 71 | 286 => 72 | 129 => 80 | 317 => 79 | 318 => 81 | 319 => 82 | 320 => 83 | 337 => 92 | 338 => 93 | n => n, fun | 2 => 2 | 3 => 3 | 9 => 9 | 4 => 4 | 171 => 93 | 0 => 0 | 53 => 80 | 37 => 24 | 5 => 5 | 173 => 96 | 212 => 106 | 51 => 107 | 20 => 20 | 213 => 108 | 46 => 90 | 232 => 123 | 233 => 124 | n => n, fun | 17 => 1 | 18 => 2 | 19 => 3 | n => n⟩
theorem Tryd.lays246 : Go.Proofs.Lays.n246 Tryd.prog Tryd.lays246_ren := {
  mixed := by kernel_rfl
  f129 := Tryd.func80.trans (congrArg some (by kernel_rfl))
  f246 := Tryd.func64.trans (congrArg some (by kernel_rfl))
  f283 := Tryd.func69.trans (congrArg some (by kernel_rfl))
  f284 := Tryd.func70.trans (congrArg some (by kernel_rfl))
  f285 := Tryd.func71.trans (congrArg some (by kernel_rfl))
  f286 := Tryd.func72.trans (congrArg some (by kernel_rfl))
  f317 := Tryd.func79.trans (congrArg some (by kernel_rfl))
  f318 := Tryd.func81.trans (congrArg some (by kernel_rfl))
  f319 := Tryd.func82.trans (congrArg some (by kernel_rfl))
  f320 := Tryd.func83.trans (congrArg some (by kernel_rfl))
  f337 := Tryd.func92.trans (congrArg some (by kernel_rfl))
  f338 := Tryd.func93.trans (congrArg some (by kernel_rfl))
  t0 := Tryd.underlying0
  a0 := Tryd.isAgg0
  z0 := Tryd.sizeOf0
  v0 := Tryd.zeroValue0
  t2 := Tryd.underlying2
  a2 := Tryd.isAgg2
  z2 := Tryd.sizeOf2
  v2 := Tryd.zeroValue2
  t3 := Tryd.underlying3
  a3 := Tryd.isAgg3
  z3 := Tryd.sizeOf3
  v3 := Tryd.zeroValue3
  t4 := Tryd.underlying4
  a4 := Tryd.isAgg4
  z4 := Tryd.sizeOf4
  v4 := Tryd.zeroValue4
  t5 := Tryd.underlying5
  a5 := Tryd.isAgg5
  z5 := Tryd.sizeOf5
  v5 := Tryd.zeroValue5
  t9 := Tryd.underlying9
  a9 := Tryd.isAgg9
  z9 := Tryd.sizeOf9
  v9 := Tryd.zeroValue9
  t20 := Tryd.underlying20
  a20 := Tryd.isAgg20
  z20 := Tryd.sizeOf20
  v20 := Tryd.zeroValue20
  t37 := Tryd.underlying24
  a37 := Tryd.isAgg24
  z37 := Tryd.sizeOf24
  v37 := Tryd.zeroValue24
  t46 := Tryd.underlying90
  a46 := Tryd.isAgg90
  z46 := Tryd.sizeOf90
  v46 := Tryd.zeroValue90
  t51 := Tryd.underlying107
  a51 := Tryd.isAgg107
  z51 := Tryd.sizeOf107
  v51 := Tryd.zeroValue107
  t53 := Tryd.underlying80
  a53 := Tryd.isAgg80
  z53 := Tryd.sizeOf80
  v53 := Tryd.zeroValue80
  t171 := Tryd.underlying93
  a171 := Tryd.isAgg93
  z171 := Tryd.sizeOf93
  v171 := Tryd.zeroValue93
  t173 := Tryd.underlying96
  a173 := Tryd.isAgg96
  z173 := Tryd.sizeOf96
  v173 := Tryd.zeroValue96
  t212 := Tryd.underlying106
  a212 := Tryd.isAgg106
  z212 := Tryd.sizeOf106
  v212 := Tryd.zeroValue106
  t213 := Tryd.underlying108
  a213 := Tryd.isAgg108
  z213 := Tryd.sizeOf108
  t232 := Tryd.underlying123
  a232 := Tryd.isAgg123
  z232 := Tryd.sizeOf123
  v232 := Tryd.zeroValue123
  t233 := Tryd.underlying124
  a233 := Tryd.isAgg124
  z233 := Tryd.sizeOf124
  v233 := Tryd.zeroValue124
  g17 := by kernel_rfl
  g18 := by kernel_rfl
  g19 := by kernel_rfl }
open Go.RowKit Go.Sort Go.Lib in
/-- THE ROAD WITHOUT THE TABLE: 0 <= i < 100: two constants are read, nothing is laid: no premise on the world, and the world is as it was. (LAID: no walk: one application.) -/
theorem Tryd.internal_strconv_FormatInt_10_small (i : Nat) (hi : i < 100) (w : World) :
    Calls Tryd.prog 64 #[.int .i64 i, .int .i64 10] w fun e w' => e = .returned (.string ⟨(Lib.decDigits i).toArray⟩) ∧ w' = w := Any.internal_strconv_FormatInt_10_small Tryd.lays246 i hi w
def Tryd.laysM243_ren : Go.Shelf.Ren := ⟨fun | 243 => 52 | 246 => 64 | 283 => 69 | 284 => 70 | 285 => 71 | 286 => 72 | 129 => 80 | 317 => 79 | 318 => 81 | 319 => 82 | 320 => 83 | 337 => 92 | 338 => 93 | n => n, fun | 3 => 3 | 9 => 9 | 2 => 2 | 4 => 4 | 171 => 93 | 0 => 0 | 53 => 80 | 37 => 24 | 5 => 5 | 173 => 96 | 212 => 106 | 51 => 107 | 20 => 20 | 213 => 108 | 46 => 90 | 232 => 123 | 233 => 124 | n => n, fun | 17 => 1 | 18 => 2 | 19 => 3 | n => n⟩
theorem Tryd.laysM243 : Go.Proofs.LaysM.n243 Tryd.prog Tryd.laysM243_ren := {
  mixed := by kernel_rfl
  f129 := Tryd.func80.trans (congrArg some (by kernel_rfl))
  f243 := Tryd.func52.trans (congrArg some (by kernel_rfl))
  f246 := Tryd.func64.trans (congrArg some (by kernel_rfl))
  f283 := Tryd.func69.trans (congrArg some (by kernel_rfl))
  f284 := Tryd.func70.trans (congrArg some (by kernel_rfl))
  f285 := Tryd.func71.trans (congrArg some (by kernel_rfl))
  f286 := Tryd.func72.trans (congrArg some (by kernel_rfl))
  f317 := Tryd.func79.trans (congrArg some (by kernel_rfl))
  f318 := Tryd.func81.trans (congrArg some (by kernel_rfl))
  f319 := Tryd.func82.trans (congrArg some (by kernel_rfl))
  f320 := Tryd.func83.trans (congrArg some (by kernel_rfl))
  f337 := Tryd.func92.trans (congrArg some (by kernel_rfl))
  f338 := Tryd.func93.trans (congrArg some (by kernel_rfl))
  t0 := Tryd.underlying0
  a0 := Tryd.isAgg0
  z0 := Tryd.sizeOf0
  v0 := Tryd.zeroValue0
  t2 := Tryd.underlying2
  a2 := Tryd.isAgg2
  z2 := Tryd.sizeOf2
  v2 := Tryd.zeroValue2
  t3 := Tryd.underlying3
  a3 := Tryd.isAgg3
  z3 := Tryd.sizeOf3
  v3 := Tryd.zeroValue3
  t4 := Tryd.underlying4
  a4 := Tryd.isAgg4
  z4 := Tryd.sizeOf4
  v4 := Tryd.zeroValue4
  t5 := Tryd.underlying5
  a5 := Tryd.isAgg5
  z5 := Tryd.sizeOf5
  v5 := Tryd.zeroValue5
  t9 := Tryd.underlying9
  a9 := Tryd.isAgg9
  z9 := Tryd.sizeOf9
  v9 := Tryd.zeroValue9
  t20 := Tryd.underlying20
  a20 := Tryd.isAgg20
  z20 := Tryd.sizeOf20
  v20 := Tryd.zeroValue20
  t37 := Tryd.underlying24
  a37 := Tryd.isAgg24
  z37 := Tryd.sizeOf24
  v37 := Tryd.zeroValue24
  t46 := Tryd.underlying90
  a46 := Tryd.isAgg90
  z46 := Tryd.sizeOf90
  v46 := Tryd.zeroValue90
  t51 := Tryd.underlying107
  a51 := Tryd.isAgg107
  z51 := Tryd.sizeOf107
  v51 := Tryd.zeroValue107
  t53 := Tryd.underlying80
  a53 := Tryd.isAgg80
  z53 := Tryd.sizeOf80
  v53 := Tryd.zeroValue80
  t171 := Tryd.underlying93
  a171 := Tryd.isAgg93
  z171 := Tryd.sizeOf93
  v171 := Tryd.zeroValue93
  t173 := Tryd.underlying96
  a173 := Tryd.isAgg96
  z173 := Tryd.sizeOf96
  v173 := Tryd.zeroValue96
  t212 := Tryd.underlying106
  a212 := Tryd.isAgg106
  z212 := Tryd.sizeOf106
  v212 := Tryd.zeroValue106
  t213 := Tryd.underlying108
  a213 := Tryd.isAgg108
  z213 := Tryd.sizeOf108
  t232 := Tryd.underlying123
  a232 := Tryd.isAgg123
  z232 := Tryd.sizeOf123
  v232 := Tryd.zeroValue123
  t233 := Tryd.underlying124
  a233 := Tryd.isAgg124
  z233 := Tryd.sizeOf124
  v233 := Tryd.zeroValue124
  g17 := by kernel_rfl
  g18 := by kernel_rfl
  g19 := by kernel_rfl
  i0 := by kernel_rfl
  i2 := by kernel_rfl
  i3 := by kernel_rfl
  i4 := by kernel_rfl
  i5 := by kernel_rfl
  i9 := by kernel_rfl
  i20 := by kernel_rfl
  i37 := by kernel_rfl
  i46 := by kernel_rfl
  i51 := by kernel_rfl
  i53 := by kernel_rfl
  i171 := by kernel_rfl
  i173 := by kernel_rfl
  i212 := by kernel_rfl
  i232 := by kernel_rfl
  i233 := by kernel_rfl
  m17 := by kernel_rfl
  m18 := by kernel_rfl
  m19 := by kernel_rfl }
open Go.RowKit Go.Sort Go.Lib in
/-- internal/strconv.Itoa: "Itoa is equivalent to FormatInt(int64(i), 10).": i's decimal numeral, for every int. (LAID: no walk: one application.) -/
theorem Tryd.internal_strconv_Itoa (n : Int) (h0 : -9223372036854775808 ≤ n) (h1 : n ≤ 9223372036854775807) (w : World) (htab : Lib.TabIs Tryd.prog w "internal/strconv.uint64pow10" .u64 Lib.pow10Tab) :
    Calls Tryd.prog 52 #[.int .i64 n] w fun e w' => e = .returned (.string ⟨(Lib.itoa n).toArray⟩) ∧ ∃ k os, w' = grow (w.drewN k) os := Any.internal_strconv_Itoa Tryd.laysM243 n h0 h1 w htab
def Tryd.lays243_ren : Go.Shelf.Ren := ⟨fun | 243 => 52 | 246 => 64 | 283 => 69 | 284 => 70 | 285 => 71 | 286 => 72 | 129 => 80 | 317 => 79 | 318 => 81 | 319 => 82 | 320 => 83 | 337 => 92 | 338 => 93 | n => n, fun | 3 => 3 | 9 => 9 | 2 => 2 | 4 => 4 | 171 => 93 | 0 => 0 | 53 => 80 | 37 => 24 | 5 => 5 | 173 => 96 | 212 => 106 | 51 => 107 | 20 => 20 | 213 => 108 | 46 => 90 | 232 => 123 | 233 => 124 | n => n, fun | 17 => 1 | 18 => 2 | 19 => 3 | n => n⟩
theorem Tryd.lays243 : Go.Proofs.Lays.n243 Tryd.prog Tryd.lays243_ren := {
  mixed := by kernel_rfl
  f129 := Tryd.func80.trans (congrArg some (by kernel_rfl))
  f243 := Tryd.func52.trans (congrArg some (by kernel_rfl))
  f246 := Tryd.func64.trans (congrArg some (by kernel_rfl))
  f283 := Tryd.func69.trans (congrArg some (by kernel_rfl))
  f284 := Tryd.func70.trans (congrArg some (by kernel_rfl))
  f285 := Tryd.func71.trans (congrArg some (by kernel_rfl))
  f286 := Tryd.func72.trans (congrArg some (by kernel_rfl))
  f317 := Tryd.func79.trans (congrArg some (by kernel_rfl))
  f318 := Tryd.func81.trans (congrArg some (by kernel_rfl))
  f319 := Tryd.func82.trans (congrArg some (by kernel_rfl))
  f320 := Tryd.func83.trans (congrArg some (by kernel_rfl))
  f337 := Tryd.func92.trans (congrArg some (by kernel_rfl))
  f338 := Tryd.func93.trans (congrArg some (by kernel_rfl))
  t0 := Tryd.underlying0
  a0 := Tryd.isAgg0
  z0 := Tryd.sizeOf0
  v0 := Tryd.zeroValue0
  t2 := Tryd.underlying2
  a2 := Tryd.isAgg2
  z2 := Tryd.sizeOf2
  v2 := Tryd.zeroValue2
  t3 := Tryd.underlying3
  a3 := Tryd.isAgg3
  z3 := Tryd.sizeOf3
  v3 := Tryd.zeroValue3
  t4 := Tryd.underlying4
  a4 := Tryd.isAgg4
  z4 := Tryd.sizeOf4
  v4 := Tryd.zeroValue4
  t5 := Tryd.underlying5
  a5 := Tryd.isAgg5
  z5 := Tryd.sizeOf5
  v5 := Tryd.zeroValue5
  t9 := Tryd.underlying9
  a9 := Tryd.isAgg9
  z9 := Tryd.sizeOf9
  v9 := Tryd.zeroValue9
  t20 := Tryd.underlying20
  a20 := Tryd.isAgg20
  z20 := Tryd.sizeOf20
  v20 := Tryd.zeroValue20
  t37 := Tryd.underlying24
  a37 := Tryd.isAgg24
  z37 := Tryd.sizeOf24
  v37 := Tryd.zeroValue24
  t46 := Tryd.underlying90
  a46 := Tryd.isAgg90
  z46 := Tryd.sizeOf90
  v46 := Tryd.zeroValue90
  t51 := Tryd.underlying107
  a51 := Tryd.isAgg107
  z51 := Tryd.sizeOf107
  v51 := Tryd.zeroValue107
  t53 := Tryd.underlying80
  a53 := Tryd.isAgg80
  z53 := Tryd.sizeOf80
  v53 := Tryd.zeroValue80
  t171 := Tryd.underlying93
  a171 := Tryd.isAgg93
  z171 := Tryd.sizeOf93
  v171 := Tryd.zeroValue93
  t173 := Tryd.underlying96
  a173 := Tryd.isAgg96
  z173 := Tryd.sizeOf96
  v173 := Tryd.zeroValue96
  t212 := Tryd.underlying106
  a212 := Tryd.isAgg106
  z212 := Tryd.sizeOf106
  v212 := Tryd.zeroValue106
  t213 := Tryd.underlying108
  a213 := Tryd.isAgg108
  z213 := Tryd.sizeOf108
  t232 := Tryd.underlying123
  a232 := Tryd.isAgg123
  z232 := Tryd.sizeOf123
  v232 := Tryd.zeroValue123
  t233 := Tryd.underlying124
  a233 := Tryd.isAgg124
  z233 := Tryd.sizeOf124
  v233 := Tryd.zeroValue124
  g17 := by kernel_rfl
  g18 := by kernel_rfl
  g19 := by kernel_rfl }
open Go.RowKit Go.Sort Go.Lib in
/-- THE ROAD WITHOUT THE TABLE: 0 <= i < 100. (LAID: no walk: one application.) -/
theorem Tryd.internal_strconv_Itoa_small (i : Nat) (hi : i < 100) (w : World) :
    Calls Tryd.prog 52 #[.int .i64 i] w fun e w' => e = .returned (.string ⟨(Lib.decDigits i).toArray⟩) ∧ w' = w := Any.internal_strconv_Itoa_small Tryd.lays243 i hi w
def Tryd.laysM171_ren : Go.Shelf.Ren := ⟨fun | 171 => 31 | 243 => 52 | 246 => 64 | 283 => 69 | 284 => 70 | 285 => 71 | 286 => 72 | 129 => 80 | 317 => 79 | 318 => 81 | 319 => 82 | 320 => 83 | 337 => 92 | 338 => 93 | n => n, fun | 3 => 3 | 9 => 9 | 2 => 2 | 4 => 4 | 171 => 93 | 0 => 0 | 53 => 80 | 37 => 24 | 5 => 5 | 173 => 96 | 212 => 106 | 51 => 107 | 20 => 20 | 213 => 108 | 46 => 90 | 232 => 123 | 233 => 124 | n => n, fun | 17 => 1 | 18 => 2 | 19 => 3 | n => n⟩
theorem Tryd.laysM171 : Go.Proofs.LaysM.n171 Tryd.prog Tryd.laysM171_ren := {
  mixed := by kernel_rfl
  f129 := Tryd.func80.trans (congrArg some (by kernel_rfl))
  f171 := Tryd.func31.trans (congrArg some (by kernel_rfl))
  f243 := Tryd.func52.trans (congrArg some (by kernel_rfl))
  f246 := Tryd.func64.trans (congrArg some (by kernel_rfl))
  f283 := Tryd.func69.trans (congrArg some (by kernel_rfl))
  f284 := Tryd.func70.trans (congrArg some (by kernel_rfl))
  f285 := Tryd.func71.trans (congrArg some (by kernel_rfl))
  f286 := Tryd.func72.trans (congrArg some (by kernel_rfl))
  f317 := Tryd.func79.trans (congrArg some (by kernel_rfl))
  f318 := Tryd.func81.trans (congrArg some (by kernel_rfl))
  f319 := Tryd.func82.trans (congrArg some (by kernel_rfl))
  f320 := Tryd.func83.trans (congrArg some (by kernel_rfl))
  f337 := Tryd.func92.trans (congrArg some (by kernel_rfl))
  f338 := Tryd.func93.trans (congrArg some (by kernel_rfl))
  t0 := Tryd.underlying0
  a0 := Tryd.isAgg0
  z0 := Tryd.sizeOf0
  v0 := Tryd.zeroValue0
  t2 := Tryd.underlying2
  a2 := Tryd.isAgg2
  z2 := Tryd.sizeOf2
  v2 := Tryd.zeroValue2
  t3 := Tryd.underlying3
  a3 := Tryd.isAgg3
  z3 := Tryd.sizeOf3
  v3 := Tryd.zeroValue3
  t4 := Tryd.underlying4
  a4 := Tryd.isAgg4
  z4 := Tryd.sizeOf4
  v4 := Tryd.zeroValue4
  t5 := Tryd.underlying5
  a5 := Tryd.isAgg5
  z5 := Tryd.sizeOf5
  v5 := Tryd.zeroValue5
  t9 := Tryd.underlying9
  a9 := Tryd.isAgg9
  z9 := Tryd.sizeOf9
  v9 := Tryd.zeroValue9
  t20 := Tryd.underlying20
  a20 := Tryd.isAgg20
  z20 := Tryd.sizeOf20
  v20 := Tryd.zeroValue20
  t37 := Tryd.underlying24
  a37 := Tryd.isAgg24
  z37 := Tryd.sizeOf24
  v37 := Tryd.zeroValue24
  t46 := Tryd.underlying90
  a46 := Tryd.isAgg90
  z46 := Tryd.sizeOf90
  v46 := Tryd.zeroValue90
  t51 := Tryd.underlying107
  a51 := Tryd.isAgg107
  z51 := Tryd.sizeOf107
  v51 := Tryd.zeroValue107
  t53 := Tryd.underlying80
  a53 := Tryd.isAgg80
  z53 := Tryd.sizeOf80
  v53 := Tryd.zeroValue80
  t171 := Tryd.underlying93
  a171 := Tryd.isAgg93
  z171 := Tryd.sizeOf93
  v171 := Tryd.zeroValue93
  t173 := Tryd.underlying96
  a173 := Tryd.isAgg96
  z173 := Tryd.sizeOf96
  v173 := Tryd.zeroValue96
  t212 := Tryd.underlying106
  a212 := Tryd.isAgg106
  z212 := Tryd.sizeOf106
  v212 := Tryd.zeroValue106
  t213 := Tryd.underlying108
  a213 := Tryd.isAgg108
  z213 := Tryd.sizeOf108
  t232 := Tryd.underlying123
  a232 := Tryd.isAgg123
  z232 := Tryd.sizeOf123
  v232 := Tryd.zeroValue123
  t233 := Tryd.underlying124
  a233 := Tryd.isAgg124
  z233 := Tryd.sizeOf124
  v233 := Tryd.zeroValue124
  g17 := by kernel_rfl
  g18 := by kernel_rfl
  g19 := by kernel_rfl
  i0 := by kernel_rfl
  i2 := by kernel_rfl
  i3 := by kernel_rfl
  i4 := by kernel_rfl
  i5 := by kernel_rfl
  i9 := by kernel_rfl
  i20 := by kernel_rfl
  i37 := by kernel_rfl
  i46 := by kernel_rfl
  i51 := by kernel_rfl
  i53 := by kernel_rfl
  i171 := by kernel_rfl
  i173 := by kernel_rfl
  i212 := by kernel_rfl
  i232 := by kernel_rfl
  i233 := by kernel_rfl
  m17 := by kernel_rfl
  m18 := by kernel_rfl
  m19 := by kernel_rfl }
open Go.RowKit Go.Sort Go.Lib in
/-- strconv.Itoa: "Itoa is equivalent to FormatInt(int64(i), 10).": i's DECIMAL NUMERAL ('Lib.itoa': a '-' where i is negative, then the digits), FOR EVERY int. The world behind the call: the world before it, new blocks behind the heap (the library's 'var a [24]byte'), draws. (LAID: no walk: one application.) -/
theorem Tryd.strconv_Itoa (n : Int) (h0 : -9223372036854775808 ≤ n) (h1 : n ≤ 9223372036854775807) (w : World) (htab : Lib.TabIs Tryd.prog w "internal/strconv.uint64pow10" .u64 Lib.pow10Tab) :
    Calls Tryd.prog 31 #[.int .i64 n] w fun e w' => e = .returned (.string ⟨(Lib.itoa n).toArray⟩) ∧ ∃ k os, w' = grow (w.drewN k) os := Any.strconv_Itoa Tryd.laysM171 n h0 h1 w htab
def Tryd.lays171_ren : Go.Shelf.Ren := ⟨fun | 171 => 31 | 243 => 52 | 246 => 64 | 283 => 69 | 284 => 70 | 285 => 71 | 286 => 72 | 129 => 80 | 317 => 79 | 318 => 81 | 319 => 82 | 320 => 83 | 337 => 92 | 338 => 93 | n => n, fun | 3 => 3 | 9 => 9 | 2 => 2 | 4 => 4 | 171 => 93 | 0 => 0 | 53 => 80 | 37 => 24 | 5 => 5 | 173 => 96 | 212 => 106 | 51 => 107 | 20 => 20 | 213 => 108 | 46 => 90 | 232 => 123 | 233 => 124 | n => n, fun | 17 => 1 | 18 => 2 | 19 => 3 | n => n⟩
theorem Tryd.lays171 : Go.Proofs.Lays.n171 Tryd.prog Tryd.lays171_ren := {
  mixed := by kernel_rfl
  f129 := Tryd.func80.trans (congrArg some (by kernel_rfl))
  f171 := Tryd.func31.trans (congrArg some (by kernel_rfl))
  f243 := Tryd.func52.trans (congrArg some (by kernel_rfl))
  f246 := Tryd.func64.trans (congrArg some (by kernel_rfl))
  f283 := Tryd.func69.trans (congrArg some (by kernel_rfl))
  f284 := Tryd.func70.trans (congrArg some (by kernel_rfl))
  f285 := Tryd.func71.trans (congrArg some (by kernel_rfl))
  f286 := Tryd.func72.trans (congrArg some (by kernel_rfl))
  f317 := Tryd.func79.trans (congrArg some (by kernel_rfl))
  f318 := Tryd.func81.trans (congrArg some (by kernel_rfl))
  f319 := Tryd.func82.trans (congrArg some (by kernel_rfl))
  f320 := Tryd.func83.trans (congrArg some (by kernel_rfl))
  f337 := Tryd.func92.trans (congrArg some (by kernel_rfl))
  f338 := Tryd.func93.trans (congrArg some (by kernel_rfl))
  t0 := Tryd.underlying0
  a0 := Tryd.isAgg0
  z0 := Tryd.sizeOf0
  v0 := Tryd.zeroValue0
  t2 := Tryd.underlying2
  a2 := Tryd.isAgg2
  z2 := Tryd.sizeOf2
  v2 := Tryd.zeroValue2
  t3 := Tryd.underlying3
  a3 := Tryd.isAgg3
  z3 := Tryd.sizeOf3
  v3 := Tryd.zeroValue3
  t4 := Tryd.underlying4
  a4 := Tryd.isAgg4
  z4 := Tryd.sizeOf4
  v4 := Tryd.zeroValue4
  t5 := Tryd.underlying5
  a5 := Tryd.isAgg5
  z5 := Tryd.sizeOf5
  v5 := Tryd.zeroValue5
  t9 := Tryd.underlying9
  a9 := Tryd.isAgg9
  z9 := Tryd.sizeOf9
  v9 := Tryd.zeroValue9
  t20 := Tryd.underlying20
  a20 := Tryd.isAgg20
  z20 := Tryd.sizeOf20
  v20 := Tryd.zeroValue20
  t37 := Tryd.underlying24
  a37 := Tryd.isAgg24
  z37 := Tryd.sizeOf24
  v37 := Tryd.zeroValue24
  t46 := Tryd.underlying90
  a46 := Tryd.isAgg90
  z46 := Tryd.sizeOf90
  v46 := Tryd.zeroValue90
  t51 := Tryd.underlying107
  a51 := Tryd.isAgg107
  z51 := Tryd.sizeOf107
  v51 := Tryd.zeroValue107
  t53 := Tryd.underlying80
  a53 := Tryd.isAgg80
  z53 := Tryd.sizeOf80
  v53 := Tryd.zeroValue80
  t171 := Tryd.underlying93
  a171 := Tryd.isAgg93
  z171 := Tryd.sizeOf93
  v171 := Tryd.zeroValue93
  t173 := Tryd.underlying96
  a173 := Tryd.isAgg96
  z173 := Tryd.sizeOf96
  v173 := Tryd.zeroValue96
  t212 := Tryd.underlying106
  a212 := Tryd.isAgg106
  z212 := Tryd.sizeOf106
  v212 := Tryd.zeroValue106
  t213 := Tryd.underlying108
  a213 := Tryd.isAgg108
  z213 := Tryd.sizeOf108
  t232 := Tryd.underlying123
  a232 := Tryd.isAgg123
  z232 := Tryd.sizeOf123
  v232 := Tryd.zeroValue123
  t233 := Tryd.underlying124
  a233 := Tryd.isAgg124
  z233 := Tryd.sizeOf124
  v233 := Tryd.zeroValue124
  g17 := by kernel_rfl
  g18 := by kernel_rfl
  g19 := by kernel_rfl }
open Go.RowKit Go.Sort Go.Lib in
/-- THE ROAD WITHOUT THE TABLE: 0 <= i < 100: NO PREMISE ON THE WORLD, AND THE WORLD IS AS IT WAS: a row that keeps its argument in that range need list no table ('laid = []'). (LAID: no walk: one application.) -/
theorem Tryd.strconv_Itoa_small (i : Nat) (hi : i < 100) (w : World) :
    Calls Tryd.prog 31 #[.int .i64 i] w fun e w' => e = .returned (.string ⟨(Lib.decDigits i).toArray⟩) ∧ w' = w := Any.strconv_Itoa_small Tryd.lays171 i hi w
open Go.RowKit in
/-- internal/strconv.Atoi, at a string of 1 to 18 bytes THAT IS NO DECIMAL NUMERAL: 0, AND ErrSyntax (the package's own error number 2). The world behind the call: as it was, or with the one new row that '[]byte(s)' lays. (LAID: no walk: one application.) -/
theorem Tryd.internal_strconv_Atoi_err (s : ByteArray) (hl0 : 1 ≤ s.size) (hl : s.size ≤ 18) (h : Lib.atoi s.data.toList = none) (w : World) :
    Calls Tryd.prog 84 #[.string s] w fun e w' => e = .returned (.tuple #[.int .i64 0, (.iface 116 (.int .i64 2))]) ∧ (w' = w ∨ ∃ t, w' = Lib.bytesWorld w 5 t) := Any.internal_strconv_Atoi_err Tryd.lays244 s hl0 hl h w
def Tryd.lays247_ren : Go.Shelf.Ren := ⟨fun | 247 => 94 | 287 => 101 | 321 => 104 | 322 => 105 | n => n, fun | 9 => 9 | 3 => 3 | 2 => 2 | 75 => 99 | 4 => 4 | 167 => 116 | 5 => 5 | 53 => 80 | 175 => 125 | 46 => 90 | 37 => 24 | 0 => 0 | 21 => 21 | 80 => 135 | n => n, fun | n => n⟩
theorem Tryd.lays247 : Go.Proofs.Lays.n247 Tryd.prog Tryd.lays247_ren := {
  mixed := by kernel_rfl
  f247 := Tryd.func94.trans (congrArg some (by kernel_rfl))
  f287 := Tryd.func101.trans (congrArg some (by kernel_rfl))
  f321 := Tryd.func104.trans (congrArg some (by kernel_rfl))
  f322 := Tryd.func105.trans (congrArg some (by kernel_rfl))
  t0 := Tryd.underlying0
  a0 := Tryd.isAgg0
  z0 := Tryd.sizeOf0
  v0 := Tryd.zeroValue0
  t2 := Tryd.underlying2
  a2 := Tryd.isAgg2
  z2 := Tryd.sizeOf2
  v2 := Tryd.zeroValue2
  t3 := Tryd.underlying3
  a3 := Tryd.isAgg3
  z3 := Tryd.sizeOf3
  v3 := Tryd.zeroValue3
  t4 := Tryd.underlying4
  a4 := Tryd.isAgg4
  z4 := Tryd.sizeOf4
  v4 := Tryd.zeroValue4
  t5 := Tryd.underlying5
  a5 := Tryd.isAgg5
  z5 := Tryd.sizeOf5
  v5 := Tryd.zeroValue5
  t9 := Tryd.underlying9
  a9 := Tryd.isAgg9
  z9 := Tryd.sizeOf9
  v9 := Tryd.zeroValue9
  t21 := Tryd.underlying21
  a21 := Tryd.isAgg21
  z21 := Tryd.sizeOf21
  v21 := Tryd.zeroValue21
  t37 := Tryd.underlying24
  a37 := Tryd.isAgg24
  z37 := Tryd.sizeOf24
  v37 := Tryd.zeroValue24
  t46 := Tryd.underlying90
  a46 := Tryd.isAgg90
  z46 := Tryd.sizeOf90
  v46 := Tryd.zeroValue90
  t53 := Tryd.underlying80
  a53 := Tryd.isAgg80
  z53 := Tryd.sizeOf80
  v53 := Tryd.zeroValue80
  t75 := Tryd.underlying99
  a75 := Tryd.isAgg99
  z75 := Tryd.sizeOf99
  v75 := Tryd.zeroValue99
  t167 := Tryd.underlying116
  a167 := Tryd.isAgg116
  z167 := Tryd.sizeOf116
  v167 := Tryd.zeroValue116
  t175 := Tryd.underlying125
  a175 := Tryd.isAgg125
  z175 := Tryd.sizeOf125
  v175 := Tryd.zeroValue125 }
open Go.RowKit in
/-- internal/strconv.ParseInt at "": 'if s == "" { return 0, ErrSyntax }'. The world is as it was. (LAID: no walk: one application.) -/
theorem Tryd.internal_strconv_ParseInt_empty (base bits : Int) (w : World) :
    Calls Tryd.prog 94 #[.string ⟨#[]⟩, .int .i64 base, .int .i64 bits] w fun e w' => e = .returned (.tuple #[.int .i64 0, (.iface 116 (.int .i64 2))]) ∧ w' = w := Any.internal_strconv_ParseInt_empty Tryd.lays247 base bits w
open Go.RowKit in
/-- internal/strconv.Atoi at "". (LAID: no walk: one application.) -/
theorem Tryd.internal_strconv_Atoi_empty (w : World) :
    Calls Tryd.prog 84 #[.string ⟨#[]⟩] w fun e w' => e = .returned (.tuple #[.int .i64 0, (.iface 116 (.int .i64 2))]) ∧ w' = w := Any.internal_strconv_Atoi_empty Tryd.lays244 w
open Go.RowKit in
/-- internal/strconv.Atoi, AT EVERY STRING OF AT MOST 18 BYTES THAT IS NO DECIMAL NUMERAL: 0, and ErrSyntax. (LAID: no walk: one application.) -/
theorem Tryd.internal_strconv_Atoi_fail (s : ByteArray) (hl : s.size ≤ 18) (h : Lib.atoi s.data.toList = none) (w : World) :
    Calls Tryd.prog 84 #[.string s] w fun e w' => e = .returned (.tuple #[.int .i64 0, (.iface 116 (.int .i64 2))]) ∧ (w' = w ∨ ∃ t, w' = Lib.bytesWorld w 5 t) := Any.internal_strconv_Atoi_fail Tryd.lays244 s hl h w
def Tryd.laysM316_ren : Go.Shelf.Ren := ⟨fun | 316 => 102 | n => n, fun | 9 => 9 | 3 => 3 | 4 => 4 | 37 => 24 | 0 => 0 | 127 => 131 | 5 => 5 | n => n, fun | n => n⟩
theorem Tryd.laysM316 : Go.Proofs.LaysM.n316 Tryd.prog Tryd.laysM316_ren := {
  mixed := by kernel_rfl
  f316 := Tryd.func102.trans (congrArg some (by kernel_rfl))
  t0 := Tryd.underlying0
  a0 := Tryd.isAgg0
  z0 := Tryd.sizeOf0
  v0 := Tryd.zeroValue0
  t3 := Tryd.underlying3
  a3 := Tryd.isAgg3
  z3 := Tryd.sizeOf3
  v3 := Tryd.zeroValue3
  t4 := Tryd.underlying4
  a4 := Tryd.isAgg4
  z4 := Tryd.sizeOf4
  v4 := Tryd.zeroValue4
  t9 := Tryd.underlying9
  a9 := Tryd.isAgg9
  z9 := Tryd.sizeOf9
  v9 := Tryd.zeroValue9
  t37 := Tryd.underlying24
  a37 := Tryd.isAgg24
  z37 := Tryd.sizeOf24
  v37 := Tryd.zeroValue24
  t127 := Tryd.underlying131
  a127 := Tryd.isAgg131
  z127 := Tryd.sizeOf131
  v127 := Tryd.zeroValue131
  t5 := Tryd.underlying5
  a5 := Tryd.isAgg5
  z5 := Tryd.sizeOf5
  v5 := Tryd.zeroValue5
  i0 := by kernel_rfl
  i3 := by kernel_rfl
  i4 := by kernel_rfl
  i5 := by kernel_rfl
  i9 := by kernel_rfl
  i37 := by kernel_rfl
  i127 := by kernel_rfl }
open Go.RowKit in
/-- internal/stringslite.Clone (what strings.Clone calls): "Clone returns a fresh copy of s.": THE SAME BYTES. Of what was there nothing has turned (a new row is laid, and frozen, where s is not empty). (LAID: no walk: one application.) -/
theorem Tryd.stringslite_Clone (s : ByteArray) (w : World) (hlim : s.size ≤ 281474976710656) :
    Calls Tryd.prog 102 #[.string s] w fun e w' => e = .returned (.string s) ∧ Below w.heap.size w w' := Any.stringslite_Clone Tryd.laysM316 s w hlim
def Tryd.laysM279_ren : Go.Shelf.Ren := ⟨fun | 279 => 95 | 316 => 102 | n => n, fun | 9 => 9 | 168 => 119 | 75 => 99 | 210 => 128 | 3 => 3 | 4 => 4 | 37 => 24 | 0 => 0 | 127 => 131 | 80 => 135 | 5 => 5 | n => n, fun | 15 => 4 | n => n⟩
theorem Tryd.laysM279 : Go.Proofs.LaysM.n279 Tryd.prog Tryd.laysM279_ren := {
  mixed := by kernel_rfl
  f279 := Tryd.func95.trans (congrArg some (by kernel_rfl))
  f316 := Tryd.func102.trans (congrArg some (by kernel_rfl))
  t0 := Tryd.underlying0
  a0 := Tryd.isAgg0
  z0 := Tryd.sizeOf0
  v0 := Tryd.zeroValue0
  t3 := Tryd.underlying3
  a3 := Tryd.isAgg3
  z3 := Tryd.sizeOf3
  v3 := Tryd.zeroValue3
  t4 := Tryd.underlying4
  a4 := Tryd.isAgg4
  z4 := Tryd.sizeOf4
  v4 := Tryd.zeroValue4
  t9 := Tryd.underlying9
  a9 := Tryd.isAgg9
  z9 := Tryd.sizeOf9
  v9 := Tryd.zeroValue9
  t37 := Tryd.underlying24
  a37 := Tryd.isAgg24
  z37 := Tryd.sizeOf24
  v37 := Tryd.zeroValue24
  t75 := Tryd.underlying99
  a75 := Tryd.isAgg99
  z75 := Tryd.sizeOf99
  v75 := Tryd.zeroValue99
  t127 := Tryd.underlying131
  a127 := Tryd.isAgg131
  z127 := Tryd.sizeOf131
  v127 := Tryd.zeroValue131
  t168 := Tryd.underlying119
  a168 := Tryd.isAgg119
  z168 := Tryd.sizeOf119
  v168 := Tryd.zeroValue119
  t210 := Tryd.underlying128
  a210 := Tryd.isAgg128
  z210 := Tryd.sizeOf128
  v210 := Tryd.zeroValue128
  g15 := by kernel_rfl
  t5 := Tryd.underlying5
  a5 := Tryd.isAgg5
  z5 := Tryd.sizeOf5
  v5 := Tryd.zeroValue5
  t80 := Tryd.underlying135
  a80 := Tryd.isAgg135
  z80 := Tryd.sizeOf135
  v80 := Tryd.zeroValue135
  i0 := by kernel_rfl
  i3 := by kernel_rfl
  i4 := by kernel_rfl
  i5 := by kernel_rfl
  i9 := by kernel_rfl
  i37 := by kernel_rfl
  i75 := by kernel_rfl
  i80 := by kernel_rfl
  i127 := by kernel_rfl
  i168 := by kernel_rfl
  i210 := by kernel_rfl
  m15 := by kernel_rfl }
open Go.RowKit in
/-- strconv.syntaxError: '&NumError{fn, stringslite.Clone(str), ErrSyntax}': A POINTER TO A NEW BLOCK that holds fn, str's bytes, and what the variable ErrSyntax holds. Of what was there nothing has turned. (LAID: no walk: one application.) -/
theorem Tryd.strconv_syntaxError (fn s : ByteArray) (ev : Value) (w : World) (hlim : s.size ≤ 281474976710656) (hv : w.cell? ⟨4, 0, none⟩ = some ev) (hev : ev = .nilIface ∨ ∃ te pe, ev = .iface te pe) :
    Calls Tryd.prog 95 #[.string fn, .string s] w fun e w' => ∃ N, e = .returned (.pointer (some ⟨N, 0, none⟩)) ∧ w.heap.size ≤ N ∧ w'.heap[N]? = some (.cells #[.string fn, .string s, ev] 128 (0, 0)) ∧ Below w.heap.size w w' := Any.strconv_syntaxError Tryd.laysM279 fn s ev w hlim hv hev
def Tryd.laysC245_ren : Go.Shelf.Ren := ⟨fun | 245 => 85 | 279 => 95 | 280 => 96 | 281 => 97 | 282 => 98 | 316 => 102 | 171 => 31 | 205 => 103 | 243 => 52 | 246 => 64 | 283 => 69 | 284 => 70 | 285 => 71 | 286 => 72 | 129 => 80 | 317 => 79 | 318 => 81 | 319 => 82 | 320 => 83 | 337 => 92 | 338 => 93 | n => n, fun | 9 => 9 | 3 => 3 | 75 => 99 | 167 => 116 | 4 => 4 | 168 => 119 | 210 => 128 | 37 => 24 | 0 => 0 | 127 => 131 | 145 => 134 | 143 => 132 | 2 => 2 | 171 => 93 | 53 => 80 | 5 => 5 | 173 => 96 | 212 => 106 | 51 => 107 | 20 => 20 | 213 => 108 | 46 => 90 | 232 => 123 | 233 => 124 | 80 => 135 | n => n, fun | 15 => 4 | 16 => 5 | 17 => 1 | 18 => 2 | 19 => 3 | n => n⟩
theorem Tryd.laysC245 : Go.Proofs.LaysC.n245 Tryd.prog Tryd.laysC245_ren := {
  mixed := by kernel_rfl
  f129 := Tryd.func80.trans (congrArg some (by kernel_rfl))
  f171 := Tryd.func31.trans (congrArg some (by kernel_rfl))
  f205 := Tryd.func103.trans (congrArg some (by kernel_rfl))
  f243 := Tryd.func52.trans (congrArg some (by kernel_rfl))
  f245 := Tryd.func85.trans (congrArg some (by kernel_rfl))
  f246 := Tryd.func64.trans (congrArg some (by kernel_rfl))
  f279 := Tryd.func95.trans (congrArg some (by kernel_rfl))
  f280 := Tryd.func96.trans (congrArg some (by kernel_rfl))
  f281 := Tryd.func97.trans (congrArg some (by kernel_rfl))
  f282 := Tryd.func98.trans (congrArg some (by kernel_rfl))
  f283 := Tryd.func69.trans (congrArg some (by kernel_rfl))
  f284 := Tryd.func70.trans (congrArg some (by kernel_rfl))
  f285 := Tryd.func71.trans (congrArg some (by kernel_rfl))
  f286 := Tryd.func72.trans (congrArg some (by kernel_rfl))
  f316 := Tryd.func102.trans (congrArg some (by kernel_rfl))
  f317 := Tryd.func79.trans (congrArg some (by kernel_rfl))
  f318 := Tryd.func81.trans (congrArg some (by kernel_rfl))
  f319 := Tryd.func82.trans (congrArg some (by kernel_rfl))
  f320 := Tryd.func83.trans (congrArg some (by kernel_rfl))
  f337 := Tryd.func92.trans (congrArg some (by kernel_rfl))
  f338 := Tryd.func93.trans (congrArg some (by kernel_rfl))
  t0 := Tryd.underlying0
  a0 := Tryd.isAgg0
  z0 := Tryd.sizeOf0
  v0 := Tryd.zeroValue0
  t2 := Tryd.underlying2
  a2 := Tryd.isAgg2
  z2 := Tryd.sizeOf2
  v2 := Tryd.zeroValue2
  t3 := Tryd.underlying3
  a3 := Tryd.isAgg3
  z3 := Tryd.sizeOf3
  v3 := Tryd.zeroValue3
  t4 := Tryd.underlying4
  a4 := Tryd.isAgg4
  z4 := Tryd.sizeOf4
  v4 := Tryd.zeroValue4
  t5 := Tryd.underlying5
  a5 := Tryd.isAgg5
  z5 := Tryd.sizeOf5
  v5 := Tryd.zeroValue5
  t9 := Tryd.underlying9
  a9 := Tryd.isAgg9
  z9 := Tryd.sizeOf9
  v9 := Tryd.zeroValue9
  t20 := Tryd.underlying20
  a20 := Tryd.isAgg20
  z20 := Tryd.sizeOf20
  v20 := Tryd.zeroValue20
  t37 := Tryd.underlying24
  a37 := Tryd.isAgg24
  z37 := Tryd.sizeOf24
  v37 := Tryd.zeroValue24
  t46 := Tryd.underlying90
  a46 := Tryd.isAgg90
  z46 := Tryd.sizeOf90
  v46 := Tryd.zeroValue90
  t51 := Tryd.underlying107
  a51 := Tryd.isAgg107
  z51 := Tryd.sizeOf107
  v51 := Tryd.zeroValue107
  t53 := Tryd.underlying80
  a53 := Tryd.isAgg80
  z53 := Tryd.sizeOf80
  v53 := Tryd.zeroValue80
  t75 := Tryd.underlying99
  a75 := Tryd.isAgg99
  z75 := Tryd.sizeOf99
  v75 := Tryd.zeroValue99
  t127 := Tryd.underlying131
  a127 := Tryd.isAgg131
  z127 := Tryd.sizeOf131
  v127 := Tryd.zeroValue131
  t143 := Tryd.underlying132
  a143 := Tryd.isAgg132
  z143 := Tryd.sizeOf132
  v143 := Tryd.zeroValue132
  t145 := Tryd.underlying134
  a145 := Tryd.isAgg134
  z145 := Tryd.sizeOf134
  v145 := Tryd.zeroValue134
  t167 := Tryd.underlying116
  a167 := Tryd.isAgg116
  z167 := Tryd.sizeOf116
  v167 := Tryd.zeroValue116
  t168 := Tryd.underlying119
  a168 := Tryd.isAgg119
  z168 := Tryd.sizeOf119
  v168 := Tryd.zeroValue119
  t171 := Tryd.underlying93
  a171 := Tryd.isAgg93
  z171 := Tryd.sizeOf93
  v171 := Tryd.zeroValue93
  t173 := Tryd.underlying96
  a173 := Tryd.isAgg96
  z173 := Tryd.sizeOf96
  v173 := Tryd.zeroValue96
  t210 := Tryd.underlying128
  a210 := Tryd.isAgg128
  z210 := Tryd.sizeOf128
  v210 := Tryd.zeroValue128
  t212 := Tryd.underlying106
  a212 := Tryd.isAgg106
  z212 := Tryd.sizeOf106
  v212 := Tryd.zeroValue106
  t213 := Tryd.underlying108
  a213 := Tryd.isAgg108
  z213 := Tryd.sizeOf108
  t232 := Tryd.underlying123
  a232 := Tryd.isAgg123
  z232 := Tryd.sizeOf123
  v232 := Tryd.zeroValue123
  t233 := Tryd.underlying124
  a233 := Tryd.isAgg124
  z233 := Tryd.sizeOf124
  v233 := Tryd.zeroValue124
  g15 := by kernel_rfl
  g16 := by kernel_rfl
  g17 := by kernel_rfl
  g18 := by kernel_rfl
  g19 := by kernel_rfl
  t80 := Tryd.underlying135
  a80 := Tryd.isAgg135
  z80 := Tryd.sizeOf135
  v80 := Tryd.zeroValue135
  i0 := by kernel_rfl
  i2 := by kernel_rfl
  i3 := by kernel_rfl
  i4 := by kernel_rfl
  i5 := by kernel_rfl
  i9 := by kernel_rfl
  i20 := by kernel_rfl
  i37 := by kernel_rfl
  i46 := by kernel_rfl
  i51 := by kernel_rfl
  i53 := by kernel_rfl
  i75 := by kernel_rfl
  i80 := by kernel_rfl
  i127 := by kernel_rfl
  i143 := by kernel_rfl
  i145 := by kernel_rfl
  i167 := by kernel_rfl
  i168 := by kernel_rfl
  i171 := by kernel_rfl
  i173 := by kernel_rfl
  i210 := by kernel_rfl
  i212 := by kernel_rfl
  i232 := by kernel_rfl
  i233 := by kernel_rfl
  m15 := by kernel_rfl
  m16 := by kernel_rfl
  m17 := by kernel_rfl
  m18 := by kernel_rfl
  m19 := by kernel_rfl
  c0 := by kernel_rfl
  c2 := by kernel_rfl
  c3 := by kernel_rfl
  c4 := by kernel_rfl
  c5 := by kernel_rfl
  c9 := by kernel_rfl
  c20 := by kernel_rfl
  c37 := by kernel_rfl
  c46 := by kernel_rfl
  c51 := by kernel_rfl
  c53 := by kernel_rfl
  c75 := by kernel_rfl
  c80 := by kernel_rfl
  c127 := by kernel_rfl
  c143 := by kernel_rfl
  c145 := by kernel_rfl
  c167 := by kernel_rfl
  c168 := by kernel_rfl
  c171 := by kernel_rfl
  c173 := by kernel_rfl
  c210 := by kernel_rfl
  c212 := by kernel_rfl
  c213 := by kernel_rfl
  c232 := by kernel_rfl
  c233 := by kernel_rfl }
open Go.RowKit in
/-- strconv.toError, at the inner package's ErrSyntax: 'syntaxError(fn, s)' as an error: A *NumError IN A NEW BLOCK. (LAID: no walk: one application.) -/
theorem Tryd.strconv_toError_syntax (fn s : ByteArray) (base bits : Int) (ev : Value) (w : World) (hlim : s.size ≤ 281474976710656) (hv : w.cell? ⟨4, 0, none⟩ = some ev) (hev : ev = .nilIface ∨ ∃ te pe, ev = .iface te pe) :
    Calls Tryd.prog 85 #[.string fn, .string s, .int .i64 base, .int .i64 bits, .iface 116 (.int .i64 2)] w fun e w' => ∃ N, e = .returned (.iface 119 (.pointer (some ⟨N, 0, none⟩))) ∧ w.heap.size ≤ N ∧ w'.heap[N]? = some (.cells #[.string fn, .string s, ev] 128 (0, 0)) ∧ Below w.heap.size w w' := Any.strconv_toError_syntax Tryd.laysC245 fn s base bits ev w hlim hv hev
def Tryd.lays321_ren : Go.Shelf.Ren := ⟨fun | 321 => 104 | n => n, fun | 5 => 5 | n => n, fun | n => n⟩
theorem Tryd.lays321 : Go.Proofs.Lays.n321 Tryd.prog Tryd.lays321_ren := {
  mixed := by kernel_rfl
  f321 := Tryd.func104.trans (congrArg some (by kernel_rfl))
  t5 := Tryd.underlying5
  a5 := Tryd.isAgg5
  z5 := Tryd.sizeOf5
  v5 := Tryd.zeroValue5 }
open Go.RowKit in
/-- internal/strconv.lower: 'c | ('x' - 'X')': the bit 32 set. The world is as it was. (LAID: no walk: one application.) -/
theorem Tryd.internal_strconv_lower (c : Int) (w : World) :
    Calls Tryd.prog 104 #[.int .u8 c] w fun e w' => e = .returned (.int .u8 (bits .or .u8 c 32)) ∧ w' = w := Any.internal_strconv_lower Tryd.lays321 c w
def Tryd.lays287_ren : Go.Shelf.Ren := ⟨fun | 287 => 101 | 321 => 104 | 322 => 105 | n => n, fun | 9 => 9 | 3 => 3 | 53 => 80 | 75 => 99 | 4 => 4 | 167 => 116 | 5 => 5 | 46 => 90 | 37 => 24 | 0 => 0 | 21 => 21 | 80 => 135 | n => n, fun | n => n⟩
theorem Tryd.lays287 : Go.Proofs.Lays.n287 Tryd.prog Tryd.lays287_ren := {
  mixed := by kernel_rfl
  f287 := Tryd.func101.trans (congrArg some (by kernel_rfl))
  f321 := Tryd.func104.trans (congrArg some (by kernel_rfl))
  f322 := Tryd.func105.trans (congrArg some (by kernel_rfl))
  t0 := Tryd.underlying0
  a0 := Tryd.isAgg0
  z0 := Tryd.sizeOf0
  v0 := Tryd.zeroValue0
  t3 := Tryd.underlying3
  a3 := Tryd.isAgg3
  z3 := Tryd.sizeOf3
  v3 := Tryd.zeroValue3
  t4 := Tryd.underlying4
  a4 := Tryd.isAgg4
  z4 := Tryd.sizeOf4
  v4 := Tryd.zeroValue4
  t5 := Tryd.underlying5
  a5 := Tryd.isAgg5
  z5 := Tryd.sizeOf5
  v5 := Tryd.zeroValue5
  t9 := Tryd.underlying9
  a9 := Tryd.isAgg9
  z9 := Tryd.sizeOf9
  v9 := Tryd.zeroValue9
  t21 := Tryd.underlying21
  a21 := Tryd.isAgg21
  z21 := Tryd.sizeOf21
  v21 := Tryd.zeroValue21
  t37 := Tryd.underlying24
  a37 := Tryd.isAgg24
  z37 := Tryd.sizeOf24
  v37 := Tryd.zeroValue24
  t46 := Tryd.underlying90
  a46 := Tryd.isAgg90
  z46 := Tryd.sizeOf90
  v46 := Tryd.zeroValue90
  t53 := Tryd.underlying80
  a53 := Tryd.isAgg80
  z53 := Tryd.sizeOf80
  v53 := Tryd.zeroValue80
  t75 := Tryd.underlying99
  a75 := Tryd.isAgg99
  z75 := Tryd.sizeOf99
  v75 := Tryd.zeroValue99
  t167 := Tryd.underlying116
  a167 := Tryd.isAgg116
  z167 := Tryd.sizeOf116
  v167 := Tryd.zeroValue116 }
open Go.RowKit in
/-- internal/strconv.ParseUint(s, 10, 0), s NOT EMPTY: 'Lib.parseUint10 0' OF ITS BYTES: the number; or (0, ErrSyntax); or (the greatest uint64, ErrRange). The world behind the call: the one new row that '[]byte(s)' lays. (LAID: no walk: one application.) -/
theorem Tryd.internal_strconv_ParseUint_10 (t : ByteArray) (hne : t.size ≠ 0) (hmax : t.size ≤ 9223372036854775806) (w : World) :
    Calls Tryd.prog 101 #[.string t, .int .i64 10, .int .i64 0] w fun e w' => e = .returned (Lib.uintTuple 116 (Lib.parseUint10 0 t.data.toList)) ∧ w' = Lib.bytesWorld w 5 t := Any.internal_strconv_ParseUint_10 Tryd.lays287 t hne hmax w
open Go.RowKit in
/-- internal/strconv.ParseUint("", 10, 0): (0, ErrSyntax). The world is as it was. (LAID: no walk: one application.) -/
theorem Tryd.internal_strconv_ParseUint_10_empty (w : World) :
    Calls Tryd.prog 101 #[.string ⟨#[]⟩, .int .i64 10, .int .i64 0] w fun e w' => e = .returned (Lib.uintTuple 116 .syntax) ∧ w' = w := Any.internal_strconv_ParseUint_10_empty Tryd.lays287 w
open Go.RowKit in
/-- internal/strconv.ParseUint(s, 10, 0): 'Lib.parseMag' OF ITS BYTES. The world: as it was (the empty string), or with the one new row that '[]byte(s)' lays. (LAID: no walk: one application.) -/
theorem Tryd.internal_strconv_ParseUint_10_any (t : ByteArray) (hmax : t.size ≤ 9223372036854775806) (w : World) :
    Calls Tryd.prog 101 #[.string t, .int .i64 10, .int .i64 0] w fun e w' => e = .returned (Lib.uintTuple 116 (Lib.parseMag t.data.toList)) ∧ (w' = w ∨ w' = Lib.bytesWorld w 5 t) := Any.internal_strconv_ParseUint_10_any Tryd.lays287 t hmax w
def Tryd.laysC247_ren : Go.Shelf.Ren := ⟨fun | 247 => 94 | 287 => 101 | 321 => 104 | 322 => 105 | n => n, fun | 9 => 9 | 3 => 3 | 2 => 2 | 75 => 99 | 4 => 4 | 167 => 116 | 5 => 5 | 53 => 80 | 175 => 125 | 46 => 90 | 37 => 24 | 0 => 0 | 21 => 21 | 80 => 135 | n => n, fun | n => n⟩
theorem Tryd.laysC247 : Go.Proofs.LaysC.n247 Tryd.prog Tryd.laysC247_ren := {
  mixed := by kernel_rfl
  f247 := Tryd.func94.trans (congrArg some (by kernel_rfl))
  f287 := Tryd.func101.trans (congrArg some (by kernel_rfl))
  f321 := Tryd.func104.trans (congrArg some (by kernel_rfl))
  f322 := Tryd.func105.trans (congrArg some (by kernel_rfl))
  t0 := Tryd.underlying0
  a0 := Tryd.isAgg0
  z0 := Tryd.sizeOf0
  v0 := Tryd.zeroValue0
  t2 := Tryd.underlying2
  a2 := Tryd.isAgg2
  z2 := Tryd.sizeOf2
  v2 := Tryd.zeroValue2
  t3 := Tryd.underlying3
  a3 := Tryd.isAgg3
  z3 := Tryd.sizeOf3
  v3 := Tryd.zeroValue3
  t4 := Tryd.underlying4
  a4 := Tryd.isAgg4
  z4 := Tryd.sizeOf4
  v4 := Tryd.zeroValue4
  t5 := Tryd.underlying5
  a5 := Tryd.isAgg5
  z5 := Tryd.sizeOf5
  v5 := Tryd.zeroValue5
  t9 := Tryd.underlying9
  a9 := Tryd.isAgg9
  z9 := Tryd.sizeOf9
  v9 := Tryd.zeroValue9
  t21 := Tryd.underlying21
  a21 := Tryd.isAgg21
  z21 := Tryd.sizeOf21
  v21 := Tryd.zeroValue21
  t37 := Tryd.underlying24
  a37 := Tryd.isAgg24
  z37 := Tryd.sizeOf24
  v37 := Tryd.zeroValue24
  t46 := Tryd.underlying90
  a46 := Tryd.isAgg90
  z46 := Tryd.sizeOf90
  v46 := Tryd.zeroValue90
  t53 := Tryd.underlying80
  a53 := Tryd.isAgg80
  z53 := Tryd.sizeOf80
  v53 := Tryd.zeroValue80
  t75 := Tryd.underlying99
  a75 := Tryd.isAgg99
  z75 := Tryd.sizeOf99
  v75 := Tryd.zeroValue99
  t167 := Tryd.underlying116
  a167 := Tryd.isAgg116
  z167 := Tryd.sizeOf116
  v167 := Tryd.zeroValue116
  t175 := Tryd.underlying125
  a175 := Tryd.isAgg125
  z175 := Tryd.sizeOf125
  v175 := Tryd.zeroValue125
  t80 := Tryd.underlying135
  a80 := Tryd.isAgg135
  z80 := Tryd.sizeOf135
  v80 := Tryd.zeroValue135
  i0 := by kernel_rfl
  i2 := by kernel_rfl
  i3 := by kernel_rfl
  i4 := by kernel_rfl
  i5 := by kernel_rfl
  i9 := by kernel_rfl
  i21 := by kernel_rfl
  i37 := by kernel_rfl
  i46 := by kernel_rfl
  i53 := by kernel_rfl
  i75 := by kernel_rfl
  i80 := by kernel_rfl
  i167 := by kernel_rfl
  i175 := by kernel_rfl
  c0 := by kernel_rfl
  c2 := by kernel_rfl
  c3 := by kernel_rfl
  c4 := by kernel_rfl
  c5 := by kernel_rfl
  c9 := by kernel_rfl
  c21 := by kernel_rfl
  c37 := by kernel_rfl
  c46 := by kernel_rfl
  c53 := by kernel_rfl
  c75 := by kernel_rfl
  c80 := by kernel_rfl
  c167 := by kernel_rfl
  c175 := by kernel_rfl }
open Go.RowKit in
/-- internal/strconv.ParseInt(s, 10, 0), s NOT EMPTY: 'Lib.atoiAll' OF ITS BYTES: (the number, nil); (0, ErrSyntax); (the greatest or the least int64 by the sign, ErrRange). The world: as it was, or with the one new row that '[]byte(..)' lays. (LAID: no walk: one application.) -/
theorem Tryd.internal_strconv_ParseInt_10 (s : ByteArray) (hne : s.size ≠ 0) (hmax : s.size ≤ 9223372036854775806) (w : World) :
    Calls Tryd.prog 94 #[.string s, .int .i64 10, .int .i64 0] w fun e w' => e = .returned (Lib.intTuple 116 (Lib.atoiSat s.data.toList) (Lib.atoiAll s.data.toList)) ∧ (w' = w ∨ ∃ t, w' = Lib.bytesWorld w 5 t) := Any.internal_strconv_ParseInt_10 Tryd.laysC247 s hne hmax w
def Tryd.laysC244_ren : Go.Shelf.Ren := ⟨fun | 244 => 84 | 247 => 94 | 287 => 101 | 321 => 104 | 322 => 105 | n => n, fun | 9 => 9 | 3 => 3 | 75 => 99 | 4 => 4 | 5 => 5 | 167 => 116 | 37 => 24 | 0 => 0 | 85 => 117 | 2 => 2 | 53 => 80 | 175 => 125 | 46 => 90 | 21 => 21 | 80 => 135 | n => n, fun | n => n⟩
theorem Tryd.laysC244 : Go.Proofs.LaysC.n244 Tryd.prog Tryd.laysC244_ren := {
  mixed := by kernel_rfl
  f244 := Tryd.func84.trans (congrArg some (by kernel_rfl))
  f247 := Tryd.func94.trans (congrArg some (by kernel_rfl))
  f287 := Tryd.func101.trans (congrArg some (by kernel_rfl))
  f321 := Tryd.func104.trans (congrArg some (by kernel_rfl))
  f322 := Tryd.func105.trans (congrArg some (by kernel_rfl))
  t0 := Tryd.underlying0
  a0 := Tryd.isAgg0
  z0 := Tryd.sizeOf0
  v0 := Tryd.zeroValue0
  t2 := Tryd.underlying2
  a2 := Tryd.isAgg2
  z2 := Tryd.sizeOf2
  v2 := Tryd.zeroValue2
  t3 := Tryd.underlying3
  a3 := Tryd.isAgg3
  z3 := Tryd.sizeOf3
  v3 := Tryd.zeroValue3
  t4 := Tryd.underlying4
  a4 := Tryd.isAgg4
  z4 := Tryd.sizeOf4
  v4 := Tryd.zeroValue4
  t5 := Tryd.underlying5
  a5 := Tryd.isAgg5
  z5 := Tryd.sizeOf5
  v5 := Tryd.zeroValue5
  t9 := Tryd.underlying9
  a9 := Tryd.isAgg9
  z9 := Tryd.sizeOf9
  v9 := Tryd.zeroValue9
  t21 := Tryd.underlying21
  a21 := Tryd.isAgg21
  z21 := Tryd.sizeOf21
  v21 := Tryd.zeroValue21
  t37 := Tryd.underlying24
  a37 := Tryd.isAgg24
  z37 := Tryd.sizeOf24
  v37 := Tryd.zeroValue24
  t46 := Tryd.underlying90
  a46 := Tryd.isAgg90
  z46 := Tryd.sizeOf90
  v46 := Tryd.zeroValue90
  t53 := Tryd.underlying80
  a53 := Tryd.isAgg80
  z53 := Tryd.sizeOf80
  v53 := Tryd.zeroValue80
  t75 := Tryd.underlying99
  a75 := Tryd.isAgg99
  z75 := Tryd.sizeOf99
  v75 := Tryd.zeroValue99
  t85 := Tryd.underlying117
  a85 := Tryd.isAgg117
  z85 := Tryd.sizeOf117
  v85 := Tryd.zeroValue117
  t167 := Tryd.underlying116
  a167 := Tryd.isAgg116
  z167 := Tryd.sizeOf116
  v167 := Tryd.zeroValue116
  t175 := Tryd.underlying125
  a175 := Tryd.isAgg125
  z175 := Tryd.sizeOf125
  v175 := Tryd.zeroValue125
  t80 := Tryd.underlying135
  a80 := Tryd.isAgg135
  z80 := Tryd.sizeOf135
  v80 := Tryd.zeroValue135
  i0 := by kernel_rfl
  i2 := by kernel_rfl
  i3 := by kernel_rfl
  i4 := by kernel_rfl
  i5 := by kernel_rfl
  i9 := by kernel_rfl
  i21 := by kernel_rfl
  i37 := by kernel_rfl
  i46 := by kernel_rfl
  i53 := by kernel_rfl
  i75 := by kernel_rfl
  i80 := by kernel_rfl
  i85 := by kernel_rfl
  i167 := by kernel_rfl
  i175 := by kernel_rfl
  c0 := by kernel_rfl
  c2 := by kernel_rfl
  c3 := by kernel_rfl
  c4 := by kernel_rfl
  c5 := by kernel_rfl
  c9 := by kernel_rfl
  c21 := by kernel_rfl
  c37 := by kernel_rfl
  c46 := by kernel_rfl
  c53 := by kernel_rfl
  c75 := by kernel_rfl
  c80 := by kernel_rfl
  c85 := by kernel_rfl
  c167 := by kernel_rfl
  c175 := by kernel_rfl }
open Go.RowKit in
/-- internal/strconv.Atoi, AT EVERY STRING OF 19 BYTES OR MORE: 'Lib.atoiAll' OF ITS BYTES: (the number, nil); (0, ErrSyntax); (the greatest or the least int by the sign, ErrRange). (LAID: no walk: one application.) -/
theorem Tryd.internal_strconv_Atoi_long (s : ByteArray) (h19 : 19 ≤ s.size) (hmax : s.size ≤ 9223372036854775806) (w : World) :
    Calls Tryd.prog 84 #[.string s] w fun e w' => e = .returned (Lib.intTuple 116 (Lib.atoiSat s.data.toList) (Lib.atoiAll s.data.toList)) ∧ (w' = w ∨ ∃ t, w' = Lib.bytesWorld w 5 t) := Any.internal_strconv_Atoi_long Tryd.laysC244 s h19 hmax w
open Go.RowKit in
/-- internal/strconv.Atoi, AT EVERY STRING: 'Lib.atoiAll' OF ITS BYTES: (the number, nil); (0, ErrSyntax); (the greatest or the least int by the sign, ErrRange). The world: as it was, or with the one new row that '[]byte(..)' lays. (LAID: no walk: one application.) -/
theorem Tryd.internal_strconv_Atoi_all (s : ByteArray) (hmax : s.size ≤ 9223372036854775806) (w : World) :
    Calls Tryd.prog 84 #[.string s] w fun e w' => e = .returned (Lib.intTuple 116 (Lib.atoiSat s.data.toList) (Lib.atoiAll s.data.toList)) ∧ (w' = w ∨ ∃ t, w' = Lib.bytesWorld w 5 t) := Any.internal_strconv_Atoi_all Tryd.laysC244 s hmax w
def Tryd.laysM280_ren : Go.Shelf.Ren := ⟨fun | 280 => 96 | 316 => 102 | n => n, fun | 9 => 9 | 168 => 119 | 75 => 99 | 210 => 128 | 3 => 3 | 4 => 4 | 37 => 24 | 0 => 0 | 127 => 131 | 80 => 135 | 5 => 5 | n => n, fun | 16 => 5 | n => n⟩
theorem Tryd.laysM280 : Go.Proofs.LaysM.n280 Tryd.prog Tryd.laysM280_ren := {
  mixed := by kernel_rfl
  f280 := Tryd.func96.trans (congrArg some (by kernel_rfl))
  f316 := Tryd.func102.trans (congrArg some (by kernel_rfl))
  t0 := Tryd.underlying0
  a0 := Tryd.isAgg0
  z0 := Tryd.sizeOf0
  v0 := Tryd.zeroValue0
  t3 := Tryd.underlying3
  a3 := Tryd.isAgg3
  z3 := Tryd.sizeOf3
  v3 := Tryd.zeroValue3
  t4 := Tryd.underlying4
  a4 := Tryd.isAgg4
  z4 := Tryd.sizeOf4
  v4 := Tryd.zeroValue4
  t9 := Tryd.underlying9
  a9 := Tryd.isAgg9
  z9 := Tryd.sizeOf9
  v9 := Tryd.zeroValue9
  t37 := Tryd.underlying24
  a37 := Tryd.isAgg24
  z37 := Tryd.sizeOf24
  v37 := Tryd.zeroValue24
  t75 := Tryd.underlying99
  a75 := Tryd.isAgg99
  z75 := Tryd.sizeOf99
  v75 := Tryd.zeroValue99
  t127 := Tryd.underlying131
  a127 := Tryd.isAgg131
  z127 := Tryd.sizeOf131
  v127 := Tryd.zeroValue131
  t168 := Tryd.underlying119
  a168 := Tryd.isAgg119
  z168 := Tryd.sizeOf119
  v168 := Tryd.zeroValue119
  t210 := Tryd.underlying128
  a210 := Tryd.isAgg128
  z210 := Tryd.sizeOf128
  v210 := Tryd.zeroValue128
  g16 := by kernel_rfl
  t5 := Tryd.underlying5
  a5 := Tryd.isAgg5
  z5 := Tryd.sizeOf5
  v5 := Tryd.zeroValue5
  t80 := Tryd.underlying135
  a80 := Tryd.isAgg135
  z80 := Tryd.sizeOf135
  v80 := Tryd.zeroValue135
  i0 := by kernel_rfl
  i3 := by kernel_rfl
  i4 := by kernel_rfl
  i5 := by kernel_rfl
  i9 := by kernel_rfl
  i37 := by kernel_rfl
  i75 := by kernel_rfl
  i80 := by kernel_rfl
  i127 := by kernel_rfl
  i168 := by kernel_rfl
  i210 := by kernel_rfl
  m16 := by kernel_rfl }
open Go.RowKit in
/-- strconv.rangeError: '&NumError{fn, stringslite.Clone(str), ErrRange}': A POINTER TO A NEW BLOCK that holds fn, str's bytes, and what the variable ErrRange holds. Of what was there nothing has turned. (LAID: no walk: one application.) -/
theorem Tryd.strconv_rangeError (fn s : ByteArray) (ev : Value) (w : World) (hlim : s.size ≤ 281474976710656) (hv : w.cell? ⟨5, 0, none⟩ = some ev) (hev : ev = .nilIface ∨ ∃ te pe, ev = .iface te pe) :
    Calls Tryd.prog 96 #[.string fn, .string s] w fun e w' => ∃ N, e = .returned (.pointer (some ⟨N, 0, none⟩)) ∧ w.heap.size ≤ N ∧ w'.heap[N]? = some (.cells #[.string fn, .string s, ev] 128 (0, 0)) ∧ Below w.heap.size w w' := Any.strconv_rangeError Tryd.laysM280 fn s ev w hlim hv hev
open Go.RowKit in
/-- strconv.toError, at the inner package's ErrRange: 'rangeError(fn, s)' as an error: A *NumError IN A NEW BLOCK. (LAID: no walk: one application.) -/
theorem Tryd.strconv_toError_range (fn s : ByteArray) (base bits : Int) (ev : Value) (w : World) (hlim : s.size ≤ 281474976710656) (hv : w.cell? ⟨5, 0, none⟩ = some ev) (hev : ev = .nilIface ∨ ∃ te pe, ev = .iface te pe) :
    Calls Tryd.prog 85 #[.string fn, .string s, .int .i64 base, .int .i64 bits, .iface 116 (.int .i64 1)] w fun e w' => ∃ N, e = .returned (.iface 119 (.pointer (some ⟨N, 0, none⟩))) ∧ w.heap.size ≤ N ∧ w'.heap[N]? = some (.cells #[.string fn, .string s, ev] 128 (0, 0)) ∧ Below w.heap.size w w' := Any.strconv_toError_range Tryd.laysC245 fn s base bits ev w hlim hv hev
def Tryd.laysC172_ren : Go.Shelf.Ren := ⟨fun | 172 => 73 | 244 => 84 | 245 => 85 | 247 => 94 | 279 => 95 | 280 => 96 | 281 => 97 | 282 => 98 | 287 => 101 | 316 => 102 | 171 => 31 | 205 => 103 | 321 => 104 | 322 => 105 | 243 => 52 | 246 => 64 | 283 => 69 | 284 => 70 | 285 => 71 | 286 => 72 | 129 => 80 | 317 => 79 | 318 => 81 | 319 => 82 | 320 => 83 | 337 => 92 | 338 => 93 | n => n, fun | 9 => 9 | 3 => 3 | 75 => 99 | 76 => 100 | 4 => 4 | 5 => 5 | 167 => 116 | 37 => 24 | 0 => 0 | 85 => 117 | 2 => 2 | 168 => 119 | 53 => 80 | 175 => 125 | 46 => 90 | 210 => 128 | 127 => 131 | 145 => 134 | 143 => 132 | 21 => 21 | 171 => 93 | 173 => 96 | 212 => 106 | 51 => 107 | 20 => 20 | 213 => 108 | 232 => 123 | 233 => 124 | 80 => 135 | n => n, fun | 15 => 4 | 16 => 5 | 17 => 1 | 18 => 2 | 19 => 3 | n => n⟩
theorem Tryd.laysC172 : Go.Proofs.LaysC.n172 Tryd.prog Tryd.laysC172_ren := {
  mixed := by kernel_rfl
  f129 := Tryd.func80.trans (congrArg some (by kernel_rfl))
  f171 := Tryd.func31.trans (congrArg some (by kernel_rfl))
  f172 := Tryd.func73.trans (congrArg some (by kernel_rfl))
  f205 := Tryd.func103.trans (congrArg some (by kernel_rfl))
  f243 := Tryd.func52.trans (congrArg some (by kernel_rfl))
  f244 := Tryd.func84.trans (congrArg some (by kernel_rfl))
  f245 := Tryd.func85.trans (congrArg some (by kernel_rfl))
  f246 := Tryd.func64.trans (congrArg some (by kernel_rfl))
  f247 := Tryd.func94.trans (congrArg some (by kernel_rfl))
  f279 := Tryd.func95.trans (congrArg some (by kernel_rfl))
  f280 := Tryd.func96.trans (congrArg some (by kernel_rfl))
  f281 := Tryd.func97.trans (congrArg some (by kernel_rfl))
  f282 := Tryd.func98.trans (congrArg some (by kernel_rfl))
  f283 := Tryd.func69.trans (congrArg some (by kernel_rfl))
  f284 := Tryd.func70.trans (congrArg some (by kernel_rfl))
  f285 := Tryd.func71.trans (congrArg some (by kernel_rfl))
  f286 := Tryd.func72.trans (congrArg some (by kernel_rfl))
  f287 := Tryd.func101.trans (congrArg some (by kernel_rfl))
  f316 := Tryd.func102.trans (congrArg some (by kernel_rfl))
  f317 := Tryd.func79.trans (congrArg some (by kernel_rfl))
  f318 := Tryd.func81.trans (congrArg some (by kernel_rfl))
  f319 := Tryd.func82.trans (congrArg some (by kernel_rfl))
  f320 := Tryd.func83.trans (congrArg some (by kernel_rfl))
  f321 := Tryd.func104.trans (congrArg some (by kernel_rfl))
  f322 := Tryd.func105.trans (congrArg some (by kernel_rfl))
  f337 := Tryd.func92.trans (congrArg some (by kernel_rfl))
  f338 := Tryd.func93.trans (congrArg some (by kernel_rfl))
  t0 := Tryd.underlying0
  a0 := Tryd.isAgg0
  z0 := Tryd.sizeOf0
  v0 := Tryd.zeroValue0
  t2 := Tryd.underlying2
  a2 := Tryd.isAgg2
  z2 := Tryd.sizeOf2
  v2 := Tryd.zeroValue2
  t3 := Tryd.underlying3
  a3 := Tryd.isAgg3
  z3 := Tryd.sizeOf3
  v3 := Tryd.zeroValue3
  t4 := Tryd.underlying4
  a4 := Tryd.isAgg4
  z4 := Tryd.sizeOf4
  v4 := Tryd.zeroValue4
  t5 := Tryd.underlying5
  a5 := Tryd.isAgg5
  z5 := Tryd.sizeOf5
  v5 := Tryd.zeroValue5
  t9 := Tryd.underlying9
  a9 := Tryd.isAgg9
  z9 := Tryd.sizeOf9
  v9 := Tryd.zeroValue9
  t20 := Tryd.underlying20
  a20 := Tryd.isAgg20
  z20 := Tryd.sizeOf20
  v20 := Tryd.zeroValue20
  t21 := Tryd.underlying21
  a21 := Tryd.isAgg21
  z21 := Tryd.sizeOf21
  v21 := Tryd.zeroValue21
  t37 := Tryd.underlying24
  a37 := Tryd.isAgg24
  z37 := Tryd.sizeOf24
  v37 := Tryd.zeroValue24
  t46 := Tryd.underlying90
  a46 := Tryd.isAgg90
  z46 := Tryd.sizeOf90
  v46 := Tryd.zeroValue90
  t51 := Tryd.underlying107
  a51 := Tryd.isAgg107
  z51 := Tryd.sizeOf107
  v51 := Tryd.zeroValue107
  t53 := Tryd.underlying80
  a53 := Tryd.isAgg80
  z53 := Tryd.sizeOf80
  v53 := Tryd.zeroValue80
  t75 := Tryd.underlying99
  a75 := Tryd.isAgg99
  z75 := Tryd.sizeOf99
  v75 := Tryd.zeroValue99
  t76 := Tryd.underlying100
  a76 := Tryd.isAgg100
  z76 := Tryd.sizeOf100
  v76 := Tryd.zeroValue100
  t85 := Tryd.underlying117
  a85 := Tryd.isAgg117
  z85 := Tryd.sizeOf117
  v85 := Tryd.zeroValue117
  t127 := Tryd.underlying131
  a127 := Tryd.isAgg131
  z127 := Tryd.sizeOf131
  v127 := Tryd.zeroValue131
  t143 := Tryd.underlying132
  a143 := Tryd.isAgg132
  z143 := Tryd.sizeOf132
  v143 := Tryd.zeroValue132
  t145 := Tryd.underlying134
  a145 := Tryd.isAgg134
  z145 := Tryd.sizeOf134
  v145 := Tryd.zeroValue134
  t167 := Tryd.underlying116
  a167 := Tryd.isAgg116
  z167 := Tryd.sizeOf116
  v167 := Tryd.zeroValue116
  t168 := Tryd.underlying119
  a168 := Tryd.isAgg119
  z168 := Tryd.sizeOf119
  v168 := Tryd.zeroValue119
  t171 := Tryd.underlying93
  a171 := Tryd.isAgg93
  z171 := Tryd.sizeOf93
  v171 := Tryd.zeroValue93
  t173 := Tryd.underlying96
  a173 := Tryd.isAgg96
  z173 := Tryd.sizeOf96
  v173 := Tryd.zeroValue96
  t175 := Tryd.underlying125
  a175 := Tryd.isAgg125
  z175 := Tryd.sizeOf125
  v175 := Tryd.zeroValue125
  t210 := Tryd.underlying128
  a210 := Tryd.isAgg128
  z210 := Tryd.sizeOf128
  v210 := Tryd.zeroValue128
  t212 := Tryd.underlying106
  a212 := Tryd.isAgg106
  z212 := Tryd.sizeOf106
  v212 := Tryd.zeroValue106
  t213 := Tryd.underlying108
  a213 := Tryd.isAgg108
  z213 := Tryd.sizeOf108
  t232 := Tryd.underlying123
  a232 := Tryd.isAgg123
  z232 := Tryd.sizeOf123
  v232 := Tryd.zeroValue123
  t233 := Tryd.underlying124
  a233 := Tryd.isAgg124
  z233 := Tryd.sizeOf124
  v233 := Tryd.zeroValue124
  g15 := by kernel_rfl
  g16 := by kernel_rfl
  g17 := by kernel_rfl
  g18 := by kernel_rfl
  g19 := by kernel_rfl
  t80 := Tryd.underlying135
  a80 := Tryd.isAgg135
  z80 := Tryd.sizeOf135
  v80 := Tryd.zeroValue135
  i0 := by kernel_rfl
  i2 := by kernel_rfl
  i3 := by kernel_rfl
  i4 := by kernel_rfl
  i5 := by kernel_rfl
  i9 := by kernel_rfl
  i20 := by kernel_rfl
  i21 := by kernel_rfl
  i37 := by kernel_rfl
  i46 := by kernel_rfl
  i51 := by kernel_rfl
  i53 := by kernel_rfl
  i75 := by kernel_rfl
  i76 := by kernel_rfl
  i80 := by kernel_rfl
  i85 := by kernel_rfl
  i127 := by kernel_rfl
  i143 := by kernel_rfl
  i145 := by kernel_rfl
  i167 := by kernel_rfl
  i168 := by kernel_rfl
  i171 := by kernel_rfl
  i173 := by kernel_rfl
  i175 := by kernel_rfl
  i210 := by kernel_rfl
  i212 := by kernel_rfl
  i232 := by kernel_rfl
  i233 := by kernel_rfl
  m15 := by kernel_rfl
  m16 := by kernel_rfl
  m17 := by kernel_rfl
  m18 := by kernel_rfl
  m19 := by kernel_rfl
  c0 := by kernel_rfl
  c2 := by kernel_rfl
  c3 := by kernel_rfl
  c4 := by kernel_rfl
  c5 := by kernel_rfl
  c9 := by kernel_rfl
  c20 := by kernel_rfl
  c21 := by kernel_rfl
  c37 := by kernel_rfl
  c46 := by kernel_rfl
  c51 := by kernel_rfl
  c53 := by kernel_rfl
  c75 := by kernel_rfl
  c76 := by kernel_rfl
  c80 := by kernel_rfl
  c85 := by kernel_rfl
  c127 := by kernel_rfl
  c143 := by kernel_rfl
  c145 := by kernel_rfl
  c167 := by kernel_rfl
  c168 := by kernel_rfl
  c171 := by kernel_rfl
  c173 := by kernel_rfl
  c175 := by kernel_rfl
  c210 := by kernel_rfl
  c212 := by kernel_rfl
  c213 := by kernel_rfl
  c232 := by kernel_rfl
  c233 := by kernel_rfl }
open Go.RowKit in
/-- strconv.Atoi, AT EVERY STRING THAT SPELLS AN int ('Lib.atoiAll .. = .ok v'; of whatever length: leading zeros count): v, AND NO ERROR. The world: as it was, or with the one new row that '[]byte(..)' lays. (LAID: no walk: one application.) -/
theorem Tryd.strconv_Atoi_ok (s : ByteArray) (hmax : s.size ≤ 9223372036854775806) (v : Int) (h : Lib.atoiAll s.data.toList = .ok v) (w : World) :
    Calls Tryd.prog 73 #[.string s] w fun e w' => e = .returned (.tuple #[.int .i64 v, .nilIface]) ∧ (w' = w ∨ ∃ t, w' = Lib.bytesWorld w 5 t) := Any.strconv_Atoi_ok Tryd.laysC172 s hmax v h w
open Go.RowKit in
/-- strconv.Atoi, AT EVERY NUMERAL THAT NO int HOLDS ('.range'): THE GREATEST OR THE LEAST int, BY THE SIGN ('Lib.atoiSat'), AND AN ERROR THAT IS NOT nil: a *NumError in a new block N: {Func: "Atoi", Num: s's bytes, Err: what the variable ErrRange holds}. Of what was there nothing has turned. (LAID: no walk: one application.) -/
theorem Tryd.strconv_Atoi_range (s : ByteArray) (hlim : s.size ≤ 281474976710656) (h : Lib.atoiAll s.data.toList = .range) (ev : Value) (w : World) (hv : w.cell? ⟨5, 0, none⟩ = some ev) (hev : ev = .nilIface ∨ ∃ te pe, ev = .iface te pe) :
    Calls Tryd.prog 73 #[.string s] w fun e w' => ∃ N, e = .returned (.tuple #[.int .i64 (Lib.atoiSat s.data.toList), .iface 119 (.pointer (some ⟨N, 0, none⟩))]) ∧ w.heap.size ≤ N ∧ w'.heap[N]? = some (.cells #[.string ⟨#[65, 116, 111, 105]⟩, .string s, ev] 128 (0, 0)) ∧ Below w.heap.size w w' := Any.strconv_Atoi_range Tryd.laysC172 s hlim h ev w hv hev
open Go.RowKit in
theorem Tryd.strconv_Atoi_range_var (s : ByteArray) (hlim : s.size ≤ 281474976710656) (h : Lib.atoiAll s.data.toList = .range) (tp : TypeId) (p : Value) (w : World) (hvar : w.var? Tryd.prog "strconv.ErrRange" = some #[.iface tp p]) :
    Calls Tryd.prog 73 #[.string s] w fun e w' => ∃ N, e = .returned (.tuple #[.int .i64 (Lib.atoiSat s.data.toList), .iface 119 (.pointer (some ⟨N, 0, none⟩))]) ∧ w.heap.size ≤ N ∧ w'.heap[N]? = some (.cells #[.string ⟨#[65, 116, 111, 105]⟩, .string s, .iface tp p] 128 (0, 0)) ∧ Below w.heap.size w w' := Any.strconv_Atoi_range_var Tryd.laysC172 s hlim h tp p w hvar
open Go.RowKit in
/-- internal/strconv.ParseUint("", base, bitSize): (0, ErrSyntax): the first test of the text. The world is as it was. (LAID: no walk: one application.) -/
theorem Tryd.internal_strconv_ParseUint_empty (base bits : Int) (w : World) :
    Calls Tryd.prog 101 #[.string ⟨#[]⟩, .int .i64 base, .int .i64 bits] w fun e w' => e = .returned (.tuple #[.int .u64 0, .iface 116 (.int .i64 2)]) ∧ w' = w := Any.internal_strconv_ParseUint_empty Tryd.lays287 base bits w
def Tryd.lays217_ren : Go.Shelf.Ren := ⟨fun | 217 => 75 | 266 => 90 | n => n, fun | 9 => 9 | 5 => 5 | 3 => 3 | n => n, fun | n => n⟩
theorem Tryd.lays217 : Go.Proofs.Lays.n217 Tryd.prog Tryd.lays217_ren := {
  mixed := by kernel_rfl
  f217 := Tryd.func75.trans (congrArg some (by kernel_rfl))
  f266 := Tryd.func90.trans (congrArg some (by kernel_rfl))
  t3 := Tryd.underlying3
  a3 := Tryd.isAgg3
  z3 := Tryd.sizeOf3
  v3 := Tryd.zeroValue3
  t5 := Tryd.underlying5
  a5 := Tryd.isAgg5
  z5 := Tryd.sizeOf5
  v5 := Tryd.zeroValue5
  t9 := Tryd.underlying9
  a9 := Tryd.isAgg9
  z9 := Tryd.sizeOf9
  v9 := Tryd.zeroValue9 }
open Go.RowKit Go.Lib in
/-- internal/stringslite.IndexByte (what strings.IndexByte calls): IT RETURNS 'Lib.indexByte s c'; the world is as it was. (LAID: no walk: one application.) -/
theorem Tryd.stringslite_IndexByte (s : ByteArray) (c : Int) (w : World) :
    Calls Tryd.prog 75 #[.string s, .int .u8 c] w fun e w' => e = .returned (.int .i64 (Lib.indexByte s.data.toList c.toNat.toUInt8)) ∧ w' = w := Any.stringslite_IndexByte Tryd.lays217 s c w
def Tryd.lays224_ren : Go.Shelf.Ren := ⟨fun | 224 => 77 | n => n, fun | 3 => 3 | n => n, fun | n => n⟩
theorem Tryd.lays224 : Go.Proofs.Lays.n224 Tryd.prog Tryd.lays224_ren := {
  mixed := by kernel_rfl
  f224 := Tryd.func77.trans (congrArg some (by kernel_rfl))
  t3 := Tryd.underlying3
  a3 := Tryd.isAgg3
  z3 := Tryd.sizeOf3
  v3 := Tryd.zeroValue3 }
open Go.RowKit Go.Lib in
/-- internal/bytealg.Cutover: "Cutover reports the number of failures of IndexByte we should tolerate before switching over to Index. n is the number of bytes processed so far.": on amd64: (n + 16) / 8. (LAID: no walk: one application.) -/
theorem Tryd.bytealg_Cutover (n : Int) (h0 : 0 ≤ n) (h1 : n < 4611686018427387904) (w : World) :
    Calls Tryd.prog 77 #[.int .i64 n] w fun e w' => e = .returned (.int .i64 ((n + 16) / 8)) ∧ w' = w := Any.bytealg_Cutover Tryd.lays224 n h0 h1 w
def Tryd.lays314_ren : Go.Shelf.Ren := ⟨fun | 314 => 91 | n => n, fun | 9 => 9 | 51 => 107 | 3 => 3 | 4 => 4 | 5 => 5 | 46 => 90 | n => n, fun | n => n⟩
theorem Tryd.lays314 : Go.Proofs.Lays.n314 Tryd.prog Tryd.lays314_ren := {
  mixed := by kernel_rfl
  f314 := Tryd.func91.trans (congrArg some (by kernel_rfl))
  t3 := Tryd.underlying3
  a3 := Tryd.isAgg3
  z3 := Tryd.sizeOf3
  v3 := Tryd.zeroValue3
  t4 := Tryd.underlying4
  a4 := Tryd.isAgg4
  z4 := Tryd.sizeOf4
  v4 := Tryd.zeroValue4
  t5 := Tryd.underlying5
  a5 := Tryd.isAgg5
  z5 := Tryd.sizeOf5
  v5 := Tryd.zeroValue5
  t9 := Tryd.underlying9
  a9 := Tryd.isAgg9
  z9 := Tryd.sizeOf9
  v9 := Tryd.zeroValue9
  t46 := Tryd.underlying90
  a46 := Tryd.isAgg90
  z46 := Tryd.sizeOf90
  v46 := Tryd.zeroValue90
  t51 := Tryd.underlying107
  a51 := Tryd.isAgg107
  z51 := Tryd.sizeOf107
  v51 := Tryd.zeroValue107 }
open Go.RowKit Go.Lib in
/-- hashStr: "returns the hash and the appropriate multiplicative factor for use in Rabin-Karp algorithm": THE HASH OF ALL OF sep, AND 16777619 ^ len(sep), both in uint32. (LAID: no walk: one application.) -/
theorem Tryd.bytealg_hashStr (sep : ByteArray) (hs : sep.size < 4294967281) (w : World) :
    Calls Tryd.prog 91 #[.string sep] w fun e w' => e = .returned (.tuple #[.int .u32 (RK.H sep.data.toList % 4294967296), .int .u32 (16777619 ^ sep.size % 4294967296)]) ∧ w' = w := Any.bytealg_hashStr Tryd.lays314 sep hs w
def Tryd.lays267_ren : Go.Shelf.Ren := ⟨fun | 267 => 78 | 314 => 91 | n => n, fun | 9 => 9 | 3 => 3 | 146 => 113 | 51 => 107 | 4 => 4 | 5 => 5 | 46 => 90 | n => n, fun | n => n⟩
theorem Tryd.lays267 : Go.Proofs.Lays.n267 Tryd.prog Tryd.lays267_ren := {
  mixed := by kernel_rfl
  f267 := Tryd.func78.trans (congrArg some (by kernel_rfl))
  f314 := Tryd.func91.trans (congrArg some (by kernel_rfl))
  t3 := Tryd.underlying3
  a3 := Tryd.isAgg3
  z3 := Tryd.sizeOf3
  v3 := Tryd.zeroValue3
  t4 := Tryd.underlying4
  a4 := Tryd.isAgg4
  z4 := Tryd.sizeOf4
  v4 := Tryd.zeroValue4
  t5 := Tryd.underlying5
  a5 := Tryd.isAgg5
  z5 := Tryd.sizeOf5
  v5 := Tryd.zeroValue5
  t9 := Tryd.underlying9
  a9 := Tryd.isAgg9
  z9 := Tryd.sizeOf9
  v9 := Tryd.zeroValue9
  t46 := Tryd.underlying90
  a46 := Tryd.isAgg90
  z46 := Tryd.sizeOf90
  v46 := Tryd.zeroValue90
  t51 := Tryd.underlying107
  a51 := Tryd.isAgg107
  z51 := Tryd.sizeOf107
  v51 := Tryd.zeroValue107
  t146 := Tryd.underlying113
  a146 := Tryd.isAgg113
  z146 := Tryd.sizeOf113
  v146 := Tryd.zeroValue113 }
open Go.RowKit Go.Lib in
theorem Tryd.bytealg_IndexRabinKarp (s sep : ByteArray) (h1 : 1 ≤ sep.size) (h2 : sep.size ≤ s.size) (hs : s.size < 4294967281) (w : World) :
    Calls Tryd.prog 78 #[.string s, .string sep] w fun e w' => e = .returned (.int .i64 (Lib.index s.data.toList sep.data.toList)) ∧ w' = w := Any.bytealg_IndexRabinKarp Tryd.lays267 s sep h1 h2 hs w
def Tryd.lays219_ren : Go.Shelf.Ren := ⟨fun | 219 => 68 | 217 => 75 | 225 => 76 | 224 => 77 | 267 => 78 | 266 => 90 | 314 => 91 | n => n, fun | 9 => 9 | 3 => 3 | 4 => 4 | 5 => 5 | 46 => 90 | 146 => 113 | 51 => 107 | n => n, fun | 1 => 0 | n => n⟩
theorem Tryd.lays219 : Go.Proofs.Lays.n219 Tryd.prog Tryd.lays219_ren := {
  mixed := by kernel_rfl
  f217 := Tryd.func75.trans (congrArg some (by kernel_rfl))
  f219 := Tryd.func68.trans (congrArg some (by kernel_rfl))
  f224 := Tryd.func77.trans (congrArg some (by kernel_rfl))
  f225 := Tryd.func76.trans (congrArg some (by kernel_rfl))
  f266 := Tryd.func90.trans (congrArg some (by kernel_rfl))
  f267 := Tryd.func78.trans (congrArg some (by kernel_rfl))
  f314 := Tryd.func91.trans (congrArg some (by kernel_rfl))
  t3 := Tryd.underlying3
  a3 := Tryd.isAgg3
  z3 := Tryd.sizeOf3
  v3 := Tryd.zeroValue3
  t4 := Tryd.underlying4
  a4 := Tryd.isAgg4
  z4 := Tryd.sizeOf4
  v4 := Tryd.zeroValue4
  t5 := Tryd.underlying5
  a5 := Tryd.isAgg5
  z5 := Tryd.sizeOf5
  v5 := Tryd.zeroValue5
  t9 := Tryd.underlying9
  a9 := Tryd.isAgg9
  z9 := Tryd.sizeOf9
  v9 := Tryd.zeroValue9
  t46 := Tryd.underlying90
  a46 := Tryd.isAgg90
  z46 := Tryd.sizeOf90
  v46 := Tryd.zeroValue90
  t51 := Tryd.underlying107
  a51 := Tryd.isAgg107
  z51 := Tryd.sizeOf107
  v51 := Tryd.zeroValue107
  t146 := Tryd.underlying113
  a146 := Tryd.isAgg113
  z146 := Tryd.sizeOf113
  v146 := Tryd.zeroValue113
  g1 := by kernel_rfl }
open Go.RowKit Go.Lib in
/-- internal/stringslite.Index (what strings.Index calls) AT A substr OF ONE BYTE c: IT RETURNS 'Lib.indexByte s c'; the world is as it was. (LAID: no walk: one application.) -/
theorem Tryd.stringslite_Index_one (s : ByteArray) (c : UInt8) (w : World) :
    Calls Tryd.prog 68 #[.string s, .string ⟨#[c]⟩] w fun e w' => e = .returned (.int .i64 (Lib.indexByte s.data.toList c)) ∧ w' = w := Any.stringslite_Index_one Tryd.lays219 s c w
open Go.RowKit Go.Lib in
/-- internal/stringslite.Index (what strings.Index calls) AT A substr OF WHATEVER LENGTH: IT RETURNS 'Lib.index s substr'; the world is as it was. 'm': what internal/bytealg.MaxLen holds: whatever. (LAID: no walk: one application.) -/
theorem Tryd.stringslite_Index (s sub : ByteArray) (m : Int) (w : World) (hs : s.size < 4294967281) (hm : w.cell? ⟨0, 0, none⟩ = some (.int .i64 m)) :
    Calls Tryd.prog 68 #[.string s, .string sub] w fun e w' => e = .returned (.int .i64 (Lib.index s.data.toList sub.data.toList)) ∧ w' = w := Any.stringslite_Index Tryd.lays219 s sub m w hs hm
def Tryd.lays143_ren : Go.Shelf.Ren := ⟨fun | 143 => 63 | 219 => 68 | 217 => 75 | 225 => 76 | 224 => 77 | 267 => 78 | 266 => 90 | 314 => 91 | n => n, fun | 9 => 9 | 3 => 3 | 4 => 4 | 5 => 5 | 46 => 90 | 146 => 113 | 51 => 107 | n => n, fun | 1 => 0 | n => n⟩
theorem Tryd.lays143 : Go.Proofs.Lays.n143 Tryd.prog Tryd.lays143_ren := {
  mixed := by kernel_rfl
  f143 := Tryd.func63.trans (congrArg some (by kernel_rfl))
  f217 := Tryd.func75.trans (congrArg some (by kernel_rfl))
  f219 := Tryd.func68.trans (congrArg some (by kernel_rfl))
  f224 := Tryd.func77.trans (congrArg some (by kernel_rfl))
  f225 := Tryd.func76.trans (congrArg some (by kernel_rfl))
  f266 := Tryd.func90.trans (congrArg some (by kernel_rfl))
  f267 := Tryd.func78.trans (congrArg some (by kernel_rfl))
  f314 := Tryd.func91.trans (congrArg some (by kernel_rfl))
  t3 := Tryd.underlying3
  a3 := Tryd.isAgg3
  z3 := Tryd.sizeOf3
  v3 := Tryd.zeroValue3
  t4 := Tryd.underlying4
  a4 := Tryd.isAgg4
  z4 := Tryd.sizeOf4
  v4 := Tryd.zeroValue4
  t5 := Tryd.underlying5
  a5 := Tryd.isAgg5
  z5 := Tryd.sizeOf5
  v5 := Tryd.zeroValue5
  t9 := Tryd.underlying9
  a9 := Tryd.isAgg9
  z9 := Tryd.sizeOf9
  v9 := Tryd.zeroValue9
  t46 := Tryd.underlying90
  a46 := Tryd.isAgg90
  z46 := Tryd.sizeOf90
  v46 := Tryd.zeroValue90
  t51 := Tryd.underlying107
  a51 := Tryd.isAgg107
  z51 := Tryd.sizeOf107
  v51 := Tryd.zeroValue107
  t146 := Tryd.underlying113
  a146 := Tryd.isAgg113
  z146 := Tryd.sizeOf113
  v146 := Tryd.zeroValue113
  g1 := by kernel_rfl }
open Go.RowKit Go.Lib in
/-- strings.Index: "Index returns the index of the first instance of substr in s, or -1 if substr is not present in s.": AT A substr OF ONE BYTE c: IT RETURNS 'Lib.indexByte s c'; the world is as it was. (LAID: no walk: one application.) -/
theorem Tryd.strings_Index_one (s : ByteArray) (c : UInt8) (w : World) :
    Calls Tryd.prog 63 #[.string s, .string ⟨#[c]⟩] w fun e w' => e = .returned (.int .i64 (Lib.indexByte s.data.toList c)) ∧ w' = w := Any.strings_Index_one Tryd.lays143 s c w
open Go.RowKit Go.Lib in
/-- strings.Index: "Index returns the index of the first instance of substr in s, or -1 if substr is not present in s.": IT RETURNS 'Lib.index s substr'; the world is as it was. (LAID: no walk: one application.) -/
theorem Tryd.strings_Index (s sub : ByteArray) (m : Int) (w : World) (hs : s.size < 4294967281) (hm : w.cell? ⟨0, 0, none⟩ = some (.int .i64 m)) :
    Calls Tryd.prog 63 #[.string s, .string sub] w fun e w' => e = .returned (.int .i64 (Lib.index s.data.toList sub.data.toList)) ∧ w' = w := Any.strings_Index Tryd.lays143 s sub m w hs hm
def Tryd.lays144_ren : Go.Shelf.Ren := ⟨fun | 144 => 50 | 143 => 63 | 219 => 68 | 217 => 75 | 225 => 76 | 224 => 77 | 267 => 78 | 266 => 90 | 314 => 91 | n => n, fun | 9 => 9 | 4 => 4 | 3 => 3 | 5 => 5 | 46 => 90 | 146 => 113 | 51 => 107 | n => n, fun | 1 => 0 | n => n⟩
theorem Tryd.lays144 : Go.Proofs.Lays.n144 Tryd.prog Tryd.lays144_ren := {
  mixed := by kernel_rfl
  f143 := Tryd.func63.trans (congrArg some (by kernel_rfl))
  f144 := Tryd.func50.trans (congrArg some (by kernel_rfl))
  f217 := Tryd.func75.trans (congrArg some (by kernel_rfl))
  f219 := Tryd.func68.trans (congrArg some (by kernel_rfl))
  f224 := Tryd.func77.trans (congrArg some (by kernel_rfl))
  f225 := Tryd.func76.trans (congrArg some (by kernel_rfl))
  f266 := Tryd.func90.trans (congrArg some (by kernel_rfl))
  f267 := Tryd.func78.trans (congrArg some (by kernel_rfl))
  f314 := Tryd.func91.trans (congrArg some (by kernel_rfl))
  t3 := Tryd.underlying3
  a3 := Tryd.isAgg3
  z3 := Tryd.sizeOf3
  v3 := Tryd.zeroValue3
  t4 := Tryd.underlying4
  a4 := Tryd.isAgg4
  z4 := Tryd.sizeOf4
  v4 := Tryd.zeroValue4
  t5 := Tryd.underlying5
  a5 := Tryd.isAgg5
  z5 := Tryd.sizeOf5
  v5 := Tryd.zeroValue5
  t9 := Tryd.underlying9
  a9 := Tryd.isAgg9
  z9 := Tryd.sizeOf9
  v9 := Tryd.zeroValue9
  t46 := Tryd.underlying90
  a46 := Tryd.isAgg90
  z46 := Tryd.sizeOf90
  v46 := Tryd.zeroValue90
  t51 := Tryd.underlying107
  a51 := Tryd.isAgg107
  z51 := Tryd.sizeOf107
  v51 := Tryd.zeroValue107
  t146 := Tryd.underlying113
  a146 := Tryd.isAgg113
  z146 := Tryd.sizeOf113
  v146 := Tryd.zeroValue113
  g1 := by kernel_rfl }
open Go.RowKit Go.Lib in
/-- strings.Contains: "Contains reports whether substr is within s.": AT A substr OF ONE BYTE c: IT RETURNS 'decide (0 ≤ Lib.indexByte s c)'; the world is as it was. (LAID: no walk: one application.) -/
theorem Tryd.strings_Contains_one (s : ByteArray) (c : UInt8) (w : World) :
    Calls Tryd.prog 50 #[.string s, .string ⟨#[c]⟩] w fun e w' => e = .returned (.bool (decide (0 ≤ Lib.indexByte s.data.toList c))) ∧ w' = w := Any.strings_Contains_one Tryd.lays144 s c w
open Go.RowKit Go.Lib in
/-- strings.Contains: "Contains reports whether substr is within s.": IT RETURNS 'Lib.contains s substr'; the world is as it was. (LAID: no walk: one application.) -/
theorem Tryd.strings_Contains (s sub : ByteArray) (m : Int) (w : World) (hs : s.size < 4294967281) (hm : w.cell? ⟨0, 0, none⟩ = some (.int .i64 m)) :
    Calls Tryd.prog 50 #[.string s, .string sub] w fun e w' => e = .returned (.bool (Lib.contains s.data.toList sub.data.toList)) ∧ w' = w := Any.strings_Contains Tryd.lays144 s sub m w hs hm
def Tryd.laysM219_ren : Go.Shelf.Ren := ⟨fun | 219 => 68 | 217 => 75 | 225 => 76 | 224 => 77 | 267 => 78 | 266 => 90 | 314 => 91 | n => n, fun | 9 => 9 | 3 => 3 | 4 => 4 | 5 => 5 | 46 => 90 | 146 => 113 | 51 => 107 | n => n, fun | 1 => 0 | n => n⟩
theorem Tryd.laysM219 : Go.Proofs.LaysM.n219 Tryd.prog Tryd.laysM219_ren := {
  mixed := by kernel_rfl
  f217 := Tryd.func75.trans (congrArg some (by kernel_rfl))
  f219 := Tryd.func68.trans (congrArg some (by kernel_rfl))
  f224 := Tryd.func77.trans (congrArg some (by kernel_rfl))
  f225 := Tryd.func76.trans (congrArg some (by kernel_rfl))
  f266 := Tryd.func90.trans (congrArg some (by kernel_rfl))
  f267 := Tryd.func78.trans (congrArg some (by kernel_rfl))
  f314 := Tryd.func91.trans (congrArg some (by kernel_rfl))
  t3 := Tryd.underlying3
  a3 := Tryd.isAgg3
  z3 := Tryd.sizeOf3
  v3 := Tryd.zeroValue3
  t4 := Tryd.underlying4
  a4 := Tryd.isAgg4
  z4 := Tryd.sizeOf4
  v4 := Tryd.zeroValue4
  t5 := Tryd.underlying5
  a5 := Tryd.isAgg5
  z5 := Tryd.sizeOf5
  v5 := Tryd.zeroValue5
  t9 := Tryd.underlying9
  a9 := Tryd.isAgg9
  z9 := Tryd.sizeOf9
  v9 := Tryd.zeroValue9
  t46 := Tryd.underlying90
  a46 := Tryd.isAgg90
  z46 := Tryd.sizeOf90
  v46 := Tryd.zeroValue90
  t51 := Tryd.underlying107
  a51 := Tryd.isAgg107
  z51 := Tryd.sizeOf107
  v51 := Tryd.zeroValue107
  t146 := Tryd.underlying113
  a146 := Tryd.isAgg113
  z146 := Tryd.sizeOf113
  v146 := Tryd.zeroValue113
  g1 := by kernel_rfl
  i3 := by kernel_rfl
  i4 := by kernel_rfl
  i5 := by kernel_rfl
  i9 := by kernel_rfl
  i46 := by kernel_rfl
  i51 := by kernel_rfl
  i146 := by kernel_rfl
  m1 := by kernel_rfl
  s1_3 := fun w h => Go.Proofs.cell_of_shapedOpen_int (zero := #[.int .i64 0]) (t := 3) h (of_decide_eq_true (by kernel_rfl)) (by kernel_rfl) rfl (by kernel_rfl) (by kernel_rfl) Tryd.underlying3 }
open Go.RowKit Go.Lib in
theorem Tryd.stringslite_Index_shaped (s sub : ByteArray) (w : World) (h : w.ShapedOpen Tryd.prog) (hs : s.size < 4294967281) :
    Calls Tryd.prog 68 #[.string s, .string sub] w fun e w' => e = .returned (.int .i64 (Lib.index s.data.toList sub.data.toList)) ∧ w' = w := Any.stringslite_Index_shaped Tryd.laysM219 s sub w h hs
def Tryd.laysM143_ren : Go.Shelf.Ren := ⟨fun | 143 => 63 | 219 => 68 | 217 => 75 | 225 => 76 | 224 => 77 | 267 => 78 | 266 => 90 | 314 => 91 | n => n, fun | 9 => 9 | 3 => 3 | 4 => 4 | 5 => 5 | 46 => 90 | 146 => 113 | 51 => 107 | n => n, fun | 1 => 0 | n => n⟩
theorem Tryd.laysM143 : Go.Proofs.LaysM.n143 Tryd.prog Tryd.laysM143_ren := {
  mixed := by kernel_rfl
  f143 := Tryd.func63.trans (congrArg some (by kernel_rfl))
  f217 := Tryd.func75.trans (congrArg some (by kernel_rfl))
  f219 := Tryd.func68.trans (congrArg some (by kernel_rfl))
  f224 := Tryd.func77.trans (congrArg some (by kernel_rfl))
  f225 := Tryd.func76.trans (congrArg some (by kernel_rfl))
  f266 := Tryd.func90.trans (congrArg some (by kernel_rfl))
  f267 := Tryd.func78.trans (congrArg some (by kernel_rfl))
  f314 := Tryd.func91.trans (congrArg some (by kernel_rfl))
  t3 := Tryd.underlying3
  a3 := Tryd.isAgg3
  z3 := Tryd.sizeOf3
  v3 := Tryd.zeroValue3
  t4 := Tryd.underlying4
  a4 := Tryd.isAgg4
  z4 := Tryd.sizeOf4
  v4 := Tryd.zeroValue4
  t5 := Tryd.underlying5
  a5 := Tryd.isAgg5
  z5 := Tryd.sizeOf5
  v5 := Tryd.zeroValue5
  t9 := Tryd.underlying9
  a9 := Tryd.isAgg9
  z9 := Tryd.sizeOf9
  v9 := Tryd.zeroValue9
  t46 := Tryd.underlying90
  a46 := Tryd.isAgg90
  z46 := Tryd.sizeOf90
  v46 := Tryd.zeroValue90
  t51 := Tryd.underlying107
  a51 := Tryd.isAgg107
  z51 := Tryd.sizeOf107
  v51 := Tryd.zeroValue107
  t146 := Tryd.underlying113
  a146 := Tryd.isAgg113
  z146 := Tryd.sizeOf113
  v146 := Tryd.zeroValue113
  g1 := by kernel_rfl
  i3 := by kernel_rfl
  i4 := by kernel_rfl
  i5 := by kernel_rfl
  i9 := by kernel_rfl
  i46 := by kernel_rfl
  i51 := by kernel_rfl
  i146 := by kernel_rfl
  m1 := by kernel_rfl
  s1_3 := fun w h => Go.Proofs.cell_of_shapedOpen_int (zero := #[.int .i64 0]) (t := 3) h (of_decide_eq_true (by kernel_rfl)) (by kernel_rfl) rfl (by kernel_rfl) (by kernel_rfl) Tryd.underlying3 }
open Go.RowKit Go.Lib in
theorem Tryd.strings_Index_shaped (s sub : ByteArray) (w : World) (h : w.ShapedOpen Tryd.prog) (hs : s.size < 4294967281) :
    Calls Tryd.prog 63 #[.string s, .string sub] w fun e w' => e = .returned (.int .i64 (Lib.index s.data.toList sub.data.toList)) ∧ w' = w := Any.strings_Index_shaped Tryd.laysM143 s sub w h hs
def Tryd.laysM144_ren : Go.Shelf.Ren := ⟨fun | 144 => 50 | 143 => 63 | 219 => 68 | 217 => 75 | 225 => 76 | 224 => 77 | 267 => 78 | 266 => 90 | 314 => 91 | n => n, fun | 9 => 9 | 4 => 4 | 3 => 3 | 5 => 5 | 46 => 90 | 146 => 113 | 51 => 107 | n => n, fun | 1 => 0 | n => n⟩
theorem Tryd.laysM144 : Go.Proofs.LaysM.n144 Tryd.prog Tryd.laysM144_ren := {
  mixed := by kernel_rfl
  f143 := Tryd.func63.trans (congrArg some (by kernel_rfl))
  f144 := Tryd.func50.trans (congrArg some (by kernel_rfl))
  f217 := Tryd.func75.trans (congrArg some (by kernel_rfl))
  f219 := Tryd.func68.trans (congrArg some (by kernel_rfl))
  f224 := Tryd.func77.trans (congrArg some (by kernel_rfl))
  f225 := Tryd.func76.trans (congrArg some (by kernel_rfl))
  f266 := Tryd.func90.trans (congrArg some (by kernel_rfl))
  f267 := Tryd.func78.trans (congrArg some (by kernel_rfl))
  f314 := Tryd.func91.trans (congrArg some (by kernel_rfl))
  t3 := Tryd.underlying3
  a3 := Tryd.isAgg3
  z3 := Tryd.sizeOf3
  v3 := Tryd.zeroValue3
  t4 := Tryd.underlying4
  a4 := Tryd.isAgg4
  z4 := Tryd.sizeOf4
  v4 := Tryd.zeroValue4
  t5 := Tryd.underlying5
  a5 := Tryd.isAgg5
  z5 := Tryd.sizeOf5
  v5 := Tryd.zeroValue5
  t9 := Tryd.underlying9
  a9 := Tryd.isAgg9
  z9 := Tryd.sizeOf9
  v9 := Tryd.zeroValue9
  t46 := Tryd.underlying90
  a46 := Tryd.isAgg90
  z46 := Tryd.sizeOf90
  v46 := Tryd.zeroValue90
  t51 := Tryd.underlying107
  a51 := Tryd.isAgg107
  z51 := Tryd.sizeOf107
  v51 := Tryd.zeroValue107
  t146 := Tryd.underlying113
  a146 := Tryd.isAgg113
  z146 := Tryd.sizeOf113
  v146 := Tryd.zeroValue113
  g1 := by kernel_rfl
  i3 := by kernel_rfl
  i4 := by kernel_rfl
  i5 := by kernel_rfl
  i9 := by kernel_rfl
  i46 := by kernel_rfl
  i51 := by kernel_rfl
  i146 := by kernel_rfl
  m1 := by kernel_rfl
  s1_3 := fun w h => Go.Proofs.cell_of_shapedOpen_int (zero := #[.int .i64 0]) (t := 3) h (of_decide_eq_true (by kernel_rfl)) (by kernel_rfl) rfl (by kernel_rfl) (by kernel_rfl) Tryd.underlying3 }
open Go.RowKit Go.Lib in
theorem Tryd.strings_Contains_shaped (s sub : ByteArray) (w : World) (h : w.ShapedOpen Tryd.prog) (hs : s.size < 4294967281) :
    Calls Tryd.prog 50 #[.string s, .string sub] w fun e w' => e = .returned (.bool (Lib.contains s.data.toList sub.data.toList)) ∧ w' = w := Any.strings_Contains_shaped Tryd.laysM144 s sub w h hs
def Tryd.lays185_ren : Go.Shelf.Ren := ⟨fun | 185 => 74 | 187 => 86 | 115 => 87 | 253 => 88 | 224 => 77 | 254 => 89 | 255 => 99 | 291 => 100 | n => n, fun | 37 => 24 | 3 => 3 | 4 => 4 | 0 => 0 | 5 => 5 | 46 => 90 | 9 => 9 | 146 => 113 | 51 => 107 | n => n, fun | 1 => 0 | n => n⟩
theorem Tryd.lays185 : Go.Proofs.Lays.n185 Tryd.prog Tryd.lays185_ren := {
  mixed := by kernel_rfl
  f115 := Tryd.func87.trans (congrArg some (by kernel_rfl))
  f185 := Tryd.func74.trans (congrArg some (by kernel_rfl))
  f187 := Tryd.func86.trans (congrArg some (by kernel_rfl))
  f224 := Tryd.func77.trans (congrArg some (by kernel_rfl))
  f253 := Tryd.func88.trans (congrArg some (by kernel_rfl))
  f254 := Tryd.func89.trans (congrArg some (by kernel_rfl))
  f255 := Tryd.func99.trans (congrArg some (by kernel_rfl))
  f291 := Tryd.func100.trans (congrArg some (by kernel_rfl))
  t0 := Tryd.underlying0
  a0 := Tryd.isAgg0
  z0 := Tryd.sizeOf0
  v0 := Tryd.zeroValue0
  t3 := Tryd.underlying3
  a3 := Tryd.isAgg3
  z3 := Tryd.sizeOf3
  v3 := Tryd.zeroValue3
  t4 := Tryd.underlying4
  a4 := Tryd.isAgg4
  z4 := Tryd.sizeOf4
  v4 := Tryd.zeroValue4
  t5 := Tryd.underlying5
  a5 := Tryd.isAgg5
  z5 := Tryd.sizeOf5
  v5 := Tryd.zeroValue5
  t9 := Tryd.underlying9
  a9 := Tryd.isAgg9
  z9 := Tryd.sizeOf9
  v9 := Tryd.zeroValue9
  t37 := Tryd.underlying24
  a37 := Tryd.isAgg24
  z37 := Tryd.sizeOf24
  v37 := Tryd.zeroValue24
  t46 := Tryd.underlying90
  a46 := Tryd.isAgg90
  z46 := Tryd.sizeOf90
  v46 := Tryd.zeroValue90
  t51 := Tryd.underlying107
  a51 := Tryd.isAgg107
  z51 := Tryd.sizeOf107
  v51 := Tryd.zeroValue107
  t146 := Tryd.underlying113
  a146 := Tryd.isAgg113
  z146 := Tryd.sizeOf113
  v146 := Tryd.zeroValue113
  g1 := by kernel_rfl }
open Go.RowKit Go.Lib in
/-- bytes.Index at a separator of one byte: "Index returns the index of the first instance of sep in s, or -1 if sep is not present in s.": 'Lib.indexByte' of s's bytes and that byte; the world is as it was. 'xs': s's elements; 'cv': the separator's one byte. (LAID: no walk: one application.) -/
theorem Tryd.bytes_Index_one (b o n c b2 o2 d : Nat) (xs : List Int) (cv : Int) (w : World) (hx : xs.length = n) (hc : ∀ i, i < n → w.cell? ⟨b, o + i, none⟩ = some (.int .u8 (xs.getD i 0))) (hc2 : w.cell? ⟨b2, o2, none⟩ = some (.int .u8 cv)) :
    Calls Tryd.prog 74 #[.slice (some ⟨b, o, none⟩) n c, .slice (some ⟨b2, o2, none⟩) 1 d] w fun e w' => e = .returned (.int .i64 (Lib.indexByte (Lib.bytesOf xs) cv.toNat.toUInt8)) ∧ w' = w := Any.bytes_Index_one Tryd.lays185 b o n c b2 o2 d xs cv w hx hc hc2
open Go.RowKit Go.Lib in
/-- The same where s is nil: -1. (LAID: no walk: one application.) -/
theorem Tryd.bytes_Index_one_nil (b2 o2 d : Nat) (cv : Int) (w : World) (hc2 : w.cell? ⟨b2, o2, none⟩ = some (.int .u8 cv)) :
    Calls Tryd.prog 74 #[.slice none 0 0, .slice (some ⟨b2, o2, none⟩) 1 d] w fun e w' => e = .returned (.int .i64 (-1)) ∧ w' = w := Any.bytes_Index_one_nil Tryd.lays185 b2 o2 d cv w hc2
open Go.RowKit Go.Lib in
/-- bytes.Index at a separator of no byte (nil too): 0, whatever s. (LAID: no walk: one application.) -/
theorem Tryd.bytes_Index_none (p q : Option Addr) (n c d : Nat) (w : World) :
    Calls Tryd.prog 74 #[.slice p n c, .slice q 0 d] w fun e w' => e = .returned (.int .i64 0) ∧ w' = w := Any.bytes_Index_none Tryd.lays185 p q n c d w
open Go.RowKit Go.Lib in
/-- bytes.Index at a separator of two bytes or more that is longer than s: -1; no cell is read. (LAID: no walk: one application.) -/
theorem Tryd.bytes_Index_longer (p q : Option Addr) (n c m d : Nat) (w : World) (h2 : 2 ≤ m) (hnm : n < m) (hm : m ≤ 9223372036854775807) :
    Calls Tryd.prog 74 #[.slice p n c, .slice q m d] w fun e w' => e = .returned (.int .i64 (-1)) ∧ w' = w := Any.bytes_Index_longer Tryd.lays185 p q n c m d w h2 hnm hm
open Go.RowKit Go.Lib in
/-- bytes.Index at a separator of two bytes or more that is JUST AS LONG as s: 0 where the two hold the same bytes, else -1. (LAID: no walk: one application.) -/
theorem Tryd.bytes_Index_same (b o c b2 o2 d n : Nat) (xs ys : List Int) (w : World) (h2 : 2 ≤ n) (hm : n ≤ 9223372036854775807) (hx : xs.length = n) (hy : ys.length = n) (hc : ∀ i, i < n → w.cell? ⟨b, o + i, none⟩ = some (.int .u8 (xs.getD i 0))) (hc2 : ∀ i, i < n → w.cell? ⟨b2, o2 + i, none⟩ = some (.int .u8 (ys.getD i 0))) :
    Calls Tryd.prog 74 #[.slice (some ⟨b, o, none⟩) n c, .slice (some ⟨b2, o2, none⟩) n d] w fun e w' => e = .returned (.int .i64 (if Lib.bytesOf ys == Lib.bytesOf xs then 0 else -1)) ∧ w' = w := Any.bytes_Index_same Tryd.lays185 b o c b2 o2 d n xs ys w h2 hm hx hy hc hc2
def Tryd.lays187_ren : Go.Shelf.Ren := ⟨fun | 187 => 86 | 255 => 99 | n => n, fun | 37 => 24 | 5 => 5 | 3 => 3 | n => n, fun | n => n⟩
theorem Tryd.lays187 : Go.Proofs.Lays.n187 Tryd.prog Tryd.lays187_ren := {
  mixed := by kernel_rfl
  f187 := Tryd.func86.trans (congrArg some (by kernel_rfl))
  f255 := Tryd.func99.trans (congrArg some (by kernel_rfl))
  t3 := Tryd.underlying3
  a3 := Tryd.isAgg3
  z3 := Tryd.sizeOf3
  v3 := Tryd.zeroValue3
  t5 := Tryd.underlying5
  a5 := Tryd.isAgg5
  z5 := Tryd.sizeOf5
  v5 := Tryd.zeroValue5
  t37 := Tryd.underlying24
  a37 := Tryd.isAgg24
  z37 := Tryd.sizeOf24
  v37 := Tryd.zeroValue24 }
open Go.RowKit Go.Lib in
/-- bytes.IndexByte, b at whatever address: "IndexByte returns the index of the first instance of c in b, or -1 if c is not present in b." (LAID: no walk: one application.) -/
theorem Tryd.bytes_IndexByte_at (a : Addr) (n c : Nat) (xs : List Int) (cv : Int) (w : World) (hx : xs.length = n) (hc : ∀ i, i < n → w.cell? (a.add i) = some (.int .u8 (xs.getD i 0))) :
    Calls Tryd.prog 86 #[.slice (some a) n c, .int .u8 cv] w fun e w' => e = .returned (.int .i64 (Lib.indexByte (Lib.bytesOf xs) cv.toNat.toUInt8)) ∧ w' = w := Any.bytes_IndexByte_at Tryd.lays187 a n c xs cv w hx hc
open Go.RowKit Go.Lib in
/-- bytes.Index at a separator of one byte, s at whatever address. (LAID: no walk: one application.) -/
theorem Tryd.bytes_Index_one_at (a : Addr) (n c b2 o2 d : Nat) (xs : List Int) (cv : Int) (w : World) (hx : xs.length = n) (hc : ∀ i, i < n → w.cell? (a.add i) = some (.int .u8 (xs.getD i 0))) (hc2 : w.cell? ⟨b2, o2, none⟩ = some (.int .u8 cv)) :
    Calls Tryd.prog 74 #[.slice (some a) n c, .slice (some ⟨b2, o2, none⟩) 1 d] w fun e w' => e = .returned (.int .i64 (Lib.indexByte (Lib.bytesOf xs) cv.toNat.toUInt8)) ∧ w' = w := Any.bytes_Index_one_at Tryd.lays185 a n c b2 o2 d xs cv w hx hc hc2
open Go.Proofs Go.RowKit Go.Lib in
/-- bytes.IndexByte, the slice's bytes told by a ByteArray. (LAID: no walk: one application.) -/
theorem Tryd.bytes_IndexByte_bytes (b o cap : Nat) (t : ByteArray) (cv : Int) (w : World) (hc : Lib.Bytes w b o t) :
    Calls Tryd.prog 86 #[.slice (some ⟨b, o, none⟩) t.size cap, .int .u8 cv] w fun e w' => e = .returned (.int .i64 (Lib.indexByte t.data.toList cv.toNat.toUInt8)) ∧ w' = w := Any.bytes_IndexByte_bytes Tryd.lays187 b o cap t cv w hc
def Tryd.lays115_ren : Go.Shelf.Ren := ⟨fun | 115 => 87 | n => n, fun | 37 => 24 | 4 => 4 | 9 => 9 | 5 => 5 | n => n, fun | n => n⟩
theorem Tryd.lays115 : Go.Proofs.Lays.n115 Tryd.prog Tryd.lays115_ren := {
  mixed := by kernel_rfl
  f115 := Tryd.func87.trans (congrArg some (by kernel_rfl))
  t4 := Tryd.underlying4
  a4 := Tryd.isAgg4
  z4 := Tryd.sizeOf4
  v4 := Tryd.zeroValue4
  t9 := Tryd.underlying9
  a9 := Tryd.isAgg9
  z9 := Tryd.sizeOf9
  v9 := Tryd.zeroValue9
  t37 := Tryd.underlying24
  a37 := Tryd.isAgg24
  z37 := Tryd.sizeOf24
  v37 := Tryd.zeroValue24 }
open Go.Proofs Go.RowKit Go.Lib in
/-- bytes.Equal, each argument with what 'string(..)' of it gives. (LAID: no walk: one application.) -/
theorem Tryd.bytes_Equal_strs (v1 v2 : Value) (t1 t2 : ByteArray) (w : World) (h1 : (convert 24 9 v1).run Tryd.prog w = .ok (.string t1) w) (h2 : (convert 24 9 v2).run Tryd.prog w = .ok (.string t2) w) :
    Calls Tryd.prog 87 #[v1, v2] w fun e w' => e = .returned (.bool (t1.toList == t2.toList)) ∧ w' = w := Any.bytes_Equal_strs Tryd.lays115 v1 v2 t1 t2 w h1 h2
def Tryd.lays291_ren : Go.Shelf.Ren := ⟨fun | 291 => 100 | n => n, fun | 37 => 24 | 51 => 107 | 3 => 3 | 4 => 4 | 0 => 0 | 5 => 5 | 46 => 90 | n => n, fun | n => n⟩
theorem Tryd.lays291 : Go.Proofs.Lays.n291 Tryd.prog Tryd.lays291_ren := {
  mixed := by kernel_rfl
  f291 := Tryd.func100.trans (congrArg some (by kernel_rfl))
  t0 := Tryd.underlying0
  a0 := Tryd.isAgg0
  z0 := Tryd.sizeOf0
  v0 := Tryd.zeroValue0
  t3 := Tryd.underlying3
  a3 := Tryd.isAgg3
  z3 := Tryd.sizeOf3
  v3 := Tryd.zeroValue3
  t4 := Tryd.underlying4
  a4 := Tryd.isAgg4
  z4 := Tryd.sizeOf4
  v4 := Tryd.zeroValue4
  t5 := Tryd.underlying5
  a5 := Tryd.isAgg5
  z5 := Tryd.sizeOf5
  v5 := Tryd.zeroValue5
  t37 := Tryd.underlying24
  a37 := Tryd.isAgg24
  z37 := Tryd.sizeOf24
  v37 := Tryd.zeroValue24
  t46 := Tryd.underlying90
  a46 := Tryd.isAgg90
  z46 := Tryd.sizeOf90
  v46 := Tryd.zeroValue90
  t51 := Tryd.underlying107
  a51 := Tryd.isAgg107
  z51 := Tryd.sizeOf107
  v51 := Tryd.zeroValue107 }
open Go.RowKit Go.Lib in
/-- hashStr at []byte: "returns the hash and the appropriate multiplicative factor for use in Rabin-Karp algorithm": THE HASH OF ALL OF sep, AND 16777619 ^ len(sep), both in uint32. THE SLICE's BYTES ARE TOLD BY A ByteArray: cell i holds 'sep[i]': so the laws that were typed for strings (Derived/Lib/RabinKarpLaws.lean) serve as they lie. (LAID: no walk: one application.) -/
theorem Tryd.bytealg_hashStr_bytes (b o c : Nat) (sep : ByteArray) (hs : sep.size < 4294967281) (w : World) (hc : Lib.Bytes w b o sep) :
    Calls Tryd.prog 100 #[.slice (some ⟨b, o, none⟩) sep.size c] w fun e w' => e = .returned (.tuple #[.int .u32 (RK.H sep.data.toList % 4294967296), .int .u32 (16777619 ^ sep.size % 4294967296)]) ∧ w' = w := Any.bytealg_hashStr_bytes Tryd.lays291 b o c sep hs w hc
def Tryd.lays254_ren : Go.Shelf.Ren := ⟨fun | 254 => 89 | 291 => 100 | n => n, fun | 37 => 24 | 3 => 3 | 146 => 113 | 51 => 107 | 4 => 4 | 0 => 0 | 5 => 5 | 9 => 9 | 46 => 90 | n => n, fun | n => n⟩
theorem Tryd.lays254 : Go.Proofs.Lays.n254 Tryd.prog Tryd.lays254_ren := {
  mixed := by kernel_rfl
  f254 := Tryd.func89.trans (congrArg some (by kernel_rfl))
  f291 := Tryd.func100.trans (congrArg some (by kernel_rfl))
  t0 := Tryd.underlying0
  a0 := Tryd.isAgg0
  z0 := Tryd.sizeOf0
  v0 := Tryd.zeroValue0
  t3 := Tryd.underlying3
  a3 := Tryd.isAgg3
  z3 := Tryd.sizeOf3
  v3 := Tryd.zeroValue3
  t4 := Tryd.underlying4
  a4 := Tryd.isAgg4
  z4 := Tryd.sizeOf4
  v4 := Tryd.zeroValue4
  t5 := Tryd.underlying5
  a5 := Tryd.isAgg5
  z5 := Tryd.sizeOf5
  v5 := Tryd.zeroValue5
  t9 := Tryd.underlying9
  a9 := Tryd.isAgg9
  z9 := Tryd.sizeOf9
  v9 := Tryd.zeroValue9
  t37 := Tryd.underlying24
  a37 := Tryd.isAgg24
  z37 := Tryd.sizeOf24
  v37 := Tryd.zeroValue24
  t46 := Tryd.underlying90
  a46 := Tryd.isAgg90
  z46 := Tryd.sizeOf90
  v46 := Tryd.zeroValue90
  t51 := Tryd.underlying107
  a51 := Tryd.isAgg107
  z51 := Tryd.sizeOf107
  v51 := Tryd.zeroValue107
  t146 := Tryd.underlying113
  a146 := Tryd.isAgg113
  z146 := Tryd.sizeOf113
  v146 := Tryd.zeroValue113 }
open Go.RowKit Go.Lib in
/-- IndexRabinKarp at []byte: "IndexRabinKarp uses the Rabin-Karp search algorithm to return the index of the first occurrence of sep in s, or -1 if not present.": 'Lib.index' of the two lists of bytes; the world is as it was but for the count of draws (the test 'h == hashss && string(..) == string(sep)' draws its order). After a hand of the authors' house's 'Any.bytealg_IndexRabinKarp' (Derived/Shelf/Strings/Search1.lean): the invariants and the closings are that text's. (LAID: no walk: one application.) -/
theorem Tryd.bytealg_IndexRabinKarp_bytes (b1 o1 c1 b2 o2 c2 : Nat) (s sep : ByteArray) (h1 : 1 ≤ sep.size) (h2 : sep.size ≤ s.size) (hs : s.size < 4294967281) (w : World) (hc1 : Lib.Bytes w b1 o1 s) (hc2 : Lib.Bytes w b2 o2 sep) (hcap : s.size ≤ c1) :
    Calls Tryd.prog 89 #[.slice (some ⟨b1, o1, none⟩) s.size c1, .slice (some ⟨b2, o2, none⟩) sep.size c2] w fun e w' => e = .returned (.int .i64 (Lib.index s.data.toList sep.data.toList)) ∧ ∃ q, w' = w.drewN q := Any.bytealg_IndexRabinKarp_bytes Tryd.lays254 b1 o1 c1 b2 o2 c2 s sep h1 h2 hs w hc1 hc2 hcap
open Go.RowKit Go.Lib in
/-- bytes.Index: "Index returns the index of the first instance of sep in s, or -1 if sep is not present in s.": 'Lib.index' of the two lists of bytes. (LAID: no walk: one application.) -/
theorem Tryd.bytes_Index_search (b1 o1 c1 b2 o2 c2 : Nat) (s sub : ByteArray) (m : Int) (w : World) (hs : s.size < 4294967281) (hm : w.cell? ⟨0, 0, none⟩ = some (.int .i64 m)) (hc1 : Lib.Bytes w b1 o1 s) (hc2 : Lib.Bytes w b2 o2 sub) (hcap : s.size ≤ c1) (hn2 : 2 ≤ sub.size) (hls : sub.size < s.size) :
    Calls Tryd.prog 74 #[.slice (some ⟨b1, o1, none⟩) s.size c1, .slice (some ⟨b2, o2, none⟩) sub.size c2] w fun e w' => e = .returned (.int .i64 (Lib.index s.data.toList sub.data.toList)) ∧ ∃ q, w' = w.drewN q := Any.bytes_Index_search Tryd.lays185 b1 o1 c1 b2 o2 c2 s sub m w hs hm hc1 hc2 hcap hn2 hls
open Go.Proofs Go.RowKit Go.Lib in
/-- bytes.Index, WHOLE: "Index returns the index of the first instance of sep in s, or -1 if sep is not present in s.": 'Lib.index' of the two lists of bytes. (LAID: no walk: one application.) -/
theorem Tryd.bytes_Index_at (a1 a2 : Addr) (n c1 k c2 : Nat) (xs ys : List Int) (m : Int) (w : World) (hx : xs.length = n) (hy : ys.length = k) (hr1 : ∀ x ∈ xs, 0 ≤ x ∧ x < 256) (hr2 : ∀ y ∈ ys, 0 ≤ y ∧ y < 256) (hc1 : ∀ i, i < n → w.cell? (a1.add i) = some (.int .u8 (xs.getD i 0))) (hc2 : ∀ i, i < k → w.cell? (a2.add i) = some (.int .u8 (ys.getD i 0))) (hcap : n ≤ c1) (hs : n < 4294967281) (hk : k ≤ 9223372036854775807) (hm : w.cell? ⟨0, 0, none⟩ = some (.int .i64 m)) :
    Calls Tryd.prog 74 #[.slice (some a1) n c1, .slice (some a2) k c2] w fun e w' => e = .returned (.int .i64 (Lib.index (Lib.bytesOf xs) (Lib.bytesOf ys))) ∧ ∃ q, w' = w.drewN q := Any.bytes_Index_at Tryd.lays185 a1 a2 n c1 k c2 xs ys m w hx hy hr1 hr2 hc1 hc2 hcap hs hk hm
open Go.Proofs Go.RowKit Go.Lib in
/-- bytes.Index where s is nil: 0 at a separator of no byte, else -1. (LAID: no walk: one application.) -/
theorem Tryd.bytes_Index_nil (p2 : Option Addr) (k c2 : Nat) (w : World) (hk : k ≤ 9223372036854775807) (h1 : k = 1 → ∃ b2 o2 cv, p2 = some ⟨b2, o2, none⟩ ∧ w.cell? ⟨b2, o2, none⟩ = some (.int .u8 cv)) :
    Calls Tryd.prog 74 #[.slice none 0 0, .slice p2 k c2] w fun e w' => e = .returned (.int .i64 (if k = 0 then 0 else -1)) ∧ w' = w := Any.bytes_Index_nil Tryd.lays185 p2 k c2 w hk h1
def Tryd.laysM185_ren : Go.Shelf.Ren := ⟨fun | 185 => 74 | 187 => 86 | 115 => 87 | 253 => 88 | 224 => 77 | 254 => 89 | 255 => 99 | 291 => 100 | n => n, fun | 37 => 24 | 3 => 3 | 4 => 4 | 0 => 0 | 5 => 5 | 46 => 90 | 9 => 9 | 146 => 113 | 51 => 107 | n => n, fun | 1 => 0 | n => n⟩
theorem Tryd.laysM185 : Go.Proofs.LaysM.n185 Tryd.prog Tryd.laysM185_ren := {
  mixed := by kernel_rfl
  f115 := Tryd.func87.trans (congrArg some (by kernel_rfl))
  f185 := Tryd.func74.trans (congrArg some (by kernel_rfl))
  f187 := Tryd.func86.trans (congrArg some (by kernel_rfl))
  f224 := Tryd.func77.trans (congrArg some (by kernel_rfl))
  f253 := Tryd.func88.trans (congrArg some (by kernel_rfl))
  f254 := Tryd.func89.trans (congrArg some (by kernel_rfl))
  f255 := Tryd.func99.trans (congrArg some (by kernel_rfl))
  f291 := Tryd.func100.trans (congrArg some (by kernel_rfl))
  t0 := Tryd.underlying0
  a0 := Tryd.isAgg0
  z0 := Tryd.sizeOf0
  v0 := Tryd.zeroValue0
  t3 := Tryd.underlying3
  a3 := Tryd.isAgg3
  z3 := Tryd.sizeOf3
  v3 := Tryd.zeroValue3
  t4 := Tryd.underlying4
  a4 := Tryd.isAgg4
  z4 := Tryd.sizeOf4
  v4 := Tryd.zeroValue4
  t5 := Tryd.underlying5
  a5 := Tryd.isAgg5
  z5 := Tryd.sizeOf5
  v5 := Tryd.zeroValue5
  t9 := Tryd.underlying9
  a9 := Tryd.isAgg9
  z9 := Tryd.sizeOf9
  v9 := Tryd.zeroValue9
  t37 := Tryd.underlying24
  a37 := Tryd.isAgg24
  z37 := Tryd.sizeOf24
  v37 := Tryd.zeroValue24
  t46 := Tryd.underlying90
  a46 := Tryd.isAgg90
  z46 := Tryd.sizeOf90
  v46 := Tryd.zeroValue90
  t51 := Tryd.underlying107
  a51 := Tryd.isAgg107
  z51 := Tryd.sizeOf107
  v51 := Tryd.zeroValue107
  t146 := Tryd.underlying113
  a146 := Tryd.isAgg113
  z146 := Tryd.sizeOf113
  v146 := Tryd.zeroValue113
  g1 := by kernel_rfl
  i0 := by kernel_rfl
  i3 := by kernel_rfl
  i4 := by kernel_rfl
  i5 := by kernel_rfl
  i9 := by kernel_rfl
  i37 := by kernel_rfl
  i46 := by kernel_rfl
  i51 := by kernel_rfl
  i146 := by kernel_rfl
  m1 := by kernel_rfl
  s1_3 := fun w h => Go.Proofs.cell_of_shapedOpen_int (zero := #[.int .i64 0]) (t := 3) h (of_decide_eq_true (by kernel_rfl)) (by kernel_rfl) rfl (by kernel_rfl) (by kernel_rfl) Tryd.underlying3 }
open Go.Proofs Go.RowKit Go.Lib in
/-- .. AT A ROW's OWN FIRST WORLD: 'World.ShapedOpen P' in the place of the word on internal/bytealg.MaxLen's cell (after a hand of the authors' house's Derived/Shelf/Strings/Shaped.lean). ✋ BEHIND AN ALLOCATION (a separator typed as '[]byte("..")') the world is the first no more: take 'let ⟨m, hm⟩ := L.s1_3 W h' at the first world and carry the cell over ('Lib.cell?_alloc_marked'), then the form above. (LAID: no walk: one application.) -/
theorem Tryd.bytes_Index_at_shaped (a1 a2 : Addr) (n c1 k c2 : Nat) (xs ys : List Int) (w : World) (hx : xs.length = n) (hy : ys.length = k) (hr1 : ∀ x ∈ xs, 0 ≤ x ∧ x < 256) (hr2 : ∀ y ∈ ys, 0 ≤ y ∧ y < 256) (hc1 : ∀ i, i < n → w.cell? (a1.add i) = some (.int .u8 (xs.getD i 0))) (hc2 : ∀ i, i < k → w.cell? (a2.add i) = some (.int .u8 (ys.getD i 0))) (hcap : n ≤ c1) (hs : n < 4294967281) (hk : k ≤ 9223372036854775807) (h : w.ShapedOpen Tryd.prog) :
    Calls Tryd.prog 74 #[.slice (some a1) n c1, .slice (some a2) k c2] w fun e w' => e = .returned (.int .i64 (Lib.index (Lib.bytesOf xs) (Lib.bytesOf ys))) ∧ ∃ q, w' = w.drewN q := Any.bytes_Index_at_shaped Tryd.laysM185 a1 a2 n c1 k c2 xs ys w hx hy hr1 hr2 hc1 hc2 hcap hs hk h
def Tryd.laysSlK4_ren : Go.Shelf.Ren := ⟨fun | 4 => 59 | n => n, fun | 22 => 24 | 4 => 4 | 5 => 5 | n => n, fun | n => n⟩
theorem Tryd.laysSlK4 : Go.Proofs.SlLaysK.n4 Tryd.prog Tryd.laysSlK4_ren := {
  mixed := by kernel_rfl
  f4 := Tryd.func59.trans (congrArg some (by kernel_rfl))
  t4 := Tryd.underlying4
  a4 := Tryd.isAgg4
  z4 := Tryd.sizeOf4
  v4 := Tryd.zeroValue4
  t22 := Tryd.underlying24
  a22 := Tryd.isAgg24
  z22 := Tryd.sizeOf24
  v22 := Tryd.zeroValue24
  t5 := Tryd.underlying5
  i5 := by kernel_rfl }
open Go.RowKit Go.Lib in
/-- bytes.Clone: "Clone returns a copy of b[:len(b)]. The result may have additional unused capacity.": OF A SLICE THAT IS NOT nil IT RETURNS A SLICE THAT IS NOT nil, OF THE SAME BYTES, IN MEMORY OF THE CALL's OWN: in the how-to's words (6f): 'w'.ownsRow B e 1 v' n cells' · 'Below B w w'', B the heap's size at the call. b AT WHATEVER ADDRESS, its cells as 'open_ints' hands them ('a.add i'; the numbers 'xs'). No byte: no cell is asked for. (LAID: no walk: one application.) -/
theorem Tryd.bytes_Clone_at (a : Addr) (n c : Nat) (xs : List Int) (w : World) (hx : xs.length = n) (hbig : n ≤ 140737488355328) (hc : ∀ i, i < n → w.cell? (a.add i) = some (.int .u8 (xs.getD i 0))) :
    Calls Tryd.prog 59 #[.slice (some a) n c] w fun e w' => ∃ v', e = .returned v' ∧ w'.ownsRow w.heap.size 5 1 v' n (xs.map (Value.int .u8)) ∧ v' ≠ .slice none 0 0 ∧ Below w.heap.size w w' := Any.bytes_Clone_at Tryd.laysSlK4 a n c xs w hx hbig hc
open Go.RowKit Go.Lib in
/-- "Clone(nil) returns nil.": the world is as it was. (LAID: no walk: one application.) -/
theorem Tryd.bytes_Clone_nil (n c : Nat) (w : World) :
    Calls Tryd.prog 59 #[.slice none n c] w fun e w' => e = .returned (.slice none 0 0) ∧ w' = w := Any.bytes_Clone_nil Tryd.laysSlK4 n c w
def Tryd.laysSlT4_ren : Go.Shelf.Ren := ⟨fun | 4 => 67 | 5 => 74 | 6 => 86 | 7 => 87 | 8 => 88 | 9 => 77 | 10 => 89 | 11 => 99 | 12 => 100 | n => n, fun | 22 => 24 | 4 => 4 | 3 => 3 | 0 => 0 | 5 => 5 | 29 => 90 | 9 => 9 | 31 => 113 | 30 => 107 | n => n, fun | 0 => 0 | n => n⟩
theorem Tryd.laysSlT4 : Go.Proofs.SlLaysT.n4 Tryd.prog Tryd.laysSlT4_ren := {
  mixed := by kernel_rfl
  f4 := Tryd.func67.trans (congrArg some (by kernel_rfl))
  f5 := Tryd.func74.trans (congrArg some (by kernel_rfl))
  f6 := Tryd.func86.trans (congrArg some (by kernel_rfl))
  f7 := Tryd.func87.trans (congrArg some (by kernel_rfl))
  f8 := Tryd.func88.trans (congrArg some (by kernel_rfl))
  f9 := Tryd.func77.trans (congrArg some (by kernel_rfl))
  f10 := Tryd.func89.trans (congrArg some (by kernel_rfl))
  f11 := Tryd.func99.trans (congrArg some (by kernel_rfl))
  f12 := Tryd.func100.trans (congrArg some (by kernel_rfl))
  t0 := Tryd.underlying0
  a0 := Tryd.isAgg0
  z0 := Tryd.sizeOf0
  v0 := Tryd.zeroValue0
  t3 := Tryd.underlying3
  a3 := Tryd.isAgg3
  z3 := Tryd.sizeOf3
  v3 := Tryd.zeroValue3
  t4 := Tryd.underlying4
  a4 := Tryd.isAgg4
  z4 := Tryd.sizeOf4
  v4 := Tryd.zeroValue4
  t5 := Tryd.underlying5
  a5 := Tryd.isAgg5
  z5 := Tryd.sizeOf5
  v5 := Tryd.zeroValue5
  t9 := Tryd.underlying9
  a9 := Tryd.isAgg9
  z9 := Tryd.sizeOf9
  v9 := Tryd.zeroValue9
  t22 := Tryd.underlying24
  a22 := Tryd.isAgg24
  z22 := Tryd.sizeOf24
  v22 := Tryd.zeroValue24
  t29 := Tryd.underlying90
  a29 := Tryd.isAgg90
  z29 := Tryd.sizeOf90
  v29 := Tryd.zeroValue90
  t30 := Tryd.underlying107
  a30 := Tryd.isAgg107
  z30 := Tryd.sizeOf107
  v30 := Tryd.zeroValue107
  t31 := Tryd.underlying113
  a31 := Tryd.isAgg113
  z31 := Tryd.sizeOf113
  v31 := Tryd.zeroValue113
  g0 := by kernel_rfl }
/-- THE WALK, bytes.Index's answer a premise: whatever the two slices' addresses. (LAID: no walk: one application.) -/
theorem Tryd.bytes_Cut_of (p1 p2 : Option Addr) (n c1 k c2 : Nat) (i : Int) (w : World) (hcap : n ≤ c1) (hlo : -1 ≤ i) (hroom : 0 ≤ i → i + k ≤ n) (hn : n ≤ 4611686018427387904) (hidx : Calls Tryd.prog 74 #[.slice p1 n c1, .slice p2 k c2] w fun e w' => e = .returned (.int .i64 i) ∧ ∃ q, w' = w.drewN q) :
    Calls Tryd.prog 67 #[.slice p1 n c1, .slice p2 k c2] w fun e w' => e = .returned (Lib.cutV p1 n c1 k i) ∧ ∃ q, w' = w.drewN q := Any.bytes_Cut_of Tryd.laysSlT4 p1 p2 n c1 k c2 i w hcap hlo hroom hn hidx
/-- **bytes.Cut, WHOLE UP TO THE MODEL's BOUND** ('hs': s shorter than 4294967281 bytes: bytes.Index's): each argument nil, or of no byte at whatever address, or at an address with its cells ('Lib.BytesIn': Derived/Shelf/Bytes/SlSmallAll.lean). 'hr1', 'hr2': each number a byte's (what '(Lit.int .u8 x).wf' says) · 'hm': internal/bytealg.MaxLen's cell holds some int, whatever · 'hp1': a nil slice has no capacity. (LAID: no walk: one application.) -/
theorem Tryd.bytes_Cut_all (p1 p2 : Option Addr) (n c1 k c2 : Nat) (xs ys : List Int) (m : Int) (w : World) (hx : xs.length = n) (hy : ys.length = k) (hr1 : ∀ x ∈ xs, 0 ≤ x ∧ x < 256) (hr2 : ∀ y ∈ ys, 0 ≤ y ∧ y < 256) (h1 : Lib.BytesIn w p1 n xs) (h2 : Lib.BytesIn w p2 k ys) (hp1 : p1 = none → c1 = 0) (hcap : n ≤ c1) (hs : n < 4294967281) (hk : k ≤ 9223372036854775807) (hm : w.cell? ⟨0, 0, none⟩ = some (.int .i64 m)) :
    Calls Tryd.prog 67 #[.slice p1 n c1, .slice p2 k c2] w fun e w' => e = .returned (Lib.cutV p1 n c1 k (Lib.index (Lib.bytesOf xs) (Lib.bytesOf ys))) ∧ ∃ q, w' = w.drewN q := Any.bytes_Cut_all Tryd.laysSlT4 p1 p2 n c1 k c2 xs ys m w hx hy hr1 hr2 h1 h2 hp1 hcap hs hk hm
/-- bytes.Equal: "Equal reports whether a and b are the same length and contain the same bytes. A nil argument is equivalent to an empty slice.": IT RETURNS 'the bytes of the one == the bytes of the other'; the world is as it was. THE TWO ARGUMENTS COME AS WHATEVER VALUES, each with the one fact that the walk wants of it: what 'string(..)' of it gives: for a slice whose cells you know: 'run_convert_bytes_arg' (Derived/Laws/BytesArg.lean) hands that fact; for a nil one: 'run_convert_bytes_nil' (with xs := []). (LAID: no walk: one application.) -/
theorem Tryd.bytes_Equal (v1 v2 : Value) (xs ys : List Int) (w : World) (h1 : (convert 24 9 v1).run Tryd.prog w = .ok (.string (strOfNums xs)) w) (h2 : (convert 24 9 v2).run Tryd.prog w = .ok (.string (strOfNums ys)) w) :
    Calls Tryd.prog 87 #[v1, v2] w fun e w' => e = .returned (.bool (Lib.bytesOf xs == Lib.bytesOf ys)) ∧ w' = w := Any.bytes_Equal Tryd.lays115 v1 v2 xs ys w h1 h2
/-- bytes.IndexByte: "IndexByte returns the index of the first instance of c in b, or -1 if c is not present in b.": IT RETURNS 'Lib.indexByte (the bytes of b) c'; the world is as it was. 'xs': the numbers that the slice's cells hold. (LAID: no walk: one application.) -/
theorem Tryd.bytes_IndexByte (b o n c : Nat) (xs : List Int) (cv : Int) (w : World) (hx : xs.length = n) (hc : ∀ i, i < n → w.cell? ⟨b, o + i, none⟩ = some (.int .u8 (xs.getD i 0))) :
    Calls Tryd.prog 86 #[.slice (some ⟨b, o, none⟩) n c, .int .u8 cv] w fun e w' => e = .returned (.int .i64 (Lib.indexByte (Lib.bytesOf xs) cv.toNat.toUInt8)) ∧ w' = w := Any.bytes_IndexByte Tryd.lays187 b o n c xs cv w hx hc
/-- bytes.IndexByte AT nil: -1. (LAID: no walk: one application.) -/
theorem Tryd.bytes_IndexByte_nil (cv : Int) (w : World) :
    Calls Tryd.prog 86 #[.slice none 0 0, .int .u8 cv] w fun e w' => e = .returned (.int .i64 (-1)) ∧ w' = w := Any.bytes_IndexByte_nil Tryd.lays187 cv w
end Go.Proofs

/-
  The library's functions that layer 1 calls: what a call of each is, over heaps.
-/
set_option linter.unusedSimpArgs false
set_option linter.unusedVariables false
namespace Go.Proofs.YtedklcmdjoojfaaDoor
open Go Go.Hw Go.RowKit Go.Sort

theorem push_old {w : World} {o o' : Obj} {b : Nat} (hb : hpOf w b = some o) : (w.heap.push o')[b]? = some o := by
  have hlt : b < w.heap.size := (Array.getElem?_eq_some_iff.1 hb).1
  rw [Array.getElem?_push, if_neg (by omega)]; exact hb
theorem frzn_ne {h : Hp} {a : Addr} {n b : Nat} (hn : b ≠ a.block) : frzn h a n b = h b := by
  unfold frzn
  split
  · rfl
  · cases hq : h a.block with
    | none => rfl
    | some o => cases o <;> first | rfl | (simp only; rw [upd_ne hn])
theorem ext_below {w w' : World} {B : Nat} (hB : w.heap.size ≤ B) (h : Below B w w') : Ext none' (hpOf w) (hpOf w') := by
  intro b o hb _
  have hlt : b < w.heap.size := (Array.getElem?_eq_some_iff.1 hb).1
  show w'.heap[b]? = _
  rw [h.block b (by omega)]; exact hb
theorem kp_below {w w' : World} {B : Nat} (h : Below B w w') : Kp w w' := ⟨h.os, h.output⟩
theorem ext_grow (w : World) (os : Array Obj) (n : Nat) : Ext none' (hpOf w) (hpOf (grow (w.drewN n) os)) := by
  intro b o hb _
  have hlt : b < w.heap.size := (Array.getElem?_eq_some_iff.1 hb).1
  show (w.heap ++ os)[b]? = _
  rw [Array.getElem?_append_left hlt]; exact hb

/-- the variables of the library that are read -/
structure Glob (h : Hp) : Prop where
  pow : ∀ i z, Lib.pow10Tab[i]? = some z → cell h ⟨1, i, none⟩ = some (.int .u64 z)
  powN : ∃ cs e fr, h 1 = some (.cells ⟨cs⟩ e fr) ∧ cs.length = 20
  syn : ∃ te pe, cell h ⟨4, 0, none⟩ = some (.iface te pe)
  rng : ∃ te pe, cell h ⟨5, 0, none⟩ = some (.iface te pe)
  max : ∃ m, cell h ⟨0, 0, none⟩ = some (.int .i64 m)
theorem Glob.ext {h h' : Hp} (G : Glob h) (he : Ext none' h h') : Glob h' :=
  ⟨fun i z hz => cellx he (G.pow i z hz), let ⟨cs, e, fr, hb, hl⟩ := G.powN; ⟨cs, e, fr, he _ _ hb (fun e => e), hl⟩, let ⟨a, b, hc⟩ := G.syn; ⟨a, b, cellx he hc⟩, let ⟨a, b, hc⟩ := G.rng; ⟨a, b, cellx he hc⟩, let ⟨m, hc⟩ := G.max; ⟨m, cellx he hc⟩⟩

theorem pow_len : Lib.pow10Tab.length = 20 := by decide
theorem tab_of {w : World} (G : Glob (hpOf w)) : Lib.TabIs Tryd.prog w "internal/strconv.uint64pow10" .u64 Lib.pow10Tab := by
  obtain ⟨cs, e, fr, hb, hl⟩ := G.powN
  have hg : Tryd.prog.globalNamed "internal/strconv.uint64pow10" = some 1 := by kernel_rfl
  unfold Lib.TabIs World.var?
  rw [hg]
  have hb' : w.heap[1]? = some (.cells ⟨cs⟩ e fr) := hb
  simp only [Option.bind_some, hb']
  congr 1
  apply Array.ext'
  show cs = Lib.pow10Tab.map fun z => Value.int .u64 z
  apply List.ext_getElem?
  intro i
  by_cases hi : i < 20
  · have h1 : i < Lib.pow10Tab.length := by rw [pow_len]; exact hi
    have h2 := G.pow i _ (List.getElem?_eq_getElem h1)
    rw [cell_at hb] at h2
    rw [h2, List.getElem?_map, List.getElem?_eq_getElem h1]; rfl
  · rw [List.getElem?_eq_none (by omega), List.getElem?_eq_none (by rw [List.length_map, pow_len]; omega)]
theorem c_itoa {n : Int} {h : Hp} {K : ByteArray → Hp → Prop} (G : Glob h) (h0 : -9223372036854775808 ≤ n) (h1 : n ≤ 9223372036854775807) (hK : ∀ h', Ext none' h h' → K ⟨⟨Lib.itoa n⟩⟩ h') : C31 n h K := by
  intro w hw
  subst hw
  refine (Tryd.strconv_Itoa n h0 h1 w (tab_of G)).mono ?_
  rintro e w' ⟨rfl, k, os, rfl⟩
  exact ⟨_, rfl, hK _ (ext_grow w os k), rfl, rfl⟩
/-- an error that is one -/
def isErr : Value → Prop
  | .iface _ _ => True
  | _ => False
end Go.Proofs.YtedklcmdjoojfaaDoor

set_option linter.unusedVariables false
set_option maxRecDepth 100000
namespace Go.Proofs.YtedklcmdjoojfaaDoor
open Go Go.Hw
/-! ### 10 slipway/slipwayref01.Lent -/
noncomputable def B10 : Code := match Tryd.f10.body with | some c => c | none => .skip
def N10 (x0 : Sl) (h : Hp) (K : Sl → Hp → Prop) : Prop :=
  mkK Tryd.prog 5 (IntKind.wrap .i64 (((x0.n : Nat) : Int) + 2)) (IntKind.wrap .i64 (((x0.n : Nat) : Int) + 2)) h fun s0 h0 =>
  cpK Tryd.prog 5 s0 (.slice x0.p x0.n x0.c) h0 fun n0 h1 =>
  idx ((x0.n : Nat) : Int) s0.n <|
  nn s0.p fun a0 =>
  st h1 (a0.add (((x0.n : Nat) : Int).toNat * 1)) (.int .u8 71) fun h2 =>
  idx (IntKind.wrap .i64 (((x0.n : Nat) : Int) + 1)) s0.n <|
  nn s0.p fun a1 =>
  st h2 (a1.add ((IntKind.wrap .i64 (((x0.n : Nat) : Int) + 1)).toNat * 1)) (.int .u8 72) fun h3 =>
  bd ((x0.n : Nat) : Int) s0.c fun k0 =>
  K ⟨sadr s0.p s0.c 0 1, k0, s0.c⟩ h3
theorem S10 {x0 : Sl} {h : Hp} {K : Sl → Hp → Prop} (hn : N10 x0 h K) : C10 x0 h K := by
  refine calls_of_D Tryd.func10 (c := B10) rfl (by kernel_rfl) ?_
  refine den_sound hE hm _ .leaf _ _ _ (annOk_leaf) ?_
  refine cast ?_ hn
  kernel_rfl
end Go.Proofs.YtedklcmdjoojfaaDoor

set_option linter.unusedVariables false
set_option maxRecDepth 100000
namespace Go.Proofs.YtedklcmdjoojfaaDoor
open Go Go.Hw
/-! ### 13 slipway/slipwayref01.AsLent -/
noncomputable def B13 : Code := match Tryd.f13.body with | some c => c | none => .skip
def N13_l1_b (x6_all : Sl) (x7_good : Bool) (Φ : Int → Hp → Prop) (x8_i : Int) (h : Hp) (K_e0 : Hp → Prop) : Prop :=
  bif (decide (x8_i < ((x6_all.n : Nat) : Int))) then
    idx x8_i x6_all.n <|
    nn x6_all.p fun a0 =>
    st h (a0.add (x8_i.toNat * 1)) (.int .u8 83) fun h0 =>
    Φ (IntKind.wrap .i64 (x8_i + 1)) h0
  else
    K_e0 h
def N13_l1_B (x6_all : Sl) (x7_good : Bool) (K_e0 : Hp → Prop) (s : Sg.T [(8, .c (.int .i64))]) (h : Hp) (Φ : Sg.T [(8, .c (.int .i64))] → Hp → Prop) : Prop :=
  N13_l1_b x6_all x7_good (fun x8_i h => Φ x8_i h) s h K_e0
def N13_l1 (x6_all : Sl) (x7_good : Bool) (x8_i : Int) (h : Hp) (K_e0 : Hp → Prop) : Prop :=
  loopP (N13_l1_B x6_all x7_good K_e0) x8_i h
noncomputable def N13_l1_t : Xf := loopT [(6, .c (.slice)), (7, .c (.bool))] [(8, .c (.int .i64))] (codeAt B13 [1, 1, 1, 1, 1, 0, 1, 0, 0]) fun F Q => N13_l1_B F.1 F.2 (fun h' => Q (.exit 0) (Sg.env [] ()) h')
theorem N13_l1_ok : Sound Tryd.prog Tryd.f13.ntmps N13_l1_t (codeAt B13 [1, 1, 1, 1, 1, 0, 1, 0]) := by
  refine loop_sound (fun e => match e with | .exit 0 => [] | _ => []) (by kernel_rfl) ?_
  intro F Q s h Φ hb
  refine den_sound hE hm _ .leaf _ _ _ (annOk_leaf) ?_
  refine cast ?_ hb
  kernel_rfl
def N13_j0 (x6_all : Sl) (x7_good : Bool) (h : Hp) (K_ret : Bool → Hp → Prop) : Prop :=
  N13_l1 x6_all x7_good 0 h
    (fun h0 =>
      K_ret x7_good h0)
noncomputable def N13_j0_t : Xf := pieceT [(6, .c (.slice)), (7, .c (.bool))] (codeAt B13 [1, 1, 1, 1, 1]) fun x h Q => N13_j0 x.1 x.2 h (fun o0 h' => Q .ret (Sg.env [(4, .c (.bool))] o0) h')
theorem N13_j0_ok : Sound Tryd.prog Tryd.f13.ntmps N13_j0_t (codeAt B13 [1, 1, 1, 1, 1]) := by
  refine piece_sound (fun e => match e with | .ret => [4] | _ => []) ?_
  intro x h Q hb
  refine den_sound hE hm _ (.two (.two .leaf (.one (.xf N13_l1_t))) .leaf) _ _ _ (⟨⟨annOk_leaf, N13_l1_ok⟩, annOk_leaf⟩) ?_
  refine cast ?_ hb
  kernel_rfl
def N13 (x0 : Sl) (x1 : Sl) (h : Hp) (K : Bool → Hp → Prop) : Prop :=
  bif (((x0.n : Nat) : Int) != ((x1.n : Nat) : Int)) then
    K false h
  else
    bd (IntKind.wrap .i64 (((x1.n : Nat) : Int) + 2)) x0.c fun k0 =>
    bd ((x1.n : Nat) : Int) x0.c fun k1 =>
    b2s h (sadr (sadr x0.p x0.c 0 1) x0.c 0 1) k1 fun s0 =>
    b2s h x1.p x1.n fun s1 =>
    bif (s0.toList == s1.toList) then
      idx ((x1.n : Nat) : Int) k0 <|
      nn (sadr x0.p x0.c 0 1) fun a0 =>
      xI .u8 (cell h (a0.add (((x1.n : Nat) : Int).toNat * 1))) fun n0 =>
      bif (n0 == 71) then
        idx (IntKind.wrap .i64 (((x1.n : Nat) : Int) + 1)) k0 <|
        nn (sadr x0.p x0.c 0 1) fun a1 =>
        xI .u8 (cell h (a1.add ((IntKind.wrap .i64 (((x1.n : Nat) : Int) + 1)).toNat * 1))) fun n1 =>
        N13_j0 ⟨sadr x0.p x0.c 0 1, k0, x0.c⟩ (n1 == 72) h
          (fun b0 h0 =>
            K b0 h0)
      else
        N13_j0 ⟨sadr x0.p x0.c 0 1, k0, x0.c⟩ false h
          (fun b1 h1 =>
            K b1 h1)
    else
      N13_j0 ⟨sadr x0.p x0.c 0 1, k0, x0.c⟩ false h
        (fun b2 h2 =>
          K b2 h2)
theorem S13 {x0 : Sl} {x1 : Sl} {h : Hp} {K : Bool → Hp → Prop} (hn : N13 x0 x1 h K) : C13 x0 x1 h K := by
  refine calls_of_D Tryd.func13 (c := B13) rfl (by kernel_rfl) ?_
  refine den_sound hE hm _ (.two .leaf (.two .leaf (.two .leaf (.two .leaf (.two (.ord [0, 1, 2, 3, 4, 5, 6, 7, 8, 9, 10, 11, 12, 13, 14, 15, 16, 17, 18, 19, 20, 21, 22]) (.xf N13_j0_t)))))) _ _ _ (⟨annOk_leaf, ⟨annOk_leaf, ⟨annOk_leaf, ⟨annOk_leaf, ⟨trivial, N13_j0_ok⟩⟩⟩⟩⟩) ?_
  refine cast ?_ hn
  kernel_rfl
end Go.Proofs.YtedklcmdjoojfaaDoor

/-
  The internet's sum: the program's and the document's; bytes lent; the bound.
-/
-- (no octet.Sum)
-- (no ref01.Sum)
-- (no ref01.Beyond)
set_option linter.unusedSimpArgs false
set_option linter.unusedVariables false
namespace Go.Proofs.YtedklcmdjoojfaaDoor
open Go Go.Hw

/-- what a byte counts at its place -/
def wat (i : Nat) (b : UInt8) : Nat := if i % 2 = 0 then 256 * b.toNat else b.toNat
def ws : Nat → List UInt8 → Nat
  | _, [] => 0
  | i, b :: l => wat i b + ws (i + 1) l
theorem ws_app (l m : List UInt8) : ∀ i, ws i (l ++ m) = ws i l + ws (i + l.length) m := by
  induction l with
  | nil => intro i; simp [ws]
  | cons b l ih => intro i; simp only [List.cons_append, ws, ih, List.length_cons]; rw [show i + 1 + l.length = i + (l.length + 1) by omega]; omega
theorem ws_snoc (l : List UInt8) (b : UInt8) : ws 0 (l ++ [b]) = ws 0 l + wat l.length b := by rw [ws_app]; simp [ws]
theorem wat_le (i : Nat) (b : UInt8) : wat i b ≤ 65280 := by have := b.toNat_lt; unfold wat; split <;> omega
def sum16 (l : List UInt8) : Nat := 65535 - fold16 (ws 0 l)

/-- a slice of slices that reads so -/
structure RdP (h : Hp) (s : Sl) (ts : List Sl) (ps : List (List UInt8)) : Prop where
  n : s.n = ts.length
  len : ts.length = ps.length
  r : Rdc h s.p (ts.map Sl.v)
  each : ∀ (i : Nat) t l, ts[i]? = some t → ps[i]? = some l → RdB h t l
theorem RdP.ext {h h' : Hp} {s : Sl} {ts : List Sl} {ps : List (List UInt8)} (H : RdP h s ts ps) (he : Ext none' h h') : RdP h' s ts ps := ⟨H.n, H.len, H.r.ext he, fun i t l h1 h2 => (H.each i t l h1 h2).ext he⟩
theorem RdP.at {h : Hp} {s : Sl} {ts : List Sl} {ps : List (List UInt8)} (H : RdP h s ts ps) {x : Int} {i : Nat} (hx : x = i) (hi : i < ps.length) {F : Sl → Prop} (hF : ∀ t, ts[i]? = some t → RdB h t (ps[i]'hi) → F t) : idx x s.n (nn s.p fun a => xL (cell h (a.add (x.toNat * 1))) F) := by
  have hi2 : i < ts.length := by rw [H.len]; exact hi
  obtain ⟨a, hp, hc⟩ := H.r i (ts[i]).v (by rw [List.getElem?_map, List.getElem?_eq_getElem hi2]; rfl)
  refine idx_of (by omega) (by rw [H.n]; omega) ?_
  rw [hp]
  subst hx
  simp only [nn_some', Nat.mul_one, Int.toNat_natCast, hc, xL_v]
  exact hF _ (List.getElem?_eq_getElem hi2) (H.each i _ _ (List.getElem?_eq_getElem hi2) (List.getElem?_eq_getElem hi))
theorem flat_take {α : Type} (ps : List (List α)) {i : Nat} (hi : i < ps.length) : (ps.take (i + 1)).flatten = (ps.take i).flatten ++ ps[i] := by
  rw [← List.take_append_getElem hi, List.flatten_append]; simp
theorem flat_le {α : Type} (ps : List (List α)) (i : Nat) : (ps.take i).flatten.length ≤ ps.flatten.length := by
  have : ps.flatten = (ps.take i).flatten ++ (ps.drop i).flatten := by rw [← List.flatten_append, List.take_append_drop]
  rw [this]; simp

/-- bytes lent: in memory of their own, with two marked places behind them -/
theorem c_lent {s : Sl} {l : List UInt8} {h : Hp} {K : Sl → Hp → Prop} (H : RdB h s l) (hl : l.length ≤ 140737488355328)
    (hK : ∀ h' p, NewO h h' 5 1 ⟨p, l.length + 2, l.length + 2⟩ (bc (l ++ [71, 72])) → K ⟨p, l.length, l.length + 2⟩ h') : C10 s h K := by
  apply S10; unfold N10
  have hn := H.n
  rw [hn, wi64i (x := (l.length : Int) + 2) (by omega) (by omega), wi64i (x := (l.length : Int) + 1) (by omega) (by omega)]
  refine (Sat.start (h := h)).mk (sz := 1) y_zl (by omega) (by omega) (by rw [y_b]; omega) (by omega) ?_
  intro t hb tn tc hs
  rw [y_zeros] at hs
  have e2 : ((l.length : Int) + 2).toNat = l.length + 2 := by omega
  rw [e2] at tn tc hs
  have hr := H.ext (hs.was 0 rfl)
  have emin : Nat.min l.length t.n = l.length := by rw [tn]; exact Nat.min_eq_left (by omega)
  refine hs.cp 1 rfl (n := l.length) (ns := bc l) y_a (fun _ => rfl) ?_ (by rw [emin]; simp) bc_plain ?_
  · intro G hG
    rw [emin, ← hn]
    exact hr.srcK (s := s) (n := s.n) (by omega) (by rw [hn, List.take_length]; exact hG)
  · intro h2 hs2
    have e9 : bc l ++ (bc (List.replicate (l.length + 2) 0)).drop (bc l).length = bc (l ++ [0, 0]) := by
      rw [bc_app, ← bc_drop, bc_len, List.drop_replicate, show l.length + 2 - l.length = 2 by omega]; rfl
    rw [e9] at hs2
    rw [tc]
    refine hs2.stAt (k := l.length) 1 rfl rfl (by simp) rfl ?_
    intro h3 hs3
    refine hs3.stAt (k := l.length + 1) 1 rfl (by omega) (by simp) rfl ?_
    intro h4 hs4
    have e4 : ((bc (l ++ [0, 0])).set l.length (.int .u8 71)).set (l.length + 1) (.int .u8 72) = bc (l ++ [71, 72]) := by
      have q1 : (Value.int .u8 71) = .int .u8 ((71 : UInt8).toNat : Int) := rfl
      have q2 : (Value.int .u8 72) = .int .u8 ((72 : UInt8).toNat : Int) := rfl
      rw [q1, q2, ← bc_set, ← bc_set]
      congr 1
      rw [List.set_append_right _ _ (by omega), List.set_append_right _ _ (by omega)]
      simp
    have hs5 : Sat ([] ++ [Hw.was h, Hw.own 5 1 t (bc (l ++ [71, 72]))]) h4 := by rw [← e4]; exact hs4
    refine bd_nat (by omega) ?_
    have hno := hs5.newO 0 1 rfl rfl (by omega)
    have et : t = ⟨t.p, l.length + 2, l.length + 2⟩ := by cases t; simp only at tn tc; rw [tn, tc]
    rw [et] at hno
    rw [sadr_zero]
    exact hK h4 t.p hno

/-- they still read so, the places behind them too; all of it is written over -/
theorem c_asLent {p : Option Addr} {s : Sl} {l : List UInt8} {h : Hp} {K : Bool → Hp → Prop} {L M : List Asn} (hs : Sat (L ++ M) h) (j : Nat) (hj : M[j]? = some (Hw.own 5 1 ⟨p, l.length + 2, l.length + 2⟩ (bc (l ++ [71, 72])))) (H : RdB h s l) (hl : l.length ≤ 140737488355328)
    (hK : ∀ h' vs, Sat (L ++ M.set j (Hw.own 5 1 ⟨p, l.length + 2, l.length + 2⟩ vs)) h' → K true h') : C13 ⟨p, l.length, l.length + 2⟩ s h K := by
  apply S13; unfold N13
  have hn := H.n
  have ho := hs.own j hj
  have hr := ho.rdb
  dsimp only
  rw [hn, wi64i (x := (l.length : Int) + 2) (by omega) (by omega), wi64i (x := (l.length : Int) + 1) (by omega) (by omega)]
  simp only [bne_self_eq_false, cond_false, sadr_zero]
  refine bd_of (by omega) (by omega) ?_
  refine bd_nat (by omega) ?_
  have e2 : ((l.length : Int) + 2).toNat = l.length + 2 := by omega
  rw [e2]
  have hr1 : RdB h ⟨p, l.length, l.length + 2⟩ l := ⟨rfl, by simp, by
    have := hr.r.take l.length
    rw [← bc_take] at this
    simpa using this⟩
  refine hr1.b2s ?_
  rw [← hn]
  refine H.b2s ?_
  simp only [beq_self_eq_true, cond_true]
  rw [hn]
  have g1 : (l ++ [71, 72])[l.length]'(by simp) = 71 := by simp
  have g2 : (l ++ [71, 72])[l.length + 1]'(by simp) = 72 := by simp
  refine hr.at (x := (l.length : Int)) (i := l.length) rfl (by simp) ?_
  rw [g1]
  simp only [show ((((71 : UInt8).toNat : Nat) : Int) == 71) = true from rfl, cond_true]
  refine hr.at (x := (l.length : Int) + 1) (i := l.length + 1) (by omega) (by simp) ?_
  rw [g2]
  simp only [show ((((72 : UInt8).toNat : Nat) : Int) == 72) = true from rfl]
  unfold N13_j0 N13_l1
  refine loopP_inv (fun (x : Int) hc => ∃ (i : Nat) (vs : List Value), x = i ∧ i ≤ l.length + 2 ∧ vs.length = l.length + 2 ∧ Sat (L ++ M.set j (Hw.own 5 1 ⟨p, l.length + 2, l.length + 2⟩ vs)) hc) (fun x _ => l.length + 2 - x.toNat) ?_
    ⟨0, bc (l ++ [71, 72]), rfl, Nat.zero_le _, by simp, by
      have := hs.imp j hj (A' := Hw.own 5 1 ⟨p, l.length + 2, l.length + 2⟩ (bc (l ++ [71, 72]))) (fun F h => h)
      exact this⟩
  rintro x hc ⟨i, vs, rfl, hi, hvl, hs⟩
  unfold N13_l1_B N13_l1_b
  dsimp only
  have hjl := lt_of_get hj
  by_cases hlt : i < l.length + 2
  · have : decide ((i : Int) < ((l.length + 2 : Nat) : Int)) = true := by simp; omega
    rw [this, cond_true]
    refine hs.stAt (s := ⟨p, l.length + 2, l.length + 2⟩) (k := i) j (by rw [List.getElem?_set_self hjl]) rfl (by omega) rfl ?_
    intro h' hs'
    rw [List.set_set] at hs'
    rw [nat_succ64 (by omega)]
    exact ⟨⟨i + 1, _, rfl, hlt, by simpa using hvl, hs'⟩, by omega⟩
  · have : decide ((i : Int) < ((l.length + 2 : Nat) : Int)) = false := by simp; omega
    rw [this, cond_false]
    exact hK hc vs hs

end Go.Proofs.YtedklcmdjoojfaaDoor

set_option linter.unusedVariables false
set_option maxRecDepth 100000
namespace Go.Proofs.YtedklcmdjoojfaaDoor
open Go Go.Hw
/-! ### 15 (*slipway/slipwayref01.Book).Take -/
noncomputable def B15 : Code := match Tryd.f15.body with | some c => c | none => .skip
def N15 (x0 : Option Addr) (x1 : Sl) (h : Hp) (K : Hp → Prop) : Prop :=
  nn x0 fun a0 =>
  xL (cell h a0) fun s0 =>
  nw h (.cells ⟨[.slice x1.p x1.n x1.c]⟩ 24) fun b0 h0 =>
  apK Tryd.prog 24 s0 (.slice (some (bk b0)) 1 1) h0 fun s1 h1 =>
  nn x0 fun a1 =>
  st h1 a1 (.slice s1.p s1.n s1.c) fun h2 =>
  nn x0 fun a2 =>
  xL (cell h2 (a2.add 1)) fun s2 =>
  b2s h2 x1.p x1.n fun s3 =>
  nw h2 (.cells ⟨[.string s3]⟩ 9) fun b1 h3 =>
  both (xL (cell h3 (a2.add 1)) fun s4 => Only (.slice s2.p s2.n s2.c) h3 (.slice s4.p s4.n s4.c) h3) <|
  apK Tryd.prog 9 s2 (.slice (some (bk b1)) 1 1) h3 fun s5 h4 =>
  nn x0 fun a3 =>
  st h4 (a3.add 1) (.slice s5.p s5.n s5.c) fun h5 =>
  K h5
theorem S15 {x0 : Option Addr} {x1 : Sl} {h : Hp} {K : Hp → Prop} (hn : N15 x0 x1 h K) : C15 x0 x1 h K := by
  refine calls_of_D Tryd.func15 (c := B15) rfl (by kernel_rfl) ?_
  refine den_sound hE hm _ (.two .leaf (.ord [0, 1, 2, 3, 4, 5, 6, 7, 8, 9, 10, 11])) _ _ _ (⟨annOk_leaf, trivial⟩) ?_
  refine cast ?_ hn
  kernel_rfl
end Go.Proofs.YtedklcmdjoojfaaDoor

set_option linter.unusedVariables false
set_option maxRecDepth 100000
namespace Go.Proofs.YtedklcmdjoojfaaDoor
open Go Go.Hw
/-! ### 16 (*slipway/slipwayref01.Book).Owned -/
noncomputable def B16 : Code := match Tryd.f16.body with | some c => c | none => .skip
def N16_l0_b (x0_k : Option Addr) (Φ : Int → Hp → Prop) (x3_i : Int) (h : Hp) (K_e0 : Hp → Prop) (K_ret : Bool → Hp → Prop) : Prop :=
  nn x0_k fun a0 =>
  xL (cell h a0) fun s0 =>
  bif (decide (x3_i < ((s0.n : Nat) : Int))) then
    nn x0_k fun a1 =>
    xL (cell h a1) fun s1 =>
    idx x3_i s1.n <|
    nn s1.p fun a2 =>
    xL (cell h (a2.add (x3_i.toNat * 1))) fun s2 =>
    b2s h s2.p s2.n fun s3 =>
    nn x0_k fun a3 =>
    xL (cell h (a3.add 1)) fun s4 =>
    idx x3_i s4.n <|
    nn s4.p fun a4 =>
    xS (cell h (a4.add (x3_i.toNat * 1))) fun s5 =>
    bif (!(s3.toList == s5.toList)) then
      K_ret false h
    else
      Φ (IntKind.wrap .i64 (x3_i + 1)) h
  else
    K_e0 h
def N16_l0_B (x0_k : Option Addr) (K_e0 : Hp → Prop) (K_ret : Bool → Hp → Prop) (s : Sg.T [(3, .c (.int .i64))]) (h : Hp) (Φ : Sg.T [(3, .c (.int .i64))] → Hp → Prop) : Prop :=
  N16_l0_b x0_k (fun x3_i h => Φ x3_i h) s h K_e0 K_ret
def N16_l0 (x0_k : Option Addr) (x3_i : Int) (h : Hp) (K_e0 : Hp → Prop) (K_ret : Bool → Hp → Prop) : Prop :=
  loopP (N16_l0_B x0_k K_e0 K_ret) x3_i h
noncomputable def N16_l0_t : Xf := loopT [(0, .c (.ptr))] [(3, .c (.int .i64))] (codeAt B16 [1, 0, 1, 0, 0]) fun F Q => N16_l0_B F (fun h' => Q (.exit 0) (Sg.env [] ()) h') (fun o0 h' => Q .ret (Sg.env [(2, .c (.bool))] o0) h')
theorem N16_l0_ok : Sound Tryd.prog Tryd.f16.ntmps N16_l0_t (codeAt B16 [1, 0, 1, 0]) := by
  refine loop_sound (fun e => match e with | .exit 0 => [] | .ret => [2] | _ => []) (by kernel_rfl) ?_
  intro F Q s h Φ hb
  refine den_sound hE hm _ (.two .leaf (.two (.one (.two (.ord [0, 1, 2, 3, 4, 5, 6, 7, 8, 9, 10, 11, 12, 13, 14, 15]) .leaf)) .leaf)) _ _ _ (⟨annOk_leaf, ⟨⟨trivial, annOk_leaf⟩, annOk_leaf⟩⟩) ?_
  refine cast ?_ hb
  kernel_rfl
def N16_l2_b (x0_k : Option Addr) (x4_grown : Sl) (x5_i : Int) (x6_l : Sl) (Φ : Int → Hp → Prop) (x7_n : Int) (h : Hp) (K_e4 : Hp → Prop) : Prop :=
  bif (decide (x7_n < ((x6_l.n : Nat) : Int))) then
    C37 x5_i x7_n h fun n0 h0 =>
    idx x7_n x6_l.n <|
    nn x6_l.p fun a0 =>
    st h0 (a0.add (x7_n.toNat * 1)) (.int .u8 n0) fun h1 =>
    Φ (IntKind.wrap .i64 (x7_n + 1)) h1
  else
    K_e4 h
def N16_l2_B (x0_k : Option Addr) (x4_grown : Sl) (x5_i : Int) (x6_l : Sl) (K_e4 : Hp → Prop) (s : Sg.T [(7, .c (.int .i64))]) (h : Hp) (Φ : Sg.T [(7, .c (.int .i64))] → Hp → Prop) : Prop :=
  N16_l2_b x0_k x4_grown x5_i x6_l (fun x7_n h => Φ x7_n h) s h K_e4
def N16_l2 (x0_k : Option Addr) (x4_grown : Sl) (x5_i : Int) (x6_l : Sl) (x7_n : Int) (h : Hp) (K_e4 : Hp → Prop) : Prop :=
  loopP (N16_l2_B x0_k x4_grown x5_i x6_l K_e4) x7_n h
noncomputable def N16_l2_t : Xf := loopT [(0, .c (.ptr)), (4, .c (.slice)), (5, .c (.int .i64)), (6, .c (.slice))] [(7, .c (.int .i64))] (codeAt B16 [1, 1, 1, 0, 1, 0, 0, 1, 0, 0, 1, 0, 1, 0, 0]) fun F Q => N16_l2_B F.1 F.2.1 F.2.2.1 F.2.2.2 (fun h' => Q (.exit 4) (Sg.env [] ()) h')
theorem N16_l2_ok : Sound Tryd.prog Tryd.f16.ntmps N16_l2_t (codeAt B16 [1, 1, 1, 0, 1, 0, 0, 1, 0, 0, 1, 0, 1, 0]) := by
  refine loop_sound (fun e => match e with | .exit 4 => [] | _ => []) (by kernel_rfl) ?_
  intro F Q s h Φ hb
  refine den_sound hE hm _ .leaf _ _ _ (annOk_leaf) ?_
  refine cast ?_ hb
  kernel_rfl
def N16_l3_b (x0_k : Option Addr) (x4_grown : Sl) (x5_i : Int) (x6_l : Sl) (Φ : Sl → Int → Hp → Prop) (x8_g : Sl) (x9_n : Int) (h : Hp) (K_e6 : Sl → Hp → Prop) : Prop :=
  bif (decide (x9_n < 9)) then
    C37 x5_i (IntKind.wrap .i64 (((x6_l.n : Nat) : Int) + x9_n)) h fun n0 h0 =>
    nw h0 (.cells ⟨[.int .u8 n0]⟩ 5) fun b0 h1 =>
    apK Tryd.prog 5 x8_g (.slice (some (bk b0)) 1 1) h1 fun s0 h2 =>
    Φ s0 (IntKind.wrap .i64 (x9_n + 1)) h2
  else
    K_e6 x8_g h
def N16_l3_B (x0_k : Option Addr) (x4_grown : Sl) (x5_i : Int) (x6_l : Sl) (K_e6 : Sl → Hp → Prop) (s : Sg.T [(8, .c (.slice)), (9, .c (.int .i64))]) (h : Hp) (Φ : Sg.T [(8, .c (.slice)), (9, .c (.int .i64))] → Hp → Prop) : Prop :=
  N16_l3_b x0_k x4_grown x5_i x6_l (fun x8_g x9_n h => Φ (x8_g, x9_n) h) s.1 s.2 h K_e6
def N16_l3 (x0_k : Option Addr) (x4_grown : Sl) (x5_i : Int) (x6_l : Sl) (x8_g : Sl) (x9_n : Int) (h : Hp) (K_e6 : Sl → Hp → Prop) : Prop :=
  loopP (N16_l3_B x0_k x4_grown x5_i x6_l K_e6) (x8_g, x9_n) h
noncomputable def N16_l3_t : Xf := loopT [(0, .c (.ptr)), (4, .c (.slice)), (5, .c (.int .i64)), (6, .c (.slice))] [(8, .c (.slice)), (9, .c (.int .i64))] (codeAt B16 [1, 1, 1, 0, 1, 0, 0, 1, 0, 0, 1, 1, 1, 0, 1, 0, 0]) fun F Q => N16_l3_B F.1 F.2.1 F.2.2.1 F.2.2.2 (fun o0 h' => Q (.exit 6) (Sg.env [(8, .c (.slice))] o0) h')
theorem N16_l3_ok : Sound Tryd.prog Tryd.f16.ntmps N16_l3_t (codeAt B16 [1, 1, 1, 0, 1, 0, 0, 1, 0, 0, 1, 1, 1, 0, 1, 0]) := by
  refine loop_sound (fun e => match e with | .exit 6 => [8] | _ => []) (by kernel_rfl) ?_
  intro F Q s h Φ hb
  refine den_sound hE hm _ .leaf _ _ _ (annOk_leaf) ?_
  refine cast ?_ hb
  kernel_rfl
def N16_l1_b (x0_k : Option Addr) (Φ : Sl → Int → Hp → Prop) (x4_grown : Sl) (x5_i : Int) (h : Hp) (K_e2 : Sl → Hp → Prop) : Prop :=
  nn x0_k fun a0 =>
  xL (cell h a0) fun s0 =>
  bif (decide (x5_i < ((s0.n : Nat) : Int))) then
    nn x0_k fun a1 =>
    xL (cell h a1) fun s1 =>
    idx x5_i s1.n <|
    nn s1.p fun a2 =>
    xL (cell h (a2.add (x5_i.toNat * 1))) fun s2 =>
    N16_l2 x0_k x4_grown x5_i s2 0 h
      (fun h0 =>
        N16_l3 x0_k x4_grown x5_i s2 s2 0 h0
          (fun s3 h1 =>
            nw h1 (.cells ⟨[.slice s3.p s3.n s3.c]⟩ 24) fun b0 h2 =>
            apK Tryd.prog 24 x4_grown (.slice (some (bk b0)) 1 1) h2 fun s4 h3 =>
            Φ s4 (IntKind.wrap .i64 (x5_i + 1)) h3))
  else
    K_e2 x4_grown h
def N16_l1_B (x0_k : Option Addr) (K_e2 : Sl → Hp → Prop) (s : Sg.T [(4, .c (.slice)), (5, .c (.int .i64))]) (h : Hp) (Φ : Sg.T [(4, .c (.slice)), (5, .c (.int .i64))] → Hp → Prop) : Prop :=
  N16_l1_b x0_k (fun x4_grown x5_i h => Φ (x4_grown, x5_i) h) s.1 s.2 h K_e2
def N16_l1 (x0_k : Option Addr) (x4_grown : Sl) (x5_i : Int) (h : Hp) (K_e2 : Sl → Hp → Prop) : Prop :=
  loopP (N16_l1_B x0_k K_e2) (x4_grown, x5_i) h
noncomputable def N16_l1_t : Xf := loopT [(0, .c (.ptr))] [(4, .c (.slice)), (5, .c (.int .i64))] (codeAt B16 [1, 1, 1, 0, 1, 0, 0]) fun F Q => N16_l1_B F (fun o0 h' => Q (.exit 2) (Sg.env [(4, .c (.slice))] o0) h')
theorem N16_l1_ok : Sound Tryd.prog Tryd.f16.ntmps N16_l1_t (codeAt B16 [1, 1, 1, 0, 1, 0]) := by
  refine loop_sound (fun e => match e with | .exit 2 => [4] | _ => []) (by kernel_rfl) ?_
  intro F Q s h Φ hb
  refine den_sound hE hm _ (.two .leaf (.two (.one (.two .leaf (.two (.two .leaf (.one (.xf N16_l2_t))) (.two .leaf (.two (.two .leaf (.one (.xf N16_l3_t))) .leaf))))) .leaf)) _ _ _ (⟨annOk_leaf, ⟨⟨annOk_leaf, ⟨⟨annOk_leaf, N16_l2_ok⟩, ⟨annOk_leaf, ⟨⟨annOk_leaf, N16_l3_ok⟩, annOk_leaf⟩⟩⟩⟩, annOk_leaf⟩⟩) ?_
  refine cast ?_ hb
  kernel_rfl
def N16_l5_b (x0_k : Option Addr) (x4_grown : Sl) (x11_i : Int) (x12_l : Sl) (Φ : Int → Hp → Prop) (x13_n : Int) (h : Hp) (K_e10 : Hp → Prop) (K_ret : Bool → Hp → Prop) : Prop :=
  idx x11_i x4_grown.n <|
  nn x4_grown.p fun a0 =>
  xL (cell h (a0.add (x11_i.toNat * 1))) fun s0 =>
  bif (decide (x13_n < ((s0.n : Nat) : Int))) then
    C37 x11_i x13_n h fun n0 h0 =>
    idx x11_i x4_grown.n <|
    nn x4_grown.p fun a1 =>
    xL (cell h0 (a1.add (x11_i.toNat * 1))) fun s1 =>
    idx x13_n s1.n <|
    nn s1.p fun a2 =>
    xI .u8 (cell h0 (a2.add (x13_n.toNat * 1))) fun n1 =>
    bif (n1 != n0) then
      K_ret false h0
    else
      bif (decide (x13_n < ((x12_l.n : Nat) : Int))) then
        idx x13_n x12_l.n <|
        nn x12_l.p fun a3 =>
        xI .u8 (cell h0 (a3.add (x13_n.toNat * 1))) fun n2 =>
        bif (n2 != n0) then
          K_ret false h0
        else
          Φ (IntKind.wrap .i64 (x13_n + 1)) h0
      else
        Φ (IntKind.wrap .i64 (x13_n + 1)) h0
  else
    K_e10 h
def N16_l5_B (x0_k : Option Addr) (x4_grown : Sl) (x11_i : Int) (x12_l : Sl) (K_e10 : Hp → Prop) (K_ret : Bool → Hp → Prop) (s : Sg.T [(13, .c (.int .i64))]) (h : Hp) (Φ : Sg.T [(13, .c (.int .i64))] → Hp → Prop) : Prop :=
  N16_l5_b x0_k x4_grown x11_i x12_l (fun x13_n h => Φ x13_n h) s h K_e10 K_ret
def N16_l5 (x0_k : Option Addr) (x4_grown : Sl) (x11_i : Int) (x12_l : Sl) (x13_n : Int) (h : Hp) (K_e10 : Hp → Prop) (K_ret : Bool → Hp → Prop) : Prop :=
  loopP (N16_l5_B x0_k x4_grown x11_i x12_l K_e10 K_ret) x13_n h
noncomputable def N16_l5_t : Xf := loopT [(0, .c (.ptr)), (4, .c (.slice)), (11, .c (.int .i64)), (12, .c (.slice))] [(13, .c (.int .i64))] (codeAt B16 [1, 1, 1, 1, 0, 1, 0, 0, 1, 0, 0, 1, 1, 0, 0]) fun F Q => N16_l5_B F.1 F.2.1 F.2.2.1 F.2.2.2 (fun h' => Q (.exit 10) (Sg.env [] ()) h') (fun o0 h' => Q .ret (Sg.env [(2, .c (.bool))] o0) h')
theorem N16_l5_ok : Sound Tryd.prog Tryd.f16.ntmps N16_l5_t (codeAt B16 [1, 1, 1, 1, 0, 1, 0, 0, 1, 0, 0, 1, 1, 0]) := by
  refine loop_sound (fun e => match e with | .exit 10 => [] | .ret => [2] | _ => []) (by kernel_rfl) ?_
  intro F Q s h Φ hb
  refine den_sound hE hm _ .leaf _ _ _ (annOk_leaf) ?_
  refine cast ?_ hb
  kernel_rfl
def N16_l4_b (x0_k : Option Addr) (x4_grown : Sl) (Φ : Int → Hp → Prop) (x11_i : Int) (h : Hp) (K_e8 : Hp → Prop) (K_ret : Bool → Hp → Prop) : Prop :=
  bif (decide (x11_i < ((x4_grown.n : Nat) : Int))) then
    nn x0_k fun a0 =>
    xL (cell h a0) fun s0 =>
    idx x11_i s0.n <|
    nn s0.p fun a1 =>
    xL (cell h (a1.add (x11_i.toNat * 1))) fun s1 =>
    N16_l5 x0_k x4_grown x11_i s1 0 h
      (fun h0 =>
        Φ (IntKind.wrap .i64 (x11_i + 1)) h0)
      (fun b0 h1 =>
        K_ret b0 h1)
  else
    K_e8 h
def N16_l4_B (x0_k : Option Addr) (x4_grown : Sl) (K_e8 : Hp → Prop) (K_ret : Bool → Hp → Prop) (s : Sg.T [(11, .c (.int .i64))]) (h : Hp) (Φ : Sg.T [(11, .c (.int .i64))] → Hp → Prop) : Prop :=
  N16_l4_b x0_k x4_grown (fun x11_i h => Φ x11_i h) s h K_e8 K_ret
def N16_l4 (x0_k : Option Addr) (x4_grown : Sl) (x11_i : Int) (h : Hp) (K_e8 : Hp → Prop) (K_ret : Bool → Hp → Prop) : Prop :=
  loopP (N16_l4_B x0_k x4_grown K_e8 K_ret) x11_i h
noncomputable def N16_l4_t : Xf := loopT [(0, .c (.ptr)), (4, .c (.slice))] [(11, .c (.int .i64))] (codeAt B16 [1, 1, 1, 1, 0, 1, 0, 0]) fun F Q => N16_l4_B F.1 F.2 (fun h' => Q (.exit 8) (Sg.env [] ()) h') (fun o0 h' => Q .ret (Sg.env [(2, .c (.bool))] o0) h')
theorem N16_l4_ok : Sound Tryd.prog Tryd.f16.ntmps N16_l4_t (codeAt B16 [1, 1, 1, 1, 0, 1, 0]) := by
  refine loop_sound (fun e => match e with | .exit 8 => [] | .ret => [2] | _ => []) (by kernel_rfl) ?_
  intro F Q s h Φ hb
  refine den_sound hE hm _ (.two .leaf (.two (.one (.two .leaf (.two .leaf (.one (.xf N16_l5_t))))) .leaf)) _ _ _ (⟨annOk_leaf, ⟨⟨annOk_leaf, ⟨annOk_leaf, N16_l5_ok⟩⟩, annOk_leaf⟩⟩) ?_
  refine cast ?_ hb
  kernel_rfl
def N16 (x0 : Option Addr) (h : Hp) (K : Bool → Hp → Prop) : Prop :=
  N16_l0 x0 0 h
    (fun h0 =>
      N16_l1 x0 ⟨none, 0, 0⟩ 0 h0
        (fun s0 h1 =>
          N16_l4 x0 s0 0 h1
            (fun h2 =>
              K true h2)
            (fun b0 h3 =>
              K b0 h3)))
    (fun b1 h4 =>
      K b1 h4)
theorem S16 {x0 : Option Addr} {h : Hp} {K : Bool → Hp → Prop} (hn : N16 x0 h K) : C16 x0 h K := by
  refine calls_of_D Tryd.func16 (c := B16) rfl (by kernel_rfl) ?_
  refine den_sound hE hm _ (.two .leaf (.two (.two .leaf (.one (.xf N16_l0_t))) (.two .leaf (.two (.two .leaf (.one (.xf N16_l1_t))) (.two (.two .leaf (.one (.xf N16_l4_t))) .leaf))))) _ _ _ (⟨annOk_leaf, ⟨⟨annOk_leaf, N16_l0_ok⟩, ⟨annOk_leaf, ⟨⟨annOk_leaf, N16_l1_ok⟩, ⟨⟨annOk_leaf, N16_l4_ok⟩, annOk_leaf⟩⟩⟩⟩⟩) ?_
  refine cast ?_ hn
  kernel_rfl
end Go.Proofs.YtedklcmdjoojfaaDoor

/-
  A book of lists of bytes that came out: one more is taken; all of them are their owner's.
-/
set_option linter.unusedSimpArgs false
set_option linter.unusedVariables false
namespace Go.Proofs.YtedklcmdjoojfaaDoor
open Go Go.Hw

theorem yl_a : Tryd.prog.cellsOf 24 = 1 := by kernel_rfl
theorem yl_z : (zc Tryd.prog 24).length = 1 := by kernel_rfl
theorem yl_b : Tryd.prog.bytesOf 24 = 24 := by kernel_rfl
theorem st_a : Tryd.prog.cellsOf 9 = 1 := by kernel_rfl
theorem st_z : (zc Tryd.prog 9).length = 1 := by kernel_rfl
theorem st_b : Tryd.prog.bytesOf 9 = 16 := by kernel_rfl

abbrev Ent := Sl × List UInt8
def ownB (e : Ent) : Asn := Hw.own 5 1 e.1 (bc e.2)
/-- a book -/
def bookA (k : Nat) (E : List Ent) : Asn := exs fun p : Sl × Sl => star [row k 38 [p.1.v, p.2.v], Hw.own 24 1 p.1 (E.map fun e => e.1.v), Hw.own 9 1 p.2 (E.map fun e => .string ⟨⟨e.2⟩⟩), star (E.map ownB)]

theorem Sat.unex {α : Type} {L : List Asn} {A : α → Asn} {h : Hp} (hs : Sat (L ++ [exs A]) h) : ∃ a, Sat (L ++ [A a]) h := by
  obtain ⟨F, h1, h2⟩ := hs
  obtain ⟨a, ha⟩ := h1 L.length (exs A) (by simp)
  refine ⟨a, F, fun i B hi => ?_, by simpa using h2⟩
  by_cases e : i < L.length
  · rw [List.getElem?_append_left e] at hi
    exact h1 i B (by rw [List.getElem?_append_left e]; exact hi)
  · have := lt_of_get hi
    simp at this
    have : i = L.length := by omega
    subst this
    simp at hi; subst hi; exact ha
theorem Sat.ex {α : Type} {L : List Asn} {A : α → Asn} {h : Hp} (a : α) (hs : Sat (L ++ [A a]) h) : Sat (L ++ [exs A]) h := hs.imp 0 rfl fun F hF => ⟨a, hF⟩

/-- one more is taken -/
theorem c_take {L : List Asn} {k : Nat} {E : List Ent} {s : Sl} {l : List UInt8} {h : Hp} {K : Hp → Prop} (hs : Sat (L ++ [bookA k E, Hw.own 5 1 s (bc l)]) h) (hE : E.length ≤ 1099511627776)
    (hK : ∀ h', Sat (L ++ [bookA k (E ++ [(s, l)])]) h' → K h') : C15 (some (bk k)) s h K := by
  apply S15; unfold N15
  obtain ⟨⟨p, q⟩, hs⟩ := Sat.unex (hs.rot 0 rfl)
  replace hs := hs.open
  rw [show (L ++ [bookA k E, Hw.own 5 1 s (bc l)].eraseIdx 0) = L ++ [Hw.own 5 1 s (bc l)] from rfl, List.append_assoc] at hs
  simp only [List.cons_append, List.nil_append] at hs
  have hk := hs.blk 1 rfl
  have c0 : cell h (bk k) = some p.v := by rw [hk.cell]; rfl
  have pn : p.n = E.length := by have := (hs.own 2 rfl).1; simpa using this.symm
  have qn : q.n = E.length := by have := (hs.own 3 rfl).1; simpa using this.symm
  simp only [nn_some', c0, xL_v]
  refine hs.push 2 rfl (k := 1) yl_a yl_z rfl (by intro v hv; simp at hv; subst hv; rfl) (by rw [yl_b]; omega) ?_
  intro p' h1 hs pn'
  simp only [List.set_cons_succ, List.set_cons_zero] at hs
  refine hs.st (b := k) (k := 0) (v := p'.v) 1 rfl (by simp) rfl ?_
  intro h2 hs
  simp only [List.set_cons_succ, List.set_cons_zero] at hs
  have hk2 := hs.blk 1 rfl
  have c1 : cell h2 ((bk k).add 1) = some q.v := by rw [add_bk, hk2.cell]; rfl
  simp only [c1, xL_v]
  have hr := (hs.own 0 rfl).rdb
  refine hr.b2s ?_
  intro b1 e1
  have hs3 := hs.ext (Ext.new (o := .cells ⟨[.string ⟨⟨l⟩⟩]⟩ 9 (0, 0)) e1)
  have c2 : cell (upd h2 b1 (.cells ⟨[.string ⟨⟨l⟩⟩]⟩ 9 (0, 0))) ((bk k).add 1) = some q.v := by rw [add_bk, (hs3.blk 1 rfl).cell]; rfl
  refine ⟨by rw [c2]; exact ⟨rfl, rfl⟩, ?_⟩
  refine hs3.ap 3 rfl (n := 1) (ns := [.string ⟨⟨l⟩⟩]) st_a st_z (fun _ => rfl) ?_ rfl (by intro v hv; simp at hv; subst hv; rfl) (by rw [st_b]; omega) ?_
  · intro G hG
    unfold srcK
    simp only []
    rw [rdN_blk (T := 9) (cs := [.string ⟨⟨l⟩⟩]) Blk.upd_same _ _ (by simp)]
    exact hG
  · intro q' h4 hs qn'
    simp only [List.set_cons_succ, List.set_cons_zero] at hs
    simp only [nn_some', add_bk]
    refine hs.st (b := k) (k := 1) (v := q'.v) 1 rfl (by simp) rfl ?_
    intro h5 hs
    simp only [List.set_cons_succ, List.set_cons_zero] at hs
    refine hK _ ?_
    -- put together
    have g1 : Sat ((L ++ [Hw.own 5 1 s (bc l), row k 38 [p'.v, q'.v], Hw.own 24 1 p' (E.map (fun e => e.1.v) ++ [s.v]), Hw.own 9 1 q' (E.map (fun e => .string ⟨⟨e.2⟩⟩) ++ [.string ⟨⟨l⟩⟩]), star (E.map ownB)].eraseIdx 0) ++ [Hw.own 5 1 s (bc l)]) h5 := hs.rot 0 rfl
    have g2 : Sat ((L ++ [row k 38 [p'.v, q'.v], Hw.own 24 1 p' (E.map (fun e => e.1.v) ++ [s.v]), Hw.own 9 1 q' (E.map (fun e => .string ⟨⟨e.2⟩⟩) ++ [.string ⟨⟨l⟩⟩])]) ++ [star (E.map ownB), Hw.own 5 1 s (bc l)]) h5 := by simpa using g1
    have g3 := g2.into
    have g4 : Sat (L ++ [row k 38 [p'.v, q'.v], Hw.own 24 1 p' ((E ++ [(s, l)]).map fun e => e.1.v), Hw.own 9 1 q' ((E ++ [(s, l)]).map fun e => .string ⟨⟨e.2⟩⟩), star ((E ++ [(s, l)]).map ownB)]) h5 := by simpa [ownB] using g3
    exact Sat.ex (A := fun p : Sl × Sl => star [row k 38 [p.1.v, p.2.v], Hw.own 24 1 p.1 ((E ++ [(s, l)]).map fun e => e.1.v), Hw.own 9 1 p.2 ((E ++ [(s, l)]).map fun e => .string ⟨⟨e.2⟩⟩), star ((E ++ [(s, l)]).map ownB)]) (p', q') g4.close

/-! ### all of them are their owner's -/
def mk (i n : Nat) : List UInt8 := (List.range n).map fun j => UInt8.ofNat (markN i j)
theorem mk_len (i n : Nat) : (mk i n).length = n := by simp [mk]
theorem mk_succ (i n : Nat) : mk i (n + 1) = mk i n ++ [UInt8.ofNat (markN i n)] := by simp [mk, List.range_succ]
theorem mk_get (i n j : Nat) (hj : j < n) : (mk i n)[j]'(by rw [mk_len]; exact hj) = UInt8.ofNat (markN i j) := by simp [mk]
theorem mark_u8 (i j : Nat) : ((UInt8.ofNat (markN i j)).toNat : Int) = ((markN i j : Nat) : Int) := by
  rw [UInt8.toNat_ofNat']
  have : markN i j < 256 := by unfold markN; omega
  omega

/-- one list is written over with marks -/
theorem owned2 {L : List Asn} {kk : Option Addr} {gr s : Sl} {i : Nat} {l : List UInt8} {h : Hp} {Ke : Hp → Prop} (hs : Sat (L ++ [Hw.own 5 1 s (bc l)]) h) (hi : i ≤ 1099511627776) (hl : l.length ≤ 140737488355000)
    (hK : ∀ h', Sat (L ++ [Hw.own 5 1 s (bc (mk i l.length))]) h' → Ke h') : N16_l2 kk gr i s 0 h Ke := by
  unfold N16_l2
  have sn := (hs.own 0 rfl).1
  simp at sn
  refine loopP_inv (fun (x : Int) hc => ∃ n : Nat, x = n ∧ n ≤ l.length ∧ Sat (L ++ [Hw.own 5 1 s (bc (mk i n ++ l.drop n))]) hc) (fun x _ => l.length - x.toNat) ?_ ⟨0, rfl, Nat.zero_le _, by simpa [mk] using hs⟩
  rintro x hc ⟨n, rfl, hn, hs⟩
  unfold N16_l2_B N16_l2_b
  by_cases hlt : n < l.length
  · have : decide ((n : Int) < ((s.n : Nat) : Int)) = true := by simp; omega
    rw [this, cond_true]
    refine c_mark (by omega) (by omega) ?_
    refine hs.stAt (k := n) 0 rfl rfl (by simp [mk_len]; omega) rfl ?_
    intro h' hs'
    rw [nat_succ64 (by omega)]
    refine ⟨⟨n + 1, rfl, hlt, ?_⟩, by omega⟩
    simp only [List.set_cons_zero] at hs'
    rw [← mark_u8, ← bc_set] at hs'
    have : (mk i n ++ l.drop n).set n (UInt8.ofNat (markN i n)) = mk i (n + 1) ++ l.drop (n + 1) := by
      rw [List.set_append_right _ _ (by rw [mk_len]; exact Nat.le_refl _), mk_len, Nat.sub_self, List.drop_eq_getElem_cons hlt, List.set_cons_zero, mk_succ]
      simp
    rw [this] at hs'; exact hs'
  · have : decide ((n : Int) < ((s.n : Nat) : Int)) = false := by simp; omega
    rw [this, cond_false]
    have : n = l.length := by omega
    subst this
    refine hK _ ?_
    simpa using hs

/-- a list that is marked and grown: in its place, or beside it -/
def dn (i : Nat) (e : Ent) (g : Sl) : Asn :=
  orA (star [pur (g.p = e.1.p ∧ g.c = e.1.c ∧ e.1.n = e.2.length ∧ e.1.n ≤ e.1.c), Hw.own 5 1 g (bc (mk i (e.2.length + 9)))]) (star [Hw.own 5 1 e.1 (bc (mk i e.2.length)), Hw.own 5 1 g (bc (mk i (e.2.length + 9)))])
theorem star_two {A B : Asn} {F : Nat → Prop} {h : Hp} (hh : (star [A, B]).on F h) : (∃ G, A.on G h) ∧ ∃ G, B.on G h := by
  obtain ⟨G, h1, _, _⟩ := hh
  exact ⟨⟨_, h1 0 A rfl⟩, ⟨_, h1 1 B rfl⟩⟩
theorem dn_reads {i : Nat} {e : Ent} {g : Sl} {F : Nat → Prop} {h : Hp} (hd : (dn i e g).on F h) : RdB h e.1 (mk i e.2.length) ∧ RdB h g (mk i (e.2.length + 9)) := by
  rcases hd with hd | hd
  · obtain ⟨⟨_, hp⟩, ⟨_, hg⟩⟩ := star_two hd
    have hr := hg.2.rdb
    refine ⟨⟨by rw [mk_len]; exact hp.2.2.2.1, hp.2.2.2.2, ?_⟩, hr⟩
    have := hr.r.take e.2.length
    rw [← bc_take] at this
    have ht : (mk i (e.2.length + 9)).take e.2.length = mk i e.2.length := by simp [mk, ← List.map_take, List.take_range]
    rw [ht, hp.2.1] at this; exact this
  · obtain ⟨⟨_, hp⟩, ⟨_, hg⟩⟩ := star_two hd
    exact ⟨hp.2.rdb, hg.2.rdb⟩

theorem owned3 {L : List Asn} {kk : Option Addr} {gr s : Sl} {i : Nat} {l : List UInt8} {h : Hp} {Ke : Sl → Hp → Prop} (hs : Sat (L ++ [Hw.own 5 1 s (bc (mk i l.length))]) h) (hi : i ≤ 1099511627776) (hl : l.length ≤ 17592186044416)
    (hK : ∀ g h', Sat (L ++ [dn i (s, l) g]) h' → Ke g h') : N16_l3 kk gr i s s 0 h Ke := by
  unfold N16_l3
  have so := hs.own 0 rfl
  have sn := so.1
  simp [mk_len] at sn
  have sc := so.2.1
  refine loopP_inv (fun (x : Sl × Int) hc => ∃ n : Nat, x.2 = n ∧ n ≤ 9 ∧ x.1.n = l.length + n ∧
      ((x.1.p = s.p ∧ x.1.c = s.c ∧ Sat (L ++ [Hw.own 5 1 x.1 (bc (mk i (l.length + n)))]) hc) ∨ Sat (L ++ [Hw.own 5 1 s (bc (mk i l.length)), Hw.own 5 1 x.1 (bc (mk i (l.length + n)))]) hc)) (fun x _ => 9 - x.2.toNat) ?_
    ⟨0, rfl, by omega, by first | omega | (dsimp only; omega), .inl ⟨rfl, rfl, hs⟩⟩
  rintro ⟨g, x⟩ hc ⟨n, hx, hn, hgn, hs⟩
  simp only at hx hgn hs
  subst hx
  unfold N16_l3_B N16_l3_b
  dsimp only
  by_cases hlt : n < 9
  · have : decide ((n : Int) < 9) = true := by simp; omega
    rw [this, cond_true]
    have ea : IntKind.wrap .i64 (((s.n : Nat) : Int) + (n : Int)) = ((l.length + n : Nat) : Int) := by rw [wi64i (by omega) (by omega)]; omega
    rw [ea]
    refine c_mark (by omega) (by omega) ?_
    rw [nat_succ64 (by omega)]
    have eb : bc (mk i (l.length + n)) ++ [Value.int .u8 ((markN i (l.length + n) : Nat) : Int)] = bc (mk i (l.length + (n + 1))) := by
      rw [← Nat.add_assoc, mk_succ, bc_app, ← mark_u8]; rfl
    rcases hs with ⟨hp, hc2, hs⟩ | hs
    · refine hs.push2 0 rfl (k := 1) y_a y_zl rfl (by intro v hv; simp at hv; subst hv; rfl) (by rw [y_b]; omega) ?_ ?_
      · intro hle h' hs'
        rw [eb] at hs'
        exact ⟨⟨n + 1, rfl, hlt, by first | omega | (dsimp only; omega), .inl ⟨hp, hc2, hs'⟩⟩, by first | omega | (dsimp only; omega)⟩
      · intro s' h' hn' hs'
        rw [eb] at hs'
        refine ⟨⟨n + 1, rfl, hlt, by first | omega | (dsimp only; omega), .inr ?_⟩, by first | omega | (dsimp only; omega)⟩
        refine hs'.imp 0 rfl ?_
        rintro F ⟨f1, f2⟩
        have fcut := f2.cut (k := l.length) (by omega)
        rw [hp, hc2] at fcut
        refine ⟨fun x => by rw [← hp]; exact f1 x, ?_⟩
        have es : (⟨s.p, l.length, s.c⟩ : Sl) = s := by cases s; simp only at sn; rw [← sn]
        rw [es, Nat.mul_one, ← bc_take] at fcut
        have ht : (mk i (l.length + n)).take l.length = mk i l.length := by simp [mk, ← List.map_take, List.take_range]
        rw [ht] at fcut; exact fcut
    · refine hs.push 1 rfl (k := 1) y_a y_zl rfl (by intro v hv; simp at hv; subst hv; rfl) (by rw [y_b]; omega) ?_
      intro s' h' hs' hn'
      rw [eb] at hs'
      exact ⟨⟨n + 1, rfl, hlt, by first | omega | (dsimp only; omega), .inr hs'⟩, by first | omega | (dsimp only; omega)⟩
  · have : decide ((n : Int) < 9) = false := by simp; omega
    rw [this, cond_false]
    have : n = 9 := by omega
    subst this
    refine hK g hc ?_
    rcases hs with ⟨hp, hc2, hs⟩ | hs
    · have h1 : Sat (L ++ [star [pur (g.p = s.p ∧ g.c = s.c ∧ s.n = l.length ∧ s.n ≤ s.c), Hw.own 5 1 g (bc (mk i (l.length + 9)))]]) hc := by
        refine hs.imp 0 rfl fun F hF => ?_
        refine ⟨fun j x => if j = 1 then F x else False, ?_, ?_, ?_⟩
        · intro j A hj
          match j, hj with
          | 0, hj => simp at hj; subst hj; exact ⟨fun x hx => by simp at hx, hp, hc2, by omega, sc⟩
          | 1, hj => simp at hj; subst hj; simpa using hF
          | j + 2, hj => simp at hj
        · intro j k x hj hk h1 h2
          simp at h1 h2; omega
        · intro x; constructor
          · intro hx; exact ⟨1, by simp, by simpa using hx⟩
          · rintro ⟨j, _, hx⟩; simp at hx; exact hx.2
      exact h1.imp 0 rfl fun F hF => .inl hF
    · exact hs.close.imp 0 rfl fun F hF => .inr hF

/-- the lists, of which some are done -/
def its (E : List Ent) (G : List Sl) : List Asn := E.mapIdx fun j e => match G[j]? with
  | some g => dn j e g
  | none => ownB e
theorem its_get {E : List Ent} {G : List Sl} {j : Nat} {e : Ent} (hj : E[j]? = some e) : (its E G)[j]? = some (match G[j]? with | some g => dn j e g | none => ownB e) := by
  simp [its, List.getElem?_mapIdx, hj]
theorem its_len (E : List Ent) (G : List Sl) : (its E G).length = E.length := by simp [its]
theorem its_nil (E : List Ent) : its E [] = E.map ownB := by
  apply List.ext_getElem?
  intro j
  simp [its, List.getElem?_mapIdx]
theorem its_set {E : List Ent} {G : List Sl} {e : Ent} {g : Sl} (he : E[G.length]? = some e) : (its E G).set G.length (dn G.length e g) = its E (G ++ [g]) := by
  apply List.ext_getElem?
  intro j
  have hl := lt_of_get he
  by_cases hj : j = G.length
  · subst hj
    rw [List.getElem?_set_self (by rw [its_len]; exact hl), its_get he]
    simp
  · rw [List.getElem?_set_ne (fun e => hj e.symm)]
    cases hE : E[j]? with
    | none => simp [its, List.getElem?_mapIdx, hE]
    | some e' =>
      rw [its_get hE, its_get hE]
      congr 1
      by_cases h2 : j < G.length
      · rw [List.getElem?_append_left h2]
      · rw [List.getElem?_eq_none (by omega), List.getElem?_eq_none (by simp; omega)]

theorem c_owned {L : List Asn} {k : Nat} {E : List Ent} {h : Hp} {K : Bool → Hp → Prop} (hs : Sat (L ++ [bookA k E]) h) (hE : E.length ≤ 1099511627776) (hl : ∀ e ∈ E, e.2.length ≤ 17592186044416)
    (hK : ∀ h', Sat L h' → K true h') : C16 (some (bk k)) h K := by
  apply S16; unfold N16
  obtain ⟨⟨p, q⟩, hs⟩ := Sat.unex hs
  replace hs := hs.open
  have h3 : Sat ((L ++ [row k 38 [p.v, q.v], Hw.own 24 1 p (E.map fun e => e.1.v), Hw.own 9 1 q (E.map fun e => .string ⟨⟨e.2⟩⟩)]) ++ [star (E.map ownB)]) h := by simpa using hs
  replace hs := h3.open
  rw [List.append_assoc] at hs
  have hk := hs.blk 0 rfl
  have pn : p.n = E.length := by have := (hs.own 1 rfl).1; simpa using this.symm
  have qn : q.n = E.length := by have := (hs.own 2 rfl).1; simpa using this.symm
  have c0 : cell h (bk k) = some p.v := by rw [hk.cell]; rfl
  have c1 : cell h ((bk k).add 1) = some q.v := by rw [add_bk, hk.cell]; rfl
  -- the first loop: they read as they did
  unfold N16_l0
  refine loopP_inv (fun (x : Int) hc => hc = h ∧ ∃ i : Nat, x = i ∧ i ≤ E.length) (fun x _ => E.length - x.toNat) ?_ ⟨rfl, 0, rfl, Nat.zero_le _⟩
  rintro x hc ⟨rfl, i, rfl, hi⟩
  unfold N16_l0_B N16_l0_b
  simp only [nn_some', c0, xL_v]
  by_cases hlt : i < E.length
  · have : decide ((i : Int) < ((p.n : Nat) : Int)) = true := by simp; omega
    rw [this, cond_true]
    have he : E[i]? = some E[i] := List.getElem?_eq_getElem hlt
    obtain ⟨b, hb, hcell⟩ := (hs.own 1 rfl).get (k := i) (v := E[i].1.v) (by rw [List.getElem?_map, he]; rfl)
    obtain ⟨b2, hb2, hcell2⟩ := (hs.own 2 rfl).get (k := i) (v := .string ⟨⟨E[i].2⟩⟩) (by rw [List.getElem?_map, he]; rfl)
    refine idx_of (by omega) (by omega) ?_
    rw [hb]
    simp only [nn_some', add_bk, Int.toNat_natCast, Nat.mul_one, hcell, xL_v]
    have hr := (hs.own (3 + i) (T := 5) (sz := 1) (s := E[i].1) (vs := bc E[i].2) (by
      rw [List.getElem?_append_right (by simp)]
      simp [ownB, he])).rdb
    refine hr.b2s ?_
    have c1' : cell hc ⟨k, 1, none⟩ = some q.v := by rw [hk.cell]; rfl
    simp only [c1', xL_v]
    refine idx_of (by omega) (by omega) ?_
    rw [hb2]
    simp only [nn_some', add_bk, Int.toNat_natCast, Nat.mul_one, hcell2, xS_some, beq_self_eq_true, Bool.not_true, cond_false]
    rw [nat_succ64 (by omega)]
    exact ⟨⟨trivial, i + 1, rfl, hlt⟩, by omega⟩
  · have : decide ((i : Int) < ((p.n : Nat) : Int)) = false := by simp; omega
    rw [this, cond_false]
    clear this hlt hi
    -- the second loop: marked and grown
    have hs5 : Sat (L ++ ([row k 38 [p.v, q.v], Hw.own 24 1 p (E.map fun e => e.1.v), Hw.own 24 1 ⟨none, 0, 0⟩ []] ++ its E [])) hc := by
      refine (Sat.addNil 24 1 hs).pick (fun n => if n < L.length + 2 then n else if n = L.length + 2 then L.length + (3 + E.length) else n) ?_ ?_
      · intro n A hn
        rw [its_nil] at hn
        have hnl := lt_of_get hn
        simp at hnl
        by_cases e1 : n < L.length
        · rw [if_pos (by omega)]
          rw [List.getElem?_append_left e1] at hn ⊢; exact hn
        · rw [List.getElem?_append_right (by omega)] at hn
          by_cases e2 : n < L.length + 2
          · rw [if_pos e2, List.getElem?_append_right (by omega)]
            rcases (show n - L.length = 0 ∨ n - L.length = 1 by omega) with q | q <;> rw [q] at hn ⊢ <;> simpa using hn
          · rw [if_neg e2]
            by_cases e3 : n = L.length + 2
            · rw [if_pos e3, List.getElem?_append_right (by omega), List.getElem?_append_right (by simp; omega)]
              have e0 : L.length + (3 + E.length) - L.length - ([row k 38 [p.v, q.v], Hw.own 24 1 p (E.map fun e => e.1.v), Hw.own 9 1 q (E.map fun e => .string ⟨⟨e.2⟩⟩)] ++ E.map ownB).length = 0 := by
                simp only [List.length_append, List.length_cons, List.length_nil, List.length_map]; omega
              rw [e0]
              rw [e3, show L.length + 2 - L.length = 2 by omega] at hn
              exact hn
            · rw [if_neg e3, List.getElem?_append_right (by omega), List.getElem?_append_left (by simp; omega)]
              obtain ⟨d, hd⟩ : ∃ d, n - L.length = d + 3 := ⟨n - L.length - 3, by omega⟩
              rw [hd] at hn ⊢
              simpa using hn
      · intro n m hn hm e
        simp [its_nil] at hn hm
        split at e <;> split at e <;> (try split at e) <;> (try split at e) <;> omega
    unfold N16_l1
    refine loopP_inv (fun (x : Sl × Int) hd => ∃ G : List Sl, x.2 = (G.length : Int) ∧ G.length ≤ E.length ∧ Sat (L ++ ([row k 38 [p.v, q.v], Hw.own 24 1 p (E.map fun e => e.1.v), Hw.own 24 1 x.1 (G.map Sl.v)] ++ its E G)) hd) (fun x _ => E.length - x.2.toNat) ?_
      ⟨[], rfl, Nat.zero_le _, hs5⟩
    clear hs hs5 h3 c0 c1 hk
    rintro ⟨gr, x⟩ hd ⟨G, hx, hG, hs⟩
    simp only at hx hs
    subst hx
    have hk := hs.blk 0 rfl
    have c0 : cell hd (bk k) = some p.v := by rw [hk.cell]; rfl
    unfold N16_l1_B N16_l1_b
    simp only [nn_some', c0, xL_v]
    have grn : gr.n = G.length := by have := (hs.own 2 rfl).1; simpa using this.symm
    by_cases hlt : G.length < E.length
    · have : decide ((G.length : Int) < ((p.n : Nat) : Int)) = true := by simp; omega
      rw [this, cond_true]
      have he : E[G.length]? = some E[G.length] := List.getElem?_eq_getElem hlt
      generalize hee : E[G.length] = e at he
      obtain ⟨b, hb, hcell⟩ := (hs.own 1 rfl).get (k := G.length) (v := e.1.v) (by rw [List.getElem?_map, he]; rfl)
      refine idx_of (by omega) (by omega) ?_
      rw [hb]
      simp only [nn_some', add_bk, Int.toNat_natCast, Nat.mul_one, hcell, xL_v]
      have hel := hl e (List.mem_of_getElem? he)
      have hit : ([row k 38 [p.v, q.v], Hw.own 24 1 p (E.map fun e => e.1.v), Hw.own 24 1 gr (G.map Sl.v)] ++ its E G)[3 + G.length]? = some (ownB e) := by
        rw [List.getElem?_append_right (by simp), show 3 + G.length - [row k 38 [p.v, q.v], Hw.own 24 1 p (E.map fun e => e.1.v), Hw.own 24 1 gr (G.map Sl.v)].length = G.length by simp, its_get he]
        simp
      refine owned2 (hs.rot (3 + G.length) hit) (by omega) (by omega) ?_
      intro h1 hs1
      refine owned3 hs1 (by omega) hel ?_
      intro g h2 hs2
      have hs3 := Sat.back hs2 (by have := lt_of_get hit; exact this)
      rw [List.set_append_right _ _ (by simp), show 3 + G.length - [row k 38 [p.v, q.v], Hw.own 24 1 p (E.map fun e => e.1.v), Hw.own 24 1 gr (G.map Sl.v)].length = G.length by simp] at hs3
      have eit : (its E G).set G.length (dn G.length (e.1, e.2) g) = its E (G ++ [g]) := its_set he
      rw [eit] at hs3
      refine hs3.push 2 rfl (k := 1) yl_a yl_z rfl (by intro v hv; simp at hv; subst hv; rfl) (by rw [yl_b]; omega) ?_
      intro gr' h4 hs4 hn4
      rw [nat_succ64 (by omega)]
      refine ⟨⟨G ++ [g], by simp, by simp; omega, ?_⟩, by first | omega | (dsimp only; omega)⟩
      have eg : (Value.slice g.p g.n g.c) = g.v := rfl
      rw [eg] at hs4
      simpa using hs4
    · have : decide ((G.length : Int) < ((p.n : Nat) : Int)) = false := by simp; omega
      rw [this, cond_false]
      have hGE : G.length = E.length := by omega
      clear this hlt
      -- the last loops: they read so
      have hL : Sat L hd := hs.left
      have reads : ∀ (i : Nat) (e : Ent) (g : Sl), E[i]? = some e → G[i]? = some g → RdB hd e.1 (mk i e.2.length) ∧ RdB hd g (mk i (e.2.length + 9)) := by
        intro i e g he hg
        obtain ⟨F, hF⟩ := hs.get' (3 + i) (A := dn i e g) (by
          rw [List.getElem?_append_right (by simp), show 3 + i - [row k 38 [p.v, q.v], Hw.own 24 1 p (E.map fun e => e.1.v), Hw.own 24 1 gr (G.map Sl.v)].length = i by simp, its_get he, hg])
        exact dn_reads hF
      have go := hs.own 2 rfl
      have po := hs.own 1 rfl
      unfold N16_l4
      refine loopP_inv (fun (x : Int) hf => hf = hd ∧ ∃ i : Nat, x = i ∧ i ≤ E.length) (fun x _ => E.length - x.toNat) ?_ ⟨rfl, 0, rfl, Nat.zero_le _⟩
      rintro x hf ⟨rfl, i, rfl, hi⟩
      unfold N16_l4_B N16_l4_b
      by_cases hlt : i < E.length
      · have : decide ((i : Int) < ((gr.n : Nat) : Int)) = true := by simp; omega
        rw [this, cond_true]
        simp only [nn_some', c0, xL_v]
        have he : E[i]? = some E[i] := List.getElem?_eq_getElem hlt
        have hg : G[i]? = some (G[i]'(by omega)) := List.getElem?_eq_getElem (by omega)
        generalize E[i] = e at he
        generalize (G[i]'(by omega)) = g at hg
        obtain ⟨r1, r2⟩ := reads i e g he hg
        have hel := hl e (List.mem_of_getElem? he)
        obtain ⟨b, hb, hcell⟩ := po.get (k := i) (v := e.1.v) (by rw [List.getElem?_map, he]; rfl)
        obtain ⟨b2, hb2, hcell2⟩ := go.get (k := i) (v := g.v) (by rw [List.getElem?_map, hg]; rfl)
        refine idx_of (by omega) (by omega) ?_
        rw [hb]
        simp only [nn_some', add_bk, Int.toNat_natCast, Nat.mul_one, hcell, xL_v]
        unfold N16_l5
        refine loopP_inv (fun (y : Int) hg => hg = hf ∧ ∃ n : Nat, y = n ∧ n ≤ e.2.length + 9) (fun y _ => e.2.length + 9 - y.toNat) ?_ ⟨rfl, 0, rfl, Nat.zero_le _⟩
        rintro y hf2 ⟨rfl, n, rfl, hn⟩
        unfold N16_l5_B N16_l5_b
        have gn := r2.n
        rw [mk_len] at gn
        have en := r1.n
        rw [mk_len] at en
        refine idx_of (by omega) (by omega) ?_
        rw [hb2]
        simp only [nn_some', add_bk, Int.toNat_natCast, Nat.mul_one, hcell2, xL_v]
        by_cases hnl : n < e.2.length + 9
        · have : decide ((n : Int) < ((g.n : Nat) : Int)) = true := by simp; omega
          rw [this, cond_true]
          refine c_mark (by omega) (by omega) ?_
          refine idx_of (by omega) (by omega) ?_
          simp only [hcell2, xL_v]
          refine r2.at' (i := n) (by rw [mk_len]; exact hnl) ?_
          rw [mk_get _ _ _ hnl, mark_u8]
          simp only [bne_self_eq_false, cond_false]
          have nx : ((True ∧ ∃ m : Nat, IntKind.wrap .i64 ((n : Int) + 1) = (m : Int) ∧ m ≤ e.2.length + 9) ∧ e.2.length + 9 - (IntKind.wrap .i64 ((n : Int) + 1)).toNat < e.2.length + 9 - n) := by
            rw [nat_succ64 (by omega)]
            exact ⟨⟨trivial, n + 1, rfl, hnl⟩, by omega⟩
          by_cases hn2 : n < e.2.length
          · have : decide ((n : Int) < ((e.1.n : Nat) : Int)) = true := by simp; omega
            rw [this, cond_true]
            refine r1.at' (i := n) (by rw [mk_len]; exact hn2) ?_
            rw [mk_get _ _ _ hn2, mark_u8]
            simp only [bne_self_eq_false, cond_false]
            exact nx
          · have : decide ((n : Int) < ((e.1.n : Nat) : Int)) = false := by simp; omega
            rw [this, cond_false]
            exact nx
        · have : decide ((n : Int) < ((g.n : Nat) : Int)) = false := by simp; omega
          rw [this, cond_false]
          rw [nat_succ64 (by omega)]
          exact ⟨⟨trivial, i + 1, rfl, hlt⟩, by omega⟩
      · have : decide ((i : Int) < ((gr.n : Nat) : Int)) = false := by simp; omega
        rw [this, cond_false]
        exact hK _ hL

end Go.Proofs.YtedklcmdjoojfaaDoor

set_option linter.unusedVariables false
set_option maxRecDepth 100000
namespace Go.Proofs.YtedklcmdjoojfaaDoor
open Go Go.Hw
/-! ### 36 slipway/slipwayref01.Decimal -/
noncomputable def B36 : Code := match Tryd.f36.body with | some c => c | none => .skip
def N36_l0_b  (Φ : Int → ByteArray → Hp → Prop) (x0_n : Int) (x3_s : ByteArray) (h : Hp) (K_e0 : Int → ByteArray → Hp → Prop) : Prop :=
  bif (decide (x0_n > 9)) then
    nw h (.cells ⟨[.int .u8 (IntKind.wrap .u8 (IntKind.wrap .i64 (48 + (Int.tmod x0_n 10))))]⟩ 5) fun b0 h0 =>
    b2s h0 (some (bk b0)) 1 fun s0 =>
    catS s0 x3_s <|
    Φ (IntKind.wrap .i64 (Int.tdiv x0_n 10)) (s0 ++ x3_s) h0
  else
    K_e0 x0_n x3_s h
def N36_l0_B  (K_e0 : Int → ByteArray → Hp → Prop) (s : Sg.T [(0, .c (.int .i64)), (3, .c (.str))]) (h : Hp) (Φ : Sg.T [(0, .c (.int .i64)), (3, .c (.str))] → Hp → Prop) : Prop :=
  N36_l0_b  (fun x0_n x3_s h => Φ (x0_n, x3_s) h) s.1 s.2 h K_e0
def N36_l0  (x0_n : Int) (x3_s : ByteArray) (h : Hp) (K_e0 : Int → ByteArray → Hp → Prop) : Prop :=
  loopP (N36_l0_B  K_e0) (x0_n, x3_s) h
noncomputable def N36_l0_t : Xf := loopT [] [(0, .c (.int .i64)), (3, .c (.str))] (codeAt B36 [1, 1, 0, 0, 0]) fun F Q => N36_l0_B  (fun o0 o1 h' => Q (.exit 0) (Sg.env [(0, .c (.int .i64)), (3, .c (.str))] (o0, o1)) h')
theorem N36_l0_ok : Sound Tryd.prog Tryd.f36.ntmps N36_l0_t (codeAt B36 [1, 1, 0, 0]) := by
  refine loop_sound (fun e => match e with | .exit 0 => [0, 3] | _ => []) (by kernel_rfl) ?_
  intro F Q s h Φ hb
  refine den_sound hE hm _ .leaf _ _ _ (annOk_leaf) ?_
  refine cast ?_ hb
  kernel_rfl
def N36 (x0 : Int) (h : Hp) (K : ByteArray → Hp → Prop) : Prop :=
  N36_l0 x0 (⟨⟨[]⟩⟩ : ByteArray) h
    (fun n0 s0 h0 =>
      nw h0 (.cells ⟨[.int .u8 (IntKind.wrap .u8 (IntKind.wrap .i64 (48 + n0)))]⟩ 5) fun b0 h1 =>
      b2s h1 (some (bk b0)) 1 fun s1 =>
      catS s1 s0 <|
      K (s1 ++ s0) h1)
theorem S36 {x0 : Int} {h : Hp} {K : ByteArray → Hp → Prop} (hn : N36 x0 h K) : C36 x0 h K := by
  refine calls_of_D Tryd.func36 (c := B36) rfl (by kernel_rfl) ?_
  refine den_sound hE hm _ (.two .leaf (.two .leaf (.two (.one (.xf N36_l0_t)) .leaf))) _ _ _ (⟨annOk_leaf, ⟨annOk_leaf, ⟨N36_l0_ok, annOk_leaf⟩⟩⟩) ?_
  refine cast ?_ hn
  kernel_rfl
end Go.Proofs.YtedklcmdjoojfaaDoor

/-
  Texts: what is split and joined again; decimal numbers. Plain laws.
-/
set_option linter.unusedSimpArgs false
set_option linter.unusedVariables false
namespace Go.Hw
open Go

/-- pieces with a byte between them -/
def jn (c : UInt8) : List (List UInt8) → List UInt8
  | [] => []
  | [x] => x
  | x :: y :: r => x ++ c :: jn c (y :: r)
theorem jn_cons (c : UInt8) (x : List UInt8) {r : List (List UInt8)} (h : r ≠ []) : jn c (x :: r) = x ++ c :: jn c r := by
  cases r with
  | nil => exact absurd rfl h
  | cons y r => rfl
theorem jn_snoc (c : UInt8) : ∀ (l : List (List UInt8)) (x : List UInt8), l ≠ [] → jn c (l ++ [x]) = jn c l ++ c :: x := by
  intro l
  induction l with
  | nil => intro x h; exact absurd rfl h
  | cons a l ih =>
    intro x _
    cases l with
    | nil => simp [jn]
    | cons b l =>
      have h1 := ih x (by simp)
      rw [List.cons_append, jn_cons c a (by simp), h1, jn_cons c a (by simp)]; simp
theorem join_jn (c : UInt8) : ∀ l : List (List UInt8), Lib.join l [c] = jn c l := by
  intro l
  induction l with
  | nil => simp [Lib.join, List.intercalate, jn]
  | cons a l ih =>
    cases l with
    | nil => simp [Lib.join, List.intercalate, jn]
    | cons b l =>
      rw [jn_cons c a (by simp), ← ih]
      simp [Lib.join, List.intercalate, List.intersperse]

theorem index_cut {l : List UInt8} {c : UInt8} {o : Nat} (h : Lib.index l [c] = o) : l = l.take o ++ c :: l.drop (o + 1) ∧ c ∉ l.take o := by
  rw [Lib.index_one] at h
  obtain ⟨h1, h2⟩ := Lib.indexByte_some h
  have hlt := (List.getElem?_eq_some_iff.1 h1).1
  have h3 : l[o] = c := by rw [List.getElem?_eq_getElem hlt] at h1; exact Option.some.inj h1
  constructor
  · conv => lhs; rw [← List.take_append_drop o l]
    rw [List.drop_eq_getElem_cons hlt, h3]
  · intro hm
    obtain ⟨i, hi, he⟩ := List.getElem_of_mem hm
    have hio : i < o := by simp at hi; omega
    refine h2 i hio ?_
    rw [List.getElem_take] at he
    rw [List.getElem?_eq_getElem (by omega), he]

theorem splitK_ok (c : UInt8) : ∀ (k : Nat) (l : List UInt8), l.count c = k → (Lib.splitK [c] 0 k l).length = k + 1 ∧ jn c (Lib.splitK [c] 0 k l) = l ∧ ∀ p ∈ Lib.splitK [c] 0 k l, c ∉ p := by
  intro k
  induction k with
  | zero =>
    intro l hl
    refine ⟨rfl, rfl, ?_⟩
    intro p hp
    simp [Lib.splitK] at hp
    subst hp
    exact List.count_eq_zero.1 hl
  | succ k ih =>
    intro l hl
    have hm : c ∈ l := by rw [← List.count_pos_iff, hl]; omega
    have hidx : Lib.index l [c] ≠ -1 := by
      intro e
      rw [Lib.index_one] at e
      obtain ⟨i, hi, he⟩ := List.getElem_of_mem hm
      exact Lib.indexByte_none e i (by rw [List.getElem?_eq_getElem hi, he])
    obtain ⟨o, ho⟩ : ∃ o : Nat, Lib.index l [c] = o := by
      have := Lib.indexByte_ge l c
      rw [← Lib.index_one] at this
      exact ⟨(Lib.index l [c]).toNat, by omega⟩
    obtain ⟨h1, h2⟩ := index_cut ho
    have hc : (l.drop (o + 1)).count c = k := by
      rw [h1, List.count_append, List.count_cons_self, List.count_eq_zero.2 h2] at hl
      omega
    obtain ⟨i1, i2, i3⟩ := ih _ hc
    have es : Lib.splitK [c] 0 (k + 1) l = l.take o :: Lib.splitK [c] 0 k (l.drop (o + 1)) := by
      simp only [Lib.splitK, ho]
      rw [if_neg (by simp)]
      rfl
    rw [es]
    refine ⟨by simp [i1], ?_, ?_⟩
    · rw [jn_cons c _ (by intro e; rw [e] at i1; simp at i1), i2]; exact h1.symm
    · intro p hp
      rcases List.mem_cons.1 hp with rfl | hp
      · exact h2
      · exact i3 p hp

theorem countB_one (c : UInt8) (s : ByteArray) : Lib.countB s ⟨#[c]⟩ = s.data.toList.count c := by
  show Lib.count s.data.toList [c] = _
  exact Lib.count_one c _
theorem splitB_ok (c : UInt8) (s : ByteArray) : (Lib.splitB ⟨#[c]⟩ 0 (Lib.countB s ⟨#[c]⟩) s).length = Lib.countB s ⟨#[c]⟩ + 1 ∧ jn c ((Lib.splitB ⟨#[c]⟩ 0 (Lib.countB s ⟨#[c]⟩) s).map (·.data.toList)) = s.data.toList ∧
    ∀ p ∈ (Lib.splitB ⟨#[c]⟩ 0 (Lib.countB s ⟨#[c]⟩) s).map (·.data.toList), c ∉ p := by
  rw [Lib.splitB_data]
  have := splitK_ok c _ s.data.toList (countB_one c s).symm
  refine ⟨?_, this.2⟩
  have h2 := congrArg List.length (Lib.splitB_data ⟨#[c]⟩ 0 (Lib.countB s ⟨#[c]⟩) s)
  rw [List.length_map] at h2
  exact h2.trans this.1

/-- pieces without the byte are told by the whole -/
theorem jn_inj (c : UInt8) : ∀ (l m : List (List UInt8)), l ≠ [] → m ≠ [] → (∀ p ∈ l, c ∉ p) → (∀ p ∈ m, c ∉ p) → jn c l = jn c m → l = m := by
  have cut : ∀ (x y u v : List UInt8), c ∉ x → c ∉ y → x ++ c :: u = y ++ c :: v → x = y ∧ u = v := by
    intro x
    induction x with
    | nil =>
      intro y u v _ hy h
      cases y with
      | nil => simp at h; exact ⟨rfl, h⟩
      | cons b y => simp at h; exact absurd (by rw [h.1]; simp) hy
    | cons a x ih =>
      intro y u v hx hy h
      cases y with
      | nil => simp at h; exact absurd (by rw [h.1]; simp) hx
      | cons b y =>
        simp only [List.cons_append, List.cons.injEq] at h
        obtain ⟨r1, r2⟩ := ih y u v (fun q => hx (by simp [q])) (fun q => hy (by simp [q])) h.2
        exact ⟨by rw [h.1, r1], r2⟩
  intro l
  induction l with
  | nil => intro m h; exact absurd rfl h
  | cons a l ih =>
    intro m _ hm hl hm2 h
    cases m with
    | nil => exact absurd rfl hm
    | cons b m =>
      cases l with
      | nil =>
        cases m with
        | nil => simp [jn] at h; rw [h]
        | cons d m =>
          rw [jn_cons c b (by simp)] at h
          exact absurd (by rw [show jn c [a] = a from rfl] at h; rw [h]; simp) (hl a (by simp))
      | cons e l =>
        cases m with
        | nil =>
          rw [jn_cons c a (by simp)] at h
          exact absurd (by rw [show jn c [b] = b from rfl] at h; rw [← h]; simp) (hm2 b (by simp))
        | cons d m =>
          rw [jn_cons c a (by simp), jn_cons c b (by simp)] at h
          obtain ⟨r1, r2⟩ := cut _ _ _ _ (hl a (by simp)) (hm2 b (by simp)) h
          have := ih (d :: m) (by simp) (by simp) (fun p hp => hl p (by simp at hp ⊢; exact .inr hp)) (fun p hp => hm2 p (by simp at hp ⊢; exact .inr hp)) r2
          rw [r1, this]

/-! ### decimal numbers -/
theorem dec_small {u : Nat} (h : u < 10) : Lib.decDigits u = [UInt8.ofNat (48 + u)] := Lib.decDigits_one h
theorem dec_big {u : Nat} (h : ¬ u < 10) : Lib.decDigits u = Lib.decDigits (u / 10) ++ [UInt8.ofNat (48 + u % 10)] := by rw [Lib.decDigits, dif_neg h]
theorem dec_digit (u : Nat) : ∀ b ∈ Lib.decDigits u, 48 ≤ b.toNat ∧ b.toNat ≤ 57 := by
  induction u using Nat.strongRecOn with
  | _ u ih =>
    intro b hb
    by_cases h : u < 10
    · rw [dec_small h] at hb
      have hb := List.mem_singleton.1 hb
      subst hb
      rw [UInt8.toNat_ofNat']; omega
    · rw [dec_big h] at hb
      rcases List.mem_append.1 hb with hb | hb
      · exact ih _ (by omega) b hb
      · have hb := List.mem_singleton.1 hb
        subst hb
        rw [UInt8.toNat_ofNat']; omega
theorem dec_ne (u : Nat) : Lib.decDigits u ≠ [] := by
  by_cases h : u < 10
  · rw [dec_small h]; simp
  · rw [dec_big h]; simp
/-- what digits spell -/
def spell (l : List UInt8) : Nat := l.foldl (fun a b => a * 10 + (b.toNat - 48)) 0
theorem spell_snoc (l : List UInt8) (b : UInt8) : spell (l ++ [b]) = spell l * 10 + (b.toNat - 48) := by simp [spell]
theorem spell_dec (u : Nat) : spell (Lib.decDigits u) = u := by
  induction u using Nat.strongRecOn with
  | _ u ih =>
    by_cases h : u < 10
    · rw [dec_small h]; simp only [spell, List.foldl_cons, List.foldl_nil]; rw [UInt8.toNat_ofNat']; omega
    · rw [dec_big h, spell_snoc, ih _ (by omega), UInt8.toNat_ofNat']; omega
theorem dec_inj {u v : Nat} (h : Lib.decDigits u = Lib.decDigits v) : u = v := by rw [← spell_dec u, ← spell_dec v, h]
theorem parse_snoc (M : Nat) : ∀ (l m : List UInt8) (a u : Nat), Lib.parseUintM M a l = .ok u → Lib.parseUintM M a (l ++ m) = Lib.parseUintM M u m := by
  intro l
  induction l with
  | nil => intro m a u h; simp [Lib.parseUintM] at h; subst h; rfl
  | cons c l ih =>
    intro m a u h
    simp only [List.cons_append, Lib.parseUintM] at h ⊢
    split at h
    · rename_i h1
      rw [if_pos h1]
      split at h
      · cases h
      · rename_i h2
        rw [if_neg h2]
        split at h
        · cases h
        · rename_i h3
          rw [if_neg h3]
          exact ih m _ _ h
    · cases h
theorem parse_dec {u : Nat} (h : u < 256) : Lib.parseUintB 8 (Lib.decDigits u) = .ok u := by
  unfold Lib.parseUintB
  rw [if_neg (dec_ne u)]
  have one : ∀ v w : Nat, v ≤ 25 → w < 10 → v * 10 + w < 256 → Lib.parseUintM 255 v [UInt8.ofNat (48 + w)] = .ok (v * 10 + w) := by
    intro v w hv hw hx
    have e : (UInt8.ofNat (48 + w)).toNat = 48 + w := by rw [UInt8.toNat_ofNat']; omega
    simp only [Lib.parseUintM, e]
    rw [if_pos (by omega), if_neg (by omega), if_neg (by omega)]
    congr 1; omega
  show Lib.parseUintM 255 0 _ = _
  have step : ∀ u, u < 256 → Lib.parseUintM 255 0 (Lib.decDigits u) = .ok u := by
    intro u
    induction u using Nat.strongRecOn with
    | _ u ih =>
      intro hu
      by_cases h : u < 10
      · rw [dec_small h]
        have := one 0 u (by omega) h (by omega)
        simpa using this
      · rw [dec_big h, parse_snoc _ _ _ _ _ (ih (u / 10) (by omega) (by omega)), one (u / 10) (u % 10) (by omega) (by omega) (by omega)]
        congr 1; omega
  exact step u h
theorem parse_le {l : List UInt8} {u : Nat} (h : Lib.parseUintB 8 l = .ok u) : u < 256 := by
  unfold Lib.parseUintB at h
  split at h
  · cases h
  · have key : ∀ (l : List UInt8) (a : Nat), a < 256 → Lib.parseUintM 255 a l = .ok u → u < 256 := by
      intro l
      induction l with
      | nil => intro a ha h; simp [Lib.parseUintM] at h; omega
      | cons c l ih =>
        intro a ha h
        simp only [Lib.parseUintM] at h
        split at h
        · split at h
          · cases h
          · split at h
            · cases h
            · exact ih _ (by omega) h
        · cases h
    exact key l 0 (by omega) h

end Go.Hw

/-
  Texts over heaps: strings that are put together, bytes of a string, text out of a fresh row.
-/
set_option linter.unusedSimpArgs false
set_option linter.unusedVariables false
namespace Go.Hw
open Go

theorem catS_of {x y : ByteArray} {X : Prop} (h : x.data.toList.length + y.data.toList.length ≤ 4611686018427387904) (hX : X) : catS x y X := by
  unfold catS
  have : decide ((((x.size + y.size : Nat)) : Int) > IntKind.i64.max) = false := by
    apply decide_eq_false
    have e1 : x.size = x.data.toList.length := rfl
    have e2 : y.size = y.data.toList.length := rfl
    have e3 : IntKind.i64.max = 9223372036854775807 := rfl
    omega
  rw [this, cond_false]; exact hX
theorem ba_app (l m : List UInt8) : (⟨⟨l⟩⟩ : ByteArray) ++ ⟨⟨m⟩⟩ = ⟨⟨l ++ m⟩⟩ := by
  apply ByteArray.ext
  rw [ByteArray.data_append]
  apply Array.ext'
  simp
theorem ba_eq {s : ByteArray} : (⟨⟨s.data.toList⟩⟩ : ByteArray) = s := rfl
theorem ba_list (l : List UInt8) : (⟨⟨l⟩⟩ : ByteArray).toList = l := ByteArray.toList_eq _
theorem ba_beq (s t : ByteArray) : (s.toList == t.toList) = decide (s.data.toList = t.data.toList) := by
  rw [ByteArray.toList_eq, ByteArray.toList_eq]
  by_cases h : s.data.toList = t.data.toList
  · rw [h]; simp
  · rw [decide_eq_false h]; exact beq_false_of_ne h
theorem sbyte_at {l : List UInt8} {x : Int} {i : Nat} (hx : x = i) (hi : i < l.length) : sbyte ⟨⟨l⟩⟩ x = (l[i].toNat : Int) := by
  subst hx
  unfold sbyte
  simp [hi]
theorem idx_str {l : List UInt8} {x : Int} {i : Nat} {X : Prop} (hx : x = i) (hi : i < l.length) (hX : X) : idx x (⟨⟨l⟩⟩ : ByteArray).size X := idx_of (by omega) (by show x < ((l.length : Nat) : Int); omega) hX
/-- a row of bytes made and read as a string -/
theorem nw_b2s {h : Hp} {T : TypeId} {l : List UInt8} {n : Nat} {F : Hp → ByteArray → Prop} (hn : n = l.length) (hF : ∀ h', Ext none' h h' → F h' ⟨⟨l⟩⟩) : nw h (.cells ⟨bc l⟩ T) fun b0 h0 => b2s h0 (some (bk b0)) n fun s => F h0 s := by
  intro b0 e0
  have hb : Blk (upd h b0 (.cells ⟨bc l⟩ T)) b0 T (bc l) := Blk.upd_same
  have hr : RdB (upd h b0 (.cells ⟨bc l⟩ T)) ⟨some (bk b0), l.length, l.length⟩ l := ⟨rfl, Nat.le_refl _, hb.rdc⟩
  subst hn
  exact hr.b2s (hF _ (Ext.new e0))
theorem u8_of {x : Int} {k : Nat} (h : x = k) (hk : k < 256) : x = (((UInt8.ofNat k).toNat : Nat) : Int) := by rw [UInt8.toNat_ofNat']; omega

end Go.Hw

/-
  Addresses as text: Decimal, Dotted, Undotted: the program's and the document's.
-/
-- (no octet.Dotted)
-- (no ref01.Dotted)
-- (no octet.Undotted)
-- (no ref01.Undotted)
set_option linter.unusedSimpArgs false
set_option linter.unusedVariables false
namespace Go.Proofs.YtedklcmdjoojfaaDoor
open Go Go.Hw

theorem dec_len_le (u : Nat) : (Lib.decDigits u).length ≤ u + 1 := by
  induction u using Nat.strongRecOn with
  | _ u ih =>
    by_cases h : u < 10
    · rw [dec_small h]; simp
    · rw [dec_big h]; have := ih (u / 10) (by omega); simp; omega
theorem dec_len3 {u : Nat} (h : u < 1000) : (Lib.decDigits u).length ≤ 3 := by
  by_cases h1 : u < 10
  · rw [dec_small h1]; simp
  · rw [dec_big h1]
    by_cases h2 : u / 10 < 10
    · rw [dec_small h2]; simp
    · rw [dec_big h2, dec_small (by omega)]; simp
theorem itoa_nat (n : Nat) : Lib.itoa (n : Int) = Lib.decDigits n := by unfold Lib.itoa; rw [if_neg (by omega)]; simp

theorem c_Decimal {n : Nat} {h : Hp} {K : ByteArray → Hp → Prop} (hn : n ≤ 1099511627776) (hK : ∀ h', Ext none' h h' → K ⟨⟨Lib.decDigits n⟩⟩ h') : C36 (n : Int) h K := by
  apply S36; unfold N36 N36_l0
  refine loopP_inv (fun (x : Int × ByteArray) hc => Ext none' h hc ∧ ∃ (m : Nat) (s : List UInt8), x.1 = m ∧ x.2 = ⟨⟨s⟩⟩ ∧ m ≤ n ∧ Lib.decDigits m ++ s = Lib.decDigits n) (fun x _ => x.1.toNat) ?_ ⟨Ext.refl, n, [], rfl, rfl, Nat.le_refl _, by simp⟩
  rintro ⟨x, t⟩ hc ⟨he, m, s, hx, ht, hm, hd⟩
  simp only at hx ht
  subst hx; subst ht
  have sl : s.length ≤ n + 1 := by have := congrArg List.length hd; have := dec_len_le n; simp at *; omega
  unfold N36_l0_B N36_l0_b
  dsimp only
  by_cases hb : m < 10
  · have : decide ((m : Int) > 9) = false := decide_eq_false (by omega)
    rw [this, cond_false, wi64i (by omega) (by omega), wu8i (by omega) (by omega), u8_of (x := 48 + (m : Int)) (k := 48 + m) (by omega) (by omega)]
    refine nw_b2s (l := [UInt8.ofNat (48 + m)]) (F := fun h1 s1 => catS s1 ⟨⟨s⟩⟩ <| K (s1 ++ ⟨⟨s⟩⟩) h1) rfl ?_
    intro h1 e1
    refine catS_of (by simp; omega) ?_
    rw [ba_app, ← dec_small hb, hd]
    exact hK _ (he.trans e1)
  · have : decide ((m : Int) > 9) = true := decide_eq_true (by omega)
    rw [this, cond_true, Int.tmod_eq_emod_of_nonneg (by omega), Int.tdiv_eq_ediv_of_nonneg (by omega), wi64i (x := 48 + (m : Int) % 10) (by omega) (by omega), wu8i (by omega) (by omega), u8_of (x := 48 + (m : Int) % 10) (k := 48 + m % 10) (by omega) (by omega), wi64i (by omega) (by omega)]
    refine nw_b2s (l := [UInt8.ofNat (48 + m % 10)]) (F := fun h0 s0 => catS s0 ⟨⟨s⟩⟩ <| ((Ext none' h h0 ∧ ∃ (m2 : Nat) (s2 : List UInt8), (m : Int) / 10 = m2 ∧ s0 ++ ⟨⟨s⟩⟩ = ⟨⟨s2⟩⟩ ∧ m2 ≤ n ∧ Lib.decDigits m2 ++ s2 = Lib.decDigits n) ∧ ((m : Int) / 10).toNat < ((m : Int)).toNat)) rfl ?_
    intro h1 e1
    refine catS_of (by simp; omega) ?_
    refine ⟨⟨he.trans e1, m / 10, _, by omega, ba_app _ _, by omega, ?_⟩, by omega⟩
    rw [← hd, dec_big hb]; simp

/-! ### dotted -/
def dd (l : List UInt8) : List (List UInt8) := l.map fun b => Lib.decDigits b.toNat
def dotted (ip : Nat) : List UInt8 := jn 46 (dd (be ip 4))
theorem dd_take (l : List UInt8) {i : Nat} (hi : i < l.length) : (dd l).take (i + 1) = (dd l).take i ++ [Lib.decDigits (l[i]).toNat] := by
  rw [← List.take_append_getElem (by simpa [dd] using hi)]; simp [dd]
theorem dd_take_ne (l : List UInt8) {i : Nat} (h0 : 0 < i) (hi : i ≤ l.length) : (dd l).take i ≠ [] := by
  intro e
  have h2 : ((dd l).take i).length = 0 := by rw [e]; rfl
  rw [List.length_take] at h2
  simp only [dd, List.length_map] at h2
  omega
theorem jn_take_len (l : List UInt8) (i : Nat) (hi : i ≤ l.length) : (jn 46 ((dd l).take i)).length ≤ 4 * i := by
  induction i with
  | zero => simp [jn]
  | succ i ih =>
    have h1 := ih (by omega)
    have hb := dec_len3 (u := (l[i]'(by omega)).toNat) (by have := (l[i]'(by omega)).toNat_lt; omega)
    rw [dd_take l (by omega)]
    cases i with
    | zero => simp [jn]; omega
    | succ i =>
      rw [jn_snoc _ _ _ (dd_take_ne l (by omega) (by omega))]
      simp; omega

theorem be_nat (l : List UInt8) : be (nat256 l) l.length = l := by
  have low : ∀ (w a n : Nat), be (a * 256 ^ w + n) w = be n w := by
    intro w
    induction w with
    | zero => intro a n; rfl
    | succ w ih =>
      intro a n
      have e : a * 256 ^ (w + 1) + n = (a * 256) * 256 ^ w + n := by rw [Nat.pow_succ]; rw [Nat.mul_comm (256 ^ w), Nat.mul_assoc]
      simp only [be]
      rw [e, ih (a * 256) n]
      congr 2
      rw [Nat.add_comm, Nat.add_mul_div_right _ _ (Nat.pow_pos (by omega))]
      omega
  have hi : ∀ (w n b : Nat), b < 256 → be (n * 256 + b) (w + 1) = be n w ++ [UInt8.ofNat b] := by
    intro w
    induction w with
    | zero => intro n b hb; simp [be]; congr 1; omega
    | succ w ih =>
      intro n b hb
      rw [show be (n * 256 + b) (w + 1 + 1) = UInt8.ofNat ((n * 256 + b) / 256 ^ (w + 1) % 256) :: be (n * 256 + b) (w + 1) from rfl, ih n b hb]
      simp only [be, List.cons_append]
      congr 3
      rw [Nat.pow_succ, Nat.mul_comm (256 ^ w) 256, ← Nat.div_div_eq_div_mul]
      congr 1; omega
  have key : ∀ (k : Nat) (l : List UInt8), l.length = k → be (nat256 l) l.length = l := by
    intro k
    induction k with
    | zero => intro l hl; rw [List.length_eq_zero_iff.1 hl]; rfl
    | succ k ih =>
      intro l hl
      obtain ⟨m, b, rfl⟩ : ∃ m b, l = m ++ [b] := ⟨l.dropLast, l.getLast (by intro e; rw [e] at hl; simp at hl), (List.dropLast_concat_getLast _).symm⟩
      simp only [List.length_append, List.length_singleton] at hl ⊢
      rw [nat256_snoc, hi _ _ _ (b.toNat_lt), ih m (by omega)]
      simp
  exact key _ l rfl
theorem nat_be (n w : Nat) (h : n < 256 ^ w) : nat256 (be n w) = n := by
  have key : ∀ (w a n : Nat), (be n w).foldl (fun a b => a * 256 + b.toNat) a = a * 256 ^ w + n % 256 ^ w := by
    intro w
    induction w with
    | zero => intro a n; simp [be, Nat.mod_one]
    | succ w ih =>
      intro a n
      simp only [be, List.foldl_cons]
      rw [ih]
      have hb : (UInt8.ofNat (n / 256 ^ w % 256)).toNat = n / 256 ^ w % 256 := by rw [UInt8.toNat_ofNat']; omega
      rw [hb, Nat.pow_succ, Nat.mod_mul, Nat.add_mul, Nat.mul_assoc, Nat.mul_comm 256 (256 ^ w), Nat.mul_comm (256 ^ w) (n / 256 ^ w % 256)]
      omega
  have := key w 0 n
  unfold nat256
  rw [this, Nat.mod_eq_of_lt h]; omega
theorem dotted_inj {a b : Nat} (ha : a < 4294967296) (hb : b < 4294967296) (h : dotted a = dotted b) : a = b := by
  have nd : ∀ n, ∀ p ∈ dd (be n 4), (46 : UInt8) ∉ p := by
    intro n p hp hm
    obtain ⟨x, _, rfl⟩ := List.mem_map.1 hp
    have := dec_digit _ _ hm
    have e : (46 : UInt8).toNat = 46 := rfl
    omega
  have ne : ∀ n, dd (be n 4) ≠ [] := by intro n e; have := congrArg List.length e; simp [dd, be_len] at this
  have := jn_inj 46 _ _ (ne a) (ne b) (nd a) (nd b) h
  have key : ∀ (l m : List UInt8), dd l = dd m → l = m := by
    intro l
    induction l with
    | nil => intro m h; cases m with | nil => rfl | cons y m => simp [dd] at h
    | cons x l ih =>
      intro m h
      cases m with
      | nil => simp [dd] at h
      | cons y m =>
        simp only [dd, List.map_cons, List.cons.injEq] at h
        have := dec_inj h.1
        rw [ih m h.2, UInt8.toNat_inj.1 this]
  have hbe := key _ _ this
  rw [← nat_be a 4 ha, ← nat_be b 4 hb, hbe]


/-- is it an address's text? -/
def IsDot (s : List UInt8) : Prop := ∃ ip, ip < 4294967296 ∧ s = dotted ip

end Go.Proofs.YtedklcmdjoojfaaDoor

set_option linter.unusedVariables false
set_option maxRecDepth 100000
namespace Go.Proofs.YtedklcmdjoojfaaDoor
open Go Go.Hw
/-! ### 60 (*slipway/tftp.reader).text -/
noncomputable def B60 : Code := match Tryd.f60.body with | some c => c | none => .skip
def N60 (x0 : Option Addr) (h : Hp) (K : ByteArray → Int → Hp → Prop) : Prop :=
  nn x0 fun a0 =>
  xL (cell h a0) fun s0 =>
  nw h (.cells ⟨[.int .u8 0]⟩ 5) fun b0 h0 =>
  C67 s0 ⟨some (bk b0), 1, 1⟩ h0 fun s1 s2 b1 h1 =>
  bif (!b1) then
    K (⟨⟨[]⟩⟩ : ByteArray) 5 h1
  else
    nn x0 fun a1 =>
    st h1 a1 (.slice s2.p s2.n s2.c) fun h2 =>
    b2s h2 s1.p s1.n fun s3 =>
    K s3 0 h2
theorem S60 {x0 : Option Addr} {h : Hp} {K : ByteArray → Int → Hp → Prop} (hn : N60 x0 h K) : C60 x0 h K := by
  refine calls_of_D Tryd.func60 (c := B60) rfl (by kernel_rfl) ?_
  refine den_sound hE hm _ .leaf _ _ _ (annOk_leaf) ?_
  refine cast ?_ hn
  kernel_rfl
end Go.Proofs.YtedklcmdjoojfaaDoor

set_option linter.unusedVariables false
set_option maxRecDepth 100000
namespace Go.Proofs.YtedklcmdjoojfaaDoor
open Go Go.Hw
/-! ### 66 slipway/tftp.value -/
noncomputable def B66 : Code := match Tryd.f66.body with | some c => c | none => .skip
def N66 (x0 : ByteArray) (h : Hp) (K : Int → Bool → Hp → Prop) : Prop :=
  bif (decide ((x0.size : Int) > 10)) then
    K 0 false h
  else
    C73 x0 h fun n0 v0 h0 =>
    ifn v0 fun b0 =>
    bif b0 then
      bif (decide (n0 ≥ 0)) then
        bif (decide (n0 ≤ 2147483647)) then
          C31 n0 h0 fun s0 h1 =>
          K n0 (s0.toList == x0.toList) h1
        else
          K n0 false h0
      else
        K n0 false h0
    else
      K n0 false h0
theorem S66 {x0 : ByteArray} {h : Hp} {K : Int → Bool → Hp → Prop} (hn : N66 x0 h K) : C66 x0 h K := by
  refine calls_of_D Tryd.func66 (c := B66) rfl (by kernel_rfl) ?_
  refine den_sound hE hm _ .leaf _ _ _ (annOk_leaf) ?_
  refine cast ?_ hn
  kernel_rfl
end Go.Proofs.YtedklcmdjoojfaaDoor

set_option linter.unusedVariables false
set_option maxRecDepth 100000
namespace Go.Proofs.YtedklcmdjoojfaaDoor
open Go Go.Hw
/-! ### 62 slipway/slipwayref17.value -/
noncomputable def B62 : Code := match Tryd.f62.body with | some c => c | none => .skip
def N62_l0_b (x0_s : ByteArray) (Φ : Int → Int → Hp → Prop) (x4_n : Int) (x5_i : Int) (h : Hp) (K_e0 : Int → Hp → Prop) (K_ret : Int → Bool → Hp → Prop) : Prop :=
  bif (decide (x5_i < (x0_s.size : Int))) then
    bif (decide (x5_i < 10)) then
      idx x5_i x0_s.size <|
      bif (decide ((sbyte x0_s x5_i) < 48)) then
        K_ret 0 false h
      else
        idx x5_i x0_s.size <|
        bif (decide ((sbyte x0_s x5_i) > 57)) then
          K_ret 0 false h
        else
          idx x5_i x0_s.size <|
          Φ (IntKind.wrap .i64 ((IntKind.wrap .i64 (x4_n * 10)) + (IntKind.wrap .i64 (IntKind.wrap .u8 ((sbyte x0_s x5_i) - 48))))) (IntKind.wrap .i64 (x5_i + 1)) h
    else
      K_e0 x4_n h
  else
    K_e0 x4_n h
def N62_l0_B (x0_s : ByteArray) (K_e0 : Int → Hp → Prop) (K_ret : Int → Bool → Hp → Prop) (s : Sg.T [(4, .c (.int .i64)), (5, .c (.int .i64))]) (h : Hp) (Φ : Sg.T [(4, .c (.int .i64)), (5, .c (.int .i64))] → Hp → Prop) : Prop :=
  N62_l0_b x0_s (fun x4_n x5_i h => Φ (x4_n, x5_i) h) s.1 s.2 h K_e0 K_ret
def N62_l0 (x0_s : ByteArray) (x4_n : Int) (x5_i : Int) (h : Hp) (K_e0 : Int → Hp → Prop) (K_ret : Int → Bool → Hp → Prop) : Prop :=
  loopP (N62_l0_B x0_s K_e0 K_ret) (x4_n, x5_i) h
noncomputable def N62_l0_t : Xf := loopT [(0, .c (.str))] [(4, .c (.int .i64)), (5, .c (.int .i64))] (codeAt B62 [1, 1, 0, 1, 0, 0]) fun F Q => N62_l0_B F (fun o0 h' => Q (.exit 0) (Sg.env [(4, .c (.int .i64))] o0) h') (fun o0 o1 h' => Q .ret (Sg.env [(2, .c (.int .i64)), (3, .c (.bool))] (o0, o1)) h')
theorem N62_l0_ok : Sound Tryd.prog Tryd.f62.ntmps N62_l0_t (codeAt B62 [1, 1, 0, 1, 0]) := by
  refine loop_sound (fun e => match e with | .exit 0 => [4] | .ret => [2, 3] | _ => []) (by kernel_rfl) ?_
  intro F Q s h Φ hb
  refine den_sound hE hm _ .leaf _ _ _ (annOk_leaf) ?_
  refine cast ?_ hb
  kernel_rfl
def N62 (x0 : ByteArray) (h : Hp) (K : Int → Bool → Hp → Prop) : Prop :=
  N62_l0 x0 0 0 h
    (fun n0 h0 =>
      C36 n0 h0 fun s0 h1 =>
      bif (s0.toList == x0.toList) then
        K n0 (decide (n0 ≤ 2147483647)) h1
      else
        K n0 false h1)
    (fun n1 b0 h2 =>
      K n1 b0 h2)
theorem S62 {x0 : ByteArray} {h : Hp} {K : Int → Bool → Hp → Prop} (hn : N62 x0 h K) : C62 x0 h K := by
  refine calls_of_D Tryd.func62 (c := B62) rfl (by kernel_rfl) ?_
  refine den_sound hE hm _ (.two .leaf (.two .leaf (.two (.two .leaf (.one (.xf N62_l0_t))) .leaf))) _ _ _ (⟨annOk_leaf, ⟨annOk_leaf, ⟨⟨annOk_leaf, N62_l0_ok⟩, annOk_leaf⟩⟩⟩) ?_
  refine cast ?_ hn
  kernel_rfl
end Go.Proofs.YtedklcmdjoojfaaDoor

/-
  Texts that are read, by the library: bytes.Cut; numbers that texts say.
-/
set_option linter.unusedSimpArgs false
set_option linter.unusedVariables false
namespace Go.Proofs.YtedklcmdjoojfaaDoor
open Go Go.Hw Go.RowKit

/-- bytes that are read; a slice that is nil has no room -/
structure RdS (h : Hp) (s : Sl) (l : List UInt8) : Prop where
  r : RdB h s l
  a : s.p = none → s.c = 0
theorem RdS.ext {h h' : Hp} {s : Sl} {l : List UInt8} (H : RdS h s l) (he : Ext none' h h') : RdS h' s l := ⟨H.r.ext he, H.a⟩
theorem RdS.of {h : Hp} {s : Sl} {l : List UInt8} (H : RdB h s l) (hl : l ≠ []) : RdS h s l := by
  refine ⟨H, fun hp => ?_⟩
  cases l with
  | nil => exact absurd rfl hl
  | cons b l => obtain ⟨a', ha', hc⟩ := H.get (i := 0) (by simp); rw [hp] at ha'; cases ha'
theorem rds_tail {h : Hp} {s : Sl} {l : List UInt8} (H : RdS h s l) {i : Nat} (hi : i ≤ l.length) : RdS h ⟨sadr s.p s.c i 1, s.n - i, s.c - i⟩ (l.drop i) := by
  refine ⟨rdb_tail H.r hi, fun hp => ?_⟩
  have hp : sadr s.p s.c i 1 = none := hp
  unfold sadr at hp
  show s.c - i = 0
  split at hp
  · have := H.a hp; omega
  · cases hq : s.p with
    | none => have := H.a hq; omega
    | some b => rw [hq] at hp; cases hp

theorem rdb_head {h : Hp} {s : Sl} {l : List UInt8} (H : RdB h s l) {o : Nat} (ho : o ≤ l.length) : RdB h ⟨s.p, o, s.c⟩ (l.take o) := by
  have hn := H.n
  have hc := H.c
  refine ⟨by show o = _; simp; omega, by show o ≤ s.c; omega, fun i v hi => ?_⟩
  have hil : i < o := by
    have := (List.getElem?_eq_some_iff.1 hi).1
    simp at this; omega
  rw [bc_get, List.getElem?_take, if_pos hil] at hi
  exact H.r i v (by rw [bc_get]; exact hi)
theorem c_cutB {s : Sl} {l : List UInt8} {b0 : Nat} {h : Hp} {K : Sl → Sl → Bool → Hp → Prop} (H : RdS h s l) (hb : cell h ⟨b0, 0, none⟩ = some (.int .u8 0)) (hl : l.length ≤ 4611686018427387904)
    (hno : cutL l = none → ∀ s1 s2, K s1 s2 false h) (hK : ∀ o, o < l.length → cutL l = some (l.take o, l.drop (o + 1)) → K ⟨s.p, o, s.c⟩ ⟨sadr s.p s.c (o + 1) 1, s.n - (o + 1), s.c - (o + 1)⟩ true h) : C67 s ⟨some (bk b0), 1, 1⟩ h K := by
  intro w hw
  subst hw
  have hn := H.r.n
  have hc := H.r.c
  have ix : Calls Tryd.prog 74 #[.slice s.p s.n s.c, .slice (some (bk b0)) 1 1] w fun e w' => e = .returned (.int .i64 (Lib.indexByte l 0)) ∧ ∃ q, w' = w.drewN q := by
    have hb' : w.cell? ⟨b0, 0, none⟩ = some (.int .u8 0) := by rw [← cell_hp]; exact hb
    cases hp : s.p with
    | none =>
      have : l = [] := by
        cases l with
        | nil => rfl
        | cons x l => obtain ⟨a, ha, _⟩ := H.r.get (i := 0) (by simp); rw [hp] at ha; cases ha
      subst this
      have hn0 : s.n = 0 := by simpa using hn
      rw [hn0, H.a hp]
      refine (Tryd.bytes_Index_one_nil b0 0 1 0 w hb').mono ?_
      rintro e w' ⟨rfl, rfl⟩
      exact ⟨rfl, 0, rfl⟩
    | some a =>
      have e : Lib.bytesOf (l.map fun x => (x.toNat : Int)) = l := by
        unfold Lib.bytesOf
        rw [List.map_map]
        conv => rhs; rw [← List.map_id l]
        apply List.map_congr_left
        intro x _
        simp
      have := Tryd.bytes_Index_one_at a s.n s.c b0 0 1 (l.map fun x => (x.toNat : Int)) 0 w (by simp [hn]) (fun i hi => by
        have hil : i < l.length := by omega
        obtain ⟨a', ha, hc⟩ := H.r.get hil
        rw [hp] at ha; cases ha
        rw [cell_hp] at hc
        have : (l.map fun x => (x.toNat : Int)).getD i 0 = (l[i].toNat : Int) := by simp [List.getD, hil]
        rw [this]; exact hc) hb'
      rw [e] at this
      refine this.mono ?_
      rintro e w' ⟨rfl, rfl⟩
      exact ⟨rfl, 0, rfl⟩
  have hge := Lib.indexByte_ge l 0
  have hroom : 0 ≤ Lib.indexByte l 0 → Lib.indexByte l 0 + 1 ≤ s.n := by
    intro h0
    obtain ⟨o, ho⟩ := Int.eq_ofNat_of_zero_le h0
    obtain ⟨h1, _⟩ := Lib.indexByte_some ho
    have := (List.getElem?_eq_some_iff.1 h1).1
    omega
  refine (Tryd.bytes_Cut_of s.p (some (bk b0)) s.n s.c 1 1 (Lib.indexByte l 0) w hc hge hroom (by omega) ix).mono ?_
  rintro e w' ⟨rfl, q, rfl⟩
  refine ⟨_, rfl, ?_, Kp.refl _⟩
  unfold Lib.cutV
  by_cases h0 : 0 ≤ Lib.indexByte l 0
  · rw [if_pos h0]
    obtain ⟨o, ho⟩ := Int.eq_ofNat_of_zero_le h0
    obtain ⟨h1, h2⟩ := Lib.indexByte_some ho
    obtain ⟨hol, h1⟩ := List.getElem?_eq_some_iff.1 h1
    have hcut := cutL_at hol (fun j b hj hb e => h2 j hj (by rw [hb, e])) h1
    rw [ho]
    have ef : Lib.fromV s.p s.n s.c (o + 1) = .slice (sadr s.p s.c (o + 1) 1) (s.n - (o + 1)) (s.c - (o + 1)) := by
      unfold Lib.fromV sadr
      by_cases e : s.c = o + 1
      · rw [if_pos e, if_pos e]
      · rw [if_neg e, if_neg e, Nat.mul_one]
    rw [Int.toNat_natCast, ef]
    exact hK o hol hcut
  · rw [if_neg h0]
    refine hno (cutL_none fun b hb e => ?_) ⟨s.p, s.n, s.c⟩ ⟨none, 0, 0⟩
    obtain ⟨j, hj, rfl⟩ := List.getElem_of_mem hb
    exact Lib.indexByte_none (l := l) (c := 0) (by omega) j (by rw [List.getElem?_eq_getElem hj, e])

/-- a text and its zero are taken -/
theorem c_rtext {L : List Asn} {Q : Hp → Prop} {br : Nat} {s : Sl} {l : List UInt8} {h : Hp} {K : ByteArray → Int → Hp → Prop} (hs : Sat (L ++ [row br 65 [s.v]]) h) (hQ : ∀ h', Sat L h' → Q h') (H : ∀ h', Q h' → RdS h' s l) (hl : l.length ≤ 4611686018427387904)
    (hno : cutL l = none → ∀ h', Sat (L ++ [row br 65 [s.v]]) h' → K ⟨⟨[]⟩⟩ 5 h')
    (hK : ∀ x y s', cutL l = some (x, y) → (∀ h', Q h' → RdS h' s' y) → ∀ h', Sat (L ++ [row br 65 [s'.v]]) h' → K ⟨⟨x⟩⟩ 0 h') : C60 (some (bk br)) h K := by
  apply S60; unfold N60
  simp only [nn_some']
  refine hs.lL 0 rfl rfl ?_
  intro b0 e0
  have hs1 := hs.new e0 (.cells ⟨[.int .u8 0]⟩ 5 (0, 0))
  revert hs1
  generalize upd h b0 _ = h1
  intro hs1
  have hs1 : Sat (L ++ [row br 65 [s.v], row b0 5 [.int .u8 0]]) h1 := hs1
  have hb : cell h1 ⟨b0, 0, none⟩ = some (.int .u8 0) := by rw [(hs1.blk 1 rfl).cell]; rfl
  refine c_cutB (s := s) (H h1 (hQ h1 hs1.left)) hb hl ?_ ?_
  · intro hc _ _
    simp only [Bool.not_false, cond_true]
    exact hno hc h1 (hs1.sel [0] (by decide) rfl)
  · intro o ho hc
    simp only [Bool.not_true, cond_false]
    refine hs1.st 0 rfl (by simp) rfl ?_
    intro h2 hs2
    have hs2 : Sat (L ++ [row br 65 [(⟨sadr s.p s.c (o + 1) 1, s.n - (o + 1), s.c - (o + 1)⟩ : Sl).v], row b0 5 [.int .u8 0]]) h2 := hs2
    refine (rdb_head (H h2 (hQ h2 hs2.left)).r (o := o) (by omega)).b2s ?_
    exact hK _ _ _ hc (fun h' hs' => rds_tail (H h' hs') ho) h2 (hs2.sel [0] (by decide) rfl)

/-! ### a choice's value -/
theorem dec_some {l : List UInt8} : ∀ {a n : Nat}, Lib.decFrom a l = some n → ∀ b ∈ l, (Lib.digitVal b).isSome = true := by
  induction l with
  | nil => intro a n _ b hb; cases hb
  | cons c l ih =>
    intro a n h b hb
    simp only [Lib.decFrom] at h
    cases hd : Lib.digitVal c with
    | none => rw [hd] at h; cases h
    | some d =>
      rw [hd] at h
      rcases List.mem_cons.1 hb with rfl | hb
      · rw [hd]; rfl
      · exact ih h b hb
theorem dec_snoc {b : UInt8} {d : Nat} (hd : Lib.digitVal b = some d) : ∀ {l : List UInt8} {a n : Nat}, Lib.decFrom a l = some n → Lib.decFrom a (l ++ [b]) = some (n * 10 + d) := by
  intro l
  induction l with
  | nil => intro a n h; simp only [Lib.decFrom, Option.some.injEq] at h; subst h; simp [Lib.decFrom, hd]
  | cons c l ih =>
    intro a n h
    simp only [List.cons_append, Lib.decFrom] at h ⊢
    cases hc : Lib.digitVal c with
    | none => rw [hc] at h; cases h
    | some e => rw [hc] at h; exact ih h
theorem digit_of {d : Nat} (h : d < 10) : Lib.digitVal (UInt8.ofNat (48 + d)) = some d := by
  unfold Lib.digitVal
  have e : (UInt8.ofNat (48 + d)).toNat = 48 + d := by simp; omega
  rw [e, if_pos ⟨by omega, by omega⟩]
  congr 1; omega
theorem dec_digits : ∀ (u : Nat), Lib.decFrom 0 (Lib.decDigits u) = some u ∧ Lib.decDigits u ≠ [] := by
  intro u
  induction u using Nat.strongRecOn with
  | _ u ih =>
    by_cases h : u < 10
    · rw [Lib.decDigits, dif_pos h]
      refine ⟨?_, by simp⟩
      simp only [Lib.decFrom, digit_of h]
      congr 1; omega
    · rw [Lib.decDigits, dif_neg h]
      refine ⟨?_, by simp⟩
      have := dec_snoc (digit_of (d := u % 10) (by omega)) (ih (u / 10) (by omega)).1
      rw [this]; congr 1; omega
theorem dec_lt' {l : List UInt8} : ∀ {a n : Nat} {k : Nat}, a < 10 ^ k → Lib.decFrom a l = some n → n < 10 ^ (k + l.length) := by
  induction l with
  | nil => intro a n k h h2; simp only [Lib.decFrom, Option.some.injEq] at h2; subst h2; simpa using h
  | cons c l ih =>
    intro a n k h h2
    simp only [Lib.decFrom] at h2
    cases hd : Lib.digitVal c with
    | none => rw [hd] at h2; cases h2
    | some d =>
      rw [hd] at h2
      have hd9 : d ≤ 9 := by
        unfold Lib.digitVal at hd
        split at hd
        · cases hd; omega
        · cases hd
      have := ih (k := k + 1) (by rw [Nat.pow_succ]; omega) h2
      rw [List.length_cons]
      rw [show k + (l.length + 1) = k + 1 + l.length by omega]
      exact this
theorem digits_len : ∀ (k u : Nat), u < 10 ^ (k + 1) → (Lib.decDigits u).length ≤ k + 1
  | 0, u, h => by rw [Lib.decDigits, dif_pos (by simpa using h)]; simp
  | k + 1, u, h => by
    by_cases h1 : u < 10
    · rw [Lib.decDigits, dif_pos h1]; simp
    · rw [Lib.decDigits, dif_neg h1]
      have := digits_len k (u / 10) (Nat.div_lt_of_lt_mul (by rw [Nat.mul_comm, ← Nat.pow_succ]; exact h))
      simp; omega
/-- what a text says as a choice's value -/
def valL (l : List UInt8) : Option Nat := match Lib.decFrom 0 l with
  | some n => if Lib.decDigits n = l ∧ n ≤ 2147483647 then some n else none
  | none => none
theorem valL_some {l : List UInt8} {n : Nat} (h : valL l = some n) : Lib.decDigits n = l ∧ n ≤ 2147483647 ∧ Lib.decFrom 0 l = some n := by
  unfold valL at h
  split at h
  · rename_i m hm
    split at h
    · rename_i hc
      cases h
      exact ⟨hc.1, hc.2, hm⟩
    · cases h
  · cases h
theorem valL_of {n : Nat} (h : n ≤ 2147483647) : valL (Lib.decDigits n) = some n := by
  unfold valL
  rw [(dec_digits n).1]
  simp [h]
theorem valL_long {l : List UInt8} (h : 10 < l.length) : valL l = none := by
  cases hv : valL l with
  | none => rfl
  | some n =>
    obtain ⟨h1, h2, _⟩ := valL_some hv
    have := digits_len 9 n (by omega)
    rw [h1] at this; omega

theorem c_Value {l : List UInt8} {h : Hp} {K : Int → Bool → Hp → Prop} (hno : valL l = none → ∀ n h', Ext none' h h' → K n false h') (hK : ∀ n, valL l = some n → ∀ h', Ext none' h h' → K n true h') : C62 ⟨⟨l⟩⟩ h K := by
  apply S62; unfold N62 N62_l0
  have hsz : (⟨⟨l⟩⟩ : ByteArray).size = l.length := rfl
  refine loopP_inv (fun (x : Int × Int) hc => hc = h ∧ ∃ i m : Nat, x.2 = i ∧ x.1 = m ∧ i ≤ l.length ∧ i ≤ 10 ∧ Lib.decFrom 0 (l.take i) = some m) (fun x _ => l.length - x.2.toNat) ?_ ⟨rfl, 0, 0, rfl, rfl, Nat.zero_le _, by omega, rfl⟩
  rintro ⟨x, y⟩ hc ⟨rfl, i, m, hy, hx, hi, hi10, hd⟩
  have hy : y = i := hy
  have hx : x = m := hx
  subst hy; subst hx
  have hm : m < 10 ^ i := by
    have := dec_lt' (k := 0) (by decide) hd
    rw [List.length_take, Nat.min_eq_left hi] at this
    simpa using this
  have hm10 : m < 10000000000 := Nat.lt_of_lt_of_le hm (by have : 10 ^ i ≤ 10 ^ 10 := Nat.pow_le_pow_right (by decide) hi10; simpa using this)
  unfold N62_l0_B N62_l0_b
  simp only [hsz]
  have fin : ∀ (m : Nat), m < 10000000000 → (l.length ≤ i ∨ 10 ≤ i) → Lib.decFrom 0 (l.take i) = some m → C36 (m : Int) hc fun s0 h1 => bif (s0.toList == (⟨⟨l⟩⟩ : ByteArray).toList) then K m (decide ((m : Int) ≤ 2147483647)) h1 else K m false h1 := by
    intro m hm10 hend hd
    refine c_Decimal (by omega) ?_
    intro h' he
    rw [ba_list, ba_list]
    cases heq : (Lib.decDigits m == l) with
    | true =>
      have heq : Lib.decDigits m = l := by simpa using heq
      rw [cond_true]
      by_cases hle : m ≤ 2147483647
      · rw [decide_eq_true (by omega)]
        exact hK m (by rw [← heq]; exact valL_of hle) h' he
      · rw [decide_eq_false (by omega)]
        refine hno ?_ _ h' he
        unfold valL
        rw [← heq, (dec_digits m).1]
        simp [hle]
    | false =>
      have heq : ¬ Lib.decDigits m = l := by simpa using heq
      rw [cond_false]
      refine hno ?_ _ h' he
      rcases hend with hend | hend
      · rw [List.take_of_length_le hend] at hd
        unfold valL
        rw [hd]; simp [heq]
      · by_cases e : 10 < l.length
        · exact valL_long e
        · rw [List.take_of_length_le (by omega)] at hd
          unfold valL
          rw [hd]; simp [heq]
  by_cases hlt : i < l.length
  · rw [nat_lt' hlt, cond_true]
    by_cases h10 : i < 10
    · rw [show decide ((i : Int) < 10) = true from decide_eq_true (by omega), cond_true]
      have hsb : sbyte ⟨⟨l⟩⟩ (i : Int) = (l[i].toNat : Int) := by unfold sbyte; simp [hlt]
      have bad : ¬ (48 ≤ l[i].toNat ∧ l[i].toNat ≤ 57) → valL l = none := by
        intro hb
        cases hv : valL l with
        | none => rfl
        | some n =>
          have := dec_some (valL_some hv).2.2 l[i] (List.getElem_mem hlt)
          unfold Lib.digitVal at this
          rw [if_neg hb] at this; cases this
      refine idx_of (by omega) (by omega) ?_
      rw [hsb]
      by_cases c1 : l[i].toNat < 48
      · rw [decide_eq_true (by omega), cond_true]
        exact hno (bad (by omega)) 0 hc Ext.refl
      · rw [decide_eq_false (by omega), cond_false]
        refine idx_of (by omega) (by omega) ?_
        by_cases c2 : l[i].toNat > 57
        · rw [decide_eq_true (by omega), cond_true]
          exact hno (bad (by omega)) 0 hc Ext.refl
        · rw [decide_eq_false (by omega), cond_false]
          refine idx_of (by omega) (by omega) ?_
          have hdv : Lib.digitVal l[i] = some (l[i].toNat - 48) := by unfold Lib.digitVal; rw [if_pos ⟨by omega, by omega⟩]
          have e1 : IntKind.wrap .u8 (((l[i].toNat : Nat) : Int) - 48) = ((l[i].toNat - 48 : Nat) : Int) := by rw [wu8i (by omega) (by omega)]; omega
          rw [e1, wrap64 (n := ((l[i].toNat - 48 : Nat) : Int)) (by omega) (by omega), wrap64 (n := (m : Int) * 10) (by omega) (by omega), show IntKind.wrap .i64 ((i : Int) + 1) = ((i + 1 : Nat) : Int) from nat_succ64 (by omega), wrap64 (n := (m : Int) * 10 + ((l[i].toNat - 48 : Nat) : Int)) (by omega) (by omega)]
          refine ⟨⟨trivial, i + 1, m * 10 + (l[i].toNat - 48), rfl, by omega, hlt, h10, ?_⟩, by show l.length - ((i + 1 : Nat) : Int).toNat < l.length - (i : Int).toNat; omega⟩
          rw [List.take_add_one, List.getElem?_eq_getElem hlt]
          exact dec_snoc hdv hd
    · rw [show decide ((i : Int) < 10) = false from decide_eq_false (by omega), cond_false]
      exact fin m hm10 (.inr (by omega)) hd
  · rw [nat_ge' hlt, cond_false]
    exact fin m hm10 (.inl (by omega)) hd

theorem c_atoi {l : List UInt8} {h : Hp} {K : Int → Value → Hp → Prop} (G : Glob h) (hl : l.length ≤ 10)
    (hok : ∀ v, Lib.atoi l = some v → ∀ h', Ext none' h h' → K v .nilIface h') (hbad : Lib.atoi l = none → ∀ n t p h', Ext none' h h' → K n (.iface t p) h') : C73 ⟨⟨l⟩⟩ h K := by
  intro w hw
  subst hw
  have ht := Lib.atoiAll_short l (by omega)
  have hsz : (⟨⟨l⟩⟩ : ByteArray).size = l.length := rfl
  cases hv : Lib.atoi l with
  | some v =>
    rw [hv] at ht
    refine (Tryd.strconv_Atoi_ok ⟨⟨l⟩⟩ (by omega) v ht w).mono ?_
    rintro e w' ⟨rfl, hw'⟩
    have hx : Ext none' (hpOf w) (hpOf w') ∧ Kp w w' := by
      rcases hw' with rfl | ⟨t, rfl⟩
      · exact ⟨Ext.refl, Kp.refl _⟩
      · refine ⟨?_, ?_⟩
        · intro b o hb _
          have hlt : b < w.heap.size := (Array.getElem?_eq_some_iff.1 hb).1
          unfold Lib.bytesWorld
          rw [frzn_hp, frzn_ne (by show b ≠ w.heap.size; omega)]
          exact push_old (w := w.drew) hb
        · unfold Lib.bytesWorld World.freeze
          split <;> exact ⟨rfl, rfl⟩
    exact ⟨_, rfl, hok v hv _ hx.1, hx.2⟩
  | none =>
    rw [hv] at ht
    obtain ⟨te, pe, hc⟩ := G.syn
    refine (Any.strconv_Atoi_syntax Tryd.laysC172 ⟨⟨l⟩⟩ (by omega) ht (.iface te pe) w hc (.inr ⟨te, pe, rfl⟩)).mono ?_
    rintro e w' ⟨N, rfl, _, _, hb⟩
    exact ⟨_, rfl, hbad hv _ _ _ _ (ext_below (Nat.le_refl _) hb), kp_below hb⟩

theorem atoi_digits (m : Nat) : Lib.atoi (Lib.decDigits m) = some (m : Int) := by
  obtain ⟨h1, h2⟩ := dec_digits m
  have hall := dec_some h1
  cases hd : Lib.decDigits m with
  | nil => exact absurd hd h2
  | cons b r =>
    have hb := hall b (by rw [hd]; exact List.mem_cons_self ..)
    have hr : 48 ≤ b.toNat ∧ b.toNat ≤ 57 := by
      unfold Lib.digitVal at hb
      split at hb
      · assumption
      · cases hb
    have n45 : (b == 45) = false := by
      rw [beq_eq_false_iff_ne]; intro e; subst e
      have : (45 : UInt8).toNat = 45 := rfl
      omega
    have n43 : (b == 43) = false := by
      rw [beq_eq_false_iff_ne]; intro e; subst e
      have : (43 : UInt8).toNat = 43 := rfl
      omega
    rw [hd] at h1
    unfold Lib.atoi
    simp only [n45, n43, Bool.false_eq_true, if_false]
    unfold Lib.decNat
    simp [h1]
theorem valL_atoi {l : List UInt8} {m : Nat} (h : valL l = some m) : Lib.atoi l = some (m : Int) ∧ m ≤ 2147483647 ∧ Lib.itoa (m : Int) = l := by
  obtain ⟨h1, h2, _⟩ := valL_some h
  refine ⟨by rw [← h1]; exact atoi_digits m, h2, ?_⟩
  unfold Lib.itoa
  rw [if_neg (by omega), Int.toNat_natCast]; exact h1
theorem c_value {l : List UInt8} {h : Hp} {K : Int → Bool → Hp → Prop} (G : Glob h) (hno : valL l = none → ∀ n h', Ext none' h h' → K n false h') (hK : ∀ n, valL l = some n → ∀ h', Ext none' h h' → K n true h') : C66 ⟨⟨l⟩⟩ h K := by
  apply S66; unfold N66
  have hsz : (⟨⟨l⟩⟩ : ByteArray).size = l.length := rfl
  simp only [hsz]
  by_cases hlen : l.length > 10
  · rw [decide_eq_true (by omega), cond_true]
    exact hno (valL_long hlen) 0 h Ext.refl
  · rw [decide_eq_false (by omega), cond_false]
    refine c_atoi G (by omega) ?_ ?_
    · intro v hv h1 he
      simp only [ifn, cond_true]
      have none_of : (∀ m : Nat, v = m → m ≤ 2147483647 → Lib.itoa v ≠ l) → valL l = none := by
        intro hne
        cases hq : valL l with
        | none => rfl
        | some m =>
          obtain ⟨a1, a2, a3⟩ := valL_atoi hq
          rw [hv] at a1
          cases a1
          exact absurd a3 (hne m rfl a2)
      by_cases c1 : v ≥ 0
      · rw [decide_eq_true c1, cond_true]
        by_cases c2 : v ≤ 2147483647
        · rw [decide_eq_true c2, cond_true]
          obtain ⟨n, rfl⟩ := Int.eq_ofNat_of_zero_le c1
          refine c_itoa (G.ext he) (by omega) (by omega) ?_
          intro h2 he2
          rw [ba_list, ba_list]
          cases heq : (Lib.itoa (n : Int) == l) with
          | true =>
            have heq : Lib.itoa (n : Int) = l := by simpa using heq
            refine hK n ?_ h2 (he.trans he2)
            unfold Lib.itoa at heq
            rw [if_neg (by omega), Int.toNat_natCast] at heq
            rw [← heq]; exact valL_of (by omega)
          | false =>
            have heq : ¬ Lib.itoa (n : Int) = l := by simpa using heq
            exact hno (none_of fun m _ _ => heq) _ h2 (he.trans he2)
        · rw [decide_eq_false c2, cond_false]
          exact hno (none_of fun m e hm => by omega) _ h1 he
      · rw [decide_eq_false c1, cond_false]
        exact hno (none_of fun m e hm => by omega) _ h1 he
    · intro hv n t p h1 he
      simp only [ifn, cond_false]
      refine hno ?_ _ h1 he
      cases hq : valL l with
      | none => rfl
      | some m => rw [(valL_atoi hq).1] at hv; cases hv
end Go.Proofs.YtedklcmdjoojfaaDoor

set_option linter.unusedVariables false
set_option maxRecDepth 100000
namespace Go.Proofs.YtedklcmdjoojfaaDoor
open Go Go.Hw
/-! ### 44 slipway/tftp.known -/
noncomputable def B44 : Code := match Tryd.f44.body with | some c => c | none => .skip
def N44 (x0 : ByteArray) (h : Hp) (K : Bool → Hp → Prop) : Prop :=
  bif (x0.toList == (⟨⟨[98, 108, 107, 115, 105, 122, 101]⟩⟩ : ByteArray).toList) then
    K true h
  else
    bif (x0.toList == (⟨⟨[119, 105, 110, 100, 111, 119, 115, 105, 122, 101]⟩⟩ : ByteArray).toList) then
      K true h
    else
      K (x0.toList == (⟨⟨[116, 115, 105, 122, 101]⟩⟩ : ByteArray).toList) h
theorem S44 {x0 : ByteArray} {h : Hp} {K : Bool → Hp → Prop} (hn : N44 x0 h K) : C44 x0 h K := by
  refine calls_of_D Tryd.func44 (c := B44) rfl (by kernel_rfl) ?_
  refine den_sound hE hm _ .leaf _ _ _ (annOk_leaf) ?_
  refine cast ?_ hn
  kernel_rfl
end Go.Proofs.YtedklcmdjoojfaaDoor
