/-
  DERIVED: THE SHELF's CONTRACTS AT THIS DUMP, IN PLAIN WORDS (tools/lay-plain.mjs out of 'TrydShelf.lean', which tools/lay-shelf.mjs wrote): THE SAME DECLARATIONS UNDER THE SAME NAMES: 'import', 'namespace', 'open', 'def', 'theorem' AND NOTHING ELSE: no command of the shelf's: FOR A HAND-IN. Each laying: the table of numbers ('.._ren') and one theorem, a field a fact of the dump's own or the kernel's comparison; each contract: ONE APPLICATION.
-/
import Derived.Shelf.Strings.Builder1
import Derived.Shelf.Strings.Builder2
import Derived.Shelf.Strings.OnBuilder
import Derived.Shelf.Small.Bits
import Derived.Shelf.Small.Strs
import Derived.Shelf.Strconv.Itoa0
import Derived.Shelf.Strconv.Itoa1
import Derived.Shelf.LaysM
import Derived.Shelf.Strconv.Itoa2
import Derived.Shelf.Strconv.Itoa3
import Derived.Ground.MpProg
import Derived.Shelf.Pu.ParseUintPublic10
import Derived.Shelf.Pu.ErrVarParseUint
import Derived.Shelf.Strings.Search1
import Derived.Shelf.Strings.Search2
import Derived.Shelf.Strings.Search3
import Derived.Shelf.Strings.Count
import Derived.Shelf.Strings.Shaped
import Derived.Shelf.Strings.Split
import Derived.Shelf.Strings.SplitShaped
import Derived.Shelf.Unicode.DecodeSlow
import Derived.Test.YtlioifgejijcoaaDoorProg
import Derived.Test.YtlioifgejijcoaaDoorPd
import Derived.Lib.SplitLaws
import Derived.Lib.IndexBytes
import Derived.Lib.IndexLaws
import Derived.Lib.ItoaNum
import Derived.Lib.ParseIntB
import Derived.Lib.Join
import Derived.Laws.Strings
namespace Go.Proofs
open Go.Shelf
def Tryd.lays169_ren : Go.Shelf.Ren := ⟨fun | 169 => 63 | n => n, fun | 70 => 79 | 9 => 9 | 0 => 0 | 72 => 81 | 37 => 24 | 127 => 95 | 3 => 3 | 5 => 5 | n => n, fun | n => n⟩
theorem Tryd.lays169 : Go.Proofs.Lays.n169 Tryd.prog Tryd.lays169_ren := {
  mixed := by kernel_rfl
  f169 := Tryd.func63.trans (congrArg some (by kernel_rfl))
  t0 := Tryd.underlying0
  a0 := Tryd.isAgg0
  z0 := Tryd.sizeOf0
  v0 := Tryd.zeroValue0
  t3 := Tryd.underlying3
  a3 := Tryd.isAgg3
  z3 := Tryd.sizeOf3
  v3 := Tryd.zeroValue3
  t9 := Tryd.underlying9
  a9 := Tryd.isAgg9
  z9 := Tryd.sizeOf9
  v9 := Tryd.zeroValue9
  t37 := Tryd.underlying24
  a37 := Tryd.isAgg24
  z37 := Tryd.sizeOf24
  v37 := Tryd.zeroValue24
  t70 := Tryd.underlying79
  a70 := Tryd.isAgg79
  z70 := Tryd.sizeOf79
  v70 := Tryd.zeroValue79
  t72 := Tryd.underlying81
  a72 := Tryd.isAgg81
  z72 := Tryd.sizeOf81
  v72 := Tryd.zeroValue81
  t127 := Tryd.underlying95
  a127 := Tryd.isAgg95
  z127 := Tryd.sizeOf95
  v127 := Tryd.zeroValue95 }
theorem Tryd.Builder_Extra_169 : Builder.Extra Tryd.prog Tryd.lays169_ren := {
  sizeBuilder := by kernel_rfl
  liesBuilder := by kernel_rfl
  t5 := Tryd.underlying5
  a5 := Tryd.isAgg5
  z5 := Tryd.sizeOf5
  v5 := Tryd.zeroValue5
  infoByte := by kernel_rfl
  cellsByte := by kernel_rfl
  sizeByte := by kernel_rfl
  neB5 := by decide }
open Go.RowKit in
/-- (*strings.Builder).String: "String returns the accumulated string.": OF A BUILDER THAT HOLDS AT LEAST ONE BYTE. ✋ THE MODEL FREEZES THOSE BYTES IN THE BUFFER (unsafe.String): a later write INTO them ends the model's run without an answer; a later append BEHIND them goes on. The statement's order of evaluation is drawn: one draw. (LAID: no walk: one application.) -/
theorem Tryd.Builder_String (B b : Nat) (l : List UInt8) (w : World) (h : Lib.IsBuilder 81 5 B b (Lib.byteCells l) w) (h0 : l ≠ []) :
    Calls Tryd.prog 63 #[.pointer (some ⟨b, 0, none⟩)] w fun e w' => e = .returned (.string ⟨l.toArray⟩) ∧ Below B w w' := Any.Builder_String Tryd.lays169 Tryd.Builder_Extra_169 B b l w h h0
open Go.RowKit in
/-- (*strings.Builder).String OF A BUILDER THAT HOLDS NO BYTE: the empty string. (Its buffer is nil, or a row of which it has taken nothing yet; where that row has NO capacity the model lays one new block for unsafe.SliceData's 'some address'.) One draw. (LAID: no walk: one application.) -/
theorem Tryd.Builder_String_empty (B b : Nat) (w : World) (h : Lib.IsBuilder 81 5 B b [] w) (hBw : B ≤ w.heap.size) :
    Calls Tryd.prog 63 #[.pointer (some ⟨b, 0, none⟩)] w fun e w' => e = .returned (.string ⟨#[]⟩) ∧ Below B w w' := Any.Builder_String_empty Tryd.lays169 Tryd.Builder_Extra_169 B b w h hBw
open Go.RowKit in
/-- (*strings.Builder).String: "String returns the accumulated string.": WHATEVER THE BUILDER HOLDS. (LAID: no walk: one application.) -/
theorem Tryd.Builder_String_any (B b : Nat) (l : List UInt8) (w : World) (h : Lib.IsBuilder 81 5 B b (Lib.byteCells l) w) (hBw : B ≤ w.heap.size) :
    Calls Tryd.prog 63 #[.pointer (some ⟨b, 0, none⟩)] w fun e w' => e = .returned (.string ⟨l.toArray⟩) ∧ Below B w w' := Any.Builder_String_any Tryd.lays169 Tryd.Builder_Extra_169 B b l w h hBw
def Tryd.lays241_ren : Go.Shelf.Ren := ⟨fun | 241 => 77 | 277 => 89 | n => n, fun | 70 => 79 | 3 => 3 | 0 => 0 | 72 => 81 | 37 => 24 | 5 => 5 | n => n, fun | n => n⟩
theorem Tryd.lays241 : Go.Proofs.Lays.n241 Tryd.prog Tryd.lays241_ren := {
  mixed := by kernel_rfl
  f241 := Tryd.func77.trans (congrArg some (by kernel_rfl))
  f277 := Tryd.func89.trans (congrArg some (by kernel_rfl))
  t0 := Tryd.underlying0
  a0 := Tryd.isAgg0
  z0 := Tryd.sizeOf0
  v0 := Tryd.zeroValue0
  t3 := Tryd.underlying3
  a3 := Tryd.isAgg3
  z3 := Tryd.sizeOf3
  v3 := Tryd.zeroValue3
  t37 := Tryd.underlying24
  a37 := Tryd.isAgg24
  z37 := Tryd.sizeOf24
  v37 := Tryd.zeroValue24
  t70 := Tryd.underlying79
  a70 := Tryd.isAgg79
  z70 := Tryd.sizeOf79
  v70 := Tryd.zeroValue79
  t72 := Tryd.underlying81
  a72 := Tryd.isAgg81
  z72 := Tryd.sizeOf81
  v72 := Tryd.zeroValue81 }
theorem Tryd.Builder_Extra_241 : Builder.Extra Tryd.prog Tryd.lays241_ren := {
  sizeBuilder := by kernel_rfl
  liesBuilder := by kernel_rfl
  t5 := Tryd.underlying5
  a5 := Tryd.isAgg5
  z5 := Tryd.sizeOf5
  v5 := Tryd.zeroValue5
  infoByte := by kernel_rfl
  cellsByte := by kernel_rfl
  sizeByte := by kernel_rfl
  neB5 := by decide }
open Go.RowKit in
/-- (*strings.Builder).grow (no doc but "grow copies the buffer to a new, larger buffer so that there are at least n bytes of capacity beyond len(b.buf)."): AT A BUILDER WITHOUT A BUFFER: a new row of whatever bytes for its buffer, none of them its own yet. Three draws. (LAID: no walk: one application.) -/
theorem Tryd.Builder_grow_fresh (B b n : Nat) (w : World) (hB : B ≤ b) (hbk : w.heap[b]? = some (.cells #[.pointer (some ⟨b, 0, none⟩), .slice none 0 0] 81 (0, 0))) (hBw : B ≤ w.heap.size) (hn : n ≤ 281474976710656) :
    Calls Tryd.prog 77 #[.pointer (some ⟨b, 0, none⟩), .int .i64 n] w fun e w' => e = .returned (.tuple #[]) ∧ (Lib.BuilderAt 81 5 B b (.pointer (some ⟨b, 0, none⟩)) [] w' ∧ Below B w w') := Any.Builder_grow_fresh Tryd.lays241 Tryd.Builder_Extra_241 B b n w hB hbk hBw hn
def Tryd.lays165_ren : Go.Shelf.Ren := ⟨fun | 165 => 61 | 240 => 76 | 241 => 77 | 276 => 88 | 277 => 89 | n => n, fun | 70 => 79 | 3 => 3 | 0 => 0 | 4 => 4 | 9 => 9 | 20 => 20 | 72 => 81 | 37 => 24 | 164 => 108 | 5 => 5 | n => n, fun | n => n⟩
theorem Tryd.lays165 : Go.Proofs.Lays.n165 Tryd.prog Tryd.lays165_ren := {
  mixed := by kernel_rfl
  f165 := Tryd.func61.trans (congrArg some (by kernel_rfl))
  f240 := Tryd.func76.trans (congrArg some (by kernel_rfl))
  f241 := Tryd.func77.trans (congrArg some (by kernel_rfl))
  f276 := Tryd.func88.trans (congrArg some (by kernel_rfl))
  f277 := Tryd.func89.trans (congrArg some (by kernel_rfl))
  t0 := Tryd.underlying0
  a0 := Tryd.isAgg0
  z0 := Tryd.sizeOf0
  v0 := Tryd.zeroValue0
  t3 := Tryd.underlying3
  a3 := Tryd.isAgg3
  z3 := Tryd.sizeOf3
  v3 := Tryd.zeroValue3
  t4 := Tryd.underlying4
  a4 := Tryd.isAgg4
  z4 := Tryd.sizeOf4
  v4 := Tryd.zeroValue4
  t9 := Tryd.underlying9
  a9 := Tryd.isAgg9
  z9 := Tryd.sizeOf9
  v9 := Tryd.zeroValue9
  t20 := Tryd.underlying20
  a20 := Tryd.isAgg20
  z20 := Tryd.sizeOf20
  v20 := Tryd.zeroValue20
  t37 := Tryd.underlying24
  a37 := Tryd.isAgg24
  z37 := Tryd.sizeOf24
  v37 := Tryd.zeroValue24
  t70 := Tryd.underlying79
  a70 := Tryd.isAgg79
  z70 := Tryd.sizeOf79
  v70 := Tryd.zeroValue79
  t72 := Tryd.underlying81
  a72 := Tryd.isAgg81
  z72 := Tryd.sizeOf81
  v72 := Tryd.zeroValue81
  t164 := Tryd.underlying108
  a164 := Tryd.isAgg108
  z164 := Tryd.sizeOf108
  v164 := Tryd.zeroValue108 }
theorem Tryd.Builder_Extra_165 : Builder.Extra Tryd.prog Tryd.lays165_ren := {
  sizeBuilder := by kernel_rfl
  liesBuilder := by kernel_rfl
  t5 := Tryd.underlying5
  a5 := Tryd.isAgg5
  z5 := Tryd.sizeOf5
  v5 := Tryd.zeroValue5
  infoByte := by kernel_rfl
  cellsByte := by kernel_rfl
  sizeByte := by kernel_rfl
  neB5 := by decide }
open Go.RowKit in
/-- (*strings.Builder).Grow AT A BUILDER THAT HAS NOT BEEN WRITTEN ('var b strings.Builder; b.Grow(n)'): "Grow grows b's capacity, if necessary, to guarantee space for another n bytes.": it holds no byte behind it as before it. (LAID: no walk: one application.) -/
theorem Tryd.Builder_Grow_fresh (B b n : Nat) (w : World) (hB : B ≤ b) (hbk : w.heap[b]? = some (.cells #[.pointer none, .slice none 0 0] 81 (0, 0))) (hBw : B ≤ w.heap.size) (hn : n ≤ 281474976710656) :
    Calls Tryd.prog 61 #[.pointer (some ⟨b, 0, none⟩), .int .i64 n] w fun e w' => e = .returned (.tuple #[]) ∧ (Lib.BuilderAt 81 5 B b (.pointer (some ⟨b, 0, none⟩)) [] w' ∧ Below B w w') := Any.Builder_Grow_fresh Tryd.lays165 Tryd.Builder_Extra_165 B b n w hB hbk hBw hn
def Tryd.lays156_ren : Go.Shelf.Ren := ⟨fun | 156 => 53 | 165 => 61 | 166 => 62 | 169 => 63 | 240 => 76 | 241 => 77 | 276 => 88 | 277 => 89 | n => n, fun | 31 => 28 | 9 => 9 | 3 => 3 | 4 => 4 | 0 => 0 | 20 => 20 | 72 => 81 | 76 => 83 | 70 => 79 | 37 => 24 | 75 => 70 | 127 => 95 | 164 => 108 | 5 => 5 | 80 => 85 | n => n, fun | n => n⟩
theorem Tryd.lays156 : Go.Proofs.Lays.n156 Tryd.prog Tryd.lays156_ren := {
  mixed := by kernel_rfl
  f156 := Tryd.func53.trans (congrArg some (by kernel_rfl))
  f165 := Tryd.func61.trans (congrArg some (by kernel_rfl))
  f166 := Tryd.func62.trans (congrArg some (by kernel_rfl))
  f169 := Tryd.func63.trans (congrArg some (by kernel_rfl))
  f240 := Tryd.func76.trans (congrArg some (by kernel_rfl))
  f241 := Tryd.func77.trans (congrArg some (by kernel_rfl))
  f276 := Tryd.func88.trans (congrArg some (by kernel_rfl))
  f277 := Tryd.func89.trans (congrArg some (by kernel_rfl))
  t0 := Tryd.underlying0
  a0 := Tryd.isAgg0
  z0 := Tryd.sizeOf0
  v0 := Tryd.zeroValue0
  t3 := Tryd.underlying3
  a3 := Tryd.isAgg3
  z3 := Tryd.sizeOf3
  v3 := Tryd.zeroValue3
  t4 := Tryd.underlying4
  a4 := Tryd.isAgg4
  z4 := Tryd.sizeOf4
  v4 := Tryd.zeroValue4
  t9 := Tryd.underlying9
  a9 := Tryd.isAgg9
  z9 := Tryd.sizeOf9
  v9 := Tryd.zeroValue9
  t20 := Tryd.underlying20
  a20 := Tryd.isAgg20
  z20 := Tryd.sizeOf20
  v20 := Tryd.zeroValue20
  t31 := Tryd.underlying28
  a31 := Tryd.isAgg28
  z31 := Tryd.sizeOf28
  v31 := Tryd.zeroValue28
  t37 := Tryd.underlying24
  a37 := Tryd.isAgg24
  z37 := Tryd.sizeOf24
  v37 := Tryd.zeroValue24
  t70 := Tryd.underlying79
  a70 := Tryd.isAgg79
  z70 := Tryd.sizeOf79
  v70 := Tryd.zeroValue79
  t72 := Tryd.underlying81
  a72 := Tryd.isAgg81
  z72 := Tryd.sizeOf81
  v72 := Tryd.zeroValue81
  t75 := Tryd.underlying70
  a75 := Tryd.isAgg70
  z75 := Tryd.sizeOf70
  v75 := Tryd.zeroValue70
  t76 := Tryd.underlying83
  a76 := Tryd.isAgg83
  z76 := Tryd.sizeOf83
  v76 := Tryd.zeroValue83
  t127 := Tryd.underlying95
  a127 := Tryd.isAgg95
  z127 := Tryd.sizeOf95
  v127 := Tryd.zeroValue95
  t164 := Tryd.underlying108
  a164 := Tryd.isAgg108
  z164 := Tryd.sizeOf108
  v164 := Tryd.zeroValue108 }
theorem Tryd.Builder_Extra_156 : Builder.Extra Tryd.prog Tryd.lays156_ren := {
  sizeBuilder := by kernel_rfl
  liesBuilder := by kernel_rfl
  t5 := Tryd.underlying5
  a5 := Tryd.isAgg5
  z5 := Tryd.sizeOf5
  v5 := Tryd.zeroValue5
  infoByte := by kernel_rfl
  cellsByte := by kernel_rfl
  sizeByte := by kernel_rfl
  neB5 := by decide }
open Go.RowKit in
/-- No element: the empty string; the world is as it was. (Whatever the slice's address and capacity: a nil slice too.) (LAID: no walk: one application.) -/
theorem Tryd.strings_Join_none (a : Option Addr) (c : Nat) (sep : ByteArray) (w : World) :
    Calls Tryd.prog 53 #[.slice a 0 c, .string sep] w fun e w' => e = .returned (.string ⟨#[]⟩) ∧ w' = w := Any.strings_Join_none Tryd.lays156 Tryd.Builder_Extra_156 a c sep w
open Go.RowKit in
/-- strings.Join: "Join concatenates the elements of its first argument to create a single string. The separator string sep is placed between elements in the resulting string.": HOWEVER MANY ELEMENTS. Below the heap's end the world is as it was. (LAID: no walk: one application.) -/
theorem Tryd.strings_Join (bk o c : Nat) (xs : List ByteArray) (sep : ByteArray) (w : World) (hcells : ∀ (j : Nat) x, xs[j]? = some x → w.cell? ⟨bk, o + j, none⟩ = some (.string x)) (hbk : bk < w.heap.size) (hN : xs.length ≤ 140737488355328) (hcap : xs.length ≤ c) (hlen : (Lib.join (xs.map (·.data.toList)) sep.data.toList).length ≤ 140737488355328) :
    Calls Tryd.prog 53 #[.slice (some ⟨bk, o, none⟩) xs.length c, .string sep] w fun e w' => e = .returned (.string ⟨(Lib.join (xs.map (·.data.toList)) sep.data.toList).toArray⟩) ∧ Below w.heap.size w w' := Any.strings_Join Tryd.lays156 Tryd.Builder_Extra_156 bk o c xs sep w hcells hbk hN hcap hlen
def Tryd.lays128_ren : Go.Shelf.Ren := ⟨fun | 128 => 64 | n => n, fun | 51 => 47 | 3 => 3 | 4 => 4 | 46 => 40 | 5 => 5 | 9 => 9 | n => n, fun | n => n⟩
theorem Tryd.lays128 : Go.Proofs.Lays.n128 Tryd.prog Tryd.lays128_ren := {
  mixed := by kernel_rfl
  f128 := Tryd.func64.trans (congrArg some (by kernel_rfl))
  t3 := Tryd.underlying3
  a3 := Tryd.isAgg3
  z3 := Tryd.sizeOf3
  v3 := Tryd.zeroValue3
  t4 := Tryd.underlying4
  a4 := Tryd.isAgg4
  z4 := Tryd.sizeOf4
  v4 := Tryd.zeroValue4
  t5 := Tryd.underlying5
  a5 := Tryd.isAgg5
  z5 := Tryd.sizeOf5
  v5 := Tryd.zeroValue5
  t9 := Tryd.underlying9
  a9 := Tryd.isAgg9
  z9 := Tryd.sizeOf9
  v9 := Tryd.zeroValue9
  t46 := Tryd.underlying40
  a46 := Tryd.isAgg40
  z46 := Tryd.sizeOf40
  v46 := Tryd.zeroValue40
  t51 := Tryd.underlying47
  a51 := Tryd.isAgg47
  z51 := Tryd.sizeOf47
  v51 := Tryd.zeroValue47 }
/-- bits.Len32: "Len32 returns the minimum number of bits required to represent x; the result is 0 for x == 0.": IT RETURNS 'Lib.bitLen x'; the world is as it was. ('h0', 'h1': x is a uint32.) (LAID: no walk: one application.) -/
theorem Tryd.bits_Len32 (x : Int) (w : World) (h0 : 0 ≤ x) (h1 : x ≤ 4294967295) :
    Calls Tryd.prog 64 #[.int .u32 x] w fun e w' => e = .returned (.int .i64 (Lib.bitLen x.toNat)) ∧ w' = w := Any.bits_Len32 Tryd.lays128 x w h0 h1
def Tryd.lays133_ren : Go.Shelf.Ren := ⟨fun | 133 => 55 | 128 => 64 | n => n, fun | 51 => 47 | 3 => 3 | 4 => 4 | 46 => 40 | 5 => 5 | 9 => 9 | n => n, fun | n => n⟩
theorem Tryd.lays133 : Go.Proofs.Lays.n133 Tryd.prog Tryd.lays133_ren := {
  mixed := by kernel_rfl
  f128 := Tryd.func64.trans (congrArg some (by kernel_rfl))
  f133 := Tryd.func55.trans (congrArg some (by kernel_rfl))
  t3 := Tryd.underlying3
  a3 := Tryd.isAgg3
  z3 := Tryd.sizeOf3
  v3 := Tryd.zeroValue3
  t4 := Tryd.underlying4
  a4 := Tryd.isAgg4
  z4 := Tryd.sizeOf4
  v4 := Tryd.zeroValue4
  t5 := Tryd.underlying5
  a5 := Tryd.isAgg5
  z5 := Tryd.sizeOf5
  v5 := Tryd.zeroValue5
  t9 := Tryd.underlying9
  a9 := Tryd.isAgg9
  z9 := Tryd.sizeOf9
  v9 := Tryd.zeroValue9
  t46 := Tryd.underlying40
  a46 := Tryd.isAgg40
  z46 := Tryd.sizeOf40
  v46 := Tryd.zeroValue40
  t51 := Tryd.underlying47
  a51 := Tryd.isAgg47
  z51 := Tryd.sizeOf47
  v51 := Tryd.zeroValue47 }
/-- bits.LeadingZeros32: "LeadingZeros32 returns the number of leading zero bits in x; the result is 32 for x == 0.": IT RETURNS '32 - Lib.bitLen x'; the world is as it was. ITS CALLEE bits.Len32 IS MET BY ITS OWN CONTRACT OFF THE SHELF (lay that first): entered in place it sends the kernel out of memory. (LAID: no walk: one application.) -/
theorem Tryd.bits_LeadingZeros32 (x : Int) (w : World) (h0 : 0 ≤ x) (h1 : x ≤ 4294967295) :
    Calls Tryd.prog 55 #[.int .u32 x] w fun e w' => e = .returned (.int .i64 (32 - (Lib.bitLen x.toNat : Int))) ∧ w' = w := Any.bits_LeadingZeros32 Tryd.lays133 x w h0 h1
def Tryd.lays137_ren : Go.Shelf.Ren := ⟨fun | 137 => 51 | 217 => 60 | 266 => 75 | n => n, fun | 9 => 9 | 5 => 5 | 3 => 3 | n => n, fun | n => n⟩
theorem Tryd.lays137 : Go.Proofs.Lays.n137 Tryd.prog Tryd.lays137_ren := {
  mixed := by kernel_rfl
  f137 := Tryd.func51.trans (congrArg some (by kernel_rfl))
  f217 := Tryd.func60.trans (congrArg some (by kernel_rfl))
  f266 := Tryd.func75.trans (congrArg some (by kernel_rfl))
  t3 := Tryd.underlying3
  a3 := Tryd.isAgg3
  z3 := Tryd.sizeOf3
  v3 := Tryd.zeroValue3
  t5 := Tryd.underlying5
  a5 := Tryd.isAgg5
  z5 := Tryd.sizeOf5
  v5 := Tryd.zeroValue5
  t9 := Tryd.underlying9
  a9 := Tryd.isAgg9
  z9 := Tryd.sizeOf9
  v9 := Tryd.zeroValue9 }
open Go.RowKit in
/-- strings.IndexByte: "IndexByte returns the index of the first instance of c in s, or -1 if c is not present in s.": IT RETURNS 'Lib.indexByte s c'; the world is as it was. (LAID: no walk: one application.) -/
theorem Tryd.strings_IndexByte (s : ByteArray) (c : Int) (w : World) :
    Calls Tryd.prog 51 #[.string s, .int .u8 c] w fun e w' => e = .returned (.int .i64 (Lib.indexByte s.data.toList c.toNat.toUInt8)) ∧ w' = w := Any.strings_IndexByte Tryd.lays137 s c w
def Tryd.lays129_ren : Go.Shelf.Ren := ⟨fun | 129 => 95 | n => n, fun | 53 => 22 | 3 => 3 | 4 => 4 | 46 => 40 | 5 => 5 | 9 => 9 | n => n, fun | n => n⟩
theorem Tryd.lays129 : Go.Proofs.Lays.n129 Tryd.prog Tryd.lays129_ren := {
  mixed := by kernel_rfl
  f129 := Tryd.func95.trans (congrArg some (by kernel_rfl))
  t3 := Tryd.underlying3
  a3 := Tryd.isAgg3
  z3 := Tryd.sizeOf3
  v3 := Tryd.zeroValue3
  t4 := Tryd.underlying4
  a4 := Tryd.isAgg4
  z4 := Tryd.sizeOf4
  v4 := Tryd.zeroValue4
  t5 := Tryd.underlying5
  a5 := Tryd.isAgg5
  z5 := Tryd.sizeOf5
  v5 := Tryd.zeroValue5
  t9 := Tryd.underlying9
  a9 := Tryd.isAgg9
  z9 := Tryd.sizeOf9
  v9 := Tryd.zeroValue9
  t46 := Tryd.underlying40
  a46 := Tryd.isAgg40
  z46 := Tryd.sizeOf40
  v46 := Tryd.zeroValue40
  t53 := Tryd.underlying22
  a53 := Tryd.isAgg22
  z53 := Tryd.sizeOf22
  v53 := Tryd.zeroValue22 }
/-- bits.Len64: "Len64 returns the minimum number of bits required to represent x; the result is 0 for x == 0.": IT RETURNS 'Lib.bitLen x'; the world is as it was. ('h0', 'h1': x is a uint64.) (LAID: no walk: one application.) -/
theorem Tryd.bits_Len64 (x : Int) (w : World) (h0 : 0 ≤ x) (h1 : x ≤ 18446744073709551615) :
    Calls Tryd.prog 95 #[.int .u64 x] w fun e w' => e = .returned (.int .i64 (Lib.bitLen x.toNat)) ∧ w' = w := Any.bits_Len64 Tryd.lays129 x w h0 h1
def Tryd.lays317_ren : Go.Shelf.Ren := ⟨fun | 317 => 94 | n => n, fun | 3 => 3 | 46 => 40 | n => n, fun | n => n⟩
theorem Tryd.lays317 : Go.Proofs.Lays.n317 Tryd.prog Tryd.lays317_ren := {
  mixed := by kernel_rfl
  f317 := Tryd.func94.trans (congrArg some (by kernel_rfl))
  t3 := Tryd.underlying3
  a3 := Tryd.isAgg3
  z3 := Tryd.sizeOf3
  v3 := Tryd.zeroValue3
  t46 := Tryd.underlying40
  a46 := Tryd.isAgg40
  z46 := Tryd.sizeOf40
  v46 := Tryd.zeroValue40 }
open Go.Lib in
/-- internal/strconv.log10Pow2: "log10Pow2(x) returns ⌊log₁₀ 2**x⌋ = ⌊x * log₁₀ 2⌋.": '(x * 78913) >> 18', at an x up to 64 (a length in bits). The world is as it was. (LAID: no walk: one application.) -/
theorem Tryd.internal_strconv_log10Pow2 (x : Nat) (h : x ≤ 64) (w : World) :
    Calls Tryd.prog 94 #[.int .i64 x] w fun e w' => e = .returned (.int .i64 (Lib.l10 x)) ∧ w' = w := Any.internal_strconv_log10Pow2 Tryd.lays317 x h w
def Tryd.lays318_ren : Go.Shelf.Ren := ⟨fun | 318 => 96 | n => n, fun | 3 => 3 | 4 => 4 | n => n, fun | n => n⟩
theorem Tryd.lays318 : Go.Proofs.Lays.n318 Tryd.prog Tryd.lays318_ren := {
  mixed := by kernel_rfl
  f318 := Tryd.func96.trans (congrArg some (by kernel_rfl))
  t3 := Tryd.underlying3
  a3 := Tryd.isAgg3
  z3 := Tryd.sizeOf3
  v3 := Tryd.zeroValue3
  t4 := Tryd.underlying4
  a4 := Tryd.isAgg4
  z4 := Tryd.sizeOf4
  v4 := Tryd.zeroValue4 }
open Go.Lib in
/-- internal/strconv.bool2: "bool2 converts b to an integer: 1 for true, 0 for false." The world is as it was. (LAID: no walk: one application.) -/
theorem Tryd.internal_strconv_bool2_int (b : Bool) (w : World) :
    Calls Tryd.prog 96 #[.bool b] w fun e w' => e = .returned (.int .i64 (if b then 1 else 0)) ∧ w' = w := Any.internal_strconv_bool2_int Tryd.lays318 b w
def Tryd.lays283_ren : Go.Shelf.Ren := ⟨fun | 283 => 84 | n => n, fun | 3 => 3 | 9 => 9 | 4 => 4 | n => n, fun | n => n⟩
theorem Tryd.lays283 : Go.Proofs.Lays.n283 Tryd.prog Tryd.lays283_ren := {
  mixed := by kernel_rfl
  f283 := Tryd.func84.trans (congrArg some (by kernel_rfl))
  t3 := Tryd.underlying3
  a3 := Tryd.isAgg3
  z3 := Tryd.sizeOf3
  v3 := Tryd.zeroValue3
  t4 := Tryd.underlying4
  a4 := Tryd.isAgg4
  z4 := Tryd.sizeOf4
  v4 := Tryd.zeroValue4
  t9 := Tryd.underlying9
  a9 := Tryd.isAgg9
  z9 := Tryd.sizeOf9
  v9 := Tryd.zeroValue9 }
open Go.Lib in
/-- internal/strconv.small: "small returns the string for an i with 0 <= i < nSmalls.": i's decimal numeral. The world is as it was. (LAID: no walk: one application.) -/
theorem Tryd.internal_strconv_small (i : Nat) (h : i < 100) (w : World) :
    Calls Tryd.prog 84 #[.int .i64 i] w fun e w' => e = .returned (.string ⟨(Lib.decDigits i).toArray⟩) ∧ w' = w := Any.internal_strconv_small Tryd.lays283 i h w
def Tryd.laysM284_ren : Go.Shelf.Ren := ⟨fun | 284 => 85 | 129 => 95 | 317 => 94 | 318 => 96 | n => n, fun | 53 => 22 | 3 => 3 | 212 => 116 | 0 => 0 | 4 => 4 | 46 => 40 | 5 => 5 | 9 => 9 | n => n, fun | 17 => 3 | n => n⟩
theorem Tryd.laysM284 : Go.Proofs.LaysM.n284 Tryd.prog Tryd.laysM284_ren := {
  mixed := by kernel_rfl
  f129 := Tryd.func95.trans (congrArg some (by kernel_rfl))
  f284 := Tryd.func85.trans (congrArg some (by kernel_rfl))
  f317 := Tryd.func94.trans (congrArg some (by kernel_rfl))
  f318 := Tryd.func96.trans (congrArg some (by kernel_rfl))
  t0 := Tryd.underlying0
  a0 := Tryd.isAgg0
  z0 := Tryd.sizeOf0
  v0 := Tryd.zeroValue0
  t3 := Tryd.underlying3
  a3 := Tryd.isAgg3
  z3 := Tryd.sizeOf3
  v3 := Tryd.zeroValue3
  t4 := Tryd.underlying4
  a4 := Tryd.isAgg4
  z4 := Tryd.sizeOf4
  v4 := Tryd.zeroValue4
  t5 := Tryd.underlying5
  a5 := Tryd.isAgg5
  z5 := Tryd.sizeOf5
  v5 := Tryd.zeroValue5
  t9 := Tryd.underlying9
  a9 := Tryd.isAgg9
  z9 := Tryd.sizeOf9
  v9 := Tryd.zeroValue9
  t46 := Tryd.underlying40
  a46 := Tryd.isAgg40
  z46 := Tryd.sizeOf40
  v46 := Tryd.zeroValue40
  t53 := Tryd.underlying22
  a53 := Tryd.isAgg22
  z53 := Tryd.sizeOf22
  v53 := Tryd.zeroValue22
  t212 := Tryd.underlying116
  a212 := Tryd.isAgg116
  z212 := Tryd.sizeOf116
  v212 := Tryd.zeroValue116
  g17 := by kernel_rfl
  i0 := by kernel_rfl
  i3 := by kernel_rfl
  i4 := by kernel_rfl
  i5 := by kernel_rfl
  i9 := by kernel_rfl
  i46 := by kernel_rfl
  i53 := by kernel_rfl
  i212 := by kernel_rfl
  m17 := by kernel_rfl }
open Go.Lib in
/-- internal/strconv.numDigits, at a d that is not 0: THE NUMBER OF d's DECIMAL DIGITS. The world is as it was. (LAID: no walk: one application.) -/
theorem Tryd.internal_strconv_numDigits (u : Nat) (h1 : 1 ≤ u) (h2 : u < 18446744073709551616) (w : World) (htab : Lib.TabIs Tryd.prog w "internal/strconv.uint64pow10" .u64 Lib.pow10Tab) :
    Calls Tryd.prog 85 #[.int .u64 u] w fun e w' => e = .returned (.int .i64 (Lib.nDigits u)) ∧ w' = w := Any.internal_strconv_numDigits Tryd.laysM284 u h1 h2 w htab
def Tryd.lays285_ren : Go.Shelf.Ren := ⟨fun | 285 => 86 | n => n, fun | 37 => 24 | 53 => 22 | 3 => 3 | 4 => 4 | 51 => 47 | 9 => 9 | 5 => 5 | 0 => 0 | n => n, fun | n => n⟩
theorem Tryd.lays285 : Go.Proofs.Lays.n285 Tryd.prog Tryd.lays285_ren := {
  mixed := by kernel_rfl
  f285 := Tryd.func86.trans (congrArg some (by kernel_rfl))
  t0 := Tryd.underlying0
  a0 := Tryd.isAgg0
  z0 := Tryd.sizeOf0
  v0 := Tryd.zeroValue0
  t3 := Tryd.underlying3
  a3 := Tryd.isAgg3
  z3 := Tryd.sizeOf3
  v3 := Tryd.zeroValue3
  t4 := Tryd.underlying4
  a4 := Tryd.isAgg4
  z4 := Tryd.sizeOf4
  v4 := Tryd.zeroValue4
  t5 := Tryd.underlying5
  a5 := Tryd.isAgg5
  z5 := Tryd.sizeOf5
  v5 := Tryd.zeroValue5
  t9 := Tryd.underlying9
  a9 := Tryd.isAgg9
  z9 := Tryd.sizeOf9
  v9 := Tryd.zeroValue9
  t37 := Tryd.underlying24
  a37 := Tryd.isAgg24
  z37 := Tryd.sizeOf24
  v37 := Tryd.zeroValue24
  t51 := Tryd.underlying47
  a51 := Tryd.isAgg47
  z51 := Tryd.sizeOf47
  v51 := Tryd.zeroValue47
  t53 := Tryd.underlying22
  a53 := Tryd.isAgg22
  z53 := Tryd.sizeOf22
  v53 := Tryd.zeroValue22 }
open Go.RowKit Go.Sort Go.Lib in
/-- internal/strconv.formatBase10: "formatBase10 formats the decimal representation of u into a. The caller is responsible for ensuring that a is big enough to hold u. If a is too big, leading zeros will be filled in as needed.": THE ROW HOLDS u's DIGITS ('FmtInv .. 0 ..': every place t holds 'dg u (len - 1 - t)'); all else is as it was but for the count of draws. (LAID: no walk: one application.) -/
theorem Tryd.internal_strconv_formatBase10 (blk off cap : Nat) (u : Nat) (d : Array UInt8) (w : World) (hH : Holds (fun (b : UInt8) => Value.int .u8 (b.toNat : Int)) w blk off d) (hu : u < 10 ^ d.size) (hu64 : u < 18446744073709551616) (hsz : d.size < 4611686018427387904) :
    Calls Tryd.prog 86 #[.slice (some ⟨blk, off, none⟩) d.size cap, .int .u64 u] w fun e w' =>
      e = .returned (.tuple #[]) ∧ ∃ (n v' : Nat) (dk : Array UInt8), w' = (putRow (fun (b : UInt8) => Value.int .u8 (b.toNat : Int)) w blk off dk).drewN n ∧ FmtInv d.size u 0 v' dk := Any.internal_strconv_formatBase10 Tryd.lays285 blk off cap u d w hH hu hu64 hsz
def Tryd.laysM246_ren : Go.Shelf.Ren := ⟨fun | 246 => 74 | 283 => 84 | 284 => 85 | 285 => 86 | 286 => 87 | 129 => 95 | 317 => 94 | 318 => 96 | 319 => 97 | 320 => 98 | 337 => 100 | 338 => 101 | n => n, fun | 2 => 2 | 3 => 3 | 9 => 9 | 4 => 4 | 171 => 103 | 0 => 0 | 53 => 22 | 37 => 24 | 5 => 5 | 173 => 106 | 212 => 116 | 51 => 47 | 20 => 20 | 213 => 117 | 46 => 40 | 232 => 126 | 233 => 127 | n => n, fun | 17 => 3 | 18 => 6 | 19 => 7 | n => n⟩
theorem Tryd.laysM246 : Go.Proofs.LaysM.n246 Tryd.prog Tryd.laysM246_ren := {
  mixed := by kernel_rfl
  f129 := Tryd.func95.trans (congrArg some (by kernel_rfl))
  f246 := Tryd.func74.trans (congrArg some (by kernel_rfl))
  f283 := Tryd.func84.trans (congrArg some (by kernel_rfl))
  f284 := Tryd.func85.trans (congrArg some (by kernel_rfl))
  f285 := Tryd.func86.trans (congrArg some (by kernel_rfl))
  f286 := Tryd.func87.trans (congrArg some (by kernel_rfl))
  f317 := Tryd.func94.trans (congrArg some (by kernel_rfl))
  f318 := Tryd.func96.trans (congrArg some (by kernel_rfl))
  f319 := Tryd.func97.trans (congrArg some (by kernel_rfl))
  f320 := Tryd.func98.trans (congrArg some (by kernel_rfl))
  f337 := Tryd.func100.trans (congrArg some (by kernel_rfl))
  f338 := Tryd.func101.trans (congrArg some (by kernel_rfl))
  t0 := Tryd.underlying0
  a0 := Tryd.isAgg0
  z0 := Tryd.sizeOf0
  v0 := Tryd.zeroValue0
  t2 := Tryd.underlying2
  a2 := Tryd.isAgg2
  z2 := Tryd.sizeOf2
  v2 := Tryd.zeroValue2
  t3 := Tryd.underlying3
  a3 := Tryd.isAgg3
  z3 := Tryd.sizeOf3
  v3 := Tryd.zeroValue3
  t4 := Tryd.underlying4
  a4 := Tryd.isAgg4
  z4 := Tryd.sizeOf4
  v4 := Tryd.zeroValue4
  t5 := Tryd.underlying5
  a5 := Tryd.isAgg5
  z5 := Tryd.sizeOf5
  v5 := Tryd.zeroValue5
  t9 := Tryd.underlying9
  a9 := Tryd.isAgg9
  z9 := Tryd.sizeOf9
  v9 := Tryd.zeroValue9
  t20 := Tryd.underlying20
  a20 := Tryd.isAgg20
  z20 := Tryd.sizeOf20
  v20 := Tryd.zeroValue20
  t37 := Tryd.underlying24
  a37 := Tryd.isAgg24
  z37 := Tryd.sizeOf24
  v37 := Tryd.zeroValue24
  t46 := Tryd.underlying40
  a46 := Tryd.isAgg40
  z46 := Tryd.sizeOf40
  v46 := Tryd.zeroValue40
  t51 := Tryd.underlying47
  a51 := Tryd.isAgg47
  z51 := Tryd.sizeOf47
  v51 := Tryd.zeroValue47
  t53 := Tryd.underlying22
  a53 := Tryd.isAgg22
  z53 := Tryd.sizeOf22
  v53 := Tryd.zeroValue22
  t171 := Tryd.underlying103
  a171 := Tryd.isAgg103
  z171 := Tryd.sizeOf103
  v171 := Tryd.zeroValue103
  t173 := Tryd.underlying106
  a173 := Tryd.isAgg106
  z173 := Tryd.sizeOf106
  v173 := Tryd.zeroValue106
  t212 := Tryd.underlying116
  a212 := Tryd.isAgg116
  z212 := Tryd.sizeOf116
  v212 := Tryd.zeroValue116
  t213 := Tryd.underlying117
  a213 := Tryd.isAgg117
  z213 := Tryd.sizeOf117
  t232 := Tryd.underlying126
  a232 := Tryd.isAgg126
  z232 := Tryd.sizeOf126
  v232 := Tryd.zeroValue126
  t233 := Tryd.underlying127
  a233 := Tryd.isAgg127
  z233 := Tryd.sizeOf127
  v233 := Tryd.zeroValue127
  g17 := by kernel_rfl
  g18 := by kernel_rfl
  g19 := by kernel_rfl
  i0 := by kernel_rfl
  i2 := by kernel_rfl
  i3 := by kernel_rfl
  i4 := by kernel_rfl
  i5 := by kernel_rfl
  i9 := by kernel_rfl
  i20 := by kernel_rfl
  i37 := by kernel_rfl
  i46 := by kernel_rfl
  i51 := by kernel_rfl
  i53 := by kernel_rfl
  i171 := by kernel_rfl
  i173 := by kernel_rfl
  i212 := by kernel_rfl
  i232 := by kernel_rfl
  i233 := by kernel_rfl
  m17 := by kernel_rfl
  m18 := by kernel_rfl
  m19 := by kernel_rfl }
open Go.RowKit Go.Sort Go.Lib in
/-- internal/strconv.FormatInt: "FormatInt returns the string representation of i in the given base": AT BASE 10: i's decimal numeral, for every int64. The world behind the call: the world before it, new blocks behind the heap, draws. (LAID: no walk: one application.) -/
theorem Tryd.internal_strconv_FormatInt_10 (n : Int) (h0 : -9223372036854775808 ≤ n) (h1 : n ≤ 9223372036854775807) (w : World) (htab : Lib.TabIs Tryd.prog w "internal/strconv.uint64pow10" .u64 Lib.pow10Tab) :
    Calls Tryd.prog 74 #[.int .i64 n, .int .i64 10] w fun e w' => e = .returned (.string ⟨(Lib.itoa n).toArray⟩) ∧ ∃ k os, w' = grow (w.drewN k) os := Any.internal_strconv_FormatInt_10 Tryd.laysM246 n h0 h1 w htab
def Tryd.lays246_ren : Go.Shelf.Ren := ⟨fun | 246 => 74 | 283 => 84 | 284 => 85 | 285 => 86 | 286 => 87 | 129 => 95 | 317 => 94 | 318 => 96 | 319 => 97 | 320 => 98 | 337 => 100 | 338 => 101 | n => n, fun | 2 => 2 | 3 => 3 | 9 => 9 | 4 => 4 | 171 => 103 | 0 => 0 | 53 => 22 | 37 => 24 | 5 => 5 | 173 => 106 | 212 => 116 | 51 => 47 | 20 => 20 | 213 => 117 | 46 => 40 | 232 => 126 | 233 => 127 | n => n, fun | 17 => 3 | 18 => 6 | 19 => 7 | n => n⟩
theorem Tryd.lays246 : Go.Proofs.Lays.n246 Tryd.prog Tryd.lays246_ren := {
  mixed := by kernel_rfl
  f129 := Tryd.func95.trans (congrArg some (by kernel_rfl))
  f246 := Tryd.func74.trans (congrArg some (by kernel_rfl))
  f283 := Tryd.func84.trans (congrArg some (by kernel_rfl))
  f284 := Tryd.func85.trans (congrArg some (by kernel_rfl))
  f285 := Tryd.func86.trans (congrArg some (by kernel_rfl))
  f286 := Tryd.func87.trans (congrArg some (by kernel_rfl))
  f317 := Tryd.func94.trans (congrArg some (by kernel_rfl))
  f318 := Tryd.func96.trans (congrArg some (by kernel_rfl))
  f319 := Tryd.func97.trans (congrArg some (by kernel_rfl))
  f320 := Tryd.func98.trans (congrArg some (by kernel_rfl))
  f337 := Tryd.func100.trans (congrArg some (by kernel_rfl))
  f338 := Tryd.func101.trans (congrArg some (by kernel_rfl))
  t0 := Tryd.underlying0
  a0 := Tryd.isAgg0
  z0 := Tryd.sizeOf0
  v0 := Tryd.zeroValue0
  t2 := Tryd.underlying2
  a2 := Tryd.isAgg2
  z2 := Tryd.sizeOf2
  v2 := Tryd.zeroValue2
  t3 := Tryd.underlying3
  a3 := Tryd.isAgg3
  z3 := Tryd.sizeOf3
  v3 := Tryd.zeroValue3
  t4 := Tryd.underlying4
  a4 := Tryd.isAgg4
  z4 := Tryd.sizeOf4
  v4 := Tryd.zeroValue4
  t5 := Tryd.underlying5
  a5 := Tryd.isAgg5
  z5 := Tryd.sizeOf5
  v5 := Tryd.zeroValue5
  t9 := Tryd.underlying9
  a9 := Tryd.isAgg9
  z9 := Tryd.sizeOf9
  v9 := Tryd.zeroValue9
  t20 := Tryd.underlying20
  a20 := Tryd.isAgg20
  z20 := Tryd.sizeOf20
  v20 := Tryd.zeroValue20
  t37 := Tryd.underlying24
  a37 := Tryd.isAgg24
  z37 := Tryd.sizeOf24
  v37 := Tryd.zeroValue24
  t46 := Tryd.underlying40
  a46 := Tryd.isAgg40
  z46 := Tryd.sizeOf40
  v46 := Tryd.zeroValue40
  t51 := Tryd.underlying47
  a51 := Tryd.isAgg47
  z51 := Tryd.sizeOf47
  v51 := Tryd.zeroValue47
  t53 := Tryd.underlying22
  a53 := Tryd.isAgg22
  z53 := Tryd.sizeOf22
  v53 := Tryd.zeroValue22
  t171 := Tryd.underlying103
  a171 := Tryd.isAgg103
  z171 := Tryd.sizeOf103
  v171 := Tryd.zeroValue103
  t173 := Tryd.underlying106
  a173 := Tryd.isAgg106
  z173 := Tryd.sizeOf106
  v173 := Tryd.zeroValue106
  t212 := Tryd.underlying116
  a212 := Tryd.isAgg116
  z212 := Tryd.sizeOf116
  v212 := Tryd.zeroValue116
  t213 := Tryd.underlying117
  a213 := Tryd.isAgg117
  z213 := Tryd.sizeOf117
  t232 := Tryd.underlying126
  a232 := Tryd.isAgg126
  z232 := Tryd.sizeOf126
  v232 := Tryd.zeroValue126
  t233 := Tryd.underlying127
  a233 := Tryd.isAgg127
  z233 := Tryd.sizeOf127
  v233 := Tryd.zeroValue127
  g17 := by kernel_rfl
  g18 := by kernel_rfl
  g19 := by kernel_rfl }
open Go.RowKit Go.Sort Go.Lib in
/-- THE ROAD WITHOUT THE TABLE: 0 <= i < 100: two constants are read, nothing is laid: no premise on the world, and the world is as it was. (LAID: no walk: one application.) -/
theorem Tryd.internal_strconv_FormatInt_10_small (i : Nat) (hi : i < 100) (w : World) :
    Calls Tryd.prog 74 #[.int .i64 i, .int .i64 10] w fun e w' => e = .returned (.string ⟨(Lib.decDigits i).toArray⟩) ∧ w' = w := Any.internal_strconv_FormatInt_10_small Tryd.lays246 i hi w
def Tryd.laysM243_ren : Go.Shelf.Ren := ⟨fun | 243 => 59 | 246 => 74 | 283 => 84 | 284 => 85 | 285 => 86 | 286 => 87 | 129 => 95 | 317 => 94 | 318 => 96 | 319 => 97 | 320 => 98 | 337 => 100 | 338 => 101 | n => n, fun | 3 => 3 | 9 => 9 | 2 => 2 | 4 => 4 | 171 => 103 | 0 => 0 | 53 => 22 | 37 => 24 | 5 => 5 | 173 => 106 | 212 => 116 | 51 => 47 | 20 => 20 | 213 => 117 | 46 => 40 | 232 => 126 | 233 => 127 | n => n, fun | 17 => 3 | 18 => 6 | 19 => 7 | n => n⟩
theorem Tryd.laysM243 : Go.Proofs.LaysM.n243 Tryd.prog Tryd.laysM243_ren := {
  mixed := by kernel_rfl
  f129 := Tryd.func95.trans (congrArg some (by kernel_rfl))
  f243 := Tryd.func59.trans (congrArg some (by kernel_rfl))
  f246 := Tryd.func74.trans (congrArg some (by kernel_rfl))
  f283 := Tryd.func84.trans (congrArg some (by kernel_rfl))
  f284 := Tryd.func85.trans (congrArg some (by kernel_rfl))
  f285 := Tryd.func86.trans (congrArg some (by kernel_rfl))
  f286 := Tryd.func87.trans (congrArg some (by kernel_rfl))
  f317 := Tryd.func94.trans (congrArg some (by kernel_rfl))
  f318 := Tryd.func96.trans (congrArg some (by kernel_rfl))
  f319 := Tryd.func97.trans (congrArg some (by kernel_rfl))
  f320 := Tryd.func98.trans (congrArg some (by kernel_rfl))
  f337 := Tryd.func100.trans (congrArg some (by kernel_rfl))
  f338 := Tryd.func101.trans (congrArg some (by kernel_rfl))
  t0 := Tryd.underlying0
  a0 := Tryd.isAgg0
  z0 := Tryd.sizeOf0
  v0 := Tryd.zeroValue0
  t2 := Tryd.underlying2
  a2 := Tryd.isAgg2
  z2 := Tryd.sizeOf2
  v2 := Tryd.zeroValue2
  t3 := Tryd.underlying3
  a3 := Tryd.isAgg3
  z3 := Tryd.sizeOf3
  v3 := Tryd.zeroValue3
  t4 := Tryd.underlying4
  a4 := Tryd.isAgg4
  z4 := Tryd.sizeOf4
  v4 := Tryd.zeroValue4
  t5 := Tryd.underlying5
  a5 := Tryd.isAgg5
  z5 := Tryd.sizeOf5
  v5 := Tryd.zeroValue5
  t9 := Tryd.underlying9
  a9 := Tryd.isAgg9
  z9 := Tryd.sizeOf9
  v9 := Tryd.zeroValue9
  t20 := Tryd.underlying20
  a20 := Tryd.isAgg20
  z20 := Tryd.sizeOf20
  v20 := Tryd.zeroValue20
  t37 := Tryd.underlying24
  a37 := Tryd.isAgg24
  z37 := Tryd.sizeOf24
  v37 := Tryd.zeroValue24
  t46 := Tryd.underlying40
  a46 := Tryd.isAgg40
  z46 := Tryd.sizeOf40
  v46 := Tryd.zeroValue40
  t51 := Tryd.underlying47
  a51 := Tryd.isAgg47
  z51 := Tryd.sizeOf47
  v51 := Tryd.zeroValue47
  t53 := Tryd.underlying22
  a53 := Tryd.isAgg22
  z53 := Tryd.sizeOf22
  v53 := Tryd.zeroValue22
  t171 := Tryd.underlying103
  a171 := Tryd.isAgg103
  z171 := Tryd.sizeOf103
  v171 := Tryd.zeroValue103
  t173 := Tryd.underlying106
  a173 := Tryd.isAgg106
  z173 := Tryd.sizeOf106
  v173 := Tryd.zeroValue106
  t212 := Tryd.underlying116
  a212 := Tryd.isAgg116
  z212 := Tryd.sizeOf116
  v212 := Tryd.zeroValue116
  t213 := Tryd.underlying117
  a213 := Tryd.isAgg117
  z213 := Tryd.sizeOf117
  t232 := Tryd.underlying126
  a232 := Tryd.isAgg126
  z232 := Tryd.sizeOf126
  v232 := Tryd.zeroValue126
  t233 := Tryd.underlying127
  a233 := Tryd.isAgg127
  z233 := Tryd.sizeOf127
  v233 := Tryd.zeroValue127
  g17 := by kernel_rfl
  g18 := by kernel_rfl
  g19 := by kernel_rfl
  i0 := by kernel_rfl
  i2 := by kernel_rfl
  i3 := by kernel_rfl
  i4 := by kernel_rfl
  i5 := by kernel_rfl
  i9 := by kernel_rfl
  i20 := by kernel_rfl
  i37 := by kernel_rfl
  i46 := by kernel_rfl
  i51 := by kernel_rfl
  i53 := by kernel_rfl
  i171 := by kernel_rfl
  i173 := by kernel_rfl
  i212 := by kernel_rfl
  i232 := by kernel_rfl
  i233 := by kernel_rfl
  m17 := by kernel_rfl
  m18 := by kernel_rfl
  m19 := by kernel_rfl }
open Go.RowKit Go.Sort Go.Lib in
/-- internal/strconv.Itoa: "Itoa is equivalent to FormatInt(int64(i), 10).": i's decimal numeral, for every int. (LAID: no walk: one application.) -/
theorem Tryd.internal_strconv_Itoa (n : Int) (h0 : -9223372036854775808 ≤ n) (h1 : n ≤ 9223372036854775807) (w : World) (htab : Lib.TabIs Tryd.prog w "internal/strconv.uint64pow10" .u64 Lib.pow10Tab) :
    Calls Tryd.prog 59 #[.int .i64 n] w fun e w' => e = .returned (.string ⟨(Lib.itoa n).toArray⟩) ∧ ∃ k os, w' = grow (w.drewN k) os := Any.internal_strconv_Itoa Tryd.laysM243 n h0 h1 w htab
def Tryd.lays243_ren : Go.Shelf.Ren := ⟨fun | 243 => 59 | 246 => 74 | 283 => 84 | 284 => 85 | 285 => 86 | 286 => 87 | 129 => 95 | 317 => 94 | 318 => 96 | 319 => 97 | 320 => 98 | 337 => 100 | 338 => 101 | n => n, fun | 3 => 3 | 9 => 9 | 2 => 2 | 4 => 4 | 171 => 103 | 0 => 0 | 53 => 22 | 37 => 24 | 5 => 5 | 173 => 106 | 212 => 116 | 51 => 47 | 20 => 20 | 213 => 117 | 46 => 40 | 232 => 126 | 233 => 127 | n => n, fun | 17 => 3 | 18 => 6 | 19 => 7 | n => n⟩
theorem Tryd.lays243 : Go.Proofs.Lays.n243 Tryd.prog Tryd.lays243_ren := {
  mixed := by kernel_rfl
  f129 := Tryd.func95.trans (congrArg some (by kernel_rfl))
  f243 := Tryd.func59.trans (congrArg some (by kernel_rfl))
  f246 := Tryd.func74.trans (congrArg some (by kernel_rfl))
  f283 := Tryd.func84.trans (congrArg some (by kernel_rfl))
  f284 := Tryd.func85.trans (congrArg some (by kernel_rfl))
  f285 := Tryd.func86.trans (congrArg some (by kernel_rfl))
  f286 := Tryd.func87.trans (congrArg some (by kernel_rfl))
  f317 := Tryd.func94.trans (congrArg some (by kernel_rfl))
  f318 := Tryd.func96.trans (congrArg some (by kernel_rfl))
  f319 := Tryd.func97.trans (congrArg some (by kernel_rfl))
  f320 := Tryd.func98.trans (congrArg some (by kernel_rfl))
  f337 := Tryd.func100.trans (congrArg some (by kernel_rfl))
  f338 := Tryd.func101.trans (congrArg some (by kernel_rfl))
  t0 := Tryd.underlying0
  a0 := Tryd.isAgg0
  z0 := Tryd.sizeOf0
  v0 := Tryd.zeroValue0
  t2 := Tryd.underlying2
  a2 := Tryd.isAgg2
  z2 := Tryd.sizeOf2
  v2 := Tryd.zeroValue2
  t3 := Tryd.underlying3
  a3 := Tryd.isAgg3
  z3 := Tryd.sizeOf3
  v3 := Tryd.zeroValue3
  t4 := Tryd.underlying4
  a4 := Tryd.isAgg4
  z4 := Tryd.sizeOf4
  v4 := Tryd.zeroValue4
  t5 := Tryd.underlying5
  a5 := Tryd.isAgg5
  z5 := Tryd.sizeOf5
  v5 := Tryd.zeroValue5
  t9 := Tryd.underlying9
  a9 := Tryd.isAgg9
  z9 := Tryd.sizeOf9
  v9 := Tryd.zeroValue9
  t20 := Tryd.underlying20
  a20 := Tryd.isAgg20
  z20 := Tryd.sizeOf20
  v20 := Tryd.zeroValue20
  t37 := Tryd.underlying24
  a37 := Tryd.isAgg24
  z37 := Tryd.sizeOf24
  v37 := Tryd.zeroValue24
  t46 := Tryd.underlying40
  a46 := Tryd.isAgg40
  z46 := Tryd.sizeOf40
  v46 := Tryd.zeroValue40
  t51 := Tryd.underlying47
  a51 := Tryd.isAgg47
  z51 := Tryd.sizeOf47
  v51 := Tryd.zeroValue47
  t53 := Tryd.underlying22
  a53 := Tryd.isAgg22
  z53 := Tryd.sizeOf22
  v53 := Tryd.zeroValue22
  t171 := Tryd.underlying103
  a171 := Tryd.isAgg103
  z171 := Tryd.sizeOf103
  v171 := Tryd.zeroValue103
  t173 := Tryd.underlying106
  a173 := Tryd.isAgg106
  z173 := Tryd.sizeOf106
  v173 := Tryd.zeroValue106
  t212 := Tryd.underlying116
  a212 := Tryd.isAgg116
  z212 := Tryd.sizeOf116
  v212 := Tryd.zeroValue116
  t213 := Tryd.underlying117
  a213 := Tryd.isAgg117
  z213 := Tryd.sizeOf117
  t232 := Tryd.underlying126
  a232 := Tryd.isAgg126
  z232 := Tryd.sizeOf126
  v232 := Tryd.zeroValue126
  t233 := Tryd.underlying127
  a233 := Tryd.isAgg127
  z233 := Tryd.sizeOf127
  v233 := Tryd.zeroValue127
  g17 := by kernel_rfl
  g18 := by kernel_rfl
  g19 := by kernel_rfl }
open Go.RowKit Go.Sort Go.Lib in
/-- THE ROAD WITHOUT THE TABLE: 0 <= i < 100. (LAID: no walk: one application.) -/
theorem Tryd.internal_strconv_Itoa_small (i : Nat) (hi : i < 100) (w : World) :
    Calls Tryd.prog 59 #[.int .i64 i] w fun e w' => e = .returned (.string ⟨(Lib.decDigits i).toArray⟩) ∧ w' = w := Any.internal_strconv_Itoa_small Tryd.lays243 i hi w
def Tryd.laysM171_ren : Go.Shelf.Ren := ⟨fun | 171 => 50 | 243 => 59 | 246 => 74 | 283 => 84 | 284 => 85 | 285 => 86 | 286 => 87 | 129 => 95 | 317 => 94 | 318 => 96 | 319 => 97 | 320 => 98 | 337 => 100 | 338 => 101 | n => n, fun | 3 => 3 | 9 => 9 | 2 => 2 | 4 => 4 | 171 => 103 | 0 => 0 | 53 => 22 | 37 => 24 | 5 => 5 | 173 => 106 | 212 => 116 | 51 => 47 | 20 => 20 | 213 => 117 | 46 => 40 | 232 => 126 | 233 => 127 | n => n, fun | 17 => 3 | 18 => 6 | 19 => 7 | n => n⟩
theorem Tryd.laysM171 : Go.Proofs.LaysM.n171 Tryd.prog Tryd.laysM171_ren := {
  mixed := by kernel_rfl
  f129 := Tryd.func95.trans (congrArg some (by kernel_rfl))
  f171 := Tryd.func50.trans (congrArg some (by kernel_rfl))
  f243 := Tryd.func59.trans (congrArg some (by kernel_rfl))
  f246 := Tryd.func74.trans (congrArg some (by kernel_rfl))
  f283 := Tryd.func84.trans (congrArg some (by kernel_rfl))
  f284 := Tryd.func85.trans (congrArg some (by kernel_rfl))
  f285 := Tryd.func86.trans (congrArg some (by kernel_rfl))
  f286 := Tryd.func87.trans (congrArg some (by kernel_rfl))
  f317 := Tryd.func94.trans (congrArg some (by kernel_rfl))
  f318 := Tryd.func96.trans (congrArg some (by kernel_rfl))
  f319 := Tryd.func97.trans (congrArg some (by kernel_rfl))
  f320 := Tryd.func98.trans (congrArg some (by kernel_rfl))
  f337 := Tryd.func100.trans (congrArg some (by kernel_rfl))
  f338 := Tryd.func101.trans (congrArg some (by kernel_rfl))
  t0 := Tryd.underlying0
  a0 := Tryd.isAgg0
  z0 := Tryd.sizeOf0
  v0 := Tryd.zeroValue0
  t2 := Tryd.underlying2
  a2 := Tryd.isAgg2
  z2 := Tryd.sizeOf2
  v2 := Tryd.zeroValue2
  t3 := Tryd.underlying3
  a3 := Tryd.isAgg3
  z3 := Tryd.sizeOf3
  v3 := Tryd.zeroValue3
  t4 := Tryd.underlying4
  a4 := Tryd.isAgg4
  z4 := Tryd.sizeOf4
  v4 := Tryd.zeroValue4
  t5 := Tryd.underlying5
  a5 := Tryd.isAgg5
  z5 := Tryd.sizeOf5
  v5 := Tryd.zeroValue5
  t9 := Tryd.underlying9
  a9 := Tryd.isAgg9
  z9 := Tryd.sizeOf9
  v9 := Tryd.zeroValue9
  t20 := Tryd.underlying20
  a20 := Tryd.isAgg20
  z20 := Tryd.sizeOf20
  v20 := Tryd.zeroValue20
  t37 := Tryd.underlying24
  a37 := Tryd.isAgg24
  z37 := Tryd.sizeOf24
  v37 := Tryd.zeroValue24
  t46 := Tryd.underlying40
  a46 := Tryd.isAgg40
  z46 := Tryd.sizeOf40
  v46 := Tryd.zeroValue40
  t51 := Tryd.underlying47
  a51 := Tryd.isAgg47
  z51 := Tryd.sizeOf47
  v51 := Tryd.zeroValue47
  t53 := Tryd.underlying22
  a53 := Tryd.isAgg22
  z53 := Tryd.sizeOf22
  v53 := Tryd.zeroValue22
  t171 := Tryd.underlying103
  a171 := Tryd.isAgg103
  z171 := Tryd.sizeOf103
  v171 := Tryd.zeroValue103
  t173 := Tryd.underlying106
  a173 := Tryd.isAgg106
  z173 := Tryd.sizeOf106
  v173 := Tryd.zeroValue106
  t212 := Tryd.underlying116
  a212 := Tryd.isAgg116
  z212 := Tryd.sizeOf116
  v212 := Tryd.zeroValue116
  t213 := Tryd.underlying117
  a213 := Tryd.isAgg117
  z213 := Tryd.sizeOf117
  t232 := Tryd.underlying126
  a232 := Tryd.isAgg126
  z232 := Tryd.sizeOf126
  v232 := Tryd.zeroValue126
  t233 := Tryd.underlying127
  a233 := Tryd.isAgg127
  z233 := Tryd.sizeOf127
  v233 := Tryd.zeroValue127
  g17 := by kernel_rfl
  g18 := by kernel_rfl
  g19 := by kernel_rfl
  i0 := by kernel_rfl
  i2 := by kernel_rfl
  i3 := by kernel_rfl
  i4 := by kernel_rfl
  i5 := by kernel_rfl
  i9 := by kernel_rfl
  i20 := by kernel_rfl
  i37 := by kernel_rfl
  i46 := by kernel_rfl
  i51 := by kernel_rfl
  i53 := by kernel_rfl
  i171 := by kernel_rfl
  i173 := by kernel_rfl
  i212 := by kernel_rfl
  i232 := by kernel_rfl
  i233 := by kernel_rfl
  m17 := by kernel_rfl
  m18 := by kernel_rfl
  m19 := by kernel_rfl }
open Go.RowKit Go.Sort Go.Lib in
/-- strconv.Itoa: "Itoa is equivalent to FormatInt(int64(i), 10).": i's DECIMAL NUMERAL ('Lib.itoa': a '-' where i is negative, then the digits), FOR EVERY int. The world behind the call: the world before it, new blocks behind the heap (the library's 'var a [24]byte'), draws. (LAID: no walk: one application.) -/
theorem Tryd.strconv_Itoa (n : Int) (h0 : -9223372036854775808 ≤ n) (h1 : n ≤ 9223372036854775807) (w : World) (htab : Lib.TabIs Tryd.prog w "internal/strconv.uint64pow10" .u64 Lib.pow10Tab) :
    Calls Tryd.prog 50 #[.int .i64 n] w fun e w' => e = .returned (.string ⟨(Lib.itoa n).toArray⟩) ∧ ∃ k os, w' = grow (w.drewN k) os := Any.strconv_Itoa Tryd.laysM171 n h0 h1 w htab
def Tryd.lays171_ren : Go.Shelf.Ren := ⟨fun | 171 => 50 | 243 => 59 | 246 => 74 | 283 => 84 | 284 => 85 | 285 => 86 | 286 => 87 | 129 => 95 | 317 => 94 | 318 => 96 | 319 => 97 | 320 => 98 | 337 => 100 | 338 => 101 | n => n, fun | 3 => 3 | 9 => 9 | 2 => 2 | 4 => 4 | 171 => 103 | 0 => 0 | 53 => 22 | 37 => 24 | 5 => 5 | 173 => 106 | 212 => 116 | 51 => 47 | 20 => 20 | 213 => 117 | 46 => 40 | 232 => 126 | 233 => 127 | n => n, fun | 17 => 3 | 18 => 6 | 19 => 7 | n => n⟩
theorem Tryd.lays171 : Go.Proofs.Lays.n171 Tryd.prog Tryd.lays171_ren := {
  mixed := by kernel_rfl
  f129 := Tryd.func95.trans (congrArg some (by kernel_rfl))
  f171 := Tryd.func50.trans (congrArg some (by kernel_rfl))
  f243 := Tryd.func59.trans (congrArg some (by kernel_rfl))
  f246 := Tryd.func74.trans (congrArg some (by kernel_rfl))
  f283 := Tryd.func84.trans (congrArg some (by kernel_rfl))
  f284 := Tryd.func85.trans (congrArg some (by kernel_rfl))
  f285 := Tryd.func86.trans (congrArg some (by kernel_rfl))
  f286 := Tryd.func87.trans (congrArg some (by kernel_rfl))
  f317 := Tryd.func94.trans (congrArg some (by kernel_rfl))
  f318 := Tryd.func96.trans (congrArg some (by kernel_rfl))
  f319 := Tryd.func97.trans (congrArg some (by kernel_rfl))
  f320 := Tryd.func98.trans (congrArg some (by kernel_rfl))
  f337 := Tryd.func100.trans (congrArg some (by kernel_rfl))
  f338 := Tryd.func101.trans (congrArg some (by kernel_rfl))
  t0 := Tryd.underlying0
  a0 := Tryd.isAgg0
  z0 := Tryd.sizeOf0
  v0 := Tryd.zeroValue0
  t2 := Tryd.underlying2
  a2 := Tryd.isAgg2
  z2 := Tryd.sizeOf2
  v2 := Tryd.zeroValue2
  t3 := Tryd.underlying3
  a3 := Tryd.isAgg3
  z3 := Tryd.sizeOf3
  v3 := Tryd.zeroValue3
  t4 := Tryd.underlying4
  a4 := Tryd.isAgg4
  z4 := Tryd.sizeOf4
  v4 := Tryd.zeroValue4
  t5 := Tryd.underlying5
  a5 := Tryd.isAgg5
  z5 := Tryd.sizeOf5
  v5 := Tryd.zeroValue5
  t9 := Tryd.underlying9
  a9 := Tryd.isAgg9
  z9 := Tryd.sizeOf9
  v9 := Tryd.zeroValue9
  t20 := Tryd.underlying20
  a20 := Tryd.isAgg20
  z20 := Tryd.sizeOf20
  v20 := Tryd.zeroValue20
  t37 := Tryd.underlying24
  a37 := Tryd.isAgg24
  z37 := Tryd.sizeOf24
  v37 := Tryd.zeroValue24
  t46 := Tryd.underlying40
  a46 := Tryd.isAgg40
  z46 := Tryd.sizeOf40
  v46 := Tryd.zeroValue40
  t51 := Tryd.underlying47
  a51 := Tryd.isAgg47
  z51 := Tryd.sizeOf47
  v51 := Tryd.zeroValue47
  t53 := Tryd.underlying22
  a53 := Tryd.isAgg22
  z53 := Tryd.sizeOf22
  v53 := Tryd.zeroValue22
  t171 := Tryd.underlying103
  a171 := Tryd.isAgg103
  z171 := Tryd.sizeOf103
  v171 := Tryd.zeroValue103
  t173 := Tryd.underlying106
  a173 := Tryd.isAgg106
  z173 := Tryd.sizeOf106
  v173 := Tryd.zeroValue106
  t212 := Tryd.underlying116
  a212 := Tryd.isAgg116
  z212 := Tryd.sizeOf116
  v212 := Tryd.zeroValue116
  t213 := Tryd.underlying117
  a213 := Tryd.isAgg117
  z213 := Tryd.sizeOf117
  t232 := Tryd.underlying126
  a232 := Tryd.isAgg126
  z232 := Tryd.sizeOf126
  v232 := Tryd.zeroValue126
  t233 := Tryd.underlying127
  a233 := Tryd.isAgg127
  z233 := Tryd.sizeOf127
  v233 := Tryd.zeroValue127
  g17 := by kernel_rfl
  g18 := by kernel_rfl
  g19 := by kernel_rfl }
open Go.RowKit Go.Sort Go.Lib in
/-- THE ROAD WITHOUT THE TABLE: 0 <= i < 100: NO PREMISE ON THE WORLD, AND THE WORLD IS AS IT WAS: a row that keeps its argument in that range need list no table ('laid = []'). (LAID: no walk: one application.) -/
theorem Tryd.strconv_Itoa_small (i : Nat) (hi : i < 100) (w : World) :
    Calls Tryd.prog 50 #[.int .i64 i] w fun e w' => e = .returned (.string ⟨(Lib.decDigits i).toArray⟩) ∧ w' = w := Any.strconv_Itoa_small Tryd.lays171 i hi w
def Tryd.laysPu14_ren : Go.Shelf.Ren := ⟨fun | 14 => 49 | 16 => 57 | 17 => 58 | 19 => 68 | 20 => 69 | 21 => 70 | 22 => 71 | 23 => 72 | 24 => 73 | 25 => 82 | 27 => 50 | 26 => 83 | 28 => 59 | 29 => 74 | 30 => 84 | 31 => 85 | 32 => 86 | 33 => 87 | 35 => 95 | 34 => 94 | 36 => 96 | 37 => 97 | 38 => 98 | 39 => 100 | 40 => 101 | n => n, fun | 9 => 9 | 3 => 3 | 22 => 22 | 24 => 70 | 25 => 71 | 4 => 4 | 34 => 88 | 5 => 5 | 36 => 40 | 37 => 24 | 0 => 0 | 39 => 91 | 21 => 21 | 44 => 101 | 47 => 95 | 50 => 114 | 48 => 112 | 2 => 2 | 52 => 103 | 55 => 106 | 59 => 116 | 60 => 47 | 20 => 20 | 61 => 117 | 65 => 126 | 66 => 127 | 67 => 85 | n => n, fun | 0 => 0 | 1 => 1 | 2 => 3 | 3 => 6 | 4 => 7 | n => n⟩
theorem Tryd.laysPu14 : Go.Proofs.LaysPu.n14 Tryd.prog Tryd.laysPu14_ren := {
  mixed := by kernel_rfl
  f14 := Tryd.func49.trans (congrArg some (by kernel_rfl))
  f16 := Tryd.func57.trans (congrArg some (by kernel_rfl))
  f17 := Tryd.func58.trans (congrArg some (by kernel_rfl))
  f19 := Tryd.func68.trans (congrArg some (by kernel_rfl))
  f20 := Tryd.func69.trans (congrArg some (by kernel_rfl))
  f21 := Tryd.func70.trans (congrArg some (by kernel_rfl))
  f22 := Tryd.func71.trans (congrArg some (by kernel_rfl))
  f23 := Tryd.func72.trans (congrArg some (by kernel_rfl))
  f24 := Tryd.func73.trans (congrArg some (by kernel_rfl))
  f25 := Tryd.func82.trans (congrArg some (by kernel_rfl))
  f26 := Tryd.func83.trans (congrArg some (by kernel_rfl))
  f27 := Tryd.func50.trans (congrArg some (by kernel_rfl))
  f28 := Tryd.func59.trans (congrArg some (by kernel_rfl))
  f29 := Tryd.func74.trans (congrArg some (by kernel_rfl))
  f30 := Tryd.func84.trans (congrArg some (by kernel_rfl))
  f31 := Tryd.func85.trans (congrArg some (by kernel_rfl))
  f32 := Tryd.func86.trans (congrArg some (by kernel_rfl))
  f33 := Tryd.func87.trans (congrArg some (by kernel_rfl))
  f34 := Tryd.func94.trans (congrArg some (by kernel_rfl))
  f35 := Tryd.func95.trans (congrArg some (by kernel_rfl))
  f36 := Tryd.func96.trans (congrArg some (by kernel_rfl))
  f37 := Tryd.func97.trans (congrArg some (by kernel_rfl))
  f38 := Tryd.func98.trans (congrArg some (by kernel_rfl))
  f39 := Tryd.func100.trans (congrArg some (by kernel_rfl))
  f40 := Tryd.func101.trans (congrArg some (by kernel_rfl))
  t0 := Tryd.underlying0
  a0 := Tryd.isAgg0
  z0 := Tryd.sizeOf0
  v0 := Tryd.zeroValue0
  i0 := by kernel_rfl
  t2 := Tryd.underlying2
  a2 := Tryd.isAgg2
  z2 := Tryd.sizeOf2
  v2 := Tryd.zeroValue2
  i2 := by kernel_rfl
  t3 := Tryd.underlying3
  a3 := Tryd.isAgg3
  z3 := Tryd.sizeOf3
  v3 := Tryd.zeroValue3
  i3 := by kernel_rfl
  t4 := Tryd.underlying4
  a4 := Tryd.isAgg4
  z4 := Tryd.sizeOf4
  v4 := Tryd.zeroValue4
  i4 := by kernel_rfl
  t5 := Tryd.underlying5
  a5 := Tryd.isAgg5
  z5 := Tryd.sizeOf5
  v5 := Tryd.zeroValue5
  i5 := by kernel_rfl
  t9 := Tryd.underlying9
  a9 := Tryd.isAgg9
  z9 := Tryd.sizeOf9
  v9 := Tryd.zeroValue9
  i9 := by kernel_rfl
  t20 := Tryd.underlying20
  a20 := Tryd.isAgg20
  z20 := Tryd.sizeOf20
  v20 := Tryd.zeroValue20
  i20 := by kernel_rfl
  t21 := Tryd.underlying21
  a21 := Tryd.isAgg21
  z21 := Tryd.sizeOf21
  v21 := Tryd.zeroValue21
  i21 := by kernel_rfl
  t22 := Tryd.underlying22
  a22 := Tryd.isAgg22
  z22 := Tryd.sizeOf22
  v22 := Tryd.zeroValue22
  i22 := by kernel_rfl
  t24 := Tryd.underlying70
  a24 := Tryd.isAgg70
  z24 := Tryd.sizeOf70
  v24 := Tryd.zeroValue70
  i24 := by kernel_rfl
  t25 := Tryd.underlying71
  a25 := Tryd.isAgg71
  z25 := Tryd.sizeOf71
  v25 := Tryd.zeroValue71
  i25 := by kernel_rfl
  t34 := Tryd.underlying88
  a34 := Tryd.isAgg88
  z34 := Tryd.sizeOf88
  v34 := Tryd.zeroValue88
  i34 := by kernel_rfl
  c34 := by kernel_rfl
  t36 := Tryd.underlying40
  a36 := Tryd.isAgg40
  z36 := Tryd.sizeOf40
  v36 := Tryd.zeroValue40
  i36 := by kernel_rfl
  t37 := Tryd.underlying24
  a37 := Tryd.isAgg24
  z37 := Tryd.sizeOf24
  v37 := Tryd.zeroValue24
  i37 := by kernel_rfl
  t39 := Tryd.underlying91
  a39 := Tryd.isAgg91
  z39 := Tryd.sizeOf91
  v39 := Tryd.zeroValue91
  i39 := by kernel_rfl
  t44 := Tryd.underlying101
  a44 := Tryd.isAgg101
  z44 := Tryd.sizeOf101
  v44 := Tryd.zeroValue101
  i44 := by kernel_rfl
  t47 := Tryd.underlying95
  a47 := Tryd.isAgg95
  z47 := Tryd.sizeOf95
  v47 := Tryd.zeroValue95
  i47 := by kernel_rfl
  t48 := Tryd.underlying112
  a48 := Tryd.isAgg112
  z48 := Tryd.sizeOf112
  v48 := Tryd.zeroValue112
  i48 := by kernel_rfl
  t50 := Tryd.underlying114
  a50 := Tryd.isAgg114
  z50 := Tryd.sizeOf114
  v50 := Tryd.zeroValue114
  i50 := by kernel_rfl
  t52 := Tryd.underlying103
  a52 := Tryd.isAgg103
  z52 := Tryd.sizeOf103
  v52 := Tryd.zeroValue103
  i52 := by kernel_rfl
  t55 := Tryd.underlying106
  a55 := Tryd.isAgg106
  z55 := Tryd.sizeOf106
  v55 := Tryd.zeroValue106
  i55 := by kernel_rfl
  t59 := Tryd.underlying116
  a59 := Tryd.isAgg116
  z59 := Tryd.sizeOf116
  v59 := Tryd.zeroValue116
  i59 := by kernel_rfl
  t60 := Tryd.underlying47
  a60 := Tryd.isAgg47
  z60 := Tryd.sizeOf47
  v60 := Tryd.zeroValue47
  i60 := by kernel_rfl
  t61 := Tryd.underlying117
  a61 := Tryd.isAgg117
  z61 := Tryd.sizeOf117
  t65 := Tryd.underlying126
  a65 := Tryd.isAgg126
  z65 := Tryd.sizeOf126
  v65 := Tryd.zeroValue126
  i65 := by kernel_rfl
  t66 := Tryd.underlying127
  a66 := Tryd.isAgg127
  z66 := Tryd.sizeOf127
  v66 := Tryd.zeroValue127
  i66 := by kernel_rfl
  t67 := Tryd.underlying85
  a67 := Tryd.isAgg85
  z67 := Tryd.sizeOf85
  v67 := Tryd.zeroValue85
  i67 := by kernel_rfl
  g0 := by kernel_rfl
  m0 := by kernel_rfl
  g1 := by kernel_rfl
  m1 := by kernel_rfl
  g2 := by kernel_rfl
  m2 := by kernel_rfl
  g3 := by kernel_rfl
  m3 := by kernel_rfl
  g4 := by kernel_rfl
  m4 := by kernel_rfl }
open Go.RowKit in
/-- strconv.ParseUint(s, 10, 0), AT EVERY STRING THAT SPELLS A uint64 ('Lib.parseUintB 64 s.data.toList = .ok u'): u, AND NO ERROR. (LAID: no walk: one application.) -/
theorem Tryd.strconv_ParseUint_10_at0_ok (s : ByteArray) (hmax : s.size ≤ 9223372036854775806) (u : Nat) (h : Lib.parseUintB 64 s.data.toList = .ok u) (w : World) :
    Calls Tryd.prog 49 #[.string s, .int .i64 10, .int .i64 0] w fun e w' => e = .returned (.tuple #[.int .u64 u, .nilIface]) ∧ (w' = w ∨ w' = Lib.bytesWorld w 5 s) := Any.strconv_ParseUint_10_at0_ok Tryd.laysPu14 s hmax u h w
open Go.RowKit in
/-- strconv.ParseUint(s, 10, 0), AT EVERY NUMERAL THAT NO uint64 HOLDS: THE GREATEST uint64, AND AN ERROR THAT IS NOT nil: a *NumError in a new block N: {Func: "ParseUint", Num: s's bytes, Err: what the variable ErrRange holds}. Of what was there nothing has turned. (LAID: no walk: one application.) -/
theorem Tryd.strconv_ParseUint_10_at0_range (s : ByteArray) (hlim : s.size ≤ 281474976710656) (h : Lib.parseUintB 64 s.data.toList = .range) (ev : Value) (w : World) (hv : w.cell? ⟨1, 0, none⟩ = some ev) (hev : ev = .nilIface ∨ ∃ te pe, ev = .iface te pe) :
    Calls Tryd.prog 49 #[.string s, .int .i64 10, .int .i64 0] w fun e w' => ∃ N, e = .returned (.tuple #[.int .u64 18446744073709551615, .iface 91 (.pointer (some ⟨N, 0, none⟩))]) ∧ w.heap.size ≤ N ∧ w'.heap[N]? = some (.cells #[.string ⟨#[80, 97, 114, 115, 101, 85, 105, 110, 116]⟩, .string s, ev] 101 (0, 0)) ∧ Below w.heap.size w w' := Any.strconv_ParseUint_10_at0_range Tryd.laysPu14 s hlim h ev w hv hev
open Go.RowKit in
/-- strconv.ParseUint(s, 10, 64), AT EVERY STRING THAT SPELLS A uint64 ('Lib.parseUintB 64 s.data.toList = .ok u'): u, AND NO ERROR. (LAID: no walk: one application.) -/
theorem Tryd.strconv_ParseUint_10_at64_ok (s : ByteArray) (hmax : s.size ≤ 9223372036854775806) (u : Nat) (h : Lib.parseUintB 64 s.data.toList = .ok u) (w : World) :
    Calls Tryd.prog 49 #[.string s, .int .i64 10, .int .i64 64] w fun e w' => e = .returned (.tuple #[.int .u64 u, .nilIface]) ∧ (w' = w ∨ w' = Lib.bytesWorld w 5 s) := Any.strconv_ParseUint_10_at64_ok Tryd.laysPu14 s hmax u h w
open Go.RowKit in
/-- strconv.ParseUint(s, 10, 64), AT EVERY NUMERAL THAT NO uint64 HOLDS: THE GREATEST uint64, AND AN ERROR THAT IS NOT nil: a *NumError in a new block N: {Func: "ParseUint", Num: s's bytes, Err: what the variable ErrRange holds}. Of what was there nothing has turned. (LAID: no walk: one application.) -/
theorem Tryd.strconv_ParseUint_10_at64_range (s : ByteArray) (hlim : s.size ≤ 281474976710656) (h : Lib.parseUintB 64 s.data.toList = .range) (ev : Value) (w : World) (hv : w.cell? ⟨1, 0, none⟩ = some ev) (hev : ev = .nilIface ∨ ∃ te pe, ev = .iface te pe) :
    Calls Tryd.prog 49 #[.string s, .int .i64 10, .int .i64 64] w fun e w' => ∃ N, e = .returned (.tuple #[.int .u64 18446744073709551615, .iface 91 (.pointer (some ⟨N, 0, none⟩))]) ∧ w.heap.size ≤ N ∧ w'.heap[N]? = some (.cells #[.string ⟨#[80, 97, 114, 115, 101, 85, 105, 110, 116]⟩, .string s, ev] 101 (0, 0)) ∧ Below w.heap.size w w' := Any.strconv_ParseUint_10_at64_range Tryd.laysPu14 s hlim h ev w hv hev
open Go.RowKit in
/-- strconv.ParseUint(s, 10, 32), AT EVERY STRING THAT SPELLS A uint32 ('Lib.parseUintB 32 s.data.toList = .ok u'): u, AND NO ERROR. (LAID: no walk: one application.) -/
theorem Tryd.strconv_ParseUint_10_at32_ok (s : ByteArray) (hmax : s.size ≤ 9223372036854775806) (u : Nat) (h : Lib.parseUintB 32 s.data.toList = .ok u) (w : World) :
    Calls Tryd.prog 49 #[.string s, .int .i64 10, .int .i64 32] w fun e w' => e = .returned (.tuple #[.int .u64 u, .nilIface]) ∧ (w' = w ∨ w' = Lib.bytesWorld w 5 s) := Any.strconv_ParseUint_10_at32_ok Tryd.laysPu14 s hmax u h w
open Go.RowKit in
/-- strconv.ParseUint(s, 10, 32), AT EVERY NUMERAL THAT NO uint32 HOLDS: THE GREATEST uint32, AND AN ERROR THAT IS NOT nil: a *NumError in a new block N: {Func: "ParseUint", Num: s's bytes, Err: what the variable ErrRange holds}. Of what was there nothing has turned. (LAID: no walk: one application.) -/
theorem Tryd.strconv_ParseUint_10_at32_range (s : ByteArray) (hlim : s.size ≤ 281474976710656) (h : Lib.parseUintB 32 s.data.toList = .range) (ev : Value) (w : World) (hv : w.cell? ⟨1, 0, none⟩ = some ev) (hev : ev = .nilIface ∨ ∃ te pe, ev = .iface te pe) :
    Calls Tryd.prog 49 #[.string s, .int .i64 10, .int .i64 32] w fun e w' => ∃ N, e = .returned (.tuple #[.int .u64 4294967295, .iface 91 (.pointer (some ⟨N, 0, none⟩))]) ∧ w.heap.size ≤ N ∧ w'.heap[N]? = some (.cells #[.string ⟨#[80, 97, 114, 115, 101, 85, 105, 110, 116]⟩, .string s, ev] 101 (0, 0)) ∧ Below w.heap.size w w' := Any.strconv_ParseUint_10_at32_range Tryd.laysPu14 s hlim h ev w hv hev
open Go.RowKit in
/-- strconv.ParseUint(s, 10, 16), AT EVERY STRING THAT SPELLS A uint16 ('Lib.parseUintB 16 s.data.toList = .ok u'): u, AND NO ERROR. (LAID: no walk: one application.) -/
theorem Tryd.strconv_ParseUint_10_at16_ok (s : ByteArray) (hmax : s.size ≤ 9223372036854775806) (u : Nat) (h : Lib.parseUintB 16 s.data.toList = .ok u) (w : World) :
    Calls Tryd.prog 49 #[.string s, .int .i64 10, .int .i64 16] w fun e w' => e = .returned (.tuple #[.int .u64 u, .nilIface]) ∧ (w' = w ∨ w' = Lib.bytesWorld w 5 s) := Any.strconv_ParseUint_10_at16_ok Tryd.laysPu14 s hmax u h w
open Go.RowKit in
/-- strconv.ParseUint(s, 10, 16), AT EVERY NUMERAL THAT NO uint16 HOLDS: THE GREATEST uint16, AND AN ERROR THAT IS NOT nil: a *NumError in a new block N: {Func: "ParseUint", Num: s's bytes, Err: what the variable ErrRange holds}. Of what was there nothing has turned. (LAID: no walk: one application.) -/
theorem Tryd.strconv_ParseUint_10_at16_range (s : ByteArray) (hlim : s.size ≤ 281474976710656) (h : Lib.parseUintB 16 s.data.toList = .range) (ev : Value) (w : World) (hv : w.cell? ⟨1, 0, none⟩ = some ev) (hev : ev = .nilIface ∨ ∃ te pe, ev = .iface te pe) :
    Calls Tryd.prog 49 #[.string s, .int .i64 10, .int .i64 16] w fun e w' => ∃ N, e = .returned (.tuple #[.int .u64 65535, .iface 91 (.pointer (some ⟨N, 0, none⟩))]) ∧ w.heap.size ≤ N ∧ w'.heap[N]? = some (.cells #[.string ⟨#[80, 97, 114, 115, 101, 85, 105, 110, 116]⟩, .string s, ev] 101 (0, 0)) ∧ Below w.heap.size w w' := Any.strconv_ParseUint_10_at16_range Tryd.laysPu14 s hlim h ev w hv hev
open Go.RowKit in
/-- strconv.ParseUint(s, 10, 8), AT EVERY STRING THAT SPELLS A uint8 ('Lib.parseUintB 8 s.data.toList = .ok u'): u, AND NO ERROR. (LAID: no walk: one application.) -/
theorem Tryd.strconv_ParseUint_10_at8_ok (s : ByteArray) (hmax : s.size ≤ 9223372036854775806) (u : Nat) (h : Lib.parseUintB 8 s.data.toList = .ok u) (w : World) :
    Calls Tryd.prog 49 #[.string s, .int .i64 10, .int .i64 8] w fun e w' => e = .returned (.tuple #[.int .u64 u, .nilIface]) ∧ (w' = w ∨ w' = Lib.bytesWorld w 5 s) := Any.strconv_ParseUint_10_at8_ok Tryd.laysPu14 s hmax u h w
open Go.RowKit in
/-- strconv.ParseUint(s, 10, 8), AT EVERY NUMERAL THAT NO uint8 HOLDS: THE GREATEST uint8, AND AN ERROR THAT IS NOT nil: a *NumError in a new block N: {Func: "ParseUint", Num: s's bytes, Err: what the variable ErrRange holds}. Of what was there nothing has turned. (LAID: no walk: one application.) -/
theorem Tryd.strconv_ParseUint_10_at8_range (s : ByteArray) (hlim : s.size ≤ 281474976710656) (h : Lib.parseUintB 8 s.data.toList = .range) (ev : Value) (w : World) (hv : w.cell? ⟨1, 0, none⟩ = some ev) (hev : ev = .nilIface ∨ ∃ te pe, ev = .iface te pe) :
    Calls Tryd.prog 49 #[.string s, .int .i64 10, .int .i64 8] w fun e w' => ∃ N, e = .returned (.tuple #[.int .u64 255, .iface 91 (.pointer (some ⟨N, 0, none⟩))]) ∧ w.heap.size ≤ N ∧ w'.heap[N]? = some (.cells #[.string ⟨#[80, 97, 114, 115, 101, 85, 105, 110, 116]⟩, .string s, ev] 101 (0, 0)) ∧ Below w.heap.size w w' := Any.strconv_ParseUint_10_at8_range Tryd.laysPu14 s hlim h ev w hv hev
open Go.RowKit in
theorem Tryd.strconv_ParseUint_10_at0_range_var (s : ByteArray) (hlim : s.size ≤ 281474976710656) (h : Lib.parseUintB 64 s.data.toList = .range) (tp : TypeId) (p : Value) (w : World) (hvar : w.var? Tryd.prog "strconv.ErrRange" = some #[.iface tp p]) :
    Calls Tryd.prog 49 #[.string s, .int .i64 10, .int .i64 0] w fun e w' => ∃ N, e = .returned (.tuple #[.int .u64 18446744073709551615, .iface 91 (.pointer (some ⟨N, 0, none⟩))]) ∧ w.heap.size ≤ N ∧ w'.heap[N]? = some (.cells #[.string ⟨#[80, 97, 114, 115, 101, 85, 105, 110, 116]⟩, .string s, .iface tp p] 101 (0, 0)) ∧ Below w.heap.size w w' := Any.strconv_ParseUint_10_at0_range_var Tryd.laysPu14 s hlim h tp p w hvar
open Go.RowKit in
theorem Tryd.strconv_ParseUint_10_at64_range_var (s : ByteArray) (hlim : s.size ≤ 281474976710656) (h : Lib.parseUintB 64 s.data.toList = .range) (tp : TypeId) (p : Value) (w : World) (hvar : w.var? Tryd.prog "strconv.ErrRange" = some #[.iface tp p]) :
    Calls Tryd.prog 49 #[.string s, .int .i64 10, .int .i64 64] w fun e w' => ∃ N, e = .returned (.tuple #[.int .u64 18446744073709551615, .iface 91 (.pointer (some ⟨N, 0, none⟩))]) ∧ w.heap.size ≤ N ∧ w'.heap[N]? = some (.cells #[.string ⟨#[80, 97, 114, 115, 101, 85, 105, 110, 116]⟩, .string s, .iface tp p] 101 (0, 0)) ∧ Below w.heap.size w w' := Any.strconv_ParseUint_10_at64_range_var Tryd.laysPu14 s hlim h tp p w hvar
open Go.RowKit in
theorem Tryd.strconv_ParseUint_10_at32_range_var (s : ByteArray) (hlim : s.size ≤ 281474976710656) (h : Lib.parseUintB 32 s.data.toList = .range) (tp : TypeId) (p : Value) (w : World) (hvar : w.var? Tryd.prog "strconv.ErrRange" = some #[.iface tp p]) :
    Calls Tryd.prog 49 #[.string s, .int .i64 10, .int .i64 32] w fun e w' => ∃ N, e = .returned (.tuple #[.int .u64 4294967295, .iface 91 (.pointer (some ⟨N, 0, none⟩))]) ∧ w.heap.size ≤ N ∧ w'.heap[N]? = some (.cells #[.string ⟨#[80, 97, 114, 115, 101, 85, 105, 110, 116]⟩, .string s, .iface tp p] 101 (0, 0)) ∧ Below w.heap.size w w' := Any.strconv_ParseUint_10_at32_range_var Tryd.laysPu14 s hlim h tp p w hvar
open Go.RowKit in
theorem Tryd.strconv_ParseUint_10_at16_range_var (s : ByteArray) (hlim : s.size ≤ 281474976710656) (h : Lib.parseUintB 16 s.data.toList = .range) (tp : TypeId) (p : Value) (w : World) (hvar : w.var? Tryd.prog "strconv.ErrRange" = some #[.iface tp p]) :
    Calls Tryd.prog 49 #[.string s, .int .i64 10, .int .i64 16] w fun e w' => ∃ N, e = .returned (.tuple #[.int .u64 65535, .iface 91 (.pointer (some ⟨N, 0, none⟩))]) ∧ w.heap.size ≤ N ∧ w'.heap[N]? = some (.cells #[.string ⟨#[80, 97, 114, 115, 101, 85, 105, 110, 116]⟩, .string s, .iface tp p] 101 (0, 0)) ∧ Below w.heap.size w w' := Any.strconv_ParseUint_10_at16_range_var Tryd.laysPu14 s hlim h tp p w hvar
open Go.RowKit in
theorem Tryd.strconv_ParseUint_10_at8_range_var (s : ByteArray) (hlim : s.size ≤ 281474976710656) (h : Lib.parseUintB 8 s.data.toList = .range) (tp : TypeId) (p : Value) (w : World) (hvar : w.var? Tryd.prog "strconv.ErrRange" = some #[.iface tp p]) :
    Calls Tryd.prog 49 #[.string s, .int .i64 10, .int .i64 8] w fun e w' => ∃ N, e = .returned (.tuple #[.int .u64 255, .iface 91 (.pointer (some ⟨N, 0, none⟩))]) ∧ w.heap.size ≤ N ∧ w'.heap[N]? = some (.cells #[.string ⟨#[80, 97, 114, 115, 101, 85, 105, 110, 116]⟩, .string s, .iface tp p] 101 (0, 0)) ∧ Below w.heap.size w w' := Any.strconv_ParseUint_10_at8_range_var Tryd.laysPu14 s hlim h tp p w hvar
def Tryd.lays217_ren : Go.Shelf.Ren := ⟨fun | 217 => 60 | 266 => 75 | n => n, fun | 9 => 9 | 5 => 5 | 3 => 3 | n => n, fun | n => n⟩
theorem Tryd.lays217 : Go.Proofs.Lays.n217 Tryd.prog Tryd.lays217_ren := {
  mixed := by kernel_rfl
  f217 := Tryd.func60.trans (congrArg some (by kernel_rfl))
  f266 := Tryd.func75.trans (congrArg some (by kernel_rfl))
  t3 := Tryd.underlying3
  a3 := Tryd.isAgg3
  z3 := Tryd.sizeOf3
  v3 := Tryd.zeroValue3
  t5 := Tryd.underlying5
  a5 := Tryd.isAgg5
  z5 := Tryd.sizeOf5
  v5 := Tryd.zeroValue5
  t9 := Tryd.underlying9
  a9 := Tryd.isAgg9
  z9 := Tryd.sizeOf9
  v9 := Tryd.zeroValue9 }
open Go.RowKit Go.Lib in
/-- internal/stringslite.IndexByte (what strings.IndexByte calls): IT RETURNS 'Lib.indexByte s c'; the world is as it was. (LAID: no walk: one application.) -/
theorem Tryd.stringslite_IndexByte (s : ByteArray) (c : Int) (w : World) :
    Calls Tryd.prog 60 #[.string s, .int .u8 c] w fun e w' => e = .returned (.int .i64 (Lib.indexByte s.data.toList c.toNat.toUInt8)) ∧ w' = w := Any.stringslite_IndexByte Tryd.lays217 s c w
def Tryd.lays224_ren : Go.Shelf.Ren := ⟨fun | 224 => 92 | n => n, fun | 3 => 3 | n => n, fun | n => n⟩
theorem Tryd.lays224 : Go.Proofs.Lays.n224 Tryd.prog Tryd.lays224_ren := {
  mixed := by kernel_rfl
  f224 := Tryd.func92.trans (congrArg some (by kernel_rfl))
  t3 := Tryd.underlying3
  a3 := Tryd.isAgg3
  z3 := Tryd.sizeOf3
  v3 := Tryd.zeroValue3 }
open Go.RowKit Go.Lib in
/-- internal/bytealg.Cutover: "Cutover reports the number of failures of IndexByte we should tolerate before switching over to Index. n is the number of bytes processed so far.": on amd64: (n + 16) / 8. (LAID: no walk: one application.) -/
theorem Tryd.bytealg_Cutover (n : Int) (h0 : 0 ≤ n) (h1 : n < 4611686018427387904) (w : World) :
    Calls Tryd.prog 92 #[.int .i64 n] w fun e w' => e = .returned (.int .i64 ((n + 16) / 8)) ∧ w' = w := Any.bytealg_Cutover Tryd.lays224 n h0 h1 w
def Tryd.lays314_ren : Go.Shelf.Ren := ⟨fun | 314 => 99 | n => n, fun | 9 => 9 | 51 => 47 | 3 => 3 | 4 => 4 | 5 => 5 | 46 => 40 | n => n, fun | n => n⟩
theorem Tryd.lays314 : Go.Proofs.Lays.n314 Tryd.prog Tryd.lays314_ren := {
  mixed := by kernel_rfl
  f314 := Tryd.func99.trans (congrArg some (by kernel_rfl))
  t3 := Tryd.underlying3
  a3 := Tryd.isAgg3
  z3 := Tryd.sizeOf3
  v3 := Tryd.zeroValue3
  t4 := Tryd.underlying4
  a4 := Tryd.isAgg4
  z4 := Tryd.sizeOf4
  v4 := Tryd.zeroValue4
  t5 := Tryd.underlying5
  a5 := Tryd.isAgg5
  z5 := Tryd.sizeOf5
  v5 := Tryd.zeroValue5
  t9 := Tryd.underlying9
  a9 := Tryd.isAgg9
  z9 := Tryd.sizeOf9
  v9 := Tryd.zeroValue9
  t46 := Tryd.underlying40
  a46 := Tryd.isAgg40
  z46 := Tryd.sizeOf40
  v46 := Tryd.zeroValue40
  t51 := Tryd.underlying47
  a51 := Tryd.isAgg47
  z51 := Tryd.sizeOf47
  v51 := Tryd.zeroValue47 }
open Go.RowKit Go.Lib in
/-- hashStr: "returns the hash and the appropriate multiplicative factor for use in Rabin-Karp algorithm": THE HASH OF ALL OF sep, AND 16777619 ^ len(sep), both in uint32. (LAID: no walk: one application.) -/
theorem Tryd.bytealg_hashStr (sep : ByteArray) (hs : sep.size < 4294967281) (w : World) :
    Calls Tryd.prog 99 #[.string sep] w fun e w' => e = .returned (.tuple #[.int .u32 (RK.H sep.data.toList % 4294967296), .int .u32 (16777619 ^ sep.size % 4294967296)]) ∧ w' = w := Any.bytealg_hashStr Tryd.lays314 sep hs w
def Tryd.lays267_ren : Go.Shelf.Ren := ⟨fun | 267 => 93 | 314 => 99 | n => n, fun | 9 => 9 | 3 => 3 | 146 => 124 | 51 => 47 | 4 => 4 | 5 => 5 | 46 => 40 | n => n, fun | n => n⟩
theorem Tryd.lays267 : Go.Proofs.Lays.n267 Tryd.prog Tryd.lays267_ren := {
  mixed := by kernel_rfl
  f267 := Tryd.func93.trans (congrArg some (by kernel_rfl))
  f314 := Tryd.func99.trans (congrArg some (by kernel_rfl))
  t3 := Tryd.underlying3
  a3 := Tryd.isAgg3
  z3 := Tryd.sizeOf3
  v3 := Tryd.zeroValue3
  t4 := Tryd.underlying4
  a4 := Tryd.isAgg4
  z4 := Tryd.sizeOf4
  v4 := Tryd.zeroValue4
  t5 := Tryd.underlying5
  a5 := Tryd.isAgg5
  z5 := Tryd.sizeOf5
  v5 := Tryd.zeroValue5
  t9 := Tryd.underlying9
  a9 := Tryd.isAgg9
  z9 := Tryd.sizeOf9
  v9 := Tryd.zeroValue9
  t46 := Tryd.underlying40
  a46 := Tryd.isAgg40
  z46 := Tryd.sizeOf40
  v46 := Tryd.zeroValue40
  t51 := Tryd.underlying47
  a51 := Tryd.isAgg47
  z51 := Tryd.sizeOf47
  v51 := Tryd.zeroValue47
  t146 := Tryd.underlying124
  a146 := Tryd.isAgg124
  z146 := Tryd.sizeOf124
  v146 := Tryd.zeroValue124 }
open Go.RowKit Go.Lib in
theorem Tryd.bytealg_IndexRabinKarp (s sep : ByteArray) (h1 : 1 ≤ sep.size) (h2 : sep.size ≤ s.size) (hs : s.size < 4294967281) (w : World) :
    Calls Tryd.prog 93 #[.string s, .string sep] w fun e w' => e = .returned (.int .i64 (Lib.index s.data.toList sep.data.toList)) ∧ w' = w := Any.bytealg_IndexRabinKarp Tryd.lays267 s sep h1 h2 hs w
def Tryd.lays219_ren : Go.Shelf.Ren := ⟨fun | 219 => 81 | 217 => 60 | 225 => 91 | 224 => 92 | 267 => 93 | 266 => 75 | 314 => 99 | n => n, fun | 9 => 9 | 3 => 3 | 4 => 4 | 5 => 5 | 46 => 40 | 146 => 124 | 51 => 47 | n => n, fun | 1 => 2 | n => n⟩
theorem Tryd.lays219 : Go.Proofs.Lays.n219 Tryd.prog Tryd.lays219_ren := {
  mixed := by kernel_rfl
  f217 := Tryd.func60.trans (congrArg some (by kernel_rfl))
  f219 := Tryd.func81.trans (congrArg some (by kernel_rfl))
  f224 := Tryd.func92.trans (congrArg some (by kernel_rfl))
  f225 := Tryd.func91.trans (congrArg some (by kernel_rfl))
  f266 := Tryd.func75.trans (congrArg some (by kernel_rfl))
  f267 := Tryd.func93.trans (congrArg some (by kernel_rfl))
  f314 := Tryd.func99.trans (congrArg some (by kernel_rfl))
  t3 := Tryd.underlying3
  a3 := Tryd.isAgg3
  z3 := Tryd.sizeOf3
  v3 := Tryd.zeroValue3
  t4 := Tryd.underlying4
  a4 := Tryd.isAgg4
  z4 := Tryd.sizeOf4
  v4 := Tryd.zeroValue4
  t5 := Tryd.underlying5
  a5 := Tryd.isAgg5
  z5 := Tryd.sizeOf5
  v5 := Tryd.zeroValue5
  t9 := Tryd.underlying9
  a9 := Tryd.isAgg9
  z9 := Tryd.sizeOf9
  v9 := Tryd.zeroValue9
  t46 := Tryd.underlying40
  a46 := Tryd.isAgg40
  z46 := Tryd.sizeOf40
  v46 := Tryd.zeroValue40
  t51 := Tryd.underlying47
  a51 := Tryd.isAgg47
  z51 := Tryd.sizeOf47
  v51 := Tryd.zeroValue47
  t146 := Tryd.underlying124
  a146 := Tryd.isAgg124
  z146 := Tryd.sizeOf124
  v146 := Tryd.zeroValue124
  g1 := by kernel_rfl }
open Go.RowKit Go.Lib in
/-- internal/stringslite.Index (what strings.Index calls) AT A substr OF ONE BYTE c: IT RETURNS 'Lib.indexByte s c'; the world is as it was. (LAID: no walk: one application.) -/
theorem Tryd.stringslite_Index_one (s : ByteArray) (c : UInt8) (w : World) :
    Calls Tryd.prog 81 #[.string s, .string ⟨#[c]⟩] w fun e w' => e = .returned (.int .i64 (Lib.indexByte s.data.toList c)) ∧ w' = w := Any.stringslite_Index_one Tryd.lays219 s c w
open Go.RowKit Go.Lib in
/-- internal/stringslite.Index (what strings.Index calls) AT A substr OF WHATEVER LENGTH: IT RETURNS 'Lib.index s substr'; the world is as it was. 'm': what internal/bytealg.MaxLen holds: whatever. (LAID: no walk: one application.) -/
theorem Tryd.stringslite_Index (s sub : ByteArray) (m : Int) (w : World) (hs : s.size < 4294967281) (hm : w.cell? ⟨2, 0, none⟩ = some (.int .i64 m)) :
    Calls Tryd.prog 81 #[.string s, .string sub] w fun e w' => e = .returned (.int .i64 (Lib.index s.data.toList sub.data.toList)) ∧ w' = w := Any.stringslite_Index Tryd.lays219 s sub m w hs hm
def Tryd.lays143_ren : Go.Shelf.Ren := ⟨fun | 143 => 67 | 219 => 81 | 217 => 60 | 225 => 91 | 224 => 92 | 267 => 93 | 266 => 75 | 314 => 99 | n => n, fun | 9 => 9 | 3 => 3 | 4 => 4 | 5 => 5 | 46 => 40 | 146 => 124 | 51 => 47 | n => n, fun | 1 => 2 | n => n⟩
theorem Tryd.lays143 : Go.Proofs.Lays.n143 Tryd.prog Tryd.lays143_ren := {
  mixed := by kernel_rfl
  f143 := Tryd.func67.trans (congrArg some (by kernel_rfl))
  f217 := Tryd.func60.trans (congrArg some (by kernel_rfl))
  f219 := Tryd.func81.trans (congrArg some (by kernel_rfl))
  f224 := Tryd.func92.trans (congrArg some (by kernel_rfl))
  f225 := Tryd.func91.trans (congrArg some (by kernel_rfl))
  f266 := Tryd.func75.trans (congrArg some (by kernel_rfl))
  f267 := Tryd.func93.trans (congrArg some (by kernel_rfl))
  f314 := Tryd.func99.trans (congrArg some (by kernel_rfl))
  t3 := Tryd.underlying3
  a3 := Tryd.isAgg3
  z3 := Tryd.sizeOf3
  v3 := Tryd.zeroValue3
  t4 := Tryd.underlying4
  a4 := Tryd.isAgg4
  z4 := Tryd.sizeOf4
  v4 := Tryd.zeroValue4
  t5 := Tryd.underlying5
  a5 := Tryd.isAgg5
  z5 := Tryd.sizeOf5
  v5 := Tryd.zeroValue5
  t9 := Tryd.underlying9
  a9 := Tryd.isAgg9
  z9 := Tryd.sizeOf9
  v9 := Tryd.zeroValue9
  t46 := Tryd.underlying40
  a46 := Tryd.isAgg40
  z46 := Tryd.sizeOf40
  v46 := Tryd.zeroValue40
  t51 := Tryd.underlying47
  a51 := Tryd.isAgg47
  z51 := Tryd.sizeOf47
  v51 := Tryd.zeroValue47
  t146 := Tryd.underlying124
  a146 := Tryd.isAgg124
  z146 := Tryd.sizeOf124
  v146 := Tryd.zeroValue124
  g1 := by kernel_rfl }
open Go.RowKit Go.Lib in
/-- strings.Index: "Index returns the index of the first instance of substr in s, or -1 if substr is not present in s.": AT A substr OF ONE BYTE c: IT RETURNS 'Lib.indexByte s c'; the world is as it was. (LAID: no walk: one application.) -/
theorem Tryd.strings_Index_one (s : ByteArray) (c : UInt8) (w : World) :
    Calls Tryd.prog 67 #[.string s, .string ⟨#[c]⟩] w fun e w' => e = .returned (.int .i64 (Lib.indexByte s.data.toList c)) ∧ w' = w := Any.strings_Index_one Tryd.lays143 s c w
open Go.RowKit Go.Lib in
/-- strings.Index: "Index returns the index of the first instance of substr in s, or -1 if substr is not present in s.": IT RETURNS 'Lib.index s substr'; the world is as it was. (LAID: no walk: one application.) -/
theorem Tryd.strings_Index (s sub : ByteArray) (m : Int) (w : World) (hs : s.size < 4294967281) (hm : w.cell? ⟨2, 0, none⟩ = some (.int .i64 m)) :
    Calls Tryd.prog 67 #[.string s, .string sub] w fun e w' => e = .returned (.int .i64 (Lib.index s.data.toList sub.data.toList)) ∧ w' = w := Any.strings_Index Tryd.lays143 s sub m w hs hm
def Tryd.lays138_ren : Go.Shelf.Ren := ⟨fun | 138 => 66 | 195 => 78 | 218 => 80 | 143 => 67 | 219 => 81 | 217 => 60 | 225 => 91 | 224 => 92 | 267 => 93 | 266 => 75 | 314 => 99 | n => n, fun | 9 => 9 | 3 => 3 | 4 => 4 | 5 => 5 | 0 => 0 | 46 => 40 | 146 => 124 | 51 => 47 | n => n, fun | 1 => 2 | n => n⟩
theorem Tryd.lays138 : Go.Proofs.Lays.n138 Tryd.prog Tryd.lays138_ren := {
  mixed := by kernel_rfl
  f138 := Tryd.func66.trans (congrArg some (by kernel_rfl))
  f143 := Tryd.func67.trans (congrArg some (by kernel_rfl))
  f195 := Tryd.func78.trans (congrArg some (by kernel_rfl))
  f217 := Tryd.func60.trans (congrArg some (by kernel_rfl))
  f218 := Tryd.func80.trans (congrArg some (by kernel_rfl))
  f219 := Tryd.func81.trans (congrArg some (by kernel_rfl))
  f224 := Tryd.func92.trans (congrArg some (by kernel_rfl))
  f225 := Tryd.func91.trans (congrArg some (by kernel_rfl))
  f266 := Tryd.func75.trans (congrArg some (by kernel_rfl))
  f267 := Tryd.func93.trans (congrArg some (by kernel_rfl))
  f314 := Tryd.func99.trans (congrArg some (by kernel_rfl))
  t0 := Tryd.underlying0
  a0 := Tryd.isAgg0
  z0 := Tryd.sizeOf0
  v0 := Tryd.zeroValue0
  t3 := Tryd.underlying3
  a3 := Tryd.isAgg3
  z3 := Tryd.sizeOf3
  v3 := Tryd.zeroValue3
  t4 := Tryd.underlying4
  a4 := Tryd.isAgg4
  z4 := Tryd.sizeOf4
  v4 := Tryd.zeroValue4
  t5 := Tryd.underlying5
  a5 := Tryd.isAgg5
  z5 := Tryd.sizeOf5
  v5 := Tryd.zeroValue5
  t9 := Tryd.underlying9
  a9 := Tryd.isAgg9
  z9 := Tryd.sizeOf9
  v9 := Tryd.zeroValue9
  t46 := Tryd.underlying40
  a46 := Tryd.isAgg40
  z46 := Tryd.sizeOf40
  v46 := Tryd.zeroValue40
  t51 := Tryd.underlying47
  a51 := Tryd.isAgg47
  z51 := Tryd.sizeOf47
  v51 := Tryd.zeroValue47
  t146 := Tryd.underlying124
  a146 := Tryd.isAgg124
  z146 := Tryd.sizeOf124
  v146 := Tryd.zeroValue124
  g1 := by kernel_rfl }
open Go.RowKit Go.Lib in
/-- strings.Count AT A substr OF ONE BYTE ('hp'): "Count counts the number of non-overlapping instances of substr in s.": IT RETURNS 'Lib.countByte s (that byte)'; the world is as it was. ✋ NO CONTRACT HERE YET at an empty substr (utf8.RuneCountInString) or at a longer one (a loop over strings.Index). (LAID: no walk: one application.) -/
theorem Tryd.strings_Count_one (s : ByteArray) (c : UInt8) (w : World) :
    Calls Tryd.prog 66 #[.string s, .string ⟨#[c]⟩] w fun e w' => e = .returned (.int .i64 (Lib.countByte s.data.toList c)) ∧ w' = w := Any.strings_Count_one Tryd.lays138 s c w
open Go.RowKit Go.Lib in
/-- strings.Count AT A substr OF TWO BYTES OR MORE: "Count counts the number of non-overlapping instances of substr in s.": IT RETURNS 'Lib.count s substr'; the world is as it was. (LAID: no walk: one application.) -/
theorem Tryd.strings_Count (s sub : ByteArray) (m : Int) (w : World) (hs : s.size < 4294967281) (hm : w.cell? ⟨2, 0, none⟩ = some (.int .i64 m)) (h2 : 2 ≤ sub.size) :
    Calls Tryd.prog 66 #[.string s, .string sub] w fun e w' => e = .returned (.int .i64 (Lib.countB s sub)) ∧ w' = w := Any.strings_Count Tryd.lays138 s sub m w hs hm h2
def Tryd.laysM219_ren : Go.Shelf.Ren := ⟨fun | 219 => 81 | 217 => 60 | 225 => 91 | 224 => 92 | 267 => 93 | 266 => 75 | 314 => 99 | n => n, fun | 9 => 9 | 3 => 3 | 4 => 4 | 5 => 5 | 46 => 40 | 146 => 124 | 51 => 47 | n => n, fun | 1 => 2 | n => n⟩
theorem Tryd.laysM219 : Go.Proofs.LaysM.n219 Tryd.prog Tryd.laysM219_ren := {
  mixed := by kernel_rfl
  f217 := Tryd.func60.trans (congrArg some (by kernel_rfl))
  f219 := Tryd.func81.trans (congrArg some (by kernel_rfl))
  f224 := Tryd.func92.trans (congrArg some (by kernel_rfl))
  f225 := Tryd.func91.trans (congrArg some (by kernel_rfl))
  f266 := Tryd.func75.trans (congrArg some (by kernel_rfl))
  f267 := Tryd.func93.trans (congrArg some (by kernel_rfl))
  f314 := Tryd.func99.trans (congrArg some (by kernel_rfl))
  t3 := Tryd.underlying3
  a3 := Tryd.isAgg3
  z3 := Tryd.sizeOf3
  v3 := Tryd.zeroValue3
  t4 := Tryd.underlying4
  a4 := Tryd.isAgg4
  z4 := Tryd.sizeOf4
  v4 := Tryd.zeroValue4
  t5 := Tryd.underlying5
  a5 := Tryd.isAgg5
  z5 := Tryd.sizeOf5
  v5 := Tryd.zeroValue5
  t9 := Tryd.underlying9
  a9 := Tryd.isAgg9
  z9 := Tryd.sizeOf9
  v9 := Tryd.zeroValue9
  t46 := Tryd.underlying40
  a46 := Tryd.isAgg40
  z46 := Tryd.sizeOf40
  v46 := Tryd.zeroValue40
  t51 := Tryd.underlying47
  a51 := Tryd.isAgg47
  z51 := Tryd.sizeOf47
  v51 := Tryd.zeroValue47
  t146 := Tryd.underlying124
  a146 := Tryd.isAgg124
  z146 := Tryd.sizeOf124
  v146 := Tryd.zeroValue124
  g1 := by kernel_rfl
  i3 := by kernel_rfl
  i4 := by kernel_rfl
  i5 := by kernel_rfl
  i9 := by kernel_rfl
  i46 := by kernel_rfl
  i51 := by kernel_rfl
  i146 := by kernel_rfl
  m1 := by kernel_rfl
  s1_3 := fun w h => Go.Proofs.cell_of_shapedOpen_int (zero := #[.int .i64 0]) (t := 3) h (of_decide_eq_true (by kernel_rfl)) (by kernel_rfl) rfl (by kernel_rfl) (by kernel_rfl) Tryd.underlying3 }
open Go.RowKit Go.Lib in
theorem Tryd.stringslite_Index_shaped (s sub : ByteArray) (w : World) (h : w.ShapedOpen Tryd.prog) (hs : s.size < 4294967281) :
    Calls Tryd.prog 81 #[.string s, .string sub] w fun e w' => e = .returned (.int .i64 (Lib.index s.data.toList sub.data.toList)) ∧ w' = w := Any.stringslite_Index_shaped Tryd.laysM219 s sub w h hs
def Tryd.laysM143_ren : Go.Shelf.Ren := ⟨fun | 143 => 67 | 219 => 81 | 217 => 60 | 225 => 91 | 224 => 92 | 267 => 93 | 266 => 75 | 314 => 99 | n => n, fun | 9 => 9 | 3 => 3 | 4 => 4 | 5 => 5 | 46 => 40 | 146 => 124 | 51 => 47 | n => n, fun | 1 => 2 | n => n⟩
theorem Tryd.laysM143 : Go.Proofs.LaysM.n143 Tryd.prog Tryd.laysM143_ren := {
  mixed := by kernel_rfl
  f143 := Tryd.func67.trans (congrArg some (by kernel_rfl))
  f217 := Tryd.func60.trans (congrArg some (by kernel_rfl))
  f219 := Tryd.func81.trans (congrArg some (by kernel_rfl))
  f224 := Tryd.func92.trans (congrArg some (by kernel_rfl))
  f225 := Tryd.func91.trans (congrArg some (by kernel_rfl))
  f266 := Tryd.func75.trans (congrArg some (by kernel_rfl))
  f267 := Tryd.func93.trans (congrArg some (by kernel_rfl))
  f314 := Tryd.func99.trans (congrArg some (by kernel_rfl))
  t3 := Tryd.underlying3
  a3 := Tryd.isAgg3
  z3 := Tryd.sizeOf3
  v3 := Tryd.zeroValue3
  t4 := Tryd.underlying4
  a4 := Tryd.isAgg4
  z4 := Tryd.sizeOf4
  v4 := Tryd.zeroValue4
  t5 := Tryd.underlying5
  a5 := Tryd.isAgg5
  z5 := Tryd.sizeOf5
  v5 := Tryd.zeroValue5
  t9 := Tryd.underlying9
  a9 := Tryd.isAgg9
  z9 := Tryd.sizeOf9
  v9 := Tryd.zeroValue9
  t46 := Tryd.underlying40
  a46 := Tryd.isAgg40
  z46 := Tryd.sizeOf40
  v46 := Tryd.zeroValue40
  t51 := Tryd.underlying47
  a51 := Tryd.isAgg47
  z51 := Tryd.sizeOf47
  v51 := Tryd.zeroValue47
  t146 := Tryd.underlying124
  a146 := Tryd.isAgg124
  z146 := Tryd.sizeOf124
  v146 := Tryd.zeroValue124
  g1 := by kernel_rfl
  i3 := by kernel_rfl
  i4 := by kernel_rfl
  i5 := by kernel_rfl
  i9 := by kernel_rfl
  i46 := by kernel_rfl
  i51 := by kernel_rfl
  i146 := by kernel_rfl
  m1 := by kernel_rfl
  s1_3 := fun w h => Go.Proofs.cell_of_shapedOpen_int (zero := #[.int .i64 0]) (t := 3) h (of_decide_eq_true (by kernel_rfl)) (by kernel_rfl) rfl (by kernel_rfl) (by kernel_rfl) Tryd.underlying3 }
open Go.RowKit Go.Lib in
theorem Tryd.strings_Index_shaped (s sub : ByteArray) (w : World) (h : w.ShapedOpen Tryd.prog) (hs : s.size < 4294967281) :
    Calls Tryd.prog 67 #[.string s, .string sub] w fun e w' => e = .returned (.int .i64 (Lib.index s.data.toList sub.data.toList)) ∧ w' = w := Any.strings_Index_shaped Tryd.laysM143 s sub w h hs
def Tryd.laysM138_ren : Go.Shelf.Ren := ⟨fun | 138 => 66 | 195 => 78 | 218 => 80 | 143 => 67 | 219 => 81 | 217 => 60 | 225 => 91 | 224 => 92 | 267 => 93 | 266 => 75 | 314 => 99 | n => n, fun | 9 => 9 | 3 => 3 | 4 => 4 | 5 => 5 | 0 => 0 | 46 => 40 | 146 => 124 | 51 => 47 | n => n, fun | 1 => 2 | n => n⟩
theorem Tryd.laysM138 : Go.Proofs.LaysM.n138 Tryd.prog Tryd.laysM138_ren := {
  mixed := by kernel_rfl
  f138 := Tryd.func66.trans (congrArg some (by kernel_rfl))
  f143 := Tryd.func67.trans (congrArg some (by kernel_rfl))
  f195 := Tryd.func78.trans (congrArg some (by kernel_rfl))
  f217 := Tryd.func60.trans (congrArg some (by kernel_rfl))
  f218 := Tryd.func80.trans (congrArg some (by kernel_rfl))
  f219 := Tryd.func81.trans (congrArg some (by kernel_rfl))
  f224 := Tryd.func92.trans (congrArg some (by kernel_rfl))
  f225 := Tryd.func91.trans (congrArg some (by kernel_rfl))
  f266 := Tryd.func75.trans (congrArg some (by kernel_rfl))
  f267 := Tryd.func93.trans (congrArg some (by kernel_rfl))
  f314 := Tryd.func99.trans (congrArg some (by kernel_rfl))
  t0 := Tryd.underlying0
  a0 := Tryd.isAgg0
  z0 := Tryd.sizeOf0
  v0 := Tryd.zeroValue0
  t3 := Tryd.underlying3
  a3 := Tryd.isAgg3
  z3 := Tryd.sizeOf3
  v3 := Tryd.zeroValue3
  t4 := Tryd.underlying4
  a4 := Tryd.isAgg4
  z4 := Tryd.sizeOf4
  v4 := Tryd.zeroValue4
  t5 := Tryd.underlying5
  a5 := Tryd.isAgg5
  z5 := Tryd.sizeOf5
  v5 := Tryd.zeroValue5
  t9 := Tryd.underlying9
  a9 := Tryd.isAgg9
  z9 := Tryd.sizeOf9
  v9 := Tryd.zeroValue9
  t46 := Tryd.underlying40
  a46 := Tryd.isAgg40
  z46 := Tryd.sizeOf40
  v46 := Tryd.zeroValue40
  t51 := Tryd.underlying47
  a51 := Tryd.isAgg47
  z51 := Tryd.sizeOf47
  v51 := Tryd.zeroValue47
  t146 := Tryd.underlying124
  a146 := Tryd.isAgg124
  z146 := Tryd.sizeOf124
  v146 := Tryd.zeroValue124
  g1 := by kernel_rfl
  i0 := by kernel_rfl
  i3 := by kernel_rfl
  i4 := by kernel_rfl
  i5 := by kernel_rfl
  i9 := by kernel_rfl
  i46 := by kernel_rfl
  i51 := by kernel_rfl
  i146 := by kernel_rfl
  m1 := by kernel_rfl
  s1_3 := fun w h => Go.Proofs.cell_of_shapedOpen_int (zero := #[.int .i64 0]) (t := 3) h (of_decide_eq_true (by kernel_rfl)) (by kernel_rfl) rfl (by kernel_rfl) (by kernel_rfl) Tryd.underlying3 }
open Go.RowKit Go.Lib in
theorem Tryd.strings_Count_shaped (s sub : ByteArray) (w : World) (h : w.ShapedOpen Tryd.prog) (hs : s.size < 4294967281) (h2 : 2 ≤ sub.size) :
    Calls Tryd.prog 66 #[.string s, .string sub] w fun e w' => e = .returned (.int .i64 (Lib.countB s sub)) ∧ w' = w := Any.strings_Count_shaped Tryd.laysM138 s sub w h hs h2
open Go.RowKit Go.Lib in
/-- strings.Count at whatever sep that is not empty: the two roads under one statement. (LAID: no walk: one application.) -/
theorem Tryd.strings_Count_any (s sep : ByteArray) (m : Int) (w : World) (hs : s.size < 4294967281) (hm : w.cell? ⟨2, 0, none⟩ = some (.int .i64 m)) (h1 : 1 ≤ sep.size) :
    Calls Tryd.prog 66 #[.string s, .string sep] w fun e w' => e = .returned (.int .i64 (Lib.countB s sep)) ∧ w' = w := Any.strings_Count_any Tryd.lays138 s sep m w hs hm h1
def Tryd.lays221_ren : Go.Shelf.Ren := ⟨fun | 221 => 56 | 268 => 65 | 138 => 66 | 143 => 67 | 195 => 78 | 197 => 79 | 218 => 80 | 219 => 81 | 260 => 90 | 217 => 60 | 225 => 91 | 224 => 92 | 267 => 93 | 266 => 75 | 314 => 99 | n => n, fun | 9 => 9 | 3 => 3 | 31 => 28 | 4 => 4 | 0 => 0 | 105 => 97 | 21 => 21 | 5 => 5 | 46 => 40 | 119 => 120 | 139 => 123 | 138 => 122 | 146 => 124 | 51 => 47 | n => n, fun | 1 => 2 | 3 => 4 | 4 => 5 | n => n⟩
theorem Tryd.lays221 : Go.Proofs.Lays.n221 Tryd.prog Tryd.lays221_ren := {
  mixed := by kernel_rfl
  f138 := Tryd.func66.trans (congrArg some (by kernel_rfl))
  f143 := Tryd.func67.trans (congrArg some (by kernel_rfl))
  f195 := Tryd.func78.trans (congrArg some (by kernel_rfl))
  f197 := Tryd.func79.trans (congrArg some (by kernel_rfl))
  f217 := Tryd.func60.trans (congrArg some (by kernel_rfl))
  f218 := Tryd.func80.trans (congrArg some (by kernel_rfl))
  f219 := Tryd.func81.trans (congrArg some (by kernel_rfl))
  f221 := Tryd.func56.trans (congrArg some (by kernel_rfl))
  f224 := Tryd.func92.trans (congrArg some (by kernel_rfl))
  f225 := Tryd.func91.trans (congrArg some (by kernel_rfl))
  f260 := Tryd.func90.trans (congrArg some (by kernel_rfl))
  f266 := Tryd.func75.trans (congrArg some (by kernel_rfl))
  f267 := Tryd.func93.trans (congrArg some (by kernel_rfl))
  f268 := Tryd.func65.trans (congrArg some (by kernel_rfl))
  f314 := Tryd.func99.trans (congrArg some (by kernel_rfl))
  t0 := Tryd.underlying0
  a0 := Tryd.isAgg0
  z0 := Tryd.sizeOf0
  v0 := Tryd.zeroValue0
  t3 := Tryd.underlying3
  a3 := Tryd.isAgg3
  z3 := Tryd.sizeOf3
  v3 := Tryd.zeroValue3
  t4 := Tryd.underlying4
  a4 := Tryd.isAgg4
  z4 := Tryd.sizeOf4
  v4 := Tryd.zeroValue4
  t5 := Tryd.underlying5
  a5 := Tryd.isAgg5
  z5 := Tryd.sizeOf5
  v5 := Tryd.zeroValue5
  t9 := Tryd.underlying9
  a9 := Tryd.isAgg9
  z9 := Tryd.sizeOf9
  v9 := Tryd.zeroValue9
  t21 := Tryd.underlying21
  a21 := Tryd.isAgg21
  z21 := Tryd.sizeOf21
  v21 := Tryd.zeroValue21
  t31 := Tryd.underlying28
  a31 := Tryd.isAgg28
  z31 := Tryd.sizeOf28
  v31 := Tryd.zeroValue28
  t46 := Tryd.underlying40
  a46 := Tryd.isAgg40
  z46 := Tryd.sizeOf40
  v46 := Tryd.zeroValue40
  t51 := Tryd.underlying47
  a51 := Tryd.isAgg47
  z51 := Tryd.sizeOf47
  v51 := Tryd.zeroValue47
  t105 := Tryd.underlying97
  a105 := Tryd.isAgg97
  z105 := Tryd.sizeOf97
  v105 := Tryd.zeroValue97
  t119 := Tryd.underlying120
  a119 := Tryd.isAgg120
  z119 := Tryd.sizeOf120
  t138 := Tryd.underlying122
  a138 := Tryd.isAgg122
  z138 := Tryd.sizeOf122
  v138 := Tryd.zeroValue122
  t139 := Tryd.underlying123
  a139 := Tryd.isAgg123
  z139 := Tryd.sizeOf123
  v139 := Tryd.zeroValue123
  t146 := Tryd.underlying124
  a146 := Tryd.isAgg124
  z146 := Tryd.sizeOf124
  v146 := Tryd.zeroValue124
  g1 := by kernel_rfl
  g3 := by kernel_rfl
  g4 := by kernel_rfl }
open Go.RowKit Go.Lib in
theorem Tryd.strings_genSplit (s sep : ByteArray) (sv : Nat) (n : Int) (N : Nat) (m : Int) (w : World) (hs : s.size < 4294967281) (hm : w.cell? ⟨2, 0, none⟩ = some (.int .i64 m)) (h1 : 1 ≤ sep.size) (hsv : sv ≤ sep.size) (hn0 : n ≠ 0) (hn63 : n ≤ 9223372036854775807) (hN : (N : Int) = min (if n < 0 then (Lib.countB s sep : Int) + 1 else n) ((s.size : Int) + 1)) :
    Calls Tryd.prog 56 #[.string s, .string sep, .int .i64 sv, .int .i64 n] w fun e w' =>
      e = .returned (.slice (some ⟨w.heap.size, 0, none⟩) (Lib.splitB sep sv (N - 1) s).length N) ∧ w' = w.alloc (.cells (Lib.cellsOf (Lib.splitB sep sv (N - 1) s) N) 9) := Any.strings_genSplit Tryd.lays221 (by kernel_rfl) s sep sv n N m w hs hm h1 hsv hn0 hn63 hN
def Tryd.lays146_ren : Go.Shelf.Ren := ⟨fun | 146 => 48 | 221 => 56 | 268 => 65 | 138 => 66 | 143 => 67 | 195 => 78 | 197 => 79 | 218 => 80 | 219 => 81 | 260 => 90 | 217 => 60 | 225 => 91 | 224 => 92 | 267 => 93 | 266 => 75 | 314 => 99 | n => n, fun | 9 => 9 | 31 => 28 | 3 => 3 | 4 => 4 | 0 => 0 | 105 => 97 | 21 => 21 | 5 => 5 | 46 => 40 | 119 => 120 | 139 => 123 | 138 => 122 | 146 => 124 | 51 => 47 | n => n, fun | 1 => 2 | 3 => 4 | 4 => 5 | n => n⟩
theorem Tryd.lays146 : Go.Proofs.Lays.n146 Tryd.prog Tryd.lays146_ren := {
  mixed := by kernel_rfl
  f138 := Tryd.func66.trans (congrArg some (by kernel_rfl))
  f143 := Tryd.func67.trans (congrArg some (by kernel_rfl))
  f146 := Tryd.func48.trans (congrArg some (by kernel_rfl))
  f195 := Tryd.func78.trans (congrArg some (by kernel_rfl))
  f197 := Tryd.func79.trans (congrArg some (by kernel_rfl))
  f217 := Tryd.func60.trans (congrArg some (by kernel_rfl))
  f218 := Tryd.func80.trans (congrArg some (by kernel_rfl))
  f219 := Tryd.func81.trans (congrArg some (by kernel_rfl))
  f221 := Tryd.func56.trans (congrArg some (by kernel_rfl))
  f224 := Tryd.func92.trans (congrArg some (by kernel_rfl))
  f225 := Tryd.func91.trans (congrArg some (by kernel_rfl))
  f260 := Tryd.func90.trans (congrArg some (by kernel_rfl))
  f266 := Tryd.func75.trans (congrArg some (by kernel_rfl))
  f267 := Tryd.func93.trans (congrArg some (by kernel_rfl))
  f268 := Tryd.func65.trans (congrArg some (by kernel_rfl))
  f314 := Tryd.func99.trans (congrArg some (by kernel_rfl))
  t0 := Tryd.underlying0
  a0 := Tryd.isAgg0
  z0 := Tryd.sizeOf0
  v0 := Tryd.zeroValue0
  t3 := Tryd.underlying3
  a3 := Tryd.isAgg3
  z3 := Tryd.sizeOf3
  v3 := Tryd.zeroValue3
  t4 := Tryd.underlying4
  a4 := Tryd.isAgg4
  z4 := Tryd.sizeOf4
  v4 := Tryd.zeroValue4
  t5 := Tryd.underlying5
  a5 := Tryd.isAgg5
  z5 := Tryd.sizeOf5
  v5 := Tryd.zeroValue5
  t9 := Tryd.underlying9
  a9 := Tryd.isAgg9
  z9 := Tryd.sizeOf9
  v9 := Tryd.zeroValue9
  t21 := Tryd.underlying21
  a21 := Tryd.isAgg21
  z21 := Tryd.sizeOf21
  v21 := Tryd.zeroValue21
  t31 := Tryd.underlying28
  a31 := Tryd.isAgg28
  z31 := Tryd.sizeOf28
  v31 := Tryd.zeroValue28
  t46 := Tryd.underlying40
  a46 := Tryd.isAgg40
  z46 := Tryd.sizeOf40
  v46 := Tryd.zeroValue40
  t51 := Tryd.underlying47
  a51 := Tryd.isAgg47
  z51 := Tryd.sizeOf47
  v51 := Tryd.zeroValue47
  t105 := Tryd.underlying97
  a105 := Tryd.isAgg97
  z105 := Tryd.sizeOf97
  v105 := Tryd.zeroValue97
  t119 := Tryd.underlying120
  a119 := Tryd.isAgg120
  z119 := Tryd.sizeOf120
  t138 := Tryd.underlying122
  a138 := Tryd.isAgg122
  z138 := Tryd.sizeOf122
  v138 := Tryd.zeroValue122
  t139 := Tryd.underlying123
  a139 := Tryd.isAgg123
  z139 := Tryd.sizeOf123
  v139 := Tryd.zeroValue123
  t146 := Tryd.underlying124
  a146 := Tryd.isAgg124
  z146 := Tryd.sizeOf124
  v146 := Tryd.zeroValue124
  g1 := by kernel_rfl
  g3 := by kernel_rfl
  g4 := by kernel_rfl }
open Go.RowKit Go.Lib in
/-- strings.Split. (LAID: no walk: one application.) -/
theorem Tryd.strings_Split (s sep : ByteArray) (m : Int) (w : World) (hs : s.size < 4294967281) (hm : w.cell? ⟨2, 0, none⟩ = some (.int .i64 m)) (h1 : 1 ≤ sep.size) :
    Calls Tryd.prog 48 #[.string s, .string sep] w fun e w' =>
      e = .returned (.slice (some ⟨w.heap.size, 0, none⟩) (Lib.countB s sep + 1) (Lib.countB s sep + 1)) ∧ w' = w.alloc (.cells ((Lib.splitB sep 0 (Lib.countB s sep) s).map Value.string).toArray 9) := Any.strings_Split Tryd.lays146 (by kernel_rfl) s sep m w hs hm h1
def Tryd.laysM146_ren : Go.Shelf.Ren := ⟨fun | 146 => 48 | 221 => 56 | 268 => 65 | 138 => 66 | 143 => 67 | 195 => 78 | 197 => 79 | 218 => 80 | 219 => 81 | 260 => 90 | 217 => 60 | 225 => 91 | 224 => 92 | 267 => 93 | 266 => 75 | 314 => 99 | n => n, fun | 9 => 9 | 31 => 28 | 3 => 3 | 4 => 4 | 0 => 0 | 105 => 97 | 21 => 21 | 5 => 5 | 46 => 40 | 119 => 120 | 139 => 123 | 138 => 122 | 146 => 124 | 51 => 47 | n => n, fun | 1 => 2 | 3 => 4 | 4 => 5 | n => n⟩
theorem Tryd.laysM146 : Go.Proofs.LaysM.n146 Tryd.prog Tryd.laysM146_ren := {
  mixed := by kernel_rfl
  f138 := Tryd.func66.trans (congrArg some (by kernel_rfl))
  f143 := Tryd.func67.trans (congrArg some (by kernel_rfl))
  f146 := Tryd.func48.trans (congrArg some (by kernel_rfl))
  f195 := Tryd.func78.trans (congrArg some (by kernel_rfl))
  f197 := Tryd.func79.trans (congrArg some (by kernel_rfl))
  f217 := Tryd.func60.trans (congrArg some (by kernel_rfl))
  f218 := Tryd.func80.trans (congrArg some (by kernel_rfl))
  f219 := Tryd.func81.trans (congrArg some (by kernel_rfl))
  f221 := Tryd.func56.trans (congrArg some (by kernel_rfl))
  f224 := Tryd.func92.trans (congrArg some (by kernel_rfl))
  f225 := Tryd.func91.trans (congrArg some (by kernel_rfl))
  f260 := Tryd.func90.trans (congrArg some (by kernel_rfl))
  f266 := Tryd.func75.trans (congrArg some (by kernel_rfl))
  f267 := Tryd.func93.trans (congrArg some (by kernel_rfl))
  f268 := Tryd.func65.trans (congrArg some (by kernel_rfl))
  f314 := Tryd.func99.trans (congrArg some (by kernel_rfl))
  t0 := Tryd.underlying0
  a0 := Tryd.isAgg0
  z0 := Tryd.sizeOf0
  v0 := Tryd.zeroValue0
  t3 := Tryd.underlying3
  a3 := Tryd.isAgg3
  z3 := Tryd.sizeOf3
  v3 := Tryd.zeroValue3
  t4 := Tryd.underlying4
  a4 := Tryd.isAgg4
  z4 := Tryd.sizeOf4
  v4 := Tryd.zeroValue4
  t5 := Tryd.underlying5
  a5 := Tryd.isAgg5
  z5 := Tryd.sizeOf5
  v5 := Tryd.zeroValue5
  t9 := Tryd.underlying9
  a9 := Tryd.isAgg9
  z9 := Tryd.sizeOf9
  v9 := Tryd.zeroValue9
  t21 := Tryd.underlying21
  a21 := Tryd.isAgg21
  z21 := Tryd.sizeOf21
  v21 := Tryd.zeroValue21
  t31 := Tryd.underlying28
  a31 := Tryd.isAgg28
  z31 := Tryd.sizeOf28
  v31 := Tryd.zeroValue28
  t46 := Tryd.underlying40
  a46 := Tryd.isAgg40
  z46 := Tryd.sizeOf40
  v46 := Tryd.zeroValue40
  t51 := Tryd.underlying47
  a51 := Tryd.isAgg47
  z51 := Tryd.sizeOf47
  v51 := Tryd.zeroValue47
  t105 := Tryd.underlying97
  a105 := Tryd.isAgg97
  z105 := Tryd.sizeOf97
  v105 := Tryd.zeroValue97
  t119 := Tryd.underlying120
  a119 := Tryd.isAgg120
  z119 := Tryd.sizeOf120
  t138 := Tryd.underlying122
  a138 := Tryd.isAgg122
  z138 := Tryd.sizeOf122
  v138 := Tryd.zeroValue122
  t139 := Tryd.underlying123
  a139 := Tryd.isAgg123
  z139 := Tryd.sizeOf123
  v139 := Tryd.zeroValue123
  t146 := Tryd.underlying124
  a146 := Tryd.isAgg124
  z146 := Tryd.sizeOf124
  v146 := Tryd.zeroValue124
  g1 := by kernel_rfl
  g3 := by kernel_rfl
  g4 := by kernel_rfl
  i0 := by kernel_rfl
  i3 := by kernel_rfl
  i4 := by kernel_rfl
  i5 := by kernel_rfl
  i9 := by kernel_rfl
  i21 := by kernel_rfl
  i31 := by kernel_rfl
  i46 := by kernel_rfl
  i51 := by kernel_rfl
  i105 := by kernel_rfl
  i138 := by kernel_rfl
  i139 := by kernel_rfl
  i146 := by kernel_rfl
  m1 := by kernel_rfl
  s1_3 := fun w h => Go.Proofs.cell_of_shapedOpen_int (zero := #[.int .i64 0]) (t := 3) h (of_decide_eq_true (by kernel_rfl)) (by kernel_rfl) rfl (by kernel_rfl) (by kernel_rfl) Tryd.underlying3
  m3 := by kernel_rfl
  m4 := by kernel_rfl }
open Go.RowKit Go.Lib in
/-- strings.Split, sep not empty. (LAID: no walk: one application.) -/
theorem Tryd.strings_Split_shaped (s sep : ByteArray) (w : World) (h : w.ShapedOpen Tryd.prog) (hs : s.size < 4294967281) (h1 : 1 ≤ sep.size) :
    Calls Tryd.prog 48 #[.string s, .string sep] w fun e w' =>
      e = .returned (.slice (some ⟨w.heap.size, 0, none⟩) (Lib.countB s sep + 1) (Lib.countB s sep + 1)) ∧ w' = w.alloc (.cells ((Lib.splitB sep 0 (Lib.countB s sep) s).map Value.string).toArray 9) := Any.strings_Split_shaped Tryd.laysM146 s sep w h hs h1
def Tryd.lays260_ren : Go.Shelf.Ren := ⟨fun | 260 => 90 | n => n, fun | 9 => 9 | 21 => 21 | 3 => 3 | 4 => 4 | 5 => 5 | 119 => 120 | 0 => 0 | 46 => 40 | 139 => 123 | 138 => 122 | n => n, fun | 3 => 4 | 4 => 5 | n => n⟩
theorem Tryd.lays260 : Go.Proofs.Lays.n260 Tryd.prog Tryd.lays260_ren := {
  mixed := by kernel_rfl
  f260 := Tryd.func90.trans (congrArg some (by kernel_rfl))
  t0 := Tryd.underlying0
  a0 := Tryd.isAgg0
  z0 := Tryd.sizeOf0
  v0 := Tryd.zeroValue0
  t3 := Tryd.underlying3
  a3 := Tryd.isAgg3
  z3 := Tryd.sizeOf3
  v3 := Tryd.zeroValue3
  t4 := Tryd.underlying4
  a4 := Tryd.isAgg4
  z4 := Tryd.sizeOf4
  v4 := Tryd.zeroValue4
  t5 := Tryd.underlying5
  a5 := Tryd.isAgg5
  z5 := Tryd.sizeOf5
  v5 := Tryd.zeroValue5
  t9 := Tryd.underlying9
  a9 := Tryd.isAgg9
  z9 := Tryd.sizeOf9
  v9 := Tryd.zeroValue9
  t21 := Tryd.underlying21
  a21 := Tryd.isAgg21
  z21 := Tryd.sizeOf21
  v21 := Tryd.zeroValue21
  t46 := Tryd.underlying40
  a46 := Tryd.isAgg40
  z46 := Tryd.sizeOf40
  v46 := Tryd.zeroValue40
  t119 := Tryd.underlying120
  a119 := Tryd.isAgg120
  z119 := Tryd.sizeOf120
  t138 := Tryd.underlying122
  a138 := Tryd.isAgg122
  z138 := Tryd.sizeOf122
  v138 := Tryd.zeroValue122
  t139 := Tryd.underlying123
  a139 := Tryd.isAgg123
  z139 := Tryd.sizeOf123
  v139 := Tryd.zeroValue123
  g3 := by kernel_rfl
  g4 := by kernel_rfl }
open Go.RowKit Go.Lib in
theorem Tryd.utf8_decodeRuneInStringSlow (s : ByteArray) (w : World) (hT : Lib.Utf8Tabs 4 5 w) :
    Calls Tryd.prog 90 #[.string s] w fun e w' => e = .returned (.tuple #[.int .i32 (Lib.decodeGo s).1, .int .i64 (Lib.decodeGo s).2]) ∧ Below w.heap.size w w' := Any.utf8_decodeRuneInStringSlow Tryd.lays260 s w hT
end Go.Proofs

/-
  The library's functions that layer 1 calls: what a call of each is, over heaps.
-/
set_option linter.unusedSimpArgs false
set_option linter.unusedVariables false
namespace Go.Proofs.YtlioifgejijcoaaDoor
open Go Go.Hw Go.RowKit Go.Sort

theorem push_old {w : World} {o o' : Obj} {b : Nat} (hb : hpOf w b = some o) : (w.heap.push o')[b]? = some o := by
  have hlt : b < w.heap.size := (Array.getElem?_eq_some_iff.1 hb).1
  rw [Array.getElem?_push, if_neg (by omega)]; exact hb
theorem frzn_ne {h : Hp} {a : Addr} {n b : Nat} (hn : b ≠ a.block) : frzn h a n b = h b := by
  unfold frzn
  split
  · rfl
  · cases hq : h a.block with
    | none => rfl
    | some o => cases o <;> first | rfl | (simp only; rw [upd_ne hn])
theorem ext_below {w w' : World} {B : Nat} (hB : w.heap.size ≤ B) (h : Below B w w') : Ext none' (hpOf w) (hpOf w') := by
  intro b o hb _
  have hlt : b < w.heap.size := (Array.getElem?_eq_some_iff.1 hb).1
  show w'.heap[b]? = _
  rw [h.block b (by omega)]; exact hb
theorem kp_below {w w' : World} {B : Nat} (h : Below B w w') : Kp w w' := ⟨h.os, h.output⟩
theorem ext_grow (w : World) (os : Array Obj) (n : Nat) : Ext none' (hpOf w) (hpOf (grow (w.drewN n) os)) := by
  intro b o hb _
  have hlt : b < w.heap.size := (Array.getElem?_eq_some_iff.1 hb).1
  show (w.heap ++ os)[b]? = _
  rw [Array.getElem?_append_left hlt]; exact hb

/-- the variables of the library that are read -/
structure Glob (h : Hp) : Prop where
  pow : ∀ i z, Lib.pow10Tab[i]? = some z → cell h ⟨3, i, none⟩ = some (.int .u64 z)
  powN : ∃ cs e fr, h 3 = some (.cells ⟨cs⟩ e fr) ∧ cs.length = 20
  syn : ∃ te pe, cell h ⟨0, 0, none⟩ = some (.iface te pe)
  rng : ∃ te pe, cell h ⟨1, 0, none⟩ = some (.iface te pe)
  max : ∃ m, cell h ⟨2, 0, none⟩ = some (.int .i64 m)
theorem Glob.ext {h h' : Hp} (G : Glob h) (he : Ext none' h h') : Glob h' :=
  ⟨fun i z hz => cellx he (G.pow i z hz), let ⟨cs, e, fr, hb, hl⟩ := G.powN; ⟨cs, e, fr, he _ _ hb (fun e => e), hl⟩, let ⟨a, b, hc⟩ := G.syn; ⟨a, b, cellx he hc⟩, let ⟨a, b, hc⟩ := G.rng; ⟨a, b, cellx he hc⟩, let ⟨m, hc⟩ := G.max; ⟨m, cellx he hc⟩⟩

theorem c_leading {x : Int} {h : Hp} {K : Int → Hp → Prop} (h0 : 0 ≤ x) (h1 : x ≤ 4294967295) (hK : K (32 - (Lib.bitLen x.toNat : Int)) h) : C55 x h K := by
  intro w hw
  refine (Tryd.bits_LeadingZeros32 x w h0 h1).mono ?_
  rintro e w' ⟨rfl, rfl⟩
  exact ⟨_, rfl, by rw [hw]; exact hK, Kp.refl _⟩
theorem c_indexByte {s : ByteArray} {c : Int} {h : Hp} {K : Int → Hp → Prop} (hK : K (Lib.indexByte s.data.toList c.toNat.toUInt8) h) : C51 s c h K := by
  intro w hw
  refine (Tryd.strings_IndexByte s c w).mono ?_
  rintro e w' ⟨rfl, rfl⟩
  exact ⟨_, rfl, by rw [hw]; exact hK, Kp.refl _⟩
theorem pow_len : Lib.pow10Tab.length = 20 := by decide
theorem tab_of {w : World} (G : Glob (hpOf w)) : Lib.TabIs Tryd.prog w "internal/strconv.uint64pow10" .u64 Lib.pow10Tab := by
  obtain ⟨cs, e, fr, hb, hl⟩ := G.powN
  have hg : Tryd.prog.globalNamed "internal/strconv.uint64pow10" = some 3 := by kernel_rfl
  unfold Lib.TabIs World.var?
  rw [hg]
  have hb' : w.heap[3]? = some (.cells ⟨cs⟩ e fr) := hb
  simp only [Option.bind_some, hb']
  congr 1
  apply Array.ext'
  show cs = Lib.pow10Tab.map fun z => Value.int .u64 z
  apply List.ext_getElem?
  intro i
  by_cases hi : i < 20
  · have h1 : i < Lib.pow10Tab.length := by rw [pow_len]; exact hi
    have h2 := G.pow i _ (List.getElem?_eq_getElem h1)
    rw [cell_at hb] at h2
    rw [h2, List.getElem?_map, List.getElem?_eq_getElem h1]; rfl
  · rw [List.getElem?_eq_none (by omega), List.getElem?_eq_none (by rw [List.length_map, pow_len]; omega)]
theorem c_itoa {n : Int} {h : Hp} {K : ByteArray → Hp → Prop} (G : Glob h) (h0 : -9223372036854775808 ≤ n) (h1 : n ≤ 9223372036854775807) (hK : ∀ h', Ext none' h h' → K ⟨⟨Lib.itoa n⟩⟩ h') : C50 n h K := by
  intro w hw
  subst hw
  refine (Tryd.strconv_Itoa n h0 h1 w (tab_of G)).mono ?_
  rintro e w' ⟨rfl, k, os, rfl⟩
  exact ⟨_, rfl, hK _ (ext_grow w os k), rfl, rfl⟩
/-- an error that is one -/
def isErr : Value → Prop
  | .iface _ _ => True
  | _ => False
theorem c_parse8 {s : ByteArray} {h : Hp} {K : Int → Value → Hp → Prop} (G : Glob h) (hs : s.size ≤ 281474976710656)
    (hok : ∀ u : Nat, Lib.parseUintB 8 s.data.toList = .ok u → ∀ h', Ext none' h h' → K u .nilIface h') (hbad : (∀ u : Nat, Lib.parseUintB 8 s.data.toList ≠ .ok u) → ∀ n v h', Ext none' h h' → isErr v → K n v h') : C49 s 10 8 h K := by
  intro w hw
  subst hw
  cases hp : Lib.parseUintB 8 s.data.toList with
  | ok u =>
    refine (Tryd.strconv_ParseUint_10_at8_ok s (by omega) u hp w).mono ?_
    rintro e w' ⟨rfl, hw'⟩
    have hx : Ext none' (hpOf w) (hpOf w') ∧ Kp w w' := by
      rcases hw' with rfl | rfl
      · exact ⟨Ext.refl, Kp.refl _⟩
      · refine ⟨?_, ?_⟩
        · intro b o hb _
          have hlt : b < w.heap.size := (Array.getElem?_eq_some_iff.1 hb).1
          unfold Lib.bytesWorld
          rw [frzn_hp, frzn_ne (by show b ≠ w.heap.size; omega)]
          exact push_old (w := w.drew) hb
        · unfold Lib.bytesWorld World.freeze
          split <;> exact ⟨rfl, rfl⟩
    exact ⟨_, rfl, hok u hp _ hx.1, hx.2⟩
  | range =>
    obtain ⟨te, pe, hc⟩ := G.rng
    refine (Tryd.strconv_ParseUint_10_at8_range s hs hp (.iface te pe) w hc (.inr ⟨te, pe, rfl⟩)).mono ?_
    rintro e w' ⟨N, rfl, _, _, hb⟩
    exact ⟨_, rfl, hbad (fun u hu => by rw [hp] at hu; cases hu) _ _ _ (ext_below (Nat.le_refl _) hb) trivial, kp_below hb⟩
  | _ =>
    obtain ⟨te, pe, hc⟩ := G.syn
    refine (Any.strconv_ParseUint_10_at8_syntax Tryd.laysPu14 s hs hp (.iface te pe) w hc (.inr ⟨te, pe, rfl⟩)).mono ?_
    rintro e w' ⟨N, rfl, _, _, hb⟩
    exact ⟨_, rfl, hbad (fun u hu => by rw [hp] at hu; cases hu) _ _ _ (ext_below (Nat.le_refl _) hb) trivial, kp_below hb⟩
theorem c_split {s sep : ByteArray} {h : Hp} {K : Sl → Hp → Prop} (G : Glob h) (hs : s.size < 4294967281) (h1 : 1 ≤ sep.size)
    (hK : ∀ h' t, NewO h h' 9 1 t ((Lib.splitB sep 0 (Lib.countB s sep) s).map Value.string) → K t h') (hlen : (Lib.splitB sep 0 (Lib.countB s sep) s).length = Lib.countB s sep + 1) : C48 s sep h K := by
  intro w hw
  subst hw
  obtain ⟨m, hm⟩ := G.max
  refine (Tryd.strings_Split s sep m w hs hm h1).mono ?_
  rintro e w' ⟨rfl, rfl⟩
  refine ⟨_, rfl, hK _ ⟨some (bk w.heap.size), _, _⟩ ⟨?_, ⟨?_, Nat.le_refl _, rfl, ((Lib.splitB sep 0 (Lib.countB s sep) s).map Value.string), ?_, ?_, ?_⟩, ?_⟩, rfl, rfl⟩
  · intro b o hb _
    exact push_old hb
  · simp [hlen]
  · show (w.heap.push _)[w.heap.size]? = _
    simp
  · simp [hlen]
  · exact List.take_of_length_le (by simp)
  · intro b hb
    simp only [Option.some.injEq] at hb
    have : b = w.heap.size := (congrArg Addr.block hb).symm
    subst this
    exact new_none w
theorem c_join {s : Sl} {xs : List ByteArray} {sep : ByteArray} {h : Hp} {K : ByteArray → Hp → Prop} {b : Nat} (hp : s.p = some (bk b)) (ho : Own h 9 1 s (xs.map Value.string)) (hlen : (Lib.join (xs.map (·.data.toList)) sep.data.toList).length ≤ 140737488355328) (hn : xs.length ≤ 140737488355328)
    (hK : ∀ h', Ext none' h h' → K ⟨⟨Lib.join (xs.map (·.data.toList)) sep.data.toList⟩⟩ h') : C53 s sep h K := by
  intro w hw
  subst hw
  have hsn : s.n = xs.length := by have := ho.1; simpa using this.symm
  have hb : b < w.heap.size := by
    have h3 := ho.2.2
    rw [hp] at h3
    obtain ⟨_, cs, hb, _⟩ := h3
    exact (Array.getElem?_eq_some_iff.1 hb).1
  have hc : ∀ (j : Nat) x, xs[j]? = some x → w.cell? ⟨b, 0 + j, none⟩ = some (.string x) := by
    intro j x hx
    obtain ⟨b', hp', hc⟩ := ho.get (k := j) (v := .string x) (by rw [List.getElem?_map, hx]; rfl)
    rw [hp] at hp'
    have : b = b' := congrArg Addr.block (Option.some.inj hp')
    subst this
    rw [Nat.zero_add]; exact hc
  have := (Tryd.strings_Join b 0 s.c xs sep w hc hb hn (by rw [← hsn]; exact ho.2.1) hlen).mono (R' := fun e w' => ∃ v, e = .returned v ∧ (VT.on (.c (.str)) (some v) fun r => K r (hpOf w')) ∧ Kp w w') (by
    rintro e w' ⟨rfl, hbw⟩
    exact ⟨_, rfl, hK _ (ext_below (Nat.le_refl _) hbw), kp_below hbw⟩)
  rw [← hsn] at this
  have hsp : s.p = some ⟨b, 0, none⟩ := hp
  rw [hsp]; exact this

end Go.Proofs.YtlioifgejijcoaaDoor

set_option linter.unusedVariables false
set_option maxRecDepth 100000
namespace Go.Proofs.YtlioifgejijcoaaDoor
open Go Go.Hw
/-! ### 31 slipway/octet.Dotted -/
noncomputable def B31 : Code := match Tryd.f31.body with | some c => c | none => .skip
def N31_l0_b (x8 : Sl) (x9 : Int) (Φ : Sl → Int → Hp → Prop) (x3_l : Sl) (x10 : Int) (h : Hp) (K_e0 : Sl → Hp → Prop) : Prop :=
  bif (decide (x10 < x9)) then
    idx x10 x8.n <|
    nn x8.p fun a0 =>
    xI .u8 (cell h (a0.add (x10.toNat * 1))) fun n0 =>
    C50 (IntKind.wrap .i64 n0) h fun s0 h0 =>
    nw h0 (.cells ⟨[.string s0]⟩ 9) fun b0 h1 =>
    apK Tryd.prog 9 x3_l (.slice (some (bk b0)) 1 1) h1 fun s1 h2 =>
    Φ s1 (IntKind.wrap .i64 (x10 + 1)) h2
  else
    K_e0 x3_l h
def N31_l0_B (x8 : Sl) (x9 : Int) (K_e0 : Sl → Hp → Prop) (s : Sg.T [(3, .c (.slice)), (10, .c (.int .i64))]) (h : Hp) (Φ : Sg.T [(3, .c (.slice)), (10, .c (.int .i64))] → Hp → Prop) : Prop :=
  N31_l0_b x8 x9 (fun x3_l x10 h => Φ (x3_l, x10) h) s.1 s.2 h K_e0
def N31_l0 (x8 : Sl) (x9 : Int) (x3_l : Sl) (x10 : Int) (h : Hp) (K_e0 : Sl → Hp → Prop) : Prop :=
  loopP (N31_l0_B x8 x9 K_e0) (x3_l, x10) h
noncomputable def N31_l0_t : Xf := loopT [(8, .c (.slice)), (9, .c (.int .i64))] [(3, .c (.slice)), (10, .c (.int .i64))] (codeAt B31 [1, 1, 0, 1, 0, 0]) fun F Q => N31_l0_B F.1 F.2 (fun o0 h' => Q (.exit 0) (Sg.env [(3, .c (.slice))] o0) h')
theorem N31_l0_ok : Sound Tryd.prog Tryd.f31.ntmps N31_l0_t (codeAt B31 [1, 1, 0, 1, 0]) := by
  refine loop_sound (fun e => match e with | .exit 0 => [3] | _ => []) (by kernel_rfl) ?_
  intro F Q s h Φ hb
  refine den_sound hE hm _ .leaf _ _ _ (annOk_leaf) ?_
  refine cast ?_ hb
  kernel_rfl
def N31 (x0 : Int) (h : Hp) (K : ByteArray → Hp → Prop) : Prop :=
  C16 (IntKind.wrap .u64 x0) 4 h fun s0 h0 =>
  N31_l0 s0 ((s0.n : Nat) : Int) ⟨none, 0, 0⟩ 0 h0
    (fun s1 h1 =>
      C53 s1 (⟨⟨[46]⟩⟩ : ByteArray) h1 fun s2 h2 =>
      K s2 h2)
theorem S31 {x0 : Int} {h : Hp} {K : ByteArray → Hp → Prop} (hn : N31 x0 h K) : C31 x0 h K := by
  refine calls_of_D Tryd.func31 (c := B31) rfl (by kernel_rfl) ?_
  refine den_sound hE hm _ (.two .leaf (.two .leaf (.two (.two .leaf (.one (.xf N31_l0_t))) .leaf))) _ _ _ (⟨annOk_leaf, ⟨annOk_leaf, ⟨⟨annOk_leaf, N31_l0_ok⟩, annOk_leaf⟩⟩⟩) ?_
  refine cast ?_ hn
  kernel_rfl
end Go.Proofs.YtlioifgejijcoaaDoor

set_option linter.unusedVariables false
set_option maxRecDepth 100000
namespace Go.Proofs.YtlioifgejijcoaaDoor
open Go Go.Hw
/-! ### 32 slipway/slipwayref01.Dotted -/
noncomputable def B32 : Code := match Tryd.f32.body with | some c => c | none => .skip
def N32_j1 (x3_s : ByteArray) (x4_b : Sl) (x5_i : Int) (h : Hp) (K_normal : ByteArray → Hp → Prop) : Prop :=
  idx x5_i x4_b.n <|
  nn x4_b.p fun a0 =>
  xI .u8 (cell h (a0.add (x5_i.toNat * 1))) fun n0 =>
  C54 (IntKind.wrap .i64 n0) h fun s0 h0 =>
  catS x3_s s0 <|
  K_normal (x3_s ++ s0) h0
noncomputable def N32_j1_t : Xf := pieceT [(3, .c (.str)), (4, .c (.slice)), (5, .c (.int .i64))] (codeAt B32 [1, 1, 1, 0, 1, 0, 0, 1, 0, 0, 1]) fun x h Q => N32_j1 x.1 x.2.1 x.2.2 h (fun o0 h' => Q .normal (Sg.env [(3, .c (.str))] o0) h')
theorem N32_j1_ok : Sound Tryd.prog Tryd.f32.ntmps N32_j1_t (codeAt B32 [1, 1, 1, 0, 1, 0, 0, 1, 0, 0, 1]) := by
  refine piece_sound (fun e => match e with | .normal => [3] | _ => []) ?_
  intro x h Q hb
  refine den_sound hE hm _ .leaf _ _ _ (annOk_leaf) ?_
  refine cast ?_ hb
  kernel_rfl
def N32_l0_b (x4_b : Sl) (Φ : ByteArray → Int → Hp → Prop) (x3_s : ByteArray) (x5_i : Int) (h : Hp) (K_e0 : ByteArray → Hp → Prop) : Prop :=
  bif (decide (x5_i < 4)) then
    bif (decide (x5_i > 0)) then
      catS x3_s (⟨⟨[46]⟩⟩ : ByteArray) <|
      N32_j1 (x3_s ++ (⟨⟨[46]⟩⟩ : ByteArray)) x4_b x5_i h
        (fun s0 h0 =>
          Φ s0 (IntKind.wrap .i64 (x5_i + 1)) h0)
    else
      N32_j1 x3_s x4_b x5_i h
        (fun s1 h1 =>
          Φ s1 (IntKind.wrap .i64 (x5_i + 1)) h1)
  else
    K_e0 x3_s h
def N32_l0_B (x4_b : Sl) (K_e0 : ByteArray → Hp → Prop) (s : Sg.T [(3, .c (.str)), (5, .c (.int .i64))]) (h : Hp) (Φ : Sg.T [(3, .c (.str)), (5, .c (.int .i64))] → Hp → Prop) : Prop :=
  N32_l0_b x4_b (fun x3_s x5_i h => Φ (x3_s, x5_i) h) s.1 s.2 h K_e0
def N32_l0 (x4_b : Sl) (x3_s : ByteArray) (x5_i : Int) (h : Hp) (K_e0 : ByteArray → Hp → Prop) : Prop :=
  loopP (N32_l0_B x4_b K_e0) (x3_s, x5_i) h
noncomputable def N32_l0_t : Xf := loopT [(4, .c (.slice))] [(3, .c (.str)), (5, .c (.int .i64))] (codeAt B32 [1, 1, 1, 0, 1, 0, 0]) fun F Q => N32_l0_B F (fun o0 h' => Q (.exit 0) (Sg.env [(3, .c (.str))] o0) h')
theorem N32_l0_ok : Sound Tryd.prog Tryd.f32.ntmps N32_l0_t (codeAt B32 [1, 1, 1, 0, 1, 0]) := by
  refine loop_sound (fun e => match e with | .exit 0 => [3] | _ => []) (by kernel_rfl) ?_
  intro F Q s h Φ hb
  refine den_sound hE hm _ (.two .leaf (.two (.one (.two .leaf (.xf N32_j1_t))) .leaf)) _ _ _ (⟨annOk_leaf, ⟨⟨annOk_leaf, N32_j1_ok⟩, annOk_leaf⟩⟩) ?_
  refine cast ?_ hb
  kernel_rfl
def N32 (x0 : Int) (h : Hp) (K : ByteArray → Hp → Prop) : Prop :=
  C17 (IntKind.wrap .u64 x0) 4 h fun s0 h0 =>
  N32_l0 s0 (⟨⟨[]⟩⟩ : ByteArray) 0 h0
    (fun s1 h1 =>
      K s1 h1)
theorem S32 {x0 : Int} {h : Hp} {K : ByteArray → Hp → Prop} (hn : N32 x0 h K) : C32 x0 h K := by
  refine calls_of_D Tryd.func32 (c := B32) rfl (by kernel_rfl) ?_
  refine den_sound hE hm _ (.two .leaf (.two .leaf (.two .leaf (.two (.two .leaf (.one (.xf N32_l0_t))) .leaf)))) _ _ _ (⟨annOk_leaf, ⟨annOk_leaf, ⟨annOk_leaf, ⟨⟨annOk_leaf, N32_l0_ok⟩, annOk_leaf⟩⟩⟩⟩) ?_
  refine cast ?_ hn
  kernel_rfl
end Go.Proofs.YtlioifgejijcoaaDoor

set_option linter.unusedVariables false
set_option maxRecDepth 100000
namespace Go.Proofs.YtlioifgejijcoaaDoor
open Go Go.Hw
/-! ### 27 slipway/octet.Undotted -/
noncomputable def B27 : Code := match Tryd.f27.body with | some c => c | none => .skip
def N27_l0_b (x15 : Sl) (x16 : Int) (Φ : Int → Int → Hp → Prop) (x5_ip : Int) (x17 : Int) (h : Hp) (K_e0 : Int → Hp → Prop) (K_ret : Int → Int → Hp → Prop) : Prop :=
  bif (decide (x17 < x16)) then
    idx x17 x15.n <|
    nn x15.p fun a0 =>
    xS (cell h (a0.add (x17.toNat * 1))) fun s0 =>
    C49 s0 10 8 h fun n0 v0 h0 =>
    ifn v0 fun b0 =>
    bif (!b0) then
      K_ret 0 10 h0
    else
      C50 (IntKind.wrap .i64 n0) h0 fun s1 h1 =>
      bif (!(s1.toList == s0.toList)) then
        K_ret 0 10 h1
      else
        Φ (IntKind.wrap .u32 (BitVec.ofInt 32 (IntKind.wrap .u32 (x5_ip * 2 ^ 8)) ||| BitVec.ofInt 32 (IntKind.wrap .u32 n0)).toNat) (IntKind.wrap .i64 (x17 + 1)) h1
  else
    K_e0 x5_ip h
def N27_l0_B (x15 : Sl) (x16 : Int) (K_e0 : Int → Hp → Prop) (K_ret : Int → Int → Hp → Prop) (s : Sg.T [(5, .c (.int .u32)), (17, .c (.int .i64))]) (h : Hp) (Φ : Sg.T [(5, .c (.int .u32)), (17, .c (.int .i64))] → Hp → Prop) : Prop :=
  N27_l0_b x15 x16 (fun x5_ip x17 h => Φ (x5_ip, x17) h) s.1 s.2 h K_e0 K_ret
def N27_l0 (x15 : Sl) (x16 : Int) (x5_ip : Int) (x17 : Int) (h : Hp) (K_e0 : Int → Hp → Prop) (K_ret : Int → Int → Hp → Prop) : Prop :=
  loopP (N27_l0_B x15 x16 K_e0 K_ret) (x5_ip, x17) h
noncomputable def N27_l0_t : Xf := loopT [(15, .c (.slice)), (16, .c (.int .i64))] [(5, .c (.int .u32)), (17, .c (.int .i64))] (codeAt B27 [1, 1, 1, 1, 0, 1, 0, 0]) fun F Q => N27_l0_B F.1 F.2 (fun o0 h' => Q (.exit 0) (Sg.env [(5, .c (.int .u32))] o0) h') (fun o0 o1 h' => Q .ret (Sg.env [(2, .c (.int .u32)), (3, .c (.int .i64))] (o0, o1)) h')
theorem N27_l0_ok : Sound Tryd.prog Tryd.f27.ntmps N27_l0_t (codeAt B27 [1, 1, 1, 1, 0, 1, 0]) := by
  refine loop_sound (fun e => match e with | .exit 0 => [5] | .ret => [2, 3] | _ => []) (by kernel_rfl) ?_
  intro F Q s h Φ hb
  refine den_sound hE hm _ .leaf _ _ _ (annOk_leaf) ?_
  refine cast ?_ hb
  kernel_rfl
def N27 (x0 : ByteArray) (h : Hp) (K : Int → Int → Hp → Prop) : Prop :=
  C48 x0 (⟨⟨[46]⟩⟩ : ByteArray) h fun s0 h0 =>
  bif (((s0.n : Nat) : Int) != 4) then
    K 0 10 h0
  else
    N27_l0 s0 ((s0.n : Nat) : Int) 0 0 h0
      (fun n0 h1 =>
        K n0 0 h1)
      (fun n1 n2 h2 =>
        K n1 n2 h2)
theorem S27 {x0 : ByteArray} {h : Hp} {K : Int → Int → Hp → Prop} (hn : N27 x0 h K) : C27 x0 h K := by
  refine calls_of_D Tryd.func27 (c := B27) rfl (by kernel_rfl) ?_
  refine den_sound hE hm _ (.two .leaf (.two .leaf (.two .leaf (.two .leaf (.two (.two .leaf (.one (.xf N27_l0_t))) .leaf))))) _ _ _ (⟨annOk_leaf, ⟨annOk_leaf, ⟨annOk_leaf, ⟨annOk_leaf, ⟨⟨annOk_leaf, N27_l0_ok⟩, annOk_leaf⟩⟩⟩⟩⟩) ?_
  refine cast ?_ hn
  kernel_rfl
end Go.Proofs.YtlioifgejijcoaaDoor

set_option linter.unusedVariables false
set_option maxRecDepth 100000
namespace Go.Proofs.YtlioifgejijcoaaDoor
open Go Go.Hw
/-! ### 28 slipway/slipwayref01.Undotted -/
noncomputable def B28 : Code := match Tryd.f28.body with | some c => c | none => .skip
def N28_j1 (x0_s : ByteArray) (x4_ip : Int) (x5_part : Int) (x6_i : Int) (x7_c : Int) (x34 : Bool) (h : Hp) (K_normal : Int → Hp → Prop) (K_ret : Int → Int → Hp → Prop) : Prop :=
  bif x34 then
    K_normal (IntKind.wrap .i64 ((IntKind.wrap .i64 ((IntKind.wrap .i64 (x5_part * 10)) + x7_c)) - 48)) h
  else
    K_ret 0 10 h
noncomputable def N28_j1_t : Xf := pieceT [(0, .c (.str)), (4, .c (.int .i64)), (5, .c (.int .i64)), (6, .c (.int .i64)), (7, .c (.int .i64)), (34, .c (.bool))] (codeAt B28 [1, 1, 1, 1, 0, 1, 0, 0, 1, 0, 0, 1, 1, 1, 1]) fun x h Q => N28_j1 x.1 x.2.1 x.2.2.1 x.2.2.2.1 x.2.2.2.2.1 x.2.2.2.2.2 h (fun o0 h' => Q .normal (Sg.env [(5, .c (.int .i64))] o0) h') (fun o0 o1 h' => Q .ret (Sg.env [(2, .c (.int .u32)), (3, .c (.int .i64))] (o0, o1)) h')
theorem N28_j1_ok : Sound Tryd.prog Tryd.f28.ntmps N28_j1_t (codeAt B28 [1, 1, 1, 1, 0, 1, 0, 0, 1, 0, 0, 1, 1, 1, 1]) := by
  refine piece_sound (fun e => match e with | .normal => [5] | .ret => [2, 3] | _ => []) ?_
  intro x h Q hb
  refine den_sound hE hm _ .leaf _ _ _ (annOk_leaf) ?_
  refine cast ?_ hb
  kernel_rfl
def N28_l0_b (x0_s : ByteArray) (Φ : Int → Int → Int → Hp → Prop) (x4_ip : Int) (x5_part : Int) (x6_i : Int) (h : Hp) (K_e0 : Int → Int → Hp → Prop) (K_ret : Int → Int → Hp → Prop) : Prop :=
  bif (decide (x6_i < (x0_s.size : Int))) then
    idx x6_i x0_s.size <|
    bif ((IntKind.wrap .i64 (sbyte x0_s x6_i)) == 46) then
      Φ (IntKind.wrap .i64 ((IntKind.wrap .i64 (x4_ip * 256)) + x5_part)) 0 (IntKind.wrap .i64 (x6_i + 1)) h
    else
      bif (decide ((IntKind.wrap .i64 (sbyte x0_s x6_i)) ≥ 48)) then
        N28_j1 x0_s x4_ip x5_part x6_i (IntKind.wrap .i64 (sbyte x0_s x6_i)) (decide ((IntKind.wrap .i64 (sbyte x0_s x6_i)) ≤ 57)) h
          (fun n0 h0 =>
            Φ x4_ip n0 (IntKind.wrap .i64 (x6_i + 1)) h0)
          (fun n1 n2 h1 =>
            K_ret n1 n2 h1)
      else
        N28_j1 x0_s x4_ip x5_part x6_i (IntKind.wrap .i64 (sbyte x0_s x6_i)) false h
          (fun n3 h2 =>
            Φ x4_ip n3 (IntKind.wrap .i64 (x6_i + 1)) h2)
          (fun n4 n5 h3 =>
            K_ret n4 n5 h3)
  else
    K_e0 x4_ip x5_part h
def N28_l0_B (x0_s : ByteArray) (K_e0 : Int → Int → Hp → Prop) (K_ret : Int → Int → Hp → Prop) (s : Sg.T [(4, .c (.int .i64)), (5, .c (.int .i64)), (6, .c (.int .i64))]) (h : Hp) (Φ : Sg.T [(4, .c (.int .i64)), (5, .c (.int .i64)), (6, .c (.int .i64))] → Hp → Prop) : Prop :=
  N28_l0_b x0_s (fun x4_ip x5_part x6_i h => Φ (x4_ip, x5_part, x6_i) h) s.1 s.2.1 s.2.2 h K_e0 K_ret
def N28_l0 (x0_s : ByteArray) (x4_ip : Int) (x5_part : Int) (x6_i : Int) (h : Hp) (K_e0 : Int → Int → Hp → Prop) (K_ret : Int → Int → Hp → Prop) : Prop :=
  loopP (N28_l0_B x0_s K_e0 K_ret) (x4_ip, x5_part, x6_i) h
noncomputable def N28_l0_t : Xf := loopT [(0, .c (.str))] [(4, .c (.int .i64)), (5, .c (.int .i64)), (6, .c (.int .i64))] (codeAt B28 [1, 1, 1, 1, 0, 1, 0, 0]) fun F Q => N28_l0_B F (fun o0 o1 h' => Q (.exit 0) (Sg.env [(4, .c (.int .i64)), (5, .c (.int .i64))] (o0, o1)) h') (fun o0 o1 h' => Q .ret (Sg.env [(2, .c (.int .u32)), (3, .c (.int .i64))] (o0, o1)) h')
theorem N28_l0_ok : Sound Tryd.prog Tryd.f28.ntmps N28_l0_t (codeAt B28 [1, 1, 1, 1, 0, 1, 0]) := by
  refine loop_sound (fun e => match e with | .exit 0 => [4, 5] | .ret => [2, 3] | _ => []) (by kernel_rfl) ?_
  intro F Q s h Φ hb
  refine den_sound hE hm _ (.two .leaf (.two (.one (.two .leaf (.two .leaf (.two .leaf (.two .leaf (.xf N28_j1_t)))))) .leaf)) _ _ _ (⟨annOk_leaf, ⟨⟨annOk_leaf, ⟨annOk_leaf, ⟨annOk_leaf, ⟨annOk_leaf, N28_j1_ok⟩⟩⟩⟩, annOk_leaf⟩⟩) ?_
  refine cast ?_ hb
  kernel_rfl
def N28 (x0 : ByteArray) (h : Hp) (K : Int → Int → Hp → Prop) : Prop :=
  bif (decide ((x0.size : Int) > 15)) then
    K 0 10 h
  else
    N28_l0 x0 0 0 0 h
      (fun n0 n1 h0 =>
        C32 (IntKind.wrap .u32 (IntKind.wrap .i64 ((IntKind.wrap .i64 (n0 * 256)) + n1))) h0 fun s0 h1 =>
        bif (!(s0.toList == x0.toList)) then
          K 0 10 h1
        else
          K (IntKind.wrap .u32 (IntKind.wrap .i64 ((IntKind.wrap .i64 (n0 * 256)) + n1))) 0 h1)
      (fun n2 n3 h2 =>
        K n2 n3 h2)
theorem S28 {x0 : ByteArray} {h : Hp} {K : Int → Int → Hp → Prop} (hn : N28 x0 h K) : C28 x0 h K := by
  refine calls_of_D Tryd.func28 (c := B28) rfl (by kernel_rfl) ?_
  refine den_sound hE hm _ (.two .leaf (.two .leaf (.two .leaf (.two .leaf (.two (.two .leaf (.one (.xf N28_l0_t))) .leaf))))) _ _ _ (⟨annOk_leaf, ⟨annOk_leaf, ⟨annOk_leaf, ⟨annOk_leaf, ⟨⟨annOk_leaf, N28_l0_ok⟩, annOk_leaf⟩⟩⟩⟩⟩) ?_
  refine cast ?_ hn
  kernel_rfl
end Go.Proofs.YtlioifgejijcoaaDoor

set_option linter.unusedVariables false
set_option maxRecDepth 100000
namespace Go.Proofs.YtlioifgejijcoaaDoor
open Go Go.Hw
/-! ### 54 slipway/slipwayref01.Decimal -/
noncomputable def B54 : Code := match Tryd.f54.body with | some c => c | none => .skip
def N54_l0_b  (Φ : Int → ByteArray → Hp → Prop) (x0_n : Int) (x3_s : ByteArray) (h : Hp) (K_e0 : Int → ByteArray → Hp → Prop) : Prop :=
  bif (decide (x0_n > 9)) then
    nw h (.cells ⟨[.int .u8 (IntKind.wrap .u8 (IntKind.wrap .i64 (48 + (Int.tmod x0_n 10))))]⟩ 5) fun b0 h0 =>
    b2s h0 (some (bk b0)) 1 fun s0 =>
    catS s0 x3_s <|
    Φ (IntKind.wrap .i64 (Int.tdiv x0_n 10)) (s0 ++ x3_s) h0
  else
    K_e0 x0_n x3_s h
def N54_l0_B  (K_e0 : Int → ByteArray → Hp → Prop) (s : Sg.T [(0, .c (.int .i64)), (3, .c (.str))]) (h : Hp) (Φ : Sg.T [(0, .c (.int .i64)), (3, .c (.str))] → Hp → Prop) : Prop :=
  N54_l0_b  (fun x0_n x3_s h => Φ (x0_n, x3_s) h) s.1 s.2 h K_e0
def N54_l0  (x0_n : Int) (x3_s : ByteArray) (h : Hp) (K_e0 : Int → ByteArray → Hp → Prop) : Prop :=
  loopP (N54_l0_B  K_e0) (x0_n, x3_s) h
noncomputable def N54_l0_t : Xf := loopT [] [(0, .c (.int .i64)), (3, .c (.str))] (codeAt B54 [1, 1, 0, 0, 0]) fun F Q => N54_l0_B  (fun o0 o1 h' => Q (.exit 0) (Sg.env [(0, .c (.int .i64)), (3, .c (.str))] (o0, o1)) h')
theorem N54_l0_ok : Sound Tryd.prog Tryd.f54.ntmps N54_l0_t (codeAt B54 [1, 1, 0, 0]) := by
  refine loop_sound (fun e => match e with | .exit 0 => [0, 3] | _ => []) (by kernel_rfl) ?_
  intro F Q s h Φ hb
  refine den_sound hE hm _ .leaf _ _ _ (annOk_leaf) ?_
  refine cast ?_ hb
  kernel_rfl
def N54 (x0 : Int) (h : Hp) (K : ByteArray → Hp → Prop) : Prop :=
  N54_l0 x0 (⟨⟨[]⟩⟩ : ByteArray) h
    (fun n0 s0 h0 =>
      nw h0 (.cells ⟨[.int .u8 (IntKind.wrap .u8 (IntKind.wrap .i64 (48 + n0)))]⟩ 5) fun b0 h1 =>
      b2s h1 (some (bk b0)) 1 fun s1 =>
      catS s1 s0 <|
      K (s1 ++ s0) h1)
theorem S54 {x0 : Int} {h : Hp} {K : ByteArray → Hp → Prop} (hn : N54 x0 h K) : C54 x0 h K := by
  refine calls_of_D Tryd.func54 (c := B54) rfl (by kernel_rfl) ?_
  refine den_sound hE hm _ (.two .leaf (.two .leaf (.two (.one (.xf N54_l0_t)) .leaf))) _ _ _ (⟨annOk_leaf, ⟨annOk_leaf, ⟨N54_l0_ok, annOk_leaf⟩⟩⟩) ?_
  refine cast ?_ hn
  kernel_rfl
end Go.Proofs.YtlioifgejijcoaaDoor

/-
  Texts: what is split and joined again; decimal numbers. Plain laws.
-/
set_option linter.unusedSimpArgs false
set_option linter.unusedVariables false
namespace Go.Hw
open Go

/-- pieces with a byte between them -/
def jn (c : UInt8) : List (List UInt8) → List UInt8
  | [] => []
  | [x] => x
  | x :: y :: r => x ++ c :: jn c (y :: r)
theorem jn_cons (c : UInt8) (x : List UInt8) {r : List (List UInt8)} (h : r ≠ []) : jn c (x :: r) = x ++ c :: jn c r := by
  cases r with
  | nil => exact absurd rfl h
  | cons y r => rfl
theorem jn_snoc (c : UInt8) : ∀ (l : List (List UInt8)) (x : List UInt8), l ≠ [] → jn c (l ++ [x]) = jn c l ++ c :: x := by
  intro l
  induction l with
  | nil => intro x h; exact absurd rfl h
  | cons a l ih =>
    intro x _
    cases l with
    | nil => simp [jn]
    | cons b l =>
      have h1 := ih x (by simp)
      rw [List.cons_append, jn_cons c a (by simp), h1, jn_cons c a (by simp)]; simp
theorem join_jn (c : UInt8) : ∀ l : List (List UInt8), Lib.join l [c] = jn c l := by
  intro l
  induction l with
  | nil => simp [Lib.join, List.intercalate, jn]
  | cons a l ih =>
    cases l with
    | nil => simp [Lib.join, List.intercalate, jn]
    | cons b l =>
      rw [jn_cons c a (by simp), ← ih]
      simp [Lib.join, List.intercalate, List.intersperse]

theorem index_cut {l : List UInt8} {c : UInt8} {o : Nat} (h : Lib.index l [c] = o) : l = l.take o ++ c :: l.drop (o + 1) ∧ c ∉ l.take o := by
  rw [Lib.index_one] at h
  obtain ⟨h1, h2⟩ := Lib.indexByte_some h
  have hlt := (List.getElem?_eq_some_iff.1 h1).1
  have h3 : l[o] = c := by rw [List.getElem?_eq_getElem hlt] at h1; exact Option.some.inj h1
  constructor
  · conv => lhs; rw [← List.take_append_drop o l]
    rw [List.drop_eq_getElem_cons hlt, h3]
  · intro hm
    obtain ⟨i, hi, he⟩ := List.getElem_of_mem hm
    have hio : i < o := by simp at hi; omega
    refine h2 i hio ?_
    rw [List.getElem_take] at he
    rw [List.getElem?_eq_getElem (by omega), he]

theorem splitK_ok (c : UInt8) : ∀ (k : Nat) (l : List UInt8), l.count c = k → (Lib.splitK [c] 0 k l).length = k + 1 ∧ jn c (Lib.splitK [c] 0 k l) = l ∧ ∀ p ∈ Lib.splitK [c] 0 k l, c ∉ p := by
  intro k
  induction k with
  | zero =>
    intro l hl
    refine ⟨rfl, rfl, ?_⟩
    intro p hp
    simp [Lib.splitK] at hp
    subst hp
    exact List.count_eq_zero.1 hl
  | succ k ih =>
    intro l hl
    have hm : c ∈ l := by rw [← List.count_pos_iff, hl]; omega
    have hidx : Lib.index l [c] ≠ -1 := by
      intro e
      rw [Lib.index_one] at e
      obtain ⟨i, hi, he⟩ := List.getElem_of_mem hm
      exact Lib.indexByte_none e i (by rw [List.getElem?_eq_getElem hi, he])
    obtain ⟨o, ho⟩ : ∃ o : Nat, Lib.index l [c] = o := by
      have := Lib.indexByte_ge l c
      rw [← Lib.index_one] at this
      exact ⟨(Lib.index l [c]).toNat, by omega⟩
    obtain ⟨h1, h2⟩ := index_cut ho
    have hc : (l.drop (o + 1)).count c = k := by
      rw [h1, List.count_append, List.count_cons_self, List.count_eq_zero.2 h2] at hl
      omega
    obtain ⟨i1, i2, i3⟩ := ih _ hc
    have es : Lib.splitK [c] 0 (k + 1) l = l.take o :: Lib.splitK [c] 0 k (l.drop (o + 1)) := by
      simp only [Lib.splitK, ho]
      rw [if_neg (by simp)]
      rfl
    rw [es]
    refine ⟨by simp [i1], ?_, ?_⟩
    · rw [jn_cons c _ (by intro e; rw [e] at i1; simp at i1), i2]; exact h1.symm
    · intro p hp
      rcases List.mem_cons.1 hp with rfl | hp
      · exact h2
      · exact i3 p hp

theorem countB_one (c : UInt8) (s : ByteArray) : Lib.countB s ⟨#[c]⟩ = s.data.toList.count c := by
  show Lib.count s.data.toList [c] = _
  exact Lib.count_one c _
theorem splitB_ok (c : UInt8) (s : ByteArray) : (Lib.splitB ⟨#[c]⟩ 0 (Lib.countB s ⟨#[c]⟩) s).length = Lib.countB s ⟨#[c]⟩ + 1 ∧ jn c ((Lib.splitB ⟨#[c]⟩ 0 (Lib.countB s ⟨#[c]⟩) s).map (·.data.toList)) = s.data.toList ∧
    ∀ p ∈ (Lib.splitB ⟨#[c]⟩ 0 (Lib.countB s ⟨#[c]⟩) s).map (·.data.toList), c ∉ p := by
  rw [Lib.splitB_data]
  have := splitK_ok c _ s.data.toList (countB_one c s).symm
  refine ⟨?_, this.2⟩
  have h2 := congrArg List.length (Lib.splitB_data ⟨#[c]⟩ 0 (Lib.countB s ⟨#[c]⟩) s)
  rw [List.length_map] at h2
  exact h2.trans this.1

/-- pieces without the byte are told by the whole -/
theorem jn_inj (c : UInt8) : ∀ (l m : List (List UInt8)), l ≠ [] → m ≠ [] → (∀ p ∈ l, c ∉ p) → (∀ p ∈ m, c ∉ p) → jn c l = jn c m → l = m := by
  have cut : ∀ (x y u v : List UInt8), c ∉ x → c ∉ y → x ++ c :: u = y ++ c :: v → x = y ∧ u = v := by
    intro x
    induction x with
    | nil =>
      intro y u v _ hy h
      cases y with
      | nil => simp at h; exact ⟨rfl, h⟩
      | cons b y => simp at h; exact absurd (by rw [h.1]; simp) hy
    | cons a x ih =>
      intro y u v hx hy h
      cases y with
      | nil => simp at h; exact absurd (by rw [h.1]; simp) hx
      | cons b y =>
        simp only [List.cons_append, List.cons.injEq] at h
        obtain ⟨r1, r2⟩ := ih y u v (fun q => hx (by simp [q])) (fun q => hy (by simp [q])) h.2
        exact ⟨by rw [h.1, r1], r2⟩
  intro l
  induction l with
  | nil => intro m h; exact absurd rfl h
  | cons a l ih =>
    intro m _ hm hl hm2 h
    cases m with
    | nil => exact absurd rfl hm
    | cons b m =>
      cases l with
      | nil =>
        cases m with
        | nil => simp [jn] at h; rw [h]
        | cons d m =>
          rw [jn_cons c b (by simp)] at h
          exact absurd (by rw [show jn c [a] = a from rfl] at h; rw [h]; simp) (hl a (by simp))
      | cons e l =>
        cases m with
        | nil =>
          rw [jn_cons c a (by simp)] at h
          exact absurd (by rw [show jn c [b] = b from rfl] at h; rw [← h]; simp) (hm2 b (by simp))
        | cons d m =>
          rw [jn_cons c a (by simp), jn_cons c b (by simp)] at h
          obtain ⟨r1, r2⟩ := cut _ _ _ _ (hl a (by simp)) (hm2 b (by simp)) h
          have := ih (d :: m) (by simp) (by simp) (fun p hp => hl p (by simp at hp ⊢; exact .inr hp)) (fun p hp => hm2 p (by simp at hp ⊢; exact .inr hp)) r2
          rw [r1, this]

/-! ### decimal numbers -/
theorem dec_small {u : Nat} (h : u < 10) : Lib.decDigits u = [UInt8.ofNat (48 + u)] := Lib.decDigits_one h
theorem dec_big {u : Nat} (h : ¬ u < 10) : Lib.decDigits u = Lib.decDigits (u / 10) ++ [UInt8.ofNat (48 + u % 10)] := by rw [Lib.decDigits, dif_neg h]
theorem dec_digit (u : Nat) : ∀ b ∈ Lib.decDigits u, 48 ≤ b.toNat ∧ b.toNat ≤ 57 := by
  induction u using Nat.strongRecOn with
  | _ u ih =>
    intro b hb
    by_cases h : u < 10
    · rw [dec_small h] at hb
      have hb := List.mem_singleton.1 hb
      subst hb
      rw [UInt8.toNat_ofNat']; omega
    · rw [dec_big h] at hb
      rcases List.mem_append.1 hb with hb | hb
      · exact ih _ (by omega) b hb
      · have hb := List.mem_singleton.1 hb
        subst hb
        rw [UInt8.toNat_ofNat']; omega
theorem dec_ne (u : Nat) : Lib.decDigits u ≠ [] := by
  by_cases h : u < 10
  · rw [dec_small h]; simp
  · rw [dec_big h]; simp
/-- what digits spell -/
def spell (l : List UInt8) : Nat := l.foldl (fun a b => a * 10 + (b.toNat - 48)) 0
theorem spell_snoc (l : List UInt8) (b : UInt8) : spell (l ++ [b]) = spell l * 10 + (b.toNat - 48) := by simp [spell]
theorem spell_dec (u : Nat) : spell (Lib.decDigits u) = u := by
  induction u using Nat.strongRecOn with
  | _ u ih =>
    by_cases h : u < 10
    · rw [dec_small h]; simp only [spell, List.foldl_cons, List.foldl_nil]; rw [UInt8.toNat_ofNat']; omega
    · rw [dec_big h, spell_snoc, ih _ (by omega), UInt8.toNat_ofNat']; omega
theorem dec_inj {u v : Nat} (h : Lib.decDigits u = Lib.decDigits v) : u = v := by rw [← spell_dec u, ← spell_dec v, h]
theorem parse_snoc (M : Nat) : ∀ (l m : List UInt8) (a u : Nat), Lib.parseUintM M a l = .ok u → Lib.parseUintM M a (l ++ m) = Lib.parseUintM M u m := by
  intro l
  induction l with
  | nil => intro m a u h; simp [Lib.parseUintM] at h; subst h; rfl
  | cons c l ih =>
    intro m a u h
    simp only [List.cons_append, Lib.parseUintM] at h ⊢
    split at h
    · rename_i h1
      rw [if_pos h1]
      split at h
      · cases h
      · rename_i h2
        rw [if_neg h2]
        split at h
        · cases h
        · rename_i h3
          rw [if_neg h3]
          exact ih m _ _ h
    · cases h
theorem parse_dec {u : Nat} (h : u < 256) : Lib.parseUintB 8 (Lib.decDigits u) = .ok u := by
  unfold Lib.parseUintB
  rw [if_neg (dec_ne u)]
  have one : ∀ v w : Nat, v ≤ 25 → w < 10 → v * 10 + w < 256 → Lib.parseUintM 255 v [UInt8.ofNat (48 + w)] = .ok (v * 10 + w) := by
    intro v w hv hw hx
    have e : (UInt8.ofNat (48 + w)).toNat = 48 + w := by rw [UInt8.toNat_ofNat']; omega
    simp only [Lib.parseUintM, e]
    rw [if_pos (by omega), if_neg (by omega), if_neg (by omega)]
    congr 1; omega
  show Lib.parseUintM 255 0 _ = _
  have step : ∀ u, u < 256 → Lib.parseUintM 255 0 (Lib.decDigits u) = .ok u := by
    intro u
    induction u using Nat.strongRecOn with
    | _ u ih =>
      intro hu
      by_cases h : u < 10
      · rw [dec_small h]
        have := one 0 u (by omega) h (by omega)
        simpa using this
      · rw [dec_big h, parse_snoc _ _ _ _ _ (ih (u / 10) (by omega) (by omega)), one (u / 10) (u % 10) (by omega) (by omega) (by omega)]
        congr 1; omega
  exact step u h
theorem parse_le {l : List UInt8} {u : Nat} (h : Lib.parseUintB 8 l = .ok u) : u < 256 := by
  unfold Lib.parseUintB at h
  split at h
  · cases h
  · have key : ∀ (l : List UInt8) (a : Nat), a < 256 → Lib.parseUintM 255 a l = .ok u → u < 256 := by
      intro l
      induction l with
      | nil => intro a ha h; simp [Lib.parseUintM] at h; omega
      | cons c l ih =>
        intro a ha h
        simp only [Lib.parseUintM] at h
        split at h
        · split at h
          · cases h
          · split at h
            · cases h
            · exact ih _ (by omega) h
        · cases h
    exact key l 0 (by omega) h

end Go.Hw

/-
  Texts over heaps: strings that are put together, bytes of a string, text out of a fresh row.
-/
set_option linter.unusedSimpArgs false
set_option linter.unusedVariables false
namespace Go.Hw
open Go

theorem catS_of {x y : ByteArray} {X : Prop} (h : x.data.toList.length + y.data.toList.length ≤ 4611686018427387904) (hX : X) : catS x y X := by
  unfold catS
  have : decide ((((x.size + y.size : Nat)) : Int) > IntKind.i64.max) = false := by
    apply decide_eq_false
    have e1 : x.size = x.data.toList.length := rfl
    have e2 : y.size = y.data.toList.length := rfl
    have e3 : IntKind.i64.max = 9223372036854775807 := rfl
    omega
  rw [this, cond_false]; exact hX
theorem ba_app (l m : List UInt8) : (⟨⟨l⟩⟩ : ByteArray) ++ ⟨⟨m⟩⟩ = ⟨⟨l ++ m⟩⟩ := by
  apply ByteArray.ext
  rw [ByteArray.data_append]
  apply Array.ext'
  simp
theorem ba_eq {s : ByteArray} : (⟨⟨s.data.toList⟩⟩ : ByteArray) = s := rfl
theorem ba_list (l : List UInt8) : (⟨⟨l⟩⟩ : ByteArray).toList = l := ByteArray.toList_eq _
theorem ba_beq (s t : ByteArray) : (s.toList == t.toList) = decide (s.data.toList = t.data.toList) := by
  rw [ByteArray.toList_eq, ByteArray.toList_eq]
  by_cases h : s.data.toList = t.data.toList
  · rw [h]; simp
  · rw [decide_eq_false h]; exact beq_false_of_ne h
theorem sbyte_at {l : List UInt8} {x : Int} {i : Nat} (hx : x = i) (hi : i < l.length) : sbyte ⟨⟨l⟩⟩ x = (l[i].toNat : Int) := by
  subst hx
  unfold sbyte
  simp [hi]
theorem idx_str {l : List UInt8} {x : Int} {i : Nat} {X : Prop} (hx : x = i) (hi : i < l.length) (hX : X) : idx x (⟨⟨l⟩⟩ : ByteArray).size X := idx_of (by omega) (by show x < ((l.length : Nat) : Int); omega) hX
/-- a row of bytes made and read as a string -/
theorem nw_b2s {h : Hp} {T : TypeId} {l : List UInt8} {n : Nat} {F : Hp → ByteArray → Prop} (hn : n = l.length) (hF : ∀ h', Ext none' h h' → F h' ⟨⟨l⟩⟩) : nw h (.cells ⟨bc l⟩ T) fun b0 h0 => b2s h0 (some (bk b0)) n fun s => F h0 s := by
  intro b0 e0
  have hb : Blk (upd h b0 (.cells ⟨bc l⟩ T)) b0 T (bc l) := Blk.upd_same
  have hr : RdB (upd h b0 (.cells ⟨bc l⟩ T)) ⟨some (bk b0), l.length, l.length⟩ l := ⟨rfl, Nat.le_refl _, hb.rdc⟩
  subst hn
  exact hr.b2s (hF _ (Ext.new e0))
theorem u8_of {x : Int} {k : Nat} (h : x = k) (hk : k < 256) : x = (((UInt8.ofNat k).toNat : Nat) : Int) := by rw [UInt8.toNat_ofNat']; omega

end Go.Hw

/-
  Addresses as text: Decimal, Dotted, Undotted: the program's and the document's.
-/
set_option linter.unusedSimpArgs false
set_option linter.unusedVariables false
namespace Go.Proofs.YtlioifgejijcoaaDoor
open Go Go.Hw

theorem dec_len_le (u : Nat) : (Lib.decDigits u).length ≤ u + 1 := by
  induction u using Nat.strongRecOn with
  | _ u ih =>
    by_cases h : u < 10
    · rw [dec_small h]; simp
    · rw [dec_big h]; have := ih (u / 10) (by omega); simp; omega
theorem dec_len3 {u : Nat} (h : u < 1000) : (Lib.decDigits u).length ≤ 3 := by
  by_cases h1 : u < 10
  · rw [dec_small h1]; simp
  · rw [dec_big h1]
    by_cases h2 : u / 10 < 10
    · rw [dec_small h2]; simp
    · rw [dec_big h2, dec_small (by omega)]; simp
theorem itoa_nat (n : Nat) : Lib.itoa (n : Int) = Lib.decDigits n := by unfold Lib.itoa; rw [if_neg (by omega)]; simp

theorem c_Decimal {n : Nat} {h : Hp} {K : ByteArray → Hp → Prop} (hn : n ≤ 1099511627776) (hK : ∀ h', Ext none' h h' → K ⟨⟨Lib.decDigits n⟩⟩ h') : C54 (n : Int) h K := by
  apply S54; unfold N54 N54_l0
  refine loopP_inv (fun (x : Int × ByteArray) hc => Ext none' h hc ∧ ∃ (m : Nat) (s : List UInt8), x.1 = m ∧ x.2 = ⟨⟨s⟩⟩ ∧ m ≤ n ∧ Lib.decDigits m ++ s = Lib.decDigits n) (fun x _ => x.1.toNat) ?_ ⟨Ext.refl, n, [], rfl, rfl, Nat.le_refl _, by simp⟩
  rintro ⟨x, t⟩ hc ⟨he, m, s, hx, ht, hm, hd⟩
  simp only at hx ht
  subst hx; subst ht
  have sl : s.length ≤ n + 1 := by have := congrArg List.length hd; have := dec_len_le n; simp at *; omega
  unfold N54_l0_B N54_l0_b
  dsimp only
  by_cases hb : m < 10
  · have : decide ((m : Int) > 9) = false := decide_eq_false (by omega)
    rw [this, cond_false, wi64i (by omega) (by omega), wu8i (by omega) (by omega), u8_of (x := 48 + (m : Int)) (k := 48 + m) (by omega) (by omega)]
    refine nw_b2s (l := [UInt8.ofNat (48 + m)]) (F := fun h1 s1 => catS s1 ⟨⟨s⟩⟩ <| K (s1 ++ ⟨⟨s⟩⟩) h1) rfl ?_
    intro h1 e1
    refine catS_of (by simp; omega) ?_
    rw [ba_app, ← dec_small hb, hd]
    exact hK _ (he.trans e1)
  · have : decide ((m : Int) > 9) = true := decide_eq_true (by omega)
    rw [this, cond_true, Int.tmod_eq_emod_of_nonneg (by omega), Int.tdiv_eq_ediv_of_nonneg (by omega), wi64i (x := 48 + (m : Int) % 10) (by omega) (by omega), wu8i (by omega) (by omega), u8_of (x := 48 + (m : Int) % 10) (k := 48 + m % 10) (by omega) (by omega), wi64i (by omega) (by omega)]
    refine nw_b2s (l := [UInt8.ofNat (48 + m % 10)]) (F := fun h0 s0 => catS s0 ⟨⟨s⟩⟩ <| ((Ext none' h h0 ∧ ∃ (m2 : Nat) (s2 : List UInt8), (m : Int) / 10 = m2 ∧ s0 ++ ⟨⟨s⟩⟩ = ⟨⟨s2⟩⟩ ∧ m2 ≤ n ∧ Lib.decDigits m2 ++ s2 = Lib.decDigits n) ∧ ((m : Int) / 10).toNat < ((m : Int)).toNat)) rfl ?_
    intro h1 e1
    refine catS_of (by simp; omega) ?_
    refine ⟨⟨he.trans e1, m / 10, _, by omega, ba_app _ _, by omega, ?_⟩, by omega⟩
    rw [← hd, dec_big hb]; simp

/-! ### dotted -/
def dd (l : List UInt8) : List (List UInt8) := l.map fun b => Lib.decDigits b.toNat
def dotted (ip : Nat) : List UInt8 := jn 46 (dd (be ip 4))
theorem dd_take (l : List UInt8) {i : Nat} (hi : i < l.length) : (dd l).take (i + 1) = (dd l).take i ++ [Lib.decDigits (l[i]).toNat] := by
  rw [← List.take_append_getElem (by simpa [dd] using hi)]; simp [dd]
theorem dd_take_ne (l : List UInt8) {i : Nat} (h0 : 0 < i) (hi : i ≤ l.length) : (dd l).take i ≠ [] := by
  intro e
  have h2 : ((dd l).take i).length = 0 := by rw [e]; rfl
  rw [List.length_take] at h2
  simp only [dd, List.length_map] at h2
  omega
theorem jn_take_len (l : List UInt8) (i : Nat) (hi : i ≤ l.length) : (jn 46 ((dd l).take i)).length ≤ 4 * i := by
  induction i with
  | zero => simp [jn]
  | succ i ih =>
    have h1 := ih (by omega)
    have hb := dec_len3 (u := (l[i]'(by omega)).toNat) (by have := (l[i]'(by omega)).toNat_lt; omega)
    rw [dd_take l (by omega)]
    cases i with
    | zero => simp [jn]; omega
    | succ i =>
      rw [jn_snoc _ _ _ (dd_take_ne l (by omega) (by omega))]
      simp; omega

theorem c_Dotted {ip : Int} {h : Hp} {K : ByteArray → Hp → Prop} (h0 : 0 ≤ ip) (h1 : ip < 4294967296) (hK : ∀ h', Ext none' h h' → K ⟨⟨dotted ip.toNat⟩⟩ h') : C32 ip h K := by
  apply S32; unfold N32
  rw [wu64i h0 (by omega)]
  refine c_Put h0 (by omega) ?_
  intro ha s hno
  have ep : putL ip.toNat 4 = be ip.toNat 4 := rfl
  rw [ep] at hno
  have blen := be_len ip.toNat 4
  unfold dotted at hK
  generalize be ip.toNat 4 = l at hno hK blen
  unfold N32_l0
  refine loopP_inv (fun (x : ByteArray × Int) hc => Ext none' ha hc ∧ ∃ i : Nat, x.2 = i ∧ i ≤ 4 ∧ x.1 = ⟨⟨jn 46 ((dd l).take i)⟩⟩) (fun x _ => 4 - x.2.toNat) ?_ ⟨Ext.refl, 0, rfl, by omega, rfl⟩
  rintro ⟨t, x⟩ hc ⟨he, i, hx, hi, ht⟩
  simp only at hx ht
  subst hx; subst ht
  have hr : RdB hc s l := hno.2.1.rdb.ext he
  have jl := jn_take_len l i (by omega)
  unfold N32_l0_B N32_l0_b
  dsimp only
  by_cases hlt : i < 4
  · have : decide ((i : Int) < 4) = true := decide_eq_true (by omega)
    rw [this, cond_true]
    have hd3 := dec_len3 (u := (l[i]'(by omega)).toNat) (by have := (l[i]'(by omega)).toNat_lt; omega)
    have hu8 := (l[i]'(by omega)).toNat_lt
    by_cases hi0 : i = 0
    · have : decide ((i : Int) > 0) = false := decide_eq_false (by omega)
      rw [this, cond_false]
      unfold N32_j1
      refine hr.at rfl (by omega) ?_
      rw [wi64i (by omega) (by omega)]
      refine c_Decimal (by omega) ?_
      intro h2 e2
      refine catS_of (by simp; omega) ?_
      rw [ba_app, nat_succ64 (by omega)]
      refine ⟨⟨he.trans e2, i + 1, rfl, hlt, ?_⟩, by first | omega | (dsimp only; omega)⟩
      rw [dd_take l (by omega)]
      subst hi0
      simp [jn]
    · have : decide ((i : Int) > 0) = true := decide_eq_true (by omega)
      rw [this, cond_true]
      refine catS_of (by simp; omega) ?_
      unfold N32_j1
      refine hr.at rfl (by omega) ?_
      rw [wi64i (by omega) (by omega)]
      refine c_Decimal (by omega) ?_
      intro h2 e2
      rw [ba_app]
      refine catS_of (by simp; omega) ?_
      rw [ba_app, nat_succ64 (by omega)]
      refine ⟨⟨he.trans e2, i + 1, rfl, hlt, ?_⟩, by first | omega | (dsimp only; omega)⟩
      rw [dd_take l (by omega), jn_snoc _ _ _ (dd_take_ne l (by omega) (by omega))]
      simp
  · have : decide ((i : Int) < 4) = false := decide_eq_false (by omega)
    rw [this, cond_false]
    have : i = 4 := by omega
    subst this
    have e4 : (dd l).take 4 = dd l := List.take_of_length_le (by simp [dd]; omega)
    rw [e4]
    exact hK _ (hno.1.trans he)

theorem c_dotted {ip : Int} {h : Hp} {K : ByteArray → Hp → Prop} (G : Glob h) (h0 : 0 ≤ ip) (h1 : ip < 4294967296) (hK : ∀ h', Ext none' h h' → K ⟨⟨dotted ip.toNat⟩⟩ h') : C31 ip h K := by
  apply S31; unfold N31
  rw [wu64i h0 (by omega)]
  refine c_put h0 (by omega) ?_
  intro ha s hno
  have ep : putL ip.toNat 4 = be ip.toNat 4 := rfl
  rw [ep] at hno
  have blen := be_len ip.toNat 4
  unfold dotted at hK
  generalize be ip.toNat 4 = l at hno hK blen
  have sn : s.n = 4 := by have := hno.2.1.1; simp at this; omega
  unfold N31_l0
  refine loopP_inv (fun (x : Sl × Int) hc => ∃ i : Nat, x.2 = i ∧ i ≤ 4 ∧ x.1.n = i ∧ Sat ([] ++ [Hw.was ha, Hw.own 9 1 x.1 (((dd l).take i).map fun x => .string ⟨⟨x⟩⟩)]) hc) (fun x _ => 4 - x.2.toNat) ?_ ⟨0, rfl, by omega, rfl, Sat.start.addNil 9 1⟩
  rintro ⟨t, x⟩ hc ⟨i, hx, hi, htn, hs⟩
  simp only at hx hs htn
  subst hx
  have he := hs.was 0 rfl
  have hr : RdB hc s l := hno.2.1.rdb.ext he
  have jl := jn_take_len l 4 (by omega)
  unfold N31_l0_B N31_l0_b
  dsimp only
  by_cases hlt : i < 4
  · have : decide ((i : Int) < ((s.n : Nat) : Int)) = true := decide_eq_true (by omega)
    rw [this, cond_true]
    refine hr.at rfl (by omega) ?_
    have hu8 := (l[i]'(by omega)).toNat_lt
    rw [wi64i (by omega) (by omega)]
    refine c_itoa (G.ext (hno.1.trans he)) (by omega) (by omega) ?_
    intro h2 e2
    rw [itoa_nat]
    refine (hs.ext e2).push 1 rfl (k := 1) st_a st_z rfl (by intro v hv; simp at hv; subst hv; rfl) (by rw [st_b]; omega) ?_
    intro t' h3 hs3 hn3
    rw [nat_succ64 (by omega)]
    refine ⟨⟨i + 1, rfl, hlt, by first | omega | (dsimp only; omega), ?_⟩, by first | omega | (dsimp only; omega)⟩
    have := dd_take l (i := i) (by omega)
    rw [this, List.map_append]
    exact hs3
  · have : decide ((i : Int) < ((s.n : Nat) : Int)) = false := decide_eq_false (by omega)
    rw [this, cond_false]
    have : i = 4 := by omega
    subst this
    have e4 : (dd l).take 4 = dd l := List.take_of_length_le (by simp [dd]; omega)
    rw [e4] at hs jl
    have ho := hs.own 1 rfl
    obtain ⟨b, cs, hp, _⟩ := ho.row (by intro e; have h2 := congrArg List.length e; simp only [dd, List.length_map, List.length_nil] at h2; omega)
    have em : ((dd l).map fun x => Value.string ⟨⟨x⟩⟩) = ((dd l).map fun x => (⟨⟨x⟩⟩ : ByteArray)).map Value.string := by simp
    rw [em] at ho
    have ej : Lib.join (((dd l).map fun x => (⟨⟨x⟩⟩ : ByteArray)).map (·.data.toList)) [46] = jn 46 (dd l) := by rw [join_jn, List.map_map]; show jn 46 ((dd l).map fun x => x) = _; rw [List.map_id']
    refine c_join hp ho (by show (Lib.join _ [46]).length ≤ _; rw [ej]; omega) (by simp [dd]; omega) ?_
    intro h3 e3
    have : Lib.join (((dd l).map fun x => (⟨⟨x⟩⟩ : ByteArray)).map (·.data.toList)) (⟨⟨[46]⟩⟩ : ByteArray).data.toList = jn 46 (dd l) := ej
    rw [this]
    exact hK _ ((hno.1.trans he).trans e3)

/-! ### read -/
theorem be_nat (l : List UInt8) : be (nat256 l) l.length = l := by
  have low : ∀ (w a n : Nat), be (a * 256 ^ w + n) w = be n w := by
    intro w
    induction w with
    | zero => intro a n; rfl
    | succ w ih =>
      intro a n
      have e : a * 256 ^ (w + 1) + n = (a * 256) * 256 ^ w + n := by rw [Nat.pow_succ]; rw [Nat.mul_comm (256 ^ w), Nat.mul_assoc]
      simp only [be]
      rw [e, ih (a * 256) n]
      congr 2
      rw [Nat.add_comm, Nat.add_mul_div_right _ _ (Nat.pow_pos (by omega))]
      omega
  have hi : ∀ (w n b : Nat), b < 256 → be (n * 256 + b) (w + 1) = be n w ++ [UInt8.ofNat b] := by
    intro w
    induction w with
    | zero => intro n b hb; simp [be]; congr 1; omega
    | succ w ih =>
      intro n b hb
      rw [show be (n * 256 + b) (w + 1 + 1) = UInt8.ofNat ((n * 256 + b) / 256 ^ (w + 1) % 256) :: be (n * 256 + b) (w + 1) from rfl, ih n b hb]
      simp only [be, List.cons_append]
      congr 3
      rw [Nat.pow_succ, Nat.mul_comm (256 ^ w) 256, ← Nat.div_div_eq_div_mul]
      congr 1; omega
  have key : ∀ (k : Nat) (l : List UInt8), l.length = k → be (nat256 l) l.length = l := by
    intro k
    induction k with
    | zero => intro l hl; rw [List.length_eq_zero_iff.1 hl]; rfl
    | succ k ih =>
      intro l hl
      obtain ⟨m, b, rfl⟩ : ∃ m b, l = m ++ [b] := ⟨l.dropLast, l.getLast (by intro e; rw [e] at hl; simp at hl), (List.dropLast_concat_getLast _).symm⟩
      simp only [List.length_append, List.length_singleton] at hl ⊢
      rw [nat256_snoc, hi _ _ _ (b.toNat_lt), ih m (by omega)]
      simp
  exact key _ l rfl
theorem nat_be (n w : Nat) (h : n < 256 ^ w) : nat256 (be n w) = n := by
  have key : ∀ (w a n : Nat), (be n w).foldl (fun a b => a * 256 + b.toNat) a = a * 256 ^ w + n % 256 ^ w := by
    intro w
    induction w with
    | zero => intro a n; simp [be, Nat.mod_one]
    | succ w ih =>
      intro a n
      simp only [be, List.foldl_cons]
      rw [ih]
      have hb : (UInt8.ofNat (n / 256 ^ w % 256)).toNat = n / 256 ^ w % 256 := by rw [UInt8.toNat_ofNat']; omega
      rw [hb, Nat.pow_succ, Nat.mod_mul, Nat.add_mul, Nat.mul_assoc, Nat.mul_comm 256 (256 ^ w), Nat.mul_comm (256 ^ w) (n / 256 ^ w % 256)]
      omega
  have := key w 0 n
  unfold nat256
  rw [this, Nat.mod_eq_of_lt h]; omega
theorem dotted_inj {a b : Nat} (ha : a < 4294967296) (hb : b < 4294967296) (h : dotted a = dotted b) : a = b := by
  have nd : ∀ n, ∀ p ∈ dd (be n 4), (46 : UInt8) ∉ p := by
    intro n p hp hm
    obtain ⟨x, _, rfl⟩ := List.mem_map.1 hp
    have := dec_digit _ _ hm
    have e : (46 : UInt8).toNat = 46 := rfl
    omega
  have ne : ∀ n, dd (be n 4) ≠ [] := by intro n e; have := congrArg List.length e; simp [dd, be_len] at this
  have := jn_inj 46 _ _ (ne a) (ne b) (nd a) (nd b) h
  have key : ∀ (l m : List UInt8), dd l = dd m → l = m := by
    intro l
    induction l with
    | nil => intro m h; cases m with | nil => rfl | cons y m => simp [dd] at h
    | cons x l ih =>
      intro m h
      cases m with
      | nil => simp [dd] at h
      | cons y m =>
        simp only [dd, List.map_cons, List.cons.injEq] at h
        have := dec_inj h.1
        rw [ih m h.2, UInt8.toNat_inj.1 this]
  have hbe := key _ _ this
  rw [← nat_be a 4 ha, ← nat_be b 4 hb, hbe]


/-- is it an address's text? -/
def IsDot (s : List UInt8) : Prop := ∃ ip, ip < 4294967296 ∧ s = dotted ip

theorem c_undotted {s : ByteArray} {h : Hp} {K : Int → Int → Hp → Prop} (G : Glob h) (hs : s.size ≤ 1073741824) (hok : ∀ ip : Nat, ip < 4294967296 → s.data.toList = dotted ip → ∀ h', Ext none' h h' → K ip 0 h') (hbad : ¬ IsDot s.data.toList → ∀ h', Ext none' h h' → K 0 10 h') : C27 s h K := by
  apply S27; unfold N27
  obtain ⟨q1, q2, q3⟩ := splitB_ok 46 s
  refine c_split (sep := ⟨⟨[46]⟩⟩) G (by omega) (by decide) ?_ q1
  intro ha t hno
  have hsep : (⟨⟨[46]⟩⟩ : ByteArray) = ⟨#[46]⟩ := rfl
  rw [hsep] at hno
  generalize hP : (Lib.splitB ⟨#[46]⟩ 0 (Lib.countB s ⟨#[46]⟩) s) = P at hno q2 q3
  have tn : t.n = P.length := by have := hno.2.1.1; simp at this; omega
  -- what an address's text gives
  have parts : ∀ ip, ip < 4294967296 → s.data.toList = dotted ip → P.map (·.data.toList) = dd (be ip 4) := by
    intro ip hip e
    refine jn_inj 46 _ _ ?_ ?_ q3 ?_ (by rw [q2, e]; rfl)
    · intro e2
      have h2 := congrArg List.length e2
      rw [← hP] at h2
      simp only [List.length_map, List.length_nil] at h2
      omega
    · intro e; have := congrArg List.length e; simp [dd, be_len] at this
    · intro p hp hm
      obtain ⟨x, _, rfl⟩ := List.mem_map.1 hp
      have := dec_digit _ _ hm
      have e : (46 : UInt8).toNat = 46 := rfl
      omega
  by_cases h4 : P.length = 4
  · have : (((t.n : Nat) : Int) != 4) = false := by simp; omega
    rw [this, cond_false]
    unfold N27_l0
    refine loopP_inv (fun (x : Int × Int) hc => Ext none' ha hc ∧ ∃ c : List UInt8, x.2 = (c.length : Int) ∧ c.length ≤ 4 ∧ x.1 = ((nat256 c : Nat) : Int) ∧ (P.take c.length).map (·.data.toList) = dd c) (fun x _ => 4 - x.2.toNat) ?_ ⟨Ext.refl, [], rfl, by simp, rfl, rfl⟩
    rintro ⟨v, x⟩ hc ⟨he, c, hx, hcl, hv, hd⟩
    simp only at hx hv
    subst hx; subst hv
    have Gc := G.ext (hno.1.trans he)
    unfold N27_l0_B N27_l0_b
    dsimp only
    by_cases hlt : c.length < 4
    · have : decide ((c.length : Int) < ((t.n : Nat) : Int)) = true := decide_eq_true (by omega)
      rw [this, cond_true]
      have hPi : P[c.length]? = some (P[c.length]'(by omega)) := List.getElem?_eq_getElem (by omega)
      generalize hq : P[c.length]'(by omega) = p at hPi
      obtain ⟨b, hb, hcell⟩ := (hno.2.1.ext he (fun _ _ e => e)).get (k := c.length) (v := .string p) (by rw [List.getElem?_map, hPi]; rfl)
      refine idx_of (by omega) (by omega) ?_
      rw [hb]
      simp only [nn_some', add_bk, Int.toNat_natCast, Nat.mul_one, hcell, xS_some]
      have psz : p.size ≤ s.size := by
        have hm : p.data.toList ∈ P.map (·.data.toList) := List.mem_map.2 ⟨p, List.mem_of_getElem? hPi, rfl⟩
        have key : ∀ (l : List (List UInt8)) (x : List UInt8), x ∈ l → x.length ≤ (jn 46 l).length := by
          intro l
          induction l with
          | nil => intro x h; simp at h
          | cons a l ih =>
            intro x hx
            cases l with
            | nil => simp at hx; subst hx; exact Nat.le_refl _
            | cons b l =>
              rw [jn_cons 46 a (by simp)]
              rcases List.mem_cons.1 hx with rfl | hx
              · simp
              · have := ih x hx; simp; omega
        have := key _ _ hm
        rw [q2] at this; exact this
      -- not so: it is no address's text
      have bad : (∀ u : Nat, u < 256 → p.data.toList ≠ Lib.decDigits u) → ¬ IsDot s.data.toList := by
        rintro hu ⟨ip, hip, e⟩
        have e2 := parts ip hip e
        have e3 : (P.map (·.data.toList))[c.length]? = (dd (be ip 4))[c.length]? := by rw [e2]
        rw [List.getElem?_map, hPi] at e3
        simp only [dd, List.getElem?_map, Option.map_some] at e3
        have hbl : c.length < (be ip 4).length := by rw [be_len]; exact hlt
        rw [List.getElem?_eq_getElem hbl] at e3
        simp only [Option.map_some, Option.some.injEq] at e3
        exact hu _ (by have := ((be ip 4)[c.length]).toNat_lt; omega) e3
      refine c_parse8 Gc (by omega) ?_ ?_
      · intro u hu h2 e2
        have hul := parse_le hu
        unfold ifn
        simp only [Bool.not_true, cond_false]
        rw [wi64i (by omega) (by omega)]
        refine c_itoa (Gc.ext e2) (by omega) (by omega) ?_
        intro h3 e3
        rw [itoa_nat, ba_beq]
        by_cases heq : Lib.decDigits u = p.data.toList
        · have : decide (Lib.decDigits u = p.data.toList) = true := decide_eq_true heq
          simp only [this, Bool.not_true, cond_false]
          have hlt24 : nat256 c < 16777216 := by
            have := nat256_lt c
            have : 256 ^ c.length ≤ 256 ^ 3 := Nat.pow_le_pow_right (by omega) (by omega)
            omega
          have e5 := bor_low (w := 32) (x := ((nat256 c : Nat) : Int)) (y := (u : Int)) 8 (by omega) (by omega) (by omega) (by omega) (by omega)
          have e6 : ((2 : Int) ^ 8) = 256 := rfl
          rw [wu32i (x := ((nat256 c : Nat) : Int) * 2 ^ 8) (by omega) (by omega), wu32i (x := (u : Int)) (by omega) (by omega), e5, e6, wu32i (by omega) (by omega), nat_succ64 (by omega)]
          have hub : (UInt8.ofNat u).toNat = u := by rw [UInt8.toNat_ofNat']; omega
          refine ⟨⟨(he.trans e2).trans e3, c ++ [UInt8.ofNat u], by simp, by simp; omega, ?_, ?_⟩, by first | omega | (dsimp only; omega)⟩
          · rw [nat256_snoc, hub]; omega
          · rw [List.length_append, List.length_singleton, ← List.take_append_getElem (by omega), List.map_append, hd, hq]
            simp [dd, hub, heq]
        · have : decide (Lib.decDigits u = p.data.toList) = false := decide_eq_false heq
          simp only [this, Bool.not_false, cond_true]
          refine hbad (bad ?_) _ (((hno.1.trans he).trans e2).trans e3)
          intro u' hu' e
          rw [e, parse_dec hu'] at hu
          cases hu
          exact heq e.symm
      · intro hu n v h2 e2 hv
        have : ∃ a b, v = .iface a b := by cases v <;> first | exact hv.elim | exact ⟨_, _, rfl⟩
        obtain ⟨a, b', rfl⟩ := this
        unfold ifn
        simp only [Bool.not_false, cond_true]
        refine hbad (bad ?_) _ ((hno.1.trans he).trans e2)
        intro u' hu' e
        exact hu u' (by rw [e]; exact parse_dec hu')
    · have : decide ((c.length : Int) < ((t.n : Nat) : Int)) = false := decide_eq_false (by omega)
      rw [this, cond_false]
      have hc4 : c.length = 4 := by omega
      rw [List.take_of_length_le (by omega)] at hd
      have hn := nat256_lt c
      rw [hc4] at hn
      refine hok (nat256 c) (by omega) ?_ _ (hno.1.trans he)
      unfold dotted
      rw [← hc4, be_nat, ← hd, q2]
  · have : (((t.n : Nat) : Int) != 4) = true := by simp; omega
    rw [this, cond_true]
    refine hbad ?_ _ hno.1
    rintro ⟨ip, hip, e⟩
    have := congrArg List.length (parts ip hip e)
    simp [dd, be_len] at this
    exact h4 this

end Go.Proofs.YtlioifgejijcoaaDoor

set_option linter.unusedVariables false
set_option maxRecDepth 100000
namespace Go.Proofs.YtlioifgejijcoaaDoor
open Go Go.Hw
/-! ### 33 slipway/octet.Colons -/
noncomputable def B33 : Code := match Tryd.f33.body with | some c => c | none => .skip
def N33_j1 (x3_b : Sl) (x5_x : Int) (x6_0 : Int) (x6_1 : Int) (x6_2 : Int) (x6_3 : Int) (x6_4 : Int) (x6_5 : Int) (x7 : Int) (h : Hp) (K_normal : Sl → Hp → Prop) : Prop :=
  idx (Int.fdiv x5_x (2 ^ 4)) (⟨⟨[48, 49, 50, 51, 52, 53, 54, 55, 56, 57, 97, 98, 99, 100, 101, 102]⟩⟩ : ByteArray).size <|
  idx (IntKind.wrap .u8 (BitVec.ofInt 8 x5_x &&& BitVec.ofInt 8 15).toNat) (⟨⟨[48, 49, 50, 51, 52, 53, 54, 55, 56, 57, 97, 98, 99, 100, 101, 102]⟩⟩ : ByteArray).size <|
  nw h (.cells ⟨[.int .u8 (sbyte (⟨⟨[48, 49, 50, 51, 52, 53, 54, 55, 56, 57, 97, 98, 99, 100, 101, 102]⟩⟩ : ByteArray) (Int.fdiv x5_x (2 ^ 4))), .int .u8 (sbyte (⟨⟨[48, 49, 50, 51, 52, 53, 54, 55, 56, 57, 97, 98, 99, 100, 101, 102]⟩⟩ : ByteArray) (IntKind.wrap .u8 (BitVec.ofInt 8 x5_x &&& BitVec.ofInt 8 15).toNat))]⟩ 5) fun b0 h0 =>
  apK Tryd.prog 5 x3_b (.slice (some (bk b0)) 2 2) h0 fun s0 h1 =>
  K_normal s0 h1
noncomputable def N33_j1_t : Xf := pieceT [(3, .c (.slice)), (5, .c (.int .u8)), (6, .agg [.int .u8, .int .u8, .int .u8, .int .u8, .int .u8, .int .u8]), (7, .c (.int .i64))] (codeAt B33 [1, 1, 0, 1, 0, 0, 1, 1, 0, 0, 1, 1]) fun x h Q => N33_j1 x.1 x.2.1 x.2.2.1.1 x.2.2.1.2.1 x.2.2.1.2.2.1 x.2.2.1.2.2.2.1 x.2.2.1.2.2.2.2.1 x.2.2.1.2.2.2.2.2 x.2.2.2 h (fun o0 h' => Q .normal (Sg.env [(3, .c (.slice))] o0) h')
theorem N33_j1_ok : Sound Tryd.prog Tryd.f33.ntmps N33_j1_t (codeAt B33 [1, 1, 0, 1, 0, 0, 1, 1, 0, 0, 1, 1]) := by
  refine piece_sound (fun e => match e with | .normal => [3] | _ => []) ?_
  intro x h Q hb
  refine den_sound hE hm _ (.ord [0, 1, 2, 3, 4, 5, 6, 7, 8, 9]) _ _ _ (trivial) ?_
  refine cast ?_ hb
  kernel_rfl
def N33_l0_b (x6_0 : Int) (x6_1 : Int) (x6_2 : Int) (x6_3 : Int) (x6_4 : Int) (x6_5 : Int) (Φ : Sl → Int → Hp → Prop) (x3_b : Sl) (x7 : Int) (h : Hp) (K_e0 : Sl → Hp → Prop) : Prop :=
  bif (decide (x7 < 6)) then
    idx x7 6 <|
    vK ([.int .u8 x6_0, .int .u8 x6_1, .int .u8 x6_2, .int .u8 x6_3, .int .u8 x6_4, .int .u8 x6_5][x7.toNat * 1]?) fun v0 =>
    xI .u8 (some v0) fun n0 =>
    bif (decide (x7 > 0)) then
      nw h (.cells ⟨[.int .u8 58]⟩ 5) fun b0 h0 =>
      apK Tryd.prog 5 x3_b (.slice (some (bk b0)) 1 1) h0 fun s0 h1 =>
      N33_j1 s0 n0 x6_0 x6_1 x6_2 x6_3 x6_4 x6_5 x7 h1
        (fun s1 h2 =>
          Φ s1 (IntKind.wrap .i64 (x7 + 1)) h2)
    else
      N33_j1 x3_b n0 x6_0 x6_1 x6_2 x6_3 x6_4 x6_5 x7 h
        (fun s2 h3 =>
          Φ s2 (IntKind.wrap .i64 (x7 + 1)) h3)
  else
    K_e0 x3_b h
def N33_l0_B (x6_0 : Int) (x6_1 : Int) (x6_2 : Int) (x6_3 : Int) (x6_4 : Int) (x6_5 : Int) (K_e0 : Sl → Hp → Prop) (s : Sg.T [(3, .c (.slice)), (7, .c (.int .i64))]) (h : Hp) (Φ : Sg.T [(3, .c (.slice)), (7, .c (.int .i64))] → Hp → Prop) : Prop :=
  N33_l0_b x6_0 x6_1 x6_2 x6_3 x6_4 x6_5 (fun x3_b x7 h => Φ (x3_b, x7) h) s.1 s.2 h K_e0
def N33_l0 (x6_0 : Int) (x6_1 : Int) (x6_2 : Int) (x6_3 : Int) (x6_4 : Int) (x6_5 : Int) (x3_b : Sl) (x7 : Int) (h : Hp) (K_e0 : Sl → Hp → Prop) : Prop :=
  loopP (N33_l0_B x6_0 x6_1 x6_2 x6_3 x6_4 x6_5 K_e0) (x3_b, x7) h
noncomputable def N33_l0_t : Xf := loopT [(6, .agg [.int .u8, .int .u8, .int .u8, .int .u8, .int .u8, .int .u8])] [(3, .c (.slice)), (7, .c (.int .i64))] (codeAt B33 [1, 1, 0, 1, 0, 0]) fun F Q => N33_l0_B F.1 F.2.1 F.2.2.1 F.2.2.2.1 F.2.2.2.2.1 F.2.2.2.2.2 (fun o0 h' => Q (.exit 0) (Sg.env [(3, .c (.slice))] o0) h')
theorem N33_l0_ok : Sound Tryd.prog Tryd.f33.ntmps N33_l0_t (codeAt B33 [1, 1, 0, 1, 0]) := by
  refine loop_sound (fun e => match e with | .exit 0 => [3] | _ => []) (by kernel_rfl) ?_
  intro F Q s h Φ hb
  refine den_sound hE hm _ (.two .leaf (.two .leaf (.two (.one (.two .leaf (.two .leaf (.xf N33_j1_t)))) .leaf))) _ _ _ (⟨annOk_leaf, ⟨annOk_leaf, ⟨⟨annOk_leaf, ⟨annOk_leaf, N33_j1_ok⟩⟩, annOk_leaf⟩⟩⟩) ?_
  refine cast ?_ hb
  kernel_rfl
def N33 (x0_0 : Int) (x0_1 : Int) (x0_2 : Int) (x0_3 : Int) (x0_4 : Int) (x0_5 : Int) (h : Hp) (K : ByteArray → Hp → Prop) : Prop :=
  nw h (.cells ⟨[.int .u8 x0_0, .int .u8 x0_1, .int .u8 x0_2, .int .u8 x0_3, .int .u8 x0_4, .int .u8 x0_5]⟩ 49) fun b0 h0 =>
  xI .u8 (cell h0 (bk b0)) fun n0 =>
  xI .u8 (cell h0 ((bk b0).add 1)) fun n1 =>
  xI .u8 (cell h0 ((bk b0).add 2)) fun n2 =>
  xI .u8 (cell h0 ((bk b0).add 3)) fun n3 =>
  xI .u8 (cell h0 ((bk b0).add 4)) fun n4 =>
  xI .u8 (cell h0 ((bk b0).add 5)) fun n5 =>
  N33_l0 n0 n1 n2 n3 n4 n5 ⟨none, 0, 0⟩ 0 h0
    (fun s0 h1 =>
      b2s h1 s0.p s0.n fun s1 =>
      K s1 h1)
theorem S33 {x0_0 : Int} {x0_1 : Int} {x0_2 : Int} {x0_3 : Int} {x0_4 : Int} {x0_5 : Int} {h : Hp} {K : ByteArray → Hp → Prop} (hn : N33 x0_0 x0_1 x0_2 x0_3 x0_4 x0_5 h K) : C33 x0_0 x0_1 x0_2 x0_3 x0_4 x0_5 h K := by
  refine calls_of_D Tryd.func33 (c := B33) rfl (by kernel_rfl) ?_
  refine den_sound hE hm _ (.two .leaf (.two .leaf (.two (.two .leaf (.one (.xf N33_l0_t))) .leaf))) _ _ _ (⟨annOk_leaf, ⟨annOk_leaf, ⟨⟨annOk_leaf, N33_l0_ok⟩, annOk_leaf⟩⟩⟩) ?_
  refine cast ?_ hn
  kernel_rfl
end Go.Proofs.YtlioifgejijcoaaDoor

set_option linter.unusedVariables false
set_option maxRecDepth 100000
namespace Go.Proofs.YtlioifgejijcoaaDoor
open Go Go.Hw
/-! ### 34 slipway/slipwayref01.Colons -/
noncomputable def B34 : Code := match Tryd.f34.body with | some c => c | none => .skip
def N34_j1 (x1_m : Option Addr) (x3_s : ByteArray) (x4_i : Int) (h : Hp) (K_normal : ByteArray → Hp → Prop) : Prop :=
  nn x1_m fun a0 =>
  idx x4_i 6 <|
  xI .u8 (cell h (a0.add (x4_i.toNat * 1))) fun n0 =>
  idx (IntKind.wrap .u8 (Int.tdiv n0 16)) (⟨⟨[48, 49, 50, 51, 52, 53, 54, 55, 56, 57, 97, 98, 99, 100, 101, 102]⟩⟩ : ByteArray).size <|
  nn x1_m fun a1 =>
  idx x4_i 6 <|
  xI .u8 (cell h (a1.add (x4_i.toNat * 1))) fun n1 =>
  idx (Int.tmod n1 16) (⟨⟨[48, 49, 50, 51, 52, 53, 54, 55, 56, 57, 97, 98, 99, 100, 101, 102]⟩⟩ : ByteArray).size <|
  nw h (.cells ⟨[.int .u8 (sbyte (⟨⟨[48, 49, 50, 51, 52, 53, 54, 55, 56, 57, 97, 98, 99, 100, 101, 102]⟩⟩ : ByteArray) (IntKind.wrap .u8 (Int.tdiv n0 16))), .int .u8 (sbyte (⟨⟨[48, 49, 50, 51, 52, 53, 54, 55, 56, 57, 97, 98, 99, 100, 101, 102]⟩⟩ : ByteArray) (Int.tmod n1 16))]⟩ 5) fun b0 h0 =>
  b2s h0 (some (bk b0)) 2 fun s0 =>
  catS x3_s s0 <|
  K_normal (x3_s ++ s0) h0
noncomputable def N34_j1_t : Xf := pieceT [(1, .c (.ptr)), (3, .c (.str)), (4, .c (.int .i64))] (codeAt B34 [1, 1, 0, 1, 0, 0, 1, 0, 0, 1]) fun x h Q => N34_j1 x.1 x.2.1 x.2.2 h (fun o0 h' => Q .normal (Sg.env [(3, .c (.str))] o0) h')
theorem N34_j1_ok : Sound Tryd.prog Tryd.f34.ntmps N34_j1_t (codeAt B34 [1, 1, 0, 1, 0, 0, 1, 0, 0, 1]) := by
  refine piece_sound (fun e => match e with | .normal => [3] | _ => []) ?_
  intro x h Q hb
  refine den_sound hE hm _ (.ord [0, 1, 2, 3, 4, 5, 6, 7, 8, 9, 10, 11, 12, 13, 14]) _ _ _ (trivial) ?_
  refine cast ?_ hb
  kernel_rfl
def N34_l0_b (x1_m : Option Addr) (Φ : ByteArray → Int → Hp → Prop) (x3_s : ByteArray) (x4_i : Int) (h : Hp) (K_e0 : ByteArray → Hp → Prop) : Prop :=
  bif (decide (x4_i < 6)) then
    bif (decide (x4_i > 0)) then
      catS x3_s (⟨⟨[58]⟩⟩ : ByteArray) <|
      N34_j1 x1_m (x3_s ++ (⟨⟨[58]⟩⟩ : ByteArray)) x4_i h
        (fun s0 h0 =>
          Φ s0 (IntKind.wrap .i64 (x4_i + 1)) h0)
    else
      N34_j1 x1_m x3_s x4_i h
        (fun s1 h1 =>
          Φ s1 (IntKind.wrap .i64 (x4_i + 1)) h1)
  else
    K_e0 x3_s h
def N34_l0_B (x1_m : Option Addr) (K_e0 : ByteArray → Hp → Prop) (s : Sg.T [(3, .c (.str)), (4, .c (.int .i64))]) (h : Hp) (Φ : Sg.T [(3, .c (.str)), (4, .c (.int .i64))] → Hp → Prop) : Prop :=
  N34_l0_b x1_m (fun x3_s x4_i h => Φ (x3_s, x4_i) h) s.1 s.2 h K_e0
def N34_l0 (x1_m : Option Addr) (x3_s : ByteArray) (x4_i : Int) (h : Hp) (K_e0 : ByteArray → Hp → Prop) : Prop :=
  loopP (N34_l0_B x1_m K_e0) (x3_s, x4_i) h
noncomputable def N34_l0_t : Xf := loopT [(1, .c (.ptr))] [(3, .c (.str)), (4, .c (.int .i64))] (codeAt B34 [1, 1, 0, 1, 0, 0]) fun F Q => N34_l0_B F (fun o0 h' => Q (.exit 0) (Sg.env [(3, .c (.str))] o0) h')
theorem N34_l0_ok : Sound Tryd.prog Tryd.f34.ntmps N34_l0_t (codeAt B34 [1, 1, 0, 1, 0]) := by
  refine loop_sound (fun e => match e with | .exit 0 => [3] | _ => []) (by kernel_rfl) ?_
  intro F Q s h Φ hb
  refine den_sound hE hm _ (.two .leaf (.two (.one (.two .leaf (.xf N34_j1_t))) .leaf)) _ _ _ (⟨annOk_leaf, ⟨⟨annOk_leaf, N34_j1_ok⟩, annOk_leaf⟩⟩) ?_
  refine cast ?_ hb
  kernel_rfl
def N34 (x0_0 : Int) (x0_1 : Int) (x0_2 : Int) (x0_3 : Int) (x0_4 : Int) (x0_5 : Int) (h : Hp) (K : ByteArray → Hp → Prop) : Prop :=
  nw h (.cells ⟨[.int .u8 x0_0, .int .u8 x0_1, .int .u8 x0_2, .int .u8 x0_3, .int .u8 x0_4, .int .u8 x0_5]⟩ 49) fun b0 h0 =>
  N34_l0 (some (bk b0)) (⟨⟨[]⟩⟩ : ByteArray) 0 h0
    (fun s0 h1 =>
      K s0 h1)
theorem S34 {x0_0 : Int} {x0_1 : Int} {x0_2 : Int} {x0_3 : Int} {x0_4 : Int} {x0_5 : Int} {h : Hp} {K : ByteArray → Hp → Prop} (hn : N34 x0_0 x0_1 x0_2 x0_3 x0_4 x0_5 h K) : C34 x0_0 x0_1 x0_2 x0_3 x0_4 x0_5 h K := by
  refine calls_of_D Tryd.func34 (c := B34) rfl (by kernel_rfl) ?_
  refine den_sound hE hm _ (.two .leaf (.two .leaf (.two (.two .leaf (.one (.xf N34_l0_t))) .leaf))) _ _ _ (⟨annOk_leaf, ⟨annOk_leaf, ⟨⟨annOk_leaf, N34_l0_ok⟩, annOk_leaf⟩⟩⟩) ?_
  refine cast ?_ hn
  kernel_rfl
end Go.Proofs.YtlioifgejijcoaaDoor

set_option linter.unusedVariables false
set_option maxRecDepth 100000
namespace Go.Proofs.YtlioifgejijcoaaDoor
open Go Go.Hw
/-! ### 29 slipway/octet.Uncolons -/
noncomputable def B29 : Code := match Tryd.f29.body with | some c => c | none => .skip
def N29_j1 (x2 : Option Addr) (x4_m : Option Addr) (x6_i : Int) (x8_hi : Int) (x9_lo : Int) (x16 : Sl) (x17 : Int) (x18 : Int) (x38 : Bool) (h : Hp) (K_normal : Hp → Prop) (K_ret : Int → Hp → Prop) : Prop :=
  bif x38 then
    nn x2 fun a0 =>
    st h a0 (.int .u8 0) fun h0 =>
    st h0 (a0.add 1) (.int .u8 0) fun h1 =>
    st h1 (a0.add 2) (.int .u8 0) fun h2 =>
    st h2 (a0.add 3) (.int .u8 0) fun h3 =>
    st h3 (a0.add 4) (.int .u8 0) fun h4 =>
    st h4 (a0.add 5) (.int .u8 0) fun h5 =>
    K_ret 10 h5
  else
    K_normal h
noncomputable def N29_j1_t : Xf := pieceT [(2, .c (.ptr)), (4, .c (.ptr)), (6, .c (.int .i64)), (8, .c (.int .i64)), (9, .c (.int .i64)), (16, .c (.slice)), (17, .c (.int .i64)), (18, .c (.int .i64)), (38, .c (.bool))] (codeAt B29 [1, 1, 1, 1, 0, 1, 0, 0, 1, 1, 0, 0, 1, 1, 1, 0, 1]) fun x h Q => N29_j1 x.1 x.2.1 x.2.2.1 x.2.2.2.1 x.2.2.2.2.1 x.2.2.2.2.2.1 x.2.2.2.2.2.2.1 x.2.2.2.2.2.2.2.1 x.2.2.2.2.2.2.2.2 h (fun h' => Q .normal (Sg.env [] ()) h') (fun o0 h' => Q .ret (Sg.env [(3, .c (.int .i64))] o0) h')
theorem N29_j1_ok : Sound Tryd.prog Tryd.f29.ntmps N29_j1_t (codeAt B29 [1, 1, 1, 1, 0, 1, 0, 0, 1, 1, 0, 0, 1, 1, 1, 0, 1]) := by
  refine piece_sound (fun e => match e with | .normal => [] | .ret => [3] | _ => []) ?_
  intro x h Q hb
  refine den_sound hE hm _ .leaf _ _ _ (annOk_leaf) ?_
  refine cast ?_ hb
  kernel_rfl
def N29_j2 (x2 : Option Addr) (x4_m : Option Addr) (x6_i : Int) (x8_hi : Int) (x9_lo : Int) (x16 : Sl) (x17 : Int) (x18 : Int) (h : Hp) (K_normal : Hp → Prop) : Prop :=
  nn x4_m fun a0 =>
  idx x6_i 6 <|
  st h (a0.add (x6_i.toNat * 1)) (.int .u8 (IntKind.wrap .u8 (IntKind.wrap .i64 (BitVec.ofInt 64 (IntKind.wrap .i64 (x8_hi * 2 ^ 4)) ||| BitVec.ofInt 64 x9_lo).toNat))) fun h0 =>
  K_normal h0
noncomputable def N29_j2_t : Xf := pieceT [(2, .c (.ptr)), (4, .c (.ptr)), (6, .c (.int .i64)), (8, .c (.int .i64)), (9, .c (.int .i64)), (16, .c (.slice)), (17, .c (.int .i64)), (18, .c (.int .i64))] (codeAt B29 [1, 1, 1, 1, 0, 1, 0, 0, 1, 1, 0, 0, 1, 1, 1, 1]) fun x h Q => N29_j2 x.1 x.2.1 x.2.2.1 x.2.2.2.1 x.2.2.2.2.1 x.2.2.2.2.2.1 x.2.2.2.2.2.2.1 x.2.2.2.2.2.2.2 h (fun h' => Q .normal (Sg.env [] ()) h')
theorem N29_j2_ok : Sound Tryd.prog Tryd.f29.ntmps N29_j2_t (codeAt B29 [1, 1, 1, 1, 0, 1, 0, 0, 1, 1, 0, 0, 1, 1, 1, 1]) := by
  refine piece_sound (fun e => match e with | .normal => [] | _ => []) ?_
  intro x h Q hb
  refine den_sound hE hm _ .leaf _ _ _ (annOk_leaf) ?_
  refine cast ?_ hb
  kernel_rfl
def N29_l0_b (x2 : Option Addr) (x4_m : Option Addr) (x16 : Sl) (x17 : Int) (Φ : Int → Hp → Prop) (x18 : Int) (h : Hp) (K_e0 : Hp → Prop) (K_ret : Int → Hp → Prop) : Prop :=
  bif (decide (x18 < x17)) then
    idx x18 x16.n <|
    nn x16.p fun a0 =>
    xS (cell h (a0.add (x18.toNat * 1))) fun s0 =>
    bif ((s0.size : Int) != 2) then
      nn x2 fun a1 =>
      st h a1 (.int .u8 0) fun h0 =>
      st h0 (a1.add 1) (.int .u8 0) fun h1 =>
      st h1 (a1.add 2) (.int .u8 0) fun h2 =>
      st h2 (a1.add 3) (.int .u8 0) fun h3 =>
      st h3 (a1.add 4) (.int .u8 0) fun h4 =>
      st h4 (a1.add 5) (.int .u8 0) fun h5 =>
      K_ret 10 h5
    else
      idx 0 s0.size <|
      idx 1 s0.size <|
      C51 (⟨⟨[48, 49, 50, 51, 52, 53, 54, 55, 56, 57, 97, 98, 99, 100, 101, 102]⟩⟩ : ByteArray) (sbyte s0 0) h fun n0 h6 =>
      C51 (⟨⟨[48, 49, 50, 51, 52, 53, 54, 55, 56, 57, 97, 98, 99, 100, 101, 102]⟩⟩ : ByteArray) (sbyte s0 1) h6 fun n1 h7 =>
      bif (decide (n0 < 0)) then
        N29_j1 x2 x4_m x18 n0 n1 x16 x17 x18 true h7
          (fun h8 =>
            N29_j2 x2 x4_m x18 n0 n1 x16 x17 x18 h8
              (fun h9 =>
                Φ (IntKind.wrap .i64 (x18 + 1)) h9))
          (fun n2 h10 =>
            K_ret n2 h10)
      else
        N29_j1 x2 x4_m x18 n0 n1 x16 x17 x18 (decide (n1 < 0)) h7
          (fun h11 =>
            N29_j2 x2 x4_m x18 n0 n1 x16 x17 x18 h11
              (fun h12 =>
                Φ (IntKind.wrap .i64 (x18 + 1)) h12))
          (fun n3 h13 =>
            K_ret n3 h13)
  else
    K_e0 h
def N29_l0_B (x2 : Option Addr) (x4_m : Option Addr) (x16 : Sl) (x17 : Int) (K_e0 : Hp → Prop) (K_ret : Int → Hp → Prop) (s : Sg.T [(18, .c (.int .i64))]) (h : Hp) (Φ : Sg.T [(18, .c (.int .i64))] → Hp → Prop) : Prop :=
  N29_l0_b x2 x4_m x16 x17 (fun x18 h => Φ x18 h) s h K_e0 K_ret
def N29_l0 (x2 : Option Addr) (x4_m : Option Addr) (x16 : Sl) (x17 : Int) (x18 : Int) (h : Hp) (K_e0 : Hp → Prop) (K_ret : Int → Hp → Prop) : Prop :=
  loopP (N29_l0_B x2 x4_m x16 x17 K_e0 K_ret) x18 h
noncomputable def N29_l0_t : Xf := loopT [(2, .c (.ptr)), (4, .c (.ptr)), (16, .c (.slice)), (17, .c (.int .i64))] [(18, .c (.int .i64))] (codeAt B29 [1, 1, 1, 1, 0, 1, 0, 0]) fun F Q => N29_l0_B F.1 F.2.1 F.2.2.1 F.2.2.2 (fun h' => Q (.exit 0) (Sg.env [] ()) h') (fun o0 h' => Q .ret (Sg.env [(3, .c (.int .i64))] o0) h')
theorem N29_l0_ok : Sound Tryd.prog Tryd.f29.ntmps N29_l0_t (codeAt B29 [1, 1, 1, 1, 0, 1, 0]) := by
  refine loop_sound (fun e => match e with | .exit 0 => [] | .ret => [3] | _ => []) (by kernel_rfl) ?_
  intro F Q s h Φ hb
  refine den_sound hE hm _ (.two .leaf (.two .leaf (.two (.one (.two .leaf (.two .leaf (.two (.ord [0, 1, 3, 4, 2, 5, 6, 7]) (.two (.two .leaf (.xf N29_j1_t)) (.xf N29_j2_t)))))) .leaf))) _ _ _ (⟨annOk_leaf, ⟨annOk_leaf, ⟨⟨annOk_leaf, ⟨annOk_leaf, ⟨trivial, ⟨⟨annOk_leaf, N29_j1_ok⟩, N29_j2_ok⟩⟩⟩⟩, annOk_leaf⟩⟩⟩) ?_
  refine cast ?_ hb
  kernel_rfl
def N29 (x0 : ByteArray) (h : Hp) (K : Int → Int → Int → Int → Int → Int → Int → Hp → Prop) : Prop :=
  nw h (.cells ⟨[.int .u8 0, .int .u8 0, .int .u8 0, .int .u8 0, .int .u8 0, .int .u8 0]⟩ 49) fun b0 h0 =>
  nw h0 (.cells ⟨[.int .u8 0, .int .u8 0, .int .u8 0, .int .u8 0, .int .u8 0, .int .u8 0]⟩ 49) fun b1 h1 =>
  C48 x0 (⟨⟨[58]⟩⟩ : ByteArray) h1 fun s0 h2 =>
  bif (((s0.n : Nat) : Int) != 6) then
    xI .u8 (cell h2 (bk b1)) fun n0 =>
    xI .u8 (cell h2 ((bk b1).add 1)) fun n1 =>
    xI .u8 (cell h2 ((bk b1).add 2)) fun n2 =>
    xI .u8 (cell h2 ((bk b1).add 3)) fun n3 =>
    xI .u8 (cell h2 ((bk b1).add 4)) fun n4 =>
    xI .u8 (cell h2 ((bk b1).add 5)) fun n5 =>
    st h2 (bk b0) (.int .u8 n0) fun h3 =>
    st h3 ((bk b0).add 1) (.int .u8 n1) fun h4 =>
    st h4 ((bk b0).add 2) (.int .u8 n2) fun h5 =>
    st h5 ((bk b0).add 3) (.int .u8 n3) fun h6 =>
    st h6 ((bk b0).add 4) (.int .u8 n4) fun h7 =>
    st h7 ((bk b0).add 5) (.int .u8 n5) fun h8 =>
    xI .u8 (cell h8 (bk b0)) fun n6 =>
    xI .u8 (cell h8 ((bk b0).add 1)) fun n7 =>
    xI .u8 (cell h8 ((bk b0).add 2)) fun n8 =>
    xI .u8 (cell h8 ((bk b0).add 3)) fun n9 =>
    xI .u8 (cell h8 ((bk b0).add 4)) fun n10 =>
    xI .u8 (cell h8 ((bk b0).add 5)) fun n11 =>
    K n6 n7 n8 n9 n10 n11 10 h8
  else
    N29_l0 (some (bk b0)) (some (bk b1)) s0 ((s0.n : Nat) : Int) 0 h2
      (fun h9 =>
        xI .u8 (cell h9 (bk b1)) fun n12 =>
        xI .u8 (cell h9 ((bk b1).add 1)) fun n13 =>
        xI .u8 (cell h9 ((bk b1).add 2)) fun n14 =>
        xI .u8 (cell h9 ((bk b1).add 3)) fun n15 =>
        xI .u8 (cell h9 ((bk b1).add 4)) fun n16 =>
        xI .u8 (cell h9 ((bk b1).add 5)) fun n17 =>
        st h9 (bk b0) (.int .u8 n12) fun h10 =>
        st h10 ((bk b0).add 1) (.int .u8 n13) fun h11 =>
        st h11 ((bk b0).add 2) (.int .u8 n14) fun h12 =>
        st h12 ((bk b0).add 3) (.int .u8 n15) fun h13 =>
        st h13 ((bk b0).add 4) (.int .u8 n16) fun h14 =>
        st h14 ((bk b0).add 5) (.int .u8 n17) fun h15 =>
        xI .u8 (cell h15 (bk b0)) fun n18 =>
        xI .u8 (cell h15 ((bk b0).add 1)) fun n19 =>
        xI .u8 (cell h15 ((bk b0).add 2)) fun n20 =>
        xI .u8 (cell h15 ((bk b0).add 3)) fun n21 =>
        xI .u8 (cell h15 ((bk b0).add 4)) fun n22 =>
        xI .u8 (cell h15 ((bk b0).add 5)) fun n23 =>
        K n18 n19 n20 n21 n22 n23 0 h15)
      (fun n24 h16 =>
        xI .u8 (cell h16 (bk b0)) fun n25 =>
        xI .u8 (cell h16 ((bk b0).add 1)) fun n26 =>
        xI .u8 (cell h16 ((bk b0).add 2)) fun n27 =>
        xI .u8 (cell h16 ((bk b0).add 3)) fun n28 =>
        xI .u8 (cell h16 ((bk b0).add 4)) fun n29 =>
        xI .u8 (cell h16 ((bk b0).add 5)) fun n30 =>
        K n25 n26 n27 n28 n29 n30 n24 h16)
theorem S29 {x0 : ByteArray} {h : Hp} {K : Int → Int → Int → Int → Int → Int → Int → Hp → Prop} (hn : N29 x0 h K) : C29 x0 h K := by
  refine calls_of_M Tryd.func29 (c := B29) rfl (by kernel_rfl) ?_
  refine den_sound hE hm _ (.two .leaf (.two .leaf (.two .leaf (.two .leaf (.two (.two .leaf (.one (.xf N29_l0_t))) .leaf))))) _ _ _ (⟨annOk_leaf, ⟨annOk_leaf, ⟨annOk_leaf, ⟨annOk_leaf, ⟨⟨annOk_leaf, N29_l0_ok⟩, annOk_leaf⟩⟩⟩⟩⟩) ?_
  refine cast ?_ hn
  kernel_rfl
end Go.Proofs.YtlioifgejijcoaaDoor

set_option linter.unusedVariables false
set_option maxRecDepth 100000
namespace Go.Proofs.YtlioifgejijcoaaDoor
open Go Go.Hw
/-! ### 30 slipway/slipwayref01.Uncolons -/
noncomputable def B30 : Code := match Tryd.f30.body with | some c => c | none => .skip
def N30_j1 (x0_s : ByteArray) (x2 : Option Addr) (x4_m : Option Addr) (x5_i : Int) (x6_hi : Int) (x7_lo : Int) (x44 : Bool) (h : Hp) (K_normal : Hp → Prop) (K_ret : Int → Hp → Prop) : Prop :=
  bif x44 then
    nn x2 fun a0 =>
    st h a0 (.int .u8 0) fun h0 =>
    st h0 (a0.add 1) (.int .u8 0) fun h1 =>
    st h1 (a0.add 2) (.int .u8 0) fun h2 =>
    st h2 (a0.add 3) (.int .u8 0) fun h3 =>
    st h3 (a0.add 4) (.int .u8 0) fun h4 =>
    st h4 (a0.add 5) (.int .u8 0) fun h5 =>
    K_ret 10 h5
  else
    K_normal h
noncomputable def N30_j1_t : Xf := pieceT [(0, .c (.str)), (2, .c (.ptr)), (4, .c (.ptr)), (5, .c (.int .i64)), (6, .c (.int .i64)), (7, .c (.int .i64)), (44, .c (.bool))] (codeAt B30 [1, 1, 1, 0, 1, 0, 0, 1, 0, 0, 1, 1, 0, 1]) fun x h Q => N30_j1 x.1 x.2.1 x.2.2.1 x.2.2.2.1 x.2.2.2.2.1 x.2.2.2.2.2.1 x.2.2.2.2.2.2 h (fun h' => Q .normal (Sg.env [] ()) h') (fun o0 h' => Q .ret (Sg.env [(3, .c (.int .i64))] o0) h')
theorem N30_j1_ok : Sound Tryd.prog Tryd.f30.ntmps N30_j1_t (codeAt B30 [1, 1, 1, 0, 1, 0, 0, 1, 0, 0, 1, 1, 0, 1]) := by
  refine piece_sound (fun e => match e with | .normal => [] | .ret => [3] | _ => []) ?_
  intro x h Q hb
  refine den_sound hE hm _ .leaf _ _ _ (annOk_leaf) ?_
  refine cast ?_ hb
  kernel_rfl
def N30_j2 (x0_s : ByteArray) (x2 : Option Addr) (x4_m : Option Addr) (x5_i : Int) (x6_hi : Int) (x7_lo : Int) (h : Hp) (K_normal : Hp → Prop) : Prop :=
  nn x4_m fun a0 =>
  idx x5_i 6 <|
  st h (a0.add (x5_i.toNat * 1)) (.int .u8 (IntKind.wrap .u8 (IntKind.wrap .i64 ((IntKind.wrap .i64 (16 * x6_hi)) + x7_lo)))) fun h0 =>
  K_normal h0
noncomputable def N30_j2_t : Xf := pieceT [(0, .c (.str)), (2, .c (.ptr)), (4, .c (.ptr)), (5, .c (.int .i64)), (6, .c (.int .i64)), (7, .c (.int .i64))] (codeAt B30 [1, 1, 1, 0, 1, 0, 0, 1, 0, 0, 1, 1, 1]) fun x h Q => N30_j2 x.1 x.2.1 x.2.2.1 x.2.2.2.1 x.2.2.2.2.1 x.2.2.2.2.2 h (fun h' => Q .normal (Sg.env [] ()) h')
theorem N30_j2_ok : Sound Tryd.prog Tryd.f30.ntmps N30_j2_t (codeAt B30 [1, 1, 1, 0, 1, 0, 0, 1, 0, 0, 1, 1, 1]) := by
  refine piece_sound (fun e => match e with | .normal => [] | _ => []) ?_
  intro x h Q hb
  refine den_sound hE hm _ .leaf _ _ _ (annOk_leaf) ?_
  refine cast ?_ hb
  kernel_rfl
def N30_l0_b (x0_s : ByteArray) (x2 : Option Addr) (x4_m : Option Addr) (Φ : Int → Hp → Prop) (x5_i : Int) (h : Hp) (K_e0 : Hp → Prop) (K_ret : Int → Hp → Prop) : Prop :=
  bif (decide (x5_i < 6)) then
    idx (IntKind.wrap .i64 (3 * x5_i)) x0_s.size <|
    C52 (sbyte x0_s (IntKind.wrap .i64 (3 * x5_i))) h fun n0 h0 =>
    idx (IntKind.wrap .i64 ((IntKind.wrap .i64 (3 * x5_i)) + 1)) x0_s.size <|
    C52 (sbyte x0_s (IntKind.wrap .i64 ((IntKind.wrap .i64 (3 * x5_i)) + 1))) h0 fun n1 h1 =>
    bif (n0 == 16) then
      N30_j1 x0_s x2 x4_m x5_i n0 n1 true h1
        (fun h2 =>
          N30_j2 x0_s x2 x4_m x5_i n0 n1 h2
            (fun h3 =>
              Φ (IntKind.wrap .i64 (x5_i + 1)) h3))
        (fun n2 h4 =>
          K_ret n2 h4)
    else
      bif (n1 == 16) then
        N30_j1 x0_s x2 x4_m x5_i n0 n1 true h1
          (fun h5 =>
            N30_j2 x0_s x2 x4_m x5_i n0 n1 h5
              (fun h6 =>
                Φ (IntKind.wrap .i64 (x5_i + 1)) h6))
          (fun n3 h7 =>
            K_ret n3 h7)
      else
        bif (decide (x5_i < 5)) then
          idx (IntKind.wrap .i64 ((IntKind.wrap .i64 (3 * x5_i)) + 2)) x0_s.size <|
          N30_j1 x0_s x2 x4_m x5_i n0 n1 ((sbyte x0_s (IntKind.wrap .i64 ((IntKind.wrap .i64 (3 * x5_i)) + 2))) != 58) h1
            (fun h8 =>
              N30_j2 x0_s x2 x4_m x5_i n0 n1 h8
                (fun h9 =>
                  Φ (IntKind.wrap .i64 (x5_i + 1)) h9))
            (fun n4 h10 =>
              K_ret n4 h10)
        else
          N30_j1 x0_s x2 x4_m x5_i n0 n1 false h1
            (fun h11 =>
              N30_j2 x0_s x2 x4_m x5_i n0 n1 h11
                (fun h12 =>
                  Φ (IntKind.wrap .i64 (x5_i + 1)) h12))
            (fun n5 h13 =>
              K_ret n5 h13)
  else
    K_e0 h
def N30_l0_B (x0_s : ByteArray) (x2 : Option Addr) (x4_m : Option Addr) (K_e0 : Hp → Prop) (K_ret : Int → Hp → Prop) (s : Sg.T [(5, .c (.int .i64))]) (h : Hp) (Φ : Sg.T [(5, .c (.int .i64))] → Hp → Prop) : Prop :=
  N30_l0_b x0_s x2 x4_m (fun x5_i h => Φ x5_i h) s h K_e0 K_ret
def N30_l0 (x0_s : ByteArray) (x2 : Option Addr) (x4_m : Option Addr) (x5_i : Int) (h : Hp) (K_e0 : Hp → Prop) (K_ret : Int → Hp → Prop) : Prop :=
  loopP (N30_l0_B x0_s x2 x4_m K_e0 K_ret) x5_i h
noncomputable def N30_l0_t : Xf := loopT [(0, .c (.str)), (2, .c (.ptr)), (4, .c (.ptr))] [(5, .c (.int .i64))] (codeAt B30 [1, 1, 1, 0, 1, 0, 0]) fun F Q => N30_l0_B F.1 F.2.1 F.2.2 (fun h' => Q (.exit 0) (Sg.env [] ()) h') (fun o0 h' => Q .ret (Sg.env [(3, .c (.int .i64))] o0) h')
theorem N30_l0_ok : Sound Tryd.prog Tryd.f30.ntmps N30_l0_t (codeAt B30 [1, 1, 1, 0, 1, 0]) := by
  refine loop_sound (fun e => match e with | .exit 0 => [] | .ret => [3] | _ => []) (by kernel_rfl) ?_
  intro F Q s h Φ hb
  refine den_sound hE hm _ (.two .leaf (.two (.one (.two .leaf (.two .leaf (.two (.two .leaf (.xf N30_j1_t)) (.xf N30_j2_t))))) .leaf)) _ _ _ (⟨annOk_leaf, ⟨⟨annOk_leaf, ⟨annOk_leaf, ⟨⟨annOk_leaf, N30_j1_ok⟩, N30_j2_ok⟩⟩⟩, annOk_leaf⟩⟩) ?_
  refine cast ?_ hb
  kernel_rfl
def N30 (x0 : ByteArray) (h : Hp) (K : Int → Int → Int → Int → Int → Int → Int → Hp → Prop) : Prop :=
  nw h (.cells ⟨[.int .u8 0, .int .u8 0, .int .u8 0, .int .u8 0, .int .u8 0, .int .u8 0]⟩ 49) fun b0 h0 =>
  nw h0 (.cells ⟨[.int .u8 0, .int .u8 0, .int .u8 0, .int .u8 0, .int .u8 0, .int .u8 0]⟩ 49) fun b1 h1 =>
  bif ((x0.size : Int) != 17) then
    xI .u8 (cell h1 (bk b1)) fun n0 =>
    xI .u8 (cell h1 ((bk b1).add 1)) fun n1 =>
    xI .u8 (cell h1 ((bk b1).add 2)) fun n2 =>
    xI .u8 (cell h1 ((bk b1).add 3)) fun n3 =>
    xI .u8 (cell h1 ((bk b1).add 4)) fun n4 =>
    xI .u8 (cell h1 ((bk b1).add 5)) fun n5 =>
    st h1 (bk b0) (.int .u8 n0) fun h2 =>
    st h2 ((bk b0).add 1) (.int .u8 n1) fun h3 =>
    st h3 ((bk b0).add 2) (.int .u8 n2) fun h4 =>
    st h4 ((bk b0).add 3) (.int .u8 n3) fun h5 =>
    st h5 ((bk b0).add 4) (.int .u8 n4) fun h6 =>
    st h6 ((bk b0).add 5) (.int .u8 n5) fun h7 =>
    xI .u8 (cell h7 (bk b0)) fun n6 =>
    xI .u8 (cell h7 ((bk b0).add 1)) fun n7 =>
    xI .u8 (cell h7 ((bk b0).add 2)) fun n8 =>
    xI .u8 (cell h7 ((bk b0).add 3)) fun n9 =>
    xI .u8 (cell h7 ((bk b0).add 4)) fun n10 =>
    xI .u8 (cell h7 ((bk b0).add 5)) fun n11 =>
    K n6 n7 n8 n9 n10 n11 10 h7
  else
    N30_l0 x0 (some (bk b0)) (some (bk b1)) 0 h1
      (fun h8 =>
        xI .u8 (cell h8 (bk b1)) fun n12 =>
        xI .u8 (cell h8 ((bk b1).add 1)) fun n13 =>
        xI .u8 (cell h8 ((bk b1).add 2)) fun n14 =>
        xI .u8 (cell h8 ((bk b1).add 3)) fun n15 =>
        xI .u8 (cell h8 ((bk b1).add 4)) fun n16 =>
        xI .u8 (cell h8 ((bk b1).add 5)) fun n17 =>
        st h8 (bk b0) (.int .u8 n12) fun h9 =>
        st h9 ((bk b0).add 1) (.int .u8 n13) fun h10 =>
        st h10 ((bk b0).add 2) (.int .u8 n14) fun h11 =>
        st h11 ((bk b0).add 3) (.int .u8 n15) fun h12 =>
        st h12 ((bk b0).add 4) (.int .u8 n16) fun h13 =>
        st h13 ((bk b0).add 5) (.int .u8 n17) fun h14 =>
        xI .u8 (cell h14 (bk b0)) fun n18 =>
        xI .u8 (cell h14 ((bk b0).add 1)) fun n19 =>
        xI .u8 (cell h14 ((bk b0).add 2)) fun n20 =>
        xI .u8 (cell h14 ((bk b0).add 3)) fun n21 =>
        xI .u8 (cell h14 ((bk b0).add 4)) fun n22 =>
        xI .u8 (cell h14 ((bk b0).add 5)) fun n23 =>
        K n18 n19 n20 n21 n22 n23 0 h14)
      (fun n24 h15 =>
        xI .u8 (cell h15 (bk b0)) fun n25 =>
        xI .u8 (cell h15 ((bk b0).add 1)) fun n26 =>
        xI .u8 (cell h15 ((bk b0).add 2)) fun n27 =>
        xI .u8 (cell h15 ((bk b0).add 3)) fun n28 =>
        xI .u8 (cell h15 ((bk b0).add 4)) fun n29 =>
        xI .u8 (cell h15 ((bk b0).add 5)) fun n30 =>
        K n25 n26 n27 n28 n29 n30 n24 h15)
theorem S30 {x0 : ByteArray} {h : Hp} {K : Int → Int → Int → Int → Int → Int → Int → Hp → Prop} (hn : N30 x0 h K) : C30 x0 h K := by
  refine calls_of_M Tryd.func30 (c := B30) rfl (by kernel_rfl) ?_
  refine den_sound hE hm _ (.two .leaf (.two .leaf (.two .leaf (.two (.two .leaf (.one (.xf N30_l0_t))) .leaf)))) _ _ _ (⟨annOk_leaf, ⟨annOk_leaf, ⟨annOk_leaf, ⟨⟨annOk_leaf, N30_l0_ok⟩, annOk_leaf⟩⟩⟩⟩) ?_
  refine cast ?_ hn
  kernel_rfl
end Go.Proofs.YtlioifgejijcoaaDoor

set_option linter.unusedVariables false
set_option maxRecDepth 100000
namespace Go.Proofs.YtlioifgejijcoaaDoor
open Go Go.Hw
/-! ### 52 slipway/slipwayref01.value -/
noncomputable def B52 : Code := match Tryd.f52.body with | some c => c | none => .skip
def N52_l0_b (x0_c : Int) (Φ : Int → Hp → Prop) (x3_i : Int) (h : Hp) (K_e0 : Hp → Prop) (K_ret : Int → Hp → Prop) : Prop :=
  bif (decide (x3_i < 16)) then
    idx x3_i (⟨⟨[48, 49, 50, 51, 52, 53, 54, 55, 56, 57, 97, 98, 99, 100, 101, 102]⟩⟩ : ByteArray).size <|
    bif ((sbyte (⟨⟨[48, 49, 50, 51, 52, 53, 54, 55, 56, 57, 97, 98, 99, 100, 101, 102]⟩⟩ : ByteArray) x3_i) == x0_c) then
      K_ret x3_i h
    else
      Φ (IntKind.wrap .i64 (x3_i + 1)) h
  else
    K_e0 h
def N52_l0_B (x0_c : Int) (K_e0 : Hp → Prop) (K_ret : Int → Hp → Prop) (s : Sg.T [(3, .c (.int .i64))]) (h : Hp) (Φ : Sg.T [(3, .c (.int .i64))] → Hp → Prop) : Prop :=
  N52_l0_b x0_c (fun x3_i h => Φ x3_i h) s h K_e0 K_ret
def N52_l0 (x0_c : Int) (x3_i : Int) (h : Hp) (K_e0 : Hp → Prop) (K_ret : Int → Hp → Prop) : Prop :=
  loopP (N52_l0_B x0_c K_e0 K_ret) x3_i h
noncomputable def N52_l0_t : Xf := loopT [(0, .c (.int .u8))] [(3, .c (.int .i64))] (codeAt B52 [1, 0, 1, 0, 0]) fun F Q => N52_l0_B F (fun h' => Q (.exit 0) (Sg.env [] ()) h') (fun o0 h' => Q .ret (Sg.env [(2, .c (.int .i64))] o0) h')
theorem N52_l0_ok : Sound Tryd.prog Tryd.f52.ntmps N52_l0_t (codeAt B52 [1, 0, 1, 0]) := by
  refine loop_sound (fun e => match e with | .exit 0 => [] | .ret => [2] | _ => []) (by kernel_rfl) ?_
  intro F Q s h Φ hb
  refine den_sound hE hm _ .leaf _ _ _ (annOk_leaf) ?_
  refine cast ?_ hb
  kernel_rfl
def N52 (x0 : Int) (h : Hp) (K : Int → Hp → Prop) : Prop :=
  N52_l0 x0 0 h
    (fun h0 =>
      K 16 h0)
    (fun n0 h1 =>
      K n0 h1)
theorem S52 {x0 : Int} {h : Hp} {K : Int → Hp → Prop} (hn : N52 x0 h K) : C52 x0 h K := by
  refine calls_of_D Tryd.func52 (c := B52) rfl (by kernel_rfl) ?_
  refine den_sound hE hm _ (.two .leaf (.two (.two .leaf (.one (.xf N52_l0_t))) .leaf)) _ _ _ (⟨annOk_leaf, ⟨⟨annOk_leaf, N52_l0_ok⟩, annOk_leaf⟩⟩) ?_
  refine cast ?_ hn
  kernel_rfl
end Go.Proofs.YtlioifgejijcoaaDoor

/-
  Addresses as text: the document's Undotted; Colons and Uncolons, the program's and the document's.
-/
set_option linter.unusedSimpArgs false
set_option linter.unusedVariables false
namespace Go.Proofs.YtlioifgejijcoaaDoor
open Go Go.Hw

theorem w64mod (x : Int) : IntKind.wrap .i64 x % 4294967296 = x % 4294967296 := by
  rw [wrap_i64]; split <;> omega
def pstep (st : Nat × Nat) (b : UInt8) : Nat × Nat := if b.toNat = 46 then (st.1 * 256 + st.2, 0) else (st.1, st.2 * 10 + (b.toNat - 48))
theorem pstep_dec (a : Nat) : ∀ (l : List UInt8) (p : Nat), (∀ b ∈ l, 48 ≤ b.toNat ∧ b.toNat ≤ 57) → l.foldl pstep (a, p) = (a, l.foldl (fun a b => a * 10 + (b.toNat - 48)) p) := by
  intro l
  induction l with
  | nil => intro p _; rfl
  | cons b l ih =>
    intro p h
    have hb := h b (by simp)
    simp only [List.foldl_cons]
    rw [show pstep (a, p) b = (a, p * 10 + (b.toNat - 48)) by unfold pstep; rw [if_neg (by omega)]]
    exact ih _ (fun x hx => h x (by simp [hx]))
theorem pstep_dd (a u : Nat) : (Lib.decDigits u).foldl pstep (a, 0) = (a, u) := by rw [pstep_dec _ _ _ (dec_digit u)]; congr 1; exact spell_dec u
theorem four (l : List UInt8) (h : l.length = 4) : ∃ a b c d, l = [a, b, c, d] := by
  match l, h with
  | [a, b, c, d], _ => exact ⟨a, b, c, d, rfl⟩
theorem dotted4 (ip : Nat) : ∃ a b c d : UInt8, be ip 4 = [a, b, c, d] ∧ dotted ip = Lib.decDigits a.toNat ++ 46 :: (Lib.decDigits b.toNat ++ 46 :: (Lib.decDigits c.toNat ++ 46 :: Lib.decDigits d.toNat)) := by
  obtain ⟨a, b, c, d, h⟩ := four _ (be_len ip 4)
  exact ⟨a, b, c, d, h, by unfold dotted; rw [h]; rfl⟩
theorem dotted_len (ip : Nat) : (dotted ip).length ≤ 15 := by
  obtain ⟨a, b, c, d, _, e⟩ := dotted4 ip
  rw [e]
  have ha := dec_len3 (u := a.toNat) (by have := a.toNat_lt; omega)
  have hb := dec_len3 (u := b.toNat) (by have := b.toNat_lt; omega)
  have hc := dec_len3 (u := c.toNat) (by have := c.toNat_lt; omega)
  have hd := dec_len3 (u := d.toNat) (by have := d.toNat_lt; omega)
  simp; omega
theorem dotted_chars (ip : Nat) : ∀ b ∈ dotted ip, b.toNat = 46 ∨ (48 ≤ b.toNat ∧ b.toNat ≤ 57) := by
  obtain ⟨a, b, c, d, _, e⟩ := dotted4 ip
  rw [e]
  intro x hx
  simp only [List.mem_append, List.mem_cons] at hx
  rcases hx with h | rfl | h | rfl | h | rfl | h
  · exact .inr (dec_digit _ _ h)
  · exact .inl rfl
  · exact .inr (dec_digit _ _ h)
  · exact .inl rfl
  · exact .inr (dec_digit _ _ h)
  · exact .inl rfl
  · exact .inr (dec_digit _ _ h)
theorem dotted_fold (ip : Nat) (hip : ip < 4294967296) : ((dotted ip).foldl pstep (0, 0)).1 * 256 + ((dotted ip).foldl pstep (0, 0)).2 = ip := by
  obtain ⟨a, b, c, d, h4, e⟩ := dotted4 ip
  have dot : ∀ a p, pstep (a, p) 46 = (a * 256 + p, 0) := by intro a p; rfl
  rw [e]
  simp only [List.foldl_append, List.foldl_cons, pstep_dd, dot]
  have := nat_be ip 4 (by omega)
  rw [h4] at this
  simp only [nat256, List.foldl_cons, List.foldl_nil] at this
  omega

theorem c_Undotted {s : ByteArray} {h : Hp} {K : Int → Int → Hp → Prop} (hok : ∀ ip : Nat, ip < 4294967296 → s.data.toList = dotted ip → ∀ h', Ext none' h h' → K ip 0 h') (hbad : ¬ IsDot s.data.toList → ∀ h', Ext none' h h' → K 0 10 h') : C28 s h K := by
  apply S28; unfold N28
  obtain ⟨⟨l⟩⟩ := s
  have sz : (⟨⟨l⟩⟩ : ByteArray).size = l.length := rfl
  simp only [] at hok hbad
  rw [sz]
  by_cases hlen : (l.length : Int) > 15
  · have : decide ((l.length : Int) > 15) = true := decide_eq_true hlen
    rw [this, cond_true]
    refine hbad ?_ _ Ext.refl
    rintro ⟨ip, _, e⟩
    have := dotted_len ip
    rw [← e] at this
    omega
  · have : decide ((l.length : Int) > 15) = false := decide_eq_false hlen
    rw [this, cond_false]
    unfold N28_l0
    refine loopP_inv (fun (x : Int × Int × Int) hc => hc = h ∧ ∃ i : Nat, x.2.2 = i ∧ i ≤ l.length ∧ x.1 % 4294967296 = (((l.take i).foldl pstep (0, 0)).1 : Int) % 4294967296 ∧ x.2.1 % 4294967296 = (((l.take i).foldl pstep (0, 0)).2 : Int) % 4294967296) (fun x _ => l.length - x.2.2.toNat) ?_
      ⟨rfl, 0, rfl, Nat.zero_le _, rfl, rfl⟩
    rintro ⟨v, p, x⟩ hc ⟨rfl, i, hx, hi, hv, hp⟩
    simp only at hx hv hp
    subst hx
    unfold N28_l0_B N28_l0_b
    dsimp only
    rw [sz]
    by_cases hlt : i < l.length
    · have : decide ((i : Int) < (l.length : Int)) = true := decide_eq_true (by omega)
      rw [this, cond_true]
      refine idx_of (by omega) (by omega) ?_
      have hb := (l[i]).toNat_lt
      rw [sbyte_at rfl hlt, wi64i (x := (l[i].toNat : Int)) (by omega) (by omega)]
      have et : l.take (i + 1) = l.take i ++ [l[i]] := (List.take_append_getElem hlt).symm
      have ef : (l.take (i + 1)).foldl pstep (0, 0) = pstep ((l.take i).foldl pstep (0, 0)) l[i] := by rw [et, List.foldl_append]; rfl
      generalize hF : (l.take i).foldl pstep (0, 0) = F at hv hp ef
      have notdot : (l[i].toNat ≠ 46 ∧ (l[i].toNat < 48 ∨ 57 < l[i].toNat)) → ¬ IsDot l := by
        rintro hn ⟨ip, _, e⟩
        have := dotted_chars ip l[i] (by rw [← e]; exact List.getElem_mem hlt)
        omega
      have dig : 48 ≤ l[i].toNat → l[i].toNat ≤ 57 → ∀ hh, hh = hc → (hh = hc ∧ ∃ i2 : Nat, IntKind.wrap .i64 ((i : Int) + 1) = i2 ∧ i2 ≤ l.length ∧ v % 4294967296 = (((l.take i2).foldl pstep (0, 0)).1 : Int) % 4294967296 ∧ (IntKind.wrap .i64 ((IntKind.wrap .i64 ((IntKind.wrap .i64 (p * 10)) + (l[i].toNat : Int))) - 48)) % 4294967296 = (((l.take i2).foldl pstep (0, 0)).2 : Int) % 4294967296) := by
        intro h1 h2 hh he
        rw [nat_succ64 (by omega)]
        refine ⟨he, i + 1, rfl, hlt, ?_, ?_⟩
        · rw [ef]; unfold pstep; rw [if_neg (by omega)]; exact hv
        · rw [ef]; unfold pstep; rw [if_neg (by omega)]
          have q1 := w64mod (p * 10)
          have q2 := w64mod (IntKind.wrap .i64 (p * 10) + (l[i].toNat : Int))
          rw [w64mod]
          simp only
          omega
      by_cases h46 : l[i].toNat = 46
      · have : ((l[i].toNat : Int) == 46) = true := by simp; omega
        rw [this, cond_true, nat_succ64 (by omega)]
        refine ⟨⟨rfl, i + 1, rfl, hlt, ?_, ?_⟩, by first | omega | (dsimp only; omega)⟩
        · rw [ef]; unfold pstep; rw [if_pos h46]
          have q1 := w64mod (v * 256)
          rw [w64mod]
          simp only
          omega
        · rw [ef]; unfold pstep; rw [if_pos h46]
          rfl
      · have : ((l[i].toNat : Int) == 46) = false := by simp; omega
        rw [this, cond_false]
        by_cases h48 : 48 ≤ l[i].toNat
        · have : decide ((l[i].toNat : Int) ≥ 48) = true := decide_eq_true (by omega)
          rw [this, cond_true]
          unfold N28_j1
          by_cases h57 : l[i].toNat ≤ 57
          · have : decide ((l[i].toNat : Int) ≤ 57) = true := decide_eq_true (by omega)
            rw [this, cond_true]
            have := dig h48 h57 hc rfl
            exact ⟨this, by rw [nat_succ64 (by omega)]; first | omega | (dsimp only; omega)⟩
          · have : decide ((l[i].toNat : Int) ≤ 57) = false := decide_eq_false (by omega)
            rw [this, cond_false]
            exact hbad (notdot ⟨h46, by omega⟩) _ Ext.refl
        · have : decide ((l[i].toNat : Int) ≥ 48) = false := decide_eq_false (by omega)
          rw [this, cond_false]
          unfold N28_j1
          rw [cond_false]
          exact hbad (notdot ⟨h46, by omega⟩) _ Ext.refl
    · have : decide ((i : Int) < (l.length : Int)) = false := decide_eq_false (by omega)
      rw [this, cond_false]
      have : i = l.length := by omega
      subst this
      rw [List.take_length] at hv hp
      generalize hX : IntKind.wrap .u32 (IntKind.wrap .i64 ((IntKind.wrap .i64 (v * 256)) + p)) = X
      have x0 : 0 ≤ X ∧ X < 4294967296 := by rw [← hX, wu32]; omega
      have xm : X = (((l.foldl pstep (0, 0)).1 * 256 + (l.foldl pstep (0, 0)).2 : Nat) : Int) % 4294967296 := by
        rw [← hX, wu32, w64mod]
        have q1 := w64mod (v * 256)
        omega
      refine c_Dotted x0.1 x0.2 ?_
      intro h2 e2
      rw [ba_beq]
      by_cases heq : dotted X.toNat = l
      · have : decide (dotted X.toNat = l) = true := decide_eq_true heq
        simp only [this, Bool.not_true, cond_false]
        have := hok X.toNat (by omega) heq.symm h2 e2
        have ex : ((X.toNat : Nat) : Int) = X := by omega
        rw [ex] at this; exact this
      · have : decide (dotted X.toNat = l) = false := decide_eq_false heq
        simp only [this, Bool.not_false, cond_true]
        refine hbad ?_ _ e2
        rintro ⟨ip, hip, e⟩
        refine heq ?_
        have := dotted_fold ip hip
        rw [← e] at this
        rw [this] at xm
        have : X.toNat = ip := by omega
        rw [this, e]

/-! ### stations' addresses -/
abbrev hexd : List UInt8 := [48, 49, 50, 51, 52, 53, 54, 55, 56, 57, 97, 98, 99, 100, 101, 102]
def hexs (b : UInt8) : List UInt8 := [hexd.getD (b.toNat / 16) 0, hexd.getD (b.toNat % 16) 0]
def colons (l : List UInt8) : List UInt8 := jn 58 (l.map hexs)
theorem hexs_len (b : UInt8) : (hexs b).length = 2 := rfl
theorem hx_take (l : List UInt8) {i : Nat} (hi : i < l.length) : (l.map hexs).take (i + 1) = (l.map hexs).take i ++ [hexs l[i]] := by
  rw [← List.take_append_getElem (by simpa using hi)]; simp
theorem hx_take_ne (l : List UInt8) {i : Nat} (h0 : 0 < i) (hi : i ≤ l.length) : (l.map hexs).take i ≠ [] := by
  intro e
  have h2 : ((l.map hexs).take i).length = 0 := by rw [e]; rfl
  rw [List.length_take, List.length_map] at h2
  omega
theorem hx_len (l : List UInt8) : ∀ i, i ≤ l.length → (jn 58 ((l.map hexs).take i)).length ≤ 3 * i := by
  intro i
  induction i with
  | zero => intro _; simp [jn]
  | succ i ih =>
    intro hi
    have h1 := ih (by omega)
    rw [hx_take l (by omega)]
    cases i with
    | zero => simp [jn, hexs]
    | succ i => rw [jn_snoc _ _ _ (hx_take_ne l (by omega) (by omega))]; simp [hexs]; omega
theorem hex_hi {b : UInt8} : sbyte ⟨⟨hexd⟩⟩ ((b.toNat / 16 : Nat) : Int) = ((hexd.getD (b.toNat / 16) 0).toNat : Int) := by
  have hb := b.toNat_lt
  have hl : b.toNat / 16 < hexd.length := by show _ < 16; omega
  rw [sbyte_at rfl hl, List.getD_eq_getElem?_getD, List.getElem?_eq_getElem hl]; rfl
theorem hex_lo {b : UInt8} : sbyte ⟨⟨hexd⟩⟩ ((b.toNat % 16 : Nat) : Int) = ((hexd.getD (b.toNat % 16) 0).toNat : Int) := by
  have hl : b.toNat % 16 < hexd.length := by show _ < 16; omega
  rw [sbyte_at rfl hl, List.getD_eq_getElem?_getD, List.getElem?_eq_getElem hl]; rfl

theorem c_colons {b0 b1 b2 b3 b4 b5 : UInt8} {h : Hp} {K : ByteArray → Hp → Prop} (hK : ∀ h', Ext none' h h' → K ⟨⟨colons [b0, b1, b2, b3, b4, b5]⟩⟩ h') : C33 b0.toNat b1.toNat b2.toNat b3.toNat b4.toNat b5.toNat h K := by
  apply S33; unfold N33
  intro bx ex
  have hb : Blk (upd h bx (.cells ⟨bc [b0, b1, b2, b3, b4, b5]⟩ 49)) bx 49 (bc [b0, b1, b2, b3, b4, b5]) := Blk.upd_same
  have e0 : Ext none' h (upd h bx (.cells ⟨bc [b0, b1, b2, b3, b4, b5]⟩ 49)) := Ext.new ex
  have es : (upd h bx (.cells ⟨[.int .u8 b0.toNat, .int .u8 b1.toNat, .int .u8 b2.toNat, .int .u8 b3.toNat, .int .u8 b4.toNat, .int .u8 b5.toNat]⟩ 49)) = (upd h bx (.cells ⟨bc [b0, b1, b2, b3, b4, b5]⟩ 49)) := rfl
  rw [es]
  revert hb e0
  generalize upd h bx _ = ha
  intro hb e0
  simp only [add_bk, hb.cell, bc_cons, bc_nil, List.getElem?_cons_zero, List.getElem?_cons_succ, xI_some]
  unfold colons at hK
  have ml : [b0, b1, b2, b3, b4, b5].length = 6 := rfl
  unfold N33_l0
  refine loopP_inv (fun (x : Sl × Int) hc => ∃ i : Nat, x.2 = i ∧ i ≤ 6 ∧ Sat ([] ++ [Hw.was ha, Hw.own 5 1 x.1 (bc (jn 58 (([b0, b1, b2, b3, b4, b5].map hexs).take i)))]) hc) (fun x _ => 6 - x.2.toNat) ?_ ⟨0, rfl, by omega, Sat.start.addNil 5 1⟩
  rintro ⟨t, x⟩ hc ⟨i, hx, hi, hs⟩
  simp only at hx hs
  subst hx
  unfold N33_l0_B N33_l0_b
  dsimp only
  have tn : t.n ≤ 18 := by
    have h1 := (hs.own 1 rfl).1
    have h2 := hx_len [b0, b1, b2, b3, b4, b5] i (by simpa using hi)
    rw [bc_len, Nat.mul_one] at h1; omega
  by_cases hlt : i < 6
  · have : decide ((i : Int) < 6) = true := decide_eq_true (by omega)
    rw [this, cond_true]
    refine idx_of (by omega) (by omega) ?_
    have hil : i < [b0, b1, b2, b3, b4, b5].length := by rw [ml]; exact hlt
    have eb : [Value.int .u8 b0.toNat, .int .u8 b1.toNat, .int .u8 b2.toNat, .int .u8 b3.toNat, .int .u8 b4.toNat, .int .u8 b5.toNat][((i : Int)).toNat * 1]? = some (.int .u8 ([b0, b1, b2, b3, b4, b5][i].toNat : Int)) := by
      rw [Int.toNat_natCast, Nat.mul_one]
      show (bc [b0, b1, b2, b3, b4, b5])[i]? = _
      rw [bc_get, List.getElem?_eq_getElem hil]; rfl
    rw [eb]
    unfold vK
    simp only [xI_some]
    have htk := hx_take [b0, b1, b2, b3, b4, b5] hil
    have hne : 0 < i → ([b0, b1, b2, b3, b4, b5].map hexs).take i ≠ [] := fun h0 => hx_take_ne [b0, b1, b2, b3, b4, b5] h0 (by omega)
    generalize [b0, b1, b2, b3, b4, b5][i] = b at htk
    have hbl := b.toNat_lt
    have f1 : Int.fdiv (b.toNat : Int) (2 ^ 4) = ((b.toNat / 16 : Nat) : Int) := by rw [Int.fdiv_eq_ediv_of_nonneg _ (by decide), show (2 : Int) ^ 4 = 16 from rfl]; omega
    have f2 : IntKind.wrap .u8 (BitVec.ofInt 8 (b.toNat : Int) &&& BitVec.ofInt 8 15).toNat = ((b.toNat % 16 : Nat) : Int) := by
      have e1 := band_low (w := 8) (x := (b.toNat : Int)) 4 (by omega) (by omega) (by omega)
      rw [show ((2 : Int) ^ 4 - 1) = 15 from rfl, show ((2 : Int) ^ 4) = 16 from rfl] at e1
      rw [e1, wu8i (by omega) (by omega)]; omega
    have hexp : [Value.int .u8 ((hexd.getD (b.toNat / 16) 0).toNat : Int), .int .u8 ((hexd.getD (b.toNat % 16) 0).toNat : Int)] = bc (hexs b) := rfl
    by_cases hi0 : i = 0
    · have : decide ((i : Int) > 0) = false := decide_eq_false (by omega)
      rw [this, cond_false]
      unfold N33_j1
      rw [f1, f2]
      refine idx_str (l := hexd) (i := b.toNat / 16) rfl (by show _ < 16; omega) ?_
      refine idx_str (l := hexd) (i := b.toNat % 16) rfl (by show _ < 16; omega) ?_
      rw [hex_hi, hex_lo, hexp]
      refine hs.push 1 rfl (k := 2) y_a y_zl rfl bc_plain (by rw [y_b]; omega) ?_
      intro t' h3 hs3 hn3
      rw [nat_succ64 (by omega)]
      refine ⟨⟨i + 1, rfl, hlt, ?_⟩, by first | omega | (dsimp only; omega)⟩
      rw [htk]
      subst hi0
      rw [← bc_app] at hs3
      simpa [jn] using hs3
    · have : decide ((i : Int) > 0) = true := decide_eq_true (by omega)
      rw [this, cond_true]
      have e58 : [Value.int .u8 58] = bc [58] := rfl
      rw [e58]
      refine hs.push 1 rfl (k := 1) y_a y_zl rfl bc_plain (by rw [y_b]; omega) ?_
      intro t2 h2 hs2 hn2
      unfold N33_j1
      rw [f1, f2]
      refine idx_str (l := hexd) (i := b.toNat / 16) rfl (by show _ < 16; omega) ?_
      refine idx_str (l := hexd) (i := b.toNat % 16) rfl (by show _ < 16; omega) ?_
      rw [hex_hi, hex_lo, hexp]
      refine hs2.push 1 rfl (k := 2) y_a y_zl rfl bc_plain (by rw [y_b]; omega) ?_
      intro t' h3 hs3 hn3
      rw [nat_succ64 (by omega)]
      refine ⟨⟨i + 1, rfl, hlt, ?_⟩, by first | omega | (dsimp only; omega)⟩
      rw [htk, jn_snoc _ _ _ (hne (by omega))]
      rw [← bc_app, ← bc_app] at hs3
      simpa using hs3
  · have : decide ((i : Int) < 6) = false := decide_eq_false (by omega)
    rw [this, cond_false]
    have : i = 6 := by omega
    subst this
    have e6 : ([b0, b1, b2, b3, b4, b5].map hexs).take 6 = [b0, b1, b2, b3, b4, b5].map hexs := List.take_of_length_le (by simp)
    rw [e6] at hs
    refine ((hs.own 1 rfl).rdb).b2s ?_
    exact hK _ (e0.trans (hs.was 0 rfl))

theorem c_Colons {b0 b1 b2 b3 b4 b5 : UInt8} {h : Hp} {K : ByteArray → Hp → Prop} (hK : ∀ h', Ext none' h h' → K ⟨⟨colons [b0, b1, b2, b3, b4, b5]⟩⟩ h') : C34 b0.toNat b1.toNat b2.toNat b3.toNat b4.toNat b5.toNat h K := by
  apply S34; unfold N34
  intro bx ex
  have hb : Blk (upd h bx (.cells ⟨bc [b0, b1, b2, b3, b4, b5]⟩ 49)) bx 49 (bc [b0, b1, b2, b3, b4, b5]) := Blk.upd_same
  have e0 : Ext none' h (upd h bx (.cells ⟨bc [b0, b1, b2, b3, b4, b5]⟩ 49)) := Ext.new ex
  have es : (upd h bx (.cells ⟨[.int .u8 b0.toNat, .int .u8 b1.toNat, .int .u8 b2.toNat, .int .u8 b3.toNat, .int .u8 b4.toNat, .int .u8 b5.toNat]⟩ 49)) = (upd h bx (.cells ⟨bc [b0, b1, b2, b3, b4, b5]⟩ 49)) := rfl
  rw [es]
  revert hb e0
  generalize upd h bx _ = ha
  intro hb e0
  unfold colons at hK
  have ml : [b0, b1, b2, b3, b4, b5].length = 6 := rfl
  generalize hm : [b0, b1, b2, b3, b4, b5] = m at hb hK ml
  unfold N34_l0
  refine loopP_inv (fun (x : ByteArray × Int) hc => Ext none' ha hc ∧ ∃ i : Nat, x.2 = i ∧ i ≤ 6 ∧ x.1 = ⟨⟨jn 58 ((m.map hexs).take i)⟩⟩) (fun x _ => 6 - x.2.toNat) ?_ ⟨Ext.refl, 0, rfl, by omega, rfl⟩
  rintro ⟨t, x⟩ hc ⟨he, i, hx, hi, ht⟩
  simp only at hx ht
  subst hx; subst ht
  have hbc := he.blk hb (fun e => e)
  have jl := hx_len m i (by omega)
  unfold N34_l0_B N34_l0_b
  dsimp only
  by_cases hlt : i < 6
  · have : decide ((i : Int) < 6) = true := decide_eq_true (by omega)
    rw [this, cond_true]
    have hil : i < m.length := by omega
    have htk := hx_take m hil
    have hcl : cell hc ⟨bx, i, none⟩ = some (.int .u8 (m[i].toNat : Int)) := by rw [hbc.cell, bc_get, List.getElem?_eq_getElem hil]; rfl
    generalize m[i] = b at htk hcl
    have hbl := b.toNat_lt
    have f1 : IntKind.wrap .u8 (Int.tdiv (b.toNat : Int) 16) = ((b.toNat / 16 : Nat) : Int) := by rw [Int.tdiv_eq_ediv_of_nonneg (by omega), wu8i (by omega) (by omega)]; omega
    have f2 : Int.tmod (b.toNat : Int) 16 = ((b.toNat % 16 : Nat) : Int) := by rw [Int.tmod_eq_emod_of_nonneg (by omega)]; omega
    have hexp : [Value.int .u8 ((hexd.getD (b.toNat / 16) 0).toNat : Int), .int .u8 ((hexd.getD (b.toNat % 16) 0).toNat : Int)] = bc (hexs b) := rfl
    have j1 : ∀ (s : List UInt8) (Kn : ByteArray → Hp → Prop), s.length ≤ 100 → (∀ h', Ext none' hc h' → Kn ⟨⟨s ++ hexs b⟩⟩ h') → N34_j1 (some (bk bx)) ⟨⟨s⟩⟩ i hc Kn := by
      intro s Kn hsl hKn
      unfold N34_j1
      simp only [nn_some', add_bk, Int.toNat_natCast, Nat.mul_one, hcl, xI_some]
      refine idx_of (by omega) (by omega) ?_
      rw [f1]
      refine idx_str (l := hexd) (i := b.toNat / 16) rfl (by show _ < 16; omega) ?_
      refine idx_of (by omega) (by omega) ?_
      rw [f2]
      refine idx_str (l := hexd) (i := b.toNat % 16) rfl (by show _ < 16; omega) ?_
      rw [hex_hi, hex_lo, hexp]
      refine nw_b2s (l := hexs b) (F := fun h0 s0 => catS ⟨⟨s⟩⟩ s0 <| Kn (⟨⟨s⟩⟩ ++ s0) h0) rfl ?_
      intro h2 e2
      refine catS_of (by simp [hexs]; omega) ?_
      rw [ba_app]; exact hKn _ e2
    by_cases hi0 : i = 0
    · have : decide ((i : Int) > 0) = false := decide_eq_false (by omega)
      rw [this, cond_false]
      refine j1 _ _ (by omega) ?_
      intro h2 e2
      rw [nat_succ64 (by omega)]
      refine ⟨⟨he.trans e2, i + 1, rfl, hlt, ?_⟩, by first | omega | (dsimp only; omega)⟩
      rw [htk]
      subst hi0
      simp [jn]
    · have : decide ((i : Int) > 0) = true := decide_eq_true (by omega)
      rw [this, cond_true]
      refine catS_of (by simp; omega) ?_
      rw [ba_app]
      refine j1 _ _ (by simp; omega) ?_
      intro h2 e2
      rw [nat_succ64 (by omega)]
      refine ⟨⟨he.trans e2, i + 1, rfl, hlt, ?_⟩, by first | omega | (dsimp only; omega)⟩
      rw [htk, jn_snoc _ _ _ (hx_take_ne m (by omega) (by omega))]
      simp
  · have : decide ((i : Int) < 6) = false := decide_eq_false (by omega)
    rw [this, cond_false]
    have : i = 6 := by omega
    subst this
    have e6 : (m.map hexs).take 6 = m.map hexs := List.take_of_length_le (by simp; omega)
    rw [e6]
    exact hK _ (e0.trans he)

end Go.Proofs.YtlioifgejijcoaaDoor

set_option linter.unusedVariables false
set_option maxRecDepth 100000
namespace Go.Proofs.YtlioifgejijcoaaDoor
open Go Go.Hw
/-! ### 38 slipway/octet.Ones -/
noncomputable def B38 : Code := match Tryd.f38.body with | some c => c | none => .skip
def N38 (x0 : Int) (h : Hp) (K : Int → Hp → Prop) : Prop :=
  C55 (IntKind.wrap .u32 (BitVec.ofInt 32 4294967295 ^^^ BitVec.ofInt 32 x0).toNat) h fun n0 h0 =>
  bif (decide (n0 < 32)) then
    bif decide (n0 < 0) then False else
    bif ((IntKind.wrap .u32 (x0 * 2 ^ (min n0.toNat 32))) != 0) then
      K (-1) h0
    else
      K n0 h0
  else
    K n0 h0
theorem S38 {x0 : Int} {h : Hp} {K : Int → Hp → Prop} (hn : N38 x0 h K) : C38 x0 h K := by
  refine calls_of_D Tryd.func38 (c := B38) rfl (by kernel_rfl) ?_
  refine den_sound hE hm _ .leaf _ _ _ (annOk_leaf) ?_
  refine cast ?_ hn
  kernel_rfl
end Go.Proofs.YtlioifgejijcoaaDoor

set_option linter.unusedVariables false
set_option maxRecDepth 100000
namespace Go.Proofs.YtlioifgejijcoaaDoor
open Go Go.Hw
/-! ### 37 slipway/slipwayref01.Ones -/
noncomputable def B37 : Code := match Tryd.f37.body with | some c => c | none => .skip
def N37_l0_b (x0_m : Int) (Φ : Int → Int → Hp → Prop) (x3_n : Int) (x4_i : Int) (h : Hp) (K_e0 : Int → Hp → Prop) (K_ret : Int → Hp → Prop) : Prop :=
  bif (decide (x4_i < 32)) then
    bif decide ((IntKind.wrap .u64 (IntKind.wrap .i64 (31 - x4_i))) < 0) then False else
    bif ((Int.tmod (Int.fdiv x0_m (2 ^ (min (IntKind.wrap .u64 (IntKind.wrap .i64 (31 - x4_i))).toNat 32))) 2) == 1) then
      bif (decide (x3_n < x4_i)) then
        K_ret (-1) h
      else
        Φ (IntKind.wrap .i64 (x3_n + 1)) (IntKind.wrap .i64 (x4_i + 1)) h
    else
      Φ x3_n (IntKind.wrap .i64 (x4_i + 1)) h
  else
    K_e0 x3_n h
def N37_l0_B (x0_m : Int) (K_e0 : Int → Hp → Prop) (K_ret : Int → Hp → Prop) (s : Sg.T [(3, .c (.int .i64)), (4, .c (.int .i64))]) (h : Hp) (Φ : Sg.T [(3, .c (.int .i64)), (4, .c (.int .i64))] → Hp → Prop) : Prop :=
  N37_l0_b x0_m (fun x3_n x4_i h => Φ (x3_n, x4_i) h) s.1 s.2 h K_e0 K_ret
def N37_l0 (x0_m : Int) (x3_n : Int) (x4_i : Int) (h : Hp) (K_e0 : Int → Hp → Prop) (K_ret : Int → Hp → Prop) : Prop :=
  loopP (N37_l0_B x0_m K_e0 K_ret) (x3_n, x4_i) h
noncomputable def N37_l0_t : Xf := loopT [(0, .c (.int .u32))] [(3, .c (.int .i64)), (4, .c (.int .i64))] (codeAt B37 [1, 1, 0, 1, 0, 0]) fun F Q => N37_l0_B F (fun o0 h' => Q (.exit 0) (Sg.env [(3, .c (.int .i64))] o0) h') (fun o0 h' => Q .ret (Sg.env [(2, .c (.int .i64))] o0) h')
theorem N37_l0_ok : Sound Tryd.prog Tryd.f37.ntmps N37_l0_t (codeAt B37 [1, 1, 0, 1, 0]) := by
  refine loop_sound (fun e => match e with | .exit 0 => [3] | .ret => [2] | _ => []) (by kernel_rfl) ?_
  intro F Q s h Φ hb
  refine den_sound hE hm _ .leaf _ _ _ (annOk_leaf) ?_
  refine cast ?_ hb
  kernel_rfl
def N37 (x0 : Int) (h : Hp) (K : Int → Hp → Prop) : Prop :=
  N37_l0 x0 0 0 h
    (fun n0 h0 =>
      K n0 h0)
    (fun n1 h1 =>
      K n1 h1)
theorem S37 {x0 : Int} {h : Hp} {K : Int → Hp → Prop} (hn : N37 x0 h K) : C37 x0 h K := by
  refine calls_of_D Tryd.func37 (c := B37) rfl (by kernel_rfl) ?_
  refine den_sound hE hm _ (.two .leaf (.two .leaf (.two (.two .leaf (.one (.xf N37_l0_t))) .leaf))) _ _ _ (⟨annOk_leaf, ⟨annOk_leaf, ⟨⟨annOk_leaf, N37_l0_ok⟩, annOk_leaf⟩⟩⟩) ?_
  refine cast ?_ hn
  kernel_rfl
end Go.Proofs.YtlioifgejijcoaaDoor

set_option linter.unusedVariables false
set_option maxRecDepth 100000
namespace Go.Proofs.YtlioifgejijcoaaDoor
open Go Go.Hw
/-! ### 39 slipway/octet.IsMask -/
noncomputable def B39 : Code := match Tryd.f39.body with | some c => c | none => .skip
def N39 (x0 : Int) (h : Hp) (K : Bool → Hp → Prop) : Prop :=
  C38 x0 h fun n0 h0 =>
  K (decide (n0 ≥ 0)) h0
theorem S39 {x0 : Int} {h : Hp} {K : Bool → Hp → Prop} (hn : N39 x0 h K) : C39 x0 h K := by
  refine calls_of_D Tryd.func39 (c := B39) rfl (by kernel_rfl) ?_
  refine den_sound hE hm _ .leaf _ _ _ (annOk_leaf) ?_
  refine cast ?_ hn
  kernel_rfl
end Go.Proofs.YtlioifgejijcoaaDoor
